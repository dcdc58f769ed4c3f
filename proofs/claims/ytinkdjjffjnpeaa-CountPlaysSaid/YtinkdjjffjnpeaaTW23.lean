import Derived.Test.YtinkdjjffjnpeaaTW22
namespace Go.Abs
open Go.Proofs
set_option linter.unusedSimpArgs false
set_option linter.unusedVariables false

theorem partS_b (tick span : Nat) (l : List (Span × Nat)) : partS tick span l < 18446744073709551616 := by
  rw [← List.reverse_reverse l]
  induction l.reverse with
  | nil => simp [partS]
  | cons p r ih => rw [List.reverse_cons, partS_snoc]; split <;> omega
theorem partC_b (tick span : Nat) (l : List (Span × Nat)) : partC tick span l < 18446744073709551616 := by
  rw [← List.reverse_reverse l]
  induction l.reverse with
  | nil => simp [partC]
  | cons p r ih => rw [List.reverse_cons, partC_snoc]; split
                   · exact ih
                   · split <;> omega
theorem w_Of (h : Hist) (tick span : Nat) (hb : tick < 18446744073709551616) (hl : h.levels.length < 4611686018427387904) (hl2 : ∀ l ∈ h.levels, l.length < 4611686018427387904) :
    Holds Try.prog F_estimate_Of [.agg (cellsHist h), .x (u64 tick), .x (u64 span)] (fun x => x = .c (.x (u64 (estOf h tick span)))) := by
  apply Holds_fin fn_estimate_Of (by simp) 2
  unfold ac_estimate_Of
  simp
  refine ACall_pl (w_Parts h tick span hb hl hl2) (by simp) ?_
  have e : ∀ a b : Nat, IntKind.u64.wrap ((a : Int) + (b : Int) / 2) = (((a + b / 2) % 18446744073709551616 : Nat) : Int) := fun a b => by rw [wrapU]; omega
  have hc := partC_b tick span (bks 0 h.levels)
  have ef : ∀ c : Nat, (c : Int).fdiv (2 ^ min 1 IntKind.u64.bits) = (c : Int) / 2 := fun c => by
    show (c : Int).fdiv (2 ^ 1) = _
    rw [Int.fdiv_eq_ediv_of_nonneg _ (by decide)]; rfl
  simp [estOf, ef]
  rw [wrapU]
theorem w_scan_weight (e : Ev) : Holds Try.prog F_scan_weight [.agg (encEv e)] (fun x => x = .c (.x (u64 e.weight))) := by
  apply Holds_fin fn_scan_weight (by simp) 1
  unfold ac_scan_weight
  simp [encEv]
theorem c_within_1 {H : HP} {nx : Nat} {e : Ev} {tick span : Nat} {K : KT} (hb : tick < 18446744073709551616) (hK : K (Bo (scanB tick span e.tick)) (hset H nx (.blk 3 [encEv e] true true)) (nx + 1)) :
    ACall Try.prog F_scan_within_1 [.agg (encEv e), .x (.fp [[u64 tick]] 0 0), .x (.fp [[u64 span]] 0 0)] H nx K := by
  apply ACall_body fn_scan_within_1 (by simp)
  unfold ac_scan_within_1
  by_cases h0 : e.tick ≤ tick
  · by_cases h1 : tick < span
    · have : scanB tick span e.tick = true := by simp [scanB, h0, h1]
      rw [this] at hK
      simp [encEv, h0, h1]
      exact hK
    · have e' : IntKind.u64.wrap (tick - span : Int) = ((tick - span : Nat) : Int) := by rw [wU (by omega) (by omega)]; omega
      have : scanB tick span e.tick = decide (tick - span < e.tick) := by simp [scanB, h0, h1]
      rw [this] at hK
      simp [encEv, h0, h1, e', Nat.not_lt.1 h1]
      exact hK
  · have : scanB tick span e.tick = false := by simp [scanB, h0]
    rw [this] at hK
    simp [encEv, h0]
    exact hK
theorem w_within (tick span : Nat) : Holds Try.prog F_scan_within [.x (u64 tick), .x (u64 span)] (fun x => x = .c (.x (.fn (.func F_scan_within_1) [.fp [[u64 tick]] 0 0, .fp [[u64 span]] 0 0]))) := by
  apply Holds_fin fn_scan_within (by simp) 2
  unfold ac_scan_within
  simp
theorem w_scan_sum (es : List Ev) (tick span : Nat) (hb : tick < 18446744073709551616) (hl : es.length < 4611686018427387904) :
    Holds Try.prog F_scan_sum_api_Event [.x (encEvs es), .x (.fn (.func F_scan_within_1) [.fp [[u64 tick]] 0 0, .fp [[u64 span]] 0 0]), .x (.fn (.func F_scan_weight) [])] (fun x => x = .c (.x (u64 (scanS tick span es)))) := by
  apply Holds_fin fn_scan_sum_api_Event (by simp) 2
  unfold ac_scan_sum_api_Event
  simp
  refine wpc_loop' (fun p : Nat × HP × Nat => ⟨ofL [(1, .c (.x (.fn (.func F_scan_within_1) [.fp [[u64 tick]] 0 0, .fp [[u64 span]] 0 0]))), (2, .c (.x (.fn (.func F_scan_weight) []))), (7, .c (.x (u64 (scanS tick span (es.take p.1))))), (10, .c (.x (encEvs es))), (11, I .i64 es.length), (12, I .i64 p.1)], H0, p.2.2, []⟩)
    (fun p => p.1 ≤ es.length) (fun p => es.length - p.1) (0, H0, 0) (by simp) (SLe.ofL (by simp [scanS]) (by simp) (by simp) rfl) fun p hi => ?_
  obtain ⟨i, H, nx⟩ := p
  simp only at hi
  simp only [acl_scan_sum_api_Event_0]
  by_cases hlt : i < es.length
  · have ew : IntKind.i64.wrap ((i : Int) + 1) = i + 1 := wI (by omega) (by omega)
    have hs := scanS_snoc tick span (es.take i) es[i]
    have htk : es.take (i + 1) = es.take i ++ [es[i]] := by rw [List.take_add_one, List.getElem?_eq_getElem hlt]; rfl
    rw [← htk] at hs
    generalize hS : scanS tick span (es.take i) = S at hs
    simp [hlt, encEvs]
    refine c_within_1 hb ?_
    cases hw : scanB tick span es[i].tick with
    | true =>
      simp [hw] at hs
      simp
      refine ACall_pl (w_scan_weight es[i]) (by simp [encEv]) ?_
      simp [ew, wrapU]
      exact lpQ_next (i + 1, H0, nx + 2) (show i + 1 ≤ es.length by omega) (SLe.ofL (by simp [hs]) (by intro k; simp <;> grind [H0]) (by simp) rfl) (show es.length - (i + 1) < es.length - i by omega)
    | false =>
      simp [hw] at hs
      simp [ew]
      exact lpQ_next (i + 1, H0, nx + 2) (show i + 1 ≤ es.length by omega) (SLe.ofL (by simp [hs]) (by intro k; simp <;> grind [H0]) (by simp) rfl) (show es.length - (i + 1) < es.length - i by omega)
  · have : i = es.length := by omega
    subst this
    simp
theorem w_scan_Sum (es : List Ev) (tick span : Nat) (hb : tick < 18446744073709551616) (hl : es.length < 4611686018427387904) :
    Holds Try.prog F_scan_Sum [.x (encEvs es), .x (u64 tick), .x (u64 span)] (fun x => x = .c (.x (u64 (scanS tick span es)))) := by
  apply Holds_fin fn_scan_Sum (by simp) 2
  unfold ac_scan_Sum
  simp
  refine ACall_pl (w_within tick span) (by simp) ?_
  simp
  refine ACall_pl (w_scan_sum es tick span hb hl) (by simp) ?_
  simp
theorem w_count_Query (s : Cnt) (tick span : Nat) (hb : tick < 18446744073709551616) (h1 : s.wait.events.length < 4611686018427387904) (hl : s.past.levels.length < 4611686018427387904) (hl2 : ∀ l ∈ s.past.levels, l.length < 4611686018427387904) :
    Holds Try.prog F_count_Query [.agg (cellsCnt s), .x (u64 tick), .x (u64 span)] (fun x => x = .tup [.x (u64 (queryC s tick span).1), .x (i64 (queryC s tick span).2)]) := by
  apply Holds_fin fn_count_Query (by simp) 2
  unfold ac_count_Query
  by_cases c1 : tick < s.wait.front
  · have hq : queryC s tick span = (0, 6) := by simp [queryC, c1]
    simp [hq, cellsCnt, c1]
  by_cases c2 : 9223372036854775807 < tick
  · have hq : queryC s tick span = (0, 6) := by simp [queryC, c2]
    have c2' : (9223372036854775807 : Int) < tick := by omega
    simp [hq, cellsCnt, c1, Nat.not_lt.1 c1, c2', Int.not_le.2 c2']
  have c2' : ¬ (9223372036854775807 : Int) < tick := by omega
  by_cases c3 : span = 0
  · have hq : queryC s tick span = (0, 8) := by simp [queryC, c1, c2, c3]
    subst c3
    simp [hq, cellsCnt, c1, Nat.not_lt.1 c1, c2', Int.not_lt.1 c2']
  have c3b : ((span : Int) == 0) = false := by simpa using c3
  by_cases c4 : s.window < span
  · have hq : queryC s tick span = (0, 8) := by simp [queryC, c1, c2, c4]
    simp [hq, cellsCnt, c1, Nat.not_lt.1 c1, c2', Int.not_lt.1 c2', c3, c3b, c4, Nat.not_le.2 c4]
  have hq : queryC s tick span = ((estOf s.past tick span + scanS tick span s.wait.events) % 18446744073709551616, 0) := by simp [queryC, c1, c2, c3, c4]
  rw [hq]
  simp [cellsCnt, c1, Nat.not_lt.1 c1, c2', Int.not_lt.1 c2', c3, c3b, c4, Nat.not_lt.1 c4]
  refine ⟨_, w_Of s.past tick span hb hl hl2, ?_⟩
  refine ⟨_, w_scan_Sum s.wait.events tick span hb h1, ?_⟩
  simp
  rw [wrapU]
end Go.Abs
