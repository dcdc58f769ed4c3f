import Derived.Test.YtinkdjjffjnpeaaTW8
namespace Go.Abs
open Go.Proofs
set_option linter.unusedSimpArgs false
set_option linter.unusedVariables false

/-! ### the reference's level 6 -/
def L_ref06_Total (h : Hist) (i : Nat) : St := ⟨ofL [(1, Pt 0 0 0), (3, I .u64 (tot h.levels i)), (4, I .i64 i)], hset H0 0 (.blk 3 [cellsHist h] true true), 1, []⟩
theorem w_ref06_Total (h : Hist) (hb : h.levels.length < 4611686018427387904) : Holds Try.prog F_skylightref06_Total [.agg (cellsHist h)] (fun x => x = I .u64 (tot h.levels h.levels.length)) := by
  apply Holds_fin fn_skylightref06_Total (by simp) 1
  unfold ac_skylightref06_Total
  simp
  refine wpc_loop' (L_ref06_Total h) (fun i => i ≤ h.levels.length) (fun i => h.levels.length - i) 0 (by simp) (SLe.ofL (by simp [tot]) (by simp) (by simp) rfl) fun i hi => ?_
  simp only [acl_skylightref06_Total_0, L_ref06_Total]
  by_cases hlt : i < h.levels.length
  · have hg : h.levels[i]?.getD [] = h.levels[i] := by simp [hlt]
    simp [hlt]
    refine lpQ_next (i + 1) (by omega) (SLe.ofL ?_ (by simp [L_ref06_Total]) (by simp) rfl) (by omega)
    simp [wrapU, tot, hg, IntKind.bits, wrapI (n := (i : Int) + 1) (by omega) (by omega)]
  · have : i = h.levels.length := by omega
    subst this
    simp

theorem w_ref06_Last (h : Hist) (hb : (h.levels.headD []).length < 4611686018427387904) : Holds Try.prog F_skylightref06_Last [.agg (cellsHist h)] (fun x => x = .tup [.x (u64 (lastOf h.levels).1), .x (.v (.bool (lastOf h.levels).2))]) := by
  apply Holds_fin fn_skylightref06_Last (by simp) 1
  unfold ac_skylightref06_Last
  obtain ⟨k, gen, ls⟩ := h
  cases ls with
  | nil => simp [lastOf]
  | cons l r =>
    cases l with
    | nil => simp [lastOf]
    | cons a tl =>
      simp at hb
      have e1 : IntKind.i64.wrap (tl.length : Int) = tl.length := wrapI (by omega) (by omega)
      have e2 : (encSpan a :: List.map encSpan tl)[tl.length]'(by simp) = encSpan ((a :: tl)[tl.length]'(by simp)) := List.getElem_map (l := a :: tl) encSpan
      have e3 : (a :: tl).getLast? = some ((a :: tl)[tl.length]'(by simp)) := by rw [List.getLast?_eq_getElem?]; simp
      simp [lastOf, e1, e2, e3]

abbrev encRows9 (l : List (List Span)) : List (List AL) := l.map fun l => [encLevel l]
def AddJ (k gen : Int) (S : List (List Span)) (b0 : HO) (b1 : HO) (j : Nat) (H : HP) (nx : Nat) : Prop :=
  3 ≤ nx ∧ H 0 = b0 ∧ H 1 = b1 ∧ ((j = 0 ∧ H 2 = .blk 3 [[i64 k, i64 gen, .sl true []]] true true) ∨
    ∃ lid, 3 ≤ lid ∧ lid < nx ∧ H 2 = .blk 3 [[i64 k, i64 gen, .ow lid 0 j false]] true false ∧ H lid = .blk 1 (encRows9 (S.take j)) true true)

def raL (tick : Nat) (p : Nat × HP × Nat × List Span × Nat) : St :=
  ⟨ofL [(1, .c (.x (u64 tick))), (3, Pt 0 0 0), (6, Pt 1 0 0), (10, Pt 2 0 0), (11, .c (.x (encLevel p.2.2.2.1))), (12, I .u64 p.2.2.2.2), (13, I .i64 p.1)], p.2.1, p.2.2.1, []⟩

theorem l_ref06_Add_0 (h : Hist) (tick w : Nat) (hs : Small h) (hw : w ≤ 576460752303423488) (b1 : HO) {H : HP} {nx : Nat} {Q : AOut → St → Prop} (h0 : AddJ h.k h.gen (stays h tick w) (.blk 3 [cellsHist h] true true) b1 0 H nx)
    (hQ : ∀ tm H nx, tm 3 = Pt 0 0 0 → tm 6 = Pt 1 0 0 → tm 10 = Pt 2 0 0 → AddJ h.k h.gen (stays h tick w) (.blk 3 [cellsHist h] true true) b1 (stays h tick w).length H nx → Q (.exit 0) ⟨tm, H, nx, []⟩) :
    wpc Try.prog 92 (.loop acl_skylightref06_Add_0) (raL tick (0, H, nx, [], w)) Q := by
  have hl := hs.len
  have hk := hs.k1
  have hT := flowV_len h.k 60 0 h.levels (List.replicate w ⟨tick, tick⟩) (by simp; omega) (fun l hl => by have := hs.lev l hl; simp; omega)
  have hT' : (stays h tick w).length ≤ 60 + 268435456 := by unfold stays; omega
  refine wpc_loop' (raL tick) (fun p => AddJ h.k h.gen (stays h tick w) (.blk 3 [cellsHist h] true true) b1 p.1 p.2.1 p.2.2.1 ∧ p.1 ≤ (stays h tick w).length ∧ flowV h.k p.1 (h.levels.drop p.1) (vir p.2.2.2.1 p.2.2.2.2 tick) = (stays h tick w).drop p.1 ∧ p.2.2.2.1.length ≤ 268435456 ∧ p.2.2.2.2 ≤ 576460752303423488)
    (fun p => (stays h tick w).length - p.1) (0, H, nx, [], w) ⟨h0, by simp, by simp [vir, stays], by simp, hw⟩ (SLe.refl _) fun p hi => ?_
  obtain ⟨j, H, nx, come, many⟩ := p
  obtain ⟨i1, i2, i3, i4, i5⟩ := hi
  simp only at i1 i2 i3 i4 i5
  simp only [acl_skylightref06_Add_0, raL]
  rw [wpc_seq]
  generalize hR : seqQ Try.prog 92 (ACode.seq _ _) _ = R
  have hH0 : H 0 = .blk 3 [cellsHist h] true true := i1.2.1
  have tail : (j < h.levels.length ∨ 0 < come.length ∨ 0 < many) → ∀ tm : Nat → AV, tm 1 = .c (.x (u64 tick)) → tm 3 = Pt 0 0 0 → tm 6 = Pt 1 0 0 → tm 10 = Pt 2 0 0 → tm 11 = .c (.x (encLevel come)) → tm 12 = I .u64 many → tm 13 = I .i64 j → R .normal ⟨tm, H, nx, []⟩ := by
    intro hgo tm t1 t3 t6 t10 t11 t12 t13
    subst hR
    have hst := flow_step h.k h.levels j come many tick hgo
    rw [i3] at hst
    have hjlt : j < (stays h tick w).length := by
      have := congrArg List.length hst
      simp at this; omega
    have htk := take_snoc (stays h tick w) j _ (List.getElem?_eq_getElem hjlt)
    have htk' : encRows9 ((stays h tick w).take (j + 1)) = encRows9 ((stays h tick w).take j) ++ [[encLevel (stays h tick w)[j]]]   := by rw [htk]; simp only [encRows9, List.map_append, List.map_cons, List.map_nil]
    rw [List.drop_eq_getElem_cons hjlt] at hst
    injection hst with hst1 hst2
    rw [pushGo_vir] at hst2
    generalize hl0 : h.levels.getD j [] = l0 at *
    have hl0l : l0.length ≤ 268435456 := by
      rw [← hl0]
      by_cases hj : j < h.levels.length
      · simp [hj]; exact hs.lev _ (List.getElem_mem _)
      · simp [List.getElem?_eq_none (show h.levels.length ≤ j by omega)]
    have hm1 := most_le h.k j hk
    have hm0 := most_pos h.k j
    have hPush := w_ref05_Push l0 come (most h.k j) many tick (by omega) hm1 (by omega)
    rw [show (most h.k j).toNat = mostN h.k j from rfl] at hPush
    rw [← hst1] at hPush
    have hb1 : ((pushGo (vir (l0 ++ come) many tick) (mostN h.k j)).take (nout (l0 ++ come).length (npairs ((l0 ++ come).length + many) (mostN h.k j)))).length ≤ 268435456 := by
      simp [nout]; omega
    have hb2 : npairs ((l0 ++ come).length + many) (mostN h.k j) - nout (l0 ++ come).length (npairs ((l0 ++ come).length + many) (mostN h.k j)) ≤ 576460752303423488 := by
      have := npairs_half ((l0 ++ come).length + many) (mostN h.k j)
      simp at this ⊢; omega
    generalize (pushGo (vir (l0 ++ come) many tick) (mostN h.k j)).take _ = come' at *
    generalize npairs ((l0 ++ come).length + many) (mostN h.k j) - _ = many' at *
    have ew : IntKind.i64.wrap ((j : Int) + 1) = j + 1 := wI (by omega) (by omega)
    have hat := w_ref06_at h j (by omega)
    rw [hl0] at hat
    obtain ⟨k1, k2, k3, k4⟩ := i1
    simp [t1, t3, t6, t10, t11, t12, t13, hH0]
    refine ⟨_, hat, ?_⟩
    simp [t1, t3, t6, t10, t11, t12, t13, hH0]
    refine ⟨_, w_ref05_Most h.k j hs.k0 (by omega), ?_⟩
    simp [t1, t3, t6, t10, t11, t12, t13, hH0]
    refine ⟨_, hPush, ?_⟩
    have z0 : 0 < nx := by omega
    have z1 : 1 < nx := by omega
    have z2 : 2 < nx := by omega
    rcases k4 with ⟨rfl, k5⟩ | ⟨lid, k5, k6, k7, k8⟩
    · simp [t1, t3, t6, t10, t11, t12, t13, k5, ltne z2, ew]
      refine lpQ_next (1, _, nx + 2, come', many') ⟨⟨by simp only; omega, ?_, ?_, .inr ⟨nx + 1, by omega, by simp only; omega, ?_, ?_⟩⟩, by simp only; omega, hst2.symm, hb1, hb2⟩ (SLe.ofL2 (by simp [t1, t3, t6, t10]) (fun id => .inl rfl) (by simp) rfl) (by simp only; omega)
      · simp [k2] <;> grind
      · simp [k3] <;> grind
      · simp [ltne z2]
      · simp [ltne z2, htk]
    · have hl2 : lid ≠ 2 := by omega
      have e2 : ((stays h tick w).take j).length = j := by simp; omega
      simp [t1, t3, t6, t10, t11, t12, t13, k7, k8, ltne z2, ltne k6, hl2, hl2.symm, e2, List.take_of_length_le, ew]
      repeat (refine ⟨by omega, ?_⟩)
      refine lpQ_next (j + 1, _, nx + 2, come', many') ⟨⟨by simp only; omega, ?_, ?_, .inr ⟨nx + 1, by omega, by simp only; omega, ?_, ?_⟩⟩, by simp only; omega, hst2.symm, hb1, hb2⟩ (SLe.ofL2 (by simp [t1, t3, t6, t10]) (fun id => .inl rfl) (by simp) rfl) (by simp only; omega)
      · simp [k2] <;> grind
      · simp [k3] <;> grind
      · simp [ltne z2]
      · simp only; rw [htk']; simp [ltne z2, List.take_take]
  have out : (¬ (j < h.levels.length ∨ 0 < come.length ∨ 0 < many)) → ∀ tm : Nat → AV, tm 3 = Pt 0 0 0 → tm 6 = Pt 1 0 0 → tm 10 = Pt 2 0 0 → R (.exit 0) ⟨tm, H, nx, []⟩ := by
    intro hgo tm t3 t6 t10
    subst hR
    have e1 : h.levels.drop j = [] := List.drop_eq_nil_of_le (by omega)
    have e2 : come = [] := List.eq_nil_of_length_eq_zero (by omega)
    have e3 : many = 0 := by omega
    subst e2 e3
    rw [e1] at i3
    simp [vir, flowV] at i3
    have : j = (stays h tick w).length := by omega
    subst this
    simp
    exact hQ tm H nx t3 t6 t10 i1
  by_cases hc : 0 < come.length
  · simp [hc]
    exact tail (by simp [hc]) _ (by simp) (by simp) (by simp) (by simp) (by simp) (by simp) (by simp)
  · by_cases hm : 0 < many
    · simp [hc, hm]
      exact tail (by simp [hm]) _ (by simp) (by simp) (by simp) (by simp) (by simp) (by simp) (by simp)
    · by_cases hj : j < h.levels.length
      · simp [hc, hm, hj, hH0]
        exact tail (by simp [hj]) _ (by simp) (by simp) (by simp) (by simp) (by simp) (by simp) (by simp)
      · simp [hc, hm, hj, hH0]
        exact out (by simp [hc, hm, hj]) _ (by simp) (by simp) (by simp)
theorem w_ref06_Add (h : Hist) (tick w : Nat) (hs : Small h) (ht : totN 0 h.levels ≤ 4503599627370496) (hw : w < 18446744073709551616) (htk : tick < 18446744073709551616) :
    Holds Try.prog F_skylightref06_Add [.agg (cellsHist h), .x (u64 tick), .x (u64 w)] (fun x => x = .tup [.agg (cellsHist (addM h tick w).1), .x (i64 (addM h tick w).2)]) := by
  have hlen := hs.len
  apply Holds_fin fn_skylightref06_Add (by simp) 3
  unfold ac_skylightref06_Add
  have hlast : (h.levels.headD []).length < 4611686018427387904 := by
    cases hh : h.levels with
    | nil => simp
    | cons l r => have := hs.lev l (by simp [hh]); simp; omega
  by_cases h0 : w = 0
  · subst h0
    simp [addM]
  have h0' : ((w : Int) == 0) = false := by simp; omega
  simp [h0]
  refine ACall_pl (w_ref06_Last h hlast) (by simp) ?_
  generalize hq : lastOf h.levels = q
  obtain ⟨lt, lb⟩ := q
  simp
  by_cases h1 : 9223372036854775807 < tick
  · have h1' : (9223372036854775807 : Int) < tick := by omega
    simp [h0, h1, h1', addM]
  have h1' : ¬ (9223372036854775807 : Int) < tick := by omega
  generalize hQ : seqQ Try.prog 92 _ _ = Q
  have hadd : ¬ (lb = true ∧ tick < lt) → addM h tick w = if 4503599627370496 < w + totN 0 h.levels then (⟨0, 0, []⟩, 5) else (⟨h.k, h.gen, stays h tick w⟩, 0) := fun h2 => by
    rw [addM, if_neg h0, if_neg (by rw [hq]; exact fun e => e.elim h1 h2)]; rfl
  -- behind the looks
  have three : (¬ (lb = true ∧ tick < lt)) → ∀ tm : Nat → AV, tm 1 = .c (.x (u64 tick)) → tm 2 = .c (.x (u64 w)) → tm 3 = Pt 0 0 0 → tm 6 = Pt 1 0 0 → tm 7 = I .i64 0 → tm 34 = Bo false →
      Q .normal ⟨tm, hset (hset H0 0 (.blk 3 [cellsHist h] true true)) 1 (.blk 3 [[i64 0, i64 0, .sl true []]] true true), 2, []⟩ := by
    intro h2 tm t1 t2 t3 t6 t7 t34
    have hadd := hadd h2
    subst hQ
    have hT := tot_all h.levels (by omega)
    by_cases h4 : 4503599627370496 < w
    · have h4' : (4503599627370496 : Int) < w := by omega
      have h3 : 4503599627370496 < w + totN 0 h.levels := by omega
      simp [t1, t2, t3, t6, t7, t34, h4', hadd, h3]
    · have h4' : ¬ (4503599627370496 : Int) < w := by omega
      simp [t1, t2, t3, t6, t7, t34, h4', Int.not_lt.1 h4']
      refine ACall_pl (w_ref06_Total h (by omega)) (by simp) ?_
      rw [hT]
      have e1 : IntKind.u64.wrap ((w : Int) + (totN 0 h.levels : Int)) = w + totN 0 h.levels := wU (by omega) (by omega)
      simp [t1, t2, t3, t6, t7, e1]
      by_cases h3 : 4503599627370496 < w + totN 0 h.levels
      · have h3' : (4503599627370496 : Int) < w + totN 0 h.levels := by omega
        simp [h3', Int.not_le.2 h3', t1, t2, t3, t6, t7, hadd, h3]
      · have h3' : ¬ (4503599627370496 : Int) < w + totN 0 h.levels := by omega
        simp [h3', Int.not_lt.1 h3', t1, t2, t3, t6, t7, hadd, h3]
        refine wpc_loop_le (SLe.ofL2 (kv := [(1, .c (.x (u64 tick))), (3, Pt 0 0 0), (6, Pt 1 0 0), (10, Pt 2 0 0), (11, .c (.x (encLevel []))), (12, I .u64 w), (13, I .i64 (0 : Nat))]) (nx := 3) (df := []) (by simp [t1, t2, t3, t6, t7, encLevel]) (fun id => .inl rfl) (by simp) rfl) ?_
        refine l_ref06_Add_0 h tick w hs (by omega) (.blk 3 [[i64 0, i64 0, .sl true []]] true true) ⟨by omega, by simp, by simp, .inl ⟨rfl, by simp⟩⟩ fun tm H nx t3 t6 t10 hI => ?_
        obtain ⟨i1, i2, i3, i5⟩ := hI
        rcases i5 with ⟨hj, i5⟩ | ⟨lid, i5, i6, i7, i8⟩
        · have : stays h tick w = [] := List.eq_nil_of_length_eq_zero hj
          simp [t1, t2, t3, t6, t7, t10, i3, i5, this]
        · have hl1 : lid ≠ 1 := by omega
          simp [t1, t2, t3, t6, t7, t10, i3, i7, i8, hl1]
  cases lb with
  | false =>
    simp [h0, h1, h1']
    exact three (by simp) _ (by simp) (by simp) (by simp) (by simp) (by simp) (by simp)
  | true =>
    by_cases h2 : tick < lt
    · have h2' : (tick : Int) < lt := by omega
      subst hQ
      simp [h0, h1, h1', h2, h2', addM, hq]
    · have h2' : ¬ (tick : Int) < lt := by omega
      simp [h0, h1, h1', h2']
      exact three (by simp [h2]) _ (by simp) (by simp) (by simp) (by simp) (by simp) (by simp)
end Go.Abs
