import Derived.Test.YtinkdjjffjnpeaaTW5
namespace Go.Abs
open Go.Proofs
set_option linter.unusedSimpArgs false
set_option linter.unusedVariables false

/-! ### hist.flow -/
/-- bounds on a histogram's shape -/
def stays (h : Hist) (tick w : Nat) : List (List Span) := flowV h.k 0 h.levels (List.replicate w ⟨tick, tick⟩)

theorem w_hist_flow (h : Hist) (tick w : Nat) : Holds Try.prog F_hist_Hist_flow [.agg (cellsHist h), .x (u64 tick), .x (u64 w)] (fun x => x = .c (.x (.fn (.func F_hist_Hist_flow_1) [.fp [[u64 w]] 0 0, .fp [cellsHist h] 0 0, .fp [[u64 tick]] 0 0]))) := by
  apply Holds_fin fn_hist_Hist_flow (by simp) 0
  unfold ac_hist_Hist_flow
  simp

def flowL (h : Hist) (tick id : Nat) (p : Nat × HP × Nat × List Span × Nat) : St :=
  ⟨ofL [(0, .c (.x (.yl id))), (2, Fp [cellsHist h] 0 0), (3, Fp [[u64 tick]] 0 0), (5, .c (.x (encLevel p.2.2.2.1))), (6, I .u64 p.2.2.2.2), (7, I .i64 p.1)], p.2.1, p.2.2.1, []⟩

theorem most_le (k : Int) (i : Nat) (h : k ≤ 268435456) : most k i ≤ 536870912 := by unfold most; split <;> omega

theorem flowV_nil (k : Int) (i : Nat) (C : List Span) (h : C ≠ []) : flowV k i [] C = pushStay C (mostN k i) :: flowV k (i + 1) [] (pushGo C (mostN k i)) := by
  rw [flowV]; simp [h]

/-- a round of the flow -/
theorem flow_step (k : Int) (ls : List (List Span)) (j : Nat) (come : List Span) (many tick : Nat) (h : j < ls.length ∨ 0 < come.length ∨ 0 < many) :
    flowV k j (ls.drop j) (vir come many tick) = pushStay (vir (ls.getD j [] ++ come) many tick) (mostN k j) :: flowV k (j + 1) (ls.drop (j + 1)) (pushGo (vir (ls.getD j [] ++ come) many tick) (mostN k j)) := by
  by_cases hj : j < ls.length
  · rw [List.drop_eq_getElem_cons hj, flowV]
    simp [vir, hj]
  · rw [List.drop_eq_nil_of_le (by omega), List.drop_eq_nil_of_le (by omega), flowV_nil]
    · simp [vir, List.getElem?_eq_none (show ls.length ≤ j by omega)]
    · intro e
      have := congrArg List.length e
      rw [vir_len] at this
      simp at this
      obtain ⟨h1, h2⟩ := this
      subst h1
      simp at h
      omega

theorem c_flow_it (h : Hist) (tick w : Nat) (hs : Small h) (hw : w ≤ 576460752303423488) {id : Nat} {Inv : Nat → HP → Nat → Prop} {H : HP} {nx : Nat} {K : KT} (h0 : Inv 0 H nx)
    (hy : ∀ j H nx l K, (stays h tick w)[j]? = some l → Inv j H nx → (∀ H' nx', Inv (j + 1) H' nx' → K (Bo true) H' nx') → AYield Try.prog id [.x (encLevel l)] H nx K)
    (hK : ∀ H nx, Inv (stays h tick w).length H nx → K (.tup []) H nx) : ACall Try.prog F_hist_Hist_flow_1 [.x (.yl id), .x (.fp [[u64 w]] 0 0), .x (.fp [cellsHist h] 0 0), .x (.fp [[u64 tick]] 0 0)] H nx K := by
  apply ACall_body fn_hist_Hist_flow_1 (by simp)
  unfold ac_hist_Hist_flow_1
  simp
  have hl := hs.len
  have hk := hs.k1
  have hT := flowV_len h.k 60 0 h.levels (List.replicate w ⟨tick, tick⟩) (by simp; omega) (fun l hl => by have := hs.lev l hl; simp; omega)
  refine wpc_loop' (flowL h tick id) (fun p => Inv p.1 p.2.1 p.2.2.1 ∧ p.1 ≤ (stays h tick w).length ∧ flowV h.k p.1 (h.levels.drop p.1) (vir p.2.2.2.1 p.2.2.2.2 tick) = (stays h tick w).drop p.1 ∧ p.2.2.2.1.length ≤ 268435456 ∧ p.2.2.2.2 ≤ 576460752303423488)
    (fun p => (stays h tick w).length - p.1) (0, H, nx, [], w) (by simp [h0, vir, stays, hw]) (SLe.ofL2 (by simp [encLevel]) (by simp) (by simp) rfl) fun p hi => ?_
  obtain ⟨j, H, nx, come, many⟩ := p
  obtain ⟨i1, i2, i3, i4, i5⟩ := hi
  simp only at i1 i2 i3 i4 i5
  have hjb : j < 9223372036854775807 := by have : (stays h tick w).length ≤ 60 + 268435456 := by unfold stays; omega
                                           omega
  simp only [acl_hist_Hist_flow_1_0, flowL]
  rw [wpc_seq]
  generalize hR : seqQ Try.prog 58 (ACode.seq _ _) _ = R
  have tail : (j < h.levels.length ∨ 0 < come.length ∨ 0 < many) → ∀ tm : Nat → AV, tm 0 = .c (.x (.yl id)) → tm 2 = Fp [cellsHist h] 0 0 → tm 3 = Fp [[u64 tick]] 0 0 → tm 5 = .c (.x (encLevel come)) → tm 6 = I .u64 many → tm 7 = I .i64 j → R .normal ⟨tm, H, nx, []⟩ := by
    intro hgo tm t0 t2 t3 t5 t6 t7
    subst hR
    have hst := flow_step h.k h.levels j come many tick hgo
    rw [i3] at hst
    have hjlt : j < (stays h tick w).length := by
      have := congrArg List.length hst
      simp at this; omega
    rw [List.drop_eq_getElem_cons hjlt] at hst
    injection hst with hst1 hst2
    rw [pushGo_vir] at hst2
    generalize hl0 : h.levels.getD j [] = l0 at *
    have hl0l : l0.length ≤ 268435456 := by
      rw [← hl0]
      by_cases hj : j < h.levels.length
      · simp [hj]; exact hs.lev _ (List.getElem_mem _)
      · simp [List.getElem?_eq_none (show h.levels.length ≤ j by omega)]
    have hm1 := most_le h.k j hk
    have hm0 := most_pos h.k j
    have hPush := w_level_Push l0 come (most h.k j) many tick (by omega) (by omega) hm1 (by omega)
    rw [show (most h.k j).toNat = mostN h.k j from rfl] at hPush
    rw [← hst1] at hPush
    have hb1 : ((pushGo (vir (l0 ++ come) many tick) (mostN h.k j)).take (nout (l0 ++ come).length (npairs ((l0 ++ come).length + many) (mostN h.k j)))).length ≤ 268435456 := by
      simp [nout]; omega
    have hb2 : npairs ((l0 ++ come).length + many) (mostN h.k j) - nout (l0 ++ come).length (npairs ((l0 ++ come).length + many) (mostN h.k j)) ≤ 576460752303423488 := by
      have := npairs_half ((l0 ++ come).length + many) (mostN h.k j)
      simp at this ⊢; omega
    generalize (pushGo (vir (l0 ++ come) many tick) (mostN h.k j)).take _ = come' at *
    generalize npairs ((l0 ++ come).length + many) (mostN h.k j) - _ = many' at *
    have ew : IntKind.i64.wrap ((j : Int) + 1) = j + 1 := wI (by omega) (by omega)
    by_cases hj : j < h.levels.length
    · have : l0 = h.levels[j] := by rw [← hl0]; simp [hj]
      subst this
      simp [t0, t2, t3, t5, t6, t7, hj]
      refine ⟨_, w_level_Most h.k j hs.k0 (by omega) (by omega), ?_⟩
      simp
      refine ⟨_, hPush, ?_⟩
      simp [t0, t2, t3, t5, t6, t7]
      refine hy j H nx _ _ (by simp [hjlt]) i1 fun H' nx' hi' => ?_
      simp [t0, t2, t3, t5, t6, t7]
      exact lpQ_next (j + 1, H', nx', come', many') ⟨hi', by simp only; omega, hst2.symm, hb1, hb2⟩ (SLe.ofL2 (by simp [t0, t2, t3, ew]) (by simp) (by simp) rfl) (by simp only; omega)
    · have : l0 = [] := by rw [← hl0]; simp [List.getElem?_eq_none (show h.levels.length ≤ j by omega)]
      subst this
      simp [t0, t2, t3, t5, t6, t7, hj]
      refine ⟨_, w_level_Most h.k j hs.k0 (by omega) (by omega), ?_⟩
      simp
      refine ⟨_, Holds.wk_args 2 hPush (by simp), ?_⟩
      simp [t0, t2, t3, t5, t6, t7]
      refine hy j H nx _ _ (by simp [hjlt]) i1 fun H' nx' hi' => ?_
      simp [t0, t2, t3, t5, t6, t7]
      exact lpQ_next (j + 1, H', nx', come', many') ⟨hi', by simp only; omega, hst2.symm, hb1, hb2⟩ (SLe.ofL2 (by simp [t0, t2, t3, ew]) (by simp) (by simp) rfl) (by simp only; omega)
  have out : (¬ (j < h.levels.length ∨ 0 < come.length ∨ 0 < many)) → ∀ tm : Nat → AV, R (.exit 0) ⟨tm, H, nx, []⟩ := by
    intro hgo tm
    subst hR
    have e1 : h.levels.drop j = [] := List.drop_eq_nil_of_le (by omega)
    have e2 : come = [] := List.eq_nil_of_length_eq_zero (by omega)
    have e3 : many = 0 := by omega
    subst e2 e3
    rw [e1] at i3
    simp [vir, flowV] at i3
    have : j = (stays h tick w).length := by omega
    subst this
    simp
    exact hK H nx i1
  by_cases hc : 0 < come.length
  · simp [hc]
    exact tail (by simp [hc]) _ (by simp) (by simp) (by simp) (by simp) (by simp) (by simp)
  · by_cases hm : 0 < many
    · simp [hc, hm]
      exact tail (by simp [hm]) _ (by simp) (by simp) (by simp) (by simp) (by simp) (by simp)
    · by_cases hj : j < h.levels.length
      · simp [hc, hm, hj]
        exact tail (by simp [hj]) _ (by simp) (by simp) (by simp) (by simp) (by simp) (by simp)
      · simp [hc, hm, hj]
        exact out (by simp [hc, hm, hj]) _
end Go.Abs
