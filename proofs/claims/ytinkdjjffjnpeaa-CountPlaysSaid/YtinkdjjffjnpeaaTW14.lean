import Derived.Test.YtinkdjjffjnpeaaTW13
namespace Go.Abs
open Go.Proofs
set_option linter.unusedSimpArgs false
set_option linter.unusedVariables false

/-! ### slices of events -/
def idxF (es : List Ev) (p : Ev → Bool) : Int := if es.findIdx p < es.length then es.findIdx p else -1
theorem c_IndexFunc_Ev (es : List Ev) (f : AL) (p : Ev → Bool) {Inv : HP → Nat → Prop} {H : HP} {nx : Nat} {K : KT} (hl : es.length < 4611686018427387904) (h0 : Inv H nx)
    (hf : ∀ e ∈ es, ∀ H nx K, Inv H nx → (∀ H' nx', Inv H' nx' → K (Bo (p e)) H' nx') → callF Try.prog (.c (.x f)) H nx K [.agg (encEv e)])
    (hK : ∀ H nx, Inv H nx → K (I .i64 (idxF es p)) H nx) : ACall Try.prog F_slices_IndexFunc_s_api_Event [.x (encEvs es), .x f] H nx K := by
  apply ACall_body fn_slices_IndexFunc_s_api_Event (by simp)
  unfold ac_slices_IndexFunc_s_api_Event
  simp
  refine wpc_loop' (fun q : Nat × HP × Nat => ⟨ofL [(0, .c (.x (encEvs es))), (1, .c (.x f)), (7, I .i64 es.length), (8, I .i64 q.1)], q.2.1, q.2.2, []⟩)
    (fun q => q.1 ≤ es.length ∧ q.1 ≤ es.findIdx p ∧ Inv q.2.1 q.2.2) (fun q => es.length - q.1) (0, H, nx) (by simp [h0]) (SLe.ofL (by simp) (fun id => .inl rfl) (by simp) rfl) fun q hq => ?_
  obtain ⟨i, H, nx⟩ := q
  obtain ⟨i1, i2, i3⟩ := hq
  simp only at i1 i2 i3
  simp only [acl_slices_IndexFunc_s_api_Event_0]
  have hle := List.findIdx_le_length (p := p) (xs := es)
  by_cases hi : i < es.length
  · have ew : IntKind.i64.wrap ((i : Int) + 1) = i + 1 := wI (by omega) (by omega)
    simp only [wpc_seq, wpc_region, wpc_block, seqQ_normal, blkQ_normal, wpc_cond]
    simp [hi, -callF_fn]
    refine hf es[i] (List.getElem_mem _) H nx _ i3 fun H' nx' hI => ?_
    cases hp : p es[i] with
    | true =>
      have e : es.findIdx p = i := by
        rcases Nat.lt_or_ge i (es.findIdx p) with h | h
        · have := List.not_of_lt_findIdx h; simp [hp] at this
        · omega
      have hk := hK H' nx' hI
      simp [idxF, e, hi] at hk
      simp
      exact hk
    | false =>
      have e : i + 1 ≤ es.findIdx p := by
        rcases Nat.lt_or_ge i (es.findIdx p) with h | h
        · exact h
        · have h' : es.findIdx p < es.length := by omega
          have := List.findIdx_getElem (p := p) (xs := es) (w := h')
          have e' : es.findIdx p = i := by omega
          simp [e', hp] at this
      simp [ew]
      exact lpQ_next (i + 1, H', nx') ⟨by simp only; omega, e, hI⟩ (SLe.ofL (by simp) (fun id => .inl rfl) (by simp) rfl) (by simp only; omega)
  · have e : es.findIdx p = es.length := by omega
    have : i = es.length := by omega
    subst this
    have hk := hK H nx i3
    simp [idxF, e] at hk
    simp
    exact hk

theorem c_below_1 {H : HP} {nx tid : Nat} {e : Ev} {tick : Nat} {K : KT} (hT : H tid = .blk 1 [[u64 tick]] true true) (ht : tid < nx) (hK : K (Bo (decide (tick < e.tick))) (hset H nx (.blk 3 [encEv e] true true)) (nx + 1)) :
    ACall Try.prog F_buffer_Buf_below_1 [.agg (encEv e), .x (.pt tid 0 0)] H nx K := by
  apply ACall_body fn_buffer_Buf_below_1 (by simp)
  unfold ac_buffer_Buf_below_1
  simp [hT, ltne ht]
  exact hK

theorem w_buffer_below (b : Buf) (tick : Nat) (hl : b.events.length < 4611686018427387904) : Holds Try.prog F_buffer_Buf_below [.agg (cellsBuf b), .x (u64 tick)] (fun x => x = I .i64 (belowN b.events tick)) := by
  apply Holds_fin fn_buffer_Buf_below (by simp) 1
  unfold ac_buffer_Buf_below
  simp
  refine c_IndexFunc_Ev b.events _ (fun e => decide (tick < e.tick)) (Inv := fun H nx => H 0 = .blk 5 [cellsBuf b] true true ∧ H 1 = .blk 1 [[u64 tick]] true true ∧ 2 ≤ nx) hl (by simp) (fun e he H nx K ⟨h1, h2, h3⟩ hk => ?_) fun H nx ⟨h1, h2, h3⟩ => ?_
  · simp
    refine c_below_1 h2 (by omega) (hk _ _ ⟨?_, ?_, by omega⟩)
    · simp [h1] <;> omega
    · simp [h2] <;> omega
  · have hle := belowN_le b.events tick
    have hx : idxF b.events (fun e => decide (tick < e.tick)) = if belowN b.events tick < b.events.length then (belowN b.events tick : Int) else -1 := rfl
    rw [hx]
    generalize belowN b.events tick = n at hle ⊢
    by_cases hlt : n < b.events.length
    · have n1 : ¬ ((n : Int) < 0) := by omega
      simp [h1, hlt, n1]
    · have e : n = b.events.length := by omega
      subst e
      simp [h1]
end Go.Abs
