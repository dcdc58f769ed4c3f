/-
  PROVED: for every input the law returns true, and each argument reads afterwards as it read before.
  Conditions: none beyond the given row.
-/
import Derived.Test.YtinkdjjffjnpeaaTCP
namespace Go.Proofs.Ytinkdjjffjnpeaa.countPlays
set_option linter.unusedVariables false
set_option linter.constructorNameAsVariable false
open Go.ChangeShapes Go.WideShapes Go.ChangeAt Go.RowKit Go.Abs
section
variable {H : Type} {enc : TypeId × Value → H} {W : World} {base : Nat}
theorem len2 {cs : List Value} (h : cs.length = 2) : ∃ a b, cs = [a, b] := by
  match cs, h with
  | [a, b], _ => exact ⟨a, b, rfl⟩
set_option maxRecDepth 100000 in
theorem arr2 {v : Value} {d : DataW H} {p : List MemPlace} (hv : Value.okWide Try.prog W .any base 23 v) (h : DataW.Trod enc Try.prog W 0 (fun _ => true) true 23 v d p) :
    ∃ a b : Nat, a < 18446744073709551616 ∧ b < 18446744073709551616 ∧ v = .agg #[.int .u64 a, .int .u64 b] := by
  have hu : Try.prog.underlying 23 = some (.array 2 22) := Try.underlying23
  obtain ⟨n, h⟩ := h
  simp only [Value.okWide, hu] at hv
  obtain ⟨cs, rfl, h1, _⟩ := hv
  rw [c23] at h1
  obtain ⟨xs, m, _, _, _, h2, h3⟩ := DataW.trod_array hu h
  clear h
  obtain ⟨a, b, hab⟩ := len2 (cs := cs.toList) (by simpa using h1)
  have hcs : cs = #[a, b] := by rw [← Array.toArray_toList (xs := cs), hab]
  subst hcs
  have k0 := h3 0 (by omega)
  have k1 := h3 1 (by omega)
  clear h3
  rw [c22] at k0 k1
  rw [List.getElem?_eq_getElem (by omega)] at k0 k1
  obtain ⟨z0, e0, b0⟩ := one_u64 k0
  obtain ⟨z1, e1, b1⟩ := one_u64 k1
  simp [Value.cells] at e0 e1
  subst e0 e1
  exact ⟨z0, z1, b0, b1, rfl⟩
end
theorem wf_i64 {z : Int} (h : (Lit.int .i64 z).wf = true) : -9223372036854775808 ≤ z ∧ z < 9223372036854775808 := by
  have : -9223372036854775808 ≤ z ∧ z ≤ 9223372036854775807 := by simpa [Lit.wf, IntKind.min, IntKind.max, IntKind.signed, IntKind.bits] using h
  omega
theorem reps3 {ok : Nat → Prop} {w : World} {v0 v1 v2 : Value} {x0 x1 x2 : AC} (h0 : RepC ok w IM.nil v0 x0) (h1 : RepC ok w IM.nil v1 x1) (h2 : RepC ok w IM.nil v2 x2) : RepCs ok w IM.nil [v0, v1, v2] [x0, x1, x2] := by
  refine ⟨rfl, fun i v x hv hx => ?_⟩
  match i, hv, hx with
  | 0, hv, hx => injection hv with hv; injection hx with hx; subst hv hx; exact h0
  | 1, hv, hx => injection hv with hv; injection hx with hx; subst hv hx; exact h1
  | 2, hv, hx => injection hv with hv; injection hx with hx; subst hv hx; exact h2
  | n + 3, hv, hx => simp at hv
theorem rep_arr2 {ok : Nat → Prop} {w : World} (a b : Nat) : RepC ok w IM.nil (.agg #[.int .u64 a, .int .u64 b]) (.agg [u64 a, u64 b]) := by
  refine .agg (cs := [.int .u64 a, .int .u64 b]) rfl fun i v x hv hx => ?_
  match i, hv, hx with
  | 0, hv, hx => injection hv with hv; injection hx with hx; subst hv hx; exact .v _ _ rfl
  | 1, hv, hx => injection hv with hv; injection hx with hx; subst hv hx; exact .v _ _ rfl
  | n + 2, hv, hx => simp at hv
set_option maxRecDepth 100000 in
theorem contract (H : Type) (enc : TypeId × Value → H) (W : World) (base : Nat) (args : Array Value) (ds gs : List (DataW H)) (before : List MemPlace)
    (hval : ∀ (j : Nat) t v, Try.f3.params[j]? = some t → args[j]? = some v → Value.okWide Try.prog W .any base t v)
    (hW : DataW.Whole enc Try.prog Try.f3.params.toList Rows.countPlaysSpec.vars false W args.toList ds gs before) :
    Calls Try.prog 3 args W fun e W' => ∃ v, e = .returned v ∧ Rows.countPlaysSpec.post enc Try.prog Try.f3 false true false false W args v W' := by
  have hW' := hW
  obtain ⟨p, q, hA0, hV, rfl, hfz, hnd⟩ := hW
  have hA : DataW.TrodAll enc Try.prog W 0 (fun _ => true) true Try.f3.params.toList args.toList ds p := hA0
  rw [Try.params3] at hA hval
  obtain ⟨v0, v1, v2, d0, d1, d2, p0, p1, p2, rfl, rfl, rfl, h0, h1, h2⟩ := trodAll_three hA
  obtain ⟨rfl, rfl⟩ := trodVars_none hV
  obtain ⟨k, rfl, _, _, wk⟩ := open_int Try.underlying3 (hval 0 3 v0 rfl rfl) h0
  obtain ⟨a, b, ha, hb, rfl⟩ := arr2 (hval 1 23 v1 rfl rfl) h1
  obtain ⟨l, hl1, hl2, hl3⟩ := deeds (hval 2 24 v2 rfl rfl) h2
  obtain ⟨k1, k2⟩ := wf_i64 wk
  have hlen : l.length ≤ 9223372036854775807 := Nat.le_trans hl2 (by unfold maxLen; decide)
  have hw := (w_CountPlays k a b l k1 k2 ha hb hlen hl1).calls (W := W) (reps3 (.x (.v _ _ rfl)) (rep_arr2 a b) hl3)
  refine hw.mono fun e W' ⟨he, hs⟩ => ⟨_, he, ?_⟩
  refine post_true (T := (· < Try.prog.types.size)) (tb := 4) kids (fun {t e} h1 h2 => full t e h1 h2) ?_ hW' rfl ?_ Try.underlying4 ?_ ?_ ?_ hs
  · intro t ht
    rw [Try.params3] at ht
    simp at ht
    have : 24 < Try.prog.types.size := of_decide_eq_true (by kernel_rfl)
    rcases ht with rfl | rfl | rfl <;> exact Nat.lt_of_le_of_lt (by decide) this
  · kernel_rfl
  · rfl
  · rfl
  · rfl
set_option maxRecDepth 100000 in
theorem lifted (os : Os) (started : os.Started) (H : Type) (enc : TypeId × Value → H) :
    ReturnsInHanded {} Try.checked os 3 .any (Rows.countPlaysSpec.pre6 enc Try.prog Try.f3 Rows.countPlaysRow.domain false) (Rows.countPlaysSpec.post enc Try.prog Try.f3 false true false false) := by
  refine returnsInHanded_of_change (C := Try.checked) own started (by kernel_rfl) Try.func3
    (ChangeSpec.witness6 (enc := enc) (C := Try.checked) false ⟨#[], #[.int .i64 0, .agg #[.int .u64 0, .int .u64 0], .slice none 0 0], []⟩ 8 (by kernel_rfl) (by kernel_rfl) (by kernel_rfl) (by kernel_rfl)) ?_
  intro W base args ds gs before hval hW _ _
  exact contract H enc W base args ds gs before hval hW
theorem proved : Rows.CountPlaysSaid :=
  OpenClaim.holds_of_wide 3 Try.f3 rfl rfl rfl rfl rfl rfl rfl ⟨rfl, rfl, rfl, rfl, rfl⟩ rfl rfl rfl rfl rfl (by kernel_rfl) Try.func3 (by kernel_rfl)
    (of_decide_eq_true (by kernel_rfl)) (by unfold Func.isWrapper; first | (rw [if_pos (by decide +kernel)]; kernel_rfl) | (rw [if_neg (by decide +kernel)]; exact ⟨rfl, rfl⟩))
    (fun os started H enc _ => lifted os started H enc)
end Go.Proofs.Ytinkdjjffjnpeaa.countPlays
