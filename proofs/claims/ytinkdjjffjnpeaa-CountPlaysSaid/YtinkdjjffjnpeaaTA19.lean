import Derived.Test.YtinkdjjffjnpeaaTA17
namespace Go.Abs
set_option linter.unusedVariables false
open Go.RowKit

section
variable {P : Program}
theorem Holds_of_body {f : FuncId} {n : Nat} {ac : ACode} {rs : List ARes} (hf : FnOk P f n ac rs) {args : List AC} (hlen : args.length ≤ n) {R : AV → Prop}
    (h : wpc P n ac ⟨ent args, H0, 0, []⟩ (bodyQ P rs fun x H' _ => ∃ y H2, frzV x H' = some (y, H2) ∧ R y)) : Holds P f args R :=
  Holds_of_ACall (ACall_body hf hlen h)


/-! ### forgetting how far slices reach -/
def wkL : Nat → AL → AL
  | n + 1, .sl _ rows => .sl false (rows.map fun r => r.map (wkL n))
  | _, x => x
def wkC (n : Nat) : AC → AC
  | .x l => .x (wkL n l)
  | .agg xs => .agg (xs.map (wkL n))
def wkV (n : Nat) : AV → AV
  | .any => .any
  | .c a => .c (wkC n a)
  | .tup xs => .tup (xs.map (wkC n))
theorem RepL.wk {ok : Nat → Prop} {w : World} : ∀ (n : Nat) {ι : IM} {v : Value} {x : AL}, RepL ok w ι v x → RepL ok w ι v (wkL n x)
  | 0, _, _, _, h => h
  | n + 1, ι, u, y, h => by
    cases h with
    | nil ι clip => exact .nil _ _
    | sl ι clip rows b o c z cv hb hc hcl hz hcell hrep =>
      have := RepL.sl (ok := ok) (w := w) ι false (rows.map fun r => r.map (wkL n)) b o c z cv (fun h => hb (by rintro rfl; exact h rfl)) (by simpa using hc) (by simp) (by simpa using fun r hr => hz r hr)
        (fun i j hi hj => hcell i j (by simpa using hi) hj) (fun i j r x hr hx => by
          rw [List.getElem?_map] at hr
          cases hri : rows[i]? with
          | none => rw [hri] at hr; cases hr
          | some r0 =>
            rw [hri] at hr; injection hr with hr; subst hr
            rw [List.getElem?_map] at hx
            cases hxj : r0[j]? with
            | none => rw [hxj] at hx; cases hx
            | some x0 =>
              rw [hxj] at hx; injection hx with hx; subst hx
              exact RepL.wk n (hrep i j r0 x0 hri hxj))
      rw [List.length_map] at this
      exact this
    | v ι x h => exact .v _ _ h
    | fp ι rows row off b o z cv hb hz hcell hrep => exact .fp ι rows row off b o z cv hb hz hcell hrep
    | ow ι id off len clip L a c h1 h2 h3 h4 h5 h6 => exact .ow ι id off len clip L a c h1 h2 h3 h4 h5 h6
    | pt ι id row off L b h1 h2 => exact .pt ι id row off L b h1 h2
    | fn ι f vs caps h1 h2 => exact .fn ι f vs caps h1 h2
    | bm ι f vs pre h1 h2 => exact .bm ι f vs pre h1 h2
    | yl ι id L b h1 h2 => exact .yl ι id L b h1 h2
theorem RepC.wk {ok : Nat → Prop} {w : World} (n : Nat) {ι : IM} {v : Value} {x : AC} (h : RepC ok w ι v x) : RepC ok w ι v (wkC n x) := by
  cases h with
  | x h => exact .x (h.wk n)
  | agg hl h =>
    refine .agg (by simpa using hl) fun i v x hv hx => ?_
    rw [List.getElem?_map] at hx
    rename_i cs xs
    cases hi : xs[i]? with
    | none => rw [hi] at hx; cases hx
    | some y => rw [hi] at hx; injection hx with hx; subst hx; exact (h i v y hv hi).wk n
theorem RepV.wk {ok : Nat → Prop} {w : World} (n : Nat) {ι : IM} {v : Value} {x : AV} (h : RepV ok w ι v x) : RepV ok w ι v (wkV n x) := by
  cases h with
  | any => exact .any _
  | c h => exact .c (h.wk n)
  | tup hl h =>
    refine .tup (by simpa using hl) fun i v x hv hx => ?_
    rw [List.getElem?_map] at hx
    rename_i cs xs
    cases hi : xs[i]? with
    | none => rw [hi] at hx; cases hx
    | some y => rw [hi] at hx; injection hx with hx; subst hx; exact (h i v y hv hi).wk n
theorem Holds.wk {f : FuncId} {args : List AC} {R R' : AV → Prop} (n : Nat) (h : Holds P f args R) (hr : ∀ x, R x → R' (wkV n x)) : Holds P f args R' :=
  ⟨h.1, fun ok w vs h1 h2 => CallsIn.mono (h.2 ok w vs h1 h2) fun e w' ⟨v, x, ok', a, b, c1, c2, c3, c4, c5, c6, c7, c8, c9⟩ => ⟨v, wkV n x, ok', a, hr x b, c1, c2, c3, c4, c5, c6, c7, c8, c9.wk n⟩⟩

/-- a function's contract: its result is r, when nothing is said of how far slices reach -/
def finK (n : Nat) (r : AV) : KT := fun x H' _ => ∃ y H2, frzV x H' = some (y, H2) ∧ wkV n y = r
theorem Holds_fin {f : FuncId} {n : Nat} {ac : ACode} {rs : List ARes} (hf : FnOk P f n ac rs) {args : List AC} (hlen : args.length ≤ n) (m : Nat) {r : AV}
    (h : wpc P n ac ⟨ent args, H0, 0, []⟩ (bodyQ P rs (finK m r))) : Holds P f args (fun x => x = r) :=
  Holds.wk m (R := fun x => wkV m x = r) (Holds_of_body hf hlen h) fun x hx => hx
theorem finK_app {n : Nat} {r x : AV} {H' : HP} {nx : Nat} : finK n r x H' nx = (∃ y H2, frzV x H' = some (y, H2) ∧ wkV n y = r) := (rfl)
end
end Go.Abs
