import Derived.Test.YtinkdjjffjnpeaaTA22
namespace Go.Abs
set_option linter.unusedVariables false
open Go.RowKit

/-! ### telling less -/
def AV.le (a b : AV) : Prop := ∀ (ok : Nat → Prop) (w : World) (ι : IM) (v : Value), RepV ok w ι v a → RepV ok w ι v b
@[simp] theorem AV.le_refl (a : AV) : AV.le a a = True := by simp only [eq_iff_iff, iff_true]; exact fun _ _ _ _ h => h
theorem RepL.unclip {ok : Nat → Prop} {w : World} {ι : IM} {v : Value} {c : Bool} {rows : List (List AL)} (h : RepL ok w ι v (.sl c rows)) : RepL ok w ι v (.sl false rows) := by
  cases h with
  | nil ι clip => exact .nil _ _
  | sl ι clip rows b o c z cv hb hc hcl hz hcell hrep => exact .sl ι false rows b o c z cv hb hc (by simp) hz hcell hrep
@[simp] theorem AV.le_sl (c : Bool) (rows : List (List AL)) : AV.le (Sl c rows) (Sl false rows) = True := by
  simp only [eq_iff_iff, iff_true]
  exact fun _ _ _ _ h => .c (.x h.leaf.unclip)

theorem SLe.ofL2 {s : St} {kv : List (Nat × AV)} {hp : HP} {nx : Nat} {df : List ADef} (ht : ∀ p ∈ kv, AV.le (s.tm p.1) p.2) (hh : ∀ id, hp id = s.hp id ∨ hp id = .none) (hn : s.nx ≤ nx) (hd : df = s.df) : SLe s ⟨Go.Abs.ofL kv, hp, nx, df⟩ := fun N ι ok a w h => by
  have he : Ext ι ok s.hp s.nx w ι ok hp w := Ext.drop hh
  refine ⟨ι, ok, ⟨(h.hs.drop hh).bump hn, h.sz, fun t => ?_, by simp only [hd]; exact h.dl, fun i d x h1 h2 => ?_, h.bs, h.mks⟩, he, hn⟩
  · rcases ofL_mem kv t with e | ⟨v, h1, h2⟩
    · simp only [e]; exact .any _
    · simp only [h2]; exact ht _ h1 _ _ _ _ (h.tm t)
  · simp only [hd] at h2; exact (h.df i d x h1 h2).ext h.hs he

section
variable {P : Program} {f : FuncId} {R : AV → Prop} {H H' : HP} {nx : Nat} {K : KT}
theorem RepCs.wk {ok : Nat → Prop} {w : World} {ι : IM} (n : Nat) {vs : List Value} {xs : List AC} (h : RepCs ok w ι vs xs) : RepCs ok w ι vs (xs.map (wkC n)) := by
  refine ⟨by simpa using h.1, fun i v x hv hx => ?_⟩
  rw [List.getElem?_map] at hx
  cases hi : xs[i]? with
  | none => rw [hi] at hx; cases hx
  | some y => rw [hi] at hx; injection hx with hx; subst hx; exact (h.2 i v y hv hi).wk n
/-- arguments, nothing said of how far slices reach -/
theorem Holds.wk_args (n : Nat) {args ys : List AC} (h : Holds P f ys R) (e : args.map (wkC n) = ys) : Holds P f args R := by
  subst e
  exact ⟨h.1, fun ok w vs h1 h2 => h.2 ok w vs h1 (h2.wk n)⟩
theorem ACall_closedW (n : Nat) {args zs ys : List AC} (h : Holds P f ys R) (hf : thr frzC args H = some (zs, H')) (e : zs.map (wkC n) = ys) (hk : ∀ x, R x → K x H' nx) : ACall P f args H nx K :=
  ACall_closed (h.wk_args n e) hf hk
theorem ACall_looksW (n : Nat) {args zs ys : List AC} (h : Holds P f ys R) (hf : (thr frzC args H).map (·.1) = some zs) (e : zs.map (wkC n) = ys) (hsc : ∀ x, R x → x.scal = true) (hk : ∀ x, R x → K x H nx) : ACall P f args H nx K :=
  ACall_looks (h.wk_args n e) hf hsc hk
/-- a call of which one result is known -/
theorem ACall_is {args ys : List AC} {r : AV} (h : Holds P f ys (fun x => x = r)) (hf : thr frzC args H = some (ys, H')) (hk : K r H' nx) : ACall P f args H nx K :=
  ACall_closed h hf fun x hx => by subst hx; exact hk
theorem ACall_isW (n : Nat) {args zs ys : List AC} {r : AV} (h : Holds P f ys (fun x => x = r)) (hf : thr frzC args H = some (zs, H')) (e : zs.map (wkC n) = ys) (hk : K r H' nx) : ACall P f args H nx K :=
  ACall_is (h.wk_args n e) hf hk
theorem ACall_see {args ys : List AC} {r : AV} (h : Holds P f ys (fun x => x = r)) (hf : (thr frzC args H).map (·.1) = some ys) (hsc : r.scal = true) (hk : K r H nx) : ACall P f args H nx K :=
  ACall_looks h hf (fun x hx => by subst hx; exact hsc) fun x hx => by subst hx; exact hk
theorem ACall_seeW (n : Nat) {args zs ys : List AC} {r : AV} (h : Holds P f ys (fun x => x = r)) (hf : (thr frzC args H).map (·.1) = some zs) (e : zs.map (wkC n) = ys) (hsc : r.scal = true) (hk : K r H nx) : ACall P f args H nx K :=
  ACall_see (h.wk_args n e) hf hsc hk
end
attribute [simp] AV.scal AC.scal
end Go.Abs
