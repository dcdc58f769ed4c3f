import Derived.Test.YtinkdjjffjnpeaaTA25
namespace Go.Abs
set_option linter.unusedVariables false
open Go.RowKit
theorem RepC.ofNil {ok : Nat → Prop} {w : World} {ι : IM} {v : Value} {x : AC} (h : RepC ok w IM.nil v x) : RepC ok w ι v x := by
  cases h with
  | x h => exact .x h.ofNil
  | agg hl h => exact .agg hl fun i v y h1 h2 => (h i v y h1 h2).ofNil
theorem RepCs.ofNil {ok : Nat → Prop} {w : World} {ι : IM} {vs : List Value} {xs : List AC} (h : RepCs ok w IM.nil vs xs) : RepCs ok w ι vs xs :=
  ⟨h.1, fun i v x h1 h2 => (h.2 i v x h1 h2).ofNil⟩
/-- a call whose arguments are not written any more -/
theorem ACall_frz {P : Program} {f : FuncId} {args ys : List AC} {H H' : HP} {nx : Nat} {K : KT} (hf : thr frzC args H = some (ys, H')) (h : ACall P f ys H' nx K) : ACall P f args H nx K := by
  refine ⟨h.1, fun ι ok w vs hs hv => ?_⟩
  obtain ⟨ok1, a1, a2, a3⟩ := frzCs_sound hf hs
  refine CallsIn.mono (h.2 ι ok1 w vs a1 (a3 vs hv).ofNil) ?_
  rintro e w' ⟨v, x, H1, nx1, ι1, ok', h1, h2, h3, h4, h5, h6⟩
  exact ⟨v, x, H1, nx1, ι1, ok', h1, h2, h3, a2.trans h4 (Nat.le_refl _), h5, h6⟩
end Go.Abs
namespace Go.Abs
@[simp] theorem put'_none (s : St) (v : AV) (hp : HP) (nx : Nat) (df : List ADef) : s.put' none v hp nx df = ⟨s.tm, hp, nx, df⟩ := (rfl)
@[simp] theorem put'_some (s : St) (d : Nat) (v : AV) (hp : HP) (nx : Nat) (df : List ADef) : s.put' (some d) v hp nx df = ⟨tset s.tm d v, hp, nx, df⟩ := (rfl)
end Go.Abs
namespace Go.Abs
@[simp] theorem bodyQ0_normal {P : Program} {rs : List ARes} {K : KT} {s : St} : bodyQ0 P rs K .normal s = (s.df = [] ∧ leaveA P rs s.tm K [] s.hp s.nx) := (rfl)
@[simp] theorem bodyQ0_ret {P : Program} {rs : List ARes} {K : KT} {s : St} : bodyQ0 P rs K .ret s = (s.df = [] ∧ leaveA P rs s.tm K [] s.hp s.nx) := (rfl)
end Go.Abs
