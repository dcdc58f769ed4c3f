import Derived.Test.YtinkdjjffjnpeaaTA20
namespace Go.Abs
set_option linter.unusedVariables false
open Go.RowKit

/-- an empty slice, told as one of our own -/
theorem SLe.own {tm : Nat → AV} {H : HP} {nx : Nat} {df : List ADef} (t z : Nat) (h : tm t = Sl true []) :
    SLe ⟨tm, H, nx, df⟩ ⟨tset tm t (Ow nx 0 0 false), hset H nx (.blk z [] true true), nx + 1, df⟩ := fun N ι ok a w hs => by
  obtain ⟨f1, f2⟩ := hs.hs.fresh nx (Nat.le_refl _)
  obtain ⟨h1, h2⟩ := hs.hs.empty (z := z) (mt := true) (pu := true) f1 f2 (nx' := nx + 1) (Nat.lt_succ_self _) (by simp only; omega) (Nat.le_refl _)
  have ht := hs.tm t
  simp only [h] at ht
  obtain ⟨ad, hv, hsp⟩ : ∃ ad, a.tmps.getD t undef = .slice ad 0 0 ∧ (∀ d, ad = some d → d.spot = none) := by
    generalize a.tmps.getD t undef = v at ht
    cases ht.leaf with
    | nil _ clip => exact ⟨none, rfl, by simp⟩
    | sl _ clip rows b o c z cv hb hc hcl hz' hcell hrep =>
      exact ⟨some ⟨b, o, none⟩, by simp [hcl rfl], by intro d hd; injection hd with hd; subst hd; rfl⟩
  refine ⟨_, _, ⟨h1, hs.sz, fun t' => ?_, hs.dl, fun i d x g1 g2 => (hs.df i d x g1 g2).ext hs.hs h2, hs.bs, hs.mks⟩, h2, by simp only; omega⟩
  by_cases e : t' = t
  · subst e
    simp only [tset_same, hv]
    exact .c (.x (.ow _ nx 0 0 false _ ad 0 (imset_same _ _ _) (Nat.le_refl _) (by simp) hsp (by simp) (fun h => absurd rfl h)))
  · simp only [tset_ne _ _ e]
    exact h2.repV hs.hs (hs.tm t')
end Go.Abs
