import Derived.Test.YtinkdjjffjnpeaaTA24
namespace Go.Abs
set_option linter.unusedVariables false
open Go.RowKit

section
variable {ι : IM} {ok : Nat → Prop} {H : HP} {nx : Nat} {w : World}
/-- an object's cells, told otherwise -/
theorem retell (hs : HSat ι ok H nx w) {id z : Nat} {rows rows' : List (List AL)} {mt pu pu' : Bool} (hH : H id = .blk z rows mt pu) (hb : ∀ L, ι id = some L → BlkRep ok w ι L z rows mt pu → BlkRep ok w ι L z rows' mt pu') :
    HSat ι ok (hset H id (.blk z rows' mt pu')) nx w ∧ Ext ι ok H nx w ι ok (hset H id (.blk z rows' mt pu')) w := by
  obtain ⟨L, hι, hrep⟩ := hs.blk id z rows mt pu hH
  have hid := hs.id_lt hι
  have g : ∀ j, (hset H id (.blk z rows' mt pu') j).live = true → (H j).live = true := fun j hl => by
    by_cases e : j = id
    · subst e; rw [hset_same] at hl; rw [hH]; cases mt <;> simp [HO.live] at hl ⊢
    · rw [hset_ne _ _ e] at hl; exact hl
  refine ⟨⟨hs.ok_lt, fun j hj => ?_, fun j z' rows' mt' pu' he => ?_, fun j tm N ps as bd st pe he => ?_, fun i j L1 L2 k hi hj hli hlj => hs.inj i j L1 L2 k hi hj (g _ hli) (g _ hlj)⟩, ?_⟩
  · have : j ≠ id := by omega
    rw [hset_ne _ _ this]; exact hs.fresh j hj
  · by_cases e : j = id
    · subst e; rw [hset_same] at he; injection he with e1 e2 e3 e4; subst e1 e2 e3 e4
      exact ⟨L, hι, hb L hι hrep⟩
    · rw [hset_ne _ _ e] at he; exact hs.blk j z' rows' mt' pu' he
  · by_cases e : j = id
    · subst e; rw [hset_same] at he; cases he
    · rw [hset_ne _ _ e] at he; exact hs.loop j _ _ _ _ _ _ _ he
  · exact { (Ext.refl : Ext ι ok H nx w ι ok H w) with
      mutr := by
        rintro k ⟨j, M, hM, hl, hc, hb'⟩
        exact .inl ⟨j, M, hM, g j hl, hc, hb'⟩ }

/-- an empty slice in a cell of ours, told as one of our own -/
theorem SLe.ownC {tm : Nat → AV} {H : HP} {nx : Nat} {df : List ADef} (o zz : Nat) {z : Nat} {pu : Bool} (pre post : List AL) (hH : H o = .blk z [pre ++ .sl true [] :: post] true pu) :
    SLe ⟨tm, H, nx, df⟩ ⟨tm, hset (hset H nx (.blk zz [] true true)) o (.blk z [pre ++ .ow nx 0 0 false :: post] true false), nx + 1, df⟩ := fun N ι ok a w hs => by
  obtain ⟨f1, f2⟩ := hs.hs.fresh nx (Nat.le_refl _)
  obtain ⟨h1, h2⟩ := hs.hs.empty (z := zz) (mt := true) (pu := true) f1 f2 (nx' := nx + 1) (Nat.lt_succ_self _) (by simp only; omega) (Nat.le_refl _)
  have hne : o ≠ nx := fun e => by subst e; simp only at f2; rw [hH] at f2; cases f2
  have hH1 : hset H nx (.blk zz [] true true) o = .blk z [pre ++ .sl true [] :: post] true pu := by rw [hset_ne _ _ hne]; exact hH
  obtain ⟨g1, g2⟩ := retell h1 (rows' := [pre ++ .ow nx 0 0 false :: post]) (pu' := false) hH1 (by
    intro L hL ⟨b1, b2, b3, b4⟩
    refine ⟨b1, fun r hr => ?_, by simpa using b3, fun hc => ?_⟩
    · have := b2 (pre ++ .sl true [] :: post) (by simp)
      simp at hr; subst hr
      rw [← this]; simp
    · obtain ⟨b, hb, hlt, ⟨cv, hcv, hrep⟩, ho, hm⟩ := b4 hc
      refine ⟨b, hb, hlt, ⟨cv, by simpa using hcv, fun i j r x hr hx => ?_⟩, by simp, by simpa using hm⟩
      cases i with
      | succ i => simp at hr
      | zero =>
        simp at hr; subst hr
        show RepL ok w _ (cv 0 j) x
        by_cases e : j = pre.length
        · subst e
          simp at hx; subst hx
          have := hrep 0 pre.length _ (.sl true []) rfl (by simp)
          have hv : ∃ ad, cv 0 pre.length = .slice ad 0 0 ∧ (∀ d, ad = some d → d.spot = none) := by
            generalize cv 0 pre.length = v at this
            have := this.pim_out
            cases this with
            | nil _ clip => exact ⟨none, rfl, by simp⟩
            | sl _ clip rows b o c z cv hb hc hcl hz' hcell hrep =>
              exact ⟨some ⟨b, o, none⟩, by simp [hcl rfl], by intro d hd; injection hd with hd; subst hd; rfl⟩
          obtain ⟨ad, hv, hsp⟩ := hv
          rw [hv]
          exact .ow _ nx 0 0 false _ ad 0 (imset_same _ _ _) (Nat.le_refl _) (by simp) hsp (by simp) (fun h => absurd rfl h)
        · refine (hrep 0 j _ x rfl ?_).pim_out
          by_cases hj : j < pre.length
          · rw [List.getElem?_append_left hj] at hx ⊢; exact hx
          · rw [List.getElem?_append_right (by omega)] at hx ⊢
            rw [show j - pre.length = (j - pre.length - 1) + 1 by omega, List.getElem?_cons_succ] at hx ⊢
            exact hx)
  refine ⟨_, _, ⟨g1, hs.sz, fun t' => (h2.trans g2 (by simp only; omega)).repV hs.hs (hs.tm t'), hs.dl, fun i d x k1 k2 => (hs.df i d x k1 k2).ext hs.hs (h2.trans g2 (by simp only; omega)), hs.bs, hs.mks⟩, h2.trans g2 (by simp only; omega), by simp only; omega⟩

/-- an object of ours, of which a temporary tells, that is not written any more -/
theorem SLe.frz {tm : Nat → AV} {H : HP} {nx : Nat} {df : List ADef} (t id : Nat) {off len z : Nat} {clip : Bool} {rows : List (List AL)} (h : tm t = Ow id off len clip) (hH : H id = .blk z rows true true) (hle : off + len ≤ rows.length) :
    SLe ⟨tm, H, nx, df⟩ ⟨tset tm t (Sl clip ((rows.drop off).take len)), hset H id (.blk z rows false true), nx, df⟩ := fun N ι ok a w hs => by
  obtain ⟨ok1, a1, a2⟩ := freezeG hs.hs hH
  refine ⟨ι, ok1, ⟨a1, hs.sz, fun t' => ?_, hs.dl, fun i d x g1 g2 => (hs.df i d x g1 g2).ext hs.hs a2, hs.bs, hs.mks⟩, a2, Nat.le_refl _⟩
  by_cases e : t' = t
  · subst e
    simp only [tset_same]
    have ht := a2.repV hs.hs (hs.tm t')
    simp only [h] at ht
    exact .c (.x (ow_sl (pu := true) a1 ht.leaf (hset_same _ _ _) hle))
  · simp only [tset_ne _ _ e]
    exact a2.repV hs.hs (hs.tm t')
end
end Go.Abs
