import Derived.Test.YtinkdjjffjnpeaaTA18
namespace Go.Abs
set_option linter.unusedVariables false
open Go.RowKit

/-! ### what an operation looks at -/
def AOp.rds : AOp → List AOpd
  | .mv x => [x]
  | .pick c a b => [c, a, b]
  | .alloc _ => []
  | .box x => [x]
  | .build _ parts => parts.map (·.2.2)
  | .bslice _ _ _ _ parts => parts.map (·.2)
  | .load _ _ x => [x]
  | .store _ x y => [x, y]
  | .nilck x => [x]
  | .bin _ x y => [x, y]
  | .un _ x => [x]
  | .conv _ x => [x]
  | .mkfn _ caps => caps
  | .slc _ x lo hi m => x :: (lo.toList ++ (hi.toList ++ m.toList))
  | .fadr _ x => [x]
  | .iadr _ x i => [x, i]
  | .iadrA _ _ x i => [x, i]
  | .idxA _ _ _ x i => [x, i]
  | .fld _ _ _ x => [x]
  | .ext x _ => [x]
  | .app _ _ x y => [x, y]
  | .mksl _ _ _ l c => [l, c]
  | .len x => [x]
  | .mx l => l
  | .mn l => l
  | .cp x => [x]
  | .isnil _ x => [x]
  | .eqv _ _ x y => [x, y]
  | .eqb _ x y => [x, y]
  | .mkbm _ x => [x]
  | .appz _ _ _ x n => [x, n]
  | .no => []

def AOp.det : AOp → Bool
  | .isnil _ _ => false
  | _ => true

theorem map_ev {l : List AOpd} {tm tm' : Nat → AV} (h : ∀ x ∈ l, x.ev tm = x.ev tm') : l.map (·.ev tm) = l.map (·.ev tm') := List.map_congr_left h

theorem bnd_congr {o : Option AOpd} {tm tm' : Nat → AV} (h : ∀ x ∈ o.toList, x.ev tm = x.ev tm') (d : Nat) (K : Nat → Prop) : bnd tm o d K = bnd tm' o d K := by
  cases o with
  | none => rfl
  | some x => simp only [bnd, h x (by simp)]

theorem aop_congr {ao : AOp} {tm tm' : Nat → AV} {H : HP} {nx : Nat} {K : KT} (h : ∀ x ∈ ao.rds, x.ev tm = x.ev tm') : aop ao tm H nx K = aop ao tm' H nx K := by
  cases ao with
  | build z parts =>
    have : parts.map (fun (o, n, x) => (o, n, AOpd.ev tm x)) = parts.map (fun (o, n, x) => (o, n, AOpd.ev tm' x)) :=
      List.map_congr_left fun p hp => by
        have := h p.2.2 (List.mem_map.2 ⟨p, hp, rfl⟩)
        show (p.1, p.2.1, _) = (p.1, p.2.1, _)
        rw [this]
    simp only [aop, this]
  | bslice f sz n z parts =>
    have : parts.map (fun (i, x) => (i, AOpd.ev tm x)) = parts.map (fun (i, x) => (i, AOpd.ev tm' x)) :=
      List.map_congr_left fun p hp => by
        have := h p.2 (List.mem_map.2 ⟨p, hp, rfl⟩)
        show (p.1, _) = (p.1, _)
        rw [this]
    simp only [aop, this]
  | mkfn f caps =>
    have := map_ev h
    simp only [AOp.rds] at this
    simp only [aop, this]
  | mx l =>
    have := map_ev h
    simp only [AOp.rds] at this
    simp only [aop, this]
  | mn l =>
    have := map_ev h
    simp only [AOp.rds] at this
    simp only [aop, this]
  | slc sz x lo hi mx =>
    have hx := h x (by simp [AOp.rds])
    have h1 : ∀ d K, bnd tm lo d K = bnd tm' lo d K := fun d K => bnd_congr (fun y hy => h y (by simp only [AOp.rds, List.mem_cons, List.mem_append]; exact .inr (.inl hy))) d K
    have h2 : ∀ d K, bnd tm hi d K = bnd tm' hi d K := fun d K => bnd_congr (fun y hy => h y (by simp only [AOp.rds, List.mem_cons, List.mem_append]; exact .inr (.inr (.inl hy)))) d K
    have h3 : ∀ d K, bnd tm mx d K = bnd tm' mx d K := fun d K => bnd_congr (fun y hy => h y (by simp only [AOp.rds, List.mem_cons, List.mem_append]; exact .inr (.inr (.inr hy)))) d K
    simp only [aop, slcA, hx, h1, h2, h3]
  | _ =>
    simp only [AOp.rds, List.mem_cons, List.not_mem_nil, or_false, forall_eq_or_imp, forall_eq] at h
    first
      | (obtain ⟨h1, h2, h3⟩ := h; simp only [aop, h1, h2, h3])
      | (obtain ⟨h1, h2⟩ := h; simp only [aop, h1, h2])
      | simp only [aop, h]
      | rfl

/-! ### an operation does one thing -/
theorem outF_det {agg : Bool} {xs : List AL} {K : AV → Prop} (h : outF agg xs K) : ∃ v, K v ∧ ∀ K' : AV → Prop, K' v → outF agg xs K' := by
  unfold outF at h
  split at h
  · exact ⟨_, h, fun _ h => h⟩
  · exact ⟨_, h, fun _ h => h⟩
  · exact h.elim

theorem binA_det {op : BinOp} {x y : AV} {K : AV → Prop} (h : binA op x y K) : ∃ v, K v ∧ ∀ K' : AV → Prop, K' v → binA op x y K' := by
  unfold binA at h
  split at h
  case h_2 => exact h.elim
  simp only [binA]
  split at h
  · exact ⟨_, h.2, fun _ h' => ⟨h.1, h'⟩⟩
  · exact ⟨_, h.2, fun _ h' => ⟨h.1, h'⟩⟩
  · exact ⟨_, h.2.2, fun _ h' => ⟨h.1, h.2.1, h'⟩⟩
  · exact ⟨_, h.2.2, fun _ h' => ⟨h.1, h.2.1, h'⟩⟩
  · exact ⟨_, h.2, fun _ h' => ⟨h.1, h'⟩⟩
  · exact ⟨_, h.2, fun _ h' => ⟨h.1, h'⟩⟩
  · exact ⟨_, h.2, fun _ h' => ⟨h.1, h'⟩⟩
  · exact ⟨_, h.2, fun _ h' => ⟨h.1, h'⟩⟩
  · obtain ⟨h1, h2⟩ := h
    split at h2
    · rename_i v hv
      exact ⟨_, h2, fun _ h' => ⟨h1, h'⟩⟩
    · exact h2.elim

theorem unA_det {op : UnOp} {x : AV} {K : AV → Prop} (h : unA op x K) : ∃ v, K v ∧ ∀ K' : AV → Prop, K' v → unA op x K' := by
  unfold unA at h
  split at h
  · exact ⟨_, h, fun _ h => h⟩
  · exact ⟨_, h, fun _ h => h⟩
  · exact h.elim

theorem bnd_det {tm : Nat → AV} {o : Option AOpd} {d : Nat} {K : Nat → Prop} (h : bnd tm o d K) : ∃ n, K n ∧ ∀ K' : Nat → Prop, K' n → bnd tm o d K' := by
  cases o with
  | none => exact ⟨_, h, fun _ h => h⟩
  | some x =>
    simp only [bnd] at h ⊢
    split at h
    · rename_i k i he
      exact ⟨_, h.2, fun _ h' => by (first | exact ⟨h.1, h'⟩ | (simp only [he]; exact ⟨h.1, h'⟩))⟩
    · exact h.elim

theorem slcA_det {sz : Nat} {x : AV} {H : HP} {tm : Nat → AV} {lo hi mx : Option AOpd} {K : AV → Prop} (h : slcA sz x H tm lo hi mx K) : ∃ v, K v ∧ ∀ K' : AV → Prop, K' v → slcA sz x H tm lo hi mx K' := by
  unfold slcA at h
  split at h
  · obtain ⟨a, h, ha⟩ := bnd_det h
    obtain ⟨b, h, hb⟩ := bnd_det h
    obtain ⟨c, h, hc⟩ := bnd_det h
    obtain ⟨h1, h2, h3, h4, h5⟩ := h
    refine ⟨_, h5, fun K' h' => ?_⟩
    simp only [slcA]
    exact ha _ (hb _ (hc _ ⟨h1, h2, h3, h4, h'⟩))
  · obtain ⟨a, h, ha⟩ := bnd_det h
    obtain ⟨b, h, hb⟩ := bnd_det h
    obtain ⟨c, h, hc⟩ := bnd_det h
    obtain ⟨h1, h2, h3, h4, h5⟩ := h
    refine ⟨_, h5, fun K' h' => ?_⟩
    simp only [slcA]
    exact ha _ (hb _ (hc _ ⟨h1, h2, h3, h4, h'⟩))
  · exact h.elim

theorem iadrF_det {sz : Nat} {H : HP} {x i : AV} {K : AV → Prop} (h : iadrF sz H x i K) : ∃ v, K v ∧ ∀ K' : AV → Prop, K' v → iadrF sz H x i K' := by
  unfold iadrF at h
  split at h
  · exact ⟨_, h.2.2.2, fun K' h' => ⟨h.1, h.2.1, h.2.2.1, h'⟩⟩
  · exact ⟨_, h.2.2.2, fun K' h' => ⟨h.1, h.2.1, h.2.2.1, h'⟩⟩
  · exact h.elim
theorem iadrAF_det {n sz : Nat} {x i : AV} {K : AV → Prop} (h : iadrAF n sz x i K) : ∃ v, K v ∧ ∀ K' : AV → Prop, K' v → iadrAF n sz x i K' := by
  unfold iadrAF at h
  split at h
  · exact ⟨_, h.2.2, fun K' h' => ⟨h.1, h.2.1, h'⟩⟩
  · exact ⟨_, h.2.2, fun K' h' => ⟨h.1, h.2.1, h'⟩⟩
  · exact h.elim
theorem fadrF_det {off : Nat} {x : AV} {K : AV → Prop} (h : fadrF off x K) : ∃ v, K v ∧ ∀ K' : AV → Prop, K' v → fadrF off x K' := by
  unfold fadrF at h
  split at h
  · exact ⟨_, h, fun K' h' => h'⟩
  · exact ⟨_, h, fun K' h' => h'⟩
  · exact h.elim

theorem eqA_det : ∀ {ks : List (Option IntKind)} {xs ys : List AL} {acc : Bool} {F : Bool → Prop}, eqA ks xs ys acc F → ∃ r, F r ∧ ∀ F' : Bool → Prop, F' r → eqA ks xs ys acc F'
  | [], [], [], acc, F, h => ⟨acc, h, fun _ h => h⟩
  | none :: ks, .v (.bool a) :: xs, .v (.bool b) :: ys, acc, F, h => by
    simp only [eqA] at h ⊢
    exact eqA_det h
  | some q :: ks, .v (.int q1 a) :: xs, .v (.int q2 b) :: ys, acc, F, h => by
    simp only [eqA] at h ⊢
    obtain ⟨h1, h2, h3, h4, h⟩ := h
    obtain ⟨r, hr, hF⟩ := eqA_det h
    exact ⟨r, hr, fun F' h' => ⟨h1, h2, h3, h4, hF F' h'⟩⟩

theorem aop_det {ao : AOp} {tm : Nat → AV} {H : HP} {nx : Nat} {K : KT} (hdet : ao.det = true) (h : aop ao tm H nx K) : ∃ v H' nx', K v H' nx' ∧ ∀ K' : KT, K' v H' nx' → aop ao tm H nx K' := by
  cases ao with
  | mv x => exact ⟨_, _, _, h, fun _ h => h⟩
  | alloc z => exact ⟨_, _, _, h, fun _ h => h⟩
  | pick c a b =>
    simp only [aop] at h ⊢
    split at h
    · rename_i t he; exact ⟨_, _, _, h, fun _ h => by (first | exact h | (simp only [he]; exact h))⟩
    · exact h.elim
  | box x =>
    simp only [aop] at h ⊢
    split at h
    · rename_i t he; exact ⟨_, _, _, h, fun _ h => by (first | exact h | (simp only [he]; exact h))⟩
    · exact h.elim
  | build z parts =>
    simp only [aop] at h ⊢
    split at h
    · rename_i t he; exact ⟨_, _, _, h, fun _ h => by (first | exact h | (simp only [he]; exact h))⟩
    · exact h.elim
  | bslice fz sz len z parts =>
    simp only [aop] at h ⊢
    split at h
    · rename_i t he
      split at h
      · rename_i hf
        exact ⟨_, _, _, h.2, fun _ h' => by (first | exact ⟨h.1, h'⟩ | (rw [if_pos hf]; exact ⟨h.1, h'⟩) | (simp only [he]; rw [if_pos hf]; exact ⟨h.1, h'⟩))⟩
      · rename_i hf
        exact ⟨_, _, _, h, fun _ h' => by (first | exact h' | (rw [if_neg hf]; exact h') | (simp only [he]; rw [if_neg hf]; exact h'))⟩
    · exact h.elim
  | load agg sz x =>
    simp only [aop] at h ⊢
    split at h
    · rename_i l he
      split at h
      · rename_i xs hx
        obtain ⟨v, h, hv⟩ := outF_det h
        exact ⟨_, _, _, h, fun K' h' => by (first | exact hv _ h' | (simp only [he, hx]; exact hv _ h'))⟩
      · exact h.elim
    · exact h.elim
  | store sz x y =>
    simp only [aop] at h ⊢
    split at h
    · rename_i id row off c he1 he2
      split at h
      · rename_i z rows pu hH
        split at h
        · rename_i r hr
          exact ⟨_, _, _, h.2.2, fun K' h' => by (first | exact ⟨h.1, h.2.1, h'⟩ | (simp only [he1, he2, hH, hr]; exact ⟨h.1, h.2.1, h'⟩))⟩
        · exact h.elim
      · exact h.elim
    · exact h.elim
  | nilck x =>
    simp only [aop] at h ⊢
    split at h
    · rename_i id row off he; exact ⟨_, _, _, h, fun K' h' => by (first | exact h' | (simp only [he]; exact h'))⟩
    · rename_i id row off he; exact ⟨_, _, _, h, fun K' h' => by (first | exact h' | (simp only [he]; exact h'))⟩
    · exact h.elim
  | bin op x y =>
    simp only [aop] at h ⊢
    obtain ⟨v, h, hv⟩ := binA_det h
    exact ⟨_, _, _, h, fun K' h' => hv _ h'⟩
  | un op x =>
    simp only [aop] at h ⊢
    obtain ⟨v, h, hv⟩ := unA_det h
    exact ⟨_, _, _, h, fun K' h' => hv _ h'⟩
  | conv k x =>
    simp only [aop] at h ⊢
    split at h
    · rename_i k n he; exact ⟨_, _, _, h, fun _ h => by (first | exact h | (simp only [he]; exact h))⟩
    · exact h.elim
  | mkfn f caps =>
    simp only [aop] at h ⊢
    split at h
    · rename_i t he; exact ⟨_, _, _, h, fun _ h => by (first | exact h | (simp only [he]; exact h))⟩
    · exact h.elim
  | slc sz x lo hi mx =>
    simp only [aop] at h ⊢
    obtain ⟨v, h, hv⟩ := slcA_det h
    exact ⟨_, _, _, h, fun K' h' => hv _ h'⟩
  | fadr off x =>
    simp only [aop] at h ⊢
    obtain ⟨v, h, hv⟩ := fadrF_det h
    exact ⟨_, _, _, h, fun K' h' => hv _ h'⟩
  | iadr sz x i =>
    simp only [aop] at h ⊢
    obtain ⟨v, h, hv⟩ := iadrF_det h
    exact ⟨_, _, _, h, fun K' h' => hv _ h'⟩
  | iadrA n sz x i =>
    simp only [aop] at h ⊢
    obtain ⟨v, h, hv⟩ := iadrAF_det h
    exact ⟨_, _, _, h, fun K' h' => hv _ h'⟩
  | idxA n sz agg x i =>
    simp only [aop] at h ⊢
    split at h
    · rename_i cs k i he1 he2
      obtain ⟨h1, h2, h⟩ := h
      split at h
      · rename_i xs hx
        obtain ⟨v, h, hv⟩ := outF_det h
        exact ⟨_, _, _, h, fun K' h' => by (first | exact ⟨h1, h2, hv _ h'⟩ | (simp only [he1, he2, hx]; exact ⟨h1, h2, hv _ h'⟩))⟩
      · exact h.elim
    · exact h.elim
  | fld off sz agg x =>
    simp only [aop] at h ⊢
    split at h
    · rename_i l he
      split at h
      · rename_i xs hx
        obtain ⟨v, h, hv⟩ := outF_det h
        exact ⟨_, _, _, h, fun K' h' => by (first | exact hv _ h' | (simp only [he, hx]; exact hv _ h'))⟩
      · exact h.elim
    · exact h.elim
  | ext x i =>
    simp only [aop] at h ⊢
    split at h
    · rename_i l he
      split at h
      · rename_i xs hx
        exact ⟨_, _, _, h, fun K' h' => by (first | exact h' | (simp only [he, hx]; exact h'))⟩
      · exact h.elim
    · exact h.elim
  | app sz bytes x y =>
    simp only [aop] at h ⊢
    split at h
    · rename_i y' he1 he2
      split at h
      · rename_i srows sp hs
        exact ⟨_, _, _, h.2.2.2, fun K' h' => by (first | exact ⟨h.1, h.2.1, h.2.2.1, h'⟩ | (simp only [he1, he2, hs]; exact ⟨h.1, h.2.1, h.2.2.1, h'⟩))⟩
      · exact h.elim
    · rename_i id off len clip y' he1 he2
      split at h
      · rename_i z rows p srows sp hH hs
        exact ⟨_, _, _, h.2.2.2.2.2, fun K' h' => by (first | exact ⟨h.1, h.2.1, h.2.2.1, h.2.2.2.1, h.2.2.2.2.1, h'⟩ | (simp only [he1, he2, hH, hs]; exact ⟨h.1, h.2.1, h.2.2.1, h.2.2.2.1, h.2.2.2.2.1, h'⟩))⟩
      · exact h.elim
    · exact h.elim
  | mksl sz bytes z l c =>
    simp only [aop] at h ⊢
    split at h
    · rename_i l c he1 he2
      exact ⟨_, _, _, h.2.2.2.2, fun K' h' => by (first | exact ⟨h.1, h.2.1, h.2.2.1, h.2.2.2.1, h'⟩ | (simp only [he1, he2]; exact ⟨h.1, h.2.1, h.2.2.1, h.2.2.2.1, h'⟩))⟩
    · exact h.elim
  | len x =>
    simp only [aop] at h ⊢
    split at h
    · rename_i he; exact ⟨_, _, _, h, fun _ h => by (first | exact h | (simp only [he]; exact h))⟩
    · rename_i he; exact ⟨_, _, _, h, fun _ h => by (first | exact h | (simp only [he]; exact h))⟩
    · exact h.elim
  | mx l =>
    simp only [aop] at h ⊢
    split at h
    · exact h.elim
    · rename_i x r he
      split at h
      · rename_i v hv; exact ⟨_, _, _, h, fun _ h => by (first | exact h | (simp only [he, hv]; exact h))⟩
      · exact h.elim
  | no => exact h.elim
  | isnil b x => simp [AOp.det] at hdet
  | eqv neg ks x y =>
    simp only [aop] at h ⊢
    split at h
    · rename_i a b he1 he2
      obtain ⟨r, hr, hF⟩ := eqA_det h
      exact ⟨_, _, _, hr, fun K' h' => by (first | exact hF _ h' | (simp only [he1, he2]; exact hF _ h'))⟩
    · exact h.elim
  | eqb neg x y =>
    simp only [aop] at h ⊢
    split at h
    · rename_i a b he1 he2; exact ⟨_, _, _, h, fun _ h => by (first | exact h | (simp only [he1, he2]; exact h))⟩
    · exact h.elim
  | mkbm f x =>
    simp only [aop] at h ⊢
    split at h
    · rename_i a he; exact ⟨_, _, _, h, fun _ h => by (first | exact h | (simp only [he]; exact h))⟩
    · exact h.elim
  | appz sz bytes z x n =>
    simp only [aop] at h ⊢
    split at h
    · rename_i n he1 he2
      exact ⟨_, _, _, h.2.2.2, fun K' h' => by (first | exact ⟨h.1, h.2.1, h.2.2.1, h'⟩ | (simp only [he1, he2]; exact ⟨h.1, h.2.1, h.2.2.1, h'⟩))⟩
    · exact h.elim
  | cp x =>
    simp only [aop] at h ⊢
    split at h
    · exact ⟨_, _, _, h, fun _ h => h⟩
    · exact h.elim
  | mn l =>
    simp only [aop] at h ⊢
    split at h
    · exact h.elim
    · rename_i x r he
      split at h
      · rename_i v hv; exact ⟨_, _, _, h, fun _ h => by (first | exact h | (simp only [he, hv]; exact h))⟩
      · exact h.elim
end Go.Abs
