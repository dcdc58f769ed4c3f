import Derived.Test.YtinkdjjffjnpeaaTA13
namespace Go.Abs
set_option linter.unusedVariables false
open Go.RowKit

section
variable {ι ι' : IM} {ok ok' : Nat → Prop} {H H' : HP} {nx nx' : Nat} {w w' : World} {P : Program} {K : KT}

theorem HSat.id_lt (hs : HSat ι ok H nx w) {id : Nat} {L : Loc} (h : ι id = some L) : id < nx := by
  by_cases hlt : id < nx
  · exact hlt
  · have := (hs.fresh id (by omega)).1
    rw [this] at h; cases h

/-- an object that is not written any more, whatever its cells are -/
theorem freezeG (hs : HSat ι ok H nx w) {id z : Nat} {rows : List (List AL)} {mt pu : Bool} (hH : H id = .blk z rows mt pu) :
    ∃ ok', HSat ι ok' (hset H id (.blk z rows false pu)) nx w ∧ Ext ι ok H nx w ι ok' (hset H id (.blk z rows false pu)) w := by
  obtain ⟨L, hι, h1, h2, h3, h4⟩ := hs.blk id z rows mt pu hH
  have hid := hs.id_lt hι
  have g : ∀ j, (hset H id (.blk z rows false pu) j).live = true → j ≠ id ∧ (H j).live = true := fun j hl => by
    by_cases e : j = id
    · subst e; rw [hset_same] at hl; simp [HO.live] at hl
    · rw [hset_ne _ _ e] at hl; exact ⟨e, hl⟩
  have fin : ∀ ok' : Nat → Prop, (∀ k, ok k → ok' k) → (∀ k, ok' k → k < w.heap.size) → (∀ k, ok' k → ok k ∨ MutB ι H k) → (∀ k, ok' k → ¬ MutB ι (hset H id (.blk z rows false pu)) k) →
      (L.cap ≠ 0 → ∀ b, L.b = some b → ok' b) →
      HSat ι ok' (hset H id (.blk z rows false pu)) nx w ∧ Ext ι ok H nx w ι ok' (hset H id (.blk z rows false pu)) w := fun ok' hm hlt hr hnm hob => by
    refine ⟨⟨hlt, fun j hj => ?_, fun j z' rows' mt' pu' he => ?_, fun j tm N ps as bd st pe he => ?_, fun i j L1 L2 k hi hj hli hlj => hs.inj i j L1 L2 k hi hj (g _ hli).2 (g _ hlj).2⟩, ?_⟩
    · have : j ≠ id := by omega
      rw [hset_ne _ _ this]; exact hs.fresh j hj
    · by_cases e : j = id
      · subst e; rw [hset_same] at he; injection he with e1 e2 e3 e4; subst e1 e2 e3 e4
        refine ⟨L, hι, h1, h2, h3, fun hc => ?_⟩
        obtain ⟨b, hb, hlt', ⟨cv, hcv, hrep⟩, ho, hmm⟩ := h4 hc
        exact ⟨b, hb, hlt', ⟨cv, hcv, fun i j r x hr hx => (hrep i j r x hr hx).pim_mono hm (fun _ _ => rfl) (fun _ _ h => h)⟩, fun _ => hob hc b hb, by simp⟩
      · rw [hset_ne _ _ e] at he
        obtain ⟨M, hM, g1, g2, g3, g4⟩ := hs.blk j z' rows' mt' pu' he
        refine ⟨M, hM, g1, g2, g3, fun hc => ?_⟩
        obtain ⟨k, hk, hlt', ⟨cv', hcv', hrep'⟩, ho', hm'⟩ := g4 hc
        refine ⟨k, hk, hlt', ⟨cv', hcv', fun i j r x hr hx => (hrep' i j r x hr hx).pim_mono hm (fun _ _ => rfl) (fun _ _ h => h)⟩, fun h => hm _ (ho' h), fun h => ⟨fun h' => ?_, (hm' h).2⟩⟩
        subst h
        exact hnm k h' ⟨j, M, hM, by rw [hset_ne _ _ e]; exact HO.live_blk he, hc, hk⟩
    · by_cases e : j = id
      · subst e; rw [hset_same] at he; cases he
      · rw [hset_ne _ _ e] at he
        obtain ⟨M, hM, g1, k, r, hk, hnk, hr', g2, g3, g4⟩ := hs.loop j _ _ _ _ _ _ _ he
        refine ⟨M, hM, g1, k, r, hk, fun h' => ?_, hr', g2, fun t => (g3 t).mono hm (fun _ _ => rfl) (fun _ _ h => h), g4⟩
        exact hnm k h' ⟨j, M, hM, by rw [hset_ne _ _ e, he]; rfl, g1, hk⟩
    · exact { (Ext.refl : Ext ι ok H nx w ι ok H w) with
        okm := hm
        okr := fun k h => (hr k h).elim .inl (fun h => .inr (.inl h))
        mutr := by
          rintro k ⟨j, M, hM, hl, hc, hb'⟩
          exact .inl ⟨j, M, hM, (g j hl).2, hc, hb'⟩ }
  have nm : ∀ k, MutB ι (hset H id (.blk z rows false pu)) k → MutB ι H k := by
    rintro k ⟨j, M, hM, hl, hc, hb'⟩
    exact ⟨j, M, hM, (g j hl).2, hc, hb'⟩
  by_cases hcap : L.cap = 0
  · exact ⟨_, fin ok (fun _ h => h) hs.ok_lt (fun _ h => .inl h) (fun k h hm => hs.ok_notMut h (nm k hm)) (fun h => absurd hcap h)⟩
  · obtain ⟨b, hb, hlt, ⟨cv, hcv, hrep⟩, ho, hm⟩ := h4 hcap
    cases mt with
    | false => exact ⟨_, fin ok (fun _ h => h) hs.ok_lt (fun _ h => .inl h) (fun k h hm => hs.ok_notMut h (nm k hm)) (fun _ b' hb' => by rw [hb] at hb'; injection hb' with e; subst e; exact ho rfl)⟩
    | true =>
      have hmut : MutB ι H b := ⟨id, L, hι, HO.live_blk hH, hcap, hb⟩
      refine ⟨_, fin (fun k => ok k ∨ k = b) (fun _ h => .inl h) (fun k h => ?_) (fun k h => ?_) (fun k h hmm => ?_) (fun _ b' hb' => by rw [hb] at hb'; injection hb' with e; exact .inr e.symm)⟩
      · rcases h with h | rfl
        · exact hs.ok_lt k h
        · exact hlt
      · rcases h with h | rfl
        · exact .inl h
        · exact .inr hmut
      · rcases h with h | rfl
        · exact hs.ok_notMut h (nm k hmm)
        · obtain ⟨j, M, hM, hl, hc, hb'⟩ := hmm
          have := g j hl
          exact this.1 (hs.inj j id M L k hM hι this.2 (HO.live_blk hH) hc hcap hb' hb)

/-- a frozen object's cells, told otherwise -/
theorem recell (hs : HSat ι ok H nx w) {id : Nat} {L : Loc} (hι : ι id = some L) (hl : (H id).live = false) {z : Nat} {rows : List (List AL)} (hb : BlkRep ok w ι L z rows false true) :
    HSat ι ok (hset H id (.blk z rows false true)) nx w ∧ Ext ι ok H nx w ι ok (hset H id (.blk z rows false true)) w := by
  have hid := hs.id_lt hι
  have g : ∀ j, (hset H id (.blk z rows false true) j).live = true → (H j).live = true := fun j hl' => by
    by_cases e : j = id
    · subst e; rw [hset_same] at hl'; simp [HO.live] at hl'
    · rw [hset_ne _ _ e] at hl'; exact hl'
  refine ⟨⟨hs.ok_lt, fun j hj => ?_, fun j z' rows' mt' pu' he => ?_, fun j tm N ps as bd st pe he => ?_, fun i j L1 L2 k hi hj hli hlj => hs.inj i j L1 L2 k hi hj (g _ hli) (g _ hlj)⟩, ?_⟩
  · have : j ≠ id := by omega
    rw [hset_ne _ _ this]; exact hs.fresh j hj
  · by_cases e : j = id
    · subst e; rw [hset_same] at he; injection he with e1 e2 e3 e4; subst e1 e2 e3 e4
      exact ⟨L, hι, hb⟩
    · rw [hset_ne _ _ e] at he; exact hs.blk j z' rows' mt' pu' he
  · by_cases e : j = id
    · subst e; rw [hset_same] at he; cases he
    · rw [hset_ne _ _ e] at he; exact hs.loop j _ _ _ _ _ _ _ he
  · exact { (Ext.refl : Ext ι ok H nx w ι ok H w) with
      mutr := by
        rintro k ⟨j, M, hM, hl, hc, hb'⟩
        exact .inl ⟨j, M, hM, g j hl, hc, hb'⟩ }

/-! ### freezing what is handed on -/
def thr {α β : Type} (f : α → HP → Option (β × HP)) : List α → HP → Option (List β × HP)
  | [], H => some ([], H)
  | x :: r, H => match f x H with
    | some (y, H1) => match thr f r H1 with
      | some (ys, H2) => some (y :: ys, H2)
      | none => none
    | none => none

def frzL : Nat → AL → HP → Option (AL × HP)
  | 0, _, _ => none
  | n + 1, x, H => match x with
    | .v a => some (.v a, H)
    | .sl c r => some (.sl c r, H)
    | .fp r a b => some (.fp r a b, H)
    | .yl _ => none
    | .fn f caps => match thr (frzL n) caps H with
      | some (cs, H1) => some (.fn f cs, H1)
      | none => none
    | .bm f pre => match thr (frzL n) pre H with
      | some (cs, H1) => some (.bm f cs, H1)
      | none => none
    | .ow id off len clip => match H id with
      | .blk z rows mt true => if off + len ≤ rows.length then some (.sl clip ((rows.drop off).take len), hset H id (.blk z rows false true)) else none
      | .blk z rows mt false => match thr (thr (frzL n)) rows (hset H id (.blk z rows false false)) with
        | some (rows', H1) => if off + len ≤ rows'.length then some (.sl clip ((rows'.drop off).take len), hset H1 id (.blk z rows' false true)) else none
        | none => none
      | _ => none
    | .pt id row off => match H id with
      | .blk z rows mt true => if rows = [] then none else some (.fp rows row off, hset H id (.blk z rows false true))
      | .blk z rows mt false => match thr (thr (frzL n)) rows (hset H id (.blk z rows false false)) with
        | some (rows', H1) => if rows' = [] then none else some (.fp rows' row off, hset H1 id (.blk z rows' false true))
        | none => none
      | _ => none

/-- what freezing does -/
def FrzS (H : HP) (Rep Rep' : (Nat → Prop) → World → IM → Value → Prop) (H' : HP) : Prop :=
  ∀ ι ok nx w, HSat ι ok H nx w → ∃ ok', HSat ι ok' H' nx w ∧ Ext ι ok H nx w ι ok' H' w ∧ (∀ id, (H id).live = false → (H' id).live = false) ∧
    ∀ v, Rep ok w ι v → Rep' ok' w IM.nil v

theorem thr_spec {α β : Type} {f : α → HP → Option (β × HP)} {Rep : (Nat → Prop) → World → IM → Value → α → Prop} {Rep' : (Nat → Prop) → World → IM → Value → β → Prop}
    (hm : ∀ (ok ok' : Nat → Prop) (w : World) (ι : IM) (v : Value) (x : β), Rep' ok w ι v x → (∀ k, ok k → ok' k) → Rep' ok' w ι v x)
    (hm0 : ∀ (ok ok' : Nat → Prop) (w : World) (ι : IM) (v : Value) (x : α), Rep ok w ι v x → (∀ k, ok k → ok' k) → Rep ok' w ι v x)
    (hf : ∀ x H y H', f x H = some (y, H') → FrzS H (fun ok w ι v => Rep ok w ι v x) (fun ok w ι v => Rep' ok w ι v y) H') :
    ∀ (l : List α) (H : HP) (l' : List β) (H' : HP), thr f l H = some (l', H') → l'.length = l.length ∧ ∀ ι ok nx w, HSat ι ok H nx w → ∃ ok', HSat ι ok' H' nx w ∧ Ext ι ok H nx w ι ok' H' w ∧ (∀ id, (H id).live = false → (H' id).live = false) ∧
      ∀ (i : Nat) (x : α) (y : β), l[i]? = some x → l'[i]? = some y → ∀ v, Rep ok w ι v x → Rep' ok' w IM.nil v y
  | [], H, l', H', h => by
    simp only [thr] at h; injection h with h; injection h with h1 h2; subst h1 h2
    exact ⟨rfl, fun ι ok nx w hs => ⟨ok, hs, Ext.refl, fun _ h => h, by simp⟩⟩
  | x :: r, H, l', H', h => by
    simp only [thr] at h
    split at h
    case h_2 => cases h
    rename_i y H1 hy
    split at h
    case h_2 => cases h
    rename_i ys H2 hys
    injection h with h; injection h with h1 h2; subst h1 h2
    obtain ⟨hl, ih⟩ := thr_spec hm hm0 hf r H1 ys H2 hys
    refine ⟨by simp [hl], fun ι ok nx w hs => ?_⟩
    obtain ⟨ok1, a1, a2, a3, a4⟩ := hf x H y H1 hy ι ok nx w hs
    obtain ⟨ok2, b1, b2, b3, b4⟩ := ih ι ok1 nx w a1
    refine ⟨ok2, b1, a2.trans b2 (Nat.le_refl _), fun id h => b3 id (a3 id h), fun i x' y' hx' hy' v hv => ?_⟩
    cases i with
    | zero => simp at hx' hy'; subst hx' hy'; exact hm _ _ _ _ _ _ (a4 v hv) b2.okm
    | succ i => exact b4 i x' y' (by simpa using hx') (by simpa using hy') v (hm0 _ _ _ _ _ _ hv a2.okm)

theorem RepL.okm {v : Value} {x : AL} (h : RepL ok w ι v x) (hok : ∀ k, ok k → ok' k) : RepL ok' w ι v x := h.mono hok (fun _ _ => rfl) (fun _ _ h => h)
theorem RepC.okm {v : Value} {x : AC} (h : RepC ok w ι v x) (hok : ∀ k, ok k → ok' k) : RepC ok' w ι v x := h.mono hok (fun _ _ => rfl) (fun _ _ h => h)
theorem RepV.okm {v : Value} {x : AV} (h : RepV ok w ι v x) (hok : ∀ k, ok k → ok' k) : RepV ok' w ι v x := h.mono hok (fun _ _ => rfl) (fun _ _ h => h)
theorem RepCs.okm {v : List Value} {x : List AC} (h : RepCs ok w ι v x) (hok : ∀ k, ok k → ok' k) : RepCs ok' w ι v x := h.mono hok (fun _ _ => rfl) (fun _ _ h => h)

/-- rows of a frozen object -/
theorem frz_rows {n : Nat} (ih : ∀ x H y H', frzL n x H = some (y, H') → FrzS H (fun ok w ι v => RepL ok w ι v x) (fun ok w ι v => RepL ok w ι v y) H')
    {H H' : HP} {id z : Nat} {rows rows' : List (List AL)} {mt pu : Bool} (hH : H id = .blk z rows mt pu) (h : thr (thr (frzL n)) rows (hset H id (.blk z rows false pu)) = some (rows', H')) (hs : HSat ι ok H nx w) :
    ∃ ok', HSat ι ok' (hset H' id (.blk z rows' false true)) nx w ∧ Ext ι ok H nx w ι ok' (hset H' id (.blk z rows' false true)) w ∧ (∀ j, (H j).live = false → (hset H' id (.blk z rows' false true) j).live = false) := by
  obtain ⟨ok1, a1, a2⟩ := freezeG hs hH
  -- the rows, elementwise
  have inner := fun (r : List AL) (H : HP) (r' : List AL) (H' : HP) (h : thr (frzL n) r H = some (r', H')) => thr_spec (Rep := fun ok w ι v x => RepL ok w ι v x) (Rep' := fun ok w ι v x => RepL ok w ι v x) (fun _ _ _ _ _ _ h hk => RepL.okm h hk) (fun _ _ _ _ _ _ h hk => RepL.okm h hk) ih r H r' H' h
  have outer : ∀ (l : List (List AL)) (H : HP) (l' : List (List AL)) (H' : HP), thr (thr (frzL n)) l H = some (l', H') → l'.length = l.length ∧ (∀ (i : Nat) (r r' : List AL), l[i]? = some r → l'[i]? = some r' → r'.length = r.length) ∧ ∀ ι ok nx w, HSat ι ok H nx w → ∃ ok', HSat ι ok' H' nx w ∧ Ext ι ok H nx w ι ok' H' w ∧ (∀ id, (H id).live = false → (H' id).live = false) ∧
      ∀ (i j : Nat) (r r' : List AL) (x y : AL), l[i]? = some r → l'[i]? = some r' → r[j]? = some x → r'[j]? = some y → ∀ v, RepL ok w ι v x → RepL ok' w IM.nil v y := by
    intro l
    induction l with
    | nil =>
      intro H l' H' h
      simp only [thr] at h; injection h with h; injection h with h1 h2; subst h1 h2
      exact ⟨rfl, by simp, fun ι ok nx w hs => ⟨ok, hs, Ext.refl, fun _ h => h, by simp⟩⟩
    | cons r l ihl =>
      intro H l' H' h
      rw [thr] at h
      split at h
      case h_2 => cases h
      rename_i r1 H1 hr1
      split at h
      case h_2 => cases h
      rename_i rs H2 hrs
      injection h with h; injection h with h1 h2; subst h1 h2
      obtain ⟨e1, e2⟩ := inner r H r1 H1 hr1
      obtain ⟨f1, f2, f3⟩ := ihl H1 rs H2 hrs
      refine ⟨by simp [f1], fun i q q' hq hq' => ?_, fun ι ok nx w hs => ?_⟩
      · cases i with
        | zero => simp at hq hq'; subst hq hq'; exact e1
        | succ i => exact f2 i q q' (by simpa using hq) (by simpa using hq')
      · obtain ⟨ok1, b1, b2, b3, b4⟩ := e2 ι ok nx w hs
        obtain ⟨ok2, c1, c2, c3, c4⟩ := f3 ι ok1 nx w b1
        refine ⟨ok2, c1, b2.trans c2 (Nat.le_refl _), fun id h => c3 id (b3 id h), fun i j q q' x y hq hq' hx hy v hv => ?_⟩
        cases i with
        | zero => simp at hq hq'; subst hq hq'; exact (b4 j x y hx hy v hv).okm c2.okm
        | succ i => exact c4 i j q q' x y (by simpa using hq) (by simpa using hq') hx hy v (hv.okm b2.okm)
  obtain ⟨o1, o2, o3⟩ := outer rows _ rows' H' h
  obtain ⟨ok2, c1, c2, c3, c4⟩ := o3 ι ok1 nx w a1
  obtain ⟨L, hL, h1, h2, h3, h4⟩ := a1.blk id z rows false pu (hset_same _ _ _)
  have hb : BlkRep ok2 w ι L z rows' false true := by
    refine ⟨h1, fun r hr => ?_, by omega, fun hc => ?_⟩
    · obtain ⟨i, hi⟩ := List.getElem?_of_mem hr
      have hlt := (List.getElem?_eq_some_iff.1 hi).1
      have := o2 i _ r (List.getElem?_eq_getElem (by omega)) hi
      rw [this]; exact h2 _ (List.getElem_mem _)
    · obtain ⟨b, hb, hlt, ⟨cv, hcv, hrep⟩, ho, hm⟩ := h4 hc
      refine ⟨b, hb, hlt, ⟨cv, fun i j hi hj => hcv i j (by omega) hj, fun i j r x hr hx => ?_⟩, fun _ => c2.okm _ (ho rfl), by simp⟩
      have hli := (List.getElem?_eq_some_iff.1 hr).1
      have hlj := (List.getElem?_eq_some_iff.1 hx).1
      have hi' : i < rows.length := by omega
      have hlen := o2 i _ r (List.getElem?_eq_getElem hi') hr
      exact c4 i j rows[i] r _ x (List.getElem?_eq_getElem hi') hr (List.getElem?_eq_getElem (by omega)) hx _ ((hrep i j _ _ (List.getElem?_eq_getElem hi') (List.getElem?_eq_getElem (by omega))).pim_out)
  have hlive : (H' id).live = false := c3 id (by rw [hset_same]; rfl)
  obtain ⟨d1, d2⟩ := recell c1 hL hlive hb
  refine ⟨ok2, d1, (a2.trans c2 (Nat.le_refl _)).trans d2 (Nat.le_refl _), fun j hj => ?_⟩
  by_cases e : j = id
  · subst e; rw [hset_same]; rfl
  · rw [hset_ne _ _ e]
    exact c3 j (by rw [hset_ne _ _ e]; exact hj)

theorem frzL_sound : ∀ (n : Nat) (x : AL) (H : HP) (x' : AL) (H' : HP), frzL n x H = some (x', H') → FrzS H (fun ok w ι v => RepL ok w ι v x) (fun ok w ι v => RepL ok w ι v x') H'
  | 0, x, H, x', H', h => by simp [frzL] at h
  | n + 1, x, H, x', H', h => by
    intro ι ok nx w hs
    have ih := frzL_sound n
    have pureOnes : ∀ {id z : Nat} {rows : List (List AL)} {mt : Bool}, H id = .blk z rows mt true → ∃ ok', HSat ι ok' (hset H id (.blk z rows false true)) nx w ∧ Ext ι ok H nx w ι ok' (hset H id (.blk z rows false true)) w ∧ (∀ j, (H j).live = false → (hset H id (.blk z rows false true) j).live = false) := fun {id z rows mt} hH => by
      obtain ⟨ok1, a1, a2⟩ := freezeG hs hH
      refine ⟨ok1, a1, a2, fun j hj => ?_⟩
      by_cases e : j = id
      · subst e; rw [hset_same]; rfl
      · rw [hset_ne _ _ e]; exact hj
    cases x with
    | v a =>
      simp only [frzL] at h; injection h with h; injection h with h1 h2; subst h1 h2
      exact ⟨ok, hs, Ext.refl, fun _ h => h, fun v hv => hv.toNil (by simp [AL.pure])⟩
    | sl c r =>
      simp only [frzL] at h; injection h with h; injection h with h1 h2; subst h1 h2
      exact ⟨ok, hs, Ext.refl, fun _ h => h, fun v hv => hv.toNil (by simp [AL.pure])⟩
    | fp r a b =>
      simp only [frzL] at h; injection h with h; injection h with h1 h2; subst h1 h2
      exact ⟨ok, hs, Ext.refl, fun _ h => h, fun v hv => hv.toNil (by simp [AL.pure])⟩
    | yl i => simp [frzL] at h
    | fn f caps =>
      simp only [frzL] at h
      split at h
      case h_2 => cases h
      rename_i cs H1 hcs
      injection h with h; injection h with h1 h2; subst h1 h2
      obtain ⟨hl, g⟩ := thr_spec (Rep := fun ok w ι v x => RepL ok w ι v x) (Rep' := fun ok w ι v x => RepL ok w ι v x) (fun _ _ _ _ _ _ h hk => RepL.okm h hk) (fun _ _ _ _ _ _ h hk => RepL.okm h hk) ih caps H cs H1 hcs
      obtain ⟨ok1, a1, a2, a3, a4⟩ := g ι ok nx w hs
      refine ⟨ok1, a1, a2, a3, fun v hv => ?_⟩
      cases hv with
      | fn _ _ vs _ hvl hvr =>
        refine .fn _ f vs cs (by omega) fun i v y hv hy => ?_
        have hlt := (List.getElem?_eq_some_iff.1 hy).1
        have hlt' : i < caps.length := by omega
        exact a4 i _ y (List.getElem?_eq_getElem hlt') hy v (hvr i v _ hv (List.getElem?_eq_getElem hlt'))
    | bm f pre =>
      simp only [frzL] at h
      split at h
      case h_2 => cases h
      rename_i cs H1 hcs
      injection h with h; injection h with h1 h2; subst h1 h2
      obtain ⟨hl, g⟩ := thr_spec (Rep := fun ok w ι v x => RepL ok w ι v x) (Rep' := fun ok w ι v x => RepL ok w ι v x) (fun _ _ _ _ _ _ h hk => RepL.okm h hk) (fun _ _ _ _ _ _ h hk => RepL.okm h hk) ih pre H cs H1 hcs
      obtain ⟨ok1, a1, a2, a3, a4⟩ := g ι ok nx w hs
      refine ⟨ok1, a1, a2, a3, fun v hv => ?_⟩
      cases hv with
      | bm _ _ vs _ hvl hvr =>
        refine .bm _ f vs cs (by omega) fun i v y hv hy => ?_
        have hlt := (List.getElem?_eq_some_iff.1 hy).1
        have hlt' : i < pre.length := by omega
        exact a4 i _ y (List.getElem?_eq_getElem hlt') hy v (hvr i v _ hv (List.getElem?_eq_getElem hlt'))
    | ow id off len clip =>
      simp only [frzL] at h
      split at h
      · rename_i z rows mt hH
        split at h
        case isFalse => cases h
        rename_i hle
        injection h with h; injection h with h1 h2; subst h1 h2
        obtain ⟨ok1, a1, a2, a3⟩ := pureOnes hH
        exact ⟨ok1, a1, a2, a3, fun v hv => (ow_sl (pu := true) a1 (a2.repL hs hv) (hset_same _ _ _) hle).toNil (by simp [AL.pure])⟩
      · rename_i z rows mt hH
        split at h
        case h_2 => cases h
        rename_i rows' H1 hr
        split at h
        case isFalse => cases h
        rename_i hle
        injection h with h; injection h with h1 h2; subst h1 h2
        obtain ⟨ok1, a1, a2, a3⟩ := frz_rows ih hH hr hs
        exact ⟨ok1, a1, a2, a3, fun v hv => (ow_sl (pu := true) a1 (a2.repL hs hv) (hset_same _ _ _) hle).toNil (by simp [AL.pure])⟩
      · cases h
    | pt id row off =>
      simp only [frzL] at h
      split at h
      · rename_i z rows mt hH
        split at h
        case isTrue => cases h
        rename_i hle
        injection h with h; injection h with h1 h2; subst h1 h2
        obtain ⟨ok1, a1, a2, a3⟩ := pureOnes hH
        exact ⟨ok1, a1, a2, a3, fun v hv => (pt_fp a1 (a2.repL hs hv) (hset_same _ _ _) hle).toNil (by simp [AL.pure])⟩
      · rename_i z rows mt hH
        split at h
        case h_2 => cases h
        rename_i rows' H1 hr
        split at h
        case isTrue => cases h
        rename_i hle
        injection h with h; injection h with h1 h2; subst h1 h2
        obtain ⟨ok1, a1, a2, a3⟩ := frz_rows ih hH hr hs
        exact ⟨ok1, a1, a2, a3, fun v hv => (pt_fp a1 (a2.repL hs hv) (hset_same _ _ _) hle).toNil (by simp [AL.pure])⟩
      · cases h

def frzC : AC → HP → Option (AC × HP)
  | .x l, H => match frzL 9 l H with
    | some (y, H1) => some (.x y, H1)
    | none => none
  | .agg xs, H => match thr (frzL 9) xs H with
    | some (ys, H1) => some (.agg ys, H1)
    | none => none
def frzV : AV → HP → Option (AV × HP)
  | .any, H => some (.any, H)
  | .c c, H => match frzC c H with
    | some (y, H1) => some (.c y, H1)
    | none => none
  | .tup xs, H => match thr frzC xs H with
    | some (ys, H1) => some (.tup ys, H1)
    | none => none

theorem frzC_sound (x : AC) (H : HP) (x' : AC) (H' : HP) (h : frzC x H = some (x', H')) : FrzS H (fun ok w ι v => RepC ok w ι v x) (fun ok w ι v => RepC ok w ι v x') H' := by
  intro ι ok nx w hs
  cases x with
  | x l =>
    simp only [frzC] at h
    split at h
    case h_2 => cases h
    rename_i y H1 hy
    injection h with h; injection h with h1 h2; subst h1 h2
    obtain ⟨ok1, a1, a2, a3, a4⟩ := frzL_sound 9 l H y H1 hy ι ok nx w hs
    exact ⟨ok1, a1, a2, a3, fun v hv => by cases hv with | x h => exact .x (a4 v h)⟩
  | agg xs =>
    simp only [frzC] at h
    split at h
    case h_2 => cases h
    rename_i ys H1 hy
    injection h with h; injection h with h1 h2; subst h1 h2
    obtain ⟨hl, g⟩ := thr_spec (Rep := fun ok w ι v x => RepL ok w ι v x) (Rep' := fun ok w ι v x => RepL ok w ι v x) (fun _ _ _ _ _ _ h hk => RepL.okm h hk) (fun _ _ _ _ _ _ h hk => RepL.okm h hk) (frzL_sound 9) xs H ys H1 hy
    obtain ⟨ok1, a1, a2, a3, a4⟩ := g ι ok nx w hs
    refine ⟨ok1, a1, a2, a3, fun v hv => ?_⟩
    cases hv with
    | agg hcl hc =>
      refine .agg (by omega) fun i v y hv hy => ?_
      have hlt := (List.getElem?_eq_some_iff.1 hy).1
      have hlt' : i < xs.length := by omega
      exact a4 i _ y (List.getElem?_eq_getElem hlt') hy v (hc i v _ hv (List.getElem?_eq_getElem hlt'))

theorem frzCs_sound {xs ys : List AC} (h : thr frzC xs H = some (ys, H')) (hs : HSat ι ok H nx w) : ∃ ok', HSat ι ok' H' nx w ∧ Ext ι ok H nx w ι ok' H' w ∧ ∀ vs, RepCs ok w ι vs xs → RepCs ok' w IM.nil vs ys := by
  obtain ⟨hl, g⟩ := thr_spec (Rep := fun ok w ι v x => RepC ok w ι v x) (Rep' := fun ok w ι v x => RepC ok w ι v x) (fun _ _ _ _ _ _ h hk => RepC.okm h hk) (fun _ _ _ _ _ _ h hk => RepC.okm h hk) frzC_sound xs H ys H' h
  obtain ⟨ok1, a1, a2, a3, a4⟩ := g ι ok nx w hs
  refine ⟨ok1, a1, a2, fun vs hv => ⟨by rw [hv.1, hl], fun i v y hv' hy => ?_⟩⟩
  have hlt := (List.getElem?_eq_some_iff.1 hy).1
  have hlt' : i < xs.length := by omega
  exact a4 i _ y (List.getElem?_eq_getElem hlt') hy v (hv.2 i v _ hv' (List.getElem?_eq_getElem hlt'))

theorem frzV_sound {x y : AV} (h : frzV x H = some (y, H')) (hs : HSat ι ok H nx w) : ∃ ok', HSat ι ok' H' nx w ∧ Ext ι ok H nx w ι ok' H' w ∧ ∀ v, RepV ok w ι v x → RepV ok' w IM.nil v y := by
  cases x with
  | any =>
    simp only [frzV] at h; injection h with h; injection h with h1 h2; subst h1 h2
    exact ⟨ok, hs, Ext.refl, fun v _ => .any v⟩
  | c c =>
    simp only [frzV] at h
    split at h
    case h_2 => cases h
    rename_i y H1 hy
    injection h with h; injection h with h1 h2; subst h1 h2
    obtain ⟨ok1, a1, a2, a3, a4⟩ := frzC_sound c H y H1 hy ι ok nx w hs
    exact ⟨ok1, a1, a2, fun v hv => .c (a4 v hv.comp)⟩
  | tup xs =>
    simp only [frzV] at h
    split at h
    case h_2 => cases h
    rename_i ys H1 hy
    injection h with h; injection h with h1 h2; subst h1 h2
    obtain ⟨ok1, a1, a2, a4⟩ := frzCs_sound hy hs
    refine ⟨ok1, a1, a2, fun v hv => ?_⟩
    cases hv with
    | tup hl hr => exact .tup (a4 _ ⟨hl, hr⟩).1 (a4 _ ⟨hl, hr⟩).2

/-! ### closed calls -/
/-- a call whose arguments refer to nothing that is written, and so does what it returns -/
def Holds (P : Program) (f : FuncId) (args : List AC) (R : AV → Prop) : Prop :=
  Enters P f ∧ ∀ ok w vs, (∀ k, ok k → k < w.heap.size) → RepCs ok w IM.nil vs args → CallsIn Fence.wide 0 P f vs.toArray w fun e w' =>
    ∃ v x ok', e = .returned v ∧ R x ∧ w'.os = w.os ∧ w'.tape = w.tape ∧ w'.output = w.output ∧ w.heap.size ≤ w'.heap.size ∧ (∀ k, k < w.heap.size → w'.heap[k]? = w.heap[k]?) ∧
      (∀ k, ok k → ok' k) ∧ (∀ k, ok' k → ok k ∨ w.heap.size ≤ k) ∧ (∀ k, ok' k → k < w'.heap.size) ∧ RepV ok' w' IM.nil v x

theorem Holds.mono {f : FuncId} {args : List AC} {R R' : AV → Prop} (h : Holds P f args R) (hr : ∀ x, R x → R' x) : Holds P f args R' :=
  ⟨h.1, fun ok w vs h1 h2 => CallsIn.mono (h.2 ok w vs h1 h2) fun e w' ⟨v, x, ok', a, b, c⟩ => ⟨v, x, ok', a, hr x b, c⟩⟩

def H0 : HP := fun _ => .none

theorem Holds_of_ACall {f : FuncId} {args : List AC} {R : AV → Prop} (h : ACall P f args H0 0 fun x H' _ => ∃ y H2, frzV x H' = some (y, H2) ∧ R y) : Holds P f args R := by
  refine ⟨h.1, fun ok w vs hok hv => ?_⟩
  have hs : HSat IM.nil ok H0 0 w := ⟨hok, fun _ _ => ⟨rfl, rfl⟩, fun _ _ _ _ _ h => (by cases h), fun _ _ _ _ _ _ _ _ h => (by cases h), fun _ _ _ _ _ h => (by cases h)⟩
  have hnm : ∀ k, ¬ MutB IM.nil H0 k := by rintro k ⟨id, L, h, _⟩; cases h
  refine CallsIn.mono (h.2 IM.nil ok w vs hs hv) ?_
  rintro e w' ⟨v, x, H', nx', ι', ok', rfl, ⟨y, H2, hf, hR⟩, h1, h2, h3, h4⟩
  obtain ⟨ok2, a1, a2, a3⟩ := frzV_sound hf h1
  have he := h2.trans a2 h4
  exact ⟨v, y, ok2, rfl, hR, he.os, he.tape, he.output, he.size, fun k hk => he.same k hk (hnm k), he.okm, fun k hk => (he.okr k hk).elim .inl (fun h => h.elim (fun h => absurd h (hnm k)) .inr), a1.ok_lt, a3 v h3⟩

theorem ACall_closed {f : FuncId} {args ys : List AC} {R : AV → Prop} (h : Holds P f ys R) (hf : thr frzC args H = some (ys, H')) (hk : ∀ x, R x → K x H' nx) : ACall P f args H nx K := by
  refine ⟨h.1, fun ι ok w vs hs hv => ?_⟩
  obtain ⟨ok1, a1, a2, a3⟩ := frzCs_sound hf hs
  refine CallsIn.mono (h.2 ok1 w vs a1.ok_lt (a3 vs hv)) ?_
  rintro e w' ⟨v, x, ok', rfl, hR, b1, b2, b3, b4, b5, b6, b7, b8, b9⟩
  exact ⟨v, x, H', nx, ι, ok', rfl, hk x hR, a1.later b4 b5 b6 b7 b8, a2.trans (Ext.later b1 b2 b3 b4 b5 b6 b7) (Nat.le_refl _), b9.mono (fun _ h => h) (fun _ _ => rfl) (fun _ _ h => by simp [IM.nil] at h), Nat.le_refl _⟩

/-- results without references -/
def AC.scal : AC → Bool
  | .x (.v _) => true
  | .x _ => false
  | .agg xs => xs.all fun x => match x with | .v _ => true | _ => false
def AV.scal : AV → Bool
  | .any => true
  | .c a => a.scal
  | .tup xs => xs.all AC.scal

theorem RepL.scal {v a : Value} (h : RepL ok w ι v (.v a)) : RepL ok' w' ι' v (.v a) := by cases h with | v _ _ h => exact .v _ _ h
theorem RepC.scal {v : Value} {x : AC} (h : RepC ok w ι v x) (hx : x.scal = true) : RepC ok' w' ι' v x := by
  cases h with
  | x h => cases h <;> first | exact .x (.v _ _ (by assumption)) | simp [AC.scal] at hx
  | agg hl h =>
    refine .agg hl fun i v y hv hy => ?_
    have h1 := h i v y hv hy
    simp only [AC.scal, List.all_eq_true] at hx
    have := hx y (List.mem_of_getElem? hy)
    cases y <;> first | exact h1.scal | simp at this
theorem RepV.scal {v : Value} {x : AV} (h : RepV ok w ι v x) (hx : x.scal = true) : RepV ok' w' ι' v x := by
  cases h with
  | any => exact .any _
  | c h => exact .c (h.scal hx)
  | tup hl h =>
    refine .tup hl fun i v y hv hy => ?_
    simp only [AV.scal, List.all_eq_true] at hx
    exact (h i v y hv hy).scal (hx y (List.mem_of_getElem? hy))

/-- a call that only looks -/
theorem ACall_looks {f : FuncId} {args ys : List AC} {R : AV → Prop} (h : Holds P f ys R) (hf : (thr frzC args H).map (·.1) = some ys) (hsc : ∀ x, R x → x.scal = true) (hk : ∀ x, R x → K x H nx) : ACall P f args H nx K := by
  refine ⟨h.1, fun ι ok w vs hs hv => ?_⟩
  cases hf' : thr frzC args H with
  | none => rw [hf'] at hf; cases hf
  | some p =>
    obtain ⟨ys', H'⟩ := p
    rw [hf'] at hf; injection hf with hf; simp only at hf; subst hf
    obtain ⟨ok1, a1, a2, a3⟩ := frzCs_sound hf' hs
    refine CallsIn.mono (h.2 ok1 w vs a1.ok_lt (a3 vs hv)) ?_
    rintro e w' ⟨v, x, ok', rfl, hR, b1, b2, b3, b4, b5, b6, b7, b8, b9⟩
    exact ⟨v, x, H, nx, ι, ok, rfl, hk x hR, hs.later b4 b5 (fun _ h => h) (fun _ h => .inl h) (fun k hk => Nat.lt_of_lt_of_le (hs.ok_lt k hk) b4), Ext.later b1 b2 b3 b4 b5 (fun _ h => h) (fun _ h => .inl h), b9.scal (hsc x hR), Nat.le_refl _⟩
end
end Go.Abs
