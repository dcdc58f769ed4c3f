import Derived.Test.YtinkdjjffjnpeaaTB4
namespace Go.Abs
set_option linter.unusedVariables false
open Go.RowKit

section
variable {ι ι' : IM} {ok ok' : Nat → Prop} {H H' : HP} {nx nx' : Nat} {w w' : World} {P : Program} {N : Nat × Nat} {s s' : St} {a a' : Act} {K : KT}

/-- a block that is no object of ours -/
theorem HSat.other (hs : HSat ι ok H nx w) (o : Obj) : HSat ι ok H nx (w.alloc o) where
  ok_lt k h := by rw [alloc_size]; have := hs.ok_lt k h; omega
  fresh := hs.fresh
  blk j z rows mt pu h := by
    obtain ⟨M, hM, h1, h2, h3, h4⟩ := hs.blk j z rows mt pu h
    refine ⟨M, hM, h1, h2, h3, fun hc => ?_⟩
    obtain ⟨b, hb, hlt, ⟨cv, hcv, hrep⟩, ho, hm⟩ := h4 hc
    refine ⟨b, hb, by rw [alloc_size]; omega, ⟨cv, fun i j hi hj => ?_, fun i j r x hr hx => ?_⟩, ho, fun hmt => ⟨(hm hmt).1, fun i j hi hj => ?_⟩⟩
    · rw [cell_alloc_old _ _ hlt]; exact hcv i j hi hj
    · exact (hrep i j r x hr hx).pim_mono (fun _ h => h) (fun k hk => Below.heap_alloc w o k (hs.ok_lt k hk)) (fun _ _ h => h)
    · rw [cell_alloc_old _ _ hlt, frozen_alloc_old _ _ hlt]; exact (hm hmt).2 i j hi hj
  loop j tm N ps as bd st pe h := by
    obtain ⟨M, hM, h1, b, r, hb, hnok, hr, h2, h3, h4⟩ := hs.loop j _ _ _ _ _ _ _ h
    exact ⟨M, hM, h1, b, r, hb, hnok, by rw [Below.heap_alloc _ _ _ (Array.getElem?_eq_some_iff.1 hr).1]; exact hr, h2, fun t => (h3 t).mono (fun _ h => h) (fun k hk => Below.heap_alloc w o k (hs.ok_lt k hk)) (fun _ _ h => h), h4⟩
  inj := hs.inj

theorem Ext.other (o : Obj) : Ext ι ok H nx w ι ok H (w.alloc o) where
  os := rfl
  tape := rfl
  output := rfl
  size := by rw [alloc_size]; omega
  same k hk _ := Below.heap_alloc w o k hk
  okm _ h := h
  okr _ h := .inl h
  im _ _ h := h
  imr _ _ := rfl
  mutr k h := .inl h

/-! ### weakening -/
def SLe (s s' : St) : Prop := ∀ N ι ok a w, Sat N ι ok s a w → ∃ ι' ok', Sat N ι' ok' s' a w ∧ Ext ι ok s.hp s.nx w ι' ok' s'.hp w ∧ s.nx ≤ s'.nx

theorem SLe.refl (s : St) : SLe s s := fun N ι ok a w h => ⟨ι, ok, h, Ext.refl, Nat.le_refl _⟩
theorem SLe.trans {s1 s2 s3 : St} (h1 : SLe s1 s2) (h2 : SLe s2 s3) : SLe s1 s3 := fun N ι ok a w h => by
  obtain ⟨ι', ok', g1, g2, g3⟩ := h1 N ι ok a w h
  obtain ⟨ι'', ok'', k1, k2, k3⟩ := h2 N ι' ok' a w g1
  exact ⟨ι'', ok'', k1, g2.trans k2 g3, Nat.le_trans g3 k3⟩

/-- forgetting -/
theorem SLe.of (ht : ∀ t, s'.tm t = .any ∨ s'.tm t = s.tm t) (hh : ∀ id, s'.hp id = s.hp id ∨ s'.hp id = .none) (hn : s.nx ≤ s'.nx) (hd : s'.df = s.df) : SLe s s' := fun N ι ok a w h => by
  have he : Ext ι ok s.hp s.nx w ι ok s'.hp w := Ext.drop hh
  refine ⟨ι, ok, ⟨(h.hs.drop hh).bump hn, h.sz, fun t => ?_, by rw [hd]; exact h.dl, fun i d x h1 h2 => ?_, h.bs, h.mks⟩, he, hn⟩
  · rcases ht t with e | e
    · rw [e]; exact .any _
    · rw [e]; exact h.tm t
  · rw [hd] at h2; exact (h.df i d x h1 h2).ext h.hs he

/-! ### code -/
inductive ACode where
  | skip
  | region (ops : List AOper)
  | drawn (ds : List DI)
  | seq (a b : ACode)
  | cond (c : AOpd) (a b : ACode)
  | block (id : Nat) (a : ACode)
  | loop (a : ACode)
  | rfunc (f : AOpd) (ps : List Nat) (assign body : Code)
  | exit (id : Nat)
  | ret
  | goto (l : Nat)
  | scope (a : ACode)

def AW (P : Program) (N : Nat × Nat) (top : Bool) (c : Code) (s : St) (Q : AOut → St → Prop) : Prop :=
  ∀ (r : Option Nat) (ι : IM) (ok : Nat → Prop) (a : Act) (w : World), (top = true → r = none) → Sat N ι ok s a w → c.wpIn (Fw r) 0 P (APost N ι ok s w Q) a w

/-- behind a range over a function -/
def rfEnd (id : Nat) (tm : Nat → AV) (df : List ADef) (Q : AOut → St → Prop) (H' : HP) (nx' : Nat) : Prop :=
  match H' id with
  | .loop _ _ _ _ _ st pend => st ≠ .busy ∧ match pend with
    | none => Q .normal ⟨tm, hset H' id .none, nx', .mark :: df⟩
    | some .ret => Q .ret ⟨tm, hset H' id .none, nx', .mark :: df⟩
    | some (.exit i) => Q (.exit i) ⟨tm, hset H' id .none, nx', .mark :: df⟩
    | some (.goto l) => Q (.goto l) ⟨tm, hset H' id .none, nx', .mark :: df⟩
    | _ => False
  | _ => False

def wpc (P : Program) (N : Nat) : ACode → St → (AOut → St → Prop) → Prop
  | .skip, s, Q => Q .normal s
  | .region ops, s, Q => wpo P ops s (Q .normal)
  | .drawn ds, s, Q => wpe P ds [] [] s (Q .normal)
  | .seq a b, s, Q => wpc P N a s fun o s1 => match o with | .normal => wpc P N b s1 Q | o => Q o s1
  | .cond c a b, s, Q => match c.ev s.tm with
    | .c (.x (.v (.bool t))) => (t = true → wpc P N a s Q) ∧ (t = false → wpc P N b s Q)
    | _ => False
  | .block id a, s, Q => wpc P N a s fun o s1 => match o with | .exit id' => if id' = id then Q .normal s1 else Q (.exit id') s1 | o => Q o s1
  | .loop a, s, Q => ∃ (β : Type) (L : β → St) (inv : β → Prop) (μ : β → Nat), (∃ b0, inv b0 ∧ SLe s (L b0)) ∧
      ∀ b, inv b → wpc P N a (L b) fun o s1 => match o with | .normal => ∃ b', inv b' ∧ SLe s1 (L b') ∧ μ b' < μ b | o => ∃ s2, SLe s1 s2 ∧ Q o s2
  | .rfunc f ps as bd, s, Q => match f.ev s.tm with
    | .c (.x (.fn (.func g) caps)) => ACall P g (.x (.yl s.nx) :: caps.map .x) (hset s.hp s.nx (.loop s.tm N ps as bd .ready none)) (s.nx + 1) fun _ H' nx' => rfEnd s.nx s.tm s.df Q H' nx'
    | _ => False
  | .exit id, s, Q => Q (.exit id) s
  | .ret, s, Q => Q .ret s
  | .goto l, s, Q => Q (.goto l) s
  | .scope a, s, Q => wpc P N a s fun o s1 => match o with | .goto _ => False | o => Q o s1

theorem rfEnd_mono {id : Nat} {tm : Nat → AV} {df : List ADef} {Q Q' : AOut → St → Prop} (hQ : ∀ o s, Q o s → Q' o s) {H' : HP} {nx' : Nat} (h : rfEnd id tm df Q H' nx') : rfEnd id tm df Q' H' nx' := by
  unfold rfEnd at h ⊢
  split at h
  · refine ⟨h.1, ?_⟩
    have h := h.2
    split at h
    · exact hQ _ _ h
    · exact hQ _ _ h
    · exact hQ _ _ h
    · exact hQ _ _ h
    · exact h.elim
  · exact h.elim
theorem wpc_mono {P : Program} {N : Nat} : ∀ {c : ACode} {s : St} {Q Q' : AOut → St → Prop}, (∀ o s, Q o s → Q' o s) → wpc P N c s Q → wpc P N c s Q'
  | .skip, s, Q, Q', hQ, h => hQ _ _ h
  | .region ops, s, Q, Q', hQ, h => wpo_mono (hQ .normal) h
  | .drawn ds, s, Q, Q', hQ, h => wpe_mono (hQ .normal) h
  | .seq a b, s, Q, Q', hQ, h => by
    simp only [wpc] at h ⊢
    refine wpc_mono (fun o s1 h1 => ?_) h
    cases o with
    | normal => exact wpc_mono hQ h1
    | exit i => exact hQ _ _ h1
    | goto l => exact hQ _ _ h1
    | ret => exact hQ _ _ h1
  | .cond c a b, s, Q, Q', hQ, h => by
    simp only [wpc] at h ⊢
    split at h
    · exact ⟨fun e => wpc_mono hQ (h.1 e), fun e => wpc_mono hQ (h.2 e)⟩
    · exact h.elim
  | .block id a, s, Q, Q', hQ, h => by
    simp only [wpc] at h ⊢
    refine wpc_mono (fun o s1 h1 => ?_) h
    cases o with
    | normal => exact hQ _ _ h1
    | exit i =>
      simp only at h1 ⊢
      split
      · rename_i e; rw [if_pos e] at h1; exact hQ _ _ h1
      · rename_i e; rw [if_neg e] at h1; exact hQ _ _ h1
    | goto l => exact hQ _ _ h1
    | ret => exact hQ _ _ h1
  | .loop a, s, Q, Q', hQ, h => by
    simp only [wpc] at h ⊢
    obtain ⟨β, L, inv, μ, h0, h⟩ := h
    refine ⟨β, L, inv, μ, h0, fun b hb => wpc_mono (fun o s1 h1 => ?_) (h b hb)⟩
    cases o with
    | normal => exact h1
    | exit i => obtain ⟨s2, g1, g2⟩ := h1; exact ⟨s2, g1, hQ _ _ g2⟩
    | goto l => obtain ⟨s2, g1, g2⟩ := h1; exact ⟨s2, g1, hQ _ _ g2⟩
    | ret => obtain ⟨s2, g1, g2⟩ := h1; exact ⟨s2, g1, hQ _ _ g2⟩
  | .rfunc f ps as bd, s, Q, Q', hQ, h => by
    simp only [wpc] at h ⊢
    split at h
    · exact ACall_mono (fun v H nx => rfEnd_mono hQ) h
    · exact h.elim
  | .exit id, s, Q, Q', hQ, h => hQ _ _ h
  | .ret, s, Q, Q', hQ, h => hQ _ _ h
  | .goto l, s, Q, Q', hQ, h => hQ _ _ h
  | .scope a, s, Q, Q', hQ, h => by
    simp only [wpc] at h ⊢
    refine wpc_mono (fun o s1 h1 => ?_) h
    cases o with
    | normal => exact hQ _ _ h1
    | exit i => exact hQ _ _ h1
    | goto l => exact h1
    | ret => exact hQ _ _ h1

def compC (P : Program) (top : Bool) (N : Nat) (on : List Nat) : Code → Option ACode
  | .skip => some .skip
  | .label _ => some .skip
  | .region _ ops draw => do
    let cs ← ops.toList.mapM (compOper P top N ops)
    if draw then (dAll (P.follows .mixedOrders) on ops (cs.map (AOper.fz true))).map .drawn else some (.region cs)
  | .seq a b => do some (.seq (← compC P top N on a) (← compC P top N on b))
  | .cond c a b => do some (.cond (← opd c) (← compC P top N on a) (← compC P top N on b))
  | .block id a => do some (.block id (← compC P top N on a))
  | .loop a => do some (.loop (← compC P top N on a))
  | .rangeFunc f ps as bd => if top then do some (.rfunc (← opd f) ps.toList as bd) else none
  | .exit id => some (.exit id)
  | .ret => some .ret
  | .goto l => some (.goto l)
  | .scope a => if top then do some (.scope (← compC P top N on a)) else none
  | .refuse _ => none

theorem APost.trans {Q : AOut → St → Prop} {e : Exit} (he : Ext ι ok s.hp s.nx w ι' ok' s'.hp w') (hn : s.nx ≤ s'.nx) {w'' : World} (h : APost N ι' ok' s' w' Q e a' w'') : APost N ι ok s w Q e a' w'' := by
  obtain ⟨o, s2, ι2, ok2, h1, h2, h3, h4, h5⟩ := h
  exact ⟨o, s2, ι2, ok2, h1, h2, h3, he.trans h4 hn, Nat.le_trans hn h5⟩

theorem AW.weaken {top : Bool} {c : Code} {Q : AOut → St → Prop} (h : SLe s s') (hw : AW P N top c s' Q) : AW P N top c s Q := fun r ι ok a w hr hs => by
  obtain ⟨ι', ok', g1, g2, g3⟩ := h N ι ok a w hs
  exact wpIn_mono (hw r ι' ok' a w hr g1) fun e a' w' hp => hp.trans g2 g3

end
end Go.Abs
