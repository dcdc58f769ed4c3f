import Derived.Test.YtinkdjjffjnpeaaTB3
namespace Go.Abs
set_option linter.unusedVariables false
open Go.RowKit

/-! ### the same, guards first -/
def gdE (gd : Option (Nat × Bool)) (tm : Nat → AV) (run skip : Prop) : Prop :=
  match gd with
  | none => run
  | some (g, b) => match tm g with
    | .c (.x (.v (.bool t))) => (t = b → run) ∧ (t = !b → skip)
    | .tup [] => skip
    | _ => False

def wpe (P : Program) : List DI → List (HP × Nat) → List FL → St → (St → Prop) → Prop
  | [], past, F, s, T => T s
  | d :: r, past, F, s, T =>
    gdE d.o.gd s.tm
      (match d.eff with
       | true => runX P true d.o.op s.tm s.hp s.nx fun v H nx => allFL P (past.length + 1) H nx F ∧ wpe P r (past ++ [(s.hp, s.nx)]) F ⟨dset s.tm d.o.dst v, H, nx, s.df⟩ T
       | false => runX P false d.o.op s.tm s.hp s.nx fun v H nx => H = s.hp ∧ nx = s.nx ∧ (d.o.op.isCall = true ∨ allPast P ⟨d.o.dst, d.o.op, none⟩ s.tm v d.lo 0 past) ∧
          wpe P r past (if d.o.op.isCall = true ∨ d.hi ≤ past.length then F else ⟨⟨d.o.dst, d.o.op, none⟩, s.tm, v, d.hi⟩ :: F) ⟨dset s.tm d.o.dst v, s.hp, s.nx, s.df⟩ T)
      (match d.eff with
       | true => allFL P (past.length + 1) s.hp s.nx F ∧ wpe P r (past ++ [(s.hp, s.nx)]) F ⟨dset s.tm d.o.dst (.tup []), s.hp, s.nx, s.df⟩ T
       | false => wpe P r past F ⟨dset s.tm d.o.dst (.tup []), s.hp, s.nx, s.df⟩ T)

section
variable {P : Program}

theorem callX_mono {opn : Bool} {f : AV} {args : List AV} {H : HP} {nx : Nat} {K K' : KT} (hk : ∀ v H nx, K v H nx → K' v H nx) (h : callX P opn f args H nx K) : callX P opn f args H nx K' := by
  unfold callX at h ⊢
  split at h
  case h_2 => exact h.elim
  split at h
  · cases opn with
    | true => obtain ⟨v, H', nx', h1, h2⟩ := h; exact ⟨v, H', nx', h1, hk _ _ _ h2⟩
    | false => obtain ⟨h0, v, h1, h2⟩ := h; exact ⟨h0, v, h1, hk _ _ _ h2⟩
  · cases opn with
    | true => obtain ⟨v, H', nx', h1, h2⟩ := h; exact ⟨v, H', nx', h1, hk _ _ _ h2⟩
    | false => obtain ⟨h0, v, h1, h2⟩ := h; exact ⟨h0, v, h1, hk _ _ _ h2⟩
  · obtain ⟨h0, v, H', nx', h1, h2⟩ := h; exact ⟨h0, v, H', nx', h1, hk _ _ _ h2⟩
  · exact h.elim

theorem runX_mono {opn : Bool} {o : AO} {tm : Nat → AV} {H : HP} {nx : Nat} {K K' : KT} (hk : ∀ v H nx, K v H nx → K' v H nx) (h : runX P opn o tm H nx K) : runX P opn o tm H nx K' := by
  cases o with
  | op ao =>
    obtain ⟨hd, h⟩ := h
    obtain ⟨v, H', nx', h1, h2⟩ := aop_det hd h
    exact ⟨hd, h2 _ (hk _ _ _ h1)⟩
  | call f args => exact callX_mono hk h
  | defer f args => exact h.elim

theorem again_gd {d : Option Nat} {o : AO} {gd : Option (Nat × Bool)} {tm : Nat → AV} {v : AV} {H : HP} {nx : Nat} (hg : gd = none ∨ ∃ g b, gd = some (g, b) ∧ tm g = .c (.x (.v (.bool b)))) (h : again P ⟨d, o, none⟩ tm v H nx) : again P ⟨d, o, gd⟩ tm v H nx := by
  rcases hg with rfl | ⟨g, b, rfl, e⟩
  · exact h
  · unfold again stpX guardV at h ⊢
    simp only [e]
    exact ⟨fun _ => h, fun e' => by cases b <;> cases e'⟩
theorem again_skip {d : Option Nat} {o : AO} {g : Nat} {b : Bool} {tm : Nat → AV} {H : HP} {nx : Nat} (hg : tm g = .c (.x (.v (.bool (!b)))) ∨ tm g = .tup []) : again P ⟨d, o, some (g, b)⟩ tm (.tup []) H nx := by
  unfold again stpX guardV
  rcases hg with e | e
  · simp [e]
  · simp [e]

theorem allPast_imp {o o' : AOper} {tm : Nat → AV} {v : AV} {lo : Nat} (h : ∀ H nx, again P o tm v H nx → again P o' tm v H nx) : ∀ {l : List (HP × Nat)} {k : Nat}, allPast P o tm v lo k l → allPast P o' tm v lo k l
  | [], _, _ => trivial
  | p :: r, k, hp => ⟨fun hk => h _ _ (hp.1 hk), allPast_imp h hp.2⟩
theorem allPast_all {o : AOper} {tm : Nat → AV} {v : AV} {lo : Nat} (h : ∀ H nx, again P o tm v H nx) : ∀ {l : List (HP × Nat)} {k : Nat}, allPast P o tm v lo k l
  | [], _ => trivial
  | p :: r, k => ⟨fun hk => h _ _, allPast_all h⟩

theorem wpe_wpd : ∀ (ds : List DI) (past : List (HP × Nat)) (F F' : List FL) (s : St) (T : St → Prop), (∀ k H nx, allFL P k H nx F → allFL P k H nx F') → wpe P ds past F s T → wpd P ds past F' s T
  | [], past, F, F', s, T, hF, h => h
  | d :: r, past, F, F', s, T, hF, h => by
    obtain ⟨⟨dst, o, gd⟩, eff, lo, hi⟩ := d
    simp only [wpe] at h
    simp only [wpd]
    cases eff with
    | true =>
      simp only [if_true] at h ⊢
      have run : runX P true o s.tm s.hp s.nx (fun v H nx => allFL P (past.length + 1) H nx F ∧ wpe P r (past ++ [(s.hp, s.nx)]) F ⟨dset s.tm dst v, H, nx, s.df⟩ T) →
          runX P true o s.tm s.hp s.nx (fun v H nx => allFL P (past.length + 1) H nx F' ∧ wpd P r (past ++ [(s.hp, s.nx)]) F' (s.put' dst v H nx s.df) T) := fun h =>
        runX_mono (fun v H nx ⟨h1, h2⟩ => ⟨hF _ _ _ h1, by rw [put'_dset]; exact wpe_wpd r _ F F' _ T hF h2⟩) h
      have skip : (allFL P (past.length + 1) s.hp s.nx F ∧ wpe P r (past ++ [(s.hp, s.nx)]) F ⟨dset s.tm dst (.tup []), s.hp, s.nx, s.df⟩ T) → allFL P (past.length + 1) s.hp s.nx F' ∧ wpd P r (past ++ [(s.hp, s.nx)]) F' (s.put' dst (.tup []) s.hp s.nx s.df) T := fun ⟨h1, h2⟩ =>
        ⟨hF _ _ _ h1, by rw [put'_dset]; exact wpe_wpd r _ F F' _ T hF h2⟩
      unfold stpX guardV
      unfold gdE at h
      cases gd with
      | none => exact run h
      | some gb =>
        obtain ⟨g, b⟩ := gb
        simp only at h ⊢
        split at h
        · rename_i t he; simp only [he]; exact ⟨fun e => run (h.1 e), fun e => skip (h.2 e)⟩
        · rename_i he; simp only [he]; exact skip h
        · exact h.elim
    | false =>
      simp only [Bool.false_eq_true, if_false] at h ⊢
      have hFL : ∀ v, (∀ H nx, again P ⟨dst, o, none⟩ s.tm v H nx → again P ⟨dst, o, gd⟩ s.tm v H nx) → ∀ k H nx, allFL P k H nx (if o.isCall = true ∨ hi ≤ past.length then F else ⟨⟨dst, o, none⟩, s.tm, v, hi⟩ :: F) → allFL P k H nx (if o.isCall = true ∨ hi ≤ past.length then F' else ⟨⟨dst, o, gd⟩, s.tm, v, hi⟩ :: F') := fun v ha k H nx hfl => by
        split
        · rename_i hc; rw [if_pos hc] at hfl; exact hF _ _ _ hfl
        · rename_i hc; rw [if_neg hc] at hfl; exact ⟨fun hk => ha _ _ (hfl.1 hk), hF _ _ _ hfl.2⟩
      have run : (gd = none ∨ ∃ g b, gd = some (g, b) ∧ s.tm g = .c (.x (.v (.bool b)))) → runX P false o s.tm s.hp s.nx (fun v H nx => H = s.hp ∧ nx = s.nx ∧ (o.isCall = true ∨ allPast P ⟨dst, o, none⟩ s.tm v lo 0 past) ∧
          wpe P r past (if o.isCall = true ∨ hi ≤ past.length then F else ⟨⟨dst, o, none⟩, s.tm, v, hi⟩ :: F) ⟨dset s.tm dst v, s.hp, s.nx, s.df⟩ T) →
          runX P false o s.tm s.hp s.nx (fun v H nx => H = s.hp ∧ nx = s.nx ∧ (o.isCall = true ∨ allPast P ⟨dst, o, gd⟩ s.tm v lo 0 past) ∧
          wpd P r past (if o.isCall = true ∨ hi ≤ past.length then F' else ⟨⟨dst, o, gd⟩, s.tm, v, hi⟩ :: F') (s.put' dst v s.hp s.nx s.df) T) := fun hg h =>
        runX_mono (fun v H nx ⟨h1, h2, h3, h4⟩ => ⟨h1, h2, h3.imp_right (allPast_imp fun H nx => again_gd hg), by rw [put'_dset]; exact wpe_wpd r _ _ _ _ T (hFL v fun H nx => again_gd hg) h4⟩) h
      have skip : ∀ g b, gd = some (g, b) → (s.tm g = .c (.x (.v (.bool (!b)))) ∨ s.tm g = .tup []) → wpe P r past F ⟨dset s.tm dst (.tup []), s.hp, s.nx, s.df⟩ T → True ∧ True ∧ (o.isCall = true ∨ allPast P ⟨dst, o, gd⟩ s.tm (.tup []) lo 0 past) ∧
          wpd P r past (if o.isCall = true ∨ hi ≤ past.length then F' else ⟨⟨dst, o, gd⟩, s.tm, .tup [], hi⟩ :: F') (s.put' dst (.tup []) s.hp s.nx s.df) T := fun g b hgb hg h' => by
        subst hgb
        refine ⟨trivial, trivial, .inr (allPast_all fun H nx => again_skip hg), ?_⟩
        rw [put'_dset]
        refine wpe_wpd r _ F _ _ T (fun k H nx hfl => ?_) h'
        split
        · exact hF _ _ _ hfl
        · exact ⟨fun _ => again_skip hg, hF _ _ _ hfl⟩
      unfold stpX guardV
      unfold gdE at h
      cases gd with
      | none => exact run (.inl rfl) h
      | some gb =>
        obtain ⟨g, b⟩ := gb
        simp only at h ⊢
        split at h
        · rename_i t he
          simp only [he]
          refine ⟨fun e => run (.inr ⟨g, b, rfl, by rw [he, e]⟩) (h.1 e), fun e => skip g b rfl (.inl (by rw [he, e])) (h.2 e)⟩
        · rename_i he; simp only [he]; exact skip g b rfl (.inr he) h
        · exact h.elim

/-! ### more may hold behind -/
theorem aop_mono {ao : AOp} {tm : Nat → AV} {H : HP} {nx : Nat} {K K' : KT} (hk : ∀ v H nx, K v H nx → K' v H nx) (h : aop ao tm H nx K) : aop ao tm H nx K' := by
  by_cases hd : ao.det = true
  · obtain ⟨v, H', nx', h1, h2⟩ := aop_det hd h
    exact h2 _ (hk _ _ _ h1)
  · cases ao <;> simp [AOp.det] at hd
    simp only [aop] at h ⊢
    split at h
    · exact ⟨fun e => hk _ _ _ (h.1 e), hk _ _ _ h.2⟩
    · exact ⟨fun e => hk _ _ _ (h.1 e), hk _ _ _ h.2⟩
    · exact h.elim
theorem CallPost_mono {ι : IM} {ok : Nat → Prop} {H : HP} {nx : Nat} {w : World} {K K' : KT} (hk : ∀ v H nx, K v H nx → K' v H nx) {e : Ending} {w' : World} (h : CallPost ι ok H nx w K e w') : CallPost ι ok H nx w K' e w' := by
  obtain ⟨v, x, H', nx', ι', ok', h1, h2, h3⟩ := h
  exact ⟨v, x, H', nx', ι', ok', h1, hk _ _ _ h2, h3⟩
theorem ACall_mono {f : FuncId} {args : List AC} {H : HP} {nx : Nat} {K K' : KT} (hk : ∀ v H nx, K v H nx → K' v H nx) (h : ACall P f args H nx K) : ACall P f args H nx K' :=
  ⟨h.1, fun ι ok w vs h1 h2 => CallsIn.mono (h.2 ι ok w vs h1 h2) fun _ _ hp => CallPost_mono hk hp⟩
theorem AYield_mono {id : Nat} {args : List AC} {H : HP} {nx : Nat} {K K' : KT} (hk : ∀ v H nx, K v H nx → K' v H nx) (h : AYield P id args H nx K) : AYield P id args H nx K' := fun ι ok w vs L b h1 h2 h3 h4 => by
  obtain ⟨fn, tmps, assign, body, g1, g2⟩ := h ι ok w vs L b h1 h2 h3 h4
  exact ⟨fn, tmps, assign, body, g1, RoundIn.mono g2 fun _ _ hp => CallPost_mono hk hp⟩
theorem callA_mono {f : AV} {args : List AV} {H : HP} {nx : Nat} {K K' : KT} (hk : ∀ v H nx, K v H nx → K' v H nx) (h : callA P f args H nx K) : callA P f args H nx K' := by
  unfold callA at h ⊢
  split at h
  case h_2 => exact h.elim
  split at h
  · exact ACall_mono hk h
  · exact ACall_mono hk h
  · exact AYield_mono hk h
  · exact h.elim
theorem runO_mono {o : AO} {s : St} {T T' : AV → HP → Nat → List ADef → Prop} (hT : ∀ v H nx df, T v H nx df → T' v H nx df) (h : runO P o s T) : runO P o s T' := by
  cases o with
  | op ao => exact aop_mono (fun v H nx => hT v H nx s.df) h
  | call f args => exact callA_mono (fun v H nx => hT v H nx s.df) h
  | defer f args =>
    simp only [runO] at h ⊢
    split at h
    · exact hT _ _ _ _ h
    · exact h.elim
theorem stp_mono {o : AOper} {s : St} {T T' : St → Prop} (hT : ∀ s, T s → T' s) (h : stp P o s T) : stp P o s T' := by
  unfold stp at h ⊢
  split at h
  · exact runO_mono (fun v H nx df => hT _) h
  · split at h
    · exact ⟨fun e => runO_mono (fun v H nx df => hT _) (h.1 e), fun e => hT _ (h.2 e)⟩
    · exact hT _ h
    · exact h.elim
theorem wpo_mono {T T' : St → Prop} (hT : ∀ s, T s → T' s) : ∀ {l : List AOper} {s : St}, wpo P l s T → wpo P l s T'
  | [], s, h => hT s h
  | o :: r, s, h => stp_mono (fun s' => wpo_mono hT) h
theorem gdE_mono {gd : Option (Nat × Bool)} {tm : Nat → AV} {a b a' b' : Prop} (h1 : a → a') (h2 : b → b') (h : gdE gd tm a b) : gdE gd tm a' b' := by
  unfold gdE at h ⊢
  split at h
  · exact h1 h
  · split at h
    · exact ⟨fun e => h1 (h.1 e), fun e => h2 (h.2 e)⟩
    · exact h2 h
    · exact h.elim
theorem wpe_mono {T T' : St → Prop} (hT : ∀ s, T s → T' s) : ∀ {l : List DI} {past : List (HP × Nat)} {F : List FL} {s : St}, wpe P l past F s T → wpe P l past F s T'
  | [], _, _, s, h => hT s h
  | d :: r, past, F, s, h => by
    simp only [wpe] at h ⊢
    refine gdE_mono ?_ ?_ h
    · cases d.eff with
      | true => exact runX_mono fun v H nx ⟨h1, h2⟩ => ⟨h1, wpe_mono hT h2⟩
      | false => exact runX_mono fun v H nx ⟨h1, h2, h3, h4⟩ => ⟨h1, h2, h3, wpe_mono hT h4⟩
    · cases d.eff with
      | true => exact fun ⟨h1, h2⟩ => ⟨h1, wpe_mono hT h2⟩
      | false => exact fun h => wpe_mono hT h
end
end Go.Abs
