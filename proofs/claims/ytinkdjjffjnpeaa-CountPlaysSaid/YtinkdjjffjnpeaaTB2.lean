import Derived.Test.YtinkdjjffjnpeaaTB1
namespace Go.Abs
set_option linter.unusedVariables false
open Go.RowKit

/-! ### one operation, by values -/
def runV (P : Program) (o : AO) (tm : Nat → AV) (H : HP) (nx : Nat) (K : KT) : Prop :=
  match o with
  | .op ao => aop ao tm H nx K
  | .call f args => callA P (f.ev tm) (args.map (·.ev tm)) H nx K
  | .defer _ _ => False

def guardV (gd : Option (Nat × Bool)) (tm : Nat → AV) (run skip : Prop) : Prop :=
  match gd with
  | none => run
  | some (g, b) => match tm g with
    | .c (.x (.v (.bool t))) => (t = b → run) ∧ (t = !b → skip)
    | .tup [] => skip
    | _ => False

def stpV (P : Program) (o : AOper) (tm : Nat → AV) (H : HP) (nx : Nat) (K : KT) : Prop :=
  guardV o.gd tm (runV P o.op tm H nx K) (K (.tup []) H nx)

theorem stp_of_V {P : Program} {o : AOper} {s : St} {T : St → Prop} (h : stpV P o s.tm s.hp s.nx fun v H nx => T (s.put' o.dst v H nx s.df)) : stp P o s T := by
  obtain ⟨d, op, gd⟩ := o
  have run : runV P op s.tm s.hp s.nx (fun v H nx => T (s.put' d v H nx s.df)) → runO P op s fun v H nx df => T (s.put' d v H nx df) := fun h => by
    cases op with
    | op ao => exact h
    | call f args => exact h
    | defer f args => exact h.elim
  unfold stpV guardV at h
  unfold stp
  cases gd with
  | none => exact run h
  | some jb =>
    obtain ⟨g, b⟩ := jb
    simp only at h ⊢
    split at h
    · rename_i t he; simp only [he]; exact ⟨fun e => run (h.1 e), h.2⟩
    · rename_i he; simp only [he]; exact h
    · exact h.elim

def AO.rds : AO → List AOpd
  | .op a => a.rds
  | .call f args => f :: args
  | .defer f args => f :: args
def AOpd.ts : AOpd → List Nat
  | .t n => [n]
  | .k _ => []
/-- the temporaries that an operation looks at -/
def AOper.ts (o : AOper) : List Nat := (match o.gd with | some (g, _) => [g] | none => []) ++ o.op.rds.flatMap AOpd.ts

theorem ev_of_ts {l : List AOpd} {tm tm' : Nat → AV} (h : ∀ t ∈ l.flatMap AOpd.ts, tm t = tm' t) : ∀ x ∈ l, x.ev tm = x.ev tm' := by
  intro x hx
  cases x with
  | t n => exact h n (List.mem_flatMap.2 ⟨_, hx, by simp [AOpd.ts]⟩)
  | k v => rfl

theorem stpV_congr {P : Program} {o : AOper} {tm tm' : Nat → AV} {H : HP} {nx : Nat} {K : KT} (h : ∀ t ∈ o.ts, tm t = tm' t) (hs : stpV P o tm H nx K) : stpV P o tm' H nx K := by
  obtain ⟨d, op, gd⟩ := o
  have hops : ∀ x ∈ op.rds, x.ev tm = x.ev tm' := ev_of_ts fun t ht => h t (by simp only [AOper.ts, List.mem_append]; exact .inr ht)
  have run : runV P op tm H nx K → runV P op tm' H nx K := fun hr => by
    cases op with
    | op ao => simp only [runV] at hr ⊢; rw [← aop_congr hops]; exact hr
    | call f args =>
      simp only [runV] at hr ⊢
      simp only [AO.rds, List.mem_cons, forall_eq_or_imp] at hops
      rw [← hops.1, ← map_ev hops.2]; exact hr
    | defer f args => exact hr.elim
  unfold stpV guardV at hs ⊢
  cases gd with
  | none => exact run hs
  | some jb =>
    obtain ⟨g, b⟩ := jb
    have hg : tm g = tm' g := h g (by simp [AOper.ts])
    simp only at hs ⊢
    rw [← hg]
    split at hs
    · exact ⟨fun e => run (hs.1 e), hs.2⟩
    · exact hs
    · exact hs.elim

/-- what an operation gives, for sure -/
def Dt (P : Program) (o : AOper) (tm : Nat → AV) (H : HP) (nx : Nat) (v : AV) (H' : HP) (nx' : Nat) : Prop := ∀ K : KT, K v H' nx' → stpV P o tm H nx K

/-! ### the same, where the order is open -/
def AL.plain0 : AL → Bool
  | .v _ | .sl .. | .fp .. => true
  | _ => false
def AL.plain : AL → Bool
  | .fn _ caps => caps.all AL.plain0
  | .bm _ pre => pre.all AL.plain0
  | x => x.plain0
def AC.plain : AC → Bool
  | .x l => l.plain
  | .agg xs => xs.all AL.plain

/-- a call; an open one may write -/
def callX (P : Program) (opn : Bool) (f : AV) (args : List AV) (H : HP) (nx : Nat) (K : KT) : Prop :=
  match comps args with
  | some cs => match f with
    | .c (.x (.fn (.func g) caps)) => match opn with
      | true => ∃ v H' nx', (∀ K' : KT, K' v H' nx' → ACall P g (cs ++ caps.map AC.x) H nx K') ∧ K v H' nx'
      | false => (cs ++ caps.map AC.x).all AC.plain = true ∧ ∃ v, Holds P g (cs ++ caps.map AC.x) (· = v) ∧ K v H nx
    | .c (.x (.bm (.func g) pre)) => match opn with
      | true => ∃ v H' nx', (∀ K' : KT, K' v H' nx' → ACall P g (.agg pre :: cs) H nx K') ∧ K v H' nx'
      | false => (AC.agg pre :: cs).all AC.plain = true ∧ ∃ v, Holds P g (.agg pre :: cs) (· = v) ∧ K v H nx
    | .c (.x (.yl id)) => opn = true ∧ ∃ v H' nx', (∀ K' : KT, K' v H' nx' → AYield P id cs H nx K') ∧ K v H' nx'
    | _ => False
  | none => False

def runX (P : Program) (opn : Bool) (o : AO) (tm : Nat → AV) (H : HP) (nx : Nat) (K : KT) : Prop :=
  match o with
  | .op ao => ao.det = true ∧ aop ao tm H nx K
  | .call f args => callX P opn (f.ev tm) (args.map (·.ev tm)) H nx K
  | .defer _ _ => False

def stpX (P : Program) (opn : Bool) (o : AOper) (tm : Nat → AV) (H : HP) (nx : Nat) (K : KT) : Prop :=
  guardV o.gd tm (runX P opn o.op tm H nx K) (K (.tup []) H nx)

def AO.isCall : AO → Bool
  | .call _ _ => true
  | _ => false

structure DI where
  o : AOper
  eff : Bool
  lo : Nat
  hi : Nat

structure FL where
  o : AOper
  tm : Nat → AV
  v : AV
  hi : Nat

/-- again, at another time -/
def again (P : Program) (o : AOper) (tm : Nat → AV) (v : AV) (H : HP) (nx : Nat) : Prop :=
  stpX P false o tm H nx fun v' H' nx' => v' = v ∧ H' = H ∧ nx' = nx

def allFL (P : Program) (k : Nat) (H : HP) (nx : Nat) : List FL → Prop
  | [] => True
  | f :: r => (k ≤ f.hi → again P f.o f.tm f.v H nx) ∧ allFL P k H nx r
def allPast (P : Program) (o : AOper) (tm : Nat → AV) (v : AV) (lo : Nat) : Nat → List (HP × Nat) → Prop
  | _, [] => True
  | k, p :: r => (lo ≤ k → again P o tm v p.1 p.2) ∧ allPast P o tm v lo (k + 1) r

def wpd (P : Program) : List DI → List (HP × Nat) → List FL → St → (St → Prop) → Prop
  | [], past, F, s, T => T s
  | d :: r, past, F, s, T =>
    if d.eff = true then
      stpX P true d.o s.tm s.hp s.nx fun v H nx => allFL P (past.length + 1) H nx F ∧ wpd P r (past ++ [(s.hp, s.nx)]) F (s.put' d.o.dst v H nx s.df) T
    else
      stpX P false d.o s.tm s.hp s.nx fun v H nx => H = s.hp ∧ nx = s.nx ∧
        (d.o.op.isCall = true ∨ allPast P d.o s.tm v d.lo 0 past) ∧
        wpd P r past (if d.o.op.isCall = true ∨ d.hi ≤ past.length then F else ⟨d.o, s.tm, v, d.hi⟩ :: F) (s.put' d.o.dst v s.hp s.nx s.df) T

section
variable {P : Program}

theorem callX_true {f : AV} {args : List AV} {H : HP} {nx : Nat} {K : KT} (h : callX P true f args H nx K) : ∃ v H' nx', K v H' nx' ∧ ∀ K' : KT, K' v H' nx' → callA P f args H nx K' := by
  unfold callX at h
  split at h
  case h_2 => exact h.elim
  rename_i cs hcs
  split at h
  · rename_i g caps
    obtain ⟨v, H', nx', h1, h2⟩ := h
    exact ⟨v, H', nx', h2, fun K' hk => by simp only [callA, hcs]; exact h1 K' hk⟩
  · rename_i g pre
    obtain ⟨v, H', nx', h1, h2⟩ := h
    exact ⟨v, H', nx', h2, fun K' hk => by simp only [callA, hcs]; exact h1 K' hk⟩
  · rename_i id
    obtain ⟨_, v, H', nx', h1, h2⟩ := h
    exact ⟨v, H', nx', h2, fun K' hk => by simp only [callA, hcs]; exact h1 K' hk⟩
  · exact h.elim

theorem guard_det {gd : Option (Nat × Bool)} {tm : Nat → AV} {H : HP} {nx : Nat} {K : KT} {run run' : KT → Prop} (h : guardV gd tm (run K) (K (.tup []) H nx))
    (hr : run K → ∃ v H' nx', K v H' nx' ∧ ∀ K' : KT, K' v H' nx' → run' K') : ∃ v H' nx', K v H' nx' ∧ ∀ K' : KT, K' v H' nx' → guardV gd tm (run' K') (K' (.tup []) H nx) := by
  unfold guardV at h ⊢
  cases gd with
  | none => exact hr h
  | some jb =>
    obtain ⟨g, b⟩ := jb
    simp only at h ⊢
    split at h
    · rename_i t he
      by_cases e : t = b
      · obtain ⟨v, H', nx', h1, h2⟩ := hr (h.1 e)
        refine ⟨v, H', nx', h1, fun K' hk => ?_⟩
        exact ⟨fun _ => h2 K' hk, fun e' => by subst e; cases t <;> simp at e'⟩
      · have e' : t = !b := by revert e; cases t <;> cases b <;> decide
        refine ⟨_, _, _, h.2 e', fun K' hk => ?_⟩
        exact ⟨fun e'' => absurd e'' e, fun _ => hk⟩
    · rename_i he
      exact ⟨_, _, _, h, fun K' hk => hk⟩
    · exact h.elim

theorem runX_true {o : AO} {tm : Nat → AV} {H : HP} {nx : Nat} {K : KT} (h : runX P true o tm H nx K) : ∃ v H' nx', K v H' nx' ∧ ∀ K' : KT, K' v H' nx' → runV P o tm H nx K' := by
  cases o with
  | op ao => exact aop_det h.1 h.2
  | call f args => exact callX_true h
  | defer f args => exact h.elim

theorem stpX_true {o : AOper} {tm : Nat → AV} {H : HP} {nx : Nat} {K : KT} (h : stpX P true o tm H nx K) : ∃ v H' nx', K v H' nx' ∧ Dt P o tm H nx v H' nx' :=
  guard_det (run := runX P true o.op tm H nx) (run' := runV P o.op tm H nx) h runX_true

theorem stpX_op {b : Bool} {o : AOper} {tm : Nat → AV} {H : HP} {nx : Nat} {K : KT} (h : stpX P b o tm H nx K) (hc : o.op.isCall = false) : ∃ v H' nx', K v H' nx' ∧ Dt P o tm H nx v H' nx' :=
  guard_det (run := runX P b o.op tm H nx) (run' := runV P o.op tm H nx) h fun h => by
    cases ho : o.op with
    | op ao => rw [ho] at h; exact aop_det h.1 h.2
    | call f args => rw [ho] at hc; cases hc
    | defer f args => rw [ho] at h; exact h.elim

theorem plain0_frz {n : Nat} {x : AL} (h : x.plain0 = true) (H : HP) : frzL (n + 1) x H = some (x, H) := by
  cases x <;> first | rfl | simp [AL.plain0] at h
theorem thr_id {α : Type} {f : α → HP → Option (α × HP)} : ∀ {l : List α} {H : HP}, (∀ x ∈ l, f x H = some (x, H)) → thr f l H = some (l, H)
  | [], H, _ => rfl
  | x :: r, H, h => by
    have ih : thr f r H = some (r, H) := thr_id fun y hy => h y (List.mem_cons_of_mem _ hy)
    simp only [thr, h x (by simp), ih]
theorem plain_frz {n : Nat} {x : AL} (h : x.plain = true) (H : HP) : frzL (n + 2) x H = some (x, H) := by
  cases x with
  | fn f caps =>
    simp only [AL.plain, List.all_eq_true] at h
    have ih : thr (frzL (n + 1)) caps H = some (caps, H) := thr_id fun y hy => plain0_frz (h y hy) H
    rw [frzL]
    simp only [ih]
  | bm f caps =>
    simp only [AL.plain, List.all_eq_true] at h
    have ih : thr (frzL (n + 1)) caps H = some (caps, H) := thr_id fun y hy => plain0_frz (h y hy) H
    rw [frzL]
    simp only [ih]
  | _ => first | rfl | simp [AL.plain, AL.plain0] at h
theorem plainC_frz {x : AC} (h : x.plain = true) (H : HP) : frzC x H = some (x, H) := by
  cases x with
  | x l => simp only [frzC, plain_frz (n := 7) h H]
  | agg xs =>
    simp only [AC.plain, List.all_eq_true] at h
    have ih : thr (frzL 9) xs H = some (xs, H) := thr_id fun y hy => plain_frz (n := 7) (h y hy) H
    simp only [frzC, ih]
theorem plains_frz {xs : List AC} (h : xs.all AC.plain = true) (H : HP) : thr frzC xs H = some (xs, H) := by
  simp only [List.all_eq_true] at h
  exact thr_id fun y hy => plainC_frz (h y hy) H

/-- a closed call does the same at any time -/
theorem callX_closed {f : AOpd} {args : List AOpd} {tm : Nat → AV} {H : HP} {nx : Nat} {K : KT} (h : callX P false (f.ev tm) (args.map (·.ev tm)) H nx K) :
    ∃ v, K v H nx ∧ ∀ (H' : HP) (nx' : Nat) (K' : KT), K' v H' nx' → callA P (f.ev tm) (args.map (·.ev tm)) H' nx' K' := by
  simp only [callX] at h
  split at h
  case h_2 => exact h.elim
  rename_i cs hcs
  split at h
  · rename_i g caps he
    obtain ⟨hf, v, h1, h2⟩ := h
    refine ⟨v, h2, fun H' nx' K' hk => ?_⟩
    simp only [callA, hcs, he]
    exact ACall_closed h1 (plains_frz hf H') fun x hx => by subst hx; exact hk
  · rename_i g pre he
    obtain ⟨hf, v, h1, h2⟩ := h
    refine ⟨v, h2, fun H' nx' K' hk => ?_⟩
    simp only [callA, hcs, he]
    exact ACall_closed h1 (plains_frz hf H') fun x hx => by subst hx; exact hk
  · cases h.1
  · exact h.elim

theorem stpX_closed {o : AOper} {tm : Nat → AV} {H : HP} {nx : Nat} {K : KT} (h : stpX P false o tm H nx K) (hc : o.op.isCall = true) :
    ∃ v, K v H nx ∧ ∀ H' nx', Dt P o tm H' nx' v H' nx' := by
  obtain ⟨d, op, gd⟩ := o
  cases op with
  | op ao => cases hc
  | defer f args => cases hc
  | call f args =>
    unfold stpX guardV at h
    simp only [runX] at h
    cases gd with
    | none =>
      obtain ⟨v, h1, h2⟩ := callX_closed h
      exact ⟨v, h1, fun H' nx' K' hk => h2 H' nx' K' hk⟩
    | some gb =>
      obtain ⟨g, b⟩ := gb
      simp only at h
      split at h
      · rename_i t he
        by_cases e : t = b
        · obtain ⟨v, h1, h2⟩ := callX_closed (h.1 e)
          refine ⟨v, h1, fun H' nx' K' hk => ?_⟩
          simp only [stpV, guardV, he, runV]
          exact ⟨fun _ => h2 H' nx' K' hk, fun e' => by subst e; cases t <;> simp at e'⟩
        · have e' : t = !b := by revert e; cases t <;> cases b <;> decide
          refine ⟨_, h.2 e', fun H' nx' K' hk => ?_⟩
          simp only [stpV, guardV, he]
          exact ⟨fun e'' => absurd e'' e, fun _ => hk⟩
      · rename_i he
        refine ⟨_, h, fun H' nx' K' hk => ?_⟩
        simp only [stpV, guardV, he]
        exact hk
      · exact h.elim

/-! ### from the text's order -/
def dset (tm : Nat → AV) (d : Option Nat) (v : AV) : Nat → AV :=
  match d with
  | some d => tset tm d v
  | none => tm

theorem put'_dset (s : St) (d : Option Nat) (v : AV) (H : HP) (nx : Nat) : s.put' d v H nx s.df = ⟨dset s.tm d v, H, nx, s.df⟩ := by cases d <;> rfl

/-- temporaries behind the first operations -/
def tmsAt : List DI → List AV → (Nat → AV) → Nat → (Nat → AV)
  | d :: ds, v :: vs, tm, j + 1 => tmsAt ds vs (dset tm d.o.dst v) j
  | _, _, tm, _ => tm

def effN : List DI → Nat → Nat
  | d :: ds, j + 1 => (if d.eff = true then 1 else 0) + effN ds j
  | _, _ => 0

/-- what is known of a run in the text's order: the heaps E, the values vs -/
structure Facts (P : Program) (ds : List DI) (k0 : Nat) (tm : Nat → AV) (vs : List AV) (E : List (HP × Nat)) : Prop where
  len : vs.length = ds.length
  eff : ∀ j d v, ds[j]? = some d → vs[j]? = some v → d.eff = true → ∃ p q, E[k0 + effN ds j]? = some p ∧ E[k0 + effN ds j + 1]? = some q ∧ Dt P d.o (tmsAt ds vs tm j) p.1 p.2 v q.1 q.2
  non : ∀ j d v, ds[j]? = some d → vs[j]? = some v → d.eff = false → ∀ k p, (d.lo ≤ k ∨ k0 + effN ds j ≤ k) → (k ≤ d.hi ∨ k ≤ k0 + effN ds j) → E[k]? = some p → Dt P d.o (tmsAt ds vs tm j) p.1 p.2 v p.1 p.2

theorem again_det {o : AOper} {tm : Nat → AV} {v : AV} {H : HP} {nx : Nat} (hc : o.op.isCall = false) (h : again P o tm v H nx) : Dt P o tm H nx v H nx := by
  obtain ⟨v', H', nx', ⟨rfl, rfl, rfl⟩, hd⟩ := stpX_op h hc
  exact hd

theorem allPast_get {o : AOper} {tm : Nat → AV} {v : AV} {lo : Nat} : ∀ {l : List (HP × Nat)} {k0 : Nat}, allPast P o tm v lo k0 l → ∀ k p, l[k]? = some p → lo ≤ k0 + k → again P o tm v p.1 p.2
  | p :: r, k0, h, 0, q, hq, hk => by simp at hq; subst hq; exact h.1 hk
  | p :: r, k0, h, k + 1, q, hq, hk => allPast_get h.2 k q (by simpa using hq) (by omega)
  | [], _, _, _, _, hq, _ => by simp at hq
theorem allFL_get {k : Nat} {H : HP} {nx : Nat} {l : List FL} (h : allFL P k H nx l) (g : FL) (hg : g ∈ l) (hk : k ≤ g.hi) : again P g.o g.tm g.v H nx := by
  induction l with
  | nil => simp at hg
  | cons f r ih =>
    rcases List.mem_cons.1 hg with e | hg
    · rw [e] at hk ⊢; exact h.1 hk
    · exact ih h.2 hg

theorem wpd_facts : ∀ (ds : List DI) (past : List (HP × Nat)) (F : List FL) (s : St) (T : St → Prop), (∀ f ∈ F, f.o.op.isCall = false) → wpd P ds past F s T →
    ∃ (vs : List AV) (Hs : List (HP × Nat)) (p : HP × Nat), Facts P ds past.length s.tm vs (past ++ (s.hp, s.nx) :: Hs) ∧ Hs.length = effN ds ds.length ∧
      (∀ f ∈ F, ∀ k q, past.length < k → k ≤ f.hi → (past ++ (s.hp, s.nx) :: Hs)[k]? = some q → Dt P f.o f.tm q.1 q.2 f.v q.1 q.2) ∧
      (past ++ (s.hp, s.nx) :: Hs)[past.length + effN ds ds.length]? = some p ∧ T ⟨tmsAt ds vs s.tm ds.length, p.1, p.2, s.df⟩
  | [], past, F, s, T, hF, h => by
    refine ⟨[], [], (s.hp, s.nx), ⟨rfl, by simp, by simp⟩, rfl, fun f hf k q hk _ hq => ?_, by simp [effN], by cases s; exact h⟩
    have := (List.getElem?_eq_some_iff.1 hq).1
    simp at this; omega
  | d :: r, past, F, s, T, hF, h => by
    simp only [wpd] at h
    split at h
    · rename_i hd
      obtain ⟨v, H', nx', ⟨hfl, hrest⟩, hdt⟩ := stpX_true h
      rw [put'_dset] at hrest
      obtain ⟨vs, Hs, p, hfacts, hlen, hfs, hp, hT⟩ := wpd_facts r _ F _ T hF hrest
      have hE : past ++ [(s.hp, s.nx)] ++ (H', nx') :: Hs = past ++ (s.hp, s.nx) :: (H', nx') :: Hs := by simp
      simp only [hE, List.length_append, List.length_cons, List.length_nil] at hfacts hfs hp
      have hk : ∀ j, past.length + effN (d :: r) (j + 1) = past.length + (0 + 1) + effN r j := fun j => by simp only [effN, hd, if_true]; omega
      refine ⟨v :: vs, (H', nx') :: Hs, p, ⟨by simp [hfacts.len], fun j d' v' h1 h2 h3 => ?_, fun j d' v' h1 h2 h3 => ?_⟩, by simp [effN, hd, hlen]; omega, fun f hf k q hk1 hk2 hq => ?_, ?_, hT⟩
      · cases j with
        | zero =>
          simp at h1 h2; subst h1 h2
          refine ⟨(s.hp, s.nx), (H', nx'), by simp [effN], ?_, hdt⟩
          simp only [effN, Nat.add_zero]
          rw [List.getElem?_append_right (by omega)]
          simp
        | succ j =>
          rw [hk]
          exact hfacts.eff j d' v' (by simpa using h1) (by simpa using h2) h3
      · cases j with
        | zero => simp at h1; subst h1; rw [hd] at h3; cases h3
        | succ j =>
          rw [hk]
          exact hfacts.non j d' v' (by simpa using h1) (by simpa using h2) h3
      · by_cases e : k = past.length + 1
        · subst e
          rw [List.getElem?_append_right (by omega)] at hq
          simp at hq
          subst hq
          exact again_det (hF f hf) (allFL_get hfl f hf hk2)
        · exact hfs f hf k q (by omega) hk2 hq
      · rw [List.length_cons, hk]; exact hp
    · rename_i hd
      have hd' : d.eff = false := by simpa using hd
      -- one operation that writes nothing
      have key : ∃ v, (d.o.op.isCall = true ∨ allPast P d.o s.tm v d.lo 0 past) ∧ wpd P r past (if d.o.op.isCall = true ∨ d.hi ≤ past.length then F else ⟨d.o, s.tm, v, d.hi⟩ :: F) (s.put' d.o.dst v s.hp s.nx s.df) T ∧
          Dt P d.o s.tm s.hp s.nx v s.hp s.nx ∧ (d.o.op.isCall = true → ∀ H' nx', Dt P d.o s.tm H' nx' v H' nx') := by
        by_cases hc : d.o.op.isCall = true
        · obtain ⟨v, ⟨_, _, hpast, hrest⟩, hdt⟩ := stpX_closed h hc
          exact ⟨v, hpast, hrest, hdt _ _, fun _ => hdt⟩
        · have hc' : d.o.op.isCall = false := by simpa using hc
          obtain ⟨v, H', nx', ⟨rfl, rfl, hpast, hrest⟩, hdt⟩ := stpX_op h hc'
          exact ⟨v, hpast, hrest, hdt, fun h => absurd h hc⟩
      obtain ⟨v, hpast, hrest, hdt, hcall⟩ := key
      rw [put'_dset] at hrest
      obtain ⟨vs, Hs, p, hfacts, hlen, hfs, hp, hT⟩ := wpd_facts r _ _ _ T (fun f hf => by
        split at hf
        · exact hF f hf
        · rename_i hn
          rcases List.mem_cons.1 hf with rfl | hf
          · simp only [not_or] at hn; simpa using hn.1
          · exact hF f hf) hrest
      have hk : ∀ j, past.length + effN (d :: r) (j + 1) = past.length + effN r j := fun j => by simp only [effN, hd', Bool.false_eq_true, if_false]; omega
      refine ⟨v :: vs, Hs, p, ⟨by simp [hfacts.len], fun j d' v' h1 h2 h3 => ?_, fun j d' v' h1 h2 h3 => ?_⟩, by simp [effN, hd', hlen], fun f hf k q hk1 hk2 hq => ?_, ?_, hT⟩
      · cases j with
        | zero => simp at h1; subst h1; exact absurd h3 hd
        | succ j =>
          rw [hk]
          exact hfacts.eff j d' v' (by simpa using h1) (by simpa using h2) h3
      · cases j with
        | zero =>
          simp at h1 h2; subst h1 h2
          simp only [effN, Nat.add_zero]
          intro k q hlo hhi hq
          by_cases hc : d.o.op.isCall = true
          · exact hcall hc _ _
          have hc' : d.o.op.isCall = false := by simpa using hc
          by_cases e : k = past.length
          · subst e
            rw [List.getElem?_append_right (by omega)] at hq
            simp at hq; subst hq
            exact hdt
          · by_cases hlt : k < past.length
            · rw [List.getElem?_append_left hlt] at hq
              exact again_det hc' (allPast_get (hpast.resolve_left hc) k q hq (by omega))
            · have hn : ¬ (d.o.op.isCall = true ∨ d.hi ≤ past.length) := by
                rintro (h | h)
                · exact hc h
                · omega
              rw [if_neg hn] at hfs
              exact hfs ⟨d.o, s.tm, v, d.hi⟩ (by simp) k q (by omega) (by simp; omega) hq
        | succ j =>
          rw [hk]
          exact hfacts.non j d' v' (by simpa using h1) (by simpa using h2) h3
      · exact hfs f (by split; exact hf; exact List.mem_cons_of_mem _ hf) k q hk1 hk2 hq
      · rw [List.length_cons, hk]; exact hp
end
end Go.Abs
