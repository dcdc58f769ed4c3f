import Derived.RangeFuncRecord
import Derived.RangeFuncCalls
import Derived.Test.YtinkdjjffjnpeaaAb1
namespace Go.Abs
set_option linter.unusedVariables false
open Go.RowKit

def Fw (r : Option Nat) : Fence := { fn := fun _ => True, depth := none, alive := false, round := r }
theorem Fw_none : Fw none = Fence.wide := rfl

def Enters (P : Program) (f : FuncId) : Prop := ∀ args w, (callFunc f args).run P w = .ok (.enter f args) w

def CallPost (ι : IM) (ok : Nat → Prop) (H : HP) (nx : Nat) (w : World) (K : KT) : Ending → World → Prop := fun e w' =>
  ∃ v x H' nx' ι' ok', e = .returned v ∧ K x H' nx' ∧ HSat ι' ok' H' nx' w' ∧ Ext ι ok H nx w ι' ok' H' w' ∧ RepV ok' w' ι' v x ∧ nx ≤ nx'

/-- a call of function f -/
def ACall (P : Program) (f : FuncId) (args : List AC) (H : HP) (nx : Nat) (K : KT) : Prop :=
  Enters P f ∧ ∀ ι ok w vs, HSat ι ok H nx w → RepCs ok w ι vs args → CallsIn Fence.wide 0 P f vs.toArray w (CallPost ι ok H nx w K)

/-- a call of the body of a loop -/
def AYield (P : Program) (id : Nat) (args : List AC) (H : HP) (nx : Nat) (K : KT) : Prop :=
  ∀ ι ok w vs L b, HSat ι ok H nx w → RepCs ok w ι vs args → ι id = some L → L.b = some b →
    ∃ fn tmps assign body, (Instr.yield b vs.toArray).run P w = .ok (.round b fn tmps assign body) w ∧ RoundIn Fence.wide 0 P b fn tmps assign body w (CallPost ι ok H nx w K)

inductive AO where
  | op (a : AOp)
  | call (f : AOpd) (args : List AOpd)
  | defer (f : AOpd) (args : List AOpd)

structure AOper where
  dst : Option Nat
  op : AO
  gd : Option (Nat × Bool)

def AO.fz (b : Bool) : AO → AO
  | .op a => .op (a.fz b)
  | x => x
def AOper.fz (b : Bool) (o : AOper) : AOper := ⟨o.dst, o.op.fz b, o.gd⟩

def comps : List AV → Option (List AC)
  | [] => some []
  | .c c :: r => (comps r).map (c :: ·)
  | _ :: _ => none

def callA (P : Program) (f : AV) (args : List AV) (H : HP) (nx : Nat) (K : KT) : Prop :=
  match comps args with
  | some cs => match f with
    | .c (.x (.fn (.func g) caps)) => ACall P g (cs ++ caps.map .x) H nx K
    | .c (.x (.bm (.func g) pre)) => ACall P g (.agg pre :: cs) H nx K
    | .c (.x (.yl id)) => AYield P id cs H nx K
    | _ => False
  | none => False

def runO (P : Program) (o : AO) (s : St) (T : AV → HP → Nat → List ADef → Prop) : Prop :=
  match o with
  | .op ao => aop ao s.tm s.hp s.nx fun v H nx => T v H nx s.df
  | .call f args => callA P (f.ev s.tm) (args.map (·.ev s.tm)) s.hp s.nx fun v H nx => T v H nx s.df
  | .defer f args => match comps (args.map (·.ev s.tm)), f.ev s.tm with
    | some cs, .c (.x (.fn (.func g) caps)) => T (.tup []) s.hp s.nx (.call g (cs ++ caps.map .x) :: s.df)
    | _, _ => False

def St.put' (s : St) (d : Option Nat) (v : AV) (hp : HP) (nx : Nat) (df : List ADef) : St :=
  match d with
  | some d => ⟨tset s.tm d v, hp, nx, df⟩
  | none => ⟨s.tm, hp, nx, df⟩

def stp (P : Program) (o : AOper) (s : St) (T : St → Prop) : Prop :=
  match o.gd with
  | none => runO P o.op s fun v H nx df => T (s.put' o.dst v H nx df)
  | some (g, b) => match s.tm g with
    | .c (.x (.v (.bool t))) => (t = b → runO P o.op s fun v H nx df => T (s.put' o.dst v H nx df)) ∧ (t = !b → T (s.put' o.dst (.tup []) s.hp s.nx s.df))
    | .tup [] => T (s.put' o.dst (.tup []) s.hp s.nx s.df)
    | _ => False

def wpo (P : Program) : List AOper → St → (St → Prop) → Prop
  | [], s, T => T s
  | o :: r, s, T => stp P o s fun s' => wpo P r s' T

/-- in any order of numbers -/
def wpoL (P : Program) (cs : List AOper) : List Nat → St → (St → Prop) → Prop
  | [], s, T => T s
  | i :: r, s, T => match cs[i]? with
    | some o => stp P o s fun s' => wpoL P cs r s' T
    | none => False

/-! ### compiling -/
def compO0 (P : Program) (top : Bool) (op : Op) : Option AO :=
  match op with
  | .call { callee := .value f, args, argTypes := _ } => do some (.call (← opd f) (← opds args.toList))
  | .defer { callee := .value f, args, argTypes := _ } => if top then do some (.defer (← opd f) (← opds args.toList)) else none
  | op => (compOp P op).map .op

/-- what is not covered is never to be reached -/
def compO (P : Program) (top : Bool) (op : Op) : Option AO := some ((compO0 P top op).getD (.op .no))

def dstOk (N : Nat) : Option Tmp → Bool
  | none => true
  | some d => decide (d < N)

def compG (N : Nat) (ops : Array Oper) : Option (Nat × Bool) → Option (Option (Nat × Bool))
  | none => some none
  | some (j, b) => match (ops[j]?).bind (·.dst) with
    | some g => if g < N then some (some (g, b)) else none
    | none => none

def compOper (P : Program) (top : Bool) (N : Nat) (ops : Array Oper) (o : Oper) : Option AOper :=
  match compO P top o.op, compG N ops o.guard with
  | some op, some gd => if dstOk N o.dst then some ⟨o.dst, op, gd⟩ else none
  | _, _ => none

inductive AOut where
  | normal
  | exit (id : Nat)
  | goto (l : Nat)
  | ret

def AOut.ex : AOut → Exit
  | .normal => .normal
  | .exit id => .exit id
  | .goto l => .goto l
  | .ret => .ret

section
variable {ι ι' : IM} {ok ok' : Nat → Prop} {H H' : HP} {nx nx' : Nat} {w w' : World} {P : Program} {N : Nat × Nat} {s s' : St} {a a' : Act} {K : KT}

def APost (N : Nat × Nat) (ι : IM) (ok : Nat → Prop) (s : St) (w : World) (Q : AOut → St → Prop) : Exit → Act → World → Prop := fun e a' w' =>
  ∃ o s' ι' ok', e = o.ex ∧ Q o s' ∧ Sat N ι' ok' s' a' w' ∧ Ext ι ok s.hp s.nx w ι' ok' s'.hp w' ∧ s.nx ≤ s'.nx

theorem put'_eq (s : St) (d : Option Nat) (v : AV) (hp : HP) (nx : Nat) : s.put' d v hp nx s.df = s.put d v hp nx := by cases d <;> rfl

theorem comps_spec : ∀ {l : List AV} {xs : List AC}, comps l = some xs → xs.length = l.length ∧ ∀ (i : Nat) (v : AV) (x : AC), l[i]? = some v → xs[i]? = some x → v = .c x
  | [], xs, h => by simp [comps] at h; subst h; exact ⟨rfl, by simp⟩
  | .c x :: r, xs, h => by
    simp only [comps, Option.map_eq_some_iff] at h
    obtain ⟨ys, hy, rfl⟩ := h
    obtain ⟨h1, h2⟩ := comps_spec hy
    refine ⟨by simp [h1], fun i v x h3 h4 => ?_⟩
    cases i with
    | zero => simp at h3 h4; subst h3 h4; rfl
    | succ i => exact h2 i v x (by simpa using h3) (by simpa using h4)
  | .any :: _, _, h => by simp [comps] at h
  | .tup _ :: _, _, h => by simp [comps] at h

theorem args_rep (hs : Sat N ι ok s a w) {l : List Operand} {xs : List AOpd} {cs : List AC} (hl : opds l = some xs) (hc : comps (xs.map (·.ev s.tm)) = some cs) : RepCs ok w ι (l.map a.eval) cs := by
  obtain ⟨h1, h2⟩ := opds_sound hl hs
  obtain ⟨h3, h4⟩ := comps_spec hc
  refine ⟨by simp [h3, h1], fun i v x hv hx => ?_⟩
  rw [List.getElem?_map] at hv
  cases hi : l[i]? with
  | none => rw [hi] at hv; cases hv
  | some o =>
    rw [hi] at hv; injection hv with hv; subst hv
    have hlt := (List.getElem?_eq_some_iff.1 hi).1
    have hlt' : i < xs.length := by omega
    have := h2 i o xs[i] hi (List.getElem?_eq_getElem hlt')
    have e := h4 i (xs[i].ev s.tm) x (by rw [List.getElem?_map, List.getElem?_eq_getElem hlt']; rfl) hx
    rw [e] at this
    exact this.comp

theorem caps_rep {vs : List Value} {caps : List AL} (hl : vs.length = caps.length) (h : ∀ (i : Nat) (v : Value) (x : AL), vs[i]? = some v → caps[i]? = some x → RepL ok w ι v x) : RepCs ok w ι vs (caps.map .x) := by
  refine ⟨by simp [hl], fun i v x hv hx => ?_⟩
  rw [List.getElem?_map] at hx
  cases hc : caps[i]? with
  | none => rw [hc] at hx; cases hx
  | some c => rw [hc] at hx; injection hx with hx; subst hx; exact .x (h i v c hv hc)

theorem RepCs.append {vs us : List Value} {xs ys : List AC} (h1 : RepCs ok w ι vs xs) (h2 : RepCs ok w ι us ys) : RepCs ok w ι (vs ++ us) (xs ++ ys) := by
  refine ⟨by simp [h1.1, h2.1], fun i v x hv hx => ?_⟩
  by_cases hi : i < vs.length
  · rw [List.getElem?_append_left hi] at hv
    rw [List.getElem?_append_left (by rw [← h1.1]; exact hi)] at hx
    exact h1.2 i v x hv hx
  · rw [List.getElem?_append_right (by omega)] at hv
    rw [List.getElem?_append_right (by rw [← h1.1]; omega), ← h1.1] at hx
    exact h2.2 _ v x hv hx

theorem callsIn_Fw (r : Option Nat) {f : FuncId} {args : Array Value} {R : Ending → World → Prop} (h : CallsIn Fence.wide 0 P f args w R) : CallsIn (Fw r) 0 P f args w R := by
  cases r with
  | none => exact h
  | some l => exact CallsIn.inRound l h

theorem roundIn_Fw (r : Option Nat) {l : Nat} {f : FuncId} {tmps : Array Value} {assign body : Code} {R : Ending → World → Prop} (h : RoundIn Fence.wide 0 P l f tmps assign body w R) : RoundIn (Fw r) 0 P l f tmps assign body w R := by
  cases r with
  | none => exact h
  | some l => exact h

theorem Sat.putD (h : Sat N ι ok s a w) {dd : Deferred} {x : ADef} (hnc : ∀ r, dd.target ≠ .collected r) (hr : DefRep N.2 ι ok s.hp w dd x) {d : Option Nat} (hd : ∀ t, d = some t → t < N.1) :
    Sat N ι ok (s.put' d (.tup []) s.hp s.nx (x :: s.df)) (({ a with defers := dd :: a.defers } : Act).put d undef) w := by
  have h1 : Sat N ι ok { s with df := x :: s.df } { a with defers := dd :: a.defers } w := ⟨h.hs, h.sz, h.tm, by simp [h.dl], fun i d' x' h1 h2 => by
    cases i with
    | zero => simp at h1 h2; subst h1 h2; exact hr
    | succ i => exact h.df i d' x' (by simpa using h1) (by simpa using h2), h.bs, fun i j d' e' r h1 h2 h3 h4 => by
    cases i with
    | zero => simp at h1; subst h1; exact absurd h3 (hnc r)
    | succ i => cases j with
      | zero => simp at h2; subst h2; exact absurd h4 (hnc r)
      | succ j => rw [h.mks i j d' e' r (by simpa using h1) (by simpa using h2) h3 h4]⟩
  have h2 := h1.put (hp := s.hp) (nx' := s.nx) h.hs Ext.refl (undef_rep (ok := ok) (w := w) (ι := ι)) hd
  cases d <;> exact h2

/-- one operation -/
theorem stp_sound {top : Bool} {r : Option Nat} (hr : top = true → r = none) {ops : Array Oper} {o : Oper} {ao : AOper} (hc : compOper P top N.1 ops o = some ao) (hs : Sat N ι ok s a w) {fz : Bool} {T : St → Prop} (h : stp P (ao.fz fz) s T) {next : Act → World → Prop} {Q : Exit → Act → World → Prop}
    (hn : ∀ s' a' w' ι' ok', T s' → Sat N ι' ok' s' a' w' → Ext ι ok s.hp s.nx w ι' ok' s'.hp w' → s.nx ≤ s'.nx → next a' w') :
    if Region.wanted o (yielded ops a.tmps) then o.wpIn (Fw r) 0 P a w next Q else (∀ f, o.about P w a.eval = some f → (Fw r).fn f) ∧ next (a.put o.dst undef) w := by
  obtain ⟨dst, op, type, pos, after, gd⟩ := o
  unfold compOper at hc
  split at hc
  case h_2 => cases hc
  rename_i co cg hco hcg
  split at hc
  case isFalse => cases hc
  rename_i hdst
  injection hc with hc; subst hc
  simp only at hco hcg hdst
  have hd : ∀ t, dst = some t → t < N.1 := fun t e => by subst e; simpa [dstOk] using hdst
  have hskip : T (s.put' dst (.tup []) s.hp s.nx s.df) → (∀ f, Oper.about P w a.eval { dst, op, type, pos, after, guard := gd } = some f → (Fw r).fn f) ∧ next (a.put dst undef) w := fun hT => by
    rw [put'_eq] at hT
    exact ⟨fun _ _ => trivial, hn _ _ _ _ _ hT (hs.put hs.hs Ext.refl undef_rep hd) (by cases dst <;> exact Ext.refl) (by cases dst <;> exact Nat.le_refl _)⟩
  -- running it
  have run : runO P (co.fz fz) s (fun v H nx df => T (s.put' dst v H nx df)) → Oper.wpIn (Fw r) 0 P { dst, op, type, pos, after, guard := gd } a w next Q := by
    intro hrun
    refine ⟨fun _ _ => trivial, ?_⟩
    unfold compO at hco
    injection hco with hco
    cases hco0 : compO0 P top op with
    | none =>
      rw [hco0] at hco
      simp only [Option.getD_none] at hco
      subst hco
      exact hrun.elim
    | some co0 =>
    rw [hco0] at hco
    simp only [Option.getD_some] at hco
    subst hco
    have hco := hco0
    unfold compO0 at hco
    split at hco
    · -- a call
      rename_i fo args at'
      simp only [Option.bind_eq_bind, Option.bind_eq_some_iff] at hco
      obtain ⟨f, hf, l, hl, hco⟩ := hco
      injection hco with hco; subst hco
      rw [Oper.semAt_eq _ _ _ (fun c e => by cases e)]
      simp only [AO.fz, runO] at hrun
      unfold callA at hrun
      split at hrun
      case h_2 => exact hrun.elim
      rename_i cs hcs
      have hargs := args_rep hs hl hcs
      have hfr := opd_sound hf hs
      -- what comes behind it
      have behind : ∀ e w', CallPost ι ok s.hp s.nx w (fun v H nx => T (s.put' dst v H nx s.df)) e w' → ∃ v, e = .returned v ∧ next (a.put dst v) w' := by
        rintro e w' ⟨v, x, H', nx', ι', ok', rfl, hT, h1, h2, h3, h4⟩
        rw [put'_eq] at hT
        exact ⟨v, rfl, hn _ _ _ _ _ hT (hs.put h1 h2 h3 hd) (by cases dst <;> exact h2) (by cases dst <;> exact h4)⟩
      split at hrun
      · rename_i g caps he
        rw [he] at hfr
        generalize hfv : a.eval fo = fv at hfr
        cases hfr.leaf with
        | fn _ _ vs _ hvl hvr =>
          obtain ⟨hen, hcall⟩ := hrun
          have := hcall ι ok w (args.toList.map a.eval ++ vs) hs.hs (hargs.append (caps_rep hvl hvr))
          have hex : (execOp a.eval { dst, op := .call { callee := .value fo, args, argTypes := at' }, type, pos, after, guard := gd }).run P w = .ok (.enter g (args.toList.map a.eval ++ vs).toArray) w := by
            have e1 : #[] ++ args.map a.eval ++ vs.toArray = (args.toList.map a.eval ++ vs).toArray := by apply Array.ext'; simp
            simp only [execOp, resolve, hfv, Deferred.ofValue, Sem.run_bind, Sem.run_pure, Result.andThen_ok, invoke]
            rw [e1]; exact hen _ _
          rw [hex]
          refine ⟨fun h => (by cases h), CallsIn.mono (callsIn_Fw r this) fun e w' hp => ?_⟩
          obtain ⟨v, rfl, hnx⟩ := behind e w' hp
          exact hnx
      · rename_i g pre he
        rw [he] at hfr
        generalize hfv : a.eval fo = fv at hfr
        cases hfr.leaf with
        | bm _ _ vs _ hvl hvr =>
          obtain ⟨hen, hcall⟩ := hrun
          have hpre : RepCs ok w ι [.agg vs.toArray] [.agg pre] := ⟨rfl, fun i v x h1 h2 => by
            cases i with
            | zero => simp at h1 h2; subst h1 h2; exact .agg hvl hvr
            | succ i => simp at h1⟩
          have := hcall ι ok w ([Value.agg vs.toArray] ++ args.toList.map a.eval) hs.hs (hpre.append hargs)
          have hex : (execOp a.eval { dst, op := .call { callee := .value fo, args, argTypes := at' }, type, pos, after, guard := gd }).run P w = .ok (.enter g ([Value.agg vs.toArray] ++ args.toList.map a.eval).toArray) w := by
            have e1 : #[Value.agg vs.toArray] ++ args.map a.eval ++ #[] = ([Value.agg vs.toArray] ++ args.toList.map a.eval).toArray := by apply Array.ext'; simp
            simp only [execOp, resolve, hfv, Deferred.ofValue, Sem.run_bind, Sem.run_pure, Result.andThen_ok, invoke]
            rw [e1]; exact hen _ _
          rw [hex]
          refine ⟨fun h => (by cases h), CallsIn.mono (callsIn_Fw r this) fun e w' hp => ?_⟩
          obtain ⟨v, rfl, hnx⟩ := behind e w' hp
          exact hnx
      · rename_i id he
        rw [he] at hfr
        generalize hfv : a.eval fo = fv at hfr
        cases hfr.leaf with
        | yl _ _ L b hι hb =>
          obtain ⟨fn, tmps, assign, body, hy, hround⟩ := hrun ι ok w (args.toList.map a.eval) L b hs.hs hargs hι hb
          have hex : (execOp a.eval { dst, op := .call { callee := .value fo, args, argTypes := at' }, type, pos, after, guard := gd }).run P w = .ok (.round b fn tmps assign body) w := by
            have e1 : #[] ++ args.map a.eval = (args.toList.map a.eval).toArray := by apply Array.ext'; simp
            simp only [execOp, resolve, hfv, Deferred.ofValue, Sem.run_bind, Sem.run_pure, Result.andThen_ok, invoke]
            rw [e1]; exact hy
          rw [hex]
          refine ⟨fun h => (by cases h), RoundIn.mono (roundIn_Fw r hround) fun e w' hp => ?_⟩
          obtain ⟨v, rfl, hnx⟩ := behind e w' hp
          exact hnx
      · exact hrun.elim
    · -- a deferred call
      rename_i fo args at'
      split at hco
      case isFalse => cases hco
      rename_i htop
      have hr0 := hr htop
      subst hr0
      simp only [Option.bind_eq_bind, Option.bind_eq_some_iff] at hco
      obtain ⟨f, hf, l, hl, hco⟩ := hco
      injection hco with hco; subst hco
      simp only [AO.fz, runO] at hrun
      split at hrun
      · rename_i cs g caps hcs he
        have hargs := args_rep hs hl hcs
        have hfr := opd_sound hf hs
        rw [he] at hfr
        generalize hfv : a.eval fo = fv at hfr
        cases hfr.leaf with
        | fn _ _ vs _ hvl hvr =>
          have hex : (Oper.semAt none a.eval { dst, op := .defer { callee := .value fo, args, argTypes := at' }, type, pos, after, guard := gd }).run P w = .ok (.defer { target := .fn (.func g) vs.toArray, args := #[] ++ args.map a.eval }) w := by
            rw [Oper.semAt_none]
            simp only [execOp, resolve, hfv, Deferred.ofValue, Sem.run_bind, Sem.run_pure, Result.andThen_ok]
          rw [show (Fw none).round = none from rfl, hex]
          have hdr : DefRep N.2 ι ok s.hp w { target := .fn (.func g) vs.toArray, args := #[] ++ args.map a.eval } (.call g (cs ++ caps.map .x)) := by
            refine ⟨vs.toArray, rfl, ?_⟩
            have e1 : (#[] ++ args.map a.eval ++ vs.toArray).toList = args.toList.map a.eval ++ vs := by simp
            rw [e1]
            exact hargs.append (caps_rep hvl hvr)
          exact hn _ _ _ ι ok hrun (hs.putD (fun r h => by cases h) hdr hd) (by cases dst <;> exact Ext.refl) (by cases dst <;> exact Nat.le_refl _)
      · exact hrun.elim
    · -- any other operation
      rename_i hx1 hx2
      simp only [Option.map_eq_some_iff] at hco
      obtain ⟨ao, hcop, hco⟩ := hco
      subst hco
      have hnd : ∀ c, op ≠ .defer c := fun c e => by subst e; simp [compOp] at hcop
      rw [Oper.semAt_eq _ _ _ hnd]
      obtain ⟨v, w', x, hp, nx', ι', ok', hrn, hT, h1, h2, h3, h4⟩ := aop_sound (P := P) (o := { dst, op, type, pos, after, guard := gd }) (K := fun v H nx => T (s.put' dst v H nx s.df)) hs hcop hrun
      rw [put'_eq] at hT
      have hsat := hs.put h1 h2 h3 hd
      rcases hrn with hrn | ⟨hrn, rfl⟩
      · rw [hrn]
        exact hn _ _ _ _ _ hT hsat (by cases dst <;> exact h2) (by cases dst <;> exact h4)
      · rw [hrn]
        exact hn _ _ _ _ _ hT hsat (by cases dst <;> exact h2) (by cases dst <;> exact h4)
  -- its guard
  unfold stp at h
  simp only [AOper.fz] at h
  cases gd with
  | none =>
    simp only [compG] at hcg
    injection hcg with hcg; subst hcg
    simp only [Region.wanted, if_true]
    exact run h
  | some jb =>
    obtain ⟨j, b⟩ := jb
    simp only [compG] at hcg
    split at hcg
    case h_2 => cases hcg
    rename_i g hg
    split at hcg
    case isFalse => cases hcg
    rename_i hgN
    injection hcg with hcg; subst hcg
    simp only at h
    have htm := hs.tm g
    have hgl : a.tmps[g]? = some (a.tmps.getD g undef) := by
      have : g < a.tmps.size := by rw [hs.sz]; exact hgN
      simp [Array.getD, this]
    simp only [Region.wanted, yielded, hg, Option.bind_some, hgl]
    split at h
    · rename_i t he
      rw [he] at htm
      rw [htm.bool]
      simp only
      by_cases htb : t = b
      · subst htb
        simp only [beq_self_eq_true, if_true]
        exact run (h.1 rfl)
      · have : t = !b := by
          clear run hskip h hn hs htm
          revert htb; cases t <;> cases b <;> decide
        have hne : (some t == some b) = false := by simp [htb]
        rw [hne]
        simp only [Bool.false_eq_true, if_false]
        exact hskip (h.2 this)
    · rename_i he
      rw [he] at htm
      obtain ⟨vs, hv, hl, _⟩ := htm.tuple
      rw [hv]
      exact hskip h
    · exact h.elim

/-- a list of operations -/
theorem wpoL_sound {top : Bool} {r : Option Nat} (hr : top = true → r = none) {ops : Array Oper} {cs : List AOper} (hc : ops.toList.mapM (compOper P top N.1 ops) = some cs) {Q : AOut → St → Prop} {s0 : St} {w0 : World} {ι0 : IM} {ok0 : Nat → Prop} {fz : Bool} :
    ∀ (l : List Nat) (s : St) (a : Act) (w : World) (ι : IM) (ok : Nat → Prop), Sat N ι ok s a w → Ext ι0 ok0 s0.hp s0.nx w0 ι ok s.hp w → s0.nx ≤ s.nx → wpoL P (cs.map (AOper.fz fz)) l s (Q .normal) → wpOpsIn (Fw r) 0 P ops (APost N ι0 ok0 s0 w0 Q) l a w
  | [], s, a, w, ι, ok, hs, he, hn, h => ⟨.normal, s, ι, ok, rfl, h, hs, he, hn⟩
  | i :: l, s, a, w, ι, ok, hs, he, hn, h => by
    simp only [wpoL, List.getElem?_map] at h
    cases hci : cs[i]? with
    | none => rw [hci] at h; exact h.elim
    | some ao =>
      rw [hci] at h
      simp only [Option.map_some] at h
      obtain ⟨hl, hg⟩ := mapM_get hc
      have hlt : i < ops.toList.length := by have := (List.getElem?_eq_some_iff.1 hci).1; omega
      obtain ⟨ao', hao, hao'⟩ := hg i _ (List.getElem?_eq_getElem hlt)
      rw [hci] at hao'; injection hao' with e; subst e
      have hoi : ops[i]? = some ops.toList[i] := by
        have : ops.toList[i]? = some ops.toList[i] := List.getElem?_eq_getElem hlt
        simp
      simp only [wpOpsIn, hoi]
      exact stp_sound hr hao hs h (Q := APost N ι0 ok0 s0 w0 Q) (next := wpOpsIn (Fw r) 0 P ops (APost N ι0 ok0 s0 w0 Q) l) (fun s' a' w' ι' ok' hT hs' he' hn' =>
        wpoL_sound hr hc l s' a' w' ι' ok' hs' (he.trans he' hn) (Nat.le_trans hn hn') hT)

theorem AOper.fz_false (o : AOper) : o.fz false = o := by
  obtain ⟨d, op, g⟩ := o
  cases op with
  | op a => cases a <;> first | rfl | simp [AOper.fz, AO.fz, AOp.fz]
  | call f args => rfl
  | defer f args => rfl
theorem AOper.map_fz_false (cs : List AOper) : cs.map (AOper.fz false) = cs := by
  induction cs with
  | nil => rfl
  | cons c r ih => rw [List.map_cons, ih, AOper.fz_false]

theorem wpo_L {cs : List AOper} {T : St → Prop} : ∀ (n k : Nat) (s : St), k + n = cs.length → wpoL P cs (List.range' k n) s T = wpo P (cs.drop k) s T
  | 0, k, s, hk => by
    rw [List.drop_eq_nil_of_le (by omega)]; rfl
  | n + 1, k, s, hk => by
    have hlt : k < cs.length := by omega
    rw [List.drop_eq_getElem_cons hlt]
    simp only [List.range'_succ, wpoL, List.getElem?_eq_getElem hlt, wpo]
    have : (fun s' => wpoL P cs (List.range' (k + 1) n) s' T) = fun s' => wpo P (cs.drop (k + 1)) s' T := funext fun s' => wpo_L n (k + 1) s' (by omega)
    rw [this]
end
end Go.Abs
