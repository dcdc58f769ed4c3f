import Derived.Test.YtinkdjjffjnpeaaTA15
namespace Go.Abs
set_option linter.unusedVariables false
open Go.RowKit

def entF : Nat → List AC → (Nat → AV) → (Nat → AV)
  | _, [], f => f
  | k, c :: r, f => entF (k + 1) r (tset f k (.c c))
def ent (args : List AC) : Nat → AV := entF 0 args fun _ => .tup []

inductive ARes where
  | t (n : Nat)
  | cell (a : Nat) (agg : Bool) (sz : Nat)

def resV (tm : Nat → AV) (H : HP) : ARes → Option AC
  | .t n => match tm n with
    | .c c => some c
    | _ => none
  | .cell a agg sz => match tm a with
    | .c (.x l) => match ldA H l sz, agg with
      | some xs, true => some (.agg xs)
      | some [y], false => some (.x y)
      | _, _ => none
    | _ => none

def resVs (tm : Nat → AV) (H : HP) : List ARes → Option (List AC)
  | [] => some []
  | r :: rs => match resV tm H r, resVs tm H rs with
    | some c, some cs => some (c :: cs)
    | _, _ => none

def retV : List AC → AV
  | [c] => .c c
  | cs => .tup cs

def compR (P : Program) : ResultVar → Option ARes
  | .tmp t => some (.t t)
  | .cell a t => do
    let sz ← szA P t
    if sz = 0 then none else some (.cell a (← aggA P t) sz)

/-- a deferred call -/
def ACallD (P : Program) (f : FuncId) (args : List AC) (H : HP) (nx : Nat) (K : KT) : Prop :=
  Enters P f ∧ ∀ ι ok w vs u, HSat ι ok H nx w → RepCs ok w ι vs args → CallsDIn Fence.wide 0 P f vs.toArray u w fun e u' w' => u' = u ∧ CallPost ι ok H nx w K e w'

/-- leaving a function -/
def leaveA (P : Program) (rs : List ARes) (tm : Nat → AV) (K : KT) : List ADef → HP → Nat → Prop
  | [], H, nx => match resVs tm H rs with
    | some cs => K (retV cs) H nx
    | none => False
  | .mark :: r, H, nx => leaveA P rs tm K r H nx
  | .call f args :: r, H, nx => ACallD P f args H nx fun _ H' nx' => leaveA P rs tm K r H' nx'

section
variable {ι ι' : IM} {ok ok' : Nat → Prop} {H H' : HP} {nx nx' : Nat} {w w' : World} {P : Program} {N : Nat × Nat} {s s' : St} {a a' : Act} {K : KT}

def resS (tmps : Array Value) : ResultVar → Sem Value
  | .tmp t => pure (tmps.getD t undef)
  | .cell a t => do loadVar t (← asAddr (tmps.getD a undef))

theorem entF_get : ∀ (args : List AC) (k : Nat) (f : Nat → AV) (t : Nat), entF k args f t = if k ≤ t ∧ t < k + args.length then (match args[t - k]? with | some c => .c c | none => .any) else f t
  | [], k, f, t => by simp only [entF, List.length_nil, Nat.add_zero]; rw [if_neg (by omega)]
  | c :: r, k, f, t => by
    simp only [entF]
    rw [entF_get r (k + 1)]
    simp only [List.length_cons]
    by_cases h : t = k
    · subst h
      rw [if_neg (by omega), if_pos (by omega), tset_same]; simp
    · by_cases h2 : k + 1 ≤ t ∧ t < k + 1 + r.length
      · rw [if_pos h2, if_pos (by omega)]
        have : t - k = (t - (k + 1)) + 1 := by omega
        rw [this, List.getElem?_cons_succ]
      · rw [if_neg h2, if_neg (by omega), tset_ne _ _ h]

theorem ent_rep {vs : List Value} {args : List AC} (h : RepCs ok w ι vs args) (n : Nat) (t : Nat) : RepV ok w ι ((vs.toArray ++ Array.replicate (n - vs.toArray.size) undef).getD t undef) (ent args t) := by
  unfold ent
  rw [entF_get]
  by_cases ht : t < vs.length
  · rw [if_pos (by rw [← h.1]; omega)]
    have hta : t < args.length := by rw [← h.1]; exact ht
    simp only [Nat.sub_zero, List.getElem?_eq_getElem hta]
    have : (vs.toArray ++ Array.replicate (n - vs.toArray.size) undef).getD t undef = vs[t] := by
      rw [Array.getD_eq_getD_getElem?, Array.getElem?_append_left (by simpa using ht)]
      simp [ht]
    rw [this]
    exact .c (h.2 t _ _ (List.getElem?_eq_getElem ht) (List.getElem?_eq_getElem hta))
  · rw [if_neg (by rw [← h.1]; omega)]
    have : (vs.toArray ++ Array.replicate (n - vs.toArray.size) undef).getD t undef = undef := by
      rw [Array.getD_eq_getD_getElem?, Array.getElem?_append_right (by simpa using ht)]
      by_cases h2 : t - vs.toArray.size < n - vs.toArray.size
      · simp only [Array.getElem?_replicate, h2, if_true, Option.getD_some]
      · simp only [Array.getElem?_replicate, h2, if_false, Option.getD_none]
    rw [this]
    exact undef_rep

/-- a variable of results -/
theorem run_result (hs : HSat ι ok H nx w) {tmps : Array Value} {tm : Nat → AV} (ht : ∀ t, RepV ok w ι (tmps.getD t undef) (tm t)) {rv : ResultVar} {r : ARes} (hc : compR P rv = some r) {c : AC} (h : resV tm H r = some c) :
    ∃ v, (resS tmps rv).run P w = .ok v w ∧ RepC ok w ι v c := by
  cases rv with
  | tmp t =>
    simp only [compR] at hc; injection hc with hc; subst hc
    simp only [resV] at h
    split at h
    · rename_i c' he
      injection h with h; subst h
      have := ht t
      rw [he] at this
      exact ⟨_, rfl, this.comp⟩
    · cases h
  | cell ad t =>
    simp only [compR, Option.bind_eq_bind, Option.bind_eq_some_iff] at hc
    obtain ⟨sz, hsz, hc⟩ := hc
    split at hc
    · cases hc
    · rename_i hne
      simp only [Option.bind_eq_some_iff] at hc
      obtain ⟨ag, hag, hc⟩ := hc
      injection hc with hc; subst hc
      simp only [resV] at h
      split at h
      case h_2 => cases h
      rename_i l he
      have hl := ht ad
      rw [he] at hl
      -- as a load
      have hsat : Sat (0, 0) ι ok ⟨fun _ => .any, H, nx, []⟩ ⟨#[], []⟩ w := ⟨hs, rfl, fun _ => .any _, rfl, by simp, Nat.zero_le _, by simp⟩
      have conv : ∀ u, (Instr.loadAt t (tmps.getD ad undef)).run P w = .ok u w → (do loadVar t (← asAddr (tmps.getD ad undef)) : Sem Value).run P w = .ok u w := by
        intro u hu
        generalize tmps.getD ad undef = v at hu
        cases v with
        | pointer p => cases p with
          | none => simp [Instr.loadAt, Instr.sureAddr] at hu
          | some p => simpa [Instr.loadAt, Instr.sureAddr, asAddr] using hu
        | _ => simp [Instr.loadAt, Instr.sureAddr] at hu
      cases hld : ldA H l sz with
      | none => rw [hld] at h; simp at h
      | some xs =>
        rw [hld] at h
        obtain ⟨u, hrun, g1, g2⟩ := load_sound (P := P) hsat hsz hag hne hl.leaf hld
        cases ag with
        | true =>
          simp only at h; injection h with h; subst h
          exact ⟨u, conv u hrun, (g1 rfl).comp⟩
        | false =>
          split at h
          · rename_i h1 h2; cases h2
          · rename_i xs' y h1 h2
            injection h with h; subst h
            injection h1 with h1
            exact ⟨u, conv u hrun, (g2 rfl _ h1).comp⟩
          · cases h

theorem run_results (hs : HSat ι ok H nx w) {tmps : Array Value} {tm : Nat → AV} (ht : ∀ t, RepV ok w ι (tmps.getD t undef) (tm t)) : ∀ {rvs : List ResultVar} {rs : List ARes} {cs : List AC}, rvs.mapM (compR P) = some rs → resVs tm H rs = some cs →
    ∃ vs : List Value, (rvs.mapM (resS tmps)).run P w = .ok vs w ∧ RepCs ok w ι vs cs
  | [], rs, cs, h1, h2 => by
    simp at h1; subst h1
    simp [resVs] at h2; subst h2
    exact ⟨[], by simp, rfl, by simp⟩
  | rv :: rvs, rs, cs, h1, h2 => by
    simp only [List.mapM_cons, Option.bind_eq_bind, Option.pure_def, Option.bind_eq_some_iff] at h1
    obtain ⟨r, hr, rs', hrs, h1⟩ := h1
    injection h1 with h1; subst h1
    simp only [resVs] at h2
    split at h2
    · rename_i c cs' hc hcs
      injection h2 with h2; subst h2
      obtain ⟨v, hv, hvr⟩ := run_result hs ht hr hc
      obtain ⟨vs, hvs, hvsr⟩ := run_results hs ht hrs hcs
      refine ⟨v :: vs, ?_, by simp [hvsr.1], fun i u x g1 g2 => ?_⟩
      · simp only [List.mapM_cons, Sem.run_bind, hv, Result.andThen_ok, hvs, Sem.run_pure]
      · cases i with
        | zero => simp at g1 g2; subst g1 g2; exact hvr
        | succ i => exact hvsr.2 i u x (by simpa using g1) (by simpa using g2)
    · cases h2

theorem retV_rep {vs : List Value} {cs : List AC} (h : RepCs ok w ι vs cs) : RepV ok w ι (if h : vs.toArray.size = 1 then vs.toArray[0] else .tuple vs.toArray) (retV cs) := by
  cases vs with
  | nil =>
    have : cs = [] := List.eq_nil_of_length_eq_zero h.1.symm
    subst this
    simp [retV]
    exact undef_rep
  | cons v vs =>
    cases cs with
    | nil => have := h.1; simp at this
    | cons c cs =>
      cases vs with
      | nil =>
        have : cs = [] := List.eq_nil_of_length_eq_zero (by have := h.1; simp at this; simp [← this])
        subst this
        simp [retV]
        exact .c (h.2 0 v c rfl rfl)
      | cons v2 vs =>
        cases cs with
        | nil => have := h.1; simp at this
        | cons c2 cs =>
          simp only [List.size_toArray, List.length_cons, retV]
          rw [dif_neg (by omega)]
          exact .tup h.1 h.2

theorem results_run (hs : HSat ι ok H nx w) {fn : Func} {tmps : Array Value} {tm : Nat → AV} (ht : ∀ t, RepV ok w ι (tmps.getD t undef) (tm t)) {rs : List ARes} {cs : List AC} (hr : fn.results.toList.mapM (compR P) = some rs) (hc : resVs tm H rs = some cs) :
    ∃ v, (results fn tmps).run P w = .ok v w ∧ RepV ok w ι v (retV cs) := by
  obtain ⟨vs, h1, h2⟩ := run_results hs ht hr hc
  refine ⟨_, ?_, retV_rep h2⟩
  unfold results
  have e1 : (fun (x : ResultVar) => (match x with | .tmp t => (pure (tmps.getD t undef) : Sem Value) | .cell a t => do loadVar t (← asAddr (tmps.getD a undef)))) = resS tmps := funext fun x => by cases x <;> rfl
  have h1' : (fn.results.mapM (resS tmps)).run P w = .ok vs.toArray w := by
    rw [Array.mapM_eq_mapM_toList]
    simp only [Sem.run_map, h1, Result.andThen_ok]
  show Sem.run P (do let vs ← fn.results.mapM (fun (x : ResultVar) => (match x with | .tmp t => (pure (tmps.getD t undef) : Sem Value) | .cell a t => do loadVar t (← asAddr (tmps.getD a undef)))); pure (if h : vs.size = 1 then vs[0] else .tuple vs)) w = _
  rw [e1]
  simp only [Sem.run_bind, h1', Result.andThen_ok, Sem.run_pure]

/-- a foreign block is rewritten -/
theorem HSat.foreign (hs : HSat ι ok H nx w) {r : Nat} (o : Obj) (hr : ¬ MutB ι H r) (hok : ¬ ok r) : HSat ι ok H nx (w.putObj r o) where
  ok_lt k h := by simp; exact hs.ok_lt k h
  fresh := hs.fresh
  blk j z rows mt pu h := by
    obtain ⟨M, hM, h1, h2, h3, h4⟩ := hs.blk j z rows mt pu h
    refine ⟨M, hM, h1, h2, h3, fun hc => ?_⟩
    obtain ⟨b, hb, hlt, ⟨cv, hcv, hrep⟩, ho, hm⟩ := h4 hc
    have hbr : b ≠ r := by
      intro e; subst e
      cases mt with
      | false => exact hok (ho rfl)
      | true => exact hr ⟨j, M, hM, HO.live_blk h, hc, hb⟩
    have hsame : (w.putObj r o).heap[b]? = w.heap[b]? := World.putObj_heap_other hbr
    refine ⟨b, hb, by simp; exact hlt, ⟨cv, fun i j hi hj => ?_, fun i j r' x hr' hx => ?_⟩, ho, fun hmt => ⟨(hm hmt).1, fun i j hi hj => ?_⟩⟩
    · rw [cell_of_block hsame]; exact hcv i j hi hj
    · exact (hrep i j r' x hr' hx).pim_mono (fun _ h => h) (fun k hk => World.putObj_heap_other (fun e => hok (e ▸ hk))) (fun _ _ h => h)
    · have := (hm hmt).2 i j hi hj
      simpa only [World.cell?, World.frozen?, hsame] using this
  loop j tm N ps as bd st pe h := by
    obtain ⟨M, hM, h1, b, l, hb, hnok, hl, h2, h3, h4⟩ := hs.loop j _ _ _ _ _ _ _ h
    have hbr : b ≠ r := fun e => hr ⟨j, M, hM, by rw [h]; rfl, h1, e ▸ hb⟩
    exact ⟨M, hM, h1, b, l, hb, hnok, by rw [World.putObj_heap_other hbr]; exact hl, h2, fun t => (h3 t).mono (fun _ h => h) (fun k hk => World.putObj_heap_other (fun e => hok (e ▸ hk))) (fun _ _ h => h), h4⟩
  inj := hs.inj

theorem RepV.foreign {v : Value} {x : AV} (h : RepV ok w ι v x) {r : Nat} (o : Obj) (hok : ¬ ok r) : RepV ok (w.putObj r o) ι v x :=
  h.mono (fun _ h => h) (fun k hk => World.putObj_heap_other (fun e => hok (e ▸ hk))) (fun _ _ h => h)

theorem Ext.foreign {H0 : HP} {ι0 : IM} {ok0 : Nat → Prop} {nx0 : Nat} {w0 : World} (h : Ext ι0 ok0 H0 nx0 w0 ι ok H w) {r : Nat} (o : Obj) (hr : w0.heap.size ≤ r) : Ext ι0 ok0 H0 nx0 w0 ι ok H (w.putObj r o) where
  os := h.os
  tape := h.tape
  output := h.output
  size := by simp; exact h.size
  same k hk hm := by rw [World.putObj_heap_other (by omega)]; exact h.same k hk hm
  okm := h.okm
  okr := h.okr
  im := h.im
  imr := h.imr
  mutr := h.mutr

theorem leave_sound {H0 : HP} {ι0 : IM} {ok0 : Nat → Prop} {nx0 : Nat} {w0 : World} {fn : Func} {tmps : Array Value} {tm : Nat → AV} {rs : List ARes} (hr : fn.results.toList.mapM (compR P) = some rs) :
    ∀ (df : List ADef) (ds : List Deferred) (H : HP) (nx : Nat) (ι : IM) (ok : Nat → Prop) (w : World), HSat ι ok H nx w → Ext ι0 ok0 H0 nx0 w0 ι ok H w → nx0 ≤ nx → (∀ t, RepV ok w ι (tmps.getD t undef) (tm t)) → ds.length = df.length →
      (∀ (i : Nat) (d : Deferred) (x : ADef), ds[i]? = some d → df[i]? = some x → DefRep w0.heap.size ι ok H w d x) → leaveA P rs tm K df H nx →
      (∀ (i j : Nat) (d e : Deferred) (r : Nat), ds[i]? = some d → ds[j]? = some e → d.target = .collected r → e.target = .collected r → i = j) →
      LeavesInM Fence.wide 0 P fn tmps (CallPost ι0 ok0 H0 nx0 w0 K) ds .returning w
  | [], ds, H, nx, ι, ok, w, hs, he, hn, ht, hl, hd, h, _ => by
    have : ds = [] := List.eq_nil_of_length_eq_zero hl
    subst this
    simp only [leaveA] at h
    split at h
    · rename_i cs hcs
      obtain ⟨v, hv, hvr⟩ := results_run hs ht hr hcs
      exact ⟨v, hv, v, _, H, nx, ι, ok, rfl, h, hs, he, hvr, hn⟩
    · exact h.elim
  | .mark :: df, ds, H, nx, ι, ok, w, hs, he, hn, ht, hl, hd, h, hu => by
    cases ds with
    | nil => simp at hl
    | cons d ds =>
      obtain ⟨r, h1, h2, h3, h4, h5⟩ := hd 0 d .mark rfl rfl
      simp only [leaveA] at h
      refine ⟨by simp, .inl ⟨r, _, h1, run_takeDeferred h2, ?_⟩⟩
      refine leave_sound hr df ds H nx ι ok _ (hs.foreign _ h3 h4) (he.foreign _ h5) hn (fun t => (ht t).foreign _ h4) (by simpa using hl) (fun i d' x g1 g2 => ?_) h (fun i j d e r h1 h2 h3 h4 => by
        have := hu (i + 1) (j + 1) d e r (by simpa using h1) (by simpa using h2) h3 h4
        omega)
      have := hd (i + 1) d' x (by simpa using g1) (by simpa using g2)
      cases x with
      | mark =>
        obtain ⟨r', k1, k2, k3, k4, k5⟩ := this
        have hne : r' ≠ r := fun e => by
          subst e
          have := hu 0 (i + 1) d d' r' rfl (by simpa using g1) h1 k1
          omega
        exact ⟨r', k1, by rw [World.putObj_heap_other hne]; exact k2, k3, k4, k5⟩
      | call f args =>
        obtain ⟨cap, k1, k2⟩ := this
        exact ⟨cap, k1, k2.mono (fun _ h => h) (fun k hk => World.putObj_heap_other (fun e => h4 (e ▸ hk))) (fun _ _ h => h)⟩
  | .call f args :: df, ds, H, nx, ι, ok, w, hs, he, hn, ht, hl, hd, h, hu => by
    cases ds with
    | nil => simp at hl
    | cons d ds =>
      obtain ⟨cap, h1, h2⟩ := hd 0 d (.call f args) rfl rfl
      simp only [leaveA] at h
      obtain ⟨hen, hcall⟩ := h
      have hc := hcall ι ok w _ .returning hs h2
      refine ⟨by simp, .inr ⟨fun h => (by cases h), .func f, cap, f, (d.args ++ cap).toList.toArray, h1, ?_, fun _ _ => trivial, CallsDIn.mono hc ?_⟩⟩
      · rw [h1]
        simp only [invoke]
        rw [Array.toArray_toList]; exact hen _ _
      · rintro e u' w' ⟨rfl, v, x, H', nx', ι', ok', rfl, hK, g1, g2, g3, g4⟩
        exact leave_sound hr df ds H' nx' ι' ok' w' g1 (he.trans g2 hn) (Nat.le_trans hn g4) (fun t => g2.repV hs (ht t)) (by simpa using hl) (fun i d' x g1' g2' => (hd (i + 1) d' x (by simpa using g1') (by simpa using g2')).ext hs g2) hK (fun i j d e r h1 h2 h3 h4 => by
          have := hu (i + 1) (j + 1) d e r (by simpa using h1) (by simpa using h2) h3 h4
          omega)
end
end Go.Abs
