import Derived.Orders
import Derived.Test.YtinkdjjffjnpeaaTB2
namespace Go.Abs
set_option linter.unusedVariables false
open Go.RowKit

/-! ### regions whose order is open: the static part -/
def AOper.isEff (on : List Nat) (o : AOper) : Bool :=
  match o.op with
  | .op (.store ..) | .op (.app ..) | .op (.appz ..) | .op (.alloc ..) | .op (.box ..) | .op (.mksl ..) => true
  | .op (.bslice b _ _ _ _) => !b
  | .op _ => false
  | .call (.k (.c (.x (.fn (.func g) [])))) _ => on.contains g
  | .call _ _ => true
  | .defer _ _ => true

def essOf (ops : Array Oper) : List (List Nat) := ops.toList.map fun o => (o.after.toList.filter (Region.binds .any)).map (·.on)
def maskOf (ms : List Nat) (es : List Nat) : Nat := es.foldl (fun m e => m ||| 2 ^ e ||| ms.getD e 0) 0
def masksOf (ess : List (List Nat)) : List Nat := ess.foldl (fun ms es => ms ++ [maskOf ms es]) []
def cnt : List Bool → Nat → (Nat → Bool) → Nat
  | [], _, _ => 0
  | e :: r, j, D => (if (e && D j) = true then 1 else 0) + cnt r (j + 1) D
def anc (ms : List Nat) (i j : Nat) : Bool := (ms.getD i 0).testBit j
def wr (cs : List AOper) (t : Nat) : Option Nat := cs.findIdx? fun c => decide (c.dst = some t)

def dchk (ess : List (List Nat)) (ms : List Nat) (cs : List AOper) (effs : List Bool) : Bool :=
  decide (ess.length = cs.length) &&
  (List.range cs.length).all fun i =>
    ((ess.getD i []).all fun e => decide (e < i)) && decide (ms.getD i 0 = maskOf ms (ess.getD i [])) &&
    (match cs[i]? with
     | some c => (match c.dst with | some t => decide (wr cs t = some i) | none => true) &&
        (c.ts.all fun t => match wr cs t with | none => true | some j => decide (j = i) || (decide (j < i) && anc ms i j) || (decide (i < j) && anc ms j i))
     | none => true) &&
    (!effs.getD i false || (List.range i).all fun j => !effs.getD j false || anc ms i j)

def mkDI (ms : List Nat) (effs : List Bool) (c : AOper) (i : Nat) : DI :=
  ⟨c, effs.getD i false, cnt effs 0 (anc ms i), cnt effs 0 fun j => !anc ms j i⟩

def dAll (mx : Bool) (on : List Nat) (ops : Array Oper) (cs : List AOper) : Option (List DI) :=
  let ess := essOf ops
  let ms := masksOf ess
  let effs := cs.map (AOper.isEff on)
  if (dchk ess ms cs effs && (mx || !Region.departs ops)) = true then some (cs.mapIdx fun i c => mkDI ms effs c i) else none

/-! ### the proof -/
theorem mask_bits {ms : List Nat} {j : Nat} : ∀ {es : List Nat} {m : Nat}, (es.foldl (fun m e => m ||| 2 ^ e ||| ms.getD e 0) m).testBit j = true → m.testBit j = true ∨ ∃ e ∈ es, j = e ∨ (ms.getD e 0).testBit j = true
  | [], m, h => .inl h
  | e :: es, m, h => by
    simp only [List.foldl_cons] at h
    rcases mask_bits h with h | ⟨e', he, h⟩
    · rw [Nat.testBit_or, Nat.testBit_or, Nat.testBit_two_pow] at h
      simp only [Bool.or_eq_true, decide_eq_true_eq] at h
      rcases h with (h | h) | h
      · exact .inl h
      · exact .inr ⟨e, by simp, .inl h.symm⟩
      · exact .inr ⟨e, by simp, .inr h⟩
    · exact .inr ⟨e', by simp [he], h⟩

theorem cnt_mono : ∀ {effs : List Bool} {k : Nat} {D D' : Nat → Bool}, (∀ j, effs[j]? = some true → D (k + j) = true → D' (k + j) = true) → cnt effs k D ≤ cnt effs k D'
  | [], _, _, _, _ => Nat.le_refl _
  | e :: r, k, D, D', h => by
    simp only [cnt]
    have h1 : cnt r (k + 1) D ≤ cnt r (k + 1) D' := cnt_mono fun j hj hd => by
      have := h (j + 1) (by simpa using hj)
      rw [show k + (j + 1) = k + 1 + j by omega] at this
      exact this hd
    have h0 := h 0
    cases e with
    | false => simpa using h1
    | true =>
      have := h0 rfl
      simp only [Nat.add_zero] at this
      cases hD : D k with
      | false => simp; omega
      | true => simp [this hD]; omega

theorem cnt_lt : ∀ {effs : List Bool} {k : Nat} {D : Nat → Bool} {i : Nat}, cnt effs k (fun j => D j && decide (j < k)) = 0
  | [], _, _, _ => rfl
  | e :: r, k, D, i => by
    simp only [cnt]
    have h1 : cnt r (k + 1) (fun j => D j && decide (j < k)) ≤ cnt r (k + 1) (fun j => D j && decide (j < k + 1)) := cnt_mono fun j _ h => by
      simp only [Bool.and_eq_true, decide_eq_true_eq] at h ⊢
      exact ⟨h.1, by omega⟩
    rw [cnt_lt (i := i)] at h1
    simp; omega

theorem cnt_effN : ∀ {ds : List DI} {k i : Nat}, cnt (ds.map (·.eff)) k (fun j => decide (j < k + i)) = effN ds i
  | [], k, i => by cases i <;> rfl
  | d :: r, k, 0 => by
    simp only [effN]
    have := cnt_lt (effs := (d :: r).map (·.eff)) (k := k) (D := fun _ => true) (i := 0)
    simpa using this
  | d :: r, k, i + 1 => by
    simp only [List.map_cons, cnt, effN]
    have := cnt_effN (ds := r) (k := k + 1) (i := i)
    rw [show k + (i + 1) = k + 1 + i by omega, this]
    have : k < k + 1 + i := by omega
    simp [this]

section
variable {P : Program}

theorem tmsAt_succ : ∀ {ds : List DI} {vs : List AV} {tm : Nat → AV} {i : Nat} {d : DI} {v : AV}, ds[i]? = some d → vs[i]? = some v → tmsAt ds vs tm (i + 1) = dset (tmsAt ds vs tm i) d.o.dst v
  | [], vs, tm, i, d, v, h, _ => by simp at h
  | d :: ds, [], tm, i, d', v, _, h => by simp at h
  | d :: ds, v :: vs, tm, 0, d', v', h1, h2 => by
    simp at h1 h2; subst h1 h2
    rw [tmsAt]
    have e1 : ∀ tm, tmsAt ds vs tm 0 = tm := fun tm => by cases ds <;> cases vs <;> rfl
    rw [e1]
    rfl
  | d :: ds, v :: vs, tm, i + 1, d', v', h1, h2 => by
    rw [tmsAt, tmsAt_succ (i := i) (by simpa using h1) (by simpa using h2)]
    rw [show tmsAt (d :: ds) (v :: vs) tm (i + 1) = tmsAt ds vs (dset tm d.o.dst v) i from rfl]

theorem tmsAt_zero {ds : List DI} {vs : List AV} {tm : Nat → AV} : tmsAt ds vs tm 0 = tm := by cases ds <;> cases vs <;> rfl

def stTm (cs : List AOper) (vs : List AV) (tm : Nat → AV) (D : Nat → Bool) : Nat → AV := fun t =>
  match wr cs t with
  | some j => if D j = true then vs.getD j .any else tm t
  | none => tm t

theorem wr_some {cs : List AOper} {t j : Nat} (h : wr cs t = some j) : ∃ c, cs[j]? = some c ∧ c.dst = some t := by
  unfold wr at h
  have := List.findIdx?_eq_some_iff_getElem.1 h
  obtain ⟨hlt, h1, _⟩ := this
  exact ⟨cs[j], List.getElem?_eq_getElem hlt, by simpa using h1⟩

theorem stTm_set {cs : List AOper} {vs : List AV} {tm : Nat → AV} {D D' : Nat → Bool} {i : Nat} {c : AOper} {v : AV} (hc : cs[i]? = some c) (hv : vs[i]? = some v)
    (hw : ∀ t, c.dst = some t → wr cs t = some i) (hi : D' i = true) (hD : ∀ j, j ≠ i → j < cs.length → D' j = D j) : stTm cs vs tm D' = dset (stTm cs vs tm D) c.dst v := by
  funext t
  by_cases ht : c.dst = some t
  · rw [ht]
    simp only [stTm, dset, hw t ht, hi, if_true, tset_same]
    simp [List.getD, hv]
  · have : dset (stTm cs vs tm D) c.dst v t = stTm cs vs tm D t := by
      cases hd : c.dst with
      | none => rfl
      | some d => simp only [dset]; rw [tset_ne _ _ (fun e => ht (by rw [hd, e]))]
    rw [this]
    simp only [stTm]
    cases hwt : wr cs t with
    | none => rfl
    | some j =>
      obtain ⟨c', h1, h2⟩ := wr_some hwt
      have hne : j ≠ i := fun e => by subst e; rw [hc] at h1; injection h1 with e; subst e; exact ht h2
      simp only [hD j hne (List.getElem?_eq_some_iff.1 h1).1]

/-- what the static part says -/
structure Chk (ess : List (List Nat)) (ms : List Nat) (cs : List AOper) (effs : List Bool) : Prop where
  len : ess.length = cs.length
  back : ∀ i, i < cs.length → ∀ e ∈ ess.getD i [], e < i
  mask : ∀ i, i < cs.length → ms.getD i 0 = maskOf ms (ess.getD i [])
  uniq : ∀ i c t, cs[i]? = some c → c.dst = some t → wr cs t = some i
  reads : ∀ i c t j, cs[i]? = some c → t ∈ c.ts → wr cs t = some j → j = i ∨ (j < i ∧ anc ms i j = true) ∨ (i < j ∧ anc ms j i = true)
  chain : ∀ i j, i < cs.length → effs.getD i false = true → j < i → effs.getD j false = true → anc ms i j = true

theorem chk_of {ess : List (List Nat)} {ms : List Nat} {cs : List AOper} {effs : List Bool} (h : dchk ess ms cs effs = true) : Chk ess ms cs effs := by
  unfold dchk at h
  simp only [Bool.and_eq_true, decide_eq_true_eq, List.all_eq_true, List.mem_range] at h
  obtain ⟨h0, h⟩ := h
  refine ⟨h0, fun i hi e he => (h i hi).1.1.1 e he, fun i hi => (h i hi).1.1.2, fun i c t hc hd => ?_, fun i c t j hc ht hw => ?_, fun i j hi he hj hej => ?_⟩
  · have hi := (List.getElem?_eq_some_iff.1 hc).1
    have := (h i hi).1.2
    rw [hc] at this
    simp only [hd, Bool.and_eq_true, decide_eq_true_eq] at this
    exact this.1
  · have hi := (List.getElem?_eq_some_iff.1 hc).1
    have := (h i hi).1.2
    rw [hc] at this
    simp only [Bool.and_eq_true, List.all_eq_true] at this
    have := this.2 t ht
    rw [hw] at this
    simp only [Bool.or_eq_true, Bool.and_eq_true, decide_eq_true_eq] at this
    rcases this with (h | h) | h
    · exact .inl h
    · exact .inr (.inl h)
    · exact .inr (.inr h)
  · have := (h i hi).2
    simp only [he, Bool.not_true, Bool.false_or, List.all_eq_true, List.mem_range, Bool.or_eq_true] at this
    rcases this j hj with h | h
    · rw [hej] at h; cases h
    · exact h

theorem anc_in {ess : List (List Nat)} {ms : List Nat} {cs : List AOper} {effs : List Bool} (hc : Chk ess ms cs effs) {D : Nat → Bool} (hD : ∀ i, i < cs.length → D i = true → ∀ e ∈ ess.getD i [], D e = true) :
    ∀ (i : Nat), i < cs.length → (∀ e ∈ ess.getD i [], D e = true) → ∀ j, anc ms i j = true → D j = true := by
  intro i
  induction i using Nat.strongRecOn with
  | _ i ih =>
    intro hi he j hj
    unfold anc at hj
    rw [hc.mask i hi] at hj
    rcases mask_bits hj with h | ⟨e, hee, h | h⟩
    · simp at h
    · subst h; exact he _ hee
    · have hlt := hc.back i hi e hee
      exact ih e hlt (by omega) (hD e (by omega) (he e hee)) j h

theorem effN_succ : ∀ {ds : List DI} {i : Nat} {d : DI}, ds[i]? = some d → effN ds (i + 1) = effN ds i + (if d.eff = true then 1 else 0)
  | [], _, _, h => by simp at h
  | d :: r, 0, d', h => by
    simp at h; subst h
    have : effN r 0 = 0 := by cases r <;> rfl
    simp [effN, this]
  | d :: r, i + 1, d', h => by
    have := effN_succ (ds := r) (i := i) (d := d') (by simpa using h)
    simp only [effN] at this ⊢
    omega

theorem tmsAt_st {on : List Nat} {ess : List (List Nat)} {cs : List AOper} {ms : List Nat} {tm : Nat → AV} {vs : List AV} (hc : Chk ess ms cs (cs.map (AOper.isEff on))) (hl : vs.length = cs.length) : ∀ k, k ≤ cs.length → tmsAt (cs.mapIdx fun i c => mkDI ms (cs.map (AOper.isEff on)) c i) vs tm k = stTm cs vs tm (fun j => decide (j < k)) := fun k => by
  induction k with
  | zero =>
    intro _
    rw [tmsAt_zero]
    funext t
    simp only [stTm]
    cases wr cs t <;> simp
  | succ k ihk =>
    intro hk
    have hck : cs[k]? = some cs[k] := List.getElem?_eq_getElem (by omega)
    have hvk : vs[k]? = some (vs[k]'(by omega)) := List.getElem?_eq_getElem _
    rw [tmsAt_succ (d := mkDI ms (cs.map (AOper.isEff on)) cs[k] k) (by rw [List.getElem?_mapIdx, hck]; rfl) hvk, ihk (by omega)]
    exact (stTm_set (D := fun j => decide (j < k)) (D' := fun j => decide (j < k + 1)) hck hvk (fun t ht => hc.uniq k _ t hck ht) (by simp) (fun j hj _ => by
      have : (j < k + 1) ↔ (j < k) := by omega
      simp only [this])).symm

theorem go_sound {on : List Nat} {ops : Array Oper} {cs : List AOper} {ms : List Nat} {s : St} {T : St → Prop} {vs : List AV} {E : List (HP × Nat)} {p : HP × Nat}
    (hc : Chk (essOf ops) ms cs (cs.map (AOper.isEff on))) (hf : Facts P (cs.mapIdx fun i c => mkDI ms (cs.map (AOper.isEff on)) c i) 0 s.tm vs E)
    (hp : E[effN (cs.mapIdx fun i c => mkDI ms (cs.map (AOper.isEff on)) c i) cs.length]? = some p)
    (hT : T ⟨stTm cs vs s.tm (fun j => decide (j < cs.length)), p.1, p.2, s.df⟩) :
    ∀ (fuel t : Nat) (listed : Array Bool) (q : HP × Nat), listed.size = cs.length → (∀ i, i < cs.length → listed.getD i true = true → ∀ e ∈ (essOf ops).getD i [], listed.getD e true = true) →
      ((List.range cs.length).filter fun i => !listed.getD i true).length ≤ fuel → E[cnt (cs.map (AOper.isEff on)) 0 fun j => listed.getD j true]? = some q →
      wpoL P cs (Region.linearise.go .any ops fuel t listed []) ⟨stTm cs vs s.tm (fun j => listed.getD j true), q.1, q.2, s.df⟩ T := by
  have hdm : (cs.mapIdx fun i c => mkDI ms (cs.map (AOper.isEff on)) c i).map (·.eff) = cs.map (AOper.isEff on) := by
    apply List.ext_getElem?
    intro i
    rw [List.getElem?_map, List.getElem?_mapIdx, List.getElem?_map]
    cases hi : cs[i]? with
    | none => rfl
    | some c => simp [mkDI, List.getD, hi]
  have heN : ∀ i, effN (cs.mapIdx fun i c => mkDI ms (cs.map (AOper.isEff on)) c i) i = cnt (cs.map (AOper.isEff on)) 0 (fun j => decide (j < i)) := fun i => by
    rw [← cnt_effN (k := 0), hdm]; simp
  have hsize : ops.size = cs.length := by have := hc.len; simpa [essOf] using this
  have heff : ∀ (j : Nat) (c : AOper), cs[j]? = some c → (cs.map (AOper.isEff on)).getD j false = c.isEff on := fun j c hj => by simp [List.getD, hj]
  -- where all is listed
  have done : ∀ (listed : Array Bool) (q : HP × Nat), (∀ i, i < cs.length → listed.getD i true = true) → E[cnt (cs.map (AOper.isEff on)) 0 fun j => listed.getD j true]? = some q →
      T ⟨stTm cs vs s.tm (fun j => listed.getD j true), q.1, q.2, s.df⟩ := fun listed q hall hq => by
    have e1 : stTm cs vs s.tm (fun j => listed.getD j true) = stTm cs vs s.tm (fun j => decide (j < cs.length)) := by
      funext t
      simp only [stTm]
      cases hw : wr cs t with
      | none => rfl
      | some j =>
        obtain ⟨c, h1, _⟩ := wr_some hw
        have hlt := (List.getElem?_eq_some_iff.1 h1).1
        simp only [hall j hlt, hlt, decide_true]
    have e2 : cnt (cs.map (AOper.isEff on)) 0 (fun j => listed.getD j true) = cnt (cs.map (AOper.isEff on)) 0 (fun j => decide (j < cs.length)) := by
      apply Nat.le_antisymm
      · refine cnt_mono fun j hj _ => ?_
        have := (List.getElem?_eq_some_iff.1 hj).1
        simp at this ⊢; exact this
      · refine cnt_mono fun j hj _ => ?_
        have := (List.getElem?_eq_some_iff.1 hj).1
        simp only [List.length_map] at this
        simp only [Nat.zero_add]
        exact hall j this
    rw [e2, ← heN, hp] at hq
    injection hq with hq; subst hq
    rw [e1]; exact hT
  intro fuel
  induction fuel with
  | zero =>
    intro t listed q hls hcl hfu hq
    simp only [Region.linearise.go, List.reverse_nil, wpoL]
    refine done listed q (fun i hi => ?_) hq
    cases hl : listed.getD i true with
    | true => rfl
    | false =>
      have : i ∈ (List.range cs.length).filter fun i => !listed.getD i true := List.mem_filter.2 ⟨List.mem_range.2 hi, by rw [hl]; rfl⟩
      have h0 := List.eq_nil_of_length_eq_zero (Nat.le_zero.1 hfu)
      rw [h0] at this; simp at this
  | succ fuel ih =>
    intro t listed q hls hcl hfu hq
    simp only [Region.linearise.go]
    change wpoL P cs (match (Region.ready .any ops listed)[t % (Region.ready .any ops listed).length]? with
      | some i => Region.linearise.go .any ops fuel (t / (Region.ready .any ops listed).length) (listed.setIfInBounds i true) [i]
      | none => [].reverse) _ T
    -- what is ready
    have hready : ∀ i, i ∈ Region.ready .any ops listed ↔ i < cs.length ∧ listed.getD i true = false ∧ ∀ e ∈ (essOf ops).getD i [], listed.getD e false = true := fun i => by
      simp only [Region.ready, List.mem_filter, List.mem_range, hsize, Bool.and_eq_true, Bool.not_eq_true']
      constructor
      · rintro ⟨h1, h2, h3⟩
        refine ⟨h1, h2, fun e he => ?_⟩
        have hio : ops[i]? = some ops[i] := Array.getElem?_eq_getElem (by omega)
        rw [hio] at h3
        simp only [Option.map_some, Option.getD_some, Array.all_eq_true', Bool.or_eq_true, Bool.not_eq_true'] at h3
        have hes : (essOf ops).getD i [] = (ops[i].after.toList.filter (Region.binds .any)).map (·.on) := by
          have : i < ops.toList.length := by simp; omega
          simp [essOf, List.getD, hio]
        rw [hes] at he
        obtain ⟨ed, hed, rfl⟩ := List.mem_map.1 he
        rw [List.mem_filter] at hed
        rcases h3 ed (by simpa using hed.1) with h | h
        · rw [hed.2] at h; cases h
        · exact h
      · rintro ⟨h1, h2, h3⟩
        refine ⟨h1, h2, ?_⟩
        have hio : ops[i]? = some ops[i] := Array.getElem?_eq_getElem (by omega)
        rw [hio]
        simp only [Option.map_some, Option.getD_some, Array.all_eq_true', Bool.or_eq_true, Bool.not_eq_true']
        intro ed hed
        cases hb : Region.binds .any ed with
        | false => exact .inl rfl
        | true =>
          refine .inr (h3 _ ?_)
          have hes : (essOf ops).getD i [] = (ops[i].after.toList.filter (Region.binds .any)).map (·.on) := by
            simp [essOf, List.getD, hio]
          rw [hes]
          exact List.mem_map.2 ⟨ed, by rw [List.mem_filter]; exact ⟨by simpa using hed, hb⟩, rfl⟩
    have hgd : ∀ e, e < cs.length → listed.getD e false = listed.getD e true := fun e he => by
      have : e < listed.size := by omega
      simp [Array.getD, this]
    cases hi : (Region.ready .any ops listed)[t % (Region.ready .any ops listed).length]? with
    | none =>
      have hnil : Region.ready .any ops listed = [] := by
        cases hr : Region.ready .any ops listed with
        | nil => rfl
        | cons x xs =>
          rw [hr] at hi
          have hlt : t % (x :: xs).length < (x :: xs).length := Nat.mod_lt _ (by simp)
          simp at hi
          simp at hlt
          omega
      simp only [List.reverse_nil, wpoL]
      refine done listed q (fun i hi => ?_) hq
      -- the least that is not listed would be ready
      induction i using Nat.strongRecOn with
      | _ i ihi =>
        cases hl : listed.getD i true with
        | true => rfl
        | false =>
          have : i ∈ Region.ready .any ops listed := (hready i).2 ⟨hi, hl, fun e he => by
            have hlt := hc.back i hi e he
            rw [hgd e (by omega)]
            exact ihi e hlt (by omega)⟩
          rw [hnil] at this; simp at this
    | some i =>
      simp only []
      rw [linearise_go_acc, List.reverse_singleton, List.singleton_append]
      have hmem := (hready i).1 (List.mem_of_getElem? hi)
      obtain ⟨hin, hil, hie⟩ := hmem
      have hie' : ∀ e ∈ (essOf ops).getD i [], listed.getD e true = true := fun e he => by
        rw [← hgd e (by have := hc.back i hin e he; omega)]; exact hie e he
      have hanc := anc_in hc (D := fun j => listed.getD j true) hcl
      have hci : cs[i]? = some cs[i] := List.getElem?_eq_getElem hin
      simp only [wpoL, hci]
      have hvi : vs[i]? = some (vs[i]'(by rw [hf.len]; simpa using hin)) := List.getElem?_eq_getElem _
      generalize hvg : (vs[i]'(by rw [hf.len]; simpa using hin)) = v at hvi
      have hdi : (cs.mapIdx fun i c => mkDI ms (cs.map (AOper.isEff on)) c i)[i]? = some (mkDI ms (cs.map (AOper.isEff on)) cs[i] i) := by
        rw [List.getElem?_mapIdx, hci]; rfl
      -- the temporaries that it looks at
      have htms := tmsAt_st (tm := s.tm) hc (by have := hf.len; simpa using this)
      have hreads : ∀ t ∈ cs[i].ts, tmsAt (cs.mapIdx fun i c => mkDI ms (cs.map (AOper.isEff on)) c i) vs s.tm i t = stTm cs vs s.tm (fun j => listed.getD j true) t := fun t ht => by
        rw [htms i (by omega)]
        simp only [stTm]
        cases hw : wr cs t with
        | none => rfl
        | some j =>
          obtain ⟨c', h1, _⟩ := wr_some hw
          have hjl := (List.getElem?_eq_some_iff.1 h1).1
          rcases hc.reads i _ t j hci ht hw with h | ⟨h, ha⟩ | ⟨h, ha⟩
          · subst h; simp [hil]
          · simp only [h, decide_true, hanc i hin hie' j ha]
          · have hnj : listed.getD j true = false := by
              cases hl : listed.getD j true with
              | false => rfl
              | true =>
                have := hanc j hjl (hcl j hjl hl) i ha
                rw [hil] at this; cases this
            have : ¬ j < i := by omega
            simp [hnj, this]
      -- behind it
      have hset : ∀ j, (listed.setIfInBounds i true).getD j true = (if j = i then true else listed.getD j true) := fun j => by
        by_cases e : j = i
        · subst e
          have : j < listed.size := by omega
          simp [Array.getD, this]
        · simp only [e, if_false]
          by_cases hj : j < listed.size
          · simp [Array.getD, hj, Ne.symm e]
          · simp [Array.getD, hj]
      have hnext : ∀ q', E[cnt (cs.map (AOper.isEff on)) 0 fun j => (listed.setIfInBounds i true).getD j true]? = some q' →
          wpoL P cs (Region.linearise.go .any ops fuel (t / (Region.ready .any ops listed).length) (listed.setIfInBounds i true) []) ⟨dset (stTm cs vs s.tm (fun j => listed.getD j true)) cs[i].dst v, q'.1, q'.2, s.df⟩ T := fun q' hq' => by
        have := ih (t / (Region.ready .any ops listed).length) (listed.setIfInBounds i true) q' (by simpa using hls) (fun j hj hjl e he => ?_) ?_ hq'
        · rw [stTm_set (D := fun j => listed.getD j true) (D' := fun j => (listed.setIfInBounds i true).getD j true) hci hvi (fun t ht => hc.uniq i _ t hci ht) (by rw [hset]; simp) (fun j hj _ => by rw [hset]; simp [hj])] at this
          exact this
        · rw [hset] at hjl ⊢
          by_cases e1 : e = i
          · simp [e1]
          · simp only [e1, if_false]
            by_cases e2 : j = i
            · subst e2; exact hie' e he
            · simp only [e2, if_false] at hjl
              exact hcl j hj hjl e he
        · have hfe : ((List.range cs.length).filter fun j => !(listed.setIfInBounds i true).getD j true) = ((List.range cs.length).filter fun j => !listed.getD j true).erase i := by
            rw [List.Nodup.erase_eq_filter (List.nodup_range.sublist List.filter_sublist), List.filter_filter]
            apply List.filter_congr
            intro j _
            rw [hset]
            by_cases e : j = i
            · simp [e]
            · simp [e]
          rw [hfe, List.length_erase_of_mem (List.mem_filter.2 ⟨List.mem_range.2 hin, by rw [hil]; rfl⟩)]
          omega
      apply stp_of_V
      show stpV P cs[i] _ q.1 q.2 _
      -- its effect
      cases he : (cs[i]).isEff on with
      | true =>
        obtain ⟨a, b, ha, hb, hdt⟩ := hf.eff i _ v hdi hvi (by simp [mkDI, List.getD, hci, he])
        simp only [Nat.zero_add] at ha hb
        have ecnt : cnt (cs.map (AOper.isEff on)) 0 (fun j => listed.getD j true) = effN (cs.mapIdx fun i c => mkDI ms (cs.map (AOper.isEff on)) c i) i := by
          rw [heN]
          apply Nat.le_antisymm
          · refine cnt_mono fun j hj hl => ?_
            simp only [Nat.zero_add] at hl ⊢
            have hjl : j < cs.length := by have := (List.getElem?_eq_some_iff.1 hj).1; simpa using this
            simp only [decide_eq_true_eq]
            by_cases hji : j < i
            · exact hji
            · exfalso
              have hne : j ≠ i := fun e => by subst e; rw [hil] at hl; cases hl
              have := hc.chain j i hjl (by simp [List.getD, hj]) (by omega) (by rw [heff i _ hci]; exact he)
              have := hanc j hjl (hcl j hjl hl) i this
              rw [hil] at this; cases this
          · refine cnt_mono fun j hj hl => ?_
            simp only [Nat.zero_add, decide_eq_true_eq] at hl ⊢
            exact hanc i hin hie' j (hc.chain i j hin (by rw [heff i _ hci]; exact he) hl (by simp [List.getD, hj]))
        rw [ecnt, ha] at hq
        injection hq with hq; subst hq
        refine stpV_congr hreads (hdt _ ?_)
        rw [put'_dset]
        refine hnext b ?_
        have : cnt (cs.map (AOper.isEff on)) 0 (fun j => (listed.setIfInBounds i true).getD j true) = effN (cs.mapIdx fun i c => mkDI ms (cs.map (AOper.isEff on)) c i) i + 1 := by
          have e1 : effN (cs.mapIdx fun i c => mkDI ms (cs.map (AOper.isEff on)) c i) i + 1 = effN (cs.mapIdx fun i c => mkDI ms (cs.map (AOper.isEff on)) c i) (i + 1) := by
            rw [effN_succ hdi]; simp [mkDI, List.getD, hci, he]
          rw [e1, heN]
          apply Nat.le_antisymm
          · refine cnt_mono fun j hj hl => ?_
            simp only [Nat.zero_add] at hl ⊢
            rw [hset] at hl
            have hjl : j < cs.length := by have := (List.getElem?_eq_some_iff.1 hj).1; simpa using this
            simp only [decide_eq_true_eq]
            by_cases e : j = i
            · omega
            · simp only [e, if_false] at hl
              by_cases hji : j < i
              · omega
              · exfalso
                have := hc.chain j i hjl (by simp [List.getD, hj]) (by omega) (by rw [heff i _ hci]; exact he)
                have := hanc j hjl (hcl j hjl hl) i this
                rw [hil] at this; cases this
          · refine cnt_mono fun j hj hl => ?_
            simp only [Nat.zero_add, decide_eq_true_eq] at hl ⊢
            rw [hset]
            by_cases e : j = i
            · simp [e]
            · simp only [e, if_false]
              exact hanc i hin hie' j (hc.chain i j hin (by rw [heff i _ hci]; exact he) (by omega) (by simp [List.getD, hj]))
        rw [this]; exact hb
      | false =>
        have hdt := hf.non i _ v hdi hvi (by simp [mkDI, List.getD, hci, he]) (cnt (cs.map (AOper.isEff on)) 0 fun j => listed.getD j true) q
          (.inl (by
            simp only [mkDI]
            refine cnt_mono fun j _ hl => ?_
            simp only [Nat.zero_add] at hl ⊢
            exact hanc i hin hie' j hl))
          (.inl (by
            simp only [mkDI]
            refine cnt_mono fun j hj hl => ?_
            simp only [Nat.zero_add] at hl ⊢
            have hjl : j < cs.length := by have := (List.getElem?_eq_some_iff.1 hj).1; simpa using this
            cases ha : anc ms j i with
            | false => rfl
            | true =>
              have := hanc j hjl (hcl j hjl hl) i ha
              rw [hil] at this; cases this)) hq
        refine stpV_congr hreads (hdt _ ?_)
        rw [put'_dset]
        refine hnext q ?_
        have : cnt (cs.map (AOper.isEff on)) 0 (fun j => (listed.setIfInBounds i true).getD j true) = cnt (cs.map (AOper.isEff on)) 0 (fun j => listed.getD j true) := by
          have hni : ∀ j, (cs.map (AOper.isEff on))[j]? = some true → j ≠ i := fun j hj e => by
            subst e
            rw [List.getElem?_map, hci] at hj
            simp [he] at hj
          apply Nat.le_antisymm
          · refine cnt_mono fun j hj hl => ?_
            simp only [Nat.zero_add] at hl ⊢
            rw [hset] at hl
            simpa [hni j hj] using hl
          · refine cnt_mono fun j hj hl => ?_
            simp only [Nat.zero_add] at hl ⊢
            rw [hset]
            simpa [hni j hj] using hl
        rw [this]; exact hq

/-- a region whose order is open, run in the text's order -/
theorem draw_ok {on : List Nat} {ops : Array Oper} {cs : List AOper} {ds : List DI} {m : Bool} (hd : dAll m on ops cs = some ds) {s : St} {T : St → Prop} (h : wpd P ds [] [] s T) (t : Nat) :
    wpoL P cs (Region.schedule m ops t) s T := by
  unfold dAll at hd
  simp only at hd
  split at hd
  case isFalse => cases hd
  rename_i hchk
  injection hd with hd; subst hd
  simp only [Bool.and_eq_true] at hchk
  obtain ⟨hchk, hdep⟩ := hchk
  have hc := chk_of hchk
  obtain ⟨vs, Hs, p, hf, _, _, hp, hT⟩ := wpd_facts _ _ _ _ _ (by simp) h
  simp only [List.nil_append, List.length_nil, Nat.zero_add, List.length_mapIdx] at hf hp hT
  have hsize : ops.size = cs.length := by have := hc.len; simpa [essOf] using this
  simp only [Region.schedule, hdep, if_true]
  unfold Region.linearise
  have hcnt : cnt (cs.map (AOper.isEff on)) 0 (fun j => (Array.replicate ops.size false).getD j true) = 0 := by
    have h0 := cnt_lt (effs := cs.map (AOper.isEff on)) (k := 0) (D := fun _ => true) (i := 0)
    have : cnt (cs.map (AOper.isEff on)) 0 (fun j => (Array.replicate ops.size false).getD j true) ≤ cnt (cs.map (AOper.isEff on)) 0 (fun j => true && decide (j < 0)) := cnt_mono fun j hj hl => by
      have hjl : j < cs.length := by have := (List.getElem?_eq_some_iff.1 hj).1; simpa using this
      simp only [Nat.zero_add] at hl
      have : j < ops.size := by omega
      simp [Array.getD, this] at hl
    omega
  have e0 : stTm cs vs s.tm (fun j => (Array.replicate ops.size false).getD j true) = s.tm := by
    funext t
    simp only [stTm]
    cases hw : wr cs t with
    | none => rfl
    | some j =>
      obtain ⟨c, h1, _⟩ := wr_some hw
      have hlt := (List.getElem?_eq_some_iff.1 h1).1
      have : j < ops.size := by omega
      simp [Array.getD, this]
  have := go_sound (P := P) (T := T) (s := s) (p := p) hc hf hp ?_ ops.size t (Array.replicate ops.size false) (s.hp, s.nx) (by simp [hsize]) ?_ ?_ ?_
  · rw [e0] at this; exact this
  · rw [← tmsAt_st hc (by have := hf.len; simpa using this) cs.length (Nat.le_refl _)]; exact hT
  · intro i hi hl
    have : i < ops.size := by omega
    simp [Array.getD, this] at hl
  · refine Nat.le_trans (List.length_filter_le _ _) ?_
    simp [hsize]
  · rw [hcnt]; rfl
end
end Go.Abs
