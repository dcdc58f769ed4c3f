import Derived.CallsIn
import Derived.RangeFuncLeaves
import Derived.Below
import Derived.WalkKit
import Derived.Deep.AppendSrc
import Derived.Deep.Upon
import Derived.DeepKeys
import Derived.Deep.MidRow
import Derived.Great.BuildSlice
import Derived.Laws.MakeOwn
import Derived.Lib.AppendZerosOnto
namespace Go.Abs

/-- where an abstract object lies: block, offset, cells per row, rows that fit -/
structure Loc where
  b : Option Nat
  o : Nat
  z : Nat
  cap : Nat

abbrev IM := Nat → Option Loc
def IM.nil : IM := fun _ => none

/-- abstract cells -/
inductive AL where
  | v (x : Value)
  | sl (clip : Bool) (rows : List (List AL))
  | ow (id off len : Nat) (clip : Bool)
  | pt (id row off : Nat)
  | fp (rows : List (List AL)) (row off : Nat)
  | fn (f : Fn) (caps : List AL)
  | bm (f : Fn) (pre : List AL)
  | yl (id : Nat)

/-- components of results -/
inductive AC where
  | x (l : AL)
  | agg (xs : List AL)

/-- abstract values of temporaries -/
inductive AV where
  | any
  | c (a : AC)
  | tup (xs : List AC)

def AC.cells : AC → List AL
  | .x l => [l]
  | .agg xs => xs

inductive RepL (ok : Nat → Prop) (w : World) : IM → Value → AL → Prop
  | v (ι : IM) (x : Value) (h : x.oneCell' = true) : RepL ok w ι x (.v x)
  | nil (ι : IM) (clip : Bool) : RepL ok w ι (.slice none 0 0) (.sl clip [])
  | sl (ι : IM) (clip : Bool) (rows : List (List AL)) (b o c z : Nat) (cv : Nat → Nat → Value)
      (hb : rows ≠ [] → ok b) (hc : rows.length ≤ c) (hcl : clip = true → c = rows.length)
      (hz : ∀ r ∈ rows, r.length = z)
      (hcell : ∀ i j, i < rows.length → j < z → w.cell? ⟨b, o + i * z + j, none⟩ = some (cv i j))
      (hrep : ∀ i j r x, rows[i]? = some r → r[j]? = some x → RepL ok w IM.nil (cv i j) x) :
      RepL ok w ι (.slice (some ⟨b, o, none⟩) rows.length c) (.sl clip rows)
  | fp (ι : IM) (rows : List (List AL)) (row off : Nat) (b o z : Nat) (cv : Nat → Nat → Value)
      (hb : ok b) (hz : ∀ r ∈ rows, r.length = z)
      (hcell : ∀ i j, i < rows.length → j < z → w.cell? ⟨b, o + i * z + j, none⟩ = some (cv i j))
      (hrep : ∀ i j r x, rows[i]? = some r → r[j]? = some x → RepL ok w IM.nil (cv i j) x) :
      RepL ok w ι (.pointer (some ⟨b, o + row * z + off, none⟩)) (.fp rows row off)
  | ow (ι : IM) (id off len : Nat) (clip : Bool) (L : Loc) (a : Option Addr) (c : Nat)
      (hι : ι id = some L) (hc : len ≤ c) (hcl : clip = true → c = len) (hsp : ∀ d, a = some d → d.spot = none) (hn : a = none → c = 0)
      (ha : c ≠ 0 → ∃ b, L.b = some b ∧ a = some ⟨b, L.o + off * L.z, none⟩ ∧ off + c ≤ L.cap) :
      RepL ok w ι (.slice a len c) (.ow id off len clip)
  | pt (ι : IM) (id row off : Nat) (L : Loc) (b : Nat) (hι : ι id = some L) (hb : L.b = some b) :
      RepL ok w ι (.pointer (some ⟨b, L.o + row * L.z + off, none⟩)) (.pt id row off)
  | fn (ι : IM) (f : Fn) (vs : List Value) (caps : List AL) (hl : vs.length = caps.length)
      (h : ∀ (i : Nat) (v : Value) (x : AL), vs[i]? = some v → caps[i]? = some x → RepL ok w ι v x) :
      RepL ok w ι (.func f #[] vs.toArray) (.fn f caps)
  | bm (ι : IM) (f : Fn) (vs : List Value) (pre : List AL) (hl : vs.length = pre.length)
      (h : ∀ (i : Nat) (v : Value) (x : AL), vs[i]? = some v → pre[i]? = some x → RepL ok w ι v x) :
      RepL ok w ι (.func f #[.agg vs.toArray] #[]) (.bm f pre)
  | yl (ι : IM) (id : Nat) (L : Loc) (b : Nat) (hι : ι id = some L) (hb : L.b = some b) :
      RepL ok w ι (.func (.yield b) #[] #[]) (.yl id)

theorem cell_of_block {w w' : World} {b : Nat} (h : w'.heap[b]? = w.heap[b]?) (o : Nat) (s : Option Nat) : w'.cell? ⟨b, o, s⟩ = w.cell? ⟨b, o, s⟩ := by
  simp only [World.cell?, h]

theorem RepL.mono {ok ok' : Nat → Prop} {w w' : World} (hok : ∀ k, ok k → ok' k) (hw : ∀ k, ok k → w'.heap[k]? = w.heap[k]?) :
    ∀ {ι : IM} {v : Value} {x : AL}, RepL ok w ι v x → ∀ {ι' : IM}, (∀ id L, ι id = some L → ι' id = some L) → RepL ok' w' ι' v x := by
  intro ι v x h
  induction h with
  | v ι x h => intro ι' _; exact .v _ _ h
  | nil ι clip => intro ι' _; exact .nil _ _
  | sl ι clip rows b o c z cv hb hc hcl hz hcell hrep ih =>
    intro ι' _
    refine .sl _ clip rows b o c z cv (fun h => hok _ (hb h)) hc hcl hz (fun i j hi hj => ?_) (fun i j r x hr hx => ih i j r x hr hx (fun _ _ h => h))
    rw [cell_of_block (hw b (hb (by intro e; subst e; simp at hi)))]; exact hcell i j hi hj
  | fp ι rows row off b o z cv hb hz hcell hrep ih =>
    intro ι' _
    refine .fp _ rows row off b o z cv (hok _ hb) hz (fun i j hi hj => ?_) (fun i j r x hr hx => ih i j r x hr hx (fun _ _ h => h))
    rw [cell_of_block (hw b hb)]; exact hcell i j hi hj
  | ow ι id off len clip L a c hι hc hcl hsp hn ha => intro ι' hι'; exact .ow _ id off len clip L a c (hι' _ _ hι) hc hcl hsp hn ha
  | pt ι id row off L b hι hb => intro ι' hι'; exact .pt _ id row off L b (hι' _ _ hι) hb
  | fn ι f vs caps hl h ih => intro ι' hι'; exact .fn _ f vs caps hl (fun i v x h1 h2 => ih i v x h1 h2 hι')
  | bm ι f vs pre hl h ih => intro ι' hι'; exact .bm _ f vs pre hl (fun i v x h1 h2 => ih i v x h1 h2 hι')
  | yl ι id L b hι hb => intro ι' hι'; exact .yl _ id L b (hι' _ _ hι) hb

/-- cells without references to abstract objects -/
def AL.pure : AL → Bool
  | .v _ | .sl .. | .fp .. => true
  | .ow .. | .pt .. | .yl _ => false
  | .fn _ caps => caps.attach.all fun ⟨x, _⟩ => x.pure
  | .bm _ pre => pre.attach.all fun ⟨x, _⟩ => x.pure

theorem RepL.toNil {ok : Nat → Prop} {w : World} {ι : IM} {v : Value} {x : AL} (h : RepL ok w ι v x) : x.pure = true → RepL ok w IM.nil v x := by
  induction h with
  | v ι x h => intro _; exact .v _ _ h
  | nil ι clip => intro _; exact .nil _ _
  | sl ι clip rows b o c z cv hb hc hcl hz hcell hrep ih => intro _; exact .sl _ clip rows b o c z cv hb hc hcl hz hcell hrep
  | fp ι rows row off b o z cv hb hz hcell hrep ih => intro _; exact .fp _ rows row off b o z cv hb hz hcell hrep
  | ow ι id off len clip L a c hι hc hcl hsp hn ha => intro h; simp [AL.pure] at h
  | pt ι id row off L b hι hb => intro h; simp [AL.pure] at h
  | fn ι f vs caps hl h ih =>
    intro hp
    refine .fn _ f vs caps hl (fun i v x h1 h2 => ih i v x h1 h2 ?_)
    simp only [AL.pure, List.all_eq_true] at hp
    exact hp ⟨x, List.mem_of_getElem? h2⟩ (List.mem_attach _ _)
  | bm ι f vs pre hl h ih =>
    intro hp
    refine .bm _ f vs pre hl (fun i v x h1 h2 => ih i v x h1 h2 ?_)
    simp only [AL.pure, List.all_eq_true] at hp
    exact hp ⟨x, List.mem_of_getElem? h2⟩ (List.mem_attach _ _)
  | yl ι id L b hι hb => intro h; simp [AL.pure] at h

theorem RepL.ofNil {ok : Nat → Prop} {w : World} {ι : IM} {v : Value} {x : AL} (h : RepL ok w IM.nil v x) : RepL ok w ι v x :=
  h.mono (fun _ h => h) (fun _ _ => rfl) (fun _ _ h => by simp [IM.nil] at h)

theorem RepL.one {ok : Nat → Prop} {w : World} {ι : IM} {v : Value} {x : AL} (h : RepL ok w ι v x) : v.oneCell' = true := by
  cases h <;> first | assumption | rfl

inductive RepC (ok : Nat → Prop) (w : World) (ι : IM) : Value → AC → Prop
  | x {v : Value} {l : AL} (h : RepL ok w ι v l) : RepC ok w ι v (.x l)
  | agg {cs : List Value} {xs : List AL} (hl : cs.length = xs.length) (h : ∀ (i : Nat) (v : Value) (x : AL), cs[i]? = some v → xs[i]? = some x → RepL ok w ι v x) :
      RepC ok w ι (.agg cs.toArray) (.agg xs)

inductive RepV (ok : Nat → Prop) (w : World) (ι : IM) : Value → AV → Prop
  | any (v : Value) : RepV ok w ι v .any
  | c {v : Value} {a : AC} (h : RepC ok w ι v a) : RepV ok w ι v (.c a)
  | tup {vs : List Value} {xs : List AC} (hl : vs.length = xs.length) (h : ∀ (i : Nat) (v : Value) (x : AC), vs[i]? = some v → xs[i]? = some x → RepC ok w ι v x) :
      RepV ok w ι (.tuple vs.toArray) (.tup xs)

section
variable {ok ok' : Nat → Prop} {w w' : World} {ι ι' : IM}
theorem RepC.mono {v : Value} {x : AC} (h : RepC ok w ι v x) (hok : ∀ k, ok k → ok' k) (hw : ∀ k, ok k → w'.heap[k]? = w.heap[k]?) (hι : ∀ id L, ι id = some L → ι' id = some L) : RepC ok' w' ι' v x := by
  cases h with
  | x h => exact .x (h.mono hok hw hι)
  | agg hl h => exact .agg hl (fun i v x h1 h2 => (h i v x h1 h2).mono hok hw hι)
theorem RepV.mono {v : Value} {x : AV} (h : RepV ok w ι v x) (hok : ∀ k, ok k → ok' k) (hw : ∀ k, ok k → w'.heap[k]? = w.heap[k]?) (hι : ∀ id L, ι id = some L → ι' id = some L) : RepV ok' w' ι' v x := by
  cases h with
  | any v => exact .any v
  | c h => exact .c (h.mono hok hw hι)
  | tup hl h => exact .tup hl (fun i v x h1 h2 => (h i v x h1 h2).mono hok hw hι)
end

/-- a cell's value is no aggregate -/
theorem RepC.cells {ok : Nat → Prop} {w : World} {ι : IM} {cs : List Value} {xs : List AL} (h : RepC ok w ι (.agg cs.toArray) (.agg xs)) :
    cs.length = xs.length ∧ ∀ (i : Nat) (v : Value) (x : AL), cs[i]? = some v → xs[i]? = some x → RepL ok w ι v x := by
  generalize hv : Value.agg cs.toArray = u at h
  cases h with
  | agg hl h' =>
    rename_i ds
    injection hv with hv
    have : cs = ds := by have := congrArg Array.toList hv; simpa using this
    subst this
    exact ⟨hl, h'⟩

end Go.Abs

namespace Go.Abs
set_option linter.unusedVariables false
open Go.RowKit

/-- abstract objects -/
inductive HO where
  | none
  | blk (z : Nat) (rows : List (List AL)) (mt pu : Bool)
  | loop (tm : Nat → AV) (N : Nat) (ps : List Nat) (assign body : Code) (st : LoopState) (pend : Option Code)

abbrev HP := Nat → HO
def hset (H : HP) (i : Nat) (o : HO) : HP := fun j => if j = i then o else H j
def tset (f : Nat → AV) (i : Nat) (v : AV) : Nat → AV := fun j => if j = i then v else f j
theorem hset_same (H : HP) (i : Nat) (o : HO) : hset H i o i = o := by simp [hset]
theorem hset_ne (H : HP) {i j : Nat} (o : HO) (h : j ≠ i) : hset H i o j = H j := by simp [hset, h]
theorem tset_same (f : Nat → AV) (i : Nat) (v : AV) : tset f i v i = v := by simp [tset]
theorem tset_ne (f : Nat → AV) {i j : Nat} (v : AV) (h : j ≠ i) : tset f i v j = f j := by simp [tset, h]

def HO.live : HO → Bool
  | .blk _ _ true _ => true
  | .loop .. => true
  | _ => false

/-- the concrete blocks that may be written -/
def MutB (ι : IM) (H : HP) (k : Nat) : Prop := ∃ id L, ι id = some L ∧ (H id).live = true ∧ L.cap ≠ 0 ∧ L.b = some k

def pim (p : Bool) (ι : IM) : IM := cond p IM.nil ι
theorem RepL.pim_mono {ok ok' : Nat → Prop} {w w' : World} {p : Bool} {ι ι' : IM} {v : Value} {x : AL} (h : RepL ok w (pim p ι) v x) (hok : ∀ k, ok k → ok' k) (hw : ∀ k, ok k → w'.heap[k]? = w.heap[k]?) (hι : ∀ id L, ι id = some L → ι' id = some L) : RepL ok' w' (pim p ι') v x := by
  refine h.mono hok hw ?_
  cases p
  · exact hι
  · exact fun _ _ h => h
theorem RepL.pim_and {ok : Nat → Prop} {w : World} {p q : Bool} {ι : IM} {v : Value} {x : AL} (h : RepL ok w (pim p ι) v x) : RepL ok w (pim (p && q) ι) v x := by
  cases p
  · exact h
  · cases q
    · exact RepL.ofNil h
    · exact h
theorem RepL.pim_out {ok : Nat → Prop} {w : World} {p : Bool} {ι : IM} {v : Value} {x : AL} (h : RepL ok w (pim p ι) v x) : RepL ok w ι v x := by
  cases p
  · exact h
  · exact RepL.ofNil h
theorem RepL.pim_in {ok : Nat → Prop} {w : World} {p : Bool} {ι : IM} {v : Value} {x : AL} (h : RepL ok w ι v x) (hp : p = true → x.pure = true) : RepL ok w (pim p ι) v x := by
  cases p
  · exact h
  · exact RepL.toNil h (hp rfl)

def BlkRep (ok : Nat → Prop) (w : World) (ι : IM) (L : Loc) (z : Nat) (rows : List (List AL)) (mt pu : Bool) : Prop :=
  L.z = z ∧ (∀ r ∈ rows, r.length = z) ∧ rows.length ≤ L.cap ∧
  (L.cap ≠ 0 → ∃ b, L.b = some b ∧ b < w.heap.size ∧
    (∃ cv : Nat → Nat → Value, (∀ i j, i < rows.length → j < z → w.cell? ⟨b, L.o + i * z + j, none⟩ = some (cv i j)) ∧
      (∀ i j r x, rows[i]? = some r → r[j]? = some x → RepL ok w (pim pu ι) (cv i j) x)) ∧
    (mt = false → ok b) ∧
    (mt = true → ¬ ok b ∧ ∀ i j, i < L.cap → j < z → (w.cell? ⟨b, L.o + i * z + j, none⟩).isSome = true ∧ w.frozen? ⟨b, L.o + i * z + j, none⟩ = false))

def LoopRep (ok : Nat → Prop) (w : World) (ι : IM) (L : Loc) (tm : Nat → AV) (N : Nat) (ps : List Nat) (assign body : Code) (st : LoopState) (pend : Option Code) : Prop :=
  L.cap ≠ 0 ∧ ∃ b r, L.b = some b ∧ ¬ ok b ∧ w.heap[b]? = some (.loop r) ∧ r.tmps.size = N ∧ (∀ t, RepV ok w ι (r.tmps.getD t undef) (tm t)) ∧ r.params.toList = ps ∧
    r.assign = assign ∧ r.body = body ∧ r.state = st ∧ r.pending = pend

structure HSat (ι : IM) (ok : Nat → Prop) (H : HP) (nx : Nat) (w : World) : Prop where
  ok_lt : ∀ k, ok k → k < w.heap.size
  fresh : ∀ id, nx ≤ id → ι id = none ∧ H id = .none
  blk : ∀ id z rows mt pu, H id = .blk z rows mt pu → ∃ L, ι id = some L ∧ BlkRep ok w ι L z rows mt pu
  loop : ∀ id tm N ps assign body st pend, H id = .loop tm N ps assign body st pend → ∃ L, ι id = some L ∧ LoopRep ok w ι L tm N ps assign body st pend
  inj : ∀ id id' L L' k, ι id = some L → ι id' = some L' → (H id).live = true → (H id').live = true → L.cap ≠ 0 → L'.cap ≠ 0 → L.b = some k → L'.b = some k → id = id'

structure Ext (ι : IM) (ok : Nat → Prop) (H : HP) (nx : Nat) (w : World) (ι' : IM) (ok' : Nat → Prop) (H' : HP) (w' : World) : Prop where
  os : w'.os = w.os
  tape : w'.tape = w.tape
  output : w'.output = w.output
  size : w.heap.size ≤ w'.heap.size
  same : ∀ k, k < w.heap.size → ¬ MutB ι H k → w'.heap[k]? = w.heap[k]?
  okm : ∀ k, ok k → ok' k
  okr : ∀ k, ok' k → ok k ∨ MutB ι H k ∨ w.heap.size ≤ k
  im : ∀ id L, ι id = some L → ι' id = some L
  imr : ∀ id, id < nx → ι' id = ι id
  mutr : ∀ k, MutB ι' H' k → MutB ι H k ∨ w.heap.size ≤ k

section
variable {ι ι' ι'' : IM} {ok ok' ok'' : Nat → Prop} {H H' H'' : HP} {nx nx' : Nat} {w w' w'' : World}

theorem Ext.refl : Ext ι ok H nx w ι ok H w :=
  ⟨rfl, rfl, rfl, Nat.le_refl _, fun _ _ _ => rfl, fun _ h => h, fun _ h => .inl h, fun _ _ h => h, fun _ _ => rfl, fun _ h => .inl h⟩

theorem Ext.trans (h1 : Ext ι ok H nx w ι' ok' H' w') (h2 : Ext ι' ok' H' nx' w' ι'' ok'' H'' w'') (hn : nx ≤ nx') : Ext ι ok H nx w ι'' ok'' H'' w'' where
  os := h2.os.trans h1.os
  tape := h2.tape.trans h1.tape
  output := h2.output.trans h1.output
  size := Nat.le_trans h1.size h2.size
  same k hk hm := (h2.same k (Nat.lt_of_lt_of_le hk h1.size) (fun hm' => (h1.mutr k hm').elim hm (fun h => by omega))).trans (h1.same k hk hm)
  okm k h := h2.okm k (h1.okm k h)
  okr k h := by
    rcases h2.okr k h with h | h | h
    · exact h1.okr k h
    · exact (h1.mutr k h).elim (fun h => .inr (.inl h)) (fun h => .inr (.inr h))
    · exact .inr (.inr (Nat.le_trans h1.size h))
  im id L h := h2.im id L (h1.im id L h)
  imr id h := (h2.imr id (by omega)).trans (h1.imr id h)
  mutr k h := by
    rcases h2.mutr k h with h | h
    · exact h1.mutr k h
    · exact .inr (Nat.le_trans h1.size h)

/-- blocks that are never written again stay -/
theorem HSat.ok_notMut (hs : HSat ι ok H nx w) {k : Nat} (h : ok k) : ¬ MutB ι H k := by
  rintro ⟨id, L, hι, hl, hc, hb⟩
  cases hH : H id with
  | none => rw [hH] at hl; simp [HO.live] at hl
  | blk z rows mt pu =>
    rw [hH] at hl
    cases mt with
    | false => simp [HO.live] at hl
    | true =>
      obtain ⟨L', hL', hrep⟩ := hs.blk id z rows true pu hH
      rw [hι] at hL'; injection hL' with e; subst e
      obtain ⟨b, hb', _, _, _, hm⟩ := hrep.2.2.2 hc
      rw [hb] at hb'; injection hb' with e; subst e
      exact (hm rfl).1 h
  | loop tm N ps as bd st pe =>
    obtain ⟨L', hL', hrep⟩ := hs.loop id _ _ _ _ _ _ _ hH
    rw [hι] at hL'; injection hL' with e; subst e
    obtain ⟨_, b, r, hb', hnok, _⟩ := hrep
    rw [hb] at hb'; injection hb' with e; subst e
    exact hnok h

theorem Ext.ok_same (hs : HSat ι ok H nx w) (h : Ext ι ok H nx w ι' ok' H' w') {k : Nat} (hk : ok k) : w'.heap[k]? = w.heap[k]? :=
  h.same k (hs.ok_lt k hk) (hs.ok_notMut hk)

theorem Ext.repL (hs : HSat ι ok H nx w) (h : Ext ι ok H nx w ι' ok' H' w') {v : Value} {x : AL} (hr : RepL ok w ι v x) : RepL ok' w' ι' v x :=
  hr.mono h.okm (fun _ hk => h.ok_same hs hk) h.im
theorem Ext.repC (hs : HSat ι ok H nx w) (h : Ext ι ok H nx w ι' ok' H' w') {v : Value} {x : AC} (hr : RepC ok w ι v x) : RepC ok' w' ι' v x :=
  hr.mono h.okm (fun _ hk => h.ok_same hs hk) h.im
theorem Ext.repV (hs : HSat ι ok H nx w) (h : Ext ι ok H nx w ι' ok' H' w') {v : Value} {x : AV} (hr : RepV ok w ι v x) : RepV ok' w' ι' v x :=
  hr.mono h.okm (fun _ hk => h.ok_same hs hk) h.im

/-! worlds with the same heap -/
theorem RepL.heap {v : Value} {x : AL} (h : RepL ok w ι v x) (e : w'.heap = w.heap) : RepL ok w' ι v x := h.mono (fun _ h => h) (fun _ _ => by rw [e]) (fun _ _ h => h)
theorem RepV.heap {v : Value} {x : AV} (h : RepV ok w ι v x) (e : w'.heap = w.heap) : RepV ok w' ι v x := h.mono (fun _ h => h) (fun _ _ => by rw [e]) (fun _ _ h => h)

theorem HSat.heap (hs : HSat ι ok H nx w) (e : w'.heap = w.heap) : HSat ι ok H nx w' where
  ok_lt k h := by rw [e]; exact hs.ok_lt k h
  fresh := hs.fresh
  blk id z rows mt pu h := by
    obtain ⟨L, hι, h1, h2, h3, h4⟩ := hs.blk id z rows mt pu h
    refine ⟨L, hι, h1, h2, h3, fun hc => ?_⟩
    obtain ⟨b, hb, hlt, ⟨cv, hcv, hrep⟩, ho, hm⟩ := h4 hc
    refine ⟨b, hb, by rw [e]; exact hlt, ⟨cv, fun i j hi hj => ?_, fun i j r x hr hx => (hrep i j r x hr hx).heap e⟩, ho, fun hmt => ⟨(hm hmt).1, fun i j hi hj => ?_⟩⟩
    · exact (cell_of_block (w := w) (w' := w') (by rw [e]) _ _).trans (hcv i j hi hj)
    · have := (hm hmt).2 i j hi hj
      simpa only [World.cell?, World.frozen?, e] using this
  loop id tm N ps as bd st pe h := by
    obtain ⟨L, hι, h1, b, r, hb, hnok, hr, h2, h3, h4⟩ := hs.loop id _ _ _ _ _ _ _ h
    exact ⟨L, hι, h1, b, r, hb, hnok, by rw [e]; exact hr, h2, fun t => (h3 t).heap e, h4⟩
  inj := hs.inj

theorem Ext.heap_right (h : Ext ι ok H nx w ι' ok' H' w') (e : w''.heap = w'.heap) (e1 : w''.os = w'.os) (e2 : w''.tape = w'.tape) (e3 : w''.output = w'.output) : Ext ι ok H nx w ι' ok' H' w'' where
  os := e1.trans h.os
  tape := e2.trans h.tape
  output := e3.trans h.output
  size := by rw [e]; exact h.size
  same k hk hm := by rw [e]; exact h.same k hk hm
  okm := h.okm
  okr := h.okr
  im := h.im
  imr := h.imr
  mutr := h.mutr

theorem Ext.drew : Ext ι ok H nx w ι ok H w.drew := Ext.refl.heap_right rfl rfl rfl rfl

/-! ### a new block -/
def imset (ι : IM) (id : Nat) (L : Loc) : IM := fun j => if j = id then some L else ι j
theorem imset_same (ι : IM) (id : Nat) (L : Loc) : imset ι id L id = some L := by simp [imset]
theorem imset_ne (ι : IM) {id j : Nat} (L : Loc) (h : j ≠ id) : imset ι id L j = ι j := by simp [imset, h]

theorem cell_alloc_old (w : World) (o : Obj) {b : Nat} (h : b < w.heap.size) (off : Nat) : (w.alloc o).cell? ⟨b, off, none⟩ = w.cell? ⟨b, off, none⟩ :=
  cell_of_block (Below.heap_alloc w o b h) _ _
theorem frozen_alloc_old (w : World) (o : Obj) {b : Nat} (h : b < w.heap.size) (off : Nat) : (w.alloc o).frozen? ⟨b, off, none⟩ = w.frozen? ⟨b, off, none⟩ := by
  simp only [World.frozen?, Below.heap_alloc w o b h]
theorem alloc_new (w : World) (o : Obj) : (w.alloc o).heap[w.heap.size]? = some o := by
  show (w.heap.push o)[w.heap.size]? = _
  simp
theorem alloc_size (w : World) (o : Obj) : (w.alloc o).heap.size = w.heap.size + 1 := by
  show (w.heap.push o).size = _
  simp

/-- extending the injection at a free number -/
theorem im_ext {id : Nat} (hfree : ι id = none) (L : Loc) : ∀ j M, ι j = some M → imset ι id L j = some M := by
  intro j M h
  rw [imset_ne _ _ (by intro e; subst e; rw [hfree] at h; cases h)]; exact h

/-- What held in w holds in a world in which a block has been added (any kind), the injection extended at a free number. -/
theorem HSat.grow (hs : HSat ι ok H nx w) (o : Obj) {id : Nat} (hι : ι id = none) (hH : H id = .none) (L : Loc) (ho : HO)
    (hnx : id < nx') (hnx' : nx ≤ nx')
    (hblk : ∀ z rows mt pu, ho = .blk z rows mt pu → BlkRep ok (w.alloc o) (imset ι id L) L z rows mt pu)
    (hloop : ∀ tm N ps assign body st pend, ho = .loop tm N ps assign body st pend → LoopRep ok (w.alloc o) (imset ι id L) L tm N ps assign body st pend)
    (hb : ∀ k, ho.live = true → L.cap ≠ 0 → L.b = some k → k = w.heap.size) :
    HSat (imset ι id L) ok (hset H id ho) nx' (w.alloc o) where
  ok_lt k h := by rw [alloc_size]; have := hs.ok_lt k h; omega
  fresh j hj := by
    have hne : j ≠ id := by omega
    rw [imset_ne _ _ hne, hset_ne _ _ hne]
    exact hs.fresh j (by omega)
  blk j z rows mt pu h := by
    by_cases e : j = id
    · subst e
      rw [hset_same] at h
      exact ⟨L, imset_same _ _ _, hblk _ _ _ _ h⟩
    · rw [hset_ne _ _ e] at h
      obtain ⟨M, hM, h1, h2, h3, h4⟩ := hs.blk j z rows mt pu h
      refine ⟨M, by rw [imset_ne _ _ e]; exact hM, h1, h2, h3, fun hc => ?_⟩
      obtain ⟨b, hb, hlt, ⟨cv, hcv, hrep⟩, ho, hm⟩ := h4 hc
      refine ⟨b, hb, by rw [alloc_size]; omega, ⟨cv, fun i j hi hj => ?_, fun i j r x hr hx => ?_⟩, ho, fun hmt => ⟨(hm hmt).1, fun i j hi hj => ?_⟩⟩
      · rw [cell_alloc_old _ _ hlt]; exact hcv i j hi hj
      · exact (hrep i j r x hr hx).pim_mono (fun _ h => h) (fun k hk => Below.heap_alloc w o k (hs.ok_lt k hk)) (im_ext hι L)
      · rw [cell_alloc_old _ _ hlt, frozen_alloc_old _ _ hlt]; exact (hm hmt).2 i j hi hj
  loop j tm N ps as bd st pe h := by
    by_cases e : j = id
    · subst e
      rw [hset_same] at h
      exact ⟨L, imset_same _ _ _, hloop _ _ _ _ _ _ _ h⟩
    · rw [hset_ne _ _ e] at h
      obtain ⟨M, hM, h1, b, r, hb, hnok, hr, h2, h3, h4⟩ := hs.loop j _ _ _ _ _ _ _ h
      refine ⟨M, by rw [imset_ne _ _ e]; exact hM, h1, b, r, hb, hnok, ?_, h2, fun t => ?_, h4⟩
      · rw [Below.heap_alloc _ _ _ (Array.getElem?_eq_some_iff.1 hr).1]; exact hr
      · exact (h3 t).mono (fun _ h => h) (fun k hk => Below.heap_alloc w o k (hs.ok_lt k hk)) (im_ext hι L)
  inj i j M M' k hM hM' hl hl' hc hc' hk hk' := by
    have hsize : ∀ j M, j ≠ id → ι j = some M → (H j).live = true → M.cap ≠ 0 → M.b = some k → k < w.heap.size := by
      intro j M hj hM hl hc hk
      cases hHj : H j with
      | none => rw [hHj] at hl; simp [HO.live] at hl
      | blk z rows mt pu =>
        obtain ⟨M2, hM2, _, _, _, h4⟩ := hs.blk j z rows mt pu hHj
        rw [hM] at hM2; injection hM2 with e; subst e
        obtain ⟨b, hb, hlt, _⟩ := h4 hc
        rw [hk] at hb; injection hb with e; omega
      | loop tm N ps as bd st pe =>
        obtain ⟨M2, hM2, _, b, r, hb, _, hr, _⟩ := hs.loop j _ _ _ _ _ _ _ hHj
        rw [hM] at hM2; injection hM2 with e; subst e
        rw [hk] at hb; injection hb with e; subst e
        exact (Array.getElem?_eq_some_iff.1 hr).1
    by_cases e : i = id
    · subst e
      by_cases e' : j = i
      · exact e'.symm
      · rw [imset_same] at hM; injection hM with hM; subst hM
        rw [hset_same] at hl
        have := hb k hl hc hk
        rw [imset_ne _ _ e'] at hM'; rw [hset_ne _ _ e'] at hl'
        have := hsize j M' e' hM' hl' hc' hk'
        omega
    · rw [imset_ne _ _ e] at hM; rw [hset_ne _ _ e] at hl
      have := hsize i M e hM hl hc hk
      by_cases e' : j = id
      · subst e'
        rw [imset_same] at hM'; injection hM' with hM'; subst hM'
        rw [hset_same] at hl'
        have := hb k hl' hc' hk'
        omega
      · rw [imset_ne _ _ e'] at hM'; rw [hset_ne _ _ e'] at hl'
        exact hs.inj i j M M' k hM hM' hl hl' hc hc' hk hk'

theorem Ext.grow (o : Obj) {id : Nat} (hι : ι id = none) (hn : nx ≤ id) (L : Loc) (ho : HO)
    (hb : ∀ k, ho.live = true → L.cap ≠ 0 → L.b = some k → k = w.heap.size) :
    Ext ι ok H nx w (imset ι id L) ok (hset H id ho) (w.alloc o) where
  os := rfl
  tape := rfl
  output := rfl
  size := by rw [alloc_size]; omega
  same k hk _ := Below.heap_alloc w o k hk
  okm _ h := h
  okr _ h := .inl h
  im := im_ext hι L
  imr j hj := imset_ne _ _ (by omega)
  mutr k := by
    rintro ⟨j, M, hM, hl, hc, hk⟩
    by_cases e : j = id
    · subst e
      rw [imset_same] at hM; injection hM with e; subst e
      rw [hset_same] at hl
      exact .inr (Nat.le_of_eq (hb k hl hc hk).symm)
    · rw [imset_ne _ _ e] at hM; rw [hset_ne _ _ e] at hl
      exact .inl ⟨j, M, hM, hl, hc, hk⟩
end
end Go.Abs

namespace Go.Abs
set_option linter.unusedVariables false
open Go.RowKit

section
variable {ι ι' : IM} {ok ok' : Nat → Prop} {H H' : HP} {nx nx' : Nat} {w w' : World}

theorem HO.live_blk {H : HP} {id z : Nat} {rows : List (List AL)} {pu : Bool} (h : H id = .blk z rows true pu) : (H id).live = true := by rw [h]; rfl

/-- One live object's block has been rewritten (its number may have turned). -/
theorem HSat.modify (hs : HSat ι ok H nx w) {id id' : Nat} {L L' : Loc} {b : Nat} {ho : HO}
    (hL : ι id = some L) (hlive : (H id).live = true) (hcap : L.cap ≠ 0) (hb : L.b = some b)
    (hL' : ι' id' = some L') (hb' : L'.cap ≠ 0 → L'.b = some b)
    (hι : ∀ j, j ≠ id' → ι' j = ι j) (hιm : ∀ j M, ι j = some M → ι' j = some M)
    (hH : ∀ j, j ≠ id' → j ≠ id → H' j = H j) (hH' : H' id' = ho) (hdel : id ≠ id' → H' id = .none)
    (hnew : id ≠ id' → H id' = .none)
    (hnx : id' < nx') (hnx' : nx ≤ nx')
    (hsize : w.heap.size ≤ w'.heap.size) (hsame : ∀ k, k < w.heap.size → k ≠ b → w'.heap[k]? = w.heap[k]?)
    (hblk : ∀ z rows mt pu, ho = .blk z rows mt pu → BlkRep ok w' ι' L' z rows mt pu)
    (hloop : ∀ tm N ps assign body st pend, ho = .loop tm N ps assign body st pend → LoopRep ok w' ι' L' tm N ps assign body st pend) :
    HSat ι' ok H' nx' w' := by
  have hmut : MutB ι H b := ⟨id, L, hL, hlive, hcap, hb⟩
  have hnok : ¬ ok b := fun h => hs.ok_notMut h hmut
  have hokb : ∀ k, ok k → w'.heap[k]? = w.heap[k]? := fun k hk => hsame k (hs.ok_lt k hk) (fun e => hnok (e ▸ hk))
  -- another live object's block is another one
  have other : ∀ j M k, j ≠ id → ι j = some M → (H j).live = true → M.cap ≠ 0 → M.b = some k → k ≠ b := by
    intro j M k hj hM hl hc hk e
    subst e
    exact hj (hs.inj j id M L k hM hL hl hlive hc hcap hk hb)
  have hHj : ∀ j, j ≠ id' → H' j ≠ .none → j ≠ id ∧ H' j = H j := by
    intro j hj hne
    by_cases e : j = id
    · exact absurd (by rw [e]; exact hdel (fun e' => hj (e ▸ e'))) hne
    · exact ⟨e, hH j hj e⟩
  constructor
  · intro k hk; exact Nat.lt_of_lt_of_le (hs.ok_lt k hk) hsize
  · intro j hj
    have hne : j ≠ id' := by omega
    refine ⟨by rw [hι j hne]; exact (hs.fresh j (by omega)).1, ?_⟩
    have hjid : j ≠ id := by
      intro e; subst e; have := (hs.fresh j (by omega)).1; rw [hL] at this; cases this
    rw [hH j hne hjid]; exact (hs.fresh j (by omega)).2
  · intro j z rows mt pu h
    by_cases e : j = id'
    · subst e; exact ⟨L', hL', hblk _ _ _ _ (by rw [← hH', h])⟩
    · obtain ⟨hj, hHe⟩ := hHj j e (by rw [h]; simp)
      rw [hHe] at h
      obtain ⟨M, hM, h1, h2, h3, h4⟩ := hs.blk j z rows mt pu h
      refine ⟨M, hιm _ _ hM, h1, h2, h3, fun hc => ?_⟩
      obtain ⟨k, hk, hlt, ⟨cv, hcv, hrep⟩, ho, hm⟩ := h4 hc
      have hkb : k ≠ b := by
        cases mt with
        | false => intro e; subst e; exact hnok (ho rfl)
        | true => exact other j M k hj hM (HO.live_blk h) hc hk
      have hkk := hsame k hlt hkb
      refine ⟨k, hk, by omega, ⟨cv, fun i j hi hj => ?_, fun i j r x hr hx => ?_⟩, ho, fun hmt => ⟨(hm hmt).1, fun i j hi hj => ?_⟩⟩
      · rw [cell_of_block hkk]; exact hcv i j hi hj
      · exact (hrep i j r x hr hx).pim_mono (fun _ h => h) hokb hιm
      · have := (hm hmt).2 i j hi hj
        simpa only [World.cell?, World.frozen?, hkk] using this
  · intro j tm N ps as bd st pe h
    by_cases e : j = id'
    · subst e; exact ⟨L', hL', hloop _ _ _ _ _ _ _ (by rw [← hH', h])⟩
    · obtain ⟨hj, hHe⟩ := hHj j e (by rw [h]; simp)
      rw [hHe] at h
      obtain ⟨M, hM, h1, k, r, hk, hnk, hr, h2, h3, h4⟩ := hs.loop j _ _ _ _ _ _ _ h
      have hkb : k ≠ b := other j M k hj hM (by rw [h]; rfl) h1 hk
      exact ⟨M, hιm _ _ hM, h1, k, r, hk, hnk, by rw [hsame k (Array.getElem?_eq_some_iff.1 hr).1 hkb]; exact hr, h2, fun t => (h3 t).mono (fun _ h => h) hokb hιm, h4⟩
  · intro i j M M' k hM hM' hl hl' hc hc' hk hk'
    by_cases e : i = id'
    · subst e
      by_cases e' : j = i
      · exact e'.symm
      · rw [hL'] at hM; injection hM with hM; subst hM
        have hkb := hb' hc; rw [hk] at hkb; injection hkb with hkb; subst hkb
        obtain ⟨hj, hHe⟩ := hHj j e' (by intro h0; rw [h0] at hl'; simp [HO.live] at hl')
        rw [hHe] at hl'; rw [hι j e'] at hM'
        exact absurd rfl (other j M' k hj hM' hl' hc' hk')
    · obtain ⟨hi, hHi⟩ := hHj i e (by intro h0; rw [h0] at hl; simp [HO.live] at hl)
      rw [hHi] at hl; rw [hι i e] at hM
      by_cases e' : j = id'
      · subst e'
        rw [hL'] at hM'; injection hM' with hM'; subst hM'
        have hkb := hb' hc'; rw [hk'] at hkb; injection hkb with hkb; subst hkb
        exact absurd rfl (other i M k hi hM hl hc hk)
      · obtain ⟨hj, hHe⟩ := hHj j e' (by intro h0; rw [h0] at hl'; simp [HO.live] at hl')
        rw [hHe] at hl'; rw [hι j e'] at hM'
        exact hs.inj i j M M' k hM hM' hl hl' hc hc' hk hk'

theorem Ext.modify {id id' : Nat} {L L' : Loc} {b : Nat}
    (hL : ι id = some L) (hlive : (H id).live = true) (hcap : L.cap ≠ 0) (hb : L.b = some b)
    (hL' : ι' id' = some L') (hb' : L'.cap ≠ 0 → L'.b = some b)
    (hι : ∀ j, j ≠ id' → ι' j = ι j) (hιm : ∀ j M, ι j = some M → ι' j = some M) (hid : id' = id ∨ nx ≤ id')
    (hH : ∀ j, j ≠ id' → j ≠ id → H' j = H j) (hdel : id ≠ id' → H' id = .none)
    (hos : w'.os = w.os) (htape : w'.tape = w.tape) (hout : w'.output = w.output)
    (hsize : w.heap.size ≤ w'.heap.size) (hsame : ∀ k, k < w.heap.size → k ≠ b → w'.heap[k]? = w.heap[k]?) :
    Ext ι ok H nx w ι' ok H' w' where
  os := hos
  tape := htape
  output := hout
  size := hsize
  same k hk hm := hsame k hk (fun e => hm ⟨id, L, hL, hlive, hcap, e ▸ hb⟩)
  okm _ h := h
  okr _ h := .inl h
  im := hιm
  imr j hj := by
    by_cases e : j = id'
    · subst e
      rcases hid with e | h
      · subst e; rw [hL, hιm _ _ hL]
      · omega
    · exact hι j e
  mutr k := by
    rintro ⟨j, M, hM, hl, hc, hk⟩
    by_cases e : j = id'
    · subst e
      rw [hL'] at hM; injection hM with hM; subst hM
      have := hb' hc; rw [hk] at this; injection this with e; subst e
      exact .inl ⟨id, L, hL, hlive, hcap, hb⟩
    · by_cases e' : j = id
      · subst e'
        rw [hdel e] at hl; simp [HO.live] at hl
      · rw [hH j e e'] at hl; rw [hι j e] at hM
        exact .inl ⟨j, M, hM, hl, hc, hk⟩

/-! ### reading -/
def rowA (r : List AL) (off n : Nat) : Option (List AL) := if off + n ≤ r.length then some ((r.drop off).take n) else none
def ldA (H : HP) (x : AL) (n : Nat) : Option (List AL) :=
  match x with
  | .fp rows row off => rows[row]?.bind fun r => rowA r off n
  | .pt id row off => match H id with
    | .blk _ rows _ _ => rows[row]?.bind fun r => rowA r off n
    | _ => none
  | _ => none

theorem rowA_some {r : List AL} {off n : Nat} {xs : List AL} (h : rowA r off n = some xs) : off + n ≤ r.length ∧ xs = (r.drop off).take n := by
  unfold rowA at h; split at h
  · rename_i hle; injection h with h; exact ⟨hle, h.symm⟩
  · cases h

theorem ldA_rows {b o z off n row : Nat} {rows : List (List AL)} {cv : Nat → Nat → Value} {xs : List AL}
    (hz : ∀ r ∈ rows, r.length = z) (hcell : ∀ i j, i < rows.length → j < z → w.cell? ⟨b, o + i * z + j, none⟩ = some (cv i j))
    (hrep : ∀ i j r x, rows[i]? = some r → r[j]? = some x → RepL ok w ι (cv i j) x)
    (h : (rows[row]?.bind fun r => rowA r off n) = some xs) :
    ∃ cs : List Value, cs.length = n ∧ xs.length = n ∧ (∀ (j : Nat) (u : Value), cs[j]? = some u → w.cell? ⟨b, o + row * z + off + j, none⟩ = some u) ∧
      ∀ (j : Nat) (u : Value) (y : AL), cs[j]? = some u → xs[j]? = some y → RepL ok w ι u y := by
  cases hr : rows[row]? with
  | none => rw [hr] at h; cases h
  | some r =>
    rw [hr] at h
    obtain ⟨hle, rfl⟩ := rowA_some h
    have hlt : row < rows.length := (List.getElem?_eq_some_iff.1 hr).1
    have hrz : r.length = z := hz r (List.mem_of_getElem? hr)
    refine ⟨(List.range n).map fun j => cv row (off + j), by simp, by simp; omega, ?_, ?_⟩
    · intro j u hj
      have hjn : j < n := by have := (List.getElem?_eq_some_iff.1 hj).1; simpa using this
      simp [List.getElem?_map, List.getElem?_range hjn] at hj
      subst hj
      rw [Nat.add_assoc]; exact hcell row (off + j) hlt (by omega)
    · intro j u y hj hy
      have hjn : j < n := by have := (List.getElem?_eq_some_iff.1 hj).1; simpa using this
      simp [List.getElem?_map, List.getElem?_range hjn] at hj
      subst hj
      rw [List.getElem?_take_of_lt hjn, List.getElem?_drop] at hy
      exact hrep row (off + j) r y hr hy

theorem ldA_sound (hs : HSat ι ok H nx w) {v : Value} {x : AL} {n : Nat} {xs : List AL} (hv : RepL ok w ι v x) (h : ldA H x n = some xs) (hn : n ≠ 0) :
    ∃ b o, v = .pointer (some ⟨b, o, none⟩) ∧ ∃ cs : List Value, cs.length = n ∧ xs.length = n ∧ (∀ (j : Nat) (u : Value), cs[j]? = some u → w.cell? ⟨b, o + j, none⟩ = some u) ∧
      ∀ (j : Nat) (u : Value) (y : AL), cs[j]? = some u → xs[j]? = some y → RepL ok w ι u y := by
  cases hv with
  | fp _ rows row off b o z cv hb hz hcell hrep =>
    exact ⟨b, _, rfl, ldA_rows hz hcell (fun i j r x hr hx => (hrep i j r x hr hx).ofNil) h⟩
  | pt _ id row off L b hι hb =>
    simp only [ldA] at h
    cases hH : H id with
    | none => rw [hH] at h; cases h
    | loop => rw [hH] at h; cases h
    | blk z rows mt pu =>
      rw [hH] at h
      obtain ⟨M, hM, h1, h2, h3, h4⟩ := hs.blk id z rows mt pu hH
      rw [hι] at hM; injection hM with e; subst e
      have hcap : L.cap ≠ 0 := by
        intro h0
        have : rows = [] := List.eq_nil_of_length_eq_zero (by omega)
        subst this; simp at h
      obtain ⟨b', hb', hlt, ⟨cv, hcv, hrep⟩, ho, hm⟩ := h4 hcap
      rw [hb] at hb'; injection hb' with e; subst e
      refine ⟨b, _, rfl, ?_⟩
      rw [h1]
      refine ldA_rows h2 hcv (fun i j r x hr hx => ?_) h
      exact (hrep i j r x hr hx).pim_out
  | _ => simp [ldA] at h

/-! ### writing -/
def spl (r : List AL) (off : Nat) (xs : List AL) : List AL := r.take off ++ xs ++ r.drop (off + xs.length)

theorem spl_length {r : List AL} {off : Nat} {xs : List AL} (h : off + xs.length ≤ r.length) : (spl r off xs).length = r.length := by
  simp [spl]; omega
theorem spl_get {r : List AL} {off : Nat} {xs : List AL} (h : off + xs.length ≤ r.length) (j : Nat) :
    (spl r off xs)[j]? = if off ≤ j ∧ j < off + xs.length then xs[j - off]? else r[j]? := by
  have hl : (r.take off).length = off := by simp; omega
  unfold spl
  by_cases h1 : j < off
  · rw [if_neg (by omega), List.append_assoc, List.getElem?_append_left (by rw [hl]; exact h1), List.getElem?_take_of_lt h1]
  · by_cases h2 : j < off + xs.length
    · rw [if_pos ⟨by omega, h2⟩, List.append_assoc, List.getElem?_append_right (by rw [hl]; omega), hl, List.getElem?_append_left (by omega)]
    · rw [if_neg (by omega), List.getElem?_append_right (by simp; omega), List.getElem?_drop]
      congr 1; simp; omega

theorem setCells_other (b : Nat) : ∀ (vs : List Value) (o : Nat) (w : World) (k : Nat), k ≠ b → (w.setCells b o vs).heap[k]? = w.heap[k]?
  | [], _, _, _, _ => rfl
  | v :: r, o, w, k, h => by
    rw [World.setCells, setCells_other b r (o + 1) _ k h]
    exact Below.heap_setCell w ⟨b, o, none⟩ v k h
theorem setCells_size (b : Nat) : ∀ (vs : List Value) (o : Nat) (w : World), (w.setCells b o vs).heap.size = w.heap.size
  | [], _, _ => rfl
  | v :: r, o, w => by rw [World.setCells, setCells_size b r]; simp
theorem setCells_rest (b : Nat) : ∀ (vs : List Value) (o : Nat) (w : World), (w.setCells b o vs).os = w.os ∧ (w.setCells b o vs).tape = w.tape ∧ (w.setCells b o vs).output = w.output
  | [], _, _ => ⟨rfl, rfl, rfl⟩
  | v :: r, o, w => by rw [World.setCells]; exact setCells_rest b r (o + 1) _

theorem setCells_isSome (b : Nat) (vs : List Value) (o : Nat) (w : World) (x : Addr) (h : (w.cell? x).isSome = true) (hin : ∀ j, j < vs.length → (w.cell? ⟨b, o + j, none⟩).isSome = true) : ((w.setCells b o vs).cell? x).isSome = true := by
  by_cases hx : x.block = b ∧ x.spot = none ∧ o ≤ x.off ∧ x.off < o + vs.length
  · obtain ⟨h1, h2, h3, h4⟩ := hx
    have he : x = ⟨b, o + (x.off - o), none⟩ := by
      obtain ⟨xb, xo, xs⟩ := x
      simp only at h1 h2 h3 h4
      subst h1 h2; simp; omega
    rw [he, World.cell?_setCells_in b vs o w hin (x.off - o) (by omega)]; rfl
  · rw [World.cell?_setCells_out b vs o w x (fun h1 h2 => by
      have : ¬ (o ≤ x.off ∧ x.off < o + vs.length) := fun hh => hx ⟨h1, h2, hh⟩
      omega)]; exact h

theorem st_sound (hs : HSat ι ok H nx w) {v : Value} {id row off z : Nat} {rows : List (List AL)} {pu : Bool} {r : List AL} {xs : List AL} {vs : List Value}
    (hv : RepL ok w ι v (.pt id row off)) (hH : H id = .blk z rows true pu) (hr : rows[row]? = some r) (hle : off + xs.length ≤ r.length) (hn : xs.length ≠ 0)
    (hl : vs.length = xs.length) (hrep : ∀ (j : Nat) (u : Value) (y : AL), vs[j]? = some u → xs[j]? = some y → RepL ok w ι u y) :
    ∃ b o, v = .pointer (some ⟨b, o, none⟩) ∧ (∀ j, j < vs.length → (w.cell? ⟨b, o + j, none⟩).isSome = true) ∧ (∀ j, j < vs.length → w.frozen? ⟨b, o + j, none⟩ = false) ∧
      (∀ u ∈ vs, u.oneCell' = true) ∧
      HSat ι ok (hset H id (.blk z (rows.set row (spl r off xs)) true (pu && xs.all AL.pure))) nx (w.setCells b o vs) ∧
      Ext ι ok H nx w ι ok (hset H id (.blk z (rows.set row (spl r off xs)) true (pu && xs.all AL.pure))) (w.setCells b o vs) := by
  cases hv with
  | pt =>
    rename_i L b hb hι
    obtain ⟨M, hM, h1, h2, h3, h4⟩ := hs.blk id z rows true pu hH
    rw [hι] at hM; injection hM with e; subst e
    have hlt : row < rows.length := (List.getElem?_eq_some_iff.1 hr).1
    have hcap : L.cap ≠ 0 := by omega
    obtain ⟨b', hb', hlt', ⟨cv, hcv, hrp⟩, ho, hm⟩ := h4 hcap
    rw [hb] at hb'; injection hb' with e; subst e
    have hrz : r.length = z := h2 r (List.mem_of_getElem? hr)
    have hm := hm rfl
    have hc : ∀ j, j < vs.length → (w.cell? ⟨b, L.o + row * L.z + off + j, none⟩).isSome = true ∧ w.frozen? ⟨b, L.o + row * L.z + off + j, none⟩ = false := fun j hj => by
      rw [h1, Nat.add_assoc (L.o + row * z)]; exact hm.2 row (off + j) (by omega) (by omega)
    have hone : ∀ u ∈ vs, u.oneCell' = true := fun u hu => by
      obtain ⟨j, hj⟩ := List.getElem?_of_mem hu
      have hjl := (List.getElem?_eq_some_iff.1 hj).1
      exact (hrep j u _ hj (List.getElem?_eq_getElem (by omega))).one
    have hsame : ∀ k, k < w.heap.size → k ≠ b → (w.setCells b (L.o + row * L.z + off) vs).heap[k]? = w.heap[k]? := fun k _ hk => setCells_other b vs _ w k hk
    have hnok : ¬ ok b := hm.1
    have hokb : ∀ k, ok k → (w.setCells b (L.o + row * L.z + off) vs).heap[k]? = w.heap[k]? := fun k hk => setCells_other b vs _ w k (fun e => hnok (e ▸ hk))
    have hlive : (H id).live = true := HO.live_blk hH
    refine ⟨b, _, rfl, fun j hj => (hc j hj).1, fun j hj => (hc j hj).2, hone, ?_, ?_⟩
    · refine hs.modify (id := id) (id' := id) (L := L) (L' := L) (b := b) hι hlive hcap hb hι (fun _ => hb) (fun _ _ => rfl) (fun _ _ h => h)
        (fun j hj _ => hset_ne _ _ hj) (hset_same _ _ _) (fun h => absurd rfl h) (fun h => absurd rfl h) ?_ (Nat.le_refl _) (by rw [setCells_size]; exact Nat.le_refl _) hsame ?_ (by intros; rename_i h; cases h)
      · rcases Nat.lt_or_ge id nx with h | h
        · exact h
        · have := (hs.fresh id h).1; rw [hι] at this; cases this
      · intro z' rows' mt' pu' he
        injection he with e1 e2 e3 e4
        subst e1 e2 e3 e4
        refine ⟨h1, ?_, by simpa using h3, fun _ => ⟨b, hb, by rw [setCells_size]; exact hlt', ?_, by simp, fun _ => ⟨hnok, fun i j hi hj => ?_⟩⟩⟩
        · intro r' hr'
          rcases List.mem_or_eq_of_mem_set hr' with h | h
          · exact h2 r' h
          · rw [h, spl_length hle]; exact hrz
        · refine ⟨fun i j => if i = row ∧ off ≤ j ∧ j < off + vs.length then vs.getD (j - off) undef else cv i j, fun i j hi hj => ?_, fun i j r' x hr' hx => ?_⟩
          · simp only [List.length_set] at hi
            by_cases hin : i = row ∧ off ≤ j ∧ j < off + vs.length
            · obtain ⟨rfl, h5, h6⟩ := hin
              show _ = some (if i = i ∧ off ≤ j ∧ j < off + vs.length then vs.getD (j - off) undef else cv i j)
              rw [if_pos ⟨rfl, h5, h6⟩]
              have := World.cell?_setCells_in b vs (L.o + i * L.z + off) w (fun j hj => (hc j hj).1) (j - off) (by omega)
              rw [h1] at this ⊢
              rw [show L.o + i * z + j = L.o + i * z + off + (j - off) by omega, this]
              simp [List.getD, List.getElem?_eq_getElem (show j - off < vs.length by omega)]
            · show _ = some (if i = row ∧ off ≤ j ∧ j < off + vs.length then vs.getD (j - off) undef else cv i j)
              rw [if_neg hin, World.cell?_setCells_out]
              · exact hcv i j hi hj
              · intro _ _
                simp only
                rw [h1]
                by_cases hir : i = row
                · subst hir; omega
                · rcases Nat.lt_or_gt_of_ne hir with h | h
                  · left
                    have : (i + 1) * z ≤ row * z := Nat.mul_le_mul_right _ h
                    rw [Nat.add_mul] at this; omega
                  · right
                    have : (row + 1) * z ≤ i * z := Nat.mul_le_mul_right _ h
                    rw [Nat.add_mul] at this; omega
          · by_cases hir : i = row
            · subst hir
              rw [List.getElem?_set_self hlt] at hr'
              injection hr' with hr'; subst hr'
              rw [spl_get hle] at hx
              by_cases hin : off ≤ j ∧ j < off + xs.length
              · rw [if_pos hin] at hx
                show RepL _ _ _ (if i = i ∧ off ≤ j ∧ j < off + vs.length then vs.getD (j - off) undef else cv i j) x
                rw [if_pos ⟨rfl, hin.1, by omega⟩]
                have hjv : vs[j - off]? = some (vs.getD (j - off) undef) := by
                  simp [List.getD, List.getElem?_eq_getElem (show j - off < vs.length by omega)]
                have := (hrep (j - off) _ x hjv hx).mono (ok' := ok) (w' := w.setCells b (L.o + i * L.z + off) vs) (fun _ h => h) hokb (ι' := ι) (fun _ _ h => h)
                refine this.pim_in fun hpp => ?_
                simp only [Bool.and_eq_true, List.all_eq_true] at hpp
                exact hpp.2 x (List.mem_of_getElem? hx)
              · rw [if_neg hin] at hx
                show RepL _ _ _ (if i = i ∧ off ≤ j ∧ j < off + vs.length then vs.getD (j - off) undef else cv i j) x
                rw [if_neg (by omega)]
                exact ((hrp i j r x hr hx).pim_mono (fun _ h => h) hokb (fun _ _ h => h)).pim_and
            · rw [List.getElem?_set_ne (Ne.symm hir)] at hr'
              show RepL _ _ _ (if i = row ∧ off ≤ j ∧ j < off + vs.length then vs.getD (j - off) undef else cv i j) x
              rw [if_neg (fun h => hir h.1)]
              exact ((hrp i j r' x hr' hx).pim_mono (fun _ h => h) hokb (fun _ _ h => h)).pim_and
        · have := hm.2 i j hi hj
          exact ⟨setCells_isSome b vs _ w _ this.1 (fun j hj => (hc j hj).1), by rw [World.frozen?_setCells]; exact this.2⟩
    · exact Ext.modify (id := id) (id' := id) (L := L) (L' := L) (b := b) hι hlive hcap hb hι (fun _ => hb) (fun _ _ => rfl) (fun _ _ h => h) (.inl rfl)
        (fun j hj _ => hset_ne _ _ hj) (fun h => absurd rfl h) (setCells_rest b vs _ w).1 (setCells_rest b vs _ w).2.1 (setCells_rest b vs _ w).2.2 (by rw [setCells_size]; exact Nat.le_refl _) hsame
end
end Go.Abs

namespace Go.Abs
set_option linter.unusedVariables false
open Go.RowKit

section
variable {ι ι' : IM} {ok ok' : Nat → Prop} {H H' : HP} {nx nx' : Nat} {w w' : World} {P : Program}

/-! ### a new row -/
theorem new_sound (hs : HSat ι ok H nx w) {id z cap : Nat} (hι : ι id = none) (hH : H id = .none) (hnx : id < nx') (hnx' : nx ≤ nx') (C : Array Value) (t : TypeId) (rows : List (List AL)) (pu : Bool)
    (hz : ∀ r ∈ rows, r.length = z) (hcap : rows.length ≤ cap) (hC : C.size = cap * z)
    (hrep : ∀ (i j : Nat) (r : List AL) (x : AL), rows[i]? = some r → r[j]? = some x → ∃ u, C[i * z + j]? = some u ∧ RepL ok w (pim pu ι) u x) :
    HSat (imset ι id ⟨some w.heap.size, 0, z, cap⟩) ok (hset H id (.blk z rows true pu)) nx' (w.alloc (.cells C t)) := by
  have hsz : ∀ i j, i < cap → j < z → i * z + j < C.size := fun i j hi hj => by
    rw [hC]
    have : (i + 1) * z ≤ cap * z := Nat.mul_le_mul_right _ hi
    rw [Nat.add_mul] at this; omega
  refine hs.grow (.cells C t) hι hH _ (.blk z rows true pu) hnx hnx' ?_ (by intros; rename_i h; cases h) (fun k _ _ h => by simpa using h.symm)
  intro z' rows' mt' pu' he
  injection he with e1 e2 e3 e4
  subst e1 e2 e3 e4
  refine ⟨rfl, hz, hcap, fun _ => ⟨w.heap.size, rfl, by rw [alloc_size]; omega, ?_, (fun h => by cases h), fun _ => ⟨fun h => absurd (hs.ok_lt _ h) (Nat.lt_irrefl _), fun i j hi hj => ?_⟩⟩⟩
  · refine ⟨fun i j => C.getD (i * z + j) undef, fun i j hi hj => ?_, fun i j r x hr hx => ?_⟩
    · have hlt := hsz i j (by omega) hj
      simp only [Nat.zero_add]
      rw [World.cell?_alloc_new]
      simp [Array.getD, hlt]
    · obtain ⟨u, hu, hrepu⟩ := hrep i j r x hr hx
      have : C.getD (i * z + j) undef = u := by
        rw [Array.getD_eq_getD_getElem?, hu]; rfl
      simp only [this]
      exact hrepu.pim_mono (fun _ h => h) (fun k hk => Below.heap_alloc w _ k (hs.ok_lt k hk)) (im_ext hι _)
  · have hlt := hsz i j (by omega) hj
    simp only [Nat.zero_add]
    refine ⟨?_, World.frozen?_alloc_new _ _ _ _⟩
    rw [World.cell?_alloc_new]; simp [hlt]

theorem new_ext {id z cap : Nat} (hι : ι id = none) (hn : nx ≤ id) (C : Array Value) (t : TypeId) (rows : List (List AL)) (pu : Bool) :
    Ext ι ok H nx w (imset ι id ⟨some w.heap.size, 0, z, cap⟩) ok (hset H id (.blk z rows true pu)) (w.alloc (.cells C t)) :=
  Ext.grow (.cells C t) hι hn _ _ (fun k _ _ h => by simpa using h.symm)

theorem HSat.bump (hs : HSat ι ok H nx w) (h : nx ≤ nx') : HSat ι ok H nx' w :=
  ⟨hs.ok_lt, fun id hid => hs.fresh id (by omega), hs.blk, hs.loop, hs.inj⟩

/-- forgetting objects -/
theorem HSat.drop (hs : HSat ι ok H nx w) (h : ∀ id, H' id = H id ∨ H' id = .none) : HSat ι ok H' nx w where
  ok_lt := hs.ok_lt
  fresh id hid := ⟨(hs.fresh id hid).1, by rcases h id with h | h; rw [h]; exact (hs.fresh id hid).2; exact h⟩
  blk id z rows mt pu he := hs.blk id z rows mt pu (by rcases h id with h | h; rw [← h]; exact he; rw [h] at he; cases he)
  loop id tm N ps as bd st pe he := hs.loop id _ _ _ _ _ _ _ (by rcases h id with h | h; rw [← h]; exact he; rw [h] at he; cases he)
  inj id id' L L' k h1 h2 h3 h4 := by
    have g : ∀ id, (H' id).live = true → (H id).live = true := fun id hl => by
      rcases h id with h | h
      · rwa [h] at hl
      · rw [h] at hl; simp [HO.live] at hl
    exact hs.inj id id' L L' k h1 h2 (g _ h3) (g _ h4)

theorem Ext.drop (h : ∀ id, H' id = H id ∨ H' id = .none) : Ext ι ok H nx w ι ok H' w :=
  { (Ext.refl : Ext ι ok H nx w ι ok H w) with
    mutr := by
      rintro k ⟨id, L, hL, hl, hc, hb⟩
      refine .inl ⟨id, L, hL, ?_, hc, hb⟩
      rcases h id with h | h
      · rwa [h] at hl
      · rw [h] at hl; simp [HO.live] at hl }

/-! ### freezing -/
/-- an object that is not written any more -/
theorem freeze_sound (hs : HSat ι ok H nx w) {id z : Nat} {rows : List (List AL)} (hH : H id = .blk z rows true true) :
    ∃ ok', HSat ι ok' (hset H id (.blk z rows false true)) nx w ∧ Ext ι ok H nx w ι ok' (hset H id (.blk z rows false true)) w := by
  obtain ⟨L, hι, h1, h2, h3, h4⟩ := hs.blk id z rows true true hH
  by_cases hcap : L.cap = 0
  · -- nothing lies there
    refine ⟨ok, ⟨hs.ok_lt, fun j hj => ?_, fun j z' rows' mt pu he => ?_, fun j tm N ps as bd st pe he => ?_, fun i j L1 L2 k hi hj hli hlj => ?_⟩, ?_⟩
    · have : j ≠ id := fun e => by subst e; have := (hs.fresh j hj).1; rw [hι] at this; cases this
      rw [hset_ne _ _ this]; exact hs.fresh j hj
    · by_cases e : j = id
      · subst e; rw [hset_same] at he; injection he with e1 e2 e3 e4; subst e1 e2 e3 e4
        exact ⟨L, hι, h1, h2, h3, fun h => absurd hcap h⟩
      · rw [hset_ne _ _ e] at he; exact hs.blk j z' rows' mt pu he
    · by_cases e : j = id
      · subst e; rw [hset_same] at he; cases he
      · rw [hset_ne _ _ e] at he; exact hs.loop j _ _ _ _ _ _ _ he
    · have g : ∀ j, (hset H id (.blk z rows false true) j).live = true → (H j).live = true := fun j hl => by
        by_cases e : j = id
        · subst e; rw [hset_same] at hl; simp [HO.live] at hl
        · rwa [hset_ne _ _ e] at hl
      exact hs.inj i j L1 L2 k hi hj (g _ hli) (g _ hlj)
    · exact { (Ext.refl : Ext ι ok H nx w ι ok H w) with
        mutr := by
          rintro k ⟨j, M, hM, hl, hc, hb⟩
          refine .inl ⟨j, M, hM, ?_, hc, hb⟩
          by_cases e : j = id
          · subst e; rw [hset_same] at hl; simp [HO.live] at hl
          · rwa [hset_ne _ _ e] at hl }
  · obtain ⟨b, hb, hlt, ⟨cv, hcv, hrep⟩, ho, hm⟩ := h4 hcap
    have hmut : MutB ι H b := ⟨id, L, hι, HO.live_blk hH, hcap, hb⟩
    have hnok : ¬ ok b := (hm rfl).1
    have hokm : ∀ k, ok k → ok k ∨ k = b := fun _ h => .inl h
    have g : ∀ j, (hset H id (.blk z rows false true) j).live = true → j ≠ id ∧ (H j).live = true := fun j hl => by
      by_cases e : j = id
      · subst e; rw [hset_same] at hl; simp [HO.live] at hl
      · rw [hset_ne _ _ e] at hl; exact ⟨e, hl⟩
    refine ⟨fun k => ok k ∨ k = b, ⟨fun k hk => ?_, fun j hj => ?_, fun j z' rows' mt pu he => ?_, fun j tm N ps as bd st pe he => ?_, fun i j L1 L2 k hi hj hli hlj => ?_⟩, ?_⟩
    · rcases hk with hk | rfl
      · exact hs.ok_lt k hk
      · exact hlt
    · have : j ≠ id := fun e => by subst e; have := (hs.fresh j hj).1; rw [hι] at this; cases this
      rw [hset_ne _ _ this]; exact hs.fresh j hj
    · by_cases e : j = id
      · subst e; rw [hset_same] at he; injection he with e1 e2 e3 e4; subst e1 e2 e3 e4
        refine ⟨L, hι, h1, h2, h3, fun _ => ⟨b, hb, hlt, ⟨cv, hcv, fun i j r x hr hx => ?_⟩, fun _ => .inr rfl, by simp⟩⟩
        exact (hrep i j r x hr hx).pim_mono hokm (fun _ _ => rfl) (fun _ _ h => h)
      · rw [hset_ne _ _ e] at he
        obtain ⟨M, hM, g1, g2, g3, g4⟩ := hs.blk j z' rows' mt pu he
        refine ⟨M, hM, g1, g2, g3, fun hc => ?_⟩
        obtain ⟨k, hk, hlt', ⟨cv', hcv', hrep'⟩, ho', hm'⟩ := g4 hc
        refine ⟨k, hk, hlt', ⟨cv', hcv', fun i j r x hr hx => (hrep' i j r x hr hx).pim_mono hokm (fun _ _ => rfl) (fun _ _ h => h)⟩, fun h => .inl (ho' h), fun h => ⟨?_, (hm' h).2⟩⟩
        rintro (h' | rfl)
        · exact (hm' h).1 h'
        · subst h
          exact e (hs.inj j id M L k hM hι (HO.live_blk he) (HO.live_blk hH) hc hcap hk hb)
    · by_cases e : j = id
      · subst e; rw [hset_same] at he; cases he
      · rw [hset_ne _ _ e] at he
        obtain ⟨M, hM, g1, k, r, hk, hnk, hr, g2, g3, g4⟩ := hs.loop j _ _ _ _ _ _ _ he
        refine ⟨M, hM, g1, k, r, hk, ?_, hr, g2, fun t => (g3 t).mono hokm (fun _ _ => rfl) (fun _ _ h => h), g4⟩
        rintro (h' | rfl)
        · exact hnk h'
        · exact e (hs.inj j id M L k hM hι (by rw [he]; rfl) (HO.live_blk hH) g1 hcap hk hb)
    · exact hs.inj i j L1 L2 k hi hj (g _ hli).2 (g _ hlj).2
    · exact { (Ext.refl : Ext ι ok H nx w ι ok H w) with
        okm := hokm
        okr := by
          rintro k (h | rfl)
          · exact .inl h
          · exact .inr (.inl hmut)
        mutr := by
          rintro k ⟨j, M, hM, hl, hc, hb'⟩
          exact .inl ⟨j, M, hM, (g j hl).2, hc, hb'⟩ }

/-- a slice of a frozen object -/
theorem ow_sl (hs : HSat ι ok H nx w) {id off len z : Nat} {clip pu : Bool} {rows : List (List AL)} {v : Value} (hv : RepL ok w ι v (.ow id off len clip)) (hH : H id = .blk z rows false true)
    (hle : off + len ≤ rows.length) : RepL ok w ι v (.sl clip ((rows.drop off).take len)) := by
  have hlen : ((rows.drop off).take len).length = len := by simp; omega
  cases hv with
  | ow _ _ _ _ _ L a c hι hc hcl hsp hn ha =>
    obtain ⟨M, hM, h1, h2, h3, h4⟩ := hs.blk id z rows false true hH
    rw [hι] at hM; injection hM with e; subst e
    by_cases hc0 : c = 0
    · have hl0 : len = 0 := by omega
      subst hl0 hc0
      cases a with
      | none => simpa using RepL.nil ι clip
      | some d =>
        obtain ⟨b, o, s⟩ := d
        have := hsp _ rfl
        simp only at this; subst this
        have := RepL.sl (ok := ok) (w := w) ι clip [] b o 0 0 (fun _ _ => undef) (by simp) (by simp) (by simp) (by simp) (by simp) (by simp)
        simpa using this
    · obtain ⟨b, hb, rfl, hcap⟩ := ha hc0
      obtain ⟨b', hb', hlt, ⟨cv, hcv, hrep⟩, ho, hm⟩ := h4 (by omega)
      rw [hb] at hb'; injection hb' with e; subst e
      have := RepL.sl (ok := ok) (w := w) ι clip ((rows.drop off).take len) b (L.o + off * L.z) c z (fun i j => cv (off + i) j) (fun _ => ho rfl) (by omega) (by rw [hlen]; exact hcl)
        (fun r hr => h2 r (List.mem_of_mem_drop (List.mem_of_mem_take hr)))
        (fun i j hi hj => by
          rw [h1, show L.o + off * z + i * z + j = L.o + (off + i) * z + j by rw [Nat.add_mul]; omega]
          exact hcv (off + i) j (by omega) hj)
        (fun i j r x hr hx => by
          have hi : i < len := by have := (List.getElem?_eq_some_iff.1 hr).1; omega
          rw [List.getElem?_take_of_lt hi, List.getElem?_drop] at hr
          exact hrep (off + i) j r x hr hx)
      rw [hlen] at this
      exact this

/-- a pointer into a frozen object -/
theorem pt_fp (hs : HSat ι ok H nx w) {id row off z : Nat} {rows : List (List AL)} {v : Value} (hv : RepL ok w ι v (.pt id row off)) (hH : H id = .blk z rows false true) (hr : rows ≠ []) :
    RepL ok w ι v (.fp rows row off) := by
  cases hv with
  | pt _ _ _ _ L b hι hb =>
    obtain ⟨M, hM, h1, h2, h3, h4⟩ := hs.blk id z rows false true hH
    rw [hι] at hM; injection hM with e; subst e
    obtain ⟨b', hb', hlt, ⟨cv, hcv, hrep⟩, ho, hm⟩ := h4 (by have := List.length_pos_iff.2 hr; omega)
    rw [hb] at hb'; injection hb' with e; subst e
    rw [h1]
    exact .fp _ rows row off b L.o z cv (ho rfl) h2 hcv hrep
end
end Go.Abs

namespace Go.Abs
set_option linter.unusedVariables false
open Go.RowKit

/-- rows, cell by cell -/
def flat (n size : Nat) (cv : Nat → Nat → Value) : List Value := (List.range (n * size)).map fun k => cv (k / size) (k % size)
theorem flat_length (n size : Nat) (cv : Nat → Nat → Value) : (flat n size cv).length = n * size := by simp [flat]
theorem idx_lt {n size i j : Nat} (hi : i < n) (hj : j < size) : i * size + j < n * size := by
  have : (i + 1) * size ≤ n * size := Nat.mul_le_mul_right _ hi
  rw [Nat.add_mul] at this; omega
theorem flat_get {n size : Nat} (cv : Nat → Nat → Value) {i j : Nat} (hi : i < n) (hj : j < size) : (flat n size cv)[i * size + j]? = some (cv i j) := by
  have h0 : 0 < size := by omega
  unfold flat
  rw [List.getElem?_map, List.getElem?_range (idx_lt hi hj)]
  simp only [Option.map_some]
  rw [Nat.mul_comm i size, Nat.mul_add_div h0, Nat.div_eq_of_lt hj, Nat.add_zero, Nat.mul_add_mod, Nat.mod_eq_of_lt hj]
theorem flat_get' {n size : Nat} (cv : Nat → Nat → Value) {k : Nat} {u : Value} (h : (flat n size cv)[k]? = some u) : k < n * size ∧ 0 < size ∧ u = cv (k / size) (k % size) ∧ k / size < n ∧ k % size < size ∧ k = (k / size) * size + k % size := by
  have hk : k < n * size := by have := (List.getElem?_eq_some_iff.1 h).1; rwa [flat_length] at this
  have h0 : 0 < size := by rcases Nat.eq_zero_or_pos size with h | h; subst h; simp at hk; exact h
  unfold flat at h
  rw [List.getElem?_map, List.getElem?_range hk] at h
  simp only [Option.map_some] at h
  injection h with h
  refine ⟨hk, h0, h.symm, ?_, Nat.mod_lt _ h0, ?_⟩
  · rw [Nat.div_lt_iff_lt_mul h0]; exact hk
  · have := Nat.div_add_mod k size; rw [Nat.mul_comm] at this; exact this.symm

def srcA (H : HP) (x : AL) : Option (List (List AL) × Bool) :=
  match x with
  | .sl _ rows => some (rows, true)
  | .ow id off len _ => match H id with
    | .blk _ rows _ pu => if off + len ≤ rows.length then some ((rows.drop off).take len, pu) else none
    | _ => none
  | _ => none

section
variable {ι ι' : IM} {ok ok' : Nat → Prop} {H H' : HP} {nx nx' : Nat} {w w' : World} {P : Program}

/-- what lies behind a slice's value -/
theorem rows_of (hs : HSat ι ok H nx w) {v : Value} {x : AL} {rows : List (List AL)} {pu : Bool} {size : Nat} (hv : RepL ok w ι v x) (h : srcA H x = some (rows, pu)) (hz : ∀ r ∈ rows, r.length = size) :
    ∃ a c, v = .slice a rows.length c ∧ rows.length ≤ c ∧ (∀ d, a = some d → d.spot = none) ∧ (a = none → c = 0) ∧ ∃ cv : Nat → Nat → Value,
      (∀ d, a = some d → ∀ i j, i < rows.length → j < size → w.cell? ⟨d.block, d.off + i * size + j, none⟩ = some (cv i j)) ∧
      (∀ (i j : Nat) (r : List AL) (y : AL), rows[i]? = some r → r[j]? = some y → RepL ok w (pim pu ι) (cv i j) y) := by
  cases hv with
  | nil _ clip =>
    simp only [srcA] at h; injection h with h; injection h with h1 h2; subst h1 h2
    exact ⟨none, 0, rfl, by simp, by simp, by simp, fun _ _ => undef, by simp, by simp⟩
  | sl _ clip rows' b o c z cv hb hc hcl hz' hcell hrep =>
    simp only [srcA] at h; injection h with h; injection h with h1 h2; subst h1 h2
    refine ⟨_, c, rfl, hc, (by intro d hd; injection hd with hd; subst hd; rfl), by simp, cv, ?_, fun i j r y hr hy => hrep i j r y hr hy⟩
    intro d hd i j hi hj
    injection hd with hd; subst hd
    have : z = size := by
      have hm := List.getElem_mem hi
      rw [← hz' _ hm, hz _ hm]
    subst this
    exact hcell i j hi hj
  | ow _ id off len clip L a c hι hc hcl hsp hn ha =>
    simp only [srcA] at h
    cases hH : H id with
    | none => rw [hH] at h; cases h
    | loop => rw [hH] at h; cases h
    | blk z rows0 mt pu0 =>
      rw [hH] at h
      simp only at h
      split at h
      · rename_i hle
        injection h with h; injection h with h1 h2; subst h1 h2
        have hlen : ((rows0.drop off).take len).length = len := by simp; omega
        rw [hlen]
        obtain ⟨M, hM, g1, g2, g3, g4⟩ := hs.blk id z rows0 mt pu0 hH
        rw [hι] at hM; injection hM with e; subst e
        refine ⟨a, c, rfl, hc, hsp, hn, ?_⟩
        by_cases hc0 : c = 0
        · have : len = 0 := by omega
          subst this
          exact ⟨fun _ _ => undef, fun _ _ i j hi _ => absurd hi (Nat.not_lt_zero _), by simp⟩
        · obtain ⟨b, hb, rfl, hcap⟩ := ha hc0
          obtain ⟨b', hb', hlt, ⟨cv, hcv, hrep⟩, ho, hm⟩ := g4 (by omega)
          rw [hb] at hb'; injection hb' with e; subst e
          refine ⟨fun i j => cv (off + i) j, ?_, fun i j r y hr hy => ?_⟩
          · intro d hd i j hi hj
            injection hd with hd; subst hd
            have hm0 : rows0[off + i]? = some rows0[off + i] := List.getElem?_eq_getElem (by omega)
            have hzz : z = size := by
              have h1 := g2 _ (List.getElem_mem (show off + i < rows0.length by omega))
              have h2 := hz rows0[off + i] (by
                refine List.mem_of_getElem? (i := i) ?_
                rw [List.getElem?_take_of_lt hi, List.getElem?_drop]; exact hm0)
              omega
            subst hzz
            show w.cell? ⟨b, L.o + off * L.z + i * z + j, none⟩ = _
            rw [g1, show L.o + off * z + i * z + j = L.o + (off + i) * z + j by rw [Nat.add_mul]; omega]
            exact hcv (off + i) j (by omega) hj
          · have hi : i < len := by have := (List.getElem?_eq_some_iff.1 hr).1; omega
            rw [List.getElem?_take_of_lt hi, List.getElem?_drop] at hr
            exact hrep (off + i) j r y hr hy
      · cases h
  | _ => simp [srcA] at h

theorem src_sound (hs : HSat ι ok H nx w) {v : Value} {x : AL} {rows : List (List AL)} {pu : Bool} {size : Nat} {tx e' : TypeId} (hk : P.underlying tx = some (.slice e'))
    (hv : RepL ok w ι v x) (h : srcA H x = some (rows, pu)) (hz : ∀ r ∈ rows, r.length = size) :
    ∃ news : List Value, Src P size tx v rows.length news w ∧ (∀ (i j : Nat) (r : List AL) (y : AL), rows[i]? = some r → r[j]? = some y → ∃ u, news[i * size + j]? = some u ∧ RepL ok w (pim pu ι) u y) := by
  obtain ⟨a, c, rfl, hc, hsp, hn, cv, hcv, hrep⟩ := rows_of hs hv h hz
  have hone : ∀ u ∈ flat rows.length size cv, u.oneCell' = true := fun u hu => by
    obtain ⟨k, hk⟩ := List.getElem?_of_mem hu
    obtain ⟨h1, h2, rfl, h3, h4, h5⟩ := flat_get' cv hk
    have hr : rows[k / size]? = some rows[k / size] := List.getElem?_eq_getElem h3
    have hl := hz _ (List.getElem_mem h3)
    exact (hrep (k / size) (k % size) _ _ hr (List.getElem?_eq_getElem (by omega))).one
  have hrep' : ∀ (i j : Nat) (r : List AL) (y : AL), rows[i]? = some r → r[j]? = some y → ∃ u, (flat rows.length size cv)[i * size + j]? = some u ∧ RepL ok w (pim pu ι) u y := fun i j r y hr hy => by
    have hi := (List.getElem?_eq_some_iff.1 hr).1
    have hj := (List.getElem?_eq_some_iff.1 hy).1
    rw [hz r (List.mem_of_getElem? hr)] at hj
    exact ⟨_, flat_get cv hi hj, hrep i j r y hr hy⟩
  cases a with
  | none =>
    have hc0 := hn rfl
    have hl : rows.length = 0 := by omega
    have : rows = [] := List.eq_nil_of_length_eq_zero hl
    subst this
    exact ⟨[], Src.ofNil w hk c, by simp⟩
  | some d =>
    obtain ⟨b, o, s⟩ := d
    have hs0 := hsp _ rfl
    simp only at hs0; subst hs0
    refine ⟨flat rows.length size cv, Src.ofSlice w hk _ _ _ _ (flat_length _ _ _) (fun k u hu => ?_) hone, hrep'⟩
    obtain ⟨h1, h2, rfl, h3, h4, h5⟩ := flat_get' cv hu
    rw [Addr.add_lit]
    have := hcv _ rfl (k / size) (k % size) h3 h4
    simp only at this
    rw [← this, Nat.add_assoc, ← h5]

/-- an object that lies nowhere -/
theorem HSat.empty (hs : HSat ι ok H nx w) {id z : Nat} {mt pu : Bool} (hι : ι id = none) (hH : H id = .none) (hnx : id < nx') (hnx' : nx ≤ nx') (hmn : nx ≤ id) :
    HSat (imset ι id ⟨none, 0, z, 0⟩) ok (hset H id (.blk z [] mt pu)) nx' w ∧ Ext ι ok H nx w (imset ι id ⟨none, 0, z, 0⟩) ok (hset H id (.blk z [] mt pu)) w := by
  have hm := im_ext hι ⟨none, 0, z, 0⟩
  have g : ∀ j M k, imset ι id ⟨none, 0, z, 0⟩ j = some M → (hset H id (.blk z [] mt pu) j).live = true → M.cap ≠ 0 → M.b = some k → ι j = some M ∧ (H j).live = true := fun j M k h1 h2 h3 h4 => by
    by_cases e : j = id
    · subst e; rw [imset_same] at h1; injection h1 with h1; subst h1; cases h4
    · rw [imset_ne _ _ e] at h1; rw [hset_ne _ _ e] at h2; exact ⟨h1, h2⟩
  constructor
  · constructor
    · exact hs.ok_lt
    · intro j hj
      have : j ≠ id := by omega
      rw [imset_ne _ _ this, hset_ne _ _ this]; exact hs.fresh j (by omega)
    · intro j z' rows mt' pu' h
      by_cases e : j = id
      · subst e; rw [hset_same] at h; injection h with e1 e2 e3 e4; subst e1 e2 e3 e4
        exact ⟨_, imset_same _ _ _, rfl, by simp, by simp, fun h => absurd rfl h⟩
      · rw [hset_ne _ _ e] at h
        obtain ⟨M, hM, h1, h2, h3, h4⟩ := hs.blk j z' rows mt' pu' h
        refine ⟨M, by rw [imset_ne _ _ e]; exact hM, h1, h2, h3, fun hc => ?_⟩
        obtain ⟨b, hb, hlt, ⟨cv, hcv, hrep⟩, ho, hmm⟩ := h4 hc
        exact ⟨b, hb, hlt, ⟨cv, hcv, fun i j r x hr hx => (hrep i j r x hr hx).pim_mono (fun _ h => h) (fun _ _ => rfl) hm⟩, ho, hmm⟩
    · intro j tm N ps as bd st pe h
      by_cases e : j = id
      · subst e; rw [hset_same] at h; cases h
      · rw [hset_ne _ _ e] at h
        obtain ⟨M, hM, h1, b, r, hb, hnok, hr, h2, h3, h4⟩ := hs.loop j _ _ _ _ _ _ _ h
        exact ⟨M, by rw [imset_ne _ _ e]; exact hM, h1, b, r, hb, hnok, hr, h2, fun t => (h3 t).mono (fun _ h => h) (fun _ _ => rfl) hm, h4⟩
    · intro i j M M' k h1 h2 h3 h4 h5 h6 h7 h8
      obtain ⟨a1, a2⟩ := g i M k h1 h3 h5 h7
      obtain ⟨b1, b2⟩ := g j M' k h2 h4 h6 h8
      exact hs.inj i j M M' k a1 b1 a2 b2 h5 h6 h7 h8
  · exact { (Ext.refl : Ext ι ok H nx w ι ok H w) with
      im := hm
      imr := fun j hj => imset_ne _ _ (by omega)
      mutr := by
        rintro k ⟨j, M, hM, hl, hc, hb⟩
        obtain ⟨a1, a2⟩ := g j M k hM hl hc hb
        exact .inl ⟨j, M, a1, a2, hc, hb⟩ }

structure AppOk (P : Program) (ι : IM) (ok : Nat → Prop) (H : HP) (nx : Nat) (w : World) (sem : Sem Value) (H' : HP) (nx' : Nat) (x : AL) : Prop where
  out : ∃ v w' ι', sem.run P w = .ok v w' ∧ HSat ι' ok H' nx' w' ∧ Ext ι ok H nx w ι' ok H' w' ∧ RepL ok w' ι' v x

/-- THE ROW GROWS: a new block. -/
theorem append_grow (hs : HSat ι ok H nx w) {id : Nat} (hfree : ι id = none) (hHfree : H id = .none) (hid : nx ≤ id) (hnx : id < nx')
    {t tx ty e : TypeId} {i : TypeInfo} {z : Value} (ht : P.underlying t = some (.slice e)) (hi : P.info? e = some i) (hz : i.zero = some z) (hzs : z.cells.size = i.size)
    {a : Option Addr} {c : Nat} {rows : List (List AL)} {p : Bool} (hrows : ∀ r ∈ rows, r.length = i.size) (hsp : ∀ d, a = some d → d.spot = none) (hn0 : a = none → rows = []) {cv : Nat → Nat → Value}
    (hcv : ∀ d, a = some d → ∀ k j, k < rows.length → j < i.size → w.cell? ⟨d.block, d.off + k * i.size + j, none⟩ = some (cv k j))
    (hrep : ∀ (k j : Nat) (r : List AL) (y : AL), rows[k]? = some r → r[j]? = some y → RepL ok w (pim p ι) (cv k j) y)
    {x : Value} {srows : List (List AL)} {sp : Bool} {news : List Value} (hsz : ∀ r ∈ srows, r.length = i.size) (hsrc : Src P i.size tx x srows.length news w)
    (hsrep : ∀ (k j : Nat) (r : List AL) (y : AL), srows[k]? = some r → r[j]? = some y → ∃ u, news[k * i.size + j]? = some u ∧ RepL ok w (pim sp ι) u y)
    (hg : c < rows.length + srows.length) (hfit : (rows.length + srows.length) * i.bytes ≤ 140737488355328) (h63 : rows.length + srows.length ≤ 4611686018427387904) :
    AppOk P ι ok H nx w (Builtin.append_ #[t, tx] ty #[.slice a rows.length c, x]) (hset H id (.blk i.size (rows ++ srows) true (p && sp))) nx' (.ow id 0 (rows.length + srows.length) false) := by
  have hold : (Builtin.firstCells i.size rows.length (.slice a rows.length c)).run P w.drew = .ok (flat rows.length i.size cv).toArray w.drew := by
    cases a with
    | none => rw [hn0 rfl]; simp [flat, run_firstCells_none]
    | some d =>
      obtain ⟨b, o, s⟩ := d
      have := hsp _ rfl
      simp only at this; subst this
      refine run_firstCells_some w.drew i.size rows.length _ _ _ _ (flat_length _ _ _) (fun k u hu => ?_)
      obtain ⟨h1, h2, rfl, h3, h4, h5⟩ := flat_get' cv hu
      rw [Addr.add_lit, World.cell?_drew]
      have := hcv _ rfl (k / i.size) (k % i.size) h3 h4
      simp only at this
      rw [← this, Nat.add_assoc, ← h5]
  have hrun := run_append_grow_src (P := P) w t tx ty e i z ht hi hz a rows.length c _ hold x srows.length news hsrc hg (by omega) (growslice_fits hg hfit)
  generalize hG : grownCap w (rows.length + srows.length) c e = G at hrun
  have hge : rows.length + srows.length ≤ G := by rw [← hG]; exact grownCap_ge _ _ _ _
  have hs1 : HSat ι ok H nx w.drew := hs.heap rfl
  have hC : ((flat rows.length i.size cv ++ news).toArray ++ Builtin.zeroCells z.cells (G - (rows.length + srows.length))).size = G * i.size := by
    simp [flat_length, hsrc.newsLen, Builtin.zeroCells, hzs]
    rw [← Nat.add_mul, ← Nat.add_mul]; congr 1; omega
  have hnew := new_sound hs1 hfree hHfree hnx (by omega) ((flat rows.length i.size cv ++ news).toArray ++ Builtin.zeroCells z.cells (G - (rows.length + srows.length))) e (rows ++ srows) (p && sp) (cap := G) (z := i.size)
    (by intro r hr; rcases List.mem_append.1 hr with h | h; exact hrows r h; exact hsz r h) (by simpa using hge) hC ?_
  · refine ⟨⟨_, _, _, hrun, hnew, ?_, ?_⟩⟩
    · have := (Ext.drew : Ext ι ok H nx w ι ok H w.drew).trans (new_ext (ok := ok) (z := i.size) (cap := G) (H := H) hfree hid ((flat rows.length i.size cv ++ news).toArray ++ Builtin.zeroCells z.cells (G - (rows.length + srows.length))) e (rows ++ srows) (p && sp)) (Nat.le_refl _)
      exact this
    · refine .ow _ id 0 _ false _ _ _ (imset_same _ _ _) hge (by simp) (by intro d hd; injection hd with hd; subst hd; rfl) (by simp) (fun _ => ⟨w.heap.size, rfl, by simp, by simp⟩)
  · intro k j r y hr hy
    have hk := (List.getElem?_eq_some_iff.1 hr).1
    have hj := (List.getElem?_eq_some_iff.1 hy).1
    have hlen : j < i.size := by
      rcases List.mem_append.1 (List.mem_of_getElem? hr) with h | h
      · rw [← hrows r h]; exact hj
      · rw [← hsz r h]; exact hj
    by_cases hkr : k < rows.length
    · rw [List.getElem?_append_left hkr] at hr
      refine ⟨cv k j, ?_, ((hrep k j r y hr hy).pim_and).heap rfl⟩
      have := idx_lt (size := i.size) hkr hlen
      rw [Array.getElem?_append_left (by simp [flat_length]; omega)]
      simp only [List.getElem?_toArray]
      rw [List.getElem?_append_left (by rw [flat_length]; exact this)]
      exact flat_get cv hkr hlen
    · rw [List.getElem?_append_right (by omega)] at hr
      obtain ⟨u, hu, hru⟩ := hsrep (k - rows.length) j r y hr hy
      refine ⟨u, ?_, (Bool.and_comm sp p ▸ hru.pim_and (q := p)).heap rfl⟩
      have hul := (List.getElem?_eq_some_iff.1 hu).1
      have e1 : k * i.size + j = rows.length * i.size + ((k - rows.length) * i.size + j) := by
        rw [← Nat.add_assoc, ← Nat.add_mul]; congr 2; omega
      rw [Array.getElem?_append_left (by simp [flat_length]; omega)]
      simp only [List.getElem?_toArray]
      rw [List.getElem?_append_right (by rw [flat_length]; omega), flat_length, e1, Nat.add_sub_cancel_left]
      exact hu
end
end Go.Abs

namespace Go.Abs
set_option linter.unusedVariables false
open Go.RowKit

section
variable {ι ι' : IM} {ok ok' : Nat → Prop} {H H' : HP} {nx nx' : Nat} {w w' : World} {P : Program}

theorem drop_one (H : HP) (id : Nat) : ∀ j, hset H id .none j = H j ∨ hset H id .none j = .none := fun j => by
  by_cases e : j = id
  · subst e; exact .inr (hset_same _ _ _)
  · exact .inl (hset_ne _ _ e)

theorem append_nil (hs : HSat ι ok H nx w) {id : Nat} (hfree : ι id = none) (hHfree : H id = .none) (hid : nx ≤ id) (hnx : id < nx')
    {t tx ty e e' : TypeId} {i : TypeInfo} {z : Value} (ht : P.underlying t = some (.slice e)) (htx : P.underlying tx = some (.slice e')) (hi : P.info? e = some i) (hz : i.zero = some z) (hzs : z.cells.size = i.size)
    {v x : Value} {y : AL} (hv : RepL ok w ι v (.sl true [])) (hx : RepL ok w ι x y) {srows : List (List AL)} {sp : Bool} (hy : srcA H y = some (srows, sp)) (hsz : ∀ r ∈ srows, r.length = i.size)
    (hfit : srows.length * i.bytes ≤ 140737488355328) (h63 : srows.length ≤ 4611686018427387904) :
    AppOk P ι ok H nx w (Builtin.append_ #[t, tx] ty #[v, x]) (hset H id (.blk i.size srows true sp)) nx' (.ow id 0 srows.length false) := by
  obtain ⟨news, hsrc, hsrep⟩ := src_sound hs htx hx hy hsz
  obtain ⟨a, hv, hsp, hn⟩ : ∃ a, v = .slice a 0 0 ∧ (∀ d, a = some d → d.spot = none) ∧ True := by
    generalize hxx : AL.sl true [] = xx at hv
    cases hv with
    | nil _ clip => exact ⟨none, rfl, by simp, trivial⟩
    | sl _ clip rows b o c z cv hb hc hcl hz' hcell hrep =>
      injection hxx with e1 e2; subst e1 e2
      exact ⟨some ⟨b, o, none⟩, by simp [hcl rfl], by intro d hd; injection hd with hd; subst hd; rfl, trivial⟩
    | _ => cases hxx
  subst hv
  by_cases h0 : srows = []
  · subst h0
    have hnews : news = [] := List.eq_nil_of_length_eq_zero (by rw [hsrc.newsLen]; simp)
    subst hnews
    have hrun := run_append_nothing (P := P) w t tx ty e i ht hi a 0 0 (Nat.le_refl _) x hsrc
    obtain ⟨h1, h2⟩ := hs.empty (z := i.size) (mt := true) (pu := sp) hfree hHfree hnx (by omega) hid
    exact ⟨⟨_, _, _, hrun, h1, h2, .ow _ id 0 0 false _ a 0 (imset_same _ _ _) (Nat.le_refl _) (by simp) hsp (by simp) (fun h => absurd rfl h)⟩⟩
  · have hpos : 0 < srows.length := List.length_pos_iff.2 h0
    have := append_grow (P := P) (ty := ty) hs hfree hHfree hid hnx ht hi hz hzs (a := a) (c := 0) (rows := []) (p := sp) (by simp) hsp (by simp) (cv := fun _ _ => undef) (by simp) (by simp) (x := x) hsz hsrc hsrep (by simpa using hpos) (by simpa using hfit) (by simpa using h63)
    simpa using this

theorem append_own (hs : HSat ι ok H nx w) {id id0 : Nat} (hfree : ι id = none) (hHfree : H id = .none) (hid : nx ≤ id) (hnx : id < nx')
    {t tx ty e e' : TypeId} {i : TypeInfo} {z : Value} (ht : P.underlying t = some (.slice e)) (htx : P.underlying tx = some (.slice e')) (hi : P.info? e = some i) (hz : i.zero = some z) (hzs : z.cells.size = i.size)
    {v x : Value} {y : AL} {off len : Nat} {clip p : Bool} {rows0 : List (List AL)} (hv : RepL ok w ι v (.ow id0 off len clip)) (hH : H id0 = .blk i.size rows0 true p) (htip : off + len ≤ rows0.length)
    (hx : RepL ok w ι x y) {srows : List (List AL)} {sp : Bool} (hy : srcA H y = some (srows, sp)) (hsz : ∀ r ∈ srows, r.length = i.size)
    (hfit : (len + srows.length) * i.bytes ≤ 140737488355328) (h63 : len + srows.length ≤ 4611686018427387904) :
    AppOk P ι ok H nx w (Builtin.append_ #[t, tx] ty #[v, x]) (hset (hset H id0 .none) id (.blk i.size ((rows0.drop off).take len ++ srows) true (p && sp))) nx' (.ow id 0 (len + srows.length) false) := by
  obtain ⟨news, hsrc, hsrep⟩ := src_sound hs htx hx hy hsz
  have hdl : ((rows0.drop off).take len).length = len := by simp; omega
  have hs0 : HSat ι ok (hset H id0 .none) nx w := hs.drop (drop_one H id0)
  have he0 : Ext ι ok H nx w ι ok (hset H id0 .none) w := Ext.drop (drop_one H id0)
  have hne : id ≠ id0 := fun e => by
    subst e; rw [hHfree] at hH; cases hH
  have hHf0 : hset H id0 .none id = .none := by rw [hset_ne _ _ hne]; exact hHfree
  obtain ⟨L, hι, g1, g2, g3, g4⟩ := hs.blk id0 i.size rows0 true p hH
  cases hv with
  | ow _ _ _ _ _ M a c hι' hc hcl hsp hn ha =>
    rw [hι] at hι'; injection hι' with em; subst em
    by_cases hroom : len + srows.length ≤ c
    · by_cases hc0 : c = 0
      · -- nothing at all
        have hl0 : len = 0 := by omega
        have hs00 : srows = [] := List.eq_nil_of_length_eq_zero (by omega)
        subst hl0 hs00 hc0
        have hnews : news = [] := List.eq_nil_of_length_eq_zero (by rw [hsrc.newsLen]; simp)
        subst hnews
        have hrun := run_append_nothing (P := P) w t tx ty e i ht hi a 0 0 (Nat.le_refl _) x hsrc
        obtain ⟨h1, h2⟩ := hs0.empty (z := i.size) (mt := true) (pu := p && sp) hfree hHf0 hnx (by omega) hid
        have hd : (rows0.drop off).take 0 ++ [] = [] := by rw [List.append_nil]; exact List.eq_nil_of_length_eq_zero hdl
        rw [hd]
        exact ⟨⟨_, _, _, hrun, h1, he0.trans h2 (Nat.le_refl _), .ow _ id 0 0 false _ a 0 (imset_same _ _ _) (Nat.le_refl _) (by simp) hsp (by simp) (fun h => absurd rfl h)⟩⟩
      · -- there is room
        obtain ⟨b, hb, rfl, hcap⟩ := ha hc0
        obtain ⟨b', hb', hlt, ⟨cv, hcv, hrep⟩, ho, hm⟩ := g4 (by omega)
        rw [hb] at hb'; injection hb' with eb; subst eb
        have hm := hm rfl
        have hnok : ¬ ok b := hm.1
        have hcell : ∀ k, k < news.length → (w.cell? ⟨b, L.o + off * L.z + len * i.size + k, none⟩).isSome = true ∧ w.frozen? ⟨b, L.o + off * L.z + len * i.size + k, none⟩ = false := fun k hk => by
          rw [hsrc.newsLen] at hk
          have h0 : 0 < i.size := by rcases Nat.eq_zero_or_pos i.size with h | h; rw [h] at hk; simp at hk; exact h
          have hdiv : k / i.size < srows.length := by rw [Nat.div_lt_iff_lt_mul h0]; exact hk
          have hmod := Nat.mod_lt k h0
          have hk' : k = (k / i.size) * i.size + k % i.size := by have := Nat.div_add_mod k i.size; rw [Nat.mul_comm] at this; exact this.symm
          have := hm.2 (off + len + k / i.size) (k % i.size) (by omega) hmod
          rw [g1]
          rw [show L.o + off * i.size + len * i.size + k = L.o + (off + len + k / i.size) * i.size + k % i.size by rw [Nat.add_mul, Nat.add_mul]; omega]
          exact this
        have hrun := run_append_room_src (P := P) w t tx ty e i ht hi b (L.o + off * L.z) len c x srows.length news hsrc hroom (fun k hk => (hcell k hk).1) (fun k hk => (hcell k hk).2)
        have hlive : (H id0).live = true := HO.live_blk hH
        have hokb : ∀ k, ok k → (w.setCells b (L.o + off * L.z + len * i.size) news).heap[k]? = w.heap[k]? := fun k hk => setCells_other b news _ w k (fun e => hnok (e ▸ hk))
        have himm := im_ext hfree (⟨some b, L.o + off * L.z, i.size, c⟩ : Loc)
        refine ⟨⟨_, _, imset ι id ⟨some b, L.o + off * L.z, i.size, c⟩, hrun, ?_, ?_, ?_⟩⟩
        · refine hs.modify (id := id0) (id' := id) (L := L) (L' := ⟨some b, L.o + off * L.z, i.size, c⟩) (b := b) hι hlive (by omega) hb (imset_same _ _ _) (fun _ => rfl) (fun j hj => imset_ne _ _ hj) himm
            (fun j hj hj0 => by rw [hset_ne _ _ hj, hset_ne _ _ hj0]) (hset_same _ _ _) (fun _ => by rw [hset_ne _ _ (Ne.symm hne), hset_same]) (fun _ => hHfree) hnx (by omega)
            (by rw [setCells_size]; exact Nat.le_refl _) (fun k _ hk => setCells_other b news _ w k hk) ?_ (by intros; rename_i h; cases h)
          intro z' rows' mt' pu' hbk
          injection hbk with e1 e2 e3 e4
          subst e1 e2 e3 e4
          refine ⟨rfl, ?_, by simp only [List.length_append, hdl]; exact hroom, fun _ => ⟨b, rfl, by rw [setCells_size]; exact hlt, ?_, by simp, fun _ => ⟨hnok, fun k j hk hj => ?_⟩⟩⟩
          · intro r hr
            rcases List.mem_append.1 hr with h | h
            · exact g2 r (List.mem_of_mem_drop (List.mem_of_mem_take h))
            · exact hsz r h
          · refine ⟨fun k j => if k < len then cv (off + k) j else news.getD ((k - len) * i.size + j) undef, fun k j hk hj => ?_, fun k j r yy hr hy' => ?_⟩
            · simp only [List.length_append, hdl] at hk
              by_cases hkl : k < len
              · show _ = some (if k < len then cv (off + k) j else _)
                rw [if_pos hkl, World.cell?_setCells_out]
                · have := hcv (off + k) j (by omega) hj
                  rw [g1, show L.o + off * i.size + k * i.size + j = L.o + (off + k) * i.size + j by rw [Nat.add_mul]; omega]
                  exact this
                · intro _ _
                  left
                  have := idx_lt (size := i.size) hkl hj
                  show L.o + off * L.z + k * i.size + j < L.o + off * L.z + len * i.size
                  omega
              · show _ = some (if k < len then cv (off + k) j else news.getD ((k - len) * i.size + j) undef)
                rw [if_neg hkl]
                have hkk := idx_lt (n := srows.length) (size := i.size) (i := k - len) (by omega) hj
                have := World.cell?_setCells_in b news (L.o + off * L.z + len * i.size) w (fun j hj => (hcell j hj).1) ((k - len) * i.size + j) (by rw [hsrc.newsLen]; exact hkk)
                rw [show L.o + off * L.z + k * i.size + j = L.o + off * L.z + len * i.size + ((k - len) * i.size + j) by
                  have : k * i.size = len * i.size + (k - len) * i.size := by rw [← Nat.add_mul]; congr 1; omega
                  omega, this]
                simp [List.getD, List.getElem?_eq_getElem (show (k - len) * i.size + j < news.length by rw [hsrc.newsLen]; exact hkk)]
            · by_cases hkl : k < len
              · rw [List.getElem?_append_left (by rw [hdl]; exact hkl), List.getElem?_take_of_lt hkl, List.getElem?_drop] at hr
                show RepL _ _ _ (if k < len then cv (off + k) j else _) yy
                rw [if_pos hkl]
                exact ((hrep (off + k) j r yy hr hy').pim_mono (fun _ h => h) hokb himm).pim_and
              · rw [List.getElem?_append_right (by rw [hdl]; omega), hdl] at hr
                obtain ⟨u, hu, hru⟩ := hsrep (k - len) j r yy hr hy'
                show RepL _ _ _ (if k < len then cv (off + k) j else news.getD ((k - len) * i.size + j) undef) yy
                rw [if_neg hkl]
                have : news.getD ((k - len) * i.size + j) undef = u := by simp [List.getD, hu]
                rw [this, Bool.and_comm]
                exact (hru.pim_mono (fun _ h => h) hokb himm).pim_and
          · have := hm.2 (off + k) j (by simp only at hk; omega) hj
            rw [show L.o + (off + k) * i.size + j = L.o + off * i.size + k * i.size + j by rw [Nat.add_mul]; omega] at this
            simp only
            rw [g1]
            exact ⟨setCells_isSome b news _ w _ this.1 (fun j hj => by have := (hcell j hj).1; rwa [g1] at this), by rw [World.frozen?_setCells]; exact this.2⟩
        · exact Ext.modify (id := id0) (id' := id) (L := L) (L' := ⟨some b, L.o + off * L.z, i.size, c⟩) (b := b) hι hlive (by omega) hb (imset_same _ _ _) (fun _ => rfl) (fun j hj => imset_ne _ _ hj) himm (.inr hid)
            (fun j hj hj0 => by rw [hset_ne _ _ hj, hset_ne _ _ hj0]) (fun _ => by rw [hset_ne _ _ (Ne.symm hne), hset_same]) (setCells_rest b news _ w).1 (setCells_rest b news _ w).2.1 (setCells_rest b news _ w).2.2
            (by rw [setCells_size]; exact Nat.le_refl _) (fun k _ hk => setCells_other b news _ w k hk)
        · exact .ow _ id 0 _ false _ _ c (imset_same _ _ _) hroom (by simp) (by intro d hd; injection hd with hd; subst hd; rfl) (by simp) (fun _ => ⟨b, rfl, by simp, by simp⟩)
    · -- there is none
      have hsrcrows : srcA H (.ow id0 off len clip) = some ((rows0.drop off).take len, p) := by
        simp only [srcA, hH]
        rw [if_pos htip]
      have hvrep : RepL ok w ι (.slice a len c) (.ow id0 off len clip) := .ow _ id0 off len clip L a c hι hc hcl hsp hn ha
      obtain ⟨a', c', hval, hcc, hsp', hn', cv, hcv, hrep⟩ := rows_of hs hvrep hsrcrows (fun r hr => g2 r (List.mem_of_mem_drop (List.mem_of_mem_take hr)))
      injection hval with e1 e2 e3
      subst e1 e3
      have := append_grow (P := P) (ty := ty) hs0 hfree hHf0 hid hnx ht hi hz hzs (a := a) (c := c) (rows := (rows0.drop off).take len) (p := p) (fun r hr => g2 r (List.mem_of_mem_drop (List.mem_of_mem_take hr))) hsp
        (fun h => List.eq_nil_of_length_eq_zero (by have := hn' h; omega)) hcv hrep (x := x) hsz hsrc hsrep (by rw [hdl]; omega) (by rw [hdl]; exact hfit) (by rw [hdl]; exact h63)
      obtain ⟨v', w', ι', hr, h1, h2, h3⟩ := this.out
      rw [hdl] at hr h3
      exact ⟨⟨v', w', ι', hr, h1, he0.trans h2 (Nat.le_refl _), h3⟩⟩
end
end Go.Abs

namespace Go.Abs
set_option linter.unusedVariables false
open Go.RowKit

inductive ADef where
  | mark
  | call (f : FuncId) (args : List AC)

structure St where
  tm : Nat → AV
  hp : HP
  nx : Nat
  df : List ADef

def St.put (s : St) (d : Option Nat) (v : AV) (hp : HP) (nx : Nat) : St :=
  match d with
  | some d => ⟨tset s.tm d v, hp, nx, s.df⟩
  | none => ⟨s.tm, hp, nx, s.df⟩

def RepCs (ok : Nat → Prop) (w : World) (ι : IM) (vs : List Value) (xs : List AC) : Prop :=
  vs.length = xs.length ∧ ∀ (i : Nat) (v : Value) (x : AC), vs[i]? = some v → xs[i]? = some x → RepC ok w ι v x

def DefRep (B : Nat) (ι : IM) (ok : Nat → Prop) (H : HP) (w : World) : Deferred → ADef → Prop
  | d, .mark => ∃ r, d.target = .collected r ∧ w.heap[r]? = some (.deferred (some [])) ∧ ¬ MutB ι H r ∧ ¬ ok r ∧ B ≤ r
  | d, .call f args => ∃ cap : Array Value, d.target = .fn (.func f) cap ∧ RepCs ok w ι (d.args ++ cap).toList args

/-- N: how many temporaries; from which block on the frame's own memory lies -/
structure Sat (N : Nat × Nat) (ι : IM) (ok : Nat → Prop) (s : St) (a : Act) (w : World) : Prop where
  hs : HSat ι ok s.hp s.nx w
  sz : a.tmps.size = N.1
  tm : ∀ t, RepV ok w ι (a.tmps.getD t undef) (s.tm t)
  dl : a.defers.length = s.df.length
  df : ∀ (i : Nat) (d : Deferred) (x : ADef), a.defers[i]? = some d → s.df[i]? = some x → DefRep N.2 ι ok s.hp w d x
  bs : N.2 ≤ w.heap.size
  mks : ∀ (i j : Nat) (d e : Deferred) (r : Nat), a.defers[i]? = some d → a.defers[j]? = some e → d.target = .collected r → e.target = .collected r → i = j

section
variable {ι ι' : IM} {ok ok' : Nat → Prop} {H H' : HP} {nx nx' : Nat} {w w' : World} {P : Program} {N : Nat × Nat} {s s' : St} {a a' : Act}

theorem RepCs.mono {vs : List Value} {xs : List AC} (h : RepCs ok w ι vs xs) (hok : ∀ k, ok k → ok' k) (hw : ∀ k, ok k → w'.heap[k]? = w.heap[k]?) (hι : ∀ id L, ι id = some L → ι' id = some L) : RepCs ok' w' ι' vs xs :=
  ⟨h.1, fun i v x h1 h2 => (h.2 i v x h1 h2).mono hok hw hι⟩

theorem DefRep.ext {B : Nat} (hs : HSat ι ok H nx w) (h : Ext ι ok H nx w ι' ok' H' w') {d : Deferred} {x : ADef} (hr : DefRep B ι ok H w d x) : DefRep B ι' ok' H' w' d x := by
  cases x with
  | mark =>
    obtain ⟨r, h1, h2, h3, h4, h5⟩ := hr
    have hlt := (Array.getElem?_eq_some_iff.1 h2).1
    refine ⟨r, h1, by rw [h.same r hlt h3]; exact h2, fun hm => ?_, fun ho => ?_, h5⟩
    · rcases h.mutr r hm with h | h
      · exact h3 h
      · omega
    · rcases h.okr r ho with h | h | h
      · exact h4 h
      · exact h3 h
      · omega
  | call f args =>
    obtain ⟨cap, h1, h2⟩ := hr
    exact ⟨cap, h1, h2.mono h.okm (fun _ hk => h.ok_same hs hk) h.im⟩

theorem undef_rep : RepV ok w ι undef (.tup []) := .tup (vs := []) (xs := []) rfl (by simp)

theorem getD_set {α : Type} (xs : Array α) (d t : Nat) (v u : α) (hd : d < xs.size) : (xs.setIfInBounds d v).getD t u = if t = d then v else xs.getD t u := by
  by_cases e : t = d
  · subst e; simp [Array.getD_eq_getD_getElem?, hd]
  · rw [if_neg e]
    simp [Array.getD_eq_getD_getElem?, Array.getElem?_setIfInBounds_ne (Ne.symm e)]

/-- an operation has left a value -/
theorem Sat.put (h : Sat N ι ok s a w) {hp : HP} (hs' : HSat ι' ok' hp nx' w') (he : Ext ι ok s.hp s.nx w ι' ok' hp w') {v : Value} {x : AV} (hv : RepV ok' w' ι' v x) {d : Option Nat} (hd : ∀ t, d = some t → t < N.1) :
    Sat N ι' ok' (s.put d x hp nx') (a.put d v) w' := by
  cases d with
  | none =>
    exact ⟨hs', h.sz, fun t => he.repV h.hs (h.tm t), h.dl, fun i dd xx h1 h2 => (h.df i dd xx h1 h2).ext h.hs he, Nat.le_trans h.bs he.size, h.mks⟩
  | some d =>
    have hdN := hd d rfl
    refine ⟨hs', by simp [Act.put, h.sz], fun t => ?_, h.dl, fun i dd xx h1 h2 => (h.df i dd xx h1 h2).ext h.hs he, Nat.le_trans h.bs he.size, h.mks⟩
    simp only [Act.put, St.put]
    rw [getD_set _ _ _ _ _ (by rw [h.sz]; exact hdN)]
    by_cases e : t = d
    · subst e; rw [if_pos rfl, tset_same]; exact hv
    · rw [if_neg e, tset_ne _ _ e]; exact he.repV h.hs (h.tm t)

/-! ### operands -/
inductive AOpd where
  | t (n : Nat)
  | k (v : AV)

def AOpd.ev (tm : Nat → AV) : AOpd → AV
  | .t n => tm n
  | .k v => v

def cellA : Value → AL
  | .slice none 0 0 => .sl true []
  | v => .v v

theorem cellA_rep {v : Value} (h : v.oneCell' = true) : RepL ok w ι v (cellA v) := by
  unfold cellA
  split
  · exact .nil _ _
  · exact .v _ _ h

def constA (v : Value) : Option AV :=
  match v with
  | .agg cs => if cs.toList.all (·.oneCell') then some (.c (.agg (cs.toList.map cellA))) else none
  | .tuple cs => if cs.size = 0 then some (.tup []) else none
  | v => some (.c (.x (cellA v)))

theorem cells_rep {cs : List Value} (h : ∀ v ∈ cs, v.oneCell' = true) : ∀ (i : Nat) (v : Value) (x : AL), cs[i]? = some v → (cs.map cellA)[i]? = some x → RepL ok w ι v x := by
  intro i v x h1 h2
  rw [List.getElem?_map, h1] at h2
  injection h2 with h2; subst h2
  exact cellA_rep (h v (List.mem_of_getElem? h1))

theorem constA_rep {v : Value} {x : AV} (h : constA v = some x) : RepV ok w ι v x := by
  unfold constA at h
  split at h
  · rename_i cs
    split at h
    · rename_i hall
      injection h with h; subst h
      have := RepC.agg (ok := ok) (w := w) (ι := ι) (cs := cs.toList) (xs := cs.toList.map cellA) (by simp) (cells_rep (by simpa only [List.all_eq_true] using hall))
      rw [Array.toArray_toList] at this
      exact .c this
    · cases h
  · rename_i cs
    split at h
    · rename_i h0
      injection h with h; subst h
      have : cs = #[] := by simpa using h0
      subst this
      exact undef_rep
    · cases h
  · rename_i h1 h2
    injection h with h; subst h
    refine .c (.x (cellA_rep ?_))
    cases v <;> first | rfl | exact absurd rfl (h1 _) | exact absurd rfl (h2 _)

def opd : Operand → Option AOpd
  | .tmp t => some (.t t)
  | .const v => (constA v).map .k
  | .func f => some (.k (.c (.x (.fn (.func f) []))))
  | .global _ => none

theorem fn_rep (f : Fn) : RepL ok w ι (.func f #[] #[]) (.fn f []) := by
  have := RepL.fn (ok := ok) (w := w) ι f [] [] rfl (by simp)
  simpa using this

theorem opd_sound {o : Operand} {x : AOpd} (h : opd o = some x) (hs : Sat N ι ok s a w) : RepV ok w ι (a.eval o) (x.ev s.tm) := by
  cases o with
  | tmp t => simp only [opd] at h; injection h with h; subst h; exact hs.tm t
  | const v =>
    simp only [opd, Option.map_eq_some_iff] at h
    obtain ⟨y, hy, rfl⟩ := h
    exact constA_rep hy
  | func f => simp only [opd] at h; injection h with h; subst h; exact .c (.x (fn_rep _))
  | global g => simp [opd] at h

/-! ### inversion: what a value is -/
theorem RepV.int {v : Value} {k : IntKind} {n : Int} (h : RepV ok w ι v (.c (.x (.v (.int k n))))) : v = .int k n := by
  cases h with | c h => cases h with | x h => cases h; rfl
theorem RepV.bool {v : Value} {b : Bool} (h : RepV ok w ι v (.c (.x (.v (.bool b))))) : v = .bool b := by
  cases h with | c h => cases h with | x h => cases h; rfl
theorem RepV.val {v u : Value} (h : RepV ok w ι v (.c (.x (.v u)))) : v = u := by
  cases h with | c h => cases h with | x h => cases h; rfl
theorem RepV.leaf {v : Value} {l : AL} (h : RepV ok w ι v (.c (.x l))) : RepL ok w ι v l := by
  cases h with | c h => cases h with | x h => exact h
theorem RepV.comp {v : Value} {l : AC} (h : RepV ok w ι v (.c l)) : RepC ok w ι v l := by
  cases h with | c h => exact h
theorem RepV.aggr {v : Value} {xs : List AL} (h : RepV ok w ι v (.c (.agg xs))) : ∃ cs : List Value, v = .agg cs.toArray ∧ cs.length = xs.length ∧ ∀ (i : Nat) (v : Value) (x : AL), cs[i]? = some v → xs[i]? = some x → RepL ok w ι v x := by
  cases h with | c h => cases h with | agg hl h => exact ⟨_, rfl, hl, h⟩
theorem RepV.tuple {v : Value} {xs : List AC} (h : RepV ok w ι v (.tup xs)) : ∃ vs : List Value, v = .tuple vs.toArray ∧ vs.length = xs.length ∧ ∀ (i : Nat) (v : Value) (x : AC), vs[i]? = some v → xs[i]? = some x → RepC ok w ι v x := by
  cases h with | tup hl h => exact ⟨_, rfl, hl, h⟩

/-- the cells of a component -/
theorem RepC.cellsOf {v : Value} {c : AC} (h : RepC ok w ι v c) : v.cells.toList.length = c.cells.length ∧ ∀ (i : Nat) (u : Value) (x : AL), v.cells.toList[i]? = some u → c.cells[i]? = some x → RepL ok w ι u x := by
  cases h with
  | x h =>
    have h1 := h.one
    have : v.cells = #[v] := by cases v <;> first | rfl | simp [Value.oneCell'] at h1
    rw [this]
    refine ⟨rfl, fun i u x h2 h3 => ?_⟩
    cases i with
    | zero => simp [AC.cells] at h2 h3; subst h2 h3; exact h
    | succ i => simp at h2
  | agg hl h => exact ⟨by simpa [Value.cells, AC.cells] using hl, fun i u x h2 h3 => h i u x (by simpa [Value.cells] using h2) h3⟩

theorem all_cells_rep {cs : List Value} {xs : List AL} (hl : cs.length = xs.length) (h : ∀ (i : Nat) (u : Value) (x : AL), cs[i]? = some u → xs[i]? = some x → RepL ok w ι u x) : ∀ u ∈ cs, u.oneCell' = true := fun u hu => by
  obtain ⟨j, hj⟩ := List.getElem?_of_mem hu
  have hjl := (List.getElem?_eq_some_iff.1 hj).1
  exact (h j u _ hj (List.getElem?_eq_getElem (by omega))).one
end
end Go.Abs

namespace Go.Abs
set_option linter.unusedVariables false
open Go.RowKit

/-! ### types whose values are compared cell by cell -/
def litOf : Option IntKind → Value → Option Lit
  | none, .bool b => some (.bool b)
  | some q, .int q' n => if q' = q ∧ (Lit.int q n).wf = true then some (.int q n) else none
  | _, _ => none
def litsOf : List (Option IntKind) → List Value → Option (List Lit)
  | [], [] => some []
  | k :: ks, v :: vs => match litOf k v, litsOf ks vs with
    | some l, some ls => some (l :: ls)
    | _, _ => none
  | _, _ => none

theorem litsOf_len : ∀ {ks : List (Option IntKind)} {cs : List Value} {ls : List Lit}, litsOf ks cs = some ls → cs.length = ks.length
  | [], [], _, _ => rfl
  | k :: ks, v :: vs, ls, h => by
    simp only [litsOf] at h
    split at h
    · rename_i l ls' h1 h2; simp [litsOf_len h2]
    · cases h
  | [], _ :: _, _, h => by simp [litsOf] at h
  | _ :: _, [], _, h => by simp [litsOf] at h

theorem litsOf_append : ∀ {a b : List (Option IntKind)} {cs : List Value} {ls : List Lit}, litsOf (a ++ b) cs = some ls → ∃ l1 l2, litsOf a (cs.take a.length) = some l1 ∧ litsOf b (cs.drop a.length) = some l2 ∧ ls = l1 ++ l2
  | [], b, cs, ls, h => ⟨[], ls, by simp [litsOf], by simpa using h, rfl⟩
  | k :: a, b, [], ls, h => by simp [litsOf] at h
  | k :: a, b, v :: vs, ls, h => by
    simp only [List.cons_append, litsOf] at h
    split at h
    · rename_i l ls' h1 h2
      injection h with h; subst h
      obtain ⟨l1, l2, g1, g2, rfl⟩ := litsOf_append h2
      exact ⟨l :: l1, l2, by simp [litsOf, h1, g1], by simpa using g2, rfl⟩
    · cases h

def leafFs (lk : TypeId → Option (List (Option IntKind))) (n : TypeId → Nat) : List Field → Nat → Option (List (Option IntKind))
  | [], _ => some []
  | f :: r, o => match lk f.type, leafFs lk n r (o + n f.type) with
    | some l, some ls => if f.offset = o ∧ l.length = n f.type then some (l ++ ls) else none
    | _, _ => none
def leafK (P : Program) : Nat → TypeId → Option (List (Option IntKind))
  | 0, _ => none
  | d + 1, t => match P.underlying t with
    | some .bool => some [none]
    | some (.int q) => some [some q]
    | some (.array n e) => match leafK P d e with
      | some l => if l.length = P.cellsOf e ∧ n * l.length = P.cellsOf t then some (List.replicate n l).flatten else none
      | none => none
    | some (.struct fs) => match leafFs (leafK P d) P.cellsOf fs.toList 0 with
      | some l => if l.length = P.cellsOf t ∧ fs.all (·.name != "_") = true then some l else none
      | none => none
    | _ => none

theorem keyLits_fields {P : Program} {d : Nat} (ih : ∀ t ks cs ls, leafK P d t = some ks → litsOf ks cs = some ls → P.keyLits d t cs = some ls) :
    ∀ (fs : List Field) (o : Nat) (ks : List (Option IntKind)) (cs : List Value) (ls : List Lit), leafFs (leafK P d) P.cellsOf fs o = some ks → litsOf ks (cs.drop o) = some ls →
      (fs.mapM fun f => P.keyLits d f.type ((cs.drop f.offset).take (P.cellsOf f.type))).map List.flatten = some ls
  | [], o, ks, cs, ls, h, hl => by
    simp only [leafFs] at h; injection h with h; subst h
    cases hc : cs.drop o with
    | nil => rw [hc] at hl; simp [litsOf] at hl; subst hl; simp
    | cons v vs => rw [hc] at hl; simp [litsOf] at hl
  | f :: r, o, ks, cs, ls, h, hl => by
    simp only [leafFs] at h
    split at h
    case h_2 => cases h
    rename_i l ls' h1 h2
    split at h
    case isFalse => cases h
    rename_i hc
    injection h with h; subst h
    obtain ⟨l1, l2, g1, g2, rfl⟩ := litsOf_append hl
    have e1 := ih f.type l _ l1 h1 g1
    have e2 := keyLits_fields ih r (o + P.cellsOf f.type) ls' cs l2 h2 (by rw [← hc.2, ← List.drop_drop]; exact g2)
    rw [hc.2] at e1
    simp only [Option.map_eq_some_iff] at e2
    obtain ⟨rs, e2, e3⟩ := e2
    simp only [List.mapM_cons, hc.1, e1, e2, Option.bind_eq_bind, Option.bind_some, Option.pure_def, Option.map_some, List.flatten_cons, e3]

theorem keyLits_rows {P : Program} {d : Nat} {e : TypeId} {l : List (Option IntKind)} (ih : ∀ cs ls, litsOf l cs = some ls → P.keyLits d e cs = some ls) (hl : l.length = P.cellsOf e) :
    ∀ (n k : Nat) (cs : List Value) (ls : List Lit), litsOf (List.replicate n l).flatten (cs.drop (k * P.cellsOf e)) = some ls →
      ((List.range' k n).mapM fun i => P.keyLits d e ((cs.drop (i * P.cellsOf e)).take (P.cellsOf e))).map List.flatten = some ls
  | 0, k, cs, ls, h => by
    simp only [List.replicate_zero, List.flatten_nil] at h
    cases hc : cs.drop (k * P.cellsOf e) with
    | nil => rw [hc] at h; simp [litsOf] at h; subst h; simp
    | cons v vs => rw [hc] at h; simp [litsOf] at h
  | n + 1, k, cs, ls, h => by
    rw [List.replicate_succ, List.flatten_cons] at h
    obtain ⟨l1, l2, g1, g2, rfl⟩ := litsOf_append h
    have e1 := ih _ l1 g1
    have e2 := keyLits_rows ih hl n (k + 1) cs l2 (by rw [Nat.add_mul, Nat.one_mul, ← List.drop_drop, ← hl]; rw [← hl] at g2; exact g2)
    rw [hl] at e1
    simp only [Option.map_eq_some_iff] at e2
    obtain ⟨rs, e2, e3⟩ := e2
    simp only [List.range'_succ, List.mapM_cons, e1, e2, Option.bind_eq_bind, Option.bind_some, Option.pure_def, Option.map_some, List.flatten_cons, e3]

theorem keyLits_of {P : Program} : ∀ (d : Nat) (t : TypeId) (ks : List (Option IntKind)) (cs : List Value) (ls : List Lit), leafK P d t = some ks → litsOf ks cs = some ls → P.keyLits d t cs = some ls
  | 0, t, ks, cs, ls, h, _ => by simp [leafK] at h
  | d + 1, t, ks, cs, ls, h, hl => by
    have ih := fun t ks cs ls => keyLits_of (P := P) d t ks cs ls
    simp only [leafK] at h
    split at h
    · rename_i hu
      injection h with h; subst h
      have := litsOf_len hl
      match cs, this with
      | [v], _ =>
        simp only [litsOf, litOf] at hl
        cases v <;> simp at hl
        subst hl
        simp [Program.keyLits, hu]
    · rename_i q hu
      injection h with h; subst h
      have := litsOf_len hl
      match cs, this with
      | [v], _ =>
        simp only [litsOf, litOf] at hl
        cases v <;> simp at hl
        rename_i q' n _
        by_cases hq : q' = q ∧ (Lit.int q n).wf = true
        · rw [if_pos hq] at hl
          simp at hl; subst hl
          simp [Program.keyLits, hu, hq]
        · rw [if_neg hq] at hl; simp at hl
    · rename_i n e hu
      split at h
      case h_2 => cases h
      rename_i l hk
      split at h
      case isFalse => cases h
      rename_i hc
      injection h with h; subst h
      have hlen := litsOf_len hl
      have := keyLits_rows (P := P) (d := d) (e := e) (l := l) (fun cs ls => ih e l cs ls hk) hc.1 n 0 cs ls (by simpa using hl)
      rw [← List.range_eq_range'] at this
      simp only [Program.keyLits, hu]
      rw [if_pos (by rw [hlen, ← hc.2]; simp)]
      exact this
    · rename_i fs hu
      split at h
      case h_2 => cases h
      rename_i l hk
      split at h
      case isFalse => cases h
      rename_i hc
      injection h with h; subst h
      have hlen := litsOf_len hl
      have := keyLits_fields (P := P) (d := d) ih fs.toList 0 l cs ls hk (by simpa using hl)
      simp only [Program.keyLits, hu]
      rw [if_pos ⟨by rw [hlen]; exact hc.1, hc.2⟩]
      exact this
    · cases h
end Go.Abs

namespace Go.Abs
set_option linter.unusedVariables false
open Go.RowKit

/-- operations, with all that is static worked out -/
inductive AOp where
  | mv (x : AOpd)
  | pick (c a b : AOpd)
  | alloc (zero : List AL)
  | box (x : AOpd)
  | build (zero : List AL) (parts : List (Nat × Nat × AOpd))
  | bslice (fz : Bool) (sz len : Nat) (zero : List AL) (parts : List (Nat × AOpd))
  | load (agg : Bool) (sz : Nat) (x : AOpd)
  | store (sz : Nat) (x y : AOpd)
  | nilck (x : AOpd)
  | bin (op : BinOp) (x y : AOpd)
  | un (op : UnOp) (x : AOpd)
  | conv (k : IntKind) (x : AOpd)
  | mkfn (f : Fn) (caps : List AOpd)
  | slc (sz : Nat) (x : AOpd) (lo hi mx : Option AOpd)
  | fadr (off : Nat) (x : AOpd)
  | iadr (sz : Nat) (x i : AOpd)
  | iadrA (n sz : Nat) (x i : AOpd)
  | idxA (n sz : Nat) (agg : Bool) (x i : AOpd)
  | fld (off sz : Nat) (agg : Bool) (x : AOpd)
  | ext (x : AOpd) (i : Nat)
  | app (sz bytes : Nat) (x y : AOpd)
  | mksl (sz bytes : Nat) (zero : List AL) (l c : AOpd)
  | len (x : AOpd)
  | mx (l : List AOpd)
  | mn (l : List AOpd)
  | cp (x : AOpd)
  | isnil (b : Bool) (x : AOpd)
  | eqv (neg : Bool) (ks : List (Option IntKind)) (x y : AOpd)
  | eqb (neg : Bool) (x y : AOpd)
  | mkbm (f : Fn) (x : AOpd)
  | appz (sz bytes : Nat) (zero : List AL) (x n : AOpd)
  | no

/-- literals that are not written any more -/
def AOp.fz (b : Bool) : AOp → AOp
  | .bslice z sz n zero parts => .bslice (z || b) sz n zero parts
  | a => a

abbrev KT := AV → HP → Nat → Prop

def leafs : List AV → Option (List AL)
  | [] => some []
  | .c (.x l) :: r => (leafs r).map (l :: ·)
  | _ :: _ => none

/-- parts filled in -/
def fillA (cells : List AL) : List (Nat × Nat × AV) → Option (List AL)
  | [] => some cells
  | (off, sz, .c c) :: r => if c.cells.length = sz ∧ off + sz ≤ cells.length then fillA (spl cells off c.cells) r else none
  | _ :: _ => none
def fillR (sz : Nat) (rows : List (List AL)) : List (Nat × AV) → Option (List (List AL))
  | [] => some rows
  | (i, .c c) :: r => if c.cells.length = sz ∧ i < rows.length then fillR sz (rows.set i c.cells) r else none
  | _ :: _ => none

/-- whole numbers: what a binary operation gives -/
def binI (op : BinOp) (k : IntKind) (x y : Int) : Option Value :=
  match op with
  | .add => some (.int k (k.wrap (x + y)))
  | .sub => some (.int k (k.wrap (x - y)))
  | .mul => some (.int k (k.wrap (x * y)))
  | .eql => some (.bool (x == y))
  | .neq => some (.bool (x != y))
  | .lss => some (.bool (decide (x < y)))
  | .leq => some (.bool (decide (x ≤ y)))
  | .gtr => some (.bool (decide (x > y)))
  | .geq => some (.bool (decide (x ≥ y)))
  | _ => none

def wrapBits (k : IntKind) (f : BitVec k.bits → BitVec k.bits → BitVec k.bits) (x y : Int) : Int := k.wrap ((f (BitVec.ofInt k.bits x) (BitVec.ofInt k.bits y)).toNat)

def binA (op : BinOp) (x y : AV) (K : AV → Prop) : Prop :=
  match x, y with
  | .c (.x (.v (.int k a))), .c (.x (.v (.int k' b))) =>
    match op with
    | .shl => 0 ≤ b ∧ K (.c (.x (.v (.int k (k.wrap (a * 2 ^ (min b.toNat k.bits)))))))
    | .shr => 0 ≤ b ∧ K (.c (.x (.v (.int k (a.fdiv (2 ^ (min b.toNat k.bits)))))))
    | .quo => k = k' ∧ b ≠ 0 ∧ K (.c (.x (.v (.int k (k.wrap (a.tdiv b))))))
    | .rem => k = k' ∧ b ≠ 0 ∧ K (.c (.x (.v (.int k (a.tmod b)))))
    | .and => k = k' ∧ K (.c (.x (.v (.int k (wrapBits k (· &&& ·) a b)))))
    | .or => k = k' ∧ K (.c (.x (.v (.int k (wrapBits k (· ||| ·) a b)))))
    | .xor => k = k' ∧ K (.c (.x (.v (.int k (wrapBits k (· ^^^ ·) a b)))))
    | .andNot => k = k' ∧ K (.c (.x (.v (.int k (wrapBits k (fun p q => p &&& ~~~q) a b)))))
    | op => k = k' ∧ match binI op k a b with | some v => K (.c (.x (.v v))) | none => False
  | _, _ => False

def unA (op : UnOp) (x : AV) (K : AV → Prop) : Prop :=
  match op, x with
  | .neg, .c (.x (.v (.int k a))) => K (.c (.x (.v (.int k (k.wrap (0 - a))))))
  | .not, .c (.x (.v (.bool b))) => K (.c (.x (.v (.bool (!b)))))
  | _, _ => False

def bnd (tm : Nat → AV) (o : Option AOpd) (d : Nat) (K : Nat → Prop) : Prop :=
  match o with
  | none => K d
  | some x => match x.ev tm with
    | .c (.x (.v (.int _ i))) => 0 ≤ i ∧ K i.toNat
    | _ => False

/-- a slice cut -/
def slcA (sz : Nat) (x : AV) (H : HP) (tm : Nat → AV) (lo hi mx : Option AOpd) (K : AV → Prop) : Prop :=
  match x with
  | .c (.x (.sl clip rows)) =>
    bnd tm lo 0 fun l => bnd tm hi rows.length fun h => bnd tm mx h fun m =>
      (∀ r ∈ rows, r.length = sz) ∧ l ≤ h ∧ h ≤ m ∧ m ≤ rows.length ∧
      K (.c (.x (.sl (if mx.isSome then decide (m = h) else (clip && decide (h = rows.length))) ((rows.drop l).take (h - l)))))
  | .c (.x (.ow id off len clip)) =>
    bnd tm lo 0 fun l => bnd tm hi len fun h => bnd tm mx h fun m =>
      l ≤ h ∧ h ≤ m ∧ m ≤ len ∧ (match H id with | .blk z _ _ _ => z = sz | _ => False) ∧
      K (.c (.x (.ow id (off + l) (h - l) (if mx.isSome then decide (m = h) else (clip && decide (h = len))))))
  | _ => False

def maxA : AV → List AV → Option AV
  | .c (.x (.v (.int k x))), [] => some (.c (.x (.v (.int k x))))
  | .c (.x (.v (.int k x))), .c (.x (.v (.int _ y))) :: r => maxA (.c (.x (.v (.int k (if y > x then y else x))))) r
  | _, _ => none
def minA : AV → List AV → Option AV
  | .c (.x (.v (.int k x))), [] => some (.c (.x (.v (.int k x))))
  | .c (.x (.v (.int k x))), .c (.x (.v (.int _ y))) :: r => minA (.c (.x (.v (.int k (if y < x then y else x))))) r
  | _, _ => none

def pickA (t : Bool) (a b : AV) : AV :=
  match a, b with
  | .c (.x (.v (.bool x))), .c (.x (.v (.bool y))) => .c (.x (.v (.bool (cond t x y))))
  | a, b => if t then a else b

def outF (agg : Bool) (xs : List AL) (K : AV → Prop) : Prop :=
  match agg, xs with
  | true, xs => K (.c (.agg xs))
  | false, [y] => K (.c (.x y))
  | false, _ => False

def iadrF (sz : Nat) (H : HP) (x i : AV) (K : AV → Prop) : Prop :=
  match x, i with
  | .c (.x (.sl _ rows)), .c (.x (.v (.int _ i))) => 0 ≤ i ∧ i.toNat < rows.length ∧ (∀ r ∈ rows, r.length = sz) ∧ K (.c (.x (.fp rows i.toNat 0)))
  | .c (.x (.ow id off len _)), .c (.x (.v (.int _ i))) => 0 ≤ i ∧ i.toNat < len ∧ (match H id with | .blk z _ _ _ => z = sz | _ => False) ∧ K (.c (.x (.pt id (off + i.toNat) 0)))
  | _, _ => False
def iadrAF (n sz : Nat) (x i : AV) (K : AV → Prop) : Prop :=
  match x, i with
  | .c (.x (.pt id row off)), .c (.x (.v (.int _ i))) => 0 ≤ i ∧ i.toNat < n ∧ K (.c (.x (.pt id row (off + i.toNat * sz))))
  | .c (.x (.fp rows row off)), .c (.x (.v (.int _ i))) => 0 ≤ i ∧ i.toNat < n ∧ K (.c (.x (.fp rows row (off + i.toNat * sz))))
  | _, _ => False
def fadrF (off : Nat) (x : AV) (K : AV → Prop) : Prop :=
  match x with
  | .c (.x (.pt id row o)) => K (.c (.x (.pt id row (o + off))))
  | .c (.x (.fp rows row o)) => K (.c (.x (.fp rows row (o + off))))
  | _ => False

/-- cells that are compared -/
def eqA : List (Option IntKind) → List AL → List AL → Bool → (Bool → Prop) → Prop
  | [], [], [], acc, F => F acc
  | none :: ks, .v (.bool a) :: xs, .v (.bool b) :: ys, acc, F => eqA ks xs ys (acc && (a == b)) F
  | some q :: ks, .v (.int q1 a) :: xs, .v (.int q2 b) :: ys, acc, F => q1 = q ∧ q2 = q ∧ (Lit.int q a).wf = true ∧ (Lit.int q b).wf = true ∧ eqA ks xs ys (acc && decide (a = b)) F
  | _, _, _, _, _ => False

/-- what an operation does -/
def aop (ao : AOp) (tm : Nat → AV) (H : HP) (nx : Nat) (K : KT) : Prop :=
  match ao with
  | .mv x => K (x.ev tm) H nx
  | .pick c a b => match c.ev tm with
    | .c (.x (.v (.bool t))) => K (pickA t (a.ev tm) (b.ev tm)) H nx
    | _ => False
  | .alloc zero => K (.c (.x (.pt nx 0 0))) (hset H nx (.blk zero.length [zero] true (zero.all AL.pure))) (nx + 1)
  | .box x => match x.ev tm with
    | .c c => K (.c (.x (.pt nx 0 0))) (hset H nx (.blk c.cells.length [c.cells] true (c.cells.all AL.pure))) (nx + 1)
    | _ => False
  | .build zero parts => match fillA zero (parts.map fun (o, n, x) => (o, n, x.ev tm)) with
    | some cells => K (.c (.agg cells)) H nx
    | none => False
  | .bslice fz sz len zero parts => match fillR sz (List.replicate len zero) (parts.map fun (i, x) => (i, x.ev tm)) with
    | some rows => if fz = true then (rows.all fun r => r.all AL.pure) = true ∧ K (.c (.x (.sl false rows))) H nx else K (.c (.x (.ow nx 0 len false))) (hset H nx (.blk sz rows true (rows.all fun r => r.all AL.pure))) (nx + 1)
    | none => False
  | .load agg sz x => match x.ev tm with
    | .c (.x l) => match ldA H l sz with
      | some xs => outF agg xs fun v => K v H nx
      | none => False
    | _ => False
  | .store sz x y => match x.ev tm, y.ev tm with
    | .c (.x (.pt id row off)), .c c => match H id with
      | .blk z rows true pu => match rows[row]? with
        | some r => c.cells.length = sz ∧ off + c.cells.length ≤ r.length ∧
            K (.tup []) (hset H id (.blk z (rows.set row (spl r off c.cells)) true (pu && c.cells.all AL.pure))) nx
        | none => False
      | _ => False
    | _, _ => False
  | .nilck x => match x.ev tm with
    | .c (.x (.pt id row off)) => K (.c (.x (.pt id row off))) H nx
    | .c (.x (.fp rows row off)) => K (.c (.x (.fp rows row off))) H nx
    | _ => False
  | .bin op x y => binA op (x.ev tm) (y.ev tm) fun v => K v H nx
  | .un op x => unA op (x.ev tm) fun v => K v H nx
  | .conv k x => match x.ev tm with
    | .c (.x (.v (.int _ n))) => K (.c (.x (.v (.int k (k.wrap n))))) H nx
    | _ => False
  | .mkfn f caps => match leafs (caps.map (·.ev tm)) with
    | some xs => K (.c (.x (.fn f xs))) H nx
    | none => False
  | .slc sz x lo hi mx => slcA sz (x.ev tm) H tm lo hi mx fun v => K v H nx
  | .fadr off x => fadrF off (x.ev tm) fun v => K v H nx
  | .iadr sz x i => iadrF sz H (x.ev tm) (i.ev tm) fun v => K v H nx
  | .iadrA n sz x i => iadrAF n sz (x.ev tm) (i.ev tm) fun v => K v H nx
  | .idxA n sz agg x i => match x.ev tm, i.ev tm with
    | .c (.agg cs), .c (.x (.v (.int _ i))) => 0 ≤ i ∧ i.toNat < n ∧ (match rowA cs (i.toNat * sz) sz with
      | some xs => outF agg xs fun v => K v H nx
      | none => False)
    | _, _ => False
  | .fld off sz agg x => match x.ev tm with
    | .c (.agg cs) => match rowA cs off sz with
      | some xs => outF agg xs fun v => K v H nx
      | none => False
    | _ => False
  | .ext x i => match x.ev tm with
    | .tup xs => match xs[i]? with
      | some c => K (.c c) H nx
      | none => False
    | _ => False
  | .app sz bytes x y => match x.ev tm, y.ev tm with
    | .c (.x (.sl true [])), .c (.x y) => match srcA H y with
      | some (srows, sp) => (∀ r ∈ srows, r.length = sz) ∧ srows.length * bytes ≤ 140737488355328 ∧ srows.length ≤ 4611686018427387904 ∧
          K (.c (.x (.ow nx 0 srows.length false))) (hset H nx (.blk sz srows true sp)) (nx + 1)
      | none => False
    | .c (.x (.ow id off len _)), .c (.x y) => match H id, srcA H y with
      | .blk z rows true p, some (srows, sp) => z = sz ∧ off + len ≤ rows.length ∧ (∀ r ∈ srows, r.length = sz) ∧ (len + srows.length) * bytes ≤ 140737488355328 ∧ len + srows.length ≤ 4611686018427387904 ∧
          K (.c (.x (.ow nx 0 (len + srows.length) false))) (hset (hset H id .none) nx (.blk sz ((rows.drop off).take len ++ srows) true (p && sp))) (nx + 1)
      | _, _ => False
    | _, _ => False
  | .mksl sz bytes zero l c => match l.ev tm, c.ev tm with
    | .c (.x (.v (.int .i64 l))), .c (.x (.v (.int .i64 c))) => l = c ∧ 0 ≤ l ∧ l * bytes ≤ 140737488355328 ∧ l ≤ 4611686018427387904 ∧
        K (.c (.x (.ow nx 0 l.toNat false))) (hset H nx (.blk sz (List.replicate l.toNat zero) true (zero.all AL.pure))) (nx + 1)
    | _, _ => False
  | .len x => match x.ev tm with
    | .c (.x (.sl _ rows)) => K (.c (.x (.v (.int .i64 rows.length)))) H nx
    | .c (.x (.ow _ _ len _)) => K (.c (.x (.v (.int .i64 len)))) H nx
    | _ => False
  | .mx l => match l.map (·.ev tm) with
    | [] => False
    | x :: r => match maxA x r with | some v => K v H nx | none => False
  | .mn l => match l.map (·.ev tm) with
    | [] => False
    | x :: r => match minA x r with | some v => K v H nx | none => False
  | .cp x => match x.ev tm with
    | .c (.x (.sl true rows)) => K (.c (.x (.v (.int .i64 rows.length)))) H nx
    | _ => False
  | .isnil b x => match x.ev tm with
    | .c (.x (.sl _ rows)) => (rows = [] → K (.c (.x (.v (.bool b)))) H nx) ∧ K (.c (.x (.v (.bool (!b))))) H nx
    | .c (.x (.ow _ _ len _)) => (len = 0 → K (.c (.x (.v (.bool b)))) H nx) ∧ K (.c (.x (.v (.bool (!b))))) H nx
    | _ => False
  | .eqv neg ks x y => match x.ev tm, y.ev tm with
    | .c (.agg a), .c (.agg b) => eqA ks a b true fun r => K (.c (.x (.v (.bool (r != neg))))) H nx
    | _, _ => False
  | .eqb neg x y => match x.ev tm, y.ev tm with
    | .c (.x (.v (.bool a))), .c (.x (.v (.bool b))) => K (.c (.x (.v (.bool ((a == b) != neg))))) H nx
    | _, _ => False
  | .mkbm f x => match x.ev tm with
    | .c (.agg xs) => K (.c (.x (.bm f xs))) H nx
    | _ => False
  | .appz sz bytes zero x n => match x.ev tm, n.ev tm with
    | .c (.x (.sl true [])), .c (.x (.v (.int .i64 n))) => 0 ≤ n ∧ n * bytes ≤ 140737488355328 ∧ n ≤ 4611686018427387904 ∧
        K (.c (.x (.ow nx 0 n.toNat false))) (hset H nx (.blk sz (List.replicate n.toNat zero) true (zero.all AL.pure))) (nx + 1)
    | _, _ => False
  | .no => False

/-! ### compiling -/
def zeroA (P : Program) (t : TypeId) : Option (List AL) :=
  match P.info? t with
  | some i => match i.zero with
    | some z => if z.cells.size = i.size ∧ z.cells.toList.all (·.oneCell') = true then some (z.cells.toList.map cellA) else none
    | none => none
  | none => none

def szA (P : Program) (t : TypeId) : Option Nat := (P.info? t).map (·.size)
def aggA (P : Program) (t : TypeId) : Option Bool :=
  match P.underlying t with
  | some (.struct _) | some (.array _ _) => some true
  | some _ => some false
  | none => none

def opds (l : List Operand) : Option (List AOpd) := l.mapM opd
def opdO : Option Operand → Option (Option AOpd)
  | none => some none
  | some x => (opd x).map some

def compB (P : Program) (b : Builtin) (argTypes : Array TypeId) (args : Array Operand) : Option AOp :=
  match b, argTypes.toList, args.toList with
  | .len, [t], [x] => match P.underlying t with
    | some (.slice _) => do some (.len (← opd x))
    | _ => none
  | .cap, [t], [x] => match P.underlying t with
    | some (.slice _) => do some (.cp (← opd x))
    | _ => none
  | .append, [t, tx], [x, y] => match P.underlying t, P.underlying tx with
    | some (.slice e), some (.slice _) => do
      let i ← P.info? e
      let _ ← zeroA P e
      some (.app i.size i.bytes (← opd x) (← opd y))
    | some (.slice e), some (.int _) => do
      let i ← P.info? e
      let z ← zeroA P e
      if i.size = 0 then none else some (.appz i.size i.bytes z (← opd x) (← opd y))
    | _, _ => none
  | .max, _, l => do some (.mx (← opds l))
  | .min, _, l => do some (.mn (← opds l))
  | _, _, _ => none

def compOp (P : Program) (op : Op) : Option AOp :=
  match op with
  | .move x | .assign x => (opd x).map .mv
  | .pick c a b => do some (.pick (← opd c) (← opd a) (← opd b))
  | .alloc t => do
    let z ← zeroA P t
    if z.length = 0 then none else some (.alloc z)
  | .box _ x => do some (.box (← opd x))
  | .build t parts => match P.underlying t with
    | some (.struct fields) => do
      let z ← zeroA P t
      let _ ← fields.toList.mapM (fun f => (P.info? f.type).map fun i => (f.offset, i.size))
      let ps ← parts.toList.mapM fun (i, x) => do
        let f ← fields[i]?
        some (f.offset, ← szA P f.type, ← opd x)
      some (.build z ps)
    | some (.array _ e) => do
      let z ← zeroA P t
      let sz ← szA P e
      let ps ← parts.toList.mapM fun (i, x) => do some (i * sz, sz, ← opd x)
      some (.build z ps)
    | _ => none
  | .buildSlice t len parts => match P.underlying t with
    | some (.slice e) => do
      let z ← zeroA P e
      let sz ← szA P e
      let ps ← parts.toList.mapM fun (i, x) => do some (i, ← opd x)
      if len * sz ≤ 16777216 ∧ sz ≠ 0 then some (.bslice false sz len z ps) else none
    | _ => none
  | .load t x => do
    let sz ← szA P t
    if sz = 0 then none else some (.load (← aggA P t) sz (← opd x))
  | .store t x y => do
    let sz ← szA P t
    if sz = 0 then none else some (.store sz (← opd x) (← opd y))
  | .nilCheck x => do some (.nilck (← opd x))
  | .binOp op xt x y _ => match P.underlying xt, op, y with
    | some (.slice _), .eql, .const (.slice none 0 0) => do some (.isnil true (← opd x))
    | some (.slice _), .neq, .const (.slice none 0 0) => do some (.isnil false (← opd x))
    | some .bool, .eql, y => do some (.eqb false (← opd x) (← opd y))
    | some .bool, .neq, y => do some (.eqb true (← opd x) (← opd y))
    | some (.struct _), .eql, y => do
      let ks ← leafK P 9 xt
      if P.eqGuardType P.depth xt = false ∧ P.keyTypeAt 9 xt = true then some (.eqv false ks (← opd x) (← opd y)) else none
    | some (.struct _), .neq, y => do
      let ks ← leafK P 9 xt
      if P.eqGuardType P.depth xt = false ∧ P.keyTypeAt 9 xt = true then some (.eqv true ks (← opd x) (← opd y)) else none
    | some (.array _ _), .eql, y => do
      let ks ← leafK P 9 xt
      if P.eqGuardType P.depth xt = false ∧ P.keyTypeAt 9 xt = true then some (.eqv false ks (← opd x) (← opd y)) else none
    | some (.array _ _), .neq, y => do
      let ks ← leafK P 9 xt
      if P.eqGuardType P.depth xt = false ∧ P.keyTypeAt 9 xt = true then some (.eqv true ks (← opd x) (← opd y)) else none
    | _, _, _ => do some (.bin op (← opd x) (← opd y))
  | .unOp op _ x => do some (.un op (← opd x))
  | .convert s d x => match P.underlying s, P.underlying d with
    | some (.int _), some (.int k) => do some (.conv k (← opd x))
    | _, _ => none
  | .makeFunc f first caps => if first.size = 0 then do some (.mkfn f (← opds caps.toList)) else
      match first.toList with
      | [x] => if caps.size = 0 then do some (.mkbm f (← opd x)) else none
      | _ => none
  | .slice t x lo hi mx => match P.underlying t with
    | some (.slice e) => do
      let sz ← szA P e
      let x ← opd x
      let l ← opdO lo
      let h ← opdO hi
      let m ← opdO mx
      if mx.isSome → hi.isSome then some (.slc sz x l h m) else none
    | _ => none
  | .fieldAddr t x f => match P.underlying t with
    | some (.struct fields) => do
      let fd ← fields[f]?
      let sz ← szA P fd.type
      if sz = 0 then none else some (.fadr fd.offset (← opd x))
    | _ => none
  | .field t x f => match P.underlying t with
    | some (.struct fields) => do
      let fd ← fields[f]?
      some (.fld fd.offset (← szA P fd.type) (← aggA P fd.type) (← opd x))
    | _ => none
  | .indexAddr t x i => match P.underlying t with
    | some (.slice e) => do some (.iadr (← szA P e) (← opd x) (← opd i))
    | some (.array n e) => do some (.iadrA n (← szA P e) (← opd x) (← opd i))
    | _ => none
  | .index t x i => match P.underlying t with
    | some (.array n e) => do some (.idxA n (← szA P e) (← aggA P e) (← opd x) (← opd i))
    | _ => none
  | .extract x i => do some (.ext (← opd x) i)
  | .makeSlice t l c => match P.underlying t with
    | some (.slice e) => do
      let z ← zeroA P e
      let i ← P.info? e
      if i.size = 0 then none else some (.mksl i.size i.bytes z (← opd l) (← opd c))
    | _ => none
  | .call { callee := .builtin b, args, argTypes } => compB P b argTypes args
  | _ => none
end Go.Abs

namespace Go.Abs
set_option linter.unusedVariables false
open Go.RowKit

section
variable {ι ι' : IM} {ok ok' : Nat → Prop} {H H' : HP} {nx nx' : Nat} {w w' : World} {P : Program} {N : Nat × Nat} {s s' : St} {a a' : Act} {K : KT}

/-- what is to be shown of an operation -/
def OpS (P : Program) (ι : IM) (ok : Nat → Prop) (s : St) (w : World) (sem : Sem Next) (K : KT) : Prop :=
  ∃ v w' x hp nx' ι' ok', (sem.run P w = .ok (.value v) w' ∨ (sem.run P w = .ok .skip w' ∧ v = undef)) ∧ K x hp nx' ∧ HSat ι' ok' hp nx' w' ∧ Ext ι ok s.hp s.nx w ι' ok' hp w' ∧ RepV ok' w' ι' v x ∧ s.nx ≤ nx'

theorem OpS.val (hs : Sat N ι ok s a w) {sem : Sem Value} {v : Value} {x : AV} (hrun : sem.run P w = .ok v w) (hv : RepV ok w ι v x) (hK : K x s.hp s.nx) :
    OpS P ι ok s w (do pure (.value (← sem))) K :=
  ⟨v, w, x, s.hp, s.nx, ι, ok, .inl (by simp [hrun]), hK, hs.hs, .refl, hv, Nat.le_refl _⟩

theorem OpS.of {sem : Sem Value} {v : Value} {w' : World} {x : AV} {hp : HP} {nx' : Nat} {ι' : IM} {ok' : Nat → Prop} (hrun : sem.run P w = .ok v w') (hK : K x hp nx') (h1 : HSat ι' ok' hp nx' w') (h2 : Ext ι ok s.hp s.nx w ι' ok' hp w') (h3 : RepV ok' w' ι' v x) (h4 : s.nx ≤ nx') :
    OpS P ι ok s w (do pure (.value (← sem))) K :=
  ⟨v, w', x, hp, nx', ι', ok', .inl (by simp [hrun]), hK, h1, h2, h3, h4⟩

theorem zeroA_spec {t : TypeId} {zs : List AL} (h : zeroA P t = some zs) : ∃ i z, P.info? t = some i ∧ i.zero = some z ∧ z.cells.size = i.size ∧ zs = z.cells.toList.map cellA ∧ (∀ v ∈ z.cells.toList, v.oneCell' = true) ∧ zs.length = i.size := by
  unfold zeroA at h
  cases hi : P.info? t with
  | none => simp [hi] at h
  | some i =>
    cases hz : i.zero with
    | none => simp [hi, hz] at h
    | some z =>
      simp only [hi, hz] at h
      split at h
      · rename_i hc
        injection h with h; subst h
        exact ⟨i, z, rfl, hz, hc.1, rfl, by simpa only [List.all_eq_true] using hc.2, by simpa using hc.1⟩
      · cases h

theorem szA_spec {t : TypeId} {n : Nat} (h : szA P t = some n) : ∃ i, P.info? t = some i ∧ i.size = n := by
  unfold szA at h
  cases hi : P.info? t with
  | none => simp [hi] at h
  | some i => simp [hi] at h; exact ⟨i, rfl, h⟩

theorem aggA_spec {t : TypeId} {b : Bool} (h : aggA P t = some b) : ∃ d, P.underlying t = some d ∧ d.isRow = b := by
  unfold aggA at h
  split at h
  · rename_i hu; injection h with h; exact ⟨_, hu, by rw [← h]⟩
  · rename_i hu; injection h with h; exact ⟨_, hu, by rw [← h]⟩
  · rename_i d h1 h2 hu
    injection h with h
    refine ⟨d, hu, ?_⟩
    rw [← h]
    cases d <;> first | rfl | exact (h1 _ rfl).elim | exact (h2 _ _ rfl).elim
  · cases h

/-! ### loads and stores -/
theorem run_load_one (w : World) (b o : Nat) (ty : TypeId) (v : Value) (d : TypeDesc) (hc : w.cell? ⟨b, o, none⟩ = some v) (hu : P.underlying ty = some d) (hd : d.isRow = false) :
    (Instr.loadAt ty (.pointer (some ⟨b, o, none⟩))).run P w = .ok v w := by
  have hagg : (isAgg ty).run P w = .ok false w := by
    unfold isAgg
    rw [Sem.run_bind, run_underlying hu w]
    cases d <;> simp_all
  simp [Instr.loadAt, Instr.sureAddr, loadVar, hagg, hc]

theorem load_sound (hs : Sat N ι ok s a w) {t : TypeId} {sz : Nat} {agg : Bool} (hsz : szA P t = some sz) (hagg : aggA P t = some agg) (hn : sz ≠ 0) {v : Value} {l : AL} {xs : List AL} (hv : RepL ok w ι v l) (h : ldA s.hp l sz = some xs) :
    ∃ u, (Instr.loadAt t v).run P w = .ok u w ∧ (agg = true → RepV ok w ι u (.c (.agg xs))) ∧ (agg = false → ∀ y, xs = [y] → RepV ok w ι u (.c (.x y))) := by
  obtain ⟨b, o, rfl, cs, hcl, hxl, hcell, hrep⟩ := ldA_sound hs.hs hv h hn
  obtain ⟨d, hu, hd⟩ := aggA_spec hagg
  obtain ⟨i, hi, his⟩ := szA_spec hsz
  cases hdr : d.isRow with
  | true =>
    refine ⟨.agg cs.toArray, run_loadAt_mid (P := P) w b o t cs d (fun j v hj => hcell j v hj) hu hdr (by rw [hi]; simp [his, hcl]), fun _ => .c (.agg (by omega) hrep), fun ha => ?_⟩
    rw [hdr] at hd; rw [← hd] at ha; cases ha
  | false =>
    cases cs with
    | nil => simp at hcl; omega
    | cons c0 cs' =>
      refine ⟨c0, run_load_one w b o t c0 d (by simpa using hcell 0 c0 rfl) hu hdr, fun ha => ?_, fun _ y hy => ?_⟩
      · rw [hdr] at hd; rw [← hd] at ha; cases ha
      · subst hy
        exact .c (.x (hrep 0 c0 y rfl rfl))

theorem store_sound (hs : Sat N ι ok s a w) {t : TypeId} {sz : Nat} (hsz : szA P t = some sz) (hn : sz ≠ 0) {v u : Value} {id row off z : Nat} {rows : List (List AL)} {pu : Bool} {r : List AL} {c : AC}
    (hv : RepL ok w ι v (.pt id row off)) (hu : RepC ok w ι u c) (hH : s.hp id = .blk z rows true pu) (hr : rows[row]? = some r) (hcs : c.cells.length = sz) (hle : off + c.cells.length ≤ r.length) :
    ∃ w', (Instr.storeAt t v u).run P w = .ok () w' ∧ HSat ι ok (hset s.hp id (.blk z (rows.set row (spl r off c.cells)) true (pu && c.cells.all AL.pure))) s.nx w' ∧
      Ext ι ok s.hp s.nx w ι ok (hset s.hp id (.blk z (rows.set row (spl r off c.cells)) true (pu && c.cells.all AL.pure))) w' := by
  obtain ⟨hl, hrep⟩ := hu.cellsOf
  obtain ⟨b, o, rfl, h1, h2, h3, h4, h5⟩ := st_sound hs.hs hv hH hr hle (by omega) hl hrep
  obtain ⟨i, hi, his⟩ := szA_spec hsz
  have hst := run_storeCells_cells (P := P) b o u.cells.toList 0 w (by simpa using h1) (by simpa using h2) h3
  refine ⟨_, ?_, h4, h5⟩
  have hss : u.cells.size = i.size := by
    have : u.cells.toList.length = u.cells.size := by simp
    omega
  simp only [Instr.storeAt, Instr.sureAddr, storeVar, Sem.run_bind, Sem.run_pure, Result.andThen_ok, sizeOf, typeInfo, run_program, hi, hss]
  simpa using hst

/-! ### building -/
def RepRow (ok : Nat → Prop) (w : World) (ι : IM) (cs : Array Value) (xs : List AL) : Prop := cs.size = xs.length ∧ ∀ (i : Nat) (u : Value) (x : AL), cs[i]? = some u → xs[i]? = some x → RepL ok w ι u x

theorem fill_sound {place : Nat → Option (Nat × Nat)} : ∀ (parts : List (Nat × Value)) (ps : List (Nat × Nat × AV)) (cells : Array Value) (xs ys : List AL), RepRow ok w ι cells xs →
    parts.length = ps.length → (∀ (j : Nat) (p : Nat × Value) (q : Nat × Nat × AV), parts[j]? = some p → ps[j]? = some q → place p.1 = some (q.1, q.2.1) ∧ RepV ok w ι p.2 q.2.2) →
    fillA xs ps = some ys → ∃ r, Instr.fill place cells parts = some r ∧ RepRow ok w ι r ys
  | [], [], cells, xs, ys, hc, _, _, h => by
    simp only [fillA] at h; injection h with h; subst h
    exact ⟨cells, rfl, hc⟩
  | [], _ :: _, _, _, _, _, hl, _, _ => by simp at hl
  | _ :: _, [], _, _, _, _, hl, _, _ => by simp at hl
  | (i, v) :: parts, (off, sz, q) :: ps, cells, xs, ys, hc, hl, hp, h => by
    obtain ⟨hpl, hv⟩ := hp 0 (i, v) (off, sz, q) rfl rfl
    simp only at hpl hv
    cases q with
    | any => simp [fillA] at h
    | tup _ => simp [fillA] at h
    | c c =>
      simp only [fillA] at h
      split at h
      · rename_i hcond
        obtain ⟨hsz, hle⟩ := hcond
        obtain ⟨hcl, hrep⟩ := hv.comp.cellsOf
        have hvs : v.cells.size = sz := by
          have : v.cells.toList.length = v.cells.size := by simp
          omega
        obtain ⟨g1, g2⟩ := Great.foldl_set off v.cells.toList 0 cells
        have hrow : RepRow ok w ι ((v.cells.toList.zipIdx 0).foldl (fun cs (x : Value × Nat) => cs.setIfInBounds (off + x.2) x.1) cells) (spl xs off c.cells) := by
          refine ⟨by rw [g1, spl_length (by rw [hsz]; exact hle), hc.1], fun j u x hu hx => ?_⟩
          rw [g2] at hu
          rw [spl_get (by rw [hsz]; exact hle)] at hx
          have hcs := hc.1
          by_cases hin : off ≤ j ∧ j < off + c.cells.length
          · rw [if_pos hin] at hx
            rw [if_pos (by omega)] at hu
            exact hrep (j - off) u x (by simpa using hu) hx
          · rw [if_neg hin] at hx
            rw [if_neg (by omega)] at hu
            exact hc.2 j u x hu hx
        obtain ⟨r, hr, hrr⟩ := fill_sound parts ps _ _ ys hrow (by simpa using hl) (fun j p q h1 h2 => hp (j + 1) p q (by simpa using h1) (by simpa using h2)) h
        refine ⟨r, ?_, hrr⟩
        unfold Instr.fill
        simp only [hpl, hvs]
        rw [if_neg (by have := hc.1; simp; omega)]
        rw [← hr]
        congr 1
        rw [← Array.foldl_toList, Array.toList_zipIdx]
      · cases h

/-- rows that lie side by side in an array -/
def RepRows (ok : Nat → Prop) (w : World) (ι : IM) (sz : Nat) (C : Array Value) (rows : List (List AL)) : Prop :=
  C.size = rows.length * sz ∧ (∀ r ∈ rows, r.length = sz) ∧ ∀ (i j : Nat) (r : List AL) (x : AL), rows[i]? = some r → r[j]? = some x → ∃ u, C[i * sz + j]? = some u ∧ RepL ok w ι u x

theorem fillR_sound {sz : Nat} : ∀ (parts : List (Nat × Value)) (ps : List (Nat × AV)) (C : Array Value) (rows rows' : List (List AL)), RepRows ok w ι sz C rows →
    parts.length = ps.length → (∀ (j : Nat) (p : Nat × Value) (q : Nat × AV), parts[j]? = some p → ps[j]? = some q → p.1 = q.1 ∧ RepV ok w ι p.2 q.2) →
    fillR sz rows ps = some rows' → ∃ r, Instr.fill (fun i => some (i * sz, sz)) C parts = some r ∧ RepRows ok w ι sz r rows' ∧ rows'.length = rows.length
  | [], [], C, rows, rows', hc, _, _, h => by
    simp only [fillR] at h; injection h with h; subst h
    exact ⟨C, rfl, hc, rfl⟩
  | [], _ :: _, _, _, _, _, hl, _, _ => by simp at hl
  | _ :: _, [], _, _, _, _, hl, _, _ => by simp at hl
  | (i, v) :: parts, (i', q) :: ps, C, rows, rows', hc, hl, hp, h => by
    obtain ⟨hii, hv⟩ := hp 0 (i, v) (i', q) rfl rfl
    simp only at hii hv
    subst hii
    cases q with
    | any => simp [fillR] at h
    | tup _ => simp [fillR] at h
    | c c =>
      simp only [fillR] at h
      split at h
      · rename_i hcond
        obtain ⟨hsz, hlt⟩ := hcond
        obtain ⟨hcl, hrep⟩ := hv.comp.cellsOf
        obtain ⟨c1, c2, c3⟩ := hc
        have hvs : v.cells.size = sz := by
          have : v.cells.toList.length = v.cells.size := by simp
          omega
        have hle : i * sz + sz ≤ C.size := by
          rw [c1]
          have : (i + 1) * sz ≤ rows.length * sz := Nat.mul_le_mul_right _ hlt
          rw [Nat.add_mul] at this; omega
        obtain ⟨g1, g2⟩ := Great.foldl_set (i * sz) v.cells.toList 0 C
        have hrow : RepRows ok w ι sz ((v.cells.toList.zipIdx 0).foldl (fun cs (x : Value × Nat) => cs.setIfInBounds (i * sz + x.2) x.1) C) (rows.set i c.cells) := by
          refine ⟨by rw [g1, c1]; simp, fun r hr => ?_, fun k j r x hr hx => ?_⟩
          · rcases List.mem_or_eq_of_mem_set hr with h | h
            · exact c2 r h
            · rw [h, hsz]
          · have hj : j < sz := by
              have hj := (List.getElem?_eq_some_iff.1 hx).1
              rcases List.mem_or_eq_of_mem_set (List.mem_of_getElem? hr) with h | h
              · rw [c2 r h] at hj; exact hj
              · rw [h, hsz] at hj; exact hj
            by_cases hki : k = i
            · subst hki
              rw [List.getElem?_set_self hlt] at hr
              injection hr with hr; subst hr
              have hjv : j < v.cells.toList.length := by omega
              refine ⟨v.cells.toList[j], ?_, hrep j _ x (List.getElem?_eq_getElem hjv) hx⟩
              rw [g2, if_pos (by omega)]
              rw [show k * sz + j - (k * sz + 0) = j by omega]
              exact List.getElem?_eq_getElem hjv
            · rw [List.getElem?_set_ne (Ne.symm hki)] at hr
              obtain ⟨u, hu, hru⟩ := c3 k j r x hr hx
              refine ⟨u, ?_, hru⟩
              rw [g2, if_neg, hu]
              rcases Nat.lt_or_gt_of_ne hki with h | h
              · have : (k + 1) * sz ≤ i * sz := Nat.mul_le_mul_right _ h
                rw [Nat.add_mul] at this; omega
              · have : (i + 1) * sz ≤ k * sz := Nat.mul_le_mul_right _ h
                rw [Nat.add_mul] at this
                have : v.cells.toList.length = v.cells.size := by simp
                omega
        obtain ⟨r, hr, hrr, hlen⟩ := fillR_sound parts ps _ _ rows' hrow (by simpa using hl) (fun j p q h1 h2 => hp (j + 1) p q (by simpa using h1) (by simpa using h2)) h
        refine ⟨r, ?_, hrr, by rw [hlen]; simp⟩
        unfold Instr.fill
        simp only [hvs]
        rw [if_neg (by simp; omega)]
        rw [← hr]
        congr 1
        rw [← Array.foldl_toList, Array.toList_zipIdx]
      · cases h
end
end Go.Abs

namespace Go.Abs
set_option linter.unusedVariables false
open Go.RowKit

section
variable {ι ι' : IM} {ok ok' : Nat → Prop} {H H' : HP} {nx nx' : Nat} {w w' : World} {P : Program} {N : Nat × Nat} {s s' : St} {a a' : Act} {K : KT}

theorem opds_sound : ∀ {l : List Operand} {xs : List AOpd}, opds l = some xs → Sat N ι ok s a w → xs.length = l.length ∧ ∀ (i : Nat) (o : Operand) (x : AOpd), l[i]? = some o → xs[i]? = some x → RepV ok w ι (a.eval o) (x.ev s.tm) := by
  intro l
  induction l with
  | nil => intro xs h hs; simp [opds] at h; subst h; exact ⟨rfl, by simp⟩
  | cons o l ih =>
    intro xs h hs
    simp only [opds, List.mapM_cons, Option.bind_eq_bind, Option.pure_def, Option.bind_eq_some_iff] at h
    obtain ⟨x, hx, xs', hxs, h⟩ := h
    injection h with h; subst h
    obtain ⟨h1, h2⟩ := ih (xs := xs') hxs hs
    refine ⟨by simp [h1], fun i o' x' h3 h4 => ?_⟩
    cases i with
    | zero => simp at h3 h4; subst h3 h4; exact opd_sound hx hs
    | succ i => exact h2 i o' x' (by simpa using h3) (by simpa using h4)

/-- one block of one row -/
theorem new_row (hs : Sat N ι ok s a w) (C : Array Value) (t : TypeId) (xs : List AL) (hl : C.toList.length = xs.length) (hrep : ∀ (i : Nat) (u : Value) (x : AL), C.toList[i]? = some u → xs[i]? = some x → RepL ok w ι u x) :
    HSat (imset ι s.nx ⟨some w.heap.size, 0, xs.length, 1⟩) ok (hset s.hp s.nx (.blk xs.length [xs] true (xs.all AL.pure))) (s.nx + 1) (w.alloc (.cells C t)) ∧
    Ext ι ok s.hp s.nx w (imset ι s.nx ⟨some w.heap.size, 0, xs.length, 1⟩) ok (hset s.hp s.nx (.blk xs.length [xs] true (xs.all AL.pure))) (w.alloc (.cells C t)) ∧
    RepV ok (w.alloc (.cells C t)) (imset ι s.nx ⟨some w.heap.size, 0, xs.length, 1⟩) (.pointer (some ⟨w.heap.size, 0, none⟩)) (.c (.x (.pt s.nx 0 0))) := by
  obtain ⟨f1, f2⟩ := hs.hs.fresh s.nx (Nat.le_refl _)
  refine ⟨new_sound hs.hs f1 f2 (Nat.lt_succ_self _) (Nat.le_succ _) C t [xs] (xs.all AL.pure) (by simp) (by simp) (by simp at hl; simp [hl]) (fun i j r x hr hx => ?_), new_ext f1 (Nat.le_refl _) C t [xs] _, ?_⟩
  · cases i with
    | zero =>
      simp at hr; subst hr
      have hj := (List.getElem?_eq_some_iff.1 hx).1
      have hjc : j < C.toList.length := by omega
      refine ⟨C.toList[j], by simp, (hrep j _ x (List.getElem?_eq_getElem hjc) hx).pim_in fun hp => ?_⟩
      rw [List.all_eq_true] at hp
      exact hp x (List.mem_of_getElem? hx)
    | succ i => simp at hr
  · have := RepL.pt (ok := ok) (w := w.alloc (.cells C t)) (imset ι s.nx ⟨some w.heap.size, 0, xs.length, 1⟩) s.nx 0 0 _ w.heap.size (imset_same _ _ _) rfl
    simp only [Nat.zero_mul, Nat.add_zero] at this
    exact .c (.x this)

theorem op_alloc (hs : Sat N ι ok s a w) {t : TypeId} {zs : List AL} (hz : zeroA P t = some zs)
    (hK : K (.c (.x (.pt s.nx 0 0))) (hset s.hp s.nx (.blk zs.length [zs] true (zs.all AL.pure))) (s.nx + 1)) : OpS P ι ok s w (do pure (.value (← Instr.alloc t true (.tuple #[])))) K := by
  obtain ⟨i, z, hi, hzz, hsz, rfl, hone, hlen⟩ := zeroA_spec hz
  obtain ⟨h1, h2, h3⟩ := new_row hs z.cells t (z.cells.toList.map cellA) (by simp) (cells_rep hone)
  refine OpS.of ?_ hK h1 h2 h3 (Nat.le_succ _)
  simp [Instr.alloc, zeroValue, typeInfo, hi, hzz, newVar, newRow]

theorem op_box (hs : Sat N ι ok s a w) {t : TypeId} {v : Value} {c : AC} (hv : RepC ok w ι v c)
    (hK : K (.c (.x (.pt s.nx 0 0))) (hset s.hp s.nx (.blk c.cells.length [c.cells] true (c.cells.all AL.pure))) (s.nx + 1)) : OpS P ι ok s w (do pure (.value (← Instr.box t v))) K := by
  obtain ⟨hl, hrep⟩ := hv.cellsOf
  obtain ⟨h1, h2, h3⟩ := new_row hs v.cells t c.cells hl hrep
  refine OpS.of ?_ hK h1 h2 h3 (Nat.le_succ _)
  simp [Instr.box, newVar, newRow]

theorem repRow_zero {cs : Array Value} (h : ∀ v ∈ cs.toList, v.oneCell' = true) : RepRow ok w ι cs (cs.toList.map cellA) :=
  ⟨by simp, fun i u x h1 h2 => cells_rep h i u x (by simpa using h1) h2⟩

theorem built_struct {t : TypeId} {fields : Array Field} {i : TypeInfo} {z : Value} (hu : P.underlying t = some (.struct fields)) (hi : P.info? t = some i) (hz : i.zero = some z) {places : List (Nat × Nat)}
    (hp : fields.toList.mapM (fun f => (P.info? f.type).map fun i => (f.offset, i.size)) = some places) (parts : List (Nat × Value)) : P.built t parts = Instr.fill (places.toArray[·]?) z.cells parts := by
  simp [Program.built, hu, hi, hz, hp]

theorem mapM_get {α β : Type} {f : α → Option β} : ∀ {l : List α} {r : List β}, l.mapM f = some r → r.length = l.length ∧ ∀ (i : Nat) (x : α), l[i]? = some x → ∃ y, f x = some y ∧ r[i]? = some y
  | [], r, h => by simp at h; subst h; exact ⟨rfl, by simp⟩
  | a :: l, r, h => by
    simp only [List.mapM_cons, Option.bind_eq_bind, Option.pure_def, Option.bind_eq_some_iff] at h
    obtain ⟨y, hy, r', hr, h⟩ := h
    injection h with h; subst h
    obtain ⟨h1, h2⟩ := mapM_get hr
    refine ⟨by simp [h1], fun i x hx => ?_⟩
    cases i with
    | zero => simp at hx; subst hx; exact ⟨y, hy, rfl⟩
    | succ i => simpa using h2 i x (by simpa using hx)

theorem op_build_struct (hs : Sat N ι ok s a w) {t : TypeId} {fields : Array Field} {zs : List AL} {parts : Array (Nat × Operand)} {ps : List (Nat × Nat × AOpd)} {ys : List AL} (hu : P.underlying t = some (.struct fields)) (hz : zeroA P t = some zs)
    {places : List (Nat × Nat)} (hpl : fields.toList.mapM (fun f => (P.info? f.type).map fun i => (f.offset, i.size)) = some places)
    (hps : parts.toList.mapM (fun (p : Nat × Operand) => do let f ← fields[p.1]?; some (f.offset, ← szA P f.type, ← opd p.2)) = some ps)
    (hf : fillA zs (ps.map fun (o, n, x) => (o, n, x.ev s.tm)) = some ys) (hK : K (.c (.agg ys)) s.hp s.nx) :
    OpS P ι ok s w (do pure (.value (← Instr.build t (parts.map fun (i, x) => (i, a.eval x))))) K := by
  obtain ⟨i, z, hi, hzz, hsz, rfl, hone, hlen⟩ := zeroA_spec hz
  obtain ⟨hl, hg⟩ := mapM_get hps
  obtain ⟨hl2, hg2⟩ := mapM_get hpl
  obtain ⟨r, hr, hrr⟩ := fill_sound (ok := ok) (w := w) (ι := ι) (place := (places.toArray[·]?)) (parts.toList.map fun (p : Nat × Operand) => (p.1, a.eval p.2)) (ps.map fun (o, n, x) => (o, n, x.ev s.tm)) z.cells _ ys (repRow_zero hone)
    (by simp [hl]) (fun j p q h1 h2 => by
      rw [List.getElem?_map] at h1 h2
      cases hj : parts.toList[j]? with
      | none => rw [hj] at h1; cases h1
      | some p0 =>
        obtain ⟨pi, po⟩ := p0
        rw [hj] at h1; injection h1 with h1; subst h1
        obtain ⟨y, hy, hyr⟩ := hg j _ hj
        rw [hyr] at h2; injection h2 with h2; subst h2
        simp only [Option.bind_eq_bind, Option.bind_eq_some_iff] at hy
        obtain ⟨f, hf1, sz, hsz1, xo, hxo, hy⟩ := hy
        injection hy with hy; subst hy
        obtain ⟨pl, hpl1, hpl2⟩ := hg2 pi f (by simpa using hf1)
        obtain ⟨ii, hii, hiis⟩ := szA_spec hsz1
        simp only [hii, Option.map_some] at hpl1
        injection hpl1 with hpl1
        refine ⟨?_, opd_sound hxo hs⟩
        simp only [List.getElem?_toArray, hpl2, ← hpl1, hiis]) hf
  refine OpS.val hs (run_build (P := P) w t _ r ?_) ?_ hK
  · rw [built_struct hu hi hzz hpl]
    rw [← hr]; congr 1; simp
  · have := RepC.agg (ok := ok) (w := w) (ι := ι) (cs := r.toList) (xs := ys) (by simpa using hrr.1) (fun i u x h1 h2 => hrr.2 i u x (by simpa using h1) h2)
    rw [Array.toArray_toList] at this
    exact .c this

theorem op_build_array (hs : Sat N ι ok s a w) {t e : TypeId} {n sz : Nat} {zs : List AL} {parts : Array (Nat × Operand)} {ps : List (Nat × Nat × AOpd)} {ys : List AL} (hu : P.underlying t = some (.array n e)) (hz : zeroA P t = some zs) (hsz : szA P e = some sz)
    (hps : parts.toList.mapM (fun (p : Nat × Operand) => do some (p.1 * sz, sz, ← opd p.2)) = some ps)
    (hf : fillA zs (ps.map fun (o, n, x) => (o, n, x.ev s.tm)) = some ys) (hK : K (.c (.agg ys)) s.hp s.nx) :
    OpS P ι ok s w (do pure (.value (← Instr.build t (parts.map fun (i, x) => (i, a.eval x))))) K := by
  obtain ⟨i, z, hi, hzz, hszz, rfl, hone, hlen⟩ := zeroA_spec hz
  obtain ⟨ie, hie, hies⟩ := szA_spec hsz
  obtain ⟨hl, hg⟩ := mapM_get hps
  obtain ⟨r, hr, hrr⟩ := fill_sound (ok := ok) (w := w) (ι := ι) (place := fun i => some (i * ie.size, ie.size)) (parts.toList.map fun (p : Nat × Operand) => (p.1, a.eval p.2)) (ps.map fun (o, n, x) => (o, n, x.ev s.tm)) z.cells _ ys (repRow_zero hone)
    (by simp [hl]) (fun j p q h1 h2 => by
      rw [List.getElem?_map] at h1 h2
      cases hj : parts.toList[j]? with
      | none => rw [hj] at h1; cases h1
      | some p0 =>
        obtain ⟨pi, po⟩ := p0
        rw [hj] at h1; injection h1 with h1; subst h1
        obtain ⟨y, hy, hyr⟩ := hg j _ hj
        rw [hyr] at h2; injection h2 with h2; subst h2
        simp only [Option.bind_eq_bind, Option.bind_eq_some_iff] at hy
        obtain ⟨xo, hxo, hy⟩ := hy
        injection hy with hy; subst hy
        exact ⟨by simp only [hies], opd_sound hxo hs⟩) hf
  refine OpS.val hs (run_build (P := P) w t _ r ?_) ?_ hK
  · simp only [Program.built, hu, hi, hzz, hie]
    rw [← hr]; congr 1; simp
  · have := RepC.agg (ok := ok) (w := w) (ι := ι) (cs := r.toList) (xs := ys) (by simpa using hrr.1) (fun i u x h1 h2 => hrr.2 i u x (by simpa using h1) h2)
    rw [Array.toArray_toList] at this
    exact .c this

/-- zero rows side by side -/
theorem zero_rows {n sz : Nat} {z : Value} (hz : z.cells.size = sz) (hn : sz ≠ 0) (hone : ∀ v ∈ z.cells.toList, v.oneCell' = true) :
    RepRows ok w ι sz ((Array.range (n * sz)).map (z.cells[· % z.cells.size]!)) (List.replicate n (z.cells.toList.map cellA)) := by
  refine ⟨by simp, fun r hr => ?_, fun i j r x hr hx => ?_⟩
  · rw [List.eq_of_mem_replicate hr]; simp [hz]
  · have hi := (List.getElem?_eq_some_iff.1 hr).1
    have hre := List.eq_of_mem_replicate (List.mem_of_getElem? hr)
    subst hre
    have hj := (List.getElem?_eq_some_iff.1 hx).1
    simp only [List.length_replicate] at hi
    have hj' : j < sz := by simpa [hz] using hj
    have hlt := idx_lt (size := sz) hi hj'
    have hjz : j < z.cells.size := by omega
    refine ⟨z.cells[j], ?_, cells_rep hone j _ x (by simp [hjz]) hx⟩
    rw [Array.getElem?_map]
    have : (Array.range (n * sz))[i * sz + j]? = some (i * sz + j) := by simp [hlt]
    rw [this]
    simp only [Option.map_some]
    rw [hz, Nat.mul_comm i sz, Nat.mul_add_mod, Nat.mod_eq_of_lt hj']
    simp [hjz]

theorem bslice_run (hs : Sat N ι ok s a w) {t e : TypeId} {len sz : Nat} {zs : List AL} {parts : Array (Nat × Operand)} {ps : List (Nat × AOpd)} {rows : List (List AL)} (hu : P.underlying t = some (.slice e)) (hz : zeroA P e = some zs) (hsz : szA P e = some sz)
    (hps : parts.toList.mapM (fun (p : Nat × Operand) => do some (p.1, ← opd p.2)) = some ps) (hsmall : len * sz ≤ 16777216) (hne : sz ≠ 0)
    (hf : fillR sz (List.replicate len zs) (ps.map fun (i, x) => (i, x.ev s.tm)) = some rows) :
    ∃ r : Array Value, RepRows ok w ι sz r rows ∧ rows.length = len ∧ (Instr.buildSlice t len (parts.map fun (i, x) => (i, a.eval x))).run P w = .ok (.slice (some ⟨w.heap.size, 0, none⟩) len len) (w.alloc (.cells r e)) := by
  obtain ⟨i, z, hi, hzz, hszz, rfl, hone, hlen⟩ := zeroA_spec hz
  obtain ⟨ie, hie, hies⟩ := szA_spec hsz
  rw [hi] at hie; injection hie with hie; subst hie; subst hies
  obtain ⟨hl, hg⟩ := mapM_get hps
  obtain ⟨r, hr, hrr, hrl⟩ := fillR_sound (ok := ok) (w := w) (ι := ι) (sz := i.size) (parts.toList.map fun (p : Nat × Operand) => (p.1, a.eval p.2)) (ps.map fun (i, x) => (i, x.ev s.tm)) _ _ rows (zero_rows (n := len) hszz hne hone)
    (by simp [hl]) (fun j p q h1 h2 => by
      rw [List.getElem?_map] at h1 h2
      cases hj : parts.toList[j]? with
      | none => rw [hj] at h1; cases h1
      | some p0 =>
        obtain ⟨pi, po⟩ := p0
        rw [hj] at h1; injection h1 with h1; subst h1
        obtain ⟨y, hy, hyr⟩ := hg j _ hj
        rw [hyr] at h2; injection h2 with h2; subst h2
        simp only [Option.bind_eq_bind, Option.bind_eq_some_iff] at hy
        obtain ⟨xo, hxo, hy⟩ := hy
        injection hy with hy; subst hy
        exact ⟨rfl, opd_sound hxo hs⟩) hf
  simp only [List.length_replicate] at hrl
  refine ⟨r, hrr, hrl, ?_⟩
  by_cases h0 : len = 0
  · subst h0
    have hrow : rows = [] := List.eq_nil_of_length_eq_zero hrl
    have hr0 : r = #[] := by have := hrr.1; rw [hrow] at this; simpa using this
    have hp0 : (ps.map fun (i, x) => (i, AOpd.ev s.tm x)) = [] := by
      cases hps' : (ps.map fun (i, x) => (i, AOpd.ev s.tm x)) with
      | nil => rfl
      | cons q qs =>
        rw [hps'] at hf
        obtain ⟨qi, qa⟩ := q
        cases qa <;> simp [fillR] at hf
    have hpar : parts.toList = [] := List.eq_nil_of_length_eq_zero (by rw [← hl]; simpa using congrArg List.length hp0)
    have hpar' : parts = #[] := by simpa using hpar
    subst hpar'
    simp [Instr.buildSlice, run_underlying hu, sizeOf, typeInfo, hi, Instr.fill, newRow, hr0, Array.range_zero']
  · refine run_buildSlice (P := P) w t e len _ r i z hu hi hzz (by omega) ?_ ?_
    · intro h
      rcases Nat.mul_eq_zero.1 h with h | h
      · exact h0 h
      · exact hne h
    · rw [← hr]; congr 1; simp

theorem op_bslice (hs : Sat N ι ok s a w) {t e : TypeId} {len sz : Nat} {zs : List AL} {parts : Array (Nat × Operand)} {ps : List (Nat × AOpd)} {rows : List (List AL)} (hu : P.underlying t = some (.slice e)) (hz : zeroA P e = some zs) (hsz : szA P e = some sz)
    (hps : parts.toList.mapM (fun (p : Nat × Operand) => do some (p.1, ← opd p.2)) = some ps) (hsmall : len * sz ≤ 16777216) (hne : sz ≠ 0)
    (hf : fillR sz (List.replicate len zs) (ps.map fun (i, x) => (i, x.ev s.tm)) = some rows)
    (hK : K (.c (.x (.ow s.nx 0 len false))) (hset s.hp s.nx (.blk sz rows true (rows.all fun r => r.all AL.pure))) (s.nx + 1)) :
    OpS P ι ok s w (do pure (.value (← Instr.buildSlice t len (parts.map fun (i, x) => (i, a.eval x))))) K := by
  obtain ⟨r, hrr, hrl, hrun⟩ := bslice_run hs hu hz hsz hps hsmall hne hf
  obtain ⟨f1, f2⟩ := hs.hs.fresh s.nx (Nat.le_refl _)
  have hnew := new_sound hs.hs f1 f2 (nx' := s.nx + 1) (Nat.lt_succ_self _) (Nat.le_succ _) r e rows (rows.all fun r => r.all AL.pure) (cap := len) hrr.2.1 (by omega) (by rw [hrr.1, hrl]) (fun k j r x hk hj => by
    obtain ⟨u, hu, hru⟩ := hrr.2.2 k j r x hk hj
    refine ⟨u, hu, hru.pim_in fun hp => ?_⟩
    simp only [List.all_eq_true] at hp
    exact hp r (List.mem_of_getElem? hk) x (List.mem_of_getElem? hj))
  have hext := new_ext (ι := ι) (ok := ok) (H := s.hp) (w := w) (z := sz) (cap := len) f1 (Nat.le_refl _) r e rows (rows.all fun r => r.all AL.pure)
  exact OpS.of hrun hK hnew hext (.c (.x (.ow _ s.nx 0 len false _ _ len (imset_same _ _ _) (Nat.le_refl _) (by simp) (by intro d hd; injection hd with hd; subst hd; rfl) (by simp) (fun h => ⟨w.heap.size, rfl, by simp, by simp⟩)))) (Nat.le_succ _)

/-- later worlds -/
theorem HSat.later (hs : HSat ι ok H nx w) (hsz : w.heap.size ≤ w'.heap.size) (hsame : ∀ k, k < w.heap.size → w'.heap[k]? = w.heap[k]?) (hm : ∀ k, ok k → ok' k) (hr : ∀ k, ok' k → ok k ∨ w.heap.size ≤ k) (hlt : ∀ k, ok' k → k < w'.heap.size) : HSat ι ok' H nx w' where
  ok_lt := hlt
  fresh := hs.fresh
  blk j z rows mt pu h := by
    obtain ⟨M, hM, h1, h2, h3, h4⟩ := hs.blk j z rows mt pu h
    refine ⟨M, hM, h1, h2, h3, fun hc => ?_⟩
    obtain ⟨b, hb, hlt, ⟨cv, hcv, hrep⟩, ho, hmm⟩ := h4 hc
    refine ⟨b, hb, by omega, ⟨cv, fun i j hi hj => ?_, fun i j r x hr hx => ?_⟩, fun h => hm _ (ho h), fun hmt => ⟨fun h' => ?_, fun i j hi hj => ?_⟩⟩
    · rw [cell_of_block (hsame b hlt)]; exact hcv i j hi hj
    · exact (hrep i j r x hr hx).pim_mono hm (fun k hk => hsame k (hs.ok_lt k hk)) (fun _ _ h => h)
    · rcases hr b h' with h | h
      · exact (hmm hmt).1 h
      · omega
    · have := (hmm hmt).2 i j hi hj
      simpa only [World.cell?, World.frozen?, hsame b hlt] using this
  loop j tm N ps as bd st pe h := by
    obtain ⟨M, hM, h1, b, r, hb, hnok, hr', h2, h3, h4⟩ := hs.loop j _ _ _ _ _ _ _ h
    have hlt := (Array.getElem?_eq_some_iff.1 hr').1
    refine ⟨M, hM, h1, b, r, hb, fun h' => ?_, by rw [hsame b hlt]; exact hr', h2, fun t => (h3 t).mono hm (fun k hk => hsame k (hs.ok_lt k hk)) (fun _ _ h => h), h4⟩
    rcases hr b h' with h | h
    · exact hnok h
    · omega
  inj := hs.inj

theorem Ext.later (h1 : w'.os = w.os) (h2 : w'.tape = w.tape) (h3 : w'.output = w.output) (hsz : w.heap.size ≤ w'.heap.size) (hsame : ∀ k, k < w.heap.size → w'.heap[k]? = w.heap[k]?) (hm : ∀ k, ok k → ok' k) (hr : ∀ k, ok' k → ok k ∨ w.heap.size ≤ k) : Ext ι ok H nx w ι ok' H w' :=
  ⟨h1, h2, h3, hsz, fun k hk _ => hsame k hk, hm, fun k hk => (hr k hk).elim .inl (fun h => .inr (.inr h)), fun _ _ h => h, fun _ _ => rfl, fun _ h => .inl h⟩

/-- a literal that is not written any more -/
theorem op_bslF (hs : Sat N ι ok s a w) {t e : TypeId} {len sz : Nat} {zs : List AL} {parts : Array (Nat × Operand)} {ps : List (Nat × AOpd)} {rows : List (List AL)} (hu : P.underlying t = some (.slice e)) (hz : zeroA P e = some zs) (hsz : szA P e = some sz)
    (hps : parts.toList.mapM (fun (p : Nat × Operand) => do some (p.1, ← opd p.2)) = some ps) (hsmall : len * sz ≤ 16777216) (hne : sz ≠ 0)
    (hf : fillR sz (List.replicate len zs) (ps.map fun (i, x) => (i, x.ev s.tm)) = some rows) (hpu : (rows.all fun r => r.all AL.pure) = true)
    (hK : K (.c (.x (.sl false rows))) s.hp s.nx) :
    OpS P ι ok s w (do pure (.value (← Instr.buildSlice t len (parts.map fun (i, x) => (i, a.eval x))))) K := by
  obtain ⟨r, hrr, hrl, hrun⟩ := bslice_run hs hu hz hsz hps hsmall hne hf
  have hsame : ∀ k, k < w.heap.size → (w.alloc (.cells r e)).heap[k]? = w.heap[k]? := fun k hk => Below.heap_alloc w _ k hk
  have hsize : w.heap.size ≤ (w.alloc (.cells r e)).heap.size := by rw [alloc_size]; omega
  have hlater := hs.hs.later (w' := w.alloc (.cells r e)) (ok' := fun k => ok k ∨ k = w.heap.size) hsize hsame (fun _ h => .inl h) (fun k h => h.imp id (fun h => Nat.le_of_eq h.symm)) (fun k h => by
    rw [alloc_size]
    rcases h with h | rfl
    · have := hs.hs.ok_lt k h; omega
    · omega)
  have hext := Ext.later (ι := ι) (H := s.hp) (nx := s.nx) (ok := ok) (ok' := fun k => ok k ∨ k = w.heap.size) (w := w) (w' := w.alloc (.cells r e)) rfl rfl rfl hsize hsame (fun _ h => .inl h) (fun k h => h.imp id (fun h => Nat.le_of_eq h.symm))
  have hrep : RepL (fun k => ok k ∨ k = w.heap.size) (w.alloc (.cells r e)) ι (.slice (some ⟨w.heap.size, 0, none⟩) len len) (.sl false rows) := by
    have := RepL.sl (ok := fun k => ok k ∨ k = w.heap.size) (w := w.alloc (.cells r e)) ι false rows w.heap.size 0 len sz (fun i j => r.getD (i * sz + j) undef) (fun _ => .inr rfl) (by omega) (by simp) hrr.2.1 (fun i j hi hj => by
      simp only [Nat.zero_add]
      rw [World.cell?_alloc_new]
      have : i * sz + j < r.size := by
        rw [hrr.1]
        have : (i + 1) * sz ≤ rows.length * sz := Nat.mul_le_mul_right _ hi
        rw [Nat.add_mul] at this; omega
      simp [Array.getD, this]) (fun i j rr x hr hx => by
      obtain ⟨u, hu, hru⟩ := hrr.2.2 i j rr x hr hx
      have e : r.getD (i * sz + j) undef = u := by rw [Array.getD_eq_getD_getElem?, hu]; rfl
      rw [e]
      simp only [List.all_eq_true] at hpu
      exact (hru.toNil (hpu rr (List.mem_of_getElem? hr) x (List.mem_of_getElem? hx))).mono (fun _ h => .inl h) (fun k hk => hsame k (hs.hs.ok_lt k hk)) (fun _ _ h => h))
    rw [hrl] at this; exact this
  exact OpS.of hrun hK hlater hext (.c (.x hrep)) (Nat.le_refl _)
end
end Go.Abs

namespace Go.Abs
set_option linter.unusedVariables false
open Go.RowKit

section
variable {ι ι' : IM} {ok ok' : Nat → Prop} {H H' : HP} {nx nx' : Nat} {w w' : World} {P : Program} {N : Nat × Nat} {s s' : St} {a a' : Act} {K : KT}

theorem rep_int (k : IntKind) (n : Int) : RepV ok w ι (.int k n) (.c (.x (.v (.int k n)))) := .c (.x (.v _ _ rfl))
theorem rep_bool (b : Bool) : RepV ok w ι (.bool b) (.c (.x (.v (.bool b)))) := .c (.x (.v _ _ rfl))

/-! ### arithmetic -/
theorem binOp_int {op : BinOp} {k : IntKind} {x y : Int} {v : Value} (h : binI op k x y = some v) (t : TypeId) : (binOp op t (.int k x) (.int k y)).run P w = .ok v w ∧ v.oneCell' = true := by
  cases op <;> simp only [binI] at h <;> first | (injection h with h; subst h; refine ⟨?_, rfl⟩; simp [binOp, Op.intArith, Op.intCmp]) | cases h

theorem eqGuard_int (op : BinOp) (t : TypeId) (x y : Operand) (k k' : IntKind) (m n : Int) : (eqGuard op t x y (.int k m) (.int k' n)).run P w = .ok () w := by
  unfold eqGuard; cases op <;> rfl

theorem op_bin (hs : Sat N ι ok s a w) {op : BinOp} {t : TypeId} {x y : Operand} {u v : Value} {x' y' : AV} (hu : RepV ok w ι u x') (hv : RepV ok w ι v y') (h : binA op x' y' fun v => K v s.hp s.nx) :
    OpS P ι ok s w (do pure (.value (← (do eqGuard op t x y u v; binOp op t u v)))) K := by
  unfold binA at h
  split at h
  · rename_i k m k' n
    have e1 := hu.int; have e2 := hv.int
    subst e1 e2
    have hg := eqGuard_int (P := P) (w := w) op t x y k k' m n
    have go : ∀ (r : Value) (hr : r.oneCell' = true), (binOp op t (.int k m) (.int k' n)).run P w = .ok r w → K (.c (.x (.v r))) s.hp s.nx →
        OpS P ι ok s w (do pure (.value (← (do eqGuard op t x y (.int k m) (.int k' n); binOp op t (.int k m) (.int k' n))))) K := fun r hr hrun hK =>
      OpS.val hs (by rw [Sem.run_bind, hg]; exact hrun) (.c (.x (.v _ _ hr))) hK
    split at h
    · obtain ⟨h0, hK⟩ := h
      refine go _ rfl ?_ hK
      have : ¬ n < 0 := by omega
      simp [binOp, Op.shift, this]
    · obtain ⟨h0, hK⟩ := h
      refine go _ rfl ?_ hK
      have : ¬ n < 0 := by omega
      simp [binOp, Op.shift, this]
    · obtain ⟨rfl, h0, hK⟩ := h
      exact go _ rfl (by simp [binOp, Op.intDiv, h0]) hK
    · obtain ⟨rfl, h0, hK⟩ := h
      exact go _ rfl (by simp [binOp, Op.intDiv, h0]) hK
    · obtain ⟨rfl, hK⟩ := h
      exact go _ rfl (by simp [binOp, Op.intBits, wrapBits]) hK
    · obtain ⟨rfl, hK⟩ := h
      exact go _ rfl (by simp [binOp, Op.intBits, wrapBits]) hK
    · obtain ⟨rfl, hK⟩ := h
      exact go _ rfl (by simp [binOp, Op.intBits, wrapBits]) hK
    · obtain ⟨rfl, hK⟩ := h
      exact go _ rfl (by simp [binOp, Op.intBits, wrapBits]) hK
    · obtain ⟨rfl, hK⟩ := h
      split at hK
      · rename_i v' hb
        obtain ⟨h1, h2⟩ := binOp_int (P := P) (w := w) hb t
        exact go _ h2 h1 hK
      · exact hK.elim
  · exact h.elim

theorem op_un (hs : Sat N ι ok s a w) {op : UnOp} {u : Value} {x' : AV} (hu : RepV ok w ι u x') (h : unA op x' fun v => K v s.hp s.nx) : OpS P ι ok s w (do pure (.value (← Op.unary op u))) K := by
  unfold unA at h
  split at h
  · have := hu.int; subst this
    exact OpS.val hs (by simp [Op.unary, Op.intArith]) (rep_int _ _) h
  · have := hu.bool; subst this
    exact OpS.val hs (by simp [Op.unary]) (rep_bool _) h
  · exact h.elim

theorem op_conv (hs : Sat N ι ok s a w) {sT dT : TypeId} {k0 k k1 : IntKind} {n : Int} (h1 : P.underlying sT = some (.int k0)) (h2 : P.underlying dT = some (.int k)) {u : Value} (hu : RepV ok w ι u (.c (.x (.v (.int k1 n)))))
    (hK : K (.c (.x (.v (.int k (k.wrap n))))) s.hp s.nx) : OpS P ι ok s w (do pure (.value (← convert sT dT u))) K := by
  have := hu.int; subst this
  exact OpS.val hs (by simp [convert, run_underlying h1, run_underlying h2, Conv.intToInt]) (rep_int _ _) hK

/-! ### slices -/
theorem bnd_run {o : Option AOpd} {d : Nat} {Q : Nat → Prop} {oo : Option Operand} (ho : opdO oo = some o) (hs : Sat N ι ok s a w) (h : bnd s.tm o d Q) (y : Nat) (code : BoundsCode) :
    ∃ n, Q n ∧ (oo = none → o = none ∧ n = d) ∧ (∀ p, oo = some p → o.isSome = true ∧ ∃ k i, a.eval p = .int k i ∧ 0 ≤ i ∧ i.toNat = n ∧ (n ≤ y → (Instr.sliceBound (a.eval p) y code).run P w = .ok n w)) := by
  cases oo with
  | none =>
    simp only [opdO] at ho; injection ho with ho; subst ho
    exact ⟨d, h, fun _ => ⟨rfl, rfl⟩, fun p hp => by cases hp⟩
  | some p =>
    simp only [opdO, Option.map_eq_some_iff] at ho
    obtain ⟨x, hx, rfl⟩ := ho
    have hr := opd_sound hx hs
    simp only [bnd] at h
    split at h
    · rename_i k i he
      rw [he] at hr
      have := hr.int
      refine ⟨i.toNat, h.2, fun h => (by cases h), fun p' hp => ?_⟩
      injection hp with hp; subst hp
      refine ⟨rfl, k, i, this, h.1, rfl, fun hy => ?_⟩
      rw [this]
      have h1 : 0 ≤ i ∧ i ≤ (y : Int) := ⟨h.1, by omega⟩
      simp [Instr.sliceBound, asIntOf, h1]
    · exact h.elim

theorem fp_rep {b o z row off : Nat} {rows : List (List AL)} {cv : Nat → Nat → Value} (hb : ok b) (hz : ∀ r ∈ rows, r.length = z) (hcell : ∀ i j, i < rows.length → j < z → w.cell? ⟨b, o + i * z + j, none⟩ = some (cv i j))
    (hrep : ∀ (i j : Nat) (r : List AL) (x : AL), rows[i]? = some r → r[j]? = some x → RepL ok w IM.nil (cv i j) x) : RepL ok w ι (.pointer (some ⟨b, o + row * z + off, none⟩)) (.fp rows row off) :=
  .fp _ rows row off b o z cv hb hz hcell hrep

theorem sz_of_blk (hs : HSat ι ok H nx w) {id sz : Nat} {L : Loc} (hι : ι id = some L) (h : match H id with | .blk z _ _ _ => z = sz | _ => False) : L.z = sz := by
  split at h
  · rename_i z rows mt pu hH
    obtain ⟨M, hM, h1, _⟩ := hs.blk id _ _ _ _ hH
    rw [hι] at hM; injection hM with e; subst e
    omega
  · exact h.elim

theorem op_iadr (hs : Sat N ι ok s a w) {t e : TypeId} {sz : Nat} (hu : P.underlying t = some (.slice e)) (hsz : szA P e = some sz) {u v : Value} {x y : AV} (hx : RepV ok w ι u x) (hy : RepV ok w ι v y)
    (h : iadrF sz s.hp x y fun v => K v s.hp s.nx) : OpS P ι ok s w (do pure (.value (← Instr.indexAt t u v))) K := by
  obtain ⟨ie, hie, rfl⟩ := szA_spec hsz
  unfold iadrF at h
  split at h
  · rename_i clip rows k i
    obtain ⟨h0, hlt, hrows, hK⟩ := h
    have := hy.int; subst this
    cases hx.leaf with
    | nil => simp at hlt
    | sl _ _ _ b o c z cv hb hc hcl hz hcell hrep =>
      have hne : rows ≠ [] := fun e => by subst e; simp at hlt
      have hzz : z = ie.size := by
        have hm := List.getElem_mem hlt
        rw [← hz _ hm, hrows _ hm]
      subst hzz
      have h1 : 0 ≤ i ∧ i < (rows.length : Int) := ⟨h0, by omega⟩
      refine OpS.val hs (v := .pointer (some ⟨b, o + i.toNat * ie.size + 0, none⟩)) ?_ (.c (.x (fp_rep (hb hne) hz hcell hrep))) hK
      simp [Instr.indexAt, asIntOf, run_underlying hu, sizeOf, typeInfo, hie, h1, Addr.add_lit]
  · rename_i id off len clip k i
    obtain ⟨h0, hlt, hblk, hK⟩ := h
    have := hy.int; subst this
    cases hx.leaf with
    | ow _ _ _ _ _ L ad c hι hc hcl hsp hn ha =>
      obtain ⟨b, hb, rfl, hcap⟩ := ha (by omega)
      have hzz := sz_of_blk hs.hs hι hblk
      have h1 : 0 ≤ i ∧ i < (len : Int) := ⟨h0, by omega⟩
      have := RepL.pt (ok := ok) (w := w) ι id (off + i.toNat) 0 L b hι hb
      refine OpS.val hs (v := .pointer (some ⟨b, L.o + (off + i.toNat) * L.z + 0, none⟩)) ?_ (.c (.x this)) hK
      simp [Instr.indexAt, asIntOf, run_underlying hu, sizeOf, typeInfo, hie, h1, Addr.add_lit, hzz, Nat.add_mul, Nat.add_assoc]
  · exact h.elim

theorem op_iadrA (hs : Sat N ι ok s a w) {t e : TypeId} {n sz : Nat} (hu : P.underlying t = some (.array n e)) (hsz : szA P e = some sz) {u v : Value} {x y : AV} (hx : RepV ok w ι u x) (hy : RepV ok w ι v y)
    (h : iadrAF n sz x y fun v => K v s.hp s.nx) : OpS P ι ok s w (do pure (.value (← Instr.indexAt t u v))) K := by
  obtain ⟨ie, hie, rfl⟩ := szA_spec hsz
  unfold iadrAF at h
  split at h
  · rename_i id row off k i
    obtain ⟨h0, hlt, hK⟩ := h
    have := hy.int; subst this
    cases hx.leaf with
    | pt _ _ _ _ L b hι hb =>
      have h1 : 0 ≤ i ∧ i < (n : Int) := ⟨h0, by omega⟩
      have := RepL.pt (ok := ok) (w := w) ι id row (off + i.toNat * ie.size) L b hι hb
      refine OpS.val hs (v := .pointer (some ⟨b, L.o + row * L.z + (off + i.toNat * ie.size), none⟩)) ?_ (.c (.x this)) hK
      simp [Instr.indexAt, Instr.sureAddr, asIntOf, run_underlying hu, sizeOf, typeInfo, hie, h1, Addr.add_lit, Nat.add_assoc]
  · rename_i rows row off k i
    obtain ⟨h0, hlt, hK⟩ := h
    have := hy.int; subst this
    cases hx.leaf with
    | fp _ _ _ _ b o z cv hb hz hcell hrep =>
      have h1 : 0 ≤ i ∧ i < (n : Int) := ⟨h0, by omega⟩
      refine OpS.val hs (v := .pointer (some ⟨b, o + row * z + (off + i.toNat * ie.size), none⟩)) ?_ (.c (.x (fp_rep hb hz hcell hrep))) hK
      simp [Instr.indexAt, Instr.sureAddr, asIntOf, run_underlying hu, sizeOf, typeInfo, hie, h1, Addr.add_lit, Nat.add_assoc]
  · exact h.elim

theorem op_fadr (hs : Sat N ι ok s a w) {t : TypeId} {fields : Array Field} {f : Nat} {fd : Field} {sz : Nat} (hu : P.underlying t = some (.struct fields)) (hf : fields[f]? = some fd) (hsz : szA P fd.type = some sz) (hn : sz ≠ 0) {u : Value} {x : AV} (hx : RepV ok w ι u x)
    (h : fadrF fd.offset x fun v => K v s.hp s.nx) : OpS P ι ok s w (do pure (.value (← Instr.fieldAt t u f))) K := by
  obtain ⟨ie, hie, rfl⟩ := szA_spec hsz
  unfold fadrF at h
  split at h
  · rename_i id row o
    cases hx.leaf with
    | pt _ _ _ _ L b hι hb =>
      have := RepL.pt (ok := ok) (w := w) ι id row (o + fd.offset) L b hι hb
      refine OpS.val hs (v := .pointer (some ⟨b, L.o + row * L.z + (o + fd.offset), none⟩)) ?_ (.c (.x this)) h
      simp [Instr.fieldAt, Instr.sureAddr, run_underlying hu, hf, fieldPlace, sizeOf, typeInfo, hie, hn, Addr.add_lit, Nat.add_assoc]
  · rename_i rows row o
    cases hx.leaf with
    | fp _ _ _ _ b o' z cv hb hz hcell hrep =>
      refine OpS.val hs (v := .pointer (some ⟨b, o' + row * z + (o + fd.offset), none⟩)) ?_ (.c (.x (fp_rep hb hz hcell hrep))) h
      simp [Instr.fieldAt, Instr.sureAddr, run_underlying hu, hf, fieldPlace, sizeOf, typeInfo, hie, hn, Addr.add_lit, Nat.add_assoc]
  · exact h.elim

/-- a part of a value -/
theorem run_part (hs : Sat N ι ok s a w) {t : TypeId} {sz off : Nat} {agg : Bool} (hsz : szA P t = some sz) (hagg : aggA P t = some agg) {cs : List Value} {xs ys : List AL}
    (hl : cs.length = xs.length) (hrep : ∀ (i : Nat) (v : Value) (x : AL), cs[i]? = some v → xs[i]? = some x → RepL ok w ι v x) (h : rowA xs off sz = some ys) :
    (agg = true → ∃ u, (part t cs.toArray off).run P w = .ok u w ∧ RepV ok w ι u (.c (.agg ys))) ∧ (agg = false → ∀ y, ys = [y] → ∃ u, (part t cs.toArray off).run P w = .ok u w ∧ RepV ok w ι u (.c (.x y))) := by
  obtain ⟨hle, rfl⟩ := rowA_some h
  obtain ⟨d, hu, hd⟩ := aggA_spec hagg
  obtain ⟨i, hi, rfl⟩ := szA_spec hsz
  constructor
  · rintro rfl
    have hag : (isAgg t).run P w = .ok true w := by
      unfold isAgg; rw [Sem.run_bind, run_underlying hu w]; cases d <;> simp_all
    refine ⟨.agg ((cs.drop off).take i.size).toArray, ?_, .c (.agg (by simp; omega) fun j v x h1 h2 => ?_)⟩
    · simp [part, hag, sizeOf, typeInfo, hi]
    · have hj : j < i.size := by have := (List.getElem?_eq_some_iff.1 h1).1; simp at this; omega
      rw [List.getElem?_take_of_lt hj, List.getElem?_drop] at h1 h2
      exact hrep _ v x h1 h2
  · rintro rfl y hy
    have hag : (isAgg t).run P w = .ok false w := by
      unfold isAgg; rw [Sem.run_bind, run_underlying hu w]; cases d <;> simp_all
    have hy0 : xs[off]? = some y := by
      have : ((xs.drop off).take i.size)[0]? = some y := by rw [hy]; rfl
      have h0 : 0 < i.size := by
        rcases Nat.eq_zero_or_pos i.size with h | h
        · rw [h] at hy; simp at hy
        · exact h
      rw [List.getElem?_take_of_lt h0, List.getElem?_drop] at this
      simpa using this
    have hlt : off < cs.length := by have := (List.getElem?_eq_some_iff.1 hy0).1; omega
    refine ⟨cs[off], ?_, .c (.x (hrep off _ y (List.getElem?_eq_getElem hlt) hy0))⟩
    simp [part, hag, hlt]

theorem op_fld (hs : Sat N ι ok s a w) {t : TypeId} {fields : Array Field} {f : Nat} {fd : Field} {sz : Nat} {agg : Bool} (hu : P.underlying t = some (.struct fields)) (hf : fields[f]? = some fd) (hsz : szA P fd.type = some sz) (hagg : aggA P fd.type = some agg) {u : Value} {cs : List AL} {ys : List AL}
    (hx : RepV ok w ι u (.c (.agg cs))) (hr : rowA cs fd.offset sz = some ys) (hK : outF agg ys fun v => K v s.hp s.nx) : OpS P ι ok s w (do pure (.value (← Instr.field t u f))) K := by
  obtain ⟨vs, rfl, hl, hrep⟩ := hx.aggr
  obtain ⟨g1, g2⟩ := run_part (P := P) hs hsz hagg hl hrep hr
  cases agg with
  | true =>
    obtain ⟨r, hr, hrr⟩ := g1 rfl
    exact OpS.val hs (by simp [Instr.field, run_underlying hu, hf, asAgg, hr]) hrr hK
  | false =>
    unfold outF at hK
    split at hK
    · rename_i hh; cases hh
    · obtain ⟨r, hr, hrr⟩ := g2 rfl _ rfl
      exact OpS.val hs (by simp [Instr.field, run_underlying hu, hf, asAgg, hr]) hrr hK
    · exact hK.elim

theorem op_idxA (hs : Sat N ι ok s a w) {t e : TypeId} {n sz : Nat} {agg : Bool} (hu : P.underlying t = some (.array n e)) (hsz : szA P e = some sz) (hagg : aggA P e = some agg) {u v : Value} {cs : List AL} {ys : List AL} {k : IntKind} {i : Int}
    (hx : RepV ok w ι u (.c (.agg cs))) (hy : RepV ok w ι v (.c (.x (.v (.int k i))))) (h0 : 0 ≤ i) (hlt : i.toNat < n) (hr : rowA cs (i.toNat * sz) sz = some ys) (hK : outF agg ys fun v => K v s.hp s.nx) :
    OpS P ι ok s w (do pure (.value (← Instr.index t u v))) K := by
  obtain ⟨vs, rfl, hl, hrep⟩ := hx.aggr
  have := hy.int; subst this
  obtain ⟨g1, g2⟩ := run_part (P := P) hs hsz hagg hl hrep hr
  obtain ⟨ie, hie, hies⟩ := szA_spec hsz
  have h1 : 0 ≤ i ∧ i < (n : Int) := ⟨h0, by omega⟩
  cases agg with
  | true =>
    obtain ⟨r, hr, hrr⟩ := g1 rfl
    exact OpS.val hs (by simp [Instr.index, asIntOf, run_underlying hu, sizeOf, typeInfo, hie, hies, h1, hr]) hrr hK
  | false =>
    unfold outF at hK
    split at hK
    · rename_i hh; cases hh
    · obtain ⟨r, hr, hrr⟩ := g2 rfl _ rfl
      exact OpS.val hs (by simp [Instr.index, asIntOf, run_underlying hu, sizeOf, typeInfo, hie, hies, h1, hr]) hrr hK
    · exact hK.elim

theorem op_slc (hs : Sat N ι ok s a w) {t e : TypeId} {sz : Nat} (hu : P.underlying t = some (.slice e)) (hsz : szA P e = some sz) {u : Value} {x : AV} (hx : RepV ok w ι u x) {lo hi mx : Option Operand} {lo' hi' mx' : Option AOpd}
    (hlo : opdO lo = some lo') (hhi : opdO hi = some hi') (hmx : opdO mx = some mx') (hmh : mx.isSome = true → hi.isSome = true) (h : slcA sz x s.hp s.tm lo' hi' mx' fun v => K v s.hp s.nx) :
    OpS P ι ok s w (do pure (.value (← Instr.sliceAt t u (lo.map a.eval) (hi.map a.eval) (mx.map a.eval)))) K := by
  obtain ⟨ie, hie, rfl⟩ := szA_spec hsz
  -- the bounds
  have bounds : ∀ (len cap l hh m : Nat), len ≤ cap → m ≤ len → l ≤ hh → hh ≤ m →
      (∀ y code, (lo = none → l = 0) ∧ ∀ p, lo = some p → (l ≤ y → (Instr.sliceBound (a.eval p) y code).run P w = .ok l w)) →
      (∀ y code, (hi = none → hh = len) ∧ ∀ p, hi = some p → (hh ≤ y → (Instr.sliceBound (a.eval p) y code).run P w = .ok hh w)) →
      (∀ y code, (mx = none → True) ∧ ∀ p, mx = some p → (m ≤ y → (Instr.sliceBound (a.eval p) y code).run P w = .ok m w)) →
      (Instr.sliceBounds true len cap (lo.map a.eval) (hi.map a.eval) (mx.map a.eval)).run P w = .ok (l, hh, if mx.isSome = true then m else cap) w := by
    intro len cap l hh m hlc hml hlh hhm g1 g2 g3
    cases mx with
    | none =>
      cases hi with
      | none =>
        have e2 := (g2 0 .index).1 rfl
        cases lo with
        | none => have e1 := (g1 0 .index).1 rfl; simp [Instr.sliceBounds, e1, e2]
        | some p => have e1 := (g1 len .sliceB).2 p rfl (by omega); simp [Instr.sliceBounds, e1, e2]
      | some q =>
        have e2 := (g2 cap .sliceAcap).2 q rfl (by omega)
        cases lo with
        | none => have e1 := (g1 0 .index).1 rfl; simp [Instr.sliceBounds, e1, e2]
        | some p => have e1 := (g1 hh .sliceB).2 p rfl hlh; simp [Instr.sliceBounds, e1, e2]
    | some r =>
      have e3 := (g3 cap .slice3Acap).2 r rfl (by omega)
      cases hi with
      | none => exact absurd (hmh rfl) (by simp)
      | some q =>
        have e2 := (g2 m .slice3B).2 q rfl hhm
        cases lo with
        | none => have e1 := (g1 0 .index).1 rfl; simp [Instr.sliceBounds, e1, e2, e3]
        | some p => have e1 := (g1 hh .slice3C).2 p rfl hlh; simp [Instr.sliceBounds, e1, e2, e3]
  unfold slcA at h
  split at h
  · rename_i clip rows
    obtain ⟨l, h, hl1, hl2⟩ := bnd_run (P := P) hlo hs h 0 .index
    obtain ⟨hh, h, hh1, hh2⟩ := bnd_run (P := P) hhi hs h 0 .index
    obtain ⟨m, h, hm1, hm2⟩ := bnd_run (P := P) hmx hs h 0 .index
    obtain ⟨hrows, hlh, hhm, hmr, hK⟩ := h
    have mkb : ∀ (oo : Option Operand) (n : Nat), (∀ p, oo = some p → ∃ k i, a.eval p = .int k i ∧ 0 ≤ i ∧ i.toNat = n) → ∀ y code p, oo = some p → n ≤ y → (Instr.sliceBound (a.eval p) y code).run P w = .ok n w := by
      intro oo n hoo y code p hp hy
      obtain ⟨k, i, e1, e2, e3⟩ := hoo p hp
      rw [e1]
      have h1 : 0 ≤ i ∧ i ≤ (y : Int) := ⟨e2, by omega⟩
      simp [Instr.sliceBound, asIntOf, h1, e3]
    have b1 := mkb lo l (fun p hp => let ⟨_, k, i, e1, e2, e3, _⟩ := hl2 p hp; ⟨k, i, e1, e2, e3⟩)
    have b2 := mkb hi hh (fun p hp => let ⟨_, k, i, e1, e2, e3, _⟩ := hh2 p hp; ⟨k, i, e1, e2, e3⟩)
    have b3 := mkb mx m (fun p hp => let ⟨_, k, i, e1, e2, e3, _⟩ := hm2 p hp; ⟨k, i, e1, e2, e3⟩)
    have hmxs : mx'.isSome = mx.isSome := by
      cases mx with
      | none => rw [(hm1 rfl).1]; rfl
      | some p => rw [(hm2 p rfl).1]; rfl
    rw [hmxs] at hK
    have hclen : ((rows.drop l).take (hh - l)).length = hh - l := by simp; omega
    -- the value
    have fin : ∀ (ad : Option Addr) (c : Nat), rows.length ≤ c → u = .slice ad rows.length c → (clip = true → c = rows.length) →
        (∀ (ad' : Option Addr) (c' : Nat), (ad' = if (if mx.isSome = true then m else c) = l then ad else ad.map (·.add (l * ie.size))) → c' = (if mx.isSome = true then m else c) - l →
          RepL ok w ι (.slice ad' (hh - l) c') (.sl (if mx.isSome = true then decide (m = hh) else (clip && decide (hh = rows.length))) ((rows.drop l).take (hh - l)))) →
        OpS P ι ok s w (do pure (.value (← Instr.sliceAt t u (lo.map a.eval) (hi.map a.eval) (mx.map a.eval)))) K := by
      intro ad c hc hval hcl hrep
      subst hval
      have hbd := bounds rows.length c l hh m hc hmr hlh hhm (fun y code => ⟨fun e => (hl1 e).2, fun p hp => b1 y code p hp⟩) (fun y code => ⟨fun e => (hh1 e).2, fun p hp => b2 y code p hp⟩) (fun y code => ⟨fun _ => trivial, fun p hp => b3 y code p hp⟩)
      refine OpS.val hs ?_ (.c (.x (hrep _ _ rfl rfl))) hK
      simp [Instr.sliceAt, Instr.slice, run_underlying hu, hbd, sizeOf, typeInfo, hie]
    cases hx.leaf with
    | nil =>
      refine fin none 0 (Nat.zero_le _) rfl (fun _ => rfl) (fun ad' c' h1 h2 => ?_)
      simp at hmr hlh hhm
      have hl0 : l = 0 := by omega
      have hm0 : m = 0 := by omega
      have hh0 : hh = 0 := by omega
      subst hl0 hm0 hh0
      simp at h1 h2
      subst h1 h2
      simp
      exact .nil _ _
    | sl _ _ _ b o c z cv hb hc hcl hz hcell hrep =>
      refine fin _ c hc rfl hcl (fun ad' c' h1 h2 => ?_)
      have hml : (if mx.isSome = true then m else c) = l → hh - l = 0 := by
        intro e; split at e <;> omega
      by_cases hnil : (rows.drop l).take (hh - l) = []
      · rw [hnil]
        have h0 : hh - l = 0 := by rw [← hclen, hnil]; rfl
        obtain ⟨bb, oo, rfl⟩ : ∃ bb oo, ad' = some ⟨bb, oo, none⟩ := by
          by_cases hq : (if mx.isSome = true then m else c) = l
          · rw [if_pos hq] at h1; exact ⟨_, _, h1⟩
          · rw [if_neg hq] at h1; simp only [Option.map_some, Addr.add_lit] at h1; exact ⟨_, _, h1⟩
        rw [h0]
        refine RepL.sl (ok := ok) (w := w) ι _ [] bb oo c' 0 (fun _ _ => undef) (by simp) (by simp) ?_ (by simp) (by simp) (by simp)
        intro hcl'
        simp only [List.length_nil]
        rw [h2]
        split at hcl'
        · rename_i hms; rw [if_pos hms]; simp at hcl'; omega
        · rename_i hms; rw [if_neg hms]; simp at hcl'; have := hcl hcl'.1; omega
      · have hpos : 0 < hh - l := by rw [← hclen]; exact List.length_pos_iff.2 hnil
        have hne : ¬ (if mx.isSome = true then m else c) = l := fun e => by have := hml e; omega
        rw [if_neg hne] at h1
        simp only [Option.map_some, Addr.add_lit] at h1
        subst h1
        have hzz : z = ie.size := by
          have hm := List.getElem_mem (show l < rows.length by omega)
          rw [← hz _ hm, hrows _ hm]
        subst hzz
        have := RepL.sl (ok := ok) (w := w) ι (if mx.isSome = true then decide (m = hh) else (clip && decide (hh = rows.length))) ((rows.drop l).take (hh - l)) b (o + l * ie.size) c' ie.size (fun i j => cv (l + i) j)
          (fun _ => hb (fun e => by subst e; simp at hnil)) (by rw [hclen, h2]; split <;> omega) (fun hcl' => by
            rw [hclen, h2]
            split at hcl'
            · rename_i hms; rw [if_pos hms]; simp at hcl'; omega
            · rename_i hms; rw [if_neg hms]; simp at hcl'; have := hcl hcl'.1; omega)
          (fun r hr => hz r (List.mem_of_mem_drop (List.mem_of_mem_take hr)))
          (fun i j hi hj => by
            rw [show o + l * ie.size + i * ie.size + j = o + (l + i) * ie.size + j by rw [Nat.add_mul]; omega]
            exact hcell (l + i) j (by omega) hj)
          (fun i j r x hr hx => by
            have hi : i < hh - l := by have := (List.getElem?_eq_some_iff.1 hr).1; omega
            rw [List.getElem?_take_of_lt hi, List.getElem?_drop] at hr
            exact hrep (l + i) j r x hr hx)
        rw [hclen] at this
        exact this
  · rename_i id off len clip
    obtain ⟨l, h, hl1, hl2⟩ := bnd_run (P := P) hlo hs h 0 .index
    obtain ⟨hh, h, hh1, hh2⟩ := bnd_run (P := P) hhi hs h 0 .index
    obtain ⟨m, h, hm1, hm2⟩ := bnd_run (P := P) hmx hs h 0 .index
    obtain ⟨hlh, hhm, hmr, hblk, hK⟩ := h
    have mkb : ∀ (oo : Option Operand) (n : Nat), (∀ p, oo = some p → ∃ k i, a.eval p = .int k i ∧ 0 ≤ i ∧ i.toNat = n) → ∀ y code p, oo = some p → n ≤ y → (Instr.sliceBound (a.eval p) y code).run P w = .ok n w := by
      intro oo n hoo y code p hp hy
      obtain ⟨k, i, e1, e2, e3⟩ := hoo p hp
      rw [e1]
      have h1 : 0 ≤ i ∧ i ≤ (y : Int) := ⟨e2, by omega⟩
      simp [Instr.sliceBound, asIntOf, h1, e3]
    have b1 := mkb lo l (fun p hp => let ⟨_, k, i, e1, e2, e3, _⟩ := hl2 p hp; ⟨k, i, e1, e2, e3⟩)
    have b2 := mkb hi hh (fun p hp => let ⟨_, k, i, e1, e2, e3, _⟩ := hh2 p hp; ⟨k, i, e1, e2, e3⟩)
    have b3 := mkb mx m (fun p hp => let ⟨_, k, i, e1, e2, e3, _⟩ := hm2 p hp; ⟨k, i, e1, e2, e3⟩)
    have hmxs : mx'.isSome = mx.isSome := by
      cases mx with
      | none => rw [(hm1 rfl).1]; rfl
      | some p => rw [(hm2 p rfl).1]; rfl
    rw [hmxs] at hK
    cases hx.leaf with
    | ow _ _ _ _ _ L ad c hι hc hcl hsp hn ha =>
      have hbd := bounds len c l hh m hc hmr hlh hhm (fun y code => ⟨fun e => (hl1 e).2, fun p hp => b1 y code p hp⟩) (fun y code => ⟨fun e => (hh1 e).2, fun p hp => b2 y code p hp⟩) (fun y code => ⟨fun _ => trivial, fun p hp => b3 y code p hp⟩)
      have hzz := sz_of_blk hs.hs hι hblk
      refine OpS.val hs (v := .slice (if (if mx.isSome = true then m else c) = l then ad else ad.map (·.add (l * ie.size))) (hh - l) ((if mx.isSome = true then m else c) - l)) ?_ (.c (.x ?_)) hK
      · simp [Instr.sliceAt, Instr.slice, run_underlying hu, hbd, sizeOf, typeInfo, hie]
      · refine .ow _ id (off + l) (hh - l) _ L _ _ hι (by split <;> omega) (fun hcl' => ?_) ?_ ?_ ?_
        · split at hcl'
          · rename_i hms; rw [if_pos hms]; simp at hcl'; omega
          · rename_i hms; rw [if_neg hms]; simp at hcl'; have := hcl hcl'.1; omega
        · intro d hd
          by_cases hq : (if mx.isSome = true then m else c) = l
          · rw [if_pos hq] at hd; exact hsp d hd
          · rw [if_neg hq] at hd
            cases ad with
            | none => cases hd
            | some d0 =>
              obtain ⟨bb, oo, ss⟩ := d0
              have := hsp _ rfl
              simp only at this; subst this
              simp only [Option.map_some, Addr.add_lit] at hd
              injection hd with hd; subst hd; rfl
        · intro hd
          by_cases hq : (if mx.isSome = true then m else c) = l
          · omega
          · rw [if_neg hq] at hd
            cases ad with
            | none => have := hn rfl; subst this; split <;> omega
            | some d0 => cases hd
        · intro hc0
          have hcc : c ≠ 0 := by split at hc0 <;> omega
          obtain ⟨b, hb, rfl, hcap⟩ := ha hcc
          refine ⟨b, hb, ?_, by split <;> omega⟩
          rw [if_neg (by omega)]
          simp only [Option.map_some, Addr.add_lit, hzz, Nat.add_mul, Nat.add_assoc]
  · exact h.elim
end
end Go.Abs

namespace Go.Abs
set_option linter.unusedVariables false
open Go.RowKit

section
variable {ι ι' : IM} {ok ok' : Nat → Prop} {H H' : HP} {nx nx' : Nat} {w w' : World} {P : Program} {N : Nat × Nat} {s s' : St} {a a' : Act} {K : KT}

theorem OpS.pureVal (hs : Sat N ι ok s a w) {v : Value} {x : AV} (hv : RepV ok w ι v x) (hK : K x s.hp s.nx) : OpS P ι ok s w (pure (.value v)) K :=
  ⟨v, w, x, s.hp, s.nx, ι, ok, .inl rfl, hK, hs.hs, .refl, hv, Nat.le_refl _⟩

theorem pick_rep {t : Bool} {u v : Value} {x y : AV} (hu : RepV ok w ι u x) (hv : RepV ok w ι v y) : RepV ok w ι (if t then u else v) (pickA t x y) := by
  by_cases hb : ∃ p q, x = .c (.x (.v (.bool p))) ∧ y = .c (.x (.v (.bool q)))
  · obtain ⟨p, q, rfl, rfl⟩ := hb
    have := hu.bool; have := hv.bool; subst u v
    cases t <;> exact rep_bool _
  · have : pickA t x y = if t then x else y := by
      unfold pickA; split
      · exact absurd ⟨_, _, rfl, rfl⟩ hb
      · rfl
    rw [this]
    cases t
    · exact hv
    · exact hu

theorem leafs_spec : ∀ {l : List AV} {xs : List AL}, leafs l = some xs → xs.length = l.length ∧ ∀ (i : Nat) (v : AV) (x : AL), l[i]? = some v → xs[i]? = some x → v = .c (.x x)
  | [], xs, h => by simp [leafs] at h; subst h; exact ⟨rfl, by simp⟩
  | .c (.x l) :: r, xs, h => by
    simp only [leafs, Option.map_eq_some_iff] at h
    obtain ⟨ys, hy, rfl⟩ := h
    obtain ⟨h1, h2⟩ := leafs_spec hy
    refine ⟨by simp [h1], fun i v x h3 h4 => ?_⟩
    cases i with
    | zero => simp at h3 h4; subst h3 h4; rfl
    | succ i => exact h2 i v x (by simpa using h3) (by simpa using h4)
  | .any :: _, _, h => by simp [leafs] at h
  | .tup _ :: _, _, h => by simp [leafs] at h
  | .c (.agg _) :: _, _, h => by simp [leafs] at h

theorem op_mkfn (hs : Sat N ι ok s a w) {f : Fn} {first caps : Array Operand} {cs : List AOpd} {xs : List AL} (h0 : first.size = 0) (hc : opds caps.toList = some cs) (hl : leafs (cs.map (·.ev s.tm)) = some xs)
    (hK : K (.c (.x (.fn f xs))) s.hp s.nx) : OpS P ι ok s w (do pure (.value (← Instr.makeFunc f (first.map a.eval) (caps.map a.eval)))) K := by
  obtain ⟨h1, h2⟩ := opds_sound hc hs
  obtain ⟨h3, h4⟩ := leafs_spec hl
  have hf : first = #[] := by simpa using h0
  subst hf
  refine OpS.val hs (v := .func f #[] (caps.toList.map a.eval).toArray) (by simp [Instr.makeFunc]; apply Array.ext'; simp) (.c (.x (.fn _ f _ xs (by simp [h3, h1]) fun i v x hv hx => ?_))) hK
  rw [List.getElem?_map] at hv
  cases hi : caps.toList[i]? with
  | none => rw [hi] at hv; cases hv
  | some o =>
    rw [hi] at hv; injection hv with hv; subst hv
    have hlt := (List.getElem?_eq_some_iff.1 hi).1
    have hlt' : i < cs.length := by omega
    have := h2 i o cs[i] hi (List.getElem?_eq_getElem hlt')
    have e := h4 i (cs[i].ev s.tm) x (by rw [List.getElem?_map, List.getElem?_eq_getElem hlt']; rfl) hx
    rw [e] at this
    exact this.leaf

theorem op_ext (hs : Sat N ι ok s a w) {u : Value} {xs : List AC} {i : Nat} {c : AC} (hu : RepV ok w ι u (.tup xs)) (hi : xs[i]? = some c) (hK : K (.c c) s.hp s.nx) : OpS P ι ok s w (do pure (.value (← Instr.extract u i))) K := by
  obtain ⟨vs, rfl, hl, hr⟩ := hu.tuple
  have hlt : i < vs.length := by have := (List.getElem?_eq_some_iff.1 hi).1; omega
  exact OpS.val hs (v := vs[i]) (by simp [Instr.extract, hlt]) (.c (hr i _ c (List.getElem?_eq_getElem hlt) hi)) hK

theorem op_len (hs : Sat N ι ok s a w) {t e : TypeId} {type : TypeId} (hu : P.underlying t = some (.slice e)) {u : Value} {x : AV} (hx : RepV ok w ι u x)
    (h : (∃ c rows, x = .c (.x (.sl c rows)) ∧ K (.c (.x (.v (.int .i64 rows.length)))) s.hp s.nx) ∨ (∃ id off len c, x = .c (.x (.ow id off len c)) ∧ K (.c (.x (.v (.int .i64 len)))) s.hp s.nx)) :
    OpS P ι ok s w (do pure (.value (← Builtin.len_ #[t] type #[u]))) K := by
  rcases h with ⟨c, rows, rfl, hK⟩ | ⟨id, off, len, c, rfl, hK⟩
  · have : ∃ ad cc, u = .slice ad rows.length cc := by
      cases hx.leaf with
      | nil => exact ⟨_, _, rfl⟩
      | sl => exact ⟨_, _, rfl⟩
    obtain ⟨ad, cc, rfl⟩ := this
    exact OpS.val hs (by simp [Builtin.len_, run_underlying hu, goInt]) (rep_int _ _) hK
  · cases hx.leaf with
    | ow _ _ _ _ _ L ad cc =>
      exact OpS.val hs (by simp [Builtin.len_, run_underlying hu, goInt]) (rep_int _ _) hK

theorem op_cap (hs : Sat N ι ok s a w) {t e : TypeId} {type : TypeId} (hu : P.underlying t = some (.slice e)) {u : Value} {x : AOpd} (hx : RepV ok w ι u (x.ev s.tm))
    (h : aop (.cp x) s.tm s.hp s.nx K) : OpS P ι ok s w (do pure (.value (← Builtin.cap_ #[t] type #[u]))) K := by
  simp only [aop] at h
  split at h
  · rename_i rows he
    rw [he] at hx
    have : ∃ ad, u = .slice ad rows.length rows.length := by
      generalize hxx : AL.sl true rows = xx at hx
      cases hx.leaf with
      | nil => injection hxx with e1 e2; subst e2; exact ⟨_, rfl⟩
      | sl _ clip rows' b o c z cv hb hc hcl hz hcell hrep => injection hxx with e1 e2; subst e1 e2; exact ⟨_, by rw [hcl rfl]⟩
      | _ => cases hxx
    obtain ⟨ad, rfl⟩ := this
    exact OpS.val hs (by simp [Builtin.cap_, run_underlying hu, goInt]) (rep_int _ _) h
  · exact h.elim

theorem op_isnil (hs : Sat N ι ok s a w) {t e : TypeId} (hu : P.underlying t = some (.slice e)) (b : Bool) (op : BinOp) (hop : (op = .eql ∧ b = true) ∨ (op = .neq ∧ b = false)) {x : Operand} {u : Value} {x' : AOpd} (hx : RepV ok w ι u (x'.ev s.tm))
    (h : aop (.isnil b x') s.tm s.hp s.nx K) : OpS P ι ok s w (do pure (.value (← (do eqGuard op t x (.const (.slice none 0 0)) u (.slice none 0 0); binOp op t u (.slice none 0 0))))) K := by
  have run : ∀ ad n c, u = .slice ad n c → (do eqGuard op t x (.const (.slice none 0 0)) u (.slice none 0 0); binOp op t u (.slice none 0 0)).run P w = .ok (.bool (if ad.isNone then b else !b)) w := by
    rintro ad n c rfl
    have he : (Op.equal t (.slice ad n c) (.slice none 0 0)).run P w = .ok ad.isNone w := by
      have gen : ∀ d, (Op.equalIn (d + 1) t (.slice ad n c) (.slice none 0 0)).run P w = .ok ad.isNone w := fun d => by
        cases ad <;> simp [Op.equalIn, run_underlying hu]
      exact gen 9999
    rcases hop with ⟨rfl, rfl⟩ | ⟨rfl, rfl⟩ <;> cases ad <;> simp [eqGuard, binOp, he]
  simp only [aop] at h
  split at h
  · rename_i c rows he
    rw [he] at hx
    cases hx.leaf with
    | nil => exact OpS.val hs (run none 0 0 rfl) (rep_bool _) (h.1 rfl)
    | sl _ clip rows' b o c z cv hb hc hcl hz hcell hrep => exact OpS.val hs (run _ _ _ rfl) (rep_bool _) h.2
  · rename_i id off len c he
    rw [he] at hx
    cases hx.leaf with
    | ow _ _ _ _ _ L ad cc h1 h2 h3 h4 h5 h6 =>
      cases ad with
      | none => exact OpS.val hs (run none _ _ rfl) (rep_bool _) (h.1 (by have := h5 rfl; omega))
      | some d => exact OpS.val hs (run _ _ _ rfl) (rep_bool _) h.2
  · exact h.elim

/-- what is compared, cell by cell -/
theorem eqA_sound : ∀ {ks : List (Option IntKind)} {xs ys : List AL} {us vs : List Value} {acc : Bool} {F : Bool → Prop}, eqA ks xs ys acc F → us.length = xs.length → vs.length = ys.length →
    (∀ (i : Nat) (u : Value) (x : AL), us[i]? = some u → xs[i]? = some x → RepL ok w ι u x) → (∀ (i : Nat) (u : Value) (x : AL), vs[i]? = some u → ys[i]? = some x → RepL ok w ι u x) →
    ∃ la lb r, litsOf ks us = some la ∧ litsOf ks vs = some lb ∧ F r ∧ (r = true ↔ acc = true ∧ la = lb)
  | [], [], [], [], [], acc, F, h, _, _, _, _ => ⟨[], [], acc, rfl, rfl, by simpa [eqA] using h, by simp⟩
  | none :: ks, .v (.bool a) :: xs, .v (.bool b) :: ys, u :: us, v :: vs, acc, F, h, hl1, hl2, h1, h2 => by
    have e1 := h1 0 u _ rfl rfl
    have e2 := h2 0 v _ rfl rfl
    cases e1; cases e2
    simp only [eqA] at h
    obtain ⟨la, lb, r, g1, g2, g3, g4⟩ := eqA_sound h (by simpa using hl1) (by simpa using hl2) (fun i u x g g' => h1 (i + 1) u x (by simpa using g) (by simpa using g')) (fun i u x g g' => h2 (i + 1) u x (by simpa using g) (by simpa using g'))
    refine ⟨.bool a :: la, .bool b :: lb, r, by simp [litsOf, litOf, g1], by simp [litsOf, litOf, g2], g3, ?_⟩
    rw [g4]; simp [and_assoc]
  | some q :: ks, .v (.int q1 a) :: xs, .v (.int q2 b) :: ys, u :: us, v :: vs, acc, F, h, hl1, hl2, h1, h2 => by
    have e1 := h1 0 u _ rfl rfl
    have e2 := h2 0 v _ rfl rfl
    cases e1; cases e2
    simp only [eqA] at h
    obtain ⟨rfl, rfl, wa, wb, h⟩ := h
    obtain ⟨la, lb, r, g1, g2, g3, g4⟩ := eqA_sound h (by simpa using hl1) (by simpa using hl2) (fun i u x g g' => h1 (i + 1) u x (by simpa using g) (by simpa using g')) (fun i u x g g' => h2 (i + 1) u x (by simpa using g) (by simpa using g'))
    refine ⟨.int _ a :: la, .int _ b :: lb, r, by simp [litsOf, litOf, g1, wa]; rfl, by simp [litsOf, litOf, g2, wb]; rfl, g3, ?_⟩
    rw [g4]; simp [and_assoc]

theorem leafK_len {d : Nat} {t : TypeId} {ks : List (Option IntKind)} (h : leafK P (d + 1) t = some ks) (hsh : (∃ n e, P.underlying t = some (.array n e)) ∨ ∃ fs, P.underlying t = some (.struct fs)) : ks.length = P.cellsOf t := by
  rcases hsh with ⟨n, e, hu⟩ | ⟨fs, hu⟩
  · simp only [leafK, hu] at h
    split at h
    case h_2 => cases h
    split at h
    case isFalse => cases h
    rename_i hc
    injection h with h; subst h
    rw [← hc.2]; simp
  · simp only [leafK, hu] at h
    split at h
    case h_2 => cases h
    split at h
    case isFalse => cases h
    rename_i hc
    injection h with h; subst h
    exact hc.1

theorem op_eqv (hs : Sat N ι ok s a w) {t : TypeId} {ks : List (Option IntKind)} (hk : leafK P 9 t = some ks) (hg : P.eqGuardType P.depth t = false) (hkt : P.keyTypeAt 9 t = true)
    (hsh : (∃ n e, P.underlying t = some (.array n e)) ∨ ∃ fs, P.underlying t = some (.struct fs)) (neg : Bool) (op : BinOp) (hop : (op = .eql ∧ neg = false) ∨ (op = .neq ∧ neg = true)) {x y : Operand} {u v : Value} {x' y' : AOpd}
    (hu : RepV ok w ι u (x'.ev s.tm)) (hv : RepV ok w ι v (y'.ev s.tm)) (h : aop (.eqv neg ks x' y') s.tm s.hp s.nx K) : OpS P ι ok s w (do pure (.value (← (do eqGuard op t x y u v; binOp op t u v)))) K := by
  simp only [aop] at h
  split at h
  case h_2 => exact h.elim
  rename_i ca cb ea eb
  rw [ea] at hu; rw [eb] at hv
  cases hu.comp with
  | agg l1 r1 =>
  cases hv.comp with
  | agg l2 r2 =>
  rename_i cs ds
  obtain ⟨la, lb, r0, g1, g2, g3, g4⟩ := eqA_sound h l1 l2 r1 r2
  have form : ∀ {zs : List Value} {lz : List Lit}, litsOf ks zs = some lz → (Value.agg zs.toArray).formed P t = true := fun {zs lz} hl => by
    have hlen := litsOf_len hl
    have := leafK_len hk hsh
    rcases hsh with ⟨n, e, hu⟩ | ⟨fs, hu⟩ <;> simp [Value.formed, hu, hlen, this]
  obtain ⟨r, hr, hiff⟩ := run_equalIn_deep (10000 - 9) 9 t hkt w 9 9 (.agg cs.toArray) (.agg ds.toArray) la lb (form g1) (form g2) (keyLits_of 9 t ks _ la hk (by simpa [Value.cells] using g1)) (keyLits_of 9 t ks _ lb hk (by simpa [Value.cells] using g2))
  have hr' : (Op.equal t (.agg cs.toArray) (.agg ds.toArray)).run P w = .ok r w := hr
  have er : r = r0 := by
    rw [Bool.eq_iff_iff, hiff, g4]; simp
  have hK : K (.c (.x (.v (.bool (r != neg))))) s.hp s.nx := by rw [er]; exact g3
  refine OpS.val hs (v := .bool (r != neg)) ?_ (rep_bool _) hK
  rcases hop with ⟨rfl, rfl⟩ | ⟨rfl, rfl⟩ <;> simp [eqGuard, hg, binOp, hr']

theorem op_eqb (hs : Sat N ι ok s a w) {t : TypeId} (ht : P.underlying t = some .bool) (neg : Bool) (op : BinOp) (hop : (op = .eql ∧ neg = false) ∨ (op = .neq ∧ neg = true)) {x y : Operand} {u v : Value} {x' y' : AOpd}
    (hu : RepV ok w ι u (x'.ev s.tm)) (hv : RepV ok w ι v (y'.ev s.tm)) (h : aop (.eqb neg x' y') s.tm s.hp s.nx K) : OpS P ι ok s w (do pure (.value (← (do eqGuard op t x y u v; binOp op t u v)))) K := by
  simp only [aop] at h
  split at h
  case h_2 => exact h.elim
  rename_i ca cb ea eb
  rw [ea] at hu; rw [eb] at hv
  have e1 := hu.bool; have e2 := hv.bool
  subst e1 e2
  have hr : (Op.equal t (.bool ca) (.bool cb)).run P w = .ok (ca == cb) w := by
    have gen : ∀ d, (Op.equalIn (d + 1) t (.bool ca) (.bool cb)).run P w = .ok (ca == cb) w := fun d => by
      simp [Op.equalIn, run_underlying ht]
    exact gen 9999
  refine OpS.val hs (v := .bool ((ca == cb) != neg)) ?_ (rep_bool _) h
  rcases hop with ⟨rfl, rfl⟩ | ⟨rfl, rfl⟩ <;> simp [eqGuard, binOp, hr]

theorem op_mkbm (hs : Sat N ι ok s a w) {f : Fn} {first caps : Array Operand} {o : Operand} {x : AOpd} {xs : List AL} (h0 : first.toList = [o]) (hc : caps.size = 0) (ho : opd o = some x) (hx : x.ev s.tm = .c (.agg xs))
    (hK : K (.c (.x (.bm f xs))) s.hp s.nx) : OpS P ι ok s w (do pure (.value (← Instr.makeFunc f (first.map a.eval) (caps.map a.eval)))) K := by
  have h1 := opd_sound ho hs
  rw [hx] at h1
  have e1 : first = #[o] := by apply Array.ext'; simpa using h0
  have e2 : caps = #[] := by simpa using hc
  subst e1 e2
  generalize hv : a.eval o = v at h1
  cases h1.comp with
  | agg hl hr =>
    rename_i cs
    exact OpS.val hs (v := .func f #[.agg cs.toArray] #[]) (by simp [Instr.makeFunc, hv]) (.c (.x (.bm _ f cs xs hl hr))) hK

theorem madeCells_rows {n sz : Nat} {z : Value} (hz : z.cells.size = sz) (hn : sz ≠ 0) (hone : ∀ v ∈ z.cells.toList, v.oneCell' = true) :
    RepRows ok w ι sz (madeCells z.cells (n * sz)) (List.replicate n (z.cells.toList.map cellA)) := by
  have := zero_rows (ok := ok) (w := w) (ι := ι) (n := n) hz hn hone
  unfold madeCells
  exact this

theorem zeroCells_eq {z : Value} {n m : Nat} (hz : z.cells.size = m) : Builtin.zeroCells z.cells n = madeCells z.cells (n * m) := by
  subst hz; rfl

theorem op_appz (hs : Sat N ι ok s a w) {t tn ty e : TypeId} {kn : IntKind} {i : TypeInfo} {zs : List AL} (hu : P.underlying t = some (.slice e)) (htn : P.underlying tn = some (.int kn)) (hz : zeroA P e = some zs) (hi : P.info? e = some i) (hne : i.size ≠ 0) {u v : Value} {n : Int}
    (hx : RepV ok w ι u (.c (.x (.sl true [])))) (hn : RepV ok w ι v (.c (.x (.v (.int .i64 n))))) (h0 : 0 ≤ n) (hb : n * i.bytes ≤ 140737488355328) (h62 : n ≤ 4611686018427387904)
    (hK : K (.c (.x (.ow s.nx 0 n.toNat false))) (hset s.hp s.nx (.blk i.size (List.replicate n.toNat zs) true (zs.all AL.pure))) (s.nx + 1)) : OpS P ι ok s w (do pure (.value (← Builtin.append_ #[t, tn] ty #[u, v]))) K := by
  have e2 := hn.int
  subst e2
  obtain ⟨m, rfl⟩ : ∃ m : Nat, n = m := ⟨n.toNat, by omega⟩
  obtain ⟨i', z, hi', hzz, hsz, rfl, hone, hlen⟩ := zeroA_spec hz
  rw [hi] at hi'; injection hi' with hi'; subst hi'
  obtain ⟨f1, f2⟩ := hs.hs.fresh s.nx (Nat.le_refl _)
  obtain ⟨ad, rfl, hsp⟩ : ∃ ad, u = .slice ad 0 0 ∧ (∀ d, ad = some d → d.spot = none) := by
    generalize hxx : AL.sl true [] = xx at hx
    cases hx.leaf with
    | nil _ clip => exact ⟨none, rfl, by simp⟩
    | sl _ clip rows b o c z cv hb hc hcl hz' hcell hrep =>
      injection hxx with e1 e2; subst e1 e2
      exact ⟨some ⟨b, o, none⟩, by simp [hcl rfl], by intro d hd; injection hd with hd; subst hd; rfl⟩
    | _ => cases hxx
  simp only [Int.toNat_natCast] at hK
  by_cases hm : m = 0
  · subst hm
    obtain ⟨h1, h2⟩ := hs.hs.empty (z := i.size) (mt := true) (pu := (z.cells.toList.map cellA).all AL.pure) f1 f2 (nx' := s.nx + 1) (Nat.lt_succ_self _) (by omega) (Nat.le_refl _)
    have hrun : (Builtin.append_ #[t, tn] ty #[.slice ad 0 0, .int .i64 ((0 : Nat) : Int)]).run P w = .ok (.slice ad 0 0) w := by
      cases ad <;> simp [Builtin.append_, run_underlying hu, run_underlying htn, sizeOf, typeInfo, hi, asInt, asIntOf, IntKind.wrap_i64, storeCells]
    exact OpS.of hrun (by simpa using hK) h1 h2 (.c (.x (.ow _ s.nx 0 0 false _ ad 0 (imset_same _ _ _) (Nat.le_refl _) (by simp) hsp (by simp) (fun h => absurd rfl h)))) (Nat.le_succ _)
  · have hrun := Lib.run_append_grow_zeros (P := P) w t tn ty e i z .i64 kn hu htn hi hzz ad 0 0 [] (by
      cases ad with
      | none => simp [run_firstCells_none]
      | some d => exact run_firstCells_some w.drew i.size 0 d 0 0 [] (by simp) (by simp)) m (by omega) (by omega) (by omega) (by omega) (by omega) (by rw [Nat.zero_add, nextslicecap_zero (by omega)]; omega)
    simp only [Nat.zero_add] at hrun
    generalize hG : grownCap w m 0 e = G at hrun
    have hge : m ≤ G := by rw [← hG]; exact grownCap_ge _ _ _ _
    have hs1 : HSat ι ok s.hp s.nx w.drew := hs.hs.heap rfl
    have hrows := madeCells_rows (ok := ok) (w := w.drew) (ι := ι) (n := m) hsz hne hone
    have hC : (#[] ++ Builtin.zeroCells z.cells m ++ Builtin.zeroCells z.cells (G - m)) = madeCells z.cells (m * i.size) ++ Builtin.zeroCells z.cells (G - m) := by
      rw [zeroCells_eq hsz]; simp
    rw [show ([] : List Value).toArray = #[] from rfl, hC] at hrun
    have hnew := new_sound hs1 f1 f2 (nx' := s.nx + 1) (Nat.lt_succ_self _) (Nat.le_succ _) (madeCells z.cells (m * i.size) ++ Builtin.zeroCells z.cells (G - m)) e (List.replicate m (z.cells.toList.map cellA)) ((z.cells.toList.map cellA).all AL.pure) (cap := G) hrows.2.1 (by simpa using hge)
      (by rw [Array.size_append, hrows.1]; simp [Builtin.zeroCells, hsz]; rw [← Nat.add_mul]; congr 1; omega) (fun k j r x hk hj => by
      obtain ⟨y, hy, hry⟩ := hrows.2.2 k j r x hk hj
      refine ⟨y, ?_, hry.pim_in fun hp => ?_⟩
      · rw [Array.getElem?_append_left (Array.getElem?_eq_some_iff.1 hy).1]; exact hy
      · rw [List.all_eq_true] at hp
        have := List.eq_of_mem_replicate (List.mem_of_getElem? hk)
        subst this
        exact hp x (List.mem_of_getElem? hj))
    exact OpS.of hrun hK hnew ((Ext.drew).trans (new_ext f1 (Nat.le_refl _) _ e _ _) (Nat.le_refl _)) (.c (.x (.ow _ s.nx 0 m false _ _ G (imset_same _ _ _) hge (by simp) (by intro d hd; injection hd with hd; subst hd; rfl) (by simp) (fun h => ⟨w.heap.size, rfl, by simp, by simp⟩)))) (Nat.le_succ _)

theorem max_run : ∀ {r : List AV} {vs : List Value} {x y : AV} {u : Value}, RepV ok w ι u x → vs.length = r.length → (∀ (i : Nat) (v : Value) (z : AV), vs[i]? = some v → r[i]? = some z → RepV ok w ι v z) → maxA x r = some y →
    ∃ v, (vs.foldlM Builtin.max2 u).run P w = .ok v w ∧ RepV ok w ι v y
  | [], vs, x, y, u, hu, hl, hv, h => by
    have : vs = [] := List.eq_nil_of_length_eq_zero hl
    subst this
    unfold maxA at h
    split at h
    · injection h with h; subst h; exact ⟨u, by simp, hu⟩
    · rename_i h1 h2; cases h2
    · cases h
  | z :: r, [], x, y, u, hu, hl, hv, h => by simp at hl
  | z :: r, v :: vs, x, y, u, hu, hl, hv, h => by
    unfold maxA at h
    split at h
    · rename_i h2; cases h2
    · rename_i k m k' n rr hh
      injection hh with h1 h2; subst h1 h2
      have e1 := hu.int
      have e2 := (hv 0 v _ rfl rfl).int
      subst e1 e2
      obtain ⟨v', h1, h2⟩ := max_run (rep_int k (if n > m then n else m)) (by simpa using hl) (fun i v z h1 h2 => hv (i + 1) v z (by simpa using h1) (by simpa using h2)) h
      exact ⟨v', by simp only [List.foldlM_cons, Sem.run_bind, Builtin.max2, Sem.run_pure, Result.andThen_ok]; exact h1, h2⟩
    · cases h

theorem min_run : ∀ {r : List AV} {vs : List Value} {x y : AV} {u : Value}, RepV ok w ι u x → vs.length = r.length → (∀ (i : Nat) (v : Value) (z : AV), vs[i]? = some v → r[i]? = some z → RepV ok w ι v z) → minA x r = some y →
    ∃ v, (vs.foldlM Builtin.min2 u).run P w = .ok v w ∧ RepV ok w ι v y
  | [], vs, x, y, u, hu, hl, hv, h => by
    have : vs = [] := List.eq_nil_of_length_eq_zero hl
    subst this
    unfold minA at h
    split at h
    · injection h with h; subst h; exact ⟨u, by simp, hu⟩
    · rename_i h1 h2; cases h2
    · cases h
  | z :: r, [], x, y, u, hu, hl, hv, h => by simp at hl
  | z :: r, v :: vs, x, y, u, hu, hl, hv, h => by
    unfold minA at h
    split at h
    · rename_i h2; cases h2
    · rename_i k m k' n rr hh
      injection hh with h1 h2; subst h1 h2
      have e1 := hu.int
      have e2 := (hv 0 v _ rfl rfl).int
      subst e1 e2
      obtain ⟨v', h1, h2⟩ := min_run (rep_int k (if n < m then n else m)) (by simpa using hl) (fun i v z h1 h2 => hv (i + 1) v z (by simpa using h1) (by simpa using h2)) h
      exact ⟨v', by simp only [List.foldlM_cons, Sem.run_bind, Builtin.min2, Sem.run_pure, Result.andThen_ok]; exact h1, h2⟩
    · cases h

theorem op_mksl (hs : Sat N ι ok s a w) {t e : TypeId} {i : TypeInfo} {zs : List AL} (hu : P.underlying t = some (.slice e)) (hz : zeroA P e = some zs) (hi : P.info? e = some i) (hne : i.size ≠ 0) {u v : Value} {l : Int}
    (hl : RepV ok w ι u (.c (.x (.v (.int .i64 l))))) (hc : RepV ok w ι v (.c (.x (.v (.int .i64 l))))) (h0 : 0 ≤ l) (hb : l * i.bytes ≤ 140737488355328) (h62 : l ≤ 4611686018427387904)
    (hK : K (.c (.x (.ow s.nx 0 l.toNat false))) (hset s.hp s.nx (.blk i.size (List.replicate l.toNat zs) true (zs.all AL.pure))) (s.nx + 1)) : OpS P ι ok s w (do pure (.value (← Instr.makeSlice t u v))) K := by
  have e1 := hl.int; have e2 := hc.int
  subst e1 e2
  obtain ⟨i', z, hi', hzz, hsz, rfl, hone, hlen⟩ := zeroA_spec hz
  rw [hi] at hi'; injection hi' with hi'; subst hi'
  obtain ⟨f1, f2⟩ := hs.hs.fresh s.nx (Nat.le_refl _)
  have hrun := run_make (P := P) w t e i z hu hi hzz .i64 .i64 l l h0 (Int.le_refl _) (by rw [Int.mul_comm]; omega) (by omega)
  have hrows := madeCells_rows (ok := ok) (w := w) (ι := ι) (n := l.toNat) hsz hne hone
  have hnew := new_sound hs.hs f1 f2 (nx' := s.nx + 1) (Nat.lt_succ_self _) (Nat.le_succ _) (madeCells z.cells (l.toNat * i.size)) e (List.replicate l.toNat (z.cells.toList.map cellA)) ((z.cells.toList.map cellA).all AL.pure) (cap := l.toNat) hrows.2.1 (by simp) (by rw [hrows.1]; simp) (fun k j r x hk hj => by
    obtain ⟨y, hy, hry⟩ := hrows.2.2 k j r x hk hj
    refine ⟨y, hy, hry.pim_in fun hp => ?_⟩
    rw [List.all_eq_true] at hp
    have := List.eq_of_mem_replicate (List.mem_of_getElem? hk)
    subst this
    exact hp x (List.mem_of_getElem? hj))
  exact OpS.of hrun hK hnew (new_ext f1 (Nat.le_refl _) _ e _ _) (.c (.x (.ow _ s.nx 0 l.toNat false _ _ l.toNat (imset_same _ _ _) (Nat.le_refl _) (by simp) (by intro d hd; injection hd with hd; subst hd; rfl) (by simp) (fun h => ⟨w.heap.size, rfl, by simp, by simp⟩)))) (Nat.le_succ _)

theorem op_app (hs : Sat N ι ok s a w) {t tx ty e e' : TypeId} {i : TypeInfo} {zs : List AL} (ht : P.underlying t = some (.slice e)) (htx : P.underlying tx = some (.slice e')) (hi : P.info? e = some i) (hz : zeroA P e = some zs) {u v : Value} {x y : AV}
    (hu : RepV ok w ι u x) (hv : RepV ok w ι v y) (h : (∃ y' srows sp, x = .c (.x (.sl true [])) ∧ y = .c (.x y') ∧ srcA s.hp y' = some (srows, sp) ∧ (∀ r ∈ srows, r.length = i.size) ∧ srows.length * i.bytes ≤ 140737488355328 ∧ srows.length ≤ 4611686018427387904 ∧
          K (.c (.x (.ow s.nx 0 srows.length false))) (hset s.hp s.nx (.blk i.size srows true sp)) (s.nx + 1)) ∨
      (∃ id off len clip y' rows p srows sp, x = .c (.x (.ow id off len clip)) ∧ y = .c (.x y') ∧ s.hp id = .blk i.size rows true p ∧ srcA s.hp y' = some (srows, sp) ∧ off + len ≤ rows.length ∧ (∀ r ∈ srows, r.length = i.size) ∧ (len + srows.length) * i.bytes ≤ 140737488355328 ∧ len + srows.length ≤ 4611686018427387904 ∧
          K (.c (.x (.ow s.nx 0 (len + srows.length) false))) (hset (hset s.hp id .none) s.nx (.blk i.size ((rows.drop off).take len ++ srows) true (p && sp))) (s.nx + 1))) :
    OpS P ι ok s w (do pure (.value (← Builtin.append_ #[t, tx] ty #[u, v]))) K := by
  obtain ⟨i', z, hi', hzz, hsz, _, _, _⟩ := zeroA_spec hz
  rw [hi] at hi'; injection hi' with hi'; subst hi'
  obtain ⟨f1, f2⟩ := hs.hs.fresh s.nx (Nat.le_refl _)
  rcases h with ⟨y', srows, sp, rfl, rfl, hsrc, hrows, hb, h62, hK⟩ | ⟨id, off, len, clip, y', rows, p, srows, sp, rfl, rfl, hH, hsrc, htip, hrows, hb, h62, hK⟩
  · obtain ⟨r, w', ι', h1, h2, h3, h4⟩ := (append_nil (P := P) (ty := ty) (nx' := s.nx + 1) hs.hs f1 f2 (Nat.le_refl _) (Nat.lt_succ_self _) ht htx hi hzz hsz hu.leaf hv.leaf hsrc hrows hb h62).out
    exact OpS.of h1 hK h2 h3 (.c (.x h4)) (Nat.le_succ _)
  · obtain ⟨r, w', ι', h1, h2, h3, h4⟩ := (append_own (P := P) (ty := ty) (nx' := s.nx + 1) hs.hs f1 f2 (Nat.le_refl _) (Nat.lt_succ_self _) ht htx hi hzz hsz hu.leaf hH htip hv.leaf hsrc hrows hb h62).out
    exact OpS.of h1 hK h2 h3 (.c (.x h4)) (Nat.le_succ _)

theorem callB {b : Builtin} {args : Array Operand} {argTypes : Array TypeId} {dst : Option Tmp} {type : TypeId} {pos : String} {after : Array Edge} {gd : Option (Nat × Bool)} :
    ∃ consts, execOp a.eval { dst, op := .call { callee := .builtin b, args, argTypes }, type, pos, after, guard := gd } = builtin b argTypes type consts (args.map a.eval) :=
  ⟨_, rfl⟩

set_option maxHeartbeats 1600000 in
theorem aop_sound (hs : Sat N ι ok s a w) {o : Oper} {ao : AOp} (hc : compOp P o.op = some ao) {fz : Bool} (h : aop (ao.fz fz) s.tm s.hp s.nx K) : OpS P ι ok s w (execOp a.eval o) K := by
  obtain ⟨dst, op, type, pos, after, gd⟩ := o
  simp only at hc
  cases op with
  | move x =>
    simp only [compOp, Option.map_eq_some_iff] at hc
    obtain ⟨x', hx, rfl⟩ := hc
    exact OpS.pureVal hs (opd_sound hx hs) h
  | assign x =>
    simp only [compOp, Option.map_eq_some_iff] at hc
    obtain ⟨x', hx, rfl⟩ := hc
    exact OpS.pureVal hs (opd_sound hx hs) h
  | pick c x y =>
    simp only [compOp, Option.bind_eq_bind, Option.bind_eq_some_iff] at hc
    obtain ⟨c', hc', x', hx, y', hy, hc⟩ := hc
    injection hc with hc; subst hc
    simp only [AOp.fz, aop] at h
    split at h
    · rename_i t he
      have hcr := opd_sound hc' hs
      rw [he] at hcr
      have hcb := hcr.bool
      simp only [execOp, hcb, asBool, bind_pure_comp]
      refine ⟨if t = true then a.eval x else a.eval y, w, _, s.hp, s.nx, ι, ok, .inl (by cases t <;> simp), h, hs.hs, .refl, pick_rep (opd_sound hx hs) (opd_sound hy hs), Nat.le_refl _⟩
    · exact h.elim
  | alloc t =>
    simp only [compOp, Option.bind_eq_bind, Option.bind_eq_some_iff] at hc
    obtain ⟨z, hz, hc⟩ := hc
    split at hc
    · cases hc
    · injection hc with hc; subst hc
      exact op_alloc hs hz h
  | box t x =>
    simp only [compOp, Option.bind_eq_bind, Option.bind_eq_some_iff] at hc
    obtain ⟨x', hx, hc⟩ := hc
    injection hc with hc; subst hc
    simp only [AOp.fz, aop] at h
    split at h
    · rename_i c he
      have hr := opd_sound hx hs
      rw [he] at hr
      exact op_box hs hr.comp h
    · exact h.elim
  | build t parts =>
    simp only [compOp] at hc
    split at hc
    · rename_i fields hu
      simp only [Option.bind_eq_bind, Option.bind_eq_some_iff] at hc
      obtain ⟨z, hz, pl, hpl, ps, hps, hc⟩ := hc
      injection hc with hc; subst hc
      simp only [AOp.fz, aop] at h
      split at h
      · rename_i cells hf
        exact op_build_struct hs hu hz hpl (by simpa only [Option.bind_eq_bind] using hps) hf h
      · exact h.elim
    · rename_i n e hu
      simp only [Option.bind_eq_bind, Option.bind_eq_some_iff] at hc
      obtain ⟨z, hz, sz, hsz, ps, hps, hc⟩ := hc
      injection hc with hc; subst hc
      simp only [AOp.fz, aop] at h
      split at h
      · rename_i cells hf
        exact op_build_array hs hu hz hsz (by simpa only [Option.bind_eq_bind] using hps) hf h
      · exact h.elim
    · cases hc
  | buildSlice t len parts =>
    simp only [compOp] at hc
    split at hc
    · rename_i e hu
      simp only [Option.bind_eq_bind, Option.bind_eq_some_iff] at hc
      obtain ⟨z, hz, sz, hsz, ps, hps, hc⟩ := hc
      split at hc
      · rename_i hcond
        injection hc with hc; subst hc
        simp only [AOp.fz, aop] at h
        split at h
        · rename_i rows hf
          split at h
          · exact op_bslF hs hu hz hsz (by simpa only [Option.bind_eq_bind] using hps) hcond.1 hcond.2 hf h.1 h.2
          · exact op_bslice hs hu hz hsz (by simpa only [Option.bind_eq_bind] using hps) hcond.1 hcond.2 hf h
        · exact h.elim
      · cases hc
    · cases hc
  | load t x =>
    simp only [compOp, Option.bind_eq_bind, Option.bind_eq_some_iff] at hc
    obtain ⟨sz, hsz, hc⟩ := hc
    split at hc
    · cases hc
    · rename_i hne
      simp only [Option.bind_eq_some_iff] at hc
      obtain ⟨ag, hag, x', hx, hc⟩ := hc
      injection hc with hc; subst hc
      simp only [AOp.fz, aop] at h
      split at h
      · rename_i l he
        have hr := opd_sound hx hs
        rw [he] at hr
        split at h
        · rename_i xs hld
          obtain ⟨u, hrun, g1, g2⟩ := load_sound (P := P) hs hsz hag hne hr.leaf hld
          cases ag with
          | true => exact OpS.val hs hrun (g1 rfl) h
          | false =>
            unfold outF at h
            split at h
            · rename_i hh; cases hh
            · exact OpS.val hs hrun (g2 rfl _ rfl) h
            · exact h.elim
        · exact h.elim
      · exact h.elim
  | store t x y =>
    simp only [compOp, Option.bind_eq_bind, Option.bind_eq_some_iff] at hc
    obtain ⟨sz, hsz, hc⟩ := hc
    split at hc
    · cases hc
    · rename_i hne
      simp only [Option.bind_eq_some_iff] at hc
      obtain ⟨x', hx, y', hy, hc⟩ := hc
      injection hc with hc; subst hc
      simp only [AOp.fz, aop] at h
      split at h
      · rename_i id row off c he1 he2
        have hr := opd_sound hx hs
        have hr2 := opd_sound hy hs
        rw [he1] at hr; rw [he2] at hr2
        split at h
        · rename_i z rows pu hH
          split at h
          · rename_i r hrow
            obtain ⟨h1, h2, hK⟩ := h
            obtain ⟨w', hrun, g1, g2⟩ := store_sound (P := P) hs hsz hne hr.leaf hr2.comp hH hrow h1 h2
            refine ⟨undef, w', _, _, s.nx, ι, ok, .inr ⟨?_, rfl⟩, hK, g1, g2, undef_rep, Nat.le_refl _⟩
            simp [execOp, hrun]
          · exact h.elim
        · exact h.elim
      · exact h.elim
  | nilCheck x =>
    simp only [compOp, Option.bind_eq_bind, Option.bind_eq_some_iff] at hc
    obtain ⟨x', hx, hc⟩ := hc
    injection hc with hc; subst hc
    simp only [AOp.fz, aop] at h
    have hr := opd_sound hx hs
    split at h
    · rename_i id row off he
      rw [he] at hr
      obtain ⟨p, hp⟩ : ∃ p, a.eval x = .pointer (some p) := by
        generalize hg : a.eval x = u at hr
        cases hr.leaf; exact ⟨_, rfl⟩
      simp only [execOp, hp]
      rw [hp] at hr
      exact OpS.pureVal hs hr h
    · rename_i rows row off he
      rw [he] at hr
      obtain ⟨p, hp⟩ : ∃ p, a.eval x = .pointer (some p) := by
        generalize hg : a.eval x = u at hr
        cases hr.leaf; exact ⟨_, rfl⟩
      simp only [execOp, hp]
      rw [hp] at hr
      exact OpS.pureVal hs hr h
    · exact h.elim
  | binOp op xt x y yt =>
    simp only [compOp] at hc
    split at hc
    · rename_i e hu
      simp only [Option.bind_eq_bind, Option.bind_eq_some_iff] at hc
      obtain ⟨x', hx, hc⟩ := hc
      injection hc with hc; subst hc
      exact op_isnil hs hu true .eql (.inl ⟨rfl, rfl⟩) (opd_sound hx hs) h
    · rename_i e hu
      simp only [Option.bind_eq_bind, Option.bind_eq_some_iff] at hc
      obtain ⟨x', hx, hc⟩ := hc
      injection hc with hc; subst hc
      exact op_isnil hs hu false .neq (.inr ⟨rfl, rfl⟩) (opd_sound hx hs) h
    · rename_i hu
      simp only [Option.bind_eq_bind, Option.bind_eq_some_iff] at hc
      obtain ⟨x', hx, y', hy, hc⟩ := hc
      injection hc with hc; subst hc
      exact op_eqb hs hu false .eql (.inl ⟨rfl, rfl⟩) (opd_sound hx hs) (opd_sound hy hs) h
    · rename_i hu
      simp only [Option.bind_eq_bind, Option.bind_eq_some_iff] at hc
      obtain ⟨x', hx, y', hy, hc⟩ := hc
      injection hc with hc; subst hc
      exact op_eqb hs hu true .neq (.inr ⟨rfl, rfl⟩) (opd_sound hx hs) (opd_sound hy hs) h
    · rename_i hu
      simp only [Option.bind_eq_bind, Option.bind_eq_some_iff] at hc
      obtain ⟨ks, hk, hc⟩ := hc
      split at hc
      case isFalse => cases hc
      rename_i hg
      simp only [Option.bind_eq_some_iff] at hc
      obtain ⟨x', hx, y', hy, hc⟩ := hc
      injection hc with hc; subst hc
      exact op_eqv hs hk hg.1 hg.2 (.inr ⟨_, hu⟩) false .eql (.inl ⟨rfl, rfl⟩) (opd_sound hx hs) (opd_sound hy hs) h
    · rename_i hu
      simp only [Option.bind_eq_bind, Option.bind_eq_some_iff] at hc
      obtain ⟨ks, hk, hc⟩ := hc
      split at hc
      case isFalse => cases hc
      rename_i hg
      simp only [Option.bind_eq_some_iff] at hc
      obtain ⟨x', hx, y', hy, hc⟩ := hc
      injection hc with hc; subst hc
      exact op_eqv hs hk hg.1 hg.2 (.inr ⟨_, hu⟩) true .neq (.inr ⟨rfl, rfl⟩) (opd_sound hx hs) (opd_sound hy hs) h
    · rename_i hu
      simp only [Option.bind_eq_bind, Option.bind_eq_some_iff] at hc
      obtain ⟨ks, hk, hc⟩ := hc
      split at hc
      case isFalse => cases hc
      rename_i hg
      simp only [Option.bind_eq_some_iff] at hc
      obtain ⟨x', hx, y', hy, hc⟩ := hc
      injection hc with hc; subst hc
      exact op_eqv hs hk hg.1 hg.2 (.inl ⟨_, _, hu⟩) false .eql (.inl ⟨rfl, rfl⟩) (opd_sound hx hs) (opd_sound hy hs) h
    · rename_i hu
      simp only [Option.bind_eq_bind, Option.bind_eq_some_iff] at hc
      obtain ⟨ks, hk, hc⟩ := hc
      split at hc
      case isFalse => cases hc
      rename_i hg
      simp only [Option.bind_eq_some_iff] at hc
      obtain ⟨x', hx, y', hy, hc⟩ := hc
      injection hc with hc; subst hc
      exact op_eqv hs hk hg.1 hg.2 (.inl ⟨_, _, hu⟩) true .neq (.inr ⟨rfl, rfl⟩) (opd_sound hx hs) (opd_sound hy hs) h
    · simp only [Option.bind_eq_bind, Option.bind_eq_some_iff] at hc
      obtain ⟨x', hx, y', hy, hc⟩ := hc
      injection hc with hc; subst hc
      exact op_bin hs (opd_sound hx hs) (opd_sound hy hs) h
  | unOp op xt x =>
    simp only [compOp, Option.bind_eq_bind, Option.bind_eq_some_iff] at hc
    obtain ⟨x', hx, hc⟩ := hc
    injection hc with hc; subst hc
    exact op_un hs (opd_sound hx hs) h
  | convert sT dT x =>
    simp only [compOp] at hc
    split at hc
    · rename_i k0 k h1 h2
      simp only [Option.bind_eq_bind, Option.bind_eq_some_iff] at hc
      obtain ⟨x', hx, hc⟩ := hc
      injection hc with hc; subst hc
      simp only [AOp.fz, aop] at h
      split at h
      · rename_i k1 n he
        have hr := opd_sound hx hs
        rw [he] at hr
        exact op_conv hs h1 h2 hr h
      · exact h.elim
    · cases hc
  | makeFunc f first caps =>
    simp only [compOp] at hc
    split at hc
    · rename_i h0
      simp only [Option.bind_eq_bind, Option.bind_eq_some_iff] at hc
      obtain ⟨cs, hcs, hc⟩ := hc
      injection hc with hc; subst hc
      simp only [AOp.fz, aop] at h
      split at h
      · rename_i xs hl
        exact op_mkfn hs h0 hcs hl h
      · exact h.elim
    · split at hc
      · rename_i x he
        split at hc
        · rename_i h0
          simp only [Option.bind_eq_bind, Option.bind_eq_some_iff] at hc
          obtain ⟨x', hx, hc⟩ := hc
          injection hc with hc; subst hc
          simp only [AOp.fz, aop] at h
          split at h
          · rename_i xs hxs
            exact op_mkbm hs he h0 hx hxs h
          · exact h.elim
        · cases hc
      · cases hc
  | slice t x lo hi mx =>
    simp only [compOp] at hc
    split at hc
    · rename_i e hu
      simp only [Option.bind_eq_bind, Option.bind_eq_some_iff] at hc
      obtain ⟨sz, hsz, x', hx, lo', hlo, hi', hhi, mx', hmx, hc⟩ := hc
      split at hc
      · rename_i hmh
        injection hc with hc; subst hc
        exact op_slc hs hu hsz (opd_sound hx hs) hlo hhi hmx (by simpa using hmh) h
      · cases hc
    · cases hc
  | fieldAddr t x f =>
    simp only [compOp] at hc
    split at hc
    · rename_i fields hu
      simp only [Option.bind_eq_bind, Option.bind_eq_some_iff] at hc
      obtain ⟨fd, hfd, sz, hsz, hc⟩ := hc
      split at hc
      · cases hc
      · rename_i hne
        simp only [Option.bind_eq_some_iff] at hc
        obtain ⟨x', hx, hc⟩ := hc
        injection hc with hc; subst hc
        exact op_fadr hs hu hfd hsz hne (opd_sound hx hs) h
    · cases hc
  | field t x f =>
    simp only [compOp] at hc
    split at hc
    · rename_i fields hu
      simp only [Option.bind_eq_bind, Option.bind_eq_some_iff] at hc
      obtain ⟨fd, hfd, sz, hsz, ag, hag, x', hx, hc⟩ := hc
      injection hc with hc; subst hc
      simp only [AOp.fz, aop] at h
      split at h
      · rename_i cs he
        have hr := opd_sound hx hs
        rw [he] at hr
        split at h
        · rename_i xs hrow
          exact op_fld hs hu hfd hsz hag hr hrow h
        · exact h.elim
      · exact h.elim
    · cases hc
  | indexAddr t x i =>
    simp only [compOp] at hc
    split at hc
    · rename_i e hu
      simp only [Option.bind_eq_bind, Option.bind_eq_some_iff] at hc
      obtain ⟨sz, hsz, x', hx, i', hi, hc⟩ := hc
      injection hc with hc; subst hc
      exact op_iadr hs hu hsz (opd_sound hx hs) (opd_sound hi hs) h
    · rename_i n e hu
      simp only [Option.bind_eq_bind, Option.bind_eq_some_iff] at hc
      obtain ⟨sz, hsz, x', hx, i', hi, hc⟩ := hc
      injection hc with hc; subst hc
      exact op_iadrA hs hu hsz (opd_sound hx hs) (opd_sound hi hs) h
    · cases hc
  | index t x i =>
    simp only [compOp] at hc
    split at hc
    · rename_i n e hu
      simp only [Option.bind_eq_bind, Option.bind_eq_some_iff] at hc
      obtain ⟨sz, hsz, ag, hag, x', hx, i', hi, hc⟩ := hc
      injection hc with hc; subst hc
      simp only [AOp.fz, aop] at h
      split at h
      · rename_i cs k i0 he1 he2
        have hr := opd_sound hx hs
        have hr2 := opd_sound hi hs
        rw [he1] at hr; rw [he2] at hr2
        obtain ⟨h0, hlt, h⟩ := h
        split at h
        · rename_i xs hrow
          exact op_idxA hs hu hsz hag hr hr2 h0 hlt hrow h
        · exact h.elim
      · exact h.elim
    · cases hc
  | extract x i =>
    simp only [compOp, Option.bind_eq_bind, Option.bind_eq_some_iff] at hc
    obtain ⟨x', hx, hc⟩ := hc
    injection hc with hc; subst hc
    simp only [AOp.fz, aop] at h
    split at h
    · rename_i xs he
      have hr := opd_sound hx hs
      rw [he] at hr
      split at h
      · rename_i c hi
        exact op_ext hs hr hi h
      · exact h.elim
    · exact h.elim
  | makeSlice t l c =>
    simp only [compOp] at hc
    split at hc
    · rename_i e hu
      simp only [Option.bind_eq_bind, Option.bind_eq_some_iff] at hc
      obtain ⟨z, hz, i, hi, hc⟩ := hc
      split at hc
      · cases hc
      · rename_i hne
        simp only [Option.bind_eq_some_iff] at hc
        obtain ⟨l', hl, c', hcc, hc⟩ := hc
        injection hc with hc; subst hc
        simp only [AOp.fz, aop] at h
        split at h
        · rename_i l0 c0 he1 he2
          have hr := opd_sound hl hs
          have hr2 := opd_sound hcc hs
          rw [he1] at hr; rw [he2] at hr2
          obtain ⟨rfl, h0, hb, h62, hK⟩ := h
          exact op_mksl hs hu hz hi hne hr hr2 h0 hb h62 hK
        · exact h.elim
    · cases hc
  | call c =>
    obtain ⟨callee, args, argTypes⟩ := c
    cases callee with
    | value f => simp [compOp] at hc
    | invoke r m => simp [compOp] at hc
    | builtin b =>
      simp only [compOp] at hc
      obtain ⟨consts, hcb⟩ := callB (a := a) (b := b) (args := args) (argTypes := argTypes) (dst := dst) (type := type) (pos := pos) (after := after) (gd := gd)
      rw [hcb]
      unfold compB at hc
      split at hc
      · rename_i t x e1 e2
        have e1' : argTypes = #[t] := by rw [← Array.toArray_toList (xs := argTypes), e1]
        have e2' : args = #[x] := by rw [← Array.toArray_toList (xs := args), e2]
        subst e1' e2'
        split at hc
        · rename_i e hu
          simp only [Option.bind_eq_bind, Option.bind_eq_some_iff] at hc
          obtain ⟨x', hx, hc⟩ := hc
          injection hc with hc; subst hc
          simp only [AOp.fz, aop] at h
          rw [show (#[x] : Array Operand).map a.eval = #[a.eval x] from by simp]
          change OpS P ι ok s w (do pure (.value (← Builtin.len_ #[t] type #[a.eval x]))) K
          refine op_len hs hu (opd_sound hx hs) ?_
          split at h
          · rename_i c rows he; exact .inl ⟨c, rows, he, h⟩
          · rename_i id off len c he; exact .inr ⟨id, off, len, c, he, h⟩
          · exact h.elim
        · cases hc
      · rename_i t x e1 e2
        have e1' : argTypes = #[t] := by rw [← Array.toArray_toList (xs := argTypes), e1]
        have e2' : args = #[x] := by rw [← Array.toArray_toList (xs := args), e2]
        subst e1' e2'
        split at hc
        · rename_i e hu
          simp only [Option.bind_eq_bind, Option.bind_eq_some_iff] at hc
          obtain ⟨x', hx, hc⟩ := hc
          injection hc with hc; subst hc
          rw [show (#[x] : Array Operand).map a.eval = #[a.eval x] from by simp]
          change OpS P ι ok s w (do pure (.value (← Builtin.cap_ #[t] type #[a.eval x]))) K
          exact op_cap hs hu (opd_sound hx hs) h
        · cases hc
      · rename_i t tx x y e1 e2
        have e1' : argTypes = #[t, tx] := by rw [← Array.toArray_toList (xs := argTypes), e1]
        have e2' : args = #[x, y] := by rw [← Array.toArray_toList (xs := args), e2]
        subst e1' e2'
        split at hc
        · rename_i e e' hu hu'
          simp only [Option.bind_eq_bind, Option.bind_eq_some_iff] at hc
          obtain ⟨i, hi, z, hz, x', hx, y', hy, hc⟩ := hc
          injection hc with hc; subst hc
          simp only [AOp.fz, aop] at h
          rw [show (#[x, y] : Array Operand).map a.eval = #[a.eval x, a.eval y] from by simp]
          change OpS P ι ok s w (do pure (.value (← Builtin.append_ #[t, tx] type #[a.eval x, a.eval y]))) K
          refine op_app hs hu hu' hi hz (opd_sound hx hs) (opd_sound hy hs) ?_
          split at h
          · rename_i y'' he1 he2
            split at h
            · rename_i srows sp hsrc
              exact .inl ⟨_, _, _, he1, he2, hsrc, h.1, h.2.1, h.2.2.1, h.2.2.2⟩
            · exact h.elim
          · rename_i id off len clip y'' he1 he2
            split at h
            · rename_i z' rows p srows sp hH hsrc
              obtain ⟨rfl, h1, h2, h3, h4, h5⟩ := h
              exact .inr ⟨_, _, _, _, _, _, _, _, _, he1, he2, hH, hsrc, h1, h2, h3, h4, h5⟩
            · exact h.elim
          · exact h.elim
        · rename_i e kn hu hu'
          simp only [Option.bind_eq_bind, Option.bind_eq_some_iff] at hc
          obtain ⟨i, hi, z, hz, hc⟩ := hc
          split at hc
          · cases hc
          · rename_i hne
            simp only [Option.bind_eq_some_iff] at hc
            obtain ⟨x', hx, y', hy, hc⟩ := hc
            injection hc with hc; subst hc
            simp only [AOp.fz, aop] at h
            rw [show (#[x, y] : Array Operand).map a.eval = #[a.eval x, a.eval y] from by simp]
            change OpS P ι ok s w (do pure (.value (← Builtin.append_ #[t, tx] type #[a.eval x, a.eval y]))) K
            split at h
            · rename_i n he1 he2
              have h1 := opd_sound hx hs
              have h2 := opd_sound hy hs
              rw [he1] at h1; rw [he2] at h2
              exact op_appz hs hu hu' hz hi hne h1 h2 h.1 h.2.1 h.2.2.1 h.2.2.2
            · exact h.elim
        · cases hc
      · simp only [Option.bind_eq_bind, Option.bind_eq_some_iff] at hc
        obtain ⟨l', hl, hc⟩ := hc
        injection hc with hc; subst hc
        simp only [AOp.fz, aop] at h
        split at h
        · exact h.elim
        · rename_i x r he
          split at h
          · rename_i v hm
            obtain ⟨h1, h2⟩ := opds_sound hl hs
            cases l' with
            | nil => simp at he
            | cons x0 r0 =>
              simp only [List.map_cons] at he
              injection he with e1 e2; subst e1 e2
              cases hargs : args.toList with
              | nil => rw [hargs] at h1; simp at h1
              | cons o0 os =>
                rw [hargs] at h1 h2
                obtain ⟨u, hu, hru⟩ := max_run (P := P) (vs := os.map a.eval) (h2 0 o0 x0 rfl rfl) (by simpa using h1.symm) (fun i v z hv hz => by
                  rw [List.getElem?_map] at hv hz
                  cases ho : os[i]? with
                  | none => rw [ho] at hv; cases hv
                  | some oo =>
                    cases hr : r0[i]? with
                    | none => rw [hr] at hz; cases hz
                    | some rr =>
                      rw [ho] at hv; rw [hr] at hz
                      injection hv with hv; injection hz with hz; subst hv hz
                      exact h2 (i + 1) oo rr (by simpa using ho) (by simpa using hr)) hm
                change OpS P ι ok s w (do pure (.value (← Builtin.max_ argTypes type (args.map a.eval)))) K
                refine OpS.val hs ?_ hru h
                simp [Builtin.max_, hargs, hu]
          · exact h.elim
      · simp only [Option.bind_eq_bind, Option.bind_eq_some_iff] at hc
        obtain ⟨l', hl, hc⟩ := hc
        injection hc with hc; subst hc
        simp only [AOp.fz, aop] at h
        split at h
        · exact h.elim
        · rename_i x r he
          split at h
          · rename_i v hm
            obtain ⟨h1, h2⟩ := opds_sound hl hs
            cases l' with
            | nil => simp at he
            | cons x0 r0 =>
              simp only [List.map_cons] at he
              injection he with e1 e2; subst e1 e2
              cases hargs : args.toList with
              | nil => rw [hargs] at h1; simp at h1
              | cons o0 os =>
                rw [hargs] at h1 h2
                obtain ⟨u, hu, hru⟩ := min_run (P := P) (vs := os.map a.eval) (h2 0 o0 x0 rfl rfl) (by simpa using h1.symm) (fun i v z hv hz => by
                  rw [List.getElem?_map] at hv hz
                  cases ho : os[i]? with
                  | none => rw [ho] at hv; cases hv
                  | some oo =>
                    cases hr : r0[i]? with
                    | none => rw [hr] at hz; cases hz
                    | some rr =>
                      rw [ho] at hv; rw [hr] at hz
                      injection hv with hv; injection hz with hz; subst hv hz
                      exact h2 (i + 1) oo rr (by simpa using ho) (by simpa using hr)) hm
                change OpS P ι ok s w (do pure (.value (← Builtin.min_ argTypes type (args.map a.eval)))) K
                refine OpS.val hs ?_ hru h
                simp [Builtin.min_, hargs, hu]
          · exact h.elim
      · cases hc
  | _ => simp [compOp] at hc
end
end Go.Abs
