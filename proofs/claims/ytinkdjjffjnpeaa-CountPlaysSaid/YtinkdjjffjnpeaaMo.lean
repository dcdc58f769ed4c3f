import Init
import Derived.Test.YtinkdjjffjnpeaaTA26
namespace Go.Abs

/-! ### data -/
structure Span where
  fr : Nat
  to : Nat
  deriving DecidableEq
structure Hist where
  k : Int
  gen : Int
  levels : List (List Span)
  deriving DecidableEq
structure Ev where
  tick : Nat
  key : Nat
  weight : Nat
  deriving DecidableEq
structure Buf where
  late : Nat
  room : Int
  mark : Nat
  front : Nat
  events : List Ev
  deriving DecidableEq
structure Cnt where
  window : Nat
  wait : Buf
  past : Hist
  deriving DecidableEq

/-! ### a level: buckets that come, all as one list -/
def vir (a : List Span) (many tick : Nat) : List Span := a ++ List.replicate many ⟨tick, tick⟩
@[simp] theorem vir_len (a : List Span) (many tick : Nat) : (vir a many tick).length = a.length + many := by simp [vir]
def pairUp : List Span → List Span
  | a :: b :: r => ⟨a.fr, b.to⟩ :: pairUp r
  | _ => []
def npairs (tot most : Nat) : Nat := (tot - max most 1 + 1) / 2
/-- what stays, what goes -/
def pushStay (V : List Span) (most : Nat) : List Span := V.drop (2 * npairs V.length most)
def pushGo (V : List Span) (most : Nat) : List Span := pairUp (V.take (2 * npairs V.length most))

theorem pairUp_len : ∀ V : List Span, (pairUp V).length = V.length / 2
  | [] => rfl
  | [a] => by simp [pairUp]
  | a :: b :: r => by simp [pairUp, pairUp_len r]; omega
theorem npairs_le (tot most : Nat) : 2 * npairs tot most ≤ tot := by unfold npairs; omega

/-- so many of the pairs are made of buckets that are told one by one -/
def nout (n P : Nat) : Nat := min P ((n + 1) / 2)

theorem pairUp_take (V : List Span) : ∀ j, 2 * j ≤ V.length → pairUp (V.take (2 * j)) = (pairUp V).take j := by
  induction V using pairUp.induct with
  | case1 a b r ih =>
    intro j hj
    cases j with
    | zero => simp [pairUp]
    | succ j =>
      rw [show 2 * (j + 1) = 2 * j + 1 + 1 by omega]
      simp only [List.take_succ_cons, pairUp]
      rw [ih j (by simp at hj; omega)]
  | case2 V h =>
    intro j hj
    match V, h with
    | [], _ => simp [pairUp]
    | [a], _ => simp at hj; have : j = 0 := by omega
                subst this; simp [pairUp]
    | a :: b :: r, h => exact absurd rfl (h a b r)
theorem pairUp_snoc (V : List Span) (j : Nat) (x y : Span) (h1 : V[2 * j]? = some x) (h2 : V[2 * j + 1]? = some y) : pairUp (V.take (2 * (j + 1))) = pairUp (V.take (2 * j)) ++ [⟨x.fr, y.to⟩] := by
  induction V using pairUp.induct generalizing j with
  | case1 a b r ih =>
    cases j with
    | zero => simp at h1 h2; subst h1 h2; simp [pairUp]
    | succ j =>
      have := ih j (by simpa [Nat.mul_add] using h1) (by simpa [Nat.mul_add] using h2)
      rw [show 2 * (j + 1 + 1) = 2 * (j + 1) + 1 + 1 by omega, show 2 * (j + 1) = 2 * j + 1 + 1 by omega]
      simp only [List.take_succ_cons, pairUp]
      rw [show 2 * j + 1 + 1 = 2 * (j + 1) by omega, this]
      simp
  | case2 V hV =>
    match V, hV with
    | [], _ => simp at h1
    | [a], _ => simp at h2
    | a :: b :: r, hV => exact absurd rfl (hV a b r)

theorem vir_lt (all : List Span) (many tick i : Nat) (h : i < all.length) : (vir all many tick)[i]? = all[i]? := by
  simp [vir, List.getElem?_append_left h]
theorem vir_ge (all : List Span) (many tick i : Nat) (h : all.length ≤ i) (h' : i < all.length + many) : (vir all many tick)[i]? = some ⟨tick, tick⟩ := by
  rw [vir, List.getElem?_append_right h, List.getElem?_replicate, if_pos (by omega)]
theorem take_snoc {α : Type} (V : List α) (s : Nat) (x : α) (h : V[s]? = some x) : V.take (s + 1) = V.take s ++ [x] := by
  have hlt := (List.getElem?_eq_some_iff.1 h).1
  rw [List.take_add_one, h]; rfl
end Go.Abs

namespace Go.Abs

set_option linter.unusedVariables false
/-! ### a histogram: weight comes, level by level -/
def most (k : Int) (i : Nat) : Int := if i = 0 then max k 0 + 1 else (max k 0 + 1) / 2 + 1
def mostN (k : Int) (i : Nat) : Nat := (most k i).toNat
theorem most_pos (k : Int) (i : Nat) : 1 ≤ most k i := by unfold most; split <;> omega
theorem pushGo_len (V : List Span) (m : Nat) : (pushGo V m).length = npairs V.length m := by
  have := npairs_le V.length m
  rw [pushGo, pairUp_len]; simp; omega
theorem pushStay_len (V : List Span) (m : Nat) : (pushStay V m).length = V.length - 2 * npairs V.length m := by simp [pushStay]

def flowV (k : Int) : Nat → List (List Span) → List Span → List (List Span)
  | i, [], C => if h : C = [] then [] else pushStay C (mostN k i) :: flowV k (i + 1) [] (pushGo C (mostN k i))
  | i, l :: ls, C => pushStay (l ++ C) (mostN k i) :: flowV k (i + 1) ls (pushGo (l ++ C) (mostN k i))
termination_by i ls C => (ls.length, C.length)
decreasing_by
  · apply Prod.Lex.right
    rw [pushGo_len]
    have : 0 < C.length := List.length_pos_iff.2 h
    unfold npairs; omega
  · apply Prod.Lex.left; simp

theorem npairs_half (n m : Nat) : npairs n m ≤ n / 2 := by have := npairs_le n m; omega

theorem flowV_len (k : Int) (n : Nat) (i : Nat) (ls : List (List Span)) (C : List Span) (hC : C.length < 2 ^ n) (hl : ∀ l ∈ ls, l.length < 2 ^ n) : (flowV k i ls C).length ≤ ls.length + n := by
  have base : ∀ (n i : Nat) (C : List Span), C.length < 2 ^ n → (flowV k i [] C).length ≤ n := by
    intro n
    induction n with
    | zero => intro i C hC; have : C = [] := List.eq_nil_of_length_eq_zero (by simpa using hC); subst this; simp [flowV]
    | succ n ih =>
      intro i C hC
      unfold flowV
      split
      · simp
      · rename_i h
        have h1 : (pushGo C (mostN k i)).length < 2 ^ n := by rw [pushGo_len]; have := npairs_half C.length (mostN k i); rw [Nat.pow_succ] at hC; omega
        have := ih (i + 1) (pushGo C (mostN k i)) h1
        simp; omega
  induction ls generalizing i C with
  | nil => have := base n i C hC; simp; omega
  | cons l ls ih =>
    have hl0 := hl l (by simp)
    have h1 : (pushGo (l ++ C) (mostN k i)).length < 2 ^ n := by rw [pushGo_len]; have := npairs_half (l ++ C).length (mostN k i); simp at this; simp; omega
    have := ih (i + 1) _ h1 fun x hx => hl x (by simp [hx])
    simp only [flowV, List.length_cons]
    omega

/-- what goes is told by some buckets and so many of one tick -/
theorem pairUp_replicate (x : Span) (hx : x.fr = x.to) : ∀ n, pairUp (List.replicate (2 * n) x) = List.replicate n x
  | 0 => rfl
  | n + 1 => by
    rw [show 2 * (n + 1) = 2 * n + 1 + 1 by omega]
    simp only [List.replicate_succ, pairUp, pairUp_replicate x hx n]
    first | done | (cases x; simp at hx; simp [hx])
theorem pairUp_append (a b : List Span) (h : a.length % 2 = 0) : pairUp (a ++ b) = pairUp a ++ pairUp b := by
  induction a using pairUp.induct with
  | case1 x y r ih => simp only [List.cons_append, pairUp]; rw [ih (by simp at h; omega)]
  | case2 a ha =>
    match a, ha with
    | [], _ => rfl
    | [x], _ => simp at h
    | x :: y :: r, ha => exact absurd rfl (ha x y r)
theorem pushGo_vir (all : List Span) (many tick m : Nat) :
    pushGo (vir all many tick) m = vir ((pushGo (vir all many tick) m).take (nout all.length (npairs (all.length + many) m))) (npairs (all.length + many) m - nout all.length (npairs (all.length + many) m)) tick := by
  generalize hP : npairs (all.length + many) m = P
  generalize hj : nout all.length P = j
  have hPle : 2 * P ≤ all.length + many := by rw [← hP]; exact npairs_le _ _
  have hg : pushGo (vir all many tick) m = pairUp ((vir all many tick).take (2 * P)) := by rw [pushGo, vir_len, hP]
  rw [hg, ← pairUp_take _ _ (by simp [nout] at hj ⊢; omega), List.take_take]
  have e0 : min (2 * j) (2 * P) = 2 * j := by simp [nout] at hj; omega
  rw [e0]
  by_cases hlt : j < P
  · have hn : all.length ≤ 2 * j := by simp [nout] at hj; omega
    have e1 : (vir all many tick).take (2 * P) = (vir all many tick).take (2 * j) ++ List.replicate (2 * (P - j)) ⟨tick, tick⟩ := by
      apply List.ext_getElem?
      intro i
      by_cases hi : i < 2 * j
      · rw [List.getElem?_take_of_lt (by omega), List.getElem?_append_left (by simp; omega), List.getElem?_take_of_lt hi]
      · rw [List.getElem?_append_right (by simp; omega)]
        by_cases hi2 : i < 2 * P
        · rw [List.getElem?_take_of_lt hi2, vir_ge _ _ _ _ (by omega) (by omega), List.getElem?_replicate, if_pos (by simp; omega)]
        · rw [List.getElem?_eq_none (by simp; omega), List.getElem?_eq_none (by simp; omega)]
    rw [e1, pairUp_append _ _ (by simp; omega), pairUp_replicate _ rfl]
    rfl
  · have : j = P := by simp [nout] at hj; omega
    subst this
    simp [vir]
def lastOf (ls : List (List Span)) : Nat × Bool := match ls with
  | [] => (0, false)
  | l :: _ => match l.getLast? with
    | none => (0, false)
    | some s => (s.to, true)

/-! ### what is too old -/
def oldB (tick front window : Nat) : Bool := decide (window ≤ front ∧ tick ≤ front - window)
def dropP (front window : Nat) : List (List Span) → List (List Span)
  | [] => []
  | l :: r => match l.dropWhile fun s => oldB s.to front window with
    | [] => []
    | x => x :: dropP front window r
def dropR (front window : Nat) (ls : List (List Span)) : List (List Span) := ls.map fun l => l.filter fun s => !oldB s.to front window
/-- how many levels are left -/
def manyR : List (List Span) → Nat
  | [] => 0
  | l :: r => if manyR r = 0 ∧ l = [] then 0 else manyR r + 1

theorem manyR_snoc (x : List Span) : ∀ l : List (List Span), manyR (l ++ [x]) = if x = [] then manyR l else l.length + 1
  | [] => by simp [manyR]
  | y :: l => by
    simp only [List.cons_append, manyR, manyR_snoc x l]
    by_cases hx : x = []
    · simp [hx]
    · simp [hx]
theorem manyR_le : ∀ l : List (List Span), manyR l ≤ l.length
  | [] => by simp [manyR]
  | y :: l => by have := manyR_le l; simp only [manyR, List.length_cons]; split <;> omega

/-! ### all units -/
def totN : Nat → List (List Span) → Nat
  | _, [] => 0
  | i, l :: ls => l.length * 2 ^ i + totN (i + 1) ls
theorem totN_append (i : Nat) (a b : List (List Span)) : totN i (a ++ b) = totN i a + totN (i + a.length) b := by
  induction a generalizing i with
  | nil => simp [totN]
  | cons l a ih => simp only [List.cons_append, totN, ih, List.length_cons]; rw [show i + 1 + a.length = i + (a.length + 1) by omega]; omega
def addM (h : Hist) (tick w : Nat) : Hist × Int :=
  if w = 0 then (⟨0, 0, []⟩, 1)
  else if 9223372036854775807 < tick ∨ ((lastOf h.levels).2 = true ∧ tick < (lastOf h.levels).1) then (⟨0, 0, []⟩, 6)
  else if 4503599627370496 < w + totN 0 h.levels then (⟨0, 0, []⟩, 5)
  else (⟨h.k, h.gen, flowV h.k 0 h.levels (List.replicate w ⟨tick, tick⟩)⟩, 0)
end Go.Abs

namespace Go.Abs
set_option linter.unusedVariables false

/-! ### events that wait -/
/-- how many, of those that wait, come ahead of all that are later -/
def belowN (es : List Ev) (tick : Nat) : Nat := es.findIdx fun e => decide (tick < e.tick)
theorem belowN_le (es : List Ev) (tick : Nat) : belowN es tick ≤ es.length := List.findIdx_le_length
theorem belowN_ahead (es : List Ev) (tick : Nat) (i : Nat) (h : i < belowN es tick) (hi : i < es.length) : es[i].tick ≤ tick := by
  have := List.not_of_lt_findIdx (p := fun e : Ev => decide (tick < e.tick)) (xs := es) h
  simpa using this
theorem belowN_at (es : List Ev) (tick : Nat) (h : belowN es tick < es.length) : tick < es[belowN es tick].tick := by
  have := List.findIdx_getElem (p := fun e : Ev => decide (tick < e.tick)) (xs := es) (w := h)
  exact of_decide_eq_true this
theorem belowN_lt (es : List Ev) (tick : Nat) (h : belowN es tick < es.length) : belowN es tick < belowN es es[belowN es tick].tick := by
  rcases Nat.lt_or_ge (belowN es tick) (belowN es es[belowN es tick].tick) with h1 | h1
  · exact h1
  · have h2 : belowN es es[belowN es tick].tick < es.length := by omega
    have h3 := belowN_at es _ h2
    rcases Nat.lt_or_ge (belowN es es[belowN es tick].tick) (belowN es tick) with h4 | h4
    · have := belowN_ahead es tick _ h4 h2
      have := belowN_at es tick h
      omega
    · have e : belowN es es[belowN es tick].tick = belowN es tick := by omega
      simp [e] at h3

/-- the front of a buffer that settles -/
def settleF (es : List Ev) (room : Int) (front : Nat) : Nat :=
  if h : belowN es front < es.length ∧ room < (es.length : Int) - belowN es front then settleF es room (es[belowN es front]'h.1).tick else front
termination_by es.length - belowN es front
decreasing_by have := belowN_lt es front h.1; have := belowN_le es (es[belowN es front]'h.1).tick; omega

def front1 (b : Buf) : Nat := if b.late < b.mark then max b.front (b.mark - b.late) else b.front
/-- a buffer that settles, and what goes out -/
def settleP (b : Buf) : Buf × List Ev :=
  let f := settleF b.events b.room (front1 b)
  let n := belowN b.events f
  (⟨b.late, b.room, b.mark, f, b.events.drop n⟩, b.events.take n)
def zeroBuf : Buf := ⟨0, 0, 0, 0, []⟩
def pushP (b : Buf) (e : Ev) : Buf × List Ev × Int :=
  if e.weight = 0 then (zeroBuf, [], 1)
  else if 9223372036854775807 < e.tick then (zeroBuf, [], 6)
  else if e.tick < b.front then (zeroBuf, [], 4)
  else
    let n := belowN b.events e.tick
    let r := settleP ⟨b.late, b.room, max b.mark e.tick, b.front, b.events.take n ++ [e] ++ b.events.drop n⟩
    (r.1, r.2, 0)
def moveP (b : Buf) (tick : Nat) : Buf × List Ev × Int :=
  if 9223372036854775807 < tick then (zeroBuf, [], 6)
  else
    let r := settleP ⟨b.late, b.room, max b.mark tick, b.front, b.events⟩
    (r.1, r.2, 0)
/-- the reference: those that are ready, and the rest -/
def ready (es : List Ev) (f : Nat) : List Ev := es.filter fun e => decide (e.tick ≤ f)
def rest (es : List Ev) (f : Nat) : List Ev := es.filter fun e => !decide (e.tick ≤ f)
theorem rest_lt (es : List Ev) (e : Ev) (h : e ∈ es) : (rest es e.tick).length < es.length := by
  unfold rest
  rw [List.length_filter_lt_length_iff_exists]
  exact ⟨e, h, by simp⟩
def settleG (room : Int) (front : Nat) (out rs : List Ev) : Nat × List Ev × List Ev :=
  match rs with
  | [] => (front, out, [])
  | e :: es => if room < (e :: es).length then settleG room e.tick (out ++ ready (e :: es) e.tick) (rest (e :: es) e.tick) else (front, out, e :: es)
termination_by rs.length
decreasing_by exact rest_lt _ e (by simp)
def settleS (b : Buf) : Buf × List Ev :=
  let f := front1 b
  let r := settleG b.room f (ready b.events f) (rest b.events f)
  (⟨b.late, b.room, b.mark, r.1, r.2.2⟩, r.2.1)
def bpushS (b : Buf) (e : Ev) : Buf × List Ev × Int :=
  if e.weight = 0 then (zeroBuf, [], 1)
  else if 9223372036854775807 < e.tick then (zeroBuf, [], 6)
  else if e.tick < b.front then (zeroBuf, [], 4)
  else
    let r := settleS ⟨b.late, b.room, max b.mark e.tick, b.front, ready b.events e.tick ++ [e] ++ rest b.events e.tick⟩
    (r.1, r.2, 0)
def bmoveS (b : Buf) (tick : Nat) : Buf × List Ev × Int :=
  if 9223372036854775807 < tick then (zeroBuf, [], 6)
  else
    let r := settleS ⟨b.late, b.room, max b.mark tick, b.front, b.events⟩
    (r.1, r.2, 0)

end Go.Abs

namespace Go.Abs
set_option linter.unusedVariables false
/-! ### a sketch -/
def zeroHist : Hist := ⟨0, 0, []⟩
def newH (k : Int) : Hist × Int := if k < 2 ∨ 1024 < k then (zeroHist, 9) else (⟨k, 0, []⟩, 0)
def newB (late : Nat) (room : Int) : Buf × Int := if 4611686018427387904 < late ∨ room < 1 ∨ 1024 < room then (zeroBuf, 9) else (⟨late, room, 0, 0, []⟩, 0)
def zeroCnt : Cnt := ⟨0, zeroBuf, zeroHist⟩
def newC (k : Int) (window late : Nat) (room : Int) : Cnt × Int :=
  if (newH k).2 ≠ 0 ∨ (newB late room).2 ≠ 0 ∨ window < 1 ∨ 4611686018427387904 < window then (zeroCnt, 9) else (⟨window, (newB late room).1, (newH k).1⟩, 0)
def passH (h : Hist) (out : List Ev) : Hist := out.foldl (fun h e => (addM h e.tick e.weight).1) h
theorem passH_snoc (h : Hist) (out : List Ev) (e : Ev) : passH h (out ++ [e]) = (addM (passH h out) e.tick e.weight).1 := by simp [passH]
def passP (s : Cnt) (b : Buf) (out : List Ev) : Cnt := ⟨s.window, b, ⟨(passH s.past out).k, (passH s.past out).gen, dropP b.front s.window (passH s.past out).levels⟩⟩
def passS (s : Cnt) (out : List Ev) : Cnt := ⟨s.window, s.wait, ⟨(passH s.past out).k, (passH s.past out).gen, (dropR s.wait.front s.window (passH s.past out).levels).take (manyR (dropR s.wait.front s.window (passH s.past out).levels))⟩⟩
def wsum (l : List Ev) : Nat → Int
  | 0 => 0
  | i + 1 => (wsum l i + ((l.getD i ⟨0, 0, 0⟩).weight : Int)) % 18446744073709551616
def wtot (l : List Ev) : Nat := (wsum l l.length).toNat
def tot (ls : List (List Span)) : Nat → Int
  | 0 => 0
  | i + 1 => (tot ls i + ((ls.getD i []).length : Int) % 18446744073709551616 * 2 ^ (min i 64)) % 18446744073709551616
theorem wsum_b (l : List Ev) : ∀ i, 0 ≤ wsum l i ∧ wsum l i < 18446744073709551616
  | 0 => by simp [wsum]
  | i + 1 => by simp only [wsum]; omega
theorem wtot_eq (l : List Ev) : wsum l l.length = wtot l := by have := wsum_b l l.length; unfold wtot; omega
def roomB : List Nat → Nat → Bool
  | [], _ => true
  | n :: r, left => if left < n then false else roomB r (left - n)
def addC (s : Cnt) (e : Ev) : Cnt × Int :=
  if (pushP s.wait e).2.2 ≠ 0 then (zeroCnt, (pushP s.wait e).2.2)
  else if roomB [totN 0 s.past.levels, wtot s.wait.events, e.weight] 4503599627370496 = false then (zeroCnt, 5)
  else (passP s (pushP s.wait e).1 (pushP s.wait e).2.1, 0)
def moveC (s : Cnt) (tick : Nat) : Cnt × Int :=
  if (moveP s.wait tick).2.2 ≠ 0 then (zeroCnt, (moveP s.wait tick).2.2)
  else (passP s (moveP s.wait tick).1 (moveP s.wait tick).2.1, 0)
def heavyB (a w : Nat) : Bool := decide (4503599627370496 < w ∨ 4503599627370496 < (a + w) % 18446744073709551616)
def addS (s : Cnt) (e : Ev) : Cnt × Int :=
  if (bpushS s.wait e).2.2 ≠ 0 then (zeroCnt, (bpushS s.wait e).2.2)
  else if heavyB ((totN 0 s.past.levels + wtot s.wait.events) % 18446744073709551616) e.weight = true then (zeroCnt, 5)
  else (passS ⟨s.window, (bpushS s.wait e).1, s.past⟩ (bpushS s.wait e).2.1, 0)
def moveCS (s : Cnt) (tick : Nat) : Cnt × Int :=
  if (bmoveS s.wait tick).2.2 ≠ 0 then (zeroCnt, (bmoveS s.wait tick).2.2)
  else (passS ⟨s.window, (bmoveS s.wait tick).1, s.past⟩ (bmoveS s.wait tick).2.1, 0)
def oneS (s : Cnt) (e : Ev) : Cnt × Int := if e.weight = 0 then moveCS s e.tick else addS s e
def oneC (s : Cnt) (e : Ev) : Cnt × Int := if e.weight = 0 then moveC s e.tick else addC s e
structure Small (h : Hist) : Prop where
  k0 : -9223372036854775808 ≤ h.k
  k1 : h.k ≤ 268435456
  len : h.levels.length ≤ 268435456
  lev : ∀ l ∈ h.levels, l.length ≤ 268435456
structure Fine (h : Hist) : Prop where
  small : Small h
  tot : totN 0 h.levels ≤ 4503599627370496
  to : ∀ l ∈ h.levels, ∀ s ∈ l, s.to < 18446744073709551616
def PassOk (h : Hist) (out : List Ev) : Prop := (∀ i, i ≤ out.length → Fine (passH h (out.take i))) ∧ ∀ e ∈ out, e.tick < 18446744073709551616 ∧ e.weight < 18446744073709551616
end Go.Abs
