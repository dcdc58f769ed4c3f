import Derived.Test.YtinkdjjffjnpeaaTW20
namespace Go.Abs
set_option linter.unusedVariables false
/-! ### questions -/
def withinB (tick span t : Nat) : Bool := decide (tick < span ∨ tick - span < t)
def bks : Nat → List (List Span) → List (Span × Nat)
  | _, [] => []
  | i, l :: ls => l.map (fun s => (s, 2 ^ i % 18446744073709551616)) ++ bks (i + 1) ls
theorem bks_append (i : Nat) (a b : List (List Span)) : bks i (a ++ b) = bks i a ++ bks (i + a.length) b := by
  induction a generalizing i with
  | nil => simp [bks]
  | cons l a ih => simp only [List.cons_append, bks, ih, List.length_cons, List.append_assoc]; rw [show i + 1 + a.length = i + (a.length + 1) by omega]
theorem bks_take (ls : List (List Span)) (i : Nat) (h : i < ls.length) : bks 0 (ls.take (i + 1)) = bks 0 (ls.take i) ++ ls[i].map (fun s => (s, 2 ^ i % 18446744073709551616)) := by
  rw [List.take_add_one, List.getElem?_eq_getElem h, bks_append]
  simp [Option.toList, bks, Nat.min_eq_left (Nat.le_of_lt h)]
/-- what is sure, and what is cut -/
def partS (tick span : Nat) (l : List (Span × Nat)) : Nat := l.foldl (fun a p => if withinB tick span p.1.fr then (a + p.2) % 18446744073709551616 else a) 0
def partC (tick span : Nat) (l : List (Span × Nat)) : Nat := l.foldl (fun a p => if withinB tick span p.1.fr then a else if withinB tick span p.1.to then (a + p.2) % 18446744073709551616 else a) 0
theorem partS_snoc (tick span : Nat) (l : List (Span × Nat)) (p : Span × Nat) : partS tick span (l ++ [p]) = if withinB tick span p.1.fr then (partS tick span l + p.2) % 18446744073709551616 else partS tick span l := by simp [partS]
theorem partC_snoc (tick span : Nat) (l : List (Span × Nat)) (p : Span × Nat) : partC tick span (l ++ [p]) = if withinB tick span p.1.fr then partC tick span l else if withinB tick span p.1.to then (partC tick span l + p.2) % 18446744073709551616 else partC tick span l := by simp [partC]
def estOf (h : Hist) (tick span : Nat) : Nat := (partS tick span (bks 0 h.levels) + partC tick span (bks 0 h.levels) / 2) % 18446744073709551616
def scanB (tick span t : Nat) : Bool := decide (t ≤ tick ∧ (tick < span ∨ tick - span < t))
def scanS (tick span : Nat) (l : List Ev) : Nat := l.foldl (fun a e => if scanB tick span e.tick then (a + e.weight) % 18446744073709551616 else a) 0
theorem scanS_snoc (tick span : Nat) (l : List Ev) (e : Ev) : scanS tick span (l ++ [e]) = if scanB tick span e.tick then (scanS tick span l + e.weight) % 18446744073709551616 else scanS tick span l := by simp [scanS]
def queryC (s : Cnt) (tick span : Nat) : Nat × Int :=
  if tick < s.wait.front ∨ 9223372036854775807 < tick then (0, 6)
  else if span = 0 ∨ s.window < span then (0, 8)
  else ((estOf s.past tick span + scanS tick span s.wait.events) % 18446744073709551616, 0)
end Go.Abs

namespace Go.Abs
set_option linter.unusedVariables false

/-! ### events in order -/
def SortT (es : List Ev) : Prop := es.Pairwise fun a b => a.tick ≤ b.tick
theorem ready_cons (e : Ev) (es : List Ev) (f : Nat) : ready (e :: es) f = if e.tick ≤ f then e :: ready es f else ready es f := by
  unfold ready; by_cases h : e.tick ≤ f <;> simp [List.filter_cons, h]
theorem rest_cons (e : Ev) (es : List Ev) (f : Nat) : rest (e :: es) f = if e.tick ≤ f then rest es f else e :: rest es f := by
  unfold rest; by_cases h : e.tick ≤ f <;> simp [List.filter_cons, h]
theorem belowN_cons (e : Ev) (es : List Ev) (f : Nat) : belowN (e :: es) f = if e.tick ≤ f then belowN es f + 1 else 0 := by
  unfold belowN; by_cases h : e.tick ≤ f
  · simp [List.findIdx_cons, h, Nat.not_lt.2 h]
  · simp [List.findIdx_cons, h, Nat.lt_of_not_le h]
theorem ready_late (es : List Ev) (f : Nat) (h : ∀ e ∈ es, f < e.tick) : ready es f = [] := by
  unfold ready; rw [List.filter_eq_nil_iff]; intro e he; have := h e he; simp; omega
theorem rest_late (es : List Ev) (f : Nat) (h : ∀ e ∈ es, f < e.tick) : rest es f = es := by
  unfold rest; rw [List.filter_eq_self]; intro e he; have := h e he; simp; omega
theorem sort_split {es : List Ev} (hs : SortT es) (f : Nat) : es.take (belowN es f) = ready es f ∧ es.drop (belowN es f) = rest es f := by
  induction es with
  | nil => simp [belowN, ready, rest]
  | cons e es ih =>
    obtain ⟨h1, h2⟩ := List.pairwise_cons.1 hs
    obtain ⟨i1, i2⟩ := ih h2
    rw [belowN_cons, ready_cons, rest_cons]
    by_cases h : e.tick ≤ f
    · simp [h, i1, i2]
    · simp only [h, if_false, List.take_zero, List.drop_zero]
      have hl : ∀ x ∈ es, f < x.tick := fun x hx => by have := h1 x hx; omega
      rw [ready_late es f hl, rest_late es f hl]; exact ⟨rfl, rfl⟩
theorem ready_mem {es : List Ev} {f : Nat} {e : Ev} : e ∈ ready es f ↔ e ∈ es ∧ e.tick ≤ f := by simp [ready]
theorem rest_mem {es : List Ev} {f : Nat} {e : Ev} : e ∈ rest es f ↔ e ∈ es ∧ f < e.tick := by simp [rest]
theorem SortT.ready {es : List Ev} (hs : SortT es) (f : Nat) : SortT (ready es f) := List.Pairwise.filter _ hs
theorem SortT.rest {es : List Ev} (hs : SortT es) (f : Nat) : SortT (rest es f) := List.Pairwise.filter _ hs
theorem ready_rest {es : List Ev} (hs : SortT es) {f t : Nat} (h : f ≤ t) : ready es f ++ ready (rest es f) t = ready es t := by
  induction es with
  | nil => rfl
  | cons e es ih =>
    obtain ⟨h1, h2⟩ := List.pairwise_cons.1 hs
    rw [ready_cons, rest_cons, ready_cons]
    by_cases h3 : e.tick ≤ f
    · simp [h3, show e.tick ≤ t by omega, ih h2]
    · have hl : ∀ x ∈ es, f < x.tick := fun x hx => by have := h1 x hx; omega
      simp only [h3, if_false]
      rw [ready_cons, ready_late es f hl, rest_late es f hl]; rfl
theorem rest_rest {es : List Ev} {f t : Nat} (h : f ≤ t) : rest (rest es f) t = rest es t := by
  unfold rest; rw [List.filter_filter]; congr 1; funext e; simp; omega
theorem settleG_eq (es : List Ev) (hs : SortT es) (room : Int) (hr : 0 ≤ room) (f : Nat) :
    settleG room f (ready es f) (rest es f) = (settleF es room f, ready es (settleF es room f), rest es (settleF es room f)) := by
  have hsp := sort_split hs f
  have hle := belowN_le es f
  have hlen : (rest es f).length = es.length - belowN es f := by rw [← hsp.2]; simp
  by_cases h : belowN es f < es.length ∧ room < (es.length : Int) - belowN es f
  · have hlt := belowN_lt es f h.1
    have hat := belowN_at es f h.1
    have hd := List.drop_eq_getElem_cons h.1
    rw [hsp.2] at hd
    have ht : f ≤ (es[belowN es f]'h.1).tick := by omega
    have e1 : settleF es room f = settleF es room (es[belowN es f]'h.1).tick := by
      conv => lhs; unfold settleF
      rw [dif_pos h]
    have e2 : settleG room f (ready es f) (rest es f) = settleG room (es[belowN es f]'h.1).tick (ready es f ++ ready (rest es f) (es[belowN es f]'h.1).tick) (rest (rest es f) (es[belowN es f]'h.1).tick) := by
      rw [hd]
      conv => lhs; unfold settleG
      rw [if_pos (by rw [← hd, hlen]; omega)]
    rw [e1, e2, ready_rest hs ht, rest_rest ht]
    exact settleG_eq es hs room hr _
  · have e1 : settleF es room f = f := by unfold settleF; rw [dif_neg h]
    rw [e1]
    unfold settleG
    split
    · rename_i hn; rw [hn]
    · rename_i e r hn
      rw [if_neg (by rw [← hn, hlen]; rw [hn] at hlen; simp at hlen; omega)]
      rw [hn]
termination_by es.length - belowN es f
decreasing_by have := belowN_le es (es[belowN es f]'h.1).tick; omega
theorem settle_eq (b : Buf) (hs : SortT b.events) (hr : 0 ≤ b.room) : settleS b = settleP b := by
  unfold settleS settleP
  simp only [settleG_eq b.events hs b.room hr, (sort_split hs _).1, (sort_split hs _).2]
theorem SortT.ins {es : List Ev} (hs : SortT es) (e : Ev) : SortT (es.take (belowN es e.tick) ++ [e] ++ es.drop (belowN es e.tick)) := by
  obtain ⟨h1, h2⟩ := sort_split hs e.tick
  rw [h1, h2]
  unfold SortT
  rw [List.pairwise_append, List.pairwise_append]
  refine ⟨⟨hs.ready _, by simp, ?_⟩, hs.rest _, ?_⟩
  · intro a ha b hb
    simp at hb; subst hb
    exact (ready_mem.1 ha).2
  · intro a ha b hb
    have hb := (rest_mem.1 hb).2
    rcases List.mem_append.1 ha with ha | ha
    · have := (ready_mem.1 ha).2; omega
    · simp at ha; subst ha; omega
theorem push_eq (b : Buf) (e : Ev) (hs : SortT b.events) (hr : 0 ≤ b.room) : bpushS b e = pushP b e := by
  unfold bpushS pushP
  simp only
  have h := sort_split hs e.tick
  have hi := hs.ins e
  rw [h.1, h.2] at hi ⊢
  rw [settle_eq ⟨b.late, b.room, max b.mark e.tick, b.front, _⟩ hi hr]
theorem move_eq (b : Buf) (tick : Nat) (hs : SortT b.events) (hr : 0 ≤ b.room) : bmoveS b tick = moveP b tick := by
  unfold bmoveS moveP
  simp only
  rw [settle_eq ⟨b.late, b.room, max b.mark tick, b.front, b.events⟩ hs hr]
/-! ### where a settled buffer ends -/
theorem settleF_ge (es : List Ev) (room : Int) (f : Nat) : f ≤ settleF es room f := by
  unfold settleF
  split
  · rename_i h
    have hat := belowN_at es f h.1
    have := settleF_ge es room (es[belowN es f]'h.1).tick
    omega
  · exact Nat.le_refl _
termination_by es.length - belowN es f
decreasing_by rename_i h; have := belowN_lt es f h.1; have := belowN_le es (es[belowN es f]'h.1).tick; omega
theorem settleF_le (es : List Ev) (room : Int) (B : Nat) (hB : ∀ e ∈ es, e.tick ≤ B) (f : Nat) (hf : f ≤ B) : settleF es room f ≤ B := by
  unfold settleF
  split
  · rename_i h
    exact settleF_le es room B hB _ (hB _ (List.getElem_mem _))
  · exact hf
termination_by es.length - belowN es f
decreasing_by rename_i h; have := belowN_lt es f h.1; have := belowN_le es (es[belowN es f]'h.1).tick; omega
theorem settleF_room (es : List Ev) (room : Int) (hr : 0 ≤ room) (f : Nat) : (es.length : Int) - belowN es (settleF es room f) ≤ room := by
  unfold settleF
  split
  · rename_i h
    exact settleF_room es room hr _
  · rename_i h
    have := belowN_le es f
    omega
termination_by es.length - belowN es f
decreasing_by rename_i h; have := belowN_lt es f h.1; have := belowN_le es (es[belowN es f]'h.1).tick; omega
end Go.Abs

namespace Go.Abs
set_option linter.unusedVariables false

/-! ### a histogram in order -/
def SortS (l : List Span) : Prop := l.Pairwise fun a b => a.to ≤ b.to
def flatL (ls : List (List Span)) : List Span := ls.reverse.flatten
theorem flatL_cons (l : List Span) (ls : List (List Span)) : flatL (l :: ls) = flatL ls ++ l := by simp [flatL]
theorem flatL_nil : flatL [] = [] := rfl
theorem flatL_mem {ls : List (List Span)} {s : Span} : s ∈ flatL ls ↔ ∃ l ∈ ls, s ∈ l := by simp [flatL]
/-- every `to` of a comes from b -/
def ToIn (a b : List Span) : Prop := ∀ x ∈ a, ∃ y ∈ b, x.to = y.to
theorem pairUp_toIn : ∀ V : List Span, ToIn (pairUp V) V
  | [], x, h => by simp [pairUp] at h
  | [a], x, h => by simp [pairUp] at h
  | a :: b :: r, x, h => by
    simp only [pairUp, List.mem_cons] at h
    rcases h with rfl | h
    · exact ⟨b, by simp, rfl⟩
    · obtain ⟨y, hy, e⟩ := pairUp_toIn r x h
      exact ⟨y, by simp [hy], e⟩
theorem pairUp_sort : ∀ V : List Span, SortS V → SortS (pairUp V)
  | [], _ => by simp [pairUp, SortS]
  | [a], _ => by simp [pairUp, SortS]
  | a :: b :: r, h => by
    unfold SortS at h ⊢
    rw [List.pairwise_cons, List.pairwise_cons] at h
    simp only [pairUp, List.pairwise_cons]
    refine ⟨fun x hx => ?_, pairUp_sort r h.2.2⟩
    obtain ⟨y, hy, e⟩ := pairUp_toIn r x hx
    show b.to ≤ x.to
    rw [e]; exact h.2.1 y hy
theorem pushGo_toIn (V : List Span) (m : Nat) : ToIn (pushGo V m) V := fun x hx => by
  obtain ⟨y, hy, e⟩ := pairUp_toIn _ x hx
  exact ⟨y, List.mem_of_mem_take hy, e⟩
theorem go_stay_sort (V : List Span) (m : Nat) (h : SortS V) : SortS (pushGo V m ++ pushStay V m) := by
  unfold SortS
  rw [List.pairwise_append]
  have hsp : V.take (2 * npairs V.length m) ++ V.drop (2 * npairs V.length m) = V := List.take_append_drop _ _
  unfold SortS at h
  rw [← hsp, List.pairwise_append] at h
  refine ⟨pairUp_sort _ h.1, h.2.1, fun a ha b hb => ?_⟩
  obtain ⟨y, hy, e⟩ := pairUp_toIn _ a ha
  rw [e]; exact h.2.2 y hy b hb
theorem SortS.glue {A V G S : List Span} (h : SortS (A ++ V)) (hg : SortS (G ++ S)) (i1 : ToIn G V) (i2 : ∀ x ∈ S, x ∈ V) : SortS (A ++ G ++ S) := by
  unfold SortS at *
  rw [List.append_assoc, List.pairwise_append]
  rw [List.pairwise_append] at h
  refine ⟨h.1, hg, fun a ha b hb => ?_⟩
  rcases List.mem_append.1 hb with hb | hb
  · obtain ⟨y, hy, e⟩ := i1 b hb
    rw [e]; exact h.2.2 a ha y hy
  · exact h.2.2 a ha b (i2 b hb)
theorem pushStay_mem {V : List Span} {m : Nat} {x : Span} (h : x ∈ pushStay V m) : x ∈ V := List.mem_of_mem_drop h
/-- weight comes to a histogram in order -/
theorem glue2 {R G S V A : List Span} (h : SortS (A ++ V)) (hV : SortS (G ++ S)) (r1 : SortS R) (r2 : ToIn R (A ++ G)) (i1 : ToIn G V) (i2 : ∀ x ∈ S, x ∈ V) : SortS (R ++ S) ∧ ToIn (R ++ S) (A ++ V) := by
  have hg := h.glue hV i1 i2
  constructor
  · unfold SortS at *
    rw [List.pairwise_append] at hg ⊢
    refine ⟨r1, hg.2.1, fun a ha b hb => ?_⟩
    obtain ⟨y, hy, e⟩ := r2 a ha
    rw [e]; exact hg.2.2 y hy b hb
  · intro x hx
    rcases List.mem_append.1 hx with hx | hx
    · obtain ⟨y, hy, e⟩ := r2 x hx
      rcases List.mem_append.1 hy with hy | hy
      · exact ⟨y, List.mem_append_left _ hy, e⟩
      · obtain ⟨z, hz, e'⟩ := i1 y hy
        exact ⟨z, List.mem_append_right _ hz, e.trans e'⟩
    · exact ⟨x, List.mem_append_right _ (i2 x hx), rfl⟩
theorem flowV_sort0 (k : Int) (n : Nat) : ∀ (C : List Span) (i : Nat), C.length ≤ n → SortS C →
    SortS (flatL (flowV k i [] C)) ∧ ToIn (flatL (flowV k i [] C)) C := by
  induction n with
  | zero =>
    intro C i hn hs
    have : C = [] := List.eq_nil_of_length_eq_zero (by omega)
    subst this
    simp [flowV, flatL, SortS, ToIn]
  | succ n ih =>
    intro C i hn hs
    unfold flowV
    split
    · simp [flatL, SortS, ToIn]
    · rename_i hC
      have hlt : (pushGo C (mostN k i)).length < C.length := by
        rw [pushGo_len]; have := npairs_half C.length (mostN k i); have : 0 < C.length := List.length_pos_iff.2 hC; omega
      have hgs := go_stay_sort C (mostN k i) hs
      obtain ⟨r1, r2⟩ := ih (pushGo C (mostN k i)) (i + 1) (by omega) (List.pairwise_append.1 hgs).1
      rw [flatL_cons]
      exact glue2 (A := []) hs hgs r1 r2 (pushGo_toIn _ _) (fun x hx => pushStay_mem hx)
theorem flowV_sort (k : Int) : ∀ (ls : List (List Span)) (C : List Span) (i : Nat), SortS (flatL ls ++ C) →
    SortS (flatL (flowV k i ls C)) ∧ ToIn (flatL (flowV k i ls C)) (flatL ls ++ C)
  | [], C, i, hs => flowV_sort0 k C.length C i (Nat.le_refl _) hs
  | l :: ls, C, i, hs => by
    have e0 : flatL (l :: ls) ++ C = flatL ls ++ (l ++ C) := by rw [flatL_cons, List.append_assoc]
    rw [e0] at hs ⊢
    have hV : SortS (l ++ C) := (List.pairwise_append.1 hs).2.1
    have hgs := go_stay_sort (l ++ C) (mostN k i) hV
    have hgl := hs.glue hgs (pushGo_toIn _ _) (fun x hx => pushStay_mem hx)
    unfold flowV
    rw [flatL_cons]
    obtain ⟨r1, r2⟩ := flowV_sort k ls (pushGo (l ++ C) (mostN k i)) (i + 1) (List.pairwise_append.1 hgl).1
    exact glue2 hs hgs r1 r2 (pushGo_toIn _ _) (fun x hx => pushStay_mem hx)

/-! ### how much, how long -/
theorem stay_go_len (V : List Span) (m : Nat) : (pushStay V m).length + 2 * (pushGo V m).length = V.length := by
  rw [pushStay_len, pushGo_len]; have := npairs_le V.length m; omega
theorem pushStay_le (V : List Span) (m : Nat) : (pushStay V m).length ≤ max m 1 := by
  rw [pushStay_len]; unfold npairs; omega
theorem pushStay_pos (V : List Span) (m : Nat) (hm : 2 ≤ m) (h : V ≠ []) : pushStay V m ≠ [] := by
  have : 0 < V.length := List.length_pos_iff.2 h
  apply List.length_pos_iff.1
  rw [pushStay_len]; unfold npairs; omega
theorem flowV_tot0 (k : Int) (n : Nat) : ∀ (C : List Span) (i : Nat), C.length ≤ n → totN i (flowV k i [] C) = C.length * 2 ^ i := by
  induction n with
  | zero => intro C i hn; have : C = [] := List.eq_nil_of_length_eq_zero (by omega); subst this; simp [flowV, totN]
  | succ n ih =>
    intro C i hn
    unfold flowV
    split
    · rename_i h; subst h; simp [totN]
    · rename_i hC
      have hlt : (pushGo C (mostN k i)).length < C.length := by
        rw [pushGo_len]; have := npairs_half C.length (mostN k i); have : 0 < C.length := List.length_pos_iff.2 hC; omega
      have h1 := stay_go_len C (mostN k i)
      simp only [totN]
      rw [ih _ _ (by omega), ← h1, Nat.pow_succ, Nat.add_mul, Nat.mul_comm 2, Nat.mul_assoc, Nat.mul_comm 2]
theorem flowV_tot (k : Int) : ∀ (ls : List (List Span)) (C : List Span) (i : Nat), totN i (flowV k i ls C) = totN i ls + C.length * 2 ^ i
  | [], C, i => by rw [flowV_tot0 k C.length C i (Nat.le_refl _)]; simp [totN]
  | l :: ls, C, i => by
    have h1 := stay_go_len (l ++ C) (mostN k i)
    unfold flowV
    simp only [totN]
    rw [flowV_tot k ls _ (i + 1)]
    have h2 : (l ++ C).length = l.length + C.length := by simp
    rw [h2] at h1
    have h3 : l.length * 2 ^ i + C.length * 2 ^ i = (pushStay (l ++ C) (mostN k i)).length * 2 ^ i + (pushGo (l ++ C) (mostN k i)).length * 2 ^ (i + 1) := by
      rw [← Nat.add_mul, ← h1, Nat.pow_succ, Nat.add_mul, Nat.mul_comm 2, Nat.mul_assoc, Nat.mul_comm 2]
    omega
/-- levels: none is empty, none is long -/
def Tidy (ls : List (List Span)) : Prop := ∀ l ∈ ls, l ≠ [] ∧ l.length ≤ 2000
theorem mostN_le (k : Int) (i : Nat) (h : k ≤ 1024) : mostN k i ≤ 2000 := by unfold mostN most; split <;> omega
theorem mostN_two (k : Int) (i : Nat) (h : 2 ≤ k) : 2 ≤ mostN k i := by unfold mostN most; split <;> omega
theorem flowV_tidy0 (k : Int) (hk0 : 2 ≤ k) (hk : k ≤ 1024) (n : Nat) : ∀ (C : List Span) (i : Nat), C.length ≤ n → Tidy (flowV k i [] C) := by
  induction n with
  | zero => intro C i hn; have : C = [] := List.eq_nil_of_length_eq_zero (by omega); subst this; simp [flowV, Tidy]
  | succ n ih =>
    intro C i hn
    unfold flowV
    split
    · simp [Tidy]
    · rename_i hC
      have hlt : (pushGo C (mostN k i)).length < C.length := by
        rw [pushGo_len]; have := npairs_half C.length (mostN k i); have : 0 < C.length := List.length_pos_iff.2 hC; omega
      intro l hl
      rcases List.mem_cons.1 hl with rfl | hl
      · have := pushStay_le C (mostN k i); have := mostN_le k i hk
        exact ⟨pushStay_pos _ _ (mostN_two k i hk0) hC, by omega⟩
      · exact ih _ (i + 1) (by omega) l hl
theorem flowV_tidy (k : Int) (hk0 : 2 ≤ k) (hk : k ≤ 1024) : ∀ (ls : List (List Span)) (C : List Span) (i : Nat), Tidy ls → Tidy (flowV k i ls C)
  | [], C, i, _ => flowV_tidy0 k hk0 hk C.length C i (Nat.le_refl _)
  | l :: ls, C, i, h => by
    have ih := flowV_tidy k hk0 hk ls (pushGo (l ++ C) (mostN k i)) (i + 1) fun x hx => h x (by simp [hx])
    unfold flowV
    intro x hx
    rcases List.mem_cons.1 hx with rfl | hx
    · have := pushStay_le (l ++ C) (mostN k i); have := mostN_le k i hk
      exact ⟨pushStay_pos _ _ (mostN_two k i hk0) (by have := (h l (by simp)).1; simp [this]), by omega⟩
    · exact ih x hx
theorem totN_pos : ∀ (ls : List (List Span)) (i : Nat), Tidy ls → ls ≠ [] → 2 ^ (i + ls.length - 1) ≤ totN i ls
  | [], _, _, h => absurd rfl h
  | [l], i, h, _ => by
    have := (h l (by simp)).1
    have : 0 < l.length := List.length_pos_iff.2 this
    simp only [totN, List.length_cons, List.length_nil]
    calc 2 ^ (i + (0 + 1) - 1) = 1 * 2 ^ i := by simp
      _ ≤ l.length * 2 ^ i := Nat.mul_le_mul_right _ (by omega)
      _ ≤ _ := by omega
  | l :: m :: ls, i, h, _ => by
    have := totN_pos (m :: ls) (i + 1) (fun x hx => h x (by simp [hx])) (by simp)
    simp only [totN, List.length_cons] at this ⊢
    rw [show i + (ls.length + 1 + 1) - 1 = i + 1 + (ls.length + 1) - 1 by omega]
    omega
theorem tidy_len (ls : List (List Span)) (h : Tidy ls) (ht : totN 0 ls ≤ 4503599627370496) : ls.length ≤ 53 := by
  by_cases h0 : ls = []
  · subst h0; simp
  · have := totN_pos ls 0 h h0
    rcases Nat.lt_or_ge 53 ls.length with h1 | h1
    · have h2 : (2 : Nat) ^ 53 ≤ 2 ^ (0 + ls.length - 1) := Nat.pow_le_pow_right (by omega) (by omega)
      have : (2 : Nat) ^ 53 = 9007199254740992 := by decide
      omega
    · exact h1
end Go.Abs

namespace Go.Abs
set_option linter.unusedVariables false

theorem pairUp_all (P : Span → Prop) (hP : ∀ a b, P a → P b → P ⟨a.fr, b.to⟩) : ∀ V : List Span, (∀ s ∈ V, P s) → ∀ s ∈ pairUp V, P s
  | [], _, s, h => by simp [pairUp] at h
  | [a], _, s, h => by simp [pairUp] at h
  | a :: b :: r, hV, s, h => by
    simp only [pairUp, List.mem_cons] at h
    rcases h with rfl | h
    · exact hP a b (hV a (by simp)) (hV b (by simp))
    · exact pairUp_all P hP r (fun x hx => hV x (by simp [hx])) s h
theorem flowV_all0 (P : Span → Prop) (hP : ∀ a b, P a → P b → P ⟨a.fr, b.to⟩) (k : Int) (n : Nat) : ∀ (C : List Span) (i : Nat), C.length ≤ n → (∀ s ∈ C, P s) → ∀ l ∈ flowV k i [] C, ∀ s ∈ l, P s := by
  induction n with
  | zero => intro C i hn hs; have : C = [] := List.eq_nil_of_length_eq_zero (by omega); subst this; simp [flowV]
  | succ n ih =>
    intro C i hn hs
    unfold flowV
    split
    · simp
    · rename_i hC
      have hlt : (pushGo C (mostN k i)).length < C.length := by
        rw [pushGo_len]; have := npairs_half C.length (mostN k i); have : 0 < C.length := List.length_pos_iff.2 hC; omega
      intro l hl s hsl
      rcases List.mem_cons.1 hl with rfl | hl
      · exact hs s (pushStay_mem hsl)
      · exact ih (pushGo C (mostN k i)) (i + 1) (by omega) (pairUp_all P hP _ fun x hx => hs x (List.mem_of_mem_take hx)) l hl s hsl
theorem flowV_all (P : Span → Prop) (hP : ∀ a b, P a → P b → P ⟨a.fr, b.to⟩) (k : Int) : ∀ (ls : List (List Span)) (C : List Span) (i : Nat), (∀ l ∈ ls, ∀ s ∈ l, P s) → (∀ s ∈ C, P s) → ∀ l ∈ flowV k i ls C, ∀ s ∈ l, P s
  | [], C, i, _, hs => flowV_all0 P hP k C.length C i (Nat.le_refl _) hs
  | m :: ls, C, i, h, hs => by
    have hV : ∀ s ∈ m ++ C, P s := fun s hx => by
      rcases List.mem_append.1 hx with hx | hx
      · exact h m (by simp) s hx
      · exact hs s hx
    have ih := flowV_all P hP k ls (pushGo (m ++ C) (mostN k i)) (i + 1) (fun x hx => h x (by simp [hx])) (pairUp_all P hP _ fun x hx => hV x (List.mem_of_mem_take hx))
    unfold flowV
    intro l hl s hsl
    rcases List.mem_cons.1 hl with rfl | hl
    · exact hV s (pushStay_mem hsl)
    · exact ih l hl s hsl

/-- a histogram in order, nothing in it later than B -/
structure HI (h : Hist) (B : Nat) : Prop where
  k0 : 2 ≤ h.k
  k1 : h.k ≤ 1024
  tidy : Tidy h.levels
  sort : SortS (flatL h.levels)
  sp : ∀ l ∈ h.levels, ∀ s ∈ l, s.fr ≤ B ∧ s.to ≤ B
  tot : totN 0 h.levels ≤ 4503599627370496
theorem HI.mono {h : Hist} {B C : Nat} (hi : HI h B) (hBC : B ≤ C) : HI h C :=
  ⟨hi.k0, hi.k1, hi.tidy, hi.sort, fun l hl s hs => by have := hi.sp l hl s hs; omega, hi.tot⟩
theorem HI.len {h : Hist} {B : Nat} (hi : HI h B) : h.levels.length ≤ 53 := tidy_len _ hi.tidy hi.tot
theorem HI.fine {h : Hist} {B : Nat} (hi : HI h B) (hB : B < 18446744073709551616) : Fine h :=
  ⟨⟨by have := hi.k0; omega, by have := hi.k1; omega, by have := hi.len; omega, fun l hl => by have := (hi.tidy l hl).2; omega⟩, hi.tot, fun l hl s hs => by have := (hi.sp l hl s hs).2; omega⟩
theorem HI.last {h : Hist} {B : Nat} (hi : HI h B) : (lastOf h.levels).1 ≤ B := by
  have := hi.sp
  unfold lastOf
  split
  · exact Nat.zero_le _
  · rename_i l r hl
    split
    · exact Nat.zero_le _
    · rename_i s hs
      exact (this l (by simp [hl]) s (List.mem_of_getLast? hs)).2
theorem addM_ok {h : Hist} {B t w : Nat} (hi : HI h B) (h1 : B ≤ t) (h2 : t ≤ 9223372036854775807) (h3 : 0 < w) (h4 : totN 0 h.levels + w ≤ 4503599627370496) :
    (addM h t w).2 = 0 ∧ HI (addM h t w).1 t ∧ totN 0 (addM h t w).1.levels = totN 0 h.levels + w ∧ (addM h t w).1.k = h.k ∧ (addM h t w).1.gen = h.gen := by
  have hl := hi.last
  have e : addM h t w = (⟨h.k, h.gen, flowV h.k 0 h.levels (List.replicate w ⟨t, t⟩)⟩, 0) := by
    unfold addM
    rw [if_neg (by omega), if_neg (by omega), if_neg (by omega)]
  rw [e]
  have hT : totN 0 (flowV h.k 0 h.levels (List.replicate w ⟨t, t⟩)) = totN 0 h.levels + w := by rw [flowV_tot]; simp
  refine ⟨rfl, ⟨hi.k0, hi.k1, flowV_tidy h.k hi.k0 hi.k1 _ _ _ hi.tidy, (flowV_sort h.k _ _ _ ?_).1, ?_, by rw [hT]; exact h4⟩, hT, rfl, rfl⟩
  · unfold SortS
    rw [List.pairwise_append]
    refine ⟨hi.sort, ?_, fun a ha b hb => ?_⟩
    · rw [List.pairwise_replicate]; exact .inr (Nat.le_refl _)
    · obtain ⟨l, hl, hal⟩ := flatL_mem.1 ha
      have := (hi.sp l hl a hal).2
      have := List.eq_of_mem_replicate hb
      subst this; show a.to ≤ t; omega
  · refine flowV_all (fun s => s.fr ≤ t ∧ s.to ≤ t) (fun a b ha hb => ⟨ha.1, hb.2⟩) h.k _ _ _ (fun l hl s hs => ?_) fun s hs => ?_
    · have := hi.sp l hl s hs; omega
    · have := List.eq_of_mem_replicate hs; subst this; exact ⟨Nat.le_refl _, Nat.le_refl _⟩
def wS (es : List Ev) : Nat := (es.map fun e => e.weight).sum
@[simp] theorem wS_nil : wS [] = 0 := rfl
@[simp] theorem wS_cons (e : Ev) (es : List Ev) : wS (e :: es) = e.weight + wS es := by simp [wS]
theorem wS_append (a b : List Ev) : wS (a ++ b) = wS a + wS b := by simp [wS]
theorem wS_take (es : List Ev) (i : Nat) : wS (es.take i) ≤ wS es := by
  have : wS es = wS (es.take i) + wS (es.drop i) := by rw [← wS_append, List.take_append_drop]
  omega
theorem wS_mem {e : Ev} : ∀ {es : List Ev}, e ∈ es → e.weight ≤ wS es
  | x :: es, h => by
    rw [wS_cons]
    rcases List.mem_cons.1 h with rfl | h
    · omega
    · have := wS_mem h; omega
theorem passH_ok (F : Nat) (hF : F ≤ 9223372036854775807) : ∀ (out : List Ev) (h : Hist) (B : Nat), HI h B → SortT out → (∀ e ∈ out, B ≤ e.tick ∧ e.tick ≤ F ∧ 0 < e.weight) → B ≤ F → totN 0 h.levels + wS out ≤ 4503599627370496 →
    HI (passH h out) F ∧ totN 0 (passH h out).levels = totN 0 h.levels + wS out ∧ (passH h out).k = h.k ∧ (passH h out).gen = h.gen
  | [], h, B, hi, _, _, hB, _ => ⟨hi.mono hB, by simp [passH], rfl, rfl⟩
  | e :: es, h, B, hi, hs, he, hB, ht => by
    obtain ⟨s1, s2⟩ := List.pairwise_cons.1 hs
    obtain ⟨g1, g2, g3⟩ := he e (by simp)
    rw [wS_cons] at ht
    obtain ⟨a1, a2, a3, a4, a5⟩ := addM_ok (t := e.tick) (w := e.weight) hi g1 (by omega) g3 (by omega)
    obtain ⟨r1, r2, r3, r4⟩ := passH_ok F hF es (addM h e.tick e.weight).1 e.tick a2 s2 (fun x hx => ⟨s1 x hx, (he x (by simp [hx])).2⟩) g2 (by omega)
    have ee : passH h (e :: es) = passH (addM h e.tick e.weight).1 es := rfl
    rw [ee]
    exact ⟨r1, by rw [r2, a3, wS_cons]; omega, r3.trans a4, r4.trans a5⟩
theorem passOk (F : Nat) (hF : F ≤ 9223372036854775807) (out : List Ev) (h : Hist) (B : Nat) (hi : HI h B) (hs : SortT out) (he : ∀ e ∈ out, B ≤ e.tick ∧ e.tick ≤ F ∧ 0 < e.weight) (hB : B ≤ F) (ht : totN 0 h.levels + wS out ≤ 4503599627370496) : PassOk h out := by
  refine ⟨fun i hi' => ?_, fun e hx => ⟨by have := (he e hx).2.1; omega, ?_⟩⟩
  · have hw := wS_take out i
    exact (passH_ok F hF (out.take i) h B hi (List.Pairwise.sublist (List.take_sublist _ _) hs) (fun e hx => he e (List.mem_of_mem_take hx)) hB (by omega)).1.fine (by omega)
  · have : e.weight ≤ wS out := by
      exact wS_mem hx
    omega
/-! ### what is too old goes -/
theorem dropWhile_eq (F W : Nat) : ∀ l : List Span, SortS l → (l.dropWhile fun s => oldB s.to F W) = l.filter fun s => !oldB s.to F W
  | [], _ => rfl
  | s :: l, h => by
    obtain ⟨h1, h2⟩ := List.pairwise_cons.1 h
    rw [List.dropWhile_cons, List.filter_cons]
    cases ho : oldB s.to F W with
    | true => simp [dropWhile_eq F W l h2]
    | false =>
      simp only [Bool.not_false, if_true, Bool.false_eq_true, if_false]
      have : l.filter (fun s => !oldB s.to F W) = l := by
        rw [List.filter_eq_self]
        intro x hx
        have := h1 x hx
        simp [oldB] at ho ⊢
        omega
      rw [this]
theorem dropP_nil (F W : Nat) : dropP F W [] = [] := rfl
theorem dropP_cons (F W : Nat) (l : List Span) (r : List (List Span)) : dropP F W (l :: r) = if (l.dropWhile fun s => oldB s.to F W) = [] then [] else (l.dropWhile fun s => oldB s.to F W) :: dropP F W r := by
  simp only [dropP]
  split
  · rename_i h; rw [if_pos h]
  · rename_i x h; rw [if_neg (fun hh => h hh)]
theorem manyR_nil : ∀ ls : List (List Span), (∀ l ∈ ls, l = []) → manyR ls = 0
  | [], _ => rfl
  | l :: r, h => by simp [manyR, manyR_nil r fun x hx => h x (by simp [hx]), h l (by simp)]
theorem drop_eq (F W : Nat) : ∀ ls : List (List Span), Tidy ls → SortS (flatL ls) → dropP F W ls = (dropR F W ls).take (manyR (dropR F W ls))
  | [], _, _ => rfl
  | l :: r, ht, hs => by
    rw [flatL_cons] at hs
    obtain ⟨h1, h2, h3⟩ := List.pairwise_append.1 hs
    have ih := drop_eq F W r (fun x hx => ht x (by simp [hx])) h1
    rw [dropP_cons, dropWhile_eq F W l h2]
    have hR : dropR F W (l :: r) = (l.filter fun s => !oldB s.to F W) :: dropR F W r := rfl
    rw [hR]
    by_cases hx : (l.filter fun s => !oldB s.to F W) = []
    · rw [if_pos hx, hx]
      have hz : ∀ m ∈ dropR F W r, m = [] := by
        intro m hm
        obtain ⟨m', hm', rfl⟩ := List.mem_map.1 hm
        rw [List.filter_eq_nil_iff]
        intro s hs'
        obtain ⟨y, hy⟩ := List.exists_mem_of_ne_nil _ (ht l (by simp)).1
        have hyo := List.filter_eq_nil_iff.1 hx y hy
        have := h3 s (flatL_mem.2 ⟨m', hm', hs'⟩) y hy
        simp [oldB] at hyo ⊢
        omega
      have := manyR_nil _ hz
      simp [manyR, this]
    · rw [if_neg hx]
      simp only [manyR]
      rw [if_neg (by simp [hx]), List.take_succ_cons, ih]
theorem dropP_sub (F W : Nat) : ∀ ls : List (List Span), (flatL (dropP F W ls)).Sublist (flatL ls)
  | [] => by simp [dropP, flatL]
  | l :: r => by
    rw [dropP_cons, flatL_cons]
    split
    · simp [flatL]
    · rw [flatL_cons]
      exact List.Sublist.append (dropP_sub F W r) (List.dropWhile_sublist _)
theorem dropP_tot (F W : Nat) : ∀ (ls : List (List Span)) (i : Nat), totN i (dropP F W ls) ≤ totN i ls
  | [], i => by simp [dropP]
  | l :: r, i => by
    rw [dropP_cons]
    split
    · simp [totN]
    · simp only [totN]
      have h1 : (l.dropWhile fun s => oldB s.to F W).length * 2 ^ i ≤ l.length * 2 ^ i := Nat.mul_le_mul_right _ (List.dropWhile_sublist _).length_le
      have h2 := dropP_tot F W r (i + 1)
      omega
theorem dropP_mem (F W : Nat) : ∀ (ls : List (List Span)), ∀ x ∈ dropP F W ls, x ≠ [] ∧ ∃ l ∈ ls, x.Sublist l
  | [], x, h => by simp [dropP] at h
  | l :: r, x, h => by
    rw [dropP_cons] at h
    split at h
    · simp at h
    · rename_i hne
      rcases List.mem_cons.1 h with rfl | h
      · exact ⟨hne, l, by simp, List.dropWhile_sublist _⟩
      · obtain ⟨h1, m, hm, h2⟩ := dropP_mem F W r x h
        exact ⟨h1, m, by simp [hm], h2⟩
theorem HI.drop {h : Hist} {B : Nat} (hi : HI h B) (F W : Nat) : HI ⟨h.k, h.gen, dropP F W h.levels⟩ B :=
  ⟨hi.k0, hi.k1, fun x hx => by
    obtain ⟨h1, l, hl, h2⟩ := dropP_mem F W _ x hx
    exact ⟨h1, Nat.le_trans h2.length_le (hi.tidy l hl).2⟩, List.Pairwise.sublist (dropP_sub F W _) hi.sort, fun x hx s hs => by
    obtain ⟨h1, l, hl, h2⟩ := dropP_mem F W _ x hx
    exact hi.sp l hl s (h2.subset hs), Nat.le_trans (dropP_tot F W _ 0) hi.tot⟩
end Go.Abs

namespace Go.Abs
set_option linter.unusedVariables false

theorem wsum_eq (l : List Ev) : ∀ i, i ≤ l.length → wsum l i = (wS (l.take i) : Int) % 18446744073709551616
  | 0, _ => by simp [wsum]
  | i + 1, h => by
    have ih := wsum_eq l i (by omega)
    have hg : l[i]?.getD ⟨0, 0, 0⟩ = l[i] := by simp [show i < l.length by omega]
    rw [wsum, ih, List.take_add_one, List.getElem?_eq_getElem (by omega), wS_append]
    simp only [Option.toList, wS_cons, wS_nil, List.getD_eq_getElem?_getD, hg]
    omega
theorem wtot_wS (l : List Ev) (h : wS l < 18446744073709551616) : wtot l = wS l := by
  have := wsum_eq l l.length (Nat.le_refl _)
  rw [List.take_length] at this
  unfold wtot
  rw [this]; omega
theorem ready_rest_wS (es : List Ev) (f : Nat) : wS (ready es f) + wS (rest es f) = wS es := by
  induction es with
  | nil => rfl
  | cons e es ih =>
    rw [ready_cons, rest_cons]
    by_cases h : e.tick ≤ f <;> simp [h] <;> omega
structure CI (s : Cnt) : Prop where
  hi : HI s.past s.wait.front
  room0 : 1 ≤ s.wait.room
  room1 : s.wait.room ≤ 1024
  late : s.wait.late ≤ 4611686018427387904
  mark : s.wait.mark ≤ 9223372036854775807
  front : s.wait.front ≤ s.wait.mark
  win : s.window ≤ 4611686018427387904
  sort : SortT s.wait.events
  evs : ∀ e ∈ s.wait.events, s.wait.front < e.tick ∧ e.tick ≤ s.wait.mark ∧ 0 < e.weight ∧ e.key < 18446744073709551616
  len : (s.wait.events.length : Int) ≤ s.wait.room
  tot : totN 0 s.past.levels + wS s.wait.events ≤ 4503599627370496
structure PushOk (s : Cnt) (b : Buf) (out : List Ev) : Prop where
  pass : PassOk s.past out
  len : out.length < 4611686018427387904
  front : b.front < 18446744073709551616
theorem CI.step {s : Cnt} (hs : CI s) (mk : Nat) (h1 : s.wait.mark ≤ mk) (h2 : mk ≤ 9223372036854775807) (ins : List Ev) (hl : ins.length ≤ 1025) (so : SortT ins)
    (ev : ∀ e ∈ ins, s.wait.front ≤ e.tick ∧ e.tick ≤ mk ∧ 0 < e.weight ∧ e.key < 18446744073709551616) (ht : totN 0 s.past.levels + wS ins ≤ 4503599627370496) :
    PushOk s (settleP ⟨s.wait.late, s.wait.room, mk, s.wait.front, ins⟩).1 (settleP ⟨s.wait.late, s.wait.room, mk, s.wait.front, ins⟩).2 ∧
    CI (passP s (settleP ⟨s.wait.late, s.wait.room, mk, s.wait.front, ins⟩).1 (settleP ⟨s.wait.late, s.wait.room, mk, s.wait.front, ins⟩).2) ∧
    passS ⟨s.window, (settleP ⟨s.wait.late, s.wait.room, mk, s.wait.front, ins⟩).1, s.past⟩ (settleP ⟨s.wait.late, s.wait.room, mk, s.wait.front, ins⟩).2 = passP s (settleP ⟨s.wait.late, s.wait.room, mk, s.wait.front, ins⟩).1 (settleP ⟨s.wait.late, s.wait.room, mk, s.wait.front, ins⟩).2 := by
  have hfr := hs.front
  have hf0 : s.wait.front ≤ front1 ⟨s.wait.late, s.wait.room, mk, s.wait.front, ins⟩ ∧ front1 ⟨s.wait.late, s.wait.room, mk, s.wait.front, ins⟩ ≤ mk := by
    unfold front1; simp only; split <;> omega
  have hge := settleF_ge ins s.wait.room (front1 ⟨s.wait.late, s.wait.room, mk, s.wait.front, ins⟩)
  have hle := settleF_le ins s.wait.room mk (fun e he => (ev e he).2.1) _ hf0.2
  have hrm := settleF_room ins s.wait.room (by have := hs.room0; omega) (front1 ⟨s.wait.late, s.wait.room, mk, s.wait.front, ins⟩)
  have e : settleP ⟨s.wait.late, s.wait.room, mk, s.wait.front, ins⟩ = (⟨s.wait.late, s.wait.room, mk, settleF ins s.wait.room (front1 ⟨s.wait.late, s.wait.room, mk, s.wait.front, ins⟩), rest ins (settleF ins s.wait.room (front1 ⟨s.wait.late, s.wait.room, mk, s.wait.front, ins⟩))⟩,
      ready ins (settleF ins s.wait.room (front1 ⟨s.wait.late, s.wait.room, mk, s.wait.front, ins⟩))) := by
    simp only [settleP, (sort_split so _).1, (sort_split so _).2]
  rw [e]
  generalize settleF ins s.wait.room (front1 ⟨s.wait.late, s.wait.room, mk, s.wait.front, ins⟩) = f at *
  have hw := ready_rest_wS ins f
  have hout : ∀ x ∈ ready ins f, s.wait.front ≤ x.tick ∧ x.tick ≤ f ∧ 0 < x.weight := fun x hx => by
    obtain ⟨m1, m2⟩ := ready_mem.1 hx
    obtain ⟨v1, v2, v3, v4⟩ := ev x m1
    exact ⟨v1, m2, v3⟩
  obtain ⟨p1, p2, p3, p4⟩ := passH_ok f (by omega) (ready ins f) s.past s.wait.front hs.hi (so.ready f) hout (by omega) (by omega)
  have hd := drop_eq f s.window _ p1.tidy p1.sort
  refine ⟨⟨passOk f (by omega) (ready ins f) s.past s.wait.front hs.hi (so.ready f) hout (by omega) (by omega), ?_, by simp only; omega⟩, ?_, ?_⟩
  · have : (ready ins f).length ≤ ins.length := List.length_filter_le _ _
    simp only; omega
  · have hdt := dropP_tot f s.window (passH s.past (ready ins f)).levels 0
    have hrl : (rest ins f).length = ins.length - belowN ins f := by rw [← (sort_split so f).2]; simp
    have := belowN_le ins f
    exact ⟨p1.drop f s.window, hs.room0, hs.room1, hs.late, h2, by simp only [passP]; omega, hs.win, so.rest f, fun x hx => by
      obtain ⟨m1, m2⟩ := rest_mem.1 hx
      obtain ⟨v1, v2, v3, v4⟩ := ev x m1
      exact ⟨m2, v2, v3, v4⟩, by simp only [passP]; rw [hrl]; omega, by simp only [passP]; omega⟩
  · simp only [passS, passP, hd]
theorem heavy_room (T W w : Nat) (h : T + W ≤ 4503599627370496) : (roomB [T, W, w] 4503599627370496 = false) ↔ heavyB ((T + W) % 18446744073709551616) w = true := by
  simp only [roomB, heavyB]
  rw [if_neg (by omega), if_neg (by omega)]
  by_cases h1 : 4503599627370496 - T - W < w
  · simp [h1]; omega
  · simp [h1]; omega
theorem CI.push {s : Cnt} (hs : CI s) (e : Ev) (h0 : e.weight ≠ 0) (hk : e.key < 18446744073709551616) :
    addC s e = addS s e ∧ ((addC s e).2 = 0 → CI (addC s e).1) ∧ (roomB [totN 0 s.past.levels, wtot s.wait.events, e.weight] 4503599627370496 = true → PushOk s (pushP s.wait e).1 (pushP s.wait e).2.1) := by
  have hr0 := hs.room0
  have hr1 := hs.room1
  have hlen := hs.len
  have htt := hs.tot
  have hwt : wtot s.wait.events = wS s.wait.events := wtot_wS _ (by omega)
  have hpe := push_eq s.wait e hs.sort (by omega)
  have hzero : PushOk s zeroBuf [] := ⟨passOk s.wait.front (by have := hs.front; have := hs.mark; omega) [] s.past s.wait.front hs.hi List.Pairwise.nil (by simp) (Nat.le_refl _) (by simp; omega), by simp, by simp [zeroBuf]⟩
  have herr : ∀ c : Int, c ≠ 0 → pushP s.wait e = (zeroBuf, [], c) → addC s e = addS s e ∧ ((addC s e).2 = 0 → CI (addC s e).1) ∧ (roomB [totN 0 s.past.levels, wtot s.wait.events, e.weight] 4503599627370496 = true → PushOk s (pushP s.wait e).1 (pushP s.wait e).2.1) := by
    intro c hc hp
    refine ⟨by simp [addC, addS, hpe, hp, hc], by simp [addC, hp, hc], fun _ => by rw [hp]; exact hzero⟩
  by_cases h1 : 9223372036854775807 < e.tick
  · exact herr 6 (by decide) (by simp [pushP, h0, h1])
  by_cases h2 : e.tick < s.wait.front
  · exact herr 4 (by decide) (by simp [pushP, h0, h1, h2])
  have hP : pushP s.wait e = ((settleP ⟨s.wait.late, s.wait.room, max s.wait.mark e.tick, s.wait.front, s.wait.events.take (belowN s.wait.events e.tick) ++ [e] ++ s.wait.events.drop (belowN s.wait.events e.tick)⟩).1,
    (settleP ⟨s.wait.late, s.wait.room, max s.wait.mark e.tick, s.wait.front, s.wait.events.take (belowN s.wait.events e.tick) ++ [e] ++ s.wait.events.drop (belowN s.wait.events e.tick)⟩).2, 0) := by simp [pushP, h0, h1, h2]
  have hins := hs.sort.ins e
  have hmem : ∀ x, x ∈ s.wait.events.take (belowN s.wait.events e.tick) ++ [e] ++ s.wait.events.drop (belowN s.wait.events e.tick) → x ∈ s.wait.events ∨ x = e := by
    intro x hx
    rcases List.mem_append.1 hx with hx | hx
    · rcases List.mem_append.1 hx with hx | hx
      · exact .inl (List.mem_of_mem_take hx)
      · exact .inr (by simpa using hx)
    · exact .inl (List.mem_of_mem_drop hx)
  have hwi : wS (s.wait.events.take (belowN s.wait.events e.tick) ++ [e] ++ s.wait.events.drop (belowN s.wait.events e.tick)) = wS s.wait.events + e.weight := by
    have : wS s.wait.events = wS (s.wait.events.take (belowN s.wait.events e.tick)) + wS (s.wait.events.drop (belowN s.wait.events e.tick)) := by rw [← wS_append, List.take_append_drop]
    rw [wS_append, wS_append, wS_cons, wS_nil]; omega
  have hli : (s.wait.events.take (belowN s.wait.events e.tick) ++ [e] ++ s.wait.events.drop (belowN s.wait.events e.tick)).length = s.wait.events.length + 1 := by
    have := belowN_le s.wait.events e.tick
    simp; omega
  generalize s.wait.events.take (belowN s.wait.events e.tick) ++ [e] ++ s.wait.events.drop (belowN s.wait.events e.tick) = ins at *
  have hmk := hs.mark
  have hro := heavy_room (totN 0 s.past.levels) (wtot s.wait.events) e.weight (by omega)
  cases hb : roomB [totN 0 s.past.levels, wtot s.wait.events, e.weight] 4503599627370496 with
  | false =>
    have hh := hro.1 hb
    refine ⟨by simp [addC, addS, hpe, hP, hb, hh], by simp [addC, hP, hb], by simp⟩
  | true =>
    have hh : ¬ heavyB ((totN 0 s.past.levels + wtot s.wait.events) % 18446744073709551616) e.weight = true := fun h => by have := hro.2 h; rw [hb] at this; cases this
    have htw : totN 0 s.past.levels + wS s.wait.events + e.weight ≤ 4503599627370496 := by
      rw [hwt] at hb
      simp only [roomB] at hb
      rw [if_neg (by omega), if_neg (by omega)] at hb
      split at hb
      · cases hb
      · omega
    obtain ⟨c1, c2, c3⟩ := hs.step (max s.wait.mark e.tick) (Nat.le_max_left _ _) (by omega) ins (by omega) hins (fun x hx => by
      rcases hmem x hx with hx | rfl
      · obtain ⟨v1, v2, v3, v4⟩ := hs.evs x hx
        exact ⟨by omega, by omega, v3, v4⟩
      · exact ⟨by omega, by omega, by omega, hk⟩) (by omega)
    have eC : addC s e = (passP s (pushP s.wait e).1 (pushP s.wait e).2.1, 0) := by simp [addC, hP, hb]
    have eS : addS s e = (passS ⟨s.window, (pushP s.wait e).1, s.past⟩ (pushP s.wait e).2.1, 0) := by simp [addS, hpe, hP, hh]
    rw [eC, eS, hP]
    exact ⟨by rw [c3], fun _ => c2, fun _ => c1⟩
theorem CI.move {s : Cnt} (hs : CI s) (tick : Nat) :
    moveC s tick = moveCS s tick ∧ ((moveC s tick).2 = 0 → CI (moveC s tick).1) ∧ PushOk s (moveP s.wait tick).1 (moveP s.wait tick).2.1 := by
  have hr0 := hs.room0
  have hr1 := hs.room1
  have hlen := hs.len
  have hmk := hs.mark
  have hpe := move_eq s.wait tick hs.sort (by omega)
  have htt := hs.tot
  by_cases h1 : 9223372036854775807 < tick
  · have hp : moveP s.wait tick = (zeroBuf, [], 6) := by simp [moveP, h1]
    refine ⟨by simp [moveC, moveCS, hpe, hp], by simp [moveC, hp], ?_⟩
    rw [hp]
    exact ⟨passOk s.wait.front (by have := hs.front; omega) [] s.past s.wait.front hs.hi List.Pairwise.nil (by simp) (Nat.le_refl _) (by simp; omega), by simp, by simp [zeroBuf]⟩
  · have hP : moveP s.wait tick = ((settleP ⟨s.wait.late, s.wait.room, max s.wait.mark tick, s.wait.front, s.wait.events⟩).1, (settleP ⟨s.wait.late, s.wait.room, max s.wait.mark tick, s.wait.front, s.wait.events⟩).2, 0) := by simp [moveP, h1]
    obtain ⟨c1, c2, c3⟩ := hs.step (max s.wait.mark tick) (Nat.le_max_left _ _) (by omega) s.wait.events (by omega) hs.sort (fun x hx => by
      obtain ⟨v1, v2, v3, v4⟩ := hs.evs x hx
      exact ⟨by omega, by omega, v3, v4⟩) htt
    have eC : moveC s tick = (passP s (moveP s.wait tick).1 (moveP s.wait tick).2.1, 0) := by simp [moveC, hP]
    have eS : moveCS s tick = (passS ⟨s.window, (moveP s.wait tick).1, s.past⟩ (moveP s.wait tick).2.1, 0) := by simp [moveCS, hpe, hP]
    rw [eC, eS, hP]
    exact ⟨by rw [c3], fun _ => c2, c1⟩
theorem CI.one {s : Cnt} (hs : CI s) (e : Ev) (hk : e.key < 18446744073709551616) : oneC s e = oneS s e ∧ ((oneC s e).2 = 0 → CI (oneC s e).1) := by
  unfold oneC oneS
  by_cases h : e.weight = 0
  · simp only [h, if_true]; exact ⟨(hs.move e.tick).1, (hs.move e.tick).2.1⟩
  · simp only [h, if_false]; exact ⟨(hs.push e h hk).1, (hs.push e h hk).2.1⟩
theorem CI.new (k : Int) (window late : Nat) (room : Int) (h1 : 2 ≤ k) (h2 : k ≤ 1024) (h3 : window ≤ 4611686018427387904) (h4 : late ≤ 4611686018427387904) (h5 : 1 ≤ room) (h6 : room ≤ 1024) : CI ⟨window, ⟨late, room, 0, 0, []⟩, ⟨k, 0, []⟩⟩ :=
  ⟨⟨h1, h2, by simp [Tidy], by simp [SortS, flatL], by simp, by simp [totN]⟩, h5, h6, h4, by simp, by simp, h3, List.Pairwise.nil, by simp, by simp; omega, by simp [totN]⟩
end Go.Abs
