import Derived.Test.YtinkdjjffjnpeaaTW9
namespace Go.Abs
open Go.Proofs
set_option linter.unusedSimpArgs false
set_option linter.unusedVariables false

/-! ### are two the same? -/
theorem nei {a b : Nat} (h : ¬ a = b) : ¬ (a : Int) = b := by omega
theorem neb {a b : Int} (h : ¬ a = b) : (a != b) = true ∧ (a == b) = false := by simp [h]
def SpOk (s : Span) : Prop := s.fr < 18446744073709551616 ∧ s.to < 18446744073709551616
def EvOk (e : Ev) : Prop := e.tick < 18446744073709551616 ∧ e.key < 18446744073709551616 ∧ e.weight < 18446744073709551616
theorem take_eq_of {α : Type} {a b : List α} {i : Nat} (h : a.take i = b.take i) (ha : a.length ≤ i) (hb : b.length ≤ i) : a = b := by
  rwa [List.take_of_length_le ha, List.take_of_length_le hb] at h
theorem take_next {α : Type} {a b : List α} {i : Nat} (h : a.take i = b.take i) (ha : i < a.length) (hb : i < b.length) (e : a[i] = b[i]) : a.take (i + 1) = b.take (i + 1) := by
  rw [List.take_add_one, List.take_add_one, h, List.getElem?_eq_getElem ha, List.getElem?_eq_getElem hb, e]

theorem Span.ext' {a b : Span} (h1 : a.fr = b.fr) (h2 : a.to = b.to) : a = b := by cases a; cases b; simp at h1 h2; simp [h1, h2]
theorem Ev.ext' {a b : Ev} (h1 : a.tick = b.tick) (h2 : a.key = b.key) (h3 : a.weight = b.weight) : a = b := by cases a; cases b; simp at h1 h2 h3; simp [h1, h2, h3]

def L_skylightref05_Same (a b : List Span) (i : Nat) : St := ⟨ofL [(0, .c (.x (.sl false (a.map encSpan)))), (1, .c (.x (.sl false (b.map encSpan)))), (5, I .i64 i)], H0, 0, []⟩
theorem w_skylightref05_Same (a b : List Span) (ha : ∀ s ∈ a, SpOk s) (hb : ∀ s ∈ b, SpOk s) (hla : a.length < 4611686018427387904) (hlb : b.length < 4611686018427387904) :
    Holds Try.prog F_skylightref05_Same [.x (.sl false (a.map encSpan)), .x (.sl false (b.map encSpan))] (fun x => x = Bo (decide (a = b))) := by
  apply Holds_fin fn_skylightref05_Same (by simp) 1
  unfold ac_skylightref05_Same
  by_cases hl : a.length = b.length
  · simp [hl]
    refine wpc_loop' (L_skylightref05_Same a b) (fun i => i ≤ a.length ∧ a.take i = b.take i) (fun i => a.length - i) 0 (by simp) (SLe.ofL (by simp) (by simp) (by simp) rfl) fun i hi => ?_
    obtain ⟨i1, i2⟩ := hi
    simp only [acl_skylightref05_Same_0, L_skylightref05_Same]
    by_cases hlt : i < a.length
    · have hlt' : i < b.length := by omega
      have h1 := ha a[i] (List.getElem_mem _)
      have h2 := hb b[i] (List.getElem_mem _)
      have ew : IntKind.i64.wrap ((i : Int) + 1) = i + 1 := wI (by omega) (by omega)
      simp [hlt, hlt', wfU h1.1, wfU h1.2, wfU h2.1, wfU h2.2]
      refine ⟨fun h e => ?_, fun g0 g1 => ?_⟩
      · subst e; simp at h
      · have e : a[i] = b[i] := Span.ext' (by omega) (by omega)
        exact lpQ_next (i + 1) ⟨by omega, take_next i2 hlt hlt' e⟩ (SLe.ofL (by simp [ew]) (by simp) (by simp) rfl) (by omega)
    · have hge : b.length ≤ i := by omega
      have : a = b := take_eq_of i2 (by omega) hge
      subst this
      simp [hlt]
  · have hne : a ≠ b := fun h => hl (by rw [h])
    simp [hl, nei hl, hne]

def L_skylightref12_Events (a b : List Ev) (i : Nat) : St := ⟨ofL [(0, .c (.x (.sl false (a.map encEv)))), (1, .c (.x (.sl false (b.map encEv)))), (5, I .i64 i)], H0, 0, []⟩
theorem w_skylightref12_Events (a b : List Ev) (ha : ∀ s ∈ a, EvOk s) (hb : ∀ s ∈ b, EvOk s) (hla : a.length < 4611686018427387904) (hlb : b.length < 4611686018427387904) :
    Holds Try.prog F_skylightref12_Events [.x (.sl false (a.map encEv)), .x (.sl false (b.map encEv))] (fun x => x = Bo (decide (a = b))) := by
  apply Holds_fin fn_skylightref12_Events (by simp) 1
  unfold ac_skylightref12_Events
  by_cases hl : a.length = b.length
  · simp [hl]
    refine wpc_loop' (L_skylightref12_Events a b) (fun i => i ≤ a.length ∧ a.take i = b.take i) (fun i => a.length - i) 0 (by simp) (SLe.ofL (by simp) (by simp) (by simp) rfl) fun i hi => ?_
    obtain ⟨i1, i2⟩ := hi
    simp only [acl_skylightref12_Events_0, L_skylightref12_Events]
    by_cases hlt : i < a.length
    · have hlt' : i < b.length := by omega
      have h1 := ha a[i] (List.getElem_mem _)
      have h2 := hb b[i] (List.getElem_mem _)
      have ew : IntKind.i64.wrap ((i : Int) + 1) = i + 1 := wI (by omega) (by omega)
      simp [hlt, hlt', wfU h1.1, wfU h1.2.1, wfU h1.2.2, wfU h2.1, wfU h2.2.1, wfU h2.2.2]
      refine ⟨fun h e => ?_, fun g0 g1 g2 => ?_⟩
      · subst e; simp at h
      · have e : a[i] = b[i] := Ev.ext' (by omega) (by omega) (by omega)
        exact lpQ_next (i + 1) ⟨by omega, take_next i2 hlt hlt' e⟩ (SLe.ofL (by simp [ew]) (by simp) (by simp) rfl) (by omega)
    · have hge : b.length ≤ i := by omega
      have : a = b := take_eq_of i2 (by omega) hge
      subst this
      simp [hlt]
  · have hne : a ≠ b := fun h => hl (by rw [h])
    simp [hl, nei hl, hne]

def L_slices_Equal_s_api_Event (a b : List Ev) (i : Nat) : St := ⟨ofL [(0, .c (.x (.sl false (a.map encEv)))), (1, .c (.x (.sl false (b.map encEv)))), (12, I .i64 a.length), (13, I .i64 i)], H0, 0, []⟩
theorem w_slices_Equal_s_api_Event (a b : List Ev) (ha : ∀ s ∈ a, EvOk s) (hb : ∀ s ∈ b, EvOk s) (hla : a.length < 4611686018427387904) (hlb : b.length < 4611686018427387904) :
    Holds Try.prog F_slices_Equal_s_api_Event [.x (.sl false (a.map encEv)), .x (.sl false (b.map encEv))] (fun x => x = Bo (decide (a = b))) := by
  apply Holds_fin fn_slices_Equal_s_api_Event (by simp) 1
  unfold ac_slices_Equal_s_api_Event
  by_cases hl : a.length = b.length
  · simp [hl]
    refine wpc_loop' (L_slices_Equal_s_api_Event a b) (fun i => i ≤ a.length ∧ a.take i = b.take i) (fun i => a.length - i) 0 (by simp) (SLe.ofL (by simp [hl]) (by simp) (by simp) rfl) fun i hi => ?_
    obtain ⟨i1, i2⟩ := hi
    simp only [acl_slices_Equal_s_api_Event_0, L_slices_Equal_s_api_Event]
    by_cases hlt : i < a.length
    · have hlt' : i < b.length := by omega
      have h1 := ha a[i] (List.getElem_mem _)
      have h2 := hb b[i] (List.getElem_mem _)
      have ew : IntKind.i64.wrap ((i : Int) + 1) = i + 1 := wI (by omega) (by omega)
      simp [hlt, hlt', wfU h1.1, wfU h1.2.1, wfU h1.2.2, wfU h2.1, wfU h2.2.1, wfU h2.2.2]
      refine ⟨fun h e => ?_, fun g0 g1 g2 => ?_⟩
      · subst e; simp at h
      · have e : a[i] = b[i] := Ev.ext' (by omega) (by omega) (by omega)
        exact lpQ_next (i + 1) ⟨by omega, take_next i2 hlt hlt' e⟩ (SLe.ofL (by simp [ew]) (by simp) (by simp) rfl) (by omega)
    · have hge : b.length ≤ i := by omega
      have : a = b := take_eq_of i2 (by omega) hge
      subst this
      simp [hlt]
  · have hne : a ≠ b := fun h => hl (by rw [h])
    simp [hl, nei hl, hne]

def L_slices_Equal_s_api_Span (a b : List Span) (i : Nat) : St := ⟨ofL [(0, .c (.x (.sl false (a.map encSpan)))), (1, .c (.x (.sl false (b.map encSpan)))), (12, I .i64 a.length), (13, I .i64 i)], H0, 0, []⟩
theorem w_slices_Equal_s_api_Span (a b : List Span) (ha : ∀ s ∈ a, SpOk s) (hb : ∀ s ∈ b, SpOk s) (hla : a.length < 4611686018427387904) (hlb : b.length < 4611686018427387904) :
    Holds Try.prog F_slices_Equal_s_api_Span [.x (.sl false (a.map encSpan)), .x (.sl false (b.map encSpan))] (fun x => x = Bo (decide (a = b))) := by
  apply Holds_fin fn_slices_Equal_s_api_Span (by simp) 1
  unfold ac_slices_Equal_s_api_Span
  by_cases hl : a.length = b.length
  · simp [hl]
    refine wpc_loop' (L_slices_Equal_s_api_Span a b) (fun i => i ≤ a.length ∧ a.take i = b.take i) (fun i => a.length - i) 0 (by simp) (SLe.ofL (by simp [hl]) (by simp) (by simp) rfl) fun i hi => ?_
    obtain ⟨i1, i2⟩ := hi
    simp only [acl_slices_Equal_s_api_Span_0, L_slices_Equal_s_api_Span]
    by_cases hlt : i < a.length
    · have hlt' : i < b.length := by omega
      have h1 := ha a[i] (List.getElem_mem _)
      have h2 := hb b[i] (List.getElem_mem _)
      have ew : IntKind.i64.wrap ((i : Int) + 1) = i + 1 := wI (by omega) (by omega)
      simp [hlt, hlt', wfU h1.1, wfU h1.2, wfU h2.1, wfU h2.2]
      refine ⟨fun h e => ?_, fun g0 g1 => ?_⟩
      · subst e; simp at h
      · have e : a[i] = b[i] := Span.ext' (by omega) (by omega)
        exact lpQ_next (i + 1) ⟨by omega, take_next i2 hlt hlt' e⟩ (SLe.ofL (by simp [ew]) (by simp) (by simp) rfl) (by omega)
    · have hge : b.length ≤ i := by omega
      have : a = b := take_eq_of i2 (by omega) hge
      subst this
      simp [hlt]
  · have hne : a ≠ b := fun h => hl (by rw [h])
    simp [hl, nei hl, hne]


/-! ### levels -/
def LvOk (ls : List (List Span)) : Prop := ls.length < 4611686018427387904 ∧ ∀ l ∈ ls, l.length < 4611686018427387904 ∧ ∀ s ∈ l, SpOk s
def L_skylightref06_Same (a b : Hist) (i : Nat) : St := ⟨ofL [(2, Pt 0 0 0), (3, Pt 1 0 0), (5, I .i64 i)], hset (hset H0 0 (.blk 3 [cellsHist a] true true)) 1 (.blk 3 [cellsHist b] true true), 2, []⟩
theorem w_skylightref06_Same (a b : Hist) (ha : LvOk a.levels) (hb : LvOk b.levels) :
    Holds Try.prog F_skylightref06_Same [.agg (cellsHist a), .agg (cellsHist b)] (fun x => x = Bo (decide (a = b))) := by
  apply Holds_fin fn_skylightref06_Same (by simp) 1
  unfold ac_skylightref06_Same
  obtain ⟨ak, ag, al⟩ := a
  obtain ⟨bk, bg, bl⟩ := b
  simp only at ha hb
  by_cases h1 : ak = bk
  · subst h1
    by_cases h2 : ag = bg
    · subst h2
      by_cases hl : al.length = bl.length
      · simp [hl]
        refine wpc_loop' (L_skylightref06_Same ⟨ak, ag, al⟩ ⟨ak, ag, bl⟩) (fun i => i ≤ al.length ∧ al.take i = bl.take i) (fun i => al.length - i) 0 (by simp) (SLe.ofL (by simp) (by simp) (by simp) rfl) fun i hi => ?_
        obtain ⟨i1, i2⟩ := hi
        simp only [acl_skylightref06_Same_0, L_skylightref06_Same]
        by_cases hlt : i < al.length
        · have hlt' : i < bl.length := by omega
          have g1 := ha.2 al[i] (List.getElem_mem _)
          have g2 := hb.2 bl[i] (List.getElem_mem _)
          have := ha.1
          have ew : IntKind.i64.wrap ((i : Int) + 1) = i + 1 := wI (by omega) (by omega)
          simp [hlt, hlt']
          refine ⟨_, w_skylightref05_Same al[i] bl[i] g1.2 g2.2 g1.1 g2.1, ?_⟩
          simp
          refine ⟨fun h e => ?_, fun e => ?_⟩
          · subst e; simp at h
          · exact lpQ_next (i + 1) ⟨by omega, take_next i2 hlt hlt' e⟩ (SLe.ofL (by simp [ew]) (by simp) (by simp) rfl) (by omega)
        · have hge : bl.length ≤ i := by omega
          have : al = bl := take_eq_of i2 (by omega) hge
          subst this
          simp [hlt]
      · have hne : al ≠ bl := fun h => hl (by rw [h])
        simp [hl, nei hl, hne]
    · simp [h2, neb h2]
  · simp [h1, neb h1]
end Go.Abs
