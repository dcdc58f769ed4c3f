import Derived.Test.YtinkdjjffjnpeaaTW11
namespace Go.Abs
open Go.Proofs
set_option linter.unusedSimpArgs false
set_option linter.unusedVariables false

/-! ### expiry.Drop -/
theorem c_expiry_old {H : HP} {nx fid wid : Nat} {s : Span} {front window : Nat} {K : KT} (hF : H fid = .blk 1 [[u64 front]] true true) (hW : H wid = .blk 1 [[u64 window]] true true) (hf : fid < nx) (hw : wid < nx)
    (b1 : s.to < 18446744073709551616) (b2 : front < 18446744073709551616) (b3 : window < 18446744073709551616)
    (hK : K (Bo (oldB s.to front window)) (hset H nx (.blk 2 [encSpan s] true true)) (nx + 1)) : ACall Try.prog F_expiry_Drop_1 [.agg (encSpan s), .x (.pt fid 0 0), .x (.pt wid 0 0)] H nx K := by
  apply ACall_body fn_expiry_Drop_1 (by simp)
  unfold ac_expiry_Drop_1
  simp [hF, hW, ltne hf, ltne hw]
  refine ACall_pl (w_expiry_Old s.to front window b1 b2 b3) (by simp) ?_
  simp
  exact hK

/-- a level that is cut, as it stands in memory -/
abbrev encT (l : List Span) : List AL := [.sl true (l.map encSpan)]
abbrev fnOld : AV := .c (.x (.fn (.func F_expiry_Drop_1) [.pt 1 0 0, .pt 2 0 0]))
def exH (h : Hist) (front window : Nat) (pre : List (List Span)) (lid : Nat) : HP :=
  hset (hset (hset (hset (hset (hset H0 0 (.blk 3 [cellsHist h] true true)) 1 (.blk 1 [[u64 front]] true true)) 2 (.blk 1 [[u64 window]] true true)) 3 (.blk 3 [[i64 0, i64 0, .sl true []]] true true))
    4 (.blk 3 [[i64 h.k, i64 h.gen, .ow lid 0 pre.length false]] true false)) lid (.blk 1 (pre.map encT) true true)
def exL (h : Hist) (front window : Nat) (p : Nat × List (List Span) × Nat × Nat) : St :=
  ⟨ofL [(6, Pt 3 0 0), (7, fnOld), (8, Pt 4 0 0), (20, .c (.x (encLevels h.levels))), (21, I .i64 h.levels.length), (22, I .i64 p.1)], exH h front window p.2.1 p.2.2.1, p.2.2.2, []⟩
/-- looking through a level -/
def exM (h : Hist) (front window : Nat) (pre : List (List Span)) (lid i : Nat) (l : List Span) (p : Nat × Nat) : St :=
  ⟨ofL [(6, Pt 3 0 0), (7, fnOld), (8, Pt 4 0 0), (10, .c (.x (encLevel l))), (20, .c (.x (encLevels h.levels))), (21, I .i64 h.levels.length), (22, I .i64 i), (26, .c (.x (encLevel l))), (27, I .i64 l.length), (28, I .i64 p.1)], exH h front window pre lid, p.2, []⟩

def LvOk' (ls : List (List Span)) : Prop := ls.length ≤ 1073741823 ∧ ∀ l ∈ ls, l.length < 4611686018427387904 ∧ ∀ s ∈ l, s.to < 18446744073709551616
theorem l_expiry_Drop_1 (h : Hist) (front window : Nat) (pre : List (List Span)) (lid i nx : Nat) (l : List Span) (h5 : 5 ≤ lid) (hnx : lid < nx) (hl : l.length < 4611686018427387904) (hp : pre.length < 1073741824) (hsp : ∀ s ∈ l, s.to < 18446744073709551616)
    (b2 : front < 18446744073709551616) (b3 : window < 18446744073709551616) {Q : AOut → St → Prop}
    (hout : l.dropWhile (fun s => oldB s.to front window) = [] → ∀ tm nx, tm 6 = Pt 3 0 0 → tm 8 = Pt 4 0 0 → lid < nx → Q (.exit 2) ⟨tm, exH h front window pre lid, nx, []⟩)
    (hgo : l.dropWhile (fun s => oldB s.to front window) ≠ [] → ∀ tm nx lid', lid' < nx → 5 ≤ lid' → tm 6 = Pt 3 0 0 → tm 7 = fnOld → tm 8 = Pt 4 0 0 → tm 20 = .c (.x (encLevels h.levels)) → tm 21 = I .i64 h.levels.length → tm 22 = I .i64 i →
      ∀ H, (∀ id, exH h front window (pre ++ [l.dropWhile (fun s => oldB s.to front window)]) lid' id = H id ∨ exH h front window (pre ++ [l.dropWhile (fun s => oldB s.to front window)]) lid' id = .none) → Q (.exit 1) ⟨tm, H, nx, []⟩) :
    wpc Try.prog 52 (.loop acl_expiry_Drop_1) (exM h front window pre lid i l (0, nx)) Q := by
  refine wpc_loop' (exM h front window pre lid i l) (fun p => p.1 ≤ l.length ∧ lid < p.2 ∧ l.dropWhile (fun s => oldB s.to front window) = (l.drop p.1).dropWhile (fun s => oldB s.to front window)) (fun p => l.length - p.1) (0, nx) (by simp [hnx]) (SLe.refl _) fun p hi => ?_
  obtain ⟨j, nx⟩ := p
  obtain ⟨i1, i2, i3⟩ := hi
  simp only at i1 i2 i3
  simp only [acl_expiry_Drop_1, exM]
  have n1 : lid ≠ 1 := by omega
  have n2 : lid ≠ 2 := by omega
  have n4 : lid ≠ 4 := by omega
  have z1 : 1 < nx := by omega
  have z2 : 2 < nx := by omega
  have z4 : 4 < nx := by omega
  have e1 : exH h front window pre lid 1 = .blk 1 [[u64 front]] true true := by simp [exH, n1.symm]
  have e2 : exH h front window pre lid 2 = .blk 1 [[u64 window]] true true := by simp [exH, n2.symm]
  have e4 : exH h front window pre lid 4 = .blk 3 [[i64 h.k, i64 h.gen, .ow lid 0 pre.length false]] true false := by simp [exH, n4.symm]
  have el : exH h front window pre lid lid = .blk 1 (pre.map encT) true true := by simp [exH]
  have ew : IntKind.i64.wrap ((j : Int) + 1) = j + 1 := wI (by omega) (by omega)
  by_cases hj : j < l.length
  · simp [hj]
    refine c_expiry_old (s := l[j]) (front := front) (window := window) (by simp [ltne z1, e1]) (by simp [ltne z2, e2]) (by omega) (by omega) (hsp _ (List.getElem_mem _)) b2 b3 ?_
    rw [List.drop_eq_getElem_cons hj, List.dropWhile_cons] at i3
    cases ho : oldB l[j].to front window with
    | true =>
      rw [ho] at i3
      simp [ew]
      refine lpQ_next (j + 1, nx + 2) ⟨by simp only; omega, by simp only; omega, by simpa using i3⟩ (SLe.ofL (by simp) (by intro id; simp [exH]; grind) (by simp) rfl) (by simp only; omega)
    | false =>
      rw [ho] at i3
      simp at i3
      simp [e4, ltne z4, ltne i2, el, n4, n4.symm, List.take_of_length_le]
      refine ⟨by omega, by omega, by omega, ?_⟩
      refine hgo (by rw [i3]; simp [hj]) _ _ (nx + 2) (by omega) (by omega) (by simp) (by simp) (by simp) (by simp) (by simp) (by simp) _ fun id => ?_
      have e5 : (l[j] :: l.drop (j + 1)) = l.drop j := (List.drop_eq_getElem_cons hj).symm
      rw [i3]
      try rw [e5]
      have e6 : (pre ++ [l.drop j]).map encT = pre.map encT ++ [[.sl true ((l.map encSpan).drop j)]] := by rw [List.map_append, ← List.map_drop]; rfl
      simp only [exH, e6]
      simp
      clear hgo hout
      grind
  · have : j = l.length := by omega
    subst this
    simp at i3
    simp
    exact hout (by simpa using i3) _ _ (by simp) (by simp) i2

theorem l_expiry_Drop_0 (h : Hist) (front window : Nat) (hs : LvOk' h.levels)
    (b2 : front < 18446744073709551616) (b3 : window < 18446744073709551616) {Q : AOut → St → Prop}
    (hQ : ∀ tm lid nx, 5 ≤ lid → lid < nx → tm 6 = Pt 3 0 0 → tm 8 = Pt 4 0 0 → Q (.exit 0) ⟨tm, exH h front window (dropP front window h.levels) lid, nx, []⟩) :
    wpc Try.prog 52 (.loop acl_expiry_Drop_0) (exL h front window (0, [], 5, 6)) Q := by
  refine wpc_loop' (exL h front window) (fun p => p.1 ≤ h.levels.length ∧ 5 ≤ p.2.2.1 ∧ p.2.2.1 < p.2.2.2 ∧ p.2.1.length ≤ p.1 ∧ dropP front window h.levels = p.2.1 ++ dropP front window (h.levels.drop p.1)) (fun p => h.levels.length - p.1) (0, [], 5, 6) (by simp) (SLe.refl _) fun p hi => ?_
  obtain ⟨i, pre, lid, nx⟩ := p
  obtain ⟨i1, i2, i3, i4, i5⟩ := hi
  simp only at i1 i2 i3 i4 i5
  simp only [acl_expiry_Drop_0, exL]
  have hs1 := hs.1
  by_cases hi : i < h.levels.length
  · have hl := hs.2 h.levels[i] (List.getElem_mem _)
    have ew : IntKind.i64.wrap ((i : Int) + 1) = i + 1 := wI (by omega) (by omega)
    rw [List.drop_eq_getElem_cons hi, dropP] at i5
    simp [hi]
    refine wpc_loop_le (SLe.ofL (kv := [(6, Pt 3 0 0), (7, fnOld), (8, Pt 4 0 0), (10, .c (.x (encLevel h.levels[i]))), (20, .c (.x (encLevels h.levels))), (21, I .i64 h.levels.length), (22, I .i64 i), (26, .c (.x (encLevel h.levels[i]))), (27, I .i64 h.levels[i].length), (28, I .i64 (0 : Nat))]) (nx := nx) (df := []) (by simp) (fun id => .inl rfl) (by simp) rfl) ?_
    refine l_expiry_Drop_1 h front window pre lid i nx h.levels[i] i2 i3 hl.1 (by omega) hl.2 b2 b3 (fun hd tm nx t6 t8 hn => ?_) (fun hd tm nx lid' g1 g2 t6 t7 t8 t20 t21 t22 H hH => ?_)
    · rw [hd] at i5
      simp at i5
      subst i5
      simp
      exact hQ _ lid nx i2 hn t6 t8
    · simp [t22, ew]
      refine lpQ_next (i + 1, pre ++ [h.levels[i].dropWhile fun s => oldB s.to front window], lid', nx) ⟨by simp only; omega, g2, g1, by simp; omega, ?_⟩ (SLe.ofL (by simp [t6, t7, t8, t20, t21]) hH (by simp) rfl) (by simp only; omega)
      rw [i5]
      split
      · rename_i e; exact absurd e hd
      · simp
  · have e : h.levels.drop i = [] := List.drop_eq_nil_of_le (by omega)
    rw [e] at i5
    simp [dropP] at i5
    subst i5
    have : i = h.levels.length := by omega
    subst this
    simp
    exact hQ _ lid nx i2 i3 (by simp) (by simp)

theorem w_expiry_Drop (h : Hist) (front window : Nat) (hs : LvOk' h.levels) (b2 : front < 18446744073709551616) (b3 : window < 18446744073709551616) :
    Holds Try.prog F_expiry_Drop [.agg (cellsHist h), .x (u64 front), .x (u64 window)] (fun x => x = .c (.agg (cellsHist ⟨h.k, h.gen, dropP front window h.levels⟩))) := by
  apply Holds_fin fn_expiry_Drop (by simp) 3
  unfold ac_expiry_Drop
  simp
  refine wpc_loop_le ((SLe.ownC (z := 3) (pu := true) 4 1 [i64 h.k, i64 h.gen] [] (by simp)).trans (SLe.ofL (kv := [(6, Pt 3 0 0), (7, fnOld), (8, Pt 4 0 0), (20, .c (.x (encLevels h.levels))), (21, I .i64 h.levels.length), (22, I .i64 (0 : Nat))]) (hp := exH h front window [] 5) (nx := 6) (df := []) (by simp) (by intro id; simp [exH]; grind) (by simp) rfl)) ?_
  refine l_expiry_Drop_0 h front window hs b2 b3 fun tm lid nx g1 g2 t6 t8 => ?_
  have n3 : lid ≠ 3 := by omega
  have n4 : lid ≠ 4 := by omega
  simp [t6, t8, exH, n3, n4, n3.symm, n4.symm]
  trace_state
end Go.Abs
