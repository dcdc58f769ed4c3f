import Derived.Test.YtinkdjjffjnpeaaTW12
namespace Go.Abs
open Go.Proofs
set_option linter.unusedSimpArgs false
set_option linter.unusedVariables false

/-! ### the reference's level 7 -/
theorem w_ref07_Old (t f w : Nat) (h1 : t < 18446744073709551616) (h2 : f < 18446744073709551616) (h3 : w < 18446744073709551616) :
    Holds Try.prog F_skylightref07_Old [.x (u64 t), .x (u64 f), .x (u64 w)] (fun x => x = Bo (oldB t f w)) := by
  apply Holds_fin fn_skylightref07_Old (by simp) 1
  unfold ac_skylightref07_Old
  by_cases h : w ≤ f
  · have e : ((f : Int) - (w : Int)) % 18446744073709551616 = ((f - w : Nat) : Int) := by omega
    simp [h, wrapU, oldB, e]
  · have h' : ¬ (w : Int) ≤ f := by omega
    simp [h, h', oldB]

abbrev encLs (l : List (List Span)) : List (List AL) := l.map fun l => [encLevel l]
def rdH (h : Hist) (pre : List (List Span)) (lid : Nat) : HP :=
  hset (hset (hset (hset H0 0 (.blk 3 [cellsHist h] true true)) 1 (.blk 3 [[i64 0, i64 0, .sl true []]] true true))
    2 (.blk 3 [[i64 h.k, i64 h.gen, .ow lid 0 pre.length false]] true false)) lid (.blk 1 (encLs pre) true true)
def rdT (front window many i : Nat) (x : AV) (more : List (Nat × AV)) : Nat → AV :=
  ofL ([(1, .c (.x (u64 front))), (2, .c (.x (u64 window))), (3, Pt 0 0 0), (6, Pt 1 0 0), (7, Pt 2 0 0), (8, I .i64 many), (9, I .i64 i), (10, x)] ++ more)

theorem l_ref07_Drop_1 (h : Hist) (front window many i : Nat) (pre : List (List Span)) (lid sid nx : Nat) (l : List Span) (hi : h.levels[i]? = some l) (h3 : 3 ≤ lid) (hls : lid < sid) (hnx : sid < nx) (hl : l.length ≤ 1073741824) (hsp : ∀ s ∈ l, s.to < 18446744073709551616)
    (b2 : front < 18446744073709551616) (b3 : window < 18446744073709551616) {Q : AOut → St → Prop}
    (hQ : ∀ nx, lid < nx → Q (.exit 2) ⟨rdT front window many i (.c (.x (encLevel (l.filter fun s => !oldB s.to front window)))) [], rdH h pre lid, nx, []⟩) :
    wpc Try.prog 75 (.loop acl_skylightref07_Drop_1) ⟨rdT front window many i (Ow sid 0 0 false) [(11, I .i64 0)], hset (rdH h pre lid) sid (.blk 2 [] true true), nx, []⟩ Q := by
  refine wpc_loopW (fun p : Nat × List Span × Nat × Nat => ⟨rdT front window many i (Ow p.2.2.1 0 p.2.1.length false) [(11, I .i64 p.1)], hset (rdH h pre lid) p.2.2.1 (.blk 2 (p.2.1.map encSpan) true true), p.2.2.2, []⟩)
    (fun p => p.1 ≤ l.length ∧ lid < p.2.2.1 ∧ p.2.2.1 < p.2.2.2 ∧ p.2.1 = (l.take p.1).filter fun s => !oldB s.to front window) (fun p => l.length - p.1) (0, [], sid, nx) (by simp; omega) (SLe.refl _) fun p hp => ?_
  obtain ⟨j, got, sid, nx⟩ := p
  obtain ⟨i1, i2, i3, i4⟩ := hp
  simp only at i1 i2 i3 i4
  have hil : i < h.levels.length := (List.getElem?_eq_some_iff.1 hi).1
  have hie : h.levels[i] = l := (List.getElem?_eq_some_iff.1 hi).2
  have hgl : got.length ≤ j := by
    rw [i4]; have := List.length_filter_le (fun s : Span => !oldB s.to front window) (l.take j); simp at this; omega
  simp only [acl_skylightref07_Drop_1]
  have n0 : sid ≠ 0 := by omega
  have m0 : lid ≠ 0 := by omega
  have e0 : rdH h pre lid 0 = .blk 3 [cellsHist h] true true := by simp [rdH, m0.symm]
  have z0 : 0 < nx := by omega
  have ew : IntKind.i64.wrap ((j : Int) + 1) = j + 1 := wI (by omega) (by omega)
  by_cases hj : j < l.length
  · simp [rdT, e0, n0.symm, hil, hie, hj]
    refine ACall_pl (w_ref07_Old l[j].to front window (hsp _ (List.getElem_mem _)) b2 b3) (by simp) ?_
    have ht := take_snoc l j l[j] (List.getElem?_eq_getElem hj)
    cases ho : oldB l[j].to front window with
    | true =>
      simp [ew]
      refine lpW_next (j + 1, got, sid, nx) ⟨by simp only; omega, i2, i3, ?_⟩ (SLe.ofL (by simp) (fun id => .inl rfl) (by simp) rfl) (by simp only; omega)
      simp only; rw [ht, List.filter_append, ← i4]; simp [ho]
    | false =>
      simp [ew, e0, n0.symm, hil, hie, hj, ltne i3, List.take_of_length_le]
      repeat (refine ⟨by omega, ?_⟩)
      refine lpW_next (j + 1, got ++ [l[j]], nx + 1, nx + 2) ⟨by simp only; omega, by simp only; omega, by simp only; omega, ?_⟩ (SLe.ofL (by simp) ?_ (by simp) rfl) (by simp only; omega)
      · simp only; rw [ht, List.filter_append, ← i4]; simp [ho]
      · intro id; simp [rdH]; clear hQ; grind
  · have : j = l.length := by omega
    subst this
    simp [rdT, e0, n0.symm, hil, hie]
    rw [List.take_length] at i4
    refine ⟨_, (SLe.frz (off := 0) (len := got.length) (clip := false) (z := 2) (rows := got.map encSpan) 10 sid (by simp) (hset_same _ _ _) (by simp)).trans (SLe.ofL (hp := rdH h pre lid) (nx := nx) (df := []) (by simp [← i4]) ?_ (by simp) rfl), hQ nx (by omega)⟩
    intro id
    simp [rdH]
    clear hQ
    grind
def LvOk2 (ls : List (List Span)) : Prop := ls.length ≤ 1073741823 ∧ ∀ l ∈ ls, l.length ≤ 1073741824 ∧ ∀ s ∈ l, s.to < 18446744073709551616
theorem l_ref07_Drop_0 (h : Hist) (front window : Nat) (hs : LvOk2 h.levels) (b2 : front < 18446744073709551616) (b3 : window < 18446744073709551616) {Q : AOut → St → Prop}
    (hQ : ∀ tm lid nx, 3 ≤ lid → lid < nx → tm 6 = Pt 1 0 0 → tm 7 = Pt 2 0 0 → tm 8 = I .i64 (manyR (dropR front window h.levels)) → Q (.exit 0) ⟨tm, rdH h (dropR front window h.levels) lid, nx, []⟩) :
    wpc Try.prog 75 (.loop acl_skylightref07_Drop_0) ⟨rdT front window 0 0 .any [], rdH h [] 3, 4, []⟩ Q := by
  refine wpc_loop' (fun p : Nat × Nat × Nat => ⟨rdT front window (manyR (dropR front window (h.levels.take p.1))) p.1 .any [], rdH h (dropR front window (h.levels.take p.1)) p.2.1, p.2.2, []⟩)
    (fun p => p.1 ≤ h.levels.length ∧ 3 ≤ p.2.1 ∧ p.2.1 < p.2.2) (fun p => h.levels.length - p.1) (0, 3, 4) (by simp) (SLe.refl _) fun p hp => ?_
  obtain ⟨i, lid, nx⟩ := p
  obtain ⟨i1, i2, i3⟩ := hp
  simp only at i1 i2 i3
  simp only [acl_skylightref07_Drop_0]
  have hs1 := hs.1
  have m0 : lid ≠ 0 := by omega
  have m2 : lid ≠ 2 := by omega
  have hpl : (dropR front window (h.levels.take i)).length = i := by simp [dropR]; omega
  have e0 : ∀ pre, rdH h pre lid 0 = .blk 3 [cellsHist h] true true := fun pre => by simp [rdH, m0.symm]
  by_cases hi : i < h.levels.length
  · have hl := hs.2 h.levels[i] (List.getElem_mem _)
    have ew : IntKind.i64.wrap ((i : Int) + 1) = i + 1 := wI (by omega) (by omega)
    have ht := take_snoc h.levels i h.levels[i] (List.getElem?_eq_getElem hi)
    generalize hx : h.levels[i].filter (fun s => !oldB s.to front window) = x
    have hd : dropR front window (h.levels.take (i + 1)) = dropR front window (h.levels.take i) ++ [x] := by rw [ht]; simp only [dropR, List.map_append, List.map_cons, List.map_nil, hx]
    have hm : manyR (dropR front window (h.levels.take (i + 1))) = if x = [] then manyR (dropR front window (h.levels.take i)) else i + 1 := by rw [hd, manyR_snoc, hpl]
    generalize hpre : dropR front window (h.levels.take i) = pre at *
    simp [rdT, e0, hi]
    refine wpc_loop_le ((SLe.own 10 2 (by simp)).trans (SLe.ofL (hp := hset (rdH h pre lid) nx (.blk 2 [] true true)) (nx := nx + 1) (df := []) (kv := [(1, .c (.x (u64 front))), (2, .c (.x (u64 window))), (3, Pt 0 0 0), (6, Pt 1 0 0), (7, Pt 2 0 0), (8, I .i64 (manyR pre)), (9, I .i64 i), (10, Ow nx 0 0 false), (11, I .i64 0)]) (by simp) (fun id => .inl rfl) (by simp) rfl)) ?_
    refine l_ref07_Drop_1 h front window (manyR pre) i pre lid nx (nx + 1) h.levels[i] (List.getElem?_eq_getElem hi) i2 i3 (by omega) hl.1 hl.2 b2 b3 fun nx i3 => ?_
    rw [hx]
    have z2 : 2 < nx := by omega
    have e2 : rdH h pre lid 2 = .blk 3 [[i64 h.k, i64 h.gen, .ow lid 0 pre.length false]] true false := by simp [rdH, m2.symm]
    have el : rdH h pre lid lid = .blk 1 (encLs pre) true true := by simp [rdH]
    simp [rdT, e2, el, ltne z2, ltne i3, m2, m2.symm, hpl, List.take_of_length_le]
    repeat (refine ⟨by omega, ?_⟩)
    have fin : ∀ id, rdH h (pre ++ [x]) (nx + 1) id = (hset (hset (hset (hset (rdH h pre lid) nx (.blk 1 [[encLevel x]] true true)) lid .none) (nx + 1) (.blk 1 (encLs pre ++ [[encLevel x]]) true true)) 2 (.blk 3 [[i64 h.k, i64 h.gen, .ow (nx + 1) 0 (i + 1) false]] true false)) id ∨ rdH h (pre ++ [x]) (nx + 1) id = .none := by
      intro id
      simp [rdH, hpl]
      clear hQ
      grind
    by_cases hx0 : x = []
    · subst hx0
      simp
      refine lpQ_next (i + 1, nx + 1, nx + 2) (by simp only; omega) (SLe.ofL2 (by simp [ew, hm]) ?_ (by simp) rfl) (by simp only; omega)
      simp only [hd]; exact fin
    · have hp0 : 0 < x.length := List.length_pos_iff.2 hx0
      simp [hx0, hp0, ew]
      refine lpQ_next (i + 1, nx + 1, nx + 2) (by simp only; omega) (SLe.ofL2 (by simp [ew, hm, hx0]) ?_ (by simp) rfl) (by simp only; omega)
      simp only [hd]; exact fin
  · have : i = h.levels.length := by omega
    subst this
    simp [rdT, e0]
    exact hQ _ lid nx i2 i3 (by simp) (by simp) (by simp)

theorem w_ref07_Drop (h : Hist) (front window : Nat) (hs : LvOk2 h.levels) (b2 : front < 18446744073709551616) (b3 : window < 18446744073709551616) :
    Holds Try.prog F_skylightref07_Drop [.agg (cellsHist h), .x (u64 front), .x (u64 window)] (fun x => x = .c (.agg (cellsHist ⟨h.k, h.gen, (dropR front window h.levels).take (manyR (dropR front window h.levels))⟩))) := by
  apply Holds_fin fn_skylightref07_Drop (by simp) 3
  unfold ac_skylightref07_Drop
  simp
  refine wpc_loop_le ((SLe.ownC (z := 3) (pu := true) 2 1 [i64 h.k, i64 h.gen] [] (by simp)).trans (SLe.ofL2 (hp := rdH h [] 3) (nx := 4) (df := []) (kv := [(1, .c (.x (u64 front))), (2, .c (.x (u64 window))), (3, Pt 0 0 0), (6, Pt 1 0 0), (7, Pt 2 0 0), (8, I .i64 (0 : Nat)), (9, I .i64 (0 : Nat)), (10, .any)]) (by simp) (by intro id; simp [rdH]; grind) (by simp) rfl)) ?_
  refine l_ref07_Drop_0 h front window hs b2 b3 fun tm lid nx g1 g2 t6 t7 t8 => ?_
  have n1 : lid ≠ 1 := by omega
  have n2 : lid ≠ 2 := by omega
  have hml := manyR_le (dropR front window h.levels)
  simp [t6, t7, t8, rdH, n1, n2, n1.symm, n2.symm, hml]
end Go.Abs
