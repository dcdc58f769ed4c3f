import Derived.Test.YtinkdjjffjnpeaaTW16
namespace Go.Abs
open Go.Proofs
set_option linter.unusedSimpArgs false
set_option linter.unusedVariables false

theorem take_ready (es : List Ev) (f i : Nat) (h : i < es.length) : ready (es.take (i + 1)) f = ready (es.take i) f ++ if es[i].tick ≤ f then [es[i]] else [] := by
  rw [List.take_add_one, List.getElem?_eq_getElem h, ready, ready, List.filter_append]; simp [Option.toList, List.filter_cons]
theorem take_rest (es : List Ev) (f i : Nat) (h : i < es.length) : rest (es.take (i + 1)) f = rest (es.take i) f ++ if es[i].tick ≤ f then [] else [es[i]] := by
  rw [List.take_add_one, List.getElem?_eq_getElem h, rest, rest, List.filter_append]
  by_cases h : es[i].tick ≤ f <;> simp [Option.toList, List.filter_cons, h]
theorem ready_le (es : List Ev) (f : Nat) : (ready es f).length ≤ es.length := List.length_filter_le _ _
theorem rest_le (es : List Ev) (f : Nat) : (rest es f).length ≤ es.length := List.length_filter_le _ _
def spH (H : HP) (es : List Ev) (f i a b : Nat) : HP := hset (hset H a (.blk 3 ((ready (es.take i) f).map encEv) true true)) b (.blk 3 ((rest (es.take i) f).map encEv) true true)
def spL (H : HP) (es : List Ev) (f : Nat) (q : Nat × Nat × Nat × Nat) : St := ⟨ofL [(0, .c (.x (encEvs es))), (1, .c (.x (u64 f))), (6, Ow q.2.1 0 (ready (es.take q.1) f).length false), (7, Ow q.2.2.1 0 (rest (es.take q.1) f).length false), (8, I .i64 q.1)], spH H es f q.1 q.2.1 q.2.2.1, q.2.2.2, []⟩
theorem c_split (es : List Ev) (f : Nat) (hl : es.length * 24 ≤ 140737488355328) {H : HP} {nx : Nat} {K : KT} (hH : ∀ k, nx ≤ k → H k = .none)
    (hK : ∀ a b nx', nx ≤ a → nx ≤ b → a < nx' → b < nx' → a ≠ b → K (.tup [.x (.ow a 0 (ready es f).length false), .x (.ow b 0 (rest es f).length false)]) (hset (hset H a (.blk 3 ((ready es f).map encEv) true true)) b (.blk 3 ((rest es f).map encEv) true true)) nx') :
    ACall Try.prog F_skylightref12_split [.x (encEvs es), .x (u64 f)] H nx K := by
  apply ACall_body fn_skylightref12_split (by simp)
  unfold ac_skylightref12_split
  simp
  generalize hQ : blkQ 0 _ = Q
  refine wpc_loop_le (((SLe.own 6 3 (by simp)).trans (SLe.own 7 3 (by simp))).trans (SLe.ofL (kv := [(0, .c (.x (encEvs es))), (1, .c (.x (u64 f))), (6, Ow nx 0 0 false), (7, Ow (nx + 1) 0 0 false), (8, I .i64 0)]) (hp := spH H es f 0 nx (nx + 1)) (nx := nx + 2) (df := []) (by simp) (by intro id; simp [spH, ready, rest]) (by simp) rfl)) ?_
  refine wpc_loop' (spL H es f) (fun q => q.1 ≤ es.length ∧ q.2.1 < q.2.2.2 ∧ q.2.2.1 < q.2.2.2 ∧ q.2.1 ≠ q.2.2.1 ∧ nx ≤ q.2.1 ∧ nx ≤ q.2.2.1) (fun q => es.length - q.1) (0, nx, nx + 1, nx + 2) (by simp) (SLe.ofL (by simp [ready, rest]) (fun id => .inl rfl) (by simp) rfl) fun q hq => ?_
  obtain ⟨i, a, b, nx1⟩ := q
  simp only at hq
  obtain ⟨h1, h2, h3, h4, h5, h6⟩ := hq
  simp only [acl_skylightref12_split_0, spL]
  by_cases hlt : i < es.length
  · have ew : IntKind.i64.wrap ((i : Int) + 1) = i + 1 := wI (by omega) (by omega)
    have t1 := take_ready es f i hlt
    have t2 := take_rest es f i hlt
    have l1 := ready_le (es.take i) f
    have l2 := rest_le (es.take i) f
    simp at l1 l2
    by_cases hc : es[i].tick ≤ f
    · simp [hc] at t1 t2
      simp [hlt, encEvs, ew, spH, hc, ltne h2, ltne h3, h4, h4.symm]
      refine ⟨by omega, by omega, lpQ_next (i + 1, nx1 + 1, b, nx1 + 2) (by simp only; omega) (SLe.ofL (by simp [t1, t2, encEvs]) (fun k => ?_) (by simp) rfl) (by simp only; omega)⟩
      simp [spH, t1, t2, encEv]
      have := hH k
      grind
    · simp [hc] at t1 t2
      simp [hlt, encEvs, ew, spH, hc, Nat.not_le.1 hc, ltne h2, ltne h3, h4, h4.symm]
      refine ⟨by omega, by omega, lpQ_next (i + 1, a, nx1 + 1, nx1 + 2) (by simp only; omega) (SLe.ofL (by simp [t1, t2, encEvs]) (fun k => ?_) (by simp) rfl) (by simp only; omega)⟩
      simp [spH, t1, t2, encEv]
      have := hH k
      grind
  · have : i = es.length := by omega
    subst this
    subst hQ
    have := hK a b nx1 h5 h6 h2 h3 h4
    simp [spH]
    exact this

theorem rest_cons_lt (e : Ev) (es : List Ev) : (rest (e :: es) e.tick).length < es.length + 1 := rest_lt _ e (by simp)
def stH (b : Buf) (f : Nat) (out rs : List Ev) (ia ib : Nat) : HP := hset (hset (hset (hset H0 0 (.blk 5 [cellsBuf { b with front := f }] true true)) 1 (.blk 5 [[u64 0, i64 0, u64 0, u64 0, .sl true []]] true true)) ia (.blk 3 (out.map encEv) true true)) ib (.blk 3 (rs.map encEv) true true)
structure StQ where
  f : Nat
  out : List Ev
  rs : List Ev
  a : Nat
  b : Nat
  nx : Nat
def stL (b : Buf) (q : StQ) : St := ⟨ofL [(1, Pt 0 0 0), (2, Pt 1 0 0), (4, Ow q.a 0 q.out.length false), (5, Ow q.b 0 q.rs.length false)], stH b q.f q.out q.rs q.a q.b, q.nx, []⟩
theorem ready_rest_len (es : List Ev) (f : Nat) : (ready es f).length + (rest es f).length = es.length := by
  unfold ready rest
  induction es with
  | nil => rfl
  | cons e es ih => by_cases h : e.tick ≤ f <;> simp [List.filter_cons, h] at ih ⊢ <;> omega
theorem settleG_loop (b : Buf) (f0 : Nat) (out0 rs0 : List Ev) (a0 b0 nx0 : Nat) (hl : out0.length + rs0.length = b.events.length) (hl2 : b.events.length * 24 ≤ 140737488355328) (hr : 0 ≤ b.room) (g1 : 2 ≤ a0) (g2 : 2 ≤ b0) (g3 : a0 < nx0) (g4 : b0 < nx0) (g5 : a0 ≠ b0)
    {s : St} (hs : SLe s ⟨ofL [(1, Pt 0 0 0), (2, Pt 1 0 0), (4, Ow a0 0 out0.length false), (5, Ow b0 0 rs0.length false)], stH b f0 out0 rs0 a0 b0, nx0, []⟩) {Q : AOut → St → Prop}
    (hQ : ∀ tm f out rs ia ib nx, (f, out, rs) = settleG b.room f0 out0 rs0 → out.length ≤ b.events.length → rs.length ≤ b.events.length → 2 ≤ ia → 2 ≤ ib → ia ≠ ib → tm 1 = Pt 0 0 0 → tm 2 = Pt 1 0 0 → tm 4 = Ow ia 0 out.length false → tm 5 = Ow ib 0 rs.length false → Q (.exit 0) ⟨tm, stH b f out rs ia ib, nx, []⟩) :
    wpc Try.prog 62 (.loop acl_skylightref12_settle_0) s Q := by
  refine wpc_loop' (stL b)
    (fun q => settleG b.room q.f q.out q.rs = settleG b.room f0 out0 rs0 ∧ q.out.length + q.rs.length = b.events.length ∧ 2 ≤ q.a ∧ 2 ≤ q.b ∧ q.a < q.nx ∧ q.b < q.nx ∧ q.a ≠ q.b) (fun q => q.rs.length) ⟨f0, out0, rs0, a0, b0, nx0⟩ ⟨rfl, hl, g1, g2, g3, g4, g5⟩ hs fun q hq => ?_
  obtain ⟨f, out, rs, a, ib, nx⟩ := q
  simp only at hq
  obtain ⟨h1, h2, h3, h4, h5, h6, h7⟩ := hq
  simp only [acl_skylightref12_settle_0, stL]
  have na0 : a ≠ 0 := by omega
  have na1 : a ≠ 1 := by omega
  have nb0 : ib ≠ 0 := by omega
  have nb1 : ib ≠ 1 := by omega
  by_cases hc : b.room < rs.length
  · match rs, hc with
    | [], hc => simp at hc; omega
    | e :: es, hc =>
      simp at hc
      have hl3 := ready_rest_len (e :: es) e.tick
      have hl4 := rest_cons_lt e es
      simp only [List.length_cons] at h2 hl3
      simp [hc, Int.not_le.2 hc, stH, cellsBuf, na0, na1, nb0, nb1, na0.symm, na1.symm, nb0.symm, nb1.symm, h7, h7.symm]
      refine ACall_frz (ys := [.x (encEvs (e :: es)), .x (u64 e.tick)]) (by simp [encEvs, nb0, nb1, nb0.symm, nb1.symm, h7.symm]; rfl) ?_
      refine c_split _ _ (by simp; omega) (by intro k hk; simp; grind [H0]) fun a' b' nx' k1 k2 k3 k4 k5 => ?_
      have m1 : a' ≠ 0 := by omega
      have m2 : a' ≠ 1 := by omega
      have m3 : b' ≠ 0 := by omega
      have m4 : b' ≠ 1 := by omega
      have m5 : a' ≠ a := by omega
      have m6 : a' ≠ ib := by omega
      have m7 : b' ≠ a := by omega
      have m8 : b' ≠ ib := by omega
      simp [na0, na1, nb0, nb1, h7, h7.symm, m1, m2, m3, m4, m5, m6, m7, m8, m1.symm, m2.symm, m3.symm, m4.symm, m5.symm, m6.symm, m7.symm, m8.symm, k5, k5.symm, ltne k3, ltne k4]
      have hG : settleG b.room f out (e :: es) = settleG b.room e.tick (out ++ ready (e :: es) e.tick) (rest (e :: es) e.tick) := by
        conv => lhs; unfold settleG
        simp [hc]
      refine ⟨by omega, by omega, lpQ_next ⟨e.tick, out ++ ready (e :: es) e.tick, rest (e :: es) e.tick, nx', b', nx' + 1⟩ ⟨hG.symm.trans h1, by simp; omega, by simp only; omega, by simp only; omega, by simp only; omega, by simp only; omega, by simp only; omega⟩ (SLe.ofL (by simp) (fun k => ?_) (by simp) rfl) (by simp only [List.length_cons]; omega)⟩
      simp [stH, cellsBuf, encEvs]
      grind [H0]
  · have hs : settleG b.room f out rs = (f, out, rs) := by
      unfold settleG
      cases rs with
      | nil => rfl
      | cons e es => simp only; rw [if_neg hc]
    simp at hc
    simp [hc, Int.not_lt.2 hc, stH, cellsBuf, na0, na1, nb0, nb1, na0.symm, na1.symm, nb0.symm, nb1.symm]
    refine hQ _ f out rs a ib nx (by rw [← hs, h1]) (by omega) (by omega) h3 h4 h7 (by simp) (by simp) (by simp) (by simp)
theorem w_settleS (b : Buf) (hl : b.events.length * 24 ≤ 140737488355328) (hr : 0 ≤ b.room) (hm : b.mark < 18446744073709551616) : Holds Try.prog F_skylightref12_settle [.agg (cellsBuf b)] (fun x => x = .tup [.agg (cellsBuf (settleS b).1), .x (encEvs (settleS b).2)]) := by
  apply Holds_fin fn_skylightref12_settle (by simp) 1
  unfold ac_skylightref12_settle
  by_cases h : b.late ≤ b.mark
  · have ew : IntKind.u64.wrap (b.mark - b.late : Int) = ((b.mark - b.late : Nat) : Int) := by rw [wU (by omega) (by omega)]; omega
    by_cases h2 : b.front < b.mark - b.late
    · have hf : front1 b = b.mark - b.late := by unfold front1; split <;> omega
      have h2' : (b.front : Int) < ((b.mark - b.late : Nat) : Int) := by omega
      simp [cellsBuf, h, ew, h2, h2', Nat.not_le.2 h2, Int.not_le.2 h2']
      refine c_split b.events _ hl (by intro k hk; simp; grind [H0]) fun a' b' nx' k1 k2 k3 k4 k5 => ?_
      have m1 : a' ≠ 0 := by omega
      have m2 : a' ≠ 1 := by omega
      have m3 : b' ≠ 0 := by omega
      have m4 : b' ≠ 1 := by omega
      have l1 := ready_rest_len b.events (b.mark - b.late)
      simp [m1, m2, m3, m4, m1.symm, m2.symm, m3.symm, m4.symm, k5, k5.symm, ltne k3, ltne k4]
      generalize hQ : blkQ 0 _ = Q
      refine settleG_loop b (b.mark - b.late) _ _ a' b' nx' l1 hl hr k1 k2 k3 k4 k5 (SLe.ofL (by simp) (fun k => ?_) (by simp) rfl) ?_
      · simp [stH, cellsBuf]
        grind [H0]
      intro tm f out rs ia ib nx h1 h2 h3 h4 h5 h6 t1 t2 t4 t5
      subst hQ
      have e : settleS b = (⟨b.late, b.room, b.mark, f, rs⟩, out) := by simp only [settleS, hf]; rw [← h1]
      rw [e]
      have n1 : ia ≠ 0 := by omega
      have n2 : ia ≠ 1 := by omega
      have n3 : ib ≠ 0 := by omega
      have n4 : ib ≠ 1 := by omega
      simp [t1, t2, t4, t5, stH, cellsBuf, encEvs, n1, n2, n3, n4, n1.symm, n2.symm, n3.symm, n4.symm, h6, h6.symm]
    · have hf : front1 b = b.front := by unfold front1; split <;> omega
      have h2' : ¬ (b.front : Int) < ((b.mark - b.late : Nat) : Int) := by omega
      simp [cellsBuf, h, ew, h2, h2', Nat.not_lt.1 h2, Int.not_lt.1 h2']
      refine c_split b.events _ hl (by intro k hk; simp; grind [H0]) fun a' b' nx' k1 k2 k3 k4 k5 => ?_
      have m1 : a' ≠ 0 := by omega
      have m2 : a' ≠ 1 := by omega
      have m3 : b' ≠ 0 := by omega
      have m4 : b' ≠ 1 := by omega
      have l1 := ready_rest_len b.events (b.front)
      simp [m1, m2, m3, m4, m1.symm, m2.symm, m3.symm, m4.symm, k5, k5.symm, ltne k3, ltne k4]
      generalize hQ : blkQ 0 _ = Q
      refine settleG_loop b (b.front) _ _ a' b' nx' l1 hl hr k1 k2 k3 k4 k5 (SLe.ofL (by simp) (fun k => ?_) (by simp) rfl) ?_
      · simp [stH, cellsBuf]
        grind [H0]
      intro tm f out rs ia ib nx h1 h2 h3 h4 h5 h6 t1 t2 t4 t5
      subst hQ
      have e : settleS b = (⟨b.late, b.room, b.mark, f, rs⟩, out) := by simp only [settleS, hf]; rw [← h1]
      rw [e]
      have n1 : ia ≠ 0 := by omega
      have n2 : ia ≠ 1 := by omega
      have n3 : ib ≠ 0 := by omega
      have n4 : ib ≠ 1 := by omega
      simp [t1, t2, t4, t5, stH, cellsBuf, encEvs, n1, n2, n3, n4, n1.symm, n2.symm, n3.symm, n4.symm, h6, h6.symm]
  · have hf : front1 b = b.front := by unfold front1; split <;> omega
    simp [cellsBuf, h, Nat.not_le.1 h]
    refine c_split b.events _ hl (by intro k hk; simp; grind [H0]) fun a' b' nx' k1 k2 k3 k4 k5 => ?_
    have m1 : a' ≠ 0 := by omega
    have m2 : a' ≠ 1 := by omega
    have m3 : b' ≠ 0 := by omega
    have m4 : b' ≠ 1 := by omega
    have l1 := ready_rest_len b.events (b.front)
    simp [m1, m2, m3, m4, m1.symm, m2.symm, m3.symm, m4.symm, k5, k5.symm, ltne k3, ltne k4]
    generalize hQ : blkQ 0 _ = Q
    refine settleG_loop b (b.front) _ _ a' b' nx' l1 hl hr k1 k2 k3 k4 k5 (SLe.ofL (by simp) (fun k => ?_) (by simp) rfl) ?_
    · simp [stH, cellsBuf]
      grind [H0]
    intro tm f out rs ia ib nx h1 h2 h3 h4 h5 h6 t1 t2 t4 t5
    subst hQ
    have e : settleS b = (⟨b.late, b.room, b.mark, f, rs⟩, out) := by simp only [settleS, hf]; rw [← h1]
    rw [e]
    have n1 : ia ≠ 0 := by omega
    have n2 : ia ≠ 1 := by omega
    have n3 : ib ≠ 0 := by omega
    have n4 : ib ≠ 1 := by omega
    simp [t1, t2, t4, t5, stH, cellsBuf, encEvs, n1, n2, n3, n4, n1.symm, n2.symm, n3.symm, n4.symm, h6, h6.symm]
end Go.Abs
