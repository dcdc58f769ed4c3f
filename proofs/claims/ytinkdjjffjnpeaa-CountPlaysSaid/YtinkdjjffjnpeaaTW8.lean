import Derived.Test.YtinkdjjffjnpeaaTW7
namespace Go.Abs
open Go.Proofs
set_option linter.unusedSimpArgs false
set_option linter.unusedVariables false

/-! ### the reference's level 5 -/
theorem w_ref05_Most (k : Int) (i : Nat) (h1 : -9223372036854775808 ≤ k) (h2 : k < 9223372036854775807) : Holds Try.prog F_skylightref05_Most [.x (i64 k), .x (i64 i)] (fun x => x = I .i64 (most k i)) := by
  apply Holds_fin fn_skylightref05_Most (by simp) 1
  unfold ac_skylightref05_Most
  have e : (if k < 0 then 0 else k) = max k 0 := by omega
  have e1 : IntKind.i64.wrap (max k 0 + 1) = max k 0 + 1 := wrapI (by omega) (by omega)
  have e2 : (max k 0).tdiv 2 = max k 0 / 2 := tdiv2 (by omega)
  have e3 : (max k 0).tmod 2 = max k 0 % 2 := Int.tmod_eq_emod_of_nonneg (by omega)
  have e4 : IntKind.i64.wrap (max k 0 / 2) = max k 0 / 2 := wrapI (by omega) (by omega)
  have e5 : IntKind.i64.wrap (max k 0 / 2 + max k 0 % 2) = max k 0 / 2 + max k 0 % 2 := wrapI (by omega) (by omega)
  have e6 : IntKind.i64.wrap (max k 0 / 2 + max k 0 % 2 + 1) = max k 0 / 2 + max k 0 % 2 + 1 := wrapI (by omega) (by omega)
  simp [e, e1, e2, e3, e4, e5, e6, most]
  split <;> omega

theorem w_ref06_at (h : Hist) (i : Nat) (hb : h.levels.length < 4611686018427387904) : Holds Try.prog F_skylightref06_at [.agg (cellsHist h), .x (i64 i)] (fun x => x = .c (.x (encLevel (h.levels.getD i [])))) := by
  apply Holds_fin fn_skylightref06_at (by simp) 2
  unfold ac_skylightref06_at
  simp
  refine ⟨fun hge => ?_, fun hlt => ?_⟩
  · simp [List.getElem?_eq_none hge]
  · simp [hlt]

def rpT (all : List Span) (P tot tick most : Nat) (p : Nat × Nat × Nat) : St :=
  ⟨ofL [(4, I .u64 tick), (13, Ow 2 0 all.length false), (14, I .u64 all.length), (15, I .u64 P), (16, I .u64 tot), (17, Ow p.2.1 0 p.1 false), (18, I .u64 p.1)],
    hset (hset H0 2 (.blk 2 (all.map encSpan) true true)) p.2.1 (.blk 2 ((pairUp ((vir all (tot - all.length) tick).take (2 * p.1))).map encSpan) true true), p.2.2, []⟩

theorem l_ref05_Push_0 (all : List Span) (P tot tick most : Nat) (hP : 2 * P ≤ tot) (hn : all.length ≤ tot) (hb : tot < 4611686018427387904) (hal : all.length ≤ 1073741824) {Q : AOut → St → Prop}
    (hQ : ∀ tm oid nx, 3 ≤ oid → oid < nx → tm 4 = I .u64 tick → tm 13 = Ow 2 0 all.length false → tm 14 = I .u64 all.length → tm 15 = I .u64 P → tm 16 = I .u64 tot → tm 17 = Ow oid 0 (nout all.length P) false → tm 18 = I .u64 (nout all.length P) →
      Q (.exit 0) ⟨tm, (rpT all P tot tick most (nout all.length P, oid, nx)).hp, nx, []⟩) :
    wpc Try.prog 111 (.loop acl_skylightref05_Push_0) (rpT all P tot tick most (0, 3, 4)) Q := by
  refine wpc_loop' (rpT all P tot tick most) (fun p => 3 ≤ p.2.1 ∧ p.2.1 < p.2.2 ∧ p.1 ≤ P ∧ 2 * p.1 ≤ all.length + 1) (fun p => all.length + 1 - 2 * p.1) (0, 3, 4) (by simp) (SLe.refl _) fun p hi => ?_
  obtain ⟨j, oid, nx⟩ := p
  obtain ⟨i1, i2, i3, i4⟩ := hi
  simp only at i1 i2 i3 i4
  simp only [acl_skylightref05_Push_0, rpT]
  have n2 : oid ≠ 2 := by omega
  have z2 : 2 < nx := by omega
  have w1 : IntKind.u64.wrap (2 * (j : Int)) = 2 * j := wU (by omega) (by omega)
  have w2 : IntKind.u64.wrap (2 * (j : Int) + 1) = 2 * j + 1 := wU (by omega) (by omega)
  have w3 : IntKind.u64.wrap ((j : Int) + 1) = j + 1 := wU (by omega) (by omega)
  have e1 : (pairUp ((vir all (tot - all.length) tick).take (2 * j))).length = j := by rw [pairUp_len]; simp; omega
  by_cases h1 : j < P
  · by_cases h2 : 2 * j < all.length
    · have h2' : 2 * (j : Int) < all.length := by omega
      have t2 : (2 * (j : Int)).toNat = 2 * j := by omega
      have t3 : (2 * (j : Int) + 1).toNat = 2 * j + 1 := by omega
      by_cases h3 : 2 * j + 1 < all.length
      · have h3' : 2 * (j : Int) + 1 < all.length := by omega
        have e2 : pairUp ((vir all (tot - all.length) tick).take (2 * (j + 1))) = pairUp ((vir all (tot - all.length) tick).take (2 * j)) ++ [⟨all[2 * j].fr, all[2 * j + 1].to⟩] :=
          pairUp_snoc _ j _ _ (by rw [vir_lt _ _ _ _ h2]; simp [h2]) (by rw [vir_lt _ _ _ _ h3]; simp [h3])
        simp [h1, h2, h2', h3, h3', Int.not_le.2 h2', Int.not_le.2 h3', w1, w2, w3, t2, t3, n2, n2.symm, ltne i2, ltne z2, e1, List.take_of_length_le]
        repeat (refine ⟨by omega, ?_⟩)
        refine lpQ_next (j + 1, nx + 1, nx + 2) (by simp only; omega) (SLe.ofL (by simp) ?_ (by simp) rfl) (by simp only; omega)
        intro id
        simp [rpT, e2]
        clear hQ
        grind
      · have h3' : ¬ 2 * (j : Int) + 1 < all.length := by omega
        have e2 : pairUp ((vir all (tot - all.length) tick).take (2 * (j + 1))) = pairUp ((vir all (tot - all.length) tick).take (2 * j)) ++ [⟨all[2 * j].fr, tick⟩] :=
          pairUp_snoc _ j _ ⟨tick, tick⟩ (by rw [vir_lt _ _ _ _ h2]; simp [h2]) (vir_ge _ _ _ _ (by omega) (by omega))
        simp [h1, h2, h2', h3, h3', Int.not_le.2 h2', Int.not_lt.1 h3', w1, w2, w3, t2, t3, n2, n2.symm, ltne i2, ltne z2, e1, List.take_of_length_le]
        repeat (refine ⟨by omega, ?_⟩)
        refine lpQ_next (j + 1, nx + 1, nx + 2) (by simp only; omega) (SLe.ofL (by simp) ?_ (by simp) rfl) (by simp only; omega)
        intro id
        simp [rpT, e2]
        clear hQ
        grind
    · have h2' : ¬ 2 * (j : Int) < all.length := by omega
      have ej : nout all.length P = j := by unfold nout; omega
      rw [ej] at hQ
      simp [h1, h2', w1, Int.not_lt.1 h2']
      exact hQ _ oid nx i1 i2 (by simp) (by simp) (by simp) (by simp) (by simp) (by simp) (by simp)
  · have ej : nout all.length P = j := by unfold nout; omega
    rw [ej] at hQ
    simp [h1]
    exact hQ _ oid nx i1 i2 (by simp) (by simp) (by simp) (by simp) (by simp) (by simp) (by simp)

def rpU (all out D : List Span) (P R tot tick oid : Nat) (p : Nat × Nat × Nat) : St :=
  ⟨ofL [(4, I .u64 tick), (13, Ow 2 0 all.length false), (14, I .u64 all.length), (15, I .u64 P), (16, I .u64 tot), (17, Ow oid 0 out.length false), (18, I .u64 R), (21, Ow p.2.1 0 p.1 false), (22, I .u64 (2 * P + p.1))],
    hset (hset (hset H0 2 (.blk 2 (all.map encSpan) true true)) oid (.blk 2 (out.map encSpan) true true)) p.2.1 (.blk 2 ((D.take p.1).map encSpan) true true), p.2.2, []⟩

theorem l_ref05_Push_1 (all out D : List Span) (P R tot tick oid nx : Nat) (hD : (vir all (tot - all.length) tick).drop (2 * P) = D) (hP : 2 * P ≤ tot) (hn : all.length ≤ tot) (hb : tot < 4611686018427387904) (hDb : D.length ≤ 1073741824) (h3 : 3 ≤ oid) (hnx : oid < nx) {Q : AOut → St → Prop}
    (hQ : ∀ tm sid nx, oid < sid → sid < nx → tm 15 = I .u64 P → tm 17 = Ow oid 0 out.length false → tm 18 = I .u64 R → tm 21 = Ow sid 0 D.length false →
      Q (.exit 2) ⟨tm, hset (hset (hset H0 2 (.blk 2 (all.map encSpan) true true)) oid (.blk 2 (out.map encSpan) true true)) sid (.blk 2 (D.map encSpan) true true), nx, []⟩) :
    wpc Try.prog 111 (.loop acl_skylightref05_Push_1) (rpU all out D P R tot tick oid (0, nx, nx + 1)) Q := by
  have hlen : D.length = tot - 2 * P := by rw [← hD]; simp; omega
  refine wpc_loop' (rpU all out D P R tot tick oid) (fun p => oid < p.2.1 ∧ p.2.1 < p.2.2 ∧ p.1 ≤ D.length) (fun p => D.length - p.1) (0, nx, nx + 1) (by simp; omega) (SLe.refl _) fun p hi => ?_
  obtain ⟨s, sid, nx'⟩ := p
  obtain ⟨i1, i2, i3⟩ := hi
  simp only at i1 i2 i3
  simp only [acl_skylightref05_Push_1, rpU]
  have n2 : sid ≠ 2 := by omega
  have o2 : oid ≠ 2 := by omega
  have z2 : 2 < nx' := by omega
  have no : sid ≠ oid := by omega
  have e1 : (D.take s).length = s := by simp; omega
  have w1 : IntKind.u64.wrap (2 * (P : Int) + s + 1) = 2 * P + s + 1 := wU (by omega) (by omega)
  by_cases h1 : s < D.length
  · have h1' : 2 * (P : Int) + s < tot := by omega
    by_cases h2 : 2 * P + s < all.length
    · have h2' : 2 * (P : Int) + s < all.length := by omega
      have t1 : (2 * (P : Int) + s).toNat = 2 * P + s := by omega
      have e2 : D.take (s + 1) = D.take s ++ [all[2 * P + s]] := take_snoc D s _ (by rw [← hD, List.getElem?_drop, vir_lt _ _ _ _ h2]; simp [h2])
      simp [h1', Int.not_le.2 h1', h2, h2', Int.not_le.2 h2', t1, n2, n2.symm, o2, o2.symm, ltne i2, ltne z2, e1, List.take_of_length_le, w1]
      repeat (refine ⟨by omega, ?_⟩)
      refine lpQ_next (s + 1, nx' + 1, nx' + 2) (by simp only; omega) (SLe.ofL (by simp; omega) ?_ (by simp) rfl) (by simp only; omega)
      intro id
      simp [rpU, e2]
      clear hQ
      grind
    · have h2' : ¬ 2 * (P : Int) + s < all.length := by omega
      have e2 : D.take (s + 1) = D.take s ++ [⟨tick, tick⟩] := take_snoc D s _ (by rw [← hD, List.getElem?_drop, vir_ge _ _ _ _ (by omega) (by omega)])
      simp [h1', Int.not_le.2 h1', h2, h2', Int.not_lt.1 h2', n2, n2.symm, o2, o2.symm, ltne i2, ltne z2, e1, List.take_of_length_le, w1]
      repeat (refine ⟨by omega, ?_⟩)
      refine lpQ_next (s + 1, nx' + 1, nx' + 2) (by simp only; omega) (SLe.ofL (by simp; omega) ?_ (by simp) rfl) (by simp only; omega)
      intro id
      simp [rpU, e2]
      clear hQ
      grind
  · have h1' : ¬ 2 * (P : Int) + s < tot := by omega
    have : s = D.length := by omega
    subst this
    simp [h1', Int.not_lt.1 h1']
    exact hQ _ sid nx' i1 i2 (by simp) (by simp) (by simp) (by simp)
theorem w_ref05_Push (l add : List Span) (most : Int) (many tick : Nat) (h1 : l.length + add.length ≤ 536870912) (h3 : most ≤ 536870912) (h4 : many ≤ 1152921504606846976) :
    Holds Try.prog F_skylightref05_Push [.x (encLevel l), .x (i64 most), .x (encLevel add), .x (u64 many), .x (u64 tick)] (fun x => x = .tup [.x (encLevel (pushStay (vir (l ++ add) many tick) most.toNat)),
      .x (encLevel ((pushGo (vir (l ++ add) many tick) most.toNat).take (nout (l ++ add).length (npairs ((l ++ add).length + many) most.toNat)))),
      .x (u64 (npairs ((l ++ add).length + many) most.toNat - nout (l ++ add).length (npairs ((l ++ add).length + many) most.toNat)))]) := by
  apply Holds_fin fn_skylightref05_Push (by simp) 3
  unfold ac_skylightref05_Push
  generalize hall : l ++ add = all
  have hn : all.length = l.length + add.length := by rw [← hall]; simp
  generalize hroom : (max most 1).toNat = room
  have hr1 : max most.toNat 1 = room := by omega
  generalize hP : npairs (all.length + many) most.toNat = P
  have hP' : P = (all.length + many - room + 1) / 2 := by rw [← hP, npairs, hr1]
  have e0 : (if most < 1 then 1 else most) = (room : Int) := by omega
  have e1 : IntKind.u64.wrap (room : Int) = room := wU (by omega) (by omega)
  have e2 : IntKind.u64.wrap (all.length : Int) = all.length := wU (by omega) (by omega)
  have e3 : IntKind.u64.wrap ((all.length : Int) + many) = all.length + many := wU (by omega) (by omega)
  have hal : (l.map encSpan ++ add.map encSpan) = all.map encSpan := by rw [← hall]; simp
  have hPt : 2 * P ≤ all.length + many := by rw [← hP]; exact npairs_le _ _
  have hDb : all.length + many - 2 * P ≤ 536870912 := by omega
  have hj : 2 * nout all.length P ≤ 2 * P ∧ 2 * nout all.length P ≤ all.length + 1 := by unfold nout; omega
  have hS : pushStay (vir all many tick) most.toNat = (vir all many tick).drop (2 * P) := by rw [pushStay, vir_len, hP]
  have hG : (pushGo (vir all many tick) most.toNat).take (nout all.length P) = pairUp ((vir all many tick).take (2 * nout all.length P)) := by
    rw [pushGo, vir_len, hP, ← pairUp_take _ _ (by simp; omega), List.take_take, Nat.min_eq_left hj.1]
  have hGl : (pairUp ((vir all many tick).take (2 * nout all.length P))).length = nout all.length P := by rw [pairUp_len]; simp; omega
  have et : all.length + many - all.length = many := by omega
  by_cases hr : room < all.length + many
  · have hr' : (room : Int) < all.length + many := by omega
    have e4 : IntKind.u64.wrap ((all.length : Int) + many - room) = all.length + many - room := wU (by omega) (by omega)
    have e5 : IntKind.u64.wrap ((all.length : Int) + many - room + 1) = all.length + many - room + 1 := wU (by omega) (by omega)
    have e6 : ((all.length : Int) + many - room + 1).tdiv 2 = P := by rw [tdiv2] <;> omega
    have e7 : IntKind.u64.wrap (P : Int) = P := wU (by omega) (by omega)
    simp [e0, e1, e2, e3, e4, e5, e6, e7, hr', Int.not_le.2 hr', ← hn, hal, List.take_of_length_le]
    repeat (refine ⟨by omega, ?_⟩)
    refine wpc_loop_le ((SLe.own 17 2 (by simp)).trans (SLe.ofL (kv := [(4, I .u64 tick), (13, Ow 2 0 all.length false), (14, I .u64 all.length), (15, I .u64 P), (16, I .u64 (all.length + many : Nat)), (17, Ow 3 0 0 false), (18, I .u64 0)])
      (hp := (rpT all P (all.length + many) tick 0 (0, 3, 4)).hp) (nx := 4) (df := []) (by simp) (by intro id; simp [rpT, pairUp]; grind) (by simp) rfl)) ?_
    refine l_ref05_Push_0 all P (all.length + many) tick 0 hPt (by omega) (by omega) (by omega) fun tm oid nx i1 i2 t4 t13 t14 t15 t16 t17 t18 => ?_
    have w4 : IntKind.u64.wrap (2 * (P : Int)) = 2 * P := wU (by omega) (by omega)
    simp [t4, t13, t14, t15, t16, t17, t18, w4]
    generalize hout : pairUp ((vir all many tick).take (2 * nout all.length P)) = out at *
    refine wpc_loop_le ((SLe.own 21 2 (by simp)).trans (SLe.ofL (kv := [(4, I .u64 tick), (13, Ow 2 0 all.length false), (14, I .u64 all.length), (15, I .u64 P), (16, I .u64 (all.length + many : Nat)), (17, Ow oid 0 out.length false), (18, I .u64 (nout all.length P)), (21, Ow nx 0 0 false), (22, I .u64 (2 * P + 0))])
      (hp := (rpU all out ((vir all many tick).drop (2 * P)) P (nout all.length P) (all.length + many) tick oid (0, nx, nx + 1)).hp) (nx := nx + 1) (df := []) (by simp [t4, t13, t14, t15, t16, t17, t18, hGl]) (by intro id; simp [rpT, rpU, et, hout]) (by simp) rfl)) ?_
    refine l_ref05_Push_1 all out ((vir all many tick).drop (2 * P)) P (nout all.length P) (all.length + many) tick oid nx (by rw [et]) hPt (by omega) (by omega) (by simp; omega) i1 i2 fun tm sid nx k1 k2 t15 t17 t18 t21 => ?_
    have w5 : IntKind.u64.wrap ((P : Int) - nout all.length P) = (P - nout all.length P : Nat) := by rw [wU] <;> omega
    rw [hS, hG]
    have hso : oid ≠ sid := by omega
    simp [t15, t17, t18, t21, w5, hso, List.take_of_length_le]
  · have hr' : ¬ (room : Int) < all.length + many := by omega
    have hP0 : P = 0 := by omega
    simp [e0, e1, e2, e3, hr', Int.not_lt.1 hr', ← hn, hal, List.take_of_length_le]
    repeat (refine ⟨by omega, ?_⟩)
    refine wpc_loop_le ((SLe.own 17 2 (by simp)).trans (SLe.ofL (kv := [(4, I .u64 tick), (13, Ow 2 0 all.length false), (14, I .u64 all.length), (15, I .u64 P), (16, I .u64 (all.length + many : Nat)), (17, Ow 3 0 0 false), (18, I .u64 0)])
      (hp := (rpT all P (all.length + many) tick 0 (0, 3, 4)).hp) (nx := 4) (df := []) (by simp [hP0]) (by intro id; simp [rpT, pairUp]; grind) (by simp) rfl)) ?_
    refine l_ref05_Push_0 all P (all.length + many) tick 0 hPt (by omega) (by omega) (by omega) fun tm oid nx i1 i2 t4 t13 t14 t15 t16 t17 t18 => ?_
    have w4 : IntKind.u64.wrap (2 * (P : Int)) = 2 * P := wU (by omega) (by omega)
    simp [t4, t13, t14, t15, t16, t17, t18, w4]
    generalize hout : pairUp ((vir all many tick).take (2 * nout all.length P)) = out at *
    refine wpc_loop_le ((SLe.own 21 2 (by simp)).trans (SLe.ofL (kv := [(4, I .u64 tick), (13, Ow 2 0 all.length false), (14, I .u64 all.length), (15, I .u64 P), (16, I .u64 (all.length + many : Nat)), (17, Ow oid 0 out.length false), (18, I .u64 (nout all.length P)), (21, Ow nx 0 0 false), (22, I .u64 (2 * P + 0))])
      (hp := (rpU all out ((vir all many tick).drop (2 * P)) P (nout all.length P) (all.length + many) tick oid (0, nx, nx + 1)).hp) (nx := nx + 1) (df := []) (by simp [t4, t13, t14, t15, t16, t17, t18, hGl]) (by intro id; simp [rpT, rpU, et, hout]) (by simp) rfl)) ?_
    refine l_ref05_Push_1 all out ((vir all many tick).drop (2 * P)) P (nout all.length P) (all.length + many) tick oid nx (by rw [et]) hPt (by omega) (by omega) (by simp; omega) i1 i2 fun tm sid nx k1 k2 t15 t17 t18 t21 => ?_
    have w5 : IntKind.u64.wrap ((P : Int) - nout all.length P) = (P - nout all.length P : Nat) := by rw [wU] <;> omega
    rw [hS, hG]
    have hso : oid ≠ sid := by omega
    simp [t15, t17, t18, t21, w5, hso, List.take_of_length_le]
end Go.Abs
