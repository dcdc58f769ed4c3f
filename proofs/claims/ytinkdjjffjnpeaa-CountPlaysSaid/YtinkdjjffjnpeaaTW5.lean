import Derived.Test.YtinkdjjffjnpeaaTW4
namespace Go.Abs
open Go.Proofs
set_option linter.unusedSimpArgs false
set_option linter.unusedVariables false

/-- the first loop's states -/
def pushS (l add : List Span) (most : Int) (many tick : Nat) : Nat → St
  | 0 => ⟨ofL [(1, I .i64 most), (13, Pt 1 0 0), (28, .c (.agg [encLevel l, encLevel add])), (29, I .i64 0)],
      hset (hset H0 0 (.blk 3 [[.sl true [], u64 many, u64 tick]] true true)) 1 (.blk 1 [[.pt 0 0 0]] true false), 2, []⟩
  | 1 => ⟨ofL [(1, I .i64 most), (13, Pt 1 0 0), (28, .c (.agg [encLevel l, encLevel add])), (29, I .i64 1)],
      hset (hset (hset H0 0 (.blk 3 [lineC 2 0 l.length many tick] true false)) 1 (.blk 1 [[.pt 0 0 0]] true false)) 2 (.blk 2 (l.map encSpan) true true), 3, []⟩
  | _ => ⟨ofL [(1, I .i64 most), (13, Pt 1 0 0), (28, .c (.agg [encLevel l, encLevel add])), (29, I .i64 2)],
      hset (hset (hset H0 0 (.blk 3 [lineC 3 0 (l ++ add).length many tick] true false)) 1 (.blk 1 [[.pt 0 0 0]] true false)) 3 (.blk 2 ((l ++ add).map encSpan) true true), 4, []⟩

abbrev fnOver : AV := .c (.x (.fn (.func F_level_Push_1) [.pt 1 0 0, .pt 4 0 0]))
def pushH (all : List Span) (room many tick j oid : Nat) : HP :=
  hset (hset (hset (hset (hset H0 0 (.blk 3 [lineC 3 (min (2 * j) all.length) (all.length - 2 * j) (many - (2 * j - all.length)) tick] true false)) 1 (.blk 1 [[.pt 0 0 0]] true false)) 3 (.blk 2 (all.map encSpan) true true)) 4 (.blk 1 [[u64 room]] true true)) oid (.blk 2 ((pairUp ((vir all many tick).take (2 * j))).map encSpan) true true)
/-- the second loop's states -/
def pushT (all : List Span) (room many tick : Nat) (p : Nat × Nat × Nat) : St :=
  ⟨ofL [(13, Pt 1 0 0), (17, fnOver), (18, Ow p.2.1 0 p.1 false)], pushH all room many tick p.1 p.2.1, p.2.2, []⟩

/-- the third loop's states -/
def pushUH (all out D : List Span) (tick oid M o s sid : Nat) : HP :=
  hset (hset (hset (hset (hset H0 0 (.blk 3 [lineC 3 (min (o + s) all.length) (all.length - (o + s)) (M - (o + s - all.length)) tick] true false)) 1 (.blk 1 [[.pt 0 0 0]] true false)) 3 (.blk 2 (all.map encSpan) true true)) oid (.blk 2 (out.map encSpan) true true)) sid (.blk 2 ((D.take s).map encSpan) true true)
def pushU (all out D : List Span) (tick R oid M o : Nat) (p : Nat × Nat × Nat) : St :=
  ⟨ofL [(13, Pt 1 0 0), (18, Ow oid 0 out.length false), (20, I .u64 R), (21, Ow p.2.1 0 p.1 false)], pushUH all out D tick oid M o p.1 p.2.1, p.2.2, []⟩

theorem l_level_Push_2 (all out D : List Span) (tick R oid M o nx : Nat) (ho : o ≤ all.length) (hb : all.length + M < 4611686018427387904) (h5 : 5 ≤ oid) (hnx : oid < nx)
    (hlen : D.length = all.length - o + M) (hD1 : ∀ s, o + s < all.length → D[s]? = all[o + s]?) (hD2 : ∀ s, all.length ≤ o + s → s < D.length → D[s]? = some ⟨tick, tick⟩) (hDb : D.length < 1073741824) {Q : AOut → St → Prop}
    (hQ : ∀ tm sid nx, oid < sid → sid < nx → tm 18 = Ow oid 0 out.length false → tm 20 = I .u64 R → tm 21 = Ow sid 0 D.length false → Q (.exit 4) ⟨tm, pushUH all out D tick oid M o D.length sid, nx, []⟩) :
    wpc Try.prog 90 (.loop acl_level_Push_2) (pushU all out D tick R oid M o (0, nx, nx + 1)) Q := by
  refine wpc_loop' (pushU all out D tick R oid M o) (fun p => oid < p.2.1 ∧ p.2.1 < p.2.2 ∧ p.1 ≤ D.length) (fun p => D.length - p.1) (0, nx, nx + 1) (by simp; omega) (SLe.refl _) fun p hi => ?_
  obtain ⟨s, sid, nx'⟩ := p
  obtain ⟨k2, k3, k4⟩ := hi
  simp only at k2 k3 k4
  have n0 : oid ≠ 0 := by omega
  have n1 : oid ≠ 1 := by omega
  have n3 : oid ≠ 3 := by omega
  have m0 : sid ≠ 0 := by omega
  have m1 : sid ≠ 1 := by omega
  have m3 : sid ≠ 3 := by omega
  have hH0 : pushUH all out D tick oid M o s sid 0 = .blk 3 [lineC 3 (min (o + s) all.length) (all.length - (o + s)) (M - (o + s - all.length)) tick] true false := by simp [pushUH, n0.symm, m0.symm]
  have hH1 : pushUH all out D tick oid M o s sid 1 = .blk 1 [[.pt 0 0 0]] true false := by simp [pushUH, n1.symm, m1.symm]
  have hH3 : pushUH all out D tick oid M o s sid 3 = .blk 2 (all.map encSpan) true true := by simp [pushUH, n3.symm, m3.symm]
  have hHs : pushUH all out D tick oid M o s sid sid = .blk 2 ((D.take s).map encSpan) true true := by simp [pushUH]
  simp only [acl_level_Push_2, pushU]
  simp [hH1]
  refine c_line_long hH0 (by omega) ?_
  by_cases hs : s < D.length
  · have g1 : (0 : Int) < ((all.length - (o + s) : Nat) : Int) + ((M - (o + s - all.length) : Nat) : Int) := by omega
    simp [g1, hH1]
    by_cases hl : o + s < all.length
    · refine c_line_next_own (id := 0) (oid := 3) (off := o + s) (len := all.length - (o + s) - 1) (many := M) (tick := tick) (rows := all.map encSpan) (p := true) (by omega) (by omega) (by rw [hH0]; simp; omega) hH3 all[o + s] (by simp [hl]) (by omega) ?_
      have e1 : (D.take s).length = s := by simp; omega
      have e2 : D.take (s + 1) = D.take s ++ [all[o + s]] := take_snoc D s _ (by rw [hD1 s hl]; simp [hl])
      simp [ltne k3, m0, hHs, e1]
      refine ⟨by omega, by omega, by omega, lpQ_next (s + 1, nx' + 3, nx' + 4) (by simp only; omega) (SLe.ofL (by simp) ?_ (by simp) rfl) (by simp only; omega)⟩
      intro id
      simp [pushUH, e2]
      grind
    · have e0 : all.length - (o + s) = 0 := by omega
      refine c_line_next_many (id := 0) (oid := 3) (off := all.length) (many := M - (o + s - all.length) - 1) (tick := tick) (by omega) (by rw [hH0]; simp [e0]; omega) (by omega) ?_
      have e1 : (D.take s).length = s := by simp; omega
      have e2 : D.take (s + 1) = D.take s ++ [⟨tick, tick⟩] := take_snoc D s _ (hD2 s (by omega) hs)
      have e3 : M - (o + s - all.length) - 1 = M - (o + (s + 1) - all.length) := by omega
      have e4 : all.length - (o + (s + 1)) = 0 := by omega
      have e5 : min (o + (s + 1)) all.length = all.length := by omega
      simp [ltne k3, m0, hHs, e1]
      refine ⟨by omega, by omega, by omega, lpQ_next (s + 1, nx' + 2, nx' + 3) (by simp only; omega) (SLe.ofL (by simp) ?_ (by simp) rfl) (by simp only; omega)⟩
      intro id
      simp [pushUH, e2, e3, e4, e5]
      grind
  · have g1 : ¬ (0 : Int) < ((all.length - (o + s) : Nat) : Int) + ((M - (o + s - all.length) : Nat) : Int) := by omega
    have : s = D.length := by omega
    subst this
    simp [g1]
    exact hQ _ sid nx' k2 k3 (by simp) (by simp) (by simp)

theorem l_level_Push_1 (all : List Span) (room P many tick : Nat) (hr0 : 1 ≤ room) (hP' : P = (all.length + many - room + 1) / 2) (hb : all.length + many < 9223372036854775808) (hr : room < 9223372036854775808) (hal : all.length ≤ 1073741824) {Q : AOut → St → Prop}
    (hQ : ∀ tm j oid nx, j ≤ P → 2 * j ≤ all.length + 1 → (j < P → all.length ≤ 2 * j) → 5 ≤ oid → oid < nx → tm 13 = Pt 1 0 0 → tm 17 = fnOver → tm 18 = Ow oid 0 j false → Q (.exit 2) ⟨tm, pushH all room many tick j oid, nx, []⟩) :
    wpc Try.prog 90 (.loop acl_level_Push_1) (pushT all room many tick (0, 5, 6)) Q := by
  refine wpc_loop' (pushT all room many tick) (fun p => 5 ≤ p.2.1 ∧ p.2.1 < p.2.2 ∧ p.1 ≤ P ∧ 2 * p.1 ≤ all.length + 1) (fun p => all.length + 1 - 2 * p.1) (0, 5, 6) (by simp) (SLe.refl _) fun p hi => ?_
  obtain ⟨j, oid, nx⟩ := p
  obtain ⟨i1, i2, i3, i4⟩ := hi
  simp only at i1 i2 i3 i4
  have n0 : oid ≠ 0 := by omega
  have n1 : oid ≠ 1 := by omega
  have n3 : oid ≠ 3 := by omega
  have n4 : oid ≠ 4 := by omega
  have hH0 : pushH all room many tick j oid 0 = .blk 3 [lineC 3 (min (2 * j) all.length) (all.length - 2 * j) (many - (2 * j - all.length)) tick] true false := by simp [pushH, n0.symm]
  have hH1 : pushH all room many tick j oid 1 = .blk 1 [[.pt 0 0 0]] true false := by simp [pushH, n1.symm]
  have hH3 : pushH all room many tick j oid 3 = .blk 2 (all.map encSpan) true true := by simp [pushH, n3.symm]
  have hH4 : pushH all room many tick j oid 4 = .blk 1 [[u64 room]] true true := by simp [pushH, n4.symm]
  have hHo : pushH all room many tick j oid oid = .blk 2 ((pairUp ((vir all many tick).take (2 * j))).map encSpan) true true := by simp [pushH]
  simp only [acl_level_Push_1, pushT]
  simp
  refine c_over hH1 hH4 hH0 (by omega) (by omega) ?_
  have eT : all.length - 2 * j + (many - (2 * j - all.length)) - room = all.length + many - 2 * j - room := by omega
  simp [eT]
  by_cases ho : room < all.length + many - 2 * j
  · have e2 : 0 < all.length + many - 2 * j - room := by omega
    simp [e2, hH0, hH1]
    by_cases hl : 2 * j < all.length
    · have e3 : 0 < all.length - 2 * j := by omega
      have em : many - (2 * j - all.length) = many := by omega
      have eo : min (2 * j) all.length = 2 * j := by omega
      have el : all.length - 2 * j - 1 + 1 = all.length - 2 * j := by omega
      have e3' : all.length - 2 * j ≠ 0 := by omega
      simp [e3, e3']
      refine c_line_next_own (id := 0) (oid := 3) (off := 2 * j) (len := all.length - 2 * j - 1) (many := many) (tick := tick) (rows := all.map encSpan) (p := true) (by omega) (by omega) (by rw [hH0, em, eo, el]) hH3 all[2 * j] (by simp [hl]) (by omega) ?_
      have z0 : 0 < nx := by omega
      have z1 : 1 < nx := by omega
      have z3 : 3 < nx := by omega
      simp [ltne i2, ltne z0, ltne z1, n0, hH1, hHo]
      by_cases hl2 : 2 * j + 1 < all.length
      · refine ⟨_, _, _, fun K' h => c_line_next_own (id := 0) (oid := 3) (off := 2 * j + 1) (len := all.length - 2 * j - 2) (many := many) (tick := tick) (rows := all.map encSpan) (p := true) (by omega) (by omega) (by simp [ltne z0]; omega) (by simp [ltne z3, hH3]) all[2 * j + 1] (by simp [hl2]) (by omega) h, ?_⟩
        simp [ltne i2, ltne z0, ltne z1, n0, hH1, hHo]
        refine ⟨_, w_level_both all[2 * j] all[2 * j + 1], ?_⟩
        have e1 : (pairUp ((vir all many tick).take (2 * j))).length = j := by rw [pairUp_len]; simp; omega
        have e2 : pairUp ((vir all many tick).take (2 * (j + 1))) = pairUp ((vir all many tick).take (2 * j)) ++ [⟨all[2 * j].fr, all[2 * j + 1].to⟩] :=
          pairUp_snoc _ j _ _ (by rw [vir_lt _ _ _ _ hl]; simp [hl]) (by rw [vir_lt _ _ _ _ hl2]; simp [hl2])
        simp [ltne i2, ltne z0, ltne z1, n0, hH1, hHo, e1, List.take_of_length_le]
        refine ⟨by omega, by omega, lpQ_next (j + 1, nx + 5, nx + 6) (by simp only; omega) (SLe.ofL (by simp) ?_ (by simp) rfl) (by simp only; omega)⟩
        intro id
        have e3 : min (2 * (j + 1)) all.length = 2 * j + 2 := by omega
        have e4 : all.length - 2 * (j + 1) = all.length - 2 * j - 2 := by omega
        have e5 : many - (2 * (j + 1) - all.length) = many := by omega
        simp [pushH, e2, e3, e4, e5]
        clear hQ hP'
        grind
      · have el2 : all.length - 2 * j - 1 = 0 := by omega
        have el3 : 2 * j + 1 = all.length := by omega
        refine ⟨_, _, _, fun K' h => c_line_next_many (id := 0) (oid := 3) (off := all.length) (many := many - 1) (tick := tick) (by omega) (by simp [ltne z0, el2, el3]; omega) (by omega) h, ?_⟩
        simp [ltne i2, ltne z0, ltne z1, n0, hH1, hHo]
        refine ⟨_, w_level_both all[2 * j] ⟨tick, tick⟩, ?_⟩
        have e1 : (pairUp ((vir all many tick).take (2 * j))).length = j := by rw [pairUp_len]; simp; omega
        have e2 : pairUp ((vir all many tick).take (2 * (j + 1))) = pairUp ((vir all many tick).take (2 * j)) ++ [⟨all[2 * j].fr, tick⟩] :=
          pairUp_snoc _ j _ _ (by rw [vir_lt _ _ _ _ hl]; simp [hl]) (vir_ge _ _ _ _ (by omega) (by omega))
        simp [ltne i2, ltne z0, ltne z1, n0, hH1, hHo, e1, List.take_of_length_le]
        refine ⟨by omega, by omega, lpQ_next (j + 1, nx + 4, nx + 5) (by simp only; omega) (SLe.ofL (by simp) ?_ (by simp) rfl) (by simp only; omega)⟩
        intro id
        have e3 : min (2 * (j + 1)) all.length = all.length := by omega
        have e4 : all.length - 2 * (j + 1) = 0 := by omega
        have e5 : many - (2 * (j + 1) - all.length) = many - 1 := by omega
        simp [pushH, e2, e3, e4, e5]
        clear hQ hP'
        grind
    · have e3 : all.length - 2 * j = 0 := by omega
      simp [e3]
      exact hQ _ j oid nx i3 i4 (by omega) i1 i2 (by simp) (by simp) (by simp)
  · have e2 : ¬ 0 < all.length + many - 2 * j - room := by omega
    simp [e2]
    exact hQ _ j oid nx i3 i4 (by omega) i1 i2 (by simp) (by simp) (by simp)

set_option maxHeartbeats 1600000 in
theorem w_level_Push (l add : List Span) (most : Int) (many tick : Nat) (h1 : l.length + add.length ≤ 536870912) (h2 : -9223372036854775808 ≤ most) (h3 : most ≤ 536870912) (h4 : many ≤ 1152921504606846976) :
    Holds Try.prog F_level_Push [.x (encLevel l), .x (i64 most), .x (encLevel add), .x (u64 many), .x (u64 tick)] (fun x => x = .tup [.x (encLevel (pushStay (vir (l ++ add) many tick) most.toNat)),
      .x (encLevel ((pushGo (vir (l ++ add) many tick) most.toNat).take (nout (l ++ add).length (npairs ((l ++ add).length + many) most.toNat)))),
      .x (u64 (npairs ((l ++ add).length + many) most.toNat - nout (l ++ add).length (npairs ((l ++ add).length + many) most.toNat)))]) := by
  apply Holds_fin fn_level_Push (by simp) 3
  unfold ac_level_Push
  simp
  refine wpc_loop' (pushS l add most many tick) (fun i => i ≤ 2) (fun i => 2 - i) 0 (by simp) (SLe.ofL (by simp) (by intro id; simp; grind) (by simp) rfl) fun i hi => ?_
  simp only [acl_level_Push_0]
  match i, hi with
  | 0, _ =>
    simp [pushS]
    refine ⟨by omega, by omega, lpQ_next 1 (by omega) (SLe.ofL (by simp) (by intro id; simp; grind) (by simp) rfl) (by omega)⟩
  | 1, _ =>
    simp [pushS]
    refine ⟨by omega, by omega, lpQ_next 2 (by omega) (SLe.ofL (by simp) (by intro id; simp; grind) (by simp) rfl) (by omega)⟩
  | 2, _ =>
    simp [pushS]
    refine ACall_looks (w_level_bounded_int most 1) (by simp) (fun x h => by subst h; rfl) fun x h => ?_
    subst h
    simp
    generalize hall : l ++ add = all
    have hn : all.length = l.length + add.length := by rw [← hall]; simp
    rw [← hn]
    generalize hroom : (max most 1).toNat = room
    have hr1 : max most.toNat 1 = room := by omega
    have e1 : IntKind.u64.wrap (max most 1) = room := by rw [wrapU]; omega
    rw [e1]
    generalize hP : npairs (all.length + many) most.toNat = P
    have hP' : P = (all.length + many - room + 1) / 2 := by rw [← hP, npairs, hr1]
    refine wpc_loop_le ((SLe.own 18 2 (by simp)).trans (SLe.ofL (kv := [(13, Pt 1 0 0), (17, fnOver), (18, Ow 5 0 0 false)]) (hp := pushH all room many tick 0 5) (nx := 6) (df := []) (by simp) (by intro id; simp [pairUp, pushH, ← hall]; grind) (by simp) rfl)) ?_
    refine l_level_Push_1 all room P many tick (by omega) hP' (by omega) (by omega) (by omega) fun tm j oid nx i1 i2 i3 i4 i5 t1 t2 t3 => ?_
    have n0 : oid ≠ 0 := by omega
    have n1 : oid ≠ 1 := by omega
    have n3 : oid ≠ 3 := by omega
    have n4 : oid ≠ 4 := by omega
    have hH0 : pushH all room many tick j oid 0 = .blk 3 [lineC 3 (min (2 * j) all.length) (all.length - 2 * j) (many - (2 * j - all.length)) tick] true false := by simp [pushH, n0.symm]
    have hH1 : pushH all room many tick j oid 1 = .blk 1 [[.pt 0 0 0]] true false := by simp [pushH, n1.symm]
    have hH4 : pushH all room many tick j oid 4 = .blk 1 [[u64 room]] true true := by simp [pushH, n4.symm]
    simp [t1, t2, t3]
    refine c_over hH1 hH4 hH0 (by omega) (by omega) ?_
    generalize hO : all.length - 2 * j + (many - (2 * j - all.length)) - room = O
    generalize hm' : many - (2 * j - all.length) = mj at *
    generalize hM : mj - 2 * (P - j) = M
    generalize ho : min (2 * j) all.length = o at *
    have w1 : IntKind.u64.wrap ((O : Int) + 1) = O + 1 := wU (by omega) (by omega)
    have w2 : ((O : Int) + 1).tdiv 2 = (P - j : Nat) := by rw [tdiv2] <;> omega
    have w3 : IntKind.u64.wrap ((P - j : Nat) : Int) = (P - j : Nat) := wU (by omega) (by omega)
    have w4 : IntKind.u64.wrap (2 * ((P - j : Nat) : Int)) = 2 * (P - j : Nat) := wU (by omega) (by omega)
    have w5 : IntKind.u64.wrap ((mj : Int) - 2 * ((P - j : Nat) : Int)) = M := by rw [wU] <;> omega
    simp [t1, t2, t3, hH0, hH1, w1, w2, w3, w4, w5]
    have q1 : min o all.length = o := by omega
    have q2 : all.length - o = all.length - 2 * j := by omega
    have q3 : o - all.length = 0 := by omega
    have hout : (pairUp ((vir all many tick).take (2 * j))).length = j := by rw [pairUp_len]; simp; omega
    have hlen : ((vir all many tick).drop (2 * P)).length = all.length - o + M := by simp; omega
    generalize hD : (vir all many tick).drop (2 * P) = D at *
    generalize hout' : pairUp ((vir all many tick).take (2 * j)) = out at *
    refine wpc_loop_le ((SLe.own 21 2 (by simp)).trans (SLe.ofL (kv := [(13, Pt 1 0 0), (18, Ow oid 0 out.length false), (20, I .u64 (P - j : Nat)), (21, Ow nx 0 0 false)]) (hp := pushUH all out D tick oid M o 0 nx) (nx := nx + 1) (df := []) (by simp [t1, t2, t3, hout]) (by intro id; simp [pushUH, pushH, hout', hm', q1, q2, q3]; grind) (by simp) rfl)) ?_
    refine l_level_Push_2 all out D tick (P - j : Nat) oid M o nx (by omega) (by omega) (by omega) (by omega) hlen (fun s hs => ?_) (fun s hs hs' => ?_) (by omega) fun tm sid nx k1 k2 t18 t20 t21 => ?_
    · rw [← hD, List.getElem?_drop, show 2 * P + s = o + s by omega, vir_lt _ _ _ _ hs]
    · rw [← hD, List.getElem?_drop, vir_ge _ _ _ _ (by omega) (by omega)]
    · have hj : nout all.length P = j := by unfold nout; omega
      have hS : pushStay (vir all many tick) most.toNat = D := by rw [pushStay, vir_len, hP, hD]
      have hG : (pushGo (vir all many tick) most.toNat).take j = out := by
        rw [pushGo, vir_len, hP, ← pairUp_take _ _ (by simp; omega), List.take_take, Nat.min_eq_left (by omega), hout']
      have hso : sid ≠ oid := by omega
      rw [hS, hj, hG]
      simp [t18, t20, t21, pushUH, hso.symm, List.take_of_length_le]
end Go.Abs
