import Derived.Test.YtinkdjjffjnpeaaTW23
namespace Go.Abs
open Go.Proofs
set_option linter.unusedSimpArgs false
set_option linter.unusedVariables false

theorem CI.ok {s : Cnt} (hs : CI s) : CntOk s := by
  have h1 := hs.room1
  have h2 := hs.len
  have h3 := hs.hi.len
  have h4 := hs.front
  have h5 := hs.mark
  have h6 := hs.tot
  refine ⟨⟨by omega, fun e he => ?_⟩, ⟨by omega, fun l hl => ⟨by have := (hs.hi.tidy l hl).2; omega, fun x hx => ?_⟩⟩⟩
  · obtain ⟨v1, v2, v3, v4⟩ := hs.evs e he
    have := wS_mem he
    exact ⟨by omega, v4, by omega⟩
  · have := hs.hi.sp l hl x hx
    exact ⟨by omega, by omega⟩
theorem zeroCnt_ok : CntOk zeroCnt := ⟨⟨by simp [zeroCnt, zeroBuf], by simp [zeroCnt, zeroBuf]⟩, ⟨by simp [zeroCnt, zeroHist], by simp [zeroCnt, zeroHist]⟩⟩
theorem CI.fine {s : Cnt} (hs : CI s) : CntFine s := by
  have h1 := hs.room1
  have h2 := hs.len
  have h4 := hs.front
  have h5 := hs.mark
  have h6 := hs.win
  have h7 := hs.room0
  exact ⟨by omega, by omega, by omega, by omega, hs.hi.fine (by omega)⟩
theorem w_law14_same (a b : Cnt) (ha : CntOk a) (hb : CntOk b) : Holds Try.prog F_skylightlaw14_same [.agg (cellsCnt a), .agg (cellsCnt b)] (fun x => x = Bo (decide (a = b))) := by
  apply Holds_fin fn_skylightlaw14_same (by simp) 2
  unfold ac_skylightlaw14_same
  simp [cellsCnt, cellsBuf, cellsHist]
  refine ACall_pl (w_skylightref14_Same a b ha hb) (by simp) ?_
  simp
theorem one_ok {s : Cnt} (hs : CI s) (e : Ev) (hk : e.key < 18446744073709551616) : CntOk (oneC s e).1 := by
  have h := hs.one e hk
  by_cases h0 : (oneC s e).2 = 0
  · exact (h.2 h0).ok
  · have : (oneC s e).1 = zeroCnt := by
      unfold oneC at h0 ⊢
      split <;> rename_i hw
      · simp only [hw, if_true] at h0
        unfold moveC at h0 ⊢
        split <;> rename_i hm
        · rfl
        · simp [hm] at h0
      · simp only [hw, if_false] at h0
        unfold addC at h0 ⊢
        split <;> rename_i hm
        · rfl
        · split <;> rename_i hr
          · rfl
          · rw [if_neg hm, if_neg hr] at h0; exact absurd rfl h0
    rw [this]; exact zeroCnt_ok
/-! ### awake -/
def aw0 : Cnt := ⟨10, ⟨2, 9, 0, 0, []⟩, ⟨2, 0, []⟩⟩
def aw1 : Cnt := ⟨10, ⟨2, 9, 5, 3, [⟨5, 0, 3⟩]⟩, ⟨2, 0, []⟩⟩
theorem aw0_CI : CI aw0 := CI.new 2 10 2 9 (by decide) (by decide) (by decide) (by decide) (by decide) (by decide)
theorem aw_new : newC 2 10 2 9 = (aw0, 0) := by simp [newC, newH, newB, aw0]
theorem aw_add : addC aw0 ⟨5, 0, 3⟩ = (aw1, 0) := by
  have hF : settleF [⟨5, 0, 3⟩] 9 3 = 3 := by unfold settleF; simp [belowN]
  have hS : settleP ⟨2, 9, 5, 0, [⟨5, 0, 3⟩]⟩ = (⟨2, 9, 5, 3, [⟨5, 0, 3⟩]⟩, []) := by
    simp [settleP, front1, hF, belowN]
  have hP : pushP ⟨2, 9, 0, 0, []⟩ ⟨5, 0, 3⟩ = (⟨2, 9, 5, 3, [⟨5, 0, 3⟩]⟩, [], 0) := by
    simp [pushP, belowN, hS]
  simp [addC, hP, aw0, aw1, totN, wtot, wsum, roomB, passP, passH, dropP]
theorem aw1_CI : CI aw1 := by
  have := (aw0_CI.push ⟨5, 0, 3⟩ (by decide) (by decide)).2.1
  rw [aw_add] at this
  exact this rfl
theorem aw_q1 : queryC aw1 5 10 = (3, 0) := by simp [queryC, aw1, estOf, bks, partS, partC, scanS, scanB]
theorem aw_q2 : queryC aw1 2 10 = (0, 6) := by simp [queryC, aw1]
theorem w_awake : Holds Try.prog F_skylightlaw14_awake [] (fun x => x = Bo true) := by
  apply Holds_fin fn_skylightlaw14_awake (by simp) 2
  unfold ac_skylightlaw14_awake
  simp
  refine ACall_pl (w_count_New 2 10 2 9) (by simp) ?_
  rw [aw_new]
  simp [cellsCnt, cellsBuf, cellsHist]
  have hadd := w_count_Add aw0 ⟨5, 0, 3⟩ aw0_CI.fine (by decide) (aw0_CI.push ⟨5, 0, 3⟩ (by decide) (by decide)).2.2
  rw [aw_add] at hadd
  refine ACall_pl hadd (by simp) ?_
  simp [cellsCnt, cellsBuf, cellsHist]
  have hf := aw1_CI.fine
  have hq := fun t sp h => w_count_Query aw1 t sp h (by simp [aw1]) (by simp [aw1]) (by simp [aw1])
  have hq1 := hq 5 10 (by decide)
  have hq2 := hq 2 10 (by decide)
  rw [aw_q1] at hq1
  rw [aw_q2] at hq2
  refine ACall_pl hq1 (by simp) ?_
  simp [cellsCnt, cellsBuf, cellsHist]
  refine ACall_pl hq2 (by simp) ?_
  simp [cellsCnt, cellsBuf, cellsHist]
  refine ACall_pl (w_count_Same aw1 aw1 aw1_CI.ok aw1_CI.ok) (by simp) ?_
  simp [cellsCnt, cellsBuf, cellsHist]
  refine ACall_pl (w_count_Same aw0 aw1 aw0_CI.ok aw1_CI.ok) (by simp) ?_
  have hne : decide (aw0 = aw1) = false := by decide
  rw [hne]
  simp
/-! ### the statement's function -/
def cplK (k : Int) : Int := 2 + (max k 0).tmod 30
def cpl0 (k : Int) (a b : Nat) : Cnt := ⟨1 + a % 1000, ⟨b % 100, 1 + ((b % 7 : Nat) : Int), 0, 0, []⟩, ⟨cplK k, 0, []⟩⟩
theorem cplK_b (k : Int) : 2 ≤ cplK k ∧ cplK k ≤ 31 := by
  unfold cplK
  have h0 : 0 ≤ max k 0 := Int.le_max_right _ _
  rw [Int.tmod_eq_emod_of_nonneg h0]
  omega
theorem cpl0_CI (k : Int) (a b : Nat) : CI (cpl0 k a b) := by
  have := cplK_b k
  exact CI.new _ _ _ _ this.1 (by omega) (by omega) (by omega) (by omega) (by omega)
theorem cpl0_new (k : Int) (a b : Nat) : newC (cplK k) (1 + a % 1000) (b % 100) (1 + ((b % 7 : Nat) : Int)) = (cpl0 k a b, 0) := by
  have := cplK_b k
  have e1 : newH (cplK k) = (⟨cplK k, 0, []⟩, 0) := by unfold newH; rw [if_neg (by omega)]
  have e2 : newB (b % 100) (1 + ((b % 7 : Nat) : Int)) = (⟨b % 100, 1 + ((b % 7 : Nat) : Int), 0, 0, []⟩, 0) := by unfold newB; rw [if_neg (by omega)]
  unfold newC
  rw [e1, e2, if_neg (by simp; omega)]
  rfl
def cplH (x : Cnt) : HP := hset (hset H0 1 (.blk 9 [cellsCnt x] true true)) 2 (.blk 9 [cellsCnt x] true true)
def cplL (l : List Ev) (p : Nat × Cnt × Nat) : St := ⟨ofL [(2, .c (.x (encEvs l))), (7, Bo true), (8, Pt 1 0 0), (9, Pt 2 0 0), (11, I .i64 p.1)], cplH p.2.1, p.2.2, []⟩
theorem l_CountPlays (l : List Ev) (x0 : Cnt) (h0 : CI x0) (hl : l.length ≤ 9223372036854775807) (he : ∀ e ∈ l, EvOk e) {s : St} (hs : SLe s (cplL l (0, x0, 3))) {Q : AOut → St → Prop}
    (hQ : ∀ tm x nx, CI x → 3 ≤ nx → tm 7 = Bo true → tm 8 = Pt 1 0 0 → tm 9 = Pt 2 0 0 → Q (.exit 0) ⟨tm, cplH x, nx, []⟩) : wpc Try.prog 129 (.loop acl_skylightlaw14_CountPlays_0) s Q := by
  refine wpc_loop' (cplL l) (fun p => p.1 ≤ l.length ∧ CI p.2.1 ∧ 3 ≤ p.2.2) (fun p => l.length - p.1) (0, x0, 3) ⟨Nat.zero_le _, h0, Nat.le_refl _⟩ hs fun p hp => ?_
  obtain ⟨i, x, nx⟩ := p
  simp only at hp
  obtain ⟨h1, h2, h3⟩ := hp
  simp only [acl_skylightlaw14_CountPlays_0, cplL]
  have n0 : nx ≠ 0 := by omega
  have n1 : nx ≠ 1 := by omega
  have n2 : nx ≠ 2 := by omega
  by_cases hlt : i < l.length
  · by_cases h30 : (i : Int) < 30
    · have ew : IntKind.i64.wrap ((i : Int) + 1) = i + 1 := wI (by omega) (by omega)
      have hev := he l[i] (List.getElem_mem _)
      generalize hee : l[i] = e at hev
      obtain ⟨v1, v2, v3⟩ := hev
      have hone := h2.one e v2
      have hok := one_ok h2 e v2
      have hmv := h2.move e.tick
      have hwS := w_oneS x e h2.fine v1 (fun hw hh => by
        have := h2.push e hw v2
        rw [push_eq x.wait e h2.sort (by have := h2.room0; omega)]
        refine this.2.2 ?_
        cases hb : roomB [totN 0 x.past.levels, wtot x.wait.events, e.weight] 4503599627370496 with
        | true => rfl
        | false =>
          have htt := h2.tot
          have hwt : wtot x.wait.events = wS x.wait.events := wtot_wS _ (by omega)
          exact absurd ((heavy_room _ _ _ (by omega)).1 hb) hh) (fun hw => by
        rw [move_eq x.wait e.tick h2.sort (by have := h2.room0; omega)]
        exact hmv.2.2)
      rw [← hone.1] at hwS
      generalize hr : oneC x e = r at hwS hone hok
      have hself : ∀ z : Int, (z != z) = false := fun z => by simp
      have m1 : nx + 1 ≠ 1 := by omega
      have m2 : nx + 1 ≠ 2 := by omega
      have m3 : nx + 1 + 1 ≠ 1 := by omega
      have m4 : nx + 1 + 1 ≠ 2 := by omega
      simp [hlt, h30, encEvs, cplH, hee, n1, n2, n1.symm, n2.symm]
      refine ACall_pl hwS (by simp [encEv]) ?_
      have hsame := w_law14_same r.1 r.1 hok hok
      rw [show decide (r.1 = r.1) = true by simp] at hsame
      by_cases hw : e.weight = 0
      · have hoc : oneC x e = moveC x e.tick := by simp [oneC, hw]
        rw [hr] at hoc
        have hM := w_count_Move x e.tick h2.fine v1 hmv.2.2
        rw [← hoc] at hM
        simp [cellsCnt, cellsBuf, cellsHist, n1, n2, n1.symm, n2.symm, hw]
        refine ACall_pl hM (by simp) ?_
        simp [cellsCnt, cellsBuf, cellsHist, n1, n2, n1.symm, n2.symm, hw]
        refine ACall_pl hsame (by simp) ?_
        by_cases h0 : r.2 = 0
        · simp [cellsCnt, cellsBuf, cellsHist, n0, n1, n2, n0.symm, n1.symm, n2.symm, h0, ew]
          exact lpQ_next (i + 1, r.1, nx + 3) ⟨by simp only; omega, hone.2 h0, by simp only; omega⟩ (SLe.ofL (by simp [encEvs]) (by intro k; simp [cplH, cellsCnt, cellsBuf, cellsHist]; grind [H0]) (by simp) rfl) (show l.length - (i + 1) < l.length - i by omega)
        · simp [cellsCnt, cellsBuf, cellsHist, n0, n1, n2, n0.symm, n1.symm, n2.symm, h0, ew]
          exact lpQ_next (i + 1, x, nx + 3) ⟨by simp only; omega, h2, by simp only; omega⟩ (SLe.ofL (by simp [encEvs]) (by intro k; simp [cplH, cellsCnt, cellsBuf, cellsHist]; grind [H0]) (by simp) rfl) (show l.length - (i + 1) < l.length - i by omega)
      · have hoc : oneC x e = addC x e := by simp [oneC, hw]
        rw [hr] at hoc
        have hA := w_count_Add x e h2.fine v1 (h2.push e hw v2).2.2
        rw [← hoc] at hA
        simp [cellsCnt, cellsBuf, cellsHist, n1, n2, n1.symm, n2.symm, hw]
        refine ACall_pl hA (by simp [encEv]) ?_
        simp [cellsCnt, cellsBuf, cellsHist, n1, n2, n1.symm, n2.symm, hw]
        refine ACall_pl hsame (by simp) ?_
        by_cases h0 : r.2 = 0
        · simp [cellsCnt, cellsBuf, cellsHist, n0, n1, n2, n0.symm, n1.symm, n2.symm, h0, ew]
          exact lpQ_next (i + 1, r.1, nx + 3) ⟨by simp only; omega, hone.2 h0, by simp only; omega⟩ (SLe.ofL (by simp [encEvs]) (by intro k; simp [cplH, cellsCnt, cellsBuf, cellsHist]; grind [H0]) (by simp) rfl) (show l.length - (i + 1) < l.length - i by omega)
        · simp [cellsCnt, cellsBuf, cellsHist, n0, n1, n2, n0.symm, n1.symm, n2.symm, h0, ew]
          exact lpQ_next (i + 1, x, nx + 3) ⟨by simp only; omega, h2, by simp only; omega⟩ (SLe.ofL (by simp [encEvs]) (by intro k; simp [cplH, cellsCnt, cellsBuf, cellsHist]; grind [H0]) (by simp) rfl) (show l.length - (i + 1) < l.length - i by omega)
    · simp [hlt, h30, Int.not_lt.1 h30]
      exact hQ _ x nx h2 h3 (by simp) (by simp) (by simp)
  · simp [hlt]
    exact hQ _ x nx h2 h3 (by simp) (by simp) (by simp)
theorem w_CountPlays (k : Int) (a b : Nat) (l : List Ev) (hk0 : -9223372036854775808 ≤ k) (hk1 : k < 9223372036854775808) (ha : a < 18446744073709551616) (hb : b < 18446744073709551616) (hl : l.length ≤ 9223372036854775807) (he : ∀ e ∈ l, EvOk e) :
    Holds Try.prog F_skylightlaw14_CountPlays [.x (i64 k), .agg [u64 a, u64 b], .x (encEvs l)] (fun x => x = Bo true) := by
  apply Holds_fin fn_skylightlaw14_CountPlays (by simp) 2
  unfold ac_skylightlaw14_CountPlays
  have hK := cplK_b k
  have em : (if k < 0 then (0 : Int) else k) = max k 0 := by split <;> omega
  have e1 : IntKind.i64.wrap (2 + (max k 0).tmod 30) = cplK k := by
    have : cplK k = 2 + (max k 0).tmod 30 := rfl
    rw [← this, wI (by omega) (by omega)]
  have et : ∀ (n m : Nat), ((n : Int)).tmod m = ((n % m : Nat) : Int) := fun n m => by rw [Int.tmod_eq_emod_of_nonneg (by omega)]; simp
  have et1 : ((a : Int)).tmod 1000 = ((a % 1000 : Nat) : Int) := et a 1000
  have et2 : ((b : Int)).tmod 100 = ((b % 100 : Nat) : Int) := et b 100
  have et3 : ((b : Int)).tmod 7 = ((b % 7 : Nat) : Int) := et b 7
  have e2 : IntKind.u64.wrap (1 + ((a % 1000 : Nat) : Int)) = ((1 + a % 1000 : Nat) : Int) := by rw [wU (by omega) (by omega)]; omega
  have e3 : IntKind.i64.wrap ((b % 7 : Nat) : Int) = ((b % 7 : Nat) : Int) := wI (by omega) (by omega)
  have e4 : IntKind.i64.wrap (1 + ((b % 7 : Nat) : Int)) = 1 + ((b % 7 : Nat) : Int) := wI (by omega) (by omega)
  simp
  refine ACall_pl w_awake (by simp) ?_
  simp
  simp only [em, et1, et2, et3, e1, e2, e3, e4]
  refine ACall_pl (w_ref14_New (cplK k) (1 + a % 1000) (b % 100) (1 + ((b % 7 : Nat) : Int))) (by simp) ?_
  simp
  simp only [em, et1, et2, et3, e1, e2, e3, e4]
  refine ACall_pl (w_count_New (cplK k) (1 + a % 1000) (b % 100) (1 + ((b % 7 : Nat) : Int))) (by simp) ?_
  rw [cpl0_new]
  simp
  generalize hQ : blkQ 0 _ = Q
  refine l_CountPlays l (cpl0 k a b) (cpl0_CI k a b) hl he (SLe.ofL (by simp) (by intro id; simp [cplH, cpl0, cellsCnt, cellsBuf, cellsHist]; grind [H0]) (by simp) rfl) fun tm x nx hx hnx t7 t8 t9 => ?_
  subst hQ
  simp [t7, t8, t9, cplH]
  refine ACall_pl (w_law14_same x x hx.ok hx.ok) (by simp) ?_
  rw [show decide (x = x) = true by simp]
  simp
end Go.Abs
