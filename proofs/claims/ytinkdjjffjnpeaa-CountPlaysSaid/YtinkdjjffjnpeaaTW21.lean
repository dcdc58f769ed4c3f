import Derived.Test.YtinkdjjffjnpeaaTM8
namespace Go.Abs
open Go.Proofs
set_option linter.unusedSimpArgs false
set_option linter.unusedVariables false

theorem w_heavy (a w : Nat) : Holds Try.prog F_skylightref14_heavy [.x (u64 a), .x (u64 w)] (fun x => x = Bo (heavyB a w)) := by
  apply Holds_fin fn_skylightref14_heavy (by simp) 1
  unfold ac_skylightref14_heavy
  simp
  by_cases h1 : (4503599627370496 : Int) < w
  · have h1' : 4503599627370496 < w := by omega
    simp [h1, heavyB, h1']
  · have h1' : ¬ 4503599627370496 < w := by omega
    have e : IntKind.u64.wrap ((a : Int) + w) = (((a + w) % 18446744073709551616 : Nat) : Int) := by rw [wrapU]; omega
    simp [h1, e, heavyB, h1', Int.not_lt.1 h1]
    omega
/-- what a sketch is, for its functions to be walked -/
structure CntFine (s : Cnt) : Prop where
  ev : s.wait.events.length * 24 + 24 ≤ 140737488355328
  room : 0 ≤ s.wait.room
  mark : s.wait.mark < 18446744073709551616
  window : s.window < 18446744073709551616
  past : Fine s.past
theorem w_count_Add (s : Cnt) (e : Ev) (hs : CntFine s) (ht : e.tick < 18446744073709551616) (hp : roomB [totN 0 s.past.levels, wtot s.wait.events, e.weight] 4503599627370496 = true → PushOk s (pushP s.wait e).1 (pushP s.wait e).2.1) :
    Holds Try.prog F_count_Add [.agg (cellsCnt s), .agg (encEv e)] (fun x => x = .tup [.agg (cellsCnt (addC s e).1), .x (i64 (addC s e).2)]) := by
  apply Holds_fin fn_count_Add (by simp) 3
  unfold ac_count_Add
  simp
  refine ACall_pl (w_buffer_Push s.wait e hs.ev hs.room hs.mark ht) (by simp) ?_
  generalize hP : pushP s.wait e = p at hp
  by_cases h1 : p.2.2 = 0
  · have hT := tot_all s.past.levels (by have := hs.past.tot; omega)
    have hW := wtot_eq s.wait.events
    simp [h1, cellsCnt, cellsHist, cellsBuf]
    refine ⟨_, w_hist_Total s.past (by have := hs.past.small.len; omega), ?_⟩
    simp [hT]
    refine ⟨_, w_buffer_Weight s.wait (by have := hs.ev; omega), ?_⟩
    simp [hW]
    refine ⟨_, w_count_room [totN 0 s.past.levels, wtot s.wait.events, e.weight] (by simp), ?_⟩
    by_cases h2 : roomB [totN 0 s.past.levels, wtot s.wait.events, e.weight] 4503599627370496 = false
    · have hA : addC s e = (zeroCnt, 5) := by simp [addC, hP, h1, h2]
      rw [hA]
      simp [h2, cellsCnt, zeroCnt, zeroBuf, zeroHist, cellsBuf, cellsHist, encEvs, encLevels]
    · have hA : addC s e = (passP s p.1 p.2.1, 0) := by simp [addC, hP, h1, h2]
      rw [hA]
      simp [h2]
      have hp := hp (by simpa using h2)
      refine ACall_pl (w_count_pass s p.1 p.2.1 hp.pass hp.len hp.front hs.window) (by simp) ?_
      simp [cellsCnt, cellsBuf, cellsHist]
  · have hb : (p.2.2 != 0) = true := by simpa using h1
    have hA : addC s e = (zeroCnt, p.2.2) := by simp [addC, hP, h1]
    rw [hA]
    simp [h1, hb, cellsCnt, zeroCnt, zeroBuf, zeroHist, cellsBuf, cellsHist, encEvs, encLevels]
theorem w_count_Move (s : Cnt) (tick : Nat) (hs : CntFine s) (ht : tick < 18446744073709551616) (hp : PushOk s (moveP s.wait tick).1 (moveP s.wait tick).2.1) :
    Holds Try.prog F_count_Move [.agg (cellsCnt s), .x (u64 tick)] (fun x => x = .tup [.agg (cellsCnt (moveC s tick).1), .x (i64 (moveC s tick).2)]) := by
  apply Holds_fin fn_count_Move (by simp) 3
  unfold ac_count_Move
  simp
  refine ACall_pl (w_buffer_Move s.wait tick hs.ev hs.room hs.mark ht) (by simp) ?_
  generalize hP : moveP s.wait tick = p at hp
  by_cases h1 : p.2.2 = 0
  · have hA : moveC s tick = (passP s p.1 p.2.1, 0) := by simp [moveC, hP, h1]
    rw [hA]
    simp [h1, cellsCnt, cellsHist, cellsBuf]
    refine ACall_pl (w_count_pass s p.1 p.2.1 hp.pass hp.len hp.front hs.window) (by simp) ?_
    simp [cellsCnt, cellsBuf, cellsHist]
  · have hb : (p.2.2 != 0) = true := by simpa using h1
    have hA : moveC s tick = (zeroCnt, p.2.2) := by simp [moveC, hP, h1]
    rw [hA]
    simp [h1, hb, cellsCnt, zeroCnt, zeroBuf, zeroHist, cellsBuf, cellsHist, encEvs, encLevels]
theorem w_addS (s : Cnt) (e : Ev) (hs : CntFine s) (ht : e.tick < 18446744073709551616) (hp : ¬ heavyB ((totN 0 s.past.levels + wtot s.wait.events) % 18446744073709551616) e.weight = true → PushOk s (bpushS s.wait e).1 (bpushS s.wait e).2.1) :
    Holds Try.prog F_skylightref14_Add [.agg (cellsCnt s), .agg (encEv e)] (fun x => x = .tup [.agg (cellsCnt (addS s e).1), .x (i64 (addS s e).2)]) := by
  apply Holds_fin fn_skylightref14_Add (by simp) 3
  unfold ac_skylightref14_Add
  simp
  refine ACall_pl (w_pushS s.wait e hs.ev hs.room hs.mark ht) (by simp) ?_
  generalize hP : bpushS s.wait e = p at hp
  by_cases h1 : p.2.2 = 0
  · have hT := tot_all s.past.levels (by have := hs.past.tot; omega)
    have hW := wtot_eq s.wait.events
    simp [h1, cellsCnt, cellsHist, cellsBuf]
    refine ⟨_, w_ref06_Total s.past (by have := hs.past.small.len; omega), ?_⟩
    simp [hT]
    refine ⟨_, w_weightS s.wait (by have := hs.ev; omega), ?_⟩
    have ew : IntKind.u64.wrap ((totN 0 s.past.levels : Int) + wtot s.wait.events) = (((totN 0 s.past.levels + wtot s.wait.events) % 18446744073709551616 : Nat) : Int) := by rw [wrapU]; omega
    simp [hW, ew]
    refine ⟨_, w_heavy _ e.weight, ?_⟩
    by_cases h2 : heavyB ((totN 0 s.past.levels + wtot s.wait.events) % 18446744073709551616) e.weight = true
    · have hA : addS s e = (zeroCnt, 5) := by simp [addS, hP, h1, h2]
      rw [hA]
      simp [h2, cellsCnt, zeroCnt, zeroBuf, zeroHist, cellsBuf, cellsHist, encEvs, encLevels]
    · have hA : addS s e = (passS ⟨s.window, p.1, s.past⟩ p.2.1, 0) := by simp [addS, hP, h1, h2]
      rw [hA]
      simp [h2]
      have hp := hp h2
      refine ACall_pl (w_passS ⟨s.window, p.1, s.past⟩ p.2.1 hp.pass hp.len hp.front hs.window) (by simp) ?_
      simp [cellsCnt, cellsBuf, cellsHist]
  · have hb : (p.2.2 != 0) = true := by simpa using h1
    have hA : addS s e = (zeroCnt, p.2.2) := by simp [addS, hP, h1]
    rw [hA]
    simp [h1, hb, cellsCnt, zeroCnt, zeroBuf, zeroHist, cellsBuf, cellsHist, encEvs, encLevels]
theorem w_moveCS (s : Cnt) (tick : Nat) (hs : CntFine s) (ht : tick < 18446744073709551616) (hp : PushOk s (bmoveS s.wait tick).1 (bmoveS s.wait tick).2.1) :
    Holds Try.prog F_skylightref14_Move [.agg (cellsCnt s), .x (u64 tick)] (fun x => x = .tup [.agg (cellsCnt (moveCS s tick).1), .x (i64 (moveCS s tick).2)]) := by
  apply Holds_fin fn_skylightref14_Move (by simp) 3
  unfold ac_skylightref14_Move
  simp
  refine ACall_pl (w_moveS s.wait tick hs.ev hs.room hs.mark ht) (by simp) ?_
  generalize hP : bmoveS s.wait tick = p at hp
  by_cases h1 : p.2.2 = 0
  · have hA : moveCS s tick = (passS ⟨s.window, p.1, s.past⟩ p.2.1, 0) := by simp [moveCS, hP, h1]
    rw [hA]
    simp [h1, cellsCnt, cellsHist, cellsBuf]
    refine ACall_pl (w_passS ⟨s.window, p.1, s.past⟩ p.2.1 hp.pass hp.len hp.front hs.window) (by simp) ?_
    simp [cellsCnt, cellsBuf, cellsHist]
  · have hb : (p.2.2 != 0) = true := by simpa using h1
    have hA : moveCS s tick = (zeroCnt, p.2.2) := by simp [moveCS, hP, h1]
    rw [hA]
    simp [h1, hb, cellsCnt, zeroCnt, zeroBuf, zeroHist, cellsBuf, cellsHist, encEvs, encLevels]
theorem w_oneS (s : Cnt) (e : Ev) (hs : CntFine s) (ht : e.tick < 18446744073709551616) (hp : e.weight ≠ 0 → ¬ heavyB ((totN 0 s.past.levels + wtot s.wait.events) % 18446744073709551616) e.weight = true → PushOk s (bpushS s.wait e).1 (bpushS s.wait e).2.1) (hm : e.weight = 0 → PushOk s (bmoveS s.wait e.tick).1 (bmoveS s.wait e.tick).2.1) :
    Holds Try.prog F_skylightref14_One [.agg (cellsCnt s), .agg (encEv e)] (fun x => x = .tup [.agg (cellsCnt (oneS s e).1), .x (i64 (oneS s e).2)]) := by
  apply Holds_fin fn_skylightref14_One (by simp) 3
  unfold ac_skylightref14_One
  simp
  by_cases h : e.weight = 0
  · simp [encEv, h, oneS]
    refine ACall_pl (w_moveCS s e.tick hs ht (hm h)) (by simp) ?_
    simp [cellsCnt, cellsBuf, cellsHist]
  · simp [encEv, h, oneS]
    refine ACall_pl (w_addS s e hs ht (hp h)) (by simp) ?_
    simp [cellsCnt, cellsBuf, cellsHist]
end Go.Abs
