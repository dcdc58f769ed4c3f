import Derived.Test.YtinkdjjffjnpeaaTW18
namespace Go.Abs
open Go.Proofs
set_option linter.unusedSimpArgs false
set_option linter.unusedVariables false

theorem w_hist_New (k : Int) : Holds Try.prog F_hist_New [.x (i64 k)] (fun x => x = .tup [.agg (cellsHist (newH k).1), .x (i64 (newH k).2)]) := by
  apply Holds_fin fn_hist_New (by simp) 2
  unfold ac_hist_New
  simp [cellsHist, newH, zeroHist, encLevels]
  by_cases h1 : k < 2
  · simp [h1, Int.not_le.2 h1]
  · by_cases h2 : 1024 < k
    · simp [h1, h2, Int.not_lt.1 h1, Int.not_le.2 h2]
    · simp [h1, h2, Int.not_lt.1 h1, Int.not_lt.1 h2]
theorem w_buffer_New (late : Nat) (room : Int) : Holds Try.prog F_buffer_New [.x (u64 late), .x (i64 room)] (fun x => x = .tup [.agg (cellsBuf (newB late room).1), .x (i64 (newB late room).2)]) := by
  apply Holds_fin fn_buffer_New (by simp) 2
  unfold ac_buffer_New
  simp [cellsBuf, newB, zeroBuf, encEvs]
  by_cases h1 : (4611686018427387904 : Int) < late
  · have h1' : 4611686018427387904 < late := by omega
    simp [h1, h1', Int.not_le.2 h1]
  · have h1' : ¬ 4611686018427387904 < late := by omega
    by_cases h2 : room < 1
    · simp [h1, h1', Int.not_lt.1 h1, Nat.not_lt.1 h1', h2, Int.not_le.2 h2]
    · by_cases h3 : 1024 < room
      · simp [h1, h1', Int.not_lt.1 h1, Nat.not_lt.1 h1', h2, Int.not_lt.1 h2, h3, Int.not_le.2 h3]
      · simp [h1, h1', Int.not_lt.1 h1, Nat.not_lt.1 h1', h2, Int.not_lt.1 h2, h3, Int.not_lt.1 h3]
theorem w_count_New (k : Int) (window late : Nat) (room : Int) : Holds Try.prog F_count_New [.x (i64 k), .x (u64 window), .x (u64 late), .x (i64 room)] (fun x => x = .tup [.agg (cellsCnt (newC k window late room).1), .x (i64 (newC k window late room).2)]) := by
  apply Holds_fin fn_count_New (by simp) 2
  unfold ac_count_New
  simp
  refine ACall_pl (w_hist_New k) (by simp) ?_
  simp
  refine ACall_pl (w_buffer_New late room) (by simp) ?_
  generalize hH : newH k = h at *
  generalize hB : newB late room = b at *
  simp [newC, hH, hB, cellsCnt, cellsHist, cellsBuf]
  by_cases h1 : h.2 = 0
  · by_cases h2 : b.2 = 0
    · by_cases h3 : window = 0
      · simp [h1, h2, h3, zeroCnt, zeroBuf, zeroHist, encEvs, encLevels]
      · have h3' : ¬ (window : Int) < 1 := by omega
        by_cases h4 : (4611686018427387904 : Int) < window
        · have h4' : 4611686018427387904 < window := by omega
          simp [h1, h2, h3, h3', Int.not_lt.1 h3', h4, Int.not_le.2 h4, h4', zeroCnt, zeroBuf, zeroHist, encEvs, encLevels]
        · have h4' : ¬ 4611686018427387904 < window := by omega
          simp [h1, h2, h3, h3', Int.not_lt.1 h3', h4, Int.not_lt.1 h4, h4', Nat.not_lt.1 h4', encEvs, encLevels]
    · have hb : (b.2 != 0) = true := by simpa using h2
      simp [h1, h2, hb, zeroCnt, zeroBuf, zeroHist, encEvs, encLevels]
  · have hb : (h.2 != 0) = true := by simpa using h1
    simp [h1, hb, zeroCnt, zeroBuf, zeroHist, encEvs, encLevels]
theorem w_ref14_New (k : Int) (window late : Nat) (room : Int) : Holds Try.prog F_skylightref14_New [.x (i64 k), .x (u64 window), .x (u64 late), .x (i64 room)] (fun x => x = .c (.agg (cellsCnt ⟨window, ⟨late, room, 0, 0, []⟩, ⟨k, 0, []⟩⟩))) := by
  apply Holds_fin fn_skylightref14_New (by simp) 2
  unfold ac_skylightref14_New
  simp [cellsCnt, cellsHist, cellsBuf, encLevels, encEvs]
end Go.Abs
