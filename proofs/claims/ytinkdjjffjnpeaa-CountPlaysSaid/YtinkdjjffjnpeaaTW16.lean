import Derived.Test.YtinkdjjffjnpeaaTW15
namespace Go.Abs
open Go.Proofs
set_option linter.unusedSimpArgs false
set_option linter.unusedVariables false

def setH (b : Buf) : HP := hset (hset H0 0 (.blk 5 [cellsBuf b] true true)) 1 (.blk 5 [[u64 0, i64 0, u64 0, u64 0, .sl true []]] true true)
theorem settle_loop (b : Buf) (hl : b.events.length < 4611686018427387904) (hr : 0 ≤ b.room) {tm : Nat → AV} {hp : HP} {nx : Nat} (hn : nx ≤ 3) (h1 : ∀ id, setH b id = hp id ∨ setH b id = .none) (t1 : tm 1 = Pt 0 0 0) (t2 : tm 2 = Pt 1 0 0) (t4 : tm 4 = I .i64 (belowN b.events b.front)) {Q : AOut → St → Prop}
    (hQ : ∀ tm f, f = settleF b.events b.room b.front → tm 1 = Pt 0 0 0 → tm 2 = Pt 1 0 0 → tm 4 = I .i64 (belowN b.events f) → Q (.exit 0) ⟨tm, setH { b with front := f }, 3, []⟩) :
    wpc Try.prog 57 (.loop acl_buffer_Buf_settle_0) ⟨tm, hp, nx, []⟩ Q := by
  refine wpc_loop' (fun f : Nat => ⟨ofL [(1, Pt 0 0 0), (2, Pt 1 0 0), (4, I .i64 (belowN b.events f))], setH { b with front := f }, 3, []⟩)
    (fun f => settleF b.events b.room f = settleF b.events b.room b.front) (fun f => b.events.length - belowN b.events f) b.front rfl (SLe.ofL (by simp [t1, t2, t4]) h1 hn rfl) fun f hf => ?_
  simp only [acl_buffer_Buf_settle_0]
  have hle := belowN_le b.events f
  have ew : IntKind.i64.wrap (b.events.length - belowN b.events f : Int) = b.events.length - belowN b.events f := wI (by omega) (by omega)
  by_cases hc : b.room < b.events.length - belowN b.events f
  · have hlt : belowN b.events f < b.events.length := by omega
    simp [setH, cellsBuf, encEvs, ew, hc, Int.not_le.2 hc, hlt]
    have hs : settleF b.events b.room f = settleF b.events b.room (b.events[belowN b.events f]'hlt).tick := by
      conv => lhs; unfold settleF
      rw [dif_pos ⟨hlt, hc⟩]
    refine ACall_pl (w_buffer_below { b with front := (b.events[belowN b.events f]'hlt).tick } (b.events[belowN b.events f]'hlt).tick hl) (by simp [cellsBuf, encEvs]) ?_
    simp
    have := belowN_lt b.events f hlt
    have := belowN_le b.events (b.events[belowN b.events f]'hlt).tick
    exact lpQ_next (b.events[belowN b.events f]'hlt).tick (hs.symm.trans hf) (SLe.ofL (by simp) (fun id => by simp [cellsBuf, encEvs]; grind) (by simp) rfl) (show b.events.length - belowN b.events (b.events[belowN b.events f]'hlt).tick < b.events.length - belowN b.events f by omega)
  · simp [setH, cellsBuf, encEvs, ew, hc, Int.not_lt.1 hc]
    have hs : settleF b.events b.room f = f := by
      unfold settleF
      rw [dif_neg (fun h => hc h.2)]
    exact hQ _ f (by rw [← hf, hs]) (by simp) (by simp) (by simp)
theorem w_buffer_settle (b : Buf) (hl : b.events.length * 24 ≤ 140737488355328) (hr : 0 ≤ b.room) (hm : b.mark < 18446744073709551616) : Holds Try.prog F_buffer_Buf_settle [.agg (cellsBuf b)] (fun x => x = .tup [.agg (cellsBuf (settleP b).1), .x (encEvs (settleP b).2)]) := by
  apply Holds_fin fn_buffer_Buf_settle (by simp) 1
  unfold ac_buffer_Buf_settle
  simp [cellsBuf, encEvs]
  refine ⟨fun h => c_latest (a := b.front) (b := b.mark - b.late) ?_ ?_, fun h => ?_⟩
  · rw [wU (by omega) (by omega)]
    simp
    omega
  · simp
    refine ACall_pl (w_buffer_below ⟨b.late, b.room, b.mark, (max b.front (b.mark - b.late)), b.events⟩ (max b.front (b.mark - b.late)) (by simp only; omega)) (by simp) ?_
    simp
    generalize hQ : blkQ 0 _ = Q
    refine settle_loop ⟨b.late, b.room, b.mark, (max b.front (b.mark - b.late)), b.events⟩ (by simp only; omega) hr (by omega) (by intro id; simp [setH, cellsBuf, encEvs]; grind) (by simp) (by simp) (by simp) ?_
    intro tm f hf t1 t2 t4
    subst hQ
    have hle := belowN_le b.events f
    have e1 : (settleP b).1 = ⟨b.late, b.room, b.mark, f, b.events.drop (belowN b.events f)⟩ := by simp [settleP, hf, front1, h, Nat.not_lt.2, Nat.not_lt.1]
    have e2 : (settleP b).2 = b.events.take (belowN b.events f) := by simp [settleP, hf, front1, h]
    simp only at t4
    generalize belowN b.events f = n at *
    simp [t1, t2, t4, setH, cellsBuf, encEvs, hle]
    simp only [e1, e2]
    refine ⟨_, by have := w_Clone_Ev (b.events.take n) true (by simp; omega); simpa using this, ?_⟩
    simp [t1, t2, t4, encEvs]
    rw [mapid]
    exact ⟨List.take_of_length_le (by simp), rfl⟩
  · have h := Nat.not_lt.2 h
    refine ACall_pl (w_buffer_below ⟨b.late, b.room, b.mark, b.front, b.events⟩ b.front (by simp only; omega)) (by simp) ?_
    simp
    generalize hQ : blkQ 0 _ = Q
    refine settle_loop ⟨b.late, b.room, b.mark, b.front, b.events⟩ (by simp only; omega) hr (by omega) (by intro id; simp [setH, cellsBuf, encEvs]; grind) (by simp) (by simp) (by simp) ?_
    intro tm f hf t1 t2 t4
    subst hQ
    have hle := belowN_le b.events f
    have e1 : (settleP b).1 = ⟨b.late, b.room, b.mark, f, b.events.drop (belowN b.events f)⟩ := by simp [settleP, hf, front1, h, Nat.not_lt.2, Nat.not_lt.1]
    have e2 : (settleP b).2 = b.events.take (belowN b.events f) := by simp [settleP, hf, front1, h]
    simp only at t4
    generalize belowN b.events f = n at *
    simp [t1, t2, t4, setH, cellsBuf, encEvs, hle]
    simp only [e1, e2]
    refine ⟨_, by have := w_Clone_Ev (b.events.take n) true (by simp; omega); simpa using this, ?_⟩
    simp [t1, t2, t4, encEvs]
    rw [mapid]
    exact ⟨List.take_of_length_le (by simp), rfl⟩

theorem w_buffer_Push (b : Buf) (e : Ev) (hl : b.events.length * 24 + 24 ≤ 140737488355328) (hr : 0 ≤ b.room) (hm : b.mark < 18446744073709551616) (ht : e.tick < 18446744073709551616) :
    Holds Try.prog F_buffer_Push [.agg (cellsBuf b), .agg (encEv e)] (fun x => x = .tup [.agg (cellsBuf (pushP b e).1), .x (encEvs (pushP b e).2.1), .x (i64 (pushP b e).2.2)]) := by
  apply Holds_fin fn_buffer_Push (by simp) 3
  unfold ac_buffer_Push
  simp [cellsBuf, encEvs]
  by_cases h1 : e.weight = 0
  · have e1 : pushP b e = (zeroBuf, [], 1) := by simp [pushP, h1]
    simp [encEv, h1, e1, zeroBuf]
  by_cases h2 : 9223372036854775807 < e.tick
  · have e1 : pushP b e = (zeroBuf, [], 6) := by simp [pushP, h1, h2]
    have h2' : (9223372036854775807 : Int) < e.tick := by omega
    simp [encEv, h1, e1, zeroBuf, h2', Int.not_le.2 h2']
  have h2' : ¬ (9223372036854775807 : Int) < e.tick := by omega
  by_cases h3 : e.tick < b.front
  · have e1 : pushP b e = (zeroBuf, [], 4) := by simp [pushP, h1, h2, h3]
    simp [encEv, h1, e1, zeroBuf, h2', Int.not_lt.1 h2', h3, Nat.not_le.2 h3]
  have hP : pushP b e = ((settleP ⟨b.late, b.room, max b.mark e.tick, b.front, b.events.take (belowN b.events e.tick) ++ [e] ++ b.events.drop (belowN b.events e.tick)⟩).1,
    (settleP ⟨b.late, b.room, max b.mark e.tick, b.front, b.events.take (belowN b.events e.tick) ++ [e] ++ b.events.drop (belowN b.events e.tick)⟩).2, 0) := by simp [pushP, h1, h2, h3]
  rw [hP]
  simp [encEv, h1, h2', Int.not_lt.1 h2', h3, Nat.not_lt.1 h3]
  refine ACall_pl (w_buffer_below b e.tick (by omega)) (by simp) ?_
  have hle := belowN_le b.events e.tick
  generalize belowN b.events e.tick = n at *
  simp
  refine c_latest (a := b.mark) (b := e.tick) (by simp) ?_
  simp [hle]
  have hc := (w_Concat_Ev [b.events.take n, [e], b.events.drop n] (by simp; omega) (by simp)).wk_args (args := [.x (.sl false
              [[.sl true (List.take n (List.map encEv b.events))],
                [.sl false [[u64 e.tick, u64 e.key, u64 e.weight]]],
                [.sl false (List.take (b.events.length - n) (List.drop n (List.map encEv b.events)))]])]) 2 (by
    simp [encEvs, encEv, wkC, wkL, List.map_take, List.map_drop]
    rw [mapid]
    exact ⟨rfl, List.take_of_length_le (by simp)⟩)
  have hfl : [b.events.take n, [e], b.events.drop n].flatten = b.events.take n ++ [e] ++ b.events.drop n := by simp
  rw [hfl] at hc
  refine ⟨_, hc, ?_⟩
  have hil : (b.events.take n ++ [e] ++ b.events.drop n).length = b.events.length + 1 := by simp; omega
  generalize hI : (b.events.take n ++ [e] ++ b.events.drop n) = ins at hil ⊢
  simp at hI
  simp
  refine ACall_pl (w_buffer_settle ⟨b.late, b.room, max b.mark e.tick, b.front, ins⟩ (by simp only; omega) hr (by simp only; omega)) (by simp [encEvs]) ?_
  simp [cellsBuf, encEvs, hI]
theorem w_buffer_Move (b : Buf) (tick : Nat) (hl : b.events.length * 24 + 24 ≤ 140737488355328) (hr : 0 ≤ b.room) (hm : b.mark < 18446744073709551616) (ht : tick < 18446744073709551616) :
    Holds Try.prog F_buffer_Move [.agg (cellsBuf b), .x (u64 tick)] (fun x => x = .tup [.agg (cellsBuf (moveP b tick).1), .x (encEvs (moveP b tick).2.1), .x (i64 (moveP b tick).2.2)]) := by
  apply Holds_fin fn_buffer_Move (by simp) 3
  unfold ac_buffer_Move
  simp [cellsBuf, encEvs]
  by_cases h2 : 9223372036854775807 < tick
  · have e1 : moveP b tick = (zeroBuf, [], 6) := by simp [moveP, h2]
    have h2' : (9223372036854775807 : Int) < tick := by omega
    simp [e1, zeroBuf, h2', Int.not_le.2 h2']
  have h2' : ¬ (9223372036854775807 : Int) < tick := by omega
  have hP : moveP b tick = ((settleP ⟨b.late, b.room, max b.mark tick, b.front, b.events⟩).1, (settleP ⟨b.late, b.room, max b.mark tick, b.front, b.events⟩).2, 0) := by simp [moveP, h2]
  rw [hP]
  simp [h2', Int.not_lt.1 h2']
  refine c_latest (a := b.mark) (b := tick) (by simp) ?_
  simp
  refine ACall_pl (w_Clone_Ev b.events false (by omega)) (by simp) ?_
  simp [encEvs]
  refine ACall_pl (w_buffer_settle ⟨b.late, b.room, max b.mark tick, b.front, b.events⟩ (by simp only; omega) hr (by simp only; omega)) (by simp) ?_
  simp [cellsBuf, encEvs]

end Go.Abs
