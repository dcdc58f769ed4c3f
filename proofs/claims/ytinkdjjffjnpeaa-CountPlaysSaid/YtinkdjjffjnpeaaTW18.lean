import Derived.Test.YtinkdjjffjnpeaaTW17
namespace Go.Abs
open Go.Proofs
set_option linter.unusedSimpArgs false
set_option linter.unusedVariables false

theorem w_pushS (b : Buf) (e : Ev) (hl : b.events.length * 24 + 24 ≤ 140737488355328) (hr : 0 ≤ b.room) (hm : b.mark < 18446744073709551616) (ht : e.tick < 18446744073709551616) :
    Holds Try.prog F_skylightref12_Push [.agg (cellsBuf b), .agg (encEv e)] (fun x => x = .tup [.agg (cellsBuf (bpushS b e).1), .x (encEvs (bpushS b e).2.1), .x (i64 (bpushS b e).2.2)]) := by
  apply Holds_fin fn_skylightref12_Push (by simp) 3
  unfold ac_skylightref12_Push
  simp [cellsBuf, encEvs]
  by_cases h1 : e.weight = 0
  · have e1 : bpushS b e = (zeroBuf, [], 1) := by simp [bpushS, h1]
    simp [encEv, h1, e1, zeroBuf]
  by_cases h2 : 9223372036854775807 < e.tick
  · have e1 : bpushS b e = (zeroBuf, [], 6) := by simp [bpushS, h1, h2]
    have h2' : (9223372036854775807 : Int) < e.tick := by omega
    simp [encEv, h1, e1, zeroBuf, h2', Int.not_le.2 h2']
  have h2' : ¬ (9223372036854775807 : Int) < e.tick := by omega
  by_cases h3 : e.tick < b.front
  · have e1 : bpushS b e = (zeroBuf, [], 4) := by simp [bpushS, h1, h2, h3]
    simp [encEv, h1, e1, zeroBuf, h2', Int.not_lt.1 h2', h3, Nat.not_le.2 h3]
  have hP : bpushS b e = ((settleS ⟨b.late, b.room, max b.mark e.tick, b.front, ready b.events e.tick ++ [e] ++ rest b.events e.tick⟩).1,
    (settleS ⟨b.late, b.room, max b.mark e.tick, b.front, ready b.events e.tick ++ [e] ++ rest b.events e.tick⟩).2, 0) := by simp [bpushS, h1, h2, h3]
  rw [hP]
  have hl3 := ready_rest_len b.events e.tick
  simp [encEv, h1, h2', Int.not_lt.1 h2', h3, Nat.not_lt.1 h3, mxN]
  refine c_split b.events _ (by omega) (by intro k hk; simp; grind [H0]) fun a' b' nx' k1 k2 k3 k4 k5 => ?_
  have m1 : a' ≠ 0 := by omega
  have m2 : a' ≠ 1 := by omega
  have m5 : a' ≠ 2 := by omega
  have m3 : b' ≠ 0 := by omega
  have m4 : b' ≠ 1 := by omega
  have m6 : b' ≠ 2 := by omega
  have n1 : nx' ≠ 0 := by omega
  have n2 : nx' ≠ 1 := by omega
  have n3 : nx' ≠ 2 := by omega
  simp [m1, m2, m3, m4, m5, m6, m1.symm, m2.symm, m3.symm, m4.symm, m5.symm, m6.symm, k5, k5.symm, ltne k3, ltne k4, n1, n2, n3, n1.symm, n2.symm, n3.symm]
  refine ⟨by omega, by omega, by omega, by omega, by omega, by omega, ?_⟩
  have hta : List.take ((ready b.events e.tick).length + 1) (List.map encEv (ready b.events e.tick) ++ [[u64 e.tick, u64 e.key, u64 e.weight]]) = List.map encEv (ready b.events e.tick) ++ [[u64 e.tick, u64 e.key, u64 e.weight]] := List.take_of_length_le (by simp)
  rw [hta]
  have hI : (ready b.events e.tick ++ [e] ++ rest b.events e.tick).map encEv = List.map encEv (ready b.events e.tick) ++ [[u64 e.tick, u64 e.key, u64 e.weight]] ++ List.map encEv (rest b.events e.tick) := by simp [encEv]
  rw [← hI]
  have hil : (ready b.events e.tick ++ [e] ++ rest b.events e.tick).length = (ready b.events e.tick).length + 1 + (rest b.events e.tick).length := by simp; omega
  rw [← hil]
  have hJ : ready b.events e.tick ++ e :: rest b.events e.tick = ready b.events e.tick ++ [e] ++ rest b.events e.tick := by simp
  rw [hJ]
  generalize hIn : ready b.events e.tick ++ [e] ++ rest b.events e.tick = ins at hil ⊢
  refine ACall_is (w_settleS ⟨b.late, b.room, max b.mark e.tick, b.front, ins⟩ (by simp only; omega) hr (by simp only; omega)) (by simp [cellsBuf, encEvs]; rfl) ?_
  simp [cellsBuf, encEvs, n1, n2, n3, n1.symm, n2.symm, n3.symm, m1, m2, m3, m4, m5, m6, m1.symm, m2.symm, m3.symm, m4.symm, m5.symm, m6.symm]
theorem w_moveS (b : Buf) (tick : Nat) (hl : b.events.length * 24 + 24 ≤ 140737488355328) (hr : 0 ≤ b.room) (hm : b.mark < 18446744073709551616) (ht : tick < 18446744073709551616) :
    Holds Try.prog F_skylightref12_Move [.agg (cellsBuf b), .x (u64 tick)] (fun x => x = .tup [.agg (cellsBuf (bmoveS b tick).1), .x (encEvs (bmoveS b tick).2.1), .x (i64 (bmoveS b tick).2.2)]) := by
  apply Holds_fin fn_skylightref12_Move (by simp) 3
  unfold ac_skylightref12_Move
  simp [cellsBuf, encEvs]
  by_cases h2 : 9223372036854775807 < tick
  · have e1 : bmoveS b tick = (zeroBuf, [], 6) := by simp [bmoveS, h2]
    have h2' : (9223372036854775807 : Int) < tick := by omega
    simp [e1, zeroBuf, h2', Int.not_le.2 h2']
  have h2' : ¬ (9223372036854775807 : Int) < tick := by omega
  have hP : bmoveS b tick = ((settleS ⟨b.late, b.room, max b.mark tick, b.front, b.events⟩).1, (settleS ⟨b.late, b.room, max b.mark tick, b.front, b.events⟩).2, 0) := by simp [bmoveS, h2]
  rw [hP]
  simp [h2', Int.not_lt.1 h2', mxN]
  refine ACall_pl (w_settleS ⟨b.late, b.room, max b.mark tick, b.front, b.events⟩ (by simp only; omega) hr (by simp only; omega)) (by simp) ?_
  simp [cellsBuf, encEvs]
theorem w_weightS (b : Buf) (hb : b.events.length < 4611686018427387904) : Holds Try.prog F_skylightref12_Weight [.agg (cellsBuf b)] (fun x => x = I .u64 (wsum b.events b.events.length)) := by
  apply Holds_fin fn_skylightref12_Weight (by simp) 1
  unfold ac_skylightref12_Weight
  simp
  refine wpc_loop' (fun i : Nat => ⟨ofL [(1, Pt 0 0 0), (3, I .u64 (wsum b.events i)), (4, I .i64 i)], hset H0 0 (.blk 5 [cellsBuf b] true true), 1, []⟩) (fun i => i ≤ b.events.length) (fun i => b.events.length - i) 0 (by simp) (SLe.ofL (by simp [wsum]) (by simp [H0]) (by simp) rfl) fun i hi => ?_
  simp only [acl_skylightref12_Weight_0]
  by_cases hlt : i < b.events.length
  · have hg : b.events[i]?.getD ⟨0, 0, 0⟩ = b.events[i] := by simp [hlt]
    simp [hlt, cellsBuf, encEvs]
    refine lpQ_next (i + 1) (show i + 1 ≤ b.events.length by omega) (SLe.ofL ?_ (by simp) (by simp) rfl) (show b.events.length - (i + 1) < b.events.length - i by omega)
    simp [wrapU, wsum, hg, wrapI (n := (i : Int) + 1) (by omega) (by omega)]
  · have : i = b.events.length := by omega
    subst this
    simp [cellsBuf, encEvs]
end Go.Abs
