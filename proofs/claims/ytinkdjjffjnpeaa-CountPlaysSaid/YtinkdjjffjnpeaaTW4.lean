import Derived.Test.YtinkdjjffjnpeaaTW3
namespace Go.Abs
open Go.Proofs
set_option linter.unusedSimpArgs false
set_option linter.unusedVariables false

theorem w_level_bounded_uint64 (n m : Nat) : Holds Try.prog F_level_bounded_uint64 [.x (u64 n), .x (u64 m)] (fun x => x = I .u64 (max n m : Nat)) := by
  apply Holds_fin fn_level_bounded_uint64 (by simp) 1
  unfold ac_level_bounded_uint64
  simp
  omega

/-- how many are over -/
theorem c_over {H : HP} {nx idc idr id oid off len many tick room : Nat} {K : KT} (hC : H idc = .blk 1 [[.pt id 0 0]] true false) (hR : H idr = .blk 1 [[u64 room]] true true) (hH : H id = .blk 3 [lineC oid off len many tick] true false) (hb : len + many < 9223372036854775808) (hr : room < 9223372036854775808)
    (hK : K (I .u64 (len + many - room : Nat)) H nx) : ACall Try.prog F_level_Push_1 [.x (.pt idc 0 0), .x (.pt idr 0 0)] H nx K := by
  apply ACall_body fn_level_Push_1 (by simp)
  unfold ac_level_Push_1
  simp [hC, hR]
  refine ⟨_, _, _, fun K' h => c_line_long hH hb h, ?_⟩
  simp [hC, hR]
  refine ⟨_, w_level_bounded_uint64 (len + many) room, ?_⟩
  have e : IntKind.u64.wrap ((max (len + many) room : Nat) - (room : Int)) = (len + many - room : Nat) := by
    rw [wU] <;> omega
  simp [hC, hR, e]
  exact hK
end Go.Abs
