import Derived.Test.YtinkdjjffjnpeaaTW2
namespace Go.Abs
open Go.Proofs
set_option linter.unusedSimpArgs false
set_option linter.unusedVariables false

/-! ### level.line -/
/-- the cells of a line -/
abbrev lineC (oid off len many tick : Nat) : List AL := [.ow oid off len false, u64 many, u64 tick]

theorem c_line_long {H : HP} {nx id oid off len many tick : Nat} {K : KT} (hH : H id = .blk 3 [lineC oid off len many tick] true false) (hb : len + many < 9223372036854775808)
    (hK : K (I .u64 (len + many)) H nx) : ACall Try.prog F_level_line_long [.x (.pt id 0 0)] H nx K := by
  apply ACall_body fn_level_line_long (by simp)
  unfold ac_level_line_long
  simp [hH, wU (n := (len : Int)) (by omega) (by omega), wU (n := (len : Int) + many) (by omega) (by omega)]
  exact hK

theorem c_line_next_own {H : HP} {nx id oid off len many tick : Nat} {rows : List (List AL)} {p : Bool} {K : KT} (hid : id < nx) (hoid : oid < nx) (hH : H id = .blk 3 [lineC oid off (len + 1) many tick] true false)
    (hO : H oid = .blk 2 rows true p) (s : Span) (hr : rows[off]? = some (encSpan s)) (hlen : len < 9223372036854775807)
    (hK : K (.c (.agg (encSpan s))) (hset (hset (hset (hset (hset H nx (.blk 2 [encSpan ⟨0, 0⟩] true true)) (nx + 1) (.blk 2 [encSpan ⟨0, 0⟩] true true)) (nx + 1) (.blk 2 [encSpan s] true true)) id (.blk 3 [lineC oid (off + 1) len many tick] true false)) nx (.blk 2 [encSpan s] true true)) (nx + 2)) : ACall Try.prog F_level_line_next [.x (.pt id 0 0)] H nx K := by
  apply ACall_body fn_level_line_next (by simp)
  unfold ac_level_line_next
  have e1 : id ≠ nx := by omega
  have e2 : id ≠ nx + 1 := by omega
  have e3 : oid ≠ nx := by omega
  have e4 : oid ≠ nx + 1 := by omega
  have e5 : oid ≠ id := by intro e; subst e; rw [hH] at hO; cases hO
  simp [hH, hO, hr, e1, e2, e3, e4, e5, e1.symm, e2.symm, blkZ]
  exact hK

theorem c_line_next_many {H : HP} {nx id oid off many tick : Nat} {K : KT} (hid : id < nx) (hH : H id = .blk 3 [lineC oid off 0 (many + 1) tick] true false) (hm : many < 9223372036854775807)
    (hK : K (.c (.agg (encSpan ⟨tick, tick⟩))) (hset (hset (hset H nx (.blk 2 [encSpan ⟨0, 0⟩] true true)) id (.blk 3 [lineC oid off 0 many tick] true false)) nx (.blk 2 [encSpan ⟨tick, tick⟩] true true)) (nx + 1)) : ACall Try.prog F_level_line_next [.x (.pt id 0 0)] H nx K := by
  apply ACall_body fn_level_line_next (by simp)
  unfold ac_level_line_next
  have e1 : id ≠ nx := by omega
  have e2 : IntKind.u64.wrap (many : Int) = many := wU (by omega) (by omega)
  simp [hH, e1, e1.symm, e2]
  exact hK
end Go.Abs
