import Derived.Test.YtinkdjjffjnpeaaTW1
namespace Go.Abs
open Go.Proofs
set_option linter.unusedSimpArgs false

/-! ### expiry.Old -/
theorem w_expiry_Old (t f w : Nat) (h1 : t < 18446744073709551616) (h2 : f < 18446744073709551616) (h3 : w < 18446744073709551616) :
    Holds Try.prog F_expiry_Old [.x (u64 t), .x (u64 f), .x (u64 w)] (fun x => x = Bo (oldB t f w)) := by
  apply Holds_fin fn_expiry_Old (by simp) 1
  unfold ac_expiry_Old
  simp 
  refine gdO_split (fun h => ?_) (fun h => ?_)
  · simp at h
    have e : ((f : Int) - (w : Int)) % 18446744073709551616 = ((f - w : Nat) : Int) := by omega
    simp [h, wrapU, oldB, e]
  · simp at h
    have : ¬ w ≤ f := by omega
    simp [this, wrapU, oldB]

/-! ### level.Most, level.bounded, level.both -/
theorem w_level_both (a b : Span) : Holds Try.prog F_level_both [.agg (encSpan a), .agg (encSpan b)] (fun x => x = .c (.agg (encSpan ⟨a.fr, b.to⟩))) := by
  apply Holds_fin fn_level_both (by simp) 1
  unfold ac_level_both
  simp [AL.pure, ldA, rowA, fillA, spl, thr]
theorem w_level_bounded_int (n m : Int) : Holds Try.prog F_level_bounded_int [.x (i64 n), .x (i64 m)] (fun x => x = I .i64 (max n m)) := by
  apply Holds_fin fn_level_bounded_int (by simp) 1
  unfold ac_level_bounded_int
  simp 
  omega
theorem w_level_Most (k : Int) (i : Nat) (h1 : -9223372036854775808 ≤ k) (h2 : k < 9223372036854775807) (hi : i < 9223372036854775808) :
    Holds Try.prog F_level_Most [.x (i64 k), .x (i64 i)] (fun x => x = I .i64 (most k i)) := by
  apply Holds_fin fn_level_Most (by simp) 1
  unfold ac_level_Most
  simp [most]
  have e : (if k < 0 then 0 else k) = max k 0 := by omega
  have e1 : IntKind.i64.wrap (max k 0 + 1) = max k 0 + 1 := wrapI (by omega) (by omega)
  have e2 : (max k 0 + 1).tdiv 2 = (max k 0 + 1) / 2 := Int.tdiv_eq_ediv_of_nonneg (by omega)
  have e3 : IntKind.i64.wrap ((max k 0 + 1) / 2) = (max k 0 + 1) / 2 := wrapI (by omega) (by omega)
  have e4 : IntKind.i64.wrap ((max k 0 + 1) / 2 + 1) = (max k 0 + 1) / 2 + 1 := wrapI (by omega) (by omega)
  rw [e, e1, e2, e3, e4]
  exact ⟨fun h => by rw [if_pos h], fun h => by rw [if_neg h]⟩

/-! ### hist.Last -/
theorem w_hist_Last (h : Hist) (hb : (h.levels.headD []).length < 4611686018427387904) : Holds Try.prog F_hist_Last [.agg (cellsHist h)] (fun x => x = .tup [.x (u64 (lastOf h.levels).1), .x (.v (.bool (lastOf h.levels).2))]) := by
  apply Holds_fin fn_hist_Last (by simp) 1
  unfold ac_hist_Last
  obtain ⟨k, gen, ls⟩ := h
  cases ls with
  | nil => simp [lastOf]
  | cons l r =>
    cases l with
    | nil => simp [lastOf]
    | cons a tl =>
      simp at hb
      have e1 : IntKind.i64.wrap (tl.length : Int) = tl.length := wrapI (by omega) (by omega)
      have e2 : (encSpan a :: List.map encSpan tl)[tl.length]'(by simp) = encSpan ((a :: tl)[tl.length]'(by simp)) := List.getElem_map (l := a :: tl) encSpan
      have e3 : (a :: tl).getLast? = some ((a :: tl)[tl.length]'(by simp)) := by rw [List.getLast?_eq_getElem?]; simp
      simp [lastOf, e1, e2, e3]
end Go.Abs
