import Derived.Test.YtinkdjjffjnpeaaTF0
namespace Go.Abs
open Go.Proofs
variable {P : Program} {d : Option Nat} {r : List AOper} {s : St} {T : St → Prop}
@[simp] theorem wkc_Span (n : Nat) : (fun r => List.map (wkL n) r) ∘ encSpan = encSpan := by funext s; cases n <;> simp [encSpan, wkL]
@[simp] theorem wkc_Ev (n : Nat) : (fun r => List.map (wkL n) r) ∘ encEv = encEv := by funext s; cases n <;> simp [encEv, wkL]
@[simp] theorem wkc_Lev (n : Nat) : (fun r => List.map (wkL n) r) ∘ (fun l : List Span => [encLevel l]) = fun l => [encLevel l] := by funext l; cases n <;> simp [encLevel, wkL]
@[simp] theorem le_any (a : AV) : AV.le a .any = True := by simp only [eq_iff_iff, iff_true]; exact fun _ _ _ _ _ => .any _
theorem wfU {n : Nat} (h : n < 18446744073709551616) : (Lit.int .u64 (n : Int)).wf = true := by
  simp [Lit.wf, IntKind.min, IntKind.max, IntKind.signed, IntKind.bits]; omega
theorem wfI {n : Int} (h : -9223372036854775808 ≤ n) (h' : n < 9223372036854775808) : (Lit.int .i64 n).wf = true := by
  simp [Lit.wf, IntKind.min, IntKind.max, IntKind.signed, IntKind.bits]; omega
end Go.Abs
