import Derived.Test.YtinkdjjffjnpeaaCo
namespace Go.Abs
open Go.Proofs

/-! ### data -/
abbrev u64 (n : Nat) : AL := .v (.int .u64 n)
abbrev i64 (n : Int) : AL := .v (.int .i64 n)
abbrev encSpan (s : Span) : List AL := [u64 s.fr, u64 s.to]
abbrev encLevel (l : List Span) : AL := .sl false (l.map encSpan)
abbrev encLevels (l : List (List Span)) : AL := .sl false (l.map fun l => [encLevel l])
abbrev cellsHist (h : Hist) : List AL := [i64 h.k, i64 h.gen, encLevels h.levels]
abbrev encEv (e : Ev) : List AL := [u64 e.tick, u64 e.key, u64 e.weight]
abbrev encEvs (l : List Ev) : AL := .sl false (l.map encEv)
abbrev cellsBuf (b : Buf) : List AL := [u64 b.late, i64 b.room, u64 b.mark, u64 b.front, encEvs b.events]
abbrev cellsCnt (s : Cnt) : List AL := u64 s.window :: (cellsBuf s.wait ++ cellsHist s.past)

/-! ### numbers -/
theorem wrapU (n : Int) : IntKind.u64.wrap n = n % 18446744073709551616 := by
  simp [IntKind.wrap, IntKind.bits, IntKind.signed]
theorem wrapI {n : Int} (h : -9223372036854775808 ≤ n) (h' : n < 9223372036854775808) : IntKind.i64.wrap n = n := by
  simp only [IntKind.wrap, IntKind.bits, IntKind.signed]
  simp
  omega
theorem wU {n : Int} (h : 0 ≤ n) (h' : n < 18446744073709551616) : IntKind.u64.wrap n = n := by
  rw [wrapU]; omega
theorem wI {n : Int} (h : -9223372036854775808 ≤ n) (h' : n < 9223372036854775808) : IntKind.i64.wrap n = n := wrapI h h'
theorem tdiv2 {n : Int} (h : 0 ≤ n) : n.tdiv 2 = n / 2 := Int.tdiv_eq_ediv_of_nonneg h
@[simp] theorem succ_beq0 (n : Nat) : (((n : Int) + 1) == 0) = false := by simp; omega
@[simp] theorem succ_sub1 (n : Nat) : (n : Int) + 1 - 1 = n := by omega
@[simp] theorem take_map_self {α β : Type} (f : α → β) (l : List α) : List.take l.length (List.map f l) = List.map f l := List.take_of_length_le (by simp)
/-- a call whose arguments are plain data -/
theorem ACall_pl {P : Program} {f : FuncId} {args : List AC} {r : AV} {H : HP} {nx : Nat} {K : KT} (h : Holds P f args (fun x => x = r)) (hp : args.all AC.plain = true) (hk : K r H nx) : ACall P f args H nx K :=
  ACall_is h (plains_frz hp H) hk
theorem ACall_plW (n : Nat) {P : Program} {f : FuncId} {args ys : List AC} {r : AV} {H : HP} {nx : Nat} {K : KT} (h : Holds P f ys (fun x => x = r)) (e : args.map (wkC n) = ys) (hp : args.all AC.plain = true) (hk : K r H nx) : ACall P f args H nx K :=
  ACall_pl (h.wk_args n e) hp hk
/-- an old number is no new one -/
theorem ltne {a n : Nat} (h : a < n) : ¬ (a = n) ∧ ¬ (a = n + 1) ∧ ¬ (a = n + 1 + 1) ∧ ¬ (a = n + 2) ∧ ¬ (a = n + 1 + 1 + 1) ∧ ¬ (a = n + 2 + 1) ∧ ¬ (a = n + 3) ∧ ¬ (a = n + 1 + 1 + 1 + 1) ∧ ¬ (a = n + 4) ∧
    ¬ (n = a) ∧ ¬ (n + 1 = a) ∧ ¬ (n + 1 + 1 = a) ∧ ¬ (n + 2 = a) ∧ ¬ (n + 1 + 1 + 1 = a) ∧ ¬ (n + 2 + 1 = a) ∧ ¬ (n + 3 = a) ∧ ¬ (n + 1 + 1 + 1 + 1 = a) ∧ ¬ (n + 4 = a) := by
  refine ⟨?_, ?_, ?_, ?_, ?_, ?_, ?_, ?_, ?_, ?_, ?_, ?_, ?_, ?_, ?_, ?_, ?_, ?_⟩ <;> omega
@[simp] theorem H0_app (id : Nat) : H0 id = .none := (rfl)
attribute [simp] srcA blkZ wU wI
end Go.Abs
