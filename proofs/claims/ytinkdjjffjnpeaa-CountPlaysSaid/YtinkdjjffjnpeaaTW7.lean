import Derived.Test.YtinkdjjffjnpeaaTW6
namespace Go.Abs
open Go.Proofs
set_option linter.unusedSimpArgs false
set_option linter.unusedVariables false

/-! ### hist.Add -/
abbrev encRows (l : List (List Span)) : List (List AL) := l.map fun l => [encLevel l]
/-- behind j rounds -/
def AddI (k gen : Int) (S : List (List Span)) (b0 : HO) (b1 : HO) (lp : HO) (j : Nat) (H : HP) (nx : Nat) : Prop :=
  4 ≤ nx ∧ H 0 = b0 ∧ H 1 = b1 ∧ H 3 = lp ∧ ((j = 0 ∧ H 2 = .blk 3 [[i64 k, i64 gen, .sl true []]] true true) ∨
    ∃ lid, 4 ≤ lid ∧ lid < nx ∧ H 2 = .blk 3 [[i64 k, i64 gen, .ow lid 0 j false]] true false ∧ H lid = .blk 1 (encRows (S.take j)) true true)

theorem w_hist_Add (h : Hist) (tick w : Nat) (hs : Small h) (ht : totN 0 h.levels ≤ 4503599627370496) (hw : w < 18446744073709551616) (htk : tick < 18446744073709551616) :
    Holds Try.prog F_hist_Add [.agg (cellsHist h), .x (u64 tick), .x (u64 w)] (fun x => x = .tup [.agg (cellsHist (addM h tick w).1), .x (i64 (addM h tick w).2)]) := by
  have hlen := hs.len
  apply Holds_fin fn_hist_Add (by simp) 3
  unfold ac_hist_Add
  have hlast : (h.levels.headD []).length < 4611686018427387904 := by
    cases hh : h.levels with
    | nil => simp
    | cons l r => have := hs.lev l (by simp [hh]); simp; omega
  simp
  refine ACall_pl (w_hist_Last h hlast) (by simp) ?_
  generalize hq : lastOf h.levels = q
  obtain ⟨lt, lb⟩ := q
  simp
  by_cases h0 : w = 0
  · subst h0
    simp [addM]
  have h0' : ((w : Int) == 0) = false := by simp; omega
  by_cases h1 : 9223372036854775807 < tick
  · have h1' : (9223372036854775807 : Int) < tick := by omega
    simp [h0, h1, h1', addM]
  have h1' : ¬ (9223372036854775807 : Int) < tick := by omega
  have last : ∀ tm : Nat → AV, tm 1 = .c (.x (u64 tick)) → tm 2 = .c (.x (u64 w)) → tm 3 = Pt 0 0 0 → tm 6 = Pt 1 0 0 → tm 7 = I .i64 0 → True := fun _ _ _ _ _ _ => trivial
  generalize hQ : seqQ Try.prog 57 _ _ = Q
  have two : (lb = true ∧ tick < lt) ∨ ¬ (lb = true ∧ tick < lt) := Classical.em _
  rcases two with ⟨rfl, h2⟩ | h2
  · have h2' : (tick : Int) < lt := by omega
    subst hQ
    simp [h0, h1, h1', h2, h2', addM, hq]
  · have hadd : addM h tick w = if 4503599627370496 < w + totN 0 h.levels then (⟨0, 0, []⟩, 5) else (⟨h.k, h.gen, stays h tick w⟩, 0) := by
      rw [addM, if_neg h0, if_neg (by rw [hq]; exact fun e => e.elim h1 h2)]; rfl
    have hwf := hs
    -- behind the looks
    have three : ∀ tm : Nat → AV, tm 1 = .c (.x (u64 tick)) → tm 2 = .c (.x (u64 w)) → tm 3 = Pt 0 0 0 → tm 6 = Pt 1 0 0 → tm 7 = I .i64 0 → tm 21 = Bo false →
        Q .normal ⟨tm, hset (hset H0 0 (.blk 3 [cellsHist h] true true)) 1 (.blk 3 [[i64 0, i64 0, .sl true []]] true true), 2, []⟩ := by
      intro tm t1 t2 t3 t6 t7 t21
      subst hQ
      have hT := tot_all h.levels (by omega)
      simp [t1, t2, t3, t6, t7, t21]
      refine ACall_pl (w_hist_Total h (by omega)) (by simp) ?_
      rw [hT]
      have e1 : IntKind.u64.wrap (4503599627370496 - (totN 0 h.levels : Int)) = 4503599627370496 - totN 0 h.levels := wU (by omega) (by omega)
      simp [t1, t2, t3, t6, t7, t21, e1]
      by_cases h3 : 4503599627370496 < w + totN 0 h.levels
      · have h3' : 4503599627370496 - (totN 0 h.levels : Int) < w := by omega
        simp [h3', Int.not_le.2 h3', t1, t2, t3, t6, t7, hadd, h3]
      · have h3' : ¬ 4503599627370496 - (totN 0 h.levels : Int) < w := by omega
        simp [h3', Int.not_lt.1 h3', t1, t2, t3, t6, t7, hadd, h3]
        refine ACall_pl (w_hist_flow h tick w) (by simp) ?_
        simp [t1, t2, t3, t6, t7]
        generalize hL : HO.loop _ _ _ _ _ _ _ = lp
        refine c_flow_it h tick w hs (by omega) (Inv := AddI h.k h.gen (stays h tick w) (.blk 3 [cellsHist h] true true) (.blk 3 [[i64 0, i64 0, .sl true []]] true true) lp) (by simp [AddI]) ?_ ?_
        · intro j H nx l K hl hI hk
          obtain ⟨i1, i2, i3, i4, i5⟩ := hI
          have hjl : j < (stays h tick w).length := (List.getElem?_eq_some_iff.1 hl).1
          refine AYield_code rca_hist_Add_0 rcb_hist_Add_0 (i4.trans hL.symm) (by simp) (by simp) ?_
          simp only [aca_hist_Add_0, acb_hist_Add_0]
          have hT2 := flowV_len h.k 60 0 h.levels (List.replicate w ⟨tick, tick⟩) (by simp; omega) (fun l hl => by have := hs.lev l hl; simp; omega)
          have hjb : j < 60 + 268435456 := by unfold stays at hjl; omega
          have z0 : 0 < nx := by omega
          have z1 : 1 < nx := by omega
          have z2 : 2 < nx := by omega
          have z3 : 3 < nx := by omega
          have htk := take_snoc (stays h tick w) j l hl
          rcases i5 with ⟨rfl, i5⟩ | ⟨lid, i5, i6, i7, i8⟩
          · simp [i4, ← hL, i5, t1, t2, t3, t6, t7, ltne z2, ltne z3]
            refine hk _ _ ⟨by omega, by simp [i2] <;> grind, by simp [i3] <;> grind, by simp; exact hL, .inr ⟨nx + 1, by omega, by omega, by simp [ltne z2], ?_⟩⟩
            simp [ltne z2, ltne z3, htk]
          · have hl4 : lid ≠ 3 := by omega
            have hl2 : lid ≠ 2 := by omega
            have e2 : ((stays h tick w).take j).length = j := by simp; omega
            simp [i4, ← hL, i7, i8, t1, t2, t3, t6, t7, ltne i6, ltne z2, ltne z3, hl4, hl2, hl4.symm, hl2.symm, e2, List.take_of_length_le]
            refine ⟨by omega, by omega, by omega, hk _ _ ⟨by omega, by simp [i2] <;> grind, by simp [i3] <;> grind, by simp; exact hL, .inr ⟨nx + 1, by omega, by omega, by simp [ltne z2], ?_⟩⟩⟩
            simp [ltne z2, ltne z3, htk, List.take_take]
        · intro H nx hI
          obtain ⟨i1, i2, i3, i4, i5⟩ := hI
          rw [rfK_app]
          refine rfEnd_ok (i4.trans hL.symm) ?_
          have z0 : 0 < nx := by omega
          have z1 : 1 < nx := by omega
          rcases i5 with ⟨hj, i5⟩ | ⟨lid, i5, i6, i7, i8⟩
          · have : stays h tick w = [] := List.eq_nil_of_length_eq_zero hj
            simp [t1, t2, t3, t6, t7, i3, i5, this]
          · have hl1 : lid ≠ 1 := by omega
            have hl3 : lid ≠ 3 := by omega
            simp [t1, t2, t3, t6, t7, i3, i7, i8, hl1, hl3]
    cases lb with
    | false =>
      simp [h0, h1, h1']
      exact three _ (by simp) (by simp) (by simp) (by simp) (by simp) (by simp)
    | true =>
      have h2' : ¬ (tick : Int) < lt := by simp at h2; omega
      simp [h0, h1, h1', h2']
      exact three _ (by simp) (by simp) (by simp) (by simp) (by simp) (by simp)
end Go.Abs
