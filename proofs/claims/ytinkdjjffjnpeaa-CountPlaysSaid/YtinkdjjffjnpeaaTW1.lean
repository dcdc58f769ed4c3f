import Derived.Test.YtinkdjjffjnpeaaTF1
namespace Go.Abs
open Go.Proofs
set_option linter.unusedSimpArgs false

def L_buffer_Weight (b : Buf) (p : Nat × Nat) : St := ⟨ofL [(3, I .u64 (wsum b.events p.1)), (7, .c (.x (encEvs b.events))), (8, I .i64 b.events.length), (9, I .i64 p.1)], H0, p.2, []⟩

theorem w_buffer_Weight (b : Buf) (hb : b.events.length < 4611686018427387904) : Holds Try.prog F_buffer_Weight [.agg (cellsBuf b)] (fun x => x = I .u64 (wsum b.events b.events.length)) := by
  apply Holds_fin fn_buffer_Weight (by simp) 1
  unfold ac_buffer_Weight
  simp [AL.pure, ldA, rowA, entF]
  refine wpc_loop' (L_buffer_Weight b) (fun p => p.1 ≤ b.events.length) (fun p => b.events.length - p.1) (0, 1) (by simp) (SLe.ofL (by simp [wsum]) (by simp [H0]) (by simp) rfl) fun p hi => ?_
  obtain ⟨i, nx⟩ := p
  simp only at hi
  simp [L_buffer_Weight, acl_buffer_Weight_0]
  refine ⟨fun hlt => ?_, fun hge => ?_⟩
  · simp [ldA, rowA, hlt, AL.pure, spl]
    refine lpQ_next (i + 1, nx + 1) (by simp only; omega) (SLe.ofL ?_ (by simp [H0]) (by simp) rfl) (by simp only; omega)
    have hg : b.events[i]?.getD ⟨0, 0, 0⟩ = b.events[i] := by simp [hlt]
    simp [wrapU, wsum, hg, wrapI (n := (i : Int) + 1) (by omega) (by omega)]
  · have : i = b.events.length := by omega
    subst this
    simp [resVs, resV, finK_app, frzV, frzC, frzL, wkV, wkC, wkL]

/-! ### hist.Total -/
theorem tot_eq (ls : List (List Span)) : ∀ i, i ≤ ls.length → tot ls i = (totN 0 (ls.take i) : Int) % 18446744073709551616
  | 0, _ => by simp [tot, totN]
  | i + 1, h => by
    have ih := tot_eq ls i (by omega)
    rw [tot, ih, List.take_add_one, List.getElem?_eq_getElem (by omega)]
    simp only [Option.toList_some, totN_append, totN, List.length_take, Nat.zero_add, Nat.add_zero]
    have e0 : min i ls.length = i := by omega
    have e1 : ls.getD i [] = ls[i] := by simp [show i < ls.length by omega]
    rw [e0, e1]
    push_cast
    generalize (totN 0 (ls.take i) : Int) = A
    generalize ls[i].length = L
    by_cases h64 : i ≤ 64
    · rw [Nat.min_eq_left h64]
      rw [Int.add_emod, Int.emod_emod_of_dvd _ (Int.dvd_refl _), Int.mul_emod, Int.emod_emod_of_dvd _ (Int.dvd_refl _), ← Int.mul_emod, ← Int.add_emod]
    · have h1 : ((2 : Int) ^ min i 64) % 18446744073709551616 = 0 := by rw [Nat.min_eq_right (by omega)]; rfl
      have h2 : ((2 : Int) ^ i) % 18446744073709551616 = 0 := by
        rw [show i = 64 + (i - 64) by omega, Int.pow_add, Int.mul_emod]; simp
      rw [Int.add_emod, Int.emod_emod_of_dvd _ (Int.dvd_refl _), Int.mul_emod _ (2 ^ _), h1, Int.add_emod A, Int.mul_emod _ (2 ^ i), h2]
      simp
theorem tot_all (ls : List (List Span)) (h : totN 0 ls < 18446744073709551616) : tot ls ls.length = totN 0 ls := by
  rw [tot_eq ls _ (Nat.le_refl _), List.take_length]; omega

def L_hist_Total (h : Hist) (i : Nat) : St := ⟨ofL [(2, I .u64 0), (3, I .u64 (tot h.levels i)), (7, .c (.x (encLevels h.levels))), (8, I .i64 h.levels.length), (9, I .i64 i)], H0, 1, []⟩

theorem w_hist_Total (h : Hist) (hb : h.levels.length < 4611686018427387904) : Holds Try.prog F_hist_Total [.agg (cellsHist h)] (fun x => x = I .u64 (tot h.levels h.levels.length)) := by
  apply Holds_fin fn_hist_Total (by simp) 1
  unfold ac_hist_Total
  simp [AL.pure, ldA, rowA, entF]
  refine wpc_loop' (L_hist_Total h) (fun i => i ≤ h.levels.length) (fun i => h.levels.length - i) 0 (by simp) (SLe.ofL (by simp [tot]) (by simp [H0]) (by simp) rfl) fun i hi => ?_
  simp [L_hist_Total, acl_hist_Total_0]
  refine ⟨fun hlt => ?_, fun hge => ?_⟩
  · simp [ldA, rowA, hlt]
    refine lpQ_next (i + 1) (by omega) (SLe.ofL ?_ (by simp [H0]) (by simp) rfl) (by omega)
    have hg : h.levels[i]?.getD [] = h.levels[i] := by simp [hlt]
    simp [wrapU, tot, hg, IntKind.bits, wrapI (n := (i : Int) + 1) (by omega) (by omega)]
  · have : i = h.levels.length := by omega
    subst this
    simp [resVs, resV, finK_app, frzV, frzC, frzL, wkV, wkC, wkL]

/-! ### count.room -/

def L_count_room (l : List Nat) (p : Nat × Nat) : St := ⟨ofL [(3, I .u64 p.2), (6, .c (.x (.sl false (l.map fun n => [u64 n])))), (7, I .i64 l.length), (8, I .i64 p.1)], H0, 0, []⟩

theorem w_count_room (l : List Nat) (hb : l.length < 4611686018427387904) : Holds Try.prog F_count_room [.x (.sl false (l.map fun n => [u64 n]))] (fun x => x = Bo (roomB l 4503599627370496)) := by
  apply Holds_fin fn_count_room (by simp) 1
  unfold ac_count_room
  simp [AL.pure, ldA, rowA, entF]
  refine wpc_loop' (L_count_room l) (fun p => p.1 ≤ l.length ∧ p.2 ≤ 4503599627370496 ∧ roomB (l.drop p.1) p.2 = roomB l 4503599627370496) (fun p => l.length - p.1) (0, 4503599627370496) (by simp) (SLe.ofL (by simp) (by simp [H0]) (by simp) rfl) fun p hi => ?_
  obtain ⟨i, left⟩ := p
  obtain ⟨h1, h2, h3⟩ := hi
  simp only at h1 h2 h3
  simp [L_count_room, acl_count_room_0]
  refine ⟨fun hlt => ?_, fun hge => ?_⟩
  · rw [List.drop_eq_getElem_cons hlt, roomB] at h3
    simp [ldA, rowA, hlt]
    refine ⟨fun hgt => ?_, fun hle => ?_⟩
    · rw [if_pos (by omega)] at h3
      simp [resVs, resV, finK_app, frzV, frzC, frzL, wkV, wkC, wkL, ← h3]
    · rw [if_neg (by omega)] at h3
      refine lpQ_next (i + 1, left - l[i]) ⟨by simp only; omega, by simp only; omega, h3⟩ (SLe.ofL ?_ (by simp [H0]) (by simp) rfl) (by simp only; omega)
      have e1 : ((left : Int) - (l[i] : Int)) % 18446744073709551616 = ((left - l[i] : Nat) : Int) := by omega
      simp [wrapU, e1, wrapI (n := (i : Int) + 1) (by omega) (by omega)]
  · have : i = l.length := by omega
    subst this
    simp [roomB] at h3
    simp [resVs, resV, finK_app, frzV, frzC, frzL, wkV, wkC, wkL, ← h3]
end Go.Abs
