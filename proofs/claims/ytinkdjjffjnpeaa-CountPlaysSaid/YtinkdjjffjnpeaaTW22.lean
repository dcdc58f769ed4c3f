import Derived.Test.YtinkdjjffjnpeaaTW21
namespace Go.Abs
open Go.Proofs
set_option linter.unusedSimpArgs false
set_option linter.unusedVariables false

theorem c_parts_1 {H : HP} {nx is it : Nat} {t tick span : Nat} {K : KT} (hb : tick < 18446744073709551616) (hs : H is = .blk 1 [[u64 span]] true true) (ht : H it = .blk 1 [[u64 tick]] true true) (hK : K (Bo (withinB tick span t)) H nx) :
    ACall Try.prog F_estimate_Parts_1 [.x (u64 t), .x (.pt is 0 0), .x (.pt it 0 0)] H nx K := by
  apply ACall_body fn_estimate_Parts_1 (by simp)
  unfold ac_estimate_Parts_1
  by_cases h1 : tick < span
  · have : withinB tick span t = true := by simp [withinB, h1]
    rw [this] at hK
    simp [hs, ht, h1]
    exact hK
  · have e : IntKind.u64.wrap (tick - span : Int) = ((tick - span : Nat) : Int) := by rw [wU (by omega) (by omega)]; omega
    have : withinB tick span t = decide (tick - span < t) := by simp [withinB, h1]
    rw [this] at hK
    simp [hs, ht, h1, e, Nat.not_lt.1 h1]
    exact hK
theorem c_buckets_it (h : Hist) (hl : h.levels.length < 4611686018427387904) (hl2 : ∀ l ∈ h.levels, l.length < 4611686018427387904) {id : Nat} {Inv : List (Span × Nat) → HP → Nat → Prop} {H : HP} {nx : Nat} {K : KT} (h0 : Inv [] H nx)
    (hf : ∀ d H nx H' nx', Inv d H nx → (∀ k, k < nx → H' k = H k) → nx ≤ nx' → Inv d H' nx')
    (hy : ∀ d s u H nx, Inv d H nx → ∃ H' nx', Inv (d ++ [(s, u)]) H' nx' ∧ ∀ K, K (Bo true) H' nx' → AYield Try.prog id [.agg [u64 s.fr, u64 s.to], .x (u64 u)] H nx K)
    (hK : ∀ H nx, Inv (bks 0 h.levels) H nx → K (.tup []) H nx) : ACall Try.prog F_estimate_buckets_1 [.x (.yl id), .x (.fp [cellsHist h] 0 0)] H nx K := by
  apply ACall_body fn_estimate_buckets_1 (by simp)
  unfold ac_estimate_buckets_1
  simp [cellsHist, encLevels]
  refine wpc_loop' (fun p : Nat × HP × Nat => ⟨ofL [(0, .c (.x (.yl id))), (8, .c (.x (encLevels h.levels))), (9, I .i64 h.levels.length), (10, I .i64 p.1)], p.2.1, p.2.2, []⟩)
    (fun p => p.1 ≤ h.levels.length ∧ Inv (bks 0 (h.levels.take p.1)) p.2.1 p.2.2) (fun p => h.levels.length - p.1) (0, H, nx) (by simp [bks, h0]) (SLe.ofL (by simp [encLevels]) (by simp) (by simp) rfl) fun p hi => ?_
  obtain ⟨i, H, nx⟩ := p
  simp only at hi
  obtain ⟨i1, i2⟩ := hi
  simp only [acl_estimate_buckets_1_0]
  by_cases hlt : i < h.levels.length
  · have ew : IntKind.i64.wrap ((i : Int) + 1) = i + 1 := wI (by omega) (by omega)
    have hb := bks_take h.levels i hlt
    have hll := hl2 _ (List.getElem_mem hlt)
    generalize hl0 : h.levels[i] = l at hb hll
    simp [hlt, encLevels, hl0, encLevel]
    generalize hQ : blkQ 2 _ = Q
    refine wpc_loop' (fun p : Nat × HP × Nat => ⟨ofL [(0, .c (.x (.yl id))), (3, I .i64 i), (8, .c (.x (encLevels h.levels))), (9, I .i64 h.levels.length), (10, I .i64 i), (15, .c (.x (encLevel l))), (16, I .i64 l.length), (17, I .i64 p.1)], p.2.1, p.2.2, []⟩)
      (fun p => p.1 ≤ l.length ∧ Inv (bks 0 (h.levels.take i) ++ (l.take p.1).map (fun s => (s, 2 ^ i % 18446744073709551616))) p.2.1 p.2.2) (fun p => l.length - p.1) (0, H, nx) (by simp [i2]) (SLe.ofL (by simp [encLevels, encLevel]) (by simp) (by simp) rfl) fun p hi => ?_
    obtain ⟨j, H, nx⟩ := p
    simp only at hi
    obtain ⟨j1, j2⟩ := hi
    simp only [acl_estimate_buckets_1_1]
    by_cases hjl : j < l.length
    · have ew : IntKind.i64.wrap ((j : Int) + 1) = j + 1 := wI (by omega) (by omega)
      simp [hjl, encLevel]
      have eu : IntKind.u64.wrap ((2 : Int) ^ min i IntKind.u64.bits) = ((2 ^ i % 18446744073709551616 : Nat) : Int) := by
        rw [wrapU]
        show (2 : Int) ^ min i 64 % 18446744073709551616 = _
        by_cases h64 : i ≤ 64
        · rw [Nat.min_eq_left h64]; simp
        · rw [Nat.min_eq_right (by omega)]
          have : (2 : Nat) ^ i % 18446744073709551616 = 0 := by
            rw [show i = 64 + (i - 64) by omega, Nat.pow_add, Nat.mul_mod]; simp
          rw [this]; rfl
      rw [eu]
      obtain ⟨H', nx', g1, g2⟩ := hy _ l[j] (2 ^ i % 18446744073709551616) _ _ (hf _ _ _ (hset (hset H nx (.blk 2 [[.v (.int .u64 0), .v (.int .u64 0)]] true true)) nx (.blk 2 [[u64 l[j].fr, u64 l[j].to]] true true)) (nx + 1) j2 (fun k hk => by have := ltne hk; simp [this]) (by omega))
      refine ⟨_, H', nx', g2, ?_⟩
      simp
      refine lpQ_next (j + 1, H', nx') ⟨by simp only; omega, ?_⟩ (SLe.ofL (by simp [ew]) (by simp) (by simp) rfl) (by simp only; omega)
      simp only
      rw [List.take_add_one, List.getElem?_map, List.getElem?_eq_getElem hjl]
      simpa using g1
    · have : j = l.length := by omega
      subst this
      subst hQ
      simp
      refine lpQ_next (i + 1, H, nx) ⟨by simp only; omega, ?_⟩ (SLe.ofL (by simp [ew, encLevels, encLevel]) (by simp) (by simp) rfl) (by simp only; omega)
      simp only
      rw [hb]
      simpa using j2
  · have : i = h.levels.length := by omega
    subst this
    simp
    exact hK _ _ (by simpa using i2)
theorem w_buckets (h : Hist) : Holds Try.prog F_estimate_buckets [.agg (cellsHist h)] (fun x => x = .c (.x (.fn (.func F_estimate_buckets_1) [.fp [cellsHist h] 0 0]))) := by
  apply Holds_fin fn_estimate_buckets (by simp) 2
  unfold ac_estimate_buckets
  simp
def partI (tick span : Nat) (lp : HO) (d : List (Span × Nat)) (H : HP) (nx : Nat) : Prop :=
  7 ≤ nx ∧ H 1 = .blk 1 [[u64 tick]] true true ∧ H 2 = .blk 1 [[u64 span]] true true ∧ H 3 = .blk 1 [[.fn (.func F_estimate_Parts_1) [.pt 2 0 0, .pt 1 0 0]]] true false ∧ H 4 = .blk 1 [[u64 (partS tick span d)]] true true ∧ H 5 = .blk 1 [[u64 (partC tick span d)]] true true ∧ H 6 = lp
theorem w_Parts (h : Hist) (tick span : Nat) (hb : tick < 18446744073709551616) (hl : h.levels.length < 4611686018427387904) (hl2 : ∀ l ∈ h.levels, l.length < 4611686018427387904) :
    Holds Try.prog F_estimate_Parts [.agg (cellsHist h), .x (u64 tick), .x (u64 span)] (fun x => x = .tup [.x (u64 (partS tick span (bks 0 h.levels))), .x (u64 (partC tick span (bks 0 h.levels)))]) := by
  apply Holds_fin fn_estimate_Parts (by simp) 2
  unfold ac_estimate_Parts
  simp
  refine ACall_pl (w_buckets h) (by simp) ?_
  simp
  generalize hL : HO.loop _ _ _ _ _ _ _ = lp
  refine c_buckets_it h hl hl2 (Inv := partI tick span lp) (by simp [partI, partS, partC]) ?_ ?_ ?_
  · intro d H nx H' nx' ⟨i1, i2, i3, i4, i5, i6, i7⟩ hk hn
    refine ⟨by omega, ?_, ?_, ?_, ?_, ?_, ?_⟩ <;> rw [hk _ (by omega)] <;> assumption
  · intro d s u H nx ⟨i1, i2, i3, i4, i5, i6, i7⟩
    have n0 : nx ≠ 0 := by omega
    have n1 : nx ≠ 1 := by omega
    have n2 : nx ≠ 2 := by omega
    have n3 : nx ≠ 3 := by omega
    have n4 : nx ≠ 4 := by omega
    have n5 : nx ≠ 5 := by omega
    have n6 : nx ≠ 6 := by omega
    have es := partS_snoc tick span d (s, u)
    have ec := partC_snoc tick span d (s, u)
    cases h1 : withinB tick span s.fr with
    | true =>
      simp [h1] at es ec
      apply Exists.intro
      apply Exists.intro
      apply And.intro
      case right =>
        intro K hK
        refine AYield_code rca_estimate_Parts_0 rcb_estimate_Parts_0 (i7.trans hL.symm) (by simp) (by simp) ?_
        simp only [aca_estimate_Parts_0, acb_estimate_Parts_0]
        simp [i7, ← hL, i4, n0, n1, n2, n3, n4, n5, n6, n0.symm, n1.symm, n2.symm, n3.symm, n4.symm, n5.symm, n6.symm]
        refine c_parts_1 (tick := tick) (span := span) hb (by simp [i3, n2.symm]) (by simp [i2, n1.symm]) ?_
        simp [h1, i5, n4.symm, n4, n6, n6.symm, wrapU]
        exact hK
      case left =>
        refine ⟨by omega, ?_, ?_, ?_, ?_, ?_, ?_⟩ <;> simp [n1.symm, n2.symm, n3.symm, n4.symm, n5.symm, n6.symm, i2, i3, i4, i6, es, ec, hL]
    | false =>
      cases h2 : withinB tick span s.to with
      | true =>
        simp [h1, h2] at es ec
        apply Exists.intro
        apply Exists.intro
        apply And.intro
        case right =>
          intro K hK
          refine AYield_code rca_estimate_Parts_0 rcb_estimate_Parts_0 (i7.trans hL.symm) (by simp) (by simp) ?_
          simp only [aca_estimate_Parts_0, acb_estimate_Parts_0]
          simp [i7, ← hL, i4, n0, n1, n2, n3, n4, n5, n6, n0.symm, n1.symm, n2.symm, n3.symm, n4.symm, n5.symm, n6.symm]
          refine c_parts_1 (tick := tick) (span := span) hb (by simp [i3, n2.symm]) (by simp [i2, n1.symm]) ?_
          simp [h1, i4, n0, n1, n2, n3, n4, n5, n6, n0.symm, n1.symm, n2.symm, n3.symm, n4.symm, n5.symm, n6.symm]
          refine c_parts_1 (tick := tick) (span := span) hb (by simp [i3, n2.symm]) (by simp [i2, n1.symm]) ?_
          simp [h2, i6, n5.symm, n5, n6, n6.symm, wrapU]
          exact hK
        case left =>
          refine ⟨by omega, ?_, ?_, ?_, ?_, ?_, ?_⟩ <;> simp [n1.symm, n2.symm, n3.symm, n4.symm, n5.symm, n6.symm, i2, i3, i4, i5, es, ec, hL]
      | false =>
        simp [h1, h2] at es ec
        apply Exists.intro
        apply Exists.intro
        apply And.intro
        case right =>
          intro K hK
          refine AYield_code rca_estimate_Parts_0 rcb_estimate_Parts_0 (i7.trans hL.symm) (by simp) (by simp) ?_
          simp only [aca_estimate_Parts_0, acb_estimate_Parts_0]
          simp [i7, ← hL, i4, n0, n1, n2, n3, n4, n5, n6, n0.symm, n1.symm, n2.symm, n3.symm, n4.symm, n5.symm, n6.symm]
          refine c_parts_1 (tick := tick) (span := span) hb (by simp [i3, n2.symm]) (by simp [i2, n1.symm]) ?_
          simp [h1, i4, n0, n1, n2, n3, n4, n5, n6, n0.symm, n1.symm, n2.symm, n3.symm, n4.symm, n5.symm, n6.symm]
          refine c_parts_1 (tick := tick) (span := span) hb (by simp [i3, n2.symm]) (by simp [i2, n1.symm]) ?_
          simp [h2, n6, n6.symm]
          exact hK
        case left =>
          refine ⟨by omega, ?_, ?_, ?_, ?_, ?_, ?_⟩ <;> simp [n1.symm, n2.symm, n3.symm, n4.symm, n5.symm, n6.symm, i2, i3, i4, i5, i6, es, ec, hL]
  · intro H nx ⟨i1, i2, i3, i4, i5, i6, i7⟩
    rw [rfK_app]
    refine rfEnd_ok (i7.trans hL.symm) ?_
    simp [i5, i6]
end Go.Abs
