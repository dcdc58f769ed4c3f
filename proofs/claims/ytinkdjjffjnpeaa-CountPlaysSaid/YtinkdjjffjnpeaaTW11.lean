import Derived.Test.YtinkdjjffjnpeaaTW10
namespace Go.Abs
open Go.Proofs
set_option linter.unusedSimpArgs false
set_option linter.unusedVariables false

def L_eqF (al bl : List (List Span)) (i : Nat) : St := ⟨ofL [(1, .c (.x (encLevels bl))), (2, .c (.x (.fn (.func F_slices_Equal_s_api_Span) []))), (15, .c (.x (encLevels al))), (16, I .i64 al.length), (17, I .i64 i)], H0, 0, []⟩
theorem w_slices_EqualFunc_levels (al bl : List (List Span)) (ha : LvOk al) (hb : LvOk bl) :
    Holds Try.prog F_slices_EqualFunc_s_s_api_Span [.x (encLevels al), .x (encLevels bl), .x (.fn (.func F_slices_Equal_s_api_Span) [])] (fun x => x = Bo (decide (al = bl))) := by
  apply Holds_fin fn_slices_EqualFunc_s_s_api_Span (by simp) 1
  unfold ac_slices_EqualFunc_s_s_api_Span
  by_cases hl : al.length = bl.length
  · simp [hl]
    refine wpc_loop' (L_eqF al bl) (fun i => i ≤ al.length ∧ al.take i = bl.take i) (fun i => al.length - i) 0 (by simp) (SLe.ofL (by simp [hl]) (by simp) (by simp) rfl) fun i hi => ?_
    obtain ⟨i1, i2⟩ := hi
    simp only [acl_slices_EqualFunc_s_s_api_Span_0, L_eqF]
    by_cases hlt : i < al.length
    · have hlt' : i < bl.length := by omega
      have g1 := ha.2 al[i] (List.getElem_mem _)
      have g2 := hb.2 bl[i] (List.getElem_mem _)
      have := ha.1
      have ew : IntKind.i64.wrap ((i : Int) + 1) = i + 1 := wI (by omega) (by omega)
      simp [hlt, hlt']
      refine ACall_pl (w_slices_Equal_s_api_Span al[i] bl[i] g1.2 g2.2 g1.1 g2.1) (by simp) ?_
      simp
      refine ⟨fun h e => ?_, fun e => ?_⟩
      · subst e; simp at h
      · exact lpQ_next (i + 1) ⟨by omega, take_next i2 hlt hlt' e⟩ (SLe.ofL (by simp [ew]) (by simp) (by simp) rfl) (by omega)
    · have hge : bl.length ≤ i := by omega
      have : al = bl := take_eq_of i2 (by omega) hge
      subst this
      simp [hlt]
  · have hne : al ≠ bl := fun h => hl (by rw [h])
    simp [hl, nei hl, hne]

theorem w_hist_equal (a : Hist) (bl : List (List Span)) (ha : LvOk a.levels) (hb : LvOk bl) : Holds Try.prog F_hist_Hist_equal [.agg (cellsHist a), .x (encLevels bl)] (fun x => x = Bo (decide (a.levels = bl))) := by
  apply Holds_fin fn_hist_Hist_equal (by simp) 1
  unfold ac_hist_Hist_equal
  simp
  refine ACall_pl (w_slices_EqualFunc_levels a.levels bl ha hb) (by simp) ?_
  simp

theorem w_hist_Same (a b : Hist) (ha : LvOk a.levels) (hb : LvOk b.levels) : Holds Try.prog F_hist_Same [.agg (cellsHist a), .agg (cellsHist b)] (fun x => x = Bo (decide (a = b))) := by
  apply Holds_fin fn_hist_Same (by simp) 1
  unfold ac_hist_Same
  obtain ⟨ak, ag, al⟩ := a
  obtain ⟨bk, bg, bl⟩ := b
  simp only at ha hb
  by_cases h1 : ak = bk
  · subst h1
    by_cases h2 : ag = bg
    · subst h2
      simp
      refine ACall_pl (w_hist_equal ⟨ak, ag, al⟩ bl ha hb) (by simp) ?_
      simp
    · simp [h2, neb h2]
  · simp [h1, neb h1]

/-- bounds on a buffer -/
structure BufOk (b : Buf) : Prop where
  len : b.events.length < 4611686018427387904
  ev : ∀ e ∈ b.events, EvOk e
theorem w_skylightref12_Same (a b : Buf) (ha : BufOk a) (hb : BufOk b) : Holds Try.prog F_skylightref12_Same [.agg (cellsBuf a), .agg (cellsBuf b)] (fun x => x = Bo (decide (a = b))) := by
  apply Holds_fin fn_skylightref12_Same (by simp) 1
  unfold ac_skylightref12_Same
  obtain ⟨a1, a2, a3, a4, a5⟩ := a
  obtain ⟨b1, b2, b3, b4, b5⟩ := b
  obtain ⟨ha1, ha2⟩ := ha
  obtain ⟨hb1, hb2⟩ := hb
  simp only at ha1 ha2 hb1 hb2
  by_cases h1 : a1 = b1
  · subst h1
    by_cases h2 : a2 = b2
    · subst h2
      by_cases h3 : a3 = b3
      · subst h3
        by_cases h4 : a4 = b4
        · subst h4
          simp
          refine ACall_pl (w_skylightref12_Events a5 b5 ha2 hb2 ha1 hb1) (by simp) ?_
          simp
        · simp [h4, nei h4, neb (nei h4)]
      · simp [h3, nei h3, neb (nei h3)]
    · simp [h2, neb h2]
  · simp [h1, nei h1, neb (nei h1)]
theorem w_buffer_Same (a b : Buf) (ha : BufOk a) (hb : BufOk b) : Holds Try.prog F_buffer_Same [.agg (cellsBuf a), .agg (cellsBuf b)] (fun x => x = Bo (decide (a = b))) := by
  apply Holds_fin fn_buffer_Same (by simp) 1
  unfold ac_buffer_Same
  obtain ⟨a1, a2, a3, a4, a5⟩ := a
  obtain ⟨b1, b2, b3, b4, b5⟩ := b
  obtain ⟨ha1, ha2⟩ := ha
  obtain ⟨hb1, hb2⟩ := hb
  simp only at ha1 ha2 hb1 hb2
  by_cases h1 : a1 = b1
  · subst h1
    by_cases h3 : a3 = b3
    · subst h3
      by_cases h4 : a4 = b4
      · subst h4
        by_cases h2 : a2 = b2
        · subst h2
          simp
          refine ACall_pl (w_slices_Equal_s_api_Event a5 b5 ha2 hb2 ha1 hb1) (by simp) ?_
          simp
        · simp [h2, neb h2]
      · simp [h4, nei h4, neb (nei h4)]
    · simp [h3, nei h3, neb (nei h3)]
  · simp [h1, nei h1, neb (nei h1)]

structure CntOk (s : Cnt) : Prop where
  buf : BufOk s.wait
  lev : LvOk s.past.levels
theorem w_skylightref14_Same (a b : Cnt) (ha : CntOk a) (hb : CntOk b) : Holds Try.prog F_skylightref14_Same [.agg (cellsCnt a), .agg (cellsCnt b)] (fun x => x = Bo (decide (a = b))) := by
  apply Holds_fin fn_skylightref14_Same (by simp) 1
  unfold ac_skylightref14_Same
  obtain ⟨a1, a2, a3⟩ := a
  obtain ⟨b1, b2, b3⟩ := b
  obtain ⟨ha1, ha2⟩ := ha
  obtain ⟨hb1, hb2⟩ := hb
  simp only at ha1 ha2 hb1 hb2
  by_cases h1 : a1 = b1
  · subst h1
    simp
    refine ACall_pl (w_skylightref12_Same a2 b2 ha1 hb1) (by simp) ?_
    by_cases h2 : a2 = b2
    · subst h2
      simp
      refine ACall_pl (w_skylightref06_Same a3 b3 ha2 hb2) (by simp) ?_
      simp
    · simp [h2]
  · simp [h1, nei h1, neb (nei h1)]
theorem w_count_Same (a b : Cnt) (ha : CntOk a) (hb : CntOk b) : Holds Try.prog F_count_Same [.agg (cellsCnt a), .agg (cellsCnt b)] (fun x => x = Bo (decide (a = b))) := by
  apply Holds_fin fn_count_Same (by simp) 1
  unfold ac_count_Same
  obtain ⟨a1, a2, a3⟩ := a
  obtain ⟨b1, b2, b3⟩ := b
  obtain ⟨ha1, ha2⟩ := ha
  obtain ⟨hb1, hb2⟩ := hb
  simp only at ha1 ha2 hb1 hb2
  by_cases h1 : a1 = b1
  · subst h1
    simp
    refine ACall_pl (w_buffer_Same a2 b2 ha1 hb1) (by simp) ?_
    by_cases h2 : a2 = b2
    · subst h2
      simp
      refine ACall_pl (w_hist_Same a3 b3 ha2 hb2) (by simp) ?_
      simp
    · simp [h2]
  · simp [h1, nei h1, neb (nei h1)]
end Go.Abs
