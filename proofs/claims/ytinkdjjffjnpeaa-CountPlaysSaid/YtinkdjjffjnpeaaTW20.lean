import Derived.Test.YtinkdjjffjnpeaaTW19
namespace Go.Abs
open Go.Proofs
set_option linter.unusedSimpArgs false
set_option linter.unusedVariables false

theorem Fine.lv {h : Hist} (hf : Fine h) : LvOk' h.levels := ⟨by have := hf.small.len; omega, fun l hl => ⟨by have := hf.small.lev l hl; omega, hf.to l hl⟩⟩
theorem Fine.lv2 {h : Hist} (hf : Fine h) : LvOk2 h.levels := ⟨by have := hf.small.len; omega, fun l hl => ⟨by have := hf.small.lev l hl; omega, hf.to l hl⟩⟩
def paH (s : Cnt) (b : Buf) (h : Hist) : HP := hset (hset (hset H0 0 (.blk 9 [cellsCnt s] true true)) 1 (.blk 5 [cellsBuf b] true true)) 2 (.blk 9 [cellsCnt ⟨s.window, b, h⟩] true true)
theorem w_count_pass (s : Cnt) (b : Buf) (out : List Ev) (ho : PassOk s.past out) (hl : out.length < 4611686018427387904) (b2 : b.front < 18446744073709551616) (b3 : s.window < 18446744073709551616) :
    Holds Try.prog F_count_pass [.agg (cellsCnt s), .agg (cellsBuf b), .x (encEvs out)] (fun x => x = .c (.agg (cellsCnt (passP s b out)))) := by
  apply Holds_fin fn_count_pass (by simp) 3
  unfold ac_count_pass
  simp
  generalize hQ : blkQ 0 _ = Q
  refine wpc_loop' (fun p : Nat × Nat => ⟨ofL [(6, Pt 2 0 0), (15, .c (.x (encEvs out))), (16, I .i64 out.length), (17, I .i64 p.1)], paH s b (passH s.past (out.take p.1)), p.2, [.call F_count_Sketch_drop [.x (.pt 2 0 0)]]⟩)
    (fun p => p.1 ≤ out.length ∧ 3 ≤ p.2) (fun p => out.length - p.1) (0, 3) (by simp) (SLe.ofL (by simp) (by intro id; simp [paH, passH, cellsCnt, cellsBuf, cellsHist]; grind) (by simp) (by simp)) fun p hp => ?_
  obtain ⟨i, nx⟩ := p
  simp only at hp
  obtain ⟨h1, h2⟩ := hp
  simp only [acl_count_pass_0]
  have hF := ho.1 i h1
  by_cases hlt : i < out.length
  · have ew : IntKind.i64.wrap ((i : Int) + 1) = i + 1 := wI (by omega) (by omega)
    have htk : out.take (i + 1) = out.take i ++ [out[i]] := by rw [List.take_add_one, List.getElem?_eq_getElem hlt]; rfl
    have hsn := passH_snoc s.past (out.take i) out[i]
    rw [← htk] at hsn
    have he := ho.2 out[i] (List.getElem_mem _)
    generalize passH s.past (out.take i) = h at hF hsn
    have n1 : nx ≠ 0 := by omega
    have n2 : nx ≠ 1 := by omega
    have n3 : nx ≠ 2 := by omega
    simp [hlt, encEvs, paH, cellsCnt, cellsBuf, cellsHist, n1, n2, n3, n1.symm, n2.symm, n3.symm]
    refine ACall_pl (w_hist_Add h out[i].tick out[i].weight hF.small hF.tot he.2 he.1) (by simp) ?_
    simp [n1, n2, n3, n1.symm, n2.symm, n3.symm, ew]
    refine lpQ_next (i + 1, nx + 1) (by simp only; omega) (SLe.ofL (by simp [encEvs]) (fun k => ?_) (by simp) (by simp)) (by simp only; omega)
    rw [hsn]
    simp [paH, cellsCnt, cellsBuf, cellsHist]
    grind [H0]
  · have : i = out.length := by omega
    subst this
    subst hQ
    simp [paH]
    rw [List.take_length] at hF
    apply ACallD_body fn_count_Sketch_drop (by simp)
    unfold ac_count_Sketch_drop
    simp
    refine ⟨_, w_expiry_Drop (passH s.past out) b.front s.window hF.lv b2 b3, ?_⟩
    simp [cellsHist, passP, cellsCnt, cellsBuf, encEvs]
/-! ### the reference passes on -/
def psH (s : Cnt) (h : Hist) : HP := hset (hset H0 0 (.blk 9 [cellsCnt { s with past := h }] true true)) 1 (.blk 9 [[.v (.int .u64 0), .v (.int .u64 0), .v (.int .i64 0), .v (.int .u64 0), .v (.int .u64 0), .sl true [], .v (.int .i64 0), .v (.int .i64 0), .sl true []]] true true)
theorem w_passS (s : Cnt) (out : List Ev) (ho : PassOk s.past out) (hl : out.length < 4611686018427387904) (b2 : s.wait.front < 18446744073709551616) (b3 : s.window < 18446744073709551616) :
    Holds Try.prog F_skylightref14_pass [.agg (cellsCnt s), .x (encEvs out)] (fun x => x = .c (.agg (cellsCnt (passS s out)))) := by
  apply Holds_fin fn_skylightref14_pass (by simp) 3
  unfold ac_skylightref14_pass
  simp
  generalize hQ : blkQ 0 _ = Q
  refine wpc_loop' (fun p : Nat × Nat => ⟨ofL [(1, .c (.x (encEvs out))), (2, Pt 0 0 0), (4, Pt 1 0 0), (5, I .i64 p.1)], psH s (passH s.past (out.take p.1)), p.2, []⟩)
    (fun p => p.1 ≤ out.length ∧ 2 ≤ p.2) (fun p => out.length - p.1) (0, 2) (by simp) (SLe.ofL (by simp) (by intro id; simp [psH, passH, cellsCnt, cellsBuf, cellsHist, zeroCnt, zeroBuf, zeroHist, encEvs, encLevels]) (by simp) (by simp)) fun p hp => ?_
  obtain ⟨i, nx⟩ := p
  simp only at hp
  obtain ⟨h1, h2⟩ := hp
  simp only [acl_skylightref14_pass_0]
  have hF := ho.1 i h1
  by_cases hlt : i < out.length
  · have ew : IntKind.i64.wrap ((i : Int) + 1) = i + 1 := wI (by omega) (by omega)
    have htk : out.take (i + 1) = out.take i ++ [out[i]] := by rw [List.take_add_one, List.getElem?_eq_getElem hlt]; rfl
    have hsn := passH_snoc s.past (out.take i) out[i]
    rw [← htk] at hsn
    have he := ho.2 out[i] (List.getElem_mem _)
    generalize passH s.past (out.take i) = h at hF hsn
    have n1 : nx ≠ 0 := by omega
    have n2 : nx ≠ 1 := by omega
    simp [hlt, encEvs, psH, cellsCnt, cellsBuf, cellsHist, n1, n2, n1.symm, n2.symm]
    refine ⟨_, w_ref06_Add h out[i].tick out[i].weight hF.small hF.tot he.2 he.1, ?_⟩
    have hg : out[i]? = some out[i] := List.getElem?_eq_getElem hlt
    simp [hg, hlt, n1, n2, n1.symm, n2.symm, ew, cellsHist]
    refine lpQ_next (i + 1, nx + 1) (by simp only; omega) (SLe.ofL (by simp) (fun k => ?_) (by simp) (by simp)) (by simp only; omega)
    simp [hsn]
    grind [H0]
  · have : i = out.length := by omega
    subst this
    subst hQ
    rw [List.take_length] at hF
    simp [psH, cellsCnt, cellsBuf, cellsHist, encEvs]
    refine ACall_pl (w_ref07_Drop (passH s.past out) s.wait.front s.window hF.lv2 b2 b3) (by simp) ?_
    simp [cellsHist, passS, cellsCnt, cellsBuf, encEvs]
end Go.Abs
