import Derived.Test.YtinkdjjffjnpeaaRows
import Derived.Test.YtinkdjjffjnpeaaBr
namespace Go.Proofs.Ytinkdjjffjnpeaa.countPlays
set_option linter.unusedVariables false
set_option linter.constructorNameAsVariable false
open Go.ChangeShapes Go.WideShapes Go.ChangeAt Go.RowKit Go.Abs

theorem own : ownKnob Try.prog.godebug = none := by kernel_rfl
theorem laid : laidOutB Try.prog = true := by kernel_rfl
theorem mrow : mapsRowed Try.prog = true := by kernel_rfl
theorem kids : Kids Try.prog (· < Try.prog.types.size) := kids_rows laid mrow
theorem full : ∀ t e, t < Try.prog.types.size → Try.prog.underlying t = some (.slice e) → 0 < Try.prog.cellsOf e := slices_full_of Try.prog (by kernel_rfl)
theorem c22 : Try.prog.cellsOf 22 = 1 := by kernel_rfl
theorem c23 : Try.prog.cellsOf 23 = 2 := by kernel_rfl
theorem c43 : Try.prog.cellsOf 43 = 3 := by kernel_rfl
theorem c45 : Try.prog.cellsOf 45 = 3 := by kernel_rfl
theorem wf_u64 {z : Int} (h : (Lit.int .u64 z).wf = true) : ∃ n : Nat, z = n ∧ n < 18446744073709551616 := by
  have : 0 ≤ z ∧ z ≤ 18446744073709551615 := by simpa [Lit.wf, IntKind.min, IntKind.max, IntKind.signed, IntKind.bits] using h
  exact ⟨z.toNat, by omega, by omega⟩
section
variable {H : Type} {enc : TypeId × Value → H} {W : World} {base : Nat} {sp : Nat → Bool} {held : Bool}
theorem one_u64 {n : Nat} {cs : List Value} {x : DataW H × List MemPlace} (h : DataW.trod enc Try.prog W base sp held n 22 cs = some x) : ∃ z : Nat, cs = [.int .u64 z] ∧ z < 18446744073709551616 := by
  obtain ⟨z, h1, _, h3⟩ := DataW.trod_int Try.underlying22 h
  obtain ⟨m, rfl, hm⟩ := wf_u64 h3
  exact ⟨m, h1, hm⟩
theorem len3 {cs : List Value} (h : cs.length = 3) : ∃ a b c, cs = [a, b, c] := by
  match cs, h with
  | [a, b, c], _ => exact ⟨a, b, c, rfl⟩
set_option maxRecDepth 100000 in
theorem one_event {n : Nat} {cs : List Value} {x : DataW H × List MemPlace} (h : DataW.trod enc Try.prog W base sp held n 43 cs = some x) :
    ∃ e : Ev, EvOk e ∧ cs = [.int .u64 e.tick, .int .u64 e.key, .int .u64 e.weight] := by
  obtain ⟨xs, m, _, _, h1, h2, h3⟩ := DataW.trod_struct Try.underlying43 h
  clear h
  rw [c43] at h1
  obtain ⟨a, b, c, rfl⟩ := len3 h1
  have k0 : DataW.trod enc Try.prog W base sp held m 22 (([a, b, c].drop 0).take (Try.prog.cellsOf 22)) = xs[0]? := h3 0 _ (by simp; rfl)
  have k1 : DataW.trod enc Try.prog W base sp held m 22 (([a, b, c].drop 1).take (Try.prog.cellsOf 22)) = xs[1]? := h3 1 _ (by simp; rfl)
  have k2 : DataW.trod enc Try.prog W base sp held m 22 (([a, b, c].drop 2).take (Try.prog.cellsOf 22)) = xs[2]? := h3 2 _ (by simp; rfl)
  clear h3
  simp only [c22] at k0 k1 k2
  have h2 : xs.length = 3 := by simpa using h2
  rw [List.getElem?_eq_getElem (by omega)] at k0 k1 k2
  obtain ⟨z0, e0, b0⟩ := one_u64 k0
  obtain ⟨z1, e1, b1⟩ := one_u64 k1
  obtain ⟨z2, e2, b2⟩ := one_u64 k2
  simp at e0 e1 e2
  subst e0 e1 e2
  exact ⟨⟨z0, z1, z2⟩, ⟨b0, b1, b2⟩, rfl⟩
set_option maxRecDepth 100000 in
theorem one_deed {n : Nat} {cs : List Value} {x : DataW H × List MemPlace} (h : DataW.trod enc Try.prog W base sp held n 45 cs = some x) :
    ∃ e : Ev, EvOk e ∧ cs = [.int .u64 e.tick, .int .u64 e.key, .int .u64 e.weight] := by
  obtain ⟨xs, m, _, _, h1, h2, h3⟩ := DataW.trod_struct Try.underlying45 h
  clear h
  rw [c45] at h1
  have k0 : DataW.trod enc Try.prog W base sp held m 43 ((cs.drop 0).take (Try.prog.cellsOf 43)) = xs[0]? := h3 0 _ (by simp; rfl)
  have h2 : xs.length = 1 := by simpa using h2
  rw [List.getElem?_eq_getElem (by omega), c43, List.drop_zero, List.take_of_length_le (by omega)] at k0
  exact one_event k0
theorem slice_arg {t e : TypeId} {v : Value} {d : DataW H} {p : List MemPlace} (ht : Try.prog.underlying t = some (.slice e)) (hv : Value.okWide Try.prog W .any base t v) (h : DataW.Trod enc Try.prog W 0 (fun _ => true) true t v d p) :
    v = .slice none 0 0 ∨ ∃ b off len cap m, v = .slice (some ⟨b, off, none⟩) len cap ∧ len ≤ cap ∧ cap ≤ maxLen ∧
      ∀ i, i < len → ∃ cs y, W.cells? 0 ((⟨b, off, none⟩ : Addr).add (i * Try.prog.cellsOf e)) (Try.prog.cellsOf e) = some cs ∧ DataW.trod enc Try.prog W 0 (fun _ => true) true m e cs = some y := by
  obtain ⟨n, h⟩ := h
  simp only [Value.okWide, ht, Cell.okWide] at hv
  have hform : v = .slice none 0 0 ∨ ∃ a len cap, v = .slice (some a) len cap ∧ a.spot = none := by
    unfold Cell.ok at hv
    rw [ht] at hv
    split at hv <;> simp_all [World.has]
  rcases hform with rfl | ⟨⟨b, off, spot⟩, len, cap, rfl, hs⟩
  · exact .inl rfl
  · simp only at hs
    subst hs
    right
    rcases DataW.trod_slice ht h with ⟨h1, _⟩ | ⟨a, len', cap', elems, rest, m, _, h1, _, h2, h3, h4, h5, h6, _, _⟩
    · simp [Value.cells] at h1
    · simp [Value.cells] at h1
      obtain ⟨rfl, rfl, rfl⟩ := h1
      refine ⟨b, off, len, cap, m, rfl, h3, h4, fun i hi => ?_⟩
      have k := h6 i hi
      rw [List.getElem?_eq_getElem (by omega)] at k
      obtain ⟨cs', g1, g2⟩ := Option.bind_eq_some_iff.1 k
      exact ⟨cs', _, g1, g2⟩
theorem add_at (b off i j : Nat) (h : 0 < i + j ∨ i + j = 0) : ((⟨b, off, none⟩ : Addr).add i).add j = ⟨b, off + i + j, none⟩ := by
  unfold Addr.add
  by_cases h1 : i = 0
  · by_cases h2 : j = 0 <;> simp [h1, h2]
  · by_cases h2 : j = 0 <;> simp [h1, h2]
set_option maxRecDepth 100000 in
theorem deeds {v : Value} {d : DataW H} {p : List MemPlace} (hv : Value.okWide Try.prog W .any base 24 v) (h : DataW.Trod enc Try.prog W 0 (fun _ => true) true 24 v d p) :
    ∃ l : List Ev, (∀ e ∈ l, EvOk e) ∧ l.length ≤ maxLen ∧ RepC (okOld W) W IM.nil v (.x (encEvs l)) := by
  have hu : Try.prog.underlying 24 = some (.slice 45) := Try.underlying24
  rcases slice_arg hu hv h with rfl | ⟨b, off, len, cap, m, rfl, h3, h4, h5⟩
  · exact ⟨[], fun e he => (List.not_mem_nil he).elim, (show 0 ≤ maxLen from Nat.zero_le maxLen), .x (.nil _ _)⟩
  · rw [c45] at h5
    have key : ∀ i, ∃ e : Ev, i < len → EvOk e ∧ ∀ j, j < 3 → W.cell? ⟨b, off + i * 3 + j, none⟩ = [Value.int .u64 e.tick, .int .u64 e.key, .int .u64 e.weight][j]? := by
      intro i
      by_cases hi : i < len
      · obtain ⟨cs, y, g1, g2⟩ := h5 i hi
        obtain ⟨e, he, rfl⟩ := one_deed g2
        obtain ⟨_, _, g3⟩ := World.cells?_some g1
        refine ⟨e, fun _ => ⟨he, fun j hj => ?_⟩⟩
        have := g3 j hj
        rw [add_at _ _ _ _ (by omega)] at this
        exact this
      · exact ⟨⟨0, 0, 0⟩, fun h => absurd h hi⟩
    obtain ⟨f, hf⟩ := Classical.axiomOfChoice key
    refine ⟨(List.range len).map f, ?_, by rw [List.length_map, List.length_range]; exact Nat.le_trans h3 h4, ?_⟩
    · intro e he
      obtain ⟨i, hi, rfl⟩ := List.mem_map.1 he
      exact (hf i (by simpa using hi)).1
    · have hlen : ((List.range len).map f).length = len := by simp
      have hb : ∀ i, i < len → b < W.heap.size := by
        intro i hi
        have := (hf i hi).2 0 (by omega)
        unfold World.cell? at this
        split at this
        · rename_i hx; exact (Array.getElem?_eq_some_iff.1 hx).1
        · simp at this
      have := RepL.sl (ok := okOld W) (w := W) IM.nil false (((List.range len).map f).map encEv) b off cap 3
        (fun i j => [Value.int .u64 (f i).tick, .int .u64 (f i).key, .int .u64 (f i).weight].getD j (.bool false)) ?_ ?_ (by simp) ?_ ?_ ?_
      · simp only [List.length_map, List.length_range] at this
        exact .x this
      · intro hne
        have : 0 < len := by
          rcases Nat.eq_zero_or_pos len with h0 | h0
          · subst h0; simp at hne
          · exact h0
        exact hb 0 this
      · simpa using h3
      · intro r hr
        simp at hr
        obtain ⟨i, _, rfl⟩ := hr
        rfl
      · intro i j hi hj
        have hi : i < len := by simpa using hi
        rw [(hf i hi).2 j hj]
        rcases (by omega : j = 0 ∨ j = 1 ∨ j = 2) with rfl | rfl | rfl <;> rfl
      · intro i j r x hr hx
        have hi : i < len := by have := (List.getElem?_eq_some_iff.1 hr).1; simpa using this
        simp [hi] at hr
        subst hr
        rcases Nat.lt_or_ge j 3 with hj | hj
        · rcases (by omega : j = 0 ∨ j = 1 ∨ j = 2) with rfl | rfl | rfl <;> (simp [encEv] at hx; subst hx; exact .v _ _ rfl)
        · rw [List.getElem?_eq_none (by simp [encEv]; omega)] at hx
          cases hx
end
end Go.Proofs.Ytinkdjjffjnpeaa.countPlays
