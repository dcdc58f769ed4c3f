import Derived.ProofKit
import Derived.WalkKit
import Derived.OpenShut
import Derived.JoinedCond
import Derived.ReadAgain
import Derived.Test.YtinkdjjffjnpeaaTW24
namespace Go.Abs
set_option linter.unusedVariables false
open Go.ChangeShapes Go.WideShapes Go.ChangeAt Go.RowKit

/-- what a call leaves: all that was, as it was -/
structure Same (W W' : World) : Prop where
  os : W'.os = W.os
  output : W'.output = W.output
  size : W.heap.size ≤ W'.heap.size
  heap : ∀ k, k < W.heap.size → W'.heap[k]? = W.heap[k]?
def okOld (W : World) : Nat → Prop := fun k => k < W.heap.size
/-- a law's function that tells true -/
theorem Holds.calls {P : Program} {f : FuncId} {args : List AC} (h : Holds P f args (fun x => x = Bo true)) {W : World} {vs : List Value} (hv : RepCs (okOld W) W IM.nil vs args) :
    Calls P f vs.toArray W fun e W' => e = .returned (.bool true) ∧ Same W W' :=
  callsIn_wide.1 (CallsIn.mono (h.2 (okOld W) W vs (fun _ h => h) hv) fun e w' ⟨v, x, ok', h1, h2, h3, h4, h5, h6, h7, h8, h9, h10, h11⟩ => by
    subst h2
    refine ⟨?_, h3, h5, h6, h7⟩
    rw [h1]
    cases h11 with
    | c h => cases h with
      | x h => cases h with
        | v _ _ _ => rfl)
theorem Same.at {W W' : World} (h : Same W W') {p : MemPlace} (hp : p.block < W.heap.size) : W.sameAt W' p := by
  cases p with
  | cell b off =>
    have : W'.heap[b]? = W.heap[b]? := h.heap b hp
    simp only [World.sameAt, World.cell?, this]
  | map b => exact h.heap b hp
theorem trodAll_stays {H : Type} {enc : TypeId × Value → H} {P : Program} {W W' : World} {T : TypeId → Prop} {sp : Nat → Bool} (K : Kids P T) (hz : ∀ {t e : TypeId}, T t → P.underlying t = some (.slice e) → 0 < P.cellsOf e) :
    ∀ {ts : List TypeId} {vs : List Value} {ds : List (DataW H)} {ps : List MemPlace}, (∀ t ∈ ts, T t) → DataW.TrodAll enc P W 0 (fun _ => true) true ts vs ds ps → (∀ p ∈ ps, W.sameAt W' p) → (∀ p ∈ ps, sp p.block = true) →
      DataW.TrodAll enc P W' 0 sp true ts vs ds ps
  | [], [], [], _, _, h, _, _ => h
  | _ :: _, _ :: _, _ :: _, _, hT, ⟨p, q, ⟨n, h1⟩, h2, e⟩, hs, hsp => by
    subst e
    exact ⟨p, q, ⟨n, DataW.trod_stays K hz (fun h => by cases h) (hT _ (by simp)) h1 (fun x hx => hs x (List.mem_append_left _ hx)) (fun x hx => hsp x (List.mem_append_left _ hx))⟩,
      trodAll_stays K hz (fun t ht => hT t (by simp [ht])) h2 (fun x hx => hs x (List.mem_append_right _ hx)) (fun x hx => hsp x (List.mem_append_right _ hx)), rfl⟩
theorem Same.kept {W W' : World} (h : Same W W') (may : MemPlace → Prop) : W.keptBut W' may := by
  refine ⟨h.os, h.output, fun i hi => ?_⟩
  rw [h.heap i hi]
  cases hc : W.heap[i]? with
  | none => trivial
  | some o => cases o <;> simp
/-- a law's answer: true, and the arguments read as they did -/
theorem post_true {H : Type} {enc : TypeId × Value → H} {P : Program} {fn : Func} {s : ChangeSpec} {W W' : World} {args : Array Value} {ds gs : List (DataW H)} {before : List MemPlace} {T : TypeId → Prop} {apart fresh handsOn : Bool} {tb : TypeId}
    (K : Kids P T) (hz : ∀ {t e : TypeId}, T t → P.underlying t = some (.slice e) → 0 < P.cellsOf e) (hT : ∀ t ∈ fn.params.toList, T t)
    (hW : DataW.Whole enc P fn.params.toList s.vars apart W args.toList ds gs before) (hv : s.vars = []) (hr : fn.resultTypes = #[tb]) (hb : P.underlying tb = some .bool)
    (hfn : (s.fn H (ds ++ gs)).results = [.lit (.bool true)]) (hfa : (s.fn H (ds ++ gs)).args = ds) (hfv : (s.fn H (ds ++ gs)).vars = []) (hs : Same W W') :
    s.post enc P fn apart fresh handsOn false W args (.bool true) W' := by
  have hlt := hW.lt
  obtain ⟨p, q, hA, hV, e, hf, hn⟩ := hW
  have hW : DataW.Whole enc P fn.params.toList s.vars apart W args.toList ds gs before := ⟨p, q, hA, hV, e, hf, hn⟩
  refine ⟨ds, gs, before, [], p, [], hW, ?_, ?_, ?_, hs.kept _, fun h => by cases h⟩
  · rw [hfn, hr]
    exact ⟨[], [], ⟨1, by simp [DataW.trod, Value.cells, hb]⟩, rfl, rfl⟩
  · rw [hfa]
    refine trodAll_stays K hz hT hA (fun x hx => hs.at (hlt x (by rw [e]; exact List.mem_append_left _ hx))) fun x hx => by simpa using hlt x (by rw [e]; exact List.mem_append_left _ hx)
  · rw [hfv, hv]
    exact rfl
end Go.Abs
