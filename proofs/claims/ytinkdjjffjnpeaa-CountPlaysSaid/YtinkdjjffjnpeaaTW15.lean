import Derived.Test.YtinkdjjffjnpeaaTW14
namespace Go.Abs
open Go.Proofs
set_option linter.unusedSimpArgs false
set_option linter.unusedVariables false

theorem mxN (a b : Nat) : (if a < b then (b : Int) else (a : Int)) = (((max a b : Nat) : Nat) : Int) := by split <;> omega
def sumE (ls : List (List Ev)) (i : Nat) : Nat := (ls.take i).flatten.length
@[simp] theorem sumE_0 (ls : List (List Ev)) : sumE ls 0 = 0 := by simp [sumE]
theorem sumE_all (ls : List (List Ev)) : sumE ls ls.length = ls.flatten.length := by simp [sumE]
theorem mapid {α β} (f : α → β) (l : List α) : List.map ((fun r => r) ∘ f) l = List.map f l := rfl
theorem c_Max_u64 {H : HP} {nx id : Nat} {K : KT} {a b : Nat} (h : H id = .blk 1 [[u64 a], [u64 b]] true true) (hK : K (.c (.x (u64 (max a b)))) H nx) : ACall Try.prog F_slices_Max_s_uint64 [.x (.ow id 0 2 false)] H nx K := by
  apply ACall_body fn_slices_Max_s_uint64 (by simp)
  unfold ac_slices_Max_s_uint64
  simp [h]
  refine wpc_loop' (fun q : Nat => ⟨ofL [(0, Ow id 0 2 false), (3, .c (.x (u64 (if q = 1 then a else max a b)))), (4, I .i64 q)], H, nx, []⟩)
    (fun q => 1 ≤ q ∧ q ≤ 2) (fun q => 2 - q) 1 (by simp) (SLe.ofL (by simp) (fun id => .inl rfl) (by simp) rfl) fun q hq => ?_
  simp only [acl_slices_Max_s_uint64_0]
  rcases (by omega : q = 1 ∨ q = 2) with rfl | rfl
  · simp [h]
    exact lpQ_next 2 (by omega) (SLe.ofL (by simp [mxN]) (fun id => .inl rfl) (by simp) rfl) (by omega)
  · simp
    exact hK
theorem c_latest {H : HP} {nx id : Nat} {K : KT} {a b : Nat} (h : H id = .blk 1 [[u64 a], [u64 b]] true true) (hK : K (.c (.x (u64 (max a b)))) H nx) : ACall Try.prog F_buffer_latest [.x (.ow id 0 2 false)] H nx K := by
  apply ACall_body fn_buffer_latest (by simp)
  unfold ac_buffer_latest
  simp
  refine c_Max_u64 h ?_
  simp
  exact hK
theorem w_Clone_Ev (es : List Ev) (c : Bool) (hl : es.length * 24 ≤ 140737488355328) : Holds Try.prog F_slices_Clone_s_api_Event [.x (.sl c (es.map encEv))] (fun x => x = .c (.x (encEvs es))) := by
  apply Holds_fin fn_slices_Clone_s_api_Event (by simp) 1
  unfold ac_slices_Clone_s_api_Event
  simp [encEvs, mapid]
  omega
theorem c_Grow_Ev {H : HP} {nx : Nat} {K : KT} (n : Nat) (hl : n * 24 ≤ 140737488355328)
    (h0 : n = 0 → K (.c (.x (.sl true []))) H nx)
    (h1 : 0 < n → K (Ow nx 0 0 false) (hset H nx (.blk 3 (List.replicate n [u64 0, u64 0, u64 0]) true true)) (nx + 1)) : ACall Try.prog F_slices_Grow_s_api_Event [.x (.sl true []), .x (i64 n)] H nx K := by
  apply ACall_body fn_slices_Grow_s_api_Event (by simp)
  unfold ac_slices_Grow_s_api_Event
  simp
  have e : IntKind.i64.wrap (n : Int) = n := wI (by omega) (by omega)
  rw [e]
  refine ⟨fun h => ?_, fun h => h0 (by omega)⟩
  have := h1 (by omega)
  simp at this ⊢
  exact ⟨by omega, by omega, this⟩
def concR (ls : List (List Ev)) (n i : Nat) : List (List AL) := ((ls.take i).flatten.map encEv) ++ if i = 0 then List.replicate n [u64 0, u64 0, u64 0] else []
theorem sumE_le (ls : List (List Ev)) (i : Nat) : sumE ls i ≤ ls.flatten.length := by
  have : ls.flatten = (ls.take i).flatten ++ (ls.drop i).flatten := by rw [← List.flatten_append, List.take_append_drop]
  rw [this, sumE]; simp
theorem sumE_succ (ls : List (List Ev)) (i : Nat) (h : i < ls.length) : sumE ls (i + 1) = sumE ls i + ls[i].length := by
  simp only [sumE, List.take_add_one, List.getElem?_eq_getElem h, Option.toList, List.flatten_append, List.length_append]; simp
theorem concR_take (ls : List (List Ev)) (n i : Nat) : (concR ls n i).take (sumE ls i) = (ls.take i).flatten.map encEv := by
  rw [concR]; apply List.take_left'; simp [sumE, Function.comp_def]
theorem concR_len (ls : List (List Ev)) (n i : Nat) : sumE ls i ≤ (concR ls n i).length := by
  rw [concR]; simp [sumE, Function.comp_def]
theorem concR_succ (ls : List (List Ev)) (n i : Nat) (h : i < ls.length) : concR ls n (i + 1) = (concR ls n i).take (sumE ls i) ++ ls[i].map encEv := by
  rw [concR_take, concR, if_neg (by omega), List.append_nil, List.take_add_one, List.getElem?_eq_getElem h, Option.toList, List.flatten_append, List.map_append]; simp only [List.flatten_cons, List.flatten_nil, List.append_nil]
def concL (ls : List (List Ev)) (n : Nat) (q : Nat × Nat) : St := ⟨ofL [(0, .c (.x (.sl false (ls.map fun l => [encEvs l])))), (6, Ow q.2 0 (sumE ls q.1) false), (25, .c (.x (.sl false (ls.map fun l => [encEvs l])))), (26, I .i64 ls.length), (27, I .i64 q.1)], hset H0 q.2 (.blk 3 (concR ls n q.1) true true), q.2 + 1, []⟩
theorem concat_loop (ls : List (List Ev)) (n : Nat) (hl : ls.flatten.length * 24 ≤ 140737488355328) (hn : ls.length < 4611686018427387904) (hS : ls.flatten.length = n) {s : St} (hs : SLe s (concL ls n (0, 0))) {Q : AOut → St → Prop}
    (hQ : ∀ tm rs id, tm 6 = Ow id 0 n false → rs.take n = ls.flatten.map encEv → n ≤ rs.length → Q (.exit 2) ⟨tm, hset H0 id (.blk 3 rs true true), id + 1, []⟩) : wpc Try.prog 36 (.loop acl_slices_Concat_s_api_Event_1) s Q := by
  refine wpc_loop' (concL ls n) (fun q => q.1 ≤ ls.length) (fun q => ls.length - q.1) (0, 0) (by simp) hs fun q hi => ?_
  obtain ⟨i, id⟩ := q
  simp only at hi
  simp only [acl_slices_Concat_s_api_Event_1, concL]
  by_cases hlt : i < ls.length
  · have ew : IntKind.i64.wrap ((i : Int) + 1) = i + 1 := wI (by omega) (by omega)
    have h1 := sumE_succ ls i hlt
    have h2 := sumE_le ls (i + 1)
    have h3 := concR_len ls n i
    have h4 := concR_succ ls n i hlt
    simp [hlt, encEvs, ew]
    refine ⟨h3, by omega, by omega, lpQ_next (i + 1, id + 1) (by simp only; omega) (SLe.ofL (by simp [encEvs, h1]) (fun k => ?_) (by simp) rfl) (by simp only; omega)⟩
    simp [h4]
    grind [H0]
  · have : i = ls.length := by omega
    subst this
    simp [encEvs]
    refine hQ _ _ _ (by simp [sumE_all, hS]) ?_ ?_
    · have := concR_take ls n ls.length
      rw [sumE_all, hS] at this
      simpa using this
    · have := concR_len ls n ls.length
      rw [sumE_all, hS] at this
      exact this
theorem w_Concat_Ev (ls : List (List Ev)) (hl : ls.flatten.length * 24 ≤ 140737488355328) (hn : ls.length < 4611686018427387904) : Holds Try.prog F_slices_Concat_s_api_Event [.x (.sl false (ls.map fun l => [encEvs l]))] (fun x => x = .c (.x (encEvs ls.flatten))) := by
  apply Holds_fin fn_slices_Concat_s_api_Event (by simp) 1
  unfold ac_slices_Concat_s_api_Event
  simp
  have hpre : ∀ i, (ls.take i).flatten.length ≤ ls.flatten.length := fun i => by
    have : ls.flatten = (ls.take i).flatten ++ (ls.drop i).flatten := by rw [← List.flatten_append, List.take_append_drop]
    rw [this]; simp
  have hsn : ∀ i l, ls[i]? = some l → (ls.take (i + 1)).flatten = (ls.take i).flatten ++ l := fun i l h => by
    rw [List.take_add_one, h]; simp
  refine wpc_loop' (fun i : Nat => ⟨ofL [(0, .c (.x (.sl false (ls.map fun l => [encEvs l])))), (3, I .i64 (sumE ls i)), (9, .c (.x (.sl false (ls.map fun l => [encEvs l])))), (10, I .i64 ls.length), (11, I .i64 i)], H0, 0, []⟩)
    (fun i => i ≤ ls.length) (fun i => ls.length - i) 0 (by simp) (SLe.ofL (by simp) (fun id => .inl rfl) (by simp) rfl) fun i hi => ?_
  simp only [acl_slices_Concat_s_api_Event_0]
  by_cases hlt : i < ls.length
  · have h1 := hsn i ls[i] (by simp [hlt])
    have h2 := hpre (i + 1)
    have e : IntKind.i64.wrap ((ls.take i).flatten.length + ls[i].length : Int) = (ls.take (i + 1)).flatten.length := by
      rw [h1] at h2 ⊢
      simp only [List.length_append] at h2 ⊢
      rw [wI (by omega) (by omega)]
      simp
    have ew : IntKind.i64.wrap ((i : Int) + 1) = i + 1 := wI (by omega) (by omega)
    rw [show (ls.take i).flatten.length = sumE ls i from rfl, show (ls.take (i + 1)).flatten.length = sumE ls (i + 1) from rfl] at e
    rw [show (ls.take (i + 1)).flatten.length = sumE ls (i + 1) from rfl] at h2
    generalize hA : sumE ls i = A at e ⊢
    generalize hB : sumE ls (i + 1) = B at e h2
    have nb : ¬ ((B : Int) < 0) := by omega
    simp [hlt, encEvs] at e ⊢
    simp [e, nb, ew]
    exact lpQ_next (i + 1) (show i + 1 ≤ ls.length by omega) (SLe.ofL (by simp [hB, encEvs]) (fun id => .inl rfl) (by simp) rfl) (show ls.length - (i + 1) < ls.length - i by omega)
  · have : i = ls.length := by omega
    subst this
    have hS := sumE_all ls
    generalize hn' : sumE ls ls.length = n at hS ⊢
    simp
    refine c_Grow_Ev n (by omega) (fun h0 => ?_) (fun h0 => ?_)
    · simp
      generalize hQ : blkQ 2 _ = Q
      refine wpc_loop_le ((SLe.own 6 3 (by simp)).trans (SLe.ofL (kv := [(0, .c (.x (.sl false (ls.map fun l => [encEvs l])))), (6, Ow 0 0 0 false), (25, .c (.x (.sl false (ls.map fun l => [encEvs l])))), (26, I .i64 ls.length), (27, I .i64 0)]) (hp := hset H0 0 (.blk 3 [] true true)) (nx := 1) (df := []) (by simp) (fun id => .inl rfl) (by simp) rfl)) ?_
      refine concat_loop ls n hl hn hS.symm (SLe.ofL (by simp) (fun id => .inl (by simp [concR, h0])) (by simp) rfl) fun tm rs id h1 h2 h3 => ?_
      subst hQ
      simp [h1, h2, h3]
    · simp
      generalize hQ : blkQ 2 _ = Q
      refine concat_loop ls n hl hn hS.symm (SLe.ofL (by simp) (fun id => .inl (by simp [concR, h0])) (by simp) rfl) fun tm rs id h1 h2 h3 => ?_
      subst hQ
      simp [h1, h2, h3]
end Go.Abs
