import Derived.Test.YtinkdjjffjnpeaaTA16
namespace Go.Abs
set_option linter.unusedVariables false
open Go.RowKit

/-- what is to be known of a function's text -/
structure FnOk (P : Program) (f : FuncId) (n : Nat) (ac : ACode) (rs : List ARes) : Prop where
  out : ∃ on fn c, P.funcs[f]? = some fn ∧ fn.body = some c ∧ fn.ntmps = n ∧ compC P true n on c = some ac ∧ fn.results.toList.mapM (compR P) = some rs ∧ Enters P f

def bodyQ (P : Program) (rs : List ARes) (K : KT) : AOut → St → Prop
  | .normal, s => leaveA P rs s.tm K s.df s.hp s.nx
  | .ret, s => leaveA P rs s.tm K s.df s.hp s.nx
  | _, _ => False

def bodyQ0 (P : Program) (rs : List ARes) (K : KT) : AOut → St → Prop
  | .normal, s => s.df = [] ∧ leaveA P rs s.tm K [] s.hp s.nx
  | .ret, s => s.df = [] ∧ leaveA P rs s.tm K [] s.hp s.nx
  | _, _ => False

section
variable {ι ι' : IM} {ok ok' : Nat → Prop} {H H' : HP} {nx nx' : Nat} {w w' : World} {P : Program} {N : Nat × Nat} {s s' : St} {a a' : Act} {K : KT}

theorem entry_sat {vs : List Value} {args : List AC} (hs : HSat ι ok H nx w) (hv : RepCs ok w ι vs args) {n : Nat} (hlen : args.length ≤ n) :
    Sat (n, w.heap.size) ι ok ⟨ent args, H, nx, []⟩ { tmps := vs.toArray ++ Array.replicate (n - vs.toArray.size) undef, defers := [] } w :=
  ⟨hs, by have := hv.1; simp; omega, fun t => ent_rep hv n t, rfl, by simp, Nat.le_refl _, by simp⟩

theorem ACall_body {f : FuncId} {n : Nat} {ac : ACode} {rs : List ARes} (hf : FnOk P f n ac rs) {args : List AC} (hlen : args.length ≤ n)
    (h : wpc P n ac ⟨ent args, H, nx, []⟩ (bodyQ P rs K)) : ACall P f args H nx K := by
  obtain ⟨on, fn, c, h1, h2, h3, h4, h5, h6⟩ := hf.out
  subst h3
  refine ⟨h6, fun ι ok w vs hs hv => ?_⟩
  have hsat := entry_sat hs hv hlen
  have haw := wpc_sound (N := (fn.ntmps, w.heap.size)) h4 h none ι ok _ w (fun _ => rfl) hsat
  refine callsIn_of_wp_marks h1 h2 trivial (wpIn_mono haw fun e a' w' hp => ?_)
  obtain ⟨o, s', ι', ok', rfl, hq, g1, g2, g3⟩ := hp
  have fin : leaveA P rs s'.tm K s'.df s'.hp s'.nx → LeavesInM Fence.wide 0 P fn a'.tmps (CallPost ι ok H nx w K) a'.defers .returning w' := fun hl =>
    leave_sound (K := K) (w0 := w) h5 s'.df a'.defers s'.hp s'.nx ι' ok' w' g1.hs g2 g3 g1.tm g1.dl g1.df hl g1.mks
  cases o with
  | normal => exact fin hq
  | ret => exact fin hq
  | exit i => exact hq.elim
  | goto l => exact hq.elim

/-- a deferred call of a function that defers nothing -/
theorem ACallD_body {f : FuncId} {n : Nat} {ac : ACode} {rs : List ARes} (hf : FnOk P f n ac rs) {args : List AC} (hlen : args.length ≤ n)
    (h : wpc P n ac ⟨ent args, H, nx, []⟩ (bodyQ0 P rs K)) : ACallD P f args H nx K := by
  obtain ⟨on, fn, c, h1, h2, h3, h4, h5, h6⟩ := hf.out
  subst h3
  refine ⟨h6, fun ι ok w vs u hs hv => ?_⟩
  have hsat := entry_sat hs hv hlen
  have haw := wpc_sound (N := (fn.ntmps, w.heap.size)) h4 h none ι ok _ w (fun _ => rfl) hsat
  refine callsDIn_of_wp h1 h2 trivial (wpIn_mono haw fun e a' w' hp => ?_)
  obtain ⟨o, s', ι', ok', rfl, hq, g1, g2, g3⟩ := hp
  have fin : s'.df = [] ∧ leaveA P rs s'.tm K [] s'.hp s'.nx → a'.defers = [] ∧ ∃ v, (results fn a'.tmps).run P w' = .ok v w' ∧ CallPost ι ok H nx w K (.returned v) w' := fun ⟨hd, hl⟩ => by
    refine ⟨List.eq_nil_of_length_eq_zero (by rw [g1.dl, hd]; rfl), ?_⟩
    simp only [leaveA] at hl
    split at hl
    · rename_i cs hcs
      obtain ⟨v, hv, hvr⟩ := results_run g1.hs g1.tm h5 hcs
      exact ⟨v, hv, v, _, _, _, ι', ok', rfl, hl, g1.hs, g2, hvr, g3⟩
    · exact hl.elim
  cases o with
  | normal => exact fin hq
  | ret => exact fin hq
  | exit i => exact hq.elim
  | goto l => exact hq.elim

/-! ### rounds -/
def tsets (f : Nat → AV) : List Nat → List AC → (Nat → AV)
  | p :: ps, c :: cs => tsets (tset f p (.c c)) ps cs
  | _, _ => f

theorem foldl_sets {vs : List Value} {cs : List AC} (hv : RepCs ok w ι vs cs) : ∀ (ps : List Nat) (vs : List Value) (cs : List AC) (tmps : Array Value) (tm : Nat → AV), RepCs ok w ι vs cs → ps.length = cs.length → (∀ p ∈ ps, p < tmps.size) → (∀ t, RepV ok w ι (tmps.getD t undef) (tm t)) →
    ((ps.zip vs).foldl (fun t (x : Nat × Value) => t.setIfInBounds x.1 x.2) tmps).size = tmps.size ∧ ∀ t, RepV ok w ι (((ps.zip vs).foldl (fun t (x : Nat × Value) => t.setIfInBounds x.1 x.2) tmps).getD t undef) (tsets tm ps cs t)
  | [], vs, cs, tmps, tm, h, hl, hp, ht => by cases vs <;> cases cs <;> exact ⟨rfl, ht⟩
  | p :: ps, vs, cs, tmps, tm, h, hl, hp, ht => by
    cases cs with
    | nil => simp at hl
    | cons c cs =>
      cases vs with
      | nil => have := h.1; simp at this
      | cons v vs =>
        simp only [List.zip_cons_cons, List.foldl_cons, tsets]
        have hps : p < tmps.size := hp p (by simp)
        obtain ⟨g1, g2⟩ := foldl_sets hv ps vs cs (tmps.setIfInBounds p v) (tset tm p (.c c)) ⟨by have := h.1; simpa using this, fun i v' x h1 h2 => h.2 (i + 1) v' x (by simpa using h1) (by simpa using h2)⟩ (by simpa using hl) (by simpa using fun q hq => hp q (by simp [hq])) (fun t => by
          rw [getD_set _ _ _ _ _ hps]
          by_cases e : t = p
          · subst e; rw [if_pos rfl, tset_same]; exact .c (h.2 0 v c rfl rfl)
          · rw [if_neg e, tset_ne _ _ e]; exact ht t)
        exact ⟨by rw [g1]; simp, g2⟩

def yEnd (id : Nat) (K : KT) : AOut → St → Prop := fun o s2 =>
  match s2.hp id with
  | .loop tm N ps as bd .busy none => match o with
    | .normal => K (.c (.x (.v (.bool true)))) (hset s2.hp id (.loop tm N ps as bd .ready none)) s2.nx
    | .ret => K (.c (.x (.v (.bool false)))) (hset s2.hp id (.loop tm N ps as bd .done (some .ret))) s2.nx
    | .exit i => K (.c (.x (.v (.bool false)))) (hset s2.hp id (.loop tm N ps as bd .done (some (.exit i)))) s2.nx
    | .goto l => K (.c (.x (.v (.bool false)))) (hset s2.hp id (.loop tm N ps as bd .done (some (.goto l)))) s2.nx
  | _ => False

def yMid (P : Program) (id : Nat) (n : Nat) (bd : Code) (K : KT) : AOut → St → Prop := fun o s1 =>
  match o, s1.hp id with
  | .normal, .loop tm N ps as bd' .ready none => ∀ B, AW P (n, B) false bd ⟨s1.tm, hset s1.hp id (.loop tm N ps as bd' .busy none), s1.nx, s1.df⟩ (yEnd id K)
  | _, _ => False

theorem AYield_body {id : Nat} {tm : Nat → AV} {n : Nat} {ps : List Nat} {as bd : Code} {args : List AC} (hH : H id = .loop tm n ps as bd .ready none) (hl : ps.length = args.length) (hp : ∀ p ∈ ps, p < n)
    (h : ∀ B, AW P (n, B) false as ⟨tsets tm ps args, H, nx, []⟩ (yMid P id n bd K)) : AYield P id args H nx K := by
  intro ι ok w vs L b hs hv hL hb
  obtain ⟨L', hL', hc, b', r, hb', hnok, hr, k1, k2, k3, k4, k5, k6, k7⟩ := hs.loop id _ _ _ _ _ _ _ hH
  rw [hL] at hL'; injection hL' with e; subst e
  rw [hb] at hb'; injection hb' with e; subst e
  have hsz : vs.toArray.size = r.params.size := by
    have h1 := hv.1
    have h2 : r.params.toList.length = r.params.size := by simp
    rw [k3] at h2
    simp; omega
  have hy := run_yield (P := P) hr hsz
  refine ⟨_, _, _, _, hy, roundIn_of_wpIn trivial ?_⟩
  -- the temporaries
  have hf : (r.params.zip vs.toArray).foldl (fun tmps (t, a) => tmps.setIfInBounds t a) r.tmps = (ps.zip vs).foldl (fun t (x : Nat × Value) => t.setIfInBounds x.1 x.2) r.tmps := by
    rw [← Array.foldl_toList]
    have : (r.params.zip vs.toArray).toList = ps.zip vs := by rw [Array.toList_zip, k3]
    rw [this]
  obtain ⟨g1, g2⟩ := foldl_sets hv ps vs args r.tmps tm hv hl (fun p hp' => by rw [k1]; exact hp p hp') k2
  rw [hf, k4, k5]
  have hsat : Sat (n, w.heap.size) ι ok ⟨tsets tm ps args, H, nx, []⟩ { tmps := (ps.zip vs).foldl (fun t (x : Nat × Value) => t.setIfInBounds x.1 x.2) r.tmps, defers := [] } w :=
    ⟨hs, by rw [g1]; exact k1, g2, rfl, by simp, Nat.le_refl _, by simp⟩
  have h1 := h w.heap.size (some b) ι ok _ w (fun h => by cases h) hsat
  show Code.wpIn (Fw (some b)) 0 P as _ _ _
  refine wpIn_mono h1 fun e a1 w1 hp1 => ?_
  obtain ⟨o, s1, ι1, ok1, rfl, hq, m1, m2, m3⟩ := hp1
  unfold yMid at hq
  split at hq
  case h_2 => exact hq.elim
  rename_i tm' n' ps' as' bd' hH1
  have hL1 : ι1 id = some L := m2.im id L hL
  obtain ⟨L2, hL2, hc2, b2, r2, hb2, hnok2, hr2, q1, q2, q3, q4, q5, q6, q7⟩ := m1.hs.loop id _ _ _ _ _ _ _ hH1
  rw [hL1] at hL2; injection hL2 with e; subst e
  rw [hb] at hb2; injection hb2 with e; subst e
  have hbr := run_beginRound (P := P) hr2 q6
  refine ⟨_, hbr, ?_⟩
  obtain ⟨d1, d2⟩ := m1.hs.setLoop hH1 hL1 hb hr2 .busy none
  have hpe : ({ r2 with state := .busy } : Loop) = { r2 with state := .busy, pending := none } := by rw [← q7]
  rw [hpe]
  have hsat2 : Sat (n, w.heap.size) ι1 ok1 ⟨s1.tm, hset s1.hp id (.loop tm' n' ps' as' bd' .busy none), s1.nx, s1.df⟩ a1 (w1.putObj b (.loop { r2 with state := .busy, pending := none })) :=
    ⟨d1, m1.sz, fun t => d2.repV m1.hs (m1.tm t), m1.dl, fun i d x h1 h2 => (m1.df i d x h1 h2).ext m1.hs d2, Nat.le_trans m1.bs d2.size, m1.mks⟩
  have h2 := hq w.heap.size (some b) ι1 ok1 a1 _ (fun h => by cases h) hsat2
  show Code.wpIn (Fw (some b)) 0 P bd _ _ _
  refine wpIn_mono h2 fun e a2 w2 hp2 => ?_
  obtain ⟨o, s2, ι2, ok2, rfl, hq2, n1, n2, n3⟩ := hp2
  unfold yEnd at hq2
  split at hq2
  case h_2 => exact hq2.elim
  rename_i tm2 n2' ps2 as2 bd2 hH2
  have hL3 : ι2 id = some L := n2.im id L hL1
  obtain ⟨L4, hL4, hc4, b4, r4, hb4, hnok4, hr4, z1, z2, z3, z4, z5, z6, z7⟩ := n1.hs.loop id _ _ _ _ _ _ _ hH2
  rw [hL3] at hL4; injection hL4 with e; subst e
  rw [hb] at hb4; injection hb4 with e; subst e
  have fin : ∀ (jump : Option Code) (st : LoopState), st = (if jump.isNone then .ready else .done) → K (.c (.x (.v (.bool jump.isNone)))) (hset s2.hp id (.loop tm2 n2' ps2 as2 bd2 st jump)) s2.nx →
      ∃ v w', (Instr.endRound b jump).run P w2 = .ok v w' ∧ CallPost ι ok H nx w K (.returned v) w' := by
    rintro jump st rfl hK
    have hen := run_endRound (P := P) jump hr4
    obtain ⟨x1, x2⟩ := n1.hs.setLoop hH2 hL3 hb hr4 (if jump.isNone then .ready else .done) jump
    exact ⟨_, _, hen, _, _, _, _, ι2, ok2, rfl, hK, x1, ((m2.trans d2 m3).trans n2 m3).trans x2 (Nat.le_trans m3 n3), rep_bool _, Nat.le_trans m3 n3⟩
  cases o with
  | normal => exact fin none .ready rfl hq2
  | ret => exact fin (some .ret) .done rfl hq2
  | exit i => exact fin (some (.exit i)) .done rfl hq2
  | goto l => exact fin (some (.goto l)) .done rfl hq2
end
end Go.Abs
