import Derived.Test.YtinkdjjffjnpeaaTA23
namespace Go.Abs
set_option linter.unusedVariables false
open Go.RowKit

/-! ### ranges over functions, stepped by rewriting -/
section
variable {P : Program} {N : Nat} {Q : AOut → St → Prop} {s : St} {tm : Nat → AV} {H : HP} {nx : Nat} {df : List ADef} {K : KT}

def rfK (id : Nat) (tm : Nat → AV) (df : List ADef) (Q : AOut → St → Prop) : KT := fun _ H' nx' => rfEnd id tm df Q H' nx'
def rfF (P : Program) (N : Nat) (f : AV) (ps : List Nat) (as bd : Code) (s : St) (Q : AOut → St → Prop) : Prop := match f with
    | .c (.x (.fn (.func g) caps)) => ACall P g (.x (.yl s.nx) :: caps.map .x) (hset s.hp s.nx (.loop s.tm N ps as bd .ready none)) (s.nx + 1) (rfK s.nx s.tm s.df Q)
    | _ => False
@[simp] theorem wpc_rfunc {f : AOpd} {ps : List Nat} {as bd : Code} : wpc P N (.rfunc f ps as bd) s Q = rfF P N (f.ev s.tm) ps as bd s Q := (rfl)
@[simp] theorem rfF_fn {g : Nat} {caps : List AL} {ps : List Nat} {as bd : Code} : rfF P N (.c (.x (.fn (.func g) caps))) ps as bd ⟨tm, H, nx, df⟩ Q =
    ACall P g (.x (.yl nx) :: caps.map .x) (hset H nx (.loop tm N ps as bd .ready none)) (nx + 1) (rfK nx tm df Q) := (rfl)
theorem rfK_app {id : Nat} {v : AV} : rfK id tm df Q v H nx = rfEnd id tm df Q H nx := (rfl)
theorem rfEnd_ok {id : Nat} {tm' : Nat → AV} {N : Nat} {ps : List Nat} {as bd : Code} (h : H id = .loop tm' N ps as bd .ready none) (hq : Q .normal ⟨tm, hset H id .none, nx, .mark :: df⟩) : rfEnd id tm df Q H nx := by
  unfold rfEnd; rw [h]; exact ⟨by simp, hq⟩
theorem rfEnd_out {id : Nat} {tm' : Nat → AV} {N : Nat} {ps : List Nat} {as bd : Code} {o : AOut} (ho : o ≠ .normal) (h : H id = .loop tm' N ps as bd .done (some (match o with | .ret => .ret | .exit i => .exit i | .goto l => .goto l | .normal => .skip))) (hq : Q o ⟨tm, hset H id .none, nx, .mark :: df⟩) : rfEnd id tm df Q H nx := by
  unfold rfEnd; rw [h]
  refine ⟨by simp, ?_⟩
  cases o with
  | normal => exact absurd rfl ho
  | ret => exact hq
  | exit i => exact hq
  | goto l => exact hq

/-- behind the assignment of the loop's variables -/
def ymQ (P : Program) (N id : Nat) (tm : Nat → AV) (ps : List Nat) (as bd : Code) (ab : ACode) (K : KT) : AOut → St → Prop := fun o s1 => match o with
  | .normal => s1.hp id = .loop tm N ps as bd .ready none ∧ wpc P N ab ⟨s1.tm, hset s1.hp id (.loop tm N ps as bd .busy none), s1.nx, s1.df⟩ (yEnd id K)
  | _ => False
@[simp] theorem ymQ_normal {id : Nat} {tm' : Nat → AV} {ps : List Nat} {as bd : Code} {ab : ACode} : ymQ P N id tm' ps as bd ab K .normal ⟨tm, H, nx, df⟩ =
  (H id = .loop tm' N ps as bd .ready none ∧ wpc P N ab ⟨tm, hset H id (.loop tm' N ps as bd .busy none), nx, df⟩ (yEnd id K)) := (rfl)
/-- the end of a round -/
def yeK (o : AOut) (id : Nat) (K : KT) (H : HP) (nx : Nat) : HO → Prop
  | .loop tm N ps as bd .busy none => match o with
    | .normal => K (Bo true) (hset H id (.loop tm N ps as bd .ready none)) nx
    | .ret => K (Bo false) (hset H id (.loop tm N ps as bd .done (some .ret))) nx
    | .exit i => K (Bo false) (hset H id (.loop tm N ps as bd .done (some (.exit i)))) nx
    | .goto l => K (Bo false) (hset H id (.loop tm N ps as bd .done (some (.goto l)))) nx
  | _ => False
@[simp] theorem yEnd_app {o : AOut} {id : Nat} : yEnd id K o ⟨tm, H, nx, df⟩ = yeK o id K H nx (H id) := by
  rfl
@[simp] theorem yeK_normal {id : Nat} {tm' : Nat → AV} {ps : List Nat} {as bd : Code} : yeK .normal id K H nx (.loop tm' N ps as bd .busy none) = K (Bo true) (hset H id (.loop tm' N ps as bd .ready none)) nx := (rfl)
@[simp] theorem yeK_ret {id : Nat} {tm' : Nat → AV} {ps : List Nat} {as bd : Code} : yeK .ret id K H nx (.loop tm' N ps as bd .busy none) = K (Bo false) (hset H id (.loop tm' N ps as bd .done (some .ret))) nx := (rfl)
@[simp] theorem yeK_exit {id i : Nat} {tm' : Nat → AV} {ps : List Nat} {as bd : Code} : yeK (.exit i) id K H nx (.loop tm' N ps as bd .busy none) = K (Bo false) (hset H id (.loop tm' N ps as bd .done (some (.exit i)))) nx := (rfl)

theorem AYield_code {id : Nat} {ps : List Nat} {as bd : Code} {aa ab : ACode} {on on' : List Nat} {args : List AC} (ha : compC P false N on as = some aa) (hb : compC P false N on' bd = some ab)
    (hH : H id = .loop tm N ps as bd .ready none) (hl : ps.length = args.length) (hp : ∀ p ∈ ps, p < N)
    (h : wpc P N aa ⟨tsets tm ps args, H, nx, []⟩ (ymQ P N id tm ps as bd ab K)) : AYield P id args H nx K := by
  refine AYield_body hH hl hp fun B => ?_
  have h1 := wpc_sound (N := (N, B)) ha h
  intro r ι ok a w hr hs
  refine wpIn_mono (h1 r ι ok a w hr hs) ?_
  rintro e a' w' ⟨o, s1, ι', ok', rfl, hq, g1, g2, g3⟩
  refine ⟨o, s1, ι', ok', rfl, ?_, g1, g2, g3⟩
  unfold ymQ at hq
  unfold yMid
  cases o with
  | normal =>
    obtain ⟨q1, q2⟩ := hq
    simp only [q1]
    exact fun B' => wpc_sound (N := (N, B')) hb q2
  | ret => exact hq.elim
  | exit i => exact hq.elim
  | goto l => exact hq.elim
@[simp] theorem tsets_cons {f : Nat → AV} {p : Nat} {ps : List Nat} {c : AC} {cs : List AC} : tsets f (p :: ps) (c :: cs) = tsets (tset f p (.c c)) ps cs := (rfl)
@[simp] theorem tsets_nil {f : Nat → AV} : tsets f [] [] = f := (rfl)
@[simp] theorem leaveA_mark {rs : List ARes} {r : List ADef} : leaveA P rs tm K (.mark :: r) H nx = leaveA P rs tm K r H nx := (rfl)
def lvD (P : Program) (rs : List ARes) (tm : Nat → AV) (K : KT) (r : List ADef) : KT := fun _ H' nx' => leaveA P rs tm K r H' nx'
@[simp] theorem lvD_app {rs : List ARes} {r : List ADef} {v : AV} : lvD P rs tm K r v H nx = leaveA P rs tm K r H nx := (rfl)
@[simp] theorem leaveA_call {rs : List ARes} {r : List ADef} {f : FuncId} {args : List AC} : leaveA P rs tm K (.call f args :: r) H nx = ACallD P f args H nx (lvD P rs tm K r) := (rfl)
end
end Go.Abs
