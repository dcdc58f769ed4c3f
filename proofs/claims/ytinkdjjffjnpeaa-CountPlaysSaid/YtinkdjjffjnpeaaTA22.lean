import Derived.Test.YtinkdjjffjnpeaaTA21
namespace Go.Abs
set_option linter.unusedVariables false
open Go.RowKit

/-! ### regions whose order is open, stepped by rewriting -/
section
variable {P : Program} {T : St → Prop} {tm : Nat → AV} {H : HP} {nx : Nat} {df : List ADef} {d : Option Nat} {r : List DI} {past : List (HP × Nat)} {F : List FL} {s : St} {lo hi : Nat}

@[simp] theorem wpe_nil : wpe P [] past F s T = T s := (rfl)
/-- behind a look -/
def dnK (P : Program) (o : AOper) (lo hi : Nat) (r : List DI) (past : List (HP × Nat)) (F : List FL) (tm : Nat → AV) (H : HP) (nx : Nat) (df : List ADef) (T : St → Prop) : KT := fun v H' nx' =>
  H' = H ∧ nx' = nx ∧ allPast P o tm v lo 0 past ∧ wpe P r past (if hi ≤ past.length then F else ⟨o, tm, v, hi⟩ :: F) ⟨dset tm o.dst v, H, nx, df⟩ T
@[simp] theorem dnK_app {o : AOper} {v : AV} {H' : HP} {nx' : Nat} : dnK P o lo hi r past F tm H nx df T v H' nx' =
  (H' = H ∧ nx' = nx ∧ allPast P o tm v lo 0 past ∧ wpe P r past (if hi ≤ past.length then F else ⟨o, tm, v, hi⟩ :: F) ⟨dset tm o.dst v, H, nx, df⟩ T) := (rfl)
/-- behind a call -/
def dcK (P : Program) (d : Option Nat) (r : List DI) (past : List (HP × Nat)) (F : List FL) (tm : Nat → AV) (H : HP) (nx : Nat) (df : List ADef) (T : St → Prop) : KT := fun v H' nx' =>
  H' = H ∧ nx' = nx ∧ wpe P r past F ⟨dset tm d v, H, nx, df⟩ T
@[simp] theorem dcK_app {v : AV} {H' : HP} {nx' : Nat} : dcK P d r past F tm H nx df T v H' nx' = (H' = H ∧ nx' = nx ∧ wpe P r past F ⟨dset tm d v, H, nx, df⟩ T) := (rfl)
/-- behind what writes -/
def deK (P : Program) (d : Option Nat) (r : List DI) (past : List (HP × Nat)) (F : List FL) (tm : Nat → AV) (H : HP) (nx : Nat) (df : List ADef) (T : St → Prop) : KT := fun v H' nx' =>
  allFL P (past.length + 1) H' nx' F ∧ wpe P r (past ++ [(H, nx)]) F ⟨dset tm d v, H', nx', df⟩ T
@[simp] theorem deK_app {v : AV} {H' : HP} {nx' : Nat} : deK P d r past F tm H nx df T v H' nx' = (allFL P (past.length + 1) H' nx' F ∧ wpe P r (past ++ [(H, nx)]) F ⟨dset tm d v, H', nx', df⟩ T) := (rfl)

@[simp] theorem wpe_n {ao : AOp} : wpe P (⟨⟨d, .op ao, none⟩, false, lo, hi⟩ :: r) past F ⟨tm, H, nx, df⟩ T = (ao.det = true ∧ aop ao tm H nx (dnK P ⟨d, .op ao, none⟩ lo hi r past F tm H nx df T)) := by
  simp [wpe, gdE, runX, AO.isCall]
  intro _; rfl
@[simp] theorem wpe_e {ao : AOp} : wpe P (⟨⟨d, .op ao, none⟩, true, lo, hi⟩ :: r) past F ⟨tm, H, nx, df⟩ T = (ao.det = true ∧ aop ao tm H nx (deK P d r past F tm H nx df T)) := (rfl)
@[simp] theorem wpe_nc {f : AOpd} {args : List AOpd} : wpe P (⟨⟨d, .call f args, none⟩, false, lo, hi⟩ :: r) past F ⟨tm, H, nx, df⟩ T = callX P false (f.ev tm) (args.map (·.ev tm)) H nx (dcK P d r past F tm H nx df T) := by
  simp only [wpe, gdE, runX, AO.isCall]
  simp only [true_or, if_true, true_and]
  rfl
@[simp] theorem wpe_ec {f : AOpd} {args : List AOpd} : wpe P (⟨⟨d, .call f args, none⟩, true, lo, hi⟩ :: r) past F ⟨tm, H, nx, df⟩ T = callX P true (f.ev tm) (args.map (·.ev tm)) H nx (deK P d r past F tm H nx df T) := (rfl)

def callXF (P : Program) (opn : Bool) (f : AV) (H : HP) (nx : Nat) (K : KT) (cs : List AC) : Prop := match f with
    | .c (.x (.fn (.func g) caps)) => match opn with
      | true => ∃ v H' nx', (∀ K' : KT, K' v H' nx' → ACall P g (cs ++ caps.map AC.x) H nx K') ∧ K v H' nx'
      | false => (cs ++ caps.map AC.x).all AC.plain = true ∧ ∃ v, Holds P g (cs ++ caps.map AC.x) (· = v) ∧ K v H nx
    | .c (.x (.bm (.func g) pre)) => match opn with
      | true => ∃ v H' nx', (∀ K' : KT, K' v H' nx' → ACall P g (.agg pre :: cs) H nx K') ∧ K v H' nx'
      | false => (AC.agg pre :: cs).all AC.plain = true ∧ ∃ v, Holds P g (.agg pre :: cs) (· = v) ∧ K v H nx
    | .c (.x (.yl id)) => opn = true ∧ ∃ v H' nx', (∀ K' : KT, K' v H' nx' → AYield P id cs H nx K') ∧ K v H' nx'
    | _ => False
variable {K : KT}
@[simp] theorem callX_eq {opn : Bool} {f : AV} {args : List AV} : callX P opn f args H nx K = optK (comps args) (callXF P opn f H nx K) := by
  simp only [callX, optK]
  cases comps args <;> try rfl
@[simp] theorem callXF_no {g : Nat} {caps : List AL} {cs : List AC} : callXF P false (.c (.x (.fn (.func g) caps))) H nx K cs = ((cs ++ caps.map AC.x).all AC.plain = true ∧ ∃ v, Holds P g (cs ++ caps.map AC.x) (· = v) ∧ K v H nx) := (rfl)
@[simp] theorem callXF_op {g : Nat} {caps : List AL} {cs : List AC} : callXF P true (.c (.x (.fn (.func g) caps))) H nx K cs = (∃ v H' nx', (∀ K' : KT, K' v H' nx' → ACall P g (cs ++ caps.map AC.x) H nx K') ∧ K v H' nx') := (rfl)
@[simp] theorem callXF_bno {g : Nat} {pre : List AL} {cs : List AC} : callXF P false (.c (.x (.bm (.func g) pre))) H nx K cs = ((AC.agg pre :: cs).all AC.plain = true ∧ ∃ v, Holds P g (.agg pre :: cs) (· = v) ∧ K v H nx) := (rfl)
@[simp] theorem callXF_bop {g : Nat} {pre : List AL} {cs : List AC} : callXF P true (.c (.x (.bm (.func g) pre))) H nx K cs = (∃ v H' nx', (∀ K' : KT, K' v H' nx' → ACall P g (.agg pre :: cs) H nx K') ∧ K v H' nx') := (rfl)
@[simp] theorem callXF_yl {i : Nat} {cs : List AC} : callXF P true (.c (.x (.yl i))) H nx K cs = (∃ v H' nx', (∀ K' : KT, K' v H' nx' → AYield P i cs H nx K') ∧ K v H' nx') := by simp [callXF]

def eqK (v : AV) (H : HP) (nx : Nat) : KT := fun v' H' nx' => v' = v ∧ H' = H ∧ nx' = nx
@[simp] theorem eqK_app {v v' : AV} {H' : HP} {nx' : Nat} : eqK v H nx v' H' nx' = (v' = v ∧ H' = H ∧ nx' = nx) := (rfl)
@[simp] theorem again_op {ao : AOp} {v : AV} : again P ⟨d, .op ao, none⟩ tm v H nx = (ao.det = true ∧ aop ao tm H nx (eqK v H nx)) := (rfl)
@[simp] theorem allFL_nil {k : Nat} : allFL P k H nx [] = True := (rfl)
@[simp] theorem allFL_cons {k : Nat} {f : FL} {l : List FL} : allFL P k H nx (f :: l) = ((k ≤ f.hi → again P f.o f.tm f.v H nx) ∧ allFL P k H nx l) := (rfl)
@[simp] theorem allPast_nil {o : AOper} {v : AV} {k : Nat} : allPast P o tm v lo k [] = True := (rfl)
@[simp] theorem allPast_cons {o : AOper} {v : AV} {k : Nat} {p : HP × Nat} {l : List (HP × Nat)} : allPast P o tm v lo k (p :: l) = ((lo ≤ k → again P o tm v p.1 p.2) ∧ allPast P o tm v lo (k + 1) l) := (rfl)

/-- guarded ones wait till their guard is known -/
def gdD (P : Program) (v : AV) (x : DI) (r : List DI) (past : List (HP × Nat)) (F : List FL) (s : St) (T : St → Prop) : Prop := match x.o.gd with
  | none => False
  | some (_, b) => match v with
    | .c (.x (.v (.bool t))) => (t = b → wpe P (⟨⟨x.o.dst, x.o.op, none⟩, x.eff, x.lo, x.hi⟩ :: r) past F s T) ∧ (t = !b → match x.eff with
       | true => allFL P (past.length + 1) s.hp s.nx F ∧ wpe P r (past ++ [(s.hp, s.nx)]) F ⟨dset s.tm x.o.dst (.tup []), s.hp, s.nx, s.df⟩ T
       | false => wpe P r past F ⟨dset s.tm x.o.dst (.tup []), s.hp, s.nx, s.df⟩ T)
    | .tup [] => match x.eff with
       | true => allFL P (past.length + 1) s.hp s.nx F ∧ wpe P r (past ++ [(s.hp, s.nx)]) F ⟨dset s.tm x.o.dst (.tup []), s.hp, s.nx, s.df⟩ T
       | false => wpe P r past F ⟨dset s.tm x.o.dst (.tup []), s.hp, s.nx, s.df⟩ T
    | _ => False
@[simp] theorem wpe_gd {o : AO} {eff : Bool} {g : Nat} {b : Bool} : wpe P (⟨⟨d, o, some (g, b)⟩, eff, lo, hi⟩ :: r) past F s T = gdD P (s.tm g) ⟨⟨d, o, some (g, b)⟩, eff, lo, hi⟩ r past F s T := by
  simp only [wpe, gdE, gdD]
  cases s.tm g with
  | any => rfl
  | tup l => cases l <;> rfl
  | c c =>
    cases c with
    | agg l => rfl
    | x l => cases l <;> try rfl
@[simp] theorem gdD_run {o : AO} {eff : Bool} {g : Nat} {b : Bool} : gdD P (Bo b) ⟨⟨d, o, some (g, b)⟩, eff, lo, hi⟩ r past F s T = wpe P (⟨⟨d, o, none⟩, eff, lo, hi⟩ :: r) past F s T := by
  simp [gdD]
@[simp] theorem gdD_tf {o : AO} {g : Nat} : gdD P (Bo true) ⟨⟨d, o, some (g, false)⟩, false, lo, hi⟩ r past F s T = wpe P r past F ⟨dset s.tm d (.tup []), s.hp, s.nx, s.df⟩ T := by
  simp [gdD]
@[simp] theorem gdD_ft {o : AO} {g : Nat} : gdD P (Bo false) ⟨⟨d, o, some (g, true)⟩, false, lo, hi⟩ r past F s T = wpe P r past F ⟨dset s.tm d (.tup []), s.hp, s.nx, s.df⟩ T := by
  simp [gdD]
@[simp] theorem gdD_un {o : AO} {g : Nat} {b : Bool} : gdD P (.tup []) ⟨⟨d, o, some (g, b)⟩, false, lo, hi⟩ r past F s T = wpe P r past F ⟨dset s.tm d (.tup []), s.hp, s.nx, s.df⟩ T := by
  simp [gdD]
theorem gdD_split {t : Bool} {x : DI} (h1 : t = true → gdD P (Bo true) x r past F s T) (h2 : t = false → gdD P (Bo false) x r past F s T) : gdD P (Bo t) x r past F s T := by
  cases t
  · exact h2 rfl
  · exact h1 rfl
end
attribute [simp] AOp.det AC.plain AL.plain AL.plain0
end Go.Abs
