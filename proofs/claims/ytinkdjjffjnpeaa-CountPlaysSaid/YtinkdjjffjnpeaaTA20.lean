import Derived.Test.YtinkdjjffjnpeaaTA19
namespace Go.Abs
set_option linter.unusedVariables false
open Go.RowKit

/-! ### stepping by rewriting: every continuation has a name -/
abbrev I (k : IntKind) (n : Int) : AV := .c (.x (.v (.int k n)))
abbrev Bo (b : Bool) : AV := .c (.x (.v (.bool b)))
abbrev Sl (clip : Bool) (rows : List (List AL)) : AV := .c (.x (.sl clip rows))
abbrev Ow (id off len : Nat) (clip : Bool) : AV := .c (.x (.ow id off len clip))
abbrev Pt (id row off : Nat) : AV := .c (.x (.pt id row off))
abbrev Fp (rows : List (List AL)) (row off : Nat) : AV := .c (.x (.fp rows row off))
abbrev kI (k : IntKind) (n : Int) : AOpd := .k (I k n)
abbrev kB (b : Bool) : AOpd := .k (Bo b)
abbrev kN : AOpd := .k (Sl true [])
abbrev kF (f : Nat) : AOpd := .k (.c (.x (.fn (.func f) [])))

def seqQ (P : Program) (N : Nat) (b : ACode) (Q : AOut → St → Prop) : AOut → St → Prop := fun o s1 => match o with | .normal => wpc P N b s1 Q | o => Q o s1
def blkQ (id : Nat) (Q : AOut → St → Prop) : AOut → St → Prop := fun o s1 => match o with | .exit id' => if id' = id then Q .normal s1 else Q (.exit id') s1 | o => Q o s1
def scpQ (Q : AOut → St → Prop) : AOut → St → Prop := fun o s1 => match o with | .goto _ => False | o => Q o s1

section
variable {P : Program} {N : Nat} {Q : AOut → St → Prop} {s : St} {a b : ACode} {T : St → Prop}
@[simp] theorem wpc_skip : wpc P N .skip s Q = Q .normal s := (rfl)
@[simp] theorem wpc_ret : wpc P N .ret s Q = Q .ret s := (rfl)
@[simp] theorem wpc_exit {i : Nat} : wpc P N (.exit i) s Q = Q (.exit i) s := (rfl)
@[simp] theorem wpc_goto {i : Nat} : wpc P N (.goto i) s Q = Q (.goto i) s := (rfl)
@[simp] theorem wpc_region {ops : List AOper} : wpc P N (.region ops) s Q = wpo P ops s (Q .normal) := (rfl)
@[simp] theorem wpc_drawn {ds : List DI} : wpc P N (.drawn ds) s Q = wpe P ds [] [] s (Q .normal) := (rfl)
@[simp] theorem wpc_seq : wpc P N (.seq a b) s Q = wpc P N a s (seqQ P N b Q) := (rfl)
@[simp] theorem wpc_block {id : Nat} : wpc P N (.block id a) s Q = wpc P N a s (blkQ id Q) := (rfl)
@[simp] theorem wpc_scope : wpc P N (.scope a) s Q = wpc P N a s (scpQ Q) := (rfl)
@[simp] theorem seqQ_normal : seqQ P N b Q .normal s = wpc P N b s Q := (rfl)
@[simp] theorem seqQ_ret : seqQ P N b Q .ret s = Q .ret s := (rfl)
@[simp] theorem seqQ_exit {i : Nat} : seqQ P N b Q (.exit i) s = Q (.exit i) s := (rfl)
@[simp] theorem seqQ_goto {i : Nat} : seqQ P N b Q (.goto i) s = Q (.goto i) s := (rfl)
@[simp] theorem blkQ_normal {id : Nat} : blkQ id Q .normal s = Q .normal s := (rfl)
@[simp] theorem blkQ_ret {id : Nat} : blkQ id Q .ret s = Q .ret s := (rfl)
@[simp] theorem blkQ_exit {id i : Nat} : blkQ id Q (.exit i) s = if i = id then Q .normal s else Q (.exit i) s := (rfl)
@[simp] theorem blkQ_goto {id i : Nat} : blkQ id Q (.goto i) s = Q (.goto i) s := (rfl)
@[simp] theorem scpQ_normal : scpQ Q .normal s = Q .normal s := (rfl)
@[simp] theorem scpQ_ret : scpQ Q .ret s = Q .ret s := (rfl)
@[simp] theorem scpQ_exit {i : Nat} : scpQ Q (.exit i) s = Q (.exit i) s := (rfl)

def condA (c : AV) (A B : Prop) : Prop := match c with | .c (.x (.v (.bool t))) => (t = true → A) ∧ (t = false → B) | _ => False
@[simp] theorem wpc_cond {c : AOpd} : wpc P N (.cond c a b) s Q = condA (c.ev s.tm) (wpc P N a s Q) (wpc P N b s Q) := (rfl)
@[simp] theorem condA_bool {t : Bool} {A B : Prop} : condA (Bo t) A B = ((t = true → A) ∧ (t = false → B)) := (rfl)

@[simp] theorem wpo_nil : wpo P [] s T = T s := (rfl)

/-- what follows an operation -/
def opK (P : Program) (d : Option Nat) (r : List AOper) (T : St → Prop) (df : List ADef) (tm : Nat → AV) : KT := fun v H nx => wpo P r ⟨dset tm d v, H, nx, df⟩ T
def atK (K : KT) (H : HP) (nx : Nat) : AV → Prop := fun v => K v H nx
variable {tm : Nat → AV} {H : HP} {nx : Nat} {df : List ADef} {d : Option Nat} {r : List AOper} {K : KT}
@[simp] theorem opK_app {v : AV} : opK P d r T df tm v H nx = wpo P r ⟨dset tm d v, H, nx, df⟩ T := (rfl)
@[simp] theorem atK_app {v : AV} : atK K H nx v = K v H nx := (rfl)
@[simp] theorem wpo_op {ao : AOp} : wpo P (⟨d, .op ao, none⟩ :: r) ⟨tm, H, nx, df⟩ T = aop ao tm H nx (opK P d r T df tm) := by
  simp only [wpo, stp, runO, St.put']
  cases d <;> rfl
@[simp] theorem wpo_call {f : AOpd} {args : List AOpd} : wpo P (⟨d, .call f args, none⟩ :: r) ⟨tm, H, nx, df⟩ T = callA P (f.ev tm) (args.map (·.ev tm)) H nx (opK P d r T df tm) := by
  simp only [wpo, stp, runO, St.put']
  cases d <;> rfl
@[simp] theorem dset_some {i : Nat} {v : AV} : dset tm (some i) v = tset tm i v := (rfl)
@[simp] theorem dset_none {v : AV} : dset tm none v = tm := (rfl)
@[simp] theorem ev_t {n : Nat} : AOpd.ev tm (.t n) = tm n := (rfl)
@[simp] theorem ev_k {v : AV} : AOpd.ev tm (.k v) = v := (rfl)

@[simp] theorem a_mv {x : AOpd} : aop (.mv x) tm H nx K = K (x.ev tm) H nx := (rfl)
@[simp] theorem a_bin {op : BinOp} {x y : AOpd} : aop (.bin op x y) tm H nx K = binA op (x.ev tm) (y.ev tm) (atK K H nx) := (rfl)
@[simp] theorem a_un {op : UnOp} {x : AOpd} : aop (.un op x) tm H nx K = unA op (x.ev tm) (atK K H nx) := (rfl)

def pickK (c a b : AV) (K : AV → Prop) : Prop := match c with | .c (.x (.v (.bool t))) => K (pickA t a b) | _ => False
@[simp] theorem a_pick {x y z : AOpd} : aop (.pick x y z) tm H nx K = pickK (x.ev tm) (y.ev tm) (z.ev tm) (atK K H nx) := (rfl)
@[simp] theorem pickK_bool {t x y : Bool} {F : AV → Prop} : pickK (Bo t) (Bo x) (Bo y) F = F (Bo (cond t x y)) := (rfl)

@[simp] theorem pickK_true {x y : AV} {F : AV → Prop} : pickK (Bo true) x y F = F x := by
  simp only [pickK, pickA]
  split <;> first | rfl | simp
@[simp] theorem pickK_false {x y : AV} {F : AV → Prop} : pickK (Bo false) x y F = F y := by
  simp only [pickK, pickA]
  split <;> first | rfl | simp
@[simp] theorem a_alloc {z : List AL} : aop (.alloc z) tm H nx K = K (Pt nx 0 0) (hset H nx (.blk z.length [z] true (z.all AL.pure))) (nx + 1) := (rfl)
def boxK (x : AV) (H : HP) (nx : Nat) (K : KT) : Prop := match x with | .c c => K (Pt nx 0 0) (hset H nx (.blk c.cells.length [c.cells] true (c.cells.all AL.pure))) (nx + 1) | _ => False
@[simp] theorem a_box {x : AOpd} : aop (.box x) tm H nx K = boxK (x.ev tm) H nx K := (rfl)
@[simp] theorem boxK_c {c : AC} : boxK (.c c) H nx K = K (Pt nx 0 0) (hset H nx (.blk c.cells.length [c.cells] true (c.cells.all AL.pure))) (nx + 1) := (rfl)
@[simp] theorem cells_x {l : AL} : AC.cells (.x l) = [l] := (rfl)
@[simp] theorem cells_agg {l : List AL} : AC.cells (.agg l) = l := (rfl)

def optK {α : Type} (o : Option α) (F : α → Prop) : Prop := match o with | some x => F x | none => False
@[simp] theorem optK_some {α : Type} {x : α} {F : α → Prop} : optK (some x) F = F x := (rfl)
def aggK (K : KT) (H : HP) (nx : Nat) (xs : List AL) : Prop := K (.c (.agg xs)) H nx
@[simp] theorem aggK_app {xs : List AL} : aggK K H nx xs = K (.c (.agg xs)) H nx := (rfl)
@[simp] theorem a_build {z : List AL} {parts : List (Nat × Nat × AOpd)} : aop (.build z parts) tm H nx K = optK (fillA z (parts.map fun (o, n, x) => (o, n, x.ev tm))) (aggK K H nx) := by
  simp only [aop, optK]; split <;> simp [*, aggK]
def rowsK (fz : Bool) (sz len : Nat) (K : KT) (H : HP) (nx : Nat) (rows : List (List AL)) : Prop :=
  match fz with
  | true => (rows.all fun r => r.all AL.pure) = true ∧ K (Sl false rows) H nx
  | false => K (Ow nx 0 len false) (hset H nx (.blk sz rows true (rows.all fun r => r.all AL.pure))) (nx + 1)
@[simp] theorem rowsK_true {sz len : Nat} {rows : List (List AL)} : rowsK true sz len K H nx rows = ((rows.all fun r => r.all AL.pure) = true ∧ K (Sl false rows) H nx) := (rfl)
@[simp] theorem rowsK_false {sz len : Nat} {rows : List (List AL)} : rowsK false sz len K H nx rows = K (Ow nx 0 len false) (hset H nx (.blk sz rows true (rows.all fun r => r.all AL.pure))) (nx + 1) := (rfl)
@[simp] theorem a_bslice {fz : Bool} {sz len : Nat} {z : List AL} {parts : List (Nat × AOpd)} : aop (.bslice fz sz len z parts) tm H nx K = optK (fillR sz (List.replicate len z) (parts.map fun (i, x) => (i, x.ev tm))) (rowsK fz sz len K H nx) := by
  simp only [aop, optK]
  split <;> simp [*, rowsK]
  cases fz <;> simp

def outK (agg : Bool) (K : AV → Prop) (xs : List AL) : Prop := outF agg xs K
@[simp] theorem outK_agg {xs : List AL} {F : AV → Prop} : outK true F xs = F (.c (.agg xs)) := (rfl)
@[simp] theorem outK_one {x : AL} {F : AV → Prop} : outK false F [x] = F (.c (.x x)) := (rfl)
def ldK (x : AV) (H : HP) (sz : Nat) (F : List AL → Prop) : Prop := match x with | .c (.x l) => optK (ldA H l sz) F | _ => False
@[simp] theorem a_load {agg : Bool} {sz : Nat} {x : AOpd} : aop (.load agg sz x) tm H nx K = ldK (x.ev tm) H sz (outK agg (atK K H nx)) := by
  simp only [aop, ldK, optK, outK]
  generalize x.ev tm = v
  rcases v with _ | c | _ <;> try rfl
  rcases c with l | _ <;> try rfl
  simp only
  cases ldA H l sz <;> rfl
@[simp] theorem ldK_x {l : AL} {sz : Nat} {F : List AL → Prop} : ldK (.c (.x l)) H sz F = optK (ldA H l sz) F := (rfl)

def putK (H : HP) (nx id row off sz z : Nat) (rows : List (List AL)) (cells : List AL) (pu : Bool) (K : KT) (r : List AL) : Prop :=
  cells.length = sz ∧ off + cells.length ≤ r.length ∧ K (.tup []) (hset H id (.blk z (rows.set row (spl r off cells)) true (pu && cells.all AL.pure))) nx
@[simp] theorem putK_app {id row off sz z : Nat} {rows : List (List AL)} {cells : List AL} {pu : Bool} {r : List AL} : putK H nx id row off sz z rows cells pu K r =
  (cells.length = sz ∧ off + cells.length ≤ r.length ∧ K (.tup []) (hset H id (.blk z (rows.set row (spl r off cells)) true (pu && cells.all AL.pure))) nx) := (rfl)
def stK (H : HP) (nx : Nat) (id row off sz : Nat) (cells : List AL) (K : KT) : HO → Prop
  | .blk z rows true pu => optK rows[row]? (putK H nx id row off sz z rows cells pu K)
  | _ => False
def storeK (sz : Nat) (x y : AV) (H : HP) (nx : Nat) (K : KT) : Prop :=
  match x, y with
  | .c (.x (.pt id row off)), .c c => stK H nx id row off sz c.cells K (H id)
  | _, _ => False
@[simp] theorem a_store {sz : Nat} {x y : AOpd} : aop (.store sz x y) tm H nx K = storeK sz (x.ev tm) (y.ev tm) H nx K := by
  simp only [aop, storeK, stK, optK]
  generalize x.ev tm = v
  generalize y.ev tm = u
  rcases v with _ | c | _ <;> try rfl
  rcases c with l | _ <;> try rfl
  cases l <;> try rfl
  rename_i id row off
  rcases u with _ | c | _ <;> try rfl
  simp only
  cases H id <;> try rfl
  rename_i z rows mt pu
  cases mt <;> try rfl
  simp only
  cases rows[row]? <;> rfl
@[simp] theorem storeK_pt {sz id row off : Nat} {c : AC} : storeK sz (Pt id row off) (.c c) H nx K = stK H nx id row off sz c.cells K (H id) := (rfl)
@[simp] theorem stK_blk {id row off sz z : Nat} {cells : List AL} {rows : List (List AL)} {pu : Bool} : stK H nx id row off sz cells K (.blk z rows true pu) = optK rows[row]? (putK H nx id row off sz z rows cells pu K) := (rfl)

def nilK (x : AV) (K : AV → Prop) : Prop := match x with | .c (.x (.pt id row off)) => K (Pt id row off) | .c (.x (.fp rows row off)) => K (Fp rows row off) | _ => False
@[simp] theorem a_nilck {x : AOpd} : aop (.nilck x) tm H nx K = nilK (x.ev tm) (atK K H nx) := (rfl)
@[simp] theorem nilK_pt {id row off : Nat} {F : AV → Prop} : nilK (Pt id row off) F = F (Pt id row off) := (rfl)
@[simp] theorem nilK_fp {rows : List (List AL)} {row off : Nat} {F : AV → Prop} : nilK (Fp rows row off) F = F (Fp rows row off) := (rfl)

def convK (k : IntKind) (x : AV) (K : AV → Prop) : Prop := match x with | .c (.x (.v (.int _ n))) => K (I k (k.wrap n)) | _ => False
@[simp] theorem a_conv {k : IntKind} {x : AOpd} : aop (.conv k x) tm H nx K = convK k (x.ev tm) (atK K H nx) := (rfl)
@[simp] theorem convK_int {k k' : IntKind} {n : Int} {F : AV → Prop} : convK k (I k' n) F = F (I k (k.wrap n)) := (rfl)

def fnK (f : Fn) (K : AV → Prop) (xs : List AL) : Prop := K (.c (.x (.fn f xs)))
@[simp] theorem fnK_app {f : Fn} {F : AV → Prop} {xs : List AL} : fnK f F xs = F (.c (.x (.fn f xs))) := (rfl)
@[simp] theorem a_mkfn {f : Fn} {caps : List AOpd} : aop (.mkfn f caps) tm H nx K = optK (leafs (caps.map (·.ev tm))) (fnK f (atK K H nx)) := by
  simp only [aop, optK, fnK]
  cases leafs (caps.map (·.ev tm)) <;> rfl
def cpK (x : AV) (F : AV → Prop) : Prop := match x with | .c (.x (.sl true rows)) => F (I .i64 rows.length) | _ => False
@[simp] theorem a_cp {x : AOpd} : aop (.cp x) tm H nx K = cpK (x.ev tm) (atK K H nx) := (rfl)
@[simp] theorem cpK_sl {rows : List (List AL)} {F : AV → Prop} : cpK (Sl true rows) F = F (I .i64 rows.length) := (rfl)
def nilB (b : Bool) (x : AV) (F : AV → Prop) : Prop := match x with
  | .c (.x (.sl _ rows)) => (rows = [] → F (Bo b)) ∧ F (Bo (!b))
  | .c (.x (.ow _ _ len _)) => (len = 0 → F (Bo b)) ∧ F (Bo (!b))
  | _ => False
@[simp] theorem a_isnil {b : Bool} {x : AOpd} : aop (.isnil b x) tm H nx K = nilB b (x.ev tm) (atK K H nx) := (rfl)
@[simp] theorem nilB_sl {b clip : Bool} {rows : List (List AL)} {F : AV → Prop} : nilB b (Sl clip rows) F = ((rows = [] → F (Bo b)) ∧ F (Bo (!b))) := (rfl)
@[simp] theorem nilB_ow {b clip : Bool} {id off len : Nat} {F : AV → Prop} : nilB b (Ow id off len clip) F = ((len = 0 → F (Bo b)) ∧ F (Bo (!b))) := (rfl)
def eqvK (neg : Bool) (K : AV → Prop) (b : Bool) : Prop := K (Bo (b != neg))
@[simp] theorem eqvK_app {neg b : Bool} {F : AV → Prop} : eqvK neg F b = F (Bo (b != neg)) := (rfl)
def eqvF (neg : Bool) (ks : List (Option IntKind)) (x y : AV) (F : AV → Prop) : Prop := match x, y with | .c (.agg a), .c (.agg b) => eqA ks a b true (eqvK neg F) | _, _ => False
@[simp] theorem a_eqv {neg : Bool} {ks : List (Option IntKind)} {x y : AOpd} : aop (.eqv neg ks x y) tm H nx K = eqvF neg ks (x.ev tm) (y.ev tm) (atK K H nx) := (rfl)
@[simp] theorem eqvF_agg {neg : Bool} {ks : List (Option IntKind)} {a b : List AL} {F : AV → Prop} : eqvF neg ks (.c (.agg a)) (.c (.agg b)) F = eqA ks a b true (eqvK neg F) := (rfl)
@[simp] theorem eqA_nil {acc : Bool} {F : Bool → Prop} : eqA [] [] [] acc F = F acc := (rfl)
@[simp] theorem eqA_bool {ks : List (Option IntKind)} {a b : Bool} {xs ys : List AL} {acc : Bool} {F : Bool → Prop} : eqA (none :: ks) (.v (.bool a) :: xs) (.v (.bool b) :: ys) acc F = eqA ks xs ys (acc && (a == b)) F := (rfl)
@[simp] theorem eqA_int {ks : List (Option IntKind)} {q q1 q2 : IntKind} {a b : Int} {xs ys : List AL} {acc : Bool} {F : Bool → Prop} : eqA (some q :: ks) (.v (.int q1 a) :: xs) (.v (.int q2 b) :: ys) acc F = (q1 = q ∧ q2 = q ∧ (Lit.int q a).wf = true ∧ (Lit.int q b).wf = true ∧ eqA ks xs ys (acc && decide (a = b)) F) := (rfl)
def eqbF (neg : Bool) (x y : AV) (F : AV → Prop) : Prop := match x, y with | .c (.x (.v (.bool a))), .c (.x (.v (.bool b))) => F (Bo ((a == b) != neg)) | _, _ => False
@[simp] theorem a_eqb {neg : Bool} {x y : AOpd} : aop (.eqb neg x y) tm H nx K = eqbF neg (x.ev tm) (y.ev tm) (atK K H nx) := (rfl)
@[simp] theorem eqbF_bool {neg a b : Bool} {F : AV → Prop} : eqbF neg (Bo a) (Bo b) F = F (Bo ((a == b) != neg)) := (rfl)
def bmF (f : Fn) (x : AV) (F : AV → Prop) : Prop := match x with | .c (.agg xs) => F (.c (.x (.bm f xs))) | _ => False
@[simp] theorem a_mkbm {f : Fn} {x : AOpd} : aop (.mkbm f x) tm H nx K = bmF f (x.ev tm) (atK K H nx) := (rfl)
@[simp] theorem bmF_agg {f : Fn} {xs : List AL} {F : AV → Prop} : bmF f (.c (.agg xs)) F = F (.c (.x (.bm f xs))) := (rfl)
def apzK (sz bytes : Nat) (z : List AL) (x n : AV) (H : HP) (nx : Nat) (K : KT) : Prop := match x, n with
    | .c (.x (.sl true [])), .c (.x (.v (.int .i64 n))) => 0 ≤ n ∧ n * bytes ≤ 140737488355328 ∧ n ≤ 4611686018427387904 ∧
        K (.c (.x (.ow nx 0 n.toNat false))) (hset H nx (.blk sz (List.replicate n.toNat z) true (z.all AL.pure))) (nx + 1)
    | _, _ => False
@[simp] theorem a_appz {sz bytes : Nat} {z : List AL} {x n : AOpd} : aop (.appz sz bytes z x n) tm H nx K = apzK sz bytes z (x.ev tm) (n.ev tm) H nx K := (rfl)
@[simp] theorem apzK_nil {sz bytes : Nat} {z : List AL} {n : Int} : apzK sz bytes z (Sl true []) (I .i64 n) H nx K = (0 ≤ n ∧ n * bytes ≤ 140737488355328 ∧ n ≤ 4611686018427387904 ∧
        K (.c (.x (.ow nx 0 n.toNat false))) (hset H nx (.blk sz (List.replicate n.toNat z) true (z.all AL.pure))) (nx + 1)) := (rfl)
@[simp] theorem a_no : aop .no tm H nx K = False := (rfl)
@[simp] theorem a_slc {sz : Nat} {x : AOpd} {lo hi mx : Option AOpd} : aop (.slc sz x lo hi mx) tm H nx K = slcA sz (x.ev tm) H tm lo hi mx (atK K H nx) := (rfl)
@[simp] theorem a_fadr {off : Nat} {x : AOpd} : aop (.fadr off x) tm H nx K = fadrF off (x.ev tm) (atK K H nx) := (rfl)
@[simp] theorem fadr_pt {off id row o : Nat} {F : AV → Prop} : fadrF off (Pt id row o) F = F (Pt id row (o + off)) := (rfl)
@[simp] theorem fadr_fp {off row o : Nat} {rows : List (List AL)} {F : AV → Prop} : fadrF off (Fp rows row o) F = F (Fp rows row (o + off)) := (rfl)
@[simp] theorem a_iadr {sz : Nat} {x i : AOpd} : aop (.iadr sz x i) tm H nx K = iadrF sz H (x.ev tm) (i.ev tm) (atK K H nx) := (rfl)
@[simp] theorem iadr_sl {sz : Nat} {clip : Bool} {rows : List (List AL)} {k : IntKind} {i : Int} {F : AV → Prop} : iadrF sz H (Sl clip rows) (I k i) F = (0 ≤ i ∧ i.toNat < rows.length ∧ (∀ r ∈ rows, r.length = sz) ∧ F (Fp rows i.toNat 0)) := (rfl)
def blkZ (H : HP) (id sz : Nat) : Prop := match H id with | .blk z _ _ _ => z = sz | _ => False
theorem blkZ_blk {id sz z : Nat} {rows : List (List AL)} {mt pu : Bool} (h : H id = .blk z rows mt pu) : blkZ H id sz = (z = sz) := by simp [blkZ, h]
@[simp] theorem iadr_ow {sz id off len : Nat} {clip : Bool} {k : IntKind} {i : Int} {F : AV → Prop} : iadrF sz H (Ow id off len clip) (I k i) F = (0 ≤ i ∧ i.toNat < len ∧ blkZ H id sz ∧ F (Pt id (off + i.toNat) 0)) := (rfl)
@[simp] theorem a_iadrA {n sz : Nat} {x i : AOpd} : aop (.iadrA n sz x i) tm H nx K = iadrAF n sz (x.ev tm) (i.ev tm) (atK K H nx) := (rfl)
@[simp] theorem iadrA_pt {n sz id row off : Nat} {k : IntKind} {i : Int} {F : AV → Prop} : iadrAF n sz (Pt id row off) (I k i) F = (0 ≤ i ∧ i.toNat < n ∧ F (Pt id row (off + i.toNat * sz))) := (rfl)
@[simp] theorem iadrA_fp {n sz row off : Nat} {rows : List (List AL)} {k : IntKind} {i : Int} {F : AV → Prop} : iadrAF n sz (Fp rows row off) (I k i) F = (0 ≤ i ∧ i.toNat < n ∧ F (Fp rows row (off + i.toNat * sz))) := (rfl)

def idxK (n sz : Nat) (agg : Bool) (x i : AV) (F : AV → Prop) : Prop := match x, i with
  | .c (.agg cs), .c (.x (.v (.int _ i))) => 0 ≤ i ∧ i.toNat < n ∧ optK (rowA cs (i.toNat * sz) sz) (outK agg F)
  | _, _ => False
@[simp] theorem a_idxA {n sz : Nat} {agg : Bool} {x i : AOpd} : aop (.idxA n sz agg x i) tm H nx K = idxK n sz agg (x.ev tm) (i.ev tm) (atK K H nx) := by
  simp only [aop, idxK, optK, outK]
  generalize x.ev tm = v
  generalize i.ev tm = u
  rcases v with _ | c | _ <;> try rfl
  rcases c with l | cs <;> try rfl
  rcases u with _ | c | _ <;> try rfl
  rcases c with l | _ <;> try rfl
  cases l <;> try rfl
  rename_i x; cases x <;> try rfl
  simp only
  rename_i k i
  cases rowA cs (i.toNat * sz) sz <;> rfl
@[simp] theorem idxK_agg {n sz : Nat} {agg : Bool} {cs : List AL} {k : IntKind} {i : Int} {F : AV → Prop} : idxK n sz agg (.c (.agg cs)) (I k i) F = (0 ≤ i ∧ i.toNat < n ∧ optK (rowA cs (i.toNat * sz) sz) (outK agg F)) := (rfl)
def fldK (off sz : Nat) (x : AV) (F : List AL → Prop) : Prop := match x with | .c (.agg cs) => optK (rowA cs off sz) F | _ => False
@[simp] theorem a_fld {off sz : Nat} {agg : Bool} {x : AOpd} : aop (.fld off sz agg x) tm H nx K = fldK off sz (x.ev tm) (outK agg (atK K H nx)) := by
  simp only [aop, fldK, optK, outK]
  generalize x.ev tm = v
  rcases v with _ | c | _ <;> try rfl
  rcases c with l | cs <;> try rfl
  simp only
  cases rowA cs off sz <;> rfl
@[simp] theorem fldK_agg {off sz : Nat} {cs : List AL} {F : List AL → Prop} : fldK off sz (.c (.agg cs)) F = optK (rowA cs off sz) F := (rfl)
def cK (F : AV → Prop) (c : AC) : Prop := F (.c c)
@[simp] theorem cK_app {F : AV → Prop} {c : AC} : cK F c = F (.c c) := (rfl)
def extK (x : AV) (i : Nat) (F : AC → Prop) : Prop := match x with | .tup xs => optK xs[i]? F | _ => False
@[simp] theorem a_ext {i : Nat} {x : AOpd} : aop (.ext x i) tm H nx K = extK (x.ev tm) i (cK (atK K H nx)) := by
  simp only [aop, extK, optK, cK]
  generalize x.ev tm = v
  rcases v with _ | c | xs <;> try rfl
  simp only
  cases xs[i]? <;> rfl
@[simp] theorem extK_tup {i : Nat} {xs : List AC} {F : AC → Prop} : extK (.tup xs) i F = optK xs[i]? F := (rfl)

def lenK (x : AV) (F : AV → Prop) : Prop := match x with | .c (.x (.sl _ rows)) => F (I .i64 rows.length) | .c (.x (.ow _ _ len _)) => F (I .i64 len) | _ => False
@[simp] theorem a_len {x : AOpd} : aop (.len x) tm H nx K = lenK (x.ev tm) (atK K H nx) := (rfl)
@[simp] theorem lenK_sl {clip : Bool} {rows : List (List AL)} {F : AV → Prop} : lenK (Sl clip rows) F = F (I .i64 rows.length) := (rfl)
@[simp] theorem lenK_ow {id off len : Nat} {clip : Bool} {F : AV → Prop} : lenK (Ow id off len clip) F = F (I .i64 len) := (rfl)
def mxK (l : List AV) (F : AV → Prop) : Prop := match l with | [] => False | x :: r => optK (maxA x r) F
def mnK (l : List AV) (F : AV → Prop) : Prop := match l with | [] => False | x :: r => optK (minA x r) F
@[simp] theorem a_mx {l : List AOpd} : aop (.mx l) tm H nx K = mxK (l.map (·.ev tm)) (atK K H nx) := by
  simp only [aop, mxK, optK]
  cases l.map (·.ev tm) <;> try rfl
  rename_i x r
  simp only
  cases maxA x r <;> rfl
@[simp] theorem a_mn {l : List AOpd} : aop (.mn l) tm H nx K = mnK (l.map (·.ev tm)) (atK K H nx) := by
  simp only [aop, mnK, optK]
  cases l.map (·.ev tm) <;> try rfl
  rename_i x r
  simp only
  cases minA x r <;> rfl
@[simp] theorem mxK_cons {x : AV} {l : List AV} {F : AV → Prop} : mxK (x :: l) F = optK (maxA x l) F := (rfl)
@[simp] theorem mnK_cons {x : AV} {l : List AV} {F : AV → Prop} : mnK (x :: l) F = optK (minA x l) F := (rfl)

def mkslK (sz bytes : Nat) (z : List AL) (l c : AV) (H : HP) (nx : Nat) (K : KT) : Prop := match l, c with
    | .c (.x (.v (.int .i64 l))), .c (.x (.v (.int .i64 c))) => l = c ∧ 0 ≤ l ∧ l * bytes ≤ 140737488355328 ∧ l ≤ 4611686018427387904 ∧
        K (Ow nx 0 l.toNat false) (hset H nx (.blk sz (List.replicate l.toNat z) true (z.all AL.pure))) (nx + 1)
    | _, _ => False
@[simp] theorem a_mksl {sz bytes : Nat} {z : List AL} {x y : AOpd} : aop (.mksl sz bytes z x y) tm H nx K = mkslK sz bytes z (x.ev tm) (y.ev tm) H nx K := (rfl)
@[simp] theorem mkslK_int {sz bytes : Nat} {z : List AL} {l c : Int} : mkslK sz bytes z (I .i64 l) (I .i64 c) H nx K = (l = c ∧ 0 ≤ l ∧ l * bytes ≤ 140737488355328 ∧ l ≤ 4611686018427387904 ∧
        K (Ow nx 0 l.toNat false) (hset H nx (.blk sz (List.replicate l.toNat z) true (z.all AL.pure))) (nx + 1)) := (rfl)

/-! appending -/
def appNK (sz bytes : Nat) (H : HP) (nx : Nat) (K : KT) (s : List (List AL) × Bool) : Prop :=
  (∀ r ∈ s.1, r.length = sz) ∧ s.1.length * bytes ≤ 140737488355328 ∧ s.1.length ≤ 4611686018427387904 ∧ K (Ow nx 0 s.1.length false) (hset H nx (.blk sz s.1 true s.2)) (nx + 1)
@[simp] theorem appNK_app {sz bytes : Nat} {rows : List (List AL)} {p : Bool} : appNK sz bytes H nx K (rows, p) =
  ((∀ r ∈ rows, r.length = sz) ∧ rows.length * bytes ≤ 140737488355328 ∧ rows.length ≤ 4611686018427387904 ∧ K (Ow nx 0 rows.length false) (hset H nx (.blk sz rows true p)) (nx + 1)) := (rfl)
def appOK (sz bytes : Nat) (H : HP) (nx : Nat) (K : KT) (id off len : Nat) (o : HO) (s : List (List AL) × Bool) : Prop := match o with
  | .blk z rows true p => z = sz ∧ off + len ≤ rows.length ∧ (∀ r ∈ s.1, r.length = sz) ∧ (len + s.1.length) * bytes ≤ 140737488355328 ∧ len + s.1.length ≤ 4611686018427387904 ∧
          K (Ow nx 0 (len + s.1.length) false) (hset (hset H id .none) nx (.blk sz ((rows.drop off).take len ++ s.1) true (p && s.2))) (nx + 1)
  | _ => False
@[simp] theorem appOK_blk {sz bytes id off len z : Nat} {rows srows : List (List AL)} {p q : Bool} : appOK sz bytes H nx K id off len (.blk z rows true p) (srows, q) =
  (z = sz ∧ off + len ≤ rows.length ∧ (∀ r ∈ srows, r.length = sz) ∧ (len + srows.length) * bytes ≤ 140737488355328 ∧ len + srows.length ≤ 4611686018427387904 ∧
          K (Ow nx 0 (len + srows.length) false) (hset (hset H id .none) nx (.blk sz ((rows.drop off).take len ++ srows) true (p && q))) (nx + 1)) := (rfl)
def appK (sz bytes : Nat) (x y : AV) (H : HP) (nx : Nat) (K : KT) : Prop := match x, y with
    | .c (.x (.sl true [])), .c (.x y) => optK (srcA H y) (appNK sz bytes H nx K)
    | .c (.x (.ow id off len _)), .c (.x y) => optK (srcA H y) (appOK sz bytes H nx K id off len (H id))
    | _, _ => False
@[simp] theorem a_app {sz bytes : Nat} {x y : AOpd} : aop (.app sz bytes x y) tm H nx K = appK sz bytes (x.ev tm) (y.ev tm) H nx K := by
  simp only [aop, appK, optK]
  generalize x.ev tm = v
  generalize y.ev tm = u
  rcases v with _ | c | _ <;> try rfl
  rcases c with l | _ <;> try rfl
  rcases u with _ | c | _ <;> try (cases l <;> rfl)
  · cases l <;> try rfl
    rename_i clip rows
    cases clip <;> cases rows <;> rfl
  · rcases c with y | _
    · cases l <;> try rfl
      · rename_i clip rows
        cases clip <;> cases rows <;> try rfl
        simp only
        cases srcA H y <;> rfl
      · rename_i id off len clip
        simp only
        cases hH : H id with
        | blk z rows mt p => cases mt <;> cases srcA H y <;> rfl
        | _ => cases srcA H y <;> rfl
    · cases l <;> try rfl
      rename_i clip rows
      cases clip <;> cases rows <;> rfl
  · cases l <;> try rfl
    rename_i clip rows
    cases clip <;> cases rows <;> rfl
@[simp] theorem appK_nil {sz bytes : Nat} {y : AL} : appK sz bytes (Sl true []) (.c (.x y)) H nx K = optK (srcA H y) (appNK sz bytes H nx K) := (rfl)
@[simp] theorem appK_ow {sz bytes id off len : Nat} {clip : Bool} {y : AL} : appK sz bytes (Ow id off len clip) (.c (.x y)) H nx K = optK (srcA H y) (appOK sz bytes H nx K id off len (H id)) := (rfl)

/-! whole numbers -/
variable {k : IntKind} {x y : Int} {F : AV → Prop}
@[simp] theorem b_add : binA .add (I k x) (I k y) F = F (I k (k.wrap (x + y))) := by simp [binA, binI]
@[simp] theorem b_sub : binA .sub (I k x) (I k y) F = F (I k (k.wrap (x - y))) := by simp [binA, binI]
@[simp] theorem b_mul : binA .mul (I k x) (I k y) F = F (I k (k.wrap (x * y))) := by simp [binA, binI]
@[simp] theorem b_eql : binA .eql (I k x) (I k y) F = F (Bo (x == y)) := by simp [binA, binI]
@[simp] theorem b_neq : binA .neq (I k x) (I k y) F = F (Bo (x != y)) := by simp [binA, binI]
@[simp] theorem b_lss : binA .lss (I k x) (I k y) F = F (Bo (decide (x < y))) := by simp [binA, binI]
@[simp] theorem b_leq : binA .leq (I k x) (I k y) F = F (Bo (decide (x ≤ y))) := by simp [binA, binI]
@[simp] theorem b_gtr : binA .gtr (I k x) (I k y) F = F (Bo (decide (y < x))) := by simp [binA, binI]
@[simp] theorem b_geq : binA .geq (I k x) (I k y) F = F (Bo (decide (y ≤ x))) := by simp [binA, binI]
@[simp] theorem b_quo : binA .quo (I k x) (I k y) F = (y ≠ 0 ∧ F (I k (k.wrap (x.tdiv y)))) := by simp [binA]
@[simp] theorem b_rem : binA .rem (I k x) (I k y) F = (y ≠ 0 ∧ F (I k (x.tmod y))) := by simp [binA]
@[simp] theorem b_shl {k' : IntKind} : binA .shl (I k x) (I k' y) F = (0 ≤ y ∧ F (I k (k.wrap (x * 2 ^ (min y.toNat k.bits))))) := (rfl)
@[simp] theorem b_shr {k' : IntKind} : binA .shr (I k x) (I k' y) F = (0 ≤ y ∧ F (I k (x.fdiv (2 ^ (min y.toNat k.bits))))) := (rfl)
@[simp] theorem b_and : binA .and (I k x) (I k y) F = F (I k (wrapBits k (· &&& ·) x y)) := by simp [binA]
@[simp] theorem b_or : binA .or (I k x) (I k y) F = F (I k (wrapBits k (· ||| ·) x y)) := by simp [binA]
@[simp] theorem b_xor : binA .xor (I k x) (I k y) F = F (I k (wrapBits k (· ^^^ ·) x y)) := by simp [binA]
@[simp] theorem u_neg : unA .neg (I k x) F = F (I k (k.wrap (0 - x))) := (rfl)
@[simp] theorem u_not {b : Bool} : unA .not (Bo b) F = F (Bo (!b)) := (rfl)

/-! slices -/
def bndK (v : AV) (F : Nat → Prop) : Prop := match v with | .c (.x (.v (.int _ i))) => 0 ≤ i ∧ F i.toNat | _ => False
@[simp] theorem bndK_int {F : Nat → Prop} : bndK (I k x) F = (0 ≤ x ∧ F x.toNat) := (rfl)
@[simp] theorem bnd_none {n : Nat} {F : Nat → Prop} : bnd tm none n F = F n := (rfl)
@[simp] theorem bnd_some {n : Nat} {o : AOpd} {F : Nat → Prop} : bnd tm (some o) n F = bndK (o.ev tm) F := (rfl)
def sF (sz : Nat) (clip : Bool) (rows : List (List AL)) (mxs : Bool) (F : AV → Prop) (l h m : Nat) : Prop :=
  (∀ r ∈ rows, r.length = sz) ∧ l ≤ h ∧ h ≤ m ∧ m ≤ rows.length ∧ F (Sl (if mxs = true then decide (m = h) else (clip && decide (h = rows.length))) ((rows.drop l).take (h - l)))
def sM (sz : Nat) (clip : Bool) (rows : List (List AL)) (tm : Nat → AV) (mx : Option AOpd) (F : AV → Prop) (l h : Nat) : Prop := bnd tm mx h (sF sz clip rows mx.isSome F l h)
def sH (sz : Nat) (clip : Bool) (rows : List (List AL)) (tm : Nat → AV) (hi mx : Option AOpd) (F : AV → Prop) (l : Nat) : Prop := bnd tm hi rows.length (sM sz clip rows tm mx F l)
variable {sz : Nat} {clip : Bool} {rows : List (List AL)} {lo hi mx : Option AOpd} {l h m : Nat} {mxs : Bool}
@[simp] theorem sF_app : sF sz clip rows mxs F l h m = ((∀ r ∈ rows, r.length = sz) ∧ l ≤ h ∧ h ≤ m ∧ m ≤ rows.length ∧ F (Sl (if mxs = true then decide (m = h) else (clip && decide (h = rows.length))) ((rows.drop l).take (h - l)))) := (rfl)
@[simp] theorem sM_app : sM sz clip rows tm mx F l h = bnd tm mx h (sF sz clip rows mx.isSome F l h) := (rfl)
@[simp] theorem sH_app : sH sz clip rows tm hi mx F l = bnd tm hi rows.length (sM sz clip rows tm mx F l) := (rfl)
@[simp] theorem slc_sl : slcA sz (Sl clip rows) H tm lo hi mx F = bnd tm lo 0 (sH sz clip rows tm hi mx F) := (rfl)
def oF (sz : Nat) (H : HP) (id off len : Nat) (clip mxs : Bool) (F : AV → Prop) (l h m : Nat) : Prop :=
  l ≤ h ∧ h ≤ m ∧ m ≤ len ∧ blkZ H id sz ∧ F (Ow id (off + l) (h - l) (if mxs = true then decide (m = h) else (clip && decide (h = len))))
def oM (sz : Nat) (H : HP) (id off len : Nat) (clip : Bool) (tm : Nat → AV) (mx : Option AOpd) (F : AV → Prop) (l h : Nat) : Prop := bnd tm mx h (oF sz H id off len clip mx.isSome F l h)
def oH (sz : Nat) (H : HP) (id off len : Nat) (clip : Bool) (tm : Nat → AV) (hi mx : Option AOpd) (F : AV → Prop) (l : Nat) : Prop := bnd tm hi len (oM sz H id off len clip tm mx F l)
variable {id off len : Nat}
@[simp] theorem oF_app : oF sz H id off len clip mxs F l h m = (l ≤ h ∧ h ≤ m ∧ m ≤ len ∧ blkZ H id sz ∧ F (Ow id (off + l) (h - l) (if mxs = true then decide (m = h) else (clip && decide (h = len))))) := (rfl)
@[simp] theorem oM_app : oM sz H id off len clip tm mx F l h = bnd tm mx h (oF sz H id off len clip mx.isSome F l h) := (rfl)
@[simp] theorem oH_app : oH sz H id off len clip tm hi mx F l = bnd tm hi len (oM sz H id off len clip tm mx F l) := (rfl)
@[simp] theorem slc_ow : slcA sz (Ow id off len clip) H tm lo hi mx F = bnd tm lo 0 (oH sz H id off len clip tm hi mx F) := (rfl)

/-! calls -/
def callF (P : Program) (f : AV) (H : HP) (nx : Nat) (K : KT) (cs : List AC) : Prop := match f with
  | .c (.x (.fn (.func g) caps)) => ACall P g (cs ++ caps.map .x) H nx K
  | .c (.x (.bm (.func g) pre)) => ACall P g (.agg pre :: cs) H nx K
  | .c (.x (.yl id)) => AYield P id cs H nx K
  | _ => False
@[simp] theorem callA_eq {f : AV} {args : List AV} : callA P f args H nx K = optK (comps args) (callF P f H nx K) := by
  simp only [callA, optK, callF]
  cases comps args <;> rfl
@[simp] theorem callF_fn {g : Nat} {caps : List AL} {cs : List AC} : callF P (.c (.x (.fn (.func g) caps))) H nx K cs = ACall P g (cs ++ caps.map .x) H nx K := (rfl)
@[simp] theorem callF_bm {g : Nat} {pre : List AL} {cs : List AC} : callF P (.c (.x (.bm (.func g) pre))) H nx K cs = ACall P g (.agg pre :: cs) H nx K := (rfl)
@[simp] theorem callF_yl {i : Nat} {cs : List AC} : callF P (.c (.x (.yl i))) H nx K cs = AYield P i cs H nx K := (rfl)

/-! guards -/
/-- a guarded operation: it waits till its guard is known -/
def gdO (P : Program) (v : AV) (o : AOper) (r : List AOper) (s : St) (T : St → Prop) : Prop := match o.gd with
  | none => False
  | some (_, b) => match v with
    | .c (.x (.v (.bool t))) => (t = b → wpo P (⟨o.dst, o.op, none⟩ :: r) s T) ∧ (t = !b → wpo P r ⟨dset s.tm o.dst (.tup []), s.hp, s.nx, s.df⟩ T)
    | .tup [] => wpo P r ⟨dset s.tm o.dst (.tup []), s.hp, s.nx, s.df⟩ T
    | _ => False
@[simp] theorem wpo_gd {o : AO} {g : Nat} {b : Bool} : wpo P (⟨d, o, some (g, b)⟩ :: r) s T = gdO P (s.tm g) ⟨d, o, some (g, b)⟩ r s T := by
  obtain ⟨tm, H, nx, df⟩ := s
  simp only [wpo, stp, gdO, St.put']
  cases tm g with
  | any => rfl
  | tup xs => cases xs <;> cases d <;> rfl
  | c c =>
    cases c with
    | agg xs => rfl
    | x l => cases l <;> try rfl
             rename_i x; cases x <;> try rfl
             cases d <;> rfl
@[simp] theorem gdO_run {b : Bool} {o : AO} {g : Nat} : gdO P (Bo b) ⟨d, o, some (g, b)⟩ r s T = wpo P (⟨d, o, none⟩ :: r) s T := by
  simp [gdO]
@[simp] theorem gdO_tf {o : AO} {g : Nat} : gdO P (Bo true) ⟨d, o, some (g, false)⟩ r s T = wpo P r ⟨dset s.tm d (.tup []), s.hp, s.nx, s.df⟩ T := by
  simp [gdO]
@[simp] theorem gdO_ft {o : AO} {g : Nat} : gdO P (Bo false) ⟨d, o, some (g, true)⟩ r s T = wpo P r ⟨dset s.tm d (.tup []), s.hp, s.nx, s.df⟩ T := by
  simp [gdO]
@[simp] theorem gdO_un {g : Nat} {b : Bool} {o' : AO} : gdO P (.tup []) ⟨d, o', some (g, b)⟩ r s T = wpo P r ⟨dset s.tm d (.tup []), s.hp, s.nx, s.df⟩ T := by
  simp [gdO]
theorem gdO_split {t : Bool} {o : AOper} (h1 : t = true → gdO P (Bo true) o r s T) (h2 : t = false → gdO P (Bo false) o r s T) : gdO P (Bo t) o r s T := by
  cases t
  · exact h2 rfl
  · exact h1 rfl

/-! the end of a body -/
@[simp] theorem bodyQ_normal {rs : List ARes} : bodyQ P rs K .normal s = leaveA P rs s.tm K s.df s.hp s.nx := (rfl)
@[simp] theorem bodyQ_ret {rs : List ARes} : bodyQ P rs K .ret s = leaveA P rs s.tm K s.df s.hp s.nx := (rfl)
def lvK (K : KT) (H : HP) (nx : Nat) (cs : List AC) : Prop := K (retV cs) H nx
@[simp] theorem lvK_app {cs : List AC} : lvK K H nx cs = K (retV cs) H nx := (rfl)
@[simp] theorem leaveA_nil {rs : List ARes} : leaveA P rs tm K [] H nx = optK (resVs tm H rs) (lvK K H nx) := by
  simp only [leaveA, optK, lvK]
  cases resVs tm H rs <;> rfl
@[simp] theorem retV_one {c : AC} : retV [c] = .c c := (rfl)
@[simp] theorem retV_two {c c' : AC} {cs : List AC} : retV (c :: c' :: cs) = .tup (c :: c' :: cs) := (rfl)
@[simp] theorem retV_nil : retV [] = .tup [] := (rfl)
@[simp] theorem tset_app {f : Nat → AV} {i j : Nat} {v : AV} : tset f i v j = if j = i then v else f j := (rfl)
@[simp] theorem hset_app {i j : Nat} {o : HO} : hset H i o j = if j = i then o else H j := (rfl)
@[simp] theorem ent_app {args : List AC} {t : Nat} : ent args t = entF 0 args (fun _ => .tup []) t := (rfl)

/-- a loop -/
theorem wpc_loop {β : Type} (L : β → St) (inv : β → Prop) (μ : β → Nat) (b0 : β) (h0 : inv b0) (h1 : SLe s (L b0))
    (h : ∀ b, inv b → wpc P N a (L b) fun o s1 => match o with | .normal => ∃ b', inv b' ∧ SLe s1 (L b') ∧ μ b' < μ b | o => ∃ s2, SLe s1 s2 ∧ Q o s2) : wpc P N (.loop a) s Q :=
  ⟨β, L, inv, μ, ⟨b0, h0, h1⟩, h⟩
/-- the same, and what lies behind the loop may be told less of -/
def lpW {β : Type} (L : β → St) (inv : β → Prop) (μ : β → Nat) (b : β) (Q : AOut → St → Prop) : AOut → St → Prop := fun o s1 => match o with | .normal => ∃ b', inv b' ∧ SLe s1 (L b') ∧ μ b' < μ b | o => ∃ s2, SLe s1 s2 ∧ Q o s2
theorem lpW_next {β : Type} {L : β → St} {inv : β → Prop} {μ : β → Nat} {b : β} (b' : β) (h1 : inv b') (h2 : SLe s (L b')) (h3 : μ b' < μ b) : lpW L inv μ b Q .normal s := ⟨b', h1, h2, h3⟩
@[simp] theorem lpW_ret {β : Type} {L : β → St} {inv : β → Prop} {μ : β → Nat} {b : β} : lpW L inv μ b Q .ret s = ∃ s2, SLe s s2 ∧ Q .ret s2 := (rfl)
@[simp] theorem lpW_exit {β : Type} {L : β → St} {inv : β → Prop} {μ : β → Nat} {b : β} {i : Nat} : lpW L inv μ b Q (.exit i) s = ∃ s2, SLe s s2 ∧ Q (.exit i) s2 := (rfl)
theorem wpc_loopW {β : Type} (L : β → St) (inv : β → Prop) (μ : β → Nat) (b0 : β) (h0 : inv b0) (h1 : SLe s (L b0))
    (h : ∀ b, inv b → wpc P N a (L b) (lpW L inv μ b Q)) : wpc P N (.loop a) s Q :=
  ⟨β, L, inv, μ, ⟨b0, h0, h1⟩, h⟩
def lpQ {β : Type} (L : β → St) (inv : β → Prop) (μ : β → Nat) (b : β) (Q : AOut → St → Prop) : AOut → St → Prop := fun o s1 => match o with | .normal => ∃ b', inv b' ∧ SLe s1 (L b') ∧ μ b' < μ b | o => Q o s1
theorem lpQ_next {β : Type} {L : β → St} {inv : β → Prop} {μ : β → Nat} {b : β} (b' : β) (h1 : inv b') (h2 : SLe s (L b')) (h3 : μ b' < μ b) : lpQ L inv μ b Q .normal s := ⟨b', h1, h2, h3⟩
@[simp] theorem lpQ_ret {β : Type} {L : β → St} {inv : β → Prop} {μ : β → Nat} {b : β} : lpQ L inv μ b Q .ret s = Q .ret s := (rfl)
@[simp] theorem lpQ_exit {β : Type} {L : β → St} {inv : β → Prop} {μ : β → Nat} {b : β} {i : Nat} : lpQ L inv μ b Q (.exit i) s = Q (.exit i) s := (rfl)
@[simp] theorem lpQ_goto {β : Type} {L : β → St} {inv : β → Prop} {μ : β → Nat} {b : β} {i : Nat} : lpQ L inv μ b Q (.goto i) s = Q (.goto i) s := (rfl)
theorem wpc_loop' {β : Type} (L : β → St) (inv : β → Prop) (μ : β → Nat) (b0 : β) (h0 : inv b0) (h1 : SLe s (L b0))
    (h : ∀ b, inv b → wpc P N a (L b) (lpQ L inv μ b Q)) : wpc P N (.loop a) s Q :=
  ⟨β, L, inv, μ, ⟨b0, h0, h1⟩, fun b hb => wpc_mono (fun o s1 g => by
    cases o with
    | normal => exact g
    | exit i => exact ⟨s1, SLe.refl _, g⟩
    | goto l => exact ⟨s1, SLe.refl _, g⟩
    | ret => exact ⟨s1, SLe.refl _, g⟩) (h b hb)⟩
theorem wpc_loop_le {s s' : St} (h : SLe s s') (hw : wpc P N (.loop a) s' Q) : wpc P N (.loop a) s Q := by
  obtain ⟨β, L, inv, μ, ⟨b0, h0, h1⟩, h2⟩ := hw
  exact ⟨β, L, inv, μ, ⟨b0, h0, h.trans h1⟩, h2⟩
/-- less is told behind a loop -/
theorem wpc_loop_out {Q' : AOut → St → Prop} (hw : wpc P N (.loop a) s Q') (h : ∀ o s1, Q' o s1 → ∃ s2, SLe s1 s2 ∧ Q o s2) : wpc P N (.loop a) s Q := by
  obtain ⟨β, L, inv, μ, h0, h2⟩ := hw
  refine ⟨β, L, inv, μ, h0, fun b hb => wpc_mono (fun o s1 g => ?_) (h2 b hb)⟩
  cases o with
  | normal => exact g
  | exit i => obtain ⟨s2, k1, k2⟩ := g; obtain ⟨s3, k3, k4⟩ := h _ _ k2; exact ⟨s3, k1.trans k3, k4⟩
  | goto l => obtain ⟨s2, k1, k2⟩ := g; obtain ⟨s3, k3, k4⟩ := h _ _ k2; exact ⟨s3, k1.trans k3, k4⟩
  | ret => obtain ⟨s2, k1, k2⟩ := g; obtain ⟨s3, k3, k4⟩ := h _ _ k2; exact ⟨s3, k1.trans k3, k4⟩

/-! states that are told by a list -/
def ofL : List (Nat × AV) → Nat → AV
  | [], _ => .any
  | p :: r, t => if t = p.1 then p.2 else ofL r t
@[simp] theorem ofL_nil {t : Nat} : ofL [] t = .any := (rfl)
@[simp] theorem ofL_cons {p : Nat × AV} {r : List (Nat × AV)} {t : Nat} : ofL (p :: r) t = if t = p.1 then p.2 else ofL r t := (rfl)
theorem ofL_mem : ∀ (kv : List (Nat × AV)) (t : Nat), ofL kv t = .any ∨ ∃ v, (t, v) ∈ kv ∧ ofL kv t = v
  | [], t => .inl rfl
  | p :: r, t => by
    simp only [ofL]
    by_cases e : t = p.1
    · rw [if_pos e]; exact .inr ⟨p.2, by subst e; simp, rfl⟩
    · rw [if_neg e]
      rcases ofL_mem r t with h | ⟨v, h1, h2⟩
      · exact .inl h
      · exact .inr ⟨v, by simp [h1], h2⟩
theorem SLe.ofL {s : St} {kv : List (Nat × AV)} {hp : HP} {nx : Nat} {df : List ADef} (ht : ∀ p ∈ kv, s.tm p.1 = p.2) (hh : ∀ id, hp id = s.hp id ∨ hp id = .none) (hn : s.nx ≤ nx) (hd : df = s.df) : SLe s ⟨ofL kv, hp, nx, df⟩ :=
  SLe.of (fun t => by
    rcases ofL_mem kv t with h | ⟨v, h1, h2⟩
    · exact .inl h
    · exact .inr (h2.trans (ht _ h1).symm)) hh hn hd
end

attribute [simp] entF resVs resV frzV frzC frzL thr wkV wkC wkL ldA rowA AL.pure fillA fillR spl comps leafs maxA minA finK_app

/-- the parts of ranges over functions -/
def rfs : Code → List (Code × Code)
  | .seq a b => rfs a ++ rfs b
  | .cond _ a b => rfs a ++ rfs b
  | .block _ a => rfs a
  | .loop a => rfs a
  | .scope a => rfs a
  | .rangeFunc _ _ a b => [(a, b)]
  | _ => []
end Go.Abs
