/- The evaluator's rules for simp: each fires at a state that is written out, so none below a binder. -/
import Derived.Test.YtinjbaccnclhdaaV22
namespace Go.Vai
open Go.RowKit

section
variable {X : Ctx} {F : CallF} {n nx : Nat} {fr : Frm} {hp : Hp} {Q : Exit → St → Prop}

def after (n : Nat) (fr : Frm) (hp : Hp) (nx : Nat) (dst : Option Tmp) (K : St → Prop) : Outc → Prop
  | some (p, r, upd, _) => p ∧ putA ⟨n, fr, upd ++ hp, nx⟩ dst r K
  | none => False

def ret1 (n : Nat) (fr : Frm) (dst : Option Tmp) (K : St → Prop) (r : AV) (hp : Hp) (nx : Nat) : Prop := putA ⟨n, fr, hp, nx⟩ dst r K

def cv : Op → Option (Operand × Array Operand)
  | .call { callee := .value f, args := args, argTypes := _ } => some (f, args)
  | _ => none

def callV (F : CallF) (f : AV) (args : List AV) (n : Nat) (fr : Frm) (hp : Hp) (nx : Nat) (dst : Option Tmp) (K : St → Prop) : Prop :=
  match f with
  | .fn (.func g) first cap => F g (first ++ args ++ cap) hp nx (ret1 n fr dst K)
  | _ => False

def stepB (X : Ctx) (F : CallF) (c : Option (Operand × Array Operand)) (op : Op) (dst : Option Tmp) (me n : Nat) (fr : Frm) (hp : Hp) (nx : Nat) (K : St → Prop) : Prop :=
  match c with
  | some (f, args) => callV F (evo fr f) (args.toList.map (evo fr)) n fr hp nx dst K
  | none => after n fr hp nx dst K (aopR X.T op (evo fr) (hlk hp) me)

theorem r_step {o : Oper} {me : Nat} {K : St → Prop} : stepA X F o me ⟨n, fr, hp, nx⟩ K = stepB X F (cv o.op) o.op o.dst me n fr hp nx K := by
  unfold stepA
  split
  · rename_i f args ts ho
    rw [ho]
    dsimp only [stepB, cv, callV]
    split
    · rename_i heq
      rw [heq]
      rfl
    · rename_i h
      split
      · rename_i heq
        exact absurd heq (h _ _ _)
      · rfl
  · rename_i h
    have hc : cv o.op = none := by
      unfold cv
      split
      · rename_i f args ts ho
        exact absurd ho (h _ _ _)
      · rfl
    rw [hc, aop_out]
    unfold outA stepB after
    cases aopR X.T o.op (evo fr) (hlk hp) me <;> rfl

theorem r_put {d : Tmp} {x : AV} {K : St → Prop} : putA ⟨n, fr, hp, nx⟩ (some d) x K = (d < n ∧ K ⟨n, (d, x) :: fr, hp, nx⟩) := propext Iff.rfl
theorem r_put0 {x : AV} {K : St → Prop} : putA ⟨n, fr, hp, nx⟩ none x K = K ⟨n, fr, hp, nx⟩ := propext Iff.rfl
theorem r_after {dst : Option Tmp} {K : St → Prop} {p : Prop} {r : AV} {upd : Upd} {acc : List Nat} : after n fr hp nx dst K (some (p, r, upd, acc)) = (p ∧ putA ⟨n, fr, upd ++ hp, nx⟩ dst r K) := propext Iff.rfl

def guardE (b want : Bool) (p q : Prop) : Prop := (b = want → p) ∧ (b = !want → q)
theorem guardE_tt (p q : Prop) : guardE true true p q = p := by simp [guardE]
theorem guardE_ff (p q : Prop) : guardE false false p q = p := by simp [guardE]
theorem guardE_tf (p q : Prop) : guardE true false p q = q := by simp [guardE]
theorem guardE_ft (p q : Prop) : guardE false true p q = q := by simp [guardE]
theorem guardE_any (b want : Bool) (p q : Prop) : guardE b want p q = ((b = want → p) ∧ (b = !want → q)) := propext Iff.rfl

def guardC (x : AV) (d : Nat) (want : Bool) (n : Nat) (fr : Frm) (hp : Hp) (nx : Nat) (K1 K2 : St → Prop) : Prop :=
  match x with
  | .v (.bool b) => d < n ∧ guardE b want (K1 ⟨n, (d, .v (.bool want)) :: fr, hp, nx⟩) (K2 ⟨n, (d, .v (.bool !want)) :: fr, hp, nx⟩)
  | .v (.tuple _) => K2 ⟨n, fr, hp, nx⟩
  | _ => False

def guardB (d : Option Tmp) (want : Bool) (n : Nat) (fr : Frm) (hp : Hp) (nx : Nat) (K1 K2 : St → Prop) : Prop :=
  match d with
  | none => K2 ⟨n, fr, hp, nx⟩
  | some d => guardC (lkp fr d) d want n fr hp nx K1 K2

/-- An operation's destination. -/
def dstAt : List Oper → Nat → Option Tmp
  | [], _ => none
  | o :: _, 0 => o.dst
  | _ :: r, i + 1 => dstAt r i

theorem dstAt_eq : ∀ (all : List Oper) (j : Nat), (all[j]?).bind (·.dst) = dstAt all j
  | [], _ => rfl
  | _ :: _, 0 => rfl
  | _ :: r, j + 1 => by simp only [List.getElem?_cons_succ, dstAt]; exact dstAt_eq r j

theorem r_guard0 {all : List Oper} {dst : Option Tmp} {op : Op} {ty : TypeId} {pos : String} {af : Array Edge} {K1 K2 : St → Prop} :
    guardA all ⟨dst, op, ty, pos, af, none⟩ ⟨n, fr, hp, nx⟩ K1 K2 = K1 ⟨n, fr, hp, nx⟩ := propext Iff.rfl
theorem r_guard {all : List Oper} {dst : Option Tmp} {op : Op} {ty : TypeId} {pos : String} {af : Array Edge} {j : Nat} {want : Bool} {K1 K2 : St → Prop} :
    guardA all ⟨dst, op, ty, pos, af, some (j, want)⟩ ⟨n, fr, hp, nx⟩ K1 K2 = guardB (dstAt all j) want n fr hp nx K1 K2 := by
  unfold guardB guardC
  rw [← dstAt_eq]
  rfl

theorem r_nil {all : List Oper} {k base : Nat} {K : St → Prop} : opsT X F all [] k base ⟨n, fr, hp, nx⟩ K = K ⟨n, fr, hp, nx⟩ := propext Iff.rfl
theorem r_cons {all : List Oper} {o : Oper} {r : List Oper} {k base : Nat} {K : St → Prop} : opsT X F all (o :: r) k base ⟨n, fr, hp, nx⟩ K =
    guardA all o ⟨n, fr, hp, nx⟩ (fun s => stepA X F o (base + k) s fun s' => opsT X F all r (k + 1) base s' K) (fun s => putA s o.dst (.v undef) fun s' => opsT X F all r (k + 1) base s' K) := propext Iff.rfl

/-- What a call in a region that draws answers, where the table does not know the arguments as they are. -/
def snapD (r : Option AV) (all : List Oper) (k : Nat) (acc : List Nat) (dst : Option Tmp) (n : Nat) (fr : Frm) (hp : Hp) (nx : Nat) (log : Log) (K : St → Log → Prop) : Prop :=
  match r with
  | some (.v x) => entryOk all log k acc [] = true ∧ putA ⟨n, fr, hp, nx⟩ dst (.v x) fun s' => K s' ((k, acc, []) :: log)
  | _ => False

def tabD (r : Option AV) (X : Ctx) (g : FuncId) (args : List AV) (all : List Oper) (k : Nat) (dst : Option Tmp) (n : Nat) (fr : Frm) (hp : Hp) (nx : Nat) (log : Log) (K : St → Log → Prop) : Prop :=
  match r with
  | some r => putA ⟨n, fr, hp, nx⟩ dst r fun s' => K s' log
  | none => snapD (X.C g (args.map (snap1 (hlk hp)))) all k (snapIds args) dst n fr hp nx log K

def callD (X : Ctx) (f : AV) (args : List AV) (all : List Oper) (k : Nat) (n : Nat) (fr : Frm) (hp : Hp) (nx : Nat) (dst : Option Tmp) (log : Log) (K : St → Log → Prop) : Prop :=
  match f with
  | .fn (.func g) first cap => tabD (X.C g (first ++ args ++ cap)) X g (first ++ args ++ cap) all k dst n fr hp nx log K
  | _ => False

def afterD (all : List Oper) (k n : Nat) (fr : Frm) (hp : Hp) (nx : Nat) (dst : Option Tmp) (log : Log) (K : St → Log → Prop) : Outc → Prop
  | some (p, r, [], []) => p ∧ putA ⟨n, fr, hp, nx⟩ dst r fun s' => K s' log
  | some (p, r, upd, acc) => p ∧ entryOk all log k (accOf upd acc) (upd.map (·.1)) = true ∧ putA ⟨n, fr, upd ++ hp, nx⟩ dst r fun s' => K s' ((k, accOf upd acc, upd.map (·.1)) :: log)
  | none => False

def stepE (X : Ctx) (all : List Oper) (c : Option (Operand × Array Operand)) (op : Op) (dst : Option Tmp) (k base n : Nat) (fr : Frm) (hp : Hp) (nx : Nat) (log : Log) (K : St → Log → Prop) : Prop :=
  match c with
  | some (f, args) => callD X (evo fr f) (args.toList.map (evo fr)) all k n fr hp nx dst log K
  | none => afterD all k n fr hp nx dst log K (aopR X.T op (evo fr) (hlk hp) (base + k))

theorem r_stepD {o : Oper} {all : List Oper} {k base : Nat} {log : Log} {K : St → Log → Prop} : stepD X o all k base ⟨n, fr, hp, nx⟩ log K = stepE X all (cv o.op) o.op o.dst k base n fr hp nx log K := by
  unfold stepD
  split
  · rename_i f args ts ho
    rw [ho]
    dsimp only [stepE, cv, callD]
    split
    · rename_i g first cap heq
      rw [heq]
      dsimp only
      cases X.C g (first ++ List.map (evo fr) args.toList ++ cap) with
      | some r => rfl
      | none =>
        simp only [tabD, tabS, snapD]
        generalize X.C g (List.map (snap1 (hlk hp)) (first ++ List.map (evo fr) args.toList ++ cap)) = q
        cases q with
        | none => rfl
        | some r => cases r <;> rfl
    · rename_i h
      split
      · rename_i heq
        exact absurd heq (h _ _ _)
      · rfl
  · rename_i h
    have hc : cv o.op = none := by
      unfold cv
      split
      · rename_i f args ts ho
        exact absurd ho (h _ _ _)
      · rfl
    rw [hc, aop_out]
    unfold outA stepE afterD
    dsimp only
    cases aopR X.T o.op (evo fr) (hlk hp) (base + k) with
    | none => rfl
    | some x =>
      obtain ⟨p, r, upd, acc⟩ := x
      cases upd with
      | nil => cases acc <;> rfl
      | cons => rfl

theorem r_afterD0 {all : List Oper} {k : Nat} {dst : Option Tmp} {log : Log} {K : St → Log → Prop} {p : Prop} {r : AV} : afterD all k n fr hp nx dst log K (some (p, r, [], [])) = (p ∧ putA ⟨n, fr, hp, nx⟩ dst r fun s' => K s' log) := propext Iff.rfl
theorem r_afterD1 {all : List Oper} {k : Nat} {dst : Option Tmp} {log : Log} {K : St → Log → Prop} {p : Prop} {r : AV} {upd : Upd} {a : Nat} {acc : List Nat} : afterD all k n fr hp nx dst log K (some (p, r, upd, a :: acc)) =
    (p ∧ entryOk all log k (accOf upd (a :: acc)) (upd.map (·.1)) = true ∧ putA ⟨n, fr, upd ++ hp, nx⟩ dst r fun s' => K s' ((k, accOf upd (a :: acc), upd.map (·.1)) :: log)) := by
  cases upd <;> rfl
theorem r_afterD2 {all : List Oper} {k : Nat} {dst : Option Tmp} {log : Log} {K : St → Log → Prop} {p : Prop} {r : AV} {u : Nat × Option Blk} {upd : Upd} {acc : List Nat} : afterD all k n fr hp nx dst log K (some (p, r, u :: upd, acc)) =
    (p ∧ entryOk all log k (accOf (u :: upd) acc) ((u :: upd).map (·.1)) = true ∧ putA ⟨n, fr, (u :: upd) ++ hp, nx⟩ dst r fun s' => K s' ((k, accOf (u :: upd) acc, (u :: upd).map (·.1)) :: log)) := propext Iff.rfl

theorem r_nilD {all : List Oper} {k base : Nat} {log : Log} {K : St → Prop} : opsD X all [] k base ⟨n, fr, hp, nx⟩ log K = K ⟨n, fr, hp, nx⟩ := propext Iff.rfl
theorem r_consD {all : List Oper} {o : Oper} {r : List Oper} {k base : Nat} {log : Log} {K : St → Prop} : opsD X all (o :: r) k base ⟨n, fr, hp, nx⟩ log K =
    guardA all o ⟨n, fr, hp, nx⟩ (fun s => stepD X o all k base s log fun s' log' => opsD X all r (k + 1) base s' log' K) (fun s => putA s o.dst (.v undef) fun s' => opsD X all r (k + 1) base s' log K) := propext Iff.rfl

theorem r_skip : codeA X F .skip Q ⟨n, fr, hp, nx⟩ = Q .normal ⟨n, fr, hp, nx⟩ := propext Iff.rfl
theorem r_text {id : Nat} {ops : List Oper} : codeA X F (.region id ops.toArray false) Q ⟨n, fr, hp, nx⟩ = opsT X F ops ops 0 nx ⟨n, fr, hp, nx + ops.length⟩ (Q .normal) := propext Iff.rfl
/-- Where a region that draws is cut, found at the operations' heads. -/
def pivG : List Oper → Nat → Option Nat
  | [], _ => none
  | o :: r, k => if dynCall o then some k else pivG r (k + 1)
theorem pivG_eq : ∀ (l : List Oper) (k : Nat), pivG l k = (l.findIdx? dynCall).map (· + k)
  | [], _ => rfl
  | o :: r, k => by
    rw [pivG, List.findIdx?_cons]
    cases dynCall o with
    | true => simp
    | false => simp [pivG_eq r (k + 1), Nat.add_assoc, Nat.add_comm 1 k, Function.comp_def]
theorem pivotOf_eq (l : List Oper) : pivotOf l = pivG l 0 := by
  rw [pivG_eq]; simp [pivotOf]
theorem r_pivN {k : Nat} : pivG [] k = none := rfl
theorem r_pivC {o : Oper} {r : List Oper} {k : Nat} : pivG (o :: r) k = if dynCall o then some k else pivG r (k + 1) := rfl
theorem r_draw {id : Nat} {ops : List Oper} : codeA X F (.region id ops.toArray true) Q ⟨n, fr, hp, nx⟩ = drawA X F ops (pivG ops 0) nx ⟨n, fr, hp, nx + ops.length⟩ (Q .normal) := by
  rw [← pivotOf_eq]; exact propext Iff.rfl
theorem r_drawN {ops : List Oper} {base : Nat} {K : St → Prop} : drawA X F ops none base ⟨n, fr, hp, nx⟩ K = opsD X ops ops 0 base ⟨n, fr, hp, nx⟩ [] K := propext Iff.rfl
def restP (X : Ctx) (all : List Oper) (c : Nat) (K : St → Prop) (s2 : St) : Prop := opsD X all (all.drop (c + 1)) (c + 1) s2.nx ⟨s2.n, s2.fr, s2.hp, s2.nx + all.length⟩ [] K
theorem r_rest {all : List Oper} {c : Nat} {K : St → Prop} : restP X all c K ⟨n, fr, hp, nx⟩ = opsD X all (all.drop (c + 1)) (c + 1) nx ⟨n, fr, hp, nx + all.length⟩ [] K := propext Iff.rfl
def stepP (X : Ctx) (F : CallF) (all : List Oper) (c base : Nat) (n : Nat) (fr : Frm) (hp : Hp) (nx : Nat) (K : St → Prop) : Option Oper → Prop
  | some o => o.guard.isNone = true ∧ pivotOk all c = true ∧ opsD X all (all.take c) 0 base ⟨n, fr, hp, nx⟩ [] (fun s1 => stepA X F o (base + c) s1 (restP X all c K))
  | none => False
theorem r_drawP {ops : List Oper} {c base : Nat} {K : St → Prop} : drawA X F ops (some c) base ⟨n, fr, hp, nx⟩ K = stepP X F ops c base n fr hp nx K (ops[c]?) := by
  show opsP X F ops c base ⟨n, fr, hp, nx⟩ K = _
  unfold opsP stepP
  cases ops[c]? <;> rfl
theorem r_seq {a b : Code} : codeA X F (.seq a b) Q ⟨n, fr, hp, nx⟩ = codeA X F a (thenA (codeA X F b Q) Q) ⟨n, fr, hp, nx⟩ := propext Iff.rfl
def condE (b : Bool) (p q : Prop) : Prop := (b = true → p) ∧ (b = false → q)
theorem condE_t (p q : Prop) : condE true p q = p := by simp [condE]
theorem condE_f (p q : Prop) : condE false p q = q := by simp [condE]
theorem condE_any (b : Bool) (p q : Prop) : condE b p q = ((b = true → p) ∧ (b = false → q)) := propext Iff.rfl
def condS (x : AV) (X : Ctx) (F : CallF) (a b : Code) (Q : Exit → St → Prop) (n : Nat) (fr : Frm) (hp : Hp) (nx : Nat) : Prop := condA x (codeA X F a Q ⟨n, fr, hp, nx⟩) (codeA X F b Q ⟨n, fr, hp, nx⟩)
theorem r_cond {c : Operand} {a b : Code} : codeA X F (.cond c a b) Q ⟨n, fr, hp, nx⟩ = condS (evo fr c) X F a b Q n fr hp nx := propext Iff.rfl
theorem r_condB {v : Bool} {a b : Code} : condS (.v (.bool v)) X F a b Q n fr hp nx = condE v (codeA X F a Q ⟨n, fr, hp, nx⟩) (codeA X F b Q ⟨n, fr, hp, nx⟩) := propext Iff.rfl
theorem r_condT {xs : List AV} {a b : Code} : condS (.nb xs true) X F a b Q n fr hp nx = ((xs = [] → codeA X F a Q ⟨n, fr, hp, nx⟩) ∧ codeA X F b Q ⟨n, fr, hp, nx⟩) := propext Iff.rfl
theorem r_condF {xs : List AV} {a b : Code} : condS (.nb xs false) X F a b Q n fr hp nx = (codeA X F a Q ⟨n, fr, hp, nx⟩ ∧ (xs = [] → codeA X F b Q ⟨n, fr, hp, nx⟩)) := propext Iff.rfl
theorem r_block {id : Nat} {b : Code} : codeA X F (.block id b) Q ⟨n, fr, hp, nx⟩ = codeA X F b (inBlockA id Q) ⟨n, fr, hp, nx⟩ := propext Iff.rfl
theorem r_loop {b : Code} : codeA X F (.loop b) Q ⟨n, fr, hp, nx⟩ = WP X (.loop b) Q ⟨n, fr, hp, nx⟩ := propext Iff.rfl
theorem r_exit {id : Nat} : codeA X F (.exit id) Q ⟨n, fr, hp, nx⟩ = Q (.exit id) ⟨n, fr, hp, nx⟩ := propext Iff.rfl
theorem r_scope {b : Code} : codeA X F (.scope b) Q ⟨n, fr, hp, nx⟩ = codeA X F b (inScopeA X b Q) ⟨n, fr, hp, nx⟩ := propext Iff.rfl
theorem r_label {l : Nat} : codeA X F (.label l) Q ⟨n, fr, hp, nx⟩ = Q .normal ⟨n, fr, hp, nx⟩ := propext Iff.rfl
theorem r_goto {l : Nat} : codeA X F (.goto l) Q ⟨n, fr, hp, nx⟩ = Q (.goto l) ⟨n, fr, hp, nx⟩ := propext Iff.rfl
theorem r_ret : codeA X F .ret Q ⟨n, fr, hp, nx⟩ = Q .ret ⟨n, fr, hp, nx⟩ := propext Iff.rfl

theorem r_then {K : St → Prop} : thenA K Q .normal ⟨n, fr, hp, nx⟩ = K ⟨n, fr, hp, nx⟩ := propext Iff.rfl
theorem r_thenR {K : St → Prop} : thenA K Q .ret ⟨n, fr, hp, nx⟩ = Q .ret ⟨n, fr, hp, nx⟩ := propext Iff.rfl
theorem r_thenE {K : St → Prop} {id : Nat} : thenA K Q (.exit id) ⟨n, fr, hp, nx⟩ = Q (.exit id) ⟨n, fr, hp, nx⟩ := propext Iff.rfl
theorem r_thenG {K : St → Prop} {l : Nat} : thenA K Q (.goto l) ⟨n, fr, hp, nx⟩ = Q (.goto l) ⟨n, fr, hp, nx⟩ := propext Iff.rfl
theorem r_blkN {id : Nat} : inBlockA id Q .normal ⟨n, fr, hp, nx⟩ = Q .normal ⟨n, fr, hp, nx⟩ := propext Iff.rfl
theorem r_blkR {id : Nat} : inBlockA id Q .ret ⟨n, fr, hp, nx⟩ = Q .ret ⟨n, fr, hp, nx⟩ := propext Iff.rfl
theorem r_blkG {id l : Nat} : inBlockA id Q (.goto l) ⟨n, fr, hp, nx⟩ = Q (.goto l) ⟨n, fr, hp, nx⟩ := propext Iff.rfl
theorem r_blkE {id id' : Nat} : inBlockA id Q (.exit id') ⟨n, fr, hp, nx⟩ = if id' = id then Q .normal ⟨n, fr, hp, nx⟩ else Q (.exit id') ⟨n, fr, hp, nx⟩ := propext Iff.rfl
theorem r_scpN {b : Code} : inScopeA X b Q .normal ⟨n, fr, hp, nx⟩ = Q .normal ⟨n, fr, hp, nx⟩ := propext Iff.rfl
theorem r_scpR {b : Code} : inScopeA X b Q .ret ⟨n, fr, hp, nx⟩ = Q .ret ⟨n, fr, hp, nx⟩ := propext Iff.rfl
theorem r_scpE {b : Code} {id : Nat} : inScopeA X b Q (.exit id) ⟨n, fr, hp, nx⟩ = Q (.exit id) ⟨n, fr, hp, nx⟩ := propext Iff.rfl

def resB (T : TEnv) (n : Nat) (fr : Frm) (hp : Hp) (nx : Nat) (K : AV → Hp → Nat → Prop) : List ResultVar → List AV → Prop
  | [], acc => match acc with
    | [x] => K x hp nx
    | xs => K (.tup xs) hp nx
  | .tmp t :: r, acc => resB T n fr hp nx K r (acc ++ [lkp fr t])
  | .cell t ty :: r, acc => match aopR T (.load ty (.tmp t)) (evo fr) (hlk hp) nx with
    | some (p, x, _, _) => p ∧ resB T n fr hp nx K r (acc ++ [x])
    | none => False

theorem resA_B {T : TEnv} {K : AV → Hp → Nat → Prop} : ∀ (rs : List ResultVar) (acc : List AV), (resA T ⟨n, fr, hp, nx⟩ rs acc fun xs => match xs with
      | [x] => K x hp nx
      | xs => K (.tup xs) hp nx) = resB T n fr hp nx K rs acc
  | [], acc => rfl
  | .tmp t :: r, acc => by simp only [resA, resB]; exact resA_B r _
  | .cell t ty :: r, acc => by
    simp only [resA, resB, aop_out]
    unfold outA
    cases aopR T (.load ty (.tmp t)) (evo fr) (hlk hp) nx with
    | none => rfl
    | some x => obtain ⟨p, y, u, a⟩ := x; simp only; rw [resA_B r]

theorem r_bodyR {T : TEnv} {fn : Func} {K : AV → Hp → Nat → Prop} : bodyQ T fn K .ret ⟨n, fr, hp, nx⟩ = resB T n fr hp nx K fn.results.toList [] := resA_B _ _
theorem r_bodyN {T : TEnv} {fn : Func} {K : AV → Hp → Nat → Prop} : bodyQ T fn K .normal ⟨n, fr, hp, nx⟩ = resB T n fr hp nx K fn.results.toList [] := resA_B _ _
theorem r_ret1 {dst : Option Tmp} {K : St → Prop} {r : AV} : ret1 n fr dst K r hp nx = putA ⟨n, fr, hp, nx⟩ dst r K := propext Iff.rfl

def inl (X : Ctx) (k : Nat) (fn : Option Func) (args : List AV) (hp : Hp) (nx : Nat) (K : AV → Hp → Nat → Prop) : Prop :=
  match fn with
  | some fn => (fn.name == "runtime.NumGoroutine") = false ∧ args.length ≤ fn.ntmps ∧ match fn.body with
    | some body => codeA X (callN X k) body (bodyQ X.T fn K) ⟨fn.ntmps, argFrm args 0, hp, nx⟩
    | none => False
  | none => False

def callE (r : Option AV) (X : Ctx) (k : Nat) (g : FuncId) (args : List AV) (hp : Hp) (nx : Nat) (K : AV → Hp → Nat → Prop) : Prop :=
  match r with
  | some r => K r (frzArgs hp args).2 nx
  | none => inl X k (X.P.funcs[g]?) args hp nx K

def callC (r : Option AV) (X : Ctx) (k : Nat) (g : FuncId) (args : List AV) (hp : Hp) (nx : Nat) (K : AV → Hp → Nat → Prop) : Prop :=
  match r with
  | some r => K r hp nx
  | none => callE (X.C g (frzArgs hp args).1) X k g args hp nx K

theorem r_call {k : Nat} {g : FuncId} {args : List AV} {K : AV → Hp → Nat → Prop} : callN X (k + 1) g args hp nx K = callC (X.C g args) X k g args hp nx K := by
  simp only [callN, callC, callE, inl]
  cases X.C g args with
  | some r => rfl
  | none => cases X.C g (frzArgs hp args).1 with
    | some r => rfl
    | none => cases X.P.funcs[g]? <;> rfl
theorem r_callC {r : AV} {k : Nat} {g : FuncId} {args : List AV} {K : AV → Hp → Nat → Prop} : callC (some r) X k g args hp nx K = K r hp nx := propext Iff.rfl
theorem r_callI {k : Nat} {g : FuncId} {args : List AV} {K : AV → Hp → Nat → Prop} : callC none X k g args hp nx K = callE (X.C g (frzArgs hp args).1) X k g args hp nx K := propext Iff.rfl
theorem r_callE {r : AV} {k : Nat} {g : FuncId} {args : List AV} {K : AV → Hp → Nat → Prop} : callE (some r) X k g args hp nx K = K r (frzArgs hp args).2 nx := propext Iff.rfl
theorem r_callJ {k : Nat} {g : FuncId} {args : List AV} {K : AV → Hp → Nat → Prop} : callE none X k g args hp nx K = inl X k (X.P.funcs[g]?) args hp nx K := propext Iff.rfl
theorem r_callV {g : FuncId} {first cap args : List AV} {dst : Option Tmp} {K : St → Prop} : callV F (.fn (.func g) first cap) args n fr hp nx dst K = F g (first ++ args ++ cap) hp nx (ret1 n fr dst K) := propext Iff.rfl
end

end Go.Vai
