/- The evaluator, the plain texts and the contracts that this claim leans on, part BX: nothing of the statement is claimed here. -/
import Derived.Test.YtppacheibhanbaaBB
import Derived.LoopNIn
import Derived.Deep.LoopGhost
import Derived.RangeFuncRecord
/- The evaluator's rules for simp: each fires at a state that is written out, so none below a binder. -/
namespace Go.Vai
open Go.RowKit

section
variable {X : Ctx} {F : CallF} {n nx : Nat} {fr : Frm} {hp : Hp} {Q : Exit → St → Prop}

def after (n : Nat) (fr : Frm) (hp : Hp) (nx : Nat) (dst : Option Tmp) (K : St → Prop) : Outc → Prop
  | some (p, r, upd, _) => p ∧ putA ⟨n, fr, upd ++ hp, nx⟩ dst r K
  | none => False

def ret1 (n : Nat) (fr : Frm) (dst : Option Tmp) (K : St → Prop) (r : AV) (hp : Hp) (nx : Nat) : Prop := putA ⟨n, fr, hp, nx⟩ dst r K

def cv : Op → Option (Operand × Array Operand)
  | .call { callee := .value f, args := args, argTypes := _ } => some (f, args)
  | _ => none

def callV (X : Ctx) (F : CallF) (f : AV) (args : List AV) (n : Nat) (fr : Frm) (hp : Hp) (nx : Nat) (dst : Option Tmp) (K : St → Prop) : Prop :=
  match f with
  | .fn (.func g) first cap => F g (first ++ args ++ cap) hp nx (ret1 n fr dst K)
  | .yld id => X.Y id args hp nx (ret1 n fr dst K)
  | _ => False

def stepB (X : Ctx) (F : CallF) (c : Option (Operand × Array Operand)) (op : Op) (dst : Option Tmp) (me n : Nat) (fr : Frm) (hp : Hp) (nx : Nat) (K : St → Prop) : Prop :=
  match c with
  | some (f, args) => callV X F (evo fr f) (args.toList.map (evo fr)) n fr hp nx dst K
  | none => after n fr hp nx dst K (aopR X.T op (evo fr) (hlk hp) me)

theorem r_step {o : Oper} {me : Nat} {K : St → Prop} : stepA X F o me ⟨n, fr, hp, nx⟩ K = stepB X F (cv o.op) o.op o.dst me n fr hp nx K := by
  unfold stepA
  split
  · rename_i f args ts ho
    rw [ho]
    dsimp only [stepB, cv, callV]
    split
    · rename_i heq
      first
        | rfl
        | (rw [heq]; rfl)
    · rename_i heq
      first
        | rfl
        | (rw [heq]; rfl)
    · rename_i h h'
      first
        | rfl
        | (split
           · rename_i heq
             exact absurd heq (h _ _ _)
           · rename_i heq
             exact absurd heq (h' _)
           · rfl)
  · rename_i h
    have hc : cv o.op = none := by
      unfold cv
      split
      · rename_i f args ts ho
        exact absurd ho (h _ _ _)
      · rfl
    rw [hc, aop_out]
    unfold outA stepB after
    cases aopR X.T o.op (evo fr) (hlk hp) me <;> rfl

theorem r_put {d : Tmp} {x : AV} {K : St → Prop} : putA ⟨n, fr, hp, nx⟩ (some d) x K = (d < n ∧ K ⟨n, (d, x) :: fr, hp, nx⟩) := propext Iff.rfl
theorem r_put0 {x : AV} {K : St → Prop} : putA ⟨n, fr, hp, nx⟩ none x K = K ⟨n, fr, hp, nx⟩ := propext Iff.rfl
theorem r_after {dst : Option Tmp} {K : St → Prop} {p : Prop} {r : AV} {upd : Upd} {acc : List Nat} : after n fr hp nx dst K (some (p, r, upd, acc)) = (p ∧ putA ⟨n, fr, upd ++ hp, nx⟩ dst r K) := propext Iff.rfl

def guardE (b want : Bool) (p q : Prop) : Prop := (b = want → p) ∧ (b = !want → q)
theorem guardE_tt (p q : Prop) : guardE true true p q = p := by simp [guardE]
theorem guardE_ff (p q : Prop) : guardE false false p q = p := by simp [guardE]
theorem guardE_tf (p q : Prop) : guardE true false p q = q := by simp [guardE]
theorem guardE_ft (p q : Prop) : guardE false true p q = q := by simp [guardE]
theorem guardE_any (b want : Bool) (p q : Prop) : guardE b want p q = ((b = want → p) ∧ (b = !want → q)) := propext Iff.rfl

def guardC (x : AV) (d : Nat) (want : Bool) (n : Nat) (fr : Frm) (hp : Hp) (nx : Nat) (K1 K2 : St → Prop) : Prop :=
  match x with
  | .v (.bool b) => d < n ∧ guardE b want (K1 ⟨n, (d, .v (.bool want)) :: fr, hp, nx⟩) (K2 ⟨n, (d, .v (.bool !want)) :: fr, hp, nx⟩)
  | .v (.tuple _) => K2 ⟨n, fr, hp, nx⟩
  | _ => False

def guardB (d : Option Tmp) (want : Bool) (n : Nat) (fr : Frm) (hp : Hp) (nx : Nat) (K1 K2 : St → Prop) : Prop :=
  match d with
  | none => K2 ⟨n, fr, hp, nx⟩
  | some d => guardC (lkp fr d) d want n fr hp nx K1 K2

/-- An operation's destination. -/
def dstAt : List Oper → Nat → Option Tmp
  | [], _ => none
  | o :: _, 0 => o.dst
  | _ :: r, i + 1 => dstAt r i

theorem dstAt_eq : ∀ (all : List Oper) (j : Nat), (all[j]?).bind (·.dst) = dstAt all j
  | [], _ => rfl
  | _ :: _, 0 => rfl
  | _ :: r, j + 1 => by simp only [List.getElem?_cons_succ, dstAt]; exact dstAt_eq r j

theorem r_guard0 {all : List Oper} {dst : Option Tmp} {op : Op} {ty : TypeId} {pos : String} {af : Array Edge} {K1 K2 : St → Prop} :
    guardA all ⟨dst, op, ty, pos, af, none⟩ ⟨n, fr, hp, nx⟩ K1 K2 = K1 ⟨n, fr, hp, nx⟩ := propext Iff.rfl
theorem r_guard {all : List Oper} {dst : Option Tmp} {op : Op} {ty : TypeId} {pos : String} {af : Array Edge} {j : Nat} {want : Bool} {K1 K2 : St → Prop} :
    guardA all ⟨dst, op, ty, pos, af, some (j, want)⟩ ⟨n, fr, hp, nx⟩ K1 K2 = guardB (dstAt all j) want n fr hp nx K1 K2 := by
  unfold guardB guardC
  rw [← dstAt_eq]
  rfl

theorem r_nil {all : List Oper} {k base : Nat} {K : St → Prop} : opsT X F all [] k base ⟨n, fr, hp, nx⟩ K = K ⟨n, fr, hp, nx⟩ := propext Iff.rfl
theorem r_cons {all : List Oper} {o : Oper} {r : List Oper} {k base : Nat} {K : St → Prop} : opsT X F all (o :: r) k base ⟨n, fr, hp, nx⟩ K =
    guardA all o ⟨n, fr, hp, nx⟩ (fun s => stepA X F o (base + k) s fun s' => opsT X F all r (k + 1) base s' K) (fun s => putA s o.dst (.v undef) fun s' => opsT X F all r (k + 1) base s' K) := propext Iff.rfl

/-- What a call in a region that draws answers, where the table does not know the arguments as they are. -/
def snapD (r : Option AV) (all : List Oper) (k : Nat) (acc : List Nat) (dst : Option Tmp) (n : Nat) (fr : Frm) (hp : Hp) (nx : Nat) (log : Log) (K : St → Log → Prop) : Prop :=
  match r with
  | some (.v x) => entryOk all log k acc [] = true ∧ putA ⟨n, fr, hp, nx⟩ dst (.v x) fun s' => K s' ((k, acc, []) :: log)
  | _ => False

def tabD (r : Option AV) (X : Ctx) (g : FuncId) (args : List AV) (all : List Oper) (k : Nat) (dst : Option Tmp) (n : Nat) (fr : Frm) (hp : Hp) (nx : Nat) (log : Log) (K : St → Log → Prop) : Prop :=
  match r with
  | some r => putA ⟨n, fr, hp, nx⟩ dst r fun s' => K s' log
  | none => snapD (X.C g (args.map (snap1 (hlk hp)))) all k (snapIds args) dst n fr hp nx log K

def callD (X : Ctx) (f : AV) (args : List AV) (all : List Oper) (k : Nat) (n : Nat) (fr : Frm) (hp : Hp) (nx : Nat) (dst : Option Tmp) (log : Log) (K : St → Log → Prop) : Prop :=
  match f with
  | .fn (.func g) first cap => tabD (X.C g (first ++ args ++ cap)) X g (first ++ args ++ cap) all k dst n fr hp nx log K
  | _ => False

def afterD (all : List Oper) (k n : Nat) (fr : Frm) (hp : Hp) (nx : Nat) (dst : Option Tmp) (log : Log) (K : St → Log → Prop) : Outc → Prop
  | some (p, r, [], []) => p ∧ putA ⟨n, fr, hp, nx⟩ dst r fun s' => K s' log
  | some (p, r, upd, acc) => p ∧ entryOk all log k (accOf upd acc) (upd.map (·.1)) = true ∧ putA ⟨n, fr, upd ++ hp, nx⟩ dst r fun s' => K s' ((k, accOf upd acc, upd.map (·.1)) :: log)
  | none => False

def stepE (X : Ctx) (all : List Oper) (c : Option (Operand × Array Operand)) (op : Op) (dst : Option Tmp) (k base n : Nat) (fr : Frm) (hp : Hp) (nx : Nat) (log : Log) (K : St → Log → Prop) : Prop :=
  match c with
  | some (f, args) => callD X (evo fr f) (args.toList.map (evo fr)) all k n fr hp nx dst log K
  | none => afterD all k n fr hp nx dst log K (aopR X.T op (evo fr) (hlk hp) (base + k))

theorem r_stepD {o : Oper} {all : List Oper} {k base : Nat} {log : Log} {K : St → Log → Prop} : stepD X o all k base ⟨n, fr, hp, nx⟩ log K = stepE X all (cv o.op) o.op o.dst k base n fr hp nx log K := by
  unfold stepD
  split
  · rename_i f args ts ho
    rw [ho]
    dsimp only [stepE, cv, callD]
    split
    · rename_i g first cap heq
      try rw [heq]
      try dsimp only
      cases X.C g (first ++ List.map (evo fr) args.toList ++ cap) with
      | some r => rfl
      | none =>
        simp only [tabD, tabS, snapD]
        all_goals
          generalize X.C g (List.map (snap1 (hlk hp)) (first ++ List.map (evo fr) args.toList ++ cap)) = q
          cases q with
          | none => rfl
          | some r => cases r <;> rfl
    · rename_i h
      first
        | rfl
        | (split
           · rename_i heq
             exact absurd heq (h _ _ _)
           · rfl)
  · rename_i h
    have hc : cv o.op = none := by
      unfold cv
      split
      · rename_i f args ts ho
        exact absurd ho (h _ _ _)
      · rfl
    rw [hc, aop_out]
    unfold outA stepE afterD
    dsimp only
    cases aopR X.T o.op (evo fr) (hlk hp) (base + k) with
    | none => rfl
    | some x =>
      obtain ⟨p, r, upd, acc⟩ := x
      cases upd with
      | nil => cases acc <;> rfl
      | cons => rfl

theorem r_afterD0 {all : List Oper} {k : Nat} {dst : Option Tmp} {log : Log} {K : St → Log → Prop} {p : Prop} {r : AV} : afterD all k n fr hp nx dst log K (some (p, r, [], [])) = (p ∧ putA ⟨n, fr, hp, nx⟩ dst r fun s' => K s' log) := propext Iff.rfl
theorem r_afterD1 {all : List Oper} {k : Nat} {dst : Option Tmp} {log : Log} {K : St → Log → Prop} {p : Prop} {r : AV} {upd : Upd} {a : Nat} {acc : List Nat} : afterD all k n fr hp nx dst log K (some (p, r, upd, a :: acc)) =
    (p ∧ entryOk all log k (accOf upd (a :: acc)) (upd.map (·.1)) = true ∧ putA ⟨n, fr, upd ++ hp, nx⟩ dst r fun s' => K s' ((k, accOf upd (a :: acc), upd.map (·.1)) :: log)) := by
  cases upd <;> rfl
theorem r_afterD2 {all : List Oper} {k : Nat} {dst : Option Tmp} {log : Log} {K : St → Log → Prop} {p : Prop} {r : AV} {u : Nat × Option Blk} {upd : Upd} {acc : List Nat} : afterD all k n fr hp nx dst log K (some (p, r, u :: upd, acc)) =
    (p ∧ entryOk all log k (accOf (u :: upd) acc) ((u :: upd).map (·.1)) = true ∧ putA ⟨n, fr, (u :: upd) ++ hp, nx⟩ dst r fun s' => K s' ((k, accOf (u :: upd) acc, (u :: upd).map (·.1)) :: log)) := propext Iff.rfl

theorem r_nilD {all : List Oper} {k base : Nat} {log : Log} {K : St → Prop} : opsD X all [] k base ⟨n, fr, hp, nx⟩ log K = K ⟨n, fr, hp, nx⟩ := propext Iff.rfl
theorem r_consD {all : List Oper} {o : Oper} {r : List Oper} {k base : Nat} {log : Log} {K : St → Prop} : opsD X all (o :: r) k base ⟨n, fr, hp, nx⟩ log K =
    guardA all o ⟨n, fr, hp, nx⟩ (fun s => stepD X o all k base s log fun s' log' => opsD X all r (k + 1) base s' log' K) (fun s => putA s o.dst (.v undef) fun s' => opsD X all r (k + 1) base s' log K) := propext Iff.rfl

theorem r_skip : codeA X F .skip Q ⟨n, fr, hp, nx⟩ = Q .normal ⟨n, fr, hp, nx⟩ := propext Iff.rfl
theorem r_text {id : Nat} {ops : List Oper} : codeA X F (.region id ops.toArray false) Q ⟨n, fr, hp, nx⟩ = opsT X F ops ops 0 nx ⟨n, fr, hp, nx + ops.length⟩ (Q .normal) := propext Iff.rfl
/-- Where a region that draws is cut, found at the operations' heads. -/
def pivG : List Oper → Nat → Option Nat
  | [], _ => none
  | o :: r, k => if dynCall o then some k else pivG r (k + 1)
theorem pivG_eq : ∀ (l : List Oper) (k : Nat), pivG l k = (l.findIdx? dynCall).map (· + k)
  | [], _ => rfl
  | o :: r, k => by
    rw [pivG, List.findIdx?_cons]
    cases dynCall o with
    | true => simp
    | false => simp [pivG_eq r (k + 1), Nat.add_assoc, Nat.add_comm 1 k, Function.comp_def]
theorem pivotOf_eq (l : List Oper) : pivotOf l = pivG l 0 := by
  rw [pivG_eq]; simp [pivotOf]
theorem r_pivN {k : Nat} : pivG [] k = none := rfl
theorem r_pivC {o : Oper} {r : List Oper} {k : Nat} : pivG (o :: r) k = if dynCall o then some k else pivG r (k + 1) := rfl
theorem r_draw {id : Nat} {ops : List Oper} : codeA X F (.region id ops.toArray true) Q ⟨n, fr, hp, nx⟩ = drawA X F ops (pivG ops 0) nx ⟨n, fr, hp, nx + ops.length⟩ (Q .normal) := by
  rw [← pivotOf_eq]; exact propext Iff.rfl
theorem r_drawN {ops : List Oper} {base : Nat} {K : St → Prop} : drawA X F ops none base ⟨n, fr, hp, nx⟩ K = opsD X ops ops 0 base ⟨n, fr, hp, nx⟩ [] K := propext Iff.rfl
def restP (X : Ctx) (all : List Oper) (c : Nat) (K : St → Prop) (s2 : St) : Prop := opsD X all (all.drop (c + 1)) (c + 1) s2.nx ⟨s2.n, s2.fr, s2.hp, s2.nx + all.length⟩ [] K
theorem r_rest {all : List Oper} {c : Nat} {K : St → Prop} : restP X all c K ⟨n, fr, hp, nx⟩ = opsD X all (all.drop (c + 1)) (c + 1) nx ⟨n, fr, hp, nx + all.length⟩ [] K := propext Iff.rfl
def stepP (X : Ctx) (F : CallF) (all : List Oper) (c base : Nat) (n : Nat) (fr : Frm) (hp : Hp) (nx : Nat) (K : St → Prop) : Option Oper → Prop
  | some o => o.guard.isNone = true ∧ pivotOk all c = true ∧ opsD X all (all.take c) 0 base ⟨n, fr, hp, nx⟩ [] (fun s1 => stepA X F o (base + c) s1 (restP X all c K))
  | none => False
def restL (X : Ctx) (all : List Oper) (c : Nat) (K : St → Prop) (s2 : St) : Prop := lateL X (all.take c) s2 ∧ opsD X all (all.drop (c + 1)) (c + 1) s2.nx ⟨s2.n, s2.fr, s2.hp, s2.nx + all.length⟩ [] K
theorem r_restL {all : List Oper} {c : Nat} {K : St → Prop} : restL X all c K ⟨n, fr, hp, nx⟩ = (lateL X (all.take c) ⟨n, fr, hp, nx⟩ ∧ opsD X all (all.drop (c + 1)) (c + 1) nx ⟨n, fr, hp, nx + all.length⟩ [] K) := propext Iff.rfl
def afterL (X : Ctx) (r : List Oper) (n : Nat) (fr : Frm) (hp : Hp) (nx : Nat) (d : Nat) (K : St → Prop) : Outc → Prop
  | some (p, x, upd, _) => p ∧ upd = [] ∧ d < n ∧ preL X r ⟨n, (d, x) :: fr, hp, nx⟩ K
  | none => False
def preB (X : Ctx) (g : Option (Nat × Bool)) (dst : Option Tmp) (b : Bool) (r : List Oper) (n : Nat) (fr : Frm) (hp : Hp) (nx : Nat) (K : St → Prop) (out : Outc) : Prop :=
  match g, dst, b with
  | none, some d, true => afterL X r n fr hp nx d K out
  | _, _, _ => False
theorem r_preN {K : St → Prop} : preL X [] ⟨n, fr, hp, nx⟩ K = K ⟨n, fr, hp, nx⟩ := propext Iff.rfl
theorem r_preC {o : Oper} {r : List Oper} {K : St → Prop} : preL X (o :: r) ⟨n, fr, hp, nx⟩ K = preB X o.guard o.dst (isRd o.op) r n fr hp nx K (aopR X.T o.op (evo fr) (hlk hp) 0) := by
  apply propext
  simp only [preL]
  rw [aop_out]
  unfold preB outA
  cases o.guard with
  | some g => simp
  | none =>
    cases o.dst with
    | none => simp
    | some d =>
      cases isRd o.op with
      | false => simp
      | true =>
        simp only [Option.isNone_none, Option.isSome_some, true_and]
        cases aopR X.T o.op (evo fr) (hlk hp) 0 with
        | none => simp [afterL]
        | some x => obtain ⟨p, x, upd, ac⟩ := x; simp [afterL, putA]
def callLV (F : CallF) (f : AV) (args : List AV) (dst : Option Tmp) (n : Nat) (fr : Frm) (hp : Hp) (nx : Nat) (K : St → Prop) : Prop :=
  match f with
  | .fn (.func g) first cap => F g (first ++ args ++ cap) hp nx (ret1 n fr dst K)
  | _ => False
def callLB (F : CallF) (c : Option (Operand × Array Operand)) (dst : Option Tmp) (n : Nat) (fr : Frm) (hp : Hp) (nx : Nat) (K : St → Prop) : Prop :=
  match c with
  | some (f, args) => callLV F (evo fr f) (args.toList.map (evo fr)) dst n fr hp nx K
  | none => False
theorem r_callL {o : Oper} {K : St → Prop} : callL F o ⟨n, fr, hp, nx⟩ K = callLB F (cv o.op) o.dst n fr hp nx K := by
  unfold callL
  split
  · rename_i f args ts ho
    rw [ho]
    dsimp only [callLB, cv, callLV]
    split
    · rename_i heq
      first
        | rfl
        | (rw [heq]; rfl)
    · rename_i h
      split
      · rename_i heq
        exact absurd heq (h _ _ _)
      · rfl
  · rename_i h
    have hc : cv o.op = none := by
      unfold cv
      split
      · rename_i f args ts ho
        exact absurd ho (h _ _ _)
      · rfl
    rw [hc]; rfl
def lateV (fr : Frm) (dst : Option Tmp) : Outc → Prop
  | some (p, x, upd, _) => p ∧ upd = [] ∧ x = dstV fr dst
  | none => False
theorem r_lateN : lateL X [] ⟨n, fr, hp, nx⟩ = True := rfl
theorem r_lateC {o : Oper} {r : List Oper} : lateL X (o :: r) ⟨n, fr, hp, nx⟩ = (lateV fr o.dst (aopR X.T o.op (evo fr) (hlk hp) 0) ∧ lateL X r ⟨n, fr, hp, nx⟩) := by
  apply propext
  simp only [lateL]
  rw [aop_out]
  unfold outA
  cases aopR X.T o.op (evo fr) (hlk hp) 0 with
  | none => simp [lateV]
  | some x => obtain ⟨p, x, upd, ac⟩ := x; simp [lateV]
def stepL (X : Ctx) (F : CallF) (all : List Oper) (c : Nat) (n : Nat) (fr : Frm) (hp : Hp) (nx : Nat) (K : St → Prop) : Option Oper → Prop
  | some o => o.guard.isNone = true ∧ lateOk all c = true ∧ preL X (all.take c) ⟨n, fr, hp, nx⟩ (fun s1 => callL F o s1 (restL X all c K))
  | none => False
def drawB (b : Bool) (X : Ctx) (F : CallF) (all : List Oper) (c base : Nat) (n : Nat) (fr : Frm) (hp : Hp) (nx : Nat) (K : St → Prop) (o : Option Oper) : Prop :=
  match b with
  | false => stepP X F all c base n fr hp nx K o
  | true => stepL X F all c n fr hp nx K o
theorem r_drawP {ops : List Oper} {c base : Nat} {K : St → Prop} : drawA X F ops (some c) base ⟨n, fr, hp, nx⟩ K = drawB (lateB ops) X F ops c base n fr hp nx K (ops[c]?) := by
  unfold drawA drawB
  dsimp only
  cases lateB ops with
  | false =>
    show opsP X F ops c base ⟨n, fr, hp, nx⟩ K = _
    unfold opsP stepP
    cases ops[c]? <;> rfl
  | true =>
    show opsL X F ops c ⟨n, fr, hp, nx⟩ K = _
    unfold opsL stepL
    cases ops[c]? <;> rfl
theorem r_seq {a b : Code} : codeA X F (.seq a b) Q ⟨n, fr, hp, nx⟩ = codeA X F a (thenA (codeA X F b Q) Q) ⟨n, fr, hp, nx⟩ := propext Iff.rfl
def condE (b : Bool) (p q : Prop) : Prop := (b = true → p) ∧ (b = false → q)
theorem condE_t (p q : Prop) : condE true p q = p := by simp [condE]
theorem condE_f (p q : Prop) : condE false p q = q := by simp [condE]
theorem condE_any (b : Bool) (p q : Prop) : condE b p q = ((b = true → p) ∧ (b = false → q)) := propext Iff.rfl
def condS (x : AV) (X : Ctx) (F : CallF) (a b : Code) (Q : Exit → St → Prop) (n : Nat) (fr : Frm) (hp : Hp) (nx : Nat) : Prop := condA x (codeA X F a Q ⟨n, fr, hp, nx⟩) (codeA X F b Q ⟨n, fr, hp, nx⟩)
theorem r_cond {c : Operand} {a b : Code} : codeA X F (.cond c a b) Q ⟨n, fr, hp, nx⟩ = condS (evo fr c) X F a b Q n fr hp nx := propext Iff.rfl
theorem r_condB {v : Bool} {a b : Code} : condS (.v (.bool v)) X F a b Q n fr hp nx = condE v (codeA X F a Q ⟨n, fr, hp, nx⟩) (codeA X F b Q ⟨n, fr, hp, nx⟩) := propext Iff.rfl
theorem r_condT {xs : List AV} {a b : Code} : condS (.nb xs true) X F a b Q n fr hp nx = ((xs = [] → codeA X F a Q ⟨n, fr, hp, nx⟩) ∧ codeA X F b Q ⟨n, fr, hp, nx⟩) := propext Iff.rfl
theorem r_condF {xs : List AV} {a b : Code} : condS (.nb xs false) X F a b Q n fr hp nx = (codeA X F a Q ⟨n, fr, hp, nx⟩ ∧ (xs = [] → codeA X F b Q ⟨n, fr, hp, nx⟩)) := propext Iff.rfl
theorem r_block {id : Nat} {b : Code} : codeA X F (.block id b) Q ⟨n, fr, hp, nx⟩ = codeA X F b (inBlockA id Q) ⟨n, fr, hp, nx⟩ := propext Iff.rfl
theorem r_loop {b : Code} : codeA X F (.loop b) Q ⟨n, fr, hp, nx⟩ = WP X (.loop b) Q ⟨n, fr, hp, nx⟩ := propext Iff.rfl
theorem r_exit {id : Nat} : codeA X F (.exit id) Q ⟨n, fr, hp, nx⟩ = Q (.exit id) ⟨n, fr, hp, nx⟩ := propext Iff.rfl
theorem r_scope {b : Code} : codeA X F (.scope b) Q ⟨n, fr, hp, nx⟩ = codeA X F b (inScopeA X b Q) ⟨n, fr, hp, nx⟩ := propext Iff.rfl
theorem r_label {l : Nat} : codeA X F (.label l) Q ⟨n, fr, hp, nx⟩ = Q .normal ⟨n, fr, hp, nx⟩ := propext Iff.rfl
theorem r_goto {l : Nat} : codeA X F (.goto l) Q ⟨n, fr, hp, nx⟩ = Q (.goto l) ⟨n, fr, hp, nx⟩ := propext Iff.rfl
theorem r_ret : codeA X F .ret Q ⟨n, fr, hp, nx⟩ = Q .ret ⟨n, fr, hp, nx⟩ := propext Iff.rfl

theorem r_then {K : St → Prop} : thenA K Q .normal ⟨n, fr, hp, nx⟩ = K ⟨n, fr, hp, nx⟩ := propext Iff.rfl
theorem r_thenR {K : St → Prop} : thenA K Q .ret ⟨n, fr, hp, nx⟩ = Q .ret ⟨n, fr, hp, nx⟩ := propext Iff.rfl
theorem r_thenE {K : St → Prop} {id : Nat} : thenA K Q (.exit id) ⟨n, fr, hp, nx⟩ = Q (.exit id) ⟨n, fr, hp, nx⟩ := propext Iff.rfl
theorem r_thenG {K : St → Prop} {l : Nat} : thenA K Q (.goto l) ⟨n, fr, hp, nx⟩ = Q (.goto l) ⟨n, fr, hp, nx⟩ := propext Iff.rfl
theorem r_blkN {id : Nat} : inBlockA id Q .normal ⟨n, fr, hp, nx⟩ = Q .normal ⟨n, fr, hp, nx⟩ := propext Iff.rfl
theorem r_blkR {id : Nat} : inBlockA id Q .ret ⟨n, fr, hp, nx⟩ = Q .ret ⟨n, fr, hp, nx⟩ := propext Iff.rfl
theorem r_blkG {id l : Nat} : inBlockA id Q (.goto l) ⟨n, fr, hp, nx⟩ = Q (.goto l) ⟨n, fr, hp, nx⟩ := propext Iff.rfl
theorem r_blkE {id id' : Nat} : inBlockA id Q (.exit id') ⟨n, fr, hp, nx⟩ = if id' = id then Q .normal ⟨n, fr, hp, nx⟩ else Q (.exit id') ⟨n, fr, hp, nx⟩ := propext Iff.rfl
theorem r_scpN {b : Code} : inScopeA X b Q .normal ⟨n, fr, hp, nx⟩ = Q .normal ⟨n, fr, hp, nx⟩ := propext Iff.rfl
theorem r_scpR {b : Code} : inScopeA X b Q .ret ⟨n, fr, hp, nx⟩ = Q .ret ⟨n, fr, hp, nx⟩ := propext Iff.rfl
theorem r_scpE {b : Code} {id : Nat} : inScopeA X b Q (.exit id) ⟨n, fr, hp, nx⟩ = Q (.exit id) ⟨n, fr, hp, nx⟩ := propext Iff.rfl

def resB (T : TEnv) (n : Nat) (fr : Frm) (hp : Hp) (nx : Nat) (K : AV → Hp → Nat → Prop) : List ResultVar → List AV → Prop
  | [], acc => match acc with
    | [x] => K x hp nx
    | xs => K (.tup xs) hp nx
  | .tmp t :: r, acc => resB T n fr hp nx K r (acc ++ [lkp fr t])
  | .cell t ty :: r, acc => match aopR T (.load ty (.tmp t)) (evo fr) (hlk hp) nx with
    | some (p, x, _, _) => p ∧ resB T n fr hp nx K r (acc ++ [x])
    | none => False

theorem resA_B {T : TEnv} {K : AV → Hp → Nat → Prop} : ∀ (rs : List ResultVar) (acc : List AV), (resA T ⟨n, fr, hp, nx⟩ rs acc fun xs => match xs with
      | [x] => K x hp nx
      | xs => K (.tup xs) hp nx) = resB T n fr hp nx K rs acc
  | [], acc => rfl
  | .tmp t :: r, acc => by simp only [resA, resB]; exact resA_B r _
  | .cell t ty :: r, acc => by
    simp only [resA, resB, aop_out]
    unfold outA
    cases aopR T (.load ty (.tmp t)) (evo fr) (hlk hp) nx with
    | none => rfl
    | some x => obtain ⟨p, y, u, a⟩ := x; simp only; rw [resA_B r]

theorem r_bodyR {T : TEnv} {fn : Func} {K : AV → Hp → Nat → Prop} : bodyQ T fn K .ret ⟨n, fr, hp, nx⟩ = resB T n fr hp nx K fn.results.toList [] := resA_B _ _
theorem r_bodyN {T : TEnv} {fn : Func} {K : AV → Hp → Nat → Prop} : bodyQ T fn K .normal ⟨n, fr, hp, nx⟩ = resB T n fr hp nx K fn.results.toList [] := resA_B _ _
theorem r_ret1 {dst : Option Tmp} {K : St → Prop} {r : AV} : ret1 n fr dst K r hp nx = putA ⟨n, fr, hp, nx⟩ dst r K := propext Iff.rfl

def inl (X : Ctx) (k : Nat) (fn : Option Func) (args : List AV) (hp : Hp) (nx : Nat) (K : AV → Hp → Nat → Prop) : Prop :=
  match fn with
  | some fn => (fn.name == "runtime.NumGoroutine") = false ∧ args.length ≤ fn.ntmps ∧ match fn.body with
    | some body => codeA X (callN X k) body (bodyQ X.T fn K) ⟨fn.ntmps, argFrm args 0, hp, nx⟩
    | none => False
  | none => False

def callG (r : Option AV) (X : Ctx) (k : Nat) (g : FuncId) (args : List AV) (hp : Hp) (nx : Nat) (K : AV → Hp → Nat → Prop) : Prop :=
  match r with
  | some r => K r (frzDeep hp args).2 nx
  | none => inl X k (X.P.funcs[g]?) args hp nx K

def callE (r : Option AV) (X : Ctx) (k : Nat) (g : FuncId) (args : List AV) (hp : Hp) (nx : Nat) (K : AV → Hp → Nat → Prop) : Prop :=
  match r with
  | some r => K r (frzArgs hp args).2 nx
  | none => callG (X.C g (frzDeep hp args).1) X k g args hp nx K

def callC (r : Option AV) (X : Ctx) (k : Nat) (g : FuncId) (args : List AV) (hp : Hp) (nx : Nat) (K : AV → Hp → Nat → Prop) : Prop :=
  match r with
  | some r => K r hp nx
  | none => callE (X.C g (frzArgs hp args).1) X k g args hp nx K

theorem r_call {k : Nat} {g : FuncId} {args : List AV} {K : AV → Hp → Nat → Prop} : callN X (k + 1) g args hp nx K = callC (X.C g args) X k g args hp nx K := by
  simp only [callN, callC, callE, callG, inl]
  all_goals
    cases X.C g args with
    | some r => rfl
    | none => cases X.C g (frzArgs hp args).1 with
      | some r => rfl
      | none => cases X.C g (frzDeep hp args).1 with
        | some r => rfl
        | none => cases X.P.funcs[g]? <;> rfl
theorem r_callC {r : AV} {k : Nat} {g : FuncId} {args : List AV} {K : AV → Hp → Nat → Prop} : callC (some r) X k g args hp nx K = K r hp nx := propext Iff.rfl
theorem r_callI {k : Nat} {g : FuncId} {args : List AV} {K : AV → Hp → Nat → Prop} : callC none X k g args hp nx K = callE (X.C g (frzArgs hp args).1) X k g args hp nx K := propext Iff.rfl
theorem r_callE {r : AV} {k : Nat} {g : FuncId} {args : List AV} {K : AV → Hp → Nat → Prop} : callE (some r) X k g args hp nx K = K r (frzArgs hp args).2 nx := propext Iff.rfl
theorem r_callJ {k : Nat} {g : FuncId} {args : List AV} {K : AV → Hp → Nat → Prop} : callE none X k g args hp nx K = callG (X.C g (frzDeep hp args).1) X k g args hp nx K := propext Iff.rfl
theorem r_callG {r : AV} {k : Nat} {g : FuncId} {args : List AV} {K : AV → Hp → Nat → Prop} : callG (some r) X k g args hp nx K = K r (frzDeep hp args).2 nx := propext Iff.rfl
theorem r_callH {k : Nat} {g : FuncId} {args : List AV} {K : AV → Hp → Nat → Prop} : callG none X k g args hp nx K = inl X k (X.P.funcs[g]?) args hp nx K := propext Iff.rfl
theorem r_callV {g : FuncId} {first cap args : List AV} {dst : Option Tmp} {K : St → Prop} : callV X F (.fn (.func g) first cap) args n fr hp nx dst K = F g (first ++ args ++ cap) hp nx (ret1 n fr dst K) := propext Iff.rfl
theorem r_callY {id : Nat} {args : List AV} {dst : Option Tmp} {K : St → Prop} : callV X F (.yld id) args n fr hp nx dst K = X.Y id args hp nx (ret1 n fr dst K) := propext Iff.rfl
end

end Go.Vai
/- Loops; and a function's contract where nil answers for a list of nothing. -/
namespace Go.Vai
open Go.RowKit

def sub1 : AV → AV → Prop
  | .v (.slice none 0 0), .lst _ ys => ys = []
  | x, y => x = y

def subL : List AV → List AV → Prop
  | [], [] => True
  | x :: xs, y :: ys => sub1 x y ∧ subL xs ys
  | _, _ => False

def subA : AV → AV → Prop
  | .tup xs, .tup ys => subL xs ys
  | x, y => sub1 x y

theorem sub1_con {E : Env} {x y : AV} {v : Value} (h : sub1 x y) (hx : Con E x v) : Con E y v := by
  unfold sub1 at h
  split at h
  · subst h
    cases hx
    exact .lst _ _ none 0 0 ⟨0, 0, none⟩ (fun _ _ => undef) rfl (Nat.le_refl _) (by simp) (by simp) (by simp) (by simp) (by simp)
  · exact h ▸ hx

theorem subL_con {E : Env} : ∀ {xs ys : List AV} {vs : List Value}, subL xs ys → xs.length = vs.length → (∀ (i : Nat) (x : AV) (v : Value), xs[i]? = some x → vs[i]? = some v → Con E x v) →
    ys.length = vs.length ∧ ∀ (i : Nat) (x : AV) (v : Value), ys[i]? = some x → vs[i]? = some v → Con E x v
  | [], [], vs, _, hl, h => ⟨hl, h⟩
  | x :: xs, y :: ys, [], _, hl, _ => by simp at hl
  | x :: xs, y :: ys, v :: vs, hs, hl, h => by
    obtain ⟨h1, h2⟩ := subL_con (vs := vs) hs.2 (by simpa using hl) fun i x' v' hx hv => h (i + 1) x' v' (by simpa using hx) (by simpa using hv)
    refine ⟨by simpa using h1, fun i x' v' hx hv => ?_⟩
    cases i with
    | zero =>
      simp only [List.getElem?_cons_zero, Option.some.injEq] at hx hv
      subst hx; subst hv
      exact sub1_con hs.1 (h 0 x v rfl rfl)
    | succ i => exact h2 i x' v' (by simpa using hx) (by simpa using hv)
  | [], _ :: _, _, hs, _, _ => hs.elim
  | _ :: _, [], _, hs, _, _ => hs.elim

theorem subA_con {E : Env} {x y : AV} {v : Value} (h : subA x y) (hx : Con E x v) : Con E y v := by
  unfold subA at h
  split at h
  · cases hx with
    | tup _ us hl hc =>
      obtain ⟨h1, h2⟩ := subL_con (vs := us.toList) h (by simpa using hl) fun i x v hx hv => hc i x v hx (by simpa using hv)
      exact .tup _ _ (by simpa using h1) fun i x v hx hv => h2 i x v hx (by simpa using hv)
  · exact sub1_con h hx

theorem cells_agg (cs : List AV) : (AV.agg cs).cells = cs := rfl
theorem cells_v (x : Value) : (AV.v x).cells = [.v x] := rfl
theorem cells_lst (n : Nat) (xs : List AV) : (AV.lst n xs).cells = [.lst n xs] := rfl
theorem cells_ptr (a b c : Nat) : (AV.ptr a b c).cells = [.ptr a b c] := rfl
theorem cells_arr (a b c : Nat) : (AV.arr a b c).cells = [.arr a b c] := rfl
theorem cells_fn (f : Fn) (a b : List AV) : (AV.fn f a b).cells = [.fn f a b] := rfl

section
variable {X : Ctx}

/-- THE EVALUATOR'S WORD FOR A FUNCTION'S CONTRACT. -/
theorem pure_sub (hX : X.ok) (n : Nat) {g : FuncId} {fn : Func} {body : Code} (hfn : X.P.funcs[g]? = some fn) (hb : fn.body = some body) {args : List AV} {r : AV} (hl : args.length ≤ fn.ntmps)
    (h : codeA X (callN X n) body (bodyQ X.T fn fun r0 hp _ => frz hp r0 (subA · r)) ⟨fn.ntmps, argFrm args 0, [], 0⟩) : PureC X.P g args r := by
  intro w K vs hK ha
  refine (body_calls hX.core hX.rd (callN_sound hX.core hX.rd hX.inv n) hfn hb hl h (hX.inv _ _) (rel_start hK) ha).mono ?_
  rintro e w' ⟨v, r0, hp', nx', E', rfl, h1, h2, h3, h4⟩
  obtain ⟨y, hy, hc⟩ := frz_sound h4 (K' := grow w K w') (fun b o hb => by
    simp only [grow]
    split
    · rename_i hlt; exact h4.k0 b o hb hlt
    · exact h4.kw b o hb) (fun b hb => by simp only [grow, if_neg (Nat.not_lt.2 hb)]) h3 h1
  exact ⟨v, rfl, h4.below, subA_con hy hc⟩

/-- What is kept of a frame, and of blocks. -/
def kp (fr : Frm) : Frm → Prop
  | [] => True
  | (t, x) :: r => sub1 (lkp fr t) x ∧ kp fr r

def kh (hp : Hp) : Hp → Prop
  | [] => True
  | (t, x) :: r => hlk hp t = x ∧ kh hp r

theorem kp_lkp {fr : Frm} : ∀ {fr' : Frm}, kp fr fr' → ∀ t, lkp fr' t = .top ∨ sub1 (lkp fr t) (lkp fr' t)
  | [], _, t => .inl rfl
  | (d, x) :: r, h, t => by
    rw [lkp_cons]
    by_cases e : t = d
    · subst e; rw [if_pos rfl]; exact .inr h.1
    · rw [if_neg e]; exact kp_lkp h.2 t

theorem kh_hlk {hp : Hp} : ∀ {hp' : Hp}, kh hp hp' → ∀ id b, hlk hp' id = some b → hlk hp id = some b
  | [], _, id, b, h => by cases h
  | (d, x) :: r, h, id, b, hb => by
    rw [hlk_cons] at hb
    by_cases e : id = d
    · subst e; rw [if_pos rfl] at hb; rw [h.1, hb]
    · rw [if_neg e] at hb; exact kh_hlk h.2 id b hb

theorem Rel.weak {w0 : World} {K0 : Nat → Option Obj} {D : Nat → Prop} {E : Env} {n : Nat} {fr fr' : Frm} {hp hp' : Hp} {a : Act} {w : World} (h : Rel w0 K0 D E n fr hp a w) (hf : kp fr fr') (hh : kh hp hp') :
    Rel w0 K0 D E n fr' hp' a w :=
  { below := h.below, kw := h.kw, k0 := h.k0, nd := h.nd, size := h.size, dom := h.dom, lw := h.lw,
    regs := fun t ht => by
      rcases kp_lkp hf t with e | e
      · rw [e]; exact .top _
      · exact sub1_con e (h.regs t ht),
    out := fun t ht => by
      rcases kp_lkp hf t with e | e
      · exact e
      · rw [h.out t ht] at e; exact e.symm,
    own := fun id b hb => h.own id b (kh_hlk hh id b hb), inj := fun id id' b b' g h1 h2 => h.inj id id' b b' g (kh_hlk hh id b h1) (kh_hlk hh id' b' h2) }

theorem wpIn_loopg {F : Fence} {rm : Nat} {P : Program} {Q : Exit → Act → World → Prop} {a : Act} {w : World} {c : Code} (I : Nat → Act → World → Prop) (n₀ : Nat) (h₀ : I n₀ a w)
    (round : ∀ n a w, I n a w → c.wpIn F rm P (Exit.then (fun a' w' => ∃ n', n' < n ∧ I n' a' w') Q) a w) : (Code.loop c).wpIn F rm P Q a w := by
  refine wpIn_loop (fun a w => ∃ n, I n a w) (fun a w => leastOf (fun n => I n a w)) ⟨n₀, h₀⟩ ?_
  intro a w hI
  refine wpIn_mono (round _ a w (leastOf_spec hI).1) ?_
  intro e a' w' hq
  cases e with
  | normal =>
    obtain ⟨n', hlt, hI'⟩ := hq
    exact show (∃ n, I n a' w') ∧ leastOf (fun n => I n a' w') < leastOf (fun n => I n a w) from ⟨⟨n', hI'⟩, Nat.lt_of_le_of_lt ((leastOf_spec ⟨n', hI'⟩).2 n' hI') hlt⟩
  | _ => exact hq

/-- A loop's head: the states of an index. -/
def again {ι : Type} (μ : ι → Nat) (ok : ι → Prop) (n : Nat) (fr : ι → Frm) (hp : ι → Hp) (m : Nat) (s : St) : Prop :=
  ∃ j, μ j < m ∧ ok j ∧ s.n = n ∧ kp s.fr (fr j) ∧ kh s.hp (hp j)

theorem WP.loop {ι : Type} (μ : ι → Nat) (ok : ι → Prop) {n : Nat} {fr : ι → Frm} {hp : ι → Hp} {b : Code} {Q : Exit → St → Prop} {N : Nat}
    (round : ∀ i nx, ok i → N ≤ nx → (∀ id b, hlk (hp i) id = some b → id < nx) → WP X b (thenA (again μ ok n fr hp (μ i)) Q) ⟨n, fr i, hp i, nx⟩) (i : ι) {s : St} (hi : ok i) (hn : s.n = n) (hN : N ≤ s.nx) (hf : kp s.fr (fr i)) (hh : kh s.hp (hp i)) (im : ∀ w0 E E', X.inv w0 E → E.le E' → X.inv w0 E' := by exact fun _ _ _ _ _ => trivial) : WP X (.loop b) Q s := by
  intro w0 K0 E a w hi0 hr
  refine wpIn_loopg (fun k a w => ∃ j nx E', μ j = k ∧ ok j ∧ Ext E s.nx E' nx ∧ RelS w0 K0 E' ⟨n, fr j, hp j, nx⟩ a w) (μ i) ⟨i, s.nx, E, rfl, hi, Ext.refl E s.nx, ?_⟩ ?_
  · have := hr.weak hf hh
    rw [hn] at this
    exact this
  · rintro k a' w' ⟨j, nx, E', rfl, hj, hext, hrel⟩
    refine wpIn_mono (round j nx hj (Nat.le_trans hN hext.up) (fun id b hb => hrel.dom id (hrel.own id b hb).1) w0 K0 E' a' w' (im _ _ _ hi0 hext.le) hrel) ?_
    rintro e a2 w2 ⟨s2, E2, h1, h2, h3⟩
    cases e with
    | normal =>
      obtain ⟨j', k1, k2, k3, k4, k5⟩ := h1
      refine ⟨μ j', k1, j', s2.nx, E2, rfl, k2, hext.trans h2, ?_⟩
      have := h3.weak k4 k5
      rw [k3] at this
      exact this
    | _ => exact ⟨s2, E2, h1, hext.trans h2, h3⟩

theorem r_again {ι : Type} {μ : ι → Nat} {ok : ι → Prop} {n n' nx : Nat} {fr : ι → Frm} {hp : ι → Hp} {m : Nat} {fr' : Frm} {hp' : Hp} :
    again μ ok n fr hp m ⟨n', fr', hp', nx⟩ = ∃ j, μ j < m ∧ ok j ∧ n' = n ∧ kp fr' (fr j) ∧ kh hp' (hp j) := rfl

theorem entryOk_nil (all : List Oper) (k : Nat) (acc wr : List Nat) : entryOk all [] k acc wr = true := rfl

theorem meets_nil (a : List Nat) : meets [] a = false := rfl
theorem entryOk_rd (all : List Oper) (log : Log) (j k : Nat) (acc acc' : List Nat) : entryOk all ((j, acc', []) :: log) k acc [] = entryOk all log k acc [] := by
  simp [entryOk, meets_nil]

/-! Names of blocks, from a name nx on. -/
theorem nb_self (n : Nat) : Nat.beq n n = true := Nat.beq_refl n
theorem nb_same (n a b : Nat) : Nat.beq (n + a) (n + b) = Nat.beq a b := by
  rw [Bool.eq_iff_iff, Nat.beq_eq, Nat.beq_eq]; omega
theorem nb_l0 (n b : Nat) : Nat.beq n (n + b) = Nat.beq 0 b := by
  rw [Bool.eq_iff_iff, Nat.beq_eq, Nat.beq_eq]; omega
theorem nb_r0 (n a : Nat) : Nat.beq (n + a) n = Nat.beq a 0 := by
  rw [Bool.eq_iff_iff, Nat.beq_eq, Nat.beq_eq]; omega
theorem nb_lt {k n : Nat} (h : k < n) (a : Nat) : Nat.beq k (n + a) = false := by
  rw [← Bool.not_eq_true, Nat.beq_eq]; omega
theorem nb_gt {k n : Nat} (h : k < n) (a : Nat) : Nat.beq (n + a) k = false := by
  rw [← Bool.not_eq_true, Nat.beq_eq]; omega
theorem nb_lt0 {k n : Nat} (h : k < n) : Nat.beq k n = false := by
  rw [← Bool.not_eq_true, Nat.beq_eq]; omega
theorem nb_gt0 {k n : Nat} (h : k < n) : Nat.beq n k = false := by
  rw [← Bool.not_eq_true, Nat.beq_eq]; omega

/-- Code, by the evaluator. -/
theorem WP.ofX (hX : X.core) {F : CallF} (hF : CallSound X F) {c : Code} {Q : Exit → St → Prop} {s : St} (hd : drawsOk c = true) (h : codeA X F c Q s) : WP X c Q s := codeA_sound hX hF c Q s hd h
theorem WP.of (hX : X.ok) (k : Nat) {c : Code} {Q : Exit → St → Prop} {s : St} (hd : drawsOk c = true) (h : codeA X (callN X k) c Q s) : WP X c Q s := codeA_sound hX.core (callN_sound hX.core hX.rd hX.inv k) c Q s hd h

/-- A loop, round by round. -/
def roundsC (X : Ctx) (F : CallF) (c : Code) (Q : Exit → St → Prop) : Nat → St → Prop
  | 0, _ => False
  | k + 1, s => codeA X F c (thenA (roundsC X F c Q k) Q) s

theorem r_rounds {F : CallF} {c : Code} {Q : Exit → St → Prop} {k n nx : Nat} {fr : Frm} {hp : Hp} : roundsC X F c Q (k + 1) ⟨n, fr, hp, nx⟩ = codeA X F c (thenA (roundsC X F c Q k) Q) ⟨n, fr, hp, nx⟩ := propext Iff.rfl

theorem rounds_sound (hX : X.core) {F : CallF} (hF : CallSound X F) {c : Code} {Q : Exit → St → Prop} (hd : drawsOk c = true) {w0 : World} {K0 : Nat → Option Obj} {E0 : Env} {nx0 : Nat} : ∀ (k : Nat) (s : St) (E : Env) (a : Act) (w : World), roundsC X F c Q k s → X.inv w0 E → Ext E0 nx0 E s.nx → RelS w0 K0 E s a w →
    Code.roundsIn (FW X.rd) 0 X.P c (fun e a' w' => ∃ s' E', Q e s' ∧ Ext E0 nx0 E' s'.nx ∧ RelS w0 K0 E' s' a' w') k a w
  | 0, _, _, _, _, h, _, _, _ => h.elim
  | k + 1, s, E, a, w, h, hi, hE, hr => by
    show c.wpIn (FW X.rd) 0 X.P (Exit.then (Code.roundsIn (FW X.rd) 0 X.P c _ k) _) a w
    refine wpIn_mono (codeA_sound hX hF c _ s hd h w0 K0 E a w hi hr) ?_
    rintro e a' w' ⟨s', E', h1, h2, h3⟩
    cases e with
    | normal => exact rounds_sound hX hF hd k s' E' a' w' h1 (hX.im _ _ _ hi h2.le) (hE.trans h2) h3
    | _ => exact ⟨s', E', h1, hE.trans h2, h3⟩

theorem WP.roundsX (hX : X.core) {F : CallF} (hF : CallSound X F) (k : Nat) {c : Code} {Q : Exit → St → Prop} {s : St} (hd : drawsOk c = true) (h : roundsC X F c Q k s) : WP X (.loop c) Q s :=
  fun w0 K0 E a w hi hr => wpIn_loop_rounds k (rounds_sound hX hF hd k s E a w h hi (Ext.refl E s.nx) hr)
theorem WP.rounds (hX : X.ok) (m k : Nat) {c : Code} {Q : Exit → St → Prop} {s : St} (hd : drawsOk c = true) (h : roundsC X (callN X m) c Q k s) : WP X (.loop c) Q s :=
  WP.roundsX hX.core (callN_sound hX.core hX.rd hX.inv m) k hd h

/-- nil as a list of the call's own. -/
theorem WP.virt {c : Code} {Q : Exit → St → Prop} {n nx : Nat} {fr : Frm} {hp : Hp} (t : Nat) (ty : TypeId) (sz : Nat) (ht : lkp fr t = .v (.slice none 0 0)) (hs : 0 < sz)
    (h : WP X c Q ⟨n, (t, .arr nx 0 0) :: fr, (nx, some ⟨false, ty, sz, []⟩) :: hp, nx + 1⟩) (im : ∀ w0 E E', X.inv w0 E → E.le E' → X.inv w0 E' := by exact fun _ _ _ _ _ => trivial) : WP X c Q ⟨n, fr, hp, nx⟩ := by
  intro w0 K0 E a w hi0 hr
  have hme : ¬ E.dom nx := fun h => Nat.lt_irrefl _ (hr.dom nx h)
  have hv := Rel.virt hr hme (D' := fun id => id < nx + 1) (fun id h => h.elim Nat.lt_succ_of_lt fun e => e ▸ Nat.lt_succ_self _) ty sz hs
  have hx : Ext E nx (E.add nx none sz 0) (nx + 1) := ⟨Env.le_add hme .., by omega, fun id h => h.elim (fun e => .inr (by omega)) .inl⟩
  have hr2 : RelS w0 K0 (E.add nx none sz 0) ⟨n, (t, .arr nx 0 0) :: fr, (nx, some ⟨false, ty, sz, []⟩) :: hp, nx + 1⟩ a w := by
    have htn : t < n := by
      by_cases hlt : t < n
      · exact hlt
      · have := hr.out t (by dsimp only; omega)
        dsimp only at this
        rw [ht] at this; cases this
    refine { hv with regs := fun t' ht' => ?_, out := fun t' ht' => ?_ }
    · rw [lkp_cons]
      by_cases e : t' = t
      · subst e
        rw [if_pos rfl]
        have := hr.regs t' ht'
        dsimp only at this
        rw [ht] at this
        generalize a.tmps.getD t' undef = v at this
        cases this
        exact .arr0 nx (.inl rfl) (if_pos rfl)
      · rw [if_neg e]; exact hv.regs t' ht'
    · have h1 : n ≤ t' := ht'
      show lkp ((t, _) :: fr) t' = .top
      rw [lkp_cons, if_neg (by omega)]
      exact hv.out t' ht'
  refine wpIn_mono (h w0 K0 _ a w (im _ _ _ hi0 hx.le) hr2) ?_
  rintro e a' w' ⟨s', E', h1, h2, h3⟩
  exact ⟨s', E', h1, hx.trans h2, h3⟩

/-- To look at a state while a proof is being made: nothing follows from it. -/
def Peek (_ : Frm) (_ : Hp) (_ : Nat) : Prop := False
theorem WP.peek {c : Code} {Q : Exit → St → Prop} {n nx : Nat} {fr : Frm} {hp : Hp} (h : Peek fr hp nx) : WP X c Q ⟨n, fr, hp, nx⟩ := h.elim
end

end Go.Vai
/- A range over a function: the iterator's code and the rounds' are walked as one; and a function that leaves with a range's mark. -/
namespace Go.Vai
open Go.RowKit
set_option linter.unusedVariables false

/-- A function that may leave marks behind. -/
def Ctx.top (X : Ctx) : Ctx := { X with inv := fun _ E => E.mrk = true }
/-- A round's code. -/
def Ctx.inR (X : Ctx) (l : Nat) : Ctx := { X with rd := some l }
/-- An iterator's code. -/
def Ctx.iter (X : Ctx) (Y : YldF) (inv : World → Env → Prop) : Ctx := { X with Y := Y, inv := inv }

section
variable {X : Ctx}

theorem top_core (hX : X.ok) : X.top.core :=
  ⟨fun id args hp nx K h => (hX.noY id args hp nx K h).elim, fun w0 E E' h hle => hle.mrk.trans h, hX.core.T, hX.core.draws, hX.core.C⟩
theorem inR_core (hX : X.ok) (l : Nat) : (X.inR l).core :=
  ⟨fun id args hp nx K h => (hX.noY id args hp nx K h).elim, hX.core.im, hX.core.T, hX.core.draws, hX.core.C⟩
end

/-- What is left behind by a round, by a number. -/
def jumpOf : Nat → Option Code
  | 0 => none
  | 1 => none
  | 2 => some .ret
  | t + 3 => if t % 2 = 0 then some (.exit (t / 2)) else some (.goto (t / 2))

/-- A range's record: 0: ready, 1: busy, else done. -/
def recL (fn : FuncId) (tmps : Array Value) (ps : Array Tmp) (as bd : Code) (D : Nat) (t : Nat) : Loop :=
  { state := if t = 0 then .ready else if t = 1 then .busy else .done, pending := jumpOf t, fn := fn, tmps := tmps, params := ps, assign := as, body := bd, defers := D }

def gBlk (t : Nat) : Blk := ⟨false, t, 1, []⟩

/-- A round's end. -/
def roundK (nx0 : Nat) (K : AV → Hp → Nat → Prop) : Exit → St → Prop
  | .normal, s => hlk s.hp nx0 = some (gBlk 1) ∧ K (.v (.bool true)) ((nx0, some (gBlk 0)) :: s.hp) s.nx
  | .ret, s => hlk s.hp nx0 = some (gBlk 1) ∧ K (.v (.bool false)) ((nx0, some (gBlk 2)) :: s.hp) s.nx
  | .exit id, s => hlk s.hp nx0 = some (gBlk 1) ∧ K (.v (.bool false)) ((nx0, some (gBlk (2 * id + 3))) :: s.hp) s.nx
  | .goto l, s => hlk s.hp nx0 = some (gBlk 1) ∧ K (.v (.bool false)) ((nx0, some (gBlk (2 * l + 4))) :: s.hp) s.nx
  | _, _ => False

/-- A round's parameters. -/
def zipF : List Tmp → List AV → Frm → Frm
  | p :: ps, x :: xs, fr => zipF ps xs ((p, x) :: fr)
  | _, _, fr => fr

def noQ (_ : Exit) (_ : St) : Prop := False

/-- A round's start: its record is busy from here on. -/
def startR (X : Ctx) (F : CallF) (l nx0 : Nat) (bd : Code) (K : AV → Hp → Nat → Prop) (s : St) : Prop :=
  hlk s.hp nx0 = some (gBlk 0) ∧ codeA (X.inR l) F bd (roundK nx0 K) ⟨s.n, s.fr, (nx0, some (gBlk 1)) :: s.hp, s.nx⟩

/-- What a yield comes to: a round. -/
def yldH (X : Ctx) (F : CallF) (nx0 n : Nat) (fr : Frm) (ps : List Tmp) (as bd : Code) : YldF := fun id args hp nx K =>
  id = nx0 ∧ hlk hp nx0 = some (gBlk 0) ∧ args.length = ps.length ∧ ps.all (· < n) = true ∧ ∀ l, codeA (X.inR l) F as (thenA (startR X F l nx0 bd K) noQ) ⟨n, zipF ps args fr, hp, nx⟩

/-- Behind the iterator. -/
def endJ (Q : Exit → St → Prop) (s : St) : Nat → Prop
  | 0 => Q .normal s
  | 1 => False
  | 2 => Q .ret s
  | t + 3 => if t % 2 = 0 then Q (.exit (t / 2)) s else Q (.goto (t / 2)) s

def endR (nx0 n : Nat) (fr : Frm) (Q : Exit → St → Prop) (_ : AV) (hp : Hp) (nx : Nat) : Prop :=
  match hlk hp nx0 with
  | some b => endJ Q ⟨n, fr, (nx0, none) :: hp, nx⟩ b.ty
  | none => False

theorem Marks.mono' {B : Nat} {K K' : Nat → Option Obj} : ∀ {ds : List Deferred}, (∀ D, { target := .collected D, args := #[] } ∈ ds → K D = some (.deferred (some [])) → K' D = some (.deferred (some []))) → Marks B K ds → Marks B K' ds
  | [], _, h => h
  | d :: ds, hk, ⟨⟨D, h1, h2, h3, h4⟩, h⟩ => ⟨⟨D, h1, h2, hk D (h1 ▸ List.mem_cons_self) h3, h4⟩, h.mono' fun D' hm => hk D' (List.mem_cons_of_mem _ hm)⟩

section
variable {w0 : World} {K0 : Nat → Option Obj} {D : Nat → Prop} {E : Env} {n : Nat} {fr : Frm} {hp : Hp} {a : Act} {w : World}

/-- Of a range's name: its record is as its state says. -/
theorem Rel.loopIs (h : Rel w0 K0 D E n fr hp a w) {id : Nat} {b : Blk} (hb : hlk hp id = some b) (hρ : E.ρ id = none) : LoopIs E w id b.ty := by
  rcases (h.own id b hb).2.2.2.2 with ⟨_, _, _, h4⟩ | ⟨g, cur, h1, _⟩
  · exact h4
  · rw [hρ] at h1; cases h1

/-- A range's record is turned; its name says nothing. -/
theorem Rel.putL (h : Rel w0 K0 D E n fr hp a w) {id l : Nat} {r : Nat → Obj} {b : Blk} (hb : hlk hp id = some b) (hρ : E.ρ id = none) (hlp : E.lp id = some (l, r)) (hB : w0.heap.size ≤ l) (o : Obj) :
    Rel w0 K0 D E n fr ((id, none) :: hp) a (w.putObj l o) := by
  obtain ⟨e1, e2, e3, e4⟩ := h.loopIs hb hρ l r hlp
  have hk := h.kill id
  have hot : ∀ k, k ≠ l → (w.putObj l o).heap[k]? = w.heap[k]? := fun k hk => World.putObj_heap_other hk
  refine { below := ⟨h.below.os, h.below.tape, h.below.output, by rw [World.putObj_size]; exact h.below.size, fun k hk => (hot k (by omega)).trans (h.below.block k hk)⟩,
           kw := ?_, k0 := h.k0, nd := h.nd, size := h.size, regs := h.regs, dom := h.dom, lw := fun l' i hl => by rw [World.putObj_size]; exact h.lw l' i hl, out := h.out, own := ?_, inj := hk.inj }
  · intro k o' hko
    rw [hot k (fun e => by rw [e, e4] at hko; cases hko)]
    exact h.kw k o' hko
  · intro i x hx
    have hne : i ≠ id := fun e => by rw [e, hlk_cons, if_pos rfl] at hx; cases hx
    obtain ⟨hd, hs, hp1, hm, ho⟩ := hk.own i x hx
    refine ⟨hd, hs, hp1, hm, ?_⟩
    rcases ho with ⟨h1, h2, h3, h4⟩ | ⟨g, cur, h1, h2, h3, h4, h5, h6, h7, h8⟩
    · refine .inl ⟨h1, h2, h3, fun l' r' he => ?_⟩
      obtain ⟨f1, f2, f3, f4⟩ := h4 l' r' he
      exact ⟨(hot l' (fun e => by rw [e, e3] at f3; cases f3; exact hne rfl)).trans f1, f2, f3, f4⟩
    · refine .inr ⟨g, cur, h1, h2, (hot g (fun e => by rw [e, e1] at h3; obtain ⟨L, hL⟩ := e2; rw [hL] at h3; cases h3)).trans h3, h4, h5, h6, h7, h8⟩

/-- A range's record is turned to another state. -/
theorem Rel.state (h : Rel w0 K0 D E n fr hp a w) {id l : Nat} {r : Nat → Obj} {b : Blk} (hb : hlk hp id = some b) (hel : b.el = []) (hρ : E.ρ id = none) (hlp : E.lp id = some (l, r)) (hB : w0.heap.size ≤ l) (t : Nat) (ht : ∃ L, r t = .loop L) (ro : Bool) :
    Rel w0 K0 D E n fr ((id, some { b with ty := t, ro := ro }) :: hp) a (w.putObj l (r t)) := by
  obtain ⟨e1, e2, e3, e4⟩ := h.loopIs hb hρ l r hlp
  have hp1 := h.putL hb hρ hlp hB (r t)
  obtain ⟨hd, hs, hp0, hm, ho⟩ := h.own id b hb
  have f : ∀ i x, hlk ((id, some ({ b with ty := t, ro := ro } : Blk)) :: hp) i = some x → (i = id ∧ x = { b with ty := t, ro := ro }) ∨ (i ≠ id ∧ hlk ((id, none) :: hp) i = some x) := by
    intro i x hx
    rw [hlk_cons] at hx
    by_cases e : i = id
    · rw [if_pos e] at hx; cases hx; exact .inl ⟨e, rfl⟩
    · rw [if_neg e] at hx; exact .inr ⟨e, by rw [hlk_cons, if_neg e]; exact hx⟩
  have hcap : E.cap id = 0 := by
    rcases ho with ⟨_, _, h3, _⟩ | ⟨g, cur, h1, _⟩
    · exact h3
    · rw [hρ] at h1; cases h1
  refine { hp1 with own := fun i x hx => ?_, inj := fun i j x y g hx hy hg1 hg2 => ?_ }
  · rcases f i x hx with ⟨rfl, rfl⟩ | ⟨_, hx'⟩
    · refine ⟨hd, hs, hp0, hm, .inl ⟨hρ, hel, hcap, fun l' r' he => ?_⟩⟩
      rw [hlp] at he; cases he
      exact ⟨World.putObj_heap_same (heap_lt e1), ht, e3, e4⟩
    · exact hp1.own i x hx'
  · rcases f i x hx with ⟨rfl, rfl⟩ | ⟨_, hx'⟩
    · rw [hρ] at hg1; cases hg1
    · rcases f j y hy with ⟨rfl, rfl⟩ | ⟨_, hy'⟩
      · rw [hρ] at hg2; cases hg2
      · exact hp1.inj i j x y g hx' hy' hg1 hg2

/-- Another activation's frame over the same world. -/
theorem Rel.frame (h : Rel w0 K0 D E n fr hp a w) {m : Nat} {fr' : Frm} {a' : Act} (hn : (E.mrk = false → a'.defers = []) ∧ Marks w0.heap.size E.K a'.defers) (hs : a'.tmps.size = m) (hr : ∀ t, t < m → Con E (lkp fr' t) (a'.tmps.getD t undef)) (ho : ∀ t, m ≤ t → lkp fr' t = .top) :
    Rel w0 K0 D E m fr' hp a' w :=
  { below := h.below, kw := h.kw, k0 := h.k0, nd := hn, size := hs, regs := hr, dom := h.dom, lw := h.lw, out := ho, own := h.own, inj := h.inj }

/-- A round's parameters are written. -/
theorem zip_rel : ∀ (ps : List Tmp) (xs : List AV) (vs : List Value) (fr : Frm) (ts : Array Value), Rel w0 K0 D E n fr hp { tmps := ts, defers := [] } w → ps.all (· < n) = true → xs.length = ps.length → xs.length = vs.length →
    (∀ (i : Nat) (x : AV) (v : Value), xs[i]? = some x → vs[i]? = some v → Con E x v) →
    Rel w0 K0 D E n (zipF ps xs fr) hp { tmps := (ps.zip vs).foldl (fun t (p, v) => t.setIfInBounds p v) ts, defers := [] } w
  | [], [], vs, fr, ts, h, _, _, _, _ => by simpa [zipF] using h
  | [], _ :: _, vs, fr, ts, h, _, hl, _, _ => by simp at hl
  | p :: ps, [], vs, fr, ts, h, _, hl, _, _ => by simp at hl
  | p :: ps, x :: xs, [], fr, ts, h, _, _, hl, _ => by simp at hl
  | p :: ps, x :: xs, v :: vs, fr, ts, h, ha, hl, hl', hc => by
    simp only [List.all_cons, Bool.and_eq_true, decide_eq_true_eq] at ha
    have := h.put ha.1 (hc 0 x v rfl rfl)
    exact zip_rel ps xs vs _ _ this ha.2 (by simpa using hl) (by simpa using hl') fun i y u hy hu => hc (i + 1) y u (by simpa using hy) (by simpa using hu)
end
end Go.Vai
/- A range over a function: the rule; and functions that leave with a range's mark. -/
namespace Go.Vai
open Go.RowKit
set_option linter.unusedVariables false

theorem jump_exit (id : Nat) : jumpOf (2 * id + 3) = some (.exit id) := by simp [jumpOf]
theorem jump_goto (l : Nat) : jumpOf (2 * l + 4) = some (.goto l) := by
  show (if (2 * l + 1) % 2 = 0 then _ else _) = _
  rw [if_neg (by omega), show (2 * l + 1) / 2 = l by omega]

section
variable {X : Ctx}

theorem yldH_sound (hX : X.ok) (k : Nat) {nx0 n : Nat} {fr : Frm} {ps : List Tmp} {as bd : Code} (hda : drawsOk as = true) (hdb : drawsOk bd = true) {E1 : Env} {l D : Nat} {fnid : FuncId} {ts : Array Value} (hts : ts.size = n)
    (hfr : ∀ t, t < n → Con E1 (lkp fr t) (ts.getD t undef)) (hout : ∀ t, n ≤ t → lkp fr t = .top) (hdom1 : E1.dom nx0) (hρ1 : E1.ρ nx0 = none) (hlp1 : E1.lp nx0 = some (l, fun t => .loop (recL fnid ts ps.toArray as bd D t))) :
    YieldSound (X.iter (yldH X (callN X k) nx0 n fr ps as bd) (fun w0' E' => w0'.heap.size ≤ l ∧ E1.le E')) := by
  intro id args hp nx K hY w0 K0 E m fr' a w l' q vs hinv hrel hd hlp hargs
  obtain ⟨hid, hrdy, hlen, hps, hall⟩ := hY
  subst hid
  obtain ⟨hB, hle⟩ := hinv
  have hlp' : E.lp id = some (l, fun t => .loop (recL fnid ts ps.toArray as bd D t)) := (hle.lp id hdom1).trans hlp1
  rw [hlp'] at hlp; cases hlp
  have hρ' : E.ρ id = none := (hle.ρ id hdom1).trans hρ1
  obtain ⟨e1, e2, e3, e4⟩ := hrel.loopIs hrdy hρ' l _ hlp'
  have hF : CallSound (X.inR l) (callN X k) := callN_sound hX.core hX.rd hX.inv k
  refine ⟨fnid, _, as, bd, run_yield (r := recL fnid ts ps.toArray as bd D 0) e1 (by have := hargs.1; simp [recL]; omega), ?_⟩
  show RoundIn (FW X.rd) 0 X.P l fnid _ as bd w _
  rw [hX.rd]
  refine roundIn_of_wpIn (F := FW none) trivial ?_
  have hbase : Rel w0 K0 (fun id => id < nx) E n fr hp { tmps := ts, defers := [] } w := hrel.frame ⟨fun _ => rfl, trivial⟩ hts (fun t ht => (hfr t ht).mono hle) hout
  have hz := zip_rel ps args vs.toList fr ts hbase hps hlen (by simpa using hargs.1) (fun i x v hx hv => hargs.2 i x v hx (by simpa using hv))
  have hfold : ((recL fnid ts ps.toArray as bd D 0).params.zip vs).foldl (fun (t : Array Value) (p : Tmp × Value) => t.setIfInBounds p.1 p.2) (recL fnid ts ps.toArray as bd D 0).tmps = (ps.zip vs.toList).foldl (fun t p => t.setIfInBounds p.1 p.2) ts := by
    cases vs; simp [recL]
  rw [hfold]
  have hwp := codeA_sound (inR_core hX l) hF as _ ⟨n, zipF ps args fr, hp, nx⟩ hda (hall l) w0 K0 E _ w (hX.inv _ _) hz
  refine wpIn_mono hwp ?_
  rintro e a1 w1 ⟨s1, E2, h1, h2, h3⟩
  cases e with
  | normal =>
    obtain ⟨hr1, hb1⟩ : startR X (callN X k) l id bd K s1 := h1
    have hρ2 : E2.ρ id = none := (h2.le.ρ id hd).trans hρ'
    have hlp2 := (h2.le.lp id hd).trans hlp'
    obtain ⟨f1, f2, f3, f4⟩ := h3.loopIs hr1 hρ2 l _ hlp2
    refine ⟨_, run_beginRound (r := recL fnid ts ps.toArray as bd D 0) f1 rfl, ?_⟩
    have h4 := h3.state hr1 rfl hρ2 hlp2 hB 1 ⟨_, rfl⟩ false
    have hwp2 := codeA_sound (inR_core hX l) hF bd _ ⟨s1.n, s1.fr, (id, some (gBlk 1)) :: s1.hp, s1.nx⟩ hdb hb1 w0 K0 E2 a1 _ (hX.inv _ _) h4
    refine wpIn_mono hwp2 ?_
    rintro e3 a3 w3 ⟨s3, E3, g1, g2, g3⟩
    have hd2 : E2.dom id := h2.le.dom id hd
    have hρ3 : E3.ρ id = none := (g2.le.ρ id hd2).trans hρ2
    have hlp3 := (g2.le.lp id hd2).trans hlp2
    have hle3 : E.le E3 := h2.le.trans g2.le
    have fin : ∀ (t : Nat) (bv : Bool) (jump : Option Code), hlk s3.hp id = some (gBlk 1) → K (.v (.bool bv)) ((id, some (gBlk t)) :: s3.hp) s3.nx → jump.isNone = bv →
        recL fnid ts ps.toArray as bd D t = { recL fnid ts ps.toArray as bd D 1 with state := if jump.isNone then .ready else .done, pending := jump } →
        ∃ v w4, (Instr.endRound l jump).run X.P w3 = .ok v w4 ∧ ∃ v' r hp' nx' E', Ending.returned v = .returned v' ∧ K r hp' nx' ∧ Ext E nx E' nx' ∧ Con E' r v' ∧ Rel w0 K0 (fun id => id < nx') E' m fr' hp' a w4 := by
      intro t bv jump hl1 hK hj hrec
      obtain ⟨k1, k2, k3, k4⟩ := g3.loopIs hl1 hρ3 l _ hlp3
      have h5 := g3.state hl1 rfl hρ3 hlp3 hB t ⟨_, rfl⟩ false
      refine ⟨_, _, run_endRound jump k1, _, .v (.bool bv), _, _, E3, rfl, hK, ⟨hle3, Nat.le_trans h2.up g2.up, (h2.trans g2).dom⟩, by rw [hj]; exact .v _, ?_⟩
      have h6 := h5.frame (m := m) (fr' := fr') (a' := a) ⟨fun he => hrel.nd.1 (hle3.mrk ▸ he), hrel.nd.2.mono hle3.K⟩ hrel.size (fun t ht => (hrel.regs t ht).mono hle3) hrel.out
      rw [hrec] at h6
      exact h6
    cases e3 with
    | normal => exact fin 0 true none g1.1 g1.2 rfl rfl
    | ret => exact fin 2 false (some .ret) g1.1 g1.2 rfl rfl
    | exit i => exact fin (2 * i + 3) false (some (.exit i)) g1.1 g1.2 rfl (by simp only [recL, jump_exit]; simp)
    | goto i => exact fin (2 * i + 4) false (some (.goto i)) g1.1 g1.2 rfl (by simp only [recL, jump_goto]; simp)
    | panic ch => exact g1.elim
    | outgrown => exact g1.elim
  | _ => exact h1.elim

end
end Go.Vai
/- A range over a function: the statement itself. -/
namespace Go.Vai
open Go.RowKit
set_option linter.unusedVariables false

section
variable {X : Ctx}

/-- What is known where a range begins. -/
def Env.range (E : Env) (nx l : Nat) (D : Nat) (r : Nat → Obj) : Env :=
  { ρ := fun i => if i = nx then none else E.ρ i, sz := fun i => if i = nx then 1 else E.sz i, cap := fun i => if i = nx then 0 else E.cap i, dom := fun i => i = nx ∨ E.dom i,
    K := fun b => if b = D then some (.deferred (some [])) else E.K b, lp := fun i => if i = nx then some (l, r) else E.lp i, lk := fun x => if x = l then some nx else E.lk x, mrk := E.mrk }

theorem range_le {w0 : World} {K0 : Nat → Option Obj} {E : Env} {n : Nat} {fr : Frm} {hp : Hp} {a : Act} {w : World} {nx : Nat} (hr : Rel w0 K0 (fun id => id < nx) E n fr hp a w) (r : Nat → Obj) :
    E.le (E.range nx (w.heap.size + 1) w.heap.size r) := by
  have ne : ∀ i, E.dom i → i ≠ nx := fun i hd e => by have := hr.dom i hd; omega
  refine ⟨fun i d => .inr d, fun i d => if_neg (ne i d), fun i d => if_neg (ne i d), fun i d => if_neg (ne i d), ?_, fun i d => if_neg (ne i d), ?_, rfl⟩
  · intro b o hk
    have := heap_lt (hr.kw b o hk)
    show (if b = w.heap.size then _ else E.K b) = some o
    rw [if_neg (by omega)]; exact hk
  · intro l id hl
    have := hr.lw l id hl
    show (if l = w.heap.size + 1 then _ else E.lk l) = some id
    rw [if_neg (by omega)]; exact hl

theorem range_rel {w0 : World} {K0 : Nat → Option Obj} {E : Env} {n : Nat} {fr : Frm} {hp : Hp} {a : Act} {w : World} {nx : Nat} (hr : Rel w0 K0 (fun id => id < nx) E n fr hp a w) (r : Nat → Obj) (hc : ∀ t, ∃ L, r t = .loop L) :
    Rel w0 K0 (fun id => id < nx + 1) (E.range nx (w.heap.size + 1) w.heap.size r) n fr ((nx, some (gBlk 0)) :: hp) a ((w.alloc (.deferred (some []))).alloc (r 0)) := by
  have hle := range_le hr r
  have hold : ∀ k, k < w.heap.size → ((w.alloc (.deferred (some []))).alloc (r 0)).heap[k]? = w.heap[k]? := fun k hk =>
    (Below.heap_alloc (w.alloc (.deferred (some []))) (r 0) k (by simp; omega)).trans (Below.heap_alloc w _ k hk)
  have hD : ((w.alloc (.deferred (some []))).alloc (r 0)).heap[w.heap.size]? = some (.deferred (some [])) :=
    (Below.heap_alloc _ _ _ (by simp)).trans (World.alloc_heap_new w _)
  have hL : ((w.alloc (.deferred (some []))).alloc (r 0)).heap[w.heap.size + 1]? = some (r 0) := by
    have := World.alloc_heap_new (w.alloc (.deferred (some []))) (r 0); rwa [World.size_alloc] at this
  have hko : KeepsOthers w ((w.alloc (.deferred (some []))).alloc (r 0)) := (KeepsOthers.alloc w _).trans (KeepsOthers.alloc _ _)
  have hsz : ((w.alloc (.deferred (some []))).alloc (r 0)).heap.size = w.heap.size + 2 := by simp
  have f : ∀ i x, hlk ((nx, some (gBlk 0)) :: hp) i = some x → (i = nx ∧ x = gBlk 0) ∨ (i ≠ nx ∧ hlk hp i = some x) := by
    intro i x hx
    rw [hlk_cons] at hx
    by_cases e : i = nx
    · rw [if_pos e] at hx; cases hx; exact .inl ⟨e, rfl⟩
    · rw [if_neg e] at hx; exact .inr ⟨e, hx⟩
  refine { below := ?_, kw := ?_, k0 := ?_, nd := ⟨hr.nd.1, hr.nd.2.mono hle.K⟩, size := hr.size, regs := fun t ht => (hr.regs t ht).mono hle, dom := ?_, lw := ?_, out := hr.out, own := ?_, inj := ?_ }
  · exact (hr.below.trans ((((Below.refl _ w).alloc (Nat.le_refl _) _).alloc (by simp) _).mono hr.below.size))
  · intro b o hb
    have hb' : (if b = w.heap.size then some (Obj.deferred (some [])) else E.K b) = some o := hb
    split at hb'
    · rename_i e; cases hb'; rw [e]; exact hD
    · have := hr.kw b o hb'
      rw [hold b (heap_lt this)]; exact this
  · intro b o hb hlt
    have hb' : (if b = w.heap.size then some (Obj.deferred (some [])) else E.K b) = some o := hb
    have := hr.below.size
    rw [if_neg (by omega)] at hb'
    exact hr.k0 b o hb' hlt
  · intro id hd
    rcases hd with rfl | hd
    · exact Nat.lt_succ_self _
    · exact Nat.lt_succ_of_lt (hr.dom id hd)
  · intro l id hl
    have hl' : (if l = w.heap.size + 1 then some nx else E.lk l) = some id := hl
    rw [hsz]
    split at hl'
    · omega
    · have := hr.lw l id hl'; omega
  · intro i x hx
    rcases f i x hx with ⟨rfl, rfl⟩ | ⟨e, hx'⟩
    · refine ⟨.inl rfl, if_pos rfl, Nat.one_pos, ?_, .inl ⟨if_pos rfl, rfl, if_pos rfl, ?_⟩⟩
      · show (if i = i then 0 else E.cap i) ≤ maxLen
        rw [if_pos rfl]; exact Nat.zero_le _
      · intro l q hq
        have hq' : (if i = i then some (w.heap.size + 1, r) else E.lp i) = some (l, q) := hq
        rw [if_pos rfl] at hq'
        cases hq'
        refine ⟨hL, hc 0, if_pos rfl, ?_⟩
        show (if w.heap.size + 1 = w.heap.size then _ else E.K (w.heap.size + 1)) = none
        rw [if_neg (by omega)]
        cases hk : E.K (w.heap.size + 1) with
        | none => rfl
        | some o => have := heap_lt (hr.kw _ _ hk); omega
    · have hown := hr.own i x hx'
      refine hown.mono hle (fun g hg => ?_) (fun g hg hlt => hold g hlt) hko (fun l o hl _ hk => ?_)
      · have := hown.ρ_lt hg
        show (if g = w.heap.size then _ else E.K g) = E.K g
        rw [if_neg (by omega)]
      · have := heap_lt hl
        show (if l = w.heap.size then _ else E.K l) = none
        rw [if_neg (by omega)]; exact hk
  · intro i j x y g hx hy hg1 hg2
    rcases f i x hx with ⟨rfl, rfl⟩ | ⟨e, hx'⟩
    · have hg1' : (if i = i then none else E.ρ i) = some g := hg1
      rw [if_pos rfl] at hg1'; cases hg1'
    · rcases f j y hy with ⟨rfl, rfl⟩ | ⟨e', hy'⟩
      · have hg2' : (if j = j then none else E.ρ j) = some g := hg2
        rw [if_pos rfl] at hg2'; cases hg2'
      · have hg1' : (if i = nx then none else E.ρ i) = some g := hg1
        have hg2' : (if j = nx then none else E.ρ j) = some g := hg2
        rw [if_neg e] at hg1'; rw [if_neg e'] at hg2'
        exact hr.inj i j x y g hx' hy' hg1' hg2'

/-- A RANGE OVER A FUNCTION. -/
theorem WP.range (hX : X.ok) (k : Nat) {f : Operand} {g : FuncId} {gn : Func} {gb : Code} {cap : List AV} {ps : List Tmp} {as bd : Code} {n nx : Nat} {fr : Frm} {hp : Hp} {Q : Exit → St → Prop}
    (hf : evo fr f = .fn (.func g) [] cap) (hen : Enters X.P g) (hgn : X.P.funcs[g]? = some gn) (hgb : gn.body = some gb) (hl : (AV.yld nx :: cap).length ≤ gn.ntmps) (hda : drawsOk as = true) (hdb : drawsOk bd = true)
    (h : ∀ inv, (X.iter (yldH X (callN X k) nx n fr ps as bd) inv).core → codeA (X.iter (yldH X (callN X k) nx n fr ps as bd) inv) (callN X k) gb (bodyQ X.T gn (endR nx n fr Q)) ⟨gn.ntmps, argFrm (.yld nx :: cap) 0, (nx, some (gBlk 0)) :: hp, nx + 1⟩) :
    WP X.top (.rangeFunc f ps.toArray as bd) Q ⟨n, fr, hp, nx⟩ := by
  intro w0 K0 E a w hi hr
  have hfc := hr.ev f
  dsimp only at hfc
  rw [hf] at hfc
  generalize hv : a.eval f = v at hfc
  cases hfc with
  | fn _ _ _ xs ys hlx hly hx hy =>
  have hxs : xs = #[] := Array.eq_empty_of_size_eq_zero (by simpa using hlx.symm)
  subst hxs
  show Code.wpIn (FW X.rd) 0 X.P _ _ _ _
  rw [hX.rd]
  refine wpIn_rangeFunc ?_
  intro fnid _
  obtain ⟨r, hrdef⟩ : ∃ r : Nat → Obj, r = fun t => .loop (recL fnid a.tmps ps.toArray as bd w.heap.size t) := ⟨_, rfl⟩
  have hrc : ∀ t, ∃ L, r t = .loop L := fun t => by rw [hrdef]; exact ⟨_, rfl⟩
  have hle := range_le hr r
  have hrel := range_rel hr r hrc
  refine ⟨w.heap.size + 1, [{ target := .collected w.heap.size, args := #[] }], (w.alloc (.deferred (some []))).alloc (r 0), { target := .fn (.func g) ys, args := #[.func (.yield (w.heap.size + 1)) #[] #[]] },
    (w.alloc (.deferred (some []))).alloc (r 0), g, #[.func (.yield (w.heap.size + 1)) #[] #[]] ++ ys, (w.alloc (.deferred (some []))).alloc (r 0), ?_, ?_, fun _ _ => trivial, ?_, (fun h => by cases h), ?_⟩
  · rw [hrdef]; exact run_enterLoop_outer _ _ _ _ _
  · simp only [resolve, hv]
    simp [go_sem]
  · simp [invoke, go_sem, run_callFunc hen]
  · have hE1 : (E.range nx (w.heap.size + 1) w.heap.size r).lp nx = some (w.heap.size + 1, r) := if_pos rfl
    have hE2 : (E.range nx (w.heap.size + 1) w.heap.size r).ρ nx = none := if_pos rfl
    have hE3 : (E.range nx (w.heap.size + 1) w.heap.size r).dom nx := .inl rfl
    have hdomE : ∀ id, (E.range nx (w.heap.size + 1) w.heap.size r).dom id → id = nx ∨ E.dom id := fun _ h => h
    have hKD : (E.range nx (w.heap.size + 1) w.heap.size r).K w.heap.size = some (.deferred (some [])) := if_pos rfl
    have hmk : (E.range nx (w.heap.size + 1) w.heap.size r).mrk = E.mrk := rfl
    generalize E.range nx (w.heap.size + 1) w.heap.size r = E1 at *
    have hY := yldH_sound hX k (nx0 := nx) (n := n) (fr := fr) (ps := ps) (as := as) (bd := bd) hda hdb (E1 := E1.plain) (l := w.heap.size + 1) (D := w.heap.size) (fnid := fnid) (ts := a.tmps) hr.size
      (fun t ht => ((hr.regs t ht).mono hle).monoc E1.lec_plain) hr.out hE3 hE2 (by rw [← hrdef]; exact hE1)
    have hcore : (X.iter (yldH X (callN X k) nx n fr ps as bd) (fun w0' E' => w0'.heap.size ≤ w.heap.size + 1 ∧ E1.plain.le E')).core :=
      ⟨hY, fun w0 E E' h hle => ⟨h.1, h.2.trans hle⟩, hX.core.T, hX.core.draws, hX.core.C⟩
    have hargs : ArgsCon E1 (.yld nx :: cap) (#[.func (.yield (w.heap.size + 1)) #[] #[]] ++ ys) := by
      refine ⟨by simp; omega, fun i x u hix hiu => ?_⟩
      cases i with
      | zero =>
        rw [Array.getElem?_append, if_pos (by simp)] at hiu
        simp at hix hiu
        subst hix; subst hiu
        exact .yld nx _ r hE3 hE1
      | succ i =>
        have h1 : cap[i]? = some x := by simpa using hix
        have h2 : ys[i]? = some u := by
          rw [Array.getElem?_append, if_neg (by simp)] at hiu
          simpa using hiu
        exact (hy i x u h1 h2).mono hle
    refine callsIn_FW.2 ((body_calls hcore hX.rd (callN_sound hX.core hX.rd hX.inv k) hgn hgb hl (h _ hcore) (by exact ⟨by have := hr.below.size; omega, Env.le.refl _⟩) hrel hargs).mono ?_)
    rintro e w3 ⟨v, rr, hp', nx', E', rfl, hend, hext, hc, hrel3⟩
    have hρ3 : E'.ρ nx = none := (hext.le.ρ nx hE3).trans hE2
    have hlp3 := (hext.le.lp nx hE3).trans hE1
    unfold endR at hend
    split at hend
    · rename_i b hb
      obtain ⟨f1, f2, f3, f4⟩ := hrel3.loopIs hb hρ3 _ _ hlp3
      have hput := hrel3.putL hb hρ3 hlp3 (by have := hr.below.size; omega) (.loop { recL fnid a.tmps ps.toArray as bd w.heap.size b.ty with state := .exhausted })
      have hleE : E.le E' := hle.trans hext.le
      have hfin : Rel w0 K0 (fun id => id < nx') E' n fr ((nx, none) :: hp') { a with defers := { target := .collected w.heap.size, args := #[] } :: a.defers } (w3.putObj (w.heap.size + 1) (.loop { recL fnid a.tmps ps.toArray as bd w.heap.size b.ty with state := .exhausted })) := by
        refine hput.frame ⟨fun he => ?_, ⟨⟨w.heap.size, rfl, hr.below.size, hext.le.K _ _ hKD, fun d' hd' e => ?_⟩, hrel3.nd.2⟩⟩ hrel3.size hrel3.regs hrel3.out
        · rw [hext.le.mrk, hmk, show E.mrk = true from hi] at he; cases he
        · have hm : ∀ ds, Marks w0.heap.size E.K ds → { target := .collected w.heap.size, args := #[] } ∉ ds := by
            intro ds
            induction ds with
            | nil => intro _ h; cases h
            | cons d ds ih =>
              rintro ⟨⟨D', h1, h2, h3, _⟩, h5⟩ hmem
              rcases List.mem_cons.1 hmem with e' | hmem
              · rw [h1] at e'
                have : w.heap.size = D' := by simpa using e'
                have := heap_lt (hr.kw D' _ h3)
                omega
              · exact ih h5 hmem
          rw [e] at hd'
          exact hm _ hr.nd.2 hd'
      have hE' : Ext E nx E' nx' := ⟨hleE, by have := hext.up; omega, fun id hd => by
        rcases hext.dom id hd with h' | h'
        · rcases hdomE id h' with rfl | h'
          · right; have := hext.up; omega
          · exact .inl h'
        · right; omega⟩
      have hnb : b.ty ≠ 1 := fun e => by rw [e] at hend; exact hend
      have hf1 : w3.heap[w.heap.size + 1]? = some (.loop (recL fnid a.tmps ps.toArray as bd w.heap.size b.ty)) := by rw [f1, hrdef]
      have hrun := run_endLoop (P := X.P) hf1 (by
        simp only [recL, if_neg hnb]
        split <;> simp)
      refine ⟨_, _, hrun, ?_⟩
      show (match jumpOf b.ty with | none => _ | some c => _)
      generalize hty : b.ty = t at *
      match t, hend with
      | 0, hend => exact ⟨_, E', hend, hE', hfin⟩
      | 1, hend => exact hend.elim
      | 2, hend => exact wpIn_ret ⟨_, E', hend, hE', hfin⟩
      | t + 3, hend =>
        simp only [endJ] at hend
        simp only [jumpOf]
        by_cases e : t % 2 = 0
        · rw [if_pos e] at hend ⊢
          exact wpIn_exit ⟨_, E', hend, hE', hfin⟩
        · rw [if_neg e] at hend ⊢
          exact wpIn_goto ⟨_, E', hend, hE', hfin⟩
    · exact hend.elim
end
end Go.Vai
/- A function that leaves with a range's mark. -/
namespace Go.Vai
open Go.RowKit
set_option linter.unusedVariables false

/-- Without a mark's block. -/
def Env.unmark (E : Env) (D : Nat) : Env := { E with K := fun b => if b = D then none else E.K b }

theorem Rel.unmark {w0 : World} {K0 : Nat → Option Obj} {D0 : Nat → Prop} {E : Env} {n : Nat} {fr : Frm} {hp : Hp} {ts : Array Value} {D : Nat} {ds : List Deferred} {w : World}
    (h : Rel w0 K0 D0 E n fr hp { tmps := ts, defers := { target := .collected D, args := #[] } :: ds } w) :
    w.heap[D]? = some (.deferred (some [])) ∧ Rel w0 K0 D0 (E.unmark D) n fr hp { tmps := ts, defers := ds } (w.putObj D (.deferred none)) := by
  obtain ⟨hn1, ⟨D', hd, hB, hK, hne⟩, hm⟩ := h.nd
  have hDD : D' = D := by simpa using hd.symm
  subst hDD
  have hw := h.kw D' _ hK
  have hot : ∀ k, k ≠ D' → (w.putObj D' (.deferred none)).heap[k]? = w.heap[k]? := fun k hk => World.putObj_heap_other hk
  have hlec : E.lec (E.unmark D') := ⟨fun _ d => d, fun _ _ => rfl, fun _ _ => rfl, fun _ _ => rfl, fun a v hk => by
    unfold kcell at hk ⊢
    by_cases e : a.block = D'
    · rw [e, hK] at hk; cases hk
    · rw [show (E.unmark D').K a.block = E.K a.block from if_neg e]; exact hk, fun _ _ => rfl⟩
  refine ⟨hw, { below := ⟨h.below.os, h.below.tape, h.below.output, by rw [World.putObj_size]; exact h.below.size, fun k hk => (hot k (by omega)).trans (h.below.block k hk)⟩, kw := ?_, k0 := ?_, nd := ⟨fun he => ?_, hm.mono' ?_⟩, size := h.size, regs := fun t ht => (h.regs t ht).monoc hlec, dom := h.dom, lw := fun l i hl => by rw [World.putObj_size]; exact h.lw l i hl, out := h.out, own := ?_, inj := h.inj }⟩
  · intro b o hb
    have hb' : (if b = D' then none else E.K b) = some o := hb
    split at hb'
    · cases hb'
    · rename_i e; rw [hot b e]; exact h.kw b o hb'
  · intro b o hb hlt
    have hb' : (if b = D' then none else E.K b) = some o := hb
    split at hb'
    · cases hb'
    · exact h.k0 b o hb' hlt
  · have := hn1 he; cases this
  · intro D2 hmem hk
    show (if D2 = D' then none else E.K D2) = _
    rw [if_neg (fun e => hne _ hmem (by rw [e]))]; exact hk
  · intro id b hb
    obtain ⟨hd, hs, hp0, hmx, ho⟩ := h.own id b hb
    refine ⟨hd, hs, hp0, hmx, ?_⟩
    rcases ho with ⟨h1, h2, h3, h4⟩ | ⟨g, cur, h1, h2, h3, h4, h5, h6, h7, h8⟩
    · refine .inl ⟨h1, h2, h3, fun l r he => ?_⟩
      obtain ⟨f1, ⟨L, hL⟩, f3, f4⟩ := h4 l r he
      refine ⟨(hot l (fun e => by rw [e, hw] at f1; rw [hL] at f1; cases f1)).trans f1, ⟨L, hL⟩, f3, ?_⟩
      show (if l = D' then none else E.K l) = none
      split
      · rfl
      · exact f4
    · have hg : g ≠ D' := fun e => by rw [e, hw] at h3; cases h3
      refine .inr ⟨g, cur, h1, h2, (hot g hg).trans h3, h4, h5, fun hr => ?_, fun hr => ?_, h8.monoc hlec⟩
      · show (if g = D' then none else E.K g) = none
        rw [if_neg hg]; exact h6 hr
      · show (if g = D' then none else E.K g) = _
        rw [if_neg hg]; exact h7 hr

theorem leaves_of {w0 : World} {K0 : Nat → Option Obj} {D0 : Nat → Prop} {n : Nat} {fr : Frm} {hp : Hp} {ts : Array Value} {P : Program} {fn : Func} {R : Ending → World → Prop}
    (fin : ∀ E w, Rel w0 K0 D0 E n fr hp { tmps := ts, defers := [] } w → ∃ v, (results fn ts).run P w = .ok v w ∧ R (.returned v) w) :
    ∀ (ds : List Deferred) (E : Env) (w : World), Rel w0 K0 D0 E n fr hp { tmps := ts, defers := ds } w → LeavesInM (FW none) 0 P fn ts R ds .returning w
  | [], E, w, h => fin E w h
  | d :: ds, E, w, h => by
    obtain ⟨_, ⟨D, rfl, _, _, _⟩, _⟩ := h.nd
    obtain ⟨h1, h2⟩ := h.unmark
    exact ⟨by simp, .inl ⟨D, _, rfl, run_takeDeferred h1, leaves_of fin ds _ _ h2⟩⟩

/-! Rules for simp. -/
section
variable {X : Ctx} {F : CallF} {n nx nx0 : Nat} {fr : Frm} {hp : Hp} {Q : Exit → St → Prop}

theorem top_T : X.top.T = X.T := rfl
theorem top_C : X.top.C = X.C := rfl
theorem top_P : X.top.P = X.P := rfl
theorem inR_T {l : Nat} : (X.inR l).T = X.T := rfl
theorem inR_C {l : Nat} : (X.inR l).C = X.C := rfl
theorem inR_P {l : Nat} : (X.inR l).P = X.P := rfl
theorem iter_T {Y : YldF} {inv : World → Env → Prop} : (X.iter Y inv).T = X.T := rfl
theorem iter_C {Y : YldF} {inv : World → Env → Prop} : (X.iter Y inv).C = X.C := rfl
theorem iter_P {Y : YldF} {inv : World → Env → Prop} : (X.iter Y inv).P = X.P := rfl
theorem iter_Y {Y : YldF} {inv : World → Env → Prop} : (X.iter Y inv).Y = Y := rfl
theorem iter_calls (hX : X.ok) (k : Nat) {Y : YldF} {inv : World → Env → Prop} : CallSound (X.iter Y inv) (callN X k) := callN_sound hX.core hX.rd hX.inv k
theorem inR_calls (hX : X.ok) (k : Nat) {l : Nat} : CallSound (X.inR l) (callN X k) := callN_sound hX.core hX.rd hX.inv k
theorem top_calls (hX : X.ok) (k : Nat) : CallSound X.top (callN X k) := callN_sound hX.core hX.rd hX.inv k

theorem r_rangeF {f : Operand} {ps : Array Tmp} {as bd : Code} : codeA X F (.rangeFunc f ps as bd) Q ⟨n, fr, hp, nx⟩ = WP X (.rangeFunc f ps as bd) Q ⟨n, fr, hp, nx⟩ := propext Iff.rfl
theorem r_yld {ps : List Tmp} {as bd : Code} {id m : Nat} {fr0 : Frm} {args : List AV} {K : AV → Hp → Nat → Prop} : yldH X F nx0 m fr0 ps as bd id args hp nx K =
    (id = nx0 ∧ hlk hp nx0 = some (gBlk 0) ∧ args.length = ps.length ∧ ps.all (· < m) = true ∧ ∀ l, codeA (X.inR l) F as (thenA (startR X F l nx0 bd K) noQ) ⟨m, zipF ps args fr0, hp, nx⟩) := propext Iff.rfl
theorem r_start {l : Nat} {bd : Code} {K : AV → Hp → Nat → Prop} : startR X F l nx0 bd K ⟨n, fr, hp, nx⟩ = (hlk hp nx0 = some (gBlk 0) ∧ codeA (X.inR l) F bd (roundK nx0 K) ⟨n, fr, (nx0, some (gBlk 1)) :: hp, nx⟩) := propext Iff.rfl
theorem r_rkN {K : AV → Hp → Nat → Prop} : roundK nx0 K .normal ⟨n, fr, hp, nx⟩ = (hlk hp nx0 = some (gBlk 1) ∧ K (.v (.bool true)) ((nx0, some (gBlk 0)) :: hp) nx) := propext Iff.rfl
theorem r_rkR {K : AV → Hp → Nat → Prop} : roundK nx0 K .ret ⟨n, fr, hp, nx⟩ = (hlk hp nx0 = some (gBlk 1) ∧ K (.v (.bool false)) ((nx0, some (gBlk 2)) :: hp) nx) := propext Iff.rfl
theorem r_rkE {K : AV → Hp → Nat → Prop} {id : Nat} : roundK nx0 K (.exit id) ⟨n, fr, hp, nx⟩ = (hlk hp nx0 = some (gBlk 1) ∧ K (.v (.bool false)) ((nx0, some (gBlk (2 * id + 3))) :: hp) nx) := propext Iff.rfl
def endM (Q : Exit → St → Prop) (n : Nat) (fr : Frm) (hp : Hp) (nx : Nat) : Option Blk → Prop
  | some b => endJ Q ⟨n, fr, hp, nx⟩ b.ty
  | none => False
theorem r_endR {r : AV} : endR nx0 n fr Q r hp nx = endM Q n fr ((nx0, none) :: hp) nx (hlk hp nx0) := by
  unfold endR endM; cases hlk hp nx0 <;> rfl
theorem r_endM {t : Nat} : endM Q n fr hp nx (some (gBlk t)) = endJ Q ⟨n, fr, hp, nx⟩ t := propext Iff.rfl
theorem r_endJ0 {s : St} : endJ Q s 0 = Q .normal s := propext Iff.rfl
theorem r_endJ2 {s : St} : endJ Q s 2 = Q .ret s := propext Iff.rfl
theorem r_endJ3 {s : St} : endJ Q s 3 = Q (.exit 0) s := propext Iff.rfl
theorem r_endJ5 {s : St} : endJ Q s 5 = Q (.exit 1) s := propext Iff.rfl
theorem r_endJ7 {s : St} : endJ Q s 7 = Q (.exit 2) s := propext Iff.rfl
end

section
variable {X : Ctx}

/-- THE EVALUATOR'S WORD FOR THE CONTRACT OF A FUNCTION THAT RANGES OVER FUNCTIONS. -/
theorem pure_top (hX : X.ok) (n : Nat) {g : FuncId} {fn : Func} {body : Code} (hfn : X.P.funcs[g]? = some fn) (hb : fn.body = some body) {args : List AV} {r : AV} (hl : args.length ≤ fn.ntmps)
    (h : codeA X.top (callN X n) body (bodyQ X.T fn fun r0 hp _ => frz hp r0 (subA · r)) ⟨fn.ntmps, argFrm args 0, [], 0⟩) : PureC X.P g args r := by
  intro w K vs hK ha
  have hr0 := (rel_start hK).mrk true (a' := { tmps := #[], defers := [] }) rfl ⟨fun _ => rfl, trivial⟩
  have ha0 : ArgsCon { Env.bare K with mrk := true } args vs := ⟨ha.1, fun i x v hx hv => (ha.2 i x v hx hv).monoc (Env.lec_mrk _ true)⟩
  have hwp := codeA_sound (top_core hX) (callN_sound hX.core hX.rd hX.inv n) body _ _ (body_draws hX.core hfn hb) h w K { Env.bare K with mrk := true } _ w rfl (args_rel hr0 ha0 hl)
  rw [← callsIn_FW (ro := none) (n := 0)]
  have hrd : X.top.rd = none := hX.rd
  rw [hrd] at hwp
  refine callsIn_of_wp_marks hfn hb trivial (wpIn_mono hwp ?_)
  have fin : ∀ (s' : St) (E' : Env) (a' : Act) (w' : World), resultA X.T fn s' (fun r0 => frz s'.hp r0 (subA · r)) → RelS w K E' s' a' w' →
      LeavesInM (FW none) 0 X.P fn a'.tmps (fun e w' => ∃ v, e = .returned v ∧ Below w.heap.size w w' ∧ Con (Env.bare (grow w K w')) r v) a'.defers .returning w' := by
    intro s' E' a' w' h1 h2
    refine leaves_of (fun E2 w2 h3 => ?_) a'.defers E' w' h2
    obtain ⟨x, v, k1, k2, k3⟩ := resultA_sound (top_core hX) h1 h3
    obtain ⟨y, hy, hc⟩ := frz_sound h3 (K' := grow w K w2) (fun b o hb => by
      simp only [grow]
      split
      · rename_i hlt; exact h3.k0 b o hb hlt
      · exact h3.kw b o hb) (fun b hb => by simp only [grow, if_neg (Nat.not_lt.2 hb)]) k3 k1
    exact ⟨v, k2, v, rfl, h3.below, subA_con hy hc⟩
  rintro e a' w' ⟨s', E', h1, h2, h3⟩
  cases e with
  | normal => exact fin s' E' a' w' h1 h3
  | ret => exact fin s' E' a' w' h1 h3
  | _ => exact h1.elim
end
end Go.Vai
/- nil in a cell of the call's own, as a list of the call's own. -/
namespace Go.Vai
open Go.RowKit
set_option linter.unusedVariables false

section
variable {X : Ctx}

theorem Rel.reel {w0 : World} {K0 : Nat → Option Obj} {D : Nat → Prop} {E : Env} {n : Nat} {fr : Frm} {hp : Hp} {a : Act} {w : World} (h : Rel w0 K0 D E n fr hp a w) {id nx : Nat} {b : Blk} (hb : hlk hp id = some b) (hel : b.el = [.v (.slice none 0 0)]) (hd : E.dom nx) (hρ : E.ρ nx = none) :
    Rel w0 K0 D E n fr ((id, some { b with el := [.arr nx 0 0] }) :: hp) a w := by
  have f : ∀ i x, hlk ((id, some ({ b with el := [.arr nx 0 0] } : Blk)) :: hp) i = some x → (i = id ∧ x = { b with el := [.arr nx 0 0] }) ∨ (i ≠ id ∧ hlk hp i = some x) := by
    intro i x hx
    rw [hlk_cons] at hx
    by_cases e : i = id
    · rw [if_pos e] at hx; cases hx; exact .inl ⟨e, rfl⟩
    · rw [if_neg e] at hx; exact .inr ⟨e, hx⟩
  have g : ∀ i x, hlk ((id, some ({ b with el := [.arr nx 0 0] } : Blk)) :: hp) i = some x → ∃ y, hlk hp i = some y := by
    intro i x hx
    rcases f i x hx with ⟨rfl, _⟩ | ⟨_, h'⟩
    · exact ⟨b, hb⟩
    · exact ⟨x, h'⟩
  refine { h with own := fun i x hx => ?_, inj := fun i j x y q hx hy => ?_ }
  · rcases f i x hx with ⟨rfl, rfl⟩ | ⟨_, h'⟩
    · obtain ⟨hd1, hs, hp0, hm, ho⟩ := h.own i b hb
      refine ⟨hd1, hs, hp0, hm, ?_⟩
      rcases ho with ⟨_, h2, _⟩ | ⟨g', cur, h1, h2, h3, h4, h5, h6, h7, h8⟩
      · rw [hel] at h2; cases h2
      · refine .inr ⟨g', cur, h1, h2, h3, h4, by rw [hel] at h5; exact h5, h6, h7, ?_⟩
        intro k x hk
        have h0 := h8 0 (.v (.slice none 0 0)) (by rw [hel]; rfl)
        cases k with
        | zero =>
          simp at hk
          subst hk
          refine ⟨h0.1, fun j z hz => ?_⟩
          cases j with
          | zero =>
            simp [AV.cells] at hz
            subst hz
            obtain ⟨y, e1, e2, e3⟩ := h0.2 0 (.v (.slice none 0 0)) rfl
            cases e3
            exact ⟨_, e1, e2, .arr0 nx hd hρ⟩
          | succ j => simp [AV.cells] at hz
        | succ k => simp at hk
    · exact h.own i x h'
  · obtain ⟨x', hx'⟩ := g i x hx
    obtain ⟨y', hy'⟩ := g j y hy
    exact h.inj i j x' y' q hx' hy'

/-- nil in a cell, as a list of the call's own. -/
theorem WP.virtB {c : Code} {Q : Exit → St → Prop} {n nx : Nat} {fr : Frm} {hp : Hp} (id : Nat) (ty : TypeId) (sz : Nat) {b : Blk} (hb : hlk hp id = some b) (hel : b.el = [.v (.slice none 0 0)]) (hs : 0 < sz)
    (h : WP X c Q ⟨n, fr, (id, some { b with el := [.arr nx 0 0] }) :: (nx, some ⟨false, ty, sz, []⟩) :: hp, nx + 1⟩) (im : ∀ w0 E E', X.inv w0 E → E.le E' → X.inv w0 E' := by exact fun _ _ _ _ _ => trivial) : WP X c Q ⟨n, fr, hp, nx⟩ := by
  intro w0 K0 E a w hi0 hr
  have hme : ¬ E.dom nx := fun h => Nat.lt_irrefl _ (hr.dom nx h)
  have hid : id ≠ nx := fun e => hme (e ▸ (hr.own id b hb).1)
  have hv := Rel.virt hr hme (D' := fun id => id < nx + 1) (fun id h => h.elim Nat.lt_succ_of_lt fun e => e ▸ Nat.lt_succ_self _) ty sz hs
  have hx : Ext E nx (E.add nx none sz 0) (nx + 1) := ⟨Env.le_add hme .., by omega, fun id h => h.elim (fun e => .inr (by omega)) .inl⟩
  have hr2 : RelS w0 K0 (E.add nx none sz 0) ⟨n, fr, (id, some { b with el := [.arr nx 0 0] }) :: (nx, some ⟨false, ty, sz, []⟩) :: hp, nx + 1⟩ a w :=
    hv.reel (b := b) (by rw [hlk_cons, if_neg hid]; exact hb) hel (.inl rfl) (if_pos rfl)
  refine wpIn_mono (h w0 K0 _ a w (im _ _ _ hi0 hx.le) hr2) ?_
  rintro e a' w' ⟨s', E', h1, h2, h3⟩
  exact ⟨s', E', h1, hx.trans h2, h3⟩

/-- A range over a function, its iterator's context behind a name. -/
theorem WP.ranges (hX : X.ok) (k : Nat) {f : Operand} {g : FuncId} {gn : Func} {gb : Code} {cap : List AV} {ps : List Tmp} {as bd : Code} {n nx : Nat} {fr : Frm} {hp : Hp} {Q : Exit → St → Prop}
    (hf : evo fr f = .fn (.func g) [] cap) (hen : Enters X.P g) (hgn : X.P.funcs[g]? = some gn) (hgb : gn.body = some gb) (hl : (AV.yld nx :: cap).length ≤ gn.ntmps) (hda : drawsOk as = true) (hdb : drawsOk bd = true)
    (h : ∀ Y : Ctx, Y.core → CallSound Y (callN X k) → Y.T = X.T → Y.C = X.C → Y.Y = yldH X (callN X k) nx n fr ps as bd →
      codeA Y (callN X k) gb (bodyQ X.T gn (endR nx n fr Q)) ⟨gn.ntmps, argFrm (.yld nx :: cap) 0, (nx, some (gBlk 0)) :: hp, nx + 1⟩) : WP X.top (.rangeFunc f ps.toArray as bd) Q ⟨n, fr, hp, nx⟩ :=
  WP.range hX k hf hen hgn hgb hl hda hdb fun inv hI => h _ hI (iter_calls hX k) rfl rfl rfl
end

/-- An entry stands in order with those ahead, one by one. -/
theorem entryOk_step {all : List Oper} {e : Nat × List Nat × List Nat} {log : Log} {k : Nat} {acc wr : List Nat} (h : anc all all.length k e.1 = true ∨ (meets wr e.2.1 = false ∧ meets e.2.2 acc = false)) (h' : entryOk all log k acc wr = true) :
    entryOk all (e :: log) k acc wr = true := by
  unfold entryOk at *
  rw [List.all_cons, h', Bool.and_true]
  rcases h with h | ⟨h1, h2⟩
  · rw [h, Bool.or_true]
  · rw [h1, h2]; rfl

/-- The evaluator's rules, in one. -/
theorem ev1 : type_of% (And.intro @r_step <| And.intro @r_put <| And.intro @r_put0 <| And.intro @r_after <| And.intro @r_guard0 <| And.intro @r_guard <| And.intro @r_nil <| And.intro @r_cons <| And.intro @r_stepD <| And.intro @r_afterD0 <| And.intro @r_afterD1 <| And.intro @r_afterD2 <| And.intro @r_nilD <| And.intro @r_consD <| And.intro @r_skip <| And.intro @r_text <| And.intro @r_draw <| And.intro @r_drawN <| And.intro @r_drawP <| And.intro @r_restL <| And.intro @r_preN <| And.intro @r_preC <| And.intro @r_callL <| And.intro @r_lateN <| And.intro @r_lateC <| And.intro @r_rest <| And.intro @r_pivN <| And.intro @r_pivC <| And.intro @r_seq <| And.intro @r_cond <| And.intro @r_block <| And.intro @r_loop <| And.intro @r_exit <| And.intro @r_scope <| And.intro @r_label <| And.intro @r_goto <| And.intro @r_ret <| And.intro @r_condB <| And.intro @r_condT <| And.intro @r_condF <| And.intro @condE_any <| And.intro @guardE_any <| And.intro @r_then <| And.intro @r_thenR <| And.intro @r_thenE <| And.intro @r_thenG <| And.intro @r_blkN <| And.intro @r_blkR <| And.intro @r_blkG <| And.intro @r_blkE <| And.intro @r_scpN <| And.intro @r_scpR <| And.intro @r_scpE <| And.intro @r_bodyR <| And.intro @r_bodyN <| And.intro @r_ret1 <| And.intro @r_call <| And.intro @r_callC <| And.intro @r_callI <| And.intro @r_callE <| And.intro @r_callJ <| And.intro @r_callG <| And.intro @r_callH <| And.intro @r_callV <| And.intro @r_callY <| And.intro @r_again <| And.intro @cells_agg <| And.intro @cells_v <| And.intro @cells_lst <| And.intro @cells_ptr <| And.intro @cells_arr <| And.intro @cells_fn <| And.intro @entryOk_nil <| @entryOk_rd) := And.intro @r_step <| And.intro @r_put <| And.intro @r_put0 <| And.intro @r_after <| And.intro @r_guard0 <| And.intro @r_guard <| And.intro @r_nil <| And.intro @r_cons <| And.intro @r_stepD <| And.intro @r_afterD0 <| And.intro @r_afterD1 <| And.intro @r_afterD2 <| And.intro @r_nilD <| And.intro @r_consD <| And.intro @r_skip <| And.intro @r_text <| And.intro @r_draw <| And.intro @r_drawN <| And.intro @r_drawP <| And.intro @r_restL <| And.intro @r_preN <| And.intro @r_preC <| And.intro @r_callL <| And.intro @r_lateN <| And.intro @r_lateC <| And.intro @r_rest <| And.intro @r_pivN <| And.intro @r_pivC <| And.intro @r_seq <| And.intro @r_cond <| And.intro @r_block <| And.intro @r_loop <| And.intro @r_exit <| And.intro @r_scope <| And.intro @r_label <| And.intro @r_goto <| And.intro @r_ret <| And.intro @r_condB <| And.intro @r_condT <| And.intro @r_condF <| And.intro @condE_any <| And.intro @guardE_any <| And.intro @r_then <| And.intro @r_thenR <| And.intro @r_thenE <| And.intro @r_thenG <| And.intro @r_blkN <| And.intro @r_blkR <| And.intro @r_blkG <| And.intro @r_blkE <| And.intro @r_scpN <| And.intro @r_scpR <| And.intro @r_scpE <| And.intro @r_bodyR <| And.intro @r_bodyN <| And.intro @r_ret1 <| And.intro @r_call <| And.intro @r_callC <| And.intro @r_callI <| And.intro @r_callE <| And.intro @r_callJ <| And.intro @r_callG <| And.intro @r_callH <| And.intro @r_callV <| And.intro @r_callY <| And.intro @r_again <| And.intro @cells_agg <| And.intro @cells_v <| And.intro @cells_lst <| And.intro @cells_ptr <| And.intro @cells_arr <| And.intro @cells_fn <| And.intro @entryOk_nil <| @entryOk_rd
/-- Lists, numbers and truths. -/
theorem ev2 : type_of% (And.intro @List.toList_toArray.{0} <| And.intro @List.length_cons.{0} <| And.intro @List.length_nil.{0} <| And.intro @List.nil_append.{0} <| And.intro @List.cons_append.{0} <| And.intro @List.append_nil.{0} <| And.intro @List.map_nil.{0, 0} <| And.intro @List.map_cons.{0, 0} <| And.intro @List.getD_cons_zero.{0} <| And.intro @List.getD_cons_succ.{0} <| And.intro @List.drop_zero.{0} <| And.intro @List.drop_succ_cons.{0} <| And.intro @List.take_succ_cons.{0} <| And.intro @List.take_zero.{0} <| And.intro @List.all_cons.{0} <| And.intro @List.all_nil.{0} <| And.intro @List.getElem?_cons_zero.{0} <| And.intro @List.getElem?_cons_succ.{0} <| And.intro @List.headD_cons.{0} <| And.intro @List.set_cons_zero.{0} <| And.intro @List.set_cons_succ.{0} <| And.intro @Option.map_some.{0, 0} <| And.intro @Option.map_none.{0, 0} <| And.intro @Option.isSome_some.{0} <| And.intro @Option.isSome_none.{0} <| And.intro @Nat.zero_add <| And.intro @Nat.sub_zero <| And.intro @Nat.add_zero <| And.intro @Int.toNat_zero <| And.intro @Nat.zero_le <| And.intro @if_true.{1} <| And.intro @if_false.{1} <| And.intro @true_and <| And.intro @and_true <| And.intro @false_and <| And.intro @and_false <| And.intro @true_implies <| And.intro @false_implies <| And.intro @Bool.not_true <| And.intro @Bool.not_false <| And.intro @Bool.and_true <| And.intro @Bool.true_and <| And.intro @decide_true <| And.intro @decide_false <| And.intro @Bool.false_eq_true <| And.intro @not_false_eq_true <| And.intro @not_true_eq_false <| And.intro @Bool.true_eq_false <| And.intro @Bool.not_eq_true <| And.intro @List.cons_ne_nil.{0} <| And.intro @Nat.lt_irrefl <| @beq_self_eq_true.{0}) := And.intro @List.toList_toArray.{0} <| And.intro @List.length_cons.{0} <| And.intro @List.length_nil.{0} <| And.intro @List.nil_append.{0} <| And.intro @List.cons_append.{0} <| And.intro @List.append_nil.{0} <| And.intro @List.map_nil.{0, 0} <| And.intro @List.map_cons.{0, 0} <| And.intro @List.getD_cons_zero.{0} <| And.intro @List.getD_cons_succ.{0} <| And.intro @List.drop_zero.{0} <| And.intro @List.drop_succ_cons.{0} <| And.intro @List.take_succ_cons.{0} <| And.intro @List.take_zero.{0} <| And.intro @List.all_cons.{0} <| And.intro @List.all_nil.{0} <| And.intro @List.getElem?_cons_zero.{0} <| And.intro @List.getElem?_cons_succ.{0} <| And.intro @List.headD_cons.{0} <| And.intro @List.set_cons_zero.{0} <| And.intro @List.set_cons_succ.{0} <| And.intro @Option.map_some.{0, 0} <| And.intro @Option.map_none.{0, 0} <| And.intro @Option.isSome_some.{0} <| And.intro @Option.isSome_none.{0} <| And.intro @Nat.zero_add <| And.intro @Nat.sub_zero <| And.intro @Nat.add_zero <| And.intro @Int.toNat_zero <| And.intro @Nat.zero_le <| And.intro @if_true.{1} <| And.intro @if_false.{1} <| And.intro @true_and <| And.intro @and_true <| And.intro @false_and <| And.intro @and_false <| And.intro @true_implies <| And.intro @false_implies <| And.intro @Bool.not_true <| And.intro @Bool.not_false <| And.intro @Bool.and_true <| And.intro @Bool.true_and <| And.intro @decide_true <| And.intro @decide_false <| And.intro @Bool.false_eq_true <| And.intro @not_false_eq_true <| And.intro @not_true_eq_false <| And.intro @Bool.true_eq_false <| And.intro @Bool.not_eq_true <| And.intro @List.cons_ne_nil.{0} <| And.intro @Nat.lt_irrefl <| @beq_self_eq_true.{0}
end Go.Vai
/- A list of the call's own is written no more. -/
namespace Go.Vai
open Go.RowKit
set_option linter.unusedVariables false

section
variable {X : Ctx}
theorem WP.freeze {c : Code} {Q : Exit → St → Prop} {n nx : Nat} {fr : Frm} {hp : Hp} (t id off len : Nat) {b : Blk} (ht : lkp fr t = .arr id off len) (hb : hlk hp id = some b) (hl : off + len ≤ b.el.length)
    (h : WP X c Q ⟨n, (t, .lst b.sz ((b.el.drop off).take len)) :: fr, (id, some { b with ro := true }) :: hp, nx⟩) (im : ∀ w0 E E', X.inv w0 E → E.le E' → X.inv w0 E' := by exact fun _ _ _ _ _ => trivial) : WP X c Q ⟨n, fr, hp, nx⟩ := by
  intro w0 K0 E a w hi0 hr
  obtain ⟨E', h1, h2, h3, h4⟩ := frzArg_sound hr (.arr id off len)
  have e : frzArg hp (.arr id off len) = (.lst b.sz ((b.el.drop off).take len), (id, some { b with ro := true }) :: hp) := by
    simp only [frzArg]
    rw [hb]
    dsimp only
    rw [if_pos hl]
  rw [e] at h3 h4
  dsimp only at h3 h4
  have hx : Ext E nx E' nx := ⟨h1, Nat.le_refl _, fun id hd => .inl (h2 id hd)⟩
  have hr2 : RelS w0 K0 E' ⟨n, (t, .lst b.sz ((b.el.drop off).take len)) :: fr, (id, some { b with ro := true }) :: hp, nx⟩ a w := by
    refine { h3 with regs := fun t' ht' => ?_, out := fun t' ht' => ?_ }
    · show Con E' (lkp ((t, AV.lst b.sz ((b.el.drop off).take len)) :: fr) t') _
      rw [lkp_cons]
      split
      · rename_i e'
        subst e'
        refine h4 _ ?_
        have := hr.regs t' ht'
        rw [show lkp fr t' = .arr id off len from ht] at this
        exact this
      · exact h3.regs t' ht'
    · show lkp ((t, AV.lst b.sz ((b.el.drop off).take len)) :: fr) t' = .top
      rw [lkp_cons]
      split
      · rename_i e'
        subst e'
        have := hr.out t' ht'
        rw [show lkp fr t' = .arr id off len from ht] at this
        cases this
      · exact h3.out t' ht'
  refine wpIn_mono (h w0 K0 _ a w (im _ _ _ hi0 hx.le) hr2) ?_
  rintro e a' w' ⟨s', E'', k1, k2, k3⟩
  exact ⟨s', E'', k1, hx.trans k2, k3⟩
end
end Go.Vai
