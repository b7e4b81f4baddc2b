/- The evaluator of whole functions, and what it says of them: definitions. -/
import Derived.Test.YtinjbaccnclhdaaV12
namespace Go.Vai
open Go.RowKit

structure Ctx where
  P : Program
  T : TEnv
  C : FuncId → List AV → Option AV

def Env.bare (K : Nat → Option Obj) : Env := ⟨fun _ => none, fun _ => 0, fun _ => 0, fun _ => False, K⟩

theorem Env.bare_le (E : Env) {K : Nat → Option Obj} (h : ∀ b o, K b = some o → E.K b = some o) : (Env.bare K).le E :=
  ⟨fun _ h => h.elim, fun _ h => h.elim, fun _ h => h.elim, fun _ h => h.elim, h⟩

/-- What hangs on no block of the call's own. -/
def HFree (a : AV) : Prop := ∀ (E : Env) (v : Value), Con E a v → Con (Env.bare E.K) a v

/-- What is behind a call: all new blocks stay as they are. -/
def grow (w : World) (K : Nat → Option Obj) (w' : World) : Nat → Option Obj := fun b => if b < w.heap.size then K b else w'.heap[b]?

/-- Arguments, each as told. -/
def ArgsCon (E : Env) (args : List AV) (vs : Array Value) : Prop := args.length = vs.size ∧ ∀ (i : Nat) (a : AV) (v : Value), args[i]? = some a → vs[i]? = some v → Con E a v

/-- A function that only computes: what it answers, whatever the world. -/
def PureC (P : Program) (f : FuncId) (args : List AV) (r : AV) : Prop :=
  ∀ (w : World) (K : Nat → Option Obj) (vs : Array Value), (∀ b o, K b = some o → w.heap[b]? = some o) → ArgsCon (Env.bare K) args vs →
    Calls P f vs w fun e w' => ∃ v, e = .returned v ∧ Below w.heap.size w w' ∧ Con (Env.bare (grow w K w')) r v

/-- A function with a body. -/
def Enters (P : Program) (f : FuncId) : Prop := ∃ fn, P.funcs[f]? = some fn ∧ (fn.name == "runtime.NumGoroutine") = false ∧ fn.body.isNone = false

abbrev CallF := FuncId → List AV → Hp → Nat → (AV → Hp → Nat → Prop) → Prop

def RelS (w0 : World) (K0 : Nat → Option Obj) (E : Env) (s : St) (a : Act) (w : World) : Prop := Rel w0 K0 (fun id => id < s.nx) E s.n s.fr s.hp a w

/-- More is known, of names from nx on. -/
structure Ext (E : Env) (nx : Nat) (E' : Env) (nx' : Nat) : Prop where
  le : E.le E'
  up : nx ≤ nx'
  dom : ∀ id, E'.dom id → E.dom id ∨ (nx ≤ id ∧ id < nx')

theorem Ext.refl (E : Env) (nx : Nat) : Ext E nx E nx := ⟨Env.le.refl E, Nat.le_refl _, fun _ h => .inl h⟩
theorem Ext.trans {E1 E2 E3 : Env} {n1 n2 n3 : Nat} (h : Ext E1 n1 E2 n2) (k : Ext E2 n2 E3 n3) : Ext E1 n1 E3 n3 :=
  ⟨h.le.trans k.le, Nat.le_trans h.up k.up, fun id hd => by
    have h1 := h.up
    have h2 := k.up
    rcases k.dom id hd with h' | h'
    · rcases h.dom id h' with h' | h'
      · exact .inl h'
      · exact .inr ⟨h'.1, by omega⟩
    · exact .inr ⟨by omega, h'.2⟩⟩

def CallSound (X : Ctx) (callF : CallF) : Prop :=
  ∀ (g : FuncId) (args : List AV) (hp : Hp) (nx : Nat) (K : AV → Hp → Nat → Prop), callF g args hp nx K →
    ∀ (w0 : World) (K0 : Nat → Option Obj) (E : Env) (n : Nat) (fr : Frm) (a : Act) (w : World) (vs : Array Value), Rel w0 K0 (fun id => id < nx) E n fr hp a w → ArgsCon E args vs →
      Enters X.P g ∧ Calls X.P g vs w fun e w' => ∃ v r hp' nx' E', e = .returned v ∧ K r hp' nx' ∧ Ext E nx E' nx' ∧ Con E' r v ∧ Rel w0 K0 (fun id => id < nx') E' n fr hp' a w'

def putA (s : St) (dst : Option Tmp) (x : AV) (K : St → Prop) : Prop :=
  match dst with
  | none => K s
  | some d => d < s.n ∧ K ⟨s.n, (d, x) :: s.fr, s.hp, s.nx⟩

def stepA (X : Ctx) (callF : CallF) (o : Oper) (me : Nat) (s : St) (K : St → Prop) : Prop :=
  match o.op with
  | .call { callee := .value f, args := args, argTypes := _ } => match evo s.fr f with
    | .fn (.func g) first cap => callF g (first ++ args.toList.map (evo s.fr) ++ cap) s.hp s.nx fun r hp nx => putA ⟨s.n, s.fr, hp, nx⟩ o.dst r K
    | _ => False
  | op => aop X.T op (evo s.fr) (hlk s.hp) me fun r upd _ => putA ⟨s.n, s.fr, upd ++ s.hp, s.nx⟩ o.dst r K

/-- Is an operation wanted? -/
def guardA (all : List Oper) (o : Oper) (s : St) (K1 K2 : St → Prop) : Prop :=
  match o.guard with
  | none => K1 s
  | some (j, want) => match (all[j]?).bind (·.dst) with
    | none => K2 s
    | some d => match lkp s.fr d with
      | .v (.bool b) => d < s.n ∧ (b = want → K1 ⟨s.n, (d, .v (.bool want)) :: s.fr, s.hp, s.nx⟩) ∧ (b = !want → K2 ⟨s.n, (d, .v (.bool !want)) :: s.fr, s.hp, s.nx⟩)
      | .v (.tuple _) => K2 s
      | _ => False

/-- A region's operations, in the text's order. -/
def opsT (X : Ctx) (callF : CallF) (all : List Oper) : List Oper → Nat → Nat → St → (St → Prop) → Prop
  | [], _, _, s, K => K s
  | o :: r, k, base, s, K => guardA all o s (fun s => stepA X callF o (base + k) s fun s' => opsT X callF all r (k + 1) base s' K)
      (fun s => putA s o.dst (.v undef) fun s' => opsT X callF all r (k + 1) base s' K)

/-- What a piece of code comes to. -/
def WP (X : Ctx) (c : Code) (Q : Exit → St → Prop) (s : St) : Prop :=
  ∀ (w0 : World) (K0 : Nat → Option Obj) (E : Env) (a : Act) (w : World), RelS w0 K0 E s a w →
    c.wp X.P (fun e a' w' => ∃ s' E', Q e s' ∧ Ext E s.nx E' s'.nx ∧ RelS w0 K0 E' s' a' w') a w

def thenA (K : St → Prop) (Q : Exit → St → Prop) : Exit → St → Prop
  | .normal, s => K s
  | e, s => Q e s

def inBlockA (id : Nat) (Q : Exit → St → Prop) : Exit → St → Prop
  | .exit id', s => if id' = id then Q .normal s else Q (.exit id') s
  | e, s => Q e s

/-- A jump to a label goes on behind it. -/
def inScopeA (X : Ctx) (body : Code) (Q : Exit → St → Prop) : Exit → St → Prop
  | .goto l, s => match findLabel body l with
    | some rest => WP X rest (fun e s' => match e with | .goto _ => False | e => Q e s') s
    | none => Q (.goto l) s
  | e, s => Q e s

def condA (x : AV) (K1 K2 : Prop) : Prop :=
  match x with
  | .v (.bool b) => (b = true → K1) ∧ (b = false → K2)
  | .nb xs e => match e with
    | true => (xs = [] → K1) ∧ K2
    | false => K1 ∧ (xs = [] → K2)
  | _ => False

/-- The entries of a region that draws: the operation's number, what it reads or writes, what it writes. -/
abbrev Log := List (Nat × List Nat × List Nat)

def waits (all : List Oper) (j i : Nat) : Bool :=
  match all[j]? with
  | some o => o.after.toList.any fun e => Region.binds .any e && e.on == i
  | none => false

def anc (all : List Oper) : Nat → Nat → Nat → Bool
  | 0, _, _ => false
  | f + 1, j, i => match all[j]? with
    | some o => o.after.toList.any fun e => Region.binds .any e && (e.on == i || anc all f e.on i)
    | none => false

def meets (a b : List Nat) : Bool := a.any fun x => b.contains x

/-- Does the new entry stand in order with those ahead of it that touch the same? -/
def entryOk (all : List Oper) (log : Log) (k : Nat) (acc wr : List Nat) : Bool :=
  log.all fun e => !(meets wr e.2.1 || meets e.2.2 acc) || anc all all.length k e.1

def accOf (upd : Upd) (acc : List Nat) : List Nat := upd.map (·.1) ++ acc

def snapC : AV → AV
  | .v x => .v x
  | _ => .top

/-- A pointer into an own block, as a look at its cells as they are. -/
def snap1 (H : Nat → Option Blk) : AV → AV
  | .ptr id i off => match H id with
    | some b => if i < b.el.length then .rptr (((b.el.getD i .top).cells.drop off).map snapC) else .ptr id i off
    | none => .ptr id i off
  | x => x

def snapId : AV → List Nat
  | .ptr id _ _ => [id]
  | _ => []

def snapIds : List AV → List Nat
  | [] => []
  | x :: r => snapId x ++ snapIds r

/-- A call within a region that draws: from the table; or, where pointers into own blocks are looked at, from the table at what lies there. -/
def tabS (all : List Oper) (k : Nat) (s : St) (dst : Option Tmp) (log : Log) (acc : List Nat) (K : St → Log → Prop) : Option AV → Prop
  | some (.v x) => entryOk all log k acc [] = true ∧ putA s dst (.v x) fun s' => K s' ((k, acc, []) :: log)
  | _ => False

def stepD (X : Ctx) (o : Oper) (all : List Oper) (k base : Nat) (s : St) (log : Log) (K : St → Log → Prop) : Prop :=
  match o.op with
  | .call { callee := .value f, args := args, argTypes := _ } => match evo s.fr f with
    | .fn (.func g) first cap => match X.C g (first ++ args.toList.map (evo s.fr) ++ cap) with
      | some r => putA s o.dst r fun s' => K s' log
      | none => tabS all k s o.dst log (snapIds (first ++ args.toList.map (evo s.fr) ++ cap)) K (X.C g ((first ++ args.toList.map (evo s.fr) ++ cap).map (snap1 (hlk s.hp))))
    | _ => False
  | op => aop X.T op (evo s.fr) (hlk s.hp) (base + k) fun r upd acc =>
      match upd, acc with
      | [], [] => putA s o.dst r fun s' => K s' log
      | upd, acc => entryOk all log k (accOf upd acc) (upd.map (·.1)) = true ∧ putA ⟨s.n, s.fr, upd ++ s.hp, s.nx⟩ o.dst r fun s' => K s' ((k, accOf upd acc, upd.map (·.1)) :: log)

def opsD (X : Ctx) (all : List Oper) : List Oper → Nat → Nat → St → Log → (St → Prop) → Prop
  | [], _, _, s, _, K => K s
  | o :: r, k, base, s, log, K => guardA all o s (fun s => stepD X o all k base s log fun s' log' => opsD X all r (k + 1) base s' log' K)
      (fun s => putA s o.dst (.v undef) fun s' => opsD X all r (k + 1) base s' log K)

/-- The registers of a region that draws are written once, and read in order. -/
def dataOk (all : List Oper) : Bool :=
  (List.range all.length).all fun j => (List.range j).all fun i =>
    match all[i]?, all[j]? with
    | some x, some y =>
      let rx := x.looksAt all.toArray
      let ry := y.looksAt all.toArray
      (match x.dst with | some d => !(ry.contains d || y.dst == some d) || (anc all all.length j i && y.dst != some d) | none => true) &&
      (match y.dst with | some d => !(rx.contains d) || anc all all.length j i | none => true)
    | _, _ => true

def edgesOk (all : List Oper) : Bool :=
  (List.range all.length).all fun j => match all[j]? with
    | some o => o.after.toList.all (fun e => !Region.binds .any e || e.on < j) && (match o.op with | .select .. => false | _ => true) && (match o.guard with | some (g, _) => g < j | none => true)
    | none => true

/-- A region that draws and in which one call of a function value stands between all others: those ahead of it, the call, those behind it. -/
def dynCall (o : Oper) : Bool :=
  match o.op with
  | .call { callee := .value (.tmp _), .. } => true
  | _ => false

def pivotOf (all : List Oper) : Option Nat := all.findIdx? dynCall

def pivotOk (all : List Oper) (c : Nat) : Bool :=
  (List.range all.length).all fun i => (decide (i < c) && anc all all.length c i) || i == c || (decide (c < i) && anc all all.length i c)

def opsP (X : Ctx) (callF : CallF) (all : List Oper) (c base : Nat) (s : St) (K : St → Prop) : Prop :=
  match all[c]? with
  | some o => o.guard.isNone = true ∧ pivotOk all c = true ∧ opsD X all (all.take c) 0 base s [] (fun s1 => stepA X callF o (base + c) s1 fun s2 =>
      opsD X all (all.drop (c + 1)) (c + 1) s2.nx ⟨s2.n, s2.fr, s2.hp, s2.nx + all.length⟩ [] K)
  | none => False

def drawA (X : Ctx) (callF : CallF) (ops : List Oper) (c : Option Nat) (base : Nat) (s : St) (K : St → Prop) : Prop :=
  match c with
  | none => opsD X ops ops 0 base s [] K
  | some c => opsP X callF ops c base s K

def codeA (X : Ctx) (callF : CallF) : Code → (Exit → St → Prop) → St → Prop
  | .skip, Q, s => Q .normal s
  | .region _ ops false, Q, s => opsT X callF ops.toList ops.toList 0 s.nx ⟨s.n, s.fr, s.hp, s.nx + ops.size⟩ (Q .normal)
  | .region _ ops true, Q, s => drawA X callF ops.toList (pivotOf ops.toList) s.nx ⟨s.n, s.fr, s.hp, s.nx + ops.size⟩ (Q .normal)
  | .seq a b, Q, s => codeA X callF a (thenA (codeA X callF b Q) Q) s
  | .cond c x y, Q, s => condA (evo s.fr c) (codeA X callF x Q s) (codeA X callF y Q s)
  | .block id b, Q, s => codeA X callF b (inBlockA id Q) s
  | .loop b, Q, s => WP X (.loop b) Q s
  | .rangeFunc f ps a b, Q, s => WP X (.rangeFunc f ps a b) Q s
  | .exit id, Q, s => Q (.exit id) s
  | .scope b, Q, s => codeA X callF b (inScopeA X b Q) s
  | .label _, Q, s => Q .normal s
  | .goto l, Q, s => Q (.goto l) s
  | .ret, Q, s => Q .ret s
  | .refuse _, _, _ => False

/-- Are all regions of it that draw as they should be? -/
def drawsOk : Code → Bool
  | .region _ ops true => dataOk ops.toList && edgesOk ops.toList
  | .seq a b => drawsOk a && drawsOk b
  | .cond _ a b => drawsOk a && drawsOk b
  | .block _ b | .loop b | .scope b => drawsOk b
  | .rangeFunc _ _ a b => drawsOk a && drawsOk b
  | _ => true

structure Ctx.ok (X : Ctx) : Prop where
  T : TOk X.P X.T
  draws : (X.P.funcs.all fun fn => match fn.body with | some b => drawsOk b | none => true) = true
  C : ∀ f args r, X.C f args = some r → Enters X.P f ∧ (∀ a ∈ args, HFree a) ∧ PureC X.P f args r

def resA (T : TEnv) (s : St) : List ResultVar → List AV → (List AV → Prop) → Prop
  | [], acc, K => K acc
  | .tmp t :: r, acc, K => resA T s r (acc ++ [lkp s.fr t]) K
  | .cell t ty :: r, acc, K => aop T (.load ty (.tmp t)) (evo s.fr) (hlk s.hp) s.nx fun x _ _ => resA T s r (acc ++ [x]) K

def resultA (T : TEnv) (fn : Func) (s : St) (K : AV → Prop) : Prop :=
  resA T s fn.results.toList [] fun xs => match xs with
    | [x] => K x
    | xs => K (.tup xs)

def argFrm : List AV → Nat → Frm
  | [], _ => []
  | a :: r, i => (i, a) :: argFrm r (i + 1)

def bodyQ (T : TEnv) (fn : Func) (K : AV → Hp → Nat → Prop) : Exit → St → Prop
  | .normal, s | .ret, s => resultA T fn s fun r => K r s.hp s.nx
  | _, _ => False

/-- An argument that lies in a block of the call's own: the block is written no more. -/
def frzArg (hp : Hp) : AV → AV × Hp
  | .arr id off len => match hlk hp id with
    | some b => if off + len ≤ b.el.length then (.lst b.sz ((b.el.drop off).take len), (id, some { b with ro := true }) :: hp) else (.arr id off len, hp)
    | none => (.arr id off len, hp)
  | x => (x, hp)

def frzArgs : Hp → List AV → List AV × Hp
  | hp, [] => ([], hp)
  | hp, x :: r => ((frzArg hp x).1 :: (frzArgs (frzArg hp x).2 r).1, (frzArgs (frzArg hp x).2 r).2)

def callN (X : Ctx) : Nat → CallF
  | 0, g, args, hp, nx, K => match X.C g args with
    | some r => K r hp nx
    | none => match X.C g (frzArgs hp args).1 with
      | some r => K r (frzArgs hp args).2 nx
      | none => False
  | n + 1, g, args, hp, nx, K => match X.C g args with
    | some r => K r hp nx
    | none => match X.C g (frzArgs hp args).1 with
      | some r => K r (frzArgs hp args).2 nx
      | none => match X.P.funcs[g]? with
        | some fn => (fn.name == "runtime.NumGoroutine") = false ∧ args.length ≤ fn.ntmps ∧ match fn.body with
          | some body => codeA X (callN X n) body (bodyQ X.T fn K) ⟨fn.ntmps, argFrm args 0, hp, nx⟩
          | none => False
        | none => False

end Go.Vai
