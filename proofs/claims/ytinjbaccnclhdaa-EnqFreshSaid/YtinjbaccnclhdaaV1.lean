/- The abstract values, states and evaluator of a small program logic over the kit's calculus of calls. Definitions alone: nothing is claimed here. -/
import Derived.Calls
import Derived.Tactics
namespace Go.Vai

/-- What is known of a value. -/
inductive AV where
  | top
  | v (x : Value)
  | agg (cs : List AV)
  | tup (vs : List AV)
  | lst (sz : Nat) (xs : List AV)
  | rptr (cs : List AV)
  | ptr (id i off : Nat)
  | arr (id off len : Nat)
  | fn (f : Fn) (first captured : List AV)
  | nb (xs : List AV) (e : Bool)      -- a bool; if it is e, there is nothing in xs
  deriving Inhabited

def AV.cells : AV → List AV
  | .agg cs => cs
  | x => [x]

/-- What may lie in one cell. -/
def AV.ok1 : AV → Bool
  | .top | .agg _ | .tup _ | .v (.agg _) | .v (.tuple _) => false
  | _ => true

/-- What may be written as n cells. -/
def AV.wr (n : Nat) (a : AV) : Bool := a.cells.length == n && a.cells.all AV.ok1

/-- A block of the call's own: may it be written no more, its elements' type, their cells, the elements. -/
structure Blk where
  ro : Bool
  ty : TypeId
  sz : Nat
  el : List AV
  deriving Inhabited

inductive TK where
  | none
  | int (k : IntKind)
  | bool
  | slice (e : TypeId)
  | arr (n : Nat) (e : TypeId)
  | struct (fs : List (Nat × TypeId))
  | ptr (e : TypeId)
  | func
  | tup
  deriving Inhabited, DecidableEq

structure TI where
  k : TK
  size : Nat
  bytes : Nat
  zero : Value
  deriving Inhabited

def TK.agg : TK → Bool
  | .struct _ | .arr _ _ => true
  | _ => false

abbrev TEnv := TypeId → TI

def ofVal : Value → AV
  | .agg cs => .agg (cs.toList.map .v)
  | x => .v x

abbrev Frm := List (Nat × AV)
abbrev Hp := List (Nat × Option Blk)

def lkp : Frm → Nat → AV
  | [], _ => .top
  | (d, x) :: r, t => match Nat.beq t d with
    | true => x
    | false => lkp r t

def hlk : Hp → Nat → Option Blk
  | [], _ => none
  | (d, x) :: r, t => match Nat.beq t d with
    | true => x
    | false => hlk r t

structure St where
  n : Nat
  fr : Frm
  hp : Hp
  nx : Nat
  deriving Inhabited

def evo (fr : Frm) : Operand → AV
  | .tmp t => lkp fr t
  | .const c => .v c
  | .func f => .fn (.func f) [] []
  | .global _ => .top

def ofCells (agg : Bool) (n : Nat) (cs : List AV) : AV :=
  if agg then .agg (cs.take n) else cs.headD .top

def setCells (x : AV) (off : Nat) (cs : List AV) : AV :=
  match x with
  | .agg xs => .agg (xs.take off ++ cs ++ xs.drop (off + cs.length))
  | _ => cs.headD .top

/-- A list as a slice is read: nil, one that came in, or one of the call's own. -/
def asLst (H : Nat → Option Blk) : AV → Option (List AV)
  | .v (.slice none 0 0) => some []
  | .lst _ xs => some xs
  | .arr id off len => match H id with
    | some b => if off + len ≤ b.el.length then some ((b.el.drop off).take len) else none
    | none => none
  | _ => none

def idOf : AV → List Nat
  | .arr id _ _ => [id]
  | _ => []

def lenOf : AV → Option Nat
  | .v (.slice none 0 0) => some 0
  | .lst _ xs => some xs.length
  | .arr _ _ len => some len
  | _ => none

/-- Are two scalars of one kind the same? -/
def scalEq : TK → AV → AV → Option Bool
  | .int _, .v (.int k a), .v (.int k' b) => if k = k' then some (a == b) else none
  | .bool, .v (.bool a), .v (.bool b) => some (a == b)
  | _, _, _ => none

/-- Are a struct's fields (from cell i on), which are scalars, the same? -/
def fieldsEq (T : TEnv) : Nat → List (Nat × TypeId) → List AV → List AV → Option Bool
  | _, [], [], [] => some true
  | i, (o, t) :: fs, x :: xs, y :: ys => if o = i then match scalEq (T t).k x y, fieldsEq T (i + 1) fs xs ys with
    | some a, some b => some (a && b)
    | _, _ => none
    else none
  | _, _, _, _ => none

def intOp (op : BinOp) (k : IntKind) (a b : Int) (K : AV → Prop) : Prop :=
  match op with
  | .add => K (.v (.int k (k.wrap (a + b))))
  | .sub => K (.v (.int k (k.wrap (a - b))))
  | .mul => K (.v (.int k (k.wrap (a * b))))
  | .quo => b ≠ 0 ∧ K (.v (.int k (k.wrap (a.tdiv b))))
  | .rem => b ≠ 0 ∧ K (.v (.int k (a.tmod b)))
  | .and => K (.v (.int k (k.wrap (BitVec.ofInt k.bits a &&& BitVec.ofInt k.bits b).toNat)))
  | .or => K (.v (.int k (k.wrap (BitVec.ofInt k.bits a ||| BitVec.ofInt k.bits b).toNat)))
  | .xor => K (.v (.int k (k.wrap (BitVec.ofInt k.bits a ^^^ BitVec.ofInt k.bits b).toNat)))
  | .andNot => K (.v (.int k (k.wrap (BitVec.ofInt k.bits a &&& ~~~(BitVec.ofInt k.bits b)).toNat)))
  | .eql => K (.v (.bool (a == b)))
  | .neq => K (.v (.bool (a != b)))
  | .lss => K (.v (.bool (decide (a < b))))
  | .leq => K (.v (.bool (decide (a ≤ b))))
  | .gtr => K (.v (.bool (decide (a > b))))
  | .geq => K (.v (.bool (decide (a ≥ b))))
  | _ => False

def shiftOp (op : BinOp) (k : IntKind) (a b : Int) (K : AV → Prop) : Prop :=
  match op with
  | .shl => 0 ≤ b ∧ K (.v (.int k (k.wrap (a * 2 ^ (min b.toNat k.bits)))))
  | .shr => 0 ≤ b ∧ K (.v (.int k (a.fdiv (2 ^ (min b.toNat k.bits)))))
  | _ => False

/-- A struct type's fields. -/
def fieldsOf (T : TEnv) (t : TypeId) : Option (List (Nat × TypeId)) :=
  match (T t).k with
  | .struct fs => some fs
  | _ => none

def isEq : BinOp → Option Bool
  | .eql => some true
  | .neq => some false
  | _ => none

def binA (T : TEnv) (op : BinOp) (t : TypeId) (x y : AV) (K : AV → Prop) : Prop :=
  match x, y with
  | .v (.int k a), .v (.int k' b) =>
    match op with
    | .shl | .shr => shiftOp op k a b K
    | _ => k = k' ∧ intOp op k a b K
  | .v (.bool a), .v (.bool b) =>
    match (T t).k, isEq op with
    | .bool, some e => K (.v (.bool ((a == b) == e)))
    | _, _ => False
  | .agg xs, .agg ys =>
    match fieldsOf T t, isEq op with
    | some fs, some e => match fieldsEq T 0 fs xs ys with
      | some b => K (.v (.bool (b == e)))
      | none => False
    | _, _ => False
  | x, .v (.slice none _ _) =>
    match (T t).k, isEq op, x with
    | .slice _, some e, .v (.slice none _ _) => K (.v (.bool e))
    | .slice _, some e, .lst _ xs => K (.nb xs e)
    | _, _, _ => False
  | _, _ => False

def unA (op : UnOp) (x : AV) (K : AV → Prop) : Prop :=
  match op, x with
  | .not, .v (.bool b) => K (.v (.bool (!b)))
  | .neg, .v (.int k n) => K (.v (.int k (k.wrap (0 - n))))
  | _, _ => False

abbrev Upd := List (Nat × Option Blk)

/-- Parts of a struct or of an array's or a slice's elements laid into cells. -/
def fillA (place : Nat → Option (Nat × Nat)) : List AV → List (Nat × AV) → Option (List AV)
  | cells, [] => some cells
  | cells, (i, x) :: rest => match place i with
    | none => none
    | some (off, size) =>
      if x.wr size = true ∧ off + size ≤ cells.length then fillA place (cells.take off ++ x.cells ++ cells.drop (off + size)) rest else none

def setElems (sz : Nat) : List AV → List (Nat × AV) → Option (List AV)
  | el, [] => some el
  | el, (i, x) :: rest => if x.wr sz = true ∧ i < el.length then setElems sz (el.set i x) rest else none

/-- Are the elements of what is appended of that size? -/
def srcOk (T : TEnv) (H : Nat → Option Blk) (e : TypeId) : AV → Prop
  | .lst sz _ => sz = (T e).size
  | .arr id _ _ => match H id with
    | some b => b.sz = (T e).size
    | none => False
  | _ => True

def bndA (x : Option AV) (d : Nat) : Option Int :=
  match x with
  | none => some d
  | some (.v (.int _ i)) => some i
  | _ => none

/-- One operation that enters no function: what it answers, what it writes (or makes, under the name 'me'), what it reads. -/
def aop (T : TEnv) (o : Op) (ρ : Operand → AV) (H : Nat → Option Blk) (me : Nat) (K : AV → Upd → List Nat → Prop) : Prop :=
  match o with
  | .move x | .assign x => K (ρ x) [] []
  | .pick c a b => match ρ c with
    | .v (.bool c') => match c', ρ a, ρ b with
      | true, x, _ => K x [] []
      | false, _, y => K y [] []
    | _ => False
  | .alloc t => (T t).k ≠ .none ∧ 0 < (T t).size ∧ K (.ptr me 0 0) [(me, some ⟨false, t, (T t).size, [ofVal (T t).zero]⟩)] []
  | .box t x => (T t).k ≠ .none ∧ 0 < (T t).size ∧ (ρ x).wr (T t).size = true ∧ K (.ptr me 0 0) [(me, some ⟨false, t, (T t).size, [ρ x]⟩)] []
  | .build t parts => match (T t).k with
    | .struct fs => match fillA (fun i => (fs[i]?).map fun f => (f.1, (T f.2).size)) (ofVal (T t).zero).cells (parts.toList.map fun p => (p.1, ρ p.2)) with
      | some cs => (fs.all fun f => (T f.2).k ≠ .none) = true ∧ K (.agg cs) [] []
      | none => False
    | .arr _ e => match fillA (fun i => some (i * (T e).size, (T e).size)) (ofVal (T t).zero).cells (parts.toList.map fun p => (p.1, ρ p.2)) with
      | some cs => (T e).k ≠ .none ∧ K (.agg cs) [] []
      | none => False
    | _ => False
  | .buildSlice t len parts => match (T t).k with
    | .slice e => match setElems (T e).size (List.replicate len (ofVal (T e).zero)) (parts.toList.map fun p => (p.1, ρ p.2)) with
      | some el => (T e).k ≠ .none ∧ 0 < (T e).size ∧ len * (T e).size ≤ 16777216 ∧ K (.arr me 0 len) [(me, some ⟨false, e, (T e).size, el⟩)] []
      | none => False
    | _ => False
  | .load t a => (T t).k ≠ .none ∧ match ρ a with
    | .ptr id i off => match H id with
      | some b => i < b.el.length ∧ off + (T t).size ≤ (b.el.getD i .top).cells.length ∧ 0 < (T t).size ∧
          ((T t).k.agg = false → (T t).size = 1) ∧ K (ofCells (T t).k.agg (T t).size ((b.el.getD i .top).cells.drop off)) [] [id]
      | none => False
    | .rptr cs => (T t).size ≤ cs.length ∧ 0 < (T t).size ∧ ((T t).k.agg = false → (T t).size = 1) ∧ K (ofCells (T t).k.agg (T t).size cs) [] []
    | _ => False
  | .store t a y => (T t).k ≠ .none ∧ match ρ a with
    | .ptr id i off => match H id with
      | some b => b.ro = false ∧ i < b.el.length ∧ off + (T t).size ≤ (b.el.getD i .top).cells.length ∧ (ρ y).wr (T t).size = true ∧
          ((b.el.getD i .top).cells.length = b.sz) ∧ 0 < (T t).size ∧
          K .top [(id, some { b with el := b.el.set i (setCells (b.el.getD i .top) off (ρ y).cells) })] [id]
      | none => False
    | _ => False
  | .nilCheck x => match ρ x with
    | .ptr id i off => K (.ptr id i off) [] []
    | .rptr cs => K (.rptr cs) [] []
    | .fn (.func f) a b => K (.fn (.func f) a b) [] []
    | _ => False
  | .binOp op t x y _ => binA T op t (ρ x) (ρ y) fun r => K r [] []
  | .unOp op _ x => unA op (ρ x) fun r => K r [] []
  | .convert src dst x => (T src).k ≠ .none ∧ match (T dst).k, ρ x with
    | .int k, .v (.int _ n) => K (.v (.int k (k.wrap n))) [] []
    | _, _ => False
  | .makeFunc f first cap => K (.fn f (first.toList.map ρ) (cap.toList.map ρ)) [] []
  | .slice t x lo hi mx => match (T t).k with
    | .slice e => (T e).k ≠ .none ∧ match lenOf (ρ x) with
      | some n => match bndA (lo.map ρ) 0, bndA (hi.map ρ) n, bndA (mx.map ρ) n with
        | some l, some h, some m => (mx.isSome → hi.isSome) ∧ 0 ≤ l ∧ l ≤ h ∧ h ≤ m ∧ m ≤ n ∧ match ρ x with
          | .v (.slice none 0 0) => K (.v (.slice none 0 0)) [] []
          | .lst sz xs => sz = (T e).size ∧ K (.lst sz ((xs.drop l.toNat).take (h.toNat - l.toNat))) [] []
          | .arr id off _ => (match H id with | some b => b.sz = (T e).size | none => False) ∧ K (.arr id (off + l.toNat) (h.toNat - l.toNat)) [] [id]
          | _ => False
        | _, _, _ => False
      | none => False
    | _ => False
  | .fieldAddr s x f => match (T s).k with
    | .struct fs => match fs[f]? with
      | some (off', ft) => (T ft).k ≠ .none ∧ 0 < (T ft).size ∧ match ρ x with
        | .ptr id i off => K (.ptr id i (off + off')) [] []
        | .rptr cs => K (.rptr (cs.drop off')) [] []
        | _ => False
      | none => False
    | _ => False
  | .field s x f => match (T s).k with
    | .struct fs => match fs[f]?, ρ x with
      | some (off', ft), .agg cs => (T ft).k ≠ .none ∧ off' + (T ft).size ≤ cs.length ∧ 0 < (T ft).size ∧ ((T ft).k.agg = false → (T ft).size = 1) ∧
          K (ofCells (T ft).k.agg (T ft).size (cs.drop off')) [] []
      | _, _ => False
    | _ => False
  | .indexAddr t x ix => match (T t).k, ρ ix with
    | .slice e, .v (.int _ i) => (T e).k ≠ .none ∧ match ρ x with
      | .lst sz xs => sz = (T e).size ∧ 0 ≤ i ∧ i < xs.length ∧ K (.rptr (xs.getD i.toNat .top).cells) [] []
      | .arr id off len => (match H id with | some b => b.sz = (T e).size | none => False) ∧ 0 ≤ i ∧ i < len ∧ K (.ptr id (off + i.toNat) 0) [] [id]
      | _ => False
    | .arr n e, .v (.int _ i) => (T e).k ≠ .none ∧ 0 < (T e).size ∧ 0 ≤ i ∧ i < n ∧ match ρ x with
      | .ptr id k off => K (.ptr id k (off + i.toNat * (T e).size)) [] []
      | .rptr cs => K (.rptr (cs.drop (i.toNat * (T e).size))) [] []
      | _ => False
    | _, _ => False
  | .index t x ix => match (T t).k, ρ x, ρ ix with
    | .arr n e, .agg cs, .v (.int _ i) => (T e).k ≠ .none ∧ 0 ≤ i ∧ i < n ∧ i.toNat * (T e).size + (T e).size ≤ cs.length ∧ 0 < (T e).size ∧ ((T e).k.agg = false → (T e).size = 1) ∧
        K (ofCells (T e).k.agg (T e).size (cs.drop (i.toNat * (T e).size))) [] []
    | _, _, _ => False
  | .extract x i => match ρ x with
    | .tup vs => i < vs.length ∧ K (vs.getD i .top) [] []
    | _ => False
  | .call { callee := .builtin .len, args := args, argTypes := ts } => match args.toList, ts.toList with
    | [x], [t] => match (T t).k, lenOf (ρ x) with
      | .slice _, some n => K (.v (.int .i64 n)) [] []
      | _, _ => False
    | _, _ => False
  | .call { callee := .builtin .append, args := args, argTypes := ts } => match args.toList, ts.toList with
    | [s, x], [t, t'] => t = t' ∧ match (T t).k, asLst H (ρ x) with
      | .slice e, some ys => (T e).k ≠ .none ∧ 0 < (T e).size ∧ 0 < (T e).bytes ∧ srcOk T H e (ρ x) ∧
        match ρ s with
        | .v (.slice none 0 0) => ys.length * (T e).bytes ≤ 140737488355328 ∧ K (.arr me 0 ys.length) [(me, some ⟨false, e, (T e).size, ys⟩)] (idOf (ρ x))
        | .arr id 0 n => (match H id with
          | some b => b.ro = false ∧ b.ty = e ∧ b.sz = (T e).size ∧ n ≤ b.el.length ∧ (n + ys.length) * (T e).bytes ≤ 140737488355328 ∧
            K (.arr me 0 (n + ys.length)) [(me, some ⟨false, e, (T e).size, b.el.take n ++ ys⟩), (id, none)] (id :: idOf (ρ x))
          | none => False)
        | _ => False
      | _, _ => False
    | _, _ => False
  | _ => False

end Go.Vai
