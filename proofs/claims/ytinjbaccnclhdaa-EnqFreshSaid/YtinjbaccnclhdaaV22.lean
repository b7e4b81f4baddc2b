/- The evaluator in a form that simp goes through: one operation's outcome is data, and nothing is unfolded below a binder. -/
import Derived.Test.YtinjbaccnclhdaaV21
namespace Go.Vai
open Go.RowKit

abbrev Outc := Option (Prop × AV × Upd × List Nat)

def pre (p : Prop) : Outc → Outc
  | some (q, x) => some (p ∧ q, x)
  | none => none

def outA (o : Outc) (K : AV → Upd → List Nat → Prop) : Prop :=
  match o with
  | some (p, r, u, a) => p ∧ K r u a
  | none => False

theorem outA_pre (p : Prop) (o : Outc) (K : AV → Upd → List Nat → Prop) : outA (pre p o) K = (p ∧ outA o K) := by
  cases o with
  | none => simp [pre, outA]
  | some x => obtain ⟨q, r, u, a⟩ := x; simp [pre, outA, and_assoc]

def one (x : AV) : Outc := some (True, x, [], [])

def intOpR (op : BinOp) (k : IntKind) (a b : Int) : Outc :=
  match op with
  | .add => one (.v (.int k (k.wrap (a + b))))
  | .sub => one (.v (.int k (k.wrap (a - b))))
  | .mul => one (.v (.int k (k.wrap (a * b))))
  | .quo => pre (b ≠ 0) (one (.v (.int k (k.wrap (a.tdiv b)))))
  | .rem => pre (b ≠ 0) (one (.v (.int k (a.tmod b))))
  | .and => one (.v (.int k (k.wrap (BitVec.ofInt k.bits a &&& BitVec.ofInt k.bits b).toNat)))
  | .or => one (.v (.int k (k.wrap (BitVec.ofInt k.bits a ||| BitVec.ofInt k.bits b).toNat)))
  | .xor => one (.v (.int k (k.wrap (BitVec.ofInt k.bits a ^^^ BitVec.ofInt k.bits b).toNat)))
  | .andNot => one (.v (.int k (k.wrap (BitVec.ofInt k.bits a &&& ~~~(BitVec.ofInt k.bits b)).toNat)))
  | .eql => one (.v (.bool (a == b)))
  | .neq => one (.v (.bool (a != b)))
  | .lss => one (.v (.bool (decide (a < b))))
  | .leq => one (.v (.bool (decide (a ≤ b))))
  | .gtr => one (.v (.bool (decide (a > b))))
  | .geq => one (.v (.bool (decide (a ≥ b))))
  | _ => none

def shiftOpR (op : BinOp) (k : IntKind) (a b : Int) : Outc :=
  match op with
  | .shl => pre (0 ≤ b) (one (.v (.int k (k.wrap (a * 2 ^ (min b.toNat k.bits))))))
  | .shr => pre (0 ≤ b) (one (.v (.int k (a.fdiv (2 ^ (min b.toNat k.bits))))))
  | _ => none

def binR (T : TEnv) (op : BinOp) (t : TypeId) (x y : AV) : Outc :=
  match x, y with
  | .v (.int k a), .v (.int k' b) =>
    match op with
    | .shl => shiftOpR .shl k a b
    | .shr => shiftOpR .shr k a b
    | op => pre (k = k') (intOpR op k a b)
  | .v (.bool a), .v (.bool b) =>
    match (T t).k, isEq op with
    | .bool, some e => one (.v (.bool ((a == b) == e)))
    | _, _ => none
  | .agg xs, .agg ys =>
    match fieldsOf T t, isEq op with
    | some fs, some e => match fieldsEq T 0 fs xs ys with
      | some b => one (.v (.bool (b == e)))
      | none => none
    | _, _ => none
  | x, .v (.slice none _ _) =>
    match (T t).k, isEq op, x with
    | .slice _, some e, .v (.slice none _ _) => one (.v (.bool e))
    | .slice _, some e, .lst _ xs => one (.nb xs e)
    | _, _, _ => none
  | _, _ => none

def unR (op : UnOp) (x : AV) : Outc :=
  match op, x with
  | .not, .v (.bool b) => one (.v (.bool (!b)))
  | .neg, .v (.int k n) => one (.v (.int k (k.wrap (0 - n))))
  | _, _ => none

theorem bin_out (T : TEnv) (op : BinOp) (t : TypeId) (x y : AV) (K : AV → Upd → List Nat → Prop) : (binA T op t x y fun r => K r [] []) = outA (binR T op t x y) K := by
  unfold binA binR
  split
  · cases op <;> simp [shiftOp, shiftOpR, intOp, intOpR, pre, outA, one, and_assoc]
  · split <;> simp_all [outA, one]
  · split
    · split <;> simp_all [outA, one]
    · simp_all [outA]
  · split <;> simp_all [outA, one]
  · simp_all [outA]

theorem un_out (op : UnOp) (x : AV) (K : AV → Upd → List Nat → Prop) : (unA op x fun r => K r [] []) = outA (unR op x) K := by
  unfold unA unR
  split <;> simp_all [outA, one]

/-- One operation, its outcome as data. -/
def aopR (T : TEnv) (o : Op) (ρ : Operand → AV) (H : Nat → Option Blk) (me : Nat) : Outc :=
  match o with
  | .move x => one (ρ x)
  | .assign x => one (ρ x)
  | .pick c a b => match ρ c with
    | .v (.bool c') => match c', ρ a, ρ b with
      | true, x, _ => one x
      | false, _, y => one y
    | _ => none
  | .alloc t => some ((T t).k ≠ .none ∧ 0 < (T t).size, .ptr me 0 0, [(me, some ⟨false, t, (T t).size, [ofVal (T t).zero]⟩)], [])
  | .box t x => some ((T t).k ≠ .none ∧ 0 < (T t).size ∧ (ρ x).wr (T t).size = true, .ptr me 0 0, [(me, some ⟨false, t, (T t).size, [ρ x]⟩)], [])
  | .build t parts => match (T t).k with
    | .struct fs => match fillA (fun i => (fs[i]?).map fun f => (f.1, (T f.2).size)) (ofVal (T t).zero).cells (parts.toList.map fun p => (p.1, ρ p.2)) with
      | some cs => some ((fs.all fun f => (T f.2).k ≠ .none) = true, .agg cs, [], [])
      | none => none
    | .arr _ e => match fillA (fun i => some (i * (T e).size, (T e).size)) (ofVal (T t).zero).cells (parts.toList.map fun p => (p.1, ρ p.2)) with
      | some cs => some ((T e).k ≠ .none, .agg cs, [], [])
      | none => none
    | _ => none
  | .buildSlice t len parts => match (T t).k with
    | .slice e => match setElems (T e).size (List.replicate len (ofVal (T e).zero)) (parts.toList.map fun p => (p.1, ρ p.2)) with
      | some el => some ((T e).k ≠ .none ∧ 0 < (T e).size ∧ len * (T e).size ≤ 16777216, .arr me 0 len, [(me, some ⟨false, e, (T e).size, el⟩)], [])
      | none => none
    | _ => none
  | .load t a => pre ((T t).k ≠ .none) (match ρ a with
    | .ptr id i off => match H id with
      | some b => some (i < b.el.length ∧ off + (T t).size ≤ (b.el.getD i .top).cells.length ∧ 0 < (T t).size ∧ ((T t).k.agg = false → (T t).size = 1),
          ofCells (T t).k.agg (T t).size ((b.el.getD i .top).cells.drop off), [], [id])
      | none => none
    | .rptr cs => some ((T t).size ≤ cs.length ∧ 0 < (T t).size ∧ ((T t).k.agg = false → (T t).size = 1), ofCells (T t).k.agg (T t).size cs, [], [])
    | _ => none)
  | .store t a y => pre ((T t).k ≠ .none) (match ρ a with
    | .ptr id i off => match H id with
      | some b => some (b.ro = false ∧ i < b.el.length ∧ off + (T t).size ≤ (b.el.getD i .top).cells.length ∧ (ρ y).wr (T t).size = true ∧ ((b.el.getD i .top).cells.length = b.sz) ∧ 0 < (T t).size,
          .top, [(id, some { b with el := b.el.set i (setCells (b.el.getD i .top) off (ρ y).cells) })], [id])
      | none => none
    | _ => none)
  | .nilCheck x => match ρ x with
    | .ptr id i off => one (.ptr id i off)
    | .rptr cs => one (.rptr cs)
    | .fn (.func f) a b => one (.fn (.func f) a b)
    | _ => none
  | .binOp op t x y _ => binR T op t (ρ x) (ρ y)
  | .unOp op _ x => unR op (ρ x)
  | .convert src dst x => pre ((T src).k ≠ .none) (match (T dst).k, ρ x with
    | .int k, .v (.int _ n) => one (.v (.int k (k.wrap n)))
    | _, _ => none)
  | .makeFunc f first cap => one (.fn f (first.toList.map ρ) (cap.toList.map ρ))
  | .slice t x lo hi mx => match (T t).k with
    | .slice e => pre ((T e).k ≠ .none) (match lenOf (ρ x) with
      | some n => match bndA (lo.map ρ) 0, bndA (hi.map ρ) n, bndA (mx.map ρ) n with
        | some l, some h, some m => pre ((mx.isSome → hi.isSome) ∧ 0 ≤ l ∧ l ≤ h ∧ h ≤ m ∧ m ≤ n) (match ρ x with
          | .v (.slice none 0 0) => one (.v (.slice none 0 0))
          | .lst sz xs => some (sz = (T e).size, .lst sz ((xs.drop l.toNat).take (h.toNat - l.toNat)), [], [])
          | .arr id off _ => some ((match H id with | some b => b.sz = (T e).size | none => False), .arr id (off + l.toNat) (h.toNat - l.toNat), [], [id])
          | _ => none)
        | _, _, _ => none
      | none => none)
    | _ => none
  | .fieldAddr s x f => match (T s).k with
    | .struct fs => match fs[f]? with
      | some (off', ft) => pre ((T ft).k ≠ .none ∧ 0 < (T ft).size) (match ρ x with
        | .ptr id i off => one (.ptr id i (off + off'))
        | .rptr cs => one (.rptr (cs.drop off'))
        | _ => none)
      | none => none
    | _ => none
  | .field s x f => match (T s).k with
    | .struct fs => match fs[f]?, ρ x with
      | some (off', ft), .agg cs => some ((T ft).k ≠ .none ∧ off' + (T ft).size ≤ cs.length ∧ 0 < (T ft).size ∧ ((T ft).k.agg = false → (T ft).size = 1),
          ofCells (T ft).k.agg (T ft).size (cs.drop off'), [], [])
      | _, _ => none
    | _ => none
  | .indexAddr t x ix => match (T t).k, ρ ix with
    | .slice e, .v (.int _ i) => pre ((T e).k ≠ .none) (match ρ x with
      | .lst sz xs => some (sz = (T e).size ∧ 0 ≤ i ∧ i < xs.length, .rptr (xs.getD i.toNat .top).cells, [], [])
      | .arr id off len => some ((match H id with | some b => b.sz = (T e).size | none => False) ∧ 0 ≤ i ∧ i < len, .ptr id (off + i.toNat) 0, [], [id])
      | _ => none)
    | .arr n e, .v (.int _ i) => pre ((T e).k ≠ .none ∧ 0 < (T e).size ∧ 0 ≤ i ∧ i < n) (match ρ x with
      | .ptr id k off => one (.ptr id k (off + i.toNat * (T e).size))
      | .rptr cs => one (.rptr (cs.drop (i.toNat * (T e).size)))
      | _ => none)
    | _, _ => none
  | .index t x ix => match (T t).k, ρ x, ρ ix with
    | .arr n e, .agg cs, .v (.int _ i) => some ((T e).k ≠ .none ∧ 0 ≤ i ∧ i < n ∧ i.toNat * (T e).size + (T e).size ≤ cs.length ∧ 0 < (T e).size ∧ ((T e).k.agg = false → (T e).size = 1),
        ofCells (T e).k.agg (T e).size (cs.drop (i.toNat * (T e).size)), [], [])
    | _, _, _ => none
  | .extract x i => match ρ x with
    | .tup vs => some (i < vs.length, vs.getD i .top, [], [])
    | _ => none
  | .call { callee := .builtin .len, args := args, argTypes := ts } => match args.toList, ts.toList with
    | [x], [t] => match (T t).k, lenOf (ρ x) with
      | .slice _, some n => one (.v (.int .i64 n))
      | _, _ => none
    | _, _ => none
  | .call { callee := .builtin .append, args := args, argTypes := ts } => match args.toList, ts.toList with
    | [s, x], [t, t'] => pre (t = t') (match (T t).k, asLst H (ρ x) with
      | .slice e, some ys => pre ((T e).k ≠ .none ∧ 0 < (T e).size ∧ 0 < (T e).bytes ∧ srcOk T H e (ρ x)) (match ρ s with
        | .v (.slice none 0 0) => some (ys.length * (T e).bytes ≤ 140737488355328, .arr me 0 ys.length, [(me, some ⟨false, e, (T e).size, ys⟩)], idOf (ρ x))
        | .arr id 0 n => match H id with
          | some b => some (b.ro = false ∧ b.ty = e ∧ b.sz = (T e).size ∧ n ≤ b.el.length ∧ (n + ys.length) * (T e).bytes ≤ 140737488355328,
            .arr me 0 (n + ys.length), [(me, some ⟨false, e, (T e).size, b.el.take n ++ ys⟩), (id, none)], (id :: idOf (ρ x)))
          | none => none
        | _ => none)
      | _, _ => none)
    | _, _ => none
  | _ => none

theorem aop_out (T : TEnv) (o : Op) (ρ : Operand → AV) (H : Nat → Option Blk) (me : Nat) (K : AV → Upd → List Nat → Prop) : aop T o ρ H me K = outA (aopR T o ρ H me) K := by
  unfold aop aopR
  split
  all_goals try dsimp only
  all_goals first
    | exact bin_out ..
    | exact un_out ..
    | (simp only [outA, one, true_and, and_assoc]; done)
    | (repeat' split
       all_goals try simp_all [outA, one, pre, and_assoc]
       all_goals try (rename_i h; exact (h _ _ rfl rfl).elim)
       all_goals try (rename_i h; exact (h _ _ _ rfl rfl rfl).elim)
       all_goals try (rename_i h; exact (h _ _ _ _ rfl rfl rfl rfl).elim)
       all_goals try (rename_i h; exact (h _ _ _ _ _ rfl rfl rfl rfl rfl).elim)
       all_goals try (rename_i h _; exact (h _ _ rfl rfl).elim)
       all_goals try (rename_i h _; exact (h _ _ _ rfl rfl rfl).elim)
       all_goals try (rename_i h _; exact (h _ _ _ _ rfl rfl rfl rfl).elim)
       all_goals try (rename_i h _; exact (h _ _ _ _ _ rfl rfl rfl rfl rfl).elim)
       all_goals try (rename_i h _ _; exact (h _ _ rfl rfl).elim)
       all_goals try (rename_i h _ _; exact (h _ _ _ rfl rfl rfl).elim)
       all_goals try (rename_i h _ _; exact (h _ _ _ _ rfl rfl rfl rfl).elim)
       all_goals try (rename_i h _ _; exact (h _ _ _ _ _ rfl rfl rfl rfl rfl).elim)
       all_goals try (rename_i h _ _ _; exact (h _ _ rfl rfl).elim)
       all_goals try (rename_i h _ _ _; exact (h _ _ _ rfl rfl rfl).elim)
       all_goals try (rename_i h _ _ _; exact (h _ _ _ _ rfl rfl rfl rfl).elim)
       all_goals try (rename_i h _ _ _; exact (h _ _ _ _ _ rfl rfl rfl rfl rfl).elim)
       all_goals try (rename_i h _ _ _ _; exact (h _ _ rfl rfl).elim)
       all_goals try (rename_i h _ _ _ _; exact (h _ _ _ rfl rfl rfl).elim)
       all_goals try (rename_i h _ _ _ _; exact (h _ _ _ _ rfl rfl rfl rfl).elim)
       all_goals try (rename_i h _ _ _ _; exact (h _ _ _ _ _ rfl rfl rfl rfl rfl).elim)
       all_goals try (rename_i h _ _ _ _ _; exact (h _ _ rfl rfl).elim)
       all_goals try (rename_i h _ _ _ _ _; exact (h _ _ _ rfl rfl rfl).elim)
       all_goals try (rename_i h _ _ _ _ _; exact (h _ _ _ _ rfl rfl rfl rfl).elim)
       all_goals try (rename_i h _ _ _ _ _; exact (h _ _ _ _ _ rfl rfl rfl rfl rfl).elim)
       all_goals try (rename_i h _ _ _ _ _ _; exact (h _ _ rfl rfl).elim)
       all_goals try (rename_i h _ _ _ _ _ _; exact (h _ _ _ rfl rfl rfl).elim)
       all_goals try (rename_i h _ _ _ _ _ _; exact (h _ _ _ _ rfl rfl rfl rfl).elim)
       all_goals try (rename_i h _ _ _ _ _ _; exact (h _ _ _ _ _ rfl rfl rfl rfl rfl).elim)
       all_goals try (rename_i h _ _ _ _ _ _ _; exact (h _ _ rfl rfl).elim)
       all_goals try (rename_i h _ _ _ _ _ _ _; exact (h _ _ _ rfl rfl rfl).elim)
       all_goals try (rename_i h _ _ _ _ _ _ _; exact (h _ _ _ _ rfl rfl rfl rfl).elim)
       all_goals try (rename_i h _ _ _ _ _ _ _; exact (h _ _ _ _ _ rfl rfl rfl rfl rfl).elim))

end Go.Vai
