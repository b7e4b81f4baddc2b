/- The cells' layer: what its functions compute. -/
import Derived.Test.YtegfjolkcaoonaaS1
import Derived.IntWalk
namespace Go.Vai
open Go.RowKit

def u (x : Int) : AV := .v (.int .u64 x)
def iv (x : Int) : AV := .v (.int .i64 x)
def bv (b : Bool) : AV := .v (.bool b)
def ms (m : List Int) : AV := .lst 1 (m.map u)

def dU : List AV → Option (List Int)
  | [] => some []
  | .v (.int .u64 x) :: r => (dU r).map (x :: ·)
  | _ => none

theorem dU_map : ∀ m : List Int, dU (m.map u) = some m
  | [] => rfl
  | x :: m => by simp only [List.map_cons, u, dU]; rw [dU_map m]; rfl

theorem dU_some : ∀ {xs : List AV} {m : List Int}, dU xs = some m → xs = m.map u
  | [], m, h => by simp only [dU, Option.some.injEq] at h; subst h; rfl
  | x :: xs, m, h => by
    cases hr : dU xs with
    | none =>
      unfold dU at h
      split at h
      · rename_i heq; cases heq
      · rename_i heq; cases heq; rw [hr] at h; cases h
      · cases h
    | some m' =>
      unfold dU at h
      split at h
      · rename_i heq; cases heq
      · rename_i heq; cases heq; rw [hr] at h; cases h; rw [dU_some hr]; rfl
      · cases h

/-- The cells of an argument, at most a thousand. -/
def dM (a : AV) : Option (List Int) :=
  match a with
  | .lst 1 xs => (dU xs).bind fun m => if m.length ≤ 1000 then some m else none
  | _ => none

theorem dM_ms {m : List Int} (h : m.length ≤ 1000) : dM (ms m) = some m := by simp [dM, ms, dU_map, h]
theorem dM_some {a : AV} {m : List Int} (h : dM a = some m) : a = ms m ∧ m.length ≤ 1000 := by
  unfold dM at h
  split at h
  · rename_i xs
    cases hx : dU xs with
    | none => rw [hx] at h; cases h
    | some m' =>
      rw [hx] at h
      simp only [Option.bind_some] at h
      split at h
      · rename_i hl; cases h; exact ⟨by rw [ms, dU_some hx], hl⟩
      · cases h
  · cases h

theorem hfree_ms (m : List Int) : HFree (ms m) := hfree_lst fun x hx c hc => by
  obtain ⟨y, _, rfl⟩ := List.mem_map.1 hx
  simp only [u, AV.cells, List.mem_singleton] at hc
  subst hc; exact hfree_v _
theorem hfree_u (x : Int) : HFree (u x) := hfree_v _
theorem hfree_iv (x : Int) : HFree (iv x) := hfree_v _

/-- The cells' functions. -/
def isIn (m : List Int) (i : Int) : Bool := decide (0 ≤ i ∧ i < m.length)
def mLoad (m : List Int) (i : Int) : Int := if isIn m i then m.getD i.toNat 0 else 0
def mStore (m : List Int) (i v : Int) : List Int := if isIn m i then m.set i.toNat v else m
def mCasB (m : List Int) (i old : Int) : Bool := isIn m i && (mLoad m i == old)
def mCas (m : List Int) (i old nw : Int) : List Int := if mCasB m i old = true then m.set i.toNat nw else m
def wrapU (x : Int) : Int := IntKind.wrap .u64 x
def mAdd (m : List Int) (i v : Int) : List Int := mStore m i (wrapU (mLoad m i + v))

theorem len_store (m : List Int) (i v : Int) : (mStore m i v).length = m.length := by unfold mStore; split <;> simp

/-- A table of contracts. -/
abbrev Row := FuncId × (List AV → Option AV)
def tabC (rows : List Row) : FuncId → List AV → Option AV := fun f args => (rows.lookup f).bind fun g => g args
def ctx (P : Program) (rows : List Row) : Ctx := ⟨P, T P, tabC rows⟩
theorem ctx_P (P : Program) (rows : List Row) : (ctx P rows).P = P := rfl
theorem ctx_T (P : Program) (rows : List Row) : (ctx P rows).T = T P := rfl
theorem ctx_C (P : Program) (rows : List Row) : (ctx P rows).C = tabC rows := rfl

def RowOk (P : Program) (p : Row) : Prop := ∀ args r, p.2 args = some r → Enters P p.1 ∧ (∀ a ∈ args, HFree a) ∧ PureC P p.1 args r

open Go.Proofs

theorem rows_ok {rows : List Row} (h : ∀ p ∈ rows, RowOk Try.prog p) : (ctx Try.prog rows).ok := ⟨T_ok, draws_ok, fun f args r hC => by
  change tabC rows f args = some r at hC
  change Enters Try.prog f ∧ (∀ a ∈ args, HFree a) ∧ PureC Try.prog f args r
  unfold tabC at hC
  have : ∀ l : List Row, (∀ p ∈ l, RowOk Try.prog p) → (l.lookup f).bind (fun g => g args) = some r → Enters Try.prog f ∧ (∀ a ∈ args, HFree a) ∧ PureC Try.prog f args r := by
    intro l
    induction l with
    | nil => intro _ h; cases h
    | cons p l ih =>
      intro hp hl
      obtain ⟨g, row⟩ := p
      simp only [List.lookup] at hl
      split at hl
      · rename_i he
        have := hp (g, row) (by simp) args r hl
        rw [eq_of_beq he]; exact this
      · exact ih (fun p hp' => hp p (by simp [hp'])) hl
  exact this rows h hC⟩

theorem ok0 : (ctx Try.prog []).ok := rows_ok fun _ h => by cases h
theorem enters_of {f : FuncId} {fn : Func} (h : Try.prog.funcs[f]? = some fn) (h1 : (fn.name == "runtime.NumGoroutine") = false) (h2 : fn.body.isNone = false) : Enters Try.prog f := ⟨fn, h, h1, h2⟩

def rMI (F : List Int → Int → AV) : List AV → Option AV
  | [a, .v (.int .i64 i)] => (dM a).map fun m => F m i
  | _ => none
def rMIU (F : List Int → Int → Int → AV) : List AV → Option AV
  | [a, .v (.int .i64 i), .v (.int .u64 v)] => (dM a).map fun m => F m i v
  | _ => none
def rMIUU (F : List Int → Int → Int → Int → AV) : List AV → Option AV
  | [a, .v (.int .i64 i), .v (.int .u64 v), .v (.int .u64 w)] => (dM a).map fun m => F m i v w
  | _ => none
def rMM (F : List Int → List Int → AV) : List AV → Option AV
  | [a, b] => (dM a).bind fun m => (dM b).map fun k => F m k
  | _ => none

theorem rMI_eq (F : List Int → Int → AV) (m : List Int) (i : Int) (h : m.length ≤ 1000) : rMI F [.lst 1 (m.map u), .v (.int .i64 i)] = some (F m i) := by simp [rMI, dM, dU_map, h]
theorem rMIU_eq (F : List Int → Int → Int → AV) (m : List Int) (i v : Int) (h : m.length ≤ 1000) : rMIU F [.lst 1 (m.map u), .v (.int .i64 i), .v (.int .u64 v)] = some (F m i v) := by simp [rMIU, dM, dU_map, h]
theorem rMIUU_eq (F : List Int → Int → Int → Int → AV) (m : List Int) (i v w : Int) (h : m.length ≤ 1000) : rMIUU F [.lst 1 (m.map u), .v (.int .i64 i), .v (.int .u64 v), .v (.int .u64 w)] = some (F m i v w) := by simp [rMIUU, dM, dU_map, h]
theorem rMM_eq (F : List Int → List Int → AV) (m k : List Int) (h : m.length ≤ 1000) (h' : k.length ≤ 1000) : rMM F [.lst 1 (m.map u), .lst 1 (k.map u)] = some (F m k) := by simp [rMM, dM, dU_map, h, h']

theorem ok_MI {f : FuncId} {F : List Int → Int → AV} (he : Enters Try.prog f) (h : ∀ m i, m.length ≤ 1000 → PureC Try.prog f [ms m, iv i] (F m i)) : RowOk Try.prog (f, rMI F) := by
  intro args r hr
  simp only [rMI] at hr
  split at hr
  · rename_i a i
    cases hd : dM a with
    | none => rw [hd] at hr; cases hr
    | some m =>
      rw [hd] at hr; cases hr
      obtain ⟨rfl, hl⟩ := dM_some hd
      exact ⟨he, by simp only [List.mem_cons, List.not_mem_nil, or_false]; rintro a (rfl | rfl) <;> first | exact hfree_ms _ | exact hfree_v _, h m i hl⟩
  · cases hr
theorem ok_MIU {f : FuncId} {F : List Int → Int → Int → AV} (he : Enters Try.prog f) (h : ∀ m i v, m.length ≤ 1000 → PureC Try.prog f [ms m, iv i, u v] (F m i v)) : RowOk Try.prog (f, rMIU F) := by
  intro args r hr
  simp only [rMIU] at hr
  split at hr
  · rename_i a i v
    cases hd : dM a with
    | none => rw [hd] at hr; cases hr
    | some m =>
      rw [hd] at hr; cases hr
      obtain ⟨rfl, hl⟩ := dM_some hd
      exact ⟨he, by simp only [List.mem_cons, List.not_mem_nil, or_false]; rintro a (rfl | rfl | rfl) <;> first | exact hfree_ms _ | exact hfree_v _, h m i v hl⟩
  · cases hr
theorem ok_MIUU {f : FuncId} {F : List Int → Int → Int → Int → AV} (he : Enters Try.prog f) (h : ∀ m i v w, m.length ≤ 1000 → PureC Try.prog f [ms m, iv i, u v, u w] (F m i v w)) : RowOk Try.prog (f, rMIUU F) := by
  intro args r hr
  simp only [rMIUU] at hr
  split at hr
  · rename_i a i v w
    cases hd : dM a with
    | none => rw [hd] at hr; cases hr
    | some m =>
      rw [hd] at hr; cases hr
      obtain ⟨rfl, hl⟩ := dM_some hd
      exact ⟨he, by simp only [List.mem_cons, List.not_mem_nil, or_false]; rintro a (rfl | rfl | rfl | rfl) <;> first | exact hfree_ms _ | exact hfree_v _, h m i v w hl⟩
  · cases hr
theorem ok_MM {f : FuncId} {F : List Int → List Int → AV} (he : Enters Try.prog f) (h : ∀ m k, m.length ≤ 1000 → k.length ≤ 1000 → PureC Try.prog f [ms m, ms k] (F m k)) : RowOk Try.prog (f, rMM F) := by
  intro args r hr
  simp only [rMM] at hr
  split at hr
  · rename_i a b
    cases hd : dM a with
    | none => rw [hd] at hr; cases hr
    | some m =>
      cases hd' : dM b with
      | none => rw [hd, hd'] at hr; cases hr
      | some k =>
        rw [hd, hd'] at hr; cases hr
        obtain ⟨rfl, hl⟩ := dM_some hd
        obtain ⟨rfl, hl'⟩ := dM_some hd'
        exact ⟨he, by simp only [List.mem_cons, List.not_mem_nil, or_false]; rintro a (rfl | rfl) <;> exact hfree_ms _, h m k hl hl'⟩
  · cases hr

theorem getD_u {m : List Int} {k : Nat} (h : k < m.length) : (m.map u).getD k .top = u (m.getD k 0) := by simp [List.getD_eq_getElem?_getD, h]

set_option linter.unusedSimpArgs false
set_option linter.unusedVariables false
set_option maxHeartbeats 4000000
set_option maxRecDepth 100000

theorem is_pure (m : List Int) (i : Int) : PureC Try.prog 45 [ms m, iv i] (bv (isIn m i)) := by
  refine pure_sub ok0 0 Try.func45 rfl (by show 2 ≤ 13; omega) ?_
  simp only [Try.f45, ms, iv, bv, ctx_T, ctx_C, ctx_P, T4, T3, T38, List.length_map, r_step, r_put, r_put0, r_after, r_guard0, r_guard, r_nil, r_cons, r_stepD, r_afterD0, r_afterD1, r_afterD2, r_nilD, r_consD, r_skip, r_text, r_draw, r_seq, r_cond, r_block, r_loop, r_exit, r_scope, r_label, r_goto, r_ret, r_condB, r_condT, r_condF, ↓condE_t, ↓condE_f, condE_any, ↓guardE_tt, ↓guardE_ff, ↓guardE_tf, ↓guardE_ft, guardE_any, r_then, r_thenR, r_thenE, r_thenG, r_blkN, r_blkR, r_blkG, r_blkE, r_scpN, r_scpR, r_scpE, r_bodyR, r_bodyN, r_ret1, r_call, r_callC, r_callI, r_callE, r_callJ, r_callV, r_again, resB, cv, stepB, stepE, callD, tabD, guardB, guardC, dstAt, aopR, one, pre, binR, intOpR, shiftOpR, unR, argFrm, evo, lkp, hlk, lenOf, asLst, idOf, bndA, srcOk, ofVal, ofCells, setCells, fillA, setElems, fieldsOf, fieldsEq, scalEq, isEq, cells_agg, cells_v, cells_lst, cells_ptr, cells_arr, cells_fn, AV.wr, AV.ok1, TK.agg, frz, frzs, frzA, frzArg, frzArgs, subA, subL, sub1, kp, kh, entryOk_nil, accOf, List.toList_toArray, List.length_cons, List.length_nil, List.nil_append, List.cons_append, List.append_nil, List.map_nil, List.map_cons, List.getD_cons_zero, List.getD_cons_succ, List.drop_zero, List.drop_succ_cons, List.take_succ_cons, List.take_zero, List.all_cons, List.all_nil, List.getElem?_cons_zero, List.getElem?_cons_succ, List.headD_cons, List.set_cons_zero, List.set_cons_succ, Option.map_some, Option.map_none, Option.isSome_some, Option.isSome_none, List.replicate, Nat.zero_add, Nat.add_zero, Int.toNat_zero, Nat.zero_le, Nat.reduceAdd, Nat.reduceSub, Nat.reduceMul, Nat.reduceEqDiff, Nat.reduceLT, Nat.reduceLeDiff, Nat.reduceBEq, reduceIte, reduceCtorEq, eq_self, if_true, if_false, true_and, and_true, false_and, and_false, true_implies, false_implies, implies_true, Bool.not_true, Bool.not_false, Bool.and_true, Bool.true_and, decide_true, decide_false, Bool.false_eq_true, ne_eq, not_false_eq_true, not_true_eq_false, Bool.true_eq_false, Bool.not_eq_true, List.cons_ne_nil, Nat.lt_irrefl, beq_self_eq_true, Int.reduceToNat, Int.reduceLT, Int.reduceLE]
  refine ⟨fun h => ?_, fun h => ?_⟩ <;> simp at h <;> simp [isIn] <;> omega

def rows1 : List Row := [(45, rMI fun m i => bv (isIn m i))]
theorem ok1 : (ctx Try.prog rows1).ok := rows_ok fun p h => by
  simp only [rows1, List.mem_cons, List.not_mem_nil, or_false] at h
  rcases h with rfl
  exact ok_MI (enters_of Try.func45 (by decide) rfl) fun m i _ => is_pure m i

theorem isIn_true {m : List Int} {i : Int} (h : isIn m i = true) : 0 ≤ i ∧ i < m.length ∧ i.toNat < m.length := by
  simp [isIn] at h; omega

theorem load_pure (m : List Int) (i : Int) (hm : m.length ≤ 1000) : PureC Try.prog 34 [ms m, iv i] (u (mLoad m i)) := by
  refine pure_sub ok1 1 Try.func34 rfl (by show 2 ≤ 13; omega) ?_
  cases hin : isIn m i with
  | false =>
    simp only [Try.f34, ms, iv, bv, u, ctx_T, ctx_C, ctx_P, T4, T3, T23, T38, tabC, rows1, List.lookup_cons, Option.bind_some, rMI_eq, hm, hin, mLoad, List.length_map, r_step, r_put, r_put0, r_after, r_guard0, r_guard, r_nil, r_cons, r_stepD, r_afterD0, r_afterD1, r_afterD2, r_nilD, r_consD, r_skip, r_text, r_draw, r_seq, r_cond, r_block, r_loop, r_exit, r_scope, r_label, r_goto, r_ret, r_condB, r_condT, r_condF, ↓condE_t, ↓condE_f, condE_any, ↓guardE_tt, ↓guardE_ff, ↓guardE_tf, ↓guardE_ft, guardE_any, r_then, r_thenR, r_thenE, r_thenG, r_blkN, r_blkR, r_blkG, r_blkE, r_scpN, r_scpR, r_scpE, r_bodyR, r_bodyN, r_ret1, r_call, r_callC, r_callI, r_callE, r_callJ, r_callV, r_again, resB, cv, stepB, stepE, callD, tabD, guardB, guardC, dstAt, aopR, one, pre, binR, intOpR, shiftOpR, unR, argFrm, evo, lkp, hlk, lenOf, asLst, idOf, bndA, srcOk, ofVal, ofCells, setCells, fillA, setElems, fieldsOf, fieldsEq, scalEq, isEq, cells_agg, cells_v, cells_lst, cells_ptr, cells_arr, cells_fn, AV.wr, AV.ok1, TK.agg, frz, frzs, frzA, frzArg, frzArgs, subA, subL, sub1, kp, kh, entryOk_nil, accOf, List.toList_toArray, List.length_cons, List.length_nil, List.nil_append, List.cons_append, List.append_nil, List.map_nil, List.map_cons, List.getD_cons_zero, List.getD_cons_succ, List.drop_zero, List.drop_succ_cons, List.take_succ_cons, List.take_zero, List.all_cons, List.all_nil, List.getElem?_cons_zero, List.getElem?_cons_succ, List.headD_cons, List.set_cons_zero, List.set_cons_succ, Option.map_some, Option.map_none, Option.isSome_some, Option.isSome_none, List.replicate, Nat.zero_add, Nat.add_zero, Int.toNat_zero, Nat.zero_le, Nat.reduceAdd, Nat.reduceSub, Nat.reduceMul, Nat.reduceEqDiff, Nat.reduceLT, Nat.reduceLeDiff, Nat.reduceBEq, reduceIte, reduceCtorEq, eq_self, if_true, if_false, true_and, and_true, false_and, and_false, true_implies, false_implies, implies_true, Bool.not_true, Bool.not_false, Bool.and_true, Bool.true_and, decide_true, decide_false, Bool.false_eq_true, ne_eq, not_false_eq_true, not_true_eq_false, Bool.true_eq_false, Bool.not_eq_true, List.cons_ne_nil, Nat.lt_irrefl, beq_self_eq_true, Int.reduceToNat, Int.reduceLT, Int.reduceLE]
  | true =>
    obtain ⟨h1, h2, h3⟩ := isIn_true hin
    simp only [Try.f34, ms, iv, bv, u, ctx_T, ctx_C, ctx_P, T4, T3, T23, T38, tabC, rows1, List.lookup_cons, Option.bind_some, rMI_eq, hm, hin, h1, h2, h3, getD_u, mLoad, List.length_map, r_step, r_put, r_put0, r_after, r_guard0, r_guard, r_nil, r_cons, r_stepD, r_afterD0, r_afterD1, r_afterD2, r_nilD, r_consD, r_skip, r_text, r_draw, r_seq, r_cond, r_block, r_loop, r_exit, r_scope, r_label, r_goto, r_ret, r_condB, r_condT, r_condF, ↓condE_t, ↓condE_f, condE_any, ↓guardE_tt, ↓guardE_ff, ↓guardE_tf, ↓guardE_ft, guardE_any, r_then, r_thenR, r_thenE, r_thenG, r_blkN, r_blkR, r_blkG, r_blkE, r_scpN, r_scpR, r_scpE, r_bodyR, r_bodyN, r_ret1, r_call, r_callC, r_callI, r_callE, r_callJ, r_callV, r_again, resB, cv, stepB, stepE, callD, tabD, guardB, guardC, dstAt, aopR, one, pre, binR, intOpR, shiftOpR, unR, argFrm, evo, lkp, hlk, lenOf, asLst, idOf, bndA, srcOk, ofVal, ofCells, setCells, fillA, setElems, fieldsOf, fieldsEq, scalEq, isEq, cells_agg, cells_v, cells_lst, cells_ptr, cells_arr, cells_fn, AV.wr, AV.ok1, TK.agg, frz, frzs, frzA, frzArg, frzArgs, subA, subL, sub1, kp, kh, entryOk_nil, accOf, List.toList_toArray, List.length_cons, List.length_nil, List.nil_append, List.cons_append, List.append_nil, List.map_nil, List.map_cons, List.getD_cons_zero, List.getD_cons_succ, List.drop_zero, List.drop_succ_cons, List.take_succ_cons, List.take_zero, List.all_cons, List.all_nil, List.getElem?_cons_zero, List.getElem?_cons_succ, List.headD_cons, List.set_cons_zero, List.set_cons_succ, Option.map_some, Option.map_none, Option.isSome_some, Option.isSome_none, List.replicate, Nat.zero_add, Nat.add_zero, Int.toNat_zero, Nat.zero_le, Nat.reduceAdd, Nat.reduceSub, Nat.reduceMul, Nat.reduceEqDiff, Nat.reduceLT, Nat.reduceLeDiff, Nat.reduceBEq, reduceIte, reduceCtorEq, eq_self, if_true, if_false, true_and, and_true, false_and, and_false, true_implies, false_implies, implies_true, Bool.not_true, Bool.not_false, Bool.and_true, Bool.true_and, decide_true, decide_false, Bool.false_eq_true, ne_eq, not_false_eq_true, not_true_eq_false, Bool.true_eq_false, Bool.not_eq_true, List.cons_ne_nil, Nat.lt_irrefl, beq_self_eq_true, Int.reduceToNat, Int.reduceLT, Int.reduceLE]

theorem set_u (m : List Int) (k : Nat) (v : Int) : (m.map u).set k (.v (.int .u64 v)) = (m.set k v).map u := by rw [List.map_set]; rfl
theorem take_u (m : List Int) : (m.map u).take m.length = m.map u := List.take_of_length_le (by simp)
theorem take_us (m : List Int) (k : Nat) (v : Int) : ((m.set k v).map u).take m.length = (m.set k v).map u := List.take_of_length_le (by simp)
theorem hf_u (m : List Int) : (∀ x ∈ m.map u, ∀ c ∈ x.cells, HFree c) = True := eq_true fun x hx c hc => by
  obtain ⟨y, _, rfl⟩ := List.mem_map.1 hx
  simp only [u, AV.cells, List.mem_singleton] at hc
  subst hc; exact hfree_v _
theorem ne_u {m : List Int} {k : Nat} (h : k < m.length) : (m.map u = []) = False := by
  have : m ≠ [] := by rintro rfl; simp at h
  simp [this]

theorem set_self {m : List Int} {k : Nat} (h : k < m.length) : m.set k (m.getD k 0) = m := by
  rw [List.getD_eq_getElem?_getD, List.getElem?_eq_getElem h]
  exact List.set_getElem_self h
theorem wrap_s {x : Nat} (h : x ≤ 1000) : IntKind.i64.wrap ((x : Int) + 1) = ((x + 1 : Nat) : Int) := by
  rw [IntKind.wrap_i64]; omega

theorem store_pure (m : List Int) (i v : Int) (hm : m.length ≤ 1000) : PureC Try.prog 32 [ms m, iv i, u v] (ms (mStore m i v)) := by
  refine pure_sub ok1 4 Try.func32 rfl (by show 3 ≤ _; decide) ?_
  have hb : m.length * 8 ≤ 140737488355328 := by omega
  cases hin : isIn m i with
  | false =>
    simp only [Try.f32, Try.func41, Try.f41, Try.func46, Try.f46, Try.func44, Try.f44, inl, ms, iv, bv, u, ctx_T, ctx_C, ctx_P, T4, T3, T23, T38, tabC, rows1, List.lookup_cons, List.lookup_nil, Option.bind_some, Option.bind_none, rMI_eq, hm, hb, hin,  List.length_map, List.length_set, take_u, set_u, hf_u, mStore, String.reduceBEq, r_step, r_put, r_put0, r_after, r_guard0, r_guard, r_nil, r_cons, r_stepD, r_afterD0, r_afterD1, r_afterD2, r_nilD, r_consD, r_skip, r_text, r_draw, r_seq, r_cond, r_block, r_loop, r_exit, r_scope, r_label, r_goto, r_ret, r_condB, r_condT, r_condF, ↓condE_t, ↓condE_f, condE_any, ↓guardE_tt, ↓guardE_ff, ↓guardE_tf, ↓guardE_ft, guardE_any, r_then, r_thenR, r_thenE, r_thenG, r_blkN, r_blkR, r_blkG, r_blkE, r_scpN, r_scpR, r_scpE, r_bodyR, r_bodyN, r_ret1, r_call, r_callC, r_callI, r_callE, r_callJ, r_callV, r_again, resB, cv, stepB, stepE, callD, tabD, guardB, guardC, dstAt, aopR, one, pre, binR, intOpR, shiftOpR, unR, argFrm, evo, lkp, hlk, lenOf, asLst, idOf, bndA, srcOk, ofVal, ofCells, setCells, fillA, setElems, fieldsOf, fieldsEq, scalEq, isEq, cells_agg, cells_v, cells_lst, cells_ptr, cells_arr, cells_fn, AV.wr, AV.ok1, TK.agg, frz, frzs, frzA, frzArg, frzArgs, subA, subL, sub1, kp, kh, entryOk_nil, accOf, List.toList_toArray, List.length_cons, List.length_nil, List.nil_append, List.cons_append, List.append_nil, List.map_nil, List.map_cons, List.getD_cons_zero, List.getD_cons_succ, List.drop_zero, List.drop_succ_cons, List.take_succ_cons, List.take_zero, List.all_cons, List.all_nil, List.getElem?_cons_zero, List.getElem?_cons_succ, List.headD_cons, List.set_cons_zero, List.set_cons_succ, Option.map_some, Option.map_none, Option.isSome_some, Option.isSome_none, List.replicate, Nat.zero_add, Nat.add_zero, Int.toNat_zero, Nat.zero_le, Nat.reduceAdd, Nat.reduceSub, Nat.reduceMul, Nat.reduceEqDiff, Nat.reduceLT, Nat.reduceLeDiff, Nat.reduceBEq, reduceIte, reduceCtorEq, eq_self, if_true, if_false, true_and, and_true, false_and, and_false, true_implies, false_implies, implies_true, Bool.not_true, Bool.not_false, Bool.and_true, Bool.true_and, decide_true, decide_false, Bool.false_eq_true, ne_eq, not_false_eq_true, not_true_eq_false, Bool.true_eq_false, Bool.not_eq_true, List.cons_ne_nil, Nat.lt_irrefl, beq_self_eq_true, Int.reduceToNat, Int.reduceLT, Int.reduceLE]
    simp
  | true =>
    obtain ⟨h1, h2, h3⟩ := isIn_true hin
    have hn := ne_u h3
    simp only [Try.f32, Try.func41, Try.f41, Try.func46, Try.f46, Try.func44, Try.f44, inl, ms, iv, bv, u, ctx_T, ctx_C, ctx_P, T4, T3, T23, T38, tabC, rows1, List.lookup_cons, List.lookup_nil, Option.bind_some, Option.bind_none, rMI_eq, hm, hb, hin, h1, h2, h3, hn, getD_u, take_us, List.length_map, List.length_set, take_u, set_u, hf_u, mStore, String.reduceBEq, r_step, r_put, r_put0, r_after, r_guard0, r_guard, r_nil, r_cons, r_stepD, r_afterD0, r_afterD1, r_afterD2, r_nilD, r_consD, r_skip, r_text, r_draw, r_seq, r_cond, r_block, r_loop, r_exit, r_scope, r_label, r_goto, r_ret, r_condB, r_condT, r_condF, ↓condE_t, ↓condE_f, condE_any, ↓guardE_tt, ↓guardE_ff, ↓guardE_tf, ↓guardE_ft, guardE_any, r_then, r_thenR, r_thenE, r_thenG, r_blkN, r_blkR, r_blkG, r_blkE, r_scpN, r_scpR, r_scpE, r_bodyR, r_bodyN, r_ret1, r_call, r_callC, r_callI, r_callE, r_callJ, r_callV, r_again, resB, cv, stepB, stepE, callD, tabD, guardB, guardC, dstAt, aopR, one, pre, binR, intOpR, shiftOpR, unR, argFrm, evo, lkp, hlk, lenOf, asLst, idOf, bndA, srcOk, ofVal, ofCells, setCells, fillA, setElems, fieldsOf, fieldsEq, scalEq, isEq, cells_agg, cells_v, cells_lst, cells_ptr, cells_arr, cells_fn, AV.wr, AV.ok1, TK.agg, frz, frzs, frzA, frzArg, frzArgs, subA, subL, sub1, kp, kh, entryOk_nil, accOf, List.toList_toArray, List.length_cons, List.length_nil, List.nil_append, List.cons_append, List.append_nil, List.map_nil, List.map_cons, List.getD_cons_zero, List.getD_cons_succ, List.drop_zero, List.drop_succ_cons, List.take_succ_cons, List.take_zero, List.all_cons, List.all_nil, List.getElem?_cons_zero, List.getElem?_cons_succ, List.headD_cons, List.set_cons_zero, List.set_cons_succ, Option.map_some, Option.map_none, Option.isSome_some, Option.isSome_none, List.replicate, Nat.zero_add, Nat.add_zero, Int.toNat_zero, Nat.zero_le, Nat.reduceAdd, Nat.reduceSub, Nat.reduceMul, Nat.reduceEqDiff, Nat.reduceLT, Nat.reduceLeDiff, Nat.reduceBEq, reduceIte, reduceCtorEq, eq_self, if_true, if_false, true_and, and_true, false_and, and_false, true_implies, false_implies, implies_true, Bool.not_true, Bool.not_false, Bool.and_true, Bool.true_and, decide_true, decide_false, Bool.false_eq_true, ne_eq, not_false_eq_true, not_true_eq_false, Bool.true_eq_false, Bool.not_eq_true, List.cons_ne_nil, Nat.lt_irrefl, beq_self_eq_true, Int.reduceToNat, Int.reduceLT, Int.reduceLE]
    exact Nat.le_refl _

theorem add_pure (m : List Int) (i v : Int) (hm : m.length ≤ 1000) : PureC Try.prog 29 [ms m, iv i, u v] (.tup [ms (mAdd m i v), u (mLoad m i)]) := by
  refine pure_sub ok1 4 Try.func29 rfl (by show 3 ≤ _; decide) ?_
  have hb : m.length * 8 ≤ 140737488355328 := by omega
  cases hin : isIn m i with
  | false =>
    simp only [Try.f29, Try.func41, Try.f41, Try.func46, Try.f46, Try.func43, Try.f43, inl, ms, iv, bv, u, ctx_T, ctx_C, ctx_P, T4, T3, T23, T38, tabC, rows1, List.lookup_cons, List.lookup_nil, Option.bind_some, Option.bind_none, rMI_eq, hm, hb, hin, mAdd, mLoad,  List.length_map, List.length_set, take_u, set_u, hf_u, mStore, String.reduceBEq, r_step, r_put, r_put0, r_after, r_guard0, r_guard, r_nil, r_cons, r_stepD, r_afterD0, r_afterD1, r_afterD2, r_nilD, r_consD, r_skip, r_text, r_draw, r_seq, r_cond, r_block, r_loop, r_exit, r_scope, r_label, r_goto, r_ret, r_condB, r_condT, r_condF, ↓condE_t, ↓condE_f, condE_any, ↓guardE_tt, ↓guardE_ff, ↓guardE_tf, ↓guardE_ft, guardE_any, r_then, r_thenR, r_thenE, r_thenG, r_blkN, r_blkR, r_blkG, r_blkE, r_scpN, r_scpR, r_scpE, r_bodyR, r_bodyN, r_ret1, r_call, r_callC, r_callI, r_callE, r_callJ, r_callV, r_again, resB, cv, stepB, stepE, callD, tabD, guardB, guardC, dstAt, aopR, one, pre, binR, intOpR, shiftOpR, unR, argFrm, evo, lkp, hlk, lenOf, asLst, idOf, bndA, srcOk, ofVal, ofCells, setCells, fillA, setElems, fieldsOf, fieldsEq, scalEq, isEq, cells_agg, cells_v, cells_lst, cells_ptr, cells_arr, cells_fn, AV.wr, AV.ok1, TK.agg, frz, frzs, frzA, frzArg, frzArgs, subA, subL, sub1, kp, kh, entryOk_nil, accOf, List.toList_toArray, List.length_cons, List.length_nil, List.nil_append, List.cons_append, List.append_nil, List.map_nil, List.map_cons, List.getD_cons_zero, List.getD_cons_succ, List.drop_zero, List.drop_succ_cons, List.take_succ_cons, List.take_zero, List.all_cons, List.all_nil, List.getElem?_cons_zero, List.getElem?_cons_succ, List.headD_cons, List.set_cons_zero, List.set_cons_succ, Option.map_some, Option.map_none, Option.isSome_some, Option.isSome_none, List.replicate, Nat.zero_add, Nat.add_zero, Int.toNat_zero, Nat.zero_le, Nat.reduceAdd, Nat.reduceSub, Nat.reduceMul, Nat.reduceEqDiff, Nat.reduceLT, Nat.reduceLeDiff, Nat.reduceBEq, reduceIte, reduceCtorEq, eq_self, if_true, if_false, true_and, and_true, false_and, and_false, true_implies, false_implies, implies_true, Bool.not_true, Bool.not_false, Bool.and_true, Bool.true_and, decide_true, decide_false, Bool.false_eq_true, ne_eq, not_false_eq_true, not_true_eq_false, Bool.true_eq_false, Bool.not_eq_true, List.cons_ne_nil, Nat.lt_irrefl, beq_self_eq_true, Int.reduceToNat, Int.reduceLT, Int.reduceLE]
    simp
  | true =>
    obtain ⟨h1, h2, h3⟩ := isIn_true hin
    have hn := ne_u h3
    simp only [Try.f29, Try.func41, Try.f41, Try.func46, Try.f46, Try.func43, Try.f43, inl, ms, iv, bv, u, ctx_T, ctx_C, ctx_P, T4, T3, T23, T38, tabC, rows1, List.lookup_cons, List.lookup_nil, Option.bind_some, Option.bind_none, rMI_eq, hm, hb, hin, mAdd, mLoad, h1, h2, h3, hn, getD_u, take_us, List.length_map, List.length_set, take_u, set_u, hf_u, mStore, String.reduceBEq, r_step, r_put, r_put0, r_after, r_guard0, r_guard, r_nil, r_cons, r_stepD, r_afterD0, r_afterD1, r_afterD2, r_nilD, r_consD, r_skip, r_text, r_draw, r_seq, r_cond, r_block, r_loop, r_exit, r_scope, r_label, r_goto, r_ret, r_condB, r_condT, r_condF, ↓condE_t, ↓condE_f, condE_any, ↓guardE_tt, ↓guardE_ff, ↓guardE_tf, ↓guardE_ft, guardE_any, r_then, r_thenR, r_thenE, r_thenG, r_blkN, r_blkR, r_blkG, r_blkE, r_scpN, r_scpR, r_scpE, r_bodyR, r_bodyN, r_ret1, r_call, r_callC, r_callI, r_callE, r_callJ, r_callV, r_again, resB, cv, stepB, stepE, callD, tabD, guardB, guardC, dstAt, aopR, one, pre, binR, intOpR, shiftOpR, unR, argFrm, evo, lkp, hlk, lenOf, asLst, idOf, bndA, srcOk, ofVal, ofCells, setCells, fillA, setElems, fieldsOf, fieldsEq, scalEq, isEq, cells_agg, cells_v, cells_lst, cells_ptr, cells_arr, cells_fn, AV.wr, AV.ok1, TK.agg, frz, frzs, frzA, frzArg, frzArgs, subA, subL, sub1, kp, kh, entryOk_nil, accOf, List.toList_toArray, List.length_cons, List.length_nil, List.nil_append, List.cons_append, List.append_nil, List.map_nil, List.map_cons, List.getD_cons_zero, List.getD_cons_succ, List.drop_zero, List.drop_succ_cons, List.take_succ_cons, List.take_zero, List.all_cons, List.all_nil, List.getElem?_cons_zero, List.getElem?_cons_succ, List.headD_cons, List.set_cons_zero, List.set_cons_succ, Option.map_some, Option.map_none, Option.isSome_some, Option.isSome_none, List.replicate, Nat.zero_add, Nat.add_zero, Int.toNat_zero, Nat.zero_le, Nat.reduceAdd, Nat.reduceSub, Nat.reduceMul, Nat.reduceEqDiff, Nat.reduceLT, Nat.reduceLeDiff, Nat.reduceBEq, reduceIte, reduceCtorEq, eq_self, if_true, if_false, true_and, and_true, false_and, and_false, true_implies, false_implies, implies_true, Bool.not_true, Bool.not_false, Bool.and_true, Bool.true_and, decide_true, decide_false, Bool.false_eq_true, ne_eq, not_false_eq_true, not_true_eq_false, Bool.true_eq_false, Bool.not_eq_true, List.cons_ne_nil, Nat.lt_irrefl, beq_self_eq_true, Int.reduceToNat, Int.reduceLT, Int.reduceLE]
    exact ⟨Nat.le_refl _, rfl⟩

theorem cas_pure (m : List Int) (i v w : Int) (hm : m.length ≤ 1000) : PureC Try.prog 27 [ms m, iv i, u v, u w] (.tup [ms (mCas m i v w), bv (mCasB m i v)]) := by
  refine pure_sub ok1 4 Try.func27 rfl (by show 4 ≤ _; decide) ?_
  have hb : m.length * 8 ≤ 140737488355328 := by omega
  cases hin : isIn m i with
  | false =>
    simp only [Try.f27, Try.func41, Try.f41, Try.func46, Try.f46, Try.func42, Try.f42, inl, ms, iv, bv, u, ctx_T, ctx_C, ctx_P, T4, T3, T23, T38, tabC, rows1, List.lookup_cons, List.lookup_nil, Option.bind_some, Option.bind_none, rMI_eq, hm, hb, hin, mCas, mCasB, mLoad,  List.length_map, List.length_set, take_u, set_u, hf_u, mStore, String.reduceBEq, r_step, r_put, r_put0, r_after, r_guard0, r_guard, r_nil, r_cons, r_stepD, r_afterD0, r_afterD1, r_afterD2, r_nilD, r_consD, r_skip, r_text, r_draw, r_seq, r_cond, r_block, r_loop, r_exit, r_scope, r_label, r_goto, r_ret, r_condB, r_condT, r_condF, ↓condE_t, ↓condE_f, condE_any, ↓guardE_tt, ↓guardE_ff, ↓guardE_tf, ↓guardE_ft, guardE_any, r_then, r_thenR, r_thenE, r_thenG, r_blkN, r_blkR, r_blkG, r_blkE, r_scpN, r_scpR, r_scpE, r_bodyR, r_bodyN, r_ret1, r_call, r_callC, r_callI, r_callE, r_callJ, r_callV, r_again, resB, cv, stepB, stepE, callD, tabD, guardB, guardC, dstAt, aopR, one, pre, binR, intOpR, shiftOpR, unR, argFrm, evo, lkp, hlk, lenOf, asLst, idOf, bndA, srcOk, ofVal, ofCells, setCells, fillA, setElems, fieldsOf, fieldsEq, scalEq, isEq, cells_agg, cells_v, cells_lst, cells_ptr, cells_arr, cells_fn, AV.wr, AV.ok1, TK.agg, frz, frzs, frzA, frzArg, frzArgs, subA, subL, sub1, kp, kh, entryOk_nil, accOf, List.toList_toArray, List.length_cons, List.length_nil, List.nil_append, List.cons_append, List.append_nil, List.map_nil, List.map_cons, List.getD_cons_zero, List.getD_cons_succ, List.drop_zero, List.drop_succ_cons, List.take_succ_cons, List.take_zero, List.all_cons, List.all_nil, List.getElem?_cons_zero, List.getElem?_cons_succ, List.headD_cons, List.set_cons_zero, List.set_cons_succ, Option.map_some, Option.map_none, Option.isSome_some, Option.isSome_none, List.replicate, Nat.zero_add, Nat.add_zero, Int.toNat_zero, Nat.zero_le, Nat.reduceAdd, Nat.reduceSub, Nat.reduceMul, Nat.reduceEqDiff, Nat.reduceLT, Nat.reduceLeDiff, Nat.reduceBEq, reduceIte, reduceCtorEq, eq_self, if_true, if_false, true_and, and_true, false_and, and_false, true_implies, false_implies, implies_true, Bool.not_true, Bool.not_false, Bool.and_true, Bool.true_and, decide_true, decide_false, Bool.false_eq_true, ne_eq, not_false_eq_true, not_true_eq_false, Bool.true_eq_false, Bool.not_eq_true, List.cons_ne_nil, Nat.lt_irrefl, beq_self_eq_true, Int.reduceToNat, Int.reduceLT, Int.reduceLE]
    simp
  | true =>
    obtain ⟨h1, h2, h3⟩ := isIn_true hin
    have hn := ne_u h3
    simp only [Try.f27, Try.func41, Try.f41, Try.func46, Try.f46, Try.func42, Try.f42, inl, ms, iv, bv, u, ctx_T, ctx_C, ctx_P, T4, T3, T23, T38, tabC, rows1, List.lookup_cons, List.lookup_nil, Option.bind_some, Option.bind_none, rMI_eq, hm, hb, hin, mCas, mCasB, mLoad, h1, h2, h3, hn, getD_u, take_us, List.length_map, List.length_set, take_u, set_u, hf_u, mStore, String.reduceBEq, r_step, r_put, r_put0, r_after, r_guard0, r_guard, r_nil, r_cons, r_stepD, r_afterD0, r_afterD1, r_afterD2, r_nilD, r_consD, r_skip, r_text, r_draw, r_seq, r_cond, r_block, r_loop, r_exit, r_scope, r_label, r_goto, r_ret, r_condB, r_condT, r_condF, ↓condE_t, ↓condE_f, condE_any, ↓guardE_tt, ↓guardE_ff, ↓guardE_tf, ↓guardE_ft, guardE_any, r_then, r_thenR, r_thenE, r_thenG, r_blkN, r_blkR, r_blkG, r_blkE, r_scpN, r_scpR, r_scpE, r_bodyR, r_bodyN, r_ret1, r_call, r_callC, r_callI, r_callE, r_callJ, r_callV, r_again, resB, cv, stepB, stepE, callD, tabD, guardB, guardC, dstAt, aopR, one, pre, binR, intOpR, shiftOpR, unR, argFrm, evo, lkp, hlk, lenOf, asLst, idOf, bndA, srcOk, ofVal, ofCells, setCells, fillA, setElems, fieldsOf, fieldsEq, scalEq, isEq, cells_agg, cells_v, cells_lst, cells_ptr, cells_arr, cells_fn, AV.wr, AV.ok1, TK.agg, frz, frzs, frzA, frzArg, frzArgs, subA, subL, sub1, kp, kh, entryOk_nil, accOf, List.toList_toArray, List.length_cons, List.length_nil, List.nil_append, List.cons_append, List.append_nil, List.map_nil, List.map_cons, List.getD_cons_zero, List.getD_cons_succ, List.drop_zero, List.drop_succ_cons, List.take_succ_cons, List.take_zero, List.all_cons, List.all_nil, List.getElem?_cons_zero, List.getElem?_cons_succ, List.headD_cons, List.set_cons_zero, List.set_cons_succ, Option.map_some, Option.map_none, Option.isSome_some, Option.isSome_none, List.replicate, Nat.zero_add, Nat.add_zero, Int.toNat_zero, Nat.zero_le, Nat.reduceAdd, Nat.reduceSub, Nat.reduceMul, Nat.reduceEqDiff, Nat.reduceLT, Nat.reduceLeDiff, Nat.reduceBEq, reduceIte, reduceCtorEq, eq_self, if_true, if_false, true_and, and_true, false_and, and_false, true_implies, false_implies, implies_true, Bool.not_true, Bool.not_false, Bool.and_true, Bool.true_and, decide_true, decide_false, Bool.false_eq_true, ne_eq, not_false_eq_true, not_true_eq_false, Bool.true_eq_false, Bool.not_eq_true, List.cons_ne_nil, Nat.lt_irrefl, beq_self_eq_true, Int.reduceToNat, Int.reduceLT, Int.reduceLE]
    refine ⟨fun h => ?_, fun h => ?_⟩
    · have h' : ¬ m.getD i.toNat 0 = v := by simpa using h
      have e : (m.getD i.toNat 0 == v) = false := by simpa using h
      rw [e, set_self h3]
      exact ⟨Nat.le_refl _, by simp, rfl⟩
    · have h' : m.getD i.toNat 0 = v := by simpa using h
      simp only [h', beq_self_eq_true, if_true, Nat.le_refl, true_and, and_true]

end Go.Vai
