/- The layer's contracts as a table; the chapter's example. -/
import Derived.Test.YtegfjolkcaoonaaC2
namespace Go.Vai
open Go.RowKit Go.Proofs
set_option linter.unusedSimpArgs false
set_option linter.unusedVariables false
set_option maxHeartbeats 4000000
set_option maxRecDepth 100000

theorem len_add (m : List Int) (i v : Int) : (mAdd m i v).length = m.length := len_store ..
theorem len_cas (m : List Int) (i v w : Int) : (mCas m i v w).length = m.length := by unfold mCas; split <;> simp

def rows2 : List Row := [
  (34, rMI fun m i => u (mLoad m i)),
  (32, rMIU fun m i v => ms (mStore m i v)),
  (29, rMIU fun m i v => .tup [ms (mAdd m i v), u (mLoad m i)]),
  (27, rMIUU fun m i v w => .tup [ms (mCas m i v w), bv (mCasB m i v)]),
  (36, rMM fun a b => bv (decide (a = b))),
  (35, rMI fun m i => u (mLoad m i)),
  (31, rMM fun a b => bv (decide (a = b)))]

theorem rows2_ok : ∀ p ∈ rows2, RowOk Try.prog p := fun p h => by
  simp only [rows2, List.mem_cons, List.not_mem_nil, or_false] at h
  rcases h with rfl | rfl | rfl | rfl | rfl | rfl | rfl
  · exact ok_MI (enters_of Try.func34 (by decide) rfl) load_pure
  · exact ok_MIU (enters_of Try.func32 (by decide) rfl) store_pure
  · exact ok_MIU (enters_of Try.func29 (by decide) rfl) add_pure
  · exact ok_MIUU (enters_of Try.func27 (by decide) rfl) cas_pure
  · exact ok_MM (enters_of Try.func36 (by decide) rfl) same_pure
  · exact ok_MI (enters_of Try.func35 (by decide) rfl) refLoad_pure
  · exact ok_MM (enters_of Try.func31 (by decide) rfl) refSame_pure
theorem ok2 : (ctx Try.prog rows2).ok := rows_ok rows2_ok

theorem awake_pure : PureC Try.prog 26 [] (bv true) := by
  refine pure_sub ok2 1 Try.func26 rfl (by show 0 ≤ _; decide) ?_
  have f1 : mAdd [5, 7] 0 2 = [7, 7] := by decide
  have f2 : mLoad [5, 7] 0 = 5 := by decide
  have f3 : mLoad [7, 7] 0 = 7 := by decide
  have f4 : mCasB [7, 7] 1 7 = true := by decide
  have f5 : mCas [7, 7] 1 7 9 = [7, 9] := by decide
  have f6 : mLoad [7, 9] 1 = 9 := by decide
  have f7 : mStore [7, 9] 1 3 = [7, 3] := by decide
  have f8 : mLoad [7, 3] 1 = 3 := by decide
  simp only [Try.f26, f1, f2, f3, f4, f5, f6, f7, f8, rows2, ms, iv, bv, u, ctx_T, ctx_C, ctx_P, T4, T3, T23, T38, tabC, List.lookup_cons, List.lookup_nil, Option.bind_some, Option.bind_none, Option.map_some, rMI, rMIU, rMIUU, rMM, dM, dU, dU_map, List.length_map, List.length_set, len_store, len_add, len_cas, String.reduceBEq, Int.toNat_natCast, r_step, r_put, r_put0, r_after, r_guard0, r_guard, r_nil, r_cons, r_stepD, r_afterD0, r_afterD1, r_afterD2, r_nilD, r_consD, r_skip, r_text, r_draw, r_seq, r_cond, r_block, r_loop, r_exit, r_scope, r_label, r_goto, r_ret, r_condB, r_condT, r_condF, ↓condE_t, ↓condE_f, condE_any, ↓guardE_tt, ↓guardE_ff, ↓guardE_tf, ↓guardE_ft, guardE_any, r_then, r_thenR, r_thenE, r_thenG, r_blkN, r_blkR, r_blkG, r_blkE, r_scpN, r_scpR, r_scpE, r_bodyR, r_bodyN, r_ret1, r_call, r_callC, r_callI, r_callE, r_callJ, r_callV, r_again, resB, cv, stepB, stepE, callD, tabD, guardB, guardC, dstAt, aopR, one, pre, binR, intOpR, shiftOpR, unR, argFrm, evo, lkp, hlk, lenOf, asLst, idOf, bndA, srcOk, ofVal, ofCells, setCells, fillA, setElems, fieldsOf, fieldsEq, scalEq, isEq, cells_agg, cells_v, cells_lst, cells_ptr, cells_arr, cells_fn, AV.wr, AV.ok1, TK.agg, frz, frzs, frzA, frzArg, frzArgs, subA, subL, sub1, kp, kh, entryOk_nil, accOf, List.toList_toArray, List.length_cons, List.length_nil, List.nil_append, List.cons_append, List.append_nil, List.map_nil, List.map_cons, List.getD_cons_zero, List.getD_cons_succ, List.drop_zero, List.drop_succ_cons, List.take_succ_cons, List.take_zero, List.all_cons, List.all_nil, List.getElem?_cons_zero, List.getElem?_cons_succ, List.headD_cons, List.set_cons_zero, List.set_cons_succ, Option.map_some, Option.map_none, Option.isSome_some, Option.isSome_none, List.replicate, Nat.zero_add, Nat.add_zero, Int.toNat_zero, Nat.zero_le, Nat.reduceAdd, Nat.reduceSub, Nat.reduceMul, Nat.reduceEqDiff, Nat.reduceLT, Nat.reduceLeDiff, Nat.reduceBEq, reduceIte, reduceCtorEq, eq_self, if_true, if_false, true_and, and_true, false_and, and_false, true_implies, false_implies, implies_true, Bool.not_true, Bool.not_false, Bool.and_true, Bool.true_and, decide_true, decide_false, Bool.false_eq_true, ne_eq, not_false_eq_true, not_true_eq_false, Bool.true_eq_false, Bool.not_eq_true, List.cons_ne_nil, Nat.lt_irrefl, beq_self_eq_true, Int.reduceToNat, Int.reduceLT, Int.reduceLE]

def rows3 : List Row := (26, fun args => match args with | [] => some (bv true) | _ => none) :: rows2
theorem rows3_ok : ∀ p ∈ rows3, RowOk Try.prog p := fun p h => by
  simp only [rows3, List.mem_cons] at h
  rcases h with rfl | h
  · intro args r hr
    dsimp only at hr
    split at hr
    · cases hr
      exact ⟨enters_of Try.func26 (by decide) rfl, by simp, awake_pure⟩
    · cases hr
  · exact rows2_ok p (by simpa using h)
theorem ok3 : (ctx Try.prog rows3).ok := rows_ok rows3_ok
end Go.Vai
