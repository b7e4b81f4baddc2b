/- Pushing: what the functions of the layer compute. -/
import Derived.Test.YtinjbaccnclhdaaK1
import Derived.Test.YtinjbaccnclhdaaL3
import Derived.Test.YtinjbaccnclhdaaF3
import Derived.Test.YtinjbaccnclhdaaM2
namespace Go.Vai
open Go.RowKit Go.Proofs
set_option linter.unusedSimpArgs false
set_option linter.unusedVariables false
set_option maxHeartbeats 4000000
set_option maxRecDepth 100000

theorem clone_pure (m : List Int) (hm : m.length ≤ 1000) : PureC Try.prog 28 [ms m] (ms m) := by
  refine pure_sub ok0 1 Try.func28 rfl (by show 1 ≤ _; decide) ?_
  have hb : m.length * 8 ≤ 140737488355328 := by omega
  have hle : m.length ≤ m.length := Nat.le_refl _
  cases m with
  | nil => simp only [Try.f28, hf_0, T25, hfree_lu, hfree_l0, row0, row1, row2, row3, row4, row5, shI_dec, shN_dec, shB_dec, shM_dec, dI, dN, dB, dM, dU, dU_map, iv, bv, u, ms, ctx_T, ctx_C, ctx_P, T4, T3, T26, Option.bind_some, Option.bind_none, Option.map_some, List.length_map, List.length_set, String.reduceBEq, Int.toNat_natCast, Bool.true_beq, Bool.false_beq, undef, r_step, r_put, r_put0, r_after, r_guard0, r_guard, r_nil, r_cons, r_stepD, r_afterD0, r_afterD1, r_afterD2, r_nilD, r_consD, r_skip, r_text, r_draw, r_drawN, r_drawP, r_rest, stepP, r_pivN, r_pivC, dynCall,  r_seq, r_cond, r_block, r_loop, r_exit, r_scope, r_label, r_goto, r_ret, r_condB, r_condT, r_condF, ↓condE_t, ↓condE_f, condE_any, ↓guardE_tt, ↓guardE_ff, ↓guardE_tf, ↓guardE_ft, guardE_any, r_then, r_thenR, r_thenE, r_thenG, r_blkN, r_blkR, r_blkG, r_blkE, r_scpN, r_scpR, r_scpE, r_bodyR, r_bodyN, r_ret1, r_call, r_callC, r_callI, r_callE, r_callJ, r_callV, r_again, resB, cv, stepB, stepE, callD, tabD, snapD, snap1, snapC, snapId, snapIds, guardB, guardC, dstAt, aopR, one, pre, binR, intOpR, shiftOpR, unR, argFrm, evo, lkp, hlk, lenOf, asLst, idOf, bndA, srcOk, ofVal, ofCells, setCells, fillA, setElems, fieldsOf, fieldsEq, scalEq, isEq, cells_agg, cells_v, cells_lst, cells_ptr, cells_arr, cells_fn, AV.wr, AV.ok1, TK.agg, frz, frzs, frzA, frzArg, frzArgs, subA, subL, sub1, kp, kh, entryOk_nil, entryOk_rd, accOf, List.toList_toArray, List.length_cons, List.length_nil, List.nil_append, List.cons_append, List.append_nil, List.map_nil, List.map_cons, List.getD_cons_zero, List.getD_cons_succ, List.drop_zero, List.drop_succ_cons, List.take_succ_cons, List.take_zero, List.all_cons, List.all_nil, List.getElem?_cons_zero, List.getElem?_cons_succ, List.headD_cons, List.set_cons_zero, List.set_cons_succ, Option.map_some, Option.map_none, Option.isSome_some, Option.isSome_none, List.replicate, Nat.zero_add, Nat.sub_zero, Nat.add_zero, Int.toNat_zero, Nat.zero_le, Nat.reduceAdd, Nat.reduceSub, Nat.reduceMul, Nat.reduceEqDiff, Nat.reduceLT, Nat.reduceLeDiff, Nat.reduceBEq, reduceIte, reduceCtorEq, eq_self, if_true, if_false, true_and, and_true, false_and, and_false, true_implies, false_implies, implies_true, Bool.not_true, Bool.not_false, Bool.and_true, Bool.true_and, decide_true, decide_false, Bool.false_eq_true, ne_eq, not_false_eq_true, not_true_eq_false, Bool.true_eq_false, Bool.not_eq_true, List.cons_ne_nil, Nat.lt_irrefl, beq_self_eq_true, Int.reduceToNat, Int.reduceLT, Int.reduceLE, Int.reduceGT, Int.reduceGE, Int.reduceBEq, Int.reduceBNe, Int.reduceEq, Int.reduceNe]
  | cons a l =>
    have hn : ((a :: l).map u = []) = False := eq_false (by simp)
    generalize a :: l = l at *
    simp only [Try.f28, hn, hb, hle, take_u, hf_u, T25, hfree_lu, hfree_l0, row0, row1, row2, row3, row4, row5, shI_dec, shN_dec, shB_dec, shM_dec, dI, dN, dB, dM, dU, dU_map, iv, bv, u, ms, ctx_T, ctx_C, ctx_P, T4, T3, T26, Option.bind_some, Option.bind_none, Option.map_some, List.length_map, List.length_set, String.reduceBEq, Int.toNat_natCast, Bool.true_beq, Bool.false_beq, undef, r_step, r_put, r_put0, r_after, r_guard0, r_guard, r_nil, r_cons, r_stepD, r_afterD0, r_afterD1, r_afterD2, r_nilD, r_consD, r_skip, r_text, r_draw, r_drawN, r_drawP, r_rest, stepP, r_pivN, r_pivC, dynCall,  r_seq, r_cond, r_block, r_loop, r_exit, r_scope, r_label, r_goto, r_ret, r_condB, r_condT, r_condF, ↓condE_t, ↓condE_f, condE_any, ↓guardE_tt, ↓guardE_ff, ↓guardE_tf, ↓guardE_ft, guardE_any, r_then, r_thenR, r_thenE, r_thenG, r_blkN, r_blkR, r_blkG, r_blkE, r_scpN, r_scpR, r_scpE, r_bodyR, r_bodyN, r_ret1, r_call, r_callC, r_callI, r_callE, r_callJ, r_callV, r_again, resB, cv, stepB, stepE, callD, tabD, snapD, snap1, snapC, snapId, snapIds, guardB, guardC, dstAt, aopR, one, pre, binR, intOpR, shiftOpR, unR, argFrm, evo, lkp, hlk, lenOf, asLst, idOf, bndA, srcOk, ofVal, ofCells, setCells, fillA, setElems, fieldsOf, fieldsEq, scalEq, isEq, cells_agg, cells_v, cells_lst, cells_ptr, cells_arr, cells_fn, AV.wr, AV.ok1, TK.agg, frz, frzs, frzA, frzArg, frzArgs, subA, subL, sub1, kp, kh, entryOk_nil, entryOk_rd, accOf, List.toList_toArray, List.length_cons, List.length_nil, List.nil_append, List.cons_append, List.append_nil, List.map_nil, List.map_cons, List.getD_cons_zero, List.getD_cons_succ, List.drop_zero, List.drop_succ_cons, List.take_succ_cons, List.take_zero, List.all_cons, List.all_nil, List.getElem?_cons_zero, List.getElem?_cons_succ, List.headD_cons, List.set_cons_zero, List.set_cons_succ, Option.map_some, Option.map_none, Option.isSome_some, Option.isSome_none, List.replicate, Nat.zero_add, Nat.sub_zero, Nat.add_zero, Int.toNat_zero, Nat.zero_le, Nat.reduceAdd, Nat.reduceSub, Nat.reduceMul, Nat.reduceEqDiff, Nat.reduceLT, Nat.reduceLeDiff, Nat.reduceBEq, reduceIte, reduceCtorEq, eq_self, if_true, if_false, true_and, and_true, false_and, and_false, true_implies, false_implies, implies_true, Bool.not_true, Bool.not_false, Bool.and_true, Bool.true_and, decide_true, decide_false, Bool.false_eq_true, ne_eq, not_false_eq_true, not_true_eq_false, Bool.true_eq_false, Bool.not_eq_true, List.cons_ne_nil, Nat.lt_irrefl, beq_self_eq_true, Int.reduceToNat, Int.reduceLT, Int.reduceLE, Int.reduceGT, Int.reduceGE, Int.reduceBEq, Int.reduceBNe, Int.reduceEq, Int.reduceNe]

def rowsPA : List Row := [
  (28, row1 shM fun m => some (ms m))] ++ rowsK ++ rowsLT ++ rowsG ++ rowsF
theorem rowsPA_ok : ∀ p ∈ rowsPA, RowOk Try.prog p := fun p h => by
  simp only [rowsPA, List.mem_append, List.mem_cons, List.not_mem_nil, or_false, false_or, or_assoc] at h
  rcases h with rfl | h | h | h | h
  · exact ok_row1 (enters_of Try.func28 (by decide) rfl) fun m r g e => by cases e; exact clone_pure m (shM_got g)
  · exact rowsK_ok p h
  · exact rowsLT_ok p h
  · exact rowsG_ok p h
  · exact rowsF_ok p h
theorem okPA : (ctx Try.prog rowsPA).ok := rows_ok rowsPA_ok
theorem PA_28 : tabC rowsPA 28 = row1 shM fun m => some (ms m) := rfl
theorem PA_39 : tabC rowsPA 39 = row4 shM shI shN shN fun m i v w => some (.tup [ms (mCas m i v w), bv (mCasB m i v)]) := rfl
theorem PA_23 : tabC rowsPA 23 = row2 shM shI fun m i => some (u (mLoad m i)) := rfl
theorem PA_24 : tabC rowsPA 24 = row3 shM shI shN fun m i v => some (ms (mStore m i v)) := rfl
theorem PA_60 : tabC rowsPA 60 = row4 shM shI shN shN fun m i v w => some (.tup [ms (mCas m i v w), bv (mCasB m i v)]) := rfl
theorem PA_25 : tabC rowsPA 25 = row2 shM shM fun a b => some (bv (decide (a = b))) := rfl
theorem PA_35 : tabC rowsPA 35 = row2 shM shI fun m i => some (u (mLoad m i)) := rfl
theorem PA_12 : tabC rowsPA 12 = row2 shM shM fun a b => some (bv (decide (a = b))) := rfl
theorem PA_40 : tabC rowsPA 40 = row3 shM shI shN fun m i v => some (ms (mStore m i v)) := rfl
theorem PA_51 : tabC rowsPA 51 = row1 shC fun c => some (iv (lSize c)) := rfl
theorem PA_44 : tabC rowsPA 44 = row1 shC fun c => some (iv (lSize c)) := rfl
theorem PA_55 : tabC rowsPA 55 = row2 shC shI fun c w => some (iv (lTop c w)) := rfl
theorem PA_56 : tabC rowsPA 56 = row2 shC shI fun c w => some (iv (lBottom c w)) := rfl
theorem PA_57 : tabC rowsPA 57 = row3 shC shI shN fun c w x => some (iv (lSlot c w x)) := rfl
theorem PA_19 : tabC rowsPA 19 = row1 shC fun c => some (bv (mayC c)) := rfl
theorem PA_46 : tabC rowsPA 46 = row2 shN shN fun a b => some (iv (far a b)) := rfl
theorem PA_42 : tabC rowsPA 42 = row1 shC fun c => some (bv (mayC c)) := rfl
theorem PA_37 : tabC rowsPA 37 = row2 shN shN fun a b => some (iv (far a b)) := rfl
theorem PA_61 : tabC rowsPA 61 = row2 shC shI fun c w => if mayC c = true ∧ 0 ≤ w ∧ w ≤ 8 then some (iv (lBase c w)) else none := rfl
theorem PA_47 : tabC rowsPA 47 = fun _ => none := rfl
theorem PA_62 : tabC rowsPA 62 = fun _ => none := rfl
theorem PA_63 : tabC rowsPA 63 = fun _ => none := rfl
theorem PA_64 : tabC rowsPA 64 = fun _ => none := rfl
theorem PA_50 : tabC rowsPA 50 = fun _ => none := rfl
theorem PA_43 : tabC rowsPA 43 = row1 shF fun f => some (bv (f.res != 0)) := rfl
theorem PA_38 : tabC rowsPA 38 = row3 shF shI shN fun f r v => some (fv (fEnd f r v)) := rfl
theorem PA_27 : tabC rowsPA 27 = row2 shM shM fun a b => some (bv (decide (a = b))) := rfl
theorem PA_21 : tabC rowsPA 21 = row3 shI shI shN fun o w v => some (fv (fBegin o w v)) := rfl
theorem PA_22 : tabC rowsPA 22 = row1 shF fun f => some (bv (f.res != 0)) := rfl
theorem PA_59 : tabC rowsPA 59 = row3 shF shI shN fun f r v => some (fv (fEnd f r v)) := rfl

end Go.Vai
