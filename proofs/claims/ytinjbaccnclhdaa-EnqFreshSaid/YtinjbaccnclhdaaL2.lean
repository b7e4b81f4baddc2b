/- Layouts: what the functions of the layers 'lay' and 'word' compute, and the document's. -/
import Derived.Test.YtinjbaccnclhdaaL1
import Derived.Test.YtinjbaccnclhdaaM1
namespace Go.Vai
open Go.RowKit Go.Proofs
set_option linter.unusedSimpArgs false
set_option linter.unusedVariables false
set_option maxHeartbeats 4000000
set_option maxRecDepth 100000

theorem wrap_uu (x : Int) : IntKind.wrap .i64 (IntKind.wrap .u64 x) = IntKind.wrap .i64 x := by
  rw [IntKind.wrap_i64, IntKind.wrap_u64, IntKind.wrap_i64]; omega

theorem far_pure (a b : Int) : PureC Try.prog 46 [u a, u b] (iv (far a b)) := by
  refine pure_sub ok0 1 Try.func46 rfl (by show 2 ≤ _; decide) ?_
  simp only [Try.f46, far, wrap_uu, hfree_lu, hfree_l0, row0, row1, row2, row3, row4, row5, shI_dec, shN_dec, shB_dec, shM_dec, dI, dN, dB, dM, dU, dU_map, iv, bv, u, ms, ctx_T, ctx_C, ctx_P, T4, T3, T26, Option.bind_some, Option.bind_none, Option.map_some, List.length_map, List.length_set, String.reduceBEq, Int.toNat_natCast, Bool.true_beq, Bool.false_beq, undef, r_step, r_put, r_put0, r_after, r_guard0, r_guard, r_nil, r_cons, r_stepD, r_afterD0, r_afterD1, r_afterD2, r_nilD, r_consD, r_skip, r_text, r_draw, r_drawN, r_drawP, r_rest, stepP, r_pivN, r_pivC, dynCall,  r_seq, r_cond, r_block, r_loop, r_exit, r_scope, r_label, r_goto, r_ret, r_condB, r_condT, r_condF, ↓condE_t, ↓condE_f, condE_any, ↓guardE_tt, ↓guardE_ff, ↓guardE_tf, ↓guardE_ft, guardE_any, r_then, r_thenR, r_thenE, r_thenG, r_blkN, r_blkR, r_blkG, r_blkE, r_scpN, r_scpR, r_scpE, r_bodyR, r_bodyN, r_ret1, r_call, r_callC, r_callI, r_callE, r_callJ, r_callV, r_again, resB, cv, stepB, stepE, callD, tabD, snapD, snap1, snapC, snapId, snapIds, guardB, guardC, dstAt, aopR, one, pre, binR, intOpR, shiftOpR, unR, argFrm, evo, lkp, hlk, lenOf, asLst, idOf, bndA, srcOk, ofVal, ofCells, setCells, fillA, setElems, fieldsOf, fieldsEq, scalEq, isEq, cells_agg, cells_v, cells_lst, cells_ptr, cells_arr, cells_fn, AV.wr, AV.ok1, TK.agg, frz, frzs, frzA, frzArg, frzArgs, subA, subL, sub1, kp, kh, entryOk_nil, entryOk_rd, accOf, List.toList_toArray, List.length_cons, List.length_nil, List.nil_append, List.cons_append, List.append_nil, List.map_nil, List.map_cons, List.getD_cons_zero, List.getD_cons_succ, List.drop_zero, List.drop_succ_cons, List.take_succ_cons, List.take_zero, List.all_cons, List.all_nil, List.getElem?_cons_zero, List.getElem?_cons_succ, List.headD_cons, List.set_cons_zero, List.set_cons_succ, Option.map_some, Option.map_none, Option.isSome_some, Option.isSome_none, List.replicate, Nat.zero_add, Nat.sub_zero, Nat.add_zero, Int.toNat_zero, Nat.zero_le, Nat.reduceAdd, Nat.reduceSub, Nat.reduceMul, Nat.reduceEqDiff, Nat.reduceLT, Nat.reduceLeDiff, Nat.reduceBEq, reduceIte, reduceCtorEq, eq_self, if_true, if_false, true_and, and_true, false_and, and_false, true_implies, false_implies, implies_true, Bool.not_true, Bool.not_false, Bool.and_true, Bool.true_and, decide_true, decide_false, Bool.false_eq_true, ne_eq, not_false_eq_true, not_true_eq_false, Bool.true_eq_false, Bool.not_eq_true, List.cons_ne_nil, Nat.lt_irrefl, beq_self_eq_true, Int.reduceToNat, Int.reduceLT, Int.reduceLE, Int.reduceGT, Int.reduceGE, Int.reduceBEq, Int.reduceBNe, Int.reduceEq, Int.reduceNe]

theorem rfar_pure (a b : Int) : PureC Try.prog 37 [u a, u b] (iv (far a b)) := by
  refine pure_sub ok0 1 Try.func37 rfl (by show 2 ≤ _; decide) ?_
  have hw := wrapU_in (a - b)
  have e : far a b = IntKind.wrap .i64 (wrapU (a - b)) := (wrap_uu (a - b)).symm
  rw [e]
  have hu : ∀ x, IntKind.wrap .u64 x = wrapU x := fun _ => rfl
  by_cases h : wrapU (a - b) ≥ 9223372036854775808
  · have k1 : wrapU (18446744073709551615 - wrapU (a - b)) = 18446744073709551615 - wrapU (a - b) := by rw [wrapU_eq]; omega
    have k2 : IntKind.wrap .i64 (18446744073709551615 - wrapU (a - b)) = 18446744073709551615 - wrapU (a - b) := wrap_i (by omega) (by omega)
    have k3 : IntKind.wrap .i64 (0 - (18446744073709551615 - wrapU (a - b))) = wrapU (a - b) - 18446744073709551615 := by rw [wrap_i (by omega) (by omega)]; omega
    have k4 : IntKind.wrap .i64 (wrapU (a - b) - 18446744073709551615 - 1) = IntKind.wrap .i64 (wrapU (a - b)) := by
      rw [IntKind.wrap_i64, IntKind.wrap_i64]; omega
    simp only [Try.f37, hu, h, k1, k2, k3, k4, hfree_lu, hfree_l0, row0, row1, row2, row3, row4, row5, shI_dec, shN_dec, shB_dec, shM_dec, dI, dN, dB, dM, dU, dU_map, iv, bv, u, ms, ctx_T, ctx_C, ctx_P, T4, T3, T26, Option.bind_some, Option.bind_none, Option.map_some, List.length_map, List.length_set, String.reduceBEq, Int.toNat_natCast, Bool.true_beq, Bool.false_beq, undef, r_step, r_put, r_put0, r_after, r_guard0, r_guard, r_nil, r_cons, r_stepD, r_afterD0, r_afterD1, r_afterD2, r_nilD, r_consD, r_skip, r_text, r_draw, r_drawN, r_drawP, r_rest, stepP, r_pivN, r_pivC, dynCall,  r_seq, r_cond, r_block, r_loop, r_exit, r_scope, r_label, r_goto, r_ret, r_condB, r_condT, r_condF, ↓condE_t, ↓condE_f, condE_any, ↓guardE_tt, ↓guardE_ff, ↓guardE_tf, ↓guardE_ft, guardE_any, r_then, r_thenR, r_thenE, r_thenG, r_blkN, r_blkR, r_blkG, r_blkE, r_scpN, r_scpR, r_scpE, r_bodyR, r_bodyN, r_ret1, r_call, r_callC, r_callI, r_callE, r_callJ, r_callV, r_again, resB, cv, stepB, stepE, callD, tabD, snapD, snap1, snapC, snapId, snapIds, guardB, guardC, dstAt, aopR, one, pre, binR, intOpR, shiftOpR, unR, argFrm, evo, lkp, hlk, lenOf, asLst, idOf, bndA, srcOk, ofVal, ofCells, setCells, fillA, setElems, fieldsOf, fieldsEq, scalEq, isEq, cells_agg, cells_v, cells_lst, cells_ptr, cells_arr, cells_fn, AV.wr, AV.ok1, TK.agg, frz, frzs, frzA, frzArg, frzArgs, subA, subL, sub1, kp, kh, entryOk_nil, entryOk_rd, accOf, List.toList_toArray, List.length_cons, List.length_nil, List.nil_append, List.cons_append, List.append_nil, List.map_nil, List.map_cons, List.getD_cons_zero, List.getD_cons_succ, List.drop_zero, List.drop_succ_cons, List.take_succ_cons, List.take_zero, List.all_cons, List.all_nil, List.getElem?_cons_zero, List.getElem?_cons_succ, List.headD_cons, List.set_cons_zero, List.set_cons_succ, Option.map_some, Option.map_none, Option.isSome_some, Option.isSome_none, List.replicate, Nat.zero_add, Nat.sub_zero, Nat.add_zero, Int.toNat_zero, Nat.zero_le, Nat.reduceAdd, Nat.reduceSub, Nat.reduceMul, Nat.reduceEqDiff, Nat.reduceLT, Nat.reduceLeDiff, Nat.reduceBEq, reduceIte, reduceCtorEq, eq_self, if_true, if_false, true_and, and_true, false_and, and_false, true_implies, false_implies, implies_true, Bool.not_true, Bool.not_false, Bool.and_true, Bool.true_and, decide_true, decide_false, Bool.false_eq_true, ne_eq, not_false_eq_true, not_true_eq_false, Bool.true_eq_false, Bool.not_eq_true, List.cons_ne_nil, Nat.lt_irrefl, beq_self_eq_true, Int.reduceToNat, Int.reduceLT, Int.reduceLE, Int.reduceGT, Int.reduceGE, Int.reduceBEq, Int.reduceBNe, Int.reduceEq, Int.reduceNe]
  · simp only [Try.f37, hu, h, hfree_lu, hfree_l0, row0, row1, row2, row3, row4, row5, shI_dec, shN_dec, shB_dec, shM_dec, dI, dN, dB, dM, dU, dU_map, iv, bv, u, ms, ctx_T, ctx_C, ctx_P, T4, T3, T26, Option.bind_some, Option.bind_none, Option.map_some, List.length_map, List.length_set, String.reduceBEq, Int.toNat_natCast, Bool.true_beq, Bool.false_beq, undef, r_step, r_put, r_put0, r_after, r_guard0, r_guard, r_nil, r_cons, r_stepD, r_afterD0, r_afterD1, r_afterD2, r_nilD, r_consD, r_skip, r_text, r_draw, r_drawN, r_drawP, r_rest, stepP, r_pivN, r_pivC, dynCall,  r_seq, r_cond, r_block, r_loop, r_exit, r_scope, r_label, r_goto, r_ret, r_condB, r_condT, r_condF, ↓condE_t, ↓condE_f, condE_any, ↓guardE_tt, ↓guardE_ff, ↓guardE_tf, ↓guardE_ft, guardE_any, r_then, r_thenR, r_thenE, r_thenG, r_blkN, r_blkR, r_blkG, r_blkE, r_scpN, r_scpR, r_scpE, r_bodyR, r_bodyN, r_ret1, r_call, r_callC, r_callI, r_callE, r_callJ, r_callV, r_again, resB, cv, stepB, stepE, callD, tabD, snapD, snap1, snapC, snapId, snapIds, guardB, guardC, dstAt, aopR, one, pre, binR, intOpR, shiftOpR, unR, argFrm, evo, lkp, hlk, lenOf, asLst, idOf, bndA, srcOk, ofVal, ofCells, setCells, fillA, setElems, fieldsOf, fieldsEq, scalEq, isEq, cells_agg, cells_v, cells_lst, cells_ptr, cells_arr, cells_fn, AV.wr, AV.ok1, TK.agg, frz, frzs, frzA, frzArg, frzArgs, subA, subL, sub1, kp, kh, entryOk_nil, entryOk_rd, accOf, List.toList_toArray, List.length_cons, List.length_nil, List.nil_append, List.cons_append, List.append_nil, List.map_nil, List.map_cons, List.getD_cons_zero, List.getD_cons_succ, List.drop_zero, List.drop_succ_cons, List.take_succ_cons, List.take_zero, List.all_cons, List.all_nil, List.getElem?_cons_zero, List.getElem?_cons_succ, List.headD_cons, List.set_cons_zero, List.set_cons_succ, Option.map_some, Option.map_none, Option.isSome_some, Option.isSome_none, List.replicate, Nat.zero_add, Nat.sub_zero, Nat.add_zero, Int.toNat_zero, Nat.zero_le, Nat.reduceAdd, Nat.reduceSub, Nat.reduceMul, Nat.reduceEqDiff, Nat.reduceLT, Nat.reduceLeDiff, Nat.reduceBEq, reduceIte, reduceCtorEq, eq_self, if_true, if_false, true_and, and_true, false_and, and_false, true_implies, false_implies, implies_true, Bool.not_true, Bool.not_false, Bool.and_true, Bool.true_and, decide_true, decide_false, Bool.false_eq_true, ne_eq, not_false_eq_true, not_true_eq_false, Bool.true_eq_false, Bool.not_eq_true, List.cons_ne_nil, Nat.lt_irrefl, beq_self_eq_true, Int.reduceToNat, Int.reduceLT, Int.reduceLE, Int.reduceGT, Int.reduceGE, Int.reduceBEq, Int.reduceBNe, Int.reduceEq, Int.reduceNe]

def rowsLA : List Row := []
theorem rowsLA_ok : ∀ p ∈ rowsLA, RowOk Try.prog p := fun p h => by
  cases h
theorem okLA : (ctx Try.prog rowsLA).ok := rows_ok rowsLA_ok
theorem LA_50 : tabC rowsLA 50 = fun _ => none := rfl

theorem may_pure (c : Cf) : PureC Try.prog 19 [cv' c] (bv (mayC c)) := by
  refine pure_sub okLA 1 Try.func19 rfl (by show 1 ≤ _; decide) ?_
  have key : mayC c = (decide (c.w ≥ 1) && decide (c.w ≤ 8) && (decide (c.d ≥ 1) && decide (c.d ≤ 16)) && twoB c.d && (decide (c.i ≥ 1) && decide (c.i ≤ 16)) && (decide (c.spin ≥ 0) && decide (c.spin ≤ 4))) := by
    by_cases hd : 1 ≤ c.d ∧ c.d ≤ 16
    · rw [twoB_eq hd, Bool.eq_iff_iff, mayC_iff]
      simp only [Bool.and_eq_true, decide_eq_true_eq]
      omega
    · rw [Bool.eq_iff_iff, mayC_iff]
      simp only [Bool.and_eq_true, decide_eq_true_eq]
      constructor
      · intro h; omega
      · intro h; omega
  have kt : (IntKind.wrap .i64 (BitVec.ofInt IntKind.i64.bits c.d &&& BitVec.ofInt IntKind.i64.bits (IntKind.wrap .i64 (c.d - 1))).toNat == 0) = twoB c.d := rfl
  rw [key]
  generalize twoB c.d = b at *
  simp only [Try.f19, Try.func50, Try.f50, inl, LA_50, kt, cv', T23, hfree_lu, hfree_l0, row0, row1, row2, row3, row4, row5, shI_dec, shN_dec, shB_dec, shM_dec, dI, dN, dB, dM, dU, dU_map, iv, bv, u, ms, ctx_T, ctx_C, ctx_P, T4, T3, T26, Option.bind_some, Option.bind_none, Option.map_some, List.length_map, List.length_set, String.reduceBEq, Int.toNat_natCast, Bool.true_beq, Bool.false_beq, undef, r_step, r_put, r_put0, r_after, r_guard0, r_guard, r_nil, r_cons, r_stepD, r_afterD0, r_afterD1, r_afterD2, r_nilD, r_consD, r_skip, r_text, r_draw, r_drawN, r_drawP, r_rest, stepP, r_pivN, r_pivC, dynCall,  r_seq, r_cond, r_block, r_loop, r_exit, r_scope, r_label, r_goto, r_ret, r_condB, r_condT, r_condF, ↓condE_t, ↓condE_f, condE_any, ↓guardE_tt, ↓guardE_ff, ↓guardE_tf, ↓guardE_ft, guardE_any, r_then, r_thenR, r_thenE, r_thenG, r_blkN, r_blkR, r_blkG, r_blkE, r_scpN, r_scpR, r_scpE, r_bodyR, r_bodyN, r_ret1, r_call, r_callC, r_callI, r_callE, r_callJ, r_callV, r_again, resB, cv, stepB, stepE, callD, tabD, snapD, snap1, snapC, snapId, snapIds, guardB, guardC, dstAt, aopR, one, pre, binR, intOpR, shiftOpR, unR, argFrm, evo, lkp, hlk, lenOf, asLst, idOf, bndA, srcOk, ofVal, ofCells, setCells, fillA, setElems, fieldsOf, fieldsEq, scalEq, isEq, cells_agg, cells_v, cells_lst, cells_ptr, cells_arr, cells_fn, AV.wr, AV.ok1, TK.agg, frz, frzs, frzA, frzArg, frzArgs, subA, subL, sub1, kp, kh, entryOk_nil, entryOk_rd, accOf, List.toList_toArray, List.length_cons, List.length_nil, List.nil_append, List.cons_append, List.append_nil, List.map_nil, List.map_cons, List.getD_cons_zero, List.getD_cons_succ, List.drop_zero, List.drop_succ_cons, List.take_succ_cons, List.take_zero, List.all_cons, List.all_nil, List.getElem?_cons_zero, List.getElem?_cons_succ, List.headD_cons, List.set_cons_zero, List.set_cons_succ, Option.map_some, Option.map_none, Option.isSome_some, Option.isSome_none, List.replicate, Nat.zero_add, Nat.sub_zero, Nat.add_zero, Int.toNat_zero, Nat.zero_le, Nat.reduceAdd, Nat.reduceSub, Nat.reduceMul, Nat.reduceEqDiff, Nat.reduceLT, Nat.reduceLeDiff, Nat.reduceBEq, reduceIte, reduceCtorEq, eq_self, if_true, if_false, true_and, and_true, false_and, and_false, true_implies, false_implies, implies_true, Bool.not_true, Bool.not_false, Bool.and_true, Bool.true_and, decide_true, decide_false, Bool.false_eq_true, ne_eq, not_false_eq_true, not_true_eq_false, Bool.true_eq_false, Bool.not_eq_true, List.cons_ne_nil, Nat.lt_irrefl, beq_self_eq_true, Int.reduceToNat, Int.reduceLT, Int.reduceLE, Int.reduceGT, Int.reduceGE, Int.reduceBEq, Int.reduceBNe, Int.reduceEq, Int.reduceNe]
  clear key kt
  repeat' first | apply And.intro | intro _
  all_goals first | rfl | (simp_all; done) | (simp_all; intros; omega) | (simp_all; omega)

theorem rmay_pure (c : Cf) : PureC Try.prog 42 [cv' c] (bv (mayC c)) := by
  refine pure_sub ok0 1 Try.func42 rfl (by show 1 ≤ _; decide) ?_
  have key : mayC c = (decide (c.w ≥ 1) && decide (c.w ≤ 8) && (c.d == 1 || c.d == 2 || c.d == 4 || c.d == 8 || c.d == 16) && decide (c.i ≥ 1) && decide (c.i ≤ 16) && decide (c.spin ≥ 0) && decide (c.spin ≤ 4)) := by
    rw [Bool.eq_iff_iff, mayC_iff]
    simp only [Bool.and_eq_true, Bool.or_eq_true, decide_eq_true_eq, beq_iff_eq]
    omega
  rw [key]
  simp only [Try.f42, cv', T23, hfree_lu, hfree_l0, row0, row1, row2, row3, row4, row5, shI_dec, shN_dec, shB_dec, shM_dec, dI, dN, dB, dM, dU, dU_map, iv, bv, u, ms, ctx_T, ctx_C, ctx_P, T4, T3, T26, Option.bind_some, Option.bind_none, Option.map_some, List.length_map, List.length_set, String.reduceBEq, Int.toNat_natCast, Bool.true_beq, Bool.false_beq, undef, r_step, r_put, r_put0, r_after, r_guard0, r_guard, r_nil, r_cons, r_stepD, r_afterD0, r_afterD1, r_afterD2, r_nilD, r_consD, r_skip, r_text, r_draw, r_drawN, r_drawP, r_rest, stepP, r_pivN, r_pivC, dynCall,  r_seq, r_cond, r_block, r_loop, r_exit, r_scope, r_label, r_goto, r_ret, r_condB, r_condT, r_condF, ↓condE_t, ↓condE_f, condE_any, ↓guardE_tt, ↓guardE_ff, ↓guardE_tf, ↓guardE_ft, guardE_any, r_then, r_thenR, r_thenE, r_thenG, r_blkN, r_blkR, r_blkG, r_blkE, r_scpN, r_scpR, r_scpE, r_bodyR, r_bodyN, r_ret1, r_call, r_callC, r_callI, r_callE, r_callJ, r_callV, r_again, resB, cv, stepB, stepE, callD, tabD, snapD, snap1, snapC, snapId, snapIds, guardB, guardC, dstAt, aopR, one, pre, binR, intOpR, shiftOpR, unR, argFrm, evo, lkp, hlk, lenOf, asLst, idOf, bndA, srcOk, ofVal, ofCells, setCells, fillA, setElems, fieldsOf, fieldsEq, scalEq, isEq, cells_agg, cells_v, cells_lst, cells_ptr, cells_arr, cells_fn, AV.wr, AV.ok1, TK.agg, frz, frzs, frzA, frzArg, frzArgs, subA, subL, sub1, kp, kh, entryOk_nil, entryOk_rd, accOf, List.toList_toArray, List.length_cons, List.length_nil, List.nil_append, List.cons_append, List.append_nil, List.map_nil, List.map_cons, List.getD_cons_zero, List.getD_cons_succ, List.drop_zero, List.drop_succ_cons, List.take_succ_cons, List.take_zero, List.all_cons, List.all_nil, List.getElem?_cons_zero, List.getElem?_cons_succ, List.headD_cons, List.set_cons_zero, List.set_cons_succ, Option.map_some, Option.map_none, Option.isSome_some, Option.isSome_none, List.replicate, Nat.zero_add, Nat.sub_zero, Nat.add_zero, Int.toNat_zero, Nat.zero_le, Nat.reduceAdd, Nat.reduceSub, Nat.reduceMul, Nat.reduceEqDiff, Nat.reduceLT, Nat.reduceLeDiff, Nat.reduceBEq, reduceIte, reduceCtorEq, eq_self, if_true, if_false, true_and, and_true, false_and, and_false, true_implies, false_implies, implies_true, Bool.not_true, Bool.not_false, Bool.and_true, Bool.true_and, decide_true, decide_false, Bool.false_eq_true, ne_eq, not_false_eq_true, not_true_eq_false, Bool.true_eq_false, Bool.not_eq_true, List.cons_ne_nil, Nat.lt_irrefl, beq_self_eq_true, Int.reduceToNat, Int.reduceLT, Int.reduceLE, Int.reduceGT, Int.reduceGE, Int.reduceBEq, Int.reduceBNe, Int.reduceEq, Int.reduceNe]
  clear key
  repeat' first | apply And.intro | intro _
  all_goals first | rfl | (simp_all; done) | (simp_all; intros; omega) | (simp_all; omega)

structure Base (c : Cf) (w : Int) : Prop where
  e1 : IntKind.wrap .i64 (2 * c.i) = 2 * c.i
  e2 : IntKind.wrap .i64 (6 + 2 * c.i) = 6 + 2 * c.i
  e3 : IntKind.wrap .i64 (3 + c.d) = 3 + c.d
  e4 : IntKind.wrap .i64 (w * (3 + c.d)) = w * (3 + c.d)
  e5 : IntKind.wrap .i64 (6 + 2 * c.i + w * (3 + c.d)) = lBase c w
  e6 : 6 ≤ lBase c w ∧ lBase c w ≤ 1000

theorem base_ok {c : Cf} {w : Int} (h : mayC c = true) (h0 : 0 ≤ w) (h1 : w ≤ 8) : Base c w := by
  obtain ⟨a1, a2, a3, a4, a5, a6, a7⟩ := mayC_iff.1 h
  have hb : 6 ≤ lBase c w ∧ lBase c w ≤ 1000 ∧ 0 ≤ w * (3 + c.d) ∧ w * (3 + c.d) ≤ 200 := by
    unfold lBase
    rcases a3 with e | e | e | e | e <;> rw [e] <;> omega
  refine ⟨wrap_i (by omega) (by omega), wrap_i (by omega) (by omega), wrap_i (by omega) (by omega), wrap_i (by omega) (by omega), ?_, by omega⟩
  unfold lBase at *
  exact wrap_i (by omega) (by omega)

theorem base_pure (c : Cf) (w : Int) (h : mayC c = true) (h0 : 0 ≤ w) (h1 : w ≤ 8) : PureC Try.prog 61 [cv' c, iv w] (iv (lBase c w)) := by
  refine pure_sub ok0 1 Try.func61 rfl (by show 2 ≤ _; decide) ?_
  obtain ⟨e1, e2, e3, e4, e5, _⟩ := base_ok h h0 h1
  simp only [Try.f61, e1, e2, e3, e4, e5, cv', T23, hfree_lu, hfree_l0, row0, row1, row2, row3, row4, row5, shI_dec, shN_dec, shB_dec, shM_dec, dI, dN, dB, dM, dU, dU_map, iv, bv, u, ms, ctx_T, ctx_C, ctx_P, T4, T3, T26, Option.bind_some, Option.bind_none, Option.map_some, List.length_map, List.length_set, String.reduceBEq, Int.toNat_natCast, Bool.true_beq, Bool.false_beq, undef, r_step, r_put, r_put0, r_after, r_guard0, r_guard, r_nil, r_cons, r_stepD, r_afterD0, r_afterD1, r_afterD2, r_nilD, r_consD, r_skip, r_text, r_draw, r_drawN, r_drawP, r_rest, stepP, r_pivN, r_pivC, dynCall,  r_seq, r_cond, r_block, r_loop, r_exit, r_scope, r_label, r_goto, r_ret, r_condB, r_condT, r_condF, ↓condE_t, ↓condE_f, condE_any, ↓guardE_tt, ↓guardE_ff, ↓guardE_tf, ↓guardE_ft, guardE_any, r_then, r_thenR, r_thenE, r_thenG, r_blkN, r_blkR, r_blkG, r_blkE, r_scpN, r_scpR, r_scpE, r_bodyR, r_bodyN, r_ret1, r_call, r_callC, r_callI, r_callE, r_callJ, r_callV, r_again, resB, cv, stepB, stepE, callD, tabD, snapD, snap1, snapC, snapId, snapIds, guardB, guardC, dstAt, aopR, one, pre, binR, intOpR, shiftOpR, unR, argFrm, evo, lkp, hlk, lenOf, asLst, idOf, bndA, srcOk, ofVal, ofCells, setCells, fillA, setElems, fieldsOf, fieldsEq, scalEq, isEq, cells_agg, cells_v, cells_lst, cells_ptr, cells_arr, cells_fn, AV.wr, AV.ok1, TK.agg, frz, frzs, frzA, frzArg, frzArgs, subA, subL, sub1, kp, kh, entryOk_nil, entryOk_rd, accOf, List.toList_toArray, List.length_cons, List.length_nil, List.nil_append, List.cons_append, List.append_nil, List.map_nil, List.map_cons, List.getD_cons_zero, List.getD_cons_succ, List.drop_zero, List.drop_succ_cons, List.take_succ_cons, List.take_zero, List.all_cons, List.all_nil, List.getElem?_cons_zero, List.getElem?_cons_succ, List.headD_cons, List.set_cons_zero, List.set_cons_succ, Option.map_some, Option.map_none, Option.isSome_some, Option.isSome_none, List.replicate, Nat.zero_add, Nat.sub_zero, Nat.add_zero, Int.toNat_zero, Nat.zero_le, Nat.reduceAdd, Nat.reduceSub, Nat.reduceMul, Nat.reduceEqDiff, Nat.reduceLT, Nat.reduceLeDiff, Nat.reduceBEq, reduceIte, reduceCtorEq, eq_self, if_true, if_false, true_and, and_true, false_and, and_false, true_implies, false_implies, implies_true, Bool.not_true, Bool.not_false, Bool.and_true, Bool.true_and, decide_true, decide_false, Bool.false_eq_true, ne_eq, not_false_eq_true, not_true_eq_false, Bool.true_eq_false, Bool.not_eq_true, List.cons_ne_nil, Nat.lt_irrefl, beq_self_eq_true, Int.reduceToNat, Int.reduceLT, Int.reduceLE, Int.reduceGT, Int.reduceGE, Int.reduceBEq, Int.reduceBNe, Int.reduceEq, Int.reduceNe]

def rowsLB : List Row := [
  (19, row1 shC fun c => some (bv (mayC c))), 
  (46, row2 shN shN fun a b => some (iv (far a b))), 
  (42, row1 shC fun c => some (bv (mayC c))), 
  (37, row2 shN shN fun a b => some (iv (far a b))), 
  (61, row2 shC shI fun c w => if mayC c = true ∧ 0 ≤ w ∧ w ≤ 8 then some (iv (lBase c w)) else none)] ++ rowsLA
theorem rowsLB_ok : ∀ p ∈ rowsLB, RowOk Try.prog p := fun p h => by
  simp only [rowsLB, List.mem_append, List.mem_cons, List.not_mem_nil, or_false, false_or, or_assoc] at h
  rcases h with rfl | rfl | rfl | rfl | rfl | h
  · exact ok_row1 (enters_of Try.func19 (by decide) rfl) fun c r _ e => by cases e; exact may_pure c
  · exact ok_row2 (enters_of Try.func46 (by decide) rfl) fun a b r _ _ e => by cases e; exact far_pure a b
  · exact ok_row1 (enters_of Try.func42 (by decide) rfl) fun c r _ e => by cases e; exact rmay_pure c
  · exact ok_row2 (enters_of Try.func37 (by decide) rfl) fun a b r _ _ e => by cases e; exact rfar_pure a b
  · exact ok_row2 (enters_of Try.func61 (by decide) rfl) fun c w r _ _ e => by obtain ⟨h, rfl⟩ := opt_if e; exact base_pure c w h.1 h.2.1 h.2.2
  · exact rowsLA_ok p h
theorem okLB : (ctx Try.prog rowsLB).ok := rows_ok rowsLB_ok
theorem LB_19 : tabC rowsLB 19 = row1 shC fun c => some (bv (mayC c)) := rfl
theorem LB_46 : tabC rowsLB 46 = row2 shN shN fun a b => some (iv (far a b)) := rfl
theorem LB_42 : tabC rowsLB 42 = row1 shC fun c => some (bv (mayC c)) := rfl
theorem LB_37 : tabC rowsLB 37 = row2 shN shN fun a b => some (iv (far a b)) := rfl
theorem LB_61 : tabC rowsLB 61 = row2 shC shI fun c w => if mayC c = true ∧ 0 ≤ w ∧ w ≤ 8 then some (iv (lBase c w)) else none := rfl
theorem LB_47 : tabC rowsLB 47 = fun _ => none := rfl
theorem LB_62 : tabC rowsLB 62 = fun _ => none := rfl
theorem LB_63 : tabC rowsLB 63 = fun _ => none := rfl
theorem LB_64 : tabC rowsLB 64 = fun _ => none := rfl
theorem LB_50 : tabC rowsLB 50 = fun _ => none := rfl

theorem has_iff {c : Cf} {w : Int} : lHas c w = true ↔ mayC c = true ∧ 0 ≤ w ∧ w < c.w := by simp [lHas]

theorem size_pure (c : Cf) : PureC Try.prog 51 [cv' c] (iv (lSize c)) := by
  refine pure_sub okLB 1 Try.func51 rfl (by show 1 ≤ _; decide) ?_
  cases h : mayC c with
  | false => simp only [Try.f51, LB_19, LB_46, LB_42, LB_37, LB_61, LB_47, LB_62, LB_63, LB_64, LB_50, lSize, h, cv', cf_eta, shC_dec, dC, T23, hfree_lu, hfree_l0, row0, row1, row2, row3, row4, row5, shI_dec, shN_dec, shB_dec, shM_dec, dI, dN, dB, dM, dU, dU_map, iv, bv, u, ms, ctx_T, ctx_C, ctx_P, T4, T3, T26, Option.bind_some, Option.bind_none, Option.map_some, List.length_map, List.length_set, String.reduceBEq, Int.toNat_natCast, Bool.true_beq, Bool.false_beq, undef, r_step, r_put, r_put0, r_after, r_guard0, r_guard, r_nil, r_cons, r_stepD, r_afterD0, r_afterD1, r_afterD2, r_nilD, r_consD, r_skip, r_text, r_draw, r_drawN, r_drawP, r_rest, stepP, r_pivN, r_pivC, dynCall,  r_seq, r_cond, r_block, r_loop, r_exit, r_scope, r_label, r_goto, r_ret, r_condB, r_condT, r_condF, ↓condE_t, ↓condE_f, condE_any, ↓guardE_tt, ↓guardE_ff, ↓guardE_tf, ↓guardE_ft, guardE_any, r_then, r_thenR, r_thenE, r_thenG, r_blkN, r_blkR, r_blkG, r_blkE, r_scpN, r_scpR, r_scpE, r_bodyR, r_bodyN, r_ret1, r_call, r_callC, r_callI, r_callE, r_callJ, r_callV, r_again, resB, cv, stepB, stepE, callD, tabD, snapD, snap1, snapC, snapId, snapIds, guardB, guardC, dstAt, aopR, one, pre, binR, intOpR, shiftOpR, unR, argFrm, evo, lkp, hlk, lenOf, asLst, idOf, bndA, srcOk, ofVal, ofCells, setCells, fillA, setElems, fieldsOf, fieldsEq, scalEq, isEq, cells_agg, cells_v, cells_lst, cells_ptr, cells_arr, cells_fn, AV.wr, AV.ok1, TK.agg, frz, frzs, frzA, frzArg, frzArgs, subA, subL, sub1, kp, kh, entryOk_nil, entryOk_rd, accOf, List.toList_toArray, List.length_cons, List.length_nil, List.nil_append, List.cons_append, List.append_nil, List.map_nil, List.map_cons, List.getD_cons_zero, List.getD_cons_succ, List.drop_zero, List.drop_succ_cons, List.take_succ_cons, List.take_zero, List.all_cons, List.all_nil, List.getElem?_cons_zero, List.getElem?_cons_succ, List.headD_cons, List.set_cons_zero, List.set_cons_succ, Option.map_some, Option.map_none, Option.isSome_some, Option.isSome_none, List.replicate, Nat.zero_add, Nat.sub_zero, Nat.add_zero, Int.toNat_zero, Nat.zero_le, Nat.reduceAdd, Nat.reduceSub, Nat.reduceMul, Nat.reduceEqDiff, Nat.reduceLT, Nat.reduceLeDiff, Nat.reduceBEq, reduceIte, reduceCtorEq, eq_self, if_true, if_false, true_and, and_true, false_and, and_false, true_implies, false_implies, implies_true, Bool.not_true, Bool.not_false, Bool.and_true, Bool.true_and, decide_true, decide_false, Bool.false_eq_true, ne_eq, not_false_eq_true, not_true_eq_false, Bool.true_eq_false, Bool.not_eq_true, List.cons_ne_nil, Nat.lt_irrefl, beq_self_eq_true, Int.reduceToNat, Int.reduceLT, Int.reduceLE, Int.reduceGT, Int.reduceGE, Int.reduceBEq, Int.reduceBNe, Int.reduceEq, Int.reduceNe]
  | true =>
    have a := mayC_iff.1 h
    have h0 : 0 ≤ c.w := by omega
    have h1 : c.w ≤ 8 := by omega
    simp only [Try.f51, LB_19, LB_46, LB_42, LB_37, LB_61, LB_47, LB_62, LB_63, LB_64, LB_50, lSize, h, h0, h1, cv', cf_eta, shC_dec, dC, T23, hfree_lu, hfree_l0, row0, row1, row2, row3, row4, row5, shI_dec, shN_dec, shB_dec, shM_dec, dI, dN, dB, dM, dU, dU_map, iv, bv, u, ms, ctx_T, ctx_C, ctx_P, T4, T3, T26, Option.bind_some, Option.bind_none, Option.map_some, List.length_map, List.length_set, String.reduceBEq, Int.toNat_natCast, Bool.true_beq, Bool.false_beq, undef, r_step, r_put, r_put0, r_after, r_guard0, r_guard, r_nil, r_cons, r_stepD, r_afterD0, r_afterD1, r_afterD2, r_nilD, r_consD, r_skip, r_text, r_draw, r_drawN, r_drawP, r_rest, stepP, r_pivN, r_pivC, dynCall,  r_seq, r_cond, r_block, r_loop, r_exit, r_scope, r_label, r_goto, r_ret, r_condB, r_condT, r_condF, ↓condE_t, ↓condE_f, condE_any, ↓guardE_tt, ↓guardE_ff, ↓guardE_tf, ↓guardE_ft, guardE_any, r_then, r_thenR, r_thenE, r_thenG, r_blkN, r_blkR, r_blkG, r_blkE, r_scpN, r_scpR, r_scpE, r_bodyR, r_bodyN, r_ret1, r_call, r_callC, r_callI, r_callE, r_callJ, r_callV, r_again, resB, cv, stepB, stepE, callD, tabD, snapD, snap1, snapC, snapId, snapIds, guardB, guardC, dstAt, aopR, one, pre, binR, intOpR, shiftOpR, unR, argFrm, evo, lkp, hlk, lenOf, asLst, idOf, bndA, srcOk, ofVal, ofCells, setCells, fillA, setElems, fieldsOf, fieldsEq, scalEq, isEq, cells_agg, cells_v, cells_lst, cells_ptr, cells_arr, cells_fn, AV.wr, AV.ok1, TK.agg, frz, frzs, frzA, frzArg, frzArgs, subA, subL, sub1, kp, kh, entryOk_nil, entryOk_rd, accOf, List.toList_toArray, List.length_cons, List.length_nil, List.nil_append, List.cons_append, List.append_nil, List.map_nil, List.map_cons, List.getD_cons_zero, List.getD_cons_succ, List.drop_zero, List.drop_succ_cons, List.take_succ_cons, List.take_zero, List.all_cons, List.all_nil, List.getElem?_cons_zero, List.getElem?_cons_succ, List.headD_cons, List.set_cons_zero, List.set_cons_succ, Option.map_some, Option.map_none, Option.isSome_some, Option.isSome_none, List.replicate, Nat.zero_add, Nat.sub_zero, Nat.add_zero, Int.toNat_zero, Nat.zero_le, Nat.reduceAdd, Nat.reduceSub, Nat.reduceMul, Nat.reduceEqDiff, Nat.reduceLT, Nat.reduceLeDiff, Nat.reduceBEq, reduceIte, reduceCtorEq, eq_self, if_true, if_false, true_and, and_true, false_and, and_false, true_implies, false_implies, implies_true, Bool.not_true, Bool.not_false, Bool.and_true, Bool.true_and, decide_true, decide_false, Bool.false_eq_true, ne_eq, not_false_eq_true, not_true_eq_false, Bool.true_eq_false, Bool.not_eq_true, List.cons_ne_nil, Nat.lt_irrefl, beq_self_eq_true, Int.reduceToNat, Int.reduceLT, Int.reduceLE, Int.reduceGT, Int.reduceGE, Int.reduceBEq, Int.reduceBNe, Int.reduceEq, Int.reduceNe]

theorem rsize_pure (c : Cf) : PureC Try.prog 44 [cv' c] (iv (lSize c)) := by
  refine pure_sub okLB 1 Try.func44 rfl (by show 1 ≤ _; decide) ?_
  cases h : mayC c with
  | false => simp only [Try.f44, LB_19, LB_46, LB_42, LB_37, LB_61, LB_47, LB_62, LB_63, LB_64, LB_50, lSize, h, cv', cf_eta, shC_dec, dC, T23, hfree_lu, hfree_l0, row0, row1, row2, row3, row4, row5, shI_dec, shN_dec, shB_dec, shM_dec, dI, dN, dB, dM, dU, dU_map, iv, bv, u, ms, ctx_T, ctx_C, ctx_P, T4, T3, T26, Option.bind_some, Option.bind_none, Option.map_some, List.length_map, List.length_set, String.reduceBEq, Int.toNat_natCast, Bool.true_beq, Bool.false_beq, undef, r_step, r_put, r_put0, r_after, r_guard0, r_guard, r_nil, r_cons, r_stepD, r_afterD0, r_afterD1, r_afterD2, r_nilD, r_consD, r_skip, r_text, r_draw, r_drawN, r_drawP, r_rest, stepP, r_pivN, r_pivC, dynCall,  r_seq, r_cond, r_block, r_loop, r_exit, r_scope, r_label, r_goto, r_ret, r_condB, r_condT, r_condF, ↓condE_t, ↓condE_f, condE_any, ↓guardE_tt, ↓guardE_ff, ↓guardE_tf, ↓guardE_ft, guardE_any, r_then, r_thenR, r_thenE, r_thenG, r_blkN, r_blkR, r_blkG, r_blkE, r_scpN, r_scpR, r_scpE, r_bodyR, r_bodyN, r_ret1, r_call, r_callC, r_callI, r_callE, r_callJ, r_callV, r_again, resB, cv, stepB, stepE, callD, tabD, snapD, snap1, snapC, snapId, snapIds, guardB, guardC, dstAt, aopR, one, pre, binR, intOpR, shiftOpR, unR, argFrm, evo, lkp, hlk, lenOf, asLst, idOf, bndA, srcOk, ofVal, ofCells, setCells, fillA, setElems, fieldsOf, fieldsEq, scalEq, isEq, cells_agg, cells_v, cells_lst, cells_ptr, cells_arr, cells_fn, AV.wr, AV.ok1, TK.agg, frz, frzs, frzA, frzArg, frzArgs, subA, subL, sub1, kp, kh, entryOk_nil, entryOk_rd, accOf, List.toList_toArray, List.length_cons, List.length_nil, List.nil_append, List.cons_append, List.append_nil, List.map_nil, List.map_cons, List.getD_cons_zero, List.getD_cons_succ, List.drop_zero, List.drop_succ_cons, List.take_succ_cons, List.take_zero, List.all_cons, List.all_nil, List.getElem?_cons_zero, List.getElem?_cons_succ, List.headD_cons, List.set_cons_zero, List.set_cons_succ, Option.map_some, Option.map_none, Option.isSome_some, Option.isSome_none, List.replicate, Nat.zero_add, Nat.sub_zero, Nat.add_zero, Int.toNat_zero, Nat.zero_le, Nat.reduceAdd, Nat.reduceSub, Nat.reduceMul, Nat.reduceEqDiff, Nat.reduceLT, Nat.reduceLeDiff, Nat.reduceBEq, reduceIte, reduceCtorEq, eq_self, if_true, if_false, true_and, and_true, false_and, and_false, true_implies, false_implies, implies_true, Bool.not_true, Bool.not_false, Bool.and_true, Bool.true_and, decide_true, decide_false, Bool.false_eq_true, ne_eq, not_false_eq_true, not_true_eq_false, Bool.true_eq_false, Bool.not_eq_true, List.cons_ne_nil, Nat.lt_irrefl, beq_self_eq_true, Int.reduceToNat, Int.reduceLT, Int.reduceLE, Int.reduceGT, Int.reduceGE, Int.reduceBEq, Int.reduceBNe, Int.reduceEq, Int.reduceNe]
  | true =>
    have a := mayC_iff.1 h
    obtain ⟨e1, e2, e3, e4, e5, _⟩ := base_ok (w := c.w) h (by omega) (by omega)
    simp only [Try.f44, LB_19, LB_46, LB_42, LB_37, LB_61, LB_47, LB_62, LB_63, LB_64, LB_50, lSize, h, e1, e2, e3, e4, e5, cv', cf_eta, shC_dec, dC, T23, hfree_lu, hfree_l0, row0, row1, row2, row3, row4, row5, shI_dec, shN_dec, shB_dec, shM_dec, dI, dN, dB, dM, dU, dU_map, iv, bv, u, ms, ctx_T, ctx_C, ctx_P, T4, T3, T26, Option.bind_some, Option.bind_none, Option.map_some, List.length_map, List.length_set, String.reduceBEq, Int.toNat_natCast, Bool.true_beq, Bool.false_beq, undef, r_step, r_put, r_put0, r_after, r_guard0, r_guard, r_nil, r_cons, r_stepD, r_afterD0, r_afterD1, r_afterD2, r_nilD, r_consD, r_skip, r_text, r_draw, r_drawN, r_drawP, r_rest, stepP, r_pivN, r_pivC, dynCall,  r_seq, r_cond, r_block, r_loop, r_exit, r_scope, r_label, r_goto, r_ret, r_condB, r_condT, r_condF, ↓condE_t, ↓condE_f, condE_any, ↓guardE_tt, ↓guardE_ff, ↓guardE_tf, ↓guardE_ft, guardE_any, r_then, r_thenR, r_thenE, r_thenG, r_blkN, r_blkR, r_blkG, r_blkE, r_scpN, r_scpR, r_scpE, r_bodyR, r_bodyN, r_ret1, r_call, r_callC, r_callI, r_callE, r_callJ, r_callV, r_again, resB, cv, stepB, stepE, callD, tabD, snapD, snap1, snapC, snapId, snapIds, guardB, guardC, dstAt, aopR, one, pre, binR, intOpR, shiftOpR, unR, argFrm, evo, lkp, hlk, lenOf, asLst, idOf, bndA, srcOk, ofVal, ofCells, setCells, fillA, setElems, fieldsOf, fieldsEq, scalEq, isEq, cells_agg, cells_v, cells_lst, cells_ptr, cells_arr, cells_fn, AV.wr, AV.ok1, TK.agg, frz, frzs, frzA, frzArg, frzArgs, subA, subL, sub1, kp, kh, entryOk_nil, entryOk_rd, accOf, List.toList_toArray, List.length_cons, List.length_nil, List.nil_append, List.cons_append, List.append_nil, List.map_nil, List.map_cons, List.getD_cons_zero, List.getD_cons_succ, List.drop_zero, List.drop_succ_cons, List.take_succ_cons, List.take_zero, List.all_cons, List.all_nil, List.getElem?_cons_zero, List.getElem?_cons_succ, List.headD_cons, List.set_cons_zero, List.set_cons_succ, Option.map_some, Option.map_none, Option.isSome_some, Option.isSome_none, List.replicate, Nat.zero_add, Nat.sub_zero, Nat.add_zero, Int.toNat_zero, Nat.zero_le, Nat.reduceAdd, Nat.reduceSub, Nat.reduceMul, Nat.reduceEqDiff, Nat.reduceLT, Nat.reduceLeDiff, Nat.reduceBEq, reduceIte, reduceCtorEq, eq_self, if_true, if_false, true_and, and_true, false_and, and_false, true_implies, false_implies, implies_true, Bool.not_true, Bool.not_false, Bool.and_true, Bool.true_and, decide_true, decide_false, Bool.false_eq_true, ne_eq, not_false_eq_true, not_true_eq_false, Bool.true_eq_false, Bool.not_eq_true, List.cons_ne_nil, Nat.lt_irrefl, beq_self_eq_true, Int.reduceToNat, Int.reduceLT, Int.reduceLE, Int.reduceGT, Int.reduceGE, Int.reduceBEq, Int.reduceBNe, Int.reduceEq, Int.reduceNe]

/-- What a worker's cells' places ask of the walk. -/
structure At (c : Cf) (w : Int) : Prop where
  h0 : 0 ≤ w
  h1 : w ≤ 8
  h2 : w ≥ 0
  h3 : w ≤ c.w - 1
  h4 : IntKind.wrap .i64 (c.w - 1) = c.w - 1
  h5 : w < c.w
  b1 : IntKind.wrap .i64 (lBase c w + 1) = lBase c w + 1
  b3 : IntKind.wrap .i64 (lBase c w + 3) = lBase c w + 3
  d1 : IntKind.wrap .i64 (c.d - 1) = c.d - 1
  d2 : IntKind.wrap .u64 (c.d - 1) = c.d - 1
  d3 : IntKind.wrap .u64 c.d = c.d
  dd : c.d ≠ 0

theorem at_ok {c : Cf} {w : Int} (h : lHas c w = true) : At c w := by
  obtain ⟨hm, h0, h1⟩ := has_iff.1 h
  obtain ⟨a1, a2, a3, a4, a5, a6, a7⟩ := mayC_iff.1 hm
  obtain ⟨b1, b2⟩ := (base_ok hm h0 (by omega)).e6
  exact ⟨h0, by omega, h0, by omega, wrap_i (by omega) (by omega), h1, wrap_i (by omega) (by omega), wrap_i (by omega) (by omega), wrap_i (by omega) (by omega),
    by rw [IntKind.wrap_u64]; omega, by rw [IntKind.wrap_u64]; omega, by omega⟩

theorem and_mask {d x : Int} (h : d = 1 ∨ d = 2 ∨ d = 4 ∨ d = 8 ∨ d = 16) : IntKind.wrap .u64 (BitVec.ofInt IntKind.u64.bits x &&& BitVec.ofInt IntKind.u64.bits (d - 1)).toNat = x % 18446744073709551616 % d := by
  have hx : (BitVec.ofInt 64 x).toNat = (x % 18446744073709551616).toNat := by rw [BitVec.toNat_ofInt]; rfl
  rw [IntKind.wrap_u64]
  show ((BitVec.ofInt 64 x &&& BitVec.ofInt 64 (d - 1)).toNat : Int) % _ = _
  rw [BitVec.toNat_and, hx]
  generalize hn : (x % 18446744073709551616).toNat = n
  have hn' : x % 18446744073709551616 = (n : Int) := by omega
  have hlt : n < 18446744073709551616 := by omega
  rw [hn']
  rcases h with rfl | rfl | rfl | rfl | rfl
  · show ((n &&& 0 : Nat) : Int) % _ = _; rw [Nat.and_zero]; omega
  · show ((n &&& (2 ^ 1 - 1) : Nat) : Int) % _ = _; rw [Nat.and_two_pow_sub_one_eq_mod]; omega
  · show ((n &&& (2 ^ 2 - 1) : Nat) : Int) % _ = _; rw [Nat.and_two_pow_sub_one_eq_mod]; omega
  · show ((n &&& (2 ^ 3 - 1) : Nat) : Int) % _ = _; rw [Nat.and_two_pow_sub_one_eq_mod]; omega
  · show ((n &&& (2 ^ 4 - 1) : Nat) : Int) % _ = _; rw [Nat.and_two_pow_sub_one_eq_mod]; omega

end Go.Vai
