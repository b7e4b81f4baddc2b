/- Putting into the injector: the table; the chapter's example; the laws. -/
import Derived.Test.YtinjbaccnclhdaaE2
namespace Go.Vai
open Go.RowKit Go.Proofs
set_option linter.unusedSimpArgs false
set_option linter.unusedVariables false
set_option maxHeartbeats 4000000
set_option maxRecDepth 100000

theorem w01 : IntKind.wrap .i64 (0 + 1) = 1 := rfl
theorem w12 : IntKind.wrap .i64 (1 + 1) = 2 := rfl
theorem w23 : IntKind.wrap .i64 (2 + 1) = 3 := rfl
theorem w34 : IntKind.wrap .i64 (3 + 1) = 4 := rfl
theorem w45 : IntKind.wrap .i64 (4 + 1) = 5 := rfl
theorem w56 : IntKind.wrap .i64 (5 + 1) = 6 := rfl
theorem w67 : IntKind.wrap .i64 (6 + 1) = 7 := rfl
theorem w78 : IntKind.wrap .i64 (7 + 1) = 8 := rfl
theorem w89 : IntKind.wrap .i64 (8 + 1) = 9 := rfl
theorem x1 : IntKind.wrap .i64 1 = 1 := rfl
theorem x2 : IntKind.wrap .i64 2 = 2 := rfl
theorem x3 : IntKind.wrap .i64 3 = 3 := rfl
theorem x4 : IntKind.wrap .i64 4 = 4 := rfl
theorem x5 : IntKind.wrap .i64 5 = 5 := rfl
theorem x6 : IntKind.wrap .i64 6 = 6 := rfl
theorem x7 : IntKind.wrap .i64 7 = 7 := rfl
theorem x8 : IntKind.wrap .i64 8 = 8 := rfl
theorem x9 : IntKind.wrap .i64 9 = 9 := rfl

def rowsEC : List Row := [
  (10, row3 shC shM shF fun c m f => some (sv (eStep c m f))), 
  (11, row3 shC shM shF fun c m f => some (sv (eStep c m f))), 
  (20, row1 shC fun c => some (ms (zeros (lSize c).toNat)))] ++ rowsEB
theorem rowsEC_ok : ∀ p ∈ rowsEC, RowOk Try.prog p := fun p h => by
  simp only [rowsEC, List.mem_append, List.mem_cons, List.not_mem_nil, or_false, false_or, or_assoc] at h
  rcases h with rfl | rfl | rfl | h
  · exact ok_row3 (enters_of Try.func10 (by decide) rfl) fun c m f r _ g _ e => by cases e; exact estep_pure c m f (shM_got g)
  · exact ok_row3 (enters_of Try.func11 (by decide) rfl) fun c m f r _ g _ e => by cases e; exact restep_pure c m f (shM_got g)
  · exact ok_row1 (enters_of Try.func20 (by decide) rfl) fun c r _ e => by cases e; exact new_pure c
  · exact rowsEB_ok p h
theorem okEC : (ctx Try.prog rowsEC).ok := rows_ok rowsEC_ok
theorem EC_10 : tabC rowsEC 10 = row3 shC shM shF fun c m f => some (sv (eStep c m f)) := rfl
theorem EC_11 : tabC rowsEC 11 = row3 shC shM shF fun c m f => some (sv (eStep c m f)) := rfl
theorem EC_20 : tabC rowsEC 20 = row1 shC fun c => some (ms (zeros (lSize c).toNat)) := rfl
theorem EC_58 : tabC rowsEC 58 = freeRow := rfl
theorem EC_14 : tabC rowsEC 14 = row4 shC shM shF shI fun c m f op => some (bv (goesE c m f op)) := rfl
theorem EC_13 : tabC rowsEC 13 = row4 shC shM shF shI fun c m f op => some (bv (goesE c m f op)) := rfl
theorem EC_15 : tabC rowsEC 15 = row2 shC shM fun c m => some (iv (eLen c m)) := rfl
theorem EC_16 : tabC rowsEC 16 = row2 shC shM fun c m => some (iv (eLen c m)) := rfl
theorem EC_45 : tabC rowsEC 45 = fun _ => none := rfl
theorem EC_29 : tabC rowsEC 29 = fun _ => none := rfl
theorem EC_30 : tabC rowsEC 30 = fun _ => none := rfl
theorem EC_31 : tabC rowsEC 31 = fun _ => none := rfl
theorem EC_32 : tabC rowsEC 32 = fun _ => none := rfl
theorem EC_33 : tabC rowsEC 33 = fun _ => none := rfl
theorem EC_34 : tabC rowsEC 34 = fun _ => none := rfl
theorem EC_28 : tabC rowsEC 28 = row1 shM fun m => some (ms m) := rfl
theorem EC_39 : tabC rowsEC 39 = row4 shM shI shN shN fun m i v w => some (.tup [ms (mCas m i v w), bv (mCasB m i v)]) := rfl
theorem EC_23 : tabC rowsEC 23 = row2 shM shI fun m i => some (u (mLoad m i)) := rfl
theorem EC_24 : tabC rowsEC 24 = row3 shM shI shN fun m i v => some (ms (mStore m i v)) := rfl
theorem EC_60 : tabC rowsEC 60 = row4 shM shI shN shN fun m i v w => some (.tup [ms (mCas m i v w), bv (mCasB m i v)]) := rfl
theorem EC_25 : tabC rowsEC 25 = row2 shM shM fun a b => some (bv (decide (a = b))) := rfl
theorem EC_35 : tabC rowsEC 35 = row2 shM shI fun m i => some (u (mLoad m i)) := rfl
theorem EC_12 : tabC rowsEC 12 = row2 shM shM fun a b => some (bv (decide (a = b))) := rfl
theorem EC_40 : tabC rowsEC 40 = row3 shM shI shN fun m i v => some (ms (mStore m i v)) := rfl
theorem EC_51 : tabC rowsEC 51 = row1 shC fun c => some (iv (lSize c)) := rfl
theorem EC_44 : tabC rowsEC 44 = row1 shC fun c => some (iv (lSize c)) := rfl
theorem EC_55 : tabC rowsEC 55 = row2 shC shI fun c w => some (iv (lTop c w)) := rfl
theorem EC_56 : tabC rowsEC 56 = row2 shC shI fun c w => some (iv (lBottom c w)) := rfl
theorem EC_57 : tabC rowsEC 57 = row3 shC shI shN fun c w x => some (iv (lSlot c w x)) := rfl
theorem EC_19 : tabC rowsEC 19 = row1 shC fun c => some (bv (mayC c)) := rfl
theorem EC_46 : tabC rowsEC 46 = row2 shN shN fun a b => some (iv (far a b)) := rfl
theorem EC_42 : tabC rowsEC 42 = row1 shC fun c => some (bv (mayC c)) := rfl
theorem EC_37 : tabC rowsEC 37 = row2 shN shN fun a b => some (iv (far a b)) := rfl
theorem EC_61 : tabC rowsEC 61 = row2 shC shI fun c w => if mayC c = true ∧ 0 ≤ w ∧ w ≤ 8 then some (iv (lBase c w)) else none := rfl
theorem EC_47 : tabC rowsEC 47 = fun _ => none := rfl
theorem EC_62 : tabC rowsEC 62 = fun _ => none := rfl
theorem EC_63 : tabC rowsEC 63 = fun _ => none := rfl
theorem EC_64 : tabC rowsEC 64 = fun _ => none := rfl
theorem EC_50 : tabC rowsEC 50 = fun _ => none := rfl
theorem EC_43 : tabC rowsEC 43 = row1 shF fun f => some (bv (f.res != 0)) := rfl
theorem EC_38 : tabC rowsEC 38 = row3 shF shI shN fun f r v => some (fv (fEnd f r v)) := rfl
theorem EC_27 : tabC rowsEC 27 = row2 shM shM fun a b => some (bv (decide (a = b))) := rfl
theorem EC_21 : tabC rowsEC 21 = row3 shI shI shN fun o w v => some (fv (fBegin o w v)) := rfl
theorem EC_22 : tabC rowsEC 22 = row1 shF fun f => some (bv (f.res != 0)) := rfl
theorem EC_59 : tabC rowsEC 59 = row3 shF shI shN fun f r v => some (fv (fEnd f r v)) := rfl
theorem EC_18 : tabC rowsEC 18 = row2 shC shN fun c x => some (iv (eSeq c x)) := rfl
theorem EC_17 : tabC rowsEC 17 = row2 shC shN fun c x => some (iv (eVal c x)) := rfl
theorem EC_36 : tabC rowsEC 36 = row2 shC shN fun c x => some (iv (eSeq c x)) := rfl
theorem EC_41 : tabC rowsEC 41 = row2 shC shN fun c x => some (iv (eVal c x)) := rfl

theorem awake11_pure : PureC Try.prog 9 [] (bv true) := by
  refine pure_sub okEC 1 Try.func9 rfl (by show 0 ≤ _; decide) ?_
  have f0 : zeros (lSize ⟨1, 1, 1, 0⟩).toNat = [0, 0, 0, 0, 0, 0, 0, 0, 0, 0, 0, 0] := by decide +kernel
  have e1 : eStep ⟨1, 1, 1, 0⟩ [0, 0, 0, 0, 0, 0, 0, 0, 0, 0, 0, 0] ⟨3, 0, 0, 7, 0, 0, 0⟩ = ([0, 0, 0, 0, 0, 0, 0, 0, 0, 0, 0, 0], ⟨3, 1, 0, 7, 0, 0, 0⟩) := by decide +kernel
  have e2 : eStep ⟨1, 1, 1, 0⟩ [0, 0, 0, 0, 0, 0, 0, 0, 0, 0, 0, 0] ⟨3, 1, 0, 7, 0, 0, 0⟩ = ([0, 0, 0, 0, 0, 0, 0, 0, 0, 0, 0, 0], ⟨3, 2, 0, 7, 0, 0, 0⟩) := by decide +kernel
  have e3 : eStep ⟨1, 1, 1, 0⟩ [0, 0, 0, 0, 0, 0, 0, 0, 0, 0, 0, 0] ⟨3, 2, 0, 7, 0, 0, 0⟩ = ([0, 0, 0, 0, 0, 1, 0, 0, 0, 0, 0, 0], ⟨3, 3, 0, 7, 0, 0, 0⟩) := by decide +kernel
  have e4 : eStep ⟨1, 1, 1, 0⟩ [0, 0, 0, 0, 0, 1, 0, 0, 0, 0, 0, 0] ⟨3, 3, 0, 7, 0, 0, 0⟩ = ([0, 0, 0, 0, 0, 1, 0, 7, 0, 0, 0, 0], ⟨3, 4, 0, 7, 0, 0, 0⟩) := by decide +kernel
  have e5 : eStep ⟨1, 1, 1, 0⟩ [0, 0, 0, 0, 0, 1, 0, 7, 0, 0, 0, 0] ⟨3, 4, 0, 7, 0, 0, 0⟩ = ([0, 0, 0, 0, 0, 1, 1, 7, 0, 0, 0, 0], ⟨3, 0, 0, 7, 0, 0, 1⟩) := by decide +kernel
  have g1 : eStep ⟨1, 1, 1, 0⟩ [0, 0, 0, 0, 0, 1, 1, 7, 0, 0, 0, 0] ⟨3, 0, 0, 8, 0, 0, 0⟩ = ([0, 0, 0, 0, 0, 1, 1, 7, 0, 0, 0, 0], ⟨3, 1, 0, 8, 1, 0, 0⟩) := by decide +kernel
  have g2 : eStep ⟨1, 1, 1, 0⟩ [0, 0, 0, 0, 0, 1, 1, 7, 0, 0, 0, 0] ⟨3, 1, 0, 8, 1, 0, 0⟩ = ([0, 0, 0, 0, 0, 1, 1, 7, 0, 0, 0, 0], ⟨3, 0, 0, 8, 0, 0, 2⟩) := by decide +kernel
  have l1 : eLen ⟨1, 1, 1, 0⟩ [0, 0, 0, 0, 0, 1, 1, 7, 0, 0, 0, 0] = 1 := by decide +kernel
  have l2 : goesE ⟨1, 1, 1, 0⟩ [0, 0, 0, 0, 0, 1, 1, 7, 0, 0, 0, 0] ⟨3, 0, 0, 8, 0, 0, 0⟩ 3 = true := by decide +kernel
  simp only [Try.f9, EC_10, EC_11, EC_20, EC_58, EC_14, EC_13, EC_15, EC_16, EC_45, EC_29, EC_30, EC_31, EC_32, EC_33, EC_34, EC_28, EC_39, EC_23, EC_24, EC_60, EC_25, EC_35, EC_12, EC_40, EC_51, EC_44, EC_55, EC_56, EC_57, EC_19, EC_46, EC_42, EC_37, EC_61, EC_47, EC_62, EC_63, EC_64, EC_50, EC_43, EC_38, EC_27, EC_21, EC_22, EC_59, EC_18, EC_17, EC_36, EC_41, f0, inl, fv, sv, fBegin, fEnd, r_rounds, hfree_fr, hfree_cf, cv', cf_eta, shC_dec, dC, T23, T28, T25, hfree_lu, hfree_l0, row0, row1, row2, row3, row4, row5, shI_dec, shN_dec, shB_dec, shM_dec, dI, dN, dB, dM, dU, dU_map, iv, bv, u, ms, ctx_T, ctx_C, ctx_P, T4, T3, T26, Option.bind_some, Option.bind_none, Option.map_some, List.length_map, List.length_set, String.reduceBEq, Int.toNat_natCast, Bool.true_beq, Bool.false_beq, T24, shF_dec, dF, fr_eta, undef, r_step, r_put, r_put0, r_after, r_guard0, r_guard, r_nil, r_cons, r_stepD, r_afterD0, r_afterD1, r_afterD2, r_nilD, r_consD, r_skip, r_text, r_draw, r_drawN, r_drawP, r_rest, stepP, r_pivN, r_pivC, dynCall,  r_seq, r_cond, r_block, r_loop, r_exit, r_scope, r_label, r_goto, r_ret, r_condB, r_condT, r_condF, ↓condE_t, ↓condE_f, condE_any, ↓guardE_tt, ↓guardE_ff, ↓guardE_tf, ↓guardE_ft, guardE_any, r_then, r_thenR, r_thenE, r_thenG, r_blkN, r_blkR, r_blkG, r_blkE, r_scpN, r_scpR, r_scpE, r_bodyR, r_bodyN, r_ret1, r_call, r_callC, r_callI, r_callE, r_callJ, r_callV, r_again, resB, cv, stepB, stepE, callD, tabD, snapD, snap1, snapC, snapId, snapIds, guardB, guardC, dstAt, aopR, one, pre, binR, intOpR, shiftOpR, unR, argFrm, evo, lkp, hlk, lenOf, asLst, idOf, bndA, srcOk, ofVal, ofCells, setCells, fillA, setElems, fieldsOf, fieldsEq, scalEq, isEq, cells_agg, cells_v, cells_lst, cells_ptr, cells_arr, cells_fn, AV.wr, AV.ok1, TK.agg, frz, frzs, frzA, frzArg, frzArgs, subA, subL, sub1, kp, kh, entryOk_nil, entryOk_rd, accOf, List.toList_toArray, List.length_cons, List.length_nil, List.nil_append, List.cons_append, List.append_nil, List.map_nil, List.map_cons, List.getD_cons_zero, List.getD_cons_succ, List.drop_zero, List.drop_succ_cons, List.take_succ_cons, List.take_zero, List.all_cons, List.all_nil, List.getElem?_cons_zero, List.getElem?_cons_succ, List.headD_cons, List.set_cons_zero, List.set_cons_succ, Option.map_some, Option.map_none, Option.isSome_some, Option.isSome_none, List.replicate, Nat.zero_add, Nat.sub_zero, Nat.add_zero, Int.toNat_zero, Nat.zero_le, Nat.reduceAdd, Nat.reduceSub, Nat.reduceMul, Nat.reduceEqDiff, Nat.reduceLT, Nat.reduceLeDiff, Nat.reduceBEq, reduceIte, reduceCtorEq, eq_self, if_true, if_false, true_and, and_true, false_and, and_false, true_implies, false_implies, implies_true, Bool.not_true, Bool.not_false, Bool.and_true, Bool.true_and, decide_true, decide_false, Bool.false_eq_true, ne_eq, not_false_eq_true, not_true_eq_false, Bool.true_eq_false, Bool.not_eq_true, List.cons_ne_nil, Nat.lt_irrefl, beq_self_eq_true, Int.reduceToNat, Int.reduceLT, Int.reduceLE, Int.reduceGT, Int.reduceGE, Int.reduceBEq, Int.reduceBNe, Int.reduceEq, Int.reduceNe]
  refine WP.rounds okEC 1 6 (by rfl) ?_
  simp only [EC_10, EC_11, EC_20, EC_58, EC_14, EC_13, EC_15, EC_16, EC_45, EC_29, EC_30, EC_31, EC_32, EC_33, EC_34, EC_28, EC_39, EC_23, EC_24, EC_60, EC_25, EC_35, EC_12, EC_40, EC_51, EC_44, EC_55, EC_56, EC_57, EC_19, EC_46, EC_42, EC_37, EC_61, EC_47, EC_62, EC_63, EC_64, EC_50, EC_43, EC_38, EC_27, EC_21, EC_22, EC_59, EC_18, EC_17, EC_36, EC_41, e1, e2, e3, e4, e5, g1, g2, l1, l2, w01, w12, w23, w34, w45, w56, w67, w78, w89, x1, x2, x3, x4, x5, x6, x7, x8, x9, Int.cast_ofNat_Int, Int.reduceSub, Int.reduceAdd, Int.reduceNeg, inl, fv, sv, fBegin, fEnd, r_rounds, hfree_fr, hfree_cf, cv', cf_eta, shC_dec, dC, T23, T28, T25, hfree_lu, hfree_l0, row0, row1, row2, row3, row4, row5, shI_dec, shN_dec, shB_dec, shM_dec, dI, dN, dB, dM, dU, dU_map, iv, bv, u, ms, ctx_T, ctx_C, ctx_P, T4, T3, T26, Option.bind_some, Option.bind_none, Option.map_some, List.length_map, List.length_set, String.reduceBEq, Int.toNat_natCast, Bool.true_beq, Bool.false_beq, T24, shF_dec, dF, fr_eta, undef, r_step, r_put, r_put0, r_after, r_guard0, r_guard, r_nil, r_cons, r_stepD, r_afterD0, r_afterD1, r_afterD2, r_nilD, r_consD, r_skip, r_text, r_draw, r_drawN, r_drawP, r_rest, stepP, r_pivN, r_pivC, dynCall,  r_seq, r_cond, r_block, r_loop, r_exit, r_scope, r_label, r_goto, r_ret, r_condB, r_condT, r_condF, ↓condE_t, ↓condE_f, condE_any, ↓guardE_tt, ↓guardE_ff, ↓guardE_tf, ↓guardE_ft, guardE_any, r_then, r_thenR, r_thenE, r_thenG, r_blkN, r_blkR, r_blkG, r_blkE, r_scpN, r_scpR, r_scpE, r_bodyR, r_bodyN, r_ret1, r_call, r_callC, r_callI, r_callE, r_callJ, r_callV, r_again, resB, cv, stepB, stepE, callD, tabD, snapD, snap1, snapC, snapId, snapIds, guardB, guardC, dstAt, aopR, one, pre, binR, intOpR, shiftOpR, unR, argFrm, evo, lkp, hlk, lenOf, asLst, idOf, bndA, srcOk, ofVal, ofCells, setCells, fillA, setElems, fieldsOf, fieldsEq, scalEq, isEq, cells_agg, cells_v, cells_lst, cells_ptr, cells_arr, cells_fn, AV.wr, AV.ok1, TK.agg, frz, frzs, frzA, frzArg, frzArgs, subA, subL, sub1, kp, kh, entryOk_nil, entryOk_rd, accOf, List.toList_toArray, List.length_cons, List.length_nil, List.nil_append, List.cons_append, List.append_nil, List.map_nil, List.map_cons, List.getD_cons_zero, List.getD_cons_succ, List.drop_zero, List.drop_succ_cons, List.take_succ_cons, List.take_zero, List.all_cons, List.all_nil, List.getElem?_cons_zero, List.getElem?_cons_succ, List.headD_cons, List.set_cons_zero, List.set_cons_succ, Option.map_some, Option.map_none, Option.isSome_some, Option.isSome_none, List.replicate, Nat.zero_add, Nat.sub_zero, Nat.add_zero, Int.toNat_zero, Nat.zero_le, Nat.reduceAdd, Nat.reduceSub, Nat.reduceMul, Nat.reduceEqDiff, Nat.reduceLT, Nat.reduceLeDiff, Nat.reduceBEq, reduceIte, reduceCtorEq, eq_self, if_true, if_false, true_and, and_true, false_and, and_false, true_implies, false_implies, implies_true, Bool.not_true, Bool.not_false, Bool.and_true, Bool.true_and, decide_true, decide_false, Bool.false_eq_true, ne_eq, not_false_eq_true, not_true_eq_false, Bool.true_eq_false, Bool.not_eq_true, List.cons_ne_nil, Nat.lt_irrefl, beq_self_eq_true, Int.reduceToNat, Int.reduceLT, Int.reduceLE, Int.reduceGT, Int.reduceGE, Int.reduceBEq, Int.reduceBNe, Int.reduceEq, Int.reduceNe]
  all_goals ((repeat' apply And.intro) <;> first | rfl | omega | (show entryOk _ _ _ _ _ = true; kernel_rfl) | (show pivotOk _ _ = true; kernel_rfl) | decide)

def rowsED : List Row := [
  (9, row0 (bv true))] ++ rowsEC
theorem rowsED_ok : ∀ p ∈ rowsED, RowOk Try.prog p := fun p h => by
  simp only [rowsED, List.mem_append, List.mem_cons, List.not_mem_nil, or_false, false_or, or_assoc] at h
  rcases h with rfl | h
  · exact ok_row0 (enters_of Try.func9 (by decide) rfl) awake11_pure
  · exact rowsEC_ok p h
theorem okED : (ctx Try.prog rowsED).ok := rows_ok rowsED_ok
theorem ED_9 : tabC rowsED 9 = row0 (bv true) := rfl
theorem ED_10 : tabC rowsED 10 = row3 shC shM shF fun c m f => some (sv (eStep c m f)) := rfl
theorem ED_11 : tabC rowsED 11 = row3 shC shM shF fun c m f => some (sv (eStep c m f)) := rfl
theorem ED_20 : tabC rowsED 20 = row1 shC fun c => some (ms (zeros (lSize c).toNat)) := rfl
theorem ED_58 : tabC rowsED 58 = freeRow := rfl
theorem ED_14 : tabC rowsED 14 = row4 shC shM shF shI fun c m f op => some (bv (goesE c m f op)) := rfl
theorem ED_13 : tabC rowsED 13 = row4 shC shM shF shI fun c m f op => some (bv (goesE c m f op)) := rfl
theorem ED_15 : tabC rowsED 15 = row2 shC shM fun c m => some (iv (eLen c m)) := rfl
theorem ED_16 : tabC rowsED 16 = row2 shC shM fun c m => some (iv (eLen c m)) := rfl
theorem ED_45 : tabC rowsED 45 = fun _ => none := rfl
theorem ED_29 : tabC rowsED 29 = fun _ => none := rfl
theorem ED_30 : tabC rowsED 30 = fun _ => none := rfl
theorem ED_31 : tabC rowsED 31 = fun _ => none := rfl
theorem ED_32 : tabC rowsED 32 = fun _ => none := rfl
theorem ED_33 : tabC rowsED 33 = fun _ => none := rfl
theorem ED_34 : tabC rowsED 34 = fun _ => none := rfl
theorem ED_28 : tabC rowsED 28 = row1 shM fun m => some (ms m) := rfl
theorem ED_39 : tabC rowsED 39 = row4 shM shI shN shN fun m i v w => some (.tup [ms (mCas m i v w), bv (mCasB m i v)]) := rfl
theorem ED_23 : tabC rowsED 23 = row2 shM shI fun m i => some (u (mLoad m i)) := rfl
theorem ED_24 : tabC rowsED 24 = row3 shM shI shN fun m i v => some (ms (mStore m i v)) := rfl
theorem ED_60 : tabC rowsED 60 = row4 shM shI shN shN fun m i v w => some (.tup [ms (mCas m i v w), bv (mCasB m i v)]) := rfl
theorem ED_25 : tabC rowsED 25 = row2 shM shM fun a b => some (bv (decide (a = b))) := rfl
theorem ED_35 : tabC rowsED 35 = row2 shM shI fun m i => some (u (mLoad m i)) := rfl
theorem ED_12 : tabC rowsED 12 = row2 shM shM fun a b => some (bv (decide (a = b))) := rfl
theorem ED_40 : tabC rowsED 40 = row3 shM shI shN fun m i v => some (ms (mStore m i v)) := rfl
theorem ED_51 : tabC rowsED 51 = row1 shC fun c => some (iv (lSize c)) := rfl
theorem ED_44 : tabC rowsED 44 = row1 shC fun c => some (iv (lSize c)) := rfl
theorem ED_55 : tabC rowsED 55 = row2 shC shI fun c w => some (iv (lTop c w)) := rfl
theorem ED_56 : tabC rowsED 56 = row2 shC shI fun c w => some (iv (lBottom c w)) := rfl
theorem ED_57 : tabC rowsED 57 = row3 shC shI shN fun c w x => some (iv (lSlot c w x)) := rfl
theorem ED_19 : tabC rowsED 19 = row1 shC fun c => some (bv (mayC c)) := rfl
theorem ED_46 : tabC rowsED 46 = row2 shN shN fun a b => some (iv (far a b)) := rfl
theorem ED_42 : tabC rowsED 42 = row1 shC fun c => some (bv (mayC c)) := rfl
theorem ED_37 : tabC rowsED 37 = row2 shN shN fun a b => some (iv (far a b)) := rfl
theorem ED_61 : tabC rowsED 61 = row2 shC shI fun c w => if mayC c = true ∧ 0 ≤ w ∧ w ≤ 8 then some (iv (lBase c w)) else none := rfl
theorem ED_47 : tabC rowsED 47 = fun _ => none := rfl
theorem ED_62 : tabC rowsED 62 = fun _ => none := rfl
theorem ED_63 : tabC rowsED 63 = fun _ => none := rfl
theorem ED_64 : tabC rowsED 64 = fun _ => none := rfl
theorem ED_50 : tabC rowsED 50 = fun _ => none := rfl
theorem ED_43 : tabC rowsED 43 = row1 shF fun f => some (bv (f.res != 0)) := rfl
theorem ED_38 : tabC rowsED 38 = row3 shF shI shN fun f r v => some (fv (fEnd f r v)) := rfl
theorem ED_27 : tabC rowsED 27 = row2 shM shM fun a b => some (bv (decide (a = b))) := rfl
theorem ED_21 : tabC rowsED 21 = row3 shI shI shN fun o w v => some (fv (fBegin o w v)) := rfl
theorem ED_22 : tabC rowsED 22 = row1 shF fun f => some (bv (f.res != 0)) := rfl
theorem ED_59 : tabC rowsED 59 = row3 shF shI shN fun f r v => some (fv (fEnd f r v)) := rfl
theorem ED_18 : tabC rowsED 18 = row2 shC shN fun c x => some (iv (eSeq c x)) := rfl
theorem ED_17 : tabC rowsED 17 = row2 shC shN fun c x => some (iv (eVal c x)) := rfl
theorem ED_36 : tabC rowsED 36 = row2 shC shN fun c x => some (iv (eSeq c x)) := rfl
theorem ED_41 : tabC rowsED 41 = row2 shC shN fun c x => some (iv (eVal c x)) := rfl

theorem tells11_law (c : Cf) (m : List Int) (f : Fr) (op : Int) : PureC Try.prog 3 [cv' c, ms m, fv f, iv op] (bv true) := by
  refine pure_sub okED 1 Try.func3 rfl (by show 4 ≤ _; decide) ?_
  by_cases hl : m.length ≤ 500
  · have h1 : ¬ (m.length : Int) > 500 := by omega
    have h2 : m.length ≤ 1000 := by omega
    have h3 : (eStep c m f).1.length ≤ 1000 := by rw [len_eStep]; omega
    simp only [Try.f3, ED_9, ED_10, ED_11, ED_20, ED_58, ED_14, ED_13, ED_15, ED_16, ED_45, ED_29, ED_30, ED_31, ED_32, ED_33, ED_34, ED_28, ED_39, ED_23, ED_24, ED_60, ED_25, ED_35, ED_12, ED_40, ED_51, ED_44, ED_55, ED_56, ED_57, ED_19, ED_46, ED_42, ED_37, ED_61, ED_47, ED_62, ED_63, ED_64, ED_50, ED_43, ED_38, ED_27, ED_21, ED_22, ED_59, ED_18, ED_17, ED_36, ED_41, h1, h2, h3, inl, fv, sv, fBegin, fEnd, hfree_fr, hfree_cf, cv', cf_eta, shC_dec, dC, T23, T28, T25, hfree_lu, hfree_l0, row0, row1, row2, row3, row4, row5, shI_dec, shN_dec, shB_dec, shM_dec, dI, dN, dB, dM, dU, dU_map, iv, bv, u, ms, ctx_T, ctx_C, ctx_P, T4, T3, T26, Option.bind_some, Option.bind_none, Option.map_some, List.length_map, List.length_set, String.reduceBEq, Int.toNat_natCast, Bool.true_beq, Bool.false_beq, T24, shF_dec, dF, fr_eta, undef, r_step, r_put, r_put0, r_after, r_guard0, r_guard, r_nil, r_cons, r_stepD, r_afterD0, r_afterD1, r_afterD2, r_nilD, r_consD, r_skip, r_text, r_draw, r_drawN, r_drawP, r_rest, stepP, r_pivN, r_pivC, dynCall,  r_seq, r_cond, r_block, r_loop, r_exit, r_scope, r_label, r_goto, r_ret, r_condB, r_condT, r_condF, ↓condE_t, ↓condE_f, condE_any, ↓guardE_tt, ↓guardE_ff, ↓guardE_tf, ↓guardE_ft, guardE_any, r_then, r_thenR, r_thenE, r_thenG, r_blkN, r_blkR, r_blkG, r_blkE, r_scpN, r_scpR, r_scpE, r_bodyR, r_bodyN, r_ret1, r_call, r_callC, r_callI, r_callE, r_callJ, r_callV, r_again, resB, cv, stepB, stepE, callD, tabD, snapD, snap1, snapC, snapId, snapIds, guardB, guardC, dstAt, aopR, one, pre, binR, intOpR, shiftOpR, unR, argFrm, evo, lkp, hlk, lenOf, asLst, idOf, bndA, srcOk, ofVal, ofCells, setCells, fillA, setElems, fieldsOf, fieldsEq, scalEq, isEq, cells_agg, cells_v, cells_lst, cells_ptr, cells_arr, cells_fn, AV.wr, AV.ok1, TK.agg, frz, frzs, frzA, frzArg, frzArgs, subA, subL, sub1, kp, kh, entryOk_nil, entryOk_rd, accOf, List.toList_toArray, List.length_cons, List.length_nil, List.nil_append, List.cons_append, List.append_nil, List.map_nil, List.map_cons, List.getD_cons_zero, List.getD_cons_succ, List.drop_zero, List.drop_succ_cons, List.take_succ_cons, List.take_zero, List.all_cons, List.all_nil, List.getElem?_cons_zero, List.getElem?_cons_succ, List.headD_cons, List.set_cons_zero, List.set_cons_succ, Option.map_some, Option.map_none, Option.isSome_some, Option.isSome_none, List.replicate, Nat.zero_add, Nat.sub_zero, Nat.add_zero, Int.toNat_zero, Nat.zero_le, Nat.reduceAdd, Nat.reduceSub, Nat.reduceMul, Nat.reduceEqDiff, Nat.reduceLT, Nat.reduceLeDiff, Nat.reduceBEq, reduceIte, reduceCtorEq, eq_self, if_true, if_false, true_and, and_true, false_and, and_false, true_implies, false_implies, implies_true, Bool.not_true, Bool.not_false, Bool.and_true, Bool.true_and, decide_true, decide_false, Bool.false_eq_true, ne_eq, not_false_eq_true, not_true_eq_false, Bool.true_eq_false, Bool.not_eq_true, List.cons_ne_nil, Nat.lt_irrefl, beq_self_eq_true, Int.reduceToNat, Int.reduceLT, Int.reduceLE, Int.reduceGT, Int.reduceGE, Int.reduceBEq, Int.reduceBNe, Int.reduceEq, Int.reduceNe]
    all_goals ((repeat' apply And.intro) <;> first | rfl | omega | (show entryOk _ _ _ _ _ = true; kernel_rfl) | (show pivotOk _ _ = true; kernel_rfl) | decide)
  · have h1 : (m.length : Int) > 500 := by omega
    simp only [Try.f3, ED_9, ED_10, ED_11, ED_20, ED_58, ED_14, ED_13, ED_15, ED_16, ED_45, ED_29, ED_30, ED_31, ED_32, ED_33, ED_34, ED_28, ED_39, ED_23, ED_24, ED_60, ED_25, ED_35, ED_12, ED_40, ED_51, ED_44, ED_55, ED_56, ED_57, ED_19, ED_46, ED_42, ED_37, ED_61, ED_47, ED_62, ED_63, ED_64, ED_50, ED_43, ED_38, ED_27, ED_21, ED_22, ED_59, ED_18, ED_17, ED_36, ED_41, h1, inl, fv, sv, fBegin, fEnd, hfree_fr, hfree_cf, cv', cf_eta, shC_dec, dC, T23, T28, T25, hfree_lu, hfree_l0, row0, row1, row2, row3, row4, row5, shI_dec, shN_dec, shB_dec, shM_dec, dI, dN, dB, dM, dU, dU_map, iv, bv, u, ms, ctx_T, ctx_C, ctx_P, T4, T3, T26, Option.bind_some, Option.bind_none, Option.map_some, List.length_map, List.length_set, String.reduceBEq, Int.toNat_natCast, Bool.true_beq, Bool.false_beq, T24, shF_dec, dF, fr_eta, undef, r_step, r_put, r_put0, r_after, r_guard0, r_guard, r_nil, r_cons, r_stepD, r_afterD0, r_afterD1, r_afterD2, r_nilD, r_consD, r_skip, r_text, r_draw, r_drawN, r_drawP, r_rest, stepP, r_pivN, r_pivC, dynCall,  r_seq, r_cond, r_block, r_loop, r_exit, r_scope, r_label, r_goto, r_ret, r_condB, r_condT, r_condF, ↓condE_t, ↓condE_f, condE_any, ↓guardE_tt, ↓guardE_ff, ↓guardE_tf, ↓guardE_ft, guardE_any, r_then, r_thenR, r_thenE, r_thenG, r_blkN, r_blkR, r_blkG, r_blkE, r_scpN, r_scpR, r_scpE, r_bodyR, r_bodyN, r_ret1, r_call, r_callC, r_callI, r_callE, r_callJ, r_callV, r_again, resB, cv, stepB, stepE, callD, tabD, snapD, snap1, snapC, snapId, snapIds, guardB, guardC, dstAt, aopR, one, pre, binR, intOpR, shiftOpR, unR, argFrm, evo, lkp, hlk, lenOf, asLst, idOf, bndA, srcOk, ofVal, ofCells, setCells, fillA, setElems, fieldsOf, fieldsEq, scalEq, isEq, cells_agg, cells_v, cells_lst, cells_ptr, cells_arr, cells_fn, AV.wr, AV.ok1, TK.agg, frz, frzs, frzA, frzArg, frzArgs, subA, subL, sub1, kp, kh, entryOk_nil, entryOk_rd, accOf, List.toList_toArray, List.length_cons, List.length_nil, List.nil_append, List.cons_append, List.append_nil, List.map_nil, List.map_cons, List.getD_cons_zero, List.getD_cons_succ, List.drop_zero, List.drop_succ_cons, List.take_succ_cons, List.take_zero, List.all_cons, List.all_nil, List.getElem?_cons_zero, List.getElem?_cons_succ, List.headD_cons, List.set_cons_zero, List.set_cons_succ, Option.map_some, Option.map_none, Option.isSome_some, Option.isSome_none, List.replicate, Nat.zero_add, Nat.sub_zero, Nat.add_zero, Int.toNat_zero, Nat.zero_le, Nat.reduceAdd, Nat.reduceSub, Nat.reduceMul, Nat.reduceEqDiff, Nat.reduceLT, Nat.reduceLeDiff, Nat.reduceBEq, reduceIte, reduceCtorEq, eq_self, if_true, if_false, true_and, and_true, false_and, and_false, true_implies, false_implies, implies_true, Bool.not_true, Bool.not_false, Bool.and_true, Bool.true_and, decide_true, decide_false, Bool.false_eq_true, ne_eq, not_false_eq_true, not_true_eq_false, Bool.true_eq_false, Bool.not_eq_true, List.cons_ne_nil, Nat.lt_irrefl, beq_self_eq_true, Int.reduceToNat, Int.reduceLT, Int.reduceLE, Int.reduceGT, Int.reduceGE, Int.reduceBEq, Int.reduceBNe, Int.reduceEq, Int.reduceNe]
    all_goals ((repeat' apply And.intro) <;> first | rfl | omega | (show entryOk _ _ _ _ _ = true; kernel_rfl) | (show pivotOk _ _ = true; kernel_rfl) | decide)
end Go.Vai
