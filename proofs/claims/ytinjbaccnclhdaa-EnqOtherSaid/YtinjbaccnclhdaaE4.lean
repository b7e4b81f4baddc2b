/- Putting into the injector: no deque changes. -/
import Derived.Test.YtinjbaccnclhdaaE3
import Derived.Test.YtinjbaccnclhdaaQL
namespace Go.Vai
open Go.RowKit Go.Proofs
set_option linter.unusedSimpArgs false
set_option linter.unusedVariables false
set_option maxHeartbeats 4000000
set_option maxRecDepth 100000

def rowsEF : List Row := [
  (26, row3 shC shM shI fun c m w => some (lv c m w))] ++ rowsED
theorem rowsEF_ok : ∀ p ∈ rowsEF, RowOk Try.prog p := fun p h => by
  simp only [rowsEF, List.mem_append, List.mem_cons, List.not_mem_nil, or_false, false_or, or_assoc] at h
  rcases h with rfl | h
  · exact ok_row3 (enters_of Try.func26 (by decide) rfl) fun c m w r _ g _ e => by cases e; exact list_pure c m w (shM_got g)
  · exact rowsED_ok p h
theorem okEF : (ctx Try.prog rowsEF).ok := rows_ok rowsEF_ok
theorem EF_26 : tabC rowsEF 26 = row3 shC shM shI fun c m w => some (lv c m w) := rfl
theorem EF_9 : tabC rowsEF 9 = row0 (bv true) := rfl
theorem EF_10 : tabC rowsEF 10 = row3 shC shM shF fun c m f => some (sv (eStep c m f)) := rfl
theorem EF_11 : tabC rowsEF 11 = row3 shC shM shF fun c m f => some (sv (eStep c m f)) := rfl
theorem EF_20 : tabC rowsEF 20 = row1 shC fun c => some (ms (zeros (lSize c).toNat)) := rfl
theorem EF_58 : tabC rowsEF 58 = freeRow := rfl
theorem EF_14 : tabC rowsEF 14 = row4 shC shM shF shI fun c m f op => some (bv (goesE c m f op)) := rfl
theorem EF_13 : tabC rowsEF 13 = row4 shC shM shF shI fun c m f op => some (bv (goesE c m f op)) := rfl
theorem EF_15 : tabC rowsEF 15 = row2 shC shM fun c m => some (iv (eLen c m)) := rfl
theorem EF_16 : tabC rowsEF 16 = row2 shC shM fun c m => some (iv (eLen c m)) := rfl
theorem EF_45 : tabC rowsEF 45 = fun _ => none := rfl
theorem EF_29 : tabC rowsEF 29 = fun _ => none := rfl
theorem EF_30 : tabC rowsEF 30 = fun _ => none := rfl
theorem EF_31 : tabC rowsEF 31 = fun _ => none := rfl
theorem EF_32 : tabC rowsEF 32 = fun _ => none := rfl
theorem EF_33 : tabC rowsEF 33 = fun _ => none := rfl
theorem EF_34 : tabC rowsEF 34 = fun _ => none := rfl
theorem EF_28 : tabC rowsEF 28 = row1 shM fun m => some (ms m) := rfl
theorem EF_39 : tabC rowsEF 39 = row4 shM shI shN shN fun m i v w => some (.tup [ms (mCas m i v w), bv (mCasB m i v)]) := rfl
theorem EF_23 : tabC rowsEF 23 = row2 shM shI fun m i => some (u (mLoad m i)) := rfl
theorem EF_24 : tabC rowsEF 24 = row3 shM shI shN fun m i v => some (ms (mStore m i v)) := rfl
theorem EF_60 : tabC rowsEF 60 = row4 shM shI shN shN fun m i v w => some (.tup [ms (mCas m i v w), bv (mCasB m i v)]) := rfl
theorem EF_25 : tabC rowsEF 25 = row2 shM shM fun a b => some (bv (decide (a = b))) := rfl
theorem EF_35 : tabC rowsEF 35 = row2 shM shI fun m i => some (u (mLoad m i)) := rfl
theorem EF_12 : tabC rowsEF 12 = row2 shM shM fun a b => some (bv (decide (a = b))) := rfl
theorem EF_40 : tabC rowsEF 40 = row3 shM shI shN fun m i v => some (ms (mStore m i v)) := rfl
theorem EF_51 : tabC rowsEF 51 = row1 shC fun c => some (iv (lSize c)) := rfl
theorem EF_44 : tabC rowsEF 44 = row1 shC fun c => some (iv (lSize c)) := rfl
theorem EF_55 : tabC rowsEF 55 = row2 shC shI fun c w => some (iv (lTop c w)) := rfl
theorem EF_56 : tabC rowsEF 56 = row2 shC shI fun c w => some (iv (lBottom c w)) := rfl
theorem EF_57 : tabC rowsEF 57 = row3 shC shI shN fun c w x => some (iv (lSlot c w x)) := rfl
theorem EF_19 : tabC rowsEF 19 = row1 shC fun c => some (bv (mayC c)) := rfl
theorem EF_46 : tabC rowsEF 46 = row2 shN shN fun a b => some (iv (far a b)) := rfl
theorem EF_42 : tabC rowsEF 42 = row1 shC fun c => some (bv (mayC c)) := rfl
theorem EF_37 : tabC rowsEF 37 = row2 shN shN fun a b => some (iv (far a b)) := rfl
theorem EF_61 : tabC rowsEF 61 = row2 shC shI fun c w => if mayC c = true ∧ 0 ≤ w ∧ w ≤ 8 then some (iv (lBase c w)) else none := rfl
theorem EF_47 : tabC rowsEF 47 = fun _ => none := rfl
theorem EF_62 : tabC rowsEF 62 = fun _ => none := rfl
theorem EF_63 : tabC rowsEF 63 = fun _ => none := rfl
theorem EF_64 : tabC rowsEF 64 = fun _ => none := rfl
theorem EF_50 : tabC rowsEF 50 = fun _ => none := rfl
theorem EF_43 : tabC rowsEF 43 = row1 shF fun f => some (bv (f.res != 0)) := rfl
theorem EF_38 : tabC rowsEF 38 = row3 shF shI shN fun f r v => some (fv (fEnd f r v)) := rfl
theorem EF_27 : tabC rowsEF 27 = row2 shM shM fun a b => some (bv (decide (a = b))) := rfl
theorem EF_21 : tabC rowsEF 21 = row3 shI shI shN fun o w v => some (fv (fBegin o w v)) := rfl
theorem EF_22 : tabC rowsEF 22 = row1 shF fun f => some (bv (f.res != 0)) := rfl
theorem EF_59 : tabC rowsEF 59 = row3 shF shI shN fun f r v => some (fv (fEnd f r v)) := rfl
theorem EF_18 : tabC rowsEF 18 = row2 shC shN fun c x => some (iv (eSeq c x)) := rfl
theorem EF_17 : tabC rowsEF 17 = row2 shC shN fun c x => some (iv (eVal c x)) := rfl
theorem EF_36 : tabC rowsEF 36 = row2 shC shN fun c x => some (iv (eSeq c x)) := rfl
theorem EF_41 : tabC rowsEF 41 = row2 shC shN fun c x => some (iv (eVal c x)) := rfl

theorem other11_law (c : Cf) (m : List Int) (v w : Int) : PureC Try.prog 8 [cv' c, ms m, u v, iv w] (bv true) := by
  refine pure_sub okEF 1 Try.func8 rfl (by show 4 ≤ _; decide) ?_
  by_cases hl : m.length ≤ 500
  · have h1 : ¬ (m.length : Int) > 500 := by omega
    have h2 : m.length ≤ 1000 := by omega
    obtain ⟨m1, f1, e1⟩ : ∃ a b, eStep c m ⟨3, 0, 0, v, 0, 0, 0⟩ = (a, b) := ⟨_, _, rfl⟩
    have qg1 : m1.length = m.length := by have := len_eStep c m ⟨3, 0, 0, v, 0, 0, 0⟩; rw [e1] at this; exact this
    have g1 : m1.length ≤ 1000 := by omega
    have k1 : dIs c m1 w = dIs c m w ∧ dList c m1 w = dList c m w := by have := eStep_list c m ⟨3, 0, 0, v, 0, 0, 0⟩ w; rw [e1] at this; exact this
    obtain ⟨m2, f2, e2⟩ : ∃ a b, eStep c m1 f1 = (a, b) := ⟨_, _, rfl⟩
    have qg2 : m2.length = m.length := by have := len_eStep c m1 f1; rw [e2] at this; exact this.trans qg1
    have g2 : m2.length ≤ 1000 := by omega
    have k2 : dIs c m2 w = dIs c m w ∧ dList c m2 w = dList c m w := by have := eStep_list c m1 f1 w; rw [e2] at this; exact ⟨this.1.trans k1.1, this.2.trans k1.2⟩
    obtain ⟨m3, f3, e3⟩ : ∃ a b, eStep c m2 f2 = (a, b) := ⟨_, _, rfl⟩
    have qg3 : m3.length = m.length := by have := len_eStep c m2 f2; rw [e3] at this; exact this.trans qg2
    have g3 : m3.length ≤ 1000 := by omega
    have k3 : dIs c m3 w = dIs c m w ∧ dList c m3 w = dList c m w := by have := eStep_list c m2 f2 w; rw [e3] at this; exact ⟨this.1.trans k2.1, this.2.trans k2.2⟩
    obtain ⟨m4, f4, e4⟩ : ∃ a b, eStep c m3 f3 = (a, b) := ⟨_, _, rfl⟩
    have qg4 : m4.length = m.length := by have := len_eStep c m3 f3; rw [e4] at this; exact this.trans qg3
    have g4 : m4.length ≤ 1000 := by omega
    have k4 : dIs c m4 w = dIs c m w ∧ dList c m4 w = dList c m w := by have := eStep_list c m3 f3 w; rw [e4] at this; exact ⟨this.1.trans k3.1, this.2.trans k3.2⟩
    obtain ⟨m5, f5, e5⟩ : ∃ a b, eStep c m4 f4 = (a, b) := ⟨_, _, rfl⟩
    have qg5 : m5.length = m.length := by have := len_eStep c m4 f4; rw [e5] at this; exact this.trans qg4
    have g5 : m5.length ≤ 1000 := by omega
    have k5 : dIs c m5 w = dIs c m w ∧ dList c m5 w = dList c m w := by have := eStep_list c m4 f4 w; rw [e5] at this; exact ⟨this.1.trans k4.1, this.2.trans k4.2⟩
    obtain ⟨m6, f6, e6⟩ : ∃ a b, eStep c m5 f5 = (a, b) := ⟨_, _, rfl⟩
    have qg6 : m6.length = m.length := by have := len_eStep c m5 f5; rw [e6] at this; exact this.trans qg5
    have g6 : m6.length ≤ 1000 := by omega
    have k6 : dIs c m6 w = dIs c m w ∧ dList c m6 w = dList c m w := by have := eStep_list c m5 f5 w; rw [e6] at this; exact ⟨this.1.trans k5.1, this.2.trans k5.2⟩
    obtain ⟨m7, f7, e7⟩ : ∃ a b, eStep c m6 f6 = (a, b) := ⟨_, _, rfl⟩
    have qg7 : m7.length = m.length := by have := len_eStep c m6 f6; rw [e7] at this; exact this.trans qg6
    have g7 : m7.length ≤ 1000 := by omega
    have k7 : dIs c m7 w = dIs c m w ∧ dList c m7 w = dList c m w := by have := eStep_list c m6 f6 w; rw [e7] at this; exact ⟨this.1.trans k6.1, this.2.trans k6.2⟩
    obtain ⟨m8, f8, e8⟩ : ∃ a b, eStep c m7 f7 = (a, b) := ⟨_, _, rfl⟩
    have qg8 : m8.length = m.length := by have := len_eStep c m7 f7; rw [e8] at this; exact this.trans qg7
    have g8 : m8.length ≤ 1000 := by omega
    have k8 : dIs c m8 w = dIs c m w ∧ dList c m8 w = dList c m w := by have := eStep_list c m7 f7 w; rw [e8] at this; exact ⟨this.1.trans k7.1, this.2.trans k7.2⟩
    obtain ⟨m9, f9, e9⟩ : ∃ a b, eStep c m8 f8 = (a, b) := ⟨_, _, rfl⟩
    have qg9 : m9.length = m.length := by have := len_eStep c m8 f8; rw [e9] at this; exact this.trans qg8
    have g9 : m9.length ≤ 1000 := by omega
    have k9 : dIs c m9 w = dIs c m w ∧ dList c m9 w = dList c m w := by have := eStep_list c m8 f8 w; rw [e9] at this; exact ⟨this.1.trans k8.1, this.2.trans k8.2⟩
    have hd : (dList c m w).length ≤ 1000 := by have := len_dList c m w; omega
    obtain ⟨i9, d9⟩ := k9
    simp only [Try.f8, EF_26, EF_9, EF_10, EF_11, EF_20, EF_58, EF_14, EF_13, EF_15, EF_16, EF_45, EF_29, EF_30, EF_31, EF_32, EF_33, EF_34, EF_28, EF_39, EF_23, EF_24, EF_60, EF_25, EF_35, EF_12, EF_40, EF_51, EF_44, EF_55, EF_56, EF_57, EF_19, EF_46, EF_42, EF_37, EF_61, EF_47, EF_62, EF_63, EF_64, EF_50, EF_43, EF_38, EF_27, EF_21, EF_22, EF_59, EF_18, EF_17, EF_36, EF_41, h1, h2, hd, inl, fv, sv, lv, fBegin, fEnd, hfree_fr, hfree_cf, cv', cf_eta, shC_dec, dC, T23, T28, T25, hfree_lu, hfree_l0, row0, row1, row2, row3, row4, row5, shI_dec, shN_dec, shB_dec, shM_dec, dI, dN, dB, dM, dU, dU_map, iv, bv, u, ms, ctx_T, ctx_C, ctx_P, T4, T3, T26, Option.bind_some, Option.bind_none, Option.map_some, List.length_map, List.length_set, String.reduceBEq, Int.toNat_natCast, Bool.true_beq, Bool.false_beq, T24, shF_dec, dF, fr_eta, undef, r_step, r_put, r_put0, r_after, r_guard0, r_guard, r_nil, r_cons, r_stepD, r_afterD0, r_afterD1, r_afterD2, r_nilD, r_consD, r_skip, r_text, r_draw, r_drawN, r_drawP, r_rest, stepP, r_pivN, r_pivC, dynCall,  r_seq, r_cond, r_block, r_loop, r_exit, r_scope, r_label, r_goto, r_ret, r_condB, r_condT, r_condF, ↓condE_t, ↓condE_f, condE_any, ↓guardE_tt, ↓guardE_ff, ↓guardE_tf, ↓guardE_ft, guardE_any, r_then, r_thenR, r_thenE, r_thenG, r_blkN, r_blkR, r_blkG, r_blkE, r_scpN, r_scpR, r_scpE, r_bodyR, r_bodyN, r_ret1, r_call, r_callC, r_callI, r_callE, r_callJ, r_callV, r_again, resB, cv, stepB, stepE, callD, tabD, snapD, snap1, snapC, snapId, snapIds, guardB, guardC, dstAt, aopR, one, pre, binR, intOpR, shiftOpR, unR, argFrm, evo, lkp, hlk, lenOf, asLst, idOf, bndA, srcOk, ofVal, ofCells, setCells, fillA, setElems, fieldsOf, fieldsEq, scalEq, isEq, cells_agg, cells_v, cells_lst, cells_ptr, cells_arr, cells_fn, AV.wr, AV.ok1, TK.agg, frz, frzs, frzA, frzArg, frzArgs, subA, subL, sub1, kp, kh, entryOk_nil, entryOk_rd, accOf, List.toList_toArray, List.length_cons, List.length_nil, List.nil_append, List.cons_append, List.append_nil, List.map_nil, List.map_cons, List.getD_cons_zero, List.getD_cons_succ, List.drop_zero, List.drop_succ_cons, List.take_succ_cons, List.take_zero, List.all_cons, List.all_nil, List.getElem?_cons_zero, List.getElem?_cons_succ, List.headD_cons, List.set_cons_zero, List.set_cons_succ, Option.map_some, Option.map_none, Option.isSome_some, Option.isSome_none, List.replicate, Nat.zero_add, Nat.sub_zero, Nat.add_zero, Int.toNat_zero, Nat.zero_le, Nat.reduceAdd, Nat.reduceSub, Nat.reduceMul, Nat.reduceEqDiff, Nat.reduceLT, Nat.reduceLeDiff, Nat.reduceBEq, reduceIte, reduceCtorEq, eq_self, if_true, if_false, true_and, and_true, false_and, and_false, true_implies, false_implies, implies_true, Bool.not_true, Bool.not_false, Bool.and_true, Bool.true_and, decide_true, decide_false, Bool.false_eq_true, ne_eq, not_false_eq_true, not_true_eq_false, Bool.true_eq_false, Bool.not_eq_true, List.cons_ne_nil, Nat.lt_irrefl, beq_self_eq_true, Int.reduceToNat, Int.reduceLT, Int.reduceLE, Int.reduceGT, Int.reduceGE, Int.reduceBEq, Int.reduceBNe, Int.reduceEq, Int.reduceNe]
    refine WP.rounds okEF 1 10 (by rfl) ?_
    simp only [EF_26, EF_9, EF_10, EF_11, EF_20, EF_58, EF_14, EF_13, EF_15, EF_16, EF_45, EF_29, EF_30, EF_31, EF_32, EF_33, EF_34, EF_28, EF_39, EF_23, EF_24, EF_60, EF_25, EF_35, EF_12, EF_40, EF_51, EF_44, EF_55, EF_56, EF_57, EF_19, EF_46, EF_42, EF_37, EF_61, EF_47, EF_62, EF_63, EF_64, EF_50, EF_43, EF_38, EF_27, EF_21, EF_22, EF_59, EF_18, EF_17, EF_36, EF_41, h2, g1, g2, g3, g4, g5, g6, g7, g8, g9, hd, e1, e2, e3, e4, e5, e6, e7, e8, e9, i9, d9, w01, w12, w23, w34, w45, w56, w67, w78, w89, x1, x2, x3, x4, x5, x6, x7, x8, x9, Int.cast_ofNat_Int, Int.reduceSub, Int.reduceAdd, Int.reduceNeg, inl, fv, sv, lv, fBegin, fEnd, r_rounds, hfree_fr, hfree_cf, cv', cf_eta, shC_dec, dC, T23, T28, T25, hfree_lu, hfree_l0, row0, row1, row2, row3, row4, row5, shI_dec, shN_dec, shB_dec, shM_dec, dI, dN, dB, dM, dU, dU_map, iv, bv, u, ms, ctx_T, ctx_C, ctx_P, T4, T3, T26, Option.bind_some, Option.bind_none, Option.map_some, List.length_map, List.length_set, String.reduceBEq, Int.toNat_natCast, Bool.true_beq, Bool.false_beq, T24, shF_dec, dF, fr_eta, undef, r_step, r_put, r_put0, r_after, r_guard0, r_guard, r_nil, r_cons, r_stepD, r_afterD0, r_afterD1, r_afterD2, r_nilD, r_consD, r_skip, r_text, r_draw, r_drawN, r_drawP, r_rest, stepP, r_pivN, r_pivC, dynCall,  r_seq, r_cond, r_block, r_loop, r_exit, r_scope, r_label, r_goto, r_ret, r_condB, r_condT, r_condF, ↓condE_t, ↓condE_f, condE_any, ↓guardE_tt, ↓guardE_ff, ↓guardE_tf, ↓guardE_ft, guardE_any, r_then, r_thenR, r_thenE, r_thenG, r_blkN, r_blkR, r_blkG, r_blkE, r_scpN, r_scpR, r_scpE, r_bodyR, r_bodyN, r_ret1, r_call, r_callC, r_callI, r_callE, r_callJ, r_callV, r_again, resB, cv, stepB, stepE, callD, tabD, snapD, snap1, snapC, snapId, snapIds, guardB, guardC, dstAt, aopR, one, pre, binR, intOpR, shiftOpR, unR, argFrm, evo, lkp, hlk, lenOf, asLst, idOf, bndA, srcOk, ofVal, ofCells, setCells, fillA, setElems, fieldsOf, fieldsEq, scalEq, isEq, cells_agg, cells_v, cells_lst, cells_ptr, cells_arr, cells_fn, AV.wr, AV.ok1, TK.agg, frz, frzs, frzA, frzArg, frzArgs, subA, subL, sub1, kp, kh, entryOk_nil, entryOk_rd, accOf, List.toList_toArray, List.length_cons, List.length_nil, List.nil_append, List.cons_append, List.append_nil, List.map_nil, List.map_cons, List.getD_cons_zero, List.getD_cons_succ, List.drop_zero, List.drop_succ_cons, List.take_succ_cons, List.take_zero, List.all_cons, List.all_nil, List.getElem?_cons_zero, List.getElem?_cons_succ, List.headD_cons, List.set_cons_zero, List.set_cons_succ, Option.map_some, Option.map_none, Option.isSome_some, Option.isSome_none, List.replicate, Nat.zero_add, Nat.sub_zero, Nat.add_zero, Int.toNat_zero, Nat.zero_le, Nat.reduceAdd, Nat.reduceSub, Nat.reduceMul, Nat.reduceEqDiff, Nat.reduceLT, Nat.reduceLeDiff, Nat.reduceBEq, reduceIte, reduceCtorEq, eq_self, if_true, if_false, true_and, and_true, false_and, and_false, true_implies, false_implies, implies_true, Bool.not_true, Bool.not_false, Bool.and_true, Bool.true_and, decide_true, decide_false, Bool.false_eq_true, ne_eq, not_false_eq_true, not_true_eq_false, Bool.true_eq_false, Bool.not_eq_true, List.cons_ne_nil, Nat.lt_irrefl, beq_self_eq_true, Int.reduceToNat, Int.reduceLT, Int.reduceLE, Int.reduceGT, Int.reduceGE, Int.reduceBEq, Int.reduceBNe, Int.reduceEq, Int.reduceNe]
    all_goals ((repeat' apply And.intro) <;> first | rfl | omega | (show entryOk _ _ _ _ _ = true; kernel_rfl) | (show pivotOk _ _ = true; kernel_rfl) | decide)
  · have h1 : (m.length : Int) > 500 := by omega
    simp only [Try.f8, EF_26, EF_9, EF_10, EF_11, EF_20, EF_58, EF_14, EF_13, EF_15, EF_16, EF_45, EF_29, EF_30, EF_31, EF_32, EF_33, EF_34, EF_28, EF_39, EF_23, EF_24, EF_60, EF_25, EF_35, EF_12, EF_40, EF_51, EF_44, EF_55, EF_56, EF_57, EF_19, EF_46, EF_42, EF_37, EF_61, EF_47, EF_62, EF_63, EF_64, EF_50, EF_43, EF_38, EF_27, EF_21, EF_22, EF_59, EF_18, EF_17, EF_36, EF_41, h1, inl, fv, sv, lv, fBegin, fEnd, hfree_fr, hfree_cf, cv', cf_eta, shC_dec, dC, T23, T28, T25, hfree_lu, hfree_l0, row0, row1, row2, row3, row4, row5, shI_dec, shN_dec, shB_dec, shM_dec, dI, dN, dB, dM, dU, dU_map, iv, bv, u, ms, ctx_T, ctx_C, ctx_P, T4, T3, T26, Option.bind_some, Option.bind_none, Option.map_some, List.length_map, List.length_set, String.reduceBEq, Int.toNat_natCast, Bool.true_beq, Bool.false_beq, T24, shF_dec, dF, fr_eta, undef, r_step, r_put, r_put0, r_after, r_guard0, r_guard, r_nil, r_cons, r_stepD, r_afterD0, r_afterD1, r_afterD2, r_nilD, r_consD, r_skip, r_text, r_draw, r_drawN, r_drawP, r_rest, stepP, r_pivN, r_pivC, dynCall,  r_seq, r_cond, r_block, r_loop, r_exit, r_scope, r_label, r_goto, r_ret, r_condB, r_condT, r_condF, ↓condE_t, ↓condE_f, condE_any, ↓guardE_tt, ↓guardE_ff, ↓guardE_tf, ↓guardE_ft, guardE_any, r_then, r_thenR, r_thenE, r_thenG, r_blkN, r_blkR, r_blkG, r_blkE, r_scpN, r_scpR, r_scpE, r_bodyR, r_bodyN, r_ret1, r_call, r_callC, r_callI, r_callE, r_callJ, r_callV, r_again, resB, cv, stepB, stepE, callD, tabD, snapD, snap1, snapC, snapId, snapIds, guardB, guardC, dstAt, aopR, one, pre, binR, intOpR, shiftOpR, unR, argFrm, evo, lkp, hlk, lenOf, asLst, idOf, bndA, srcOk, ofVal, ofCells, setCells, fillA, setElems, fieldsOf, fieldsEq, scalEq, isEq, cells_agg, cells_v, cells_lst, cells_ptr, cells_arr, cells_fn, AV.wr, AV.ok1, TK.agg, frz, frzs, frzA, frzArg, frzArgs, subA, subL, sub1, kp, kh, entryOk_nil, entryOk_rd, accOf, List.toList_toArray, List.length_cons, List.length_nil, List.nil_append, List.cons_append, List.append_nil, List.map_nil, List.map_cons, List.getD_cons_zero, List.getD_cons_succ, List.drop_zero, List.drop_succ_cons, List.take_succ_cons, List.take_zero, List.all_cons, List.all_nil, List.getElem?_cons_zero, List.getElem?_cons_succ, List.headD_cons, List.set_cons_zero, List.set_cons_succ, Option.map_some, Option.map_none, Option.isSome_some, Option.isSome_none, List.replicate, Nat.zero_add, Nat.sub_zero, Nat.add_zero, Int.toNat_zero, Nat.zero_le, Nat.reduceAdd, Nat.reduceSub, Nat.reduceMul, Nat.reduceEqDiff, Nat.reduceLT, Nat.reduceLeDiff, Nat.reduceBEq, reduceIte, reduceCtorEq, eq_self, if_true, if_false, true_and, and_true, false_and, and_false, true_implies, false_implies, implies_true, Bool.not_true, Bool.not_false, Bool.and_true, Bool.true_and, decide_true, decide_false, Bool.false_eq_true, ne_eq, not_false_eq_true, not_true_eq_false, Bool.true_eq_false, Bool.not_eq_true, List.cons_ne_nil, Nat.lt_irrefl, beq_self_eq_true, Int.reduceToNat, Int.reduceLT, Int.reduceLE, Int.reduceGT, Int.reduceGE, Int.reduceBEq, Int.reduceBNe, Int.reduceEq, Int.reduceNe]
    all_goals ((repeat' apply And.intro) <;> first | rfl | omega | (show entryOk _ _ _ _ _ = true; kernel_rfl) | (show pivotOk _ _ = true; kernel_rfl) | decide)
end Go.Vai
