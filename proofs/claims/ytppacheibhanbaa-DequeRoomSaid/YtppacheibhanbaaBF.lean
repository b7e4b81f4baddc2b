/- The evaluator, the plain texts and the contracts that this claim leans on, part BF: nothing of the statement is claimed here. -/
import Derived.Test.YtppacheibhanbaaBE
import Derived.Test.YtppacheibhanbaaBD
import Derived.Test.YtppacheibhanbaaBC
/- One deque, and all who are at it: steps. -/
namespace Go.Vai
open Go.RowKit Go.Proofs
set_option linter.unusedSimpArgs false
set_option linter.unusedVariables false
set_option maxHeartbeats 4000000
set_option maxRecDepth 100000

def rowsJ0 : List Row := [] ++ rowsO1 ++ rowsZ1
theorem rowsJ0_ok : ∀ p ∈ rowsJ0, RowOk Try.prog p := fun p h => by
  simp only [rowsJ0, List.mem_append, List.mem_cons, List.not_mem_nil, or_false, false_or, or_assoc] at h
  rcases h with h | h
  · exact rowsO1_ok p h
  · exact rowsZ1_ok p h
theorem okJ0 : (ctx Try.prog rowsJ0).ok := rows_ok rowsJ0_ok
theorem J0_26 : tabC rowsJ0 26 = row3 shC shM shF fun c m f => some (sv (oStep c m f)) := rfl
theorem J0_30 : tabC rowsJ0 30 = row3 shC shM shF fun c m f => if inUb f.x = true then some (sv (oStep c m f)) else none := rfl
theorem J0_22 : tabC rowsJ0 22 = row3 shC shM shI fun c m w => some (lv c m w) := rfl
theorem J0_29 : tabC rowsJ0 29 = row3 shC shM shF fun c m f => if inUb f.x = true then some (sv (pStep c m f)) else none := rfl
theorem J0_34 : tabC rowsJ0 34 = row1 shC fun c => some (ms (zeros (lSize c).toNat)) := rfl
theorem J0_24 : tabC rowsJ0 24 = row3 shM shI shF fun l room f => some (ov (fOnce l room f)) := rfl
theorem J0_25 : tabC rowsJ0 25 = row3 shC shM shF fun c m f => some (sv (pStep c m f)) := rfl
theorem J0_70 : tabC rowsJ0 70 = row2 shC shI fun c w => some (iv (lBottom c w)) := rfl
theorem J0_74 : tabC rowsJ0 74 = row3 shC shI shN fun c w x => if inUb x = true then some (iv (lSlot c w x)) else none := rfl
theorem J0_59 : tabC rowsJ0 59 = row5 shC shM shF shI shI fun c m f op pcs => some (bv (goes c m f op pcs)) := rfl
theorem J0_68 : tabC rowsJ0 68 = row5 shC shM shF shI shI fun c m f op pcs => some (bv (goes c m f op pcs)) := rfl
theorem J0_55 : tabC rowsJ0 55 = fun _ => none := rfl
theorem J0_56 : tabC rowsJ0 56 = fun _ => none := rfl
theorem J0_57 : tabC rowsJ0 57 = fun _ => none := rfl
theorem J0_58 : tabC rowsJ0 58 = fun _ => none := rfl
theorem J0_28 : tabC rowsJ0 28 = row1 shM fun m => some (ms m) := rfl
theorem J0_76 : tabC rowsJ0 76 = row4 shM shI shN shN fun m i v w => some (.tup [ms (mCas m i v w), bv (mCasB m i v)]) := rfl
theorem J0_46 : tabC rowsJ0 46 = row2 shM shI fun m i => some (u (mLoad m i)) := rfl
theorem J0_61 : tabC rowsJ0 61 = row3 shM shI shN fun m i v => some (ms (mStore m i v)) := rfl
theorem J0_63 : tabC rowsJ0 63 = row4 shM shI shN shN fun m i v w => some (.tup [ms (mCas m i v w), bv (mCasB m i v)]) := rfl
theorem J0_69 : tabC rowsJ0 69 = row2 shM shI fun m i => some (u (mLoad m i)) := rfl
theorem J0_17 : tabC rowsJ0 17 = row2 shM shM fun a b => some (bv (decide (a = b))) := rfl
theorem J0_73 : tabC rowsJ0 73 = row3 shM shI shN fun m i v => some (ms (mStore m i v)) := rfl
theorem J0_43 : tabC rowsJ0 43 = row1 shC fun c => some (iv (lSize c)) := rfl
theorem J0_45 : tabC rowsJ0 45 = row1 shC fun c => some (iv (lSize c)) := rfl
theorem J0_47 : tabC rowsJ0 47 = row2 shC shI fun c w => some (iv (lTop c w)) := rfl
theorem J0_48 : tabC rowsJ0 48 = row2 shC shI fun c w => some (iv (lBottom c w)) := rfl
theorem J0_50 : tabC rowsJ0 50 = row3 shC shI shN fun c w x => some (iv (lSlot c w x)) := rfl
theorem J0_71 : tabC rowsJ0 71 = row2 shC shI fun c w => some (iv (lTop c w)) := rfl
theorem J0_33 : tabC rowsJ0 33 = row1 shC fun c => some (bv (mayC c)) := rfl
theorem J0_49 : tabC rowsJ0 49 = row2 shN shN fun a b => some (iv (far a b)) := rfl
theorem J0_39 : tabC rowsJ0 39 = row1 shC fun c => some (bv (mayC c)) := rfl
theorem J0_75 : tabC rowsJ0 75 = row2 shN shN fun a b => some (iv (far a b)) := rfl
theorem J0_80 : tabC rowsJ0 80 = row2 shC shI fun c w => if mayC c = true ∧ 0 ≤ w ∧ w ≤ 8 then some (iv (lBase c w)) else none := rfl
theorem J0_82 : tabC rowsJ0 82 = fun _ => none := rfl
theorem J0_83 : tabC rowsJ0 83 = fun _ => none := rfl
theorem J0_84 : tabC rowsJ0 84 = fun _ => none := rfl
theorem J0_85 : tabC rowsJ0 85 = fun _ => none := rfl
theorem J0_77 : tabC rowsJ0 77 = fun _ => none := rfl
theorem J0_42 : tabC rowsJ0 42 = row1 shF fun f => some (bv (f.res != 0)) := rfl
theorem J0_72 : tabC rowsJ0 72 = row3 shF shI shN fun f r v => some (fv (fEnd f r v)) := rfl
theorem J0_23 : tabC rowsJ0 23 = row3 shI shI shN fun o w v => some (fv (fBegin o w v)) := rfl
theorem J0_20 : tabC rowsJ0 20 = row1 shF fun f => some (bv (f.res != 0)) := rfl
theorem J0_62 : tabC rowsJ0 62 = row3 shF shI shN fun f r v => some (fv (fEnd f r v)) := rfl
theorem J0_52 : tabC rowsJ0 52 = fun _ => none := rfl
theorem J0_53 : tabC rowsJ0 53 = fun _ => none := rfl
theorem J0_54 : tabC rowsJ0 54 = fun _ => none := rfl
theorem J0_51 : tabC rowsJ0 51 = fun _ => none := rfl
theorem J0_27 : tabC rowsJ0 27 = row3 shC shM shF fun c m f => some (sv (sStep c m f)) := rfl
theorem J0_31 : tabC rowsJ0 31 = row3 shC shM shF fun c m f => if inUb f.y = true then some (sv (sStep c m f)) else none := rfl
theorem J0_all : type_of% (And.intro J0_26 <| And.intro J0_30 <| And.intro J0_22 <| And.intro J0_29 <| And.intro J0_34 <| And.intro J0_24 <| And.intro J0_25 <| And.intro J0_70 <| And.intro J0_74 <| And.intro J0_59 <| And.intro J0_68 <| And.intro J0_55 <| And.intro J0_56 <| And.intro J0_57 <| And.intro J0_58 <| And.intro J0_28 <| And.intro J0_76 <| And.intro J0_46 <| And.intro J0_61 <| And.intro J0_63 <| And.intro J0_69 <| And.intro J0_17 <| And.intro J0_73 <| And.intro J0_43 <| And.intro J0_45 <| And.intro J0_47 <| And.intro J0_48 <| And.intro J0_50 <| And.intro J0_71 <| And.intro J0_33 <| And.intro J0_49 <| And.intro J0_39 <| And.intro J0_75 <| And.intro J0_80 <| And.intro J0_82 <| And.intro J0_83 <| And.intro J0_84 <| And.intro J0_85 <| And.intro J0_77 <| And.intro J0_42 <| And.intro J0_72 <| And.intro J0_23 <| And.intro J0_20 <| And.intro J0_62 <| And.intro J0_52 <| And.intro J0_53 <| And.intro J0_54 <| And.intro J0_51 <| And.intro J0_27 <| J0_31) := And.intro J0_26 <| And.intro J0_30 <| And.intro J0_22 <| And.intro J0_29 <| And.intro J0_34 <| And.intro J0_24 <| And.intro J0_25 <| And.intro J0_70 <| And.intro J0_74 <| And.intro J0_59 <| And.intro J0_68 <| And.intro J0_55 <| And.intro J0_56 <| And.intro J0_57 <| And.intro J0_58 <| And.intro J0_28 <| And.intro J0_76 <| And.intro J0_46 <| And.intro J0_61 <| And.intro J0_63 <| And.intro J0_69 <| And.intro J0_17 <| And.intro J0_73 <| And.intro J0_43 <| And.intro J0_45 <| And.intro J0_47 <| And.intro J0_48 <| And.intro J0_50 <| And.intro J0_71 <| And.intro J0_33 <| And.intro J0_49 <| And.intro J0_39 <| And.intro J0_75 <| And.intro J0_80 <| And.intro J0_82 <| And.intro J0_83 <| And.intro J0_84 <| And.intro J0_85 <| And.intro J0_77 <| And.intro J0_42 <| And.intro J0_72 <| And.intro J0_23 <| And.intro J0_20 <| And.intro J0_62 <| And.intro J0_52 <| And.intro J0_53 <| And.intro J0_54 <| And.intro J0_51 <| And.intro J0_27 <| J0_31

theorem dqstep_pure (c : Cf) (m : List Int) (f : Fr) (hm : m.length ≤ 1000) : PureC Try.prog 11 [cv' c, ms m, fv f] (sv (dqStep c m f)) := by
  refine pure_sub okJ0 1 Try.func11 rfl (by show 3 ≤ _; decide) ?_
  by_cases h0 : f.op = 0
  · have e0 : (f.op == 0) = true := by simpa using h0
    rw [show dqStep c m f = pStep c m f from if_pos h0]
    simp only [Try.f11, J0_all, e0, hm, inl, sv, fv, hfree_fr, hfree_cf, cv', cf_eta, frz_u, shC_dec, dC, T23, T28, T25, hfree_lu, hfree_l0, row0, row1, row2, row3, row4, row5, shI_dec, shN_dec, shB_dec, shM_dec, dI, dN, dB, dM, dU, dU_map, iv, bv, u, ms, ctx_T, ctx_C, ctx_P, T4, T3, T26, Option.bind_some, Option.bind_none, Option.map_some, List.length_map, List.length_set, String.reduceBEq, Int.toNat_natCast, Bool.true_beq, Bool.false_beq, T24, shF_dec, dF, fr_eta, Int.cast_ofNat_Int, Int.reduceSub, Int.reduceAdd, Int.reduceNeg, ev1, ev2, implies_true, undef, stepP, drawB, stepL, lateB, lateB0, rdsT, rdsAny, isRd, afterL, preB, callLB, callLV, lateV, dstV, dynCall, ↓condE_t, ↓condE_f, ↓guardE_tt, ↓guardE_ff, ↓guardE_tf, ↓guardE_ft, frzDeep, deepArgs, deepArg, resB, cv, stepB, stepE, callD, tabD, snapD, snap1, snapC, snapId, snapIds, guardB, guardC, dstAt, aopR, one, pre, binR, intOpR, shiftOpR, unR, argFrm, evo, lkp, hlk, lenOf, asLst, idOf, bndA, srcOk, ofVal, ofCells, setCells, fillA, setElems, fieldsOf, fieldsEq, scalEq, isEq, AV.wr, AV.ok1, TK.agg, frz, frzs, frzA, frzArg, frzArgs, subA, subL, sub1, kp, kh, accOf, List.replicate, Nat.reduceAdd, Nat.reduceSub, Nat.reduceMul, Nat.reduceEqDiff, Nat.reduceLT, Nat.reduceLeDiff, Nat.reduceBEq, reduceIte, reduceCtorEq, eq_self, ne_eq, Int.reduceToNat, Int.reduceLT, Int.reduceLE, Int.reduceGT, Int.reduceGE, Int.reduceBEq, Int.reduceBNe, Int.reduceEq, Int.reduceNe]
    all_goals ((repeat' apply And.intro) <;> first | rfl | omega | (show entryOk _ _ _ _ _ = true; kernel_rfl) | (show pivotOk _ _ = true; kernel_rfl) | decide)
  · have e0 : (f.op == 0) = false := by simpa using h0
    by_cases h1 : f.op = 1
    · have e1 : (f.op == 1) = true := by simpa using h1
      rw [show dqStep c m f = oStep c m f from (if_neg h0).trans (if_pos h1)]
      simp only [Try.f11, J0_all, e0, e1, hm, inl, sv, fv, hfree_fr, hfree_cf, cv', cf_eta, frz_u, shC_dec, dC, T23, T28, T25, hfree_lu, hfree_l0, row0, row1, row2, row3, row4, row5, shI_dec, shN_dec, shB_dec, shM_dec, dI, dN, dB, dM, dU, dU_map, iv, bv, u, ms, ctx_T, ctx_C, ctx_P, T4, T3, T26, Option.bind_some, Option.bind_none, Option.map_some, List.length_map, List.length_set, String.reduceBEq, Int.toNat_natCast, Bool.true_beq, Bool.false_beq, T24, shF_dec, dF, fr_eta, Int.cast_ofNat_Int, Int.reduceSub, Int.reduceAdd, Int.reduceNeg, ev1, ev2, implies_true, undef, stepP, drawB, stepL, lateB, lateB0, rdsT, rdsAny, isRd, afterL, preB, callLB, callLV, lateV, dstV, dynCall, ↓condE_t, ↓condE_f, ↓guardE_tt, ↓guardE_ff, ↓guardE_tf, ↓guardE_ft, frzDeep, deepArgs, deepArg, resB, cv, stepB, stepE, callD, tabD, snapD, snap1, snapC, snapId, snapIds, guardB, guardC, dstAt, aopR, one, pre, binR, intOpR, shiftOpR, unR, argFrm, evo, lkp, hlk, lenOf, asLst, idOf, bndA, srcOk, ofVal, ofCells, setCells, fillA, setElems, fieldsOf, fieldsEq, scalEq, isEq, AV.wr, AV.ok1, TK.agg, frz, frzs, frzA, frzArg, frzArgs, subA, subL, sub1, kp, kh, accOf, List.replicate, Nat.reduceAdd, Nat.reduceSub, Nat.reduceMul, Nat.reduceEqDiff, Nat.reduceLT, Nat.reduceLeDiff, Nat.reduceBEq, reduceIte, reduceCtorEq, eq_self, ne_eq, Int.reduceToNat, Int.reduceLT, Int.reduceLE, Int.reduceGT, Int.reduceGE, Int.reduceBEq, Int.reduceBNe, Int.reduceEq, Int.reduceNe]
      all_goals ((repeat' apply And.intro) <;> first | rfl | omega | (show entryOk _ _ _ _ _ = true; kernel_rfl) | (show pivotOk _ _ = true; kernel_rfl) | decide)
    · have e1 : (f.op == 1) = false := by simpa using h1
      by_cases h2 : f.op = 2
      · have e2 : (f.op == 2) = true := by simpa using h2
        rw [show dqStep c m f = sStep c m f from (if_neg h0).trans ((if_neg h1).trans (if_pos h2))]
        simp only [Try.f11, J0_all, e0, e1, e2, hm, inl, sv, fv, hfree_fr, hfree_cf, cv', cf_eta, frz_u, shC_dec, dC, T23, T28, T25, hfree_lu, hfree_l0, row0, row1, row2, row3, row4, row5, shI_dec, shN_dec, shB_dec, shM_dec, dI, dN, dB, dM, dU, dU_map, iv, bv, u, ms, ctx_T, ctx_C, ctx_P, T4, T3, T26, Option.bind_some, Option.bind_none, Option.map_some, List.length_map, List.length_set, String.reduceBEq, Int.toNat_natCast, Bool.true_beq, Bool.false_beq, T24, shF_dec, dF, fr_eta, Int.cast_ofNat_Int, Int.reduceSub, Int.reduceAdd, Int.reduceNeg, ev1, ev2, implies_true, undef, stepP, drawB, stepL, lateB, lateB0, rdsT, rdsAny, isRd, afterL, preB, callLB, callLV, lateV, dstV, dynCall, ↓condE_t, ↓condE_f, ↓guardE_tt, ↓guardE_ff, ↓guardE_tf, ↓guardE_ft, frzDeep, deepArgs, deepArg, resB, cv, stepB, stepE, callD, tabD, snapD, snap1, snapC, snapId, snapIds, guardB, guardC, dstAt, aopR, one, pre, binR, intOpR, shiftOpR, unR, argFrm, evo, lkp, hlk, lenOf, asLst, idOf, bndA, srcOk, ofVal, ofCells, setCells, fillA, setElems, fieldsOf, fieldsEq, scalEq, isEq, AV.wr, AV.ok1, TK.agg, frz, frzs, frzA, frzArg, frzArgs, subA, subL, sub1, kp, kh, accOf, List.replicate, Nat.reduceAdd, Nat.reduceSub, Nat.reduceMul, Nat.reduceEqDiff, Nat.reduceLT, Nat.reduceLeDiff, Nat.reduceBEq, reduceIte, reduceCtorEq, eq_self, ne_eq, Int.reduceToNat, Int.reduceLT, Int.reduceLE, Int.reduceGT, Int.reduceGE, Int.reduceBEq, Int.reduceBNe, Int.reduceEq, Int.reduceNe]
        all_goals ((repeat' apply And.intro) <;> first | rfl | omega | (show entryOk _ _ _ _ _ = true; kernel_rfl) | (show pivotOk _ _ = true; kernel_rfl) | decide)
      · have e2 : (f.op == 2) = false := by simpa using h2
        rw [show dqStep c m f = (m, f) from (if_neg h0).trans ((if_neg h1).trans (if_neg h2))]
        simp only [Try.f11, J0_all, e0, e1, e2, hm, inl, sv, fv, hfree_fr, hfree_cf, cv', cf_eta, frz_u, shC_dec, dC, T23, T28, T25, hfree_lu, hfree_l0, row0, row1, row2, row3, row4, row5, shI_dec, shN_dec, shB_dec, shM_dec, dI, dN, dB, dM, dU, dU_map, iv, bv, u, ms, ctx_T, ctx_C, ctx_P, T4, T3, T26, Option.bind_some, Option.bind_none, Option.map_some, List.length_map, List.length_set, String.reduceBEq, Int.toNat_natCast, Bool.true_beq, Bool.false_beq, T24, shF_dec, dF, fr_eta, Int.cast_ofNat_Int, Int.reduceSub, Int.reduceAdd, Int.reduceNeg, ev1, ev2, implies_true, undef, stepP, drawB, stepL, lateB, lateB0, rdsT, rdsAny, isRd, afterL, preB, callLB, callLV, lateV, dstV, dynCall, ↓condE_t, ↓condE_f, ↓guardE_tt, ↓guardE_ff, ↓guardE_tf, ↓guardE_ft, frzDeep, deepArgs, deepArg, resB, cv, stepB, stepE, callD, tabD, snapD, snap1, snapC, snapId, snapIds, guardB, guardC, dstAt, aopR, one, pre, binR, intOpR, shiftOpR, unR, argFrm, evo, lkp, hlk, lenOf, asLst, idOf, bndA, srcOk, ofVal, ofCells, setCells, fillA, setElems, fieldsOf, fieldsEq, scalEq, isEq, AV.wr, AV.ok1, TK.agg, frz, frzs, frzA, frzArg, frzArgs, subA, subL, sub1, kp, kh, accOf, List.replicate, Nat.reduceAdd, Nat.reduceSub, Nat.reduceMul, Nat.reduceEqDiff, Nat.reduceLT, Nat.reduceLeDiff, Nat.reduceBEq, reduceIte, reduceCtorEq, eq_self, ne_eq, Int.reduceToNat, Int.reduceLT, Int.reduceLE, Int.reduceGT, Int.reduceGE, Int.reduceBEq, Int.reduceBNe, Int.reduceEq, Int.reduceNe]
        all_goals ((repeat' apply And.intro) <;> first | rfl | omega | (show entryOk _ _ _ _ _ = true; kernel_rfl) | (show pivotOk _ _ = true; kernel_rfl) | decide)

theorem rdqstep_pure (c : Cf) (m : List Int) (f : Fr) (hm : m.length ≤ 1000) (hx : inUb f.x = true) (hy : inUb f.y = true) : PureC Try.prog 12 [cv' c, ms m, fv f] (sv (dqStep c m f)) := by
  refine pure_sub okJ0 1 Try.func12 rfl (by show 3 ≤ _; decide) ?_
  by_cases h0 : f.op = 0
  · have e0 : (f.op == 0) = true := by simpa using h0
    rw [show dqStep c m f = pStep c m f from if_pos h0]
    simp only [Try.f12, J0_all, e0, hm, hx, hy, inl, sv, fv, hfree_fr, hfree_cf, cv', cf_eta, frz_u, shC_dec, dC, T23, T28, T25, hfree_lu, hfree_l0, row0, row1, row2, row3, row4, row5, shI_dec, shN_dec, shB_dec, shM_dec, dI, dN, dB, dM, dU, dU_map, iv, bv, u, ms, ctx_T, ctx_C, ctx_P, T4, T3, T26, Option.bind_some, Option.bind_none, Option.map_some, List.length_map, List.length_set, String.reduceBEq, Int.toNat_natCast, Bool.true_beq, Bool.false_beq, T24, shF_dec, dF, fr_eta, Int.cast_ofNat_Int, Int.reduceSub, Int.reduceAdd, Int.reduceNeg, ev1, ev2, implies_true, undef, stepP, drawB, stepL, lateB, lateB0, rdsT, rdsAny, isRd, afterL, preB, callLB, callLV, lateV, dstV, dynCall, ↓condE_t, ↓condE_f, ↓guardE_tt, ↓guardE_ff, ↓guardE_tf, ↓guardE_ft, frzDeep, deepArgs, deepArg, resB, cv, stepB, stepE, callD, tabD, snapD, snap1, snapC, snapId, snapIds, guardB, guardC, dstAt, aopR, one, pre, binR, intOpR, shiftOpR, unR, argFrm, evo, lkp, hlk, lenOf, asLst, idOf, bndA, srcOk, ofVal, ofCells, setCells, fillA, setElems, fieldsOf, fieldsEq, scalEq, isEq, AV.wr, AV.ok1, TK.agg, frz, frzs, frzA, frzArg, frzArgs, subA, subL, sub1, kp, kh, accOf, List.replicate, Nat.reduceAdd, Nat.reduceSub, Nat.reduceMul, Nat.reduceEqDiff, Nat.reduceLT, Nat.reduceLeDiff, Nat.reduceBEq, reduceIte, reduceCtorEq, eq_self, ne_eq, Int.reduceToNat, Int.reduceLT, Int.reduceLE, Int.reduceGT, Int.reduceGE, Int.reduceBEq, Int.reduceBNe, Int.reduceEq, Int.reduceNe]
    all_goals ((repeat' apply And.intro) <;> first | rfl | omega | (show entryOk _ _ _ _ _ = true; kernel_rfl) | (show pivotOk _ _ = true; kernel_rfl) | decide)
  · have e0 : (f.op == 0) = false := by simpa using h0
    by_cases h1 : f.op = 1
    · have e1 : (f.op == 1) = true := by simpa using h1
      rw [show dqStep c m f = oStep c m f from (if_neg h0).trans (if_pos h1)]
      simp only [Try.f12, J0_all, e0, e1, hm, hx, hy, inl, sv, fv, hfree_fr, hfree_cf, cv', cf_eta, frz_u, shC_dec, dC, T23, T28, T25, hfree_lu, hfree_l0, row0, row1, row2, row3, row4, row5, shI_dec, shN_dec, shB_dec, shM_dec, dI, dN, dB, dM, dU, dU_map, iv, bv, u, ms, ctx_T, ctx_C, ctx_P, T4, T3, T26, Option.bind_some, Option.bind_none, Option.map_some, List.length_map, List.length_set, String.reduceBEq, Int.toNat_natCast, Bool.true_beq, Bool.false_beq, T24, shF_dec, dF, fr_eta, Int.cast_ofNat_Int, Int.reduceSub, Int.reduceAdd, Int.reduceNeg, ev1, ev2, implies_true, undef, stepP, drawB, stepL, lateB, lateB0, rdsT, rdsAny, isRd, afterL, preB, callLB, callLV, lateV, dstV, dynCall, ↓condE_t, ↓condE_f, ↓guardE_tt, ↓guardE_ff, ↓guardE_tf, ↓guardE_ft, frzDeep, deepArgs, deepArg, resB, cv, stepB, stepE, callD, tabD, snapD, snap1, snapC, snapId, snapIds, guardB, guardC, dstAt, aopR, one, pre, binR, intOpR, shiftOpR, unR, argFrm, evo, lkp, hlk, lenOf, asLst, idOf, bndA, srcOk, ofVal, ofCells, setCells, fillA, setElems, fieldsOf, fieldsEq, scalEq, isEq, AV.wr, AV.ok1, TK.agg, frz, frzs, frzA, frzArg, frzArgs, subA, subL, sub1, kp, kh, accOf, List.replicate, Nat.reduceAdd, Nat.reduceSub, Nat.reduceMul, Nat.reduceEqDiff, Nat.reduceLT, Nat.reduceLeDiff, Nat.reduceBEq, reduceIte, reduceCtorEq, eq_self, ne_eq, Int.reduceToNat, Int.reduceLT, Int.reduceLE, Int.reduceGT, Int.reduceGE, Int.reduceBEq, Int.reduceBNe, Int.reduceEq, Int.reduceNe]
      all_goals ((repeat' apply And.intro) <;> first | rfl | omega | (show entryOk _ _ _ _ _ = true; kernel_rfl) | (show pivotOk _ _ = true; kernel_rfl) | decide)
    · have e1 : (f.op == 1) = false := by simpa using h1
      by_cases h2 : f.op = 2
      · have e2 : (f.op == 2) = true := by simpa using h2
        rw [show dqStep c m f = sStep c m f from (if_neg h0).trans ((if_neg h1).trans (if_pos h2))]
        simp only [Try.f12, J0_all, e0, e1, e2, hm, hx, hy, inl, sv, fv, hfree_fr, hfree_cf, cv', cf_eta, frz_u, shC_dec, dC, T23, T28, T25, hfree_lu, hfree_l0, row0, row1, row2, row3, row4, row5, shI_dec, shN_dec, shB_dec, shM_dec, dI, dN, dB, dM, dU, dU_map, iv, bv, u, ms, ctx_T, ctx_C, ctx_P, T4, T3, T26, Option.bind_some, Option.bind_none, Option.map_some, List.length_map, List.length_set, String.reduceBEq, Int.toNat_natCast, Bool.true_beq, Bool.false_beq, T24, shF_dec, dF, fr_eta, Int.cast_ofNat_Int, Int.reduceSub, Int.reduceAdd, Int.reduceNeg, ev1, ev2, implies_true, undef, stepP, drawB, stepL, lateB, lateB0, rdsT, rdsAny, isRd, afterL, preB, callLB, callLV, lateV, dstV, dynCall, ↓condE_t, ↓condE_f, ↓guardE_tt, ↓guardE_ff, ↓guardE_tf, ↓guardE_ft, frzDeep, deepArgs, deepArg, resB, cv, stepB, stepE, callD, tabD, snapD, snap1, snapC, snapId, snapIds, guardB, guardC, dstAt, aopR, one, pre, binR, intOpR, shiftOpR, unR, argFrm, evo, lkp, hlk, lenOf, asLst, idOf, bndA, srcOk, ofVal, ofCells, setCells, fillA, setElems, fieldsOf, fieldsEq, scalEq, isEq, AV.wr, AV.ok1, TK.agg, frz, frzs, frzA, frzArg, frzArgs, subA, subL, sub1, kp, kh, accOf, List.replicate, Nat.reduceAdd, Nat.reduceSub, Nat.reduceMul, Nat.reduceEqDiff, Nat.reduceLT, Nat.reduceLeDiff, Nat.reduceBEq, reduceIte, reduceCtorEq, eq_self, ne_eq, Int.reduceToNat, Int.reduceLT, Int.reduceLE, Int.reduceGT, Int.reduceGE, Int.reduceBEq, Int.reduceBNe, Int.reduceEq, Int.reduceNe]
        all_goals ((repeat' apply And.intro) <;> first | rfl | omega | (show entryOk _ _ _ _ _ = true; kernel_rfl) | (show pivotOk _ _ = true; kernel_rfl) | decide)
      · have e2 : (f.op == 2) = false := by simpa using h2
        rw [show dqStep c m f = (m, f) from (if_neg h0).trans ((if_neg h1).trans (if_neg h2))]
        simp only [Try.f12, J0_all, e0, e1, e2, hm, hx, hy, inl, sv, fv, hfree_fr, hfree_cf, cv', cf_eta, frz_u, shC_dec, dC, T23, T28, T25, hfree_lu, hfree_l0, row0, row1, row2, row3, row4, row5, shI_dec, shN_dec, shB_dec, shM_dec, dI, dN, dB, dM, dU, dU_map, iv, bv, u, ms, ctx_T, ctx_C, ctx_P, T4, T3, T26, Option.bind_some, Option.bind_none, Option.map_some, List.length_map, List.length_set, String.reduceBEq, Int.toNat_natCast, Bool.true_beq, Bool.false_beq, T24, shF_dec, dF, fr_eta, Int.cast_ofNat_Int, Int.reduceSub, Int.reduceAdd, Int.reduceNeg, ev1, ev2, implies_true, undef, stepP, drawB, stepL, lateB, lateB0, rdsT, rdsAny, isRd, afterL, preB, callLB, callLV, lateV, dstV, dynCall, ↓condE_t, ↓condE_f, ↓guardE_tt, ↓guardE_ff, ↓guardE_tf, ↓guardE_ft, frzDeep, deepArgs, deepArg, resB, cv, stepB, stepE, callD, tabD, snapD, snap1, snapC, snapId, snapIds, guardB, guardC, dstAt, aopR, one, pre, binR, intOpR, shiftOpR, unR, argFrm, evo, lkp, hlk, lenOf, asLst, idOf, bndA, srcOk, ofVal, ofCells, setCells, fillA, setElems, fieldsOf, fieldsEq, scalEq, isEq, AV.wr, AV.ok1, TK.agg, frz, frzs, frzA, frzArg, frzArgs, subA, subL, sub1, kp, kh, accOf, List.replicate, Nat.reduceAdd, Nat.reduceSub, Nat.reduceMul, Nat.reduceEqDiff, Nat.reduceLT, Nat.reduceLeDiff, Nat.reduceBEq, reduceIte, reduceCtorEq, eq_self, ne_eq, Int.reduceToNat, Int.reduceLT, Int.reduceLE, Int.reduceGT, Int.reduceGE, Int.reduceBEq, Int.reduceBNe, Int.reduceEq, Int.reduceNe]
        all_goals ((repeat' apply And.intro) <;> first | rfl | omega | (show entryOk _ _ _ _ _ = true; kernel_rfl) | (show pivotOk _ _ = true; kernel_rfl) | decide)

theorem idle_pure : PureC Try.prog 36 [] (fv noneF) := by
  refine pure_sub okJ0 1 Try.func36 rfl (by show 0 ≤ _; decide) ?_
  simp only [Try.f36, J0_all, inl, fv, noneF, hfree_fr, hfree_cf, cv', cf_eta, frz_u, shC_dec, dC, T23, T28, T25, hfree_lu, hfree_l0, row0, row1, row2, row3, row4, row5, shI_dec, shN_dec, shB_dec, shM_dec, dI, dN, dB, dM, dU, dU_map, iv, bv, u, ms, ctx_T, ctx_C, ctx_P, T4, T3, T26, Option.bind_some, Option.bind_none, Option.map_some, List.length_map, List.length_set, String.reduceBEq, Int.toNat_natCast, Bool.true_beq, Bool.false_beq, T24, shF_dec, dF, fr_eta, Int.cast_ofNat_Int, Int.reduceSub, Int.reduceAdd, Int.reduceNeg, ev1, ev2, implies_true, undef, stepP, drawB, stepL, lateB, lateB0, rdsT, rdsAny, isRd, afterL, preB, callLB, callLV, lateV, dstV, dynCall, ↓condE_t, ↓condE_f, ↓guardE_tt, ↓guardE_ff, ↓guardE_tf, ↓guardE_ft, frzDeep, deepArgs, deepArg, resB, cv, stepB, stepE, callD, tabD, snapD, snap1, snapC, snapId, snapIds, guardB, guardC, dstAt, aopR, one, pre, binR, intOpR, shiftOpR, unR, argFrm, evo, lkp, hlk, lenOf, asLst, idOf, bndA, srcOk, ofVal, ofCells, setCells, fillA, setElems, fieldsOf, fieldsEq, scalEq, isEq, AV.wr, AV.ok1, TK.agg, frz, frzs, frzA, frzArg, frzArgs, subA, subL, sub1, kp, kh, accOf, List.replicate, Nat.reduceAdd, Nat.reduceSub, Nat.reduceMul, Nat.reduceEqDiff, Nat.reduceLT, Nat.reduceLeDiff, Nat.reduceBEq, reduceIte, reduceCtorEq, eq_self, ne_eq, Int.reduceToNat, Int.reduceLT, Int.reduceLE, Int.reduceGT, Int.reduceGE, Int.reduceBEq, Int.reduceBNe, Int.reduceEq, Int.reduceNe]
  all_goals ((repeat' apply And.intro) <;> first | rfl | omega | (show entryOk _ _ _ _ _ = true; kernel_rfl) | (show pivotOk _ _ = true; kernel_rfl) | decide)

theorem dmul64_pure (b : Int) (h : 1 ≤ b ∧ b ≤ 9) : PureC Try.prog 90 [u 1, u b] (.tup [u 0, u b]) := by
  refine pure_sub okJ0 1 Try.func90 rfl (by show 2 ≤ _; decide) ?_
  have hb : b = 1 ∨ b = 2 ∨ b = 3 ∨ b = 4 ∨ b = 5 ∨ b = 6 ∨ b = 7 ∨ b = 8 ∨ b = 9 := by omega
  rcases hb with rfl | rfl | rfl | rfl | rfl | rfl | rfl | rfl | rfl <;>
    (simp only [Try.f90, inl, J0_all, T84, hfree_fr, hfree_cf, cv', cf_eta, frz_u, shC_dec, dC, T23, T28, T25, hfree_lu, hfree_l0, row0, row1, row2, row3, row4, row5, shI_dec, shN_dec, shB_dec, shM_dec, dI, dN, dB, dM, dU, dU_map, iv, bv, u, ms, ctx_T, ctx_C, ctx_P, T4, T3, T26, Option.bind_some, Option.bind_none, Option.map_some, List.length_map, List.length_set, String.reduceBEq, Int.toNat_natCast, Bool.true_beq, Bool.false_beq, T24, shF_dec, dF, fr_eta, Int.cast_ofNat_Int, Int.reduceSub, Int.reduceAdd, Int.reduceNeg, ev1, ev2, implies_true, undef, stepP, drawB, stepL, lateB, lateB0, rdsT, rdsAny, isRd, afterL, preB, callLB, callLV, lateV, dstV, dynCall, ↓condE_t, ↓condE_f, ↓guardE_tt, ↓guardE_ff, ↓guardE_tf, ↓guardE_ft, frzDeep, deepArgs, deepArg, resB, cv, stepB, stepE, callD, tabD, snapD, snap1, snapC, snapId, snapIds, guardB, guardC, dstAt, aopR, one, pre, binR, intOpR, shiftOpR, unR, argFrm, evo, lkp, hlk, lenOf, asLst, idOf, bndA, srcOk, ofVal, ofCells, setCells, fillA, setElems, fieldsOf, fieldsEq, scalEq, isEq, AV.wr, AV.ok1, TK.agg, frz, frzs, frzA, frzArg, frzArgs, subA, subL, sub1, kp, kh, accOf, List.replicate, Nat.reduceAdd, Nat.reduceSub, Nat.reduceMul, Nat.reduceEqDiff, Nat.reduceLT, Nat.reduceLeDiff, Nat.reduceBEq, reduceIte, reduceCtorEq, eq_self, ne_eq, Int.reduceToNat, Int.reduceLT, Int.reduceLE, Int.reduceGT, Int.reduceGE, Int.reduceBEq, Int.reduceBNe, Int.reduceEq, Int.reduceNe]
     constructor <;> kernel_rfl)

def rowsJA : List Row := [
  (90, row2 shN shN fun a b => if a = 1 ∧ 1 ≤ b ∧ b ≤ 9 then some (.tup [u 0, u b]) else none), 
  (11, row3 shC shM shF fun c m f => some (sv (dqStep c m f))), 
  (12, row3 shC shM shF fun c m f => if inUb f.x = true ∧ inUb f.y = true then some (sv (dqStep c m f)) else none), 
  (36, row0 (fv noneF))] ++ rowsJ0
theorem rowsJA_ok : ∀ p ∈ rowsJA, RowOk Try.prog p := fun p h => by
  simp only [rowsJA, List.mem_append, List.mem_cons, List.not_mem_nil, or_false, false_or, or_assoc] at h
  rcases h with rfl | rfl | rfl | rfl | h
  · exact ok_row2 (enters_of Try.func90 (by decide) rfl) fun a b r _ _ e => by obtain ⟨h, rfl⟩ := opt_if e; rw [h.1]; exact dmul64_pure b h.2
  · exact ok_row3 (enters_of Try.func11 (by decide) rfl) fun c m f r _ g _ e => by cases e; exact dqstep_pure c m f (shM_got g)
  · exact ok_row3 (enters_of Try.func12 (by decide) rfl) fun c m f r _ g _ e => by obtain ⟨h, rfl⟩ := opt_if e; exact rdqstep_pure c m f (shM_got g) h.1 h.2
  · exact ok_row0 (enters_of Try.func36 (by decide) rfl) idle_pure
  · exact rowsJ0_ok p h
theorem okJA : (ctx Try.prog rowsJA).ok := rows_ok rowsJA_ok
theorem JA_90 : tabC rowsJA 90 = row2 shN shN fun a b => if a = 1 ∧ 1 ≤ b ∧ b ≤ 9 then some (.tup [u 0, u b]) else none := rfl
theorem JA_11 : tabC rowsJA 11 = row3 shC shM shF fun c m f => some (sv (dqStep c m f)) := rfl
theorem JA_12 : tabC rowsJA 12 = row3 shC shM shF fun c m f => if inUb f.x = true ∧ inUb f.y = true then some (sv (dqStep c m f)) else none := rfl
theorem JA_36 : tabC rowsJA 36 = row0 (fv noneF) := rfl
theorem JA_32 : tabC rowsJA 32 = fun _ => none := rfl
theorem JA_38 : tabC rowsJA 38 = fun _ => none := rfl
theorem JA_79 : tabC rowsJA 79 = fun _ => none := rfl
theorem JA_37 : tabC rowsJA 37 = fun _ => none := rfl
theorem JA_44 : tabC rowsJA 44 = fun _ => none := rfl
theorem JA_35 : tabC rowsJA 35 = fun _ => none := rfl
theorem JA_78 : tabC rowsJA 78 = fun _ => none := rfl
theorem JA_26 : tabC rowsJA 26 = row3 shC shM shF fun c m f => some (sv (oStep c m f)) := rfl
theorem JA_30 : tabC rowsJA 30 = row3 shC shM shF fun c m f => if inUb f.x = true then some (sv (oStep c m f)) else none := rfl
theorem JA_22 : tabC rowsJA 22 = row3 shC shM shI fun c m w => some (lv c m w) := rfl
theorem JA_29 : tabC rowsJA 29 = row3 shC shM shF fun c m f => if inUb f.x = true then some (sv (pStep c m f)) else none := rfl
theorem JA_34 : tabC rowsJA 34 = row1 shC fun c => some (ms (zeros (lSize c).toNat)) := rfl
theorem JA_24 : tabC rowsJA 24 = row3 shM shI shF fun l room f => some (ov (fOnce l room f)) := rfl
theorem JA_25 : tabC rowsJA 25 = row3 shC shM shF fun c m f => some (sv (pStep c m f)) := rfl
theorem JA_70 : tabC rowsJA 70 = row2 shC shI fun c w => some (iv (lBottom c w)) := rfl
theorem JA_74 : tabC rowsJA 74 = row3 shC shI shN fun c w x => if inUb x = true then some (iv (lSlot c w x)) else none := rfl
theorem JA_59 : tabC rowsJA 59 = row5 shC shM shF shI shI fun c m f op pcs => some (bv (goes c m f op pcs)) := rfl
theorem JA_68 : tabC rowsJA 68 = row5 shC shM shF shI shI fun c m f op pcs => some (bv (goes c m f op pcs)) := rfl
theorem JA_55 : tabC rowsJA 55 = fun _ => none := rfl
theorem JA_56 : tabC rowsJA 56 = fun _ => none := rfl
theorem JA_57 : tabC rowsJA 57 = fun _ => none := rfl
theorem JA_58 : tabC rowsJA 58 = fun _ => none := rfl
theorem JA_28 : tabC rowsJA 28 = row1 shM fun m => some (ms m) := rfl
theorem JA_76 : tabC rowsJA 76 = row4 shM shI shN shN fun m i v w => some (.tup [ms (mCas m i v w), bv (mCasB m i v)]) := rfl
theorem JA_46 : tabC rowsJA 46 = row2 shM shI fun m i => some (u (mLoad m i)) := rfl
theorem JA_61 : tabC rowsJA 61 = row3 shM shI shN fun m i v => some (ms (mStore m i v)) := rfl
theorem JA_63 : tabC rowsJA 63 = row4 shM shI shN shN fun m i v w => some (.tup [ms (mCas m i v w), bv (mCasB m i v)]) := rfl
theorem JA_69 : tabC rowsJA 69 = row2 shM shI fun m i => some (u (mLoad m i)) := rfl
theorem JA_17 : tabC rowsJA 17 = row2 shM shM fun a b => some (bv (decide (a = b))) := rfl
theorem JA_73 : tabC rowsJA 73 = row3 shM shI shN fun m i v => some (ms (mStore m i v)) := rfl
theorem JA_43 : tabC rowsJA 43 = row1 shC fun c => some (iv (lSize c)) := rfl
theorem JA_45 : tabC rowsJA 45 = row1 shC fun c => some (iv (lSize c)) := rfl
theorem JA_47 : tabC rowsJA 47 = row2 shC shI fun c w => some (iv (lTop c w)) := rfl
theorem JA_48 : tabC rowsJA 48 = row2 shC shI fun c w => some (iv (lBottom c w)) := rfl
theorem JA_50 : tabC rowsJA 50 = row3 shC shI shN fun c w x => some (iv (lSlot c w x)) := rfl
theorem JA_71 : tabC rowsJA 71 = row2 shC shI fun c w => some (iv (lTop c w)) := rfl
theorem JA_33 : tabC rowsJA 33 = row1 shC fun c => some (bv (mayC c)) := rfl
theorem JA_49 : tabC rowsJA 49 = row2 shN shN fun a b => some (iv (far a b)) := rfl
theorem JA_39 : tabC rowsJA 39 = row1 shC fun c => some (bv (mayC c)) := rfl
theorem JA_75 : tabC rowsJA 75 = row2 shN shN fun a b => some (iv (far a b)) := rfl
theorem JA_80 : tabC rowsJA 80 = row2 shC shI fun c w => if mayC c = true ∧ 0 ≤ w ∧ w ≤ 8 then some (iv (lBase c w)) else none := rfl
theorem JA_82 : tabC rowsJA 82 = fun _ => none := rfl
theorem JA_83 : tabC rowsJA 83 = fun _ => none := rfl
theorem JA_84 : tabC rowsJA 84 = fun _ => none := rfl
theorem JA_85 : tabC rowsJA 85 = fun _ => none := rfl
theorem JA_77 : tabC rowsJA 77 = fun _ => none := rfl
theorem JA_42 : tabC rowsJA 42 = row1 shF fun f => some (bv (f.res != 0)) := rfl
theorem JA_72 : tabC rowsJA 72 = row3 shF shI shN fun f r v => some (fv (fEnd f r v)) := rfl
theorem JA_23 : tabC rowsJA 23 = row3 shI shI shN fun o w v => some (fv (fBegin o w v)) := rfl
theorem JA_20 : tabC rowsJA 20 = row1 shF fun f => some (bv (f.res != 0)) := rfl
theorem JA_62 : tabC rowsJA 62 = row3 shF shI shN fun f r v => some (fv (fEnd f r v)) := rfl
theorem JA_52 : tabC rowsJA 52 = fun _ => none := rfl
theorem JA_53 : tabC rowsJA 53 = fun _ => none := rfl
theorem JA_54 : tabC rowsJA 54 = fun _ => none := rfl
theorem JA_51 : tabC rowsJA 51 = fun _ => none := rfl
theorem JA_27 : tabC rowsJA 27 = row3 shC shM shF fun c m f => some (sv (sStep c m f)) := rfl
theorem JA_31 : tabC rowsJA 31 = row3 shC shM shF fun c m f => if inUb f.y = true then some (sv (sStep c m f)) else none := rfl
theorem JA_all : type_of% (And.intro JA_90 <| And.intro JA_11 <| And.intro JA_12 <| And.intro JA_36 <| And.intro JA_32 <| And.intro JA_38 <| And.intro JA_79 <| And.intro JA_37 <| And.intro JA_44 <| And.intro JA_35 <| And.intro JA_78 <| And.intro JA_26 <| And.intro JA_30 <| And.intro JA_22 <| And.intro JA_29 <| And.intro JA_34 <| And.intro JA_24 <| And.intro JA_25 <| And.intro JA_70 <| And.intro JA_74 <| And.intro JA_59 <| And.intro JA_68 <| And.intro JA_55 <| And.intro JA_56 <| And.intro JA_57 <| And.intro JA_58 <| And.intro JA_28 <| And.intro JA_76 <| And.intro JA_46 <| And.intro JA_61 <| And.intro JA_63 <| And.intro JA_69 <| And.intro JA_17 <| And.intro JA_73 <| And.intro JA_43 <| And.intro JA_45 <| And.intro JA_47 <| And.intro JA_48 <| And.intro JA_50 <| And.intro JA_71 <| And.intro JA_33 <| And.intro JA_49 <| And.intro JA_39 <| And.intro JA_75 <| And.intro JA_80 <| And.intro JA_82 <| And.intro JA_83 <| And.intro JA_84 <| And.intro JA_85 <| And.intro JA_77 <| And.intro JA_42 <| And.intro JA_72 <| And.intro JA_23 <| And.intro JA_20 <| And.intro JA_62 <| And.intro JA_52 <| And.intro JA_53 <| And.intro JA_54 <| And.intro JA_51 <| And.intro JA_27 <| JA_31) := And.intro JA_90 <| And.intro JA_11 <| And.intro JA_12 <| And.intro JA_36 <| And.intro JA_32 <| And.intro JA_38 <| And.intro JA_79 <| And.intro JA_37 <| And.intro JA_44 <| And.intro JA_35 <| And.intro JA_78 <| And.intro JA_26 <| And.intro JA_30 <| And.intro JA_22 <| And.intro JA_29 <| And.intro JA_34 <| And.intro JA_24 <| And.intro JA_25 <| And.intro JA_70 <| And.intro JA_74 <| And.intro JA_59 <| And.intro JA_68 <| And.intro JA_55 <| And.intro JA_56 <| And.intro JA_57 <| And.intro JA_58 <| And.intro JA_28 <| And.intro JA_76 <| And.intro JA_46 <| And.intro JA_61 <| And.intro JA_63 <| And.intro JA_69 <| And.intro JA_17 <| And.intro JA_73 <| And.intro JA_43 <| And.intro JA_45 <| And.intro JA_47 <| And.intro JA_48 <| And.intro JA_50 <| And.intro JA_71 <| And.intro JA_33 <| And.intro JA_49 <| And.intro JA_39 <| And.intro JA_75 <| And.intro JA_80 <| And.intro JA_82 <| And.intro JA_83 <| And.intro JA_84 <| And.intro JA_85 <| And.intro JA_77 <| And.intro JA_42 <| And.intro JA_72 <| And.intro JA_23 <| And.intro JA_20 <| And.intro JA_62 <| And.intro JA_52 <| And.intro JA_53 <| And.intro JA_54 <| And.intro JA_51 <| And.intro JA_27 <| JA_31
end Go.Vai
/- How what is at a deque's hand ends, as the program does it. -/
namespace Go.Vai
open Go.RowKit Go.Proofs
set_option linter.unusedSimpArgs false
set_option linter.unusedVariables false
set_option maxHeartbeats 4000000
set_option maxRecDepth 100000

theorem drest_pure (d : Int) (m : List Int) (hand : List Fr) (hm : m.length ≤ 1000) (hh : hand.length ≤ 1000) :
    PureC Try.prog 15 [iv d, ms m, fs hand] (.tup [ms (dRest d m hand).1, fs (dRest d m hand).2]) := by
  refine pure_sub okJA 2 Try.func15 rfl (by show 3 ≤ _; decide) ?_
  have e : dqC d = ⟨1, d, 1, 0⟩ := rfl
  by_cases hc : mayC ⟨1, d, 1, 0⟩ = true
  · by_cases hl : (m.length : Int) = lSize ⟨1, d, 1, 0⟩
    · have hl' : ((m.length : Int) != lSize ⟨1, d, 1, 0⟩) = false := by simpa using hl
      have hcap : hand.length * 56 ≤ 140737488355328 := by omega
      by_cases hne : hand = []
      · subst hne
        simp only [Try.f15, Try.func32, Try.f32, Try.func44, Try.f44, inl, JA_all, hc, hl', hm, fs, sv, fv, List.map_nil, rf1, List.set_set, T29, T30, T41, hfree_fr, hfree_cf, cv', cf_eta, frz_u, shC_dec, dC, T23, T28, T25, hfree_lu, hfree_l0, row0, row1, row2, row3, row4, row5, shI_dec, shN_dec, shB_dec, shM_dec, dI, dN, dB, dM, dU, dU_map, iv, bv, u, ms, ctx_T, ctx_C, ctx_P, T4, T3, T26, Option.bind_some, Option.bind_none, Option.map_some, List.length_map, List.length_set, String.reduceBEq, Int.toNat_natCast, Bool.true_beq, Bool.false_beq, T24, shF_dec, dF, fr_eta, Int.cast_ofNat_Int, Int.reduceSub, Int.reduceAdd, Int.reduceNeg, ev1, ev2, implies_true, undef, stepP, drawB, stepL, lateB, lateB0, rdsT, rdsAny, isRd, afterL, preB, callLB, callLV, lateV, dstV, dynCall, ↓condE_t, ↓condE_f, ↓guardE_tt, ↓guardE_ff, ↓guardE_tf, ↓guardE_ft, frzDeep, deepArgs, deepArg, resB, cv, stepB, stepE, callD, tabD, snapD, snap1, snapC, snapId, snapIds, guardB, guardC, dstAt, aopR, one, pre, binR, intOpR, shiftOpR, unR, argFrm, evo, lkp, hlk, lenOf, asLst, idOf, bndA, srcOk, ofVal, ofCells, setCells, fillA, setElems, fieldsOf, fieldsEq, scalEq, isEq, AV.wr, AV.ok1, TK.agg, frz, frzs, frzA, frzArg, frzArgs, subA, subL, sub1, kp, kh, accOf, List.replicate, Nat.reduceAdd, Nat.reduceSub, Nat.reduceMul, Nat.reduceEqDiff, Nat.reduceLT, Nat.reduceLeDiff, Nat.reduceBEq, reduceIte, reduceCtorEq, eq_self, ne_eq, Int.reduceToNat, Int.reduceLT, Int.reduceLE, Int.reduceGT, Int.reduceGE, Int.reduceBEq, Int.reduceBNe, Int.reduceEq, Int.reduceNe]
        have hP : dRest d m [] = (m, []) := by
          rw [dRest, gDRest, if_pos ⟨hc, hl⟩]; rfl
        rw [hP]
        repeat' apply And.intro
        · refine WP.rounds okJA 1 1 (by rfl) ?_
          simp only [JA_all, r_rounds, Int.lt_irrefl, zs, fss, fs, sv, fv, List.map_nil, rf1, List.set_set, T29, T30, T41, nb_self, nb_same, nb_l0, nb_r0, nb_lt, nb_gt, nb_lt0, nb_gt0, Nat.add_assoc, hfree_fr, hfree_cf, cv', cf_eta, frz_u, shC_dec, dC, T23, T28, T25, hfree_lu, hfree_l0, row0, row1, row2, row3, row4, row5, shI_dec, shN_dec, shB_dec, shM_dec, dI, dN, dB, dM, dU, dU_map, iv, bv, u, ms, ctx_T, ctx_C, ctx_P, T4, T3, T26, Option.bind_some, Option.bind_none, Option.map_some, List.length_map, List.length_set, String.reduceBEq, Int.toNat_natCast, Bool.true_beq, Bool.false_beq, T24, shF_dec, dF, fr_eta, Int.cast_ofNat_Int, Int.reduceSub, Int.reduceAdd, Int.reduceNeg, ev1, ev2, implies_true, undef, stepP, drawB, stepL, lateB, lateB0, rdsT, rdsAny, isRd, afterL, preB, callLB, callLV, lateV, dstV, dynCall, ↓condE_t, ↓condE_f, ↓guardE_tt, ↓guardE_ff, ↓guardE_tf, ↓guardE_ft, frzDeep, deepArgs, deepArg, resB, cv, stepB, stepE, callD, tabD, snapD, snap1, snapC, snapId, snapIds, guardB, guardC, dstAt, aopR, one, pre, binR, intOpR, shiftOpR, unR, argFrm, evo, lkp, hlk, lenOf, asLst, idOf, bndA, srcOk, ofVal, ofCells, setCells, fillA, setElems, fieldsOf, fieldsEq, scalEq, isEq, AV.wr, AV.ok1, TK.agg, frz, frzs, frzA, frzArg, frzArgs, subA, subL, sub1, kp, kh, accOf, List.replicate, Nat.reduceAdd, Nat.reduceSub, Nat.reduceMul, Nat.reduceEqDiff, Nat.reduceLT, Nat.reduceLeDiff, Nat.reduceBEq, reduceIte, reduceCtorEq, eq_self, ne_eq, Int.reduceToNat, Int.reduceLT, Int.reduceLE, Int.reduceGT, Int.reduceGE, Int.reduceBEq, Int.reduceBNe, Int.reduceEq, Int.reduceNe]
          all_goals ((repeat' apply And.intro) <;> first | rfl | (intro x hx; cases hx))
        · refine WP.rounds okJA 1 1 (by rfl) ?_
          simp only [JA_all, r_rounds, Int.lt_irrefl, zs, fss, fs, sv, fv, List.map_nil, rf1, List.set_set, T29, T30, T41, nb_self, nb_same, nb_l0, nb_r0, nb_lt, nb_gt, nb_lt0, nb_gt0, Nat.add_assoc, hfree_fr, hfree_cf, cv', cf_eta, frz_u, shC_dec, dC, T23, T28, T25, hfree_lu, hfree_l0, row0, row1, row2, row3, row4, row5, shI_dec, shN_dec, shB_dec, shM_dec, dI, dN, dB, dM, dU, dU_map, iv, bv, u, ms, ctx_T, ctx_C, ctx_P, T4, T3, T26, Option.bind_some, Option.bind_none, Option.map_some, List.length_map, List.length_set, String.reduceBEq, Int.toNat_natCast, Bool.true_beq, Bool.false_beq, T24, shF_dec, dF, fr_eta, Int.cast_ofNat_Int, Int.reduceSub, Int.reduceAdd, Int.reduceNeg, ev1, ev2, implies_true, undef, stepP, drawB, stepL, lateB, lateB0, rdsT, rdsAny, isRd, afterL, preB, callLB, callLV, lateV, dstV, dynCall, ↓condE_t, ↓condE_f, ↓guardE_tt, ↓guardE_ff, ↓guardE_tf, ↓guardE_ft, frzDeep, deepArgs, deepArg, resB, cv, stepB, stepE, callD, tabD, snapD, snap1, snapC, snapId, snapIds, guardB, guardC, dstAt, aopR, one, pre, binR, intOpR, shiftOpR, unR, argFrm, evo, lkp, hlk, lenOf, asLst, idOf, bndA, srcOk, ofVal, ofCells, setCells, fillA, setElems, fieldsOf, fieldsEq, scalEq, isEq, AV.wr, AV.ok1, TK.agg, frz, frzs, frzA, frzArg, frzArgs, subA, subL, sub1, kp, kh, accOf, List.replicate, Nat.reduceAdd, Nat.reduceSub, Nat.reduceMul, Nat.reduceEqDiff, Nat.reduceLT, Nat.reduceLeDiff, Nat.reduceBEq, reduceIte, reduceCtorEq, eq_self, ne_eq, Int.reduceToNat, Int.reduceLT, Int.reduceLE, Int.reduceGT, Int.reduceGE, Int.reduceBEq, Int.reduceBNe, Int.reduceEq, Int.reduceNe]
          all_goals ((repeat' apply And.intro) <;> first | rfl | (intro x hx; cases hx))
      · have hne' : (hand.map fv = []) = False := by simp [hne]
        simp only [Try.f15, Try.func32, Try.f32, Try.func44, Try.f44, inl, JA_all, hc, hl', hm, hcap, hne', fs, sv, fv, rf1, List.set_set, T29, T30, T41, hfree_fr, hfree_cf, cv', cf_eta, frz_u, shC_dec, dC, T23, T28, T25, hfree_lu, hfree_l0, row0, row1, row2, row3, row4, row5, shI_dec, shN_dec, shB_dec, shM_dec, dI, dN, dB, dM, dU, dU_map, iv, bv, u, ms, ctx_T, ctx_C, ctx_P, T4, T3, T26, Option.bind_some, Option.bind_none, Option.map_some, List.length_map, List.length_set, String.reduceBEq, Int.toNat_natCast, Bool.true_beq, Bool.false_beq, T24, shF_dec, dF, fr_eta, Int.cast_ofNat_Int, Int.reduceSub, Int.reduceAdd, Int.reduceNeg, ev1, ev2, implies_true, undef, stepP, drawB, stepL, lateB, lateB0, rdsT, rdsAny, isRd, afterL, preB, callLB, callLV, lateV, dstV, dynCall, ↓condE_t, ↓condE_f, ↓guardE_tt, ↓guardE_ff, ↓guardE_tf, ↓guardE_ft, frzDeep, deepArgs, deepArg, resB, cv, stepB, stepE, callD, tabD, snapD, snap1, snapC, snapId, snapIds, guardB, guardC, dstAt, aopR, one, pre, binR, intOpR, shiftOpR, unR, argFrm, evo, lkp, hlk, lenOf, asLst, idOf, bndA, srcOk, ofVal, ofCells, setCells, fillA, setElems, fieldsOf, fieldsEq, scalEq, isEq, AV.wr, AV.ok1, TK.agg, frz, frzs, frzA, frzArg, frzArgs, subA, subL, sub1, kp, kh, accOf, List.replicate, Nat.reduceAdd, Nat.reduceSub, Nat.reduceMul, Nat.reduceEqDiff, Nat.reduceLT, Nat.reduceLeDiff, Nat.reduceBEq, reduceIte, reduceCtorEq, eq_self, ne_eq, Int.reduceToNat, Int.reduceLT, Int.reduceLE, Int.reduceGT, Int.reduceGE, Int.reduceBEq, Int.reduceBNe, Int.reduceEq, Int.reduceNe]
        have rT := fun i => len_restTo len_dqStep ⟨1, d, 1, 0⟩ (m, hand) i
        refine WP.loop (ι := Nat) (fun i => hand.length - i) (fun i => i ≤ hand.length) (n := 70)
          (fr := fun i => [(31, iv i), (30, iv hand.length), (10, .arr 31 0 hand.length), (8, .ptr 4 0 0), (9, ms (restTo dqStep ⟨1, d, 1, 0⟩ (m, hand) i).1)])
          (hp := fun i => [(31, some ⟨false, 28, 7, (restTo dqStep ⟨1, d, 1, 0⟩ (m, hand) i).2.map fv⟩), (4, some ⟨false, 23, 4, [cv' ⟨1, d, 1, 0⟩]⟩)]) (N := 0) ?_ 0 (Nat.zero_le _) rfl (Nat.zero_le _) ⟨rfl, rfl, rfl, rfl, rfl, trivial⟩ ⟨rfl, rfl, trivial⟩
        intro i nx2 hi hN2 hid2
        have t1 : (restTo dqStep ⟨1, d, 1, 0⟩ (m, hand) i).1.length = m.length := (rT i).1
        have t2 : (restTo dqStep ⟨1, d, 1, 0⟩ (m, hand) i).2.length = hand.length := (rT i).2
        have m0 : 31 < nx2 := hid2 31 _ rfl
        have m1 : 4 < nx2 := hid2 4 _ rfl
        generalize hT : restTo dqStep ⟨1, d, 1, 0⟩ (m, hand) i = T at t1 t2 ⊢
        obtain ⟨mT, hT'⟩ := T
        dsimp only at t1 t2 ⊢
        refine WP.of okJA 1 (by rfl) ?_
        by_cases hih : (i : Int) < hand.length
        · have wi : IntKind.wrap .i64 ((i : Int) + 1) = ((i + 1 : Nat) : Int) := by rw [wrap_i (by omega) (by omega)]; omega
          have hiT : i < hT'.length := by omega
          simp only [JA_all, hih, t2, m0, m1, zs, fs, sv, fv, Int.toNat_natCast, Nat.le_refl, rf1, List.set_set, T29, T30, T41, nb_self, nb_same, nb_l0, nb_r0, nb_lt, nb_gt, nb_lt0, nb_gt0, Nat.add_assoc, hfree_fr, hfree_cf, cv', cf_eta, frz_u, shC_dec, dC, T23, T28, T25, hfree_lu, hfree_l0, row0, row1, row2, row3, row4, row5, shI_dec, shN_dec, shB_dec, shM_dec, dI, dN, dB, dM, dU, dU_map, iv, bv, u, ms, ctx_T, ctx_C, ctx_P, T4, T3, T26, Option.bind_some, Option.bind_none, Option.map_some, List.length_map, List.length_set, String.reduceBEq, Int.toNat_natCast, Bool.true_beq, Bool.false_beq, T24, shF_dec, dF, fr_eta, Int.cast_ofNat_Int, Int.reduceSub, Int.reduceAdd, Int.reduceNeg, ev1, ev2, implies_true, undef, stepP, drawB, stepL, lateB, lateB0, rdsT, rdsAny, isRd, afterL, preB, callLB, callLV, lateV, dstV, dynCall, ↓condE_t, ↓condE_f, ↓guardE_tt, ↓guardE_ff, ↓guardE_tf, ↓guardE_ft, frzDeep, deepArgs, deepArg, resB, cv, stepB, stepE, callD, tabD, snapD, snap1, snapC, snapId, snapIds, guardB, guardC, dstAt, aopR, one, pre, binR, intOpR, shiftOpR, unR, argFrm, evo, lkp, hlk, lenOf, asLst, idOf, bndA, srcOk, ofVal, ofCells, setCells, fillA, setElems, fieldsOf, fieldsEq, scalEq, isEq, AV.wr, AV.ok1, TK.agg, frz, frzs, frzA, frzArg, frzArgs, subA, subL, sub1, kp, kh, accOf, List.replicate, Nat.reduceAdd, Nat.reduceSub, Nat.reduceMul, Nat.reduceEqDiff, Nat.reduceLT, Nat.reduceLeDiff, Nat.reduceBEq, reduceIte, reduceCtorEq, eq_self, ne_eq, Int.reduceToNat, Int.reduceLT, Int.reduceLE, Int.reduceGT, Int.reduceGE, Int.reduceBEq, Int.reduceBNe, Int.reduceEq, Int.reduceNe]
          refine WP.loop (ι := Nat × List Int × Fr) (fun j => 20 - j.1) (fun j => j.1 ≤ 20 ∧ restN dqStep ⟨1, d, 1, 0⟩ (20 - j.1) j.2 = restN dqStep ⟨1, d, 1, 0⟩ 20 (mT, hT'.getD i noneF) ∧ j.2.1.length ≤ 1000) (n := 70)
            (fr := fun j => [(12, iv j.1), (11, iv i), (31, iv i), (30, iv hand.length), (10, .arr 31 0 hand.length), (8, .ptr 4 0 0), (9, ms j.2.1)])
            (hp := fun j => [(31, some ⟨false, 28, 7, (hT'.set i j.2.2).map fv⟩), (4, some ⟨false, 23, 4, [cv' ⟨1, d, 1, 0⟩]⟩)]) (N := 0) ?_ (0, mT, hT'.getD i noneF) ⟨by dsimp only; omega, rfl, by dsimp only; omega⟩ rfl (Nat.zero_le _) ⟨rfl, rfl, rfl, rfl, rfl, rfl, rfl, trivial⟩ ?_
          · rintro ⟨j, mj, f⟩ nx3 ⟨hj, hR, hmj⟩ hN3 hid3
            dsimp only at hj hR hmj hid3 ⊢
            have r0 : 31 < nx3 := hid3 31 _ rfl
            have r1 : 4 < nx3 := hid3 4 _ rfl
            have g1 := getD_set_f hiT f
            have hi0 : (0 : Int) ≤ (i : Int) := by omega
            have hi3 : i < hand.length := by omega
            refine WP.of okJA 1 (by rfl) ?_
            by_cases hj20 : (j : Int) < 20
            · have wj : IntKind.wrap .i64 ((j : Int) + 1) = ((j + 1 : Nat) : Int) := by rw [wrap_i (by omega) (by omega)]; omega
              by_cases ho : f.op = -1
              · have ho' : (f.op != -1) = false := by simpa using ho
                have hE : restN dqStep ⟨1, d, 1, 0⟩ 20 (mT, hT'.getD i noneF) = (mj, f) := by rw [← hR]; exact restN_stop (.inl ho)
                simp only [JA_all, hj20, ho', hmj, g1, t2, hi0, hi3, hih, r0, r1, wi, zs, fs, sv, fv, Int.toNat_natCast, Nat.le_refl, rf1, List.set_set, T29, T30, T41, nb_self, nb_same, nb_l0, nb_r0, nb_lt, nb_gt, nb_lt0, nb_gt0, Nat.add_assoc, hfree_fr, hfree_cf, cv', cf_eta, frz_u, shC_dec, dC, T23, T28, T25, hfree_lu, hfree_l0, row0, row1, row2, row3, row4, row5, shI_dec, shN_dec, shB_dec, shM_dec, dI, dN, dB, dM, dU, dU_map, iv, bv, u, ms, ctx_T, ctx_C, ctx_P, T4, T3, T26, Option.bind_some, Option.bind_none, Option.map_some, List.length_map, List.length_set, String.reduceBEq, Int.toNat_natCast, Bool.true_beq, Bool.false_beq, T24, shF_dec, dF, fr_eta, Int.cast_ofNat_Int, Int.reduceSub, Int.reduceAdd, Int.reduceNeg, ev1, ev2, implies_true, undef, stepP, drawB, stepL, lateB, lateB0, rdsT, rdsAny, isRd, afterL, preB, callLB, callLV, lateV, dstV, dynCall, ↓condE_t, ↓condE_f, ↓guardE_tt, ↓guardE_ff, ↓guardE_tf, ↓guardE_ft, frzDeep, deepArgs, deepArg, resB, cv, stepB, stepE, callD, tabD, snapD, snap1, snapC, snapId, snapIds, guardB, guardC, dstAt, aopR, one, pre, binR, intOpR, shiftOpR, unR, argFrm, evo, lkp, hlk, lenOf, asLst, idOf, bndA, srcOk, ofVal, ofCells, setCells, fillA, setElems, fieldsOf, fieldsEq, scalEq, isEq, AV.wr, AV.ok1, TK.agg, frz, frzs, frzA, frzArg, frzArgs, subA, subL, sub1, kp, kh, accOf, List.replicate, Nat.reduceAdd, Nat.reduceSub, Nat.reduceMul, Nat.reduceEqDiff, Nat.reduceLT, Nat.reduceLeDiff, Nat.reduceBEq, reduceIte, reduceCtorEq, eq_self, ne_eq, Int.reduceToNat, Int.reduceLT, Int.reduceLE, Int.reduceGT, Int.reduceGE, Int.reduceBEq, Int.reduceBNe, Int.reduceEq, Int.reduceNe]
                have hT2 : restTo dqStep ⟨1, d, 1, 0⟩ (m, hand) (i + 1) = (mj, hT'.set i f) := by rw [restTo, hT, restAt]; dsimp only; rw [hE]
                refine ⟨i + 1, by omega, by omega, ?_⟩
                rw [hT2]
                exact ⟨⟨rfl, rfl⟩, rfl⟩
              · have ho' : (f.op != -1) = true := by simpa using ho
                by_cases hr : f.res = 0
                · have hr' : (f.res != 0) = false := by simpa using hr
                  obtain ⟨m', g, e2⟩ : ∃ x y, dqStep ⟨1, d, 1, 0⟩ mj f = (x, y) := ⟨_, _, rfl⟩
                  have hm' : m'.length ≤ 1000 := by have := len_dqStep ⟨1, d, 1, 0⟩ mj f; rw [e2] at this; dsimp only at this; omega
                  have hR' : restN dqStep ⟨1, d, 1, 0⟩ (20 - (j + 1)) (m', g) = restN dqStep ⟨1, d, 1, 0⟩ 20 (mT, hT'.getD i noneF) := by
                    rw [← hR, show 20 - j = 20 - (j + 1) + 1 by omega, restN_go (by simp [ho, hr])]; dsimp only; rw [e2]
                  simp only [JA_all, hj20, ho', hr', e2, hmj, g1, t2, hi0, hi3, hih, r0, r1, wj, zs, fs, sv, fv, Int.toNat_natCast, Nat.le_refl, rf1, List.set_set, T29, T30, T41, nb_self, nb_same, nb_l0, nb_r0, nb_lt, nb_gt, nb_lt0, nb_gt0, Nat.add_assoc, hfree_fr, hfree_cf, cv', cf_eta, frz_u, shC_dec, dC, T23, T28, T25, hfree_lu, hfree_l0, row0, row1, row2, row3, row4, row5, shI_dec, shN_dec, shB_dec, shM_dec, dI, dN, dB, dM, dU, dU_map, iv, bv, u, ms, ctx_T, ctx_C, ctx_P, T4, T3, T26, Option.bind_some, Option.bind_none, Option.map_some, List.length_map, List.length_set, String.reduceBEq, Int.toNat_natCast, Bool.true_beq, Bool.false_beq, T24, shF_dec, dF, fr_eta, Int.cast_ofNat_Int, Int.reduceSub, Int.reduceAdd, Int.reduceNeg, ev1, ev2, implies_true, undef, stepP, drawB, stepL, lateB, lateB0, rdsT, rdsAny, isRd, afterL, preB, callLB, callLV, lateV, dstV, dynCall, ↓condE_t, ↓condE_f, ↓guardE_tt, ↓guardE_ff, ↓guardE_tf, ↓guardE_ft, frzDeep, deepArgs, deepArg, resB, cv, stepB, stepE, callD, tabD, snapD, snap1, snapC, snapId, snapIds, guardB, guardC, dstAt, aopR, one, pre, binR, intOpR, shiftOpR, unR, argFrm, evo, lkp, hlk, lenOf, asLst, idOf, bndA, srcOk, ofVal, ofCells, setCells, fillA, setElems, fieldsOf, fieldsEq, scalEq, isEq, AV.wr, AV.ok1, TK.agg, frz, frzs, frzA, frzArg, frzArgs, subA, subL, sub1, kp, kh, accOf, List.replicate, Nat.reduceAdd, Nat.reduceSub, Nat.reduceMul, Nat.reduceEqDiff, Nat.reduceLT, Nat.reduceLeDiff, Nat.reduceBEq, reduceIte, reduceCtorEq, eq_self, ne_eq, Int.reduceToNat, Int.reduceLT, Int.reduceLE, Int.reduceGT, Int.reduceGE, Int.reduceBEq, Int.reduceBNe, Int.reduceEq, Int.reduceNe]
                  repeat' apply And.intro
                  any_goals (show entryOk _ _ _ _ _ = true; (repeat (first | exact entryOk_nil _ _ _ _ | (refine entryOk_step ?h ?_; case h => (first | (apply Or.inr; constructor <;> simp [meets] <;> omega; done) | (apply Or.inl; show anc _ _ _ _ = true; kernel_rfl))))))
                  exact ⟨(j + 1, m', g), by dsimp only; omega, ⟨by dsimp only; omega, hR', hm'⟩, ⟨rfl, rfl⟩, rfl⟩
                · have hr' : (f.res != 0) = true := by simpa using hr
                  have hE : restN dqStep ⟨1, d, 1, 0⟩ 20 (mT, hT'.getD i noneF) = (mj, f) := by rw [← hR]; exact restN_stop (.inr hr)
                  simp only [JA_all, hj20, ho', hr', hmj, g1, t2, hi0, hi3, hih, r0, r1, wi, zs, fs, sv, fv, Int.toNat_natCast, Nat.le_refl, rf1, List.set_set, T29, T30, T41, nb_self, nb_same, nb_l0, nb_r0, nb_lt, nb_gt, nb_lt0, nb_gt0, Nat.add_assoc, hfree_fr, hfree_cf, cv', cf_eta, frz_u, shC_dec, dC, T23, T28, T25, hfree_lu, hfree_l0, row0, row1, row2, row3, row4, row5, shI_dec, shN_dec, shB_dec, shM_dec, dI, dN, dB, dM, dU, dU_map, iv, bv, u, ms, ctx_T, ctx_C, ctx_P, T4, T3, T26, Option.bind_some, Option.bind_none, Option.map_some, List.length_map, List.length_set, String.reduceBEq, Int.toNat_natCast, Bool.true_beq, Bool.false_beq, T24, shF_dec, dF, fr_eta, Int.cast_ofNat_Int, Int.reduceSub, Int.reduceAdd, Int.reduceNeg, ev1, ev2, implies_true, undef, stepP, drawB, stepL, lateB, lateB0, rdsT, rdsAny, isRd, afterL, preB, callLB, callLV, lateV, dstV, dynCall, ↓condE_t, ↓condE_f, ↓guardE_tt, ↓guardE_ff, ↓guardE_tf, ↓guardE_ft, frzDeep, deepArgs, deepArg, resB, cv, stepB, stepE, callD, tabD, snapD, snap1, snapC, snapId, snapIds, guardB, guardC, dstAt, aopR, one, pre, binR, intOpR, shiftOpR, unR, argFrm, evo, lkp, hlk, lenOf, asLst, idOf, bndA, srcOk, ofVal, ofCells, setCells, fillA, setElems, fieldsOf, fieldsEq, scalEq, isEq, AV.wr, AV.ok1, TK.agg, frz, frzs, frzA, frzArg, frzArgs, subA, subL, sub1, kp, kh, accOf, List.replicate, Nat.reduceAdd, Nat.reduceSub, Nat.reduceMul, Nat.reduceEqDiff, Nat.reduceLT, Nat.reduceLeDiff, Nat.reduceBEq, reduceIte, reduceCtorEq, eq_self, ne_eq, Int.reduceToNat, Int.reduceLT, Int.reduceLE, Int.reduceGT, Int.reduceGE, Int.reduceBEq, Int.reduceBNe, Int.reduceEq, Int.reduceNe]
                  have hT2 : restTo dqStep ⟨1, d, 1, 0⟩ (m, hand) (i + 1) = (mj, hT'.set i f) := by rw [restTo, hT, restAt]; dsimp only; rw [hE]
                  refine ⟨i + 1, by omega, by omega, ?_⟩
                  rw [hT2]
                  exact ⟨⟨rfl, rfl⟩, rfl⟩
            · have hj0 : j = 20 := by omega
              subst hj0
              have hE : restN dqStep ⟨1, d, 1, 0⟩ 20 (mT, hT'.getD i noneF) = (mj, f) := by rw [← hR]; rfl
              simp only [JA_all, hj20, hmj, g1, t2, hi0, hi3, hih, r0, r1, wi, zs, fs, sv, fv, Int.toNat_natCast, Nat.le_refl, rf1, List.set_set, T29, T30, T41, nb_self, nb_same, nb_l0, nb_r0, nb_lt, nb_gt, nb_lt0, nb_gt0, Nat.add_assoc, hfree_fr, hfree_cf, cv', cf_eta, frz_u, shC_dec, dC, T23, T28, T25, hfree_lu, hfree_l0, row0, row1, row2, row3, row4, row5, shI_dec, shN_dec, shB_dec, shM_dec, dI, dN, dB, dM, dU, dU_map, iv, bv, u, ms, ctx_T, ctx_C, ctx_P, T4, T3, T26, Option.bind_some, Option.bind_none, Option.map_some, List.length_map, List.length_set, String.reduceBEq, Int.toNat_natCast, Bool.true_beq, Bool.false_beq, T24, shF_dec, dF, fr_eta, Int.cast_ofNat_Int, Int.reduceSub, Int.reduceAdd, Int.reduceNeg, ev1, ev2, implies_true, undef, stepP, drawB, stepL, lateB, lateB0, rdsT, rdsAny, isRd, afterL, preB, callLB, callLV, lateV, dstV, dynCall, ↓condE_t, ↓condE_f, ↓guardE_tt, ↓guardE_ff, ↓guardE_tf, ↓guardE_ft, frzDeep, deepArgs, deepArg, resB, cv, stepB, stepE, callD, tabD, snapD, snap1, snapC, snapId, snapIds, guardB, guardC, dstAt, aopR, one, pre, binR, intOpR, shiftOpR, unR, argFrm, evo, lkp, hlk, lenOf, asLst, idOf, bndA, srcOk, ofVal, ofCells, setCells, fillA, setElems, fieldsOf, fieldsEq, scalEq, isEq, AV.wr, AV.ok1, TK.agg, frz, frzs, frzA, frzArg, frzArgs, subA, subL, sub1, kp, kh, accOf, List.replicate, Nat.reduceAdd, Nat.reduceSub, Nat.reduceMul, Nat.reduceEqDiff, Nat.reduceLT, Nat.reduceLeDiff, Nat.reduceBEq, reduceIte, reduceCtorEq, eq_self, ne_eq, Int.reduceToNat, Int.reduceLT, Int.reduceLE, Int.reduceGT, Int.reduceGE, Int.reduceBEq, Int.reduceBNe, Int.reduceEq, Int.reduceNe]
              have hT2 : restTo dqStep ⟨1, d, 1, 0⟩ (m, hand) (i + 1) = (mj, hT'.set i f) := by rw [restTo, hT, restAt]; dsimp only; rw [hE]
              refine ⟨i + 1, by omega, by omega, ?_⟩
              rw [hT2]
              exact ⟨⟨rfl, rfl⟩, rfl⟩
          · dsimp only [kh]
            rw [set_getD_self hiT]
            exact ⟨rfl, rfl, trivial⟩
        · simp only [JA_all, hih, t2, m0, m1, zs, fs, sv, fv, Int.toNat_natCast, Nat.le_refl, rf1, List.set_set, T29, T30, T41, nb_self, nb_same, nb_l0, nb_r0, nb_lt, nb_gt, nb_lt0, nb_gt0, Nat.add_assoc, hfree_fr, hfree_cf, cv', cf_eta, frz_u, shC_dec, dC, T23, T28, T25, hfree_lu, hfree_l0, row0, row1, row2, row3, row4, row5, shI_dec, shN_dec, shB_dec, shM_dec, dI, dN, dB, dM, dU, dU_map, iv, bv, u, ms, ctx_T, ctx_C, ctx_P, T4, T3, T26, Option.bind_some, Option.bind_none, Option.map_some, List.length_map, List.length_set, String.reduceBEq, Int.toNat_natCast, Bool.true_beq, Bool.false_beq, T24, shF_dec, dF, fr_eta, Int.cast_ofNat_Int, Int.reduceSub, Int.reduceAdd, Int.reduceNeg, ev1, ev2, implies_true, undef, stepP, drawB, stepL, lateB, lateB0, rdsT, rdsAny, isRd, afterL, preB, callLB, callLV, lateV, dstV, dynCall, ↓condE_t, ↓condE_f, ↓guardE_tt, ↓guardE_ff, ↓guardE_tf, ↓guardE_ft, frzDeep, deepArgs, deepArg, resB, cv, stepB, stepE, callD, tabD, snapD, snap1, snapC, snapId, snapIds, guardB, guardC, dstAt, aopR, one, pre, binR, intOpR, shiftOpR, unR, argFrm, evo, lkp, hlk, lenOf, asLst, idOf, bndA, srcOk, ofVal, ofCells, setCells, fillA, setElems, fieldsOf, fieldsEq, scalEq, isEq, AV.wr, AV.ok1, TK.agg, frz, frzs, frzA, frzArg, frzArgs, subA, subL, sub1, kp, kh, accOf, List.replicate, Nat.reduceAdd, Nat.reduceSub, Nat.reduceMul, Nat.reduceEqDiff, Nat.reduceLT, Nat.reduceLeDiff, Nat.reduceBEq, reduceIte, reduceCtorEq, eq_self, ne_eq, Int.reduceToNat, Int.reduceLT, Int.reduceLE, Int.reduceGT, Int.reduceGE, Int.reduceBEq, Int.reduceBNe, Int.reduceEq, Int.reduceNe]
          have hie : i = hand.length := by omega
          have hth : List.take hand.length (hT'.map fv) = hT'.map fv := List.take_of_length_le (by simp [t2])
          have hP : dRest d m hand = (mT, hT') := by rw [← hT, hie]; exact if_pos ⟨hc, hl⟩
          rw [hP, hth]
          exact ⟨of_eq_true (hf_f _), rfl, rfl⟩
    · have hl' : ((m.length : Int) != lSize ⟨1, d, 1, 0⟩) = true := by simpa using hl
      have hP : dRest d m hand = ([], []) := if_neg (fun h => hl h.2)
      rw [hP]
      simp only [Try.f15, Try.func32, Try.f32, inl, JA_all, hc, hl', fs, sv, fv, List.map_nil, rf1, List.set_set, T29, T30, T41, hfree_fr, hfree_cf, cv', cf_eta, frz_u, shC_dec, dC, T23, T28, T25, hfree_lu, hfree_l0, row0, row1, row2, row3, row4, row5, shI_dec, shN_dec, shB_dec, shM_dec, dI, dN, dB, dM, dU, dU_map, iv, bv, u, ms, ctx_T, ctx_C, ctx_P, T4, T3, T26, Option.bind_some, Option.bind_none, Option.map_some, List.length_map, List.length_set, String.reduceBEq, Int.toNat_natCast, Bool.true_beq, Bool.false_beq, T24, shF_dec, dF, fr_eta, Int.cast_ofNat_Int, Int.reduceSub, Int.reduceAdd, Int.reduceNeg, ev1, ev2, implies_true, undef, stepP, drawB, stepL, lateB, lateB0, rdsT, rdsAny, isRd, afterL, preB, callLB, callLV, lateV, dstV, dynCall, ↓condE_t, ↓condE_f, ↓guardE_tt, ↓guardE_ff, ↓guardE_tf, ↓guardE_ft, frzDeep, deepArgs, deepArg, resB, cv, stepB, stepE, callD, tabD, snapD, snap1, snapC, snapId, snapIds, guardB, guardC, dstAt, aopR, one, pre, binR, intOpR, shiftOpR, unR, argFrm, evo, lkp, hlk, lenOf, asLst, idOf, bndA, srcOk, ofVal, ofCells, setCells, fillA, setElems, fieldsOf, fieldsEq, scalEq, isEq, AV.wr, AV.ok1, TK.agg, frz, frzs, frzA, frzArg, frzArgs, subA, subL, sub1, kp, kh, accOf, List.replicate, Nat.reduceAdd, Nat.reduceSub, Nat.reduceMul, Nat.reduceEqDiff, Nat.reduceLT, Nat.reduceLeDiff, Nat.reduceBEq, reduceIte, reduceCtorEq, eq_self, ne_eq, Int.reduceToNat, Int.reduceLT, Int.reduceLE, Int.reduceGT, Int.reduceGE, Int.reduceBEq, Int.reduceBNe, Int.reduceEq, Int.reduceNe]
      all_goals ((repeat' apply And.intro) <;> first | rfl | omega | (show entryOk _ _ _ _ _ = true; kernel_rfl) | (show pivotOk _ _ = true; kernel_rfl) | decide)
  · have hc' : mayC ⟨1, d, 1, 0⟩ = false := by simpa using hc
    have hP : dRest d m hand = ([], []) := if_neg (fun h => hc h.1)
    rw [hP]
    simp only [Try.f15, Try.func32, Try.f32, inl, JA_all, hc', fs, sv, fv, List.map_nil, rf1, List.set_set, T29, T30, T41, hfree_fr, hfree_cf, cv', cf_eta, frz_u, shC_dec, dC, T23, T28, T25, hfree_lu, hfree_l0, row0, row1, row2, row3, row4, row5, shI_dec, shN_dec, shB_dec, shM_dec, dI, dN, dB, dM, dU, dU_map, iv, bv, u, ms, ctx_T, ctx_C, ctx_P, T4, T3, T26, Option.bind_some, Option.bind_none, Option.map_some, List.length_map, List.length_set, String.reduceBEq, Int.toNat_natCast, Bool.true_beq, Bool.false_beq, T24, shF_dec, dF, fr_eta, Int.cast_ofNat_Int, Int.reduceSub, Int.reduceAdd, Int.reduceNeg, ev1, ev2, implies_true, undef, stepP, drawB, stepL, lateB, lateB0, rdsT, rdsAny, isRd, afterL, preB, callLB, callLV, lateV, dstV, dynCall, ↓condE_t, ↓condE_f, ↓guardE_tt, ↓guardE_ff, ↓guardE_tf, ↓guardE_ft, frzDeep, deepArgs, deepArg, resB, cv, stepB, stepE, callD, tabD, snapD, snap1, snapC, snapId, snapIds, guardB, guardC, dstAt, aopR, one, pre, binR, intOpR, shiftOpR, unR, argFrm, evo, lkp, hlk, lenOf, asLst, idOf, bndA, srcOk, ofVal, ofCells, setCells, fillA, setElems, fieldsOf, fieldsEq, scalEq, isEq, AV.wr, AV.ok1, TK.agg, frz, frzs, frzA, frzArg, frzArgs, subA, subL, sub1, kp, kh, accOf, List.replicate, Nat.reduceAdd, Nat.reduceSub, Nat.reduceMul, Nat.reduceEqDiff, Nat.reduceLT, Nat.reduceLeDiff, Nat.reduceBEq, reduceIte, reduceCtorEq, eq_self, ne_eq, Int.reduceToNat, Int.reduceLT, Int.reduceLE, Int.reduceGT, Int.reduceGE, Int.reduceBEq, Int.reduceBNe, Int.reduceEq, Int.reduceNe]
    all_goals ((repeat' apply And.intro) <;> first | rfl | omega | (show entryOk _ _ _ _ _ = true; kernel_rfl) | (show pivotOk _ _ = true; kernel_rfl) | decide)
end Go.Vai
/- What all do at a deque keeps numbers in range. -/
namespace Go.Vai
open Go.RowKit
set_option linter.unusedVariables false
set_option linter.unusedSimpArgs false

structure UFr (f : Fr) : Prop where
  val : InU f.val
  x : InU f.x
  y : InU f.y
theorem u0 : InU 0 := ⟨by decide, by decide⟩
theorem none_ufr : UFr noneF := ⟨u0, u0, u0⟩
theorem cas_u {m : List Int} (h : InM m) (i a : Int) {v : Int} (hv : InU v) : InM (mCas m i a v) := by
  unfold mCas
  split
  · exact fun x hx => (List.mem_or_eq_of_mem_set hx).elim (h x) (fun e => e ▸ hv)
  · exact h
theorem dqStep_u {c : Cf} {m : List Int} {f : Fr} (h : InM m) (hf : UFr f) : InM (dqStep c m f).1 ∧ UFr (dqStep c m f).2 := by
  obtain ⟨v, x, y⟩ := hf
  unfold dqStep
  split
  · unfold pStep
    repeat' split
    all_goals first
      | exact ⟨h, ⟨v, x, y⟩⟩ | exact ⟨h, ⟨v, load_u h _, y⟩⟩ | exact ⟨h, ⟨v, u0, u0⟩⟩ | exact ⟨h, ⟨v, x, load_u h _⟩⟩ | exact ⟨store_u h v, ⟨v, x, y⟩⟩ | exact ⟨store_u h (wrapU_u _), ⟨v, u0, u0⟩⟩
  · split
    · unfold oStep
      repeat' split
      all_goals first
        | exact ⟨h, ⟨v, x, y⟩⟩ | exact ⟨h, ⟨v, wrapU_u _, y⟩⟩ | exact ⟨store_u h x, ⟨v, x, y⟩⟩ | exact ⟨h, ⟨v, x, load_u h _⟩⟩ | exact ⟨h, ⟨load_u h _, u0, u0⟩⟩ | exact ⟨h, ⟨load_u h _, x, y⟩⟩
        | exact ⟨cas_u h _ _ (wrapU_u _), ⟨v, x, y⟩⟩ | exact ⟨store_u h (wrapU_u _), ⟨v, u0, u0⟩⟩ | exact ⟨store_u h (wrapU_u _), ⟨u0, u0, u0⟩⟩
    · split
      · unfold sStep
        repeat' split
        all_goals first
          | exact ⟨h, ⟨v, x, y⟩⟩ | exact ⟨h, ⟨v, x, load_u h _⟩⟩ | exact ⟨h, ⟨u0, u0, u0⟩⟩ | exact ⟨h, ⟨v, load_u h _, y⟩⟩ | exact ⟨h, ⟨load_u h _, x, y⟩⟩ | exact ⟨cas_u h _ _ (wrapU_u _), ⟨v, u0, u0⟩⟩
      · exact ⟨h, ⟨v, x, y⟩⟩

def UFs (l : List Fr) : Prop := ∀ f ∈ l, UFr f
theorem UFs.get {l : List Fr} (h : UFs l) (i : Nat) : UFr (l.getD i noneF) := by
  rw [List.getD_eq_getElem?_getD]
  cases e : l[i]? with
  | none => exact none_ufr
  | some x => exact h x (List.mem_of_getElem? e)
theorem UFs.set {l : List Fr} (h : UFs l) (i : Nat) {x : Fr} (hx : UFr x) : UFs (l.set i x) := by
  intro y hy
  rcases List.mem_or_eq_of_mem_set hy with e | e
  · exact h y e
  · rw [e]; exact hx
theorem drestN_u {c : Cf} : ∀ (n : Nat) {s : List Int × Fr}, InM s.1 → UFr s.2 → InM (restN dqStep c n s).1 ∧ UFr (restN dqStep c n s).2
  | 0, s, h, hf => ⟨h, hf⟩
  | n + 1, s, h, hf => by
    unfold restN
    split
    · exact ⟨h, hf⟩
    · obtain ⟨g1, g2⟩ := dqStep_u (c := c) h hf
      exact drestN_u n g1 g2
theorem drestTo_u {c : Cf} {s : List Int × List Fr} (h : InM s.1) (hf : UFs s.2) : ∀ i : Nat, InM (restTo dqStep c s i).1 ∧ UFs (restTo dqStep c s i).2
  | 0 => ⟨h, hf⟩
  | i + 1 => by
    obtain ⟨h1, h2⟩ := drestTo_u h hf i
    obtain ⟨g1, g2⟩ := drestN_u (c := c) 20 (s := ((restTo dqStep c s i).1, (restTo dqStep c s i).2.getD i noneF)) h1 (h2.get i)
    exact ⟨g1, h2.set _ g2⟩

structure DU (s : Dl) : Prop where
  m : InM s.m
  own : ∀ x ∈ s.own, InU x.val
  hand : UFs s.hand
theorem nextO_u : ∀ l : List Fr, (∀ x ∈ l, InU x.val) → UFr (nextO l).1
  | [], _ => none_ufr
  | x :: r, h => by
    unfold nextO
    split
    · exact ⟨h x (by simp), u0, u0⟩
    · exact nextO_u r fun y hy => h y (by simp [hy])
theorem dHand_u {s : Dl} (h : DU s) (i : Nat) : UFr (dHand s i).1 := by
  unfold dHand
  split
  · unfold nextD
    split
    · exact ⟨u0, u0, u0⟩
    · exact nextO_u _ h.own
  · exact h.hand.get i
theorem dTurn_u {c : Cf} {n : Int} {s : Dl} (h : DU s) (i : Int) : DU (dTurn dqStep c n s i) := by
  have hown : ∀ x ∈ (dHand s i.toNat).2, InU x.val := fun x hx => h.own x ((dHand_suf s i.toNat).subset hx)
  obtain ⟨g1, g2⟩ := dqStep_u (c := c) h.m (dHand_u h i.toNat)
  unfold dTurn dRound
  dsimp only
  split
  · split
    · exact ⟨g1, hown, h.hand.set _ g2⟩
    · exact ⟨g1, hown, h.hand.set _ none_ufr⟩
  · exact h
theorem dStart_u {c : Cf} {n : Int} {own : List Fr} (h : ∀ x ∈ own, InU x.val) : DU (dStart c n own) := ⟨by
  intro x hx
  simp only [dStart, zeros, List.mem_replicate] at hx
  rw [hx.2]; exact u0, h, by
  intro x hx
  simp only [dStart, List.mem_replicate] at hx
  rw [hx.2]; exact none_ufr⟩
theorem dPlay_u {d n : Int} {own : List Fr} {who : List Int} (h : ∀ x ∈ own, InU x.val) : InM (dPlay d n own who).1 ∧ UFs (dPlay d n own who).2.2 := by
  unfold dPlay gDPlay
  split
  · have := dFold_inv (st := dqStep) (c := dqC d) (n := n) DU (dStart_u (c := dqC d) (n := n) h) (fun s i hs => dTurn_u hs i) who
    exact ⟨this.m, this.hand⟩
  · exact ⟨(fun x hx => by cases hx), (fun x hx => by cases hx)⟩
def uFb (f : Fr) : Bool := inUb f.val && inUb f.x && inUb f.y
theorem uFb_iff {f : Fr} : uFb f = true ↔ UFr f := by
  unfold uFb
  rw [Bool.and_eq_true, Bool.and_eq_true, inUb_iff, inUb_iff, inUb_iff]
  exact ⟨fun h => ⟨h.1.1, h.1.2, h.2⟩, fun h => ⟨⟨h.val, h.x⟩, h.y⟩⟩
theorem uFs_iff {l : List Fr} : l.all uFb = true ↔ UFs l := by
  rw [List.all_eq_true]
  exact ⟨fun h f hf => uFb_iff.1 (h f hf), fun h f hf => uFb_iff.2 (h f hf)⟩
theorem uM_iff {m : List Int} : m.all inUb = true ↔ InM m := by
  rw [List.all_eq_true]
  exact ⟨fun h f hf => inUb_iff.1 (h f hf), fun h f hf => inUb_iff.2 (h f hf)⟩
theorem uV_iff {l : List Fr} : l.all (fun f => inUb f.val) = true ↔ ∀ x ∈ l, InU x.val := by
  rw [List.all_eq_true]
  exact ⟨fun h f hf => inUb_iff.1 (h f hf), fun h f hf => inUb_iff.2 (h f hf)⟩
end Go.Vai
/- How what is at a deque's hand ends, as the document says. -/
namespace Go.Vai
open Go.RowKit Go.Proofs
set_option linter.unusedSimpArgs false
set_option linter.unusedVariables false
set_option maxHeartbeats 4000000
set_option maxRecDepth 100000

theorem rdrest_pure (d : Int) (m : List Int) (hand : List Fr) (hm : m.length ≤ 1000) (hh : hand.length ≤ 1000) (um : InM m) (uh : UFs hand) :
    PureC Try.prog 16 [iv d, ms m, fs hand] (.tup [ms (dRest d m hand).1, fs (dRest d m hand).2]) := by
  refine pure_sub okJA 1 Try.func16 rfl (by show 3 ≤ _; decide) ?_
  have e : dqC d = ⟨1, d, 1, 0⟩ := rfl
  by_cases hc : mayC ⟨1, d, 1, 0⟩ = true
  · by_cases hl : (m.length : Int) = lSize ⟨1, d, 1, 0⟩
    · have hl' : ((m.length : Int) != lSize ⟨1, d, 1, 0⟩) = false := by simpa using hl
      have hcap : hand.length * 56 ≤ 140737488355328 := by omega
      simp only [Try.f16, inl, JA_all, hc, hl', hm, hcap, fs, sv, fv, rf1, List.set_set, T29, T30, T41, hfree_fr, hfree_cf, cv', cf_eta, frz_u, shC_dec, dC, T23, T28, T25, hfree_lu, hfree_l0, row0, row1, row2, row3, row4, row5, shI_dec, shN_dec, shB_dec, shM_dec, dI, dN, dB, dM, dU, dU_map, iv, bv, u, ms, ctx_T, ctx_C, ctx_P, T4, T3, T26, Option.bind_some, Option.bind_none, Option.map_some, List.length_map, List.length_set, String.reduceBEq, Int.toNat_natCast, Bool.true_beq, Bool.false_beq, T24, shF_dec, dF, fr_eta, Int.cast_ofNat_Int, Int.reduceSub, Int.reduceAdd, Int.reduceNeg, ev1, ev2, implies_true, undef, stepP, drawB, stepL, lateB, lateB0, rdsT, rdsAny, isRd, afterL, preB, callLB, callLV, lateV, dstV, dynCall, ↓condE_t, ↓condE_f, ↓guardE_tt, ↓guardE_ff, ↓guardE_tf, ↓guardE_ft, frzDeep, deepArgs, deepArg, resB, cv, stepB, stepE, callD, tabD, snapD, snap1, snapC, snapId, snapIds, guardB, guardC, dstAt, aopR, one, pre, binR, intOpR, shiftOpR, unR, argFrm, evo, lkp, hlk, lenOf, asLst, idOf, bndA, srcOk, ofVal, ofCells, setCells, fillA, setElems, fieldsOf, fieldsEq, scalEq, isEq, AV.wr, AV.ok1, TK.agg, frz, frzs, frzA, frzArg, frzArgs, subA, subL, sub1, kp, kh, accOf, List.replicate, Nat.reduceAdd, Nat.reduceSub, Nat.reduceMul, Nat.reduceEqDiff, Nat.reduceLT, Nat.reduceLeDiff, Nat.reduceBEq, reduceIte, reduceCtorEq, eq_self, ne_eq, Int.reduceToNat, Int.reduceLT, Int.reduceLE, Int.reduceGT, Int.reduceGE, Int.reduceBEq, Int.reduceBNe, Int.reduceEq, Int.reduceNe]
      have rT := fun i => len_restTo len_dqStep ⟨1, d, 1, 0⟩ (m, hand) i
      have rU := fun i => drestTo_u (c := ⟨1, d, 1, 0⟩) (s := (m, hand)) um uh i
      refine WP.loop (ι := Nat) (fun i => hand.length - i) (fun i => i ≤ hand.length) (n := 72)
        (fr := fun i => [(11, iv i), (10, .arr 19 0 hand.length), (8, .ptr 4 0 0), (1, ms (restTo dqStep ⟨1, d, 1, 0⟩ (m, hand) i).1)])
        (hp := fun i => [(19, some ⟨false, 28, 7, (restTo dqStep ⟨1, d, 1, 0⟩ (m, hand) i).2.map fv⟩), (4, some ⟨false, 23, 4, [cv' ⟨1, d, 1, 0⟩]⟩)]) (N := 0) ?_ 0 (Nat.zero_le _) rfl (Nat.zero_le _) ⟨rfl, rfl, rfl, rfl, trivial⟩ ⟨rfl, rfl, trivial⟩
      intro i nx2 hi hN2 hid2
      have t1 : (restTo dqStep ⟨1, d, 1, 0⟩ (m, hand) i).1.length = m.length := (rT i).1
      have t2 : (restTo dqStep ⟨1, d, 1, 0⟩ (m, hand) i).2.length = hand.length := (rT i).2
      have m0 : 19 < nx2 := hid2 19 _ rfl
      have m1 : 4 < nx2 := hid2 4 _ rfl
      obtain ⟨u1, u2⟩ := rU i
      generalize hT : restTo dqStep ⟨1, d, 1, 0⟩ (m, hand) i = T at t1 t2 u1 u2 ⊢
      obtain ⟨mT, hT'⟩ := T
      dsimp only at t1 t2 u1 u2 ⊢
      refine WP.of okJA 1 (by rfl) ?_
      by_cases hih : (i : Int) < hand.length
      · have wi : IntKind.wrap .i64 ((i : Int) + 1) = ((i + 1 : Nat) : Int) := by rw [wrap_i (by omega) (by omega)]; omega
        have hiT : i < hT'.length := by omega
        simp only [JA_all, hih, t2, m0, m1, zs, fs, sv, fv, Int.toNat_natCast, Nat.le_refl, rf1, List.set_set, T29, T30, T41, nb_self, nb_same, nb_l0, nb_r0, nb_lt, nb_gt, nb_lt0, nb_gt0, Nat.add_assoc, hfree_fr, hfree_cf, cv', cf_eta, frz_u, shC_dec, dC, T23, T28, T25, hfree_lu, hfree_l0, row0, row1, row2, row3, row4, row5, shI_dec, shN_dec, shB_dec, shM_dec, dI, dN, dB, dM, dU, dU_map, iv, bv, u, ms, ctx_T, ctx_C, ctx_P, T4, T3, T26, Option.bind_some, Option.bind_none, Option.map_some, List.length_map, List.length_set, String.reduceBEq, Int.toNat_natCast, Bool.true_beq, Bool.false_beq, T24, shF_dec, dF, fr_eta, Int.cast_ofNat_Int, Int.reduceSub, Int.reduceAdd, Int.reduceNeg, ev1, ev2, implies_true, undef, stepP, drawB, stepL, lateB, lateB0, rdsT, rdsAny, isRd, afterL, preB, callLB, callLV, lateV, dstV, dynCall, ↓condE_t, ↓condE_f, ↓guardE_tt, ↓guardE_ff, ↓guardE_tf, ↓guardE_ft, frzDeep, deepArgs, deepArg, resB, cv, stepB, stepE, callD, tabD, snapD, snap1, snapC, snapId, snapIds, guardB, guardC, dstAt, aopR, one, pre, binR, intOpR, shiftOpR, unR, argFrm, evo, lkp, hlk, lenOf, asLst, idOf, bndA, srcOk, ofVal, ofCells, setCells, fillA, setElems, fieldsOf, fieldsEq, scalEq, isEq, AV.wr, AV.ok1, TK.agg, frz, frzs, frzA, frzArg, frzArgs, subA, subL, sub1, kp, kh, accOf, List.replicate, Nat.reduceAdd, Nat.reduceSub, Nat.reduceMul, Nat.reduceEqDiff, Nat.reduceLT, Nat.reduceLeDiff, Nat.reduceBEq, reduceIte, reduceCtorEq, eq_self, ne_eq, Int.reduceToNat, Int.reduceLT, Int.reduceLE, Int.reduceGT, Int.reduceGE, Int.reduceBEq, Int.reduceBNe, Int.reduceEq, Int.reduceNe]
        refine WP.loop (ι := Nat × List Int × Fr) (fun j => 20 - j.1) (fun j => j.1 ≤ 20 ∧ restN dqStep ⟨1, d, 1, 0⟩ (20 - j.1) j.2 = restN dqStep ⟨1, d, 1, 0⟩ 20 (mT, hT'.getD i noneF) ∧ j.2.1.length ≤ 1000 ∧ InM j.2.1 ∧ UFr j.2.2) (n := 72)
          (fr := fun j => [(12, iv j.1), (11, iv i), (11, iv i), (10, .arr 19 0 hand.length), (8, .ptr 4 0 0), (1, ms j.2.1)])
          (hp := fun j => [(19, some ⟨false, 28, 7, (hT'.set i j.2.2).map fv⟩), (4, some ⟨false, 23, 4, [cv' ⟨1, d, 1, 0⟩]⟩)]) (N := 0) ?_ (0, mT, hT'.getD i noneF) ⟨by dsimp only; omega, rfl, by dsimp only; omega, u1, u2.get i⟩ rfl (Nat.zero_le _) ⟨rfl, rfl, rfl, rfl, rfl, rfl, trivial⟩ ?_
        · rintro ⟨j, mj, f⟩ nx3 ⟨hj, hR, hmj, um2, uf2⟩ hN3 hid3
          dsimp only at hj hR hmj um2 uf2 hid3 ⊢
          have r0 : 19 < nx3 := hid3 19 _ rfl
          have r1 : 4 < nx3 := hid3 4 _ rfl
          have g1 := getD_set_f hiT f
          have hi0 : (0 : Int) ≤ (i : Int) := by omega
          have hi3 : i < hand.length := by omega
          have x1 : inUb f.x = true := inUb_iff.2 uf2.x
          have x2 : inUb f.y = true := inUb_iff.2 uf2.y
          refine WP.of okJA 1 (by rfl) ?_
          by_cases hj20 : (j : Int) < 20
          · have wj : IntKind.wrap .i64 ((j : Int) + 1) = ((j + 1 : Nat) : Int) := by rw [wrap_i (by omega) (by omega)]; omega
            by_cases ho : f.op = -1
            · have ho' : (f.op != -1) = false := by simpa using ho
              have hE : restN dqStep ⟨1, d, 1, 0⟩ 20 (mT, hT'.getD i noneF) = (mj, f) := by rw [← hR]; exact restN_stop (.inl ho)
              simp only [JA_all, hj20, ho', hmj, g1, t2, hi0, hi3, hih, r0, r1, wi, x1, x2, zs, fs, sv, fv, Int.toNat_natCast, Nat.le_refl, rf1, List.set_set, T29, T30, T41, nb_self, nb_same, nb_l0, nb_r0, nb_lt, nb_gt, nb_lt0, nb_gt0, Nat.add_assoc, hfree_fr, hfree_cf, cv', cf_eta, frz_u, shC_dec, dC, T23, T28, T25, hfree_lu, hfree_l0, row0, row1, row2, row3, row4, row5, shI_dec, shN_dec, shB_dec, shM_dec, dI, dN, dB, dM, dU, dU_map, iv, bv, u, ms, ctx_T, ctx_C, ctx_P, T4, T3, T26, Option.bind_some, Option.bind_none, Option.map_some, List.length_map, List.length_set, String.reduceBEq, Int.toNat_natCast, Bool.true_beq, Bool.false_beq, T24, shF_dec, dF, fr_eta, Int.cast_ofNat_Int, Int.reduceSub, Int.reduceAdd, Int.reduceNeg, ev1, ev2, implies_true, undef, stepP, drawB, stepL, lateB, lateB0, rdsT, rdsAny, isRd, afterL, preB, callLB, callLV, lateV, dstV, dynCall, ↓condE_t, ↓condE_f, ↓guardE_tt, ↓guardE_ff, ↓guardE_tf, ↓guardE_ft, frzDeep, deepArgs, deepArg, resB, cv, stepB, stepE, callD, tabD, snapD, snap1, snapC, snapId, snapIds, guardB, guardC, dstAt, aopR, one, pre, binR, intOpR, shiftOpR, unR, argFrm, evo, lkp, hlk, lenOf, asLst, idOf, bndA, srcOk, ofVal, ofCells, setCells, fillA, setElems, fieldsOf, fieldsEq, scalEq, isEq, AV.wr, AV.ok1, TK.agg, frz, frzs, frzA, frzArg, frzArgs, subA, subL, sub1, kp, kh, accOf, List.replicate, Nat.reduceAdd, Nat.reduceSub, Nat.reduceMul, Nat.reduceEqDiff, Nat.reduceLT, Nat.reduceLeDiff, Nat.reduceBEq, reduceIte, reduceCtorEq, eq_self, ne_eq, Int.reduceToNat, Int.reduceLT, Int.reduceLE, Int.reduceGT, Int.reduceGE, Int.reduceBEq, Int.reduceBNe, Int.reduceEq, Int.reduceNe]
              have hT2 : restTo dqStep ⟨1, d, 1, 0⟩ (m, hand) (i + 1) = (mj, hT'.set i f) := by rw [restTo, hT, restAt]; dsimp only; rw [hE]
              refine ⟨i + 1, by omega, by omega, ?_⟩
              rw [hT2]
              exact ⟨⟨rfl, rfl⟩, rfl⟩
            · have ho' : (f.op != -1) = true := by simpa using ho
              by_cases hr : f.res = 0
              · have hr' : (f.res != 0) = false := by simpa using hr
                obtain ⟨m', g, e2⟩ : ∃ x y, dqStep ⟨1, d, 1, 0⟩ mj f = (x, y) := ⟨_, _, rfl⟩
                have hm' : m'.length ≤ 1000 := by have := len_dqStep ⟨1, d, 1, 0⟩ mj f; rw [e2] at this; dsimp only at this; omega
                have hR' : restN dqStep ⟨1, d, 1, 0⟩ (20 - (j + 1)) (m', g) = restN dqStep ⟨1, d, 1, 0⟩ 20 (mT, hT'.getD i noneF) := by
                  rw [← hR, show 20 - j = 20 - (j + 1) + 1 by omega, restN_go (by simp [ho, hr])]; dsimp only; rw [e2]
                have uS := dqStep_u (c := ⟨1, d, 1, 0⟩) um2 uf2
                rw [e2] at uS
                simp only [JA_all, hj20, ho', hr', e2, hmj, g1, t2, hi0, hi3, hih, r0, r1, wj, x1, x2, zs, fs, sv, fv, Int.toNat_natCast, Nat.le_refl, rf1, List.set_set, T29, T30, T41, nb_self, nb_same, nb_l0, nb_r0, nb_lt, nb_gt, nb_lt0, nb_gt0, Nat.add_assoc, hfree_fr, hfree_cf, cv', cf_eta, frz_u, shC_dec, dC, T23, T28, T25, hfree_lu, hfree_l0, row0, row1, row2, row3, row4, row5, shI_dec, shN_dec, shB_dec, shM_dec, dI, dN, dB, dM, dU, dU_map, iv, bv, u, ms, ctx_T, ctx_C, ctx_P, T4, T3, T26, Option.bind_some, Option.bind_none, Option.map_some, List.length_map, List.length_set, String.reduceBEq, Int.toNat_natCast, Bool.true_beq, Bool.false_beq, T24, shF_dec, dF, fr_eta, Int.cast_ofNat_Int, Int.reduceSub, Int.reduceAdd, Int.reduceNeg, ev1, ev2, implies_true, undef, stepP, drawB, stepL, lateB, lateB0, rdsT, rdsAny, isRd, afterL, preB, callLB, callLV, lateV, dstV, dynCall, ↓condE_t, ↓condE_f, ↓guardE_tt, ↓guardE_ff, ↓guardE_tf, ↓guardE_ft, frzDeep, deepArgs, deepArg, resB, cv, stepB, stepE, callD, tabD, snapD, snap1, snapC, snapId, snapIds, guardB, guardC, dstAt, aopR, one, pre, binR, intOpR, shiftOpR, unR, argFrm, evo, lkp, hlk, lenOf, asLst, idOf, bndA, srcOk, ofVal, ofCells, setCells, fillA, setElems, fieldsOf, fieldsEq, scalEq, isEq, AV.wr, AV.ok1, TK.agg, frz, frzs, frzA, frzArg, frzArgs, subA, subL, sub1, kp, kh, accOf, List.replicate, Nat.reduceAdd, Nat.reduceSub, Nat.reduceMul, Nat.reduceEqDiff, Nat.reduceLT, Nat.reduceLeDiff, Nat.reduceBEq, reduceIte, reduceCtorEq, eq_self, ne_eq, Int.reduceToNat, Int.reduceLT, Int.reduceLE, Int.reduceGT, Int.reduceGE, Int.reduceBEq, Int.reduceBNe, Int.reduceEq, Int.reduceNe]
                repeat' apply And.intro
                any_goals (show entryOk _ _ _ _ _ = true; (repeat (first | exact entryOk_nil _ _ _ _ | (refine entryOk_step ?h ?_; case h => (first | (apply Or.inr; constructor <;> simp [meets] <;> omega; done) | (apply Or.inl; show anc _ _ _ _ = true; kernel_rfl))))))
                exact ⟨(j + 1, m', g), by dsimp only; omega, ⟨by dsimp only; omega, hR', hm', uS.1, uS.2⟩, ⟨rfl, rfl⟩, rfl⟩
              · have hr' : (f.res != 0) = true := by simpa using hr
                have hE : restN dqStep ⟨1, d, 1, 0⟩ 20 (mT, hT'.getD i noneF) = (mj, f) := by rw [← hR]; exact restN_stop (.inr hr)
                simp only [JA_all, hj20, ho', hr', hmj, g1, t2, hi0, hi3, hih, r0, r1, wi, x1, x2, zs, fs, sv, fv, Int.toNat_natCast, Nat.le_refl, rf1, List.set_set, T29, T30, T41, nb_self, nb_same, nb_l0, nb_r0, nb_lt, nb_gt, nb_lt0, nb_gt0, Nat.add_assoc, hfree_fr, hfree_cf, cv', cf_eta, frz_u, shC_dec, dC, T23, T28, T25, hfree_lu, hfree_l0, row0, row1, row2, row3, row4, row5, shI_dec, shN_dec, shB_dec, shM_dec, dI, dN, dB, dM, dU, dU_map, iv, bv, u, ms, ctx_T, ctx_C, ctx_P, T4, T3, T26, Option.bind_some, Option.bind_none, Option.map_some, List.length_map, List.length_set, String.reduceBEq, Int.toNat_natCast, Bool.true_beq, Bool.false_beq, T24, shF_dec, dF, fr_eta, Int.cast_ofNat_Int, Int.reduceSub, Int.reduceAdd, Int.reduceNeg, ev1, ev2, implies_true, undef, stepP, drawB, stepL, lateB, lateB0, rdsT, rdsAny, isRd, afterL, preB, callLB, callLV, lateV, dstV, dynCall, ↓condE_t, ↓condE_f, ↓guardE_tt, ↓guardE_ff, ↓guardE_tf, ↓guardE_ft, frzDeep, deepArgs, deepArg, resB, cv, stepB, stepE, callD, tabD, snapD, snap1, snapC, snapId, snapIds, guardB, guardC, dstAt, aopR, one, pre, binR, intOpR, shiftOpR, unR, argFrm, evo, lkp, hlk, lenOf, asLst, idOf, bndA, srcOk, ofVal, ofCells, setCells, fillA, setElems, fieldsOf, fieldsEq, scalEq, isEq, AV.wr, AV.ok1, TK.agg, frz, frzs, frzA, frzArg, frzArgs, subA, subL, sub1, kp, kh, accOf, List.replicate, Nat.reduceAdd, Nat.reduceSub, Nat.reduceMul, Nat.reduceEqDiff, Nat.reduceLT, Nat.reduceLeDiff, Nat.reduceBEq, reduceIte, reduceCtorEq, eq_self, ne_eq, Int.reduceToNat, Int.reduceLT, Int.reduceLE, Int.reduceGT, Int.reduceGE, Int.reduceBEq, Int.reduceBNe, Int.reduceEq, Int.reduceNe]
                have hT2 : restTo dqStep ⟨1, d, 1, 0⟩ (m, hand) (i + 1) = (mj, hT'.set i f) := by rw [restTo, hT, restAt]; dsimp only; rw [hE]
                refine ⟨i + 1, by omega, by omega, ?_⟩
                rw [hT2]
                exact ⟨⟨rfl, rfl⟩, rfl⟩
          · have hj0 : j = 20 := by omega
            subst hj0
            have hE : restN dqStep ⟨1, d, 1, 0⟩ 20 (mT, hT'.getD i noneF) = (mj, f) := by rw [← hR]; rfl
            simp only [JA_all, hj20, hmj, g1, t2, hi0, hi3, hih, r0, r1, wi, x1, x2, zs, fs, sv, fv, Int.toNat_natCast, Nat.le_refl, rf1, List.set_set, T29, T30, T41, nb_self, nb_same, nb_l0, nb_r0, nb_lt, nb_gt, nb_lt0, nb_gt0, Nat.add_assoc, hfree_fr, hfree_cf, cv', cf_eta, frz_u, shC_dec, dC, T23, T28, T25, hfree_lu, hfree_l0, row0, row1, row2, row3, row4, row5, shI_dec, shN_dec, shB_dec, shM_dec, dI, dN, dB, dM, dU, dU_map, iv, bv, u, ms, ctx_T, ctx_C, ctx_P, T4, T3, T26, Option.bind_some, Option.bind_none, Option.map_some, List.length_map, List.length_set, String.reduceBEq, Int.toNat_natCast, Bool.true_beq, Bool.false_beq, T24, shF_dec, dF, fr_eta, Int.cast_ofNat_Int, Int.reduceSub, Int.reduceAdd, Int.reduceNeg, ev1, ev2, implies_true, undef, stepP, drawB, stepL, lateB, lateB0, rdsT, rdsAny, isRd, afterL, preB, callLB, callLV, lateV, dstV, dynCall, ↓condE_t, ↓condE_f, ↓guardE_tt, ↓guardE_ff, ↓guardE_tf, ↓guardE_ft, frzDeep, deepArgs, deepArg, resB, cv, stepB, stepE, callD, tabD, snapD, snap1, snapC, snapId, snapIds, guardB, guardC, dstAt, aopR, one, pre, binR, intOpR, shiftOpR, unR, argFrm, evo, lkp, hlk, lenOf, asLst, idOf, bndA, srcOk, ofVal, ofCells, setCells, fillA, setElems, fieldsOf, fieldsEq, scalEq, isEq, AV.wr, AV.ok1, TK.agg, frz, frzs, frzA, frzArg, frzArgs, subA, subL, sub1, kp, kh, accOf, List.replicate, Nat.reduceAdd, Nat.reduceSub, Nat.reduceMul, Nat.reduceEqDiff, Nat.reduceLT, Nat.reduceLeDiff, Nat.reduceBEq, reduceIte, reduceCtorEq, eq_self, ne_eq, Int.reduceToNat, Int.reduceLT, Int.reduceLE, Int.reduceGT, Int.reduceGE, Int.reduceBEq, Int.reduceBNe, Int.reduceEq, Int.reduceNe]
            have hT2 : restTo dqStep ⟨1, d, 1, 0⟩ (m, hand) (i + 1) = (mj, hT'.set i f) := by rw [restTo, hT, restAt]; dsimp only; rw [hE]
            refine ⟨i + 1, by omega, by omega, ?_⟩
            rw [hT2]
            exact ⟨⟨rfl, rfl⟩, rfl⟩
        · dsimp only [kh]
          rw [set_getD_self hiT]
          exact ⟨rfl, rfl, trivial⟩
      · simp only [JA_all, hih, t2, m0, m1, zs, fs, sv, fv, Int.toNat_natCast, Nat.le_refl, rf1, List.set_set, T29, T30, T41, nb_self, nb_same, nb_l0, nb_r0, nb_lt, nb_gt, nb_lt0, nb_gt0, Nat.add_assoc, hfree_fr, hfree_cf, cv', cf_eta, frz_u, shC_dec, dC, T23, T28, T25, hfree_lu, hfree_l0, row0, row1, row2, row3, row4, row5, shI_dec, shN_dec, shB_dec, shM_dec, dI, dN, dB, dM, dU, dU_map, iv, bv, u, ms, ctx_T, ctx_C, ctx_P, T4, T3, T26, Option.bind_some, Option.bind_none, Option.map_some, List.length_map, List.length_set, String.reduceBEq, Int.toNat_natCast, Bool.true_beq, Bool.false_beq, T24, shF_dec, dF, fr_eta, Int.cast_ofNat_Int, Int.reduceSub, Int.reduceAdd, Int.reduceNeg, ev1, ev2, implies_true, undef, stepP, drawB, stepL, lateB, lateB0, rdsT, rdsAny, isRd, afterL, preB, callLB, callLV, lateV, dstV, dynCall, ↓condE_t, ↓condE_f, ↓guardE_tt, ↓guardE_ff, ↓guardE_tf, ↓guardE_ft, frzDeep, deepArgs, deepArg, resB, cv, stepB, stepE, callD, tabD, snapD, snap1, snapC, snapId, snapIds, guardB, guardC, dstAt, aopR, one, pre, binR, intOpR, shiftOpR, unR, argFrm, evo, lkp, hlk, lenOf, asLst, idOf, bndA, srcOk, ofVal, ofCells, setCells, fillA, setElems, fieldsOf, fieldsEq, scalEq, isEq, AV.wr, AV.ok1, TK.agg, frz, frzs, frzA, frzArg, frzArgs, subA, subL, sub1, kp, kh, accOf, List.replicate, Nat.reduceAdd, Nat.reduceSub, Nat.reduceMul, Nat.reduceEqDiff, Nat.reduceLT, Nat.reduceLeDiff, Nat.reduceBEq, reduceIte, reduceCtorEq, eq_self, ne_eq, Int.reduceToNat, Int.reduceLT, Int.reduceLE, Int.reduceGT, Int.reduceGE, Int.reduceBEq, Int.reduceBNe, Int.reduceEq, Int.reduceNe]
        have hie : i = hand.length := by omega
        have hth : List.take hand.length (hT'.map fv) = hT'.map fv := List.take_of_length_le (by simp [t2])
        have hP : dRest d m hand = (mT, hT') := by rw [← hT, hie]; exact if_pos ⟨hc, hl⟩
        rw [hP, hth]
        exact ⟨of_eq_true (hf_f _), rfl, rfl⟩
    · have hl' : ((m.length : Int) != lSize ⟨1, d, 1, 0⟩) = true := by simpa using hl
      have hP : dRest d m hand = ([], []) := if_neg (fun h => hl h.2)
      rw [hP]
      simp only [Try.f16, inl, JA_all, hc, hl', fs, sv, fv, List.map_nil, rf1, List.set_set, T29, T30, T41, hfree_fr, hfree_cf, cv', cf_eta, frz_u, shC_dec, dC, T23, T28, T25, hfree_lu, hfree_l0, row0, row1, row2, row3, row4, row5, shI_dec, shN_dec, shB_dec, shM_dec, dI, dN, dB, dM, dU, dU_map, iv, bv, u, ms, ctx_T, ctx_C, ctx_P, T4, T3, T26, Option.bind_some, Option.bind_none, Option.map_some, List.length_map, List.length_set, String.reduceBEq, Int.toNat_natCast, Bool.true_beq, Bool.false_beq, T24, shF_dec, dF, fr_eta, Int.cast_ofNat_Int, Int.reduceSub, Int.reduceAdd, Int.reduceNeg, ev1, ev2, implies_true, undef, stepP, drawB, stepL, lateB, lateB0, rdsT, rdsAny, isRd, afterL, preB, callLB, callLV, lateV, dstV, dynCall, ↓condE_t, ↓condE_f, ↓guardE_tt, ↓guardE_ff, ↓guardE_tf, ↓guardE_ft, frzDeep, deepArgs, deepArg, resB, cv, stepB, stepE, callD, tabD, snapD, snap1, snapC, snapId, snapIds, guardB, guardC, dstAt, aopR, one, pre, binR, intOpR, shiftOpR, unR, argFrm, evo, lkp, hlk, lenOf, asLst, idOf, bndA, srcOk, ofVal, ofCells, setCells, fillA, setElems, fieldsOf, fieldsEq, scalEq, isEq, AV.wr, AV.ok1, TK.agg, frz, frzs, frzA, frzArg, frzArgs, subA, subL, sub1, kp, kh, accOf, List.replicate, Nat.reduceAdd, Nat.reduceSub, Nat.reduceMul, Nat.reduceEqDiff, Nat.reduceLT, Nat.reduceLeDiff, Nat.reduceBEq, reduceIte, reduceCtorEq, eq_self, ne_eq, Int.reduceToNat, Int.reduceLT, Int.reduceLE, Int.reduceGT, Int.reduceGE, Int.reduceBEq, Int.reduceBNe, Int.reduceEq, Int.reduceNe]
      all_goals ((repeat' apply And.intro) <;> first | rfl | omega | (show entryOk _ _ _ _ _ = true; kernel_rfl) | (show pivotOk _ _ = true; kernel_rfl) | decide)
  · have hc' : mayC ⟨1, d, 1, 0⟩ = false := by simpa using hc
    have hP : dRest d m hand = ([], []) := if_neg (fun h => hc h.1)
    rw [hP]
    simp only [Try.f16, inl, JA_all, hc', fs, sv, fv, List.map_nil, rf1, List.set_set, T29, T30, T41, hfree_fr, hfree_cf, cv', cf_eta, frz_u, shC_dec, dC, T23, T28, T25, hfree_lu, hfree_l0, row0, row1, row2, row3, row4, row5, shI_dec, shN_dec, shB_dec, shM_dec, dI, dN, dB, dM, dU, dU_map, iv, bv, u, ms, ctx_T, ctx_C, ctx_P, T4, T3, T26, Option.bind_some, Option.bind_none, Option.map_some, List.length_map, List.length_set, String.reduceBEq, Int.toNat_natCast, Bool.true_beq, Bool.false_beq, T24, shF_dec, dF, fr_eta, Int.cast_ofNat_Int, Int.reduceSub, Int.reduceAdd, Int.reduceNeg, ev1, ev2, implies_true, undef, stepP, drawB, stepL, lateB, lateB0, rdsT, rdsAny, isRd, afterL, preB, callLB, callLV, lateV, dstV, dynCall, ↓condE_t, ↓condE_f, ↓guardE_tt, ↓guardE_ff, ↓guardE_tf, ↓guardE_ft, frzDeep, deepArgs, deepArg, resB, cv, stepB, stepE, callD, tabD, snapD, snap1, snapC, snapId, snapIds, guardB, guardC, dstAt, aopR, one, pre, binR, intOpR, shiftOpR, unR, argFrm, evo, lkp, hlk, lenOf, asLst, idOf, bndA, srcOk, ofVal, ofCells, setCells, fillA, setElems, fieldsOf, fieldsEq, scalEq, isEq, AV.wr, AV.ok1, TK.agg, frz, frzs, frzA, frzArg, frzArgs, subA, subL, sub1, kp, kh, accOf, List.replicate, Nat.reduceAdd, Nat.reduceSub, Nat.reduceMul, Nat.reduceEqDiff, Nat.reduceLT, Nat.reduceLeDiff, Nat.reduceBEq, reduceIte, reduceCtorEq, eq_self, ne_eq, Int.reduceToNat, Int.reduceLT, Int.reduceLE, Int.reduceGT, Int.reduceGE, Int.reduceBEq, Int.reduceBNe, Int.reduceEq, Int.reduceNe]
    all_goals ((repeat' apply And.intro) <;> first | rfl | omega | (show entryOk _ _ _ _ _ = true; kernel_rfl) | (show pivotOk _ _ = true; kernel_rfl) | decide)
end Go.Vai
/- The owner's next call, as the program finds it. -/
namespace Go.Vai
open Go.RowKit Go.Proofs
set_option linter.unusedSimpArgs false
set_option linter.unusedVariables false
set_option maxHeartbeats 4000000
set_option maxRecDepth 100000

theorem kh_over {hp : Hp} {id : Nat} {x : Option Blk} : ∀ {B : Hp}, kh hp B → (∀ p ∈ B, p.1 ≠ id) → kh ((id, x) :: hp) B
  | [], _, _ => trivial
  | (t, y) :: r, h, hn => by
    refine ⟨?_, kh_over h.2 fun p hp => hn p (by simp [hp])⟩
    rw [hlk_cons, if_neg (hn (t, y) (by simp))]
    exact h.1

theorem kh_mem {hp : Hp} : ∀ {B : Hp}, (∀ p ∈ B, hlk hp p.1 = p.2) → kh hp B
  | [], _ => trivial
  | (t, y) :: r, h => ⟨h (t, y) (by simp), kh_mem fun p hp => h p (by simp [hp])⟩

theorem next_0 (ow : List Fr) (how : ow.length ≤ 1000) {hp : Hp} {nx : Nat} {R : AV → Hp → Nat → Prop} (B : Hp) (h0 : hlk hp 0 = some ⟨false, 29, 1, [fs ow]⟩) (hn : 0 < nx) (hB : kh hp B)
    (hB1 : ∀ p ∈ B, p.1 < nx ∧ p.1 ≠ 0 ∧ hlk B p.1 = p.2)
    (hr : ∀ hp' nx', nx ≤ nx' → hlk hp' 0 = some ⟨false, 29, 1, [fs (nextO ow).2]⟩ → (∀ p ∈ B, hlk hp' p.1 = p.2) → R (fv (nextO ow).1) hp' nx') :
    inl (ctx Try.prog rowsJA) 1 (Try.prog.funcs[37]?) [iv 0, .ptr 0 0 0] hp nx R := by
  simp only [fs] at h0
  simp only [Try.func37, Try.f37, inl, JA_all, h0, hn, fs, sv, fv, rf1, List.set_set, T29, T30, T41, nb_self, nb_same, nb_l0, nb_r0, nb_lt, nb_gt, nb_lt0, nb_gt0, Nat.add_assoc, hfree_fr, hfree_cf, cv', cf_eta, frz_u, shC_dec, dC, T23, T28, T25, hfree_lu, hfree_l0, row0, row1, row2, row3, row4, row5, shI_dec, shN_dec, shB_dec, shM_dec, dI, dN, dB, dM, dU, dU_map, iv, bv, u, ms, ctx_T, ctx_C, ctx_P, T4, T3, T26, Option.bind_some, Option.bind_none, Option.map_some, List.length_map, List.length_set, String.reduceBEq, Int.toNat_natCast, Bool.true_beq, Bool.false_beq, T24, shF_dec, dF, fr_eta, Int.cast_ofNat_Int, Int.reduceSub, Int.reduceAdd, Int.reduceNeg, ev1, ev2, implies_true, undef, stepP, drawB, stepL, lateB, lateB0, rdsT, rdsAny, isRd, afterL, preB, callLB, callLV, lateV, dstV, dynCall, ↓condE_t, ↓condE_f, ↓guardE_tt, ↓guardE_ff, ↓guardE_tf, ↓guardE_ft, frzDeep, deepArgs, deepArg, resB, cv, stepB, stepE, callD, tabD, snapD, snap1, snapC, snapId, snapIds, guardB, guardC, dstAt, aopR, one, pre, binR, intOpR, shiftOpR, unR, argFrm, evo, lkp, hlk, lenOf, asLst, idOf, bndA, srcOk, ofVal, ofCells, setCells, fillA, setElems, fieldsOf, fieldsEq, scalEq, isEq, AV.wr, AV.ok1, TK.agg, frz, frzs, frzA, frzArg, frzArgs, subA, subL, sub1, kp, kh, accOf, List.replicate, Nat.reduceAdd, Nat.reduceSub, Nat.reduceMul, Nat.reduceEqDiff, Nat.reduceLT, Nat.reduceLeDiff, Nat.reduceBEq, reduceIte, reduceCtorEq, eq_self, ne_eq, Int.reduceToNat, Int.reduceLT, Int.reduceLE, Int.reduceGT, Int.reduceGE, Int.reduceBEq, Int.reduceBNe, Int.reduceEq, Int.reduceNe]
  refine WP.loop (ι := List Fr) (fun r => r.length) (fun r => r.length ≤ ow.length ∧ nextO r = nextO ow) (n := 30)
    (fr := fun r => [(3, .ptr nx 0 0), (0, iv 0), (1, .ptr 0 0 0)])
    (hp := fun r => (nx, some ⟨false, 28, 7, [fv fr0]⟩) :: (0, some ⟨false, 29, 1, [fs r]⟩) :: B) (N := nx + 3) ?_ ow ⟨Nat.le_refl _, rfl⟩ rfl (Nat.le_refl _) ⟨rfl, rfl, rfl, trivial⟩ ?_
  · rintro r nx3 ⟨hro, hrn⟩ hN3 hid3
    have r0 : 0 < nx3 := by omega
    have r1 : nx < nx3 := by omega
    have lk : ∀ p ∈ B, p.1 < nx3 ∧ Nat.beq p.1 0 = false ∧ Nat.beq p.1 nx = false ∧ hlk B p.1 = p.2 := fun p hp => by
      obtain ⟨c1, c2, c3⟩ := hB1 p hp
      exact ⟨by omega, by rw [← Bool.not_eq_true, Nat.beq_eq]; exact c2, by rw [← Bool.not_eq_true, Nat.beq_eq]; omega, c3⟩
    refine WP.of okJA 2 (by rfl) ?_
    by_cases hr0 : r = []
    · subst hr0
      rw [← hrn] at hr
      simp only [nextO, fs, List.map_nil, noneF, fv] at hr
      simp only [JA_all, r0, r1, hn, noneF, List.map_nil, List.length_nil, Int.lt_irrefl, inl, fs, sv, fv, rf1, List.set_set, T29, T30, T41, nb_self, nb_same, nb_l0, nb_r0, nb_lt, nb_gt, nb_lt0, nb_gt0, Nat.add_assoc, hfree_fr, hfree_cf, cv', cf_eta, frz_u, shC_dec, dC, T23, T28, T25, hfree_lu, hfree_l0, row0, row1, row2, row3, row4, row5, shI_dec, shN_dec, shB_dec, shM_dec, dI, dN, dB, dM, dU, dU_map, iv, bv, u, ms, ctx_T, ctx_C, ctx_P, T4, T3, T26, Option.bind_some, Option.bind_none, Option.map_some, List.length_map, List.length_set, String.reduceBEq, Int.toNat_natCast, Bool.true_beq, Bool.false_beq, T24, shF_dec, dF, fr_eta, Int.cast_ofNat_Int, Int.reduceSub, Int.reduceAdd, Int.reduceNeg, ev1, ev2, implies_true, undef, stepP, drawB, stepL, lateB, lateB0, rdsT, rdsAny, isRd, afterL, preB, callLB, callLV, lateV, dstV, dynCall, ↓condE_t, ↓condE_f, ↓guardE_tt, ↓guardE_ff, ↓guardE_tf, ↓guardE_ft, frzDeep, deepArgs, deepArg, resB, cv, stepB, stepE, callD, tabD, snapD, snap1, snapC, snapId, snapIds, guardB, guardC, dstAt, aopR, one, pre, binR, intOpR, shiftOpR, unR, argFrm, evo, lkp, hlk, lenOf, asLst, idOf, bndA, srcOk, ofVal, ofCells, setCells, fillA, setElems, fieldsOf, fieldsEq, scalEq, isEq, AV.wr, AV.ok1, TK.agg, frz, frzs, frzA, frzArg, frzArgs, subA, subL, sub1, kp, kh, accOf, List.replicate, Nat.reduceAdd, Nat.reduceSub, Nat.reduceMul, Nat.reduceEqDiff, Nat.reduceLT, Nat.reduceLeDiff, Nat.reduceBEq, reduceIte, reduceCtorEq, eq_self, ne_eq, Int.reduceToNat, Int.reduceLT, Int.reduceLE, Int.reduceGT, Int.reduceGE, Int.reduceBEq, Int.reduceBNe, Int.reduceEq, Int.reduceNe]
      refine hr _ _ (by omega) ?_ (fun p hp => ?_)
      · simp only [hlk, r0, r1, hn, nb_self, nb_same, nb_l0, nb_r0, nb_lt, nb_gt, nb_lt0, nb_gt0, Nat.add_assoc]
      · obtain ⟨c1, c2, c3, c4⟩ := lk p hp
        simp only [hlk, c1, c2, c3, nb_self, nb_same, nb_l0, nb_r0, nb_lt, nb_gt, nb_lt0, nb_gt0, Nat.add_assoc]
        exact c4
    · have hrl : (r.length : Int) > 0 := by have := List.length_pos_iff.2 hr0; omega
      have hrl1 : (1 : Int) ≤ (r.length : Int) := by omega
      have hr1 : 0 < r.length := List.length_pos_iff.2 hr0
      have g0 := getD_f hr1
      have hcut : List.take (r.length - 1) (List.drop 1 (r.map fv)) = (r.drop 1).map fv := by rw [← List.map_drop, List.take_of_length_le (by simp)]
      have hrc : r = r.getD 0 fr0 :: r.drop 1 := by
        cases r with
        | nil => exact absurd rfl hr0
        | cons a l => rfl
      generalize r.getD 0 fr0 = x1 at g0 hrc
      by_cases h3 : x1.op = 0
      · have e3 : (x1.op == 0) = true := by simpa using h3
        have hnx : nextO ow = (⟨x1.op, 0, 0, x1.val, 0, 0, 0⟩, r.drop 1) := by rw [← hrn, hrc, nextO, if_pos (.inl h3)]; rfl
        rw [hnx] at hr
        simp only [fs, fv] at hr
        simp only [JA_all, r0, r1, hn, g0, hcut, hrl, hrl1, e3, len_fs, fBegin, inl, fs, sv, fv, rf1, List.set_set, T29, T30, T41, nb_self, nb_same, nb_l0, nb_r0, nb_lt, nb_gt, nb_lt0, nb_gt0, Nat.add_assoc, hfree_fr, hfree_cf, cv', cf_eta, frz_u, shC_dec, dC, T23, T28, T25, hfree_lu, hfree_l0, row0, row1, row2, row3, row4, row5, shI_dec, shN_dec, shB_dec, shM_dec, dI, dN, dB, dM, dU, dU_map, iv, bv, u, ms, ctx_T, ctx_C, ctx_P, T4, T3, T26, Option.bind_some, Option.bind_none, Option.map_some, List.length_map, List.length_set, String.reduceBEq, Int.toNat_natCast, Bool.true_beq, Bool.false_beq, T24, shF_dec, dF, fr_eta, Int.cast_ofNat_Int, Int.reduceSub, Int.reduceAdd, Int.reduceNeg, ev1, ev2, implies_true, undef, stepP, drawB, stepL, lateB, lateB0, rdsT, rdsAny, isRd, afterL, preB, callLB, callLV, lateV, dstV, dynCall, ↓condE_t, ↓condE_f, ↓guardE_tt, ↓guardE_ff, ↓guardE_tf, ↓guardE_ft, frzDeep, deepArgs, deepArg, resB, cv, stepB, stepE, callD, tabD, snapD, snap1, snapC, snapId, snapIds, guardB, guardC, dstAt, aopR, one, pre, binR, intOpR, shiftOpR, unR, argFrm, evo, lkp, hlk, lenOf, asLst, idOf, bndA, srcOk, ofVal, ofCells, setCells, fillA, setElems, fieldsOf, fieldsEq, scalEq, isEq, AV.wr, AV.ok1, TK.agg, frz, frzs, frzA, frzArg, frzArgs, subA, subL, sub1, kp, kh, accOf, List.replicate, Nat.reduceAdd, Nat.reduceSub, Nat.reduceMul, Nat.reduceEqDiff, Nat.reduceLT, Nat.reduceLeDiff, Nat.reduceBEq, reduceIte, reduceCtorEq, eq_self, ne_eq, Int.reduceToNat, Int.reduceLT, Int.reduceLE, Int.reduceGT, Int.reduceGE, Int.reduceBEq, Int.reduceBNe, Int.reduceEq, Int.reduceNe]
        refine ⟨⟨Int.le_refl _, Int.le_refl _⟩, hr _ _ (by omega) ?_ (fun p hp => ?_)⟩
        · simp only [hlk, r0, r1, hn, nb_self, nb_same, nb_l0, nb_r0, nb_lt, nb_gt, nb_lt0, nb_gt0, Nat.add_assoc]
        · obtain ⟨c1, c2, c3, c4⟩ := lk p hp
          simp only [hlk, c1, c2, c3, nb_self, nb_same, nb_l0, nb_r0, nb_lt, nb_gt, nb_lt0, nb_gt0, Nat.add_assoc]
          exact c4
      · have e3 : (x1.op == 0) = false := by simpa using h3
        by_cases h4 : x1.op = 1
        · have e4 : (x1.op == 1) = true := by simpa using h4
          have hnx : nextO ow = (⟨x1.op, 0, 0, x1.val, 0, 0, 0⟩, r.drop 1) := by rw [← hrn, hrc, nextO, if_pos (.inr h4)]; rfl
          rw [hnx] at hr
          simp only [fs, fv] at hr
          simp only [JA_all, r0, r1, hn, g0, hcut, hrl, hrl1, e3, e4, len_fs, fBegin, inl, fs, sv, fv, rf1, List.set_set, T29, T30, T41, nb_self, nb_same, nb_l0, nb_r0, nb_lt, nb_gt, nb_lt0, nb_gt0, Nat.add_assoc, hfree_fr, hfree_cf, cv', cf_eta, frz_u, shC_dec, dC, T23, T28, T25, hfree_lu, hfree_l0, row0, row1, row2, row3, row4, row5, shI_dec, shN_dec, shB_dec, shM_dec, dI, dN, dB, dM, dU, dU_map, iv, bv, u, ms, ctx_T, ctx_C, ctx_P, T4, T3, T26, Option.bind_some, Option.bind_none, Option.map_some, List.length_map, List.length_set, String.reduceBEq, Int.toNat_natCast, Bool.true_beq, Bool.false_beq, T24, shF_dec, dF, fr_eta, Int.cast_ofNat_Int, Int.reduceSub, Int.reduceAdd, Int.reduceNeg, ev1, ev2, implies_true, undef, stepP, drawB, stepL, lateB, lateB0, rdsT, rdsAny, isRd, afterL, preB, callLB, callLV, lateV, dstV, dynCall, ↓condE_t, ↓condE_f, ↓guardE_tt, ↓guardE_ff, ↓guardE_tf, ↓guardE_ft, frzDeep, deepArgs, deepArg, resB, cv, stepB, stepE, callD, tabD, snapD, snap1, snapC, snapId, snapIds, guardB, guardC, dstAt, aopR, one, pre, binR, intOpR, shiftOpR, unR, argFrm, evo, lkp, hlk, lenOf, asLst, idOf, bndA, srcOk, ofVal, ofCells, setCells, fillA, setElems, fieldsOf, fieldsEq, scalEq, isEq, AV.wr, AV.ok1, TK.agg, frz, frzs, frzA, frzArg, frzArgs, subA, subL, sub1, kp, kh, accOf, List.replicate, Nat.reduceAdd, Nat.reduceSub, Nat.reduceMul, Nat.reduceEqDiff, Nat.reduceLT, Nat.reduceLeDiff, Nat.reduceBEq, reduceIte, reduceCtorEq, eq_self, ne_eq, Int.reduceToNat, Int.reduceLT, Int.reduceLE, Int.reduceGT, Int.reduceGE, Int.reduceBEq, Int.reduceBNe, Int.reduceEq, Int.reduceNe]
          refine ⟨⟨Int.le_refl _, Int.le_refl _⟩, hr _ _ (by omega) ?_ (fun p hp => ?_)⟩
          · simp only [hlk, r0, r1, hn, nb_self, nb_same, nb_l0, nb_r0, nb_lt, nb_gt, nb_lt0, nb_gt0, Nat.add_assoc]
          · obtain ⟨c1, c2, c3, c4⟩ := lk p hp
            simp only [hlk, c1, c2, c3, nb_self, nb_same, nb_l0, nb_r0, nb_lt, nb_gt, nb_lt0, nb_gt0, Nat.add_assoc]
            exact c4
        · have e4 : (x1.op == 1) = false := by simpa using h4
          have hrn2 : nextO (r.drop 1) = nextO ow := by rw [← hrn, hrc, nextO, if_neg (by omega)]; rfl
          simp only [JA_all, r0, r1, hn, g0, hcut, hrl, hrl1, e3, e4, len_fs, fBegin, inl, fs, sv, fv, rf1, List.set_set, T29, T30, T41, nb_self, nb_same, nb_l0, nb_r0, nb_lt, nb_gt, nb_lt0, nb_gt0, Nat.add_assoc, hfree_fr, hfree_cf, cv', cf_eta, frz_u, shC_dec, dC, T23, T28, T25, hfree_lu, hfree_l0, row0, row1, row2, row3, row4, row5, shI_dec, shN_dec, shB_dec, shM_dec, dI, dN, dB, dM, dU, dU_map, iv, bv, u, ms, ctx_T, ctx_C, ctx_P, T4, T3, T26, Option.bind_some, Option.bind_none, Option.map_some, List.length_map, List.length_set, String.reduceBEq, Int.toNat_natCast, Bool.true_beq, Bool.false_beq, T24, shF_dec, dF, fr_eta, Int.cast_ofNat_Int, Int.reduceSub, Int.reduceAdd, Int.reduceNeg, ev1, ev2, implies_true, undef, stepP, drawB, stepL, lateB, lateB0, rdsT, rdsAny, isRd, afterL, preB, callLB, callLV, lateV, dstV, dynCall, ↓condE_t, ↓condE_f, ↓guardE_tt, ↓guardE_ff, ↓guardE_tf, ↓guardE_ft, frzDeep, deepArgs, deepArg, resB, cv, stepB, stepE, callD, tabD, snapD, snap1, snapC, snapId, snapIds, guardB, guardC, dstAt, aopR, one, pre, binR, intOpR, shiftOpR, unR, argFrm, evo, lkp, hlk, lenOf, asLst, idOf, bndA, srcOk, ofVal, ofCells, setCells, fillA, setElems, fieldsOf, fieldsEq, scalEq, isEq, AV.wr, AV.ok1, TK.agg, frz, frzs, frzA, frzArg, frzArgs, subA, subL, sub1, kp, kh, accOf, List.replicate, Nat.reduceAdd, Nat.reduceSub, Nat.reduceMul, Nat.reduceEqDiff, Nat.reduceLT, Nat.reduceLeDiff, Nat.reduceBEq, reduceIte, reduceCtorEq, eq_self, ne_eq, Int.reduceToNat, Int.reduceLT, Int.reduceLE, Int.reduceGT, Int.reduceGE, Int.reduceBEq, Int.reduceBNe, Int.reduceEq, Int.reduceNe]
          refine ⟨⟨Int.le_refl _, Int.le_refl _⟩, r.drop 1, by rw [List.length_drop]; omega, ⟨by rw [List.length_drop]; omega, hrn2⟩, rfl, kh_mem fun p hp => ?_⟩
          obtain ⟨c1, c2, c3, c4⟩ := lk p hp
          simp only [hlk, c1, c2, c3, nb_self, nb_same, nb_l0, nb_r0, nb_lt, nb_gt, nb_lt0, nb_gt0, Nat.add_assoc]
          exact c4
  · refine ⟨?_, ?_, ?_⟩
    · simp only [hlk, nb_self]; rfl
    · simp only [hlk, hn, h0, nb_self, nb_same, nb_l0, nb_r0, nb_lt, nb_gt, nb_lt0, nb_gt0, Nat.add_assoc]; rfl
    · exact kh_over hB fun p hp => by have := (hB1 p hp).1; omega
end Go.Vai
/- What all do at one deque, as the program does it. -/
namespace Go.Vai
open Go.RowKit Go.Proofs
set_option linter.unusedSimpArgs false
set_option linter.unusedVariables false
set_option maxHeartbeats 4000000
set_option maxRecDepth 100000

def repA (n j : Nat) : List Fr := List.replicate j noneF ++ List.replicate (n - j) fr0

theorem rep_take {n j : Nat} (h : j ≤ n) : List.take j ((repA n j).map fv) = (List.replicate j noneF).map fv := by
  rw [← List.map_take, repA, List.take_append_of_le_length (by simp), List.take_of_length_le (by simp)]
theorem rep_drop {n j : Nat} (q : Nat) : List.drop (j + q) ((repA n j).map fv) = (List.replicate (n - j - q) fr0).map fv := by
  rw [← List.map_drop, repA, List.drop_append, List.drop_eq_nil_of_le (by simp), List.nil_append, List.drop_replicate]
  simp
theorem rep_join (n j q : Nat) : (List.replicate j noneF).map fv ++ (List.replicate q noneF).map fv ++ (List.replicate (n - j - q) fr0).map fv = (repA n (j + q)).map fv := by
  rw [repA, List.map_append, ← List.replicate_append_replicate, List.map_append, Nat.sub_sub]

theorem dplay_pure (d n : Int) (own : List Fr) (who : List Int) (ho : own.length ≤ 1000) (hw : who.length ≤ 1000) :
    PureC Try.prog 13 [iv d, iv n, fs own, zs who] (.tup [ms (dPlay d n own who).1, fs (dPlay d n own who).2.1, fs (dPlay d n own who).2.2]) := by
  refine pure_top okJA 4 Try.func13 rfl (by show 4 ≤ _; decide) ?_
  have e : dqC d = ⟨1, d, 1, 0⟩ := rfl
  by_cases hm : mayC ⟨1, d, 1, 0⟩ = true
  · by_cases h1 : n < 0
    · have hP : dPlay d n own who = ([], [], []) := if_neg (fun h => by omega)
      rw [hP]
      simp only [Try.f13, Try.func32, Try.f32, inl, JA_all, hm, h1, zs, fs, sv, fv, List.map_nil, rf1, List.set_set, T29, T30, T41, top_T, top_C, top_P, inR_T, inR_C, inR_P, iter_T, iter_C, iter_P, iter_Y, r_rangeF, r_yld, r_start, r_rkN, r_rkR, r_rkE, r_endR, r_endM, r_endJ0, r_endJ2, r_endJ3, r_endJ5, r_endJ7, zipF, hfree_fr, hfree_cf, cv', cf_eta, frz_u, shC_dec, dC, T23, T28, T25, hfree_lu, hfree_l0, row0, row1, row2, row3, row4, row5, shI_dec, shN_dec, shB_dec, shM_dec, dI, dN, dB, dM, dU, dU_map, iv, bv, u, ms, ctx_T, ctx_C, ctx_P, T4, T3, T26, Option.bind_some, Option.bind_none, Option.map_some, List.length_map, List.length_set, String.reduceBEq, Int.toNat_natCast, Bool.true_beq, Bool.false_beq, T24, shF_dec, dF, fr_eta, Int.cast_ofNat_Int, Int.reduceSub, Int.reduceAdd, Int.reduceNeg, ev1, ev2, implies_true, undef, stepP, drawB, stepL, lateB, lateB0, rdsT, rdsAny, isRd, afterL, preB, callLB, callLV, lateV, dstV, dynCall, ↓condE_t, ↓condE_f, ↓guardE_tt, ↓guardE_ff, ↓guardE_tf, ↓guardE_ft, frzDeep, deepArgs, deepArg, resB, cv, stepB, stepE, callD, tabD, snapD, snap1, snapC, snapId, snapIds, guardB, guardC, dstAt, aopR, one, pre, binR, intOpR, shiftOpR, unR, argFrm, evo, lkp, hlk, lenOf, asLst, idOf, bndA, srcOk, ofVal, ofCells, setCells, fillA, setElems, fieldsOf, fieldsEq, scalEq, isEq, AV.wr, AV.ok1, TK.agg, frz, frzs, frzA, frzArg, frzArgs, subA, subL, sub1, kp, kh, accOf, List.replicate, Nat.reduceAdd, Nat.reduceSub, Nat.reduceMul, Nat.reduceEqDiff, Nat.reduceLT, Nat.reduceLeDiff, Nat.reduceBEq, reduceIte, reduceCtorEq, eq_self, ne_eq, Int.reduceToNat, Int.reduceLT, Int.reduceLE, Int.reduceGT, Int.reduceGE, Int.reduceBEq, Int.reduceBNe, Int.reduceEq, Int.reduceNe]
      all_goals ((repeat' apply And.intro) <;> first | rfl | omega | (show entryOk _ _ _ _ _ = true; kernel_rfl) | (show pivotOk _ _ = true; kernel_rfl) | decide)
    · by_cases h8 : n > 8
      · have hP : dPlay d n own who = ([], [], []) := if_neg (fun h => by omega)
        rw [hP]
        simp only [Try.f13, Try.func32, Try.f32, inl, JA_all, hm, h1, h8, zs, fs, sv, fv, List.map_nil, rf1, List.set_set, T29, T30, T41, top_T, top_C, top_P, inR_T, inR_C, inR_P, iter_T, iter_C, iter_P, iter_Y, r_rangeF, r_yld, r_start, r_rkN, r_rkR, r_rkE, r_endR, r_endM, r_endJ0, r_endJ2, r_endJ3, r_endJ5, r_endJ7, zipF, hfree_fr, hfree_cf, cv', cf_eta, frz_u, shC_dec, dC, T23, T28, T25, hfree_lu, hfree_l0, row0, row1, row2, row3, row4, row5, shI_dec, shN_dec, shB_dec, shM_dec, dI, dN, dB, dM, dU, dU_map, iv, bv, u, ms, ctx_T, ctx_C, ctx_P, T4, T3, T26, Option.bind_some, Option.bind_none, Option.map_some, List.length_map, List.length_set, String.reduceBEq, Int.toNat_natCast, Bool.true_beq, Bool.false_beq, T24, shF_dec, dF, fr_eta, Int.cast_ofNat_Int, Int.reduceSub, Int.reduceAdd, Int.reduceNeg, ev1, ev2, implies_true, undef, stepP, drawB, stepL, lateB, lateB0, rdsT, rdsAny, isRd, afterL, preB, callLB, callLV, lateV, dstV, dynCall, ↓condE_t, ↓condE_f, ↓guardE_tt, ↓guardE_ff, ↓guardE_tf, ↓guardE_ft, frzDeep, deepArgs, deepArg, resB, cv, stepB, stepE, callD, tabD, snapD, snap1, snapC, snapId, snapIds, guardB, guardC, dstAt, aopR, one, pre, binR, intOpR, shiftOpR, unR, argFrm, evo, lkp, hlk, lenOf, asLst, idOf, bndA, srcOk, ofVal, ofCells, setCells, fillA, setElems, fieldsOf, fieldsEq, scalEq, isEq, AV.wr, AV.ok1, TK.agg, frz, frzs, frzA, frzArg, frzArgs, subA, subL, sub1, kp, kh, accOf, List.replicate, Nat.reduceAdd, Nat.reduceSub, Nat.reduceMul, Nat.reduceEqDiff, Nat.reduceLT, Nat.reduceLeDiff, Nat.reduceBEq, reduceIte, reduceCtorEq, eq_self, ne_eq, Int.reduceToNat, Int.reduceLT, Int.reduceLE, Int.reduceGT, Int.reduceGE, Int.reduceBEq, Int.reduceBNe, Int.reduceEq, Int.reduceNe]
        all_goals ((repeat' apply And.intro) <;> first | rfl | omega | (show entryOk _ _ _ _ _ = true; kernel_rfl) | (show pivotOk _ _ = true; kernel_rfl) | decide)
      · obtain ⟨N, hN⟩ : ∃ N : Nat, n = N := ⟨n.toNat, by omega⟩
        obtain ⟨Z, hZ⟩ : ∃ Z : Int, Z = n + 1 := ⟨_, rfl⟩
        have hZ' : ((N + 1 : Nat) : Int) = Z := by omega
        have z0 : IntKind.wrap .i64 (n + 1) = Z := by rw [wrap_i (by omega) (by omega), hZ]
        have z2 : ¬ Z < 0 := by omega
        have z3 : IntKind.wrap .u64 Z = Z := by rw [IntKind.wrap_u64]; omega
        have z4 : 1 ≤ Z ∧ Z ≤ 9 := by omega
        have z4a : 1 ≤ Z := by omega
        have z4b : Z ≤ 9 := by omega
        have z5 : ¬ Z > 9223372036854775807 := by omega
        have z6 : IntKind.wrap .i64 Z = Z := by rw [wrap_i (by omega) (by omega)]
        have z7 : 0 ≤ Z := by omega
        have z8 : Z.toNat = N + 1 := by omega
        have z9 : (N + 1) * 24 ≤ 140737488355328 := by omega
        have z10 : (N + 1) * 7 ≤ 16777216 := by omega
        have z11 : (N + 1) * 56 ≤ 140737488355328 := by omega
        have z12 : IntKind.wrap .u64 1 = 1 := by decide
        simp only [Try.f13, List.take_nil, Try.func32, Try.f32,
          Try.func35, Try.f35, Try.func78, Try.f78,
          inl, JA_all, hm, h1, h8, z0, zs, fs, sv, fv, noneF, z2, z3, z4a, z4b, z5, z6, z7, z8, z9, z10, z11, z12, rf1, List.set_set, T29, T30, T41, T84, top_T, top_C, top_P, inR_T, inR_C, inR_P, iter_T, iter_C, iter_P, iter_Y, r_rangeF, r_yld, r_start, r_rkN, r_rkR, r_rkE, r_endR, r_endM, r_endJ0, r_endJ2, r_endJ3, r_endJ5, r_endJ7, zipF, hfree_fr, hfree_cf, cv', cf_eta, frz_u, shC_dec, dC, T23, T28, T25, hfree_lu, hfree_l0, row0, row1, row2, row3, row4, row5, shI_dec, shN_dec, shB_dec, shM_dec, dI, dN, dB, dM, dU, dU_map, iv, bv, u, ms, ctx_T, ctx_C, ctx_P, T4, T3, T26, Option.bind_some, Option.bind_none, Option.map_some, List.length_map, List.length_set, String.reduceBEq, Int.toNat_natCast, Bool.true_beq, Bool.false_beq, T24, shF_dec, dF, fr_eta, Int.cast_ofNat_Int, Int.reduceSub, Int.reduceAdd, Int.reduceNeg, ev1, ev2, implies_true, undef, stepP, drawB, stepL, lateB, lateB0, rdsT, rdsAny, isRd, afterL, preB, callLB, callLV, lateV, dstV, dynCall, ↓condE_t, ↓condE_f, ↓guardE_tt, ↓guardE_ff, ↓guardE_tf, ↓guardE_ft, frzDeep, deepArgs, deepArg, resB, cv, stepB, stepE, callD, tabD, snapD, snap1, snapC, snapId, snapIds, guardB, guardC, dstAt, aopR, one, pre, binR, intOpR, shiftOpR, unR, argFrm, evo, lkp, hlk, lenOf, asLst, idOf, bndA, srcOk, ofVal, ofCells, setCells, fillA, setElems, fieldsOf, fieldsEq, scalEq, isEq, AV.wr, AV.ok1, TK.agg, frz, frzs, frzA, frzArg, frzArgs, subA, subL, sub1, kp, kh, accOf, List.replicate, Nat.reduceAdd, Nat.reduceSub, Nat.reduceMul, Nat.reduceEqDiff, Nat.reduceLT, Nat.reduceLeDiff, Nat.reduceBEq, reduceIte, reduceCtorEq, eq_self, ne_eq, Int.reduceToNat, Int.reduceLT, Int.reduceLE, Int.reduceGT, Int.reduceGE, Int.reduceBEq, Int.reduceBNe, Int.reduceEq, Int.reduceNe]
        refine ⟨by simp, ?_⟩
        refine WP.loop (ι := Nat) (fun j => N + 1 - j) (fun j => 1 ≤ j ∧ j ≤ N + 1) (n := 48) (fr := fun j => [(8, iv j), (7, .arr 70 0 (N + 1)), (4, .v (.slice none 0 0)), (0, .arr 28 0 1), (1, iv Z)])
          (hp := fun j => [(70, some ⟨false, 28, 7, (repA (N + 1) j).map fv⟩), (25, some ⟨false, 25, 1, [ms (zeros (lSize ⟨1, d, 1, 0⟩).toNat)]⟩), (6, some ⟨false, 23, 4, [cv' ⟨1, d, 1, 0⟩]⟩), (0, some ⟨false, 29, 1, [fs own]⟩)]) (N := 76) ?_ 1 ⟨Nat.le_refl _, by omega⟩ rfl (Nat.le_refl _) ?_ ?_
        · rintro j nx ⟨hj1, hj2⟩ hN' hid
          have jj : 0 ≤ (j : Int) := by omega
          have jZ : (j : Int) ≤ Z := by omega
          have n1 : 70 < nx := by omega
          have n2 : 25 < nx := by omega
          have n3 : 6 < nx := by omega
          have n4 : 0 < nx := by omega
          refine WP.of okJA 1 (by rfl) ?_
          by_cases hjN : (j : Int) < Z
          · obtain ⟨q, hq⟩ : ∃ q, q = min (N + 1 - j) j := ⟨_, rfl⟩
            have tk1 := rep_take (n := N + 1) hj2
            have tk2 : List.take (N + 1 - j) ((List.replicate j noneF).map fv) = (List.replicate q noneF).map fv := by rw [← List.map_take, List.take_replicate, hq]
            have tk3 : ((List.replicate q noneF).map fv).length = q := by simp
            have tk4 := rep_drop (n := N + 1) (j := j) q
            have hrl : ((repA (N + 1) j).map fv).length = N + 1 := by simp [repA]; omega
            have hjq : j + (N + 1 - j) ≤ N + 1 := by omega
            have ww : IntKind.wrap .i64 ((j : Int) + (q : Int)) = ((j + q : Nat) : Int) := by rw [wrap_i (by omega) (by omega)]; omega
            simp only [JA_all, hZ', hjN, jj, jZ, hj2, tk1, tk2, tk3, tk4, hrl, hjq, ww, n1, n2, n3, n4, z2, z3, z4a, z4b, z5, z6, z7, z8, z9, z10, z11, z12, fs, Int.toNat_natCast, Int.le_refl, T29, T30, T84, nb_self, nb_same, nb_l0, nb_r0, nb_lt, nb_gt, nb_lt0, nb_gt0, Nat.add_assoc, Int.cast_ofNat_Int, Int.reduceSub, Int.reduceAdd, Int.reduceNeg, inl, sv, fv, hfree_fr, hfree_cf, cv', cf_eta, frz_u, shC_dec, dC, T23, T28, T25, hfree_lu, hfree_l0, row0, row1, row2, row3, row4, row5, shI_dec, shN_dec, shB_dec, shM_dec, dI, dN, dB, dM, dU, dU_map, iv, bv, u, ms, ctx_T, ctx_C, ctx_P, T4, T3, T26, Option.bind_some, Option.bind_none, Option.map_some, List.length_map, List.length_set, String.reduceBEq, Int.toNat_natCast, Bool.true_beq, Bool.false_beq, T24, shF_dec, dF, fr_eta, ev1, ev2, implies_true, undef, stepP, drawB, stepL, lateB, lateB0, rdsT, rdsAny, isRd, afterL, preB, callLB, callLV, lateV, dstV, dynCall, ↓condE_t, ↓condE_f, ↓guardE_tt, ↓guardE_ff, ↓guardE_tf, ↓guardE_ft, frzDeep, deepArgs, deepArg, resB, cv, stepB, stepE, callD, tabD, snapD, snap1, snapC, snapId, snapIds, guardB, guardC, dstAt, aopR, one, pre, binR, intOpR, shiftOpR, unR, argFrm, evo, lkp, hlk, lenOf, asLst, idOf, bndA, srcOk, ofVal, ofCells, setCells, fillA, setElems, fieldsOf, fieldsEq, scalEq, isEq, AV.wr, AV.ok1, TK.agg, frz, frzs, frzA, frzArg, frzArgs, subA, subL, sub1, kp, kh, accOf, List.replicate, Nat.reduceAdd, Nat.reduceSub, Nat.reduceMul, Nat.reduceEqDiff, Nat.reduceLT, Nat.reduceLeDiff, Nat.reduceBEq, reduceIte, reduceCtorEq, eq_self, ne_eq, Int.reduceToNat, Int.reduceLT, Int.reduceLE, Int.reduceGT, Int.reduceGE, Int.reduceBEq, Int.reduceBNe, Int.reduceEq, Int.reduceNe]
            have hj3 : j < N + 1 := by omega
            refine ⟨?_, j + q, by omega, ⟨by omega, by omega⟩, rfl, by rw [rep_join]⟩
            (repeat (first | exact entryOk_nil _ _ _ _ | (refine entryOk_step ?h ?_; case h => (first | (apply Or.inr; constructor <;> simp [meets] <;> omega; done) | (apply Or.inl; show anc _ _ _ _ = true; kernel_rfl)))))
          · have hjE : j = N + 1 := by omega
            subst hjE
            have hr : (repA (N + 1) (N + 1)).map fv = (List.replicate (N + 1) noneF).map fv := by rw [repA, Nat.sub_self]; simp
            rw [hr]
            generalize hB : List.replicate (N + 1) noneF = B
            simp only [JA_all, Try.func38, Try.f38, hZ', Int.lt_irrefl, hj2, n1, n2, n3, n4, z2, z3, z4a, z4b, z5, z6, z7, z8, z9, z10, z11, z12, fs, Int.toNat_natCast, Int.le_refl, T29, T30, T84, T60, nb_self, nb_same, nb_l0, nb_r0, nb_lt, nb_gt, nb_lt0, nb_gt0, Nat.add_assoc, Int.cast_ofNat_Int, Int.reduceSub, Int.reduceAdd, Int.reduceNeg, inl, sv, fv, top_T, top_C, top_P, inR_T, inR_C, inR_P, iter_T, iter_C, iter_P, iter_Y, r_rangeF, r_yld, r_start, r_rkN, r_rkR, r_rkE, r_endR, r_endM, r_endJ0, r_endJ2, r_endJ3, r_endJ5, r_endJ7, zipF, hfree_fr, hfree_cf, cv', cf_eta, frz_u, shC_dec, dC, T23, T28, T25, hfree_lu, hfree_l0, row0, row1, row2, row3, row4, row5, shI_dec, shN_dec, shB_dec, shM_dec, dI, dN, dB, dM, dU, dU_map, iv, bv, u, ms, ctx_T, ctx_C, ctx_P, T4, T3, T26, Option.bind_some, Option.bind_none, Option.map_some, List.length_map, List.length_set, String.reduceBEq, Int.toNat_natCast, Bool.true_beq, Bool.false_beq, T24, shF_dec, dF, fr_eta, ev1, ev2, implies_true, undef, stepP, drawB, stepL, lateB, lateB0, rdsT, rdsAny, isRd, afterL, preB, callLB, callLV, lateV, dstV, dynCall, ↓condE_t, ↓condE_f, ↓guardE_tt, ↓guardE_ff, ↓guardE_tf, ↓guardE_ft, frzDeep, deepArgs, deepArg, resB, cv, stepB, stepE, callD, tabD, snapD, snap1, snapC, snapId, snapIds, guardB, guardC, dstAt, aopR, one, pre, binR, intOpR, shiftOpR, unR, argFrm, evo, lkp, hlk, lenOf, asLst, idOf, bndA, srcOk, ofVal, ofCells, setCells, fillA, setElems, fieldsOf, fieldsEq, scalEq, isEq, AV.wr, AV.ok1, TK.agg, frz, frzs, frzA, frzArg, frzArgs, subA, subL, sub1, kp, kh, accOf, List.replicate, Nat.reduceAdd, Nat.reduceSub, Nat.reduceMul, Nat.reduceEqDiff, Nat.reduceLT, Nat.reduceLeDiff, Nat.reduceBEq, reduceIte, reduceCtorEq, eq_self, ne_eq, Int.reduceToNat, Int.reduceLT, Int.reduceLE, Int.reduceGT, Int.reduceGE, Int.reduceBEq, Int.reduceBNe, Int.reduceEq, Int.reduceNe]
            have n5 : 32 < nx := by omega
            refine WP.virtB (nx + 6) 28 7 (b := ⟨false, 29, 1, [.v (.slice none 0 0)]⟩) (by simp only [hlk, nb_self, nb_same, nb_l0, nb_r0, nb_lt, nb_gt, nb_lt0, nb_gt0, Nat.add_assoc, Nat.reduceBEq]) rfl (by decide) ?_ (im := (top_core okJA).im)
            refine WP.ranges okJA 2 (g := 79) rfl (enters_of Try.func79 (by decide) rfl) Try.func79 rfl (by show 3 ≤ _; decide) (by rfl) (by rfl) ?_
            intro Y hI hYF hYT hYC hYY
            simp only [Try.f79, inl, JA_all, hYT, hYC, n1, n2, n3, n4, n5, len_zs, T29, T30, sv, fv, nb_self, nb_same, nb_l0, nb_r0, nb_lt, nb_gt, nb_lt0, nb_gt0, Nat.add_assoc, top_T, top_C, top_P, inR_T, inR_C, inR_P, iter_T, iter_C, iter_P, iter_Y, r_rangeF, r_yld, r_start, r_rkN, r_rkR, r_rkE, r_endR, r_endM, r_endJ0, r_endJ2, r_endJ3, r_endJ5, r_endJ7, zipF, hfree_fr, hfree_cf, cv', cf_eta, frz_u, shC_dec, dC, T23, T28, T25, hfree_lu, hfree_l0, row0, row1, row2, row3, row4, row5, shI_dec, shN_dec, shB_dec, shM_dec, dI, dN, dB, dM, dU, dU_map, iv, bv, u, ms, ctx_T, ctx_C, ctx_P, T4, T3, T26, Option.bind_some, Option.bind_none, Option.map_some, List.length_map, List.length_set, String.reduceBEq, Int.toNat_natCast, Bool.true_beq, Bool.false_beq, T24, shF_dec, dF, fr_eta, ev1, ev2, implies_true, undef, stepP, drawB, stepL, lateB, lateB0, rdsT, rdsAny, isRd, afterL, preB, callLB, callLV, lateV, dstV, dynCall, ↓condE_t, ↓condE_f, ↓guardE_tt, ↓guardE_ff, ↓guardE_tf, ↓guardE_ft, frzDeep, deepArgs, deepArg, resB, cv, stepB, stepE, callD, tabD, snapD, snap1, snapC, snapId, snapIds, guardB, guardC, dstAt, aopR, one, pre, binR, intOpR, shiftOpR, unR, argFrm, evo, lkp, hlk, lenOf, asLst, idOf, bndA, srcOk, ofVal, ofCells, setCells, fillA, setElems, fieldsOf, fieldsEq, scalEq, isEq, AV.wr, AV.ok1, TK.agg, frz, frzs, frzA, frzArg, frzArgs, subA, subL, sub1, kp, kh, accOf, List.replicate, Nat.reduceAdd, Nat.reduceSub, Nat.reduceMul, Nat.reduceEqDiff, Nat.reduceLT, Nat.reduceLeDiff, Nat.reduceBEq, reduceIte, reduceCtorEq, eq_self, ne_eq, Int.reduceToNat, Int.reduceLT, Int.reduceLE, Int.reduceGT, Int.reduceGE, Int.reduceBEq, Int.reduceBNe, Int.reduceEq, Int.reduceNe]
            obtain ⟨S, hS⟩ := dplays len_dqStep ⟨1, d, 1, 0⟩ n own who
            refine WP.loop (ι := Nat × Nat) (fun i => who.length - i.1) (fun i => i.1 ≤ who.length ∧ (i.2 = nx + 18 ∨ nx + 23 ≤ i.2)) (n := 26)
              (fr := fun i => [(8, iv i.1), (7, iv who.length), (6, zs who), (0, .yld (nx + 19)), (2, .ptr (nx + 14) 0 0)])
              (hp := fun i => [(nx + 19, some (gBlk 0)), (nx + 6, some ⟨false, 29, 1, [.arr i.2 0 (S i.1).over.length]⟩), (i.2, some ⟨false, 28, 7, (S i.1).over.map fv⟩), (nx + 14, some ⟨false, 3, 1, [iv n]⟩),
                (nx + 8, some ⟨false, 60, 1, [.fn (.func 37) [] [.ptr 0 0 0]]⟩),
                (32, some ⟨false, 29, 1, [.arr 70 0 (N + 1)]⟩), (70, some ⟨false, 28, 7, (S i.1).hand.map fv⟩),
                (25, some ⟨false, 25, 1, [ms (S i.1).m]⟩), (6, some ⟨false, 23, 4, [cv' ⟨1, d, 1, 0⟩]⟩), (0, some ⟨false, 29, 1, [fs (S i.1).own]⟩)]) (N := nx + 23) ?_ (0, nx + 18) ⟨Nat.zero_le _, .inl rfl⟩ rfl (Nat.le_refl _) ?_ ?_ (im := hI.im)
            · rintro ⟨k, id⟩ nx2 ⟨hk, hj⟩ hN2 hid2
              dsimp only at hk hj hN2 hid2 ⊢
              have k0 : 0 < nx2 := by omega
              have k1 : 6 < nx2 := by omega
              have k2 : 25 < nx2 := by omega
              have k3 : 32 < nx2 := by omega
              have k4 : 70 < nx2 := by omega
              have k5 : nx + 6 < nx2 := by omega
              have k6 : nx + 8 < nx2 := by omega
              have k7 : nx + 14 < nx2 := by omega
              have k8 : nx + 19 < nx2 := by omega
              have bb : ∀ j : Nat, j < nx + 18 ∨ j = nx + 19 → Nat.beq j id = false ∧ Nat.beq id j = false := by
                intro j hjj
                constructor <;> (rw [← Bool.not_eq_true, Nat.beq_eq]; omega)
              obtain ⟨b0, d0⟩ := bb 0 (by omega)
              obtain ⟨b1, d1⟩ := bb 6 (by omega)
              obtain ⟨b2, d2⟩ := bb 25 (by omega)
              obtain ⟨b3, d3⟩ := bb 32 (by omega)
              obtain ⟨b4, d4⟩ := bb 70 (by omega)
              obtain ⟨b5, d5⟩ := bb (nx + 6) (by omega)
              obtain ⟨b6, d6⟩ := bb (nx + 8) (by omega)
              obtain ⟨b7, d7⟩ := bb (nx + 14) (by omega)
              obtain ⟨b8, d8⟩ := bb (nx + 19) (by omega)
              have hidn : id < nx2 := by
                rcases hj with e | e
                · omega
                · exact hid2 id ⟨false, 28, 7, (S k).over.map fv⟩ (by simp only [hlk, d5, d8, nb_self])
              have b9 : Nat.beq id nx2 = false := nb_lt0 hidn
              have d9 : ∀ a, Nat.beq id (nx2 + a) = false := fun a => nb_lt hidn a
              refine WP.ofX hI hYF (by rfl) ?_
              have hh := hS.hand k
              have hml := hS.m k
              have hov := hS.over k
              have hsf := hS.suf k
              have hs1 := hS.succ k
              have hla := hS.last
              generalize hSk : S k = s at hh hml hov hsf hs1 ⊢
              obtain ⟨m, ow, hand, over⟩ := s
              dsimp only at hh hml hov hsf hs1 ⊢
              have hol : ow.length ≤ 1000 := Nat.le_trans hsf.length_le ho
              have hh1 : hand.length = N + 1 := by omega
              have hlen : over.length ≤ 1000 := by omega
              have hcap : (over.length + 1) * 56 ≤ 140737488355328 := by omega
              by_cases hkw : k < who.length
              · have hkw' : (k : Int) < who.length := by omega
                have ww : IntKind.wrap .i64 ((k : Int) + 1) = ((k + 1 : Nat) : Int) := by rw [wrap_i (by omega) (by omega)]; omega
                have hk0 : (0 : Int) ≤ k := by omega
                have hg := getD_z hkw
                have hs2 := hs1 hkw
                generalize who.getD k 0 = i at hg hs2
                by_cases h0 : 0 ≤ i ∧ i ≤ n
                · obtain ⟨i', rfl⟩ := Int.eq_ofNat_of_zero_le h0.1
                  have hi0 : (0 : Int) ≤ (i' : Int) := by omega
                  have hi1 : (i' : Int) ≥ 0 := by omega
                  have hi2 : (i' : Int) ≤ n := h0.2
                  have hi3 : i' < N + 1 := by omega
                  have hi4 : (i' : Int) < ((N + 1 : Nat) : Int) := by omega
                  have hs3 : S (k + 1) = dRound dqStep ⟨1, d, 1, 0⟩ ⟨m, ow, hand, over⟩ i' := by rw [hs2, dTurn, if_pos (by omega), Int.toNat_natCast]
                  have g1 := getD_f (l := hand) (k := i') (by omega)
                  have g3 : hand.getD i' noneF = hand.getD i' fr0 := getD_in (by omega)
                  have hp : dHand ⟨m, ow, hand, over⟩ i' = if (hand.getD i' fr0).op = -1 then nextD i' ow else (hand.getD i' fr0, ow) := by rw [← g3]; rfl
                  generalize hand.getD i' fr0 = x at g1 hp
                  by_cases hx : x.op = -1
                  · have hx' : (x.op == -1) = true := by simpa using hx
                    rw [if_pos hx] at hp
                    by_cases hi9 : 0 < i'
                    · have hi9' : (i' : Int) > 0 := by omega
                      rw [nextD, if_pos hi9] at hp
                      obtain ⟨m', g, e2⟩ : ∃ a b, dqStep ⟨1, d, 1, 0⟩ m ⟨2, 0, 0, 0, 0, 0, 0⟩ = (a, b) := ⟨_, _, rfl⟩
                      have g5 := getD_set_f (l := hand) (k := i') (by omega) ⟨2, 0, 0, 0, 0, 0, 0⟩
                      have g6 := getD_set_f (l := hand) (k := i') (by omega) g
                      have hml' : m'.length ≤ 1000 := by have := len_dqStep ⟨1, d, 1, 0⟩ m ⟨2, 0, 0, 0, 0, 0, 0⟩; rw [e2] at this; dsimp only at this; omega
                      by_cases hr : g.res = 0
                      · have hr' : (g.res != 0) = false := by simpa using hr
                        have hs4 : S (k + 1) = ⟨m', ow, hand.set i' g, over⟩ := by rw [hs3, dRound, hp]; dsimp only; rw [e2]; exact if_pos hr
                        simp only [JA_all, hYT, hYC, hYY, r_yld, hg, hkw', ww, hk0, hi0, hi1, hi2, hi3, hi4, hi9', Try.func37, Try.f37, inl, g1, g5, g6, hx', e2, hr', fBegin, b0, b1, b2, b3, b4, b5, b6, b7, b8, d0, d1, d2, d3, d4, d5, d6, d7, d8, b9, d9, n1, n2, n3, n4, n5, k0, k1, k2, k3, k4, k5, k6, k7, k8, len_snocF, hh1, hml, hlen, hcap, Int.toNat_natCast, Int.le_refl, Nat.le_refl, zs, fs, sv, fv, rf1, List.set_set, T29, T30, T41, T60, nb_self, nb_same, nb_l0, nb_r0, nb_lt, nb_gt, nb_lt0, nb_gt0, Nat.add_assoc, top_T, top_C, top_P, inR_T, inR_C, inR_P, iter_T, iter_C, iter_P, iter_Y, r_rangeF, r_yld, r_start, r_rkN, r_rkR, r_rkE, r_endR, r_endM, r_endJ0, r_endJ2, r_endJ3, r_endJ5, r_endJ7, zipF, hfree_fr, hfree_cf, cv', cf_eta, frz_u, shC_dec, dC, T23, T28, T25, hfree_lu, hfree_l0, row0, row1, row2, row3, row4, row5, shI_dec, shN_dec, shB_dec, shM_dec, dI, dN, dB, dM, dU, dU_map, iv, bv, u, ms, ctx_T, ctx_C, ctx_P, T4, T3, T26, Option.bind_some, Option.bind_none, Option.map_some, List.length_map, List.length_set, String.reduceBEq, Int.toNat_natCast, Bool.true_beq, Bool.false_beq, T24, shF_dec, dF, fr_eta, Int.cast_ofNat_Int, Int.reduceSub, Int.reduceAdd, Int.reduceNeg, ev1, ev2, implies_true, undef, stepP, drawB, stepL, lateB, lateB0, rdsT, rdsAny, isRd, afterL, preB, callLB, callLV, lateV, dstV, dynCall, ↓condE_t, ↓condE_f, ↓guardE_tt, ↓guardE_ff, ↓guardE_tf, ↓guardE_ft, frzDeep, deepArgs, deepArg, resB, cv, stepB, stepE, callD, tabD, snapD, snap1, snapC, snapId, snapIds, guardB, guardC, dstAt, aopR, one, pre, binR, intOpR, shiftOpR, unR, argFrm, evo, lkp, hlk, lenOf, asLst, idOf, bndA, srcOk, ofVal, ofCells, setCells, fillA, setElems, fieldsOf, fieldsEq, scalEq, isEq, AV.wr, AV.ok1, TK.agg, frz, frzs, frzA, frzArg, frzArgs, subA, subL, sub1, kp, kh, accOf, List.replicate, Nat.reduceAdd, Nat.reduceSub, Nat.reduceMul, Nat.reduceEqDiff, Nat.reduceLT, Nat.reduceLeDiff, Nat.reduceBEq, reduceIte, reduceCtorEq, eq_self, ne_eq, Int.reduceToNat, Int.reduceLT, Int.reduceLE, Int.reduceGT, Int.reduceGE, Int.reduceBEq, Int.reduceBNe, Int.reduceEq, Int.reduceNe]
                        intro lz
                        repeat' apply And.intro
                        any_goals (show entryOk _ _ _ _ _ = true; (repeat (first | exact entryOk_nil _ _ _ _ | (refine entryOk_step ?h ?_; case h => (first | (apply Or.inr; constructor <;> simp [meets] <;> omega; done) | (apply Or.inl; show anc _ _ _ _ = true; kernel_rfl))))))
                        any_goals (show lateOk _ _ = true; kernel_rfl)
                        any_goals (show Option.isNone _ = true; rfl)
                        refine ⟨(k + 1, id), by dsimp only; omega, ⟨by dsimp only; omega, hj⟩, rfl, ?_⟩
                        dsimp only
                        rw [hs4]
                        dsimp only
                        refine ⟨rfl, ?_⟩
                        simp only [b0, b1, b2, b3, b4, b5, b6, b7, b8, d0, d1, d2, d3, d4, d5, d6, d7, d8, b9, d9, n1, n2, n3, n4, n5, k0, k1, k2, k3, k4, k5, k6, k7, k8, nb_self, nb_same, nb_l0, nb_r0, nb_lt, nb_gt, nb_lt0, nb_gt0, Nat.add_assoc]
                        refine ⟨?_, ?_, ?_, ?_⟩ <;> first | trivial | rfl
                      · have hr' : (g.res != 0) = true := by simpa using hr
                        have hs4 : S (k + 1) = ⟨m', ow, hand.set i' noneF, over ++ [withWho g i']⟩ := by rw [hs3, dRound, hp]; dsimp only; rw [e2]; exact if_neg hr
                        simp only [JA_all, hYT, hYC, hYY, r_yld, hg, hkw', ww, hk0, hi0, hi1, hi2, hi3, hi4, hi9', Try.func37, Try.f37, inl, g1, g5, g6, hx', e2, hr', fBegin, b0, b1, b2, b3, b4, b5, b6, b7, b8, d0, d1, d2, d3, d4, d5, d6, d7, d8, b9, d9, n1, n2, n3, n4, n5, k0, k1, k2, k3, k4, k5, k6, k7, k8, len_snocF, hh1, hml, hlen, hcap, Int.toNat_natCast, Int.le_refl, Nat.le_refl, zs, fs, sv, fv, rf1, List.set_set, T29, T30, T41, T60, nb_self, nb_same, nb_l0, nb_r0, nb_lt, nb_gt, nb_lt0, nb_gt0, Nat.add_assoc, top_T, top_C, top_P, inR_T, inR_C, inR_P, iter_T, iter_C, iter_P, iter_Y, r_rangeF, r_yld, r_start, r_rkN, r_rkR, r_rkE, r_endR, r_endM, r_endJ0, r_endJ2, r_endJ3, r_endJ5, r_endJ7, zipF, hfree_fr, hfree_cf, cv', cf_eta, frz_u, shC_dec, dC, T23, T28, T25, hfree_lu, hfree_l0, row0, row1, row2, row3, row4, row5, shI_dec, shN_dec, shB_dec, shM_dec, dI, dN, dB, dM, dU, dU_map, iv, bv, u, ms, ctx_T, ctx_C, ctx_P, T4, T3, T26, Option.bind_some, Option.bind_none, Option.map_some, List.length_map, List.length_set, String.reduceBEq, Int.toNat_natCast, Bool.true_beq, Bool.false_beq, T24, shF_dec, dF, fr_eta, Int.cast_ofNat_Int, Int.reduceSub, Int.reduceAdd, Int.reduceNeg, ev1, ev2, implies_true, undef, stepP, drawB, stepL, lateB, lateB0, rdsT, rdsAny, isRd, afterL, preB, callLB, callLV, lateV, dstV, dynCall, ↓condE_t, ↓condE_f, ↓guardE_tt, ↓guardE_ff, ↓guardE_tf, ↓guardE_ft, frzDeep, deepArgs, deepArg, resB, cv, stepB, stepE, callD, tabD, snapD, snap1, snapC, snapId, snapIds, guardB, guardC, dstAt, aopR, one, pre, binR, intOpR, shiftOpR, unR, argFrm, evo, lkp, hlk, lenOf, asLst, idOf, bndA, srcOk, ofVal, ofCells, setCells, fillA, setElems, fieldsOf, fieldsEq, scalEq, isEq, AV.wr, AV.ok1, TK.agg, frz, frzs, frzA, frzArg, frzArgs, subA, subL, sub1, kp, kh, accOf, List.replicate, Nat.reduceAdd, Nat.reduceSub, Nat.reduceMul, Nat.reduceEqDiff, Nat.reduceLT, Nat.reduceLeDiff, Nat.reduceBEq, reduceIte, reduceCtorEq, eq_self, ne_eq, Int.reduceToNat, Int.reduceLT, Int.reduceLE, Int.reduceGT, Int.reduceGE, Int.reduceBEq, Int.reduceBNe, Int.reduceEq, Int.reduceNe]
                        intro lz
                        repeat' apply And.intro
                        any_goals (show entryOk _ _ _ _ _ = true; (repeat (first | exact entryOk_nil _ _ _ _ | (refine entryOk_step ?h ?_; case h => (first | (apply Or.inr; constructor <;> simp [meets] <;> omega; done) | (apply Or.inl; show anc _ _ _ _ = true; kernel_rfl))))))
                        any_goals (show lateOk _ _ = true; kernel_rfl)
                        any_goals (show Option.isNone _ = true; rfl)
                        refine ⟨(k + 1, nx2 + 73), by dsimp only; omega, ⟨by dsimp only; omega, by dsimp only; omega⟩, rfl, ?_⟩
                        dsimp only
                        rw [hs4]
                        dsimp only
                        rw [len_snocF]
                        refine ⟨rfl, ?_⟩
                        simp only [b0, b1, b2, b3, b4, b5, b6, b7, b8, d0, d1, d2, d3, d4, d5, d6, d7, d8, b9, d9, n1, n2, n3, n4, n5, k0, k1, k2, k3, k4, k5, k6, k7, k8, nb_self, nb_same, nb_l0, nb_r0, nb_lt, nb_gt, nb_lt0, nb_gt0, Nat.add_assoc]
                        refine ⟨?_, ?_, ?_, ?_⟩ <;> first | trivial | rfl
                    · have hi90 : i' = 0 := by omega
                      subst hi90
                      have hi9' : ¬ ((0 : Nat) : Int) > 0 := by omega
                      have a2 : (0 : Int) ≤ n := by omega
                      have a4 : (0 : Int) < ((N + 1 : Nat) : Int) := by omega
                      rw [nextD, if_neg (by omega)] at hp
                      simp only [JA_all, hYT, hYC, hYY, r_yld, hg, hkw', ww, hk0, hi0, hi1, hi2, hi3, hi4, hi9', a2, a4, g1, hx', b0, b1, b2, b3, b4, b5, b6, b7, b8, d0, d1, d2, d3, d4, d5, d6, d7, d8, b9, d9, n1, n2, n3, n4, n5, k0, k1, k2, k3, k4, k5, k6, k7, k8, len_snocF, hh1, hml, hlen, hcap, Int.toNat_natCast, Int.le_refl, Nat.le_refl, zs, fs, sv, fv, rf1, List.set_set, T29, T30, T41, T60, nb_self, nb_same, nb_l0, nb_r0, nb_lt, nb_gt, nb_lt0, nb_gt0, Nat.add_assoc, top_T, top_C, top_P, inR_T, inR_C, inR_P, iter_T, iter_C, iter_P, iter_Y, r_rangeF, r_yld, r_start, r_rkN, r_rkR, r_rkE, r_endR, r_endM, r_endJ0, r_endJ2, r_endJ3, r_endJ5, r_endJ7, zipF, hfree_fr, hfree_cf, cv', cf_eta, frz_u, shC_dec, dC, T23, T28, T25, hfree_lu, hfree_l0, row0, row1, row2, row3, row4, row5, shI_dec, shN_dec, shB_dec, shM_dec, dI, dN, dB, dM, dU, dU_map, iv, bv, u, ms, ctx_T, ctx_C, ctx_P, T4, T3, T26, Option.bind_some, Option.bind_none, Option.map_some, List.length_map, List.length_set, String.reduceBEq, Int.toNat_natCast, Bool.true_beq, Bool.false_beq, T24, shF_dec, dF, fr_eta, Int.cast_ofNat_Int, Int.reduceSub, Int.reduceAdd, Int.reduceNeg, ev1, ev2, implies_true, undef, stepP, drawB, stepL, lateB, lateB0, rdsT, rdsAny, isRd, afterL, preB, callLB, callLV, lateV, dstV, dynCall, ↓condE_t, ↓condE_f, ↓guardE_tt, ↓guardE_ff, ↓guardE_tf, ↓guardE_ft, frzDeep, deepArgs, deepArg, resB, cv, stepB, stepE, callD, tabD, snapD, snap1, snapC, snapId, snapIds, guardB, guardC, dstAt, aopR, one, pre, binR, intOpR, shiftOpR, unR, argFrm, evo, lkp, hlk, lenOf, asLst, idOf, bndA, srcOk, ofVal, ofCells, setCells, fillA, setElems, fieldsOf, fieldsEq, scalEq, isEq, AV.wr, AV.ok1, TK.agg, frz, frzs, frzA, frzArg, frzArgs, subA, subL, sub1, kp, kh, accOf, List.replicate, Nat.reduceAdd, Nat.reduceSub, Nat.reduceMul, Nat.reduceEqDiff, Nat.reduceLT, Nat.reduceLeDiff, Nat.reduceBEq, reduceIte, reduceCtorEq, eq_self, ne_eq, Int.reduceToNat, Int.reduceLT, Int.reduceLE, Int.reduceGT, Int.reduceGE, Int.reduceBEq, Int.reduceBNe, Int.reduceEq, Int.reduceNe]
                      intro lz
                      refine ⟨rfl, by (show lateOk _ _ = true; kernel_rfl), ?_⟩
                      refine next_0 ow hol [(nx + 19, some (gBlk 1)), (nx + 6, some ⟨false, 29, 1, [.arr id 0 over.length]⟩), (id, some ⟨false, 28, 7, over.map fv⟩), (nx + 14, some ⟨false, 3, 1, [iv n]⟩),
                          (nx + 8, some ⟨false, 60, 1, [.fn (.func 37) [] [.ptr 0 0 0]]⟩),
                          (32, some ⟨false, 29, 1, [.arr 70 0 (N + 1)]⟩), (70, some ⟨false, 28, 7, hand.map fv⟩),
                          (25, some ⟨false, 25, 1, [ms m]⟩), (6, some ⟨false, 23, 4, [cv' ⟨1, d, 1, 0⟩]⟩)] ?_ (by omega) ?_ ?_ ?_
                      · simp only [hlk, b0, b1, b2, b3, b4, b5, b6, b7, b8, d0, d1, d2, d3, d4, d5, d6, d7, d8, b9, d9, n1, n2, n3, n4, n5, k0, k1, k2, k3, k4, k5, k6, k7, k8, hidn, fs, nb_self, nb_same, nb_l0, nb_r0, nb_lt, nb_gt, nb_lt0, nb_gt0, Nat.add_assoc, Nat.reduceBEq]
                      · simp only [kh, hlk, b0, b1, b2, b3, b4, b5, b6, b7, b8, d0, d1, d2, d3, d4, d5, d6, d7, d8, b9, d9, n1, n2, n3, n4, n5, k0, k1, k2, k3, k4, k5, k6, k7, k8, hidn, nb_self, nb_same, nb_l0, nb_r0, nb_lt, nb_gt, nb_lt0, nb_gt0, Nat.add_assoc, Nat.reduceBEq]
                        repeat' apply And.intro
                        all_goals first | trivial | rfl
                      · intro p hp
                        simp only [List.mem_cons, List.not_mem_nil, or_false] at hp
                        rcases hp with rfl | rfl | rfl | rfl | rfl | rfl | rfl | rfl | rfl
                        all_goals (refine ⟨by dsimp only; omega, by dsimp only; omega, ?_⟩; simp only [hlk, b0, b1, b2, b3, b4, b5, b6, b7, b8, d0, d1, d2, d3, d4, d5, d6, d7, d8, b9, d9, n1, n2, n3, n4, n5, k0, k1, k2, k3, k4, k5, k6, k7, k8, hidn, nb_self, nb_same, nb_l0, nb_r0, nb_lt, nb_gt, nb_lt0, nb_gt0, Nat.add_assoc, Nat.reduceBEq])
                      · intro hp' nx3 hN3 l0 hB'
                        have l1 := hB' _ (List.mem_cons_self ..)
                        have l2 := hB' _ (List.mem_cons_of_mem _ (List.mem_cons_self ..))
                        have l3 := hB' _ (List.mem_cons_of_mem _ (List.mem_cons_of_mem _ (List.mem_cons_self ..)))
                        have l4 := hB' _ (List.mem_cons_of_mem _ (List.mem_cons_of_mem _ (List.mem_cons_of_mem _ (List.mem_cons_self ..))))
                        have l5 := hB' _ (List.mem_cons_of_mem _ (List.mem_cons_of_mem _ (List.mem_cons_of_mem _ (List.mem_cons_of_mem _ (List.mem_cons_self ..)))))
                        have l6 := hB' _ (List.mem_cons_of_mem _ (List.mem_cons_of_mem _ (List.mem_cons_of_mem _ (List.mem_cons_of_mem _ (List.mem_cons_of_mem _ (List.mem_cons_self ..))))))
                        have l7 := hB' _ (List.mem_cons_of_mem _ (List.mem_cons_of_mem _ (List.mem_cons_of_mem _ (List.mem_cons_of_mem _ (List.mem_cons_of_mem _ (List.mem_cons_of_mem _ (List.mem_cons_self ..)))))))
                        have l8 := hB' _ (List.mem_cons_of_mem _ (List.mem_cons_of_mem _ (List.mem_cons_of_mem _ (List.mem_cons_of_mem _ (List.mem_cons_of_mem _ (List.mem_cons_of_mem _ (List.mem_cons_of_mem _ (List.mem_cons_self ..))))))))
                        have l9 := hB' _ (List.mem_cons_of_mem _ (List.mem_cons_of_mem _ (List.mem_cons_of_mem _ (List.mem_cons_of_mem _ (List.mem_cons_of_mem _ (List.mem_cons_of_mem _ (List.mem_cons_of_mem _ (List.mem_cons_of_mem _ (List.mem_cons_self ..)))))))))
                        clear hB'
                        have r0 : 0 < nx3 := by omega
                        have r1 : 6 < nx3 := by omega
                        have r2 : 25 < nx3 := by omega
                        have r3 : 32 < nx3 := by omega
                        have r4 : 70 < nx3 := by omega
                        have r5 : nx + 6 < nx3 := by omega
                        have r6 : nx + 8 < nx3 := by omega
                        have r7 : nx + 14 < nx3 := by omega
                        have r8 : nx + 19 < nx3 := by omega
                        have r10 : id < nx3 := by omega
                        obtain ⟨p1, p2, hpp⟩ : ∃ a b, nextO ow = (a, b) := ⟨_, _, rfl⟩
                        rw [hpp] at hp l0 ⊢
                        obtain ⟨m', g, e2⟩ : ∃ a b, dqStep ⟨1, d, 1, 0⟩ m p1 = (a, b) := ⟨_, _, rfl⟩
                        have g5 := getD_set_f (l := hand) (k := 0) (by omega) p1
                        have g6 := getD_set_f (l := hand) (k := 0) (by omega) g
                        have hml' : m'.length ≤ 1000 := by have := len_dqStep ⟨1, d, 1, 0⟩ m p1; rw [e2] at this; dsimp only at this; omega
                        simp only [fs, sv, fv] at l0 l1 l2 l3 l4 l5 l6 l7 l8 l9
                        by_cases hr : g.res = 0
                        · have hr' : (g.res != 0) = false := by simpa using hr
                          have hs4 : S (k + 1) = ⟨m', p2, hand.set 0 g, over⟩ := by rw [hs3, dRound, hp]; dsimp only; rw [e2]; exact if_pos hr
                          simp only [ret1, hg, hkw', ww, hk0, hi3, g1, g5, g6, hx', e2, hr', JA_all, hYT, hYC, hYY, r_yld, b0, b1, b2, b3, b4, b5, b6, b7, b8, d0, d1, d2, d3, d4, d5, d6, d7, d8, b9, d9, n1, n2, n3, n4, n5, k0, k1, k2, k3, k4, k5, k6, k7, k8, r0, r1, r2, r3, r4, r5, r6, r7, r8, r10, hidn, l0, l1, l2, l3, l4, l5, l6, l7, l8, l9, a2, a4, len_fs, len_snocF, hh1, hml, hlen, hcap, Int.toNat_natCast, Int.le_refl, Nat.le_refl, zs, fs, sv, fv, rf1, List.set_set, T29, T30, T41, T60, nb_self, nb_same, nb_l0, nb_r0, nb_lt, nb_gt, nb_lt0, nb_gt0, Nat.add_assoc, top_T, top_C, top_P, inR_T, inR_C, inR_P, iter_T, iter_C, iter_P, iter_Y, r_rangeF, r_yld, r_start, r_rkN, r_rkR, r_rkE, r_endR, r_endM, r_endJ0, r_endJ2, r_endJ3, r_endJ5, r_endJ7, zipF, hfree_fr, hfree_cf, cv', cf_eta, frz_u, shC_dec, dC, T23, T28, T25, hfree_lu, hfree_l0, row0, row1, row2, row3, row4, row5, shI_dec, shN_dec, shB_dec, shM_dec, dI, dN, dB, dM, dU, dU_map, iv, bv, u, ms, ctx_T, ctx_C, ctx_P, T4, T3, T26, Option.bind_some, Option.bind_none, Option.map_some, List.length_map, List.length_set, String.reduceBEq, Int.toNat_natCast, Bool.true_beq, Bool.false_beq, T24, shF_dec, dF, fr_eta, Int.cast_ofNat_Int, Int.reduceSub, Int.reduceAdd, Int.reduceNeg, ev1, ev2, implies_true, undef, stepP, drawB, stepL, lateB, lateB0, rdsT, rdsAny, isRd, afterL, preB, callLB, callLV, lateV, dstV, dynCall, ↓condE_t, ↓condE_f, ↓guardE_tt, ↓guardE_ff, ↓guardE_tf, ↓guardE_ft, frzDeep, deepArgs, deepArg, resB, cv, stepB, stepE, callD, tabD, snapD, snap1, snapC, snapId, snapIds, guardB, guardC, dstAt, aopR, one, pre, binR, intOpR, shiftOpR, unR, argFrm, evo, lkp, hlk, lenOf, asLst, idOf, bndA, srcOk, ofVal, ofCells, setCells, fillA, setElems, fieldsOf, fieldsEq, scalEq, isEq, AV.wr, AV.ok1, TK.agg, frz, frzs, frzA, frzArg, frzArgs, subA, subL, sub1, kp, kh, accOf, List.replicate, Nat.reduceAdd, Nat.reduceSub, Nat.reduceMul, Nat.reduceEqDiff, Nat.reduceLT, Nat.reduceLeDiff, Nat.reduceBEq, reduceIte, reduceCtorEq, eq_self, ne_eq, Int.reduceToNat, Int.reduceLT, Int.reduceLE, Int.reduceGT, Int.reduceGE, Int.reduceBEq, Int.reduceBNe, Int.reduceEq, Int.reduceNe]
                          try intro lz2
                          repeat' apply And.intro
                          any_goals (show entryOk _ _ _ _ _ = true; (repeat (first | exact entryOk_nil _ _ _ _ | (refine entryOk_step ?h ?_; case h => (first | (apply Or.inr; constructor <;> simp [meets] <;> omega; done) | (apply Or.inl; show anc _ _ _ _ = true; kernel_rfl))))))
                          refine ⟨(k + 1, id), by dsimp only; omega, ⟨by dsimp only; omega, hj⟩, rfl, ?_⟩
                          dsimp only
                          rw [hs4]
                          dsimp only
                          refine ⟨rfl, ?_⟩
                          simp only [b0, b1, b2, b3, b4, b5, b6, b7, b8, d0, d1, d2, d3, d4, d5, d6, d7, d8, b9, d9, n1, n2, n3, n4, n5, k0, k1, k2, k3, k4, k5, k6, k7, k8, r0, r1, r2, r3, r4, r5, r6, r7, r8, r10, hidn, l0, l1, l2, l3, l4, l5, l6, l7, l8, l9, nb_self, nb_same, nb_l0, nb_r0, nb_lt, nb_gt, nb_lt0, nb_gt0, Nat.add_assoc]
                          repeat' apply And.intro
                          all_goals first | trivial | rfl
                        · have hr' : (g.res != 0) = true := by simpa using hr
                          have hs4 : S (k + 1) = ⟨m', p2, hand.set 0 noneF, over ++ [withWho g ((0 : Nat) : Int)]⟩ := by rw [hs3, dRound, hp]; dsimp only; rw [e2]; exact if_neg hr
                          simp only [ret1, hg, hkw', ww, hk0, hi3, g1, g5, g6, hx', e2, hr', JA_all, hYT, hYC, hYY, r_yld, b0, b1, b2, b3, b4, b5, b6, b7, b8, d0, d1, d2, d3, d4, d5, d6, d7, d8, b9, d9, n1, n2, n3, n4, n5, k0, k1, k2, k3, k4, k5, k6, k7, k8, r0, r1, r2, r3, r4, r5, r6, r7, r8, r10, hidn, l0, l1, l2, l3, l4, l5, l6, l7, l8, l9, a2, a4, len_fs, len_snocF, hh1, hml, hlen, hcap, Int.toNat_natCast, Int.le_refl, Nat.le_refl, zs, fs, sv, fv, rf1, List.set_set, T29, T30, T41, T60, nb_self, nb_same, nb_l0, nb_r0, nb_lt, nb_gt, nb_lt0, nb_gt0, Nat.add_assoc, top_T, top_C, top_P, inR_T, inR_C, inR_P, iter_T, iter_C, iter_P, iter_Y, r_rangeF, r_yld, r_start, r_rkN, r_rkR, r_rkE, r_endR, r_endM, r_endJ0, r_endJ2, r_endJ3, r_endJ5, r_endJ7, zipF, hfree_fr, hfree_cf, cv', cf_eta, frz_u, shC_dec, dC, T23, T28, T25, hfree_lu, hfree_l0, row0, row1, row2, row3, row4, row5, shI_dec, shN_dec, shB_dec, shM_dec, dI, dN, dB, dM, dU, dU_map, iv, bv, u, ms, ctx_T, ctx_C, ctx_P, T4, T3, T26, Option.bind_some, Option.bind_none, Option.map_some, List.length_map, List.length_set, String.reduceBEq, Int.toNat_natCast, Bool.true_beq, Bool.false_beq, T24, shF_dec, dF, fr_eta, Int.cast_ofNat_Int, Int.reduceSub, Int.reduceAdd, Int.reduceNeg, ev1, ev2, implies_true, undef, stepP, drawB, stepL, lateB, lateB0, rdsT, rdsAny, isRd, afterL, preB, callLB, callLV, lateV, dstV, dynCall, ↓condE_t, ↓condE_f, ↓guardE_tt, ↓guardE_ff, ↓guardE_tf, ↓guardE_ft, frzDeep, deepArgs, deepArg, resB, cv, stepB, stepE, callD, tabD, snapD, snap1, snapC, snapId, snapIds, guardB, guardC, dstAt, aopR, one, pre, binR, intOpR, shiftOpR, unR, argFrm, evo, lkp, hlk, lenOf, asLst, idOf, bndA, srcOk, ofVal, ofCells, setCells, fillA, setElems, fieldsOf, fieldsEq, scalEq, isEq, AV.wr, AV.ok1, TK.agg, frz, frzs, frzA, frzArg, frzArgs, subA, subL, sub1, kp, kh, accOf, List.replicate, Nat.reduceAdd, Nat.reduceSub, Nat.reduceMul, Nat.reduceEqDiff, Nat.reduceLT, Nat.reduceLeDiff, Nat.reduceBEq, reduceIte, reduceCtorEq, eq_self, ne_eq, Int.reduceToNat, Int.reduceLT, Int.reduceLE, Int.reduceGT, Int.reduceGE, Int.reduceBEq, Int.reduceBNe, Int.reduceEq, Int.reduceNe]
                          try intro lz2
                          repeat' apply And.intro
                          any_goals (show entryOk _ _ _ _ _ = true; (repeat (first | exact entryOk_nil _ _ _ _ | (refine entryOk_step ?h ?_; case h => (first | (apply Or.inr; constructor <;> simp [meets] <;> omega; done) | (apply Or.inl; show anc _ _ _ _ = true; kernel_rfl))))))
                          refine ⟨(k + 1, nx3 + 37), by dsimp only; omega, ⟨by dsimp only; omega, by dsimp only; omega⟩, rfl, ?_⟩
                          dsimp only
                          rw [hs4]
                          dsimp only
                          rw [len_snocF]
                          refine ⟨rfl, ?_⟩
                          simp only [b0, b1, b2, b3, b4, b5, b6, b7, b8, d0, d1, d2, d3, d4, d5, d6, d7, d8, b9, d9, n1, n2, n3, n4, n5, k0, k1, k2, k3, k4, k5, k6, k7, k8, r0, r1, r2, r3, r4, r5, r6, r7, r8, r10, hidn, l0, l1, l2, l3, l4, l5, l6, l7, l8, l9, nb_self, nb_same, nb_l0, nb_r0, nb_lt, nb_gt, nb_lt0, nb_gt0, Nat.add_assoc]
                          repeat' apply And.intro
                          all_goals first | trivial | rfl
                  · have hx' : (x.op == -1) = false := by simpa using hx
                    rw [if_neg hx] at hp
                    obtain ⟨m', g, e2⟩ : ∃ a b, dqStep ⟨1, d, 1, 0⟩ m x = (a, b) := ⟨_, _, rfl⟩
                    have g6 := getD_set_f (l := hand) (k := i') (by omega) g
                    have hml' : m'.length ≤ 1000 := by have := len_dqStep ⟨1, d, 1, 0⟩ m x; rw [e2] at this; dsimp only at this; omega
                    by_cases hr : g.res = 0
                    · have hr' : (g.res != 0) = false := by simpa using hr
                      have hs4 : S (k + 1) = ⟨m', ow, hand.set i' g, over⟩ := by rw [hs3, dRound, hp]; dsimp only; rw [e2]; exact if_pos hr
                      simp only [JA_all, hYT, hYC, hYY, r_yld, hg, hkw', ww, hk0, hi0, hi1, hi2, hi3, hi4, g1, g6, hx', e2, hr', b0, b1, b2, b3, b4, b5, b6, b7, b8, d0, d1, d2, d3, d4, d5, d6, d7, d8, b9, d9, n1, n2, n3, n4, n5, k0, k1, k2, k3, k4, k5, k6, k7, k8, len_snocF, hh1, hml, hlen, hcap, Int.toNat_natCast, Int.le_refl, Nat.le_refl, zs, fs, sv, fv, rf1, List.set_set, T29, T30, T41, T60, nb_self, nb_same, nb_l0, nb_r0, nb_lt, nb_gt, nb_lt0, nb_gt0, Nat.add_assoc, top_T, top_C, top_P, inR_T, inR_C, inR_P, iter_T, iter_C, iter_P, iter_Y, r_rangeF, r_yld, r_start, r_rkN, r_rkR, r_rkE, r_endR, r_endM, r_endJ0, r_endJ2, r_endJ3, r_endJ5, r_endJ7, zipF, hfree_fr, hfree_cf, cv', cf_eta, frz_u, shC_dec, dC, T23, T28, T25, hfree_lu, hfree_l0, row0, row1, row2, row3, row4, row5, shI_dec, shN_dec, shB_dec, shM_dec, dI, dN, dB, dM, dU, dU_map, iv, bv, u, ms, ctx_T, ctx_C, ctx_P, T4, T3, T26, Option.bind_some, Option.bind_none, Option.map_some, List.length_map, List.length_set, String.reduceBEq, Int.toNat_natCast, Bool.true_beq, Bool.false_beq, T24, shF_dec, dF, fr_eta, Int.cast_ofNat_Int, Int.reduceSub, Int.reduceAdd, Int.reduceNeg, ev1, ev2, implies_true, undef, stepP, drawB, stepL, lateB, lateB0, rdsT, rdsAny, isRd, afterL, preB, callLB, callLV, lateV, dstV, dynCall, ↓condE_t, ↓condE_f, ↓guardE_tt, ↓guardE_ff, ↓guardE_tf, ↓guardE_ft, frzDeep, deepArgs, deepArg, resB, cv, stepB, stepE, callD, tabD, snapD, snap1, snapC, snapId, snapIds, guardB, guardC, dstAt, aopR, one, pre, binR, intOpR, shiftOpR, unR, argFrm, evo, lkp, hlk, lenOf, asLst, idOf, bndA, srcOk, ofVal, ofCells, setCells, fillA, setElems, fieldsOf, fieldsEq, scalEq, isEq, AV.wr, AV.ok1, TK.agg, frz, frzs, frzA, frzArg, frzArgs, subA, subL, sub1, kp, kh, accOf, List.replicate, Nat.reduceAdd, Nat.reduceSub, Nat.reduceMul, Nat.reduceEqDiff, Nat.reduceLT, Nat.reduceLeDiff, Nat.reduceBEq, reduceIte, reduceCtorEq, eq_self, ne_eq, Int.reduceToNat, Int.reduceLT, Int.reduceLE, Int.reduceGT, Int.reduceGE, Int.reduceBEq, Int.reduceBNe, Int.reduceEq, Int.reduceNe]
                      intro lz
                      repeat' apply And.intro
                      any_goals (show entryOk _ _ _ _ _ = true; (repeat (first | exact entryOk_nil _ _ _ _ | (refine entryOk_step ?h ?_; case h => (first | (apply Or.inr; constructor <;> simp [meets] <;> omega; done) | (apply Or.inl; show anc _ _ _ _ = true; kernel_rfl))))))
                      refine ⟨(k + 1, id), by dsimp only; omega, ⟨by dsimp only; omega, hj⟩, rfl, ?_⟩
                      dsimp only
                      rw [hs4]
                      dsimp only
                      refine ⟨rfl, ?_⟩
                      simp only [b0, b1, b2, b3, b4, b5, b6, b7, b8, d0, d1, d2, d3, d4, d5, d6, d7, d8, b9, d9, n1, n2, n3, n4, n5, k0, k1, k2, k3, k4, k5, k6, k7, k8, nb_self, nb_same, nb_l0, nb_r0, nb_lt, nb_gt, nb_lt0, nb_gt0, Nat.add_assoc]
                      refine ⟨?_, ?_, ?_, ?_⟩ <;> first | trivial | rfl
                    · have hr' : (g.res != 0) = true := by simpa using hr
                      have hs4 : S (k + 1) = ⟨m', ow, hand.set i' noneF, over ++ [withWho g i']⟩ := by rw [hs3, dRound, hp]; dsimp only; rw [e2]; exact if_neg hr
                      simp only [JA_all, hYT, hYC, hYY, r_yld, hg, hkw', ww, hk0, hi0, hi1, hi2, hi3, hi4, g1, g6, hx', e2, hr', b0, b1, b2, b3, b4, b5, b6, b7, b8, d0, d1, d2, d3, d4, d5, d6, d7, d8, b9, d9, n1, n2, n3, n4, n5, k0, k1, k2, k3, k4, k5, k6, k7, k8, len_snocF, hh1, hml, hlen, hcap, Int.toNat_natCast, Int.le_refl, Nat.le_refl, zs, fs, sv, fv, rf1, List.set_set, T29, T30, T41, T60, nb_self, nb_same, nb_l0, nb_r0, nb_lt, nb_gt, nb_lt0, nb_gt0, Nat.add_assoc, top_T, top_C, top_P, inR_T, inR_C, inR_P, iter_T, iter_C, iter_P, iter_Y, r_rangeF, r_yld, r_start, r_rkN, r_rkR, r_rkE, r_endR, r_endM, r_endJ0, r_endJ2, r_endJ3, r_endJ5, r_endJ7, zipF, hfree_fr, hfree_cf, cv', cf_eta, frz_u, shC_dec, dC, T23, T28, T25, hfree_lu, hfree_l0, row0, row1, row2, row3, row4, row5, shI_dec, shN_dec, shB_dec, shM_dec, dI, dN, dB, dM, dU, dU_map, iv, bv, u, ms, ctx_T, ctx_C, ctx_P, T4, T3, T26, Option.bind_some, Option.bind_none, Option.map_some, List.length_map, List.length_set, String.reduceBEq, Int.toNat_natCast, Bool.true_beq, Bool.false_beq, T24, shF_dec, dF, fr_eta, Int.cast_ofNat_Int, Int.reduceSub, Int.reduceAdd, Int.reduceNeg, ev1, ev2, implies_true, undef, stepP, drawB, stepL, lateB, lateB0, rdsT, rdsAny, isRd, afterL, preB, callLB, callLV, lateV, dstV, dynCall, ↓condE_t, ↓condE_f, ↓guardE_tt, ↓guardE_ff, ↓guardE_tf, ↓guardE_ft, frzDeep, deepArgs, deepArg, resB, cv, stepB, stepE, callD, tabD, snapD, snap1, snapC, snapId, snapIds, guardB, guardC, dstAt, aopR, one, pre, binR, intOpR, shiftOpR, unR, argFrm, evo, lkp, hlk, lenOf, asLst, idOf, bndA, srcOk, ofVal, ofCells, setCells, fillA, setElems, fieldsOf, fieldsEq, scalEq, isEq, AV.wr, AV.ok1, TK.agg, frz, frzs, frzA, frzArg, frzArgs, subA, subL, sub1, kp, kh, accOf, List.replicate, Nat.reduceAdd, Nat.reduceSub, Nat.reduceMul, Nat.reduceEqDiff, Nat.reduceLT, Nat.reduceLeDiff, Nat.reduceBEq, reduceIte, reduceCtorEq, eq_self, ne_eq, Int.reduceToNat, Int.reduceLT, Int.reduceLE, Int.reduceGT, Int.reduceGE, Int.reduceBEq, Int.reduceBNe, Int.reduceEq, Int.reduceNe]
                      intro lz
                      repeat' apply And.intro
                      any_goals (show entryOk _ _ _ _ _ = true; (repeat (first | exact entryOk_nil _ _ _ _ | (refine entryOk_step ?h ?_; case h => (first | (apply Or.inr; constructor <;> simp [meets] <;> omega; done) | (apply Or.inl; show anc _ _ _ _ = true; kernel_rfl))))))
                      refine ⟨(k + 1, nx2 + 54), by dsimp only; omega, ⟨by dsimp only; omega, by dsimp only; omega⟩, rfl, ?_⟩
                      dsimp only
                      rw [hs4]
                      dsimp only
                      rw [len_snocF]
                      refine ⟨rfl, ?_⟩
                      simp only [b0, b1, b2, b3, b4, b5, b6, b7, b8, d0, d1, d2, d3, d4, d5, d6, d7, d8, b9, d9, n1, n2, n3, n4, n5, k0, k1, k2, k3, k4, k5, k6, k7, k8, nb_self, nb_same, nb_l0, nb_r0, nb_lt, nb_gt, nb_lt0, nb_gt0, Nat.add_assoc]
                      refine ⟨?_, ?_, ?_, ?_⟩ <;> first | trivial | rfl
                · have hs4 : S (k + 1) = ⟨m, ow, hand, over⟩ := by rw [hs2, dTurn, if_neg h0]
                  by_cases h1 : i ≥ 0
                  · have h2 : ¬ i ≤ n := fun h => h0 ⟨h1, h⟩
                    simp only [JA_all, hYT, hYC, hYY, r_yld, hg, hkw', ww, hk0, h1, h2, b0, b1, b2, b3, b4, b5, b6, b7, b8, d0, d1, d2, d3, d4, d5, d6, d7, d8, b9, d9, n1, n2, n3, n4, n5, k0, k1, k2, k3, k4, k5, k6, k7, k8, len_snocF, hh1, hml, hlen, hcap, Int.toNat_natCast, Int.le_refl, Nat.le_refl, zs, fs, sv, fv, rf1, List.set_set, T29, T30, T41, T60, nb_self, nb_same, nb_l0, nb_r0, nb_lt, nb_gt, nb_lt0, nb_gt0, Nat.add_assoc, top_T, top_C, top_P, inR_T, inR_C, inR_P, iter_T, iter_C, iter_P, iter_Y, r_rangeF, r_yld, r_start, r_rkN, r_rkR, r_rkE, r_endR, r_endM, r_endJ0, r_endJ2, r_endJ3, r_endJ5, r_endJ7, zipF, hfree_fr, hfree_cf, cv', cf_eta, frz_u, shC_dec, dC, T23, T28, T25, hfree_lu, hfree_l0, row0, row1, row2, row3, row4, row5, shI_dec, shN_dec, shB_dec, shM_dec, dI, dN, dB, dM, dU, dU_map, iv, bv, u, ms, ctx_T, ctx_C, ctx_P, T4, T3, T26, Option.bind_some, Option.bind_none, Option.map_some, List.length_map, List.length_set, String.reduceBEq, Int.toNat_natCast, Bool.true_beq, Bool.false_beq, T24, shF_dec, dF, fr_eta, Int.cast_ofNat_Int, Int.reduceSub, Int.reduceAdd, Int.reduceNeg, ev1, ev2, implies_true, undef, stepP, drawB, stepL, lateB, lateB0, rdsT, rdsAny, isRd, afterL, preB, callLB, callLV, lateV, dstV, dynCall, ↓condE_t, ↓condE_f, ↓guardE_tt, ↓guardE_ff, ↓guardE_tf, ↓guardE_ft, frzDeep, deepArgs, deepArg, resB, cv, stepB, stepE, callD, tabD, snapD, snap1, snapC, snapId, snapIds, guardB, guardC, dstAt, aopR, one, pre, binR, intOpR, shiftOpR, unR, argFrm, evo, lkp, hlk, lenOf, asLst, idOf, bndA, srcOk, ofVal, ofCells, setCells, fillA, setElems, fieldsOf, fieldsEq, scalEq, isEq, AV.wr, AV.ok1, TK.agg, frz, frzs, frzA, frzArg, frzArgs, subA, subL, sub1, kp, kh, accOf, List.replicate, Nat.reduceAdd, Nat.reduceSub, Nat.reduceMul, Nat.reduceEqDiff, Nat.reduceLT, Nat.reduceLeDiff, Nat.reduceBEq, reduceIte, reduceCtorEq, eq_self, ne_eq, Int.reduceToNat, Int.reduceLT, Int.reduceLE, Int.reduceGT, Int.reduceGE, Int.reduceBEq, Int.reduceBNe, Int.reduceEq, Int.reduceNe]
                    repeat' apply And.intro
                    try any_goals (show entryOk _ _ _ _ _ = true; (repeat (first | exact entryOk_nil _ _ _ _ | (refine entryOk_step ?h ?_; case h => (first | (apply Or.inr; constructor <;> simp [meets] <;> omega; done) | (apply Or.inl; show anc _ _ _ _ = true; kernel_rfl))))))
                    refine ⟨(k + 1, id), by dsimp only; omega, ⟨by dsimp only; omega, hj⟩, rfl, ?_⟩
                    dsimp only
                    rw [hs4]
                    dsimp only
                    refine ⟨rfl, ?_⟩
                    simp only [b0, b1, b2, b3, b4, b5, b6, b7, b8, d0, d1, d2, d3, d4, d5, d6, d7, d8, b9, d9, n1, n2, n3, n4, n5, k0, k1, k2, k3, k4, k5, k6, k7, k8, nb_self, nb_same, nb_l0, nb_r0, nb_lt, nb_gt, nb_lt0, nb_gt0, Nat.add_assoc]
                    refine ⟨?_, ?_, ?_, ?_⟩ <;> first | trivial | rfl
                  · simp only [JA_all, hYT, hYC, hYY, r_yld, hg, hkw', ww, hk0, h1, b0, b1, b2, b3, b4, b5, b6, b7, b8, d0, d1, d2, d3, d4, d5, d6, d7, d8, b9, d9, n1, n2, n3, n4, n5, k0, k1, k2, k3, k4, k5, k6, k7, k8, len_snocF, hh1, hml, hlen, hcap, Int.toNat_natCast, Int.le_refl, Nat.le_refl, zs, fs, sv, fv, rf1, List.set_set, T29, T30, T41, T60, nb_self, nb_same, nb_l0, nb_r0, nb_lt, nb_gt, nb_lt0, nb_gt0, Nat.add_assoc, top_T, top_C, top_P, inR_T, inR_C, inR_P, iter_T, iter_C, iter_P, iter_Y, r_rangeF, r_yld, r_start, r_rkN, r_rkR, r_rkE, r_endR, r_endM, r_endJ0, r_endJ2, r_endJ3, r_endJ5, r_endJ7, zipF, hfree_fr, hfree_cf, cv', cf_eta, frz_u, shC_dec, dC, T23, T28, T25, hfree_lu, hfree_l0, row0, row1, row2, row3, row4, row5, shI_dec, shN_dec, shB_dec, shM_dec, dI, dN, dB, dM, dU, dU_map, iv, bv, u, ms, ctx_T, ctx_C, ctx_P, T4, T3, T26, Option.bind_some, Option.bind_none, Option.map_some, List.length_map, List.length_set, String.reduceBEq, Int.toNat_natCast, Bool.true_beq, Bool.false_beq, T24, shF_dec, dF, fr_eta, Int.cast_ofNat_Int, Int.reduceSub, Int.reduceAdd, Int.reduceNeg, ev1, ev2, implies_true, undef, stepP, drawB, stepL, lateB, lateB0, rdsT, rdsAny, isRd, afterL, preB, callLB, callLV, lateV, dstV, dynCall, ↓condE_t, ↓condE_f, ↓guardE_tt, ↓guardE_ff, ↓guardE_tf, ↓guardE_ft, frzDeep, deepArgs, deepArg, resB, cv, stepB, stepE, callD, tabD, snapD, snap1, snapC, snapId, snapIds, guardB, guardC, dstAt, aopR, one, pre, binR, intOpR, shiftOpR, unR, argFrm, evo, lkp, hlk, lenOf, asLst, idOf, bndA, srcOk, ofVal, ofCells, setCells, fillA, setElems, fieldsOf, fieldsEq, scalEq, isEq, AV.wr, AV.ok1, TK.agg, frz, frzs, frzA, frzArg, frzArgs, subA, subL, sub1, kp, kh, accOf, List.replicate, Nat.reduceAdd, Nat.reduceSub, Nat.reduceMul, Nat.reduceEqDiff, Nat.reduceLT, Nat.reduceLeDiff, Nat.reduceBEq, reduceIte, reduceCtorEq, eq_self, ne_eq, Int.reduceToNat, Int.reduceLT, Int.reduceLE, Int.reduceGT, Int.reduceGE, Int.reduceBEq, Int.reduceBNe, Int.reduceEq, Int.reduceNe]
                    repeat' apply And.intro
                    try any_goals (show entryOk _ _ _ _ _ = true; (repeat (first | exact entryOk_nil _ _ _ _ | (refine entryOk_step ?h ?_; case h => (first | (apply Or.inr; constructor <;> simp [meets] <;> omega; done) | (apply Or.inl; show anc _ _ _ _ = true; kernel_rfl))))))
                    refine ⟨(k + 1, id), by dsimp only; omega, ⟨by dsimp only; omega, hj⟩, rfl, ?_⟩
                    dsimp only
                    rw [hs4]
                    dsimp only
                    refine ⟨rfl, ?_⟩
                    simp only [b0, b1, b2, b3, b4, b5, b6, b7, b8, d0, d1, d2, d3, d4, d5, d6, d7, d8, b9, d9, n1, n2, n3, n4, n5, k0, k1, k2, k3, k4, k5, k6, k7, k8, nb_self, nb_same, nb_l0, nb_r0, nb_lt, nb_gt, nb_lt0, nb_gt0, Nat.add_assoc]
                    refine ⟨?_, ?_, ?_, ?_⟩ <;> first | trivial | rfl
              · have hkw' : ¬ (k : Int) < who.length := by omega
                have hkk : k = who.length := by omega
                simp only [JA_all, hYT, hYC, hYY, r_yld, hkw', b0, b1, b2, b3, b4, b5, b6, b7, b8, d0, d1, d2, d3, d4, d5, d6, d7, d8, b9, d9, n1, n2, n3, n4, n5, k0, k1, k2, k3, k4, k5, k6, k7, k8, len_snocF, hh1, hml, hlen, hcap, Int.toNat_natCast, Int.le_refl, Nat.le_refl, zs, fs, sv, fv, rf1, List.set_set, T29, T30, T41, T60, nb_self, nb_same, nb_l0, nb_r0, nb_lt, nb_gt, nb_lt0, nb_gt0, Nat.add_assoc, top_T, top_C, top_P, inR_T, inR_C, inR_P, iter_T, iter_C, iter_P, iter_Y, r_rangeF, r_yld, r_start, r_rkN, r_rkR, r_rkE, r_endR, r_endM, r_endJ0, r_endJ2, r_endJ3, r_endJ5, r_endJ7, zipF, hfree_fr, hfree_cf, cv', cf_eta, frz_u, shC_dec, dC, T23, T28, T25, hfree_lu, hfree_l0, row0, row1, row2, row3, row4, row5, shI_dec, shN_dec, shB_dec, shM_dec, dI, dN, dB, dM, dU, dU_map, iv, bv, u, ms, ctx_T, ctx_C, ctx_P, T4, T3, T26, Option.bind_some, Option.bind_none, Option.map_some, List.length_map, List.length_set, String.reduceBEq, Int.toNat_natCast, Bool.true_beq, Bool.false_beq, T24, shF_dec, dF, fr_eta, Int.cast_ofNat_Int, Int.reduceSub, Int.reduceAdd, Int.reduceNeg, ev1, ev2, implies_true, undef, stepP, drawB, stepL, lateB, lateB0, rdsT, rdsAny, isRd, afterL, preB, callLB, callLV, lateV, dstV, dynCall, ↓condE_t, ↓condE_f, ↓guardE_tt, ↓guardE_ff, ↓guardE_tf, ↓guardE_ft, frzDeep, deepArgs, deepArg, resB, cv, stepB, stepE, callD, tabD, snapD, snap1, snapC, snapId, snapIds, guardB, guardC, dstAt, aopR, one, pre, binR, intOpR, shiftOpR, unR, argFrm, evo, lkp, hlk, lenOf, asLst, idOf, bndA, srcOk, ofVal, ofCells, setCells, fillA, setElems, fieldsOf, fieldsEq, scalEq, isEq, AV.wr, AV.ok1, TK.agg, frz, frzs, frzA, frzArg, frzArgs, subA, subL, sub1, kp, kh, accOf, List.replicate, Nat.reduceAdd, Nat.reduceSub, Nat.reduceMul, Nat.reduceEqDiff, Nat.reduceLT, Nat.reduceLeDiff, Nat.reduceBEq, reduceIte, reduceCtorEq, eq_self, ne_eq, Int.reduceToNat, Int.reduceLT, Int.reduceLE, Int.reduceGT, Int.reduceGE, Int.reduceBEq, Int.reduceBNe, Int.reduceEq, Int.reduceNe]
                have hth : List.take (N + 1) (hand.map fv) = hand.map fv := by rw [← hh1]; exact take_f hand
                have hP : dPlay d n own who = (m, over, hand) := by
                  rw [dPlay, gDPlay, if_pos ⟨hm, by omega, by omega⟩, show dqC d = ⟨1, d, 1, 0⟩ from rfl, ← hla, ← hkk, hSk]
                rw [hP, hth]
                exact ⟨of_eq_true (hf_f _), of_eq_true (hf_f _), rfl, rfl, rfl⟩
            · dsimp only [kp]
              exact ⟨rfl, rfl, rfl, rfl, rfl, trivial⟩
            · rw [hS.zero]
              have hN1 : ((N : Int) + 1).toNat = N + 1 := by omega
              simp only [kh, hlk, n1, n2, n3, n4, n5, dStart, hN, hN1, hB, List.map_nil, List.length_nil, nb_self, nb_same, nb_l0, nb_r0, nb_lt, nb_gt, nb_lt0, nb_gt0, Nat.add_assoc, Nat.reduceBEq]
              repeat' apply And.intro
              all_goals first | trivial | rfl
        · dsimp only [kp]
          exact ⟨rfl, rfl, rfl, rfl, rfl, trivial⟩
        · have hr : (repA (N + 1) 1).map fv = fv noneF :: List.replicate N (fv fr0) := by simp [repA]
          dsimp only [kh]
          rw [hr]
          exact ⟨rfl, rfl, rfl, rfl, trivial⟩
  · have hP : dPlay d n own who = ([], [], []) := if_neg (fun h => hm h.1)
    rw [hP]
    have hm' : mayC ⟨1, d, 1, 0⟩ = false := by simpa using hm
    simp only [Try.f13, Try.func32, Try.f32, inl, JA_all, hm', zs, fs, sv, fv, List.map_nil, rf1, List.set_set, T29, T30, T41, top_T, top_C, top_P, inR_T, inR_C, inR_P, iter_T, iter_C, iter_P, iter_Y, r_rangeF, r_yld, r_start, r_rkN, r_rkR, r_rkE, r_endR, r_endM, r_endJ0, r_endJ2, r_endJ3, r_endJ5, r_endJ7, zipF, hfree_fr, hfree_cf, cv', cf_eta, frz_u, shC_dec, dC, T23, T28, T25, hfree_lu, hfree_l0, row0, row1, row2, row3, row4, row5, shI_dec, shN_dec, shB_dec, shM_dec, dI, dN, dB, dM, dU, dU_map, iv, bv, u, ms, ctx_T, ctx_C, ctx_P, T4, T3, T26, Option.bind_some, Option.bind_none, Option.map_some, List.length_map, List.length_set, String.reduceBEq, Int.toNat_natCast, Bool.true_beq, Bool.false_beq, T24, shF_dec, dF, fr_eta, Int.cast_ofNat_Int, Int.reduceSub, Int.reduceAdd, Int.reduceNeg, ev1, ev2, implies_true, undef, stepP, drawB, stepL, lateB, lateB0, rdsT, rdsAny, isRd, afterL, preB, callLB, callLV, lateV, dstV, dynCall, ↓condE_t, ↓condE_f, ↓guardE_tt, ↓guardE_ff, ↓guardE_tf, ↓guardE_ft, frzDeep, deepArgs, deepArg, resB, cv, stepB, stepE, callD, tabD, snapD, snap1, snapC, snapId, snapIds, guardB, guardC, dstAt, aopR, one, pre, binR, intOpR, shiftOpR, unR, argFrm, evo, lkp, hlk, lenOf, asLst, idOf, bndA, srcOk, ofVal, ofCells, setCells, fillA, setElems, fieldsOf, fieldsEq, scalEq, isEq, AV.wr, AV.ok1, TK.agg, frz, frzs, frzA, frzArg, frzArgs, subA, subL, sub1, kp, kh, accOf, List.replicate, Nat.reduceAdd, Nat.reduceSub, Nat.reduceMul, Nat.reduceEqDiff, Nat.reduceLT, Nat.reduceLeDiff, Nat.reduceBEq, reduceIte, reduceCtorEq, eq_self, ne_eq, Int.reduceToNat, Int.reduceLT, Int.reduceLE, Int.reduceGT, Int.reduceGE, Int.reduceBEq, Int.reduceBNe, Int.reduceEq, Int.reduceNe]
    all_goals ((repeat' apply And.intro) <;> first | rfl | omega | (show entryOk _ _ _ _ _ = true; kernel_rfl) | (show pivotOk _ _ = true; kernel_rfl) | decide)
end Go.Vai
