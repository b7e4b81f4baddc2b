/- The evaluator, the plain texts and the contracts that this claim leans on, part BG: nothing of the statement is claimed here. -/
import Derived.Test.YtppacheibhanbaaBF
import Derived.Test.YtppacheibhanbaaBE
/- What all do at one deque, as the document says. -/
namespace Go.Vai
open Go.RowKit Go.Proofs
set_option linter.unusedSimpArgs false
set_option linter.unusedVariables false
set_option maxHeartbeats 4000000
set_option maxRecDepth 100000

theorem drop_f1 {l : List Fr} {k : Nat} (h : k < l.length) : l.drop k = l.getD k fr0 :: l.drop (k + 1) := by
  rw [List.drop_eq_getElem_cons h]; simp [List.getD_eq_getElem?_getD, h]

theorem rnew_pure (c : Cf) : PureC Try.prog 40 [cv' c] (ms (zeros (lSize c).toNat)) := by
  refine pure_sub okJA 1 Try.func40 rfl (by show 1 ≤ _; decide) ?_
  have h0 : 0 ≤ lSize c := lSize_pos c
  have h1 := lSize_le c
  have h2 : (lSize c).toNat * 1 ≤ 16777216 := by omega
  have h3 : (lSize c).toNat * 8 ≤ 140737488355328 := by omega
  have hz : List.replicate (lSize c).toNat (AV.v (.int .u64 0)) = (zeros (lSize c).toNat).map u := by rw [zeros, List.map_replicate]; rfl
  have take_z : List.take (lSize c).toNat ((zeros (lSize c).toNat).map u) = (zeros (lSize c).toNat).map u := List.take_of_length_le (by simp [zeros])
  simp only [Try.f40, inl, JA_all, h0, h2, h3, hz, zeros_len, take_z, List.length_map, Nat.le_refl, sv, fv, hfree_fr, hfree_cf, cv', cf_eta, frz_u, shC_dec, dC, T23, T28, T25, hfree_lu, hfree_l0, row0, row1, row2, row3, row4, row5, shI_dec, shN_dec, shB_dec, shM_dec, dI, dN, dB, dM, dU, dU_map, iv, bv, u, ms, ctx_T, ctx_C, ctx_P, T4, T3, T26, Option.bind_some, Option.bind_none, Option.map_some, List.length_map, List.length_set, String.reduceBEq, Int.toNat_natCast, Bool.true_beq, Bool.false_beq, T24, shF_dec, dF, fr_eta, Int.cast_ofNat_Int, Int.reduceSub, Int.reduceAdd, Int.reduceNeg, ev1, ev2, implies_true, undef, stepP, drawB, stepL, lateB, lateB0, rdsT, rdsAny, isRd, afterL, preB, callLB, callLV, lateV, dstV, dynCall, ↓condE_t, ↓condE_f, ↓guardE_tt, ↓guardE_ff, ↓guardE_tf, ↓guardE_ft, frzDeep, deepArgs, deepArg, resB, cv, stepB, stepE, callD, tabD, snapD, snap1, snapC, snapId, snapIds, guardB, guardC, dstAt, aopR, one, pre, binR, intOpR, shiftOpR, unR, argFrm, evo, lkp, hlk, lenOf, asLst, idOf, bndA, srcOk, ofVal, ofCells, setCells, fillA, setElems, fieldsOf, fieldsEq, scalEq, isEq, AV.wr, AV.ok1, TK.agg, frz, frzs, frzA, frzArg, frzArgs, subA, subL, sub1, kp, kh, accOf, List.replicate, Nat.reduceAdd, Nat.reduceSub, Nat.reduceMul, Nat.reduceEqDiff, Nat.reduceLT, Nat.reduceLeDiff, Nat.reduceBEq, reduceIte, reduceCtorEq, eq_self, ne_eq, Int.reduceToNat, Int.reduceLT, Int.reduceLE, Int.reduceGT, Int.reduceGE, Int.reduceBEq, Int.reduceBNe, Int.reduceEq, Int.reduceNe]
  exact of_eq_true (hf_u _)

theorem rBegin_pure (op who val : Int) : PureC Try.prog 41 [iv op, iv who, u val] (fv (fBegin op who val)) := by
  refine pure_sub ok0 1 Try.func41 rfl (by show 3 ≤ _; decide) ?_
  simp only [Try.f41, fv, fBegin, T28, hfree_lu, hfree_l0, row0, row1, row2, row3, row4, row5, shI_dec, shN_dec, shB_dec, shM_dec, dI, dN, dB, dM, dU, dU_map, iv, bv, u, ms, ctx_T, ctx_C, ctx_P, T4, T3, T26, Option.bind_some, Option.bind_none, Option.map_some, List.length_map, List.length_set, String.reduceBEq, Int.toNat_natCast, Bool.true_beq, Bool.false_beq, T24, shF_dec, dF, fr_eta, ev1, ev2, implies_true, undef, stepP, drawB, stepL, lateB, lateB0, rdsT, rdsAny, isRd, afterL, preB, callLB, callLV, lateV, dstV, dynCall, ↓condE_t, ↓condE_f, ↓guardE_tt, ↓guardE_ff, ↓guardE_tf, ↓guardE_ft, frzDeep, deepArgs, deepArg, resB, cv, stepB, stepE, callD, tabD, snapD, snap1, snapC, snapId, snapIds, guardB, guardC, dstAt, aopR, one, pre, binR, intOpR, shiftOpR, unR, argFrm, evo, lkp, hlk, lenOf, asLst, idOf, bndA, srcOk, ofVal, ofCells, setCells, fillA, setElems, fieldsOf, fieldsEq, scalEq, isEq, AV.wr, AV.ok1, TK.agg, frz, frzs, frzA, frzArg, frzArgs, subA, subL, sub1, kp, kh, accOf, List.replicate, Nat.reduceAdd, Nat.reduceSub, Nat.reduceMul, Nat.reduceEqDiff, Nat.reduceLT, Nat.reduceLeDiff, Nat.reduceBEq, reduceIte, reduceCtorEq, eq_self, ne_eq, Int.reduceToNat, Int.reduceLT, Int.reduceLE, Int.reduceGT, Int.reduceGE, Int.reduceBEq, Int.reduceBNe, Int.reduceEq, Int.reduceNe]

def rowsJB : List Row := [
  (41, row3 shI shI shN fun o w v => some (fv (fBegin o w v))), 
  (40, row1 shC fun c => some (ms (zeros (lSize c).toNat)))] ++ rowsJA
theorem rowsJB_ok : ∀ p ∈ rowsJB, RowOk Try.prog p := fun p h => by
  simp only [rowsJB, List.mem_append, List.mem_cons, List.not_mem_nil, or_false, false_or, or_assoc] at h
  rcases h with rfl | rfl | h
  · exact ok_row3 (enters_of Try.func41 (by decide) rfl) fun o w v r _ _ _ e => by cases e; exact rBegin_pure o w v
  · exact ok_row1 (enters_of Try.func40 (by decide) rfl) fun c r _ e => by cases e; exact rnew_pure c
  · exact rowsJA_ok p h
theorem okJB : (ctx Try.prog rowsJB).ok := rows_ok rowsJB_ok
theorem JB_41 : tabC rowsJB 41 = row3 shI shI shN fun o w v => some (fv (fBegin o w v)) := rfl
theorem JB_40 : tabC rowsJB 40 = row1 shC fun c => some (ms (zeros (lSize c).toNat)) := rfl
theorem JB_90 : tabC rowsJB 90 = row2 shN shN fun a b => if a = 1 ∧ 1 ≤ b ∧ b ≤ 9 then some (.tup [u 0, u b]) else none := rfl
theorem JB_11 : tabC rowsJB 11 = row3 shC shM shF fun c m f => some (sv (dqStep c m f)) := rfl
theorem JB_12 : tabC rowsJB 12 = row3 shC shM shF fun c m f => if inUb f.x = true ∧ inUb f.y = true then some (sv (dqStep c m f)) else none := rfl
theorem JB_36 : tabC rowsJB 36 = row0 (fv noneF) := rfl
theorem JB_32 : tabC rowsJB 32 = fun _ => none := rfl
theorem JB_38 : tabC rowsJB 38 = fun _ => none := rfl
theorem JB_79 : tabC rowsJB 79 = fun _ => none := rfl
theorem JB_37 : tabC rowsJB 37 = fun _ => none := rfl
theorem JB_44 : tabC rowsJB 44 = fun _ => none := rfl
theorem JB_35 : tabC rowsJB 35 = fun _ => none := rfl
theorem JB_78 : tabC rowsJB 78 = fun _ => none := rfl
theorem JB_26 : tabC rowsJB 26 = row3 shC shM shF fun c m f => some (sv (oStep c m f)) := rfl
theorem JB_30 : tabC rowsJB 30 = row3 shC shM shF fun c m f => if inUb f.x = true then some (sv (oStep c m f)) else none := rfl
theorem JB_22 : tabC rowsJB 22 = row3 shC shM shI fun c m w => some (lv c m w) := rfl
theorem JB_29 : tabC rowsJB 29 = row3 shC shM shF fun c m f => if inUb f.x = true then some (sv (pStep c m f)) else none := rfl
theorem JB_34 : tabC rowsJB 34 = row1 shC fun c => some (ms (zeros (lSize c).toNat)) := rfl
theorem JB_24 : tabC rowsJB 24 = row3 shM shI shF fun l room f => some (ov (fOnce l room f)) := rfl
theorem JB_25 : tabC rowsJB 25 = row3 shC shM shF fun c m f => some (sv (pStep c m f)) := rfl
theorem JB_70 : tabC rowsJB 70 = row2 shC shI fun c w => some (iv (lBottom c w)) := rfl
theorem JB_74 : tabC rowsJB 74 = row3 shC shI shN fun c w x => if inUb x = true then some (iv (lSlot c w x)) else none := rfl
theorem JB_59 : tabC rowsJB 59 = row5 shC shM shF shI shI fun c m f op pcs => some (bv (goes c m f op pcs)) := rfl
theorem JB_68 : tabC rowsJB 68 = row5 shC shM shF shI shI fun c m f op pcs => some (bv (goes c m f op pcs)) := rfl
theorem JB_55 : tabC rowsJB 55 = fun _ => none := rfl
theorem JB_56 : tabC rowsJB 56 = fun _ => none := rfl
theorem JB_57 : tabC rowsJB 57 = fun _ => none := rfl
theorem JB_58 : tabC rowsJB 58 = fun _ => none := rfl
theorem JB_28 : tabC rowsJB 28 = row1 shM fun m => some (ms m) := rfl
theorem JB_76 : tabC rowsJB 76 = row4 shM shI shN shN fun m i v w => some (.tup [ms (mCas m i v w), bv (mCasB m i v)]) := rfl
theorem JB_46 : tabC rowsJB 46 = row2 shM shI fun m i => some (u (mLoad m i)) := rfl
theorem JB_61 : tabC rowsJB 61 = row3 shM shI shN fun m i v => some (ms (mStore m i v)) := rfl
theorem JB_63 : tabC rowsJB 63 = row4 shM shI shN shN fun m i v w => some (.tup [ms (mCas m i v w), bv (mCasB m i v)]) := rfl
theorem JB_69 : tabC rowsJB 69 = row2 shM shI fun m i => some (u (mLoad m i)) := rfl
theorem JB_17 : tabC rowsJB 17 = row2 shM shM fun a b => some (bv (decide (a = b))) := rfl
theorem JB_73 : tabC rowsJB 73 = row3 shM shI shN fun m i v => some (ms (mStore m i v)) := rfl
theorem JB_43 : tabC rowsJB 43 = row1 shC fun c => some (iv (lSize c)) := rfl
theorem JB_45 : tabC rowsJB 45 = row1 shC fun c => some (iv (lSize c)) := rfl
theorem JB_47 : tabC rowsJB 47 = row2 shC shI fun c w => some (iv (lTop c w)) := rfl
theorem JB_48 : tabC rowsJB 48 = row2 shC shI fun c w => some (iv (lBottom c w)) := rfl
theorem JB_50 : tabC rowsJB 50 = row3 shC shI shN fun c w x => some (iv (lSlot c w x)) := rfl
theorem JB_71 : tabC rowsJB 71 = row2 shC shI fun c w => some (iv (lTop c w)) := rfl
theorem JB_33 : tabC rowsJB 33 = row1 shC fun c => some (bv (mayC c)) := rfl
theorem JB_49 : tabC rowsJB 49 = row2 shN shN fun a b => some (iv (far a b)) := rfl
theorem JB_39 : tabC rowsJB 39 = row1 shC fun c => some (bv (mayC c)) := rfl
theorem JB_75 : tabC rowsJB 75 = row2 shN shN fun a b => some (iv (far a b)) := rfl
theorem JB_80 : tabC rowsJB 80 = row2 shC shI fun c w => if mayC c = true ∧ 0 ≤ w ∧ w ≤ 8 then some (iv (lBase c w)) else none := rfl
theorem JB_82 : tabC rowsJB 82 = fun _ => none := rfl
theorem JB_83 : tabC rowsJB 83 = fun _ => none := rfl
theorem JB_84 : tabC rowsJB 84 = fun _ => none := rfl
theorem JB_85 : tabC rowsJB 85 = fun _ => none := rfl
theorem JB_77 : tabC rowsJB 77 = fun _ => none := rfl
theorem JB_42 : tabC rowsJB 42 = row1 shF fun f => some (bv (f.res != 0)) := rfl
theorem JB_72 : tabC rowsJB 72 = row3 shF shI shN fun f r v => some (fv (fEnd f r v)) := rfl
theorem JB_23 : tabC rowsJB 23 = row3 shI shI shN fun o w v => some (fv (fBegin o w v)) := rfl
theorem JB_20 : tabC rowsJB 20 = row1 shF fun f => some (bv (f.res != 0)) := rfl
theorem JB_62 : tabC rowsJB 62 = row3 shF shI shN fun f r v => some (fv (fEnd f r v)) := rfl
theorem JB_52 : tabC rowsJB 52 = fun _ => none := rfl
theorem JB_53 : tabC rowsJB 53 = fun _ => none := rfl
theorem JB_54 : tabC rowsJB 54 = fun _ => none := rfl
theorem JB_51 : tabC rowsJB 51 = fun _ => none := rfl
theorem JB_27 : tabC rowsJB 27 = row3 shC shM shF fun c m f => some (sv (sStep c m f)) := rfl
theorem JB_31 : tabC rowsJB 31 = row3 shC shM shF fun c m f => if inUb f.y = true then some (sv (sStep c m f)) else none := rfl
theorem JB_all : type_of% (And.intro JB_41 <| And.intro JB_40 <| And.intro JB_90 <| And.intro JB_11 <| And.intro JB_12 <| And.intro JB_36 <| And.intro JB_32 <| And.intro JB_38 <| And.intro JB_79 <| And.intro JB_37 <| And.intro JB_44 <| And.intro JB_35 <| And.intro JB_78 <| And.intro JB_26 <| And.intro JB_30 <| And.intro JB_22 <| And.intro JB_29 <| And.intro JB_34 <| And.intro JB_24 <| And.intro JB_25 <| And.intro JB_70 <| And.intro JB_74 <| And.intro JB_59 <| And.intro JB_68 <| And.intro JB_55 <| And.intro JB_56 <| And.intro JB_57 <| And.intro JB_58 <| And.intro JB_28 <| And.intro JB_76 <| And.intro JB_46 <| And.intro JB_61 <| And.intro JB_63 <| And.intro JB_69 <| And.intro JB_17 <| And.intro JB_73 <| And.intro JB_43 <| And.intro JB_45 <| And.intro JB_47 <| And.intro JB_48 <| And.intro JB_50 <| And.intro JB_71 <| And.intro JB_33 <| And.intro JB_49 <| And.intro JB_39 <| And.intro JB_75 <| And.intro JB_80 <| And.intro JB_82 <| And.intro JB_83 <| And.intro JB_84 <| And.intro JB_85 <| And.intro JB_77 <| And.intro JB_42 <| And.intro JB_72 <| And.intro JB_23 <| And.intro JB_20 <| And.intro JB_62 <| And.intro JB_52 <| And.intro JB_53 <| And.intro JB_54 <| And.intro JB_51 <| And.intro JB_27 <| JB_31) := And.intro JB_41 <| And.intro JB_40 <| And.intro JB_90 <| And.intro JB_11 <| And.intro JB_12 <| And.intro JB_36 <| And.intro JB_32 <| And.intro JB_38 <| And.intro JB_79 <| And.intro JB_37 <| And.intro JB_44 <| And.intro JB_35 <| And.intro JB_78 <| And.intro JB_26 <| And.intro JB_30 <| And.intro JB_22 <| And.intro JB_29 <| And.intro JB_34 <| And.intro JB_24 <| And.intro JB_25 <| And.intro JB_70 <| And.intro JB_74 <| And.intro JB_59 <| And.intro JB_68 <| And.intro JB_55 <| And.intro JB_56 <| And.intro JB_57 <| And.intro JB_58 <| And.intro JB_28 <| And.intro JB_76 <| And.intro JB_46 <| And.intro JB_61 <| And.intro JB_63 <| And.intro JB_69 <| And.intro JB_17 <| And.intro JB_73 <| And.intro JB_43 <| And.intro JB_45 <| And.intro JB_47 <| And.intro JB_48 <| And.intro JB_50 <| And.intro JB_71 <| And.intro JB_33 <| And.intro JB_49 <| And.intro JB_39 <| And.intro JB_75 <| And.intro JB_80 <| And.intro JB_82 <| And.intro JB_83 <| And.intro JB_84 <| And.intro JB_85 <| And.intro JB_77 <| And.intro JB_42 <| And.intro JB_72 <| And.intro JB_23 <| And.intro JB_20 <| And.intro JB_62 <| And.intro JB_52 <| And.intro JB_53 <| And.intro JB_54 <| And.intro JB_51 <| And.intro JB_27 <| JB_31

theorem rdplay_pure (d n : Int) (own : List Fr) (who : List Int) (ho : own.length ≤ 1000) (hw : who.length ≤ 1000) (hu : ∀ x ∈ own, InU x.val) :
    PureC Try.prog 14 [iv d, iv n, fs own, zs who] (.tup [ms (dPlay d n own who).1, fs (dPlay d n own who).2.1, fs (dPlay d n own who).2.2]) := by
  refine pure_sub okJB 1 Try.func14 rfl (by show 4 ≤ _; decide) ?_
  by_cases hm : mayC ⟨1, d, 1, 0⟩ = true
  · by_cases h1 : n < 0
    · have hP : dPlay d n own who = ([], [], []) := if_neg (fun h => by omega)
      rw [hP]
      simp only [Try.f14, inl, JB_all, hm, h1, zs, fs, sv, fv, List.map_nil, rf1, List.set_set, T29, T30, T41, hfree_fr, hfree_cf, cv', cf_eta, frz_u, shC_dec, dC, T23, T28, T25, hfree_lu, hfree_l0, row0, row1, row2, row3, row4, row5, shI_dec, shN_dec, shB_dec, shM_dec, dI, dN, dB, dM, dU, dU_map, iv, bv, u, ms, ctx_T, ctx_C, ctx_P, T4, T3, T26, Option.bind_some, Option.bind_none, Option.map_some, List.length_map, List.length_set, String.reduceBEq, Int.toNat_natCast, Bool.true_beq, Bool.false_beq, T24, shF_dec, dF, fr_eta, Int.cast_ofNat_Int, Int.reduceSub, Int.reduceAdd, Int.reduceNeg, ev1, ev2, implies_true, undef, stepP, drawB, stepL, lateB, lateB0, rdsT, rdsAny, isRd, afterL, preB, callLB, callLV, lateV, dstV, dynCall, ↓condE_t, ↓condE_f, ↓guardE_tt, ↓guardE_ff, ↓guardE_tf, ↓guardE_ft, frzDeep, deepArgs, deepArg, resB, cv, stepB, stepE, callD, tabD, snapD, snap1, snapC, snapId, snapIds, guardB, guardC, dstAt, aopR, one, pre, binR, intOpR, shiftOpR, unR, argFrm, evo, lkp, hlk, lenOf, asLst, idOf, bndA, srcOk, ofVal, ofCells, setCells, fillA, setElems, fieldsOf, fieldsEq, scalEq, isEq, AV.wr, AV.ok1, TK.agg, frz, frzs, frzA, frzArg, frzArgs, subA, subL, sub1, kp, kh, accOf, List.replicate, Nat.reduceAdd, Nat.reduceSub, Nat.reduceMul, Nat.reduceEqDiff, Nat.reduceLT, Nat.reduceLeDiff, Nat.reduceBEq, reduceIte, reduceCtorEq, eq_self, ne_eq, Int.reduceToNat, Int.reduceLT, Int.reduceLE, Int.reduceGT, Int.reduceGE, Int.reduceBEq, Int.reduceBNe, Int.reduceEq, Int.reduceNe]
      all_goals ((repeat' apply And.intro) <;> first | rfl | omega | (show entryOk _ _ _ _ _ = true; kernel_rfl) | (show pivotOk _ _ = true; kernel_rfl) | decide)
    · by_cases h8 : n > 8
      · have hP : dPlay d n own who = ([], [], []) := if_neg (fun h => by omega)
        rw [hP]
        simp only [Try.f14, inl, JB_all, hm, h1, h8, zs, fs, sv, fv, List.map_nil, rf1, List.set_set, T29, T30, T41, hfree_fr, hfree_cf, cv', cf_eta, frz_u, shC_dec, dC, T23, T28, T25, hfree_lu, hfree_l0, row0, row1, row2, row3, row4, row5, shI_dec, shN_dec, shB_dec, shM_dec, dI, dN, dB, dM, dU, dU_map, iv, bv, u, ms, ctx_T, ctx_C, ctx_P, T4, T3, T26, Option.bind_some, Option.bind_none, Option.map_some, List.length_map, List.length_set, String.reduceBEq, Int.toNat_natCast, Bool.true_beq, Bool.false_beq, T24, shF_dec, dF, fr_eta, Int.cast_ofNat_Int, Int.reduceSub, Int.reduceAdd, Int.reduceNeg, ev1, ev2, implies_true, undef, stepP, drawB, stepL, lateB, lateB0, rdsT, rdsAny, isRd, afterL, preB, callLB, callLV, lateV, dstV, dynCall, ↓condE_t, ↓condE_f, ↓guardE_tt, ↓guardE_ff, ↓guardE_tf, ↓guardE_ft, frzDeep, deepArgs, deepArg, resB, cv, stepB, stepE, callD, tabD, snapD, snap1, snapC, snapId, snapIds, guardB, guardC, dstAt, aopR, one, pre, binR, intOpR, shiftOpR, unR, argFrm, evo, lkp, hlk, lenOf, asLst, idOf, bndA, srcOk, ofVal, ofCells, setCells, fillA, setElems, fieldsOf, fieldsEq, scalEq, isEq, AV.wr, AV.ok1, TK.agg, frz, frzs, frzA, frzArg, frzArgs, subA, subL, sub1, kp, kh, accOf, List.replicate, Nat.reduceAdd, Nat.reduceSub, Nat.reduceMul, Nat.reduceEqDiff, Nat.reduceLT, Nat.reduceLeDiff, Nat.reduceBEq, reduceIte, reduceCtorEq, eq_self, ne_eq, Int.reduceToNat, Int.reduceLT, Int.reduceLE, Int.reduceGT, Int.reduceGE, Int.reduceBEq, Int.reduceBNe, Int.reduceEq, Int.reduceNe]
        all_goals ((repeat' apply And.intro) <;> first | rfl | omega | (show entryOk _ _ _ _ _ = true; kernel_rfl) | (show pivotOk _ _ = true; kernel_rfl) | decide)
      · obtain ⟨N, rfl⟩ : ∃ N : Nat, n = N := ⟨n.toNat, by omega⟩
        simp only [Try.f14, inl, JB_all, hm, h1, h8, zs, fs, sv, fv, rf1, List.set_set, T29, T30, T41, hfree_fr, hfree_cf, cv', cf_eta, frz_u, shC_dec, dC, T23, T28, T25, hfree_lu, hfree_l0, row0, row1, row2, row3, row4, row5, shI_dec, shN_dec, shB_dec, shM_dec, dI, dN, dB, dM, dU, dU_map, iv, bv, u, ms, ctx_T, ctx_C, ctx_P, T4, T3, T26, Option.bind_some, Option.bind_none, Option.map_some, List.length_map, List.length_set, String.reduceBEq, Int.toNat_natCast, Bool.true_beq, Bool.false_beq, T24, shF_dec, dF, fr_eta, Int.cast_ofNat_Int, Int.reduceSub, Int.reduceAdd, Int.reduceNeg, ev1, ev2, implies_true, undef, stepP, drawB, stepL, lateB, lateB0, rdsT, rdsAny, isRd, afterL, preB, callLB, callLV, lateV, dstV, dynCall, ↓condE_t, ↓condE_f, ↓guardE_tt, ↓guardE_ff, ↓guardE_tf, ↓guardE_ft, frzDeep, deepArgs, deepArg, resB, cv, stepB, stepE, callD, tabD, snapD, snap1, snapC, snapId, snapIds, guardB, guardC, dstAt, aopR, one, pre, binR, intOpR, shiftOpR, unR, argFrm, evo, lkp, hlk, lenOf, asLst, idOf, bndA, srcOk, ofVal, ofCells, setCells, fillA, setElems, fieldsOf, fieldsEq, scalEq, isEq, AV.wr, AV.ok1, TK.agg, frz, frzs, frzA, frzArg, frzArgs, subA, subL, sub1, kp, kh, accOf, List.replicate, Nat.reduceAdd, Nat.reduceSub, Nat.reduceMul, Nat.reduceEqDiff, Nat.reduceLT, Nat.reduceLeDiff, Nat.reduceBEq, reduceIte, reduceCtorEq, eq_self, ne_eq, Int.reduceToNat, Int.reduceLT, Int.reduceLE, Int.reduceGT, Int.reduceGE, Int.reduceBEq, Int.reduceBNe, Int.reduceEq, Int.reduceNe]
        have hZ' : ((N + 1 : Nat) : Int) = (N : Int) + 1 := by omega
        refine WP.virt 14 28 7 rfl (by decide) ?_
        refine WP.loop (ι := Nat × Nat) (fun i => N + 1 - i.1) (fun i => i.1 ≤ N + 1 ∧ (i.2 = 26 ∨ 27 ≤ i.2)) (n := 152)
          (fr := fun i => [(16, iv i.1), (14, .arr i.2 0 i.1), (15, .v (.slice none 0 0)), (13, ms (zeros (lSize ⟨1, d, 1, 0⟩).toNat)), (11, .ptr 5 0 0), (1, iv N), (2, fs own), (3, zs who)])
          (hp := fun i => [(i.2, some ⟨false, 28, 7, (List.replicate i.1 noneF).map fv⟩), (5, some ⟨false, 23, 4, [cv' ⟨1, d, 1, 0⟩]⟩)]) (N := 27) ?_ (0, 26) ⟨Nat.zero_le _, .inl rfl⟩ rfl (Nat.le_refl _) ⟨rfl, rfl, rfl, rfl, rfl, rfl, rfl, rfl, trivial⟩ ⟨rfl, rfl, trivial⟩
        rintro ⟨j, id⟩ nx ⟨hj, hid0⟩ hN hid
        dsimp only at hj hid0 hN hid ⊢
        have b0 : Nat.beq id 5 = false := by rw [← Bool.not_eq_true, Nat.beq_eq]; omega
        have b2 : Nat.beq 5 id = false := by rw [← Bool.not_eq_true, Nat.beq_eq]; omega
        have hidn : id < nx := hid id ⟨false, 28, 7, (List.replicate j noneF).map fv⟩ (by simp only [hlk, nb_self])
        have n0 : 5 < nx := by omega
        refine WP.of okJB 1 (by rfl) ?_
        by_cases hjc : (j : Int) ≤ N
        · have ww : IntKind.wrap .i64 ((j : Int) + 1) = ((j + 1 : Nat) : Int) := by rw [wrap_i (by omega) (by omega)]; omega
          have hcap : (j + 1) * 56 ≤ 140737488355328 := by omega
          have hlr : (List.replicate j noneF).length = j := List.length_replicate
          have htk : List.take j ((List.replicate j noneF).map fv) = (List.replicate j noneF).map fv := List.take_of_length_le (by simp)
          simp only [JB_all, hjc, ww, hcap, hlr, htk, b0, b2, n0, hidn, Nat.le_refl, zs, fs, sv, fv, rf1, List.set_set, T29, T30, T41, nb_self, nb_same, nb_l0, nb_r0, nb_lt, nb_gt, nb_lt0, nb_gt0, Nat.add_assoc, hfree_fr, hfree_cf, cv', cf_eta, frz_u, shC_dec, dC, T23, T28, T25, hfree_lu, hfree_l0, row0, row1, row2, row3, row4, row5, shI_dec, shN_dec, shB_dec, shM_dec, dI, dN, dB, dM, dU, dU_map, iv, bv, u, ms, ctx_T, ctx_C, ctx_P, T4, T3, T26, Option.bind_some, Option.bind_none, Option.map_some, List.length_map, List.length_set, String.reduceBEq, Int.toNat_natCast, Bool.true_beq, Bool.false_beq, T24, shF_dec, dF, fr_eta, Int.cast_ofNat_Int, Int.reduceSub, Int.reduceAdd, Int.reduceNeg, ev1, ev2, implies_true, undef, stepP, drawB, stepL, lateB, lateB0, rdsT, rdsAny, isRd, afterL, preB, callLB, callLV, lateV, dstV, dynCall, ↓condE_t, ↓condE_f, ↓guardE_tt, ↓guardE_ff, ↓guardE_tf, ↓guardE_ft, frzDeep, deepArgs, deepArg, resB, cv, stepB, stepE, callD, tabD, snapD, snap1, snapC, snapId, snapIds, guardB, guardC, dstAt, aopR, one, pre, binR, intOpR, shiftOpR, unR, argFrm, evo, lkp, hlk, lenOf, asLst, idOf, bndA, srcOk, ofVal, ofCells, setCells, fillA, setElems, fieldsOf, fieldsEq, scalEq, isEq, AV.wr, AV.ok1, TK.agg, frz, frzs, frzA, frzArg, frzArgs, subA, subL, sub1, kp, kh, accOf, List.replicate, Nat.reduceAdd, Nat.reduceSub, Nat.reduceMul, Nat.reduceEqDiff, Nat.reduceLT, Nat.reduceLeDiff, Nat.reduceBEq, reduceIte, reduceCtorEq, eq_self, ne_eq, Int.reduceToNat, Int.reduceLT, Int.reduceLE, Int.reduceGT, Int.reduceGE, Int.reduceBEq, Int.reduceBNe, Int.reduceEq, Int.reduceNe]
          refine ⟨(j + 1, nx + 6), by dsimp only; omega, ⟨by dsimp only; omega, .inr (by dsimp only; omega)⟩, ⟨rfl, rfl⟩, ?_⟩
          simp only [nb_self]
          rw [List.replicate_succ' (n := j)]
          rfl
        · have hje : j = N + 1 := by omega
          subst hje
          simp only [JB_all, hjc, b0, b2, n0, hidn, zs, fs, sv, fv, rf1, List.set_set, T29, T30, T41, nb_self, nb_same, nb_l0, nb_r0, nb_lt, nb_gt, nb_lt0, nb_gt0, Nat.add_assoc, hfree_fr, hfree_cf, cv', cf_eta, frz_u, shC_dec, dC, T23, T28, T25, hfree_lu, hfree_l0, row0, row1, row2, row3, row4, row5, shI_dec, shN_dec, shB_dec, shM_dec, dI, dN, dB, dM, dU, dU_map, iv, bv, u, ms, ctx_T, ctx_C, ctx_P, T4, T3, T26, Option.bind_some, Option.bind_none, Option.map_some, List.length_map, List.length_set, String.reduceBEq, Int.toNat_natCast, Bool.true_beq, Bool.false_beq, T24, shF_dec, dF, fr_eta, Int.cast_ofNat_Int, Int.reduceSub, Int.reduceAdd, Int.reduceNeg, ev1, ev2, implies_true, undef, stepP, drawB, stepL, lateB, lateB0, rdsT, rdsAny, isRd, afterL, preB, callLB, callLV, lateV, dstV, dynCall, ↓condE_t, ↓condE_f, ↓guardE_tt, ↓guardE_ff, ↓guardE_tf, ↓guardE_ft, frzDeep, deepArgs, deepArg, resB, cv, stepB, stepE, callD, tabD, snapD, snap1, snapC, snapId, snapIds, guardB, guardC, dstAt, aopR, one, pre, binR, intOpR, shiftOpR, unR, argFrm, evo, lkp, hlk, lenOf, asLst, idOf, bndA, srcOk, ofVal, ofCells, setCells, fillA, setElems, fieldsOf, fieldsEq, scalEq, isEq, AV.wr, AV.ok1, TK.agg, frz, frzs, frzA, frzArg, frzArgs, subA, subL, sub1, kp, kh, accOf, List.replicate, Nat.reduceAdd, Nat.reduceSub, Nat.reduceMul, Nat.reduceEqDiff, Nat.reduceLT, Nat.reduceLeDiff, Nat.reduceBEq, reduceIte, reduceCtorEq, eq_self, ne_eq, Int.reduceToNat, Int.reduceLT, Int.reduceLE, Int.reduceGT, Int.reduceGE, Int.reduceBEq, Int.reduceBNe, Int.reduceEq, Int.reduceNe]
          obtain ⟨S, hS⟩ := dplays len_dqStep ⟨1, d, 1, 0⟩ N own who
          refine WP.virt 15 28 7 rfl (by decide) ?_
          refine WP.loop (ι := Nat × Nat) (fun i => who.length - i.1) (fun i => i.1 ≤ who.length ∧ (i.2 = nx + 5 ∨ nx + 6 ≤ i.2)) (n := 152)
            (fr := fun i => [(18, iv i.1), (17, iv (own.length - (S i.1).own.length : Nat)), (15, .arr i.2 0 (S i.1).over.length), (14, .arr id 0 (N + 1)), (13, ms (S i.1).m), (11, .ptr 5 0 0), (1, iv N), (2, fs own), (3, zs who)])
            (hp := fun i => [(i.2, some ⟨false, 28, 7, (S i.1).over.map fv⟩), (id, some ⟨false, 28, 7, (S i.1).hand.map fv⟩), (5, some ⟨false, 23, 4, [cv' ⟨1, d, 1, 0⟩]⟩)]) (N := nx + 6) ?_ (0, nx + 5) ⟨Nat.zero_le _, .inl rfl⟩ rfl (Nat.le_refl _) ?_ ?_
          · rintro ⟨k, od⟩ nx2 ⟨hk, hod⟩ hN2 hid2
            dsimp only at hk hod hN2 hid2 ⊢
            have c0 : Nat.beq od 5 = false := by rw [← Bool.not_eq_true, Nat.beq_eq]; omega
            have c2 : Nat.beq 5 od = false := by rw [← Bool.not_eq_true, Nat.beq_eq]; omega
            have c4 : Nat.beq id od = false := by rw [← Bool.not_eq_true, Nat.beq_eq]; omega
            have c5 : Nat.beq od id = false := by rw [← Bool.not_eq_true, Nat.beq_eq]; omega
            have hodn : od < nx2 := hid2 od ⟨false, 28, 7, (S k).over.map fv⟩ (by simp only [hlk, nb_self])
            have m0 : 5 < nx2 := by omega
            have m2 : id < nx2 := by omega
            have hh := hS.hand k
            have hml := hS.m k
            have hov := hS.over k
            have hsn := hS.sane op_dqStep dqStep_none k
            have hsf := hS.suf k
            have hs1 := hS.succ k
            have hla := hS.last
            have hdu := hS.inv DU (dStart_u hu) (fun s i hs => dTurn_u hs i) k
            generalize hSk : S k = s at hh hml hov hsn hsf hs1 hdu ⊢
            obtain ⟨m, ow, hand, over⟩ := s
            dsimp only at hh hml hov hsf hs1 ⊢
            have hh1 : hand.length = N + 1 := by omega
            have hlen : over.length ≤ 1000 := by omega
            have hcap : (over.length + 1) * 56 ≤ 140737488355328 := by omega
            refine WP.of okJB 1 (by rfl) ?_
            by_cases hkw : k < who.length
            · have hkw' : (k : Int) < who.length := by omega
              have ww : IntKind.wrap .i64 ((k : Int) + 1) = ((k + 1 : Nat) : Int) := by rw [wrap_i (by omega) (by omega)]; omega
              have hk0 : (0 : Int) ≤ k := by omega
              have hg := getD_z hkw
              have hs2 := hs1 hkw
              generalize who.getD k 0 = i at hg hs2
              by_cases h0 : i < 0
              · have hs4 : S (k + 1) = ⟨m, ow, hand, over⟩ := by rw [hs2, dTurn, if_neg (by omega)]
                simp only [JB_all, hkw', hk0, hg, h0, ww, hh1, b0, b2, c0, c2, c4, c5, m0, m2, hodn, Nat.le_refl, zs, fs, sv, fv, rf1, List.set_set, T29, T30, T41, nb_self, nb_same, nb_l0, nb_r0, nb_lt, nb_gt, nb_lt0, nb_gt0, Nat.add_assoc, hfree_fr, hfree_cf, cv', cf_eta, frz_u, shC_dec, dC, T23, T28, T25, hfree_lu, hfree_l0, row0, row1, row2, row3, row4, row5, shI_dec, shN_dec, shB_dec, shM_dec, dI, dN, dB, dM, dU, dU_map, iv, bv, u, ms, ctx_T, ctx_C, ctx_P, T4, T3, T26, Option.bind_some, Option.bind_none, Option.map_some, List.length_map, List.length_set, String.reduceBEq, Int.toNat_natCast, Bool.true_beq, Bool.false_beq, T24, shF_dec, dF, fr_eta, Int.cast_ofNat_Int, Int.reduceSub, Int.reduceAdd, Int.reduceNeg, ev1, ev2, implies_true, undef, stepP, drawB, stepL, lateB, lateB0, rdsT, rdsAny, isRd, afterL, preB, callLB, callLV, lateV, dstV, dynCall, ↓condE_t, ↓condE_f, ↓guardE_tt, ↓guardE_ff, ↓guardE_tf, ↓guardE_ft, frzDeep, deepArgs, deepArg, resB, cv, stepB, stepE, callD, tabD, snapD, snap1, snapC, snapId, snapIds, guardB, guardC, dstAt, aopR, one, pre, binR, intOpR, shiftOpR, unR, argFrm, evo, lkp, hlk, lenOf, asLst, idOf, bndA, srcOk, ofVal, ofCells, setCells, fillA, setElems, fieldsOf, fieldsEq, scalEq, isEq, AV.wr, AV.ok1, TK.agg, frz, frzs, frzA, frzArg, frzArgs, subA, subL, sub1, kp, kh, accOf, List.replicate, Nat.reduceAdd, Nat.reduceSub, Nat.reduceMul, Nat.reduceEqDiff, Nat.reduceLT, Nat.reduceLeDiff, Nat.reduceBEq, reduceIte, reduceCtorEq, eq_self, ne_eq, Int.reduceToNat, Int.reduceLT, Int.reduceLE, Int.reduceGT, Int.reduceGE, Int.reduceBEq, Int.reduceBNe, Int.reduceEq, Int.reduceNe]
                refine ⟨(k + 1, od), by dsimp only; omega, ⟨by dsimp only; omega, hod⟩, ?_⟩
                simp only [hs4, nb_self]
                repeat' apply And.intro
                all_goals first | trivial | rfl
              · by_cases h1 : i > N
                · have hs4 : S (k + 1) = ⟨m, ow, hand, over⟩ := by rw [hs2, dTurn, if_neg (by omega)]
                  simp only [JB_all, hkw', hk0, hg, h0, h1, ww, hh1, b0, b2, c0, c2, c4, c5, m0, m2, hodn, Nat.le_refl, zs, fs, sv, fv, rf1, List.set_set, T29, T30, T41, nb_self, nb_same, nb_l0, nb_r0, nb_lt, nb_gt, nb_lt0, nb_gt0, Nat.add_assoc, hfree_fr, hfree_cf, cv', cf_eta, frz_u, shC_dec, dC, T23, T28, T25, hfree_lu, hfree_l0, row0, row1, row2, row3, row4, row5, shI_dec, shN_dec, shB_dec, shM_dec, dI, dN, dB, dM, dU, dU_map, iv, bv, u, ms, ctx_T, ctx_C, ctx_P, T4, T3, T26, Option.bind_some, Option.bind_none, Option.map_some, List.length_map, List.length_set, String.reduceBEq, Int.toNat_natCast, Bool.true_beq, Bool.false_beq, T24, shF_dec, dF, fr_eta, Int.cast_ofNat_Int, Int.reduceSub, Int.reduceAdd, Int.reduceNeg, ev1, ev2, implies_true, undef, stepP, drawB, stepL, lateB, lateB0, rdsT, rdsAny, isRd, afterL, preB, callLB, callLV, lateV, dstV, dynCall, ↓condE_t, ↓condE_f, ↓guardE_tt, ↓guardE_ff, ↓guardE_tf, ↓guardE_ft, frzDeep, deepArgs, deepArg, resB, cv, stepB, stepE, callD, tabD, snapD, snap1, snapC, snapId, snapIds, guardB, guardC, dstAt, aopR, one, pre, binR, intOpR, shiftOpR, unR, argFrm, evo, lkp, hlk, lenOf, asLst, idOf, bndA, srcOk, ofVal, ofCells, setCells, fillA, setElems, fieldsOf, fieldsEq, scalEq, isEq, AV.wr, AV.ok1, TK.agg, frz, frzs, frzA, frzArg, frzArgs, subA, subL, sub1, kp, kh, accOf, List.replicate, Nat.reduceAdd, Nat.reduceSub, Nat.reduceMul, Nat.reduceEqDiff, Nat.reduceLT, Nat.reduceLeDiff, Nat.reduceBEq, reduceIte, reduceCtorEq, eq_self, ne_eq, Int.reduceToNat, Int.reduceLT, Int.reduceLE, Int.reduceGT, Int.reduceGE, Int.reduceBEq, Int.reduceBNe, Int.reduceEq, Int.reduceNe]
                  refine ⟨(k + 1, od), by dsimp only; omega, ⟨by dsimp only; omega, hod⟩, ?_⟩
                  simp only [hs4, nb_self]
                  repeat' apply And.intro
                  all_goals first | trivial | rfl
                · obtain ⟨i', rfl⟩ := Int.eq_ofNat_of_zero_le (show 0 ≤ i by omega)
                  have hi3 : i' < N + 1 := by omega
                  have hi0 : (0 : Int) ≤ (i' : Int) := by omega
                  have hi4 : (i' : Int) < ((N + 1 : Nat) : Int) := by omega
                  have hs3 : S (k + 1) = dRound dqStep ⟨1, d, 1, 0⟩ ⟨m, ow, hand, over⟩ i' := by rw [hs2, dTurn, if_pos (by omega), Int.toNat_natCast]
                  have hsi := suf_drop hsf
                  have hsl := hsf.length_le
                  have hhi : i' < hand.length := by omega
                  have g1 := getD_f (l := hand) (k := i') hhi
                  have g3 : hand.getD i' noneF = hand.getD i' fr0 := getD_in hhi
                  have hus := dHand_u hdu i'
                  have huh := hdu.hand.get i'
                  have hsni := hsn i'
                  obtain ⟨P, hP⟩ : ∃ P, P = dHand ⟨m, ow, hand, over⟩ i' := ⟨_, rfl⟩
                  rw [← hP] at hus
                  dsimp only at huh hsni
                  by_cases hA : (hand.getD i' fr0).op = -1 ∧ 0 < i'
                  · obtain ⟨hA1, hA2⟩ := hA
                    have hPv : P = (⟨2, 0, 0, 0, 0, 0, 0⟩, ow) := by rw [hP, dHand]; dsimp only; rw [g3, if_pos hA1, nextD, if_pos hA2]
                    obtain ⟨a0, hae⟩ : ∃ a0 : Fr, a0 = ⟨2, 0, 0, 0, 0, 0, 0⟩ := ⟨_, rfl⟩
                    have ua0 : UFr a0 := by rw [hae]; exact ⟨u0, u0, u0⟩
                    have ha0 : (a0 = noneF ∧ i' = 0 ∧ nextO (own.drop (own.length - ow.length)) = P) ∨ ((a0.op = 0 ∨ a0.op = 1 ∨ a0.op = 2) ∧ (a0, own.drop (own.length - ow.length)) = P) ∨ (a0 = noneF ∧ own.length - ow.length = own.length ∧ (a0, own.drop (own.length - ow.length)) = P) :=
                      .inr (.inl ⟨.inr (.inr (by rw [hae])), by rw [hsi, hPv, hae]⟩)
                    have hA1' : ((hand.getD i' fr0).op < 0) = True := eq_true (by omega)
                    have hA2' : ((i' : Int) > 0) = True := eq_true (by omega)
                    have hhs : ∀ q : Nat, q = q := fun _ => rfl
                    simp only [JB_all, hkw', hk0, hg, h0, h1, g1, hA1', hA2', hi0, hi3, hi4, ww, hh1, b0, b2, c0, c2, c4, c5, m0, m2, hodn, Nat.le_refl, zs, fs, sv, fv, fBegin, Int.toNat_natCast, rf1, List.set_set, T29, T30, T41, nb_self, nb_same, nb_l0, nb_r0, nb_lt, nb_gt, nb_lt0, nb_gt0, Nat.add_assoc, hfree_fr, hfree_cf, cv', cf_eta, frz_u, shC_dec, dC, T23, T28, T25, hfree_lu, hfree_l0, row0, row1, row2, row3, row4, row5, shI_dec, shN_dec, shB_dec, shM_dec, dI, dN, dB, dM, dU, dU_map, iv, bv, u, ms, ctx_T, ctx_C, ctx_P, T4, T3, T26, Option.bind_some, Option.bind_none, Option.map_some, List.length_map, List.length_set, String.reduceBEq, Int.toNat_natCast, Bool.true_beq, Bool.false_beq, T24, shF_dec, dF, fr_eta, Int.cast_ofNat_Int, Int.reduceSub, Int.reduceAdd, Int.reduceNeg, ev1, ev2, implies_true, undef, stepP, drawB, stepL, lateB, lateB0, rdsT, rdsAny, isRd, afterL, preB, callLB, callLV, lateV, dstV, dynCall, ↓condE_t, ↓condE_f, ↓guardE_tt, ↓guardE_ff, ↓guardE_tf, ↓guardE_ft, frzDeep, deepArgs, deepArg, resB, cv, stepB, stepE, callD, tabD, snapD, snap1, snapC, snapId, snapIds, guardB, guardC, dstAt, aopR, one, pre, binR, intOpR, shiftOpR, unR, argFrm, evo, lkp, hlk, lenOf, asLst, idOf, bndA, srcOk, ofVal, ofCells, setCells, fillA, setElems, fieldsOf, fieldsEq, scalEq, isEq, AV.wr, AV.ok1, TK.agg, frz, frzs, frzA, frzArg, frzArgs, subA, subL, sub1, kp, kh, accOf, List.replicate, Nat.reduceAdd, Nat.reduceSub, Nat.reduceMul, Nat.reduceEqDiff, Nat.reduceLT, Nat.reduceLeDiff, Nat.reduceBEq, reduceIte, reduceCtorEq, eq_self, ne_eq, Int.reduceToNat, Int.reduceLT, Int.reduceLE, Int.reduceGT, Int.reduceGE, Int.reduceBEq, Int.reduceBNe, Int.reduceEq, Int.reduceNe]
                    rw [← hae]
                    refine WP.loop (ι := Nat × Fr) (fun j => own.length - j.1) (fun j => j.1 ≤ own.length ∧ UFr j.2 ∧ ((j.2 = noneF ∧ i' = 0 ∧ nextO (own.drop j.1) = P) ∨ ((j.2.op = 0 ∨ j.2.op = 1 ∨ j.2.op = 2) ∧ (j.2, own.drop j.1) = P) ∨ (j.2 = noneF ∧ j.1 = own.length ∧ (j.2, own.drop j.1) = P))) (n := 152)
                      (fr := fun j => [(19, iv i'), (18, iv k), (17, iv j.1), (15, .arr od 0 over.length), (14, .arr id 0 (N + 1)), (13, ms m), (11, .ptr 5 0 0), (1, iv N), (2, fs own), (3, zs who)])
                      (hp := fun j => [(od, some ⟨false, 28, 7, over.map fv⟩), (id, some ⟨false, 28, 7, (hand.set i' j.2).map fv⟩), (5, some ⟨false, 23, 4, [cv' ⟨1, d, 1, 0⟩]⟩)]) (N := nx2) ?_ (own.length - ow.length, a0) ⟨by dsimp only; omega, ua0, ha0⟩ rfl (by dsimp only; omega) ⟨rfl, rfl, rfl, rfl, rfl, rfl, rfl, rfl, rfl, rfl, trivial⟩ ?_
                    · rintro ⟨q, a⟩ nx3 ⟨hq, ua, hqa⟩ hN3 hid3
                      dsimp only at hq ua hqa hid3 ⊢
                      have s0 : 5 < nx3 := by omega
                      have s2 : id < nx3 := by omega
                      have s3 : od < nx3 := by omega
                      have g5 := getD_set_f hhi a
                      have hq0 : (0 : Int) ≤ (q : Int) := by omega
                      have ux : inUb a.x = true := inUb_iff.2 ua.x
                      have uy : inUb a.y = true := inUb_iff.2 ua.y
                      refine WP.of okJB 1 (by rfl) ?_
                      by_cases hgo : a = noneF ∧ q < own.length
                      · obtain ⟨rfl, hql⟩ := hgo
                        have hql' : (q : Int) < own.length := by omega
                        have wq : IntKind.wrap .i64 ((q : Int) + 1) = ((q + 1 : Nat) : Int) := by rw [wrap_i (by omega) (by omega)]; omega
                        have hq1 : i' = 0 ∧ nextO (own.drop q) = P := by
                          rcases hqa with h | h | h
                          · exact h.2
                          · exfalso; rcases h.1 with h | h | h <;> cases h
                          · exfalso; omega
                        obtain ⟨hi00, hq1⟩ := hq1
                        have gx := getD_f hql
                        have uxv : InU (own.getD q fr0).val := hu _ (by
                          have : own.getD q fr0 = own[q] := by simp [List.getD_eq_getElem?_getD, hql]
                          rw [this]; exact List.getElem_mem _)
                        rw [drop_f1 hql] at hq1
                        generalize own.getD q fr0 = x1 at gx hq1 uxv
                        have en : (noneF.op < 0) = True := eq_true (by decide)
                        simp only [noneF] at g5 en
                        by_cases h3 : x1.op = 0
                        · have e3 : (x1.op == 0) = true := by simpa using h3
                          rw [nextO, if_pos (.inl h3)] at hq1
                          simp only [JB_all, g5, hi0, hq0, hi3, hi4, hh1, gx, hql', wq, e3, en, b0, b2, c0, c2, c4, c5, s0, s2, s3, Nat.le_refl, zs, fs, sv, fv, fBegin, noneF, Int.toNat_natCast, rf1, List.set_set, T29, T30, T41, nb_self, nb_same, nb_l0, nb_r0, nb_lt, nb_gt, nb_lt0, nb_gt0, Nat.add_assoc, hfree_fr, hfree_cf, cv', cf_eta, frz_u, shC_dec, dC, T23, T28, T25, hfree_lu, hfree_l0, row0, row1, row2, row3, row4, row5, shI_dec, shN_dec, shB_dec, shM_dec, dI, dN, dB, dM, dU, dU_map, iv, bv, u, ms, ctx_T, ctx_C, ctx_P, T4, T3, T26, Option.bind_some, Option.bind_none, Option.map_some, List.length_map, List.length_set, String.reduceBEq, Int.toNat_natCast, Bool.true_beq, Bool.false_beq, T24, shF_dec, dF, fr_eta, Int.cast_ofNat_Int, Int.reduceSub, Int.reduceAdd, Int.reduceNeg, ev1, ev2, implies_true, undef, stepP, drawB, stepL, lateB, lateB0, rdsT, rdsAny, isRd, afterL, preB, callLB, callLV, lateV, dstV, dynCall, ↓condE_t, ↓condE_f, ↓guardE_tt, ↓guardE_ff, ↓guardE_tf, ↓guardE_ft, frzDeep, deepArgs, deepArg, resB, cv, stepB, stepE, callD, tabD, snapD, snap1, snapC, snapId, snapIds, guardB, guardC, dstAt, aopR, one, pre, binR, intOpR, shiftOpR, unR, argFrm, evo, lkp, hlk, lenOf, asLst, idOf, bndA, srcOk, ofVal, ofCells, setCells, fillA, setElems, fieldsOf, fieldsEq, scalEq, isEq, AV.wr, AV.ok1, TK.agg, frz, frzs, frzA, frzArg, frzArgs, subA, subL, sub1, kp, kh, accOf, List.replicate, Nat.reduceAdd, Nat.reduceSub, Nat.reduceMul, Nat.reduceEqDiff, Nat.reduceLT, Nat.reduceLeDiff, Nat.reduceBEq, reduceIte, reduceCtorEq, eq_self, ne_eq, Int.reduceToNat, Int.reduceLT, Int.reduceLE, Int.reduceGT, Int.reduceGE, Int.reduceBEq, Int.reduceBNe, Int.reduceEq, Int.reduceNe]
                          repeat' apply And.intro
                          try any_goals (show entryOk _ _ _ _ _ = true; (repeat (first | exact entryOk_nil _ _ _ _ | (refine entryOk_step ?h ?_; case h => (first | (apply Or.inr; constructor <;> simp [meets] <;> omega; done) | (apply Or.inl; show anc _ _ _ _ = true; kernel_rfl))))))
                          exact ⟨(q + 1, ⟨x1.op, 0, 0, x1.val, 0, 0, 0⟩), by dsimp only; omega, ⟨by dsimp only; omega, ⟨uxv, u0, u0⟩, .inr (.inl ⟨.inl h3, hq1⟩)⟩, rfl, rfl⟩
                        · have e3 : (x1.op == 0) = false := by simpa using h3
                          by_cases h4 : x1.op = 1
                          · have e4 : (x1.op == 1) = true := by simpa using h4
                            rw [nextO, if_pos (.inr h4)] at hq1
                            simp only [JB_all, g5, hi0, hq0, hi3, hi4, hh1, gx, hql', wq, e3, e4, en, b0, b2, c0, c2, c4, c5, s0, s2, s3, Nat.le_refl, zs, fs, sv, fv, fBegin, noneF, Int.toNat_natCast, rf1, List.set_set, T29, T30, T41, nb_self, nb_same, nb_l0, nb_r0, nb_lt, nb_gt, nb_lt0, nb_gt0, Nat.add_assoc, hfree_fr, hfree_cf, cv', cf_eta, frz_u, shC_dec, dC, T23, T28, T25, hfree_lu, hfree_l0, row0, row1, row2, row3, row4, row5, shI_dec, shN_dec, shB_dec, shM_dec, dI, dN, dB, dM, dU, dU_map, iv, bv, u, ms, ctx_T, ctx_C, ctx_P, T4, T3, T26, Option.bind_some, Option.bind_none, Option.map_some, List.length_map, List.length_set, String.reduceBEq, Int.toNat_natCast, Bool.true_beq, Bool.false_beq, T24, shF_dec, dF, fr_eta, Int.cast_ofNat_Int, Int.reduceSub, Int.reduceAdd, Int.reduceNeg, ev1, ev2, implies_true, undef, stepP, drawB, stepL, lateB, lateB0, rdsT, rdsAny, isRd, afterL, preB, callLB, callLV, lateV, dstV, dynCall, ↓condE_t, ↓condE_f, ↓guardE_tt, ↓guardE_ff, ↓guardE_tf, ↓guardE_ft, frzDeep, deepArgs, deepArg, resB, cv, stepB, stepE, callD, tabD, snapD, snap1, snapC, snapId, snapIds, guardB, guardC, dstAt, aopR, one, pre, binR, intOpR, shiftOpR, unR, argFrm, evo, lkp, hlk, lenOf, asLst, idOf, bndA, srcOk, ofVal, ofCells, setCells, fillA, setElems, fieldsOf, fieldsEq, scalEq, isEq, AV.wr, AV.ok1, TK.agg, frz, frzs, frzA, frzArg, frzArgs, subA, subL, sub1, kp, kh, accOf, List.replicate, Nat.reduceAdd, Nat.reduceSub, Nat.reduceMul, Nat.reduceEqDiff, Nat.reduceLT, Nat.reduceLeDiff, Nat.reduceBEq, reduceIte, reduceCtorEq, eq_self, ne_eq, Int.reduceToNat, Int.reduceLT, Int.reduceLE, Int.reduceGT, Int.reduceGE, Int.reduceBEq, Int.reduceBNe, Int.reduceEq, Int.reduceNe]
                            repeat' apply And.intro
                            try any_goals (show entryOk _ _ _ _ _ = true; (repeat (first | exact entryOk_nil _ _ _ _ | (refine entryOk_step ?h ?_; case h => (first | (apply Or.inr; constructor <;> simp [meets] <;> omega; done) | (apply Or.inl; show anc _ _ _ _ = true; kernel_rfl))))))
                            exact ⟨(q + 1, ⟨x1.op, 0, 0, x1.val, 0, 0, 0⟩), by dsimp only; omega, ⟨by dsimp only; omega, ⟨uxv, u0, u0⟩, .inr (.inl ⟨.inr (.inl h4), hq1⟩)⟩, rfl, rfl⟩
                          · have e4 : (x1.op == 1) = false := by simpa using h4
                            rw [nextO, if_neg (by simp [h3, h4])] at hq1
                            simp only [JB_all, g5, hi0, hq0, hi3, hi4, hh1, gx, hql', wq, e3, e4, en, b0, b2, c0, c2, c4, c5, s0, s2, s3, Nat.le_refl, zs, fs, sv, fv, fBegin, noneF, Int.toNat_natCast, rf1, List.set_set, T29, T30, T41, nb_self, nb_same, nb_l0, nb_r0, nb_lt, nb_gt, nb_lt0, nb_gt0, Nat.add_assoc, hfree_fr, hfree_cf, cv', cf_eta, frz_u, shC_dec, dC, T23, T28, T25, hfree_lu, hfree_l0, row0, row1, row2, row3, row4, row5, shI_dec, shN_dec, shB_dec, shM_dec, dI, dN, dB, dM, dU, dU_map, iv, bv, u, ms, ctx_T, ctx_C, ctx_P, T4, T3, T26, Option.bind_some, Option.bind_none, Option.map_some, List.length_map, List.length_set, String.reduceBEq, Int.toNat_natCast, Bool.true_beq, Bool.false_beq, T24, shF_dec, dF, fr_eta, Int.cast_ofNat_Int, Int.reduceSub, Int.reduceAdd, Int.reduceNeg, ev1, ev2, implies_true, undef, stepP, drawB, stepL, lateB, lateB0, rdsT, rdsAny, isRd, afterL, preB, callLB, callLV, lateV, dstV, dynCall, ↓condE_t, ↓condE_f, ↓guardE_tt, ↓guardE_ff, ↓guardE_tf, ↓guardE_ft, frzDeep, deepArgs, deepArg, resB, cv, stepB, stepE, callD, tabD, snapD, snap1, snapC, snapId, snapIds, guardB, guardC, dstAt, aopR, one, pre, binR, intOpR, shiftOpR, unR, argFrm, evo, lkp, hlk, lenOf, asLst, idOf, bndA, srcOk, ofVal, ofCells, setCells, fillA, setElems, fieldsOf, fieldsEq, scalEq, isEq, AV.wr, AV.ok1, TK.agg, frz, frzs, frzA, frzArg, frzArgs, subA, subL, sub1, kp, kh, accOf, List.replicate, Nat.reduceAdd, Nat.reduceSub, Nat.reduceMul, Nat.reduceEqDiff, Nat.reduceLT, Nat.reduceLeDiff, Nat.reduceBEq, reduceIte, reduceCtorEq, eq_self, ne_eq, Int.reduceToNat, Int.reduceLT, Int.reduceLE, Int.reduceGT, Int.reduceGE, Int.reduceBEq, Int.reduceBNe, Int.reduceEq, Int.reduceNe]
                            repeat' apply And.intro
                            try any_goals (show entryOk _ _ _ _ _ = true; (repeat (first | exact entryOk_nil _ _ _ _ | (refine entryOk_step ?h ?_; case h => (first | (apply Or.inr; constructor <;> simp [meets] <;> omega; done) | (apply Or.inl; show anc _ _ _ _ = true; kernel_rfl))))))
                            exact ⟨(q + 1, noneF), by dsimp only; omega, ⟨by dsimp only; omega, none_ufr, .inl ⟨rfl, hi00, hq1⟩⟩, rfl, rfl⟩
                      · have hPa : P = (a, own.drop q) := by
                          rcases hqa with ⟨h, h', h''⟩ | ⟨_, h⟩ | ⟨_, _, h⟩
                          · have : ¬ q < own.length := fun h2 => hgo ⟨h, h2⟩
                            rw [← h'', List.drop_eq_nil_of_le (by omega), h]; rfl
                          · exact h.symm
                          · exact h.symm
                        rw [hPa] at hP
                        obtain ⟨m', g, e2⟩ : ∃ x y, dqStep ⟨1, d, 1, 0⟩ m a = (x, y) := ⟨_, _, rfl⟩
                        have hnx : own.length - (own.drop q).length = q := by rw [List.length_drop]; omega
                        have hcd : (a.op < 0) = False ∨ ((a.op < 0) = True ∧ ((q : Int) < (own.length : Int)) = False) := by
                          rcases hqa with ⟨h, h'⟩ | ⟨h, _⟩ | ⟨h, h', _⟩
                          · refine .inr ⟨by rw [h]; exact eq_true (by decide), eq_false (fun h2 => hgo ⟨h, by omega⟩)⟩
                          · exact .inl (eq_false (by omega))
                          · refine .inr ⟨by rw [h]; exact eq_true (by decide), eq_false (by omega)⟩
                        have g6 := getD_set_f hhi g
                        by_cases hr : g.res = 0
                        · have hr' : (g.res != 0) = false := by simpa using hr
                          have hs4 : S (k + 1) = ⟨m', own.drop q, hand.set i' g, over⟩ := by rw [hs3, dRound, ← hP]; dsimp only; rw [e2]; exact if_pos hr
                          rcases hcd with u1 | ⟨u1, u2⟩
                          · simp only [JB_all, g5, g6, hi0, hq0, hi3, hi4, hh1, u1, ux, uy, e2, hr', ww, hml, hcap, b0, b2, c0, c2, c4, c5, s0, s2, s3, Nat.le_refl, zs, fs, sv, fv, fBegin, noneF, Int.toNat_natCast, rf1, List.set_set, T29, T30, T41, nb_self, nb_same, nb_l0, nb_r0, nb_lt, nb_gt, nb_lt0, nb_gt0, Nat.add_assoc, hfree_fr, hfree_cf, cv', cf_eta, frz_u, shC_dec, dC, T23, T28, T25, hfree_lu, hfree_l0, row0, row1, row2, row3, row4, row5, shI_dec, shN_dec, shB_dec, shM_dec, dI, dN, dB, dM, dU, dU_map, iv, bv, u, ms, ctx_T, ctx_C, ctx_P, T4, T3, T26, Option.bind_some, Option.bind_none, Option.map_some, List.length_map, List.length_set, String.reduceBEq, Int.toNat_natCast, Bool.true_beq, Bool.false_beq, T24, shF_dec, dF, fr_eta, Int.cast_ofNat_Int, Int.reduceSub, Int.reduceAdd, Int.reduceNeg, ev1, ev2, implies_true, undef, stepP, drawB, stepL, lateB, lateB0, rdsT, rdsAny, isRd, afterL, preB, callLB, callLV, lateV, dstV, dynCall, ↓condE_t, ↓condE_f, ↓guardE_tt, ↓guardE_ff, ↓guardE_tf, ↓guardE_ft, frzDeep, deepArgs, deepArg, resB, cv, stepB, stepE, callD, tabD, snapD, snap1, snapC, snapId, snapIds, guardB, guardC, dstAt, aopR, one, pre, binR, intOpR, shiftOpR, unR, argFrm, evo, lkp, hlk, lenOf, asLst, idOf, bndA, srcOk, ofVal, ofCells, setCells, fillA, setElems, fieldsOf, fieldsEq, scalEq, isEq, AV.wr, AV.ok1, TK.agg, frz, frzs, frzA, frzArg, frzArgs, subA, subL, sub1, kp, kh, accOf, List.replicate, Nat.reduceAdd, Nat.reduceSub, Nat.reduceMul, Nat.reduceEqDiff, Nat.reduceLT, Nat.reduceLeDiff, Nat.reduceBEq, reduceIte, reduceCtorEq, eq_self, ne_eq, Int.reduceToNat, Int.reduceLT, Int.reduceLE, Int.reduceGT, Int.reduceGE, Int.reduceBEq, Int.reduceBNe, Int.reduceEq, Int.reduceNe]
                            repeat' apply And.intro
                            any_goals (show entryOk _ _ _ _ _ = true; (repeat (first | exact entryOk_nil _ _ _ _ | (refine entryOk_step ?h ?_; case h => (first | (apply Or.inr; constructor <;> simp [meets] <;> omega; done) | (apply Or.inl; show anc _ _ _ _ = true; kernel_rfl))))))
                            refine ⟨(k + 1, od), by dsimp only; omega, ⟨by dsimp only; omega, hod⟩, ?_⟩
                            simp only [hs4, hnx, nb_self, b0, b2, c0, c2, c4, c5, s0, s2, s3, nb_self, nb_same, nb_l0, nb_r0, nb_lt, nb_gt, nb_lt0, nb_gt0, Nat.add_assoc]
                            repeat' apply And.intro
                            all_goals first | trivial | rfl
                          · simp only [JB_all, g5, g6, hi0, hq0, hi3, hi4, hh1, u1, u2, ux, uy, e2, hr', ww, hml, hcap, b0, b2, c0, c2, c4, c5, s0, s2, s3, Nat.le_refl, zs, fs, sv, fv, fBegin, noneF, Int.toNat_natCast, rf1, List.set_set, T29, T30, T41, nb_self, nb_same, nb_l0, nb_r0, nb_lt, nb_gt, nb_lt0, nb_gt0, Nat.add_assoc, hfree_fr, hfree_cf, cv', cf_eta, frz_u, shC_dec, dC, T23, T28, T25, hfree_lu, hfree_l0, row0, row1, row2, row3, row4, row5, shI_dec, shN_dec, shB_dec, shM_dec, dI, dN, dB, dM, dU, dU_map, iv, bv, u, ms, ctx_T, ctx_C, ctx_P, T4, T3, T26, Option.bind_some, Option.bind_none, Option.map_some, List.length_map, List.length_set, String.reduceBEq, Int.toNat_natCast, Bool.true_beq, Bool.false_beq, T24, shF_dec, dF, fr_eta, Int.cast_ofNat_Int, Int.reduceSub, Int.reduceAdd, Int.reduceNeg, ev1, ev2, implies_true, undef, stepP, drawB, stepL, lateB, lateB0, rdsT, rdsAny, isRd, afterL, preB, callLB, callLV, lateV, dstV, dynCall, ↓condE_t, ↓condE_f, ↓guardE_tt, ↓guardE_ff, ↓guardE_tf, ↓guardE_ft, frzDeep, deepArgs, deepArg, resB, cv, stepB, stepE, callD, tabD, snapD, snap1, snapC, snapId, snapIds, guardB, guardC, dstAt, aopR, one, pre, binR, intOpR, shiftOpR, unR, argFrm, evo, lkp, hlk, lenOf, asLst, idOf, bndA, srcOk, ofVal, ofCells, setCells, fillA, setElems, fieldsOf, fieldsEq, scalEq, isEq, AV.wr, AV.ok1, TK.agg, frz, frzs, frzA, frzArg, frzArgs, subA, subL, sub1, kp, kh, accOf, List.replicate, Nat.reduceAdd, Nat.reduceSub, Nat.reduceMul, Nat.reduceEqDiff, Nat.reduceLT, Nat.reduceLeDiff, Nat.reduceBEq, reduceIte, reduceCtorEq, eq_self, ne_eq, Int.reduceToNat, Int.reduceLT, Int.reduceLE, Int.reduceGT, Int.reduceGE, Int.reduceBEq, Int.reduceBNe, Int.reduceEq, Int.reduceNe]
                            repeat' apply And.intro
                            any_goals (show entryOk _ _ _ _ _ = true; (repeat (first | exact entryOk_nil _ _ _ _ | (refine entryOk_step ?h ?_; case h => (first | (apply Or.inr; constructor <;> simp [meets] <;> omega; done) | (apply Or.inl; show anc _ _ _ _ = true; kernel_rfl))))))
                            refine ⟨(k + 1, od), by dsimp only; omega, ⟨by dsimp only; omega, hod⟩, ?_⟩
                            simp only [hs4, hnx, nb_self, b0, b2, c0, c2, c4, c5, s0, s2, s3, nb_self, nb_same, nb_l0, nb_r0, nb_lt, nb_gt, nb_lt0, nb_gt0, Nat.add_assoc]
                            repeat' apply And.intro
                            all_goals first | trivial | rfl
                        · have hr' : (g.res != 0) = true := by simpa using hr
                          have hs4 : S (k + 1) = ⟨m', own.drop q, hand.set i' noneF, over ++ [withWho g i']⟩ := by rw [hs3, dRound, ← hP]; dsimp only; rw [e2]; exact if_neg hr
                          rcases hcd with u1 | ⟨u1, u2⟩
                          · simp only [JB_all, g5, g6, hi0, hq0, hi3, hi4, hh1, u1, ux, uy, len_snocF, e2, hr', ww, hml, hcap, b0, b2, c0, c2, c4, c5, s0, s2, s3, Nat.le_refl, zs, fs, sv, fv, fBegin, noneF, Int.toNat_natCast, rf1, List.set_set, T29, T30, T41, nb_self, nb_same, nb_l0, nb_r0, nb_lt, nb_gt, nb_lt0, nb_gt0, Nat.add_assoc, hfree_fr, hfree_cf, cv', cf_eta, frz_u, shC_dec, dC, T23, T28, T25, hfree_lu, hfree_l0, row0, row1, row2, row3, row4, row5, shI_dec, shN_dec, shB_dec, shM_dec, dI, dN, dB, dM, dU, dU_map, iv, bv, u, ms, ctx_T, ctx_C, ctx_P, T4, T3, T26, Option.bind_some, Option.bind_none, Option.map_some, List.length_map, List.length_set, String.reduceBEq, Int.toNat_natCast, Bool.true_beq, Bool.false_beq, T24, shF_dec, dF, fr_eta, Int.cast_ofNat_Int, Int.reduceSub, Int.reduceAdd, Int.reduceNeg, ev1, ev2, implies_true, undef, stepP, drawB, stepL, lateB, lateB0, rdsT, rdsAny, isRd, afterL, preB, callLB, callLV, lateV, dstV, dynCall, ↓condE_t, ↓condE_f, ↓guardE_tt, ↓guardE_ff, ↓guardE_tf, ↓guardE_ft, frzDeep, deepArgs, deepArg, resB, cv, stepB, stepE, callD, tabD, snapD, snap1, snapC, snapId, snapIds, guardB, guardC, dstAt, aopR, one, pre, binR, intOpR, shiftOpR, unR, argFrm, evo, lkp, hlk, lenOf, asLst, idOf, bndA, srcOk, ofVal, ofCells, setCells, fillA, setElems, fieldsOf, fieldsEq, scalEq, isEq, AV.wr, AV.ok1, TK.agg, frz, frzs, frzA, frzArg, frzArgs, subA, subL, sub1, kp, kh, accOf, List.replicate, Nat.reduceAdd, Nat.reduceSub, Nat.reduceMul, Nat.reduceEqDiff, Nat.reduceLT, Nat.reduceLeDiff, Nat.reduceBEq, reduceIte, reduceCtorEq, eq_self, ne_eq, Int.reduceToNat, Int.reduceLT, Int.reduceLE, Int.reduceGT, Int.reduceGE, Int.reduceBEq, Int.reduceBNe, Int.reduceEq, Int.reduceNe]
                            repeat' apply And.intro
                            any_goals (show entryOk _ _ _ _ _ = true; (repeat (first | exact entryOk_nil _ _ _ _ | (refine entryOk_step ?h ?_; case h => (first | (apply Or.inr; constructor <;> simp [meets] <;> omega; done) | (apply Or.inl; show anc _ _ _ _ = true; kernel_rfl))))))
                            refine ⟨(k + 1, nx3 + 42), by dsimp only; omega, ⟨by dsimp only; omega, .inr (by dsimp only; omega)⟩, ?_⟩
                            simp only [hs4, hnx, len_snocF, nb_self, b0, b2, c0, c2, c4, c5, s0, s2, s3, nb_self, nb_same, nb_l0, nb_r0, nb_lt, nb_gt, nb_lt0, nb_gt0, Nat.add_assoc]
                            repeat' apply And.intro
                            all_goals first | trivial | rfl
                          · simp only [JB_all, g5, g6, hi0, hq0, hi3, hi4, hh1, u1, u2, ux, uy, len_snocF, e2, hr', ww, hml, hcap, b0, b2, c0, c2, c4, c5, s0, s2, s3, Nat.le_refl, zs, fs, sv, fv, fBegin, noneF, Int.toNat_natCast, rf1, List.set_set, T29, T30, T41, nb_self, nb_same, nb_l0, nb_r0, nb_lt, nb_gt, nb_lt0, nb_gt0, Nat.add_assoc, hfree_fr, hfree_cf, cv', cf_eta, frz_u, shC_dec, dC, T23, T28, T25, hfree_lu, hfree_l0, row0, row1, row2, row3, row4, row5, shI_dec, shN_dec, shB_dec, shM_dec, dI, dN, dB, dM, dU, dU_map, iv, bv, u, ms, ctx_T, ctx_C, ctx_P, T4, T3, T26, Option.bind_some, Option.bind_none, Option.map_some, List.length_map, List.length_set, String.reduceBEq, Int.toNat_natCast, Bool.true_beq, Bool.false_beq, T24, shF_dec, dF, fr_eta, Int.cast_ofNat_Int, Int.reduceSub, Int.reduceAdd, Int.reduceNeg, ev1, ev2, implies_true, undef, stepP, drawB, stepL, lateB, lateB0, rdsT, rdsAny, isRd, afterL, preB, callLB, callLV, lateV, dstV, dynCall, ↓condE_t, ↓condE_f, ↓guardE_tt, ↓guardE_ff, ↓guardE_tf, ↓guardE_ft, frzDeep, deepArgs, deepArg, resB, cv, stepB, stepE, callD, tabD, snapD, snap1, snapC, snapId, snapIds, guardB, guardC, dstAt, aopR, one, pre, binR, intOpR, shiftOpR, unR, argFrm, evo, lkp, hlk, lenOf, asLst, idOf, bndA, srcOk, ofVal, ofCells, setCells, fillA, setElems, fieldsOf, fieldsEq, scalEq, isEq, AV.wr, AV.ok1, TK.agg, frz, frzs, frzA, frzArg, frzArgs, subA, subL, sub1, kp, kh, accOf, List.replicate, Nat.reduceAdd, Nat.reduceSub, Nat.reduceMul, Nat.reduceEqDiff, Nat.reduceLT, Nat.reduceLeDiff, Nat.reduceBEq, reduceIte, reduceCtorEq, eq_self, ne_eq, Int.reduceToNat, Int.reduceLT, Int.reduceLE, Int.reduceGT, Int.reduceGE, Int.reduceBEq, Int.reduceBNe, Int.reduceEq, Int.reduceNe]
                            repeat' apply And.intro
                            any_goals (show entryOk _ _ _ _ _ = true; (repeat (first | exact entryOk_nil _ _ _ _ | (refine entryOk_step ?h ?_; case h => (first | (apply Or.inr; constructor <;> simp [meets] <;> omega; done) | (apply Or.inl; show anc _ _ _ _ = true; kernel_rfl))))))
                            refine ⟨(k + 1, nx3 + 42), by dsimp only; omega, ⟨by dsimp only; omega, .inr (by dsimp only; omega)⟩, ?_⟩
                            simp only [hs4, hnx, len_snocF, nb_self, b0, b2, c0, c2, c4, c5, s0, s2, s3, nb_self, nb_same, nb_l0, nb_r0, nb_lt, nb_gt, nb_lt0, nb_gt0, Nat.add_assoc]
                            repeat' apply And.intro
                            all_goals first | trivial | rfl
                    · dsimp only [kh]
                      simp only [hlk, nb_self, hhs, b0, b2, c0, c2, c4, c5, Nat.reduceBEq]
                      repeat' apply And.intro
                      all_goals first | trivial | rfl
                  · obtain ⟨a0, hae⟩ : ∃ a0 : Fr, a0 = hand.getD i' noneF := ⟨_, rfl⟩
                    have ua0 : UFr a0 := by rw [hae]; exact huh
                    have hhs : hand.set i' a0 = hand := by rw [hae]; exact set_getD_self hhi
                    rw [← g3] at hA g1
                    rw [← hae] at hA g1 hsni
                    have ha0 : (a0 = noneF ∧ i' = 0 ∧ nextO (own.drop (own.length - ow.length)) = P) ∨ ((a0.op = 0 ∨ a0.op = 1 ∨ a0.op = 2) ∧ (a0, own.drop (own.length - ow.length)) = P) ∨ (a0 = noneF ∧ own.length - ow.length = own.length ∧ (a0, own.drop (own.length - ow.length)) = P) := by
                      rw [hsi, hP, dHand]
                      dsimp only
                      rw [← hae]
                      rcases hsni with h | h
                      · have hi0' : i' = 0 := Classical.byContradiction fun q => hA ⟨by rw [h]; rfl, by omega⟩
                        exact .inl ⟨h, hi0', by rw [if_pos (by rw [h]; rfl), nextD, if_neg (by omega)]⟩
                      · exact .inr (.inl ⟨h, by rw [if_neg (by omega)]⟩)
                    have hA' : ((a0.op < 0) = False) ∨ ((a0.op < 0) = True ∧ ((i' : Int) > 0) = False) := by
                      rcases hsni with h | h
                      · exact .inr ⟨by rw [h]; exact eq_true (by decide), eq_false (fun q => hA ⟨by rw [h]; rfl, by omega⟩)⟩
                      · exact .inl (eq_false (by omega))
                    have key : ∀ F : Prop, True := fun _ => trivial
                    rcases hA' with hA1' | ⟨hA1', hA2'⟩
                    · simp only [JB_all, hkw', hk0, hg, h0, h1, g1, hA1', hi0, hi3, hi4, ww, hh1, b0, b2, c0, c2, c4, c5, m0, m2, hodn, Nat.le_refl, zs, fs, sv, fv, fBegin, Int.toNat_natCast, rf1, List.set_set, T29, T30, T41, nb_self, nb_same, nb_l0, nb_r0, nb_lt, nb_gt, nb_lt0, nb_gt0, Nat.add_assoc, hfree_fr, hfree_cf, cv', cf_eta, frz_u, shC_dec, dC, T23, T28, T25, hfree_lu, hfree_l0, row0, row1, row2, row3, row4, row5, shI_dec, shN_dec, shB_dec, shM_dec, dI, dN, dB, dM, dU, dU_map, iv, bv, u, ms, ctx_T, ctx_C, ctx_P, T4, T3, T26, Option.bind_some, Option.bind_none, Option.map_some, List.length_map, List.length_set, String.reduceBEq, Int.toNat_natCast, Bool.true_beq, Bool.false_beq, T24, shF_dec, dF, fr_eta, Int.cast_ofNat_Int, Int.reduceSub, Int.reduceAdd, Int.reduceNeg, ev1, ev2, implies_true, undef, stepP, drawB, stepL, lateB, lateB0, rdsT, rdsAny, isRd, afterL, preB, callLB, callLV, lateV, dstV, dynCall, ↓condE_t, ↓condE_f, ↓guardE_tt, ↓guardE_ff, ↓guardE_tf, ↓guardE_ft, frzDeep, deepArgs, deepArg, resB, cv, stepB, stepE, callD, tabD, snapD, snap1, snapC, snapId, snapIds, guardB, guardC, dstAt, aopR, one, pre, binR, intOpR, shiftOpR, unR, argFrm, evo, lkp, hlk, lenOf, asLst, idOf, bndA, srcOk, ofVal, ofCells, setCells, fillA, setElems, fieldsOf, fieldsEq, scalEq, isEq, AV.wr, AV.ok1, TK.agg, frz, frzs, frzA, frzArg, frzArgs, subA, subL, sub1, kp, kh, accOf, List.replicate, Nat.reduceAdd, Nat.reduceSub, Nat.reduceMul, Nat.reduceEqDiff, Nat.reduceLT, Nat.reduceLeDiff, Nat.reduceBEq, reduceIte, reduceCtorEq, eq_self, ne_eq, Int.reduceToNat, Int.reduceLT, Int.reduceLE, Int.reduceGT, Int.reduceGE, Int.reduceBEq, Int.reduceBNe, Int.reduceEq, Int.reduceNe]
                      refine WP.loop (ι := Nat × Fr) (fun j => own.length - j.1) (fun j => j.1 ≤ own.length ∧ UFr j.2 ∧ ((j.2 = noneF ∧ i' = 0 ∧ nextO (own.drop j.1) = P) ∨ ((j.2.op = 0 ∨ j.2.op = 1 ∨ j.2.op = 2) ∧ (j.2, own.drop j.1) = P) ∨ (j.2 = noneF ∧ j.1 = own.length ∧ (j.2, own.drop j.1) = P))) (n := 152)
                        (fr := fun j => [(19, iv i'), (18, iv k), (17, iv j.1), (15, .arr od 0 over.length), (14, .arr id 0 (N + 1)), (13, ms m), (11, .ptr 5 0 0), (1, iv N), (2, fs own), (3, zs who)])
                        (hp := fun j => [(od, some ⟨false, 28, 7, over.map fv⟩), (id, some ⟨false, 28, 7, (hand.set i' j.2).map fv⟩), (5, some ⟨false, 23, 4, [cv' ⟨1, d, 1, 0⟩]⟩)]) (N := nx2) ?_ (own.length - ow.length, a0) ⟨by dsimp only; omega, ua0, ha0⟩ rfl (by dsimp only; omega) ⟨rfl, rfl, rfl, rfl, rfl, rfl, rfl, rfl, rfl, rfl, trivial⟩ ?_
                      · rintro ⟨q, a⟩ nx3 ⟨hq, ua, hqa⟩ hN3 hid3
                        dsimp only at hq ua hqa hid3 ⊢
                        have s0 : 5 < nx3 := by omega
                        have s2 : id < nx3 := by omega
                        have s3 : od < nx3 := by omega
                        have g5 := getD_set_f hhi a
                        have hq0 : (0 : Int) ≤ (q : Int) := by omega
                        have ux : inUb a.x = true := inUb_iff.2 ua.x
                        have uy : inUb a.y = true := inUb_iff.2 ua.y
                        refine WP.of okJB 1 (by rfl) ?_
                        by_cases hgo : a = noneF ∧ q < own.length
                        · obtain ⟨rfl, hql⟩ := hgo
                          have hql' : (q : Int) < own.length := by omega
                          have wq : IntKind.wrap .i64 ((q : Int) + 1) = ((q + 1 : Nat) : Int) := by rw [wrap_i (by omega) (by omega)]; omega
                          have hq1 : i' = 0 ∧ nextO (own.drop q) = P := by
                            rcases hqa with h | h | h
                            · exact h.2
                            · exfalso; rcases h.1 with h | h | h <;> cases h
                            · exfalso; omega
                          obtain ⟨hi00, hq1⟩ := hq1
                          have gx := getD_f hql
                          have uxv : InU (own.getD q fr0).val := hu _ (by
                            have : own.getD q fr0 = own[q] := by simp [List.getD_eq_getElem?_getD, hql]
                            rw [this]; exact List.getElem_mem _)
                          rw [drop_f1 hql] at hq1
                          generalize own.getD q fr0 = x1 at gx hq1 uxv
                          have en : (noneF.op < 0) = True := eq_true (by decide)
                          simp only [noneF] at g5 en
                          by_cases h3 : x1.op = 0
                          · have e3 : (x1.op == 0) = true := by simpa using h3
                            rw [nextO, if_pos (.inl h3)] at hq1
                            simp only [JB_all, g5, hi0, hq0, hi3, hi4, hh1, gx, hql', wq, e3, en, b0, b2, c0, c2, c4, c5, s0, s2, s3, Nat.le_refl, zs, fs, sv, fv, fBegin, noneF, Int.toNat_natCast, rf1, List.set_set, T29, T30, T41, nb_self, nb_same, nb_l0, nb_r0, nb_lt, nb_gt, nb_lt0, nb_gt0, Nat.add_assoc, hfree_fr, hfree_cf, cv', cf_eta, frz_u, shC_dec, dC, T23, T28, T25, hfree_lu, hfree_l0, row0, row1, row2, row3, row4, row5, shI_dec, shN_dec, shB_dec, shM_dec, dI, dN, dB, dM, dU, dU_map, iv, bv, u, ms, ctx_T, ctx_C, ctx_P, T4, T3, T26, Option.bind_some, Option.bind_none, Option.map_some, List.length_map, List.length_set, String.reduceBEq, Int.toNat_natCast, Bool.true_beq, Bool.false_beq, T24, shF_dec, dF, fr_eta, Int.cast_ofNat_Int, Int.reduceSub, Int.reduceAdd, Int.reduceNeg, ev1, ev2, implies_true, undef, stepP, drawB, stepL, lateB, lateB0, rdsT, rdsAny, isRd, afterL, preB, callLB, callLV, lateV, dstV, dynCall, ↓condE_t, ↓condE_f, ↓guardE_tt, ↓guardE_ff, ↓guardE_tf, ↓guardE_ft, frzDeep, deepArgs, deepArg, resB, cv, stepB, stepE, callD, tabD, snapD, snap1, snapC, snapId, snapIds, guardB, guardC, dstAt, aopR, one, pre, binR, intOpR, shiftOpR, unR, argFrm, evo, lkp, hlk, lenOf, asLst, idOf, bndA, srcOk, ofVal, ofCells, setCells, fillA, setElems, fieldsOf, fieldsEq, scalEq, isEq, AV.wr, AV.ok1, TK.agg, frz, frzs, frzA, frzArg, frzArgs, subA, subL, sub1, kp, kh, accOf, List.replicate, Nat.reduceAdd, Nat.reduceSub, Nat.reduceMul, Nat.reduceEqDiff, Nat.reduceLT, Nat.reduceLeDiff, Nat.reduceBEq, reduceIte, reduceCtorEq, eq_self, ne_eq, Int.reduceToNat, Int.reduceLT, Int.reduceLE, Int.reduceGT, Int.reduceGE, Int.reduceBEq, Int.reduceBNe, Int.reduceEq, Int.reduceNe]
                            repeat' apply And.intro
                            try any_goals (show entryOk _ _ _ _ _ = true; (repeat (first | exact entryOk_nil _ _ _ _ | (refine entryOk_step ?h ?_; case h => (first | (apply Or.inr; constructor <;> simp [meets] <;> omega; done) | (apply Or.inl; show anc _ _ _ _ = true; kernel_rfl))))))
                            exact ⟨(q + 1, ⟨x1.op, 0, 0, x1.val, 0, 0, 0⟩), by dsimp only; omega, ⟨by dsimp only; omega, ⟨uxv, u0, u0⟩, .inr (.inl ⟨.inl h3, hq1⟩)⟩, rfl, rfl⟩
                          · have e3 : (x1.op == 0) = false := by simpa using h3
                            by_cases h4 : x1.op = 1
                            · have e4 : (x1.op == 1) = true := by simpa using h4
                              rw [nextO, if_pos (.inr h4)] at hq1
                              simp only [JB_all, g5, hi0, hq0, hi3, hi4, hh1, gx, hql', wq, e3, e4, en, b0, b2, c0, c2, c4, c5, s0, s2, s3, Nat.le_refl, zs, fs, sv, fv, fBegin, noneF, Int.toNat_natCast, rf1, List.set_set, T29, T30, T41, nb_self, nb_same, nb_l0, nb_r0, nb_lt, nb_gt, nb_lt0, nb_gt0, Nat.add_assoc, hfree_fr, hfree_cf, cv', cf_eta, frz_u, shC_dec, dC, T23, T28, T25, hfree_lu, hfree_l0, row0, row1, row2, row3, row4, row5, shI_dec, shN_dec, shB_dec, shM_dec, dI, dN, dB, dM, dU, dU_map, iv, bv, u, ms, ctx_T, ctx_C, ctx_P, T4, T3, T26, Option.bind_some, Option.bind_none, Option.map_some, List.length_map, List.length_set, String.reduceBEq, Int.toNat_natCast, Bool.true_beq, Bool.false_beq, T24, shF_dec, dF, fr_eta, Int.cast_ofNat_Int, Int.reduceSub, Int.reduceAdd, Int.reduceNeg, ev1, ev2, implies_true, undef, stepP, drawB, stepL, lateB, lateB0, rdsT, rdsAny, isRd, afterL, preB, callLB, callLV, lateV, dstV, dynCall, ↓condE_t, ↓condE_f, ↓guardE_tt, ↓guardE_ff, ↓guardE_tf, ↓guardE_ft, frzDeep, deepArgs, deepArg, resB, cv, stepB, stepE, callD, tabD, snapD, snap1, snapC, snapId, snapIds, guardB, guardC, dstAt, aopR, one, pre, binR, intOpR, shiftOpR, unR, argFrm, evo, lkp, hlk, lenOf, asLst, idOf, bndA, srcOk, ofVal, ofCells, setCells, fillA, setElems, fieldsOf, fieldsEq, scalEq, isEq, AV.wr, AV.ok1, TK.agg, frz, frzs, frzA, frzArg, frzArgs, subA, subL, sub1, kp, kh, accOf, List.replicate, Nat.reduceAdd, Nat.reduceSub, Nat.reduceMul, Nat.reduceEqDiff, Nat.reduceLT, Nat.reduceLeDiff, Nat.reduceBEq, reduceIte, reduceCtorEq, eq_self, ne_eq, Int.reduceToNat, Int.reduceLT, Int.reduceLE, Int.reduceGT, Int.reduceGE, Int.reduceBEq, Int.reduceBNe, Int.reduceEq, Int.reduceNe]
                              repeat' apply And.intro
                              try any_goals (show entryOk _ _ _ _ _ = true; (repeat (first | exact entryOk_nil _ _ _ _ | (refine entryOk_step ?h ?_; case h => (first | (apply Or.inr; constructor <;> simp [meets] <;> omega; done) | (apply Or.inl; show anc _ _ _ _ = true; kernel_rfl))))))
                              exact ⟨(q + 1, ⟨x1.op, 0, 0, x1.val, 0, 0, 0⟩), by dsimp only; omega, ⟨by dsimp only; omega, ⟨uxv, u0, u0⟩, .inr (.inl ⟨.inr (.inl h4), hq1⟩)⟩, rfl, rfl⟩
                            · have e4 : (x1.op == 1) = false := by simpa using h4
                              rw [nextO, if_neg (by simp [h3, h4])] at hq1
                              simp only [JB_all, g5, hi0, hq0, hi3, hi4, hh1, gx, hql', wq, e3, e4, en, b0, b2, c0, c2, c4, c5, s0, s2, s3, Nat.le_refl, zs, fs, sv, fv, fBegin, noneF, Int.toNat_natCast, rf1, List.set_set, T29, T30, T41, nb_self, nb_same, nb_l0, nb_r0, nb_lt, nb_gt, nb_lt0, nb_gt0, Nat.add_assoc, hfree_fr, hfree_cf, cv', cf_eta, frz_u, shC_dec, dC, T23, T28, T25, hfree_lu, hfree_l0, row0, row1, row2, row3, row4, row5, shI_dec, shN_dec, shB_dec, shM_dec, dI, dN, dB, dM, dU, dU_map, iv, bv, u, ms, ctx_T, ctx_C, ctx_P, T4, T3, T26, Option.bind_some, Option.bind_none, Option.map_some, List.length_map, List.length_set, String.reduceBEq, Int.toNat_natCast, Bool.true_beq, Bool.false_beq, T24, shF_dec, dF, fr_eta, Int.cast_ofNat_Int, Int.reduceSub, Int.reduceAdd, Int.reduceNeg, ev1, ev2, implies_true, undef, stepP, drawB, stepL, lateB, lateB0, rdsT, rdsAny, isRd, afterL, preB, callLB, callLV, lateV, dstV, dynCall, ↓condE_t, ↓condE_f, ↓guardE_tt, ↓guardE_ff, ↓guardE_tf, ↓guardE_ft, frzDeep, deepArgs, deepArg, resB, cv, stepB, stepE, callD, tabD, snapD, snap1, snapC, snapId, snapIds, guardB, guardC, dstAt, aopR, one, pre, binR, intOpR, shiftOpR, unR, argFrm, evo, lkp, hlk, lenOf, asLst, idOf, bndA, srcOk, ofVal, ofCells, setCells, fillA, setElems, fieldsOf, fieldsEq, scalEq, isEq, AV.wr, AV.ok1, TK.agg, frz, frzs, frzA, frzArg, frzArgs, subA, subL, sub1, kp, kh, accOf, List.replicate, Nat.reduceAdd, Nat.reduceSub, Nat.reduceMul, Nat.reduceEqDiff, Nat.reduceLT, Nat.reduceLeDiff, Nat.reduceBEq, reduceIte, reduceCtorEq, eq_self, ne_eq, Int.reduceToNat, Int.reduceLT, Int.reduceLE, Int.reduceGT, Int.reduceGE, Int.reduceBEq, Int.reduceBNe, Int.reduceEq, Int.reduceNe]
                              repeat' apply And.intro
                              try any_goals (show entryOk _ _ _ _ _ = true; (repeat (first | exact entryOk_nil _ _ _ _ | (refine entryOk_step ?h ?_; case h => (first | (apply Or.inr; constructor <;> simp [meets] <;> omega; done) | (apply Or.inl; show anc _ _ _ _ = true; kernel_rfl))))))
                              exact ⟨(q + 1, noneF), by dsimp only; omega, ⟨by dsimp only; omega, none_ufr, .inl ⟨rfl, hi00, hq1⟩⟩, rfl, rfl⟩
                        · have hPa : P = (a, own.drop q) := by
                            rcases hqa with ⟨h, h', h''⟩ | ⟨_, h⟩ | ⟨_, _, h⟩
                            · have : ¬ q < own.length := fun h2 => hgo ⟨h, h2⟩
                              rw [← h'', List.drop_eq_nil_of_le (by omega), h]; rfl
                            · exact h.symm
                            · exact h.symm
                          rw [hPa] at hP
                          obtain ⟨m', g, e2⟩ : ∃ x y, dqStep ⟨1, d, 1, 0⟩ m a = (x, y) := ⟨_, _, rfl⟩
                          have hnx : own.length - (own.drop q).length = q := by rw [List.length_drop]; omega
                          have hcd : (a.op < 0) = False ∨ ((a.op < 0) = True ∧ ((q : Int) < (own.length : Int)) = False) := by
                            rcases hqa with ⟨h, h'⟩ | ⟨h, _⟩ | ⟨h, h', _⟩
                            · refine .inr ⟨by rw [h]; exact eq_true (by decide), eq_false (fun h2 => hgo ⟨h, by omega⟩)⟩
                            · exact .inl (eq_false (by omega))
                            · refine .inr ⟨by rw [h]; exact eq_true (by decide), eq_false (by omega)⟩
                          have g6 := getD_set_f hhi g
                          by_cases hr : g.res = 0
                          · have hr' : (g.res != 0) = false := by simpa using hr
                            have hs4 : S (k + 1) = ⟨m', own.drop q, hand.set i' g, over⟩ := by rw [hs3, dRound, ← hP]; dsimp only; rw [e2]; exact if_pos hr
                            rcases hcd with u1 | ⟨u1, u2⟩
                            · simp only [JB_all, g5, g6, hi0, hq0, hi3, hi4, hh1, u1, ux, uy, e2, hr', ww, hml, hcap, b0, b2, c0, c2, c4, c5, s0, s2, s3, Nat.le_refl, zs, fs, sv, fv, fBegin, noneF, Int.toNat_natCast, rf1, List.set_set, T29, T30, T41, nb_self, nb_same, nb_l0, nb_r0, nb_lt, nb_gt, nb_lt0, nb_gt0, Nat.add_assoc, hfree_fr, hfree_cf, cv', cf_eta, frz_u, shC_dec, dC, T23, T28, T25, hfree_lu, hfree_l0, row0, row1, row2, row3, row4, row5, shI_dec, shN_dec, shB_dec, shM_dec, dI, dN, dB, dM, dU, dU_map, iv, bv, u, ms, ctx_T, ctx_C, ctx_P, T4, T3, T26, Option.bind_some, Option.bind_none, Option.map_some, List.length_map, List.length_set, String.reduceBEq, Int.toNat_natCast, Bool.true_beq, Bool.false_beq, T24, shF_dec, dF, fr_eta, Int.cast_ofNat_Int, Int.reduceSub, Int.reduceAdd, Int.reduceNeg, ev1, ev2, implies_true, undef, stepP, drawB, stepL, lateB, lateB0, rdsT, rdsAny, isRd, afterL, preB, callLB, callLV, lateV, dstV, dynCall, ↓condE_t, ↓condE_f, ↓guardE_tt, ↓guardE_ff, ↓guardE_tf, ↓guardE_ft, frzDeep, deepArgs, deepArg, resB, cv, stepB, stepE, callD, tabD, snapD, snap1, snapC, snapId, snapIds, guardB, guardC, dstAt, aopR, one, pre, binR, intOpR, shiftOpR, unR, argFrm, evo, lkp, hlk, lenOf, asLst, idOf, bndA, srcOk, ofVal, ofCells, setCells, fillA, setElems, fieldsOf, fieldsEq, scalEq, isEq, AV.wr, AV.ok1, TK.agg, frz, frzs, frzA, frzArg, frzArgs, subA, subL, sub1, kp, kh, accOf, List.replicate, Nat.reduceAdd, Nat.reduceSub, Nat.reduceMul, Nat.reduceEqDiff, Nat.reduceLT, Nat.reduceLeDiff, Nat.reduceBEq, reduceIte, reduceCtorEq, eq_self, ne_eq, Int.reduceToNat, Int.reduceLT, Int.reduceLE, Int.reduceGT, Int.reduceGE, Int.reduceBEq, Int.reduceBNe, Int.reduceEq, Int.reduceNe]
                              repeat' apply And.intro
                              any_goals (show entryOk _ _ _ _ _ = true; (repeat (first | exact entryOk_nil _ _ _ _ | (refine entryOk_step ?h ?_; case h => (first | (apply Or.inr; constructor <;> simp [meets] <;> omega; done) | (apply Or.inl; show anc _ _ _ _ = true; kernel_rfl))))))
                              refine ⟨(k + 1, od), by dsimp only; omega, ⟨by dsimp only; omega, hod⟩, ?_⟩
                              simp only [hs4, hnx, nb_self, b0, b2, c0, c2, c4, c5, s0, s2, s3, nb_self, nb_same, nb_l0, nb_r0, nb_lt, nb_gt, nb_lt0, nb_gt0, Nat.add_assoc]
                              repeat' apply And.intro
                              all_goals first | trivial | rfl
                            · simp only [JB_all, g5, g6, hi0, hq0, hi3, hi4, hh1, u1, u2, ux, uy, e2, hr', ww, hml, hcap, b0, b2, c0, c2, c4, c5, s0, s2, s3, Nat.le_refl, zs, fs, sv, fv, fBegin, noneF, Int.toNat_natCast, rf1, List.set_set, T29, T30, T41, nb_self, nb_same, nb_l0, nb_r0, nb_lt, nb_gt, nb_lt0, nb_gt0, Nat.add_assoc, hfree_fr, hfree_cf, cv', cf_eta, frz_u, shC_dec, dC, T23, T28, T25, hfree_lu, hfree_l0, row0, row1, row2, row3, row4, row5, shI_dec, shN_dec, shB_dec, shM_dec, dI, dN, dB, dM, dU, dU_map, iv, bv, u, ms, ctx_T, ctx_C, ctx_P, T4, T3, T26, Option.bind_some, Option.bind_none, Option.map_some, List.length_map, List.length_set, String.reduceBEq, Int.toNat_natCast, Bool.true_beq, Bool.false_beq, T24, shF_dec, dF, fr_eta, Int.cast_ofNat_Int, Int.reduceSub, Int.reduceAdd, Int.reduceNeg, ev1, ev2, implies_true, undef, stepP, drawB, stepL, lateB, lateB0, rdsT, rdsAny, isRd, afterL, preB, callLB, callLV, lateV, dstV, dynCall, ↓condE_t, ↓condE_f, ↓guardE_tt, ↓guardE_ff, ↓guardE_tf, ↓guardE_ft, frzDeep, deepArgs, deepArg, resB, cv, stepB, stepE, callD, tabD, snapD, snap1, snapC, snapId, snapIds, guardB, guardC, dstAt, aopR, one, pre, binR, intOpR, shiftOpR, unR, argFrm, evo, lkp, hlk, lenOf, asLst, idOf, bndA, srcOk, ofVal, ofCells, setCells, fillA, setElems, fieldsOf, fieldsEq, scalEq, isEq, AV.wr, AV.ok1, TK.agg, frz, frzs, frzA, frzArg, frzArgs, subA, subL, sub1, kp, kh, accOf, List.replicate, Nat.reduceAdd, Nat.reduceSub, Nat.reduceMul, Nat.reduceEqDiff, Nat.reduceLT, Nat.reduceLeDiff, Nat.reduceBEq, reduceIte, reduceCtorEq, eq_self, ne_eq, Int.reduceToNat, Int.reduceLT, Int.reduceLE, Int.reduceGT, Int.reduceGE, Int.reduceBEq, Int.reduceBNe, Int.reduceEq, Int.reduceNe]
                              repeat' apply And.intro
                              any_goals (show entryOk _ _ _ _ _ = true; (repeat (first | exact entryOk_nil _ _ _ _ | (refine entryOk_step ?h ?_; case h => (first | (apply Or.inr; constructor <;> simp [meets] <;> omega; done) | (apply Or.inl; show anc _ _ _ _ = true; kernel_rfl))))))
                              refine ⟨(k + 1, od), by dsimp only; omega, ⟨by dsimp only; omega, hod⟩, ?_⟩
                              simp only [hs4, hnx, nb_self, b0, b2, c0, c2, c4, c5, s0, s2, s3, nb_self, nb_same, nb_l0, nb_r0, nb_lt, nb_gt, nb_lt0, nb_gt0, Nat.add_assoc]
                              repeat' apply And.intro
                              all_goals first | trivial | rfl
                          · have hr' : (g.res != 0) = true := by simpa using hr
                            have hs4 : S (k + 1) = ⟨m', own.drop q, hand.set i' noneF, over ++ [withWho g i']⟩ := by rw [hs3, dRound, ← hP]; dsimp only; rw [e2]; exact if_neg hr
                            rcases hcd with u1 | ⟨u1, u2⟩
                            · simp only [JB_all, g5, g6, hi0, hq0, hi3, hi4, hh1, u1, ux, uy, len_snocF, e2, hr', ww, hml, hcap, b0, b2, c0, c2, c4, c5, s0, s2, s3, Nat.le_refl, zs, fs, sv, fv, fBegin, noneF, Int.toNat_natCast, rf1, List.set_set, T29, T30, T41, nb_self, nb_same, nb_l0, nb_r0, nb_lt, nb_gt, nb_lt0, nb_gt0, Nat.add_assoc, hfree_fr, hfree_cf, cv', cf_eta, frz_u, shC_dec, dC, T23, T28, T25, hfree_lu, hfree_l0, row0, row1, row2, row3, row4, row5, shI_dec, shN_dec, shB_dec, shM_dec, dI, dN, dB, dM, dU, dU_map, iv, bv, u, ms, ctx_T, ctx_C, ctx_P, T4, T3, T26, Option.bind_some, Option.bind_none, Option.map_some, List.length_map, List.length_set, String.reduceBEq, Int.toNat_natCast, Bool.true_beq, Bool.false_beq, T24, shF_dec, dF, fr_eta, Int.cast_ofNat_Int, Int.reduceSub, Int.reduceAdd, Int.reduceNeg, ev1, ev2, implies_true, undef, stepP, drawB, stepL, lateB, lateB0, rdsT, rdsAny, isRd, afterL, preB, callLB, callLV, lateV, dstV, dynCall, ↓condE_t, ↓condE_f, ↓guardE_tt, ↓guardE_ff, ↓guardE_tf, ↓guardE_ft, frzDeep, deepArgs, deepArg, resB, cv, stepB, stepE, callD, tabD, snapD, snap1, snapC, snapId, snapIds, guardB, guardC, dstAt, aopR, one, pre, binR, intOpR, shiftOpR, unR, argFrm, evo, lkp, hlk, lenOf, asLst, idOf, bndA, srcOk, ofVal, ofCells, setCells, fillA, setElems, fieldsOf, fieldsEq, scalEq, isEq, AV.wr, AV.ok1, TK.agg, frz, frzs, frzA, frzArg, frzArgs, subA, subL, sub1, kp, kh, accOf, List.replicate, Nat.reduceAdd, Nat.reduceSub, Nat.reduceMul, Nat.reduceEqDiff, Nat.reduceLT, Nat.reduceLeDiff, Nat.reduceBEq, reduceIte, reduceCtorEq, eq_self, ne_eq, Int.reduceToNat, Int.reduceLT, Int.reduceLE, Int.reduceGT, Int.reduceGE, Int.reduceBEq, Int.reduceBNe, Int.reduceEq, Int.reduceNe]
                              repeat' apply And.intro
                              any_goals (show entryOk _ _ _ _ _ = true; (repeat (first | exact entryOk_nil _ _ _ _ | (refine entryOk_step ?h ?_; case h => (first | (apply Or.inr; constructor <;> simp [meets] <;> omega; done) | (apply Or.inl; show anc _ _ _ _ = true; kernel_rfl))))))
                              refine ⟨(k + 1, nx3 + 42), by dsimp only; omega, ⟨by dsimp only; omega, .inr (by dsimp only; omega)⟩, ?_⟩
                              simp only [hs4, hnx, len_snocF, nb_self, b0, b2, c0, c2, c4, c5, s0, s2, s3, nb_self, nb_same, nb_l0, nb_r0, nb_lt, nb_gt, nb_lt0, nb_gt0, Nat.add_assoc]
                              repeat' apply And.intro
                              all_goals first | trivial | rfl
                            · simp only [JB_all, g5, g6, hi0, hq0, hi3, hi4, hh1, u1, u2, ux, uy, len_snocF, e2, hr', ww, hml, hcap, b0, b2, c0, c2, c4, c5, s0, s2, s3, Nat.le_refl, zs, fs, sv, fv, fBegin, noneF, Int.toNat_natCast, rf1, List.set_set, T29, T30, T41, nb_self, nb_same, nb_l0, nb_r0, nb_lt, nb_gt, nb_lt0, nb_gt0, Nat.add_assoc, hfree_fr, hfree_cf, cv', cf_eta, frz_u, shC_dec, dC, T23, T28, T25, hfree_lu, hfree_l0, row0, row1, row2, row3, row4, row5, shI_dec, shN_dec, shB_dec, shM_dec, dI, dN, dB, dM, dU, dU_map, iv, bv, u, ms, ctx_T, ctx_C, ctx_P, T4, T3, T26, Option.bind_some, Option.bind_none, Option.map_some, List.length_map, List.length_set, String.reduceBEq, Int.toNat_natCast, Bool.true_beq, Bool.false_beq, T24, shF_dec, dF, fr_eta, Int.cast_ofNat_Int, Int.reduceSub, Int.reduceAdd, Int.reduceNeg, ev1, ev2, implies_true, undef, stepP, drawB, stepL, lateB, lateB0, rdsT, rdsAny, isRd, afterL, preB, callLB, callLV, lateV, dstV, dynCall, ↓condE_t, ↓condE_f, ↓guardE_tt, ↓guardE_ff, ↓guardE_tf, ↓guardE_ft, frzDeep, deepArgs, deepArg, resB, cv, stepB, stepE, callD, tabD, snapD, snap1, snapC, snapId, snapIds, guardB, guardC, dstAt, aopR, one, pre, binR, intOpR, shiftOpR, unR, argFrm, evo, lkp, hlk, lenOf, asLst, idOf, bndA, srcOk, ofVal, ofCells, setCells, fillA, setElems, fieldsOf, fieldsEq, scalEq, isEq, AV.wr, AV.ok1, TK.agg, frz, frzs, frzA, frzArg, frzArgs, subA, subL, sub1, kp, kh, accOf, List.replicate, Nat.reduceAdd, Nat.reduceSub, Nat.reduceMul, Nat.reduceEqDiff, Nat.reduceLT, Nat.reduceLeDiff, Nat.reduceBEq, reduceIte, reduceCtorEq, eq_self, ne_eq, Int.reduceToNat, Int.reduceLT, Int.reduceLE, Int.reduceGT, Int.reduceGE, Int.reduceBEq, Int.reduceBNe, Int.reduceEq, Int.reduceNe]
                              repeat' apply And.intro
                              any_goals (show entryOk _ _ _ _ _ = true; (repeat (first | exact entryOk_nil _ _ _ _ | (refine entryOk_step ?h ?_; case h => (first | (apply Or.inr; constructor <;> simp [meets] <;> omega; done) | (apply Or.inl; show anc _ _ _ _ = true; kernel_rfl))))))
                              refine ⟨(k + 1, nx3 + 42), by dsimp only; omega, ⟨by dsimp only; omega, .inr (by dsimp only; omega)⟩, ?_⟩
                              simp only [hs4, hnx, len_snocF, nb_self, b0, b2, c0, c2, c4, c5, s0, s2, s3, nb_self, nb_same, nb_l0, nb_r0, nb_lt, nb_gt, nb_lt0, nb_gt0, Nat.add_assoc]
                              repeat' apply And.intro
                              all_goals first | trivial | rfl
                      · dsimp only [kh]
                        simp only [hlk, nb_self, hhs, b0, b2, c0, c2, c4, c5, Nat.reduceBEq]
                        repeat' apply And.intro
                        all_goals first | trivial | rfl
                    · simp only [JB_all, hkw', hk0, hg, h0, h1, g1, hA1', hA2', hi0, hi3, hi4, ww, hh1, b0, b2, c0, c2, c4, c5, m0, m2, hodn, Nat.le_refl, zs, fs, sv, fv, fBegin, Int.toNat_natCast, rf1, List.set_set, T29, T30, T41, nb_self, nb_same, nb_l0, nb_r0, nb_lt, nb_gt, nb_lt0, nb_gt0, Nat.add_assoc, hfree_fr, hfree_cf, cv', cf_eta, frz_u, shC_dec, dC, T23, T28, T25, hfree_lu, hfree_l0, row0, row1, row2, row3, row4, row5, shI_dec, shN_dec, shB_dec, shM_dec, dI, dN, dB, dM, dU, dU_map, iv, bv, u, ms, ctx_T, ctx_C, ctx_P, T4, T3, T26, Option.bind_some, Option.bind_none, Option.map_some, List.length_map, List.length_set, String.reduceBEq, Int.toNat_natCast, Bool.true_beq, Bool.false_beq, T24, shF_dec, dF, fr_eta, Int.cast_ofNat_Int, Int.reduceSub, Int.reduceAdd, Int.reduceNeg, ev1, ev2, implies_true, undef, stepP, drawB, stepL, lateB, lateB0, rdsT, rdsAny, isRd, afterL, preB, callLB, callLV, lateV, dstV, dynCall, ↓condE_t, ↓condE_f, ↓guardE_tt, ↓guardE_ff, ↓guardE_tf, ↓guardE_ft, frzDeep, deepArgs, deepArg, resB, cv, stepB, stepE, callD, tabD, snapD, snap1, snapC, snapId, snapIds, guardB, guardC, dstAt, aopR, one, pre, binR, intOpR, shiftOpR, unR, argFrm, evo, lkp, hlk, lenOf, asLst, idOf, bndA, srcOk, ofVal, ofCells, setCells, fillA, setElems, fieldsOf, fieldsEq, scalEq, isEq, AV.wr, AV.ok1, TK.agg, frz, frzs, frzA, frzArg, frzArgs, subA, subL, sub1, kp, kh, accOf, List.replicate, Nat.reduceAdd, Nat.reduceSub, Nat.reduceMul, Nat.reduceEqDiff, Nat.reduceLT, Nat.reduceLeDiff, Nat.reduceBEq, reduceIte, reduceCtorEq, eq_self, ne_eq, Int.reduceToNat, Int.reduceLT, Int.reduceLE, Int.reduceGT, Int.reduceGE, Int.reduceBEq, Int.reduceBNe, Int.reduceEq, Int.reduceNe]
                      refine WP.loop (ι := Nat × Fr) (fun j => own.length - j.1) (fun j => j.1 ≤ own.length ∧ UFr j.2 ∧ ((j.2 = noneF ∧ i' = 0 ∧ nextO (own.drop j.1) = P) ∨ ((j.2.op = 0 ∨ j.2.op = 1 ∨ j.2.op = 2) ∧ (j.2, own.drop j.1) = P) ∨ (j.2 = noneF ∧ j.1 = own.length ∧ (j.2, own.drop j.1) = P))) (n := 152)
                        (fr := fun j => [(19, iv i'), (18, iv k), (17, iv j.1), (15, .arr od 0 over.length), (14, .arr id 0 (N + 1)), (13, ms m), (11, .ptr 5 0 0), (1, iv N), (2, fs own), (3, zs who)])
                        (hp := fun j => [(od, some ⟨false, 28, 7, over.map fv⟩), (id, some ⟨false, 28, 7, (hand.set i' j.2).map fv⟩), (5, some ⟨false, 23, 4, [cv' ⟨1, d, 1, 0⟩]⟩)]) (N := nx2) ?_ (own.length - ow.length, a0) ⟨by dsimp only; omega, ua0, ha0⟩ rfl (by dsimp only; omega) ⟨rfl, rfl, rfl, rfl, rfl, rfl, rfl, rfl, rfl, rfl, trivial⟩ ?_
                      · rintro ⟨q, a⟩ nx3 ⟨hq, ua, hqa⟩ hN3 hid3
                        dsimp only at hq ua hqa hid3 ⊢
                        have s0 : 5 < nx3 := by omega
                        have s2 : id < nx3 := by omega
                        have s3 : od < nx3 := by omega
                        have g5 := getD_set_f hhi a
                        have hq0 : (0 : Int) ≤ (q : Int) := by omega
                        have ux : inUb a.x = true := inUb_iff.2 ua.x
                        have uy : inUb a.y = true := inUb_iff.2 ua.y
                        refine WP.of okJB 1 (by rfl) ?_
                        by_cases hgo : a = noneF ∧ q < own.length
                        · obtain ⟨rfl, hql⟩ := hgo
                          have hql' : (q : Int) < own.length := by omega
                          have wq : IntKind.wrap .i64 ((q : Int) + 1) = ((q + 1 : Nat) : Int) := by rw [wrap_i (by omega) (by omega)]; omega
                          have hq1 : i' = 0 ∧ nextO (own.drop q) = P := by
                            rcases hqa with h | h | h
                            · exact h.2
                            · exfalso; rcases h.1 with h | h | h <;> cases h
                            · exfalso; omega
                          obtain ⟨hi00, hq1⟩ := hq1
                          have gx := getD_f hql
                          have uxv : InU (own.getD q fr0).val := hu _ (by
                            have : own.getD q fr0 = own[q] := by simp [List.getD_eq_getElem?_getD, hql]
                            rw [this]; exact List.getElem_mem _)
                          rw [drop_f1 hql] at hq1
                          generalize own.getD q fr0 = x1 at gx hq1 uxv
                          have en : (noneF.op < 0) = True := eq_true (by decide)
                          simp only [noneF] at g5 en
                          by_cases h3 : x1.op = 0
                          · have e3 : (x1.op == 0) = true := by simpa using h3
                            rw [nextO, if_pos (.inl h3)] at hq1
                            simp only [JB_all, g5, hi0, hq0, hi3, hi4, hh1, gx, hql', wq, e3, en, b0, b2, c0, c2, c4, c5, s0, s2, s3, Nat.le_refl, zs, fs, sv, fv, fBegin, noneF, Int.toNat_natCast, rf1, List.set_set, T29, T30, T41, nb_self, nb_same, nb_l0, nb_r0, nb_lt, nb_gt, nb_lt0, nb_gt0, Nat.add_assoc, hfree_fr, hfree_cf, cv', cf_eta, frz_u, shC_dec, dC, T23, T28, T25, hfree_lu, hfree_l0, row0, row1, row2, row3, row4, row5, shI_dec, shN_dec, shB_dec, shM_dec, dI, dN, dB, dM, dU, dU_map, iv, bv, u, ms, ctx_T, ctx_C, ctx_P, T4, T3, T26, Option.bind_some, Option.bind_none, Option.map_some, List.length_map, List.length_set, String.reduceBEq, Int.toNat_natCast, Bool.true_beq, Bool.false_beq, T24, shF_dec, dF, fr_eta, Int.cast_ofNat_Int, Int.reduceSub, Int.reduceAdd, Int.reduceNeg, ev1, ev2, implies_true, undef, stepP, drawB, stepL, lateB, lateB0, rdsT, rdsAny, isRd, afterL, preB, callLB, callLV, lateV, dstV, dynCall, ↓condE_t, ↓condE_f, ↓guardE_tt, ↓guardE_ff, ↓guardE_tf, ↓guardE_ft, frzDeep, deepArgs, deepArg, resB, cv, stepB, stepE, callD, tabD, snapD, snap1, snapC, snapId, snapIds, guardB, guardC, dstAt, aopR, one, pre, binR, intOpR, shiftOpR, unR, argFrm, evo, lkp, hlk, lenOf, asLst, idOf, bndA, srcOk, ofVal, ofCells, setCells, fillA, setElems, fieldsOf, fieldsEq, scalEq, isEq, AV.wr, AV.ok1, TK.agg, frz, frzs, frzA, frzArg, frzArgs, subA, subL, sub1, kp, kh, accOf, List.replicate, Nat.reduceAdd, Nat.reduceSub, Nat.reduceMul, Nat.reduceEqDiff, Nat.reduceLT, Nat.reduceLeDiff, Nat.reduceBEq, reduceIte, reduceCtorEq, eq_self, ne_eq, Int.reduceToNat, Int.reduceLT, Int.reduceLE, Int.reduceGT, Int.reduceGE, Int.reduceBEq, Int.reduceBNe, Int.reduceEq, Int.reduceNe]
                            repeat' apply And.intro
                            try any_goals (show entryOk _ _ _ _ _ = true; (repeat (first | exact entryOk_nil _ _ _ _ | (refine entryOk_step ?h ?_; case h => (first | (apply Or.inr; constructor <;> simp [meets] <;> omega; done) | (apply Or.inl; show anc _ _ _ _ = true; kernel_rfl))))))
                            exact ⟨(q + 1, ⟨x1.op, 0, 0, x1.val, 0, 0, 0⟩), by dsimp only; omega, ⟨by dsimp only; omega, ⟨uxv, u0, u0⟩, .inr (.inl ⟨.inl h3, hq1⟩)⟩, rfl, rfl⟩
                          · have e3 : (x1.op == 0) = false := by simpa using h3
                            by_cases h4 : x1.op = 1
                            · have e4 : (x1.op == 1) = true := by simpa using h4
                              rw [nextO, if_pos (.inr h4)] at hq1
                              simp only [JB_all, g5, hi0, hq0, hi3, hi4, hh1, gx, hql', wq, e3, e4, en, b0, b2, c0, c2, c4, c5, s0, s2, s3, Nat.le_refl, zs, fs, sv, fv, fBegin, noneF, Int.toNat_natCast, rf1, List.set_set, T29, T30, T41, nb_self, nb_same, nb_l0, nb_r0, nb_lt, nb_gt, nb_lt0, nb_gt0, Nat.add_assoc, hfree_fr, hfree_cf, cv', cf_eta, frz_u, shC_dec, dC, T23, T28, T25, hfree_lu, hfree_l0, row0, row1, row2, row3, row4, row5, shI_dec, shN_dec, shB_dec, shM_dec, dI, dN, dB, dM, dU, dU_map, iv, bv, u, ms, ctx_T, ctx_C, ctx_P, T4, T3, T26, Option.bind_some, Option.bind_none, Option.map_some, List.length_map, List.length_set, String.reduceBEq, Int.toNat_natCast, Bool.true_beq, Bool.false_beq, T24, shF_dec, dF, fr_eta, Int.cast_ofNat_Int, Int.reduceSub, Int.reduceAdd, Int.reduceNeg, ev1, ev2, implies_true, undef, stepP, drawB, stepL, lateB, lateB0, rdsT, rdsAny, isRd, afterL, preB, callLB, callLV, lateV, dstV, dynCall, ↓condE_t, ↓condE_f, ↓guardE_tt, ↓guardE_ff, ↓guardE_tf, ↓guardE_ft, frzDeep, deepArgs, deepArg, resB, cv, stepB, stepE, callD, tabD, snapD, snap1, snapC, snapId, snapIds, guardB, guardC, dstAt, aopR, one, pre, binR, intOpR, shiftOpR, unR, argFrm, evo, lkp, hlk, lenOf, asLst, idOf, bndA, srcOk, ofVal, ofCells, setCells, fillA, setElems, fieldsOf, fieldsEq, scalEq, isEq, AV.wr, AV.ok1, TK.agg, frz, frzs, frzA, frzArg, frzArgs, subA, subL, sub1, kp, kh, accOf, List.replicate, Nat.reduceAdd, Nat.reduceSub, Nat.reduceMul, Nat.reduceEqDiff, Nat.reduceLT, Nat.reduceLeDiff, Nat.reduceBEq, reduceIte, reduceCtorEq, eq_self, ne_eq, Int.reduceToNat, Int.reduceLT, Int.reduceLE, Int.reduceGT, Int.reduceGE, Int.reduceBEq, Int.reduceBNe, Int.reduceEq, Int.reduceNe]
                              repeat' apply And.intro
                              try any_goals (show entryOk _ _ _ _ _ = true; (repeat (first | exact entryOk_nil _ _ _ _ | (refine entryOk_step ?h ?_; case h => (first | (apply Or.inr; constructor <;> simp [meets] <;> omega; done) | (apply Or.inl; show anc _ _ _ _ = true; kernel_rfl))))))
                              exact ⟨(q + 1, ⟨x1.op, 0, 0, x1.val, 0, 0, 0⟩), by dsimp only; omega, ⟨by dsimp only; omega, ⟨uxv, u0, u0⟩, .inr (.inl ⟨.inr (.inl h4), hq1⟩)⟩, rfl, rfl⟩
                            · have e4 : (x1.op == 1) = false := by simpa using h4
                              rw [nextO, if_neg (by simp [h3, h4])] at hq1
                              simp only [JB_all, g5, hi0, hq0, hi3, hi4, hh1, gx, hql', wq, e3, e4, en, b0, b2, c0, c2, c4, c5, s0, s2, s3, Nat.le_refl, zs, fs, sv, fv, fBegin, noneF, Int.toNat_natCast, rf1, List.set_set, T29, T30, T41, nb_self, nb_same, nb_l0, nb_r0, nb_lt, nb_gt, nb_lt0, nb_gt0, Nat.add_assoc, hfree_fr, hfree_cf, cv', cf_eta, frz_u, shC_dec, dC, T23, T28, T25, hfree_lu, hfree_l0, row0, row1, row2, row3, row4, row5, shI_dec, shN_dec, shB_dec, shM_dec, dI, dN, dB, dM, dU, dU_map, iv, bv, u, ms, ctx_T, ctx_C, ctx_P, T4, T3, T26, Option.bind_some, Option.bind_none, Option.map_some, List.length_map, List.length_set, String.reduceBEq, Int.toNat_natCast, Bool.true_beq, Bool.false_beq, T24, shF_dec, dF, fr_eta, Int.cast_ofNat_Int, Int.reduceSub, Int.reduceAdd, Int.reduceNeg, ev1, ev2, implies_true, undef, stepP, drawB, stepL, lateB, lateB0, rdsT, rdsAny, isRd, afterL, preB, callLB, callLV, lateV, dstV, dynCall, ↓condE_t, ↓condE_f, ↓guardE_tt, ↓guardE_ff, ↓guardE_tf, ↓guardE_ft, frzDeep, deepArgs, deepArg, resB, cv, stepB, stepE, callD, tabD, snapD, snap1, snapC, snapId, snapIds, guardB, guardC, dstAt, aopR, one, pre, binR, intOpR, shiftOpR, unR, argFrm, evo, lkp, hlk, lenOf, asLst, idOf, bndA, srcOk, ofVal, ofCells, setCells, fillA, setElems, fieldsOf, fieldsEq, scalEq, isEq, AV.wr, AV.ok1, TK.agg, frz, frzs, frzA, frzArg, frzArgs, subA, subL, sub1, kp, kh, accOf, List.replicate, Nat.reduceAdd, Nat.reduceSub, Nat.reduceMul, Nat.reduceEqDiff, Nat.reduceLT, Nat.reduceLeDiff, Nat.reduceBEq, reduceIte, reduceCtorEq, eq_self, ne_eq, Int.reduceToNat, Int.reduceLT, Int.reduceLE, Int.reduceGT, Int.reduceGE, Int.reduceBEq, Int.reduceBNe, Int.reduceEq, Int.reduceNe]
                              repeat' apply And.intro
                              try any_goals (show entryOk _ _ _ _ _ = true; (repeat (first | exact entryOk_nil _ _ _ _ | (refine entryOk_step ?h ?_; case h => (first | (apply Or.inr; constructor <;> simp [meets] <;> omega; done) | (apply Or.inl; show anc _ _ _ _ = true; kernel_rfl))))))
                              exact ⟨(q + 1, noneF), by dsimp only; omega, ⟨by dsimp only; omega, none_ufr, .inl ⟨rfl, hi00, hq1⟩⟩, rfl, rfl⟩
                        · have hPa : P = (a, own.drop q) := by
                            rcases hqa with ⟨h, h', h''⟩ | ⟨_, h⟩ | ⟨_, _, h⟩
                            · have : ¬ q < own.length := fun h2 => hgo ⟨h, h2⟩
                              rw [← h'', List.drop_eq_nil_of_le (by omega), h]; rfl
                            · exact h.symm
                            · exact h.symm
                          rw [hPa] at hP
                          obtain ⟨m', g, e2⟩ : ∃ x y, dqStep ⟨1, d, 1, 0⟩ m a = (x, y) := ⟨_, _, rfl⟩
                          have hnx : own.length - (own.drop q).length = q := by rw [List.length_drop]; omega
                          have hcd : (a.op < 0) = False ∨ ((a.op < 0) = True ∧ ((q : Int) < (own.length : Int)) = False) := by
                            rcases hqa with ⟨h, h'⟩ | ⟨h, _⟩ | ⟨h, h', _⟩
                            · refine .inr ⟨by rw [h]; exact eq_true (by decide), eq_false (fun h2 => hgo ⟨h, by omega⟩)⟩
                            · exact .inl (eq_false (by omega))
                            · refine .inr ⟨by rw [h]; exact eq_true (by decide), eq_false (by omega)⟩
                          have g6 := getD_set_f hhi g
                          by_cases hr : g.res = 0
                          · have hr' : (g.res != 0) = false := by simpa using hr
                            have hs4 : S (k + 1) = ⟨m', own.drop q, hand.set i' g, over⟩ := by rw [hs3, dRound, ← hP]; dsimp only; rw [e2]; exact if_pos hr
                            rcases hcd with u1 | ⟨u1, u2⟩
                            · simp only [JB_all, g5, g6, hi0, hq0, hi3, hi4, hh1, u1, ux, uy, e2, hr', ww, hml, hcap, b0, b2, c0, c2, c4, c5, s0, s2, s3, Nat.le_refl, zs, fs, sv, fv, fBegin, noneF, Int.toNat_natCast, rf1, List.set_set, T29, T30, T41, nb_self, nb_same, nb_l0, nb_r0, nb_lt, nb_gt, nb_lt0, nb_gt0, Nat.add_assoc, hfree_fr, hfree_cf, cv', cf_eta, frz_u, shC_dec, dC, T23, T28, T25, hfree_lu, hfree_l0, row0, row1, row2, row3, row4, row5, shI_dec, shN_dec, shB_dec, shM_dec, dI, dN, dB, dM, dU, dU_map, iv, bv, u, ms, ctx_T, ctx_C, ctx_P, T4, T3, T26, Option.bind_some, Option.bind_none, Option.map_some, List.length_map, List.length_set, String.reduceBEq, Int.toNat_natCast, Bool.true_beq, Bool.false_beq, T24, shF_dec, dF, fr_eta, Int.cast_ofNat_Int, Int.reduceSub, Int.reduceAdd, Int.reduceNeg, ev1, ev2, implies_true, undef, stepP, drawB, stepL, lateB, lateB0, rdsT, rdsAny, isRd, afterL, preB, callLB, callLV, lateV, dstV, dynCall, ↓condE_t, ↓condE_f, ↓guardE_tt, ↓guardE_ff, ↓guardE_tf, ↓guardE_ft, frzDeep, deepArgs, deepArg, resB, cv, stepB, stepE, callD, tabD, snapD, snap1, snapC, snapId, snapIds, guardB, guardC, dstAt, aopR, one, pre, binR, intOpR, shiftOpR, unR, argFrm, evo, lkp, hlk, lenOf, asLst, idOf, bndA, srcOk, ofVal, ofCells, setCells, fillA, setElems, fieldsOf, fieldsEq, scalEq, isEq, AV.wr, AV.ok1, TK.agg, frz, frzs, frzA, frzArg, frzArgs, subA, subL, sub1, kp, kh, accOf, List.replicate, Nat.reduceAdd, Nat.reduceSub, Nat.reduceMul, Nat.reduceEqDiff, Nat.reduceLT, Nat.reduceLeDiff, Nat.reduceBEq, reduceIte, reduceCtorEq, eq_self, ne_eq, Int.reduceToNat, Int.reduceLT, Int.reduceLE, Int.reduceGT, Int.reduceGE, Int.reduceBEq, Int.reduceBNe, Int.reduceEq, Int.reduceNe]
                              repeat' apply And.intro
                              any_goals (show entryOk _ _ _ _ _ = true; (repeat (first | exact entryOk_nil _ _ _ _ | (refine entryOk_step ?h ?_; case h => (first | (apply Or.inr; constructor <;> simp [meets] <;> omega; done) | (apply Or.inl; show anc _ _ _ _ = true; kernel_rfl))))))
                              refine ⟨(k + 1, od), by dsimp only; omega, ⟨by dsimp only; omega, hod⟩, ?_⟩
                              simp only [hs4, hnx, nb_self, b0, b2, c0, c2, c4, c5, s0, s2, s3, nb_self, nb_same, nb_l0, nb_r0, nb_lt, nb_gt, nb_lt0, nb_gt0, Nat.add_assoc]
                              repeat' apply And.intro
                              all_goals first | trivial | rfl
                            · simp only [JB_all, g5, g6, hi0, hq0, hi3, hi4, hh1, u1, u2, ux, uy, e2, hr', ww, hml, hcap, b0, b2, c0, c2, c4, c5, s0, s2, s3, Nat.le_refl, zs, fs, sv, fv, fBegin, noneF, Int.toNat_natCast, rf1, List.set_set, T29, T30, T41, nb_self, nb_same, nb_l0, nb_r0, nb_lt, nb_gt, nb_lt0, nb_gt0, Nat.add_assoc, hfree_fr, hfree_cf, cv', cf_eta, frz_u, shC_dec, dC, T23, T28, T25, hfree_lu, hfree_l0, row0, row1, row2, row3, row4, row5, shI_dec, shN_dec, shB_dec, shM_dec, dI, dN, dB, dM, dU, dU_map, iv, bv, u, ms, ctx_T, ctx_C, ctx_P, T4, T3, T26, Option.bind_some, Option.bind_none, Option.map_some, List.length_map, List.length_set, String.reduceBEq, Int.toNat_natCast, Bool.true_beq, Bool.false_beq, T24, shF_dec, dF, fr_eta, Int.cast_ofNat_Int, Int.reduceSub, Int.reduceAdd, Int.reduceNeg, ev1, ev2, implies_true, undef, stepP, drawB, stepL, lateB, lateB0, rdsT, rdsAny, isRd, afterL, preB, callLB, callLV, lateV, dstV, dynCall, ↓condE_t, ↓condE_f, ↓guardE_tt, ↓guardE_ff, ↓guardE_tf, ↓guardE_ft, frzDeep, deepArgs, deepArg, resB, cv, stepB, stepE, callD, tabD, snapD, snap1, snapC, snapId, snapIds, guardB, guardC, dstAt, aopR, one, pre, binR, intOpR, shiftOpR, unR, argFrm, evo, lkp, hlk, lenOf, asLst, idOf, bndA, srcOk, ofVal, ofCells, setCells, fillA, setElems, fieldsOf, fieldsEq, scalEq, isEq, AV.wr, AV.ok1, TK.agg, frz, frzs, frzA, frzArg, frzArgs, subA, subL, sub1, kp, kh, accOf, List.replicate, Nat.reduceAdd, Nat.reduceSub, Nat.reduceMul, Nat.reduceEqDiff, Nat.reduceLT, Nat.reduceLeDiff, Nat.reduceBEq, reduceIte, reduceCtorEq, eq_self, ne_eq, Int.reduceToNat, Int.reduceLT, Int.reduceLE, Int.reduceGT, Int.reduceGE, Int.reduceBEq, Int.reduceBNe, Int.reduceEq, Int.reduceNe]
                              repeat' apply And.intro
                              any_goals (show entryOk _ _ _ _ _ = true; (repeat (first | exact entryOk_nil _ _ _ _ | (refine entryOk_step ?h ?_; case h => (first | (apply Or.inr; constructor <;> simp [meets] <;> omega; done) | (apply Or.inl; show anc _ _ _ _ = true; kernel_rfl))))))
                              refine ⟨(k + 1, od), by dsimp only; omega, ⟨by dsimp only; omega, hod⟩, ?_⟩
                              simp only [hs4, hnx, nb_self, b0, b2, c0, c2, c4, c5, s0, s2, s3, nb_self, nb_same, nb_l0, nb_r0, nb_lt, nb_gt, nb_lt0, nb_gt0, Nat.add_assoc]
                              repeat' apply And.intro
                              all_goals first | trivial | rfl
                          · have hr' : (g.res != 0) = true := by simpa using hr
                            have hs4 : S (k + 1) = ⟨m', own.drop q, hand.set i' noneF, over ++ [withWho g i']⟩ := by rw [hs3, dRound, ← hP]; dsimp only; rw [e2]; exact if_neg hr
                            rcases hcd with u1 | ⟨u1, u2⟩
                            · simp only [JB_all, g5, g6, hi0, hq0, hi3, hi4, hh1, u1, ux, uy, len_snocF, e2, hr', ww, hml, hcap, b0, b2, c0, c2, c4, c5, s0, s2, s3, Nat.le_refl, zs, fs, sv, fv, fBegin, noneF, Int.toNat_natCast, rf1, List.set_set, T29, T30, T41, nb_self, nb_same, nb_l0, nb_r0, nb_lt, nb_gt, nb_lt0, nb_gt0, Nat.add_assoc, hfree_fr, hfree_cf, cv', cf_eta, frz_u, shC_dec, dC, T23, T28, T25, hfree_lu, hfree_l0, row0, row1, row2, row3, row4, row5, shI_dec, shN_dec, shB_dec, shM_dec, dI, dN, dB, dM, dU, dU_map, iv, bv, u, ms, ctx_T, ctx_C, ctx_P, T4, T3, T26, Option.bind_some, Option.bind_none, Option.map_some, List.length_map, List.length_set, String.reduceBEq, Int.toNat_natCast, Bool.true_beq, Bool.false_beq, T24, shF_dec, dF, fr_eta, Int.cast_ofNat_Int, Int.reduceSub, Int.reduceAdd, Int.reduceNeg, ev1, ev2, implies_true, undef, stepP, drawB, stepL, lateB, lateB0, rdsT, rdsAny, isRd, afterL, preB, callLB, callLV, lateV, dstV, dynCall, ↓condE_t, ↓condE_f, ↓guardE_tt, ↓guardE_ff, ↓guardE_tf, ↓guardE_ft, frzDeep, deepArgs, deepArg, resB, cv, stepB, stepE, callD, tabD, snapD, snap1, snapC, snapId, snapIds, guardB, guardC, dstAt, aopR, one, pre, binR, intOpR, shiftOpR, unR, argFrm, evo, lkp, hlk, lenOf, asLst, idOf, bndA, srcOk, ofVal, ofCells, setCells, fillA, setElems, fieldsOf, fieldsEq, scalEq, isEq, AV.wr, AV.ok1, TK.agg, frz, frzs, frzA, frzArg, frzArgs, subA, subL, sub1, kp, kh, accOf, List.replicate, Nat.reduceAdd, Nat.reduceSub, Nat.reduceMul, Nat.reduceEqDiff, Nat.reduceLT, Nat.reduceLeDiff, Nat.reduceBEq, reduceIte, reduceCtorEq, eq_self, ne_eq, Int.reduceToNat, Int.reduceLT, Int.reduceLE, Int.reduceGT, Int.reduceGE, Int.reduceBEq, Int.reduceBNe, Int.reduceEq, Int.reduceNe]
                              repeat' apply And.intro
                              any_goals (show entryOk _ _ _ _ _ = true; (repeat (first | exact entryOk_nil _ _ _ _ | (refine entryOk_step ?h ?_; case h => (first | (apply Or.inr; constructor <;> simp [meets] <;> omega; done) | (apply Or.inl; show anc _ _ _ _ = true; kernel_rfl))))))
                              refine ⟨(k + 1, nx3 + 42), by dsimp only; omega, ⟨by dsimp only; omega, .inr (by dsimp only; omega)⟩, ?_⟩
                              simp only [hs4, hnx, len_snocF, nb_self, b0, b2, c0, c2, c4, c5, s0, s2, s3, nb_self, nb_same, nb_l0, nb_r0, nb_lt, nb_gt, nb_lt0, nb_gt0, Nat.add_assoc]
                              repeat' apply And.intro
                              all_goals first | trivial | rfl
                            · simp only [JB_all, g5, g6, hi0, hq0, hi3, hi4, hh1, u1, u2, ux, uy, len_snocF, e2, hr', ww, hml, hcap, b0, b2, c0, c2, c4, c5, s0, s2, s3, Nat.le_refl, zs, fs, sv, fv, fBegin, noneF, Int.toNat_natCast, rf1, List.set_set, T29, T30, T41, nb_self, nb_same, nb_l0, nb_r0, nb_lt, nb_gt, nb_lt0, nb_gt0, Nat.add_assoc, hfree_fr, hfree_cf, cv', cf_eta, frz_u, shC_dec, dC, T23, T28, T25, hfree_lu, hfree_l0, row0, row1, row2, row3, row4, row5, shI_dec, shN_dec, shB_dec, shM_dec, dI, dN, dB, dM, dU, dU_map, iv, bv, u, ms, ctx_T, ctx_C, ctx_P, T4, T3, T26, Option.bind_some, Option.bind_none, Option.map_some, List.length_map, List.length_set, String.reduceBEq, Int.toNat_natCast, Bool.true_beq, Bool.false_beq, T24, shF_dec, dF, fr_eta, Int.cast_ofNat_Int, Int.reduceSub, Int.reduceAdd, Int.reduceNeg, ev1, ev2, implies_true, undef, stepP, drawB, stepL, lateB, lateB0, rdsT, rdsAny, isRd, afterL, preB, callLB, callLV, lateV, dstV, dynCall, ↓condE_t, ↓condE_f, ↓guardE_tt, ↓guardE_ff, ↓guardE_tf, ↓guardE_ft, frzDeep, deepArgs, deepArg, resB, cv, stepB, stepE, callD, tabD, snapD, snap1, snapC, snapId, snapIds, guardB, guardC, dstAt, aopR, one, pre, binR, intOpR, shiftOpR, unR, argFrm, evo, lkp, hlk, lenOf, asLst, idOf, bndA, srcOk, ofVal, ofCells, setCells, fillA, setElems, fieldsOf, fieldsEq, scalEq, isEq, AV.wr, AV.ok1, TK.agg, frz, frzs, frzA, frzArg, frzArgs, subA, subL, sub1, kp, kh, accOf, List.replicate, Nat.reduceAdd, Nat.reduceSub, Nat.reduceMul, Nat.reduceEqDiff, Nat.reduceLT, Nat.reduceLeDiff, Nat.reduceBEq, reduceIte, reduceCtorEq, eq_self, ne_eq, Int.reduceToNat, Int.reduceLT, Int.reduceLE, Int.reduceGT, Int.reduceGE, Int.reduceBEq, Int.reduceBNe, Int.reduceEq, Int.reduceNe]
                              repeat' apply And.intro
                              any_goals (show entryOk _ _ _ _ _ = true; (repeat (first | exact entryOk_nil _ _ _ _ | (refine entryOk_step ?h ?_; case h => (first | (apply Or.inr; constructor <;> simp [meets] <;> omega; done) | (apply Or.inl; show anc _ _ _ _ = true; kernel_rfl))))))
                              refine ⟨(k + 1, nx3 + 42), by dsimp only; omega, ⟨by dsimp only; omega, .inr (by dsimp only; omega)⟩, ?_⟩
                              simp only [hs4, hnx, len_snocF, nb_self, b0, b2, c0, c2, c4, c5, s0, s2, s3, nb_self, nb_same, nb_l0, nb_r0, nb_lt, nb_gt, nb_lt0, nb_gt0, Nat.add_assoc]
                              repeat' apply And.intro
                              all_goals first | trivial | rfl
                      · dsimp only [kh]
                        simp only [hlk, nb_self, hhs, b0, b2, c0, c2, c4, c5, Nat.reduceBEq]
                        repeat' apply And.intro
                        all_goals first | trivial | rfl
            · have hkw' : ¬ (k : Int) < who.length := by omega
              simp only [JB_all, hkw', hh1, b0, b2, c0, c2, c4, c5, m0, m2, hodn, Nat.le_refl, zs, fs, sv, fv, rf1, List.set_set, T29, T30, T41, nb_self, nb_same, nb_l0, nb_r0, nb_lt, nb_gt, nb_lt0, nb_gt0, Nat.add_assoc, hfree_fr, hfree_cf, cv', cf_eta, frz_u, shC_dec, dC, T23, T28, T25, hfree_lu, hfree_l0, row0, row1, row2, row3, row4, row5, shI_dec, shN_dec, shB_dec, shM_dec, dI, dN, dB, dM, dU, dU_map, iv, bv, u, ms, ctx_T, ctx_C, ctx_P, T4, T3, T26, Option.bind_some, Option.bind_none, Option.map_some, List.length_map, List.length_set, String.reduceBEq, Int.toNat_natCast, Bool.true_beq, Bool.false_beq, T24, shF_dec, dF, fr_eta, Int.cast_ofNat_Int, Int.reduceSub, Int.reduceAdd, Int.reduceNeg, ev1, ev2, implies_true, undef, stepP, drawB, stepL, lateB, lateB0, rdsT, rdsAny, isRd, afterL, preB, callLB, callLV, lateV, dstV, dynCall, ↓condE_t, ↓condE_f, ↓guardE_tt, ↓guardE_ff, ↓guardE_tf, ↓guardE_ft, frzDeep, deepArgs, deepArg, resB, cv, stepB, stepE, callD, tabD, snapD, snap1, snapC, snapId, snapIds, guardB, guardC, dstAt, aopR, one, pre, binR, intOpR, shiftOpR, unR, argFrm, evo, lkp, hlk, lenOf, asLst, idOf, bndA, srcOk, ofVal, ofCells, setCells, fillA, setElems, fieldsOf, fieldsEq, scalEq, isEq, AV.wr, AV.ok1, TK.agg, frz, frzs, frzA, frzArg, frzArgs, subA, subL, sub1, kp, kh, accOf, List.replicate, Nat.reduceAdd, Nat.reduceSub, Nat.reduceMul, Nat.reduceEqDiff, Nat.reduceLT, Nat.reduceLeDiff, Nat.reduceBEq, reduceIte, reduceCtorEq, eq_self, ne_eq, Int.reduceToNat, Int.reduceLT, Int.reduceLE, Int.reduceGT, Int.reduceGE, Int.reduceBEq, Int.reduceBNe, Int.reduceEq, Int.reduceNe]
              have hkk : k = who.length := by omega
              have hth : List.take (N + 1) (hand.map fv) = hand.map fv := by rw [← hh1]; exact take_f hand
              have hP : dPlay d N own who = (m, over, hand) := by
                rw [dPlay, gDPlay, if_pos ⟨hm, by omega, by omega⟩, show dqC d = ⟨1, d, 1, 0⟩ from rfl, ← hla, ← hkk, hSk]
              rw [hP, hth]
              exact ⟨of_eq_true (hf_f _), of_eq_true (hf_f _), rfl, rfl, rfl⟩
          · rw [hS.zero]
            refine ⟨rfl, ?_, rfl, rfl, rfl, rfl, rfl, rfl, rfl, trivial⟩
            dsimp only [dStart]
            rw [Nat.sub_self]; rfl
          · rw [hS.zero]
            have e1 : Nat.beq id (nx + 5) = false := nb_lt hidn 5
            have e3 : Nat.beq 5 (nx + 5) = false := nb_lt n0 5
            have hN1 : ((N : Int) + 1).toNat = N + 1 := by omega
            simp only [kh, hlk, nb_self, b0, b2, e1, e3, dStart, hN1, Nat.reduceBEq]
            repeat' apply And.intro
            all_goals first | trivial | rfl
  · have hP : dPlay d n own who = ([], [], []) := if_neg (fun h => hm h.1)
    rw [hP]
    have hm' : mayC ⟨1, d, 1, 0⟩ = false := by simpa using hm
    simp only [Try.f14, inl, JB_all, hm', zs, fs, sv, fv, List.map_nil, rf1, List.set_set, T29, T30, T41, hfree_fr, hfree_cf, cv', cf_eta, frz_u, shC_dec, dC, T23, T28, T25, hfree_lu, hfree_l0, row0, row1, row2, row3, row4, row5, shI_dec, shN_dec, shB_dec, shM_dec, dI, dN, dB, dM, dU, dU_map, iv, bv, u, ms, ctx_T, ctx_C, ctx_P, T4, T3, T26, Option.bind_some, Option.bind_none, Option.map_some, List.length_map, List.length_set, String.reduceBEq, Int.toNat_natCast, Bool.true_beq, Bool.false_beq, T24, shF_dec, dF, fr_eta, Int.cast_ofNat_Int, Int.reduceSub, Int.reduceAdd, Int.reduceNeg, ev1, ev2, implies_true, undef, stepP, drawB, stepL, lateB, lateB0, rdsT, rdsAny, isRd, afterL, preB, callLB, callLV, lateV, dstV, dynCall, ↓condE_t, ↓condE_f, ↓guardE_tt, ↓guardE_ff, ↓guardE_tf, ↓guardE_ft, frzDeep, deepArgs, deepArg, resB, cv, stepB, stepE, callD, tabD, snapD, snap1, snapC, snapId, snapIds, guardB, guardC, dstAt, aopR, one, pre, binR, intOpR, shiftOpR, unR, argFrm, evo, lkp, hlk, lenOf, asLst, idOf, bndA, srcOk, ofVal, ofCells, setCells, fillA, setElems, fieldsOf, fieldsEq, scalEq, isEq, AV.wr, AV.ok1, TK.agg, frz, frzs, frzA, frzArg, frzArgs, subA, subL, sub1, kp, kh, accOf, List.replicate, Nat.reduceAdd, Nat.reduceSub, Nat.reduceMul, Nat.reduceEqDiff, Nat.reduceLT, Nat.reduceLeDiff, Nat.reduceBEq, reduceIte, reduceCtorEq, eq_self, ne_eq, Int.reduceToNat, Int.reduceLT, Int.reduceLE, Int.reduceGT, Int.reduceGE, Int.reduceBEq, Int.reduceBNe, Int.reduceEq, Int.reduceNe]
    all_goals ((repeat' apply And.intro) <;> first | rfl | omega | (show entryOk _ _ _ _ _ = true; kernel_rfl) | (show pivotOk _ _ = true; kernel_rfl) | decide)
end Go.Vai
/- What always holds when an owner and some who steal are at one deque at once: by numbers and lists. -/
namespace Go.Vai
open Go.RowKit
set_option linter.unusedVariables false
set_option linter.unusedSimpArgs false

/-- The deque's cells, of the place t on. -/
structure DBase (c : Cf) (m : List Int) (t : Int) (L : List Int) (N : Int) : Prop where
  lay : Lay c m 0
  top : mLoad m (lTop c 0) = t
  lo : 0 ≤ t
  room : (L.length : Int) ≤ c.d
  hi : t + L.length ≤ N
  slots : ∀ k : Nat, k < L.length → mLoad m (lSlot c 0 (t + k)) = L.getD k 0

/-- The owner. -/
structure OOk (c : Cf) (m : List Int) (t : Int) (L : List Int) (o : Fr) : Prop where
  op : o = noneF ∨ o.op = 0 ∨ o.op = 1
  idle : o = noneF ∨ o.res ≠ 0 → mLoad m (lBottom c 0) = t + L.length
  push : o.op = 0 → o.res = 0 → o.who = 0 ∧ 0 ≤ o.pc ∧ o.pc < 4 ∧ mLoad m (lBottom c 0) = t + L.length ∧ (1 ≤ o.pc → o.x = t + L.length) ∧ (2 ≤ o.pc → (L.length : Int) < c.d) ∧ (o.pc = 3 → mLoad m (lSlot c 0 o.x) = o.val)
  pop : o.op = 1 → o.res = 0 → o.who = 0 ∧ 0 ≤ o.pc ∧ o.pc < 7 ∧ (o.pc ≤ 1 → mLoad m (lBottom c 0) = t + L.length) ∧ (1 ≤ o.pc → o.x = wrapU (t + L.length - 1)) ∧ (2 ≤ o.pc → mLoad m (lBottom c 0) = o.x) ∧
    (o.pc = 3 → 0 ≤ o.y ∧ o.y ≤ t ∧ o.y ≤ t + L.length - 1 ∧ (o.x ≠ o.y → L ≠ [])) ∧ (o.pc = 4 → o.y = t + L.length - 1 ∧ 0 ≤ o.y ∧ o.y ≤ t ∧ (o.y = t → o.val = L.getD 0 0)) ∧ (5 ≤ o.pc → L = [])

/-- The owner takes the last one, without a contest. -/
def Solo (o : Fr) : Prop := o.op = 1 ∧ o.res = 0 ∧ o.pc = 3 ∧ o.x ≠ o.y
/-- One who steals. -/
structure ThOk (t : Int) (L : List Int) (o f : Fr) : Prop where
  op : f = noneF ∨ f.op = 2
  go : f.op = 2 → f.res = 0 → f.who = 0 ∧ 0 ≤ f.pc ∧ f.pc < 4 ∧ (1 ≤ f.pc → 0 ≤ f.y ∧ f.y ≤ t) ∧ (2 ≤ f.pc → f.y = t → L ≠ [] ∧ (Solo o → 1 < L.length)) ∧ (f.pc = 3 → f.y = t → f.val = L.getD 0 0)

def dPut (f : Fr) : Option Int := if f.op = 0 ∧ f.res = 1 then some f.val else none
def dGot (f : Fr) : Option Int := if f.op = 1 ∧ (f.res = 1 ∨ f.res = 0 ∧ f.pc = 5) ∨ f.op = 2 ∧ f.res = 1 then some f.val else none

/-- What a step of the owner's does to the list. -/
structure OEv (o o' : Fr) (t : Int) (L : List Int) (t' : Int) (L' : List Int) : Prop where
  op : o'.op = o.op
  val : o.op = 0 → o'.val = o.val
  over : o.res ≠ 0 → o' = o
  ev : (L' = L ∧ dPut o' = dPut o ∧ dGot o' = dGot o) ∨ (L' = L ++ [o.val] ∧ o.op = 0 ∧ o.res = 0 ∧ o'.res = 1) ∨ (∃ v, L = L' ++ [v] ∧ o.op = 1 ∧ dGot o = none ∧ dGot o' = some v)
  empty : o.op = 1 → o.res = 0 → o'.res = 3 → L' = []
  res : o.res = 0 → o'.res = 0 ∨ o'.res = 1 ∨ (o'.res = 2 ∧ o.op = 0) ∨ o'.res = 3
  rank : o.op = 0 ∨ o.op = 1 → o.res = 0 → o'.res ≠ 0 ∨ (o.pc < o'.pc ∧ o'.pc ≤ 6)
structure TEv (f f' : Fr) (t : Int) (L : List Int) (t' : Int) (L' : List Int) : Prop where
  op : f'.op = f.op
  over : f.res ≠ 0 → f' = f
  ev : (L' = L ∧ t' = t ∧ dGot f' = dGot f) ∨ (∃ v, L = v :: L' ∧ f.op = 2 ∧ f.res = 0 ∧ f'.res = 1 ∧ f'.val = v)
  res : f.res = 0 → f'.res = 0 ∨ (f'.res = 1 ∧ L = f'.val :: L') ∨ f'.res = 3 ∨ f'.res = 4
  rank : f.op = 2 → f.res = 0 → f'.res ≠ 0 ∨ (f.pc < f'.pc ∧ f'.pc ≤ 6)

section
variable {c : Cf} {m : List Int} {t : Int} {L : List Int} {N : Int} {o f : Fr}

theorem DBase.bound (h : DBase c m t L N) (hN : N ≤ 100000) : 0 ≤ t ∧ t + L.length ≤ 100000 ∧ 1 ≤ c.d ∧ c.d ≤ 16 := by
  have := h.lo; have := h.hi; have := h.lay.dpos; omega
theorem wrapU_id {x : Int} (h0 : 0 ≤ x) (h1 : x ≤ 1000000) : wrapU x = x := by rw [wrapU_eq]; omega
theorem far_d {a b : Int} (h0 : -1 ≤ a) (h1 : a ≤ 1000000) (h2 : 0 ≤ b) (h3 : b ≤ 1000000) : far (wrapU a) b = a - b := by
  rw [far_eq (wrapU_u a) (by unfold InU; omega), wrapU_eq]; omega
theorem wrapU_back {a : Int} (h0 : -1 ≤ a) (h1 : a ≤ 1000000) : wrapU (wrapU a + 1) = a + 1 := by rw [wrapU_eq, wrapU_eq]; omega
theorem sl_ne (h : Lay c m 0) {x y : Int} (h0 : 0 ≤ x) (h1 : x < y) (h2 : y < x + c.d) (h3 : y ≤ 1000000) : lSlot c 0 y ≠ lSlot c 0 x := by
  rw [h.slot, h.slot]
  rcases h.dpos with e | e | e | e | e <;> rw [e] at h2 ⊢ <;> omega

theorem DBase.same {N' : Int} (h : DBase c m t L N) (hN : N ≤ N') : DBase c m t L N' := ⟨h.lay, h.top, h.lo, h.room, by have := h.hi; omega, h.slots⟩
theorem DBase.setBottom (h : DBase c m t L N) (v : Int) {N' : Int} (hN : N ≤ N') : DBase c (mStore m (lBottom c 0) v) t L N' where
  lay := h.lay.store _ _
  top := by rw [load_other (fun e => h.lay.tb e.symm)]; exact h.top
  lo := h.lo
  room := h.room
  hi := by have := h.hi; omega
  slots := fun k hk => by rw [load_other (h.lay.bs _)]; exact h.slots k hk
theorem bottom_set (h : DBase c m t L N) (v : Int) : mLoad (mStore m (lBottom c 0) v) (lBottom c 0) = v := load_store h.lay.in_bottom v

theorem ThOk.mono {t' : Int} {L' : List Int} {o' : Fr} (h : ThOk t L o f) (ht : t ≤ t') (hL : t' = t → L ≠ [] → (Solo o → 1 < L.length) → L' ≠ [] ∧ L'.getD 0 0 = L.getD 0 0 ∧ (Solo o' → 1 < L'.length)) : ThOk t' L' o' f := by
  refine ⟨h.op, fun h1 h2 => ?_⟩
  obtain ⟨a1, a2, a3, a4, a5, a6⟩ := h.go h1 h2
  refine ⟨a1, a2, a3, fun e => ?_, fun e q => ?_, fun e q => ?_⟩
  · have := a4 e; omega
  · have hy := a4 (by omega)
    have : t' = t := by omega
    obtain ⟨b1, b2⟩ := a5 e (by omega)
    obtain ⟨c1, c2, c3⟩ := hL this b1 b2
    exact ⟨c1, c3⟩
  · have hy := a4 (by omega)
    have : t' = t := by omega
    obtain ⟨b1, b2⟩ := a5 (by omega) (by omega)
    obtain ⟨c1, c2, c3⟩ := hL this b1 b2
    rw [c2]; exact a6 e (by omega)

theorem goes_p {pc w v x y : Int} (h : Lay c m w) (h0 : 0 ≤ pc) (h1 : pc < 4) : goes c m ⟨0, pc, w, v, x, y, 0⟩ 0 4 = true := goes_iff.2 ⟨h, rfl, rfl, h0, h1⟩

/-- A step of the owner's push. -/
theorem own_push (h : DBase c m t L N) (hN : N ≤ 10000) (ho : OOk c m t L o) (h0 : o.op = 0) (hr : o.res = 0) :
    ∃ t' L', DBase c (pStep c m o).1 t' L' (N + 1) ∧ OOk c (pStep c m o).1 t' L' (pStep c m o).2 ∧ (∀ f, ThOk t L o f → ThOk t' L' (pStep c m o).2 f) ∧ OEv o (pStep c m o).2 t L t' L' := by
  obtain ⟨b1, b2, b3, b4⟩ := h.bound (by omega)
  obtain ⟨a0, a1, a2, a3, a4, a5, a6⟩ := ho.push h0 hr
  have hns : ¬ Solo o := fun q => by have := q.1; omega
  obtain ⟨op, pc, w, v, x, y, res⟩ := o
  simp only at h0 hr a0 a1 a2 a3 a4 a5 a6
  subst h0 hr a0
  have same : ∀ o' : Fr, o'.op ≠ 1 → ∀ f, ThOk t L ⟨0, pc, 0, v, x, y, 0⟩ f → ThOk t L o' f := fun o' h1 f hf => hf.mono (Int.le_refl _) (fun _ q _ => ⟨q, rfl, fun k => absurd k.1 h1⟩)
  have hpc : pc = 0 ∨ pc = 1 ∨ pc = 2 ∨ pc = 3 := by omega
  rcases hpc with e | e | e | e <;> subst e
  · have e1 : pStep c m ⟨0, 0, 0, v, x, y, 0⟩ = (m, ⟨0, 1, 0, v, mLoad m (lBottom c 0), y, 0⟩) := by simp [pStep, goes_p h.lay]
    rw [e1, a3]
    refine ⟨t, L, h.same (by omega), ⟨.inr (.inl rfl), fun q => by simp [noneF] at q, fun _ _ => ?_, fun q => by simp at q⟩, same _ (by simp), ?_⟩
    · dsimp only
      exact ⟨rfl, by omega, by omega, a3, fun _ => rfl, fun q => by omega, fun q => by omega⟩
    · constructor <;> simp [dPut, dGot]
  · have a4 := a4 (by omega)
    by_cases q : c.d ≤ wrapU (x - mLoad m (lTop c 0))
    · have e1 : pStep c m ⟨0, 1, 0, v, x, y, 0⟩ = (m, ⟨0, 0, 0, v, 0, 0, 2⟩) := by simp [pStep, goes_p h.lay, q, fEnd]
      rw [e1]
      refine ⟨t, L, h.same (by omega), ⟨.inr (.inl rfl), fun _ => a3, fun _ q => by simp at q, fun q => by simp at q⟩, same _ (by simp), ?_⟩
      constructor <;> simp [dPut, dGot]
    · have e1 : pStep c m ⟨0, 1, 0, v, x, y, 0⟩ = (m, ⟨0, 2, 0, v, x, mLoad m (lTop c 0), 0⟩) := by simp [pStep, goes_p h.lay, q]
      rw [e1]
      refine ⟨t, L, h.same (by omega), ⟨.inr (.inl rfl), fun q => by simp [noneF] at q, fun _ _ => ?_, fun q => by simp at q⟩, same _ (by simp), ?_⟩
      · dsimp only
        rw [h.top, a4, wrapU_id (by omega) (by omega)] at q
        exact ⟨rfl, by omega, by omega, a3, fun _ => a4, fun _ => by omega, fun q => by omega⟩
      · constructor <;> simp [dPut, dGot]
  · have a4 := a4 (by omega)
    have a5 := a5 (by omega)
    have e1 : pStep c m ⟨0, 2, 0, v, x, y, 0⟩ = (mStore m (lSlot c 0 x) v, ⟨0, 3, 0, v, x, y, 0⟩) := by simp [pStep, goes_p h.lay]
    rw [e1]
    refine ⟨t, L, ⟨h.lay.store _ _, ?_, h.lo, h.room, by have := h.hi; omega, fun k hk => ?_⟩, ⟨.inr (.inl rfl), fun q => by simp [noneF] at q, fun _ _ => ?_, fun q => by simp at q⟩, same _ (by simp), ?_⟩
    · rw [load_other (fun e => h.lay.ts x e.symm)]; exact h.top
    · rw [load_other (sl_ne h.lay (by omega) (by omega) (by omega) (by omega))]; exact h.slots k hk
    · dsimp only
      refine ⟨rfl, by omega, by omega, ?_, fun _ => a4, fun _ => a5, fun _ => load_store (h.lay.in_slot x) v⟩
      rw [load_other (fun e => h.lay.bs x e.symm)]; exact a3
    · constructor <;> simp [dPut, dGot]
  · have a4 := a4 (by omega)
    have a5 := a5 (by omega)
    have a6 := a6 rfl
    have e1 : pStep c m ⟨0, 3, 0, v, x, y, 0⟩ = (mStore m (lBottom c 0) (wrapU (x + 1)), ⟨0, 0, 0, v, 0, 0, 1⟩) := by simp [pStep, goes_p h.lay, fEnd]
    rw [e1, wrapU_id (by omega) (by omega)]
    have hb := h.setBottom (x + 1) (Int.le_refl N)
    refine ⟨t, L ++ [v], ⟨hb.lay, hb.top, h.lo, by simp; omega, by have := h.hi; simp; omega, fun k hk => ?_⟩, ⟨.inr (.inl rfl), fun _ => ?_, fun _ q => by simp at q, fun q => by simp at q⟩, fun f hf => hf.mono (Int.le_refl _) (fun _ q _ => ⟨by simp, ?_, fun k => by simp [Solo] at k⟩), ?_⟩
    · rw [load_other (h.lay.bs _)]
      by_cases q : k < L.length
      · rw [h.slots k q]; simp [List.getD_eq_getElem?_getD, List.getElem?_append, q]
      · have : k = L.length := by simp at hk; omega
        subst this
        rw [← a4, a6]; simp [List.getD_eq_getElem?_getD]
    · rw [bottom_set h]; simp; omega
    · cases L with
      | nil => exact absurd rfl q
      | cons a r => rfl
    · constructor <;> simp [dPut, dGot]

/-- A step of the owner's pop. -/
theorem own_pop (h : DBase c m t L N) (hN : N ≤ 10000) (ho : OOk c m t L o) (h0 : o.op = 1) (hr : o.res = 0) :
    ∃ t' L', DBase c (oStep c m o).1 t' L' (N + 1) ∧ OOk c (oStep c m o).1 t' L' (oStep c m o).2 ∧ (∀ f, ThOk t L o f → ThOk t' L' (oStep c m o).2 f) ∧ OEv o (oStep c m o).2 t L t' L' := by
  obtain ⟨b1, b2, b3, b4⟩ := h.bound (by omega)
  obtain ⟨a0, a1, a2, a3, a4, a5, a6, a7, a8⟩ := ho.pop h0 hr
  obtain ⟨op, pc, w, v, x, y, res⟩ := o
  simp only at h0 hr a0 a1 a2 a3 a4 a5 a6 a7 a8
  subst h0 hr a0
  have hpc : pc = 0 ∨ pc = 1 ∨ pc = 2 ∨ pc = 3 ∨ pc = 4 ∨ pc = 5 ∨ pc = 6 := by omega
  have same : ∀ o' : Fr, ¬ Solo o' → ∀ f, ThOk t L ⟨1, pc, 0, v, x, y, 0⟩ f → ThOk t L o' f := fun o' h1 f hf => hf.mono (Int.le_refl _) (fun _ q _ => ⟨q, rfl, fun k => absurd k h1⟩)
  have hlen : 0 ≤ (L.length : Int) := by omega
  rcases hpc with e | e | e | e | e | e | e <;> subst e
  · have a3 := a3 (by omega)
    rw [pop_1 h.lay, a3]
    refine ⟨t, L, h.same (by omega), ⟨.inr (.inr rfl), fun q => by simp [noneF] at q, fun q => by simp at q, fun _ _ => ?_⟩, same _ (by simp [Solo]), ?_⟩
    · dsimp only
      exact ⟨rfl, by omega, by omega, fun _ => a3, fun _ => rfl, fun q => by omega, fun q => by omega, fun q => by omega, fun q => by omega⟩
    · constructor <;> simp [dPut, dGot]
  · have a3 := a3 (by omega)
    have a4 := a4 (by omega)
    rw [pop_2 h.lay]
    refine ⟨t, L, h.setBottom x (by omega), ⟨.inr (.inr rfl), fun q => by simp [noneF] at q, fun q => by simp at q, fun _ _ => ?_⟩, same _ (by simp [Solo]), ?_⟩
    · dsimp only
      exact ⟨rfl, by omega, by omega, fun q => by omega, fun _ => a4, fun _ => bottom_set h x, fun q => by omega, fun q => by omega, fun q => by omega⟩
    · constructor <;> simp [dPut, dGot]
  · have a4 := a4 (by omega)
    have a5 := a5 (by omega)
    have hf : far x (mLoad m (lTop c 0)) = t + L.length - 1 - t := by rw [h.top, a4]; exact far_d (by omega) (by omega) (by omega) (by omega)
    by_cases q : L = []
    · have hl0 : L.length = 0 := by rw [q]; rfl
      rw [pop_3e h.lay (by rw [hf]; omega)]
      refine ⟨t, L, h.same (by omega), ⟨.inr (.inr rfl), fun q => by simp [noneF] at q, fun q => by simp at q, fun _ _ => ?_⟩, same _ (by simp [Solo]), ?_⟩
      · dsimp only
        exact ⟨rfl, by omega, by omega, fun q => by omega, fun _ => a4, fun _ => a5, fun q => by omega, fun q => by omega, fun _ => q⟩
      · constructor <;> simp [dPut, dGot]
    · have hl0 : 0 < L.length := List.length_pos_iff.2 q
      rw [pop_3 h.lay (by rw [hf]; omega), h.top]
      have hx : x = t + L.length - 1 := by rw [a4, wrapU_id (by omega) (by omega)]
      refine ⟨t, L, h.same (by omega), ⟨.inr (.inr rfl), fun q => by simp [noneF] at q, fun q => by simp at q, fun _ _ => ?_⟩, fun f hf => hf.mono (Int.le_refl _) (fun _ q _ => ⟨q, rfl, fun k => ?_⟩), ?_⟩
      · dsimp only
        exact ⟨rfl, by omega, by omega, fun q => by omega, fun _ => a4, fun _ => a5, fun _ => ⟨b1, Int.le_refl _, by omega, fun _ => q⟩, fun q => by omega, fun q => by omega⟩
      · have := k.2.2.2
        dsimp only at this
        omega
      · constructor <;> simp [dPut, dGot]
  · have a4 := a4 (by omega)
    have a5 := a5 (by omega)
    obtain ⟨c1, c2, c3, c4⟩ := a6 rfl
    have hx : x = t + L.length - 1 := by rw [a4, wrapU_id (by omega) (by omega)]
    by_cases q : x = y
    · rw [pop_4 h.lay q]
      refine ⟨t, L, h.same (by omega), ⟨.inr (.inr rfl), fun q => by simp [noneF] at q, fun q => by simp at q, fun _ _ => ?_⟩, same _ (by simp [Solo]), ?_⟩
      · dsimp only
        refine ⟨rfl, by omega, by omega, fun q => by omega, fun _ => a4, fun _ => a5, fun q => by omega, fun _ => ⟨by omega, c1, c2, fun k => ?_⟩, fun q => by omega⟩
        have := h.slots 0 (by omega)
        rw [show t + ((0 : Nat) : Int) = x by omega] at this
        exact this
      · constructor <;> simp [dPut, dGot]
    · rw [pop_4d h.lay q]
      have c4 := c4 q
      have hl0 : 0 < L.length := List.length_pos_iff.2 c4
      have hd : L = L.dropLast ++ [L.getD (L.length - 1) 0] := by
        have := List.dropLast_concat_getLast c4
        have e : L.getLast c4 = L.getD (L.length - 1) 0 := by rw [List.getLast_eq_getElem]; simp [List.getD_eq_getElem?_getD, show L.length - 1 < L.length by omega]
        rw [e] at this; exact this.symm
      have hs : mLoad m (lSlot c 0 x) = L.getD (L.length - 1) 0 := by
        have := h.slots (L.length - 1) (by omega)
        rw [show t + ((L.length - 1 : Nat) : Int) = x by omega] at this
        exact this
      have hl1 : L.dropLast.length = L.length - 1 := by simp
      rw [hs]
      refine ⟨t, L.dropLast, ⟨h.lay, h.top, h.lo, by have := h.room; omega, by have := h.hi; omega, fun k hk => ?_⟩, ⟨.inr (.inr rfl), fun _ => by rw [a5, hx]; omega, fun q => by simp at q, fun _ q => by simp at q⟩, fun f hf => hf.mono (Int.le_refl _) (fun _ k1 k2 => ?_), ?_⟩
      · rw [h.slots k (by omega)]
        simp only [List.getD_eq_getElem?_getD, List.getElem?_dropLast]
        rw [if_pos (by omega)]
      · have k2 := k2 ⟨rfl, rfl, rfl, q⟩
        refine ⟨fun e => by rw [e] at hl1; simp at hl1; omega, ?_, fun k => by simp [Solo] at k⟩
        simp only [List.getD_eq_getElem?_getD, List.getElem?_dropLast]
        rw [if_pos (by omega)]
      · refine ⟨rfl, fun q => by simp at q, fun q => by simp at q, .inr (.inr ⟨L.getD (L.length - 1) 0, hd, rfl, by simp [dGot], by simp [dGot]⟩), fun _ _ q => by simp at q, fun _ => .inr (.inl rfl), fun _ _ => .inl (by simp)⟩
  · have a4 := a4 (by omega)
    have a5 := a5 (by omega)
    obtain ⟨c1, c2, c3, c4⟩ := a7 rfl
    have hx : x = t + L.length - 1 := by rw [a4, wrapU_id (by omega) (by omega)]
    rw [pop_5 h.lay]
    by_cases q : y = t
    · have hc : mCasB m (lTop c 0) y = true := by rw [q, ← h.top]; exact casB_top h.lay
      rw [cas_store hc, hc, if_pos rfl]
      have hl1 : L.length = 1 := by omega
      have hL : L = [v] := by
        match L, hl1 with
        | [a], _ => have := c4 q; simp at this; rw [this]
      refine ⟨t + 1, [], ⟨h.lay.store _ _, ?_, by omega, by simp; omega, by have := h.hi; simp; omega, fun k hk => by simp at hk⟩, ⟨.inr (.inr rfl), fun q => by simp [noneF] at q, fun q => by simp at q, fun _ _ => ?_⟩, fun f hf => hf.mono (by omega) (fun q => by omega), ?_⟩
      · rw [load_store h.lay.in_top, wrapU_id (by omega) (by omega), q]
      · dsimp only
        refine ⟨rfl, by omega, by omega, fun q => by omega, fun _ => ?_, fun _ => ?_, fun q => by omega, fun q => by omega, fun _ => rfl⟩
        · rw [a4, hL]; simp
        · rw [load_other h.lay.tb]; exact a5
      · refine ⟨rfl, fun q => by simp at q, fun q => by simp at q, .inr (.inr ⟨v, by rw [hL]; rfl, rfl, by simp [dGot], by simp [dGot]⟩), fun _ _ q => by simp at q, fun _ => .inl rfl, fun _ _ => .inr ⟨by simp, by simp⟩⟩
    · have hc : mCasB m (lTop c 0) y = false := by simp [mCasB, h.top]; intro _; omega
      rw [cas_not hc, hc, if_neg (by simp)]
      have hL : L = [] := List.length_eq_zero_iff.1 (by omega)
      refine ⟨t, L, h.same (by omega), ⟨.inr (.inr rfl), fun q => by simp [noneF] at q, fun q => by simp at q, fun _ _ => ?_⟩, same _ (by simp [Solo]), ?_⟩
      · dsimp only
        exact ⟨rfl, by omega, by omega, fun q => by omega, fun _ => a4, fun _ => a5, fun q => by omega, fun q => by omega, fun _ => hL⟩
      · constructor <;> simp [dPut, dGot]
  · have a4 := a4 (by omega)
    have a8 := a8 (by omega)
    have hw : wrapU (x + 1) = t + L.length - 1 + 1 := by rw [a4]; exact wrapU_back (by omega) (by omega)
    rw [pop_6 h.lay, hw]
    refine ⟨t, L, h.setBottom _ (by omega), ⟨.inr (.inr rfl), fun _ => by rw [bottom_set h]; omega, fun q => by simp at q, fun _ q => by simp at q⟩, same _ (by simp [Solo]), ?_⟩
    constructor <;> simp [dPut, dGot]
  · have a4 := a4 (by omega)
    have a8 := a8 (by omega)
    have hw : wrapU (x + 1) = t + L.length - 1 + 1 := by rw [a4]; exact wrapU_back (by omega) (by omega)
    rw [pop_7 h.lay, hw]
    refine ⟨t, L, h.setBottom _ (by omega), ⟨.inr (.inr rfl), fun _ => by rw [bottom_set h]; omega, fun q => by simp at q, fun _ q => by simp at q⟩, same _ (by simp [Solo]), ?_⟩
    constructor <;> simp [dPut, dGot, a8]

/-- A step of one who steals. -/
theorem one_steal (h : DBase c m t L N) (hN : N ≤ 10000) (ho : OOk c m t L o) (hf : ThOk t L o f) (h0 : f.op = 2) (hr : f.res = 0) :
    ∃ t' L', DBase c (sStep c m f).1 t' L' (N + 1) ∧ OOk c (sStep c m f).1 t' L' o ∧ ThOk t' L' o (sStep c m f).2 ∧ (∀ g, ThOk t L o g → ThOk t' L' o g) ∧ TEv f (sStep c m f).2 t L t' L' := by
  obtain ⟨b1, b2, b3, b4⟩ := h.bound (by omega)
  obtain ⟨a0, a1, a2, a3, a4, a5⟩ := hf.go h0 hr
  obtain ⟨op, pc, w, v, x, y, res⟩ := f
  simp only at h0 hr a0 a1 a2 a3 a4 a5
  subst h0 hr a0
  have hpc : pc = 0 ∨ pc = 1 ∨ pc = 2 ∨ pc = 3 := by omega
  rcases hpc with e | e | e | e <;> subst e
  · rw [steal_1 h.lay, h.top]
    refine ⟨t, L, h.same (by omega), ho, ⟨.inr rfl, fun _ _ => ?_⟩, fun g hg => hg, ?_⟩
    · dsimp only
      exact ⟨rfl, by omega, by omega, fun _ => ⟨b1, Int.le_refl _⟩, fun q => by omega, fun q => by omega⟩
    · constructor <;> simp [dGot]
  · obtain ⟨c1, c2⟩ := a3 (by omega)
    by_cases q : far (mLoad m (lBottom c 0)) y ≤ 0
    · rw [steal_2e h.lay q]
      refine ⟨t, L, h.same (by omega), ho, ⟨.inr rfl, fun _ q => by simp at q⟩, fun g hg => hg, ?_⟩
      constructor <;> simp [dGot]
    · rw [steal_2 h.lay q]
      refine ⟨t, L, h.same (by omega), ho, ⟨.inr rfl, fun _ _ => ?_⟩, fun g hg => hg, ?_⟩
      · dsimp only
        refine ⟨rfl, by omega, by omega, fun _ => ⟨c1, c2⟩, fun _ qt => ?_, fun q => by omega⟩
        -- what the bottom is
        have hB : ∃ k : Int, mLoad m (lBottom c 0) = wrapU k ∧ -1 ≤ k ∧ k ≤ t + L.length ∧ (Solo o → k = t + L.length - 1) := by
          rcases ho.op with e | e | e
          · exact ⟨t + L.length, by rw [ho.idle (.inl e), wrapU_id (by omega) (by omega)], by omega, Int.le_refl _, fun k => by have := k.1; rw [e] at this; simp [noneF] at this⟩
          · by_cases r0 : o.res = 0
            · exact ⟨t + L.length, by rw [(ho.push e r0).2.2.2.1, wrapU_id (by omega) (by omega)], by omega, Int.le_refl _, fun k => by have := k.1; omega⟩
            · exact ⟨t + L.length, by rw [ho.idle (.inr r0), wrapU_id (by omega) (by omega)], by omega, Int.le_refl _, fun k => by have := k.1; omega⟩
          · by_cases r0 : o.res = 0
            · obtain ⟨d0, d1, d2, d3, d4, d5, _⟩ := ho.pop e r0
              by_cases r1 : o.pc ≤ 1
              · exact ⟨t + L.length, by rw [d3 r1, wrapU_id (by omega) (by omega)], by omega, Int.le_refl _, fun k => by have := k.2.2.1; omega⟩
              · exact ⟨t + L.length - 1, by rw [d5 (by omega), d4 (by omega)], by omega, by omega, fun _ => rfl⟩
            · exact ⟨t + L.length, by rw [ho.idle (.inr r0), wrapU_id (by omega) (by omega)], by omega, Int.le_refl _, fun k => absurd k.2.1 r0⟩
        obtain ⟨k, k1, k2, k3, k4⟩ := hB
        rw [k1, far_d k2 (by omega) c1 (by omega)] at q
        refine ⟨fun e => ?_, fun s => ?_⟩
        · have : L.length = 0 := by rw [e]; rfl
          omega
        · have := k4 s; omega
      · constructor <;> simp [dGot]
  · obtain ⟨c1, c2⟩ := a3 (by omega)
    rw [steal_3 h.lay]
    refine ⟨t, L, h.same (by omega), ho, ⟨.inr rfl, fun _ _ => ?_⟩, fun g hg => hg, ?_⟩
    · dsimp only
      refine ⟨rfl, by omega, by omega, fun _ => ⟨c1, c2⟩, fun _ => a4 (by omega), fun _ qt => ?_⟩
      have := h.slots 0 (List.length_pos_iff.2 (a4 (by omega) qt).1)
      rw [show t + ((0 : Nat) : Int) = y by omega] at this
      exact this
    · constructor <;> simp [dGot]
  · obtain ⟨c1, c2⟩ := a3 (by omega)
    by_cases q : y = t
    · have hc : mCasB m (lTop c 0) y = true := by rw [q, ← h.top]; exact casB_top h.lay
      obtain ⟨d1, d2⟩ := a4 (by omega) q
      have d3 := a5 rfl q
      rw [steal_4 h.lay hc, wrapU_id (by omega) (by omega)]
      obtain ⟨a, r, rfl⟩ : ∃ a r, L = a :: r := by
        cases L with
        | nil => exact absurd rfl d1
        | cons a r => exact ⟨a, r, rfl⟩
      have hva : v = a := by simpa using d3
      simp only [List.length_cons] at b2 d2
      have hB : mLoad (mStore m (lTop c 0) (y + 1)) (lBottom c 0) = mLoad m (lBottom c 0) := load_other h.lay.tb _
      have hS : ∀ x, mLoad (mStore m (lTop c 0) (y + 1)) (lSlot c 0 x) = mLoad m (lSlot c 0 x) := fun x => load_other (h.lay.ts x) _
      refine ⟨t + 1, r, ⟨h.lay.store _ _, by rw [load_store h.lay.in_top, q], by omega, by have := h.room; simp at this; omega, by have := h.hi; simp at this; omega, fun k hk => ?_⟩, ⟨ho.op, fun e => ?_, fun e1 e2 => ?_, fun e1 e2 => ?_⟩, ⟨.inr rfl, fun _ q => by simp at q⟩, fun g hg => hg.mono (by omega) (fun q => by omega), ?_⟩
      · have := h.slots (k + 1) (by simp; omega)
        rw [hS, show t + 1 + (k : Int) = t + ((k + 1 : Nat) : Int) by omega, this]; rfl
      · rw [hB, ho.idle e]; simp; omega
      · obtain ⟨p0, p1, p2, p3, p4, p5, p6⟩ := ho.push e1 e2
        simp only [List.length_cons] at p3 p4 p5
        exact ⟨p0, p1, p2, by rw [hB, p3]; omega, fun e => by have := p4 e; omega, fun e => by have := p5 e; omega, fun e => by rw [hS]; exact p6 e⟩
      · obtain ⟨p0, p1, p2, p3, p4, p5, p6, p7, p8⟩ := ho.pop e1 e2
        simp only [List.length_cons] at p3 p4 p6 p7
        refine ⟨p0, p1, p2, fun e => by rw [hB, p3 e]; omega, fun e => by rw [p4 e]; congr 1; omega, fun e => by rw [hB]; exact p5 e, fun e => ?_, fun e => ?_, fun e => by have := p8 e; cases this⟩
        · obtain ⟨s1, s2, s3, s4⟩ := p6 e
          refine ⟨s1, by omega, by omega, fun e' => ?_⟩
          have := d2 ⟨e1, e2, e, e'⟩
          intro hr; rw [hr] at this; simp at this
        · obtain ⟨s1, s2, s3, s4⟩ := p7 e
          exact ⟨by omega, s2, by omega, fun k => by omega⟩
      · refine ⟨rfl, fun q => by simp at q, .inr ⟨a, rfl, rfl, rfl, rfl, hva⟩, fun _ => .inr (.inl ⟨rfl, by rw [hva]⟩), fun _ _ => .inl (by simp)⟩
    · have hc : mCasB m (lTop c 0) y = false := by simp [mCasB, h.top]; intro _; omega
      rw [steal_4a h.lay hc]
      refine ⟨t, L, h.same (by omega), ho, ⟨.inr rfl, fun _ q => by simp at q⟩, fun g hg => hg, ?_⟩
      constructor <;> simp [dGot]
end
end Go.Vai
/- Whose the calls at a deque are. -/
namespace Go.Vai
open Go.RowKit
set_option linter.unusedVariables false
set_option linter.unusedSimpArgs false

theorem res_dqStep {c : Cf} {m : List Int} {f : Fr} (h : f.res = 0) : (dqStep c m f).2.res = 0 ∨ (dqStep c m f).2.res = 1 ∨ ((dqStep c m f).2.res = 2 ∧ f.op = 0) ∨ (dqStep c m f).2.res = 3 ∨ ((dqStep c m f).2.res = 4 ∧ f.op = 2) := by
  unfold dqStep
  split
  · unfold pStep; repeat' split
    all_goals simp_all [fEnd]
  · split
    · unfold oStep; repeat' split
      all_goals simp_all [fEnd]
    · split
      · unfold sStep; repeat' split
        all_goals simp_all [fEnd]
      · exact .inl h

/-- Whose what is at hand may be. -/
def HandOk (j : Nat) (f : Fr) : Prop := f.res = 0 ∧ (f = noneF ∨ (j = 0 ∧ (f.op = 0 ∨ f.op = 1)) ∨ (0 < j ∧ f.op = 2))
structure OverOk (n : Int) (f : Fr) : Prop where
  res : f.res ≠ 0
  who : (f.who = 0 ∧ (f.op = 0 ∨ f.op = 1)) ∨ (1 ≤ f.who ∧ f.who ≤ n ∧ f.op = 2)
  abort : f.res = 4 → f.op = 2
  full : f.res = 2 → f.op = 0
structure WhoD (n : Int) (s : Dl) : Prop where
  hand : ∀ j, HandOk j (s.hand.getD j noneF)
  over : ∀ f ∈ s.over, OverOk n f

theorem none_hand (j : Nat) : HandOk j noneF := ⟨rfl, .inl rfl⟩
theorem nextO_res : ∀ l : List Fr, (nextO l).1.res = 0
  | [] => rfl
  | x :: r => by
    unfold nextO; split
    · rfl
    · exact nextO_res r
theorem dHand_hand {n : Int} {s : Dl} (h : WhoD n s) (i : Nat) : HandOk i (dHand s i).1 := by
  unfold dHand
  split
  · unfold nextD
    split
    · exact ⟨rfl, .inr (.inr ⟨‹_›, rfl⟩)⟩
    · refine ⟨nextO_res _, ?_⟩
      rcases nextO_op s.own with e | e
      · rw [e]; exact .inl rfl
      · exact .inr (.inl ⟨by omega, e⟩)
  · exact h.hand i

theorem dTurn_whoD {c : Cf} {n : Int} {s : Dl} (h : WhoD n s) (i : Int) : WhoD n (dTurn dqStep c n s i) := by
  by_cases hi : 0 ≤ i ∧ i ≤ n
  · rw [dTurn, if_pos hi, dRound]
    obtain ⟨h1, h2⟩ := dHand_hand h i.toNat
    generalize dHand s i.toNat = p at h1 h2
    have hr := res_dqStep (c := c) (m := s.m) h1
    have hop := op_dqStep c s.m p.1
    have hno : p.1 = noneF → (dqStep c s.m p.1).2 = noneF := fun e => by rw [e]; rfl
    generalize dqStep c s.m p.1 = r at hr hop hno
    split
    · rename_i e
      refine ⟨fun j => ?_, h.over⟩
      dsimp only
      rw [getD_set]
      split
      · rename_i q
        rw [← q.1]
        refine ⟨e, ?_⟩
        rcases h2 with h2 | h2 | h2
        · exact .inl (hno h2)
        · exact .inr (.inl ⟨h2.1, by rw [hop]; exact h2.2⟩)
        · exact .inr (.inr ⟨h2.1, by rw [hop]; exact h2.2⟩)
      · exact h.hand j
    · rename_i e
      refine ⟨fun j => ?_, fun f hf => ?_⟩
      · dsimp only
        rw [getD_set]
        split
        · exact none_hand j
        · exact h.hand j
      · rcases List.mem_append.1 hf with q | q
        · exact h.over f q
        · rw [List.mem_singleton] at q
          subst q
          have hne : p.1 ≠ noneF := fun k => e (by rw [hno k]; rfl)
          have h3 := h2.resolve_left hne
          refine ⟨e, ?_, fun q => ?_, fun q => ?_⟩
          · dsimp only [withWho]
            rw [hop]
            rcases h3 with h3 | h3
            · exact .inl ⟨by omega, h3.2⟩
            · exact .inr ⟨by omega, by omega, h3.2⟩
          · dsimp only [withWho] at q ⊢; omega
          · dsimp only [withWho] at q ⊢; omega
  · rw [dTurn, if_neg hi]; exact h

/-- What DequeWho asks. -/
theorem dplay_who (d n : Int) (own : List Fr) (who : List Int) :
    dPlay d n own who = ([], [], []) ∨ ∃ sm so sh, dPlay d n own who = (sm, so, sh) ∧ (sh.length : Int) = n + 1 ∧ 0 ≤ n ∧ so.length ≤ who.length ∧ (∀ j, HandOk j (sh.getD j noneF)) ∧ ∀ f ∈ so, OverOk n f := by
  by_cases hm : mayC (dqC d) = true ∧ 0 ≤ n ∧ n ≤ 8
  · right
    have h := dFold_inv (st := dqStep) (c := dqC d) (n := n) (WhoD n) (s := dStart (dqC d) n own) ⟨fun j => by
      simp only [dStart]
      rw [List.getD_eq_getElem?_getD, List.getElem?_replicate]
      split <;> exact none_hand j, fun f hf => by simp [dStart] at hf⟩ (fun s i hs => dTurn_whoD hs i) who
    obtain ⟨h1, h2, h3, h4⟩ := len_dFold len_dqStep (dqC d) n who (dStart (dqC d) n own)
    refine ⟨_, _, _, if_pos hm, ?_, hm.2.1, ?_, h.hand, h.over⟩
    · unfold dAll; rw [h2]; simp [dStart]; omega
    · unfold dAll; simp only [dStart, List.length_nil] at h4 ⊢; omega
  · left; exact if_neg hm
end Go.Vai
/- What always holds in a play at a deque of calls that bits tell. -/
namespace Go.Vai
open Go.RowKit
set_option linter.unusedVariables false
set_option linter.unusedSimpArgs false

def callDq (k : Nat) (b : Bool) : Fr := if b then ⟨1, 0, 0, 0, 0, 0, 0⟩ else ⟨0, 0, 0, ((k + 1 : Nat) : Int), 0, 0, 0⟩
def callsDq (l : List Bool) : List Fr := l.mapIdx fun k b => callDq k b
theorem len_callsDq (l : List Bool) : (callsDq l).length = l.length := by simp [callsDq]
theorem drop_callsDq {g : Nat} {L : List Bool} (h : g < L.length) : (callsDq L).drop g = callDq g (L.getD g false) :: (callsDq L).drop (g + 1) := by
  rw [List.drop_eq_getElem_cons (by rw [len_callsDq]; exact h)]
  simp [callsDq, List.getD_eq_getElem?_getD, h]

/-- A turn in three. -/
def dlBegin (s : Dl) (i : Nat) : Dl := ⟨s.m, (dHand s i).2, s.hand.set i (dHand s i).1, s.over⟩
def dlStep (c : Cf) (s : Dl) (i : Nat) : Dl := ⟨(dqStep c s.m (s.hand.getD i noneF)).1, s.own, s.hand.set i (dqStep c s.m (s.hand.getD i noneF)).2, s.over⟩
def dlMove (s : Dl) (i : Nat) : Dl := if (s.hand.getD i noneF).res = 0 then s else ⟨s.m, s.own, s.hand.set i noneF, s.over ++ [withWho (s.hand.getD i noneF) i]⟩
theorem gsd_self {α : Type} {l : List α} {i : Nat} (h : i < l.length) (a d : α) : (l.set i a).getD i d = a := by rw [getD_set, if_pos ⟨rfl, h⟩]
theorem gsd_ne {α : Type} {l : List α} {i j : Nat} (h : i ≠ j) (a d : α) : (l.set i a).getD j d = l.getD j d := by rw [getD_set, if_neg (fun e => h e.1)]
theorem gsd_get {α : Type} {l : List α} {k : Nat} {d : α} (h : k < l.length) : l.set k (l.getD k d) = l := by simp [List.getD_eq_getElem?_getD, h]
theorem gd_lt {α : Type} {l : List α} {k : Nat} (h : k < l.length) (a b : α) : l.getD k a = l.getD k b := by simp [List.getD_eq_getElem?_getD, h]
theorem dTurn_split {c : Cf} {n : Int} {s : Dl} {i : Int} (h0 : 0 ≤ i) (h1 : i ≤ n) (hn : s.hand.length = (n + 1).toNat) : dTurn dqStep c n s i = dlMove (dlStep c (dlBegin s i.toNat) i.toNat) i.toNat := by
  have hi : i.toNat < s.hand.length := by omega
  rw [dTurn, if_pos ⟨h0, h1⟩, dRound]
  unfold dlMove dlStep dlBegin
  dsimp only
  rw [gsd_self hi, List.set_set, gsd_self hi, List.set_set, show ((i.toNat : Nat) : Int) = i by omega]

theorem hperm_at (over hand : List Fr) {i : Nat} (h : i < hand.length) : (over ++ hand).Perm (hand.getD i noneF :: (over ++ hand.eraseIdx i)) := by
  have h2 : hand.getD i noneF = hand[i] := by simp [List.getD_eq_getElem?_getD, h]
  have h3 : hand = hand.take i ++ hand[i] :: hand.drop (i + 1) := by rw [← List.drop_eq_getElem_cons h, List.take_append_drop]
  have h1 : hand.Perm (hand[i] :: hand.eraseIdx i) := by
    rw [List.eraseIdx_eq_take_drop_succ]
    exact (List.Perm.of_eq h3).trans List.perm_middle
  rw [h2]
  exact (List.Perm.append_left over h1).trans List.perm_middle
theorem hperm_set (over hand : List Fr) {i : Nat} (h : i < hand.length) (f : Fr) : (over ++ hand.set i f).Perm (f :: (over ++ hand.eraseIdx i)) := by
  have h1 : (hand.set i f).Perm (f :: hand.eraseIdx i) := by
    rw [List.eraseIdx_eq_take_drop_succ, List.set_eq_take_append_cons_drop, if_pos h]
    exact List.perm_middle
  exact (List.Perm.append_left over h1).trans List.perm_middle

/-- What was put in, and what was taken. -/
def putsD (s : Dl) : List Int := (s.over ++ s.hand).filterMap dPut
def gotsD (s : Dl) : List Int := (s.over ++ s.hand).filterMap dGot
theorem puts_at (over hand : List Fr) {i : Nat} (h : i < hand.length) (g : Fr → Option Int) : ((over ++ hand).filterMap g).Perm ((g (hand.getD i noneF)).toList ++ (over ++ hand.eraseIdx i).filterMap g) := by
  have := (hperm_at over hand h).filterMap g
  rw [List.filterMap_cons] at this
  cases e : g (hand.getD i noneF) with
  | none => rw [e] at this; exact this
  | some v => rw [e] at this; exact this
theorem puts_set (over hand : List Fr) {i : Nat} (h : i < hand.length) (f : Fr) (g : Fr → Option Int) : ((over ++ hand.set i f).filterMap g).Perm ((g f).toList ++ (over ++ hand.eraseIdx i).filterMap g) := by
  have := (hperm_set over hand h f).filterMap g
  rw [List.filterMap_cons] at this
  cases e : g f with
  | none => rw [e] at this; exact this
  | some v => rw [e] at this; exact this
theorem puts_same (over hand : List Fr) {i : Nat} (h : i < hand.length) (f : Fr) (g : Fr → Option Int) (e : g f = g (hand.getD i noneF)) : ((over ++ hand.set i f).filterMap g).Perm ((over ++ hand).filterMap g) := by
  have := puts_set over hand h f g
  rw [e] at this
  exact this.trans (puts_at over hand h g).symm

structure DI (c : Cf) (n : Int) (pops : List Bool) (s : Dl) (t : Int) (L : List Int) (N : Int) (g : Nat) : Prop where
  base : DBase c s.m t L N
  own : OOk c s.m t L (s.hand.getD 0 noneF)
  th : ∀ j, 0 < j → ThOk t L (s.hand.getD 0 noneF) (s.hand.getD j noneF)
  hl : s.hand.length = (n + 1).toNat
  hn : 0 ≤ n ∧ n ≤ 8
  le : g ≤ pops.length
  left : s.own = (callsDq pops).drop g
  cur : s.hand.getD 0 noneF = noneF ∨ (0 < g ∧ ((s.hand.getD 0 noneF).op = 0 ∧ pops.getD (g - 1) true = false ∧ (s.hand.getD 0 noneF).val = (g : Int) ∨ (s.hand.getD 0 noneF).op = 1 ∧ pops.getD (g - 1) false = true))
  perm : (putsD s).Perm (gotsD s ++ L)
  puts : ∀ v ∈ putsD s, 1 ≤ v ∧ v ≤ g ∧ pops.getD (v - 1).toNat true = false ∧ ((s.hand.getD 0 noneF).op = 0 → (s.hand.getD 0 noneF).res ≠ 1 → v < g)
  nodup : (putsD s).Nodup
  incr : L.Pairwise (· < ·)

section
variable {c : Cf} {n : Int} {pops : List Bool} {s : Dl} {t : Int} {L : List Int} {N : Int} {g : Nat}

theorem none_th (t : Int) (L : List Int) (o : Fr) : ThOk t L o noneF := ⟨.inl rfl, fun q => by simp [noneF] at q⟩

theorem DI.begin (h : DI c n pops s t L N g) {i : Nat} (hi : i < s.hand.length) : ∃ g', DI c n pops (dlBegin s i) t L N g' := by
  have h0 : 0 < s.hand.length := by omega
  by_cases ho : (s.hand.getD i noneF).op = -1
  · by_cases q : 0 < i
    · have hn : s.hand.getD i noneF = noneF := (h.th i q).op.resolve_right (by omega)
      have e1 : dHand s i = (⟨2, 0, 0, 0, 0, 0, 0⟩, s.own) := by rw [dHand, if_pos ho, nextD, if_pos q]
      have e0 : (s.hand.set i ⟨2, 0, 0, 0, 0, 0, 0⟩).getD 0 noneF = s.hand.getD 0 noneF := gsd_ne (by omega) _ _
      have p1 := puts_same s.over s.hand hi ⟨2, 0, 0, 0, 0, 0, 0⟩ dPut (by rw [hn]; rfl)
      have p2 := puts_same s.over s.hand hi ⟨2, 0, 0, 0, 0, 0, 0⟩ dGot (by rw [hn]; rfl)
      have hb : dlBegin s i = ⟨s.m, s.own, s.hand.set i ⟨2, 0, 0, 0, 0, 0, 0⟩, s.over⟩ := by rw [dlBegin, e1]
      rw [hb]
      refine ⟨g, ⟨h.base, by dsimp only; rw [e0]; exact h.own, fun j hj => ?_, by simp [h.hl], h.hn, h.le, h.left, by dsimp only; rw [e0]; exact h.cur, ?_, fun v hv => ?_, ?_, h.incr⟩⟩
      · dsimp only
        rw [e0, getD_set]
        split
        · exact ⟨.inr rfl, fun _ _ => ⟨rfl, by simp, by simp, fun q => by simp at q, fun q => by simp at q, fun q => by simp at q⟩⟩
        · exact h.th j hj
      · exact p1.trans (h.perm.trans (p2.symm.append_right L))
      · dsimp only
        rw [e0]; exact h.puts v (p1.mem_iff.1 hv)
      · exact (p1.nodup_iff).2 h.nodup
    · have hi0 : i = 0 := by omega
      subst hi0
      have hn : s.hand.getD 0 noneF = noneF := by
        rcases h.own.op with e | e | e
        · exact e
        · omega
        · omega
      by_cases hg : g < pops.length
      · have e1 : dHand s 0 = (⟨(callDq g (pops.getD g false)).op, 0, 0, (callDq g (pops.getD g false)).val, 0, 0, 0⟩, (callsDq pops).drop (g + 1)) := by
          rw [dHand, if_pos ho, nextD, if_neg (by omega), h.left, drop_callsDq hg, nextO, if_pos (by unfold callDq; split <;> simp)]
        obtain ⟨op, v, e2, hop⟩ : ∃ op v, (⟨(callDq g (pops.getD g false)).op, 0, 0, (callDq g (pops.getD g false)).val, 0, 0, 0⟩ : Fr) = ⟨op, 0, 0, v, 0, 0, 0⟩ ∧ (op = 0 ∧ pops.getD g false = false ∧ v = ((g + 1 : Nat) : Int) ∨ op = 1 ∧ pops.getD g false = true) := by
          refine ⟨_, _, rfl, ?_⟩
          cases pops.getD g false <;> simp [callDq]
        rw [e2] at e1
        have p1 := puts_same s.over s.hand hi ⟨op, 0, 0, v, 0, 0, 0⟩ dPut (by rw [hn]; simp [dPut, noneF])
        have p2 := puts_same s.over s.hand hi ⟨op, 0, 0, v, 0, 0, 0⟩ dGot (by rw [hn]; simp [dGot, noneF])
        have hb : dlBegin s 0 = ⟨s.m, (callsDq pops).drop (g + 1), s.hand.set 0 ⟨op, 0, 0, v, 0, 0, 0⟩, s.over⟩ := by rw [dlBegin, e1]
        have e0 : (s.hand.set 0 ⟨op, 0, 0, v, 0, 0, 0⟩).getD 0 noneF = ⟨op, 0, 0, v, 0, 0, 0⟩ := gsd_self h0 _ _
        have hB := h.own.idle (.inl hn)
        rw [hb]
        refine ⟨g + 1, ⟨h.base, by dsimp only; rw [e0]; exact ⟨.inr (by dsimp only; omega), fun q => (by
          exfalso
          rcases q with q | q
          · have := congrArg Fr.op q; dsimp only [noneF] at this; omega
          · exact q rfl), fun _ _ => ⟨rfl, by simp, by simp, hB, fun q => by simp at q, fun q => by simp at q, fun q => by simp at q⟩, fun _ _ => ⟨rfl, by simp, by simp, fun _ => hB, fun q => by simp at q, fun q => by simp at q, fun q => by simp at q, fun q => by simp at q, fun q => by simp at q⟩⟩, fun j hj => ?_, by simp [h.hl], h.hn, by omega, rfl, ?_, ?_, fun w hw => ?_, ?_, h.incr⟩⟩
        · dsimp only
          rw [e0, gsd_ne (by omega)]
          refine (h.th j hj).mono (Int.le_refl _) (fun _ k _ => ⟨k, rfl, fun q => by have := q.2.2.1; simp at this⟩)
        · dsimp only
          rw [e0]
          refine .inr ⟨by omega, ?_⟩
          rw [Nat.add_sub_cancel, gd_lt hg true false]
          rcases hop with ⟨q1, q2, q3⟩ | ⟨q1, q2⟩
          · exact .inl ⟨q1, q2, q3⟩
          · exact .inr ⟨q1, q2⟩
        · exact p1.trans (h.perm.trans (p2.symm.append_right L))
        · obtain ⟨a1, a2, a3, a4⟩ := h.puts w (p1.mem_iff.1 hw)
          exact ⟨a1, by omega, a3, fun _ _ => by omega⟩
        · exact (p1.nodup_iff).2 h.nodup
      · have e3 : s.own = [] := by rw [h.left, List.drop_of_length_le (by rw [len_callsDq]; omega)]
        have e1 : dHand s 0 = (noneF, []) := by rw [dHand, if_pos ho, nextD, if_neg (by omega), e3]; rfl
        have hb : dlBegin s 0 = s := by
          unfold dlBegin
          rw [e1]
          dsimp only
          have := gsd_get (d := noneF) h0
          rw [hn] at this
          rw [this, ← e3]
        exact ⟨g, by rw [hb]; exact h⟩
  · have hp : dHand s i = (s.hand.getD i noneF, s.own) := by rw [dHand, if_neg ho]
    have hb : dlBegin s i = s := by
      unfold dlBegin; rw [hp]
      dsimp only
      rw [gsd_get hi]
    exact ⟨g, by rw [hb]; exact h⟩

/-- What a step does to what was put in, and to the list. -/
inductive DEv (f f' : Fr) (i : Nat) (g : Nat) : List Int → List Int → Prop
  | none (L : List Int) : (f'.op = 2 → f'.res = 1 → f.res ≠ 0) → DEv f f' i g L L
  | push (L : List Int) (v : Int) : i = 0 → v = (g : Int) → f.op = 0 → f.res = 0 → DEv f f' i g L (L ++ [v])
  | pop (L : List Int) (v : Int) : i = 0 → DEv f f' i g (L ++ [v]) L
  | steal (L : List Int) (v : Int) : 0 < i → f'.op = 2 → f.res = 0 → f'.res = 1 → f'.val = v → DEv f f' i g (v :: L) L

theorem DI.step (h : DI c n pops s t L N g) (hN : N ≤ 10000) {i : Nat} (hi : i < s.hand.length) :
    ∃ t' L', DI c n pops (dlStep c s i) t' L' (N + 1) g ∧ DEv (s.hand.getD i noneF) ((dlStep c s i).hand.getD i noneF) i g L L' ∧
      (((s.hand.getD i noneF).op = 0 ∨ (s.hand.getD i noneF).op = 1 ∨ (s.hand.getD i noneF).op = 2) → (s.hand.getD i noneF).res = 0 → ((dlStep c s i).hand.getD i noneF).res ≠ 0 ∨ ((s.hand.getD i noneF).pc < ((dlStep c s i).hand.getD i noneF).pc ∧ ((dlStep c s i).hand.getD i noneF).pc ≤ 6)) ∧
      ((s.hand.getD i noneF).op = 1 → (s.hand.getD i noneF).res = 0 → ((dlStep c s i).hand.getD i noneF).res = 3 → L' = []) := by
  have h0 : 0 < s.hand.length := by omega
  have hself : (dlStep c s i).hand.getD i noneF = (dqStep c s.m (s.hand.getD i noneF)).2 := gsd_self hi _ _
  rw [hself]
  by_cases q : i = 0
  · subst q
    generalize hf : s.hand.getD 0 noneF = o at *
    have hown := h.own
    have hcur := h.cur
    have hputs := h.puts
    rw [hf] at hown hcur hputs
    by_cases hr : o.res = 0 ∧ (o.op = 0 ∨ o.op = 1)
    · have key : ∃ t' L', DBase c (dqStep c s.m o).1 t' L' (N + 1) ∧ OOk c (dqStep c s.m o).1 t' L' (dqStep c s.m o).2 ∧ (∀ f, ThOk t L o f → ThOk t' L' (dqStep c s.m o).2 f) ∧ OEv o (dqStep c s.m o).2 t L t' L' := by
        rcases hr.2 with e | e
        · have : dqStep c s.m o = pStep c s.m o := by simp [dqStep, e]
          rw [this]; exact own_push h.base hN hown e hr.1
        · have : dqStep c s.m o = oStep c s.m o := by simp [dqStep, e]
          rw [this]; exact own_pop h.base hN hown e hr.1
      obtain ⟨t', L', k1, k2, k3, k4⟩ := key
      have hst : dlStep c s 0 = ⟨(dqStep c s.m o).1, s.own, s.hand.set 0 (dqStep c s.m o).2, s.over⟩ := by rw [dlStep, hf]
      rw [hst]
      generalize dqStep c s.m o = r at k1 k2 k3 k4
      obtain ⟨m', o'⟩ := r
      dsimp only at k1 k2 k3 k4
      have e0 : (s.hand.set 0 o').getD 0 noneF = o' := gsd_self h0 _ _
      have hne : o ≠ noneF := fun e => by have := hr.2; rw [e] at this; simp [noneF] at this
      obtain ⟨j1, j2⟩ := hcur.resolve_left hne
      have hcur' : o' = noneF ∨ (0 < g ∧ (o'.op = 0 ∧ pops.getD (g - 1) true = false ∧ o'.val = (g : Int) ∨ o'.op = 1 ∧ pops.getD (g - 1) false = true)) := by
        refine .inr ⟨j1, ?_⟩
        rw [k4.op]
        rcases j2 with ⟨x1, x2, x3⟩ | x
        · exact .inl ⟨x1, x2, by rw [k4.val x1]; exact x3⟩
        · exact .inr x
      have pa1 := puts_at s.over s.hand h0 dPut
      have pa2 := puts_at s.over s.hand h0 dGot
      have ps1 := puts_set s.over s.hand h0 o' dPut
      have ps2 := puts_set s.over s.hand h0 o' dGot
      rw [hf] at pa1 pa2
      have hrank := k4.rank (by omega)
      refine ⟨t', L', ?_⟩
      have mk : ∀ (hp : (putsD (⟨m', s.own, s.hand.set 0 o', s.over⟩ : Dl)).Perm (gotsD (⟨m', s.own, s.hand.set 0 o', s.over⟩ : Dl) ++ L')) (hv : ∀ v ∈ putsD (⟨m', s.own, s.hand.set 0 o', s.over⟩ : Dl), 1 ≤ v ∧ v ≤ g ∧ pops.getD (v - 1).toNat true = false ∧ (o'.op = 0 → o'.res ≠ 1 → v < g)) (hd : (putsD (⟨m', s.own, s.hand.set 0 o', s.over⟩ : Dl)).Nodup) (hi : L'.Pairwise (· < ·)), DI c n pops ⟨m', s.own, s.hand.set 0 o', s.over⟩ t' L' (N + 1) g := fun hp hv hd hi =>
        ⟨k1, by dsimp only; rw [e0]; exact k2, fun j hj => by dsimp only; rw [e0, gsd_ne (by omega)]; exact k3 _ (by have := h.th j hj; rw [hf] at this; exact this), by simp [h.hl], h.hn, h.le, h.left, by dsimp only; rw [e0]; exact hcur', hp, by dsimp only; rw [e0]; exact hv, hd, hi⟩
      refine ⟨?_, ?_, fun _ hr2 => hrank hr2, fun x1 x2 x3 => k4.empty x1 x2 x3⟩
      · rcases k4.ev with ⟨x1, x2, x3⟩ | ⟨x1, x2, x3, x4⟩ | ⟨v, x1, x2, x3, x4⟩
        · subst x1
          have q1 : (putsD (⟨m', s.own, s.hand.set 0 o', s.over⟩ : Dl)).Perm (putsD s) := puts_same s.over s.hand h0 o' dPut (by rw [hf]; exact x2)
          have q2 : (gotsD (⟨m', s.own, s.hand.set 0 o', s.over⟩ : Dl)).Perm (gotsD s) := puts_same s.over s.hand h0 o' dGot (by rw [hf]; exact x3)
          refine mk (q1.trans (h.perm.trans (q2.symm.append_right _))) (fun v hv => ?_) (q1.nodup_iff.2 h.nodup) h.incr
          obtain ⟨a1, a2, a3, a4⟩ := hputs v (q1.mem_iff.1 hv)
          exact ⟨a1, a2, a3, fun y1 y2 => a4 (k4.op.symm.trans y1) (by omega)⟩
        · subst x1
          obtain ⟨y1, y2, y3⟩ := j2.resolve_right (by omega)
          have e3 : dPut o = none := by unfold dPut; rw [if_neg (by omega)]
          have e4 : dPut o' = some o.val := by unfold dPut; rw [if_pos ⟨k4.op.trans x2, x4⟩, k4.val x2]
          have e5 : dGot o = none := by unfold dGot; rw [if_neg (by omega)]
          have e6 : dGot o' = none := by unfold dGot; rw [if_neg (by have := k4.op; omega)]
          rw [e3] at pa1; rw [e4] at ps1; rw [e5] at pa2; rw [e6] at ps2
          have q1 : (putsD (⟨m', s.own, s.hand.set 0 o', s.over⟩ : Dl)).Perm (o.val :: putsD s) := ps1.trans ((pa1.symm).cons _)
          have q2 : (gotsD (⟨m', s.own, s.hand.set 0 o', s.over⟩ : Dl)).Perm (gotsD s) := ps2.trans pa2.symm
          have hlt : ∀ v ∈ putsD s, v < o.val := fun v hv => by have := (hputs v hv).2.2.2 x2 (by omega); omega
          refine mk (q1.trans ?_) (fun v hv => ?_) (q1.nodup_iff.2 (List.nodup_cons.2 ⟨fun hm => by have := hlt _ hm; omega, h.nodup⟩)) ?_
          · refine (h.perm.cons _).trans ?_
            refine List.Perm.trans ?_ ((q2.symm).append_right _)
            rw [← List.append_assoc]
            exact (List.perm_append_singleton _ _).symm
          · rcases List.mem_cons.1 (q1.mem_iff.1 hv) with e | e
            · rw [e, y3]
              refine ⟨by omega, by omega, ?_, fun _ y => absurd x4 y⟩
              rw [show ((g : Int) - 1).toNat = g - 1 by omega]; exact y2
            · obtain ⟨a1, a2, a3, a4⟩ := hputs v e
              exact ⟨a1, a2, a3, fun _ y => absurd x4 y⟩
          · refine List.pairwise_append.2 ⟨h.incr, List.pairwise_singleton _ _, fun a ha b hb => ?_⟩
            rw [List.mem_singleton] at hb
            rw [hb]
            exact hlt a (h.perm.mem_iff.2 (List.mem_append_right _ ha))
        · subst x1
          have e3 : dPut o = none := by unfold dPut; rw [if_neg (by omega)]
          have e4 : dPut o' = none := by unfold dPut; rw [if_neg (by have := k4.op; omega)]
          rw [x3] at pa2; rw [x4] at ps2; rw [e3] at pa1; rw [e4] at ps1
          have q1 : (putsD (⟨m', s.own, s.hand.set 0 o', s.over⟩ : Dl)).Perm (putsD s) := ps1.trans pa1.symm
          have q2 : (gotsD (⟨m', s.own, s.hand.set 0 o', s.over⟩ : Dl)).Perm (v :: gotsD s) := ps2.trans ((pa2.symm).cons _)
          refine mk (q1.trans (h.perm.trans ?_)) (fun w hw => ?_) (q1.nodup_iff.2 h.nodup) (List.pairwise_append.1 h.incr).1
          · refine List.Perm.trans ?_ ((q2.symm).append_right L')
            rw [← List.append_assoc]
            exact List.perm_append_singleton _ _
          · obtain ⟨a1, a2, a3, a4⟩ := hputs w (q1.mem_iff.1 hw)
            exact ⟨a1, a2, a3, fun y1 _ => by have := k4.op; omega⟩
      · rcases k4.ev with ⟨x1, x2, x3⟩ | ⟨x1, x2, x3, x4⟩ | ⟨v, x1, x2, x3, x4⟩
        · subst x1; exact .none _ (fun y1 _ => absurd (k4.op.symm.trans y1) (by omega))
        · subst x1
          obtain ⟨y1, y2, y3⟩ := j2.resolve_right (by omega)
          exact .push _ _ rfl y3 x2 x3
        · subst x1; exact .pop _ _ rfl
    · have hst : dqStep c s.m o = (s.m, o) := by
        rcases hown.op with e | e | e
        · rw [e]; rfl
        · have : o.res ≠ 0 := fun k => hr ⟨k, .inl e⟩
          simp [dqStep, e, push_over this]
        · have : o.res ≠ 0 := fun k => hr ⟨k, .inr e⟩
          simp [dqStep, e, pop_over this]
      have hb : dlStep c s 0 = s := by
        rw [dlStep, hf, hst]
        have := gsd_get (d := noneF) h0
        rw [hf] at this
        dsimp only
        rw [this]
      rw [hb, hst]
      exact ⟨t, L, ⟨h.base.same (by omega), h.own, h.th, h.hl, h.hn, h.le, h.left, h.cur, h.perm, h.puts, h.nodup, h.incr⟩, .none _ (fun y1 _ => by rcases hown.op with e | e | e <;> (try rw [e] at y1) <;> first | (simp [noneF] at y1) | omega), fun y1 y2 => by
        exfalso; apply hr; refine ⟨y2, ?_⟩
        rcases hown.op with e | e | e
        · rw [e] at y1; simp [noneF] at y1
        · exact .inl e
        · exact .inr e, fun y1 y2 => absurd ⟨y2, .inr y1⟩ hr⟩
  · have hth := h.th i (by omega)
    generalize hf : s.hand.getD i noneF = f at *
    by_cases hr : f.op = 2 ∧ f.res = 0
    · have hst : dqStep c s.m f = sStep c s.m f := by simp [dqStep, hr.1]
      obtain ⟨t', L', k1, k2, k3, k4, k5⟩ := one_steal h.base hN h.own hth hr.1 hr.2
      rw [← hst] at k1 k2 k3 k5
      have hb : dlStep c s i = ⟨(dqStep c s.m f).1, s.own, s.hand.set i (dqStep c s.m f).2, s.over⟩ := by rw [dlStep, hf]
      rw [hb]
      generalize dqStep c s.m f = r at k1 k2 k3 k5
      obtain ⟨m', f'⟩ := r
      dsimp only at k1 k2 k3 k5
      have e0 : (s.hand.set i f').getD 0 noneF = s.hand.getD 0 noneF := gsd_ne (by omega) _ _
      have pa1 := puts_at s.over s.hand hi dPut
      have pa2 := puts_at s.over s.hand hi dGot
      have ps1 := puts_set s.over s.hand hi f' dPut
      have ps2 := puts_set s.over s.hand hi f' dGot
      rw [hf] at pa1 pa2
      have e3 : dPut f = none := by unfold dPut; rw [if_neg (by omega)]
      have e4 : dPut f' = none := by unfold dPut; rw [if_neg (by have := k5.op; omega)]
      rw [e3] at pa1; rw [e4] at ps1
      have q1 : (putsD (⟨m', s.own, s.hand.set i f', s.over⟩ : Dl)).Perm (putsD s) := ps1.trans pa1.symm
      refine ⟨t', L', ⟨k1, by dsimp only; rw [e0]; exact k2, fun j hj => ?_, by simp [h.hl], h.hn, h.le, h.left, by dsimp only; rw [e0]; exact h.cur, ?_, fun v hv => by dsimp only; rw [e0]; exact h.puts v (q1.mem_iff.1 hv), q1.nodup_iff.2 h.nodup, ?_⟩, ?_, fun _ y2 => k5.rank hr.1 y2, fun y1 => by omega⟩
      · dsimp only
        rw [e0, getD_set]
        split
        · exact k3
        · exact k4 _ (h.th j hj)
      · rcases k5.ev with ⟨x1, x2, x3⟩ | ⟨v, x1, x2, x3, x4, x5⟩
        · subst x1
          have q2 : (gotsD (⟨m', s.own, s.hand.set i f', s.over⟩ : Dl)).Perm (gotsD s) := puts_same s.over s.hand hi f' dGot (by rw [hf]; exact x3)
          exact q1.trans (h.perm.trans (q2.symm.append_right _))
        · subst x1
          have e5 : dGot f = none := by unfold dGot; rw [if_neg (by omega)]
          have e6 : dGot f' = some v := by unfold dGot; rw [if_pos (.inr ⟨k5.op.trans x2, x4⟩), x5]
          rw [e5] at pa2; rw [e6] at ps2
          have q2 : (gotsD (⟨m', s.own, s.hand.set i f', s.over⟩ : Dl)).Perm (v :: gotsD s) := ps2.trans ((pa2.symm).cons _)
          refine q1.trans (h.perm.trans ?_)
          refine List.Perm.trans ?_ ((q2.symm).append_right L')
          exact List.perm_middle
      · rcases k5.ev with ⟨x1, x2, x3⟩ | ⟨v, x1, x2, x3, x4, x5⟩
        · subst x1; exact h.incr
        · subst x1; exact (List.pairwise_cons.1 h.incr).2
      · rcases k5.ev with ⟨x1, x2, x3⟩ | ⟨v, x1, x2, x3, x4, x5⟩
        · subst x1
          refine .none _ (fun y1 y2 y3 => ?_)
          have e5 : dGot f = none := by unfold dGot; rw [if_neg (by omega)]
          have e6 : dGot f' = some f'.val := by unfold dGot; rw [if_pos (.inr ⟨y1, y2⟩)]
          rw [e5, e6] at x3; cases x3
        · subst x1; exact .steal _ _ (by omega) (k5.op.trans x2) x3 x4 x5
    · have hst : dqStep c s.m f = (s.m, f) := by
        rcases hth.op with e | e
        · rw [e]; rfl
        · have : f.res ≠ 0 := fun k => hr ⟨e, k⟩
          simp [dqStep, e, steal_over this]
      have hb : dlStep c s i = s := by
        rw [dlStep, hf, hst]
        have := gsd_get (d := noneF) hi
        rw [hf] at this
        dsimp only
        rw [this]
      rw [hb, hst]
      exact ⟨t, L, ⟨h.base.same (by omega), h.own, h.th, h.hl, h.hn, h.le, h.left, h.cur, h.perm, h.puts, h.nodup, h.incr⟩, .none _ (fun y1 _ y3 => hr ⟨y1, y3⟩), fun y1 y2 => by
        exfalso; apply hr; refine ⟨?_, y2⟩
        rcases hth.op with e | e
        · rw [e] at y1; simp [noneF] at y1
        · exact e, fun y1 => by
        rcases hth.op with e | e
        · rw [e] at y1; simp [noneF] at y1
        · omega⟩

theorem DI.move (h : DI c n pops s t L N g) {i : Nat} (hi : i < s.hand.length) : DI c n pops (dlMove s i) t L N g := by
  have h0 : 0 < s.hand.length := by omega
  unfold dlMove
  split
  · exact h
  · rename_i hr
    have hpm : ∀ g : Fr → Option Int, g noneF = none → (∀ f k, g (withWho f k) = g f) → ((s.over ++ [withWho (s.hand.getD i noneF) i] ++ s.hand.set i noneF).filterMap g).Perm ((s.over ++ s.hand).filterMap g) := by
      intro g g0 gw
      have p1 := puts_set (s.over ++ [withWho (s.hand.getD i noneF) i]) s.hand hi noneF g
      have p2 := puts_at s.over s.hand hi g
      rw [g0] at p1
      refine p1.trans (List.Perm.trans ?_ p2.symm)
      simp only [Option.toList_none, List.nil_append, List.filterMap_append, List.filterMap_cons, List.filterMap_nil, gw]
      cases g (s.hand.getD i noneF) with
      | none => simp
      | some v =>
        simp only [Option.toList_some, List.append_assoc, List.cons_append, List.nil_append]
        exact List.perm_middle
    have p1 := hpm dPut rfl (fun _ _ => rfl)
    have p2 := hpm dGot rfl (fun _ _ => rfl)
    by_cases q : i = 0
    · subst q
      have e0 : (s.hand.set 0 noneF).getD 0 noneF = noneF := gsd_self h0 _ _
      refine ⟨h.base, ?_, fun j hj => ?_, by simp [h.hl], h.hn, h.le, h.left, .inl (by dsimp only; rw [e0]), p1.trans (h.perm.trans (p2.symm.append_right L)), fun v hv => ?_, p1.nodup_iff.2 h.nodup, h.incr⟩
      · dsimp only
        rw [e0]
        exact ⟨.inl rfl, fun _ => h.own.idle (.inr hr), fun q => by simp [noneF] at q, fun q => by simp [noneF] at q⟩
      · dsimp only
        rw [e0, gsd_ne (by omega)]
        exact (h.th j hj).mono (Int.le_refl _) (fun _ k _ => ⟨k, rfl, fun q => by have := q.1; simp [noneF] at this⟩)
      · dsimp only
        rw [e0]
        obtain ⟨a1, a2, a3, _⟩ := h.puts v (p1.mem_iff.1 hv)
        exact ⟨a1, a2, a3, fun q => by simp [noneF] at q⟩
    · have e0 : (s.hand.set i noneF).getD 0 noneF = s.hand.getD 0 noneF := gsd_ne (by omega) _ _
      refine ⟨h.base, by dsimp only; rw [e0]; exact h.own, fun j hj => ?_, by simp [h.hl], h.hn, h.le, h.left, by dsimp only; rw [e0]; exact h.cur, p1.trans (h.perm.trans (p2.symm.append_right L)), fun v hv => ?_, p1.nodup_iff.2 h.nodup, h.incr⟩
      · dsimp only
        rw [e0, getD_set]
        split
        · exact none_th ..
        · exact h.th j hj
      · dsimp only
        rw [e0]; exact h.puts v (p1.mem_iff.1 hv)
end
end Go.Vai
/- The deque and all who are at it: what the laws use; the table. -/
namespace Go.Vai
open Go.RowKit Go.Proofs
set_option linter.unusedSimpArgs false
set_option linter.unusedVariables false
set_option maxHeartbeats 4000000
set_option maxRecDepth 100000

theorem frames10_pure (l : List Fr) (hl : l.length ≤ 1000) : PureC Try.prog 18 [fs l, fs l] (bv true) := by
  refine pure_sub okJB 1 Try.func18 rfl (by show 2 ≤ _; decide) ?_
  simp only [Try.f18, inl, JB_all, bne_self_eq_false, fs, sv, fv, rf1, List.set_set, T29, T30, T41, hfree_fr, hfree_cf, cv', cf_eta, frz_u, shC_dec, dC, T23, T28, T25, hfree_lu, hfree_l0, row0, row1, row2, row3, row4, row5, shI_dec, shN_dec, shB_dec, shM_dec, dI, dN, dB, dM, dU, dU_map, iv, bv, u, ms, ctx_T, ctx_C, ctx_P, T4, T3, T26, Option.bind_some, Option.bind_none, Option.map_some, List.length_map, List.length_set, String.reduceBEq, Int.toNat_natCast, Bool.true_beq, Bool.false_beq, T24, shF_dec, dF, fr_eta, Int.cast_ofNat_Int, Int.reduceSub, Int.reduceAdd, Int.reduceNeg, ev1, ev2, implies_true, undef, stepP, drawB, stepL, lateB, lateB0, rdsT, rdsAny, isRd, afterL, preB, callLB, callLV, lateV, dstV, dynCall, ↓condE_t, ↓condE_f, ↓guardE_tt, ↓guardE_ff, ↓guardE_tf, ↓guardE_ft, frzDeep, deepArgs, deepArg, resB, cv, stepB, stepE, callD, tabD, snapD, snap1, snapC, snapId, snapIds, guardB, guardC, dstAt, aopR, one, pre, binR, intOpR, shiftOpR, unR, argFrm, evo, lkp, hlk, lenOf, asLst, idOf, bndA, srcOk, ofVal, ofCells, setCells, fillA, setElems, fieldsOf, fieldsEq, scalEq, isEq, AV.wr, AV.ok1, TK.agg, frz, frzs, frzA, frzArg, frzArgs, subA, subL, sub1, kp, kh, accOf, List.replicate, Nat.reduceAdd, Nat.reduceSub, Nat.reduceMul, Nat.reduceEqDiff, Nat.reduceLT, Nat.reduceLeDiff, Nat.reduceBEq, reduceIte, reduceCtorEq, eq_self, ne_eq, Int.reduceToNat, Int.reduceLT, Int.reduceLE, Int.reduceGT, Int.reduceGE, Int.reduceBEq, Int.reduceBNe, Int.reduceEq, Int.reduceNe]
  refine WP.loop (ι := Nat) (fun k => l.length - k) (fun k => k ≤ l.length) (n := 26) (fr := fun k => [(5, iv k), (0, fs l), (1, fs l)]) (hp := fun k => []) (N := 0) ?_ 0 (Nat.zero_le _) rfl (Nat.zero_le _) ⟨rfl, rfl, rfl, trivial⟩ trivial
  intro k nx hk hN hid
  refine WP.of okJB 1 (by rfl) ?_
  by_cases hkl : k < l.length
  · have hkl' : (k : Int) < l.length := by omega
    have ww : IntKind.wrap .i64 ((k : Int) + 1) = ((k + 1 : Nat) : Int) := by rw [wrap_i (by omega) (by omega)]; omega
    have hk0 : (0 : Int) ≤ k := by omega
    have hg := getD_f hkl
    simp only [JB_all, hkl', ww, hk0, hg, Int.toNat_natCast, fs, sv, fv, rf1, List.set_set, T29, T30, T41, nb_self, nb_same, nb_l0, nb_r0, nb_lt, nb_gt, nb_lt0, nb_gt0, Nat.add_assoc, hfree_fr, hfree_cf, cv', cf_eta, frz_u, shC_dec, dC, T23, T28, T25, hfree_lu, hfree_l0, row0, row1, row2, row3, row4, row5, shI_dec, shN_dec, shB_dec, shM_dec, dI, dN, dB, dM, dU, dU_map, iv, bv, u, ms, ctx_T, ctx_C, ctx_P, T4, T3, T26, Option.bind_some, Option.bind_none, Option.map_some, List.length_map, List.length_set, String.reduceBEq, Int.toNat_natCast, Bool.true_beq, Bool.false_beq, T24, shF_dec, dF, fr_eta, Int.cast_ofNat_Int, Int.reduceSub, Int.reduceAdd, Int.reduceNeg, ev1, ev2, implies_true, undef, stepP, drawB, stepL, lateB, lateB0, rdsT, rdsAny, isRd, afterL, preB, callLB, callLV, lateV, dstV, dynCall, ↓condE_t, ↓condE_f, ↓guardE_tt, ↓guardE_ff, ↓guardE_tf, ↓guardE_ft, frzDeep, deepArgs, deepArg, resB, cv, stepB, stepE, callD, tabD, snapD, snap1, snapC, snapId, snapIds, guardB, guardC, dstAt, aopR, one, pre, binR, intOpR, shiftOpR, unR, argFrm, evo, lkp, hlk, lenOf, asLst, idOf, bndA, srcOk, ofVal, ofCells, setCells, fillA, setElems, fieldsOf, fieldsEq, scalEq, isEq, AV.wr, AV.ok1, TK.agg, frz, frzs, frzA, frzArg, frzArgs, subA, subL, sub1, kp, kh, accOf, List.replicate, Nat.reduceAdd, Nat.reduceSub, Nat.reduceMul, Nat.reduceEqDiff, Nat.reduceLT, Nat.reduceLeDiff, Nat.reduceBEq, reduceIte, reduceCtorEq, eq_self, ne_eq, Int.reduceToNat, Int.reduceLT, Int.reduceLE, Int.reduceGT, Int.reduceGE, Int.reduceBEq, Int.reduceBNe, Int.reduceEq, Int.reduceNe]
    exact ⟨k + 1, by omega, by omega, rfl⟩
  · have hkl' : ¬ (k : Int) < l.length := by omega
    simp only [JB_all, hkl', fs, sv, fv, rf1, List.set_set, T29, T30, T41, nb_self, nb_same, nb_l0, nb_r0, nb_lt, nb_gt, nb_lt0, nb_gt0, Nat.add_assoc, hfree_fr, hfree_cf, cv', cf_eta, frz_u, shC_dec, dC, T23, T28, T25, hfree_lu, hfree_l0, row0, row1, row2, row3, row4, row5, shI_dec, shN_dec, shB_dec, shM_dec, dI, dN, dB, dM, dU, dU_map, iv, bv, u, ms, ctx_T, ctx_C, ctx_P, T4, T3, T26, Option.bind_some, Option.bind_none, Option.map_some, List.length_map, List.length_set, String.reduceBEq, Int.toNat_natCast, Bool.true_beq, Bool.false_beq, T24, shF_dec, dF, fr_eta, Int.cast_ofNat_Int, Int.reduceSub, Int.reduceAdd, Int.reduceNeg, ev1, ev2, implies_true, undef, stepP, drawB, stepL, lateB, lateB0, rdsT, rdsAny, isRd, afterL, preB, callLB, callLV, lateV, dstV, dynCall, ↓condE_t, ↓condE_f, ↓guardE_tt, ↓guardE_ff, ↓guardE_tf, ↓guardE_ft, frzDeep, deepArgs, deepArg, resB, cv, stepB, stepE, callD, tabD, snapD, snap1, snapC, snapId, snapIds, guardB, guardC, dstAt, aopR, one, pre, binR, intOpR, shiftOpR, unR, argFrm, evo, lkp, hlk, lenOf, asLst, idOf, bndA, srcOk, ofVal, ofCells, setCells, fillA, setElems, fieldsOf, fieldsEq, scalEq, isEq, AV.wr, AV.ok1, TK.agg, frz, frzs, frzA, frzArg, frzArgs, subA, subL, sub1, kp, kh, accOf, List.replicate, Nat.reduceAdd, Nat.reduceSub, Nat.reduceMul, Nat.reduceEqDiff, Nat.reduceLT, Nat.reduceLeDiff, Nat.reduceBEq, reduceIte, reduceCtorEq, eq_self, ne_eq, Int.reduceToNat, Int.reduceLT, Int.reduceLE, Int.reduceGT, Int.reduceGE, Int.reduceBEq, Int.reduceBNe, Int.reduceEq, Int.reduceNe]

theorem take_mapIdx10 {α β : Type} (f : Nat → α → β) {l : List α} {k : Nat} (h : k < l.length) (d : α) : (l.mapIdx f).take (k + 1) = (l.mapIdx f).take k ++ [f k (l.getD k d)] := by
  rw [List.take_succ_eq_append_getElem (by simpa using h)]
  simp [List.getD_eq_getElem?_getD, h]

theorem calls10_pure (pops : List Bool) (hc : pops.length ≤ 1000) : PureC Try.prog 19 [bs pops] (fs (callsDq pops)) := by
  refine pure_sub okJB 1 Try.func19 rfl (by show 1 ≤ _; decide) ?_
  simp only [Try.f19, inl, JB_all, bs, sv, fv, rf1, List.set_set, T29, T30, T41, hfree_fr, hfree_cf, cv', cf_eta, frz_u, shC_dec, dC, T23, T28, T25, hfree_lu, hfree_l0, row0, row1, row2, row3, row4, row5, shI_dec, shN_dec, shB_dec, shM_dec, dI, dN, dB, dM, dU, dU_map, iv, bv, u, ms, ctx_T, ctx_C, ctx_P, T4, T3, T26, Option.bind_some, Option.bind_none, Option.map_some, List.length_map, List.length_set, String.reduceBEq, Int.toNat_natCast, Bool.true_beq, Bool.false_beq, T24, shF_dec, dF, fr_eta, Int.cast_ofNat_Int, Int.reduceSub, Int.reduceAdd, Int.reduceNeg, ev1, ev2, implies_true, undef, stepP, drawB, stepL, lateB, lateB0, rdsT, rdsAny, isRd, afterL, preB, callLB, callLV, lateV, dstV, dynCall, ↓condE_t, ↓condE_f, ↓guardE_tt, ↓guardE_ff, ↓guardE_tf, ↓guardE_ft, frzDeep, deepArgs, deepArg, resB, cv, stepB, stepE, callD, tabD, snapD, snap1, snapC, snapId, snapIds, guardB, guardC, dstAt, aopR, one, pre, binR, intOpR, shiftOpR, unR, argFrm, evo, lkp, hlk, lenOf, asLst, idOf, bndA, srcOk, ofVal, ofCells, setCells, fillA, setElems, fieldsOf, fieldsEq, scalEq, isEq, AV.wr, AV.ok1, TK.agg, frz, frzs, frzA, frzArg, frzArgs, subA, subL, sub1, kp, kh, accOf, List.replicate, Nat.reduceAdd, Nat.reduceSub, Nat.reduceMul, Nat.reduceEqDiff, Nat.reduceLT, Nat.reduceLeDiff, Nat.reduceBEq, reduceIte, reduceCtorEq, eq_self, ne_eq, Int.reduceToNat, Int.reduceLT, Int.reduceLE, Int.reduceGT, Int.reduceGE, Int.reduceBEq, Int.reduceBNe, Int.reduceEq, Int.reduceNe]
  refine WP.virt 3 28 7 rfl (by decide) ?_
  refine WP.loop (ι := Nat × Nat) (fun i => pops.length - i.1) (fun i => i.1 ≤ pops.length) (n := 27)
    (fr := fun i => [(4, iv i.1), (3, .arr i.2 0 i.1), (0, bs pops)])
    (hp := fun i => [(i.2, some ⟨false, 28, 7, ((callsDq pops).take i.1).map fv⟩)]) (N := 4) ?_ (0, 3) (Nat.zero_le _) rfl (Nat.le_refl _) ⟨rfl, rfl, rfl, trivial⟩ ⟨rfl, trivial⟩
  rintro ⟨i, id⟩ nx hi hN hid
  dsimp only at hi hid ⊢
  have hidn : id < nx := hid id ⟨false, 28, 7, ((callsDq pops).take i).map fv⟩ (by simp only [hlk, nb_self])
  have htl : ((callsDq pops).take i).length = i := by rw [List.length_take, len_callsDq]; omega
  have htk : List.take i (((callsDq pops).take i).map fv) = ((callsDq pops).take i).map fv := List.take_of_length_le (by rw [List.length_map, htl]; omega)
  refine WP.of okJB 1 (by rfl) ?_
  by_cases hil : i < pops.length
  · have hil' : (i : Int) < pops.length := by omega
    have hi0 : (0 : Int) ≤ i := by omega
    have hb := getD_b hil
    have wi : IntKind.wrap .i64 ((i : Int) + 1) = ((i + 1 : Nat) : Int) := by rw [wrap_i (by omega) (by omega)]; omega
    have wu : IntKind.wrap .u64 ((i + 1 : Nat) : Int) = ((i + 1 : Nat) : Int) := by rw [IntKind.wrap_u64]; omega
    have hcap : (i + 1) * 56 ≤ 140737488355328 := by omega
    have hck : (callsDq pops).take (i + 1) = (callsDq pops).take i ++ [callDq i (pops.getD i false)] := take_mapIdx10 _ hil false
    generalize pops.getD i false = b at hb hck
    cases b with
    | true =>
      simp only [JB_all, hil', hi0, hb, wi, hcap, htl, htk, hidn, Nat.le_refl, bs, sv, fv, Int.toNat_natCast, rf1, List.set_set, T29, T30, T41, nb_self, nb_same, nb_l0, nb_r0, nb_lt, nb_gt, nb_lt0, nb_gt0, Nat.add_assoc, hfree_fr, hfree_cf, cv', cf_eta, frz_u, shC_dec, dC, T23, T28, T25, hfree_lu, hfree_l0, row0, row1, row2, row3, row4, row5, shI_dec, shN_dec, shB_dec, shM_dec, dI, dN, dB, dM, dU, dU_map, iv, bv, u, ms, ctx_T, ctx_C, ctx_P, T4, T3, T26, Option.bind_some, Option.bind_none, Option.map_some, List.length_map, List.length_set, String.reduceBEq, Int.toNat_natCast, Bool.true_beq, Bool.false_beq, T24, shF_dec, dF, fr_eta, Int.cast_ofNat_Int, Int.reduceSub, Int.reduceAdd, Int.reduceNeg, ev1, ev2, implies_true, undef, stepP, drawB, stepL, lateB, lateB0, rdsT, rdsAny, isRd, afterL, preB, callLB, callLV, lateV, dstV, dynCall, ↓condE_t, ↓condE_f, ↓guardE_tt, ↓guardE_ff, ↓guardE_tf, ↓guardE_ft, frzDeep, deepArgs, deepArg, resB, cv, stepB, stepE, callD, tabD, snapD, snap1, snapC, snapId, snapIds, guardB, guardC, dstAt, aopR, one, pre, binR, intOpR, shiftOpR, unR, argFrm, evo, lkp, hlk, lenOf, asLst, idOf, bndA, srcOk, ofVal, ofCells, setCells, fillA, setElems, fieldsOf, fieldsEq, scalEq, isEq, AV.wr, AV.ok1, TK.agg, frz, frzs, frzA, frzArg, frzArgs, subA, subL, sub1, kp, kh, accOf, List.replicate, Nat.reduceAdd, Nat.reduceSub, Nat.reduceMul, Nat.reduceEqDiff, Nat.reduceLT, Nat.reduceLeDiff, Nat.reduceBEq, reduceIte, reduceCtorEq, eq_self, ne_eq, Int.reduceToNat, Int.reduceLT, Int.reduceLE, Int.reduceGT, Int.reduceGE, Int.reduceBEq, Int.reduceBNe, Int.reduceEq, Int.reduceNe]
      refine ⟨(i + 1, nx + 11), by dsimp only; omega, by dsimp only; omega, ⟨rfl, rfl⟩, ?_⟩
      simp only [nb_self]
      rw [hck]
      rfl
    | false =>
      simp only [JB_all, hil', hi0, hb, wi, wu, hcap, htl, htk, hidn, Nat.le_refl, bs, sv, fv, Int.toNat_natCast, rf1, List.set_set, T29, T30, T41, nb_self, nb_same, nb_l0, nb_r0, nb_lt, nb_gt, nb_lt0, nb_gt0, Nat.add_assoc, hfree_fr, hfree_cf, cv', cf_eta, frz_u, shC_dec, dC, T23, T28, T25, hfree_lu, hfree_l0, row0, row1, row2, row3, row4, row5, shI_dec, shN_dec, shB_dec, shM_dec, dI, dN, dB, dM, dU, dU_map, iv, bv, u, ms, ctx_T, ctx_C, ctx_P, T4, T3, T26, Option.bind_some, Option.bind_none, Option.map_some, List.length_map, List.length_set, String.reduceBEq, Int.toNat_natCast, Bool.true_beq, Bool.false_beq, T24, shF_dec, dF, fr_eta, Int.cast_ofNat_Int, Int.reduceSub, Int.reduceAdd, Int.reduceNeg, ev1, ev2, implies_true, undef, stepP, drawB, stepL, lateB, lateB0, rdsT, rdsAny, isRd, afterL, preB, callLB, callLV, lateV, dstV, dynCall, ↓condE_t, ↓condE_f, ↓guardE_tt, ↓guardE_ff, ↓guardE_tf, ↓guardE_ft, frzDeep, deepArgs, deepArg, resB, cv, stepB, stepE, callD, tabD, snapD, snap1, snapC, snapId, snapIds, guardB, guardC, dstAt, aopR, one, pre, binR, intOpR, shiftOpR, unR, argFrm, evo, lkp, hlk, lenOf, asLst, idOf, bndA, srcOk, ofVal, ofCells, setCells, fillA, setElems, fieldsOf, fieldsEq, scalEq, isEq, AV.wr, AV.ok1, TK.agg, frz, frzs, frzA, frzArg, frzArgs, subA, subL, sub1, kp, kh, accOf, List.replicate, Nat.reduceAdd, Nat.reduceSub, Nat.reduceMul, Nat.reduceEqDiff, Nat.reduceLT, Nat.reduceLeDiff, Nat.reduceBEq, reduceIte, reduceCtorEq, eq_self, ne_eq, Int.reduceToNat, Int.reduceLT, Int.reduceLE, Int.reduceGT, Int.reduceGE, Int.reduceBEq, Int.reduceBNe, Int.reduceEq, Int.reduceNe]
      refine ⟨(i + 1, nx + 14), by dsimp only; omega, by dsimp only; omega, ⟨rfl, rfl⟩, ?_⟩
      simp only [nb_self]
      rw [hck]
      rfl
  · have hil' : ¬ (i : Int) < pops.length := by omega
    have hie : i = pops.length := by omega
    have hle : (callsDq pops).take i = callsDq pops := List.take_of_length_le (by rw [len_callsDq]; omega)
    have hfl : (callsDq pops).length ≤ 1000 := by rw [len_callsDq]; omega
    simp only [JB_all, hil', htl, htk, hidn, Nat.le_refl, bs, sv, fv, Int.toNat_natCast, rf1, List.set_set, T29, T30, T41, nb_self, nb_same, nb_l0, nb_r0, nb_lt, nb_gt, nb_lt0, nb_gt0, Nat.add_assoc, hfree_fr, hfree_cf, cv', cf_eta, frz_u, shC_dec, dC, T23, T28, T25, hfree_lu, hfree_l0, row0, row1, row2, row3, row4, row5, shI_dec, shN_dec, shB_dec, shM_dec, dI, dN, dB, dM, dU, dU_map, iv, bv, u, ms, ctx_T, ctx_C, ctx_P, T4, T3, T26, Option.bind_some, Option.bind_none, Option.map_some, List.length_map, List.length_set, String.reduceBEq, Int.toNat_natCast, Bool.true_beq, Bool.false_beq, T24, shF_dec, dF, fr_eta, Int.cast_ofNat_Int, Int.reduceSub, Int.reduceAdd, Int.reduceNeg, ev1, ev2, implies_true, undef, stepP, drawB, stepL, lateB, lateB0, rdsT, rdsAny, isRd, afterL, preB, callLB, callLV, lateV, dstV, dynCall, ↓condE_t, ↓condE_f, ↓guardE_tt, ↓guardE_ff, ↓guardE_tf, ↓guardE_ft, frzDeep, deepArgs, deepArg, resB, cv, stepB, stepE, callD, tabD, snapD, snap1, snapC, snapId, snapIds, guardB, guardC, dstAt, aopR, one, pre, binR, intOpR, shiftOpR, unR, argFrm, evo, lkp, hlk, lenOf, asLst, idOf, bndA, srcOk, ofVal, ofCells, setCells, fillA, setElems, fieldsOf, fieldsEq, scalEq, isEq, AV.wr, AV.ok1, TK.agg, frz, frzs, frzA, frzArg, frzArgs, subA, subL, sub1, kp, kh, accOf, List.replicate, Nat.reduceAdd, Nat.reduceSub, Nat.reduceMul, Nat.reduceEqDiff, Nat.reduceLT, Nat.reduceLeDiff, Nat.reduceBEq, reduceIte, reduceCtorEq, eq_self, ne_eq, Int.reduceToNat, Int.reduceLT, Int.reduceLE, Int.reduceGT, Int.reduceGE, Int.reduceBEq, Int.reduceBNe, Int.reduceEq, Int.reduceNe]
    rw [hle]
    exact ⟨of_eq_true (hf_f _), rfl⟩

/-- How often a value was taken. -/
def takes (v : Int) (f : Fr) : Bool := f.res == 1 && f.op != 0 && f.val == v
def manyN (v : Int) : List Fr → Nat → Nat
  | _, 0 => 0
  | l, k + 1 => if takes v (l.getD k fr0) then manyN v l k + 1 else manyN v l k
theorem manyN_le (v : Int) (l : List Fr) : ∀ k, manyN v l k ≤ k
  | 0 => Nat.le_refl _
  | k + 1 => by have := manyN_le v l k; unfold manyN; split <;> omega
theorem manyN_count (v : Int) (l : List Fr) : ∀ k, k ≤ l.length → manyN v l k = (l.take k).countP (takes v)
  | 0, _ => by simp [manyN]
  | k + 1, h => by
    rw [List.take_succ_eq_append_getElem (by omega), List.countP_append, ← manyN_count v l k (by omega)]
    have : l.getD k fr0 = l[k] := by simp [List.getD_eq_getElem?_getD, show k < l.length by omega]
    show (if takes v (l.getD k fr0) then manyN v l k + 1 else manyN v l k) = _
    rw [this]
    cases h : takes v l[k] <;> simp [h]
def manyL (l : List Fr) (v : Int) : Nat := l.countP (takes v)

theorem many10_pure (l : List Fr) (v : Int) (hl : l.length ≤ 2000) : PureC Try.prog 21 [fs l, u v] (iv (manyL l v)) := by
  refine pure_sub okJB 1 Try.func21 rfl (by show 2 ≤ _; decide) ?_
  simp only [Try.f21, inl, JB_all, fs, sv, fv, rf1, List.set_set, T29, T30, T41, hfree_fr, hfree_cf, cv', cf_eta, frz_u, shC_dec, dC, T23, T28, T25, hfree_lu, hfree_l0, row0, row1, row2, row3, row4, row5, shI_dec, shN_dec, shB_dec, shM_dec, dI, dN, dB, dM, dU, dU_map, iv, bv, u, ms, ctx_T, ctx_C, ctx_P, T4, T3, T26, Option.bind_some, Option.bind_none, Option.map_some, List.length_map, List.length_set, String.reduceBEq, Int.toNat_natCast, Bool.true_beq, Bool.false_beq, T24, shF_dec, dF, fr_eta, Int.cast_ofNat_Int, Int.reduceSub, Int.reduceAdd, Int.reduceNeg, ev1, ev2, implies_true, undef, stepP, drawB, stepL, lateB, lateB0, rdsT, rdsAny, isRd, afterL, preB, callLB, callLV, lateV, dstV, dynCall, ↓condE_t, ↓condE_f, ↓guardE_tt, ↓guardE_ff, ↓guardE_tf, ↓guardE_ft, frzDeep, deepArgs, deepArg, resB, cv, stepB, stepE, callD, tabD, snapD, snap1, snapC, snapId, snapIds, guardB, guardC, dstAt, aopR, one, pre, binR, intOpR, shiftOpR, unR, argFrm, evo, lkp, hlk, lenOf, asLst, idOf, bndA, srcOk, ofVal, ofCells, setCells, fillA, setElems, fieldsOf, fieldsEq, scalEq, isEq, AV.wr, AV.ok1, TK.agg, frz, frzs, frzA, frzArg, frzArgs, subA, subL, sub1, kp, kh, accOf, List.replicate, Nat.reduceAdd, Nat.reduceSub, Nat.reduceMul, Nat.reduceEqDiff, Nat.reduceLT, Nat.reduceLeDiff, Nat.reduceBEq, reduceIte, reduceCtorEq, eq_self, ne_eq, Int.reduceToNat, Int.reduceLT, Int.reduceLE, Int.reduceGT, Int.reduceGE, Int.reduceBEq, Int.reduceBNe, Int.reduceEq, Int.reduceNe]
  refine WP.loop (ι := Nat) (fun k => l.length - k) (fun k => k ≤ l.length) (n := 39) (fr := fun k => [(6, iv k), (5, iv (manyN v l k)), (0, fs l), (1, u v)]) (hp := fun k => []) (N := 0) ?_ 0 (Nat.zero_le _) rfl (Nat.zero_le _) ⟨rfl, rfl, rfl, rfl, trivial⟩ trivial
  intro k nx hk hN hid
  refine WP.of okJB 1 (by rfl) ?_
  by_cases hkl : k < l.length
  · have hkl' : (k : Int) < l.length := by omega
    have ww : IntKind.wrap .i64 ((k : Int) + 1) = ((k + 1 : Nat) : Int) := by rw [wrap_i (by omega) (by omega)]; omega
    have hk0 : (0 : Int) ≤ k := by omega
    have hg := getD_f hkl
    have hle := manyN_le v l k
    have hn : manyN v l (k + 1) = if takes v (l.getD k fr0) then manyN v l k + 1 else manyN v l k := rfl
    generalize l.getD k fr0 = f at hg hn
    generalize manyN v l k = n at hle hn ⊢
    have wn : IntKind.wrap .i64 ((n : Int) + 1) = ((n + 1 : Nat) : Int) := by rw [wrap_i (by omega) (by omega)]; omega
    cases c1 : f.res == 1 with
    | false =>
      have e : takes v f = false := by simp [takes, c1]
      simp only [JB_all, hkl', ww, hk0, hg, c1, Int.toNat_natCast, fs, sv, fv, rf1, List.set_set, T29, T30, T41, nb_self, nb_same, nb_l0, nb_r0, nb_lt, nb_gt, nb_lt0, nb_gt0, Nat.add_assoc, hfree_fr, hfree_cf, cv', cf_eta, frz_u, shC_dec, dC, T23, T28, T25, hfree_lu, hfree_l0, row0, row1, row2, row3, row4, row5, shI_dec, shN_dec, shB_dec, shM_dec, dI, dN, dB, dM, dU, dU_map, iv, bv, u, ms, ctx_T, ctx_C, ctx_P, T4, T3, T26, Option.bind_some, Option.bind_none, Option.map_some, List.length_map, List.length_set, String.reduceBEq, Int.toNat_natCast, Bool.true_beq, Bool.false_beq, T24, shF_dec, dF, fr_eta, Int.cast_ofNat_Int, Int.reduceSub, Int.reduceAdd, Int.reduceNeg, ev1, ev2, implies_true, undef, stepP, drawB, stepL, lateB, lateB0, rdsT, rdsAny, isRd, afterL, preB, callLB, callLV, lateV, dstV, dynCall, ↓condE_t, ↓condE_f, ↓guardE_tt, ↓guardE_ff, ↓guardE_tf, ↓guardE_ft, frzDeep, deepArgs, deepArg, resB, cv, stepB, stepE, callD, tabD, snapD, snap1, snapC, snapId, snapIds, guardB, guardC, dstAt, aopR, one, pre, binR, intOpR, shiftOpR, unR, argFrm, evo, lkp, hlk, lenOf, asLst, idOf, bndA, srcOk, ofVal, ofCells, setCells, fillA, setElems, fieldsOf, fieldsEq, scalEq, isEq, AV.wr, AV.ok1, TK.agg, frz, frzs, frzA, frzArg, frzArgs, subA, subL, sub1, kp, kh, accOf, List.replicate, Nat.reduceAdd, Nat.reduceSub, Nat.reduceMul, Nat.reduceEqDiff, Nat.reduceLT, Nat.reduceLeDiff, Nat.reduceBEq, reduceIte, reduceCtorEq, eq_self, ne_eq, Int.reduceToNat, Int.reduceLT, Int.reduceLE, Int.reduceGT, Int.reduceGE, Int.reduceBEq, Int.reduceBNe, Int.reduceEq, Int.reduceNe]
      refine ⟨k + 1, by omega, by omega, ?_⟩
      rw [hn, e]
      refine ⟨?_, ?_⟩ <;> first | trivial | rfl
    | true =>
      cases c2 : f.op != 0 with
      | false =>
        have e : takes v f = false := by simp [takes, c2]
        simp only [JB_all, hkl', ww, hk0, hg, c1, c2, Int.toNat_natCast, fs, sv, fv, rf1, List.set_set, T29, T30, T41, nb_self, nb_same, nb_l0, nb_r0, nb_lt, nb_gt, nb_lt0, nb_gt0, Nat.add_assoc, hfree_fr, hfree_cf, cv', cf_eta, frz_u, shC_dec, dC, T23, T28, T25, hfree_lu, hfree_l0, row0, row1, row2, row3, row4, row5, shI_dec, shN_dec, shB_dec, shM_dec, dI, dN, dB, dM, dU, dU_map, iv, bv, u, ms, ctx_T, ctx_C, ctx_P, T4, T3, T26, Option.bind_some, Option.bind_none, Option.map_some, List.length_map, List.length_set, String.reduceBEq, Int.toNat_natCast, Bool.true_beq, Bool.false_beq, T24, shF_dec, dF, fr_eta, Int.cast_ofNat_Int, Int.reduceSub, Int.reduceAdd, Int.reduceNeg, ev1, ev2, implies_true, undef, stepP, drawB, stepL, lateB, lateB0, rdsT, rdsAny, isRd, afterL, preB, callLB, callLV, lateV, dstV, dynCall, ↓condE_t, ↓condE_f, ↓guardE_tt, ↓guardE_ff, ↓guardE_tf, ↓guardE_ft, frzDeep, deepArgs, deepArg, resB, cv, stepB, stepE, callD, tabD, snapD, snap1, snapC, snapId, snapIds, guardB, guardC, dstAt, aopR, one, pre, binR, intOpR, shiftOpR, unR, argFrm, evo, lkp, hlk, lenOf, asLst, idOf, bndA, srcOk, ofVal, ofCells, setCells, fillA, setElems, fieldsOf, fieldsEq, scalEq, isEq, AV.wr, AV.ok1, TK.agg, frz, frzs, frzA, frzArg, frzArgs, subA, subL, sub1, kp, kh, accOf, List.replicate, Nat.reduceAdd, Nat.reduceSub, Nat.reduceMul, Nat.reduceEqDiff, Nat.reduceLT, Nat.reduceLeDiff, Nat.reduceBEq, reduceIte, reduceCtorEq, eq_self, ne_eq, Int.reduceToNat, Int.reduceLT, Int.reduceLE, Int.reduceGT, Int.reduceGE, Int.reduceBEq, Int.reduceBNe, Int.reduceEq, Int.reduceNe]
        refine ⟨k + 1, by omega, by omega, ?_⟩
        rw [hn, e]
        refine ⟨?_, ?_⟩ <;> first | trivial | rfl
      | true =>
        cases c3 : f.val == v with
        | false =>
          have e : takes v f = false := by simp [takes, c3]
          simp only [JB_all, hkl', ww, hk0, hg, c1, c2, c3, Int.toNat_natCast, fs, sv, fv, rf1, List.set_set, T29, T30, T41, nb_self, nb_same, nb_l0, nb_r0, nb_lt, nb_gt, nb_lt0, nb_gt0, Nat.add_assoc, hfree_fr, hfree_cf, cv', cf_eta, frz_u, shC_dec, dC, T23, T28, T25, hfree_lu, hfree_l0, row0, row1, row2, row3, row4, row5, shI_dec, shN_dec, shB_dec, shM_dec, dI, dN, dB, dM, dU, dU_map, iv, bv, u, ms, ctx_T, ctx_C, ctx_P, T4, T3, T26, Option.bind_some, Option.bind_none, Option.map_some, List.length_map, List.length_set, String.reduceBEq, Int.toNat_natCast, Bool.true_beq, Bool.false_beq, T24, shF_dec, dF, fr_eta, Int.cast_ofNat_Int, Int.reduceSub, Int.reduceAdd, Int.reduceNeg, ev1, ev2, implies_true, undef, stepP, drawB, stepL, lateB, lateB0, rdsT, rdsAny, isRd, afterL, preB, callLB, callLV, lateV, dstV, dynCall, ↓condE_t, ↓condE_f, ↓guardE_tt, ↓guardE_ff, ↓guardE_tf, ↓guardE_ft, frzDeep, deepArgs, deepArg, resB, cv, stepB, stepE, callD, tabD, snapD, snap1, snapC, snapId, snapIds, guardB, guardC, dstAt, aopR, one, pre, binR, intOpR, shiftOpR, unR, argFrm, evo, lkp, hlk, lenOf, asLst, idOf, bndA, srcOk, ofVal, ofCells, setCells, fillA, setElems, fieldsOf, fieldsEq, scalEq, isEq, AV.wr, AV.ok1, TK.agg, frz, frzs, frzA, frzArg, frzArgs, subA, subL, sub1, kp, kh, accOf, List.replicate, Nat.reduceAdd, Nat.reduceSub, Nat.reduceMul, Nat.reduceEqDiff, Nat.reduceLT, Nat.reduceLeDiff, Nat.reduceBEq, reduceIte, reduceCtorEq, eq_self, ne_eq, Int.reduceToNat, Int.reduceLT, Int.reduceLE, Int.reduceGT, Int.reduceGE, Int.reduceBEq, Int.reduceBNe, Int.reduceEq, Int.reduceNe]
          refine ⟨k + 1, by omega, by omega, ?_⟩
          rw [hn, e]
          refine ⟨?_, ?_⟩ <;> first | trivial | rfl
        | true =>
          have e : takes v f = true := by simp [takes, c1, c2, c3]
          simp only [JB_all, hkl', ww, wn, hk0, hg, c1, c2, c3, Int.toNat_natCast, fs, sv, fv, rf1, List.set_set, T29, T30, T41, nb_self, nb_same, nb_l0, nb_r0, nb_lt, nb_gt, nb_lt0, nb_gt0, Nat.add_assoc, hfree_fr, hfree_cf, cv', cf_eta, frz_u, shC_dec, dC, T23, T28, T25, hfree_lu, hfree_l0, row0, row1, row2, row3, row4, row5, shI_dec, shN_dec, shB_dec, shM_dec, dI, dN, dB, dM, dU, dU_map, iv, bv, u, ms, ctx_T, ctx_C, ctx_P, T4, T3, T26, Option.bind_some, Option.bind_none, Option.map_some, List.length_map, List.length_set, String.reduceBEq, Int.toNat_natCast, Bool.true_beq, Bool.false_beq, T24, shF_dec, dF, fr_eta, Int.cast_ofNat_Int, Int.reduceSub, Int.reduceAdd, Int.reduceNeg, ev1, ev2, implies_true, undef, stepP, drawB, stepL, lateB, lateB0, rdsT, rdsAny, isRd, afterL, preB, callLB, callLV, lateV, dstV, dynCall, ↓condE_t, ↓condE_f, ↓guardE_tt, ↓guardE_ff, ↓guardE_tf, ↓guardE_ft, frzDeep, deepArgs, deepArg, resB, cv, stepB, stepE, callD, tabD, snapD, snap1, snapC, snapId, snapIds, guardB, guardC, dstAt, aopR, one, pre, binR, intOpR, shiftOpR, unR, argFrm, evo, lkp, hlk, lenOf, asLst, idOf, bndA, srcOk, ofVal, ofCells, setCells, fillA, setElems, fieldsOf, fieldsEq, scalEq, isEq, AV.wr, AV.ok1, TK.agg, frz, frzs, frzA, frzArg, frzArgs, subA, subL, sub1, kp, kh, accOf, List.replicate, Nat.reduceAdd, Nat.reduceSub, Nat.reduceMul, Nat.reduceEqDiff, Nat.reduceLT, Nat.reduceLeDiff, Nat.reduceBEq, reduceIte, reduceCtorEq, eq_self, ne_eq, Int.reduceToNat, Int.reduceLT, Int.reduceLE, Int.reduceGT, Int.reduceGE, Int.reduceBEq, Int.reduceBNe, Int.reduceEq, Int.reduceNe]
          refine ⟨k + 1, by omega, by omega, ?_⟩
          rw [hn, e]
          refine ⟨?_, ?_⟩ <;> first | trivial | rfl
  · have hkl' : ¬ (k : Int) < l.length := by omega
    have hn : manyN v l k = manyL l v := by rw [manyN_count v l k hk, manyL, List.take_of_length_le (by omega)]
    simp only [JB_all, hkl', hn, fs, sv, fv, rf1, List.set_set, T29, T30, T41, nb_self, nb_same, nb_l0, nb_r0, nb_lt, nb_gt, nb_lt0, nb_gt0, Nat.add_assoc, hfree_fr, hfree_cf, cv', cf_eta, frz_u, shC_dec, dC, T23, T28, T25, hfree_lu, hfree_l0, row0, row1, row2, row3, row4, row5, shI_dec, shN_dec, shB_dec, shM_dec, dI, dN, dB, dM, dU, dU_map, iv, bv, u, ms, ctx_T, ctx_C, ctx_P, T4, T3, T26, Option.bind_some, Option.bind_none, Option.map_some, List.length_map, List.length_set, String.reduceBEq, Int.toNat_natCast, Bool.true_beq, Bool.false_beq, T24, shF_dec, dF, fr_eta, Int.cast_ofNat_Int, Int.reduceSub, Int.reduceAdd, Int.reduceNeg, ev1, ev2, implies_true, undef, stepP, drawB, stepL, lateB, lateB0, rdsT, rdsAny, isRd, afterL, preB, callLB, callLV, lateV, dstV, dynCall, ↓condE_t, ↓condE_f, ↓guardE_tt, ↓guardE_ff, ↓guardE_tf, ↓guardE_ft, frzDeep, deepArgs, deepArg, resB, cv, stepB, stepE, callD, tabD, snapD, snap1, snapC, snapId, snapIds, guardB, guardC, dstAt, aopR, one, pre, binR, intOpR, shiftOpR, unR, argFrm, evo, lkp, hlk, lenOf, asLst, idOf, bndA, srcOk, ofVal, ofCells, setCells, fillA, setElems, fieldsOf, fieldsEq, scalEq, isEq, AV.wr, AV.ok1, TK.agg, frz, frzs, frzA, frzArg, frzArgs, subA, subL, sub1, kp, kh, accOf, List.replicate, Nat.reduceAdd, Nat.reduceSub, Nat.reduceMul, Nat.reduceEqDiff, Nat.reduceLT, Nat.reduceLeDiff, Nat.reduceBEq, reduceIte, reduceCtorEq, eq_self, ne_eq, Int.reduceToNat, Int.reduceLT, Int.reduceLE, Int.reduceGT, Int.reduceGE, Int.reduceBEq, Int.reduceBNe, Int.reduceEq, Int.reduceNe]
    all_goals ((repeat' apply And.intro) <;> first | rfl | omega | (show entryOk _ _ _ _ _ = true; kernel_rfl) | (show pivotOk _ _ = true; kernel_rfl) | decide)

def rowsJC : List Row := [
  (13, row4 shI shI shFs shZs fun d n own who => if own.length ≤ 1000 ∧ who.length ≤ 1000 then some (.tup [ms (dPlay d n own who).1, fs (dPlay d n own who).2.1, fs (dPlay d n own who).2.2]) else none), 
  (14, row4 shI shI shFs shZs fun d n own who => if own.length ≤ 1000 ∧ who.length ≤ 1000 ∧ own.all (fun f => inUb f.val) = true then some (.tup [ms (dPlay d n own who).1, fs (dPlay d n own who).2.1, fs (dPlay d n own who).2.2]) else none), 
  (15, row3 shI shM shFs fun d m hand => if hand.length ≤ 1000 then some (.tup [ms (dRest d m hand).1, fs (dRest d m hand).2]) else none), 
  (16, row3 shI shM shFs fun d m hand => if hand.length ≤ 1000 ∧ m.all inUb = true ∧ hand.all uFb = true then some (.tup [ms (dRest d m hand).1, fs (dRest d m hand).2]) else none), 
  (18, row2 shFs shFs fun a b => if a = b ∧ a.length ≤ 1000 then some (bv true) else none), 
  (21, row2 shFs shN fun l v => if l.length ≤ 2000 then some (iv (manyL l v)) else none), 
  (19, row1 shBs fun l => if l.length ≤ 1000 then some (fs (callsDq l)) else none)] ++ rowsJB
theorem rowsJC_ok : ∀ p ∈ rowsJC, RowOk Try.prog p := fun p h => by
  simp only [rowsJC, List.mem_append, List.mem_cons, List.not_mem_nil, or_false, false_or, or_assoc] at h
  rcases h with rfl | rfl | rfl | rfl | rfl | rfl | rfl | h
  · exact ok_row4 (enters_of Try.func13 (by decide) rfl) fun d n own who r _ _ _ _ e => by obtain ⟨h, rfl⟩ := opt_if e; exact dplay_pure d n own who h.1 h.2
  · exact ok_row4 (enters_of Try.func14 (by decide) rfl) fun d n own who r _ _ _ _ e => by obtain ⟨h, rfl⟩ := opt_if e; exact rdplay_pure d n own who h.1 h.2.1 (uV_iff.1 h.2.2)
  · exact ok_row3 (enters_of Try.func15 (by decide) rfl) fun d m hand r _ g _ e => by obtain ⟨h, rfl⟩ := opt_if e; exact drest_pure d m hand (shM_got g) h
  · exact ok_row3 (enters_of Try.func16 (by decide) rfl) fun d m hand r _ g _ e => by obtain ⟨h, rfl⟩ := opt_if e; exact rdrest_pure d m hand (shM_got g) h.1 (uM_iff.1 h.2.1) (uFs_iff.1 h.2.2)
  · exact ok_row2 (enters_of Try.func18 (by decide) rfl) fun a b r _ _ e => by obtain ⟨h, rfl⟩ := opt_if e; rw [← h.1]; exact frames10_pure a h.2
  · exact ok_row2 (enters_of Try.func21 (by decide) rfl) fun l v r _ _ e => by obtain ⟨h, rfl⟩ := opt_if e; exact many10_pure l v h
  · exact ok_row1 (enters_of Try.func19 (by decide) rfl) fun l r _ e => by obtain ⟨h, rfl⟩ := opt_if e; exact calls10_pure l h
  · exact rowsJB_ok p h
theorem okJC : (ctx Try.prog rowsJC).ok := rows_ok rowsJC_ok
theorem JC_13 : tabC rowsJC 13 = row4 shI shI shFs shZs fun d n own who => if own.length ≤ 1000 ∧ who.length ≤ 1000 then some (.tup [ms (dPlay d n own who).1, fs (dPlay d n own who).2.1, fs (dPlay d n own who).2.2]) else none := rfl
theorem JC_14 : tabC rowsJC 14 = row4 shI shI shFs shZs fun d n own who => if own.length ≤ 1000 ∧ who.length ≤ 1000 ∧ own.all (fun f => inUb f.val) = true then some (.tup [ms (dPlay d n own who).1, fs (dPlay d n own who).2.1, fs (dPlay d n own who).2.2]) else none := rfl
theorem JC_15 : tabC rowsJC 15 = row3 shI shM shFs fun d m hand => if hand.length ≤ 1000 then some (.tup [ms (dRest d m hand).1, fs (dRest d m hand).2]) else none := rfl
theorem JC_16 : tabC rowsJC 16 = row3 shI shM shFs fun d m hand => if hand.length ≤ 1000 ∧ m.all inUb = true ∧ hand.all uFb = true then some (.tup [ms (dRest d m hand).1, fs (dRest d m hand).2]) else none := rfl
theorem JC_18 : tabC rowsJC 18 = row2 shFs shFs fun a b => if a = b ∧ a.length ≤ 1000 then some (bv true) else none := rfl
theorem JC_21 : tabC rowsJC 21 = row2 shFs shN fun l v => if l.length ≤ 2000 then some (iv (manyL l v)) else none := rfl
theorem JC_19 : tabC rowsJC 19 = row1 shBs fun l => if l.length ≤ 1000 then some (fs (callsDq l)) else none := rfl
theorem JC_41 : tabC rowsJC 41 = row3 shI shI shN fun o w v => some (fv (fBegin o w v)) := rfl
theorem JC_40 : tabC rowsJC 40 = row1 shC fun c => some (ms (zeros (lSize c).toNat)) := rfl
theorem JC_90 : tabC rowsJC 90 = row2 shN shN fun a b => if a = 1 ∧ 1 ≤ b ∧ b ≤ 9 then some (.tup [u 0, u b]) else none := rfl
theorem JC_11 : tabC rowsJC 11 = row3 shC shM shF fun c m f => some (sv (dqStep c m f)) := rfl
theorem JC_12 : tabC rowsJC 12 = row3 shC shM shF fun c m f => if inUb f.x = true ∧ inUb f.y = true then some (sv (dqStep c m f)) else none := rfl
theorem JC_36 : tabC rowsJC 36 = row0 (fv noneF) := rfl
theorem JC_32 : tabC rowsJC 32 = fun _ => none := rfl
theorem JC_38 : tabC rowsJC 38 = fun _ => none := rfl
theorem JC_79 : tabC rowsJC 79 = fun _ => none := rfl
theorem JC_37 : tabC rowsJC 37 = fun _ => none := rfl
theorem JC_44 : tabC rowsJC 44 = fun _ => none := rfl
theorem JC_35 : tabC rowsJC 35 = fun _ => none := rfl
theorem JC_78 : tabC rowsJC 78 = fun _ => none := rfl
theorem JC_26 : tabC rowsJC 26 = row3 shC shM shF fun c m f => some (sv (oStep c m f)) := rfl
theorem JC_30 : tabC rowsJC 30 = row3 shC shM shF fun c m f => if inUb f.x = true then some (sv (oStep c m f)) else none := rfl
theorem JC_22 : tabC rowsJC 22 = row3 shC shM shI fun c m w => some (lv c m w) := rfl
theorem JC_29 : tabC rowsJC 29 = row3 shC shM shF fun c m f => if inUb f.x = true then some (sv (pStep c m f)) else none := rfl
theorem JC_34 : tabC rowsJC 34 = row1 shC fun c => some (ms (zeros (lSize c).toNat)) := rfl
theorem JC_24 : tabC rowsJC 24 = row3 shM shI shF fun l room f => some (ov (fOnce l room f)) := rfl
theorem JC_25 : tabC rowsJC 25 = row3 shC shM shF fun c m f => some (sv (pStep c m f)) := rfl
theorem JC_70 : tabC rowsJC 70 = row2 shC shI fun c w => some (iv (lBottom c w)) := rfl
theorem JC_74 : tabC rowsJC 74 = row3 shC shI shN fun c w x => if inUb x = true then some (iv (lSlot c w x)) else none := rfl
theorem JC_59 : tabC rowsJC 59 = row5 shC shM shF shI shI fun c m f op pcs => some (bv (goes c m f op pcs)) := rfl
theorem JC_68 : tabC rowsJC 68 = row5 shC shM shF shI shI fun c m f op pcs => some (bv (goes c m f op pcs)) := rfl
theorem JC_55 : tabC rowsJC 55 = fun _ => none := rfl
theorem JC_56 : tabC rowsJC 56 = fun _ => none := rfl
theorem JC_57 : tabC rowsJC 57 = fun _ => none := rfl
theorem JC_58 : tabC rowsJC 58 = fun _ => none := rfl
theorem JC_28 : tabC rowsJC 28 = row1 shM fun m => some (ms m) := rfl
theorem JC_76 : tabC rowsJC 76 = row4 shM shI shN shN fun m i v w => some (.tup [ms (mCas m i v w), bv (mCasB m i v)]) := rfl
theorem JC_46 : tabC rowsJC 46 = row2 shM shI fun m i => some (u (mLoad m i)) := rfl
theorem JC_61 : tabC rowsJC 61 = row3 shM shI shN fun m i v => some (ms (mStore m i v)) := rfl
theorem JC_63 : tabC rowsJC 63 = row4 shM shI shN shN fun m i v w => some (.tup [ms (mCas m i v w), bv (mCasB m i v)]) := rfl
theorem JC_69 : tabC rowsJC 69 = row2 shM shI fun m i => some (u (mLoad m i)) := rfl
theorem JC_17 : tabC rowsJC 17 = row2 shM shM fun a b => some (bv (decide (a = b))) := rfl
theorem JC_73 : tabC rowsJC 73 = row3 shM shI shN fun m i v => some (ms (mStore m i v)) := rfl
theorem JC_43 : tabC rowsJC 43 = row1 shC fun c => some (iv (lSize c)) := rfl
theorem JC_45 : tabC rowsJC 45 = row1 shC fun c => some (iv (lSize c)) := rfl
theorem JC_47 : tabC rowsJC 47 = row2 shC shI fun c w => some (iv (lTop c w)) := rfl
theorem JC_48 : tabC rowsJC 48 = row2 shC shI fun c w => some (iv (lBottom c w)) := rfl
theorem JC_50 : tabC rowsJC 50 = row3 shC shI shN fun c w x => some (iv (lSlot c w x)) := rfl
theorem JC_71 : tabC rowsJC 71 = row2 shC shI fun c w => some (iv (lTop c w)) := rfl
theorem JC_33 : tabC rowsJC 33 = row1 shC fun c => some (bv (mayC c)) := rfl
theorem JC_49 : tabC rowsJC 49 = row2 shN shN fun a b => some (iv (far a b)) := rfl
theorem JC_39 : tabC rowsJC 39 = row1 shC fun c => some (bv (mayC c)) := rfl
theorem JC_75 : tabC rowsJC 75 = row2 shN shN fun a b => some (iv (far a b)) := rfl
theorem JC_80 : tabC rowsJC 80 = row2 shC shI fun c w => if mayC c = true ∧ 0 ≤ w ∧ w ≤ 8 then some (iv (lBase c w)) else none := rfl
theorem JC_82 : tabC rowsJC 82 = fun _ => none := rfl
theorem JC_83 : tabC rowsJC 83 = fun _ => none := rfl
theorem JC_84 : tabC rowsJC 84 = fun _ => none := rfl
theorem JC_85 : tabC rowsJC 85 = fun _ => none := rfl
theorem JC_77 : tabC rowsJC 77 = fun _ => none := rfl
theorem JC_42 : tabC rowsJC 42 = row1 shF fun f => some (bv (f.res != 0)) := rfl
theorem JC_72 : tabC rowsJC 72 = row3 shF shI shN fun f r v => some (fv (fEnd f r v)) := rfl
theorem JC_23 : tabC rowsJC 23 = row3 shI shI shN fun o w v => some (fv (fBegin o w v)) := rfl
theorem JC_20 : tabC rowsJC 20 = row1 shF fun f => some (bv (f.res != 0)) := rfl
theorem JC_62 : tabC rowsJC 62 = row3 shF shI shN fun f r v => some (fv (fEnd f r v)) := rfl
theorem JC_52 : tabC rowsJC 52 = fun _ => none := rfl
theorem JC_53 : tabC rowsJC 53 = fun _ => none := rfl
theorem JC_54 : tabC rowsJC 54 = fun _ => none := rfl
theorem JC_51 : tabC rowsJC 51 = fun _ => none := rfl
theorem JC_27 : tabC rowsJC 27 = row3 shC shM shF fun c m f => some (sv (sStep c m f)) := rfl
theorem JC_31 : tabC rowsJC 31 = row3 shC shM shF fun c m f => if inUb f.y = true then some (sv (sStep c m f)) else none := rfl
theorem JC_all : type_of% (And.intro JC_13 <| And.intro JC_14 <| And.intro JC_15 <| And.intro JC_16 <| And.intro JC_18 <| And.intro JC_21 <| And.intro JC_19 <| And.intro JC_41 <| And.intro JC_40 <| And.intro JC_90 <| And.intro JC_11 <| And.intro JC_12 <| And.intro JC_36 <| And.intro JC_32 <| And.intro JC_38 <| And.intro JC_79 <| And.intro JC_37 <| And.intro JC_44 <| And.intro JC_35 <| And.intro JC_78 <| And.intro JC_26 <| And.intro JC_30 <| And.intro JC_22 <| And.intro JC_29 <| And.intro JC_34 <| And.intro JC_24 <| And.intro JC_25 <| And.intro JC_70 <| And.intro JC_74 <| And.intro JC_59 <| And.intro JC_68 <| And.intro JC_55 <| And.intro JC_56 <| And.intro JC_57 <| And.intro JC_58 <| And.intro JC_28 <| And.intro JC_76 <| And.intro JC_46 <| And.intro JC_61 <| And.intro JC_63 <| And.intro JC_69 <| And.intro JC_17 <| And.intro JC_73 <| And.intro JC_43 <| And.intro JC_45 <| And.intro JC_47 <| And.intro JC_48 <| And.intro JC_50 <| And.intro JC_71 <| And.intro JC_33 <| And.intro JC_49 <| And.intro JC_39 <| And.intro JC_75 <| And.intro JC_80 <| And.intro JC_82 <| And.intro JC_83 <| And.intro JC_84 <| And.intro JC_85 <| And.intro JC_77 <| And.intro JC_42 <| And.intro JC_72 <| And.intro JC_23 <| And.intro JC_20 <| And.intro JC_62 <| And.intro JC_52 <| And.intro JC_53 <| And.intro JC_54 <| And.intro JC_51 <| And.intro JC_27 <| JC_31) := And.intro JC_13 <| And.intro JC_14 <| And.intro JC_15 <| And.intro JC_16 <| And.intro JC_18 <| And.intro JC_21 <| And.intro JC_19 <| And.intro JC_41 <| And.intro JC_40 <| And.intro JC_90 <| And.intro JC_11 <| And.intro JC_12 <| And.intro JC_36 <| And.intro JC_32 <| And.intro JC_38 <| And.intro JC_79 <| And.intro JC_37 <| And.intro JC_44 <| And.intro JC_35 <| And.intro JC_78 <| And.intro JC_26 <| And.intro JC_30 <| And.intro JC_22 <| And.intro JC_29 <| And.intro JC_34 <| And.intro JC_24 <| And.intro JC_25 <| And.intro JC_70 <| And.intro JC_74 <| And.intro JC_59 <| And.intro JC_68 <| And.intro JC_55 <| And.intro JC_56 <| And.intro JC_57 <| And.intro JC_58 <| And.intro JC_28 <| And.intro JC_76 <| And.intro JC_46 <| And.intro JC_61 <| And.intro JC_63 <| And.intro JC_69 <| And.intro JC_17 <| And.intro JC_73 <| And.intro JC_43 <| And.intro JC_45 <| And.intro JC_47 <| And.intro JC_48 <| And.intro JC_50 <| And.intro JC_71 <| And.intro JC_33 <| And.intro JC_49 <| And.intro JC_39 <| And.intro JC_75 <| And.intro JC_80 <| And.intro JC_82 <| And.intro JC_83 <| And.intro JC_84 <| And.intro JC_85 <| And.intro JC_77 <| And.intro JC_42 <| And.intro JC_72 <| And.intro JC_23 <| And.intro JC_20 <| And.intro JC_62 <| And.intro JC_52 <| And.intro JC_53 <| And.intro JC_54 <| And.intro JC_51 <| And.intro JC_27 <| JC_31
end Go.Vai
/- The deque and all who are at it: what the document says. -/
namespace Go.Vai
open Go.RowKit Go.Proofs
set_option linter.unusedSimpArgs false
set_option linter.unusedVariables false
set_option maxHeartbeats 4000000
set_option maxRecDepth 100000

theorem awake_dplay : dPlay 2 1 [⟨0, 0, 0, 7, 0, 0, 0⟩] [0, 0, 0, 0, 1, 1, 1, 1] =
    ([0, 0, 0, 0, 0, 0, 0, 0, 1, 1, 0, 7, 0], [⟨0, 0, 0, 7, 0, 0, 1⟩, ⟨2, 0, 1, 7, 0, 0, 1⟩], [⟨-1, 0, 0, 0, 0, 0, 0⟩, ⟨-1, 0, 0, 0, 0, 0, 0⟩]) := by kernel_rfl
theorem awake_drest : dRest 2 [0, 0, 0, 0, 0, 0, 0, 0, 1, 1, 0, 7, 0] [⟨-1, 0, 0, 0, 0, 0, 0⟩, ⟨-1, 0, 0, 0, 0, 0, 0⟩] = ([0, 0, 0, 0, 0, 0, 0, 0, 1, 1, 0, 7, 0], [⟨-1, 0, 0, 0, 0, 0, 0⟩, ⟨-1, 0, 0, 0, 0, 0, 0⟩]) := by kernel_rfl

theorem awake10_pure : PureC Try.prog 10 [] (bv true) := by
  refine pure_sub okJC 1 Try.func10 rfl (by show 0 ≤ _; decide) ?_
  have hd1 : shFs.dec (.lst 7 [fv ⟨0, 0, 0, 7, 0, 0, 0⟩]) = some [⟨0, 0, 0, 7, 0, 0, 0⟩] := rfl
  have hd2 : shZs.dec (.lst 1 [iv 0, iv 0, iv 0, iv 0, iv 1, iv 1, iv 1, iv 1]) = some [0, 0, 0, 0, 1, 1, 1, 1] := rfl
  have hd4 : shFs.dec (.lst 7 [fv ⟨-1, 0, 0, 0, 0, 0, 0⟩, fv ⟨-1, 0, 0, 0, 0, 0, 0⟩]) = some [⟨-1, 0, 0, 0, 0, 0, 0⟩, ⟨-1, 0, 0, 0, 0, 0, 0⟩] := rfl
  simp only [fv, iv, u] at hd1 hd2 hd4
  simp only [Try.f10, JC_all, inl, hd1, hd2, hd4, awake_dplay, awake_drest, fs, zs, sv, fv, rf1, List.set_set, T29, T30, T41, hfree_fr, hfree_cf, cv', cf_eta, frz_u, shC_dec, dC, T23, T28, T25, hfree_lu, hfree_l0, row0, row1, row2, row3, row4, row5, shI_dec, shN_dec, shB_dec, shM_dec, dI, dN, dB, dM, dU, dU_map, iv, bv, u, ms, ctx_T, ctx_C, ctx_P, T4, T3, T26, Option.bind_some, Option.bind_none, Option.map_some, List.length_map, List.length_set, String.reduceBEq, Int.toNat_natCast, Bool.true_beq, Bool.false_beq, T24, shF_dec, dF, fr_eta, Int.cast_ofNat_Int, Int.reduceSub, Int.reduceAdd, Int.reduceNeg, ev1, ev2, implies_true, undef, stepP, drawB, stepL, lateB, lateB0, rdsT, rdsAny, isRd, afterL, preB, callLB, callLV, lateV, dstV, dynCall, ↓condE_t, ↓condE_f, ↓guardE_tt, ↓guardE_ff, ↓guardE_tf, ↓guardE_ft, frzDeep, deepArgs, deepArg, resB, cv, stepB, stepE, callD, tabD, snapD, snap1, snapC, snapId, snapIds, guardB, guardC, dstAt, aopR, one, pre, binR, intOpR, shiftOpR, unR, argFrm, evo, lkp, hlk, lenOf, asLst, idOf, bndA, srcOk, ofVal, ofCells, setCells, fillA, setElems, fieldsOf, fieldsEq, scalEq, isEq, AV.wr, AV.ok1, TK.agg, frz, frzs, frzA, frzArg, frzArgs, subA, subL, sub1, kp, kh, accOf, List.replicate, Nat.reduceAdd, Nat.reduceSub, Nat.reduceMul, Nat.reduceEqDiff, Nat.reduceLT, Nat.reduceLeDiff, Nat.reduceBEq, reduceIte, reduceCtorEq, eq_self, ne_eq, Int.reduceToNat, Int.reduceLT, Int.reduceLE, Int.reduceGT, Int.reduceGE, Int.reduceBEq, Int.reduceBNe, Int.reduceEq, Int.reduceNe]
  all_goals ((repeat' apply And.intro) <;> first | rfl | omega | (show entryOk _ _ _ _ _ = true; kernel_rfl) | (show pivotOk _ _ = true; kernel_rfl) | decide)

def rowsJD : List Row := [
  (10, row0 (bv true))] ++ rowsJC
theorem rowsJD_ok : ∀ p ∈ rowsJD, RowOk Try.prog p := fun p h => by
  simp only [rowsJD, List.mem_append, List.mem_cons, List.not_mem_nil, or_false, false_or, or_assoc] at h
  rcases h with rfl | h
  · exact ok_row0 (enters_of Try.func10 (by decide) rfl) awake10_pure
  · exact rowsJC_ok p h
theorem okJD : (ctx Try.prog rowsJD).ok := rows_ok rowsJD_ok
theorem JD_10 : tabC rowsJD 10 = row0 (bv true) := rfl
theorem JD_13 : tabC rowsJD 13 = row4 shI shI shFs shZs fun d n own who => if own.length ≤ 1000 ∧ who.length ≤ 1000 then some (.tup [ms (dPlay d n own who).1, fs (dPlay d n own who).2.1, fs (dPlay d n own who).2.2]) else none := rfl
theorem JD_14 : tabC rowsJD 14 = row4 shI shI shFs shZs fun d n own who => if own.length ≤ 1000 ∧ who.length ≤ 1000 ∧ own.all (fun f => inUb f.val) = true then some (.tup [ms (dPlay d n own who).1, fs (dPlay d n own who).2.1, fs (dPlay d n own who).2.2]) else none := rfl
theorem JD_15 : tabC rowsJD 15 = row3 shI shM shFs fun d m hand => if hand.length ≤ 1000 then some (.tup [ms (dRest d m hand).1, fs (dRest d m hand).2]) else none := rfl
theorem JD_16 : tabC rowsJD 16 = row3 shI shM shFs fun d m hand => if hand.length ≤ 1000 ∧ m.all inUb = true ∧ hand.all uFb = true then some (.tup [ms (dRest d m hand).1, fs (dRest d m hand).2]) else none := rfl
theorem JD_18 : tabC rowsJD 18 = row2 shFs shFs fun a b => if a = b ∧ a.length ≤ 1000 then some (bv true) else none := rfl
theorem JD_21 : tabC rowsJD 21 = row2 shFs shN fun l v => if l.length ≤ 2000 then some (iv (manyL l v)) else none := rfl
theorem JD_19 : tabC rowsJD 19 = row1 shBs fun l => if l.length ≤ 1000 then some (fs (callsDq l)) else none := rfl
theorem JD_41 : tabC rowsJD 41 = row3 shI shI shN fun o w v => some (fv (fBegin o w v)) := rfl
theorem JD_40 : tabC rowsJD 40 = row1 shC fun c => some (ms (zeros (lSize c).toNat)) := rfl
theorem JD_90 : tabC rowsJD 90 = row2 shN shN fun a b => if a = 1 ∧ 1 ≤ b ∧ b ≤ 9 then some (.tup [u 0, u b]) else none := rfl
theorem JD_11 : tabC rowsJD 11 = row3 shC shM shF fun c m f => some (sv (dqStep c m f)) := rfl
theorem JD_12 : tabC rowsJD 12 = row3 shC shM shF fun c m f => if inUb f.x = true ∧ inUb f.y = true then some (sv (dqStep c m f)) else none := rfl
theorem JD_36 : tabC rowsJD 36 = row0 (fv noneF) := rfl
theorem JD_32 : tabC rowsJD 32 = fun _ => none := rfl
theorem JD_38 : tabC rowsJD 38 = fun _ => none := rfl
theorem JD_79 : tabC rowsJD 79 = fun _ => none := rfl
theorem JD_37 : tabC rowsJD 37 = fun _ => none := rfl
theorem JD_44 : tabC rowsJD 44 = fun _ => none := rfl
theorem JD_35 : tabC rowsJD 35 = fun _ => none := rfl
theorem JD_78 : tabC rowsJD 78 = fun _ => none := rfl
theorem JD_26 : tabC rowsJD 26 = row3 shC shM shF fun c m f => some (sv (oStep c m f)) := rfl
theorem JD_30 : tabC rowsJD 30 = row3 shC shM shF fun c m f => if inUb f.x = true then some (sv (oStep c m f)) else none := rfl
theorem JD_22 : tabC rowsJD 22 = row3 shC shM shI fun c m w => some (lv c m w) := rfl
theorem JD_29 : tabC rowsJD 29 = row3 shC shM shF fun c m f => if inUb f.x = true then some (sv (pStep c m f)) else none := rfl
theorem JD_34 : tabC rowsJD 34 = row1 shC fun c => some (ms (zeros (lSize c).toNat)) := rfl
theorem JD_24 : tabC rowsJD 24 = row3 shM shI shF fun l room f => some (ov (fOnce l room f)) := rfl
theorem JD_25 : tabC rowsJD 25 = row3 shC shM shF fun c m f => some (sv (pStep c m f)) := rfl
theorem JD_70 : tabC rowsJD 70 = row2 shC shI fun c w => some (iv (lBottom c w)) := rfl
theorem JD_74 : tabC rowsJD 74 = row3 shC shI shN fun c w x => if inUb x = true then some (iv (lSlot c w x)) else none := rfl
theorem JD_59 : tabC rowsJD 59 = row5 shC shM shF shI shI fun c m f op pcs => some (bv (goes c m f op pcs)) := rfl
theorem JD_68 : tabC rowsJD 68 = row5 shC shM shF shI shI fun c m f op pcs => some (bv (goes c m f op pcs)) := rfl
theorem JD_55 : tabC rowsJD 55 = fun _ => none := rfl
theorem JD_56 : tabC rowsJD 56 = fun _ => none := rfl
theorem JD_57 : tabC rowsJD 57 = fun _ => none := rfl
theorem JD_58 : tabC rowsJD 58 = fun _ => none := rfl
theorem JD_28 : tabC rowsJD 28 = row1 shM fun m => some (ms m) := rfl
theorem JD_76 : tabC rowsJD 76 = row4 shM shI shN shN fun m i v w => some (.tup [ms (mCas m i v w), bv (mCasB m i v)]) := rfl
theorem JD_46 : tabC rowsJD 46 = row2 shM shI fun m i => some (u (mLoad m i)) := rfl
theorem JD_61 : tabC rowsJD 61 = row3 shM shI shN fun m i v => some (ms (mStore m i v)) := rfl
theorem JD_63 : tabC rowsJD 63 = row4 shM shI shN shN fun m i v w => some (.tup [ms (mCas m i v w), bv (mCasB m i v)]) := rfl
theorem JD_69 : tabC rowsJD 69 = row2 shM shI fun m i => some (u (mLoad m i)) := rfl
theorem JD_17 : tabC rowsJD 17 = row2 shM shM fun a b => some (bv (decide (a = b))) := rfl
theorem JD_73 : tabC rowsJD 73 = row3 shM shI shN fun m i v => some (ms (mStore m i v)) := rfl
theorem JD_43 : tabC rowsJD 43 = row1 shC fun c => some (iv (lSize c)) := rfl
theorem JD_45 : tabC rowsJD 45 = row1 shC fun c => some (iv (lSize c)) := rfl
theorem JD_47 : tabC rowsJD 47 = row2 shC shI fun c w => some (iv (lTop c w)) := rfl
theorem JD_48 : tabC rowsJD 48 = row2 shC shI fun c w => some (iv (lBottom c w)) := rfl
theorem JD_50 : tabC rowsJD 50 = row3 shC shI shN fun c w x => some (iv (lSlot c w x)) := rfl
theorem JD_71 : tabC rowsJD 71 = row2 shC shI fun c w => some (iv (lTop c w)) := rfl
theorem JD_33 : tabC rowsJD 33 = row1 shC fun c => some (bv (mayC c)) := rfl
theorem JD_49 : tabC rowsJD 49 = row2 shN shN fun a b => some (iv (far a b)) := rfl
theorem JD_39 : tabC rowsJD 39 = row1 shC fun c => some (bv (mayC c)) := rfl
theorem JD_75 : tabC rowsJD 75 = row2 shN shN fun a b => some (iv (far a b)) := rfl
theorem JD_80 : tabC rowsJD 80 = row2 shC shI fun c w => if mayC c = true ∧ 0 ≤ w ∧ w ≤ 8 then some (iv (lBase c w)) else none := rfl
theorem JD_82 : tabC rowsJD 82 = fun _ => none := rfl
theorem JD_83 : tabC rowsJD 83 = fun _ => none := rfl
theorem JD_84 : tabC rowsJD 84 = fun _ => none := rfl
theorem JD_85 : tabC rowsJD 85 = fun _ => none := rfl
theorem JD_77 : tabC rowsJD 77 = fun _ => none := rfl
theorem JD_42 : tabC rowsJD 42 = row1 shF fun f => some (bv (f.res != 0)) := rfl
theorem JD_72 : tabC rowsJD 72 = row3 shF shI shN fun f r v => some (fv (fEnd f r v)) := rfl
theorem JD_23 : tabC rowsJD 23 = row3 shI shI shN fun o w v => some (fv (fBegin o w v)) := rfl
theorem JD_20 : tabC rowsJD 20 = row1 shF fun f => some (bv (f.res != 0)) := rfl
theorem JD_62 : tabC rowsJD 62 = row3 shF shI shN fun f r v => some (fv (fEnd f r v)) := rfl
theorem JD_52 : tabC rowsJD 52 = fun _ => none := rfl
theorem JD_53 : tabC rowsJD 53 = fun _ => none := rfl
theorem JD_54 : tabC rowsJD 54 = fun _ => none := rfl
theorem JD_51 : tabC rowsJD 51 = fun _ => none := rfl
theorem JD_27 : tabC rowsJD 27 = row3 shC shM shF fun c m f => some (sv (sStep c m f)) := rfl
theorem JD_31 : tabC rowsJD 31 = row3 shC shM shF fun c m f => if inUb f.y = true then some (sv (sStep c m f)) else none := rfl
theorem JD_all : type_of% (And.intro JD_10 <| And.intro JD_13 <| And.intro JD_14 <| And.intro JD_15 <| And.intro JD_16 <| And.intro JD_18 <| And.intro JD_21 <| And.intro JD_19 <| And.intro JD_41 <| And.intro JD_40 <| And.intro JD_90 <| And.intro JD_11 <| And.intro JD_12 <| And.intro JD_36 <| And.intro JD_32 <| And.intro JD_38 <| And.intro JD_79 <| And.intro JD_37 <| And.intro JD_44 <| And.intro JD_35 <| And.intro JD_78 <| And.intro JD_26 <| And.intro JD_30 <| And.intro JD_22 <| And.intro JD_29 <| And.intro JD_34 <| And.intro JD_24 <| And.intro JD_25 <| And.intro JD_70 <| And.intro JD_74 <| And.intro JD_59 <| And.intro JD_68 <| And.intro JD_55 <| And.intro JD_56 <| And.intro JD_57 <| And.intro JD_58 <| And.intro JD_28 <| And.intro JD_76 <| And.intro JD_46 <| And.intro JD_61 <| And.intro JD_63 <| And.intro JD_69 <| And.intro JD_17 <| And.intro JD_73 <| And.intro JD_43 <| And.intro JD_45 <| And.intro JD_47 <| And.intro JD_48 <| And.intro JD_50 <| And.intro JD_71 <| And.intro JD_33 <| And.intro JD_49 <| And.intro JD_39 <| And.intro JD_75 <| And.intro JD_80 <| And.intro JD_82 <| And.intro JD_83 <| And.intro JD_84 <| And.intro JD_85 <| And.intro JD_77 <| And.intro JD_42 <| And.intro JD_72 <| And.intro JD_23 <| And.intro JD_20 <| And.intro JD_62 <| And.intro JD_52 <| And.intro JD_53 <| And.intro JD_54 <| And.intro JD_51 <| And.intro JD_27 <| JD_31) := And.intro JD_10 <| And.intro JD_13 <| And.intro JD_14 <| And.intro JD_15 <| And.intro JD_16 <| And.intro JD_18 <| And.intro JD_21 <| And.intro JD_19 <| And.intro JD_41 <| And.intro JD_40 <| And.intro JD_90 <| And.intro JD_11 <| And.intro JD_12 <| And.intro JD_36 <| And.intro JD_32 <| And.intro JD_38 <| And.intro JD_79 <| And.intro JD_37 <| And.intro JD_44 <| And.intro JD_35 <| And.intro JD_78 <| And.intro JD_26 <| And.intro JD_30 <| And.intro JD_22 <| And.intro JD_29 <| And.intro JD_34 <| And.intro JD_24 <| And.intro JD_25 <| And.intro JD_70 <| And.intro JD_74 <| And.intro JD_59 <| And.intro JD_68 <| And.intro JD_55 <| And.intro JD_56 <| And.intro JD_57 <| And.intro JD_58 <| And.intro JD_28 <| And.intro JD_76 <| And.intro JD_46 <| And.intro JD_61 <| And.intro JD_63 <| And.intro JD_69 <| And.intro JD_17 <| And.intro JD_73 <| And.intro JD_43 <| And.intro JD_45 <| And.intro JD_47 <| And.intro JD_48 <| And.intro JD_50 <| And.intro JD_71 <| And.intro JD_33 <| And.intro JD_49 <| And.intro JD_39 <| And.intro JD_75 <| And.intro JD_80 <| And.intro JD_82 <| And.intro JD_83 <| And.intro JD_84 <| And.intro JD_85 <| And.intro JD_77 <| And.intro JD_42 <| And.intro JD_72 <| And.intro JD_23 <| And.intro JD_20 <| And.intro JD_62 <| And.intro JD_52 <| And.intro JD_53 <| And.intro JD_54 <| And.intro JD_51 <| And.intro JD_27 <| JD_31

theorem tells10_law (c : Cf) (m : List Int) (f : Fr) (thieves : Int) (own : List Fr) (who : List Int) (hm : InM m) (hf : f.wf) (ho : ∀ y ∈ own, y.wf) :
    PureC Try.prog 3 [cv' c, ms m, fv f, iv thieves, fs own, zs who] (bv true) := by
  refine pure_sub okJD 1 Try.func3 rfl (by show 6 ≤ _; decide) ?_
  have hou : UFs own := fun x hx => ⟨(ho x hx).2.2.2.1, (ho x hx).2.2.2.2.1, (ho x hx).2.2.2.2.2.1⟩
  have hfu : UFr f := ⟨hf.2.2.2.1, hf.2.2.2.2.1, hf.2.2.2.2.2.1⟩
  by_cases h1 : m.length ≤ 500
  · have h1' : ¬ (m.length : Int) > 500 := by omega
    by_cases h2 : own.length ≤ 60
    · have h2' : ¬ (own.length : Int) > 60 := by omega
      by_cases h3 : who.length ≤ 500
      · have h3' : ¬ (who.length : Int) > 500 := by omega
        have hov : ∀ x ∈ own, InU x.val := fun x hx => (hou x hx).val
        have k1 : m.length ≤ 1000 := by omega
        have k2 : own.length ≤ 1000 := by omega
        have k3 : who.length ≤ 1000 := by omega
        have u1 : m.all inUb = true := uM_iff.2 hm
        have u2 : own.all uFb = true := uFs_iff.2 hou
        have u3 : own.all (fun f => inUb f.val) = true := uV_iff.2 hov
        have u4 : inUb f.x = true := inUb_iff.2 hfu.x
        have u5 : inUb f.y = true := inUb_iff.2 hfu.y
        have lp := len_dPlay c.d thieves own who
        have up := dPlay_u (d := c.d) (n := thieves) (who := who) hov
        have lr := len_dRest c.d m own
        have ls := len_dqStep c m f
        obtain ⟨sm, sf, f1⟩ : ∃ a b, dqStep c m f = (a, b) := ⟨_, _, rfl⟩
        obtain ⟨pm, po, ph, f2⟩ : ∃ a b d, dPlay c.d thieves own who = (a, b, d) := ⟨_, _, _, rfl⟩
        obtain ⟨rm, rh, f3⟩ : ∃ a b, dRest c.d m own = (a, b) := ⟨_, _, rfl⟩
        obtain ⟨xm, xh, f4⟩ : ∃ a b, dRest c.d pm ph = (a, b) := ⟨_, _, rfl⟩
        have lx := len_dRest c.d pm ph
        rw [f2] at lp up
        rw [f3] at lr
        rw [f1] at ls
        rw [f4] at lx
        dsimp only at lp up lr ls lx
        have u6 : pm.all inUb = true := uM_iff.2 up.1
        have u7 : ph.all uFb = true := uFs_iff.2 up.2
        have q1 : sm.length ≤ 1000 := by omega
        have q2 : pm.length ≤ 1000 := by omega
        have q3 : po.length ≤ 1000 := by omega
        have q4 : ph.length ≤ 1000 := by omega
        have q5 : rm.length ≤ 1000 := by omega
        have q6 : rh.length ≤ 1000 := by omega
        have q7 : xm.length ≤ 1000 := by omega
        have q8 : xh.length ≤ 1000 := by omega
        simp only [Try.f3, JD_all, h1', h2', h3', k1, k2, k3, u1, u2, u3, u4, u5, u6, u7, f1, f2, f3, f4, q1, q2, q3, q4, q5, q6, q7, q8, inl, fs, zs, sv, fv, rf1, List.set_set, T29, T30, T41, hfree_fr, hfree_cf, cv', cf_eta, frz_u, shC_dec, dC, T23, T28, T25, hfree_lu, hfree_l0, row0, row1, row2, row3, row4, row5, shI_dec, shN_dec, shB_dec, shM_dec, dI, dN, dB, dM, dU, dU_map, iv, bv, u, ms, ctx_T, ctx_C, ctx_P, T4, T3, T26, Option.bind_some, Option.bind_none, Option.map_some, List.length_map, List.length_set, String.reduceBEq, Int.toNat_natCast, Bool.true_beq, Bool.false_beq, T24, shF_dec, dF, fr_eta, Int.cast_ofNat_Int, Int.reduceSub, Int.reduceAdd, Int.reduceNeg, ev1, ev2, implies_true, undef, stepP, drawB, stepL, lateB, lateB0, rdsT, rdsAny, isRd, afterL, preB, callLB, callLV, lateV, dstV, dynCall, ↓condE_t, ↓condE_f, ↓guardE_tt, ↓guardE_ff, ↓guardE_tf, ↓guardE_ft, frzDeep, deepArgs, deepArg, resB, cv, stepB, stepE, callD, tabD, snapD, snap1, snapC, snapId, snapIds, guardB, guardC, dstAt, aopR, one, pre, binR, intOpR, shiftOpR, unR, argFrm, evo, lkp, hlk, lenOf, asLst, idOf, bndA, srcOk, ofVal, ofCells, setCells, fillA, setElems, fieldsOf, fieldsEq, scalEq, isEq, AV.wr, AV.ok1, TK.agg, frz, frzs, frzA, frzArg, frzArgs, subA, subL, sub1, kp, kh, accOf, List.replicate, Nat.reduceAdd, Nat.reduceSub, Nat.reduceMul, Nat.reduceEqDiff, Nat.reduceLT, Nat.reduceLeDiff, Nat.reduceBEq, reduceIte, reduceCtorEq, eq_self, ne_eq, Int.reduceToNat, Int.reduceLT, Int.reduceLE, Int.reduceGT, Int.reduceGE, Int.reduceBEq, Int.reduceBNe, Int.reduceEq, Int.reduceNe]
        all_goals ((repeat' apply And.intro) <;> first | rfl | omega | (show entryOk _ _ _ _ _ = true; kernel_rfl) | (show pivotOk _ _ = true; kernel_rfl) | decide)
      · have h3' : (who.length : Int) > 500 := by omega
        simp only [Try.f3, JD_all, h1', h2', h3', inl, fs, zs, sv, fv, rf1, List.set_set, T29, T30, T41, hfree_fr, hfree_cf, cv', cf_eta, frz_u, shC_dec, dC, T23, T28, T25, hfree_lu, hfree_l0, row0, row1, row2, row3, row4, row5, shI_dec, shN_dec, shB_dec, shM_dec, dI, dN, dB, dM, dU, dU_map, iv, bv, u, ms, ctx_T, ctx_C, ctx_P, T4, T3, T26, Option.bind_some, Option.bind_none, Option.map_some, List.length_map, List.length_set, String.reduceBEq, Int.toNat_natCast, Bool.true_beq, Bool.false_beq, T24, shF_dec, dF, fr_eta, Int.cast_ofNat_Int, Int.reduceSub, Int.reduceAdd, Int.reduceNeg, ev1, ev2, implies_true, undef, stepP, drawB, stepL, lateB, lateB0, rdsT, rdsAny, isRd, afterL, preB, callLB, callLV, lateV, dstV, dynCall, ↓condE_t, ↓condE_f, ↓guardE_tt, ↓guardE_ff, ↓guardE_tf, ↓guardE_ft, frzDeep, deepArgs, deepArg, resB, cv, stepB, stepE, callD, tabD, snapD, snap1, snapC, snapId, snapIds, guardB, guardC, dstAt, aopR, one, pre, binR, intOpR, shiftOpR, unR, argFrm, evo, lkp, hlk, lenOf, asLst, idOf, bndA, srcOk, ofVal, ofCells, setCells, fillA, setElems, fieldsOf, fieldsEq, scalEq, isEq, AV.wr, AV.ok1, TK.agg, frz, frzs, frzA, frzArg, frzArgs, subA, subL, sub1, kp, kh, accOf, List.replicate, Nat.reduceAdd, Nat.reduceSub, Nat.reduceMul, Nat.reduceEqDiff, Nat.reduceLT, Nat.reduceLeDiff, Nat.reduceBEq, reduceIte, reduceCtorEq, eq_self, ne_eq, Int.reduceToNat, Int.reduceLT, Int.reduceLE, Int.reduceGT, Int.reduceGE, Int.reduceBEq, Int.reduceBNe, Int.reduceEq, Int.reduceNe]
        all_goals ((repeat' apply And.intro) <;> first | rfl | omega | (show entryOk _ _ _ _ _ = true; kernel_rfl) | (show pivotOk _ _ = true; kernel_rfl) | decide)
    · have h2' : (own.length : Int) > 60 := by omega
      simp only [Try.f3, JD_all, h1', h2', inl, fs, zs, sv, fv, rf1, List.set_set, T29, T30, T41, hfree_fr, hfree_cf, cv', cf_eta, frz_u, shC_dec, dC, T23, T28, T25, hfree_lu, hfree_l0, row0, row1, row2, row3, row4, row5, shI_dec, shN_dec, shB_dec, shM_dec, dI, dN, dB, dM, dU, dU_map, iv, bv, u, ms, ctx_T, ctx_C, ctx_P, T4, T3, T26, Option.bind_some, Option.bind_none, Option.map_some, List.length_map, List.length_set, String.reduceBEq, Int.toNat_natCast, Bool.true_beq, Bool.false_beq, T24, shF_dec, dF, fr_eta, Int.cast_ofNat_Int, Int.reduceSub, Int.reduceAdd, Int.reduceNeg, ev1, ev2, implies_true, undef, stepP, drawB, stepL, lateB, lateB0, rdsT, rdsAny, isRd, afterL, preB, callLB, callLV, lateV, dstV, dynCall, ↓condE_t, ↓condE_f, ↓guardE_tt, ↓guardE_ff, ↓guardE_tf, ↓guardE_ft, frzDeep, deepArgs, deepArg, resB, cv, stepB, stepE, callD, tabD, snapD, snap1, snapC, snapId, snapIds, guardB, guardC, dstAt, aopR, one, pre, binR, intOpR, shiftOpR, unR, argFrm, evo, lkp, hlk, lenOf, asLst, idOf, bndA, srcOk, ofVal, ofCells, setCells, fillA, setElems, fieldsOf, fieldsEq, scalEq, isEq, AV.wr, AV.ok1, TK.agg, frz, frzs, frzA, frzArg, frzArgs, subA, subL, sub1, kp, kh, accOf, List.replicate, Nat.reduceAdd, Nat.reduceSub, Nat.reduceMul, Nat.reduceEqDiff, Nat.reduceLT, Nat.reduceLeDiff, Nat.reduceBEq, reduceIte, reduceCtorEq, eq_self, ne_eq, Int.reduceToNat, Int.reduceLT, Int.reduceLE, Int.reduceGT, Int.reduceGE, Int.reduceBEq, Int.reduceBNe, Int.reduceEq, Int.reduceNe]
      all_goals ((repeat' apply And.intro) <;> first | rfl | omega | (show entryOk _ _ _ _ _ = true; kernel_rfl) | (show pivotOk _ _ = true; kernel_rfl) | decide)
  · have h1' : (m.length : Int) > 500 := by omega
    simp only [Try.f3, JD_all, h1', inl, fs, zs, sv, fv, rf1, List.set_set, T29, T30, T41, hfree_fr, hfree_cf, cv', cf_eta, frz_u, shC_dec, dC, T23, T28, T25, hfree_lu, hfree_l0, row0, row1, row2, row3, row4, row5, shI_dec, shN_dec, shB_dec, shM_dec, dI, dN, dB, dM, dU, dU_map, iv, bv, u, ms, ctx_T, ctx_C, ctx_P, T4, T3, T26, Option.bind_some, Option.bind_none, Option.map_some, List.length_map, List.length_set, String.reduceBEq, Int.toNat_natCast, Bool.true_beq, Bool.false_beq, T24, shF_dec, dF, fr_eta, Int.cast_ofNat_Int, Int.reduceSub, Int.reduceAdd, Int.reduceNeg, ev1, ev2, implies_true, undef, stepP, drawB, stepL, lateB, lateB0, rdsT, rdsAny, isRd, afterL, preB, callLB, callLV, lateV, dstV, dynCall, ↓condE_t, ↓condE_f, ↓guardE_tt, ↓guardE_ff, ↓guardE_tf, ↓guardE_ft, frzDeep, deepArgs, deepArg, resB, cv, stepB, stepE, callD, tabD, snapD, snap1, snapC, snapId, snapIds, guardB, guardC, dstAt, aopR, one, pre, binR, intOpR, shiftOpR, unR, argFrm, evo, lkp, hlk, lenOf, asLst, idOf, bndA, srcOk, ofVal, ofCells, setCells, fillA, setElems, fieldsOf, fieldsEq, scalEq, isEq, AV.wr, AV.ok1, TK.agg, frz, frzs, frzA, frzArg, frzArgs, subA, subL, sub1, kp, kh, accOf, List.replicate, Nat.reduceAdd, Nat.reduceSub, Nat.reduceMul, Nat.reduceEqDiff, Nat.reduceLT, Nat.reduceLeDiff, Nat.reduceBEq, reduceIte, reduceCtorEq, eq_self, ne_eq, Int.reduceToNat, Int.reduceLT, Int.reduceLE, Int.reduceGT, Int.reduceGE, Int.reduceBEq, Int.reduceBNe, Int.reduceEq, Int.reduceNe]
    all_goals ((repeat' apply And.intro) <;> first | rfl | omega | (show entryOk _ _ _ _ _ = true; kernel_rfl) | (show pivotOk _ _ = true; kernel_rfl) | decide)
end Go.Vai
