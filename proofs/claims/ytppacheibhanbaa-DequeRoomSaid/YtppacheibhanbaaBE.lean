/- The evaluator, the plain texts and the contracts that this claim leans on, part BE: nothing of the statement is claimed here. -/
import Derived.Test.YtppacheibhanbaaBD
/- Popping: a step. -/
namespace Go.Vai
open Go.RowKit Go.Proofs
set_option linter.unusedSimpArgs false
set_option linter.unusedVariables false
set_option maxHeartbeats 4000000
set_option maxRecDepth 100000

/-! A jump to a label of the scope. -/
section
variable {X : Ctx} {n nx : Nat} {fr : Frm} {hp : Hp} {Q : Exit → St → Prop}
def noGotoA (Q : Exit → St → Prop) : Exit → St → Prop
  | .goto _, _ => False
  | e, s => Q e s
def scopeG (X : Ctx) (r : Option Code) (l : Nat) (Q : Exit → St → Prop) (n : Nat) (fr : Frm) (hp : Hp) (nx : Nat) : Prop :=
  match r with
  | some rest => WP X rest (noGotoA Q) ⟨n, fr, hp, nx⟩
  | none => Q (.goto l) ⟨n, fr, hp, nx⟩
theorem r_scpG {b : Code} {l : Nat} : inScopeA X b Q (.goto l) ⟨n, fr, hp, nx⟩ = scopeG X (findLabel b l) l Q n fr hp nx := by
  unfold scopeG
  simp only [inScopeA]
  cases findLabel b l with
  | none => rfl
  | some rest =>
    have : (fun (e : Exit) (s' : St) => match e with | .goto _ => False | e => Q e s') = noGotoA Q := by
      funext e s'; cases e <;> rfl
    rw [← this]
    rfl
theorem r_ngR : noGotoA Q .ret ⟨n, fr, hp, nx⟩ = Q .ret ⟨n, fr, hp, nx⟩ := propext Iff.rfl
theorem r_ngN : noGotoA Q .normal ⟨n, fr, hp, nx⟩ = Q .normal ⟨n, fr, hp, nx⟩ := propext Iff.rfl
end

theorem w01 : IntKind.wrap .i64 (0 + 1) = 1 := rfl
theorem w12 : IntKind.wrap .i64 (1 + 1) = 2 := rfl
theorem w23 : IntKind.wrap .i64 (2 + 1) = 3 := rfl
theorem w34 : IntKind.wrap .i64 (3 + 1) = 4 := rfl
theorem w45 : IntKind.wrap .i64 (4 + 1) = 5 := rfl
theorem w56 : IntKind.wrap .i64 (5 + 1) = 6 := rfl
theorem w67 : IntKind.wrap .i64 (6 + 1) = 7 := rfl
theorem x1 : IntKind.wrap .i64 1 = 1 := rfl
theorem x2 : IntKind.wrap .i64 2 = 2 := rfl
theorem x3 : IntKind.wrap .i64 3 = 3 := rfl
theorem x4 : IntKind.wrap .i64 4 = 4 := rfl
theorem x5 : IntKind.wrap .i64 5 = 5 := rfl
theorem x6 : IntKind.wrap .i64 6 = 6 := rfl
theorem x7 : IntKind.wrap .i64 7 = 7 := rfl

def rowsO0 : List Row := [] ++ rowsPD
theorem rowsO0_ok : ∀ p ∈ rowsO0, RowOk Try.prog p := fun p h => by
  simp only [rowsO0, List.mem_append, List.mem_cons, List.not_mem_nil, or_false, false_or, or_assoc] at h
  rcases h with h
  · exact rowsPD_ok p h
theorem okO0 : (ctx Try.prog rowsO0).ok := rows_ok rowsO0_ok
theorem O0_60 : tabC rowsO0 60 = fun _ => none := rfl
theorem O0_22 : tabC rowsO0 22 = row3 shC shM shI fun c m w => some (lv c m w) := rfl
theorem O0_29 : tabC rowsO0 29 = row3 shC shM shF fun c m f => if inUb f.x = true then some (sv (pStep c m f)) else none := rfl
theorem O0_34 : tabC rowsO0 34 = row1 shC fun c => some (ms (zeros (lSize c).toNat)) := rfl
theorem O0_24 : tabC rowsO0 24 = row3 shM shI shF fun l room f => some (ov (fOnce l room f)) := rfl
theorem O0_25 : tabC rowsO0 25 = row3 shC shM shF fun c m f => some (sv (pStep c m f)) := rfl
theorem O0_70 : tabC rowsO0 70 = row2 shC shI fun c w => some (iv (lBottom c w)) := rfl
theorem O0_74 : tabC rowsO0 74 = row3 shC shI shN fun c w x => if inUb x = true then some (iv (lSlot c w x)) else none := rfl
theorem O0_59 : tabC rowsO0 59 = row5 shC shM shF shI shI fun c m f op pcs => some (bv (goes c m f op pcs)) := rfl
theorem O0_68 : tabC rowsO0 68 = row5 shC shM shF shI shI fun c m f op pcs => some (bv (goes c m f op pcs)) := rfl
theorem O0_55 : tabC rowsO0 55 = fun _ => none := rfl
theorem O0_56 : tabC rowsO0 56 = fun _ => none := rfl
theorem O0_57 : tabC rowsO0 57 = fun _ => none := rfl
theorem O0_58 : tabC rowsO0 58 = fun _ => none := rfl
theorem O0_28 : tabC rowsO0 28 = row1 shM fun m => some (ms m) := rfl
theorem O0_76 : tabC rowsO0 76 = row4 shM shI shN shN fun m i v w => some (.tup [ms (mCas m i v w), bv (mCasB m i v)]) := rfl
theorem O0_46 : tabC rowsO0 46 = row2 shM shI fun m i => some (u (mLoad m i)) := rfl
theorem O0_61 : tabC rowsO0 61 = row3 shM shI shN fun m i v => some (ms (mStore m i v)) := rfl
theorem O0_63 : tabC rowsO0 63 = row4 shM shI shN shN fun m i v w => some (.tup [ms (mCas m i v w), bv (mCasB m i v)]) := rfl
theorem O0_69 : tabC rowsO0 69 = row2 shM shI fun m i => some (u (mLoad m i)) := rfl
theorem O0_17 : tabC rowsO0 17 = row2 shM shM fun a b => some (bv (decide (a = b))) := rfl
theorem O0_73 : tabC rowsO0 73 = row3 shM shI shN fun m i v => some (ms (mStore m i v)) := rfl
theorem O0_43 : tabC rowsO0 43 = row1 shC fun c => some (iv (lSize c)) := rfl
theorem O0_45 : tabC rowsO0 45 = row1 shC fun c => some (iv (lSize c)) := rfl
theorem O0_47 : tabC rowsO0 47 = row2 shC shI fun c w => some (iv (lTop c w)) := rfl
theorem O0_48 : tabC rowsO0 48 = row2 shC shI fun c w => some (iv (lBottom c w)) := rfl
theorem O0_50 : tabC rowsO0 50 = row3 shC shI shN fun c w x => some (iv (lSlot c w x)) := rfl
theorem O0_71 : tabC rowsO0 71 = row2 shC shI fun c w => some (iv (lTop c w)) := rfl
theorem O0_33 : tabC rowsO0 33 = row1 shC fun c => some (bv (mayC c)) := rfl
theorem O0_49 : tabC rowsO0 49 = row2 shN shN fun a b => some (iv (far a b)) := rfl
theorem O0_39 : tabC rowsO0 39 = row1 shC fun c => some (bv (mayC c)) := rfl
theorem O0_75 : tabC rowsO0 75 = row2 shN shN fun a b => some (iv (far a b)) := rfl
theorem O0_80 : tabC rowsO0 80 = row2 shC shI fun c w => if mayC c = true ∧ 0 ≤ w ∧ w ≤ 8 then some (iv (lBase c w)) else none := rfl
theorem O0_82 : tabC rowsO0 82 = fun _ => none := rfl
theorem O0_83 : tabC rowsO0 83 = fun _ => none := rfl
theorem O0_84 : tabC rowsO0 84 = fun _ => none := rfl
theorem O0_85 : tabC rowsO0 85 = fun _ => none := rfl
theorem O0_77 : tabC rowsO0 77 = fun _ => none := rfl
theorem O0_42 : tabC rowsO0 42 = row1 shF fun f => some (bv (f.res != 0)) := rfl
theorem O0_72 : tabC rowsO0 72 = row3 shF shI shN fun f r v => some (fv (fEnd f r v)) := rfl
theorem O0_23 : tabC rowsO0 23 = row3 shI shI shN fun o w v => some (fv (fBegin o w v)) := rfl
theorem O0_20 : tabC rowsO0 20 = row1 shF fun f => some (bv (f.res != 0)) := rfl
theorem O0_62 : tabC rowsO0 62 = row3 shF shI shN fun f r v => some (fv (fEnd f r v)) := rfl
theorem O0_52 : tabC rowsO0 52 = fun _ => none := rfl
theorem O0_53 : tabC rowsO0 53 = fun _ => none := rfl
theorem O0_54 : tabC rowsO0 54 = fun _ => none := rfl
theorem O0_51 : tabC rowsO0 51 = fun _ => none := rfl
theorem O0_all : type_of% (And.intro O0_60 <| And.intro O0_22 <| And.intro O0_29 <| And.intro O0_34 <| And.intro O0_24 <| And.intro O0_25 <| And.intro O0_70 <| And.intro O0_74 <| And.intro O0_59 <| And.intro O0_68 <| And.intro O0_55 <| And.intro O0_56 <| And.intro O0_57 <| And.intro O0_58 <| And.intro O0_28 <| And.intro O0_76 <| And.intro O0_46 <| And.intro O0_61 <| And.intro O0_63 <| And.intro O0_69 <| And.intro O0_17 <| And.intro O0_73 <| And.intro O0_43 <| And.intro O0_45 <| And.intro O0_47 <| And.intro O0_48 <| And.intro O0_50 <| And.intro O0_71 <| And.intro O0_33 <| And.intro O0_49 <| And.intro O0_39 <| And.intro O0_75 <| And.intro O0_80 <| And.intro O0_82 <| And.intro O0_83 <| And.intro O0_84 <| And.intro O0_85 <| And.intro O0_77 <| And.intro O0_42 <| And.intro O0_72 <| And.intro O0_23 <| And.intro O0_20 <| And.intro O0_62 <| And.intro O0_52 <| And.intro O0_53 <| And.intro O0_54 <| O0_51) := And.intro O0_60 <| And.intro O0_22 <| And.intro O0_29 <| And.intro O0_34 <| And.intro O0_24 <| And.intro O0_25 <| And.intro O0_70 <| And.intro O0_74 <| And.intro O0_59 <| And.intro O0_68 <| And.intro O0_55 <| And.intro O0_56 <| And.intro O0_57 <| And.intro O0_58 <| And.intro O0_28 <| And.intro O0_76 <| And.intro O0_46 <| And.intro O0_61 <| And.intro O0_63 <| And.intro O0_69 <| And.intro O0_17 <| And.intro O0_73 <| And.intro O0_43 <| And.intro O0_45 <| And.intro O0_47 <| And.intro O0_48 <| And.intro O0_50 <| And.intro O0_71 <| And.intro O0_33 <| And.intro O0_49 <| And.intro O0_39 <| And.intro O0_75 <| And.intro O0_80 <| And.intro O0_82 <| And.intro O0_83 <| And.intro O0_84 <| And.intro O0_85 <| And.intro O0_77 <| And.intro O0_42 <| And.intro O0_72 <| And.intro O0_23 <| And.intro O0_20 <| And.intro O0_62 <| And.intro O0_52 <| And.intro O0_53 <| And.intro O0_54 <| O0_51

theorem ostep_pure (c : Cf) (m : List Int) (f : Fr) (hm : m.length ≤ 1000) : PureC Try.prog 26 [cv' c, ms m, fv f] (sv (oStep c m f)) := by
  refine pure_sub okO0 1 Try.func26 rfl (by show 3 ≤ _; decide) ?_
  cases hg : goes c m f 1 7 with
  | false =>
    rw [oStep_no hg]
    simp only [Try.f26, O0_all, hg, hm, r_scpG, r_ngR, r_ngN, scopeG, findLabel, inl, fv, sv, lv, ov, fBegin, fEnd, r_rounds, hfree_fr, hfree_cf, cv', cf_eta, frz_u, shC_dec, dC, T23, T28, T25, hfree_lu, hfree_l0, row0, row1, row2, row3, row4, row5, shI_dec, shN_dec, shB_dec, shM_dec, dI, dN, dB, dM, dU, dU_map, iv, bv, u, ms, ctx_T, ctx_C, ctx_P, T4, T3, T26, Option.bind_some, Option.bind_none, Option.map_some, List.length_map, List.length_set, String.reduceBEq, Int.toNat_natCast, Bool.true_beq, Bool.false_beq, T24, shF_dec, dF, fr_eta, ev1, ev2, implies_true, undef, stepP, drawB, stepL, lateB, lateB0, rdsT, rdsAny, isRd, afterL, preB, callLB, callLV, lateV, dstV, dynCall, ↓condE_t, ↓condE_f, ↓guardE_tt, ↓guardE_ff, ↓guardE_tf, ↓guardE_ft, frzDeep, deepArgs, deepArg, resB, cv, stepB, stepE, callD, tabD, snapD, snap1, snapC, snapId, snapIds, guardB, guardC, dstAt, aopR, one, pre, binR, intOpR, shiftOpR, unR, argFrm, evo, lkp, hlk, lenOf, asLst, idOf, bndA, srcOk, ofVal, ofCells, setCells, fillA, setElems, fieldsOf, fieldsEq, scalEq, isEq, AV.wr, AV.ok1, TK.agg, frz, frzs, frzA, frzArg, frzArgs, subA, subL, sub1, kp, kh, accOf, List.replicate, Nat.reduceAdd, Nat.reduceSub, Nat.reduceMul, Nat.reduceEqDiff, Nat.reduceLT, Nat.reduceLeDiff, Nat.reduceBEq, reduceIte, reduceCtorEq, eq_self, ne_eq, Int.reduceToNat, Int.reduceLT, Int.reduceLE, Int.reduceGT, Int.reduceGE, Int.reduceBEq, Int.reduceBNe, Int.reduceEq, Int.reduceNe]
    all_goals ((repeat' apply And.intro) <;> first | rfl | omega | (show entryOk _ _ _ _ _ = true; kernel_rfl) | (show pivotOk _ _ = true; kernel_rfl) | decide)
  | true =>
    have hu : ∀ x, IntKind.wrap .u64 x = wrapU x := fun _ => rfl
    obtain ⟨hl, hres, hop, h0, h1⟩ := goes_iff.1 hg
    obtain ⟨op, pc, who, val, x, y, res⟩ := f
    dsimp only at h0 h1
    have hpc : pc = 0 ∨ pc = 1 ∨ pc = 2 ∨ pc = 3 ∨ pc = 4 ∨ pc = 5 ∨ pc = 6 := by omega
    unfold oStep
    rw [if_pos hg]
    rcases hpc with rfl | rfl | rfl | rfl | rfl | rfl | rfl
    · skip
      simp only [Try.f26, Try.func60, Try.f60, O0_all, hg, hm, hu, w01, w12, w23, w34, w45, w56, w67, len_store, len_cas, fEnd, r_scpG, r_ngR, r_ngN, scopeG, findLabel, inl, fv, sv, lv, ov, fBegin, fEnd, r_rounds, hfree_fr, hfree_cf, cv', cf_eta, frz_u, shC_dec, dC, T23, T28, T25, hfree_lu, hfree_l0, row0, row1, row2, row3, row4, row5, shI_dec, shN_dec, shB_dec, shM_dec, dI, dN, dB, dM, dU, dU_map, iv, bv, u, ms, ctx_T, ctx_C, ctx_P, T4, T3, T26, Option.bind_some, Option.bind_none, Option.map_some, List.length_map, List.length_set, String.reduceBEq, Int.toNat_natCast, Bool.true_beq, Bool.false_beq, T24, shF_dec, dF, fr_eta, ev1, ev2, implies_true, undef, stepP, drawB, stepL, lateB, lateB0, rdsT, rdsAny, isRd, afterL, preB, callLB, callLV, lateV, dstV, dynCall, ↓condE_t, ↓condE_f, ↓guardE_tt, ↓guardE_ff, ↓guardE_tf, ↓guardE_ft, frzDeep, deepArgs, deepArg, resB, cv, stepB, stepE, callD, tabD, snapD, snap1, snapC, snapId, snapIds, guardB, guardC, dstAt, aopR, one, pre, binR, intOpR, shiftOpR, unR, argFrm, evo, lkp, hlk, lenOf, asLst, idOf, bndA, srcOk, ofVal, ofCells, setCells, fillA, setElems, fieldsOf, fieldsEq, scalEq, isEq, AV.wr, AV.ok1, TK.agg, frz, frzs, frzA, frzArg, frzArgs, subA, subL, sub1, kp, kh, accOf, List.replicate, Nat.reduceAdd, Nat.reduceSub, Nat.reduceMul, Nat.reduceEqDiff, Nat.reduceLT, Nat.reduceLeDiff, Nat.reduceBEq, reduceIte, reduceCtorEq, eq_self, ne_eq, Int.reduceToNat, Int.reduceLT, Int.reduceLE, Int.reduceGT, Int.reduceGE, Int.reduceBEq, Int.reduceBNe, Int.reduceEq, Int.reduceNe]
      repeat' apply And.intro
      all_goals first | rfl | omega | (show entryOk _ _ _ _ _ = true; kernel_rfl) | (refine WP.of okO0 1 (by rfl) ?_)
      all_goals (simp only [O0_all, hg, hm, hu, w01, w12, w23, w34, w45, w56, w67, len_store, len_cas, fEnd, r_scpG, r_ngR, r_ngN, scopeG, findLabel, inl, fv, sv, lv, ov, fBegin, fEnd, r_rounds, hfree_fr, hfree_cf, cv', cf_eta, frz_u, shC_dec, dC, T23, T28, T25, hfree_lu, hfree_l0, row0, row1, row2, row3, row4, row5, shI_dec, shN_dec, shB_dec, shM_dec, dI, dN, dB, dM, dU, dU_map, iv, bv, u, ms, ctx_T, ctx_C, ctx_P, T4, T3, T26, Option.bind_some, Option.bind_none, Option.map_some, List.length_map, List.length_set, String.reduceBEq, Int.toNat_natCast, Bool.true_beq, Bool.false_beq, T24, shF_dec, dF, fr_eta, ev1, ev2, implies_true, undef, stepP, drawB, stepL, lateB, lateB0, rdsT, rdsAny, isRd, afterL, preB, callLB, callLV, lateV, dstV, dynCall, ↓condE_t, ↓condE_f, ↓guardE_tt, ↓guardE_ff, ↓guardE_tf, ↓guardE_ft, frzDeep, deepArgs, deepArg, resB, cv, stepB, stepE, callD, tabD, snapD, snap1, snapC, snapId, snapIds, guardB, guardC, dstAt, aopR, one, pre, binR, intOpR, shiftOpR, unR, argFrm, evo, lkp, hlk, lenOf, asLst, idOf, bndA, srcOk, ofVal, ofCells, setCells, fillA, setElems, fieldsOf, fieldsEq, scalEq, isEq, AV.wr, AV.ok1, TK.agg, frz, frzs, frzA, frzArg, frzArgs, subA, subL, sub1, kp, kh, accOf, List.replicate, Nat.reduceAdd, Nat.reduceSub, Nat.reduceMul, Nat.reduceEqDiff, Nat.reduceLT, Nat.reduceLeDiff, Nat.reduceBEq, reduceIte, reduceCtorEq, eq_self, ne_eq, Int.reduceToNat, Int.reduceLT, Int.reduceLE, Int.reduceGT, Int.reduceGE, Int.reduceBEq, Int.reduceBNe, Int.reduceEq, Int.reduceNe]; all_goals ((repeat' apply And.intro) <;> first | rfl | omega | (show entryOk _ _ _ _ _ = true; kernel_rfl) | (show pivotOk _ _ = true; kernel_rfl) | decide))
    · skip
      simp only [Try.f26, Try.func60, Try.f60, O0_all, hg, hm, hu, w01, w12, w23, w34, w45, w56, w67, len_store, len_cas, fEnd, r_scpG, r_ngR, r_ngN, scopeG, findLabel, inl, fv, sv, lv, ov, fBegin, fEnd, r_rounds, hfree_fr, hfree_cf, cv', cf_eta, frz_u, shC_dec, dC, T23, T28, T25, hfree_lu, hfree_l0, row0, row1, row2, row3, row4, row5, shI_dec, shN_dec, shB_dec, shM_dec, dI, dN, dB, dM, dU, dU_map, iv, bv, u, ms, ctx_T, ctx_C, ctx_P, T4, T3, T26, Option.bind_some, Option.bind_none, Option.map_some, List.length_map, List.length_set, String.reduceBEq, Int.toNat_natCast, Bool.true_beq, Bool.false_beq, T24, shF_dec, dF, fr_eta, ev1, ev2, implies_true, undef, stepP, drawB, stepL, lateB, lateB0, rdsT, rdsAny, isRd, afterL, preB, callLB, callLV, lateV, dstV, dynCall, ↓condE_t, ↓condE_f, ↓guardE_tt, ↓guardE_ff, ↓guardE_tf, ↓guardE_ft, frzDeep, deepArgs, deepArg, resB, cv, stepB, stepE, callD, tabD, snapD, snap1, snapC, snapId, snapIds, guardB, guardC, dstAt, aopR, one, pre, binR, intOpR, shiftOpR, unR, argFrm, evo, lkp, hlk, lenOf, asLst, idOf, bndA, srcOk, ofVal, ofCells, setCells, fillA, setElems, fieldsOf, fieldsEq, scalEq, isEq, AV.wr, AV.ok1, TK.agg, frz, frzs, frzA, frzArg, frzArgs, subA, subL, sub1, kp, kh, accOf, List.replicate, Nat.reduceAdd, Nat.reduceSub, Nat.reduceMul, Nat.reduceEqDiff, Nat.reduceLT, Nat.reduceLeDiff, Nat.reduceBEq, reduceIte, reduceCtorEq, eq_self, ne_eq, Int.reduceToNat, Int.reduceLT, Int.reduceLE, Int.reduceGT, Int.reduceGE, Int.reduceBEq, Int.reduceBNe, Int.reduceEq, Int.reduceNe]
      repeat' apply And.intro
      all_goals first | rfl | omega | (show entryOk _ _ _ _ _ = true; kernel_rfl) | (refine WP.of okO0 1 (by rfl) ?_)
      all_goals (simp only [O0_all, hg, hm, hu, w01, w12, w23, w34, w45, w56, w67, len_store, len_cas, fEnd, r_scpG, r_ngR, r_ngN, scopeG, findLabel, inl, fv, sv, lv, ov, fBegin, fEnd, r_rounds, hfree_fr, hfree_cf, cv', cf_eta, frz_u, shC_dec, dC, T23, T28, T25, hfree_lu, hfree_l0, row0, row1, row2, row3, row4, row5, shI_dec, shN_dec, shB_dec, shM_dec, dI, dN, dB, dM, dU, dU_map, iv, bv, u, ms, ctx_T, ctx_C, ctx_P, T4, T3, T26, Option.bind_some, Option.bind_none, Option.map_some, List.length_map, List.length_set, String.reduceBEq, Int.toNat_natCast, Bool.true_beq, Bool.false_beq, T24, shF_dec, dF, fr_eta, ev1, ev2, implies_true, undef, stepP, drawB, stepL, lateB, lateB0, rdsT, rdsAny, isRd, afterL, preB, callLB, callLV, lateV, dstV, dynCall, ↓condE_t, ↓condE_f, ↓guardE_tt, ↓guardE_ff, ↓guardE_tf, ↓guardE_ft, frzDeep, deepArgs, deepArg, resB, cv, stepB, stepE, callD, tabD, snapD, snap1, snapC, snapId, snapIds, guardB, guardC, dstAt, aopR, one, pre, binR, intOpR, shiftOpR, unR, argFrm, evo, lkp, hlk, lenOf, asLst, idOf, bndA, srcOk, ofVal, ofCells, setCells, fillA, setElems, fieldsOf, fieldsEq, scalEq, isEq, AV.wr, AV.ok1, TK.agg, frz, frzs, frzA, frzArg, frzArgs, subA, subL, sub1, kp, kh, accOf, List.replicate, Nat.reduceAdd, Nat.reduceSub, Nat.reduceMul, Nat.reduceEqDiff, Nat.reduceLT, Nat.reduceLeDiff, Nat.reduceBEq, reduceIte, reduceCtorEq, eq_self, ne_eq, Int.reduceToNat, Int.reduceLT, Int.reduceLE, Int.reduceGT, Int.reduceGE, Int.reduceBEq, Int.reduceBNe, Int.reduceEq, Int.reduceNe]; all_goals ((repeat' apply And.intro) <;> first | rfl | omega | (show entryOk _ _ _ _ _ = true; kernel_rfl) | (show pivotOk _ _ = true; kernel_rfl) | decide))
    · by_cases q : far x (mLoad m (lTop c who)) < 0
      · skip
        simp only [Try.f26, Try.func60, Try.f60, O0_all, hg, hm, hu, w01, w12, w23, w34, w45, w56, w67, len_store, len_cas, q, fEnd, r_scpG, r_ngR, r_ngN, scopeG, findLabel, inl, fv, sv, lv, ov, fBegin, fEnd, r_rounds, hfree_fr, hfree_cf, cv', cf_eta, frz_u, shC_dec, dC, T23, T28, T25, hfree_lu, hfree_l0, row0, row1, row2, row3, row4, row5, shI_dec, shN_dec, shB_dec, shM_dec, dI, dN, dB, dM, dU, dU_map, iv, bv, u, ms, ctx_T, ctx_C, ctx_P, T4, T3, T26, Option.bind_some, Option.bind_none, Option.map_some, List.length_map, List.length_set, String.reduceBEq, Int.toNat_natCast, Bool.true_beq, Bool.false_beq, T24, shF_dec, dF, fr_eta, ev1, ev2, implies_true, undef, stepP, drawB, stepL, lateB, lateB0, rdsT, rdsAny, isRd, afterL, preB, callLB, callLV, lateV, dstV, dynCall, ↓condE_t, ↓condE_f, ↓guardE_tt, ↓guardE_ff, ↓guardE_tf, ↓guardE_ft, frzDeep, deepArgs, deepArg, resB, cv, stepB, stepE, callD, tabD, snapD, snap1, snapC, snapId, snapIds, guardB, guardC, dstAt, aopR, one, pre, binR, intOpR, shiftOpR, unR, argFrm, evo, lkp, hlk, lenOf, asLst, idOf, bndA, srcOk, ofVal, ofCells, setCells, fillA, setElems, fieldsOf, fieldsEq, scalEq, isEq, AV.wr, AV.ok1, TK.agg, frz, frzs, frzA, frzArg, frzArgs, subA, subL, sub1, kp, kh, accOf, List.replicate, Nat.reduceAdd, Nat.reduceSub, Nat.reduceMul, Nat.reduceEqDiff, Nat.reduceLT, Nat.reduceLeDiff, Nat.reduceBEq, reduceIte, reduceCtorEq, eq_self, ne_eq, Int.reduceToNat, Int.reduceLT, Int.reduceLE, Int.reduceGT, Int.reduceGE, Int.reduceBEq, Int.reduceBNe, Int.reduceEq, Int.reduceNe]
        repeat' apply And.intro
        all_goals first | rfl | omega | (show entryOk _ _ _ _ _ = true; kernel_rfl) | (refine WP.of okO0 1 (by rfl) ?_)
        all_goals (simp only [O0_all, hg, hm, hu, w01, w12, w23, w34, w45, w56, w67, len_store, len_cas, q, fEnd, r_scpG, r_ngR, r_ngN, scopeG, findLabel, inl, fv, sv, lv, ov, fBegin, fEnd, r_rounds, hfree_fr, hfree_cf, cv', cf_eta, frz_u, shC_dec, dC, T23, T28, T25, hfree_lu, hfree_l0, row0, row1, row2, row3, row4, row5, shI_dec, shN_dec, shB_dec, shM_dec, dI, dN, dB, dM, dU, dU_map, iv, bv, u, ms, ctx_T, ctx_C, ctx_P, T4, T3, T26, Option.bind_some, Option.bind_none, Option.map_some, List.length_map, List.length_set, String.reduceBEq, Int.toNat_natCast, Bool.true_beq, Bool.false_beq, T24, shF_dec, dF, fr_eta, ev1, ev2, implies_true, undef, stepP, drawB, stepL, lateB, lateB0, rdsT, rdsAny, isRd, afterL, preB, callLB, callLV, lateV, dstV, dynCall, ↓condE_t, ↓condE_f, ↓guardE_tt, ↓guardE_ff, ↓guardE_tf, ↓guardE_ft, frzDeep, deepArgs, deepArg, resB, cv, stepB, stepE, callD, tabD, snapD, snap1, snapC, snapId, snapIds, guardB, guardC, dstAt, aopR, one, pre, binR, intOpR, shiftOpR, unR, argFrm, evo, lkp, hlk, lenOf, asLst, idOf, bndA, srcOk, ofVal, ofCells, setCells, fillA, setElems, fieldsOf, fieldsEq, scalEq, isEq, AV.wr, AV.ok1, TK.agg, frz, frzs, frzA, frzArg, frzArgs, subA, subL, sub1, kp, kh, accOf, List.replicate, Nat.reduceAdd, Nat.reduceSub, Nat.reduceMul, Nat.reduceEqDiff, Nat.reduceLT, Nat.reduceLeDiff, Nat.reduceBEq, reduceIte, reduceCtorEq, eq_self, ne_eq, Int.reduceToNat, Int.reduceLT, Int.reduceLE, Int.reduceGT, Int.reduceGE, Int.reduceBEq, Int.reduceBNe, Int.reduceEq, Int.reduceNe]; all_goals ((repeat' apply And.intro) <;> first | rfl | omega | (show entryOk _ _ _ _ _ = true; kernel_rfl) | (show pivotOk _ _ = true; kernel_rfl) | decide))
      · skip
        simp only [Try.f26, Try.func60, Try.f60, O0_all, hg, hm, hu, w01, w12, w23, w34, w45, w56, w67, len_store, len_cas, q, fEnd, r_scpG, r_ngR, r_ngN, scopeG, findLabel, inl, fv, sv, lv, ov, fBegin, fEnd, r_rounds, hfree_fr, hfree_cf, cv', cf_eta, frz_u, shC_dec, dC, T23, T28, T25, hfree_lu, hfree_l0, row0, row1, row2, row3, row4, row5, shI_dec, shN_dec, shB_dec, shM_dec, dI, dN, dB, dM, dU, dU_map, iv, bv, u, ms, ctx_T, ctx_C, ctx_P, T4, T3, T26, Option.bind_some, Option.bind_none, Option.map_some, List.length_map, List.length_set, String.reduceBEq, Int.toNat_natCast, Bool.true_beq, Bool.false_beq, T24, shF_dec, dF, fr_eta, ev1, ev2, implies_true, undef, stepP, drawB, stepL, lateB, lateB0, rdsT, rdsAny, isRd, afterL, preB, callLB, callLV, lateV, dstV, dynCall, ↓condE_t, ↓condE_f, ↓guardE_tt, ↓guardE_ff, ↓guardE_tf, ↓guardE_ft, frzDeep, deepArgs, deepArg, resB, cv, stepB, stepE, callD, tabD, snapD, snap1, snapC, snapId, snapIds, guardB, guardC, dstAt, aopR, one, pre, binR, intOpR, shiftOpR, unR, argFrm, evo, lkp, hlk, lenOf, asLst, idOf, bndA, srcOk, ofVal, ofCells, setCells, fillA, setElems, fieldsOf, fieldsEq, scalEq, isEq, AV.wr, AV.ok1, TK.agg, frz, frzs, frzA, frzArg, frzArgs, subA, subL, sub1, kp, kh, accOf, List.replicate, Nat.reduceAdd, Nat.reduceSub, Nat.reduceMul, Nat.reduceEqDiff, Nat.reduceLT, Nat.reduceLeDiff, Nat.reduceBEq, reduceIte, reduceCtorEq, eq_self, ne_eq, Int.reduceToNat, Int.reduceLT, Int.reduceLE, Int.reduceGT, Int.reduceGE, Int.reduceBEq, Int.reduceBNe, Int.reduceEq, Int.reduceNe]
        repeat' apply And.intro
        all_goals first | rfl | omega | (show entryOk _ _ _ _ _ = true; kernel_rfl) | (refine WP.of okO0 1 (by rfl) ?_)
        all_goals (simp only [O0_all, hg, hm, hu, w01, w12, w23, w34, w45, w56, w67, len_store, len_cas, q, fEnd, r_scpG, r_ngR, r_ngN, scopeG, findLabel, inl, fv, sv, lv, ov, fBegin, fEnd, r_rounds, hfree_fr, hfree_cf, cv', cf_eta, frz_u, shC_dec, dC, T23, T28, T25, hfree_lu, hfree_l0, row0, row1, row2, row3, row4, row5, shI_dec, shN_dec, shB_dec, shM_dec, dI, dN, dB, dM, dU, dU_map, iv, bv, u, ms, ctx_T, ctx_C, ctx_P, T4, T3, T26, Option.bind_some, Option.bind_none, Option.map_some, List.length_map, List.length_set, String.reduceBEq, Int.toNat_natCast, Bool.true_beq, Bool.false_beq, T24, shF_dec, dF, fr_eta, ev1, ev2, implies_true, undef, stepP, drawB, stepL, lateB, lateB0, rdsT, rdsAny, isRd, afterL, preB, callLB, callLV, lateV, dstV, dynCall, ↓condE_t, ↓condE_f, ↓guardE_tt, ↓guardE_ff, ↓guardE_tf, ↓guardE_ft, frzDeep, deepArgs, deepArg, resB, cv, stepB, stepE, callD, tabD, snapD, snap1, snapC, snapId, snapIds, guardB, guardC, dstAt, aopR, one, pre, binR, intOpR, shiftOpR, unR, argFrm, evo, lkp, hlk, lenOf, asLst, idOf, bndA, srcOk, ofVal, ofCells, setCells, fillA, setElems, fieldsOf, fieldsEq, scalEq, isEq, AV.wr, AV.ok1, TK.agg, frz, frzs, frzA, frzArg, frzArgs, subA, subL, sub1, kp, kh, accOf, List.replicate, Nat.reduceAdd, Nat.reduceSub, Nat.reduceMul, Nat.reduceEqDiff, Nat.reduceLT, Nat.reduceLeDiff, Nat.reduceBEq, reduceIte, reduceCtorEq, eq_self, ne_eq, Int.reduceToNat, Int.reduceLT, Int.reduceLE, Int.reduceGT, Int.reduceGE, Int.reduceBEq, Int.reduceBNe, Int.reduceEq, Int.reduceNe]; all_goals ((repeat' apply And.intro) <;> first | rfl | omega | (show entryOk _ _ _ _ _ = true; kernel_rfl) | (show pivotOk _ _ = true; kernel_rfl) | decide))
    · by_cases q : x = y
      · subst q
        simp only [Try.f26, Try.func60, Try.f60, O0_all, hg, hm, hu, w01, w12, w23, w34, w45, w56, w67, len_store, len_cas, bne_self_eq_false, fEnd, r_scpG, r_ngR, r_ngN, scopeG, findLabel, inl, fv, sv, lv, ov, fBegin, fEnd, r_rounds, hfree_fr, hfree_cf, cv', cf_eta, frz_u, shC_dec, dC, T23, T28, T25, hfree_lu, hfree_l0, row0, row1, row2, row3, row4, row5, shI_dec, shN_dec, shB_dec, shM_dec, dI, dN, dB, dM, dU, dU_map, iv, bv, u, ms, ctx_T, ctx_C, ctx_P, T4, T3, T26, Option.bind_some, Option.bind_none, Option.map_some, List.length_map, List.length_set, String.reduceBEq, Int.toNat_natCast, Bool.true_beq, Bool.false_beq, T24, shF_dec, dF, fr_eta, ev1, ev2, implies_true, undef, stepP, drawB, stepL, lateB, lateB0, rdsT, rdsAny, isRd, afterL, preB, callLB, callLV, lateV, dstV, dynCall, ↓condE_t, ↓condE_f, ↓guardE_tt, ↓guardE_ff, ↓guardE_tf, ↓guardE_ft, frzDeep, deepArgs, deepArg, resB, cv, stepB, stepE, callD, tabD, snapD, snap1, snapC, snapId, snapIds, guardB, guardC, dstAt, aopR, one, pre, binR, intOpR, shiftOpR, unR, argFrm, evo, lkp, hlk, lenOf, asLst, idOf, bndA, srcOk, ofVal, ofCells, setCells, fillA, setElems, fieldsOf, fieldsEq, scalEq, isEq, AV.wr, AV.ok1, TK.agg, frz, frzs, frzA, frzArg, frzArgs, subA, subL, sub1, kp, kh, accOf, List.replicate, Nat.reduceAdd, Nat.reduceSub, Nat.reduceMul, Nat.reduceEqDiff, Nat.reduceLT, Nat.reduceLeDiff, Nat.reduceBEq, reduceIte, reduceCtorEq, eq_self, ne_eq, Int.reduceToNat, Int.reduceLT, Int.reduceLE, Int.reduceGT, Int.reduceGE, Int.reduceBEq, Int.reduceBNe, Int.reduceEq, Int.reduceNe]
        repeat' apply And.intro
        all_goals first | rfl | omega | (show entryOk _ _ _ _ _ = true; kernel_rfl) | (refine WP.of okO0 1 (by rfl) ?_)
        all_goals (simp only [O0_all, hg, hm, hu, w01, w12, w23, w34, w45, w56, w67, len_store, len_cas, bne_self_eq_false, fEnd, r_scpG, r_ngR, r_ngN, scopeG, findLabel, inl, fv, sv, lv, ov, fBegin, fEnd, r_rounds, hfree_fr, hfree_cf, cv', cf_eta, frz_u, shC_dec, dC, T23, T28, T25, hfree_lu, hfree_l0, row0, row1, row2, row3, row4, row5, shI_dec, shN_dec, shB_dec, shM_dec, dI, dN, dB, dM, dU, dU_map, iv, bv, u, ms, ctx_T, ctx_C, ctx_P, T4, T3, T26, Option.bind_some, Option.bind_none, Option.map_some, List.length_map, List.length_set, String.reduceBEq, Int.toNat_natCast, Bool.true_beq, Bool.false_beq, T24, shF_dec, dF, fr_eta, ev1, ev2, implies_true, undef, stepP, drawB, stepL, lateB, lateB0, rdsT, rdsAny, isRd, afterL, preB, callLB, callLV, lateV, dstV, dynCall, ↓condE_t, ↓condE_f, ↓guardE_tt, ↓guardE_ff, ↓guardE_tf, ↓guardE_ft, frzDeep, deepArgs, deepArg, resB, cv, stepB, stepE, callD, tabD, snapD, snap1, snapC, snapId, snapIds, guardB, guardC, dstAt, aopR, one, pre, binR, intOpR, shiftOpR, unR, argFrm, evo, lkp, hlk, lenOf, asLst, idOf, bndA, srcOk, ofVal, ofCells, setCells, fillA, setElems, fieldsOf, fieldsEq, scalEq, isEq, AV.wr, AV.ok1, TK.agg, frz, frzs, frzA, frzArg, frzArgs, subA, subL, sub1, kp, kh, accOf, List.replicate, Nat.reduceAdd, Nat.reduceSub, Nat.reduceMul, Nat.reduceEqDiff, Nat.reduceLT, Nat.reduceLeDiff, Nat.reduceBEq, reduceIte, reduceCtorEq, eq_self, ne_eq, Int.reduceToNat, Int.reduceLT, Int.reduceLE, Int.reduceGT, Int.reduceGE, Int.reduceBEq, Int.reduceBNe, Int.reduceEq, Int.reduceNe]; all_goals ((repeat' apply And.intro) <;> first | rfl | omega | (show entryOk _ _ _ _ _ = true; kernel_rfl) | (show pivotOk _ _ = true; kernel_rfl) | decide))
      · have q1 : (x != y) = true := by simpa using q
        simp only [Try.f26, Try.func60, Try.f60, O0_all, hg, hm, hu, w01, w12, w23, w34, w45, w56, w67, len_store, len_cas, q, q1, fEnd, r_scpG, r_ngR, r_ngN, scopeG, findLabel, inl, fv, sv, lv, ov, fBegin, fEnd, r_rounds, hfree_fr, hfree_cf, cv', cf_eta, frz_u, shC_dec, dC, T23, T28, T25, hfree_lu, hfree_l0, row0, row1, row2, row3, row4, row5, shI_dec, shN_dec, shB_dec, shM_dec, dI, dN, dB, dM, dU, dU_map, iv, bv, u, ms, ctx_T, ctx_C, ctx_P, T4, T3, T26, Option.bind_some, Option.bind_none, Option.map_some, List.length_map, List.length_set, String.reduceBEq, Int.toNat_natCast, Bool.true_beq, Bool.false_beq, T24, shF_dec, dF, fr_eta, ev1, ev2, implies_true, undef, stepP, drawB, stepL, lateB, lateB0, rdsT, rdsAny, isRd, afterL, preB, callLB, callLV, lateV, dstV, dynCall, ↓condE_t, ↓condE_f, ↓guardE_tt, ↓guardE_ff, ↓guardE_tf, ↓guardE_ft, frzDeep, deepArgs, deepArg, resB, cv, stepB, stepE, callD, tabD, snapD, snap1, snapC, snapId, snapIds, guardB, guardC, dstAt, aopR, one, pre, binR, intOpR, shiftOpR, unR, argFrm, evo, lkp, hlk, lenOf, asLst, idOf, bndA, srcOk, ofVal, ofCells, setCells, fillA, setElems, fieldsOf, fieldsEq, scalEq, isEq, AV.wr, AV.ok1, TK.agg, frz, frzs, frzA, frzArg, frzArgs, subA, subL, sub1, kp, kh, accOf, List.replicate, Nat.reduceAdd, Nat.reduceSub, Nat.reduceMul, Nat.reduceEqDiff, Nat.reduceLT, Nat.reduceLeDiff, Nat.reduceBEq, reduceIte, reduceCtorEq, eq_self, ne_eq, Int.reduceToNat, Int.reduceLT, Int.reduceLE, Int.reduceGT, Int.reduceGE, Int.reduceBEq, Int.reduceBNe, Int.reduceEq, Int.reduceNe]
        repeat' apply And.intro
        all_goals first | rfl | omega | (show entryOk _ _ _ _ _ = true; kernel_rfl) | (refine WP.of okO0 1 (by rfl) ?_)
        all_goals (simp only [O0_all, hg, hm, hu, w01, w12, w23, w34, w45, w56, w67, len_store, len_cas, q, q1, fEnd, r_scpG, r_ngR, r_ngN, scopeG, findLabel, inl, fv, sv, lv, ov, fBegin, fEnd, r_rounds, hfree_fr, hfree_cf, cv', cf_eta, frz_u, shC_dec, dC, T23, T28, T25, hfree_lu, hfree_l0, row0, row1, row2, row3, row4, row5, shI_dec, shN_dec, shB_dec, shM_dec, dI, dN, dB, dM, dU, dU_map, iv, bv, u, ms, ctx_T, ctx_C, ctx_P, T4, T3, T26, Option.bind_some, Option.bind_none, Option.map_some, List.length_map, List.length_set, String.reduceBEq, Int.toNat_natCast, Bool.true_beq, Bool.false_beq, T24, shF_dec, dF, fr_eta, ev1, ev2, implies_true, undef, stepP, drawB, stepL, lateB, lateB0, rdsT, rdsAny, isRd, afterL, preB, callLB, callLV, lateV, dstV, dynCall, ↓condE_t, ↓condE_f, ↓guardE_tt, ↓guardE_ff, ↓guardE_tf, ↓guardE_ft, frzDeep, deepArgs, deepArg, resB, cv, stepB, stepE, callD, tabD, snapD, snap1, snapC, snapId, snapIds, guardB, guardC, dstAt, aopR, one, pre, binR, intOpR, shiftOpR, unR, argFrm, evo, lkp, hlk, lenOf, asLst, idOf, bndA, srcOk, ofVal, ofCells, setCells, fillA, setElems, fieldsOf, fieldsEq, scalEq, isEq, AV.wr, AV.ok1, TK.agg, frz, frzs, frzA, frzArg, frzArgs, subA, subL, sub1, kp, kh, accOf, List.replicate, Nat.reduceAdd, Nat.reduceSub, Nat.reduceMul, Nat.reduceEqDiff, Nat.reduceLT, Nat.reduceLeDiff, Nat.reduceBEq, reduceIte, reduceCtorEq, eq_self, ne_eq, Int.reduceToNat, Int.reduceLT, Int.reduceLE, Int.reduceGT, Int.reduceGE, Int.reduceBEq, Int.reduceBNe, Int.reduceEq, Int.reduceNe]; all_goals ((repeat' apply And.intro) <;> first | rfl | omega | (show entryOk _ _ _ _ _ = true; kernel_rfl) | (show pivotOk _ _ = true; kernel_rfl) | decide))
    · cases q : mCasB m (lTop c who) y with
      | true =>
        simp only [Try.f26, Try.func60, Try.f60, O0_all, hg, hm, hu, w01, w12, w23, w34, w45, w56, w67, len_store, len_cas, q, fEnd, r_scpG, r_ngR, r_ngN, scopeG, findLabel, inl, fv, sv, lv, ov, fBegin, fEnd, r_rounds, hfree_fr, hfree_cf, cv', cf_eta, frz_u, shC_dec, dC, T23, T28, T25, hfree_lu, hfree_l0, row0, row1, row2, row3, row4, row5, shI_dec, shN_dec, shB_dec, shM_dec, dI, dN, dB, dM, dU, dU_map, iv, bv, u, ms, ctx_T, ctx_C, ctx_P, T4, T3, T26, Option.bind_some, Option.bind_none, Option.map_some, List.length_map, List.length_set, String.reduceBEq, Int.toNat_natCast, Bool.true_beq, Bool.false_beq, T24, shF_dec, dF, fr_eta, ev1, ev2, implies_true, undef, stepP, drawB, stepL, lateB, lateB0, rdsT, rdsAny, isRd, afterL, preB, callLB, callLV, lateV, dstV, dynCall, ↓condE_t, ↓condE_f, ↓guardE_tt, ↓guardE_ff, ↓guardE_tf, ↓guardE_ft, frzDeep, deepArgs, deepArg, resB, cv, stepB, stepE, callD, tabD, snapD, snap1, snapC, snapId, snapIds, guardB, guardC, dstAt, aopR, one, pre, binR, intOpR, shiftOpR, unR, argFrm, evo, lkp, hlk, lenOf, asLst, idOf, bndA, srcOk, ofVal, ofCells, setCells, fillA, setElems, fieldsOf, fieldsEq, scalEq, isEq, AV.wr, AV.ok1, TK.agg, frz, frzs, frzA, frzArg, frzArgs, subA, subL, sub1, kp, kh, accOf, List.replicate, Nat.reduceAdd, Nat.reduceSub, Nat.reduceMul, Nat.reduceEqDiff, Nat.reduceLT, Nat.reduceLeDiff, Nat.reduceBEq, reduceIte, reduceCtorEq, eq_self, ne_eq, Int.reduceToNat, Int.reduceLT, Int.reduceLE, Int.reduceGT, Int.reduceGE, Int.reduceBEq, Int.reduceBNe, Int.reduceEq, Int.reduceNe]
        repeat' apply And.intro
        all_goals first | rfl | omega | (show entryOk _ _ _ _ _ = true; kernel_rfl) | (refine WP.of okO0 1 (by rfl) ?_)
        all_goals (simp only [O0_all, hg, hm, hu, w01, w12, w23, w34, w45, w56, w67, len_store, len_cas, q, fEnd, r_scpG, r_ngR, r_ngN, scopeG, findLabel, inl, fv, sv, lv, ov, fBegin, fEnd, r_rounds, hfree_fr, hfree_cf, cv', cf_eta, frz_u, shC_dec, dC, T23, T28, T25, hfree_lu, hfree_l0, row0, row1, row2, row3, row4, row5, shI_dec, shN_dec, shB_dec, shM_dec, dI, dN, dB, dM, dU, dU_map, iv, bv, u, ms, ctx_T, ctx_C, ctx_P, T4, T3, T26, Option.bind_some, Option.bind_none, Option.map_some, List.length_map, List.length_set, String.reduceBEq, Int.toNat_natCast, Bool.true_beq, Bool.false_beq, T24, shF_dec, dF, fr_eta, ev1, ev2, implies_true, undef, stepP, drawB, stepL, lateB, lateB0, rdsT, rdsAny, isRd, afterL, preB, callLB, callLV, lateV, dstV, dynCall, ↓condE_t, ↓condE_f, ↓guardE_tt, ↓guardE_ff, ↓guardE_tf, ↓guardE_ft, frzDeep, deepArgs, deepArg, resB, cv, stepB, stepE, callD, tabD, snapD, snap1, snapC, snapId, snapIds, guardB, guardC, dstAt, aopR, one, pre, binR, intOpR, shiftOpR, unR, argFrm, evo, lkp, hlk, lenOf, asLst, idOf, bndA, srcOk, ofVal, ofCells, setCells, fillA, setElems, fieldsOf, fieldsEq, scalEq, isEq, AV.wr, AV.ok1, TK.agg, frz, frzs, frzA, frzArg, frzArgs, subA, subL, sub1, kp, kh, accOf, List.replicate, Nat.reduceAdd, Nat.reduceSub, Nat.reduceMul, Nat.reduceEqDiff, Nat.reduceLT, Nat.reduceLeDiff, Nat.reduceBEq, reduceIte, reduceCtorEq, eq_self, ne_eq, Int.reduceToNat, Int.reduceLT, Int.reduceLE, Int.reduceGT, Int.reduceGE, Int.reduceBEq, Int.reduceBNe, Int.reduceEq, Int.reduceNe]; all_goals ((repeat' apply And.intro) <;> first | rfl | omega | (show entryOk _ _ _ _ _ = true; kernel_rfl) | (show pivotOk _ _ = true; kernel_rfl) | decide))
      | false =>
        simp only [Try.f26, Try.func60, Try.f60, O0_all, hg, hm, hu, w01, w12, w23, w34, w45, w56, w67, len_store, len_cas, q, fEnd, r_scpG, r_ngR, r_ngN, scopeG, findLabel, inl, fv, sv, lv, ov, fBegin, fEnd, r_rounds, hfree_fr, hfree_cf, cv', cf_eta, frz_u, shC_dec, dC, T23, T28, T25, hfree_lu, hfree_l0, row0, row1, row2, row3, row4, row5, shI_dec, shN_dec, shB_dec, shM_dec, dI, dN, dB, dM, dU, dU_map, iv, bv, u, ms, ctx_T, ctx_C, ctx_P, T4, T3, T26, Option.bind_some, Option.bind_none, Option.map_some, List.length_map, List.length_set, String.reduceBEq, Int.toNat_natCast, Bool.true_beq, Bool.false_beq, T24, shF_dec, dF, fr_eta, ev1, ev2, implies_true, undef, stepP, drawB, stepL, lateB, lateB0, rdsT, rdsAny, isRd, afterL, preB, callLB, callLV, lateV, dstV, dynCall, ↓condE_t, ↓condE_f, ↓guardE_tt, ↓guardE_ff, ↓guardE_tf, ↓guardE_ft, frzDeep, deepArgs, deepArg, resB, cv, stepB, stepE, callD, tabD, snapD, snap1, snapC, snapId, snapIds, guardB, guardC, dstAt, aopR, one, pre, binR, intOpR, shiftOpR, unR, argFrm, evo, lkp, hlk, lenOf, asLst, idOf, bndA, srcOk, ofVal, ofCells, setCells, fillA, setElems, fieldsOf, fieldsEq, scalEq, isEq, AV.wr, AV.ok1, TK.agg, frz, frzs, frzA, frzArg, frzArgs, subA, subL, sub1, kp, kh, accOf, List.replicate, Nat.reduceAdd, Nat.reduceSub, Nat.reduceMul, Nat.reduceEqDiff, Nat.reduceLT, Nat.reduceLeDiff, Nat.reduceBEq, reduceIte, reduceCtorEq, eq_self, ne_eq, Int.reduceToNat, Int.reduceLT, Int.reduceLE, Int.reduceGT, Int.reduceGE, Int.reduceBEq, Int.reduceBNe, Int.reduceEq, Int.reduceNe]
        repeat' apply And.intro
        all_goals first | rfl | omega | (show entryOk _ _ _ _ _ = true; kernel_rfl) | (refine WP.of okO0 1 (by rfl) ?_)
        all_goals (simp only [O0_all, hg, hm, hu, w01, w12, w23, w34, w45, w56, w67, len_store, len_cas, q, fEnd, r_scpG, r_ngR, r_ngN, scopeG, findLabel, inl, fv, sv, lv, ov, fBegin, fEnd, r_rounds, hfree_fr, hfree_cf, cv', cf_eta, frz_u, shC_dec, dC, T23, T28, T25, hfree_lu, hfree_l0, row0, row1, row2, row3, row4, row5, shI_dec, shN_dec, shB_dec, shM_dec, dI, dN, dB, dM, dU, dU_map, iv, bv, u, ms, ctx_T, ctx_C, ctx_P, T4, T3, T26, Option.bind_some, Option.bind_none, Option.map_some, List.length_map, List.length_set, String.reduceBEq, Int.toNat_natCast, Bool.true_beq, Bool.false_beq, T24, shF_dec, dF, fr_eta, ev1, ev2, implies_true, undef, stepP, drawB, stepL, lateB, lateB0, rdsT, rdsAny, isRd, afterL, preB, callLB, callLV, lateV, dstV, dynCall, ↓condE_t, ↓condE_f, ↓guardE_tt, ↓guardE_ff, ↓guardE_tf, ↓guardE_ft, frzDeep, deepArgs, deepArg, resB, cv, stepB, stepE, callD, tabD, snapD, snap1, snapC, snapId, snapIds, guardB, guardC, dstAt, aopR, one, pre, binR, intOpR, shiftOpR, unR, argFrm, evo, lkp, hlk, lenOf, asLst, idOf, bndA, srcOk, ofVal, ofCells, setCells, fillA, setElems, fieldsOf, fieldsEq, scalEq, isEq, AV.wr, AV.ok1, TK.agg, frz, frzs, frzA, frzArg, frzArgs, subA, subL, sub1, kp, kh, accOf, List.replicate, Nat.reduceAdd, Nat.reduceSub, Nat.reduceMul, Nat.reduceEqDiff, Nat.reduceLT, Nat.reduceLeDiff, Nat.reduceBEq, reduceIte, reduceCtorEq, eq_self, ne_eq, Int.reduceToNat, Int.reduceLT, Int.reduceLE, Int.reduceGT, Int.reduceGE, Int.reduceBEq, Int.reduceBNe, Int.reduceEq, Int.reduceNe]; all_goals ((repeat' apply And.intro) <;> first | rfl | omega | (show entryOk _ _ _ _ _ = true; kernel_rfl) | (show pivotOk _ _ = true; kernel_rfl) | decide))
    · skip
      simp only [Try.f26, Try.func60, Try.f60, O0_all, hg, hm, hu, w01, w12, w23, w34, w45, w56, w67, len_store, len_cas, fEnd, r_scpG, r_ngR, r_ngN, scopeG, findLabel, inl, fv, sv, lv, ov, fBegin, fEnd, r_rounds, hfree_fr, hfree_cf, cv', cf_eta, frz_u, shC_dec, dC, T23, T28, T25, hfree_lu, hfree_l0, row0, row1, row2, row3, row4, row5, shI_dec, shN_dec, shB_dec, shM_dec, dI, dN, dB, dM, dU, dU_map, iv, bv, u, ms, ctx_T, ctx_C, ctx_P, T4, T3, T26, Option.bind_some, Option.bind_none, Option.map_some, List.length_map, List.length_set, String.reduceBEq, Int.toNat_natCast, Bool.true_beq, Bool.false_beq, T24, shF_dec, dF, fr_eta, ev1, ev2, implies_true, undef, stepP, drawB, stepL, lateB, lateB0, rdsT, rdsAny, isRd, afterL, preB, callLB, callLV, lateV, dstV, dynCall, ↓condE_t, ↓condE_f, ↓guardE_tt, ↓guardE_ff, ↓guardE_tf, ↓guardE_ft, frzDeep, deepArgs, deepArg, resB, cv, stepB, stepE, callD, tabD, snapD, snap1, snapC, snapId, snapIds, guardB, guardC, dstAt, aopR, one, pre, binR, intOpR, shiftOpR, unR, argFrm, evo, lkp, hlk, lenOf, asLst, idOf, bndA, srcOk, ofVal, ofCells, setCells, fillA, setElems, fieldsOf, fieldsEq, scalEq, isEq, AV.wr, AV.ok1, TK.agg, frz, frzs, frzA, frzArg, frzArgs, subA, subL, sub1, kp, kh, accOf, List.replicate, Nat.reduceAdd, Nat.reduceSub, Nat.reduceMul, Nat.reduceEqDiff, Nat.reduceLT, Nat.reduceLeDiff, Nat.reduceBEq, reduceIte, reduceCtorEq, eq_self, ne_eq, Int.reduceToNat, Int.reduceLT, Int.reduceLE, Int.reduceGT, Int.reduceGE, Int.reduceBEq, Int.reduceBNe, Int.reduceEq, Int.reduceNe]
      repeat' apply And.intro
      all_goals first | rfl | omega | (show entryOk _ _ _ _ _ = true; kernel_rfl) | (refine WP.of okO0 1 (by rfl) ?_)
      all_goals (simp only [O0_all, hg, hm, hu, w01, w12, w23, w34, w45, w56, w67, len_store, len_cas, fEnd, r_scpG, r_ngR, r_ngN, scopeG, findLabel, inl, fv, sv, lv, ov, fBegin, fEnd, r_rounds, hfree_fr, hfree_cf, cv', cf_eta, frz_u, shC_dec, dC, T23, T28, T25, hfree_lu, hfree_l0, row0, row1, row2, row3, row4, row5, shI_dec, shN_dec, shB_dec, shM_dec, dI, dN, dB, dM, dU, dU_map, iv, bv, u, ms, ctx_T, ctx_C, ctx_P, T4, T3, T26, Option.bind_some, Option.bind_none, Option.map_some, List.length_map, List.length_set, String.reduceBEq, Int.toNat_natCast, Bool.true_beq, Bool.false_beq, T24, shF_dec, dF, fr_eta, ev1, ev2, implies_true, undef, stepP, drawB, stepL, lateB, lateB0, rdsT, rdsAny, isRd, afterL, preB, callLB, callLV, lateV, dstV, dynCall, ↓condE_t, ↓condE_f, ↓guardE_tt, ↓guardE_ff, ↓guardE_tf, ↓guardE_ft, frzDeep, deepArgs, deepArg, resB, cv, stepB, stepE, callD, tabD, snapD, snap1, snapC, snapId, snapIds, guardB, guardC, dstAt, aopR, one, pre, binR, intOpR, shiftOpR, unR, argFrm, evo, lkp, hlk, lenOf, asLst, idOf, bndA, srcOk, ofVal, ofCells, setCells, fillA, setElems, fieldsOf, fieldsEq, scalEq, isEq, AV.wr, AV.ok1, TK.agg, frz, frzs, frzA, frzArg, frzArgs, subA, subL, sub1, kp, kh, accOf, List.replicate, Nat.reduceAdd, Nat.reduceSub, Nat.reduceMul, Nat.reduceEqDiff, Nat.reduceLT, Nat.reduceLeDiff, Nat.reduceBEq, reduceIte, reduceCtorEq, eq_self, ne_eq, Int.reduceToNat, Int.reduceLT, Int.reduceLE, Int.reduceGT, Int.reduceGE, Int.reduceBEq, Int.reduceBNe, Int.reduceEq, Int.reduceNe]; all_goals ((repeat' apply And.intro) <;> first | rfl | omega | (show entryOk _ _ _ _ _ = true; kernel_rfl) | (show pivotOk _ _ = true; kernel_rfl) | decide))
    · skip
      simp only [Try.f26, Try.func60, Try.f60, O0_all, hg, hm, hu, w01, w12, w23, w34, w45, w56, w67, len_store, len_cas, fEnd, r_scpG, r_ngR, r_ngN, scopeG, findLabel, inl, fv, sv, lv, ov, fBegin, fEnd, r_rounds, hfree_fr, hfree_cf, cv', cf_eta, frz_u, shC_dec, dC, T23, T28, T25, hfree_lu, hfree_l0, row0, row1, row2, row3, row4, row5, shI_dec, shN_dec, shB_dec, shM_dec, dI, dN, dB, dM, dU, dU_map, iv, bv, u, ms, ctx_T, ctx_C, ctx_P, T4, T3, T26, Option.bind_some, Option.bind_none, Option.map_some, List.length_map, List.length_set, String.reduceBEq, Int.toNat_natCast, Bool.true_beq, Bool.false_beq, T24, shF_dec, dF, fr_eta, ev1, ev2, implies_true, undef, stepP, drawB, stepL, lateB, lateB0, rdsT, rdsAny, isRd, afterL, preB, callLB, callLV, lateV, dstV, dynCall, ↓condE_t, ↓condE_f, ↓guardE_tt, ↓guardE_ff, ↓guardE_tf, ↓guardE_ft, frzDeep, deepArgs, deepArg, resB, cv, stepB, stepE, callD, tabD, snapD, snap1, snapC, snapId, snapIds, guardB, guardC, dstAt, aopR, one, pre, binR, intOpR, shiftOpR, unR, argFrm, evo, lkp, hlk, lenOf, asLst, idOf, bndA, srcOk, ofVal, ofCells, setCells, fillA, setElems, fieldsOf, fieldsEq, scalEq, isEq, AV.wr, AV.ok1, TK.agg, frz, frzs, frzA, frzArg, frzArgs, subA, subL, sub1, kp, kh, accOf, List.replicate, Nat.reduceAdd, Nat.reduceSub, Nat.reduceMul, Nat.reduceEqDiff, Nat.reduceLT, Nat.reduceLeDiff, Nat.reduceBEq, reduceIte, reduceCtorEq, eq_self, ne_eq, Int.reduceToNat, Int.reduceLT, Int.reduceLE, Int.reduceGT, Int.reduceGE, Int.reduceBEq, Int.reduceBNe, Int.reduceEq, Int.reduceNe]
      repeat' apply And.intro
      all_goals first | rfl | omega | (show entryOk _ _ _ _ _ = true; kernel_rfl) | (refine WP.of okO0 1 (by rfl) ?_)
      all_goals (simp only [O0_all, hg, hm, hu, w01, w12, w23, w34, w45, w56, w67, len_store, len_cas, fEnd, r_scpG, r_ngR, r_ngN, scopeG, findLabel, inl, fv, sv, lv, ov, fBegin, fEnd, r_rounds, hfree_fr, hfree_cf, cv', cf_eta, frz_u, shC_dec, dC, T23, T28, T25, hfree_lu, hfree_l0, row0, row1, row2, row3, row4, row5, shI_dec, shN_dec, shB_dec, shM_dec, dI, dN, dB, dM, dU, dU_map, iv, bv, u, ms, ctx_T, ctx_C, ctx_P, T4, T3, T26, Option.bind_some, Option.bind_none, Option.map_some, List.length_map, List.length_set, String.reduceBEq, Int.toNat_natCast, Bool.true_beq, Bool.false_beq, T24, shF_dec, dF, fr_eta, ev1, ev2, implies_true, undef, stepP, drawB, stepL, lateB, lateB0, rdsT, rdsAny, isRd, afterL, preB, callLB, callLV, lateV, dstV, dynCall, ↓condE_t, ↓condE_f, ↓guardE_tt, ↓guardE_ff, ↓guardE_tf, ↓guardE_ft, frzDeep, deepArgs, deepArg, resB, cv, stepB, stepE, callD, tabD, snapD, snap1, snapC, snapId, snapIds, guardB, guardC, dstAt, aopR, one, pre, binR, intOpR, shiftOpR, unR, argFrm, evo, lkp, hlk, lenOf, asLst, idOf, bndA, srcOk, ofVal, ofCells, setCells, fillA, setElems, fieldsOf, fieldsEq, scalEq, isEq, AV.wr, AV.ok1, TK.agg, frz, frzs, frzA, frzArg, frzArgs, subA, subL, sub1, kp, kh, accOf, List.replicate, Nat.reduceAdd, Nat.reduceSub, Nat.reduceMul, Nat.reduceEqDiff, Nat.reduceLT, Nat.reduceLeDiff, Nat.reduceBEq, reduceIte, reduceCtorEq, eq_self, ne_eq, Int.reduceToNat, Int.reduceLT, Int.reduceLE, Int.reduceGT, Int.reduceGE, Int.reduceBEq, Int.reduceBNe, Int.reduceEq, Int.reduceNe]; all_goals ((repeat' apply And.intro) <;> first | rfl | omega | (show entryOk _ _ _ _ _ = true; kernel_rfl) | (show pivotOk _ _ = true; kernel_rfl) | decide))
end Go.Vai
/- Popping: the document's step; the table. -/
namespace Go.Vai
open Go.RowKit Go.Proofs
set_option linter.unusedSimpArgs false
set_option linter.unusedVariables false
set_option maxHeartbeats 4000000
set_option maxRecDepth 100000

theorem rostep_pure (c : Cf) (m : List Int) (f : Fr) (hm : m.length ≤ 1000) (hx : inUb f.x = true) : PureC Try.prog 30 [cv' c, ms m, fv f] (sv (oStep c m f)) := by
  refine pure_sub okPD 1 Try.func30 rfl (by show 3 ≤ _; decide) ?_
  cases hg : goes c m f 1 7 with
  | false =>
    rw [oStep_no hg]
    simp only [Try.f30, PD_all, hg, hm, inl, fv, sv, lv, ov, fBegin, fEnd, r_rounds, hfree_fr, hfree_cf, cv', cf_eta, frz_u, shC_dec, dC, T23, T28, T25, hfree_lu, hfree_l0, row0, row1, row2, row3, row4, row5, shI_dec, shN_dec, shB_dec, shM_dec, dI, dN, dB, dM, dU, dU_map, iv, bv, u, ms, ctx_T, ctx_C, ctx_P, T4, T3, T26, Option.bind_some, Option.bind_none, Option.map_some, List.length_map, List.length_set, String.reduceBEq, Int.toNat_natCast, Bool.true_beq, Bool.false_beq, T24, shF_dec, dF, fr_eta, ev1, ev2, implies_true, undef, stepP, drawB, stepL, lateB, lateB0, rdsT, rdsAny, isRd, afterL, preB, callLB, callLV, lateV, dstV, dynCall, ↓condE_t, ↓condE_f, ↓guardE_tt, ↓guardE_ff, ↓guardE_tf, ↓guardE_ft, frzDeep, deepArgs, deepArg, resB, cv, stepB, stepE, callD, tabD, snapD, snap1, snapC, snapId, snapIds, guardB, guardC, dstAt, aopR, one, pre, binR, intOpR, shiftOpR, unR, argFrm, evo, lkp, hlk, lenOf, asLst, idOf, bndA, srcOk, ofVal, ofCells, setCells, fillA, setElems, fieldsOf, fieldsEq, scalEq, isEq, AV.wr, AV.ok1, TK.agg, frz, frzs, frzA, frzArg, frzArgs, subA, subL, sub1, kp, kh, accOf, List.replicate, Nat.reduceAdd, Nat.reduceSub, Nat.reduceMul, Nat.reduceEqDiff, Nat.reduceLT, Nat.reduceLeDiff, Nat.reduceBEq, reduceIte, reduceCtorEq, eq_self, ne_eq, Int.reduceToNat, Int.reduceLT, Int.reduceLE, Int.reduceGT, Int.reduceGE, Int.reduceBEq, Int.reduceBNe, Int.reduceEq, Int.reduceNe]
    all_goals ((repeat' apply And.intro) <;> first | rfl | omega | (show entryOk _ _ _ _ _ = true; kernel_rfl) | (show pivotOk _ _ = true; kernel_rfl) | decide)
  | true =>
    have hu : ∀ x, IntKind.wrap .u64 x = wrapU x := fun _ => rfl
    obtain ⟨hl, hres, hop, h0, h1⟩ := goes_iff.1 hg
    obtain ⟨op, pc, who, val, x, y, res⟩ := f
    dsimp only at h0 h1 hx
    have hpc : pc = 0 ∨ pc = 1 ∨ pc = 2 ∨ pc = 3 ∨ pc = 4 ∨ pc = 5 ∨ pc = 6 := by omega
    unfold oStep
    rw [if_pos hg]
    rcases hpc with rfl | rfl | rfl | rfl | rfl | rfl | rfl
    · skip
      simp only [Try.f30, PD_all, hg, hm, hu, hx, w01, w12, w23, w34, w45, w56, w67, len_store, len_cas, fEnd, inl, fv, sv, lv, ov, fBegin, fEnd, r_rounds, hfree_fr, hfree_cf, cv', cf_eta, frz_u, shC_dec, dC, T23, T28, T25, hfree_lu, hfree_l0, row0, row1, row2, row3, row4, row5, shI_dec, shN_dec, shB_dec, shM_dec, dI, dN, dB, dM, dU, dU_map, iv, bv, u, ms, ctx_T, ctx_C, ctx_P, T4, T3, T26, Option.bind_some, Option.bind_none, Option.map_some, List.length_map, List.length_set, String.reduceBEq, Int.toNat_natCast, Bool.true_beq, Bool.false_beq, T24, shF_dec, dF, fr_eta, ev1, ev2, implies_true, undef, stepP, drawB, stepL, lateB, lateB0, rdsT, rdsAny, isRd, afterL, preB, callLB, callLV, lateV, dstV, dynCall, ↓condE_t, ↓condE_f, ↓guardE_tt, ↓guardE_ff, ↓guardE_tf, ↓guardE_ft, frzDeep, deepArgs, deepArg, resB, cv, stepB, stepE, callD, tabD, snapD, snap1, snapC, snapId, snapIds, guardB, guardC, dstAt, aopR, one, pre, binR, intOpR, shiftOpR, unR, argFrm, evo, lkp, hlk, lenOf, asLst, idOf, bndA, srcOk, ofVal, ofCells, setCells, fillA, setElems, fieldsOf, fieldsEq, scalEq, isEq, AV.wr, AV.ok1, TK.agg, frz, frzs, frzA, frzArg, frzArgs, subA, subL, sub1, kp, kh, accOf, List.replicate, Nat.reduceAdd, Nat.reduceSub, Nat.reduceMul, Nat.reduceEqDiff, Nat.reduceLT, Nat.reduceLeDiff, Nat.reduceBEq, reduceIte, reduceCtorEq, eq_self, ne_eq, Int.reduceToNat, Int.reduceLT, Int.reduceLE, Int.reduceGT, Int.reduceGE, Int.reduceBEq, Int.reduceBNe, Int.reduceEq, Int.reduceNe]
      all_goals ((repeat' apply And.intro) <;> first | rfl | omega | (show entryOk _ _ _ _ _ = true; kernel_rfl) | (show pivotOk _ _ = true; kernel_rfl) | decide)
    · skip
      simp only [Try.f30, PD_all, hg, hm, hu, hx, w01, w12, w23, w34, w45, w56, w67, len_store, len_cas, fEnd, inl, fv, sv, lv, ov, fBegin, fEnd, r_rounds, hfree_fr, hfree_cf, cv', cf_eta, frz_u, shC_dec, dC, T23, T28, T25, hfree_lu, hfree_l0, row0, row1, row2, row3, row4, row5, shI_dec, shN_dec, shB_dec, shM_dec, dI, dN, dB, dM, dU, dU_map, iv, bv, u, ms, ctx_T, ctx_C, ctx_P, T4, T3, T26, Option.bind_some, Option.bind_none, Option.map_some, List.length_map, List.length_set, String.reduceBEq, Int.toNat_natCast, Bool.true_beq, Bool.false_beq, T24, shF_dec, dF, fr_eta, ev1, ev2, implies_true, undef, stepP, drawB, stepL, lateB, lateB0, rdsT, rdsAny, isRd, afterL, preB, callLB, callLV, lateV, dstV, dynCall, ↓condE_t, ↓condE_f, ↓guardE_tt, ↓guardE_ff, ↓guardE_tf, ↓guardE_ft, frzDeep, deepArgs, deepArg, resB, cv, stepB, stepE, callD, tabD, snapD, snap1, snapC, snapId, snapIds, guardB, guardC, dstAt, aopR, one, pre, binR, intOpR, shiftOpR, unR, argFrm, evo, lkp, hlk, lenOf, asLst, idOf, bndA, srcOk, ofVal, ofCells, setCells, fillA, setElems, fieldsOf, fieldsEq, scalEq, isEq, AV.wr, AV.ok1, TK.agg, frz, frzs, frzA, frzArg, frzArgs, subA, subL, sub1, kp, kh, accOf, List.replicate, Nat.reduceAdd, Nat.reduceSub, Nat.reduceMul, Nat.reduceEqDiff, Nat.reduceLT, Nat.reduceLeDiff, Nat.reduceBEq, reduceIte, reduceCtorEq, eq_self, ne_eq, Int.reduceToNat, Int.reduceLT, Int.reduceLE, Int.reduceGT, Int.reduceGE, Int.reduceBEq, Int.reduceBNe, Int.reduceEq, Int.reduceNe]
      all_goals ((repeat' apply And.intro) <;> first | rfl | omega | (show entryOk _ _ _ _ _ = true; kernel_rfl) | (show pivotOk _ _ = true; kernel_rfl) | decide)
    · by_cases q : far x (mLoad m (lTop c who)) < 0
      · skip
        simp only [Try.f30, PD_all, hg, hm, hu, hx, w01, w12, w23, w34, w45, w56, w67, len_store, len_cas, q, fEnd, inl, fv, sv, lv, ov, fBegin, fEnd, r_rounds, hfree_fr, hfree_cf, cv', cf_eta, frz_u, shC_dec, dC, T23, T28, T25, hfree_lu, hfree_l0, row0, row1, row2, row3, row4, row5, shI_dec, shN_dec, shB_dec, shM_dec, dI, dN, dB, dM, dU, dU_map, iv, bv, u, ms, ctx_T, ctx_C, ctx_P, T4, T3, T26, Option.bind_some, Option.bind_none, Option.map_some, List.length_map, List.length_set, String.reduceBEq, Int.toNat_natCast, Bool.true_beq, Bool.false_beq, T24, shF_dec, dF, fr_eta, ev1, ev2, implies_true, undef, stepP, drawB, stepL, lateB, lateB0, rdsT, rdsAny, isRd, afterL, preB, callLB, callLV, lateV, dstV, dynCall, ↓condE_t, ↓condE_f, ↓guardE_tt, ↓guardE_ff, ↓guardE_tf, ↓guardE_ft, frzDeep, deepArgs, deepArg, resB, cv, stepB, stepE, callD, tabD, snapD, snap1, snapC, snapId, snapIds, guardB, guardC, dstAt, aopR, one, pre, binR, intOpR, shiftOpR, unR, argFrm, evo, lkp, hlk, lenOf, asLst, idOf, bndA, srcOk, ofVal, ofCells, setCells, fillA, setElems, fieldsOf, fieldsEq, scalEq, isEq, AV.wr, AV.ok1, TK.agg, frz, frzs, frzA, frzArg, frzArgs, subA, subL, sub1, kp, kh, accOf, List.replicate, Nat.reduceAdd, Nat.reduceSub, Nat.reduceMul, Nat.reduceEqDiff, Nat.reduceLT, Nat.reduceLeDiff, Nat.reduceBEq, reduceIte, reduceCtorEq, eq_self, ne_eq, Int.reduceToNat, Int.reduceLT, Int.reduceLE, Int.reduceGT, Int.reduceGE, Int.reduceBEq, Int.reduceBNe, Int.reduceEq, Int.reduceNe]
        all_goals ((repeat' apply And.intro) <;> first | rfl | omega | (show entryOk _ _ _ _ _ = true; kernel_rfl) | (show pivotOk _ _ = true; kernel_rfl) | decide)
      · skip
        simp only [Try.f30, PD_all, hg, hm, hu, hx, w01, w12, w23, w34, w45, w56, w67, len_store, len_cas, q, fEnd, inl, fv, sv, lv, ov, fBegin, fEnd, r_rounds, hfree_fr, hfree_cf, cv', cf_eta, frz_u, shC_dec, dC, T23, T28, T25, hfree_lu, hfree_l0, row0, row1, row2, row3, row4, row5, shI_dec, shN_dec, shB_dec, shM_dec, dI, dN, dB, dM, dU, dU_map, iv, bv, u, ms, ctx_T, ctx_C, ctx_P, T4, T3, T26, Option.bind_some, Option.bind_none, Option.map_some, List.length_map, List.length_set, String.reduceBEq, Int.toNat_natCast, Bool.true_beq, Bool.false_beq, T24, shF_dec, dF, fr_eta, ev1, ev2, implies_true, undef, stepP, drawB, stepL, lateB, lateB0, rdsT, rdsAny, isRd, afterL, preB, callLB, callLV, lateV, dstV, dynCall, ↓condE_t, ↓condE_f, ↓guardE_tt, ↓guardE_ff, ↓guardE_tf, ↓guardE_ft, frzDeep, deepArgs, deepArg, resB, cv, stepB, stepE, callD, tabD, snapD, snap1, snapC, snapId, snapIds, guardB, guardC, dstAt, aopR, one, pre, binR, intOpR, shiftOpR, unR, argFrm, evo, lkp, hlk, lenOf, asLst, idOf, bndA, srcOk, ofVal, ofCells, setCells, fillA, setElems, fieldsOf, fieldsEq, scalEq, isEq, AV.wr, AV.ok1, TK.agg, frz, frzs, frzA, frzArg, frzArgs, subA, subL, sub1, kp, kh, accOf, List.replicate, Nat.reduceAdd, Nat.reduceSub, Nat.reduceMul, Nat.reduceEqDiff, Nat.reduceLT, Nat.reduceLeDiff, Nat.reduceBEq, reduceIte, reduceCtorEq, eq_self, ne_eq, Int.reduceToNat, Int.reduceLT, Int.reduceLE, Int.reduceGT, Int.reduceGE, Int.reduceBEq, Int.reduceBNe, Int.reduceEq, Int.reduceNe]
        all_goals ((repeat' apply And.intro) <;> first | rfl | omega | (show entryOk _ _ _ _ _ = true; kernel_rfl) | (show pivotOk _ _ = true; kernel_rfl) | decide)
    · by_cases q : x = y
      · subst q
        simp only [Try.f30, PD_all, hg, hm, hu, hx, w01, w12, w23, w34, w45, w56, w67, len_store, len_cas, bne_self_eq_false, fEnd, inl, fv, sv, lv, ov, fBegin, fEnd, r_rounds, hfree_fr, hfree_cf, cv', cf_eta, frz_u, shC_dec, dC, T23, T28, T25, hfree_lu, hfree_l0, row0, row1, row2, row3, row4, row5, shI_dec, shN_dec, shB_dec, shM_dec, dI, dN, dB, dM, dU, dU_map, iv, bv, u, ms, ctx_T, ctx_C, ctx_P, T4, T3, T26, Option.bind_some, Option.bind_none, Option.map_some, List.length_map, List.length_set, String.reduceBEq, Int.toNat_natCast, Bool.true_beq, Bool.false_beq, T24, shF_dec, dF, fr_eta, ev1, ev2, implies_true, undef, stepP, drawB, stepL, lateB, lateB0, rdsT, rdsAny, isRd, afterL, preB, callLB, callLV, lateV, dstV, dynCall, ↓condE_t, ↓condE_f, ↓guardE_tt, ↓guardE_ff, ↓guardE_tf, ↓guardE_ft, frzDeep, deepArgs, deepArg, resB, cv, stepB, stepE, callD, tabD, snapD, snap1, snapC, snapId, snapIds, guardB, guardC, dstAt, aopR, one, pre, binR, intOpR, shiftOpR, unR, argFrm, evo, lkp, hlk, lenOf, asLst, idOf, bndA, srcOk, ofVal, ofCells, setCells, fillA, setElems, fieldsOf, fieldsEq, scalEq, isEq, AV.wr, AV.ok1, TK.agg, frz, frzs, frzA, frzArg, frzArgs, subA, subL, sub1, kp, kh, accOf, List.replicate, Nat.reduceAdd, Nat.reduceSub, Nat.reduceMul, Nat.reduceEqDiff, Nat.reduceLT, Nat.reduceLeDiff, Nat.reduceBEq, reduceIte, reduceCtorEq, eq_self, ne_eq, Int.reduceToNat, Int.reduceLT, Int.reduceLE, Int.reduceGT, Int.reduceGE, Int.reduceBEq, Int.reduceBNe, Int.reduceEq, Int.reduceNe]
        all_goals ((repeat' apply And.intro) <;> first | rfl | omega | (show entryOk _ _ _ _ _ = true; kernel_rfl) | (show pivotOk _ _ = true; kernel_rfl) | decide)
      · have q1 : (x != y) = true := by simpa using q
        simp only [Try.f30, PD_all, hg, hm, hu, hx, w01, w12, w23, w34, w45, w56, w67, len_store, len_cas, q, q1, fEnd, inl, fv, sv, lv, ov, fBegin, fEnd, r_rounds, hfree_fr, hfree_cf, cv', cf_eta, frz_u, shC_dec, dC, T23, T28, T25, hfree_lu, hfree_l0, row0, row1, row2, row3, row4, row5, shI_dec, shN_dec, shB_dec, shM_dec, dI, dN, dB, dM, dU, dU_map, iv, bv, u, ms, ctx_T, ctx_C, ctx_P, T4, T3, T26, Option.bind_some, Option.bind_none, Option.map_some, List.length_map, List.length_set, String.reduceBEq, Int.toNat_natCast, Bool.true_beq, Bool.false_beq, T24, shF_dec, dF, fr_eta, ev1, ev2, implies_true, undef, stepP, drawB, stepL, lateB, lateB0, rdsT, rdsAny, isRd, afterL, preB, callLB, callLV, lateV, dstV, dynCall, ↓condE_t, ↓condE_f, ↓guardE_tt, ↓guardE_ff, ↓guardE_tf, ↓guardE_ft, frzDeep, deepArgs, deepArg, resB, cv, stepB, stepE, callD, tabD, snapD, snap1, snapC, snapId, snapIds, guardB, guardC, dstAt, aopR, one, pre, binR, intOpR, shiftOpR, unR, argFrm, evo, lkp, hlk, lenOf, asLst, idOf, bndA, srcOk, ofVal, ofCells, setCells, fillA, setElems, fieldsOf, fieldsEq, scalEq, isEq, AV.wr, AV.ok1, TK.agg, frz, frzs, frzA, frzArg, frzArgs, subA, subL, sub1, kp, kh, accOf, List.replicate, Nat.reduceAdd, Nat.reduceSub, Nat.reduceMul, Nat.reduceEqDiff, Nat.reduceLT, Nat.reduceLeDiff, Nat.reduceBEq, reduceIte, reduceCtorEq, eq_self, ne_eq, Int.reduceToNat, Int.reduceLT, Int.reduceLE, Int.reduceGT, Int.reduceGE, Int.reduceBEq, Int.reduceBNe, Int.reduceEq, Int.reduceNe]
        all_goals ((repeat' apply And.intro) <;> first | rfl | omega | (show entryOk _ _ _ _ _ = true; kernel_rfl) | (show pivotOk _ _ = true; kernel_rfl) | decide)
    · cases q : mCasB m (lTop c who) y with
      | true =>
        simp only [Try.f30, PD_all, hg, hm, hu, hx, w01, w12, w23, w34, w45, w56, w67, len_store, len_cas, q, fEnd, inl, fv, sv, lv, ov, fBegin, fEnd, r_rounds, hfree_fr, hfree_cf, cv', cf_eta, frz_u, shC_dec, dC, T23, T28, T25, hfree_lu, hfree_l0, row0, row1, row2, row3, row4, row5, shI_dec, shN_dec, shB_dec, shM_dec, dI, dN, dB, dM, dU, dU_map, iv, bv, u, ms, ctx_T, ctx_C, ctx_P, T4, T3, T26, Option.bind_some, Option.bind_none, Option.map_some, List.length_map, List.length_set, String.reduceBEq, Int.toNat_natCast, Bool.true_beq, Bool.false_beq, T24, shF_dec, dF, fr_eta, ev1, ev2, implies_true, undef, stepP, drawB, stepL, lateB, lateB0, rdsT, rdsAny, isRd, afterL, preB, callLB, callLV, lateV, dstV, dynCall, ↓condE_t, ↓condE_f, ↓guardE_tt, ↓guardE_ff, ↓guardE_tf, ↓guardE_ft, frzDeep, deepArgs, deepArg, resB, cv, stepB, stepE, callD, tabD, snapD, snap1, snapC, snapId, snapIds, guardB, guardC, dstAt, aopR, one, pre, binR, intOpR, shiftOpR, unR, argFrm, evo, lkp, hlk, lenOf, asLst, idOf, bndA, srcOk, ofVal, ofCells, setCells, fillA, setElems, fieldsOf, fieldsEq, scalEq, isEq, AV.wr, AV.ok1, TK.agg, frz, frzs, frzA, frzArg, frzArgs, subA, subL, sub1, kp, kh, accOf, List.replicate, Nat.reduceAdd, Nat.reduceSub, Nat.reduceMul, Nat.reduceEqDiff, Nat.reduceLT, Nat.reduceLeDiff, Nat.reduceBEq, reduceIte, reduceCtorEq, eq_self, ne_eq, Int.reduceToNat, Int.reduceLT, Int.reduceLE, Int.reduceGT, Int.reduceGE, Int.reduceBEq, Int.reduceBNe, Int.reduceEq, Int.reduceNe]
        all_goals ((repeat' apply And.intro) <;> first | rfl | omega | (show entryOk _ _ _ _ _ = true; kernel_rfl) | (show pivotOk _ _ = true; kernel_rfl) | decide)
      | false =>
        simp only [Try.f30, PD_all, hg, hm, hu, hx, w01, w12, w23, w34, w45, w56, w67, len_store, len_cas, q, fEnd, inl, fv, sv, lv, ov, fBegin, fEnd, r_rounds, hfree_fr, hfree_cf, cv', cf_eta, frz_u, shC_dec, dC, T23, T28, T25, hfree_lu, hfree_l0, row0, row1, row2, row3, row4, row5, shI_dec, shN_dec, shB_dec, shM_dec, dI, dN, dB, dM, dU, dU_map, iv, bv, u, ms, ctx_T, ctx_C, ctx_P, T4, T3, T26, Option.bind_some, Option.bind_none, Option.map_some, List.length_map, List.length_set, String.reduceBEq, Int.toNat_natCast, Bool.true_beq, Bool.false_beq, T24, shF_dec, dF, fr_eta, ev1, ev2, implies_true, undef, stepP, drawB, stepL, lateB, lateB0, rdsT, rdsAny, isRd, afterL, preB, callLB, callLV, lateV, dstV, dynCall, ↓condE_t, ↓condE_f, ↓guardE_tt, ↓guardE_ff, ↓guardE_tf, ↓guardE_ft, frzDeep, deepArgs, deepArg, resB, cv, stepB, stepE, callD, tabD, snapD, snap1, snapC, snapId, snapIds, guardB, guardC, dstAt, aopR, one, pre, binR, intOpR, shiftOpR, unR, argFrm, evo, lkp, hlk, lenOf, asLst, idOf, bndA, srcOk, ofVal, ofCells, setCells, fillA, setElems, fieldsOf, fieldsEq, scalEq, isEq, AV.wr, AV.ok1, TK.agg, frz, frzs, frzA, frzArg, frzArgs, subA, subL, sub1, kp, kh, accOf, List.replicate, Nat.reduceAdd, Nat.reduceSub, Nat.reduceMul, Nat.reduceEqDiff, Nat.reduceLT, Nat.reduceLeDiff, Nat.reduceBEq, reduceIte, reduceCtorEq, eq_self, ne_eq, Int.reduceToNat, Int.reduceLT, Int.reduceLE, Int.reduceGT, Int.reduceGE, Int.reduceBEq, Int.reduceBNe, Int.reduceEq, Int.reduceNe]
        all_goals ((repeat' apply And.intro) <;> first | rfl | omega | (show entryOk _ _ _ _ _ = true; kernel_rfl) | (show pivotOk _ _ = true; kernel_rfl) | decide)
    · skip
      simp only [Try.f30, PD_all, hg, hm, hu, hx, w01, w12, w23, w34, w45, w56, w67, len_store, len_cas, fEnd, inl, fv, sv, lv, ov, fBegin, fEnd, r_rounds, hfree_fr, hfree_cf, cv', cf_eta, frz_u, shC_dec, dC, T23, T28, T25, hfree_lu, hfree_l0, row0, row1, row2, row3, row4, row5, shI_dec, shN_dec, shB_dec, shM_dec, dI, dN, dB, dM, dU, dU_map, iv, bv, u, ms, ctx_T, ctx_C, ctx_P, T4, T3, T26, Option.bind_some, Option.bind_none, Option.map_some, List.length_map, List.length_set, String.reduceBEq, Int.toNat_natCast, Bool.true_beq, Bool.false_beq, T24, shF_dec, dF, fr_eta, ev1, ev2, implies_true, undef, stepP, drawB, stepL, lateB, lateB0, rdsT, rdsAny, isRd, afterL, preB, callLB, callLV, lateV, dstV, dynCall, ↓condE_t, ↓condE_f, ↓guardE_tt, ↓guardE_ff, ↓guardE_tf, ↓guardE_ft, frzDeep, deepArgs, deepArg, resB, cv, stepB, stepE, callD, tabD, snapD, snap1, snapC, snapId, snapIds, guardB, guardC, dstAt, aopR, one, pre, binR, intOpR, shiftOpR, unR, argFrm, evo, lkp, hlk, lenOf, asLst, idOf, bndA, srcOk, ofVal, ofCells, setCells, fillA, setElems, fieldsOf, fieldsEq, scalEq, isEq, AV.wr, AV.ok1, TK.agg, frz, frzs, frzA, frzArg, frzArgs, subA, subL, sub1, kp, kh, accOf, List.replicate, Nat.reduceAdd, Nat.reduceSub, Nat.reduceMul, Nat.reduceEqDiff, Nat.reduceLT, Nat.reduceLeDiff, Nat.reduceBEq, reduceIte, reduceCtorEq, eq_self, ne_eq, Int.reduceToNat, Int.reduceLT, Int.reduceLE, Int.reduceGT, Int.reduceGE, Int.reduceBEq, Int.reduceBNe, Int.reduceEq, Int.reduceNe]
      all_goals ((repeat' apply And.intro) <;> first | rfl | omega | (show entryOk _ _ _ _ _ = true; kernel_rfl) | (show pivotOk _ _ = true; kernel_rfl) | decide)
    · skip
      simp only [Try.f30, PD_all, hg, hm, hu, hx, w01, w12, w23, w34, w45, w56, w67, len_store, len_cas, fEnd, inl, fv, sv, lv, ov, fBegin, fEnd, r_rounds, hfree_fr, hfree_cf, cv', cf_eta, frz_u, shC_dec, dC, T23, T28, T25, hfree_lu, hfree_l0, row0, row1, row2, row3, row4, row5, shI_dec, shN_dec, shB_dec, shM_dec, dI, dN, dB, dM, dU, dU_map, iv, bv, u, ms, ctx_T, ctx_C, ctx_P, T4, T3, T26, Option.bind_some, Option.bind_none, Option.map_some, List.length_map, List.length_set, String.reduceBEq, Int.toNat_natCast, Bool.true_beq, Bool.false_beq, T24, shF_dec, dF, fr_eta, ev1, ev2, implies_true, undef, stepP, drawB, stepL, lateB, lateB0, rdsT, rdsAny, isRd, afterL, preB, callLB, callLV, lateV, dstV, dynCall, ↓condE_t, ↓condE_f, ↓guardE_tt, ↓guardE_ff, ↓guardE_tf, ↓guardE_ft, frzDeep, deepArgs, deepArg, resB, cv, stepB, stepE, callD, tabD, snapD, snap1, snapC, snapId, snapIds, guardB, guardC, dstAt, aopR, one, pre, binR, intOpR, shiftOpR, unR, argFrm, evo, lkp, hlk, lenOf, asLst, idOf, bndA, srcOk, ofVal, ofCells, setCells, fillA, setElems, fieldsOf, fieldsEq, scalEq, isEq, AV.wr, AV.ok1, TK.agg, frz, frzs, frzA, frzArg, frzArgs, subA, subL, sub1, kp, kh, accOf, List.replicate, Nat.reduceAdd, Nat.reduceSub, Nat.reduceMul, Nat.reduceEqDiff, Nat.reduceLT, Nat.reduceLeDiff, Nat.reduceBEq, reduceIte, reduceCtorEq, eq_self, ne_eq, Int.reduceToNat, Int.reduceLT, Int.reduceLE, Int.reduceGT, Int.reduceGE, Int.reduceBEq, Int.reduceBNe, Int.reduceEq, Int.reduceNe]
      all_goals ((repeat' apply And.intro) <;> first | rfl | omega | (show entryOk _ _ _ _ _ = true; kernel_rfl) | (show pivotOk _ _ = true; kernel_rfl) | decide)

def rowsO1 : List Row := [
  (26, row3 shC shM shF fun c m f => some (sv (oStep c m f))), 
  (30, row3 shC shM shF fun c m f => if inUb f.x = true then some (sv (oStep c m f)) else none)] ++ rowsPD
theorem rowsO1_ok : ∀ p ∈ rowsO1, RowOk Try.prog p := fun p h => by
  simp only [rowsO1, List.mem_append, List.mem_cons, List.not_mem_nil, or_false, false_or, or_assoc] at h
  rcases h with rfl | rfl | h
  · exact ok_row3 (enters_of Try.func26 (by decide) rfl) fun c m f r _ g _ e => by cases e; exact ostep_pure c m f (shM_got g)
  · exact ok_row3 (enters_of Try.func30 (by decide) rfl) fun c m f r _ g _ e => by obtain ⟨h, rfl⟩ := opt_if e; exact rostep_pure c m f (shM_got g) h
  · exact rowsPD_ok p h
theorem okO1 : (ctx Try.prog rowsO1).ok := rows_ok rowsO1_ok
theorem O1_26 : tabC rowsO1 26 = row3 shC shM shF fun c m f => some (sv (oStep c m f)) := rfl
theorem O1_30 : tabC rowsO1 30 = row3 shC shM shF fun c m f => if inUb f.x = true then some (sv (oStep c m f)) else none := rfl
theorem O1_22 : tabC rowsO1 22 = row3 shC shM shI fun c m w => some (lv c m w) := rfl
theorem O1_29 : tabC rowsO1 29 = row3 shC shM shF fun c m f => if inUb f.x = true then some (sv (pStep c m f)) else none := rfl
theorem O1_34 : tabC rowsO1 34 = row1 shC fun c => some (ms (zeros (lSize c).toNat)) := rfl
theorem O1_24 : tabC rowsO1 24 = row3 shM shI shF fun l room f => some (ov (fOnce l room f)) := rfl
theorem O1_25 : tabC rowsO1 25 = row3 shC shM shF fun c m f => some (sv (pStep c m f)) := rfl
theorem O1_70 : tabC rowsO1 70 = row2 shC shI fun c w => some (iv (lBottom c w)) := rfl
theorem O1_74 : tabC rowsO1 74 = row3 shC shI shN fun c w x => if inUb x = true then some (iv (lSlot c w x)) else none := rfl
theorem O1_59 : tabC rowsO1 59 = row5 shC shM shF shI shI fun c m f op pcs => some (bv (goes c m f op pcs)) := rfl
theorem O1_68 : tabC rowsO1 68 = row5 shC shM shF shI shI fun c m f op pcs => some (bv (goes c m f op pcs)) := rfl
theorem O1_55 : tabC rowsO1 55 = fun _ => none := rfl
theorem O1_56 : tabC rowsO1 56 = fun _ => none := rfl
theorem O1_57 : tabC rowsO1 57 = fun _ => none := rfl
theorem O1_58 : tabC rowsO1 58 = fun _ => none := rfl
theorem O1_28 : tabC rowsO1 28 = row1 shM fun m => some (ms m) := rfl
theorem O1_76 : tabC rowsO1 76 = row4 shM shI shN shN fun m i v w => some (.tup [ms (mCas m i v w), bv (mCasB m i v)]) := rfl
theorem O1_46 : tabC rowsO1 46 = row2 shM shI fun m i => some (u (mLoad m i)) := rfl
theorem O1_61 : tabC rowsO1 61 = row3 shM shI shN fun m i v => some (ms (mStore m i v)) := rfl
theorem O1_63 : tabC rowsO1 63 = row4 shM shI shN shN fun m i v w => some (.tup [ms (mCas m i v w), bv (mCasB m i v)]) := rfl
theorem O1_69 : tabC rowsO1 69 = row2 shM shI fun m i => some (u (mLoad m i)) := rfl
theorem O1_17 : tabC rowsO1 17 = row2 shM shM fun a b => some (bv (decide (a = b))) := rfl
theorem O1_73 : tabC rowsO1 73 = row3 shM shI shN fun m i v => some (ms (mStore m i v)) := rfl
theorem O1_43 : tabC rowsO1 43 = row1 shC fun c => some (iv (lSize c)) := rfl
theorem O1_45 : tabC rowsO1 45 = row1 shC fun c => some (iv (lSize c)) := rfl
theorem O1_47 : tabC rowsO1 47 = row2 shC shI fun c w => some (iv (lTop c w)) := rfl
theorem O1_48 : tabC rowsO1 48 = row2 shC shI fun c w => some (iv (lBottom c w)) := rfl
theorem O1_50 : tabC rowsO1 50 = row3 shC shI shN fun c w x => some (iv (lSlot c w x)) := rfl
theorem O1_71 : tabC rowsO1 71 = row2 shC shI fun c w => some (iv (lTop c w)) := rfl
theorem O1_33 : tabC rowsO1 33 = row1 shC fun c => some (bv (mayC c)) := rfl
theorem O1_49 : tabC rowsO1 49 = row2 shN shN fun a b => some (iv (far a b)) := rfl
theorem O1_39 : tabC rowsO1 39 = row1 shC fun c => some (bv (mayC c)) := rfl
theorem O1_75 : tabC rowsO1 75 = row2 shN shN fun a b => some (iv (far a b)) := rfl
theorem O1_80 : tabC rowsO1 80 = row2 shC shI fun c w => if mayC c = true ∧ 0 ≤ w ∧ w ≤ 8 then some (iv (lBase c w)) else none := rfl
theorem O1_82 : tabC rowsO1 82 = fun _ => none := rfl
theorem O1_83 : tabC rowsO1 83 = fun _ => none := rfl
theorem O1_84 : tabC rowsO1 84 = fun _ => none := rfl
theorem O1_85 : tabC rowsO1 85 = fun _ => none := rfl
theorem O1_77 : tabC rowsO1 77 = fun _ => none := rfl
theorem O1_42 : tabC rowsO1 42 = row1 shF fun f => some (bv (f.res != 0)) := rfl
theorem O1_72 : tabC rowsO1 72 = row3 shF shI shN fun f r v => some (fv (fEnd f r v)) := rfl
theorem O1_23 : tabC rowsO1 23 = row3 shI shI shN fun o w v => some (fv (fBegin o w v)) := rfl
theorem O1_20 : tabC rowsO1 20 = row1 shF fun f => some (bv (f.res != 0)) := rfl
theorem O1_62 : tabC rowsO1 62 = row3 shF shI shN fun f r v => some (fv (fEnd f r v)) := rfl
theorem O1_52 : tabC rowsO1 52 = fun _ => none := rfl
theorem O1_53 : tabC rowsO1 53 = fun _ => none := rfl
theorem O1_54 : tabC rowsO1 54 = fun _ => none := rfl
theorem O1_51 : tabC rowsO1 51 = fun _ => none := rfl
theorem O1_all : type_of% (And.intro O1_26 <| And.intro O1_30 <| And.intro O1_22 <| And.intro O1_29 <| And.intro O1_34 <| And.intro O1_24 <| And.intro O1_25 <| And.intro O1_70 <| And.intro O1_74 <| And.intro O1_59 <| And.intro O1_68 <| And.intro O1_55 <| And.intro O1_56 <| And.intro O1_57 <| And.intro O1_58 <| And.intro O1_28 <| And.intro O1_76 <| And.intro O1_46 <| And.intro O1_61 <| And.intro O1_63 <| And.intro O1_69 <| And.intro O1_17 <| And.intro O1_73 <| And.intro O1_43 <| And.intro O1_45 <| And.intro O1_47 <| And.intro O1_48 <| And.intro O1_50 <| And.intro O1_71 <| And.intro O1_33 <| And.intro O1_49 <| And.intro O1_39 <| And.intro O1_75 <| And.intro O1_80 <| And.intro O1_82 <| And.intro O1_83 <| And.intro O1_84 <| And.intro O1_85 <| And.intro O1_77 <| And.intro O1_42 <| And.intro O1_72 <| And.intro O1_23 <| And.intro O1_20 <| And.intro O1_62 <| And.intro O1_52 <| And.intro O1_53 <| And.intro O1_54 <| O1_51) := And.intro O1_26 <| And.intro O1_30 <| And.intro O1_22 <| And.intro O1_29 <| And.intro O1_34 <| And.intro O1_24 <| And.intro O1_25 <| And.intro O1_70 <| And.intro O1_74 <| And.intro O1_59 <| And.intro O1_68 <| And.intro O1_55 <| And.intro O1_56 <| And.intro O1_57 <| And.intro O1_58 <| And.intro O1_28 <| And.intro O1_76 <| And.intro O1_46 <| And.intro O1_61 <| And.intro O1_63 <| And.intro O1_69 <| And.intro O1_17 <| And.intro O1_73 <| And.intro O1_43 <| And.intro O1_45 <| And.intro O1_47 <| And.intro O1_48 <| And.intro O1_50 <| And.intro O1_71 <| And.intro O1_33 <| And.intro O1_49 <| And.intro O1_39 <| And.intro O1_75 <| And.intro O1_80 <| And.intro O1_82 <| And.intro O1_83 <| And.intro O1_84 <| And.intro O1_85 <| And.intro O1_77 <| And.intro O1_42 <| And.intro O1_72 <| And.intro O1_23 <| And.intro O1_20 <| And.intro O1_62 <| And.intro O1_52 <| And.intro O1_53 <| And.intro O1_54 <| O1_51
end Go.Vai
/- Stealing: a step. -/
namespace Go.Vai
open Go.RowKit Go.Proofs
set_option linter.unusedSimpArgs false
set_option linter.unusedVariables false
set_option maxHeartbeats 4000000
set_option maxRecDepth 100000

def rowsZ0 : List Row := [] ++ rowsPD
theorem rowsZ0_ok : ∀ p ∈ rowsZ0, RowOk Try.prog p := fun p h => by
  simp only [rowsZ0, List.mem_append, List.mem_cons, List.not_mem_nil, or_false, false_or, or_assoc] at h
  rcases h with h
  · exact rowsPD_ok p h
theorem okZ0 : (ctx Try.prog rowsZ0).ok := rows_ok rowsZ0_ok
theorem Z0_64 : tabC rowsZ0 64 = fun _ => none := rfl
theorem Z0_65 : tabC rowsZ0 65 = fun _ => none := rfl
theorem Z0_66 : tabC rowsZ0 66 = fun _ => none := rfl
theorem Z0_67 : tabC rowsZ0 67 = fun _ => none := rfl
theorem Z0_22 : tabC rowsZ0 22 = row3 shC shM shI fun c m w => some (lv c m w) := rfl
theorem Z0_29 : tabC rowsZ0 29 = row3 shC shM shF fun c m f => if inUb f.x = true then some (sv (pStep c m f)) else none := rfl
theorem Z0_34 : tabC rowsZ0 34 = row1 shC fun c => some (ms (zeros (lSize c).toNat)) := rfl
theorem Z0_24 : tabC rowsZ0 24 = row3 shM shI shF fun l room f => some (ov (fOnce l room f)) := rfl
theorem Z0_25 : tabC rowsZ0 25 = row3 shC shM shF fun c m f => some (sv (pStep c m f)) := rfl
theorem Z0_70 : tabC rowsZ0 70 = row2 shC shI fun c w => some (iv (lBottom c w)) := rfl
theorem Z0_74 : tabC rowsZ0 74 = row3 shC shI shN fun c w x => if inUb x = true then some (iv (lSlot c w x)) else none := rfl
theorem Z0_59 : tabC rowsZ0 59 = row5 shC shM shF shI shI fun c m f op pcs => some (bv (goes c m f op pcs)) := rfl
theorem Z0_68 : tabC rowsZ0 68 = row5 shC shM shF shI shI fun c m f op pcs => some (bv (goes c m f op pcs)) := rfl
theorem Z0_55 : tabC rowsZ0 55 = fun _ => none := rfl
theorem Z0_56 : tabC rowsZ0 56 = fun _ => none := rfl
theorem Z0_57 : tabC rowsZ0 57 = fun _ => none := rfl
theorem Z0_58 : tabC rowsZ0 58 = fun _ => none := rfl
theorem Z0_28 : tabC rowsZ0 28 = row1 shM fun m => some (ms m) := rfl
theorem Z0_76 : tabC rowsZ0 76 = row4 shM shI shN shN fun m i v w => some (.tup [ms (mCas m i v w), bv (mCasB m i v)]) := rfl
theorem Z0_46 : tabC rowsZ0 46 = row2 shM shI fun m i => some (u (mLoad m i)) := rfl
theorem Z0_61 : tabC rowsZ0 61 = row3 shM shI shN fun m i v => some (ms (mStore m i v)) := rfl
theorem Z0_63 : tabC rowsZ0 63 = row4 shM shI shN shN fun m i v w => some (.tup [ms (mCas m i v w), bv (mCasB m i v)]) := rfl
theorem Z0_69 : tabC rowsZ0 69 = row2 shM shI fun m i => some (u (mLoad m i)) := rfl
theorem Z0_17 : tabC rowsZ0 17 = row2 shM shM fun a b => some (bv (decide (a = b))) := rfl
theorem Z0_73 : tabC rowsZ0 73 = row3 shM shI shN fun m i v => some (ms (mStore m i v)) := rfl
theorem Z0_43 : tabC rowsZ0 43 = row1 shC fun c => some (iv (lSize c)) := rfl
theorem Z0_45 : tabC rowsZ0 45 = row1 shC fun c => some (iv (lSize c)) := rfl
theorem Z0_47 : tabC rowsZ0 47 = row2 shC shI fun c w => some (iv (lTop c w)) := rfl
theorem Z0_48 : tabC rowsZ0 48 = row2 shC shI fun c w => some (iv (lBottom c w)) := rfl
theorem Z0_50 : tabC rowsZ0 50 = row3 shC shI shN fun c w x => some (iv (lSlot c w x)) := rfl
theorem Z0_71 : tabC rowsZ0 71 = row2 shC shI fun c w => some (iv (lTop c w)) := rfl
theorem Z0_33 : tabC rowsZ0 33 = row1 shC fun c => some (bv (mayC c)) := rfl
theorem Z0_49 : tabC rowsZ0 49 = row2 shN shN fun a b => some (iv (far a b)) := rfl
theorem Z0_39 : tabC rowsZ0 39 = row1 shC fun c => some (bv (mayC c)) := rfl
theorem Z0_75 : tabC rowsZ0 75 = row2 shN shN fun a b => some (iv (far a b)) := rfl
theorem Z0_80 : tabC rowsZ0 80 = row2 shC shI fun c w => if mayC c = true ∧ 0 ≤ w ∧ w ≤ 8 then some (iv (lBase c w)) else none := rfl
theorem Z0_82 : tabC rowsZ0 82 = fun _ => none := rfl
theorem Z0_83 : tabC rowsZ0 83 = fun _ => none := rfl
theorem Z0_84 : tabC rowsZ0 84 = fun _ => none := rfl
theorem Z0_85 : tabC rowsZ0 85 = fun _ => none := rfl
theorem Z0_77 : tabC rowsZ0 77 = fun _ => none := rfl
theorem Z0_42 : tabC rowsZ0 42 = row1 shF fun f => some (bv (f.res != 0)) := rfl
theorem Z0_72 : tabC rowsZ0 72 = row3 shF shI shN fun f r v => some (fv (fEnd f r v)) := rfl
theorem Z0_23 : tabC rowsZ0 23 = row3 shI shI shN fun o w v => some (fv (fBegin o w v)) := rfl
theorem Z0_20 : tabC rowsZ0 20 = row1 shF fun f => some (bv (f.res != 0)) := rfl
theorem Z0_62 : tabC rowsZ0 62 = row3 shF shI shN fun f r v => some (fv (fEnd f r v)) := rfl
theorem Z0_52 : tabC rowsZ0 52 = fun _ => none := rfl
theorem Z0_53 : tabC rowsZ0 53 = fun _ => none := rfl
theorem Z0_54 : tabC rowsZ0 54 = fun _ => none := rfl
theorem Z0_51 : tabC rowsZ0 51 = fun _ => none := rfl
theorem Z0_all : type_of% (And.intro Z0_64 <| And.intro Z0_65 <| And.intro Z0_66 <| And.intro Z0_67 <| And.intro Z0_22 <| And.intro Z0_29 <| And.intro Z0_34 <| And.intro Z0_24 <| And.intro Z0_25 <| And.intro Z0_70 <| And.intro Z0_74 <| And.intro Z0_59 <| And.intro Z0_68 <| And.intro Z0_55 <| And.intro Z0_56 <| And.intro Z0_57 <| And.intro Z0_58 <| And.intro Z0_28 <| And.intro Z0_76 <| And.intro Z0_46 <| And.intro Z0_61 <| And.intro Z0_63 <| And.intro Z0_69 <| And.intro Z0_17 <| And.intro Z0_73 <| And.intro Z0_43 <| And.intro Z0_45 <| And.intro Z0_47 <| And.intro Z0_48 <| And.intro Z0_50 <| And.intro Z0_71 <| And.intro Z0_33 <| And.intro Z0_49 <| And.intro Z0_39 <| And.intro Z0_75 <| And.intro Z0_80 <| And.intro Z0_82 <| And.intro Z0_83 <| And.intro Z0_84 <| And.intro Z0_85 <| And.intro Z0_77 <| And.intro Z0_42 <| And.intro Z0_72 <| And.intro Z0_23 <| And.intro Z0_20 <| And.intro Z0_62 <| And.intro Z0_52 <| And.intro Z0_53 <| And.intro Z0_54 <| Z0_51) := And.intro Z0_64 <| And.intro Z0_65 <| And.intro Z0_66 <| And.intro Z0_67 <| And.intro Z0_22 <| And.intro Z0_29 <| And.intro Z0_34 <| And.intro Z0_24 <| And.intro Z0_25 <| And.intro Z0_70 <| And.intro Z0_74 <| And.intro Z0_59 <| And.intro Z0_68 <| And.intro Z0_55 <| And.intro Z0_56 <| And.intro Z0_57 <| And.intro Z0_58 <| And.intro Z0_28 <| And.intro Z0_76 <| And.intro Z0_46 <| And.intro Z0_61 <| And.intro Z0_63 <| And.intro Z0_69 <| And.intro Z0_17 <| And.intro Z0_73 <| And.intro Z0_43 <| And.intro Z0_45 <| And.intro Z0_47 <| And.intro Z0_48 <| And.intro Z0_50 <| And.intro Z0_71 <| And.intro Z0_33 <| And.intro Z0_49 <| And.intro Z0_39 <| And.intro Z0_75 <| And.intro Z0_80 <| And.intro Z0_82 <| And.intro Z0_83 <| And.intro Z0_84 <| And.intro Z0_85 <| And.intro Z0_77 <| And.intro Z0_42 <| And.intro Z0_72 <| And.intro Z0_23 <| And.intro Z0_20 <| And.intro Z0_62 <| And.intro Z0_52 <| And.intro Z0_53 <| And.intro Z0_54 <| Z0_51

theorem sstep_pure (c : Cf) (m : List Int) (f : Fr) (hm : m.length ≤ 1000) : PureC Try.prog 27 [cv' c, ms m, fv f] (sv (sStep c m f)) := by
  refine pure_sub okZ0 2 Try.func27 rfl (by show 3 ≤ _; decide) ?_
  cases hg : goes c m f 2 4 with
  | false =>
    rw [sStep_no hg]
    simp only [Try.f27, Z0_all, hg, hm, inl, fv, sv, lv, ov, fBegin, fEnd, r_rounds, hfree_fr, hfree_cf, cv', cf_eta, frz_u, shC_dec, dC, T23, T28, T25, hfree_lu, hfree_l0, row0, row1, row2, row3, row4, row5, shI_dec, shN_dec, shB_dec, shM_dec, dI, dN, dB, dM, dU, dU_map, iv, bv, u, ms, ctx_T, ctx_C, ctx_P, T4, T3, T26, Option.bind_some, Option.bind_none, Option.map_some, List.length_map, List.length_set, String.reduceBEq, Int.toNat_natCast, Bool.true_beq, Bool.false_beq, T24, shF_dec, dF, fr_eta, ev1, ev2, implies_true, undef, stepP, drawB, stepL, lateB, lateB0, rdsT, rdsAny, isRd, afterL, preB, callLB, callLV, lateV, dstV, dynCall, ↓condE_t, ↓condE_f, ↓guardE_tt, ↓guardE_ff, ↓guardE_tf, ↓guardE_ft, frzDeep, deepArgs, deepArg, resB, cv, stepB, stepE, callD, tabD, snapD, snap1, snapC, snapId, snapIds, guardB, guardC, dstAt, aopR, one, pre, binR, intOpR, shiftOpR, unR, argFrm, evo, lkp, hlk, lenOf, asLst, idOf, bndA, srcOk, ofVal, ofCells, setCells, fillA, setElems, fieldsOf, fieldsEq, scalEq, isEq, AV.wr, AV.ok1, TK.agg, frz, frzs, frzA, frzArg, frzArgs, subA, subL, sub1, kp, kh, accOf, List.replicate, Nat.reduceAdd, Nat.reduceSub, Nat.reduceMul, Nat.reduceEqDiff, Nat.reduceLT, Nat.reduceLeDiff, Nat.reduceBEq, reduceIte, reduceCtorEq, eq_self, ne_eq, Int.reduceToNat, Int.reduceLT, Int.reduceLE, Int.reduceGT, Int.reduceGE, Int.reduceBEq, Int.reduceBNe, Int.reduceEq, Int.reduceNe]
    all_goals ((repeat' apply And.intro) <;> first | rfl | omega | (show entryOk _ _ _ _ _ = true; kernel_rfl) | (show pivotOk _ _ = true; kernel_rfl) | decide)
  | true =>
    have hu : ∀ x, IntKind.wrap .u64 x = wrapU x := fun _ => rfl
    obtain ⟨hl, hres, hop, h0, h1⟩ := goes_iff.1 hg
    obtain ⟨op, pc, who, val, x, y, res⟩ := f
    dsimp only at h0 h1 hres hop
    subst hres hop
    have hpc : pc = 0 ∨ pc = 1 ∨ pc = 2 ∨ pc = 3 := by omega
    unfold sStep
    rw [if_pos hg]
    rcases hpc with rfl | rfl | rfl | rfl
    · skip
      simp only [Try.f27, T82, T1, Try.func64, Try.f64, Try.func65, Try.f65, Try.func66, Try.f66, Try.func67, Try.f67, Z0_all, hg, hm, hu, w01, w12, w23, w34, x1, x2, x3, x4, len_store, len_cas, fEnd, Int.cast_ofNat_Int, Int.reduceSub, Int.reduceAdd, Int.reduceNeg, inl, fv, sv, lv, ov, fBegin, fEnd, r_rounds, hfree_fr, hfree_cf, cv', cf_eta, frz_u, shC_dec, dC, T23, T28, T25, hfree_lu, hfree_l0, row0, row1, row2, row3, row4, row5, shI_dec, shN_dec, shB_dec, shM_dec, dI, dN, dB, dM, dU, dU_map, iv, bv, u, ms, ctx_T, ctx_C, ctx_P, T4, T3, T26, Option.bind_some, Option.bind_none, Option.map_some, List.length_map, List.length_set, String.reduceBEq, Int.toNat_natCast, Bool.true_beq, Bool.false_beq, T24, shF_dec, dF, fr_eta, ev1, ev2, implies_true, undef, stepP, drawB, stepL, lateB, lateB0, rdsT, rdsAny, isRd, afterL, preB, callLB, callLV, lateV, dstV, dynCall, ↓condE_t, ↓condE_f, ↓guardE_tt, ↓guardE_ff, ↓guardE_tf, ↓guardE_ft, frzDeep, deepArgs, deepArg, resB, cv, stepB, stepE, callD, tabD, snapD, snap1, snapC, snapId, snapIds, guardB, guardC, dstAt, aopR, one, pre, binR, intOpR, shiftOpR, unR, argFrm, evo, lkp, hlk, lenOf, asLst, idOf, bndA, srcOk, ofVal, ofCells, setCells, fillA, setElems, fieldsOf, fieldsEq, scalEq, isEq, AV.wr, AV.ok1, TK.agg, frz, frzs, frzA, frzArg, frzArgs, subA, subL, sub1, kp, kh, accOf, List.replicate, Nat.reduceAdd, Nat.reduceSub, Nat.reduceMul, Nat.reduceEqDiff, Nat.reduceLT, Nat.reduceLeDiff, Nat.reduceBEq, reduceIte, reduceCtorEq, eq_self, ne_eq, Int.reduceToNat, Int.reduceLT, Int.reduceLE, Int.reduceGT, Int.reduceGE, Int.reduceBEq, Int.reduceBNe, Int.reduceEq, Int.reduceNe]
      repeat' apply And.intro
      all_goals first | rfl | omega | (show entryOk _ _ _ _ _ = true; kernel_rfl) | (refine WP.rounds okZ0 2 5 (by rfl) ?_)
      all_goals (simp only [T82, T1, Try.func64, Try.f64, Try.func65, Try.f65, Try.func66, Try.f66, Try.func67, Try.f67, Z0_all, hg, hm, hu, w01, w12, w23, w34, x1, x2, x3, x4, len_store, len_cas, fEnd, Int.cast_ofNat_Int, Int.reduceSub, Int.reduceAdd, Int.reduceNeg, inl, fv, sv, lv, ov, fBegin, fEnd, r_rounds, hfree_fr, hfree_cf, cv', cf_eta, frz_u, shC_dec, dC, T23, T28, T25, hfree_lu, hfree_l0, row0, row1, row2, row3, row4, row5, shI_dec, shN_dec, shB_dec, shM_dec, dI, dN, dB, dM, dU, dU_map, iv, bv, u, ms, ctx_T, ctx_C, ctx_P, T4, T3, T26, Option.bind_some, Option.bind_none, Option.map_some, List.length_map, List.length_set, String.reduceBEq, Int.toNat_natCast, Bool.true_beq, Bool.false_beq, T24, shF_dec, dF, fr_eta, ev1, ev2, implies_true, undef, stepP, drawB, stepL, lateB, lateB0, rdsT, rdsAny, isRd, afterL, preB, callLB, callLV, lateV, dstV, dynCall, ↓condE_t, ↓condE_f, ↓guardE_tt, ↓guardE_ff, ↓guardE_tf, ↓guardE_ft, frzDeep, deepArgs, deepArg, resB, cv, stepB, stepE, callD, tabD, snapD, snap1, snapC, snapId, snapIds, guardB, guardC, dstAt, aopR, one, pre, binR, intOpR, shiftOpR, unR, argFrm, evo, lkp, hlk, lenOf, asLst, idOf, bndA, srcOk, ofVal, ofCells, setCells, fillA, setElems, fieldsOf, fieldsEq, scalEq, isEq, AV.wr, AV.ok1, TK.agg, frz, frzs, frzA, frzArg, frzArgs, subA, subL, sub1, kp, kh, accOf, List.replicate, Nat.reduceAdd, Nat.reduceSub, Nat.reduceMul, Nat.reduceEqDiff, Nat.reduceLT, Nat.reduceLeDiff, Nat.reduceBEq, reduceIte, reduceCtorEq, eq_self, ne_eq, Int.reduceToNat, Int.reduceLT, Int.reduceLE, Int.reduceGT, Int.reduceGE, Int.reduceBEq, Int.reduceBNe, Int.reduceEq, Int.reduceNe]; all_goals ((repeat' apply And.intro) <;> first | rfl | omega | (show entryOk _ _ _ _ _ = true; kernel_rfl) | (show pivotOk _ _ = true; kernel_rfl) | decide))
    · by_cases q : far (mLoad m (lBottom c who)) y ≤ 0
      · skip
        simp only [Try.f27, T82, T1, Try.func64, Try.f64, Try.func65, Try.f65, Try.func66, Try.f66, Try.func67, Try.f67, Z0_all, hg, hm, hu, w01, w12, w23, w34, x1, x2, x3, x4, len_store, len_cas, q, fEnd, Int.cast_ofNat_Int, Int.reduceSub, Int.reduceAdd, Int.reduceNeg, inl, fv, sv, lv, ov, fBegin, fEnd, r_rounds, hfree_fr, hfree_cf, cv', cf_eta, frz_u, shC_dec, dC, T23, T28, T25, hfree_lu, hfree_l0, row0, row1, row2, row3, row4, row5, shI_dec, shN_dec, shB_dec, shM_dec, dI, dN, dB, dM, dU, dU_map, iv, bv, u, ms, ctx_T, ctx_C, ctx_P, T4, T3, T26, Option.bind_some, Option.bind_none, Option.map_some, List.length_map, List.length_set, String.reduceBEq, Int.toNat_natCast, Bool.true_beq, Bool.false_beq, T24, shF_dec, dF, fr_eta, ev1, ev2, implies_true, undef, stepP, drawB, stepL, lateB, lateB0, rdsT, rdsAny, isRd, afterL, preB, callLB, callLV, lateV, dstV, dynCall, ↓condE_t, ↓condE_f, ↓guardE_tt, ↓guardE_ff, ↓guardE_tf, ↓guardE_ft, frzDeep, deepArgs, deepArg, resB, cv, stepB, stepE, callD, tabD, snapD, snap1, snapC, snapId, snapIds, guardB, guardC, dstAt, aopR, one, pre, binR, intOpR, shiftOpR, unR, argFrm, evo, lkp, hlk, lenOf, asLst, idOf, bndA, srcOk, ofVal, ofCells, setCells, fillA, setElems, fieldsOf, fieldsEq, scalEq, isEq, AV.wr, AV.ok1, TK.agg, frz, frzs, frzA, frzArg, frzArgs, subA, subL, sub1, kp, kh, accOf, List.replicate, Nat.reduceAdd, Nat.reduceSub, Nat.reduceMul, Nat.reduceEqDiff, Nat.reduceLT, Nat.reduceLeDiff, Nat.reduceBEq, reduceIte, reduceCtorEq, eq_self, ne_eq, Int.reduceToNat, Int.reduceLT, Int.reduceLE, Int.reduceGT, Int.reduceGE, Int.reduceBEq, Int.reduceBNe, Int.reduceEq, Int.reduceNe]
        repeat' apply And.intro
        all_goals first | rfl | omega | (show entryOk _ _ _ _ _ = true; kernel_rfl) | (refine WP.rounds okZ0 2 5 (by rfl) ?_)
        all_goals (simp only [T82, T1, Try.func64, Try.f64, Try.func65, Try.f65, Try.func66, Try.f66, Try.func67, Try.f67, Z0_all, hg, hm, hu, w01, w12, w23, w34, x1, x2, x3, x4, len_store, len_cas, q, fEnd, Int.cast_ofNat_Int, Int.reduceSub, Int.reduceAdd, Int.reduceNeg, inl, fv, sv, lv, ov, fBegin, fEnd, r_rounds, hfree_fr, hfree_cf, cv', cf_eta, frz_u, shC_dec, dC, T23, T28, T25, hfree_lu, hfree_l0, row0, row1, row2, row3, row4, row5, shI_dec, shN_dec, shB_dec, shM_dec, dI, dN, dB, dM, dU, dU_map, iv, bv, u, ms, ctx_T, ctx_C, ctx_P, T4, T3, T26, Option.bind_some, Option.bind_none, Option.map_some, List.length_map, List.length_set, String.reduceBEq, Int.toNat_natCast, Bool.true_beq, Bool.false_beq, T24, shF_dec, dF, fr_eta, ev1, ev2, implies_true, undef, stepP, drawB, stepL, lateB, lateB0, rdsT, rdsAny, isRd, afterL, preB, callLB, callLV, lateV, dstV, dynCall, ↓condE_t, ↓condE_f, ↓guardE_tt, ↓guardE_ff, ↓guardE_tf, ↓guardE_ft, frzDeep, deepArgs, deepArg, resB, cv, stepB, stepE, callD, tabD, snapD, snap1, snapC, snapId, snapIds, guardB, guardC, dstAt, aopR, one, pre, binR, intOpR, shiftOpR, unR, argFrm, evo, lkp, hlk, lenOf, asLst, idOf, bndA, srcOk, ofVal, ofCells, setCells, fillA, setElems, fieldsOf, fieldsEq, scalEq, isEq, AV.wr, AV.ok1, TK.agg, frz, frzs, frzA, frzArg, frzArgs, subA, subL, sub1, kp, kh, accOf, List.replicate, Nat.reduceAdd, Nat.reduceSub, Nat.reduceMul, Nat.reduceEqDiff, Nat.reduceLT, Nat.reduceLeDiff, Nat.reduceBEq, reduceIte, reduceCtorEq, eq_self, ne_eq, Int.reduceToNat, Int.reduceLT, Int.reduceLE, Int.reduceGT, Int.reduceGE, Int.reduceBEq, Int.reduceBNe, Int.reduceEq, Int.reduceNe]; all_goals ((repeat' apply And.intro) <;> first | rfl | omega | (show entryOk _ _ _ _ _ = true; kernel_rfl) | (show pivotOk _ _ = true; kernel_rfl) | decide))
      · skip
        simp only [Try.f27, T82, T1, Try.func64, Try.f64, Try.func65, Try.f65, Try.func66, Try.f66, Try.func67, Try.f67, Z0_all, hg, hm, hu, w01, w12, w23, w34, x1, x2, x3, x4, len_store, len_cas, q, fEnd, Int.cast_ofNat_Int, Int.reduceSub, Int.reduceAdd, Int.reduceNeg, inl, fv, sv, lv, ov, fBegin, fEnd, r_rounds, hfree_fr, hfree_cf, cv', cf_eta, frz_u, shC_dec, dC, T23, T28, T25, hfree_lu, hfree_l0, row0, row1, row2, row3, row4, row5, shI_dec, shN_dec, shB_dec, shM_dec, dI, dN, dB, dM, dU, dU_map, iv, bv, u, ms, ctx_T, ctx_C, ctx_P, T4, T3, T26, Option.bind_some, Option.bind_none, Option.map_some, List.length_map, List.length_set, String.reduceBEq, Int.toNat_natCast, Bool.true_beq, Bool.false_beq, T24, shF_dec, dF, fr_eta, ev1, ev2, implies_true, undef, stepP, drawB, stepL, lateB, lateB0, rdsT, rdsAny, isRd, afterL, preB, callLB, callLV, lateV, dstV, dynCall, ↓condE_t, ↓condE_f, ↓guardE_tt, ↓guardE_ff, ↓guardE_tf, ↓guardE_ft, frzDeep, deepArgs, deepArg, resB, cv, stepB, stepE, callD, tabD, snapD, snap1, snapC, snapId, snapIds, guardB, guardC, dstAt, aopR, one, pre, binR, intOpR, shiftOpR, unR, argFrm, evo, lkp, hlk, lenOf, asLst, idOf, bndA, srcOk, ofVal, ofCells, setCells, fillA, setElems, fieldsOf, fieldsEq, scalEq, isEq, AV.wr, AV.ok1, TK.agg, frz, frzs, frzA, frzArg, frzArgs, subA, subL, sub1, kp, kh, accOf, List.replicate, Nat.reduceAdd, Nat.reduceSub, Nat.reduceMul, Nat.reduceEqDiff, Nat.reduceLT, Nat.reduceLeDiff, Nat.reduceBEq, reduceIte, reduceCtorEq, eq_self, ne_eq, Int.reduceToNat, Int.reduceLT, Int.reduceLE, Int.reduceGT, Int.reduceGE, Int.reduceBEq, Int.reduceBNe, Int.reduceEq, Int.reduceNe]
        repeat' apply And.intro
        all_goals first | rfl | omega | (show entryOk _ _ _ _ _ = true; kernel_rfl) | (refine WP.rounds okZ0 2 5 (by rfl) ?_)
        all_goals (simp only [T82, T1, Try.func64, Try.f64, Try.func65, Try.f65, Try.func66, Try.f66, Try.func67, Try.f67, Z0_all, hg, hm, hu, w01, w12, w23, w34, x1, x2, x3, x4, len_store, len_cas, q, fEnd, Int.cast_ofNat_Int, Int.reduceSub, Int.reduceAdd, Int.reduceNeg, inl, fv, sv, lv, ov, fBegin, fEnd, r_rounds, hfree_fr, hfree_cf, cv', cf_eta, frz_u, shC_dec, dC, T23, T28, T25, hfree_lu, hfree_l0, row0, row1, row2, row3, row4, row5, shI_dec, shN_dec, shB_dec, shM_dec, dI, dN, dB, dM, dU, dU_map, iv, bv, u, ms, ctx_T, ctx_C, ctx_P, T4, T3, T26, Option.bind_some, Option.bind_none, Option.map_some, List.length_map, List.length_set, String.reduceBEq, Int.toNat_natCast, Bool.true_beq, Bool.false_beq, T24, shF_dec, dF, fr_eta, ev1, ev2, implies_true, undef, stepP, drawB, stepL, lateB, lateB0, rdsT, rdsAny, isRd, afterL, preB, callLB, callLV, lateV, dstV, dynCall, ↓condE_t, ↓condE_f, ↓guardE_tt, ↓guardE_ff, ↓guardE_tf, ↓guardE_ft, frzDeep, deepArgs, deepArg, resB, cv, stepB, stepE, callD, tabD, snapD, snap1, snapC, snapId, snapIds, guardB, guardC, dstAt, aopR, one, pre, binR, intOpR, shiftOpR, unR, argFrm, evo, lkp, hlk, lenOf, asLst, idOf, bndA, srcOk, ofVal, ofCells, setCells, fillA, setElems, fieldsOf, fieldsEq, scalEq, isEq, AV.wr, AV.ok1, TK.agg, frz, frzs, frzA, frzArg, frzArgs, subA, subL, sub1, kp, kh, accOf, List.replicate, Nat.reduceAdd, Nat.reduceSub, Nat.reduceMul, Nat.reduceEqDiff, Nat.reduceLT, Nat.reduceLeDiff, Nat.reduceBEq, reduceIte, reduceCtorEq, eq_self, ne_eq, Int.reduceToNat, Int.reduceLT, Int.reduceLE, Int.reduceGT, Int.reduceGE, Int.reduceBEq, Int.reduceBNe, Int.reduceEq, Int.reduceNe]; all_goals ((repeat' apply And.intro) <;> first | rfl | omega | (show entryOk _ _ _ _ _ = true; kernel_rfl) | (show pivotOk _ _ = true; kernel_rfl) | decide))
    · skip
      simp only [Try.f27, T82, T1, Try.func64, Try.f64, Try.func65, Try.f65, Try.func66, Try.f66, Try.func67, Try.f67, Z0_all, hg, hm, hu, w01, w12, w23, w34, x1, x2, x3, x4, len_store, len_cas, fEnd, Int.cast_ofNat_Int, Int.reduceSub, Int.reduceAdd, Int.reduceNeg, inl, fv, sv, lv, ov, fBegin, fEnd, r_rounds, hfree_fr, hfree_cf, cv', cf_eta, frz_u, shC_dec, dC, T23, T28, T25, hfree_lu, hfree_l0, row0, row1, row2, row3, row4, row5, shI_dec, shN_dec, shB_dec, shM_dec, dI, dN, dB, dM, dU, dU_map, iv, bv, u, ms, ctx_T, ctx_C, ctx_P, T4, T3, T26, Option.bind_some, Option.bind_none, Option.map_some, List.length_map, List.length_set, String.reduceBEq, Int.toNat_natCast, Bool.true_beq, Bool.false_beq, T24, shF_dec, dF, fr_eta, ev1, ev2, implies_true, undef, stepP, drawB, stepL, lateB, lateB0, rdsT, rdsAny, isRd, afterL, preB, callLB, callLV, lateV, dstV, dynCall, ↓condE_t, ↓condE_f, ↓guardE_tt, ↓guardE_ff, ↓guardE_tf, ↓guardE_ft, frzDeep, deepArgs, deepArg, resB, cv, stepB, stepE, callD, tabD, snapD, snap1, snapC, snapId, snapIds, guardB, guardC, dstAt, aopR, one, pre, binR, intOpR, shiftOpR, unR, argFrm, evo, lkp, hlk, lenOf, asLst, idOf, bndA, srcOk, ofVal, ofCells, setCells, fillA, setElems, fieldsOf, fieldsEq, scalEq, isEq, AV.wr, AV.ok1, TK.agg, frz, frzs, frzA, frzArg, frzArgs, subA, subL, sub1, kp, kh, accOf, List.replicate, Nat.reduceAdd, Nat.reduceSub, Nat.reduceMul, Nat.reduceEqDiff, Nat.reduceLT, Nat.reduceLeDiff, Nat.reduceBEq, reduceIte, reduceCtorEq, eq_self, ne_eq, Int.reduceToNat, Int.reduceLT, Int.reduceLE, Int.reduceGT, Int.reduceGE, Int.reduceBEq, Int.reduceBNe, Int.reduceEq, Int.reduceNe]
      repeat' apply And.intro
      all_goals first | rfl | omega | (show entryOk _ _ _ _ _ = true; kernel_rfl) | (refine WP.rounds okZ0 2 5 (by rfl) ?_)
      all_goals (simp only [T82, T1, Try.func64, Try.f64, Try.func65, Try.f65, Try.func66, Try.f66, Try.func67, Try.f67, Z0_all, hg, hm, hu, w01, w12, w23, w34, x1, x2, x3, x4, len_store, len_cas, fEnd, Int.cast_ofNat_Int, Int.reduceSub, Int.reduceAdd, Int.reduceNeg, inl, fv, sv, lv, ov, fBegin, fEnd, r_rounds, hfree_fr, hfree_cf, cv', cf_eta, frz_u, shC_dec, dC, T23, T28, T25, hfree_lu, hfree_l0, row0, row1, row2, row3, row4, row5, shI_dec, shN_dec, shB_dec, shM_dec, dI, dN, dB, dM, dU, dU_map, iv, bv, u, ms, ctx_T, ctx_C, ctx_P, T4, T3, T26, Option.bind_some, Option.bind_none, Option.map_some, List.length_map, List.length_set, String.reduceBEq, Int.toNat_natCast, Bool.true_beq, Bool.false_beq, T24, shF_dec, dF, fr_eta, ev1, ev2, implies_true, undef, stepP, drawB, stepL, lateB, lateB0, rdsT, rdsAny, isRd, afterL, preB, callLB, callLV, lateV, dstV, dynCall, ↓condE_t, ↓condE_f, ↓guardE_tt, ↓guardE_ff, ↓guardE_tf, ↓guardE_ft, frzDeep, deepArgs, deepArg, resB, cv, stepB, stepE, callD, tabD, snapD, snap1, snapC, snapId, snapIds, guardB, guardC, dstAt, aopR, one, pre, binR, intOpR, shiftOpR, unR, argFrm, evo, lkp, hlk, lenOf, asLst, idOf, bndA, srcOk, ofVal, ofCells, setCells, fillA, setElems, fieldsOf, fieldsEq, scalEq, isEq, AV.wr, AV.ok1, TK.agg, frz, frzs, frzA, frzArg, frzArgs, subA, subL, sub1, kp, kh, accOf, List.replicate, Nat.reduceAdd, Nat.reduceSub, Nat.reduceMul, Nat.reduceEqDiff, Nat.reduceLT, Nat.reduceLeDiff, Nat.reduceBEq, reduceIte, reduceCtorEq, eq_self, ne_eq, Int.reduceToNat, Int.reduceLT, Int.reduceLE, Int.reduceGT, Int.reduceGE, Int.reduceBEq, Int.reduceBNe, Int.reduceEq, Int.reduceNe]; all_goals ((repeat' apply And.intro) <;> first | rfl | omega | (show entryOk _ _ _ _ _ = true; kernel_rfl) | (show pivotOk _ _ = true; kernel_rfl) | decide))
    · cases q : mCasB m (lTop c who) y with
      | true =>
        simp only [Try.f27, T82, T1, Try.func64, Try.f64, Try.func65, Try.f65, Try.func66, Try.f66, Try.func67, Try.f67, Z0_all, hg, hm, hu, w01, w12, w23, w34, x1, x2, x3, x4, len_store, len_cas, q, fEnd, Int.cast_ofNat_Int, Int.reduceSub, Int.reduceAdd, Int.reduceNeg, inl, fv, sv, lv, ov, fBegin, fEnd, r_rounds, hfree_fr, hfree_cf, cv', cf_eta, frz_u, shC_dec, dC, T23, T28, T25, hfree_lu, hfree_l0, row0, row1, row2, row3, row4, row5, shI_dec, shN_dec, shB_dec, shM_dec, dI, dN, dB, dM, dU, dU_map, iv, bv, u, ms, ctx_T, ctx_C, ctx_P, T4, T3, T26, Option.bind_some, Option.bind_none, Option.map_some, List.length_map, List.length_set, String.reduceBEq, Int.toNat_natCast, Bool.true_beq, Bool.false_beq, T24, shF_dec, dF, fr_eta, ev1, ev2, implies_true, undef, stepP, drawB, stepL, lateB, lateB0, rdsT, rdsAny, isRd, afterL, preB, callLB, callLV, lateV, dstV, dynCall, ↓condE_t, ↓condE_f, ↓guardE_tt, ↓guardE_ff, ↓guardE_tf, ↓guardE_ft, frzDeep, deepArgs, deepArg, resB, cv, stepB, stepE, callD, tabD, snapD, snap1, snapC, snapId, snapIds, guardB, guardC, dstAt, aopR, one, pre, binR, intOpR, shiftOpR, unR, argFrm, evo, lkp, hlk, lenOf, asLst, idOf, bndA, srcOk, ofVal, ofCells, setCells, fillA, setElems, fieldsOf, fieldsEq, scalEq, isEq, AV.wr, AV.ok1, TK.agg, frz, frzs, frzA, frzArg, frzArgs, subA, subL, sub1, kp, kh, accOf, List.replicate, Nat.reduceAdd, Nat.reduceSub, Nat.reduceMul, Nat.reduceEqDiff, Nat.reduceLT, Nat.reduceLeDiff, Nat.reduceBEq, reduceIte, reduceCtorEq, eq_self, ne_eq, Int.reduceToNat, Int.reduceLT, Int.reduceLE, Int.reduceGT, Int.reduceGE, Int.reduceBEq, Int.reduceBNe, Int.reduceEq, Int.reduceNe]
        repeat' apply And.intro
        all_goals first | rfl | omega | (show entryOk _ _ _ _ _ = true; kernel_rfl) | (refine WP.rounds okZ0 2 5 (by rfl) ?_)
        all_goals (simp only [T82, T1, Try.func64, Try.f64, Try.func65, Try.f65, Try.func66, Try.f66, Try.func67, Try.f67, Z0_all, hg, hm, hu, w01, w12, w23, w34, x1, x2, x3, x4, len_store, len_cas, q, fEnd, Int.cast_ofNat_Int, Int.reduceSub, Int.reduceAdd, Int.reduceNeg, inl, fv, sv, lv, ov, fBegin, fEnd, r_rounds, hfree_fr, hfree_cf, cv', cf_eta, frz_u, shC_dec, dC, T23, T28, T25, hfree_lu, hfree_l0, row0, row1, row2, row3, row4, row5, shI_dec, shN_dec, shB_dec, shM_dec, dI, dN, dB, dM, dU, dU_map, iv, bv, u, ms, ctx_T, ctx_C, ctx_P, T4, T3, T26, Option.bind_some, Option.bind_none, Option.map_some, List.length_map, List.length_set, String.reduceBEq, Int.toNat_natCast, Bool.true_beq, Bool.false_beq, T24, shF_dec, dF, fr_eta, ev1, ev2, implies_true, undef, stepP, drawB, stepL, lateB, lateB0, rdsT, rdsAny, isRd, afterL, preB, callLB, callLV, lateV, dstV, dynCall, ↓condE_t, ↓condE_f, ↓guardE_tt, ↓guardE_ff, ↓guardE_tf, ↓guardE_ft, frzDeep, deepArgs, deepArg, resB, cv, stepB, stepE, callD, tabD, snapD, snap1, snapC, snapId, snapIds, guardB, guardC, dstAt, aopR, one, pre, binR, intOpR, shiftOpR, unR, argFrm, evo, lkp, hlk, lenOf, asLst, idOf, bndA, srcOk, ofVal, ofCells, setCells, fillA, setElems, fieldsOf, fieldsEq, scalEq, isEq, AV.wr, AV.ok1, TK.agg, frz, frzs, frzA, frzArg, frzArgs, subA, subL, sub1, kp, kh, accOf, List.replicate, Nat.reduceAdd, Nat.reduceSub, Nat.reduceMul, Nat.reduceEqDiff, Nat.reduceLT, Nat.reduceLeDiff, Nat.reduceBEq, reduceIte, reduceCtorEq, eq_self, ne_eq, Int.reduceToNat, Int.reduceLT, Int.reduceLE, Int.reduceGT, Int.reduceGE, Int.reduceBEq, Int.reduceBNe, Int.reduceEq, Int.reduceNe]; all_goals ((repeat' apply And.intro) <;> first | rfl | omega | (show entryOk _ _ _ _ _ = true; kernel_rfl) | (show pivotOk _ _ = true; kernel_rfl) | decide))
      | false =>
        have q2 := cas_not q (wrapU (y + 1))
        simp only [Try.f27, T82, T1, Try.func64, Try.f64, Try.func65, Try.f65, Try.func66, Try.f66, Try.func67, Try.f67, Z0_all, hg, hm, hu, w01, w12, w23, w34, x1, x2, x3, x4, len_store, len_cas, q, q2, fEnd, Int.cast_ofNat_Int, Int.reduceSub, Int.reduceAdd, Int.reduceNeg, inl, fv, sv, lv, ov, fBegin, fEnd, r_rounds, hfree_fr, hfree_cf, cv', cf_eta, frz_u, shC_dec, dC, T23, T28, T25, hfree_lu, hfree_l0, row0, row1, row2, row3, row4, row5, shI_dec, shN_dec, shB_dec, shM_dec, dI, dN, dB, dM, dU, dU_map, iv, bv, u, ms, ctx_T, ctx_C, ctx_P, T4, T3, T26, Option.bind_some, Option.bind_none, Option.map_some, List.length_map, List.length_set, String.reduceBEq, Int.toNat_natCast, Bool.true_beq, Bool.false_beq, T24, shF_dec, dF, fr_eta, ev1, ev2, implies_true, undef, stepP, drawB, stepL, lateB, lateB0, rdsT, rdsAny, isRd, afterL, preB, callLB, callLV, lateV, dstV, dynCall, ↓condE_t, ↓condE_f, ↓guardE_tt, ↓guardE_ff, ↓guardE_tf, ↓guardE_ft, frzDeep, deepArgs, deepArg, resB, cv, stepB, stepE, callD, tabD, snapD, snap1, snapC, snapId, snapIds, guardB, guardC, dstAt, aopR, one, pre, binR, intOpR, shiftOpR, unR, argFrm, evo, lkp, hlk, lenOf, asLst, idOf, bndA, srcOk, ofVal, ofCells, setCells, fillA, setElems, fieldsOf, fieldsEq, scalEq, isEq, AV.wr, AV.ok1, TK.agg, frz, frzs, frzA, frzArg, frzArgs, subA, subL, sub1, kp, kh, accOf, List.replicate, Nat.reduceAdd, Nat.reduceSub, Nat.reduceMul, Nat.reduceEqDiff, Nat.reduceLT, Nat.reduceLeDiff, Nat.reduceBEq, reduceIte, reduceCtorEq, eq_self, ne_eq, Int.reduceToNat, Int.reduceLT, Int.reduceLE, Int.reduceGT, Int.reduceGE, Int.reduceBEq, Int.reduceBNe, Int.reduceEq, Int.reduceNe]
        repeat' apply And.intro
        all_goals first | rfl | omega | (show entryOk _ _ _ _ _ = true; kernel_rfl) | (refine WP.rounds okZ0 2 5 (by rfl) ?_)
        all_goals (simp only [T82, T1, Try.func64, Try.f64, Try.func65, Try.f65, Try.func66, Try.f66, Try.func67, Try.f67, Z0_all, hg, hm, hu, w01, w12, w23, w34, x1, x2, x3, x4, len_store, len_cas, q, q2, fEnd, Int.cast_ofNat_Int, Int.reduceSub, Int.reduceAdd, Int.reduceNeg, inl, fv, sv, lv, ov, fBegin, fEnd, r_rounds, hfree_fr, hfree_cf, cv', cf_eta, frz_u, shC_dec, dC, T23, T28, T25, hfree_lu, hfree_l0, row0, row1, row2, row3, row4, row5, shI_dec, shN_dec, shB_dec, shM_dec, dI, dN, dB, dM, dU, dU_map, iv, bv, u, ms, ctx_T, ctx_C, ctx_P, T4, T3, T26, Option.bind_some, Option.bind_none, Option.map_some, List.length_map, List.length_set, String.reduceBEq, Int.toNat_natCast, Bool.true_beq, Bool.false_beq, T24, shF_dec, dF, fr_eta, ev1, ev2, implies_true, undef, stepP, drawB, stepL, lateB, lateB0, rdsT, rdsAny, isRd, afterL, preB, callLB, callLV, lateV, dstV, dynCall, ↓condE_t, ↓condE_f, ↓guardE_tt, ↓guardE_ff, ↓guardE_tf, ↓guardE_ft, frzDeep, deepArgs, deepArg, resB, cv, stepB, stepE, callD, tabD, snapD, snap1, snapC, snapId, snapIds, guardB, guardC, dstAt, aopR, one, pre, binR, intOpR, shiftOpR, unR, argFrm, evo, lkp, hlk, lenOf, asLst, idOf, bndA, srcOk, ofVal, ofCells, setCells, fillA, setElems, fieldsOf, fieldsEq, scalEq, isEq, AV.wr, AV.ok1, TK.agg, frz, frzs, frzA, frzArg, frzArgs, subA, subL, sub1, kp, kh, accOf, List.replicate, Nat.reduceAdd, Nat.reduceSub, Nat.reduceMul, Nat.reduceEqDiff, Nat.reduceLT, Nat.reduceLeDiff, Nat.reduceBEq, reduceIte, reduceCtorEq, eq_self, ne_eq, Int.reduceToNat, Int.reduceLT, Int.reduceLE, Int.reduceGT, Int.reduceGE, Int.reduceBEq, Int.reduceBNe, Int.reduceEq, Int.reduceNe]; all_goals ((repeat' apply And.intro) <;> first | rfl | omega | (show entryOk _ _ _ _ _ = true; kernel_rfl) | (show pivotOk _ _ = true; kernel_rfl) | decide))
end Go.Vai
/- Stealing: the document's step; the table. -/
namespace Go.Vai
open Go.RowKit Go.Proofs
set_option linter.unusedSimpArgs false
set_option linter.unusedVariables false
set_option maxHeartbeats 4000000
set_option maxRecDepth 100000

theorem rsstep_pure (c : Cf) (m : List Int) (f : Fr) (hm : m.length ≤ 1000) (hx : inUb f.y = true) : PureC Try.prog 31 [cv' c, ms m, fv f] (sv (sStep c m f)) := by
  refine pure_sub okPD 1 Try.func31 rfl (by show 3 ≤ _; decide) ?_
  cases hg : goes c m f 2 4 with
  | false =>
    rw [sStep_no hg]
    simp only [Try.f31, PD_all, hg, hm, inl, fv, sv, lv, ov, fBegin, fEnd, r_rounds, hfree_fr, hfree_cf, cv', cf_eta, frz_u, shC_dec, dC, T23, T28, T25, hfree_lu, hfree_l0, row0, row1, row2, row3, row4, row5, shI_dec, shN_dec, shB_dec, shM_dec, dI, dN, dB, dM, dU, dU_map, iv, bv, u, ms, ctx_T, ctx_C, ctx_P, T4, T3, T26, Option.bind_some, Option.bind_none, Option.map_some, List.length_map, List.length_set, String.reduceBEq, Int.toNat_natCast, Bool.true_beq, Bool.false_beq, T24, shF_dec, dF, fr_eta, ev1, ev2, implies_true, undef, stepP, drawB, stepL, lateB, lateB0, rdsT, rdsAny, isRd, afterL, preB, callLB, callLV, lateV, dstV, dynCall, ↓condE_t, ↓condE_f, ↓guardE_tt, ↓guardE_ff, ↓guardE_tf, ↓guardE_ft, frzDeep, deepArgs, deepArg, resB, cv, stepB, stepE, callD, tabD, snapD, snap1, snapC, snapId, snapIds, guardB, guardC, dstAt, aopR, one, pre, binR, intOpR, shiftOpR, unR, argFrm, evo, lkp, hlk, lenOf, asLst, idOf, bndA, srcOk, ofVal, ofCells, setCells, fillA, setElems, fieldsOf, fieldsEq, scalEq, isEq, AV.wr, AV.ok1, TK.agg, frz, frzs, frzA, frzArg, frzArgs, subA, subL, sub1, kp, kh, accOf, List.replicate, Nat.reduceAdd, Nat.reduceSub, Nat.reduceMul, Nat.reduceEqDiff, Nat.reduceLT, Nat.reduceLeDiff, Nat.reduceBEq, reduceIte, reduceCtorEq, eq_self, ne_eq, Int.reduceToNat, Int.reduceLT, Int.reduceLE, Int.reduceGT, Int.reduceGE, Int.reduceBEq, Int.reduceBNe, Int.reduceEq, Int.reduceNe]
    all_goals ((repeat' apply And.intro) <;> first | rfl | omega | (show entryOk _ _ _ _ _ = true; kernel_rfl) | (show pivotOk _ _ = true; kernel_rfl) | decide)
  | true =>
    have hu : ∀ x, IntKind.wrap .u64 x = wrapU x := fun _ => rfl
    obtain ⟨hl, hres, hop, h0, h1⟩ := goes_iff.1 hg
    obtain ⟨op, pc, who, val, x, y, res⟩ := f
    dsimp only at h0 h1 hx
    have hpc : pc = 0 ∨ pc = 1 ∨ pc = 2 ∨ pc = 3 := by omega
    unfold sStep
    rw [if_pos hg]
    rcases hpc with rfl | rfl | rfl | rfl
    · skip
      simp only [Try.f31, PD_all, hg, hm, hu, hx, len_store, len_cas, fEnd, inl, fv, sv, lv, ov, fBegin, fEnd, r_rounds, hfree_fr, hfree_cf, cv', cf_eta, frz_u, shC_dec, dC, T23, T28, T25, hfree_lu, hfree_l0, row0, row1, row2, row3, row4, row5, shI_dec, shN_dec, shB_dec, shM_dec, dI, dN, dB, dM, dU, dU_map, iv, bv, u, ms, ctx_T, ctx_C, ctx_P, T4, T3, T26, Option.bind_some, Option.bind_none, Option.map_some, List.length_map, List.length_set, String.reduceBEq, Int.toNat_natCast, Bool.true_beq, Bool.false_beq, T24, shF_dec, dF, fr_eta, ev1, ev2, implies_true, undef, stepP, drawB, stepL, lateB, lateB0, rdsT, rdsAny, isRd, afterL, preB, callLB, callLV, lateV, dstV, dynCall, ↓condE_t, ↓condE_f, ↓guardE_tt, ↓guardE_ff, ↓guardE_tf, ↓guardE_ft, frzDeep, deepArgs, deepArg, resB, cv, stepB, stepE, callD, tabD, snapD, snap1, snapC, snapId, snapIds, guardB, guardC, dstAt, aopR, one, pre, binR, intOpR, shiftOpR, unR, argFrm, evo, lkp, hlk, lenOf, asLst, idOf, bndA, srcOk, ofVal, ofCells, setCells, fillA, setElems, fieldsOf, fieldsEq, scalEq, isEq, AV.wr, AV.ok1, TK.agg, frz, frzs, frzA, frzArg, frzArgs, subA, subL, sub1, kp, kh, accOf, List.replicate, Nat.reduceAdd, Nat.reduceSub, Nat.reduceMul, Nat.reduceEqDiff, Nat.reduceLT, Nat.reduceLeDiff, Nat.reduceBEq, reduceIte, reduceCtorEq, eq_self, ne_eq, Int.reduceToNat, Int.reduceLT, Int.reduceLE, Int.reduceGT, Int.reduceGE, Int.reduceBEq, Int.reduceBNe, Int.reduceEq, Int.reduceNe]
      all_goals ((repeat' apply And.intro) <;> first | rfl | omega | (show entryOk _ _ _ _ _ = true; kernel_rfl) | (show pivotOk _ _ = true; kernel_rfl) | decide)
    · by_cases q : far (mLoad m (lBottom c who)) y ≤ 0
      · skip
        simp only [Try.f31, PD_all, hg, hm, hu, hx, len_store, len_cas, q, fEnd, inl, fv, sv, lv, ov, fBegin, fEnd, r_rounds, hfree_fr, hfree_cf, cv', cf_eta, frz_u, shC_dec, dC, T23, T28, T25, hfree_lu, hfree_l0, row0, row1, row2, row3, row4, row5, shI_dec, shN_dec, shB_dec, shM_dec, dI, dN, dB, dM, dU, dU_map, iv, bv, u, ms, ctx_T, ctx_C, ctx_P, T4, T3, T26, Option.bind_some, Option.bind_none, Option.map_some, List.length_map, List.length_set, String.reduceBEq, Int.toNat_natCast, Bool.true_beq, Bool.false_beq, T24, shF_dec, dF, fr_eta, ev1, ev2, implies_true, undef, stepP, drawB, stepL, lateB, lateB0, rdsT, rdsAny, isRd, afterL, preB, callLB, callLV, lateV, dstV, dynCall, ↓condE_t, ↓condE_f, ↓guardE_tt, ↓guardE_ff, ↓guardE_tf, ↓guardE_ft, frzDeep, deepArgs, deepArg, resB, cv, stepB, stepE, callD, tabD, snapD, snap1, snapC, snapId, snapIds, guardB, guardC, dstAt, aopR, one, pre, binR, intOpR, shiftOpR, unR, argFrm, evo, lkp, hlk, lenOf, asLst, idOf, bndA, srcOk, ofVal, ofCells, setCells, fillA, setElems, fieldsOf, fieldsEq, scalEq, isEq, AV.wr, AV.ok1, TK.agg, frz, frzs, frzA, frzArg, frzArgs, subA, subL, sub1, kp, kh, accOf, List.replicate, Nat.reduceAdd, Nat.reduceSub, Nat.reduceMul, Nat.reduceEqDiff, Nat.reduceLT, Nat.reduceLeDiff, Nat.reduceBEq, reduceIte, reduceCtorEq, eq_self, ne_eq, Int.reduceToNat, Int.reduceLT, Int.reduceLE, Int.reduceGT, Int.reduceGE, Int.reduceBEq, Int.reduceBNe, Int.reduceEq, Int.reduceNe]
        all_goals ((repeat' apply And.intro) <;> first | rfl | omega | (show entryOk _ _ _ _ _ = true; kernel_rfl) | (show pivotOk _ _ = true; kernel_rfl) | decide)
      · skip
        simp only [Try.f31, PD_all, hg, hm, hu, hx, len_store, len_cas, q, fEnd, inl, fv, sv, lv, ov, fBegin, fEnd, r_rounds, hfree_fr, hfree_cf, cv', cf_eta, frz_u, shC_dec, dC, T23, T28, T25, hfree_lu, hfree_l0, row0, row1, row2, row3, row4, row5, shI_dec, shN_dec, shB_dec, shM_dec, dI, dN, dB, dM, dU, dU_map, iv, bv, u, ms, ctx_T, ctx_C, ctx_P, T4, T3, T26, Option.bind_some, Option.bind_none, Option.map_some, List.length_map, List.length_set, String.reduceBEq, Int.toNat_natCast, Bool.true_beq, Bool.false_beq, T24, shF_dec, dF, fr_eta, ev1, ev2, implies_true, undef, stepP, drawB, stepL, lateB, lateB0, rdsT, rdsAny, isRd, afterL, preB, callLB, callLV, lateV, dstV, dynCall, ↓condE_t, ↓condE_f, ↓guardE_tt, ↓guardE_ff, ↓guardE_tf, ↓guardE_ft, frzDeep, deepArgs, deepArg, resB, cv, stepB, stepE, callD, tabD, snapD, snap1, snapC, snapId, snapIds, guardB, guardC, dstAt, aopR, one, pre, binR, intOpR, shiftOpR, unR, argFrm, evo, lkp, hlk, lenOf, asLst, idOf, bndA, srcOk, ofVal, ofCells, setCells, fillA, setElems, fieldsOf, fieldsEq, scalEq, isEq, AV.wr, AV.ok1, TK.agg, frz, frzs, frzA, frzArg, frzArgs, subA, subL, sub1, kp, kh, accOf, List.replicate, Nat.reduceAdd, Nat.reduceSub, Nat.reduceMul, Nat.reduceEqDiff, Nat.reduceLT, Nat.reduceLeDiff, Nat.reduceBEq, reduceIte, reduceCtorEq, eq_self, ne_eq, Int.reduceToNat, Int.reduceLT, Int.reduceLE, Int.reduceGT, Int.reduceGE, Int.reduceBEq, Int.reduceBNe, Int.reduceEq, Int.reduceNe]
        all_goals ((repeat' apply And.intro) <;> first | rfl | omega | (show entryOk _ _ _ _ _ = true; kernel_rfl) | (show pivotOk _ _ = true; kernel_rfl) | decide)
    · skip
      simp only [Try.f31, PD_all, hg, hm, hu, hx, len_store, len_cas, fEnd, inl, fv, sv, lv, ov, fBegin, fEnd, r_rounds, hfree_fr, hfree_cf, cv', cf_eta, frz_u, shC_dec, dC, T23, T28, T25, hfree_lu, hfree_l0, row0, row1, row2, row3, row4, row5, shI_dec, shN_dec, shB_dec, shM_dec, dI, dN, dB, dM, dU, dU_map, iv, bv, u, ms, ctx_T, ctx_C, ctx_P, T4, T3, T26, Option.bind_some, Option.bind_none, Option.map_some, List.length_map, List.length_set, String.reduceBEq, Int.toNat_natCast, Bool.true_beq, Bool.false_beq, T24, shF_dec, dF, fr_eta, ev1, ev2, implies_true, undef, stepP, drawB, stepL, lateB, lateB0, rdsT, rdsAny, isRd, afterL, preB, callLB, callLV, lateV, dstV, dynCall, ↓condE_t, ↓condE_f, ↓guardE_tt, ↓guardE_ff, ↓guardE_tf, ↓guardE_ft, frzDeep, deepArgs, deepArg, resB, cv, stepB, stepE, callD, tabD, snapD, snap1, snapC, snapId, snapIds, guardB, guardC, dstAt, aopR, one, pre, binR, intOpR, shiftOpR, unR, argFrm, evo, lkp, hlk, lenOf, asLst, idOf, bndA, srcOk, ofVal, ofCells, setCells, fillA, setElems, fieldsOf, fieldsEq, scalEq, isEq, AV.wr, AV.ok1, TK.agg, frz, frzs, frzA, frzArg, frzArgs, subA, subL, sub1, kp, kh, accOf, List.replicate, Nat.reduceAdd, Nat.reduceSub, Nat.reduceMul, Nat.reduceEqDiff, Nat.reduceLT, Nat.reduceLeDiff, Nat.reduceBEq, reduceIte, reduceCtorEq, eq_self, ne_eq, Int.reduceToNat, Int.reduceLT, Int.reduceLE, Int.reduceGT, Int.reduceGE, Int.reduceBEq, Int.reduceBNe, Int.reduceEq, Int.reduceNe]
      all_goals ((repeat' apply And.intro) <;> first | rfl | omega | (show entryOk _ _ _ _ _ = true; kernel_rfl) | (show pivotOk _ _ = true; kernel_rfl) | decide)
    · cases q : mCasB m (lTop c who) y with
      | true =>
        simp only [Try.f31, PD_all, hg, hm, hu, hx, len_store, len_cas, q, fEnd, inl, fv, sv, lv, ov, fBegin, fEnd, r_rounds, hfree_fr, hfree_cf, cv', cf_eta, frz_u, shC_dec, dC, T23, T28, T25, hfree_lu, hfree_l0, row0, row1, row2, row3, row4, row5, shI_dec, shN_dec, shB_dec, shM_dec, dI, dN, dB, dM, dU, dU_map, iv, bv, u, ms, ctx_T, ctx_C, ctx_P, T4, T3, T26, Option.bind_some, Option.bind_none, Option.map_some, List.length_map, List.length_set, String.reduceBEq, Int.toNat_natCast, Bool.true_beq, Bool.false_beq, T24, shF_dec, dF, fr_eta, ev1, ev2, implies_true, undef, stepP, drawB, stepL, lateB, lateB0, rdsT, rdsAny, isRd, afterL, preB, callLB, callLV, lateV, dstV, dynCall, ↓condE_t, ↓condE_f, ↓guardE_tt, ↓guardE_ff, ↓guardE_tf, ↓guardE_ft, frzDeep, deepArgs, deepArg, resB, cv, stepB, stepE, callD, tabD, snapD, snap1, snapC, snapId, snapIds, guardB, guardC, dstAt, aopR, one, pre, binR, intOpR, shiftOpR, unR, argFrm, evo, lkp, hlk, lenOf, asLst, idOf, bndA, srcOk, ofVal, ofCells, setCells, fillA, setElems, fieldsOf, fieldsEq, scalEq, isEq, AV.wr, AV.ok1, TK.agg, frz, frzs, frzA, frzArg, frzArgs, subA, subL, sub1, kp, kh, accOf, List.replicate, Nat.reduceAdd, Nat.reduceSub, Nat.reduceMul, Nat.reduceEqDiff, Nat.reduceLT, Nat.reduceLeDiff, Nat.reduceBEq, reduceIte, reduceCtorEq, eq_self, ne_eq, Int.reduceToNat, Int.reduceLT, Int.reduceLE, Int.reduceGT, Int.reduceGE, Int.reduceBEq, Int.reduceBNe, Int.reduceEq, Int.reduceNe]
        all_goals ((repeat' apply And.intro) <;> first | rfl | omega | (show entryOk _ _ _ _ _ = true; kernel_rfl) | (show pivotOk _ _ = true; kernel_rfl) | decide)
      | false =>
        have q2 := cas_not q (wrapU (y + 1))
        simp only [Try.f31, PD_all, hg, hm, hu, hx, len_store, len_cas, q, q2, fEnd, inl, fv, sv, lv, ov, fBegin, fEnd, r_rounds, hfree_fr, hfree_cf, cv', cf_eta, frz_u, shC_dec, dC, T23, T28, T25, hfree_lu, hfree_l0, row0, row1, row2, row3, row4, row5, shI_dec, shN_dec, shB_dec, shM_dec, dI, dN, dB, dM, dU, dU_map, iv, bv, u, ms, ctx_T, ctx_C, ctx_P, T4, T3, T26, Option.bind_some, Option.bind_none, Option.map_some, List.length_map, List.length_set, String.reduceBEq, Int.toNat_natCast, Bool.true_beq, Bool.false_beq, T24, shF_dec, dF, fr_eta, ev1, ev2, implies_true, undef, stepP, drawB, stepL, lateB, lateB0, rdsT, rdsAny, isRd, afterL, preB, callLB, callLV, lateV, dstV, dynCall, ↓condE_t, ↓condE_f, ↓guardE_tt, ↓guardE_ff, ↓guardE_tf, ↓guardE_ft, frzDeep, deepArgs, deepArg, resB, cv, stepB, stepE, callD, tabD, snapD, snap1, snapC, snapId, snapIds, guardB, guardC, dstAt, aopR, one, pre, binR, intOpR, shiftOpR, unR, argFrm, evo, lkp, hlk, lenOf, asLst, idOf, bndA, srcOk, ofVal, ofCells, setCells, fillA, setElems, fieldsOf, fieldsEq, scalEq, isEq, AV.wr, AV.ok1, TK.agg, frz, frzs, frzA, frzArg, frzArgs, subA, subL, sub1, kp, kh, accOf, List.replicate, Nat.reduceAdd, Nat.reduceSub, Nat.reduceMul, Nat.reduceEqDiff, Nat.reduceLT, Nat.reduceLeDiff, Nat.reduceBEq, reduceIte, reduceCtorEq, eq_self, ne_eq, Int.reduceToNat, Int.reduceLT, Int.reduceLE, Int.reduceGT, Int.reduceGE, Int.reduceBEq, Int.reduceBNe, Int.reduceEq, Int.reduceNe]
        all_goals ((repeat' apply And.intro) <;> first | rfl | omega | (show entryOk _ _ _ _ _ = true; kernel_rfl) | (show pivotOk _ _ = true; kernel_rfl) | decide)

def rowsZ1 : List Row := [
  (27, row3 shC shM shF fun c m f => some (sv (sStep c m f))), 
  (31, row3 shC shM shF fun c m f => if inUb f.y = true then some (sv (sStep c m f)) else none)] ++ rowsPD
theorem rowsZ1_ok : ∀ p ∈ rowsZ1, RowOk Try.prog p := fun p h => by
  simp only [rowsZ1, List.mem_append, List.mem_cons, List.not_mem_nil, or_false, false_or, or_assoc] at h
  rcases h with rfl | rfl | h
  · exact ok_row3 (enters_of Try.func27 (by decide) rfl) fun c m f r _ g _ e => by cases e; exact sstep_pure c m f (shM_got g)
  · exact ok_row3 (enters_of Try.func31 (by decide) rfl) fun c m f r _ g _ e => by obtain ⟨h, rfl⟩ := opt_if e; exact rsstep_pure c m f (shM_got g) h
  · exact rowsPD_ok p h
theorem okZ1 : (ctx Try.prog rowsZ1).ok := rows_ok rowsZ1_ok
theorem Z1_27 : tabC rowsZ1 27 = row3 shC shM shF fun c m f => some (sv (sStep c m f)) := rfl
theorem Z1_31 : tabC rowsZ1 31 = row3 shC shM shF fun c m f => if inUb f.y = true then some (sv (sStep c m f)) else none := rfl
theorem Z1_22 : tabC rowsZ1 22 = row3 shC shM shI fun c m w => some (lv c m w) := rfl
theorem Z1_29 : tabC rowsZ1 29 = row3 shC shM shF fun c m f => if inUb f.x = true then some (sv (pStep c m f)) else none := rfl
theorem Z1_34 : tabC rowsZ1 34 = row1 shC fun c => some (ms (zeros (lSize c).toNat)) := rfl
theorem Z1_24 : tabC rowsZ1 24 = row3 shM shI shF fun l room f => some (ov (fOnce l room f)) := rfl
theorem Z1_25 : tabC rowsZ1 25 = row3 shC shM shF fun c m f => some (sv (pStep c m f)) := rfl
theorem Z1_70 : tabC rowsZ1 70 = row2 shC shI fun c w => some (iv (lBottom c w)) := rfl
theorem Z1_74 : tabC rowsZ1 74 = row3 shC shI shN fun c w x => if inUb x = true then some (iv (lSlot c w x)) else none := rfl
theorem Z1_59 : tabC rowsZ1 59 = row5 shC shM shF shI shI fun c m f op pcs => some (bv (goes c m f op pcs)) := rfl
theorem Z1_68 : tabC rowsZ1 68 = row5 shC shM shF shI shI fun c m f op pcs => some (bv (goes c m f op pcs)) := rfl
theorem Z1_55 : tabC rowsZ1 55 = fun _ => none := rfl
theorem Z1_56 : tabC rowsZ1 56 = fun _ => none := rfl
theorem Z1_57 : tabC rowsZ1 57 = fun _ => none := rfl
theorem Z1_58 : tabC rowsZ1 58 = fun _ => none := rfl
theorem Z1_28 : tabC rowsZ1 28 = row1 shM fun m => some (ms m) := rfl
theorem Z1_76 : tabC rowsZ1 76 = row4 shM shI shN shN fun m i v w => some (.tup [ms (mCas m i v w), bv (mCasB m i v)]) := rfl
theorem Z1_46 : tabC rowsZ1 46 = row2 shM shI fun m i => some (u (mLoad m i)) := rfl
theorem Z1_61 : tabC rowsZ1 61 = row3 shM shI shN fun m i v => some (ms (mStore m i v)) := rfl
theorem Z1_63 : tabC rowsZ1 63 = row4 shM shI shN shN fun m i v w => some (.tup [ms (mCas m i v w), bv (mCasB m i v)]) := rfl
theorem Z1_69 : tabC rowsZ1 69 = row2 shM shI fun m i => some (u (mLoad m i)) := rfl
theorem Z1_17 : tabC rowsZ1 17 = row2 shM shM fun a b => some (bv (decide (a = b))) := rfl
theorem Z1_73 : tabC rowsZ1 73 = row3 shM shI shN fun m i v => some (ms (mStore m i v)) := rfl
theorem Z1_43 : tabC rowsZ1 43 = row1 shC fun c => some (iv (lSize c)) := rfl
theorem Z1_45 : tabC rowsZ1 45 = row1 shC fun c => some (iv (lSize c)) := rfl
theorem Z1_47 : tabC rowsZ1 47 = row2 shC shI fun c w => some (iv (lTop c w)) := rfl
theorem Z1_48 : tabC rowsZ1 48 = row2 shC shI fun c w => some (iv (lBottom c w)) := rfl
theorem Z1_50 : tabC rowsZ1 50 = row3 shC shI shN fun c w x => some (iv (lSlot c w x)) := rfl
theorem Z1_71 : tabC rowsZ1 71 = row2 shC shI fun c w => some (iv (lTop c w)) := rfl
theorem Z1_33 : tabC rowsZ1 33 = row1 shC fun c => some (bv (mayC c)) := rfl
theorem Z1_49 : tabC rowsZ1 49 = row2 shN shN fun a b => some (iv (far a b)) := rfl
theorem Z1_39 : tabC rowsZ1 39 = row1 shC fun c => some (bv (mayC c)) := rfl
theorem Z1_75 : tabC rowsZ1 75 = row2 shN shN fun a b => some (iv (far a b)) := rfl
theorem Z1_80 : tabC rowsZ1 80 = row2 shC shI fun c w => if mayC c = true ∧ 0 ≤ w ∧ w ≤ 8 then some (iv (lBase c w)) else none := rfl
theorem Z1_82 : tabC rowsZ1 82 = fun _ => none := rfl
theorem Z1_83 : tabC rowsZ1 83 = fun _ => none := rfl
theorem Z1_84 : tabC rowsZ1 84 = fun _ => none := rfl
theorem Z1_85 : tabC rowsZ1 85 = fun _ => none := rfl
theorem Z1_77 : tabC rowsZ1 77 = fun _ => none := rfl
theorem Z1_42 : tabC rowsZ1 42 = row1 shF fun f => some (bv (f.res != 0)) := rfl
theorem Z1_72 : tabC rowsZ1 72 = row3 shF shI shN fun f r v => some (fv (fEnd f r v)) := rfl
theorem Z1_23 : tabC rowsZ1 23 = row3 shI shI shN fun o w v => some (fv (fBegin o w v)) := rfl
theorem Z1_20 : tabC rowsZ1 20 = row1 shF fun f => some (bv (f.res != 0)) := rfl
theorem Z1_62 : tabC rowsZ1 62 = row3 shF shI shN fun f r v => some (fv (fEnd f r v)) := rfl
theorem Z1_52 : tabC rowsZ1 52 = fun _ => none := rfl
theorem Z1_53 : tabC rowsZ1 53 = fun _ => none := rfl
theorem Z1_54 : tabC rowsZ1 54 = fun _ => none := rfl
theorem Z1_51 : tabC rowsZ1 51 = fun _ => none := rfl
theorem Z1_all : type_of% (And.intro Z1_27 <| And.intro Z1_31 <| And.intro Z1_22 <| And.intro Z1_29 <| And.intro Z1_34 <| And.intro Z1_24 <| And.intro Z1_25 <| And.intro Z1_70 <| And.intro Z1_74 <| And.intro Z1_59 <| And.intro Z1_68 <| And.intro Z1_55 <| And.intro Z1_56 <| And.intro Z1_57 <| And.intro Z1_58 <| And.intro Z1_28 <| And.intro Z1_76 <| And.intro Z1_46 <| And.intro Z1_61 <| And.intro Z1_63 <| And.intro Z1_69 <| And.intro Z1_17 <| And.intro Z1_73 <| And.intro Z1_43 <| And.intro Z1_45 <| And.intro Z1_47 <| And.intro Z1_48 <| And.intro Z1_50 <| And.intro Z1_71 <| And.intro Z1_33 <| And.intro Z1_49 <| And.intro Z1_39 <| And.intro Z1_75 <| And.intro Z1_80 <| And.intro Z1_82 <| And.intro Z1_83 <| And.intro Z1_84 <| And.intro Z1_85 <| And.intro Z1_77 <| And.intro Z1_42 <| And.intro Z1_72 <| And.intro Z1_23 <| And.intro Z1_20 <| And.intro Z1_62 <| And.intro Z1_52 <| And.intro Z1_53 <| And.intro Z1_54 <| Z1_51) := And.intro Z1_27 <| And.intro Z1_31 <| And.intro Z1_22 <| And.intro Z1_29 <| And.intro Z1_34 <| And.intro Z1_24 <| And.intro Z1_25 <| And.intro Z1_70 <| And.intro Z1_74 <| And.intro Z1_59 <| And.intro Z1_68 <| And.intro Z1_55 <| And.intro Z1_56 <| And.intro Z1_57 <| And.intro Z1_58 <| And.intro Z1_28 <| And.intro Z1_76 <| And.intro Z1_46 <| And.intro Z1_61 <| And.intro Z1_63 <| And.intro Z1_69 <| And.intro Z1_17 <| And.intro Z1_73 <| And.intro Z1_43 <| And.intro Z1_45 <| And.intro Z1_47 <| And.intro Z1_48 <| And.intro Z1_50 <| And.intro Z1_71 <| And.intro Z1_33 <| And.intro Z1_49 <| And.intro Z1_39 <| And.intro Z1_75 <| And.intro Z1_80 <| And.intro Z1_82 <| And.intro Z1_83 <| And.intro Z1_84 <| And.intro Z1_85 <| And.intro Z1_77 <| And.intro Z1_42 <| And.intro Z1_72 <| And.intro Z1_23 <| And.intro Z1_20 <| And.intro Z1_62 <| And.intro Z1_52 <| And.intro Z1_53 <| And.intro Z1_54 <| Z1_51
end Go.Vai
/- The injector in cells, by numbers and lists alone: what is where, and what a step does. -/
namespace Go.Vai
open Go.RowKit
set_option linter.unusedVariables false
set_option linter.unusedSimpArgs false

def eSeq (c : Cf) (x : Int) : Int := if mayC c then 6 + x.tmod c.i else -1
def eVal (c : Cf) (x : Int) : Int := if mayC c then 6 + c.i + x.tmod c.i else -1
/-- The sequence of a slot that is free for a place. -/
def eFree (c : Cf) (x : Int) : Int := wrapU (wrapU (x.tdiv c.i) * 2)

/-- An injector's cells are there. -/
structure Inj (c : Cf) (m : List Int) : Prop where
  may : mayC c = true
  len : (m.length : Int) = lSize c

def goesE (c : Cf) (m : List Int) (f : Fr) (op : Int) : Bool := mayC c && decide ((m.length : Int) = lSize c ∧ f.res = 0 ∧ f.op = op ∧ 0 ≤ f.pc ∧ f.pc < 5)
theorem goesE_iff {c : Cf} {m : List Int} {f : Fr} {op : Int} : goesE c m f op = true ↔ Inj c m ∧ f.res = 0 ∧ f.op = op ∧ 0 ≤ f.pc ∧ f.pc < 5 := by
  constructor
  · intro h
    simp [goesE] at h
    exact ⟨⟨h.1, h.2.1⟩, h.2.2⟩
  · rintro ⟨h, h1, h2, h3, h4⟩
    simp [goesE, h.may, h.len, h1, h2, h3, h4]

/-- A put's next step. -/
def eStep (c : Cf) (m : List Int) (f : Fr) : List Int × Fr :=
  if goesE c m f 3 = true then
    if f.pc = 0 then (m, ⟨f.op, 1, f.who, f.val, mLoad m 5, f.y, f.res⟩)
    else if f.pc = 1 then
      if mLoad m (eSeq c f.x) = eFree c f.x then (m, ⟨f.op, 2, f.who, f.val, f.x, mLoad m (eSeq c f.x), f.res⟩)
      else if far (mLoad m (eSeq c f.x)) (eFree c f.x) < 0 then (m, fEnd f 2 f.val)
      else (m, ⟨f.op, 0, f.who, f.val, f.x, mLoad m (eSeq c f.x), f.res⟩)
    else if f.pc = 2 then (mCas m 5 f.x (wrapU (f.x + 1)), ⟨f.op, if mCasB m 5 f.x = true then 3 else 0, f.who, f.val, f.x, f.y, f.res⟩)
    else if f.pc = 3 then (mStore m (eVal c f.x) f.val, ⟨f.op, 4, f.who, f.val, f.x, f.y, f.res⟩)
    else (mStore m (eSeq c f.x) (wrapU (eFree c f.x + 1)), fEnd f 1 f.val)
  else (m, f)

/-- A take's. -/
def qStep (c : Cf) (m : List Int) (f : Fr) : List Int × Fr :=
  if goesE c m f 4 = true then
    if f.pc = 0 then (m, ⟨f.op, 1, f.who, f.val, mLoad m 4, f.y, f.res⟩)
    else if f.pc = 1 then
      if far (mLoad m (eSeq c f.x)) (wrapU (eFree c f.x + 1)) = 0 then (m, ⟨f.op, 2, f.who, f.val, f.x, mLoad m (eSeq c f.x), f.res⟩)
      else if far (mLoad m (eSeq c f.x)) (wrapU (eFree c f.x + 1)) < 0 then (m, fEnd f 3 0)
      else (m, ⟨f.op, 0, f.who, f.val, f.x, mLoad m (eSeq c f.x), f.res⟩)
    else if f.pc = 2 then (mCas m 4 f.x (wrapU (f.x + 1)), ⟨f.op, if mCasB m 4 f.x = true then 3 else 0, f.who, f.val, f.x, f.y, f.res⟩)
    else if f.pc = 3 then (m, ⟨f.op, 4, f.who, mLoad m (eVal c f.x), f.x, f.y, f.res⟩)
    else (mStore m (eSeq c f.x) (wrapU (wrapU (eFree c f.x + 1) + 1)), fEnd f 1 f.val)
  else (m, f)

/-- How many there are. -/
def eLen (c : Cf) (m : List Int) : Int := if mayC c && decide ((m.length : Int) = lSize c) then far (mLoad m 5) (mLoad m 4) else -1

theorem len_eStep (c : Cf) (m : List Int) (f : Fr) : (eStep c m f).1.length = m.length := by
  unfold eStep; repeat' split
  all_goals first | rfl | exact len_store .. | exact len_cas ..
theorem len_qStep (c : Cf) (m : List Int) (f : Fr) : (qStep c m f).1.length = m.length := by
  unfold qStep; repeat' split
  all_goals first | rfl | exact len_store .. | exact len_cas ..
theorem eStep_no {c : Cf} {m : List Int} {f : Fr} (h : goesE c m f 3 = false) : eStep c m f = (m, f) := by simp [eStep, h]
theorem qStep_no {c : Cf} {m : List Int} {f : Fr} (h : goesE c m f 4 = false) : qStep c m f = (m, f) := by simp [qStep, h]
theorem goesE_over {c : Cf} {m : List Int} {f : Fr} {op : Int} (h : f.res ≠ 0) : goesE c m f op = false := by simp [goesE, h]

section
variable {c : Cf} {m : List Int}
theorem Inj.store (h : Inj c m) (i v : Int) : Inj c (mStore m i v) := ⟨h.may, by rw [len_store]; exact h.len⟩
theorem Inj.cas (h : Inj c m) (i v x : Int) : Inj c (mCas m i v x) := ⟨h.may, by rw [len_cas]; exact h.len⟩
theorem Inj.ipos (h : Inj c m) : 1 ≤ c.i ∧ c.i ≤ 16 := ⟨(mayC_iff.1 h.may).2.2.2.1, (mayC_iff.1 h.may).2.2.2.2.1⟩
theorem Inj.size (h : Inj c m) : 6 + 2 * c.i ≤ m.length ∧ (m.length : Int) ≤ 190 := by
  obtain ⟨h1, h2, h3, h4, h5, h6, h7⟩ := mayC_iff.1 h.may
  have hl := h.len
  unfold lSize at hl
  rw [h.may, if_pos rfl] at hl
  unfold lBase at *
  rcases h3 with e | e | e | e | e <;> rw [e] at hl <;> omega
theorem Inj.seq (h : Inj c m) {x : Int} (hx : InU x) : eSeq c x = 6 + x % c.i := by
  unfold eSeq InU at *
  rw [h.may, if_pos rfl, Int.tmod_eq_emod_of_nonneg hx.1]
theorem Inj.val (h : Inj c m) {x : Int} (hx : InU x) : eVal c x = 6 + c.i + x % c.i := by
  unfold eVal InU at *
  rw [h.may, if_pos rfl, Int.tmod_eq_emod_of_nonneg hx.1]
theorem Inj.mod (h : Inj c m) (x : Int) : 0 ≤ x % c.i ∧ x % c.i < c.i := ⟨Int.emod_nonneg _ (by have := h.ipos; omega), Int.emod_lt_of_pos _ (by have := h.ipos; omega)⟩
theorem Inj.in_tail (h : Inj c m) : isIn m 5 = true := by have := h.size; have := h.ipos; simp [isIn]; omega
theorem Inj.in_head (h : Inj c m) : isIn m 4 = true := by have := h.size; have := h.ipos; simp [isIn]; omega
theorem Inj.in_seq (h : Inj c m) {x : Int} (hx : InU x) : isIn m (eSeq c x) = true := by
  have := h.size; have := h.ipos; have := h.mod x; rw [h.seq hx]; simp [isIn]; omega
theorem Inj.in_val (h : Inj c m) {x : Int} (hx : InU x) : isIn m (eVal c x) = true := by
  have := h.size; have := h.ipos; have := h.mod x; rw [h.val hx]; simp [isIn]; omega
end
end Go.Vai
/- The injector by numbers: what a step leaves as it is. -/
namespace Go.Vai
open Go.RowKit
set_option linter.unusedVariables false
set_option linter.unusedSimpArgs false

theorem eSeq_lt {c : Cf} (hm : mayC c = true) (x : Int) : eSeq c x < 6 + c.i := by
  have hi : 1 ≤ c.i := (mayC_iff.1 hm).2.2.2.1
  have := Int.tmod_lt_of_pos x (show 0 < c.i by omega)
  unfold eSeq; rw [hm, if_pos rfl]; omega
theorem eVal_lt {c : Cf} (hm : mayC c = true) (x : Int) : eVal c x < 6 + 2 * c.i := by
  have hi : 1 ≤ c.i := (mayC_iff.1 hm).2.2.2.1
  have := Int.tmod_lt_of_pos x (show 0 < c.i by omega)
  unfold eVal; rw [hm, if_pos rfl]; omega

theorem load_cas_other {m : List Int} {i k : Int} (h : i ≠ k) (v w : Int) : mLoad (mCas m i v w) k = mLoad m k := by
  cases hc : mCasB m i v with
  | true => rw [cas_store hc, load_other h]
  | false => rw [cas_not hc]

/-- A put's step changes no deque's cells. -/
theorem eStep_far {c : Cf} {m : List Int} {f : Fr} {j : Int} (hj : 6 + 2 * c.i ≤ j) : mLoad (eStep c m f).1 j = mLoad m j := by
  unfold eStep
  split
  · rename_i hg
    have hm := (goesE_iff.1 hg).1.may
    have hi : 1 ≤ c.i := (mayC_iff.1 hm).2.2.2.1
    have h1 := eSeq_lt hm f.x
    have h2 := eVal_lt hm f.x
    repeat' split
    all_goals first | rfl | exact load_cas_other (by omega) _ _ | exact load_other (by omega) _
  · rfl
theorem qStep_far {c : Cf} {m : List Int} {f : Fr} {j : Int} (hj : 6 + 2 * c.i ≤ j) : mLoad (qStep c m f).1 j = mLoad m j := by
  unfold qStep
  split
  · rename_i hg
    have hm := (goesE_iff.1 hg).1.may
    have hi : 1 ≤ c.i := (mayC_iff.1 hm).2.2.2.1
    have h1 := eSeq_lt hm f.x
    have h2 := eVal_lt hm f.x
    repeat' split
    all_goals first | rfl | exact load_cas_other (by omega) _ _ | exact load_other (by omega) _
  · rfl

theorem base_far {c : Cf} {m : List Int} {w : Int} (h : Lay c m w) : 6 + 2 * c.i ≤ lBase c w := by
  have h0 := h.lo
  unfold lBase
  rcases h.dpos with e | e | e | e | e <;> rw [e] <;> omega

theorem list_far {c : Cf} {m m' : List Int} {w : Int} (hl : m'.length = m.length) (h : ∀ j, 6 + 2 * c.i ≤ j → mLoad m' j = mLoad m j) : dIs c m' w = dIs c m w ∧ dList c m' w = dList c m w := by
  refine list_congr hl fun hL => ?_
  have hb := base_far hL
  have a := top_at hL
  have b := bottom_at hL
  exact ⟨h _ (by omega), h _ (by omega), fun x => h _ (by have := slot_at hL x; omega)⟩

/-- What is put in, alone, changes no deque. -/
theorem eStep_list (c : Cf) (m : List Int) (f : Fr) (w : Int) : dIs c (eStep c m f).1 w = dIs c m w ∧ dList c (eStep c m f).1 w = dList c m w :=
  list_far (len_eStep ..) fun j hj => eStep_far hj
theorem qStep_list (c : Cf) (m : List Int) (f : Fr) (w : Int) : dIs c (qStep c m f).1 w = dIs c m w ∧ dList c (qStep c m f).1 w = dList c m w :=
  list_far (len_qStep ..) fun j hj => qStep_far hj

section
variable {c : Cf} {m : List Int} {w v x y : Int}
theorem goes_e {pc : Int} (h : Inj c m) (h0 : 0 ≤ pc) (h1 : pc < 5) : goesE c m ⟨3, pc, w, v, x, y, 0⟩ 3 = true := goesE_iff.2 ⟨h, rfl, rfl, h0, h1⟩
theorem goes_q {pc : Int} (h : Inj c m) (h0 : 0 ≤ pc) (h1 : pc < 5) : goesE c m ⟨4, pc, w, v, x, y, 0⟩ 4 = true := goesE_iff.2 ⟨h, rfl, rfl, h0, h1⟩
theorem enq_1 (h : Inj c m) : eStep c m ⟨3, 0, w, v, x, y, 0⟩ = (m, ⟨3, 1, w, v, mLoad m 5, y, 0⟩) := by simp [eStep, goes_e h]
theorem enq_2 (h : Inj c m) (e : mLoad m (eSeq c x) = eFree c x) : eStep c m ⟨3, 1, w, v, x, y, 0⟩ = (m, ⟨3, 2, w, v, x, eFree c x, 0⟩) := by simp [eStep, goes_e h, e]
theorem enq_2f (h : Inj c m) (e : far (mLoad m (eSeq c x)) (eFree c x) < 0) (ne : mLoad m (eSeq c x) ≠ eFree c x) : eStep c m ⟨3, 1, w, v, x, y, 0⟩ = (m, ⟨3, 0, w, v, 0, 0, 2⟩) := by simp [eStep, goes_e h, e, ne, fEnd]
theorem enq_3 (h : Inj c m) (e : mCasB m 5 x = true) : eStep c m ⟨3, 2, w, v, x, y, 0⟩ = (mStore m 5 (wrapU (x + 1)), ⟨3, 3, w, v, x, y, 0⟩) := by simp [eStep, goes_e h, e, cas_store e]
theorem enq_3r (h : Inj c m) (e : mCasB m 5 x = false) : eStep c m ⟨3, 2, w, v, x, y, 0⟩ = (m, ⟨3, 0, w, v, x, y, 0⟩) := by simp [eStep, goes_e h, e, cas_not e]
theorem enq_4 (h : Inj c m) : eStep c m ⟨3, 3, w, v, x, y, 0⟩ = (mStore m (eVal c x) v, ⟨3, 4, w, v, x, y, 0⟩) := by simp [eStep, goes_e h]
theorem enq_5 (h : Inj c m) : eStep c m ⟨3, 4, w, v, x, y, 0⟩ = (mStore m (eSeq c x) (wrapU (eFree c x + 1)), ⟨3, 0, w, v, 0, 0, 1⟩) := by simp [eStep, goes_e h, fEnd]
theorem enq_over {f : Fr} (h : f.res ≠ 0) : eStep c m f = (m, f) := eStep_no (goesE_over h)
end
end Go.Vai
/- Taking out of the injector, by numbers and lists alone: the document's step, and what the injector has. -/
namespace Go.Vai
open Go.RowKit
set_option linter.unusedVariables false
set_option linter.unusedSimpArgs false

def qFull (c : Cf) (x : Int) : Int := wrapU (eFree c x + 1)

/-- The document's take's next step. -/
def rqStep (c : Cf) (m : List Int) (f : Fr) : List Int × Fr :=
  if goesE c m f 4 = true then
    if f.pc = 0 then (m, ⟨f.op, 1, f.who, f.val, mLoad m 4, f.y, f.res⟩)
    else if f.pc = 1 then
      if mLoad m (eSeq c f.x) = qFull c f.x then (m, ⟨f.op, 2, f.who, f.val, f.x, mLoad m (eSeq c f.x), f.res⟩)
      else if far (mLoad m (eSeq c f.x)) (qFull c f.x) < 0 then (m, fEnd f 3 0)
      else (m, ⟨f.op, 0, f.who, f.val, f.x, mLoad m (eSeq c f.x), f.res⟩)
    else if f.pc = 2 then (mCas m 4 f.x (wrapU (f.x + 1)), ⟨f.op, if mCasB m 4 f.x = true then 3 else 0, f.who, f.val, f.x, f.y, f.res⟩)
    else if f.pc = 3 then (m, ⟨f.op, 4, f.who, mLoad m (eVal c f.x), f.x, f.y, f.res⟩)
    else (mStore m (eSeq c f.x) (wrapU (qFull c f.x + 1)), fEnd f 1 f.val)
  else (m, f)

theorem far_zero {a b : Int} (ha : InU a) (hb : InU b) : far a b = 0 ↔ a = b := by
  rw [far_eq ha hb]
  unfold InU at *
  omega

theorem rqStep_eq {c : Cf} {m : List Int} (h : InM m) (f : Fr) : rqStep c m f = qStep c m f := by
  unfold rqStep qStep
  split
  · split
    · rfl
    · split
      · have e := far_zero (load_u h (eSeq c f.x)) (wrapU_u (eFree c f.x + 1))
        unfold qFull
        by_cases q : mLoad m (eSeq c f.x) = wrapU (eFree c f.x + 1)
        · rw [if_pos q, if_pos (e.2 q)]
        · rw [if_neg q, if_neg (fun h => q (e.1 h))]
      · rfl
  · rfl
theorem rqStep_no {c : Cf} {m : List Int} {f : Fr} (h : goesE c m f 4 = false) : rqStep c m f = (m, f) := by simp [rqStep, h]
theorem len_rqStep (c : Cf) (m : List Int) (f : Fr) : (rqStep c m f).1.length = m.length := by
  unfold rqStep; repeat' split
  all_goals first | rfl | exact len_store .. | exact len_cas ..
end Go.Vai
/- What the injector has, by numbers and lists alone. -/
namespace Go.Vai
open Go.RowKit
set_option linter.unusedVariables false
set_option linter.unusedSimpArgs false

/-- The places from the head on. -/
def qX (h : Int) : Nat → Int
  | 0 => h
  | k + 1 => wrapU (qX h k + 1)
def qHas (m : List Int) (k : Nat) : Bool := decide ((k : Int) < wrapU (mLoad m 5 - mLoad m 4))
def qWant (c : Cf) (m : List Int) (k : Nat) : Int := if qHas m k = true then qFull c (qX (mLoad m 4) k) else wrapU (qFull c (qX (mLoad m 4) k) - 1)
def qOk (c : Cf) (m : List Int) (k : Nat) : Bool := mLoad m (eSeq c (qX (mLoad m 4) k)) == qWant c m k
def qVal (c : Cf) (m : List Int) (k : Nat) : Int := mLoad m (eVal c (qX (mLoad m 4) k))
def qOut (c : Cf) (m : List Int) : Nat → List Int
  | 0 => []
  | k + 1 => if qHas m k = true then qOut c m k ++ [qVal c m k] else qOut c m k
def qAll (c : Cf) (m : List Int) : Nat → Bool
  | 0 => true
  | k + 1 => qAll c m k && qOk c m k
def qList (c : Cf) (m : List Int) : List Int × Bool :=
  if eLen c m < 0 ∨ c.i < eLen c m then ([], false) else if qAll c m c.i.toNat = true then (qOut c m c.i.toNat, true) else ([], false)

theorem qX_off (h : Int) : ∀ k : Nat, (qX h k - h) % 18446744073709551616 = (k : Int) % 18446744073709551616
  | 0 => by simp [qX]
  | k + 1 => by
    have ih := qX_off h k
    rw [qX, wrapU_eq]
    omega
theorem qX_sub (h : Int) {k : Nat} (hk : k ≤ 1000) : wrapU (qX h k - h) = k := by
  rw [wrapU_eq, qX_off h k]; omega
theorem qX_eq {h : Int} (hh : InU h) (k : Nat) : qX h k = wrapU (h + k) := by
  induction k with
  | zero => rw [qX, wrapU_eq]; unfold InU at hh; omega
  | succ k ih => rw [qX, ih, wrapU_eq, wrapU_eq, wrapU_eq]; omega
theorem len_qOut (c : Cf) (m : List Int) : ∀ k, (qOut c m k).length ≤ k
  | 0 => Nat.le_refl _
  | k + 1 => by
    have := len_qOut c m k
    unfold qOut
    split
    · simp; omega
    · omega
theorem qAll_mono {c : Cf} {m : List Int} {k : Nat} (h : qAll c m k = false) : ∀ j, k ≤ j → qAll c m j = false
  | 0, hj => by
    have : k = 0 := by omega
    subst this; exact h
  | j + 1, hj => by
    by_cases e : k = j + 1
    · subst e; exact h
    · have := qAll_mono h j (by omega)
      simp [qAll, this]
theorem len_qList (c : Cf) (m : List Int) (hc : mayC c = true) : (qList c m).1.length ≤ 16 := by
  have := (mayC_iff.1 hc).2.2.2
  unfold qList
  split
  · simp
  · split
    · have := len_qOut c m c.i.toNat
      dsimp only; omega
    · simp

/-- The document's list. -/
def rqX (m : List Int) (k : Nat) : Int := wrapU (mLoad m 4 + wrapU k)
def rqOk (c : Cf) (m : List Int) (k : Nat) : Bool := if (k : Int) < eLen c m then mLoad m (eSeq c (rqX m k)) == qFull c (rqX m k) else mLoad m (eSeq c (rqX m k)) == eFree c (rqX m k)
def rqOut (c : Cf) (m : List Int) : Nat → List Int
  | 0 => []
  | k + 1 => if (k : Int) < eLen c m then rqOut c m k ++ [mLoad m (eVal c (rqX m k))] else rqOut c m k
def rqAll (c : Cf) (m : List Int) : Nat → Bool
  | 0 => true
  | k + 1 => rqAll c m k && rqOk c m k
def rqList (c : Cf) (m : List Int) : List Int × Bool :=
  if eLen c m < 0 ∨ c.i < eLen c m then ([], false) else if rqAll c m c.i.toNat = true then (rqOut c m c.i.toNat, true) else ([], false)
theorem len_rqOut (c : Cf) (m : List Int) : ∀ k, (rqOut c m k).length ≤ k
  | 0 => Nat.le_refl _
  | k + 1 => by
    have := len_rqOut c m k
    unfold rqOut
    split
    · simp; omega
    · omega

theorem qFull_sub (c : Cf) (x : Int) : wrapU (qFull c x - 1) = eFree c x := by
  have h : InU (eFree c x) := wrapU_u _
  unfold qFull InU at *
  rw [wrapU_eq, wrapU_eq]; omega

/-- The two lists are one, of cells in their range. -/
theorem rqList_eq {c : Cf} {m : List Int} (h : InM m) : rqList c m = qList c m := by
  unfold rqList qList
  split
  · rfl
  · rename_i hn
    have h4 := load_u h 4
    have h5 := load_u h 5
    have he : mayC c = true ∧ (m.length : Int) = lSize c := by
      by_cases hh : mayC c && decide ((m.length : Int) = lSize c)
      · simpa using hh
      · exfalso; apply hn; left; simp only [eLen]; rw [if_neg hh]; decide
    have hl : eLen c m = far (mLoad m 5) (mLoad m 4) := by simp [eLen, he.1, he.2]
    have hi := (mayC_iff.1 he.1).2.2.2
    have hw : wrapU (mLoad m 5 - mLoad m 4) = eLen c m := by
      rw [hl, far_eq h5 h4, wrapU_eq]
      rw [hl, far_eq h5 h4] at hn
      unfold InU at h4 h5
      omega
    have hx : ∀ k : Nat, k ≤ 1000 → rqX m k = qX (mLoad m 4) k := by
      intro k hk
      rw [qX_eq h4, rqX, wrapU_eq, wrapU_eq, wrapU_eq]; omega
    have hh : ∀ k : Nat, qHas m k = decide ((k : Int) < eLen c m) := by intro k; rw [qHas, hw]
    have hok : ∀ k : Nat, k ≤ 1000 → rqOk c m k = qOk c m k := by
      intro k hk
      unfold rqOk qOk qWant
      rw [hx k hk, hh k]
      by_cases e : (k : Int) < eLen c m
      · rw [if_pos e, if_pos (by simpa using e)]
      · rw [if_neg e, if_neg (by simpa using e), qFull_sub]
    have hall : ∀ k : Nat, k ≤ 1000 → rqAll c m k = qAll c m k := by
      intro k
      induction k with
      | zero => intro _; rfl
      | succ k ih => intro hk; rw [rqAll, qAll, ih (by omega), hok k (by omega)]
    have hout : ∀ k : Nat, k ≤ 1000 → rqOut c m k = qOut c m k := by
      intro k
      induction k with
      | zero => intro _; rfl
      | succ k ih =>
        intro hk
        rw [rqOut, qOut, ih (by omega), hh k, qVal, hx k (by omega)]
        by_cases e : (k : Int) < eLen c m
        · rw [if_pos e, if_pos (by simpa using e)]
        · rw [if_neg e, if_neg (by simpa using e)]
    rw [hall _ (by omega), hout _ (by omega)]
end Go.Vai
/- What all do at the injector, by lists alone. -/
namespace Go.Vai
open Go.RowKit
set_option linter.unusedVariables false
set_option linter.unusedSimpArgs false

def noneF : Fr := ⟨-1, 0, 0, 0, 0, 0, 0⟩

/-- A call's next step. -/
def iStep (c : Cf) (m : List Int) (f : Fr) : List Int × Fr := if f.op = 3 then eStep c m f else if f.op = 4 then qStep c m f else (m, f)
def riStep (c : Cf) (m : List Int) (f : Fr) : List Int × Fr := if f.op = 3 then eStep c m f else if f.op = 4 then rqStep c m f else (m, f)
theorem riStep_eq {c : Cf} {m : List Int} (h : InM m) (f : Fr) : riStep c m f = iStep c m f := by
  unfold riStep iStep; rw [rqStep_eq h]
theorem len_iStep (c : Cf) (m : List Int) (f : Fr) : (iStep c m f).1.length = m.length := by
  unfold iStep; repeat' split
  all_goals first | rfl | exact len_eStep .. | exact len_qStep ..
theorem len_riStep (c : Cf) (m : List Int) (f : Fr) : (riStep c m f).1.length = m.length := by
  unfold riStep; repeat' split
  all_goals first | rfl | exact len_eStep .. | exact len_rqStep ..

/-- The next call of a list, and what is left of it. -/
def nextP (i : Int) : List Fr → Fr × List Fr
  | [] => (noneF, [])
  | x :: r => if x.op = 3 ∨ x.op = 4 then (⟨x.op, 0, i, x.val, 0, 0, 0⟩, r) else nextP i r

structure Pl where
  m : List Int
  left : List (List Fr)
  hand : List Fr
  over : List Fr

/-- What is at hand of one, and what is left of its list, ahead of its step. -/
def pHand (s : Pl) (i : Nat) : Fr × List Fr :=
  if (s.hand.getD i noneF).op = -1 then nextP i (s.left.getD i []) else (s.hand.getD i noneF, s.left.getD i [])

/-- One step of one of them. -/
abbrev Stp := Cf → List Int → Fr → List Int × Fr
def pRound (st : Stp) (c : Cf) (s : Pl) (i : Nat) : Pl :=
  let p := pHand s i
  let r := st c s.m p.1
  if r.2.res = 0 then ⟨r.1, s.left.set i p.2, s.hand.set i r.2, s.over⟩ else ⟨r.1, s.left.set i p.2, s.hand.set i noneF, s.over ++ [r.2]⟩

def pTurn (st : Stp) (c : Cf) (n : Nat) (s : Pl) (i : Int) : Pl := if 0 ≤ i ∧ i < n then pRound st c s i.toNat else s

def pStart (c : Cf) (calls : List (List Fr)) : Pl := ⟨zeros (lSize c).toNat, calls, List.replicate calls.length noneF, []⟩

def pAll (st : Stp) (c : Cf) (calls : List (List Fr)) (who : List Int) : Pl := who.foldl (pTurn st c calls.length) (pStart c calls)

def injC (room : Int) : Cf := ⟨1, 1, room, 0⟩

def gPlay (st : Stp) (room : Int) (calls : List (List Fr)) (who : List Int) : List Int × List Fr × List Fr :=
  if mayC (injC room) = true ∧ calls.length ≤ 8 then ((pAll st (injC room) calls who).m, (pAll st (injC room) calls who).over, (pAll st (injC room) calls who).hand) else ([], [], [])
def iPlay := gPlay iStep
def rPlay := gPlay riStep

/-- One ends what is at hand: so many steps at most. -/
def restN (st : Stp) (c : Cf) : Nat → List Int × Fr → List Int × Fr
  | 0, s => s
  | n + 1, s => if s.2.op = -1 ∨ s.2.res ≠ 0 then s else restN st c n (st c s.1 s.2)

/-- One of them ends what it has at hand. -/
def restAt (st : Stp) (c : Cf) (s : List Int × List Fr) (i : Nat) : List Int × List Fr :=
  ((restN st c 20 (s.1, s.2.getD i noneF)).1, s.2.set i (restN st c 20 (s.1, s.2.getD i noneF)).2)
def restTo (st : Stp) (c : Cf) (s : List Int × List Fr) : Nat → List Int × List Fr
  | 0 => s
  | i + 1 => restAt st c (restTo st c s i) i
def restK (st : Stp) (c : Cf) (s : List Int × List Fr) : Nat → List Int × List Fr
  | 0 => s
  | k + 1 => restTo st c (restK st c s k) (restK st c s k).2.length

def gRest (st : Stp) (room : Int) (m : List Int) (hand : List Fr) : List Int × List Fr :=
  if mayC (injC room) = true ∧ (m.length : Int) = lSize (injC room) then restK st (injC room) (m, hand) 10 else ([], [])
def iRest := gRest iStep
def rRest := gRest riStep

section
variable {st : Stp} (hst : ∀ c m f, (st c m f).1.length = m.length)
include hst

theorem len_pRound (c : Cf) (s : Pl) (i : Nat) : (pRound st c s i).m.length = s.m.length ∧ (pRound st c s i).left.length = s.left.length ∧ (pRound st c s i).hand.length = s.hand.length ∧ (pRound st c s i).over.length ≤ s.over.length + 1 := by
  unfold pRound
  dsimp only
  split <;> simp [hst]

theorem len_pTurn (c : Cf) (n : Nat) (s : Pl) (i : Int) : (pTurn st c n s i).m.length = s.m.length ∧ (pTurn st c n s i).left.length = s.left.length ∧ (pTurn st c n s i).hand.length = s.hand.length ∧ (pTurn st c n s i).over.length ≤ s.over.length + 1 := by
  unfold pTurn
  split
  · exact len_pRound hst ..
  · exact ⟨rfl, rfl, rfl, by omega⟩

theorem len_pFold (c : Cf) (n : Nat) : ∀ (who : List Int) (s : Pl), (who.foldl (pTurn st c n) s).m.length = s.m.length ∧ (who.foldl (pTurn st c n) s).left.length = s.left.length ∧ (who.foldl (pTurn st c n) s).hand.length = s.hand.length ∧
    (who.foldl (pTurn st c n) s).over.length ≤ s.over.length + who.length
  | [], s => ⟨rfl, rfl, rfl, by simp⟩
  | i :: r, s => by
    obtain ⟨h1, h2, h3, h4⟩ := len_pFold c n r (pTurn st c n s i)
    obtain ⟨g1, g2, g3, g4⟩ := len_pTurn hst c n s i
    simp only [List.foldl_cons, List.length_cons]
    exact ⟨h1.trans g1, h2.trans g2, h3.trans g3, by omega⟩

omit hst in
theorem pFold_take (c : Cf) (n : Nat) (s : Pl) (who : List Int) (k : Nat) (hk : k < who.length) : (who.take (k + 1)).foldl (pTurn st c n) s = pTurn st c n ((who.take k).foldl (pTurn st c n) s) (who.getD k 0) := by
  rw [List.take_succ_eq_append_getElem hk, List.foldl_append]
  simp [List.getD_eq_getElem?_getD, hk]

end

theorem len_nextP (i : Int) : ∀ l : List Fr, (nextP i l).2.length ≤ l.length
  | [] => Nat.le_refl _
  | x :: r => by
    have := len_nextP i r
    unfold nextP
    split
    · simp
    · simp; omega

/-- How long what is left may be. -/
def Short (n : Nat) (left : List (List Fr)) : Prop := ∀ l ∈ left, l.length ≤ n
theorem Short.get {n : Nat} {left : List (List Fr)} (h : Short n left) (i : Nat) : (left.getD i []).length ≤ n := by
  rw [List.getD_eq_getElem?_getD]
  cases e : left[i]? with
  | none => simp
  | some l => exact h l (List.mem_of_getElem? e)
theorem Short.set {n : Nat} {left : List (List Fr)} (h : Short n left) (i : Nat) {l : List Fr} (hl : l.length ≤ n) : Short n (left.set i l) := by
  intro x hx
  rcases List.mem_or_eq_of_mem_set hx with h1 | h1
  · exact h x h1
  · rw [h1]; exact hl
theorem pHand_short {n : Nat} {s : Pl} (h : Short n s.left) (i : Nat) : (pHand s i).2.length ≤ n := by
  unfold pHand
  split
  · exact Nat.le_trans (len_nextP ..) (h.get i)
  · exact h.get i
theorem pTurn_short {st : Stp} {n k : Nat} {c : Cf} {s : Pl} (h : Short n s.left) (i : Int) : Short n (pTurn st c k s i).left := by
  unfold pTurn pRound
  dsimp only
  split
  · split
    · exact h.set _ (pHand_short h _)
    · exact h.set _ (pHand_short h _)
  · exact h
theorem pFold_short {st : Stp} {n k : Nat} {c : Cf} : ∀ (who : List Int) {s : Pl}, Short n s.left → Short n (who.foldl (pTurn st c k) s).left
  | [], s, h => h
  | i :: r, s, h => pFold_short r (pTurn_short h i)

theorem pFold_inv {st : Stp} {c : Cf} {n : Nat} (I : Pl → Prop) {s : Pl} (h0 : I s) (hs : ∀ s i, I s → I (pTurn st c n s i)) : ∀ who : List Int, I (who.foldl (pTurn st c n) s) := by
  intro who
  induction who generalizing s with
  | nil => exact h0
  | cons i r ih => exact ih (hs s i h0)

theorem lSize_le (c : Cf) : lSize c ≤ 190 := by
  unfold lSize
  split
  · rename_i hc
    obtain ⟨h1, h2, h3, h4, h5, h6, h7⟩ := mayC_iff.1 hc
    unfold lBase at *
    rcases h3 with e | e | e | e | e <;> rw [e] <;> omega
  · omega

theorem lSize_pos (c : Cf) : 0 ≤ lSize c := by
  unfold lSize
  split
  · rename_i hc
    obtain ⟨h1, h2, h3, h4, h5, h6, h7⟩ := mayC_iff.1 hc
    unfold lBase at *
    rcases h3 with e | e | e | e | e <;> rw [e] <;> omega
  · omega

/-- What a play is like, turn by turn. -/
structure Plays (st : Stp) (c : Cf) (calls : List (List Fr)) (who : List Int) (S : Nat → Pl) : Prop where
  zero : S 0 = pStart c calls
  succ : ∀ k, k < who.length → S (k + 1) = pTurn st c calls.length (S k) (who.getD k 0)
  last : S who.length = pAll st c calls who
  hand : ∀ k, (S k).hand.length = calls.length
  left : ∀ k, (S k).left.length = calls.length
  m : ∀ k, (S k).m.length ≤ 1000
  over : ∀ k, (S k).over.length ≤ who.length
  short : ∀ n, Short n calls → ∀ k, Short n (S k).left
  inv : ∀ I : Pl → Prop, I (pStart c calls) → (∀ s i, I s → I (pTurn st c calls.length s i)) → ∀ k, I (S k)

theorem plays {st : Stp} (hst : ∀ c m f, (st c m f).1.length = m.length) (c : Cf) (calls : List (List Fr)) (who : List Int) : ∃ S, Plays st c calls who S := by
  refine ⟨fun k => (who.take k).foldl (pTurn st c calls.length) (pStart c calls), rfl, fun k hk => pFold_take _ _ _ _ _ hk, by simp [pAll], ?_, ?_, ?_, ?_, ?_, ?_⟩
  all_goals intro k
  · rw [(len_pFold hst ..).2.2.1]; simp [pStart]
  · rw [(len_pFold hst ..).2.1]; simp [pStart]
  · rw [(len_pFold hst ..).1]; simp only [pStart, zeros_len]; have := lSize_le c; omega
  · have := (len_pFold hst c calls.length (who.take k) (pStart c calls)).2.2.2
    simp only [pStart, List.length_nil, List.length_take] at this
    refine Nat.le_trans this ?_
    omega
  · intro h j; exact pFold_short _ h
  · intro h0 hs j; exact pFold_inv k h0 hs _

theorem pTurn_nil (st : Stp) (c : Cf) (s : Pl) (i : Int) : pTurn st c 0 s i = s := by rw [pTurn, if_neg (by omega)]
theorem pAll_nil (st : Stp) (c : Cf) (who : List Int) : pAll st c [] who = pStart c [] := by
  unfold pAll
  generalize pStart c [] = s
  induction who generalizing s with
  | nil => rfl
  | cons i r ih => rw [List.foldl_cons, List.length_nil, pTurn_nil]; exact ih s

theorem op_eStep (c : Cf) (m : List Int) (f : Fr) : (eStep c m f).2.op = f.op := by
  unfold eStep; repeat' split
  all_goals rfl
theorem op_qStep (c : Cf) (m : List Int) (f : Fr) : (qStep c m f).2.op = f.op := by
  unfold qStep; repeat' split
  all_goals rfl
theorem op_rqStep (c : Cf) (m : List Int) (f : Fr) : (rqStep c m f).2.op = f.op := by
  unfold rqStep; repeat' split
  all_goals rfl
theorem op_iStep (c : Cf) (m : List Int) (f : Fr) : (iStep c m f).2.op = f.op := by
  unfold iStep; repeat' split
  all_goals first | rfl | exact op_eStep .. | exact op_qStep ..
theorem op_riStep (c : Cf) (m : List Int) (f : Fr) : (riStep c m f).2.op = f.op := by
  unfold riStep; repeat' split
  all_goals first | rfl | exact op_eStep .. | exact op_rqStep ..
theorem iStep_none (c : Cf) (m : List Int) : iStep c m noneF = (m, noneF) := rfl
theorem riStep_none (c : Cf) (m : List Int) : riStep c m noneF = (m, noneF) := rfl

theorem nextP_op (i : Int) : ∀ l : List Fr, nextP i l = (noneF, []) ∨ (nextP i l).1.op = 3 ∨ (nextP i l).1.op = 4
  | [] => .inl rfl
  | x :: r => by
    unfold nextP
    split
    · exact .inr ‹_›
    · exact nextP_op i r
theorem nextP_suf (i : Int) : ∀ l : List Fr, (nextP i l).2 <:+ l
  | [] => List.suffix_refl _
  | x :: r => by
    unfold nextP
    split
    · exact List.suffix_cons x r
    · exact (nextP_suf i r).trans (List.suffix_cons x r)

/-- What is at hand is nothing, or a call. -/
def OpOk (x : Fr) : Prop := x = noneF ∨ x.op = 3 ∨ x.op = 4
def Sane (s : Pl) : Prop := ∀ i, OpOk (s.hand.getD i noneF)

theorem getD_set {α : Type} (l : List α) (k i : Nat) (a d : α) : (l.set k a).getD i d = if k = i ∧ k < l.length then a else l.getD i d := by
  rw [List.getD_eq_getElem?_getD, List.getElem?_set, List.getD_eq_getElem?_getD]
  by_cases h : k = i
  · subst h
    by_cases h2 : k < l.length
    · simp [h2]
    · simp [h2]
  · simp [h]

theorem pHand_ok {s : Pl} (h : Sane s) (i : Nat) : OpOk (pHand s i).1 := by
  unfold pHand
  split
  · rcases nextP_op i (s.left.getD i []) with e | e | e
    · rw [e]; exact .inl rfl
    · exact .inr (.inl e)
    · exact .inr (.inr e)
  · exact h i

theorem pTurn_sane {st : Stp} (hop : ∀ c m f, (st c m f).2.op = f.op) (hno : ∀ c m, st c m noneF = (m, noneF)) {c : Cf} {n : Nat} {s : Pl} (h : Sane s) (i : Int) : Sane (pTurn st c n s i) := by
  unfold pTurn pRound
  dsimp only
  split
  · split
    · intro j
      show OpOk ((s.hand.set _ _).getD j noneF)
      rw [getD_set]
      split
      · rcases pHand_ok h i.toNat with e | e | e
        · rw [e, hno]; exact .inl rfl
        · exact .inr (.inl ((hop ..).trans e))
        · exact .inr (.inr ((hop ..).trans e))
      · exact h j
    · intro j
      show OpOk ((s.hand.set _ _).getD j noneF)
      rw [getD_set]
      split
      · exact .inl rfl
      · exact h j
  · exact h

def Suf (calls : List (List Fr)) (s : Pl) : Prop := ∀ i, s.left.getD i [] <:+ calls.getD i []
theorem pHand_suf (s : Pl) (i : Nat) : (pHand s i).2 <:+ s.left.getD i [] := by
  unfold pHand
  split
  · exact nextP_suf ..
  · exact List.suffix_refl _
theorem pTurn_suf {st : Stp} {calls : List (List Fr)} {c : Cf} {n : Nat} {s : Pl} (h : Suf calls s) (i : Int) : Suf calls (pTurn st c n s i) := by
  have key : Suf calls ⟨s.m, s.left.set i.toNat (pHand s i.toNat).2, s.hand, s.over⟩ := by
    intro j
    show (s.left.set _ _).getD j [] <:+ _
    rw [getD_set]
    split
    · rename_i e
      rw [← e.1]
      exact (pHand_suf s i.toNat).trans (h i.toNat)
    · exact h j
  unfold pTurn pRound
  dsimp only
  split
  · split
    · exact key
    · exact key
  · exact h

theorem Plays.sane {st : Stp} (hop : ∀ c m f, (st c m f).2.op = f.op) (hno : ∀ c m, st c m noneF = (m, noneF)) {c : Cf} {calls : List (List Fr)} {who : List Int} {S : Nat → Pl} (h : Plays st c calls who S) (k : Nat) : Sane (S k) := by
  refine h.inv Sane ?_ (fun s i hs => pTurn_sane hop hno hs i) k
  intro i
  simp only [pStart]
  rw [List.getD_eq_getElem?_getD, List.getElem?_replicate]
  split <;> exact .inl rfl
theorem Plays.suf {st : Stp} {c : Cf} {calls : List (List Fr)} {who : List Int} {S : Nat → Pl} (h : Plays st c calls who S) (k : Nat) : Suf calls (S k) :=
  h.inv (Suf calls) (fun i => List.suffix_refl _) (fun s i hs => pTurn_suf hs i) k

/-- How many of each list are gone. -/
def goneP (calls left : List (List Fr)) : List Int := List.zipWith (fun a b => (((a.length - b.length : Nat)) : Int)) calls left
theorem len_goneP {calls left : List (List Fr)} (h : left.length = calls.length) : (goneP calls left).length = calls.length := by simp [goneP, h]
theorem goneP_getD {calls left : List (List Fr)} {i : Nat} (h1 : i < calls.length) (h2 : i < left.length) : (goneP calls left).getD i 0 = (((calls.getD i []).length - (left.getD i []).length : Nat) : Int) := by
  simp [goneP, List.getD_eq_getElem?_getD, List.getElem?_zipWith, h1, h2]
theorem goneP_set {calls left : List (List Fr)} {i : Nat} (h1 : i < calls.length) (l : List Fr) : goneP calls (left.set i l) = (goneP calls left).set i ((((calls.getD i []).length - l.length : Nat)) : Int) := by
  apply List.ext_getElem?
  intro j
  simp only [goneP, List.getElem?_zipWith, List.getElem?_set, List.length_zipWith]
  by_cases e : i = j
  · subst e
    by_cases h2 : i < left.length
    · simp [h1, h2, List.getD_eq_getElem?_getD]; omega
    · simp [h2]; omega
  · simp [e]
theorem goneP_self (calls : List (List Fr)) : goneP calls calls = List.replicate calls.length 0 := by
  induction calls with
  | nil => rfl
  | cons a r ih =>
    simp only [goneP, List.zipWith_cons_cons, Nat.sub_self, List.length_cons, List.replicate_succ] at ih ⊢
    rw [ih]; rfl
theorem suf_drop {l r : List Fr} (h : r <:+ l) : l.drop (l.length - r.length) = r := (List.suffix_iff_eq_drop.1 h).symm

section
variable {st : Stp} (hst : ∀ c m f, (st c m f).1.length = m.length)
include hst
theorem len_restN (c : Cf) : ∀ (n : Nat) (s : List Int × Fr), (restN st c n s).1.length = s.1.length
  | 0, s => rfl
  | n + 1, s => by
    unfold restN
    split
    · rfl
    · rw [len_restN c n]; exact hst ..
theorem len_restTo (c : Cf) (s : List Int × List Fr) : ∀ i : Nat, (restTo st c s i).1.length = s.1.length ∧ (restTo st c s i).2.length = s.2.length
  | 0 => ⟨rfl, rfl⟩
  | i + 1 => by
    obtain ⟨h1, h2⟩ := len_restTo c s i
    unfold restTo restAt
    exact ⟨(len_restN hst ..).trans h1, by simp [h2]⟩
theorem len_restK (c : Cf) (s : List Int × List Fr) : ∀ k : Nat, (restK st c s k).1.length = s.1.length ∧ (restK st c s k).2.length = s.2.length
  | 0 => ⟨rfl, rfl⟩
  | k + 1 => by
    obtain ⟨h1, h2⟩ := len_restK c s k
    unfold restK
    obtain ⟨g1, g2⟩ := len_restTo hst c (restK st c s k) (restK st c s k).2.length
    exact ⟨g1.trans h1, g2.trans h2⟩
end
theorem restN_stop {st : Stp} {c : Cf} {n : Nat} {s : List Int × Fr} (h : s.2.op = -1 ∨ s.2.res ≠ 0) : restN st c n s = s := by
  cases n with
  | zero => rfl
  | succ n => unfold restN; exact if_pos h
theorem restN_go {st : Stp} {c : Cf} {n : Nat} {s : List Int × Fr} (h : ¬ (s.2.op = -1 ∨ s.2.res ≠ 0)) : restN st c (n + 1) s = restN st c n (st c s.1 s.2) := by
  rw [restN]; exact if_neg h
end Go.Vai
/- What all do at one deque, by lists alone. -/
namespace Go.Vai
open Go.RowKit
set_option linter.unusedVariables false
set_option linter.unusedSimpArgs false

/-- A call's next step. -/
def dqStep (c : Cf) (m : List Int) (f : Fr) : List Int × Fr := if f.op = 0 then pStep c m f else if f.op = 1 then oStep c m f else if f.op = 2 then sStep c m f else (m, f)
theorem len_dqStep (c : Cf) (m : List Int) (f : Fr) : (dqStep c m f).1.length = m.length := by
  unfold dqStep; repeat' split
  all_goals first | rfl | exact len_pStep .. | exact len_oStep .. | exact len_sStep ..

/-- The owner's next call, and what is left. -/
def nextO : List Fr → Fr × List Fr
  | [] => (noneF, [])
  | x :: r => if x.op = 0 ∨ x.op = 1 then (⟨x.op, 0, 0, x.val, 0, 0, 0⟩, r) else nextO r
def nextD (i : Nat) (own : List Fr) : Fr × List Fr := if 0 < i then (⟨2, 0, 0, 0, 0, 0, 0⟩, own) else nextO own

structure Dl where
  m : List Int
  own : List Fr
  hand : List Fr
  over : List Fr

def dHand (s : Dl) (i : Nat) : Fr × List Fr :=
  if (s.hand.getD i noneF).op = -1 then nextD i s.own else (s.hand.getD i noneF, s.own)
def withWho (f : Fr) (i : Int) : Fr := ⟨f.op, f.pc, i, f.val, f.x, f.y, f.res⟩
def dRound (st : Stp) (c : Cf) (s : Dl) (i : Nat) : Dl :=
  let p := dHand s i
  let r := st c s.m p.1
  if r.2.res = 0 then ⟨r.1, p.2, s.hand.set i r.2, s.over⟩ else ⟨r.1, p.2, s.hand.set i noneF, s.over ++ [withWho r.2 i]⟩
def dTurn (st : Stp) (c : Cf) (n : Int) (s : Dl) (i : Int) : Dl := if 0 ≤ i ∧ i ≤ n then dRound st c s i.toNat else s
def dStart (c : Cf) (n : Int) (own : List Fr) : Dl := ⟨zeros (lSize c).toNat, own, List.replicate (n + 1).toNat noneF, []⟩
def dAll (st : Stp) (c : Cf) (n : Int) (own : List Fr) (who : List Int) : Dl := who.foldl (dTurn st c n) (dStart c n own)
def dqC (d : Int) : Cf := ⟨1, d, 1, 0⟩
def gDPlay (st : Stp) (d n : Int) (own : List Fr) (who : List Int) : List Int × List Fr × List Fr :=
  if mayC (dqC d) = true ∧ 0 ≤ n ∧ n ≤ 8 then ((dAll st (dqC d) n own who).m, (dAll st (dqC d) n own who).over, (dAll st (dqC d) n own who).hand) else ([], [], [])
def dPlay := gDPlay dqStep

/-- What is at hand ends. -/
def gDRest (st : Stp) (d : Int) (m : List Int) (hand : List Fr) : List Int × List Fr :=
  if mayC (dqC d) = true ∧ (m.length : Int) = lSize (dqC d) then restTo st (dqC d) (m, hand) hand.length else ([], [])
def dRest := gDRest dqStep

section
variable {st : Stp} (hst : ∀ c m f, (st c m f).1.length = m.length)
include hst
theorem len_dTurn (c : Cf) (n : Int) (s : Dl) (i : Int) : (dTurn st c n s i).m.length = s.m.length ∧ (dTurn st c n s i).hand.length = s.hand.length ∧ s.over.length ≤ (dTurn st c n s i).over.length ∧ (dTurn st c n s i).over.length ≤ s.over.length + 1 := by
  unfold dTurn dRound
  dsimp only
  split
  · split <;> simp [hst]
  · exact ⟨rfl, rfl, by omega, by omega⟩
theorem len_dFold (c : Cf) (n : Int) : ∀ (who : List Int) (s : Dl), (who.foldl (dTurn st c n) s).m.length = s.m.length ∧ (who.foldl (dTurn st c n) s).hand.length = s.hand.length ∧
    s.over.length ≤ (who.foldl (dTurn st c n) s).over.length ∧ (who.foldl (dTurn st c n) s).over.length ≤ s.over.length + who.length
  | [], s => ⟨rfl, rfl, by simp, by simp⟩
  | i :: r, s => by
    obtain ⟨h1, h2, h3, h4⟩ := len_dFold c n r (dTurn st c n s i)
    obtain ⟨g1, g2, g3, g4⟩ := len_dTurn hst c n s i
    simp only [List.foldl_cons, List.length_cons]
    exact ⟨h1.trans g1, h2.trans g2, by omega, by omega⟩
end

theorem nextO_suf : ∀ l : List Fr, (nextO l).2 <:+ l
  | [] => List.suffix_refl _
  | x :: r => by
    unfold nextO
    split
    · exact List.suffix_cons x r
    · exact (nextO_suf r).trans (List.suffix_cons x r)
theorem nextD_suf (i : Nat) (l : List Fr) : (nextD i l).2 <:+ l := by
  unfold nextD; split
  · exact List.suffix_refl _
  · exact nextO_suf l
theorem nextO_op : ∀ l : List Fr, nextO l = (noneF, []) ∨ (nextO l).1.op = 0 ∨ (nextO l).1.op = 1
  | [] => .inl rfl
  | x :: r => by
    unfold nextO
    split
    · exact .inr ‹_›
    · exact nextO_op r
theorem dHand_suf (s : Dl) (i : Nat) : (dHand s i).2 <:+ s.own := by
  unfold dHand; split
  · exact nextD_suf ..
  · exact List.suffix_refl _
theorem dTurn_suf {st : Stp} {c : Cf} {n : Int} (s : Dl) (i : Int) : (dTurn st c n s i).own <:+ s.own := by
  unfold dTurn dRound
  dsimp only
  split
  · split <;> exact dHand_suf ..
  · exact List.suffix_refl _
theorem dFold_inv {st : Stp} {c : Cf} {n : Int} (I : Dl → Prop) {s : Dl} (h0 : I s) (hs : ∀ s i, I s → I (dTurn st c n s i)) : ∀ who : List Int, I (who.foldl (dTurn st c n) s) := by
  intro who
  induction who generalizing s with
  | nil => exact h0
  | cons i r ih => exact ih (hs s i h0)
theorem dFold_take {st : Stp} (c : Cf) (n : Int) (s : Dl) (who : List Int) (k : Nat) (hk : k < who.length) : (who.take (k + 1)).foldl (dTurn st c n) s = dTurn st c n ((who.take k).foldl (dTurn st c n) s) (who.getD k 0) := by
  rw [List.take_succ_eq_append_getElem hk, List.foldl_append]
  simp [List.getD_eq_getElem?_getD, hk]

/-- What is at hand is nothing, or a call of one's. -/
def OpD (x : Fr) : Prop := x = noneF ∨ x.op = 0 ∨ x.op = 1 ∨ x.op = 2
def SaneD (s : Dl) : Prop := ∀ i, OpD (s.hand.getD i noneF)
theorem op_pStep (c : Cf) (m : List Int) (f : Fr) : (pStep c m f).2.op = f.op := by
  unfold pStep; repeat' split
  all_goals rfl
theorem op_oStep (c : Cf) (m : List Int) (f : Fr) : (oStep c m f).2.op = f.op := by
  unfold oStep; repeat' split
  all_goals rfl
theorem op_sStep (c : Cf) (m : List Int) (f : Fr) : (sStep c m f).2.op = f.op := by
  unfold sStep; repeat' split
  all_goals rfl
theorem op_dqStep (c : Cf) (m : List Int) (f : Fr) : (dqStep c m f).2.op = f.op := by
  unfold dqStep; repeat' split
  all_goals first | rfl | exact op_pStep .. | exact op_oStep .. | exact op_sStep ..
theorem dqStep_none (c : Cf) (m : List Int) : dqStep c m noneF = (m, noneF) := rfl
theorem nextD_ok (i : Nat) (l : List Fr) : OpD (nextD i l).1 := by
  unfold nextD; split
  · exact .inr (.inr (.inr rfl))
  · rcases nextO_op l with e | e | e
    · rw [e]; exact .inl rfl
    · exact .inr (.inl e)
    · exact .inr (.inr (.inl e))
theorem dHand_ok {s : Dl} (h : SaneD s) (i : Nat) : OpD (dHand s i).1 := by
  unfold dHand; split
  · exact nextD_ok ..
  · exact h i
theorem dTurn_sane {st : Stp} (hop : ∀ c m f, (st c m f).2.op = f.op) (hno : ∀ c m, st c m noneF = (m, noneF)) {c : Cf} {n : Int} {s : Dl} (h : SaneD s) (i : Int) : SaneD (dTurn st c n s i) := by
  unfold dTurn dRound
  dsimp only
  split
  · split
    · intro j
      show OpD ((s.hand.set _ _).getD j noneF)
      rw [getD_set]
      split
      · rcases dHand_ok h i.toNat with e | e | e | e
        · rw [e, hno]; exact .inl rfl
        · exact .inr (.inl ((hop ..).trans e))
        · exact .inr (.inr (.inl ((hop ..).trans e)))
        · exact .inr (.inr (.inr ((hop ..).trans e)))
      · exact h j
    · intro j
      show OpD ((s.hand.set _ _).getD j noneF)
      rw [getD_set]
      split
      · exact .inl rfl
      · exact h j
  · exact h

/-- What a play is like, turn by turn. -/
structure DPlays (st : Stp) (c : Cf) (n : Int) (own : List Fr) (who : List Int) (S : Nat → Dl) : Prop where
  zero : S 0 = dStart c n own
  succ : ∀ k, k < who.length → S (k + 1) = dTurn st c n (S k) (who.getD k 0)
  last : S who.length = dAll st c n own who
  hand : ∀ k, (S k).hand.length = (n + 1).toNat
  m : ∀ k, (S k).m.length ≤ 1000
  over : ∀ k, (S k).over.length ≤ who.length
  suf : ∀ k, (S k).own <:+ own
  inv : ∀ I : Dl → Prop, I (dStart c n own) → (∀ s i, I s → I (dTurn st c n s i)) → ∀ k, I (S k)
theorem dplays {st : Stp} (hst : ∀ c m f, (st c m f).1.length = m.length) (c : Cf) (n : Int) (own : List Fr) (who : List Int) : ∃ S, DPlays st c n own who S := by
  refine ⟨fun k => (who.take k).foldl (dTurn st c n) (dStart c n own), rfl, fun k hk => dFold_take _ _ _ _ _ hk, by simp [dAll], ?_, ?_, ?_, ?_, ?_⟩
  all_goals intro k
  · rw [(len_dFold hst ..).2.1]; simp [dStart]
  · rw [(len_dFold hst ..).1]; simp only [dStart, zeros_len]; have := lSize_le c; omega
  · have := (len_dFold hst c n (who.take k) (dStart c n own)).2.2.2
    simp only [dStart, List.length_nil, List.length_take] at this
    refine Nat.le_trans this ?_
    omega
  · exact dFold_inv (fun s => s.own <:+ own) (List.suffix_refl _) (fun s i hs => (dTurn_suf s i).trans hs) _
  · intro h0 hs j; exact dFold_inv k h0 hs _
theorem DPlays.sane {st : Stp} (hop : ∀ c m f, (st c m f).2.op = f.op) (hno : ∀ c m, st c m noneF = (m, noneF)) {c : Cf} {n : Int} {own : List Fr} {who : List Int} {S : Nat → Dl} (h : DPlays st c n own who S) (k : Nat) : SaneD (S k) := by
  refine h.inv SaneD ?_ (fun s i hs => dTurn_sane hop hno hs i) k
  intro i
  simp only [dStart]
  rw [List.getD_eq_getElem?_getD, List.getElem?_replicate]
  split <;> exact .inl rfl
theorem len_dPlay (d n : Int) (own : List Fr) (who : List Int) : (dPlay d n own who).1.length ≤ 190 ∧ (dPlay d n own who).2.1.length ≤ who.length ∧ (dPlay d n own who).2.2.length ≤ 9 := by
  unfold dPlay gDPlay dAll
  split
  · obtain ⟨h1, h2, h3, h4⟩ := len_dFold len_dqStep (dqC d) n who (dStart (dqC d) n own)
    refine ⟨?_, ?_, ?_⟩
    · dsimp only; rw [h1]; simp only [dStart, zeros_len]; have := lSize_le (dqC d); omega
    · dsimp only; simp only [dStart, List.length_nil] at h4 ⊢; omega
    · dsimp only; rw [h2]; simp only [dStart, List.length_replicate]; omega
  · simp
theorem len_dRest (d : Int) (m : List Int) (hand : List Fr) : (dRest d m hand).1.length ≤ m.length ∧ (dRest d m hand).2.length ≤ hand.length := by
  unfold dRest gDRest
  split
  · obtain ⟨h1, h2⟩ := len_restTo len_dqStep (dqC d) (m, hand) hand.length
    exact ⟨by rw [h1]; exact Nat.le_refl _, by rw [h2]; exact Nat.le_refl _⟩
  · simp

/-- With more steps behind: what was over, and others. -/
theorem dTurn_over (st : Stp) (c : Cf) (n : Int) (s : Dl) (i : Int) : s.over <+: (dTurn st c n s i).over := by
  unfold dTurn dRound
  dsimp only
  split
  · split
    · exact List.prefix_refl _
    · exact List.prefix_append ..
  · exact List.prefix_refl _
theorem dFold_over (st : Stp) (c : Cf) (n : Int) : ∀ (who : List Int) (s : Dl), s.over <+: (who.foldl (dTurn st c n) s).over
  | [], s => List.prefix_refl _
  | i :: r, s => (dTurn_over st c n s i).trans (dFold_over st c n r _)
theorem dPlay_first (d n : Int) (own : List Fr) (who : List Int) (k : Nat) (hk : k ≤ who.length) :
    (dPlay d n own (who.take k)).2.1 <+: (dPlay d n own who).2.1 ∧ (dPlay d n own (who.take k)).2.2.length = (dPlay d n own who).2.2.length ∧ (dPlay d n own who).2.1.length ≤ (dPlay d n own (who.take k)).2.1.length + (who.length - k) := by
  unfold dPlay gDPlay
  split
  · have e : who.foldl (dTurn dqStep (dqC d) n) (dStart (dqC d) n own) = (who.drop k).foldl (dTurn dqStep (dqC d) n) ((who.take k).foldl (dTurn dqStep (dqC d) n) (dStart (dqC d) n own)) := by
      rw [← List.foldl_append, List.take_append_drop]
    refine ⟨?_, ?_, ?_⟩
    · dsimp only
      unfold dAll
      rw [e]
      exact dFold_over ..
    · dsimp only
      unfold dAll
      rw [(len_dFold len_dqStep ..).2.1, (len_dFold len_dqStep ..).2.1]
    · dsimp only
      unfold dAll
      rw [e]
      have := (len_dFold len_dqStep (dqC d) n (who.drop k) ((who.take k).foldl (dTurn dqStep (dqC d) n) (dStart (dqC d) n own))).2.2.2
      rw [List.length_drop] at this
      exact this
  · exact ⟨List.prefix_refl _, rfl, by simp⟩
end Go.Vai
