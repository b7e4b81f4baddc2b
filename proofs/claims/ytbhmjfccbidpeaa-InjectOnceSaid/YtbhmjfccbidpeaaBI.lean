/- The evaluator, the plain texts and the contracts that this claim leans on, part BI: nothing of the statement is claimed here. -/
import Derived.Test.YtbhmjfccbidpeaaBH
/- What all do at the injector, as the document says. -/
namespace Go.Vai
open Go.RowKit Go.Proofs
set_option linter.unusedSimpArgs false
set_option linter.unusedVariables false
set_option maxHeartbeats 4000000
set_option maxRecDepth 100000

theorem rnew_pure (c : Cf) : PureC Try.prog 84 [cv' c] (ms (zeros (lSize c).toNat)) := by
  refine pure_sub okIA 1 Try.func84 rfl (by show 1 ≤ _; decide) ?_
  have h0 : 0 ≤ lSize c := lSize_pos c
  have h1 := lSize_le c
  have h2 : (lSize c).toNat * 1 ≤ 16777216 := by omega
  have h3 : (lSize c).toNat * 8 ≤ 140737488355328 := by omega
  have hz : List.replicate (lSize c).toNat (AV.v (.int .u64 0)) = (zeros (lSize c).toNat).map u := by rw [zeros, List.map_replicate]; rfl
  have take_z : List.take (lSize c).toNat ((zeros (lSize c).toNat).map u) = (zeros (lSize c).toNat).map u := List.take_of_length_le (by simp [zeros])
  simp only [Try.f84, inl, IA_all, h0, h2, h3, hz, zeros_len, take_z, List.length_map, Nat.le_refl, sv, fv, hfree_fr, hfree_cf, cv', cf_eta, frz_u, shC_dec, dC, T23, T28, T25, hfree_lu, hfree_l0, row0, row1, row2, row3, row4, row5, shI_dec, shN_dec, shB_dec, shM_dec, dI, dN, dB, dM, dU, dU_map, iv, bv, u, ms, ctx_T, ctx_C, ctx_P, T4, T3, T26, Option.bind_some, Option.bind_none, Option.map_some, List.length_map, List.length_set, String.reduceBEq, Int.toNat_natCast, Bool.true_beq, Bool.false_beq, T24, shF_dec, dF, fr_eta, Int.cast_ofNat_Int, Int.reduceSub, Int.reduceAdd, Int.reduceNeg, ev1, ev2, implies_true, undef, stepP, dynCall, ↓condE_t, ↓condE_f, ↓guardE_tt, ↓guardE_ff, ↓guardE_tf, ↓guardE_ft, frzDeep, deepArgs, deepArg, resB, cv, stepB, stepE, callD, tabD, snapD, snap1, snapC, snapId, snapIds, guardB, guardC, dstAt, aopR, one, pre, binR, intOpR, shiftOpR, unR, argFrm, evo, lkp, hlk, lenOf, asLst, idOf, bndA, srcOk, ofVal, ofCells, setCells, fillA, setElems, fieldsOf, fieldsEq, scalEq, isEq, AV.wr, AV.ok1, TK.agg, frz, frzs, frzA, frzArg, frzArgs, subA, subL, sub1, kp, kh, accOf, List.replicate, Nat.reduceAdd, Nat.reduceSub, Nat.reduceMul, Nat.reduceEqDiff, Nat.reduceLT, Nat.reduceLeDiff, Nat.reduceBEq, reduceIte, reduceCtorEq, eq_self, ne_eq, Int.reduceToNat, Int.reduceLT, Int.reduceLE, Int.reduceGT, Int.reduceGE, Int.reduceBEq, Int.reduceBNe, Int.reduceEq, Int.reduceNe]
  exact of_eq_true (hf_u _)

theorem rBegin_pure (op who val : Int) : PureC Try.prog 85 [iv op, iv who, u val] (fv (fBegin op who val)) := by
  refine pure_sub ok0 1 Try.func85 rfl (by show 3 ≤ _; decide) ?_
  simp only [Try.f85, fv, fBegin, T28, hfree_lu, hfree_l0, row0, row1, row2, row3, row4, row5, shI_dec, shN_dec, shB_dec, shM_dec, dI, dN, dB, dM, dU, dU_map, iv, bv, u, ms, ctx_T, ctx_C, ctx_P, T4, T3, T26, Option.bind_some, Option.bind_none, Option.map_some, List.length_map, List.length_set, String.reduceBEq, Int.toNat_natCast, Bool.true_beq, Bool.false_beq, T24, shF_dec, dF, fr_eta, ev1, ev2, implies_true, undef, stepP, dynCall, ↓condE_t, ↓condE_f, ↓guardE_tt, ↓guardE_ff, ↓guardE_tf, ↓guardE_ft, frzDeep, deepArgs, deepArg, resB, cv, stepB, stepE, callD, tabD, snapD, snap1, snapC, snapId, snapIds, guardB, guardC, dstAt, aopR, one, pre, binR, intOpR, shiftOpR, unR, argFrm, evo, lkp, hlk, lenOf, asLst, idOf, bndA, srcOk, ofVal, ofCells, setCells, fillA, setElems, fieldsOf, fieldsEq, scalEq, isEq, AV.wr, AV.ok1, TK.agg, frz, frzs, frzA, frzArg, frzArgs, subA, subL, sub1, kp, kh, accOf, List.replicate, Nat.reduceAdd, Nat.reduceSub, Nat.reduceMul, Nat.reduceEqDiff, Nat.reduceLT, Nat.reduceLeDiff, Nat.reduceBEq, reduceIte, reduceCtorEq, eq_self, ne_eq, Int.reduceToNat, Int.reduceLT, Int.reduceLE, Int.reduceGT, Int.reduceGE, Int.reduceBEq, Int.reduceBNe, Int.reduceEq, Int.reduceNe]

def rowsIB : List Row := [
  (85, row3 shI shI shN fun o w v => some (fv (fBegin o w v))), 
  (84, row1 shC fun c => some (ms (zeros (lSize c).toNat)))] ++ rowsIA
theorem rowsIB_ok : ∀ p ∈ rowsIB, RowOk Try.prog p := fun p h => by
  simp only [rowsIB, List.mem_append, List.mem_cons, List.not_mem_nil, or_false, false_or, or_assoc] at h
  rcases h with rfl | rfl | h
  · exact ok_row3 (enters_of Try.func85 (by decide) rfl) fun o w v r _ _ _ e => by cases e; exact rBegin_pure o w v
  · exact ok_row1 (enters_of Try.func84 (by decide) rfl) fun c r _ e => by cases e; exact rnew_pure c
  · exact rowsIA_ok p h
theorem okIB : (ctx Try.prog rowsIB).ok := rows_ok rowsIB_ok
theorem IB_85 : tabC rowsIB 85 = row3 shI shI shN fun o w v => some (fv (fBegin o w v)) := rfl
theorem IB_84 : tabC rowsIB 84 = row1 shC fun c => some (ms (zeros (lSize c).toNat)) := rfl
theorem IB_100 : tabC rowsIB 100 = row2 shN shN fun a b => if a = 1 ∧ 0 ≤ b ∧ b ≤ 8 then some (.tup [u 0, u b]) else none := rfl
theorem IB_35 : tabC rowsIB 35 = row3 shC shM shF fun c m f => some (sv (iStep c m f)) := rfl
theorem IB_36 : tabC rowsIB 36 = row3 shC shM shF fun c m f => some (sv (riStep c m f)) := rfl
theorem IB_82 : tabC rowsIB 82 = row2 shFs shI fun l i => if l.length ≤ 1000 then some (.tup [fv (nextP i l).1, fs (nextP i l).2]) else none := rfl
theorem IB_78 : tabC rowsIB 78 = fun _ => none := rfl
theorem IB_81 : tabC rowsIB 81 = fun _ => none := rfl
theorem IB_98 : tabC rowsIB 98 = fun _ => none := rfl
theorem IB_79 : tabC rowsIB 79 = fun _ => none := rfl
theorem IB_87 : tabC rowsIB 87 = fun _ => none := rfl
theorem IB_80 : tabC rowsIB 80 = fun _ => none := rfl
theorem IB_97 : tabC rowsIB 97 = fun _ => none := rfl
theorem IB_19 : tabC rowsIB 19 = row2 shC shM fun c m => some (lv (qList c m)) := rfl
theorem IB_20 : tabC rowsIB 20 = row2 shC shM fun c m => some (lv (rqList c m)) := rfl
theorem IB_17 : tabC rowsIB 17 = row3 shC shM shF fun c m f => some (sv (qStep c m f)) := rfl
theorem IB_18 : tabC rowsIB 18 = row3 shC shM shF fun c m f => some (sv (rqStep c m f)) := rfl
theorem IB_60 : tabC rowsIB 60 = fun _ => none := rfl
theorem IB_94 : tabC rowsIB 94 = fun _ => none := rfl
theorem IB_47 : tabC rowsIB 47 = row2 shC shN fun c x => if 1 ≤ c.i ∧ c.i ≤ 16 then some (u (qFull c x)) else none := rfl
theorem IB_96 : tabC rowsIB 96 = freeRow := rfl
theorem IB_23 : tabC rowsIB 23 = row4 shC shM shF shI fun c m f op => some (bv (goesE c m f op)) := rfl
theorem IB_52 : tabC rowsIB 52 = row4 shC shM shF shI fun c m f op => some (bv (goesE c m f op)) := rfl
theorem IB_26 : tabC rowsIB 26 = row2 shC shM fun c m => some (iv (eLen c m)) := rfl
theorem IB_61 : tabC rowsIB 61 = row2 shC shM fun c m => some (iv (eLen c m)) := rfl
theorem IB_62 : tabC rowsIB 62 = fun _ => none := rfl
theorem IB_67 : tabC rowsIB 67 = fun _ => none := rfl
theorem IB_68 : tabC rowsIB 68 = fun _ => none := rfl
theorem IB_69 : tabC rowsIB 69 = fun _ => none := rfl
theorem IB_70 : tabC rowsIB 70 = fun _ => none := rfl
theorem IB_71 : tabC rowsIB 71 = fun _ => none := rfl
theorem IB_72 : tabC rowsIB 72 = fun _ => none := rfl
theorem IB_44 : tabC rowsIB 44 = row1 shM fun m => some (ms m) := rfl
theorem IB_57 : tabC rowsIB 57 = row4 shM shI shN shN fun m i v w => some (.tup [ms (mCas m i v w), bv (mCasB m i v)]) := rfl
theorem IB_45 : tabC rowsIB 45 = row2 shM shI fun m i => some (u (mLoad m i)) := rfl
theorem IB_51 : tabC rowsIB 51 = row3 shM shI shN fun m i v => some (ms (mStore m i v)) := rfl
theorem IB_49 : tabC rowsIB 49 = row4 shM shI shN shN fun m i v w => some (.tup [ms (mCas m i v w), bv (mCasB m i v)]) := rfl
theorem IB_53 : tabC rowsIB 53 = row2 shM shI fun m i => some (u (mLoad m i)) := rfl
theorem IB_21 : tabC rowsIB 21 = row2 shM shM fun a b => some (bv (decide (a = b))) := rfl
theorem IB_59 : tabC rowsIB 59 = row3 shM shI shN fun m i v => some (ms (mStore m i v)) := rfl
theorem IB_66 : tabC rowsIB 66 = row1 shC fun c => some (iv (lSize c)) := rfl
theorem IB_88 : tabC rowsIB 88 = row1 shC fun c => some (iv (lSize c)) := rfl
theorem IB_27 : tabC rowsIB 27 = row1 shC fun c => some (bv (mayC c)) := rfl
theorem IB_46 : tabC rowsIB 46 = row2 shN shN fun a b => some (iv (far a b)) := rfl
theorem IB_83 : tabC rowsIB 83 = row1 shC fun c => some (bv (mayC c)) := rfl
theorem IB_55 : tabC rowsIB 55 = row2 shN shN fun a b => some (iv (far a b)) := rfl
theorem IB_95 : tabC rowsIB 95 = row2 shC shI fun c w => if mayC c = true ∧ 0 ≤ w ∧ w ≤ 8 then some (iv (lBase c w)) else none := rfl
theorem IB_63 : tabC rowsIB 63 = fun _ => none := rfl
theorem IB_65 : tabC rowsIB 65 = fun _ => none := rfl
theorem IB_86 : tabC rowsIB 86 = row1 shF fun f => some (bv (f.res != 0)) := rfl
theorem IB_56 : tabC rowsIB 56 = row3 shF shI shN fun f r v => some (fv (fEnd f r v)) := rfl
theorem IB_22 : tabC rowsIB 22 = row2 shM shM fun a b => some (bv (decide (a = b))) := rfl
theorem IB_25 : tabC rowsIB 25 = row3 shI shI shN fun o w v => some (fv (fBegin o w v)) := rfl
theorem IB_31 : tabC rowsIB 31 = row1 shF fun f => some (bv (f.res != 0)) := rfl
theorem IB_48 : tabC rowsIB 48 = row3 shF shI shN fun f r v => some (fv (fEnd f r v)) := rfl
theorem IB_74 : tabC rowsIB 74 = fun _ => none := rfl
theorem IB_75 : tabC rowsIB 75 = fun _ => none := rfl
theorem IB_76 : tabC rowsIB 76 = fun _ => none := rfl
theorem IB_73 : tabC rowsIB 73 = fun _ => none := rfl
theorem IB_24 : tabC rowsIB 24 = row2 shC shN fun c x => some (iv (eSeq c x)) := rfl
theorem IB_50 : tabC rowsIB 50 = row2 shC shN fun c x => some (iv (eVal c x)) := rfl
theorem IB_54 : tabC rowsIB 54 = row2 shC shN fun c x => some (iv (eSeq c x)) := rfl
theorem IB_58 : tabC rowsIB 58 = row2 shC shN fun c x => some (iv (eVal c x)) := rfl
theorem IB_30 : tabC rowsIB 30 = row3 shC shM shF fun c m f => some (sv (eStep c m f)) := rfl
theorem IB_77 : tabC rowsIB 77 = row3 shC shM shF fun c m f => some (sv (eStep c m f)) := rfl
theorem IB_28 : tabC rowsIB 28 = row1 shC fun c => some (ms (zeros (lSize c).toNat)) := rfl
theorem IB_all : type_of% (And.intro IB_85 <| And.intro IB_84 <| And.intro IB_100 <| And.intro IB_35 <| And.intro IB_36 <| And.intro IB_82 <| And.intro IB_78 <| And.intro IB_81 <| And.intro IB_98 <| And.intro IB_79 <| And.intro IB_87 <| And.intro IB_80 <| And.intro IB_97 <| And.intro IB_19 <| And.intro IB_20 <| And.intro IB_17 <| And.intro IB_18 <| And.intro IB_60 <| And.intro IB_94 <| And.intro IB_47 <| And.intro IB_96 <| And.intro IB_23 <| And.intro IB_52 <| And.intro IB_26 <| And.intro IB_61 <| And.intro IB_62 <| And.intro IB_67 <| And.intro IB_68 <| And.intro IB_69 <| And.intro IB_70 <| And.intro IB_71 <| And.intro IB_72 <| And.intro IB_44 <| And.intro IB_57 <| And.intro IB_45 <| And.intro IB_51 <| And.intro IB_49 <| And.intro IB_53 <| And.intro IB_21 <| And.intro IB_59 <| And.intro IB_66 <| And.intro IB_88 <| And.intro IB_27 <| And.intro IB_46 <| And.intro IB_83 <| And.intro IB_55 <| And.intro IB_95 <| And.intro IB_63 <| And.intro IB_65 <| And.intro IB_86 <| And.intro IB_56 <| And.intro IB_22 <| And.intro IB_25 <| And.intro IB_31 <| And.intro IB_48 <| And.intro IB_74 <| And.intro IB_75 <| And.intro IB_76 <| And.intro IB_73 <| And.intro IB_24 <| And.intro IB_50 <| And.intro IB_54 <| And.intro IB_58 <| And.intro IB_30 <| And.intro IB_77 <| IB_28) := And.intro IB_85 <| And.intro IB_84 <| And.intro IB_100 <| And.intro IB_35 <| And.intro IB_36 <| And.intro IB_82 <| And.intro IB_78 <| And.intro IB_81 <| And.intro IB_98 <| And.intro IB_79 <| And.intro IB_87 <| And.intro IB_80 <| And.intro IB_97 <| And.intro IB_19 <| And.intro IB_20 <| And.intro IB_17 <| And.intro IB_18 <| And.intro IB_60 <| And.intro IB_94 <| And.intro IB_47 <| And.intro IB_96 <| And.intro IB_23 <| And.intro IB_52 <| And.intro IB_26 <| And.intro IB_61 <| And.intro IB_62 <| And.intro IB_67 <| And.intro IB_68 <| And.intro IB_69 <| And.intro IB_70 <| And.intro IB_71 <| And.intro IB_72 <| And.intro IB_44 <| And.intro IB_57 <| And.intro IB_45 <| And.intro IB_51 <| And.intro IB_49 <| And.intro IB_53 <| And.intro IB_21 <| And.intro IB_59 <| And.intro IB_66 <| And.intro IB_88 <| And.intro IB_27 <| And.intro IB_46 <| And.intro IB_83 <| And.intro IB_55 <| And.intro IB_95 <| And.intro IB_63 <| And.intro IB_65 <| And.intro IB_86 <| And.intro IB_56 <| And.intro IB_22 <| And.intro IB_25 <| And.intro IB_31 <| And.intro IB_48 <| And.intro IB_74 <| And.intro IB_75 <| And.intro IB_76 <| And.intro IB_73 <| And.intro IB_24 <| And.intro IB_50 <| And.intro IB_54 <| And.intro IB_58 <| And.intro IB_30 <| And.intro IB_77 <| IB_28

theorem rplay_pure (room : Int) (calls : List (List Fr)) (who : List Int) (hc : calls.length ≤ 1000) (hs : Short 1000 calls) (hw : who.length ≤ 1000) :
    PureC Try.prog 38 [iv room, fss calls, zs who] (.tup [ms (rPlay room calls who).1, fs (rPlay room calls who).2.1, fs (rPlay room calls who).2.2]) := by
  refine pure_sub okIB 1 Try.func38 rfl (by show 3 ≤ _; decide) ?_
  by_cases hm : mayC (injC room) = true
  · by_cases h8 : calls.length ≤ 8
    · have h8' : ¬ (calls.length : Int) > 8 := by omega
      have e : injC room = ⟨1, 1, room, 0⟩ := rfl
      rw [e] at hm
      have hL := len_fss calls
      have h1 : calls.length * 1 ≤ 16777216 := by omega
      have h2 : calls.length * 8 ≤ 140737488355328 := by omega
      have h3 : (0 : Int) ≤ calls.length := by omega
      simp only [Try.f38, inl, IB_all, hm, h8', h1, h2, h3, zs, fss, sv, fv, Int.toNat_natCast, rf1, List.set_set, T52, T50, T51, hfree_fr, hfree_cf, cv', cf_eta, frz_u, shC_dec, dC, T23, T28, T25, hfree_lu, hfree_l0, row0, row1, row2, row3, row4, row5, shI_dec, shN_dec, shB_dec, shM_dec, dI, dN, dB, dM, dU, dU_map, iv, bv, u, ms, ctx_T, ctx_C, ctx_P, T4, T3, T26, Option.bind_some, Option.bind_none, Option.map_some, List.length_map, List.length_set, String.reduceBEq, Int.toNat_natCast, Bool.true_beq, Bool.false_beq, T24, shF_dec, dF, fr_eta, Int.cast_ofNat_Int, Int.reduceSub, Int.reduceAdd, Int.reduceNeg, ev1, ev2, implies_true, undef, stepP, dynCall, ↓condE_t, ↓condE_f, ↓guardE_tt, ↓guardE_ff, ↓guardE_tf, ↓guardE_ft, frzDeep, deepArgs, deepArg, resB, cv, stepB, stepE, callD, tabD, snapD, snap1, snapC, snapId, snapIds, guardB, guardC, dstAt, aopR, one, pre, binR, intOpR, shiftOpR, unR, argFrm, evo, lkp, hlk, lenOf, asLst, idOf, bndA, srcOk, ofVal, ofCells, setCells, fillA, setElems, fieldsOf, fieldsEq, scalEq, isEq, AV.wr, AV.ok1, TK.agg, frz, frzs, frzA, frzArg, frzArgs, subA, subL, sub1, kp, kh, accOf, List.replicate, Nat.reduceAdd, Nat.reduceSub, Nat.reduceMul, Nat.reduceEqDiff, Nat.reduceLT, Nat.reduceLeDiff, Nat.reduceBEq, reduceIte, reduceCtorEq, eq_self, ne_eq, Int.reduceToNat, Int.reduceLT, Int.reduceLE, Int.reduceGT, Int.reduceGE, Int.reduceBEq, Int.reduceBNe, Int.reduceEq, Int.reduceNe]
      refine WP.virt 12 28 7 rfl (by decide) ?_
      refine WP.loop (ι := Nat × Nat) (fun i => calls.length - i.1) (fun i => i.1 ≤ calls.length ∧ (i.2 = 27 ∨ 28 ≤ i.2)) (n := 146)
        (fr := fun i => [(15, iv i.1), (12, .arr i.2 0 i.1), (14, .arr 24 0 calls.length), (13, .v (.slice none 0 0)), (11, ms (zeros (lSize ⟨1, 1, room, 0⟩).toNat)), (9, .ptr 5 0 0), (1, fss calls), (2, zs who)])
        (hp := fun i => [(i.2, some ⟨false, 28, 7, (List.replicate i.1 noneF).map fv⟩), (24, some ⟨false, 3, 1, (goneP calls calls).map iv⟩), (5, some ⟨false, 23, 4, [cv' ⟨1, 1, room, 0⟩]⟩)]) (N := 28) ?_ (0, 27) ⟨Nat.zero_le _, .inl rfl⟩ rfl (Nat.le_refl _) ?_ ?_
      · rintro ⟨j, id⟩ nx ⟨hj, hid0⟩ hN hid
        dsimp only at hj hid0 hN hid ⊢
        have b0 : Nat.beq id 5 = false := by rw [← Bool.not_eq_true, Nat.beq_eq]; omega
        have b1 : Nat.beq id 24 = false := by rw [← Bool.not_eq_true, Nat.beq_eq]; omega
        have b2 : Nat.beq 5 id = false := by rw [← Bool.not_eq_true, Nat.beq_eq]; omega
        have b3 : Nat.beq 24 id = false := by rw [← Bool.not_eq_true, Nat.beq_eq]; omega
        have hidn : id < nx := hid id ⟨false, 28, 7, (List.replicate j noneF).map fv⟩ (by simp only [hlk, nb_self])
        have n0 : 5 < nx := by omega
        have n1 : 24 < nx := by omega
        refine WP.of okIB 1 (by rfl) ?_
        by_cases hjc : (j : Int) < calls.length
        · have ww : IntKind.wrap .i64 ((j : Int) + 1) = ((j + 1 : Nat) : Int) := by rw [wrap_i (by omega) (by omega)]; omega
          have hcap : (j + 1) * 56 ≤ 140737488355328 := by omega
          have hlr : (List.replicate j noneF).length = j := List.length_replicate
          have htk : List.take j ((List.replicate j noneF).map fv) = (List.replicate j noneF).map fv := List.take_of_length_le (by simp)
          simp only [IB_all, hjc, ww, hcap, hlr, htk, b0, b1, b2, b3, n0, n1, hidn, Nat.le_refl, zs, fss, sv, fv, rf1, List.set_set, T52, T50, T51, nb_self, nb_same, nb_l0, nb_r0, nb_lt, nb_gt, nb_lt0, nb_gt0, Nat.add_assoc, hfree_fr, hfree_cf, cv', cf_eta, frz_u, shC_dec, dC, T23, T28, T25, hfree_lu, hfree_l0, row0, row1, row2, row3, row4, row5, shI_dec, shN_dec, shB_dec, shM_dec, dI, dN, dB, dM, dU, dU_map, iv, bv, u, ms, ctx_T, ctx_C, ctx_P, T4, T3, T26, Option.bind_some, Option.bind_none, Option.map_some, List.length_map, List.length_set, String.reduceBEq, Int.toNat_natCast, Bool.true_beq, Bool.false_beq, T24, shF_dec, dF, fr_eta, Int.cast_ofNat_Int, Int.reduceSub, Int.reduceAdd, Int.reduceNeg, ev1, ev2, implies_true, undef, stepP, dynCall, ↓condE_t, ↓condE_f, ↓guardE_tt, ↓guardE_ff, ↓guardE_tf, ↓guardE_ft, frzDeep, deepArgs, deepArg, resB, cv, stepB, stepE, callD, tabD, snapD, snap1, snapC, snapId, snapIds, guardB, guardC, dstAt, aopR, one, pre, binR, intOpR, shiftOpR, unR, argFrm, evo, lkp, hlk, lenOf, asLst, idOf, bndA, srcOk, ofVal, ofCells, setCells, fillA, setElems, fieldsOf, fieldsEq, scalEq, isEq, AV.wr, AV.ok1, TK.agg, frz, frzs, frzA, frzArg, frzArgs, subA, subL, sub1, kp, kh, accOf, List.replicate, Nat.reduceAdd, Nat.reduceSub, Nat.reduceMul, Nat.reduceEqDiff, Nat.reduceLT, Nat.reduceLeDiff, Nat.reduceBEq, reduceIte, reduceCtorEq, eq_self, ne_eq, Int.reduceToNat, Int.reduceLT, Int.reduceLE, Int.reduceGT, Int.reduceGE, Int.reduceBEq, Int.reduceBNe, Int.reduceEq, Int.reduceNe]
          refine ⟨(j + 1, nx + 7), by dsimp only; omega, ⟨by dsimp only; omega, .inr (by dsimp only; omega)⟩, ⟨rfl, rfl⟩, ?_⟩
          simp only [nb_self]
          rw [List.replicate_succ' (n := j)]
          rfl
        · have hje : j = calls.length := by omega
          subst hje
          simp only [IB_all, hjc, b0, b1, b2, b3, n0, n1, hidn, zs, fss, sv, fv, rf1, List.set_set, T52, T50, T51, nb_self, nb_same, nb_l0, nb_r0, nb_lt, nb_gt, nb_lt0, nb_gt0, Nat.add_assoc, hfree_fr, hfree_cf, cv', cf_eta, frz_u, shC_dec, dC, T23, T28, T25, hfree_lu, hfree_l0, row0, row1, row2, row3, row4, row5, shI_dec, shN_dec, shB_dec, shM_dec, dI, dN, dB, dM, dU, dU_map, iv, bv, u, ms, ctx_T, ctx_C, ctx_P, T4, T3, T26, Option.bind_some, Option.bind_none, Option.map_some, List.length_map, List.length_set, String.reduceBEq, Int.toNat_natCast, Bool.true_beq, Bool.false_beq, T24, shF_dec, dF, fr_eta, Int.cast_ofNat_Int, Int.reduceSub, Int.reduceAdd, Int.reduceNeg, ev1, ev2, implies_true, undef, stepP, dynCall, ↓condE_t, ↓condE_f, ↓guardE_tt, ↓guardE_ff, ↓guardE_tf, ↓guardE_ft, frzDeep, deepArgs, deepArg, resB, cv, stepB, stepE, callD, tabD, snapD, snap1, snapC, snapId, snapIds, guardB, guardC, dstAt, aopR, one, pre, binR, intOpR, shiftOpR, unR, argFrm, evo, lkp, hlk, lenOf, asLst, idOf, bndA, srcOk, ofVal, ofCells, setCells, fillA, setElems, fieldsOf, fieldsEq, scalEq, isEq, AV.wr, AV.ok1, TK.agg, frz, frzs, frzA, frzArg, frzArgs, subA, subL, sub1, kp, kh, accOf, List.replicate, Nat.reduceAdd, Nat.reduceSub, Nat.reduceMul, Nat.reduceEqDiff, Nat.reduceLT, Nat.reduceLeDiff, Nat.reduceBEq, reduceIte, reduceCtorEq, eq_self, ne_eq, Int.reduceToNat, Int.reduceLT, Int.reduceLE, Int.reduceGT, Int.reduceGE, Int.reduceBEq, Int.reduceBNe, Int.reduceEq, Int.reduceNe]
          obtain ⟨S, hS⟩ := plays len_riStep ⟨1, 1, room, 0⟩ calls who
          refine WP.virt 13 28 7 rfl (by decide) ?_
          refine WP.loop (ι := Nat × Nat) (fun i => who.length - i.1) (fun i => i.1 ≤ who.length ∧ (i.2 = nx + 5 ∨ nx + 6 ≤ i.2)) (n := 146)
            (fr := fun i => [(16, iv i.1), (13, .arr i.2 0 (S i.1).over.length), (12, .arr id 0 calls.length), (14, .arr 24 0 calls.length), (11, ms (S i.1).m), (9, .ptr 5 0 0), (1, fss calls), (2, zs who)])
            (hp := fun i => [(i.2, some ⟨false, 28, 7, (S i.1).over.map fv⟩), (id, some ⟨false, 28, 7, (S i.1).hand.map fv⟩), (24, some ⟨false, 3, 1, (goneP calls (S i.1).left).map iv⟩), (5, some ⟨false, 23, 4, [cv' ⟨1, 1, room, 0⟩]⟩)]) (N := nx + 6) ?_ (0, nx + 5) ⟨Nat.zero_le _, .inl rfl⟩ rfl (Nat.le_refl _) ?_ ?_
          · rintro ⟨k, od⟩ nx2 ⟨hk, hod⟩ hN2 hid2
            dsimp only at hk hod hN2 hid2 ⊢
            have c0 : Nat.beq od 5 = false := by rw [← Bool.not_eq_true, Nat.beq_eq]; omega
            have c1 : Nat.beq od 24 = false := by rw [← Bool.not_eq_true, Nat.beq_eq]; omega
            have c2 : Nat.beq 5 od = false := by rw [← Bool.not_eq_true, Nat.beq_eq]; omega
            have c3 : Nat.beq 24 od = false := by rw [← Bool.not_eq_true, Nat.beq_eq]; omega
            have c4 : Nat.beq id od = false := by rw [← Bool.not_eq_true, Nat.beq_eq]; omega
            have c5 : Nat.beq od id = false := by rw [← Bool.not_eq_true, Nat.beq_eq]; omega
            have hodn : od < nx2 := hid2 od ⟨false, 28, 7, (S k).over.map fv⟩ (by simp only [hlk, nb_self])
            have m0 : 5 < nx2 := by omega
            have m1 : 24 < nx2 := by omega
            have m2 : id < nx2 := by omega
            have hh := hS.hand k
            have hl := hS.left k
            have hml := hS.m k
            have hov := hS.over k
            have hsn := hS.sane op_riStep riStep_none k
            have hsf := hS.suf k
            have hs1 := hS.succ k
            have hla := hS.last
            generalize hSk : S k = s at hh hl hml hov hsn hsf hs1 ⊢
            obtain ⟨m, left, hand, over⟩ := s
            dsimp only at hh hl hml hov hsf hs1 ⊢
            have hlen : over.length ≤ 1000 := by omega
            have hcap : (over.length + 1) * 56 ≤ 140737488355328 := by omega
            refine WP.of okIB 1 (by rfl) ?_
            by_cases hkw : k < who.length
            · have hkw' : (k : Int) < who.length := by omega
              have ww : IntKind.wrap .i64 ((k : Int) + 1) = ((k + 1 : Nat) : Int) := by rw [wrap_i (by omega) (by omega)]; omega
              have hk0 : (0 : Int) ≤ k := by omega
              have hg := getD_z hkw
              have hs2 := hs1 hkw
              generalize who.getD k 0 = i at hg hs2
              by_cases h0 : i < 0
              · have hs4 : S (k + 1) = ⟨m, left, hand, over⟩ := by rw [hs2, pTurn, if_neg (by omega)]
                simp only [IB_all, hkw', hk0, hg, h0, ww, hh, b0, b1, b2, b3, c0, c1, c2, c3, c4, c5, m0, m1, m2, hodn, Nat.le_refl, zs, fss, sv, fv, rf1, List.set_set, T52, T50, T51, nb_self, nb_same, nb_l0, nb_r0, nb_lt, nb_gt, nb_lt0, nb_gt0, Nat.add_assoc, hfree_fr, hfree_cf, cv', cf_eta, frz_u, shC_dec, dC, T23, T28, T25, hfree_lu, hfree_l0, row0, row1, row2, row3, row4, row5, shI_dec, shN_dec, shB_dec, shM_dec, dI, dN, dB, dM, dU, dU_map, iv, bv, u, ms, ctx_T, ctx_C, ctx_P, T4, T3, T26, Option.bind_some, Option.bind_none, Option.map_some, List.length_map, List.length_set, String.reduceBEq, Int.toNat_natCast, Bool.true_beq, Bool.false_beq, T24, shF_dec, dF, fr_eta, Int.cast_ofNat_Int, Int.reduceSub, Int.reduceAdd, Int.reduceNeg, ev1, ev2, implies_true, undef, stepP, dynCall, ↓condE_t, ↓condE_f, ↓guardE_tt, ↓guardE_ff, ↓guardE_tf, ↓guardE_ft, frzDeep, deepArgs, deepArg, resB, cv, stepB, stepE, callD, tabD, snapD, snap1, snapC, snapId, snapIds, guardB, guardC, dstAt, aopR, one, pre, binR, intOpR, shiftOpR, unR, argFrm, evo, lkp, hlk, lenOf, asLst, idOf, bndA, srcOk, ofVal, ofCells, setCells, fillA, setElems, fieldsOf, fieldsEq, scalEq, isEq, AV.wr, AV.ok1, TK.agg, frz, frzs, frzA, frzArg, frzArgs, subA, subL, sub1, kp, kh, accOf, List.replicate, Nat.reduceAdd, Nat.reduceSub, Nat.reduceMul, Nat.reduceEqDiff, Nat.reduceLT, Nat.reduceLeDiff, Nat.reduceBEq, reduceIte, reduceCtorEq, eq_self, ne_eq, Int.reduceToNat, Int.reduceLT, Int.reduceLE, Int.reduceGT, Int.reduceGE, Int.reduceBEq, Int.reduceBNe, Int.reduceEq, Int.reduceNe]
                refine ⟨(k + 1, od), by dsimp only; omega, ⟨by dsimp only; omega, hod⟩, ?_⟩
                simp only [hs4, nb_self]
                exact ⟨⟨trivial, trivial, trivial⟩, trivial, trivial, trivial⟩
              · by_cases h1 : i ≥ calls.length
                · have hs4 : S (k + 1) = ⟨m, left, hand, over⟩ := by rw [hs2, pTurn, if_neg (by omega)]
                  simp only [IB_all, hkw', hk0, hg, h0, h1, ww, hh, b0, b1, b2, b3, c0, c1, c2, c3, c4, c5, m0, m1, m2, hodn, Nat.le_refl, zs, fss, sv, fv, rf1, List.set_set, T52, T50, T51, nb_self, nb_same, nb_l0, nb_r0, nb_lt, nb_gt, nb_lt0, nb_gt0, Nat.add_assoc, hfree_fr, hfree_cf, cv', cf_eta, frz_u, shC_dec, dC, T23, T28, T25, hfree_lu, hfree_l0, row0, row1, row2, row3, row4, row5, shI_dec, shN_dec, shB_dec, shM_dec, dI, dN, dB, dM, dU, dU_map, iv, bv, u, ms, ctx_T, ctx_C, ctx_P, T4, T3, T26, Option.bind_some, Option.bind_none, Option.map_some, List.length_map, List.length_set, String.reduceBEq, Int.toNat_natCast, Bool.true_beq, Bool.false_beq, T24, shF_dec, dF, fr_eta, Int.cast_ofNat_Int, Int.reduceSub, Int.reduceAdd, Int.reduceNeg, ev1, ev2, implies_true, undef, stepP, dynCall, ↓condE_t, ↓condE_f, ↓guardE_tt, ↓guardE_ff, ↓guardE_tf, ↓guardE_ft, frzDeep, deepArgs, deepArg, resB, cv, stepB, stepE, callD, tabD, snapD, snap1, snapC, snapId, snapIds, guardB, guardC, dstAt, aopR, one, pre, binR, intOpR, shiftOpR, unR, argFrm, evo, lkp, hlk, lenOf, asLst, idOf, bndA, srcOk, ofVal, ofCells, setCells, fillA, setElems, fieldsOf, fieldsEq, scalEq, isEq, AV.wr, AV.ok1, TK.agg, frz, frzs, frzA, frzArg, frzArgs, subA, subL, sub1, kp, kh, accOf, List.replicate, Nat.reduceAdd, Nat.reduceSub, Nat.reduceMul, Nat.reduceEqDiff, Nat.reduceLT, Nat.reduceLeDiff, Nat.reduceBEq, reduceIte, reduceCtorEq, eq_self, ne_eq, Int.reduceToNat, Int.reduceLT, Int.reduceLE, Int.reduceGT, Int.reduceGE, Int.reduceBEq, Int.reduceBNe, Int.reduceEq, Int.reduceNe]
                  refine ⟨(k + 1, od), by dsimp only; omega, ⟨by dsimp only; omega, hod⟩, ?_⟩
                  simp only [hs4, nb_self]
                  exact ⟨⟨trivial, trivial, trivial⟩, trivial, trivial, trivial⟩
                · obtain ⟨i', rfl⟩ := Int.eq_ofNat_of_zero_le (show 0 ≤ i by omega)
                  simp only [IB_all, hkw', hk0, hg, h0, h1, ww, hh, b0, b1, b2, b3, c0, c1, c2, c3, c4, c5, m0, m1, m2, hodn, Nat.le_refl, zs, fss, sv, fv, rf1, List.set_set, T52, T50, T51, nb_self, nb_same, nb_l0, nb_r0, nb_lt, nb_gt, nb_lt0, nb_gt0, Nat.add_assoc, hfree_fr, hfree_cf, cv', cf_eta, frz_u, shC_dec, dC, T23, T28, T25, hfree_lu, hfree_l0, row0, row1, row2, row3, row4, row5, shI_dec, shN_dec, shB_dec, shM_dec, dI, dN, dB, dM, dU, dU_map, iv, bv, u, ms, ctx_T, ctx_C, ctx_P, T4, T3, T26, Option.bind_some, Option.bind_none, Option.map_some, List.length_map, List.length_set, String.reduceBEq, Int.toNat_natCast, Bool.true_beq, Bool.false_beq, T24, shF_dec, dF, fr_eta, Int.cast_ofNat_Int, Int.reduceSub, Int.reduceAdd, Int.reduceNeg, ev1, ev2, implies_true, undef, stepP, dynCall, ↓condE_t, ↓condE_f, ↓guardE_tt, ↓guardE_ff, ↓guardE_tf, ↓guardE_ft, frzDeep, deepArgs, deepArg, resB, cv, stepB, stepE, callD, tabD, snapD, snap1, snapC, snapId, snapIds, guardB, guardC, dstAt, aopR, one, pre, binR, intOpR, shiftOpR, unR, argFrm, evo, lkp, hlk, lenOf, asLst, idOf, bndA, srcOk, ofVal, ofCells, setCells, fillA, setElems, fieldsOf, fieldsEq, scalEq, isEq, AV.wr, AV.ok1, TK.agg, frz, frzs, frzA, frzArg, frzArgs, subA, subL, sub1, kp, kh, accOf, List.replicate, Nat.reduceAdd, Nat.reduceSub, Nat.reduceMul, Nat.reduceEqDiff, Nat.reduceLT, Nat.reduceLeDiff, Nat.reduceBEq, reduceIte, reduceCtorEq, eq_self, ne_eq, Int.reduceToNat, Int.reduceLT, Int.reduceLE, Int.reduceGT, Int.reduceGE, Int.reduceBEq, Int.reduceBNe, Int.reduceEq, Int.reduceNe]
                  have hi3 : i' < calls.length := by omega
                  have hi0 : (0 : Int) ≤ (i' : Int) := by omega
                  have hi4 : (i' : Int) < calls.length := by omega
                  have hs3 : S (k + 1) = pRound riStep ⟨1, 1, room, 0⟩ ⟨m, left, hand, over⟩ i' := by rw [hs2, pTurn, if_pos (by omega), Int.toNat_natCast]
                  have hsi := suf_drop (hsf i')
                  have hsl := (hsf i').length_le
                  have hqg := goneP_getD (i := i') hi3 (show i' < left.length by omega)
                  have hgs := fun l => goneP_set (calls := calls) (left := left) hi3 l
                  have hl4 : (calls.getD i' []).length ≤ 1000 := hs.get i'
                  have gl := getD_fs (l := calls) (k := i') hi3
                  dsimp only at hsi hsl
                  generalize hcl : calls.getD i' [] = l at hsi hsl hqg hgs hl4 gl
                  generalize hlf : left.getD i' [] = lf at hsi hsl hqg
                  have hhi : i' < hand.length := by omega
                  have hgn : i' < (goneP calls left).length := by rw [len_goneP hl]; exact hi3
                  have lgn := len_goneP hl
                  obtain ⟨P, hP⟩ : ∃ P, P = pHand ⟨m, left, hand, over⟩ i' := ⟨_, rfl⟩
                  refine WP.loop (ι := Nat × Fr) (fun j => l.length - j.1) (fun j => j.1 ≤ l.length ∧ ((j.2 = noneF ∧ nextP i' (l.drop j.1) = P) ∨ ((j.2.op = 3 ∨ j.2.op = 4) ∧ (j.2, l.drop j.1) = P))) (n := 146)
                    (fr := fun _ => [(17, iv i'), (16, iv k), (13, .arr od 0 over.length), (12, .arr id 0 calls.length), (14, .arr 24 0 calls.length), (11, ms m), (9, .ptr 5 0 0), (1, fss calls), (2, zs who)])
                    (hp := fun j => [(od, some ⟨false, 28, 7, over.map fv⟩), (id, some ⟨false, 28, 7, (hand.set i' j.2).map fv⟩), (24, some ⟨false, 3, 1, ((goneP calls left).set i' j.1).map iv⟩), (5, some ⟨false, 23, 4, [cv' ⟨1, 1, room, 0⟩]⟩)]) (N := nx2 + 17) ?_ (l.length - lf.length, hand.getD i' noneF) ⟨by dsimp only; omega, ?_⟩ rfl (Nat.le_refl _) ⟨rfl, rfl, rfl, rfl, rfl, rfl, rfl, rfl, rfl, trivial⟩ ?_
                  · rintro ⟨q, a⟩ nx3 ⟨hq, hqa⟩ hN3 hid3
                    dsimp only at hq hqa hN3 hid3 ⊢
                    have r0 : 5 < nx3 := by omega
                    have r1 : 24 < nx3 := by omega
                    have r2 : id < nx3 := by omega
                    have r3 : od < nx3 := by omega
                    have g5 := getD_set_f hhi a
                    have g6 : (((goneP calls left).set i' (q : Int)).map iv).getD i' .top = iv q := by simp [List.getD_eq_getElem?_getD, hgn]
                    have hq0 : (0 : Int) ≤ (q : Int) := by omega
                    have lg2 : (((goneP calls left).set i' (q : Int)).map iv).length = calls.length := by simp [lgn]
                    refine WP.of okIB 1 (by rfl) ?_
                    by_cases hgo : a = noneF ∧ q < l.length
                    · obtain ⟨rfl, hql⟩ := hgo
                      have hql' : (q : Int) < l.length := by omega
                      have wq : IntKind.wrap .i64 ((q : Int) + 1) = ((q + 1 : Nat) : Int) := by rw [wrap_i (by omega) (by omega)]; omega
                      have hq1 : nextP i' (l.drop q) = P := by
                        rcases hqa with h | h
                        · exact h.2
                        · exfalso; rcases h.1 with h | h <;> cases h
                      have gx := getD_f hql
                      rw [drop_f hql] at hq1
                      generalize l.getD q fr0 = x at gx hq1
                      have en : (noneF.op < 0) = True := eq_true (by decide)
                      by_cases h3 : x.op = 3
                      · have e3 : (x.op == 3) = true := by simpa using h3
                        rw [nextP, if_pos (.inl h3)] at hq1
                        simp only [IB_all, g5, g6, gl, hi0, hq0, hi3, hi4, hh, lg2, gx, hql', wq, e3, en, b0, b1, b2, b3, c0, c1, c2, c3, c4, c5, r0, r1, r2, r3, Int.toNat_natCast, Nat.le_refl, zs, fss, fs, sv, fv, fBegin, rf1, List.set_set, T52, T50, T51, nb_self, nb_same, nb_l0, nb_r0, nb_lt, nb_gt, nb_lt0, nb_gt0, Nat.add_assoc, hfree_fr, hfree_cf, cv', cf_eta, frz_u, shC_dec, dC, T23, T28, T25, hfree_lu, hfree_l0, row0, row1, row2, row3, row4, row5, shI_dec, shN_dec, shB_dec, shM_dec, dI, dN, dB, dM, dU, dU_map, iv, bv, u, ms, ctx_T, ctx_C, ctx_P, T4, T3, T26, Option.bind_some, Option.bind_none, Option.map_some, List.length_map, List.length_set, String.reduceBEq, Int.toNat_natCast, Bool.true_beq, Bool.false_beq, T24, shF_dec, dF, fr_eta, Int.cast_ofNat_Int, Int.reduceSub, Int.reduceAdd, Int.reduceNeg, ev1, ev2, implies_true, undef, stepP, dynCall, ↓condE_t, ↓condE_f, ↓guardE_tt, ↓guardE_ff, ↓guardE_tf, ↓guardE_ft, frzDeep, deepArgs, deepArg, resB, cv, stepB, stepE, callD, tabD, snapD, snap1, snapC, snapId, snapIds, guardB, guardC, dstAt, aopR, one, pre, binR, intOpR, shiftOpR, unR, argFrm, evo, lkp, hlk, lenOf, asLst, idOf, bndA, srcOk, ofVal, ofCells, setCells, fillA, setElems, fieldsOf, fieldsEq, scalEq, isEq, AV.wr, AV.ok1, TK.agg, frz, frzs, frzA, frzArg, frzArgs, subA, subL, sub1, kp, kh, accOf, List.replicate, Nat.reduceAdd, Nat.reduceSub, Nat.reduceMul, Nat.reduceEqDiff, Nat.reduceLT, Nat.reduceLeDiff, Nat.reduceBEq, reduceIte, reduceCtorEq, eq_self, ne_eq, Int.reduceToNat, Int.reduceLT, Int.reduceLE, Int.reduceGT, Int.reduceGE, Int.reduceBEq, Int.reduceBNe, Int.reduceEq, Int.reduceNe]
                        repeat' apply And.intro
                        any_goals (show entryOk _ _ _ _ _ = true; (repeat (first | exact entryOk_nil _ _ _ _ | (refine entryOk_step ?h ?_; case h => (first | (apply Or.inr; constructor <;> simp [meets] <;> omega; done) | (apply Or.inl; show anc _ _ _ _ = true; kernel_rfl))))))
                        exact ⟨(q + 1, ⟨x.op, 0, i', x.val, 0, 0, 0⟩), by dsimp only; omega, ⟨by dsimp only; omega, .inr ⟨.inl h3, hq1⟩⟩, rfl, rfl⟩
                      · have e3 : (x.op == 3) = false := by simpa using h3
                        by_cases h4 : x.op = 4
                        · have e4 : (x.op == 4) = true := by simpa using h4
                          rw [nextP, if_pos (.inr h4)] at hq1
                          simp only [IB_all, g5, g6, gl, hi0, hq0, hi3, hi4, hh, lg2, gx, hql', wq, e3, e4, en, b0, b1, b2, b3, c0, c1, c2, c3, c4, c5, r0, r1, r2, r3, Int.toNat_natCast, Nat.le_refl, zs, fss, fs, sv, fv, fBegin, rf1, List.set_set, T52, T50, T51, nb_self, nb_same, nb_l0, nb_r0, nb_lt, nb_gt, nb_lt0, nb_gt0, Nat.add_assoc, hfree_fr, hfree_cf, cv', cf_eta, frz_u, shC_dec, dC, T23, T28, T25, hfree_lu, hfree_l0, row0, row1, row2, row3, row4, row5, shI_dec, shN_dec, shB_dec, shM_dec, dI, dN, dB, dM, dU, dU_map, iv, bv, u, ms, ctx_T, ctx_C, ctx_P, T4, T3, T26, Option.bind_some, Option.bind_none, Option.map_some, List.length_map, List.length_set, String.reduceBEq, Int.toNat_natCast, Bool.true_beq, Bool.false_beq, T24, shF_dec, dF, fr_eta, Int.cast_ofNat_Int, Int.reduceSub, Int.reduceAdd, Int.reduceNeg, ev1, ev2, implies_true, undef, stepP, dynCall, ↓condE_t, ↓condE_f, ↓guardE_tt, ↓guardE_ff, ↓guardE_tf, ↓guardE_ft, frzDeep, deepArgs, deepArg, resB, cv, stepB, stepE, callD, tabD, snapD, snap1, snapC, snapId, snapIds, guardB, guardC, dstAt, aopR, one, pre, binR, intOpR, shiftOpR, unR, argFrm, evo, lkp, hlk, lenOf, asLst, idOf, bndA, srcOk, ofVal, ofCells, setCells, fillA, setElems, fieldsOf, fieldsEq, scalEq, isEq, AV.wr, AV.ok1, TK.agg, frz, frzs, frzA, frzArg, frzArgs, subA, subL, sub1, kp, kh, accOf, List.replicate, Nat.reduceAdd, Nat.reduceSub, Nat.reduceMul, Nat.reduceEqDiff, Nat.reduceLT, Nat.reduceLeDiff, Nat.reduceBEq, reduceIte, reduceCtorEq, eq_self, ne_eq, Int.reduceToNat, Int.reduceLT, Int.reduceLE, Int.reduceGT, Int.reduceGE, Int.reduceBEq, Int.reduceBNe, Int.reduceEq, Int.reduceNe]
                          repeat' apply And.intro
                          any_goals (show entryOk _ _ _ _ _ = true; (repeat (first | exact entryOk_nil _ _ _ _ | (refine entryOk_step ?h ?_; case h => (first | (apply Or.inr; constructor <;> simp [meets] <;> omega; done) | (apply Or.inl; show anc _ _ _ _ = true; kernel_rfl))))))
                          exact ⟨(q + 1, ⟨x.op, 0, i', x.val, 0, 0, 0⟩), by dsimp only; omega, ⟨by dsimp only; omega, .inr ⟨.inr h4, hq1⟩⟩, rfl, rfl⟩
                        · have e4 : (x.op == 4) = false := by simpa using h4
                          rw [nextP, if_neg (by simp [h3, h4])] at hq1
                          simp only [IB_all, g5, g6, gl, hi0, hq0, hi3, hi4, hh, lg2, gx, hql', wq, e3, e4, en, b0, b1, b2, b3, c0, c1, c2, c3, c4, c5, r0, r1, r2, r3, Int.toNat_natCast, Nat.le_refl, zs, fss, fs, sv, fv, fBegin, rf1, List.set_set, T52, T50, T51, nb_self, nb_same, nb_l0, nb_r0, nb_lt, nb_gt, nb_lt0, nb_gt0, Nat.add_assoc, hfree_fr, hfree_cf, cv', cf_eta, frz_u, shC_dec, dC, T23, T28, T25, hfree_lu, hfree_l0, row0, row1, row2, row3, row4, row5, shI_dec, shN_dec, shB_dec, shM_dec, dI, dN, dB, dM, dU, dU_map, iv, bv, u, ms, ctx_T, ctx_C, ctx_P, T4, T3, T26, Option.bind_some, Option.bind_none, Option.map_some, List.length_map, List.length_set, String.reduceBEq, Int.toNat_natCast, Bool.true_beq, Bool.false_beq, T24, shF_dec, dF, fr_eta, Int.cast_ofNat_Int, Int.reduceSub, Int.reduceAdd, Int.reduceNeg, ev1, ev2, implies_true, undef, stepP, dynCall, ↓condE_t, ↓condE_f, ↓guardE_tt, ↓guardE_ff, ↓guardE_tf, ↓guardE_ft, frzDeep, deepArgs, deepArg, resB, cv, stepB, stepE, callD, tabD, snapD, snap1, snapC, snapId, snapIds, guardB, guardC, dstAt, aopR, one, pre, binR, intOpR, shiftOpR, unR, argFrm, evo, lkp, hlk, lenOf, asLst, idOf, bndA, srcOk, ofVal, ofCells, setCells, fillA, setElems, fieldsOf, fieldsEq, scalEq, isEq, AV.wr, AV.ok1, TK.agg, frz, frzs, frzA, frzArg, frzArgs, subA, subL, sub1, kp, kh, accOf, List.replicate, Nat.reduceAdd, Nat.reduceSub, Nat.reduceMul, Nat.reduceEqDiff, Nat.reduceLT, Nat.reduceLeDiff, Nat.reduceBEq, reduceIte, reduceCtorEq, eq_self, ne_eq, Int.reduceToNat, Int.reduceLT, Int.reduceLE, Int.reduceGT, Int.reduceGE, Int.reduceBEq, Int.reduceBNe, Int.reduceEq, Int.reduceNe]
                          repeat' apply And.intro
                          any_goals (show entryOk _ _ _ _ _ = true; (repeat (first | exact entryOk_nil _ _ _ _ | (refine entryOk_step ?h ?_; case h => (first | (apply Or.inr; constructor <;> simp [meets] <;> omega; done) | (apply Or.inl; show anc _ _ _ _ = true; kernel_rfl))))))
                          exact ⟨(q + 1, noneF), by dsimp only; omega, ⟨by dsimp only; omega, .inl ⟨rfl, hq1⟩⟩, rfl, rfl⟩
                    · have hPa : P = (a, l.drop q) := by
                        rcases hqa with ⟨h, h'⟩ | ⟨_, h⟩
                        · have : ¬ q < l.length := fun h2 => hgo ⟨h, h2⟩
                          rw [← h', List.drop_eq_nil_of_le (by omega), h]; rfl
                        · exact h.symm
                      rw [hPa] at hP
                      obtain ⟨m', g, e2⟩ : ∃ x y, riStep ⟨1, 1, room, 0⟩ m a = (x, y) := ⟨_, _, rfl⟩
                      have hgl : goneP calls (left.set i' (l.drop q)) = (goneP calls left).set i' (q : Int) := by
                        rw [hgs, List.length_drop, show l.length - (l.length - q) = q by omega]
                      have hcd : (a.op < 0) = False ∨ ((a.op < 0) = True ∧ ((q : Int) < (l.length : Int)) = False) := by
                        rcases hqa with ⟨h, h'⟩ | ⟨h, _⟩
                        · refine .inr ⟨by rw [h]; exact eq_true (by decide), eq_false (fun h2 => hgo ⟨h, by omega⟩)⟩
                        · exact .inl (eq_false (by omega))
                      by_cases hr : g.res = 0
                      · have hr' : (g.res != 0) = false := by simpa using hr
                        have hs4 : S (k + 1) = ⟨m', left.set i' (l.drop q), hand.set i' g, over⟩ := by rw [hs3, pRound, ← hP]; dsimp only; rw [e2]; exact if_pos hr
                        rcases hcd with u1 | ⟨u1, u2⟩
                        · simp only [IB_all, g5, g6, gl, hi0, hq0, hi3, hi4, hh, lg2, u1, e2, hr', ww, hml, hcap, b0, b1, b2, b3, c0, c1, c2, c3, c4, c5, r0, r1, r2, r3, Int.toNat_natCast, Nat.le_refl, zs, fss, fs, sv, fv, fBegin, rf1, List.set_set, T52, T50, T51, nb_self, nb_same, nb_l0, nb_r0, nb_lt, nb_gt, nb_lt0, nb_gt0, Nat.add_assoc, hfree_fr, hfree_cf, cv', cf_eta, frz_u, shC_dec, dC, T23, T28, T25, hfree_lu, hfree_l0, row0, row1, row2, row3, row4, row5, shI_dec, shN_dec, shB_dec, shM_dec, dI, dN, dB, dM, dU, dU_map, iv, bv, u, ms, ctx_T, ctx_C, ctx_P, T4, T3, T26, Option.bind_some, Option.bind_none, Option.map_some, List.length_map, List.length_set, String.reduceBEq, Int.toNat_natCast, Bool.true_beq, Bool.false_beq, T24, shF_dec, dF, fr_eta, Int.cast_ofNat_Int, Int.reduceSub, Int.reduceAdd, Int.reduceNeg, ev1, ev2, implies_true, undef, stepP, dynCall, ↓condE_t, ↓condE_f, ↓guardE_tt, ↓guardE_ff, ↓guardE_tf, ↓guardE_ft, frzDeep, deepArgs, deepArg, resB, cv, stepB, stepE, callD, tabD, snapD, snap1, snapC, snapId, snapIds, guardB, guardC, dstAt, aopR, one, pre, binR, intOpR, shiftOpR, unR, argFrm, evo, lkp, hlk, lenOf, asLst, idOf, bndA, srcOk, ofVal, ofCells, setCells, fillA, setElems, fieldsOf, fieldsEq, scalEq, isEq, AV.wr, AV.ok1, TK.agg, frz, frzs, frzA, frzArg, frzArgs, subA, subL, sub1, kp, kh, accOf, List.replicate, Nat.reduceAdd, Nat.reduceSub, Nat.reduceMul, Nat.reduceEqDiff, Nat.reduceLT, Nat.reduceLeDiff, Nat.reduceBEq, reduceIte, reduceCtorEq, eq_self, ne_eq, Int.reduceToNat, Int.reduceLT, Int.reduceLE, Int.reduceGT, Int.reduceGE, Int.reduceBEq, Int.reduceBNe, Int.reduceEq, Int.reduceNe]
                          repeat' apply And.intro
                          any_goals (show entryOk _ _ _ _ _ = true; (repeat (first | exact entryOk_nil _ _ _ _ | (refine entryOk_step ?h ?_; case h => (first | (apply Or.inr; constructor <;> simp [meets] <;> omega; done) | (apply Or.inl; show anc _ _ _ _ = true; kernel_rfl))))))
                          refine ⟨(k + 1, od), by dsimp only; omega, ⟨by dsimp only; omega, hod⟩, ?_⟩
                          simp only [hs4, hgl, nb_self, b0, b1, b2, b3, c0, c1, c2, c3, c4, c5, r0, r1, r2, r3, nb_self, nb_same, nb_l0, nb_r0, nb_lt, nb_gt, nb_lt0, nb_gt0, Nat.add_assoc]
                          exact ⟨⟨trivial, trivial, trivial⟩, trivial, trivial, trivial⟩
                        · simp only [IB_all, g5, g6, gl, hi0, hq0, hi3, hi4, hh, lg2, u1, u2, e2, hr', ww, hml, hcap, b0, b1, b2, b3, c0, c1, c2, c3, c4, c5, r0, r1, r2, r3, Int.toNat_natCast, Nat.le_refl, zs, fss, fs, sv, fv, fBegin, rf1, List.set_set, T52, T50, T51, nb_self, nb_same, nb_l0, nb_r0, nb_lt, nb_gt, nb_lt0, nb_gt0, Nat.add_assoc, hfree_fr, hfree_cf, cv', cf_eta, frz_u, shC_dec, dC, T23, T28, T25, hfree_lu, hfree_l0, row0, row1, row2, row3, row4, row5, shI_dec, shN_dec, shB_dec, shM_dec, dI, dN, dB, dM, dU, dU_map, iv, bv, u, ms, ctx_T, ctx_C, ctx_P, T4, T3, T26, Option.bind_some, Option.bind_none, Option.map_some, List.length_map, List.length_set, String.reduceBEq, Int.toNat_natCast, Bool.true_beq, Bool.false_beq, T24, shF_dec, dF, fr_eta, Int.cast_ofNat_Int, Int.reduceSub, Int.reduceAdd, Int.reduceNeg, ev1, ev2, implies_true, undef, stepP, dynCall, ↓condE_t, ↓condE_f, ↓guardE_tt, ↓guardE_ff, ↓guardE_tf, ↓guardE_ft, frzDeep, deepArgs, deepArg, resB, cv, stepB, stepE, callD, tabD, snapD, snap1, snapC, snapId, snapIds, guardB, guardC, dstAt, aopR, one, pre, binR, intOpR, shiftOpR, unR, argFrm, evo, lkp, hlk, lenOf, asLst, idOf, bndA, srcOk, ofVal, ofCells, setCells, fillA, setElems, fieldsOf, fieldsEq, scalEq, isEq, AV.wr, AV.ok1, TK.agg, frz, frzs, frzA, frzArg, frzArgs, subA, subL, sub1, kp, kh, accOf, List.replicate, Nat.reduceAdd, Nat.reduceSub, Nat.reduceMul, Nat.reduceEqDiff, Nat.reduceLT, Nat.reduceLeDiff, Nat.reduceBEq, reduceIte, reduceCtorEq, eq_self, ne_eq, Int.reduceToNat, Int.reduceLT, Int.reduceLE, Int.reduceGT, Int.reduceGE, Int.reduceBEq, Int.reduceBNe, Int.reduceEq, Int.reduceNe]
                          repeat' apply And.intro
                          any_goals (show entryOk _ _ _ _ _ = true; (repeat (first | exact entryOk_nil _ _ _ _ | (refine entryOk_step ?h ?_; case h => (first | (apply Or.inr; constructor <;> simp [meets] <;> omega; done) | (apply Or.inl; show anc _ _ _ _ = true; kernel_rfl))))))
                          refine ⟨(k + 1, od), by dsimp only; omega, ⟨by dsimp only; omega, hod⟩, ?_⟩
                          simp only [hs4, hgl, nb_self, b0, b1, b2, b3, c0, c1, c2, c3, c4, c5, r0, r1, r2, r3, nb_self, nb_same, nb_l0, nb_r0, nb_lt, nb_gt, nb_lt0, nb_gt0, Nat.add_assoc]
                          exact ⟨⟨trivial, trivial, trivial⟩, trivial, trivial, trivial⟩
                      · have hr' : (g.res != 0) = true := by simpa using hr
                        have hs4 : S (k + 1) = ⟨m', left.set i' (l.drop q), hand.set i' noneF, over ++ [g]⟩ := by rw [hs3, pRound, ← hP]; dsimp only; rw [e2]; exact if_neg hr
                        have g7 := getD_set_f hhi g
                        rcases hcd with u1 | ⟨u1, u2⟩
                        · simp only [IB_all, g5, g6, gl, hi0, hq0, hi3, hi4, hh, lg2, u1, g7, len_snocF, e2, hr', ww, hml, hcap, b0, b1, b2, b3, c0, c1, c2, c3, c4, c5, r0, r1, r2, r3, Int.toNat_natCast, Nat.le_refl, zs, fss, fs, sv, fv, fBegin, rf1, List.set_set, T52, T50, T51, nb_self, nb_same, nb_l0, nb_r0, nb_lt, nb_gt, nb_lt0, nb_gt0, Nat.add_assoc, hfree_fr, hfree_cf, cv', cf_eta, frz_u, shC_dec, dC, T23, T28, T25, hfree_lu, hfree_l0, row0, row1, row2, row3, row4, row5, shI_dec, shN_dec, shB_dec, shM_dec, dI, dN, dB, dM, dU, dU_map, iv, bv, u, ms, ctx_T, ctx_C, ctx_P, T4, T3, T26, Option.bind_some, Option.bind_none, Option.map_some, List.length_map, List.length_set, String.reduceBEq, Int.toNat_natCast, Bool.true_beq, Bool.false_beq, T24, shF_dec, dF, fr_eta, Int.cast_ofNat_Int, Int.reduceSub, Int.reduceAdd, Int.reduceNeg, ev1, ev2, implies_true, undef, stepP, dynCall, ↓condE_t, ↓condE_f, ↓guardE_tt, ↓guardE_ff, ↓guardE_tf, ↓guardE_ft, frzDeep, deepArgs, deepArg, resB, cv, stepB, stepE, callD, tabD, snapD, snap1, snapC, snapId, snapIds, guardB, guardC, dstAt, aopR, one, pre, binR, intOpR, shiftOpR, unR, argFrm, evo, lkp, hlk, lenOf, asLst, idOf, bndA, srcOk, ofVal, ofCells, setCells, fillA, setElems, fieldsOf, fieldsEq, scalEq, isEq, AV.wr, AV.ok1, TK.agg, frz, frzs, frzA, frzArg, frzArgs, subA, subL, sub1, kp, kh, accOf, List.replicate, Nat.reduceAdd, Nat.reduceSub, Nat.reduceMul, Nat.reduceEqDiff, Nat.reduceLT, Nat.reduceLeDiff, Nat.reduceBEq, reduceIte, reduceCtorEq, eq_self, ne_eq, Int.reduceToNat, Int.reduceLT, Int.reduceLE, Int.reduceGT, Int.reduceGE, Int.reduceBEq, Int.reduceBNe, Int.reduceEq, Int.reduceNe]
                          repeat' apply And.intro
                          any_goals (show entryOk _ _ _ _ _ = true; (repeat (first | exact entryOk_nil _ _ _ _ | (refine entryOk_step ?h ?_; case h => (first | (apply Or.inr; constructor <;> simp [meets] <;> omega; done) | (apply Or.inl; show anc _ _ _ _ = true; kernel_rfl))))))
                          refine ⟨(k + 1, nx3 + 45), by dsimp only; omega, ⟨by dsimp only; omega, .inr (by dsimp only; omega)⟩, ?_⟩
                          simp only [hs4, hgl, len_snocF, nb_self, b0, b1, b2, b3, c0, c1, c2, c3, c4, c5, r0, r1, r2, r3, nb_self, nb_same, nb_l0, nb_r0, nb_lt, nb_gt, nb_lt0, nb_gt0, Nat.add_assoc]
                          repeat' apply And.intro
                          all_goals first | trivial | rfl
                        · simp only [IB_all, g5, g6, gl, hi0, hq0, hi3, hi4, hh, lg2, u1, u2, g7, len_snocF, e2, hr', ww, hml, hcap, b0, b1, b2, b3, c0, c1, c2, c3, c4, c5, r0, r1, r2, r3, Int.toNat_natCast, Nat.le_refl, zs, fss, fs, sv, fv, fBegin, rf1, List.set_set, T52, T50, T51, nb_self, nb_same, nb_l0, nb_r0, nb_lt, nb_gt, nb_lt0, nb_gt0, Nat.add_assoc, hfree_fr, hfree_cf, cv', cf_eta, frz_u, shC_dec, dC, T23, T28, T25, hfree_lu, hfree_l0, row0, row1, row2, row3, row4, row5, shI_dec, shN_dec, shB_dec, shM_dec, dI, dN, dB, dM, dU, dU_map, iv, bv, u, ms, ctx_T, ctx_C, ctx_P, T4, T3, T26, Option.bind_some, Option.bind_none, Option.map_some, List.length_map, List.length_set, String.reduceBEq, Int.toNat_natCast, Bool.true_beq, Bool.false_beq, T24, shF_dec, dF, fr_eta, Int.cast_ofNat_Int, Int.reduceSub, Int.reduceAdd, Int.reduceNeg, ev1, ev2, implies_true, undef, stepP, dynCall, ↓condE_t, ↓condE_f, ↓guardE_tt, ↓guardE_ff, ↓guardE_tf, ↓guardE_ft, frzDeep, deepArgs, deepArg, resB, cv, stepB, stepE, callD, tabD, snapD, snap1, snapC, snapId, snapIds, guardB, guardC, dstAt, aopR, one, pre, binR, intOpR, shiftOpR, unR, argFrm, evo, lkp, hlk, lenOf, asLst, idOf, bndA, srcOk, ofVal, ofCells, setCells, fillA, setElems, fieldsOf, fieldsEq, scalEq, isEq, AV.wr, AV.ok1, TK.agg, frz, frzs, frzA, frzArg, frzArgs, subA, subL, sub1, kp, kh, accOf, List.replicate, Nat.reduceAdd, Nat.reduceSub, Nat.reduceMul, Nat.reduceEqDiff, Nat.reduceLT, Nat.reduceLeDiff, Nat.reduceBEq, reduceIte, reduceCtorEq, eq_self, ne_eq, Int.reduceToNat, Int.reduceLT, Int.reduceLE, Int.reduceGT, Int.reduceGE, Int.reduceBEq, Int.reduceBNe, Int.reduceEq, Int.reduceNe]
                          repeat' apply And.intro
                          any_goals (show entryOk _ _ _ _ _ = true; (repeat (first | exact entryOk_nil _ _ _ _ | (refine entryOk_step ?h ?_; case h => (first | (apply Or.inr; constructor <;> simp [meets] <;> omega; done) | (apply Or.inl; show anc _ _ _ _ = true; kernel_rfl))))))
                          refine ⟨(k + 1, nx3 + 45), by dsimp only; omega, ⟨by dsimp only; omega, .inr (by dsimp only; omega)⟩, ?_⟩
                          simp only [hs4, hgl, len_snocF, nb_self, b0, b1, b2, b3, c0, c1, c2, c3, c4, c5, r0, r1, r2, r3, nb_self, nb_same, nb_l0, nb_r0, nb_lt, nb_gt, nb_lt0, nb_gt0, Nat.add_assoc]
                          repeat' apply And.intro
                          all_goals first | trivial | rfl
                  · rcases hsn i' with h | h
                    · refine .inl ⟨h, ?_⟩
                      dsimp only at h ⊢
                      rw [hsi, hP, pHand, if_pos (by dsimp only; rw [h]; rfl), hlf]
                    · refine .inr ⟨h, ?_⟩
                      dsimp only at h ⊢
                      rw [hsi, hP, pHand, if_neg (by dsimp only; omega), hlf]
                  · dsimp only [kh]
                    rw [set_getD_self hhi, ← hqg, set_getD_self hgn]
                    simp only [hlk, nb_self, b0, b1, b2, b3, c0, c1, c2, c3, c4, c5, Nat.reduceBEq]
                    exact ⟨trivial, trivial, trivial, rfl, trivial⟩
            · have hkw' : ¬ (k : Int) < who.length := by omega
              simp only [IB_all, hkw', hh, b0, b1, b2, b3, c0, c1, c2, c3, c4, c5, m0, m1, m2, hodn, Nat.le_refl, zs, fss, sv, fv, rf1, List.set_set, T52, T50, T51, nb_self, nb_same, nb_l0, nb_r0, nb_lt, nb_gt, nb_lt0, nb_gt0, Nat.add_assoc, hfree_fr, hfree_cf, cv', cf_eta, frz_u, shC_dec, dC, T23, T28, T25, hfree_lu, hfree_l0, row0, row1, row2, row3, row4, row5, shI_dec, shN_dec, shB_dec, shM_dec, dI, dN, dB, dM, dU, dU_map, iv, bv, u, ms, ctx_T, ctx_C, ctx_P, T4, T3, T26, Option.bind_some, Option.bind_none, Option.map_some, List.length_map, List.length_set, String.reduceBEq, Int.toNat_natCast, Bool.true_beq, Bool.false_beq, T24, shF_dec, dF, fr_eta, Int.cast_ofNat_Int, Int.reduceSub, Int.reduceAdd, Int.reduceNeg, ev1, ev2, implies_true, undef, stepP, dynCall, ↓condE_t, ↓condE_f, ↓guardE_tt, ↓guardE_ff, ↓guardE_tf, ↓guardE_ft, frzDeep, deepArgs, deepArg, resB, cv, stepB, stepE, callD, tabD, snapD, snap1, snapC, snapId, snapIds, guardB, guardC, dstAt, aopR, one, pre, binR, intOpR, shiftOpR, unR, argFrm, evo, lkp, hlk, lenOf, asLst, idOf, bndA, srcOk, ofVal, ofCells, setCells, fillA, setElems, fieldsOf, fieldsEq, scalEq, isEq, AV.wr, AV.ok1, TK.agg, frz, frzs, frzA, frzArg, frzArgs, subA, subL, sub1, kp, kh, accOf, List.replicate, Nat.reduceAdd, Nat.reduceSub, Nat.reduceMul, Nat.reduceEqDiff, Nat.reduceLT, Nat.reduceLeDiff, Nat.reduceBEq, reduceIte, reduceCtorEq, eq_self, ne_eq, Int.reduceToNat, Int.reduceLT, Int.reduceLE, Int.reduceGT, Int.reduceGE, Int.reduceBEq, Int.reduceBNe, Int.reduceEq, Int.reduceNe]
              have hkk : k = who.length := by omega
              have hth : List.take calls.length (hand.map fv) = hand.map fv := by rw [← hh]; exact take_f hand
              have hP : rPlay room calls who = (m, over, hand) := by
                rw [rPlay, gPlay, if_pos ⟨hm, h8⟩, show injC room = ⟨1, 1, room, 0⟩ from rfl, ← hla, ← hkk, hSk]
              rw [hP, hth]
              exact ⟨of_eq_true (hf_f _), of_eq_true (hf_f _), rfl, rfl, rfl⟩
          · rw [hS.zero]
            exact ⟨rfl, rfl, rfl, rfl, rfl, rfl, rfl, rfl, trivial⟩
          · rw [hS.zero]
            have e1 : Nat.beq id (nx + 5) = false := nb_lt hidn 5
            have e2 : Nat.beq 24 (nx + 5) = false := nb_lt n1 5
            have e3 : Nat.beq 5 (nx + 5) = false := nb_lt n0 5
            simp only [kh, hlk, nb_self, b0, b1, b2, b3, e1, e2, e3, Nat.reduceBEq]
            exact ⟨rfl, rfl, rfl, rfl, trivial⟩
      · exact ⟨rfl, rfl, rfl, rfl, rfl, rfl, rfl, rfl, trivial⟩
      · dsimp only [kh]
        refine ⟨rfl, ?_, rfl, trivial⟩
        rw [goneP_self, List.map_replicate]
        rfl
    · have h8' : (calls.length : Int) > 8 := by omega
      have hP : rPlay room calls who = ([], [], []) := by rw [rPlay, gPlay, if_neg (fun h => h8 h.2)]
      have e : injC room = ⟨1, 1, room, 0⟩ := rfl
      rw [e] at hm
      rw [hP]
      simp only [Try.f38, inl, IB_all, hm, h8', fss, zs, fs, sv, fv, List.map_nil, rf1, List.set_set, T52, T50, T51, hfree_fr, hfree_cf, cv', cf_eta, frz_u, shC_dec, dC, T23, T28, T25, hfree_lu, hfree_l0, row0, row1, row2, row3, row4, row5, shI_dec, shN_dec, shB_dec, shM_dec, dI, dN, dB, dM, dU, dU_map, iv, bv, u, ms, ctx_T, ctx_C, ctx_P, T4, T3, T26, Option.bind_some, Option.bind_none, Option.map_some, List.length_map, List.length_set, String.reduceBEq, Int.toNat_natCast, Bool.true_beq, Bool.false_beq, T24, shF_dec, dF, fr_eta, Int.cast_ofNat_Int, Int.reduceSub, Int.reduceAdd, Int.reduceNeg, ev1, ev2, implies_true, undef, stepP, dynCall, ↓condE_t, ↓condE_f, ↓guardE_tt, ↓guardE_ff, ↓guardE_tf, ↓guardE_ft, frzDeep, deepArgs, deepArg, resB, cv, stepB, stepE, callD, tabD, snapD, snap1, snapC, snapId, snapIds, guardB, guardC, dstAt, aopR, one, pre, binR, intOpR, shiftOpR, unR, argFrm, evo, lkp, hlk, lenOf, asLst, idOf, bndA, srcOk, ofVal, ofCells, setCells, fillA, setElems, fieldsOf, fieldsEq, scalEq, isEq, AV.wr, AV.ok1, TK.agg, frz, frzs, frzA, frzArg, frzArgs, subA, subL, sub1, kp, kh, accOf, List.replicate, Nat.reduceAdd, Nat.reduceSub, Nat.reduceMul, Nat.reduceEqDiff, Nat.reduceLT, Nat.reduceLeDiff, Nat.reduceBEq, reduceIte, reduceCtorEq, eq_self, ne_eq, Int.reduceToNat, Int.reduceLT, Int.reduceLE, Int.reduceGT, Int.reduceGE, Int.reduceBEq, Int.reduceBNe, Int.reduceEq, Int.reduceNe]
      all_goals ((repeat' apply And.intro) <;> first | rfl | omega | (show entryOk _ _ _ _ _ = true; kernel_rfl) | (show pivotOk _ _ = true; kernel_rfl) | decide)
  · have hP : rPlay room calls who = ([], [], []) := by rw [rPlay, gPlay, if_neg (fun h => hm h.1)]
    have e : injC room = ⟨1, 1, room, 0⟩ := rfl
    rw [e] at hm
    rw [hP]
    have hm' : mayC ⟨1, 1, room, 0⟩ = false := by simpa using hm
    simp only [Try.f38, inl, IB_all, hm', fss, zs, fs, sv, fv, List.map_nil, rf1, List.set_set, T52, T50, T51, hfree_fr, hfree_cf, cv', cf_eta, frz_u, shC_dec, dC, T23, T28, T25, hfree_lu, hfree_l0, row0, row1, row2, row3, row4, row5, shI_dec, shN_dec, shB_dec, shM_dec, dI, dN, dB, dM, dU, dU_map, iv, bv, u, ms, ctx_T, ctx_C, ctx_P, T4, T3, T26, Option.bind_some, Option.bind_none, Option.map_some, List.length_map, List.length_set, String.reduceBEq, Int.toNat_natCast, Bool.true_beq, Bool.false_beq, T24, shF_dec, dF, fr_eta, Int.cast_ofNat_Int, Int.reduceSub, Int.reduceAdd, Int.reduceNeg, ev1, ev2, implies_true, undef, stepP, dynCall, ↓condE_t, ↓condE_f, ↓guardE_tt, ↓guardE_ff, ↓guardE_tf, ↓guardE_ft, frzDeep, deepArgs, deepArg, resB, cv, stepB, stepE, callD, tabD, snapD, snap1, snapC, snapId, snapIds, guardB, guardC, dstAt, aopR, one, pre, binR, intOpR, shiftOpR, unR, argFrm, evo, lkp, hlk, lenOf, asLst, idOf, bndA, srcOk, ofVal, ofCells, setCells, fillA, setElems, fieldsOf, fieldsEq, scalEq, isEq, AV.wr, AV.ok1, TK.agg, frz, frzs, frzA, frzArg, frzArgs, subA, subL, sub1, kp, kh, accOf, List.replicate, Nat.reduceAdd, Nat.reduceSub, Nat.reduceMul, Nat.reduceEqDiff, Nat.reduceLT, Nat.reduceLeDiff, Nat.reduceBEq, reduceIte, reduceCtorEq, eq_self, ne_eq, Int.reduceToNat, Int.reduceLT, Int.reduceLE, Int.reduceGT, Int.reduceGE, Int.reduceBEq, Int.reduceBNe, Int.reduceEq, Int.reduceNe]
    all_goals ((repeat' apply And.intro) <;> first | rfl | omega | (show entryOk _ _ _ _ _ = true; kernel_rfl) | (show pivotOk _ _ = true; kernel_rfl) | decide)
end Go.Vai
/- How what is at hand ends. -/
namespace Go.Vai
open Go.RowKit Go.Proofs
set_option linter.unusedSimpArgs false
set_option linter.unusedVariables false
set_option maxHeartbeats 4000000
set_option maxRecDepth 100000

theorem rrest_pure (room : Int) (m : List Int) (hand : List Fr) (hm : m.length ≤ 1000) (hh : hand.length ≤ 1000) :
    PureC Try.prog 40 [iv room, ms m, fs hand] (.tup [ms (rRest room m hand).1, fs (rRest room m hand).2]) := by
  refine pure_sub okIB 1 Try.func40 rfl (by show 3 ≤ _; decide) ?_
  have e : injC room = ⟨1, 1, room, 0⟩ := rfl
  by_cases hc : mayC ⟨1, 1, room, 0⟩ = true
  · by_cases hl : (m.length : Int) = lSize ⟨1, 1, room, 0⟩
    · have hl' : ((m.length : Int) != lSize ⟨1, 1, room, 0⟩) = false := by simpa using hl
      have hcap : hand.length * 56 ≤ 140737488355328 := by omega
      simp only [Try.f40, inl, IB_all, hc, hl', hm, hcap, fs, sv, fv, rf1, List.set_set, T52, T50, T51, hfree_fr, hfree_cf, cv', cf_eta, frz_u, shC_dec, dC, T23, T28, T25, hfree_lu, hfree_l0, row0, row1, row2, row3, row4, row5, shI_dec, shN_dec, shB_dec, shM_dec, dI, dN, dB, dM, dU, dU_map, iv, bv, u, ms, ctx_T, ctx_C, ctx_P, T4, T3, T26, Option.bind_some, Option.bind_none, Option.map_some, List.length_map, List.length_set, String.reduceBEq, Int.toNat_natCast, Bool.true_beq, Bool.false_beq, T24, shF_dec, dF, fr_eta, Int.cast_ofNat_Int, Int.reduceSub, Int.reduceAdd, Int.reduceNeg, ev1, ev2, implies_true, undef, stepP, dynCall, ↓condE_t, ↓condE_f, ↓guardE_tt, ↓guardE_ff, ↓guardE_tf, ↓guardE_ft, frzDeep, deepArgs, deepArg, resB, cv, stepB, stepE, callD, tabD, snapD, snap1, snapC, snapId, snapIds, guardB, guardC, dstAt, aopR, one, pre, binR, intOpR, shiftOpR, unR, argFrm, evo, lkp, hlk, lenOf, asLst, idOf, bndA, srcOk, ofVal, ofCells, setCells, fillA, setElems, fieldsOf, fieldsEq, scalEq, isEq, AV.wr, AV.ok1, TK.agg, frz, frzs, frzA, frzArg, frzArgs, subA, subL, sub1, kp, kh, accOf, List.replicate, Nat.reduceAdd, Nat.reduceSub, Nat.reduceMul, Nat.reduceEqDiff, Nat.reduceLT, Nat.reduceLeDiff, Nat.reduceBEq, reduceIte, reduceCtorEq, eq_self, ne_eq, Int.reduceToNat, Int.reduceLT, Int.reduceLE, Int.reduceGT, Int.reduceGE, Int.reduceBEq, Int.reduceBNe, Int.reduceEq, Int.reduceNe]
      have rK := fun k => len_restK len_riStep ⟨1, 1, room, 0⟩ (m, hand) k
      have rT := fun k i => len_restTo len_riStep ⟨1, 1, room, 0⟩ (restK riStep ⟨1, 1, room, 0⟩ (m, hand) k) i
      refine WP.loop (ι := Nat) (fun k => 10 - k) (fun k => k ≤ 10) (n := 77)
        (fr := fun k => [(11, iv k), (10, .arr 19 0 hand.length), (8, .ptr 4 0 0), (1, ms (restK riStep ⟨1, 1, room, 0⟩ (m, hand) k).1)])
        (hp := fun k => [(19, some ⟨false, 28, 7, (restK riStep ⟨1, 1, room, 0⟩ (m, hand) k).2.map fv⟩), (4, some ⟨false, 23, 4, [cv' ⟨1, 1, room, 0⟩]⟩)]) (N := 20) ?_ 0 (Nat.zero_le _) rfl (by simp) ⟨rfl, rfl, rfl, rfl, trivial⟩ ⟨rfl, rfl, trivial⟩
      intro k nx hk hN hid

      have k1 : (restK riStep ⟨1, 1, room, 0⟩ (m, hand) k).1.length = m.length := (rK k).1
      have k2 : (restK riStep ⟨1, 1, room, 0⟩ (m, hand) k).2.length = hand.length := (rK k).2
      have n0 : 19 < nx := hid 19 _ rfl
      have n1 : 4 < nx := hid 4 _ rfl
      refine WP.of okIB 1 (by rfl) ?_
      by_cases hk10 : (k : Int) < 10
      · have wk : IntKind.wrap .i64 ((k : Int) + 1) = ((k + 1 : Nat) : Int) := by rw [wrap_i (by omega) (by omega)]; omega
        simp only [IB_all, hk10, k2, n0, n1, zs, fss, fs, sv, fv, Int.toNat_natCast, Nat.le_refl, rf1, List.set_set, T52, T50, T51, nb_self, nb_same, nb_l0, nb_r0, nb_lt, nb_gt, nb_lt0, nb_gt0, Nat.add_assoc, hfree_fr, hfree_cf, cv', cf_eta, frz_u, shC_dec, dC, T23, T28, T25, hfree_lu, hfree_l0, row0, row1, row2, row3, row4, row5, shI_dec, shN_dec, shB_dec, shM_dec, dI, dN, dB, dM, dU, dU_map, iv, bv, u, ms, ctx_T, ctx_C, ctx_P, T4, T3, T26, Option.bind_some, Option.bind_none, Option.map_some, List.length_map, List.length_set, String.reduceBEq, Int.toNat_natCast, Bool.true_beq, Bool.false_beq, T24, shF_dec, dF, fr_eta, Int.cast_ofNat_Int, Int.reduceSub, Int.reduceAdd, Int.reduceNeg, ev1, ev2, implies_true, undef, stepP, dynCall, ↓condE_t, ↓condE_f, ↓guardE_tt, ↓guardE_ff, ↓guardE_tf, ↓guardE_ft, frzDeep, deepArgs, deepArg, resB, cv, stepB, stepE, callD, tabD, snapD, snap1, snapC, snapId, snapIds, guardB, guardC, dstAt, aopR, one, pre, binR, intOpR, shiftOpR, unR, argFrm, evo, lkp, hlk, lenOf, asLst, idOf, bndA, srcOk, ofVal, ofCells, setCells, fillA, setElems, fieldsOf, fieldsEq, scalEq, isEq, AV.wr, AV.ok1, TK.agg, frz, frzs, frzA, frzArg, frzArgs, subA, subL, sub1, kp, kh, accOf, List.replicate, Nat.reduceAdd, Nat.reduceSub, Nat.reduceMul, Nat.reduceEqDiff, Nat.reduceLT, Nat.reduceLeDiff, Nat.reduceBEq, reduceIte, reduceCtorEq, eq_self, ne_eq, Int.reduceToNat, Int.reduceLT, Int.reduceLE, Int.reduceGT, Int.reduceGE, Int.reduceBEq, Int.reduceBNe, Int.reduceEq, Int.reduceNe]
        refine WP.loop (ι := Nat) (fun i => hand.length - i) (fun i => i ≤ hand.length) (n := 77)
          (fr := fun i => [(12, iv i), (11, iv k), (10, .arr 19 0 hand.length), (8, .ptr 4 0 0), (1, ms (restTo riStep ⟨1, 1, room, 0⟩ (restK riStep ⟨1, 1, room, 0⟩ (m, hand) k) i).1)])
          (hp := fun i => [(19, some ⟨false, 28, 7, (restTo riStep ⟨1, 1, room, 0⟩ (restK riStep ⟨1, 1, room, 0⟩ (m, hand) k) i).2.map fv⟩), (4, some ⟨false, 23, 4, [cv' ⟨1, 1, room, 0⟩]⟩)]) (N := 20) ?_ 0 (Nat.zero_le _) rfl (by show 20 ≤ nx + _; omega) ⟨rfl, rfl, rfl, rfl, rfl, trivial⟩ ⟨rfl, rfl, trivial⟩
        intro i nx2 hi hN2 hid2

        have t1 := (rT k i).1.trans k1
        have t2 := (rT k i).2.trans k2
        have m0 : 19 < nx2 := hid2 19 _ rfl
        have m1 : 4 < nx2 := hid2 4 _ rfl
        generalize hT : restTo riStep ⟨1, 1, room, 0⟩ (restK riStep ⟨1, 1, room, 0⟩ (m, hand) k) i = T at t1 t2 ⊢
        obtain ⟨mT, hT'⟩ := T
        dsimp only at t1 t2 ⊢
        refine WP.of okIB 1 (by rfl) ?_
        by_cases hih : (i : Int) < hand.length
        · have wi : IntKind.wrap .i64 ((i : Int) + 1) = ((i + 1 : Nat) : Int) := by rw [wrap_i (by omega) (by omega)]; omega
          have hiT : i < hT'.length := by omega
          simp only [IB_all, hih, t2, m0, m1, zs, fss, fs, sv, fv, Int.toNat_natCast, Nat.le_refl, rf1, List.set_set, T52, T50, T51, nb_self, nb_same, nb_l0, nb_r0, nb_lt, nb_gt, nb_lt0, nb_gt0, Nat.add_assoc, hfree_fr, hfree_cf, cv', cf_eta, frz_u, shC_dec, dC, T23, T28, T25, hfree_lu, hfree_l0, row0, row1, row2, row3, row4, row5, shI_dec, shN_dec, shB_dec, shM_dec, dI, dN, dB, dM, dU, dU_map, iv, bv, u, ms, ctx_T, ctx_C, ctx_P, T4, T3, T26, Option.bind_some, Option.bind_none, Option.map_some, List.length_map, List.length_set, String.reduceBEq, Int.toNat_natCast, Bool.true_beq, Bool.false_beq, T24, shF_dec, dF, fr_eta, Int.cast_ofNat_Int, Int.reduceSub, Int.reduceAdd, Int.reduceNeg, ev1, ev2, implies_true, undef, stepP, dynCall, ↓condE_t, ↓condE_f, ↓guardE_tt, ↓guardE_ff, ↓guardE_tf, ↓guardE_ft, frzDeep, deepArgs, deepArg, resB, cv, stepB, stepE, callD, tabD, snapD, snap1, snapC, snapId, snapIds, guardB, guardC, dstAt, aopR, one, pre, binR, intOpR, shiftOpR, unR, argFrm, evo, lkp, hlk, lenOf, asLst, idOf, bndA, srcOk, ofVal, ofCells, setCells, fillA, setElems, fieldsOf, fieldsEq, scalEq, isEq, AV.wr, AV.ok1, TK.agg, frz, frzs, frzA, frzArg, frzArgs, subA, subL, sub1, kp, kh, accOf, List.replicate, Nat.reduceAdd, Nat.reduceSub, Nat.reduceMul, Nat.reduceEqDiff, Nat.reduceLT, Nat.reduceLeDiff, Nat.reduceBEq, reduceIte, reduceCtorEq, eq_self, ne_eq, Int.reduceToNat, Int.reduceLT, Int.reduceLE, Int.reduceGT, Int.reduceGE, Int.reduceBEq, Int.reduceBNe, Int.reduceEq, Int.reduceNe]
          refine WP.loop (ι := Nat × List Int × Fr) (fun j => 20 - j.1) (fun j => j.1 ≤ 20 ∧ restN riStep ⟨1, 1, room, 0⟩ (20 - j.1) j.2 = restN riStep ⟨1, 1, room, 0⟩ 20 (mT, hT'.getD i noneF) ∧ j.2.1.length ≤ 1000) (n := 77)
            (fr := fun j => [(13, iv j.1), (12, iv i), (11, iv k), (10, .arr 19 0 hand.length), (8, .ptr 4 0 0), (1, ms j.2.1)])
            (hp := fun j => [(19, some ⟨false, 28, 7, (hT'.set i j.2.2).map fv⟩), (4, some ⟨false, 23, 4, [cv' ⟨1, 1, room, 0⟩]⟩)]) (N := 20) ?_ (0, mT, hT'.getD i noneF) ⟨by dsimp only; omega, rfl, by dsimp only; omega⟩ rfl (by show 20 ≤ nx2 + _; omega) ⟨rfl, rfl, rfl, rfl, rfl, rfl, trivial⟩ ?_
          · rintro ⟨j, mj, f⟩ nx3 ⟨hj, hR, hmj⟩ hN3 hid3
            dsimp only at hj hR hmj hid3 ⊢
            have r0 : 19 < nx3 := hid3 19 _ rfl
            have r1 : 4 < nx3 := hid3 4 _ rfl
            have g1 := getD_set_f hiT f
            have hi0 : (0 : Int) ≤ (i : Int) := by omega
            have hi3 : i < hand.length := by omega
            refine WP.of okIB 1 (by rfl) ?_
            by_cases hj20 : (j : Int) < 20
            · have wj : IntKind.wrap .i64 ((j : Int) + 1) = ((j + 1 : Nat) : Int) := by rw [wrap_i (by omega) (by omega)]; omega
              by_cases ho : f.op = -1
              · have ho' : (f.op != -1) = false := by simpa using ho
                have hE : restN riStep ⟨1, 1, room, 0⟩ 20 (mT, hT'.getD i noneF) = (mj, f) := by rw [← hR]; exact restN_stop (.inl ho)
                simp only [IB_all, hj20, ho', hmj, g1, t2, hi0, hi3, hih, r0, r1, wi, zs, fss, fs, sv, fv, Int.toNat_natCast, Nat.le_refl, rf1, List.set_set, T52, T50, T51, nb_self, nb_same, nb_l0, nb_r0, nb_lt, nb_gt, nb_lt0, nb_gt0, Nat.add_assoc, hfree_fr, hfree_cf, cv', cf_eta, frz_u, shC_dec, dC, T23, T28, T25, hfree_lu, hfree_l0, row0, row1, row2, row3, row4, row5, shI_dec, shN_dec, shB_dec, shM_dec, dI, dN, dB, dM, dU, dU_map, iv, bv, u, ms, ctx_T, ctx_C, ctx_P, T4, T3, T26, Option.bind_some, Option.bind_none, Option.map_some, List.length_map, List.length_set, String.reduceBEq, Int.toNat_natCast, Bool.true_beq, Bool.false_beq, T24, shF_dec, dF, fr_eta, Int.cast_ofNat_Int, Int.reduceSub, Int.reduceAdd, Int.reduceNeg, ev1, ev2, implies_true, undef, stepP, dynCall, ↓condE_t, ↓condE_f, ↓guardE_tt, ↓guardE_ff, ↓guardE_tf, ↓guardE_ft, frzDeep, deepArgs, deepArg, resB, cv, stepB, stepE, callD, tabD, snapD, snap1, snapC, snapId, snapIds, guardB, guardC, dstAt, aopR, one, pre, binR, intOpR, shiftOpR, unR, argFrm, evo, lkp, hlk, lenOf, asLst, idOf, bndA, srcOk, ofVal, ofCells, setCells, fillA, setElems, fieldsOf, fieldsEq, scalEq, isEq, AV.wr, AV.ok1, TK.agg, frz, frzs, frzA, frzArg, frzArgs, subA, subL, sub1, kp, kh, accOf, List.replicate, Nat.reduceAdd, Nat.reduceSub, Nat.reduceMul, Nat.reduceEqDiff, Nat.reduceLT, Nat.reduceLeDiff, Nat.reduceBEq, reduceIte, reduceCtorEq, eq_self, ne_eq, Int.reduceToNat, Int.reduceLT, Int.reduceLE, Int.reduceGT, Int.reduceGE, Int.reduceBEq, Int.reduceBNe, Int.reduceEq, Int.reduceNe]
                have hT2 : restTo riStep ⟨1, 1, room, 0⟩ (restK riStep ⟨1, 1, room, 0⟩ (m, hand) k) (i + 1) = (mj, hT'.set i f) := by rw [restTo, hT, restAt]; dsimp only; rw [hE]
                refine ⟨i + 1, by omega, by omega, ?_⟩
                rw [hT2]
                exact ⟨⟨rfl, rfl⟩, rfl⟩
              · have ho' : (f.op != -1) = true := by simpa using ho
                by_cases hr : f.res = 0
                · have hr' : (f.res != 0) = false := by simpa using hr
                  obtain ⟨m', g, e2⟩ : ∃ x y, riStep ⟨1, 1, room, 0⟩ mj f = (x, y) := ⟨_, _, rfl⟩
                  have hm' : m'.length ≤ 1000 := by have := len_riStep ⟨1, 1, room, 0⟩ mj f; rw [e2] at this; dsimp only at this; omega
                  have hR' : restN riStep ⟨1, 1, room, 0⟩ (20 - (j + 1)) (m', g) = restN riStep ⟨1, 1, room, 0⟩ 20 (mT, hT'.getD i noneF) := by
                    rw [← hR, show 20 - j = 20 - (j + 1) + 1 by omega, restN_go (by simp [ho, hr])]; dsimp only; rw [e2]
                  simp only [IB_all, hj20, ho', hr', e2, hmj, g1, t2, hi0, hi3, hih, r0, r1, wj, zs, fss, fs, sv, fv, Int.toNat_natCast, Nat.le_refl, rf1, List.set_set, T52, T50, T51, nb_self, nb_same, nb_l0, nb_r0, nb_lt, nb_gt, nb_lt0, nb_gt0, Nat.add_assoc, hfree_fr, hfree_cf, cv', cf_eta, frz_u, shC_dec, dC, T23, T28, T25, hfree_lu, hfree_l0, row0, row1, row2, row3, row4, row5, shI_dec, shN_dec, shB_dec, shM_dec, dI, dN, dB, dM, dU, dU_map, iv, bv, u, ms, ctx_T, ctx_C, ctx_P, T4, T3, T26, Option.bind_some, Option.bind_none, Option.map_some, List.length_map, List.length_set, String.reduceBEq, Int.toNat_natCast, Bool.true_beq, Bool.false_beq, T24, shF_dec, dF, fr_eta, Int.cast_ofNat_Int, Int.reduceSub, Int.reduceAdd, Int.reduceNeg, ev1, ev2, implies_true, undef, stepP, dynCall, ↓condE_t, ↓condE_f, ↓guardE_tt, ↓guardE_ff, ↓guardE_tf, ↓guardE_ft, frzDeep, deepArgs, deepArg, resB, cv, stepB, stepE, callD, tabD, snapD, snap1, snapC, snapId, snapIds, guardB, guardC, dstAt, aopR, one, pre, binR, intOpR, shiftOpR, unR, argFrm, evo, lkp, hlk, lenOf, asLst, idOf, bndA, srcOk, ofVal, ofCells, setCells, fillA, setElems, fieldsOf, fieldsEq, scalEq, isEq, AV.wr, AV.ok1, TK.agg, frz, frzs, frzA, frzArg, frzArgs, subA, subL, sub1, kp, kh, accOf, List.replicate, Nat.reduceAdd, Nat.reduceSub, Nat.reduceMul, Nat.reduceEqDiff, Nat.reduceLT, Nat.reduceLeDiff, Nat.reduceBEq, reduceIte, reduceCtorEq, eq_self, ne_eq, Int.reduceToNat, Int.reduceLT, Int.reduceLE, Int.reduceGT, Int.reduceGE, Int.reduceBEq, Int.reduceBNe, Int.reduceEq, Int.reduceNe]
                  repeat' apply And.intro
                  any_goals (show entryOk _ _ _ _ _ = true; (repeat (first | exact entryOk_nil _ _ _ _ | (refine entryOk_step ?h ?_; case h => (first | (apply Or.inr; constructor <;> simp [meets] <;> omega; done) | (apply Or.inl; show anc _ _ _ _ = true; kernel_rfl))))))
                  exact ⟨(j + 1, m', g), by dsimp only; omega, ⟨by dsimp only; omega, hR', hm'⟩, ⟨rfl, rfl⟩, rfl⟩
                · have hr' : (f.res != 0) = true := by simpa using hr
                  have hE : restN riStep ⟨1, 1, room, 0⟩ 20 (mT, hT'.getD i noneF) = (mj, f) := by rw [← hR]; exact restN_stop (.inr hr)
                  simp only [IB_all, hj20, ho', hr', hmj, g1, t2, hi0, hi3, hih, r0, r1, wi, zs, fss, fs, sv, fv, Int.toNat_natCast, Nat.le_refl, rf1, List.set_set, T52, T50, T51, nb_self, nb_same, nb_l0, nb_r0, nb_lt, nb_gt, nb_lt0, nb_gt0, Nat.add_assoc, hfree_fr, hfree_cf, cv', cf_eta, frz_u, shC_dec, dC, T23, T28, T25, hfree_lu, hfree_l0, row0, row1, row2, row3, row4, row5, shI_dec, shN_dec, shB_dec, shM_dec, dI, dN, dB, dM, dU, dU_map, iv, bv, u, ms, ctx_T, ctx_C, ctx_P, T4, T3, T26, Option.bind_some, Option.bind_none, Option.map_some, List.length_map, List.length_set, String.reduceBEq, Int.toNat_natCast, Bool.true_beq, Bool.false_beq, T24, shF_dec, dF, fr_eta, Int.cast_ofNat_Int, Int.reduceSub, Int.reduceAdd, Int.reduceNeg, ev1, ev2, implies_true, undef, stepP, dynCall, ↓condE_t, ↓condE_f, ↓guardE_tt, ↓guardE_ff, ↓guardE_tf, ↓guardE_ft, frzDeep, deepArgs, deepArg, resB, cv, stepB, stepE, callD, tabD, snapD, snap1, snapC, snapId, snapIds, guardB, guardC, dstAt, aopR, one, pre, binR, intOpR, shiftOpR, unR, argFrm, evo, lkp, hlk, lenOf, asLst, idOf, bndA, srcOk, ofVal, ofCells, setCells, fillA, setElems, fieldsOf, fieldsEq, scalEq, isEq, AV.wr, AV.ok1, TK.agg, frz, frzs, frzA, frzArg, frzArgs, subA, subL, sub1, kp, kh, accOf, List.replicate, Nat.reduceAdd, Nat.reduceSub, Nat.reduceMul, Nat.reduceEqDiff, Nat.reduceLT, Nat.reduceLeDiff, Nat.reduceBEq, reduceIte, reduceCtorEq, eq_self, ne_eq, Int.reduceToNat, Int.reduceLT, Int.reduceLE, Int.reduceGT, Int.reduceGE, Int.reduceBEq, Int.reduceBNe, Int.reduceEq, Int.reduceNe]
                  have hT2 : restTo riStep ⟨1, 1, room, 0⟩ (restK riStep ⟨1, 1, room, 0⟩ (m, hand) k) (i + 1) = (mj, hT'.set i f) := by rw [restTo, hT, restAt]; dsimp only; rw [hE]
                  refine ⟨i + 1, by omega, by omega, ?_⟩
                  rw [hT2]
                  exact ⟨⟨rfl, rfl⟩, rfl⟩
            · have hj0 : j = 20 := by omega
              subst hj0
              have hE : restN riStep ⟨1, 1, room, 0⟩ 20 (mT, hT'.getD i noneF) = (mj, f) := by rw [← hR]; rfl
              simp only [IB_all, hj20, hmj, g1, t2, hi0, hi3, hih, r0, r1, wi, zs, fss, fs, sv, fv, Int.toNat_natCast, Nat.le_refl, rf1, List.set_set, T52, T50, T51, nb_self, nb_same, nb_l0, nb_r0, nb_lt, nb_gt, nb_lt0, nb_gt0, Nat.add_assoc, hfree_fr, hfree_cf, cv', cf_eta, frz_u, shC_dec, dC, T23, T28, T25, hfree_lu, hfree_l0, row0, row1, row2, row3, row4, row5, shI_dec, shN_dec, shB_dec, shM_dec, dI, dN, dB, dM, dU, dU_map, iv, bv, u, ms, ctx_T, ctx_C, ctx_P, T4, T3, T26, Option.bind_some, Option.bind_none, Option.map_some, List.length_map, List.length_set, String.reduceBEq, Int.toNat_natCast, Bool.true_beq, Bool.false_beq, T24, shF_dec, dF, fr_eta, Int.cast_ofNat_Int, Int.reduceSub, Int.reduceAdd, Int.reduceNeg, ev1, ev2, implies_true, undef, stepP, dynCall, ↓condE_t, ↓condE_f, ↓guardE_tt, ↓guardE_ff, ↓guardE_tf, ↓guardE_ft, frzDeep, deepArgs, deepArg, resB, cv, stepB, stepE, callD, tabD, snapD, snap1, snapC, snapId, snapIds, guardB, guardC, dstAt, aopR, one, pre, binR, intOpR, shiftOpR, unR, argFrm, evo, lkp, hlk, lenOf, asLst, idOf, bndA, srcOk, ofVal, ofCells, setCells, fillA, setElems, fieldsOf, fieldsEq, scalEq, isEq, AV.wr, AV.ok1, TK.agg, frz, frzs, frzA, frzArg, frzArgs, subA, subL, sub1, kp, kh, accOf, List.replicate, Nat.reduceAdd, Nat.reduceSub, Nat.reduceMul, Nat.reduceEqDiff, Nat.reduceLT, Nat.reduceLeDiff, Nat.reduceBEq, reduceIte, reduceCtorEq, eq_self, ne_eq, Int.reduceToNat, Int.reduceLT, Int.reduceLE, Int.reduceGT, Int.reduceGE, Int.reduceBEq, Int.reduceBNe, Int.reduceEq, Int.reduceNe]
              have hT2 : restTo riStep ⟨1, 1, room, 0⟩ (restK riStep ⟨1, 1, room, 0⟩ (m, hand) k) (i + 1) = (mj, hT'.set i f) := by rw [restTo, hT, restAt]; dsimp only; rw [hE]
              refine ⟨i + 1, by omega, by omega, ?_⟩
              rw [hT2]
              exact ⟨⟨rfl, rfl⟩, rfl⟩
          · dsimp only [kh]
            rw [set_getD_self hiT]
            exact ⟨rfl, rfl, trivial⟩
        · simp only [IB_all, hih, t2, m0, m1, wk, zs, fss, fs, sv, fv, Int.toNat_natCast, Nat.le_refl, rf1, List.set_set, T52, T50, T51, nb_self, nb_same, nb_l0, nb_r0, nb_lt, nb_gt, nb_lt0, nb_gt0, Nat.add_assoc, hfree_fr, hfree_cf, cv', cf_eta, frz_u, shC_dec, dC, T23, T28, T25, hfree_lu, hfree_l0, row0, row1, row2, row3, row4, row5, shI_dec, shN_dec, shB_dec, shM_dec, dI, dN, dB, dM, dU, dU_map, iv, bv, u, ms, ctx_T, ctx_C, ctx_P, T4, T3, T26, Option.bind_some, Option.bind_none, Option.map_some, List.length_map, List.length_set, String.reduceBEq, Int.toNat_natCast, Bool.true_beq, Bool.false_beq, T24, shF_dec, dF, fr_eta, Int.cast_ofNat_Int, Int.reduceSub, Int.reduceAdd, Int.reduceNeg, ev1, ev2, implies_true, undef, stepP, dynCall, ↓condE_t, ↓condE_f, ↓guardE_tt, ↓guardE_ff, ↓guardE_tf, ↓guardE_ft, frzDeep, deepArgs, deepArg, resB, cv, stepB, stepE, callD, tabD, snapD, snap1, snapC, snapId, snapIds, guardB, guardC, dstAt, aopR, one, pre, binR, intOpR, shiftOpR, unR, argFrm, evo, lkp, hlk, lenOf, asLst, idOf, bndA, srcOk, ofVal, ofCells, setCells, fillA, setElems, fieldsOf, fieldsEq, scalEq, isEq, AV.wr, AV.ok1, TK.agg, frz, frzs, frzA, frzArg, frzArgs, subA, subL, sub1, kp, kh, accOf, List.replicate, Nat.reduceAdd, Nat.reduceSub, Nat.reduceMul, Nat.reduceEqDiff, Nat.reduceLT, Nat.reduceLeDiff, Nat.reduceBEq, reduceIte, reduceCtorEq, eq_self, ne_eq, Int.reduceToNat, Int.reduceLT, Int.reduceLE, Int.reduceGT, Int.reduceGE, Int.reduceBEq, Int.reduceBNe, Int.reduceEq, Int.reduceNe]
          have hie : i = hand.length := by omega
          have hK2 : restK riStep ⟨1, 1, room, 0⟩ (m, hand) (k + 1) = (mT, hT') := by rw [restK, k2, ← hie, hT]
          refine ⟨k + 1, by omega, by omega, ?_⟩
          rw [hK2]
          exact ⟨⟨rfl, rfl⟩, rfl⟩
      · simp only [IB_all, hk10, k2, n0, n1, zs, fss, fs, sv, fv, Int.toNat_natCast, Nat.le_refl, rf1, List.set_set, T52, T50, T51, nb_self, nb_same, nb_l0, nb_r0, nb_lt, nb_gt, nb_lt0, nb_gt0, Nat.add_assoc, hfree_fr, hfree_cf, cv', cf_eta, frz_u, shC_dec, dC, T23, T28, T25, hfree_lu, hfree_l0, row0, row1, row2, row3, row4, row5, shI_dec, shN_dec, shB_dec, shM_dec, dI, dN, dB, dM, dU, dU_map, iv, bv, u, ms, ctx_T, ctx_C, ctx_P, T4, T3, T26, Option.bind_some, Option.bind_none, Option.map_some, List.length_map, List.length_set, String.reduceBEq, Int.toNat_natCast, Bool.true_beq, Bool.false_beq, T24, shF_dec, dF, fr_eta, Int.cast_ofNat_Int, Int.reduceSub, Int.reduceAdd, Int.reduceNeg, ev1, ev2, implies_true, undef, stepP, dynCall, ↓condE_t, ↓condE_f, ↓guardE_tt, ↓guardE_ff, ↓guardE_tf, ↓guardE_ft, frzDeep, deepArgs, deepArg, resB, cv, stepB, stepE, callD, tabD, snapD, snap1, snapC, snapId, snapIds, guardB, guardC, dstAt, aopR, one, pre, binR, intOpR, shiftOpR, unR, argFrm, evo, lkp, hlk, lenOf, asLst, idOf, bndA, srcOk, ofVal, ofCells, setCells, fillA, setElems, fieldsOf, fieldsEq, scalEq, isEq, AV.wr, AV.ok1, TK.agg, frz, frzs, frzA, frzArg, frzArgs, subA, subL, sub1, kp, kh, accOf, List.replicate, Nat.reduceAdd, Nat.reduceSub, Nat.reduceMul, Nat.reduceEqDiff, Nat.reduceLT, Nat.reduceLeDiff, Nat.reduceBEq, reduceIte, reduceCtorEq, eq_self, ne_eq, Int.reduceToNat, Int.reduceLT, Int.reduceLE, Int.reduceGT, Int.reduceGE, Int.reduceBEq, Int.reduceBNe, Int.reduceEq, Int.reduceNe]
        have hke : k = 10 := by omega
        subst hke
        have hth : List.take hand.length ((restK riStep ⟨1, 1, room, 0⟩ (m, hand) 10).2.map fv) = (restK riStep ⟨1, 1, room, 0⟩ (m, hand) 10).2.map fv := List.take_of_length_le (by simp [k2])
        have hP : rRest room m hand = restK riStep ⟨1, 1, room, 0⟩ (m, hand) 10 := if_pos ⟨hc, hl⟩
        rw [hP, hth]
        exact ⟨of_eq_true (hf_f _), rfl, rfl⟩
    · have hl' : ((m.length : Int) != lSize ⟨1, 1, room, 0⟩) = true := by simpa using hl
      have hP : rRest room m hand = ([], []) := if_neg (fun h => hl h.2)
      rw [hP]
      simp only [Try.f40, inl, IB_all, hc, hl', fs, sv, fv, List.map_nil, rf1, List.set_set, T52, T50, T51, hfree_fr, hfree_cf, cv', cf_eta, frz_u, shC_dec, dC, T23, T28, T25, hfree_lu, hfree_l0, row0, row1, row2, row3, row4, row5, shI_dec, shN_dec, shB_dec, shM_dec, dI, dN, dB, dM, dU, dU_map, iv, bv, u, ms, ctx_T, ctx_C, ctx_P, T4, T3, T26, Option.bind_some, Option.bind_none, Option.map_some, List.length_map, List.length_set, String.reduceBEq, Int.toNat_natCast, Bool.true_beq, Bool.false_beq, T24, shF_dec, dF, fr_eta, Int.cast_ofNat_Int, Int.reduceSub, Int.reduceAdd, Int.reduceNeg, ev1, ev2, implies_true, undef, stepP, dynCall, ↓condE_t, ↓condE_f, ↓guardE_tt, ↓guardE_ff, ↓guardE_tf, ↓guardE_ft, frzDeep, deepArgs, deepArg, resB, cv, stepB, stepE, callD, tabD, snapD, snap1, snapC, snapId, snapIds, guardB, guardC, dstAt, aopR, one, pre, binR, intOpR, shiftOpR, unR, argFrm, evo, lkp, hlk, lenOf, asLst, idOf, bndA, srcOk, ofVal, ofCells, setCells, fillA, setElems, fieldsOf, fieldsEq, scalEq, isEq, AV.wr, AV.ok1, TK.agg, frz, frzs, frzA, frzArg, frzArgs, subA, subL, sub1, kp, kh, accOf, List.replicate, Nat.reduceAdd, Nat.reduceSub, Nat.reduceMul, Nat.reduceEqDiff, Nat.reduceLT, Nat.reduceLeDiff, Nat.reduceBEq, reduceIte, reduceCtorEq, eq_self, ne_eq, Int.reduceToNat, Int.reduceLT, Int.reduceLE, Int.reduceGT, Int.reduceGE, Int.reduceBEq, Int.reduceBNe, Int.reduceEq, Int.reduceNe]
      all_goals ((repeat' apply And.intro) <;> first | rfl | omega | (show entryOk _ _ _ _ _ = true; kernel_rfl) | (show pivotOk _ _ = true; kernel_rfl) | decide)
  · have hc' : mayC ⟨1, 1, room, 0⟩ = false := by simpa using hc
    have hP : rRest room m hand = ([], []) := if_neg (fun h => hc h.1)
    rw [hP]
    simp only [Try.f40, inl, IB_all, hc', fs, sv, fv, List.map_nil, rf1, List.set_set, T52, T50, T51, hfree_fr, hfree_cf, cv', cf_eta, frz_u, shC_dec, dC, T23, T28, T25, hfree_lu, hfree_l0, row0, row1, row2, row3, row4, row5, shI_dec, shN_dec, shB_dec, shM_dec, dI, dN, dB, dM, dU, dU_map, iv, bv, u, ms, ctx_T, ctx_C, ctx_P, T4, T3, T26, Option.bind_some, Option.bind_none, Option.map_some, List.length_map, List.length_set, String.reduceBEq, Int.toNat_natCast, Bool.true_beq, Bool.false_beq, T24, shF_dec, dF, fr_eta, Int.cast_ofNat_Int, Int.reduceSub, Int.reduceAdd, Int.reduceNeg, ev1, ev2, implies_true, undef, stepP, dynCall, ↓condE_t, ↓condE_f, ↓guardE_tt, ↓guardE_ff, ↓guardE_tf, ↓guardE_ft, frzDeep, deepArgs, deepArg, resB, cv, stepB, stepE, callD, tabD, snapD, snap1, snapC, snapId, snapIds, guardB, guardC, dstAt, aopR, one, pre, binR, intOpR, shiftOpR, unR, argFrm, evo, lkp, hlk, lenOf, asLst, idOf, bndA, srcOk, ofVal, ofCells, setCells, fillA, setElems, fieldsOf, fieldsEq, scalEq, isEq, AV.wr, AV.ok1, TK.agg, frz, frzs, frzA, frzArg, frzArgs, subA, subL, sub1, kp, kh, accOf, List.replicate, Nat.reduceAdd, Nat.reduceSub, Nat.reduceMul, Nat.reduceEqDiff, Nat.reduceLT, Nat.reduceLeDiff, Nat.reduceBEq, reduceIte, reduceCtorEq, eq_self, ne_eq, Int.reduceToNat, Int.reduceLT, Int.reduceLE, Int.reduceGT, Int.reduceGE, Int.reduceBEq, Int.reduceBNe, Int.reduceEq, Int.reduceNe]
    all_goals ((repeat' apply And.intro) <;> first | rfl | omega | (show entryOk _ _ _ _ _ = true; kernel_rfl) | (show pivotOk _ _ = true; kernel_rfl) | decide)
end Go.Vai
/- How what is at hand ends, as the program does it. -/
namespace Go.Vai
open Go.RowKit Go.Proofs
set_option linter.unusedSimpArgs false
set_option linter.unusedVariables false
set_option maxHeartbeats 4000000
set_option maxRecDepth 100000

theorem irest_pure (room : Int) (m : List Int) (hand : List Fr) (hm : m.length ≤ 1000) (hh : hand.length ≤ 1000) :
    PureC Try.prog 39 [iv room, ms m, fs hand] (.tup [ms (iRest room m hand).1, fs (iRest room m hand).2]) := by
  refine pure_sub okIB 2 Try.func39 rfl (by show 3 ≤ _; decide) ?_
  have e : injC room = ⟨1, 1, room, 0⟩ := rfl
  by_cases hc : mayC ⟨1, 1, room, 0⟩ = true
  · by_cases hl : (m.length : Int) = lSize ⟨1, 1, room, 0⟩
    · have hl' : ((m.length : Int) != lSize ⟨1, 1, room, 0⟩) = false := by simpa using hl
      have hcap : hand.length * 56 ≤ 140737488355328 := by omega
      by_cases hne : hand = []
      · subst hne
        simp only [Try.f39, Try.func78, Try.f78, Try.func87, Try.f87, inl, IB_all, hc, hl', hm, fs, sv, fv, List.map_nil, rf1, List.set_set, T52, T50, T51, hfree_fr, hfree_cf, cv', cf_eta, frz_u, shC_dec, dC, T23, T28, T25, hfree_lu, hfree_l0, row0, row1, row2, row3, row4, row5, shI_dec, shN_dec, shB_dec, shM_dec, dI, dN, dB, dM, dU, dU_map, iv, bv, u, ms, ctx_T, ctx_C, ctx_P, T4, T3, T26, Option.bind_some, Option.bind_none, Option.map_some, List.length_map, List.length_set, String.reduceBEq, Int.toNat_natCast, Bool.true_beq, Bool.false_beq, T24, shF_dec, dF, fr_eta, Int.cast_ofNat_Int, Int.reduceSub, Int.reduceAdd, Int.reduceNeg, ev1, ev2, implies_true, undef, stepP, dynCall, ↓condE_t, ↓condE_f, ↓guardE_tt, ↓guardE_ff, ↓guardE_tf, ↓guardE_ft, frzDeep, deepArgs, deepArg, resB, cv, stepB, stepE, callD, tabD, snapD, snap1, snapC, snapId, snapIds, guardB, guardC, dstAt, aopR, one, pre, binR, intOpR, shiftOpR, unR, argFrm, evo, lkp, hlk, lenOf, asLst, idOf, bndA, srcOk, ofVal, ofCells, setCells, fillA, setElems, fieldsOf, fieldsEq, scalEq, isEq, AV.wr, AV.ok1, TK.agg, frz, frzs, frzA, frzArg, frzArgs, subA, subL, sub1, kp, kh, accOf, List.replicate, Nat.reduceAdd, Nat.reduceSub, Nat.reduceMul, Nat.reduceEqDiff, Nat.reduceLT, Nat.reduceLeDiff, Nat.reduceBEq, reduceIte, reduceCtorEq, eq_self, ne_eq, Int.reduceToNat, Int.reduceLT, Int.reduceLE, Int.reduceGT, Int.reduceGE, Int.reduceBEq, Int.reduceBNe, Int.reduceEq, Int.reduceNe]
        have hP : iRest room m [] = (m, []) := by
          rw [iRest, gRest, if_pos ⟨hc, hl⟩]
          have : ∀ k, restK iStep (injC room) (m, []) k = (m, []) := by
            intro k
            induction k with
            | zero => rfl
            | succ k ih => rw [restK, ih]; rfl
          exact this 10
        repeat' apply And.intro
        · refine WP.loop (ι := Nat) (fun k => 10 - k) (fun k => k ≤ 10) (n := 73) (fr := fun k => [(29, iv k), (10, .v (.slice none 0 0)), (9, ms m)]) (hp := fun k => []) (N := 20) ?_ 0 (Nat.zero_le _) rfl (by simp) ⟨rfl, rfl, rfl, trivial⟩ trivial
          intro k nx hk hN hid
          refine WP.of okIB 1 (by rfl) ?_
          by_cases hk10 : (k : Int) < 10
          · have wk : IntKind.wrap .i64 ((k : Int) + 1) = ((k + 1 : Nat) : Int) := by rw [wrap_i (by omega) (by omega)]; omega
            simp only [IB_all, hk10, zs, fss, fs, sv, fv, rf1, List.set_set, T52, T50, T51, nb_self, nb_same, nb_l0, nb_r0, nb_lt, nb_gt, nb_lt0, nb_gt0, Nat.add_assoc, hfree_fr, hfree_cf, cv', cf_eta, frz_u, shC_dec, dC, T23, T28, T25, hfree_lu, hfree_l0, row0, row1, row2, row3, row4, row5, shI_dec, shN_dec, shB_dec, shM_dec, dI, dN, dB, dM, dU, dU_map, iv, bv, u, ms, ctx_T, ctx_C, ctx_P, T4, T3, T26, Option.bind_some, Option.bind_none, Option.map_some, List.length_map, List.length_set, String.reduceBEq, Int.toNat_natCast, Bool.true_beq, Bool.false_beq, T24, shF_dec, dF, fr_eta, Int.cast_ofNat_Int, Int.reduceSub, Int.reduceAdd, Int.reduceNeg, ev1, ev2, implies_true, undef, stepP, dynCall, ↓condE_t, ↓condE_f, ↓guardE_tt, ↓guardE_ff, ↓guardE_tf, ↓guardE_ft, frzDeep, deepArgs, deepArg, resB, cv, stepB, stepE, callD, tabD, snapD, snap1, snapC, snapId, snapIds, guardB, guardC, dstAt, aopR, one, pre, binR, intOpR, shiftOpR, unR, argFrm, evo, lkp, hlk, lenOf, asLst, idOf, bndA, srcOk, ofVal, ofCells, setCells, fillA, setElems, fieldsOf, fieldsEq, scalEq, isEq, AV.wr, AV.ok1, TK.agg, frz, frzs, frzA, frzArg, frzArgs, subA, subL, sub1, kp, kh, accOf, List.replicate, Nat.reduceAdd, Nat.reduceSub, Nat.reduceMul, Nat.reduceEqDiff, Nat.reduceLT, Nat.reduceLeDiff, Nat.reduceBEq, reduceIte, reduceCtorEq, eq_self, ne_eq, Int.reduceToNat, Int.reduceLT, Int.reduceLE, Int.reduceGT, Int.reduceGE, Int.reduceBEq, Int.reduceBNe, Int.reduceEq, Int.reduceNe]
            refine WP.rounds okIB 1 1 (by rfl) ?_
            simp only [IB_all, wk, r_rounds, Int.lt_irrefl, zs, fss, fs, sv, fv, rf1, List.set_set, T52, T50, T51, nb_self, nb_same, nb_l0, nb_r0, nb_lt, nb_gt, nb_lt0, nb_gt0, Nat.add_assoc, hfree_fr, hfree_cf, cv', cf_eta, frz_u, shC_dec, dC, T23, T28, T25, hfree_lu, hfree_l0, row0, row1, row2, row3, row4, row5, shI_dec, shN_dec, shB_dec, shM_dec, dI, dN, dB, dM, dU, dU_map, iv, bv, u, ms, ctx_T, ctx_C, ctx_P, T4, T3, T26, Option.bind_some, Option.bind_none, Option.map_some, List.length_map, List.length_set, String.reduceBEq, Int.toNat_natCast, Bool.true_beq, Bool.false_beq, T24, shF_dec, dF, fr_eta, Int.cast_ofNat_Int, Int.reduceSub, Int.reduceAdd, Int.reduceNeg, ev1, ev2, implies_true, undef, stepP, dynCall, ↓condE_t, ↓condE_f, ↓guardE_tt, ↓guardE_ff, ↓guardE_tf, ↓guardE_ft, frzDeep, deepArgs, deepArg, resB, cv, stepB, stepE, callD, tabD, snapD, snap1, snapC, snapId, snapIds, guardB, guardC, dstAt, aopR, one, pre, binR, intOpR, shiftOpR, unR, argFrm, evo, lkp, hlk, lenOf, asLst, idOf, bndA, srcOk, ofVal, ofCells, setCells, fillA, setElems, fieldsOf, fieldsEq, scalEq, isEq, AV.wr, AV.ok1, TK.agg, frz, frzs, frzA, frzArg, frzArgs, subA, subL, sub1, kp, kh, accOf, List.replicate, Nat.reduceAdd, Nat.reduceSub, Nat.reduceMul, Nat.reduceEqDiff, Nat.reduceLT, Nat.reduceLeDiff, Nat.reduceBEq, reduceIte, reduceCtorEq, eq_self, ne_eq, Int.reduceToNat, Int.reduceLT, Int.reduceLE, Int.reduceGT, Int.reduceGE, Int.reduceBEq, Int.reduceBNe, Int.reduceEq, Int.reduceNe]
            exact ⟨k + 1, by omega, by omega, rfl⟩
          · rw [hP]
            simp only [IB_all, hk10, zs, fss, fs, sv, fv, List.map_nil, rf1, List.set_set, T52, T50, T51, nb_self, nb_same, nb_l0, nb_r0, nb_lt, nb_gt, nb_lt0, nb_gt0, Nat.add_assoc, hfree_fr, hfree_cf, cv', cf_eta, frz_u, shC_dec, dC, T23, T28, T25, hfree_lu, hfree_l0, row0, row1, row2, row3, row4, row5, shI_dec, shN_dec, shB_dec, shM_dec, dI, dN, dB, dM, dU, dU_map, iv, bv, u, ms, ctx_T, ctx_C, ctx_P, T4, T3, T26, Option.bind_some, Option.bind_none, Option.map_some, List.length_map, List.length_set, String.reduceBEq, Int.toNat_natCast, Bool.true_beq, Bool.false_beq, T24, shF_dec, dF, fr_eta, Int.cast_ofNat_Int, Int.reduceSub, Int.reduceAdd, Int.reduceNeg, ev1, ev2, implies_true, undef, stepP, dynCall, ↓condE_t, ↓condE_f, ↓guardE_tt, ↓guardE_ff, ↓guardE_tf, ↓guardE_ft, frzDeep, deepArgs, deepArg, resB, cv, stepB, stepE, callD, tabD, snapD, snap1, snapC, snapId, snapIds, guardB, guardC, dstAt, aopR, one, pre, binR, intOpR, shiftOpR, unR, argFrm, evo, lkp, hlk, lenOf, asLst, idOf, bndA, srcOk, ofVal, ofCells, setCells, fillA, setElems, fieldsOf, fieldsEq, scalEq, isEq, AV.wr, AV.ok1, TK.agg, frz, frzs, frzA, frzArg, frzArgs, subA, subL, sub1, kp, kh, accOf, List.replicate, Nat.reduceAdd, Nat.reduceSub, Nat.reduceMul, Nat.reduceEqDiff, Nat.reduceLT, Nat.reduceLeDiff, Nat.reduceBEq, reduceIte, reduceCtorEq, eq_self, ne_eq, Int.reduceToNat, Int.reduceLT, Int.reduceLE, Int.reduceGT, Int.reduceGE, Int.reduceBEq, Int.reduceBNe, Int.reduceEq, Int.reduceNe]
            all_goals ((repeat' apply And.intro) <;> first | rfl | (intro x hx; cases hx))
        · refine WP.loop (ι := Nat) (fun k => 10 - k) (fun k => k ≤ 10) (n := 73) (fr := fun k => [(29, iv k), (10, .arr 31 0 0), (9, ms m)]) (hp := fun k => [(31, some ⟨false, 28, 7, []⟩)]) (N := 20) ?_ 0 (Nat.zero_le _) rfl (by simp) ⟨rfl, rfl, rfl, trivial⟩ ⟨rfl, trivial⟩
          intro k nx hk hN hid
          refine WP.of okIB 1 (by rfl) ?_
          by_cases hk10 : (k : Int) < 10
          · have wk : IntKind.wrap .i64 ((k : Int) + 1) = ((k + 1 : Nat) : Int) := by rw [wrap_i (by omega) (by omega)]; omega
            simp only [IB_all, hk10, zs, fss, fs, sv, fv, rf1, List.set_set, T52, T50, T51, nb_self, nb_same, nb_l0, nb_r0, nb_lt, nb_gt, nb_lt0, nb_gt0, Nat.add_assoc, hfree_fr, hfree_cf, cv', cf_eta, frz_u, shC_dec, dC, T23, T28, T25, hfree_lu, hfree_l0, row0, row1, row2, row3, row4, row5, shI_dec, shN_dec, shB_dec, shM_dec, dI, dN, dB, dM, dU, dU_map, iv, bv, u, ms, ctx_T, ctx_C, ctx_P, T4, T3, T26, Option.bind_some, Option.bind_none, Option.map_some, List.length_map, List.length_set, String.reduceBEq, Int.toNat_natCast, Bool.true_beq, Bool.false_beq, T24, shF_dec, dF, fr_eta, Int.cast_ofNat_Int, Int.reduceSub, Int.reduceAdd, Int.reduceNeg, ev1, ev2, implies_true, undef, stepP, dynCall, ↓condE_t, ↓condE_f, ↓guardE_tt, ↓guardE_ff, ↓guardE_tf, ↓guardE_ft, frzDeep, deepArgs, deepArg, resB, cv, stepB, stepE, callD, tabD, snapD, snap1, snapC, snapId, snapIds, guardB, guardC, dstAt, aopR, one, pre, binR, intOpR, shiftOpR, unR, argFrm, evo, lkp, hlk, lenOf, asLst, idOf, bndA, srcOk, ofVal, ofCells, setCells, fillA, setElems, fieldsOf, fieldsEq, scalEq, isEq, AV.wr, AV.ok1, TK.agg, frz, frzs, frzA, frzArg, frzArgs, subA, subL, sub1, kp, kh, accOf, List.replicate, Nat.reduceAdd, Nat.reduceSub, Nat.reduceMul, Nat.reduceEqDiff, Nat.reduceLT, Nat.reduceLeDiff, Nat.reduceBEq, reduceIte, reduceCtorEq, eq_self, ne_eq, Int.reduceToNat, Int.reduceLT, Int.reduceLE, Int.reduceGT, Int.reduceGE, Int.reduceBEq, Int.reduceBNe, Int.reduceEq, Int.reduceNe]
            refine WP.rounds okIB 1 1 (by rfl) ?_
            simp only [IB_all, wk, r_rounds, Int.lt_irrefl, zs, fss, fs, sv, fv, rf1, List.set_set, T52, T50, T51, nb_self, nb_same, nb_l0, nb_r0, nb_lt, nb_gt, nb_lt0, nb_gt0, Nat.add_assoc, hfree_fr, hfree_cf, cv', cf_eta, frz_u, shC_dec, dC, T23, T28, T25, hfree_lu, hfree_l0, row0, row1, row2, row3, row4, row5, shI_dec, shN_dec, shB_dec, shM_dec, dI, dN, dB, dM, dU, dU_map, iv, bv, u, ms, ctx_T, ctx_C, ctx_P, T4, T3, T26, Option.bind_some, Option.bind_none, Option.map_some, List.length_map, List.length_set, String.reduceBEq, Int.toNat_natCast, Bool.true_beq, Bool.false_beq, T24, shF_dec, dF, fr_eta, Int.cast_ofNat_Int, Int.reduceSub, Int.reduceAdd, Int.reduceNeg, ev1, ev2, implies_true, undef, stepP, dynCall, ↓condE_t, ↓condE_f, ↓guardE_tt, ↓guardE_ff, ↓guardE_tf, ↓guardE_ft, frzDeep, deepArgs, deepArg, resB, cv, stepB, stepE, callD, tabD, snapD, snap1, snapC, snapId, snapIds, guardB, guardC, dstAt, aopR, one, pre, binR, intOpR, shiftOpR, unR, argFrm, evo, lkp, hlk, lenOf, asLst, idOf, bndA, srcOk, ofVal, ofCells, setCells, fillA, setElems, fieldsOf, fieldsEq, scalEq, isEq, AV.wr, AV.ok1, TK.agg, frz, frzs, frzA, frzArg, frzArgs, subA, subL, sub1, kp, kh, accOf, List.replicate, Nat.reduceAdd, Nat.reduceSub, Nat.reduceMul, Nat.reduceEqDiff, Nat.reduceLT, Nat.reduceLeDiff, Nat.reduceBEq, reduceIte, reduceCtorEq, eq_self, ne_eq, Int.reduceToNat, Int.reduceLT, Int.reduceLE, Int.reduceGT, Int.reduceGE, Int.reduceBEq, Int.reduceBNe, Int.reduceEq, Int.reduceNe]
            exact ⟨k + 1, by omega, by omega, rfl⟩
          · rw [hP]
            simp only [IB_all, hk10, zs, fss, fs, sv, fv, List.map_nil, rf1, List.set_set, T52, T50, T51, nb_self, nb_same, nb_l0, nb_r0, nb_lt, nb_gt, nb_lt0, nb_gt0, Nat.add_assoc, hfree_fr, hfree_cf, cv', cf_eta, frz_u, shC_dec, dC, T23, T28, T25, hfree_lu, hfree_l0, row0, row1, row2, row3, row4, row5, shI_dec, shN_dec, shB_dec, shM_dec, dI, dN, dB, dM, dU, dU_map, iv, bv, u, ms, ctx_T, ctx_C, ctx_P, T4, T3, T26, Option.bind_some, Option.bind_none, Option.map_some, List.length_map, List.length_set, String.reduceBEq, Int.toNat_natCast, Bool.true_beq, Bool.false_beq, T24, shF_dec, dF, fr_eta, Int.cast_ofNat_Int, Int.reduceSub, Int.reduceAdd, Int.reduceNeg, ev1, ev2, implies_true, undef, stepP, dynCall, ↓condE_t, ↓condE_f, ↓guardE_tt, ↓guardE_ff, ↓guardE_tf, ↓guardE_ft, frzDeep, deepArgs, deepArg, resB, cv, stepB, stepE, callD, tabD, snapD, snap1, snapC, snapId, snapIds, guardB, guardC, dstAt, aopR, one, pre, binR, intOpR, shiftOpR, unR, argFrm, evo, lkp, hlk, lenOf, asLst, idOf, bndA, srcOk, ofVal, ofCells, setCells, fillA, setElems, fieldsOf, fieldsEq, scalEq, isEq, AV.wr, AV.ok1, TK.agg, frz, frzs, frzA, frzArg, frzArgs, subA, subL, sub1, kp, kh, accOf, List.replicate, Nat.reduceAdd, Nat.reduceSub, Nat.reduceMul, Nat.reduceEqDiff, Nat.reduceLT, Nat.reduceLeDiff, Nat.reduceBEq, reduceIte, reduceCtorEq, eq_self, ne_eq, Int.reduceToNat, Int.reduceLT, Int.reduceLE, Int.reduceGT, Int.reduceGE, Int.reduceBEq, Int.reduceBNe, Int.reduceEq, Int.reduceNe]
            all_goals ((repeat' apply And.intro) <;> first | rfl | (intro x hx; cases hx))
      · have hne' : (hand.map fv = []) = False := by simp [hne]
        simp only [Try.f39, Try.func78, Try.f78, Try.func87, Try.f87, inl, IB_all, hc, hl', hm, hcap, hne', fs, sv, fv, rf1, List.set_set, T52, T50, T51, hfree_fr, hfree_cf, cv', cf_eta, frz_u, shC_dec, dC, T23, T28, T25, hfree_lu, hfree_l0, row0, row1, row2, row3, row4, row5, shI_dec, shN_dec, shB_dec, shM_dec, dI, dN, dB, dM, dU, dU_map, iv, bv, u, ms, ctx_T, ctx_C, ctx_P, T4, T3, T26, Option.bind_some, Option.bind_none, Option.map_some, List.length_map, List.length_set, String.reduceBEq, Int.toNat_natCast, Bool.true_beq, Bool.false_beq, T24, shF_dec, dF, fr_eta, Int.cast_ofNat_Int, Int.reduceSub, Int.reduceAdd, Int.reduceNeg, ev1, ev2, implies_true, undef, stepP, dynCall, ↓condE_t, ↓condE_f, ↓guardE_tt, ↓guardE_ff, ↓guardE_tf, ↓guardE_ft, frzDeep, deepArgs, deepArg, resB, cv, stepB, stepE, callD, tabD, snapD, snap1, snapC, snapId, snapIds, guardB, guardC, dstAt, aopR, one, pre, binR, intOpR, shiftOpR, unR, argFrm, evo, lkp, hlk, lenOf, asLst, idOf, bndA, srcOk, ofVal, ofCells, setCells, fillA, setElems, fieldsOf, fieldsEq, scalEq, isEq, AV.wr, AV.ok1, TK.agg, frz, frzs, frzA, frzArg, frzArgs, subA, subL, sub1, kp, kh, accOf, List.replicate, Nat.reduceAdd, Nat.reduceSub, Nat.reduceMul, Nat.reduceEqDiff, Nat.reduceLT, Nat.reduceLeDiff, Nat.reduceBEq, reduceIte, reduceCtorEq, eq_self, ne_eq, Int.reduceToNat, Int.reduceLT, Int.reduceLE, Int.reduceGT, Int.reduceGE, Int.reduceBEq, Int.reduceBNe, Int.reduceEq, Int.reduceNe]
        have rK := fun k => len_restK len_iStep ⟨1, 1, room, 0⟩ (m, hand) k
        have rT := fun k i => len_restTo len_iStep ⟨1, 1, room, 0⟩ (restK iStep ⟨1, 1, room, 0⟩ (m, hand) k) i
        refine WP.loop (ι := Nat) (fun k => 10 - k) (fun k => k ≤ 10) (n := 73)
          (fr := fun k => [(29, iv k), (10, .arr 31 0 hand.length), (8, .ptr 4 0 0), (9, ms (restK iStep ⟨1, 1, room, 0⟩ (m, hand) k).1)])
          (hp := fun k => [(31, some ⟨false, 28, 7, (restK iStep ⟨1, 1, room, 0⟩ (m, hand) k).2.map fv⟩), (4, some ⟨false, 23, 4, [cv' ⟨1, 1, room, 0⟩]⟩)]) (N := 32) ?_ 0 (Nat.zero_le _) rfl (by simp) ⟨rfl, rfl, rfl, rfl, trivial⟩ ⟨rfl, rfl, trivial⟩
        intro k nx hk hN hid

        have k1 : (restK iStep ⟨1, 1, room, 0⟩ (m, hand) k).1.length = m.length := (rK k).1
        have k2 : (restK iStep ⟨1, 1, room, 0⟩ (m, hand) k).2.length = hand.length := (rK k).2
        have n0 : 31 < nx := hid 31 _ rfl
        have n1 : 4 < nx := hid 4 _ rfl
        refine WP.of okIB 1 (by rfl) ?_
        by_cases hk10 : (k : Int) < 10
        · have wk : IntKind.wrap .i64 ((k : Int) + 1) = ((k + 1 : Nat) : Int) := by rw [wrap_i (by omega) (by omega)]; omega
          simp only [IB_all, hk10, k2, n0, n1, zs, fss, fs, sv, fv, Int.toNat_natCast, Nat.le_refl, rf1, List.set_set, T52, T50, T51, nb_self, nb_same, nb_l0, nb_r0, nb_lt, nb_gt, nb_lt0, nb_gt0, Nat.add_assoc, hfree_fr, hfree_cf, cv', cf_eta, frz_u, shC_dec, dC, T23, T28, T25, hfree_lu, hfree_l0, row0, row1, row2, row3, row4, row5, shI_dec, shN_dec, shB_dec, shM_dec, dI, dN, dB, dM, dU, dU_map, iv, bv, u, ms, ctx_T, ctx_C, ctx_P, T4, T3, T26, Option.bind_some, Option.bind_none, Option.map_some, List.length_map, List.length_set, String.reduceBEq, Int.toNat_natCast, Bool.true_beq, Bool.false_beq, T24, shF_dec, dF, fr_eta, Int.cast_ofNat_Int, Int.reduceSub, Int.reduceAdd, Int.reduceNeg, ev1, ev2, implies_true, undef, stepP, dynCall, ↓condE_t, ↓condE_f, ↓guardE_tt, ↓guardE_ff, ↓guardE_tf, ↓guardE_ft, frzDeep, deepArgs, deepArg, resB, cv, stepB, stepE, callD, tabD, snapD, snap1, snapC, snapId, snapIds, guardB, guardC, dstAt, aopR, one, pre, binR, intOpR, shiftOpR, unR, argFrm, evo, lkp, hlk, lenOf, asLst, idOf, bndA, srcOk, ofVal, ofCells, setCells, fillA, setElems, fieldsOf, fieldsEq, scalEq, isEq, AV.wr, AV.ok1, TK.agg, frz, frzs, frzA, frzArg, frzArgs, subA, subL, sub1, kp, kh, accOf, List.replicate, Nat.reduceAdd, Nat.reduceSub, Nat.reduceMul, Nat.reduceEqDiff, Nat.reduceLT, Nat.reduceLeDiff, Nat.reduceBEq, reduceIte, reduceCtorEq, eq_self, ne_eq, Int.reduceToNat, Int.reduceLT, Int.reduceLE, Int.reduceGT, Int.reduceGE, Int.reduceBEq, Int.reduceBNe, Int.reduceEq, Int.reduceNe]
          refine WP.loop (ι := Nat) (fun i => hand.length - i) (fun i => i ≤ hand.length) (n := 73)
            (fr := fun i => [(33, iv i), (32, iv hand.length), (29, iv k), (10, .arr 31 0 hand.length), (8, .ptr 4 0 0), (9, ms (restTo iStep ⟨1, 1, room, 0⟩ (restK iStep ⟨1, 1, room, 0⟩ (m, hand) k) i).1)])
            (hp := fun i => [(31, some ⟨false, 28, 7, (restTo iStep ⟨1, 1, room, 0⟩ (restK iStep ⟨1, 1, room, 0⟩ (m, hand) k) i).2.map fv⟩), (4, some ⟨false, 23, 4, [cv' ⟨1, 1, room, 0⟩]⟩)]) (N := 32) ?_ 0 (Nat.zero_le _) rfl (by show 32 ≤ nx + _; omega) ⟨rfl, rfl, rfl, rfl, rfl, rfl, trivial⟩ ⟨rfl, rfl, trivial⟩
          intro i nx2 hi hN2 hid2

          have t1 := (rT k i).1.trans k1
          have t2 := (rT k i).2.trans k2
          have m0 : 31 < nx2 := hid2 31 _ rfl
          have m1 : 4 < nx2 := hid2 4 _ rfl
          generalize hT : restTo iStep ⟨1, 1, room, 0⟩ (restK iStep ⟨1, 1, room, 0⟩ (m, hand) k) i = T at t1 t2 ⊢
          obtain ⟨mT, hT'⟩ := T
          dsimp only at t1 t2 ⊢
          refine WP.of okIB 1 (by rfl) ?_
          by_cases hih : (i : Int) < hand.length
          · have wi : IntKind.wrap .i64 ((i : Int) + 1) = ((i + 1 : Nat) : Int) := by rw [wrap_i (by omega) (by omega)]; omega
            have hiT : i < hT'.length := by omega
            simp only [IB_all, hih, t2, m0, m1, zs, fss, fs, sv, fv, Int.toNat_natCast, Nat.le_refl, rf1, List.set_set, T52, T50, T51, nb_self, nb_same, nb_l0, nb_r0, nb_lt, nb_gt, nb_lt0, nb_gt0, Nat.add_assoc, hfree_fr, hfree_cf, cv', cf_eta, frz_u, shC_dec, dC, T23, T28, T25, hfree_lu, hfree_l0, row0, row1, row2, row3, row4, row5, shI_dec, shN_dec, shB_dec, shM_dec, dI, dN, dB, dM, dU, dU_map, iv, bv, u, ms, ctx_T, ctx_C, ctx_P, T4, T3, T26, Option.bind_some, Option.bind_none, Option.map_some, List.length_map, List.length_set, String.reduceBEq, Int.toNat_natCast, Bool.true_beq, Bool.false_beq, T24, shF_dec, dF, fr_eta, Int.cast_ofNat_Int, Int.reduceSub, Int.reduceAdd, Int.reduceNeg, ev1, ev2, implies_true, undef, stepP, dynCall, ↓condE_t, ↓condE_f, ↓guardE_tt, ↓guardE_ff, ↓guardE_tf, ↓guardE_ft, frzDeep, deepArgs, deepArg, resB, cv, stepB, stepE, callD, tabD, snapD, snap1, snapC, snapId, snapIds, guardB, guardC, dstAt, aopR, one, pre, binR, intOpR, shiftOpR, unR, argFrm, evo, lkp, hlk, lenOf, asLst, idOf, bndA, srcOk, ofVal, ofCells, setCells, fillA, setElems, fieldsOf, fieldsEq, scalEq, isEq, AV.wr, AV.ok1, TK.agg, frz, frzs, frzA, frzArg, frzArgs, subA, subL, sub1, kp, kh, accOf, List.replicate, Nat.reduceAdd, Nat.reduceSub, Nat.reduceMul, Nat.reduceEqDiff, Nat.reduceLT, Nat.reduceLeDiff, Nat.reduceBEq, reduceIte, reduceCtorEq, eq_self, ne_eq, Int.reduceToNat, Int.reduceLT, Int.reduceLE, Int.reduceGT, Int.reduceGE, Int.reduceBEq, Int.reduceBNe, Int.reduceEq, Int.reduceNe]
            refine WP.loop (ι := Nat × List Int × Fr) (fun j => 20 - j.1) (fun j => j.1 ≤ 20 ∧ restN iStep ⟨1, 1, room, 0⟩ (20 - j.1) j.2 = restN iStep ⟨1, 1, room, 0⟩ 20 (mT, hT'.getD i noneF) ∧ j.2.1.length ≤ 1000) (n := 73)
              (fr := fun j => [(12, iv j.1), (11, iv i), (33, iv i), (32, iv hand.length), (29, iv k), (10, .arr 31 0 hand.length), (8, .ptr 4 0 0), (9, ms j.2.1)])
              (hp := fun j => [(31, some ⟨false, 28, 7, (hT'.set i j.2.2).map fv⟩), (4, some ⟨false, 23, 4, [cv' ⟨1, 1, room, 0⟩]⟩)]) (N := 32) ?_ (0, mT, hT'.getD i noneF) ⟨by dsimp only; omega, rfl, by dsimp only; omega⟩ rfl (by show 32 ≤ nx2 + _; omega) ⟨rfl, rfl, rfl, rfl, rfl, rfl, rfl, rfl, trivial⟩ ?_
            · rintro ⟨j, mj, f⟩ nx3 ⟨hj, hR, hmj⟩ hN3 hid3
              dsimp only at hj hR hmj hid3 ⊢
              have r0 : 31 < nx3 := hid3 31 _ rfl
              have r1 : 4 < nx3 := hid3 4 _ rfl
              have g1 := getD_set_f hiT f
              have hi0 : (0 : Int) ≤ (i : Int) := by omega
              have hi3 : i < hand.length := by omega
              refine WP.of okIB 1 (by rfl) ?_
              by_cases hj20 : (j : Int) < 20
              · have wj : IntKind.wrap .i64 ((j : Int) + 1) = ((j + 1 : Nat) : Int) := by rw [wrap_i (by omega) (by omega)]; omega
                by_cases ho : f.op = -1
                · have ho' : (f.op != -1) = false := by simpa using ho
                  have hE : restN iStep ⟨1, 1, room, 0⟩ 20 (mT, hT'.getD i noneF) = (mj, f) := by rw [← hR]; exact restN_stop (.inl ho)
                  simp only [IB_all, hj20, ho', hmj, g1, t2, hi0, hi3, hih, r0, r1, wi, zs, fss, fs, sv, fv, Int.toNat_natCast, Nat.le_refl, rf1, List.set_set, T52, T50, T51, nb_self, nb_same, nb_l0, nb_r0, nb_lt, nb_gt, nb_lt0, nb_gt0, Nat.add_assoc, hfree_fr, hfree_cf, cv', cf_eta, frz_u, shC_dec, dC, T23, T28, T25, hfree_lu, hfree_l0, row0, row1, row2, row3, row4, row5, shI_dec, shN_dec, shB_dec, shM_dec, dI, dN, dB, dM, dU, dU_map, iv, bv, u, ms, ctx_T, ctx_C, ctx_P, T4, T3, T26, Option.bind_some, Option.bind_none, Option.map_some, List.length_map, List.length_set, String.reduceBEq, Int.toNat_natCast, Bool.true_beq, Bool.false_beq, T24, shF_dec, dF, fr_eta, Int.cast_ofNat_Int, Int.reduceSub, Int.reduceAdd, Int.reduceNeg, ev1, ev2, implies_true, undef, stepP, dynCall, ↓condE_t, ↓condE_f, ↓guardE_tt, ↓guardE_ff, ↓guardE_tf, ↓guardE_ft, frzDeep, deepArgs, deepArg, resB, cv, stepB, stepE, callD, tabD, snapD, snap1, snapC, snapId, snapIds, guardB, guardC, dstAt, aopR, one, pre, binR, intOpR, shiftOpR, unR, argFrm, evo, lkp, hlk, lenOf, asLst, idOf, bndA, srcOk, ofVal, ofCells, setCells, fillA, setElems, fieldsOf, fieldsEq, scalEq, isEq, AV.wr, AV.ok1, TK.agg, frz, frzs, frzA, frzArg, frzArgs, subA, subL, sub1, kp, kh, accOf, List.replicate, Nat.reduceAdd, Nat.reduceSub, Nat.reduceMul, Nat.reduceEqDiff, Nat.reduceLT, Nat.reduceLeDiff, Nat.reduceBEq, reduceIte, reduceCtorEq, eq_self, ne_eq, Int.reduceToNat, Int.reduceLT, Int.reduceLE, Int.reduceGT, Int.reduceGE, Int.reduceBEq, Int.reduceBNe, Int.reduceEq, Int.reduceNe]
                  have hT2 : restTo iStep ⟨1, 1, room, 0⟩ (restK iStep ⟨1, 1, room, 0⟩ (m, hand) k) (i + 1) = (mj, hT'.set i f) := by rw [restTo, hT, restAt]; dsimp only; rw [hE]
                  refine ⟨i + 1, by omega, by omega, ?_⟩
                  rw [hT2]
                  exact ⟨⟨rfl, rfl⟩, rfl⟩
                · have ho' : (f.op != -1) = true := by simpa using ho
                  by_cases hr : f.res = 0
                  · have hr' : (f.res != 0) = false := by simpa using hr
                    obtain ⟨m', g, e2⟩ : ∃ x y, iStep ⟨1, 1, room, 0⟩ mj f = (x, y) := ⟨_, _, rfl⟩
                    have hm' : m'.length ≤ 1000 := by have := len_iStep ⟨1, 1, room, 0⟩ mj f; rw [e2] at this; dsimp only at this; omega
                    have hR' : restN iStep ⟨1, 1, room, 0⟩ (20 - (j + 1)) (m', g) = restN iStep ⟨1, 1, room, 0⟩ 20 (mT, hT'.getD i noneF) := by
                      rw [← hR, show 20 - j = 20 - (j + 1) + 1 by omega, restN_go (by simp [ho, hr])]; dsimp only; rw [e2]
                    simp only [IB_all, hj20, ho', hr', e2, hmj, g1, t2, hi0, hi3, hih, r0, r1, wj, zs, fss, fs, sv, fv, Int.toNat_natCast, Nat.le_refl, rf1, List.set_set, T52, T50, T51, nb_self, nb_same, nb_l0, nb_r0, nb_lt, nb_gt, nb_lt0, nb_gt0, Nat.add_assoc, hfree_fr, hfree_cf, cv', cf_eta, frz_u, shC_dec, dC, T23, T28, T25, hfree_lu, hfree_l0, row0, row1, row2, row3, row4, row5, shI_dec, shN_dec, shB_dec, shM_dec, dI, dN, dB, dM, dU, dU_map, iv, bv, u, ms, ctx_T, ctx_C, ctx_P, T4, T3, T26, Option.bind_some, Option.bind_none, Option.map_some, List.length_map, List.length_set, String.reduceBEq, Int.toNat_natCast, Bool.true_beq, Bool.false_beq, T24, shF_dec, dF, fr_eta, Int.cast_ofNat_Int, Int.reduceSub, Int.reduceAdd, Int.reduceNeg, ev1, ev2, implies_true, undef, stepP, dynCall, ↓condE_t, ↓condE_f, ↓guardE_tt, ↓guardE_ff, ↓guardE_tf, ↓guardE_ft, frzDeep, deepArgs, deepArg, resB, cv, stepB, stepE, callD, tabD, snapD, snap1, snapC, snapId, snapIds, guardB, guardC, dstAt, aopR, one, pre, binR, intOpR, shiftOpR, unR, argFrm, evo, lkp, hlk, lenOf, asLst, idOf, bndA, srcOk, ofVal, ofCells, setCells, fillA, setElems, fieldsOf, fieldsEq, scalEq, isEq, AV.wr, AV.ok1, TK.agg, frz, frzs, frzA, frzArg, frzArgs, subA, subL, sub1, kp, kh, accOf, List.replicate, Nat.reduceAdd, Nat.reduceSub, Nat.reduceMul, Nat.reduceEqDiff, Nat.reduceLT, Nat.reduceLeDiff, Nat.reduceBEq, reduceIte, reduceCtorEq, eq_self, ne_eq, Int.reduceToNat, Int.reduceLT, Int.reduceLE, Int.reduceGT, Int.reduceGE, Int.reduceBEq, Int.reduceBNe, Int.reduceEq, Int.reduceNe]
                    repeat' apply And.intro
                    any_goals (show entryOk _ _ _ _ _ = true; (repeat (first | exact entryOk_nil _ _ _ _ | (refine entryOk_step ?h ?_; case h => (first | (apply Or.inr; constructor <;> simp [meets] <;> omega; done) | (apply Or.inl; show anc _ _ _ _ = true; kernel_rfl))))))
                    exact ⟨(j + 1, m', g), by dsimp only; omega, ⟨by dsimp only; omega, hR', hm'⟩, ⟨rfl, rfl⟩, rfl⟩
                  · have hr' : (f.res != 0) = true := by simpa using hr
                    have hE : restN iStep ⟨1, 1, room, 0⟩ 20 (mT, hT'.getD i noneF) = (mj, f) := by rw [← hR]; exact restN_stop (.inr hr)
                    simp only [IB_all, hj20, ho', hr', hmj, g1, t2, hi0, hi3, hih, r0, r1, wi, zs, fss, fs, sv, fv, Int.toNat_natCast, Nat.le_refl, rf1, List.set_set, T52, T50, T51, nb_self, nb_same, nb_l0, nb_r0, nb_lt, nb_gt, nb_lt0, nb_gt0, Nat.add_assoc, hfree_fr, hfree_cf, cv', cf_eta, frz_u, shC_dec, dC, T23, T28, T25, hfree_lu, hfree_l0, row0, row1, row2, row3, row4, row5, shI_dec, shN_dec, shB_dec, shM_dec, dI, dN, dB, dM, dU, dU_map, iv, bv, u, ms, ctx_T, ctx_C, ctx_P, T4, T3, T26, Option.bind_some, Option.bind_none, Option.map_some, List.length_map, List.length_set, String.reduceBEq, Int.toNat_natCast, Bool.true_beq, Bool.false_beq, T24, shF_dec, dF, fr_eta, Int.cast_ofNat_Int, Int.reduceSub, Int.reduceAdd, Int.reduceNeg, ev1, ev2, implies_true, undef, stepP, dynCall, ↓condE_t, ↓condE_f, ↓guardE_tt, ↓guardE_ff, ↓guardE_tf, ↓guardE_ft, frzDeep, deepArgs, deepArg, resB, cv, stepB, stepE, callD, tabD, snapD, snap1, snapC, snapId, snapIds, guardB, guardC, dstAt, aopR, one, pre, binR, intOpR, shiftOpR, unR, argFrm, evo, lkp, hlk, lenOf, asLst, idOf, bndA, srcOk, ofVal, ofCells, setCells, fillA, setElems, fieldsOf, fieldsEq, scalEq, isEq, AV.wr, AV.ok1, TK.agg, frz, frzs, frzA, frzArg, frzArgs, subA, subL, sub1, kp, kh, accOf, List.replicate, Nat.reduceAdd, Nat.reduceSub, Nat.reduceMul, Nat.reduceEqDiff, Nat.reduceLT, Nat.reduceLeDiff, Nat.reduceBEq, reduceIte, reduceCtorEq, eq_self, ne_eq, Int.reduceToNat, Int.reduceLT, Int.reduceLE, Int.reduceGT, Int.reduceGE, Int.reduceBEq, Int.reduceBNe, Int.reduceEq, Int.reduceNe]
                    have hT2 : restTo iStep ⟨1, 1, room, 0⟩ (restK iStep ⟨1, 1, room, 0⟩ (m, hand) k) (i + 1) = (mj, hT'.set i f) := by rw [restTo, hT, restAt]; dsimp only; rw [hE]
                    refine ⟨i + 1, by omega, by omega, ?_⟩
                    rw [hT2]
                    exact ⟨⟨rfl, rfl⟩, rfl⟩
              · have hj0 : j = 20 := by omega
                subst hj0
                have hE : restN iStep ⟨1, 1, room, 0⟩ 20 (mT, hT'.getD i noneF) = (mj, f) := by rw [← hR]; rfl
                simp only [IB_all, hj20, hmj, g1, t2, hi0, hi3, hih, r0, r1, wi, zs, fss, fs, sv, fv, Int.toNat_natCast, Nat.le_refl, rf1, List.set_set, T52, T50, T51, nb_self, nb_same, nb_l0, nb_r0, nb_lt, nb_gt, nb_lt0, nb_gt0, Nat.add_assoc, hfree_fr, hfree_cf, cv', cf_eta, frz_u, shC_dec, dC, T23, T28, T25, hfree_lu, hfree_l0, row0, row1, row2, row3, row4, row5, shI_dec, shN_dec, shB_dec, shM_dec, dI, dN, dB, dM, dU, dU_map, iv, bv, u, ms, ctx_T, ctx_C, ctx_P, T4, T3, T26, Option.bind_some, Option.bind_none, Option.map_some, List.length_map, List.length_set, String.reduceBEq, Int.toNat_natCast, Bool.true_beq, Bool.false_beq, T24, shF_dec, dF, fr_eta, Int.cast_ofNat_Int, Int.reduceSub, Int.reduceAdd, Int.reduceNeg, ev1, ev2, implies_true, undef, stepP, dynCall, ↓condE_t, ↓condE_f, ↓guardE_tt, ↓guardE_ff, ↓guardE_tf, ↓guardE_ft, frzDeep, deepArgs, deepArg, resB, cv, stepB, stepE, callD, tabD, snapD, snap1, snapC, snapId, snapIds, guardB, guardC, dstAt, aopR, one, pre, binR, intOpR, shiftOpR, unR, argFrm, evo, lkp, hlk, lenOf, asLst, idOf, bndA, srcOk, ofVal, ofCells, setCells, fillA, setElems, fieldsOf, fieldsEq, scalEq, isEq, AV.wr, AV.ok1, TK.agg, frz, frzs, frzA, frzArg, frzArgs, subA, subL, sub1, kp, kh, accOf, List.replicate, Nat.reduceAdd, Nat.reduceSub, Nat.reduceMul, Nat.reduceEqDiff, Nat.reduceLT, Nat.reduceLeDiff, Nat.reduceBEq, reduceIte, reduceCtorEq, eq_self, ne_eq, Int.reduceToNat, Int.reduceLT, Int.reduceLE, Int.reduceGT, Int.reduceGE, Int.reduceBEq, Int.reduceBNe, Int.reduceEq, Int.reduceNe]
                have hT2 : restTo iStep ⟨1, 1, room, 0⟩ (restK iStep ⟨1, 1, room, 0⟩ (m, hand) k) (i + 1) = (mj, hT'.set i f) := by rw [restTo, hT, restAt]; dsimp only; rw [hE]
                refine ⟨i + 1, by omega, by omega, ?_⟩
                rw [hT2]
                exact ⟨⟨rfl, rfl⟩, rfl⟩
            · dsimp only [kh]
              rw [set_getD_self hiT]
              exact ⟨rfl, rfl, trivial⟩
          · simp only [IB_all, hih, t2, m0, m1, wk, zs, fss, fs, sv, fv, Int.toNat_natCast, Nat.le_refl, rf1, List.set_set, T52, T50, T51, nb_self, nb_same, nb_l0, nb_r0, nb_lt, nb_gt, nb_lt0, nb_gt0, Nat.add_assoc, hfree_fr, hfree_cf, cv', cf_eta, frz_u, shC_dec, dC, T23, T28, T25, hfree_lu, hfree_l0, row0, row1, row2, row3, row4, row5, shI_dec, shN_dec, shB_dec, shM_dec, dI, dN, dB, dM, dU, dU_map, iv, bv, u, ms, ctx_T, ctx_C, ctx_P, T4, T3, T26, Option.bind_some, Option.bind_none, Option.map_some, List.length_map, List.length_set, String.reduceBEq, Int.toNat_natCast, Bool.true_beq, Bool.false_beq, T24, shF_dec, dF, fr_eta, Int.cast_ofNat_Int, Int.reduceSub, Int.reduceAdd, Int.reduceNeg, ev1, ev2, implies_true, undef, stepP, dynCall, ↓condE_t, ↓condE_f, ↓guardE_tt, ↓guardE_ff, ↓guardE_tf, ↓guardE_ft, frzDeep, deepArgs, deepArg, resB, cv, stepB, stepE, callD, tabD, snapD, snap1, snapC, snapId, snapIds, guardB, guardC, dstAt, aopR, one, pre, binR, intOpR, shiftOpR, unR, argFrm, evo, lkp, hlk, lenOf, asLst, idOf, bndA, srcOk, ofVal, ofCells, setCells, fillA, setElems, fieldsOf, fieldsEq, scalEq, isEq, AV.wr, AV.ok1, TK.agg, frz, frzs, frzA, frzArg, frzArgs, subA, subL, sub1, kp, kh, accOf, List.replicate, Nat.reduceAdd, Nat.reduceSub, Nat.reduceMul, Nat.reduceEqDiff, Nat.reduceLT, Nat.reduceLeDiff, Nat.reduceBEq, reduceIte, reduceCtorEq, eq_self, ne_eq, Int.reduceToNat, Int.reduceLT, Int.reduceLE, Int.reduceGT, Int.reduceGE, Int.reduceBEq, Int.reduceBNe, Int.reduceEq, Int.reduceNe]
            have hie : i = hand.length := by omega
            have hK2 : restK iStep ⟨1, 1, room, 0⟩ (m, hand) (k + 1) = (mT, hT') := by rw [restK, k2, ← hie, hT]
            refine ⟨k + 1, by omega, by omega, ?_⟩
            rw [hK2]
            exact ⟨⟨rfl, rfl⟩, rfl⟩
        · simp only [IB_all, hk10, k2, n0, n1, zs, fss, fs, sv, fv, Int.toNat_natCast, Nat.le_refl, rf1, List.set_set, T52, T50, T51, nb_self, nb_same, nb_l0, nb_r0, nb_lt, nb_gt, nb_lt0, nb_gt0, Nat.add_assoc, hfree_fr, hfree_cf, cv', cf_eta, frz_u, shC_dec, dC, T23, T28, T25, hfree_lu, hfree_l0, row0, row1, row2, row3, row4, row5, shI_dec, shN_dec, shB_dec, shM_dec, dI, dN, dB, dM, dU, dU_map, iv, bv, u, ms, ctx_T, ctx_C, ctx_P, T4, T3, T26, Option.bind_some, Option.bind_none, Option.map_some, List.length_map, List.length_set, String.reduceBEq, Int.toNat_natCast, Bool.true_beq, Bool.false_beq, T24, shF_dec, dF, fr_eta, Int.cast_ofNat_Int, Int.reduceSub, Int.reduceAdd, Int.reduceNeg, ev1, ev2, implies_true, undef, stepP, dynCall, ↓condE_t, ↓condE_f, ↓guardE_tt, ↓guardE_ff, ↓guardE_tf, ↓guardE_ft, frzDeep, deepArgs, deepArg, resB, cv, stepB, stepE, callD, tabD, snapD, snap1, snapC, snapId, snapIds, guardB, guardC, dstAt, aopR, one, pre, binR, intOpR, shiftOpR, unR, argFrm, evo, lkp, hlk, lenOf, asLst, idOf, bndA, srcOk, ofVal, ofCells, setCells, fillA, setElems, fieldsOf, fieldsEq, scalEq, isEq, AV.wr, AV.ok1, TK.agg, frz, frzs, frzA, frzArg, frzArgs, subA, subL, sub1, kp, kh, accOf, List.replicate, Nat.reduceAdd, Nat.reduceSub, Nat.reduceMul, Nat.reduceEqDiff, Nat.reduceLT, Nat.reduceLeDiff, Nat.reduceBEq, reduceIte, reduceCtorEq, eq_self, ne_eq, Int.reduceToNat, Int.reduceLT, Int.reduceLE, Int.reduceGT, Int.reduceGE, Int.reduceBEq, Int.reduceBNe, Int.reduceEq, Int.reduceNe]
          have hke : k = 10 := by omega
          subst hke
          have hth : List.take hand.length ((restK iStep ⟨1, 1, room, 0⟩ (m, hand) 10).2.map fv) = (restK iStep ⟨1, 1, room, 0⟩ (m, hand) 10).2.map fv := List.take_of_length_le (by simp [k2])
          have hP : iRest room m hand = restK iStep ⟨1, 1, room, 0⟩ (m, hand) 10 := if_pos ⟨hc, hl⟩
          rw [hP, hth]
          exact ⟨of_eq_true (hf_f _), rfl, rfl⟩
    · have hl' : ((m.length : Int) != lSize ⟨1, 1, room, 0⟩) = true := by simpa using hl
      have hP : iRest room m hand = ([], []) := if_neg (fun h => hl h.2)
      rw [hP]
      simp only [Try.f39, Try.func78, Try.f78, inl, IB_all, hc, hl', fs, sv, fv, List.map_nil, rf1, List.set_set, T52, T50, T51, hfree_fr, hfree_cf, cv', cf_eta, frz_u, shC_dec, dC, T23, T28, T25, hfree_lu, hfree_l0, row0, row1, row2, row3, row4, row5, shI_dec, shN_dec, shB_dec, shM_dec, dI, dN, dB, dM, dU, dU_map, iv, bv, u, ms, ctx_T, ctx_C, ctx_P, T4, T3, T26, Option.bind_some, Option.bind_none, Option.map_some, List.length_map, List.length_set, String.reduceBEq, Int.toNat_natCast, Bool.true_beq, Bool.false_beq, T24, shF_dec, dF, fr_eta, Int.cast_ofNat_Int, Int.reduceSub, Int.reduceAdd, Int.reduceNeg, ev1, ev2, implies_true, undef, stepP, dynCall, ↓condE_t, ↓condE_f, ↓guardE_tt, ↓guardE_ff, ↓guardE_tf, ↓guardE_ft, frzDeep, deepArgs, deepArg, resB, cv, stepB, stepE, callD, tabD, snapD, snap1, snapC, snapId, snapIds, guardB, guardC, dstAt, aopR, one, pre, binR, intOpR, shiftOpR, unR, argFrm, evo, lkp, hlk, lenOf, asLst, idOf, bndA, srcOk, ofVal, ofCells, setCells, fillA, setElems, fieldsOf, fieldsEq, scalEq, isEq, AV.wr, AV.ok1, TK.agg, frz, frzs, frzA, frzArg, frzArgs, subA, subL, sub1, kp, kh, accOf, List.replicate, Nat.reduceAdd, Nat.reduceSub, Nat.reduceMul, Nat.reduceEqDiff, Nat.reduceLT, Nat.reduceLeDiff, Nat.reduceBEq, reduceIte, reduceCtorEq, eq_self, ne_eq, Int.reduceToNat, Int.reduceLT, Int.reduceLE, Int.reduceGT, Int.reduceGE, Int.reduceBEq, Int.reduceBNe, Int.reduceEq, Int.reduceNe]
      all_goals ((repeat' apply And.intro) <;> first | rfl | omega | (show entryOk _ _ _ _ _ = true; kernel_rfl) | (show pivotOk _ _ = true; kernel_rfl) | decide)
  · have hc' : mayC ⟨1, 1, room, 0⟩ = false := by simpa using hc
    have hP : iRest room m hand = ([], []) := if_neg (fun h => hc h.1)
    rw [hP]
    simp only [Try.f39, Try.func78, Try.f78, inl, IB_all, hc', fs, sv, fv, List.map_nil, rf1, List.set_set, T52, T50, T51, hfree_fr, hfree_cf, cv', cf_eta, frz_u, shC_dec, dC, T23, T28, T25, hfree_lu, hfree_l0, row0, row1, row2, row3, row4, row5, shI_dec, shN_dec, shB_dec, shM_dec, dI, dN, dB, dM, dU, dU_map, iv, bv, u, ms, ctx_T, ctx_C, ctx_P, T4, T3, T26, Option.bind_some, Option.bind_none, Option.map_some, List.length_map, List.length_set, String.reduceBEq, Int.toNat_natCast, Bool.true_beq, Bool.false_beq, T24, shF_dec, dF, fr_eta, Int.cast_ofNat_Int, Int.reduceSub, Int.reduceAdd, Int.reduceNeg, ev1, ev2, implies_true, undef, stepP, dynCall, ↓condE_t, ↓condE_f, ↓guardE_tt, ↓guardE_ff, ↓guardE_tf, ↓guardE_ft, frzDeep, deepArgs, deepArg, resB, cv, stepB, stepE, callD, tabD, snapD, snap1, snapC, snapId, snapIds, guardB, guardC, dstAt, aopR, one, pre, binR, intOpR, shiftOpR, unR, argFrm, evo, lkp, hlk, lenOf, asLst, idOf, bndA, srcOk, ofVal, ofCells, setCells, fillA, setElems, fieldsOf, fieldsEq, scalEq, isEq, AV.wr, AV.ok1, TK.agg, frz, frzs, frzA, frzArg, frzArgs, subA, subL, sub1, kp, kh, accOf, List.replicate, Nat.reduceAdd, Nat.reduceSub, Nat.reduceMul, Nat.reduceEqDiff, Nat.reduceLT, Nat.reduceLeDiff, Nat.reduceBEq, reduceIte, reduceCtorEq, eq_self, ne_eq, Int.reduceToNat, Int.reduceLT, Int.reduceLE, Int.reduceGT, Int.reduceGE, Int.reduceBEq, Int.reduceBNe, Int.reduceEq, Int.reduceNe]
    all_goals ((repeat' apply And.intro) <;> first | rfl | omega | (show entryOk _ _ _ _ _ = true; kernel_rfl) | (show pivotOk _ _ = true; kernel_rfl) | decide)
end Go.Vai
/- The injector and all who are at it: what the document says. -/
namespace Go.Vai
open Go.RowKit Go.Proofs
set_option linter.unusedSimpArgs false
set_option linter.unusedVariables false
set_option maxHeartbeats 4000000
set_option maxRecDepth 100000

theorem frames_pure (l : List Fr) (hl : l.length ≤ 1000) : PureC Try.prog 41 [fs l, fs l] (bv true) := by
  refine pure_sub okIB 1 Try.func41 rfl (by show 2 ≤ _; decide) ?_
  simp only [Try.f41, inl, IB_all, bne_self_eq_false, fs, sv, fv, rf1, List.set_set, T52, T50, T51, hfree_fr, hfree_cf, cv', cf_eta, frz_u, shC_dec, dC, T23, T28, T25, hfree_lu, hfree_l0, row0, row1, row2, row3, row4, row5, shI_dec, shN_dec, shB_dec, shM_dec, dI, dN, dB, dM, dU, dU_map, iv, bv, u, ms, ctx_T, ctx_C, ctx_P, T4, T3, T26, Option.bind_some, Option.bind_none, Option.map_some, List.length_map, List.length_set, String.reduceBEq, Int.toNat_natCast, Bool.true_beq, Bool.false_beq, T24, shF_dec, dF, fr_eta, Int.cast_ofNat_Int, Int.reduceSub, Int.reduceAdd, Int.reduceNeg, ev1, ev2, implies_true, undef, stepP, dynCall, ↓condE_t, ↓condE_f, ↓guardE_tt, ↓guardE_ff, ↓guardE_tf, ↓guardE_ft, frzDeep, deepArgs, deepArg, resB, cv, stepB, stepE, callD, tabD, snapD, snap1, snapC, snapId, snapIds, guardB, guardC, dstAt, aopR, one, pre, binR, intOpR, shiftOpR, unR, argFrm, evo, lkp, hlk, lenOf, asLst, idOf, bndA, srcOk, ofVal, ofCells, setCells, fillA, setElems, fieldsOf, fieldsEq, scalEq, isEq, AV.wr, AV.ok1, TK.agg, frz, frzs, frzA, frzArg, frzArgs, subA, subL, sub1, kp, kh, accOf, List.replicate, Nat.reduceAdd, Nat.reduceSub, Nat.reduceMul, Nat.reduceEqDiff, Nat.reduceLT, Nat.reduceLeDiff, Nat.reduceBEq, reduceIte, reduceCtorEq, eq_self, ne_eq, Int.reduceToNat, Int.reduceLT, Int.reduceLE, Int.reduceGT, Int.reduceGE, Int.reduceBEq, Int.reduceBNe, Int.reduceEq, Int.reduceNe]
  refine WP.loop (ι := Nat) (fun k => l.length - k) (fun k => k ≤ l.length) (n := 26) (fr := fun k => [(5, iv k), (0, fs l), (1, fs l)]) (hp := fun k => []) (N := 0) ?_ 0 (Nat.zero_le _) rfl (Nat.zero_le _) ⟨rfl, rfl, rfl, trivial⟩ trivial
  intro k nx hk hN hid
  refine WP.of okIB 1 (by rfl) ?_
  by_cases hkl : k < l.length
  · have hkl' : (k : Int) < l.length := by omega
    have ww : IntKind.wrap .i64 ((k : Int) + 1) = ((k + 1 : Nat) : Int) := by rw [wrap_i (by omega) (by omega)]; omega
    have hk0 : (0 : Int) ≤ k := by omega
    have hg := getD_f hkl
    simp only [IB_all, hkl', ww, hk0, hg, Int.toNat_natCast, fs, sv, fv, rf1, List.set_set, T52, T50, T51, nb_self, nb_same, nb_l0, nb_r0, nb_lt, nb_gt, nb_lt0, nb_gt0, Nat.add_assoc, hfree_fr, hfree_cf, cv', cf_eta, frz_u, shC_dec, dC, T23, T28, T25, hfree_lu, hfree_l0, row0, row1, row2, row3, row4, row5, shI_dec, shN_dec, shB_dec, shM_dec, dI, dN, dB, dM, dU, dU_map, iv, bv, u, ms, ctx_T, ctx_C, ctx_P, T4, T3, T26, Option.bind_some, Option.bind_none, Option.map_some, List.length_map, List.length_set, String.reduceBEq, Int.toNat_natCast, Bool.true_beq, Bool.false_beq, T24, shF_dec, dF, fr_eta, Int.cast_ofNat_Int, Int.reduceSub, Int.reduceAdd, Int.reduceNeg, ev1, ev2, implies_true, undef, stepP, dynCall, ↓condE_t, ↓condE_f, ↓guardE_tt, ↓guardE_ff, ↓guardE_tf, ↓guardE_ft, frzDeep, deepArgs, deepArg, resB, cv, stepB, stepE, callD, tabD, snapD, snap1, snapC, snapId, snapIds, guardB, guardC, dstAt, aopR, one, pre, binR, intOpR, shiftOpR, unR, argFrm, evo, lkp, hlk, lenOf, asLst, idOf, bndA, srcOk, ofVal, ofCells, setCells, fillA, setElems, fieldsOf, fieldsEq, scalEq, isEq, AV.wr, AV.ok1, TK.agg, frz, frzs, frzA, frzArg, frzArgs, subA, subL, sub1, kp, kh, accOf, List.replicate, Nat.reduceAdd, Nat.reduceSub, Nat.reduceMul, Nat.reduceEqDiff, Nat.reduceLT, Nat.reduceLeDiff, Nat.reduceBEq, reduceIte, reduceCtorEq, eq_self, ne_eq, Int.reduceToNat, Int.reduceLT, Int.reduceLE, Int.reduceGT, Int.reduceGE, Int.reduceBEq, Int.reduceBNe, Int.reduceEq, Int.reduceNe]
    exact ⟨k + 1, by omega, by omega, rfl⟩
  · have hkl' : ¬ (k : Int) < l.length := by omega
    simp only [IB_all, hkl', fs, sv, fv, rf1, List.set_set, T52, T50, T51, nb_self, nb_same, nb_l0, nb_r0, nb_lt, nb_gt, nb_lt0, nb_gt0, Nat.add_assoc, hfree_fr, hfree_cf, cv', cf_eta, frz_u, shC_dec, dC, T23, T28, T25, hfree_lu, hfree_l0, row0, row1, row2, row3, row4, row5, shI_dec, shN_dec, shB_dec, shM_dec, dI, dN, dB, dM, dU, dU_map, iv, bv, u, ms, ctx_T, ctx_C, ctx_P, T4, T3, T26, Option.bind_some, Option.bind_none, Option.map_some, List.length_map, List.length_set, String.reduceBEq, Int.toNat_natCast, Bool.true_beq, Bool.false_beq, T24, shF_dec, dF, fr_eta, Int.cast_ofNat_Int, Int.reduceSub, Int.reduceAdd, Int.reduceNeg, ev1, ev2, implies_true, undef, stepP, dynCall, ↓condE_t, ↓condE_f, ↓guardE_tt, ↓guardE_ff, ↓guardE_tf, ↓guardE_ft, frzDeep, deepArgs, deepArg, resB, cv, stepB, stepE, callD, tabD, snapD, snap1, snapC, snapId, snapIds, guardB, guardC, dstAt, aopR, one, pre, binR, intOpR, shiftOpR, unR, argFrm, evo, lkp, hlk, lenOf, asLst, idOf, bndA, srcOk, ofVal, ofCells, setCells, fillA, setElems, fieldsOf, fieldsEq, scalEq, isEq, AV.wr, AV.ok1, TK.agg, frz, frzs, frzA, frzArg, frzArgs, subA, subL, sub1, kp, kh, accOf, List.replicate, Nat.reduceAdd, Nat.reduceSub, Nat.reduceMul, Nat.reduceEqDiff, Nat.reduceLT, Nat.reduceLeDiff, Nat.reduceBEq, reduceIte, reduceCtorEq, eq_self, ne_eq, Int.reduceToNat, Int.reduceLT, Int.reduceLE, Int.reduceGT, Int.reduceGE, Int.reduceBEq, Int.reduceBNe, Int.reduceEq, Int.reduceNe]

theorem fewcalls_pure (l : List (List Fr)) : PureC Try.prog 34 [fss l] (bv (fewC l)) := by
  refine pure_sub okIB 1 Try.func34 rfl (by show 1 ≤ _; decide) ?_
  simp only [Try.f34, inl, IB_all, fss, sv, fv, rf1, List.set_set, T52, T50, T51, hfree_fr, hfree_cf, cv', cf_eta, frz_u, shC_dec, dC, T23, T28, T25, hfree_lu, hfree_l0, row0, row1, row2, row3, row4, row5, shI_dec, shN_dec, shB_dec, shM_dec, dI, dN, dB, dM, dU, dU_map, iv, bv, u, ms, ctx_T, ctx_C, ctx_P, T4, T3, T26, Option.bind_some, Option.bind_none, Option.map_some, List.length_map, List.length_set, String.reduceBEq, Int.toNat_natCast, Bool.true_beq, Bool.false_beq, T24, shF_dec, dF, fr_eta, Int.cast_ofNat_Int, Int.reduceSub, Int.reduceAdd, Int.reduceNeg, ev1, ev2, implies_true, undef, stepP, dynCall, ↓condE_t, ↓condE_f, ↓guardE_tt, ↓guardE_ff, ↓guardE_tf, ↓guardE_ft, frzDeep, deepArgs, deepArg, resB, cv, stepB, stepE, callD, tabD, snapD, snap1, snapC, snapId, snapIds, guardB, guardC, dstAt, aopR, one, pre, binR, intOpR, shiftOpR, unR, argFrm, evo, lkp, hlk, lenOf, asLst, idOf, bndA, srcOk, ofVal, ofCells, setCells, fillA, setElems, fieldsOf, fieldsEq, scalEq, isEq, AV.wr, AV.ok1, TK.agg, frz, frzs, frzA, frzArg, frzArgs, subA, subL, sub1, kp, kh, accOf, List.replicate, Nat.reduceAdd, Nat.reduceSub, Nat.reduceMul, Nat.reduceEqDiff, Nat.reduceLT, Nat.reduceLeDiff, Nat.reduceBEq, reduceIte, reduceCtorEq, eq_self, ne_eq, Int.reduceToNat, Int.reduceLT, Int.reduceLE, Int.reduceGT, Int.reduceGE, Int.reduceBEq, Int.reduceBNe, Int.reduceEq, Int.reduceNe]
  refine WP.loop (ι := Nat) (fun k => 12 - k) (fun k => k ≤ 11 ∧ k ≤ l.length ∧ (l.take k).all (fun x => decide (x.length ≤ 30)) = true) (n := 23) (fr := fun k => [(3, iv k), (0, fss l)]) (hp := fun k => []) (N := 0) ?_ 0 ⟨by omega, Nat.zero_le _, rfl⟩ rfl (Nat.zero_le _) ⟨rfl, rfl, trivial⟩ trivial
  rintro k nx ⟨hk, hkl, ha⟩ hN hid
  refine WP.of okIB 1 (by rfl) ?_
  by_cases h1 : k < l.length
  · have h1' : (k : Int) < l.length := by omega
    by_cases h2 : k ≤ 10
    · have h2' : (k : Int) ≤ 10 := by omega
      have ww : IntKind.wrap .i64 ((k : Int) + 1) = ((k + 1 : Nat) : Int) := by rw [wrap_i (by omega) (by omega)]; omega
      have hk0 : (0 : Int) ≤ k := by omega
      have hg := getD_fs h1
      have htk : l.take (k + 1) = l.take k ++ [l.getD k []] := by rw [List.take_succ_eq_append_getElem h1]; simp [List.getD_eq_getElem?_getD, h1]
      have hkq : l[k]? = some (l.getD k []) := by simp [List.getD_eq_getElem?_getD, h1]
      generalize l.getD k [] = x at hg htk hkq
      by_cases h3 : x.length ≤ 30
      · have h3' : ¬ (x.length : Int) > 30 := by omega
        simp only [IB_all, h1', h2', h3', ww, hk0, hg, Int.toNat_natCast, fss, fs, sv, fv, rf1, List.set_set, T52, T50, T51, nb_self, nb_same, nb_l0, nb_r0, nb_lt, nb_gt, nb_lt0, nb_gt0, Nat.add_assoc, hfree_fr, hfree_cf, cv', cf_eta, frz_u, shC_dec, dC, T23, T28, T25, hfree_lu, hfree_l0, row0, row1, row2, row3, row4, row5, shI_dec, shN_dec, shB_dec, shM_dec, dI, dN, dB, dM, dU, dU_map, iv, bv, u, ms, ctx_T, ctx_C, ctx_P, T4, T3, T26, Option.bind_some, Option.bind_none, Option.map_some, List.length_map, List.length_set, String.reduceBEq, Int.toNat_natCast, Bool.true_beq, Bool.false_beq, T24, shF_dec, dF, fr_eta, Int.cast_ofNat_Int, Int.reduceSub, Int.reduceAdd, Int.reduceNeg, ev1, ev2, implies_true, undef, stepP, dynCall, ↓condE_t, ↓condE_f, ↓guardE_tt, ↓guardE_ff, ↓guardE_tf, ↓guardE_ft, frzDeep, deepArgs, deepArg, resB, cv, stepB, stepE, callD, tabD, snapD, snap1, snapC, snapId, snapIds, guardB, guardC, dstAt, aopR, one, pre, binR, intOpR, shiftOpR, unR, argFrm, evo, lkp, hlk, lenOf, asLst, idOf, bndA, srcOk, ofVal, ofCells, setCells, fillA, setElems, fieldsOf, fieldsEq, scalEq, isEq, AV.wr, AV.ok1, TK.agg, frz, frzs, frzA, frzArg, frzArgs, subA, subL, sub1, kp, kh, accOf, List.replicate, Nat.reduceAdd, Nat.reduceSub, Nat.reduceMul, Nat.reduceEqDiff, Nat.reduceLT, Nat.reduceLeDiff, Nat.reduceBEq, reduceIte, reduceCtorEq, eq_self, ne_eq, Int.reduceToNat, Int.reduceLT, Int.reduceLE, Int.reduceGT, Int.reduceGE, Int.reduceBEq, Int.reduceBNe, Int.reduceEq, Int.reduceNe]
        exact ⟨k + 1, by omega, ⟨by omega, by omega, by rw [htk, List.all_append, ha]; simp [h3]⟩, rfl⟩
      · have h3' : (x.length : Int) > 30 := by omega
        have hf : fewC l = false := by
          rw [← Bool.not_eq_true]
          intro hc
          have hx : x ∈ l.take 11 := by
            exact List.mem_iff_getElem?.2 ⟨k, by rw [List.getElem?_take, if_pos (by omega)]; exact hkq⟩
          unfold fewC at hc
          rw [Bool.and_eq_true, List.all_eq_true] at hc
          exact h3 (of_decide_eq_true (hc.2 x hx))
        rw [hf]
        simp only [IB_all, h1', h2', h3', ww, hk0, hg, Int.toNat_natCast, fss, fs, sv, fv, rf1, List.set_set, T52, T50, T51, nb_self, nb_same, nb_l0, nb_r0, nb_lt, nb_gt, nb_lt0, nb_gt0, Nat.add_assoc, hfree_fr, hfree_cf, cv', cf_eta, frz_u, shC_dec, dC, T23, T28, T25, hfree_lu, hfree_l0, row0, row1, row2, row3, row4, row5, shI_dec, shN_dec, shB_dec, shM_dec, dI, dN, dB, dM, dU, dU_map, iv, bv, u, ms, ctx_T, ctx_C, ctx_P, T4, T3, T26, Option.bind_some, Option.bind_none, Option.map_some, List.length_map, List.length_set, String.reduceBEq, Int.toNat_natCast, Bool.true_beq, Bool.false_beq, T24, shF_dec, dF, fr_eta, Int.cast_ofNat_Int, Int.reduceSub, Int.reduceAdd, Int.reduceNeg, ev1, ev2, implies_true, undef, stepP, dynCall, ↓condE_t, ↓condE_f, ↓guardE_tt, ↓guardE_ff, ↓guardE_tf, ↓guardE_ft, frzDeep, deepArgs, deepArg, resB, cv, stepB, stepE, callD, tabD, snapD, snap1, snapC, snapId, snapIds, guardB, guardC, dstAt, aopR, one, pre, binR, intOpR, shiftOpR, unR, argFrm, evo, lkp, hlk, lenOf, asLst, idOf, bndA, srcOk, ofVal, ofCells, setCells, fillA, setElems, fieldsOf, fieldsEq, scalEq, isEq, AV.wr, AV.ok1, TK.agg, frz, frzs, frzA, frzArg, frzArgs, subA, subL, sub1, kp, kh, accOf, List.replicate, Nat.reduceAdd, Nat.reduceSub, Nat.reduceMul, Nat.reduceEqDiff, Nat.reduceLT, Nat.reduceLeDiff, Nat.reduceBEq, reduceIte, reduceCtorEq, eq_self, ne_eq, Int.reduceToNat, Int.reduceLT, Int.reduceLE, Int.reduceGT, Int.reduceGE, Int.reduceBEq, Int.reduceBNe, Int.reduceEq, Int.reduceNe]
    · have h2' : ¬ (k : Int) ≤ 10 := by omega
      have h4 : ¬ (l.length : Int) ≤ 10 := by omega
      have hf : fewC l = false := by unfold fewC; simp; omega
      rw [hf]
      simp only [IB_all, h1', h2', h4, fss, fs, sv, fv, rf1, List.set_set, T52, T50, T51, nb_self, nb_same, nb_l0, nb_r0, nb_lt, nb_gt, nb_lt0, nb_gt0, Nat.add_assoc, hfree_fr, hfree_cf, cv', cf_eta, frz_u, shC_dec, dC, T23, T28, T25, hfree_lu, hfree_l0, row0, row1, row2, row3, row4, row5, shI_dec, shN_dec, shB_dec, shM_dec, dI, dN, dB, dM, dU, dU_map, iv, bv, u, ms, ctx_T, ctx_C, ctx_P, T4, T3, T26, Option.bind_some, Option.bind_none, Option.map_some, List.length_map, List.length_set, String.reduceBEq, Int.toNat_natCast, Bool.true_beq, Bool.false_beq, T24, shF_dec, dF, fr_eta, Int.cast_ofNat_Int, Int.reduceSub, Int.reduceAdd, Int.reduceNeg, ev1, ev2, implies_true, undef, stepP, dynCall, ↓condE_t, ↓condE_f, ↓guardE_tt, ↓guardE_ff, ↓guardE_tf, ↓guardE_ft, frzDeep, deepArgs, deepArg, resB, cv, stepB, stepE, callD, tabD, snapD, snap1, snapC, snapId, snapIds, guardB, guardC, dstAt, aopR, one, pre, binR, intOpR, shiftOpR, unR, argFrm, evo, lkp, hlk, lenOf, asLst, idOf, bndA, srcOk, ofVal, ofCells, setCells, fillA, setElems, fieldsOf, fieldsEq, scalEq, isEq, AV.wr, AV.ok1, TK.agg, frz, frzs, frzA, frzArg, frzArgs, subA, subL, sub1, kp, kh, accOf, List.replicate, Nat.reduceAdd, Nat.reduceSub, Nat.reduceMul, Nat.reduceEqDiff, Nat.reduceLT, Nat.reduceLeDiff, Nat.reduceBEq, reduceIte, reduceCtorEq, eq_self, ne_eq, Int.reduceToNat, Int.reduceLT, Int.reduceLE, Int.reduceGT, Int.reduceGE, Int.reduceBEq, Int.reduceBNe, Int.reduceEq, Int.reduceNe]
  · have h1' : ¬ (k : Int) < l.length := by omega
    have hke : k = l.length := by omega
    have hf : fewC l = decide ((l.length : Int) ≤ 10) := by
      unfold fewC
      rw [List.take_of_length_le (by omega)] at ha ⊢
      rw [ha, Bool.and_true, Bool.eq_iff_iff]
      simp
      omega
    rw [hf]
    simp only [IB_all, h1', fss, fs, sv, fv, rf1, List.set_set, T52, T50, T51, nb_self, nb_same, nb_l0, nb_r0, nb_lt, nb_gt, nb_lt0, nb_gt0, Nat.add_assoc, hfree_fr, hfree_cf, cv', cf_eta, frz_u, shC_dec, dC, T23, T28, T25, hfree_lu, hfree_l0, row0, row1, row2, row3, row4, row5, shI_dec, shN_dec, shB_dec, shM_dec, dI, dN, dB, dM, dU, dU_map, iv, bv, u, ms, ctx_T, ctx_C, ctx_P, T4, T3, T26, Option.bind_some, Option.bind_none, Option.map_some, List.length_map, List.length_set, String.reduceBEq, Int.toNat_natCast, Bool.true_beq, Bool.false_beq, T24, shF_dec, dF, fr_eta, Int.cast_ofNat_Int, Int.reduceSub, Int.reduceAdd, Int.reduceNeg, ev1, ev2, implies_true, undef, stepP, dynCall, ↓condE_t, ↓condE_f, ↓guardE_tt, ↓guardE_ff, ↓guardE_tf, ↓guardE_ft, frzDeep, deepArgs, deepArg, resB, cv, stepB, stepE, callD, tabD, snapD, snap1, snapC, snapId, snapIds, guardB, guardC, dstAt, aopR, one, pre, binR, intOpR, shiftOpR, unR, argFrm, evo, lkp, hlk, lenOf, asLst, idOf, bndA, srcOk, ofVal, ofCells, setCells, fillA, setElems, fieldsOf, fieldsEq, scalEq, isEq, AV.wr, AV.ok1, TK.agg, frz, frzs, frzA, frzArg, frzArgs, subA, subL, sub1, kp, kh, accOf, List.replicate, Nat.reduceAdd, Nat.reduceSub, Nat.reduceMul, Nat.reduceEqDiff, Nat.reduceLT, Nat.reduceLeDiff, Nat.reduceBEq, reduceIte, reduceCtorEq, eq_self, ne_eq, Int.reduceToNat, Int.reduceLT, Int.reduceLE, Int.reduceGT, Int.reduceGE, Int.reduceBEq, Int.reduceBNe, Int.reduceEq, Int.reduceNe]

def rowsIC : List Row := [
  (37, row3 shI shFss shZs fun room calls who => if calls.length ≤ 1000 ∧ Short 1000 calls ∧ who.length ≤ 1000 then some (.tup [ms (iPlay room calls who).1, fs (iPlay room calls who).2.1, fs (iPlay room calls who).2.2]) else none), 
  (38, row3 shI shFss shZs fun room calls who => if calls.length ≤ 1000 ∧ Short 1000 calls ∧ who.length ≤ 1000 then some (.tup [ms (rPlay room calls who).1, fs (rPlay room calls who).2.1, fs (rPlay room calls who).2.2]) else none), 
  (39, row3 shI shM shFs fun room m hand => if hand.length ≤ 1000 then some (.tup [ms (iRest room m hand).1, fs (iRest room m hand).2]) else none), 
  (40, row3 shI shM shFs fun room m hand => if hand.length ≤ 1000 then some (.tup [ms (rRest room m hand).1, fs (rRest room m hand).2]) else none), 
  (41, row2 shFs shFs fun a b => if a = b ∧ a.length ≤ 1000 then some (bv true) else none), 
  (34, row1 shFss fun l => some (bv (fewC l)))] ++ rowsIB
theorem rowsIC_ok : ∀ p ∈ rowsIC, RowOk Try.prog p := fun p h => by
  simp only [rowsIC, List.mem_append, List.mem_cons, List.not_mem_nil, or_false, false_or, or_assoc] at h
  rcases h with rfl | rfl | rfl | rfl | rfl | rfl | h
  · exact ok_row3 (enters_of Try.func37 (by decide) rfl) fun room calls who r _ _ _ e => by obtain ⟨h, rfl⟩ := opt_if e; exact play_pure room calls who h.1 h.2.1 h.2.2
  · exact ok_row3 (enters_of Try.func38 (by decide) rfl) fun room calls who r _ _ _ e => by obtain ⟨h, rfl⟩ := opt_if e; exact rplay_pure room calls who h.1 h.2.1 h.2.2
  · exact ok_row3 (enters_of Try.func39 (by decide) rfl) fun room m hand r _ g _ e => by obtain ⟨h, rfl⟩ := opt_if e; exact irest_pure room m hand (shM_got g) h
  · exact ok_row3 (enters_of Try.func40 (by decide) rfl) fun room m hand r _ g _ e => by obtain ⟨h, rfl⟩ := opt_if e; exact rrest_pure room m hand (shM_got g) h
  · exact ok_row2 (enters_of Try.func41 (by decide) rfl) fun a b r _ _ e => by obtain ⟨h, rfl⟩ := opt_if e; rw [← h.1]; exact frames_pure a h.2
  · exact ok_row1 (enters_of Try.func34 (by decide) rfl) fun l r _ e => by cases e; exact fewcalls_pure l
  · exact rowsIB_ok p h
theorem okIC : (ctx Try.prog rowsIC).ok := rows_ok rowsIC_ok
theorem IC_37 : tabC rowsIC 37 = row3 shI shFss shZs fun room calls who => if calls.length ≤ 1000 ∧ Short 1000 calls ∧ who.length ≤ 1000 then some (.tup [ms (iPlay room calls who).1, fs (iPlay room calls who).2.1, fs (iPlay room calls who).2.2]) else none := rfl
theorem IC_38 : tabC rowsIC 38 = row3 shI shFss shZs fun room calls who => if calls.length ≤ 1000 ∧ Short 1000 calls ∧ who.length ≤ 1000 then some (.tup [ms (rPlay room calls who).1, fs (rPlay room calls who).2.1, fs (rPlay room calls who).2.2]) else none := rfl
theorem IC_39 : tabC rowsIC 39 = row3 shI shM shFs fun room m hand => if hand.length ≤ 1000 then some (.tup [ms (iRest room m hand).1, fs (iRest room m hand).2]) else none := rfl
theorem IC_40 : tabC rowsIC 40 = row3 shI shM shFs fun room m hand => if hand.length ≤ 1000 then some (.tup [ms (rRest room m hand).1, fs (rRest room m hand).2]) else none := rfl
theorem IC_41 : tabC rowsIC 41 = row2 shFs shFs fun a b => if a = b ∧ a.length ≤ 1000 then some (bv true) else none := rfl
theorem IC_34 : tabC rowsIC 34 = row1 shFss fun l => some (bv (fewC l)) := rfl
theorem IC_85 : tabC rowsIC 85 = row3 shI shI shN fun o w v => some (fv (fBegin o w v)) := rfl
theorem IC_84 : tabC rowsIC 84 = row1 shC fun c => some (ms (zeros (lSize c).toNat)) := rfl
theorem IC_100 : tabC rowsIC 100 = row2 shN shN fun a b => if a = 1 ∧ 0 ≤ b ∧ b ≤ 8 then some (.tup [u 0, u b]) else none := rfl
theorem IC_35 : tabC rowsIC 35 = row3 shC shM shF fun c m f => some (sv (iStep c m f)) := rfl
theorem IC_36 : tabC rowsIC 36 = row3 shC shM shF fun c m f => some (sv (riStep c m f)) := rfl
theorem IC_82 : tabC rowsIC 82 = row2 shFs shI fun l i => if l.length ≤ 1000 then some (.tup [fv (nextP i l).1, fs (nextP i l).2]) else none := rfl
theorem IC_78 : tabC rowsIC 78 = fun _ => none := rfl
theorem IC_81 : tabC rowsIC 81 = fun _ => none := rfl
theorem IC_98 : tabC rowsIC 98 = fun _ => none := rfl
theorem IC_79 : tabC rowsIC 79 = fun _ => none := rfl
theorem IC_87 : tabC rowsIC 87 = fun _ => none := rfl
theorem IC_80 : tabC rowsIC 80 = fun _ => none := rfl
theorem IC_97 : tabC rowsIC 97 = fun _ => none := rfl
theorem IC_19 : tabC rowsIC 19 = row2 shC shM fun c m => some (lv (qList c m)) := rfl
theorem IC_20 : tabC rowsIC 20 = row2 shC shM fun c m => some (lv (rqList c m)) := rfl
theorem IC_17 : tabC rowsIC 17 = row3 shC shM shF fun c m f => some (sv (qStep c m f)) := rfl
theorem IC_18 : tabC rowsIC 18 = row3 shC shM shF fun c m f => some (sv (rqStep c m f)) := rfl
theorem IC_60 : tabC rowsIC 60 = fun _ => none := rfl
theorem IC_94 : tabC rowsIC 94 = fun _ => none := rfl
theorem IC_47 : tabC rowsIC 47 = row2 shC shN fun c x => if 1 ≤ c.i ∧ c.i ≤ 16 then some (u (qFull c x)) else none := rfl
theorem IC_96 : tabC rowsIC 96 = freeRow := rfl
theorem IC_23 : tabC rowsIC 23 = row4 shC shM shF shI fun c m f op => some (bv (goesE c m f op)) := rfl
theorem IC_52 : tabC rowsIC 52 = row4 shC shM shF shI fun c m f op => some (bv (goesE c m f op)) := rfl
theorem IC_26 : tabC rowsIC 26 = row2 shC shM fun c m => some (iv (eLen c m)) := rfl
theorem IC_61 : tabC rowsIC 61 = row2 shC shM fun c m => some (iv (eLen c m)) := rfl
theorem IC_62 : tabC rowsIC 62 = fun _ => none := rfl
theorem IC_67 : tabC rowsIC 67 = fun _ => none := rfl
theorem IC_68 : tabC rowsIC 68 = fun _ => none := rfl
theorem IC_69 : tabC rowsIC 69 = fun _ => none := rfl
theorem IC_70 : tabC rowsIC 70 = fun _ => none := rfl
theorem IC_71 : tabC rowsIC 71 = fun _ => none := rfl
theorem IC_72 : tabC rowsIC 72 = fun _ => none := rfl
theorem IC_44 : tabC rowsIC 44 = row1 shM fun m => some (ms m) := rfl
theorem IC_57 : tabC rowsIC 57 = row4 shM shI shN shN fun m i v w => some (.tup [ms (mCas m i v w), bv (mCasB m i v)]) := rfl
theorem IC_45 : tabC rowsIC 45 = row2 shM shI fun m i => some (u (mLoad m i)) := rfl
theorem IC_51 : tabC rowsIC 51 = row3 shM shI shN fun m i v => some (ms (mStore m i v)) := rfl
theorem IC_49 : tabC rowsIC 49 = row4 shM shI shN shN fun m i v w => some (.tup [ms (mCas m i v w), bv (mCasB m i v)]) := rfl
theorem IC_53 : tabC rowsIC 53 = row2 shM shI fun m i => some (u (mLoad m i)) := rfl
theorem IC_21 : tabC rowsIC 21 = row2 shM shM fun a b => some (bv (decide (a = b))) := rfl
theorem IC_59 : tabC rowsIC 59 = row3 shM shI shN fun m i v => some (ms (mStore m i v)) := rfl
theorem IC_66 : tabC rowsIC 66 = row1 shC fun c => some (iv (lSize c)) := rfl
theorem IC_88 : tabC rowsIC 88 = row1 shC fun c => some (iv (lSize c)) := rfl
theorem IC_27 : tabC rowsIC 27 = row1 shC fun c => some (bv (mayC c)) := rfl
theorem IC_46 : tabC rowsIC 46 = row2 shN shN fun a b => some (iv (far a b)) := rfl
theorem IC_83 : tabC rowsIC 83 = row1 shC fun c => some (bv (mayC c)) := rfl
theorem IC_55 : tabC rowsIC 55 = row2 shN shN fun a b => some (iv (far a b)) := rfl
theorem IC_95 : tabC rowsIC 95 = row2 shC shI fun c w => if mayC c = true ∧ 0 ≤ w ∧ w ≤ 8 then some (iv (lBase c w)) else none := rfl
theorem IC_63 : tabC rowsIC 63 = fun _ => none := rfl
theorem IC_65 : tabC rowsIC 65 = fun _ => none := rfl
theorem IC_86 : tabC rowsIC 86 = row1 shF fun f => some (bv (f.res != 0)) := rfl
theorem IC_56 : tabC rowsIC 56 = row3 shF shI shN fun f r v => some (fv (fEnd f r v)) := rfl
theorem IC_22 : tabC rowsIC 22 = row2 shM shM fun a b => some (bv (decide (a = b))) := rfl
theorem IC_25 : tabC rowsIC 25 = row3 shI shI shN fun o w v => some (fv (fBegin o w v)) := rfl
theorem IC_31 : tabC rowsIC 31 = row1 shF fun f => some (bv (f.res != 0)) := rfl
theorem IC_48 : tabC rowsIC 48 = row3 shF shI shN fun f r v => some (fv (fEnd f r v)) := rfl
theorem IC_74 : tabC rowsIC 74 = fun _ => none := rfl
theorem IC_75 : tabC rowsIC 75 = fun _ => none := rfl
theorem IC_76 : tabC rowsIC 76 = fun _ => none := rfl
theorem IC_73 : tabC rowsIC 73 = fun _ => none := rfl
theorem IC_24 : tabC rowsIC 24 = row2 shC shN fun c x => some (iv (eSeq c x)) := rfl
theorem IC_50 : tabC rowsIC 50 = row2 shC shN fun c x => some (iv (eVal c x)) := rfl
theorem IC_54 : tabC rowsIC 54 = row2 shC shN fun c x => some (iv (eSeq c x)) := rfl
theorem IC_58 : tabC rowsIC 58 = row2 shC shN fun c x => some (iv (eVal c x)) := rfl
theorem IC_30 : tabC rowsIC 30 = row3 shC shM shF fun c m f => some (sv (eStep c m f)) := rfl
theorem IC_77 : tabC rowsIC 77 = row3 shC shM shF fun c m f => some (sv (eStep c m f)) := rfl
theorem IC_28 : tabC rowsIC 28 = row1 shC fun c => some (ms (zeros (lSize c).toNat)) := rfl
theorem IC_all : type_of% (And.intro IC_37 <| And.intro IC_38 <| And.intro IC_39 <| And.intro IC_40 <| And.intro IC_41 <| And.intro IC_34 <| And.intro IC_85 <| And.intro IC_84 <| And.intro IC_100 <| And.intro IC_35 <| And.intro IC_36 <| And.intro IC_82 <| And.intro IC_78 <| And.intro IC_81 <| And.intro IC_98 <| And.intro IC_79 <| And.intro IC_87 <| And.intro IC_80 <| And.intro IC_97 <| And.intro IC_19 <| And.intro IC_20 <| And.intro IC_17 <| And.intro IC_18 <| And.intro IC_60 <| And.intro IC_94 <| And.intro IC_47 <| And.intro IC_96 <| And.intro IC_23 <| And.intro IC_52 <| And.intro IC_26 <| And.intro IC_61 <| And.intro IC_62 <| And.intro IC_67 <| And.intro IC_68 <| And.intro IC_69 <| And.intro IC_70 <| And.intro IC_71 <| And.intro IC_72 <| And.intro IC_44 <| And.intro IC_57 <| And.intro IC_45 <| And.intro IC_51 <| And.intro IC_49 <| And.intro IC_53 <| And.intro IC_21 <| And.intro IC_59 <| And.intro IC_66 <| And.intro IC_88 <| And.intro IC_27 <| And.intro IC_46 <| And.intro IC_83 <| And.intro IC_55 <| And.intro IC_95 <| And.intro IC_63 <| And.intro IC_65 <| And.intro IC_86 <| And.intro IC_56 <| And.intro IC_22 <| And.intro IC_25 <| And.intro IC_31 <| And.intro IC_48 <| And.intro IC_74 <| And.intro IC_75 <| And.intro IC_76 <| And.intro IC_73 <| And.intro IC_24 <| And.intro IC_50 <| And.intro IC_54 <| And.intro IC_58 <| And.intro IC_30 <| And.intro IC_77 <| IC_28) := And.intro IC_37 <| And.intro IC_38 <| And.intro IC_39 <| And.intro IC_40 <| And.intro IC_41 <| And.intro IC_34 <| And.intro IC_85 <| And.intro IC_84 <| And.intro IC_100 <| And.intro IC_35 <| And.intro IC_36 <| And.intro IC_82 <| And.intro IC_78 <| And.intro IC_81 <| And.intro IC_98 <| And.intro IC_79 <| And.intro IC_87 <| And.intro IC_80 <| And.intro IC_97 <| And.intro IC_19 <| And.intro IC_20 <| And.intro IC_17 <| And.intro IC_18 <| And.intro IC_60 <| And.intro IC_94 <| And.intro IC_47 <| And.intro IC_96 <| And.intro IC_23 <| And.intro IC_52 <| And.intro IC_26 <| And.intro IC_61 <| And.intro IC_62 <| And.intro IC_67 <| And.intro IC_68 <| And.intro IC_69 <| And.intro IC_70 <| And.intro IC_71 <| And.intro IC_72 <| And.intro IC_44 <| And.intro IC_57 <| And.intro IC_45 <| And.intro IC_51 <| And.intro IC_49 <| And.intro IC_53 <| And.intro IC_21 <| And.intro IC_59 <| And.intro IC_66 <| And.intro IC_88 <| And.intro IC_27 <| And.intro IC_46 <| And.intro IC_83 <| And.intro IC_55 <| And.intro IC_95 <| And.intro IC_63 <| And.intro IC_65 <| And.intro IC_86 <| And.intro IC_56 <| And.intro IC_22 <| And.intro IC_25 <| And.intro IC_31 <| And.intro IC_48 <| And.intro IC_74 <| And.intro IC_75 <| And.intro IC_76 <| And.intro IC_73 <| And.intro IC_24 <| And.intro IC_50 <| And.intro IC_54 <| And.intro IC_58 <| And.intro IC_30 <| And.intro IC_77 <| IC_28

theorem awake_play : iPlay 2 [[⟨3, 0, 0, 7, 0, 0, 0⟩], [⟨4, 0, 0, 0, 0, 0, 0⟩]] [0, 0, 0, 0, 0, 1, 1, 1, 1, 1] =
    ([0, 0, 0, 0, 1, 1, 2, 0, 7, 0, 0, 0, 0, 0], [⟨3, 0, 0, 7, 0, 0, 1⟩, ⟨4, 0, 1, 7, 0, 0, 1⟩], [⟨-1, 0, 0, 0, 0, 0, 0⟩, ⟨-1, 0, 0, 0, 0, 0, 0⟩]) := by kernel_rfl
theorem awake_rest : iRest 2 [0, 0, 0, 0, 1, 1, 2, 0, 7, 0, 0, 0, 0, 0] [⟨-1, 0, 0, 0, 0, 0, 0⟩, ⟨-1, 0, 0, 0, 0, 0, 0⟩] = ([0, 0, 0, 0, 1, 1, 2, 0, 7, 0, 0, 0, 0, 0], [⟨-1, 0, 0, 0, 0, 0, 0⟩, ⟨-1, 0, 0, 0, 0, 0, 0⟩]) := by kernel_rfl

theorem awake13_pure : PureC Try.prog 33 [] (bv true) := by
  refine pure_sub okIC 1 Try.func33 rfl (by show 0 ≤ _; decide) ?_
  have hd1 : shFss.dec (.lst 1 [.lst 7 [fv ⟨3, 0, 0, 7, 0, 0, 0⟩], .lst 7 [fv ⟨4, 0, 0, 0, 0, 0, 0⟩]]) = some [[⟨3, 0, 0, 7, 0, 0, 0⟩], [⟨4, 0, 0, 0, 0, 0, 0⟩]] := rfl
  have hd2 : shZs.dec (.lst 1 [iv 0, iv 0, iv 0, iv 0, iv 0, iv 1, iv 1, iv 1, iv 1, iv 1]) = some [0, 0, 0, 0, 0, 1, 1, 1, 1, 1] := rfl
  have hd4 : shFs.dec (.lst 7 [fv ⟨-1, 0, 0, 0, 0, 0, 0⟩, fv ⟨-1, 0, 0, 0, 0, 0, 0⟩]) = some [⟨-1, 0, 0, 0, 0, 0, 0⟩, ⟨-1, 0, 0, 0, 0, 0, 0⟩] := rfl
  have hc : Short 1000 [[⟨3, 0, 0, 7, 0, 0, 0⟩], [⟨4, 0, 0, 0, 0, 0, 0⟩]] = True := eq_true (by decide)
  simp only [fv, iv, u] at hd1 hd2 hd4
  simp only [Try.f33, IC_all, inl, hd1, hd2, hd4, hc, awake_play, awake_rest, fss, fs, zs, sv, fv, rf1, List.set_set, T52, T50, T51, hfree_fr, hfree_cf, cv', cf_eta, frz_u, shC_dec, dC, T23, T28, T25, hfree_lu, hfree_l0, row0, row1, row2, row3, row4, row5, shI_dec, shN_dec, shB_dec, shM_dec, dI, dN, dB, dM, dU, dU_map, iv, bv, u, ms, ctx_T, ctx_C, ctx_P, T4, T3, T26, Option.bind_some, Option.bind_none, Option.map_some, List.length_map, List.length_set, String.reduceBEq, Int.toNat_natCast, Bool.true_beq, Bool.false_beq, T24, shF_dec, dF, fr_eta, Int.cast_ofNat_Int, Int.reduceSub, Int.reduceAdd, Int.reduceNeg, ev1, ev2, implies_true, undef, stepP, dynCall, ↓condE_t, ↓condE_f, ↓guardE_tt, ↓guardE_ff, ↓guardE_tf, ↓guardE_ft, frzDeep, deepArgs, deepArg, resB, cv, stepB, stepE, callD, tabD, snapD, snap1, snapC, snapId, snapIds, guardB, guardC, dstAt, aopR, one, pre, binR, intOpR, shiftOpR, unR, argFrm, evo, lkp, hlk, lenOf, asLst, idOf, bndA, srcOk, ofVal, ofCells, setCells, fillA, setElems, fieldsOf, fieldsEq, scalEq, isEq, AV.wr, AV.ok1, TK.agg, frz, frzs, frzA, frzArg, frzArgs, subA, subL, sub1, kp, kh, accOf, List.replicate, Nat.reduceAdd, Nat.reduceSub, Nat.reduceMul, Nat.reduceEqDiff, Nat.reduceLT, Nat.reduceLeDiff, Nat.reduceBEq, reduceIte, reduceCtorEq, eq_self, ne_eq, Int.reduceToNat, Int.reduceLT, Int.reduceLE, Int.reduceGT, Int.reduceGE, Int.reduceBEq, Int.reduceBNe, Int.reduceEq, Int.reduceNe]
  all_goals ((repeat' apply And.intro) <;> first | rfl | omega | (show entryOk _ _ _ _ _ = true; kernel_rfl) | (show pivotOk _ _ = true; kernel_rfl) | decide)

def rowsID : List Row := [
  (33, row0 (bv true))] ++ rowsIC
theorem rowsID_ok : ∀ p ∈ rowsID, RowOk Try.prog p := fun p h => by
  simp only [rowsID, List.mem_append, List.mem_cons, List.not_mem_nil, or_false, false_or, or_assoc] at h
  rcases h with rfl | h
  · exact ok_row0 (enters_of Try.func33 (by decide) rfl) awake13_pure
  · exact rowsIC_ok p h
theorem okID : (ctx Try.prog rowsID).ok := rows_ok rowsID_ok
theorem ID_33 : tabC rowsID 33 = row0 (bv true) := rfl
theorem ID_37 : tabC rowsID 37 = row3 shI shFss shZs fun room calls who => if calls.length ≤ 1000 ∧ Short 1000 calls ∧ who.length ≤ 1000 then some (.tup [ms (iPlay room calls who).1, fs (iPlay room calls who).2.1, fs (iPlay room calls who).2.2]) else none := rfl
theorem ID_38 : tabC rowsID 38 = row3 shI shFss shZs fun room calls who => if calls.length ≤ 1000 ∧ Short 1000 calls ∧ who.length ≤ 1000 then some (.tup [ms (rPlay room calls who).1, fs (rPlay room calls who).2.1, fs (rPlay room calls who).2.2]) else none := rfl
theorem ID_39 : tabC rowsID 39 = row3 shI shM shFs fun room m hand => if hand.length ≤ 1000 then some (.tup [ms (iRest room m hand).1, fs (iRest room m hand).2]) else none := rfl
theorem ID_40 : tabC rowsID 40 = row3 shI shM shFs fun room m hand => if hand.length ≤ 1000 then some (.tup [ms (rRest room m hand).1, fs (rRest room m hand).2]) else none := rfl
theorem ID_41 : tabC rowsID 41 = row2 shFs shFs fun a b => if a = b ∧ a.length ≤ 1000 then some (bv true) else none := rfl
theorem ID_34 : tabC rowsID 34 = row1 shFss fun l => some (bv (fewC l)) := rfl
theorem ID_85 : tabC rowsID 85 = row3 shI shI shN fun o w v => some (fv (fBegin o w v)) := rfl
theorem ID_84 : tabC rowsID 84 = row1 shC fun c => some (ms (zeros (lSize c).toNat)) := rfl
theorem ID_100 : tabC rowsID 100 = row2 shN shN fun a b => if a = 1 ∧ 0 ≤ b ∧ b ≤ 8 then some (.tup [u 0, u b]) else none := rfl
theorem ID_35 : tabC rowsID 35 = row3 shC shM shF fun c m f => some (sv (iStep c m f)) := rfl
theorem ID_36 : tabC rowsID 36 = row3 shC shM shF fun c m f => some (sv (riStep c m f)) := rfl
theorem ID_82 : tabC rowsID 82 = row2 shFs shI fun l i => if l.length ≤ 1000 then some (.tup [fv (nextP i l).1, fs (nextP i l).2]) else none := rfl
theorem ID_78 : tabC rowsID 78 = fun _ => none := rfl
theorem ID_81 : tabC rowsID 81 = fun _ => none := rfl
theorem ID_98 : tabC rowsID 98 = fun _ => none := rfl
theorem ID_79 : tabC rowsID 79 = fun _ => none := rfl
theorem ID_87 : tabC rowsID 87 = fun _ => none := rfl
theorem ID_80 : tabC rowsID 80 = fun _ => none := rfl
theorem ID_97 : tabC rowsID 97 = fun _ => none := rfl
theorem ID_19 : tabC rowsID 19 = row2 shC shM fun c m => some (lv (qList c m)) := rfl
theorem ID_20 : tabC rowsID 20 = row2 shC shM fun c m => some (lv (rqList c m)) := rfl
theorem ID_17 : tabC rowsID 17 = row3 shC shM shF fun c m f => some (sv (qStep c m f)) := rfl
theorem ID_18 : tabC rowsID 18 = row3 shC shM shF fun c m f => some (sv (rqStep c m f)) := rfl
theorem ID_60 : tabC rowsID 60 = fun _ => none := rfl
theorem ID_94 : tabC rowsID 94 = fun _ => none := rfl
theorem ID_47 : tabC rowsID 47 = row2 shC shN fun c x => if 1 ≤ c.i ∧ c.i ≤ 16 then some (u (qFull c x)) else none := rfl
theorem ID_96 : tabC rowsID 96 = freeRow := rfl
theorem ID_23 : tabC rowsID 23 = row4 shC shM shF shI fun c m f op => some (bv (goesE c m f op)) := rfl
theorem ID_52 : tabC rowsID 52 = row4 shC shM shF shI fun c m f op => some (bv (goesE c m f op)) := rfl
theorem ID_26 : tabC rowsID 26 = row2 shC shM fun c m => some (iv (eLen c m)) := rfl
theorem ID_61 : tabC rowsID 61 = row2 shC shM fun c m => some (iv (eLen c m)) := rfl
theorem ID_62 : tabC rowsID 62 = fun _ => none := rfl
theorem ID_67 : tabC rowsID 67 = fun _ => none := rfl
theorem ID_68 : tabC rowsID 68 = fun _ => none := rfl
theorem ID_69 : tabC rowsID 69 = fun _ => none := rfl
theorem ID_70 : tabC rowsID 70 = fun _ => none := rfl
theorem ID_71 : tabC rowsID 71 = fun _ => none := rfl
theorem ID_72 : tabC rowsID 72 = fun _ => none := rfl
theorem ID_44 : tabC rowsID 44 = row1 shM fun m => some (ms m) := rfl
theorem ID_57 : tabC rowsID 57 = row4 shM shI shN shN fun m i v w => some (.tup [ms (mCas m i v w), bv (mCasB m i v)]) := rfl
theorem ID_45 : tabC rowsID 45 = row2 shM shI fun m i => some (u (mLoad m i)) := rfl
theorem ID_51 : tabC rowsID 51 = row3 shM shI shN fun m i v => some (ms (mStore m i v)) := rfl
theorem ID_49 : tabC rowsID 49 = row4 shM shI shN shN fun m i v w => some (.tup [ms (mCas m i v w), bv (mCasB m i v)]) := rfl
theorem ID_53 : tabC rowsID 53 = row2 shM shI fun m i => some (u (mLoad m i)) := rfl
theorem ID_21 : tabC rowsID 21 = row2 shM shM fun a b => some (bv (decide (a = b))) := rfl
theorem ID_59 : tabC rowsID 59 = row3 shM shI shN fun m i v => some (ms (mStore m i v)) := rfl
theorem ID_66 : tabC rowsID 66 = row1 shC fun c => some (iv (lSize c)) := rfl
theorem ID_88 : tabC rowsID 88 = row1 shC fun c => some (iv (lSize c)) := rfl
theorem ID_27 : tabC rowsID 27 = row1 shC fun c => some (bv (mayC c)) := rfl
theorem ID_46 : tabC rowsID 46 = row2 shN shN fun a b => some (iv (far a b)) := rfl
theorem ID_83 : tabC rowsID 83 = row1 shC fun c => some (bv (mayC c)) := rfl
theorem ID_55 : tabC rowsID 55 = row2 shN shN fun a b => some (iv (far a b)) := rfl
theorem ID_95 : tabC rowsID 95 = row2 shC shI fun c w => if mayC c = true ∧ 0 ≤ w ∧ w ≤ 8 then some (iv (lBase c w)) else none := rfl
theorem ID_63 : tabC rowsID 63 = fun _ => none := rfl
theorem ID_65 : tabC rowsID 65 = fun _ => none := rfl
theorem ID_86 : tabC rowsID 86 = row1 shF fun f => some (bv (f.res != 0)) := rfl
theorem ID_56 : tabC rowsID 56 = row3 shF shI shN fun f r v => some (fv (fEnd f r v)) := rfl
theorem ID_22 : tabC rowsID 22 = row2 shM shM fun a b => some (bv (decide (a = b))) := rfl
theorem ID_25 : tabC rowsID 25 = row3 shI shI shN fun o w v => some (fv (fBegin o w v)) := rfl
theorem ID_31 : tabC rowsID 31 = row1 shF fun f => some (bv (f.res != 0)) := rfl
theorem ID_48 : tabC rowsID 48 = row3 shF shI shN fun f r v => some (fv (fEnd f r v)) := rfl
theorem ID_74 : tabC rowsID 74 = fun _ => none := rfl
theorem ID_75 : tabC rowsID 75 = fun _ => none := rfl
theorem ID_76 : tabC rowsID 76 = fun _ => none := rfl
theorem ID_73 : tabC rowsID 73 = fun _ => none := rfl
theorem ID_24 : tabC rowsID 24 = row2 shC shN fun c x => some (iv (eSeq c x)) := rfl
theorem ID_50 : tabC rowsID 50 = row2 shC shN fun c x => some (iv (eVal c x)) := rfl
theorem ID_54 : tabC rowsID 54 = row2 shC shN fun c x => some (iv (eSeq c x)) := rfl
theorem ID_58 : tabC rowsID 58 = row2 shC shN fun c x => some (iv (eVal c x)) := rfl
theorem ID_30 : tabC rowsID 30 = row3 shC shM shF fun c m f => some (sv (eStep c m f)) := rfl
theorem ID_77 : tabC rowsID 77 = row3 shC shM shF fun c m f => some (sv (eStep c m f)) := rfl
theorem ID_28 : tabC rowsID 28 = row1 shC fun c => some (ms (zeros (lSize c).toNat)) := rfl
theorem ID_all : type_of% (And.intro ID_33 <| And.intro ID_37 <| And.intro ID_38 <| And.intro ID_39 <| And.intro ID_40 <| And.intro ID_41 <| And.intro ID_34 <| And.intro ID_85 <| And.intro ID_84 <| And.intro ID_100 <| And.intro ID_35 <| And.intro ID_36 <| And.intro ID_82 <| And.intro ID_78 <| And.intro ID_81 <| And.intro ID_98 <| And.intro ID_79 <| And.intro ID_87 <| And.intro ID_80 <| And.intro ID_97 <| And.intro ID_19 <| And.intro ID_20 <| And.intro ID_17 <| And.intro ID_18 <| And.intro ID_60 <| And.intro ID_94 <| And.intro ID_47 <| And.intro ID_96 <| And.intro ID_23 <| And.intro ID_52 <| And.intro ID_26 <| And.intro ID_61 <| And.intro ID_62 <| And.intro ID_67 <| And.intro ID_68 <| And.intro ID_69 <| And.intro ID_70 <| And.intro ID_71 <| And.intro ID_72 <| And.intro ID_44 <| And.intro ID_57 <| And.intro ID_45 <| And.intro ID_51 <| And.intro ID_49 <| And.intro ID_53 <| And.intro ID_21 <| And.intro ID_59 <| And.intro ID_66 <| And.intro ID_88 <| And.intro ID_27 <| And.intro ID_46 <| And.intro ID_83 <| And.intro ID_55 <| And.intro ID_95 <| And.intro ID_63 <| And.intro ID_65 <| And.intro ID_86 <| And.intro ID_56 <| And.intro ID_22 <| And.intro ID_25 <| And.intro ID_31 <| And.intro ID_48 <| And.intro ID_74 <| And.intro ID_75 <| And.intro ID_76 <| And.intro ID_73 <| And.intro ID_24 <| And.intro ID_50 <| And.intro ID_54 <| And.intro ID_58 <| And.intro ID_30 <| And.intro ID_77 <| ID_28) := And.intro ID_33 <| And.intro ID_37 <| And.intro ID_38 <| And.intro ID_39 <| And.intro ID_40 <| And.intro ID_41 <| And.intro ID_34 <| And.intro ID_85 <| And.intro ID_84 <| And.intro ID_100 <| And.intro ID_35 <| And.intro ID_36 <| And.intro ID_82 <| And.intro ID_78 <| And.intro ID_81 <| And.intro ID_98 <| And.intro ID_79 <| And.intro ID_87 <| And.intro ID_80 <| And.intro ID_97 <| And.intro ID_19 <| And.intro ID_20 <| And.intro ID_17 <| And.intro ID_18 <| And.intro ID_60 <| And.intro ID_94 <| And.intro ID_47 <| And.intro ID_96 <| And.intro ID_23 <| And.intro ID_52 <| And.intro ID_26 <| And.intro ID_61 <| And.intro ID_62 <| And.intro ID_67 <| And.intro ID_68 <| And.intro ID_69 <| And.intro ID_70 <| And.intro ID_71 <| And.intro ID_72 <| And.intro ID_44 <| And.intro ID_57 <| And.intro ID_45 <| And.intro ID_51 <| And.intro ID_49 <| And.intro ID_53 <| And.intro ID_21 <| And.intro ID_59 <| And.intro ID_66 <| And.intro ID_88 <| And.intro ID_27 <| And.intro ID_46 <| And.intro ID_83 <| And.intro ID_55 <| And.intro ID_95 <| And.intro ID_63 <| And.intro ID_65 <| And.intro ID_86 <| And.intro ID_56 <| And.intro ID_22 <| And.intro ID_25 <| And.intro ID_31 <| And.intro ID_48 <| And.intro ID_74 <| And.intro ID_75 <| And.intro ID_76 <| And.intro ID_73 <| And.intro ID_24 <| And.intro ID_50 <| And.intro ID_54 <| And.intro ID_58 <| And.intro ID_30 <| And.intro ID_77 <| ID_28

theorem tells13_law (c : Cf) (m : List Int) (f : Fr) (calls : List (List Fr)) (who : List Int) (hand : List Fr) (hm : InM m) (hc : ∀ l ∈ calls, ∀ y ∈ l, y.wf) (hh : ∀ y ∈ hand, y.wf) :
    PureC Try.prog 9 [cv' c, ms m, fv f, fss calls, zs who, fs hand] (bv true) := by
  refine pure_sub okID 1 Try.func9 rfl (by show 6 ≤ _; decide) ?_
  have hcu : ∀ l ∈ calls, VU l := fun l hl x hx => (hc l hl x hx).2.2.2.1
  have hhu : VU hand := fun x hx => (hh x hx).2.2.2.1
  cases hf : fewC calls with
  | false =>
    simp only [Try.f9, ID_all, hf, inl, fss, fs, zs, sv, fv, rf1, List.set_set, T52, T50, T51, hfree_fr, hfree_cf, cv', cf_eta, frz_u, shC_dec, dC, T23, T28, T25, hfree_lu, hfree_l0, row0, row1, row2, row3, row4, row5, shI_dec, shN_dec, shB_dec, shM_dec, dI, dN, dB, dM, dU, dU_map, iv, bv, u, ms, ctx_T, ctx_C, ctx_P, T4, T3, T26, Option.bind_some, Option.bind_none, Option.map_some, List.length_map, List.length_set, String.reduceBEq, Int.toNat_natCast, Bool.true_beq, Bool.false_beq, T24, shF_dec, dF, fr_eta, Int.cast_ofNat_Int, Int.reduceSub, Int.reduceAdd, Int.reduceNeg, ev1, ev2, implies_true, undef, stepP, dynCall, ↓condE_t, ↓condE_f, ↓guardE_tt, ↓guardE_ff, ↓guardE_tf, ↓guardE_ft, frzDeep, deepArgs, deepArg, resB, cv, stepB, stepE, callD, tabD, snapD, snap1, snapC, snapId, snapIds, guardB, guardC, dstAt, aopR, one, pre, binR, intOpR, shiftOpR, unR, argFrm, evo, lkp, hlk, lenOf, asLst, idOf, bndA, srcOk, ofVal, ofCells, setCells, fillA, setElems, fieldsOf, fieldsEq, scalEq, isEq, AV.wr, AV.ok1, TK.agg, frz, frzs, frzA, frzArg, frzArgs, subA, subL, sub1, kp, kh, accOf, List.replicate, Nat.reduceAdd, Nat.reduceSub, Nat.reduceMul, Nat.reduceEqDiff, Nat.reduceLT, Nat.reduceLeDiff, Nat.reduceBEq, reduceIte, reduceCtorEq, eq_self, ne_eq, Int.reduceToNat, Int.reduceLT, Int.reduceLE, Int.reduceGT, Int.reduceGE, Int.reduceBEq, Int.reduceBNe, Int.reduceEq, Int.reduceNe]
    all_goals ((repeat' apply And.intro) <;> first | rfl | omega | (show entryOk _ _ _ _ _ = true; kernel_rfl) | (show pivotOk _ _ = true; kernel_rfl) | decide)
  | true =>
    obtain ⟨hc1, hc2⟩ := fewC_short hf
    by_cases h1 : m.length ≤ 500
    · have h1' : ¬ (m.length : Int) > 500 := by omega
      by_cases h2 : who.length ≤ 500
      · have h2' : ¬ (who.length : Int) > 500 := by omega
        by_cases h3 : hand.length ≤ 10
        · have h3' : ¬ (hand.length : Int) > 10 := by omega
          have k1 : m.length ≤ 1000 := by omega
          have k2 : (calls.length ≤ 1000 ∧ Short 1000 calls ∧ who.length ≤ 1000) = True := eq_true ⟨by omega, hc2, by omega⟩
          have k3 : hand.length ≤ 1000 := by omega
          have e1 : riStep c m f = iStep c m f := riStep_eq hm f
          have e2 : rPlay c.i calls who = iPlay c.i calls who := rPlay_eq hcu
          have e4 : rRest c.i m hand = iRest c.i m hand := rRest_eq hm hhu
          have lp := len_iPlay c.i calls who
          have up := iPlay_u (room := c.i) (who := who) hcu
          have lr := len_iRest c.i m hand
          have ls := len_iStep c m f
          obtain ⟨sm, sf, f1⟩ : ∃ a b, iStep c m f = (a, b) := ⟨_, _, rfl⟩
          obtain ⟨pm, po, ph, f2⟩ : ∃ a b d, iPlay c.i calls who = (a, b, d) := ⟨_, _, _, rfl⟩
          obtain ⟨rm, rh, f3⟩ : ∃ a b, iRest c.i m hand = (a, b) := ⟨_, _, rfl⟩
          obtain ⟨xm, xh, f4⟩ : ∃ a b, iRest c.i pm ph = (a, b) := ⟨_, _, rfl⟩
          have lx := len_iRest c.i pm ph
          rw [f2] at lp up
          rw [f3] at lr
          rw [f1] at ls
          rw [f4] at lx
          dsimp only at lp up lr ls lx
          have e5 : rRest c.i pm ph = iRest c.i pm ph := rRest_eq up.1 up.2
          have q1 : sm.length ≤ 1000 := by omega
          have q2 : pm.length ≤ 1000 := by omega
          have q3 : po.length ≤ 1000 := by omega
          have q4 : ph.length ≤ 1000 := by omega
          have q5 : rm.length ≤ 1000 := by omega
          have q6 : rh.length ≤ 1000 := by omega
          have q7 : xm.length ≤ 1000 := by omega
          have q8 : xh.length ≤ 1000 := by omega
          simp only [Try.f9, ID_all, hf, h1', h2', h3', k1, k2, k3, e1, e2, e4, e5, f1, f2, f3, f4, q1, q2, q3, q4, q5, q6, q7, q8, inl, fss, fs, zs, sv, fv, rf1, List.set_set, T52, T50, T51, hfree_fr, hfree_cf, cv', cf_eta, frz_u, shC_dec, dC, T23, T28, T25, hfree_lu, hfree_l0, row0, row1, row2, row3, row4, row5, shI_dec, shN_dec, shB_dec, shM_dec, dI, dN, dB, dM, dU, dU_map, iv, bv, u, ms, ctx_T, ctx_C, ctx_P, T4, T3, T26, Option.bind_some, Option.bind_none, Option.map_some, List.length_map, List.length_set, String.reduceBEq, Int.toNat_natCast, Bool.true_beq, Bool.false_beq, T24, shF_dec, dF, fr_eta, Int.cast_ofNat_Int, Int.reduceSub, Int.reduceAdd, Int.reduceNeg, ev1, ev2, implies_true, undef, stepP, dynCall, ↓condE_t, ↓condE_f, ↓guardE_tt, ↓guardE_ff, ↓guardE_tf, ↓guardE_ft, frzDeep, deepArgs, deepArg, resB, cv, stepB, stepE, callD, tabD, snapD, snap1, snapC, snapId, snapIds, guardB, guardC, dstAt, aopR, one, pre, binR, intOpR, shiftOpR, unR, argFrm, evo, lkp, hlk, lenOf, asLst, idOf, bndA, srcOk, ofVal, ofCells, setCells, fillA, setElems, fieldsOf, fieldsEq, scalEq, isEq, AV.wr, AV.ok1, TK.agg, frz, frzs, frzA, frzArg, frzArgs, subA, subL, sub1, kp, kh, accOf, List.replicate, Nat.reduceAdd, Nat.reduceSub, Nat.reduceMul, Nat.reduceEqDiff, Nat.reduceLT, Nat.reduceLeDiff, Nat.reduceBEq, reduceIte, reduceCtorEq, eq_self, ne_eq, Int.reduceToNat, Int.reduceLT, Int.reduceLE, Int.reduceGT, Int.reduceGE, Int.reduceBEq, Int.reduceBNe, Int.reduceEq, Int.reduceNe]
          all_goals ((repeat' apply And.intro) <;> first | rfl | omega | (show entryOk _ _ _ _ _ = true; kernel_rfl) | (show pivotOk _ _ = true; kernel_rfl) | decide)
        · have h3' : (hand.length : Int) > 10 := by omega
          simp only [Try.f9, ID_all, hf, h1', h2', h3', inl, fss, fs, zs, sv, fv, rf1, List.set_set, T52, T50, T51, hfree_fr, hfree_cf, cv', cf_eta, frz_u, shC_dec, dC, T23, T28, T25, hfree_lu, hfree_l0, row0, row1, row2, row3, row4, row5, shI_dec, shN_dec, shB_dec, shM_dec, dI, dN, dB, dM, dU, dU_map, iv, bv, u, ms, ctx_T, ctx_C, ctx_P, T4, T3, T26, Option.bind_some, Option.bind_none, Option.map_some, List.length_map, List.length_set, String.reduceBEq, Int.toNat_natCast, Bool.true_beq, Bool.false_beq, T24, shF_dec, dF, fr_eta, Int.cast_ofNat_Int, Int.reduceSub, Int.reduceAdd, Int.reduceNeg, ev1, ev2, implies_true, undef, stepP, dynCall, ↓condE_t, ↓condE_f, ↓guardE_tt, ↓guardE_ff, ↓guardE_tf, ↓guardE_ft, frzDeep, deepArgs, deepArg, resB, cv, stepB, stepE, callD, tabD, snapD, snap1, snapC, snapId, snapIds, guardB, guardC, dstAt, aopR, one, pre, binR, intOpR, shiftOpR, unR, argFrm, evo, lkp, hlk, lenOf, asLst, idOf, bndA, srcOk, ofVal, ofCells, setCells, fillA, setElems, fieldsOf, fieldsEq, scalEq, isEq, AV.wr, AV.ok1, TK.agg, frz, frzs, frzA, frzArg, frzArgs, subA, subL, sub1, kp, kh, accOf, List.replicate, Nat.reduceAdd, Nat.reduceSub, Nat.reduceMul, Nat.reduceEqDiff, Nat.reduceLT, Nat.reduceLeDiff, Nat.reduceBEq, reduceIte, reduceCtorEq, eq_self, ne_eq, Int.reduceToNat, Int.reduceLT, Int.reduceLE, Int.reduceGT, Int.reduceGE, Int.reduceBEq, Int.reduceBNe, Int.reduceEq, Int.reduceNe]
          all_goals ((repeat' apply And.intro) <;> first | rfl | omega | (show entryOk _ _ _ _ _ = true; kernel_rfl) | (show pivotOk _ _ = true; kernel_rfl) | decide)
      · have h2' : (who.length : Int) > 500 := by omega
        simp only [Try.f9, ID_all, hf, h1', h2', inl, fss, fs, zs, sv, fv, rf1, List.set_set, T52, T50, T51, hfree_fr, hfree_cf, cv', cf_eta, frz_u, shC_dec, dC, T23, T28, T25, hfree_lu, hfree_l0, row0, row1, row2, row3, row4, row5, shI_dec, shN_dec, shB_dec, shM_dec, dI, dN, dB, dM, dU, dU_map, iv, bv, u, ms, ctx_T, ctx_C, ctx_P, T4, T3, T26, Option.bind_some, Option.bind_none, Option.map_some, List.length_map, List.length_set, String.reduceBEq, Int.toNat_natCast, Bool.true_beq, Bool.false_beq, T24, shF_dec, dF, fr_eta, Int.cast_ofNat_Int, Int.reduceSub, Int.reduceAdd, Int.reduceNeg, ev1, ev2, implies_true, undef, stepP, dynCall, ↓condE_t, ↓condE_f, ↓guardE_tt, ↓guardE_ff, ↓guardE_tf, ↓guardE_ft, frzDeep, deepArgs, deepArg, resB, cv, stepB, stepE, callD, tabD, snapD, snap1, snapC, snapId, snapIds, guardB, guardC, dstAt, aopR, one, pre, binR, intOpR, shiftOpR, unR, argFrm, evo, lkp, hlk, lenOf, asLst, idOf, bndA, srcOk, ofVal, ofCells, setCells, fillA, setElems, fieldsOf, fieldsEq, scalEq, isEq, AV.wr, AV.ok1, TK.agg, frz, frzs, frzA, frzArg, frzArgs, subA, subL, sub1, kp, kh, accOf, List.replicate, Nat.reduceAdd, Nat.reduceSub, Nat.reduceMul, Nat.reduceEqDiff, Nat.reduceLT, Nat.reduceLeDiff, Nat.reduceBEq, reduceIte, reduceCtorEq, eq_self, ne_eq, Int.reduceToNat, Int.reduceLT, Int.reduceLE, Int.reduceGT, Int.reduceGE, Int.reduceBEq, Int.reduceBNe, Int.reduceEq, Int.reduceNe]
        all_goals ((repeat' apply And.intro) <;> first | rfl | omega | (show entryOk _ _ _ _ _ = true; kernel_rfl) | (show pivotOk _ _ = true; kernel_rfl) | decide)
    · have h1' : (m.length : Int) > 500 := by omega
      simp only [Try.f9, ID_all, hf, h1', inl, fss, fs, zs, sv, fv, rf1, List.set_set, T52, T50, T51, hfree_fr, hfree_cf, cv', cf_eta, frz_u, shC_dec, dC, T23, T28, T25, hfree_lu, hfree_l0, row0, row1, row2, row3, row4, row5, shI_dec, shN_dec, shB_dec, shM_dec, dI, dN, dB, dM, dU, dU_map, iv, bv, u, ms, ctx_T, ctx_C, ctx_P, T4, T3, T26, Option.bind_some, Option.bind_none, Option.map_some, List.length_map, List.length_set, String.reduceBEq, Int.toNat_natCast, Bool.true_beq, Bool.false_beq, T24, shF_dec, dF, fr_eta, Int.cast_ofNat_Int, Int.reduceSub, Int.reduceAdd, Int.reduceNeg, ev1, ev2, implies_true, undef, stepP, dynCall, ↓condE_t, ↓condE_f, ↓guardE_tt, ↓guardE_ff, ↓guardE_tf, ↓guardE_ft, frzDeep, deepArgs, deepArg, resB, cv, stepB, stepE, callD, tabD, snapD, snap1, snapC, snapId, snapIds, guardB, guardC, dstAt, aopR, one, pre, binR, intOpR, shiftOpR, unR, argFrm, evo, lkp, hlk, lenOf, asLst, idOf, bndA, srcOk, ofVal, ofCells, setCells, fillA, setElems, fieldsOf, fieldsEq, scalEq, isEq, AV.wr, AV.ok1, TK.agg, frz, frzs, frzA, frzArg, frzArgs, subA, subL, sub1, kp, kh, accOf, List.replicate, Nat.reduceAdd, Nat.reduceSub, Nat.reduceMul, Nat.reduceEqDiff, Nat.reduceLT, Nat.reduceLeDiff, Nat.reduceBEq, reduceIte, reduceCtorEq, eq_self, ne_eq, Int.reduceToNat, Int.reduceLT, Int.reduceLE, Int.reduceGT, Int.reduceGE, Int.reduceBEq, Int.reduceBNe, Int.reduceEq, Int.reduceNe]
      all_goals ((repeat' apply And.intro) <;> first | rfl | omega | (show entryOk _ _ _ _ _ = true; kernel_rfl) | (show pivotOk _ _ = true; kernel_rfl) | decide)
end Go.Vai
