/- The evaluator, the plain texts and the contracts that this claim leans on, part BD: nothing of the statement is claimed here. -/
import Derived.Test.YtppacheibhanbaaBC
/- The cells' layer: what its functions compute. -/
namespace Go.Vai
open Go.RowKit Go.Proofs

set_option linter.unusedSimpArgs false
set_option linter.unusedVariables false
set_option maxHeartbeats 4000000
set_option maxRecDepth 100000

theorem is_pure (m : List Int) (i : Int) : PureC Try.prog 81 [ms m, iv i] (bv (isIn m i)) := by
  refine pure_sub ok0 0 Try.func81 rfl (by show 2 ≤ 13; omega) ?_
  simp only [Try.f81, ms, iv, bv, ctx_T, ctx_C, ctx_P, T4, T3, T25, List.length_map, ev1, ev2, implies_true, undef, stepP, drawB, stepL, lateB, lateB0, rdsT, rdsAny, isRd, afterL, preB, callLB, callLV, lateV, dstV, dynCall, ↓condE_t, ↓condE_f, ↓guardE_tt, ↓guardE_ff, ↓guardE_tf, ↓guardE_ft, frzDeep, deepArgs, deepArg, resB, cv, stepB, stepE, callD, tabD, snapD, snap1, snapC, snapId, snapIds, guardB, guardC, dstAt, aopR, one, pre, binR, intOpR, shiftOpR, unR, argFrm, evo, lkp, hlk, lenOf, asLst, idOf, bndA, srcOk, ofVal, ofCells, setCells, fillA, setElems, fieldsOf, fieldsEq, scalEq, isEq, AV.wr, AV.ok1, TK.agg, frz, frzs, frzA, frzArg, frzArgs, subA, subL, sub1, kp, kh, accOf, List.replicate, Nat.reduceAdd, Nat.reduceSub, Nat.reduceMul, Nat.reduceEqDiff, Nat.reduceLT, Nat.reduceLeDiff, Nat.reduceBEq, reduceIte, reduceCtorEq, eq_self, ne_eq, Int.reduceToNat, Int.reduceLT, Int.reduceLE, Int.reduceGT, Int.reduceGE, Int.reduceBEq, Int.reduceBNe, Int.reduceEq, Int.reduceNe]
  refine ⟨fun h => ?_, fun h => ?_⟩ <;> simp at h <;> simp [isIn] <;> omega

def rows1 : List Row := [(81, rMI fun m i => bv (isIn m i))]
theorem ok1 : (ctx Try.prog rows1).ok := rows_ok fun p h => by
  simp only [rows1, List.mem_cons, List.not_mem_nil, or_false] at h
  rcases h with rfl
  exact ok_MI (enters_of Try.func81 (by decide) rfl) fun m i _ => is_pure m i

theorem load_pure (m : List Int) (i : Int) (hm : m.length ≤ 1000) : PureC Try.prog 46 [ms m, iv i] (u (mLoad m i)) := by
  refine pure_sub ok1 1 Try.func46 rfl (by show 2 ≤ 13; omega) ?_
  cases hin : isIn m i with
  | false =>
    simp only [Try.f46, ms, iv, bv, u, ctx_T, ctx_C, ctx_P, T4, T3, T26, T25, tabC, rows1, List.lookup_cons, Option.bind_some, rMI_eq, hm, hin, mLoad, List.length_map, ev1, ev2, implies_true, undef, stepP, drawB, stepL, lateB, lateB0, rdsT, rdsAny, isRd, afterL, preB, callLB, callLV, lateV, dstV, dynCall, ↓condE_t, ↓condE_f, ↓guardE_tt, ↓guardE_ff, ↓guardE_tf, ↓guardE_ft, frzDeep, deepArgs, deepArg, resB, cv, stepB, stepE, callD, tabD, snapD, snap1, snapC, snapId, snapIds, guardB, guardC, dstAt, aopR, one, pre, binR, intOpR, shiftOpR, unR, argFrm, evo, lkp, hlk, lenOf, asLst, idOf, bndA, srcOk, ofVal, ofCells, setCells, fillA, setElems, fieldsOf, fieldsEq, scalEq, isEq, AV.wr, AV.ok1, TK.agg, frz, frzs, frzA, frzArg, frzArgs, subA, subL, sub1, kp, kh, accOf, List.replicate, Nat.reduceAdd, Nat.reduceSub, Nat.reduceMul, Nat.reduceEqDiff, Nat.reduceLT, Nat.reduceLeDiff, Nat.reduceBEq, reduceIte, reduceCtorEq, eq_self, ne_eq, Int.reduceToNat, Int.reduceLT, Int.reduceLE, Int.reduceGT, Int.reduceGE, Int.reduceBEq, Int.reduceBNe, Int.reduceEq, Int.reduceNe]
  | true =>
    obtain ⟨h1, h2, h3⟩ := isIn_true hin
    simp only [Try.f46, ms, iv, bv, u, ctx_T, ctx_C, ctx_P, T4, T3, T26, T25, tabC, rows1, List.lookup_cons, Option.bind_some, rMI_eq, hm, hin, h1, h2, h3, getD_u, mLoad, List.length_map, ev1, ev2, implies_true, undef, stepP, drawB, stepL, lateB, lateB0, rdsT, rdsAny, isRd, afterL, preB, callLB, callLV, lateV, dstV, dynCall, ↓condE_t, ↓condE_f, ↓guardE_tt, ↓guardE_ff, ↓guardE_tf, ↓guardE_ft, frzDeep, deepArgs, deepArg, resB, cv, stepB, stepE, callD, tabD, snapD, snap1, snapC, snapId, snapIds, guardB, guardC, dstAt, aopR, one, pre, binR, intOpR, shiftOpR, unR, argFrm, evo, lkp, hlk, lenOf, asLst, idOf, bndA, srcOk, ofVal, ofCells, setCells, fillA, setElems, fieldsOf, fieldsEq, scalEq, isEq, AV.wr, AV.ok1, TK.agg, frz, frzs, frzA, frzArg, frzArgs, subA, subL, sub1, kp, kh, accOf, List.replicate, Nat.reduceAdd, Nat.reduceSub, Nat.reduceMul, Nat.reduceEqDiff, Nat.reduceLT, Nat.reduceLeDiff, Nat.reduceBEq, reduceIte, reduceCtorEq, eq_self, ne_eq, Int.reduceToNat, Int.reduceLT, Int.reduceLE, Int.reduceGT, Int.reduceGE, Int.reduceBEq, Int.reduceBNe, Int.reduceEq, Int.reduceNe]

theorem store_pure (m : List Int) (i v : Int) (hm : m.length ≤ 1000) : PureC Try.prog 61 [ms m, iv i, u v] (ms (mStore m i v)) := by
  refine pure_sub ok1 4 Try.func61 rfl (by show 3 ≤ _; decide) ?_
  have hb : m.length * 8 ≤ 140737488355328 := by omega
  cases hin : isIn m i with
  | false =>
    simp only [Try.f61, Try.func86, Try.f86, Try.func28, Try.f28, Try.func87, Try.f87, inl, ms, iv, bv, u, ctx_T, ctx_C, ctx_P, T4, T3, T26, T25, tabC, rows1, List.lookup_cons, List.lookup_nil, Option.bind_some, Option.bind_none, rMI_eq, hm, hb, hin,  List.length_map, List.length_set, take_u, set_u, hf_u, mStore, String.reduceBEq, ev1, ev2, implies_true, undef, stepP, drawB, stepL, lateB, lateB0, rdsT, rdsAny, isRd, afterL, preB, callLB, callLV, lateV, dstV, dynCall, ↓condE_t, ↓condE_f, ↓guardE_tt, ↓guardE_ff, ↓guardE_tf, ↓guardE_ft, frzDeep, deepArgs, deepArg, resB, cv, stepB, stepE, callD, tabD, snapD, snap1, snapC, snapId, snapIds, guardB, guardC, dstAt, aopR, one, pre, binR, intOpR, shiftOpR, unR, argFrm, evo, lkp, hlk, lenOf, asLst, idOf, bndA, srcOk, ofVal, ofCells, setCells, fillA, setElems, fieldsOf, fieldsEq, scalEq, isEq, AV.wr, AV.ok1, TK.agg, frz, frzs, frzA, frzArg, frzArgs, subA, subL, sub1, kp, kh, accOf, List.replicate, Nat.reduceAdd, Nat.reduceSub, Nat.reduceMul, Nat.reduceEqDiff, Nat.reduceLT, Nat.reduceLeDiff, Nat.reduceBEq, reduceIte, reduceCtorEq, eq_self, ne_eq, Int.reduceToNat, Int.reduceLT, Int.reduceLE, Int.reduceGT, Int.reduceGE, Int.reduceBEq, Int.reduceBNe, Int.reduceEq, Int.reduceNe]
    simp
  | true =>
    obtain ⟨h1, h2, h3⟩ := isIn_true hin
    have hn := ne_u h3
    simp only [Try.f61, Try.func86, Try.f86, Try.func28, Try.f28, Try.func87, Try.f87, inl, ms, iv, bv, u, ctx_T, ctx_C, ctx_P, T4, T3, T26, T25, tabC, rows1, List.lookup_cons, List.lookup_nil, Option.bind_some, Option.bind_none, rMI_eq, hm, hb, hin, h1, h2, h3, hn, getD_u, take_us, List.length_map, List.length_set, take_u, set_u, hf_u, mStore, String.reduceBEq, ev1, ev2, implies_true, undef, stepP, drawB, stepL, lateB, lateB0, rdsT, rdsAny, isRd, afterL, preB, callLB, callLV, lateV, dstV, dynCall, ↓condE_t, ↓condE_f, ↓guardE_tt, ↓guardE_ff, ↓guardE_tf, ↓guardE_ft, frzDeep, deepArgs, deepArg, resB, cv, stepB, stepE, callD, tabD, snapD, snap1, snapC, snapId, snapIds, guardB, guardC, dstAt, aopR, one, pre, binR, intOpR, shiftOpR, unR, argFrm, evo, lkp, hlk, lenOf, asLst, idOf, bndA, srcOk, ofVal, ofCells, setCells, fillA, setElems, fieldsOf, fieldsEq, scalEq, isEq, AV.wr, AV.ok1, TK.agg, frz, frzs, frzA, frzArg, frzArgs, subA, subL, sub1, kp, kh, accOf, List.replicate, Nat.reduceAdd, Nat.reduceSub, Nat.reduceMul, Nat.reduceEqDiff, Nat.reduceLT, Nat.reduceLeDiff, Nat.reduceBEq, reduceIte, reduceCtorEq, eq_self, ne_eq, Int.reduceToNat, Int.reduceLT, Int.reduceLE, Int.reduceGT, Int.reduceGE, Int.reduceBEq, Int.reduceBNe, Int.reduceEq, Int.reduceNe]
    exact Nat.le_refl _


theorem cas_pure (m : List Int) (i v w : Int) (hm : m.length ≤ 1000) : PureC Try.prog 63 [ms m, iv i, u v, u w] (.tup [ms (mCas m i v w), bv (mCasB m i v)]) := by
  refine pure_sub ok1 4 Try.func63 rfl (by show 4 ≤ _; decide) ?_
  have hb : m.length * 8 ≤ 140737488355328 := by omega
  cases hin : isIn m i with
  | false =>
    simp only [Try.f63, Try.func86, Try.f86, Try.func28, Try.f28, Try.func88, Try.f88, inl, ms, iv, bv, u, ctx_T, ctx_C, ctx_P, T4, T3, T26, T25, tabC, rows1, List.lookup_cons, List.lookup_nil, Option.bind_some, Option.bind_none, rMI_eq, hm, hb, hin, mCas, mCasB, mLoad,  List.length_map, List.length_set, take_u, set_u, hf_u, mStore, String.reduceBEq, ev1, ev2, implies_true, undef, stepP, drawB, stepL, lateB, lateB0, rdsT, rdsAny, isRd, afterL, preB, callLB, callLV, lateV, dstV, dynCall, ↓condE_t, ↓condE_f, ↓guardE_tt, ↓guardE_ff, ↓guardE_tf, ↓guardE_ft, frzDeep, deepArgs, deepArg, resB, cv, stepB, stepE, callD, tabD, snapD, snap1, snapC, snapId, snapIds, guardB, guardC, dstAt, aopR, one, pre, binR, intOpR, shiftOpR, unR, argFrm, evo, lkp, hlk, lenOf, asLst, idOf, bndA, srcOk, ofVal, ofCells, setCells, fillA, setElems, fieldsOf, fieldsEq, scalEq, isEq, AV.wr, AV.ok1, TK.agg, frz, frzs, frzA, frzArg, frzArgs, subA, subL, sub1, kp, kh, accOf, List.replicate, Nat.reduceAdd, Nat.reduceSub, Nat.reduceMul, Nat.reduceEqDiff, Nat.reduceLT, Nat.reduceLeDiff, Nat.reduceBEq, reduceIte, reduceCtorEq, eq_self, ne_eq, Int.reduceToNat, Int.reduceLT, Int.reduceLE, Int.reduceGT, Int.reduceGE, Int.reduceBEq, Int.reduceBNe, Int.reduceEq, Int.reduceNe]
    simp
  | true =>
    obtain ⟨h1, h2, h3⟩ := isIn_true hin
    have hn := ne_u h3
    simp only [Try.f63, Try.func86, Try.f86, Try.func28, Try.f28, Try.func88, Try.f88, inl, ms, iv, bv, u, ctx_T, ctx_C, ctx_P, T4, T3, T26, T25, tabC, rows1, List.lookup_cons, List.lookup_nil, Option.bind_some, Option.bind_none, rMI_eq, hm, hb, hin, mCas, mCasB, mLoad, h1, h2, h3, hn, getD_u, take_us, List.length_map, List.length_set, take_u, set_u, hf_u, mStore, String.reduceBEq, ev1, ev2, implies_true, undef, stepP, drawB, stepL, lateB, lateB0, rdsT, rdsAny, isRd, afterL, preB, callLB, callLV, lateV, dstV, dynCall, ↓condE_t, ↓condE_f, ↓guardE_tt, ↓guardE_ff, ↓guardE_tf, ↓guardE_ft, frzDeep, deepArgs, deepArg, resB, cv, stepB, stepE, callD, tabD, snapD, snap1, snapC, snapId, snapIds, guardB, guardC, dstAt, aopR, one, pre, binR, intOpR, shiftOpR, unR, argFrm, evo, lkp, hlk, lenOf, asLst, idOf, bndA, srcOk, ofVal, ofCells, setCells, fillA, setElems, fieldsOf, fieldsEq, scalEq, isEq, AV.wr, AV.ok1, TK.agg, frz, frzs, frzA, frzArg, frzArgs, subA, subL, sub1, kp, kh, accOf, List.replicate, Nat.reduceAdd, Nat.reduceSub, Nat.reduceMul, Nat.reduceEqDiff, Nat.reduceLT, Nat.reduceLeDiff, Nat.reduceBEq, reduceIte, reduceCtorEq, eq_self, ne_eq, Int.reduceToNat, Int.reduceLT, Int.reduceLE, Int.reduceGT, Int.reduceGE, Int.reduceBEq, Int.reduceBNe, Int.reduceEq, Int.reduceNe]
    refine ⟨fun h => ?_, fun h => ?_⟩
    · have h' : ¬ m.getD i.toNat 0 = v := by simpa using h
      have e : (m.getD i.toNat 0 == v) = false := by simpa using h
      rw [e, set_self h3]
      exact ⟨Nat.le_refl _, by simp, rfl⟩
    · have h' : m.getD i.toNat 0 = v := by simpa using h
      simp only [h', beq_self_eq_true, if_true, Nat.le_refl, true_and, and_true]

end Go.Vai
/- Two lists of cells are the same, or not; the document's answers. -/
namespace Go.Vai
open Go.RowKit Go.Proofs
set_option linter.unusedSimpArgs false
set_option linter.unusedVariables false
set_option maxHeartbeats 4000000
set_option maxRecDepth 100000

theorem refSame_pure (a b : List Int) (ha : a.length ≤ 1000) (hb : b.length ≤ 1000) : PureC Try.prog 17 [ms a, ms b] (bv (decide (a = b))) := by
  refine pure_sub ok1 1 Try.func17 rfl (by show 2 ≤ _; decide) ?_
  by_cases hl : a.length = b.length
  · simp only [Try.f17, ms, bv, ctx_T, ctx_C, ctx_P, T4, T3, T26, T25, List.length_map, hl, bne_self_eq_false, ev1, ev2, implies_true, undef, stepP, drawB, stepL, lateB, lateB0, rdsT, rdsAny, isRd, afterL, preB, callLB, callLV, lateV, dstV, dynCall, ↓condE_t, ↓condE_f, ↓guardE_tt, ↓guardE_ff, ↓guardE_tf, ↓guardE_ft, frzDeep, deepArgs, deepArg, resB, cv, stepB, stepE, callD, tabD, snapD, snap1, snapC, snapId, snapIds, guardB, guardC, dstAt, aopR, one, pre, binR, intOpR, shiftOpR, unR, argFrm, evo, lkp, hlk, lenOf, asLst, idOf, bndA, srcOk, ofVal, ofCells, setCells, fillA, setElems, fieldsOf, fieldsEq, scalEq, isEq, AV.wr, AV.ok1, TK.agg, frz, frzs, frzA, frzArg, frzArgs, subA, subL, sub1, kp, kh, accOf, List.replicate, Nat.reduceAdd, Nat.reduceSub, Nat.reduceMul, Nat.reduceEqDiff, Nat.reduceLT, Nat.reduceLeDiff, Nat.reduceBEq, reduceIte, reduceCtorEq, eq_self, ne_eq, Int.reduceToNat, Int.reduceLT, Int.reduceLE, Int.reduceGT, Int.reduceGE, Int.reduceBEq, Int.reduceBNe, Int.reduceEq, Int.reduceNe]
    refine WP.loop (fun i : Nat => a.length - i) (fun i => i ≤ a.length ∧ a.take i = b.take i) (n := 26) (fr := fun i => [(5, iv i), (0, ms a), (1, ms b)]) (hp := fun _ => []) (N := 0) ?_ 0 ⟨Nat.zero_le _, rfl⟩ rfl (Nat.zero_le _) ⟨rfl, rfl, rfl, trivial⟩ trivial
    rintro i nx ⟨h1, h2⟩ _ _
    refine WP.of ok1 1 (by rfl) ?_
    by_cases hi : i < a.length
    · have hi' : i < b.length := by omega
      have hz : (i : Int) < (b.length : Int) := by omega
      have hz' : (i : Int) < (a.length : Int) := by omega
      have h0 : (0 : Int) ≤ (i : Int) := by omega
      simp only [ms, iv, bv, u, ctx_T, ctx_C, ctx_P, T4, T3, T26, T25, List.length_map, getD_u, hi, hi', hz, hz', h0, hl, Int.toNat_natCast, ev1, ev2, implies_true, undef, stepP, drawB, stepL, lateB, lateB0, rdsT, rdsAny, isRd, afterL, preB, callLB, callLV, lateV, dstV, dynCall, ↓condE_t, ↓condE_f, ↓guardE_tt, ↓guardE_ff, ↓guardE_tf, ↓guardE_ft, frzDeep, deepArgs, deepArg, resB, cv, stepB, stepE, callD, tabD, snapD, snap1, snapC, snapId, snapIds, guardB, guardC, dstAt, aopR, one, pre, binR, intOpR, shiftOpR, unR, argFrm, evo, lkp, hlk, lenOf, asLst, idOf, bndA, srcOk, ofVal, ofCells, setCells, fillA, setElems, fieldsOf, fieldsEq, scalEq, isEq, AV.wr, AV.ok1, TK.agg, frz, frzs, frzA, frzArg, frzArgs, subA, subL, sub1, kp, kh, accOf, List.replicate, Nat.reduceAdd, Nat.reduceSub, Nat.reduceMul, Nat.reduceEqDiff, Nat.reduceLT, Nat.reduceLeDiff, Nat.reduceBEq, reduceIte, reduceCtorEq, eq_self, ne_eq, Int.reduceToNat, Int.reduceLT, Int.reduceLE, Int.reduceGT, Int.reduceGE, Int.reduceBEq, Int.reduceBNe, Int.reduceEq, Int.reduceNe]
      refine ⟨fun h => by simp [getD_ne h], fun h => ⟨i + 1, by omega, ⟨by omega, take_next hi hi' h2 h⟩, ?_⟩⟩
      rw [wrap_s (by omega)]
    · have hz : ¬ (i : Int) < (b.length : Int) := by omega
      simp only [ms, iv, bv, u, ctx_T, ctx_C, ctx_P, T4, T3, T26, T25, List.length_map, getD_u, hl, hz, Int.toNat_natCast, ev1, ev2, implies_true, undef, stepP, drawB, stepL, lateB, lateB0, rdsT, rdsAny, isRd, afterL, preB, callLB, callLV, lateV, dstV, dynCall, ↓condE_t, ↓condE_f, ↓guardE_tt, ↓guardE_ff, ↓guardE_tf, ↓guardE_ft, frzDeep, deepArgs, deepArg, resB, cv, stepB, stepE, callD, tabD, snapD, snap1, snapC, snapId, snapIds, guardB, guardC, dstAt, aopR, one, pre, binR, intOpR, shiftOpR, unR, argFrm, evo, lkp, hlk, lenOf, asLst, idOf, bndA, srcOk, ofVal, ofCells, setCells, fillA, setElems, fieldsOf, fieldsEq, scalEq, isEq, AV.wr, AV.ok1, TK.agg, frz, frzs, frzA, frzArg, frzArgs, subA, subL, sub1, kp, kh, accOf, List.replicate, Nat.reduceAdd, Nat.reduceSub, Nat.reduceMul, Nat.reduceEqDiff, Nat.reduceLT, Nat.reduceLeDiff, Nat.reduceBEq, reduceIte, reduceCtorEq, eq_self, ne_eq, Int.reduceToNat, Int.reduceLT, Int.reduceLE, Int.reduceGT, Int.reduceGE, Int.reduceBEq, Int.reduceBNe, Int.reduceEq, Int.reduceNe]
      have e : i = a.length := by omega
      subst e
      rw [List.take_length, hl, List.take_length] at h2
      simp [h2]
  · have hne : ¬ a = b := fun e => hl (by rw [e])
    have hz : ((a.length : Int) != (b.length : Int)) = true := by
      have : ¬ (a.length : Int) = (b.length : Int) := by omega
      simpa using this
    simp only [Try.f17, ms, bv, ctx_T, ctx_C, ctx_P, T4, T3, T26, T25, List.length_map, hz, hne, ev1, ev2, implies_true, undef, stepP, drawB, stepL, lateB, lateB0, rdsT, rdsAny, isRd, afterL, preB, callLB, callLV, lateV, dstV, dynCall, ↓condE_t, ↓condE_f, ↓guardE_tt, ↓guardE_ff, ↓guardE_tf, ↓guardE_ft, frzDeep, deepArgs, deepArg, resB, cv, stepB, stepE, callD, tabD, snapD, snap1, snapC, snapId, snapIds, guardB, guardC, dstAt, aopR, one, pre, binR, intOpR, shiftOpR, unR, argFrm, evo, lkp, hlk, lenOf, asLst, idOf, bndA, srcOk, ofVal, ofCells, setCells, fillA, setElems, fieldsOf, fieldsEq, scalEq, isEq, AV.wr, AV.ok1, TK.agg, frz, frzs, frzA, frzArg, frzArgs, subA, subL, sub1, kp, kh, accOf, List.replicate, Nat.reduceAdd, Nat.reduceSub, Nat.reduceMul, Nat.reduceEqDiff, Nat.reduceLT, Nat.reduceLeDiff, Nat.reduceBEq, reduceIte, reduceCtorEq, eq_self, ne_eq, Int.reduceToNat, Int.reduceLT, Int.reduceLE, Int.reduceGT, Int.reduceGE, Int.reduceBEq, Int.reduceBNe, Int.reduceEq, Int.reduceNe]


/-! The document's answers. -/
theorem isIn_false {m : List Int} {i : Int} (h : isIn m i = false) (h0 : 0 ≤ i) : ¬ i < m.length := by
  simp [isIn] at h; omega

theorem refLoad_pure (m : List Int) (i : Int) (hm : m.length ≤ 1000) : PureC Try.prog 69 [ms m, iv i] (u (mLoad m i)) := by
  refine pure_sub ok0 1 Try.func69 rfl (by show 2 ≤ _; decide) ?_
  cases hin : isIn m i with
  | false =>
    by_cases h0 : i < 0
    · simp only [Try.f69, ms, iv, bv, u, ctx_T, ctx_C, ctx_P, T4, T3, T26, T25, tabC, hm, List.lookup_cons, List.lookup_nil, Option.bind_some, Option.bind_none, rMI_eq, rMIU_eq, hm, hin, h0, mLoad, List.length_map, List.length_set, String.reduceBEq, Int.toNat_natCast, ev1, ev2, implies_true, undef, stepP, drawB, stepL, lateB, lateB0, rdsT, rdsAny, isRd, afterL, preB, callLB, callLV, lateV, dstV, dynCall, ↓condE_t, ↓condE_f, ↓guardE_tt, ↓guardE_ff, ↓guardE_tf, ↓guardE_ft, frzDeep, deepArgs, deepArg, resB, cv, stepB, stepE, callD, tabD, snapD, snap1, snapC, snapId, snapIds, guardB, guardC, dstAt, aopR, one, pre, binR, intOpR, shiftOpR, unR, argFrm, evo, lkp, hlk, lenOf, asLst, idOf, bndA, srcOk, ofVal, ofCells, setCells, fillA, setElems, fieldsOf, fieldsEq, scalEq, isEq, AV.wr, AV.ok1, TK.agg, frz, frzs, frzA, frzArg, frzArgs, subA, subL, sub1, kp, kh, accOf, List.replicate, Nat.reduceAdd, Nat.reduceSub, Nat.reduceMul, Nat.reduceEqDiff, Nat.reduceLT, Nat.reduceLeDiff, Nat.reduceBEq, reduceIte, reduceCtorEq, eq_self, ne_eq, Int.reduceToNat, Int.reduceLT, Int.reduceLE, Int.reduceGT, Int.reduceGE, Int.reduceBEq, Int.reduceBNe, Int.reduceEq, Int.reduceNe]
    · have h1 := isIn_false hin (by omega)
      have h2 : i ≥ (m.length : Int) := by omega
      simp only [Try.f69, ms, iv, bv, u, ctx_T, ctx_C, ctx_P, T4, T3, T26, T25, tabC, hm, List.lookup_cons, List.lookup_nil, Option.bind_some, Option.bind_none, rMI_eq, rMIU_eq, hm, hin, h0, h2, mLoad, List.length_map, List.length_set, String.reduceBEq, Int.toNat_natCast, ev1, ev2, implies_true, undef, stepP, drawB, stepL, lateB, lateB0, rdsT, rdsAny, isRd, afterL, preB, callLB, callLV, lateV, dstV, dynCall, ↓condE_t, ↓condE_f, ↓guardE_tt, ↓guardE_ff, ↓guardE_tf, ↓guardE_ft, frzDeep, deepArgs, deepArg, resB, cv, stepB, stepE, callD, tabD, snapD, snap1, snapC, snapId, snapIds, guardB, guardC, dstAt, aopR, one, pre, binR, intOpR, shiftOpR, unR, argFrm, evo, lkp, hlk, lenOf, asLst, idOf, bndA, srcOk, ofVal, ofCells, setCells, fillA, setElems, fieldsOf, fieldsEq, scalEq, isEq, AV.wr, AV.ok1, TK.agg, frz, frzs, frzA, frzArg, frzArgs, subA, subL, sub1, kp, kh, accOf, List.replicate, Nat.reduceAdd, Nat.reduceSub, Nat.reduceMul, Nat.reduceEqDiff, Nat.reduceLT, Nat.reduceLeDiff, Nat.reduceBEq, reduceIte, reduceCtorEq, eq_self, ne_eq, Int.reduceToNat, Int.reduceLT, Int.reduceLE, Int.reduceGT, Int.reduceGE, Int.reduceBEq, Int.reduceBNe, Int.reduceEq, Int.reduceNe]
  | true =>
    obtain ⟨h1, h2, h3⟩ := isIn_true hin
    have h4 : ¬ i < 0 := by omega
    have h5 : ¬ i ≥ (m.length : Int) := by omega
    simp only [Try.f69, ms, iv, bv, u, ctx_T, ctx_C, ctx_P, T4, T3, T26, T25, tabC, hm, List.lookup_cons, List.lookup_nil, Option.bind_some, Option.bind_none, rMI_eq, rMIU_eq, hm, hin, h1, h2, h3, h4, h5, mLoad, getD_u, List.length_map, List.length_set, String.reduceBEq, Int.toNat_natCast, ev1, ev2, implies_true, undef, stepP, drawB, stepL, lateB, lateB0, rdsT, rdsAny, isRd, afterL, preB, callLB, callLV, lateV, dstV, dynCall, ↓condE_t, ↓condE_f, ↓guardE_tt, ↓guardE_ff, ↓guardE_tf, ↓guardE_ft, frzDeep, deepArgs, deepArg, resB, cv, stepB, stepE, callD, tabD, snapD, snap1, snapC, snapId, snapIds, guardB, guardC, dstAt, aopR, one, pre, binR, intOpR, shiftOpR, unR, argFrm, evo, lkp, hlk, lenOf, asLst, idOf, bndA, srcOk, ofVal, ofCells, setCells, fillA, setElems, fieldsOf, fieldsEq, scalEq, isEq, AV.wr, AV.ok1, TK.agg, frz, frzs, frzA, frzArg, frzArgs, subA, subL, sub1, kp, kh, accOf, List.replicate, Nat.reduceAdd, Nat.reduceSub, Nat.reduceMul, Nat.reduceEqDiff, Nat.reduceLT, Nat.reduceLeDiff, Nat.reduceBEq, reduceIte, reduceCtorEq, eq_self, ne_eq, Int.reduceToNat, Int.reduceLT, Int.reduceLE, Int.reduceGT, Int.reduceGE, Int.reduceBEq, Int.reduceBNe, Int.reduceEq, Int.reduceNe]

end Go.Vai
/- Cells: the document's answers, and the contracts as a table. -/
namespace Go.Vai
open Go.RowKit Go.Proofs
set_option linter.unusedSimpArgs false
set_option linter.unusedVariables false
set_option maxHeartbeats 4000000
set_option maxRecDepth 100000

theorem store_in {m : List Int} {i : Int} (h : isIn m i = true) (v : Int) : mStore m i v = m.set i.toNat v := by simp [mStore, h]

theorem refStore_pure (m : List Int) (i v : Int) (hm : m.length ≤ 1000) : PureC Try.prog 73 [ms m, iv i, u v] (ms (mStore m i v)) := by
  refine pure_sub ok0 1 Try.func73 rfl (by show 3 ≤ _; decide) ?_
  have hb : m.length * 8 ≤ 140737488355328 := by omega
  have hle : m.length ≤ m.length := Nat.le_refl _
  cases hin : isIn m i with
  | false =>
    have s := store_out hin v
    by_cases h0 : i ≥ 0
    · have h1 : ¬ i < (m.length : Int) := isIn_false hin h0
      simp only [Try.f73, s, hb, hle, h0, h1, take_u, set_u, hf_u, take_us, hfree_lu, hfree_l0, row0, row1, row2, row3, row4, row5, shI_dec, shN_dec, shB_dec, shM_dec, dI, dN, dB, dM, dU, dU_map, iv, bv, u, ms, ctx_T, ctx_C, ctx_P, T4, T3, T26, Option.bind_some, Option.bind_none, Option.map_some, List.length_map, List.length_set, String.reduceBEq, Int.toNat_natCast, Bool.true_beq, Bool.false_beq, T25, ev1, ev2, implies_true, undef, stepP, drawB, stepL, lateB, lateB0, rdsT, rdsAny, isRd, afterL, preB, callLB, callLV, lateV, dstV, dynCall, ↓condE_t, ↓condE_f, ↓guardE_tt, ↓guardE_ff, ↓guardE_tf, ↓guardE_ft, frzDeep, deepArgs, deepArg, resB, cv, stepB, stepE, callD, tabD, snapD, snap1, snapC, snapId, snapIds, guardB, guardC, dstAt, aopR, one, pre, binR, intOpR, shiftOpR, unR, argFrm, evo, lkp, hlk, lenOf, asLst, idOf, bndA, srcOk, ofVal, ofCells, setCells, fillA, setElems, fieldsOf, fieldsEq, scalEq, isEq, AV.wr, AV.ok1, TK.agg, frz, frzs, frzA, frzArg, frzArgs, subA, subL, sub1, kp, kh, accOf, List.replicate, Nat.reduceAdd, Nat.reduceSub, Nat.reduceMul, Nat.reduceEqDiff, Nat.reduceLT, Nat.reduceLeDiff, Nat.reduceBEq, reduceIte, reduceCtorEq, eq_self, ne_eq, Int.reduceToNat, Int.reduceLT, Int.reduceLE, Int.reduceGT, Int.reduceGE, Int.reduceBEq, Int.reduceBNe, Int.reduceEq, Int.reduceNe]
    · simp only [Try.f73, s, hb, hle, h0, take_u, set_u, hf_u, take_us, hfree_lu, hfree_l0, row0, row1, row2, row3, row4, row5, shI_dec, shN_dec, shB_dec, shM_dec, dI, dN, dB, dM, dU, dU_map, iv, bv, u, ms, ctx_T, ctx_C, ctx_P, T4, T3, T26, Option.bind_some, Option.bind_none, Option.map_some, List.length_map, List.length_set, String.reduceBEq, Int.toNat_natCast, Bool.true_beq, Bool.false_beq, T25, ev1, ev2, implies_true, undef, stepP, drawB, stepL, lateB, lateB0, rdsT, rdsAny, isRd, afterL, preB, callLB, callLV, lateV, dstV, dynCall, ↓condE_t, ↓condE_f, ↓guardE_tt, ↓guardE_ff, ↓guardE_tf, ↓guardE_ft, frzDeep, deepArgs, deepArg, resB, cv, stepB, stepE, callD, tabD, snapD, snap1, snapC, snapId, snapIds, guardB, guardC, dstAt, aopR, one, pre, binR, intOpR, shiftOpR, unR, argFrm, evo, lkp, hlk, lenOf, asLst, idOf, bndA, srcOk, ofVal, ofCells, setCells, fillA, setElems, fieldsOf, fieldsEq, scalEq, isEq, AV.wr, AV.ok1, TK.agg, frz, frzs, frzA, frzArg, frzArgs, subA, subL, sub1, kp, kh, accOf, List.replicate, Nat.reduceAdd, Nat.reduceSub, Nat.reduceMul, Nat.reduceEqDiff, Nat.reduceLT, Nat.reduceLeDiff, Nat.reduceBEq, reduceIte, reduceCtorEq, eq_self, ne_eq, Int.reduceToNat, Int.reduceLT, Int.reduceLE, Int.reduceGT, Int.reduceGE, Int.reduceBEq, Int.reduceBNe, Int.reduceEq, Int.reduceNe]
  | true =>
    obtain ⟨h1, h2, h3⟩ := isIn_true hin
    have h4 : i ≥ 0 := h1
    have s := store_in hin v
    simp only [Try.f73, s, hb, hle, h1, h2, h3, h4, getD_u, take_u, set_u, hf_u, take_us, hfree_lu, hfree_l0, row0, row1, row2, row3, row4, row5, shI_dec, shN_dec, shB_dec, shM_dec, dI, dN, dB, dM, dU, dU_map, iv, bv, u, ms, ctx_T, ctx_C, ctx_P, T4, T3, T26, Option.bind_some, Option.bind_none, Option.map_some, List.length_map, List.length_set, String.reduceBEq, Int.toNat_natCast, Bool.true_beq, Bool.false_beq, T25, ev1, ev2, implies_true, undef, stepP, drawB, stepL, lateB, lateB0, rdsT, rdsAny, isRd, afterL, preB, callLB, callLV, lateV, dstV, dynCall, ↓condE_t, ↓condE_f, ↓guardE_tt, ↓guardE_ff, ↓guardE_tf, ↓guardE_ft, frzDeep, deepArgs, deepArg, resB, cv, stepB, stepE, callD, tabD, snapD, snap1, snapC, snapId, snapIds, guardB, guardC, dstAt, aopR, one, pre, binR, intOpR, shiftOpR, unR, argFrm, evo, lkp, hlk, lenOf, asLst, idOf, bndA, srcOk, ofVal, ofCells, setCells, fillA, setElems, fieldsOf, fieldsEq, scalEq, isEq, AV.wr, AV.ok1, TK.agg, frz, frzs, frzA, frzArg, frzArgs, subA, subL, sub1, kp, kh, accOf, List.replicate, Nat.reduceAdd, Nat.reduceSub, Nat.reduceMul, Nat.reduceEqDiff, Nat.reduceLT, Nat.reduceLeDiff, Nat.reduceBEq, reduceIte, reduceCtorEq, eq_self, ne_eq, Int.reduceToNat, Int.reduceLT, Int.reduceLE, Int.reduceGT, Int.reduceGE, Int.reduceBEq, Int.reduceBNe, Int.reduceEq, Int.reduceNe]

def rowsKA : List Row := [
  (46, row2 shM shI fun m i => some (u (mLoad m i))), 
  (61, row3 shM shI shN fun m i v => some (ms (mStore m i v))), 
  (63, row4 shM shI shN shN fun m i v w => some (.tup [ms (mCas m i v w), bv (mCasB m i v)])), 
  (69, row2 shM shI fun m i => some (u (mLoad m i))), 
  (17, row2 shM shM fun a b => some (bv (decide (a = b)))), 
  (73, row3 shM shI shN fun m i v => some (ms (mStore m i v)))]
theorem rowsKA_ok : ∀ p ∈ rowsKA, RowOk Try.prog p := fun p h => by
  simp only [rowsKA, List.mem_append, List.mem_cons, List.not_mem_nil, or_false, false_or, or_assoc] at h
  rcases h with rfl | rfl | rfl | rfl | rfl | rfl
  · exact ok_row2 (enters_of Try.func46 (by decide) rfl) fun m i r g _ e => by cases e; exact load_pure m i (shM_got g)
  · exact ok_row3 (enters_of Try.func61 (by decide) rfl) fun m i v r g _ _ e => by cases e; exact store_pure m i v (shM_got g)
  · exact ok_row4 (enters_of Try.func63 (by decide) rfl) fun m i v w r g _ _ _ e => by cases e; exact cas_pure m i v w (shM_got g)
  · exact ok_row2 (enters_of Try.func69 (by decide) rfl) fun m i r g _ e => by cases e; exact refLoad_pure m i (shM_got g)
  · exact ok_row2 (enters_of Try.func17 (by decide) rfl) fun a b r g g' e => by cases e; exact refSame_pure a b (shM_got g) (shM_got g')
  · exact ok_row3 (enters_of Try.func73 (by decide) rfl) fun m i v r g _ _ e => by cases e; exact refStore_pure m i v (shM_got g)
theorem okKA : (ctx Try.prog rowsKA).ok := rows_ok rowsKA_ok
theorem KA_46 : tabC rowsKA 46 = row2 shM shI fun m i => some (u (mLoad m i)) := rfl
theorem KA_61 : tabC rowsKA 61 = row3 shM shI shN fun m i v => some (ms (mStore m i v)) := rfl
theorem KA_63 : tabC rowsKA 63 = row4 shM shI shN shN fun m i v w => some (.tup [ms (mCas m i v w), bv (mCasB m i v)]) := rfl
theorem KA_69 : tabC rowsKA 69 = row2 shM shI fun m i => some (u (mLoad m i)) := rfl
theorem KA_17 : tabC rowsKA 17 = row2 shM shM fun a b => some (bv (decide (a = b))) := rfl
theorem KA_73 : tabC rowsKA 73 = row3 shM shI shN fun m i v => some (ms (mStore m i v)) := rfl
theorem KA_all : type_of% (And.intro KA_46 <| And.intro KA_61 <| And.intro KA_63 <| And.intro KA_69 <| And.intro KA_17 <| KA_73) := And.intro KA_46 <| And.intro KA_61 <| And.intro KA_63 <| And.intro KA_69 <| And.intro KA_17 <| KA_73

theorem refCas_pure (m : List Int) (i v w : Int) (hm : m.length ≤ 1000) : PureC Try.prog 76 [ms m, iv i, u v, u w] (.tup [ms (mCas m i v w), bv (mCasB m i v)]) := by
  refine pure_sub okKA 1 Try.func76 rfl (by show 4 ≤ _; decide) ?_
  have hout : mStore m (IntKind.i64.wrap (0 - 1)) 0 = m := store_out (by simp [isIn, IntKind.wrap_i64]) 0
  have hout' : mStore m (-1) 0 = m := store_out (by simp [isIn]) 0
  cases hin : isIn m i with
  | false =>
    have hc : mCasB m i v = false := by simp [mCasB, hin]
    have g := cas_not hc w
    by_cases h0 : i < 0
    · simp only [Try.f76, KA_all, hm, hout, hout', hc, g, h0, hf_u, hfree_lu, hfree_l0, row0, row1, row2, row3, row4, row5, shI_dec, shN_dec, shB_dec, shM_dec, dI, dN, dB, dM, dU, dU_map, iv, bv, u, ms, ctx_T, ctx_C, ctx_P, T4, T3, T26, Option.bind_some, Option.bind_none, Option.map_some, List.length_map, List.length_set, String.reduceBEq, Int.toNat_natCast, Bool.true_beq, Bool.false_beq, T25, ev1, ev2, implies_true, undef, stepP, drawB, stepL, lateB, lateB0, rdsT, rdsAny, isRd, afterL, preB, callLB, callLV, lateV, dstV, dynCall, ↓condE_t, ↓condE_f, ↓guardE_tt, ↓guardE_ff, ↓guardE_tf, ↓guardE_ft, frzDeep, deepArgs, deepArg, resB, cv, stepB, stepE, callD, tabD, snapD, snap1, snapC, snapId, snapIds, guardB, guardC, dstAt, aopR, one, pre, binR, intOpR, shiftOpR, unR, argFrm, evo, lkp, hlk, lenOf, asLst, idOf, bndA, srcOk, ofVal, ofCells, setCells, fillA, setElems, fieldsOf, fieldsEq, scalEq, isEq, AV.wr, AV.ok1, TK.agg, frz, frzs, frzA, frzArg, frzArgs, subA, subL, sub1, kp, kh, accOf, List.replicate, Nat.reduceAdd, Nat.reduceSub, Nat.reduceMul, Nat.reduceEqDiff, Nat.reduceLT, Nat.reduceLeDiff, Nat.reduceBEq, reduceIte, reduceCtorEq, eq_self, ne_eq, Int.reduceToNat, Int.reduceLT, Int.reduceLE, Int.reduceGT, Int.reduceGE, Int.reduceBEq, Int.reduceBNe, Int.reduceEq, Int.reduceNe]
    · have h1 : i ≥ (m.length : Int) := by have := isIn_false hin (by omega); omega
      simp only [Try.f76, KA_all, hm, hout, hout', hc, g, h0, h1, hf_u, hfree_lu, hfree_l0, row0, row1, row2, row3, row4, row5, shI_dec, shN_dec, shB_dec, shM_dec, dI, dN, dB, dM, dU, dU_map, iv, bv, u, ms, ctx_T, ctx_C, ctx_P, T4, T3, T26, Option.bind_some, Option.bind_none, Option.map_some, List.length_map, List.length_set, String.reduceBEq, Int.toNat_natCast, Bool.true_beq, Bool.false_beq, T25, ev1, ev2, implies_true, undef, stepP, drawB, stepL, lateB, lateB0, rdsT, rdsAny, isRd, afterL, preB, callLB, callLV, lateV, dstV, dynCall, ↓condE_t, ↓condE_f, ↓guardE_tt, ↓guardE_ff, ↓guardE_tf, ↓guardE_ft, frzDeep, deepArgs, deepArg, resB, cv, stepB, stepE, callD, tabD, snapD, snap1, snapC, snapId, snapIds, guardB, guardC, dstAt, aopR, one, pre, binR, intOpR, shiftOpR, unR, argFrm, evo, lkp, hlk, lenOf, asLst, idOf, bndA, srcOk, ofVal, ofCells, setCells, fillA, setElems, fieldsOf, fieldsEq, scalEq, isEq, AV.wr, AV.ok1, TK.agg, frz, frzs, frzA, frzArg, frzArgs, subA, subL, sub1, kp, kh, accOf, List.replicate, Nat.reduceAdd, Nat.reduceSub, Nat.reduceMul, Nat.reduceEqDiff, Nat.reduceLT, Nat.reduceLeDiff, Nat.reduceBEq, reduceIte, reduceCtorEq, eq_self, ne_eq, Int.reduceToNat, Int.reduceLT, Int.reduceLE, Int.reduceGT, Int.reduceGE, Int.reduceBEq, Int.reduceBNe, Int.reduceEq, Int.reduceNe]
  | true =>
    obtain ⟨h1, h2, h3⟩ := isIn_true hin
    have h4 : ¬ i < 0 := by omega
    have h5 : ¬ i ≥ (m.length : Int) := by omega
    have hl := load_in hin
    cases hc : mCasB m i v with
    | true =>
      have he : (m.getD i.toNat 0 != v) = false := by
        have : mLoad m i = v := by simp [mCasB] at hc; exact hc.2
        rw [← hl, this]; simp
      have g := cas_store hc w
      simp only [Try.f76, KA_all, hm, hout, hout', hc, g, he, h1, h2, h3, h4, h5, getD_u, hf_u, hfree_lu, hfree_l0, row0, row1, row2, row3, row4, row5, shI_dec, shN_dec, shB_dec, shM_dec, dI, dN, dB, dM, dU, dU_map, iv, bv, u, ms, ctx_T, ctx_C, ctx_P, T4, T3, T26, Option.bind_some, Option.bind_none, Option.map_some, List.length_map, List.length_set, String.reduceBEq, Int.toNat_natCast, Bool.true_beq, Bool.false_beq, T25, ev1, ev2, implies_true, undef, stepP, drawB, stepL, lateB, lateB0, rdsT, rdsAny, isRd, afterL, preB, callLB, callLV, lateV, dstV, dynCall, ↓condE_t, ↓condE_f, ↓guardE_tt, ↓guardE_ff, ↓guardE_tf, ↓guardE_ft, frzDeep, deepArgs, deepArg, resB, cv, stepB, stepE, callD, tabD, snapD, snap1, snapC, snapId, snapIds, guardB, guardC, dstAt, aopR, one, pre, binR, intOpR, shiftOpR, unR, argFrm, evo, lkp, hlk, lenOf, asLst, idOf, bndA, srcOk, ofVal, ofCells, setCells, fillA, setElems, fieldsOf, fieldsEq, scalEq, isEq, AV.wr, AV.ok1, TK.agg, frz, frzs, frzA, frzArg, frzArgs, subA, subL, sub1, kp, kh, accOf, List.replicate, Nat.reduceAdd, Nat.reduceSub, Nat.reduceMul, Nat.reduceEqDiff, Nat.reduceLT, Nat.reduceLeDiff, Nat.reduceBEq, reduceIte, reduceCtorEq, eq_self, ne_eq, Int.reduceToNat, Int.reduceLT, Int.reduceLE, Int.reduceGT, Int.reduceGE, Int.reduceBEq, Int.reduceBNe, Int.reduceEq, Int.reduceNe]
    | false =>
      have he : (m.getD i.toNat 0 != v) = true := by
        have : ¬ mLoad m i = v := by simp [mCasB, hin] at hc; exact hc
        rw [← hl]; simpa using this
      have g := cas_not hc w
      simp only [Try.f76, KA_all, hm, hout, hout', hc, g, he, h1, h2, h3, h4, h5, getD_u, hf_u, hfree_lu, hfree_l0, row0, row1, row2, row3, row4, row5, shI_dec, shN_dec, shB_dec, shM_dec, dI, dN, dB, dM, dU, dU_map, iv, bv, u, ms, ctx_T, ctx_C, ctx_P, T4, T3, T26, Option.bind_some, Option.bind_none, Option.map_some, List.length_map, List.length_set, String.reduceBEq, Int.toNat_natCast, Bool.true_beq, Bool.false_beq, T25, ev1, ev2, implies_true, undef, stepP, drawB, stepL, lateB, lateB0, rdsT, rdsAny, isRd, afterL, preB, callLB, callLV, lateV, dstV, dynCall, ↓condE_t, ↓condE_f, ↓guardE_tt, ↓guardE_ff, ↓guardE_tf, ↓guardE_ft, frzDeep, deepArgs, deepArg, resB, cv, stepB, stepE, callD, tabD, snapD, snap1, snapC, snapId, snapIds, guardB, guardC, dstAt, aopR, one, pre, binR, intOpR, shiftOpR, unR, argFrm, evo, lkp, hlk, lenOf, asLst, idOf, bndA, srcOk, ofVal, ofCells, setCells, fillA, setElems, fieldsOf, fieldsEq, scalEq, isEq, AV.wr, AV.ok1, TK.agg, frz, frzs, frzA, frzArg, frzArgs, subA, subL, sub1, kp, kh, accOf, List.replicate, Nat.reduceAdd, Nat.reduceSub, Nat.reduceMul, Nat.reduceEqDiff, Nat.reduceLT, Nat.reduceLeDiff, Nat.reduceBEq, reduceIte, reduceCtorEq, eq_self, ne_eq, Int.reduceToNat, Int.reduceLT, Int.reduceLE, Int.reduceGT, Int.reduceGE, Int.reduceBEq, Int.reduceBNe, Int.reduceEq, Int.reduceNe]

def rowsK : List Row := [
  (76, row4 shM shI shN shN fun m i v w => some (.tup [ms (mCas m i v w), bv (mCasB m i v)]))] ++ rowsKA
theorem rowsK_ok : ∀ p ∈ rowsK, RowOk Try.prog p := fun p h => by
  simp only [rowsK, List.mem_append, List.mem_cons, List.not_mem_nil, or_false, false_or, or_assoc] at h
  rcases h with rfl | h
  · exact ok_row4 (enters_of Try.func76 (by decide) rfl) fun m i v w r g _ _ _ e => by cases e; exact refCas_pure m i v w (shM_got g)
  · exact rowsKA_ok p h
theorem okK : (ctx Try.prog rowsK).ok := rows_ok rowsK_ok
theorem K_76 : tabC rowsK 76 = row4 shM shI shN shN fun m i v w => some (.tup [ms (mCas m i v w), bv (mCasB m i v)]) := rfl
theorem K_46 : tabC rowsK 46 = row2 shM shI fun m i => some (u (mLoad m i)) := rfl
theorem K_61 : tabC rowsK 61 = row3 shM shI shN fun m i v => some (ms (mStore m i v)) := rfl
theorem K_63 : tabC rowsK 63 = row4 shM shI shN shN fun m i v w => some (.tup [ms (mCas m i v w), bv (mCasB m i v)]) := rfl
theorem K_69 : tabC rowsK 69 = row2 shM shI fun m i => some (u (mLoad m i)) := rfl
theorem K_17 : tabC rowsK 17 = row2 shM shM fun a b => some (bv (decide (a = b))) := rfl
theorem K_73 : tabC rowsK 73 = row3 shM shI shN fun m i v => some (ms (mStore m i v)) := rfl
theorem K_all : type_of% (And.intro K_76 <| And.intro K_46 <| And.intro K_61 <| And.intro K_63 <| And.intro K_69 <| And.intro K_17 <| K_73) := And.intro K_76 <| And.intro K_46 <| And.intro K_61 <| And.intro K_63 <| And.intro K_69 <| And.intro K_17 <| K_73
end Go.Vai
/- Calls: the document's answers, and the layer's contracts as a table. -/
namespace Go.Vai
open Go.RowKit Go.Proofs
set_option linter.unusedSimpArgs false
set_option linter.unusedVariables false
set_option maxHeartbeats 4000000
set_option maxRecDepth 100000

theorem rOver_pure (f : Fr) : PureC Try.prog 42 [fv f] (bv (f.res != 0)) := by
  refine pure_sub ok0 1 Try.func42 rfl (by show 1 ≤ _; decide) ?_
  simp only [Try.f42, fv, T28, hfree_lu, hfree_l0, row0, row1, row2, row3, row4, row5, shI_dec, shN_dec, shB_dec, shM_dec, dI, dN, dB, dM, dU, dU_map, iv, bv, u, ms, ctx_T, ctx_C, ctx_P, T4, T3, T26, Option.bind_some, Option.bind_none, Option.map_some, List.length_map, List.length_set, String.reduceBEq, Int.toNat_natCast, Bool.true_beq, Bool.false_beq, T24, shF_dec, dF, fr_eta, ev1, ev2, implies_true, undef, stepP, drawB, stepL, lateB, lateB0, rdsT, rdsAny, isRd, afterL, preB, callLB, callLV, lateV, dstV, dynCall, ↓condE_t, ↓condE_f, ↓guardE_tt, ↓guardE_ff, ↓guardE_tf, ↓guardE_ft, frzDeep, deepArgs, deepArg, resB, cv, stepB, stepE, callD, tabD, snapD, snap1, snapC, snapId, snapIds, guardB, guardC, dstAt, aopR, one, pre, binR, intOpR, shiftOpR, unR, argFrm, evo, lkp, hlk, lenOf, asLst, idOf, bndA, srcOk, ofVal, ofCells, setCells, fillA, setElems, fieldsOf, fieldsEq, scalEq, isEq, AV.wr, AV.ok1, TK.agg, frz, frzs, frzA, frzArg, frzArgs, subA, subL, sub1, kp, kh, accOf, List.replicate, Nat.reduceAdd, Nat.reduceSub, Nat.reduceMul, Nat.reduceEqDiff, Nat.reduceLT, Nat.reduceLeDiff, Nat.reduceBEq, reduceIte, reduceCtorEq, eq_self, ne_eq, Int.reduceToNat, Int.reduceLT, Int.reduceLE, Int.reduceGT, Int.reduceGE, Int.reduceBEq, Int.reduceBNe, Int.reduceEq, Int.reduceNe]

theorem rEnd_pure (f : Fr) (res val : Int) : PureC Try.prog 72 [fv f, iv res, u val] (fv (fEnd f res val)) := by
  refine pure_sub ok0 1 Try.func72 rfl (by show 3 ≤ _; decide) ?_
  simp only [Try.f72, fv, fEnd, T28, hfree_lu, hfree_l0, row0, row1, row2, row3, row4, row5, shI_dec, shN_dec, shB_dec, shM_dec, dI, dN, dB, dM, dU, dU_map, iv, bv, u, ms, ctx_T, ctx_C, ctx_P, T4, T3, T26, Option.bind_some, Option.bind_none, Option.map_some, List.length_map, List.length_set, String.reduceBEq, Int.toNat_natCast, Bool.true_beq, Bool.false_beq, T24, shF_dec, dF, fr_eta, ev1, ev2, implies_true, undef, stepP, drawB, stepL, lateB, lateB0, rdsT, rdsAny, isRd, afterL, preB, callLB, callLV, lateV, dstV, dynCall, ↓condE_t, ↓condE_f, ↓guardE_tt, ↓guardE_ff, ↓guardE_tf, ↓guardE_ft, frzDeep, deepArgs, deepArg, resB, cv, stepB, stepE, callD, tabD, snapD, snap1, snapC, snapId, snapIds, guardB, guardC, dstAt, aopR, one, pre, binR, intOpR, shiftOpR, unR, argFrm, evo, lkp, hlk, lenOf, asLst, idOf, bndA, srcOk, ofVal, ofCells, setCells, fillA, setElems, fieldsOf, fieldsEq, scalEq, isEq, AV.wr, AV.ok1, TK.agg, frz, frzs, frzA, frzArg, frzArgs, subA, subL, sub1, kp, kh, accOf, List.replicate, Nat.reduceAdd, Nat.reduceSub, Nat.reduceMul, Nat.reduceEqDiff, Nat.reduceLT, Nat.reduceLeDiff, Nat.reduceBEq, reduceIte, reduceCtorEq, eq_self, ne_eq, Int.reduceToNat, Int.reduceLT, Int.reduceLE, Int.reduceGT, Int.reduceGE, Int.reduceBEq, Int.reduceBNe, Int.reduceEq, Int.reduceNe]

def rowsG : List Row := [
  (42, row1 shF fun f => some (bv (f.res != 0))), 
  (72, row3 shF shI shN fun f r v => some (fv (fEnd f r v)))] ++ rowsF
theorem rowsG_ok : ∀ p ∈ rowsG, RowOk Try.prog p := fun p h => by
  simp only [rowsG, List.mem_append, List.mem_cons, List.not_mem_nil, or_false, false_or, or_assoc] at h
  rcases h with rfl | rfl | h
  · exact ok_row1 (enters_of Try.func42 (by decide) rfl) fun f r _ e => by cases e; exact rOver_pure f
  · exact ok_row3 (enters_of Try.func72 (by decide) rfl) fun f x v r _ _ _ e => by cases e; exact rEnd_pure f x v
  · exact rowsF_ok p h
theorem okG : (ctx Try.prog rowsG).ok := rows_ok rowsG_ok
theorem G_42 : tabC rowsG 42 = row1 shF fun f => some (bv (f.res != 0)) := rfl
theorem G_72 : tabC rowsG 72 = row3 shF shI shN fun f r v => some (fv (fEnd f r v)) := rfl
theorem G_23 : tabC rowsG 23 = row3 shI shI shN fun o w v => some (fv (fBegin o w v)) := rfl
theorem G_20 : tabC rowsG 20 = row1 shF fun f => some (bv (f.res != 0)) := rfl
theorem G_62 : tabC rowsG 62 = row3 shF shI shN fun f r v => some (fv (fEnd f r v)) := rfl
theorem G_52 : tabC rowsG 52 = fun _ => none := rfl
theorem G_53 : tabC rowsG 53 = fun _ => none := rfl
theorem G_54 : tabC rowsG 54 = fun _ => none := rfl
theorem G_51 : tabC rowsG 51 = fun _ => none := rfl
theorem G_all : type_of% (And.intro G_42 <| And.intro G_72 <| And.intro G_23 <| And.intro G_20 <| And.intro G_62 <| And.intro G_52 <| And.intro G_53 <| And.intro G_54 <| G_51) := And.intro G_42 <| And.intro G_72 <| And.intro G_23 <| And.intro G_20 <| And.intro G_62 <| And.intro G_52 <| And.intro G_53 <| And.intro G_54 <| G_51

end Go.Vai
/- Deques by lists: a push, a pop, and a steal, alone. -/
namespace Go.Vai
open Go.RowKit
set_option linter.unusedVariables false
set_option linter.unusedSimpArgs false

theorem len_pStep (c : Cf) (m : List Int) (f : Fr) : (pStep c m f).1.length = m.length := by
  unfold pStep; repeat' split
  all_goals first | rfl | exact len_store ..
theorem len_oStep (c : Cf) (m : List Int) (f : Fr) : (oStep c m f).1.length = m.length := by
  unfold oStep; repeat' split
  all_goals first | rfl | exact len_store .. | exact len_cas ..
theorem len_sStep (c : Cf) (m : List Int) (f : Fr) : (sStep c m f).1.length = m.length := by
  unfold sStep; repeat' split
  all_goals first | rfl | exact len_store .. | exact len_cas ..

/-- A call that does not go on. -/
theorem goes_over {c : Cf} {m : List Int} {f : Fr} {op pcs : Int} (h : f.res ≠ 0) : goes c m f op pcs = false := by simp [goes, h]
theorem goes_lay {c : Cf} {m : List Int} {f : Fr} {op pcs : Int} (h : ¬ Lay c m f.who) : goes c m f op pcs = false := by
  rw [Bool.eq_false_iff]; intro e; exact h (goes_iff.1 e).1
theorem pStep_no {c : Cf} {m : List Int} {f : Fr} (h : goes c m f 0 4 = false) : pStep c m f = (m, f) := by simp [pStep, h]
theorem oStep_no {c : Cf} {m : List Int} {f : Fr} (h : goes c m f 1 7 = false) : oStep c m f = (m, f) := by simp [oStep, h]
theorem sStep_no {c : Cf} {m : List Int} {f : Fr} (h : goes c m f 2 4 = false) : sStep c m f = (m, f) := by simp [sStep, h]

/-- Numbers from a place on. -/
def dRow (c : Cf) (m : List Int) (w t : Int) (n : Nat) : List Int := (List.range n).map fun (i : Nat) => mLoad m (lSlot c w (wrapU (t + i)))

theorem dList_eq {c : Cf} {m : List Int} {w : Int} (h : dIs c m w = true) : dList c m w = dRow c m w (mLoad m (lTop c w)) (dNum c m w).toNat := by
  unfold dList; rw [if_pos h]; rfl
theorem dRow_len (c : Cf) (m : List Int) (w t : Int) (n : Nat) : (dRow c m w t n).length = n := by simp [dRow]
theorem dRow_succ (c : Cf) (m : List Int) (w t : Int) (n : Nat) : dRow c m w t (n + 1) = dRow c m w t n ++ [mLoad m (lSlot c w (wrapU (t + n)))] := by
  simp [dRow, List.range_succ]
theorem dRow_congr {c : Cf} {m m' : List Int} {w t : Int} {n : Nat} (h : ∀ i : Nat, i < n → mLoad m' (lSlot c w (wrapU (t + i))) = mLoad m (lSlot c w (wrapU (t + i)))) : dRow c m' w t n = dRow c m w t n := by
  unfold dRow
  exact List.map_congr_left fun i hi => h i (List.mem_range.1 hi)
theorem dRow_get {c : Cf} {m : List Int} {w t : Int} {n i : Nat} (h : i < n) : (dRow c m w t n).getD i 0 = mLoad m (lSlot c w (wrapU (t + i))) := by
  simp [dRow, List.getD_eq_getElem?_getD, h]
theorem dRow_drop {c : Cf} {m : List Int} {w t : Int} {n : Nat} (ht : InU t) : (dRow c m w t (n + 1)).drop 1 = dRow c m w (wrapU (t + 1)) n := by
  apply List.ext_getElem
  · simp [dRow]
  · intro i h1 h2
    simp [dRow]
    congr 1
    have : wrapU (t + ((1 + i : Nat) : Int)) = wrapU (wrapU (t + 1) + (i : Int)) := by rw [wrapU_eq, wrapU_eq, wrapU_eq]; omega
    rw [← this]
    congr 2
    omega

theorem slot_eq {c : Cf} {m : List Int} {w : Int} (h : Lay c m w) {x y : Int} (e : x % 18446744073709551616 = y % 18446744073709551616) : lSlot c w x = lSlot c w y := by
  rw [h.ss, e]
theorem slot_ne {c : Cf} {m : List Int} {w : Int} (h : Lay c m w) {t : Int} (ht : InU t) {i j : Nat} (hi : (i : Int) < c.d) (hj : (j : Int) < c.d) (hij : i ≠ j) : lSlot c w (wrapU (t + i)) ≠ lSlot c w (wrapU (t + j)) := by
  rw [Ne, h.ss, wrapU_eq, wrapU_eq]
  unfold InU at ht
  rcases h.dpos with e | e | e | e | e <;> rw [e] at hi hj ⊢ <;> omega

theorem dNum_wrap {c : Cf} {m : List Int} {w : Int} (hm : InM m) (h : 0 ≤ dNum c m w) : wrapU (mLoad m (lBottom c w) - mLoad m (lTop c w)) = dNum c m w := by
  unfold dNum at *
  have a := load_u hm (lBottom c w)
  have b := load_u hm (lTop c w)
  rw [far_eq a b] at *
  rw [wrapU_eq]
  unfold InU at a b
  omega

/-- A push, four steps. -/
theorem push_1 {c : Cf} {m : List Int} {w v : Int} (h : Lay c m w) : pStep c m ⟨0, 0, w, v, 0, 0, 0⟩ = (m, ⟨0, 1, w, v, mLoad m (lBottom c w), 0, 0⟩) := by
  have : goes c m ⟨0, 0, w, v, 0, 0, 0⟩ 0 4 = true := goes_iff.2 ⟨h, rfl, rfl, by simp, by simp⟩
  simp [pStep, this]
theorem push_2f {c : Cf} {m : List Int} {w v x : Int} (h : Lay c m w) (hf : c.d ≤ wrapU (x - mLoad m (lTop c w))) : pStep c m ⟨0, 1, w, v, x, 0, 0⟩ = (m, ⟨0, 0, w, v, 0, 0, 2⟩) := by
  have : goes c m ⟨0, 1, w, v, x, 0, 0⟩ 0 4 = true := goes_iff.2 ⟨h, rfl, rfl, by simp, by simp⟩
  simp [pStep, this, hf, fEnd]
theorem push_2 {c : Cf} {m : List Int} {w v x : Int} (h : Lay c m w) (hf : ¬ c.d ≤ wrapU (x - mLoad m (lTop c w))) : pStep c m ⟨0, 1, w, v, x, 0, 0⟩ = (m, ⟨0, 2, w, v, x, mLoad m (lTop c w), 0⟩) := by
  have : goes c m ⟨0, 1, w, v, x, 0, 0⟩ 0 4 = true := goes_iff.2 ⟨h, rfl, rfl, by simp, by simp⟩
  simp [pStep, this, hf]
theorem push_3 {c : Cf} {m : List Int} {w v x y : Int} (h : Lay c m w) : pStep c m ⟨0, 2, w, v, x, y, 0⟩ = (mStore m (lSlot c w x) v, ⟨0, 3, w, v, x, y, 0⟩) := by
  have : goes c m ⟨0, 2, w, v, x, y, 0⟩ 0 4 = true := goes_iff.2 ⟨h, rfl, rfl, by simp, by simp⟩
  simp [pStep, this]
theorem push_4 {c : Cf} {m : List Int} {w v x y : Int} (h : Lay c m w) : pStep c m ⟨0, 3, w, v, x, y, 0⟩ = (mStore m (lBottom c w) (wrapU (x + 1)), ⟨0, 0, w, v, 0, 0, 1⟩) := by
  have : goes c m ⟨0, 3, w, v, x, y, 0⟩ 0 4 = true := goes_iff.2 ⟨h, rfl, rfl, by simp, by simp⟩
  simp [pStep, this, fEnd]
theorem push_over {c : Cf} {m : List Int} {f : Fr} (h : f.res ≠ 0) : pStep c m f = (m, f) := pStep_no (goes_over h)

/-- The list behind a push. -/
theorem push_list {c : Cf} {m : List Int} {w v : Int} (hm : InM m) (hi : dIs c m w = true) (hn : dNum c m w < c.d) :
    dIs c (mStore (mStore m (lSlot c w (mLoad m (lBottom c w))) v) (lBottom c w) (wrapU (mLoad m (lBottom c w) + 1))) w = true ∧
    dList c (mStore (mStore m (lSlot c w (mLoad m (lBottom c w))) v) (lBottom c w) (wrapU (mLoad m (lBottom c w) + 1))) w = dList c m w ++ [v] := by
  obtain ⟨h, h1, h2⟩ := dIs_iff.1 hi
  generalize hb : mLoad m (lBottom c w) = b
  have hbu := load_u hm (lBottom c w)
  have htu := load_u hm (lTop c w)
  have hd := h.dpos
  have tb := h.tb
  have ts := h.ts b
  have bs := h.bs b
  let M := mStore (mStore m (lSlot c w b) v) (lBottom c w) (wrapU (b + 1))
  have h' : Lay c (mStore m (lSlot c w b) v) w := h.store _ _
  have hM : Lay c M w := h'.store _ _
  have t' : mLoad M (lTop c w) = mLoad m (lTop c w) := by
    show mLoad (mStore (mStore m _ _) _ _) _ = _
    rw [load_other tb.symm, load_other ts.symm]
  have b' : mLoad M (lBottom c w) = wrapU (b + 1) := load_store h'.in_bottom _
  have n' : dNum c M w = dNum c m w + 1 := by
    unfold dNum at *
    rw [t', b', hb]
    rw [hb, far_eq (hb ▸ hbu) htu] at h1 h2 hn
    rw [far_eq (wrapU_u _) htu, far_eq (hb ▸ hbu) htu, wrapU_eq]
    rw [hb] at hbu
    unfold InU at hbu htu
    omega
  have hi' : dIs c M w = true := dIs_iff.2 ⟨hM, by omega, by omega⟩
  refine ⟨hi', ?_⟩
  show dList c M w = _
  rw [dList_eq hi', dList_eq hi, n', t']
  have e : (dNum c m w + 1).toNat = (dNum c m w).toNat + 1 := by omega
  rw [e, dRow_succ]
  have bw : wrapU (mLoad m (lTop c w) + ((dNum c m w).toNat : Int)) % 18446744073709551616 = b % 18446744073709551616 := by
    rw [wrapU_eq]
    unfold dNum at *
    rw [hb, far_eq (hb ▸ hbu) htu] at h1 h2 ⊢
    rw [hb] at hbu
    unfold InU at hbu htu
    omega
  have sb := slot_eq h bw
  congr 1
  · refine dRow_congr fun i hi => ?_
    show mLoad (mStore (mStore m _ _) _ _) _ = _
    rw [load_other (h.bs _), load_other]
    rw [← sb]
    exact slot_ne h htu (by omega) (by omega) (by omega)
  · rw [sb]
    show [mLoad (mStore (mStore m _ _) _ _) _] = _
    rw [load_other (h.bs _), load_store (h.in_slot _)]
end Go.Vai
/- Deques by lists: a pop and a steal, alone. -/
namespace Go.Vai
open Go.RowKit
set_option linter.unusedVariables false
set_option linter.unusedSimpArgs false

theorem store_store {m : List Int} (i v w : Int) : mStore (mStore m i v) i w = mStore m i w := by
  unfold mStore
  cases h : isIn m i with
  | false => simp [h]
  | true =>
    have h' : isIn (m.set i.toNat v) i = true := by simpa [isIn] using h
    simp [h']
theorem store_same {m : List Int} {i : Int} : mStore m i (mLoad m i) = m := by
  unfold mStore
  split
  · rename_i h
    obtain ⟨_, _, h3⟩ := isIn_true h
    rw [load_in h, set_self h3]
  · rfl

theorem goes_o {c : Cf} {m : List Int} {w pc val x y : Int} (h : Lay c m w) (h0 : 0 ≤ pc) (h1 : pc < 7) : goes c m ⟨1, pc, w, val, x, y, 0⟩ 1 7 = true := goes_iff.2 ⟨h, rfl, rfl, h0, h1⟩
theorem goes_s {c : Cf} {m : List Int} {w pc val x y : Int} (h : Lay c m w) (h0 : 0 ≤ pc) (h1 : pc < 4) : goes c m ⟨2, pc, w, val, x, y, 0⟩ 2 4 = true := goes_iff.2 ⟨h, rfl, rfl, h0, h1⟩

section
variable {c : Cf} {m : List Int} {w v x y : Int}
theorem pop_1 (h : Lay c m w) : oStep c m ⟨1, 0, w, v, x, y, 0⟩ = (m, ⟨1, 1, w, v, wrapU (mLoad m (lBottom c w) - 1), y, 0⟩) := by
  simp [oStep, goes_o h]
theorem pop_2 (h : Lay c m w) : oStep c m ⟨1, 1, w, v, x, y, 0⟩ = (mStore m (lBottom c w) x, ⟨1, 2, w, v, x, y, 0⟩) := by
  simp [oStep, goes_o h]
theorem pop_3e (h : Lay c m w) (hf : far x (mLoad m (lTop c w)) < 0) : oStep c m ⟨1, 2, w, v, x, y, 0⟩ = (m, ⟨1, 6, w, v, x, mLoad m (lTop c w), 0⟩) := by
  simp [oStep, goes_o h, hf]
theorem pop_3 (h : Lay c m w) (hf : ¬ far x (mLoad m (lTop c w)) < 0) : oStep c m ⟨1, 2, w, v, x, y, 0⟩ = (m, ⟨1, 3, w, v, x, mLoad m (lTop c w), 0⟩) := by
  simp [oStep, goes_o h, hf]
theorem pop_4d (h : Lay c m w) (hf : x ≠ y) : oStep c m ⟨1, 3, w, v, x, y, 0⟩ = (m, ⟨1, 0, w, mLoad m (lSlot c w x), 0, 0, 1⟩) := by
  simp [oStep, goes_o h, hf, fEnd]
theorem pop_4 (h : Lay c m w) (hf : x = y) : oStep c m ⟨1, 3, w, v, x, y, 0⟩ = (m, ⟨1, 4, w, mLoad m (lSlot c w x), x, y, 0⟩) := by
  simp [oStep, goes_o h, hf]
theorem pop_5 (h : Lay c m w) : oStep c m ⟨1, 4, w, v, x, y, 0⟩ = (mCas m (lTop c w) y (wrapU (y + 1)), ⟨1, if mCasB m (lTop c w) y = true then 5 else 6, w, v, x, y, 0⟩) := by
  simp [oStep, goes_o h]
theorem pop_6 (h : Lay c m w) : oStep c m ⟨1, 5, w, v, x, y, 0⟩ = (mStore m (lBottom c w) (wrapU (x + 1)), ⟨1, 0, w, v, 0, 0, 1⟩) := by
  simp [oStep, goes_o h, fEnd]
theorem pop_7 (h : Lay c m w) : oStep c m ⟨1, 6, w, v, x, y, 0⟩ = (mStore m (lBottom c w) (wrapU (x + 1)), ⟨1, 0, w, 0, 0, 0, 3⟩) := by
  simp [oStep, goes_o h, fEnd]
theorem steal_1 (h : Lay c m w) : sStep c m ⟨2, 0, w, v, x, y, 0⟩ = (m, ⟨2, 1, w, v, x, mLoad m (lTop c w), 0⟩) := by
  simp [sStep, goes_s h]
theorem steal_2e (h : Lay c m w) (hf : far (mLoad m (lBottom c w)) y ≤ 0) : sStep c m ⟨2, 1, w, v, x, y, 0⟩ = (m, ⟨2, 0, w, 0, 0, 0, 3⟩) := by
  simp [sStep, goes_s h, hf, fEnd]
theorem steal_2 (h : Lay c m w) (hf : ¬ far (mLoad m (lBottom c w)) y ≤ 0) : sStep c m ⟨2, 1, w, v, x, y, 0⟩ = (m, ⟨2, 2, w, v, mLoad m (lBottom c w), y, 0⟩) := by
  simp [sStep, goes_s h, hf]
theorem steal_3 (h : Lay c m w) : sStep c m ⟨2, 2, w, v, x, y, 0⟩ = (m, ⟨2, 3, w, mLoad m (lSlot c w y), x, y, 0⟩) := by
  simp [sStep, goes_s h]
theorem steal_4 (h : Lay c m w) (hc : mCasB m (lTop c w) y = true) : sStep c m ⟨2, 3, w, v, x, y, 0⟩ = (mStore m (lTop c w) (wrapU (y + 1)), ⟨2, 0, w, v, 0, 0, 1⟩) := by
  simp [sStep, goes_s h, hc, fEnd, cas_store hc]
theorem steal_4a (h : Lay c m w) (hc : mCasB m (lTop c w) y = false) : sStep c m ⟨2, 3, w, v, x, y, 0⟩ = (m, ⟨2, 0, w, 0, 0, 0, 4⟩) := by
  simp [sStep, goes_s h, hc, fEnd]
theorem pop_over {f : Fr} (h : f.res ≠ 0) : oStep c m f = (m, f) := oStep_no (goes_over h)
theorem steal_over {f : Fr} (h : f.res ≠ 0) : sStep c m f = (m, f) := sStep_no (goes_over h)
theorem casB_top (h : Lay c m w) : mCasB m (lTop c w) (mLoad m (lTop c w)) = true := by simp [mCasB, h.in_top]
end

/-- What a deque is: its cells' two numbers, and how far they are apart. -/
structure Deq (c : Cf) (m : List Int) (w t b : Int) (n : Nat) : Prop where
  lay : Lay c m w
  top : mLoad m (lTop c w) = t
  bot : mLoad m (lBottom c w) = b
  tu : InU t
  bu : InU b
  num : b = wrapU (t + n)
  room : (n : Int) ≤ c.d

theorem deq_of {c : Cf} {m : List Int} {w : Int} (hm : InM m) (hi : dIs c m w = true) : Deq c m w (mLoad m (lTop c w)) (mLoad m (lBottom c w)) (dNum c m w).toNat := by
  obtain ⟨h, h1, h2⟩ := dIs_iff.1 hi
  have htu := load_u hm (lTop c w)
  have hbu := load_u hm (lBottom c w)
  refine ⟨h, rfl, rfl, htu, hbu, ?_, by omega⟩
  unfold dNum at *
  rw [far_eq hbu htu] at *
  rw [wrapU_eq]
  unfold InU at hbu htu
  omega

theorem Deq.is {c : Cf} {m : List Int} {w t b : Int} {n : Nat} (h : Deq c m w t b n) : dNum c m w = n ∧ dIs c m w = true ∧ dList c m w = dRow c m w t n := by
  have hn : dNum c m w = n := by
    unfold dNum
    rw [h.top, h.bot, far_eq h.bu h.tu]
    have e := h.num
    rw [wrapU_eq] at e
    have h1 := h.tu
    have h2 := h.bu
    have h3 := h.room
    have h4 := h.lay.dpos
    unfold InU at h1 h2
    omega
  have hi : dIs c m w = true := dIs_iff.2 ⟨h.lay, by omega, by rw [hn]; exact h.room⟩
  refine ⟨hn, hi, ?_⟩
  rw [dList_eq hi, hn, h.top]
  congr 1

theorem dList_of {c : Cf} {m : List Int} {w : Int} (hi : dIs c m w = true) : dList c m w = dRow c m w (mLoad m (lTop c w)) (dNum c m w).toNat := dList_eq hi

/-- The bottom is set. -/
theorem Deq.setBottom {c : Cf} {m : List Int} {w t b : Int} {n k : Nat} (h : Deq c m w t b n) (hk : (k : Int) ≤ c.d) : Deq c (mStore m (lBottom c w) (wrapU (t + k))) w t (wrapU (t + k)) k where
  lay := h.lay.store _ _
  top := by rw [load_other h.lay.tb.symm, h.top]
  bot := load_store h.lay.in_bottom _
  tu := h.tu
  bu := wrapU_u _
  num := rfl
  room := hk
/-- The top goes on by one. -/
theorem Deq.incTop {c : Cf} {m : List Int} {w t b : Int} {n : Nat} (h : Deq c m w t b (n + 1)) : Deq c (mStore m (lTop c w) (wrapU (t + 1))) w (wrapU (t + 1)) b n where
  lay := h.lay.store _ _
  top := load_store h.lay.in_top _
  bot := by rw [load_other h.lay.tb, h.bot]
  tu := wrapU_u _
  bu := h.bu
  num := by
    have e := h.num
    rw [wrapU_eq] at e
    rw [e, wrapU_eq, wrapU_eq]
    omega
  room := by have := h.room; omega
/-- A slot is set. -/
theorem Deq.setSlot {c : Cf} {m : List Int} {w t b : Int} {n : Nat} (h : Deq c m w t b n) (x v : Int) : Deq c (mStore m (lSlot c w x) v) w t b n where
  lay := h.lay.store _ _
  top := by rw [load_other (h.lay.ts x).symm, h.top]
  bot := by rw [load_other (h.lay.bs x).symm, h.bot]
  tu := h.tu
  bu := h.bu
  num := h.num
  room := h.room

theorem row_bottom {c : Cf} {m : List Int} {w t : Int} (h : Lay c m w) (n : Nat) (v : Int) : dRow c (mStore m (lBottom c w) v) w t n = dRow c m w t n :=
  dRow_congr fun i _ => load_other (h.bs _) _
theorem row_top {c : Cf} {m : List Int} {w t : Int} (h : Lay c m w) (n : Nat) (v : Int) : dRow c (mStore m (lTop c w) v) w t n = dRow c m w t n :=
  dRow_congr fun i _ => load_other (h.ts _) _
theorem row_slot {c : Cf} {m : List Int} {w t : Int} (h : Lay c m w) (ht : InU t) {n k : Nat} (hn : (n : Int) ≤ c.d) (hk : (k : Int) < c.d) (hnk : n ≤ k) (v : Int) : dRow c (mStore m (lSlot c w (wrapU (t + k))) v) w t n = dRow c m w t n :=
  dRow_congr fun i hi => load_other (slot_ne h ht hk (by omega) (by omega)) _
theorem row_take {c : Cf} {m : List Int} {w t : Int} {n k : Nat} (h : k ≤ n) : (dRow c m w t n).take k = dRow c m w t k := by
  simp only [dRow, ← List.map_take, List.take_range]
  congr 2
  omega
end Go.Vai
/- Deques by lists: what a push leaves as it is. -/
namespace Go.Vai
open Go.RowKit
set_option linter.unusedVariables false
set_option linter.unusedSimpArgs false

theorem list_congr {c : Cf} {m m' : List Int} {k : Int} (hl : m'.length = m.length) (h : Lay c m k → mLoad m' (lTop c k) = mLoad m (lTop c k) ∧ mLoad m' (lBottom c k) = mLoad m (lBottom c k) ∧ ∀ x, mLoad m' (lSlot c k x) = mLoad m (lSlot c k x)) :
    dIs c m' k = dIs c m k ∧ dList c m' k = dList c m k := by
  by_cases hL : Lay c m k
  · obtain ⟨h1, h2, h3⟩ := h hL
    have hn : dNum c m' k = dNum c m k := by unfold dNum; rw [h1, h2]
    have hi : dIs c m' k = dIs c m k := by unfold dIs; rw [hn, hl]
    refine ⟨hi, ?_⟩
    cases e : dIs c m k with
    | false =>
      rw [e] at hi
      simp [dList, e, hi]
    | true =>
      rw [e] at hi
      rw [dList_eq e, dList_eq hi, hn, h1]
      exact dRow_congr fun i _ => h3 _
  · have a : dIs c m k = false := by rw [Bool.eq_false_iff]; intro e; exact hL (dIs_iff.1 e).1
    have b : dIs c m' k = false := by
      rw [Bool.eq_false_iff]; intro e
      have := (dIs_iff.1 e).1
      exact hL ⟨this.may, by rw [← hl]; exact this.len, this.lo, this.hi⟩
    exact ⟨by rw [a, b], by simp [dList, a, b]⟩

/-- A store at another worker's cells. -/
theorem list_other {c : Cf} {m : List Int} {w k i v : Int} (hw : Lay c m w) (hne : w ≠ k) (hi : lBase c w ≤ i ∧ i < lBase c w + 3 + c.d) :
    dIs c (mStore m i v) k = dIs c m k ∧ dList c (mStore m i v) k = dList c m k := by
  refine list_congr (len_store ..) fun hk => ?_
  have ha := hw.apart hk hne
  have hs : ∀ x, lBase c k ≤ lSlot c k x ∧ lSlot c k x < lBase c k + 3 + c.d := by
    intro x
    rw [hk.slot]
    rcases hk.dpos with e | e | e | e | e <;> rw [e] <;> omega
  have hd := hk.dpos
  refine ⟨load_other ?_ _, load_other ?_ _, fun x => load_other ?_ _⟩
  · rw [hk.top]; omega
  · rw [hk.bottom]; omega
  · have := hs x; omega

theorem top_at {c : Cf} {m : List Int} {w : Int} (h : Lay c m w) : lBase c w ≤ lTop c w ∧ lTop c w < lBase c w + 3 + c.d := by
  have := h.dpos; rw [h.top]; omega
theorem bottom_at {c : Cf} {m : List Int} {w : Int} (h : Lay c m w) : lBase c w ≤ lBottom c w ∧ lBottom c w < lBase c w + 3 + c.d := by
  have := h.dpos; rw [h.bottom]; omega
theorem slot_at {c : Cf} {m : List Int} {w : Int} (h : Lay c m w) (x : Int) : lBase c w ≤ lSlot c w x ∧ lSlot c w x < lBase c w + 3 + c.d := by
  rw [h.slot]
  rcases h.dpos with e | e | e | e | e <;> rw [e] <;> omega

/-- Ahead of its last step a push is not seen. -/
theorem push_seen {c : Cf} {m : List Int} {w v : Int} (hm : InM m) (hi : dIs c m w = true) (hn : dNum c m w < c.d) :
    dIs c (mStore m (lSlot c w (mLoad m (lBottom c w))) v) w = true ∧ dList c (mStore m (lSlot c w (mLoad m (lBottom c w))) v) w = dList c m w := by
  have D := deq_of hm hi
  obtain ⟨h, h1, h2⟩ := dIs_iff.1 hi
  obtain ⟨a1, a2, a3⟩ := D.is
  obtain ⟨b1, b2, b3⟩ := (D.setSlot (mLoad m (lBottom c w)) v).is
  refine ⟨b2, ?_⟩
  rw [b3, a3]
  have e := D.num
  conv => lhs; rw [e]
  exact row_slot h D.tu D.room (by omega) (Nat.le_refl _) v

theorem list_len {c : Cf} {m : List Int} {w : Int} (hi : dIs c m w = true) : ((dList c m w).length : Int) = dNum c m w := by
  obtain ⟨h, h1, h2⟩ := dIs_iff.1 hi
  rw [dList_eq hi, dRow_len]; omega

/-- Four steps of a push, alone: the states, and what comes of it. -/
theorem push_alone {c : Cf} {m : List Int} {w v : Int} (hm : InM m) (hi : dIs c m w = true) :
    ∃ m1 f1 m2 f2 m3 f3 m4 f4, pStep c m ⟨0, 0, w, v, 0, 0, 0⟩ = (m1, f1) ∧ pStep c m1 f1 = (m2, f2) ∧ pStep c m2 f2 = (m3, f3) ∧ pStep c m3 f3 = (m4, f4) ∧
      m1.length = m.length ∧ m2.length = m.length ∧ m3.length = m.length ∧ m4.length = m.length ∧
      dIs c m4 w = true ∧ fOnce (dList c m w) c.d ⟨0, 0, w, v, 0, 0, 0⟩ = (dList c m4 w, f4) := by
  obtain ⟨h, h1, h2⟩ := dIs_iff.1 hi
  have hl := list_len hi
  have hw := dNum_wrap hm h1
  by_cases hn : dNum c m w < c.d
  · obtain ⟨k1, k2⟩ := push_list (v := v) hm hi hn
    have hs : Lay c (mStore m (lSlot c w (mLoad m (lBottom c w))) v) w := h.store _ _
    refine ⟨_, _, _, _, _, _, _, _, push_1 h, push_2 h (by rw [hw]; omega), push_3 h, push_4 hs, rfl, rfl, len_store .., by rw [len_store, len_store], k1, ?_⟩
    rw [k2]
    simp [fOnce, fEnd, show ¬ c.d ≤ ((dList c m w).length : Int) by omega]
  · refine ⟨_, _, _, _, _, _, _, _, push_1 h, push_2f h (by rw [hw]; omega), push_over (by simp), push_over (by simp), rfl, rfl, rfl, rfl, hi, ?_⟩
    simp [fOnce, fEnd, show c.d ≤ ((dList c m w).length : Int) by omega]

/-- Four steps of a push at another worker's deque. -/
theorem push_other {c : Cf} {m : List Int} {w v k : Int} (hne : k ≠ w) :
    ∃ m1 f1 m2 f2 m3 f3 m4 f4, pStep c m ⟨0, 0, w, v, 0, 0, 0⟩ = (m1, f1) ∧ pStep c m1 f1 = (m2, f2) ∧ pStep c m2 f2 = (m3, f3) ∧ pStep c m3 f3 = (m4, f4) ∧
      m1.length = m.length ∧ m2.length = m.length ∧ m3.length = m.length ∧ m4.length = m.length ∧ dIs c m4 k = dIs c m k ∧ dList c m4 k = dList c m k := by
  by_cases h : Lay c m w
  · by_cases hf : c.d ≤ wrapU (mLoad m (lBottom c w) - mLoad m (lTop c w))
    · exact ⟨_, _, _, _, _, _, _, _, push_1 h, push_2f h hf, push_over (by simp), push_over (by simp), rfl, rfl, rfl, rfl, rfl, rfl⟩
    · have hs : Lay c (mStore m (lSlot c w (mLoad m (lBottom c w))) v) w := h.store _ _
      have o1 := list_other (v := v) h hne.symm (slot_at h (mLoad m (lBottom c w)))
      have o2 := list_other (v := wrapU (mLoad m (lBottom c w) + 1)) hs hne.symm (bottom_at h)
      refine ⟨_, _, _, _, _, _, _, _, push_1 h, push_2 h hf, push_3 h, push_4 hs, rfl, rfl, len_store .., by rw [len_store, len_store], o2.1.trans o1.1, o2.2.trans o1.2⟩
  · have s : pStep c m ⟨0, 0, w, v, 0, 0, 0⟩ = (m, ⟨0, 0, w, v, 0, 0, 0⟩) := pStep_no (goes_lay h)
    exact ⟨_, _, _, _, _, _, _, _, s, s, s, s, rfl, rfl, rfl, rfl, rfl, rfl⟩
end Go.Vai
/- In how many cells two lists differ, and in which one last. -/
namespace Go.Vai
open Go.RowKit
set_option linter.unusedVariables false
set_option linter.unusedSimpArgs false

def cntD (a m : List Int) : Nat → Int × Int
  | 0 => (0, -1)
  | i + 1 => if (a.getD i 0 != m.getD i 0) = true then ((cntD a m i).1 + 1, i) else cntD a m i

theorem cntD_le (a m : List Int) : ∀ i, 0 ≤ (cntD a m i).1 ∧ (cntD a m i).1 ≤ i
  | 0 => by simp [cntD]
  | i + 1 => by
    have := cntD_le a m i
    unfold cntD
    split
    · dsimp only; omega
    · omega
theorem cntD_eq {a m : List Int} (h : ∀ k, a.getD k 0 = m.getD k 0) : ∀ i, cntD a m i = (0, -1)
  | 0 => rfl
  | i + 1 => by unfold cntD; rw [if_neg (by rw [h i]; simp), cntD_eq h i]
theorem cntD_one {a m : List Int} {j : Nat} (h : ∀ k, k ≠ j → a.getD k 0 = m.getD k 0) (hj : a.getD j 0 ≠ m.getD j 0) : ∀ i, cntD a m i = if j < i then (1, (j : Int)) else (0, -1)
  | 0 => rfl
  | i + 1 => by
    unfold cntD
    rw [cntD_one h hj i]
    by_cases e : i = j
    · subst e
      rw [if_pos (by simpa using hj), if_neg (Nat.lt_irrefl _), if_pos (Nat.lt_succ_self _)]
      rfl
    · rw [if_neg (by rw [h i e]; simp)]
      by_cases l : j < i
      · rw [if_pos l, if_pos (by omega)]
      · rw [if_neg l, if_neg (by omega)]

theorem cnt_same (m : List Int) : cntD m m m.length = (0, -1) := cntD_eq (fun _ => rfl) _
/-- A store: nothing differs, or that cell alone. -/
theorem cnt_store {m : List Int} {k v : Int} (h : isIn m k = true) : cntD (mStore m k v) m m.length = (0, -1) ∨ cntD (mStore m k v) m m.length = (1, k) := by
  obtain ⟨h1, h2, h3⟩ := isIn_true h
  have e : mStore m k v = m.set k.toNat v := by simp [mStore, h]
  have ho : ∀ j, j ≠ k.toNat → (mStore m k v).getD j 0 = m.getD j 0 := by
    intro j hj
    rw [e]
    simp [List.getD_eq_getElem?_getD, List.getElem?_set, hj.symm]
  by_cases hv : (mStore m k v).getD k.toNat 0 = m.getD k.toNat 0
  · left
    refine cntD_eq (fun j => ?_) _
    by_cases hj : j = k.toNat
    · rw [hj]; exact hv
    · exact ho j hj
  · right
    rw [cntD_one ho hv, if_pos h3]
    congr 1
    omega
end Go.Vai
/- Deques by lists: pops and steals alone. -/
namespace Go.Vai
open Go.RowKit
set_option linter.unusedVariables false
set_option linter.unusedSimpArgs false

/-- Steps, one behind the other. -/
def run (st : List Int → Fr → List Int × Fr) : Nat → List Int × Fr → List Int × Fr
  | 0, s => s
  | k + 1, s => run st k (st s.1 s.2)
theorem run_succ (st : List Int → Fr → List Int × Fr) (k : Nat) (m : List Int) (f : Fr) : run st (k + 1) (m, f) = run st k (st m f) := rfl
theorem run_pop_over {c : Cf} {m : List Int} {f : Fr} (h : f.res ≠ 0) : ∀ k, run (oStep c) k (m, f) = (m, f)
  | 0 => rfl
  | k + 1 => by rw [run_succ, pop_over h]; exact run_pop_over h k
theorem run_steal_over {c : Cf} {m : List Int} {f : Fr} (h : f.res ≠ 0) : ∀ k, run (sStep c) k (m, f) = (m, f)
  | 0 => rfl
  | k + 1 => by rw [run_succ, steal_over h]; exact run_steal_over h k

/-- What a pop, alone, comes to. -/
structure Popped (c : Cf) (m : List Int) (w : Int) (s : List Int × Fr) : Prop where
  is : dIs c s.1 w = true
  once : fOnce (dList c m w) c.d ⟨1, 0, w, 0, 0, 0, 0⟩ = (dList c s.1 w, s.2)
  inm : InM s.1

theorem pop_alone {c : Cf} {m : List Int} {w : Int} (hm : InM m) (hi : dIs c m w = true) : Popped c m w (run (oStep c) 7 (m, ⟨1, 0, w, 0, 0, 0, 0⟩)) := by
  have D := deq_of hm hi
  generalize hn : (dNum c m w).toNat = n at D
  generalize ht : mLoad m (lTop c w) = t at D
  generalize hb : mLoad m (lBottom c w) = b at D
  have h := D.lay
  obtain ⟨_, _, hL⟩ := D.is
  have htu := D.tu
  have hbu := D.bu
  have hnum := D.num
  have hroom := D.room
  have hd := h.dpos
  have h16 : c.d ≤ 16 := by omega
  rw [run_succ, pop_1 h, run_succ, pop_2 h, hb]
  cases n with
  | zero =>
    have hx : wrapU (wrapU (b - 1) + 1) = b := by rw [wrapU_eq, wrapU_eq]; unfold InU at hbu; omega
    have h' : Lay c (mStore m (lBottom c w) (wrapU (b - 1))) w := h.store _ _
    have ht' : mLoad (mStore m (lBottom c w) (wrapU (b - 1))) (lTop c w) = t := by rw [load_other h.tb.symm, ht]
    have hf : far (wrapU (b - 1)) (mLoad (mStore m (lBottom c w) (wrapU (b - 1))) (lTop c w)) < 0 := by
      rw [ht', far_eq (wrapU_u _) htu, wrapU_eq]
      rw [wrapU_eq] at hnum
      unfold InU at hbu htu
      omega
    rw [run_succ, pop_3e h' hf, run_succ, pop_7 h', run_pop_over (by simp), hx]
    have e : mStore (mStore m (lBottom c w) (wrapU (b - 1))) (lBottom c w) b = m := by rw [store_store, ← hb, store_same]
    refine ⟨?_, ?_, ?_⟩ <;> dsimp only <;> rw [e]
    · exact hi
    · rw [hL]; rfl
    · exact hm
  | succ k =>
    have hx : wrapU (b - 1) = wrapU (t + k) := by rw [wrapU_eq, wrapU_eq]; rw [wrapU_eq] at hnum; omega
    rw [hx]
    have D1 := D.setBottom (k := k) (by omega)
    have h' := D1.lay
    have hf : ¬ far (wrapU (t + k)) (mLoad (mStore m (lBottom c w) (wrapU (t + k))) (lTop c w)) < 0 := by
      rw [D1.top, far_eq (wrapU_u _) htu, wrapU_eq]
      unfold InU at htu
      omega
    rw [run_succ, pop_3 h' hf, run_succ, D1.top]
    have hm1 : InM (mStore m (lBottom c w) (wrapU (t + k))) := store_u hm (wrapU_u _)
    have hv : mLoad (mStore m (lBottom c w) (wrapU (t + k))) (lSlot c w (wrapU (t + k))) = (dList c m w).getD k 0 := by
      rw [load_other (h.bs _), hL, dRow_get (by omega)]
    have hlen : (dList c m w).length = k + 1 := by rw [hL, dRow_len]
    have hne : dList c m w ≠ [] := by intro e; rw [e] at hlen; simp at hlen
    have honce : fOnce (dList c m w) c.d ⟨1, 0, w, 0, 0, 0, 0⟩ = ((dList c m w).take k, ⟨1, 0, w, (dList c m w).getD k 0, 0, 0, 1⟩) := by
      simp [fOnce, fEnd, hne, hlen]
    have htk : (dList c m w).take k = dRow c m w t k := by rw [hL, row_take (by omega)]
    by_cases hk : k = 0
    · subst hk
      have hx0 : wrapU (t + ((0 : Nat) : Int)) = t := by rw [wrapU_eq]; unfold InU at htu; omega
      rw [hx0] at hv D1 h' hm1 ⊢
      rw [pop_4 h' rfl, run_succ, pop_5 h']
      have hcas : mCasB (mStore m (lBottom c w) t) (lTop c w) t = true := by
        have := casB_top h'
        rw [D1.top] at this
        exact this
      rw [cas_store hcas, if_pos hcas, run_succ]
      have h2 : Lay c (mStore (mStore m (lBottom c w) t) (lTop c w) (wrapU (t + 1))) w := h'.store _ _
      rw [pop_6 h2, run_pop_over (by simp), hv]
      have D3 : Deq c (mStore (mStore (mStore m (lBottom c w) t) (lTop c w) (wrapU (t + 1))) (lBottom c w) (wrapU (t + 1))) w (wrapU (t + 1)) (wrapU (t + 1)) 0 :=
        { lay := h2.store _ _, top := by rw [load_other h.tb.symm, load_store h'.in_top], bot := load_store h2.in_bottom _, tu := wrapU_u _, bu := wrapU_u _,
          num := by rw [wrapU_eq, wrapU_eq]; omega, room := by omega }
      obtain ⟨_, i3, l3⟩ := D3.is
      refine ⟨i3, ?_, store_u (store_u hm1 (wrapU_u _)) (wrapU_u _)⟩
      dsimp only
      rw [honce, l3]
      rfl
    · have hxy : wrapU (t + (k : Int)) ≠ t := by rw [wrapU_eq]; unfold InU at htu; omega
      rw [pop_4d h' hxy, run_pop_over (by simp), hv]
      obtain ⟨_, i1, l1⟩ := D1.is
      refine ⟨i1, ?_, hm1⟩
      dsimp only
      rw [honce, l1, row_bottom h, htk]

/-- Whatever the deque is like. -/
theorem pop_ends {c : Cf} {m : List Int} {w : Int} (h : Lay c m w) : ∃ m' v, run (oStep c) 7 (m, ⟨1, 0, w, 0, 0, 0, 0⟩) = (m', ⟨1, 0, w, v, 0, 0, 1⟩) ∨ run (oStep c) 7 (m, ⟨1, 0, w, 0, 0, 0, 0⟩) = (m', ⟨1, 0, w, 0, 0, 0, 3⟩) := by
  rw [run_succ, pop_1 h, run_succ, pop_2 h, run_succ]
  generalize wrapU (mLoad m (lBottom c w) - 1) = x
  have h' : Lay c (mStore m (lBottom c w) x) w := h.store _ _
  by_cases hf : far x (mLoad (mStore m (lBottom c w) x) (lTop c w)) < 0
  · rw [pop_3e h' hf, run_succ, pop_7 h', run_pop_over (by simp)]
    exact ⟨_, 0, .inr rfl⟩
  · rw [pop_3 h' hf, run_succ]
    generalize hy : mLoad (mStore m (lBottom c w) x) (lTop c w) = y
    by_cases he : x = y
    · subst he
      rw [pop_4 h' rfl, run_succ, pop_5 h']
      have hcas : mCasB (mStore m (lBottom c w) x) (lTop c w) x = true := by
        have := casB_top h'
        rw [hy] at this
        exact this
      rw [cas_store hcas, if_pos hcas, run_succ, pop_6 (h'.store _ _), run_pop_over (by simp)]
      exact ⟨_, _, .inl rfl⟩
    · rw [pop_4d h' he, run_pop_over (by simp)]
      exact ⟨_, _, .inl rfl⟩

theorem fr_once_pop {c : Cf} {l : List Int} {w v : Int} : fOnce (l ++ [v]) c.d ⟨1, 0, w, 0, 0, 0, 0⟩ = (l, ⟨1, 0, w, v, 0, 0, 1⟩) := by simp [fOnce, fEnd]
end Go.Vai
/- Deques by lists: a steal alone, two steals, a steal and a push. -/
namespace Go.Vai
open Go.RowKit
set_option linter.unusedVariables false
set_option linter.unusedSimpArgs false

theorem slot_0 {c : Cf} {m : List Int} {w t : Int} (h : Lay c m w) : lSlot c w t = lSlot c w (wrapU (t + ((0 : Nat) : Int))) :=
  slot_eq h (by rw [wrapU_eq]; omega)
theorem far_0 {t : Int} (ht : InU t) : far t t = 0 := by rw [far_eq ht ht]; unfold InU at ht; omega

/-- Its first number taken. -/
theorem Deq.taken {c : Cf} {m : List Int} {w t b : Int} {k : Nat} (D : Deq c m w t b (k + 1)) :
    dIs c (mStore m (lTop c w) (wrapU (t + 1))) w = true ∧ dList c (mStore m (lTop c w) (wrapU (t + 1))) w = (dList c m w).drop 1 ∧ mLoad m (lSlot c w t) = (dList c m w).getD 0 0 ∧ far b t > 0 ∧ mCasB m (lTop c w) t = true := by
  obtain ⟨n1, _, l1⟩ := D.is
  obtain ⟨_, i2, l2⟩ := D.incTop.is
  refine ⟨i2, ?_, ?_, ?_, ?_⟩
  · rw [l2, l1, dRow_drop D.tu, row_top D.lay]
  · rw [l1, dRow_get (by omega), slot_0 D.lay]
  · have : dNum c m w = far b t := by unfold dNum; rw [D.bot, D.top]
    omega
  · have := casB_top D.lay
    rw [D.top] at this; exact this

theorem Deq.split {c : Cf} {m : List Int} {w : Int} (hm : InM m) (hi : dIs c m w = true) (hne : dList c m w ≠ []) : ∃ k : Nat, Deq c m w (mLoad m (lTop c w)) (mLoad m (lBottom c w)) (k + 1) ∧ (dList c m w).length = k + 1 := by
  have D := deq_of hm hi
  obtain ⟨n1, _, l1⟩ := D.is
  cases hn : (dNum c m w).toNat with
  | zero => rw [hn] at l1; exact (hne (by rw [l1]; rfl)).elim
  | succ k => rw [hn] at D l1; exact ⟨k, D, by rw [l1, dRow_len]⟩

theorem steal_alone {c : Cf} {m : List Int} {w : Int} (hm : InM m) (hi : dIs c m w = true) :
    dIs c (run (sStep c) 4 (m, ⟨2, 0, w, 0, 0, 0, 0⟩)).1 w = true ∧ fOnce (dList c m w) c.d ⟨2, 0, w, 0, 0, 0, 0⟩ = (dList c (run (sStep c) 4 (m, ⟨2, 0, w, 0, 0, 0, 0⟩)).1 w, (run (sStep c) 4 (m, ⟨2, 0, w, 0, 0, 0, 0⟩)).2) := by
  have D0 := deq_of hm hi
  have h := D0.lay
  by_cases hne : dList c m w = []
  · obtain ⟨n1, _, l1⟩ := D0.is
    have hf : far (mLoad m (lBottom c w)) (mLoad m (lTop c w)) ≤ 0 := by
      have : dNum c m w = far (mLoad m (lBottom c w)) (mLoad m (lTop c w)) := rfl
      have h2 := congrArg List.length l1
      rw [hne, dRow_len] at h2
      simp at h2
      omega
    rw [run_succ, steal_1 h, run_succ, steal_2e h hf, run_steal_over (by simp)]
    refine ⟨hi, ?_⟩
    dsimp only
    rw [hne]; rfl
  · obtain ⟨k, D, hl⟩ := Deq.split hm hi hne
    obtain ⟨t1, t2, t3, t4, t5⟩ := D.taken
    rw [run_succ, steal_1 h, run_succ, steal_2 h (by omega), run_succ, steal_3 h, run_succ, steal_4 h t5]
    refine ⟨t1, ?_⟩
    dsimp only [run]
    rw [t2, t3]
    simp [fOnce, fEnd, hne]

/-- One more is another one. -/
theorem inc_ne {t : Int} (ht : InU t) : wrapU (t + 1) ≠ t := by rw [wrapU_eq]; unfold InU at ht; omega
theorem casB_inc {c : Cf} {m : List Int} {w t : Int} (h : Lay c m w) (ht : InU t) : mCasB (mStore m (lTop c w) (wrapU (t + 1))) (lTop c w) t = false := by
  have : ¬ wrapU (t + 1) = t := inc_ne ht
  simp [mCasB, load_store h.in_top, this]

/-- A push while one steals: the list behind both. -/
theorem Deq.both {c : Cf} {m : List Int} {w t b v : Int} {k : Nat} (D : Deq c m w t b (k + 1)) (hroom : ((k + 1 : Nat) : Int) < c.d) :
    dIs c (mStore (mStore (mStore m (lSlot c w b) v) (lTop c w) (wrapU (t + 1))) (lBottom c w) (wrapU (b + 1))) w = true ∧
    dList c (mStore (mStore (mStore m (lSlot c w b) v) (lTop c w) (wrapU (t + 1))) (lBottom c w) (wrapU (b + 1))) w = (dList c m w).drop 1 ++ [v] := by
  have h := D.lay
  have h1 : Lay c (mStore m (lSlot c w b) v) w := h.store _ _
  have h2 : Lay c (mStore (mStore m (lSlot c w b) v) (lTop c w) (wrapU (t + 1))) w := h1.store _ _
  have hb := D.num
  have D5 : Deq c (mStore (mStore (mStore m (lSlot c w b) v) (lTop c w) (wrapU (t + 1))) (lBottom c w) (wrapU (b + 1))) w (wrapU (t + 1)) (wrapU (b + 1)) (k + 1) :=
    { lay := h2.store _ _, top := by rw [load_other h.tb.symm, load_store h1.in_top], bot := load_store h2.in_bottom _, tu := wrapU_u _, bu := wrapU_u _,
      num := by rw [hb, wrapU_eq, wrapU_eq, wrapU_eq, wrapU_eq]; omega, room := by omega }
  obtain ⟨_, i5, l5⟩ := D5.is
  obtain ⟨_, _, l0⟩ := D.is
  refine ⟨i5, ?_⟩
  rw [l5, row_bottom h2, row_top h1, dRow_succ, l0, dRow_drop D.tu]
  have e : lSlot c w (wrapU (wrapU (t + 1) + (k : Int))) = lSlot c w b := slot_eq h (by rw [hb, wrapU_eq, wrapU_eq, wrapU_eq]; omega)
  rw [e, load_store (h.in_slot _)]
  congr 1
  refine dRow_congr fun i hi => load_other ?_ _
  have e1 : lSlot c w b = lSlot c w (wrapU (t + ((k + 1 : Nat) : Int))) := by rw [hb]
  have e2 : lSlot c w (wrapU (wrapU (t + 1) + (i : Int))) = lSlot c w (wrapU (t + ((i + 1 : Nat) : Int))) := slot_eq h (by rw [wrapU_eq, wrapU_eq, wrapU_eq]; omega)
  rw [e1, e2]
  exact slot_ne h D.tu (by omega) (by omega) (by omega)
end Go.Vai
/- Lists of frames, of numbers, of truths, and lists of such, as arguments. -/
namespace Go.Vai
open Go.RowKit Go.Proofs
set_option linter.unusedVariables false

/-- How an element is read, just so. -/
structure El (α : Type) where
  dec : AV → Option α
  enc : α → AV
  ok : ∀ a x, dec a = some x → a = enc x
  inv : ∀ x, dec (enc x) = some x
  free : ∀ x, HFree (enc x)
  cfree : ∀ x, ∀ c ∈ (enc x).cells, HFree c

def dL {α : Type} (d : AV → Option α) : List AV → Option (List α)
  | [] => some []
  | x :: r => (d x).bind fun a => (dL d r).map (a :: ·)

theorem dL_map {α : Type} (E : El α) : ∀ l : List α, dL E.dec (l.map E.enc) = some l
  | [] => rfl
  | x :: l => by simp [dL, E.inv, dL_map E l]

theorem dL_some {α : Type} (E : El α) : ∀ {xs : List AV} {l : List α}, dL E.dec xs = some l → xs = l.map E.enc
  | [], l, h => by cases h; rfl
  | x :: xs, l, h => by
    simp only [dL, Option.bind_eq_some_iff, Option.map_eq_some_iff] at h
    obtain ⟨a, h1, r, h2, rfl⟩ := h
    rw [E.ok x a h1, dL_some E h2]
    rfl

def encL {α : Type} (n : Nat) (E : El α) (l : List α) : AV := .lst n (l.map E.enc)
theorem hfree_L {α : Type} (n : Nat) (E : El α) (l : List α) : HFree (encL n E l) := hfree_lst fun x hx c hc => by
  obtain ⟨y, _, rfl⟩ := List.mem_map.1 hx
  exact E.cfree y c hc

/-- A list as an argument. -/
def decL {α : Type} (n : Nat) (E : El α) (a : AV) : Option (List α) :=
  match a with
  | .lst k xs => if k = n then dL E.dec xs else none
  | .v (.slice none 0 0) => some []
  | _ => none

theorem decL_some {α : Type} {n : Nat} {E : El α} {a : AV} {l : List α} (h : decL n E a = some l) : sub1 a (encL n E l) := by
  unfold decL at h
  split at h
  · rename_i k xs
    split at h
    · rename_i hk
      subst hk
      rw [dL_some E h]; rfl
    · cases h
  · cases h; rfl
  · cases h

def shL {α : Type} (n : Nat) (E : El α) : Sh (List α) := ⟨decL n E, encL n E, fun _ _ h => decL_some h, hfree_L n E⟩
theorem shL_dec {α : Type} {n : Nat} {E : El α} (l : List α) : (shL n E).dec (.lst n (l.map E.enc)) = some l := by
  simp [shL, decL, dL_map]
theorem shL_nil {α : Type} {n : Nat} {E : El α} : (shL n E).dec (.v (.slice none 0 0)) = some [] := rfl
theorem shL_emp {α : Type} {n : Nat} {E : El α} : (shL n E).dec (.lst n []) = some [] := by
  simp [shL, decL, dL]
/-- A list as an element. -/
def elL {α : Type} (n : Nat) (E : El α) : El (List α) where
  dec := fun a => match a with | .lst k xs => if k = n then dL E.dec xs else none | _ => none
  enc := encL n E
  ok := fun a l h => by
    split at h
    · split at h
      · rename_i hk; subst hk; rw [dL_some E h]; rfl
      · cases h
    · cases h
  inv := fun l => by simp [encL, dL_map]
  free := hfree_L n E
  cfree := fun l c hc => by
    simp only [encL, AV.cells, List.mem_singleton] at hc
    subst hc; exact hfree_L n E l

theorem dF_ok {a : AV} {f : Fr} (h : dF a = some f) : a = fv f := by
  exact dF_some h
def elF : El Fr := ⟨dF, fv, fun _ _ h => dF_ok h, fun _ => rfl, hfree_fv, fun f c hc => by
  simp only [fv, AV.cells, List.mem_cons, List.not_mem_nil, or_false] at hc
  rcases hc with rfl | rfl | rfl | rfl | rfl | rfl | rfl <;> exact hfree_v _⟩
def elI : El Int := ⟨dI, iv, fun a x h => by unfold dI at h; split at h <;> cases h; rfl, fun _ => rfl, fun _ => hfree_v _, fun x c hc => by simp only [iv, AV.cells, List.mem_singleton] at hc; subst hc; exact hfree_v _⟩
def elB : El Bool := ⟨dB, bv, fun a x h => by unfold dB at h; split at h <;> cases h; rfl, fun _ => rfl, fun _ => hfree_v _, fun x c hc => by simp only [bv, AV.cells, List.mem_singleton] at hc; subst hc; exact hfree_v _⟩

def fs (l : List Fr) : AV := .lst 7 (l.map fv)
def fss (l : List (List Fr)) : AV := .lst 1 (l.map fs)
def zs (l : List Int) : AV := .lst 1 (l.map iv)
def bs (l : List Bool) : AV := .lst 1 (l.map bv)
def bss (l : List (List Bool)) : AV := .lst 1 (l.map bs)
def elFs : El (List Fr) := elL 7 elF
def elBs : El (List Bool) := elL 1 elB

def shFs : Sh (List Fr) := shL 7 elF
def shFss : Sh (List (List Fr)) := shL 1 elFs
def shZs : Sh (List Int) := shL 1 elI
def shBs : Sh (List Bool) := shL 1 elB
def shBss : Sh (List (List Bool)) := shL 1 elBs
theorem shFs_dec (l : List Fr) : shFs.dec (.lst 7 (l.map fv)) = some l := shL_dec (E := elF) l
theorem shFss_dec (l : List (List Fr)) : shFss.dec (.lst 1 (l.map fs)) = some l := shL_dec (E := elFs) l
theorem shZs_dec (l : List Int) : shZs.dec (.lst 1 (l.map iv)) = some l := shL_dec (E := elI) l
theorem shBs_dec (l : List Bool) : shBs.dec (.lst 1 (l.map bv)) = some l := shL_dec (E := elB) l
theorem shBss_dec (l : List (List Bool)) : shBss.dec (.lst 1 (l.map bs)) = some l := shL_dec (E := elBs) l
theorem shFss_nil : shFss.dec (.v (.slice none 0 0)) = some [] := rfl
theorem shFss_emp : shFss.dec (.lst 1 []) = some [] := shL_emp
theorem shBss_nil : shBss.dec (.v (.slice none 0 0)) = some [] := rfl
theorem shBss_emp : shBss.dec (.lst 1 []) = some [] := shL_emp
theorem shZs_emp : shZs.dec (.lst 1 []) = some [] := shL_emp
theorem shFs_nil : shFs.dec (.v (.slice none 0 0)) = some [] := rfl
theorem shFs_emp : shFs.dec (.lst 7 []) = some [] := shL_emp
theorem shZs_nil : shZs.dec (.v (.slice none 0 0)) = some [] := rfl
theorem shFs_arr (a b c : Nat) : shFs.dec (.arr a b c) = none := rfl
theorem shFss_arr (a b c : Nat) : shFss.dec (.arr a b c) = none := rfl
theorem shZs_arr (a b c : Nat) : shZs.dec (.arr a b c) = none := rfl
theorem shBs_arr (a b c : Nat) : shBs.dec (.arr a b c) = none := rfl
theorem shBss_arr (a b c : Nat) : shBss.dec (.arr a b c) = none := rfl
theorem shFss_arrs (a b c : Nat) (r : List AV) : shFss.dec (.lst 1 (.arr a b c :: r)) = none := rfl
theorem shBss_arrs (a b c : Nat) (r : List AV) : shBss.dec (.lst 1 (.arr a b c :: r)) = none := rfl
theorem shFs_enc (l : List Fr) : shFs.enc l = fs l := rfl
theorem shFss_enc (l : List (List Fr)) : shFss.enc l = fss l := rfl
theorem shZs_enc (l : List Int) : shZs.enc l = zs l := rfl
theorem shBs_enc (l : List Bool) : shBs.enc l = bs l := rfl
theorem shBss_enc (l : List (List Bool)) : shBss.enc l = bss l := rfl

/-! Elements. -/
def fr0 : Fr := ⟨0, 0, 0, 0, 0, 0, 0⟩
theorem getD_f {l : List Fr} {k : Nat} (h : k < l.length) : (l.map fv).getD k .top = fv (l.getD k fr0) := by simp [List.getD_eq_getElem?_getD, h]
theorem getD_fs {l : List (List Fr)} {k : Nat} (h : k < l.length) : (l.map fs).getD k .top = fs (l.getD k []) := by simp [List.getD_eq_getElem?_getD, h]
theorem getD_z {l : List Int} {k : Nat} (h : k < l.length) : (l.map iv).getD k .top = iv (l.getD k 0) := by simp [List.getD_eq_getElem?_getD, h]
theorem getD_b {l : List Bool} {k : Nat} (h : k < l.length) : (l.map bv).getD k .top = bv (l.getD k false) := by simp [List.getD_eq_getElem?_getD, h]
theorem getD_bs {l : List (List Bool)} {k : Nat} (h : k < l.length) : (l.map bs).getD k .top = bs (l.getD k []) := by simp [List.getD_eq_getElem?_getD, h]
theorem set_f (l : List Fr) (k : Nat) (a b c d e g h : Int) : (l.map fv).set k (.agg [.v (.int .i64 a), .v (.int .i64 b), .v (.int .i64 c), .v (.int .u64 d), .v (.int .u64 e), .v (.int .u64 g), .v (.int .i64 h)]) = (l.set k ⟨a, b, c, d, e, g, h⟩).map fv := by rw [List.map_set]; rfl
theorem set_fs (l : List (List Fr)) (k : Nat) (x : List Fr) : (l.map fs).set k (.lst 7 (x.map fv)) = (l.set k x).map fs := by rw [List.map_set]; rfl
theorem set_z (l : List Int) (k : Nat) (x : Int) : (l.map iv).set k (.v (.int .i64 x)) = (l.set k x).map iv := by rw [List.map_set]; rfl
theorem snoc_f (l : List Fr) (a b c d e g h : Int) : l.map fv ++ [.agg [.v (.int .i64 a), .v (.int .i64 b), .v (.int .i64 c), .v (.int .u64 d), .v (.int .u64 e), .v (.int .u64 g), .v (.int .i64 h)]] = (l ++ [(⟨a, b, c, d, e, g, h⟩ : Fr)]).map fv := by rw [List.map_append]; rfl
theorem getD_in {α : Type} {l : List α} {k : Nat} {a b : α} (h : k < l.length) : l.getD k a = l.getD k b := by simp [List.getD_eq_getElem?_getD, h]
theorem getD_set_f {l : List Fr} {k : Nat} (h : k < l.length) (x : Fr) : ((l.set k x).map fv).getD k .top = fv x := by simp [List.getD_eq_getElem?_getD, h]
theorem set_getD_self {α : Type} {l : List α} {k : Nat} {a : α} (h : k < l.length) : l.set k (l.getD k a) = l := by simp [List.getD_eq_getElem?_getD, h]
theorem len_snocF (l : List Fr) (x : Fr) : (l ++ [x]).length = l.length + 1 := by simp
theorem take_f (l : List Fr) : (l.map fv).take l.length = l.map fv := List.take_of_length_le (by simp)
theorem take_fs (l : List (List Fr)) : (l.map fs).take l.length = l.map fs := List.take_of_length_le (by simp)
theorem take_fS (l : List Fr) (k : Nat) (x : Fr) : ((l.set k x).map fv).take l.length = (l.set k x).map fv := List.take_of_length_le (by simp)
theorem hf_f (l : List Fr) : (∀ x ∈ l.map fv, ∀ c ∈ x.cells, HFree c) = True := eq_true fun x hx c hc => by
  obtain ⟨y, _, rfl⟩ := List.mem_map.1 hx
  exact elF.cfree y c hc
theorem hf_fs (l : List (List Fr)) : (∀ x ∈ l.map fs, ∀ c ∈ x.cells, HFree c) = True := eq_true fun x hx c hc => by
  obtain ⟨y, _, rfl⟩ := List.mem_map.1 hx
  exact elFs.cfree y c hc
theorem hfree_fs (l : List Fr) : HFree (.lst 7 (l.map fv)) = True := eq_true (hfree_L 7 elF l)
theorem hfree_f0 : HFree (.lst 7 []) = True := eq_true (hfree_L 7 elF [])
theorem len_fs (l : List Fr) : (l.map fv).length = l.length := by simp
theorem len_fss (l : List (List Fr)) : (l.map fs).length = l.length := by simp
theorem len_zs (l : List Int) : (l.map iv).length = l.length := by simp
theorem len_bs (l : List Bool) : (l.map bv).length = l.length := by simp
theorem len_bss (l : List (List Bool)) : (l.map bs).length = l.length := by simp

theorem len_setF (l : List Fr) (k : Nat) (x : Fr) : (l.set k x).length = l.length := by simp

theorem frz_map {α : Type} {g : α → AV} (hg : ∀ hp x, frzArg hp (g x) = (g x, hp)) (hp : Hp) : ∀ l : List α, frzArgs hp (l.map g) = (l.map g, hp)
  | [] => rfl
  | x :: r => by rw [List.map_cons, frzArgs, hg]; dsimp only; rw [frz_map hg hp r]
theorem frz_fv (hp : Hp) (l : List Fr) : frzArgs hp (l.map fv) = (l.map fv, hp) := frz_map (fun _ _ => rfl) hp l
theorem frz_fs (hp : Hp) (l : List (List Fr)) : frzArgs hp (l.map fs) = (l.map fs, hp) := frz_map (fun _ _ => rfl) hp l
theorem frz_iv (hp : Hp) (l : List Int) : frzArgs hp (l.map iv) = (l.map iv, hp) := frz_map (fun _ _ => rfl) hp l
theorem frz_bv (hp : Hp) (l : List Bool) : frzArgs hp (l.map bv) = (l.map bv, hp) := frz_map (fun _ _ => rfl) hp l
theorem frz_bs (hp : Hp) (l : List (List Bool)) : frzArgs hp (l.map bs) = (l.map bs, hp) := frz_map (fun _ _ => rfl) hp l

theorem rf1 : type_of% (And.intro @shFs_arr <| And.intro @shFss_arr <| And.intro @shZs_arr <| And.intro @shBs_arr <| And.intro @shBss_arr <| And.intro @shFss_arrs <| And.intro @shBss_arrs <| And.intro @shFs_dec <| And.intro @shFss_dec <| And.intro @shZs_dec <| And.intro @shBs_dec <| And.intro @shBss_dec <| And.intro @shFs_nil <| And.intro @shFs_emp <| And.intro @shFss_nil <| And.intro @shFss_emp <| And.intro @shBss_nil <| And.intro @shBss_emp <| And.intro @shZs_nil <| And.intro @shZs_emp <| And.intro @len_zs <| And.intro @len_fs <| And.intro @len_fss <| And.intro @len_bs <| And.intro @len_bss <| And.intro @len_setF <| And.intro @set_f <| And.intro @set_fs <| And.intro @set_z <| And.intro @fr_eta <| And.intro @take_f <| And.intro @snoc_f <| And.intro @frz_fv <| And.intro @frz_fs <| And.intro @frz_iv <| And.intro @frz_bv <| And.intro @frz_bs <| And.intro @hfree_fs <| @hfree_f0) := And.intro @shFs_arr <| And.intro @shFss_arr <| And.intro @shZs_arr <| And.intro @shBs_arr <| And.intro @shBss_arr <| And.intro @shFss_arrs <| And.intro @shBss_arrs <| And.intro @shFs_dec <| And.intro @shFss_dec <| And.intro @shZs_dec <| And.intro @shBs_dec <| And.intro @shBss_dec <| And.intro @shFs_nil <| And.intro @shFs_emp <| And.intro @shFss_nil <| And.intro @shFss_emp <| And.intro @shBss_nil <| And.intro @shBss_emp <| And.intro @shZs_nil <| And.intro @shZs_emp <| And.intro @len_zs <| And.intro @len_fs <| And.intro @len_fss <| And.intro @len_bs <| And.intro @len_bss <| And.intro @len_setF <| And.intro @set_f <| And.intro @set_fs <| And.intro @set_z <| And.intro @fr_eta <| And.intro @take_f <| And.intro @snoc_f <| And.intro @frz_fv <| And.intro @frz_fs <| And.intro @frz_iv <| And.intro @frz_bv <| And.intro @frz_bs <| And.intro @hfree_fs <| @hfree_f0

/-! What came in. -/
section
variable {P : Program} {w : World} {t : TypeId} {α : Type} {H : Type} {enc : TypeId × Value → H} {reach : Reach} {b0 base : Nat} {spare : Nat → Bool} {held : Bool} {v : Value} {d : DataW H} {p : List MemPlace}

theorem Rdr.frames {e : TypeId} {fds : Array Field} (ht : P.underlying t = some (.slice e)) (hc : P.cellsOf t = 1) (he : P.underlying e = some (.struct fds)) (hC : P.cellsOf e = 7) (hB : fieldsB P fds frKinds = true)
    (hv : Value.okWide P w reach b0 t v) (h : DataW.Trod enc P w base spare held t v d p) : ∃ l : List Fr, (∀ x ∈ l, x.wf) ∧ Con (Env.bare (allK w)) (fs l) v := by
  obtain ⟨l, ⟨_, h1⟩, h2⟩ := (rdFr he hC hB).slice ht hc hv h
  exact ⟨l, h1, h2⟩
theorem Rdr.framess {e e' : TypeId} {fds : Array Field} (ht : P.underlying t = some (.slice e)) (hc : P.cellsOf t = 1) (ht' : P.underlying e = some (.slice e')) (hc' : P.cellsOf e = 1) (he : P.underlying e' = some (.struct fds)) (hC : P.cellsOf e' = 7) (hB : fieldsB P fds frKinds = true)
    (hv : Value.okWide P w reach b0 t v) (h : DataW.Trod enc P w base spare held t v d p) : ∃ l : List (List Fr), (∀ x ∈ l, ∀ y ∈ x, y.wf) ∧ Con (Env.bare (allK w)) (fss l) v := by
  obtain ⟨l, ⟨_, h1⟩, h2⟩ := (rdSlice (rdFr he hC hB) ht' hc').slice ht hc hv h
  exact ⟨l, fun x hx => (h1 x hx).2, h2⟩
theorem Rdr.intsI {e : TypeId} (ht : P.underlying t = some (.slice e)) (hc : P.cellsOf t = 1) (he : P.underlying e = some (.int .i64)) (hce : P.cellsOf e = 1) (hv : Value.okWide P w reach b0 t v) (h : DataW.Trod enc P w base spare held t v d p) :
    ∃ l : List Int, (∀ x ∈ l, InI x) ∧ Con (Env.bare (allK w)) (zs l) v := by
  obtain ⟨l, ⟨_, h1⟩, h2⟩ := (rdInt he hce).slice ht hc hv h
  exact ⟨l, fun x hx => in_i (h1 x hx), h2⟩
theorem Rdr.bools {e : TypeId} (ht : P.underlying t = some (.slice e)) (hc : P.cellsOf t = 1) (he : P.underlying e = some .bool) (hce : P.cellsOf e = 1) (hv : Value.okWide P w reach b0 t v) (h : DataW.Trod enc P w base spare held t v d p) :
    ∃ l : List Bool, True ∧ Con (Env.bare (allK w)) (bs l) v := by
  obtain ⟨l, _, h2⟩ := (rdBool he hce).slice ht hc hv h
  exact ⟨l, trivial, h2⟩
theorem Rdr.boolss {e e' : TypeId} (ht : P.underlying t = some (.slice e)) (hc : P.cellsOf t = 1) (ht' : P.underlying e = some (.slice e')) (hc' : P.cellsOf e = 1) (he : P.underlying e' = some .bool) (hce : P.cellsOf e' = 1) (hv : Value.okWide P w reach b0 t v) (h : DataW.Trod enc P w base spare held t v d p) :
    ∃ l : List (List Bool), True ∧ Con (Env.bare (allK w)) (bss l) v := by
  obtain ⟨l, _, h2⟩ := (rdSlice (rdBool he hce) ht' hc').slice ht hc hv h
  exact ⟨l, trivial, h2⟩
end
end Go.Vai
/- Pushing: what the functions of the layer compute. -/
namespace Go.Vai
open Go.RowKit Go.Proofs
set_option linter.unusedSimpArgs false
set_option linter.unusedVariables false
set_option maxHeartbeats 4000000
set_option maxRecDepth 100000

theorem clone_pure (m : List Int) (hm : m.length ≤ 1000) : PureC Try.prog 28 [ms m] (ms m) := by
  refine pure_sub ok0 1 Try.func28 rfl (by show 1 ≤ _; decide) ?_
  have hb : m.length * 8 ≤ 140737488355328 := by omega
  have hle : m.length ≤ m.length := Nat.le_refl _
  cases m with
  | nil => simp only [Try.f28, hf_0, T25, hfree_lu, hfree_l0, row0, row1, row2, row3, row4, row5, shI_dec, shN_dec, shB_dec, shM_dec, dI, dN, dB, dM, dU, dU_map, iv, bv, u, ms, ctx_T, ctx_C, ctx_P, T4, T3, T26, Option.bind_some, Option.bind_none, Option.map_some, List.length_map, List.length_set, String.reduceBEq, Int.toNat_natCast, Bool.true_beq, Bool.false_beq, ev1, ev2, implies_true, undef, stepP, drawB, stepL, lateB, lateB0, rdsT, rdsAny, isRd, afterL, preB, callLB, callLV, lateV, dstV, dynCall, ↓condE_t, ↓condE_f, ↓guardE_tt, ↓guardE_ff, ↓guardE_tf, ↓guardE_ft, frzDeep, deepArgs, deepArg, resB, cv, stepB, stepE, callD, tabD, snapD, snap1, snapC, snapId, snapIds, guardB, guardC, dstAt, aopR, one, pre, binR, intOpR, shiftOpR, unR, argFrm, evo, lkp, hlk, lenOf, asLst, idOf, bndA, srcOk, ofVal, ofCells, setCells, fillA, setElems, fieldsOf, fieldsEq, scalEq, isEq, AV.wr, AV.ok1, TK.agg, frz, frzs, frzA, frzArg, frzArgs, subA, subL, sub1, kp, kh, accOf, List.replicate, Nat.reduceAdd, Nat.reduceSub, Nat.reduceMul, Nat.reduceEqDiff, Nat.reduceLT, Nat.reduceLeDiff, Nat.reduceBEq, reduceIte, reduceCtorEq, eq_self, ne_eq, Int.reduceToNat, Int.reduceLT, Int.reduceLE, Int.reduceGT, Int.reduceGE, Int.reduceBEq, Int.reduceBNe, Int.reduceEq, Int.reduceNe]
  | cons a l =>
    have hn : ((a :: l).map u = []) = False := eq_false (by simp)
    generalize a :: l = l at *
    simp only [Try.f28, hn, hb, hle, take_u, hf_u, T25, hfree_lu, hfree_l0, row0, row1, row2, row3, row4, row5, shI_dec, shN_dec, shB_dec, shM_dec, dI, dN, dB, dM, dU, dU_map, iv, bv, u, ms, ctx_T, ctx_C, ctx_P, T4, T3, T26, Option.bind_some, Option.bind_none, Option.map_some, List.length_map, List.length_set, String.reduceBEq, Int.toNat_natCast, Bool.true_beq, Bool.false_beq, ev1, ev2, implies_true, undef, stepP, drawB, stepL, lateB, lateB0, rdsT, rdsAny, isRd, afterL, preB, callLB, callLV, lateV, dstV, dynCall, ↓condE_t, ↓condE_f, ↓guardE_tt, ↓guardE_ff, ↓guardE_tf, ↓guardE_ft, frzDeep, deepArgs, deepArg, resB, cv, stepB, stepE, callD, tabD, snapD, snap1, snapC, snapId, snapIds, guardB, guardC, dstAt, aopR, one, pre, binR, intOpR, shiftOpR, unR, argFrm, evo, lkp, hlk, lenOf, asLst, idOf, bndA, srcOk, ofVal, ofCells, setCells, fillA, setElems, fieldsOf, fieldsEq, scalEq, isEq, AV.wr, AV.ok1, TK.agg, frz, frzs, frzA, frzArg, frzArgs, subA, subL, sub1, kp, kh, accOf, List.replicate, Nat.reduceAdd, Nat.reduceSub, Nat.reduceMul, Nat.reduceEqDiff, Nat.reduceLT, Nat.reduceLeDiff, Nat.reduceBEq, reduceIte, reduceCtorEq, eq_self, ne_eq, Int.reduceToNat, Int.reduceLT, Int.reduceLE, Int.reduceGT, Int.reduceGE, Int.reduceBEq, Int.reduceBNe, Int.reduceEq, Int.reduceNe]

def rowsPA : List Row := [
  (28, row1 shM fun m => some (ms m))] ++ rowsK ++ rowsLT ++ rowsG ++ rowsF
theorem rowsPA_ok : ∀ p ∈ rowsPA, RowOk Try.prog p := fun p h => by
  simp only [rowsPA, List.mem_append, List.mem_cons, List.not_mem_nil, or_false, false_or, or_assoc] at h
  rcases h with rfl | h | h | h | h
  · exact ok_row1 (enters_of Try.func28 (by decide) rfl) fun m r g e => by cases e; exact clone_pure m (shM_got g)
  · exact rowsK_ok p h
  · exact rowsLT_ok p h
  · exact rowsG_ok p h
  · exact rowsF_ok p h
theorem okPA : (ctx Try.prog rowsPA).ok := rows_ok rowsPA_ok
theorem PA_28 : tabC rowsPA 28 = row1 shM fun m => some (ms m) := rfl
theorem PA_76 : tabC rowsPA 76 = row4 shM shI shN shN fun m i v w => some (.tup [ms (mCas m i v w), bv (mCasB m i v)]) := rfl
theorem PA_46 : tabC rowsPA 46 = row2 shM shI fun m i => some (u (mLoad m i)) := rfl
theorem PA_61 : tabC rowsPA 61 = row3 shM shI shN fun m i v => some (ms (mStore m i v)) := rfl
theorem PA_63 : tabC rowsPA 63 = row4 shM shI shN shN fun m i v w => some (.tup [ms (mCas m i v w), bv (mCasB m i v)]) := rfl
theorem PA_69 : tabC rowsPA 69 = row2 shM shI fun m i => some (u (mLoad m i)) := rfl
theorem PA_17 : tabC rowsPA 17 = row2 shM shM fun a b => some (bv (decide (a = b))) := rfl
theorem PA_73 : tabC rowsPA 73 = row3 shM shI shN fun m i v => some (ms (mStore m i v)) := rfl
theorem PA_43 : tabC rowsPA 43 = row1 shC fun c => some (iv (lSize c)) := rfl
theorem PA_45 : tabC rowsPA 45 = row1 shC fun c => some (iv (lSize c)) := rfl
theorem PA_47 : tabC rowsPA 47 = row2 shC shI fun c w => some (iv (lTop c w)) := rfl
theorem PA_48 : tabC rowsPA 48 = row2 shC shI fun c w => some (iv (lBottom c w)) := rfl
theorem PA_50 : tabC rowsPA 50 = row3 shC shI shN fun c w x => some (iv (lSlot c w x)) := rfl
theorem PA_71 : tabC rowsPA 71 = row2 shC shI fun c w => some (iv (lTop c w)) := rfl
theorem PA_33 : tabC rowsPA 33 = row1 shC fun c => some (bv (mayC c)) := rfl
theorem PA_49 : tabC rowsPA 49 = row2 shN shN fun a b => some (iv (far a b)) := rfl
theorem PA_39 : tabC rowsPA 39 = row1 shC fun c => some (bv (mayC c)) := rfl
theorem PA_75 : tabC rowsPA 75 = row2 shN shN fun a b => some (iv (far a b)) := rfl
theorem PA_80 : tabC rowsPA 80 = row2 shC shI fun c w => if mayC c = true ∧ 0 ≤ w ∧ w ≤ 8 then some (iv (lBase c w)) else none := rfl
theorem PA_82 : tabC rowsPA 82 = fun _ => none := rfl
theorem PA_83 : tabC rowsPA 83 = fun _ => none := rfl
theorem PA_84 : tabC rowsPA 84 = fun _ => none := rfl
theorem PA_85 : tabC rowsPA 85 = fun _ => none := rfl
theorem PA_77 : tabC rowsPA 77 = fun _ => none := rfl
theorem PA_42 : tabC rowsPA 42 = row1 shF fun f => some (bv (f.res != 0)) := rfl
theorem PA_72 : tabC rowsPA 72 = row3 shF shI shN fun f r v => some (fv (fEnd f r v)) := rfl
theorem PA_23 : tabC rowsPA 23 = row3 shI shI shN fun o w v => some (fv (fBegin o w v)) := rfl
theorem PA_20 : tabC rowsPA 20 = row1 shF fun f => some (bv (f.res != 0)) := rfl
theorem PA_62 : tabC rowsPA 62 = row3 shF shI shN fun f r v => some (fv (fEnd f r v)) := rfl
theorem PA_52 : tabC rowsPA 52 = fun _ => none := rfl
theorem PA_53 : tabC rowsPA 53 = fun _ => none := rfl
theorem PA_54 : tabC rowsPA 54 = fun _ => none := rfl
theorem PA_51 : tabC rowsPA 51 = fun _ => none := rfl
theorem PA_all : type_of% (And.intro PA_28 <| And.intro PA_76 <| And.intro PA_46 <| And.intro PA_61 <| And.intro PA_63 <| And.intro PA_69 <| And.intro PA_17 <| And.intro PA_73 <| And.intro PA_43 <| And.intro PA_45 <| And.intro PA_47 <| And.intro PA_48 <| And.intro PA_50 <| And.intro PA_71 <| And.intro PA_33 <| And.intro PA_49 <| And.intro PA_39 <| And.intro PA_75 <| And.intro PA_80 <| And.intro PA_82 <| And.intro PA_83 <| And.intro PA_84 <| And.intro PA_85 <| And.intro PA_77 <| And.intro PA_42 <| And.intro PA_72 <| And.intro PA_23 <| And.intro PA_20 <| And.intro PA_62 <| And.intro PA_52 <| And.intro PA_53 <| And.intro PA_54 <| PA_51) := And.intro PA_28 <| And.intro PA_76 <| And.intro PA_46 <| And.intro PA_61 <| And.intro PA_63 <| And.intro PA_69 <| And.intro PA_17 <| And.intro PA_73 <| And.intro PA_43 <| And.intro PA_45 <| And.intro PA_47 <| And.intro PA_48 <| And.intro PA_50 <| And.intro PA_71 <| And.intro PA_33 <| And.intro PA_49 <| And.intro PA_39 <| And.intro PA_75 <| And.intro PA_80 <| And.intro PA_82 <| And.intro PA_83 <| And.intro PA_84 <| And.intro PA_85 <| And.intro PA_77 <| And.intro PA_42 <| And.intro PA_72 <| And.intro PA_23 <| And.intro PA_20 <| And.intro PA_62 <| And.intro PA_52 <| And.intro PA_53 <| And.intro PA_54 <| PA_51

theorem goes_pure (c : Cf) (m : List Int) (f : Fr) (op pcs : Int) (hm : m.length ≤ 1000) : PureC Try.prog 59 [cv' c, ms m, fv f, iv op, iv pcs] (bv (goes c m f op pcs)) := by
  refine pure_sub okPA 1 Try.func59 rfl (by show 5 ≤ _; decide) ?_
  have key : goes c m f op pcs = (mayC c && ((m.length : Int) == lSize c) && !(f.res != 0) && decide (f.who ≥ 0) && decide (f.who < c.w) && (f.op == op) && decide (f.pc ≥ 0) && decide (f.pc < pcs)) := by
    rw [Bool.eq_iff_iff]
    simp [goes]
    constructor
    · rintro ⟨a, b, c, d, e, f, g, h⟩; simp_all
    · intro h; simp_all
  rw [key]
  simp only [Try.f59, PA_all, fv, cv', cf_eta, shC_dec, dC, T23, T28, T25, hfree_lu, hfree_l0, row0, row1, row2, row3, row4, row5, shI_dec, shN_dec, shB_dec, shM_dec, dI, dN, dB, dM, dU, dU_map, iv, bv, u, ms, ctx_T, ctx_C, ctx_P, T4, T3, T26, Option.bind_some, Option.bind_none, Option.map_some, List.length_map, List.length_set, String.reduceBEq, Int.toNat_natCast, Bool.true_beq, Bool.false_beq, T24, shF_dec, dF, fr_eta, ev1, ev2, implies_true, undef, stepP, drawB, stepL, lateB, lateB0, rdsT, rdsAny, isRd, afterL, preB, callLB, callLV, lateV, dstV, dynCall, ↓condE_t, ↓condE_f, ↓guardE_tt, ↓guardE_ff, ↓guardE_tf, ↓guardE_ft, frzDeep, deepArgs, deepArg, resB, cv, stepB, stepE, callD, tabD, snapD, snap1, snapC, snapId, snapIds, guardB, guardC, dstAt, aopR, one, pre, binR, intOpR, shiftOpR, unR, argFrm, evo, lkp, hlk, lenOf, asLst, idOf, bndA, srcOk, ofVal, ofCells, setCells, fillA, setElems, fieldsOf, fieldsEq, scalEq, isEq, AV.wr, AV.ok1, TK.agg, frz, frzs, frzA, frzArg, frzArgs, subA, subL, sub1, kp, kh, accOf, List.replicate, Nat.reduceAdd, Nat.reduceSub, Nat.reduceMul, Nat.reduceEqDiff, Nat.reduceLT, Nat.reduceLeDiff, Nat.reduceBEq, reduceIte, reduceCtorEq, eq_self, ne_eq, Int.reduceToNat, Int.reduceLT, Int.reduceLE, Int.reduceGT, Int.reduceGE, Int.reduceBEq, Int.reduceBNe, Int.reduceEq, Int.reduceNe]
  clear key
  repeat' first | apply And.intro | intro _
  all_goals first | rfl | (simp_all; done) | (simp_all; intros; omega)

theorem rgoes_pure (c : Cf) (m : List Int) (f : Fr) (op pcs : Int) (hm : m.length ≤ 1000) : PureC Try.prog 68 [cv' c, ms m, fv f, iv op, iv pcs] (bv (goes c m f op pcs)) := by
  refine pure_sub okPA 1 Try.func68 rfl (by show 5 ≤ _; decide) ?_
  have key : goes c m f op pcs = (mayC c && ((m.length : Int) == lSize c) && !(f.res != 0) && decide (f.who ≥ 0) && decide (f.who < c.w) && (f.op == op) && decide (f.pc ≥ 0) && decide (f.pc < pcs)) := by
    rw [Bool.eq_iff_iff]
    simp [goes]
    constructor
    · rintro ⟨a, b, c, d, e, f, g, h⟩; simp_all
    · intro h; simp_all
  rw [key]
  simp only [Try.f68, PA_all, fv, cv', cf_eta, shC_dec, dC, T23, T28, T25, hfree_lu, hfree_l0, row0, row1, row2, row3, row4, row5, shI_dec, shN_dec, shB_dec, shM_dec, dI, dN, dB, dM, dU, dU_map, iv, bv, u, ms, ctx_T, ctx_C, ctx_P, T4, T3, T26, Option.bind_some, Option.bind_none, Option.map_some, List.length_map, List.length_set, String.reduceBEq, Int.toNat_natCast, Bool.true_beq, Bool.false_beq, T24, shF_dec, dF, fr_eta, ev1, ev2, implies_true, undef, stepP, drawB, stepL, lateB, lateB0, rdsT, rdsAny, isRd, afterL, preB, callLB, callLV, lateV, dstV, dynCall, ↓condE_t, ↓condE_f, ↓guardE_tt, ↓guardE_ff, ↓guardE_tf, ↓guardE_ft, frzDeep, deepArgs, deepArg, resB, cv, stepB, stepE, callD, tabD, snapD, snap1, snapC, snapId, snapIds, guardB, guardC, dstAt, aopR, one, pre, binR, intOpR, shiftOpR, unR, argFrm, evo, lkp, hlk, lenOf, asLst, idOf, bndA, srcOk, ofVal, ofCells, setCells, fillA, setElems, fieldsOf, fieldsEq, scalEq, isEq, AV.wr, AV.ok1, TK.agg, frz, frzs, frzA, frzArg, frzArgs, subA, subL, sub1, kp, kh, accOf, List.replicate, Nat.reduceAdd, Nat.reduceSub, Nat.reduceMul, Nat.reduceEqDiff, Nat.reduceLT, Nat.reduceLeDiff, Nat.reduceBEq, reduceIte, reduceCtorEq, eq_self, ne_eq, Int.reduceToNat, Int.reduceLT, Int.reduceLE, Int.reduceGT, Int.reduceGE, Int.reduceBEq, Int.reduceBNe, Int.reduceEq, Int.reduceNe]
  clear key
  repeat' first | apply And.intro | intro _
  all_goals first | rfl | (simp_all; done) | (simp_all; intros; omega)
end Go.Vai
/- Pushing: a step. -/
namespace Go.Vai
open Go.RowKit Go.Proofs
set_option linter.unusedSimpArgs false
set_option linter.unusedVariables false
set_option maxHeartbeats 4000000
set_option maxRecDepth 100000

def rowsPB : List Row := [
  (59, row5 shC shM shF shI shI fun c m f op pcs => some (bv (goes c m f op pcs))), 
  (68, row5 shC shM shF shI shI fun c m f op pcs => some (bv (goes c m f op pcs)))] ++ rowsPA
theorem rowsPB_ok : ∀ p ∈ rowsPB, RowOk Try.prog p := fun p h => by
  simp only [rowsPB, List.mem_append, List.mem_cons, List.not_mem_nil, or_false, false_or, or_assoc] at h
  rcases h with rfl | rfl | h
  · exact ok_row5 (enters_of Try.func59 (by decide) rfl) fun c m f op pcs r _ g _ _ _ e => by cases e; exact goes_pure c m f op pcs (shM_got g)
  · exact ok_row5 (enters_of Try.func68 (by decide) rfl) fun c m f op pcs r _ g _ _ _ e => by cases e; exact rgoes_pure c m f op pcs (shM_got g)
  · exact rowsPA_ok p h
theorem okPB : (ctx Try.prog rowsPB).ok := rows_ok rowsPB_ok
theorem PB_59 : tabC rowsPB 59 = row5 shC shM shF shI shI fun c m f op pcs => some (bv (goes c m f op pcs)) := rfl
theorem PB_68 : tabC rowsPB 68 = row5 shC shM shF shI shI fun c m f op pcs => some (bv (goes c m f op pcs)) := rfl
theorem PB_55 : tabC rowsPB 55 = fun _ => none := rfl
theorem PB_56 : tabC rowsPB 56 = fun _ => none := rfl
theorem PB_57 : tabC rowsPB 57 = fun _ => none := rfl
theorem PB_58 : tabC rowsPB 58 = fun _ => none := rfl
theorem PB_28 : tabC rowsPB 28 = row1 shM fun m => some (ms m) := rfl
theorem PB_76 : tabC rowsPB 76 = row4 shM shI shN shN fun m i v w => some (.tup [ms (mCas m i v w), bv (mCasB m i v)]) := rfl
theorem PB_46 : tabC rowsPB 46 = row2 shM shI fun m i => some (u (mLoad m i)) := rfl
theorem PB_61 : tabC rowsPB 61 = row3 shM shI shN fun m i v => some (ms (mStore m i v)) := rfl
theorem PB_63 : tabC rowsPB 63 = row4 shM shI shN shN fun m i v w => some (.tup [ms (mCas m i v w), bv (mCasB m i v)]) := rfl
theorem PB_69 : tabC rowsPB 69 = row2 shM shI fun m i => some (u (mLoad m i)) := rfl
theorem PB_17 : tabC rowsPB 17 = row2 shM shM fun a b => some (bv (decide (a = b))) := rfl
theorem PB_73 : tabC rowsPB 73 = row3 shM shI shN fun m i v => some (ms (mStore m i v)) := rfl
theorem PB_43 : tabC rowsPB 43 = row1 shC fun c => some (iv (lSize c)) := rfl
theorem PB_45 : tabC rowsPB 45 = row1 shC fun c => some (iv (lSize c)) := rfl
theorem PB_47 : tabC rowsPB 47 = row2 shC shI fun c w => some (iv (lTop c w)) := rfl
theorem PB_48 : tabC rowsPB 48 = row2 shC shI fun c w => some (iv (lBottom c w)) := rfl
theorem PB_50 : tabC rowsPB 50 = row3 shC shI shN fun c w x => some (iv (lSlot c w x)) := rfl
theorem PB_71 : tabC rowsPB 71 = row2 shC shI fun c w => some (iv (lTop c w)) := rfl
theorem PB_33 : tabC rowsPB 33 = row1 shC fun c => some (bv (mayC c)) := rfl
theorem PB_49 : tabC rowsPB 49 = row2 shN shN fun a b => some (iv (far a b)) := rfl
theorem PB_39 : tabC rowsPB 39 = row1 shC fun c => some (bv (mayC c)) := rfl
theorem PB_75 : tabC rowsPB 75 = row2 shN shN fun a b => some (iv (far a b)) := rfl
theorem PB_80 : tabC rowsPB 80 = row2 shC shI fun c w => if mayC c = true ∧ 0 ≤ w ∧ w ≤ 8 then some (iv (lBase c w)) else none := rfl
theorem PB_82 : tabC rowsPB 82 = fun _ => none := rfl
theorem PB_83 : tabC rowsPB 83 = fun _ => none := rfl
theorem PB_84 : tabC rowsPB 84 = fun _ => none := rfl
theorem PB_85 : tabC rowsPB 85 = fun _ => none := rfl
theorem PB_77 : tabC rowsPB 77 = fun _ => none := rfl
theorem PB_42 : tabC rowsPB 42 = row1 shF fun f => some (bv (f.res != 0)) := rfl
theorem PB_72 : tabC rowsPB 72 = row3 shF shI shN fun f r v => some (fv (fEnd f r v)) := rfl
theorem PB_23 : tabC rowsPB 23 = row3 shI shI shN fun o w v => some (fv (fBegin o w v)) := rfl
theorem PB_20 : tabC rowsPB 20 = row1 shF fun f => some (bv (f.res != 0)) := rfl
theorem PB_62 : tabC rowsPB 62 = row3 shF shI shN fun f r v => some (fv (fEnd f r v)) := rfl
theorem PB_52 : tabC rowsPB 52 = fun _ => none := rfl
theorem PB_53 : tabC rowsPB 53 = fun _ => none := rfl
theorem PB_54 : tabC rowsPB 54 = fun _ => none := rfl
theorem PB_51 : tabC rowsPB 51 = fun _ => none := rfl
theorem PB_all : type_of% (And.intro PB_59 <| And.intro PB_68 <| And.intro PB_55 <| And.intro PB_56 <| And.intro PB_57 <| And.intro PB_58 <| And.intro PB_28 <| And.intro PB_76 <| And.intro PB_46 <| And.intro PB_61 <| And.intro PB_63 <| And.intro PB_69 <| And.intro PB_17 <| And.intro PB_73 <| And.intro PB_43 <| And.intro PB_45 <| And.intro PB_47 <| And.intro PB_48 <| And.intro PB_50 <| And.intro PB_71 <| And.intro PB_33 <| And.intro PB_49 <| And.intro PB_39 <| And.intro PB_75 <| And.intro PB_80 <| And.intro PB_82 <| And.intro PB_83 <| And.intro PB_84 <| And.intro PB_85 <| And.intro PB_77 <| And.intro PB_42 <| And.intro PB_72 <| And.intro PB_23 <| And.intro PB_20 <| And.intro PB_62 <| And.intro PB_52 <| And.intro PB_53 <| And.intro PB_54 <| PB_51) := And.intro PB_59 <| And.intro PB_68 <| And.intro PB_55 <| And.intro PB_56 <| And.intro PB_57 <| And.intro PB_58 <| And.intro PB_28 <| And.intro PB_76 <| And.intro PB_46 <| And.intro PB_61 <| And.intro PB_63 <| And.intro PB_69 <| And.intro PB_17 <| And.intro PB_73 <| And.intro PB_43 <| And.intro PB_45 <| And.intro PB_47 <| And.intro PB_48 <| And.intro PB_50 <| And.intro PB_71 <| And.intro PB_33 <| And.intro PB_49 <| And.intro PB_39 <| And.intro PB_75 <| And.intro PB_80 <| And.intro PB_82 <| And.intro PB_83 <| And.intro PB_84 <| And.intro PB_85 <| And.intro PB_77 <| And.intro PB_42 <| And.intro PB_72 <| And.intro PB_23 <| And.intro PB_20 <| And.intro PB_62 <| And.intro PB_52 <| And.intro PB_53 <| And.intro PB_54 <| PB_51

def sv (x : List Int × Fr) : AV := .tup [ms x.1, fv x.2]

theorem step_pure (c : Cf) (m : List Int) (f : Fr) (hm : m.length ≤ 1000) : PureC Try.prog 25 [cv' c, ms m, fv f] (sv (pStep c m f)) := by
  refine pure_sub okPB 1 Try.func25 rfl (by show 3 ≤ _; decide) ?_
  cases hg : goes c m f 0 4 with
  | false =>
    rw [pStep_no hg]
    simp only [Try.f25, PB_all, hg, hm, sv, fv, T74, T1, T75, hfree_fr, hfree_cf, cv', cf_eta, frz_u, shC_dec, dC, T23, T28, T25, hfree_lu, hfree_l0, row0, row1, row2, row3, row4, row5, shI_dec, shN_dec, shB_dec, shM_dec, dI, dN, dB, dM, dU, dU_map, iv, bv, u, ms, ctx_T, ctx_C, ctx_P, T4, T3, T26, Option.bind_some, Option.bind_none, Option.map_some, List.length_map, List.length_set, String.reduceBEq, Int.toNat_natCast, Bool.true_beq, Bool.false_beq, T24, shF_dec, dF, fr_eta, ev1, ev2, implies_true, undef, stepP, drawB, stepL, lateB, lateB0, rdsT, rdsAny, isRd, afterL, preB, callLB, callLV, lateV, dstV, dynCall, ↓condE_t, ↓condE_f, ↓guardE_tt, ↓guardE_ff, ↓guardE_tf, ↓guardE_ft, frzDeep, deepArgs, deepArg, resB, cv, stepB, stepE, callD, tabD, snapD, snap1, snapC, snapId, snapIds, guardB, guardC, dstAt, aopR, one, pre, binR, intOpR, shiftOpR, unR, argFrm, evo, lkp, hlk, lenOf, asLst, idOf, bndA, srcOk, ofVal, ofCells, setCells, fillA, setElems, fieldsOf, fieldsEq, scalEq, isEq, AV.wr, AV.ok1, TK.agg, frz, frzs, frzA, frzArg, frzArgs, subA, subL, sub1, kp, kh, accOf, List.replicate, Nat.reduceAdd, Nat.reduceSub, Nat.reduceMul, Nat.reduceEqDiff, Nat.reduceLT, Nat.reduceLeDiff, Nat.reduceBEq, reduceIte, reduceCtorEq, eq_self, ne_eq, Int.reduceToNat, Int.reduceLT, Int.reduceLE, Int.reduceGT, Int.reduceGE, Int.reduceBEq, Int.reduceBNe, Int.reduceEq, Int.reduceNe]
    all_goals ((repeat' apply And.intro) <;> first | rfl | omega | (show entryOk _ _ _ _ _ = true; kernel_rfl) | (show pivotOk _ _ = true; kernel_rfl) | decide)
  | true =>
    obtain ⟨hl, hres, hop, h0, h1⟩ := goes_iff.1 hg
    have hd : wrapU c.d = c.d := by rw [wrapU_eq]; have := hl.dpos; omega
    have hu : ∀ x, IntKind.wrap .u64 x = wrapU x := fun _ => rfl
    obtain ⟨op, pc, who, val, x, y, res⟩ := f
    dsimp only at h0 h1
    have hpc : pc = 0 ∨ pc = 1 ∨ pc = 2 ∨ pc = 3 := by omega
    unfold pStep
    rw [if_pos hg]
    rcases hpc with rfl | rfl | rfl | rfl
    · simp only [Try.f25, Try.func55, Try.f55, inl, PB_all, hg, hm, sv, fv, T74, T1, T75, hfree_fr, hfree_cf, cv', cf_eta, frz_u, shC_dec, dC, T23, T28, T25, hfree_lu, hfree_l0, row0, row1, row2, row3, row4, row5, shI_dec, shN_dec, shB_dec, shM_dec, dI, dN, dB, dM, dU, dU_map, iv, bv, u, ms, ctx_T, ctx_C, ctx_P, T4, T3, T26, Option.bind_some, Option.bind_none, Option.map_some, List.length_map, List.length_set, String.reduceBEq, Int.toNat_natCast, Bool.true_beq, Bool.false_beq, T24, shF_dec, dF, fr_eta, ev1, ev2, implies_true, undef, stepP, drawB, stepL, lateB, lateB0, rdsT, rdsAny, isRd, afterL, preB, callLB, callLV, lateV, dstV, dynCall, ↓condE_t, ↓condE_f, ↓guardE_tt, ↓guardE_ff, ↓guardE_tf, ↓guardE_ft, frzDeep, deepArgs, deepArg, resB, cv, stepB, stepE, callD, tabD, snapD, snap1, snapC, snapId, snapIds, guardB, guardC, dstAt, aopR, one, pre, binR, intOpR, shiftOpR, unR, argFrm, evo, lkp, hlk, lenOf, asLst, idOf, bndA, srcOk, ofVal, ofCells, setCells, fillA, setElems, fieldsOf, fieldsEq, scalEq, isEq, AV.wr, AV.ok1, TK.agg, frz, frzs, frzA, frzArg, frzArgs, subA, subL, sub1, kp, kh, accOf, List.replicate, Nat.reduceAdd, Nat.reduceSub, Nat.reduceMul, Nat.reduceEqDiff, Nat.reduceLT, Nat.reduceLeDiff, Nat.reduceBEq, reduceIte, reduceCtorEq, eq_self, ne_eq, Int.reduceToNat, Int.reduceLT, Int.reduceLE, Int.reduceGT, Int.reduceGE, Int.reduceBEq, Int.reduceBNe, Int.reduceEq, Int.reduceNe]
      all_goals ((repeat' apply And.intro) <;> first | rfl | omega | (show entryOk _ _ _ _ _ = true; kernel_rfl) | (show pivotOk _ _ = true; kernel_rfl) | decide)
    · by_cases hf : wrapU (x - mLoad m (lTop c who)) ≥ c.d
      · have hf' : c.d ≤ wrapU (x - mLoad m (lTop c who)) := hf
        simp only [Try.f25, Try.func56, Try.f56, inl, PB_all, hg, hm, hu, hd, hf, hf', sv, fv, fEnd, len_store, T74, T1, T75, hfree_fr, hfree_cf, cv', cf_eta, frz_u, shC_dec, dC, T23, T28, T25, hfree_lu, hfree_l0, row0, row1, row2, row3, row4, row5, shI_dec, shN_dec, shB_dec, shM_dec, dI, dN, dB, dM, dU, dU_map, iv, bv, u, ms, ctx_T, ctx_C, ctx_P, T4, T3, T26, Option.bind_some, Option.bind_none, Option.map_some, List.length_map, List.length_set, String.reduceBEq, Int.toNat_natCast, Bool.true_beq, Bool.false_beq, T24, shF_dec, dF, fr_eta, ev1, ev2, implies_true, undef, stepP, drawB, stepL, lateB, lateB0, rdsT, rdsAny, isRd, afterL, preB, callLB, callLV, lateV, dstV, dynCall, ↓condE_t, ↓condE_f, ↓guardE_tt, ↓guardE_ff, ↓guardE_tf, ↓guardE_ft, frzDeep, deepArgs, deepArg, resB, cv, stepB, stepE, callD, tabD, snapD, snap1, snapC, snapId, snapIds, guardB, guardC, dstAt, aopR, one, pre, binR, intOpR, shiftOpR, unR, argFrm, evo, lkp, hlk, lenOf, asLst, idOf, bndA, srcOk, ofVal, ofCells, setCells, fillA, setElems, fieldsOf, fieldsEq, scalEq, isEq, AV.wr, AV.ok1, TK.agg, frz, frzs, frzA, frzArg, frzArgs, subA, subL, sub1, kp, kh, accOf, List.replicate, Nat.reduceAdd, Nat.reduceSub, Nat.reduceMul, Nat.reduceEqDiff, Nat.reduceLT, Nat.reduceLeDiff, Nat.reduceBEq, reduceIte, reduceCtorEq, eq_self, ne_eq, Int.reduceToNat, Int.reduceLT, Int.reduceLE, Int.reduceGT, Int.reduceGE, Int.reduceBEq, Int.reduceBNe, Int.reduceEq, Int.reduceNe]
        all_goals ((repeat' apply And.intro) <;> first | rfl | omega | (show entryOk _ _ _ _ _ = true; kernel_rfl) | (show pivotOk _ _ = true; kernel_rfl) | decide)
      · have hf' : ¬ c.d ≤ wrapU (x - mLoad m (lTop c who)) := hf
        simp only [Try.f25, Try.func56, Try.f56, inl, PB_all, hg, hm, hu, hd, hf, hf', sv, fv, fEnd, len_store, T74, T1, T75, hfree_fr, hfree_cf, cv', cf_eta, frz_u, shC_dec, dC, T23, T28, T25, hfree_lu, hfree_l0, row0, row1, row2, row3, row4, row5, shI_dec, shN_dec, shB_dec, shM_dec, dI, dN, dB, dM, dU, dU_map, iv, bv, u, ms, ctx_T, ctx_C, ctx_P, T4, T3, T26, Option.bind_some, Option.bind_none, Option.map_some, List.length_map, List.length_set, String.reduceBEq, Int.toNat_natCast, Bool.true_beq, Bool.false_beq, T24, shF_dec, dF, fr_eta, ev1, ev2, implies_true, undef, stepP, drawB, stepL, lateB, lateB0, rdsT, rdsAny, isRd, afterL, preB, callLB, callLV, lateV, dstV, dynCall, ↓condE_t, ↓condE_f, ↓guardE_tt, ↓guardE_ff, ↓guardE_tf, ↓guardE_ft, frzDeep, deepArgs, deepArg, resB, cv, stepB, stepE, callD, tabD, snapD, snap1, snapC, snapId, snapIds, guardB, guardC, dstAt, aopR, one, pre, binR, intOpR, shiftOpR, unR, argFrm, evo, lkp, hlk, lenOf, asLst, idOf, bndA, srcOk, ofVal, ofCells, setCells, fillA, setElems, fieldsOf, fieldsEq, scalEq, isEq, AV.wr, AV.ok1, TK.agg, frz, frzs, frzA, frzArg, frzArgs, subA, subL, sub1, kp, kh, accOf, List.replicate, Nat.reduceAdd, Nat.reduceSub, Nat.reduceMul, Nat.reduceEqDiff, Nat.reduceLT, Nat.reduceLeDiff, Nat.reduceBEq, reduceIte, reduceCtorEq, eq_self, ne_eq, Int.reduceToNat, Int.reduceLT, Int.reduceLE, Int.reduceGT, Int.reduceGE, Int.reduceBEq, Int.reduceBNe, Int.reduceEq, Int.reduceNe]
        all_goals ((repeat' apply And.intro) <;> first | rfl | omega | (show entryOk _ _ _ _ _ = true; kernel_rfl) | (show pivotOk _ _ = true; kernel_rfl) | decide)
    · skip
      simp only [Try.f25, Try.func57, Try.f57, inl, PB_all, hg, hm, hu, hd, sv, fv, fEnd, len_store, T74, T1, T75, hfree_fr, hfree_cf, cv', cf_eta, frz_u, shC_dec, dC, T23, T28, T25, hfree_lu, hfree_l0, row0, row1, row2, row3, row4, row5, shI_dec, shN_dec, shB_dec, shM_dec, dI, dN, dB, dM, dU, dU_map, iv, bv, u, ms, ctx_T, ctx_C, ctx_P, T4, T3, T26, Option.bind_some, Option.bind_none, Option.map_some, List.length_map, List.length_set, String.reduceBEq, Int.toNat_natCast, Bool.true_beq, Bool.false_beq, T24, shF_dec, dF, fr_eta, ev1, ev2, implies_true, undef, stepP, drawB, stepL, lateB, lateB0, rdsT, rdsAny, isRd, afterL, preB, callLB, callLV, lateV, dstV, dynCall, ↓condE_t, ↓condE_f, ↓guardE_tt, ↓guardE_ff, ↓guardE_tf, ↓guardE_ft, frzDeep, deepArgs, deepArg, resB, cv, stepB, stepE, callD, tabD, snapD, snap1, snapC, snapId, snapIds, guardB, guardC, dstAt, aopR, one, pre, binR, intOpR, shiftOpR, unR, argFrm, evo, lkp, hlk, lenOf, asLst, idOf, bndA, srcOk, ofVal, ofCells, setCells, fillA, setElems, fieldsOf, fieldsEq, scalEq, isEq, AV.wr, AV.ok1, TK.agg, frz, frzs, frzA, frzArg, frzArgs, subA, subL, sub1, kp, kh, accOf, List.replicate, Nat.reduceAdd, Nat.reduceSub, Nat.reduceMul, Nat.reduceEqDiff, Nat.reduceLT, Nat.reduceLeDiff, Nat.reduceBEq, reduceIte, reduceCtorEq, eq_self, ne_eq, Int.reduceToNat, Int.reduceLT, Int.reduceLE, Int.reduceGT, Int.reduceGE, Int.reduceBEq, Int.reduceBNe, Int.reduceEq, Int.reduceNe]
      all_goals ((repeat' apply And.intro) <;> first | rfl | omega | (show entryOk _ _ _ _ _ = true; kernel_rfl) | (show pivotOk _ _ = true; kernel_rfl) | decide)
    · skip
      simp only [Try.f25, Try.func58, Try.f58, inl, PB_all, hg, hm, hu, hd, sv, fv, fEnd, len_store, T74, T1, T75, hfree_fr, hfree_cf, cv', cf_eta, frz_u, shC_dec, dC, T23, T28, T25, hfree_lu, hfree_l0, row0, row1, row2, row3, row4, row5, shI_dec, shN_dec, shB_dec, shM_dec, dI, dN, dB, dM, dU, dU_map, iv, bv, u, ms, ctx_T, ctx_C, ctx_P, T4, T3, T26, Option.bind_some, Option.bind_none, Option.map_some, List.length_map, List.length_set, String.reduceBEq, Int.toNat_natCast, Bool.true_beq, Bool.false_beq, T24, shF_dec, dF, fr_eta, ev1, ev2, implies_true, undef, stepP, drawB, stepL, lateB, lateB0, rdsT, rdsAny, isRd, afterL, preB, callLB, callLV, lateV, dstV, dynCall, ↓condE_t, ↓condE_f, ↓guardE_tt, ↓guardE_ff, ↓guardE_tf, ↓guardE_ft, frzDeep, deepArgs, deepArg, resB, cv, stepB, stepE, callD, tabD, snapD, snap1, snapC, snapId, snapIds, guardB, guardC, dstAt, aopR, one, pre, binR, intOpR, shiftOpR, unR, argFrm, evo, lkp, hlk, lenOf, asLst, idOf, bndA, srcOk, ofVal, ofCells, setCells, fillA, setElems, fieldsOf, fieldsEq, scalEq, isEq, AV.wr, AV.ok1, TK.agg, frz, frzs, frzA, frzArg, frzArgs, subA, subL, sub1, kp, kh, accOf, List.replicate, Nat.reduceAdd, Nat.reduceSub, Nat.reduceMul, Nat.reduceEqDiff, Nat.reduceLT, Nat.reduceLeDiff, Nat.reduceBEq, reduceIte, reduceCtorEq, eq_self, ne_eq, Int.reduceToNat, Int.reduceLT, Int.reduceLE, Int.reduceGT, Int.reduceGE, Int.reduceBEq, Int.reduceBNe, Int.reduceEq, Int.reduceNe]
      all_goals ((repeat' apply And.intro) <;> first | rfl | omega | (show entryOk _ _ _ _ _ = true; kernel_rfl) | (show pivotOk _ _ = true; kernel_rfl) | decide)
end Go.Vai
/- Pushing: what a deque has; the document's answers. -/
namespace Go.Vai
open Go.RowKit Go.Proofs
set_option linter.unusedSimpArgs false
set_option linter.unusedVariables false
set_option maxHeartbeats 4000000
set_option maxRecDepth 100000

def rowsPC : List Row := [
  (25, row3 shC shM shF fun c m f => some (sv (pStep c m f))), 
  (70, row2 shC shI fun c w => some (iv (lBottom c w))), 
  (74, row3 shC shI shN fun c w x => if inUb x = true then some (iv (lSlot c w x)) else none)] ++ rowsPB
theorem rowsPC_ok : ∀ p ∈ rowsPC, RowOk Try.prog p := fun p h => by
  simp only [rowsPC, List.mem_append, List.mem_cons, List.not_mem_nil, or_false, false_or, or_assoc] at h
  rcases h with rfl | rfl | rfl | h
  · exact ok_row3 (enters_of Try.func25 (by decide) rfl) fun c m f r _ g _ e => by cases e; exact step_pure c m f (shM_got g)
  · exact ok_row2 (enters_of Try.func70 (by decide) rfl) fun c w r _ _ e => by cases e; exact rbottom_pure c w
  · exact ok_row3 (enters_of Try.func74 (by decide) rfl) fun c w x r _ _ _ e => by obtain ⟨h, rfl⟩ := opt_if e; exact rslot_pure c w x h
  · exact rowsPB_ok p h
theorem okPC : (ctx Try.prog rowsPC).ok := rows_ok rowsPC_ok
theorem PC_25 : tabC rowsPC 25 = row3 shC shM shF fun c m f => some (sv (pStep c m f)) := rfl
theorem PC_70 : tabC rowsPC 70 = row2 shC shI fun c w => some (iv (lBottom c w)) := rfl
theorem PC_74 : tabC rowsPC 74 = row3 shC shI shN fun c w x => if inUb x = true then some (iv (lSlot c w x)) else none := rfl
theorem PC_59 : tabC rowsPC 59 = row5 shC shM shF shI shI fun c m f op pcs => some (bv (goes c m f op pcs)) := rfl
theorem PC_68 : tabC rowsPC 68 = row5 shC shM shF shI shI fun c m f op pcs => some (bv (goes c m f op pcs)) := rfl
theorem PC_55 : tabC rowsPC 55 = fun _ => none := rfl
theorem PC_56 : tabC rowsPC 56 = fun _ => none := rfl
theorem PC_57 : tabC rowsPC 57 = fun _ => none := rfl
theorem PC_58 : tabC rowsPC 58 = fun _ => none := rfl
theorem PC_28 : tabC rowsPC 28 = row1 shM fun m => some (ms m) := rfl
theorem PC_76 : tabC rowsPC 76 = row4 shM shI shN shN fun m i v w => some (.tup [ms (mCas m i v w), bv (mCasB m i v)]) := rfl
theorem PC_46 : tabC rowsPC 46 = row2 shM shI fun m i => some (u (mLoad m i)) := rfl
theorem PC_61 : tabC rowsPC 61 = row3 shM shI shN fun m i v => some (ms (mStore m i v)) := rfl
theorem PC_63 : tabC rowsPC 63 = row4 shM shI shN shN fun m i v w => some (.tup [ms (mCas m i v w), bv (mCasB m i v)]) := rfl
theorem PC_69 : tabC rowsPC 69 = row2 shM shI fun m i => some (u (mLoad m i)) := rfl
theorem PC_17 : tabC rowsPC 17 = row2 shM shM fun a b => some (bv (decide (a = b))) := rfl
theorem PC_73 : tabC rowsPC 73 = row3 shM shI shN fun m i v => some (ms (mStore m i v)) := rfl
theorem PC_43 : tabC rowsPC 43 = row1 shC fun c => some (iv (lSize c)) := rfl
theorem PC_45 : tabC rowsPC 45 = row1 shC fun c => some (iv (lSize c)) := rfl
theorem PC_47 : tabC rowsPC 47 = row2 shC shI fun c w => some (iv (lTop c w)) := rfl
theorem PC_48 : tabC rowsPC 48 = row2 shC shI fun c w => some (iv (lBottom c w)) := rfl
theorem PC_50 : tabC rowsPC 50 = row3 shC shI shN fun c w x => some (iv (lSlot c w x)) := rfl
theorem PC_71 : tabC rowsPC 71 = row2 shC shI fun c w => some (iv (lTop c w)) := rfl
theorem PC_33 : tabC rowsPC 33 = row1 shC fun c => some (bv (mayC c)) := rfl
theorem PC_49 : tabC rowsPC 49 = row2 shN shN fun a b => some (iv (far a b)) := rfl
theorem PC_39 : tabC rowsPC 39 = row1 shC fun c => some (bv (mayC c)) := rfl
theorem PC_75 : tabC rowsPC 75 = row2 shN shN fun a b => some (iv (far a b)) := rfl
theorem PC_80 : tabC rowsPC 80 = row2 shC shI fun c w => if mayC c = true ∧ 0 ≤ w ∧ w ≤ 8 then some (iv (lBase c w)) else none := rfl
theorem PC_82 : tabC rowsPC 82 = fun _ => none := rfl
theorem PC_83 : tabC rowsPC 83 = fun _ => none := rfl
theorem PC_84 : tabC rowsPC 84 = fun _ => none := rfl
theorem PC_85 : tabC rowsPC 85 = fun _ => none := rfl
theorem PC_77 : tabC rowsPC 77 = fun _ => none := rfl
theorem PC_42 : tabC rowsPC 42 = row1 shF fun f => some (bv (f.res != 0)) := rfl
theorem PC_72 : tabC rowsPC 72 = row3 shF shI shN fun f r v => some (fv (fEnd f r v)) := rfl
theorem PC_23 : tabC rowsPC 23 = row3 shI shI shN fun o w v => some (fv (fBegin o w v)) := rfl
theorem PC_20 : tabC rowsPC 20 = row1 shF fun f => some (bv (f.res != 0)) := rfl
theorem PC_62 : tabC rowsPC 62 = row3 shF shI shN fun f r v => some (fv (fEnd f r v)) := rfl
theorem PC_52 : tabC rowsPC 52 = fun _ => none := rfl
theorem PC_53 : tabC rowsPC 53 = fun _ => none := rfl
theorem PC_54 : tabC rowsPC 54 = fun _ => none := rfl
theorem PC_51 : tabC rowsPC 51 = fun _ => none := rfl
theorem PC_all : type_of% (And.intro PC_25 <| And.intro PC_70 <| And.intro PC_74 <| And.intro PC_59 <| And.intro PC_68 <| And.intro PC_55 <| And.intro PC_56 <| And.intro PC_57 <| And.intro PC_58 <| And.intro PC_28 <| And.intro PC_76 <| And.intro PC_46 <| And.intro PC_61 <| And.intro PC_63 <| And.intro PC_69 <| And.intro PC_17 <| And.intro PC_73 <| And.intro PC_43 <| And.intro PC_45 <| And.intro PC_47 <| And.intro PC_48 <| And.intro PC_50 <| And.intro PC_71 <| And.intro PC_33 <| And.intro PC_49 <| And.intro PC_39 <| And.intro PC_75 <| And.intro PC_80 <| And.intro PC_82 <| And.intro PC_83 <| And.intro PC_84 <| And.intro PC_85 <| And.intro PC_77 <| And.intro PC_42 <| And.intro PC_72 <| And.intro PC_23 <| And.intro PC_20 <| And.intro PC_62 <| And.intro PC_52 <| And.intro PC_53 <| And.intro PC_54 <| PC_51) := And.intro PC_25 <| And.intro PC_70 <| And.intro PC_74 <| And.intro PC_59 <| And.intro PC_68 <| And.intro PC_55 <| And.intro PC_56 <| And.intro PC_57 <| And.intro PC_58 <| And.intro PC_28 <| And.intro PC_76 <| And.intro PC_46 <| And.intro PC_61 <| And.intro PC_63 <| And.intro PC_69 <| And.intro PC_17 <| And.intro PC_73 <| And.intro PC_43 <| And.intro PC_45 <| And.intro PC_47 <| And.intro PC_48 <| And.intro PC_50 <| And.intro PC_71 <| And.intro PC_33 <| And.intro PC_49 <| And.intro PC_39 <| And.intro PC_75 <| And.intro PC_80 <| And.intro PC_82 <| And.intro PC_83 <| And.intro PC_84 <| And.intro PC_85 <| And.intro PC_77 <| And.intro PC_42 <| And.intro PC_72 <| And.intro PC_23 <| And.intro PC_20 <| And.intro PC_62 <| And.intro PC_52 <| And.intro PC_53 <| And.intro PC_54 <| PC_51

theorem rstep_pure (c : Cf) (m : List Int) (f : Fr) (hm : m.length ≤ 1000) (hx : inUb f.x = true) : PureC Try.prog 29 [cv' c, ms m, fv f] (sv (pStep c m f)) := by
  refine pure_sub okPC 1 Try.func29 rfl (by show 3 ≤ _; decide) ?_
  cases hg : goes c m f 0 4 with
  | false =>
    rw [pStep_no hg]
    simp only [Try.f29, PC_all, hg, hm, sv, fv, hfree_fr, hfree_cf, cv', cf_eta, frz_u, shC_dec, dC, T23, T28, T25, hfree_lu, hfree_l0, row0, row1, row2, row3, row4, row5, shI_dec, shN_dec, shB_dec, shM_dec, dI, dN, dB, dM, dU, dU_map, iv, bv, u, ms, ctx_T, ctx_C, ctx_P, T4, T3, T26, Option.bind_some, Option.bind_none, Option.map_some, List.length_map, List.length_set, String.reduceBEq, Int.toNat_natCast, Bool.true_beq, Bool.false_beq, T24, shF_dec, dF, fr_eta, ev1, ev2, implies_true, undef, stepP, drawB, stepL, lateB, lateB0, rdsT, rdsAny, isRd, afterL, preB, callLB, callLV, lateV, dstV, dynCall, ↓condE_t, ↓condE_f, ↓guardE_tt, ↓guardE_ff, ↓guardE_tf, ↓guardE_ft, frzDeep, deepArgs, deepArg, resB, cv, stepB, stepE, callD, tabD, snapD, snap1, snapC, snapId, snapIds, guardB, guardC, dstAt, aopR, one, pre, binR, intOpR, shiftOpR, unR, argFrm, evo, lkp, hlk, lenOf, asLst, idOf, bndA, srcOk, ofVal, ofCells, setCells, fillA, setElems, fieldsOf, fieldsEq, scalEq, isEq, AV.wr, AV.ok1, TK.agg, frz, frzs, frzA, frzArg, frzArgs, subA, subL, sub1, kp, kh, accOf, List.replicate, Nat.reduceAdd, Nat.reduceSub, Nat.reduceMul, Nat.reduceEqDiff, Nat.reduceLT, Nat.reduceLeDiff, Nat.reduceBEq, reduceIte, reduceCtorEq, eq_self, ne_eq, Int.reduceToNat, Int.reduceLT, Int.reduceLE, Int.reduceGT, Int.reduceGE, Int.reduceBEq, Int.reduceBNe, Int.reduceEq, Int.reduceNe]
    all_goals ((repeat' apply And.intro) <;> first | rfl | omega | (show entryOk _ _ _ _ _ = true; kernel_rfl) | (show pivotOk _ _ = true; kernel_rfl) | decide)
  | true =>
    obtain ⟨hl, hres, hop, h0, h1⟩ := goes_iff.1 hg
    have hd : wrapU c.d = c.d := by rw [wrapU_eq]; have := hl.dpos; omega
    have hu : ∀ x, IntKind.wrap .u64 x = wrapU x := fun _ => rfl
    obtain ⟨op, pc, who, val, x, y, res⟩ := f
    dsimp only at h0 h1 hx
    have hpc : pc = 0 ∨ pc = 1 ∨ pc = 2 ∨ pc = 3 := by omega
    unfold pStep
    rw [if_pos hg]
    rcases hpc with rfl | rfl | rfl | rfl
    · simp only [Try.f29, inl, PC_all, hg, hm, hu, hd, hx, sv, fv, fEnd, len_store, hfree_fr, hfree_cf, cv', cf_eta, frz_u, shC_dec, dC, T23, T28, T25, hfree_lu, hfree_l0, row0, row1, row2, row3, row4, row5, shI_dec, shN_dec, shB_dec, shM_dec, dI, dN, dB, dM, dU, dU_map, iv, bv, u, ms, ctx_T, ctx_C, ctx_P, T4, T3, T26, Option.bind_some, Option.bind_none, Option.map_some, List.length_map, List.length_set, String.reduceBEq, Int.toNat_natCast, Bool.true_beq, Bool.false_beq, T24, shF_dec, dF, fr_eta, ev1, ev2, implies_true, undef, stepP, drawB, stepL, lateB, lateB0, rdsT, rdsAny, isRd, afterL, preB, callLB, callLV, lateV, dstV, dynCall, ↓condE_t, ↓condE_f, ↓guardE_tt, ↓guardE_ff, ↓guardE_tf, ↓guardE_ft, frzDeep, deepArgs, deepArg, resB, cv, stepB, stepE, callD, tabD, snapD, snap1, snapC, snapId, snapIds, guardB, guardC, dstAt, aopR, one, pre, binR, intOpR, shiftOpR, unR, argFrm, evo, lkp, hlk, lenOf, asLst, idOf, bndA, srcOk, ofVal, ofCells, setCells, fillA, setElems, fieldsOf, fieldsEq, scalEq, isEq, AV.wr, AV.ok1, TK.agg, frz, frzs, frzA, frzArg, frzArgs, subA, subL, sub1, kp, kh, accOf, List.replicate, Nat.reduceAdd, Nat.reduceSub, Nat.reduceMul, Nat.reduceEqDiff, Nat.reduceLT, Nat.reduceLeDiff, Nat.reduceBEq, reduceIte, reduceCtorEq, eq_self, ne_eq, Int.reduceToNat, Int.reduceLT, Int.reduceLE, Int.reduceGT, Int.reduceGE, Int.reduceBEq, Int.reduceBNe, Int.reduceEq, Int.reduceNe]
      all_goals ((repeat' apply And.intro) <;> first | rfl | omega | (show entryOk _ _ _ _ _ = true; kernel_rfl) | (show pivotOk _ _ = true; kernel_rfl) | decide)
    · by_cases hf : wrapU (x - mLoad m (lTop c who)) ≥ c.d
      · have hf' : c.d ≤ wrapU (x - mLoad m (lTop c who)) := hf
        simp only [Try.f29, inl, PC_all, hg, hm, hu, hd, hx, hf, hf', sv, fv, fEnd, len_store, hfree_fr, hfree_cf, cv', cf_eta, frz_u, shC_dec, dC, T23, T28, T25, hfree_lu, hfree_l0, row0, row1, row2, row3, row4, row5, shI_dec, shN_dec, shB_dec, shM_dec, dI, dN, dB, dM, dU, dU_map, iv, bv, u, ms, ctx_T, ctx_C, ctx_P, T4, T3, T26, Option.bind_some, Option.bind_none, Option.map_some, List.length_map, List.length_set, String.reduceBEq, Int.toNat_natCast, Bool.true_beq, Bool.false_beq, T24, shF_dec, dF, fr_eta, ev1, ev2, implies_true, undef, stepP, drawB, stepL, lateB, lateB0, rdsT, rdsAny, isRd, afterL, preB, callLB, callLV, lateV, dstV, dynCall, ↓condE_t, ↓condE_f, ↓guardE_tt, ↓guardE_ff, ↓guardE_tf, ↓guardE_ft, frzDeep, deepArgs, deepArg, resB, cv, stepB, stepE, callD, tabD, snapD, snap1, snapC, snapId, snapIds, guardB, guardC, dstAt, aopR, one, pre, binR, intOpR, shiftOpR, unR, argFrm, evo, lkp, hlk, lenOf, asLst, idOf, bndA, srcOk, ofVal, ofCells, setCells, fillA, setElems, fieldsOf, fieldsEq, scalEq, isEq, AV.wr, AV.ok1, TK.agg, frz, frzs, frzA, frzArg, frzArgs, subA, subL, sub1, kp, kh, accOf, List.replicate, Nat.reduceAdd, Nat.reduceSub, Nat.reduceMul, Nat.reduceEqDiff, Nat.reduceLT, Nat.reduceLeDiff, Nat.reduceBEq, reduceIte, reduceCtorEq, eq_self, ne_eq, Int.reduceToNat, Int.reduceLT, Int.reduceLE, Int.reduceGT, Int.reduceGE, Int.reduceBEq, Int.reduceBNe, Int.reduceEq, Int.reduceNe]
        all_goals ((repeat' apply And.intro) <;> first | rfl | omega | (show entryOk _ _ _ _ _ = true; kernel_rfl) | (show pivotOk _ _ = true; kernel_rfl) | decide)
      · have hf' : ¬ c.d ≤ wrapU (x - mLoad m (lTop c who)) := hf
        simp only [Try.f29, inl, PC_all, hg, hm, hu, hd, hx, hf, hf', sv, fv, fEnd, len_store, hfree_fr, hfree_cf, cv', cf_eta, frz_u, shC_dec, dC, T23, T28, T25, hfree_lu, hfree_l0, row0, row1, row2, row3, row4, row5, shI_dec, shN_dec, shB_dec, shM_dec, dI, dN, dB, dM, dU, dU_map, iv, bv, u, ms, ctx_T, ctx_C, ctx_P, T4, T3, T26, Option.bind_some, Option.bind_none, Option.map_some, List.length_map, List.length_set, String.reduceBEq, Int.toNat_natCast, Bool.true_beq, Bool.false_beq, T24, shF_dec, dF, fr_eta, ev1, ev2, implies_true, undef, stepP, drawB, stepL, lateB, lateB0, rdsT, rdsAny, isRd, afterL, preB, callLB, callLV, lateV, dstV, dynCall, ↓condE_t, ↓condE_f, ↓guardE_tt, ↓guardE_ff, ↓guardE_tf, ↓guardE_ft, frzDeep, deepArgs, deepArg, resB, cv, stepB, stepE, callD, tabD, snapD, snap1, snapC, snapId, snapIds, guardB, guardC, dstAt, aopR, one, pre, binR, intOpR, shiftOpR, unR, argFrm, evo, lkp, hlk, lenOf, asLst, idOf, bndA, srcOk, ofVal, ofCells, setCells, fillA, setElems, fieldsOf, fieldsEq, scalEq, isEq, AV.wr, AV.ok1, TK.agg, frz, frzs, frzA, frzArg, frzArgs, subA, subL, sub1, kp, kh, accOf, List.replicate, Nat.reduceAdd, Nat.reduceSub, Nat.reduceMul, Nat.reduceEqDiff, Nat.reduceLT, Nat.reduceLeDiff, Nat.reduceBEq, reduceIte, reduceCtorEq, eq_self, ne_eq, Int.reduceToNat, Int.reduceLT, Int.reduceLE, Int.reduceGT, Int.reduceGE, Int.reduceBEq, Int.reduceBNe, Int.reduceEq, Int.reduceNe]
        all_goals ((repeat' apply And.intro) <;> first | rfl | omega | (show entryOk _ _ _ _ _ = true; kernel_rfl) | (show pivotOk _ _ = true; kernel_rfl) | decide)
    · simp only [Try.f29, inl, PC_all, hg, hm, hu, hd, hx, sv, fv, fEnd, len_store, hfree_fr, hfree_cf, cv', cf_eta, frz_u, shC_dec, dC, T23, T28, T25, hfree_lu, hfree_l0, row0, row1, row2, row3, row4, row5, shI_dec, shN_dec, shB_dec, shM_dec, dI, dN, dB, dM, dU, dU_map, iv, bv, u, ms, ctx_T, ctx_C, ctx_P, T4, T3, T26, Option.bind_some, Option.bind_none, Option.map_some, List.length_map, List.length_set, String.reduceBEq, Int.toNat_natCast, Bool.true_beq, Bool.false_beq, T24, shF_dec, dF, fr_eta, ev1, ev2, implies_true, undef, stepP, drawB, stepL, lateB, lateB0, rdsT, rdsAny, isRd, afterL, preB, callLB, callLV, lateV, dstV, dynCall, ↓condE_t, ↓condE_f, ↓guardE_tt, ↓guardE_ff, ↓guardE_tf, ↓guardE_ft, frzDeep, deepArgs, deepArg, resB, cv, stepB, stepE, callD, tabD, snapD, snap1, snapC, snapId, snapIds, guardB, guardC, dstAt, aopR, one, pre, binR, intOpR, shiftOpR, unR, argFrm, evo, lkp, hlk, lenOf, asLst, idOf, bndA, srcOk, ofVal, ofCells, setCells, fillA, setElems, fieldsOf, fieldsEq, scalEq, isEq, AV.wr, AV.ok1, TK.agg, frz, frzs, frzA, frzArg, frzArgs, subA, subL, sub1, kp, kh, accOf, List.replicate, Nat.reduceAdd, Nat.reduceSub, Nat.reduceMul, Nat.reduceEqDiff, Nat.reduceLT, Nat.reduceLeDiff, Nat.reduceBEq, reduceIte, reduceCtorEq, eq_self, ne_eq, Int.reduceToNat, Int.reduceLT, Int.reduceLE, Int.reduceGT, Int.reduceGE, Int.reduceBEq, Int.reduceBNe, Int.reduceEq, Int.reduceNe]
      all_goals ((repeat' apply And.intro) <;> first | rfl | omega | (show entryOk _ _ _ _ _ = true; kernel_rfl) | (show pivotOk _ _ = true; kernel_rfl) | decide)
    · simp only [Try.f29, inl, PC_all, hg, hm, hu, hd, hx, sv, fv, fEnd, len_store, hfree_fr, hfree_cf, cv', cf_eta, frz_u, shC_dec, dC, T23, T28, T25, hfree_lu, hfree_l0, row0, row1, row2, row3, row4, row5, shI_dec, shN_dec, shB_dec, shM_dec, dI, dN, dB, dM, dU, dU_map, iv, bv, u, ms, ctx_T, ctx_C, ctx_P, T4, T3, T26, Option.bind_some, Option.bind_none, Option.map_some, List.length_map, List.length_set, String.reduceBEq, Int.toNat_natCast, Bool.true_beq, Bool.false_beq, T24, shF_dec, dF, fr_eta, ev1, ev2, implies_true, undef, stepP, drawB, stepL, lateB, lateB0, rdsT, rdsAny, isRd, afterL, preB, callLB, callLV, lateV, dstV, dynCall, ↓condE_t, ↓condE_f, ↓guardE_tt, ↓guardE_ff, ↓guardE_tf, ↓guardE_ft, frzDeep, deepArgs, deepArg, resB, cv, stepB, stepE, callD, tabD, snapD, snap1, snapC, snapId, snapIds, guardB, guardC, dstAt, aopR, one, pre, binR, intOpR, shiftOpR, unR, argFrm, evo, lkp, hlk, lenOf, asLst, idOf, bndA, srcOk, ofVal, ofCells, setCells, fillA, setElems, fieldsOf, fieldsEq, scalEq, isEq, AV.wr, AV.ok1, TK.agg, frz, frzs, frzA, frzArg, frzArgs, subA, subL, sub1, kp, kh, accOf, List.replicate, Nat.reduceAdd, Nat.reduceSub, Nat.reduceMul, Nat.reduceEqDiff, Nat.reduceLT, Nat.reduceLeDiff, Nat.reduceBEq, reduceIte, reduceCtorEq, eq_self, ne_eq, Int.reduceToNat, Int.reduceLT, Int.reduceLE, Int.reduceGT, Int.reduceGE, Int.reduceBEq, Int.reduceBNe, Int.reduceEq, Int.reduceNe]
      all_goals ((repeat' apply And.intro) <;> first | rfl | omega | (show entryOk _ _ _ _ _ = true; kernel_rfl) | (show pivotOk _ _ = true; kernel_rfl) | decide)

/-- A list of a deque. -/
def lv (c : Cf) (m : List Int) (w : Int) : AV := .tup [ms (dList c m w), bv (dIs c m w)]

theorem list_pure (c : Cf) (m : List Int) (w : Int) (hm : m.length ≤ 1000) : PureC Try.prog 22 [cv' c, ms m, iv w] (lv c m w) := by
  refine pure_sub okPC 1 Try.func22 rfl (by show 3 ≤ _; decide) ?_
  by_cases hL : Lay c m w
  · have q1 := hL.may
    have q2 : ((m.length : Int) != lSize c) = false := by simpa using hL.len
    have q3 : ¬ w < 0 := by have := hL.lo; omega
    have q4 : ¬ w ≥ c.w := by have := hL.hi; omega
    have hdn : far (mLoad m (lBottom c w)) (mLoad m (lTop c w)) = dNum c m w := rfl
    by_cases n0 : dNum c m w < 0
    · have hi : dIs c m w = false := by rw [Bool.eq_false_iff]; intro e; have := dIs_iff.1 e; omega
      have hd : dList c m w = [] := by simp [dList, hi]
      simp only [Try.f22, PC_all, hm, q1, q2, q3, q4, hdn, n0, hi, hd, lv, sv, fv, hfree_fr, hfree_cf, cv', cf_eta, frz_u, shC_dec, dC, T23, T28, T25, hfree_lu, hfree_l0, row0, row1, row2, row3, row4, row5, shI_dec, shN_dec, shB_dec, shM_dec, dI, dN, dB, dM, dU, dU_map, iv, bv, u, ms, ctx_T, ctx_C, ctx_P, T4, T3, T26, Option.bind_some, Option.bind_none, Option.map_some, List.length_map, List.length_set, String.reduceBEq, Int.toNat_natCast, Bool.true_beq, Bool.false_beq, T24, shF_dec, dF, fr_eta, ev1, ev2, implies_true, undef, stepP, drawB, stepL, lateB, lateB0, rdsT, rdsAny, isRd, afterL, preB, callLB, callLV, lateV, dstV, dynCall, ↓condE_t, ↓condE_f, ↓guardE_tt, ↓guardE_ff, ↓guardE_tf, ↓guardE_ft, frzDeep, deepArgs, deepArg, resB, cv, stepB, stepE, callD, tabD, snapD, snap1, snapC, snapId, snapIds, guardB, guardC, dstAt, aopR, one, pre, binR, intOpR, shiftOpR, unR, argFrm, evo, lkp, hlk, lenOf, asLst, idOf, bndA, srcOk, ofVal, ofCells, setCells, fillA, setElems, fieldsOf, fieldsEq, scalEq, isEq, AV.wr, AV.ok1, TK.agg, frz, frzs, frzA, frzArg, frzArgs, subA, subL, sub1, kp, kh, accOf, List.replicate, Nat.reduceAdd, Nat.reduceSub, Nat.reduceMul, Nat.reduceEqDiff, Nat.reduceLT, Nat.reduceLeDiff, Nat.reduceBEq, reduceIte, reduceCtorEq, eq_self, ne_eq, Int.reduceToNat, Int.reduceLT, Int.reduceLE, Int.reduceGT, Int.reduceGE, Int.reduceBEq, Int.reduceBNe, Int.reduceEq, Int.reduceNe]
      all_goals ((repeat' apply And.intro) <;> first | rfl | omega | (show entryOk _ _ _ _ _ = true; kernel_rfl) | (show pivotOk _ _ = true; kernel_rfl) | decide)
    · by_cases n1 : dNum c m w > c.d
      · have hi : dIs c m w = false := by rw [Bool.eq_false_iff]; intro e; have := dIs_iff.1 e; omega
        have hd : dList c m w = [] := by simp [dList, hi]
        simp only [Try.f22, PC_all, hm, q1, q2, q3, q4, hdn, n0, n1, hi, hd, lv, sv, fv, hfree_fr, hfree_cf, cv', cf_eta, frz_u, shC_dec, dC, T23, T28, T25, hfree_lu, hfree_l0, row0, row1, row2, row3, row4, row5, shI_dec, shN_dec, shB_dec, shM_dec, dI, dN, dB, dM, dU, dU_map, iv, bv, u, ms, ctx_T, ctx_C, ctx_P, T4, T3, T26, Option.bind_some, Option.bind_none, Option.map_some, List.length_map, List.length_set, String.reduceBEq, Int.toNat_natCast, Bool.true_beq, Bool.false_beq, T24, shF_dec, dF, fr_eta, ev1, ev2, implies_true, undef, stepP, drawB, stepL, lateB, lateB0, rdsT, rdsAny, isRd, afterL, preB, callLB, callLV, lateV, dstV, dynCall, ↓condE_t, ↓condE_f, ↓guardE_tt, ↓guardE_ff, ↓guardE_tf, ↓guardE_ft, frzDeep, deepArgs, deepArg, resB, cv, stepB, stepE, callD, tabD, snapD, snap1, snapC, snapId, snapIds, guardB, guardC, dstAt, aopR, one, pre, binR, intOpR, shiftOpR, unR, argFrm, evo, lkp, hlk, lenOf, asLst, idOf, bndA, srcOk, ofVal, ofCells, setCells, fillA, setElems, fieldsOf, fieldsEq, scalEq, isEq, AV.wr, AV.ok1, TK.agg, frz, frzs, frzA, frzArg, frzArgs, subA, subL, sub1, kp, kh, accOf, List.replicate, Nat.reduceAdd, Nat.reduceSub, Nat.reduceMul, Nat.reduceEqDiff, Nat.reduceLT, Nat.reduceLeDiff, Nat.reduceBEq, reduceIte, reduceCtorEq, eq_self, ne_eq, Int.reduceToNat, Int.reduceLT, Int.reduceLE, Int.reduceGT, Int.reduceGE, Int.reduceBEq, Int.reduceBNe, Int.reduceEq, Int.reduceNe]
        all_goals ((repeat' apply And.intro) <;> first | rfl | omega | (show entryOk _ _ _ _ _ = true; kernel_rfl) | (show pivotOk _ _ = true; kernel_rfl) | decide)
      · have hi : dIs c m w = true := dIs_iff.2 ⟨hL, by omega, by omega⟩
        simp only [Try.f22, PC_all, hm, q1, q2, q3, q4, hdn, n0, n1, hi, lv, sv, fv, hfree_fr, hfree_cf, cv', cf_eta, frz_u, shC_dec, dC, T23, T28, T25, hfree_lu, hfree_l0, row0, row1, row2, row3, row4, row5, shI_dec, shN_dec, shB_dec, shM_dec, dI, dN, dB, dM, dU, dU_map, iv, bv, u, ms, ctx_T, ctx_C, ctx_P, T4, T3, T26, Option.bind_some, Option.bind_none, Option.map_some, List.length_map, List.length_set, String.reduceBEq, Int.toNat_natCast, Bool.true_beq, Bool.false_beq, T24, shF_dec, dF, fr_eta, ev1, ev2, implies_true, undef, stepP, drawB, stepL, lateB, lateB0, rdsT, rdsAny, isRd, afterL, preB, callLB, callLV, lateV, dstV, dynCall, ↓condE_t, ↓condE_f, ↓guardE_tt, ↓guardE_ff, ↓guardE_tf, ↓guardE_ft, frzDeep, deepArgs, deepArg, resB, cv, stepB, stepE, callD, tabD, snapD, snap1, snapC, snapId, snapIds, guardB, guardC, dstAt, aopR, one, pre, binR, intOpR, shiftOpR, unR, argFrm, evo, lkp, hlk, lenOf, asLst, idOf, bndA, srcOk, ofVal, ofCells, setCells, fillA, setElems, fieldsOf, fieldsEq, scalEq, isEq, AV.wr, AV.ok1, TK.agg, frz, frzs, frzA, frzArg, frzArgs, subA, subL, sub1, kp, kh, accOf, List.replicate, Nat.reduceAdd, Nat.reduceSub, Nat.reduceMul, Nat.reduceEqDiff, Nat.reduceLT, Nat.reduceLeDiff, Nat.reduceBEq, reduceIte, reduceCtorEq, eq_self, ne_eq, Int.reduceToNat, Int.reduceLT, Int.reduceLE, Int.reduceGT, Int.reduceGE, Int.reduceBEq, Int.reduceBNe, Int.reduceEq, Int.reduceNe]
        have hdl := dList_eq hi
        have hd16 : dNum c m w ≤ 16 := by have := hL.dpos; omega
        generalize ht : mLoad m (lTop c w) = t at *
        generalize hn : (dNum c m w).toNat = n at *
        have hn' : dNum c m w = (n : Int) := by omega
        have hu : ∀ x, IntKind.wrap .u64 x = wrapU x := fun _ => rfl
        rw [hn', hdl]
        refine WP.virt 11 26 1 rfl (by decide) ?_
        refine WP.loop (fun j : Nat × Nat => n - j.1) (fun j => j.1 ≤ n ∧ 0 < j.2) (n := 72) (fr := fun j => [(55, iv j.1), (54, iv n), (11, .arr j.2 0 j.1), (1, ms m), (2, iv w), (8, u t), (3, .ptr 0 0 0)])
          (hp := fun j => [(j.2, some ⟨false, 26, 1, (dRow c m w t j.1).map u⟩), (0, some ⟨false, 23, 4, [cv' c]⟩)]) (N := 50) ?_ (0, 50) ⟨Nat.zero_le _, by decide⟩ rfl (by show 50 ≤ 51; decide) ⟨rfl, rfl, rfl, rfl, rfl, rfl, rfl, trivial⟩ ⟨rfl, rfl, trivial⟩
        rintro ⟨i, id⟩ nx ⟨h4, h5⟩ hnx hid
        dsimp only at h4 h5 hid ⊢
        have n1 : id < nx := hid id _ (hlk_hd ..)
        have n2 : 0 < nx := by omega
        refine WP.of okPC 1 (by rfl) ?_
        by_cases hlt : i < n
        · have hz : (i : Int) < (n : Int) := by omega
          have ww : IntKind.wrap .i64 ((i : Int) + 1) = ((i + 1 : Nat) : Int) := by rw [wrap_i (by omega) (by omega)]; omega
          have hx : wrapU (t + wrapU (i : Int)) = wrapU (t + (i : Int)) := by rw [wrapU_eq, wrapU_eq, wrapU_eq]; omega
          have e1 : ((dRow c m w t i).map u).take i = (dRow c m w t i).map u := List.take_of_length_le (by simp [dRow_len])
          have e2 := (dRow_succ c m w t i).symm
          have hb : (i + 1) * 8 ≤ 140737488355328 := by omega
          have hle : i ≤ i := Nat.le_refl _
          simp only [PC_all, hm, hz, ww, hu, hx, e1, e2, hb, hle, n1, n2, h5, snoc_u, dRow_len, nb_self, nb_same, nb_l0, nb_r0, nb_lt, nb_gt, nb_lt0, nb_gt0, Nat.add_assoc, hfree_fr, hfree_cf, cv', cf_eta, frz_u, shC_dec, dC, T23, T28, T25, hfree_lu, hfree_l0, row0, row1, row2, row3, row4, row5, shI_dec, shN_dec, shB_dec, shM_dec, dI, dN, dB, dM, dU, dU_map, iv, bv, u, ms, ctx_T, ctx_C, ctx_P, T4, T3, T26, Option.bind_some, Option.bind_none, Option.map_some, List.length_map, List.length_set, String.reduceBEq, Int.toNat_natCast, Bool.true_beq, Bool.false_beq, T24, shF_dec, dF, fr_eta, ev1, ev2, implies_true, undef, stepP, drawB, stepL, lateB, lateB0, rdsT, rdsAny, isRd, afterL, preB, callLB, callLV, lateV, dstV, dynCall, ↓condE_t, ↓condE_f, ↓guardE_tt, ↓guardE_ff, ↓guardE_tf, ↓guardE_ft, frzDeep, deepArgs, deepArg, resB, cv, stepB, stepE, callD, tabD, snapD, snap1, snapC, snapId, snapIds, guardB, guardC, dstAt, aopR, one, pre, binR, intOpR, shiftOpR, unR, argFrm, evo, lkp, hlk, lenOf, asLst, idOf, bndA, srcOk, ofVal, ofCells, setCells, fillA, setElems, fieldsOf, fieldsEq, scalEq, isEq, AV.wr, AV.ok1, TK.agg, frz, frzs, frzA, frzArg, frzArgs, subA, subL, sub1, kp, kh, accOf, List.replicate, Nat.reduceAdd, Nat.reduceSub, Nat.reduceMul, Nat.reduceEqDiff, Nat.reduceLT, Nat.reduceLeDiff, Nat.reduceBEq, reduceIte, reduceCtorEq, eq_self, ne_eq, Int.reduceToNat, Int.reduceLT, Int.reduceLE, Int.reduceGT, Int.reduceGE, Int.reduceBEq, Int.reduceBNe, Int.reduceEq, Int.reduceNe]
          exact ⟨(i + 1, nx + 14), by dsimp only; omega, ⟨by dsimp only; omega, by dsimp only; omega⟩, ⟨rfl, rfl⟩, by simp only [nb_self]⟩
        · have e : i = n := by omega
          have hz : ¬ (i : Int) < (n : Int) := by omega
          subst e
          have hle : i ≤ i := Nat.le_refl _
          have e1 : ((dRow c m w t i).map u).take i = (dRow c m w t i).map u := List.take_of_length_le (by simp [dRow_len])
          simp only [PC_all, hz, n1, n2, h5, hle, e1, dRow_len, hf_u, nb_self, nb_same, nb_l0, nb_r0, nb_lt, nb_gt, nb_lt0, nb_gt0, Nat.add_assoc, hfree_fr, hfree_cf, cv', cf_eta, frz_u, shC_dec, dC, T23, T28, T25, hfree_lu, hfree_l0, row0, row1, row2, row3, row4, row5, shI_dec, shN_dec, shB_dec, shM_dec, dI, dN, dB, dM, dU, dU_map, iv, bv, u, ms, ctx_T, ctx_C, ctx_P, T4, T3, T26, Option.bind_some, Option.bind_none, Option.map_some, List.length_map, List.length_set, String.reduceBEq, Int.toNat_natCast, Bool.true_beq, Bool.false_beq, T24, shF_dec, dF, fr_eta, ev1, ev2, implies_true, undef, stepP, drawB, stepL, lateB, lateB0, rdsT, rdsAny, isRd, afterL, preB, callLB, callLV, lateV, dstV, dynCall, ↓condE_t, ↓condE_f, ↓guardE_tt, ↓guardE_ff, ↓guardE_tf, ↓guardE_ft, frzDeep, deepArgs, deepArg, resB, cv, stepB, stepE, callD, tabD, snapD, snap1, snapC, snapId, snapIds, guardB, guardC, dstAt, aopR, one, pre, binR, intOpR, shiftOpR, unR, argFrm, evo, lkp, hlk, lenOf, asLst, idOf, bndA, srcOk, ofVal, ofCells, setCells, fillA, setElems, fieldsOf, fieldsEq, scalEq, isEq, AV.wr, AV.ok1, TK.agg, frz, frzs, frzA, frzArg, frzArgs, subA, subL, sub1, kp, kh, accOf, List.replicate, Nat.reduceAdd, Nat.reduceSub, Nat.reduceMul, Nat.reduceEqDiff, Nat.reduceLT, Nat.reduceLeDiff, Nat.reduceBEq, reduceIte, reduceCtorEq, eq_self, ne_eq, Int.reduceToNat, Int.reduceLT, Int.reduceLE, Int.reduceGT, Int.reduceGE, Int.reduceBEq, Int.reduceBNe, Int.reduceEq, Int.reduceNe]
  · have hi : dIs c m w = false := by rw [Bool.eq_false_iff]; intro e; exact hL (dIs_iff.1 e).1
    have hd : dList c m w = [] := by simp [dList, hi]
    cases q1 : mayC c with
    | false =>
      simp only [Try.f22, PC_all, hm, q1, hi, hd, lv, sv, fv, hfree_fr, hfree_cf, cv', cf_eta, frz_u, shC_dec, dC, T23, T28, T25, hfree_lu, hfree_l0, row0, row1, row2, row3, row4, row5, shI_dec, shN_dec, shB_dec, shM_dec, dI, dN, dB, dM, dU, dU_map, iv, bv, u, ms, ctx_T, ctx_C, ctx_P, T4, T3, T26, Option.bind_some, Option.bind_none, Option.map_some, List.length_map, List.length_set, String.reduceBEq, Int.toNat_natCast, Bool.true_beq, Bool.false_beq, T24, shF_dec, dF, fr_eta, ev1, ev2, implies_true, undef, stepP, drawB, stepL, lateB, lateB0, rdsT, rdsAny, isRd, afterL, preB, callLB, callLV, lateV, dstV, dynCall, ↓condE_t, ↓condE_f, ↓guardE_tt, ↓guardE_ff, ↓guardE_tf, ↓guardE_ft, frzDeep, deepArgs, deepArg, resB, cv, stepB, stepE, callD, tabD, snapD, snap1, snapC, snapId, snapIds, guardB, guardC, dstAt, aopR, one, pre, binR, intOpR, shiftOpR, unR, argFrm, evo, lkp, hlk, lenOf, asLst, idOf, bndA, srcOk, ofVal, ofCells, setCells, fillA, setElems, fieldsOf, fieldsEq, scalEq, isEq, AV.wr, AV.ok1, TK.agg, frz, frzs, frzA, frzArg, frzArgs, subA, subL, sub1, kp, kh, accOf, List.replicate, Nat.reduceAdd, Nat.reduceSub, Nat.reduceMul, Nat.reduceEqDiff, Nat.reduceLT, Nat.reduceLeDiff, Nat.reduceBEq, reduceIte, reduceCtorEq, eq_self, ne_eq, Int.reduceToNat, Int.reduceLT, Int.reduceLE, Int.reduceGT, Int.reduceGE, Int.reduceBEq, Int.reduceBNe, Int.reduceEq, Int.reduceNe]
      all_goals ((repeat' apply And.intro) <;> first | rfl | omega | (show entryOk _ _ _ _ _ = true; kernel_rfl) | (show pivotOk _ _ = true; kernel_rfl) | decide)
    | true =>
      cases q2 : ((m.length : Int) != lSize c) with
      | true =>
        simp only [Try.f22, PC_all, hm, q1, q2, hi, hd, lv, sv, fv, hfree_fr, hfree_cf, cv', cf_eta, frz_u, shC_dec, dC, T23, T28, T25, hfree_lu, hfree_l0, row0, row1, row2, row3, row4, row5, shI_dec, shN_dec, shB_dec, shM_dec, dI, dN, dB, dM, dU, dU_map, iv, bv, u, ms, ctx_T, ctx_C, ctx_P, T4, T3, T26, Option.bind_some, Option.bind_none, Option.map_some, List.length_map, List.length_set, String.reduceBEq, Int.toNat_natCast, Bool.true_beq, Bool.false_beq, T24, shF_dec, dF, fr_eta, ev1, ev2, implies_true, undef, stepP, drawB, stepL, lateB, lateB0, rdsT, rdsAny, isRd, afterL, preB, callLB, callLV, lateV, dstV, dynCall, ↓condE_t, ↓condE_f, ↓guardE_tt, ↓guardE_ff, ↓guardE_tf, ↓guardE_ft, frzDeep, deepArgs, deepArg, resB, cv, stepB, stepE, callD, tabD, snapD, snap1, snapC, snapId, snapIds, guardB, guardC, dstAt, aopR, one, pre, binR, intOpR, shiftOpR, unR, argFrm, evo, lkp, hlk, lenOf, asLst, idOf, bndA, srcOk, ofVal, ofCells, setCells, fillA, setElems, fieldsOf, fieldsEq, scalEq, isEq, AV.wr, AV.ok1, TK.agg, frz, frzs, frzA, frzArg, frzArgs, subA, subL, sub1, kp, kh, accOf, List.replicate, Nat.reduceAdd, Nat.reduceSub, Nat.reduceMul, Nat.reduceEqDiff, Nat.reduceLT, Nat.reduceLeDiff, Nat.reduceBEq, reduceIte, reduceCtorEq, eq_self, ne_eq, Int.reduceToNat, Int.reduceLT, Int.reduceLE, Int.reduceGT, Int.reduceGE, Int.reduceBEq, Int.reduceBNe, Int.reduceEq, Int.reduceNe]
        all_goals ((repeat' apply And.intro) <;> first | rfl | omega | (show entryOk _ _ _ _ _ = true; kernel_rfl) | (show pivotOk _ _ = true; kernel_rfl) | decide)
      | false =>
        by_cases q3 : w < 0
        · simp only [Try.f22, PC_all, hm, q1, q2, q3, hi, hd, lv, sv, fv, hfree_fr, hfree_cf, cv', cf_eta, frz_u, shC_dec, dC, T23, T28, T25, hfree_lu, hfree_l0, row0, row1, row2, row3, row4, row5, shI_dec, shN_dec, shB_dec, shM_dec, dI, dN, dB, dM, dU, dU_map, iv, bv, u, ms, ctx_T, ctx_C, ctx_P, T4, T3, T26, Option.bind_some, Option.bind_none, Option.map_some, List.length_map, List.length_set, String.reduceBEq, Int.toNat_natCast, Bool.true_beq, Bool.false_beq, T24, shF_dec, dF, fr_eta, ev1, ev2, implies_true, undef, stepP, drawB, stepL, lateB, lateB0, rdsT, rdsAny, isRd, afterL, preB, callLB, callLV, lateV, dstV, dynCall, ↓condE_t, ↓condE_f, ↓guardE_tt, ↓guardE_ff, ↓guardE_tf, ↓guardE_ft, frzDeep, deepArgs, deepArg, resB, cv, stepB, stepE, callD, tabD, snapD, snap1, snapC, snapId, snapIds, guardB, guardC, dstAt, aopR, one, pre, binR, intOpR, shiftOpR, unR, argFrm, evo, lkp, hlk, lenOf, asLst, idOf, bndA, srcOk, ofVal, ofCells, setCells, fillA, setElems, fieldsOf, fieldsEq, scalEq, isEq, AV.wr, AV.ok1, TK.agg, frz, frzs, frzA, frzArg, frzArgs, subA, subL, sub1, kp, kh, accOf, List.replicate, Nat.reduceAdd, Nat.reduceSub, Nat.reduceMul, Nat.reduceEqDiff, Nat.reduceLT, Nat.reduceLeDiff, Nat.reduceBEq, reduceIte, reduceCtorEq, eq_self, ne_eq, Int.reduceToNat, Int.reduceLT, Int.reduceLE, Int.reduceGT, Int.reduceGE, Int.reduceBEq, Int.reduceBNe, Int.reduceEq, Int.reduceNe]
          all_goals ((repeat' apply And.intro) <;> first | rfl | omega | (show entryOk _ _ _ _ _ = true; kernel_rfl) | (show pivotOk _ _ = true; kernel_rfl) | decide)
        · have q4 : w ≥ c.w := by
            by_cases e : w ≥ c.w
            · exact e
            · exact (hL ⟨q1, by simpa using q2, by omega, by omega⟩).elim
          simp only [Try.f22, PC_all, hm, q1, q2, q3, q4, hi, hd, lv, sv, fv, hfree_fr, hfree_cf, cv', cf_eta, frz_u, shC_dec, dC, T23, T28, T25, hfree_lu, hfree_l0, row0, row1, row2, row3, row4, row5, shI_dec, shN_dec, shB_dec, shM_dec, dI, dN, dB, dM, dU, dU_map, iv, bv, u, ms, ctx_T, ctx_C, ctx_P, T4, T3, T26, Option.bind_some, Option.bind_none, Option.map_some, List.length_map, List.length_set, String.reduceBEq, Int.toNat_natCast, Bool.true_beq, Bool.false_beq, T24, shF_dec, dF, fr_eta, ev1, ev2, implies_true, undef, stepP, drawB, stepL, lateB, lateB0, rdsT, rdsAny, isRd, afterL, preB, callLB, callLV, lateV, dstV, dynCall, ↓condE_t, ↓condE_f, ↓guardE_tt, ↓guardE_ff, ↓guardE_tf, ↓guardE_ft, frzDeep, deepArgs, deepArg, resB, cv, stepB, stepE, callD, tabD, snapD, snap1, snapC, snapId, snapIds, guardB, guardC, dstAt, aopR, one, pre, binR, intOpR, shiftOpR, unR, argFrm, evo, lkp, hlk, lenOf, asLst, idOf, bndA, srcOk, ofVal, ofCells, setCells, fillA, setElems, fieldsOf, fieldsEq, scalEq, isEq, AV.wr, AV.ok1, TK.agg, frz, frzs, frzA, frzArg, frzArgs, subA, subL, sub1, kp, kh, accOf, List.replicate, Nat.reduceAdd, Nat.reduceSub, Nat.reduceMul, Nat.reduceEqDiff, Nat.reduceLT, Nat.reduceLeDiff, Nat.reduceBEq, reduceIte, reduceCtorEq, eq_self, ne_eq, Int.reduceToNat, Int.reduceLT, Int.reduceLE, Int.reduceGT, Int.reduceGE, Int.reduceBEq, Int.reduceBNe, Int.reduceEq, Int.reduceNe]
          all_goals ((repeat' apply And.intro) <;> first | rfl | omega | (show entryOk _ _ _ _ _ = true; kernel_rfl) | (show pivotOk _ _ = true; kernel_rfl) | decide)
end Go.Vai
/- Pushing: the document's list; the layer's table; the chapter's example. -/
namespace Go.Vai
open Go.RowKit Go.Proofs
set_option linter.unusedSimpArgs false
set_option linter.unusedVariables false
set_option maxHeartbeats 4000000
set_option maxRecDepth 100000

theorem inUb_wrapU (x : Int) : inUb (wrapU x) = true := inUb_iff.2 (wrapU_u x)

def rowsPD : List Row := [
  (22, row3 shC shM shI fun c m w => some (lv c m w)), 
  (29, row3 shC shM shF fun c m f => if inUb f.x = true then some (sv (pStep c m f)) else none), 
  (34, row1 shC fun c => some (ms (zeros (lSize c).toNat))), 
  (24, row3 shM shI shF fun l room f => some (ov (fOnce l room f)))] ++ rowsPC
theorem rowsPD_ok : ∀ p ∈ rowsPD, RowOk Try.prog p := fun p h => by
  simp only [rowsPD, List.mem_append, List.mem_cons, List.not_mem_nil, or_false, false_or, or_assoc] at h
  rcases h with rfl | rfl | rfl | rfl | h
  · exact ok_row3 (enters_of Try.func22 (by decide) rfl) fun c m w r _ g _ e => by cases e; exact list_pure c m w (shM_got g)
  · exact ok_row3 (enters_of Try.func29 (by decide) rfl) fun c m f r _ g _ e => by obtain ⟨h, rfl⟩ := opt_if e; exact rstep_pure c m f (shM_got g) h
  · exact ok_row1 (enters_of Try.func34 (by decide) rfl) fun c r _ e => by cases e; exact new_pure c
  · exact ok_row3 (enters_of Try.func24 (by decide) rfl) fun l room f r g _ _ e => by cases e; exact once_pure l room f (shM_got g)
  · exact rowsPC_ok p h
theorem okPD : (ctx Try.prog rowsPD).ok := rows_ok rowsPD_ok
theorem PD_22 : tabC rowsPD 22 = row3 shC shM shI fun c m w => some (lv c m w) := rfl
theorem PD_29 : tabC rowsPD 29 = row3 shC shM shF fun c m f => if inUb f.x = true then some (sv (pStep c m f)) else none := rfl
theorem PD_34 : tabC rowsPD 34 = row1 shC fun c => some (ms (zeros (lSize c).toNat)) := rfl
theorem PD_24 : tabC rowsPD 24 = row3 shM shI shF fun l room f => some (ov (fOnce l room f)) := rfl
theorem PD_25 : tabC rowsPD 25 = row3 shC shM shF fun c m f => some (sv (pStep c m f)) := rfl
theorem PD_70 : tabC rowsPD 70 = row2 shC shI fun c w => some (iv (lBottom c w)) := rfl
theorem PD_74 : tabC rowsPD 74 = row3 shC shI shN fun c w x => if inUb x = true then some (iv (lSlot c w x)) else none := rfl
theorem PD_59 : tabC rowsPD 59 = row5 shC shM shF shI shI fun c m f op pcs => some (bv (goes c m f op pcs)) := rfl
theorem PD_68 : tabC rowsPD 68 = row5 shC shM shF shI shI fun c m f op pcs => some (bv (goes c m f op pcs)) := rfl
theorem PD_55 : tabC rowsPD 55 = fun _ => none := rfl
theorem PD_56 : tabC rowsPD 56 = fun _ => none := rfl
theorem PD_57 : tabC rowsPD 57 = fun _ => none := rfl
theorem PD_58 : tabC rowsPD 58 = fun _ => none := rfl
theorem PD_28 : tabC rowsPD 28 = row1 shM fun m => some (ms m) := rfl
theorem PD_76 : tabC rowsPD 76 = row4 shM shI shN shN fun m i v w => some (.tup [ms (mCas m i v w), bv (mCasB m i v)]) := rfl
theorem PD_46 : tabC rowsPD 46 = row2 shM shI fun m i => some (u (mLoad m i)) := rfl
theorem PD_61 : tabC rowsPD 61 = row3 shM shI shN fun m i v => some (ms (mStore m i v)) := rfl
theorem PD_63 : tabC rowsPD 63 = row4 shM shI shN shN fun m i v w => some (.tup [ms (mCas m i v w), bv (mCasB m i v)]) := rfl
theorem PD_69 : tabC rowsPD 69 = row2 shM shI fun m i => some (u (mLoad m i)) := rfl
theorem PD_17 : tabC rowsPD 17 = row2 shM shM fun a b => some (bv (decide (a = b))) := rfl
theorem PD_73 : tabC rowsPD 73 = row3 shM shI shN fun m i v => some (ms (mStore m i v)) := rfl
theorem PD_43 : tabC rowsPD 43 = row1 shC fun c => some (iv (lSize c)) := rfl
theorem PD_45 : tabC rowsPD 45 = row1 shC fun c => some (iv (lSize c)) := rfl
theorem PD_47 : tabC rowsPD 47 = row2 shC shI fun c w => some (iv (lTop c w)) := rfl
theorem PD_48 : tabC rowsPD 48 = row2 shC shI fun c w => some (iv (lBottom c w)) := rfl
theorem PD_50 : tabC rowsPD 50 = row3 shC shI shN fun c w x => some (iv (lSlot c w x)) := rfl
theorem PD_71 : tabC rowsPD 71 = row2 shC shI fun c w => some (iv (lTop c w)) := rfl
theorem PD_33 : tabC rowsPD 33 = row1 shC fun c => some (bv (mayC c)) := rfl
theorem PD_49 : tabC rowsPD 49 = row2 shN shN fun a b => some (iv (far a b)) := rfl
theorem PD_39 : tabC rowsPD 39 = row1 shC fun c => some (bv (mayC c)) := rfl
theorem PD_75 : tabC rowsPD 75 = row2 shN shN fun a b => some (iv (far a b)) := rfl
theorem PD_80 : tabC rowsPD 80 = row2 shC shI fun c w => if mayC c = true ∧ 0 ≤ w ∧ w ≤ 8 then some (iv (lBase c w)) else none := rfl
theorem PD_82 : tabC rowsPD 82 = fun _ => none := rfl
theorem PD_83 : tabC rowsPD 83 = fun _ => none := rfl
theorem PD_84 : tabC rowsPD 84 = fun _ => none := rfl
theorem PD_85 : tabC rowsPD 85 = fun _ => none := rfl
theorem PD_77 : tabC rowsPD 77 = fun _ => none := rfl
theorem PD_42 : tabC rowsPD 42 = row1 shF fun f => some (bv (f.res != 0)) := rfl
theorem PD_72 : tabC rowsPD 72 = row3 shF shI shN fun f r v => some (fv (fEnd f r v)) := rfl
theorem PD_23 : tabC rowsPD 23 = row3 shI shI shN fun o w v => some (fv (fBegin o w v)) := rfl
theorem PD_20 : tabC rowsPD 20 = row1 shF fun f => some (bv (f.res != 0)) := rfl
theorem PD_62 : tabC rowsPD 62 = row3 shF shI shN fun f r v => some (fv (fEnd f r v)) := rfl
theorem PD_52 : tabC rowsPD 52 = fun _ => none := rfl
theorem PD_53 : tabC rowsPD 53 = fun _ => none := rfl
theorem PD_54 : tabC rowsPD 54 = fun _ => none := rfl
theorem PD_51 : tabC rowsPD 51 = fun _ => none := rfl
theorem PD_all : type_of% (And.intro PD_22 <| And.intro PD_29 <| And.intro PD_34 <| And.intro PD_24 <| And.intro PD_25 <| And.intro PD_70 <| And.intro PD_74 <| And.intro PD_59 <| And.intro PD_68 <| And.intro PD_55 <| And.intro PD_56 <| And.intro PD_57 <| And.intro PD_58 <| And.intro PD_28 <| And.intro PD_76 <| And.intro PD_46 <| And.intro PD_61 <| And.intro PD_63 <| And.intro PD_69 <| And.intro PD_17 <| And.intro PD_73 <| And.intro PD_43 <| And.intro PD_45 <| And.intro PD_47 <| And.intro PD_48 <| And.intro PD_50 <| And.intro PD_71 <| And.intro PD_33 <| And.intro PD_49 <| And.intro PD_39 <| And.intro PD_75 <| And.intro PD_80 <| And.intro PD_82 <| And.intro PD_83 <| And.intro PD_84 <| And.intro PD_85 <| And.intro PD_77 <| And.intro PD_42 <| And.intro PD_72 <| And.intro PD_23 <| And.intro PD_20 <| And.intro PD_62 <| And.intro PD_52 <| And.intro PD_53 <| And.intro PD_54 <| PD_51) := And.intro PD_22 <| And.intro PD_29 <| And.intro PD_34 <| And.intro PD_24 <| And.intro PD_25 <| And.intro PD_70 <| And.intro PD_74 <| And.intro PD_59 <| And.intro PD_68 <| And.intro PD_55 <| And.intro PD_56 <| And.intro PD_57 <| And.intro PD_58 <| And.intro PD_28 <| And.intro PD_76 <| And.intro PD_46 <| And.intro PD_61 <| And.intro PD_63 <| And.intro PD_69 <| And.intro PD_17 <| And.intro PD_73 <| And.intro PD_43 <| And.intro PD_45 <| And.intro PD_47 <| And.intro PD_48 <| And.intro PD_50 <| And.intro PD_71 <| And.intro PD_33 <| And.intro PD_49 <| And.intro PD_39 <| And.intro PD_75 <| And.intro PD_80 <| And.intro PD_82 <| And.intro PD_83 <| And.intro PD_84 <| And.intro PD_85 <| And.intro PD_77 <| And.intro PD_42 <| And.intro PD_72 <| And.intro PD_23 <| And.intro PD_20 <| And.intro PD_62 <| And.intro PD_52 <| And.intro PD_53 <| And.intro PD_54 <| PD_51
end Go.Vai
