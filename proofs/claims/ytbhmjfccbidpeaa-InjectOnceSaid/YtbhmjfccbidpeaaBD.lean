/- The evaluator, the plain texts and the contracts that this claim leans on, part BD: nothing of the statement is claimed here. -/
import Derived.Test.YtbhmjfccbidpeaaBC
/- The cells' layer: what its functions compute. -/
namespace Go.Vai
open Go.RowKit Go.Proofs

set_option linter.unusedSimpArgs false
set_option linter.unusedVariables false
set_option maxHeartbeats 4000000
set_option maxRecDepth 100000

theorem is_pure (m : List Int) (i : Int) : PureC Try.prog 89 [ms m, iv i] (bv (isIn m i)) := by
  refine pure_sub ok0 0 Try.func89 rfl (by show 2 ≤ 13; omega) ?_
  simp only [Try.f89, ms, iv, bv, ctx_T, ctx_C, ctx_P, T4, T3, T25, List.length_map, ev1, ev2, implies_true, undef, stepP, dynCall, ↓condE_t, ↓condE_f, ↓guardE_tt, ↓guardE_ff, ↓guardE_tf, ↓guardE_ft, frzDeep, deepArgs, deepArg, resB, cv, stepB, stepE, callD, tabD, snapD, snap1, snapC, snapId, snapIds, guardB, guardC, dstAt, aopR, one, pre, binR, intOpR, shiftOpR, unR, argFrm, evo, lkp, hlk, lenOf, asLst, idOf, bndA, srcOk, ofVal, ofCells, setCells, fillA, setElems, fieldsOf, fieldsEq, scalEq, isEq, AV.wr, AV.ok1, TK.agg, frz, frzs, frzA, frzArg, frzArgs, subA, subL, sub1, kp, kh, accOf, List.replicate, Nat.reduceAdd, Nat.reduceSub, Nat.reduceMul, Nat.reduceEqDiff, Nat.reduceLT, Nat.reduceLeDiff, Nat.reduceBEq, reduceIte, reduceCtorEq, eq_self, ne_eq, Int.reduceToNat, Int.reduceLT, Int.reduceLE, Int.reduceGT, Int.reduceGE, Int.reduceBEq, Int.reduceBNe, Int.reduceEq, Int.reduceNe]
  refine ⟨fun h => ?_, fun h => ?_⟩ <;> simp at h <;> simp [isIn] <;> omega

def rows1 : List Row := [(89, rMI fun m i => bv (isIn m i))]
theorem ok1 : (ctx Try.prog rows1).ok := rows_ok fun p h => by
  simp only [rows1, List.mem_cons, List.not_mem_nil, or_false] at h
  rcases h with rfl
  exact ok_MI (enters_of Try.func89 (by decide) rfl) fun m i _ => is_pure m i

theorem load_pure (m : List Int) (i : Int) (hm : m.length ≤ 1000) : PureC Try.prog 45 [ms m, iv i] (u (mLoad m i)) := by
  refine pure_sub ok1 1 Try.func45 rfl (by show 2 ≤ 13; omega) ?_
  cases hin : isIn m i with
  | false =>
    simp only [Try.f45, ms, iv, bv, u, ctx_T, ctx_C, ctx_P, T4, T3, T26, T25, tabC, rows1, List.lookup_cons, Option.bind_some, rMI_eq, hm, hin, mLoad, List.length_map, ev1, ev2, implies_true, undef, stepP, dynCall, ↓condE_t, ↓condE_f, ↓guardE_tt, ↓guardE_ff, ↓guardE_tf, ↓guardE_ft, frzDeep, deepArgs, deepArg, resB, cv, stepB, stepE, callD, tabD, snapD, snap1, snapC, snapId, snapIds, guardB, guardC, dstAt, aopR, one, pre, binR, intOpR, shiftOpR, unR, argFrm, evo, lkp, hlk, lenOf, asLst, idOf, bndA, srcOk, ofVal, ofCells, setCells, fillA, setElems, fieldsOf, fieldsEq, scalEq, isEq, AV.wr, AV.ok1, TK.agg, frz, frzs, frzA, frzArg, frzArgs, subA, subL, sub1, kp, kh, accOf, List.replicate, Nat.reduceAdd, Nat.reduceSub, Nat.reduceMul, Nat.reduceEqDiff, Nat.reduceLT, Nat.reduceLeDiff, Nat.reduceBEq, reduceIte, reduceCtorEq, eq_self, ne_eq, Int.reduceToNat, Int.reduceLT, Int.reduceLE, Int.reduceGT, Int.reduceGE, Int.reduceBEq, Int.reduceBNe, Int.reduceEq, Int.reduceNe]
  | true =>
    obtain ⟨h1, h2, h3⟩ := isIn_true hin
    simp only [Try.f45, ms, iv, bv, u, ctx_T, ctx_C, ctx_P, T4, T3, T26, T25, tabC, rows1, List.lookup_cons, Option.bind_some, rMI_eq, hm, hin, h1, h2, h3, getD_u, mLoad, List.length_map, ev1, ev2, implies_true, undef, stepP, dynCall, ↓condE_t, ↓condE_f, ↓guardE_tt, ↓guardE_ff, ↓guardE_tf, ↓guardE_ft, frzDeep, deepArgs, deepArg, resB, cv, stepB, stepE, callD, tabD, snapD, snap1, snapC, snapId, snapIds, guardB, guardC, dstAt, aopR, one, pre, binR, intOpR, shiftOpR, unR, argFrm, evo, lkp, hlk, lenOf, asLst, idOf, bndA, srcOk, ofVal, ofCells, setCells, fillA, setElems, fieldsOf, fieldsEq, scalEq, isEq, AV.wr, AV.ok1, TK.agg, frz, frzs, frzA, frzArg, frzArgs, subA, subL, sub1, kp, kh, accOf, List.replicate, Nat.reduceAdd, Nat.reduceSub, Nat.reduceMul, Nat.reduceEqDiff, Nat.reduceLT, Nat.reduceLeDiff, Nat.reduceBEq, reduceIte, reduceCtorEq, eq_self, ne_eq, Int.reduceToNat, Int.reduceLT, Int.reduceLE, Int.reduceGT, Int.reduceGE, Int.reduceBEq, Int.reduceBNe, Int.reduceEq, Int.reduceNe]

theorem store_pure (m : List Int) (i v : Int) (hm : m.length ≤ 1000) : PureC Try.prog 51 [ms m, iv i, u v] (ms (mStore m i v)) := by
  refine pure_sub ok1 4 Try.func51 rfl (by show 3 ≤ _; decide) ?_
  have hb : m.length * 8 ≤ 140737488355328 := by omega
  cases hin : isIn m i with
  | false =>
    simp only [Try.f51, Try.func90, Try.f90, Try.func44, Try.f44, Try.func93, Try.f93, inl, ms, iv, bv, u, ctx_T, ctx_C, ctx_P, T4, T3, T26, T25, tabC, rows1, List.lookup_cons, List.lookup_nil, Option.bind_some, Option.bind_none, rMI_eq, hm, hb, hin,  List.length_map, List.length_set, take_u, set_u, hf_u, mStore, String.reduceBEq, ev1, ev2, implies_true, undef, stepP, dynCall, ↓condE_t, ↓condE_f, ↓guardE_tt, ↓guardE_ff, ↓guardE_tf, ↓guardE_ft, frzDeep, deepArgs, deepArg, resB, cv, stepB, stepE, callD, tabD, snapD, snap1, snapC, snapId, snapIds, guardB, guardC, dstAt, aopR, one, pre, binR, intOpR, shiftOpR, unR, argFrm, evo, lkp, hlk, lenOf, asLst, idOf, bndA, srcOk, ofVal, ofCells, setCells, fillA, setElems, fieldsOf, fieldsEq, scalEq, isEq, AV.wr, AV.ok1, TK.agg, frz, frzs, frzA, frzArg, frzArgs, subA, subL, sub1, kp, kh, accOf, List.replicate, Nat.reduceAdd, Nat.reduceSub, Nat.reduceMul, Nat.reduceEqDiff, Nat.reduceLT, Nat.reduceLeDiff, Nat.reduceBEq, reduceIte, reduceCtorEq, eq_self, ne_eq, Int.reduceToNat, Int.reduceLT, Int.reduceLE, Int.reduceGT, Int.reduceGE, Int.reduceBEq, Int.reduceBNe, Int.reduceEq, Int.reduceNe]
    simp
  | true =>
    obtain ⟨h1, h2, h3⟩ := isIn_true hin
    have hn := ne_u h3
    simp only [Try.f51, Try.func90, Try.f90, Try.func44, Try.f44, Try.func93, Try.f93, inl, ms, iv, bv, u, ctx_T, ctx_C, ctx_P, T4, T3, T26, T25, tabC, rows1, List.lookup_cons, List.lookup_nil, Option.bind_some, Option.bind_none, rMI_eq, hm, hb, hin, h1, h2, h3, hn, getD_u, take_us, List.length_map, List.length_set, take_u, set_u, hf_u, mStore, String.reduceBEq, ev1, ev2, implies_true, undef, stepP, dynCall, ↓condE_t, ↓condE_f, ↓guardE_tt, ↓guardE_ff, ↓guardE_tf, ↓guardE_ft, frzDeep, deepArgs, deepArg, resB, cv, stepB, stepE, callD, tabD, snapD, snap1, snapC, snapId, snapIds, guardB, guardC, dstAt, aopR, one, pre, binR, intOpR, shiftOpR, unR, argFrm, evo, lkp, hlk, lenOf, asLst, idOf, bndA, srcOk, ofVal, ofCells, setCells, fillA, setElems, fieldsOf, fieldsEq, scalEq, isEq, AV.wr, AV.ok1, TK.agg, frz, frzs, frzA, frzArg, frzArgs, subA, subL, sub1, kp, kh, accOf, List.replicate, Nat.reduceAdd, Nat.reduceSub, Nat.reduceMul, Nat.reduceEqDiff, Nat.reduceLT, Nat.reduceLeDiff, Nat.reduceBEq, reduceIte, reduceCtorEq, eq_self, ne_eq, Int.reduceToNat, Int.reduceLT, Int.reduceLE, Int.reduceGT, Int.reduceGE, Int.reduceBEq, Int.reduceBNe, Int.reduceEq, Int.reduceNe]
    exact Nat.le_refl _


theorem cas_pure (m : List Int) (i v w : Int) (hm : m.length ≤ 1000) : PureC Try.prog 49 [ms m, iv i, u v, u w] (.tup [ms (mCas m i v w), bv (mCasB m i v)]) := by
  refine pure_sub ok1 4 Try.func49 rfl (by show 4 ≤ _; decide) ?_
  have hb : m.length * 8 ≤ 140737488355328 := by omega
  cases hin : isIn m i with
  | false =>
    simp only [Try.f49, Try.func90, Try.f90, Try.func44, Try.f44, Try.func91, Try.f91, inl, ms, iv, bv, u, ctx_T, ctx_C, ctx_P, T4, T3, T26, T25, tabC, rows1, List.lookup_cons, List.lookup_nil, Option.bind_some, Option.bind_none, rMI_eq, hm, hb, hin, mCas, mCasB, mLoad,  List.length_map, List.length_set, take_u, set_u, hf_u, mStore, String.reduceBEq, ev1, ev2, implies_true, undef, stepP, dynCall, ↓condE_t, ↓condE_f, ↓guardE_tt, ↓guardE_ff, ↓guardE_tf, ↓guardE_ft, frzDeep, deepArgs, deepArg, resB, cv, stepB, stepE, callD, tabD, snapD, snap1, snapC, snapId, snapIds, guardB, guardC, dstAt, aopR, one, pre, binR, intOpR, shiftOpR, unR, argFrm, evo, lkp, hlk, lenOf, asLst, idOf, bndA, srcOk, ofVal, ofCells, setCells, fillA, setElems, fieldsOf, fieldsEq, scalEq, isEq, AV.wr, AV.ok1, TK.agg, frz, frzs, frzA, frzArg, frzArgs, subA, subL, sub1, kp, kh, accOf, List.replicate, Nat.reduceAdd, Nat.reduceSub, Nat.reduceMul, Nat.reduceEqDiff, Nat.reduceLT, Nat.reduceLeDiff, Nat.reduceBEq, reduceIte, reduceCtorEq, eq_self, ne_eq, Int.reduceToNat, Int.reduceLT, Int.reduceLE, Int.reduceGT, Int.reduceGE, Int.reduceBEq, Int.reduceBNe, Int.reduceEq, Int.reduceNe]
    simp
  | true =>
    obtain ⟨h1, h2, h3⟩ := isIn_true hin
    have hn := ne_u h3
    simp only [Try.f49, Try.func90, Try.f90, Try.func44, Try.f44, Try.func91, Try.f91, inl, ms, iv, bv, u, ctx_T, ctx_C, ctx_P, T4, T3, T26, T25, tabC, rows1, List.lookup_cons, List.lookup_nil, Option.bind_some, Option.bind_none, rMI_eq, hm, hb, hin, mCas, mCasB, mLoad, h1, h2, h3, hn, getD_u, take_us, List.length_map, List.length_set, take_u, set_u, hf_u, mStore, String.reduceBEq, ev1, ev2, implies_true, undef, stepP, dynCall, ↓condE_t, ↓condE_f, ↓guardE_tt, ↓guardE_ff, ↓guardE_tf, ↓guardE_ft, frzDeep, deepArgs, deepArg, resB, cv, stepB, stepE, callD, tabD, snapD, snap1, snapC, snapId, snapIds, guardB, guardC, dstAt, aopR, one, pre, binR, intOpR, shiftOpR, unR, argFrm, evo, lkp, hlk, lenOf, asLst, idOf, bndA, srcOk, ofVal, ofCells, setCells, fillA, setElems, fieldsOf, fieldsEq, scalEq, isEq, AV.wr, AV.ok1, TK.agg, frz, frzs, frzA, frzArg, frzArgs, subA, subL, sub1, kp, kh, accOf, List.replicate, Nat.reduceAdd, Nat.reduceSub, Nat.reduceMul, Nat.reduceEqDiff, Nat.reduceLT, Nat.reduceLeDiff, Nat.reduceBEq, reduceIte, reduceCtorEq, eq_self, ne_eq, Int.reduceToNat, Int.reduceLT, Int.reduceLE, Int.reduceGT, Int.reduceGE, Int.reduceBEq, Int.reduceBNe, Int.reduceEq, Int.reduceNe]
    refine ⟨fun h => ?_, fun h => ?_⟩
    · have h' : ¬ m.getD i.toNat 0 = v := by simpa using h
      have e : (m.getD i.toNat 0 == v) = false := by simpa using h
      rw [e, set_self h3]
      exact ⟨Nat.le_refl _, by simp, rfl⟩
    · have h' : m.getD i.toNat 0 = v := by simpa using h
      simp only [h', beq_self_eq_true, if_true, Nat.le_refl, true_and, and_true]

end Go.Vai
/- Two lists of cells are the same, or not; the document's answers. -/
namespace Go.Vai
open Go.RowKit Go.Proofs
set_option linter.unusedSimpArgs false
set_option linter.unusedVariables false
set_option maxHeartbeats 4000000
set_option maxRecDepth 100000

theorem refSame_pure (a b : List Int) (ha : a.length ≤ 1000) (hb : b.length ≤ 1000) : PureC Try.prog 21 [ms a, ms b] (bv (decide (a = b))) := by
  refine pure_sub ok1 1 Try.func21 rfl (by show 2 ≤ _; decide) ?_
  by_cases hl : a.length = b.length
  · simp only [Try.f21, ms, bv, ctx_T, ctx_C, ctx_P, T4, T3, T26, T25, List.length_map, hl, bne_self_eq_false, ev1, ev2, implies_true, undef, stepP, dynCall, ↓condE_t, ↓condE_f, ↓guardE_tt, ↓guardE_ff, ↓guardE_tf, ↓guardE_ft, frzDeep, deepArgs, deepArg, resB, cv, stepB, stepE, callD, tabD, snapD, snap1, snapC, snapId, snapIds, guardB, guardC, dstAt, aopR, one, pre, binR, intOpR, shiftOpR, unR, argFrm, evo, lkp, hlk, lenOf, asLst, idOf, bndA, srcOk, ofVal, ofCells, setCells, fillA, setElems, fieldsOf, fieldsEq, scalEq, isEq, AV.wr, AV.ok1, TK.agg, frz, frzs, frzA, frzArg, frzArgs, subA, subL, sub1, kp, kh, accOf, List.replicate, Nat.reduceAdd, Nat.reduceSub, Nat.reduceMul, Nat.reduceEqDiff, Nat.reduceLT, Nat.reduceLeDiff, Nat.reduceBEq, reduceIte, reduceCtorEq, eq_self, ne_eq, Int.reduceToNat, Int.reduceLT, Int.reduceLE, Int.reduceGT, Int.reduceGE, Int.reduceBEq, Int.reduceBNe, Int.reduceEq, Int.reduceNe]
    refine WP.loop (fun i : Nat => a.length - i) (fun i => i ≤ a.length ∧ a.take i = b.take i) (n := 26) (fr := fun i => [(5, iv i), (0, ms a), (1, ms b)]) (hp := fun _ => []) (N := 0) ?_ 0 ⟨Nat.zero_le _, rfl⟩ rfl (Nat.zero_le _) ⟨rfl, rfl, rfl, trivial⟩ trivial
    rintro i nx ⟨h1, h2⟩ _ _
    refine WP.of ok1 1 (by rfl) ?_
    by_cases hi : i < a.length
    · have hi' : i < b.length := by omega
      have hz : (i : Int) < (b.length : Int) := by omega
      have hz' : (i : Int) < (a.length : Int) := by omega
      have h0 : (0 : Int) ≤ (i : Int) := by omega
      simp only [ms, iv, bv, u, ctx_T, ctx_C, ctx_P, T4, T3, T26, T25, List.length_map, getD_u, hi, hi', hz, hz', h0, hl, Int.toNat_natCast, ev1, ev2, implies_true, undef, stepP, dynCall, ↓condE_t, ↓condE_f, ↓guardE_tt, ↓guardE_ff, ↓guardE_tf, ↓guardE_ft, frzDeep, deepArgs, deepArg, resB, cv, stepB, stepE, callD, tabD, snapD, snap1, snapC, snapId, snapIds, guardB, guardC, dstAt, aopR, one, pre, binR, intOpR, shiftOpR, unR, argFrm, evo, lkp, hlk, lenOf, asLst, idOf, bndA, srcOk, ofVal, ofCells, setCells, fillA, setElems, fieldsOf, fieldsEq, scalEq, isEq, AV.wr, AV.ok1, TK.agg, frz, frzs, frzA, frzArg, frzArgs, subA, subL, sub1, kp, kh, accOf, List.replicate, Nat.reduceAdd, Nat.reduceSub, Nat.reduceMul, Nat.reduceEqDiff, Nat.reduceLT, Nat.reduceLeDiff, Nat.reduceBEq, reduceIte, reduceCtorEq, eq_self, ne_eq, Int.reduceToNat, Int.reduceLT, Int.reduceLE, Int.reduceGT, Int.reduceGE, Int.reduceBEq, Int.reduceBNe, Int.reduceEq, Int.reduceNe]
      refine ⟨fun h => by simp [getD_ne h], fun h => ⟨i + 1, by omega, ⟨by omega, take_next hi hi' h2 h⟩, ?_⟩⟩
      rw [wrap_s (by omega)]
    · have hz : ¬ (i : Int) < (b.length : Int) := by omega
      simp only [ms, iv, bv, u, ctx_T, ctx_C, ctx_P, T4, T3, T26, T25, List.length_map, getD_u, hl, hz, Int.toNat_natCast, ev1, ev2, implies_true, undef, stepP, dynCall, ↓condE_t, ↓condE_f, ↓guardE_tt, ↓guardE_ff, ↓guardE_tf, ↓guardE_ft, frzDeep, deepArgs, deepArg, resB, cv, stepB, stepE, callD, tabD, snapD, snap1, snapC, snapId, snapIds, guardB, guardC, dstAt, aopR, one, pre, binR, intOpR, shiftOpR, unR, argFrm, evo, lkp, hlk, lenOf, asLst, idOf, bndA, srcOk, ofVal, ofCells, setCells, fillA, setElems, fieldsOf, fieldsEq, scalEq, isEq, AV.wr, AV.ok1, TK.agg, frz, frzs, frzA, frzArg, frzArgs, subA, subL, sub1, kp, kh, accOf, List.replicate, Nat.reduceAdd, Nat.reduceSub, Nat.reduceMul, Nat.reduceEqDiff, Nat.reduceLT, Nat.reduceLeDiff, Nat.reduceBEq, reduceIte, reduceCtorEq, eq_self, ne_eq, Int.reduceToNat, Int.reduceLT, Int.reduceLE, Int.reduceGT, Int.reduceGE, Int.reduceBEq, Int.reduceBNe, Int.reduceEq, Int.reduceNe]
      have e : i = a.length := by omega
      subst e
      rw [List.take_length, hl, List.take_length] at h2
      simp [h2]
  · have hne : ¬ a = b := fun e => hl (by rw [e])
    have hz : ((a.length : Int) != (b.length : Int)) = true := by
      have : ¬ (a.length : Int) = (b.length : Int) := by omega
      simpa using this
    simp only [Try.f21, ms, bv, ctx_T, ctx_C, ctx_P, T4, T3, T26, T25, List.length_map, hz, hne, ev1, ev2, implies_true, undef, stepP, dynCall, ↓condE_t, ↓condE_f, ↓guardE_tt, ↓guardE_ff, ↓guardE_tf, ↓guardE_ft, frzDeep, deepArgs, deepArg, resB, cv, stepB, stepE, callD, tabD, snapD, snap1, snapC, snapId, snapIds, guardB, guardC, dstAt, aopR, one, pre, binR, intOpR, shiftOpR, unR, argFrm, evo, lkp, hlk, lenOf, asLst, idOf, bndA, srcOk, ofVal, ofCells, setCells, fillA, setElems, fieldsOf, fieldsEq, scalEq, isEq, AV.wr, AV.ok1, TK.agg, frz, frzs, frzA, frzArg, frzArgs, subA, subL, sub1, kp, kh, accOf, List.replicate, Nat.reduceAdd, Nat.reduceSub, Nat.reduceMul, Nat.reduceEqDiff, Nat.reduceLT, Nat.reduceLeDiff, Nat.reduceBEq, reduceIte, reduceCtorEq, eq_self, ne_eq, Int.reduceToNat, Int.reduceLT, Int.reduceLE, Int.reduceGT, Int.reduceGE, Int.reduceBEq, Int.reduceBNe, Int.reduceEq, Int.reduceNe]


/-! The document's answers. -/
theorem isIn_false {m : List Int} {i : Int} (h : isIn m i = false) (h0 : 0 ≤ i) : ¬ i < m.length := by
  simp [isIn] at h; omega

theorem refLoad_pure (m : List Int) (i : Int) (hm : m.length ≤ 1000) : PureC Try.prog 53 [ms m, iv i] (u (mLoad m i)) := by
  refine pure_sub ok0 1 Try.func53 rfl (by show 2 ≤ _; decide) ?_
  cases hin : isIn m i with
  | false =>
    by_cases h0 : i < 0
    · simp only [Try.f53, ms, iv, bv, u, ctx_T, ctx_C, ctx_P, T4, T3, T26, T25, tabC, hm, List.lookup_cons, List.lookup_nil, Option.bind_some, Option.bind_none, rMI_eq, rMIU_eq, hm, hin, h0, mLoad, List.length_map, List.length_set, String.reduceBEq, Int.toNat_natCast, ev1, ev2, implies_true, undef, stepP, dynCall, ↓condE_t, ↓condE_f, ↓guardE_tt, ↓guardE_ff, ↓guardE_tf, ↓guardE_ft, frzDeep, deepArgs, deepArg, resB, cv, stepB, stepE, callD, tabD, snapD, snap1, snapC, snapId, snapIds, guardB, guardC, dstAt, aopR, one, pre, binR, intOpR, shiftOpR, unR, argFrm, evo, lkp, hlk, lenOf, asLst, idOf, bndA, srcOk, ofVal, ofCells, setCells, fillA, setElems, fieldsOf, fieldsEq, scalEq, isEq, AV.wr, AV.ok1, TK.agg, frz, frzs, frzA, frzArg, frzArgs, subA, subL, sub1, kp, kh, accOf, List.replicate, Nat.reduceAdd, Nat.reduceSub, Nat.reduceMul, Nat.reduceEqDiff, Nat.reduceLT, Nat.reduceLeDiff, Nat.reduceBEq, reduceIte, reduceCtorEq, eq_self, ne_eq, Int.reduceToNat, Int.reduceLT, Int.reduceLE, Int.reduceGT, Int.reduceGE, Int.reduceBEq, Int.reduceBNe, Int.reduceEq, Int.reduceNe]
    · have h1 := isIn_false hin (by omega)
      have h2 : i ≥ (m.length : Int) := by omega
      simp only [Try.f53, ms, iv, bv, u, ctx_T, ctx_C, ctx_P, T4, T3, T26, T25, tabC, hm, List.lookup_cons, List.lookup_nil, Option.bind_some, Option.bind_none, rMI_eq, rMIU_eq, hm, hin, h0, h2, mLoad, List.length_map, List.length_set, String.reduceBEq, Int.toNat_natCast, ev1, ev2, implies_true, undef, stepP, dynCall, ↓condE_t, ↓condE_f, ↓guardE_tt, ↓guardE_ff, ↓guardE_tf, ↓guardE_ft, frzDeep, deepArgs, deepArg, resB, cv, stepB, stepE, callD, tabD, snapD, snap1, snapC, snapId, snapIds, guardB, guardC, dstAt, aopR, one, pre, binR, intOpR, shiftOpR, unR, argFrm, evo, lkp, hlk, lenOf, asLst, idOf, bndA, srcOk, ofVal, ofCells, setCells, fillA, setElems, fieldsOf, fieldsEq, scalEq, isEq, AV.wr, AV.ok1, TK.agg, frz, frzs, frzA, frzArg, frzArgs, subA, subL, sub1, kp, kh, accOf, List.replicate, Nat.reduceAdd, Nat.reduceSub, Nat.reduceMul, Nat.reduceEqDiff, Nat.reduceLT, Nat.reduceLeDiff, Nat.reduceBEq, reduceIte, reduceCtorEq, eq_self, ne_eq, Int.reduceToNat, Int.reduceLT, Int.reduceLE, Int.reduceGT, Int.reduceGE, Int.reduceBEq, Int.reduceBNe, Int.reduceEq, Int.reduceNe]
  | true =>
    obtain ⟨h1, h2, h3⟩ := isIn_true hin
    have h4 : ¬ i < 0 := by omega
    have h5 : ¬ i ≥ (m.length : Int) := by omega
    simp only [Try.f53, ms, iv, bv, u, ctx_T, ctx_C, ctx_P, T4, T3, T26, T25, tabC, hm, List.lookup_cons, List.lookup_nil, Option.bind_some, Option.bind_none, rMI_eq, rMIU_eq, hm, hin, h1, h2, h3, h4, h5, mLoad, getD_u, List.length_map, List.length_set, String.reduceBEq, Int.toNat_natCast, ev1, ev2, implies_true, undef, stepP, dynCall, ↓condE_t, ↓condE_f, ↓guardE_tt, ↓guardE_ff, ↓guardE_tf, ↓guardE_ft, frzDeep, deepArgs, deepArg, resB, cv, stepB, stepE, callD, tabD, snapD, snap1, snapC, snapId, snapIds, guardB, guardC, dstAt, aopR, one, pre, binR, intOpR, shiftOpR, unR, argFrm, evo, lkp, hlk, lenOf, asLst, idOf, bndA, srcOk, ofVal, ofCells, setCells, fillA, setElems, fieldsOf, fieldsEq, scalEq, isEq, AV.wr, AV.ok1, TK.agg, frz, frzs, frzA, frzArg, frzArgs, subA, subL, sub1, kp, kh, accOf, List.replicate, Nat.reduceAdd, Nat.reduceSub, Nat.reduceMul, Nat.reduceEqDiff, Nat.reduceLT, Nat.reduceLeDiff, Nat.reduceBEq, reduceIte, reduceCtorEq, eq_self, ne_eq, Int.reduceToNat, Int.reduceLT, Int.reduceLE, Int.reduceGT, Int.reduceGE, Int.reduceBEq, Int.reduceBNe, Int.reduceEq, Int.reduceNe]

end Go.Vai
/- Cells: the document's answers, and the contracts as a table. -/
namespace Go.Vai
open Go.RowKit Go.Proofs
set_option linter.unusedSimpArgs false
set_option linter.unusedVariables false
set_option maxHeartbeats 4000000
set_option maxRecDepth 100000

theorem store_in {m : List Int} {i : Int} (h : isIn m i = true) (v : Int) : mStore m i v = m.set i.toNat v := by simp [mStore, h]

theorem refStore_pure (m : List Int) (i v : Int) (hm : m.length ≤ 1000) : PureC Try.prog 59 [ms m, iv i, u v] (ms (mStore m i v)) := by
  refine pure_sub ok0 1 Try.func59 rfl (by show 3 ≤ _; decide) ?_
  have hb : m.length * 8 ≤ 140737488355328 := by omega
  have hle : m.length ≤ m.length := Nat.le_refl _
  cases hin : isIn m i with
  | false =>
    have s := store_out hin v
    by_cases h0 : i ≥ 0
    · have h1 : ¬ i < (m.length : Int) := isIn_false hin h0
      simp only [Try.f59, s, hb, hle, h0, h1, take_u, set_u, hf_u, take_us, hfree_lu, hfree_l0, row0, row1, row2, row3, row4, row5, shI_dec, shN_dec, shB_dec, shM_dec, dI, dN, dB, dM, dU, dU_map, iv, bv, u, ms, ctx_T, ctx_C, ctx_P, T4, T3, T26, Option.bind_some, Option.bind_none, Option.map_some, List.length_map, List.length_set, String.reduceBEq, Int.toNat_natCast, Bool.true_beq, Bool.false_beq, T25, ev1, ev2, implies_true, undef, stepP, dynCall, ↓condE_t, ↓condE_f, ↓guardE_tt, ↓guardE_ff, ↓guardE_tf, ↓guardE_ft, frzDeep, deepArgs, deepArg, resB, cv, stepB, stepE, callD, tabD, snapD, snap1, snapC, snapId, snapIds, guardB, guardC, dstAt, aopR, one, pre, binR, intOpR, shiftOpR, unR, argFrm, evo, lkp, hlk, lenOf, asLst, idOf, bndA, srcOk, ofVal, ofCells, setCells, fillA, setElems, fieldsOf, fieldsEq, scalEq, isEq, AV.wr, AV.ok1, TK.agg, frz, frzs, frzA, frzArg, frzArgs, subA, subL, sub1, kp, kh, accOf, List.replicate, Nat.reduceAdd, Nat.reduceSub, Nat.reduceMul, Nat.reduceEqDiff, Nat.reduceLT, Nat.reduceLeDiff, Nat.reduceBEq, reduceIte, reduceCtorEq, eq_self, ne_eq, Int.reduceToNat, Int.reduceLT, Int.reduceLE, Int.reduceGT, Int.reduceGE, Int.reduceBEq, Int.reduceBNe, Int.reduceEq, Int.reduceNe]
    · simp only [Try.f59, s, hb, hle, h0, take_u, set_u, hf_u, take_us, hfree_lu, hfree_l0, row0, row1, row2, row3, row4, row5, shI_dec, shN_dec, shB_dec, shM_dec, dI, dN, dB, dM, dU, dU_map, iv, bv, u, ms, ctx_T, ctx_C, ctx_P, T4, T3, T26, Option.bind_some, Option.bind_none, Option.map_some, List.length_map, List.length_set, String.reduceBEq, Int.toNat_natCast, Bool.true_beq, Bool.false_beq, T25, ev1, ev2, implies_true, undef, stepP, dynCall, ↓condE_t, ↓condE_f, ↓guardE_tt, ↓guardE_ff, ↓guardE_tf, ↓guardE_ft, frzDeep, deepArgs, deepArg, resB, cv, stepB, stepE, callD, tabD, snapD, snap1, snapC, snapId, snapIds, guardB, guardC, dstAt, aopR, one, pre, binR, intOpR, shiftOpR, unR, argFrm, evo, lkp, hlk, lenOf, asLst, idOf, bndA, srcOk, ofVal, ofCells, setCells, fillA, setElems, fieldsOf, fieldsEq, scalEq, isEq, AV.wr, AV.ok1, TK.agg, frz, frzs, frzA, frzArg, frzArgs, subA, subL, sub1, kp, kh, accOf, List.replicate, Nat.reduceAdd, Nat.reduceSub, Nat.reduceMul, Nat.reduceEqDiff, Nat.reduceLT, Nat.reduceLeDiff, Nat.reduceBEq, reduceIte, reduceCtorEq, eq_self, ne_eq, Int.reduceToNat, Int.reduceLT, Int.reduceLE, Int.reduceGT, Int.reduceGE, Int.reduceBEq, Int.reduceBNe, Int.reduceEq, Int.reduceNe]
  | true =>
    obtain ⟨h1, h2, h3⟩ := isIn_true hin
    have h4 : i ≥ 0 := h1
    have s := store_in hin v
    simp only [Try.f59, s, hb, hle, h1, h2, h3, h4, getD_u, take_u, set_u, hf_u, take_us, hfree_lu, hfree_l0, row0, row1, row2, row3, row4, row5, shI_dec, shN_dec, shB_dec, shM_dec, dI, dN, dB, dM, dU, dU_map, iv, bv, u, ms, ctx_T, ctx_C, ctx_P, T4, T3, T26, Option.bind_some, Option.bind_none, Option.map_some, List.length_map, List.length_set, String.reduceBEq, Int.toNat_natCast, Bool.true_beq, Bool.false_beq, T25, ev1, ev2, implies_true, undef, stepP, dynCall, ↓condE_t, ↓condE_f, ↓guardE_tt, ↓guardE_ff, ↓guardE_tf, ↓guardE_ft, frzDeep, deepArgs, deepArg, resB, cv, stepB, stepE, callD, tabD, snapD, snap1, snapC, snapId, snapIds, guardB, guardC, dstAt, aopR, one, pre, binR, intOpR, shiftOpR, unR, argFrm, evo, lkp, hlk, lenOf, asLst, idOf, bndA, srcOk, ofVal, ofCells, setCells, fillA, setElems, fieldsOf, fieldsEq, scalEq, isEq, AV.wr, AV.ok1, TK.agg, frz, frzs, frzA, frzArg, frzArgs, subA, subL, sub1, kp, kh, accOf, List.replicate, Nat.reduceAdd, Nat.reduceSub, Nat.reduceMul, Nat.reduceEqDiff, Nat.reduceLT, Nat.reduceLeDiff, Nat.reduceBEq, reduceIte, reduceCtorEq, eq_self, ne_eq, Int.reduceToNat, Int.reduceLT, Int.reduceLE, Int.reduceGT, Int.reduceGE, Int.reduceBEq, Int.reduceBNe, Int.reduceEq, Int.reduceNe]

def rowsKA : List Row := [
  (45, row2 shM shI fun m i => some (u (mLoad m i))), 
  (51, row3 shM shI shN fun m i v => some (ms (mStore m i v))), 
  (49, row4 shM shI shN shN fun m i v w => some (.tup [ms (mCas m i v w), bv (mCasB m i v)])), 
  (53, row2 shM shI fun m i => some (u (mLoad m i))), 
  (21, row2 shM shM fun a b => some (bv (decide (a = b)))), 
  (59, row3 shM shI shN fun m i v => some (ms (mStore m i v)))]
theorem rowsKA_ok : ∀ p ∈ rowsKA, RowOk Try.prog p := fun p h => by
  simp only [rowsKA, List.mem_append, List.mem_cons, List.not_mem_nil, or_false, false_or, or_assoc] at h
  rcases h with rfl | rfl | rfl | rfl | rfl | rfl
  · exact ok_row2 (enters_of Try.func45 (by decide) rfl) fun m i r g _ e => by cases e; exact load_pure m i (shM_got g)
  · exact ok_row3 (enters_of Try.func51 (by decide) rfl) fun m i v r g _ _ e => by cases e; exact store_pure m i v (shM_got g)
  · exact ok_row4 (enters_of Try.func49 (by decide) rfl) fun m i v w r g _ _ _ e => by cases e; exact cas_pure m i v w (shM_got g)
  · exact ok_row2 (enters_of Try.func53 (by decide) rfl) fun m i r g _ e => by cases e; exact refLoad_pure m i (shM_got g)
  · exact ok_row2 (enters_of Try.func21 (by decide) rfl) fun a b r g g' e => by cases e; exact refSame_pure a b (shM_got g) (shM_got g')
  · exact ok_row3 (enters_of Try.func59 (by decide) rfl) fun m i v r g _ _ e => by cases e; exact refStore_pure m i v (shM_got g)
theorem okKA : (ctx Try.prog rowsKA).ok := rows_ok rowsKA_ok
theorem KA_45 : tabC rowsKA 45 = row2 shM shI fun m i => some (u (mLoad m i)) := rfl
theorem KA_51 : tabC rowsKA 51 = row3 shM shI shN fun m i v => some (ms (mStore m i v)) := rfl
theorem KA_49 : tabC rowsKA 49 = row4 shM shI shN shN fun m i v w => some (.tup [ms (mCas m i v w), bv (mCasB m i v)]) := rfl
theorem KA_53 : tabC rowsKA 53 = row2 shM shI fun m i => some (u (mLoad m i)) := rfl
theorem KA_21 : tabC rowsKA 21 = row2 shM shM fun a b => some (bv (decide (a = b))) := rfl
theorem KA_59 : tabC rowsKA 59 = row3 shM shI shN fun m i v => some (ms (mStore m i v)) := rfl
theorem KA_all : type_of% (And.intro KA_45 <| And.intro KA_51 <| And.intro KA_49 <| And.intro KA_53 <| And.intro KA_21 <| KA_59) := And.intro KA_45 <| And.intro KA_51 <| And.intro KA_49 <| And.intro KA_53 <| And.intro KA_21 <| KA_59

theorem refCas_pure (m : List Int) (i v w : Int) (hm : m.length ≤ 1000) : PureC Try.prog 57 [ms m, iv i, u v, u w] (.tup [ms (mCas m i v w), bv (mCasB m i v)]) := by
  refine pure_sub okKA 1 Try.func57 rfl (by show 4 ≤ _; decide) ?_
  have hout : mStore m (IntKind.i64.wrap (0 - 1)) 0 = m := store_out (by simp [isIn, IntKind.wrap_i64]) 0
  have hout' : mStore m (-1) 0 = m := store_out (by simp [isIn]) 0
  cases hin : isIn m i with
  | false =>
    have hc : mCasB m i v = false := by simp [mCasB, hin]
    have g := cas_not hc w
    by_cases h0 : i < 0
    · simp only [Try.f57, KA_all, hm, hout, hout', hc, g, h0, hf_u, hfree_lu, hfree_l0, row0, row1, row2, row3, row4, row5, shI_dec, shN_dec, shB_dec, shM_dec, dI, dN, dB, dM, dU, dU_map, iv, bv, u, ms, ctx_T, ctx_C, ctx_P, T4, T3, T26, Option.bind_some, Option.bind_none, Option.map_some, List.length_map, List.length_set, String.reduceBEq, Int.toNat_natCast, Bool.true_beq, Bool.false_beq, T25, ev1, ev2, implies_true, undef, stepP, dynCall, ↓condE_t, ↓condE_f, ↓guardE_tt, ↓guardE_ff, ↓guardE_tf, ↓guardE_ft, frzDeep, deepArgs, deepArg, resB, cv, stepB, stepE, callD, tabD, snapD, snap1, snapC, snapId, snapIds, guardB, guardC, dstAt, aopR, one, pre, binR, intOpR, shiftOpR, unR, argFrm, evo, lkp, hlk, lenOf, asLst, idOf, bndA, srcOk, ofVal, ofCells, setCells, fillA, setElems, fieldsOf, fieldsEq, scalEq, isEq, AV.wr, AV.ok1, TK.agg, frz, frzs, frzA, frzArg, frzArgs, subA, subL, sub1, kp, kh, accOf, List.replicate, Nat.reduceAdd, Nat.reduceSub, Nat.reduceMul, Nat.reduceEqDiff, Nat.reduceLT, Nat.reduceLeDiff, Nat.reduceBEq, reduceIte, reduceCtorEq, eq_self, ne_eq, Int.reduceToNat, Int.reduceLT, Int.reduceLE, Int.reduceGT, Int.reduceGE, Int.reduceBEq, Int.reduceBNe, Int.reduceEq, Int.reduceNe]
    · have h1 : i ≥ (m.length : Int) := by have := isIn_false hin (by omega); omega
      simp only [Try.f57, KA_all, hm, hout, hout', hc, g, h0, h1, hf_u, hfree_lu, hfree_l0, row0, row1, row2, row3, row4, row5, shI_dec, shN_dec, shB_dec, shM_dec, dI, dN, dB, dM, dU, dU_map, iv, bv, u, ms, ctx_T, ctx_C, ctx_P, T4, T3, T26, Option.bind_some, Option.bind_none, Option.map_some, List.length_map, List.length_set, String.reduceBEq, Int.toNat_natCast, Bool.true_beq, Bool.false_beq, T25, ev1, ev2, implies_true, undef, stepP, dynCall, ↓condE_t, ↓condE_f, ↓guardE_tt, ↓guardE_ff, ↓guardE_tf, ↓guardE_ft, frzDeep, deepArgs, deepArg, resB, cv, stepB, stepE, callD, tabD, snapD, snap1, snapC, snapId, snapIds, guardB, guardC, dstAt, aopR, one, pre, binR, intOpR, shiftOpR, unR, argFrm, evo, lkp, hlk, lenOf, asLst, idOf, bndA, srcOk, ofVal, ofCells, setCells, fillA, setElems, fieldsOf, fieldsEq, scalEq, isEq, AV.wr, AV.ok1, TK.agg, frz, frzs, frzA, frzArg, frzArgs, subA, subL, sub1, kp, kh, accOf, List.replicate, Nat.reduceAdd, Nat.reduceSub, Nat.reduceMul, Nat.reduceEqDiff, Nat.reduceLT, Nat.reduceLeDiff, Nat.reduceBEq, reduceIte, reduceCtorEq, eq_self, ne_eq, Int.reduceToNat, Int.reduceLT, Int.reduceLE, Int.reduceGT, Int.reduceGE, Int.reduceBEq, Int.reduceBNe, Int.reduceEq, Int.reduceNe]
  | true =>
    obtain ⟨h1, h2, h3⟩ := isIn_true hin
    have h4 : ¬ i < 0 := by omega
    have h5 : ¬ i ≥ (m.length : Int) := by omega
    have hl := load_in hin
    cases hc : mCasB m i v with
    | true =>
      have he : (m.getD i.toNat 0 != v) = false := by
        have : mLoad m i = v := by simp [mCasB] at hc; exact hc.2
        rw [← hl, this]; simp
      have g := cas_store hc w
      simp only [Try.f57, KA_all, hm, hout, hout', hc, g, he, h1, h2, h3, h4, h5, getD_u, hf_u, hfree_lu, hfree_l0, row0, row1, row2, row3, row4, row5, shI_dec, shN_dec, shB_dec, shM_dec, dI, dN, dB, dM, dU, dU_map, iv, bv, u, ms, ctx_T, ctx_C, ctx_P, T4, T3, T26, Option.bind_some, Option.bind_none, Option.map_some, List.length_map, List.length_set, String.reduceBEq, Int.toNat_natCast, Bool.true_beq, Bool.false_beq, T25, ev1, ev2, implies_true, undef, stepP, dynCall, ↓condE_t, ↓condE_f, ↓guardE_tt, ↓guardE_ff, ↓guardE_tf, ↓guardE_ft, frzDeep, deepArgs, deepArg, resB, cv, stepB, stepE, callD, tabD, snapD, snap1, snapC, snapId, snapIds, guardB, guardC, dstAt, aopR, one, pre, binR, intOpR, shiftOpR, unR, argFrm, evo, lkp, hlk, lenOf, asLst, idOf, bndA, srcOk, ofVal, ofCells, setCells, fillA, setElems, fieldsOf, fieldsEq, scalEq, isEq, AV.wr, AV.ok1, TK.agg, frz, frzs, frzA, frzArg, frzArgs, subA, subL, sub1, kp, kh, accOf, List.replicate, Nat.reduceAdd, Nat.reduceSub, Nat.reduceMul, Nat.reduceEqDiff, Nat.reduceLT, Nat.reduceLeDiff, Nat.reduceBEq, reduceIte, reduceCtorEq, eq_self, ne_eq, Int.reduceToNat, Int.reduceLT, Int.reduceLE, Int.reduceGT, Int.reduceGE, Int.reduceBEq, Int.reduceBNe, Int.reduceEq, Int.reduceNe]
    | false =>
      have he : (m.getD i.toNat 0 != v) = true := by
        have : ¬ mLoad m i = v := by simp [mCasB, hin] at hc; exact hc
        rw [← hl]; simpa using this
      have g := cas_not hc w
      simp only [Try.f57, KA_all, hm, hout, hout', hc, g, he, h1, h2, h3, h4, h5, getD_u, hf_u, hfree_lu, hfree_l0, row0, row1, row2, row3, row4, row5, shI_dec, shN_dec, shB_dec, shM_dec, dI, dN, dB, dM, dU, dU_map, iv, bv, u, ms, ctx_T, ctx_C, ctx_P, T4, T3, T26, Option.bind_some, Option.bind_none, Option.map_some, List.length_map, List.length_set, String.reduceBEq, Int.toNat_natCast, Bool.true_beq, Bool.false_beq, T25, ev1, ev2, implies_true, undef, stepP, dynCall, ↓condE_t, ↓condE_f, ↓guardE_tt, ↓guardE_ff, ↓guardE_tf, ↓guardE_ft, frzDeep, deepArgs, deepArg, resB, cv, stepB, stepE, callD, tabD, snapD, snap1, snapC, snapId, snapIds, guardB, guardC, dstAt, aopR, one, pre, binR, intOpR, shiftOpR, unR, argFrm, evo, lkp, hlk, lenOf, asLst, idOf, bndA, srcOk, ofVal, ofCells, setCells, fillA, setElems, fieldsOf, fieldsEq, scalEq, isEq, AV.wr, AV.ok1, TK.agg, frz, frzs, frzA, frzArg, frzArgs, subA, subL, sub1, kp, kh, accOf, List.replicate, Nat.reduceAdd, Nat.reduceSub, Nat.reduceMul, Nat.reduceEqDiff, Nat.reduceLT, Nat.reduceLeDiff, Nat.reduceBEq, reduceIte, reduceCtorEq, eq_self, ne_eq, Int.reduceToNat, Int.reduceLT, Int.reduceLE, Int.reduceGT, Int.reduceGE, Int.reduceBEq, Int.reduceBNe, Int.reduceEq, Int.reduceNe]

def rowsK : List Row := [
  (57, row4 shM shI shN shN fun m i v w => some (.tup [ms (mCas m i v w), bv (mCasB m i v)]))] ++ rowsKA
theorem rowsK_ok : ∀ p ∈ rowsK, RowOk Try.prog p := fun p h => by
  simp only [rowsK, List.mem_append, List.mem_cons, List.not_mem_nil, or_false, false_or, or_assoc] at h
  rcases h with rfl | h
  · exact ok_row4 (enters_of Try.func57 (by decide) rfl) fun m i v w r g _ _ _ e => by cases e; exact refCas_pure m i v w (shM_got g)
  · exact rowsKA_ok p h
theorem okK : (ctx Try.prog rowsK).ok := rows_ok rowsK_ok
theorem K_57 : tabC rowsK 57 = row4 shM shI shN shN fun m i v w => some (.tup [ms (mCas m i v w), bv (mCasB m i v)]) := rfl
theorem K_45 : tabC rowsK 45 = row2 shM shI fun m i => some (u (mLoad m i)) := rfl
theorem K_51 : tabC rowsK 51 = row3 shM shI shN fun m i v => some (ms (mStore m i v)) := rfl
theorem K_49 : tabC rowsK 49 = row4 shM shI shN shN fun m i v w => some (.tup [ms (mCas m i v w), bv (mCasB m i v)]) := rfl
theorem K_53 : tabC rowsK 53 = row2 shM shI fun m i => some (u (mLoad m i)) := rfl
theorem K_21 : tabC rowsK 21 = row2 shM shM fun a b => some (bv (decide (a = b))) := rfl
theorem K_59 : tabC rowsK 59 = row3 shM shI shN fun m i v => some (ms (mStore m i v)) := rfl
theorem K_all : type_of% (And.intro K_57 <| And.intro K_45 <| And.intro K_51 <| And.intro K_49 <| And.intro K_53 <| And.intro K_21 <| K_59) := And.intro K_57 <| And.intro K_45 <| And.intro K_51 <| And.intro K_49 <| And.intro K_53 <| And.intro K_21 <| K_59
end Go.Vai
/- Calls: the document's answers, and the layer's contracts as a table. -/
namespace Go.Vai
open Go.RowKit Go.Proofs
set_option linter.unusedSimpArgs false
set_option linter.unusedVariables false
set_option maxHeartbeats 4000000
set_option maxRecDepth 100000

theorem rOver_pure (f : Fr) : PureC Try.prog 86 [fv f] (bv (f.res != 0)) := by
  refine pure_sub ok0 1 Try.func86 rfl (by show 1 ≤ _; decide) ?_
  simp only [Try.f86, fv, T28, hfree_lu, hfree_l0, row0, row1, row2, row3, row4, row5, shI_dec, shN_dec, shB_dec, shM_dec, dI, dN, dB, dM, dU, dU_map, iv, bv, u, ms, ctx_T, ctx_C, ctx_P, T4, T3, T26, Option.bind_some, Option.bind_none, Option.map_some, List.length_map, List.length_set, String.reduceBEq, Int.toNat_natCast, Bool.true_beq, Bool.false_beq, T24, shF_dec, dF, fr_eta, ev1, ev2, implies_true, undef, stepP, dynCall, ↓condE_t, ↓condE_f, ↓guardE_tt, ↓guardE_ff, ↓guardE_tf, ↓guardE_ft, frzDeep, deepArgs, deepArg, resB, cv, stepB, stepE, callD, tabD, snapD, snap1, snapC, snapId, snapIds, guardB, guardC, dstAt, aopR, one, pre, binR, intOpR, shiftOpR, unR, argFrm, evo, lkp, hlk, lenOf, asLst, idOf, bndA, srcOk, ofVal, ofCells, setCells, fillA, setElems, fieldsOf, fieldsEq, scalEq, isEq, AV.wr, AV.ok1, TK.agg, frz, frzs, frzA, frzArg, frzArgs, subA, subL, sub1, kp, kh, accOf, List.replicate, Nat.reduceAdd, Nat.reduceSub, Nat.reduceMul, Nat.reduceEqDiff, Nat.reduceLT, Nat.reduceLeDiff, Nat.reduceBEq, reduceIte, reduceCtorEq, eq_self, ne_eq, Int.reduceToNat, Int.reduceLT, Int.reduceLE, Int.reduceGT, Int.reduceGE, Int.reduceBEq, Int.reduceBNe, Int.reduceEq, Int.reduceNe]

theorem rEnd_pure (f : Fr) (res val : Int) : PureC Try.prog 56 [fv f, iv res, u val] (fv (fEnd f res val)) := by
  refine pure_sub ok0 1 Try.func56 rfl (by show 3 ≤ _; decide) ?_
  simp only [Try.f56, fv, fEnd, T28, hfree_lu, hfree_l0, row0, row1, row2, row3, row4, row5, shI_dec, shN_dec, shB_dec, shM_dec, dI, dN, dB, dM, dU, dU_map, iv, bv, u, ms, ctx_T, ctx_C, ctx_P, T4, T3, T26, Option.bind_some, Option.bind_none, Option.map_some, List.length_map, List.length_set, String.reduceBEq, Int.toNat_natCast, Bool.true_beq, Bool.false_beq, T24, shF_dec, dF, fr_eta, ev1, ev2, implies_true, undef, stepP, dynCall, ↓condE_t, ↓condE_f, ↓guardE_tt, ↓guardE_ff, ↓guardE_tf, ↓guardE_ft, frzDeep, deepArgs, deepArg, resB, cv, stepB, stepE, callD, tabD, snapD, snap1, snapC, snapId, snapIds, guardB, guardC, dstAt, aopR, one, pre, binR, intOpR, shiftOpR, unR, argFrm, evo, lkp, hlk, lenOf, asLst, idOf, bndA, srcOk, ofVal, ofCells, setCells, fillA, setElems, fieldsOf, fieldsEq, scalEq, isEq, AV.wr, AV.ok1, TK.agg, frz, frzs, frzA, frzArg, frzArgs, subA, subL, sub1, kp, kh, accOf, List.replicate, Nat.reduceAdd, Nat.reduceSub, Nat.reduceMul, Nat.reduceEqDiff, Nat.reduceLT, Nat.reduceLeDiff, Nat.reduceBEq, reduceIte, reduceCtorEq, eq_self, ne_eq, Int.reduceToNat, Int.reduceLT, Int.reduceLE, Int.reduceGT, Int.reduceGE, Int.reduceBEq, Int.reduceBNe, Int.reduceEq, Int.reduceNe]

theorem nums_pure (a b : List Int) (ha : a.length ≤ 1000) (hb : b.length ≤ 1000) : PureC Try.prog 22 [ms a, ms b] (bv (decide (a = b))) := by
  refine pure_sub ok0 1 Try.func22 rfl (by show 2 ≤ _; decide) ?_
  by_cases hl : a.length = b.length
  · simp only [Try.f22, hl, bne_self_eq_false, hfree_lu, hfree_l0, row0, row1, row2, row3, row4, row5, shI_dec, shN_dec, shB_dec, shM_dec, dI, dN, dB, dM, dU, dU_map, iv, bv, u, ms, ctx_T, ctx_C, ctx_P, T4, T3, T26, Option.bind_some, Option.bind_none, Option.map_some, List.length_map, List.length_set, String.reduceBEq, Int.toNat_natCast, Bool.true_beq, Bool.false_beq, T24, shF_dec, dF, fr_eta, ev1, ev2, implies_true, undef, stepP, dynCall, ↓condE_t, ↓condE_f, ↓guardE_tt, ↓guardE_ff, ↓guardE_tf, ↓guardE_ft, frzDeep, deepArgs, deepArg, resB, cv, stepB, stepE, callD, tabD, snapD, snap1, snapC, snapId, snapIds, guardB, guardC, dstAt, aopR, one, pre, binR, intOpR, shiftOpR, unR, argFrm, evo, lkp, hlk, lenOf, asLst, idOf, bndA, srcOk, ofVal, ofCells, setCells, fillA, setElems, fieldsOf, fieldsEq, scalEq, isEq, AV.wr, AV.ok1, TK.agg, frz, frzs, frzA, frzArg, frzArgs, subA, subL, sub1, kp, kh, accOf, List.replicate, Nat.reduceAdd, Nat.reduceSub, Nat.reduceMul, Nat.reduceEqDiff, Nat.reduceLT, Nat.reduceLeDiff, Nat.reduceBEq, reduceIte, reduceCtorEq, eq_self, ne_eq, Int.reduceToNat, Int.reduceLT, Int.reduceLE, Int.reduceGT, Int.reduceGE, Int.reduceBEq, Int.reduceBNe, Int.reduceEq, Int.reduceNe]
    refine WP.loop (fun i : Nat => a.length - i) (fun i => i ≤ a.length ∧ a.take i = b.take i) (n := 26) (fr := fun i => [(5, iv i), (0, ms a), (1, ms b)]) (hp := fun _ => []) (N := 0) ?_ 0 ⟨Nat.zero_le _, rfl⟩ rfl (Nat.zero_le _) ⟨rfl, rfl, rfl, trivial⟩ trivial
    rintro i nx ⟨h1, h2⟩ _ _
    refine WP.of ok0 1 (by rfl) ?_
    by_cases hi : i < a.length
    · have hi' : i < b.length := by omega
      have hz : (i : Int) < (b.length : Int) := by omega
      have hz' : (i : Int) < (a.length : Int) := by omega
      have h0 : (0 : Int) ≤ (i : Int) := by omega
      simp only [getD_u, hi, hi', hz, hz', h0, hl, hfree_lu, hfree_l0, row0, row1, row2, row3, row4, row5, shI_dec, shN_dec, shB_dec, shM_dec, dI, dN, dB, dM, dU, dU_map, iv, bv, u, ms, ctx_T, ctx_C, ctx_P, T4, T3, T26, Option.bind_some, Option.bind_none, Option.map_some, List.length_map, List.length_set, String.reduceBEq, Int.toNat_natCast, Bool.true_beq, Bool.false_beq, T24, shF_dec, dF, fr_eta, ev1, ev2, implies_true, undef, stepP, dynCall, ↓condE_t, ↓condE_f, ↓guardE_tt, ↓guardE_ff, ↓guardE_tf, ↓guardE_ft, frzDeep, deepArgs, deepArg, resB, cv, stepB, stepE, callD, tabD, snapD, snap1, snapC, snapId, snapIds, guardB, guardC, dstAt, aopR, one, pre, binR, intOpR, shiftOpR, unR, argFrm, evo, lkp, hlk, lenOf, asLst, idOf, bndA, srcOk, ofVal, ofCells, setCells, fillA, setElems, fieldsOf, fieldsEq, scalEq, isEq, AV.wr, AV.ok1, TK.agg, frz, frzs, frzA, frzArg, frzArgs, subA, subL, sub1, kp, kh, accOf, List.replicate, Nat.reduceAdd, Nat.reduceSub, Nat.reduceMul, Nat.reduceEqDiff, Nat.reduceLT, Nat.reduceLeDiff, Nat.reduceBEq, reduceIte, reduceCtorEq, eq_self, ne_eq, Int.reduceToNat, Int.reduceLT, Int.reduceLE, Int.reduceGT, Int.reduceGE, Int.reduceBEq, Int.reduceBNe, Int.reduceEq, Int.reduceNe]
      refine ⟨fun h => by simp [getD_ne h], fun h => ⟨i + 1, by omega, ⟨by omega, take_next hi hi' h2 h⟩, ?_⟩⟩
      rw [wrap_s (by omega)]
    · have hz : ¬ (i : Int) < (b.length : Int) := by omega
      simp only [getD_u, hl, hz, hfree_lu, hfree_l0, row0, row1, row2, row3, row4, row5, shI_dec, shN_dec, shB_dec, shM_dec, dI, dN, dB, dM, dU, dU_map, iv, bv, u, ms, ctx_T, ctx_C, ctx_P, T4, T3, T26, Option.bind_some, Option.bind_none, Option.map_some, List.length_map, List.length_set, String.reduceBEq, Int.toNat_natCast, Bool.true_beq, Bool.false_beq, T24, shF_dec, dF, fr_eta, ev1, ev2, implies_true, undef, stepP, dynCall, ↓condE_t, ↓condE_f, ↓guardE_tt, ↓guardE_ff, ↓guardE_tf, ↓guardE_ft, frzDeep, deepArgs, deepArg, resB, cv, stepB, stepE, callD, tabD, snapD, snap1, snapC, snapId, snapIds, guardB, guardC, dstAt, aopR, one, pre, binR, intOpR, shiftOpR, unR, argFrm, evo, lkp, hlk, lenOf, asLst, idOf, bndA, srcOk, ofVal, ofCells, setCells, fillA, setElems, fieldsOf, fieldsEq, scalEq, isEq, AV.wr, AV.ok1, TK.agg, frz, frzs, frzA, frzArg, frzArgs, subA, subL, sub1, kp, kh, accOf, List.replicate, Nat.reduceAdd, Nat.reduceSub, Nat.reduceMul, Nat.reduceEqDiff, Nat.reduceLT, Nat.reduceLeDiff, Nat.reduceBEq, reduceIte, reduceCtorEq, eq_self, ne_eq, Int.reduceToNat, Int.reduceLT, Int.reduceLE, Int.reduceGT, Int.reduceGE, Int.reduceBEq, Int.reduceBNe, Int.reduceEq, Int.reduceNe]
      have e : i = a.length := by omega
      subst e
      rw [List.take_length, hl, List.take_length] at h2
      simp [h2]
  · have hne : ¬ a = b := fun e => hl (by rw [e])
    have hz : ((a.length : Int) != (b.length : Int)) = true := by
      have : ¬ (a.length : Int) = (b.length : Int) := by omega
      simpa using this
    simp only [Try.f22, hz, hne, hfree_lu, hfree_l0, row0, row1, row2, row3, row4, row5, shI_dec, shN_dec, shB_dec, shM_dec, dI, dN, dB, dM, dU, dU_map, iv, bv, u, ms, ctx_T, ctx_C, ctx_P, T4, T3, T26, Option.bind_some, Option.bind_none, Option.map_some, List.length_map, List.length_set, String.reduceBEq, Int.toNat_natCast, Bool.true_beq, Bool.false_beq, T24, shF_dec, dF, fr_eta, ev1, ev2, implies_true, undef, stepP, dynCall, ↓condE_t, ↓condE_f, ↓guardE_tt, ↓guardE_ff, ↓guardE_tf, ↓guardE_ft, frzDeep, deepArgs, deepArg, resB, cv, stepB, stepE, callD, tabD, snapD, snap1, snapC, snapId, snapIds, guardB, guardC, dstAt, aopR, one, pre, binR, intOpR, shiftOpR, unR, argFrm, evo, lkp, hlk, lenOf, asLst, idOf, bndA, srcOk, ofVal, ofCells, setCells, fillA, setElems, fieldsOf, fieldsEq, scalEq, isEq, AV.wr, AV.ok1, TK.agg, frz, frzs, frzA, frzArg, frzArgs, subA, subL, sub1, kp, kh, accOf, List.replicate, Nat.reduceAdd, Nat.reduceSub, Nat.reduceMul, Nat.reduceEqDiff, Nat.reduceLT, Nat.reduceLeDiff, Nat.reduceBEq, reduceIte, reduceCtorEq, eq_self, ne_eq, Int.reduceToNat, Int.reduceLT, Int.reduceLE, Int.reduceGT, Int.reduceGE, Int.reduceBEq, Int.reduceBNe, Int.reduceEq, Int.reduceNe]

def rowsG : List Row := [
  (86, row1 shF fun f => some (bv (f.res != 0))), 
  (56, row3 shF shI shN fun f r v => some (fv (fEnd f r v))), 
  (22, row2 shM shM fun a b => some (bv (decide (a = b))))] ++ rowsF
theorem rowsG_ok : ∀ p ∈ rowsG, RowOk Try.prog p := fun p h => by
  simp only [rowsG, List.mem_append, List.mem_cons, List.not_mem_nil, or_false, false_or, or_assoc] at h
  rcases h with rfl | rfl | rfl | h
  · exact ok_row1 (enters_of Try.func86 (by decide) rfl) fun f r _ e => by cases e; exact rOver_pure f
  · exact ok_row3 (enters_of Try.func56 (by decide) rfl) fun f x v r _ _ _ e => by cases e; exact rEnd_pure f x v
  · exact ok_row2 (enters_of Try.func22 (by decide) rfl) fun a b r g g' e => by cases e; exact nums_pure a b (shM_got g) (shM_got g')
  · exact rowsF_ok p h
theorem okG : (ctx Try.prog rowsG).ok := rows_ok rowsG_ok
theorem G_86 : tabC rowsG 86 = row1 shF fun f => some (bv (f.res != 0)) := rfl
theorem G_56 : tabC rowsG 56 = row3 shF shI shN fun f r v => some (fv (fEnd f r v)) := rfl
theorem G_22 : tabC rowsG 22 = row2 shM shM fun a b => some (bv (decide (a = b))) := rfl
theorem G_25 : tabC rowsG 25 = row3 shI shI shN fun o w v => some (fv (fBegin o w v)) := rfl
theorem G_31 : tabC rowsG 31 = row1 shF fun f => some (bv (f.res != 0)) := rfl
theorem G_48 : tabC rowsG 48 = row3 shF shI shN fun f r v => some (fv (fEnd f r v)) := rfl
theorem G_74 : tabC rowsG 74 = fun _ => none := rfl
theorem G_75 : tabC rowsG 75 = fun _ => none := rfl
theorem G_76 : tabC rowsG 76 = fun _ => none := rfl
theorem G_73 : tabC rowsG 73 = fun _ => none := rfl
theorem G_all : type_of% (And.intro G_86 <| And.intro G_56 <| And.intro G_22 <| And.intro G_25 <| And.intro G_31 <| And.intro G_48 <| And.intro G_74 <| And.intro G_75 <| And.intro G_76 <| G_73) := And.intro G_86 <| And.intro G_56 <| And.intro G_22 <| And.intro G_25 <| And.intro G_31 <| And.intro G_48 <| And.intro G_74 <| And.intro G_75 <| And.intro G_76 <| G_73

end Go.Vai
/- Deques by lists: a push, a pop, and a steal, alone. -/
namespace Go.Vai
open Go.RowKit
set_option linter.unusedVariables false
set_option linter.unusedSimpArgs false

theorem len_pStep (c : Cf) (m : List Int) (f : Fr) : (pStep c m f).1.length = m.length := by
  unfold pStep; repeat' split
  all_goals first | rfl | exact len_store ..
theorem len_oStep (c : Cf) (m : List Int) (f : Fr) : (oStep c m f).1.length = m.length := by
  unfold oStep; repeat' split
  all_goals first | rfl | exact len_store .. | exact len_cas ..
theorem len_sStep (c : Cf) (m : List Int) (f : Fr) : (sStep c m f).1.length = m.length := by
  unfold sStep; repeat' split
  all_goals first | rfl | exact len_store .. | exact len_cas ..

/-- A call that does not go on. -/
theorem goes_over {c : Cf} {m : List Int} {f : Fr} {op pcs : Int} (h : f.res ≠ 0) : goes c m f op pcs = false := by simp [goes, h]
theorem goes_lay {c : Cf} {m : List Int} {f : Fr} {op pcs : Int} (h : ¬ Lay c m f.who) : goes c m f op pcs = false := by
  rw [Bool.eq_false_iff]; intro e; exact h (goes_iff.1 e).1
theorem pStep_no {c : Cf} {m : List Int} {f : Fr} (h : goes c m f 0 4 = false) : pStep c m f = (m, f) := by simp [pStep, h]
theorem oStep_no {c : Cf} {m : List Int} {f : Fr} (h : goes c m f 1 7 = false) : oStep c m f = (m, f) := by simp [oStep, h]
theorem sStep_no {c : Cf} {m : List Int} {f : Fr} (h : goes c m f 2 4 = false) : sStep c m f = (m, f) := by simp [sStep, h]

/-- Numbers from a place on. -/
def dRow (c : Cf) (m : List Int) (w t : Int) (n : Nat) : List Int := (List.range n).map fun (i : Nat) => mLoad m (lSlot c w (wrapU (t + i)))

theorem dList_eq {c : Cf} {m : List Int} {w : Int} (h : dIs c m w = true) : dList c m w = dRow c m w (mLoad m (lTop c w)) (dNum c m w).toNat := by
  unfold dList; rw [if_pos h]; rfl
theorem dRow_len (c : Cf) (m : List Int) (w t : Int) (n : Nat) : (dRow c m w t n).length = n := by simp [dRow]
theorem dRow_succ (c : Cf) (m : List Int) (w t : Int) (n : Nat) : dRow c m w t (n + 1) = dRow c m w t n ++ [mLoad m (lSlot c w (wrapU (t + n)))] := by
  simp [dRow, List.range_succ]
theorem dRow_congr {c : Cf} {m m' : List Int} {w t : Int} {n : Nat} (h : ∀ i : Nat, i < n → mLoad m' (lSlot c w (wrapU (t + i))) = mLoad m (lSlot c w (wrapU (t + i)))) : dRow c m' w t n = dRow c m w t n := by
  unfold dRow
  exact List.map_congr_left fun i hi => h i (List.mem_range.1 hi)
theorem dRow_get {c : Cf} {m : List Int} {w t : Int} {n i : Nat} (h : i < n) : (dRow c m w t n).getD i 0 = mLoad m (lSlot c w (wrapU (t + i))) := by
  simp [dRow, List.getD_eq_getElem?_getD, h]
theorem dRow_drop {c : Cf} {m : List Int} {w t : Int} {n : Nat} (ht : InU t) : (dRow c m w t (n + 1)).drop 1 = dRow c m w (wrapU (t + 1)) n := by
  apply List.ext_getElem
  · simp [dRow]
  · intro i h1 h2
    simp [dRow]
    congr 1
    have : wrapU (t + ((1 + i : Nat) : Int)) = wrapU (wrapU (t + 1) + (i : Int)) := by rw [wrapU_eq, wrapU_eq, wrapU_eq]; omega
    rw [← this]
    congr 2
    omega

theorem slot_eq {c : Cf} {m : List Int} {w : Int} (h : Lay c m w) {x y : Int} (e : x % 18446744073709551616 = y % 18446744073709551616) : lSlot c w x = lSlot c w y := by
  rw [h.ss, e]
theorem slot_ne {c : Cf} {m : List Int} {w : Int} (h : Lay c m w) {t : Int} (ht : InU t) {i j : Nat} (hi : (i : Int) < c.d) (hj : (j : Int) < c.d) (hij : i ≠ j) : lSlot c w (wrapU (t + i)) ≠ lSlot c w (wrapU (t + j)) := by
  rw [Ne, h.ss, wrapU_eq, wrapU_eq]
  unfold InU at ht
  rcases h.dpos with e | e | e | e | e <;> rw [e] at hi hj ⊢ <;> omega

theorem dNum_wrap {c : Cf} {m : List Int} {w : Int} (hm : InM m) (h : 0 ≤ dNum c m w) : wrapU (mLoad m (lBottom c w) - mLoad m (lTop c w)) = dNum c m w := by
  unfold dNum at *
  have a := load_u hm (lBottom c w)
  have b := load_u hm (lTop c w)
  rw [far_eq a b] at *
  rw [wrapU_eq]
  unfold InU at a b
  omega

/-- A push, four steps. -/
theorem push_1 {c : Cf} {m : List Int} {w v : Int} (h : Lay c m w) : pStep c m ⟨0, 0, w, v, 0, 0, 0⟩ = (m, ⟨0, 1, w, v, mLoad m (lBottom c w), 0, 0⟩) := by
  have : goes c m ⟨0, 0, w, v, 0, 0, 0⟩ 0 4 = true := goes_iff.2 ⟨h, rfl, rfl, by simp, by simp⟩
  simp [pStep, this]
theorem push_2f {c : Cf} {m : List Int} {w v x : Int} (h : Lay c m w) (hf : c.d ≤ wrapU (x - mLoad m (lTop c w))) : pStep c m ⟨0, 1, w, v, x, 0, 0⟩ = (m, ⟨0, 0, w, v, 0, 0, 2⟩) := by
  have : goes c m ⟨0, 1, w, v, x, 0, 0⟩ 0 4 = true := goes_iff.2 ⟨h, rfl, rfl, by simp, by simp⟩
  simp [pStep, this, hf, fEnd]
theorem push_2 {c : Cf} {m : List Int} {w v x : Int} (h : Lay c m w) (hf : ¬ c.d ≤ wrapU (x - mLoad m (lTop c w))) : pStep c m ⟨0, 1, w, v, x, 0, 0⟩ = (m, ⟨0, 2, w, v, x, mLoad m (lTop c w), 0⟩) := by
  have : goes c m ⟨0, 1, w, v, x, 0, 0⟩ 0 4 = true := goes_iff.2 ⟨h, rfl, rfl, by simp, by simp⟩
  simp [pStep, this, hf]
theorem push_3 {c : Cf} {m : List Int} {w v x y : Int} (h : Lay c m w) : pStep c m ⟨0, 2, w, v, x, y, 0⟩ = (mStore m (lSlot c w x) v, ⟨0, 3, w, v, x, y, 0⟩) := by
  have : goes c m ⟨0, 2, w, v, x, y, 0⟩ 0 4 = true := goes_iff.2 ⟨h, rfl, rfl, by simp, by simp⟩
  simp [pStep, this]
theorem push_4 {c : Cf} {m : List Int} {w v x y : Int} (h : Lay c m w) : pStep c m ⟨0, 3, w, v, x, y, 0⟩ = (mStore m (lBottom c w) (wrapU (x + 1)), ⟨0, 0, w, v, 0, 0, 1⟩) := by
  have : goes c m ⟨0, 3, w, v, x, y, 0⟩ 0 4 = true := goes_iff.2 ⟨h, rfl, rfl, by simp, by simp⟩
  simp [pStep, this, fEnd]
theorem push_over {c : Cf} {m : List Int} {f : Fr} (h : f.res ≠ 0) : pStep c m f = (m, f) := pStep_no (goes_over h)

/-- The list behind a push. -/
theorem push_list {c : Cf} {m : List Int} {w v : Int} (hm : InM m) (hi : dIs c m w = true) (hn : dNum c m w < c.d) :
    dIs c (mStore (mStore m (lSlot c w (mLoad m (lBottom c w))) v) (lBottom c w) (wrapU (mLoad m (lBottom c w) + 1))) w = true ∧
    dList c (mStore (mStore m (lSlot c w (mLoad m (lBottom c w))) v) (lBottom c w) (wrapU (mLoad m (lBottom c w) + 1))) w = dList c m w ++ [v] := by
  obtain ⟨h, h1, h2⟩ := dIs_iff.1 hi
  generalize hb : mLoad m (lBottom c w) = b
  have hbu := load_u hm (lBottom c w)
  have htu := load_u hm (lTop c w)
  have hd := h.dpos
  have tb := h.tb
  have ts := h.ts b
  have bs := h.bs b
  let M := mStore (mStore m (lSlot c w b) v) (lBottom c w) (wrapU (b + 1))
  have h' : Lay c (mStore m (lSlot c w b) v) w := h.store _ _
  have hM : Lay c M w := h'.store _ _
  have t' : mLoad M (lTop c w) = mLoad m (lTop c w) := by
    show mLoad (mStore (mStore m _ _) _ _) _ = _
    rw [load_other tb.symm, load_other ts.symm]
  have b' : mLoad M (lBottom c w) = wrapU (b + 1) := load_store h'.in_bottom _
  have n' : dNum c M w = dNum c m w + 1 := by
    unfold dNum at *
    rw [t', b', hb]
    rw [hb, far_eq (hb ▸ hbu) htu] at h1 h2 hn
    rw [far_eq (wrapU_u _) htu, far_eq (hb ▸ hbu) htu, wrapU_eq]
    rw [hb] at hbu
    unfold InU at hbu htu
    omega
  have hi' : dIs c M w = true := dIs_iff.2 ⟨hM, by omega, by omega⟩
  refine ⟨hi', ?_⟩
  show dList c M w = _
  rw [dList_eq hi', dList_eq hi, n', t']
  have e : (dNum c m w + 1).toNat = (dNum c m w).toNat + 1 := by omega
  rw [e, dRow_succ]
  have bw : wrapU (mLoad m (lTop c w) + ((dNum c m w).toNat : Int)) % 18446744073709551616 = b % 18446744073709551616 := by
    rw [wrapU_eq]
    unfold dNum at *
    rw [hb, far_eq (hb ▸ hbu) htu] at h1 h2 ⊢
    rw [hb] at hbu
    unfold InU at hbu htu
    omega
  have sb := slot_eq h bw
  congr 1
  · refine dRow_congr fun i hi => ?_
    show mLoad (mStore (mStore m _ _) _ _) _ = _
    rw [load_other (h.bs _), load_other]
    rw [← sb]
    exact slot_ne h htu (by omega) (by omega) (by omega)
  · rw [sb]
    show [mLoad (mStore (mStore m _ _) _ _) _] = _
    rw [load_other (h.bs _), load_store (h.in_slot _)]
end Go.Vai
/- Pushing: what the functions of the layer compute. -/
namespace Go.Vai
open Go.RowKit Go.Proofs
set_option linter.unusedSimpArgs false
set_option linter.unusedVariables false
set_option maxHeartbeats 4000000
set_option maxRecDepth 100000

theorem clone_pure (m : List Int) (hm : m.length ≤ 1000) : PureC Try.prog 44 [ms m] (ms m) := by
  refine pure_sub ok0 1 Try.func44 rfl (by show 1 ≤ _; decide) ?_
  have hb : m.length * 8 ≤ 140737488355328 := by omega
  have hle : m.length ≤ m.length := Nat.le_refl _
  cases m with
  | nil => simp only [Try.f44, hf_0, T25, hfree_lu, hfree_l0, row0, row1, row2, row3, row4, row5, shI_dec, shN_dec, shB_dec, shM_dec, dI, dN, dB, dM, dU, dU_map, iv, bv, u, ms, ctx_T, ctx_C, ctx_P, T4, T3, T26, Option.bind_some, Option.bind_none, Option.map_some, List.length_map, List.length_set, String.reduceBEq, Int.toNat_natCast, Bool.true_beq, Bool.false_beq, ev1, ev2, implies_true, undef, stepP, dynCall, ↓condE_t, ↓condE_f, ↓guardE_tt, ↓guardE_ff, ↓guardE_tf, ↓guardE_ft, frzDeep, deepArgs, deepArg, resB, cv, stepB, stepE, callD, tabD, snapD, snap1, snapC, snapId, snapIds, guardB, guardC, dstAt, aopR, one, pre, binR, intOpR, shiftOpR, unR, argFrm, evo, lkp, hlk, lenOf, asLst, idOf, bndA, srcOk, ofVal, ofCells, setCells, fillA, setElems, fieldsOf, fieldsEq, scalEq, isEq, AV.wr, AV.ok1, TK.agg, frz, frzs, frzA, frzArg, frzArgs, subA, subL, sub1, kp, kh, accOf, List.replicate, Nat.reduceAdd, Nat.reduceSub, Nat.reduceMul, Nat.reduceEqDiff, Nat.reduceLT, Nat.reduceLeDiff, Nat.reduceBEq, reduceIte, reduceCtorEq, eq_self, ne_eq, Int.reduceToNat, Int.reduceLT, Int.reduceLE, Int.reduceGT, Int.reduceGE, Int.reduceBEq, Int.reduceBNe, Int.reduceEq, Int.reduceNe]
  | cons a l =>
    have hn : ((a :: l).map u = []) = False := eq_false (by simp)
    generalize a :: l = l at *
    simp only [Try.f44, hn, hb, hle, take_u, hf_u, T25, hfree_lu, hfree_l0, row0, row1, row2, row3, row4, row5, shI_dec, shN_dec, shB_dec, shM_dec, dI, dN, dB, dM, dU, dU_map, iv, bv, u, ms, ctx_T, ctx_C, ctx_P, T4, T3, T26, Option.bind_some, Option.bind_none, Option.map_some, List.length_map, List.length_set, String.reduceBEq, Int.toNat_natCast, Bool.true_beq, Bool.false_beq, ev1, ev2, implies_true, undef, stepP, dynCall, ↓condE_t, ↓condE_f, ↓guardE_tt, ↓guardE_ff, ↓guardE_tf, ↓guardE_ft, frzDeep, deepArgs, deepArg, resB, cv, stepB, stepE, callD, tabD, snapD, snap1, snapC, snapId, snapIds, guardB, guardC, dstAt, aopR, one, pre, binR, intOpR, shiftOpR, unR, argFrm, evo, lkp, hlk, lenOf, asLst, idOf, bndA, srcOk, ofVal, ofCells, setCells, fillA, setElems, fieldsOf, fieldsEq, scalEq, isEq, AV.wr, AV.ok1, TK.agg, frz, frzs, frzA, frzArg, frzArgs, subA, subL, sub1, kp, kh, accOf, List.replicate, Nat.reduceAdd, Nat.reduceSub, Nat.reduceMul, Nat.reduceEqDiff, Nat.reduceLT, Nat.reduceLeDiff, Nat.reduceBEq, reduceIte, reduceCtorEq, eq_self, ne_eq, Int.reduceToNat, Int.reduceLT, Int.reduceLE, Int.reduceGT, Int.reduceGE, Int.reduceBEq, Int.reduceBNe, Int.reduceEq, Int.reduceNe]

def rowsPA : List Row := [
  (44, row1 shM fun m => some (ms m))] ++ rowsK ++ rowsLT ++ rowsG ++ rowsF
theorem rowsPA_ok : ∀ p ∈ rowsPA, RowOk Try.prog p := fun p h => by
  simp only [rowsPA, List.mem_append, List.mem_cons, List.not_mem_nil, or_false, false_or, or_assoc] at h
  rcases h with rfl | h | h | h | h
  · exact ok_row1 (enters_of Try.func44 (by decide) rfl) fun m r g e => by cases e; exact clone_pure m (shM_got g)
  · exact rowsK_ok p h
  · exact rowsLT_ok p h
  · exact rowsG_ok p h
  · exact rowsF_ok p h
theorem okPA : (ctx Try.prog rowsPA).ok := rows_ok rowsPA_ok
theorem PA_44 : tabC rowsPA 44 = row1 shM fun m => some (ms m) := rfl
theorem PA_57 : tabC rowsPA 57 = row4 shM shI shN shN fun m i v w => some (.tup [ms (mCas m i v w), bv (mCasB m i v)]) := rfl
theorem PA_45 : tabC rowsPA 45 = row2 shM shI fun m i => some (u (mLoad m i)) := rfl
theorem PA_51 : tabC rowsPA 51 = row3 shM shI shN fun m i v => some (ms (mStore m i v)) := rfl
theorem PA_49 : tabC rowsPA 49 = row4 shM shI shN shN fun m i v w => some (.tup [ms (mCas m i v w), bv (mCasB m i v)]) := rfl
theorem PA_53 : tabC rowsPA 53 = row2 shM shI fun m i => some (u (mLoad m i)) := rfl
theorem PA_21 : tabC rowsPA 21 = row2 shM shM fun a b => some (bv (decide (a = b))) := rfl
theorem PA_59 : tabC rowsPA 59 = row3 shM shI shN fun m i v => some (ms (mStore m i v)) := rfl
theorem PA_66 : tabC rowsPA 66 = row1 shC fun c => some (iv (lSize c)) := rfl
theorem PA_88 : tabC rowsPA 88 = row1 shC fun c => some (iv (lSize c)) := rfl
theorem PA_27 : tabC rowsPA 27 = row1 shC fun c => some (bv (mayC c)) := rfl
theorem PA_46 : tabC rowsPA 46 = row2 shN shN fun a b => some (iv (far a b)) := rfl
theorem PA_83 : tabC rowsPA 83 = row1 shC fun c => some (bv (mayC c)) := rfl
theorem PA_55 : tabC rowsPA 55 = row2 shN shN fun a b => some (iv (far a b)) := rfl
theorem PA_95 : tabC rowsPA 95 = row2 shC shI fun c w => if mayC c = true ∧ 0 ≤ w ∧ w ≤ 8 then some (iv (lBase c w)) else none := rfl
theorem PA_63 : tabC rowsPA 63 = fun _ => none := rfl
theorem PA_65 : tabC rowsPA 65 = fun _ => none := rfl
theorem PA_86 : tabC rowsPA 86 = row1 shF fun f => some (bv (f.res != 0)) := rfl
theorem PA_56 : tabC rowsPA 56 = row3 shF shI shN fun f r v => some (fv (fEnd f r v)) := rfl
theorem PA_22 : tabC rowsPA 22 = row2 shM shM fun a b => some (bv (decide (a = b))) := rfl
theorem PA_25 : tabC rowsPA 25 = row3 shI shI shN fun o w v => some (fv (fBegin o w v)) := rfl
theorem PA_31 : tabC rowsPA 31 = row1 shF fun f => some (bv (f.res != 0)) := rfl
theorem PA_48 : tabC rowsPA 48 = row3 shF shI shN fun f r v => some (fv (fEnd f r v)) := rfl
theorem PA_74 : tabC rowsPA 74 = fun _ => none := rfl
theorem PA_75 : tabC rowsPA 75 = fun _ => none := rfl
theorem PA_76 : tabC rowsPA 76 = fun _ => none := rfl
theorem PA_73 : tabC rowsPA 73 = fun _ => none := rfl
theorem PA_all : type_of% (And.intro PA_44 <| And.intro PA_57 <| And.intro PA_45 <| And.intro PA_51 <| And.intro PA_49 <| And.intro PA_53 <| And.intro PA_21 <| And.intro PA_59 <| And.intro PA_66 <| And.intro PA_88 <| And.intro PA_27 <| And.intro PA_46 <| And.intro PA_83 <| And.intro PA_55 <| And.intro PA_95 <| And.intro PA_63 <| And.intro PA_65 <| And.intro PA_86 <| And.intro PA_56 <| And.intro PA_22 <| And.intro PA_25 <| And.intro PA_31 <| And.intro PA_48 <| And.intro PA_74 <| And.intro PA_75 <| And.intro PA_76 <| PA_73) := And.intro PA_44 <| And.intro PA_57 <| And.intro PA_45 <| And.intro PA_51 <| And.intro PA_49 <| And.intro PA_53 <| And.intro PA_21 <| And.intro PA_59 <| And.intro PA_66 <| And.intro PA_88 <| And.intro PA_27 <| And.intro PA_46 <| And.intro PA_83 <| And.intro PA_55 <| And.intro PA_95 <| And.intro PA_63 <| And.intro PA_65 <| And.intro PA_86 <| And.intro PA_56 <| And.intro PA_22 <| And.intro PA_25 <| And.intro PA_31 <| And.intro PA_48 <| And.intro PA_74 <| And.intro PA_75 <| And.intro PA_76 <| PA_73

end Go.Vai
/- Deques by lists: a pop and a steal, alone. -/
namespace Go.Vai
open Go.RowKit
set_option linter.unusedVariables false
set_option linter.unusedSimpArgs false

theorem store_store {m : List Int} (i v w : Int) : mStore (mStore m i v) i w = mStore m i w := by
  unfold mStore
  cases h : isIn m i with
  | false => simp [h]
  | true =>
    have h' : isIn (m.set i.toNat v) i = true := by simpa [isIn] using h
    simp [h']
theorem store_same {m : List Int} {i : Int} : mStore m i (mLoad m i) = m := by
  unfold mStore
  split
  · rename_i h
    obtain ⟨_, _, h3⟩ := isIn_true h
    rw [load_in h, set_self h3]
  · rfl

theorem goes_o {c : Cf} {m : List Int} {w pc val x y : Int} (h : Lay c m w) (h0 : 0 ≤ pc) (h1 : pc < 7) : goes c m ⟨1, pc, w, val, x, y, 0⟩ 1 7 = true := goes_iff.2 ⟨h, rfl, rfl, h0, h1⟩
theorem goes_s {c : Cf} {m : List Int} {w pc val x y : Int} (h : Lay c m w) (h0 : 0 ≤ pc) (h1 : pc < 4) : goes c m ⟨2, pc, w, val, x, y, 0⟩ 2 4 = true := goes_iff.2 ⟨h, rfl, rfl, h0, h1⟩

section
variable {c : Cf} {m : List Int} {w v x y : Int}
theorem pop_1 (h : Lay c m w) : oStep c m ⟨1, 0, w, v, x, y, 0⟩ = (m, ⟨1, 1, w, v, wrapU (mLoad m (lBottom c w) - 1), y, 0⟩) := by
  simp [oStep, goes_o h]
theorem pop_2 (h : Lay c m w) : oStep c m ⟨1, 1, w, v, x, y, 0⟩ = (mStore m (lBottom c w) x, ⟨1, 2, w, v, x, y, 0⟩) := by
  simp [oStep, goes_o h]
theorem pop_3e (h : Lay c m w) (hf : far x (mLoad m (lTop c w)) < 0) : oStep c m ⟨1, 2, w, v, x, y, 0⟩ = (m, ⟨1, 6, w, v, x, mLoad m (lTop c w), 0⟩) := by
  simp [oStep, goes_o h, hf]
theorem pop_3 (h : Lay c m w) (hf : ¬ far x (mLoad m (lTop c w)) < 0) : oStep c m ⟨1, 2, w, v, x, y, 0⟩ = (m, ⟨1, 3, w, v, x, mLoad m (lTop c w), 0⟩) := by
  simp [oStep, goes_o h, hf]
theorem pop_4d (h : Lay c m w) (hf : x ≠ y) : oStep c m ⟨1, 3, w, v, x, y, 0⟩ = (m, ⟨1, 0, w, mLoad m (lSlot c w x), 0, 0, 1⟩) := by
  simp [oStep, goes_o h, hf, fEnd]
theorem pop_4 (h : Lay c m w) (hf : x = y) : oStep c m ⟨1, 3, w, v, x, y, 0⟩ = (m, ⟨1, 4, w, mLoad m (lSlot c w x), x, y, 0⟩) := by
  simp [oStep, goes_o h, hf]
theorem pop_5 (h : Lay c m w) : oStep c m ⟨1, 4, w, v, x, y, 0⟩ = (mCas m (lTop c w) y (wrapU (y + 1)), ⟨1, if mCasB m (lTop c w) y = true then 5 else 6, w, v, x, y, 0⟩) := by
  simp [oStep, goes_o h]
theorem pop_6 (h : Lay c m w) : oStep c m ⟨1, 5, w, v, x, y, 0⟩ = (mStore m (lBottom c w) (wrapU (x + 1)), ⟨1, 0, w, v, 0, 0, 1⟩) := by
  simp [oStep, goes_o h, fEnd]
theorem pop_7 (h : Lay c m w) : oStep c m ⟨1, 6, w, v, x, y, 0⟩ = (mStore m (lBottom c w) (wrapU (x + 1)), ⟨1, 0, w, 0, 0, 0, 3⟩) := by
  simp [oStep, goes_o h, fEnd]
theorem steal_1 (h : Lay c m w) : sStep c m ⟨2, 0, w, v, x, y, 0⟩ = (m, ⟨2, 1, w, v, x, mLoad m (lTop c w), 0⟩) := by
  simp [sStep, goes_s h]
theorem steal_2e (h : Lay c m w) (hf : far (mLoad m (lBottom c w)) y ≤ 0) : sStep c m ⟨2, 1, w, v, x, y, 0⟩ = (m, ⟨2, 0, w, 0, 0, 0, 3⟩) := by
  simp [sStep, goes_s h, hf, fEnd]
theorem steal_2 (h : Lay c m w) (hf : ¬ far (mLoad m (lBottom c w)) y ≤ 0) : sStep c m ⟨2, 1, w, v, x, y, 0⟩ = (m, ⟨2, 2, w, v, mLoad m (lBottom c w), y, 0⟩) := by
  simp [sStep, goes_s h, hf]
theorem steal_3 (h : Lay c m w) : sStep c m ⟨2, 2, w, v, x, y, 0⟩ = (m, ⟨2, 3, w, mLoad m (lSlot c w y), x, y, 0⟩) := by
  simp [sStep, goes_s h]
theorem steal_4 (h : Lay c m w) (hc : mCasB m (lTop c w) y = true) : sStep c m ⟨2, 3, w, v, x, y, 0⟩ = (mStore m (lTop c w) (wrapU (y + 1)), ⟨2, 0, w, v, 0, 0, 1⟩) := by
  simp [sStep, goes_s h, hc, fEnd, cas_store hc]
theorem steal_4a (h : Lay c m w) (hc : mCasB m (lTop c w) y = false) : sStep c m ⟨2, 3, w, v, x, y, 0⟩ = (m, ⟨2, 0, w, 0, 0, 0, 4⟩) := by
  simp [sStep, goes_s h, hc, fEnd]
theorem pop_over {f : Fr} (h : f.res ≠ 0) : oStep c m f = (m, f) := oStep_no (goes_over h)
theorem steal_over {f : Fr} (h : f.res ≠ 0) : sStep c m f = (m, f) := sStep_no (goes_over h)
theorem casB_top (h : Lay c m w) : mCasB m (lTop c w) (mLoad m (lTop c w)) = true := by simp [mCasB, h.in_top]
end

/-- What a deque is: its cells' two numbers, and how far they are apart. -/
structure Deq (c : Cf) (m : List Int) (w t b : Int) (n : Nat) : Prop where
  lay : Lay c m w
  top : mLoad m (lTop c w) = t
  bot : mLoad m (lBottom c w) = b
  tu : InU t
  bu : InU b
  num : b = wrapU (t + n)
  room : (n : Int) ≤ c.d

theorem deq_of {c : Cf} {m : List Int} {w : Int} (hm : InM m) (hi : dIs c m w = true) : Deq c m w (mLoad m (lTop c w)) (mLoad m (lBottom c w)) (dNum c m w).toNat := by
  obtain ⟨h, h1, h2⟩ := dIs_iff.1 hi
  have htu := load_u hm (lTop c w)
  have hbu := load_u hm (lBottom c w)
  refine ⟨h, rfl, rfl, htu, hbu, ?_, by omega⟩
  unfold dNum at *
  rw [far_eq hbu htu] at *
  rw [wrapU_eq]
  unfold InU at hbu htu
  omega

theorem Deq.is {c : Cf} {m : List Int} {w t b : Int} {n : Nat} (h : Deq c m w t b n) : dNum c m w = n ∧ dIs c m w = true ∧ dList c m w = dRow c m w t n := by
  have hn : dNum c m w = n := by
    unfold dNum
    rw [h.top, h.bot, far_eq h.bu h.tu]
    have e := h.num
    rw [wrapU_eq] at e
    have h1 := h.tu
    have h2 := h.bu
    have h3 := h.room
    have h4 := h.lay.dpos
    unfold InU at h1 h2
    omega
  have hi : dIs c m w = true := dIs_iff.2 ⟨h.lay, by omega, by rw [hn]; exact h.room⟩
  refine ⟨hn, hi, ?_⟩
  rw [dList_eq hi, hn, h.top]
  congr 1

theorem dList_of {c : Cf} {m : List Int} {w : Int} (hi : dIs c m w = true) : dList c m w = dRow c m w (mLoad m (lTop c w)) (dNum c m w).toNat := dList_eq hi

/-- The bottom is set. -/
theorem Deq.setBottom {c : Cf} {m : List Int} {w t b : Int} {n k : Nat} (h : Deq c m w t b n) (hk : (k : Int) ≤ c.d) : Deq c (mStore m (lBottom c w) (wrapU (t + k))) w t (wrapU (t + k)) k where
  lay := h.lay.store _ _
  top := by rw [load_other h.lay.tb.symm, h.top]
  bot := load_store h.lay.in_bottom _
  tu := h.tu
  bu := wrapU_u _
  num := rfl
  room := hk
/-- The top goes on by one. -/
theorem Deq.incTop {c : Cf} {m : List Int} {w t b : Int} {n : Nat} (h : Deq c m w t b (n + 1)) : Deq c (mStore m (lTop c w) (wrapU (t + 1))) w (wrapU (t + 1)) b n where
  lay := h.lay.store _ _
  top := load_store h.lay.in_top _
  bot := by rw [load_other h.lay.tb, h.bot]
  tu := wrapU_u _
  bu := h.bu
  num := by
    have e := h.num
    rw [wrapU_eq] at e
    rw [e, wrapU_eq, wrapU_eq]
    omega
  room := by have := h.room; omega
/-- A slot is set. -/
theorem Deq.setSlot {c : Cf} {m : List Int} {w t b : Int} {n : Nat} (h : Deq c m w t b n) (x v : Int) : Deq c (mStore m (lSlot c w x) v) w t b n where
  lay := h.lay.store _ _
  top := by rw [load_other (h.lay.ts x).symm, h.top]
  bot := by rw [load_other (h.lay.bs x).symm, h.bot]
  tu := h.tu
  bu := h.bu
  num := h.num
  room := h.room

theorem row_bottom {c : Cf} {m : List Int} {w t : Int} (h : Lay c m w) (n : Nat) (v : Int) : dRow c (mStore m (lBottom c w) v) w t n = dRow c m w t n :=
  dRow_congr fun i _ => load_other (h.bs _) _
theorem row_top {c : Cf} {m : List Int} {w t : Int} (h : Lay c m w) (n : Nat) (v : Int) : dRow c (mStore m (lTop c w) v) w t n = dRow c m w t n :=
  dRow_congr fun i _ => load_other (h.ts _) _
theorem row_slot {c : Cf} {m : List Int} {w t : Int} (h : Lay c m w) (ht : InU t) {n k : Nat} (hn : (n : Int) ≤ c.d) (hk : (k : Int) < c.d) (hnk : n ≤ k) (v : Int) : dRow c (mStore m (lSlot c w (wrapU (t + k))) v) w t n = dRow c m w t n :=
  dRow_congr fun i hi => load_other (slot_ne h ht hk (by omega) (by omega)) _
theorem row_take {c : Cf} {m : List Int} {w t : Int} {n k : Nat} (h : k ≤ n) : (dRow c m w t n).take k = dRow c m w t k := by
  simp only [dRow, ← List.map_take, List.take_range]
  congr 2
  omega
end Go.Vai
/- Deques by lists: what a push leaves as it is. -/
namespace Go.Vai
open Go.RowKit
set_option linter.unusedVariables false
set_option linter.unusedSimpArgs false

theorem list_congr {c : Cf} {m m' : List Int} {k : Int} (hl : m'.length = m.length) (h : Lay c m k → mLoad m' (lTop c k) = mLoad m (lTop c k) ∧ mLoad m' (lBottom c k) = mLoad m (lBottom c k) ∧ ∀ x, mLoad m' (lSlot c k x) = mLoad m (lSlot c k x)) :
    dIs c m' k = dIs c m k ∧ dList c m' k = dList c m k := by
  by_cases hL : Lay c m k
  · obtain ⟨h1, h2, h3⟩ := h hL
    have hn : dNum c m' k = dNum c m k := by unfold dNum; rw [h1, h2]
    have hi : dIs c m' k = dIs c m k := by unfold dIs; rw [hn, hl]
    refine ⟨hi, ?_⟩
    cases e : dIs c m k with
    | false =>
      rw [e] at hi
      simp [dList, e, hi]
    | true =>
      rw [e] at hi
      rw [dList_eq e, dList_eq hi, hn, h1]
      exact dRow_congr fun i _ => h3 _
  · have a : dIs c m k = false := by rw [Bool.eq_false_iff]; intro e; exact hL (dIs_iff.1 e).1
    have b : dIs c m' k = false := by
      rw [Bool.eq_false_iff]; intro e
      have := (dIs_iff.1 e).1
      exact hL ⟨this.may, by rw [← hl]; exact this.len, this.lo, this.hi⟩
    exact ⟨by rw [a, b], by simp [dList, a, b]⟩

/-- A store at another worker's cells. -/
theorem list_other {c : Cf} {m : List Int} {w k i v : Int} (hw : Lay c m w) (hne : w ≠ k) (hi : lBase c w ≤ i ∧ i < lBase c w + 3 + c.d) :
    dIs c (mStore m i v) k = dIs c m k ∧ dList c (mStore m i v) k = dList c m k := by
  refine list_congr (len_store ..) fun hk => ?_
  have ha := hw.apart hk hne
  have hs : ∀ x, lBase c k ≤ lSlot c k x ∧ lSlot c k x < lBase c k + 3 + c.d := by
    intro x
    rw [hk.slot]
    rcases hk.dpos with e | e | e | e | e <;> rw [e] <;> omega
  have hd := hk.dpos
  refine ⟨load_other ?_ _, load_other ?_ _, fun x => load_other ?_ _⟩
  · rw [hk.top]; omega
  · rw [hk.bottom]; omega
  · have := hs x; omega

theorem top_at {c : Cf} {m : List Int} {w : Int} (h : Lay c m w) : lBase c w ≤ lTop c w ∧ lTop c w < lBase c w + 3 + c.d := by
  have := h.dpos; rw [h.top]; omega
theorem bottom_at {c : Cf} {m : List Int} {w : Int} (h : Lay c m w) : lBase c w ≤ lBottom c w ∧ lBottom c w < lBase c w + 3 + c.d := by
  have := h.dpos; rw [h.bottom]; omega
theorem slot_at {c : Cf} {m : List Int} {w : Int} (h : Lay c m w) (x : Int) : lBase c w ≤ lSlot c w x ∧ lSlot c w x < lBase c w + 3 + c.d := by
  rw [h.slot]
  rcases h.dpos with e | e | e | e | e <;> rw [e] <;> omega

/-- Ahead of its last step a push is not seen. -/
theorem push_seen {c : Cf} {m : List Int} {w v : Int} (hm : InM m) (hi : dIs c m w = true) (hn : dNum c m w < c.d) :
    dIs c (mStore m (lSlot c w (mLoad m (lBottom c w))) v) w = true ∧ dList c (mStore m (lSlot c w (mLoad m (lBottom c w))) v) w = dList c m w := by
  have D := deq_of hm hi
  obtain ⟨h, h1, h2⟩ := dIs_iff.1 hi
  obtain ⟨a1, a2, a3⟩ := D.is
  obtain ⟨b1, b2, b3⟩ := (D.setSlot (mLoad m (lBottom c w)) v).is
  refine ⟨b2, ?_⟩
  rw [b3, a3]
  have e := D.num
  conv => lhs; rw [e]
  exact row_slot h D.tu D.room (by omega) (Nat.le_refl _) v

theorem list_len {c : Cf} {m : List Int} {w : Int} (hi : dIs c m w = true) : ((dList c m w).length : Int) = dNum c m w := by
  obtain ⟨h, h1, h2⟩ := dIs_iff.1 hi
  rw [dList_eq hi, dRow_len]; omega

/-- Four steps of a push, alone: the states, and what comes of it. -/
theorem push_alone {c : Cf} {m : List Int} {w v : Int} (hm : InM m) (hi : dIs c m w = true) :
    ∃ m1 f1 m2 f2 m3 f3 m4 f4, pStep c m ⟨0, 0, w, v, 0, 0, 0⟩ = (m1, f1) ∧ pStep c m1 f1 = (m2, f2) ∧ pStep c m2 f2 = (m3, f3) ∧ pStep c m3 f3 = (m4, f4) ∧
      m1.length = m.length ∧ m2.length = m.length ∧ m3.length = m.length ∧ m4.length = m.length ∧
      dIs c m4 w = true ∧ fOnce (dList c m w) c.d ⟨0, 0, w, v, 0, 0, 0⟩ = (dList c m4 w, f4) := by
  obtain ⟨h, h1, h2⟩ := dIs_iff.1 hi
  have hl := list_len hi
  have hw := dNum_wrap hm h1
  by_cases hn : dNum c m w < c.d
  · obtain ⟨k1, k2⟩ := push_list (v := v) hm hi hn
    have hs : Lay c (mStore m (lSlot c w (mLoad m (lBottom c w))) v) w := h.store _ _
    refine ⟨_, _, _, _, _, _, _, _, push_1 h, push_2 h (by rw [hw]; omega), push_3 h, push_4 hs, rfl, rfl, len_store .., by rw [len_store, len_store], k1, ?_⟩
    rw [k2]
    simp [fOnce, fEnd, show ¬ c.d ≤ ((dList c m w).length : Int) by omega]
  · refine ⟨_, _, _, _, _, _, _, _, push_1 h, push_2f h (by rw [hw]; omega), push_over (by simp), push_over (by simp), rfl, rfl, rfl, rfl, hi, ?_⟩
    simp [fOnce, fEnd, show c.d ≤ ((dList c m w).length : Int) by omega]

/-- Four steps of a push at another worker's deque. -/
theorem push_other {c : Cf} {m : List Int} {w v k : Int} (hne : k ≠ w) :
    ∃ m1 f1 m2 f2 m3 f3 m4 f4, pStep c m ⟨0, 0, w, v, 0, 0, 0⟩ = (m1, f1) ∧ pStep c m1 f1 = (m2, f2) ∧ pStep c m2 f2 = (m3, f3) ∧ pStep c m3 f3 = (m4, f4) ∧
      m1.length = m.length ∧ m2.length = m.length ∧ m3.length = m.length ∧ m4.length = m.length ∧ dIs c m4 k = dIs c m k ∧ dList c m4 k = dList c m k := by
  by_cases h : Lay c m w
  · by_cases hf : c.d ≤ wrapU (mLoad m (lBottom c w) - mLoad m (lTop c w))
    · exact ⟨_, _, _, _, _, _, _, _, push_1 h, push_2f h hf, push_over (by simp), push_over (by simp), rfl, rfl, rfl, rfl, rfl, rfl⟩
    · have hs : Lay c (mStore m (lSlot c w (mLoad m (lBottom c w))) v) w := h.store _ _
      have o1 := list_other (v := v) h hne.symm (slot_at h (mLoad m (lBottom c w)))
      have o2 := list_other (v := wrapU (mLoad m (lBottom c w) + 1)) hs hne.symm (bottom_at h)
      refine ⟨_, _, _, _, _, _, _, _, push_1 h, push_2 h hf, push_3 h, push_4 hs, rfl, rfl, len_store .., by rw [len_store, len_store], o2.1.trans o1.1, o2.2.trans o1.2⟩
  · have s : pStep c m ⟨0, 0, w, v, 0, 0, 0⟩ = (m, ⟨0, 0, w, v, 0, 0, 0⟩) := pStep_no (goes_lay h)
    exact ⟨_, _, _, _, _, _, _, _, s, s, s, s, rfl, rfl, rfl, rfl, rfl, rfl⟩
end Go.Vai
/- In how many cells two lists differ, and in which one last. -/
namespace Go.Vai
open Go.RowKit
set_option linter.unusedVariables false
set_option linter.unusedSimpArgs false

def cntD (a m : List Int) : Nat → Int × Int
  | 0 => (0, -1)
  | i + 1 => if (a.getD i 0 != m.getD i 0) = true then ((cntD a m i).1 + 1, i) else cntD a m i

theorem cntD_le (a m : List Int) : ∀ i, 0 ≤ (cntD a m i).1 ∧ (cntD a m i).1 ≤ i
  | 0 => by simp [cntD]
  | i + 1 => by
    have := cntD_le a m i
    unfold cntD
    split
    · dsimp only; omega
    · omega
theorem cntD_eq {a m : List Int} (h : ∀ k, a.getD k 0 = m.getD k 0) : ∀ i, cntD a m i = (0, -1)
  | 0 => rfl
  | i + 1 => by unfold cntD; rw [if_neg (by rw [h i]; simp), cntD_eq h i]
theorem cntD_one {a m : List Int} {j : Nat} (h : ∀ k, k ≠ j → a.getD k 0 = m.getD k 0) (hj : a.getD j 0 ≠ m.getD j 0) : ∀ i, cntD a m i = if j < i then (1, (j : Int)) else (0, -1)
  | 0 => rfl
  | i + 1 => by
    unfold cntD
    rw [cntD_one h hj i]
    by_cases e : i = j
    · subst e
      rw [if_pos (by simpa using hj), if_neg (Nat.lt_irrefl _), if_pos (Nat.lt_succ_self _)]
      rfl
    · rw [if_neg (by rw [h i e]; simp)]
      by_cases l : j < i
      · rw [if_pos l, if_pos (by omega)]
      · rw [if_neg l, if_neg (by omega)]

theorem cnt_same (m : List Int) : cntD m m m.length = (0, -1) := cntD_eq (fun _ => rfl) _
/-- A store: nothing differs, or that cell alone. -/
theorem cnt_store {m : List Int} {k v : Int} (h : isIn m k = true) : cntD (mStore m k v) m m.length = (0, -1) ∨ cntD (mStore m k v) m m.length = (1, k) := by
  obtain ⟨h1, h2, h3⟩ := isIn_true h
  have e : mStore m k v = m.set k.toNat v := by simp [mStore, h]
  have ho : ∀ j, j ≠ k.toNat → (mStore m k v).getD j 0 = m.getD j 0 := by
    intro j hj
    rw [e]
    simp [List.getD_eq_getElem?_getD, List.getElem?_set, hj.symm]
  by_cases hv : (mStore m k v).getD k.toNat 0 = m.getD k.toNat 0
  · left
    refine cntD_eq (fun j => ?_) _
    by_cases hj : j = k.toNat
    · rw [hj]; exact hv
    · exact ho j hj
  · right
    rw [cntD_one ho hv, if_pos h3]
    congr 1
    omega
end Go.Vai
/- Deques by lists: pops and steals alone. -/
namespace Go.Vai
open Go.RowKit
set_option linter.unusedVariables false
set_option linter.unusedSimpArgs false

/-- Steps, one behind the other. -/
def run (st : List Int → Fr → List Int × Fr) : Nat → List Int × Fr → List Int × Fr
  | 0, s => s
  | k + 1, s => run st k (st s.1 s.2)
theorem run_succ (st : List Int → Fr → List Int × Fr) (k : Nat) (m : List Int) (f : Fr) : run st (k + 1) (m, f) = run st k (st m f) := rfl
theorem run_pop_over {c : Cf} {m : List Int} {f : Fr} (h : f.res ≠ 0) : ∀ k, run (oStep c) k (m, f) = (m, f)
  | 0 => rfl
  | k + 1 => by rw [run_succ, pop_over h]; exact run_pop_over h k
theorem run_steal_over {c : Cf} {m : List Int} {f : Fr} (h : f.res ≠ 0) : ∀ k, run (sStep c) k (m, f) = (m, f)
  | 0 => rfl
  | k + 1 => by rw [run_succ, steal_over h]; exact run_steal_over h k

/-- What a pop, alone, comes to. -/
structure Popped (c : Cf) (m : List Int) (w : Int) (s : List Int × Fr) : Prop where
  is : dIs c s.1 w = true
  once : fOnce (dList c m w) c.d ⟨1, 0, w, 0, 0, 0, 0⟩ = (dList c s.1 w, s.2)
  inm : InM s.1

theorem pop_alone {c : Cf} {m : List Int} {w : Int} (hm : InM m) (hi : dIs c m w = true) : Popped c m w (run (oStep c) 7 (m, ⟨1, 0, w, 0, 0, 0, 0⟩)) := by
  have D := deq_of hm hi
  generalize hn : (dNum c m w).toNat = n at D
  generalize ht : mLoad m (lTop c w) = t at D
  generalize hb : mLoad m (lBottom c w) = b at D
  have h := D.lay
  obtain ⟨_, _, hL⟩ := D.is
  have htu := D.tu
  have hbu := D.bu
  have hnum := D.num
  have hroom := D.room
  have hd := h.dpos
  have h16 : c.d ≤ 16 := by omega
  rw [run_succ, pop_1 h, run_succ, pop_2 h, hb]
  cases n with
  | zero =>
    have hx : wrapU (wrapU (b - 1) + 1) = b := by rw [wrapU_eq, wrapU_eq]; unfold InU at hbu; omega
    have h' : Lay c (mStore m (lBottom c w) (wrapU (b - 1))) w := h.store _ _
    have ht' : mLoad (mStore m (lBottom c w) (wrapU (b - 1))) (lTop c w) = t := by rw [load_other h.tb.symm, ht]
    have hf : far (wrapU (b - 1)) (mLoad (mStore m (lBottom c w) (wrapU (b - 1))) (lTop c w)) < 0 := by
      rw [ht', far_eq (wrapU_u _) htu, wrapU_eq]
      rw [wrapU_eq] at hnum
      unfold InU at hbu htu
      omega
    rw [run_succ, pop_3e h' hf, run_succ, pop_7 h', run_pop_over (by simp), hx]
    have e : mStore (mStore m (lBottom c w) (wrapU (b - 1))) (lBottom c w) b = m := by rw [store_store, ← hb, store_same]
    refine ⟨?_, ?_, ?_⟩ <;> dsimp only <;> rw [e]
    · exact hi
    · rw [hL]; rfl
    · exact hm
  | succ k =>
    have hx : wrapU (b - 1) = wrapU (t + k) := by rw [wrapU_eq, wrapU_eq]; rw [wrapU_eq] at hnum; omega
    rw [hx]
    have D1 := D.setBottom (k := k) (by omega)
    have h' := D1.lay
    have hf : ¬ far (wrapU (t + k)) (mLoad (mStore m (lBottom c w) (wrapU (t + k))) (lTop c w)) < 0 := by
      rw [D1.top, far_eq (wrapU_u _) htu, wrapU_eq]
      unfold InU at htu
      omega
    rw [run_succ, pop_3 h' hf, run_succ, D1.top]
    have hm1 : InM (mStore m (lBottom c w) (wrapU (t + k))) := store_u hm (wrapU_u _)
    have hv : mLoad (mStore m (lBottom c w) (wrapU (t + k))) (lSlot c w (wrapU (t + k))) = (dList c m w).getD k 0 := by
      rw [load_other (h.bs _), hL, dRow_get (by omega)]
    have hlen : (dList c m w).length = k + 1 := by rw [hL, dRow_len]
    have hne : dList c m w ≠ [] := by intro e; rw [e] at hlen; simp at hlen
    have honce : fOnce (dList c m w) c.d ⟨1, 0, w, 0, 0, 0, 0⟩ = ((dList c m w).take k, ⟨1, 0, w, (dList c m w).getD k 0, 0, 0, 1⟩) := by
      simp [fOnce, fEnd, hne, hlen]
    have htk : (dList c m w).take k = dRow c m w t k := by rw [hL, row_take (by omega)]
    by_cases hk : k = 0
    · subst hk
      have hx0 : wrapU (t + ((0 : Nat) : Int)) = t := by rw [wrapU_eq]; unfold InU at htu; omega
      rw [hx0] at hv D1 h' hm1 ⊢
      rw [pop_4 h' rfl, run_succ, pop_5 h']
      have hcas : mCasB (mStore m (lBottom c w) t) (lTop c w) t = true := by
        have := casB_top h'
        rw [D1.top] at this
        exact this
      rw [cas_store hcas, if_pos hcas, run_succ]
      have h2 : Lay c (mStore (mStore m (lBottom c w) t) (lTop c w) (wrapU (t + 1))) w := h'.store _ _
      rw [pop_6 h2, run_pop_over (by simp), hv]
      have D3 : Deq c (mStore (mStore (mStore m (lBottom c w) t) (lTop c w) (wrapU (t + 1))) (lBottom c w) (wrapU (t + 1))) w (wrapU (t + 1)) (wrapU (t + 1)) 0 :=
        { lay := h2.store _ _, top := by rw [load_other h.tb.symm, load_store h'.in_top], bot := load_store h2.in_bottom _, tu := wrapU_u _, bu := wrapU_u _,
          num := by rw [wrapU_eq, wrapU_eq]; omega, room := by omega }
      obtain ⟨_, i3, l3⟩ := D3.is
      refine ⟨i3, ?_, store_u (store_u hm1 (wrapU_u _)) (wrapU_u _)⟩
      dsimp only
      rw [honce, l3]
      rfl
    · have hxy : wrapU (t + (k : Int)) ≠ t := by rw [wrapU_eq]; unfold InU at htu; omega
      rw [pop_4d h' hxy, run_pop_over (by simp), hv]
      obtain ⟨_, i1, l1⟩ := D1.is
      refine ⟨i1, ?_, hm1⟩
      dsimp only
      rw [honce, l1, row_bottom h, htk]

/-- Whatever the deque is like. -/
theorem pop_ends {c : Cf} {m : List Int} {w : Int} (h : Lay c m w) : ∃ m' v, run (oStep c) 7 (m, ⟨1, 0, w, 0, 0, 0, 0⟩) = (m', ⟨1, 0, w, v, 0, 0, 1⟩) ∨ run (oStep c) 7 (m, ⟨1, 0, w, 0, 0, 0, 0⟩) = (m', ⟨1, 0, w, 0, 0, 0, 3⟩) := by
  rw [run_succ, pop_1 h, run_succ, pop_2 h, run_succ]
  generalize wrapU (mLoad m (lBottom c w) - 1) = x
  have h' : Lay c (mStore m (lBottom c w) x) w := h.store _ _
  by_cases hf : far x (mLoad (mStore m (lBottom c w) x) (lTop c w)) < 0
  · rw [pop_3e h' hf, run_succ, pop_7 h', run_pop_over (by simp)]
    exact ⟨_, 0, .inr rfl⟩
  · rw [pop_3 h' hf, run_succ]
    generalize hy : mLoad (mStore m (lBottom c w) x) (lTop c w) = y
    by_cases he : x = y
    · subst he
      rw [pop_4 h' rfl, run_succ, pop_5 h']
      have hcas : mCasB (mStore m (lBottom c w) x) (lTop c w) x = true := by
        have := casB_top h'
        rw [hy] at this
        exact this
      rw [cas_store hcas, if_pos hcas, run_succ, pop_6 (h'.store _ _), run_pop_over (by simp)]
      exact ⟨_, _, .inl rfl⟩
    · rw [pop_4d h' he, run_pop_over (by simp)]
      exact ⟨_, _, .inl rfl⟩

theorem fr_once_pop {c : Cf} {l : List Int} {w v : Int} : fOnce (l ++ [v]) c.d ⟨1, 0, w, 0, 0, 0, 0⟩ = (l, ⟨1, 0, w, v, 0, 0, 1⟩) := by simp [fOnce, fEnd]
end Go.Vai
