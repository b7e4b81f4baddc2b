/- The laws of the cells, walked. -/
import Derived.Test.YtegfjolkcaoonaaC3
namespace Go.Vai
open Go.RowKit Go.Proofs
set_option linter.unusedSimpArgs false
set_option linter.unusedVariables false
set_option maxHeartbeats 4000000
set_option maxRecDepth 100000

theorem store_out {m : List Int} {i : Int} (h : isIn m i = false) (v : Int) : mStore m i v = m := by simp [mStore, h]
theorem load_out {m : List Int} {i : Int} (h : isIn m i = false) : mLoad m i = 0 := by simp [mLoad, h]
theorem load_in {m : List Int} {i : Int} (h : isIn m i = true) : mLoad m i = m.getD i.toNat 0 := by simp [mLoad, h]
theorem in_store (m : List Int) (i v k : Int) : isIn (mStore m i v) k = isIn m k := by simp [isIn, len_store]
theorem load_store {m : List Int} {i : Int} (h : isIn m i = true) (v : Int) : mLoad (mStore m i v) i = v := by
  obtain ⟨_, _, h3⟩ := isIn_true h
  rw [load_in (by rw [in_store]; exact h)]
  simp [mStore, h, h3]
theorem load_other {m : List Int} {i k : Int} (h : i ≠ k) (v : Int) : mLoad (mStore m i v) k = mLoad m k := by
  unfold mLoad
  rw [in_store]
  split
  · rename_i hk
    obtain ⟨h1, h2, h3⟩ := isIn_true hk
    unfold mStore
    split
    · rename_i hi
      obtain ⟨g1, g2, g3⟩ := isIn_true hi
      have : i.toNat ≠ k.toNat := by omega
      simp [List.getD_eq_getElem?_getD, List.getElem?_set_ne this]
    · rfl
  · rfl
theorem store_in {m : List Int} {i : Int} (h : isIn m i = true) (v : Int) : mStore m i v = m.set i.toNat v := by simp [mStore, h]
theorem store_store {m : List Int} (i v w : Int) : mStore (mStore m i v) i w = mStore m i w := by
  cases h : isIn m i with
  | false => rw [store_out h, store_out h]
  | true =>
    have h' : isIn (mStore m i v) i = true := by rw [in_store]; exact h
    rw [store_in h' w, store_in h v, store_in h w, List.set_set]
theorem store_comm {m : List Int} {i k : Int} (h : i ≠ k) (v w : Int) : mStore (mStore m i v) k w = mStore (mStore m k w) i v := by
  cases hi : isIn m i with
  | false => rw [store_out hi v, store_out (show isIn (mStore m k w) i = false by rw [in_store]; exact hi) v]
  | true => cases hk : isIn m k with
    | false => rw [store_out hk w, store_out (show isIn (mStore m i v) k = false by rw [in_store]; exact hk) w]
    | true =>
      obtain ⟨h1, h2, h3⟩ := isIn_true hi
      obtain ⟨g1, g2, g3⟩ := isIn_true hk
      rw [store_in (show isIn (mStore m i v) k = true by rw [in_store]; exact hk) w, store_in hi v,
        store_in (show isIn (mStore m k w) i = true by rw [in_store]; exact hi) v, store_in hk w, List.set_comm]
      omega

theorem load_law (m : List Int) (i v w : Int) : PureC Try.prog 13 [ms m, iv i, u v, u w] (bv true) := by
  refine pure_sub ok3 1 Try.func13 rfl (by show 4 ≤ _; decide) ?_
  by_cases hm : m.length ≤ 500
  · have hm' : m.length ≤ 1000 := by omega
    have hm2 : ¬ (m.length : Int) > 500 := by omega
    cases hin : isIn m i with
    | false =>
      have s := store_out hin
      have l := load_out hin
      by_cases h0 : i < 0
      · simp only [Try.f13, rows3, rows2, hm', hm2, s, l, h0, ms, iv, bv, u, ctx_T, ctx_C, ctx_P, T4, T3, T23, T38, tabC, List.lookup_cons, List.lookup_nil, Option.bind_some, Option.bind_none, Option.map_some, rMI, rMIU, rMIUU, rMM, dM, dU, dU_map, List.length_map, List.length_set, len_store, len_add, len_cas, String.reduceBEq, Int.toNat_natCast, Bool.true_beq, Bool.false_beq, r_step, r_put, r_put0, r_after, r_guard0, r_guard, r_nil, r_cons, r_stepD, r_afterD0, r_afterD1, r_afterD2, r_nilD, r_consD, r_skip, r_text, r_draw, r_seq, r_cond, r_block, r_loop, r_exit, r_scope, r_label, r_goto, r_ret, r_condB, r_condT, r_condF, ↓condE_t, ↓condE_f, condE_any, ↓guardE_tt, ↓guardE_ff, ↓guardE_tf, ↓guardE_ft, guardE_any, r_then, r_thenR, r_thenE, r_thenG, r_blkN, r_blkR, r_blkG, r_blkE, r_scpN, r_scpR, r_scpE, r_bodyR, r_bodyN, r_ret1, r_call, r_callC, r_callI, r_callE, r_callJ, r_callV, r_again, resB, cv, stepB, stepE, callD, tabD, guardB, guardC, dstAt, aopR, one, pre, binR, intOpR, shiftOpR, unR, argFrm, evo, lkp, hlk, lenOf, asLst, idOf, bndA, srcOk, ofVal, ofCells, setCells, fillA, setElems, fieldsOf, fieldsEq, scalEq, isEq, cells_agg, cells_v, cells_lst, cells_ptr, cells_arr, cells_fn, AV.wr, AV.ok1, TK.agg, frz, frzs, frzA, frzArg, frzArgs, subA, subL, sub1, kp, kh, entryOk_nil, accOf, List.toList_toArray, List.length_cons, List.length_nil, List.nil_append, List.cons_append, List.append_nil, List.map_nil, List.map_cons, List.getD_cons_zero, List.getD_cons_succ, List.drop_zero, List.drop_succ_cons, List.take_succ_cons, List.take_zero, List.all_cons, List.all_nil, List.getElem?_cons_zero, List.getElem?_cons_succ, List.headD_cons, List.set_cons_zero, List.set_cons_succ, Option.map_some, Option.map_none, Option.isSome_some, Option.isSome_none, List.replicate, Nat.zero_add, Nat.add_zero, Int.toNat_zero, Nat.zero_le, Nat.reduceAdd, Nat.reduceSub, Nat.reduceMul, Nat.reduceEqDiff, Nat.reduceLT, Nat.reduceLeDiff, Nat.reduceBEq, reduceIte, reduceCtorEq, eq_self, if_true, if_false, true_and, and_true, false_and, and_false, true_implies, false_implies, implies_true, Bool.not_true, Bool.not_false, Bool.and_true, Bool.true_and, decide_true, decide_false, Bool.false_eq_true, ne_eq, not_false_eq_true, not_true_eq_false, Bool.true_eq_false, Bool.not_eq_true, List.cons_ne_nil, Nat.lt_irrefl, beq_self_eq_true, Int.reduceToNat, Int.reduceLT, Int.reduceLE]
      · have h1 : i ≥ (m.length : Int) := by have := isIn_false hin (by omega); omega
        simp only [Try.f13, rows3, rows2, hm', hm2, s, l, h0, h1, ms, iv, bv, u, ctx_T, ctx_C, ctx_P, T4, T3, T23, T38, tabC, List.lookup_cons, List.lookup_nil, Option.bind_some, Option.bind_none, Option.map_some, rMI, rMIU, rMIUU, rMM, dM, dU, dU_map, List.length_map, List.length_set, len_store, len_add, len_cas, String.reduceBEq, Int.toNat_natCast, Bool.true_beq, Bool.false_beq, r_step, r_put, r_put0, r_after, r_guard0, r_guard, r_nil, r_cons, r_stepD, r_afterD0, r_afterD1, r_afterD2, r_nilD, r_consD, r_skip, r_text, r_draw, r_seq, r_cond, r_block, r_loop, r_exit, r_scope, r_label, r_goto, r_ret, r_condB, r_condT, r_condF, ↓condE_t, ↓condE_f, condE_any, ↓guardE_tt, ↓guardE_ff, ↓guardE_tf, ↓guardE_ft, guardE_any, r_then, r_thenR, r_thenE, r_thenG, r_blkN, r_blkR, r_blkG, r_blkE, r_scpN, r_scpR, r_scpE, r_bodyR, r_bodyN, r_ret1, r_call, r_callC, r_callI, r_callE, r_callJ, r_callV, r_again, resB, cv, stepB, stepE, callD, tabD, guardB, guardC, dstAt, aopR, one, pre, binR, intOpR, shiftOpR, unR, argFrm, evo, lkp, hlk, lenOf, asLst, idOf, bndA, srcOk, ofVal, ofCells, setCells, fillA, setElems, fieldsOf, fieldsEq, scalEq, isEq, cells_agg, cells_v, cells_lst, cells_ptr, cells_arr, cells_fn, AV.wr, AV.ok1, TK.agg, frz, frzs, frzA, frzArg, frzArgs, subA, subL, sub1, kp, kh, entryOk_nil, accOf, List.toList_toArray, List.length_cons, List.length_nil, List.nil_append, List.cons_append, List.append_nil, List.map_nil, List.map_cons, List.getD_cons_zero, List.getD_cons_succ, List.drop_zero, List.drop_succ_cons, List.take_succ_cons, List.take_zero, List.all_cons, List.all_nil, List.getElem?_cons_zero, List.getElem?_cons_succ, List.headD_cons, List.set_cons_zero, List.set_cons_succ, Option.map_some, Option.map_none, Option.isSome_some, Option.isSome_none, List.replicate, Nat.zero_add, Nat.add_zero, Int.toNat_zero, Nat.zero_le, Nat.reduceAdd, Nat.reduceSub, Nat.reduceMul, Nat.reduceEqDiff, Nat.reduceLT, Nat.reduceLeDiff, Nat.reduceBEq, reduceIte, reduceCtorEq, eq_self, if_true, if_false, true_and, and_true, false_and, and_false, true_implies, false_implies, implies_true, Bool.not_true, Bool.not_false, Bool.and_true, Bool.true_and, decide_true, decide_false, Bool.false_eq_true, ne_eq, not_false_eq_true, not_true_eq_false, Bool.true_eq_false, Bool.not_eq_true, List.cons_ne_nil, Nat.lt_irrefl, beq_self_eq_true, Int.reduceToNat, Int.reduceLT, Int.reduceLE]
    | true =>
      obtain ⟨h1, h2, h3⟩ := isIn_true hin
      have h4 : ¬ i < 0 := by omega
      have h5 : ¬ i ≥ (m.length : Int) := by omega
      have s := store_store (m := m) i v w
      have l := load_in hin
      have l2 := load_store hin w
      simp only [Try.f13, rows3, rows2, hm', hm2, s, l, l2, h1, h2, h3, h4, h5, getD_u, ms, iv, bv, u, ctx_T, ctx_C, ctx_P, T4, T3, T23, T38, tabC, List.lookup_cons, List.lookup_nil, Option.bind_some, Option.bind_none, Option.map_some, rMI, rMIU, rMIUU, rMM, dM, dU, dU_map, List.length_map, List.length_set, len_store, len_add, len_cas, String.reduceBEq, Int.toNat_natCast, Bool.true_beq, Bool.false_beq, r_step, r_put, r_put0, r_after, r_guard0, r_guard, r_nil, r_cons, r_stepD, r_afterD0, r_afterD1, r_afterD2, r_nilD, r_consD, r_skip, r_text, r_draw, r_seq, r_cond, r_block, r_loop, r_exit, r_scope, r_label, r_goto, r_ret, r_condB, r_condT, r_condF, ↓condE_t, ↓condE_f, condE_any, ↓guardE_tt, ↓guardE_ff, ↓guardE_tf, ↓guardE_ft, guardE_any, r_then, r_thenR, r_thenE, r_thenG, r_blkN, r_blkR, r_blkG, r_blkE, r_scpN, r_scpR, r_scpE, r_bodyR, r_bodyN, r_ret1, r_call, r_callC, r_callI, r_callE, r_callJ, r_callV, r_again, resB, cv, stepB, stepE, callD, tabD, guardB, guardC, dstAt, aopR, one, pre, binR, intOpR, shiftOpR, unR, argFrm, evo, lkp, hlk, lenOf, asLst, idOf, bndA, srcOk, ofVal, ofCells, setCells, fillA, setElems, fieldsOf, fieldsEq, scalEq, isEq, cells_agg, cells_v, cells_lst, cells_ptr, cells_arr, cells_fn, AV.wr, AV.ok1, TK.agg, frz, frzs, frzA, frzArg, frzArgs, subA, subL, sub1, kp, kh, entryOk_nil, accOf, List.toList_toArray, List.length_cons, List.length_nil, List.nil_append, List.cons_append, List.append_nil, List.map_nil, List.map_cons, List.getD_cons_zero, List.getD_cons_succ, List.drop_zero, List.drop_succ_cons, List.take_succ_cons, List.take_zero, List.all_cons, List.all_nil, List.getElem?_cons_zero, List.getElem?_cons_succ, List.headD_cons, List.set_cons_zero, List.set_cons_succ, Option.map_some, Option.map_none, Option.isSome_some, Option.isSome_none, List.replicate, Nat.zero_add, Nat.add_zero, Int.toNat_zero, Nat.zero_le, Nat.reduceAdd, Nat.reduceSub, Nat.reduceMul, Nat.reduceEqDiff, Nat.reduceLT, Nat.reduceLeDiff, Nat.reduceBEq, reduceIte, reduceCtorEq, eq_self, if_true, if_false, true_and, and_true, false_and, and_false, true_implies, false_implies, implies_true, Bool.not_true, Bool.not_false, Bool.and_true, Bool.true_and, decide_true, decide_false, Bool.false_eq_true, ne_eq, not_false_eq_true, not_true_eq_false, Bool.true_eq_false, Bool.not_eq_true, List.cons_ne_nil, Nat.lt_irrefl, beq_self_eq_true, Int.reduceToNat, Int.reduceLT, Int.reduceLE]
  · have hm2 : (m.length : Int) > 500 := by omega
    simp only [Try.f13, rows3, rows2, hm2, ms, iv, bv, u, ctx_T, ctx_C, ctx_P, T4, T3, T23, T38, tabC, List.lookup_cons, List.lookup_nil, Option.bind_some, Option.bind_none, Option.map_some, rMI, rMIU, rMIUU, rMM, dM, dU, dU_map, List.length_map, List.length_set, len_store, len_add, len_cas, String.reduceBEq, Int.toNat_natCast, Bool.true_beq, Bool.false_beq, r_step, r_put, r_put0, r_after, r_guard0, r_guard, r_nil, r_cons, r_stepD, r_afterD0, r_afterD1, r_afterD2, r_nilD, r_consD, r_skip, r_text, r_draw, r_seq, r_cond, r_block, r_loop, r_exit, r_scope, r_label, r_goto, r_ret, r_condB, r_condT, r_condF, ↓condE_t, ↓condE_f, condE_any, ↓guardE_tt, ↓guardE_ff, ↓guardE_tf, ↓guardE_ft, guardE_any, r_then, r_thenR, r_thenE, r_thenG, r_blkN, r_blkR, r_blkG, r_blkE, r_scpN, r_scpR, r_scpE, r_bodyR, r_bodyN, r_ret1, r_call, r_callC, r_callI, r_callE, r_callJ, r_callV, r_again, resB, cv, stepB, stepE, callD, tabD, guardB, guardC, dstAt, aopR, one, pre, binR, intOpR, shiftOpR, unR, argFrm, evo, lkp, hlk, lenOf, asLst, idOf, bndA, srcOk, ofVal, ofCells, setCells, fillA, setElems, fieldsOf, fieldsEq, scalEq, isEq, cells_agg, cells_v, cells_lst, cells_ptr, cells_arr, cells_fn, AV.wr, AV.ok1, TK.agg, frz, frzs, frzA, frzArg, frzArgs, subA, subL, sub1, kp, kh, entryOk_nil, accOf, List.toList_toArray, List.length_cons, List.length_nil, List.nil_append, List.cons_append, List.append_nil, List.map_nil, List.map_cons, List.getD_cons_zero, List.getD_cons_succ, List.drop_zero, List.drop_succ_cons, List.take_succ_cons, List.take_zero, List.all_cons, List.all_nil, List.getElem?_cons_zero, List.getElem?_cons_succ, List.headD_cons, List.set_cons_zero, List.set_cons_succ, Option.map_some, Option.map_none, Option.isSome_some, Option.isSome_none, List.replicate, Nat.zero_add, Nat.add_zero, Int.toNat_zero, Nat.zero_le, Nat.reduceAdd, Nat.reduceSub, Nat.reduceMul, Nat.reduceEqDiff, Nat.reduceLT, Nat.reduceLeDiff, Nat.reduceBEq, reduceIte, reduceCtorEq, eq_self, if_true, if_false, true_and, and_true, false_and, and_false, true_implies, false_implies, implies_true, Bool.not_true, Bool.not_false, Bool.and_true, Bool.true_and, decide_true, decide_false, Bool.false_eq_true, ne_eq, not_false_eq_true, not_true_eq_false, Bool.true_eq_false, Bool.not_eq_true, List.cons_ne_nil, Nat.lt_irrefl, beq_self_eq_true, Int.reduceToNat, Int.reduceLT, Int.reduceLE]

end Go.Vai
