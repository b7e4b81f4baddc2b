/- The evaluator, the plain texts and the contracts that this claim leans on, part 7: nothing of the statement is claimed here. -/
import Derived.Test.YtfbpdlondinjaaaGreatKF
set_option linter.unusedVariables false
set_option linter.unusedSimpArgs false
/- Are all asleep, and does all rest? -/
namespace Go.Vai
open Go.RowKit Go.Proofs
set_option maxHeartbeats 4000000
set_option maxRecDepth 100000
def rowsAW : List Row := [
 (50, row2 shSs (shFn 17) fun l _ => if l.length ≤ 1000 then some (bv (l.any busy)) else none), 
 (10, row1 shWk fun x => some (bv (wkPark x))), 
 (77, row3 shI shI shN fun w s n => if w = 2 ∧ s = 1 then some (pks (rnd 2 1 n)) else none)] ++ rowsAV
theorem rowsAW_ok : ∀ p ∈ rowsAW, RowOk Tryz.prog p := fun p h => by
 simp only [rowsAW, List.mem_append, List.mem_cons, List.not_mem_nil, or_false, or_assoc] at h
 rcases h with rfl | rfl | rfl | h
 ·exact ok_row2 (enters_of Tryz.func50 (by decide) rfl) fun l _ r _ _ e => by obtain ⟨h, rfl⟩ := opt_if e; exact anyS_pure _ _ l h (.inl ⟨rfl, rfl⟩)
 ·exact ok_row1 (enters_of Tryz.func10 (by decide) rfl) fun x r _ e => by cases e; exact wkpark_pure x
 ·exact ok_row3 (enters_of Tryz.func77 (by decide) rfl) fun w s n r _ _ _ e => by obtain ⟨⟨rfl, rfl⟩, rfl⟩ := opt_if e; exact round_pure n
 ·exact rowsAV_ok p h
theorem okAW : (ctx Tryz.prog rowsAW).ok := rows_ok rowsAW_ok
theorem AW_all : tabC rowsAW 50 = (row2 shSs (shFn 17) fun l _ => if l.length ≤ 1000 then some (bv (l.any busy)) else none) ∧ tabC rowsAW 10 = (row1 shWk fun x => some (bv (wkPark x))) ∧ tabC rowsAW 77 = (row3 shI shI shN fun w s n => if w = 2 ∧ s = 1 then some (pks (rnd 2 1 n)) else none) ∧ tabC rowsAW 17 = (fun _ => none) ∧ tabC rowsAW 51 = (fun _ => none) ∧ tabC rowsAW 44 = (row1 shPo fun p => if PB p 100000 then some (bv (pMay p)) else none) ∧ tabC rowsAW 191 = (row1 shN fun e => some (.tup [u (wBump e), iv (wLow (wMask e))])) ∧ tabC rowsAW 190 = (fun _ => none) ∧ tabC rowsAW 192 = (fun _ => none) ∧ tabC rowsAW 30 = (row1 shN fun e => some (u (wMask e))) ∧ tabC rowsAW 13 = (row2 shC shI fun c w => some (iv (lPark c w))) ∧ tabC rowsAW 12 = (row2 shM shI fun m i => some (u (mLoad m i))) := ⟨rfl, rfl, rfl, rfl, rfl, rfl, rfl, rfl, rfl, rfl, rfl, rfl⟩

theorem rangeAll_not {n i : Nat} {f : Nat → Bool} (hi : i < n) (h : f i = false) : (List.range n).all f = false := by
 rw [Bool.eq_false_iff, Ne, List.all_eq_true]
 intro k
 have := k i (List.mem_range.2 hi)
 rw [h] at this; cases this

theorem asleep_pure (p : Po) (h : PB p 100000) : PureC Tryz.prog 49 [pov p] (bv (pAsleep p)) := by
  refine pure_sub okAW 2 Tryz.func49 rfl (by show 1 ≤ _; decide) ?_
  obtain ⟨c, t, m, ws, ss⟩ := p
  have hm := h.m
  dsimp only at hm
  unfold pAsleep
  cases h1 : pMay ⟨c, t, m, ws, ss⟩ with
  | false =>
    simp only [Tryz.f49, AW_all, sx_all, h, h1, pov, tks, wks, sbs, ms, Bool.false_and, tt_all, cf_eta, row1, iv, bv, ms, ctx_T, ctx_C, Option.bind_some, ev1, ev2, undef, ↓condE_t, ↓guardE_tf, resB, cv, stepB, guardB, guardC, dstAt, aopR, one, pre, unR, argFrm, evo, lkp, hlk, ofCells, AV.wr, AV.ok1, TK.agg, frz, frz1, frzA, subA, subB, sub1, Nat.reduceAdd, Nat.reduceEqDiff, Nat.reduceLT, Nat.reduceLeDiff, reduceCtorEq, eq_self, ne_eq]
    all_goals ((repeat' apply And.intro) <;> first | rfl | omega | (show (_ : Bool) = true; kernel_rfl) | decide)
  | true =>
    have h1' := h1
    simp only [pMay, Bool.and_eq_true, decide_eq_true_eq, beq_iff_eq] at h1'
    obtain ⟨⟨⟨⟨q1, q2⟩, q3⟩, q4⟩, q5⟩ := h1'
    have hw8 : ws.length ≤ 8 := by have := mayC_iff.1 q1; omega
    have hsl : ss.length ≤ 1000 := by omega
    cases h2 : ss.any busy with
    | true =>
      simp only [Tryz.f49, AW_all, sx_all, shFn_dec, h, h1, h2, hsl, pov, tks, wks, sbs, ms, Bool.true_and, Bool.not_true, Bool.false_and, tt_all, cf_eta, row1, row2, iv, bv, ms, ctx_T, ctx_C, Option.bind_some, ev1, ev2, implies_true, undef, ↓condE_t, ↓guardE_ff, resB, cv, stepB, guardB, guardC, dstAt, aopR, one, pre, unR, argFrm, evo, lkp, hlk, ofCells, AV.wr, AV.ok1, TK.agg, frz, frz1, frzA, subA, subB, sub1, Nat.reduceAdd, Nat.reduceEqDiff, Nat.reduceLT, Nat.reduceLeDiff, reduceCtorEq, eq_self, ne_eq]
      all_goals ((repeat' apply And.intro) <;> first | rfl | omega | (show (_ : Bool) = true; kernel_rfl) | decide)
    | false =>
      simp only [Tryz.f49, AW_all, sx_all, shFn_dec, h, h1, h2, hsl, pov, tks, wks, sbs, ms, List.length_map, Bool.true_and, Bool.not_false, tt_all, cf_eta, row1, row2, iv, bv, ms, ctx_T, ctx_C, Option.bind_some, List.length_map, ev1, ev2, implies_true, undef, ↓condE_f, ↓guardE_ff, cv, stepB, guardB, guardC, dstAt, aopR, one, pre, unR, argFrm, evo, lkp, hlk, lenOf, ofCells, AV.wr, AV.ok1, TK.agg, frz, frz1, frzA, subA, subB, sub1, Nat.reduceAdd, Nat.reduceEqDiff, Nat.reduceLT, Nat.reduceLeDiff, reduceCtorEq, eq_self, ne_eq]
      refine WP.loop (ι := Nat) (fun i => ws.length - i) (fun i => i ≤ ws.length ∧ ∀ k, k < i → rest1 c m k (ws.getD k wk0) = true) (n := 35)
        (fr := fun i => [(16, iv i), (15, iv ws.length), (14, wks ws), (1, .ptr 0 0 0)])
        (hp := fun i => [(0, some ⟨false, 34, 8, [pov ⟨c, t, m, ws, ss⟩]⟩)])
        (N := 0) ?_ 0 ⟨Nat.zero_le _, fun k h => by omega⟩ rfl (Nat.zero_le _) ⟨rfl, rfl, rfl, rfl, trivial⟩ ⟨rfl, trivial⟩
      rintro i nx ⟨g1, g2⟩ hN hid
      have n0 : 0 < nx := hid 0 _ (by rw [hlk_cons, if_pos rfl])
      refine WP.of okAW 1 (by rfl) ?_
      by_cases hi : i < ws.length
      · have hz : (i : Int) < ws.length := by omega
        have hz0 : (0 : Int) ≤ (i : Int) := by omega
        have hg := getD_w hi
        have w1 : IntKind.wrap .i64 ((i : Int) + 1) = ((i + 1 : Nat) : Int) := by rw [wrap_i (by omega) (by omega)]; omega
        have hbad : rest1 c m i (ws.getD i wk0) = false → (List.range ws.length).all (fun i => rest1 c m i (ws.getD i wk0)) = false := fun q => rangeAll_not hi q
        have hgood : rest1 c m i (ws.getD i wk0) = true → ∀ k, k < i + 1 → rest1 c m k (ws.getD k wk0) = true := by
          intro q k hk
          rcases Nat.lt_succ_iff_lt_or_eq.1 hk with e | rfl
          · exact g2 k e
          · exact q
        generalize ws.getD i wk0 = x at hg hbad hgood
        cases hx : wkPark x with
        | false =>
          rw [hbad (by unfold rest1; rw [hx]; rfl)]
          simp only [AW_all, sx_all, hz, hz0, hg, hx, pov, tks, wks, sbs, wv, its, ms, List.length_map, Int.toNat_natCast, Bool.not_false, nb_self, Nat.add_assoc, tt_all, row1, iv, bv, u, ms, ctx_T, ctx_C, Option.bind_some, List.length_map, Int.toNat_natCast, fr_eta, ev1, ev2, undef, dynCall, ↓condE_t, ↓guardE_tf, resB, cv, stepB, stepE, callD, tabD, guardB, guardC, dstAt, aopR, one, pre, binR, intOpR, unR, evo, lkp, hlk, ofVal, ofCells, setCells, AV.wr, AV.ok1, TK.agg, accOf, Nat.reduceAdd, Nat.reduceEqDiff, Nat.reduceLT, Nat.reduceLeDiff, reduceCtorEq, eq_self, ne_eq]
          all_goals ((repeat' apply And.intro) <;> first | rfl | omega | (show (_ : Bool) = true; kernel_rfl) | decide)
        | true =>
          cases hy : (mLoad m (lPark c i) == 0) with
          | false =>
            have hy' : (mLoad m (lPark c i) != 0) = true := by simp only [bne, hy]; rfl
            rw [hbad (by unfold rest1; rw [hx, hy]; rfl)]
            simp only [AW_all, sx_all, hz, hz0, hg, hx, hy', hm, n0, pov, tks, wks, sbs, wv, its, ms, List.length_map, Int.toNat_natCast, Bool.not_true, nb_self, nb_lt, Nat.add_assoc, tt_all, cf_eta, shC_dec, dC, row1, row2, shI_dec, shM_dec, dI, dM, dU_map, iv, bv, u, ms, ctx_T, ctx_C, Option.bind_some, List.length_map, Int.toNat_natCast, fr_eta, ev1, ev2, implies_true, undef, dynCall, ↓condE_t, ↓guardE_ff, resB, cv, stepB, stepE, callD, tabD, guardB, guardC, dstAt, aopR, one, pre, binR, intOpR, unR, evo, lkp, hlk, ofVal, ofCells, setCells, AV.wr, AV.ok1, TK.agg, accOf, Nat.reduceAdd, Nat.reduceEqDiff, Nat.reduceLT, Nat.reduceLeDiff, reduceCtorEq, eq_self, ne_eq]
            all_goals ((repeat' apply And.intro) <;> first | rfl | omega | (show (_ : Bool) = true; kernel_rfl) | decide)
          | true =>
            have hy' : (mLoad m (lPark c i) != 0) = false := by simp only [bne, hy]; rfl
            simp only [AW_all, sx_all, hz, hz0, hg, hx, hy', hm, w1, n0, pov, tks, wks, sbs, wv, its, ms, List.length_map, Int.toNat_natCast, Bool.not_true, nb_self, nb_lt, Nat.add_assoc, tt_all, cf_eta, shC_dec, dC, row1, row2, shI_dec, shM_dec, dI, dM, dU_map, iv, bv, u, ms, ctx_T, ctx_C, Option.bind_some, List.length_map, Int.toNat_natCast, fr_eta, ev1, ev2, implies_true, undef, dynCall, ↓condE_t, ↓condE_f, ↓guardE_ff, cv, stepB, stepE, callD, tabD, guardB, guardC, dstAt, aopR, one, pre, binR, intOpR, unR, evo, lkp, hlk, ofVal, ofCells, setCells, AV.wr, AV.ok1, TK.agg, sub1, kp, kh, accOf, Nat.reduceAdd, Nat.reduceEqDiff, Nat.reduceLT, Nat.reduceLeDiff, reduceCtorEq, eq_self, ne_eq]
            exact ⟨i + 1, by omega, ⟨by omega, hgood (by unfold rest1; rw [hx, hy]; rfl)⟩, rfl⟩
      · have hz : ¬ (i : Int) < ws.length := by omega
        have e : (List.range ws.length).all (fun i => rest1 c m i (ws.getD i wk0)) = true := by
          rw [List.all_eq_true]
          intro k hk
          exact g2 k (by have := List.mem_range.1 hk; omega)
        rw [e]
        simp only [hz, pov, tks, wks, sbs, Nat.add_assoc, iv, ms, ev1, ev2, undef, ↓condE_f, resB, cv, stepB, aopR, one, pre, binR, intOpR, evo, lkp, Nat.reduceAdd, Nat.reduceLT, eq_self]
        all_goals ((repeat' apply And.intro) <;> first | rfl | omega | (show (_ : Bool) = true; kernel_rfl) | decide)

def rowsAX : List Row := [
 (50, row2 shSs (shFn 51) fun l _ => if l.length ≤ 1000 then some (bv (l.any hasR)) else none), 
 (49, row1 shPo fun p => if PB p 100000 then some (bv (pAsleep p)) else none)] ++ rowsAW
theorem rowsAX_ok : ∀ p ∈ rowsAX, RowOk Tryz.prog p := fun p h => by
 simp only [rowsAX, List.mem_append, List.mem_cons, List.not_mem_nil, or_false, or_assoc] at h
 rcases h with rfl | rfl | h
 ·exact ok_row2 (enters_of Tryz.func50 (by decide) rfl) fun l _ r _ _ e => by obtain ⟨h, rfl⟩ := opt_if e; exact anyS_pure _ _ l h (.inr ⟨rfl, rfl⟩)
 ·exact ok_row1 (enters_of Tryz.func49 (by decide) rfl) fun p r _ e => by obtain ⟨h, rfl⟩ := opt_if e; exact asleep_pure p h
 ·exact rowsAW_ok p h
theorem okAX : (ctx Tryz.prog rowsAX).ok := rows_ok rowsAX_ok
theorem AX_all : tabC rowsAX 50 = (row2 shSs (shFn 51) fun l _ => if l.length ≤ 1000 then some (bv (l.any hasR)) else none) ∧ tabC rowsAX 49 = (row1 shPo fun p => if PB p 100000 then some (bv (pAsleep p)) else none) ∧ tabC rowsAX 10 = (row1 shWk fun x => some (bv (wkPark x))) ∧ tabC rowsAX 77 = (row3 shI shI shN fun w s n => if w = 2 ∧ s = 1 then some (pks (rnd 2 1 n)) else none) ∧ tabC rowsAX 17 = (fun _ => none) ∧ tabC rowsAX 51 = (fun _ => none) ∧ tabC rowsAX 44 = (row1 shPo fun p => if PB p 100000 then some (bv (pMay p)) else none) ∧ tabC rowsAX 191 = (row1 shN fun e => some (.tup [u (wBump e), iv (wLow (wMask e))])) ∧ tabC rowsAX 190 = (fun _ => none) ∧ tabC rowsAX 192 = (fun _ => none) ∧ tabC rowsAX 30 = (row1 shN fun e => some (u (wMask e))) ∧ tabC rowsAX 13 = (row2 shC shI fun c w => some (iv (lPark c w))) ∧ tabC rowsAX 12 = (row2 shM shI fun m i => some (u (mLoad m i))) := ⟨rfl, rfl, rfl, rfl, rfl, rfl, rfl, rfl, rfl, rfl, rfl, rfl, rfl⟩

theorem rested_pure (p : Po) (h : PB p 100000) : PureC Tryz.prog 22 [pov p] (bv (pRested p)) := by
 refine pure_sub okAX 2 Tryz.func22 rfl (by show 1 ≤ _; decide) ?_
 obtain ⟨c, t, m, ws, ss⟩ := p
 have hm := h.m
 dsimp only at hm
 unfold pRested
 cases h1 : pAsleep ⟨c, t, m, ws, ss⟩ with
 | false =>
  simp only [Tryz.f22, AX_all, sx_all, h, h1, pov, tks, wks, sbs, ms, Bool.false_and, tt_all, cf_eta, row1, iv, bv, ms, ctx_T, ctx_C, Option.bind_some, ev1, ev2, undef, ↓guardE_ft, resB, cv, stepB, guardB, guardC, dstAt, aopR, one, pre, argFrm, evo, lkp, hlk, ofCells, AV.wr, AV.ok1, TK.agg, frz, frz1, frzA, subA, subB, sub1, Nat.reduceAdd, Nat.reduceEqDiff, Nat.reduceLT, Nat.reduceLeDiff, reduceCtorEq, eq_self, ne_eq]
  all_goals ((repeat' apply And.intro) <;> first | rfl | omega | (show (_ : Bool) = true; kernel_rfl) | decide)
 | true =>
  have h1' := h1
  simp only [pAsleep, Bool.and_eq_true] at h1'
  have h1' := h1'.1.1
  simp only [pMay, Bool.and_eq_true, decide_eq_true_eq, beq_iff_eq] at h1'
  have hsl : ss.length ≤ 1000 := by omega
  cases h2 : mLoad m 0 == 0 with
  | false =>
   simp only [Tryz.f22, AX_all, sx_all, h, h1, h2, hm, pov, tks, wks, sbs, ms, Bool.true_and, Bool.false_and, tt_all, cf_eta, row1, row2, shI_dec, shM_dec, dI, dM, dU_map, iv, bv, u, ms, ctx_T, ctx_C, Option.bind_some, ev1, ev2, implies_true, undef, ↓guardE_tt, ↓guardE_ft, resB, cv, stepB, guardB, guardC, dstAt, aopR, one, pre, binR, intOpR, argFrm, evo, lkp, hlk, ofCells, AV.wr, AV.ok1, TK.agg, frz, frz1, frzA, subA, subB, sub1, Nat.reduceAdd, Nat.reduceEqDiff, Nat.reduceLT, Nat.reduceLeDiff, reduceCtorEq, eq_self, ne_eq]
   all_goals ((repeat' apply And.intro) <;> first | rfl | omega | (show (_ : Bool) = true; kernel_rfl) | decide)
  | true =>
   simp only [Tryz.f22, AX_all, sx_all, shFn_dec, h, h1, h2, hsl, hm, pov, tks, wks, sbs, ms, Bool.true_and, tt_all, cf_eta, row1, row2, shI_dec, shM_dec, dI, dM, dU_map, iv, bv, u, ms, ctx_T, ctx_C, Option.bind_some, ev1, ev2, implies_true, undef, ↓guardE_tt, resB, cv, stepB, guardB, guardC, dstAt, aopR, one, pre, binR, intOpR, unR, argFrm, evo, lkp, hlk, ofCells, AV.wr, AV.ok1, TK.agg, frz, frz1, frzA, subA, subB, sub1, Nat.reduceAdd, Nat.reduceEqDiff, Nat.reduceLT, Nat.reduceLeDiff, reduceCtorEq, eq_self, ne_eq]
   all_goals ((repeat' apply And.intro) <;> first | rfl | omega | (show (_ : Bool) = true; kernel_rfl) | decide)
end Go.Vai
/- Several steps of a pool: none. -/
namespace Go.Vai
open Go.RowKit Go.Proofs
set_option maxHeartbeats 4000000
set_option maxRecDepth 100000
theorem run_none (p : Po) (h : RIn p []) (hs0 : p.s ≠ []) : PureC Tryz.prog 25 [pov p, .v (.slice none 0 0)] (.tup [pov p, .v (.slice none 0 0)]) := by
 refine pure_sub okAQ' 5 Tryz.func25 rfl (by show 2 ≤ _; decide) ?_
 obtain ⟨⟨ht, hm, hw, hs⟩, hmay, hll, ho, hos⟩ := h
 obtain ⟨c, t, m, ws, ss⟩ := p
 dsimp only at ht hm hw hs ho hos hs0
 have hpb : PB ⟨c, t, m, ws, ss⟩ 100000 := ⟨ht, hm, fun x hx => by have := hw x hx; omega, hs⟩
 have hmay' := hmay
 simp only [pMay, Bool.and_eq_true, decide_eq_true_eq, beq_iff_eq] at hmay'
 obtain ⟨⟨⟨⟨h1, h2⟩, h3⟩, h4⟩, h5⟩ := hmay'
 have hmc := mayC_iff.1 h1
 have hw8 : ws.length ≤ 8 := by omega
 have hw1 : ws ≠ [] := by
  intro e
  rw [e] at h2
  simp at h2
  omega
 have hw2 : (ws ≠ [] ∧ ws.length ≤ 1000) := ⟨hw1, by omega⟩
 have htl : t.length ≤ 30 := by
  have h4' : allW ⟨c, t, m, ws, ss⟩ = true := h4
  unfold allW at h4'
  rw [List.all_eq_true] at h4'
  have h0 := h4' 0 (List.mem_range.2 (List.length_pos_iff.2 hw1))
  simp only [wMay, Bool.and_eq_true] at h0
  exact may_len h0.1.1.1.1.1.2
 have htl2 : t.length ≤ 100000 := by omega
 have hs1 : (ss ≠ [] ∧ ss.length ≤ 1000) := ⟨hs0, by omega⟩
 simp only [Tryz.f25, Tryz.func52, Tryz.f52, inl, AQ_all, ctxO_P, ctxO_T, ctxO_C, ctxO_O, ownT, ownTW, ownTS, sx_all, ht, hm, htl2, hs0, hs1, hw2, and_self, pov, tks, wks, sbs, List.length_map, tt_all, row1, shM_dec, dM, dU_map, iv, ms, Option.bind_some, List.length_map, String.reduceBEq, ev1, ev2, implies_true, undef, dynCall, frzDeep, deepArgs, deepArg, cv, stepB, stepE, callD, tabD, snapD, frzD, frzHs, frzH, ownD, snap1, aopR, one, pre, argFrm, evo, lkp, hlk, lenOf, ofVal, ofCells, setCells, AV.wr, AV.ok1, TK.agg, frz, frz1, frzA, frzArg, frzArgs, subA, subB, sub1, accOf, Nat.reduceAdd, Nat.reduceEqDiff, Nat.reduceLT, Nat.reduceLeDiff, reduceCtorEq, eq_self, ne_eq]
 repeat' apply And.intro
 any_goals (show entryOk _ _ _ _ _ = true; kernel_rfl)
 refine WP.loop (ι := Nat) (fun i => ws.length - i) (fun i => i ≤ ws.length) (n := 60)
  (fr := fun i => [(24, iv i), (23, iv ws.length), (1, .ptr 7 0 0), (2, .ptr 8 0 0)])
  (hp := fun i => [(7, some ⟨false, 34, 8, [pag c t m (.arr 21 0 ws.length) (.arr 24 0 ss.length)]⟩), (24, some ⟨false, 50, 9, ss.map sbv⟩), (21, some ⟨false, 44, 11, ws.map wv⟩), (8, some ⟨false, 34, 8, [pzero]⟩), (1, some ⟨false, 34, 8, [pzero]⟩), (0, some ⟨false, 34, 8, [pov ⟨c, t, m, ws, ss⟩]⟩)])
  (N := 33) ?_ 0 (Nat.zero_le _) rfl (Nat.le_refl _) ⟨rfl, rfl, rfl, rfl, trivial⟩ ⟨rfl, rfl, rfl, rfl, rfl, rfl, trivial⟩
 rintro i nx g1 hN _
 have n0 : 0 < nx := by omega
 have n1 : 1 < nx := by omega
 have n7 : 7 < nx := by omega
 have n8 : 8 < nx := by omega
 have n21 : 21 < nx := by omega
 have n24 : 24 < nx := by omega
 refine WP.of okAQ' 4 (by rfl) ?_
 by_cases hi : i < ws.length
 ·have hz : (i : Int) < ws.length := by omega
  have hz0 : (0 : Int) ≤ (i : Int) := by omega
  have hg := getD_w hi
  have hst : (ws.map wv).set i (wv (ws.getD i wk0)) = ws.map wv := set_self_w hi
  have hsl : (ws.getD i wk0).stack.length ≤ 100000 := by have := hw _ (getD_memW (d := wk0) hi); omega
  have w1 : IntKind.wrap .i64 ((i : Int) + 1) = ((i + 1 : Nat) : Int) := by rw [wrap_i (by omega) (by omega)]; omega
  generalize ws.getD i wk0 = x at hg hst hsl
  simp only [wv, its, iv, u] at hst
  simp only [hz, hz0, hg, hst, hsl, hi, w1, AQ_all, ctxO_T, ctxO_C, sx_all, pov, pag, pzero, tks, wks, sbs, wv, its, ms, List.length_map, Int.toNat_natCast, Nat.zero_add, Nat.add_assoc, tt_all, row1, iv, u, ms, Option.bind_some, List.length_map, Int.toNat_natCast, ev1, ev2, implies_true, undef, dynCall, ↓condE_t, cv, stepB, stepE, callD, tabD, aopR, one, pre, binR, intOpR, evo, lkp, hlk, ofCells, setCells, AV.wr, AV.ok1, TK.agg, sub1, kp, kh, accOf, Nat.reduceAdd, Nat.reduceLT, Nat.reduceLeDiff, reduceCtorEq, eq_self, ne_eq]
  refine ⟨?_, i + 1, by omega, by omega, rfl⟩
  kernel_rfl
 ·have hz : ¬ (i : Int) < ws.length := by omega
  simp only [hz, ctxO_T, pov, pag, pzero, tks, wks, sbs, ms, Nat.zero_add, Nat.add_assoc, tt_all, iv, ms, ev1, ev2, implies_true, undef, ↓condE_f, cv, stepB, aopR, one, pre, binR, intOpR, evo, lkp, hlk, lenOf, ofCells, TK.agg, Nat.reduceAdd, Nat.reduceLT, Nat.reduceLeDiff, reduceCtorEq, eq_self, ne_eq]
  refine WP.loop (ι := Nat) (fun j => ss.length - j) (fun j => j ≤ ss.length) (n := 60)
   (fr := fun j => [(43, iv j), (42, iv ss.length), (1, .ptr 7 0 0), (2, .ptr 8 0 0)])
   (hp := fun j => [(7, some ⟨false, 34, 8, [pag c t m (.arr 21 0 ws.length) (.arr 24 0 ss.length)]⟩), (24, some ⟨false, 50, 9, ss.map sbv⟩), (21, some ⟨false, 44, 11, ws.map wv⟩), (8, some ⟨false, 34, 8, [pzero]⟩), (1, some ⟨false, 34, 8, [pzero]⟩), (0, some ⟨false, 34, 8, [pov ⟨c, t, m, ws, ss⟩]⟩)])
   (N := 33) ?_ 0 (Nat.zero_le _) rfl (by dsimp only; omega) ⟨rfl, rfl, rfl, rfl, trivial⟩ ⟨rfl, rfl, rfl, rfl, rfl, rfl, trivial⟩
  rintro j nx g2 hN _
  have n0 : 0 < nx := by omega
  have n1 : 1 < nx := by omega
  have n7 : 7 < nx := by omega
  have n8 : 8 < nx := by omega
  have n21 : 21 < nx := by omega
  have n24 : 24 < nx := by omega
  refine WP.of okAQ' 4 (by rfl) ?_
  by_cases hj : j < ss.length
  ·have hz : (j : Int) < ss.length := by omega
   have hz0 : (0 : Int) ≤ (j : Int) := by omega
   have hg := getD_s hj
   have hst : (ss.map sbv).set j (sbv (ss.getD j ⟨0, [], fr00⟩)) = ss.map sbv := set_self_s hj
   have hsl : (ss.getD j ⟨0, [], fr00⟩).roots.length ≤ 100000 := hs _ (getD_memW (d := ⟨0, [], fr00⟩) hj)
   have w1 : IntKind.wrap .i64 ((j : Int) + 1) = ((j + 1 : Nat) : Int) := by rw [wrap_i (by omega) (by omega)]; omega
   generalize ss.getD j ⟨0, [], fr00⟩ = x at hg hst hsl
   simp only [sbv, zs, iv, u] at hst
   simp only [hz, hz0, hg, hst, hsl, hj, w1, AQ_all, ctxO_T, ctxO_C, rf1, pov, pag, pzero, tks, wks, sbs, sbv, zs, ms, List.length_map, Int.toNat_natCast, Nat.zero_add, Nat.add_assoc, tt_all, row1, iv, u, ms, Option.bind_some, List.length_map, Int.toNat_natCast, ev1, ev2, implies_true, undef, dynCall, ↓condE_t, cv, stepB, stepE, callD, tabD, aopR, one, pre, binR, intOpR, evo, lkp, hlk, ofCells, setCells, AV.wr, AV.ok1, TK.agg, sub1, kp, kh, accOf, Nat.reduceAdd, Nat.reduceLT, Nat.reduceLeDiff, reduceCtorEq, eq_self, ne_eq]
   refine ⟨?_, j + 1, by omega, by omega, rfl⟩
   kernel_rfl
  ·have hz : ¬ (j : Int) < ss.length := by omega
   simp only [hz, hpb, hmay, Bool.not_true, AQ_all, ctxO_T, ctxO_C, sx_all, pov, pag, pzero, tks, wks, sbs, ms, Nat.zero_add, Nat.add_assoc, tt_all, cf_eta, row1, iv, bv, ms, Option.bind_some, Int.cast_ofNat_Int, ev1, ev2, undef, ↓condE_f, resB, cv, stepB, aopR, one, pre, binR, intOpR, unR, evo, lkp, hlk, lenOf, ofVal, ofCells, setCells, AV.wr, AV.ok1, TK.agg, Nat.reduceAdd, Nat.reduceEqDiff, Nat.reduceLT, Nat.reduceLeDiff, reduceCtorEq, eq_self, ne_eq]
   refine WP.rounds okAQ' 4 1 (by rfl) ?_
   simp only [r_rounds, ctxO_T, List.length_map, Nat.zero_add, Nat.add_assoc, tt_all, hfree_lu, List.length_map, ev1, ev2, undef, ↓condE_f, resB, cv, stepB, aopR, one, pre, binR, intOpR, evo, lkp, hlk, ofCells, setCells, AV.wr, AV.ok1, TK.agg, frz1, frzt, frzs, frzA, subB, subM, subL, sub1, Nat.reduceAdd, Nat.reduceEqDiff, Nat.reduceLT, Nat.reduceLeDiff, reduceCtorEq, eq_self, ne_eq, Int.reduceLT]
   refine ⟨hf_tks t, Nat.le_refl _, fun x hx => ?_, Nat.le_refl _, fun x hx => ?_, by rw [tk_map], by rw [tk_map]⟩
   ·obtain ⟨y, _, rfl⟩ := List.mem_map.1 (List.mem_of_mem_take hx)
    exact elW.cfree y
   ·obtain ⟨y, _, rfl⟩ := List.mem_map.1 (List.mem_of_mem_take hx)
    exact elS.cfree y

def orRow (F G : List AV → Option AV) : List AV → Option AV := fun args => match F args with
 | some r => some r
 | none => G args
theorem ok_or {f : FuncId} {F G : List AV → Option AV} (h1 : RowOk Tryz.prog (f, F)) (h2 : RowOk Tryz.prog (f, G)) : RowOk Tryz.prog (f, orRow F G) := by
 intro args r hr
 dsimp only [orRow] at hr
 cases hF : F args with
 | some x =>
  rw [hF] at hr
  dsimp only at hr
  cases hr
  exact h1 args _ hF
 | none =>
  rw [hF] at hr
  exact h2 args r hr
def shNil : Sh Unit where
 dec := fun a => match a with
  | .v (.slice none 0 0) => some ()
  | _ => none
 enc := fun _ => .v (.slice none 0 0)
 ok := fun a x h => by
  split at h
  ·rfl
  ·cases h
 free := fun _ => hfree_v _
end Go.Vai
/- On, till all rests. -/
namespace Go.Vai
open Go.RowKit Go.Proofs
set_option maxHeartbeats 4000000
set_option maxRecDepth 100000
def rowsAY : List Row := [
 (25, orRow (row2 shPo shNil fun p _ => if RIn p [] ∧ p.s ≠ [] then some (.tup [pov p, .v (.slice none 0 0)]) else none) (row2 shPo shPs fun p l => if RIn p l then some (.tup [pov (pRun p l).1, evs (pRun p l).2]) else none)), 
 (22, row1 shPo fun p => if PB p 100000 then some (bv (pRested p)) else none)] ++ rowsAX
theorem rowsAY_ok : ∀ p ∈ rowsAY, RowOk Tryz.prog p := fun p h => by
 simp only [rowsAY, List.mem_append, List.mem_cons, List.not_mem_nil, or_false, or_assoc] at h
 rcases h with rfl | rfl | h
 ·exact ok_or (ok_row2 (enters_of Tryz.func25 (by decide) rfl) fun p l r _ _ e => by obtain ⟨h, rfl⟩ := opt_if e; exact run_none p h.1 h.2) (ok_row2 (enters_of Tryz.func25 (by decide) rfl) fun p l r _ _ e => by obtain ⟨h, rfl⟩ := opt_if e; exact run_pure p l h)
 ·exact ok_row1 (enters_of Tryz.func22 (by decide) rfl) fun p r _ e => by obtain ⟨h, rfl⟩ := opt_if e; exact rested_pure p h
 ·exact rowsAX_ok p h
theorem okAY : (ctx Tryz.prog rowsAY).ok := rows_ok rowsAY_ok
theorem AY_all : tabC rowsAY 25 = (orRow (row2 shPo shNil fun p _ => if RIn p [] ∧ p.s ≠ [] then some (.tup [pov p, .v (.slice none 0 0)]) else none) (row2 shPo shPs fun p l => if RIn p l then some (.tup [pov (pRun p l).1, evs (pRun p l).2]) else none)) ∧ tabC rowsAY 22 = (row1 shPo fun p => if PB p 100000 then some (bv (pRested p)) else none) ∧ tabC rowsAY 48 = (fun _ => none) ∧ tabC rowsAY 76 = (fun _ => none) ∧ tabC rowsAY 77 = (row3 shI shI shN fun w s n => if w = 2 ∧ s = 1 then some (pks (rnd 2 1 n)) else none) ∧ tabC rowsAY 44 = (row1 shPo fun p => if PB p 100000 then some (bv (pMay p)) else none) ∧ tabC rowsAY 191 = (row1 shN fun e => some (.tup [u (wBump e), iv (wLow (wMask e))])) ∧ tabC rowsAY 190 = (fun _ => none) ∧ tabC rowsAY 192 = (fun _ => none) ∧ tabC rowsAY 30 = (row1 shN fun e => some (u (wMask e))) := ⟨rfl, rfl, rfl, rfl, rfl, rfl, rfl, rfl, rfl, rfl⟩

structure Calm (p : Po) (N : Nat) : Prop where
 n : N ≤ 900
 w : p.c.w = 2
 s : p.s.length = 1
 r0 : RIn p []
 ri : ∀ n, n ≤ N → RIn (drn p n).1 (rnd 2 1 n)
 no : ∀ n, n < N → pRested (drn p n).1 = false
 yes : pRested (drn p N).1 = true
 len : ∀ n, n ≤ N → (drn p n).2.length ≤ 6 * n

theorem hfc_ev (l : List Ev) : ∀ x ∈ l.map ev', ∀ c ∈ x.cells, HFree c := fun x hx => by
 obtain ⟨y, _, rfl⟩ := List.mem_map.1 hx
 exact elE.cfree y

theorem drain_pure (p : Po) (N : Nat) (h : Calm p N) : PureC Tryz.prog 20 [pov p, iv 1000] (.tup [pov (drn p N).1, evs (drn p N).2, iv N]) := by
 refine pure_top okAY 2 Tryz.func20 rfl (by show 2 ≤ _; decide) ?_
 have hb := h.r0.b
 have hmay := h.r0.may
 have h0 := h.r0
 have hs1 := h.s
 have hw2 := h.w
 have hne : p.s ≠ [] := by intro e; rw [e] at hs1; simp at hs1
 have h00 : (RIn p [] ∧ p.s ≠ []) := ⟨h0, hne⟩
 have hbb : PB p 100000 := ⟨hb.t, hb.m, fun x hx => by have := hb.w x hx; omega, hb.s⟩
 obtain ⟨⟨cw, cd, ci, cs⟩, t, m, ws, ss⟩ := p
 dsimp only at hs1 hw2 hne h00
 subst hw2
 simp only [Tryz.f20, Tryz.func48, Tryz.f48, inl, AY_all, orRow, shNil, sx_all, h0, h00, hbb, hmay, Bool.not_true, pov, tks, wks, sbs, ms, tt_all, top_T, r_rangeF, row1, row2, iv, bv, ms, ctx_T, ctx_C, ctx_P, Option.bind_some, String.reduceBEq, ev1, ev2, undef, ↓condE_f, frzDeep, deepArgs, deepArg, resB, cv, stepB, aopR, one, pre, unR, argFrm, evo, lkp, hlk, ofVal, ofCells, setCells, AV.wr, AV.ok1, TK.agg, frz, frz1, frzA, frzArg, frzArgs, subA, subB, sub1, Nat.reduceAdd, Nat.reduceEqDiff, Nat.reduceLT, Nat.reduceLeDiff, reduceCtorEq, eq_self, ne_eq]
 generalize hP : (⟨⟨2, cd, ci, cs⟩, t, m, ws, ss⟩ : Po) = p0 at *
 refine WP.virtB 10 104 3 rfl rfl (by decide) ?_ (im := (top_core okAY).im)
 refine WP.ranges okAY 1 (g := 76) rfl (enters_of Tryz.func76 (by decide) rfl) Tryz.func76 rfl (by decide) (by rfl) (by rfl) ?_
 intro Y hI hYF hYT hYC hYY
 simp only [Tryz.f76, ctx_T, ev1, ev2, undef, cv, stepB, aopR, one, argFrm, evo, Nat.reduceAdd, Nat.reduceLT]
 refine WP.loop (ι := Nat × Nat) (fun i => 1000 - i.1) (fun i => i.1 ≤ N ∧ (i.2 = 26 ∨ 28 ≤ i.2)) (n := 24)
  (fr := fun i => [(4, iv i.1), (2, .ptr 21 0 0), (1, .ptr 22 0 0), (0, .yld 27)])
  (hp := fun i => [(27, some (gBlk 0)), (10, some ⟨false, 35, 1, [.arr i.2 0 (drn p0 i.1).2.length]⟩), (i.2, some ⟨false, 104, 3, (drn p0 i.1).2.map ev'⟩), (22, some ⟨false, 3, 1, [iv 1000]⟩), (21, some ⟨false, 34, 8, [pov p0]⟩), (16, some ⟨false, 3, 1, [iv i.1]⟩), (9, some ⟨false, 34, 8, [pov (drn p0 i.1).1]⟩), (1, some ⟨false, 34, 8, [pzero]⟩), (0, some ⟨false, 34, 8, [pov p0]⟩)])
  (N := 28) ?_ (0, 26) ⟨Nat.zero_le _, .inl rfl⟩ rfl (by first | exact Nat.le_refl _ | exact Nat.le_add_right _ _ | (show 28 ≤ 29; decide)) ⟨rfl, rfl, rfl, rfl, trivial⟩ (by
   subst hP
   exact ⟨rfl, rfl, rfl, rfl, rfl, rfl, rfl, rfl, rfl, trivial⟩) (im := hI.im)
 rintro ⟨n, z⟩ nx ⟨g1, g2⟩ hN hid
 dsimp only at g1 g2 hid ⊢
 have hn9 := h.n
 have hzn : z < nx := by
  rcases g2 with e | e
  ·omega
  ·exact hid z _ (by rw [hlk_cons, if_neg (by omega), hlk_cons, if_neg (by omega), hlk_cons, if_pos rfl])
 have bb : ∀ j : Nat, j < 26 ∨ j = 27 → Nat.beq j z = false ∧ Nat.beq z j = false := by
  intro j hjj
  constructor <;> (rw [← Bool.not_eq_true, Nat.beq_eq]; omega)
 obtain ⟨b0, d0⟩ := bb 0 (by omega)
 obtain ⟨b1, d1⟩ := bb 1 (by omega)
 obtain ⟨b2, d2⟩ := bb 9 (by omega)
 obtain ⟨b3, d3⟩ := bb 10 (by omega)
 obtain ⟨b4, d4⟩ := bb 16 (by omega)
 obtain ⟨b5, d5⟩ := bb 21 (by omega)
 obtain ⟨b6, d6⟩ := bb 22 (by omega)
 obtain ⟨b7, d7⟩ := bb 27 (by omega)
 have n0 : 0 < nx := by omega
 have n1 : 1 < nx := by omega
 have n2 : 9 < nx := by omega
 have n3 : 10 < nx := by omega
 have n4 : 16 < nx := by omega
 have n5 : 21 < nx := by omega
 have n6 : 22 < nx := by omega
 have n7 : 27 < nx := by omega
 have hu : IntKind.wrap .u64 (n : Int) = (n : Int) := by
  show wrapU _ = _
  rw [wrapU_eq]; omega
 have hz : (n : Int) < 1000 := by omega
 have w1 : IntKind.wrap .i64 ((n : Int) + 1) = ((n + 1 : Nat) : Int) := by rw [wrap_i (by omega) (by omega)]; omega
 have hri := h.ri n g1
 have hqb : PB (drn p0 n).1 100000 := ⟨hri.b.t, hri.b.m, fun x hx => by have := hri.b.w x hx; omega, hri.b.s⟩
 have hlen := h.len n g1
 have hstep : drn p0 (n + 1) = ((pRun (drn p0 n).1 (rnd 2 1 n)).1, (drn p0 n).2 ++ (pRun (drn p0 n).1 (rnd 2 1 n)).2) := rfl
 refine WP.ofX hI hYF (by rfl) ?_
 subst hP
 by_cases hnN : n < N
 ·have hno := h.no n hnN
  have hl1 := h.len (n + 1) hnN
  rw [hstep] at hl1
  generalize drn ⟨⟨2, cd, ci, cs⟩, t, m, ws, ss⟩ n = D at *
  obtain ⟨q, es⟩ := D
  dsimp only at hno hri hqb hlen hstep hl1 ⊢
  generalize hr : pRun q (rnd 2 1 n) = r at *
  obtain ⟨qc, qt, qm, qw, qs⟩ := q
  obtain ⟨⟨rc, rt, rm, rw', rs⟩, re⟩ := r
  dsimp only at hl1 hstep
  rw [List.length_append] at hl1
  have hcap : (es.length + re.length) * 24 ≤ 140737488355328 := by omega
  simp only [AY_all, hYT, hYY, r_yld, orRow, shNil, sx_all, hu, hz, w1, hri, hqb, hno, hr, hcap, hs1, tk_map, b0, b1, b2, b3, b4, b5, b6, b7, d3, d7, hzn, n0, n1, n2, n3, n4, n5, n6, n7, pov, tks, wks, sbs, pks, evs, ms, List.length_map, and_self, nb_self, nb_lt, Nat.add_assoc, tt_all, mo_min, minM, List.cons_append, List.nil_append, inR_T, r_yld, r_start, r_rkN, zipF, cf_eta, row1, row2, row3, shI_dec, shN_dec, dI, dN, iv, bv, ms, ctx_T, ctx_C, Option.bind_some, Option.bind_none, List.length_map, Int.cast_ofNat_Int, ev1, ev2, implies_true, undef, dynCall, ↓condE_t, ↓condE_f, cv, stepB, stepE, aopR, one, pre, binR, intOpR, unR, evo, lkp, hlk, lenOf, asLst, idOf, srcOk, ofVal, ofCells, setCells, AV.wr, AV.ok1, TK.agg, sub1, kp, kh, accOf, Nat.reduceAdd, Nat.reduceEqDiff, Nat.reduceLT, Nat.reduceLeDiff, reduceCtorEq, eq_self, ne_eq, Int.reduceLT]
  intro l
  repeat' apply And.intro
  any_goals (show entryOk _ _ _ _ _ = true; (repeat (first | exact entryOk_nil _ _ _ _ | (refine entryOk_step ?h ?_; case h => (first | (apply Or.inr; constructor <;> simp [meets] <;> omega; done) | (apply Or.inl; show anc _ _ _ _ = true; kernel_rfl))))))
  any_goals exact Nat.le_refl _
  refine ⟨(n + 1, nx + 33), by dsimp only; omega, ⟨by dsimp only; omega, .inr (by dsimp only; omega)⟩, rfl, ?_⟩
  dsimp only
  simp only [hstep, List.map_append, List.length_append, n2, n3, n4, n7, and_self, nb_self, nb_gt, eq_self]
 ·have e : n = N := by omega
  subst e
  have hyes := h.yes
  generalize drn ⟨⟨2, cd, ci, cs⟩, t, m, ws, ss⟩ n = D at *
  obtain ⟨q, es⟩ := D
  dsimp only at hyes hri hqb hlen hstep ⊢
  obtain ⟨qc, qt, qm, qw, qs⟩ := q
  simp only [AY_all, hYT, hYY, r_yld, sx_all, hu, hz, w1, hqb, hyes, hs1, tk_map, b0, b1, b2, b4, b5, b6, d1, d3, d7, pzero, pov, tks, wks, sbs, pks, evs, ms, List.length_map, and_self, nb_self, Nat.add_assoc, tt_all, mo_min, minM, List.cons_append, List.nil_append, top_T, inR_T, r_yld, r_start, r_rkN, r_rkE, r_endR, r_endM, r_endJ3, zipF, cf_eta, hfree_lu, row1, row3, shI_dec, shN_dec, dI, dN, iv, bv, ms, ctx_T, ctx_C, Option.bind_some, List.length_map, Int.cast_ofNat_Int, ev1, ev2, implies_true, undef, dynCall, ↓condE_t, ↓condE_f, resB, cv, stepB, stepE, aopR, one, pre, binR, intOpR, unR, evo, lkp, hlk, lenOf, ofCells, setCells, AV.wr, AV.ok1, TK.agg, frz1, frzt, frzs, frzA, subB, subM, subL, sub1, kp, kh, accOf, Nat.reduceAdd, Nat.reduceMul, Nat.reduceEqDiff, Nat.reduceLT, Nat.reduceLeDiff, reduceCtorEq, eq_self, ne_eq, Int.reduceLT]
  intro l
  repeat' apply And.intro
  any_goals (show entryOk _ _ _ _ _ = true; (repeat (first | exact entryOk_nil _ _ _ _ | (refine entryOk_step ?h ?_; case h => (first | (apply Or.inr; constructor <;> simp [meets] <;> omega; done) | (apply Or.inl; show anc _ _ _ _ = true; kernel_rfl))))))
  all_goals first | exact hf_tks _ | exact hf_wks _ | exact hf_sbs _ | exact Nat.le_refl _ | exact hfc_ev es | rfl | trivial
end Go.Vai
/- A call whose arguments are lists of structs of the call's own, by a contract that is named. -/
namespace Go.Vai
open Go.RowKit
def frzEl (hp : Hp) : AV → AV × Hp
 | .agg cs => (.agg (frzArgs hp cs).1, (frzArgs hp cs).2)
 | x => frzArg hp x
def frzEl2 : Hp → List AV → List AV × Hp
 | hp, [] => ([], hp)
 | hp, x :: r => ((frzEl hp x).1 :: (frzEl2 (frzEl hp x).2 r).1, (frzEl2 (frzEl hp x).2 r).2)
def deep2 (hp : Hp) : AV → AV × Hp
 | .lst sz xs => (.lst sz (frzEl2 hp xs).1, (frzEl2 hp xs).2)
 | x => (x, hp)
def deep2s : Hp → List AV → List AV × Hp
 | hp, [] => ([], hp)
 | hp, x :: r => ((deep2 hp x).1 :: (deep2s (deep2 hp x).2 r).1, (deep2s (deep2 hp x).2 r).2)

def subEls : List AV → List AV → Prop
 | [], [] => True
 | x :: xs, y :: ys => subB x y ∧ subEls xs ys
 | _, _ => False
def subDs : AV → AV → Prop
 | .lst n xs, .lst m ys => n = m ∧ subEls xs ys
 | x, y => sub1 x y
def subD : List AV → List AV → Prop
 | [], [] => True
 | x :: xs, y :: ys => subDs x y ∧ subD xs ys
 | _, _ => False

section
variable {w0 : World} {K0 : Nat → Option Obj} {D : Nat → Prop} {n : Nat} {fr : Frm} {a : Act} {w : World}
theorem frzCells_sound : ∀ (xs : List AV) (E : Env) (hp : Hp), Rel w0 K0 D E n fr hp a w →
  ∃ E', E.le E' ∧ (∀ id, E'.dom id → E.dom id) ∧ Rel w0 K0 D E' n fr (frzArgs hp xs).2 a w ∧ (frzArgs hp xs).1.length = xs.length ∧
   ∀ (i : Nat) (x : AV), (frzArgs hp xs).1[i]? = some x → ∃ y, xs[i]? = some y ∧ ∀ v, Con E y v → Con E' x v
 | [], E, hp, hr => ⟨E, Env.le.refl E, fun _ h => h, hr, rfl, fun i x hx => by simp [frzArgs] at hx⟩
 | x :: r, E, hp, hr => by
  obtain ⟨E1, h1, h2, h3, h4⟩ := frzArg_sound hr x
  obtain ⟨E2, k1, k2, k3, k4, k5⟩ := frzCells_sound r E1 (frzArg hp x).2 h3
  refine ⟨E2, h1.trans k1, fun id hd => h2 id (k2 id hd), k3, by simpa [frzArgs] using k4, ?_⟩
  intro i y hy
  cases i with
  | zero =>
   simp only [frzArgs, List.getElem?_cons_zero, Option.some.injEq] at hy
   subst hy
   exact ⟨x, rfl, fun v hv => (h4 v hv).mono k1⟩
  | succ i =>
   simp only [frzArgs, List.getElem?_cons_succ] at hy
   obtain ⟨y', q1, q2⟩ := k5 i y hy
   exact ⟨y', q1, fun v hv => q2 v (hv.mono h1)⟩

theorem frzEl_sound {E : Env} {hp : Hp} (hr : Rel w0 K0 D E n fr hp a w) (x : AV) :
  ∃ E', E.le E' ∧ (∀ id, E'.dom id → E.dom id) ∧ Rel w0 K0 D E' n fr (frzEl hp x).2 a w ∧ (frzEl hp x).1.cells.length = x.cells.length ∧
   ∀ (j : Nat) (b : AV), (frzEl hp x).1.cells[j]? = some b → ∃ b', x.cells[j]? = some b' ∧ ∀ v, Con E b' v → Con E' b v := by
 have one : ∀ x : AV, frzEl hp x = frzArg hp x → ∃ E', E.le E' ∧ (∀ id, E'.dom id → E.dom id) ∧ Rel w0 K0 D E' n fr (frzEl hp x).2 a w ∧ (frzEl hp x).1.cells.length = x.cells.length ∧
   ∀ (j : Nat) (b : AV), (frzEl hp x).1.cells[j]? = some b → ∃ b', x.cells[j]? = some b' ∧ ∀ v, Con E b' v → Con E' b v := by
  intro x e
  rw [e]
  obtain ⟨E1, h1, h2, h3, h4⟩ := frzArg_sound hr x
  refine ⟨E1, h1, h2, h3, ?_⟩
  rcases frzArg_cells hp x with e | ⟨e1, e2⟩
  ·rw [e]
   exact ⟨rfl, fun j b hb => ⟨b, hb, fun v hv => hv.mono h1⟩⟩
  ·rw [e1, e2]
   refine ⟨rfl, fun j b hb => ?_⟩
   cases j with
   | zero =>
    simp only [List.getElem?_cons_zero, Option.some.injEq] at hb
    subst hb
    exact ⟨x, rfl, h4⟩
   | succ j => simp at hb
 cases x with
 | agg cs =>
  obtain ⟨E1, h1, h2, h3, h4, h5⟩ := frzCells_sound cs E hp hr
  exact ⟨E1, h1, h2, h3, h4, h5⟩
 | _ => exact one _ rfl

theorem frzEl2_sound : ∀ (xs : List AV) (E : Env) (hp : Hp), Rel w0 K0 D E n fr hp a w →
  ∃ E', E.le E' ∧ (∀ id, E'.dom id → E.dom id) ∧ Rel w0 K0 D E' n fr (frzEl2 hp xs).2 a w ∧ (frzEl2 hp xs).1.length = xs.length ∧
   ∀ (i : Nat) (x : AV), (frzEl2 hp xs).1[i]? = some x → ∃ y, xs[i]? = some y ∧ x.cells.length = y.cells.length ∧ ∀ (j : Nat) (b : AV), x.cells[j]? = some b → ∃ b', y.cells[j]? = some b' ∧ ∀ v, Con E b' v → Con E' b v
 | [], E, hp, hr => ⟨E, Env.le.refl E, fun _ h => h, hr, rfl, fun i x hx => by simp [frzEl2] at hx⟩
 | x :: r, E, hp, hr => by
  obtain ⟨E1, h1, h2, h3, h4, h4'⟩ := frzEl_sound hr x
  obtain ⟨E2, k1, k2, k3, k4, k5⟩ := frzEl2_sound r E1 (frzEl hp x).2 h3
  refine ⟨E2, h1.trans k1, fun id hd => h2 id (k2 id hd), k3, by simpa [frzEl2] using k4, ?_⟩
  intro i y hy
  cases i with
  | zero =>
   simp only [frzEl2, List.getElem?_cons_zero, Option.some.injEq] at hy
   subst hy
   exact ⟨x, rfl, h4, fun j b hb => let ⟨b', q4, q5⟩ := h4' j b hb; ⟨b', q4, fun v hv => (q5 v hv).mono k1⟩⟩
  | succ i =>
   simp only [frzEl2, List.getElem?_cons_succ] at hy
   obtain ⟨y', q1, q2, q3⟩ := k5 i y hy
   exact ⟨y', q1, q2, fun j b hb => let ⟨b', q4, q5⟩ := q3 j b hb; ⟨b', q4, fun v hv => q5 v (hv.mono h1)⟩⟩

theorem deep2_sound {E : Env} {hp : Hp} (hr : Rel w0 K0 D E n fr hp a w) (x : AV) :
  ∃ E', E.le E' ∧ (∀ id, E'.dom id → E.dom id) ∧ Rel w0 K0 D E' n fr (deep2 hp x).2 a w ∧ ∀ v, Con E x v → Con E' (deep2 hp x).1 v := by
 cases x with
 | lst sz xs =>
  obtain ⟨E', h1, h2, h3, h4, h5⟩ := frzEl2_sound xs E hp hr
  refine ⟨E', h1, h2, h3, fun v hv => ?_⟩
  cases hv with
  | lst _ _ A m c ad y hn hc hA hs hk h1' hh =>
   refine .lst _ _ A m c ad y (h4.trans hn) hc (fun hne => hA (fun e => hne (List.eq_nil_of_length_eq_zero (by rw [h4, e]; rfl)))) ?_ ?_ ?_ ?_
   ·intro i x hx
    obtain ⟨y', q1, q2, _⟩ := h5 i x hx
    exact q2.trans (hs i y' q1)
   ·intro i x j b hx hb
    obtain ⟨y', q1, _, q3⟩ := h5 i x hx
    obtain ⟨b', q4, _⟩ := q3 j b hb
    exact kcell_mono h1.K (hk i y' j b' q1 q4)
   ·intro i x j b hx hb
    obtain ⟨y', q1, _, q3⟩ := h5 i x hx
    obtain ⟨b', q4, _⟩ := q3 j b hb
    exact h1' i y' j b' q1 q4
   ·intro i x j b hx hb
    obtain ⟨y', q1, _, q3⟩ := h5 i x hx
    obtain ⟨b', q4, q5⟩ := q3 j b hb
    exact q5 _ (hh i y' j b' q1 q4)
 | _ => exact ⟨E, Env.le.refl E, fun _ h => h, hr, fun _ h => h⟩

theorem deep2s_sound : ∀ (args : List AV) (E : Env) (hp : Hp), Rel w0 K0 D E n fr hp a w → ∀ (vs : List Value), args.length = vs.length → (∀ (i : Nat) (x : AV) (v : Value), args[i]? = some x → vs[i]? = some v → Con E x v) →
  ∃ E', E.le E' ∧ (∀ id, E'.dom id → E.dom id) ∧ Rel w0 K0 D E' n fr (deep2s hp args).2 a w ∧ (deep2s hp args).1.length = vs.length ∧ ∀ (i : Nat) (x : AV) (v : Value), (deep2s hp args).1[i]? = some x → vs[i]? = some v → Con E' x v
 | [], E, hp, hr, vs, hl, h => ⟨E, Env.le.refl E, fun _ h => h, hr, hl, fun i x v hx => by simp [deep2s] at hx⟩
 | x :: r, E, hp, hr, [], hl, h => by simp at hl
 | x :: r, E, hp, hr, v :: vs, hl, h => by
  obtain ⟨E1, h1, h2, h3, h4⟩ := deep2_sound hr x
  obtain ⟨E2, k1, k2, k3, k4, k5⟩ := deep2s_sound r E1 (deep2 hp x).2 h3 vs (by simpa using hl) fun i y u hy hu => (h (i + 1) y u (by simpa using hy) (by simpa using hu)).mono h1
  refine ⟨E2, h1.trans k1, fun id hd => h2 id (k2 id hd), k3, by simpa [deep2s] using k4, ?_⟩
  intro i y u hy hu
  cases i with
  | zero =>
   simp only [deep2s, List.getElem?_cons_zero, Option.some.injEq] at hy hu
   subst hy; subst hu
   exact (h4 v (h 0 x v rfl rfl)).mono k1
  | succ i =>
   simp only [deep2s, List.getElem?_cons_succ] at hy hu
   exact k5 i y u hy hu
end
theorem subL_get : ∀ {xs ys : List AV}, subL xs ys → ys.length = xs.length ∧ ∀ (j : Nat) (b : AV), ys[j]? = some b → ∃ b', xs[j]? = some b' ∧ sub1 b' b
 | [], [], _ => ⟨rfl, fun j b hb => by simp at hb⟩
 | x :: xs, y :: ys, h => by
  obtain ⟨h1, h2⟩ := subL_get h.2
  refine ⟨by simpa using h1, fun j b hb => ?_⟩
  cases j with
  | zero =>
   simp only [List.getElem?_cons_zero, Option.some.injEq] at hb
   subst hb
   exact ⟨x, rfl, h.1⟩
  | succ j => exact h2 j b (by simpa using hb)
 | [], _ :: _, h => h.elim
 | _ :: _, [], h => h.elim

theorem sub1_cells {x y : AV} (h : sub1 x y) : (x = y) ∨ (x.cells = [x] ∧ y.cells = [y]) := by
 unfold sub1 at h
 split at h
 ·exact .inr ⟨rfl, rfl⟩
 ·exact .inl h
theorem sub1_refl (x : AV) : sub1 x x := by
 have h : ∀ x y : AV, x = y → sub1 x y := by
  intro x y e
  unfold sub1
  split
  ·cases e
  ·exact e
 exact h x x rfl
theorem subB_get {x y : AV} (h : subB x y) : y.cells.length = x.cells.length ∧ ∀ (j : Nat) (b : AV), y.cells[j]? = some b → ∃ b', x.cells[j]? = some b' ∧ sub1 b' b := by
 unfold subB at h
 split at h
 ·exact subL_get h
 ·rcases sub1_cells h with rfl | ⟨e1, e2⟩
  ·exact ⟨rfl, fun j b hb => ⟨b, hb, sub1_refl b⟩⟩
  ·rw [e1, e2]
   refine ⟨rfl, fun j b hb => ?_⟩
   cases j with
   | zero =>
    simp only [List.getElem?_cons_zero, Option.some.injEq] at hb
    subst hb
    exact ⟨x, rfl, h⟩
   | succ j => simp at hb
theorem subEls_get : ∀ {xs ys : List AV}, subEls xs ys → ys.length = xs.length ∧ ∀ (j : Nat) (b : AV), ys[j]? = some b → ∃ b', xs[j]? = some b' ∧ subB b' b
 | [], [], _ => ⟨rfl, fun j b hb => by simp at hb⟩
 | x :: xs, y :: ys, h => by
  obtain ⟨h1, h2⟩ := subEls_get h.2
  refine ⟨by simpa using h1, fun j b hb => ?_⟩
  cases j with
  | zero =>
   simp only [List.getElem?_cons_zero, Option.some.injEq] at hb
   subst hb
   exact ⟨x, rfl, h.1⟩
  | succ j => exact h2 j b (by simpa using hb)
 | [], _ :: _, h => h.elim
 | _ :: _, [], h => h.elim

theorem subEls_key {xs ys : List AV} (h : subEls xs ys) {i : Nat} {y : AV} {j : Nat} {b : AV} (hy : ys[i]? = some y) (hb : y.cells[j]? = some b) : ∃ x' b', xs[i]? = some x' ∧ x'.cells[j]? = some b' ∧ sub1 b' b := by
 obtain ⟨x', q1, q2⟩ := (subEls_get h).2 i y hy
 obtain ⟨b', q5, q6⟩ := (subB_get q2).2 j b hb
 exact ⟨x', b', q1, q5, q6⟩
theorem subDs_con {E : Env} {x y : AV} {v : Value} (h : subDs x y) (hx : Con E x v) : Con E y v := by
 unfold subDs at h
 split at h
 ·obtain ⟨rfl, h⟩ := h
  obtain ⟨g1, g2⟩ := subEls_get h
  cases hx with
  | lst _ _ A m c ad z hn hc hA hs hk h1' hh =>
   refine .lst _ _ A m c ad z (g1.trans hn) hc (fun hne => hA (fun e => hne (List.eq_nil_of_length_eq_zero (by rw [g1, e]; rfl)))) ?_ ?_ ?_ ?_
   ·intro i y hy
    obtain ⟨x', q1, q2⟩ := g2 i y hy
    exact (subB_get q2).1.trans (hs i x' q1)
   ·intro i y j b hy hb
    obtain ⟨x', b', q1, q2, q3⟩ := subEls_key h hy hb
    exact hk i x' j b' q1 q2
   ·intro i y j b hy hb
    obtain ⟨x', b', q1, q2, q3⟩ := subEls_key h hy hb
    exact h1' i x' j b' q1 q2
   ·intro i y j b hy hb
    obtain ⟨x', b', q1, q2, q3⟩ := subEls_key h hy hb
    exact sub1_con q3 (hh i x' j b' q1 q2)
 ·exact sub1_con h hx

theorem subD_con {E : Env} : ∀ {xs ys : List AV} {vs : List Value}, subD xs ys → xs.length = vs.length → (∀ (i : Nat) (x : AV) (v : Value), xs[i]? = some x → vs[i]? = some v → Con E x v) →
  ys.length = vs.length ∧ ∀ (i : Nat) (x : AV) (v : Value), ys[i]? = some x → vs[i]? = some v → Con E x v
 | [], [], vs, _, hl, h => ⟨hl, h⟩
 | x :: xs, y :: ys, [], _, hl, _ => by simp at hl
 | x :: xs, y :: ys, v :: vs, hs, hl, h => by
  obtain ⟨h1, h2⟩ := subD_con (vs := vs) hs.2 (by simpa using hl) fun i x' v' hx hv => h (i + 1) x' v' (by simpa using hx) (by simpa using hv)
  refine ⟨by simpa using h1, fun i x' v' hx hv => ?_⟩
  cases i with
  | zero =>
   simp only [List.getElem?_cons_zero, Option.some.injEq] at hx hv
   subst hx; subst hv
   exact subDs_con hs.1 (h 0 x v rfl rfl)
  | succ i => exact h2 i x' v' (by simpa using hx) (by simpa using hv)
 | [], _ :: _, _, hs, _, _ => hs.elim
 | _ :: _, [], _, hs, _, _ => hs.elim

def conA (hp1 : List AV × Hp) (nx : Nat) (tgt : List AV) (r : AV) (K : AV → Hp → Nat → Prop) : Prop := subD hp1.1 tgt ∧ K r hp1.2 nx
def conF (F : CallF) (g0 : FuncId) (tgt : List AV) (r : AV) : CallF := fun g args hp nx K =>
 match Nat.beq g g0 with
 | true => conA (deep2s (frzDeep hp args).2 (frzDeep hp args).1) nx tgt r K
 | false => F g args hp nx K
theorem r_con {F : CallF} {g g0 : Nat} {tgt : List AV} {r : AV} {args : List AV} {hp : Hp} {nx : Nat} {K : AV → Hp → Nat → Prop} : conF F g0 tgt r g args hp nx K = match Nat.beq g g0 with
 | true => conA (deep2s (frzDeep hp args).2 (frzDeep hp args).1) nx tgt r K
 | false => F g args hp nx K := rfl

theorem con_sound {X : Ctx} {F : CallF} (hC : CallSound X F) {g0 : FuncId} {tgt : List AV} {r : AV} (he : Enters X.P g0) (hf : ∀ a ∈ tgt, HFree a) (hp0 : PureC X.P g0 tgt r) : CallSound X (conF F g0 tgt r) := by
 intro g args hp nx K h w0 K0 E n fr a w vs hr ha
 unfold conF at h
 split at h
 ·rename_i hg
  have hg := Nat.eq_of_beq_eq_true hg
  subst hg
  obtain ⟨hs, hK⟩ := h
  obtain ⟨E1, e1, e2, e3, e4, e5⟩ := frzArgs_sound args E hp hr vs.toList (by simpa using ha.1) fun i x v hx hv => ha.2 i x v hx (by simpa using hv)
  obtain ⟨E2, d1, d2, d3, d4, d5⟩ := deepArgs_sound (frzArgs hp args).1 E1 (frzArgs hp args).2 e3 vs.toList e4 e5
  obtain ⟨E3, f1, f2, f3, f4, f5⟩ := deep2s_sound (frzDeep hp args).1 E2 (frzDeep hp args).2 d3 vs.toList d4 d5
  obtain ⟨g1, g2⟩ := subD_con hs f4 f5
  refine ⟨he, (hp0 w E3.K vs f3.kw ⟨by simpa using g1, fun i x v hx hv => hf x (List.mem_of_getElem? hx) E3 v (g2 i x v hx (by simpa using hv))⟩).mono ?_⟩
  rintro e w' ⟨v, rfl, hb, hc⟩
  obtain ⟨hle, hr'⟩ := f3.call hb
  exact ⟨v, r, _, nx, _, rfl, hK, ⟨((e1.trans d1).trans f1).trans hle, Nat.le_refl _, fun id hd => .inl (e2 id (d2 id (f2 id hd)))⟩, hc.monoc (Env.bare_le _ fun _ _ hk => hk), hr'⟩
 ·exact hC g args hp nx K h w0 K0 E n fr a w vs hr ha

theorem pure_subF {X : Ctx} (hX : X.ok) {F : CallF} (hF : CallSound X F) {g : FuncId} {fn : Func} {body : Code} (hfn : X.P.funcs[g]? = some fn) (hb : fn.body = some body) {args : List AV} {r : AV} (hl : args.length ≤ fn.ntmps)
  (h : codeA X F body (bodyQ X.T fn fun r0 hp _ => frz hp r0 (subA · r)) ⟨fn.ntmps, argFrm args 0, [], 0⟩) : PureC X.P g args r := by
 intro w K vs hK ha
 refine (body_calls hX.core hX.rd hF hfn hb hl h (hX.inv _ _) (rel_start hK) ha).mono ?_
 rintro e w' ⟨v, r0, hp', nx', E', rfl, h1, h2, h3, h4⟩
 obtain ⟨y, hy, hc⟩ := frz_sound h4 (K' := grow w K w') (fun b o hb => by
  simp only [grow]
  split
  ·rename_i hlt; exact h4.k0 b o hb hlt
  ·exact h4.kw b o hb) (fun b hb => by simp only [grow, if_neg (Nat.not_lt.2 hb)]) h3 h1
 exact ⟨v, rfl, h4.below, subA_con hy hc⟩
end Go.Vai
/- What the statements try first: all is as it should be. -/
namespace Go.Vai
open Go.RowKit Go.Proofs
set_option maxHeartbeats 4000000
set_option maxRecDepth 100000
def P1 : Po := (pPlay c1 t1 r1 b1).1
def L1 : List Ev := [⟨0, 0, 0⟩, ⟨2, 0, 0⟩, ⟨3, 1, 0⟩, ⟨4, 0, 0⟩, ⟨2, 1, 0⟩, ⟨4, 1, 0⟩, ⟨5, 0, 0⟩]
theorem p1_is : (pPlay c1 t1 r1 b1).2.2 = true := by decide +kernel
theorem p1_no : ((List.range 56).all fun n => !pRested (drn P1 n).1) = true := by decide +kernel
theorem p1_yes : pRested (drn P1 56).1 = true := by decide +kernel
theorem p1_ri : ((List.range 57).all fun n => decide (RIn (drn P1 n).1 (rnd 2 1 n))) = true := by decide +kernel
theorem p1_len : ((List.range 57).all fun n => decide ((drn P1 n).2.length ≤ 6 * n)) = true := by decide +kernel
theorem p1_r0 : RIn P1 [] := by decide +kernel
theorem p1_ev : (drn P1 56).2 = L1 := by decide +kernel
theorem p1_w : P1.c.w = 2 := by decide +kernel
theorem p1_s : P1.s.length = 1 := by decide +kernel
theorem calm1 : Calm P1 56 where
 n := by decide
 w := p1_w
 s := p1_s
 r0 := p1_r0
 ri := fun n hn => by
  have := List.all_eq_true.1 p1_ri n (List.mem_range.2 (by omega))
  simpa using this
 no := fun n hn => by
  have := List.all_eq_true.1 p1_no n (List.mem_range.2 hn)
  simpa using this
 yes := p1_yes
 len := fun n hn => by
  have := List.all_eq_true.1 p1_len n (List.mem_range.2 (by omega))
  simpa using this

def rowsAZ : List Row := [] ++ rowsAY
theorem rowsAZ_ok : ∀ p ∈ rowsAZ, RowOk Tryz.prog p := fun p h => by
 simp only [rowsAZ, List.mem_append, List.not_mem_nil, false_or] at h
 rcases h with h
 ·exact rowsAY_ok p h
theorem okAZ : (ctx Tryz.prog rowsAZ).ok := rows_ok rowsAZ_ok
theorem AZ_all : tabC rowsAZ 21 = (fun _ => none) ∧ tabC rowsAZ 22 = (row1 shPo fun p => if PB p 100000 then some (bv (pRested p)) else none) ∧ tabC rowsAZ 191 = (row1 shN fun e => some (.tup [u (wBump e), iv (wLow (wMask e))])) ∧ tabC rowsAZ 190 = (fun _ => none) ∧ tabC rowsAZ 192 = (fun _ => none) ∧ tabC rowsAZ 30 = (row1 shN fun e => some (u (wMask e))) := ⟨rfl, rfl, rfl, rfl, rfl, rfl⟩

theorem wr4 : IntKind.wrap .i64 4 = 4 := by decide
theorem wr5 : IntKind.wrap .i64 5 = 5 := by decide
theorem wr6 : IntKind.wrap .i64 6 = 6 := by decide
theorem wr7 : IntKind.wrap .i64 7 = 7 := by decide
theorem awake_pure : PureC Tryz.prog 6 [] (bv true) := by
 have hplay := play_pure c1 t1 r1 b1 (by decide) (by decide) (by decide)
 have hdrain := drain_pure P1 56 calm1
 have hpb : PB (drn P1 56).1 100000 := by
  have := (calm1.ri 56 (Nat.le_refl _)).b
  exact ⟨this.t, this.m, fun x hx => by have := this.w x hx; omega, this.s⟩
 have hyes := p1_yes
 rw [p1_ev] at hdrain
 rw [p1_is, show (pPlay c1 t1 r1 b1).1 = P1 from rfl] at hplay
 generalize (pPlay c1 t1 r1 b1).2.1 = L0 at hplay
 generalize drn P1 56 = D at hdrain hpb hyes
 generalize P1 = p at hplay hdrain
 obtain ⟨q, dl⟩ := D
 dsimp only at hdrain hpb hyes
 obtain ⟨⟨pw, pd, pi, ps⟩, pt, pm, pws, pss⟩ := p
 obtain ⟨⟨qw, qd, qi, qs⟩, qt, qm, qws, qss⟩ := q
 refine pure_subF okAZ (con_sound (con_sound (callN_sound okAZ.core okAZ.rd okAZ.inv 2) (g0 := 8) (enters_of Tryz.func8 (by decide) rfl) ?_ hplay) (g0 := 20) (enters_of Tryz.func20 (by decide) rfl) ?_ hdrain) Tryz.func6 rfl (by show 0 ≤ _; decide) ?_
 ·intro x hx
  simp only [List.mem_cons, List.not_mem_nil, or_false] at hx
  rcases hx with rfl | rfl | rfl | rfl
  ·exact hfree_cv _
  ·exact hf_tks _
  ·exact hfree_L 1 elZ _
  ·exact hfree_L 1 elBy _
 ·intro x hx
  simp only [List.mem_cons, List.not_mem_nil, or_false] at hx
  rcases hx with rfl | rfl
  ·exact elPo.free _
  ·exact hfree_v _
 simp only [Tryz.f6, Tryz.func21, Tryz.f21, r_con, conA, deep2s, deep2, frzEl2, frzEl, subD, subDs, inl, AZ_all, pov, tks, wks, sbs, ms, evs, L1, tt_all, cv', iv, bv, ms, ctx_T, ctx_C, ctx_P, Option.map_some, String.reduceBEq, Int.cast_ofNat_Int, ev1, ev2, undef, frzDeep, deepArgs, deepArg, cv, stepB, aopR, one, pre, argFrm, evo, lkp, hlk, lenOf, ofVal, ofCells, setCells, fillA, setElems, AV.wr, AV.ok1, TK.agg, frz, frz1, frzA, frzArg, frzArgs, subA, subB, sub1, List.replicate, Nat.reduceAdd, Nat.reduceMul, Nat.reduceEqDiff, Nat.reduceLT, Nat.reduceLeDiff, reduceCtorEq, eq_self, ne_eq]
 refine ⟨⟨rfl, ⟨⟨rfl, rfl, trivial⟩, ⟨rfl, rfl, trivial⟩, trivial⟩, ⟨rfl, rfl, trivial⟩, ⟨rfl, rfl, rfl, rfl, rfl, rfl, rfl, trivial⟩⟩, ?_⟩
 refine WP.rounds okAZ 1 8 (by rfl) ?_
 simp only [r_rounds, r_con, AZ_all, sx_all, hpb, hyes, ev', wr1, wr2, wr3, wr4, wr5, wr6, wr7, Int.reduceAdd, Int.reduceLT, Int.reduceToNat, List.length_cons, List.length_nil, Nat.reduceAdd, tt_all, row1, iv, bv, ctx_T, ctx_C, Option.bind_some, Int.cast_ofNat_Int, Int.reduceAdd, ev1, ev2, implies_true, undef, dynCall, ↓condE_t, ↓condE_f, ↓guardE_tt, ↓guardE_ff, resB, cv, stepB, stepE, guardB, guardC, dstAt, aopR, one, pre, binR, intOpR, evo, lkp, hlk, ofVal, ofCells, setCells, AV.wr, AV.ok1, TK.agg, accOf, Nat.reduceAdd, Nat.reduceMul, Nat.reduceEqDiff, Nat.reduceLT, Nat.reduceLeDiff, reduceCtorEq, eq_self, ne_eq, Int.reduceToNat, Int.reduceLT, Int.reduceLE, Int.reduceGE]
end Go.Vai
/- No more seek than there are: the law's own text. -/
namespace Go.Vai
open Go.RowKit Go.Proofs
set_option maxHeartbeats 4000000
set_option maxRecDepth 100000
def rowsB0 : List Row := [] ++ rowsAZ
theorem rowsB0_ok : ∀ p ∈ rowsB0, RowOk Tryz.prog p := fun p h => by
 simp only [rowsB0, List.mem_append, List.not_mem_nil, false_or] at h
 rcases h with h
 ·exact rowsAZ_ok p h
theorem okB0 : (ctx Tryz.prog rowsB0).ok := rows_ok rowsB0_ok
theorem B0_all : tabC rowsB0 26 = (fun _ => none) ∧ tabC rowsB0 40 = (fun _ => none) ∧ tabC rowsB0 191 = (row1 shN fun e => some (.tup [u (wBump e), iv (wLow (wMask e))])) ∧ tabC rowsB0 190 = (fun _ => none) ∧ tabC rowsB0 192 = (fun _ => none) ∧ tabC rowsB0 30 = (row1 shN fun e => some (u (wMask e))) := ⟨rfl, rfl, rfl, rfl, rfl, rfl⟩
theorem seeks_pure (x : Wk) : PureC Tryz.prog 9 [wv x] (bv (seeks x)) := by
 refine pure_sub okB0 3 Tryz.func9 rfl (by show 1 ≤ _; decide) ?_
 obtain ⟨pc, st, ⟨op, p, who, val, fx, fy, res⟩, sp, lk⟩ := x
 simp only [Tryz.f9, Tryz.func26, Tryz.f26, Tryz.func40, Tryz.f40, inl, B0_all, wv, its, tt_all, iv, bv, u, ctx_T, ctx_C, ctx_P, String.reduceBEq, Int.cast_ofNat_Int, Int.reduceNeg, ev1, ev2, implies_true, undef, frzDeep, deepArgs, deepArg, cv, stepB, aopR, one, pre, argFrm, evo, lkp, hlk, lenOf, ofVal, ofCells, setElems, AV.wr, AV.ok1, TK.agg, frz, frz1, frzA, frzArg, frzArgs, subA, subB, sub1, List.replicate, Nat.reduceAdd, Nat.reduceMul, Nat.reduceLT, Nat.reduceLeDiff, reduceCtorEq, eq_self, ne_eq]
 refine WP.rounds okB0 1 6 (by rfl) ?_
 unfold seeks
 dsimp only
 by_cases h2 : pc = 2
 ·subst h2
  simp only [r_rounds, Int.reduceLT, Int.reduceBEq, Int.reduceGE, List.length_cons, List.length_nil, Nat.reduceAdd, decide_true, tt_all, ctx_T, Int.cast_ofNat_Int, Int.reduceNeg, ev1, ev2, implies_true, undef, ↓condE_t, resB, cv, stepB, aopR, one, pre, binR, intOpR, evo, lkp, hlk, ofCells, TK.agg, Nat.reduceAdd, Nat.reduceLT, Nat.reduceLeDiff, reduceCtorEq, eq_self, ne_eq, Int.reduceLT, Int.reduceLE, Int.reduceGE, Int.reduceBEq]
  all_goals ((repeat' apply And.intro) <;> first | rfl | omega | (show (_ : Bool) = true; kernel_rfl) | decide)
 have e2 : (pc == 2) = false := by simpa using h2
 by_cases h3 : pc = 3
 ·subst h3
  simp only [r_rounds, wr1, Int.reduceAdd, Int.reduceLT, Int.reduceBEq, Int.reduceGE, Int.reduceToNat, List.length_cons, List.length_nil, Nat.reduceAdd, decide_true, tt_all, ctx_T, Int.cast_ofNat_Int, Int.reduceAdd, Int.reduceNeg, ev1, ev2, implies_true, undef, ↓condE_t, ↓condE_f, resB, cv, stepB, aopR, one, pre, binR, intOpR, evo, lkp, hlk, ofCells, TK.agg, Nat.reduceAdd, Nat.reduceLT, Nat.reduceLeDiff, reduceCtorEq, eq_self, ne_eq, Int.reduceToNat, Int.reduceLT, Int.reduceLE, Int.reduceGE, Int.reduceBEq]
  all_goals ((repeat' apply And.intro) <;> first | rfl | omega | (show (_ : Bool) = true; kernel_rfl) | decide)
 have e3 : (pc == 3) = false := by simpa using h3
 by_cases h4 : pc = 4
 ·subst h4
  simp only [r_rounds, wr1, wr2, Int.reduceAdd, Int.reduceLT, Int.reduceBEq, Int.reduceGE, Int.reduceToNat, List.length_cons, List.length_nil, Nat.reduceAdd, decide_true, tt_all, ctx_T, Int.cast_ofNat_Int, Int.reduceAdd, Int.reduceNeg, ev1, ev2, implies_true, undef, ↓condE_t, ↓condE_f, resB, cv, stepB, aopR, one, pre, binR, intOpR, evo, lkp, hlk, ofCells, TK.agg, Nat.reduceAdd, Nat.reduceLT, Nat.reduceLeDiff, reduceCtorEq, eq_self, ne_eq, Int.reduceToNat, Int.reduceLT, Int.reduceLE, Int.reduceGE, Int.reduceBEq]
  all_goals ((repeat' apply And.intro) <;> first | rfl | omega | (show (_ : Bool) = true; kernel_rfl) | decide)
 have e4 : (pc == 4) = false := by simpa using h4
 by_cases h5 : pc = 5
 ·subst h5
  simp only [r_rounds, wr1, wr2, wr3, Int.reduceAdd, Int.reduceLT, Int.reduceBEq, Int.reduceGE, Int.reduceToNat, List.length_cons, List.length_nil, Nat.reduceAdd, decide_true, tt_all, ctx_T, Int.cast_ofNat_Int, Int.reduceAdd, Int.reduceNeg, ev1, ev2, implies_true, undef, ↓condE_t, ↓condE_f, resB, cv, stepB, aopR, one, pre, binR, intOpR, evo, lkp, hlk, ofCells, TK.agg, Nat.reduceAdd, Nat.reduceLT, Nat.reduceLeDiff, reduceCtorEq, eq_self, ne_eq, Int.reduceToNat, Int.reduceLT, Int.reduceLE, Int.reduceGE, Int.reduceBEq]
  all_goals ((repeat' apply And.intro) <;> first | rfl | omega | (show (_ : Bool) = true; kernel_rfl) | decide)
 have e5 : (pc == 5) = false := by simpa using h5
 by_cases h6 : pc = 6
 ·subst h6
  simp only [r_rounds, wr1, wr2, wr3, wr4, Int.reduceAdd, Int.reduceLT, Int.reduceBEq, Int.reduceGE, Int.reduceToNat, List.length_cons, List.length_nil, Nat.reduceAdd, decide_true, tt_all, ctx_T, Int.cast_ofNat_Int, Int.reduceAdd, Int.reduceNeg, ev1, ev2, implies_true, undef, ↓condE_t, ↓condE_f, resB, cv, stepB, aopR, one, pre, binR, intOpR, evo, lkp, hlk, ofCells, TK.agg, Nat.reduceAdd, Nat.reduceLT, Nat.reduceLeDiff, reduceCtorEq, eq_self, ne_eq, Int.reduceToNat, Int.reduceLT, Int.reduceLE, Int.reduceGE, Int.reduceBEq]
  all_goals ((repeat' apply And.intro) <;> first | rfl | omega | (show (_ : Bool) = true; kernel_rfl) | decide)
 have e6 : (pc == 6) = false := by simpa using h6
 simp only [r_rounds, e2, e3, e4, e5, e6, wr1, wr2, wr3, wr4, wr5, Int.reduceAdd, Int.reduceLT, Int.reduceGE, Int.reduceToNat, Int.reduceNeg, List.length_cons, List.length_nil, Nat.reduceAdd, decide_true, decide_false, Bool.or_false, tt_all, ctx_T, Int.cast_ofNat_Int, Int.reduceAdd, Int.reduceNeg, ev1, ev2, implies_true, undef, ↓condE_t, ↓condE_f, resB, cv, stepB, aopR, one, pre, binR, intOpR, evo, lkp, hlk, ofCells, TK.agg, Nat.reduceAdd, Nat.reduceLT, Nat.reduceLeDiff, reduceCtorEq, eq_self, ne_eq, Int.reduceToNat, Int.reduceLT, Int.reduceLE, Int.reduceGE]
 all_goals ((repeat' apply And.intro) <;> first | rfl | omega | (show (_ : Bool) = true; kernel_rfl) | decide)

def rowsBA : List Row := [
 (6, row0 (bv true)), 
 (23, row1 shT fun t => some (bv (few t))), 
 (24, row1 shZss fun t => some (bv (fewR t))), 
 (8, row4 shC shT shZss shBy fun c t r b => if tB t = true ∧ rtB r = true ∧ b.length ≤ 1500 then some (.tup [pov (pPlay c t r b).1, evs (pPlay c t r b).2.1, bv (pPlay c t r b).2.2]) else none), 
 (9, row1 shWk fun x => some (bv (seeks x)))] ++ rowsB0
theorem rowsBA_ok : ∀ p ∈ rowsBA, RowOk Tryz.prog p := fun p h => by
 simp only [rowsBA, List.mem_append, List.mem_cons, List.not_mem_nil, or_false, or_assoc] at h
 rcases h with rfl | rfl | rfl | rfl | rfl | h
 ·exact ok_row0 (enters_of Tryz.func6 (by decide) rfl) awake_pure
 ·exact ok_row1 (enters_of Tryz.func23 (by decide) rfl) fun t r _ e => by cases e; exact few_pure t
 ·exact ok_row1 (enters_of Tryz.func24 (by decide) rfl) fun t r _ e => by cases e; exact fewr_pure t
 ·exact ok_row4 (enters_of Tryz.func8 (by decide) rfl) fun c t r b q _ _ _ _ e => by obtain ⟨h, rfl⟩ := opt_if e; exact play_pure c t r b h.1 h.2.1 h.2.2
 ·exact ok_row1 (enters_of Tryz.func9 (by decide) rfl) fun x r _ e => by cases e; exact seeks_pure x
 ·exact rowsB0_ok p h
theorem okBA : (ctx Tryz.prog rowsBA).ok := rows_ok rowsBA_ok
theorem BA_all : tabC rowsBA 6 = (row0 (bv true)) ∧ tabC rowsBA 23 = (row1 shT fun t => some (bv (few t))) ∧ tabC rowsBA 24 = (row1 shZss fun t => some (bv (fewR t))) ∧ tabC rowsBA 8 = (row4 shC shT shZss shBy fun c t r b => if tB t = true ∧ rtB r = true ∧ b.length ≤ 1500 then some (.tup [pov (pPlay c t r b).1, evs (pPlay c t r b).2.1, bv (pPlay c t r b).2.2]) else none) ∧ tabC rowsBA 9 = (row1 shWk fun x => some (bv (seeks x))) ∧ tabC rowsBA 7 = (fun _ => none) ∧ tabC rowsBA 26 = (fun _ => none) ∧ tabC rowsBA 40 = (fun _ => none) ∧ tabC rowsBA 10 = (row1 shWk fun x => some (bv (wkPark x))) ∧ tabC rowsBA 191 = (row1 shN fun e => some (.tup [u (wBump e), iv (wLow (wMask e))])) ∧ tabC rowsBA 11 = (row3 shC shM shI fun c m w => some (bv (wWaits c m w))) ∧ tabC rowsBA 190 = (fun _ => none) ∧ tabC rowsBA 192 = (fun _ => none) ∧ tabC rowsBA 30 = (row1 shN fun e => some (u (wMask e))) ∧ tabC rowsBA 13 = (row2 shC shI fun c w => some (iv (lPark c w))) ∧ tabC rowsBA 12 = (row2 shM shI fun m i => some (u (mLoad m i))) := ⟨rfl, rfl, rfl, rfl, rfl, rfl, rfl, rfl, rfl, rfl, rfl, rfl, rfl, rfl, rfl, rfl⟩

theorem few_tB {t : List Tk} (h : few t = true) : tB t = true := by
 simp only [few, Bool.and_eq_true, decide_eq_true_eq] at h
 obtain ⟨h1, h2⟩ := h
 rw [List.take_of_length_le (by omega)] at h1
 unfold tB
 rw [List.all_eq_true] at h1 ⊢
 intro x hx
 have := h1 x hx
 simp only [okKd, decide_eq_true_eq] at this ⊢
 omega
theorem fewR_rtB {l : List (List Int)} (h : fewR l = true) : rtB l = true := by
 simp only [fewR, Bool.and_eq_true, decide_eq_true_eq] at h
 obtain ⟨h1, h2⟩ := h
 rw [List.take_of_length_le (by omega)] at h1
 unfold rtB
 rw [List.all_eq_true] at h1 ⊢
 intro x hx
 have := h1 x hx
 simp only [okRt, decide_eq_true_eq] at this ⊢
 omega
end Go.Vai
/- No more seek than there are: the law. -/
namespace Go.Vai
open Go.RowKit Go.Proofs
set_option maxHeartbeats 4000000
set_option maxRecDepth 100000
theorem run_slen (p : Po) (l : List Pk) : (pRun p l).1.s.length = p.s.length := by
 unfold pRun
 have : ∀ (l : List Pk) (a : Po × List Ev), (l.foldl (fun a k => ((pGo a.1 k).1, a.2 ++ (pGo a.1 k).2)) a).1.s.length = a.1.s.length := by
  intro l
  induction l with
  | nil => intro a; rfl
  | cons k r ih =>
   intro a
   exact (ih _).trans (go_cw a.1 k).2.2
 exact this l (p, [])

theorem play_si {c : Cf} {t : List Tk} {r : List (List Int)} {b : List Int} (h : (pPlay c t r b).2.2 = true) : SI (pPlay c t r b).1 ∧ (pPlay c t r b).1.c = c ∧ (pPlay c t r b).1.s.length ≤ 3 := by
 unfold pPlay at h ⊢
 split at h
 ·rename_i hn
  rw [if_pos hn]
  have hm : mayC c = true ∧ r.length ≤ 3 := by
   unfold pNew at hn
   split at hn
   ·rename_i hc; exact ⟨hc.1, hc.2.2.1⟩
   ·cases hn
  obtain ⟨hm, hr3⟩ := hm
  obtain ⟨h1, h2, _⟩ := (SI.new (t := t) (roots := r) hm).run (decode b)
  exact ⟨h1, h2, by rw [run_slen]; show (r.map newS).length ≤ 3; rw [List.length_map]; exact hr3⟩
 ·cases h

def sOp (x : Wk) : Bool := seeks x || wkPark x

theorem cnt_succ {α : Type} (q : α → Bool) (d : α) {l : List α} {i : Nat} (h : i < l.length) : (l.take (i + 1)).countP q = (l.take i).countP q + (q (l.getD i d)).toNat := by
 rw [List.take_add_one, List.countP_append]
 congr 1
 simp only [List.getElem?_eq_getElem h, Option.toList_some, List.getD_eq_getElem?_getD, Option.getD_some]
 cases hq : q l[i] <;> simp [hq]

theorem search_law (c : Cf) (t : List Tk) (roots : List (List Int)) (b : List Int) (w : Int) : PureC Tryz.prog 3 [cv' c, tks t, zss roots, bys b, iv w] (bv true) := by
  refine pure_sub okBA 2 Tryz.func3 rfl (by show 5 ≤ _; decide) ?_
  cases h1 : few t with
  | false =>
    simp only [Tryz.f3, Tryz.func7, Tryz.f7, inl, BA_all, row0, sx_all, h1, tks, zss, bys, tt_all, cv', row0, row1, iv, bv, ctx_T, ctx_C, ctx_P, Option.bind_some, String.reduceBEq, ev1, ev2, undef, ↓condE_t, ↓guardE_ff, ↓guardE_tf, ↓guardE_ft, frzDeep, deepArgs, deepArg, resB, cv, stepB, guardB, guardC, dstAt, aopR, one, unR, argFrm, evo, lkp, AV.wr, AV.ok1, frz, frz1, frzA, frzArg, frzArgs, subA, subB, sub1, Nat.reduceAdd, Nat.reduceLT, Nat.reduceLeDiff, reduceCtorEq, eq_self, ne_eq]
    all_goals ((repeat' apply And.intro) <;> first | rfl | omega | (show (_ : Bool) = true; kernel_rfl) | decide)
  | true =>
    cases h2 : fewR roots with
    | false =>
      simp only [Tryz.f3, Tryz.func7, Tryz.f7, inl, BA_all, row0, sx_all, h1, h2, tks, zss, bys, tt_all, cv', row0, row1, iv, bv, ctx_T, ctx_C, ctx_P, Option.bind_some, String.reduceBEq, ev1, ev2, undef, ↓condE_t, ↓guardE_tt, ↓guardE_ff, ↓guardE_tf, frzDeep, deepArgs, deepArg, resB, cv, stepB, guardB, guardC, dstAt, aopR, one, unR, argFrm, evo, lkp, AV.wr, AV.ok1, frz, frz1, frzA, frzArg, frzArgs, subA, subB, sub1, Nat.reduceAdd, Nat.reduceLT, Nat.reduceLeDiff, reduceCtorEq, eq_self, ne_eq]
      all_goals ((repeat' apply And.intro) <;> first | rfl | omega | (show (_ : Bool) = true; kernel_rfl) | decide)
    | true =>
      have htb := few_tB h1
      have hrt := fewR_rtB h2
      by_cases h3 : (b.length : Int) > 1500
      · simp only [Tryz.f3, Tryz.func7, Tryz.f7, inl, BA_all, row0, sx_all, h1, h2, h3, decide_true, tks, zss, bys, List.length_map, tt_all, cv', row0, row1, iv, bv, ctx_T, ctx_C, ctx_P, Option.bind_some, List.length_map, String.reduceBEq, ev1, ev2, undef, ↓condE_t, ↓guardE_tt, ↓guardE_ff, frzDeep, deepArgs, deepArg, resB, cv, stepB, guardB, guardC, dstAt, aopR, one, pre, binR, intOpR, unR, argFrm, evo, lkp, lenOf, AV.wr, AV.ok1, frz, frz1, frzA, frzArg, frzArgs, subA, subB, sub1, Nat.reduceAdd, Nat.reduceLT, Nat.reduceLeDiff, reduceCtorEq, eq_self, ne_eq]
        all_goals ((repeat' apply And.intro) <;> first | rfl | omega | (show (_ : Bool) = true; kernel_rfl) | decide)
      · have h3' : b.length ≤ 1500 := by omega
        have hpl : (tB t = true ∧ rtB roots = true ∧ b.length ≤ 1500) := ⟨htb, hrt, h3'⟩
        have hsi := @play_si c t roots b
        generalize hP : pPlay c t roots b = P at *
        obtain ⟨⟨⟨qw, qd, qi, qs⟩, qt, qm, qws, qss⟩, L, is⟩ := P
        dsimp only at hsi
        cases is with
        | false =>
          simp only [Tryz.f3, Tryz.func7, Tryz.f7, inl, BA_all, row0, sx_all, shBy_dec, h1, h2, h3, hpl, hP, and_self, decide_false, pov, evs, wks, sbs, ms, tks, zss, bys, List.length_map, tt_all, cv', cf_eta, shC_dec, dC, row0, row1, row4, iv, bv, ms, ctx_T, ctx_C, ctx_P, Option.bind_some, List.length_map, String.reduceBEq, ev1, ev2, undef, ↓condE_t, ↓condE_f, ↓guardE_tt, ↓guardE_ff, ↓guardE_tf, frzDeep, deepArgs, deepArg, resB, cv, stepB, guardB, guardC, dstAt, aopR, one, pre, binR, intOpR, unR, argFrm, evo, lkp, hlk, lenOf, ofVal, ofCells, setCells, AV.wr, AV.ok1, TK.agg, frz, frz1, frzA, frzArg, frzArgs, subA, subB, sub1, Nat.reduceAdd, Nat.reduceEqDiff, Nat.reduceLT, Nat.reduceLeDiff, reduceCtorEq, eq_self, ne_eq]
          all_goals ((repeat' apply And.intro) <;> first | rfl | omega | (show (_ : Bool) = true; kernel_rfl) | decide)
        | true =>
          obtain ⟨hS, hc, hs3⟩ := hsi rfl
          clear hsi
          try dsimp only at hs3
          by_cases h4 : w < 0
          · simp only [Tryz.f3, Tryz.func7, Tryz.f7, inl, BA_all, row0, sx_all, shBy_dec, h1, h2, h3, h4, hpl, hP, and_self, decide_true, decide_false, pov, evs, wks, sbs, ms, tks, zss, bys, List.length_map, tt_all, cv', cf_eta, shC_dec, dC, row0, row1, row4, iv, bv, ms, ctx_T, ctx_C, ctx_P, Option.bind_some, List.length_map, String.reduceBEq, ev1, ev2, undef, ↓condE_t, ↓condE_f, ↓guardE_tt, ↓guardE_ff, ↓guardE_tf, frzDeep, deepArgs, deepArg, resB, cv, stepB, guardB, guardC, dstAt, aopR, one, pre, binR, intOpR, unR, argFrm, evo, lkp, hlk, lenOf, ofVal, ofCells, setCells, AV.wr, AV.ok1, TK.agg, frz, frz1, frzA, frzArg, frzArgs, subA, subB, sub1, Nat.reduceAdd, Nat.reduceEqDiff, Nat.reduceLT, Nat.reduceLeDiff, reduceCtorEq, eq_self, ne_eq]
            all_goals ((repeat' apply And.intro) <;> first | rfl | omega | (show (_ : Bool) = true; kernel_rfl) | decide)
          · by_cases h5 : w ≥ qws.length
            · simp only [Tryz.f3, Tryz.func7, Tryz.f7, inl, BA_all, row0, sx_all, shBy_dec, h1, h2, h3, h4, h5, hpl, hP, and_self, decide_true, decide_false, pov, evs, wks, sbs, ms, tks, zss, bys, List.length_map, tt_all, cv', cf_eta, shC_dec, dC, row0, row1, row4, iv, bv, ms, ctx_T, ctx_C, ctx_P, Option.bind_some, List.length_map, String.reduceBEq, ev1, ev2, implies_true, undef, ↓condE_t, ↓condE_f, ↓guardE_tt, ↓guardE_ff, ↓guardE_tf, frzDeep, deepArgs, deepArg, resB, cv, stepB, guardB, guardC, dstAt, aopR, one, pre, binR, intOpR, unR, argFrm, evo, lkp, hlk, lenOf, ofVal, ofCells, setCells, AV.wr, AV.ok1, TK.agg, frz, frz1, frzA, frzArg, frzArgs, subA, subB, sub1, Nat.reduceAdd, Nat.reduceEqDiff, Nat.reduceLT, Nat.reduceLeDiff, reduceCtorEq, eq_self, ne_eq]
              all_goals ((repeat' apply And.intro) <;> first | rfl | omega | (show (_ : Bool) = true; kernel_rfl) | decide)
            · by_cases h6 : w > 7
              · simp only [Tryz.f3, Tryz.func7, Tryz.f7, inl, BA_all, row0, sx_all, shBy_dec, h1, h2, h3, h4, h5, h6, hpl, hP, and_self, decide_true, decide_false, pov, evs, wks, sbs, ms, tks, zss, bys, List.length_map, tt_all, cv', cf_eta, shC_dec, dC, row0, row1, row4, iv, bv, ms, ctx_T, ctx_C, ctx_P, Option.bind_some, List.length_map, String.reduceBEq, ev1, ev2, implies_true, undef, ↓condE_t, ↓condE_f, ↓guardE_tt, ↓guardE_ff, frzDeep, deepArgs, deepArg, resB, cv, stepB, guardB, guardC, dstAt, aopR, one, pre, binR, intOpR, unR, argFrm, evo, lkp, hlk, lenOf, ofVal, ofCells, setCells, AV.wr, AV.ok1, TK.agg, frz, frz1, frzA, frzArg, frzArgs, subA, subB, sub1, Nat.reduceAdd, Nat.reduceEqDiff, Nat.reduceLT, Nat.reduceLeDiff, reduceCtorEq, eq_self, ne_eq]
                all_goals ((repeat' apply And.intro) <;> first | rfl | omega | (show (_ : Bool) = true; kernel_rfl) | decide)
              · simp only [Tryz.f3, Tryz.func7, Tryz.f7, inl, BA_all, row0, sx_all, shBy_dec, h1, h2, h3, h4, h5, h6, hpl, hP, and_self, decide_false, pov, evs, wks, sbs, ms, tks, zss, bys, List.length_map, tt_all, cv', cf_eta, shC_dec, dC, row0, row1, row4, iv, bv, ms, ctx_T, ctx_C, ctx_P, Option.bind_some, List.length_map, String.reduceBEq, ev1, ev2, implies_true, undef, ↓condE_f, ↓guardE_tt, ↓guardE_ff, frzDeep, deepArgs, deepArg, resB, cv, stepB, guardB, guardC, dstAt, aopR, one, pre, binR, intOpR, unR, argFrm, evo, lkp, hlk, lenOf, ofVal, ofCells, setCells, AV.wr, AV.ok1, TK.agg, frz, frz1, frzA, frzArg, frzArgs, subA, subB, sub1, Nat.reduceAdd, Nat.reduceEqDiff, Nat.reduceLT, Nat.reduceLeDiff, reduceCtorEq, eq_self, ne_eq]
                try dsimp only at hc
                subst hc
                obtain ⟨wn, rfl⟩ : ∃ n : Nat, w = (n : Int) := ⟨w.toNat, by omega⟩
                have hwn : wn < qws.length := by omega
                have hw8 : qws.length ≤ 8 := by have a := hS.wl; have b := hS.mi.w8; dsimp only at a b; omega
                have hml : qm.length ≤ 1000 := by
                  have l0 : Lay ⟨qw, qd, qi, qs⟩ qm 0 := ⟨hS.mi.may, hS.mi.len, Int.le_refl _, by have := mayC_iff.1 hS.mi.may; dsimp only at this ⊢; omega⟩
                  have := l0.small
                  omega
                refine WP.loop (ι := Nat) (fun i => qws.length - i) (fun i => i ≤ qws.length) (n := 231)
                  (fr := fun i => [(17, iv i), (16, iv ((qws.take i).countP sOp : Nat)), (13, .ptr 40 0 0), (5, .ptr 0 0 0), (4, iv wn)])
                  (hp := fun i => [(40, some ⟨false, 34, 8, [pov ⟨⟨qw, qd, qi, qs⟩, qt, qm, qws, qss⟩]⟩), (0, some ⟨false, 23, 4, [cv' ⟨qw, qd, qi, qs⟩]⟩)])
                  (N := 0) ?_ 0 (Nat.zero_le _) rfl (Nat.zero_le _) ⟨rfl, rfl, rfl, rfl, rfl, trivial⟩ ⟨rfl, rfl, trivial⟩
                rintro i nx g1 _ hid
                have n40 : 40 < nx := hid 40 _ (by rw [hlk_cons, if_pos rfl])
                have n0 : 0 < nx := by omega
                refine WP.of okBA 2 (by rfl) ?_
                by_cases hi : i < qws.length
                · have hz : (i : Int) < qws.length := by omega
                  have hz0 : (0 : Int) ≤ (i : Int) := by omega
                  have hg := getD_w hi
                  have w1 : IntKind.wrap .i64 ((i : Int) + 1) = ((i + 1 : Nat) : Int) := by rw [wrap_i (by omega) (by omega)]; omega
                  have hle : (qws.take i).countP sOp ≤ i := Nat.le_trans List.countP_le_length (by rw [List.length_take]; omega)
                  have w2 : IntKind.wrap .i64 (((qws.take i).countP sOp : Nat) + 1 : Int) = (((qws.take i).countP sOp + 1 : Nat) : Int) := by rw [wrap_i (by omega) (by omega)]; omega
                  have hcn := cnt_succ sOp wk0 hi
                  have hex := seeks_park (qws.getD i wk0)
                  generalize qws.getD i wk0 = x at hg hcn hex
                  cases hs1 : seeks x with
                  | true =>
                    have hs2 : wkPark x = false := by rw [hs1] at hex; simpa using hex
                    rw [show sOp x = true by unfold sOp; rw [hs1]; rfl] at hcn
                    simp only [BA_all, sx_all, hz, hz0, hg, w1, w2, hs1, hs2, pov, tks, wks, sbs, ms, wv, its, List.length_map, Int.toNat_natCast, Nat.add_assoc, tt_all, cv', row1, iv, bv, u, ms, ctx_T, ctx_C, Option.bind_some, List.length_map, Int.toNat_natCast, fr_eta, ev1, ev2, implies_true, undef, ↓condE_t, ↓condE_f, ↓guardE_tt, ↓guardE_tf, cv, stepB, guardB, guardC, dstAt, aopR, one, pre, binR, intOpR, evo, lkp, hlk, lenOf, ofCells, TK.agg, sub1, kp, kh, Nat.reduceAdd, Nat.reduceEqDiff, Nat.reduceLT, Nat.reduceLeDiff, reduceCtorEq, eq_self, ne_eq]
                    refine ⟨i + 1, by omega, by omega, ?_⟩
                    rw [hcn]
                    exact ⟨rfl, rfl⟩
                  | false =>
                    cases hs2 : wkPark x with
                    | true =>
                      rw [show sOp x = true by unfold sOp; rw [hs1, hs2]; rfl] at hcn
                      simp only [BA_all, sx_all, hz, hz0, hg, w1, w2, hs1, hs2, pov, tks, wks, sbs, ms, wv, its, List.length_map, Int.toNat_natCast, Nat.add_assoc, tt_all, cv', row1, iv, bv, u, ms, ctx_T, ctx_C, Option.bind_some, List.length_map, Int.toNat_natCast, fr_eta, ev1, ev2, implies_true, undef, ↓condE_t, ↓condE_f, ↓guardE_ff, ↓guardE_ft, cv, stepB, guardB, guardC, dstAt, aopR, one, pre, binR, intOpR, evo, lkp, hlk, lenOf, ofCells, TK.agg, sub1, kp, kh, Nat.reduceAdd, Nat.reduceEqDiff, Nat.reduceLT, Nat.reduceLeDiff, reduceCtorEq, eq_self, ne_eq]
                      refine ⟨i + 1, by omega, by omega, ?_⟩
                      rw [hcn]
                      exact ⟨rfl, rfl⟩
                    | false =>
                      rw [show sOp x = false by unfold sOp; rw [hs1, hs2]; rfl] at hcn
                      simp only [BA_all, sx_all, hz, hz0, hg, w1, hs1, hs2, pov, tks, wks, sbs, ms, wv, its, List.length_map, Int.toNat_natCast, Nat.add_assoc, tt_all, cv', row1, iv, bv, u, ms, ctx_T, ctx_C, Option.bind_some, List.length_map, Int.toNat_natCast, fr_eta, ev1, ev2, implies_true, undef, ↓condE_t, ↓condE_f, ↓guardE_ff, ↓guardE_ft, cv, stepB, guardB, guardC, dstAt, aopR, one, pre, binR, intOpR, evo, lkp, hlk, lenOf, ofCells, TK.agg, sub1, kp, kh, Nat.reduceAdd, Nat.reduceEqDiff, Nat.reduceLT, Nat.reduceLeDiff, reduceCtorEq, eq_self, ne_eq]
                      refine ⟨i + 1, by omega, by omega, ?_⟩
                      rw [hcn]
                      exact ⟨rfl, rfl⟩
                · have hz : ¬ (i : Int) < qws.length := by omega
                  have ei : qws.take i = qws := List.take_of_length_le (by omega)
                  rw [ei]
                  have hcl : qws.countP sOp ≤ qws.length := List.countP_le_length
                  generalize qws.countP sOp = cN at hcl
                  have hwt := hS.waits hwn
                  have hsg := hS.sg wn hwn
                  dsimp only at hwt hsg
                  have hl8 : qss.length ≤ 3 := hs3
                  have hpk : (mLoad qm (lPark ⟨qw, qd, qi, qs⟩ wn) != 0) = parked ⟨qw, qd, qi, qs⟩ qm wn := by
                    unfold parked
                    by_cases e : mLoad qm (lPark ⟨qw, qd, qi, qs⟩ wn) = 0 <;> simp [e]
                  unfold signs sgM at hsg
                  dsimp only at hsg
                  rw [← hpk] at hsg
                  generalize tb (mLoad qm 2) wn = v1 at hwt hsg
                  generalize hv2 : (mLoad qm (lPark ⟨qw, qd, qi, qs⟩ wn) != 0) = v2 at hsg
                  obtain ⟨s0, hs0⟩ : ∃ s0, s0 = v1.toNat + v2.toNat := ⟨_, rfl⟩
                  rw [← hs0] at hsg
                  have hs02 : s0 ≤ 2 := by rw [hs0]; cases v1 <;> cases v2 <;> decide
                  cases v1 <;> cases v2
                  all_goals simp only [Bool.toNat_true, Bool.toNat_false, Nat.add_zero, Nat.zero_add, Nat.reduceAdd] at hs0
                  all_goals simp only [BA_all, hz, hml, hwt, hv2, wr1, wr2, Int.reduceAdd, pov, tks, wks, sbs, ms, List.length_map, Nat.add_assoc, tt_all, cv', shC_dec, dC, row2, row3, shI_dec, shM_dec, dI, dM, dU_map, iv, bv, u, ms, ctx_T, ctx_C, Option.bind_some, List.length_map, Int.reduceAdd, ev1, ev2, implies_true, undef, dynCall, ↓condE_t, ↓condE_f, cv, stepB, stepE, callD, tabD, aopR, one, pre, binR, intOpR, evo, lkp, hlk, lenOf, ofCells, TK.agg, accOf, Nat.reduceAdd, Nat.reduceEqDiff, Nat.reduceLT, Nat.reduceLeDiff, reduceCtorEq, eq_self, ne_eq]
                  all_goals
                    have hu : IntKind.wrap .u64 (wn : Int) = (wn : Int) := by
                      show wrapU _ = _
                      rw [wrapU_eq]; omega
                    refine WP.loop (ι := Nat) (fun i => qws.length - i) (fun i => i ≤ qws.length) (n := 231)
                      (fr := fun i => [(19, iv i), (18, iv ((s0 + (qws.take i).countP (wW · wn) : Nat) : Int)), (16, iv cN), (13, .ptr 40 0 0), (5, .ptr 0 0 0), (4, iv wn)])
                      (hp := fun i => [(40, some ⟨false, 34, 8, [pov ⟨⟨qw, qd, qi, qs⟩, qt, qm, qws, qss⟩]⟩), (0, some ⟨false, 23, 4, [cv' ⟨qw, qd, qi, qs⟩]⟩)])
                      (N := 0) ?_ 0 (Nat.zero_le _) rfl (Nat.zero_le _) ⟨rfl, by subst hs0; rfl, rfl, rfl, rfl, rfl, trivial⟩ (by simp only [pov, tks, wks, sbs, ms, and_self, cv', iv, ms, hlk, kh, eq_self])
                    rintro j nx2 g2 _ hid2
                    have m40 : 40 < nx2 := hid2 40 _ (by rw [hlk_cons, if_pos rfl])
                    have m0 : 0 < nx2 := by omega
                    refine WP.of okBA 2 (by rfl) ?_
                    by_cases hj : j < qws.length
                    · have hy : (j : Int) < qws.length := by omega
                      have hy0 : (0 : Int) ≤ (j : Int) := by omega
                      have hg := getD_w hj
                      have w1 : IntKind.wrap .i64 ((j : Int) + 1) = ((j + 1 : Nat) : Int) := by rw [wrap_i (by omega) (by omega)]; omega
                      have hle : (qws.take j).countP (wW · wn) ≤ j := Nat.le_trans List.countP_le_length (by rw [List.length_take]; omega)
                      have w2 : IntKind.wrap .i64 (((s0 + (qws.take j).countP (wW · wn) : Nat) : Int) + 1) = ((s0 + ((qws.take j).countP (wW · wn) + 1) : Nat) : Int) := by rw [wrap_i (by omega) (by omega)]; omega
                      have hcn := cnt_succ (wW · wn) wk0 hj
                      try dsimp only at hcn
                      generalize qws.getD j wk0 = x at hg hcn
                      obtain ⟨xpc, xst, ⟨xop, xp, xwho, xval, xx, xy, xres⟩, xsp, xlk⟩ := x
                      cases hx1 : (xpc == 14) with
                      | false =>
                        rw [show wW ⟨xpc, xst, ⟨xop, xp, xwho, xval, xx, xy, xres⟩, xsp, xlk⟩ wn = false by have : xpc ≠ 14 := by simpa using hx1
                                                                                                            simp [wW, this]] at hcn
                        simp only [hy, hy0, hg, w1, hx1, m0, m40, pov, tks, wks, sbs, ms, wv, its, List.length_map, Int.toNat_natCast, nb_self, nb_lt, Nat.add_assoc, tt_all, cv', iv, u, ms, ctx_T, List.length_map, Int.toNat_natCast, ev1, ev2, implies_true, undef, ↓condE_t, ↓condE_f, ↓guardE_ft, cv, stepB, guardB, guardC, dstAt, aopR, one, pre, binR, intOpR, evo, lkp, hlk, lenOf, ofVal, ofCells, setCells, AV.wr, AV.ok1, TK.agg, sub1, kp, kh, Nat.reduceAdd, Nat.reduceEqDiff, Nat.reduceLT, Nat.reduceLeDiff, reduceCtorEq, eq_self, ne_eq]
                        refine ⟨j + 1, by omega, by omega, ?_⟩
                        rw [hcn]
                        exact ⟨rfl, rfl⟩
                      | true =>
                        cases hx2 : (xp == 2) with
                        | false =>
                          rw [show wW ⟨xpc, xst, ⟨xop, xp, xwho, xval, xx, xy, xres⟩, xsp, xlk⟩ wn = false by have : xp ≠ 2 := by simpa using hx2
                                                                                                              simp [wW, hd, this]] at hcn
                          simp only [hy, hy0, hg, w1, hx1, hx2, m0, m40, pov, tks, wks, sbs, ms, wv, its, List.length_map, Int.toNat_natCast, nb_self, nb_lt, Nat.add_assoc, tt_all, cv', iv, u, ms, ctx_T, List.length_map, Int.toNat_natCast, ev1, ev2, implies_true, undef, ↓condE_t, ↓condE_f, ↓guardE_tt, ↓guardE_ft, cv, stepB, guardB, guardC, dstAt, aopR, one, pre, binR, intOpR, evo, lkp, hlk, lenOf, ofVal, ofCells, setCells, AV.wr, AV.ok1, TK.agg, sub1, kp, kh, Nat.reduceAdd, Nat.reduceEqDiff, Nat.reduceLT, Nat.reduceLeDiff, reduceCtorEq, eq_self, ne_eq]
                          refine ⟨j + 1, by omega, by omega, ?_⟩
                          rw [hcn]
                          exact ⟨rfl, rfl⟩
                        | true =>
                          cases hx3 : (xy == (wn : Int)) with
                          | false =>
                            rw [show wW ⟨xpc, xst, ⟨xop, xp, xwho, xval, xx, xy, xres⟩, xsp, xlk⟩ wn = false by have : xy ≠ (wn : Int) := by simpa using hx3
                                                                                                                simp [wW, hd, this]] at hcn
                            simp only [hy, hy0, hg, w1, hx1, hx2, hx3, hu, m0, m40, pov, tks, wks, sbs, ms, wv, its, List.length_map, Int.toNat_natCast, nb_self, nb_lt, Nat.add_assoc, tt_all, cv', iv, u, ms, ctx_T, List.length_map, Int.toNat_natCast, ev1, ev2, implies_true, undef, ↓condE_t, ↓condE_f, ↓guardE_tt, cv, stepB, guardB, guardC, dstAt, aopR, one, pre, binR, intOpR, evo, lkp, hlk, lenOf, ofVal, ofCells, setCells, AV.wr, AV.ok1, TK.agg, sub1, kp, kh, Nat.reduceAdd, Nat.reduceEqDiff, Nat.reduceLT, Nat.reduceLeDiff, reduceCtorEq, eq_self, ne_eq]
                            refine ⟨j + 1, by omega, by omega, ?_⟩
                            rw [hcn]
                            exact ⟨rfl, rfl⟩
                          | true =>
                            rw [show wW ⟨xpc, xst, ⟨xop, xp, xwho, xval, xx, xy, xres⟩, xsp, xlk⟩ wn = true by have a1 : xpc = 14 := by simpa using hx1
                                                                                                               have a2 : xp = 2 := by simpa using hx2
                                                                                                               have a3 : xy = (wn : Int) := by simpa using hx3
                                                                                                               simp [wW, hd, a1, a2, a3]] at hcn
                            simp only [hy, hy0, hg, w1, w2, hx1, hx2, hx3, hu, m0, m40, pov, tks, wks, sbs, ms, wv, its, List.length_map, Int.toNat_natCast, nb_self, nb_lt, Nat.add_assoc, tt_all, cv', iv, u, ms, ctx_T, List.length_map, Int.toNat_natCast, ev1, ev2, implies_true, undef, ↓condE_t, ↓guardE_tt, cv, stepB, guardB, guardC, dstAt, aopR, one, pre, binR, intOpR, evo, lkp, hlk, lenOf, ofVal, ofCells, setCells, AV.wr, AV.ok1, TK.agg, sub1, kp, kh, Nat.reduceAdd, Nat.reduceEqDiff, Nat.reduceLT, Nat.reduceLeDiff, reduceCtorEq, eq_self, ne_eq]
                            refine ⟨j + 1, by omega, by omega, ?_⟩
                            rw [hcn]
                            exact ⟨rfl, rfl⟩
                    · have hy : ¬ (j : Int) < qws.length := by omega
                      have ej : qws.take j = qws := List.take_of_length_le (by omega)
                      rw [ej]
                      have hcl2 : qws.countP (wW · wn) ≤ 8 := Nat.le_trans List.countP_le_length hw8
                      generalize qws.countP (wW · wn) = cW at hcl2 hsg
                      simp only [hy, pov, tks, wks, sbs, ms, List.length_map, Nat.add_assoc, tt_all, cv', iv, ms, ctx_T, List.length_map, ev1, ev2, implies_true, undef, ↓condE_f, cv, stepB, aopR, one, pre, binR, intOpR, evo, lkp, hlk, lenOf, ofCells, TK.agg, Nat.reduceAdd, Nat.reduceLT, Nat.reduceLeDiff, reduceCtorEq, eq_self, ne_eq]
                      refine WP.loop (ι := Nat) (fun i => qss.length - i) (fun i => i ≤ qss.length) (n := 231)
                        (fr := fun i => [(21, iv i), (18, iv ((s0 + cW + (qss.take i).countP (wS · wn) : Nat) : Int)), (16, iv cN), (13, .ptr 40 0 0), (5, .ptr 0 0 0), (4, iv wn)])
                        (hp := fun i => [(40, some ⟨false, 34, 8, [pov ⟨⟨qw, qd, qi, qs⟩, qt, qm, qws, qss⟩]⟩), (0, some ⟨false, 23, 4, [cv' ⟨qw, qd, qi, qs⟩]⟩)])
                        (N := 0) ?_ 0 (Nat.zero_le _) rfl (Nat.zero_le _) ⟨rfl, rfl, rfl, rfl, rfl, rfl, trivial⟩ (by simp only [pov, tks, wks, sbs, ms, and_self, cv', iv, ms, hlk, kh, eq_self])
                      rintro k nx3 g3 _ hid3
                      have p40 : 40 < nx3 := hid3 40 _ (by rw [hlk_cons, if_pos rfl])
                      have p0 : 0 < nx3 := by omega
                      refine WP.of okBA 2 (by rfl) ?_
                      by_cases hk : k < qss.length
                      · have hv : (k : Int) < qss.length := by omega
                        have hv0 : (0 : Int) ≤ (k : Int) := by omega
                        have hg := getD_s hk
                        have w1 : IntKind.wrap .i64 ((k : Int) + 1) = ((k + 1 : Nat) : Int) := by rw [wrap_i (by omega) (by omega)]; omega
                        have hle : (qss.take k).countP (wS · wn) ≤ k := Nat.le_trans List.countP_le_length (by rw [List.length_take]; omega)
                        have w2 : IntKind.wrap .i64 (((s0 + (cW + (qss.take k).countP (wS · wn)) : Nat) : Int) + 1) = ((s0 + (cW + ((qss.take k).countP (wS · wn) + 1)) : Nat) : Int) := by rw [wrap_i (by omega) (by omega)]; omega
                        have hcn := cnt_succ (wS · wn) sb0 hk
                        try dsimp only at hcn
                        rw [show (⟨0, [], fr00⟩ : Sb) = sb0 from rfl] at hg
                        generalize qss.getD k sb0 = x at hg hcn
                        obtain ⟨xpc, xst, ⟨xop, xp, xwho, xval, xx, xy, xres⟩⟩ := x
                        cases hx1 : (xpc == 4) with
                        | false =>
                          rw [show wS ⟨xpc, xst, ⟨xop, xp, xwho, xval, xx, xy, xres⟩⟩ wn = false by have : xpc ≠ 4 := by simpa using hx1
                                                                                                    simp [wS, this]] at hcn
                          simp only [hv, hv0, hg, w1, hx1, p0, p40, pov, tks, wks, sbs, ms, sbv, zs, List.length_map, Int.toNat_natCast, nb_self, nb_lt, Nat.add_assoc, tt_all, cv', iv, u, ms, ctx_T, List.length_map, Int.toNat_natCast, ev1, ev2, implies_true, undef, ↓condE_t, ↓condE_f, ↓guardE_ft, cv, stepB, guardB, guardC, dstAt, aopR, one, pre, binR, intOpR, evo, lkp, hlk, lenOf, ofVal, ofCells, setCells, AV.wr, AV.ok1, TK.agg, sub1, kp, kh, Nat.reduceAdd, Nat.reduceEqDiff, Nat.reduceLT, Nat.reduceLeDiff, reduceCtorEq, eq_self, ne_eq]
                          refine ⟨k + 1, by omega, by omega, ?_⟩
                          rw [hcn]
                          exact ⟨rfl, rfl⟩
                        | true =>
                          cases hx2 : (xp == 2) with
                          | false =>
                            rw [show wS ⟨xpc, xst, ⟨xop, xp, xwho, xval, xx, xy, xres⟩⟩ wn = false by have : xp ≠ 2 := by simpa using hx2
                                                                                                      simp [wS, hd, this]] at hcn
                            simp only [hv, hv0, hg, w1, hx1, hx2, p0, p40, pov, tks, wks, sbs, ms, sbv, zs, List.length_map, Int.toNat_natCast, nb_self, nb_lt, Nat.add_assoc, tt_all, cv', iv, u, ms, ctx_T, List.length_map, Int.toNat_natCast, ev1, ev2, implies_true, undef, ↓condE_t, ↓condE_f, ↓guardE_tt, ↓guardE_ft, cv, stepB, guardB, guardC, dstAt, aopR, one, pre, binR, intOpR, evo, lkp, hlk, lenOf, ofVal, ofCells, setCells, AV.wr, AV.ok1, TK.agg, sub1, kp, kh, Nat.reduceAdd, Nat.reduceEqDiff, Nat.reduceLT, Nat.reduceLeDiff, reduceCtorEq, eq_self, ne_eq]
                            refine ⟨k + 1, by omega, by omega, ?_⟩
                            rw [hcn]
                            exact ⟨rfl, rfl⟩
                          | true =>
                            cases hx3 : (xy == (wn : Int)) with
                            | false =>
                              rw [show wS ⟨xpc, xst, ⟨xop, xp, xwho, xval, xx, xy, xres⟩⟩ wn = false by have : xy ≠ (wn : Int) := by simpa using hx3
                                                                                                        simp [wS, hd, this]] at hcn
                              simp only [hv, hv0, hg, w1, hx1, hx2, hx3, hu, p0, p40, pov, tks, wks, sbs, ms, sbv, zs, List.length_map, Int.toNat_natCast, nb_self, nb_lt, Nat.add_assoc, tt_all, cv', iv, u, ms, ctx_T, List.length_map, Int.toNat_natCast, ev1, ev2, implies_true, undef, ↓condE_t, ↓condE_f, ↓guardE_tt, cv, stepB, guardB, guardC, dstAt, aopR, one, pre, binR, intOpR, evo, lkp, hlk, lenOf, ofVal, ofCells, setCells, AV.wr, AV.ok1, TK.agg, sub1, kp, kh, Nat.reduceAdd, Nat.reduceEqDiff, Nat.reduceLT, Nat.reduceLeDiff, reduceCtorEq, eq_self, ne_eq]
                              refine ⟨k + 1, by omega, by omega, ?_⟩
                              rw [hcn]
                              exact ⟨rfl, rfl⟩
                            | true =>
                              rw [show wS ⟨xpc, xst, ⟨xop, xp, xwho, xval, xx, xy, xres⟩⟩ wn = true by have a1 : xpc = 4 := by simpa using hx1
                                                                                                       have a2 : xp = 2 := by simpa using hx2
                                                                                                       have a3 : xy = (wn : Int) := by simpa using hx3
                                                                                                       simp [wS, hd, a1, a2, a3]] at hcn
                              simp only [hv, hv0, hg, w1, w2, hx1, hx2, hx3, hu, p0, p40, pov, tks, wks, sbs, ms, sbv, zs, List.length_map, Int.toNat_natCast, nb_self, nb_lt, Nat.add_assoc, tt_all, cv', iv, u, ms, ctx_T, List.length_map, Int.toNat_natCast, ev1, ev2, implies_true, undef, ↓condE_t, ↓guardE_tt, cv, stepB, guardB, guardC, dstAt, aopR, one, pre, binR, intOpR, evo, lkp, hlk, lenOf, ofVal, ofCells, setCells, AV.wr, AV.ok1, TK.agg, sub1, kp, kh, Nat.reduceAdd, Nat.reduceEqDiff, Nat.reduceLT, Nat.reduceLeDiff, reduceCtorEq, eq_self, ne_eq]
                              refine ⟨k + 1, by omega, by omega, ?_⟩
                              rw [hcn]
                              exact ⟨rfl, rfl⟩
                      · have hv : ¬ (k : Int) < qss.length := by omega
                        have ek : qss.take k = qss := List.take_of_length_le (by omega)
                        rw [ek]
                        have hgw := getD_w hwn
                        have hwv0 : (0 : Int) ≤ (wn : Int) := by omega
                        have hwv : (wn : Int) < qws.length := by omega
                        have hcom : com (qws.getD wn wk0) = ((qws.getD wn wk0).pc == 8 && decide ((qws.getD wn wk0).f.pc ≥ 3)) := by
                          unfold com
                          rw [Bool.eq_iff_iff]; simp
                        have hnc : (cN : Int) ≤ qw := by have a := hS.wl; dsimp only at a; omega
                        have hwl : ((qws.length : Int) == qw) = true := by have a := hS.wl; dsimp only at a; simpa using a
                        rw [hcom] at hsg
                        generalize qws.getD wn wk0 = x at hgw hsg
                        obtain ⟨xpc, xst, ⟨xop, xp, xwho, xval, xx, xy, xres⟩, xsp, xlk⟩ := x
                        dsimp only at hsg
                        generalize hT : s0 + cW + qss.countP (wS · wn) = T0 at hsg ⊢
                        cases hx1 : (xpc == 8) with
                        | false =>
                          rw [hx1] at hsg
                          have hT0 : ((T0 : Int) == 0) = true := by simp only [Bool.false_and, Bool.toNat_false] at hsg; rw [hsg]; rfl
                          simp only [hv, hwv, hwv0, hgw, hx1, hnc, hwl, hT0, pov, tks, wks, sbs, ms, wv, its, decide_true, Bool.not_false, Bool.not_true, List.length_map, Int.toNat_natCast, Nat.add_assoc, tt_all, cv', iv, u, ms, ctx_T, List.length_map, Int.toNat_natCast, ev1, ev2, implies_true, undef, ↓condE_f, ↓guardE_tt, ↓guardE_ff, ↓guardE_ft, resB, cv, stepB, guardB, guardC, dstAt, aopR, one, pre, binR, intOpR, unR, evo, lkp, hlk, lenOf, ofCells, TK.agg, Nat.reduceAdd, Nat.reduceLT, Nat.reduceLeDiff, reduceCtorEq, eq_self, ne_eq]
                          all_goals ((repeat' apply And.intro) <;> first | rfl | omega | (show (_ : Bool) = true; kernel_rfl) | decide)
                        | true =>
                          rw [hx1] at hsg
                          by_cases hx2 : xp ≥ 3
                          · have hT0 : ((T0 : Int) == 1) = true := by simp only [hx2, decide_true, Bool.and_self, Bool.toNat_true] at hsg; rw [hsg]; rfl
                            simp only [hv, hwv, hwv0, hgw, hx1, hx2, hnc, hwl, hT0, pov, tks, wks, sbs, ms, wv, its, decide_true, Bool.not_false, List.length_map, Int.toNat_natCast, Nat.add_assoc, tt_all, cv', iv, u, ms, ctx_T, List.length_map, Int.toNat_natCast, ev1, ev2, implies_true, undef, ↓condE_f, ↓guardE_tt, ↓guardE_tf, resB, cv, stepB, guardB, guardC, dstAt, aopR, one, pre, binR, intOpR, evo, lkp, hlk, lenOf, ofCells, TK.agg, Nat.reduceAdd, Nat.reduceLT, Nat.reduceLeDiff, reduceCtorEq, eq_self, ne_eq]
                            all_goals ((repeat' apply And.intro) <;> first | rfl | omega | (show (_ : Bool) = true; kernel_rfl) | decide)
                          · have hT0 : ((T0 : Int) == 0) = true := by simp only [hx2, decide_false, Bool.and_false, Bool.toNat_false] at hsg; rw [hsg]; rfl
                            simp only [hv, hwv, hwv0, hgw, hx1, hx2, hnc, hwl, hT0, pov, tks, wks, sbs, ms, wv, its, decide_true, decide_false, Bool.not_false, Bool.not_true, List.length_map, Int.toNat_natCast, Nat.add_assoc, tt_all, cv', iv, u, ms, ctx_T, List.length_map, Int.toNat_natCast, ev1, ev2, implies_true, undef, ↓condE_f, ↓guardE_tt, ↓guardE_ff, ↓guardE_ft, resB, cv, stepB, guardB, guardC, dstAt, aopR, one, pre, binR, intOpR, unR, evo, lkp, hlk, lenOf, ofCells, TK.agg, Nat.reduceAdd, Nat.reduceLT, Nat.reduceLeDiff, reduceCtorEq, eq_self, ne_eq]
                            all_goals ((repeat' apply And.intro) <;> first | rfl | omega | (show (_ : Bool) = true; kernel_rfl) | decide)
end Go.Vai
/- Tasks, lists of lists of numbers, and bytes that came in. -/
namespace Go.Vai
open Go.RowKit Go.WideShapes Go.ChangeShapes
def taskB (P : Program) (fs : Array Field) (ft : TypeId) : Bool := match fs[0]?, fs[1]? with
 | some f0, some f1 => f0.offset == 0 && P.cellsOf f0.type == 1 && (match P.underlying f0.type with | some (.int k) => decide (k = .i64) | _ => false) && f1.offset == 1 && f1.type == ft
 | _, _ => false

def rdTask {P : Program} {t ft e : TypeId} {fs : Array Field} (ht : P.underlying t = some (.struct fs)) (hC : P.cellsOf t = 2) (hB : taskB P fs ft = true) (h1 : P.underlying ft = some (.slice e)) (hc1 : P.cellsOf ft = 1)
    (he : P.underlying e = some (.int .i64)) (hce : P.cellsOf e = 1) : Rdr P t Tk where
  n := 2
  av := tv
  wf := fun _ => True
  size := hC
  len := fun _ => rfl
  rd := fun enc w base spare held fuel cs d h => by
    obtain ⟨xs, n, _, _, hl, hlen, hf⟩ := DataW.trod_struct ht h
    unfold taskB at hB
    split at hB
    · rename_i f0 f1 e0 e1
      simp only [Bool.and_eq_true, beq_iff_eq] at hB
      obtain ⟨⟨⟨⟨b1, b2⟩, b3⟩, b4⟩, b5⟩ := hB
      have hu0 : P.underlying f0.type = some (.int .i64) := by
        split at b3
        · rename_i k' hk
          rw [hk, of_decide_eq_true b3]
        · cases b3
      have hx0 := hf 0 f0 e0
      have hx1 := hf 1 f1 e1
      have hl0 : 0 < xs.length := by rw [hlen]; exact (Array.getElem?_eq_some_iff.1 e0).1
      have hl1 : 1 < xs.length := by rw [hlen]; exact (Array.getElem?_eq_some_iff.1 e1).1
      rw [List.getElem?_eq_getElem hl0, b1, b2] at hx0
      rw [List.getElem?_eq_getElem hl1, b4, b5, hc1] at hx1
      obtain ⟨z, hz, _, _⟩ := DataW.trod_int hu0 hx0
      obtain ⟨l, _, q2, q3⟩ := (rdSlice (rdInt he hce) h1 hc1).rd enc w base spare held n _ _ hx1
      have c0 : cs[0]? = some (.int .i64 z) := by
        have : ((cs.drop 0).take 1)[0]? = some (.int .i64 z) := by rw [hz]; rfl
        simpa using this
      refine ⟨⟨z, l⟩, trivial, hl.trans hC, fun j a c ha hcj => ?_⟩
      match j with
      | 0 => rw [c0] at hcj; cases hcj; cases ha; exact ⟨rfl, .v _⟩
      | 1 =>
        cases ha
        exact q3 0 _ c rfl (by simpa using hcj)
      | j + 2 => cases ha
    · cases hB

section
variable {P : Program} {w : World} {t : TypeId} {α : Type} {H : Type} {enc : TypeId × Value → H} {reach : Reach} {b0 base : Nat} {spare : Nat → Bool} {held : Bool} {v : Value} {d : DataW H} {p : List MemPlace}
theorem Rdr.tasks {e ft e' : TypeId} {fs : Array Field} (ht : P.underlying t = some (.slice e)) (hc : P.cellsOf t = 1) (he : P.underlying e = some (.struct fs)) (hC : P.cellsOf e = 2) (hB : taskB P fs ft = true) (h1 : P.underlying ft = some (.slice e')) (hc1 : P.cellsOf ft = 1)
  (he' : P.underlying e' = some (.int .i64)) (hce : P.cellsOf e' = 1) (hv : Value.okWide P w reach b0 t v) (h : DataW.Trod enc P w base spare held t v d p) : ∃ l : List Tk, True ∧ Con (Env.bare (allK w)) (tks l) v := by
 obtain ⟨l, _, h2⟩ := (rdTask he hC hB h1 hc1 he' hce).slice ht hc hv h
 exact ⟨l, trivial, h2⟩
theorem Rdr.intss {e e' : TypeId} (ht : P.underlying t = some (.slice e)) (hc : P.cellsOf t = 1) (ht' : P.underlying e = some (.slice e')) (hc' : P.cellsOf e = 1) (he : P.underlying e' = some (.int .i64)) (hce : P.cellsOf e' = 1) (hv : Value.okWide P w reach b0 t v) (h : DataW.Trod enc P w base spare held t v d p) :
  ∃ l : List (List Int), True ∧ Con (Env.bare (allK w)) (zss l) v := by
 obtain ⟨l, _, h2⟩ := (rdSlice (rdInt he hce) ht' hc').slice ht hc hv h
 exact ⟨l, trivial, h2⟩
theorem Rdr.bytes {e : TypeId} (ht : P.underlying t = some (.slice e)) (hc : P.cellsOf t = 1) (he : P.underlying e = some (.int .u8)) (hce : P.cellsOf e = 1) (hv : Value.okWide P w reach b0 t v) (h : DataW.Trod enc P w base spare held t v d p) :
  ∃ l : List Int, True ∧ Con (Env.bare (allK w)) (bys l) v := by
 obtain ⟨l, _, h2⟩ := (rdInt he hce).slice ht hc hv h
 exact ⟨l, trivial, h2⟩
end
end Go.Vai
