/- What the law InjectWho needs beyond the other texts. -/
import Derived.Test.YtbhmjfccbidpeaaBJ
/- Whose the calls are, as the program says. -/
namespace Go.Vai
open Go.RowKit Go.Proofs
set_option linter.unusedSimpArgs false
set_option linter.unusedVariables false
set_option maxHeartbeats 4000000
set_option maxRecDepth 100000

theorem who_law (room : Int) (outs : List (List Bool)) (who : List Int) (i : Int) : PureC Try.prog 13 [iv room, bss outs, zs who, iv i] (bv true) := by
  refine pure_sub okIE 1 Try.func13 rfl (by show 4 ≤ _; decide) ?_
  cases hf : fewB outs with
  | false =>
    simp only [Try.f13, IE_all, hf, inl, bss, fs, zs, sv, fv, rf1, List.set_set, T52, T50, T51, T60, T66, hfree_fr, hfree_cf, cv', cf_eta, frz_u, shC_dec, dC, T23, T28, T25, hfree_lu, hfree_l0, row0, row1, row2, row3, row4, row5, shI_dec, shN_dec, shB_dec, shM_dec, dI, dN, dB, dM, dU, dU_map, iv, bv, u, ms, ctx_T, ctx_C, ctx_P, T4, T3, T26, Option.bind_some, Option.bind_none, Option.map_some, List.length_map, List.length_set, String.reduceBEq, Int.toNat_natCast, Bool.true_beq, Bool.false_beq, T24, shF_dec, dF, fr_eta, Int.cast_ofNat_Int, Int.reduceSub, Int.reduceAdd, Int.reduceNeg, ev1, ev2, implies_true, undef, stepP, dynCall, ↓condE_t, ↓condE_f, ↓guardE_tt, ↓guardE_ff, ↓guardE_tf, ↓guardE_ft, frzDeep, deepArgs, deepArg, resB, cv, stepB, stepE, callD, tabD, snapD, snap1, snapC, snapId, snapIds, guardB, guardC, dstAt, aopR, one, pre, binR, intOpR, shiftOpR, unR, argFrm, evo, lkp, hlk, lenOf, asLst, idOf, bndA, srcOk, ofVal, ofCells, setCells, fillA, setElems, fieldsOf, fieldsEq, scalEq, isEq, AV.wr, AV.ok1, TK.agg, frz, frzs, frzA, frzArg, frzArgs, subA, subL, sub1, kp, kh, accOf, List.replicate, Nat.reduceAdd, Nat.reduceSub, Nat.reduceMul, Nat.reduceEqDiff, Nat.reduceLT, Nat.reduceLeDiff, Nat.reduceBEq, reduceIte, reduceCtorEq, eq_self, ne_eq, Int.reduceToNat, Int.reduceLT, Int.reduceLE, Int.reduceGT, Int.reduceGE, Int.reduceBEq, Int.reduceBNe, Int.reduceEq, Int.reduceNe]
    all_goals ((repeat' apply And.intro) <;> first | rfl | omega | (show entryOk _ _ _ _ _ = true; kernel_rfl) | (show pivotOk _ _ = true; kernel_rfl) | decide)
  | true =>
    obtain ⟨hc1, hc2⟩ := fewB_short hf
    have hc3 : ShortB 1000 outs := fun x hx => Nat.le_trans (hc2 x hx) (by omega)
    by_cases h1 : who.length ≤ 500
    · have h1' : ¬ (who.length : Int) > 500 := by omega
      by_cases h2 : i < 0
      · simp only [Try.f13, IE_all, hf, h1', h2, inl, bss, fs, zs, sv, fv, rf1, List.set_set, T52, T50, T51, T60, T66, hfree_fr, hfree_cf, cv', cf_eta, frz_u, shC_dec, dC, T23, T28, T25, hfree_lu, hfree_l0, row0, row1, row2, row3, row4, row5, shI_dec, shN_dec, shB_dec, shM_dec, dI, dN, dB, dM, dU, dU_map, iv, bv, u, ms, ctx_T, ctx_C, ctx_P, T4, T3, T26, Option.bind_some, Option.bind_none, Option.map_some, List.length_map, List.length_set, String.reduceBEq, Int.toNat_natCast, Bool.true_beq, Bool.false_beq, T24, shF_dec, dF, fr_eta, Int.cast_ofNat_Int, Int.reduceSub, Int.reduceAdd, Int.reduceNeg, ev1, ev2, implies_true, undef, stepP, dynCall, ↓condE_t, ↓condE_f, ↓guardE_tt, ↓guardE_ff, ↓guardE_tf, ↓guardE_ft, frzDeep, deepArgs, deepArg, resB, cv, stepB, stepE, callD, tabD, snapD, snap1, snapC, snapId, snapIds, guardB, guardC, dstAt, aopR, one, pre, binR, intOpR, shiftOpR, unR, argFrm, evo, lkp, hlk, lenOf, asLst, idOf, bndA, srcOk, ofVal, ofCells, setCells, fillA, setElems, fieldsOf, fieldsEq, scalEq, isEq, AV.wr, AV.ok1, TK.agg, frz, frzs, frzA, frzArg, frzArgs, subA, subL, sub1, kp, kh, accOf, List.replicate, Nat.reduceAdd, Nat.reduceSub, Nat.reduceMul, Nat.reduceEqDiff, Nat.reduceLT, Nat.reduceLeDiff, Nat.reduceBEq, reduceIte, reduceCtorEq, eq_self, ne_eq, Int.reduceToNat, Int.reduceLT, Int.reduceLE, Int.reduceGT, Int.reduceGE, Int.reduceBEq, Int.reduceBNe, Int.reduceEq, Int.reduceNe]
        all_goals ((repeat' apply And.intro) <;> first | rfl | omega | (show entryOk _ _ _ _ _ = true; kernel_rfl) | (show pivotOk _ _ = true; kernel_rfl) | decide)
      · by_cases h3 : i ≥ outs.length
        · simp only [Try.f13, IE_all, hf, h1', h2, h3, inl, bss, fs, zs, sv, fv, rf1, List.set_set, T52, T50, T51, T60, T66, hfree_fr, hfree_cf, cv', cf_eta, frz_u, shC_dec, dC, T23, T28, T25, hfree_lu, hfree_l0, row0, row1, row2, row3, row4, row5, shI_dec, shN_dec, shB_dec, shM_dec, dI, dN, dB, dM, dU, dU_map, iv, bv, u, ms, ctx_T, ctx_C, ctx_P, T4, T3, T26, Option.bind_some, Option.bind_none, Option.map_some, List.length_map, List.length_set, String.reduceBEq, Int.toNat_natCast, Bool.true_beq, Bool.false_beq, T24, shF_dec, dF, fr_eta, Int.cast_ofNat_Int, Int.reduceSub, Int.reduceAdd, Int.reduceNeg, ev1, ev2, implies_true, undef, stepP, dynCall, ↓condE_t, ↓condE_f, ↓guardE_tt, ↓guardE_ff, ↓guardE_tf, ↓guardE_ft, frzDeep, deepArgs, deepArg, resB, cv, stepB, stepE, callD, tabD, snapD, snap1, snapC, snapId, snapIds, guardB, guardC, dstAt, aopR, one, pre, binR, intOpR, shiftOpR, unR, argFrm, evo, lkp, hlk, lenOf, asLst, idOf, bndA, srcOk, ofVal, ofCells, setCells, fillA, setElems, fieldsOf, fieldsEq, scalEq, isEq, AV.wr, AV.ok1, TK.agg, frz, frzs, frzA, frzArg, frzArgs, subA, subL, sub1, kp, kh, accOf, List.replicate, Nat.reduceAdd, Nat.reduceSub, Nat.reduceMul, Nat.reduceEqDiff, Nat.reduceLT, Nat.reduceLeDiff, Nat.reduceBEq, reduceIte, reduceCtorEq, eq_self, ne_eq, Int.reduceToNat, Int.reduceLT, Int.reduceLE, Int.reduceGT, Int.reduceGE, Int.reduceBEq, Int.reduceBNe, Int.reduceEq, Int.reduceNe]
          all_goals ((repeat' apply And.intro) <;> first | rfl | omega | (show entryOk _ _ _ _ _ = true; kernel_rfl) | (show pivotOk _ _ = true; kernel_rfl) | decide)
        · obtain ⟨i, rfl⟩ : ∃ n : Nat, i = n := ⟨i.toNat, by omega⟩
          have q0 : (0 : Int) ≤ (i : Int) := by omega
          have q2 : i < outs.length := by omega
          have q3 : (i : Int) < outs.length := by omega
          have g1 : (outs.length ≤ 1000 ∧ ShortB 1000 outs) = True := eq_true ⟨by omega, hc3⟩
          have g2 : ((callsP outs).length ≤ 1000 ∧ Short 1000 (callsP outs) ∧ who.length ≤ 1000) = True := eq_true ⟨by rw [len_callsP]; omega, callsP_short hc3, by omega⟩
          have lp := len_iPlay room (callsP outs) who
          by_cases hm : mayC (injC room) = true ∧ (callsP outs).length ≤ 8
          · obtain ⟨V, H, hG, hF⟩ := play_all (outs := outs) room (by omega) (fun x hx => Nat.le_trans (hc2 x hx) (by omega)) who (by omega) hm.1
            have f1 := iPlay_yes (who := who) hm
            rw [f1] at lp
            generalize pAll iStep (injC room) (callsP outs) who = s at hG hF f1 lp
            obtain ⟨sm, sl, sh, so⟩ := s
            dsimp only at f1 lp
            have e1 : sh.length = outs.length := hG.hl
            have e2 : ¬ ((i : Int) ≥ (sh.length : Int)) := by omega
            simp only [Try.f13, IE_all, hf, h1', h2, h3, g1, g2, f1, e1, e2, inl, bss, fss, fs, zs, sv, fv, Int.toNat_natCast, rf1, List.set_set, T52, T50, T51, T60, T66, hfree_fr, hfree_cf, cv', cf_eta, frz_u, shC_dec, dC, T23, T28, T25, hfree_lu, hfree_l0, row0, row1, row2, row3, row4, row5, shI_dec, shN_dec, shB_dec, shM_dec, dI, dN, dB, dM, dU, dU_map, iv, bv, u, ms, ctx_T, ctx_C, ctx_P, T4, T3, T26, Option.bind_some, Option.bind_none, Option.map_some, List.length_map, List.length_set, String.reduceBEq, Int.toNat_natCast, Bool.true_beq, Bool.false_beq, T24, shF_dec, dF, fr_eta, Int.cast_ofNat_Int, Int.reduceSub, Int.reduceAdd, Int.reduceNeg, ev1, ev2, implies_true, undef, stepP, dynCall, ↓condE_t, ↓condE_f, ↓guardE_tt, ↓guardE_ff, ↓guardE_tf, ↓guardE_ft, frzDeep, deepArgs, deepArg, resB, cv, stepB, stepE, callD, tabD, snapD, snap1, snapC, snapId, snapIds, guardB, guardC, dstAt, aopR, one, pre, binR, intOpR, shiftOpR, unR, argFrm, evo, lkp, hlk, lenOf, asLst, idOf, bndA, srcOk, ofVal, ofCells, setCells, fillA, setElems, fieldsOf, fieldsEq, scalEq, isEq, AV.wr, AV.ok1, TK.agg, frz, frzs, frzA, frzArg, frzArgs, subA, subL, sub1, kp, kh, accOf, List.replicate, Nat.reduceAdd, Nat.reduceSub, Nat.reduceMul, Nat.reduceEqDiff, Nat.reduceLT, Nat.reduceLeDiff, Nat.reduceBEq, reduceIte, reduceCtorEq, eq_self, ne_eq, Int.reduceToNat, Int.reduceLT, Int.reduceLE, Int.reduceGT, Int.reduceGE, Int.reduceBEq, Int.reduceBNe, Int.reduceEq, Int.reduceNe]
            obtain ⟨g, hE⟩ := hG.each i q2
            have hb := getD_bs q2
            have hle := hE.le
            have hops := hE.ops
            have hat := hE.at_
            have hL := hc3.get i
            have hfr := hF i
            dsimp only at hops hat hfr
            have hae : (sh.map fv).getD i .top = fv (sh.getD i noneF) := by rw [getD_f (by omega), getD_lt (by omega) fr0 noneF]
            have hdone := hG.done
            have hlen := many_len hG.many
            dsimp only at hdone hlen
            have hsm : sm.length ≤ 1000 := by omega
            generalize outs.getD i [] = L at hb hle hops hat hL
            generalize sh.getD i noneF = fh at hops hat hfr hae
            refine WP.loop (ι := Nat) (fun k => so.length - k) (fun k => k ≤ so.length) (n := 154)
              (fr := fun k => [(15, iv k), (14, iv (whoN i so k)), (11, ms sm), (12, fs so), (13, fs sh), (0, iv room), (1, bss outs), (3, iv i)]) (hp := fun k => []) (N := 0) ?_ 0 (Nat.zero_le _) rfl (Nat.zero_le _) ⟨rfl, rfl, rfl, rfl, rfl, rfl, rfl, rfl, trivial⟩ trivial
            intro k nx hk hN hid
            refine WP.of okIE 1 (by rfl) ?_
            have hnk : whoN i so k ≤ k := by rw [whoN_filter _ _ _ hk]; exact Nat.le_trans (List.length_filter_le ..) (by simp; omega)
            by_cases hkl : k < so.length
            · have hkl' : (k : Int) < so.length := by omega
              have hk0 : (0 : Int) ≤ k := by omega
              have hg := getD_f hkl
              have wk : IntKind.wrap .i64 ((k : Int) + 1) = ((k + 1 : Nat) : Int) := by rw [wrap_i (by omega) (by omega)]; omega
              have hres : (so.getD k fr0).res ≠ 0 := hdone _ (by have : so.getD k fr0 = so[k] := by simp [List.getD_eq_getElem?_getD, hkl]
                                                                 rw [this]; exact List.getElem_mem _)
              by_cases hw : (so.getD k fr0).who = (i : Int)
              · obtain ⟨w1, w2⟩ := who_at hops hkl hw
                have hn1 : whoN i so (k + 1) = whoN i so k + 1 := by rw [whoN, if_pos hw]
                generalize so.getD k fr0 = f at hg hres hw w2
                generalize whoN i so k = n at w1 w2 hn1 hnk ⊢
                have hw' : (f.who != (i : Int)) = false := by simpa using hw
                have c1 : ¬ ((n : Int) ≥ (L.length : Int)) := by omega
                have n0 : (0 : Int) ≤ n := by omega
                have n1 : (n : Int) < L.length := by omega
                have hnb : (L.map bv).getD n .top = bv (f.op == 4) := by rw [getD_b w1, w2]
                have c2 : ((f.op == 4) != (f.op == 4)) = false := by simp
                have c3 : (f.res != 0) = true := by simpa using hres
                have wn : IntKind.wrap .i64 ((n : Int) + 1) = ((n + 1 : Nat) : Int) := by rw [wrap_i (by omega) (by omega)]; omega
                simp only [IE_all, hkl', hk0, hg, hw', hb, q0, q3, c1, n0, n1, hnb, c2, c3, wn, wk, Int.toNat_natCast, bss, bs, fs, zs, sv, fv, rf1, List.set_set, T52, T50, T51, T60, T66, nb_self, nb_same, nb_l0, nb_r0, nb_lt, nb_gt, nb_lt0, nb_gt0, Nat.add_assoc, hfree_fr, hfree_cf, cv', cf_eta, frz_u, shC_dec, dC, T23, T28, T25, hfree_lu, hfree_l0, row0, row1, row2, row3, row4, row5, shI_dec, shN_dec, shB_dec, shM_dec, dI, dN, dB, dM, dU, dU_map, iv, bv, u, ms, ctx_T, ctx_C, ctx_P, T4, T3, T26, Option.bind_some, Option.bind_none, Option.map_some, List.length_map, List.length_set, String.reduceBEq, Int.toNat_natCast, Bool.true_beq, Bool.false_beq, T24, shF_dec, dF, fr_eta, Int.cast_ofNat_Int, Int.reduceSub, Int.reduceAdd, Int.reduceNeg, ev1, ev2, implies_true, undef, stepP, dynCall, ↓condE_t, ↓condE_f, ↓guardE_tt, ↓guardE_ff, ↓guardE_tf, ↓guardE_ft, frzDeep, deepArgs, deepArg, resB, cv, stepB, stepE, callD, tabD, snapD, snap1, snapC, snapId, snapIds, guardB, guardC, dstAt, aopR, one, pre, binR, intOpR, shiftOpR, unR, argFrm, evo, lkp, hlk, lenOf, asLst, idOf, bndA, srcOk, ofVal, ofCells, setCells, fillA, setElems, fieldsOf, fieldsEq, scalEq, isEq, AV.wr, AV.ok1, TK.agg, frz, frzs, frzA, frzArg, frzArgs, subA, subL, sub1, kp, kh, accOf, List.replicate, Nat.reduceAdd, Nat.reduceSub, Nat.reduceMul, Nat.reduceEqDiff, Nat.reduceLT, Nat.reduceLeDiff, Nat.reduceBEq, reduceIte, reduceCtorEq, eq_self, ne_eq, Int.reduceToNat, Int.reduceLT, Int.reduceLE, Int.reduceGT, Int.reduceGE, Int.reduceBEq, Int.reduceBNe, Int.reduceEq, Int.reduceNe]
                exact ⟨k + 1, by omega, by omega, by rw [hn1]; exact ⟨rfl, rfl⟩⟩
              · have hn1 : whoN i so (k + 1) = whoN i so k := by rw [whoN, if_neg hw]
                generalize so.getD k fr0 = f at hg hres hw
                have hw' : (f.who != (i : Int)) = true := by simpa using hw
                simp only [IE_all, hkl', hk0, hg, hw', wk, Int.toNat_natCast, bss, bs, fs, zs, sv, fv, rf1, List.set_set, T52, T50, T51, T60, T66, nb_self, nb_same, nb_l0, nb_r0, nb_lt, nb_gt, nb_lt0, nb_gt0, Nat.add_assoc, hfree_fr, hfree_cf, cv', cf_eta, frz_u, shC_dec, dC, T23, T28, T25, hfree_lu, hfree_l0, row0, row1, row2, row3, row4, row5, shI_dec, shN_dec, shB_dec, shM_dec, dI, dN, dB, dM, dU, dU_map, iv, bv, u, ms, ctx_T, ctx_C, ctx_P, T4, T3, T26, Option.bind_some, Option.bind_none, Option.map_some, List.length_map, List.length_set, String.reduceBEq, Int.toNat_natCast, Bool.true_beq, Bool.false_beq, T24, shF_dec, dF, fr_eta, Int.cast_ofNat_Int, Int.reduceSub, Int.reduceAdd, Int.reduceNeg, ev1, ev2, implies_true, undef, stepP, dynCall, ↓condE_t, ↓condE_f, ↓guardE_tt, ↓guardE_ff, ↓guardE_tf, ↓guardE_ft, frzDeep, deepArgs, deepArg, resB, cv, stepB, stepE, callD, tabD, snapD, snap1, snapC, snapId, snapIds, guardB, guardC, dstAt, aopR, one, pre, binR, intOpR, shiftOpR, unR, argFrm, evo, lkp, hlk, lenOf, asLst, idOf, bndA, srcOk, ofVal, ofCells, setCells, fillA, setElems, fieldsOf, fieldsEq, scalEq, isEq, AV.wr, AV.ok1, TK.agg, frz, frzs, frzA, frzArg, frzArgs, subA, subL, sub1, kp, kh, accOf, List.replicate, Nat.reduceAdd, Nat.reduceSub, Nat.reduceMul, Nat.reduceEqDiff, Nat.reduceLT, Nat.reduceLeDiff, Nat.reduceBEq, reduceIte, reduceCtorEq, eq_self, ne_eq, Int.reduceToNat, Int.reduceLT, Int.reduceLE, Int.reduceGT, Int.reduceGE, Int.reduceBEq, Int.reduceBNe, Int.reduceEq, Int.reduceNe]
                exact ⟨k + 1, by omega, by omega, by rw [hn1]; exact ⟨rfl, rfl⟩⟩
            · have hkl' : ¬ (k : Int) < so.length := by omega
              have hke : k = so.length := by omega
              have q4 : (i : Int) < sh.length := by omega
              by_cases ho : fh.op = -1
              · have ho' : (fh.op == -1) = true := by simpa using ho
                rw [if_pos ho] at hops
                have hn : whoN i so k = g := by rw [hke]; exact who_all hle hops
                have c1 : ((whoN i so k : Nat) : Int) ≤ L.length := by omega
                simp only [IE_all, hkl', hae, ho', hb, q0, q3, q4, c1, Int.toNat_natCast, bss, bs, fs, zs, sv, fv, rf1, List.set_set, T52, T50, T51, T60, T66, nb_self, nb_same, nb_l0, nb_r0, nb_lt, nb_gt, nb_lt0, nb_gt0, Nat.add_assoc, hfree_fr, hfree_cf, cv', cf_eta, frz_u, shC_dec, dC, T23, T28, T25, hfree_lu, hfree_l0, row0, row1, row2, row3, row4, row5, shI_dec, shN_dec, shB_dec, shM_dec, dI, dN, dB, dM, dU, dU_map, iv, bv, u, ms, ctx_T, ctx_C, ctx_P, T4, T3, T26, Option.bind_some, Option.bind_none, Option.map_some, List.length_map, List.length_set, String.reduceBEq, Int.toNat_natCast, Bool.true_beq, Bool.false_beq, T24, shF_dec, dF, fr_eta, Int.cast_ofNat_Int, Int.reduceSub, Int.reduceAdd, Int.reduceNeg, ev1, ev2, implies_true, undef, stepP, dynCall, ↓condE_t, ↓condE_f, ↓guardE_tt, ↓guardE_ff, ↓guardE_tf, ↓guardE_ft, frzDeep, deepArgs, deepArg, resB, cv, stepB, stepE, callD, tabD, snapD, snap1, snapC, snapId, snapIds, guardB, guardC, dstAt, aopR, one, pre, binR, intOpR, shiftOpR, unR, argFrm, evo, lkp, hlk, lenOf, asLst, idOf, bndA, srcOk, ofVal, ofCells, setCells, fillA, setElems, fieldsOf, fieldsEq, scalEq, isEq, AV.wr, AV.ok1, TK.agg, frz, frzs, frzA, frzArg, frzArgs, subA, subL, sub1, kp, kh, accOf, List.replicate, Nat.reduceAdd, Nat.reduceSub, Nat.reduceMul, Nat.reduceEqDiff, Nat.reduceLT, Nat.reduceLeDiff, Nat.reduceBEq, reduceIte, reduceCtorEq, eq_self, ne_eq, Int.reduceToNat, Int.reduceLT, Int.reduceLE, Int.reduceGT, Int.reduceGE, Int.reduceBEq, Int.reduceBNe, Int.reduceEq, Int.reduceNe]
                all_goals ((repeat' apply And.intro) <;> first | rfl | omega | (show entryOk _ _ _ _ _ = true; kernel_rfl) | (show pivotOk _ _ = true; kernel_rfl) | decide)
              · have ho' : (fh.op == -1) = false := by simpa using ho
                rw [if_neg ho] at hops
                have hn : whoN i so k = g - 1 := by rw [hke]; exact who_all (by omega) hops
                obtain ⟨k1, k2, k3⟩ := hat.resolve_left (fun e => ho (by rw [e]; rfl))
                have c1 : ((whoN i so k : Nat) : Int) < L.length := by omega
                have c0 : (0 : Int) ≤ ((whoN i so k : Nat) : Int) := by omega
                have hnb : (L.map bv).getD (whoN i so k) .top = bv (fh.op == 4) := by
                  rw [getD_b (by omega), hn]
                  rcases k3 with ⟨r1, r2, _⟩ | ⟨r1, r2⟩
                  · rw [getD_lt (by omega) false true, r2, r1]; rfl
                  · rw [r2, r1]; rfl
                have c3 : (fh.res != 0) = false := by simpa using hfr
                have c4 : eLen ⟨1, 1, room, 0⟩ sm ≥ 0 := hlen.2.1
                simp only [IE_all, hkl', hae, ho', hb, q0, q3, q4, c0, c1, hnb, c3, c4, hsm, beq_self_eq_true, Int.toNat_natCast, bss, bs, fs, zs, sv, fv, rf1, List.set_set, T52, T50, T51, T60, T66, nb_self, nb_same, nb_l0, nb_r0, nb_lt, nb_gt, nb_lt0, nb_gt0, Nat.add_assoc, hfree_fr, hfree_cf, cv', cf_eta, frz_u, shC_dec, dC, T23, T28, T25, hfree_lu, hfree_l0, row0, row1, row2, row3, row4, row5, shI_dec, shN_dec, shB_dec, shM_dec, dI, dN, dB, dM, dU, dU_map, iv, bv, u, ms, ctx_T, ctx_C, ctx_P, T4, T3, T26, Option.bind_some, Option.bind_none, Option.map_some, List.length_map, List.length_set, String.reduceBEq, Int.toNat_natCast, Bool.true_beq, Bool.false_beq, T24, shF_dec, dF, fr_eta, Int.cast_ofNat_Int, Int.reduceSub, Int.reduceAdd, Int.reduceNeg, ev1, ev2, implies_true, undef, stepP, dynCall, ↓condE_t, ↓condE_f, ↓guardE_tt, ↓guardE_ff, ↓guardE_tf, ↓guardE_ft, frzDeep, deepArgs, deepArg, resB, cv, stepB, stepE, callD, tabD, snapD, snap1, snapC, snapId, snapIds, guardB, guardC, dstAt, aopR, one, pre, binR, intOpR, shiftOpR, unR, argFrm, evo, lkp, hlk, lenOf, asLst, idOf, bndA, srcOk, ofVal, ofCells, setCells, fillA, setElems, fieldsOf, fieldsEq, scalEq, isEq, AV.wr, AV.ok1, TK.agg, frz, frzs, frzA, frzArg, frzArgs, subA, subL, sub1, kp, kh, accOf, List.replicate, Nat.reduceAdd, Nat.reduceSub, Nat.reduceMul, Nat.reduceEqDiff, Nat.reduceLT, Nat.reduceLeDiff, Nat.reduceBEq, reduceIte, reduceCtorEq, eq_self, ne_eq, Int.reduceToNat, Int.reduceLT, Int.reduceLE, Int.reduceGT, Int.reduceGE, Int.reduceBEq, Int.reduceBNe, Int.reduceEq, Int.reduceNe]
                all_goals ((repeat' apply And.intro) <;> first | rfl | omega | (show entryOk _ _ _ _ _ = true; kernel_rfl) | (show pivotOk _ _ = true; kernel_rfl) | decide)
          · have f1 := iPlay_no (who := who) hm
            have q4 : (i : Int) ≥ 0 := q0
            simp only [Try.f13, IE_all, hf, h1', h2, h3, g1, g2, f1, q4, inl, bss, fss, fs, zs, sv, fv, Int.toNat_natCast, List.map_nil, rf1, List.set_set, T52, T50, T51, T60, T66, hfree_fr, hfree_cf, cv', cf_eta, frz_u, shC_dec, dC, T23, T28, T25, hfree_lu, hfree_l0, row0, row1, row2, row3, row4, row5, shI_dec, shN_dec, shB_dec, shM_dec, dI, dN, dB, dM, dU, dU_map, iv, bv, u, ms, ctx_T, ctx_C, ctx_P, T4, T3, T26, Option.bind_some, Option.bind_none, Option.map_some, List.length_map, List.length_set, String.reduceBEq, Int.toNat_natCast, Bool.true_beq, Bool.false_beq, T24, shF_dec, dF, fr_eta, Int.cast_ofNat_Int, Int.reduceSub, Int.reduceAdd, Int.reduceNeg, ev1, ev2, implies_true, undef, stepP, dynCall, ↓condE_t, ↓condE_f, ↓guardE_tt, ↓guardE_ff, ↓guardE_tf, ↓guardE_ft, frzDeep, deepArgs, deepArg, resB, cv, stepB, stepE, callD, tabD, snapD, snap1, snapC, snapId, snapIds, guardB, guardC, dstAt, aopR, one, pre, binR, intOpR, shiftOpR, unR, argFrm, evo, lkp, hlk, lenOf, asLst, idOf, bndA, srcOk, ofVal, ofCells, setCells, fillA, setElems, fieldsOf, fieldsEq, scalEq, isEq, AV.wr, AV.ok1, TK.agg, frz, frzs, frzA, frzArg, frzArgs, subA, subL, sub1, kp, kh, accOf, List.replicate, Nat.reduceAdd, Nat.reduceSub, Nat.reduceMul, Nat.reduceEqDiff, Nat.reduceLT, Nat.reduceLeDiff, Nat.reduceBEq, reduceIte, reduceCtorEq, eq_self, ne_eq, Int.reduceToNat, Int.reduceLT, Int.reduceLE, Int.reduceGT, Int.reduceGE, Int.reduceBEq, Int.reduceBNe, Int.reduceEq, Int.reduceNe]
            all_goals ((repeat' apply And.intro) <;> first | rfl | omega | (show entryOk _ _ _ _ _ = true; kernel_rfl) | (show pivotOk _ _ = true; kernel_rfl) | decide)
    · have h1' : (who.length : Int) > 500 := by omega
      simp only [Try.f13, IE_all, hf, h1', inl, bss, fs, zs, sv, fv, rf1, List.set_set, T52, T50, T51, T60, T66, hfree_fr, hfree_cf, cv', cf_eta, frz_u, shC_dec, dC, T23, T28, T25, hfree_lu, hfree_l0, row0, row1, row2, row3, row4, row5, shI_dec, shN_dec, shB_dec, shM_dec, dI, dN, dB, dM, dU, dU_map, iv, bv, u, ms, ctx_T, ctx_C, ctx_P, T4, T3, T26, Option.bind_some, Option.bind_none, Option.map_some, List.length_map, List.length_set, String.reduceBEq, Int.toNat_natCast, Bool.true_beq, Bool.false_beq, T24, shF_dec, dF, fr_eta, Int.cast_ofNat_Int, Int.reduceSub, Int.reduceAdd, Int.reduceNeg, ev1, ev2, implies_true, undef, stepP, dynCall, ↓condE_t, ↓condE_f, ↓guardE_tt, ↓guardE_ff, ↓guardE_tf, ↓guardE_ft, frzDeep, deepArgs, deepArg, resB, cv, stepB, stepE, callD, tabD, snapD, snap1, snapC, snapId, snapIds, guardB, guardC, dstAt, aopR, one, pre, binR, intOpR, shiftOpR, unR, argFrm, evo, lkp, hlk, lenOf, asLst, idOf, bndA, srcOk, ofVal, ofCells, setCells, fillA, setElems, fieldsOf, fieldsEq, scalEq, isEq, AV.wr, AV.ok1, TK.agg, frz, frzs, frzA, frzArg, frzArgs, subA, subL, sub1, kp, kh, accOf, List.replicate, Nat.reduceAdd, Nat.reduceSub, Nat.reduceMul, Nat.reduceEqDiff, Nat.reduceLT, Nat.reduceLeDiff, Nat.reduceBEq, reduceIte, reduceCtorEq, eq_self, ne_eq, Int.reduceToNat, Int.reduceLT, Int.reduceLE, Int.reduceGT, Int.reduceGE, Int.reduceBEq, Int.reduceBNe, Int.reduceEq, Int.reduceNe]
      all_goals ((repeat' apply And.intro) <;> first | rfl | omega | (show entryOk _ _ _ _ _ = true; kernel_rfl) | (show pivotOk _ _ = true; kernel_rfl) | decide)
end Go.Vai
