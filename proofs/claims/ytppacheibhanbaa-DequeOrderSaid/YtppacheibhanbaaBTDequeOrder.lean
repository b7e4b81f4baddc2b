/- What the law DequeOrder needs beyond the other texts. -/
import Derived.Test.YtppacheibhanbaaBG
/- Plays at a deque, from the first step to the last: numbers and lists. -/
namespace Go.Vai
open Go.RowKit
set_option linter.unusedVariables false
set_option linter.unusedSimpArgs false

theorem zeros_ld (n : Nat) (i : Int) : mLoad (zeros n) i = 0 := by
  unfold mLoad
  split
  · simp only [zeros, List.getD_eq_getElem?_getD, List.getElem?_replicate]
    split <;> rfl
  · rfl
theorem DI.same {c : Cf} {n : Int} {pops : List Bool} {s : Dl} {t : Int} {L : List Int} {N N' : Int} {g : Nat} (h : DI c n pops s t L N g) (hN : N ≤ N') : DI c n pops s t L N' g :=
  ⟨h.base.same hN, h.own, h.th, h.hl, h.hn, h.le, h.left, h.cur, h.perm, h.puts, h.nodup, h.incr⟩
theorem fm_none {g : Fr → Option Int} (hg : g noneF = none) (k : Nat) : (List.replicate k noneF).filterMap g = [] := by
  rw [List.filterMap_eq_nil_iff]
  intro a ha
  rw [(List.mem_replicate.1 ha).2]; exact hg

theorem DI.start {d n : Int} {pops : List Bool} (hm : mayC (dqC d) = true) (hn : 0 ≤ n ∧ n ≤ 8) : DI (dqC d) n pops (dStart (dqC d) n (callsDq pops)) 0 [] 0 0 := by
  have hs := lSize_pos (dqC d)
  have hL : Lay (dqC d) (zeros (lSize (dqC d)).toNat) 0 := ⟨hm, by rw [zeros_len]; omega, by omega, by show (0 : Int) < 1; omega⟩
  have hh : ∀ j, (dStart (dqC d) n (callsDq pops)).hand.getD j noneF = noneF := by
    intro j
    simp only [dStart]
    rw [List.getD_eq_getElem?_getD, List.getElem?_replicate]
    split <;> rfl
  have hp : ∀ g : Fr → Option Int, g noneF = none → (([] : List Fr) ++ List.replicate (n + 1).toNat noneF).filterMap g = [] := fun g hg => by rw [List.nil_append]; exact fm_none hg _
  have p1 : putsD (dStart (dqC d) n (callsDq pops)) = [] := hp dPut rfl
  have p2 : gotsD (dStart (dqC d) n (callsDq pops)) = [] := hp dGot rfl
  have hd := hL.dpos
  refine ⟨⟨hL, zeros_ld .., by omega, by show (0 : Int) ≤ (dqC d).d; omega, by simp, fun k hk => by simp at hk⟩, ?_, fun j _ => by rw [hh j]; exact none_th .., by simp [dStart], hn, by omega, by simp [dStart], .inl (hh 0), ?_, ?_, ?_, List.Pairwise.nil⟩
  · rw [hh 0]
    exact ⟨.inl rfl, fun _ => zeros_ld .., fun q => by simp [noneF] at q, fun q => by simp [noneF] at q⟩
  · rw [p1, p2]; exact List.Perm.refl _
  · rw [p1]; intro v hv; cases hv
  · rw [p1]; exact List.nodup_nil

section
variable {c : Cf} {n : Int} {pops : List Bool} {s : Dl} {t : Int} {L : List Int} {N : Int} {g : Nat}

/-- A whole turn. -/
theorem DI.turn (h : DI c n pops s t L N g) (hN : N ≤ 10000) {i : Int} (h0 : 0 ≤ i) (h1 : i ≤ n) : ∃ t' L' g', DI c n pops (dlBegin s i.toNat) t L N g' ∧ DI c n pops (dlStep c (dlBegin s i.toNat) i.toNat) t' L' (N + 1) g' ∧ DI c n pops (dTurn dqStep c n s i) t' L' (N + 1) g' ∧
    DEv (dHand s i.toNat).1 (dqStep c s.m (dHand s i.toNat).1).2 i.toNat g' L L' ∧ ((dHand s i.toNat).1.op = 1 → (dHand s i.toNat).1.res = 0 → (dqStep c s.m (dHand s i.toNat).1).2.res = 3 → L' = []) := by
  have hi : i.toNat < s.hand.length := by have := h.hl; omega
  obtain ⟨g', b⟩ := h.begin hi
  have hi2 : i.toNat < (dlBegin s i.toNat).hand.length := by simp [dlBegin, hi]
  have e1 : (dlBegin s i.toNat).hand.getD i.toNat noneF = (dHand s i.toNat).1 := gsd_self hi _ _
  have e2 : (dlStep c (dlBegin s i.toNat) i.toNat).hand.getD i.toNat noneF = (dqStep c s.m (dHand s i.toNat).1).2 := by
    rw [dlStep, e1]; exact gsd_self hi2 _ _
  obtain ⟨t', L', b1, b2, b3, b4⟩ := b.step hN hi2
  have hi3 : i.toNat < (dlStep c (dlBegin s i.toNat) i.toNat).hand.length := by simp [dlStep, hi2]
  rw [e1, e2] at b2 b4
  exact ⟨t', L', g', b, b1, by rw [dTurn_split h0 h1 h.hl]; exact b1.move hi3, b2, b4⟩
end

def stolen (f : Fr) : Option Int := if f.op = 2 ∧ f.res = 1 then some f.val else none
theorem turn_fm (c : Cf) {n : Int} (s : Dl) {i : Int} (h0 : 0 ≤ i) (h1 : i ≤ n) (q : Fr → Option Int) (q0 : ∀ f : Fr, f.res = 0 → q f = none) (qw : ∀ f k, q (withWho f k) = q f) :
    (dTurn dqStep c n s i).over.filterMap q = s.over.filterMap q ++ (q (dqStep c s.m (dHand s i.toNat).1).2).toList := by
  rw [dTurn, if_pos ⟨h0, h1⟩, dRound]
  split
  · rename_i e
    rw [q0 _ e]; simp
  · rename_i e
    rw [List.filterMap_append, List.filterMap_cons, List.filterMap_nil, qw]
    cases q (dqStep c s.m (dHand s i.toNat).1).2 <;> rfl
theorem stolen_got {f : Fr} {v : Int} (h : stolen f = some v) : dGot f = some v := by
  unfold stolen at h
  split at h
  · rename_i e
    unfold dGot; rw [if_pos (.inr e)]; exact h
  · cases h

/-- What is stolen, and what is there, as it was put in. -/
structure OrdD (c : Cf) (n : Int) (pops : List Bool) (s : Dl) (N : Int) : Prop where
  who : WhoD n s
  di : ∃ t L g, DI c n pops s t L N g ∧ (s.over.filterMap stolen ++ L).Pairwise (· < ·)

theorem OrdD.turn {c : Cf} {n : Int} {pops : List Bool} {s : Dl} {N : Int} (h : OrdD c n pops s N) (hN : N ≤ 10000) (i : Int) : OrdD c n pops (dTurn dqStep c n s i) (N + 1) := by
  refine ⟨dTurn_whoD h.who i, ?_⟩
  obtain ⟨t, L, g, hD, hP⟩ := h.di
  by_cases hi : 0 ≤ i ∧ i ≤ n
  · have hf := dHand_hand h.who i.toNat
    obtain ⟨t', L', g', b0, b1, b2, b3, b4⟩ := hD.turn hN hi.1 hi.2
    refine ⟨t', L', g', b2, ?_⟩
    have hil : i.toNat < s.hand.length := by have := hD.hl; omega
    rw [turn_fm c s hi.1 hi.2 stolen (fun f e => by unfold stolen; rw [if_neg (by omega)]) (fun f k => rfl)]
    have hop := op_dqStep c s.m (dHand s i.toNat).1
    have e1 : (dlBegin s i.toNat).hand.getD i.toNat noneF = (dHand s i.toNat).1 := gsd_self hil _ _
    have hov : (dlBegin s i.toNat).over = s.over := rfl
    generalize (dHand s i.toNat).1 = f at hf b3 b4 hop e1 ⊢
    generalize (dqStep c s.m f).2 = f' at b3 b4 hop ⊢
    cases b3 with
    | none _ hno =>
      have : stolen f' = none := by
        unfold stolen
        rw [if_neg (fun k => hno k.1 k.2 hf.1)]
      rw [this]; simpa using hP
    | push _ v h1 h2 h3 h4 =>
      have : stolen f' = none := by unfold stolen; rw [if_neg (by omega)]
      rw [this]
      rw [h1] at b0 e1
      have hp := b0.puts
      rw [e1] at hp
      have hlt : ∀ x ∈ s.over.filterMap stolen ++ L, x < v := by
        intro x hx
        have hx2 : x ∈ putsD (dlBegin s 0) := by
          refine b0.perm.mem_iff.2 ?_
          rcases List.mem_append.1 hx with q | q
          · refine List.mem_append_left _ ?_
            obtain ⟨a, ha, hs⟩ := List.mem_filterMap.1 q
            exact List.mem_filterMap.2 ⟨a, List.mem_append_left _ ha, stolen_got hs⟩
          · exact List.mem_append_right _ q
        have := (hp x hx2).2.2.2 h3 (by omega)
        omega
      simp only [Option.toList_none, List.append_nil]
      rw [← List.append_assoc]
      refine List.pairwise_append.2 ⟨hP, List.pairwise_singleton _ _, fun a ha b hb => ?_⟩
      rw [List.mem_singleton] at hb
      rw [hb]; exact hlt a ha
    | pop _ v h1 =>
      have hne : f'.op ≠ 2 := by
        rw [hop]
        rcases hf.2 with q | q | q
        · rw [q]; decide
        · omega
        · omega
      have : stolen f' = none := by unfold stolen; rw [if_neg (fun k => hne k.1)]
      rw [this]
      simp only [Option.toList_none, List.append_nil]
      rw [← List.append_assoc] at hP
      exact (List.pairwise_append.1 hP).1
    | steal _ v h1 h2 h3 h4 h5 =>
      have : stolen f' = some v := by unfold stolen; rw [if_pos ⟨h2, h4⟩, h5]
      rw [this]
      simpa using hP
  · refine ⟨t, L, g, ?_, ?_⟩
    · rw [dTurn, if_neg hi]; exact hD.same (by omega)
    · rw [dTurn, if_neg hi]; exact hP

theorem OrdD.fold {c : Cf} {n : Int} {pops : List Bool} : ∀ (who : List Int) {s : Dl} {N : Int}, OrdD c n pops s N → N + who.length ≤ 10000 → OrdD c n pops (who.foldl (dTurn dqStep c n) s) (N + who.length)
  | [], s, N, h, hN => by simpa using h
  | i :: r, s, N, h, hN => by
    simp only [List.length_cons] at hN
    have := OrdD.fold r (h.turn (by omega) i) (by omega)
    simp only [List.foldl_cons, List.length_cons]
    rwa [show N + ((r.length + 1 : Nat) : Int) = N + 1 + (r.length : Int) by omega]
theorem OrdD.start {d n : Int} {pops : List Bool} (hm : mayC (dqC d) = true) (hn : 0 ≤ n ∧ n ≤ 8) : OrdD (dqC d) n pops (dStart (dqC d) n (callsDq pops)) 0 := by
  refine ⟨⟨fun j => ?_, fun f hf => by simp [dStart] at hf⟩, 0, [], 0, DI.start hm hn, by simp [dStart]⟩
  simp only [dStart]
  rw [List.getD_eq_getElem?_getD, List.getElem?_replicate]
  split <;> exact none_hand j
theorem dAll_ord {d n : Int} {pops : List Bool} (hm : mayC (dqC d) = true) (hn : 0 ≤ n ∧ n ≤ 8) (who : List Int) (hw : who.length ≤ 600) : OrdD (dqC d) n pops (dAll dqStep (dqC d) n (callsDq pops) who) 600 := by
  have h := OrdD.fold who (OrdD.start (pops := pops) hm hn) (by omega)
  obtain ⟨h1, t, L, g, h2, h3⟩ := h
  exact ⟨h1, t, L, g, h2.same (by omega), h3⟩

/-- What DequeOrder asks. -/
theorem dplay_order (d n : Int) (pops : List Bool) (who : List Int) (hw : who.length ≤ 600) :
    dPlay d n (callsDq pops) who = ([], [], []) ∨ ∃ sm so sh, dPlay d n (callsDq pops) who = (sm, so, sh) ∧ (so.filterMap stolen).Pairwise (· < ·) ∧ (∀ v ∈ so.filterMap stolen, 1 ≤ v) ∧ ∀ f ∈ so, OverOk n f := by
  by_cases hm : mayC (dqC d) = true ∧ 0 ≤ n ∧ n ≤ 8
  · right
    obtain ⟨h1, t, L, g, h2, h3⟩ := dAll_ord (pops := pops) hm.1 hm.2 who hw
    refine ⟨_, _, _, if_pos hm, (List.pairwise_append.1 h3).1, fun v hv => ?_, h1.over⟩
    obtain ⟨a, ha, hs⟩ := List.mem_filterMap.1 hv
    exact (h2.puts v (h2.perm.mem_iff.2 (List.mem_append_left _ (List.mem_filterMap.2 ⟨a, List.mem_append_left _ ha, stolen_got hs⟩)))).1
  · left; exact if_neg hm
end Go.Vai
/- What is stolen was pushed in that order, as the program says. -/
namespace Go.Vai
open Go.RowKit Go.Proofs
set_option linter.unusedSimpArgs false
set_option linter.unusedVariables false
set_option maxHeartbeats 4000000
set_option maxRecDepth 100000

def lastS (l : List Fr) (k : Nat) : Int := ((l.take k).filterMap stolen).getLastD 0
theorem lastS_no {l : List Fr} {k : Nat} (h : k < l.length) (hn : stolen (l.getD k fr0) = none) : lastS l (k + 1) = lastS l k := by
  have e : l.getD k fr0 = l[k] := by simp [List.getD_eq_getElem?_getD, h]
  rw [e] at hn
  unfold lastS
  rw [List.take_succ_eq_append_getElem h, List.filterMap_append, List.filterMap_cons, hn]
  simp
theorem lastS_yes {l : List Fr} {k : Nat} {v : Int} (h : k < l.length) (hn : stolen (l.getD k fr0) = some v) (hp : (l.filterMap stolen).Pairwise (· < ·)) (h1 : ∀ v ∈ l.filterMap stolen, 1 ≤ v) : lastS l (k + 1) = v ∧ lastS l k < v := by
  have e : l.getD k fr0 = l[k] := by simp [List.getD_eq_getElem?_getD, h]
  rw [e] at hn
  have e2 : (l.take (k + 1)).filterMap stolen = (l.take k).filterMap stolen ++ [v] := by
    rw [List.take_succ_eq_append_getElem h, List.filterMap_append, List.filterMap_cons, hn]; rfl
  have hs : ((l.take (k + 1)).filterMap stolen).Sublist (l.filterMap stolen) := (List.take_sublist _ _).filterMap _
  have hp2 := hp.sublist hs
  rw [e2] at hp2
  refine ⟨by unfold lastS; rw [e2]; simp, ?_⟩
  unfold lastS
  rcases List.eq_nil_or_concat ((l.take k).filterMap stolen) with q | ⟨r, x, q⟩
  · rw [q]
    have := h1 v (hs.subset (by rw [e2]; simp))
    simp; omega
  · rw [q] at hp2 ⊢
    have := (List.pairwise_append.1 hp2).2.2 x (by simp) v (by simp)
    simpa using this

theorem order10_law (d n : Int) (pops : List Bool) (who : List Int) : PureC Try.prog 4 [iv d, iv n, bs pops, zs who] (bv true) := by
  refine pure_sub okJD 1 Try.func4 rfl (by show 4 ≤ _; decide) ?_
  by_cases h0 : pops.length ≤ 60
  · have h0' : ¬ (pops.length : Int) > 60 := by omega
    by_cases h1 : who.length ≤ 500
    · have h1' : ¬ (who.length : Int) > 500 := by omega
      have g1 : pops.length ≤ 1000 := by omega
      have g2 : (callsDq pops).length ≤ 1000 := by rw [len_callsDq]; omega
      have g3 : who.length ≤ 1000 := by omega
      have lp := len_dPlay d n (callsDq pops) who
      obtain ⟨sm, so, sh, e, hP, h1v, hO⟩ : ∃ sm so sh, dPlay d n (callsDq pops) who = (sm, so, sh) ∧ (so.filterMap stolen).Pairwise (· < ·) ∧ (∀ v ∈ so.filterMap stolen, 1 ≤ v) ∧ ∀ f ∈ so, OverOk n f := by
        rcases dplay_order d n pops who (by omega) with e | e
        · exact ⟨[], [], [], e, List.Pairwise.nil, (fun v hv => by cases hv), (fun f hf => by cases hf)⟩
        · exact e
      rw [e] at lp
      dsimp only at lp
      simp only [Try.f4, JD_all, h0', h1', g1, g2, g3, e, inl, bs, fs, zs, sv, fv, Int.toNat_natCast, rf1, List.set_set, T29, T30, T41, hfree_fr, hfree_cf, cv', cf_eta, frz_u, shC_dec, dC, T23, T28, T25, hfree_lu, hfree_l0, row0, row1, row2, row3, row4, row5, shI_dec, shN_dec, shB_dec, shM_dec, dI, dN, dB, dM, dU, dU_map, iv, bv, u, ms, ctx_T, ctx_C, ctx_P, T4, T3, T26, Option.bind_some, Option.bind_none, Option.map_some, List.length_map, List.length_set, String.reduceBEq, Int.toNat_natCast, Bool.true_beq, Bool.false_beq, T24, shF_dec, dF, fr_eta, Int.cast_ofNat_Int, Int.reduceSub, Int.reduceAdd, Int.reduceNeg, ev1, ev2, implies_true, undef, stepP, drawB, stepL, lateB, lateB0, rdsT, rdsAny, isRd, afterL, preB, callLB, callLV, lateV, dstV, dynCall, ↓condE_t, ↓condE_f, ↓guardE_tt, ↓guardE_ff, ↓guardE_tf, ↓guardE_ft, frzDeep, deepArgs, deepArg, resB, cv, stepB, stepE, callD, tabD, snapD, snap1, snapC, snapId, snapIds, guardB, guardC, dstAt, aopR, one, pre, binR, intOpR, shiftOpR, unR, argFrm, evo, lkp, hlk, lenOf, asLst, idOf, bndA, srcOk, ofVal, ofCells, setCells, fillA, setElems, fieldsOf, fieldsEq, scalEq, isEq, AV.wr, AV.ok1, TK.agg, frz, frzs, frzA, frzArg, frzArgs, subA, subL, sub1, kp, kh, accOf, List.replicate, Nat.reduceAdd, Nat.reduceSub, Nat.reduceMul, Nat.reduceEqDiff, Nat.reduceLT, Nat.reduceLeDiff, Nat.reduceBEq, reduceIte, reduceCtorEq, eq_self, ne_eq, Int.reduceToNat, Int.reduceLT, Int.reduceLE, Int.reduceGT, Int.reduceGE, Int.reduceBEq, Int.reduceBNe, Int.reduceEq, Int.reduceNe]
      refine WP.loop (ι := Nat) (fun k => so.length - k) (fun k => k ≤ so.length) (n := 88)
        (fr := fun k => [(14, iv k), (13, u (lastS so k)), (11, fs so), (1, iv n)]) (hp := fun k => []) (N := 0) ?_ 0 (Nat.zero_le _) rfl (Nat.zero_le _) ⟨rfl, rfl, rfl, rfl, trivial⟩ trivial
      intro k nx hk hN hid
      refine WP.of okJD 1 (by rfl) ?_
      by_cases hkl : k < so.length
      · have hkl' : (k : Int) < so.length := by omega
        have hk0 : (0 : Int) ≤ k := by omega
        have hg := getD_f hkl
        have wk : IntKind.wrap .i64 ((k : Int) + 1) = ((k + 1 : Nat) : Int) := by rw [wrap_i (by omega) (by omega)]; omega
        have hR : OverOk n (so.getD k fr0) := by
          have : so.getD k fr0 = so[k] := by simp [List.getD_eq_getElem?_getD, hkl]
          rw [this]; exact hO _ (List.getElem_mem _)
        have hno := lastS_no hkl
        have hyes := fun v hv => lastS_yes (v := v) hkl hv hP h1v
        generalize so.getD k fr0 = f at hg hR hno hyes
        by_cases c1 : f.op = 2
        · have c1' : (f.op != 2) = false := by simpa using c1
          by_cases c2 : f.res = 1
          · have c2' : (f.res != 1) = false := by simpa using c2
            obtain ⟨hL, hlt⟩ := hyes f.val (by unfold stolen; rw [if_pos ⟨c1, c2⟩])
            have c3 : ¬ f.val ≤ lastS so k := by omega
            have hw : 1 ≤ f.who ∧ f.who ≤ n := by
              rcases hR.who with q | q
              · omega
              · exact ⟨q.1, q.2.1⟩
            have c4 : ¬ f.who < 1 := by omega
            have c5 : ¬ f.who > n := by omega
            simp only [JD_all, hkl', hk0, hg, wk, c1', c2', c3, c4, c5, Int.toNat_natCast, fs, zs, sv, fv, rf1, List.set_set, T29, T30, T41, nb_self, nb_same, nb_l0, nb_r0, nb_lt, nb_gt, nb_lt0, nb_gt0, Nat.add_assoc, hfree_fr, hfree_cf, cv', cf_eta, frz_u, shC_dec, dC, T23, T28, T25, hfree_lu, hfree_l0, row0, row1, row2, row3, row4, row5, shI_dec, shN_dec, shB_dec, shM_dec, dI, dN, dB, dM, dU, dU_map, iv, bv, u, ms, ctx_T, ctx_C, ctx_P, T4, T3, T26, Option.bind_some, Option.bind_none, Option.map_some, List.length_map, List.length_set, String.reduceBEq, Int.toNat_natCast, Bool.true_beq, Bool.false_beq, T24, shF_dec, dF, fr_eta, Int.cast_ofNat_Int, Int.reduceSub, Int.reduceAdd, Int.reduceNeg, ev1, ev2, implies_true, undef, stepP, drawB, stepL, lateB, lateB0, rdsT, rdsAny, isRd, afterL, preB, callLB, callLV, lateV, dstV, dynCall, ↓condE_t, ↓condE_f, ↓guardE_tt, ↓guardE_ff, ↓guardE_tf, ↓guardE_ft, frzDeep, deepArgs, deepArg, resB, cv, stepB, stepE, callD, tabD, snapD, snap1, snapC, snapId, snapIds, guardB, guardC, dstAt, aopR, one, pre, binR, intOpR, shiftOpR, unR, argFrm, evo, lkp, hlk, lenOf, asLst, idOf, bndA, srcOk, ofVal, ofCells, setCells, fillA, setElems, fieldsOf, fieldsEq, scalEq, isEq, AV.wr, AV.ok1, TK.agg, frz, frzs, frzA, frzArg, frzArgs, subA, subL, sub1, kp, kh, accOf, List.replicate, Nat.reduceAdd, Nat.reduceSub, Nat.reduceMul, Nat.reduceEqDiff, Nat.reduceLT, Nat.reduceLeDiff, Nat.reduceBEq, reduceIte, reduceCtorEq, eq_self, ne_eq, Int.reduceToNat, Int.reduceLT, Int.reduceLE, Int.reduceGT, Int.reduceGE, Int.reduceBEq, Int.reduceBNe, Int.reduceEq, Int.reduceNe]
            refine ⟨k + 1, by omega, by omega, ?_⟩
            rw [hL]
            refine ⟨?_, ?_⟩ <;> first | trivial | rfl
          · have c2' : (f.res != 1) = true := by simpa using c2
            have hL := hno (by unfold stolen; rw [if_neg (fun k => c2 k.2)])
            simp only [JD_all, hkl', hk0, hg, wk, c1', c2', Int.toNat_natCast, fs, zs, sv, fv, rf1, List.set_set, T29, T30, T41, nb_self, nb_same, nb_l0, nb_r0, nb_lt, nb_gt, nb_lt0, nb_gt0, Nat.add_assoc, hfree_fr, hfree_cf, cv', cf_eta, frz_u, shC_dec, dC, T23, T28, T25, hfree_lu, hfree_l0, row0, row1, row2, row3, row4, row5, shI_dec, shN_dec, shB_dec, shM_dec, dI, dN, dB, dM, dU, dU_map, iv, bv, u, ms, ctx_T, ctx_C, ctx_P, T4, T3, T26, Option.bind_some, Option.bind_none, Option.map_some, List.length_map, List.length_set, String.reduceBEq, Int.toNat_natCast, Bool.true_beq, Bool.false_beq, T24, shF_dec, dF, fr_eta, Int.cast_ofNat_Int, Int.reduceSub, Int.reduceAdd, Int.reduceNeg, ev1, ev2, implies_true, undef, stepP, drawB, stepL, lateB, lateB0, rdsT, rdsAny, isRd, afterL, preB, callLB, callLV, lateV, dstV, dynCall, ↓condE_t, ↓condE_f, ↓guardE_tt, ↓guardE_ff, ↓guardE_tf, ↓guardE_ft, frzDeep, deepArgs, deepArg, resB, cv, stepB, stepE, callD, tabD, snapD, snap1, snapC, snapId, snapIds, guardB, guardC, dstAt, aopR, one, pre, binR, intOpR, shiftOpR, unR, argFrm, evo, lkp, hlk, lenOf, asLst, idOf, bndA, srcOk, ofVal, ofCells, setCells, fillA, setElems, fieldsOf, fieldsEq, scalEq, isEq, AV.wr, AV.ok1, TK.agg, frz, frzs, frzA, frzArg, frzArgs, subA, subL, sub1, kp, kh, accOf, List.replicate, Nat.reduceAdd, Nat.reduceSub, Nat.reduceMul, Nat.reduceEqDiff, Nat.reduceLT, Nat.reduceLeDiff, Nat.reduceBEq, reduceIte, reduceCtorEq, eq_self, ne_eq, Int.reduceToNat, Int.reduceLT, Int.reduceLE, Int.reduceGT, Int.reduceGE, Int.reduceBEq, Int.reduceBNe, Int.reduceEq, Int.reduceNe]
            refine ⟨k + 1, by omega, by omega, ?_⟩
            rw [hL]
            refine ⟨?_, ?_⟩ <;> first | trivial | rfl
        · have c1' : (f.op != 2) = true := by simpa using c1
          have hL := hno (by unfold stolen; rw [if_neg (fun k => c1 k.1)])
          simp only [JD_all, hkl', hk0, hg, wk, c1', Int.toNat_natCast, fs, zs, sv, fv, rf1, List.set_set, T29, T30, T41, nb_self, nb_same, nb_l0, nb_r0, nb_lt, nb_gt, nb_lt0, nb_gt0, Nat.add_assoc, hfree_fr, hfree_cf, cv', cf_eta, frz_u, shC_dec, dC, T23, T28, T25, hfree_lu, hfree_l0, row0, row1, row2, row3, row4, row5, shI_dec, shN_dec, shB_dec, shM_dec, dI, dN, dB, dM, dU, dU_map, iv, bv, u, ms, ctx_T, ctx_C, ctx_P, T4, T3, T26, Option.bind_some, Option.bind_none, Option.map_some, List.length_map, List.length_set, String.reduceBEq, Int.toNat_natCast, Bool.true_beq, Bool.false_beq, T24, shF_dec, dF, fr_eta, Int.cast_ofNat_Int, Int.reduceSub, Int.reduceAdd, Int.reduceNeg, ev1, ev2, implies_true, undef, stepP, drawB, stepL, lateB, lateB0, rdsT, rdsAny, isRd, afterL, preB, callLB, callLV, lateV, dstV, dynCall, ↓condE_t, ↓condE_f, ↓guardE_tt, ↓guardE_ff, ↓guardE_tf, ↓guardE_ft, frzDeep, deepArgs, deepArg, resB, cv, stepB, stepE, callD, tabD, snapD, snap1, snapC, snapId, snapIds, guardB, guardC, dstAt, aopR, one, pre, binR, intOpR, shiftOpR, unR, argFrm, evo, lkp, hlk, lenOf, asLst, idOf, bndA, srcOk, ofVal, ofCells, setCells, fillA, setElems, fieldsOf, fieldsEq, scalEq, isEq, AV.wr, AV.ok1, TK.agg, frz, frzs, frzA, frzArg, frzArgs, subA, subL, sub1, kp, kh, accOf, List.replicate, Nat.reduceAdd, Nat.reduceSub, Nat.reduceMul, Nat.reduceEqDiff, Nat.reduceLT, Nat.reduceLeDiff, Nat.reduceBEq, reduceIte, reduceCtorEq, eq_self, ne_eq, Int.reduceToNat, Int.reduceLT, Int.reduceLE, Int.reduceGT, Int.reduceGE, Int.reduceBEq, Int.reduceBNe, Int.reduceEq, Int.reduceNe]
          refine ⟨k + 1, by omega, by omega, ?_⟩
          rw [hL]
          refine ⟨?_, ?_⟩ <;> first | trivial | rfl
      · have hkl' : ¬ (k : Int) < so.length := by omega
        simp only [JD_all, hkl', fs, zs, sv, fv, rf1, List.set_set, T29, T30, T41, nb_self, nb_same, nb_l0, nb_r0, nb_lt, nb_gt, nb_lt0, nb_gt0, Nat.add_assoc, hfree_fr, hfree_cf, cv', cf_eta, frz_u, shC_dec, dC, T23, T28, T25, hfree_lu, hfree_l0, row0, row1, row2, row3, row4, row5, shI_dec, shN_dec, shB_dec, shM_dec, dI, dN, dB, dM, dU, dU_map, iv, bv, u, ms, ctx_T, ctx_C, ctx_P, T4, T3, T26, Option.bind_some, Option.bind_none, Option.map_some, List.length_map, List.length_set, String.reduceBEq, Int.toNat_natCast, Bool.true_beq, Bool.false_beq, T24, shF_dec, dF, fr_eta, Int.cast_ofNat_Int, Int.reduceSub, Int.reduceAdd, Int.reduceNeg, ev1, ev2, implies_true, undef, stepP, drawB, stepL, lateB, lateB0, rdsT, rdsAny, isRd, afterL, preB, callLB, callLV, lateV, dstV, dynCall, ↓condE_t, ↓condE_f, ↓guardE_tt, ↓guardE_ff, ↓guardE_tf, ↓guardE_ft, frzDeep, deepArgs, deepArg, resB, cv, stepB, stepE, callD, tabD, snapD, snap1, snapC, snapId, snapIds, guardB, guardC, dstAt, aopR, one, pre, binR, intOpR, shiftOpR, unR, argFrm, evo, lkp, hlk, lenOf, asLst, idOf, bndA, srcOk, ofVal, ofCells, setCells, fillA, setElems, fieldsOf, fieldsEq, scalEq, isEq, AV.wr, AV.ok1, TK.agg, frz, frzs, frzA, frzArg, frzArgs, subA, subL, sub1, kp, kh, accOf, List.replicate, Nat.reduceAdd, Nat.reduceSub, Nat.reduceMul, Nat.reduceEqDiff, Nat.reduceLT, Nat.reduceLeDiff, Nat.reduceBEq, reduceIte, reduceCtorEq, eq_self, ne_eq, Int.reduceToNat, Int.reduceLT, Int.reduceLE, Int.reduceGT, Int.reduceGE, Int.reduceBEq, Int.reduceBNe, Int.reduceEq, Int.reduceNe]
        all_goals ((repeat' apply And.intro) <;> first | rfl | omega | (show entryOk _ _ _ _ _ = true; kernel_rfl) | (show pivotOk _ _ = true; kernel_rfl) | decide)
    · have h1' : (who.length : Int) > 500 := by omega
      simp only [Try.f4, JD_all, h0', h1', inl, bs, fs, zs, sv, fv, rf1, List.set_set, T29, T30, T41, hfree_fr, hfree_cf, cv', cf_eta, frz_u, shC_dec, dC, T23, T28, T25, hfree_lu, hfree_l0, row0, row1, row2, row3, row4, row5, shI_dec, shN_dec, shB_dec, shM_dec, dI, dN, dB, dM, dU, dU_map, iv, bv, u, ms, ctx_T, ctx_C, ctx_P, T4, T3, T26, Option.bind_some, Option.bind_none, Option.map_some, List.length_map, List.length_set, String.reduceBEq, Int.toNat_natCast, Bool.true_beq, Bool.false_beq, T24, shF_dec, dF, fr_eta, Int.cast_ofNat_Int, Int.reduceSub, Int.reduceAdd, Int.reduceNeg, ev1, ev2, implies_true, undef, stepP, drawB, stepL, lateB, lateB0, rdsT, rdsAny, isRd, afterL, preB, callLB, callLV, lateV, dstV, dynCall, ↓condE_t, ↓condE_f, ↓guardE_tt, ↓guardE_ff, ↓guardE_tf, ↓guardE_ft, frzDeep, deepArgs, deepArg, resB, cv, stepB, stepE, callD, tabD, snapD, snap1, snapC, snapId, snapIds, guardB, guardC, dstAt, aopR, one, pre, binR, intOpR, shiftOpR, unR, argFrm, evo, lkp, hlk, lenOf, asLst, idOf, bndA, srcOk, ofVal, ofCells, setCells, fillA, setElems, fieldsOf, fieldsEq, scalEq, isEq, AV.wr, AV.ok1, TK.agg, frz, frzs, frzA, frzArg, frzArgs, subA, subL, sub1, kp, kh, accOf, List.replicate, Nat.reduceAdd, Nat.reduceSub, Nat.reduceMul, Nat.reduceEqDiff, Nat.reduceLT, Nat.reduceLeDiff, Nat.reduceBEq, reduceIte, reduceCtorEq, eq_self, ne_eq, Int.reduceToNat, Int.reduceLT, Int.reduceLE, Int.reduceGT, Int.reduceGE, Int.reduceBEq, Int.reduceBNe, Int.reduceEq, Int.reduceNe]
      all_goals ((repeat' apply And.intro) <;> first | rfl | omega | (show entryOk _ _ _ _ _ = true; kernel_rfl) | (show pivotOk _ _ = true; kernel_rfl) | decide)
  · have h0' : (pops.length : Int) > 60 := by omega
    simp only [Try.f4, JD_all, h0', inl, bs, fs, zs, sv, fv, rf1, List.set_set, T29, T30, T41, hfree_fr, hfree_cf, cv', cf_eta, frz_u, shC_dec, dC, T23, T28, T25, hfree_lu, hfree_l0, row0, row1, row2, row3, row4, row5, shI_dec, shN_dec, shB_dec, shM_dec, dI, dN, dB, dM, dU, dU_map, iv, bv, u, ms, ctx_T, ctx_C, ctx_P, T4, T3, T26, Option.bind_some, Option.bind_none, Option.map_some, List.length_map, List.length_set, String.reduceBEq, Int.toNat_natCast, Bool.true_beq, Bool.false_beq, T24, shF_dec, dF, fr_eta, Int.cast_ofNat_Int, Int.reduceSub, Int.reduceAdd, Int.reduceNeg, ev1, ev2, implies_true, undef, stepP, drawB, stepL, lateB, lateB0, rdsT, rdsAny, isRd, afterL, preB, callLB, callLV, lateV, dstV, dynCall, ↓condE_t, ↓condE_f, ↓guardE_tt, ↓guardE_ff, ↓guardE_tf, ↓guardE_ft, frzDeep, deepArgs, deepArg, resB, cv, stepB, stepE, callD, tabD, snapD, snap1, snapC, snapId, snapIds, guardB, guardC, dstAt, aopR, one, pre, binR, intOpR, shiftOpR, unR, argFrm, evo, lkp, hlk, lenOf, asLst, idOf, bndA, srcOk, ofVal, ofCells, setCells, fillA, setElems, fieldsOf, fieldsEq, scalEq, isEq, AV.wr, AV.ok1, TK.agg, frz, frzs, frzA, frzArg, frzArgs, subA, subL, sub1, kp, kh, accOf, List.replicate, Nat.reduceAdd, Nat.reduceSub, Nat.reduceMul, Nat.reduceEqDiff, Nat.reduceLT, Nat.reduceLeDiff, Nat.reduceBEq, reduceIte, reduceCtorEq, eq_self, ne_eq, Int.reduceToNat, Int.reduceLT, Int.reduceLE, Int.reduceGT, Int.reduceGE, Int.reduceBEq, Int.reduceBNe, Int.reduceEq, Int.reduceNe]
    all_goals ((repeat' apply And.intro) <;> first | rfl | omega | (show entryOk _ _ _ _ _ = true; kernel_rfl) | (show pivotOk _ _ = true; kernel_rfl) | decide)
end Go.Vai
