/- What the law DequeRoom needs beyond the other texts. -/
import Derived.Test.YtppacheibhanbaaBG
import Derived.Test.YtppacheibhanbaaBF
import Derived.Test.YtppacheibhanbaaBD
import Derived.Test.YtppacheibhanbaaBC
/- The owner alone, call after call, for as many steps as one likes: as with a list. -/
namespace Go.Vai
open Go.RowKit
set_option linter.unusedVariables false
set_option linter.unusedSimpArgs false

/-- What calls are like, that are over, with a list. -/
def runL (d : Int) : List Int → List Fr → List Int → Prop
  | l, [], l' => l' = l
  | l, f :: r, l' => ∃ k g, fOnce l d ⟨f.op, 0, 0, if f.op = 0 then f.val else 0, 0, 0, 0⟩ = (k, g) ∧ g.res = f.res ∧ g.val = f.val ∧ (k.length : Int) ≤ d ∧ runL d k r l'
theorem runL_snoc {d : Int} {f : Fr} {k : List Int} {g : Fr} : ∀ {r : List Fr} {l l' : List Int}, runL d l r l' → fOnce l' d ⟨f.op, 0, 0, if f.op = 0 then f.val else 0, 0, 0, 0⟩ = (k, g) → g.res = f.res → g.val = f.val → (k.length : Int) ≤ d → runL d l (r ++ [f]) k
  | [], l, l', h, h1, h2, h3, h4 => by
    have h : l' = l := h
    subst h
    exact ⟨k, g, h1, h2, h3, h4, rfl⟩
  | x :: r, l, l', h, h1, h2, h3, h4 => by
    obtain ⟨k', g', a1, a2, a3, a4, a5⟩ := h
    exact ⟨k', g', a1, a2, a3, a4, runL_snoc a5 h1 h2 h3 h4⟩

theorem dq_over {c : Cf} {m : List Int} {f : Fr} (h : f.res ≠ 0) : dqStep c m f = (m, f) := by
  unfold dqStep
  split
  · exact push_over h
  · split
    · exact pop_over h
    · split
      · exact steal_over h
      · rfl
theorem run_dq_over {c : Cf} {m : List Int} {f : Fr} (h : f.res ≠ 0) : ∀ k, run (dqStep c) k (m, f) = (m, f)
  | 0 => rfl
  | k + 1 => by rw [run_succ, dq_over h]; exact run_dq_over h k
theorem run_add (st : List Int → Fr → List Int × Fr) (k : Nat) : ∀ (j : Nat) (s : List Int × Fr), run st (j + k) s = run st k (run st j s)
  | 0, s => by rw [Nat.zero_add]; rfl
  | j + 1, s => by rw [Nat.add_right_comm]; exact run_add st k j (st s.1 s.2)
theorem run_last (st : List Int → Fr → List Int × Fr) (j : Nat) (s : List Int × Fr) : run st (j + 1) s = st (run st j s).1 (run st j s).2 := run_add st 1 j s
/-- Two that are over are the same. -/
theorem run_same {c : Cf} {s : List Int × Fr} {j k : Nat} (hj : (run (dqStep c) j s).2.res ≠ 0) (hk : (run (dqStep c) k s).2.res ≠ 0) : run (dqStep c) j s = run (dqStep c) k s := by
  have e1 := run_add (dqStep c) k j s
  have e2 := run_add (dqStep c) j k s
  rw [show run (dqStep c) j s = ((run (dqStep c) j s).1, (run (dqStep c) j s).2) from rfl, run_dq_over hj] at e1
  rw [show run (dqStep c) k s = ((run (dqStep c) k s).1, (run (dqStep c) k s).2) from rfl, run_dq_over hk, Nat.add_comm] at e2
  exact e1.symm.trans e2
theorem run_pop {c : Cf} : ∀ (k : Nat) (m : List Int) (f : Fr), f.op = 1 → run (oStep c) k (m, f) = run (dqStep c) k (m, f)
  | 0, m, f, h => rfl
  | k + 1, m, f, h => by
    have e : dqStep c m f = oStep c m f := by simp [dqStep, h]
    rw [run_succ, run_succ, e]
    exact run_pop k _ _ ((op_oStep c m f).trans h)
theorem dq_push {c : Cf} {m : List Int} {f : Fr} (h : f.op = 0) : dqStep c m f = pStep c m f := if_pos h

/-- An owner's call, alone: in so many steps it is over, and did what it does with a list. -/
theorem owner_alone {c : Cf} {m : List Int} {op v : Int} (hm : InM m) (hi : dIs c m 0 = true) (ho : op = 0 ∨ op = 1 ∧ v = 0) :
    ∃ k m' f', run (dqStep c) k (m, ⟨op, 0, 0, v, 0, 0, 0⟩) = (m', f') ∧ f'.res ≠ 0 ∧ dIs c m' 0 = true ∧ fOnce (dList c m 0) c.d ⟨op, 0, 0, v, 0, 0, 0⟩ = (dList c m' 0, f') := by
  rcases ho with rfl | ⟨rfl, rfl⟩
  · obtain ⟨m1, f1, m2, f2, m3, f3, m4, f4, e1, e2, e3, e4, _, _, _, _, h1, h2⟩ := push_alone (w := 0) (v := v) hm hi
    have o1 : f1.op = 0 := by have := op_pStep c m ⟨0, 0, 0, v, 0, 0, 0⟩; rw [e1] at this; exact this
    have o2 : f2.op = 0 := by have := op_pStep c m1 f1; rw [e2] at this; exact this.trans o1
    have o3 : f3.op = 0 := by have := op_pStep c m2 f2; rw [e3] at this; exact this.trans o2
    refine ⟨4, m4, f4, ?_, ?_, h1, h2⟩
    · rw [run_succ, dq_push rfl, e1, run_succ, dq_push o1, e2, run_succ, dq_push o2, e3, run_succ, dq_push o3, e4]; rfl
    · have := congrArg Prod.snd h2
      dsimp only at this
      rw [← this]
      unfold fOnce
      simp only [fEnd]
      repeat' split
      all_goals simp_all
  · obtain ⟨h1, h2, h3⟩ := pop_alone (w := 0) hm hi
    rw [run_pop 7 _ _ rfl] at h1 h2 h3
    generalize hr : run (dqStep c) 7 (m, ⟨1, 0, 0, 0, 0, 0, 0⟩) = p at h1 h2 h3
    obtain ⟨m', f'⟩ := p
    refine ⟨7, m', f', hr, ?_, h1, h2⟩
    have := congrArg Prod.snd h2
    dsimp only at this
    rw [← this]
    unfold fOnce
    simp only [fEnd]
    repeat' split
    all_goals simp_all

/-- What holds when nobody steals. -/
structure Sole (d : Int) (s : Dl) : Prop where
  m : InM s.m
  own : ∀ x ∈ s.own, InU x.val ∧ (x.op = 1 → x.val = 0)
  len : s.hand.length = 1
  st : ∃ m0 l, InM m0 ∧ dIs (dqC d) m0 0 = true ∧ dList (dqC d) m0 0 = l ∧ runL d [] s.over l ∧
    ((s.hand = [noneF] ∧ s.m = m0) ∨ ∃ op v j f, (op = 0 ∨ op = 1 ∧ v = 0) ∧ s.hand = [f] ∧ f.op ≠ -1 ∧ UFr f ∧ run (dqStep (dqC d)) j (m0, ⟨op, 0, 0, v, 0, 0, 0⟩) = (s.m, f))

theorem nextO_cases : ∀ (l : List Fr), (∀ x ∈ l, InU x.val ∧ (x.op = 1 → x.val = 0)) → nextO l = (noneF, []) ∨ ∃ op v, (nextO l).1 = ⟨op, 0, 0, v, 0, 0, 0⟩ ∧ (op = 0 ∨ op = 1 ∧ v = 0) ∧ InU v
  | [], _ => .inl rfl
  | x :: r, h => by
    unfold nextO
    split
    · rename_i q
      refine .inr ⟨x.op, x.val, rfl, ?_, (h x (by simp)).1⟩
      rcases q with q | q
      · exact .inl q
      · exact .inr ⟨q, (h x (by simp)).2 q⟩
    · exact nextO_cases r fun y hy => h y (by simp [hy])

theorem sole_step {d : Int} {s : Dl} {m0 : List Int} {op v : Int} {j : Nat} {f : Fr} {own' : List Fr} {l : List Int} (h0 : InM m0) (hi : dIs (dqC d) m0 0 = true) (hl : dList (dqC d) m0 0 = l) (hr : runL d [] s.over l) (ho : op = 0 ∨ op = 1 ∧ v = 0)
    (hlen : s.hand.length = 1) (hm : InM s.m) (hf : UFr f) (hfo : f.op ≠ -1) (hown : ∀ x ∈ own', InU x.val ∧ (x.op = 1 → x.val = 0)) (e : run (dqStep (dqC d)) j (m0, ⟨op, 0, 0, v, 0, 0, 0⟩) = (s.m, f)) :
    Sole d (if (dqStep (dqC d) s.m f).2.res = 0 then ⟨(dqStep (dqC d) s.m f).1, own', s.hand.set 0 (dqStep (dqC d) s.m f).2, s.over⟩ else ⟨(dqStep (dqC d) s.m f).1, own', s.hand.set 0 noneF, s.over ++ [withWho (dqStep (dqC d) s.m f).2 0]⟩) := by
  have e1 : run (dqStep (dqC d)) (j + 1) (m0, ⟨op, 0, 0, v, 0, 0, 0⟩) = dqStep (dqC d) s.m f := by rw [run_last, e]
  obtain ⟨u1, u2⟩ := dqStep_u (c := dqC d) hm hf
  have hset : ∀ x, s.hand.set 0 x = [x] := by
    intro x
    match s.hand, hlen with
    | [a], _ => rfl
  have hop := op_dqStep (dqC d) s.m f
  split
  · refine ⟨u1, hown, by dsimp only; rw [hset]; rfl, m0, l, h0, hi, hl, hr, .inr ⟨op, v, j + 1, _, ho, hset _, by omega, u2, e1⟩⟩
  · rename_i hres
    obtain ⟨k, m', f', a1, a2, a3, a4⟩ := owner_alone h0 hi ho
    have hs := run_same (c := dqC d) (s := (m0, ⟨op, 0, 0, v, 0, 0, 0⟩)) (j := j + 1) (k := k) (by rw [e1]; exact hres) (by rw [a1]; exact a2)
    rw [e1, a1] at hs
    have hf' : (run (dqStep (dqC d)) k (m0, ⟨op, 0, 0, v, 0, 0, 0⟩)).2.op = op := by
      have : ∀ (k : Nat) (s : List Int × Fr), (run (dqStep (dqC d)) k s).2.op = s.2.op := by
        intro k
        induction k with
        | zero => intro s; rfl
        | succ k ih => intro s; exact (ih _).trans (op_dqStep _ _ _)
      exact this k _
    rw [a1] at hf'
    dsimp only at hf'
    rw [hs]
    rw [hs] at u1
    refine ⟨u1, hown, by dsimp only; rw [hset]; rfl, m', _, u1, a3, rfl, ?_, .inl ⟨hset _, rfl⟩⟩
    rw [hl] at a4
    have hd : ((dList (dqC d) m' 0).length : Int) ≤ d := by rw [list_len a3]; exact (dIs_iff.1 a3).2.2
    refine runL_snoc (f := withWho f' 0) (g := f') hr ?_ rfl rfl hd
    show fOnce l d ⟨f'.op, 0, 0, if f'.op = 0 then f'.val else 0, 0, 0, 0⟩ = _
    rw [hf']
    have hv : (if op = 0 then f'.val else 0) = v := by
      rcases ho with q | ⟨q, w⟩
      · rw [if_pos q]
        have := congrArg (fun p => p.2.val) a4
        dsimp only at this
        rw [← this, q]
        unfold fOnce
        simp only [fEnd]
        simp only [Int.reduceLT, Int.reduceNeg, ne_eq, not_true_eq_false, or_self, true_or, if_true, if_false]
        repeat' split
        all_goals first | rfl | simp_all
      · rw [if_neg (by omega), w]
    rw [hv]
    exact a4

theorem Sole.turn {d : Int} {s : Dl} (h : Sole d s) : Sole d (dTurn dqStep (dqC d) 0 s 0) := by
  rw [dTurn, if_pos ⟨by omega, by omega⟩, dRound]
  have hz : (0 : Int).toNat = 0 := rfl
  rw [hz]
  have hown : ∀ x ∈ (dHand s 0).2, InU x.val ∧ (x.op = 1 → x.val = 0) := fun x hx => h.own x ((dHand_suf s 0).subset hx)
  obtain ⟨m0, l, h0, hi, hl, hr, hst⟩ := h.st
  rcases hst with ⟨hh, hm⟩ | ⟨op, v, j, f, ho, hh, hfo, hu, e⟩
  · have hd : dHand s 0 = nextO s.own := by
      unfold dHand
      rw [hh, if_pos (by rfl)]
      rfl
    rcases nextO_cases s.own h.own with q | ⟨op, v, q, ho, hv⟩
    · rw [hd, q]
      dsimp only
      rw [dqStep_none, if_pos (show (s.m, noneF).2.res = 0 from rfl)]
      refine ⟨h.m, (by intro x hx; cases hx), by simp [h.len], m0, l, h0, hi, hl, hr, .inl ⟨by dsimp only; rw [hh]; rfl, hm⟩⟩
    · rw [hd] at hown ⊢
      rw [q]
      exact sole_step (j := 0) h0 hi hl hr ho h.len h.m ⟨hv, u0, u0⟩ (by dsimp only; omega) hown (by rw [hm]; rfl)
  · have hd : dHand s 0 = (f, s.own) := by
      unfold dHand
      rw [hh, if_neg (by simpa using hfo)]
      rfl
    rw [hd]
    exact sole_step h0 hi hl hr ho h.len h.m hu hfo h.own e

theorem Sole.turns {d : Int} : ∀ (n : Nat) {s : Dl}, Sole d s → Sole d ((List.replicate n (0 : Int)).foldl (dTurn dqStep (dqC d) 0) s)
  | 0, s, h => h
  | n + 1, s, h => by rw [List.replicate_succ, List.foldl_cons]; exact Sole.turns n h.turn

/-- What DequeRoom asks. -/
theorem dplay_room (d : Int) (pops : List Bool) (hp : pops.length ≤ 60) (n : Nat) :
    dPlay d 0 (callsDq pops) (List.replicate n 0) = ([], [], []) ∨ ∃ sm so sh l, dPlay d 0 (callsDq pops) (List.replicate n 0) = (sm, so, sh) ∧ sh.length = 1 ∧ runL d [] so l ∧ d ≤ 16 := by
  by_cases hm : mayC (dqC d) = true ∧ (0 : Int) ≤ 0 ∧ (0 : Int) ≤ 8
  · right
    have hL : Lay (dqC d) (zeros (lSize (dqC d)).toNat) 0 := ⟨hm.1, by rw [zeros_len]; have := lSize_pos (dqC d); omega, by omega, by show (0 : Int) < 1; omega⟩
    have hz : ∀ i, mLoad (zeros (lSize (dqC d)).toNat) i = 0 := by
      intro i
      unfold mLoad
      split
      · simp only [zeros, List.getD_eq_getElem?_getD, List.getElem?_replicate]
        split <;> rfl
      · rfl
    have hn : dNum (dqC d) (zeros (lSize (dqC d)).toNat) 0 = 0 := by
      unfold dNum; rw [hz, hz]; exact far_0 u0
    have hd := hL.dpos
    have hi : dIs (dqC d) (zeros (lSize (dqC d)).toNat) 0 = true := dIs_iff.2 ⟨hL, by omega, by rw [hn]; omega⟩
    have hl : dList (dqC d) (zeros (lSize (dqC d)).toNat) 0 = [] := by rw [dList_eq hi, hn]; rfl
    have hu : InM (zeros (lSize (dqC d)).toNat) := (dStart_u (c := dqC d) (n := 0) (own := []) (fun x hx => by cases hx)).m
    have h0 : Sole d (dStart (dqC d) 0 (callsDq pops)) := by
      refine ⟨hu, fun x hx => ?_, rfl, _, _, hu, hi, hl, rfl, .inl ⟨rfl, rfl⟩⟩
      simp only [dStart, callsDq, List.mem_mapIdx] at hx
      obtain ⟨i, hi, rfl⟩ := hx
      unfold callDq
      split
      · exact ⟨u0, fun _ => rfl⟩
      · exact ⟨⟨by dsimp only; omega, by dsimp only; omega⟩, fun q => by simp at q⟩
    obtain ⟨_, _, h2, m0, l, _, _, _, h4, _⟩ := h0.turns n
    have hd2 : (dqC d).d = d := rfl
    exact ⟨_, _, _, l, if_pos hm, h2, h4, by omega⟩
  · left; exact if_neg hm

theorem runL_fun {d : Int} : ∀ {so : List Fr} {l l' : List Int}, runL d l so l' → ∃ Ls : Nat → List Int, Ls 0 = l ∧ ∀ k, k < so.length → ∃ g, fOnce (Ls k) d ⟨(so.getD k noneF).op, 0, 0, if (so.getD k noneF).op = 0 then (so.getD k noneF).val else 0, 0, 0, 0⟩ = (Ls (k + 1), g) ∧ g.res = (so.getD k noneF).res ∧ g.val = (so.getD k noneF).val ∧ ((Ls (k + 1)).length : Int) ≤ d
  | [], l, l', h => ⟨fun _ => l, rfl, fun k hk => by simp at hk⟩
  | f :: r, l, l', h => by
    obtain ⟨k, g, a1, a2, a3, a4, a5⟩ := h
    obtain ⟨Ls, b1, b2⟩ := runL_fun a5
    refine ⟨fun i => match i with | 0 => l | i + 1 => Ls i, rfl, fun i hi => ?_⟩
    cases i with
    | zero =>
      refine ⟨g, ?_, a2, a3, ?_⟩
      · dsimp only; rw [b1]; exact a1
      · dsimp only; rw [b1]; exact a4
    | succ i => exact b2 i (by simpa using hi)
end Go.Vai
/- The owner alone, as the program says. -/
namespace Go.Vai
open Go.RowKit Go.Proofs
set_option linter.unusedSimpArgs false
set_option linter.unusedVariables false
set_option maxHeartbeats 4000000
set_option maxRecDepth 100000

theorem snoc_010 (n : Nat) : (List.replicate n (0 : Int)).map iv ++ [.v (.int .i64 0)] = (List.replicate (n + 1) (0 : Int)).map iv := by
  rw [List.replicate_succ' (n := n), List.map_append]; rfl

theorem room10_law (d : Int) (pops : List Bool) (n : Int) : PureC Try.prog 9 [iv d, bs pops, iv n] (bv true) := by
  refine pure_sub okJD 1 Try.func9 rfl (by show 3 ≤ _; decide) ?_
  by_cases h0 : pops.length ≤ 60
  · have h0' : ¬ (pops.length : Int) > 60 := by omega
    by_cases h1 : n < 0
    · simp only [Try.f9, JD_all, h0', h1, inl, bs, fs, zs, sv, fv, rf1, List.set_set, T29, T30, T41, hfree_fr, hfree_cf, cv', cf_eta, frz_u, shC_dec, dC, T23, T28, T25, hfree_lu, hfree_l0, row0, row1, row2, row3, row4, row5, shI_dec, shN_dec, shB_dec, shM_dec, dI, dN, dB, dM, dU, dU_map, iv, bv, u, ms, ctx_T, ctx_C, ctx_P, T4, T3, T26, Option.bind_some, Option.bind_none, Option.map_some, List.length_map, List.length_set, String.reduceBEq, Int.toNat_natCast, Bool.true_beq, Bool.false_beq, T24, shF_dec, dF, fr_eta, Int.cast_ofNat_Int, Int.reduceSub, Int.reduceAdd, Int.reduceNeg, ev1, ev2, implies_true, undef, stepP, drawB, stepL, lateB, lateB0, rdsT, rdsAny, isRd, afterL, preB, callLB, callLV, lateV, dstV, dynCall, ↓condE_t, ↓condE_f, ↓guardE_tt, ↓guardE_ff, ↓guardE_tf, ↓guardE_ft, frzDeep, deepArgs, deepArg, resB, cv, stepB, stepE, callD, tabD, snapD, snap1, snapC, snapId, snapIds, guardB, guardC, dstAt, aopR, one, pre, binR, intOpR, shiftOpR, unR, argFrm, evo, lkp, hlk, lenOf, asLst, idOf, bndA, srcOk, ofVal, ofCells, setCells, fillA, setElems, fieldsOf, fieldsEq, scalEq, isEq, AV.wr, AV.ok1, TK.agg, frz, frzs, frzA, frzArg, frzArgs, subA, subL, sub1, kp, kh, accOf, List.replicate, Nat.reduceAdd, Nat.reduceSub, Nat.reduceMul, Nat.reduceEqDiff, Nat.reduceLT, Nat.reduceLeDiff, Nat.reduceBEq, reduceIte, reduceCtorEq, eq_self, ne_eq, Int.reduceToNat, Int.reduceLT, Int.reduceLE, Int.reduceGT, Int.reduceGE, Int.reduceBEq, Int.reduceBNe, Int.reduceEq, Int.reduceNe]
      all_goals ((repeat' apply And.intro) <;> first | rfl | omega | (show entryOk _ _ _ _ _ = true; kernel_rfl) | (show pivotOk _ _ = true; kernel_rfl) | decide)
    · by_cases h2 : n > 500
      · simp only [Try.f9, JD_all, h0', h1, h2, inl, bs, fs, zs, sv, fv, rf1, List.set_set, T29, T30, T41, hfree_fr, hfree_cf, cv', cf_eta, frz_u, shC_dec, dC, T23, T28, T25, hfree_lu, hfree_l0, row0, row1, row2, row3, row4, row5, shI_dec, shN_dec, shB_dec, shM_dec, dI, dN, dB, dM, dU, dU_map, iv, bv, u, ms, ctx_T, ctx_C, ctx_P, T4, T3, T26, Option.bind_some, Option.bind_none, Option.map_some, List.length_map, List.length_set, String.reduceBEq, Int.toNat_natCast, Bool.true_beq, Bool.false_beq, T24, shF_dec, dF, fr_eta, Int.cast_ofNat_Int, Int.reduceSub, Int.reduceAdd, Int.reduceNeg, ev1, ev2, implies_true, undef, stepP, drawB, stepL, lateB, lateB0, rdsT, rdsAny, isRd, afterL, preB, callLB, callLV, lateV, dstV, dynCall, ↓condE_t, ↓condE_f, ↓guardE_tt, ↓guardE_ff, ↓guardE_tf, ↓guardE_ft, frzDeep, deepArgs, deepArg, resB, cv, stepB, stepE, callD, tabD, snapD, snap1, snapC, snapId, snapIds, guardB, guardC, dstAt, aopR, one, pre, binR, intOpR, shiftOpR, unR, argFrm, evo, lkp, hlk, lenOf, asLst, idOf, bndA, srcOk, ofVal, ofCells, setCells, fillA, setElems, fieldsOf, fieldsEq, scalEq, isEq, AV.wr, AV.ok1, TK.agg, frz, frzs, frzA, frzArg, frzArgs, subA, subL, sub1, kp, kh, accOf, List.replicate, Nat.reduceAdd, Nat.reduceSub, Nat.reduceMul, Nat.reduceEqDiff, Nat.reduceLT, Nat.reduceLeDiff, Nat.reduceBEq, reduceIte, reduceCtorEq, eq_self, ne_eq, Int.reduceToNat, Int.reduceLT, Int.reduceLE, Int.reduceGT, Int.reduceGE, Int.reduceBEq, Int.reduceBNe, Int.reduceEq, Int.reduceNe]
        all_goals ((repeat' apply And.intro) <;> first | rfl | omega | (show entryOk _ _ _ _ _ = true; kernel_rfl) | (show pivotOk _ _ = true; kernel_rfl) | decide)
      · obtain ⟨n, rfl⟩ : ∃ k : Nat, n = k := ⟨n.toNat, by omega⟩
        simp only [Try.f9, JD_all, h0', h1, h2, inl, bs, fs, zs, sv, fv, rf1, List.set_set, T29, T30, T41, hfree_fr, hfree_cf, cv', cf_eta, frz_u, shC_dec, dC, T23, T28, T25, hfree_lu, hfree_l0, row0, row1, row2, row3, row4, row5, shI_dec, shN_dec, shB_dec, shM_dec, dI, dN, dB, dM, dU, dU_map, iv, bv, u, ms, ctx_T, ctx_C, ctx_P, T4, T3, T26, Option.bind_some, Option.bind_none, Option.map_some, List.length_map, List.length_set, String.reduceBEq, Int.toNat_natCast, Bool.true_beq, Bool.false_beq, T24, shF_dec, dF, fr_eta, Int.cast_ofNat_Int, Int.reduceSub, Int.reduceAdd, Int.reduceNeg, ev1, ev2, implies_true, undef, stepP, drawB, stepL, lateB, lateB0, rdsT, rdsAny, isRd, afterL, preB, callLB, callLV, lateV, dstV, dynCall, ↓condE_t, ↓condE_f, ↓guardE_tt, ↓guardE_ff, ↓guardE_tf, ↓guardE_ft, frzDeep, deepArgs, deepArg, resB, cv, stepB, stepE, callD, tabD, snapD, snap1, snapC, snapId, snapIds, guardB, guardC, dstAt, aopR, one, pre, binR, intOpR, shiftOpR, unR, argFrm, evo, lkp, hlk, lenOf, asLst, idOf, bndA, srcOk, ofVal, ofCells, setCells, fillA, setElems, fieldsOf, fieldsEq, scalEq, isEq, AV.wr, AV.ok1, TK.agg, frz, frzs, frzA, frzArg, frzArgs, subA, subL, sub1, kp, kh, accOf, List.replicate, Nat.reduceAdd, Nat.reduceSub, Nat.reduceMul, Nat.reduceEqDiff, Nat.reduceLT, Nat.reduceLeDiff, Nat.reduceBEq, reduceIte, reduceCtorEq, eq_self, ne_eq, Int.reduceToNat, Int.reduceLT, Int.reduceLE, Int.reduceGT, Int.reduceGE, Int.reduceBEq, Int.reduceBNe, Int.reduceEq, Int.reduceNe]
        refine WP.virt 8 3 1 rfl (by decide) ?_
        refine WP.loop (ι := Nat × Nat) (fun i => n - i.1) (fun i => i.1 ≤ n) (n := 114)
          (fr := fun i => [(9, iv i.1), (8, .arr i.2 0 i.1), (0, iv d), (1, bs pops), (2, iv n)]) (hp := fun i => [(i.2, some ⟨false, 3, 1, (List.replicate i.1 (0 : Int)).map iv⟩)]) (N := 21) ?_ (0, 20) (Nat.zero_le _) rfl (Nat.le_refl _) ⟨rfl, rfl, rfl, rfl, rfl, trivial⟩ ⟨rfl, trivial⟩
        rintro ⟨i, id⟩ nx hi hN hid
        dsimp only at hi hid ⊢
        have hidn : id < nx := hid id ⟨false, 3, 1, (List.replicate i (0 : Int)).map iv⟩ (by simp only [hlk, nb_self])
        have hrl : (List.replicate i (0 : Int)).length = i := List.length_replicate
        have htk : List.take i ((List.replicate i (0 : Int)).map iv) = (List.replicate i (0 : Int)).map iv := List.take_of_length_le (by simp)
        refine WP.of okJD 1 (by rfl) ?_
        by_cases hil : i < n
        · have hil' : (i : Int) < (n : Int) := by omega
          have wi : IntKind.wrap .i64 ((i : Int) + 1) = ((i + 1 : Nat) : Int) := by rw [wrap_i (by omega) (by omega)]; omega
          have hcap : (i + 1) * 8 ≤ 140737488355328 := by omega
          simp only [JD_all, hil', wi, hrl, htk, hcap, hidn, Nat.le_refl, bs, zs, sv, fv, Int.toNat_natCast, rf1, List.set_set, T29, T30, T41, nb_self, nb_same, nb_l0, nb_r0, nb_lt, nb_gt, nb_lt0, nb_gt0, Nat.add_assoc, hfree_fr, hfree_cf, cv', cf_eta, frz_u, shC_dec, dC, T23, T28, T25, hfree_lu, hfree_l0, row0, row1, row2, row3, row4, row5, shI_dec, shN_dec, shB_dec, shM_dec, dI, dN, dB, dM, dU, dU_map, iv, bv, u, ms, ctx_T, ctx_C, ctx_P, T4, T3, T26, Option.bind_some, Option.bind_none, Option.map_some, List.length_map, List.length_set, String.reduceBEq, Int.toNat_natCast, Bool.true_beq, Bool.false_beq, T24, shF_dec, dF, fr_eta, Int.cast_ofNat_Int, Int.reduceSub, Int.reduceAdd, Int.reduceNeg, ev1, ev2, implies_true, undef, stepP, drawB, stepL, lateB, lateB0, rdsT, rdsAny, isRd, afterL, preB, callLB, callLV, lateV, dstV, dynCall, ↓condE_t, ↓condE_f, ↓guardE_tt, ↓guardE_ff, ↓guardE_tf, ↓guardE_ft, frzDeep, deepArgs, deepArg, resB, cv, stepB, stepE, callD, tabD, snapD, snap1, snapC, snapId, snapIds, guardB, guardC, dstAt, aopR, one, pre, binR, intOpR, shiftOpR, unR, argFrm, evo, lkp, hlk, lenOf, asLst, idOf, bndA, srcOk, ofVal, ofCells, setCells, fillA, setElems, fieldsOf, fieldsEq, scalEq, isEq, AV.wr, AV.ok1, TK.agg, frz, frzs, frzA, frzArg, frzArgs, subA, subL, sub1, kp, kh, accOf, List.replicate, Nat.reduceAdd, Nat.reduceSub, Nat.reduceMul, Nat.reduceEqDiff, Nat.reduceLT, Nat.reduceLeDiff, Nat.reduceBEq, reduceIte, reduceCtorEq, eq_self, ne_eq, Int.reduceToNat, Int.reduceLT, Int.reduceLE, Int.reduceGT, Int.reduceGE, Int.reduceBEq, Int.reduceBNe, Int.reduceEq, Int.reduceNe]
          refine ⟨(i + 1, nx + 5), by dsimp only; omega, by dsimp only; omega, ⟨rfl, rfl⟩, ?_⟩
          simp only [nb_self]
          rw [snoc_010]
        · have hil' : ¬ (i : Int) < (n : Int) := by omega
          have hie : i = n := by omega
          have g1 : pops.length ≤ 1000 := by omega
          have g2 : (callsDq pops).length ≤ 1000 := by rw [len_callsDq]; omega
          have g4 : i ≤ 1000 := by omega
          rcases dplay_room d pops h0 i with e | ⟨sm, so, sh, l, e, z1, z2, z3⟩
          · simp only [JD_all, hil', g1, g2, g4, e, hrl, htk, hidn, Nat.le_refl, List.map_nil, List.length_nil, bs, fs, zs, sv, fv, Int.toNat_natCast, rf1, List.set_set, T29, T30, T41, nb_self, nb_same, nb_l0, nb_r0, nb_lt, nb_gt, nb_lt0, nb_gt0, Nat.add_assoc, hfree_fr, hfree_cf, cv', cf_eta, frz_u, shC_dec, dC, T23, T28, T25, hfree_lu, hfree_l0, row0, row1, row2, row3, row4, row5, shI_dec, shN_dec, shB_dec, shM_dec, dI, dN, dB, dM, dU, dU_map, iv, bv, u, ms, ctx_T, ctx_C, ctx_P, T4, T3, T26, Option.bind_some, Option.bind_none, Option.map_some, List.length_map, List.length_set, String.reduceBEq, Int.toNat_natCast, Bool.true_beq, Bool.false_beq, T24, shF_dec, dF, fr_eta, Int.cast_ofNat_Int, Int.reduceSub, Int.reduceAdd, Int.reduceNeg, ev1, ev2, implies_true, undef, stepP, drawB, stepL, lateB, lateB0, rdsT, rdsAny, isRd, afterL, preB, callLB, callLV, lateV, dstV, dynCall, ↓condE_t, ↓condE_f, ↓guardE_tt, ↓guardE_ff, ↓guardE_tf, ↓guardE_ft, frzDeep, deepArgs, deepArg, resB, cv, stepB, stepE, callD, tabD, snapD, snap1, snapC, snapId, snapIds, guardB, guardC, dstAt, aopR, one, pre, binR, intOpR, shiftOpR, unR, argFrm, evo, lkp, hlk, lenOf, asLst, idOf, bndA, srcOk, ofVal, ofCells, setCells, fillA, setElems, fieldsOf, fieldsEq, scalEq, isEq, AV.wr, AV.ok1, TK.agg, frz, frzs, frzA, frzArg, frzArgs, subA, subL, sub1, kp, kh, accOf, List.replicate, Nat.reduceAdd, Nat.reduceSub, Nat.reduceMul, Nat.reduceEqDiff, Nat.reduceLT, Nat.reduceLeDiff, Nat.reduceBEq, reduceIte, reduceCtorEq, eq_self, ne_eq, Int.reduceToNat, Int.reduceLT, Int.reduceLE, Int.reduceGT, Int.reduceGE, Int.reduceBEq, Int.reduceBNe, Int.reduceEq, Int.reduceNe]
            all_goals ((repeat' apply And.intro) <;> first | rfl | omega | (show entryOk _ _ _ _ _ = true; kernel_rfl) | (show pivotOk _ _ = true; kernel_rfl) | decide)
          · have lp := len_dPlay d 0 (callsDq pops) (List.replicate i 0)
            rw [e] at lp
            simp only [List.length_replicate] at lp
            obtain ⟨Ls, z4, z5⟩ := runL_fun z2
            have hLs : ∀ k, k ≤ so.length → (Ls k).length ≤ 16 := by
              intro k hk
              cases k with
              | zero => rw [z4]; simp
              | succ k =>
                obtain ⟨g, _, _, _, q⟩ := z5 k (by omega)
                omega
            have e1 : ((sh.length : Int) == 0) = false := by rw [z1]; rfl
            simp only [JD_all, hil', g1, g2, g4, e, e1, hrl, htk, hidn, Nat.le_refl, bs, fs, zs, sv, fv, Int.toNat_natCast, rf1, List.set_set, T29, T30, T41, nb_self, nb_same, nb_l0, nb_r0, nb_lt, nb_gt, nb_lt0, nb_gt0, Nat.add_assoc, hfree_fr, hfree_cf, cv', cf_eta, frz_u, shC_dec, dC, T23, T28, T25, hfree_lu, hfree_l0, row0, row1, row2, row3, row4, row5, shI_dec, shN_dec, shB_dec, shM_dec, dI, dN, dB, dM, dU, dU_map, iv, bv, u, ms, ctx_T, ctx_C, ctx_P, T4, T3, T26, Option.bind_some, Option.bind_none, Option.map_some, List.length_map, List.length_set, String.reduceBEq, Int.toNat_natCast, Bool.true_beq, Bool.false_beq, T24, shF_dec, dF, fr_eta, Int.cast_ofNat_Int, Int.reduceSub, Int.reduceAdd, Int.reduceNeg, ev1, ev2, implies_true, undef, stepP, drawB, stepL, lateB, lateB0, rdsT, rdsAny, isRd, afterL, preB, callLB, callLV, lateV, dstV, dynCall, ↓condE_t, ↓condE_f, ↓guardE_tt, ↓guardE_ff, ↓guardE_tf, ↓guardE_ft, frzDeep, deepArgs, deepArg, resB, cv, stepB, stepE, callD, tabD, snapD, snap1, snapC, snapId, snapIds, guardB, guardC, dstAt, aopR, one, pre, binR, intOpR, shiftOpR, unR, argFrm, evo, lkp, hlk, lenOf, asLst, idOf, bndA, srcOk, ofVal, ofCells, setCells, fillA, setElems, fieldsOf, fieldsEq, scalEq, isEq, AV.wr, AV.ok1, TK.agg, frz, frzs, frzA, frzArg, frzArgs, subA, subL, sub1, kp, kh, accOf, List.replicate, Nat.reduceAdd, Nat.reduceSub, Nat.reduceMul, Nat.reduceEqDiff, Nat.reduceLT, Nat.reduceLeDiff, Nat.reduceBEq, reduceIte, reduceCtorEq, eq_self, ne_eq, Int.reduceToNat, Int.reduceLT, Int.reduceLE, Int.reduceGT, Int.reduceGE, Int.reduceBEq, Int.reduceBNe, Int.reduceEq, Int.reduceNe]
            refine WP.loop (ι := Nat) (fun k => so.length - k) (fun k => k ≤ so.length) (n := 114)
              (fr := fun k => [(14, iv k), (13, ms (Ls k)), (11, fs so), (0, iv d)]) (hp := fun k => []) (N := 0) ?_ 0 (Nat.zero_le _) rfl (Nat.zero_le _) ⟨rfl, by rw [z4]; rfl, rfl, rfl, trivial⟩ trivial
            intro k nx2 hk hN2 hid2
            refine WP.of okJD 1 (by rfl) ?_
            by_cases hkl : k < so.length
            · have hkl' : (k : Int) < so.length := by omega
              have hk0 : (0 : Int) ≤ k := by omega
              have hg := getD_f hkl
              have wk : IntKind.wrap .i64 ((k : Int) + 1) = ((k + 1 : Nat) : Int) := by rw [wrap_i (by omega) (by omega)]; omega
              obtain ⟨g, zg, zr, zv, zl⟩ := z5 k hkl
              have zl1 : (Ls k).length ≤ 1000 := Nat.le_trans (hLs k hk) (by omega)
              have zl2 : ¬ ((Ls (k + 1)).length : Int) > d := by omega
              rw [gd_lt hkl noneF fr0] at zg zr zv
              generalize so.getD k fr0 = f at hg zg zr zv
              obtain ⟨gop, gpc, gwho, gval, gx, gy, gres⟩ := g
              dsimp only at zr zv
              subst zr zv
              have e2 : (f.res != f.res) = false := by simp
              have e3 : (f.val != f.val) = false := by simp
              by_cases a1 : f.op = 0
              · have a1' : (f.op == 0) = true := by simpa using a1
                rw [if_pos a1] at zg
                simp only [JD_all, hkl', hk0, hg, a1', zg, zl1, zl2, e2, e3, wk, fBegin, ov, Int.toNat_natCast, bs, fs, zs, sv, fv, rf1, List.set_set, T29, T30, T41, nb_self, nb_same, nb_l0, nb_r0, nb_lt, nb_gt, nb_lt0, nb_gt0, Nat.add_assoc, hfree_fr, hfree_cf, cv', cf_eta, frz_u, shC_dec, dC, T23, T28, T25, hfree_lu, hfree_l0, row0, row1, row2, row3, row4, row5, shI_dec, shN_dec, shB_dec, shM_dec, dI, dN, dB, dM, dU, dU_map, iv, bv, u, ms, ctx_T, ctx_C, ctx_P, T4, T3, T26, Option.bind_some, Option.bind_none, Option.map_some, List.length_map, List.length_set, String.reduceBEq, Int.toNat_natCast, Bool.true_beq, Bool.false_beq, T24, shF_dec, dF, fr_eta, Int.cast_ofNat_Int, Int.reduceSub, Int.reduceAdd, Int.reduceNeg, ev1, ev2, implies_true, undef, stepP, drawB, stepL, lateB, lateB0, rdsT, rdsAny, isRd, afterL, preB, callLB, callLV, lateV, dstV, dynCall, ↓condE_t, ↓condE_f, ↓guardE_tt, ↓guardE_ff, ↓guardE_tf, ↓guardE_ft, frzDeep, deepArgs, deepArg, resB, cv, stepB, stepE, callD, tabD, snapD, snap1, snapC, snapId, snapIds, guardB, guardC, dstAt, aopR, one, pre, binR, intOpR, shiftOpR, unR, argFrm, evo, lkp, hlk, lenOf, asLst, idOf, bndA, srcOk, ofVal, ofCells, setCells, fillA, setElems, fieldsOf, fieldsEq, scalEq, isEq, AV.wr, AV.ok1, TK.agg, frz, frzs, frzA, frzArg, frzArgs, subA, subL, sub1, kp, kh, accOf, List.replicate, Nat.reduceAdd, Nat.reduceSub, Nat.reduceMul, Nat.reduceEqDiff, Nat.reduceLT, Nat.reduceLeDiff, Nat.reduceBEq, reduceIte, reduceCtorEq, eq_self, ne_eq, Int.reduceToNat, Int.reduceLT, Int.reduceLE, Int.reduceGT, Int.reduceGE, Int.reduceBEq, Int.reduceBNe, Int.reduceEq, Int.reduceNe]
                exact ⟨k + 1, by omega, by omega, rfl, rfl⟩
              · have a1' : (f.op == 0) = false := by simpa using a1
                rw [if_neg a1] at zg
                simp only [JD_all, hkl', hk0, hg, a1', zg, zl1, zl2, e2, e3, wk, fBegin, ov, Int.toNat_natCast, bs, fs, zs, sv, fv, rf1, List.set_set, T29, T30, T41, nb_self, nb_same, nb_l0, nb_r0, nb_lt, nb_gt, nb_lt0, nb_gt0, Nat.add_assoc, hfree_fr, hfree_cf, cv', cf_eta, frz_u, shC_dec, dC, T23, T28, T25, hfree_lu, hfree_l0, row0, row1, row2, row3, row4, row5, shI_dec, shN_dec, shB_dec, shM_dec, dI, dN, dB, dM, dU, dU_map, iv, bv, u, ms, ctx_T, ctx_C, ctx_P, T4, T3, T26, Option.bind_some, Option.bind_none, Option.map_some, List.length_map, List.length_set, String.reduceBEq, Int.toNat_natCast, Bool.true_beq, Bool.false_beq, T24, shF_dec, dF, fr_eta, Int.cast_ofNat_Int, Int.reduceSub, Int.reduceAdd, Int.reduceNeg, ev1, ev2, implies_true, undef, stepP, drawB, stepL, lateB, lateB0, rdsT, rdsAny, isRd, afterL, preB, callLB, callLV, lateV, dstV, dynCall, ↓condE_t, ↓condE_f, ↓guardE_tt, ↓guardE_ff, ↓guardE_tf, ↓guardE_ft, frzDeep, deepArgs, deepArg, resB, cv, stepB, stepE, callD, tabD, snapD, snap1, snapC, snapId, snapIds, guardB, guardC, dstAt, aopR, one, pre, binR, intOpR, shiftOpR, unR, argFrm, evo, lkp, hlk, lenOf, asLst, idOf, bndA, srcOk, ofVal, ofCells, setCells, fillA, setElems, fieldsOf, fieldsEq, scalEq, isEq, AV.wr, AV.ok1, TK.agg, frz, frzs, frzA, frzArg, frzArgs, subA, subL, sub1, kp, kh, accOf, List.replicate, Nat.reduceAdd, Nat.reduceSub, Nat.reduceMul, Nat.reduceEqDiff, Nat.reduceLT, Nat.reduceLeDiff, Nat.reduceBEq, reduceIte, reduceCtorEq, eq_self, ne_eq, Int.reduceToNat, Int.reduceLT, Int.reduceLE, Int.reduceGT, Int.reduceGE, Int.reduceBEq, Int.reduceBNe, Int.reduceEq, Int.reduceNe]
                exact ⟨k + 1, by omega, by omega, rfl, rfl⟩
            · have hkl' : ¬ (k : Int) < so.length := by omega
              simp only [JD_all, hkl', Int.toNat_natCast, bs, fs, zs, sv, fv, rf1, List.set_set, T29, T30, T41, nb_self, nb_same, nb_l0, nb_r0, nb_lt, nb_gt, nb_lt0, nb_gt0, Nat.add_assoc, hfree_fr, hfree_cf, cv', cf_eta, frz_u, shC_dec, dC, T23, T28, T25, hfree_lu, hfree_l0, row0, row1, row2, row3, row4, row5, shI_dec, shN_dec, shB_dec, shM_dec, dI, dN, dB, dM, dU, dU_map, iv, bv, u, ms, ctx_T, ctx_C, ctx_P, T4, T3, T26, Option.bind_some, Option.bind_none, Option.map_some, List.length_map, List.length_set, String.reduceBEq, Int.toNat_natCast, Bool.true_beq, Bool.false_beq, T24, shF_dec, dF, fr_eta, Int.cast_ofNat_Int, Int.reduceSub, Int.reduceAdd, Int.reduceNeg, ev1, ev2, implies_true, undef, stepP, drawB, stepL, lateB, lateB0, rdsT, rdsAny, isRd, afterL, preB, callLB, callLV, lateV, dstV, dynCall, ↓condE_t, ↓condE_f, ↓guardE_tt, ↓guardE_ff, ↓guardE_tf, ↓guardE_ft, frzDeep, deepArgs, deepArg, resB, cv, stepB, stepE, callD, tabD, snapD, snap1, snapC, snapId, snapIds, guardB, guardC, dstAt, aopR, one, pre, binR, intOpR, shiftOpR, unR, argFrm, evo, lkp, hlk, lenOf, asLst, idOf, bndA, srcOk, ofVal, ofCells, setCells, fillA, setElems, fieldsOf, fieldsEq, scalEq, isEq, AV.wr, AV.ok1, TK.agg, frz, frzs, frzA, frzArg, frzArgs, subA, subL, sub1, kp, kh, accOf, List.replicate, Nat.reduceAdd, Nat.reduceSub, Nat.reduceMul, Nat.reduceEqDiff, Nat.reduceLT, Nat.reduceLeDiff, Nat.reduceBEq, reduceIte, reduceCtorEq, eq_self, ne_eq, Int.reduceToNat, Int.reduceLT, Int.reduceLE, Int.reduceGT, Int.reduceGE, Int.reduceBEq, Int.reduceBNe, Int.reduceEq, Int.reduceNe]
              all_goals ((repeat' apply And.intro) <;> first | rfl | omega | (show entryOk _ _ _ _ _ = true; kernel_rfl) | (show pivotOk _ _ = true; kernel_rfl) | decide)
  · have h0' : (pops.length : Int) > 60 := by omega
    simp only [Try.f9, JD_all, h0', inl, bs, fs, zs, sv, fv, rf1, List.set_set, T29, T30, T41, hfree_fr, hfree_cf, cv', cf_eta, frz_u, shC_dec, dC, T23, T28, T25, hfree_lu, hfree_l0, row0, row1, row2, row3, row4, row5, shI_dec, shN_dec, shB_dec, shM_dec, dI, dN, dB, dM, dU, dU_map, iv, bv, u, ms, ctx_T, ctx_C, ctx_P, T4, T3, T26, Option.bind_some, Option.bind_none, Option.map_some, List.length_map, List.length_set, String.reduceBEq, Int.toNat_natCast, Bool.true_beq, Bool.false_beq, T24, shF_dec, dF, fr_eta, Int.cast_ofNat_Int, Int.reduceSub, Int.reduceAdd, Int.reduceNeg, ev1, ev2, implies_true, undef, stepP, drawB, stepL, lateB, lateB0, rdsT, rdsAny, isRd, afterL, preB, callLB, callLV, lateV, dstV, dynCall, ↓condE_t, ↓condE_f, ↓guardE_tt, ↓guardE_ff, ↓guardE_tf, ↓guardE_ft, frzDeep, deepArgs, deepArg, resB, cv, stepB, stepE, callD, tabD, snapD, snap1, snapC, snapId, snapIds, guardB, guardC, dstAt, aopR, one, pre, binR, intOpR, shiftOpR, unR, argFrm, evo, lkp, hlk, lenOf, asLst, idOf, bndA, srcOk, ofVal, ofCells, setCells, fillA, setElems, fieldsOf, fieldsEq, scalEq, isEq, AV.wr, AV.ok1, TK.agg, frz, frzs, frzA, frzArg, frzArgs, subA, subL, sub1, kp, kh, accOf, List.replicate, Nat.reduceAdd, Nat.reduceSub, Nat.reduceMul, Nat.reduceEqDiff, Nat.reduceLT, Nat.reduceLeDiff, Nat.reduceBEq, reduceIte, reduceCtorEq, eq_self, ne_eq, Int.reduceToNat, Int.reduceLT, Int.reduceLE, Int.reduceGT, Int.reduceGE, Int.reduceBEq, Int.reduceBNe, Int.reduceEq, Int.reduceNe]
    all_goals ((repeat' apply And.intro) <;> first | rfl | omega | (show entryOk _ _ _ _ _ = true; kernel_rfl) | (show pivotOk _ _ = true; kernel_rfl) | decide)
end Go.Vai
