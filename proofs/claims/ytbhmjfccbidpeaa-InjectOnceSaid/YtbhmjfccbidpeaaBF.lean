/- The evaluator, the plain texts and the contracts that this claim leans on, part BF: nothing of the statement is claimed here. -/
import Derived.Test.YtbhmjfccbidpeaaBE
import Derived.Test.YtbhmjfccbidpeaaBB
/- Taking out of the injector, by numbers and lists alone: the document's step, and what the injector has. -/
namespace Go.Vai
open Go.RowKit
set_option linter.unusedVariables false
set_option linter.unusedSimpArgs false

def qFull (c : Cf) (x : Int) : Int := wrapU (eFree c x + 1)

/-- The document's take's next step. -/
def rqStep (c : Cf) (m : List Int) (f : Fr) : List Int × Fr :=
  if goesE c m f 4 = true then
    if f.pc = 0 then (m, ⟨f.op, 1, f.who, f.val, mLoad m 4, f.y, f.res⟩)
    else if f.pc = 1 then
      if mLoad m (eSeq c f.x) = qFull c f.x then (m, ⟨f.op, 2, f.who, f.val, f.x, mLoad m (eSeq c f.x), f.res⟩)
      else if far (mLoad m (eSeq c f.x)) (qFull c f.x) < 0 then (m, fEnd f 3 0)
      else (m, ⟨f.op, 0, f.who, f.val, f.x, mLoad m (eSeq c f.x), f.res⟩)
    else if f.pc = 2 then (mCas m 4 f.x (wrapU (f.x + 1)), ⟨f.op, if mCasB m 4 f.x = true then 3 else 0, f.who, f.val, f.x, f.y, f.res⟩)
    else if f.pc = 3 then (m, ⟨f.op, 4, f.who, mLoad m (eVal c f.x), f.x, f.y, f.res⟩)
    else (mStore m (eSeq c f.x) (wrapU (qFull c f.x + 1)), fEnd f 1 f.val)
  else (m, f)

theorem far_zero {a b : Int} (ha : InU a) (hb : InU b) : far a b = 0 ↔ a = b := by
  rw [far_eq ha hb]
  unfold InU at *
  omega

theorem rqStep_eq {c : Cf} {m : List Int} (h : InM m) (f : Fr) : rqStep c m f = qStep c m f := by
  unfold rqStep qStep
  split
  · split
    · rfl
    · split
      · have e := far_zero (load_u h (eSeq c f.x)) (wrapU_u (eFree c f.x + 1))
        unfold qFull
        by_cases q : mLoad m (eSeq c f.x) = wrapU (eFree c f.x + 1)
        · rw [if_pos q, if_pos (e.2 q)]
        · rw [if_neg q, if_neg (fun h => q (e.1 h))]
      · rfl
  · rfl
theorem rqStep_no {c : Cf} {m : List Int} {f : Fr} (h : goesE c m f 4 = false) : rqStep c m f = (m, f) := by simp [rqStep, h]
theorem len_rqStep (c : Cf) (m : List Int) (f : Fr) : (rqStep c m f).1.length = m.length := by
  unfold rqStep; repeat' split
  all_goals first | rfl | exact len_store .. | exact len_cas ..
end Go.Vai
/- What the injector has, by numbers and lists alone. -/
namespace Go.Vai
open Go.RowKit
set_option linter.unusedVariables false
set_option linter.unusedSimpArgs false

/-- The places from the head on. -/
def qX (h : Int) : Nat → Int
  | 0 => h
  | k + 1 => wrapU (qX h k + 1)
def qHas (m : List Int) (k : Nat) : Bool := decide ((k : Int) < wrapU (mLoad m 5 - mLoad m 4))
def qWant (c : Cf) (m : List Int) (k : Nat) : Int := if qHas m k = true then qFull c (qX (mLoad m 4) k) else wrapU (qFull c (qX (mLoad m 4) k) - 1)
def qOk (c : Cf) (m : List Int) (k : Nat) : Bool := mLoad m (eSeq c (qX (mLoad m 4) k)) == qWant c m k
def qVal (c : Cf) (m : List Int) (k : Nat) : Int := mLoad m (eVal c (qX (mLoad m 4) k))
def qOut (c : Cf) (m : List Int) : Nat → List Int
  | 0 => []
  | k + 1 => if qHas m k = true then qOut c m k ++ [qVal c m k] else qOut c m k
def qAll (c : Cf) (m : List Int) : Nat → Bool
  | 0 => true
  | k + 1 => qAll c m k && qOk c m k
def qList (c : Cf) (m : List Int) : List Int × Bool :=
  if eLen c m < 0 ∨ c.i < eLen c m then ([], false) else if qAll c m c.i.toNat = true then (qOut c m c.i.toNat, true) else ([], false)

theorem qX_off (h : Int) : ∀ k : Nat, (qX h k - h) % 18446744073709551616 = (k : Int) % 18446744073709551616
  | 0 => by simp [qX]
  | k + 1 => by
    have ih := qX_off h k
    rw [qX, wrapU_eq]
    omega
theorem qX_sub (h : Int) {k : Nat} (hk : k ≤ 1000) : wrapU (qX h k - h) = k := by
  rw [wrapU_eq, qX_off h k]; omega
theorem qX_eq {h : Int} (hh : InU h) (k : Nat) : qX h k = wrapU (h + k) := by
  induction k with
  | zero => rw [qX, wrapU_eq]; unfold InU at hh; omega
  | succ k ih => rw [qX, ih, wrapU_eq, wrapU_eq, wrapU_eq]; omega
theorem len_qOut (c : Cf) (m : List Int) : ∀ k, (qOut c m k).length ≤ k
  | 0 => Nat.le_refl _
  | k + 1 => by
    have := len_qOut c m k
    unfold qOut
    split
    · simp; omega
    · omega
theorem qAll_mono {c : Cf} {m : List Int} {k : Nat} (h : qAll c m k = false) : ∀ j, k ≤ j → qAll c m j = false
  | 0, hj => by
    have : k = 0 := by omega
    subst this; exact h
  | j + 1, hj => by
    by_cases e : k = j + 1
    · subst e; exact h
    · have := qAll_mono h j (by omega)
      simp [qAll, this]
theorem len_qList (c : Cf) (m : List Int) (hc : mayC c = true) : (qList c m).1.length ≤ 16 := by
  have := (mayC_iff.1 hc).2.2.2
  unfold qList
  split
  · simp
  · split
    · have := len_qOut c m c.i.toNat
      dsimp only; omega
    · simp

/-- The document's list. -/
def rqX (m : List Int) (k : Nat) : Int := wrapU (mLoad m 4 + wrapU k)
def rqOk (c : Cf) (m : List Int) (k : Nat) : Bool := if (k : Int) < eLen c m then mLoad m (eSeq c (rqX m k)) == qFull c (rqX m k) else mLoad m (eSeq c (rqX m k)) == eFree c (rqX m k)
def rqOut (c : Cf) (m : List Int) : Nat → List Int
  | 0 => []
  | k + 1 => if (k : Int) < eLen c m then rqOut c m k ++ [mLoad m (eVal c (rqX m k))] else rqOut c m k
def rqAll (c : Cf) (m : List Int) : Nat → Bool
  | 0 => true
  | k + 1 => rqAll c m k && rqOk c m k
def rqList (c : Cf) (m : List Int) : List Int × Bool :=
  if eLen c m < 0 ∨ c.i < eLen c m then ([], false) else if rqAll c m c.i.toNat = true then (rqOut c m c.i.toNat, true) else ([], false)
theorem len_rqOut (c : Cf) (m : List Int) : ∀ k, (rqOut c m k).length ≤ k
  | 0 => Nat.le_refl _
  | k + 1 => by
    have := len_rqOut c m k
    unfold rqOut
    split
    · simp; omega
    · omega

theorem qFull_sub (c : Cf) (x : Int) : wrapU (qFull c x - 1) = eFree c x := by
  have h : InU (eFree c x) := wrapU_u _
  unfold qFull InU at *
  rw [wrapU_eq, wrapU_eq]; omega

/-- The two lists are one, of cells in their range. -/
theorem rqList_eq {c : Cf} {m : List Int} (h : InM m) : rqList c m = qList c m := by
  unfold rqList qList
  split
  · rfl
  · rename_i hn
    have h4 := load_u h 4
    have h5 := load_u h 5
    have he : mayC c = true ∧ (m.length : Int) = lSize c := by
      by_cases hh : mayC c && decide ((m.length : Int) = lSize c)
      · simpa using hh
      · exfalso; apply hn; left; simp only [eLen]; rw [if_neg hh]; decide
    have hl : eLen c m = far (mLoad m 5) (mLoad m 4) := by simp [eLen, he.1, he.2]
    have hi := (mayC_iff.1 he.1).2.2.2
    have hw : wrapU (mLoad m 5 - mLoad m 4) = eLen c m := by
      rw [hl, far_eq h5 h4, wrapU_eq]
      rw [hl, far_eq h5 h4] at hn
      unfold InU at h4 h5
      omega
    have hx : ∀ k : Nat, k ≤ 1000 → rqX m k = qX (mLoad m 4) k := by
      intro k hk
      rw [qX_eq h4, rqX, wrapU_eq, wrapU_eq, wrapU_eq]; omega
    have hh : ∀ k : Nat, qHas m k = decide ((k : Int) < eLen c m) := by intro k; rw [qHas, hw]
    have hok : ∀ k : Nat, k ≤ 1000 → rqOk c m k = qOk c m k := by
      intro k hk
      unfold rqOk qOk qWant
      rw [hx k hk, hh k]
      by_cases e : (k : Int) < eLen c m
      · rw [if_pos e, if_pos (by simpa using e)]
      · rw [if_neg e, if_neg (by simpa using e), qFull_sub]
    have hall : ∀ k : Nat, k ≤ 1000 → rqAll c m k = qAll c m k := by
      intro k
      induction k with
      | zero => intro _; rfl
      | succ k ih => intro hk; rw [rqAll, qAll, ih (by omega), hok k (by omega)]
    have hout : ∀ k : Nat, k ≤ 1000 → rqOut c m k = qOut c m k := by
      intro k
      induction k with
      | zero => intro _; rfl
      | succ k ih =>
        intro hk
        rw [rqOut, qOut, ih (by omega), hh k, qVal, hx k (by omega)]
        by_cases e : (k : Int) < eLen c m
        · rw [if_pos e, if_pos (by simpa using e)]
        · rw [if_neg e, if_neg (by simpa using e)]
    rw [hall _ (by omega), hout _ (by omega)]
end Go.Vai
/- Taking out of the injector: a step. -/
namespace Go.Vai
open Go.RowKit Go.Proofs
set_option linter.unusedSimpArgs false
set_option linter.unusedVariables false
set_option maxHeartbeats 4000000
set_option maxRecDepth 100000

theorem full_pure (c : Cf) (x : Int) (h : 1 ≤ c.i ∧ c.i ≤ 16) : PureC Try.prog 47 [cv' c, u x] (u (qFull c x)) := by
  refine pure_sub okEB 1 Try.func47 rfl (by show 2 ≤ _; decide) ?_
  have hd : wrapU c.i = c.i := by rw [wrapU_eq]; omega
  have hi0 : c.i ≠ 0 := by omega
  have hu : ∀ x, IntKind.wrap .u64 x = wrapU x := fun _ => rfl
  have hE : wrapU (wrapU (x.tdiv c.i) * 2) = eFree c x := rfl
  unfold qFull
  simp only [Try.f47, inl, EB_all, hu, hd, hi0, hE, hfree_fr, hfree_cf, cv', cf_eta, frz_u, shC_dec, dC, T23, T28, T25, hfree_lu, hfree_l0, row0, row1, row2, row3, row4, row5, shI_dec, shN_dec, shB_dec, shM_dec, dI, dN, dB, dM, dU, dU_map, iv, bv, u, ms, ctx_T, ctx_C, ctx_P, T4, T3, T26, Option.bind_some, Option.bind_none, Option.map_some, List.length_map, List.length_set, String.reduceBEq, Int.toNat_natCast, Bool.true_beq, Bool.false_beq, T24, shF_dec, dF, fr_eta, ev1, ev2, implies_true, undef, stepP, dynCall, ↓condE_t, ↓condE_f, ↓guardE_tt, ↓guardE_ff, ↓guardE_tf, ↓guardE_ft, frzDeep, deepArgs, deepArg, resB, cv, stepB, stepE, callD, tabD, snapD, snap1, snapC, snapId, snapIds, guardB, guardC, dstAt, aopR, one, pre, binR, intOpR, shiftOpR, unR, argFrm, evo, lkp, hlk, lenOf, asLst, idOf, bndA, srcOk, ofVal, ofCells, setCells, fillA, setElems, fieldsOf, fieldsEq, scalEq, isEq, AV.wr, AV.ok1, TK.agg, frz, frzs, frzA, frzArg, frzArgs, subA, subL, sub1, kp, kh, accOf, List.replicate, Nat.reduceAdd, Nat.reduceSub, Nat.reduceMul, Nat.reduceEqDiff, Nat.reduceLT, Nat.reduceLeDiff, Nat.reduceBEq, reduceIte, reduceCtorEq, eq_self, ne_eq, Int.reduceToNat, Int.reduceLT, Int.reduceLE, Int.reduceGT, Int.reduceGE, Int.reduceBEq, Int.reduceBNe, Int.reduceEq, Int.reduceNe]
  all_goals ((repeat' apply And.intro) <;> first | rfl | omega | (show entryOk _ _ _ _ _ = true; kernel_rfl) | (show pivotOk _ _ = true; kernel_rfl) | decide)

def rowsDA : List Row := [
  (47, row2 shC shN fun c x => if 1 ≤ c.i ∧ c.i ≤ 16 then some (u (qFull c x)) else none)] ++ rowsEB
theorem rowsDA_ok : ∀ p ∈ rowsDA, RowOk Try.prog p := fun p h => by
  simp only [rowsDA, List.mem_append, List.mem_cons, List.not_mem_nil, or_false, false_or, or_assoc] at h
  rcases h with rfl | h
  · exact ok_row2 (enters_of Try.func47 (by decide) rfl) fun c x r _ _ e => by split at e; cases e; exact full_pure c x ‹_›; cases e
  · exact rowsEB_ok p h
theorem okDA : (ctx Try.prog rowsDA).ok := rows_ok rowsDA_ok
theorem DA_47 : tabC rowsDA 47 = row2 shC shN fun c x => if 1 ≤ c.i ∧ c.i ≤ 16 then some (u (qFull c x)) else none := rfl
theorem DA_96 : tabC rowsDA 96 = freeRow := rfl
theorem DA_23 : tabC rowsDA 23 = row4 shC shM shF shI fun c m f op => some (bv (goesE c m f op)) := rfl
theorem DA_52 : tabC rowsDA 52 = row4 shC shM shF shI fun c m f op => some (bv (goesE c m f op)) := rfl
theorem DA_26 : tabC rowsDA 26 = row2 shC shM fun c m => some (iv (eLen c m)) := rfl
theorem DA_61 : tabC rowsDA 61 = row2 shC shM fun c m => some (iv (eLen c m)) := rfl
theorem DA_62 : tabC rowsDA 62 = fun _ => none := rfl
theorem DA_67 : tabC rowsDA 67 = fun _ => none := rfl
theorem DA_68 : tabC rowsDA 68 = fun _ => none := rfl
theorem DA_69 : tabC rowsDA 69 = fun _ => none := rfl
theorem DA_70 : tabC rowsDA 70 = fun _ => none := rfl
theorem DA_71 : tabC rowsDA 71 = fun _ => none := rfl
theorem DA_72 : tabC rowsDA 72 = fun _ => none := rfl
theorem DA_44 : tabC rowsDA 44 = row1 shM fun m => some (ms m) := rfl
theorem DA_57 : tabC rowsDA 57 = row4 shM shI shN shN fun m i v w => some (.tup [ms (mCas m i v w), bv (mCasB m i v)]) := rfl
theorem DA_45 : tabC rowsDA 45 = row2 shM shI fun m i => some (u (mLoad m i)) := rfl
theorem DA_51 : tabC rowsDA 51 = row3 shM shI shN fun m i v => some (ms (mStore m i v)) := rfl
theorem DA_49 : tabC rowsDA 49 = row4 shM shI shN shN fun m i v w => some (.tup [ms (mCas m i v w), bv (mCasB m i v)]) := rfl
theorem DA_53 : tabC rowsDA 53 = row2 shM shI fun m i => some (u (mLoad m i)) := rfl
theorem DA_21 : tabC rowsDA 21 = row2 shM shM fun a b => some (bv (decide (a = b))) := rfl
theorem DA_59 : tabC rowsDA 59 = row3 shM shI shN fun m i v => some (ms (mStore m i v)) := rfl
theorem DA_66 : tabC rowsDA 66 = row1 shC fun c => some (iv (lSize c)) := rfl
theorem DA_88 : tabC rowsDA 88 = row1 shC fun c => some (iv (lSize c)) := rfl
theorem DA_27 : tabC rowsDA 27 = row1 shC fun c => some (bv (mayC c)) := rfl
theorem DA_46 : tabC rowsDA 46 = row2 shN shN fun a b => some (iv (far a b)) := rfl
theorem DA_83 : tabC rowsDA 83 = row1 shC fun c => some (bv (mayC c)) := rfl
theorem DA_55 : tabC rowsDA 55 = row2 shN shN fun a b => some (iv (far a b)) := rfl
theorem DA_95 : tabC rowsDA 95 = row2 shC shI fun c w => if mayC c = true ∧ 0 ≤ w ∧ w ≤ 8 then some (iv (lBase c w)) else none := rfl
theorem DA_63 : tabC rowsDA 63 = fun _ => none := rfl
theorem DA_65 : tabC rowsDA 65 = fun _ => none := rfl
theorem DA_86 : tabC rowsDA 86 = row1 shF fun f => some (bv (f.res != 0)) := rfl
theorem DA_56 : tabC rowsDA 56 = row3 shF shI shN fun f r v => some (fv (fEnd f r v)) := rfl
theorem DA_22 : tabC rowsDA 22 = row2 shM shM fun a b => some (bv (decide (a = b))) := rfl
theorem DA_25 : tabC rowsDA 25 = row3 shI shI shN fun o w v => some (fv (fBegin o w v)) := rfl
theorem DA_31 : tabC rowsDA 31 = row1 shF fun f => some (bv (f.res != 0)) := rfl
theorem DA_48 : tabC rowsDA 48 = row3 shF shI shN fun f r v => some (fv (fEnd f r v)) := rfl
theorem DA_74 : tabC rowsDA 74 = fun _ => none := rfl
theorem DA_75 : tabC rowsDA 75 = fun _ => none := rfl
theorem DA_76 : tabC rowsDA 76 = fun _ => none := rfl
theorem DA_73 : tabC rowsDA 73 = fun _ => none := rfl
theorem DA_24 : tabC rowsDA 24 = row2 shC shN fun c x => some (iv (eSeq c x)) := rfl
theorem DA_50 : tabC rowsDA 50 = row2 shC shN fun c x => some (iv (eVal c x)) := rfl
theorem DA_54 : tabC rowsDA 54 = row2 shC shN fun c x => some (iv (eSeq c x)) := rfl
theorem DA_58 : tabC rowsDA 58 = row2 shC shN fun c x => some (iv (eVal c x)) := rfl
theorem DA_all : type_of% (And.intro DA_47 <| And.intro DA_96 <| And.intro DA_23 <| And.intro DA_52 <| And.intro DA_26 <| And.intro DA_61 <| And.intro DA_62 <| And.intro DA_67 <| And.intro DA_68 <| And.intro DA_69 <| And.intro DA_70 <| And.intro DA_71 <| And.intro DA_72 <| And.intro DA_44 <| And.intro DA_57 <| And.intro DA_45 <| And.intro DA_51 <| And.intro DA_49 <| And.intro DA_53 <| And.intro DA_21 <| And.intro DA_59 <| And.intro DA_66 <| And.intro DA_88 <| And.intro DA_27 <| And.intro DA_46 <| And.intro DA_83 <| And.intro DA_55 <| And.intro DA_95 <| And.intro DA_63 <| And.intro DA_65 <| And.intro DA_86 <| And.intro DA_56 <| And.intro DA_22 <| And.intro DA_25 <| And.intro DA_31 <| And.intro DA_48 <| And.intro DA_74 <| And.intro DA_75 <| And.intro DA_76 <| And.intro DA_73 <| And.intro DA_24 <| And.intro DA_50 <| And.intro DA_54 <| DA_58) := And.intro DA_47 <| And.intro DA_96 <| And.intro DA_23 <| And.intro DA_52 <| And.intro DA_26 <| And.intro DA_61 <| And.intro DA_62 <| And.intro DA_67 <| And.intro DA_68 <| And.intro DA_69 <| And.intro DA_70 <| And.intro DA_71 <| And.intro DA_72 <| And.intro DA_44 <| And.intro DA_57 <| And.intro DA_45 <| And.intro DA_51 <| And.intro DA_49 <| And.intro DA_53 <| And.intro DA_21 <| And.intro DA_59 <| And.intro DA_66 <| And.intro DA_88 <| And.intro DA_27 <| And.intro DA_46 <| And.intro DA_83 <| And.intro DA_55 <| And.intro DA_95 <| And.intro DA_63 <| And.intro DA_65 <| And.intro DA_86 <| And.intro DA_56 <| And.intro DA_22 <| And.intro DA_25 <| And.intro DA_31 <| And.intro DA_48 <| And.intro DA_74 <| And.intro DA_75 <| And.intro DA_76 <| And.intro DA_73 <| And.intro DA_24 <| And.intro DA_50 <| And.intro DA_54 <| DA_58

theorem qstep_pure (c : Cf) (m : List Int) (f : Fr) (hm : m.length ≤ 1000) : PureC Try.prog 17 [cv' c, ms m, fv f] (sv (qStep c m f)) := by
  refine pure_sub okDA 1 Try.func17 rfl (by show 3 ≤ _; decide) ?_
  cases hg : goesE c m f 4 with
  | false =>
    rw [qStep_no hg]
    simp only [Try.f17, inl, DA_all, hg, hm, sv, fv, hfree_fr, hfree_cf, cv', cf_eta, frz_u, shC_dec, dC, T23, T28, T25, hfree_lu, hfree_l0, row0, row1, row2, row3, row4, row5, shI_dec, shN_dec, shB_dec, shM_dec, dI, dN, dB, dM, dU, dU_map, iv, bv, u, ms, ctx_T, ctx_C, ctx_P, T4, T3, T26, Option.bind_some, Option.bind_none, Option.map_some, List.length_map, List.length_set, String.reduceBEq, Int.toNat_natCast, Bool.true_beq, Bool.false_beq, T24, shF_dec, dF, fr_eta, ev1, ev2, implies_true, undef, stepP, dynCall, ↓condE_t, ↓condE_f, ↓guardE_tt, ↓guardE_ff, ↓guardE_tf, ↓guardE_ft, frzDeep, deepArgs, deepArg, resB, cv, stepB, stepE, callD, tabD, snapD, snap1, snapC, snapId, snapIds, guardB, guardC, dstAt, aopR, one, pre, binR, intOpR, shiftOpR, unR, argFrm, evo, lkp, hlk, lenOf, asLst, idOf, bndA, srcOk, ofVal, ofCells, setCells, fillA, setElems, fieldsOf, fieldsEq, scalEq, isEq, AV.wr, AV.ok1, TK.agg, frz, frzs, frzA, frzArg, frzArgs, subA, subL, sub1, kp, kh, accOf, List.replicate, Nat.reduceAdd, Nat.reduceSub, Nat.reduceMul, Nat.reduceEqDiff, Nat.reduceLT, Nat.reduceLeDiff, Nat.reduceBEq, reduceIte, reduceCtorEq, eq_self, ne_eq, Int.reduceToNat, Int.reduceLT, Int.reduceLE, Int.reduceGT, Int.reduceGE, Int.reduceBEq, Int.reduceBNe, Int.reduceEq, Int.reduceNe]
    all_goals ((repeat' apply And.intro) <;> first | rfl | omega | (show entryOk _ _ _ _ _ = true; kernel_rfl) | (show pivotOk _ _ = true; kernel_rfl) | decide)
  | true =>
    obtain ⟨hl, hres, hop, h0, h1⟩ := goesE_iff.1 hg
    have hd : wrapU c.i = c.i := by rw [wrapU_eq]; have := hl.ipos; omega
    have hi0 : c.i ≠ 0 := by have := hl.ipos; omega
    have hii : (1 ≤ c.i ∧ c.i ≤ 16) = True := eq_true hl.ipos
    have hu : ∀ x, IntKind.wrap .u64 x = wrapU x := fun _ => rfl
    obtain ⟨op, pc, who, val, x, y, res⟩ := f
    dsimp only at h0 h1
    have hpc : pc = 0 ∨ pc = 1 ∨ pc = 2 ∨ pc = 3 ∨ pc = 4 := by omega
    unfold qStep
    rw [if_pos hg]
    rcases hpc with rfl | rfl | rfl | rfl | rfl
    · skip
      simp only [Try.f17, inl, DA_all, hg, hm, hu, hd, hi0, hii, len_store, len_cas, sv, fv, fEnd, hfree_fr, hfree_cf, cv', cf_eta, frz_u, shC_dec, dC, T23, T28, T25, hfree_lu, hfree_l0, row0, row1, row2, row3, row4, row5, shI_dec, shN_dec, shB_dec, shM_dec, dI, dN, dB, dM, dU, dU_map, iv, bv, u, ms, ctx_T, ctx_C, ctx_P, T4, T3, T26, Option.bind_some, Option.bind_none, Option.map_some, List.length_map, List.length_set, String.reduceBEq, Int.toNat_natCast, Bool.true_beq, Bool.false_beq, T24, shF_dec, dF, fr_eta, Int.cast_ofNat_Int, Int.reduceSub, Int.reduceAdd, Int.reduceNeg, ev1, ev2, implies_true, undef, stepP, dynCall, ↓condE_t, ↓condE_f, ↓guardE_tt, ↓guardE_ff, ↓guardE_tf, ↓guardE_ft, frzDeep, deepArgs, deepArg, resB, cv, stepB, stepE, callD, tabD, snapD, snap1, snapC, snapId, snapIds, guardB, guardC, dstAt, aopR, one, pre, binR, intOpR, shiftOpR, unR, argFrm, evo, lkp, hlk, lenOf, asLst, idOf, bndA, srcOk, ofVal, ofCells, setCells, fillA, setElems, fieldsOf, fieldsEq, scalEq, isEq, AV.wr, AV.ok1, TK.agg, frz, frzs, frzA, frzArg, frzArgs, subA, subL, sub1, kp, kh, accOf, List.replicate, Nat.reduceAdd, Nat.reduceSub, Nat.reduceMul, Nat.reduceEqDiff, Nat.reduceLT, Nat.reduceLeDiff, Nat.reduceBEq, reduceIte, reduceCtorEq, eq_self, ne_eq, Int.reduceToNat, Int.reduceLT, Int.reduceLE, Int.reduceGT, Int.reduceGE, Int.reduceBEq, Int.reduceBNe, Int.reduceEq, Int.reduceNe]
      all_goals ((repeat' apply And.intro) <;> first | rfl | omega | (show entryOk _ _ _ _ _ = true; kernel_rfl) | (show pivotOk _ _ = true; kernel_rfl) | decide)
    · by_cases q : far (mLoad m (eSeq c x)) (qFull c x) = 0
      · have q1 : (far (mLoad m (eSeq c x)) (qFull c x) == 0) = true := by simpa using q
        have q0 : far (mLoad m (eSeq c x)) (wrapU (eFree c x + 1)) = 0 := q
        simp only [Try.f17, inl, DA_all, hg, hm, hu, hd, hi0, hii, len_store, len_cas, q0, q1, sv, fv, fEnd, hfree_fr, hfree_cf, cv', cf_eta, frz_u, shC_dec, dC, T23, T28, T25, hfree_lu, hfree_l0, row0, row1, row2, row3, row4, row5, shI_dec, shN_dec, shB_dec, shM_dec, dI, dN, dB, dM, dU, dU_map, iv, bv, u, ms, ctx_T, ctx_C, ctx_P, T4, T3, T26, Option.bind_some, Option.bind_none, Option.map_some, List.length_map, List.length_set, String.reduceBEq, Int.toNat_natCast, Bool.true_beq, Bool.false_beq, T24, shF_dec, dF, fr_eta, Int.cast_ofNat_Int, Int.reduceSub, Int.reduceAdd, Int.reduceNeg, ev1, ev2, implies_true, undef, stepP, dynCall, ↓condE_t, ↓condE_f, ↓guardE_tt, ↓guardE_ff, ↓guardE_tf, ↓guardE_ft, frzDeep, deepArgs, deepArg, resB, cv, stepB, stepE, callD, tabD, snapD, snap1, snapC, snapId, snapIds, guardB, guardC, dstAt, aopR, one, pre, binR, intOpR, shiftOpR, unR, argFrm, evo, lkp, hlk, lenOf, asLst, idOf, bndA, srcOk, ofVal, ofCells, setCells, fillA, setElems, fieldsOf, fieldsEq, scalEq, isEq, AV.wr, AV.ok1, TK.agg, frz, frzs, frzA, frzArg, frzArgs, subA, subL, sub1, kp, kh, accOf, List.replicate, Nat.reduceAdd, Nat.reduceSub, Nat.reduceMul, Nat.reduceEqDiff, Nat.reduceLT, Nat.reduceLeDiff, Nat.reduceBEq, reduceIte, reduceCtorEq, eq_self, ne_eq, Int.reduceToNat, Int.reduceLT, Int.reduceLE, Int.reduceGT, Int.reduceGE, Int.reduceBEq, Int.reduceBNe, Int.reduceEq, Int.reduceNe]
        all_goals ((repeat' apply And.intro) <;> first | rfl | omega | (show entryOk _ _ _ _ _ = true; kernel_rfl) | (show pivotOk _ _ = true; kernel_rfl) | decide)
      · have q1 : (far (mLoad m (eSeq c x)) (qFull c x) == 0) = false := by simpa using q
        have q0 : ¬ far (mLoad m (eSeq c x)) (wrapU (eFree c x + 1)) = 0 := q
        by_cases q2 : far (mLoad m (eSeq c x)) (qFull c x) < 0
        · have q3 : far (mLoad m (eSeq c x)) (wrapU (eFree c x + 1)) < 0 := q2
          simp only [Try.f17, inl, DA_all, hg, hm, hu, hd, hi0, hii, len_store, len_cas, q0, q1, q2, q3, sv, fv, fEnd, hfree_fr, hfree_cf, cv', cf_eta, frz_u, shC_dec, dC, T23, T28, T25, hfree_lu, hfree_l0, row0, row1, row2, row3, row4, row5, shI_dec, shN_dec, shB_dec, shM_dec, dI, dN, dB, dM, dU, dU_map, iv, bv, u, ms, ctx_T, ctx_C, ctx_P, T4, T3, T26, Option.bind_some, Option.bind_none, Option.map_some, List.length_map, List.length_set, String.reduceBEq, Int.toNat_natCast, Bool.true_beq, Bool.false_beq, T24, shF_dec, dF, fr_eta, Int.cast_ofNat_Int, Int.reduceSub, Int.reduceAdd, Int.reduceNeg, ev1, ev2, implies_true, undef, stepP, dynCall, ↓condE_t, ↓condE_f, ↓guardE_tt, ↓guardE_ff, ↓guardE_tf, ↓guardE_ft, frzDeep, deepArgs, deepArg, resB, cv, stepB, stepE, callD, tabD, snapD, snap1, snapC, snapId, snapIds, guardB, guardC, dstAt, aopR, one, pre, binR, intOpR, shiftOpR, unR, argFrm, evo, lkp, hlk, lenOf, asLst, idOf, bndA, srcOk, ofVal, ofCells, setCells, fillA, setElems, fieldsOf, fieldsEq, scalEq, isEq, AV.wr, AV.ok1, TK.agg, frz, frzs, frzA, frzArg, frzArgs, subA, subL, sub1, kp, kh, accOf, List.replicate, Nat.reduceAdd, Nat.reduceSub, Nat.reduceMul, Nat.reduceEqDiff, Nat.reduceLT, Nat.reduceLeDiff, Nat.reduceBEq, reduceIte, reduceCtorEq, eq_self, ne_eq, Int.reduceToNat, Int.reduceLT, Int.reduceLE, Int.reduceGT, Int.reduceGE, Int.reduceBEq, Int.reduceBNe, Int.reduceEq, Int.reduceNe]
          all_goals ((repeat' apply And.intro) <;> first | rfl | omega | (show entryOk _ _ _ _ _ = true; kernel_rfl) | (show pivotOk _ _ = true; kernel_rfl) | decide)
        · have q3 : ¬ far (mLoad m (eSeq c x)) (wrapU (eFree c x + 1)) < 0 := q2
          simp only [Try.f17, inl, DA_all, hg, hm, hu, hd, hi0, hii, len_store, len_cas, q0, q1, q2, q3, sv, fv, fEnd, hfree_fr, hfree_cf, cv', cf_eta, frz_u, shC_dec, dC, T23, T28, T25, hfree_lu, hfree_l0, row0, row1, row2, row3, row4, row5, shI_dec, shN_dec, shB_dec, shM_dec, dI, dN, dB, dM, dU, dU_map, iv, bv, u, ms, ctx_T, ctx_C, ctx_P, T4, T3, T26, Option.bind_some, Option.bind_none, Option.map_some, List.length_map, List.length_set, String.reduceBEq, Int.toNat_natCast, Bool.true_beq, Bool.false_beq, T24, shF_dec, dF, fr_eta, Int.cast_ofNat_Int, Int.reduceSub, Int.reduceAdd, Int.reduceNeg, ev1, ev2, implies_true, undef, stepP, dynCall, ↓condE_t, ↓condE_f, ↓guardE_tt, ↓guardE_ff, ↓guardE_tf, ↓guardE_ft, frzDeep, deepArgs, deepArg, resB, cv, stepB, stepE, callD, tabD, snapD, snap1, snapC, snapId, snapIds, guardB, guardC, dstAt, aopR, one, pre, binR, intOpR, shiftOpR, unR, argFrm, evo, lkp, hlk, lenOf, asLst, idOf, bndA, srcOk, ofVal, ofCells, setCells, fillA, setElems, fieldsOf, fieldsEq, scalEq, isEq, AV.wr, AV.ok1, TK.agg, frz, frzs, frzA, frzArg, frzArgs, subA, subL, sub1, kp, kh, accOf, List.replicate, Nat.reduceAdd, Nat.reduceSub, Nat.reduceMul, Nat.reduceEqDiff, Nat.reduceLT, Nat.reduceLeDiff, Nat.reduceBEq, reduceIte, reduceCtorEq, eq_self, ne_eq, Int.reduceToNat, Int.reduceLT, Int.reduceLE, Int.reduceGT, Int.reduceGE, Int.reduceBEq, Int.reduceBNe, Int.reduceEq, Int.reduceNe]
          all_goals ((repeat' apply And.intro) <;> first | rfl | omega | (show entryOk _ _ _ _ _ = true; kernel_rfl) | (show pivotOk _ _ = true; kernel_rfl) | decide)
    · cases q : mCasB m 4 x with
      | true =>
        simp only [Try.f17, inl, DA_all, hg, hm, hu, hd, hi0, hii, len_store, len_cas, q, sv, fv, fEnd, hfree_fr, hfree_cf, cv', cf_eta, frz_u, shC_dec, dC, T23, T28, T25, hfree_lu, hfree_l0, row0, row1, row2, row3, row4, row5, shI_dec, shN_dec, shB_dec, shM_dec, dI, dN, dB, dM, dU, dU_map, iv, bv, u, ms, ctx_T, ctx_C, ctx_P, T4, T3, T26, Option.bind_some, Option.bind_none, Option.map_some, List.length_map, List.length_set, String.reduceBEq, Int.toNat_natCast, Bool.true_beq, Bool.false_beq, T24, shF_dec, dF, fr_eta, Int.cast_ofNat_Int, Int.reduceSub, Int.reduceAdd, Int.reduceNeg, ev1, ev2, implies_true, undef, stepP, dynCall, ↓condE_t, ↓condE_f, ↓guardE_tt, ↓guardE_ff, ↓guardE_tf, ↓guardE_ft, frzDeep, deepArgs, deepArg, resB, cv, stepB, stepE, callD, tabD, snapD, snap1, snapC, snapId, snapIds, guardB, guardC, dstAt, aopR, one, pre, binR, intOpR, shiftOpR, unR, argFrm, evo, lkp, hlk, lenOf, asLst, idOf, bndA, srcOk, ofVal, ofCells, setCells, fillA, setElems, fieldsOf, fieldsEq, scalEq, isEq, AV.wr, AV.ok1, TK.agg, frz, frzs, frzA, frzArg, frzArgs, subA, subL, sub1, kp, kh, accOf, List.replicate, Nat.reduceAdd, Nat.reduceSub, Nat.reduceMul, Nat.reduceEqDiff, Nat.reduceLT, Nat.reduceLeDiff, Nat.reduceBEq, reduceIte, reduceCtorEq, eq_self, ne_eq, Int.reduceToNat, Int.reduceLT, Int.reduceLE, Int.reduceGT, Int.reduceGE, Int.reduceBEq, Int.reduceBNe, Int.reduceEq, Int.reduceNe]
        all_goals ((repeat' apply And.intro) <;> first | rfl | omega | (show entryOk _ _ _ _ _ = true; kernel_rfl) | (show pivotOk _ _ = true; kernel_rfl) | decide)
      | false =>
        simp only [Try.f17, inl, DA_all, hg, hm, hu, hd, hi0, hii, len_store, len_cas, q, sv, fv, fEnd, hfree_fr, hfree_cf, cv', cf_eta, frz_u, shC_dec, dC, T23, T28, T25, hfree_lu, hfree_l0, row0, row1, row2, row3, row4, row5, shI_dec, shN_dec, shB_dec, shM_dec, dI, dN, dB, dM, dU, dU_map, iv, bv, u, ms, ctx_T, ctx_C, ctx_P, T4, T3, T26, Option.bind_some, Option.bind_none, Option.map_some, List.length_map, List.length_set, String.reduceBEq, Int.toNat_natCast, Bool.true_beq, Bool.false_beq, T24, shF_dec, dF, fr_eta, Int.cast_ofNat_Int, Int.reduceSub, Int.reduceAdd, Int.reduceNeg, ev1, ev2, implies_true, undef, stepP, dynCall, ↓condE_t, ↓condE_f, ↓guardE_tt, ↓guardE_ff, ↓guardE_tf, ↓guardE_ft, frzDeep, deepArgs, deepArg, resB, cv, stepB, stepE, callD, tabD, snapD, snap1, snapC, snapId, snapIds, guardB, guardC, dstAt, aopR, one, pre, binR, intOpR, shiftOpR, unR, argFrm, evo, lkp, hlk, lenOf, asLst, idOf, bndA, srcOk, ofVal, ofCells, setCells, fillA, setElems, fieldsOf, fieldsEq, scalEq, isEq, AV.wr, AV.ok1, TK.agg, frz, frzs, frzA, frzArg, frzArgs, subA, subL, sub1, kp, kh, accOf, List.replicate, Nat.reduceAdd, Nat.reduceSub, Nat.reduceMul, Nat.reduceEqDiff, Nat.reduceLT, Nat.reduceLeDiff, Nat.reduceBEq, reduceIte, reduceCtorEq, eq_self, ne_eq, Int.reduceToNat, Int.reduceLT, Int.reduceLE, Int.reduceGT, Int.reduceGE, Int.reduceBEq, Int.reduceBNe, Int.reduceEq, Int.reduceNe]
        all_goals ((repeat' apply And.intro) <;> first | rfl | omega | (show entryOk _ _ _ _ _ = true; kernel_rfl) | (show pivotOk _ _ = true; kernel_rfl) | decide)
    · skip
      simp only [Try.f17, inl, DA_all, hg, hm, hu, hd, hi0, hii, len_store, len_cas, sv, fv, fEnd, hfree_fr, hfree_cf, cv', cf_eta, frz_u, shC_dec, dC, T23, T28, T25, hfree_lu, hfree_l0, row0, row1, row2, row3, row4, row5, shI_dec, shN_dec, shB_dec, shM_dec, dI, dN, dB, dM, dU, dU_map, iv, bv, u, ms, ctx_T, ctx_C, ctx_P, T4, T3, T26, Option.bind_some, Option.bind_none, Option.map_some, List.length_map, List.length_set, String.reduceBEq, Int.toNat_natCast, Bool.true_beq, Bool.false_beq, T24, shF_dec, dF, fr_eta, Int.cast_ofNat_Int, Int.reduceSub, Int.reduceAdd, Int.reduceNeg, ev1, ev2, implies_true, undef, stepP, dynCall, ↓condE_t, ↓condE_f, ↓guardE_tt, ↓guardE_ff, ↓guardE_tf, ↓guardE_ft, frzDeep, deepArgs, deepArg, resB, cv, stepB, stepE, callD, tabD, snapD, snap1, snapC, snapId, snapIds, guardB, guardC, dstAt, aopR, one, pre, binR, intOpR, shiftOpR, unR, argFrm, evo, lkp, hlk, lenOf, asLst, idOf, bndA, srcOk, ofVal, ofCells, setCells, fillA, setElems, fieldsOf, fieldsEq, scalEq, isEq, AV.wr, AV.ok1, TK.agg, frz, frzs, frzA, frzArg, frzArgs, subA, subL, sub1, kp, kh, accOf, List.replicate, Nat.reduceAdd, Nat.reduceSub, Nat.reduceMul, Nat.reduceEqDiff, Nat.reduceLT, Nat.reduceLeDiff, Nat.reduceBEq, reduceIte, reduceCtorEq, eq_self, ne_eq, Int.reduceToNat, Int.reduceLT, Int.reduceLE, Int.reduceGT, Int.reduceGE, Int.reduceBEq, Int.reduceBNe, Int.reduceEq, Int.reduceNe]
      all_goals ((repeat' apply And.intro) <;> first | rfl | omega | (show entryOk _ _ _ _ _ = true; kernel_rfl) | (show pivotOk _ _ = true; kernel_rfl) | decide)
    · have hF : wrapU (wrapU (eFree c x + 1) + 1) = wrapU (qFull c x + 1) := rfl
      rw [hF]
      simp only [Try.f17, inl, DA_all, hg, hm, hu, hd, hi0, hii, len_store, len_cas, sv, fv, fEnd, hfree_fr, hfree_cf, cv', cf_eta, frz_u, shC_dec, dC, T23, T28, T25, hfree_lu, hfree_l0, row0, row1, row2, row3, row4, row5, shI_dec, shN_dec, shB_dec, shM_dec, dI, dN, dB, dM, dU, dU_map, iv, bv, u, ms, ctx_T, ctx_C, ctx_P, T4, T3, T26, Option.bind_some, Option.bind_none, Option.map_some, List.length_map, List.length_set, String.reduceBEq, Int.toNat_natCast, Bool.true_beq, Bool.false_beq, T24, shF_dec, dF, fr_eta, Int.cast_ofNat_Int, Int.reduceSub, Int.reduceAdd, Int.reduceNeg, ev1, ev2, implies_true, undef, stepP, dynCall, ↓condE_t, ↓condE_f, ↓guardE_tt, ↓guardE_ff, ↓guardE_tf, ↓guardE_ft, frzDeep, deepArgs, deepArg, resB, cv, stepB, stepE, callD, tabD, snapD, snap1, snapC, snapId, snapIds, guardB, guardC, dstAt, aopR, one, pre, binR, intOpR, shiftOpR, unR, argFrm, evo, lkp, hlk, lenOf, asLst, idOf, bndA, srcOk, ofVal, ofCells, setCells, fillA, setElems, fieldsOf, fieldsEq, scalEq, isEq, AV.wr, AV.ok1, TK.agg, frz, frzs, frzA, frzArg, frzArgs, subA, subL, sub1, kp, kh, accOf, List.replicate, Nat.reduceAdd, Nat.reduceSub, Nat.reduceMul, Nat.reduceEqDiff, Nat.reduceLT, Nat.reduceLeDiff, Nat.reduceBEq, reduceIte, reduceCtorEq, eq_self, ne_eq, Int.reduceToNat, Int.reduceLT, Int.reduceLE, Int.reduceGT, Int.reduceGE, Int.reduceBEq, Int.reduceBNe, Int.reduceEq, Int.reduceNe]
      all_goals ((repeat' apply And.intro) <;> first | rfl | omega | (show entryOk _ _ _ _ _ = true; kernel_rfl) | (show pivotOk _ _ = true; kernel_rfl) | decide)

theorem rqstep_pure (c : Cf) (m : List Int) (f : Fr) (hm : m.length ≤ 1000) : PureC Try.prog 18 [cv' c, ms m, fv f] (sv (rqStep c m f)) := by
  refine pure_sub okDA 1 Try.func18 rfl (by show 3 ≤ _; decide) ?_
  cases hg : goesE c m f 4 with
  | false =>
    rw [rqStep_no hg]
    simp only [Try.f18, inl, DA_all, hg, hm, sv, fv, hfree_fr, hfree_cf, cv', cf_eta, frz_u, shC_dec, dC, T23, T28, T25, hfree_lu, hfree_l0, row0, row1, row2, row3, row4, row5, shI_dec, shN_dec, shB_dec, shM_dec, dI, dN, dB, dM, dU, dU_map, iv, bv, u, ms, ctx_T, ctx_C, ctx_P, T4, T3, T26, Option.bind_some, Option.bind_none, Option.map_some, List.length_map, List.length_set, String.reduceBEq, Int.toNat_natCast, Bool.true_beq, Bool.false_beq, T24, shF_dec, dF, fr_eta, ev1, ev2, implies_true, undef, stepP, dynCall, ↓condE_t, ↓condE_f, ↓guardE_tt, ↓guardE_ff, ↓guardE_tf, ↓guardE_ft, frzDeep, deepArgs, deepArg, resB, cv, stepB, stepE, callD, tabD, snapD, snap1, snapC, snapId, snapIds, guardB, guardC, dstAt, aopR, one, pre, binR, intOpR, shiftOpR, unR, argFrm, evo, lkp, hlk, lenOf, asLst, idOf, bndA, srcOk, ofVal, ofCells, setCells, fillA, setElems, fieldsOf, fieldsEq, scalEq, isEq, AV.wr, AV.ok1, TK.agg, frz, frzs, frzA, frzArg, frzArgs, subA, subL, sub1, kp, kh, accOf, List.replicate, Nat.reduceAdd, Nat.reduceSub, Nat.reduceMul, Nat.reduceEqDiff, Nat.reduceLT, Nat.reduceLeDiff, Nat.reduceBEq, reduceIte, reduceCtorEq, eq_self, ne_eq, Int.reduceToNat, Int.reduceLT, Int.reduceLE, Int.reduceGT, Int.reduceGE, Int.reduceBEq, Int.reduceBNe, Int.reduceEq, Int.reduceNe]
    all_goals ((repeat' apply And.intro) <;> first | rfl | omega | (show entryOk _ _ _ _ _ = true; kernel_rfl) | (show pivotOk _ _ = true; kernel_rfl) | decide)
  | true =>
    obtain ⟨hl, hres, hop, h0, h1⟩ := goesE_iff.1 hg
    have hd : wrapU c.i = c.i := by rw [wrapU_eq]; have := hl.ipos; omega
    have hi0 : c.i ≠ 0 := by have := hl.ipos; omega
    have hu : ∀ x, IntKind.wrap .u64 x = wrapU x := fun _ => rfl
    obtain ⟨op, pc, who, val, x, y, res⟩ := f
    dsimp only at h0 h1
    have hE : wrapU (2 * wrapU (x.tdiv c.i)) = eFree c x := by unfold eFree; rw [Int.mul_comm]
    have hQ : wrapU (eFree c x + 1) = qFull c x := rfl
    have hE2 : wrapU (eFree c x + 2) = wrapU (qFull c x + 1) := by
      unfold qFull; rw [wrapU_eq, wrapU_eq, wrapU_eq]; omega
    have hpc : pc = 0 ∨ pc = 1 ∨ pc = 2 ∨ pc = 3 ∨ pc = 4 := by omega
    unfold rqStep
    rw [if_pos hg]
    rcases hpc with rfl | rfl | rfl | rfl | rfl
    · skip
      simp only [Try.f18, inl, DA_all, hg, hm, hu, hd, hi0, hE, hQ, len_store, len_cas, sv, fv, fEnd, hfree_fr, hfree_cf, cv', cf_eta, frz_u, shC_dec, dC, T23, T28, T25, hfree_lu, hfree_l0, row0, row1, row2, row3, row4, row5, shI_dec, shN_dec, shB_dec, shM_dec, dI, dN, dB, dM, dU, dU_map, iv, bv, u, ms, ctx_T, ctx_C, ctx_P, T4, T3, T26, Option.bind_some, Option.bind_none, Option.map_some, List.length_map, List.length_set, String.reduceBEq, Int.toNat_natCast, Bool.true_beq, Bool.false_beq, T24, shF_dec, dF, fr_eta, ev1, ev2, implies_true, undef, stepP, dynCall, ↓condE_t, ↓condE_f, ↓guardE_tt, ↓guardE_ff, ↓guardE_tf, ↓guardE_ft, frzDeep, deepArgs, deepArg, resB, cv, stepB, stepE, callD, tabD, snapD, snap1, snapC, snapId, snapIds, guardB, guardC, dstAt, aopR, one, pre, binR, intOpR, shiftOpR, unR, argFrm, evo, lkp, hlk, lenOf, asLst, idOf, bndA, srcOk, ofVal, ofCells, setCells, fillA, setElems, fieldsOf, fieldsEq, scalEq, isEq, AV.wr, AV.ok1, TK.agg, frz, frzs, frzA, frzArg, frzArgs, subA, subL, sub1, kp, kh, accOf, List.replicate, Nat.reduceAdd, Nat.reduceSub, Nat.reduceMul, Nat.reduceEqDiff, Nat.reduceLT, Nat.reduceLeDiff, Nat.reduceBEq, reduceIte, reduceCtorEq, eq_self, ne_eq, Int.reduceToNat, Int.reduceLT, Int.reduceLE, Int.reduceGT, Int.reduceGE, Int.reduceBEq, Int.reduceBNe, Int.reduceEq, Int.reduceNe]
      all_goals ((repeat' apply And.intro) <;> first | rfl | omega | (show entryOk _ _ _ _ _ = true; kernel_rfl) | (show pivotOk _ _ = true; kernel_rfl) | decide)
    · by_cases q : mLoad m (eSeq c x) = qFull c x
      · have q1 : (mLoad m (eSeq c x) == qFull c x) = true := by simpa using q
        simp only [Try.f18, inl, DA_all, hg, hm, hu, hd, hi0, hE, hQ, len_store, len_cas, q, q1, beq_self_eq_true, sv, fv, fEnd, hfree_fr, hfree_cf, cv', cf_eta, frz_u, shC_dec, dC, T23, T28, T25, hfree_lu, hfree_l0, row0, row1, row2, row3, row4, row5, shI_dec, shN_dec, shB_dec, shM_dec, dI, dN, dB, dM, dU, dU_map, iv, bv, u, ms, ctx_T, ctx_C, ctx_P, T4, T3, T26, Option.bind_some, Option.bind_none, Option.map_some, List.length_map, List.length_set, String.reduceBEq, Int.toNat_natCast, Bool.true_beq, Bool.false_beq, T24, shF_dec, dF, fr_eta, ev1, ev2, implies_true, undef, stepP, dynCall, ↓condE_t, ↓condE_f, ↓guardE_tt, ↓guardE_ff, ↓guardE_tf, ↓guardE_ft, frzDeep, deepArgs, deepArg, resB, cv, stepB, stepE, callD, tabD, snapD, snap1, snapC, snapId, snapIds, guardB, guardC, dstAt, aopR, one, pre, binR, intOpR, shiftOpR, unR, argFrm, evo, lkp, hlk, lenOf, asLst, idOf, bndA, srcOk, ofVal, ofCells, setCells, fillA, setElems, fieldsOf, fieldsEq, scalEq, isEq, AV.wr, AV.ok1, TK.agg, frz, frzs, frzA, frzArg, frzArgs, subA, subL, sub1, kp, kh, accOf, List.replicate, Nat.reduceAdd, Nat.reduceSub, Nat.reduceMul, Nat.reduceEqDiff, Nat.reduceLT, Nat.reduceLeDiff, Nat.reduceBEq, reduceIte, reduceCtorEq, eq_self, ne_eq, Int.reduceToNat, Int.reduceLT, Int.reduceLE, Int.reduceGT, Int.reduceGE, Int.reduceBEq, Int.reduceBNe, Int.reduceEq, Int.reduceNe]
        all_goals ((repeat' apply And.intro) <;> first | rfl | omega | (show entryOk _ _ _ _ _ = true; kernel_rfl) | (show pivotOk _ _ = true; kernel_rfl) | decide)
      · have q1 : (mLoad m (eSeq c x) == qFull c x) = false := by simpa using q
        by_cases q2 : far (mLoad m (eSeq c x)) (qFull c x) < 0
        · skip
          simp only [Try.f18, inl, DA_all, hg, hm, hu, hd, hi0, hE, hQ, len_store, len_cas, q, q1, q2, sv, fv, fEnd, hfree_fr, hfree_cf, cv', cf_eta, frz_u, shC_dec, dC, T23, T28, T25, hfree_lu, hfree_l0, row0, row1, row2, row3, row4, row5, shI_dec, shN_dec, shB_dec, shM_dec, dI, dN, dB, dM, dU, dU_map, iv, bv, u, ms, ctx_T, ctx_C, ctx_P, T4, T3, T26, Option.bind_some, Option.bind_none, Option.map_some, List.length_map, List.length_set, String.reduceBEq, Int.toNat_natCast, Bool.true_beq, Bool.false_beq, T24, shF_dec, dF, fr_eta, ev1, ev2, implies_true, undef, stepP, dynCall, ↓condE_t, ↓condE_f, ↓guardE_tt, ↓guardE_ff, ↓guardE_tf, ↓guardE_ft, frzDeep, deepArgs, deepArg, resB, cv, stepB, stepE, callD, tabD, snapD, snap1, snapC, snapId, snapIds, guardB, guardC, dstAt, aopR, one, pre, binR, intOpR, shiftOpR, unR, argFrm, evo, lkp, hlk, lenOf, asLst, idOf, bndA, srcOk, ofVal, ofCells, setCells, fillA, setElems, fieldsOf, fieldsEq, scalEq, isEq, AV.wr, AV.ok1, TK.agg, frz, frzs, frzA, frzArg, frzArgs, subA, subL, sub1, kp, kh, accOf, List.replicate, Nat.reduceAdd, Nat.reduceSub, Nat.reduceMul, Nat.reduceEqDiff, Nat.reduceLT, Nat.reduceLeDiff, Nat.reduceBEq, reduceIte, reduceCtorEq, eq_self, ne_eq, Int.reduceToNat, Int.reduceLT, Int.reduceLE, Int.reduceGT, Int.reduceGE, Int.reduceBEq, Int.reduceBNe, Int.reduceEq, Int.reduceNe]
          all_goals ((repeat' apply And.intro) <;> first | rfl | omega | (show entryOk _ _ _ _ _ = true; kernel_rfl) | (show pivotOk _ _ = true; kernel_rfl) | decide)
        · skip
          simp only [Try.f18, inl, DA_all, hg, hm, hu, hd, hi0, hE, hQ, len_store, len_cas, q, q1, q2, sv, fv, fEnd, hfree_fr, hfree_cf, cv', cf_eta, frz_u, shC_dec, dC, T23, T28, T25, hfree_lu, hfree_l0, row0, row1, row2, row3, row4, row5, shI_dec, shN_dec, shB_dec, shM_dec, dI, dN, dB, dM, dU, dU_map, iv, bv, u, ms, ctx_T, ctx_C, ctx_P, T4, T3, T26, Option.bind_some, Option.bind_none, Option.map_some, List.length_map, List.length_set, String.reduceBEq, Int.toNat_natCast, Bool.true_beq, Bool.false_beq, T24, shF_dec, dF, fr_eta, ev1, ev2, implies_true, undef, stepP, dynCall, ↓condE_t, ↓condE_f, ↓guardE_tt, ↓guardE_ff, ↓guardE_tf, ↓guardE_ft, frzDeep, deepArgs, deepArg, resB, cv, stepB, stepE, callD, tabD, snapD, snap1, snapC, snapId, snapIds, guardB, guardC, dstAt, aopR, one, pre, binR, intOpR, shiftOpR, unR, argFrm, evo, lkp, hlk, lenOf, asLst, idOf, bndA, srcOk, ofVal, ofCells, setCells, fillA, setElems, fieldsOf, fieldsEq, scalEq, isEq, AV.wr, AV.ok1, TK.agg, frz, frzs, frzA, frzArg, frzArgs, subA, subL, sub1, kp, kh, accOf, List.replicate, Nat.reduceAdd, Nat.reduceSub, Nat.reduceMul, Nat.reduceEqDiff, Nat.reduceLT, Nat.reduceLeDiff, Nat.reduceBEq, reduceIte, reduceCtorEq, eq_self, ne_eq, Int.reduceToNat, Int.reduceLT, Int.reduceLE, Int.reduceGT, Int.reduceGE, Int.reduceBEq, Int.reduceBNe, Int.reduceEq, Int.reduceNe]
          all_goals ((repeat' apply And.intro) <;> first | rfl | omega | (show entryOk _ _ _ _ _ = true; kernel_rfl) | (show pivotOk _ _ = true; kernel_rfl) | decide)
    · cases q : mCasB m 4 x with
      | true =>
        simp only [Try.f18, inl, DA_all, hg, hm, hu, hd, hi0, hE, hQ, len_store, len_cas, q, sv, fv, fEnd, hfree_fr, hfree_cf, cv', cf_eta, frz_u, shC_dec, dC, T23, T28, T25, hfree_lu, hfree_l0, row0, row1, row2, row3, row4, row5, shI_dec, shN_dec, shB_dec, shM_dec, dI, dN, dB, dM, dU, dU_map, iv, bv, u, ms, ctx_T, ctx_C, ctx_P, T4, T3, T26, Option.bind_some, Option.bind_none, Option.map_some, List.length_map, List.length_set, String.reduceBEq, Int.toNat_natCast, Bool.true_beq, Bool.false_beq, T24, shF_dec, dF, fr_eta, ev1, ev2, implies_true, undef, stepP, dynCall, ↓condE_t, ↓condE_f, ↓guardE_tt, ↓guardE_ff, ↓guardE_tf, ↓guardE_ft, frzDeep, deepArgs, deepArg, resB, cv, stepB, stepE, callD, tabD, snapD, snap1, snapC, snapId, snapIds, guardB, guardC, dstAt, aopR, one, pre, binR, intOpR, shiftOpR, unR, argFrm, evo, lkp, hlk, lenOf, asLst, idOf, bndA, srcOk, ofVal, ofCells, setCells, fillA, setElems, fieldsOf, fieldsEq, scalEq, isEq, AV.wr, AV.ok1, TK.agg, frz, frzs, frzA, frzArg, frzArgs, subA, subL, sub1, kp, kh, accOf, List.replicate, Nat.reduceAdd, Nat.reduceSub, Nat.reduceMul, Nat.reduceEqDiff, Nat.reduceLT, Nat.reduceLeDiff, Nat.reduceBEq, reduceIte, reduceCtorEq, eq_self, ne_eq, Int.reduceToNat, Int.reduceLT, Int.reduceLE, Int.reduceGT, Int.reduceGE, Int.reduceBEq, Int.reduceBNe, Int.reduceEq, Int.reduceNe]
        all_goals ((repeat' apply And.intro) <;> first | rfl | omega | (show entryOk _ _ _ _ _ = true; kernel_rfl) | (show pivotOk _ _ = true; kernel_rfl) | decide)
      | false =>
        simp only [Try.f18, inl, DA_all, hg, hm, hu, hd, hi0, hE, hQ, len_store, len_cas, q, sv, fv, fEnd, hfree_fr, hfree_cf, cv', cf_eta, frz_u, shC_dec, dC, T23, T28, T25, hfree_lu, hfree_l0, row0, row1, row2, row3, row4, row5, shI_dec, shN_dec, shB_dec, shM_dec, dI, dN, dB, dM, dU, dU_map, iv, bv, u, ms, ctx_T, ctx_C, ctx_P, T4, T3, T26, Option.bind_some, Option.bind_none, Option.map_some, List.length_map, List.length_set, String.reduceBEq, Int.toNat_natCast, Bool.true_beq, Bool.false_beq, T24, shF_dec, dF, fr_eta, ev1, ev2, implies_true, undef, stepP, dynCall, ↓condE_t, ↓condE_f, ↓guardE_tt, ↓guardE_ff, ↓guardE_tf, ↓guardE_ft, frzDeep, deepArgs, deepArg, resB, cv, stepB, stepE, callD, tabD, snapD, snap1, snapC, snapId, snapIds, guardB, guardC, dstAt, aopR, one, pre, binR, intOpR, shiftOpR, unR, argFrm, evo, lkp, hlk, lenOf, asLst, idOf, bndA, srcOk, ofVal, ofCells, setCells, fillA, setElems, fieldsOf, fieldsEq, scalEq, isEq, AV.wr, AV.ok1, TK.agg, frz, frzs, frzA, frzArg, frzArgs, subA, subL, sub1, kp, kh, accOf, List.replicate, Nat.reduceAdd, Nat.reduceSub, Nat.reduceMul, Nat.reduceEqDiff, Nat.reduceLT, Nat.reduceLeDiff, Nat.reduceBEq, reduceIte, reduceCtorEq, eq_self, ne_eq, Int.reduceToNat, Int.reduceLT, Int.reduceLE, Int.reduceGT, Int.reduceGE, Int.reduceBEq, Int.reduceBNe, Int.reduceEq, Int.reduceNe]
        all_goals ((repeat' apply And.intro) <;> first | rfl | omega | (show entryOk _ _ _ _ _ = true; kernel_rfl) | (show pivotOk _ _ = true; kernel_rfl) | decide)
    · skip
      simp only [Try.f18, inl, DA_all, hg, hm, hu, hd, hi0, hE, hQ, len_store, len_cas, sv, fv, fEnd, hfree_fr, hfree_cf, cv', cf_eta, frz_u, shC_dec, dC, T23, T28, T25, hfree_lu, hfree_l0, row0, row1, row2, row3, row4, row5, shI_dec, shN_dec, shB_dec, shM_dec, dI, dN, dB, dM, dU, dU_map, iv, bv, u, ms, ctx_T, ctx_C, ctx_P, T4, T3, T26, Option.bind_some, Option.bind_none, Option.map_some, List.length_map, List.length_set, String.reduceBEq, Int.toNat_natCast, Bool.true_beq, Bool.false_beq, T24, shF_dec, dF, fr_eta, ev1, ev2, implies_true, undef, stepP, dynCall, ↓condE_t, ↓condE_f, ↓guardE_tt, ↓guardE_ff, ↓guardE_tf, ↓guardE_ft, frzDeep, deepArgs, deepArg, resB, cv, stepB, stepE, callD, tabD, snapD, snap1, snapC, snapId, snapIds, guardB, guardC, dstAt, aopR, one, pre, binR, intOpR, shiftOpR, unR, argFrm, evo, lkp, hlk, lenOf, asLst, idOf, bndA, srcOk, ofVal, ofCells, setCells, fillA, setElems, fieldsOf, fieldsEq, scalEq, isEq, AV.wr, AV.ok1, TK.agg, frz, frzs, frzA, frzArg, frzArgs, subA, subL, sub1, kp, kh, accOf, List.replicate, Nat.reduceAdd, Nat.reduceSub, Nat.reduceMul, Nat.reduceEqDiff, Nat.reduceLT, Nat.reduceLeDiff, Nat.reduceBEq, reduceIte, reduceCtorEq, eq_self, ne_eq, Int.reduceToNat, Int.reduceLT, Int.reduceLE, Int.reduceGT, Int.reduceGE, Int.reduceBEq, Int.reduceBNe, Int.reduceEq, Int.reduceNe]
      all_goals ((repeat' apply And.intro) <;> first | rfl | omega | (show entryOk _ _ _ _ _ = true; kernel_rfl) | (show pivotOk _ _ = true; kernel_rfl) | decide)
    · skip
      simp only [Try.f18, inl, DA_all, hg, hm, hu, hd, hi0, hE, hE2, hQ, len_store, len_cas, sv, fv, fEnd, hfree_fr, hfree_cf, cv', cf_eta, frz_u, shC_dec, dC, T23, T28, T25, hfree_lu, hfree_l0, row0, row1, row2, row3, row4, row5, shI_dec, shN_dec, shB_dec, shM_dec, dI, dN, dB, dM, dU, dU_map, iv, bv, u, ms, ctx_T, ctx_C, ctx_P, T4, T3, T26, Option.bind_some, Option.bind_none, Option.map_some, List.length_map, List.length_set, String.reduceBEq, Int.toNat_natCast, Bool.true_beq, Bool.false_beq, T24, shF_dec, dF, fr_eta, ev1, ev2, implies_true, undef, stepP, dynCall, ↓condE_t, ↓condE_f, ↓guardE_tt, ↓guardE_ff, ↓guardE_tf, ↓guardE_ft, frzDeep, deepArgs, deepArg, resB, cv, stepB, stepE, callD, tabD, snapD, snap1, snapC, snapId, snapIds, guardB, guardC, dstAt, aopR, one, pre, binR, intOpR, shiftOpR, unR, argFrm, evo, lkp, hlk, lenOf, asLst, idOf, bndA, srcOk, ofVal, ofCells, setCells, fillA, setElems, fieldsOf, fieldsEq, scalEq, isEq, AV.wr, AV.ok1, TK.agg, frz, frzs, frzA, frzArg, frzArgs, subA, subL, sub1, kp, kh, accOf, List.replicate, Nat.reduceAdd, Nat.reduceSub, Nat.reduceMul, Nat.reduceEqDiff, Nat.reduceLT, Nat.reduceLeDiff, Nat.reduceBEq, reduceIte, reduceCtorEq, eq_self, ne_eq, Int.reduceToNat, Int.reduceLT, Int.reduceLE, Int.reduceGT, Int.reduceGE, Int.reduceBEq, Int.reduceBNe, Int.reduceEq, Int.reduceNe]
      all_goals ((repeat' apply And.intro) <;> first | rfl | omega | (show entryOk _ _ _ _ _ = true; kernel_rfl) | (show pivotOk _ _ = true; kernel_rfl) | decide)
end Go.Vai
/- What the injector has. -/
namespace Go.Vai
open Go.RowKit Go.Proofs
set_option linter.unusedSimpArgs false
set_option linter.unusedVariables false
set_option maxHeartbeats 4000000
set_option maxRecDepth 100000

def rowsDB : List Row := [
  (17, row3 shC shM shF fun c m f => some (sv (qStep c m f))), 
  (18, row3 shC shM shF fun c m f => some (sv (rqStep c m f)))] ++ rowsDA
theorem rowsDB_ok : ∀ p ∈ rowsDB, RowOk Try.prog p := fun p h => by
  simp only [rowsDB, List.mem_append, List.mem_cons, List.not_mem_nil, or_false, false_or, or_assoc] at h
  rcases h with rfl | rfl | h
  · exact ok_row3 (enters_of Try.func17 (by decide) rfl) fun c m f r _ g _ e => by cases e; exact qstep_pure c m f (shM_got g)
  · exact ok_row3 (enters_of Try.func18 (by decide) rfl) fun c m f r _ g _ e => by cases e; exact rqstep_pure c m f (shM_got g)
  · exact rowsDA_ok p h
theorem okDB : (ctx Try.prog rowsDB).ok := rows_ok rowsDB_ok
theorem DB_17 : tabC rowsDB 17 = row3 shC shM shF fun c m f => some (sv (qStep c m f)) := rfl
theorem DB_18 : tabC rowsDB 18 = row3 shC shM shF fun c m f => some (sv (rqStep c m f)) := rfl
theorem DB_60 : tabC rowsDB 60 = fun _ => none := rfl
theorem DB_94 : tabC rowsDB 94 = fun _ => none := rfl
theorem DB_47 : tabC rowsDB 47 = row2 shC shN fun c x => if 1 ≤ c.i ∧ c.i ≤ 16 then some (u (qFull c x)) else none := rfl
theorem DB_96 : tabC rowsDB 96 = freeRow := rfl
theorem DB_23 : tabC rowsDB 23 = row4 shC shM shF shI fun c m f op => some (bv (goesE c m f op)) := rfl
theorem DB_52 : tabC rowsDB 52 = row4 shC shM shF shI fun c m f op => some (bv (goesE c m f op)) := rfl
theorem DB_26 : tabC rowsDB 26 = row2 shC shM fun c m => some (iv (eLen c m)) := rfl
theorem DB_61 : tabC rowsDB 61 = row2 shC shM fun c m => some (iv (eLen c m)) := rfl
theorem DB_62 : tabC rowsDB 62 = fun _ => none := rfl
theorem DB_67 : tabC rowsDB 67 = fun _ => none := rfl
theorem DB_68 : tabC rowsDB 68 = fun _ => none := rfl
theorem DB_69 : tabC rowsDB 69 = fun _ => none := rfl
theorem DB_70 : tabC rowsDB 70 = fun _ => none := rfl
theorem DB_71 : tabC rowsDB 71 = fun _ => none := rfl
theorem DB_72 : tabC rowsDB 72 = fun _ => none := rfl
theorem DB_44 : tabC rowsDB 44 = row1 shM fun m => some (ms m) := rfl
theorem DB_57 : tabC rowsDB 57 = row4 shM shI shN shN fun m i v w => some (.tup [ms (mCas m i v w), bv (mCasB m i v)]) := rfl
theorem DB_45 : tabC rowsDB 45 = row2 shM shI fun m i => some (u (mLoad m i)) := rfl
theorem DB_51 : tabC rowsDB 51 = row3 shM shI shN fun m i v => some (ms (mStore m i v)) := rfl
theorem DB_49 : tabC rowsDB 49 = row4 shM shI shN shN fun m i v w => some (.tup [ms (mCas m i v w), bv (mCasB m i v)]) := rfl
theorem DB_53 : tabC rowsDB 53 = row2 shM shI fun m i => some (u (mLoad m i)) := rfl
theorem DB_21 : tabC rowsDB 21 = row2 shM shM fun a b => some (bv (decide (a = b))) := rfl
theorem DB_59 : tabC rowsDB 59 = row3 shM shI shN fun m i v => some (ms (mStore m i v)) := rfl
theorem DB_66 : tabC rowsDB 66 = row1 shC fun c => some (iv (lSize c)) := rfl
theorem DB_88 : tabC rowsDB 88 = row1 shC fun c => some (iv (lSize c)) := rfl
theorem DB_27 : tabC rowsDB 27 = row1 shC fun c => some (bv (mayC c)) := rfl
theorem DB_46 : tabC rowsDB 46 = row2 shN shN fun a b => some (iv (far a b)) := rfl
theorem DB_83 : tabC rowsDB 83 = row1 shC fun c => some (bv (mayC c)) := rfl
theorem DB_55 : tabC rowsDB 55 = row2 shN shN fun a b => some (iv (far a b)) := rfl
theorem DB_95 : tabC rowsDB 95 = row2 shC shI fun c w => if mayC c = true ∧ 0 ≤ w ∧ w ≤ 8 then some (iv (lBase c w)) else none := rfl
theorem DB_63 : tabC rowsDB 63 = fun _ => none := rfl
theorem DB_65 : tabC rowsDB 65 = fun _ => none := rfl
theorem DB_86 : tabC rowsDB 86 = row1 shF fun f => some (bv (f.res != 0)) := rfl
theorem DB_56 : tabC rowsDB 56 = row3 shF shI shN fun f r v => some (fv (fEnd f r v)) := rfl
theorem DB_22 : tabC rowsDB 22 = row2 shM shM fun a b => some (bv (decide (a = b))) := rfl
theorem DB_25 : tabC rowsDB 25 = row3 shI shI shN fun o w v => some (fv (fBegin o w v)) := rfl
theorem DB_31 : tabC rowsDB 31 = row1 shF fun f => some (bv (f.res != 0)) := rfl
theorem DB_48 : tabC rowsDB 48 = row3 shF shI shN fun f r v => some (fv (fEnd f r v)) := rfl
theorem DB_74 : tabC rowsDB 74 = fun _ => none := rfl
theorem DB_75 : tabC rowsDB 75 = fun _ => none := rfl
theorem DB_76 : tabC rowsDB 76 = fun _ => none := rfl
theorem DB_73 : tabC rowsDB 73 = fun _ => none := rfl
theorem DB_24 : tabC rowsDB 24 = row2 shC shN fun c x => some (iv (eSeq c x)) := rfl
theorem DB_50 : tabC rowsDB 50 = row2 shC shN fun c x => some (iv (eVal c x)) := rfl
theorem DB_54 : tabC rowsDB 54 = row2 shC shN fun c x => some (iv (eSeq c x)) := rfl
theorem DB_58 : tabC rowsDB 58 = row2 shC shN fun c x => some (iv (eVal c x)) := rfl
theorem DB_all : type_of% (And.intro DB_17 <| And.intro DB_18 <| And.intro DB_60 <| And.intro DB_94 <| And.intro DB_47 <| And.intro DB_96 <| And.intro DB_23 <| And.intro DB_52 <| And.intro DB_26 <| And.intro DB_61 <| And.intro DB_62 <| And.intro DB_67 <| And.intro DB_68 <| And.intro DB_69 <| And.intro DB_70 <| And.intro DB_71 <| And.intro DB_72 <| And.intro DB_44 <| And.intro DB_57 <| And.intro DB_45 <| And.intro DB_51 <| And.intro DB_49 <| And.intro DB_53 <| And.intro DB_21 <| And.intro DB_59 <| And.intro DB_66 <| And.intro DB_88 <| And.intro DB_27 <| And.intro DB_46 <| And.intro DB_83 <| And.intro DB_55 <| And.intro DB_95 <| And.intro DB_63 <| And.intro DB_65 <| And.intro DB_86 <| And.intro DB_56 <| And.intro DB_22 <| And.intro DB_25 <| And.intro DB_31 <| And.intro DB_48 <| And.intro DB_74 <| And.intro DB_75 <| And.intro DB_76 <| And.intro DB_73 <| And.intro DB_24 <| And.intro DB_50 <| And.intro DB_54 <| DB_58) := And.intro DB_17 <| And.intro DB_18 <| And.intro DB_60 <| And.intro DB_94 <| And.intro DB_47 <| And.intro DB_96 <| And.intro DB_23 <| And.intro DB_52 <| And.intro DB_26 <| And.intro DB_61 <| And.intro DB_62 <| And.intro DB_67 <| And.intro DB_68 <| And.intro DB_69 <| And.intro DB_70 <| And.intro DB_71 <| And.intro DB_72 <| And.intro DB_44 <| And.intro DB_57 <| And.intro DB_45 <| And.intro DB_51 <| And.intro DB_49 <| And.intro DB_53 <| And.intro DB_21 <| And.intro DB_59 <| And.intro DB_66 <| And.intro DB_88 <| And.intro DB_27 <| And.intro DB_46 <| And.intro DB_83 <| And.intro DB_55 <| And.intro DB_95 <| And.intro DB_63 <| And.intro DB_65 <| And.intro DB_86 <| And.intro DB_56 <| And.intro DB_22 <| And.intro DB_25 <| And.intro DB_31 <| And.intro DB_48 <| And.intro DB_74 <| And.intro DB_75 <| And.intro DB_76 <| And.intro DB_73 <| And.intro DB_24 <| And.intro DB_50 <| And.intro DB_54 <| DB_58

def lv (x : List Int × Bool) : AV := .tup [ms x.1, bv x.2]

theorem qlist_pure (c : Cf) (m : List Int) (hm : m.length ≤ 1000) : PureC Try.prog 19 [cv' c, ms m] (lv (qList c m)) := by
  refine pure_top okDB 2 Try.func19 rfl (by show 2 ≤ _; decide) ?_
  by_cases h1 : eLen c m < 0
  · have e : qList c m = ([], false) := if_pos (.inl h1)
    rw [e]
    simp only [Try.f19, inl, DB_all, hm, h1, lv, sv, fv, top_T, top_C, top_P, inR_T, inR_C, inR_P, iter_T, iter_C, iter_P, iter_Y, r_rangeF, r_yld, r_start, r_rkN, r_rkR, r_rkE, r_endR, r_endM, r_endJ0, r_endJ2, r_endJ3, r_endJ5, r_endJ7, zipF, hfree_fr, hfree_cf, cv', cf_eta, frz_u, shC_dec, dC, T23, T28, T25, hfree_lu, hfree_l0, row0, row1, row2, row3, row4, row5, shI_dec, shN_dec, shB_dec, shM_dec, dI, dN, dB, dM, dU, dU_map, iv, bv, u, ms, ctx_T, ctx_C, ctx_P, T4, T3, T26, Option.bind_some, Option.bind_none, Option.map_some, List.length_map, List.length_set, String.reduceBEq, Int.toNat_natCast, Bool.true_beq, Bool.false_beq, T24, shF_dec, dF, fr_eta, Int.cast_ofNat_Int, Int.reduceSub, Int.reduceAdd, Int.reduceNeg, ev1, ev2, implies_true, undef, stepP, dynCall, ↓condE_t, ↓condE_f, ↓guardE_tt, ↓guardE_ff, ↓guardE_tf, ↓guardE_ft, frzDeep, deepArgs, deepArg, resB, cv, stepB, stepE, callD, tabD, snapD, snap1, snapC, snapId, snapIds, guardB, guardC, dstAt, aopR, one, pre, binR, intOpR, shiftOpR, unR, argFrm, evo, lkp, hlk, lenOf, asLst, idOf, bndA, srcOk, ofVal, ofCells, setCells, fillA, setElems, fieldsOf, fieldsEq, scalEq, isEq, AV.wr, AV.ok1, TK.agg, frz, frzs, frzA, frzArg, frzArgs, subA, subL, sub1, kp, kh, accOf, List.replicate, Nat.reduceAdd, Nat.reduceSub, Nat.reduceMul, Nat.reduceEqDiff, Nat.reduceLT, Nat.reduceLeDiff, Nat.reduceBEq, reduceIte, reduceCtorEq, eq_self, ne_eq, Int.reduceToNat, Int.reduceLT, Int.reduceLE, Int.reduceGT, Int.reduceGE, Int.reduceBEq, Int.reduceBNe, Int.reduceEq, Int.reduceNe]
    all_goals ((repeat' apply And.intro) <;> first | rfl | omega | (show entryOk _ _ _ _ _ = true; kernel_rfl) | (show pivotOk _ _ = true; kernel_rfl) | decide)
  · by_cases h2 : eLen c m > c.i
    · have e : qList c m = ([], false) := if_pos (.inr h2)
      rw [e]
      simp only [Try.f19, inl, DB_all, hm, h1, h2, lv, sv, fv, top_T, top_C, top_P, inR_T, inR_C, inR_P, iter_T, iter_C, iter_P, iter_Y, r_rangeF, r_yld, r_start, r_rkN, r_rkR, r_rkE, r_endR, r_endM, r_endJ0, r_endJ2, r_endJ3, r_endJ5, r_endJ7, zipF, hfree_fr, hfree_cf, cv', cf_eta, frz_u, shC_dec, dC, T23, T28, T25, hfree_lu, hfree_l0, row0, row1, row2, row3, row4, row5, shI_dec, shN_dec, shB_dec, shM_dec, dI, dN, dB, dM, dU, dU_map, iv, bv, u, ms, ctx_T, ctx_C, ctx_P, T4, T3, T26, Option.bind_some, Option.bind_none, Option.map_some, List.length_map, List.length_set, String.reduceBEq, Int.toNat_natCast, Bool.true_beq, Bool.false_beq, T24, shF_dec, dF, fr_eta, Int.cast_ofNat_Int, Int.reduceSub, Int.reduceAdd, Int.reduceNeg, ev1, ev2, implies_true, undef, stepP, dynCall, ↓condE_t, ↓condE_f, ↓guardE_tt, ↓guardE_ff, ↓guardE_tf, ↓guardE_ft, frzDeep, deepArgs, deepArg, resB, cv, stepB, stepE, callD, tabD, snapD, snap1, snapC, snapId, snapIds, guardB, guardC, dstAt, aopR, one, pre, binR, intOpR, shiftOpR, unR, argFrm, evo, lkp, hlk, lenOf, asLst, idOf, bndA, srcOk, ofVal, ofCells, setCells, fillA, setElems, fieldsOf, fieldsEq, scalEq, isEq, AV.wr, AV.ok1, TK.agg, frz, frzs, frzA, frzArg, frzArgs, subA, subL, sub1, kp, kh, accOf, List.replicate, Nat.reduceAdd, Nat.reduceSub, Nat.reduceMul, Nat.reduceEqDiff, Nat.reduceLT, Nat.reduceLeDiff, Nat.reduceBEq, reduceIte, reduceCtorEq, eq_self, ne_eq, Int.reduceToNat, Int.reduceLT, Int.reduceLE, Int.reduceGT, Int.reduceGE, Int.reduceBEq, Int.reduceBNe, Int.reduceEq, Int.reduceNe]
      all_goals ((repeat' apply And.intro) <;> first | rfl | omega | (show entryOk _ _ _ _ _ = true; kernel_rfl) | (show pivotOk _ _ = true; kernel_rfl) | decide)
    · have hmay : mayC c = true := by
        by_cases e : mayC c = true
        · exact e
        · exfalso; apply h1; simp [eLen, e]
      simp only [Try.f19, Try.func60, Try.f60, inl, DB_all, hm, h1, h2, sv, fv, top_T, top_C, top_P, inR_T, inR_C, inR_P, iter_T, iter_C, iter_P, iter_Y, r_rangeF, r_yld, r_start, r_rkN, r_rkR, r_rkE, r_endR, r_endM, r_endJ0, r_endJ2, r_endJ3, r_endJ5, r_endJ7, zipF, hfree_fr, hfree_cf, cv', cf_eta, frz_u, shC_dec, dC, T23, T28, T25, hfree_lu, hfree_l0, row0, row1, row2, row3, row4, row5, shI_dec, shN_dec, shB_dec, shM_dec, dI, dN, dB, dM, dU, dU_map, iv, bv, u, ms, ctx_T, ctx_C, ctx_P, T4, T3, T26, Option.bind_some, Option.bind_none, Option.map_some, List.length_map, List.length_set, String.reduceBEq, Int.toNat_natCast, Bool.true_beq, Bool.false_beq, T24, shF_dec, dF, fr_eta, Int.cast_ofNat_Int, Int.reduceSub, Int.reduceAdd, Int.reduceNeg, ev1, ev2, implies_true, undef, stepP, dynCall, ↓condE_t, ↓condE_f, ↓guardE_tt, ↓guardE_ff, ↓guardE_tf, ↓guardE_ft, frzDeep, deepArgs, deepArg, resB, cv, stepB, stepE, callD, tabD, snapD, snap1, snapC, snapId, snapIds, guardB, guardC, dstAt, aopR, one, pre, binR, intOpR, shiftOpR, unR, argFrm, evo, lkp, hlk, lenOf, asLst, idOf, bndA, srcOk, ofVal, ofCells, setCells, fillA, setElems, fieldsOf, fieldsEq, scalEq, isEq, AV.wr, AV.ok1, TK.agg, frz, frzs, frzA, frzArg, frzArgs, subA, subL, sub1, kp, kh, accOf, List.replicate, Nat.reduceAdd, Nat.reduceSub, Nat.reduceMul, Nat.reduceEqDiff, Nat.reduceLT, Nat.reduceLeDiff, Nat.reduceBEq, reduceIte, reduceCtorEq, eq_self, ne_eq, Int.reduceToNat, Int.reduceLT, Int.reduceLE, Int.reduceGT, Int.reduceGE, Int.reduceBEq, Int.reduceBNe, Int.reduceEq, Int.reduceNe]
      refine WP.virtB 16 26 1 rfl rfl (by decide) ?_ (im := (top_core okDB).im)
      refine WP.ranges okDB 1 (g := 94) rfl (enters_of Try.func94 (by decide) rfl) Try.func94 rfl (by decide) (by rfl) (by rfl) ?_
      intro Y hI hYF hYT hYC hYY
      have hu : ∀ x, IntKind.wrap .u64 x = wrapU x := fun _ => rfl
      simp only [Try.f94, inl, DB_all, hYT, hYC, hm, hu, lv, sv, fv, top_T, top_C, top_P, inR_T, inR_C, inR_P, iter_T, iter_C, iter_P, iter_Y, r_rangeF, r_yld, r_start, r_rkN, r_rkR, r_rkE, r_endR, r_endM, r_endJ0, r_endJ2, r_endJ3, r_endJ5, r_endJ7, zipF, hfree_fr, hfree_cf, cv', cf_eta, frz_u, shC_dec, dC, T23, T28, T25, hfree_lu, hfree_l0, row0, row1, row2, row3, row4, row5, shI_dec, shN_dec, shB_dec, shM_dec, dI, dN, dB, dM, dU, dU_map, iv, bv, u, ms, ctx_T, ctx_C, ctx_P, T4, T3, T26, Option.bind_some, Option.bind_none, Option.map_some, List.length_map, List.length_set, String.reduceBEq, Int.toNat_natCast, Bool.true_beq, Bool.false_beq, T24, shF_dec, dF, fr_eta, Int.cast_ofNat_Int, Int.reduceSub, Int.reduceAdd, Int.reduceNeg, ev1, ev2, implies_true, undef, stepP, dynCall, ↓condE_t, ↓condE_f, ↓guardE_tt, ↓guardE_ff, ↓guardE_tf, ↓guardE_ft, frzDeep, deepArgs, deepArg, resB, cv, stepB, stepE, callD, tabD, snapD, snap1, snapC, snapId, snapIds, guardB, guardC, dstAt, aopR, one, pre, binR, intOpR, shiftOpR, unR, argFrm, evo, lkp, hlk, lenOf, asLst, idOf, bndA, srcOk, ofVal, ofCells, setCells, fillA, setElems, fieldsOf, fieldsEq, scalEq, isEq, AV.wr, AV.ok1, TK.agg, frz, frzs, frzA, frzArg, frzArgs, subA, subL, sub1, kp, kh, accOf, List.replicate, Nat.reduceAdd, Nat.reduceSub, Nat.reduceMul, Nat.reduceEqDiff, Nat.reduceLT, Nat.reduceLeDiff, Nat.reduceBEq, reduceIte, reduceCtorEq, eq_self, ne_eq, Int.reduceToNat, Int.reduceLT, Int.reduceLE, Int.reduceGT, Int.reduceGE, Int.reduceBEq, Int.reduceBNe, Int.reduceEq, Int.reduceNe]
      have hi := (mayC_iff.1 hmay).2.2.2
      have hd : wrapU c.i = c.i := by rw [wrapU_eq]; omega
      have hii : (1 ≤ c.i ∧ c.i ≤ 16) = True := eq_true ⟨hi.1, hi.2.1⟩
      refine WP.loop (ι := Nat × Nat) (fun i => 20 - i.1) (fun i => (i.1 : Int) ≤ c.i ∧ qAll c m i.1 = true ∧ (i.2 = 27 ∨ 36 ≤ i.2)) (n := 32)
        (fr := fun i => [(6, u (qX (mLoad m 4) i.1)), (5, u (mLoad m 5)), (4, u (mLoad m 4)), (2, .ptr 22 0 0), (1, .ptr 23 0 0), (0, .yld 28)])
        (hp := fun i => [(28, some (gBlk 0)), (16, some ⟨false, 24, 1, [.arr i.2 0 (qOut c m i.1).length]⟩), (i.2, some ⟨false, 26, 1, (qOut c m i.1).map u⟩), (23, some ⟨false, 25, 1, [ms m]⟩), (22, some ⟨false, 23, 4, [cv' c]⟩),
          (17, some ⟨false, 4, 1, [bv true]⟩), (1, some ⟨false, 25, 1, [ms m]⟩), (0, some ⟨false, 23, 4, [cv' c]⟩)]) (N := 36) ?_ (0, 27) ⟨by dsimp only; omega, rfl, .inl rfl⟩ rfl (by show 36 ≤ 37; decide) ⟨rfl, rfl, rfl, rfl, rfl, rfl, trivial⟩ ⟨rfl, rfl, rfl, rfl, rfl, rfl, rfl, rfl, trivial⟩ (im := hI.im)
      rintro ⟨k, id⟩ nx ⟨hk, hall, hj⟩ hN hid
      dsimp only at hk hall hj hN hid ⊢
      have hidn : id < nx := by
        rcases hj with e | e
        · omega
        · exact hid id ⟨false, 26, 1, (qOut c m k).map u⟩ (by
            simp only [hlk, show Nat.beq id 28 = false from by rw [← Bool.not_eq_true, Nat.beq_eq]; omega, show Nat.beq id 16 = false from by rw [← Bool.not_eq_true, Nat.beq_eq]; omega, nb_self])
      have bb : ∀ j : Nat, j < 27 ∨ j = 28 → Nat.beq j id = false ∧ Nat.beq id j = false := by
        intro j hjj
        constructor <;> (rw [← Bool.not_eq_true, Nat.beq_eq]; omega)
      obtain ⟨b0, d0⟩ := bb 0 (by omega)
      obtain ⟨b1, d1⟩ := bb 1 (by omega)
      obtain ⟨b2, d2⟩ := bb 16 (by omega)
      obtain ⟨b3, d3⟩ := bb 17 (by omega)
      obtain ⟨b4, d4⟩ := bb 22 (by omega)
      obtain ⟨b5, d5⟩ := bb 23 (by omega)
      obtain ⟨b6, d6⟩ := bb 28 (by omega)
      have n0 : 0 < nx := by omega
      have n1 : 1 < nx := by omega
      have n2 : 16 < nx := by omega
      have n3 : 17 < nx := by omega
      have n4 : 22 < nx := by omega
      have n5 : 23 < nx := by omega
      have n6 : 28 < nx := by omega
      have n7 := hidn
      have hlen : (qOut c m k).length ≤ 1000 := by have := len_qOut c m k; omega
      have hcap : ((qOut c m k).length + 1) * 8 ≤ 140737488355328 := by have := len_qOut c m k; omega
      have hle : (qOut c m k).length ≤ (qOut c m k).length := Nat.le_refl _
      have hs : wrapU (qX (mLoad m 4) k - mLoad m 4) = (k : Int) := qX_sub _ (by omega)
      refine WP.ofX hI hYF (by rfl) ?_
      by_cases hkc : (k : Int) < c.i
      · by_cases hh : (k : Int) < wrapU (mLoad m 5 - mLoad m 4)
        · cases ho : (mLoad m (eSeq c (qX (mLoad m 4) k)) == qFull c (qX (mLoad m 4) k)) with
          | true =>
            simp only [DB_all, hYT, hYC, hYY, r_yld, hm, hu, hd, hii, hlen, hcap, hle, hs, hkc, hh, ho, b0, b1, b2, b3, b4, b5, b6, d0, d1, d2, d3, d4, d5, d6, n0, n1, n2, n3, n4, n5, n6, n7, snoc_u, take_u, len_snoc, take_snoc, lv, sv, fv, nb_self, nb_same, nb_l0, nb_r0, nb_lt, nb_gt, nb_lt0, nb_gt0, Nat.add_assoc, top_T, top_C, top_P, inR_T, inR_C, inR_P, iter_T, iter_C, iter_P, iter_Y, r_rangeF, r_yld, r_start, r_rkN, r_rkR, r_rkE, r_endR, r_endM, r_endJ0, r_endJ2, r_endJ3, r_endJ5, r_endJ7, zipF, hfree_fr, hfree_cf, cv', cf_eta, frz_u, shC_dec, dC, T23, T28, T25, hfree_lu, hfree_l0, row0, row1, row2, row3, row4, row5, shI_dec, shN_dec, shB_dec, shM_dec, dI, dN, dB, dM, dU, dU_map, iv, bv, u, ms, ctx_T, ctx_C, ctx_P, T4, T3, T26, Option.bind_some, Option.bind_none, Option.map_some, List.length_map, List.length_set, String.reduceBEq, Int.toNat_natCast, Bool.true_beq, Bool.false_beq, T24, shF_dec, dF, fr_eta, Int.cast_ofNat_Int, Int.reduceSub, Int.reduceAdd, Int.reduceNeg, ev1, ev2, implies_true, undef, stepP, dynCall, ↓condE_t, ↓condE_f, ↓guardE_tt, ↓guardE_ff, ↓guardE_tf, ↓guardE_ft, frzDeep, deepArgs, deepArg, resB, cv, stepB, stepE, callD, tabD, snapD, snap1, snapC, snapId, snapIds, guardB, guardC, dstAt, aopR, one, pre, binR, intOpR, shiftOpR, unR, argFrm, evo, lkp, hlk, lenOf, asLst, idOf, bndA, srcOk, ofVal, ofCells, setCells, fillA, setElems, fieldsOf, fieldsEq, scalEq, isEq, AV.wr, AV.ok1, TK.agg, frz, frzs, frzA, frzArg, frzArgs, subA, subL, sub1, kp, kh, accOf, List.replicate, Nat.reduceAdd, Nat.reduceSub, Nat.reduceMul, Nat.reduceEqDiff, Nat.reduceLT, Nat.reduceLeDiff, Nat.reduceBEq, reduceIte, reduceCtorEq, eq_self, ne_eq, Int.reduceToNat, Int.reduceLT, Int.reduceLE, Int.reduceGT, Int.reduceGE, Int.reduceBEq, Int.reduceBNe, Int.reduceEq, Int.reduceNe]
            have hO : qOut c m (k + 1) = qOut c m k ++ [qVal c m k] := by rw [qOut, if_pos (show qHas m k = true by simpa [qHas] using hh)]
            have hA : qAll c m (k + 1) = true := by rw [qAll, hall, qOk, qWant, if_pos (show qHas m k = true by simpa [qHas] using hh)]; exact ho
            intro l
            repeat' apply And.intro
            any_goals (show entryOk _ _ _ _ _ = true; (repeat (first | exact entryOk_nil _ _ _ _ | (refine entryOk_step ?h ?_; case h => (first | (apply Or.inr; constructor <;> simp [meets] <;> omega; done) | (apply Or.inl; show anc _ _ _ _ = true; kernel_rfl))))))
            refine ⟨(k + 1, nx + 44), by dsimp only; omega, ⟨by dsimp only; omega, hA, .inr (by dsimp only; omega)⟩, rfl, ?_⟩
            dsimp only
            rw [hO, len_snoc]
            refine ⟨rfl, ?_⟩
            simp only [b0, b1, b2, b3, b4, b5, b6, d0, d1, d2, d3, d4, d5, d6, n0, n1, n2, n3, n4, n5, n6, n7, nb_self, nb_same, nb_l0, nb_r0, nb_lt, nb_gt, nb_lt0, nb_gt0, Nat.add_assoc]
            rfl
          | false =>
            simp only [DB_all, hYT, hYC, hYY, r_yld, hm, hu, hd, hii, hlen, hcap, hle, hs, hkc, hh, ho, b0, b1, b2, b3, b4, b5, b6, d0, d1, d2, d3, d4, d5, d6, n0, n1, n2, n3, n4, n5, n6, n7, snoc_u, take_u, len_snoc, take_snoc, lv, sv, fv, nb_self, nb_same, nb_l0, nb_r0, nb_lt, nb_gt, nb_lt0, nb_gt0, Nat.add_assoc, top_T, top_C, top_P, inR_T, inR_C, inR_P, iter_T, iter_C, iter_P, iter_Y, r_rangeF, r_yld, r_start, r_rkN, r_rkR, r_rkE, r_endR, r_endM, r_endJ0, r_endJ2, r_endJ3, r_endJ5, r_endJ7, zipF, hfree_fr, hfree_cf, cv', cf_eta, frz_u, shC_dec, dC, T23, T28, T25, hfree_lu, hfree_l0, row0, row1, row2, row3, row4, row5, shI_dec, shN_dec, shB_dec, shM_dec, dI, dN, dB, dM, dU, dU_map, iv, bv, u, ms, ctx_T, ctx_C, ctx_P, T4, T3, T26, Option.bind_some, Option.bind_none, Option.map_some, List.length_map, List.length_set, String.reduceBEq, Int.toNat_natCast, Bool.true_beq, Bool.false_beq, T24, shF_dec, dF, fr_eta, Int.cast_ofNat_Int, Int.reduceSub, Int.reduceAdd, Int.reduceNeg, ev1, ev2, implies_true, undef, stepP, dynCall, ↓condE_t, ↓condE_f, ↓guardE_tt, ↓guardE_ff, ↓guardE_tf, ↓guardE_ft, frzDeep, deepArgs, deepArg, resB, cv, stepB, stepE, callD, tabD, snapD, snap1, snapC, snapId, snapIds, guardB, guardC, dstAt, aopR, one, pre, binR, intOpR, shiftOpR, unR, argFrm, evo, lkp, hlk, lenOf, asLst, idOf, bndA, srcOk, ofVal, ofCells, setCells, fillA, setElems, fieldsOf, fieldsEq, scalEq, isEq, AV.wr, AV.ok1, TK.agg, frz, frzs, frzA, frzArg, frzArgs, subA, subL, sub1, kp, kh, accOf, List.replicate, Nat.reduceAdd, Nat.reduceSub, Nat.reduceMul, Nat.reduceEqDiff, Nat.reduceLT, Nat.reduceLeDiff, Nat.reduceBEq, reduceIte, reduceCtorEq, eq_self, ne_eq, Int.reduceToNat, Int.reduceLT, Int.reduceLE, Int.reduceGT, Int.reduceGE, Int.reduceBEq, Int.reduceBNe, Int.reduceEq, Int.reduceNe]
            have hA : qAll c m (k + 1) = false := by rw [qAll, qOk, qWant, if_pos (show qHas m k = true by simpa [qHas] using hh), ho, Bool.and_false]
            have hQ : qList c m = ([], false) := by rw [qList, if_neg (by omega), if_neg (by rw [qAll_mono hA c.i.toNat (by omega)]; decide)]
            intro l
            rw [hQ]
            refine ⟨?_, rfl, rfl⟩
            (repeat (first | exact entryOk_nil _ _ _ _ | (refine entryOk_step ?h ?_; case h => (first | (apply Or.inr; constructor <;> simp [meets] <;> omega; done) | (apply Or.inl; show anc _ _ _ _ = true; kernel_rfl)))))
        · cases ho : (mLoad m (eSeq c (qX (mLoad m 4) k)) == wrapU (qFull c (qX (mLoad m 4) k) - 1)) with
          | true =>
            simp only [DB_all, hYT, hYC, hYY, r_yld, hm, hu, hd, hii, hlen, hcap, hle, hs, hkc, hh, ho, b0, b1, b2, b3, b4, b5, b6, d0, d1, d2, d3, d4, d5, d6, n0, n1, n2, n3, n4, n5, n6, n7, snoc_u, take_u, len_snoc, take_snoc, lv, sv, fv, nb_self, nb_same, nb_l0, nb_r0, nb_lt, nb_gt, nb_lt0, nb_gt0, Nat.add_assoc, top_T, top_C, top_P, inR_T, inR_C, inR_P, iter_T, iter_C, iter_P, iter_Y, r_rangeF, r_yld, r_start, r_rkN, r_rkR, r_rkE, r_endR, r_endM, r_endJ0, r_endJ2, r_endJ3, r_endJ5, r_endJ7, zipF, hfree_fr, hfree_cf, cv', cf_eta, frz_u, shC_dec, dC, T23, T28, T25, hfree_lu, hfree_l0, row0, row1, row2, row3, row4, row5, shI_dec, shN_dec, shB_dec, shM_dec, dI, dN, dB, dM, dU, dU_map, iv, bv, u, ms, ctx_T, ctx_C, ctx_P, T4, T3, T26, Option.bind_some, Option.bind_none, Option.map_some, List.length_map, List.length_set, String.reduceBEq, Int.toNat_natCast, Bool.true_beq, Bool.false_beq, T24, shF_dec, dF, fr_eta, Int.cast_ofNat_Int, Int.reduceSub, Int.reduceAdd, Int.reduceNeg, ev1, ev2, implies_true, undef, stepP, dynCall, ↓condE_t, ↓condE_f, ↓guardE_tt, ↓guardE_ff, ↓guardE_tf, ↓guardE_ft, frzDeep, deepArgs, deepArg, resB, cv, stepB, stepE, callD, tabD, snapD, snap1, snapC, snapId, snapIds, guardB, guardC, dstAt, aopR, one, pre, binR, intOpR, shiftOpR, unR, argFrm, evo, lkp, hlk, lenOf, asLst, idOf, bndA, srcOk, ofVal, ofCells, setCells, fillA, setElems, fieldsOf, fieldsEq, scalEq, isEq, AV.wr, AV.ok1, TK.agg, frz, frzs, frzA, frzArg, frzArgs, subA, subL, sub1, kp, kh, accOf, List.replicate, Nat.reduceAdd, Nat.reduceSub, Nat.reduceMul, Nat.reduceEqDiff, Nat.reduceLT, Nat.reduceLeDiff, Nat.reduceBEq, reduceIte, reduceCtorEq, eq_self, ne_eq, Int.reduceToNat, Int.reduceLT, Int.reduceLE, Int.reduceGT, Int.reduceGE, Int.reduceBEq, Int.reduceBNe, Int.reduceEq, Int.reduceNe]
            have hO : qOut c m (k + 1) = qOut c m k := by rw [qOut, if_neg (show ¬ qHas m k = true by simpa [qHas] using hh)]
            have hA : qAll c m (k + 1) = true := by rw [qAll, hall, qOk, qWant, if_neg (show ¬ qHas m k = true by simpa [qHas] using hh)]; exact ho
            intro l
            refine ⟨?_, (k + 1, id), by dsimp only; omega, ⟨by dsimp only; omega, hA, hj⟩, rfl, ?_⟩
            · (repeat (first | exact entryOk_nil _ _ _ _ | (refine entryOk_step ?h ?_; case h => (first | (apply Or.inr; constructor <;> simp [meets] <;> omega; done) | (apply Or.inl; show anc _ _ _ _ = true; kernel_rfl)))))
            dsimp only
            rw [hO]
            refine ⟨rfl, ?_⟩
            simp only [b0, b1, b2, b3, b4, b5, b6, d0, d1, d2, d3, d4, d5, d6, n0, n1, n2, n3, n4, n5, n6, n7, nb_self, nb_same, nb_l0, nb_r0, nb_lt, nb_gt, nb_lt0, nb_gt0, Nat.add_assoc]
          | false =>
            simp only [DB_all, hYT, hYC, hYY, r_yld, hm, hu, hd, hii, hlen, hcap, hle, hs, hkc, hh, ho, b0, b1, b2, b3, b4, b5, b6, d0, d1, d2, d3, d4, d5, d6, n0, n1, n2, n3, n4, n5, n6, n7, snoc_u, take_u, len_snoc, take_snoc, lv, sv, fv, nb_self, nb_same, nb_l0, nb_r0, nb_lt, nb_gt, nb_lt0, nb_gt0, Nat.add_assoc, top_T, top_C, top_P, inR_T, inR_C, inR_P, iter_T, iter_C, iter_P, iter_Y, r_rangeF, r_yld, r_start, r_rkN, r_rkR, r_rkE, r_endR, r_endM, r_endJ0, r_endJ2, r_endJ3, r_endJ5, r_endJ7, zipF, hfree_fr, hfree_cf, cv', cf_eta, frz_u, shC_dec, dC, T23, T28, T25, hfree_lu, hfree_l0, row0, row1, row2, row3, row4, row5, shI_dec, shN_dec, shB_dec, shM_dec, dI, dN, dB, dM, dU, dU_map, iv, bv, u, ms, ctx_T, ctx_C, ctx_P, T4, T3, T26, Option.bind_some, Option.bind_none, Option.map_some, List.length_map, List.length_set, String.reduceBEq, Int.toNat_natCast, Bool.true_beq, Bool.false_beq, T24, shF_dec, dF, fr_eta, Int.cast_ofNat_Int, Int.reduceSub, Int.reduceAdd, Int.reduceNeg, ev1, ev2, implies_true, undef, stepP, dynCall, ↓condE_t, ↓condE_f, ↓guardE_tt, ↓guardE_ff, ↓guardE_tf, ↓guardE_ft, frzDeep, deepArgs, deepArg, resB, cv, stepB, stepE, callD, tabD, snapD, snap1, snapC, snapId, snapIds, guardB, guardC, dstAt, aopR, one, pre, binR, intOpR, shiftOpR, unR, argFrm, evo, lkp, hlk, lenOf, asLst, idOf, bndA, srcOk, ofVal, ofCells, setCells, fillA, setElems, fieldsOf, fieldsEq, scalEq, isEq, AV.wr, AV.ok1, TK.agg, frz, frzs, frzA, frzArg, frzArgs, subA, subL, sub1, kp, kh, accOf, List.replicate, Nat.reduceAdd, Nat.reduceSub, Nat.reduceMul, Nat.reduceEqDiff, Nat.reduceLT, Nat.reduceLeDiff, Nat.reduceBEq, reduceIte, reduceCtorEq, eq_self, ne_eq, Int.reduceToNat, Int.reduceLT, Int.reduceLE, Int.reduceGT, Int.reduceGE, Int.reduceBEq, Int.reduceBNe, Int.reduceEq, Int.reduceNe]
            have hA : qAll c m (k + 1) = false := by rw [qAll, qOk, qWant, if_neg (show ¬ qHas m k = true by simpa [qHas] using hh), ho, Bool.and_false]
            have hQ : qList c m = ([], false) := by rw [qList, if_neg (by omega), if_neg (by rw [qAll_mono hA c.i.toNat (by omega)]; decide)]
            intro l
            rw [hQ]
            refine ⟨?_, rfl, rfl⟩
            (repeat (first | exact entryOk_nil _ _ _ _ | (refine entryOk_step ?h ?_; case h => (first | (apply Or.inr; constructor <;> simp [meets] <;> omega; done) | (apply Or.inl; show anc _ _ _ _ = true; kernel_rfl)))))
      · simp only [DB_all, hYT, hYC, hYY, r_yld, hm, hu, hd, hii, hlen, hcap, hle, hs, hkc, b0, b1, b2, b3, b4, b5, b6, d0, d1, d2, d3, d4, d5, d6, n0, n1, n2, n3, n4, n5, n6, n7, snoc_u, take_u, len_snoc, take_snoc, lv, sv, fv, nb_self, nb_same, nb_l0, nb_r0, nb_lt, nb_gt, nb_lt0, nb_gt0, Nat.add_assoc, top_T, top_C, top_P, inR_T, inR_C, inR_P, iter_T, iter_C, iter_P, iter_Y, r_rangeF, r_yld, r_start, r_rkN, r_rkR, r_rkE, r_endR, r_endM, r_endJ0, r_endJ2, r_endJ3, r_endJ5, r_endJ7, zipF, hfree_fr, hfree_cf, cv', cf_eta, frz_u, shC_dec, dC, T23, T28, T25, hfree_lu, hfree_l0, row0, row1, row2, row3, row4, row5, shI_dec, shN_dec, shB_dec, shM_dec, dI, dN, dB, dM, dU, dU_map, iv, bv, u, ms, ctx_T, ctx_C, ctx_P, T4, T3, T26, Option.bind_some, Option.bind_none, Option.map_some, List.length_map, List.length_set, String.reduceBEq, Int.toNat_natCast, Bool.true_beq, Bool.false_beq, T24, shF_dec, dF, fr_eta, Int.cast_ofNat_Int, Int.reduceSub, Int.reduceAdd, Int.reduceNeg, ev1, ev2, implies_true, undef, stepP, dynCall, ↓condE_t, ↓condE_f, ↓guardE_tt, ↓guardE_ff, ↓guardE_tf, ↓guardE_ft, frzDeep, deepArgs, deepArg, resB, cv, stepB, stepE, callD, tabD, snapD, snap1, snapC, snapId, snapIds, guardB, guardC, dstAt, aopR, one, pre, binR, intOpR, shiftOpR, unR, argFrm, evo, lkp, hlk, lenOf, asLst, idOf, bndA, srcOk, ofVal, ofCells, setCells, fillA, setElems, fieldsOf, fieldsEq, scalEq, isEq, AV.wr, AV.ok1, TK.agg, frz, frzs, frzA, frzArg, frzArgs, subA, subL, sub1, kp, kh, accOf, List.replicate, Nat.reduceAdd, Nat.reduceSub, Nat.reduceMul, Nat.reduceEqDiff, Nat.reduceLT, Nat.reduceLeDiff, Nat.reduceBEq, reduceIte, reduceCtorEq, eq_self, ne_eq, Int.reduceToNat, Int.reduceLT, Int.reduceLE, Int.reduceGT, Int.reduceGE, Int.reduceBEq, Int.reduceBNe, Int.reduceEq, Int.reduceNe]
        have hkk : k = c.i.toNat := by omega
        have hQ : qList c m = (qOut c m k, true) := by rw [qList, if_neg (by omega), ← hkk, if_pos hall]
        rw [hQ]
        exact ⟨of_eq_true (hf_u _), rfl, rfl⟩
end Go.Vai
/- What the injector has, by the document; the table; the chapter's example. -/
namespace Go.Vai
open Go.RowKit Go.Proofs
set_option linter.unusedSimpArgs false
set_option linter.unusedVariables false
set_option maxHeartbeats 4000000
set_option maxRecDepth 100000

theorem rqAll_mono {c : Cf} {m : List Int} {k : Nat} (h : rqAll c m k = false) : ∀ j, k ≤ j → rqAll c m j = false
  | 0, hj => by
    have : k = 0 := by omega
    subst this; exact h
  | j + 1, hj => by
    by_cases e : k = j + 1
    · subst e; exact h
    · have := rqAll_mono h j (by omega)
      simp [rqAll, this]

theorem rqlist_pure (c : Cf) (m : List Int) (hm : m.length ≤ 1000) : PureC Try.prog 20 [cv' c, ms m] (lv (rqList c m)) := by
  refine pure_sub okDB 1 Try.func20 rfl (by show 2 ≤ _; decide) ?_
  by_cases h1 : eLen c m < 0
  · have e : rqList c m = ([], false) := if_pos (.inl h1)
    rw [e]
    simp only [Try.f20, inl, DB_all, hm, h1, lv, sv, fv, hfree_fr, hfree_cf, cv', cf_eta, frz_u, shC_dec, dC, T23, T28, T25, hfree_lu, hfree_l0, row0, row1, row2, row3, row4, row5, shI_dec, shN_dec, shB_dec, shM_dec, dI, dN, dB, dM, dU, dU_map, iv, bv, u, ms, ctx_T, ctx_C, ctx_P, T4, T3, T26, Option.bind_some, Option.bind_none, Option.map_some, List.length_map, List.length_set, String.reduceBEq, Int.toNat_natCast, Bool.true_beq, Bool.false_beq, T24, shF_dec, dF, fr_eta, Int.cast_ofNat_Int, Int.reduceSub, Int.reduceAdd, Int.reduceNeg, ev1, ev2, implies_true, undef, stepP, dynCall, ↓condE_t, ↓condE_f, ↓guardE_tt, ↓guardE_ff, ↓guardE_tf, ↓guardE_ft, frzDeep, deepArgs, deepArg, resB, cv, stepB, stepE, callD, tabD, snapD, snap1, snapC, snapId, snapIds, guardB, guardC, dstAt, aopR, one, pre, binR, intOpR, shiftOpR, unR, argFrm, evo, lkp, hlk, lenOf, asLst, idOf, bndA, srcOk, ofVal, ofCells, setCells, fillA, setElems, fieldsOf, fieldsEq, scalEq, isEq, AV.wr, AV.ok1, TK.agg, frz, frzs, frzA, frzArg, frzArgs, subA, subL, sub1, kp, kh, accOf, List.replicate, Nat.reduceAdd, Nat.reduceSub, Nat.reduceMul, Nat.reduceEqDiff, Nat.reduceLT, Nat.reduceLeDiff, Nat.reduceBEq, reduceIte, reduceCtorEq, eq_self, ne_eq, Int.reduceToNat, Int.reduceLT, Int.reduceLE, Int.reduceGT, Int.reduceGE, Int.reduceBEq, Int.reduceBNe, Int.reduceEq, Int.reduceNe]
    all_goals ((repeat' apply And.intro) <;> first | rfl | omega | (show entryOk _ _ _ _ _ = true; kernel_rfl) | (show pivotOk _ _ = true; kernel_rfl) | decide)
  · by_cases h2 : eLen c m > c.i
    · have e : rqList c m = ([], false) := if_pos (.inr h2)
      rw [e]
      simp only [Try.f20, inl, DB_all, hm, h1, h2, lv, sv, fv, hfree_fr, hfree_cf, cv', cf_eta, frz_u, shC_dec, dC, T23, T28, T25, hfree_lu, hfree_l0, row0, row1, row2, row3, row4, row5, shI_dec, shN_dec, shB_dec, shM_dec, dI, dN, dB, dM, dU, dU_map, iv, bv, u, ms, ctx_T, ctx_C, ctx_P, T4, T3, T26, Option.bind_some, Option.bind_none, Option.map_some, List.length_map, List.length_set, String.reduceBEq, Int.toNat_natCast, Bool.true_beq, Bool.false_beq, T24, shF_dec, dF, fr_eta, Int.cast_ofNat_Int, Int.reduceSub, Int.reduceAdd, Int.reduceNeg, ev1, ev2, implies_true, undef, stepP, dynCall, ↓condE_t, ↓condE_f, ↓guardE_tt, ↓guardE_ff, ↓guardE_tf, ↓guardE_ft, frzDeep, deepArgs, deepArg, resB, cv, stepB, stepE, callD, tabD, snapD, snap1, snapC, snapId, snapIds, guardB, guardC, dstAt, aopR, one, pre, binR, intOpR, shiftOpR, unR, argFrm, evo, lkp, hlk, lenOf, asLst, idOf, bndA, srcOk, ofVal, ofCells, setCells, fillA, setElems, fieldsOf, fieldsEq, scalEq, isEq, AV.wr, AV.ok1, TK.agg, frz, frzs, frzA, frzArg, frzArgs, subA, subL, sub1, kp, kh, accOf, List.replicate, Nat.reduceAdd, Nat.reduceSub, Nat.reduceMul, Nat.reduceEqDiff, Nat.reduceLT, Nat.reduceLeDiff, Nat.reduceBEq, reduceIte, reduceCtorEq, eq_self, ne_eq, Int.reduceToNat, Int.reduceLT, Int.reduceLE, Int.reduceGT, Int.reduceGE, Int.reduceBEq, Int.reduceBNe, Int.reduceEq, Int.reduceNe]
      all_goals ((repeat' apply And.intro) <;> first | rfl | omega | (show entryOk _ _ _ _ _ = true; kernel_rfl) | (show pivotOk _ _ = true; kernel_rfl) | decide)
    · have hmay : mayC c = true := by
        by_cases e : mayC c = true
        · exact e
        · exfalso; apply h1; simp [eLen, e]
      have hi := (mayC_iff.1 hmay).2.2.2
      have hd : wrapU c.i = c.i := by rw [wrapU_eq]; omega
      have hi0 : c.i ≠ 0 := by omega
      have hu : ∀ x, IntKind.wrap .u64 x = wrapU x := fun _ => rfl
      simp only [Try.f20, inl, DB_all, hm, h1, h2, lv, sv, fv, hfree_fr, hfree_cf, cv', cf_eta, frz_u, shC_dec, dC, T23, T28, T25, hfree_lu, hfree_l0, row0, row1, row2, row3, row4, row5, shI_dec, shN_dec, shB_dec, shM_dec, dI, dN, dB, dM, dU, dU_map, iv, bv, u, ms, ctx_T, ctx_C, ctx_P, T4, T3, T26, Option.bind_some, Option.bind_none, Option.map_some, List.length_map, List.length_set, String.reduceBEq, Int.toNat_natCast, Bool.true_beq, Bool.false_beq, T24, shF_dec, dF, fr_eta, Int.cast_ofNat_Int, Int.reduceSub, Int.reduceAdd, Int.reduceNeg, ev1, ev2, implies_true, undef, stepP, dynCall, ↓condE_t, ↓condE_f, ↓guardE_tt, ↓guardE_ff, ↓guardE_tf, ↓guardE_ft, frzDeep, deepArgs, deepArg, resB, cv, stepB, stepE, callD, tabD, snapD, snap1, snapC, snapId, snapIds, guardB, guardC, dstAt, aopR, one, pre, binR, intOpR, shiftOpR, unR, argFrm, evo, lkp, hlk, lenOf, asLst, idOf, bndA, srcOk, ofVal, ofCells, setCells, fillA, setElems, fieldsOf, fieldsEq, scalEq, isEq, AV.wr, AV.ok1, TK.agg, frz, frzs, frzA, frzArg, frzArgs, subA, subL, sub1, kp, kh, accOf, List.replicate, Nat.reduceAdd, Nat.reduceSub, Nat.reduceMul, Nat.reduceEqDiff, Nat.reduceLT, Nat.reduceLeDiff, Nat.reduceBEq, reduceIte, reduceCtorEq, eq_self, ne_eq, Int.reduceToNat, Int.reduceLT, Int.reduceLE, Int.reduceGT, Int.reduceGE, Int.reduceBEq, Int.reduceBNe, Int.reduceEq, Int.reduceNe]
      refine WP.virt 8 26 1 rfl (by decide) ?_
      refine WP.loop (ι := Nat × Nat) (fun i => 20 - i.1) (fun i => (i.1 : Int) ≤ c.i ∧ rqAll c m i.1 = true ∧ 20 ≤ i.2) (n := 79)
        (fr := fun i => [(9, iv i.1), (8, .arr i.2 0 (rqOut c m i.1).length), (7, u (mLoad m 4)), (6, iv (eLen c m)), (2, .ptr 0 0 0), (1, ms m)])
        (hp := fun i => [(i.2, some ⟨false, 26, 1, (rqOut c m i.1).map u⟩), (0, some ⟨false, 23, 4, [cv' c]⟩)]) (N := 20) ?_ (0, 20) ⟨by dsimp only; omega, rfl, Nat.le_refl _⟩ rfl (by show 20 ≤ 21; decide) ⟨rfl, rfl, rfl, rfl, rfl, rfl, trivial⟩ ⟨rfl, rfl, trivial⟩
      rintro ⟨k, id⟩ nx ⟨hk, hall, hj⟩ hN hid
      dsimp only at hk hall hj hN hid ⊢
      have b0 : Nat.beq 0 id = false := by rw [← Bool.not_eq_true, Nat.beq_eq]; omega
      have d0 : Nat.beq id 0 = false := by rw [← Bool.not_eq_true, Nat.beq_eq]; omega
      have n0 : 0 < nx := by omega
      have n1 : id < nx := hid id ⟨false, 26, 1, (rqOut c m k).map u⟩ (by simp only [hlk, nb_self])
      have hii : (1 ≤ c.i ∧ c.i ≤ 16) = True := eq_true ⟨hi.1, hi.2.1⟩
      have hlen : (rqOut c m k).length ≤ 1000 := by have := len_rqOut c m k; omega
      have hcap : ((rqOut c m k).length + 1) * 8 ≤ 140737488355328 := by have := len_rqOut c m k; omega
      have hle : (rqOut c m k).length ≤ (rqOut c m k).length := Nat.le_refl _
      have ww : IntKind.wrap .i64 ((k : Int) + 1) = ((k + 1 : Nat) : Int) := by rw [wrap_i (by omega) (by omega)]; omega
      have hR : wrapU (2 * wrapU ((rqX m k).tdiv c.i)) = eFree c (rqX m k) := by unfold eFree; rw [Int.mul_comm]
      have hQ : wrapU (eFree c (rqX m k) + 1) = qFull c (rqX m k) := rfl
      have hX : wrapU (mLoad m 4 + wrapU k) = rqX m k := rfl
      have hz : ¬ ((k : Int) < eLen c m) → (k : Int) ≥ eLen c m := by omega
      have hz0 : True := trivial
      refine WP.of okDB 1 (by rfl) ?_
      by_cases hkc : (k : Int) < c.i
      · by_cases hh : (k : Int) < eLen c m
        · have hh' : ¬ (k : Int) ≥ eLen c m := by omega
          cases ho : (mLoad m (eSeq c (rqX m k)) == qFull c (rqX m k)) with
          | true =>
            have ho' : (mLoad m (eSeq c (rqX m k)) != qFull c (rqX m k)) = false := by simp [bne, ho]
            simp only [DB_all, b0, d0, n0, n1, hm, hu, hd, hi0, hii, hlen, hcap, hle, ww, hR, hQ, hz, hz0, snoc_u, take_u, len_snoc, take_snoc, hX, hkc, hh, hh', ho, ho', lv, sv, fv, nb_self, nb_same, nb_l0, nb_r0, nb_lt, nb_gt, nb_lt0, nb_gt0, Nat.add_assoc, hfree_fr, hfree_cf, cv', cf_eta, frz_u, shC_dec, dC, T23, T28, T25, hfree_lu, hfree_l0, row0, row1, row2, row3, row4, row5, shI_dec, shN_dec, shB_dec, shM_dec, dI, dN, dB, dM, dU, dU_map, iv, bv, u, ms, ctx_T, ctx_C, ctx_P, T4, T3, T26, Option.bind_some, Option.bind_none, Option.map_some, List.length_map, List.length_set, String.reduceBEq, Int.toNat_natCast, Bool.true_beq, Bool.false_beq, T24, shF_dec, dF, fr_eta, Int.cast_ofNat_Int, Int.reduceSub, Int.reduceAdd, Int.reduceNeg, ev1, ev2, implies_true, undef, stepP, dynCall, ↓condE_t, ↓condE_f, ↓guardE_tt, ↓guardE_ff, ↓guardE_tf, ↓guardE_ft, frzDeep, deepArgs, deepArg, resB, cv, stepB, stepE, callD, tabD, snapD, snap1, snapC, snapId, snapIds, guardB, guardC, dstAt, aopR, one, pre, binR, intOpR, shiftOpR, unR, argFrm, evo, lkp, hlk, lenOf, asLst, idOf, bndA, srcOk, ofVal, ofCells, setCells, fillA, setElems, fieldsOf, fieldsEq, scalEq, isEq, AV.wr, AV.ok1, TK.agg, frz, frzs, frzA, frzArg, frzArgs, subA, subL, sub1, kp, kh, accOf, List.replicate, Nat.reduceAdd, Nat.reduceSub, Nat.reduceMul, Nat.reduceEqDiff, Nat.reduceLT, Nat.reduceLeDiff, Nat.reduceBEq, reduceIte, reduceCtorEq, eq_self, ne_eq, Int.reduceToNat, Int.reduceLT, Int.reduceLE, Int.reduceGT, Int.reduceGE, Int.reduceBEq, Int.reduceBNe, Int.reduceEq, Int.reduceNe]
            have hO : rqOut c m (k + 1) = rqOut c m k ++ [mLoad m (eVal c (rqX m k))] := by rw [rqOut, if_pos hh]
            have hA : rqAll c m (k + 1) = true := by rw [rqAll, hall, rqOk, if_pos hh]; exact ho
            refine ⟨(k + 1, nx + 52), by dsimp only; omega, ⟨by dsimp only; omega, hA, by dsimp only; omega⟩, ?_⟩
            dsimp only
            rw [hO, len_snoc]
            refine ⟨⟨rfl, rfl⟩, ?_⟩
            simp only [b0, d0, n0, n1, nb_self, nb_same, nb_l0, nb_r0, nb_lt, nb_gt, nb_lt0, nb_gt0, Nat.add_assoc]
          | false =>
            have ho' : (mLoad m (eSeq c (rqX m k)) != qFull c (rqX m k)) = true := by simp [bne, ho]
            have hA : rqAll c m (k + 1) = false := by rw [rqAll, rqOk, if_pos hh, ho, Bool.and_false]
            have hL : rqList c m = ([], false) := by rw [rqList, if_neg (by omega), if_neg (by rw [rqAll_mono hA c.i.toNat (by omega)]; decide)]
            simp only [DB_all, b0, d0, n0, n1, hm, hu, hd, hi0, hii, hlen, hcap, hle, ww, hR, hQ, hz, hz0, snoc_u, take_u, len_snoc, take_snoc, hX, hkc, hh, hh', ho, ho', lv, sv, fv, nb_self, nb_same, nb_l0, nb_r0, nb_lt, nb_gt, nb_lt0, nb_gt0, Nat.add_assoc, hfree_fr, hfree_cf, cv', cf_eta, frz_u, shC_dec, dC, T23, T28, T25, hfree_lu, hfree_l0, row0, row1, row2, row3, row4, row5, shI_dec, shN_dec, shB_dec, shM_dec, dI, dN, dB, dM, dU, dU_map, iv, bv, u, ms, ctx_T, ctx_C, ctx_P, T4, T3, T26, Option.bind_some, Option.bind_none, Option.map_some, List.length_map, List.length_set, String.reduceBEq, Int.toNat_natCast, Bool.true_beq, Bool.false_beq, T24, shF_dec, dF, fr_eta, Int.cast_ofNat_Int, Int.reduceSub, Int.reduceAdd, Int.reduceNeg, ev1, ev2, implies_true, undef, stepP, dynCall, ↓condE_t, ↓condE_f, ↓guardE_tt, ↓guardE_ff, ↓guardE_tf, ↓guardE_ft, frzDeep, deepArgs, deepArg, resB, cv, stepB, stepE, callD, tabD, snapD, snap1, snapC, snapId, snapIds, guardB, guardC, dstAt, aopR, one, pre, binR, intOpR, shiftOpR, unR, argFrm, evo, lkp, hlk, lenOf, asLst, idOf, bndA, srcOk, ofVal, ofCells, setCells, fillA, setElems, fieldsOf, fieldsEq, scalEq, isEq, AV.wr, AV.ok1, TK.agg, frz, frzs, frzA, frzArg, frzArgs, subA, subL, sub1, kp, kh, accOf, List.replicate, Nat.reduceAdd, Nat.reduceSub, Nat.reduceMul, Nat.reduceEqDiff, Nat.reduceLT, Nat.reduceLeDiff, Nat.reduceBEq, reduceIte, reduceCtorEq, eq_self, ne_eq, Int.reduceToNat, Int.reduceLT, Int.reduceLE, Int.reduceGT, Int.reduceGE, Int.reduceBEq, Int.reduceBNe, Int.reduceEq, Int.reduceNe]
            rw [hL]
            exact ⟨rfl, rfl⟩
        · have hh' : (k : Int) ≥ eLen c m := by omega
          cases ho : (mLoad m (eSeq c (rqX m k)) == eFree c (rqX m k)) with
          | true =>
            have ho' : (mLoad m (eSeq c (rqX m k)) != eFree c (rqX m k)) = false := by simp [bne, ho]
            simp only [DB_all, b0, d0, n0, n1, hm, hu, hd, hi0, hii, hlen, hcap, hle, ww, hR, hQ, hz, hz0, snoc_u, take_u, len_snoc, take_snoc, hX, hkc, hh, hh', ho, ho', lv, sv, fv, nb_self, nb_same, nb_l0, nb_r0, nb_lt, nb_gt, nb_lt0, nb_gt0, Nat.add_assoc, hfree_fr, hfree_cf, cv', cf_eta, frz_u, shC_dec, dC, T23, T28, T25, hfree_lu, hfree_l0, row0, row1, row2, row3, row4, row5, shI_dec, shN_dec, shB_dec, shM_dec, dI, dN, dB, dM, dU, dU_map, iv, bv, u, ms, ctx_T, ctx_C, ctx_P, T4, T3, T26, Option.bind_some, Option.bind_none, Option.map_some, List.length_map, List.length_set, String.reduceBEq, Int.toNat_natCast, Bool.true_beq, Bool.false_beq, T24, shF_dec, dF, fr_eta, Int.cast_ofNat_Int, Int.reduceSub, Int.reduceAdd, Int.reduceNeg, ev1, ev2, implies_true, undef, stepP, dynCall, ↓condE_t, ↓condE_f, ↓guardE_tt, ↓guardE_ff, ↓guardE_tf, ↓guardE_ft, frzDeep, deepArgs, deepArg, resB, cv, stepB, stepE, callD, tabD, snapD, snap1, snapC, snapId, snapIds, guardB, guardC, dstAt, aopR, one, pre, binR, intOpR, shiftOpR, unR, argFrm, evo, lkp, hlk, lenOf, asLst, idOf, bndA, srcOk, ofVal, ofCells, setCells, fillA, setElems, fieldsOf, fieldsEq, scalEq, isEq, AV.wr, AV.ok1, TK.agg, frz, frzs, frzA, frzArg, frzArgs, subA, subL, sub1, kp, kh, accOf, List.replicate, Nat.reduceAdd, Nat.reduceSub, Nat.reduceMul, Nat.reduceEqDiff, Nat.reduceLT, Nat.reduceLeDiff, Nat.reduceBEq, reduceIte, reduceCtorEq, eq_self, ne_eq, Int.reduceToNat, Int.reduceLT, Int.reduceLE, Int.reduceGT, Int.reduceGE, Int.reduceBEq, Int.reduceBNe, Int.reduceEq, Int.reduceNe]
            have hO : rqOut c m (k + 1) = rqOut c m k := by rw [rqOut, if_neg hh]
            have hA : rqAll c m (k + 1) = true := by rw [rqAll, hall, rqOk, if_neg hh]; exact ho
            refine ⟨(k + 1, id), by dsimp only; omega, ⟨by dsimp only; omega, hA, hj⟩, ?_⟩
            dsimp only
            rw [hO]
            refine ⟨⟨rfl, rfl⟩, ?_⟩
            simp only [b0, d0, n0, n1, nb_self, nb_same, nb_l0, nb_r0, nb_lt, nb_gt, nb_lt0, nb_gt0, Nat.add_assoc]
          | false =>
            have ho' : (mLoad m (eSeq c (rqX m k)) != eFree c (rqX m k)) = true := by simp [bne, ho]
            simp only [DB_all, b0, d0, n0, n1, hm, hu, hd, hi0, hii, hlen, hcap, hle, ww, hR, hQ, hz, hz0, snoc_u, take_u, len_snoc, take_snoc, hX, hkc, hh, hh', ho, ho', lv, sv, fv, nb_self, nb_same, nb_l0, nb_r0, nb_lt, nb_gt, nb_lt0, nb_gt0, Nat.add_assoc, hfree_fr, hfree_cf, cv', cf_eta, frz_u, shC_dec, dC, T23, T28, T25, hfree_lu, hfree_l0, row0, row1, row2, row3, row4, row5, shI_dec, shN_dec, shB_dec, shM_dec, dI, dN, dB, dM, dU, dU_map, iv, bv, u, ms, ctx_T, ctx_C, ctx_P, T4, T3, T26, Option.bind_some, Option.bind_none, Option.map_some, List.length_map, List.length_set, String.reduceBEq, Int.toNat_natCast, Bool.true_beq, Bool.false_beq, T24, shF_dec, dF, fr_eta, Int.cast_ofNat_Int, Int.reduceSub, Int.reduceAdd, Int.reduceNeg, ev1, ev2, implies_true, undef, stepP, dynCall, ↓condE_t, ↓condE_f, ↓guardE_tt, ↓guardE_ff, ↓guardE_tf, ↓guardE_ft, frzDeep, deepArgs, deepArg, resB, cv, stepB, stepE, callD, tabD, snapD, snap1, snapC, snapId, snapIds, guardB, guardC, dstAt, aopR, one, pre, binR, intOpR, shiftOpR, unR, argFrm, evo, lkp, hlk, lenOf, asLst, idOf, bndA, srcOk, ofVal, ofCells, setCells, fillA, setElems, fieldsOf, fieldsEq, scalEq, isEq, AV.wr, AV.ok1, TK.agg, frz, frzs, frzA, frzArg, frzArgs, subA, subL, sub1, kp, kh, accOf, List.replicate, Nat.reduceAdd, Nat.reduceSub, Nat.reduceMul, Nat.reduceEqDiff, Nat.reduceLT, Nat.reduceLeDiff, Nat.reduceBEq, reduceIte, reduceCtorEq, eq_self, ne_eq, Int.reduceToNat, Int.reduceLT, Int.reduceLE, Int.reduceGT, Int.reduceGE, Int.reduceBEq, Int.reduceBNe, Int.reduceEq, Int.reduceNe]
            have hA : rqAll c m (k + 1) = false := by rw [rqAll, rqOk, if_neg hh, ho, Bool.and_false]
            have hL : rqList c m = ([], false) := by rw [rqList, if_neg (by omega), if_neg (by rw [rqAll_mono hA c.i.toNat (by omega)]; decide)]
            rw [hL]
            exact ⟨rfl, rfl⟩
      · simp only [DB_all, b0, d0, n0, n1, hm, hu, hd, hi0, hii, hlen, hcap, hle, ww, hR, hQ, hz, hz0, snoc_u, take_u, len_snoc, take_snoc, hkc, lv, sv, fv, nb_self, nb_same, nb_l0, nb_r0, nb_lt, nb_gt, nb_lt0, nb_gt0, Nat.add_assoc, hfree_fr, hfree_cf, cv', cf_eta, frz_u, shC_dec, dC, T23, T28, T25, hfree_lu, hfree_l0, row0, row1, row2, row3, row4, row5, shI_dec, shN_dec, shB_dec, shM_dec, dI, dN, dB, dM, dU, dU_map, iv, bv, u, ms, ctx_T, ctx_C, ctx_P, T4, T3, T26, Option.bind_some, Option.bind_none, Option.map_some, List.length_map, List.length_set, String.reduceBEq, Int.toNat_natCast, Bool.true_beq, Bool.false_beq, T24, shF_dec, dF, fr_eta, Int.cast_ofNat_Int, Int.reduceSub, Int.reduceAdd, Int.reduceNeg, ev1, ev2, implies_true, undef, stepP, dynCall, ↓condE_t, ↓condE_f, ↓guardE_tt, ↓guardE_ff, ↓guardE_tf, ↓guardE_ft, frzDeep, deepArgs, deepArg, resB, cv, stepB, stepE, callD, tabD, snapD, snap1, snapC, snapId, snapIds, guardB, guardC, dstAt, aopR, one, pre, binR, intOpR, shiftOpR, unR, argFrm, evo, lkp, hlk, lenOf, asLst, idOf, bndA, srcOk, ofVal, ofCells, setCells, fillA, setElems, fieldsOf, fieldsEq, scalEq, isEq, AV.wr, AV.ok1, TK.agg, frz, frzs, frzA, frzArg, frzArgs, subA, subL, sub1, kp, kh, accOf, List.replicate, Nat.reduceAdd, Nat.reduceSub, Nat.reduceMul, Nat.reduceEqDiff, Nat.reduceLT, Nat.reduceLeDiff, Nat.reduceBEq, reduceIte, reduceCtorEq, eq_self, ne_eq, Int.reduceToNat, Int.reduceLT, Int.reduceLE, Int.reduceGT, Int.reduceGE, Int.reduceBEq, Int.reduceBNe, Int.reduceEq, Int.reduceNe]
        have hkk : k = c.i.toNat := by omega
        have hL : rqList c m = (rqOut c m k, true) := by rw [rqList, if_neg (by omega), ← hkk, if_pos hall]
        rw [hL]
        exact ⟨of_eq_true (hf_u _), rfl, rfl⟩
end Go.Vai
/- Taking out of the injector: the table; the chapter's example; the first law. -/
namespace Go.Vai
open Go.RowKit Go.Proofs
set_option linter.unusedSimpArgs false
set_option linter.unusedVariables false
set_option maxHeartbeats 4000000
set_option maxRecDepth 100000

def rowsDC : List Row := [
  (19, row2 shC shM fun c m => some (lv (qList c m))), 
  (20, row2 shC shM fun c m => some (lv (rqList c m)))] ++ rowsDB ++ rowsEC
theorem rowsDC_ok : ∀ p ∈ rowsDC, RowOk Try.prog p := fun p h => by
  simp only [rowsDC, List.mem_append, List.mem_cons, List.not_mem_nil, or_false, false_or, or_assoc] at h
  rcases h with rfl | rfl | h | h
  · exact ok_row2 (enters_of Try.func19 (by decide) rfl) fun c m r _ g e => by cases e; exact qlist_pure c m (shM_got g)
  · exact ok_row2 (enters_of Try.func20 (by decide) rfl) fun c m r _ g e => by cases e; exact rqlist_pure c m (shM_got g)
  · exact rowsDB_ok p h
  · exact rowsEC_ok p h
theorem okDC : (ctx Try.prog rowsDC).ok := rows_ok rowsDC_ok
theorem DC_19 : tabC rowsDC 19 = row2 shC shM fun c m => some (lv (qList c m)) := rfl
theorem DC_20 : tabC rowsDC 20 = row2 shC shM fun c m => some (lv (rqList c m)) := rfl
theorem DC_17 : tabC rowsDC 17 = row3 shC shM shF fun c m f => some (sv (qStep c m f)) := rfl
theorem DC_18 : tabC rowsDC 18 = row3 shC shM shF fun c m f => some (sv (rqStep c m f)) := rfl
theorem DC_60 : tabC rowsDC 60 = fun _ => none := rfl
theorem DC_94 : tabC rowsDC 94 = fun _ => none := rfl
theorem DC_47 : tabC rowsDC 47 = row2 shC shN fun c x => if 1 ≤ c.i ∧ c.i ≤ 16 then some (u (qFull c x)) else none := rfl
theorem DC_96 : tabC rowsDC 96 = freeRow := rfl
theorem DC_23 : tabC rowsDC 23 = row4 shC shM shF shI fun c m f op => some (bv (goesE c m f op)) := rfl
theorem DC_52 : tabC rowsDC 52 = row4 shC shM shF shI fun c m f op => some (bv (goesE c m f op)) := rfl
theorem DC_26 : tabC rowsDC 26 = row2 shC shM fun c m => some (iv (eLen c m)) := rfl
theorem DC_61 : tabC rowsDC 61 = row2 shC shM fun c m => some (iv (eLen c m)) := rfl
theorem DC_62 : tabC rowsDC 62 = fun _ => none := rfl
theorem DC_67 : tabC rowsDC 67 = fun _ => none := rfl
theorem DC_68 : tabC rowsDC 68 = fun _ => none := rfl
theorem DC_69 : tabC rowsDC 69 = fun _ => none := rfl
theorem DC_70 : tabC rowsDC 70 = fun _ => none := rfl
theorem DC_71 : tabC rowsDC 71 = fun _ => none := rfl
theorem DC_72 : tabC rowsDC 72 = fun _ => none := rfl
theorem DC_44 : tabC rowsDC 44 = row1 shM fun m => some (ms m) := rfl
theorem DC_57 : tabC rowsDC 57 = row4 shM shI shN shN fun m i v w => some (.tup [ms (mCas m i v w), bv (mCasB m i v)]) := rfl
theorem DC_45 : tabC rowsDC 45 = row2 shM shI fun m i => some (u (mLoad m i)) := rfl
theorem DC_51 : tabC rowsDC 51 = row3 shM shI shN fun m i v => some (ms (mStore m i v)) := rfl
theorem DC_49 : tabC rowsDC 49 = row4 shM shI shN shN fun m i v w => some (.tup [ms (mCas m i v w), bv (mCasB m i v)]) := rfl
theorem DC_53 : tabC rowsDC 53 = row2 shM shI fun m i => some (u (mLoad m i)) := rfl
theorem DC_21 : tabC rowsDC 21 = row2 shM shM fun a b => some (bv (decide (a = b))) := rfl
theorem DC_59 : tabC rowsDC 59 = row3 shM shI shN fun m i v => some (ms (mStore m i v)) := rfl
theorem DC_66 : tabC rowsDC 66 = row1 shC fun c => some (iv (lSize c)) := rfl
theorem DC_88 : tabC rowsDC 88 = row1 shC fun c => some (iv (lSize c)) := rfl
theorem DC_27 : tabC rowsDC 27 = row1 shC fun c => some (bv (mayC c)) := rfl
theorem DC_46 : tabC rowsDC 46 = row2 shN shN fun a b => some (iv (far a b)) := rfl
theorem DC_83 : tabC rowsDC 83 = row1 shC fun c => some (bv (mayC c)) := rfl
theorem DC_55 : tabC rowsDC 55 = row2 shN shN fun a b => some (iv (far a b)) := rfl
theorem DC_95 : tabC rowsDC 95 = row2 shC shI fun c w => if mayC c = true ∧ 0 ≤ w ∧ w ≤ 8 then some (iv (lBase c w)) else none := rfl
theorem DC_63 : tabC rowsDC 63 = fun _ => none := rfl
theorem DC_65 : tabC rowsDC 65 = fun _ => none := rfl
theorem DC_86 : tabC rowsDC 86 = row1 shF fun f => some (bv (f.res != 0)) := rfl
theorem DC_56 : tabC rowsDC 56 = row3 shF shI shN fun f r v => some (fv (fEnd f r v)) := rfl
theorem DC_22 : tabC rowsDC 22 = row2 shM shM fun a b => some (bv (decide (a = b))) := rfl
theorem DC_25 : tabC rowsDC 25 = row3 shI shI shN fun o w v => some (fv (fBegin o w v)) := rfl
theorem DC_31 : tabC rowsDC 31 = row1 shF fun f => some (bv (f.res != 0)) := rfl
theorem DC_48 : tabC rowsDC 48 = row3 shF shI shN fun f r v => some (fv (fEnd f r v)) := rfl
theorem DC_74 : tabC rowsDC 74 = fun _ => none := rfl
theorem DC_75 : tabC rowsDC 75 = fun _ => none := rfl
theorem DC_76 : tabC rowsDC 76 = fun _ => none := rfl
theorem DC_73 : tabC rowsDC 73 = fun _ => none := rfl
theorem DC_24 : tabC rowsDC 24 = row2 shC shN fun c x => some (iv (eSeq c x)) := rfl
theorem DC_50 : tabC rowsDC 50 = row2 shC shN fun c x => some (iv (eVal c x)) := rfl
theorem DC_54 : tabC rowsDC 54 = row2 shC shN fun c x => some (iv (eSeq c x)) := rfl
theorem DC_58 : tabC rowsDC 58 = row2 shC shN fun c x => some (iv (eVal c x)) := rfl
theorem DC_30 : tabC rowsDC 30 = row3 shC shM shF fun c m f => some (sv (eStep c m f)) := rfl
theorem DC_77 : tabC rowsDC 77 = row3 shC shM shF fun c m f => some (sv (eStep c m f)) := rfl
theorem DC_28 : tabC rowsDC 28 = row1 shC fun c => some (ms (zeros (lSize c).toNat)) := rfl
theorem DC_all : type_of% (And.intro DC_19 <| And.intro DC_20 <| And.intro DC_17 <| And.intro DC_18 <| And.intro DC_60 <| And.intro DC_94 <| And.intro DC_47 <| And.intro DC_96 <| And.intro DC_23 <| And.intro DC_52 <| And.intro DC_26 <| And.intro DC_61 <| And.intro DC_62 <| And.intro DC_67 <| And.intro DC_68 <| And.intro DC_69 <| And.intro DC_70 <| And.intro DC_71 <| And.intro DC_72 <| And.intro DC_44 <| And.intro DC_57 <| And.intro DC_45 <| And.intro DC_51 <| And.intro DC_49 <| And.intro DC_53 <| And.intro DC_21 <| And.intro DC_59 <| And.intro DC_66 <| And.intro DC_88 <| And.intro DC_27 <| And.intro DC_46 <| And.intro DC_83 <| And.intro DC_55 <| And.intro DC_95 <| And.intro DC_63 <| And.intro DC_65 <| And.intro DC_86 <| And.intro DC_56 <| And.intro DC_22 <| And.intro DC_25 <| And.intro DC_31 <| And.intro DC_48 <| And.intro DC_74 <| And.intro DC_75 <| And.intro DC_76 <| And.intro DC_73 <| And.intro DC_24 <| And.intro DC_50 <| And.intro DC_54 <| And.intro DC_58 <| And.intro DC_30 <| And.intro DC_77 <| DC_28) := And.intro DC_19 <| And.intro DC_20 <| And.intro DC_17 <| And.intro DC_18 <| And.intro DC_60 <| And.intro DC_94 <| And.intro DC_47 <| And.intro DC_96 <| And.intro DC_23 <| And.intro DC_52 <| And.intro DC_26 <| And.intro DC_61 <| And.intro DC_62 <| And.intro DC_67 <| And.intro DC_68 <| And.intro DC_69 <| And.intro DC_70 <| And.intro DC_71 <| And.intro DC_72 <| And.intro DC_44 <| And.intro DC_57 <| And.intro DC_45 <| And.intro DC_51 <| And.intro DC_49 <| And.intro DC_53 <| And.intro DC_21 <| And.intro DC_59 <| And.intro DC_66 <| And.intro DC_88 <| And.intro DC_27 <| And.intro DC_46 <| And.intro DC_83 <| And.intro DC_55 <| And.intro DC_95 <| And.intro DC_63 <| And.intro DC_65 <| And.intro DC_86 <| And.intro DC_56 <| And.intro DC_22 <| And.intro DC_25 <| And.intro DC_31 <| And.intro DC_48 <| And.intro DC_74 <| And.intro DC_75 <| And.intro DC_76 <| And.intro DC_73 <| And.intro DC_24 <| And.intro DC_50 <| And.intro DC_54 <| And.intro DC_58 <| And.intro DC_30 <| And.intro DC_77 <| DC_28

theorem awake12_pure : PureC Try.prog 16 [] (bv true) := by
  refine pure_sub okDC 1 Try.func16 rfl (by show 0 ≤ _; decide) ?_
  have f0 : zeros (lSize ⟨1, 1, 2, 0⟩).toNat = [0, 0, 0, 0, 0, 0, 0, 0, 0, 0, 0, 0, 0, 0] := by decide +kernel
  have e0 : qList ⟨1, 1, 2, 0⟩ [0, 0, 0, 0, 0, 0, 0, 0, 0, 0, 0, 0, 0, 0] = ([], true) := by decide +kernel
  have e1 : qStep ⟨1, 1, 2, 0⟩ [0, 0, 0, 0, 0, 0, 0, 0, 0, 0, 0, 0, 0, 0] ⟨4, 0, 0, 0, 0, 0, 0⟩ = ([0, 0, 0, 0, 0, 0, 0, 0, 0, 0, 0, 0, 0, 0], ⟨4, 1, 0, 0, 0, 0, 0⟩) := by decide +kernel
  have e2 : qStep ⟨1, 1, 2, 0⟩ [0, 0, 0, 0, 0, 0, 0, 0, 0, 0, 0, 0, 0, 0] ⟨4, 1, 0, 0, 0, 0, 0⟩ = ([0, 0, 0, 0, 0, 0, 0, 0, 0, 0, 0, 0, 0, 0], ⟨4, 0, 0, 0, 0, 0, 3⟩) := by decide +kernel
  simp only [Try.f16, DC_all, f0, e0, inl, lv, fv, sv, fBegin, fEnd, r_rounds, hfree_fr, hfree_cf, cv', cf_eta, frz_u, shC_dec, dC, T23, T28, T25, hfree_lu, hfree_l0, row0, row1, row2, row3, row4, row5, shI_dec, shN_dec, shB_dec, shM_dec, dI, dN, dB, dM, dU, dU_map, iv, bv, u, ms, ctx_T, ctx_C, ctx_P, T4, T3, T26, Option.bind_some, Option.bind_none, Option.map_some, List.length_map, List.length_set, String.reduceBEq, Int.toNat_natCast, Bool.true_beq, Bool.false_beq, T24, shF_dec, dF, fr_eta, ev1, ev2, implies_true, undef, stepP, dynCall, ↓condE_t, ↓condE_f, ↓guardE_tt, ↓guardE_ff, ↓guardE_tf, ↓guardE_ft, frzDeep, deepArgs, deepArg, resB, cv, stepB, stepE, callD, tabD, snapD, snap1, snapC, snapId, snapIds, guardB, guardC, dstAt, aopR, one, pre, binR, intOpR, shiftOpR, unR, argFrm, evo, lkp, hlk, lenOf, asLst, idOf, bndA, srcOk, ofVal, ofCells, setCells, fillA, setElems, fieldsOf, fieldsEq, scalEq, isEq, AV.wr, AV.ok1, TK.agg, frz, frzs, frzA, frzArg, frzArgs, subA, subL, sub1, kp, kh, accOf, List.replicate, Nat.reduceAdd, Nat.reduceSub, Nat.reduceMul, Nat.reduceEqDiff, Nat.reduceLT, Nat.reduceLeDiff, Nat.reduceBEq, reduceIte, reduceCtorEq, eq_self, ne_eq, Int.reduceToNat, Int.reduceLT, Int.reduceLE, Int.reduceGT, Int.reduceGE, Int.reduceBEq, Int.reduceBNe, Int.reduceEq, Int.reduceNe]
  refine WP.rounds okDC 1 3 (by rfl) ?_
  simp only [DC_all, e1, e2, w01, w12, w23, x1, x2, x3, Int.cast_ofNat_Int, Int.reduceSub, Int.reduceAdd, Int.reduceNeg, inl, lv, fv, sv, fBegin, fEnd, r_rounds, hfree_fr, hfree_cf, cv', cf_eta, frz_u, shC_dec, dC, T23, T28, T25, hfree_lu, hfree_l0, row0, row1, row2, row3, row4, row5, shI_dec, shN_dec, shB_dec, shM_dec, dI, dN, dB, dM, dU, dU_map, iv, bv, u, ms, ctx_T, ctx_C, ctx_P, T4, T3, T26, Option.bind_some, Option.bind_none, Option.map_some, List.length_map, List.length_set, String.reduceBEq, Int.toNat_natCast, Bool.true_beq, Bool.false_beq, T24, shF_dec, dF, fr_eta, ev1, ev2, implies_true, undef, stepP, dynCall, ↓condE_t, ↓condE_f, ↓guardE_tt, ↓guardE_ff, ↓guardE_tf, ↓guardE_ft, frzDeep, deepArgs, deepArg, resB, cv, stepB, stepE, callD, tabD, snapD, snap1, snapC, snapId, snapIds, guardB, guardC, dstAt, aopR, one, pre, binR, intOpR, shiftOpR, unR, argFrm, evo, lkp, hlk, lenOf, asLst, idOf, bndA, srcOk, ofVal, ofCells, setCells, fillA, setElems, fieldsOf, fieldsEq, scalEq, isEq, AV.wr, AV.ok1, TK.agg, frz, frzs, frzA, frzArg, frzArgs, subA, subL, sub1, kp, kh, accOf, List.replicate, Nat.reduceAdd, Nat.reduceSub, Nat.reduceMul, Nat.reduceEqDiff, Nat.reduceLT, Nat.reduceLeDiff, Nat.reduceBEq, reduceIte, reduceCtorEq, eq_self, ne_eq, Int.reduceToNat, Int.reduceLT, Int.reduceLE, Int.reduceGT, Int.reduceGE, Int.reduceBEq, Int.reduceBNe, Int.reduceEq, Int.reduceNe]
  all_goals ((repeat' apply And.intro) <;> first | rfl | omega | (show entryOk _ _ _ _ _ = true; kernel_rfl) | (show pivotOk _ _ = true; kernel_rfl) | decide)

def rowsDD : List Row := [
  (16, row0 (bv true))] ++ rowsDC
theorem rowsDD_ok : ∀ p ∈ rowsDD, RowOk Try.prog p := fun p h => by
  simp only [rowsDD, List.mem_append, List.mem_cons, List.not_mem_nil, or_false, false_or, or_assoc] at h
  rcases h with rfl | h
  · exact ok_row0 (enters_of Try.func16 (by decide) rfl) awake12_pure
  · exact rowsDC_ok p h
theorem okDD : (ctx Try.prog rowsDD).ok := rows_ok rowsDD_ok
theorem DD_16 : tabC rowsDD 16 = row0 (bv true) := rfl
theorem DD_19 : tabC rowsDD 19 = row2 shC shM fun c m => some (lv (qList c m)) := rfl
theorem DD_20 : tabC rowsDD 20 = row2 shC shM fun c m => some (lv (rqList c m)) := rfl
theorem DD_17 : tabC rowsDD 17 = row3 shC shM shF fun c m f => some (sv (qStep c m f)) := rfl
theorem DD_18 : tabC rowsDD 18 = row3 shC shM shF fun c m f => some (sv (rqStep c m f)) := rfl
theorem DD_60 : tabC rowsDD 60 = fun _ => none := rfl
theorem DD_94 : tabC rowsDD 94 = fun _ => none := rfl
theorem DD_47 : tabC rowsDD 47 = row2 shC shN fun c x => if 1 ≤ c.i ∧ c.i ≤ 16 then some (u (qFull c x)) else none := rfl
theorem DD_96 : tabC rowsDD 96 = freeRow := rfl
theorem DD_23 : tabC rowsDD 23 = row4 shC shM shF shI fun c m f op => some (bv (goesE c m f op)) := rfl
theorem DD_52 : tabC rowsDD 52 = row4 shC shM shF shI fun c m f op => some (bv (goesE c m f op)) := rfl
theorem DD_26 : tabC rowsDD 26 = row2 shC shM fun c m => some (iv (eLen c m)) := rfl
theorem DD_61 : tabC rowsDD 61 = row2 shC shM fun c m => some (iv (eLen c m)) := rfl
theorem DD_62 : tabC rowsDD 62 = fun _ => none := rfl
theorem DD_67 : tabC rowsDD 67 = fun _ => none := rfl
theorem DD_68 : tabC rowsDD 68 = fun _ => none := rfl
theorem DD_69 : tabC rowsDD 69 = fun _ => none := rfl
theorem DD_70 : tabC rowsDD 70 = fun _ => none := rfl
theorem DD_71 : tabC rowsDD 71 = fun _ => none := rfl
theorem DD_72 : tabC rowsDD 72 = fun _ => none := rfl
theorem DD_44 : tabC rowsDD 44 = row1 shM fun m => some (ms m) := rfl
theorem DD_57 : tabC rowsDD 57 = row4 shM shI shN shN fun m i v w => some (.tup [ms (mCas m i v w), bv (mCasB m i v)]) := rfl
theorem DD_45 : tabC rowsDD 45 = row2 shM shI fun m i => some (u (mLoad m i)) := rfl
theorem DD_51 : tabC rowsDD 51 = row3 shM shI shN fun m i v => some (ms (mStore m i v)) := rfl
theorem DD_49 : tabC rowsDD 49 = row4 shM shI shN shN fun m i v w => some (.tup [ms (mCas m i v w), bv (mCasB m i v)]) := rfl
theorem DD_53 : tabC rowsDD 53 = row2 shM shI fun m i => some (u (mLoad m i)) := rfl
theorem DD_21 : tabC rowsDD 21 = row2 shM shM fun a b => some (bv (decide (a = b))) := rfl
theorem DD_59 : tabC rowsDD 59 = row3 shM shI shN fun m i v => some (ms (mStore m i v)) := rfl
theorem DD_66 : tabC rowsDD 66 = row1 shC fun c => some (iv (lSize c)) := rfl
theorem DD_88 : tabC rowsDD 88 = row1 shC fun c => some (iv (lSize c)) := rfl
theorem DD_27 : tabC rowsDD 27 = row1 shC fun c => some (bv (mayC c)) := rfl
theorem DD_46 : tabC rowsDD 46 = row2 shN shN fun a b => some (iv (far a b)) := rfl
theorem DD_83 : tabC rowsDD 83 = row1 shC fun c => some (bv (mayC c)) := rfl
theorem DD_55 : tabC rowsDD 55 = row2 shN shN fun a b => some (iv (far a b)) := rfl
theorem DD_95 : tabC rowsDD 95 = row2 shC shI fun c w => if mayC c = true ∧ 0 ≤ w ∧ w ≤ 8 then some (iv (lBase c w)) else none := rfl
theorem DD_63 : tabC rowsDD 63 = fun _ => none := rfl
theorem DD_65 : tabC rowsDD 65 = fun _ => none := rfl
theorem DD_86 : tabC rowsDD 86 = row1 shF fun f => some (bv (f.res != 0)) := rfl
theorem DD_56 : tabC rowsDD 56 = row3 shF shI shN fun f r v => some (fv (fEnd f r v)) := rfl
theorem DD_22 : tabC rowsDD 22 = row2 shM shM fun a b => some (bv (decide (a = b))) := rfl
theorem DD_25 : tabC rowsDD 25 = row3 shI shI shN fun o w v => some (fv (fBegin o w v)) := rfl
theorem DD_31 : tabC rowsDD 31 = row1 shF fun f => some (bv (f.res != 0)) := rfl
theorem DD_48 : tabC rowsDD 48 = row3 shF shI shN fun f r v => some (fv (fEnd f r v)) := rfl
theorem DD_74 : tabC rowsDD 74 = fun _ => none := rfl
theorem DD_75 : tabC rowsDD 75 = fun _ => none := rfl
theorem DD_76 : tabC rowsDD 76 = fun _ => none := rfl
theorem DD_73 : tabC rowsDD 73 = fun _ => none := rfl
theorem DD_24 : tabC rowsDD 24 = row2 shC shN fun c x => some (iv (eSeq c x)) := rfl
theorem DD_50 : tabC rowsDD 50 = row2 shC shN fun c x => some (iv (eVal c x)) := rfl
theorem DD_54 : tabC rowsDD 54 = row2 shC shN fun c x => some (iv (eSeq c x)) := rfl
theorem DD_58 : tabC rowsDD 58 = row2 shC shN fun c x => some (iv (eVal c x)) := rfl
theorem DD_30 : tabC rowsDD 30 = row3 shC shM shF fun c m f => some (sv (eStep c m f)) := rfl
theorem DD_77 : tabC rowsDD 77 = row3 shC shM shF fun c m f => some (sv (eStep c m f)) := rfl
theorem DD_28 : tabC rowsDD 28 = row1 shC fun c => some (ms (zeros (lSize c).toNat)) := rfl
theorem DD_all : type_of% (And.intro DD_16 <| And.intro DD_19 <| And.intro DD_20 <| And.intro DD_17 <| And.intro DD_18 <| And.intro DD_60 <| And.intro DD_94 <| And.intro DD_47 <| And.intro DD_96 <| And.intro DD_23 <| And.intro DD_52 <| And.intro DD_26 <| And.intro DD_61 <| And.intro DD_62 <| And.intro DD_67 <| And.intro DD_68 <| And.intro DD_69 <| And.intro DD_70 <| And.intro DD_71 <| And.intro DD_72 <| And.intro DD_44 <| And.intro DD_57 <| And.intro DD_45 <| And.intro DD_51 <| And.intro DD_49 <| And.intro DD_53 <| And.intro DD_21 <| And.intro DD_59 <| And.intro DD_66 <| And.intro DD_88 <| And.intro DD_27 <| And.intro DD_46 <| And.intro DD_83 <| And.intro DD_55 <| And.intro DD_95 <| And.intro DD_63 <| And.intro DD_65 <| And.intro DD_86 <| And.intro DD_56 <| And.intro DD_22 <| And.intro DD_25 <| And.intro DD_31 <| And.intro DD_48 <| And.intro DD_74 <| And.intro DD_75 <| And.intro DD_76 <| And.intro DD_73 <| And.intro DD_24 <| And.intro DD_50 <| And.intro DD_54 <| And.intro DD_58 <| And.intro DD_30 <| And.intro DD_77 <| DD_28) := And.intro DD_16 <| And.intro DD_19 <| And.intro DD_20 <| And.intro DD_17 <| And.intro DD_18 <| And.intro DD_60 <| And.intro DD_94 <| And.intro DD_47 <| And.intro DD_96 <| And.intro DD_23 <| And.intro DD_52 <| And.intro DD_26 <| And.intro DD_61 <| And.intro DD_62 <| And.intro DD_67 <| And.intro DD_68 <| And.intro DD_69 <| And.intro DD_70 <| And.intro DD_71 <| And.intro DD_72 <| And.intro DD_44 <| And.intro DD_57 <| And.intro DD_45 <| And.intro DD_51 <| And.intro DD_49 <| And.intro DD_53 <| And.intro DD_21 <| And.intro DD_59 <| And.intro DD_66 <| And.intro DD_88 <| And.intro DD_27 <| And.intro DD_46 <| And.intro DD_83 <| And.intro DD_55 <| And.intro DD_95 <| And.intro DD_63 <| And.intro DD_65 <| And.intro DD_86 <| And.intro DD_56 <| And.intro DD_22 <| And.intro DD_25 <| And.intro DD_31 <| And.intro DD_48 <| And.intro DD_74 <| And.intro DD_75 <| And.intro DD_76 <| And.intro DD_73 <| And.intro DD_24 <| And.intro DD_50 <| And.intro DD_54 <| And.intro DD_58 <| And.intro DD_30 <| And.intro DD_77 <| DD_28

theorem tells12_law (c : Cf) (m : List Int) (f : Fr) (hm : InM m) : PureC Try.prog 3 [cv' c, ms m, fv f] (bv true) := by
  refine pure_sub okDD 1 Try.func3 rfl (by show 3 ≤ _; decide) ?_
  by_cases hl : m.length ≤ 500
  · have h1 : ¬ (m.length : Int) > 500 := by omega
    have h2 : m.length ≤ 1000 := by omega
    have h3 : (qStep c m f).1.length ≤ 1000 := by rw [len_qStep]; omega
    have h4 : rqStep c m f = qStep c m f := rqStep_eq hm f
    have h5 : rqList c m = qList c m := rqList_eq hm
    have h6 : (qList c m).1.length ≤ 1000 := by
      by_cases hc : mayC c = true
      · have := len_qList c m hc; omega
      · have e : qList c m = ([], false) := if_pos (.inl (by simp [eLen, hc]))
        rw [e]; simp
    simp only [Try.f3, DD_all, h1, h2, h3, h4, h5, h6, inl, lv, fv, sv, fBegin, fEnd, hfree_fr, hfree_cf, cv', cf_eta, frz_u, shC_dec, dC, T23, T28, T25, hfree_lu, hfree_l0, row0, row1, row2, row3, row4, row5, shI_dec, shN_dec, shB_dec, shM_dec, dI, dN, dB, dM, dU, dU_map, iv, bv, u, ms, ctx_T, ctx_C, ctx_P, T4, T3, T26, Option.bind_some, Option.bind_none, Option.map_some, List.length_map, List.length_set, String.reduceBEq, Int.toNat_natCast, Bool.true_beq, Bool.false_beq, T24, shF_dec, dF, fr_eta, ev1, ev2, implies_true, undef, stepP, dynCall, ↓condE_t, ↓condE_f, ↓guardE_tt, ↓guardE_ff, ↓guardE_tf, ↓guardE_ft, frzDeep, deepArgs, deepArg, resB, cv, stepB, stepE, callD, tabD, snapD, snap1, snapC, snapId, snapIds, guardB, guardC, dstAt, aopR, one, pre, binR, intOpR, shiftOpR, unR, argFrm, evo, lkp, hlk, lenOf, asLst, idOf, bndA, srcOk, ofVal, ofCells, setCells, fillA, setElems, fieldsOf, fieldsEq, scalEq, isEq, AV.wr, AV.ok1, TK.agg, frz, frzs, frzA, frzArg, frzArgs, subA, subL, sub1, kp, kh, accOf, List.replicate, Nat.reduceAdd, Nat.reduceSub, Nat.reduceMul, Nat.reduceEqDiff, Nat.reduceLT, Nat.reduceLeDiff, Nat.reduceBEq, reduceIte, reduceCtorEq, eq_self, ne_eq, Int.reduceToNat, Int.reduceLT, Int.reduceLE, Int.reduceGT, Int.reduceGE, Int.reduceBEq, Int.reduceBNe, Int.reduceEq, Int.reduceNe]
  · have h1 : (m.length : Int) > 500 := by omega
    simp only [Try.f3, DD_all, h1, inl, lv, fv, sv, fBegin, fEnd, hfree_fr, hfree_cf, cv', cf_eta, frz_u, shC_dec, dC, T23, T28, T25, hfree_lu, hfree_l0, row0, row1, row2, row3, row4, row5, shI_dec, shN_dec, shB_dec, shM_dec, dI, dN, dB, dM, dU, dU_map, iv, bv, u, ms, ctx_T, ctx_C, ctx_P, T4, T3, T26, Option.bind_some, Option.bind_none, Option.map_some, List.length_map, List.length_set, String.reduceBEq, Int.toNat_natCast, Bool.true_beq, Bool.false_beq, T24, shF_dec, dF, fr_eta, ev1, ev2, implies_true, undef, stepP, dynCall, ↓condE_t, ↓condE_f, ↓guardE_tt, ↓guardE_ff, ↓guardE_tf, ↓guardE_ft, frzDeep, deepArgs, deepArg, resB, cv, stepB, stepE, callD, tabD, snapD, snap1, snapC, snapId, snapIds, guardB, guardC, dstAt, aopR, one, pre, binR, intOpR, shiftOpR, unR, argFrm, evo, lkp, hlk, lenOf, asLst, idOf, bndA, srcOk, ofVal, ofCells, setCells, fillA, setElems, fieldsOf, fieldsEq, scalEq, isEq, AV.wr, AV.ok1, TK.agg, frz, frzs, frzA, frzArg, frzArgs, subA, subL, sub1, kp, kh, accOf, List.replicate, Nat.reduceAdd, Nat.reduceSub, Nat.reduceMul, Nat.reduceEqDiff, Nat.reduceLT, Nat.reduceLeDiff, Nat.reduceBEq, reduceIte, reduceCtorEq, eq_self, ne_eq, Int.reduceToNat, Int.reduceLT, Int.reduceLE, Int.reduceGT, Int.reduceGE, Int.reduceBEq, Int.reduceBNe, Int.reduceEq, Int.reduceNe]
    all_goals ((repeat' apply And.intro) <;> first | rfl | omega | (show entryOk _ _ _ _ _ = true; kernel_rfl) | (show pivotOk _ _ = true; kernel_rfl) | decide)
end Go.Vai
