/- The injector by numbers: what a step leaves as it is. -/
import Derived.Test.YtinjbaccnclhdaaM8
import Derived.Test.YtinjbaccnclhdaaM6
namespace Go.Vai
open Go.RowKit
set_option linter.unusedVariables false
set_option linter.unusedSimpArgs false

theorem eSeq_lt {c : Cf} (hm : mayC c = true) (x : Int) : eSeq c x < 6 + c.i := by
  have hi : 1 ≤ c.i := (mayC_iff.1 hm).2.2.2.1
  have := Int.tmod_lt_of_pos x (show 0 < c.i by omega)
  unfold eSeq; rw [hm, if_pos rfl]; omega
theorem eVal_lt {c : Cf} (hm : mayC c = true) (x : Int) : eVal c x < 6 + 2 * c.i := by
  have hi : 1 ≤ c.i := (mayC_iff.1 hm).2.2.2.1
  have := Int.tmod_lt_of_pos x (show 0 < c.i by omega)
  unfold eVal; rw [hm, if_pos rfl]; omega

theorem load_cas_other {m : List Int} {i k : Int} (h : i ≠ k) (v w : Int) : mLoad (mCas m i v w) k = mLoad m k := by
  cases hc : mCasB m i v with
  | true => rw [cas_store hc, load_other h]
  | false => rw [cas_not hc]

/-- A put's step changes no deque's cells. -/
theorem eStep_far {c : Cf} {m : List Int} {f : Fr} {j : Int} (hj : 6 + 2 * c.i ≤ j) : mLoad (eStep c m f).1 j = mLoad m j := by
  unfold eStep
  split
  · rename_i hg
    have hm := (goesE_iff.1 hg).1.may
    have hi : 1 ≤ c.i := (mayC_iff.1 hm).2.2.2.1
    have h1 := eSeq_lt hm f.x
    have h2 := eVal_lt hm f.x
    repeat' split
    all_goals first | rfl | exact load_cas_other (by omega) _ _ | exact load_other (by omega) _
  · rfl
theorem qStep_far {c : Cf} {m : List Int} {f : Fr} {j : Int} (hj : 6 + 2 * c.i ≤ j) : mLoad (qStep c m f).1 j = mLoad m j := by
  unfold qStep
  split
  · rename_i hg
    have hm := (goesE_iff.1 hg).1.may
    have hi : 1 ≤ c.i := (mayC_iff.1 hm).2.2.2.1
    have h1 := eSeq_lt hm f.x
    have h2 := eVal_lt hm f.x
    repeat' split
    all_goals first | rfl | exact load_cas_other (by omega) _ _ | exact load_other (by omega) _
  · rfl

theorem base_far {c : Cf} {m : List Int} {w : Int} (h : Lay c m w) : 6 + 2 * c.i ≤ lBase c w := by
  have h0 := h.lo
  unfold lBase
  rcases h.dpos with e | e | e | e | e <;> rw [e] <;> omega

theorem list_far {c : Cf} {m m' : List Int} {w : Int} (hl : m'.length = m.length) (h : ∀ j, 6 + 2 * c.i ≤ j → mLoad m' j = mLoad m j) : dIs c m' w = dIs c m w ∧ dList c m' w = dList c m w := by
  refine list_congr hl fun hL => ?_
  have hb := base_far hL
  have a := top_at hL
  have b := bottom_at hL
  exact ⟨h _ (by omega), h _ (by omega), fun x => h _ (by have := slot_at hL x; omega)⟩

/-- What is put in, alone, changes no deque. -/
theorem eStep_list (c : Cf) (m : List Int) (f : Fr) (w : Int) : dIs c (eStep c m f).1 w = dIs c m w ∧ dList c (eStep c m f).1 w = dList c m w :=
  list_far (len_eStep ..) fun j hj => eStep_far hj
theorem qStep_list (c : Cf) (m : List Int) (f : Fr) (w : Int) : dIs c (qStep c m f).1 w = dIs c m w ∧ dList c (qStep c m f).1 w = dList c m w :=
  list_far (len_qStep ..) fun j hj => qStep_far hj

section
variable {c : Cf} {m : List Int} {w v x y : Int}
theorem goes_e {pc : Int} (h : Inj c m) (h0 : 0 ≤ pc) (h1 : pc < 5) : goesE c m ⟨3, pc, w, v, x, y, 0⟩ 3 = true := goesE_iff.2 ⟨h, rfl, rfl, h0, h1⟩
theorem goes_q {pc : Int} (h : Inj c m) (h0 : 0 ≤ pc) (h1 : pc < 5) : goesE c m ⟨4, pc, w, v, x, y, 0⟩ 4 = true := goesE_iff.2 ⟨h, rfl, rfl, h0, h1⟩
theorem enq_1 (h : Inj c m) : eStep c m ⟨3, 0, w, v, x, y, 0⟩ = (m, ⟨3, 1, w, v, mLoad m 5, y, 0⟩) := by simp [eStep, goes_e h]
theorem enq_2 (h : Inj c m) (e : mLoad m (eSeq c x) = eFree c x) : eStep c m ⟨3, 1, w, v, x, y, 0⟩ = (m, ⟨3, 2, w, v, x, eFree c x, 0⟩) := by simp [eStep, goes_e h, e]
theorem enq_2f (h : Inj c m) (e : far (mLoad m (eSeq c x)) (eFree c x) < 0) (ne : mLoad m (eSeq c x) ≠ eFree c x) : eStep c m ⟨3, 1, w, v, x, y, 0⟩ = (m, ⟨3, 0, w, v, 0, 0, 2⟩) := by simp [eStep, goes_e h, e, ne, fEnd]
theorem enq_3 (h : Inj c m) (e : mCasB m 5 x = true) : eStep c m ⟨3, 2, w, v, x, y, 0⟩ = (mStore m 5 (wrapU (x + 1)), ⟨3, 3, w, v, x, y, 0⟩) := by simp [eStep, goes_e h, e, cas_store e]
theorem enq_3r (h : Inj c m) (e : mCasB m 5 x = false) : eStep c m ⟨3, 2, w, v, x, y, 0⟩ = (m, ⟨3, 0, w, v, x, y, 0⟩) := by simp [eStep, goes_e h, e, cas_not e]
theorem enq_4 (h : Inj c m) : eStep c m ⟨3, 3, w, v, x, y, 0⟩ = (mStore m (eVal c x) v, ⟨3, 4, w, v, x, y, 0⟩) := by simp [eStep, goes_e h]
theorem enq_5 (h : Inj c m) : eStep c m ⟨3, 4, w, v, x, y, 0⟩ = (mStore m (eSeq c x) (wrapU (eFree c x + 1)), ⟨3, 0, w, v, 0, 0, 1⟩) := by simp [eStep, goes_e h, fEnd]
theorem enq_over {f : Fr} (h : f.res ≠ 0) : eStep c m f = (m, f) := eStep_no (goesE_over h)
end
end Go.Vai
