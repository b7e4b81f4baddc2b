/- The injector in cells, by numbers and lists alone: what is where, and what a step does. -/
import Derived.Test.YtinjbaccnclhdaaM5
namespace Go.Vai
open Go.RowKit
set_option linter.unusedVariables false
set_option linter.unusedSimpArgs false

def eSeq (c : Cf) (x : Int) : Int := if mayC c then 6 + x.tmod c.i else -1
def eVal (c : Cf) (x : Int) : Int := if mayC c then 6 + c.i + x.tmod c.i else -1
/-- The sequence of a slot that is free for a place. -/
def eFree (c : Cf) (x : Int) : Int := wrapU (wrapU (x.tdiv c.i) * 2)

/-- An injector's cells are there. -/
structure Inj (c : Cf) (m : List Int) : Prop where
  may : mayC c = true
  len : (m.length : Int) = lSize c

def goesE (c : Cf) (m : List Int) (f : Fr) (op : Int) : Bool := mayC c && decide ((m.length : Int) = lSize c ∧ f.res = 0 ∧ f.op = op ∧ 0 ≤ f.pc ∧ f.pc < 5)
theorem goesE_iff {c : Cf} {m : List Int} {f : Fr} {op : Int} : goesE c m f op = true ↔ Inj c m ∧ f.res = 0 ∧ f.op = op ∧ 0 ≤ f.pc ∧ f.pc < 5 := by
  constructor
  · intro h
    simp [goesE] at h
    exact ⟨⟨h.1, h.2.1⟩, h.2.2⟩
  · rintro ⟨h, h1, h2, h3, h4⟩
    simp [goesE, h.may, h.len, h1, h2, h3, h4]

/-- A put's next step. -/
def eStep (c : Cf) (m : List Int) (f : Fr) : List Int × Fr :=
  if goesE c m f 3 = true then
    if f.pc = 0 then (m, ⟨f.op, 1, f.who, f.val, mLoad m 5, f.y, f.res⟩)
    else if f.pc = 1 then
      if mLoad m (eSeq c f.x) = eFree c f.x then (m, ⟨f.op, 2, f.who, f.val, f.x, mLoad m (eSeq c f.x), f.res⟩)
      else if far (mLoad m (eSeq c f.x)) (eFree c f.x) < 0 then (m, fEnd f 2 f.val)
      else (m, ⟨f.op, 0, f.who, f.val, f.x, mLoad m (eSeq c f.x), f.res⟩)
    else if f.pc = 2 then (mCas m 5 f.x (wrapU (f.x + 1)), ⟨f.op, if mCasB m 5 f.x = true then 3 else 0, f.who, f.val, f.x, f.y, f.res⟩)
    else if f.pc = 3 then (mStore m (eVal c f.x) f.val, ⟨f.op, 4, f.who, f.val, f.x, f.y, f.res⟩)
    else (mStore m (eSeq c f.x) (wrapU (eFree c f.x + 1)), fEnd f 1 f.val)
  else (m, f)

/-- A take's. -/
def qStep (c : Cf) (m : List Int) (f : Fr) : List Int × Fr :=
  if goesE c m f 4 = true then
    if f.pc = 0 then (m, ⟨f.op, 1, f.who, f.val, mLoad m 4, f.y, f.res⟩)
    else if f.pc = 1 then
      if far (mLoad m (eSeq c f.x)) (wrapU (eFree c f.x + 1)) = 0 then (m, ⟨f.op, 2, f.who, f.val, f.x, mLoad m (eSeq c f.x), f.res⟩)
      else if far (mLoad m (eSeq c f.x)) (wrapU (eFree c f.x + 1)) < 0 then (m, fEnd f 3 0)
      else (m, ⟨f.op, 0, f.who, f.val, f.x, mLoad m (eSeq c f.x), f.res⟩)
    else if f.pc = 2 then (mCas m 4 f.x (wrapU (f.x + 1)), ⟨f.op, if mCasB m 4 f.x = true then 3 else 0, f.who, f.val, f.x, f.y, f.res⟩)
    else if f.pc = 3 then (m, ⟨f.op, 4, f.who, mLoad m (eVal c f.x), f.x, f.y, f.res⟩)
    else (mStore m (eSeq c f.x) (wrapU (wrapU (eFree c f.x + 1) + 1)), fEnd f 1 f.val)
  else (m, f)

/-- How many there are. -/
def eLen (c : Cf) (m : List Int) : Int := if mayC c && decide ((m.length : Int) = lSize c) then far (mLoad m 5) (mLoad m 4) else -1

theorem len_eStep (c : Cf) (m : List Int) (f : Fr) : (eStep c m f).1.length = m.length := by
  unfold eStep; repeat' split
  all_goals first | rfl | exact len_store .. | exact len_cas ..
theorem len_qStep (c : Cf) (m : List Int) (f : Fr) : (qStep c m f).1.length = m.length := by
  unfold qStep; repeat' split
  all_goals first | rfl | exact len_store .. | exact len_cas ..
theorem eStep_no {c : Cf} {m : List Int} {f : Fr} (h : goesE c m f 3 = false) : eStep c m f = (m, f) := by simp [eStep, h]
theorem qStep_no {c : Cf} {m : List Int} {f : Fr} (h : goesE c m f 4 = false) : qStep c m f = (m, f) := by simp [qStep, h]
theorem goesE_over {c : Cf} {m : List Int} {f : Fr} {op : Int} (h : f.res ≠ 0) : goesE c m f op = false := by simp [goesE, h]

section
variable {c : Cf} {m : List Int}
theorem Inj.store (h : Inj c m) (i v : Int) : Inj c (mStore m i v) := ⟨h.may, by rw [len_store]; exact h.len⟩
theorem Inj.cas (h : Inj c m) (i v x : Int) : Inj c (mCas m i v x) := ⟨h.may, by rw [len_cas]; exact h.len⟩
theorem Inj.ipos (h : Inj c m) : 1 ≤ c.i ∧ c.i ≤ 16 := ⟨(mayC_iff.1 h.may).2.2.2.1, (mayC_iff.1 h.may).2.2.2.2.1⟩
theorem Inj.size (h : Inj c m) : 6 + 2 * c.i ≤ m.length ∧ (m.length : Int) ≤ 190 := by
  obtain ⟨h1, h2, h3, h4, h5, h6, h7⟩ := mayC_iff.1 h.may
  have hl := h.len
  unfold lSize at hl
  rw [h.may, if_pos rfl] at hl
  unfold lBase at *
  rcases h3 with e | e | e | e | e <;> rw [e] at hl <;> omega
theorem Inj.seq (h : Inj c m) {x : Int} (hx : InU x) : eSeq c x = 6 + x % c.i := by
  unfold eSeq InU at *
  rw [h.may, if_pos rfl, Int.tmod_eq_emod_of_nonneg hx.1]
theorem Inj.val (h : Inj c m) {x : Int} (hx : InU x) : eVal c x = 6 + c.i + x % c.i := by
  unfold eVal InU at *
  rw [h.may, if_pos rfl, Int.tmod_eq_emod_of_nonneg hx.1]
theorem Inj.mod (h : Inj c m) (x : Int) : 0 ≤ x % c.i ∧ x % c.i < c.i := ⟨Int.emod_nonneg _ (by have := h.ipos; omega), Int.emod_lt_of_pos _ (by have := h.ipos; omega)⟩
theorem Inj.in_tail (h : Inj c m) : isIn m 5 = true := by have := h.size; have := h.ipos; simp [isIn]; omega
theorem Inj.in_head (h : Inj c m) : isIn m 4 = true := by have := h.size; have := h.ipos; simp [isIn]; omega
theorem Inj.in_seq (h : Inj c m) {x : Int} (hx : InU x) : isIn m (eSeq c x) = true := by
  have := h.size; have := h.ipos; have := h.mod x; rw [h.seq hx]; simp [isIn]; omega
theorem Inj.in_val (h : Inj c m) {x : Int} (hx : InU x) : isIn m (eVal c x) = true := by
  have := h.size; have := h.ipos; have := h.mod x; rw [h.val hx]; simp [isIn]; omega
end
end Go.Vai
