/- The evaluator, the plain texts and the contracts that this claim leans on, part BE: nothing of the statement is claimed here. -/
import Derived.Test.YtbhmjfccbidpeaaBD
import Derived.Test.YtbhmjfccbidpeaaBC
/- The injector in cells, by numbers and lists alone: what is where, and what a step does. -/
namespace Go.Vai
open Go.RowKit
set_option linter.unusedVariables false
set_option linter.unusedSimpArgs false

def eSeq (c : Cf) (x : Int) : Int := if mayC c then 6 + x.tmod c.i else -1
def eVal (c : Cf) (x : Int) : Int := if mayC c then 6 + c.i + x.tmod c.i else -1
/-- The sequence of a slot that is free for a place. -/
def eFree (c : Cf) (x : Int) : Int := wrapU (wrapU (x.tdiv c.i) * 2)

/-- An injector's cells are there. -/
structure Inj (c : Cf) (m : List Int) : Prop where
  may : mayC c = true
  len : (m.length : Int) = lSize c

def goesE (c : Cf) (m : List Int) (f : Fr) (op : Int) : Bool := mayC c && decide ((m.length : Int) = lSize c ∧ f.res = 0 ∧ f.op = op ∧ 0 ≤ f.pc ∧ f.pc < 5)
theorem goesE_iff {c : Cf} {m : List Int} {f : Fr} {op : Int} : goesE c m f op = true ↔ Inj c m ∧ f.res = 0 ∧ f.op = op ∧ 0 ≤ f.pc ∧ f.pc < 5 := by
  constructor
  · intro h
    simp [goesE] at h
    exact ⟨⟨h.1, h.2.1⟩, h.2.2⟩
  · rintro ⟨h, h1, h2, h3, h4⟩
    simp [goesE, h.may, h.len, h1, h2, h3, h4]

/-- A put's next step. -/
def eStep (c : Cf) (m : List Int) (f : Fr) : List Int × Fr :=
  if goesE c m f 3 = true then
    if f.pc = 0 then (m, ⟨f.op, 1, f.who, f.val, mLoad m 5, f.y, f.res⟩)
    else if f.pc = 1 then
      if mLoad m (eSeq c f.x) = eFree c f.x then (m, ⟨f.op, 2, f.who, f.val, f.x, mLoad m (eSeq c f.x), f.res⟩)
      else if far (mLoad m (eSeq c f.x)) (eFree c f.x) < 0 then (m, fEnd f 2 f.val)
      else (m, ⟨f.op, 0, f.who, f.val, f.x, mLoad m (eSeq c f.x), f.res⟩)
    else if f.pc = 2 then (mCas m 5 f.x (wrapU (f.x + 1)), ⟨f.op, if mCasB m 5 f.x = true then 3 else 0, f.who, f.val, f.x, f.y, f.res⟩)
    else if f.pc = 3 then (mStore m (eVal c f.x) f.val, ⟨f.op, 4, f.who, f.val, f.x, f.y, f.res⟩)
    else (mStore m (eSeq c f.x) (wrapU (eFree c f.x + 1)), fEnd f 1 f.val)
  else (m, f)

/-- A take's. -/
def qStep (c : Cf) (m : List Int) (f : Fr) : List Int × Fr :=
  if goesE c m f 4 = true then
    if f.pc = 0 then (m, ⟨f.op, 1, f.who, f.val, mLoad m 4, f.y, f.res⟩)
    else if f.pc = 1 then
      if far (mLoad m (eSeq c f.x)) (wrapU (eFree c f.x + 1)) = 0 then (m, ⟨f.op, 2, f.who, f.val, f.x, mLoad m (eSeq c f.x), f.res⟩)
      else if far (mLoad m (eSeq c f.x)) (wrapU (eFree c f.x + 1)) < 0 then (m, fEnd f 3 0)
      else (m, ⟨f.op, 0, f.who, f.val, f.x, mLoad m (eSeq c f.x), f.res⟩)
    else if f.pc = 2 then (mCas m 4 f.x (wrapU (f.x + 1)), ⟨f.op, if mCasB m 4 f.x = true then 3 else 0, f.who, f.val, f.x, f.y, f.res⟩)
    else if f.pc = 3 then (m, ⟨f.op, 4, f.who, mLoad m (eVal c f.x), f.x, f.y, f.res⟩)
    else (mStore m (eSeq c f.x) (wrapU (wrapU (eFree c f.x + 1) + 1)), fEnd f 1 f.val)
  else (m, f)

/-- How many there are. -/
def eLen (c : Cf) (m : List Int) : Int := if mayC c && decide ((m.length : Int) = lSize c) then far (mLoad m 5) (mLoad m 4) else -1

theorem len_eStep (c : Cf) (m : List Int) (f : Fr) : (eStep c m f).1.length = m.length := by
  unfold eStep; repeat' split
  all_goals first | rfl | exact len_store .. | exact len_cas ..
theorem len_qStep (c : Cf) (m : List Int) (f : Fr) : (qStep c m f).1.length = m.length := by
  unfold qStep; repeat' split
  all_goals first | rfl | exact len_store .. | exact len_cas ..
theorem eStep_no {c : Cf} {m : List Int} {f : Fr} (h : goesE c m f 3 = false) : eStep c m f = (m, f) := by simp [eStep, h]
theorem qStep_no {c : Cf} {m : List Int} {f : Fr} (h : goesE c m f 4 = false) : qStep c m f = (m, f) := by simp [qStep, h]
theorem goesE_over {c : Cf} {m : List Int} {f : Fr} {op : Int} (h : f.res ≠ 0) : goesE c m f op = false := by simp [goesE, h]

section
variable {c : Cf} {m : List Int}
theorem Inj.store (h : Inj c m) (i v : Int) : Inj c (mStore m i v) := ⟨h.may, by rw [len_store]; exact h.len⟩
theorem Inj.cas (h : Inj c m) (i v x : Int) : Inj c (mCas m i v x) := ⟨h.may, by rw [len_cas]; exact h.len⟩
theorem Inj.ipos (h : Inj c m) : 1 ≤ c.i ∧ c.i ≤ 16 := ⟨(mayC_iff.1 h.may).2.2.2.1, (mayC_iff.1 h.may).2.2.2.2.1⟩
theorem Inj.size (h : Inj c m) : 6 + 2 * c.i ≤ m.length ∧ (m.length : Int) ≤ 190 := by
  obtain ⟨h1, h2, h3, h4, h5, h6, h7⟩ := mayC_iff.1 h.may
  have hl := h.len
  unfold lSize at hl
  rw [h.may, if_pos rfl] at hl
  unfold lBase at *
  rcases h3 with e | e | e | e | e <;> rw [e] at hl <;> omega
theorem Inj.seq (h : Inj c m) {x : Int} (hx : InU x) : eSeq c x = 6 + x % c.i := by
  unfold eSeq InU at *
  rw [h.may, if_pos rfl, Int.tmod_eq_emod_of_nonneg hx.1]
theorem Inj.val (h : Inj c m) {x : Int} (hx : InU x) : eVal c x = 6 + c.i + x % c.i := by
  unfold eVal InU at *
  rw [h.may, if_pos rfl, Int.tmod_eq_emod_of_nonneg hx.1]
theorem Inj.mod (h : Inj c m) (x : Int) : 0 ≤ x % c.i ∧ x % c.i < c.i := ⟨Int.emod_nonneg _ (by have := h.ipos; omega), Int.emod_lt_of_pos _ (by have := h.ipos; omega)⟩
theorem Inj.in_tail (h : Inj c m) : isIn m 5 = true := by have := h.size; have := h.ipos; simp [isIn]; omega
theorem Inj.in_head (h : Inj c m) : isIn m 4 = true := by have := h.size; have := h.ipos; simp [isIn]; omega
theorem Inj.in_seq (h : Inj c m) {x : Int} (hx : InU x) : isIn m (eSeq c x) = true := by
  have := h.size; have := h.ipos; have := h.mod x; rw [h.seq hx]; simp [isIn]; omega
theorem Inj.in_val (h : Inj c m) {x : Int} (hx : InU x) : isIn m (eVal c x) = true := by
  have := h.size; have := h.ipos; have := h.mod x; rw [h.val hx]; simp [isIn]; omega
end
end Go.Vai
/- The injector by numbers: what a step leaves as it is. -/
namespace Go.Vai
open Go.RowKit
set_option linter.unusedVariables false
set_option linter.unusedSimpArgs false

theorem eSeq_lt {c : Cf} (hm : mayC c = true) (x : Int) : eSeq c x < 6 + c.i := by
  have hi : 1 ≤ c.i := (mayC_iff.1 hm).2.2.2.1
  have := Int.tmod_lt_of_pos x (show 0 < c.i by omega)
  unfold eSeq; rw [hm, if_pos rfl]; omega
theorem eVal_lt {c : Cf} (hm : mayC c = true) (x : Int) : eVal c x < 6 + 2 * c.i := by
  have hi : 1 ≤ c.i := (mayC_iff.1 hm).2.2.2.1
  have := Int.tmod_lt_of_pos x (show 0 < c.i by omega)
  unfold eVal; rw [hm, if_pos rfl]; omega

theorem load_cas_other {m : List Int} {i k : Int} (h : i ≠ k) (v w : Int) : mLoad (mCas m i v w) k = mLoad m k := by
  cases hc : mCasB m i v with
  | true => rw [cas_store hc, load_other h]
  | false => rw [cas_not hc]

/-- A put's step changes no deque's cells. -/
theorem eStep_far {c : Cf} {m : List Int} {f : Fr} {j : Int} (hj : 6 + 2 * c.i ≤ j) : mLoad (eStep c m f).1 j = mLoad m j := by
  unfold eStep
  split
  · rename_i hg
    have hm := (goesE_iff.1 hg).1.may
    have hi : 1 ≤ c.i := (mayC_iff.1 hm).2.2.2.1
    have h1 := eSeq_lt hm f.x
    have h2 := eVal_lt hm f.x
    repeat' split
    all_goals first | rfl | exact load_cas_other (by omega) _ _ | exact load_other (by omega) _
  · rfl
theorem qStep_far {c : Cf} {m : List Int} {f : Fr} {j : Int} (hj : 6 + 2 * c.i ≤ j) : mLoad (qStep c m f).1 j = mLoad m j := by
  unfold qStep
  split
  · rename_i hg
    have hm := (goesE_iff.1 hg).1.may
    have hi : 1 ≤ c.i := (mayC_iff.1 hm).2.2.2.1
    have h1 := eSeq_lt hm f.x
    have h2 := eVal_lt hm f.x
    repeat' split
    all_goals first | rfl | exact load_cas_other (by omega) _ _ | exact load_other (by omega) _
  · rfl

theorem base_far {c : Cf} {m : List Int} {w : Int} (h : Lay c m w) : 6 + 2 * c.i ≤ lBase c w := by
  have h0 := h.lo
  unfold lBase
  rcases h.dpos with e | e | e | e | e <;> rw [e] <;> omega

theorem list_far {c : Cf} {m m' : List Int} {w : Int} (hl : m'.length = m.length) (h : ∀ j, 6 + 2 * c.i ≤ j → mLoad m' j = mLoad m j) : dIs c m' w = dIs c m w ∧ dList c m' w = dList c m w := by
  refine list_congr hl fun hL => ?_
  have hb := base_far hL
  have a := top_at hL
  have b := bottom_at hL
  exact ⟨h _ (by omega), h _ (by omega), fun x => h _ (by have := slot_at hL x; omega)⟩

/-- What is put in, alone, changes no deque. -/
theorem eStep_list (c : Cf) (m : List Int) (f : Fr) (w : Int) : dIs c (eStep c m f).1 w = dIs c m w ∧ dList c (eStep c m f).1 w = dList c m w :=
  list_far (len_eStep ..) fun j hj => eStep_far hj
theorem qStep_list (c : Cf) (m : List Int) (f : Fr) (w : Int) : dIs c (qStep c m f).1 w = dIs c m w ∧ dList c (qStep c m f).1 w = dList c m w :=
  list_far (len_qStep ..) fun j hj => qStep_far hj

section
variable {c : Cf} {m : List Int} {w v x y : Int}
theorem goes_e {pc : Int} (h : Inj c m) (h0 : 0 ≤ pc) (h1 : pc < 5) : goesE c m ⟨3, pc, w, v, x, y, 0⟩ 3 = true := goesE_iff.2 ⟨h, rfl, rfl, h0, h1⟩
theorem goes_q {pc : Int} (h : Inj c m) (h0 : 0 ≤ pc) (h1 : pc < 5) : goesE c m ⟨4, pc, w, v, x, y, 0⟩ 4 = true := goesE_iff.2 ⟨h, rfl, rfl, h0, h1⟩
theorem enq_1 (h : Inj c m) : eStep c m ⟨3, 0, w, v, x, y, 0⟩ = (m, ⟨3, 1, w, v, mLoad m 5, y, 0⟩) := by simp [eStep, goes_e h]
theorem enq_2 (h : Inj c m) (e : mLoad m (eSeq c x) = eFree c x) : eStep c m ⟨3, 1, w, v, x, y, 0⟩ = (m, ⟨3, 2, w, v, x, eFree c x, 0⟩) := by simp [eStep, goes_e h, e]
theorem enq_2f (h : Inj c m) (e : far (mLoad m (eSeq c x)) (eFree c x) < 0) (ne : mLoad m (eSeq c x) ≠ eFree c x) : eStep c m ⟨3, 1, w, v, x, y, 0⟩ = (m, ⟨3, 0, w, v, 0, 0, 2⟩) := by simp [eStep, goes_e h, e, ne, fEnd]
theorem enq_3 (h : Inj c m) (e : mCasB m 5 x = true) : eStep c m ⟨3, 2, w, v, x, y, 0⟩ = (mStore m 5 (wrapU (x + 1)), ⟨3, 3, w, v, x, y, 0⟩) := by simp [eStep, goes_e h, e, cas_store e]
theorem enq_3r (h : Inj c m) (e : mCasB m 5 x = false) : eStep c m ⟨3, 2, w, v, x, y, 0⟩ = (m, ⟨3, 0, w, v, x, y, 0⟩) := by simp [eStep, goes_e h, e, cas_not e]
theorem enq_4 (h : Inj c m) : eStep c m ⟨3, 3, w, v, x, y, 0⟩ = (mStore m (eVal c x) v, ⟨3, 4, w, v, x, y, 0⟩) := by simp [eStep, goes_e h]
theorem enq_5 (h : Inj c m) : eStep c m ⟨3, 4, w, v, x, y, 0⟩ = (mStore m (eSeq c x) (wrapU (eFree c x + 1)), ⟨3, 0, w, v, 0, 0, 1⟩) := by simp [eStep, goes_e h, fEnd]
theorem enq_over {f : Fr} (h : f.res ≠ 0) : eStep c m f = (m, f) := eStep_no (goesE_over h)
end
end Go.Vai
/- A new injector: as many go in as there is room for. -/
namespace Go.Vai
open Go.RowKit
set_option linter.unusedVariables false
set_option linter.unusedSimpArgs false

/-- An injector into which k were put, and out of which nothing was taken. -/
structure Fresh (c : Cf) (m : List Int) (k : Nat) : Prop where
  inj : Inj c m
  tail : mLoad m 5 = k
  head : mLoad m 4 = 0
  seq : ∀ j : Nat, (j : Int) < c.i → mLoad m (6 + j) = if j < k then 1 else 0
  room : (k : Int) ≤ c.i

theorem zeros_load (n : Nat) (i : Int) : mLoad (zeros n) i = 0 := by
  unfold mLoad
  split
  · rename_i h
    obtain ⟨_, _, h3⟩ := isIn_true h
    unfold zeros at *
    rw [List.getD_eq_getElem?_getD, List.getElem?_eq_getElem h3]
    simp
  · rfl

theorem fresh_new {c : Cf} (h : mayC c = true) : Fresh c (zeros (lSize c).toNat) 0 := by
  have hs : 0 ≤ lSize c := by
    obtain ⟨a1, a2, a3, a4, a5, a6, a7⟩ := mayC_iff.1 h
    unfold lSize lBase
    rw [h, if_pos rfl]
    rcases a3 with e | e | e | e | e <;> rw [e] <;> omega
  exact ⟨⟨h, by rw [zeros_len]; omega⟩, by rw [zeros_load]; rfl, zeros_load _ _, fun j _ => by rw [zeros_load]; simp, by have := mayC_iff.1 h; omega⟩

theorem slot_small {c : Cf} {m : List Int} (h : Inj c m) {k : Nat} (hk : (k : Int) < c.i) : eSeq c k = 6 + k ∧ eVal c k = 6 + c.i + k ∧ eFree c k = 0 := by
  have hi := h.ipos
  have e1 : Int.tmod (k : Int) c.i = k := Int.tmod_eq_of_lt (by omega) hk
  have e2 : Int.tdiv (k : Int) c.i = 0 := Int.tdiv_eq_zero_of_lt (by omega) hk
  refine ⟨?_, ?_, ?_⟩
  · unfold eSeq; rw [h.may, if_pos rfl, e1]
  · unfold eVal; rw [h.may, if_pos rfl, e1]
  · unfold eFree; rw [e2]; decide

/-- One is put in. -/
theorem fresh_put {c : Cf} {m : List Int} {k : Nat} (h : Fresh c m k) (hk : (k : Int) < c.i) (w v : Int) :
    ∃ m3 m4 m5, eStep c m ⟨3, 0, w, v, 0, 0, 0⟩ = (m, ⟨3, 1, w, v, k, 0, 0⟩) ∧ eStep c m ⟨3, 1, w, v, k, 0, 0⟩ = (m, ⟨3, 2, w, v, k, 0, 0⟩) ∧
      eStep c m ⟨3, 2, w, v, k, 0, 0⟩ = (m3, ⟨3, 3, w, v, k, 0, 0⟩) ∧ eStep c m3 ⟨3, 3, w, v, k, 0, 0⟩ = (m4, ⟨3, 4, w, v, k, 0, 0⟩) ∧ eStep c m4 ⟨3, 4, w, v, k, 0, 0⟩ = (m5, ⟨3, 0, w, v, 0, 0, 1⟩) ∧
      m3.length = m.length ∧ m4.length = m.length ∧ m5.length = m.length ∧ Fresh c m5 (k + 1) := by
  obtain ⟨s1, s2, s3⟩ := slot_small h.inj hk
  have hi := h.inj.ipos
  have hsz := h.inj.size
  have i3 := h.inj.store 5 (wrapU ((k : Int) + 1))
  have i4 := i3.store (eVal c k) v
  have hw : wrapU ((k : Int) + 1) = k + 1 := by rw [wrapU_eq]; omega
  have hseq : mLoad m (eSeq c k) = eFree c k := by rw [s1, s3, h.seq k hk]; simp
  have hcas : mCasB m 5 k = true := by simp [mCasB, h.inj.in_tail, h.tail]
  refine ⟨_, _, _, ?_, ?_, enq_3 h.inj hcas, enq_4 i3, enq_5 i4, len_store .., by rw [len_store, len_store], by rw [len_store, len_store, len_store], ?_⟩
  · rw [enq_1 h.inj, h.tail]
  · have := enq_2 (w := w) (v := v) (x := (k : Int)) (y := 0) h.inj hseq
    rw [s3] at this; exact this
  · have hin4 : isIn m (eSeq c k) = true := by rw [s1]; simp [isIn]; omega
    have i5 := i4.store (eSeq c k) (wrapU (eFree c k + 1))
    rw [s1, s2, s3] at i5
    rw [s1, s2, s3]
    refine ⟨i5, ?_, ?_, ?_, by omega⟩
    · rw [load_other (by omega), load_other (by omega), load_store h.inj.in_tail, hw]; omega
    · rw [load_other (by omega), load_other (by omega), load_other (by omega), h.head]
    · intro j hj
      by_cases e : j = k
      · subst e
        rw [load_store (by rw [in_store, in_store]; simp [isIn]; omega), if_pos (Nat.lt_succ_self _)]
        rfl
      · rw [load_other (by omega), load_other (by omega), load_other (by omega), h.seq j hj]
        by_cases l : j < k
        · rw [if_pos l, if_pos (by omega)]
        · rw [if_neg l, if_neg (by omega)]

/-- There is no room. -/
theorem fresh_full {c : Cf} {m : List Int} {k : Nat} (h : Fresh c m k) (hk : (k : Int) = c.i) (w v : Int) :
    eStep c m ⟨3, 0, w, v, 0, 0, 0⟩ = (m, ⟨3, 1, w, v, k, 0, 0⟩) ∧ eStep c m ⟨3, 1, w, v, k, 0, 0⟩ = (m, ⟨3, 0, w, v, 0, 0, 2⟩) := by
  have hi := h.inj.ipos
  have e1 : Int.tmod (k : Int) c.i = 0 := by rw [hk]; exact Int.tmod_self
  have e2 : Int.tdiv (k : Int) c.i = 1 := by rw [hk]; exact Int.tdiv_self (by omega)
  have s1 : eSeq c k = 6 := by unfold eSeq; rw [h.inj.may, if_pos rfl, e1]; rfl
  have s3 : eFree c k = 2 := by unfold eFree; rw [e2]; decide
  have hl : mLoad m 6 = 1 := by have := h.seq 0 (by omega); rw [if_pos (by omega)] at this; exact this
  refine ⟨by rw [enq_1 h.inj, h.tail], enq_2f h.inj (by rw [s1, s3, hl]; decide) (by rw [s1, s3, hl]; decide)⟩

theorem fresh_len {c : Cf} {m : List Int} {k : Nat} (h : Fresh c m k) : eLen c m = k := by
  have hi := h.inj.ipos
  have hr := h.room
  have e : eLen c m = far (mLoad m 5) (mLoad m 4) := by simp [eLen, h.inj.may, h.inj.len]
  rw [e, h.tail, h.head, far_eq (by unfold InU; omega) (by unfold InU; omega)]
  omega
end Go.Vai
/- Layouts: where the injector's cells are. -/
namespace Go.Vai
open Go.RowKit Go.Proofs
set_option linter.unusedSimpArgs false
set_option linter.unusedVariables false
set_option maxHeartbeats 4000000
set_option maxRecDepth 100000

def rowsLE : List Row := [] ++ rowsLB
theorem rowsLE_ok : ∀ p ∈ rowsLE, RowOk Try.prog p := fun p h => by
  simp only [rowsLE, List.mem_append, List.mem_cons, List.not_mem_nil, or_false, false_or, or_assoc] at h
  rcases h with h
  · exact rowsLB_ok p h
theorem okLE : (ctx Try.prog rowsLE).ok := rows_ok rowsLE_ok
theorem LE_64 : tabC rowsLE 64 = fun _ => none := rfl
theorem LE_92 : tabC rowsLE 92 = fun _ => none := rfl
theorem LE_27 : tabC rowsLE 27 = row1 shC fun c => some (bv (mayC c)) := rfl
theorem LE_46 : tabC rowsLE 46 = row2 shN shN fun a b => some (iv (far a b)) := rfl
theorem LE_83 : tabC rowsLE 83 = row1 shC fun c => some (bv (mayC c)) := rfl
theorem LE_55 : tabC rowsLE 55 = row2 shN shN fun a b => some (iv (far a b)) := rfl
theorem LE_95 : tabC rowsLE 95 = row2 shC shI fun c w => if mayC c = true ∧ 0 ≤ w ∧ w ≤ 8 then some (iv (lBase c w)) else none := rfl
theorem LE_63 : tabC rowsLE 63 = fun _ => none := rfl
theorem LE_65 : tabC rowsLE 65 = fun _ => none := rfl
theorem LE_all : type_of% (And.intro LE_64 <| And.intro LE_92 <| And.intro LE_27 <| And.intro LE_46 <| And.intro LE_83 <| And.intro LE_55 <| And.intro LE_95 <| And.intro LE_63 <| LE_65) := And.intro LE_64 <| And.intro LE_92 <| And.intro LE_27 <| And.intro LE_46 <| And.intro LE_83 <| And.intro LE_55 <| And.intro LE_95 <| And.intro LE_63 <| LE_65

/-- What the walk asks at an injector's slot. -/
theorem inj_at {c : Cf} {x : Int} (hm : mayC c = true) : IntKind.wrap .i64 (c.w - 1) = c.w - 1 ∧ (0 : Int) ≤ c.w - 1 ∧ IntKind.wrap .u64 c.i = c.i ∧ c.i ≠ 0 ∧ IntKind.wrap .i64 (x.tmod c.i) = x.tmod c.i ∧
    IntKind.wrap .i64 (6 + x.tmod c.i) = 6 + x.tmod c.i ∧ IntKind.wrap .i64 (6 + c.i) = 6 + c.i ∧ IntKind.wrap .i64 (6 + c.i + x.tmod c.i) = 6 + c.i + x.tmod c.i := by
  obtain ⟨a1, a2, a3, a4, a5, a6, a7⟩ := mayC_iff.1 hm
  have hr : -16 < x.tmod c.i ∧ x.tmod c.i < 16 := by
    have h1 := Int.tmod_lt_of_pos x (show 0 < c.i by omega)
    have h2 := Int.lt_tmod_of_pos x (show 0 < c.i by omega)
    omega
  exact ⟨wrap_i (by omega) (by omega), by omega, by rw [IntKind.wrap_u64]; omega, by omega, wrap_i (by omega) (by omega), wrap_i (by omega) (by omega), wrap_i (by omega) (by omega), wrap_i (by omega) (by omega)⟩

theorem seq_pure (c : Cf) (x : Int) : PureC Try.prog 24 [cv' c, u x] (iv (eSeq c x)) := by
  refine pure_sub okLE 3 Try.func24 rfl (by show 2 ≤ _; decide) ?_
  cases hm : mayC c with
  | false => simp only [Try.f24, Try.func63, Try.f63, Try.func64, Try.f64, Try.func65, Try.f65, inl, LE_all, eSeq, hm, cv', cf_eta, shC_dec, dC, T23, T80, hfree_lu, hfree_l0, row0, row1, row2, row3, row4, row5, shI_dec, shN_dec, shB_dec, shM_dec, dI, dN, dB, dM, dU, dU_map, iv, bv, u, ms, ctx_T, ctx_C, ctx_P, T4, T3, T26, Option.bind_some, Option.bind_none, Option.map_some, List.length_map, List.length_set, String.reduceBEq, Int.toNat_natCast, Bool.true_beq, Bool.false_beq, ev1, ev2, implies_true, undef, stepP, dynCall, ↓condE_t, ↓condE_f, ↓guardE_tt, ↓guardE_ff, ↓guardE_tf, ↓guardE_ft, frzDeep, deepArgs, deepArg, resB, cv, stepB, stepE, callD, tabD, snapD, snap1, snapC, snapId, snapIds, guardB, guardC, dstAt, aopR, one, pre, binR, intOpR, shiftOpR, unR, argFrm, evo, lkp, hlk, lenOf, asLst, idOf, bndA, srcOk, ofVal, ofCells, setCells, fillA, setElems, fieldsOf, fieldsEq, scalEq, isEq, AV.wr, AV.ok1, TK.agg, frz, frzs, frzA, frzArg, frzArgs, subA, subL, sub1, kp, kh, accOf, List.replicate, Nat.reduceAdd, Nat.reduceSub, Nat.reduceMul, Nat.reduceEqDiff, Nat.reduceLT, Nat.reduceLeDiff, Nat.reduceBEq, reduceIte, reduceCtorEq, eq_self, ne_eq, Int.reduceToNat, Int.reduceLT, Int.reduceLE, Int.reduceGT, Int.reduceGE, Int.reduceBEq, Int.reduceBNe, Int.reduceEq, Int.reduceNe]
  | true =>
    obtain ⟨h0, h1, h2, h3, h4, h5, h6, h7⟩ := inj_at (x := x) hm
    simp only [Try.f24, Try.func63, Try.f63, Try.func64, Try.f64, Try.func65, Try.f65, inl, LE_all, eSeq, hm, h0, h1, h2, h3, h4, h5, h6, h7, cv', cf_eta, shC_dec, dC, T23, T80, hfree_lu, hfree_l0, row0, row1, row2, row3, row4, row5, shI_dec, shN_dec, shB_dec, shM_dec, dI, dN, dB, dM, dU, dU_map, iv, bv, u, ms, ctx_T, ctx_C, ctx_P, T4, T3, T26, Option.bind_some, Option.bind_none, Option.map_some, List.length_map, List.length_set, String.reduceBEq, Int.toNat_natCast, Bool.true_beq, Bool.false_beq, ev1, ev2, implies_true, undef, stepP, dynCall, ↓condE_t, ↓condE_f, ↓guardE_tt, ↓guardE_ff, ↓guardE_tf, ↓guardE_ft, frzDeep, deepArgs, deepArg, resB, cv, stepB, stepE, callD, tabD, snapD, snap1, snapC, snapId, snapIds, guardB, guardC, dstAt, aopR, one, pre, binR, intOpR, shiftOpR, unR, argFrm, evo, lkp, hlk, lenOf, asLst, idOf, bndA, srcOk, ofVal, ofCells, setCells, fillA, setElems, fieldsOf, fieldsEq, scalEq, isEq, AV.wr, AV.ok1, TK.agg, frz, frzs, frzA, frzArg, frzArgs, subA, subL, sub1, kp, kh, accOf, List.replicate, Nat.reduceAdd, Nat.reduceSub, Nat.reduceMul, Nat.reduceEqDiff, Nat.reduceLT, Nat.reduceLeDiff, Nat.reduceBEq, reduceIte, reduceCtorEq, eq_self, ne_eq, Int.reduceToNat, Int.reduceLT, Int.reduceLE, Int.reduceGT, Int.reduceGE, Int.reduceBEq, Int.reduceBNe, Int.reduceEq, Int.reduceNe]
    all_goals ((repeat' apply And.intro) <;> first | rfl | omega | (show entryOk _ _ _ _ _ = true; kernel_rfl) | (show pivotOk _ _ = true; kernel_rfl) | decide)

theorem val_pure (c : Cf) (x : Int) : PureC Try.prog 50 [cv' c, u x] (iv (eVal c x)) := by
  refine pure_sub okLE 3 Try.func50 rfl (by show 2 ≤ _; decide) ?_
  cases hm : mayC c with
  | false => simp only [Try.f50, Try.func63, Try.f63, Try.func92, Try.f92, Try.func65, Try.f65, inl, LE_all, eVal, hm, cv', cf_eta, shC_dec, dC, T23, T80, hfree_lu, hfree_l0, row0, row1, row2, row3, row4, row5, shI_dec, shN_dec, shB_dec, shM_dec, dI, dN, dB, dM, dU, dU_map, iv, bv, u, ms, ctx_T, ctx_C, ctx_P, T4, T3, T26, Option.bind_some, Option.bind_none, Option.map_some, List.length_map, List.length_set, String.reduceBEq, Int.toNat_natCast, Bool.true_beq, Bool.false_beq, ev1, ev2, implies_true, undef, stepP, dynCall, ↓condE_t, ↓condE_f, ↓guardE_tt, ↓guardE_ff, ↓guardE_tf, ↓guardE_ft, frzDeep, deepArgs, deepArg, resB, cv, stepB, stepE, callD, tabD, snapD, snap1, snapC, snapId, snapIds, guardB, guardC, dstAt, aopR, one, pre, binR, intOpR, shiftOpR, unR, argFrm, evo, lkp, hlk, lenOf, asLst, idOf, bndA, srcOk, ofVal, ofCells, setCells, fillA, setElems, fieldsOf, fieldsEq, scalEq, isEq, AV.wr, AV.ok1, TK.agg, frz, frzs, frzA, frzArg, frzArgs, subA, subL, sub1, kp, kh, accOf, List.replicate, Nat.reduceAdd, Nat.reduceSub, Nat.reduceMul, Nat.reduceEqDiff, Nat.reduceLT, Nat.reduceLeDiff, Nat.reduceBEq, reduceIte, reduceCtorEq, eq_self, ne_eq, Int.reduceToNat, Int.reduceLT, Int.reduceLE, Int.reduceGT, Int.reduceGE, Int.reduceBEq, Int.reduceBNe, Int.reduceEq, Int.reduceNe]
  | true =>
    obtain ⟨h0, h1, h2, h3, h4, h5, h6, h7⟩ := inj_at (x := x) hm
    simp only [Try.f50, Try.func63, Try.f63, Try.func92, Try.f92, Try.func65, Try.f65, inl, LE_all, eVal, hm, h0, h1, h2, h3, h4, h5, h6, h7, cv', cf_eta, shC_dec, dC, T23, T80, hfree_lu, hfree_l0, row0, row1, row2, row3, row4, row5, shI_dec, shN_dec, shB_dec, shM_dec, dI, dN, dB, dM, dU, dU_map, iv, bv, u, ms, ctx_T, ctx_C, ctx_P, T4, T3, T26, Option.bind_some, Option.bind_none, Option.map_some, List.length_map, List.length_set, String.reduceBEq, Int.toNat_natCast, Bool.true_beq, Bool.false_beq, ev1, ev2, implies_true, undef, stepP, dynCall, ↓condE_t, ↓condE_f, ↓guardE_tt, ↓guardE_ff, ↓guardE_tf, ↓guardE_ft, frzDeep, deepArgs, deepArg, resB, cv, stepB, stepE, callD, tabD, snapD, snap1, snapC, snapId, snapIds, guardB, guardC, dstAt, aopR, one, pre, binR, intOpR, shiftOpR, unR, argFrm, evo, lkp, hlk, lenOf, asLst, idOf, bndA, srcOk, ofVal, ofCells, setCells, fillA, setElems, fieldsOf, fieldsEq, scalEq, isEq, AV.wr, AV.ok1, TK.agg, frz, frzs, frzA, frzArg, frzArgs, subA, subL, sub1, kp, kh, accOf, List.replicate, Nat.reduceAdd, Nat.reduceSub, Nat.reduceMul, Nat.reduceEqDiff, Nat.reduceLT, Nat.reduceLeDiff, Nat.reduceBEq, reduceIte, reduceCtorEq, eq_self, ne_eq, Int.reduceToNat, Int.reduceLT, Int.reduceLE, Int.reduceGT, Int.reduceGE, Int.reduceBEq, Int.reduceBNe, Int.reduceEq, Int.reduceNe]
    all_goals ((repeat' apply And.intro) <;> first | rfl | omega | (show entryOk _ _ _ _ _ = true; kernel_rfl) | (show pivotOk _ _ = true; kernel_rfl) | decide)

theorem rseq_pure (c : Cf) (x : Int) : PureC Try.prog 54 [cv' c, u x] (iv (eSeq c x)) := by
  refine pure_sub okLB 1 Try.func54 rfl (by show 2 ≤ _; decide) ?_
  cases hm : mayC c with
  | false => simp only [Try.f54, LB_all, eSeq, hm, cv', cf_eta, shC_dec, dC, T23, T80, hfree_lu, hfree_l0, row0, row1, row2, row3, row4, row5, shI_dec, shN_dec, shB_dec, shM_dec, dI, dN, dB, dM, dU, dU_map, iv, bv, u, ms, ctx_T, ctx_C, ctx_P, T4, T3, T26, Option.bind_some, Option.bind_none, Option.map_some, List.length_map, List.length_set, String.reduceBEq, Int.toNat_natCast, Bool.true_beq, Bool.false_beq, ev1, ev2, implies_true, undef, stepP, dynCall, ↓condE_t, ↓condE_f, ↓guardE_tt, ↓guardE_ff, ↓guardE_tf, ↓guardE_ft, frzDeep, deepArgs, deepArg, resB, cv, stepB, stepE, callD, tabD, snapD, snap1, snapC, snapId, snapIds, guardB, guardC, dstAt, aopR, one, pre, binR, intOpR, shiftOpR, unR, argFrm, evo, lkp, hlk, lenOf, asLst, idOf, bndA, srcOk, ofVal, ofCells, setCells, fillA, setElems, fieldsOf, fieldsEq, scalEq, isEq, AV.wr, AV.ok1, TK.agg, frz, frzs, frzA, frzArg, frzArgs, subA, subL, sub1, kp, kh, accOf, List.replicate, Nat.reduceAdd, Nat.reduceSub, Nat.reduceMul, Nat.reduceEqDiff, Nat.reduceLT, Nat.reduceLeDiff, Nat.reduceBEq, reduceIte, reduceCtorEq, eq_self, ne_eq, Int.reduceToNat, Int.reduceLT, Int.reduceLE, Int.reduceGT, Int.reduceGE, Int.reduceBEq, Int.reduceBNe, Int.reduceEq, Int.reduceNe]
  | true =>
    obtain ⟨h0, h1, h2, h3, h4, h5, h6, h7⟩ := inj_at (x := x) hm
    simp only [Try.f54, LB_all, eSeq, hm, h2, h3, h4, h5, h6, h7, cv', cf_eta, shC_dec, dC, T23, T80, hfree_lu, hfree_l0, row0, row1, row2, row3, row4, row5, shI_dec, shN_dec, shB_dec, shM_dec, dI, dN, dB, dM, dU, dU_map, iv, bv, u, ms, ctx_T, ctx_C, ctx_P, T4, T3, T26, Option.bind_some, Option.bind_none, Option.map_some, List.length_map, List.length_set, String.reduceBEq, Int.toNat_natCast, Bool.true_beq, Bool.false_beq, ev1, ev2, implies_true, undef, stepP, dynCall, ↓condE_t, ↓condE_f, ↓guardE_tt, ↓guardE_ff, ↓guardE_tf, ↓guardE_ft, frzDeep, deepArgs, deepArg, resB, cv, stepB, stepE, callD, tabD, snapD, snap1, snapC, snapId, snapIds, guardB, guardC, dstAt, aopR, one, pre, binR, intOpR, shiftOpR, unR, argFrm, evo, lkp, hlk, lenOf, asLst, idOf, bndA, srcOk, ofVal, ofCells, setCells, fillA, setElems, fieldsOf, fieldsEq, scalEq, isEq, AV.wr, AV.ok1, TK.agg, frz, frzs, frzA, frzArg, frzArgs, subA, subL, sub1, kp, kh, accOf, List.replicate, Nat.reduceAdd, Nat.reduceSub, Nat.reduceMul, Nat.reduceEqDiff, Nat.reduceLT, Nat.reduceLeDiff, Nat.reduceBEq, reduceIte, reduceCtorEq, eq_self, ne_eq, Int.reduceToNat, Int.reduceLT, Int.reduceLE, Int.reduceGT, Int.reduceGE, Int.reduceBEq, Int.reduceBNe, Int.reduceEq, Int.reduceNe]
    all_goals ((repeat' apply And.intro) <;> first | rfl | omega | (show entryOk _ _ _ _ _ = true; kernel_rfl) | (show pivotOk _ _ = true; kernel_rfl) | decide)

theorem rval_pure (c : Cf) (x : Int) : PureC Try.prog 58 [cv' c, u x] (iv (eVal c x)) := by
  refine pure_sub okLB 1 Try.func58 rfl (by show 2 ≤ _; decide) ?_
  cases hm : mayC c with
  | false => simp only [Try.f58, LB_all, eVal, hm, cv', cf_eta, shC_dec, dC, T23, T80, hfree_lu, hfree_l0, row0, row1, row2, row3, row4, row5, shI_dec, shN_dec, shB_dec, shM_dec, dI, dN, dB, dM, dU, dU_map, iv, bv, u, ms, ctx_T, ctx_C, ctx_P, T4, T3, T26, Option.bind_some, Option.bind_none, Option.map_some, List.length_map, List.length_set, String.reduceBEq, Int.toNat_natCast, Bool.true_beq, Bool.false_beq, ev1, ev2, implies_true, undef, stepP, dynCall, ↓condE_t, ↓condE_f, ↓guardE_tt, ↓guardE_ff, ↓guardE_tf, ↓guardE_ft, frzDeep, deepArgs, deepArg, resB, cv, stepB, stepE, callD, tabD, snapD, snap1, snapC, snapId, snapIds, guardB, guardC, dstAt, aopR, one, pre, binR, intOpR, shiftOpR, unR, argFrm, evo, lkp, hlk, lenOf, asLst, idOf, bndA, srcOk, ofVal, ofCells, setCells, fillA, setElems, fieldsOf, fieldsEq, scalEq, isEq, AV.wr, AV.ok1, TK.agg, frz, frzs, frzA, frzArg, frzArgs, subA, subL, sub1, kp, kh, accOf, List.replicate, Nat.reduceAdd, Nat.reduceSub, Nat.reduceMul, Nat.reduceEqDiff, Nat.reduceLT, Nat.reduceLeDiff, Nat.reduceBEq, reduceIte, reduceCtorEq, eq_self, ne_eq, Int.reduceToNat, Int.reduceLT, Int.reduceLE, Int.reduceGT, Int.reduceGE, Int.reduceBEq, Int.reduceBNe, Int.reduceEq, Int.reduceNe]
  | true =>
    obtain ⟨h0, h1, h2, h3, h4, h5, h6, h7⟩ := inj_at (x := x) hm
    simp only [Try.f58, LB_all, eVal, hm, h2, h3, h4, h5, h6, h7, cv', cf_eta, shC_dec, dC, T23, T80, hfree_lu, hfree_l0, row0, row1, row2, row3, row4, row5, shI_dec, shN_dec, shB_dec, shM_dec, dI, dN, dB, dM, dU, dU_map, iv, bv, u, ms, ctx_T, ctx_C, ctx_P, T4, T3, T26, Option.bind_some, Option.bind_none, Option.map_some, List.length_map, List.length_set, String.reduceBEq, Int.toNat_natCast, Bool.true_beq, Bool.false_beq, ev1, ev2, implies_true, undef, stepP, dynCall, ↓condE_t, ↓condE_f, ↓guardE_tt, ↓guardE_ff, ↓guardE_tf, ↓guardE_ft, frzDeep, deepArgs, deepArg, resB, cv, stepB, stepE, callD, tabD, snapD, snap1, snapC, snapId, snapIds, guardB, guardC, dstAt, aopR, one, pre, binR, intOpR, shiftOpR, unR, argFrm, evo, lkp, hlk, lenOf, asLst, idOf, bndA, srcOk, ofVal, ofCells, setCells, fillA, setElems, fieldsOf, fieldsEq, scalEq, isEq, AV.wr, AV.ok1, TK.agg, frz, frzs, frzA, frzArg, frzArgs, subA, subL, sub1, kp, kh, accOf, List.replicate, Nat.reduceAdd, Nat.reduceSub, Nat.reduceMul, Nat.reduceEqDiff, Nat.reduceLT, Nat.reduceLeDiff, Nat.reduceBEq, reduceIte, reduceCtorEq, eq_self, ne_eq, Int.reduceToNat, Int.reduceLT, Int.reduceLE, Int.reduceGT, Int.reduceGE, Int.reduceBEq, Int.reduceBNe, Int.reduceEq, Int.reduceNe]
    all_goals ((repeat' apply And.intro) <;> first | rfl | omega | (show entryOk _ _ _ _ _ = true; kernel_rfl) | (show pivotOk _ _ = true; kernel_rfl) | decide)

def rowsLI : List Row := [
  (24, row2 shC shN fun c x => some (iv (eSeq c x))), 
  (50, row2 shC shN fun c x => some (iv (eVal c x))), 
  (54, row2 shC shN fun c x => some (iv (eSeq c x))), 
  (58, row2 shC shN fun c x => some (iv (eVal c x)))] ++ rowsLT
theorem rowsLI_ok : ∀ p ∈ rowsLI, RowOk Try.prog p := fun p h => by
  simp only [rowsLI, List.mem_append, List.mem_cons, List.not_mem_nil, or_false, false_or, or_assoc] at h
  rcases h with rfl | rfl | rfl | rfl | h
  · exact ok_row2 (enters_of Try.func24 (by decide) rfl) fun c x r _ _ e => by cases e; exact seq_pure c x
  · exact ok_row2 (enters_of Try.func50 (by decide) rfl) fun c x r _ _ e => by cases e; exact val_pure c x
  · exact ok_row2 (enters_of Try.func54 (by decide) rfl) fun c x r _ _ e => by cases e; exact rseq_pure c x
  · exact ok_row2 (enters_of Try.func58 (by decide) rfl) fun c x r _ _ e => by cases e; exact rval_pure c x
  · exact rowsLT_ok p h
theorem okLI : (ctx Try.prog rowsLI).ok := rows_ok rowsLI_ok
theorem LI_24 : tabC rowsLI 24 = row2 shC shN fun c x => some (iv (eSeq c x)) := rfl
theorem LI_50 : tabC rowsLI 50 = row2 shC shN fun c x => some (iv (eVal c x)) := rfl
theorem LI_54 : tabC rowsLI 54 = row2 shC shN fun c x => some (iv (eSeq c x)) := rfl
theorem LI_58 : tabC rowsLI 58 = row2 shC shN fun c x => some (iv (eVal c x)) := rfl
theorem LI_66 : tabC rowsLI 66 = row1 shC fun c => some (iv (lSize c)) := rfl
theorem LI_88 : tabC rowsLI 88 = row1 shC fun c => some (iv (lSize c)) := rfl
theorem LI_27 : tabC rowsLI 27 = row1 shC fun c => some (bv (mayC c)) := rfl
theorem LI_46 : tabC rowsLI 46 = row2 shN shN fun a b => some (iv (far a b)) := rfl
theorem LI_83 : tabC rowsLI 83 = row1 shC fun c => some (bv (mayC c)) := rfl
theorem LI_55 : tabC rowsLI 55 = row2 shN shN fun a b => some (iv (far a b)) := rfl
theorem LI_95 : tabC rowsLI 95 = row2 shC shI fun c w => if mayC c = true ∧ 0 ≤ w ∧ w ≤ 8 then some (iv (lBase c w)) else none := rfl
theorem LI_63 : tabC rowsLI 63 = fun _ => none := rfl
theorem LI_65 : tabC rowsLI 65 = fun _ => none := rfl
theorem LI_all : type_of% (And.intro LI_24 <| And.intro LI_50 <| And.intro LI_54 <| And.intro LI_58 <| And.intro LI_66 <| And.intro LI_88 <| And.intro LI_27 <| And.intro LI_46 <| And.intro LI_83 <| And.intro LI_55 <| And.intro LI_95 <| And.intro LI_63 <| LI_65) := And.intro LI_24 <| And.intro LI_50 <| And.intro LI_54 <| And.intro LI_58 <| And.intro LI_66 <| And.intro LI_88 <| And.intro LI_27 <| And.intro LI_46 <| And.intro LI_83 <| And.intro LI_55 <| And.intro LI_95 <| And.intro LI_63 <| LI_65
end Go.Vai
/- Putting into the injector: what the functions of the layer compute. -/
namespace Go.Vai
open Go.RowKit Go.Proofs
set_option linter.unusedSimpArgs false
set_option linter.unusedVariables false
set_option maxHeartbeats 4000000
set_option maxRecDepth 100000

def rowsEA : List Row := [] ++ rowsPA ++ rowsLI
theorem rowsEA_ok : ∀ p ∈ rowsEA, RowOk Try.prog p := fun p h => by
  simp only [rowsEA, List.mem_append, List.mem_cons, List.not_mem_nil, or_false, false_or, or_assoc] at h
  rcases h with h | h
  · exact rowsPA_ok p h
  · exact rowsLI_ok p h
theorem okEA : (ctx Try.prog rowsEA).ok := rows_ok rowsEA_ok
theorem EA_62 : tabC rowsEA 62 = fun _ => none := rfl
theorem EA_96 : tabC rowsEA 96 = fun _ => none := rfl
theorem EA_67 : tabC rowsEA 67 = fun _ => none := rfl
theorem EA_68 : tabC rowsEA 68 = fun _ => none := rfl
theorem EA_69 : tabC rowsEA 69 = fun _ => none := rfl
theorem EA_70 : tabC rowsEA 70 = fun _ => none := rfl
theorem EA_71 : tabC rowsEA 71 = fun _ => none := rfl
theorem EA_72 : tabC rowsEA 72 = fun _ => none := rfl
theorem EA_44 : tabC rowsEA 44 = row1 shM fun m => some (ms m) := rfl
theorem EA_57 : tabC rowsEA 57 = row4 shM shI shN shN fun m i v w => some (.tup [ms (mCas m i v w), bv (mCasB m i v)]) := rfl
theorem EA_45 : tabC rowsEA 45 = row2 shM shI fun m i => some (u (mLoad m i)) := rfl
theorem EA_51 : tabC rowsEA 51 = row3 shM shI shN fun m i v => some (ms (mStore m i v)) := rfl
theorem EA_49 : tabC rowsEA 49 = row4 shM shI shN shN fun m i v w => some (.tup [ms (mCas m i v w), bv (mCasB m i v)]) := rfl
theorem EA_53 : tabC rowsEA 53 = row2 shM shI fun m i => some (u (mLoad m i)) := rfl
theorem EA_21 : tabC rowsEA 21 = row2 shM shM fun a b => some (bv (decide (a = b))) := rfl
theorem EA_59 : tabC rowsEA 59 = row3 shM shI shN fun m i v => some (ms (mStore m i v)) := rfl
theorem EA_66 : tabC rowsEA 66 = row1 shC fun c => some (iv (lSize c)) := rfl
theorem EA_88 : tabC rowsEA 88 = row1 shC fun c => some (iv (lSize c)) := rfl
theorem EA_27 : tabC rowsEA 27 = row1 shC fun c => some (bv (mayC c)) := rfl
theorem EA_46 : tabC rowsEA 46 = row2 shN shN fun a b => some (iv (far a b)) := rfl
theorem EA_83 : tabC rowsEA 83 = row1 shC fun c => some (bv (mayC c)) := rfl
theorem EA_55 : tabC rowsEA 55 = row2 shN shN fun a b => some (iv (far a b)) := rfl
theorem EA_95 : tabC rowsEA 95 = row2 shC shI fun c w => if mayC c = true ∧ 0 ≤ w ∧ w ≤ 8 then some (iv (lBase c w)) else none := rfl
theorem EA_63 : tabC rowsEA 63 = fun _ => none := rfl
theorem EA_65 : tabC rowsEA 65 = fun _ => none := rfl
theorem EA_86 : tabC rowsEA 86 = row1 shF fun f => some (bv (f.res != 0)) := rfl
theorem EA_56 : tabC rowsEA 56 = row3 shF shI shN fun f r v => some (fv (fEnd f r v)) := rfl
theorem EA_22 : tabC rowsEA 22 = row2 shM shM fun a b => some (bv (decide (a = b))) := rfl
theorem EA_25 : tabC rowsEA 25 = row3 shI shI shN fun o w v => some (fv (fBegin o w v)) := rfl
theorem EA_31 : tabC rowsEA 31 = row1 shF fun f => some (bv (f.res != 0)) := rfl
theorem EA_48 : tabC rowsEA 48 = row3 shF shI shN fun f r v => some (fv (fEnd f r v)) := rfl
theorem EA_74 : tabC rowsEA 74 = fun _ => none := rfl
theorem EA_75 : tabC rowsEA 75 = fun _ => none := rfl
theorem EA_76 : tabC rowsEA 76 = fun _ => none := rfl
theorem EA_73 : tabC rowsEA 73 = fun _ => none := rfl
theorem EA_24 : tabC rowsEA 24 = row2 shC shN fun c x => some (iv (eSeq c x)) := rfl
theorem EA_50 : tabC rowsEA 50 = row2 shC shN fun c x => some (iv (eVal c x)) := rfl
theorem EA_54 : tabC rowsEA 54 = row2 shC shN fun c x => some (iv (eSeq c x)) := rfl
theorem EA_58 : tabC rowsEA 58 = row2 shC shN fun c x => some (iv (eVal c x)) := rfl
theorem EA_all : type_of% (And.intro EA_62 <| And.intro EA_96 <| And.intro EA_67 <| And.intro EA_68 <| And.intro EA_69 <| And.intro EA_70 <| And.intro EA_71 <| And.intro EA_72 <| And.intro EA_44 <| And.intro EA_57 <| And.intro EA_45 <| And.intro EA_51 <| And.intro EA_49 <| And.intro EA_53 <| And.intro EA_21 <| And.intro EA_59 <| And.intro EA_66 <| And.intro EA_88 <| And.intro EA_27 <| And.intro EA_46 <| And.intro EA_83 <| And.intro EA_55 <| And.intro EA_95 <| And.intro EA_63 <| And.intro EA_65 <| And.intro EA_86 <| And.intro EA_56 <| And.intro EA_22 <| And.intro EA_25 <| And.intro EA_31 <| And.intro EA_48 <| And.intro EA_74 <| And.intro EA_75 <| And.intro EA_76 <| And.intro EA_73 <| And.intro EA_24 <| And.intro EA_50 <| And.intro EA_54 <| EA_58) := And.intro EA_62 <| And.intro EA_96 <| And.intro EA_67 <| And.intro EA_68 <| And.intro EA_69 <| And.intro EA_70 <| And.intro EA_71 <| And.intro EA_72 <| And.intro EA_44 <| And.intro EA_57 <| And.intro EA_45 <| And.intro EA_51 <| And.intro EA_49 <| And.intro EA_53 <| And.intro EA_21 <| And.intro EA_59 <| And.intro EA_66 <| And.intro EA_88 <| And.intro EA_27 <| And.intro EA_46 <| And.intro EA_83 <| And.intro EA_55 <| And.intro EA_95 <| And.intro EA_63 <| And.intro EA_65 <| And.intro EA_86 <| And.intro EA_56 <| And.intro EA_22 <| And.intro EA_25 <| And.intro EA_31 <| And.intro EA_48 <| And.intro EA_74 <| And.intro EA_75 <| And.intro EA_76 <| And.intro EA_73 <| And.intro EA_24 <| And.intro EA_50 <| And.intro EA_54 <| EA_58

/-- Cells of a call at hand as they are looked at: those that no number is told of count for nothing. -/
def plainC : AV → Bool
  | .v _ | .top => true
  | _ => false

theorem hfree_plain {x : AV} (h : plainC x = true) : HFree x := by
  cases x <;> first | exact hfree_v _ | exact hfree_top | cases h

theorem hfree_rptr {cs : List AV} (h : ∀ c ∈ cs, HFree c) : HFree (.rptr cs) := fun E _ k => by
  cases k with
  | rptr _ ad y hk h1 hx => exact .rptr _ _ y hk h1 fun j b hb => h b (List.mem_of_getElem? hb) E _ (hx j b hb)

/-- What is free, looked at. -/
def freeRow : List AV → Option AV
  | [.rptr [c0, c1, c2, c3, .v (.int .u64 x), c5, c6, c7, c8, .v (.int .i64 i), c10, c11]] =>
    if ([c0, c1, c2, c3, c5, c6, c7, c8, c10, c11].all plainC && decide (1 ≤ i ∧ i ≤ 16)) = true then some (u (wrapU (wrapU (x.tdiv i) * 2))) else none
  | _ => none

theorem free_pure (c0 c1 c2 c3 c5 c6 c7 c8 c10 c11 : AV) (x i : Int) (h1 : 1 ≤ i) (h2 : i ≤ 16) : PureC Try.prog 96 [.rptr [c0, c1, c2, c3, .v (.int .u64 x), c5, c6, c7, c8, .v (.int .i64 i), c10, c11]] (u (wrapU (wrapU (x.tdiv i) * 2))) := by
  refine pure_sub okPA 1 Try.func96 rfl (by show 1 ≤ _; decide) ?_
  have hd : IntKind.wrap .u64 i = i := by rw [IntKind.wrap_u64]; omega
  have hi0 : i ≠ 0 := by omega
  have hu : ∀ x, IntKind.wrap .u64 x = wrapU x := fun _ => rfl
  simp only [Try.f96, inl, hd, hi0, hu, T85, hfree_fr, hfree_cf, cv', cf_eta, frz_u, shC_dec, dC, T23, T28, T25, hfree_lu, hfree_l0, row0, row1, row2, row3, row4, row5, shI_dec, shN_dec, shB_dec, shM_dec, dI, dN, dB, dM, dU, dU_map, iv, bv, u, ms, ctx_T, ctx_C, ctx_P, T4, T3, T26, Option.bind_some, Option.bind_none, Option.map_some, List.length_map, List.length_set, String.reduceBEq, Int.toNat_natCast, Bool.true_beq, Bool.false_beq, T24, shF_dec, dF, fr_eta, ev1, ev2, implies_true, undef, stepP, dynCall, ↓condE_t, ↓condE_f, ↓guardE_tt, ↓guardE_ff, ↓guardE_tf, ↓guardE_ft, frzDeep, deepArgs, deepArg, resB, cv, stepB, stepE, callD, tabD, snapD, snap1, snapC, snapId, snapIds, guardB, guardC, dstAt, aopR, one, pre, binR, intOpR, shiftOpR, unR, argFrm, evo, lkp, hlk, lenOf, asLst, idOf, bndA, srcOk, ofVal, ofCells, setCells, fillA, setElems, fieldsOf, fieldsEq, scalEq, isEq, AV.wr, AV.ok1, TK.agg, frz, frzs, frzA, frzArg, frzArgs, subA, subL, sub1, kp, kh, accOf, List.replicate, Nat.reduceAdd, Nat.reduceSub, Nat.reduceMul, Nat.reduceEqDiff, Nat.reduceLT, Nat.reduceLeDiff, Nat.reduceBEq, reduceIte, reduceCtorEq, eq_self, ne_eq, Int.reduceToNat, Int.reduceLT, Int.reduceLE, Int.reduceGT, Int.reduceGE, Int.reduceBEq, Int.reduceBNe, Int.reduceEq, Int.reduceNe]
  all_goals ((repeat' apply And.intro) <;> first | rfl | omega | (show entryOk _ _ _ _ _ = true; kernel_rfl) | (show pivotOk _ _ = true; kernel_rfl) | decide)

theorem free_ok : RowOk Try.prog (96, freeRow) := by
  intro args r h
  dsimp only at h
  unfold freeRow at h
  split at h
  · rename_i c0 c1 c2 c3 x c5 c6 c7 c8 i c10 c11
    split at h
    · rename_i hc
      cases h
      simp only [Bool.and_eq_true, List.all_cons, List.all_nil, decide_eq_true_eq] at hc
      obtain ⟨⟨p0, p1, p2, p3, p5, p6, p7, p8, p10, p11, _⟩, h1, h2⟩ := hc
      refine ⟨enters_of Try.func96 (by decide) rfl, ?_, free_pure c0 c1 c2 c3 c5 c6 c7 c8 c10 c11 x i h1 h2⟩
      simp only [List.mem_cons, List.not_mem_nil, or_false]
      rintro _ rfl
      refine hfree_rptr ?_
      simp only [List.mem_cons, List.not_mem_nil, or_false]
      rintro c (rfl | rfl | rfl | rfl | rfl | rfl | rfl | rfl | rfl | rfl | rfl | rfl) <;> first | exact hfree_v _ | (apply hfree_plain; assumption)
    · cases h
  · cases h

theorem goesE_key (c : Cf) (m : List Int) (f : Fr) (op : Int) : goesE c m f op = (mayC c && ((m.length : Int) == lSize c) && !(f.res != 0) && (f.op == op) && decide (f.pc ≥ 0) && decide (f.pc < 5)) := by
  rw [Bool.eq_iff_iff]
  simp [goesE]
  constructor
  · rintro ⟨a, b, c, d, e, f⟩; simp_all
  · intro h; simp_all
theorem goesE_key' (c : Cf) (m : List Int) (f : Fr) (op : Int) : goesE c m f op = (mayC c && ((m.length : Int) == lSize c) && !(f.res != 0) && (f.op == op) && decide (f.pc ≥ 0) && decide (f.pc ≤ 4)) := by
  rw [goesE_key]
  congr 1
  rw [Bool.eq_iff_iff]
  simp only [decide_eq_true_eq]
  omega

theorem goesE_pure (c : Cf) (m : List Int) (f : Fr) (op : Int) (hm : m.length ≤ 1000) : PureC Try.prog 23 [cv' c, ms m, fv f, iv op] (bv (goesE c m f op)) := by
  refine pure_sub okEA 2 Try.func23 rfl (by show 4 ≤ _; decide) ?_
  rw [goesE_key]
  simp only [Try.f23, Try.func62, Try.f62, inl, EA_all, fv, hfree_fr, hfree_cf, cv', cf_eta, frz_u, shC_dec, dC, T23, T28, T25, hfree_lu, hfree_l0, row0, row1, row2, row3, row4, row5, shI_dec, shN_dec, shB_dec, shM_dec, dI, dN, dB, dM, dU, dU_map, iv, bv, u, ms, ctx_T, ctx_C, ctx_P, T4, T3, T26, Option.bind_some, Option.bind_none, Option.map_some, List.length_map, List.length_set, String.reduceBEq, Int.toNat_natCast, Bool.true_beq, Bool.false_beq, T24, shF_dec, dF, fr_eta, ev1, ev2, implies_true, undef, stepP, dynCall, ↓condE_t, ↓condE_f, ↓guardE_tt, ↓guardE_ff, ↓guardE_tf, ↓guardE_ft, frzDeep, deepArgs, deepArg, resB, cv, stepB, stepE, callD, tabD, snapD, snap1, snapC, snapId, snapIds, guardB, guardC, dstAt, aopR, one, pre, binR, intOpR, shiftOpR, unR, argFrm, evo, lkp, hlk, lenOf, asLst, idOf, bndA, srcOk, ofVal, ofCells, setCells, fillA, setElems, fieldsOf, fieldsEq, scalEq, isEq, AV.wr, AV.ok1, TK.agg, frz, frzs, frzA, frzArg, frzArgs, subA, subL, sub1, kp, kh, accOf, List.replicate, Nat.reduceAdd, Nat.reduceSub, Nat.reduceMul, Nat.reduceEqDiff, Nat.reduceLT, Nat.reduceLeDiff, Nat.reduceBEq, reduceIte, reduceCtorEq, eq_self, ne_eq, Int.reduceToNat, Int.reduceLT, Int.reduceLE, Int.reduceGT, Int.reduceGE, Int.reduceBEq, Int.reduceBNe, Int.reduceEq, Int.reduceNe]
  repeat' first | apply And.intro | intro _
  all_goals first | rfl | (simp_all; done) | (simp_all; intros; omega)

theorem rgoesE_pure (c : Cf) (m : List Int) (f : Fr) (op : Int) (hm : m.length ≤ 1000) : PureC Try.prog 52 [cv' c, ms m, fv f, iv op] (bv (goesE c m f op)) := by
  refine pure_sub okEA 1 Try.func52 rfl (by show 4 ≤ _; decide) ?_
  rw [goesE_key']
  simp only [Try.f52, inl, EA_all, fv, hfree_fr, hfree_cf, cv', cf_eta, frz_u, shC_dec, dC, T23, T28, T25, hfree_lu, hfree_l0, row0, row1, row2, row3, row4, row5, shI_dec, shN_dec, shB_dec, shM_dec, dI, dN, dB, dM, dU, dU_map, iv, bv, u, ms, ctx_T, ctx_C, ctx_P, T4, T3, T26, Option.bind_some, Option.bind_none, Option.map_some, List.length_map, List.length_set, String.reduceBEq, Int.toNat_natCast, Bool.true_beq, Bool.false_beq, T24, shF_dec, dF, fr_eta, ev1, ev2, implies_true, undef, stepP, dynCall, ↓condE_t, ↓condE_f, ↓guardE_tt, ↓guardE_ff, ↓guardE_tf, ↓guardE_ft, frzDeep, deepArgs, deepArg, resB, cv, stepB, stepE, callD, tabD, snapD, snap1, snapC, snapId, snapIds, guardB, guardC, dstAt, aopR, one, pre, binR, intOpR, shiftOpR, unR, argFrm, evo, lkp, hlk, lenOf, asLst, idOf, bndA, srcOk, ofVal, ofCells, setCells, fillA, setElems, fieldsOf, fieldsEq, scalEq, isEq, AV.wr, AV.ok1, TK.agg, frz, frzs, frzA, frzArg, frzArgs, subA, subL, sub1, kp, kh, accOf, List.replicate, Nat.reduceAdd, Nat.reduceSub, Nat.reduceMul, Nat.reduceEqDiff, Nat.reduceLT, Nat.reduceLeDiff, Nat.reduceBEq, reduceIte, reduceCtorEq, eq_self, ne_eq, Int.reduceToNat, Int.reduceLT, Int.reduceLE, Int.reduceGT, Int.reduceGE, Int.reduceBEq, Int.reduceBNe, Int.reduceEq, Int.reduceNe]
  repeat' first | apply And.intro | intro _
  all_goals first | rfl | (simp_all; done) | (simp_all; intros; omega)

theorem length_pure (c : Cf) (m : List Int) (hm : m.length ≤ 1000) : PureC Try.prog 26 [cv' c, ms m] (iv (eLen c m)) := by
  refine pure_sub okEA 2 Try.func26 rfl (by show 2 ≤ _; decide) ?_
  cases h1 : mayC c with
  | false =>
    have e : eLen c m = -1 := by simp [eLen, h1]
    simp only [Try.f26, Try.func62, Try.f62, inl, EA_all, h1, e, fv, hfree_fr, hfree_cf, cv', cf_eta, frz_u, shC_dec, dC, T23, T28, T25, hfree_lu, hfree_l0, row0, row1, row2, row3, row4, row5, shI_dec, shN_dec, shB_dec, shM_dec, dI, dN, dB, dM, dU, dU_map, iv, bv, u, ms, ctx_T, ctx_C, ctx_P, T4, T3, T26, Option.bind_some, Option.bind_none, Option.map_some, List.length_map, List.length_set, String.reduceBEq, Int.toNat_natCast, Bool.true_beq, Bool.false_beq, T24, shF_dec, dF, fr_eta, ev1, ev2, implies_true, undef, stepP, dynCall, ↓condE_t, ↓condE_f, ↓guardE_tt, ↓guardE_ff, ↓guardE_tf, ↓guardE_ft, frzDeep, deepArgs, deepArg, resB, cv, stepB, stepE, callD, tabD, snapD, snap1, snapC, snapId, snapIds, guardB, guardC, dstAt, aopR, one, pre, binR, intOpR, shiftOpR, unR, argFrm, evo, lkp, hlk, lenOf, asLst, idOf, bndA, srcOk, ofVal, ofCells, setCells, fillA, setElems, fieldsOf, fieldsEq, scalEq, isEq, AV.wr, AV.ok1, TK.agg, frz, frzs, frzA, frzArg, frzArgs, subA, subL, sub1, kp, kh, accOf, List.replicate, Nat.reduceAdd, Nat.reduceSub, Nat.reduceMul, Nat.reduceEqDiff, Nat.reduceLT, Nat.reduceLeDiff, Nat.reduceBEq, reduceIte, reduceCtorEq, eq_self, ne_eq, Int.reduceToNat, Int.reduceLT, Int.reduceLE, Int.reduceGT, Int.reduceGE, Int.reduceBEq, Int.reduceBNe, Int.reduceEq, Int.reduceNe]
    all_goals ((repeat' apply And.intro) <;> first | rfl | omega | (show entryOk _ _ _ _ _ = true; kernel_rfl) | (show pivotOk _ _ = true; kernel_rfl) | decide)
  | true =>
    cases h2 : ((m.length : Int) == lSize c) with
    | false =>
      have e : eLen c m = -1 := by
        have : ¬ (m.length : Int) = lSize c := by simpa using h2
        simp [eLen, this]
      simp only [Try.f26, Try.func62, Try.f62, inl, EA_all, h1, h2, e, fv, hfree_fr, hfree_cf, cv', cf_eta, frz_u, shC_dec, dC, T23, T28, T25, hfree_lu, hfree_l0, row0, row1, row2, row3, row4, row5, shI_dec, shN_dec, shB_dec, shM_dec, dI, dN, dB, dM, dU, dU_map, iv, bv, u, ms, ctx_T, ctx_C, ctx_P, T4, T3, T26, Option.bind_some, Option.bind_none, Option.map_some, List.length_map, List.length_set, String.reduceBEq, Int.toNat_natCast, Bool.true_beq, Bool.false_beq, T24, shF_dec, dF, fr_eta, ev1, ev2, implies_true, undef, stepP, dynCall, ↓condE_t, ↓condE_f, ↓guardE_tt, ↓guardE_ff, ↓guardE_tf, ↓guardE_ft, frzDeep, deepArgs, deepArg, resB, cv, stepB, stepE, callD, tabD, snapD, snap1, snapC, snapId, snapIds, guardB, guardC, dstAt, aopR, one, pre, binR, intOpR, shiftOpR, unR, argFrm, evo, lkp, hlk, lenOf, asLst, idOf, bndA, srcOk, ofVal, ofCells, setCells, fillA, setElems, fieldsOf, fieldsEq, scalEq, isEq, AV.wr, AV.ok1, TK.agg, frz, frzs, frzA, frzArg, frzArgs, subA, subL, sub1, kp, kh, accOf, List.replicate, Nat.reduceAdd, Nat.reduceSub, Nat.reduceMul, Nat.reduceEqDiff, Nat.reduceLT, Nat.reduceLeDiff, Nat.reduceBEq, reduceIte, reduceCtorEq, eq_self, ne_eq, Int.reduceToNat, Int.reduceLT, Int.reduceLE, Int.reduceGT, Int.reduceGE, Int.reduceBEq, Int.reduceBNe, Int.reduceEq, Int.reduceNe]
      all_goals ((repeat' apply And.intro) <;> first | rfl | omega | (show entryOk _ _ _ _ _ = true; kernel_rfl) | (show pivotOk _ _ = true; kernel_rfl) | decide)
    | true =>
      have e : eLen c m = far (mLoad m 5) (mLoad m 4) := by
        have : (m.length : Int) = lSize c := by simpa using h2
        simp [eLen, h1, this]
      simp only [Try.f26, Try.func62, Try.f62, inl, EA_all, h1, h2, e, hm, fv, hfree_fr, hfree_cf, cv', cf_eta, frz_u, shC_dec, dC, T23, T28, T25, hfree_lu, hfree_l0, row0, row1, row2, row3, row4, row5, shI_dec, shN_dec, shB_dec, shM_dec, dI, dN, dB, dM, dU, dU_map, iv, bv, u, ms, ctx_T, ctx_C, ctx_P, T4, T3, T26, Option.bind_some, Option.bind_none, Option.map_some, List.length_map, List.length_set, String.reduceBEq, Int.toNat_natCast, Bool.true_beq, Bool.false_beq, T24, shF_dec, dF, fr_eta, ev1, ev2, implies_true, undef, stepP, dynCall, ↓condE_t, ↓condE_f, ↓guardE_tt, ↓guardE_ff, ↓guardE_tf, ↓guardE_ft, frzDeep, deepArgs, deepArg, resB, cv, stepB, stepE, callD, tabD, snapD, snap1, snapC, snapId, snapIds, guardB, guardC, dstAt, aopR, one, pre, binR, intOpR, shiftOpR, unR, argFrm, evo, lkp, hlk, lenOf, asLst, idOf, bndA, srcOk, ofVal, ofCells, setCells, fillA, setElems, fieldsOf, fieldsEq, scalEq, isEq, AV.wr, AV.ok1, TK.agg, frz, frzs, frzA, frzArg, frzArgs, subA, subL, sub1, kp, kh, accOf, List.replicate, Nat.reduceAdd, Nat.reduceSub, Nat.reduceMul, Nat.reduceEqDiff, Nat.reduceLT, Nat.reduceLeDiff, Nat.reduceBEq, reduceIte, reduceCtorEq, eq_self, ne_eq, Int.reduceToNat, Int.reduceLT, Int.reduceLE, Int.reduceGT, Int.reduceGE, Int.reduceBEq, Int.reduceBNe, Int.reduceEq, Int.reduceNe]
      all_goals ((repeat' apply And.intro) <;> first | rfl | omega | (show entryOk _ _ _ _ _ = true; kernel_rfl) | (show pivotOk _ _ = true; kernel_rfl) | decide)

theorem rlength_pure (c : Cf) (m : List Int) (hm : m.length ≤ 1000) : PureC Try.prog 61 [cv' c, ms m] (iv (eLen c m)) := by
  refine pure_sub okEA 1 Try.func61 rfl (by show 2 ≤ _; decide) ?_
  cases h1 : mayC c with
  | false =>
    have e : eLen c m = -1 := by simp [eLen, h1]
    simp only [Try.f61, inl, EA_all, h1, e, fv, hfree_fr, hfree_cf, cv', cf_eta, frz_u, shC_dec, dC, T23, T28, T25, hfree_lu, hfree_l0, row0, row1, row2, row3, row4, row5, shI_dec, shN_dec, shB_dec, shM_dec, dI, dN, dB, dM, dU, dU_map, iv, bv, u, ms, ctx_T, ctx_C, ctx_P, T4, T3, T26, Option.bind_some, Option.bind_none, Option.map_some, List.length_map, List.length_set, String.reduceBEq, Int.toNat_natCast, Bool.true_beq, Bool.false_beq, T24, shF_dec, dF, fr_eta, ev1, ev2, implies_true, undef, stepP, dynCall, ↓condE_t, ↓condE_f, ↓guardE_tt, ↓guardE_ff, ↓guardE_tf, ↓guardE_ft, frzDeep, deepArgs, deepArg, resB, cv, stepB, stepE, callD, tabD, snapD, snap1, snapC, snapId, snapIds, guardB, guardC, dstAt, aopR, one, pre, binR, intOpR, shiftOpR, unR, argFrm, evo, lkp, hlk, lenOf, asLst, idOf, bndA, srcOk, ofVal, ofCells, setCells, fillA, setElems, fieldsOf, fieldsEq, scalEq, isEq, AV.wr, AV.ok1, TK.agg, frz, frzs, frzA, frzArg, frzArgs, subA, subL, sub1, kp, kh, accOf, List.replicate, Nat.reduceAdd, Nat.reduceSub, Nat.reduceMul, Nat.reduceEqDiff, Nat.reduceLT, Nat.reduceLeDiff, Nat.reduceBEq, reduceIte, reduceCtorEq, eq_self, ne_eq, Int.reduceToNat, Int.reduceLT, Int.reduceLE, Int.reduceGT, Int.reduceGE, Int.reduceBEq, Int.reduceBNe, Int.reduceEq, Int.reduceNe]
    all_goals ((repeat' apply And.intro) <;> first | rfl | omega | (show entryOk _ _ _ _ _ = true; kernel_rfl) | (show pivotOk _ _ = true; kernel_rfl) | decide)
  | true =>
    cases h2 : ((m.length : Int) != lSize c) with
    | true =>
      have e : eLen c m = -1 := by
        have : ¬ (m.length : Int) = lSize c := by simpa using h2
        simp [eLen, this]
      simp only [Try.f61, inl, EA_all, h1, h2, e, fv, hfree_fr, hfree_cf, cv', cf_eta, frz_u, shC_dec, dC, T23, T28, T25, hfree_lu, hfree_l0, row0, row1, row2, row3, row4, row5, shI_dec, shN_dec, shB_dec, shM_dec, dI, dN, dB, dM, dU, dU_map, iv, bv, u, ms, ctx_T, ctx_C, ctx_P, T4, T3, T26, Option.bind_some, Option.bind_none, Option.map_some, List.length_map, List.length_set, String.reduceBEq, Int.toNat_natCast, Bool.true_beq, Bool.false_beq, T24, shF_dec, dF, fr_eta, ev1, ev2, implies_true, undef, stepP, dynCall, ↓condE_t, ↓condE_f, ↓guardE_tt, ↓guardE_ff, ↓guardE_tf, ↓guardE_ft, frzDeep, deepArgs, deepArg, resB, cv, stepB, stepE, callD, tabD, snapD, snap1, snapC, snapId, snapIds, guardB, guardC, dstAt, aopR, one, pre, binR, intOpR, shiftOpR, unR, argFrm, evo, lkp, hlk, lenOf, asLst, idOf, bndA, srcOk, ofVal, ofCells, setCells, fillA, setElems, fieldsOf, fieldsEq, scalEq, isEq, AV.wr, AV.ok1, TK.agg, frz, frzs, frzA, frzArg, frzArgs, subA, subL, sub1, kp, kh, accOf, List.replicate, Nat.reduceAdd, Nat.reduceSub, Nat.reduceMul, Nat.reduceEqDiff, Nat.reduceLT, Nat.reduceLeDiff, Nat.reduceBEq, reduceIte, reduceCtorEq, eq_self, ne_eq, Int.reduceToNat, Int.reduceLT, Int.reduceLE, Int.reduceGT, Int.reduceGE, Int.reduceBEq, Int.reduceBNe, Int.reduceEq, Int.reduceNe]
      all_goals ((repeat' apply And.intro) <;> first | rfl | omega | (show entryOk _ _ _ _ _ = true; kernel_rfl) | (show pivotOk _ _ = true; kernel_rfl) | decide)
    | false =>
      have e : eLen c m = far (mLoad m 5) (mLoad m 4) := by
        have : (m.length : Int) = lSize c := by simpa using h2
        simp [eLen, h1, this]
      simp only [Try.f61, inl, EA_all, h1, h2, e, hm, fv, hfree_fr, hfree_cf, cv', cf_eta, frz_u, shC_dec, dC, T23, T28, T25, hfree_lu, hfree_l0, row0, row1, row2, row3, row4, row5, shI_dec, shN_dec, shB_dec, shM_dec, dI, dN, dB, dM, dU, dU_map, iv, bv, u, ms, ctx_T, ctx_C, ctx_P, T4, T3, T26, Option.bind_some, Option.bind_none, Option.map_some, List.length_map, List.length_set, String.reduceBEq, Int.toNat_natCast, Bool.true_beq, Bool.false_beq, T24, shF_dec, dF, fr_eta, ev1, ev2, implies_true, undef, stepP, dynCall, ↓condE_t, ↓condE_f, ↓guardE_tt, ↓guardE_ff, ↓guardE_tf, ↓guardE_ft, frzDeep, deepArgs, deepArg, resB, cv, stepB, stepE, callD, tabD, snapD, snap1, snapC, snapId, snapIds, guardB, guardC, dstAt, aopR, one, pre, binR, intOpR, shiftOpR, unR, argFrm, evo, lkp, hlk, lenOf, asLst, idOf, bndA, srcOk, ofVal, ofCells, setCells, fillA, setElems, fieldsOf, fieldsEq, scalEq, isEq, AV.wr, AV.ok1, TK.agg, frz, frzs, frzA, frzArg, frzArgs, subA, subL, sub1, kp, kh, accOf, List.replicate, Nat.reduceAdd, Nat.reduceSub, Nat.reduceMul, Nat.reduceEqDiff, Nat.reduceLT, Nat.reduceLeDiff, Nat.reduceBEq, reduceIte, reduceCtorEq, eq_self, ne_eq, Int.reduceToNat, Int.reduceLT, Int.reduceLE, Int.reduceGT, Int.reduceGE, Int.reduceBEq, Int.reduceBNe, Int.reduceEq, Int.reduceNe]
      all_goals ((repeat' apply And.intro) <;> first | rfl | omega | (show entryOk _ _ _ _ _ = true; kernel_rfl) | (show pivotOk _ _ = true; kernel_rfl) | decide)
end Go.Vai
/- Putting into the injector: a step. -/
namespace Go.Vai
open Go.RowKit Go.Proofs
set_option linter.unusedSimpArgs false
set_option linter.unusedVariables false
set_option maxHeartbeats 4000000
set_option maxRecDepth 100000

def rowsEB : List Row := [
  (96, freeRow), 
  (23, row4 shC shM shF shI fun c m f op => some (bv (goesE c m f op))), 
  (52, row4 shC shM shF shI fun c m f op => some (bv (goesE c m f op))), 
  (26, row2 shC shM fun c m => some (iv (eLen c m))), 
  (61, row2 shC shM fun c m => some (iv (eLen c m)))] ++ rowsEA
theorem rowsEB_ok : ∀ p ∈ rowsEB, RowOk Try.prog p := fun p h => by
  simp only [rowsEB, List.mem_append, List.mem_cons, List.not_mem_nil, or_false, false_or, or_assoc] at h
  rcases h with rfl | rfl | rfl | rfl | rfl | h
  · exact free_ok
  · exact ok_row4 (enters_of Try.func23 (by decide) rfl) fun c m f op r _ g _ _ e => by cases e; exact goesE_pure c m f op (shM_got g)
  · exact ok_row4 (enters_of Try.func52 (by decide) rfl) fun c m f op r _ g _ _ e => by cases e; exact rgoesE_pure c m f op (shM_got g)
  · exact ok_row2 (enters_of Try.func26 (by decide) rfl) fun c m r _ g e => by cases e; exact length_pure c m (shM_got g)
  · exact ok_row2 (enters_of Try.func61 (by decide) rfl) fun c m r _ g e => by cases e; exact rlength_pure c m (shM_got g)
  · exact rowsEA_ok p h
theorem okEB : (ctx Try.prog rowsEB).ok := rows_ok rowsEB_ok
theorem EB_96 : tabC rowsEB 96 = freeRow := rfl
theorem EB_23 : tabC rowsEB 23 = row4 shC shM shF shI fun c m f op => some (bv (goesE c m f op)) := rfl
theorem EB_52 : tabC rowsEB 52 = row4 shC shM shF shI fun c m f op => some (bv (goesE c m f op)) := rfl
theorem EB_26 : tabC rowsEB 26 = row2 shC shM fun c m => some (iv (eLen c m)) := rfl
theorem EB_61 : tabC rowsEB 61 = row2 shC shM fun c m => some (iv (eLen c m)) := rfl
theorem EB_62 : tabC rowsEB 62 = fun _ => none := rfl
theorem EB_67 : tabC rowsEB 67 = fun _ => none := rfl
theorem EB_68 : tabC rowsEB 68 = fun _ => none := rfl
theorem EB_69 : tabC rowsEB 69 = fun _ => none := rfl
theorem EB_70 : tabC rowsEB 70 = fun _ => none := rfl
theorem EB_71 : tabC rowsEB 71 = fun _ => none := rfl
theorem EB_72 : tabC rowsEB 72 = fun _ => none := rfl
theorem EB_44 : tabC rowsEB 44 = row1 shM fun m => some (ms m) := rfl
theorem EB_57 : tabC rowsEB 57 = row4 shM shI shN shN fun m i v w => some (.tup [ms (mCas m i v w), bv (mCasB m i v)]) := rfl
theorem EB_45 : tabC rowsEB 45 = row2 shM shI fun m i => some (u (mLoad m i)) := rfl
theorem EB_51 : tabC rowsEB 51 = row3 shM shI shN fun m i v => some (ms (mStore m i v)) := rfl
theorem EB_49 : tabC rowsEB 49 = row4 shM shI shN shN fun m i v w => some (.tup [ms (mCas m i v w), bv (mCasB m i v)]) := rfl
theorem EB_53 : tabC rowsEB 53 = row2 shM shI fun m i => some (u (mLoad m i)) := rfl
theorem EB_21 : tabC rowsEB 21 = row2 shM shM fun a b => some (bv (decide (a = b))) := rfl
theorem EB_59 : tabC rowsEB 59 = row3 shM shI shN fun m i v => some (ms (mStore m i v)) := rfl
theorem EB_66 : tabC rowsEB 66 = row1 shC fun c => some (iv (lSize c)) := rfl
theorem EB_88 : tabC rowsEB 88 = row1 shC fun c => some (iv (lSize c)) := rfl
theorem EB_27 : tabC rowsEB 27 = row1 shC fun c => some (bv (mayC c)) := rfl
theorem EB_46 : tabC rowsEB 46 = row2 shN shN fun a b => some (iv (far a b)) := rfl
theorem EB_83 : tabC rowsEB 83 = row1 shC fun c => some (bv (mayC c)) := rfl
theorem EB_55 : tabC rowsEB 55 = row2 shN shN fun a b => some (iv (far a b)) := rfl
theorem EB_95 : tabC rowsEB 95 = row2 shC shI fun c w => if mayC c = true ∧ 0 ≤ w ∧ w ≤ 8 then some (iv (lBase c w)) else none := rfl
theorem EB_63 : tabC rowsEB 63 = fun _ => none := rfl
theorem EB_65 : tabC rowsEB 65 = fun _ => none := rfl
theorem EB_86 : tabC rowsEB 86 = row1 shF fun f => some (bv (f.res != 0)) := rfl
theorem EB_56 : tabC rowsEB 56 = row3 shF shI shN fun f r v => some (fv (fEnd f r v)) := rfl
theorem EB_22 : tabC rowsEB 22 = row2 shM shM fun a b => some (bv (decide (a = b))) := rfl
theorem EB_25 : tabC rowsEB 25 = row3 shI shI shN fun o w v => some (fv (fBegin o w v)) := rfl
theorem EB_31 : tabC rowsEB 31 = row1 shF fun f => some (bv (f.res != 0)) := rfl
theorem EB_48 : tabC rowsEB 48 = row3 shF shI shN fun f r v => some (fv (fEnd f r v)) := rfl
theorem EB_74 : tabC rowsEB 74 = fun _ => none := rfl
theorem EB_75 : tabC rowsEB 75 = fun _ => none := rfl
theorem EB_76 : tabC rowsEB 76 = fun _ => none := rfl
theorem EB_73 : tabC rowsEB 73 = fun _ => none := rfl
theorem EB_24 : tabC rowsEB 24 = row2 shC shN fun c x => some (iv (eSeq c x)) := rfl
theorem EB_50 : tabC rowsEB 50 = row2 shC shN fun c x => some (iv (eVal c x)) := rfl
theorem EB_54 : tabC rowsEB 54 = row2 shC shN fun c x => some (iv (eSeq c x)) := rfl
theorem EB_58 : tabC rowsEB 58 = row2 shC shN fun c x => some (iv (eVal c x)) := rfl
theorem EB_all : type_of% (And.intro EB_96 <| And.intro EB_23 <| And.intro EB_52 <| And.intro EB_26 <| And.intro EB_61 <| And.intro EB_62 <| And.intro EB_67 <| And.intro EB_68 <| And.intro EB_69 <| And.intro EB_70 <| And.intro EB_71 <| And.intro EB_72 <| And.intro EB_44 <| And.intro EB_57 <| And.intro EB_45 <| And.intro EB_51 <| And.intro EB_49 <| And.intro EB_53 <| And.intro EB_21 <| And.intro EB_59 <| And.intro EB_66 <| And.intro EB_88 <| And.intro EB_27 <| And.intro EB_46 <| And.intro EB_83 <| And.intro EB_55 <| And.intro EB_95 <| And.intro EB_63 <| And.intro EB_65 <| And.intro EB_86 <| And.intro EB_56 <| And.intro EB_22 <| And.intro EB_25 <| And.intro EB_31 <| And.intro EB_48 <| And.intro EB_74 <| And.intro EB_75 <| And.intro EB_76 <| And.intro EB_73 <| And.intro EB_24 <| And.intro EB_50 <| And.intro EB_54 <| EB_58) := And.intro EB_96 <| And.intro EB_23 <| And.intro EB_52 <| And.intro EB_26 <| And.intro EB_61 <| And.intro EB_62 <| And.intro EB_67 <| And.intro EB_68 <| And.intro EB_69 <| And.intro EB_70 <| And.intro EB_71 <| And.intro EB_72 <| And.intro EB_44 <| And.intro EB_57 <| And.intro EB_45 <| And.intro EB_51 <| And.intro EB_49 <| And.intro EB_53 <| And.intro EB_21 <| And.intro EB_59 <| And.intro EB_66 <| And.intro EB_88 <| And.intro EB_27 <| And.intro EB_46 <| And.intro EB_83 <| And.intro EB_55 <| And.intro EB_95 <| And.intro EB_63 <| And.intro EB_65 <| And.intro EB_86 <| And.intro EB_56 <| And.intro EB_22 <| And.intro EB_25 <| And.intro EB_31 <| And.intro EB_48 <| And.intro EB_74 <| And.intro EB_75 <| And.intro EB_76 <| And.intro EB_73 <| And.intro EB_24 <| And.intro EB_50 <| And.intro EB_54 <| EB_58

def sv (x : List Int × Fr) : AV := .tup [ms x.1, fv x.2]

theorem estep_pure (c : Cf) (m : List Int) (f : Fr) (hm : m.length ≤ 1000) : PureC Try.prog 30 [cv' c, ms m, fv f] (sv (eStep c m f)) := by
  refine pure_sub okEB 3 Try.func30 rfl (by show 3 ≤ _; decide) ?_
  cases hg : goesE c m f 3 with
  | false =>
    rw [eStep_no hg]
    simp only [Try.f30, inl, EB_all, hg, hm, sv, fv, T85, T80, T86, hfree_fr, hfree_cf, cv', cf_eta, frz_u, shC_dec, dC, T23, T28, T25, hfree_lu, hfree_l0, row0, row1, row2, row3, row4, row5, shI_dec, shN_dec, shB_dec, shM_dec, dI, dN, dB, dM, dU, dU_map, iv, bv, u, ms, ctx_T, ctx_C, ctx_P, T4, T3, T26, Option.bind_some, Option.bind_none, Option.map_some, List.length_map, List.length_set, String.reduceBEq, Int.toNat_natCast, Bool.true_beq, Bool.false_beq, T24, shF_dec, dF, fr_eta, ev1, ev2, implies_true, undef, stepP, dynCall, ↓condE_t, ↓condE_f, ↓guardE_tt, ↓guardE_ff, ↓guardE_tf, ↓guardE_ft, frzDeep, deepArgs, deepArg, resB, cv, stepB, stepE, callD, tabD, snapD, snap1, snapC, snapId, snapIds, guardB, guardC, dstAt, aopR, one, pre, binR, intOpR, shiftOpR, unR, argFrm, evo, lkp, hlk, lenOf, asLst, idOf, bndA, srcOk, ofVal, ofCells, setCells, fillA, setElems, fieldsOf, fieldsEq, scalEq, isEq, AV.wr, AV.ok1, TK.agg, frz, frzs, frzA, frzArg, frzArgs, subA, subL, sub1, kp, kh, accOf, List.replicate, Nat.reduceAdd, Nat.reduceSub, Nat.reduceMul, Nat.reduceEqDiff, Nat.reduceLT, Nat.reduceLeDiff, Nat.reduceBEq, reduceIte, reduceCtorEq, eq_self, ne_eq, Int.reduceToNat, Int.reduceLT, Int.reduceLE, Int.reduceGT, Int.reduceGE, Int.reduceBEq, Int.reduceBNe, Int.reduceEq, Int.reduceNe]
    all_goals ((repeat' apply And.intro) <;> first | rfl | omega | (show entryOk _ _ _ _ _ = true; kernel_rfl) | (show pivotOk _ _ = true; kernel_rfl) | decide)
  | true =>
    obtain ⟨hl, hres, hop, h0, h1⟩ := goesE_iff.1 hg
    have hd : wrapU c.i = c.i := by rw [wrapU_eq]; have := hl.ipos; omega
    have hi0 : c.i ≠ 0 := by have := hl.ipos; omega
    have hii : (1 ≤ c.i ∧ c.i ≤ 16) = True := eq_true (by have := mayC_iff.1 hl.may; omega)
    have hu : ∀ x, IntKind.wrap .u64 x = wrapU x := fun _ => rfl
    obtain ⟨op, pc, who, val, x, y, res⟩ := f
    dsimp only at h0 h1
    have hE : wrapU (wrapU (x.tdiv c.i) * 2) = eFree c x := rfl
    have hpc : pc = 0 ∨ pc = 1 ∨ pc = 2 ∨ pc = 3 ∨ pc = 4 := by omega
    unfold eStep
    rw [if_pos hg]
    rcases hpc with rfl | rfl | rfl | rfl | rfl
    · skip
      simp only [Try.f30, Try.func67, Try.f67, Try.func96, Try.f96, Try.func72, Try.f72, inl, EB_all, hg, hm, hu, hd, hi0, hii, freeRow, plainC, hE, len_store, len_cas, sv, fv, fEnd, T85, T80, T86, hfree_fr, hfree_cf, cv', cf_eta, frz_u, shC_dec, dC, T23, T28, T25, hfree_lu, hfree_l0, row0, row1, row2, row3, row4, row5, shI_dec, shN_dec, shB_dec, shM_dec, dI, dN, dB, dM, dU, dU_map, iv, bv, u, ms, ctx_T, ctx_C, ctx_P, T4, T3, T26, Option.bind_some, Option.bind_none, Option.map_some, List.length_map, List.length_set, String.reduceBEq, Int.toNat_natCast, Bool.true_beq, Bool.false_beq, T24, shF_dec, dF, fr_eta, Int.cast_ofNat_Int, Int.reduceSub, Int.reduceAdd, Int.reduceNeg, ev1, ev2, implies_true, undef, stepP, dynCall, ↓condE_t, ↓condE_f, ↓guardE_tt, ↓guardE_ff, ↓guardE_tf, ↓guardE_ft, frzDeep, deepArgs, deepArg, resB, cv, stepB, stepE, callD, tabD, snapD, snap1, snapC, snapId, snapIds, guardB, guardC, dstAt, aopR, one, pre, binR, intOpR, shiftOpR, unR, argFrm, evo, lkp, hlk, lenOf, asLst, idOf, bndA, srcOk, ofVal, ofCells, setCells, fillA, setElems, fieldsOf, fieldsEq, scalEq, isEq, AV.wr, AV.ok1, TK.agg, frz, frzs, frzA, frzArg, frzArgs, subA, subL, sub1, kp, kh, accOf, List.replicate, Nat.reduceAdd, Nat.reduceSub, Nat.reduceMul, Nat.reduceEqDiff, Nat.reduceLT, Nat.reduceLeDiff, Nat.reduceBEq, reduceIte, reduceCtorEq, eq_self, ne_eq, Int.reduceToNat, Int.reduceLT, Int.reduceLE, Int.reduceGT, Int.reduceGE, Int.reduceBEq, Int.reduceBNe, Int.reduceEq, Int.reduceNe]
      all_goals ((repeat' apply And.intro) <;> first | rfl | omega | (show entryOk _ _ _ _ _ = true; kernel_rfl) | (show pivotOk _ _ = true; kernel_rfl) | decide)
    · by_cases q : mLoad m (eSeq c x) = eFree c x
      · have q1 : (mLoad m (eSeq c x) == eFree c x) = true := by simpa using q
        simp only [Try.f30, Try.func68, Try.f68, Try.func96, Try.f96, Try.func72, Try.f72, inl, EB_all, hg, hm, hu, hd, hi0, hii, freeRow, plainC, hE, len_store, len_cas, q, q1, beq_self_eq_true, sv, fv, fEnd, T85, T80, T86, hfree_fr, hfree_cf, cv', cf_eta, frz_u, shC_dec, dC, T23, T28, T25, hfree_lu, hfree_l0, row0, row1, row2, row3, row4, row5, shI_dec, shN_dec, shB_dec, shM_dec, dI, dN, dB, dM, dU, dU_map, iv, bv, u, ms, ctx_T, ctx_C, ctx_P, T4, T3, T26, Option.bind_some, Option.bind_none, Option.map_some, List.length_map, List.length_set, String.reduceBEq, Int.toNat_natCast, Bool.true_beq, Bool.false_beq, T24, shF_dec, dF, fr_eta, Int.cast_ofNat_Int, Int.reduceSub, Int.reduceAdd, Int.reduceNeg, ev1, ev2, implies_true, undef, stepP, dynCall, ↓condE_t, ↓condE_f, ↓guardE_tt, ↓guardE_ff, ↓guardE_tf, ↓guardE_ft, frzDeep, deepArgs, deepArg, resB, cv, stepB, stepE, callD, tabD, snapD, snap1, snapC, snapId, snapIds, guardB, guardC, dstAt, aopR, one, pre, binR, intOpR, shiftOpR, unR, argFrm, evo, lkp, hlk, lenOf, asLst, idOf, bndA, srcOk, ofVal, ofCells, setCells, fillA, setElems, fieldsOf, fieldsEq, scalEq, isEq, AV.wr, AV.ok1, TK.agg, frz, frzs, frzA, frzArg, frzArgs, subA, subL, sub1, kp, kh, accOf, List.replicate, Nat.reduceAdd, Nat.reduceSub, Nat.reduceMul, Nat.reduceEqDiff, Nat.reduceLT, Nat.reduceLeDiff, Nat.reduceBEq, reduceIte, reduceCtorEq, eq_self, ne_eq, Int.reduceToNat, Int.reduceLT, Int.reduceLE, Int.reduceGT, Int.reduceGE, Int.reduceBEq, Int.reduceBNe, Int.reduceEq, Int.reduceNe]
        all_goals ((repeat' apply And.intro) <;> first | rfl | omega | (show entryOk _ _ _ _ _ = true; kernel_rfl) | (show pivotOk _ _ = true; kernel_rfl) | decide)
      · have q1 : (mLoad m (eSeq c x) == eFree c x) = false := by simpa using q
        by_cases q2 : far (mLoad m (eSeq c x)) (eFree c x) < 0
        · skip
          simp only [Try.f30, Try.func68, Try.f68, Try.func96, Try.f96, Try.func72, Try.f72, inl, EB_all, hg, hm, hu, hd, hi0, hii, freeRow, plainC, hE, len_store, len_cas, q, q1, q2, sv, fv, fEnd, T85, T80, T86, hfree_fr, hfree_cf, cv', cf_eta, frz_u, shC_dec, dC, T23, T28, T25, hfree_lu, hfree_l0, row0, row1, row2, row3, row4, row5, shI_dec, shN_dec, shB_dec, shM_dec, dI, dN, dB, dM, dU, dU_map, iv, bv, u, ms, ctx_T, ctx_C, ctx_P, T4, T3, T26, Option.bind_some, Option.bind_none, Option.map_some, List.length_map, List.length_set, String.reduceBEq, Int.toNat_natCast, Bool.true_beq, Bool.false_beq, T24, shF_dec, dF, fr_eta, Int.cast_ofNat_Int, Int.reduceSub, Int.reduceAdd, Int.reduceNeg, ev1, ev2, implies_true, undef, stepP, dynCall, ↓condE_t, ↓condE_f, ↓guardE_tt, ↓guardE_ff, ↓guardE_tf, ↓guardE_ft, frzDeep, deepArgs, deepArg, resB, cv, stepB, stepE, callD, tabD, snapD, snap1, snapC, snapId, snapIds, guardB, guardC, dstAt, aopR, one, pre, binR, intOpR, shiftOpR, unR, argFrm, evo, lkp, hlk, lenOf, asLst, idOf, bndA, srcOk, ofVal, ofCells, setCells, fillA, setElems, fieldsOf, fieldsEq, scalEq, isEq, AV.wr, AV.ok1, TK.agg, frz, frzs, frzA, frzArg, frzArgs, subA, subL, sub1, kp, kh, accOf, List.replicate, Nat.reduceAdd, Nat.reduceSub, Nat.reduceMul, Nat.reduceEqDiff, Nat.reduceLT, Nat.reduceLeDiff, Nat.reduceBEq, reduceIte, reduceCtorEq, eq_self, ne_eq, Int.reduceToNat, Int.reduceLT, Int.reduceLE, Int.reduceGT, Int.reduceGE, Int.reduceBEq, Int.reduceBNe, Int.reduceEq, Int.reduceNe]
          all_goals ((repeat' apply And.intro) <;> first | rfl | omega | (show entryOk _ _ _ _ _ = true; kernel_rfl) | (show pivotOk _ _ = true; kernel_rfl) | decide)
        · skip
          simp only [Try.f30, Try.func68, Try.f68, Try.func96, Try.f96, Try.func72, Try.f72, inl, EB_all, hg, hm, hu, hd, hi0, hii, freeRow, plainC, hE, len_store, len_cas, q, q1, q2, sv, fv, fEnd, T85, T80, T86, hfree_fr, hfree_cf, cv', cf_eta, frz_u, shC_dec, dC, T23, T28, T25, hfree_lu, hfree_l0, row0, row1, row2, row3, row4, row5, shI_dec, shN_dec, shB_dec, shM_dec, dI, dN, dB, dM, dU, dU_map, iv, bv, u, ms, ctx_T, ctx_C, ctx_P, T4, T3, T26, Option.bind_some, Option.bind_none, Option.map_some, List.length_map, List.length_set, String.reduceBEq, Int.toNat_natCast, Bool.true_beq, Bool.false_beq, T24, shF_dec, dF, fr_eta, Int.cast_ofNat_Int, Int.reduceSub, Int.reduceAdd, Int.reduceNeg, ev1, ev2, implies_true, undef, stepP, dynCall, ↓condE_t, ↓condE_f, ↓guardE_tt, ↓guardE_ff, ↓guardE_tf, ↓guardE_ft, frzDeep, deepArgs, deepArg, resB, cv, stepB, stepE, callD, tabD, snapD, snap1, snapC, snapId, snapIds, guardB, guardC, dstAt, aopR, one, pre, binR, intOpR, shiftOpR, unR, argFrm, evo, lkp, hlk, lenOf, asLst, idOf, bndA, srcOk, ofVal, ofCells, setCells, fillA, setElems, fieldsOf, fieldsEq, scalEq, isEq, AV.wr, AV.ok1, TK.agg, frz, frzs, frzA, frzArg, frzArgs, subA, subL, sub1, kp, kh, accOf, List.replicate, Nat.reduceAdd, Nat.reduceSub, Nat.reduceMul, Nat.reduceEqDiff, Nat.reduceLT, Nat.reduceLeDiff, Nat.reduceBEq, reduceIte, reduceCtorEq, eq_self, ne_eq, Int.reduceToNat, Int.reduceLT, Int.reduceLE, Int.reduceGT, Int.reduceGE, Int.reduceBEq, Int.reduceBNe, Int.reduceEq, Int.reduceNe]
          all_goals ((repeat' apply And.intro) <;> first | rfl | omega | (show entryOk _ _ _ _ _ = true; kernel_rfl) | (show pivotOk _ _ = true; kernel_rfl) | decide)
    · cases q : mCasB m 5 x with
      | true =>
        simp only [Try.f30, Try.func69, Try.f69, Try.func96, Try.f96, Try.func72, Try.f72, inl, EB_all, hg, hm, hu, hd, hi0, hii, freeRow, plainC, hE, len_store, len_cas, q, sv, fv, fEnd, T85, T80, T86, hfree_fr, hfree_cf, cv', cf_eta, frz_u, shC_dec, dC, T23, T28, T25, hfree_lu, hfree_l0, row0, row1, row2, row3, row4, row5, shI_dec, shN_dec, shB_dec, shM_dec, dI, dN, dB, dM, dU, dU_map, iv, bv, u, ms, ctx_T, ctx_C, ctx_P, T4, T3, T26, Option.bind_some, Option.bind_none, Option.map_some, List.length_map, List.length_set, String.reduceBEq, Int.toNat_natCast, Bool.true_beq, Bool.false_beq, T24, shF_dec, dF, fr_eta, Int.cast_ofNat_Int, Int.reduceSub, Int.reduceAdd, Int.reduceNeg, ev1, ev2, implies_true, undef, stepP, dynCall, ↓condE_t, ↓condE_f, ↓guardE_tt, ↓guardE_ff, ↓guardE_tf, ↓guardE_ft, frzDeep, deepArgs, deepArg, resB, cv, stepB, stepE, callD, tabD, snapD, snap1, snapC, snapId, snapIds, guardB, guardC, dstAt, aopR, one, pre, binR, intOpR, shiftOpR, unR, argFrm, evo, lkp, hlk, lenOf, asLst, idOf, bndA, srcOk, ofVal, ofCells, setCells, fillA, setElems, fieldsOf, fieldsEq, scalEq, isEq, AV.wr, AV.ok1, TK.agg, frz, frzs, frzA, frzArg, frzArgs, subA, subL, sub1, kp, kh, accOf, List.replicate, Nat.reduceAdd, Nat.reduceSub, Nat.reduceMul, Nat.reduceEqDiff, Nat.reduceLT, Nat.reduceLeDiff, Nat.reduceBEq, reduceIte, reduceCtorEq, eq_self, ne_eq, Int.reduceToNat, Int.reduceLT, Int.reduceLE, Int.reduceGT, Int.reduceGE, Int.reduceBEq, Int.reduceBNe, Int.reduceEq, Int.reduceNe]
        all_goals ((repeat' apply And.intro) <;> first | rfl | omega | (show entryOk _ _ _ _ _ = true; kernel_rfl) | (show pivotOk _ _ = true; kernel_rfl) | decide)
      | false =>
        simp only [Try.f30, Try.func69, Try.f69, Try.func96, Try.f96, Try.func72, Try.f72, inl, EB_all, hg, hm, hu, hd, hi0, hii, freeRow, plainC, hE, len_store, len_cas, q, sv, fv, fEnd, T85, T80, T86, hfree_fr, hfree_cf, cv', cf_eta, frz_u, shC_dec, dC, T23, T28, T25, hfree_lu, hfree_l0, row0, row1, row2, row3, row4, row5, shI_dec, shN_dec, shB_dec, shM_dec, dI, dN, dB, dM, dU, dU_map, iv, bv, u, ms, ctx_T, ctx_C, ctx_P, T4, T3, T26, Option.bind_some, Option.bind_none, Option.map_some, List.length_map, List.length_set, String.reduceBEq, Int.toNat_natCast, Bool.true_beq, Bool.false_beq, T24, shF_dec, dF, fr_eta, Int.cast_ofNat_Int, Int.reduceSub, Int.reduceAdd, Int.reduceNeg, ev1, ev2, implies_true, undef, stepP, dynCall, ↓condE_t, ↓condE_f, ↓guardE_tt, ↓guardE_ff, ↓guardE_tf, ↓guardE_ft, frzDeep, deepArgs, deepArg, resB, cv, stepB, stepE, callD, tabD, snapD, snap1, snapC, snapId, snapIds, guardB, guardC, dstAt, aopR, one, pre, binR, intOpR, shiftOpR, unR, argFrm, evo, lkp, hlk, lenOf, asLst, idOf, bndA, srcOk, ofVal, ofCells, setCells, fillA, setElems, fieldsOf, fieldsEq, scalEq, isEq, AV.wr, AV.ok1, TK.agg, frz, frzs, frzA, frzArg, frzArgs, subA, subL, sub1, kp, kh, accOf, List.replicate, Nat.reduceAdd, Nat.reduceSub, Nat.reduceMul, Nat.reduceEqDiff, Nat.reduceLT, Nat.reduceLeDiff, Nat.reduceBEq, reduceIte, reduceCtorEq, eq_self, ne_eq, Int.reduceToNat, Int.reduceLT, Int.reduceLE, Int.reduceGT, Int.reduceGE, Int.reduceBEq, Int.reduceBNe, Int.reduceEq, Int.reduceNe]
        all_goals ((repeat' apply And.intro) <;> first | rfl | omega | (show entryOk _ _ _ _ _ = true; kernel_rfl) | (show pivotOk _ _ = true; kernel_rfl) | decide)
    · skip
      simp only [Try.f30, Try.func70, Try.f70, Try.func96, Try.f96, Try.func72, Try.f72, inl, EB_all, hg, hm, hu, hd, hi0, hii, freeRow, plainC, hE, len_store, len_cas, sv, fv, fEnd, T85, T80, T86, hfree_fr, hfree_cf, cv', cf_eta, frz_u, shC_dec, dC, T23, T28, T25, hfree_lu, hfree_l0, row0, row1, row2, row3, row4, row5, shI_dec, shN_dec, shB_dec, shM_dec, dI, dN, dB, dM, dU, dU_map, iv, bv, u, ms, ctx_T, ctx_C, ctx_P, T4, T3, T26, Option.bind_some, Option.bind_none, Option.map_some, List.length_map, List.length_set, String.reduceBEq, Int.toNat_natCast, Bool.true_beq, Bool.false_beq, T24, shF_dec, dF, fr_eta, Int.cast_ofNat_Int, Int.reduceSub, Int.reduceAdd, Int.reduceNeg, ev1, ev2, implies_true, undef, stepP, dynCall, ↓condE_t, ↓condE_f, ↓guardE_tt, ↓guardE_ff, ↓guardE_tf, ↓guardE_ft, frzDeep, deepArgs, deepArg, resB, cv, stepB, stepE, callD, tabD, snapD, snap1, snapC, snapId, snapIds, guardB, guardC, dstAt, aopR, one, pre, binR, intOpR, shiftOpR, unR, argFrm, evo, lkp, hlk, lenOf, asLst, idOf, bndA, srcOk, ofVal, ofCells, setCells, fillA, setElems, fieldsOf, fieldsEq, scalEq, isEq, AV.wr, AV.ok1, TK.agg, frz, frzs, frzA, frzArg, frzArgs, subA, subL, sub1, kp, kh, accOf, List.replicate, Nat.reduceAdd, Nat.reduceSub, Nat.reduceMul, Nat.reduceEqDiff, Nat.reduceLT, Nat.reduceLeDiff, Nat.reduceBEq, reduceIte, reduceCtorEq, eq_self, ne_eq, Int.reduceToNat, Int.reduceLT, Int.reduceLE, Int.reduceGT, Int.reduceGE, Int.reduceBEq, Int.reduceBNe, Int.reduceEq, Int.reduceNe]
      all_goals ((repeat' apply And.intro) <;> first | rfl | omega | (show entryOk _ _ _ _ _ = true; kernel_rfl) | (show pivotOk _ _ = true; kernel_rfl) | decide)
    · skip
      simp only [Try.f30, Try.func71, Try.f71, Try.func96, Try.f96, Try.func72, Try.f72, inl, EB_all, hg, hm, hu, hd, hi0, hii, freeRow, plainC, hE, len_store, len_cas, sv, fv, fEnd, T85, T80, T86, hfree_fr, hfree_cf, cv', cf_eta, frz_u, shC_dec, dC, T23, T28, T25, hfree_lu, hfree_l0, row0, row1, row2, row3, row4, row5, shI_dec, shN_dec, shB_dec, shM_dec, dI, dN, dB, dM, dU, dU_map, iv, bv, u, ms, ctx_T, ctx_C, ctx_P, T4, T3, T26, Option.bind_some, Option.bind_none, Option.map_some, List.length_map, List.length_set, String.reduceBEq, Int.toNat_natCast, Bool.true_beq, Bool.false_beq, T24, shF_dec, dF, fr_eta, Int.cast_ofNat_Int, Int.reduceSub, Int.reduceAdd, Int.reduceNeg, ev1, ev2, implies_true, undef, stepP, dynCall, ↓condE_t, ↓condE_f, ↓guardE_tt, ↓guardE_ff, ↓guardE_tf, ↓guardE_ft, frzDeep, deepArgs, deepArg, resB, cv, stepB, stepE, callD, tabD, snapD, snap1, snapC, snapId, snapIds, guardB, guardC, dstAt, aopR, one, pre, binR, intOpR, shiftOpR, unR, argFrm, evo, lkp, hlk, lenOf, asLst, idOf, bndA, srcOk, ofVal, ofCells, setCells, fillA, setElems, fieldsOf, fieldsEq, scalEq, isEq, AV.wr, AV.ok1, TK.agg, frz, frzs, frzA, frzArg, frzArgs, subA, subL, sub1, kp, kh, accOf, List.replicate, Nat.reduceAdd, Nat.reduceSub, Nat.reduceMul, Nat.reduceEqDiff, Nat.reduceLT, Nat.reduceLeDiff, Nat.reduceBEq, reduceIte, reduceCtorEq, eq_self, ne_eq, Int.reduceToNat, Int.reduceLT, Int.reduceLE, Int.reduceGT, Int.reduceGE, Int.reduceBEq, Int.reduceBNe, Int.reduceEq, Int.reduceNe]
      all_goals ((repeat' apply And.intro) <;> first | rfl | omega | (show entryOk _ _ _ _ _ = true; kernel_rfl) | (show pivotOk _ _ = true; kernel_rfl) | decide)

theorem restep_pure (c : Cf) (m : List Int) (f : Fr) (hm : m.length ≤ 1000) : PureC Try.prog 77 [cv' c, ms m, fv f] (sv (eStep c m f)) := by
  refine pure_sub okEB 1 Try.func77 rfl (by show 3 ≤ _; decide) ?_
  cases hg : goesE c m f 3 with
  | false =>
    rw [eStep_no hg]
    simp only [Try.f77, inl, EB_all, hg, hm, sv, fv, hfree_fr, hfree_cf, cv', cf_eta, frz_u, shC_dec, dC, T23, T28, T25, hfree_lu, hfree_l0, row0, row1, row2, row3, row4, row5, shI_dec, shN_dec, shB_dec, shM_dec, dI, dN, dB, dM, dU, dU_map, iv, bv, u, ms, ctx_T, ctx_C, ctx_P, T4, T3, T26, Option.bind_some, Option.bind_none, Option.map_some, List.length_map, List.length_set, String.reduceBEq, Int.toNat_natCast, Bool.true_beq, Bool.false_beq, T24, shF_dec, dF, fr_eta, ev1, ev2, implies_true, undef, stepP, dynCall, ↓condE_t, ↓condE_f, ↓guardE_tt, ↓guardE_ff, ↓guardE_tf, ↓guardE_ft, frzDeep, deepArgs, deepArg, resB, cv, stepB, stepE, callD, tabD, snapD, snap1, snapC, snapId, snapIds, guardB, guardC, dstAt, aopR, one, pre, binR, intOpR, shiftOpR, unR, argFrm, evo, lkp, hlk, lenOf, asLst, idOf, bndA, srcOk, ofVal, ofCells, setCells, fillA, setElems, fieldsOf, fieldsEq, scalEq, isEq, AV.wr, AV.ok1, TK.agg, frz, frzs, frzA, frzArg, frzArgs, subA, subL, sub1, kp, kh, accOf, List.replicate, Nat.reduceAdd, Nat.reduceSub, Nat.reduceMul, Nat.reduceEqDiff, Nat.reduceLT, Nat.reduceLeDiff, Nat.reduceBEq, reduceIte, reduceCtorEq, eq_self, ne_eq, Int.reduceToNat, Int.reduceLT, Int.reduceLE, Int.reduceGT, Int.reduceGE, Int.reduceBEq, Int.reduceBNe, Int.reduceEq, Int.reduceNe]
    all_goals ((repeat' apply And.intro) <;> first | rfl | omega | (show entryOk _ _ _ _ _ = true; kernel_rfl) | (show pivotOk _ _ = true; kernel_rfl) | decide)
  | true =>
    obtain ⟨hl, hres, hop, h0, h1⟩ := goesE_iff.1 hg
    have hd : wrapU c.i = c.i := by rw [wrapU_eq]; have := hl.ipos; omega
    have hi0 : c.i ≠ 0 := by have := hl.ipos; omega
    have hu : ∀ x, IntKind.wrap .u64 x = wrapU x := fun _ => rfl
    obtain ⟨op, pc, who, val, x, y, res⟩ := f
    dsimp only at h0 h1
    have hE : wrapU (2 * wrapU (x.tdiv c.i)) = eFree c x := by unfold eFree; rw [Int.mul_comm]
    have hpc : pc = 0 ∨ pc = 1 ∨ pc = 2 ∨ pc = 3 ∨ pc = 4 := by omega
    unfold eStep
    rw [if_pos hg]
    rcases hpc with rfl | rfl | rfl | rfl | rfl
    · skip
      simp only [Try.f77, inl, EB_all, hg, hm, hu, hd, hi0, hE, len_store, len_cas, sv, fv, fEnd, hfree_fr, hfree_cf, cv', cf_eta, frz_u, shC_dec, dC, T23, T28, T25, hfree_lu, hfree_l0, row0, row1, row2, row3, row4, row5, shI_dec, shN_dec, shB_dec, shM_dec, dI, dN, dB, dM, dU, dU_map, iv, bv, u, ms, ctx_T, ctx_C, ctx_P, T4, T3, T26, Option.bind_some, Option.bind_none, Option.map_some, List.length_map, List.length_set, String.reduceBEq, Int.toNat_natCast, Bool.true_beq, Bool.false_beq, T24, shF_dec, dF, fr_eta, ev1, ev2, implies_true, undef, stepP, dynCall, ↓condE_t, ↓condE_f, ↓guardE_tt, ↓guardE_ff, ↓guardE_tf, ↓guardE_ft, frzDeep, deepArgs, deepArg, resB, cv, stepB, stepE, callD, tabD, snapD, snap1, snapC, snapId, snapIds, guardB, guardC, dstAt, aopR, one, pre, binR, intOpR, shiftOpR, unR, argFrm, evo, lkp, hlk, lenOf, asLst, idOf, bndA, srcOk, ofVal, ofCells, setCells, fillA, setElems, fieldsOf, fieldsEq, scalEq, isEq, AV.wr, AV.ok1, TK.agg, frz, frzs, frzA, frzArg, frzArgs, subA, subL, sub1, kp, kh, accOf, List.replicate, Nat.reduceAdd, Nat.reduceSub, Nat.reduceMul, Nat.reduceEqDiff, Nat.reduceLT, Nat.reduceLeDiff, Nat.reduceBEq, reduceIte, reduceCtorEq, eq_self, ne_eq, Int.reduceToNat, Int.reduceLT, Int.reduceLE, Int.reduceGT, Int.reduceGE, Int.reduceBEq, Int.reduceBNe, Int.reduceEq, Int.reduceNe]
      all_goals ((repeat' apply And.intro) <;> first | rfl | omega | (show entryOk _ _ _ _ _ = true; kernel_rfl) | (show pivotOk _ _ = true; kernel_rfl) | decide)
    · by_cases q : mLoad m (eSeq c x) = eFree c x
      · have q1 : (mLoad m (eSeq c x) == eFree c x) = true := by simpa using q
        simp only [Try.f77, inl, EB_all, hg, hm, hu, hd, hi0, hE, len_store, len_cas, q, q1, beq_self_eq_true, sv, fv, fEnd, hfree_fr, hfree_cf, cv', cf_eta, frz_u, shC_dec, dC, T23, T28, T25, hfree_lu, hfree_l0, row0, row1, row2, row3, row4, row5, shI_dec, shN_dec, shB_dec, shM_dec, dI, dN, dB, dM, dU, dU_map, iv, bv, u, ms, ctx_T, ctx_C, ctx_P, T4, T3, T26, Option.bind_some, Option.bind_none, Option.map_some, List.length_map, List.length_set, String.reduceBEq, Int.toNat_natCast, Bool.true_beq, Bool.false_beq, T24, shF_dec, dF, fr_eta, ev1, ev2, implies_true, undef, stepP, dynCall, ↓condE_t, ↓condE_f, ↓guardE_tt, ↓guardE_ff, ↓guardE_tf, ↓guardE_ft, frzDeep, deepArgs, deepArg, resB, cv, stepB, stepE, callD, tabD, snapD, snap1, snapC, snapId, snapIds, guardB, guardC, dstAt, aopR, one, pre, binR, intOpR, shiftOpR, unR, argFrm, evo, lkp, hlk, lenOf, asLst, idOf, bndA, srcOk, ofVal, ofCells, setCells, fillA, setElems, fieldsOf, fieldsEq, scalEq, isEq, AV.wr, AV.ok1, TK.agg, frz, frzs, frzA, frzArg, frzArgs, subA, subL, sub1, kp, kh, accOf, List.replicate, Nat.reduceAdd, Nat.reduceSub, Nat.reduceMul, Nat.reduceEqDiff, Nat.reduceLT, Nat.reduceLeDiff, Nat.reduceBEq, reduceIte, reduceCtorEq, eq_self, ne_eq, Int.reduceToNat, Int.reduceLT, Int.reduceLE, Int.reduceGT, Int.reduceGE, Int.reduceBEq, Int.reduceBNe, Int.reduceEq, Int.reduceNe]
        all_goals ((repeat' apply And.intro) <;> first | rfl | omega | (show entryOk _ _ _ _ _ = true; kernel_rfl) | (show pivotOk _ _ = true; kernel_rfl) | decide)
      · have q1 : (mLoad m (eSeq c x) == eFree c x) = false := by simpa using q
        by_cases q2 : far (mLoad m (eSeq c x)) (eFree c x) < 0
        · skip
          simp only [Try.f77, inl, EB_all, hg, hm, hu, hd, hi0, hE, len_store, len_cas, q, q1, q2, sv, fv, fEnd, hfree_fr, hfree_cf, cv', cf_eta, frz_u, shC_dec, dC, T23, T28, T25, hfree_lu, hfree_l0, row0, row1, row2, row3, row4, row5, shI_dec, shN_dec, shB_dec, shM_dec, dI, dN, dB, dM, dU, dU_map, iv, bv, u, ms, ctx_T, ctx_C, ctx_P, T4, T3, T26, Option.bind_some, Option.bind_none, Option.map_some, List.length_map, List.length_set, String.reduceBEq, Int.toNat_natCast, Bool.true_beq, Bool.false_beq, T24, shF_dec, dF, fr_eta, ev1, ev2, implies_true, undef, stepP, dynCall, ↓condE_t, ↓condE_f, ↓guardE_tt, ↓guardE_ff, ↓guardE_tf, ↓guardE_ft, frzDeep, deepArgs, deepArg, resB, cv, stepB, stepE, callD, tabD, snapD, snap1, snapC, snapId, snapIds, guardB, guardC, dstAt, aopR, one, pre, binR, intOpR, shiftOpR, unR, argFrm, evo, lkp, hlk, lenOf, asLst, idOf, bndA, srcOk, ofVal, ofCells, setCells, fillA, setElems, fieldsOf, fieldsEq, scalEq, isEq, AV.wr, AV.ok1, TK.agg, frz, frzs, frzA, frzArg, frzArgs, subA, subL, sub1, kp, kh, accOf, List.replicate, Nat.reduceAdd, Nat.reduceSub, Nat.reduceMul, Nat.reduceEqDiff, Nat.reduceLT, Nat.reduceLeDiff, Nat.reduceBEq, reduceIte, reduceCtorEq, eq_self, ne_eq, Int.reduceToNat, Int.reduceLT, Int.reduceLE, Int.reduceGT, Int.reduceGE, Int.reduceBEq, Int.reduceBNe, Int.reduceEq, Int.reduceNe]
          all_goals ((repeat' apply And.intro) <;> first | rfl | omega | (show entryOk _ _ _ _ _ = true; kernel_rfl) | (show pivotOk _ _ = true; kernel_rfl) | decide)
        · skip
          simp only [Try.f77, inl, EB_all, hg, hm, hu, hd, hi0, hE, len_store, len_cas, q, q1, q2, sv, fv, fEnd, hfree_fr, hfree_cf, cv', cf_eta, frz_u, shC_dec, dC, T23, T28, T25, hfree_lu, hfree_l0, row0, row1, row2, row3, row4, row5, shI_dec, shN_dec, shB_dec, shM_dec, dI, dN, dB, dM, dU, dU_map, iv, bv, u, ms, ctx_T, ctx_C, ctx_P, T4, T3, T26, Option.bind_some, Option.bind_none, Option.map_some, List.length_map, List.length_set, String.reduceBEq, Int.toNat_natCast, Bool.true_beq, Bool.false_beq, T24, shF_dec, dF, fr_eta, ev1, ev2, implies_true, undef, stepP, dynCall, ↓condE_t, ↓condE_f, ↓guardE_tt, ↓guardE_ff, ↓guardE_tf, ↓guardE_ft, frzDeep, deepArgs, deepArg, resB, cv, stepB, stepE, callD, tabD, snapD, snap1, snapC, snapId, snapIds, guardB, guardC, dstAt, aopR, one, pre, binR, intOpR, shiftOpR, unR, argFrm, evo, lkp, hlk, lenOf, asLst, idOf, bndA, srcOk, ofVal, ofCells, setCells, fillA, setElems, fieldsOf, fieldsEq, scalEq, isEq, AV.wr, AV.ok1, TK.agg, frz, frzs, frzA, frzArg, frzArgs, subA, subL, sub1, kp, kh, accOf, List.replicate, Nat.reduceAdd, Nat.reduceSub, Nat.reduceMul, Nat.reduceEqDiff, Nat.reduceLT, Nat.reduceLeDiff, Nat.reduceBEq, reduceIte, reduceCtorEq, eq_self, ne_eq, Int.reduceToNat, Int.reduceLT, Int.reduceLE, Int.reduceGT, Int.reduceGE, Int.reduceBEq, Int.reduceBNe, Int.reduceEq, Int.reduceNe]
          all_goals ((repeat' apply And.intro) <;> first | rfl | omega | (show entryOk _ _ _ _ _ = true; kernel_rfl) | (show pivotOk _ _ = true; kernel_rfl) | decide)
    · cases q : mCasB m 5 x with
      | true =>
        simp only [Try.f77, inl, EB_all, hg, hm, hu, hd, hi0, hE, len_store, len_cas, q, sv, fv, fEnd, hfree_fr, hfree_cf, cv', cf_eta, frz_u, shC_dec, dC, T23, T28, T25, hfree_lu, hfree_l0, row0, row1, row2, row3, row4, row5, shI_dec, shN_dec, shB_dec, shM_dec, dI, dN, dB, dM, dU, dU_map, iv, bv, u, ms, ctx_T, ctx_C, ctx_P, T4, T3, T26, Option.bind_some, Option.bind_none, Option.map_some, List.length_map, List.length_set, String.reduceBEq, Int.toNat_natCast, Bool.true_beq, Bool.false_beq, T24, shF_dec, dF, fr_eta, ev1, ev2, implies_true, undef, stepP, dynCall, ↓condE_t, ↓condE_f, ↓guardE_tt, ↓guardE_ff, ↓guardE_tf, ↓guardE_ft, frzDeep, deepArgs, deepArg, resB, cv, stepB, stepE, callD, tabD, snapD, snap1, snapC, snapId, snapIds, guardB, guardC, dstAt, aopR, one, pre, binR, intOpR, shiftOpR, unR, argFrm, evo, lkp, hlk, lenOf, asLst, idOf, bndA, srcOk, ofVal, ofCells, setCells, fillA, setElems, fieldsOf, fieldsEq, scalEq, isEq, AV.wr, AV.ok1, TK.agg, frz, frzs, frzA, frzArg, frzArgs, subA, subL, sub1, kp, kh, accOf, List.replicate, Nat.reduceAdd, Nat.reduceSub, Nat.reduceMul, Nat.reduceEqDiff, Nat.reduceLT, Nat.reduceLeDiff, Nat.reduceBEq, reduceIte, reduceCtorEq, eq_self, ne_eq, Int.reduceToNat, Int.reduceLT, Int.reduceLE, Int.reduceGT, Int.reduceGE, Int.reduceBEq, Int.reduceBNe, Int.reduceEq, Int.reduceNe]
        all_goals ((repeat' apply And.intro) <;> first | rfl | omega | (show entryOk _ _ _ _ _ = true; kernel_rfl) | (show pivotOk _ _ = true; kernel_rfl) | decide)
      | false =>
        simp only [Try.f77, inl, EB_all, hg, hm, hu, hd, hi0, hE, len_store, len_cas, q, sv, fv, fEnd, hfree_fr, hfree_cf, cv', cf_eta, frz_u, shC_dec, dC, T23, T28, T25, hfree_lu, hfree_l0, row0, row1, row2, row3, row4, row5, shI_dec, shN_dec, shB_dec, shM_dec, dI, dN, dB, dM, dU, dU_map, iv, bv, u, ms, ctx_T, ctx_C, ctx_P, T4, T3, T26, Option.bind_some, Option.bind_none, Option.map_some, List.length_map, List.length_set, String.reduceBEq, Int.toNat_natCast, Bool.true_beq, Bool.false_beq, T24, shF_dec, dF, fr_eta, ev1, ev2, implies_true, undef, stepP, dynCall, ↓condE_t, ↓condE_f, ↓guardE_tt, ↓guardE_ff, ↓guardE_tf, ↓guardE_ft, frzDeep, deepArgs, deepArg, resB, cv, stepB, stepE, callD, tabD, snapD, snap1, snapC, snapId, snapIds, guardB, guardC, dstAt, aopR, one, pre, binR, intOpR, shiftOpR, unR, argFrm, evo, lkp, hlk, lenOf, asLst, idOf, bndA, srcOk, ofVal, ofCells, setCells, fillA, setElems, fieldsOf, fieldsEq, scalEq, isEq, AV.wr, AV.ok1, TK.agg, frz, frzs, frzA, frzArg, frzArgs, subA, subL, sub1, kp, kh, accOf, List.replicate, Nat.reduceAdd, Nat.reduceSub, Nat.reduceMul, Nat.reduceEqDiff, Nat.reduceLT, Nat.reduceLeDiff, Nat.reduceBEq, reduceIte, reduceCtorEq, eq_self, ne_eq, Int.reduceToNat, Int.reduceLT, Int.reduceLE, Int.reduceGT, Int.reduceGE, Int.reduceBEq, Int.reduceBNe, Int.reduceEq, Int.reduceNe]
        all_goals ((repeat' apply And.intro) <;> first | rfl | omega | (show entryOk _ _ _ _ _ = true; kernel_rfl) | (show pivotOk _ _ = true; kernel_rfl) | decide)
    · skip
      simp only [Try.f77, inl, EB_all, hg, hm, hu, hd, hi0, hE, len_store, len_cas, sv, fv, fEnd, hfree_fr, hfree_cf, cv', cf_eta, frz_u, shC_dec, dC, T23, T28, T25, hfree_lu, hfree_l0, row0, row1, row2, row3, row4, row5, shI_dec, shN_dec, shB_dec, shM_dec, dI, dN, dB, dM, dU, dU_map, iv, bv, u, ms, ctx_T, ctx_C, ctx_P, T4, T3, T26, Option.bind_some, Option.bind_none, Option.map_some, List.length_map, List.length_set, String.reduceBEq, Int.toNat_natCast, Bool.true_beq, Bool.false_beq, T24, shF_dec, dF, fr_eta, ev1, ev2, implies_true, undef, stepP, dynCall, ↓condE_t, ↓condE_f, ↓guardE_tt, ↓guardE_ff, ↓guardE_tf, ↓guardE_ft, frzDeep, deepArgs, deepArg, resB, cv, stepB, stepE, callD, tabD, snapD, snap1, snapC, snapId, snapIds, guardB, guardC, dstAt, aopR, one, pre, binR, intOpR, shiftOpR, unR, argFrm, evo, lkp, hlk, lenOf, asLst, idOf, bndA, srcOk, ofVal, ofCells, setCells, fillA, setElems, fieldsOf, fieldsEq, scalEq, isEq, AV.wr, AV.ok1, TK.agg, frz, frzs, frzA, frzArg, frzArgs, subA, subL, sub1, kp, kh, accOf, List.replicate, Nat.reduceAdd, Nat.reduceSub, Nat.reduceMul, Nat.reduceEqDiff, Nat.reduceLT, Nat.reduceLeDiff, Nat.reduceBEq, reduceIte, reduceCtorEq, eq_self, ne_eq, Int.reduceToNat, Int.reduceLT, Int.reduceLE, Int.reduceGT, Int.reduceGE, Int.reduceBEq, Int.reduceBNe, Int.reduceEq, Int.reduceNe]
      all_goals ((repeat' apply And.intro) <;> first | rfl | omega | (show entryOk _ _ _ _ _ = true; kernel_rfl) | (show pivotOk _ _ = true; kernel_rfl) | decide)
    · skip
      simp only [Try.f77, inl, EB_all, hg, hm, hu, hd, hi0, hE, len_store, len_cas, sv, fv, fEnd, hfree_fr, hfree_cf, cv', cf_eta, frz_u, shC_dec, dC, T23, T28, T25, hfree_lu, hfree_l0, row0, row1, row2, row3, row4, row5, shI_dec, shN_dec, shB_dec, shM_dec, dI, dN, dB, dM, dU, dU_map, iv, bv, u, ms, ctx_T, ctx_C, ctx_P, T4, T3, T26, Option.bind_some, Option.bind_none, Option.map_some, List.length_map, List.length_set, String.reduceBEq, Int.toNat_natCast, Bool.true_beq, Bool.false_beq, T24, shF_dec, dF, fr_eta, ev1, ev2, implies_true, undef, stepP, dynCall, ↓condE_t, ↓condE_f, ↓guardE_tt, ↓guardE_ff, ↓guardE_tf, ↓guardE_ft, frzDeep, deepArgs, deepArg, resB, cv, stepB, stepE, callD, tabD, snapD, snap1, snapC, snapId, snapIds, guardB, guardC, dstAt, aopR, one, pre, binR, intOpR, shiftOpR, unR, argFrm, evo, lkp, hlk, lenOf, asLst, idOf, bndA, srcOk, ofVal, ofCells, setCells, fillA, setElems, fieldsOf, fieldsEq, scalEq, isEq, AV.wr, AV.ok1, TK.agg, frz, frzs, frzA, frzArg, frzArgs, subA, subL, sub1, kp, kh, accOf, List.replicate, Nat.reduceAdd, Nat.reduceSub, Nat.reduceMul, Nat.reduceEqDiff, Nat.reduceLT, Nat.reduceLeDiff, Nat.reduceBEq, reduceIte, reduceCtorEq, eq_self, ne_eq, Int.reduceToNat, Int.reduceLT, Int.reduceLE, Int.reduceGT, Int.reduceGE, Int.reduceBEq, Int.reduceBNe, Int.reduceEq, Int.reduceNe]
      all_goals ((repeat' apply And.intro) <;> first | rfl | omega | (show entryOk _ _ _ _ _ = true; kernel_rfl) | (show pivotOk _ _ = true; kernel_rfl) | decide)
end Go.Vai
/- Putting into the injector: the table; the chapter's example; the laws. -/
namespace Go.Vai
open Go.RowKit Go.Proofs
set_option linter.unusedSimpArgs false
set_option linter.unusedVariables false
set_option maxHeartbeats 4000000
set_option maxRecDepth 100000

theorem w01 : IntKind.wrap .i64 (0 + 1) = 1 := rfl
theorem w12 : IntKind.wrap .i64 (1 + 1) = 2 := rfl
theorem w23 : IntKind.wrap .i64 (2 + 1) = 3 := rfl
theorem w34 : IntKind.wrap .i64 (3 + 1) = 4 := rfl
theorem w45 : IntKind.wrap .i64 (4 + 1) = 5 := rfl
theorem w56 : IntKind.wrap .i64 (5 + 1) = 6 := rfl
theorem w67 : IntKind.wrap .i64 (6 + 1) = 7 := rfl
theorem w78 : IntKind.wrap .i64 (7 + 1) = 8 := rfl
theorem w89 : IntKind.wrap .i64 (8 + 1) = 9 := rfl
theorem x1 : IntKind.wrap .i64 1 = 1 := rfl
theorem x2 : IntKind.wrap .i64 2 = 2 := rfl
theorem x3 : IntKind.wrap .i64 3 = 3 := rfl
theorem x4 : IntKind.wrap .i64 4 = 4 := rfl
theorem x5 : IntKind.wrap .i64 5 = 5 := rfl
theorem x6 : IntKind.wrap .i64 6 = 6 := rfl
theorem x7 : IntKind.wrap .i64 7 = 7 := rfl
theorem x8 : IntKind.wrap .i64 8 = 8 := rfl
theorem x9 : IntKind.wrap .i64 9 = 9 := rfl

def rowsEC : List Row := [
  (30, row3 shC shM shF fun c m f => some (sv (eStep c m f))), 
  (77, row3 shC shM shF fun c m f => some (sv (eStep c m f))), 
  (28, row1 shC fun c => some (ms (zeros (lSize c).toNat)))] ++ rowsEB
theorem rowsEC_ok : ∀ p ∈ rowsEC, RowOk Try.prog p := fun p h => by
  simp only [rowsEC, List.mem_append, List.mem_cons, List.not_mem_nil, or_false, false_or, or_assoc] at h
  rcases h with rfl | rfl | rfl | h
  · exact ok_row3 (enters_of Try.func30 (by decide) rfl) fun c m f r _ g _ e => by cases e; exact estep_pure c m f (shM_got g)
  · exact ok_row3 (enters_of Try.func77 (by decide) rfl) fun c m f r _ g _ e => by cases e; exact restep_pure c m f (shM_got g)
  · exact ok_row1 (enters_of Try.func28 (by decide) rfl) fun c r _ e => by cases e; exact new_pure c
  · exact rowsEB_ok p h
theorem okEC : (ctx Try.prog rowsEC).ok := rows_ok rowsEC_ok
theorem EC_30 : tabC rowsEC 30 = row3 shC shM shF fun c m f => some (sv (eStep c m f)) := rfl
theorem EC_77 : tabC rowsEC 77 = row3 shC shM shF fun c m f => some (sv (eStep c m f)) := rfl
theorem EC_28 : tabC rowsEC 28 = row1 shC fun c => some (ms (zeros (lSize c).toNat)) := rfl
theorem EC_96 : tabC rowsEC 96 = freeRow := rfl
theorem EC_23 : tabC rowsEC 23 = row4 shC shM shF shI fun c m f op => some (bv (goesE c m f op)) := rfl
theorem EC_52 : tabC rowsEC 52 = row4 shC shM shF shI fun c m f op => some (bv (goesE c m f op)) := rfl
theorem EC_26 : tabC rowsEC 26 = row2 shC shM fun c m => some (iv (eLen c m)) := rfl
theorem EC_61 : tabC rowsEC 61 = row2 shC shM fun c m => some (iv (eLen c m)) := rfl
theorem EC_62 : tabC rowsEC 62 = fun _ => none := rfl
theorem EC_67 : tabC rowsEC 67 = fun _ => none := rfl
theorem EC_68 : tabC rowsEC 68 = fun _ => none := rfl
theorem EC_69 : tabC rowsEC 69 = fun _ => none := rfl
theorem EC_70 : tabC rowsEC 70 = fun _ => none := rfl
theorem EC_71 : tabC rowsEC 71 = fun _ => none := rfl
theorem EC_72 : tabC rowsEC 72 = fun _ => none := rfl
theorem EC_44 : tabC rowsEC 44 = row1 shM fun m => some (ms m) := rfl
theorem EC_57 : tabC rowsEC 57 = row4 shM shI shN shN fun m i v w => some (.tup [ms (mCas m i v w), bv (mCasB m i v)]) := rfl
theorem EC_45 : tabC rowsEC 45 = row2 shM shI fun m i => some (u (mLoad m i)) := rfl
theorem EC_51 : tabC rowsEC 51 = row3 shM shI shN fun m i v => some (ms (mStore m i v)) := rfl
theorem EC_49 : tabC rowsEC 49 = row4 shM shI shN shN fun m i v w => some (.tup [ms (mCas m i v w), bv (mCasB m i v)]) := rfl
theorem EC_53 : tabC rowsEC 53 = row2 shM shI fun m i => some (u (mLoad m i)) := rfl
theorem EC_21 : tabC rowsEC 21 = row2 shM shM fun a b => some (bv (decide (a = b))) := rfl
theorem EC_59 : tabC rowsEC 59 = row3 shM shI shN fun m i v => some (ms (mStore m i v)) := rfl
theorem EC_66 : tabC rowsEC 66 = row1 shC fun c => some (iv (lSize c)) := rfl
theorem EC_88 : tabC rowsEC 88 = row1 shC fun c => some (iv (lSize c)) := rfl
theorem EC_27 : tabC rowsEC 27 = row1 shC fun c => some (bv (mayC c)) := rfl
theorem EC_46 : tabC rowsEC 46 = row2 shN shN fun a b => some (iv (far a b)) := rfl
theorem EC_83 : tabC rowsEC 83 = row1 shC fun c => some (bv (mayC c)) := rfl
theorem EC_55 : tabC rowsEC 55 = row2 shN shN fun a b => some (iv (far a b)) := rfl
theorem EC_95 : tabC rowsEC 95 = row2 shC shI fun c w => if mayC c = true ∧ 0 ≤ w ∧ w ≤ 8 then some (iv (lBase c w)) else none := rfl
theorem EC_63 : tabC rowsEC 63 = fun _ => none := rfl
theorem EC_65 : tabC rowsEC 65 = fun _ => none := rfl
theorem EC_86 : tabC rowsEC 86 = row1 shF fun f => some (bv (f.res != 0)) := rfl
theorem EC_56 : tabC rowsEC 56 = row3 shF shI shN fun f r v => some (fv (fEnd f r v)) := rfl
theorem EC_22 : tabC rowsEC 22 = row2 shM shM fun a b => some (bv (decide (a = b))) := rfl
theorem EC_25 : tabC rowsEC 25 = row3 shI shI shN fun o w v => some (fv (fBegin o w v)) := rfl
theorem EC_31 : tabC rowsEC 31 = row1 shF fun f => some (bv (f.res != 0)) := rfl
theorem EC_48 : tabC rowsEC 48 = row3 shF shI shN fun f r v => some (fv (fEnd f r v)) := rfl
theorem EC_74 : tabC rowsEC 74 = fun _ => none := rfl
theorem EC_75 : tabC rowsEC 75 = fun _ => none := rfl
theorem EC_76 : tabC rowsEC 76 = fun _ => none := rfl
theorem EC_73 : tabC rowsEC 73 = fun _ => none := rfl
theorem EC_24 : tabC rowsEC 24 = row2 shC shN fun c x => some (iv (eSeq c x)) := rfl
theorem EC_50 : tabC rowsEC 50 = row2 shC shN fun c x => some (iv (eVal c x)) := rfl
theorem EC_54 : tabC rowsEC 54 = row2 shC shN fun c x => some (iv (eSeq c x)) := rfl
theorem EC_58 : tabC rowsEC 58 = row2 shC shN fun c x => some (iv (eVal c x)) := rfl
theorem EC_all : type_of% (And.intro EC_30 <| And.intro EC_77 <| And.intro EC_28 <| And.intro EC_96 <| And.intro EC_23 <| And.intro EC_52 <| And.intro EC_26 <| And.intro EC_61 <| And.intro EC_62 <| And.intro EC_67 <| And.intro EC_68 <| And.intro EC_69 <| And.intro EC_70 <| And.intro EC_71 <| And.intro EC_72 <| And.intro EC_44 <| And.intro EC_57 <| And.intro EC_45 <| And.intro EC_51 <| And.intro EC_49 <| And.intro EC_53 <| And.intro EC_21 <| And.intro EC_59 <| And.intro EC_66 <| And.intro EC_88 <| And.intro EC_27 <| And.intro EC_46 <| And.intro EC_83 <| And.intro EC_55 <| And.intro EC_95 <| And.intro EC_63 <| And.intro EC_65 <| And.intro EC_86 <| And.intro EC_56 <| And.intro EC_22 <| And.intro EC_25 <| And.intro EC_31 <| And.intro EC_48 <| And.intro EC_74 <| And.intro EC_75 <| And.intro EC_76 <| And.intro EC_73 <| And.intro EC_24 <| And.intro EC_50 <| And.intro EC_54 <| EC_58) := And.intro EC_30 <| And.intro EC_77 <| And.intro EC_28 <| And.intro EC_96 <| And.intro EC_23 <| And.intro EC_52 <| And.intro EC_26 <| And.intro EC_61 <| And.intro EC_62 <| And.intro EC_67 <| And.intro EC_68 <| And.intro EC_69 <| And.intro EC_70 <| And.intro EC_71 <| And.intro EC_72 <| And.intro EC_44 <| And.intro EC_57 <| And.intro EC_45 <| And.intro EC_51 <| And.intro EC_49 <| And.intro EC_53 <| And.intro EC_21 <| And.intro EC_59 <| And.intro EC_66 <| And.intro EC_88 <| And.intro EC_27 <| And.intro EC_46 <| And.intro EC_83 <| And.intro EC_55 <| And.intro EC_95 <| And.intro EC_63 <| And.intro EC_65 <| And.intro EC_86 <| And.intro EC_56 <| And.intro EC_22 <| And.intro EC_25 <| And.intro EC_31 <| And.intro EC_48 <| And.intro EC_74 <| And.intro EC_75 <| And.intro EC_76 <| And.intro EC_73 <| And.intro EC_24 <| And.intro EC_50 <| And.intro EC_54 <| EC_58

def rowsED : List Row := [] ++ rowsEC
theorem rowsED_ok : ∀ p ∈ rowsED, RowOk Try.prog p := fun p h => by
  simp only [rowsED, List.mem_append, List.mem_cons, List.not_mem_nil, or_false, false_or, or_assoc] at h
  rcases h with h
  · exact rowsEC_ok p h
theorem okED : (ctx Try.prog rowsED).ok := rows_ok rowsED_ok
theorem ED_30 : tabC rowsED 30 = row3 shC shM shF fun c m f => some (sv (eStep c m f)) := rfl
theorem ED_77 : tabC rowsED 77 = row3 shC shM shF fun c m f => some (sv (eStep c m f)) := rfl
theorem ED_28 : tabC rowsED 28 = row1 shC fun c => some (ms (zeros (lSize c).toNat)) := rfl
theorem ED_96 : tabC rowsED 96 = freeRow := rfl
theorem ED_23 : tabC rowsED 23 = row4 shC shM shF shI fun c m f op => some (bv (goesE c m f op)) := rfl
theorem ED_52 : tabC rowsED 52 = row4 shC shM shF shI fun c m f op => some (bv (goesE c m f op)) := rfl
theorem ED_26 : tabC rowsED 26 = row2 shC shM fun c m => some (iv (eLen c m)) := rfl
theorem ED_61 : tabC rowsED 61 = row2 shC shM fun c m => some (iv (eLen c m)) := rfl
theorem ED_62 : tabC rowsED 62 = fun _ => none := rfl
theorem ED_67 : tabC rowsED 67 = fun _ => none := rfl
theorem ED_68 : tabC rowsED 68 = fun _ => none := rfl
theorem ED_69 : tabC rowsED 69 = fun _ => none := rfl
theorem ED_70 : tabC rowsED 70 = fun _ => none := rfl
theorem ED_71 : tabC rowsED 71 = fun _ => none := rfl
theorem ED_72 : tabC rowsED 72 = fun _ => none := rfl
theorem ED_44 : tabC rowsED 44 = row1 shM fun m => some (ms m) := rfl
theorem ED_57 : tabC rowsED 57 = row4 shM shI shN shN fun m i v w => some (.tup [ms (mCas m i v w), bv (mCasB m i v)]) := rfl
theorem ED_45 : tabC rowsED 45 = row2 shM shI fun m i => some (u (mLoad m i)) := rfl
theorem ED_51 : tabC rowsED 51 = row3 shM shI shN fun m i v => some (ms (mStore m i v)) := rfl
theorem ED_49 : tabC rowsED 49 = row4 shM shI shN shN fun m i v w => some (.tup [ms (mCas m i v w), bv (mCasB m i v)]) := rfl
theorem ED_53 : tabC rowsED 53 = row2 shM shI fun m i => some (u (mLoad m i)) := rfl
theorem ED_21 : tabC rowsED 21 = row2 shM shM fun a b => some (bv (decide (a = b))) := rfl
theorem ED_59 : tabC rowsED 59 = row3 shM shI shN fun m i v => some (ms (mStore m i v)) := rfl
theorem ED_66 : tabC rowsED 66 = row1 shC fun c => some (iv (lSize c)) := rfl
theorem ED_88 : tabC rowsED 88 = row1 shC fun c => some (iv (lSize c)) := rfl
theorem ED_27 : tabC rowsED 27 = row1 shC fun c => some (bv (mayC c)) := rfl
theorem ED_46 : tabC rowsED 46 = row2 shN shN fun a b => some (iv (far a b)) := rfl
theorem ED_83 : tabC rowsED 83 = row1 shC fun c => some (bv (mayC c)) := rfl
theorem ED_55 : tabC rowsED 55 = row2 shN shN fun a b => some (iv (far a b)) := rfl
theorem ED_95 : tabC rowsED 95 = row2 shC shI fun c w => if mayC c = true ∧ 0 ≤ w ∧ w ≤ 8 then some (iv (lBase c w)) else none := rfl
theorem ED_63 : tabC rowsED 63 = fun _ => none := rfl
theorem ED_65 : tabC rowsED 65 = fun _ => none := rfl
theorem ED_86 : tabC rowsED 86 = row1 shF fun f => some (bv (f.res != 0)) := rfl
theorem ED_56 : tabC rowsED 56 = row3 shF shI shN fun f r v => some (fv (fEnd f r v)) := rfl
theorem ED_22 : tabC rowsED 22 = row2 shM shM fun a b => some (bv (decide (a = b))) := rfl
theorem ED_25 : tabC rowsED 25 = row3 shI shI shN fun o w v => some (fv (fBegin o w v)) := rfl
theorem ED_31 : tabC rowsED 31 = row1 shF fun f => some (bv (f.res != 0)) := rfl
theorem ED_48 : tabC rowsED 48 = row3 shF shI shN fun f r v => some (fv (fEnd f r v)) := rfl
theorem ED_74 : tabC rowsED 74 = fun _ => none := rfl
theorem ED_75 : tabC rowsED 75 = fun _ => none := rfl
theorem ED_76 : tabC rowsED 76 = fun _ => none := rfl
theorem ED_73 : tabC rowsED 73 = fun _ => none := rfl
theorem ED_24 : tabC rowsED 24 = row2 shC shN fun c x => some (iv (eSeq c x)) := rfl
theorem ED_50 : tabC rowsED 50 = row2 shC shN fun c x => some (iv (eVal c x)) := rfl
theorem ED_54 : tabC rowsED 54 = row2 shC shN fun c x => some (iv (eSeq c x)) := rfl
theorem ED_58 : tabC rowsED 58 = row2 shC shN fun c x => some (iv (eVal c x)) := rfl
theorem ED_all : type_of% (And.intro ED_30 <| And.intro ED_77 <| And.intro ED_28 <| And.intro ED_96 <| And.intro ED_23 <| And.intro ED_52 <| And.intro ED_26 <| And.intro ED_61 <| And.intro ED_62 <| And.intro ED_67 <| And.intro ED_68 <| And.intro ED_69 <| And.intro ED_70 <| And.intro ED_71 <| And.intro ED_72 <| And.intro ED_44 <| And.intro ED_57 <| And.intro ED_45 <| And.intro ED_51 <| And.intro ED_49 <| And.intro ED_53 <| And.intro ED_21 <| And.intro ED_59 <| And.intro ED_66 <| And.intro ED_88 <| And.intro ED_27 <| And.intro ED_46 <| And.intro ED_83 <| And.intro ED_55 <| And.intro ED_95 <| And.intro ED_63 <| And.intro ED_65 <| And.intro ED_86 <| And.intro ED_56 <| And.intro ED_22 <| And.intro ED_25 <| And.intro ED_31 <| And.intro ED_48 <| And.intro ED_74 <| And.intro ED_75 <| And.intro ED_76 <| And.intro ED_73 <| And.intro ED_24 <| And.intro ED_50 <| And.intro ED_54 <| ED_58) := And.intro ED_30 <| And.intro ED_77 <| And.intro ED_28 <| And.intro ED_96 <| And.intro ED_23 <| And.intro ED_52 <| And.intro ED_26 <| And.intro ED_61 <| And.intro ED_62 <| And.intro ED_67 <| And.intro ED_68 <| And.intro ED_69 <| And.intro ED_70 <| And.intro ED_71 <| And.intro ED_72 <| And.intro ED_44 <| And.intro ED_57 <| And.intro ED_45 <| And.intro ED_51 <| And.intro ED_49 <| And.intro ED_53 <| And.intro ED_21 <| And.intro ED_59 <| And.intro ED_66 <| And.intro ED_88 <| And.intro ED_27 <| And.intro ED_46 <| And.intro ED_83 <| And.intro ED_55 <| And.intro ED_95 <| And.intro ED_63 <| And.intro ED_65 <| And.intro ED_86 <| And.intro ED_56 <| And.intro ED_22 <| And.intro ED_25 <| And.intro ED_31 <| And.intro ED_48 <| And.intro ED_74 <| And.intro ED_75 <| And.intro ED_76 <| And.intro ED_73 <| And.intro ED_24 <| And.intro ED_50 <| And.intro ED_54 <| ED_58

end Go.Vai
