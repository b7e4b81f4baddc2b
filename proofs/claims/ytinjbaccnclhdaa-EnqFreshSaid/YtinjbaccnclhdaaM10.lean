/- A new injector: as many go in as there is room for. -/
import Derived.Test.YtinjbaccnclhdaaM9
namespace Go.Vai
open Go.RowKit
set_option linter.unusedVariables false
set_option linter.unusedSimpArgs false

/-- An injector into which k were put, and out of which nothing was taken. -/
structure Fresh (c : Cf) (m : List Int) (k : Nat) : Prop where
  inj : Inj c m
  tail : mLoad m 5 = k
  head : mLoad m 4 = 0
  seq : ∀ j : Nat, (j : Int) < c.i → mLoad m (6 + j) = if j < k then 1 else 0
  room : (k : Int) ≤ c.i

theorem zeros_load (n : Nat) (i : Int) : mLoad (zeros n) i = 0 := by
  unfold mLoad
  split
  · rename_i h
    obtain ⟨_, _, h3⟩ := isIn_true h
    unfold zeros at *
    rw [List.getD_eq_getElem?_getD, List.getElem?_eq_getElem h3]
    simp
  · rfl

theorem fresh_new {c : Cf} (h : mayC c = true) : Fresh c (zeros (lSize c).toNat) 0 := by
  have hs : 0 ≤ lSize c := by
    obtain ⟨a1, a2, a3, a4, a5, a6, a7⟩ := mayC_iff.1 h
    unfold lSize lBase
    rw [h, if_pos rfl]
    rcases a3 with e | e | e | e | e <;> rw [e] <;> omega
  exact ⟨⟨h, by rw [zeros_len]; omega⟩, by rw [zeros_load]; rfl, zeros_load _ _, fun j _ => by rw [zeros_load]; simp, by have := mayC_iff.1 h; omega⟩

theorem slot_small {c : Cf} {m : List Int} (h : Inj c m) {k : Nat} (hk : (k : Int) < c.i) : eSeq c k = 6 + k ∧ eVal c k = 6 + c.i + k ∧ eFree c k = 0 := by
  have hi := h.ipos
  have e1 : Int.tmod (k : Int) c.i = k := Int.tmod_eq_of_lt (by omega) hk
  have e2 : Int.tdiv (k : Int) c.i = 0 := Int.tdiv_eq_zero_of_lt (by omega) hk
  refine ⟨?_, ?_, ?_⟩
  · unfold eSeq; rw [h.may, if_pos rfl, e1]
  · unfold eVal; rw [h.may, if_pos rfl, e1]
  · unfold eFree; rw [e2]; decide

/-- One is put in. -/
theorem fresh_put {c : Cf} {m : List Int} {k : Nat} (h : Fresh c m k) (hk : (k : Int) < c.i) (w v : Int) :
    ∃ m3 m4 m5, eStep c m ⟨3, 0, w, v, 0, 0, 0⟩ = (m, ⟨3, 1, w, v, k, 0, 0⟩) ∧ eStep c m ⟨3, 1, w, v, k, 0, 0⟩ = (m, ⟨3, 2, w, v, k, 0, 0⟩) ∧
      eStep c m ⟨3, 2, w, v, k, 0, 0⟩ = (m3, ⟨3, 3, w, v, k, 0, 0⟩) ∧ eStep c m3 ⟨3, 3, w, v, k, 0, 0⟩ = (m4, ⟨3, 4, w, v, k, 0, 0⟩) ∧ eStep c m4 ⟨3, 4, w, v, k, 0, 0⟩ = (m5, ⟨3, 0, w, v, 0, 0, 1⟩) ∧
      m3.length = m.length ∧ m4.length = m.length ∧ m5.length = m.length ∧ Fresh c m5 (k + 1) := by
  obtain ⟨s1, s2, s3⟩ := slot_small h.inj hk
  have hi := h.inj.ipos
  have hsz := h.inj.size
  have i3 := h.inj.store 5 (wrapU ((k : Int) + 1))
  have i4 := i3.store (eVal c k) v
  have hw : wrapU ((k : Int) + 1) = k + 1 := by rw [wrapU_eq]; omega
  have hseq : mLoad m (eSeq c k) = eFree c k := by rw [s1, s3, h.seq k hk]; simp
  have hcas : mCasB m 5 k = true := by simp [mCasB, h.inj.in_tail, h.tail]
  refine ⟨_, _, _, ?_, ?_, enq_3 h.inj hcas, enq_4 i3, enq_5 i4, len_store .., by rw [len_store, len_store], by rw [len_store, len_store, len_store], ?_⟩
  · rw [enq_1 h.inj, h.tail]
  · have := enq_2 (w := w) (v := v) (x := (k : Int)) (y := 0) h.inj hseq
    rw [s3] at this; exact this
  · have hin4 : isIn m (eSeq c k) = true := by rw [s1]; simp [isIn]; omega
    have i5 := i4.store (eSeq c k) (wrapU (eFree c k + 1))
    rw [s1, s2, s3] at i5
    rw [s1, s2, s3]
    refine ⟨i5, ?_, ?_, ?_, by omega⟩
    · rw [load_other (by omega), load_other (by omega), load_store h.inj.in_tail, hw]; omega
    · rw [load_other (by omega), load_other (by omega), load_other (by omega), h.head]
    · intro j hj
      by_cases e : j = k
      · subst e
        rw [load_store (by rw [in_store, in_store]; simp [isIn]; omega), if_pos (Nat.lt_succ_self _)]
        rfl
      · rw [load_other (by omega), load_other (by omega), load_other (by omega), h.seq j hj]
        by_cases l : j < k
        · rw [if_pos l, if_pos (by omega)]
        · rw [if_neg l, if_neg (by omega)]

/-- There is no room. -/
theorem fresh_full {c : Cf} {m : List Int} {k : Nat} (h : Fresh c m k) (hk : (k : Int) = c.i) (w v : Int) :
    eStep c m ⟨3, 0, w, v, 0, 0, 0⟩ = (m, ⟨3, 1, w, v, k, 0, 0⟩) ∧ eStep c m ⟨3, 1, w, v, k, 0, 0⟩ = (m, ⟨3, 0, w, v, 0, 0, 2⟩) := by
  have hi := h.inj.ipos
  have e1 : Int.tmod (k : Int) c.i = 0 := by rw [hk]; exact Int.tmod_self
  have e2 : Int.tdiv (k : Int) c.i = 1 := by rw [hk]; exact Int.tdiv_self (by omega)
  have s1 : eSeq c k = 6 := by unfold eSeq; rw [h.inj.may, if_pos rfl, e1]; rfl
  have s3 : eFree c k = 2 := by unfold eFree; rw [e2]; decide
  have hl : mLoad m 6 = 1 := by have := h.seq 0 (by omega); rw [if_pos (by omega)] at this; exact this
  refine ⟨by rw [enq_1 h.inj, h.tail], enq_2f h.inj (by rw [s1, s3, hl]; decide) (by rw [s1, s3, hl]; decide)⟩

theorem fresh_len {c : Cf} {m : List Int} {k : Nat} (h : Fresh c m k) : eLen c m = k := by
  have hi := h.inj.ipos
  have hr := h.room
  have e : eLen c m = far (mLoad m 5) (mLoad m 4) := by simp [eLen, h.inj.may, h.inj.len]
  rw [e, h.tail, h.head, far_eq (by unfold InU; omega) (by unfold InU; omega)]
  omega
end Go.Vai
