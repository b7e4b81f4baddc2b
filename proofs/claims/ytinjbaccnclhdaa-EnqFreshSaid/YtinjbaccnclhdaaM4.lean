/- Deques by lists: what a push leaves as it is. -/
import Derived.Test.YtinjbaccnclhdaaM3
namespace Go.Vai
open Go.RowKit
set_option linter.unusedVariables false
set_option linter.unusedSimpArgs false

theorem list_congr {c : Cf} {m m' : List Int} {k : Int} (hl : m'.length = m.length) (h : Lay c m k → mLoad m' (lTop c k) = mLoad m (lTop c k) ∧ mLoad m' (lBottom c k) = mLoad m (lBottom c k) ∧ ∀ x, mLoad m' (lSlot c k x) = mLoad m (lSlot c k x)) :
    dIs c m' k = dIs c m k ∧ dList c m' k = dList c m k := by
  by_cases hL : Lay c m k
  · obtain ⟨h1, h2, h3⟩ := h hL
    have hn : dNum c m' k = dNum c m k := by unfold dNum; rw [h1, h2]
    have hi : dIs c m' k = dIs c m k := by unfold dIs; rw [hn, hl]
    refine ⟨hi, ?_⟩
    cases e : dIs c m k with
    | false =>
      rw [e] at hi
      simp [dList, e, hi]
    | true =>
      rw [e] at hi
      rw [dList_eq e, dList_eq hi, hn, h1]
      exact dRow_congr fun i _ => h3 _
  · have a : dIs c m k = false := by rw [Bool.eq_false_iff]; intro e; exact hL (dIs_iff.1 e).1
    have b : dIs c m' k = false := by
      rw [Bool.eq_false_iff]; intro e
      have := (dIs_iff.1 e).1
      exact hL ⟨this.may, by rw [← hl]; exact this.len, this.lo, this.hi⟩
    exact ⟨by rw [a, b], by simp [dList, a, b]⟩

/-- A store at another worker's cells. -/
theorem list_other {c : Cf} {m : List Int} {w k i v : Int} (hw : Lay c m w) (hne : w ≠ k) (hi : lBase c w ≤ i ∧ i < lBase c w + 3 + c.d) :
    dIs c (mStore m i v) k = dIs c m k ∧ dList c (mStore m i v) k = dList c m k := by
  refine list_congr (len_store ..) fun hk => ?_
  have ha := hw.apart hk hne
  have hs : ∀ x, lBase c k ≤ lSlot c k x ∧ lSlot c k x < lBase c k + 3 + c.d := by
    intro x
    rw [hk.slot]
    rcases hk.dpos with e | e | e | e | e <;> rw [e] <;> omega
  have hd := hk.dpos
  refine ⟨load_other ?_ _, load_other ?_ _, fun x => load_other ?_ _⟩
  · rw [hk.top]; omega
  · rw [hk.bottom]; omega
  · have := hs x; omega

theorem top_at {c : Cf} {m : List Int} {w : Int} (h : Lay c m w) : lBase c w ≤ lTop c w ∧ lTop c w < lBase c w + 3 + c.d := by
  have := h.dpos; rw [h.top]; omega
theorem bottom_at {c : Cf} {m : List Int} {w : Int} (h : Lay c m w) : lBase c w ≤ lBottom c w ∧ lBottom c w < lBase c w + 3 + c.d := by
  have := h.dpos; rw [h.bottom]; omega
theorem slot_at {c : Cf} {m : List Int} {w : Int} (h : Lay c m w) (x : Int) : lBase c w ≤ lSlot c w x ∧ lSlot c w x < lBase c w + 3 + c.d := by
  rw [h.slot]
  rcases h.dpos with e | e | e | e | e <;> rw [e] <;> omega

/-- Ahead of its last step a push is not seen. -/
theorem push_seen {c : Cf} {m : List Int} {w v : Int} (hm : InM m) (hi : dIs c m w = true) (hn : dNum c m w < c.d) :
    dIs c (mStore m (lSlot c w (mLoad m (lBottom c w))) v) w = true ∧ dList c (mStore m (lSlot c w (mLoad m (lBottom c w))) v) w = dList c m w := by
  have D := deq_of hm hi
  obtain ⟨h, h1, h2⟩ := dIs_iff.1 hi
  obtain ⟨a1, a2, a3⟩ := D.is
  obtain ⟨b1, b2, b3⟩ := (D.setSlot (mLoad m (lBottom c w)) v).is
  refine ⟨b2, ?_⟩
  rw [b3, a3]
  have e := D.num
  conv => lhs; rw [e]
  exact row_slot h D.tu D.room (by omega) (Nat.le_refl _) v

theorem list_len {c : Cf} {m : List Int} {w : Int} (hi : dIs c m w = true) : ((dList c m w).length : Int) = dNum c m w := by
  obtain ⟨h, h1, h2⟩ := dIs_iff.1 hi
  rw [dList_eq hi, dRow_len]; omega

/-- Four steps of a push, alone: the states, and what comes of it. -/
theorem push_alone {c : Cf} {m : List Int} {w v : Int} (hm : InM m) (hi : dIs c m w = true) :
    ∃ m1 f1 m2 f2 m3 f3 m4 f4, pStep c m ⟨0, 0, w, v, 0, 0, 0⟩ = (m1, f1) ∧ pStep c m1 f1 = (m2, f2) ∧ pStep c m2 f2 = (m3, f3) ∧ pStep c m3 f3 = (m4, f4) ∧
      m1.length = m.length ∧ m2.length = m.length ∧ m3.length = m.length ∧ m4.length = m.length ∧
      dIs c m4 w = true ∧ fOnce (dList c m w) c.d ⟨0, 0, w, v, 0, 0, 0⟩ = (dList c m4 w, f4) := by
  obtain ⟨h, h1, h2⟩ := dIs_iff.1 hi
  have hl := list_len hi
  have hw := dNum_wrap hm h1
  by_cases hn : dNum c m w < c.d
  · obtain ⟨k1, k2⟩ := push_list (v := v) hm hi hn
    have hs : Lay c (mStore m (lSlot c w (mLoad m (lBottom c w))) v) w := h.store _ _
    refine ⟨_, _, _, _, _, _, _, _, push_1 h, push_2 h (by rw [hw]; omega), push_3 h, push_4 hs, rfl, rfl, len_store .., by rw [len_store, len_store], k1, ?_⟩
    rw [k2]
    simp [fOnce, fEnd, show ¬ c.d ≤ ((dList c m w).length : Int) by omega]
  · refine ⟨_, _, _, _, _, _, _, _, push_1 h, push_2f h (by rw [hw]; omega), push_over (by simp), push_over (by simp), rfl, rfl, rfl, rfl, hi, ?_⟩
    simp [fOnce, fEnd, show c.d ≤ ((dList c m w).length : Int) by omega]

/-- Four steps of a push at another worker's deque. -/
theorem push_other {c : Cf} {m : List Int} {w v k : Int} (hne : k ≠ w) :
    ∃ m1 f1 m2 f2 m3 f3 m4 f4, pStep c m ⟨0, 0, w, v, 0, 0, 0⟩ = (m1, f1) ∧ pStep c m1 f1 = (m2, f2) ∧ pStep c m2 f2 = (m3, f3) ∧ pStep c m3 f3 = (m4, f4) ∧
      m1.length = m.length ∧ m2.length = m.length ∧ m3.length = m.length ∧ m4.length = m.length ∧ dIs c m4 k = dIs c m k ∧ dList c m4 k = dList c m k := by
  by_cases h : Lay c m w
  · by_cases hf : c.d ≤ wrapU (mLoad m (lBottom c w) - mLoad m (lTop c w))
    · exact ⟨_, _, _, _, _, _, _, _, push_1 h, push_2f h hf, push_over (by simp), push_over (by simp), rfl, rfl, rfl, rfl, rfl, rfl⟩
    · have hs : Lay c (mStore m (lSlot c w (mLoad m (lBottom c w))) v) w := h.store _ _
      have o1 := list_other (v := v) h hne.symm (slot_at h (mLoad m (lBottom c w)))
      have o2 := list_other (v := wrapU (mLoad m (lBottom c w) + 1)) hs hne.symm (bottom_at h)
      refine ⟨_, _, _, _, _, _, _, _, push_1 h, push_2 h hf, push_3 h, push_4 hs, rfl, rfl, len_store .., by rw [len_store, len_store], o2.1.trans o1.1, o2.2.trans o1.2⟩
  · have s : pStep c m ⟨0, 0, w, v, 0, 0, 0⟩ = (m, ⟨0, 0, w, v, 0, 0, 0⟩) := pStep_no (goes_lay h)
    exact ⟨_, _, _, _, _, _, _, _, s, s, s, s, rfl, rfl, rfl, rfl, rfl, rfl⟩
end Go.Vai
