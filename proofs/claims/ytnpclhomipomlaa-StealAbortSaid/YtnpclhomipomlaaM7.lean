/- Deques by lists: a steal alone, two steals, a steal and a push. -/
import Derived.Test.YtnpclhomipomlaaM6
import Derived.Test.YtnpclhomipomlaaM5
namespace Go.Vai
open Go.RowKit
set_option linter.unusedVariables false
set_option linter.unusedSimpArgs false

theorem slot_0 {c : Cf} {m : List Int} {w t : Int} (h : Lay c m w) : lSlot c w t = lSlot c w (wrapU (t + ((0 : Nat) : Int))) :=
  slot_eq h (by rw [wrapU_eq]; omega)
theorem far_0 {t : Int} (ht : InU t) : far t t = 0 := by rw [far_eq ht ht]; unfold InU at ht; omega

/-- Its first number taken. -/
theorem Deq.taken {c : Cf} {m : List Int} {w t b : Int} {k : Nat} (D : Deq c m w t b (k + 1)) :
    dIs c (mStore m (lTop c w) (wrapU (t + 1))) w = true ∧ dList c (mStore m (lTop c w) (wrapU (t + 1))) w = (dList c m w).drop 1 ∧ mLoad m (lSlot c w t) = (dList c m w).getD 0 0 ∧ far b t > 0 ∧ mCasB m (lTop c w) t = true := by
  obtain ⟨n1, _, l1⟩ := D.is
  obtain ⟨_, i2, l2⟩ := D.incTop.is
  refine ⟨i2, ?_, ?_, ?_, ?_⟩
  · rw [l2, l1, dRow_drop D.tu, row_top D.lay]
  · rw [l1, dRow_get (by omega), slot_0 D.lay]
  · have : dNum c m w = far b t := by unfold dNum; rw [D.bot, D.top]
    omega
  · have := casB_top D.lay
    rw [D.top] at this; exact this

theorem Deq.split {c : Cf} {m : List Int} {w : Int} (hm : InM m) (hi : dIs c m w = true) (hne : dList c m w ≠ []) : ∃ k : Nat, Deq c m w (mLoad m (lTop c w)) (mLoad m (lBottom c w)) (k + 1) ∧ (dList c m w).length = k + 1 := by
  have D := deq_of hm hi
  obtain ⟨n1, _, l1⟩ := D.is
  cases hn : (dNum c m w).toNat with
  | zero => rw [hn] at l1; exact (hne (by rw [l1]; rfl)).elim
  | succ k => rw [hn] at D l1; exact ⟨k, D, by rw [l1, dRow_len]⟩

theorem steal_alone {c : Cf} {m : List Int} {w : Int} (hm : InM m) (hi : dIs c m w = true) :
    dIs c (run (sStep c) 4 (m, ⟨2, 0, w, 0, 0, 0, 0⟩)).1 w = true ∧ fOnce (dList c m w) c.d ⟨2, 0, w, 0, 0, 0, 0⟩ = (dList c (run (sStep c) 4 (m, ⟨2, 0, w, 0, 0, 0, 0⟩)).1 w, (run (sStep c) 4 (m, ⟨2, 0, w, 0, 0, 0, 0⟩)).2) := by
  have D0 := deq_of hm hi
  have h := D0.lay
  by_cases hne : dList c m w = []
  · obtain ⟨n1, _, l1⟩ := D0.is
    have hf : far (mLoad m (lBottom c w)) (mLoad m (lTop c w)) ≤ 0 := by
      have : dNum c m w = far (mLoad m (lBottom c w)) (mLoad m (lTop c w)) := rfl
      have h2 := congrArg List.length l1
      rw [hne, dRow_len] at h2
      simp at h2
      omega
    rw [run_succ, steal_1 h, run_succ, steal_2e h hf, run_steal_over (by simp)]
    refine ⟨hi, ?_⟩
    dsimp only
    rw [hne]; rfl
  · obtain ⟨k, D, hl⟩ := Deq.split hm hi hne
    obtain ⟨t1, t2, t3, t4, t5⟩ := D.taken
    rw [run_succ, steal_1 h, run_succ, steal_2 h (by omega), run_succ, steal_3 h, run_succ, steal_4 h t5]
    refine ⟨t1, ?_⟩
    dsimp only [run]
    rw [t2, t3]
    simp [fOnce, fEnd, hne]

/-- One more is another one. -/
theorem inc_ne {t : Int} (ht : InU t) : wrapU (t + 1) ≠ t := by rw [wrapU_eq]; unfold InU at ht; omega
theorem casB_inc {c : Cf} {m : List Int} {w t : Int} (h : Lay c m w) (ht : InU t) : mCasB (mStore m (lTop c w) (wrapU (t + 1))) (lTop c w) t = false := by
  have : ¬ wrapU (t + 1) = t := inc_ne ht
  simp [mCasB, load_store h.in_top, this]

/-- A push while one steals: the list behind both. -/
theorem Deq.both {c : Cf} {m : List Int} {w t b v : Int} {k : Nat} (D : Deq c m w t b (k + 1)) (hroom : ((k + 1 : Nat) : Int) < c.d) :
    dIs c (mStore (mStore (mStore m (lSlot c w b) v) (lTop c w) (wrapU (t + 1))) (lBottom c w) (wrapU (b + 1))) w = true ∧
    dList c (mStore (mStore (mStore m (lSlot c w b) v) (lTop c w) (wrapU (t + 1))) (lBottom c w) (wrapU (b + 1))) w = (dList c m w).drop 1 ++ [v] := by
  have h := D.lay
  have h1 : Lay c (mStore m (lSlot c w b) v) w := h.store _ _
  have h2 : Lay c (mStore (mStore m (lSlot c w b) v) (lTop c w) (wrapU (t + 1))) w := h1.store _ _
  have hb := D.num
  have D5 : Deq c (mStore (mStore (mStore m (lSlot c w b) v) (lTop c w) (wrapU (t + 1))) (lBottom c w) (wrapU (b + 1))) w (wrapU (t + 1)) (wrapU (b + 1)) (k + 1) :=
    { lay := h2.store _ _, top := by rw [load_other h.tb.symm, load_store h1.in_top], bot := load_store h2.in_bottom _, tu := wrapU_u _, bu := wrapU_u _,
      num := by rw [hb, wrapU_eq, wrapU_eq, wrapU_eq, wrapU_eq]; omega, room := by omega }
  obtain ⟨_, i5, l5⟩ := D5.is
  obtain ⟨_, _, l0⟩ := D.is
  refine ⟨i5, ?_⟩
  rw [l5, row_bottom h2, row_top h1, dRow_succ, l0, dRow_drop D.tu]
  have e : lSlot c w (wrapU (wrapU (t + 1) + (k : Int))) = lSlot c w b := slot_eq h (by rw [hb, wrapU_eq, wrapU_eq, wrapU_eq]; omega)
  rw [e, load_store (h.in_slot _)]
  congr 1
  refine dRow_congr fun i hi => load_other ?_ _
  have e1 : lSlot c w b = lSlot c w (wrapU (t + ((k + 1 : Nat) : Int))) := by rw [hb]
  have e2 : lSlot c w (wrapU (wrapU (t + 1) + (i : Int))) = lSlot c w (wrapU (t + ((i + 1 : Nat) : Int))) := slot_eq h (by rw [wrapU_eq, wrapU_eq, wrapU_eq]; omega)
  rw [e1, e2]
  exact slot_ne h D.tu (by omega) (by omega) (by omega)
end Go.Vai
