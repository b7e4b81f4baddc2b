/- In how many cells two lists differ, and in which one last. -/
import Derived.Test.YtinjbaccnclhdaaM4
namespace Go.Vai
open Go.RowKit
set_option linter.unusedVariables false
set_option linter.unusedSimpArgs false

def cntD (a m : List Int) : Nat → Int × Int
  | 0 => (0, -1)
  | i + 1 => if (a.getD i 0 != m.getD i 0) = true then ((cntD a m i).1 + 1, i) else cntD a m i

theorem cntD_le (a m : List Int) : ∀ i, 0 ≤ (cntD a m i).1 ∧ (cntD a m i).1 ≤ i
  | 0 => by simp [cntD]
  | i + 1 => by
    have := cntD_le a m i
    unfold cntD
    split
    · dsimp only; omega
    · omega
theorem cntD_eq {a m : List Int} (h : ∀ k, a.getD k 0 = m.getD k 0) : ∀ i, cntD a m i = (0, -1)
  | 0 => rfl
  | i + 1 => by unfold cntD; rw [if_neg (by rw [h i]; simp), cntD_eq h i]
theorem cntD_one {a m : List Int} {j : Nat} (h : ∀ k, k ≠ j → a.getD k 0 = m.getD k 0) (hj : a.getD j 0 ≠ m.getD j 0) : ∀ i, cntD a m i = if j < i then (1, (j : Int)) else (0, -1)
  | 0 => rfl
  | i + 1 => by
    unfold cntD
    rw [cntD_one h hj i]
    by_cases e : i = j
    · subst e
      rw [if_pos (by simpa using hj), if_neg (Nat.lt_irrefl _), if_pos (Nat.lt_succ_self _)]
      rfl
    · rw [if_neg (by rw [h i e]; simp)]
      by_cases l : j < i
      · rw [if_pos l, if_pos (by omega)]
      · rw [if_neg l, if_neg (by omega)]

theorem cnt_same (m : List Int) : cntD m m m.length = (0, -1) := cntD_eq (fun _ => rfl) _
/-- A store: nothing differs, or that cell alone. -/
theorem cnt_store {m : List Int} {k v : Int} (h : isIn m k = true) : cntD (mStore m k v) m m.length = (0, -1) ∨ cntD (mStore m k v) m m.length = (1, k) := by
  obtain ⟨h1, h2, h3⟩ := isIn_true h
  have e : mStore m k v = m.set k.toNat v := by simp [mStore, h]
  have ho : ∀ j, j ≠ k.toNat → (mStore m k v).getD j 0 = m.getD j 0 := by
    intro j hj
    rw [e]
    simp [List.getD_eq_getElem?_getD, List.getElem?_set, hj.symm]
  by_cases hv : (mStore m k v).getD k.toNat 0 = m.getD k.toNat 0
  · left
    refine cntD_eq (fun j => ?_) _
    by_cases hj : j = k.toNat
    · rw [hj]; exact hv
    · exact ho j hj
  · right
    rw [cntD_one ho hv, if_pos h3]
    congr 1
    omega
end Go.Vai
