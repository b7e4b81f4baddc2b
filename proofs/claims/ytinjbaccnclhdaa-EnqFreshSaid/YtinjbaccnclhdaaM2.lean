/- Deques by lists: a push, a pop, and a steal, alone. -/
import Derived.Test.YtinjbaccnclhdaaM1
import Derived.Test.YtinjbaccnclhdaaF2
namespace Go.Vai
open Go.RowKit
set_option linter.unusedVariables false
set_option linter.unusedSimpArgs false

theorem len_pStep (c : Cf) (m : List Int) (f : Fr) : (pStep c m f).1.length = m.length := by
  unfold pStep; repeat' split
  all_goals first | rfl | exact len_store ..
theorem len_oStep (c : Cf) (m : List Int) (f : Fr) : (oStep c m f).1.length = m.length := by
  unfold oStep; repeat' split
  all_goals first | rfl | exact len_store .. | exact len_cas ..
theorem len_sStep (c : Cf) (m : List Int) (f : Fr) : (sStep c m f).1.length = m.length := by
  unfold sStep; repeat' split
  all_goals first | rfl | exact len_store .. | exact len_cas ..

/-- A call that does not go on. -/
theorem goes_over {c : Cf} {m : List Int} {f : Fr} {op pcs : Int} (h : f.res ≠ 0) : goes c m f op pcs = false := by simp [goes, h]
theorem goes_lay {c : Cf} {m : List Int} {f : Fr} {op pcs : Int} (h : ¬ Lay c m f.who) : goes c m f op pcs = false := by
  rw [Bool.eq_false_iff]; intro e; exact h (goes_iff.1 e).1
theorem pStep_no {c : Cf} {m : List Int} {f : Fr} (h : goes c m f 0 4 = false) : pStep c m f = (m, f) := by simp [pStep, h]
theorem oStep_no {c : Cf} {m : List Int} {f : Fr} (h : goes c m f 1 7 = false) : oStep c m f = (m, f) := by simp [oStep, h]
theorem sStep_no {c : Cf} {m : List Int} {f : Fr} (h : goes c m f 2 4 = false) : sStep c m f = (m, f) := by simp [sStep, h]

/-- Numbers from a place on. -/
def dRow (c : Cf) (m : List Int) (w t : Int) (n : Nat) : List Int := (List.range n).map fun (i : Nat) => mLoad m (lSlot c w (wrapU (t + i)))

theorem dList_eq {c : Cf} {m : List Int} {w : Int} (h : dIs c m w = true) : dList c m w = dRow c m w (mLoad m (lTop c w)) (dNum c m w).toNat := by
  unfold dList; rw [if_pos h]; rfl
theorem dRow_len (c : Cf) (m : List Int) (w t : Int) (n : Nat) : (dRow c m w t n).length = n := by simp [dRow]
theorem dRow_succ (c : Cf) (m : List Int) (w t : Int) (n : Nat) : dRow c m w t (n + 1) = dRow c m w t n ++ [mLoad m (lSlot c w (wrapU (t + n)))] := by
  simp [dRow, List.range_succ]
theorem dRow_congr {c : Cf} {m m' : List Int} {w t : Int} {n : Nat} (h : ∀ i : Nat, i < n → mLoad m' (lSlot c w (wrapU (t + i))) = mLoad m (lSlot c w (wrapU (t + i)))) : dRow c m' w t n = dRow c m w t n := by
  unfold dRow
  exact List.map_congr_left fun i hi => h i (List.mem_range.1 hi)
theorem dRow_get {c : Cf} {m : List Int} {w t : Int} {n i : Nat} (h : i < n) : (dRow c m w t n).getD i 0 = mLoad m (lSlot c w (wrapU (t + i))) := by
  simp [dRow, List.getD_eq_getElem?_getD, h]
theorem dRow_drop {c : Cf} {m : List Int} {w t : Int} {n : Nat} (ht : InU t) : (dRow c m w t (n + 1)).drop 1 = dRow c m w (wrapU (t + 1)) n := by
  apply List.ext_getElem
  · simp [dRow]
  · intro i h1 h2
    simp [dRow]
    congr 1
    have : wrapU (t + ((1 + i : Nat) : Int)) = wrapU (wrapU (t + 1) + (i : Int)) := by rw [wrapU_eq, wrapU_eq, wrapU_eq]; omega
    rw [← this]
    congr 2
    omega

theorem slot_eq {c : Cf} {m : List Int} {w : Int} (h : Lay c m w) {x y : Int} (e : x % 18446744073709551616 = y % 18446744073709551616) : lSlot c w x = lSlot c w y := by
  rw [h.ss, e]
theorem slot_ne {c : Cf} {m : List Int} {w : Int} (h : Lay c m w) {t : Int} (ht : InU t) {i j : Nat} (hi : (i : Int) < c.d) (hj : (j : Int) < c.d) (hij : i ≠ j) : lSlot c w (wrapU (t + i)) ≠ lSlot c w (wrapU (t + j)) := by
  rw [Ne, h.ss, wrapU_eq, wrapU_eq]
  unfold InU at ht
  rcases h.dpos with e | e | e | e | e <;> rw [e] at hi hj ⊢ <;> omega

theorem dNum_wrap {c : Cf} {m : List Int} {w : Int} (hm : InM m) (h : 0 ≤ dNum c m w) : wrapU (mLoad m (lBottom c w) - mLoad m (lTop c w)) = dNum c m w := by
  unfold dNum at *
  have a := load_u hm (lBottom c w)
  have b := load_u hm (lTop c w)
  rw [far_eq a b] at *
  rw [wrapU_eq]
  unfold InU at a b
  omega

/-- A push, four steps. -/
theorem push_1 {c : Cf} {m : List Int} {w v : Int} (h : Lay c m w) : pStep c m ⟨0, 0, w, v, 0, 0, 0⟩ = (m, ⟨0, 1, w, v, mLoad m (lBottom c w), 0, 0⟩) := by
  have : goes c m ⟨0, 0, w, v, 0, 0, 0⟩ 0 4 = true := goes_iff.2 ⟨h, rfl, rfl, by simp, by simp⟩
  simp [pStep, this]
theorem push_2f {c : Cf} {m : List Int} {w v x : Int} (h : Lay c m w) (hf : c.d ≤ wrapU (x - mLoad m (lTop c w))) : pStep c m ⟨0, 1, w, v, x, 0, 0⟩ = (m, ⟨0, 0, w, v, 0, 0, 2⟩) := by
  have : goes c m ⟨0, 1, w, v, x, 0, 0⟩ 0 4 = true := goes_iff.2 ⟨h, rfl, rfl, by simp, by simp⟩
  simp [pStep, this, hf, fEnd]
theorem push_2 {c : Cf} {m : List Int} {w v x : Int} (h : Lay c m w) (hf : ¬ c.d ≤ wrapU (x - mLoad m (lTop c w))) : pStep c m ⟨0, 1, w, v, x, 0, 0⟩ = (m, ⟨0, 2, w, v, x, mLoad m (lTop c w), 0⟩) := by
  have : goes c m ⟨0, 1, w, v, x, 0, 0⟩ 0 4 = true := goes_iff.2 ⟨h, rfl, rfl, by simp, by simp⟩
  simp [pStep, this, hf]
theorem push_3 {c : Cf} {m : List Int} {w v x y : Int} (h : Lay c m w) : pStep c m ⟨0, 2, w, v, x, y, 0⟩ = (mStore m (lSlot c w x) v, ⟨0, 3, w, v, x, y, 0⟩) := by
  have : goes c m ⟨0, 2, w, v, x, y, 0⟩ 0 4 = true := goes_iff.2 ⟨h, rfl, rfl, by simp, by simp⟩
  simp [pStep, this]
theorem push_4 {c : Cf} {m : List Int} {w v x y : Int} (h : Lay c m w) : pStep c m ⟨0, 3, w, v, x, y, 0⟩ = (mStore m (lBottom c w) (wrapU (x + 1)), ⟨0, 0, w, v, 0, 0, 1⟩) := by
  have : goes c m ⟨0, 3, w, v, x, y, 0⟩ 0 4 = true := goes_iff.2 ⟨h, rfl, rfl, by simp, by simp⟩
  simp [pStep, this, fEnd]
theorem push_over {c : Cf} {m : List Int} {f : Fr} (h : f.res ≠ 0) : pStep c m f = (m, f) := pStep_no (goes_over h)

/-- The list behind a push. -/
theorem push_list {c : Cf} {m : List Int} {w v : Int} (hm : InM m) (hi : dIs c m w = true) (hn : dNum c m w < c.d) :
    dIs c (mStore (mStore m (lSlot c w (mLoad m (lBottom c w))) v) (lBottom c w) (wrapU (mLoad m (lBottom c w) + 1))) w = true ∧
    dList c (mStore (mStore m (lSlot c w (mLoad m (lBottom c w))) v) (lBottom c w) (wrapU (mLoad m (lBottom c w) + 1))) w = dList c m w ++ [v] := by
  obtain ⟨h, h1, h2⟩ := dIs_iff.1 hi
  generalize hb : mLoad m (lBottom c w) = b
  have hbu := load_u hm (lBottom c w)
  have htu := load_u hm (lTop c w)
  have hd := h.dpos
  have tb := h.tb
  have ts := h.ts b
  have bs := h.bs b
  let M := mStore (mStore m (lSlot c w b) v) (lBottom c w) (wrapU (b + 1))
  have h' : Lay c (mStore m (lSlot c w b) v) w := h.store _ _
  have hM : Lay c M w := h'.store _ _
  have t' : mLoad M (lTop c w) = mLoad m (lTop c w) := by
    show mLoad (mStore (mStore m _ _) _ _) _ = _
    rw [load_other tb.symm, load_other ts.symm]
  have b' : mLoad M (lBottom c w) = wrapU (b + 1) := load_store h'.in_bottom _
  have n' : dNum c M w = dNum c m w + 1 := by
    unfold dNum at *
    rw [t', b', hb]
    rw [hb, far_eq (hb ▸ hbu) htu] at h1 h2 hn
    rw [far_eq (wrapU_u _) htu, far_eq (hb ▸ hbu) htu, wrapU_eq]
    rw [hb] at hbu
    unfold InU at hbu htu
    omega
  have hi' : dIs c M w = true := dIs_iff.2 ⟨hM, by omega, by omega⟩
  refine ⟨hi', ?_⟩
  show dList c M w = _
  rw [dList_eq hi', dList_eq hi, n', t']
  have e : (dNum c m w + 1).toNat = (dNum c m w).toNat + 1 := by omega
  rw [e, dRow_succ]
  have bw : wrapU (mLoad m (lTop c w) + ((dNum c m w).toNat : Int)) % 18446744073709551616 = b % 18446744073709551616 := by
    rw [wrapU_eq]
    unfold dNum at *
    rw [hb, far_eq (hb ▸ hbu) htu] at h1 h2 ⊢
    rw [hb] at hbu
    unfold InU at hbu htu
    omega
  have sb := slot_eq h bw
  congr 1
  · refine dRow_congr fun i hi => ?_
    show mLoad (mStore (mStore m _ _) _ _) _ = _
    rw [load_other (h.bs _), load_other]
    rw [← sb]
    exact slot_ne h htu (by omega) (by omega) (by omega)
  · rw [sb]
    show [mLoad (mStore (mStore m _ _) _ _) _] = _
    rw [load_other (h.bs _), load_store (h.in_slot _)]
end Go.Vai
