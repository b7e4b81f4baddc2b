/- Deques by lists: a pop and a steal, alone. -/
import Derived.Test.YtinjbaccnclhdaaM2
namespace Go.Vai
open Go.RowKit
set_option linter.unusedVariables false
set_option linter.unusedSimpArgs false

theorem store_store {m : List Int} (i v w : Int) : mStore (mStore m i v) i w = mStore m i w := by
  unfold mStore
  cases h : isIn m i with
  | false => simp [h]
  | true =>
    have h' : isIn (m.set i.toNat v) i = true := by simpa [isIn] using h
    simp [h']
theorem store_same {m : List Int} {i : Int} : mStore m i (mLoad m i) = m := by
  unfold mStore
  split
  · rename_i h
    obtain ⟨_, _, h3⟩ := isIn_true h
    rw [load_in h, set_self h3]
  · rfl

theorem goes_o {c : Cf} {m : List Int} {w pc val x y : Int} (h : Lay c m w) (h0 : 0 ≤ pc) (h1 : pc < 7) : goes c m ⟨1, pc, w, val, x, y, 0⟩ 1 7 = true := goes_iff.2 ⟨h, rfl, rfl, h0, h1⟩
theorem goes_s {c : Cf} {m : List Int} {w pc val x y : Int} (h : Lay c m w) (h0 : 0 ≤ pc) (h1 : pc < 4) : goes c m ⟨2, pc, w, val, x, y, 0⟩ 2 4 = true := goes_iff.2 ⟨h, rfl, rfl, h0, h1⟩

section
variable {c : Cf} {m : List Int} {w v x y : Int}
theorem pop_1 (h : Lay c m w) : oStep c m ⟨1, 0, w, v, x, y, 0⟩ = (m, ⟨1, 1, w, v, wrapU (mLoad m (lBottom c w) - 1), y, 0⟩) := by
  simp [oStep, goes_o h]
theorem pop_2 (h : Lay c m w) : oStep c m ⟨1, 1, w, v, x, y, 0⟩ = (mStore m (lBottom c w) x, ⟨1, 2, w, v, x, y, 0⟩) := by
  simp [oStep, goes_o h]
theorem pop_3e (h : Lay c m w) (hf : far x (mLoad m (lTop c w)) < 0) : oStep c m ⟨1, 2, w, v, x, y, 0⟩ = (m, ⟨1, 6, w, v, x, mLoad m (lTop c w), 0⟩) := by
  simp [oStep, goes_o h, hf]
theorem pop_3 (h : Lay c m w) (hf : ¬ far x (mLoad m (lTop c w)) < 0) : oStep c m ⟨1, 2, w, v, x, y, 0⟩ = (m, ⟨1, 3, w, v, x, mLoad m (lTop c w), 0⟩) := by
  simp [oStep, goes_o h, hf]
theorem pop_4d (h : Lay c m w) (hf : x ≠ y) : oStep c m ⟨1, 3, w, v, x, y, 0⟩ = (m, ⟨1, 0, w, mLoad m (lSlot c w x), 0, 0, 1⟩) := by
  simp [oStep, goes_o h, hf, fEnd]
theorem pop_4 (h : Lay c m w) (hf : x = y) : oStep c m ⟨1, 3, w, v, x, y, 0⟩ = (m, ⟨1, 4, w, mLoad m (lSlot c w x), x, y, 0⟩) := by
  simp [oStep, goes_o h, hf]
theorem pop_5 (h : Lay c m w) : oStep c m ⟨1, 4, w, v, x, y, 0⟩ = (mCas m (lTop c w) y (wrapU (y + 1)), ⟨1, if mCasB m (lTop c w) y = true then 5 else 6, w, v, x, y, 0⟩) := by
  simp [oStep, goes_o h]
theorem pop_6 (h : Lay c m w) : oStep c m ⟨1, 5, w, v, x, y, 0⟩ = (mStore m (lBottom c w) (wrapU (x + 1)), ⟨1, 0, w, v, 0, 0, 1⟩) := by
  simp [oStep, goes_o h, fEnd]
theorem pop_7 (h : Lay c m w) : oStep c m ⟨1, 6, w, v, x, y, 0⟩ = (mStore m (lBottom c w) (wrapU (x + 1)), ⟨1, 0, w, 0, 0, 0, 3⟩) := by
  simp [oStep, goes_o h, fEnd]
theorem steal_1 (h : Lay c m w) : sStep c m ⟨2, 0, w, v, x, y, 0⟩ = (m, ⟨2, 1, w, v, x, mLoad m (lTop c w), 0⟩) := by
  simp [sStep, goes_s h]
theorem steal_2e (h : Lay c m w) (hf : far (mLoad m (lBottom c w)) y ≤ 0) : sStep c m ⟨2, 1, w, v, x, y, 0⟩ = (m, ⟨2, 0, w, 0, 0, 0, 3⟩) := by
  simp [sStep, goes_s h, hf, fEnd]
theorem steal_2 (h : Lay c m w) (hf : ¬ far (mLoad m (lBottom c w)) y ≤ 0) : sStep c m ⟨2, 1, w, v, x, y, 0⟩ = (m, ⟨2, 2, w, v, mLoad m (lBottom c w), y, 0⟩) := by
  simp [sStep, goes_s h, hf]
theorem steal_3 (h : Lay c m w) : sStep c m ⟨2, 2, w, v, x, y, 0⟩ = (m, ⟨2, 3, w, mLoad m (lSlot c w y), x, y, 0⟩) := by
  simp [sStep, goes_s h]
theorem steal_4 (h : Lay c m w) (hc : mCasB m (lTop c w) y = true) : sStep c m ⟨2, 3, w, v, x, y, 0⟩ = (mStore m (lTop c w) (wrapU (y + 1)), ⟨2, 0, w, v, 0, 0, 1⟩) := by
  simp [sStep, goes_s h, hc, fEnd, cas_store hc]
theorem steal_4a (h : Lay c m w) (hc : mCasB m (lTop c w) y = false) : sStep c m ⟨2, 3, w, v, x, y, 0⟩ = (m, ⟨2, 0, w, 0, 0, 0, 4⟩) := by
  simp [sStep, goes_s h, hc, fEnd]
theorem pop_over {f : Fr} (h : f.res ≠ 0) : oStep c m f = (m, f) := oStep_no (goes_over h)
theorem steal_over {f : Fr} (h : f.res ≠ 0) : sStep c m f = (m, f) := sStep_no (goes_over h)
theorem casB_top (h : Lay c m w) : mCasB m (lTop c w) (mLoad m (lTop c w)) = true := by simp [mCasB, h.in_top]
end

/-- What a deque is: its cells' two numbers, and how far they are apart. -/
structure Deq (c : Cf) (m : List Int) (w t b : Int) (n : Nat) : Prop where
  lay : Lay c m w
  top : mLoad m (lTop c w) = t
  bot : mLoad m (lBottom c w) = b
  tu : InU t
  bu : InU b
  num : b = wrapU (t + n)
  room : (n : Int) ≤ c.d

theorem deq_of {c : Cf} {m : List Int} {w : Int} (hm : InM m) (hi : dIs c m w = true) : Deq c m w (mLoad m (lTop c w)) (mLoad m (lBottom c w)) (dNum c m w).toNat := by
  obtain ⟨h, h1, h2⟩ := dIs_iff.1 hi
  have htu := load_u hm (lTop c w)
  have hbu := load_u hm (lBottom c w)
  refine ⟨h, rfl, rfl, htu, hbu, ?_, by omega⟩
  unfold dNum at *
  rw [far_eq hbu htu] at *
  rw [wrapU_eq]
  unfold InU at hbu htu
  omega

theorem Deq.is {c : Cf} {m : List Int} {w t b : Int} {n : Nat} (h : Deq c m w t b n) : dNum c m w = n ∧ dIs c m w = true ∧ dList c m w = dRow c m w t n := by
  have hn : dNum c m w = n := by
    unfold dNum
    rw [h.top, h.bot, far_eq h.bu h.tu]
    have e := h.num
    rw [wrapU_eq] at e
    have h1 := h.tu
    have h2 := h.bu
    have h3 := h.room
    have h4 := h.lay.dpos
    unfold InU at h1 h2
    omega
  have hi : dIs c m w = true := dIs_iff.2 ⟨h.lay, by omega, by rw [hn]; exact h.room⟩
  refine ⟨hn, hi, ?_⟩
  rw [dList_eq hi, hn, h.top]
  congr 1

theorem dList_of {c : Cf} {m : List Int} {w : Int} (hi : dIs c m w = true) : dList c m w = dRow c m w (mLoad m (lTop c w)) (dNum c m w).toNat := dList_eq hi

/-- The bottom is set. -/
theorem Deq.setBottom {c : Cf} {m : List Int} {w t b : Int} {n k : Nat} (h : Deq c m w t b n) (hk : (k : Int) ≤ c.d) : Deq c (mStore m (lBottom c w) (wrapU (t + k))) w t (wrapU (t + k)) k where
  lay := h.lay.store _ _
  top := by rw [load_other h.lay.tb.symm, h.top]
  bot := load_store h.lay.in_bottom _
  tu := h.tu
  bu := wrapU_u _
  num := rfl
  room := hk
/-- The top goes on by one. -/
theorem Deq.incTop {c : Cf} {m : List Int} {w t b : Int} {n : Nat} (h : Deq c m w t b (n + 1)) : Deq c (mStore m (lTop c w) (wrapU (t + 1))) w (wrapU (t + 1)) b n where
  lay := h.lay.store _ _
  top := load_store h.lay.in_top _
  bot := by rw [load_other h.lay.tb, h.bot]
  tu := wrapU_u _
  bu := h.bu
  num := by
    have e := h.num
    rw [wrapU_eq] at e
    rw [e, wrapU_eq, wrapU_eq]
    omega
  room := by have := h.room; omega
/-- A slot is set. -/
theorem Deq.setSlot {c : Cf} {m : List Int} {w t b : Int} {n : Nat} (h : Deq c m w t b n) (x v : Int) : Deq c (mStore m (lSlot c w x) v) w t b n where
  lay := h.lay.store _ _
  top := by rw [load_other (h.lay.ts x).symm, h.top]
  bot := by rw [load_other (h.lay.bs x).symm, h.bot]
  tu := h.tu
  bu := h.bu
  num := h.num
  room := h.room

theorem row_bottom {c : Cf} {m : List Int} {w t : Int} (h : Lay c m w) (n : Nat) (v : Int) : dRow c (mStore m (lBottom c w) v) w t n = dRow c m w t n :=
  dRow_congr fun i _ => load_other (h.bs _) _
theorem row_top {c : Cf} {m : List Int} {w t : Int} (h : Lay c m w) (n : Nat) (v : Int) : dRow c (mStore m (lTop c w) v) w t n = dRow c m w t n :=
  dRow_congr fun i _ => load_other (h.ts _) _
theorem row_slot {c : Cf} {m : List Int} {w t : Int} (h : Lay c m w) (ht : InU t) {n k : Nat} (hn : (n : Int) ≤ c.d) (hk : (k : Int) < c.d) (hnk : n ≤ k) (v : Int) : dRow c (mStore m (lSlot c w (wrapU (t + k))) v) w t n = dRow c m w t n :=
  dRow_congr fun i hi => load_other (slot_ne h ht hk (by omega) (by omega)) _
theorem row_take {c : Cf} {m : List Int} {w t : Int} {n k : Nat} (h : k ≤ n) : (dRow c m w t n).take k = dRow c m w t k := by
  simp only [dRow, ← List.map_take, List.take_range]
  congr 2
  omega
end Go.Vai
