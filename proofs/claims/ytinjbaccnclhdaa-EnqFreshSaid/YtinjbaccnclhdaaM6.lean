/- Deques by lists: pops and steals alone. -/
import Derived.Test.YtinjbaccnclhdaaM4
namespace Go.Vai
open Go.RowKit
set_option linter.unusedVariables false
set_option linter.unusedSimpArgs false

/-- Steps, one behind the other. -/
def run (st : List Int → Fr → List Int × Fr) : Nat → List Int × Fr → List Int × Fr
  | 0, s => s
  | k + 1, s => run st k (st s.1 s.2)
theorem run_succ (st : List Int → Fr → List Int × Fr) (k : Nat) (m : List Int) (f : Fr) : run st (k + 1) (m, f) = run st k (st m f) := rfl
theorem run_pop_over {c : Cf} {m : List Int} {f : Fr} (h : f.res ≠ 0) : ∀ k, run (oStep c) k (m, f) = (m, f)
  | 0 => rfl
  | k + 1 => by rw [run_succ, pop_over h]; exact run_pop_over h k
theorem run_steal_over {c : Cf} {m : List Int} {f : Fr} (h : f.res ≠ 0) : ∀ k, run (sStep c) k (m, f) = (m, f)
  | 0 => rfl
  | k + 1 => by rw [run_succ, steal_over h]; exact run_steal_over h k

/-- What a pop, alone, comes to. -/
structure Popped (c : Cf) (m : List Int) (w : Int) (s : List Int × Fr) : Prop where
  is : dIs c s.1 w = true
  once : fOnce (dList c m w) c.d ⟨1, 0, w, 0, 0, 0, 0⟩ = (dList c s.1 w, s.2)
  inm : InM s.1

theorem pop_alone {c : Cf} {m : List Int} {w : Int} (hm : InM m) (hi : dIs c m w = true) : Popped c m w (run (oStep c) 7 (m, ⟨1, 0, w, 0, 0, 0, 0⟩)) := by
  have D := deq_of hm hi
  generalize hn : (dNum c m w).toNat = n at D
  generalize ht : mLoad m (lTop c w) = t at D
  generalize hb : mLoad m (lBottom c w) = b at D
  have h := D.lay
  obtain ⟨_, _, hL⟩ := D.is
  have htu := D.tu
  have hbu := D.bu
  have hnum := D.num
  have hroom := D.room
  have hd := h.dpos
  have h16 : c.d ≤ 16 := by omega
  rw [run_succ, pop_1 h, run_succ, pop_2 h, hb]
  cases n with
  | zero =>
    have hx : wrapU (wrapU (b - 1) + 1) = b := by rw [wrapU_eq, wrapU_eq]; unfold InU at hbu; omega
    have h' : Lay c (mStore m (lBottom c w) (wrapU (b - 1))) w := h.store _ _
    have ht' : mLoad (mStore m (lBottom c w) (wrapU (b - 1))) (lTop c w) = t := by rw [load_other h.tb.symm, ht]
    have hf : far (wrapU (b - 1)) (mLoad (mStore m (lBottom c w) (wrapU (b - 1))) (lTop c w)) < 0 := by
      rw [ht', far_eq (wrapU_u _) htu, wrapU_eq]
      rw [wrapU_eq] at hnum
      unfold InU at hbu htu
      omega
    rw [run_succ, pop_3e h' hf, run_succ, pop_7 h', run_pop_over (by simp), hx]
    have e : mStore (mStore m (lBottom c w) (wrapU (b - 1))) (lBottom c w) b = m := by rw [store_store, ← hb, store_same]
    refine ⟨?_, ?_, ?_⟩ <;> dsimp only <;> rw [e]
    · exact hi
    · rw [hL]; rfl
    · exact hm
  | succ k =>
    have hx : wrapU (b - 1) = wrapU (t + k) := by rw [wrapU_eq, wrapU_eq]; rw [wrapU_eq] at hnum; omega
    rw [hx]
    have D1 := D.setBottom (k := k) (by omega)
    have h' := D1.lay
    have hf : ¬ far (wrapU (t + k)) (mLoad (mStore m (lBottom c w) (wrapU (t + k))) (lTop c w)) < 0 := by
      rw [D1.top, far_eq (wrapU_u _) htu, wrapU_eq]
      unfold InU at htu
      omega
    rw [run_succ, pop_3 h' hf, run_succ, D1.top]
    have hm1 : InM (mStore m (lBottom c w) (wrapU (t + k))) := store_u hm (wrapU_u _)
    have hv : mLoad (mStore m (lBottom c w) (wrapU (t + k))) (lSlot c w (wrapU (t + k))) = (dList c m w).getD k 0 := by
      rw [load_other (h.bs _), hL, dRow_get (by omega)]
    have hlen : (dList c m w).length = k + 1 := by rw [hL, dRow_len]
    have hne : dList c m w ≠ [] := by intro e; rw [e] at hlen; simp at hlen
    have honce : fOnce (dList c m w) c.d ⟨1, 0, w, 0, 0, 0, 0⟩ = ((dList c m w).take k, ⟨1, 0, w, (dList c m w).getD k 0, 0, 0, 1⟩) := by
      simp [fOnce, fEnd, hne, hlen]
    have htk : (dList c m w).take k = dRow c m w t k := by rw [hL, row_take (by omega)]
    by_cases hk : k = 0
    · subst hk
      have hx0 : wrapU (t + ((0 : Nat) : Int)) = t := by rw [wrapU_eq]; unfold InU at htu; omega
      rw [hx0] at hv D1 h' hm1 ⊢
      rw [pop_4 h' rfl, run_succ, pop_5 h']
      have hcas : mCasB (mStore m (lBottom c w) t) (lTop c w) t = true := by
        have := casB_top h'
        rw [D1.top] at this
        exact this
      rw [cas_store hcas, if_pos hcas, run_succ]
      have h2 : Lay c (mStore (mStore m (lBottom c w) t) (lTop c w) (wrapU (t + 1))) w := h'.store _ _
      rw [pop_6 h2, run_pop_over (by simp), hv]
      have D3 : Deq c (mStore (mStore (mStore m (lBottom c w) t) (lTop c w) (wrapU (t + 1))) (lBottom c w) (wrapU (t + 1))) w (wrapU (t + 1)) (wrapU (t + 1)) 0 :=
        { lay := h2.store _ _, top := by rw [load_other h.tb.symm, load_store h'.in_top], bot := load_store h2.in_bottom _, tu := wrapU_u _, bu := wrapU_u _,
          num := by rw [wrapU_eq, wrapU_eq]; omega, room := by omega }
      obtain ⟨_, i3, l3⟩ := D3.is
      refine ⟨i3, ?_, store_u (store_u hm1 (wrapU_u _)) (wrapU_u _)⟩
      dsimp only
      rw [honce, l3]
      rfl
    · have hxy : wrapU (t + (k : Int)) ≠ t := by rw [wrapU_eq]; unfold InU at htu; omega
      rw [pop_4d h' hxy, run_pop_over (by simp), hv]
      obtain ⟨_, i1, l1⟩ := D1.is
      refine ⟨i1, ?_, hm1⟩
      dsimp only
      rw [honce, l1, row_bottom h, htk]

/-- Whatever the deque is like. -/
theorem pop_ends {c : Cf} {m : List Int} {w : Int} (h : Lay c m w) : ∃ m' v, run (oStep c) 7 (m, ⟨1, 0, w, 0, 0, 0, 0⟩) = (m', ⟨1, 0, w, v, 0, 0, 1⟩) ∨ run (oStep c) 7 (m, ⟨1, 0, w, 0, 0, 0, 0⟩) = (m', ⟨1, 0, w, 0, 0, 0, 3⟩) := by
  rw [run_succ, pop_1 h, run_succ, pop_2 h, run_succ]
  generalize wrapU (mLoad m (lBottom c w) - 1) = x
  have h' : Lay c (mStore m (lBottom c w) x) w := h.store _ _
  by_cases hf : far x (mLoad (mStore m (lBottom c w) x) (lTop c w)) < 0
  · rw [pop_3e h' hf, run_succ, pop_7 h', run_pop_over (by simp)]
    exact ⟨_, 0, .inr rfl⟩
  · rw [pop_3 h' hf, run_succ]
    generalize hy : mLoad (mStore m (lBottom c w) x) (lTop c w) = y
    by_cases he : x = y
    · subst he
      rw [pop_4 h' rfl, run_succ, pop_5 h']
      have hcas : mCasB (mStore m (lBottom c w) x) (lTop c w) x = true := by
        have := casB_top h'
        rw [hy] at this
        exact this
      rw [cas_store hcas, if_pos hcas, run_succ, pop_6 (h'.store _ _), run_pop_over (by simp)]
      exact ⟨_, _, .inl rfl⟩
    · rw [pop_4d h' he, run_pop_over (by simp)]
      exact ⟨_, _, .inl rfl⟩

theorem fr_once_pop {c : Cf} {l : List Int} {w v : Int} : fOnce (l ++ [v]) c.d ⟨1, 0, w, 0, 0, 0, 0⟩ = (l, ⟨1, 0, w, v, 0, 0, 1⟩) := by simp [fOnce, fEnd]
end Go.Vai
