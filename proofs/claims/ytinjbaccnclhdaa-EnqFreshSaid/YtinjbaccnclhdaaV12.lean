/- Every operation of the evaluator, at one go. -/
import Derived.Test.YtinjbaccnclhdaaV11
namespace Go.Vai
open Go.RowKit

theorem aop_sound {P : Program} {T : TEnv} (hT : TOk P T) {op : Op} {ρ : Operand → AV} {H : Nat → Option Blk} {me : Nat} {K : AV → Upd → List Nat → Prop} (h : aop T op ρ H me K) :
    ∃ r upd acc, K r upd acc ∧ OpSound P op ρ H me r upd acc := by
  unfold aop at h
  split at h
  · exact ⟨_, _, _, h, (looks_move _).sound me⟩
  · exact ⟨_, _, _, h, (looks_assign _).sound me⟩
  · -- pick
    split at h
    · rename_i c a b c' hc
      split at h
      · exact ⟨_, _, _, h, (looks_pick _ _ _ true hc).sound me⟩
      · exact ⟨_, _, _, h, (looks_pick _ _ _ false hc).sound me⟩
    · exact h.elim
  · exact ⟨_, _, _, h.2.2, sound_alloc hT _ h.1 h.2.1⟩
  · exact ⟨_, _, _, h.2.2.2, sound_box _ _ _ h.2.1 h.2.2.1⟩
  · -- build
    split at h
    · rename_i fs hk
      split at h
      · rename_i cs hc
        exact ⟨_, _, _, h.2, (looks_build hT _ _ cs (by rw [hk]; exact ⟨hc, h.1⟩)).sound me⟩
      · exact h.elim
    · rename_i m e hk
      split at h
      · rename_i cs hc
        exact ⟨_, _, _, h.2, (looks_build hT _ _ cs (by rw [hk]; exact ⟨hc, h.1⟩)).sound me⟩
      · exact h.elim
    · exact h.elim
  · -- buildSlice
    split at h
    · rename_i e hk
      split at h
      · rename_i el he
        exact ⟨_, _, _, h.2.2.2, sound_buildSlice hT _ _ _ e el hk h.1 h.2.1 h.2.2.1 he⟩
      · exact h.elim
    · exact h.elim
  · -- load
    obtain ⟨hn, h⟩ := h
    split at h
    · rename_i id i off hx
      split at h
      · rename_i b hb
        exact ⟨_, _, _, h.2.2.2.2, (looks_load_ptr hT _ _ id i off b hx hb hn h.1 h.2.1 h.2.2.1 h.2.2.2.1).sound me⟩
      · exact h.elim
    · rename_i cs hx
      exact ⟨_, _, _, h.2.2.2, (looks_load_rptr hT _ _ cs hx hn h.1 h.2.1 h.2.2.1).sound me⟩
    · exact h.elim
  · -- store
    obtain ⟨hn, h⟩ := h
    split at h
    · rename_i id i off hx
      split at h
      · rename_i b hb
        exact ⟨_, _, _, h.2.2.2.2.2.2, sound_store hT _ _ _ id i off b hn hx hb h.1 h.2.1 h.2.2.1 h.2.2.2.1 h.2.2.2.2.1 h.2.2.2.2.2.1⟩
      · exact h.elim
    · exact h.elim
  · -- nilCheck
    split at h
    · rename_i id i off hx
      exact ⟨_, _, _, h, (looks_nilCheck_ptr _ id i off hx).sound me⟩
    · rename_i cs hx
      exact ⟨_, _, _, h, (looks_nilCheck_rptr _ cs hx).sound me⟩
    · rename_i f a b hx
      exact ⟨_, _, _, h, (looks_nilCheck_fn _ f a b hx).sound me⟩
    · exact h.elim
  · obtain ⟨r, hr, hl⟩ := looks_binOp (ρ := ρ) (H := H) hT _ _ _ _ _ _ h
    exact ⟨_, _, _, hr, hl.sound me⟩
  · obtain ⟨r, hr, hl⟩ := looks_unOp (P := P) (ρ := ρ) (H := H) _ _ _ _ h
    exact ⟨_, _, _, hr, hl.sound me⟩
  · -- convert
    obtain ⟨hs, h⟩ := h
    split at h
    · rename_i k k' m hd hx
      exact ⟨_, _, _, h, (looks_convert hT _ _ _ k k' m hs hd hx).sound me⟩
    · exact h.elim
  · exact ⟨_, _, _, h, (looks_makeFunc _ _ _).sound me⟩
  · -- slice
    split at h
    · rename_i e hk
      obtain ⟨hn, h⟩ := h
      split at h
      · rename_i n hl
        split at h
        · rename_i l h' m h1 h2 h3
          obtain ⟨g1, g2, g3, g4, g5, h⟩ := h
          split at h
          · rename_i hx
            exact ⟨_, _, _, h, (looks_slice hT _ _ _ _ _ e n l h' m _ _ hk hn hl h1 h2 h3 g1 g2 g3 g4 g5 (by rw [hx]; exact rfl)).sound me⟩
          · rename_i sz xs hx
            exact ⟨_, _, _, h.2, (looks_slice hT _ _ _ _ _ e n l h' m _ _ hk hn hl h1 h2 h3 g1 g2 g3 g4 g5 (by rw [hx]; exact ⟨h.1, rfl⟩)).sound me⟩
          · rename_i id off len hx
            exact ⟨_, _, _, h.2, (looks_slice hT _ _ _ _ _ e n l h' m _ _ hk hn hl h1 h2 h3 g1 g2 g3 g4 g5 (by rw [hx]; exact ⟨h.1, rfl, rfl⟩)).sound me⟩
          · exact h.elim
        · exact h.elim
      · exact h.elim
    · exact h.elim
  · -- fieldAddr
    split at h
    · rename_i fs hk
      split at h
      · rename_i off' ft hf
        obtain ⟨hn, h0, h⟩ := h
        split at h
        · rename_i id i off hx
          exact ⟨_, _, _, h, (looks_fieldAddr hT _ _ _ fs off' ft _ hk hf hn h0 (by rw [hx])).sound me⟩
        · rename_i cs hx
          exact ⟨_, _, _, h, (looks_fieldAddr hT _ _ _ fs off' ft _ hk hf hn h0 (by rw [hx])).sound me⟩
        · exact h.elim
      · exact h.elim
    · exact h.elim
  · -- field
    split at h
    · rename_i fs hk
      split at h
      · rename_i off' ft cs hf hx
        exact ⟨_, _, _, h.2.2.2.2, (looks_field hT _ _ _ fs off' ft cs hk hf hx h.1 h.2.1 h.2.2.1 h.2.2.2.1).sound me⟩
      · exact h.elim
    · exact h.elim
  · -- indexAddr
    split at h
    · rename_i e k i hk hi
      obtain ⟨hn, h⟩ := h
      split at h
      · rename_i sz xs hx
        exact ⟨_, _, _, h.2.2.2, (looks_indexAddr hT _ _ _ e k i _ _ hk hi hn (by rw [hx]; exact ⟨h.1, h.2.1, h.2.2.1, rfl⟩)).sound me⟩
      · rename_i id off len hx
        exact ⟨_, _, _, h.2.2.2, (looks_indexAddr hT _ _ _ e k i _ _ hk hi hn (by rw [hx]; exact ⟨h.1, h.2.1, h.2.2.1, rfl, rfl⟩)).sound me⟩
      · exact h.elim
    · rename_i m e k i hk hi
      obtain ⟨hn, h0, h1, h2, h⟩ := h
      split at h
      · rename_i id j off hx
        exact ⟨_, _, _, h, (looks_indexAddr_arr hT _ _ _ m e k i _ hk hi hn h1 h2 (by rw [hx])).sound me⟩
      · rename_i cs hx
        exact ⟨_, _, _, h, (looks_indexAddr_arr hT _ _ _ m e k i _ hk hi hn h1 h2 (by rw [hx])).sound me⟩
      · exact h.elim
    · exact h.elim
  · -- index
    split at h
    · rename_i m e cs k i hk hx hi
      exact ⟨_, _, _, h.2.2.2.2.2.2, (looks_index hT _ _ _ m e k i cs hk hx hi h.1 h.2.1 h.2.2.1 h.2.2.2.1 h.2.2.2.2.1 h.2.2.2.2.2.1).sound me⟩
    · exact h.elim
  · -- extract
    split at h
    · rename_i vs hx
      exact ⟨_, _, _, h.2, (looks_extract _ _ vs hx h.1).sound me⟩
    · exact h.elim
  · -- len
    rename_i args ts
    split at h
    · rename_i x t ha ht
      split at h
      · rename_i e n hk hl
        have ea : args = #[x] := by rw [← Array.toArray_toList (xs := args), ha]
        have et : ts = #[t] := by rw [← Array.toArray_toList (xs := ts), ht]
        subst ea et
        exact ⟨_, _, _, h, (looks_len hT x t e n hk hl).sound me⟩
      · exact h.elim
    · exact h.elim
  · -- append
    rename_i args ts
    split at h
    · rename_i s x t t' ha ht
      obtain ⟨rfl, h⟩ := h
      split at h
      · rename_i e ys hk hy
        obtain ⟨hn, h0, hb, hs, h⟩ := h
        have ea : args = #[s, x] := by rw [← Array.toArray_toList (xs := args), ha]
        have et : ts = #[t, t] := by rw [← Array.toArray_toList (xs := ts), ht]
        subst ea et
        split at h
        · rename_i hx
          exact ⟨_, _, _, h.2, sound_append_nil hT t e s x ys hk hn h0 hb hx hy hs h.1⟩
        · rename_i id m hx
          split at h
          · rename_i b hHb
            exact ⟨_, _, _, h.2.2.2.2.2, sound_append hT t e s x ys id m b hk hn h0 hb hx hHb h.1 h.2.1 h.2.2.1 h.2.2.2.1 hy hs h.2.2.2.2.1⟩
          · exact h.elim
        · exact h.elim
      · exact h.elim
    · exact h.elim
  · exact h.elim

end Go.Vai
