/- A region that draws, with a call that stands between all others. -/
import Derived.Test.YtinjbaccnclhdaaV17
namespace Go.Vai
open Go.RowKit

section
variable {X : Ctx} {callF : CallF} {all : List Oper} {base n : Nat} {F : Nat → Nat → AV} {G : Nat → Nat → Option Blk} {acc wr : Nat → List Nat} {sk : Nat → Prop}

/-- Where the first m have been done, all is as behind them in the text's order. -/
theorem Doing.upto {w0 : World} {K0 : Nat → Option Obj} {E0 : Env} {S : Nat → Prop} {E : Env} {fr : Frm} {hp : Hp} {a : Act} {w : World} (hd : dataOk all = true)
    (hs : ∀ i, i < all.length → StepOr X all base n i (F i) (F (i + 1)) (G i) (G (i + 1)) (acc i) (wr i) (sk i))
    (hD : Doing X all base n F G wr w0 K0 E0 S E fr hp a w) {m : Nat} (hm : m ≤ all.length) (hS : ∀ i, S i ↔ i < m) : (∀ t, lkp fr t = F m t) ∧ ∀ id, hlk hp id = G m id := by
  refine ⟨fun t => ?_, fun id => ?_⟩
  · by_cases hw : ∃ (k : Nat) (x : Oper), all[k]? = some x ∧ x.dst = some t ∧ k < m
    · obtain ⟨k, x, hx, hdx, hkm⟩ := hw
      rw [hD.reg k x t ((hS k).2 hkm) hx hdx]
      have := regs_stay hs t (m - (k + 1)) (k + 1) (by omega) fun q h1 h2 y hy hdy => (dataOk_spec hd (show k < q by omega) hx hy).1 t hdx hdy
      rw [show k + 1 + (m - (k + 1)) = m by omega] at this
      exact this.symm
    · have hno : ∀ (q : Nat) (y : Oper), q < m → all[q]? = some y → y.dst ≠ some t := fun q y hq hy hdy => hw ⟨q, y, hy, hdy, hq⟩
      rw [hD.reg0 t fun q y hSq hy => hno q y ((hS q).1 hSq) hy]
      have := regs_stay hs t m 0 (by omega) fun q _ h2 y hy => hno q y (by omega) hy
      rw [Nat.zero_add] at this
      exact this.symm
  · rcases last_below (fun k => id ∈ wr k) m with ⟨k, h1, h2, h3⟩ | hno
    · rw [hD.heap k id ((hS k).2 h1) (by omega) h2 fun j hj _ hjw => h3 j ((hS j).1 hj) hjw]
      have := heap_stay hs id (m - (k + 1)) (k + 1) (by omega) fun q h4 h5 hq => by have := h3 q (by omega) hq; omega
      rw [show k + 1 + (m - (k + 1)) = m by omega] at this
      exact this.symm
    · rw [hD.heap0 id fun j hj _ => hno j ((hS j).1 hj)]
      have := heap_stay hs id m 0 (by omega) fun q _ h5 => hno q (by omega)
      rw [Nat.zero_add] at this
      exact this.symm

theorem rel_told {w0 : World} {K0 : Nat → Option Obj} {D : Nat → Prop} {E : Env} {n : Nat} {fr : Frm} {hp : Hp} {a : Act} {w : World} (h : Rel w0 K0 D E n fr hp a w) {fr' : Frm} {hp' : Hp} (hf : ∀ t, lkp fr t = lkp fr' t) (hh : ∀ id, hlk hp id = hlk hp' id) {D' : Nat → Prop} (hD : ∀ id, E.dom id → D' id) :
    Rel w0 K0 D' E n fr' hp' a w :=
  { below := h.below, kw := h.kw, k0 := h.k0, nd := h.nd, size := h.size, regs := fun t ht => by rw [← hf]; exact h.regs t ht, dom := hD, out := fun t ht => by rw [← hf]; exact h.out t ht,
    own := fun id b hb => h.own id b (by rw [hh]; exact hb), inj := fun id id' b b' g h1 h2 => h.inj id id' b b' g (by rw [hh]; exact h1) (by rw [hh]; exact h2) }

theorem pivot_spec {c : Nat} (h : pivotOk all c = true) : (∀ i, i < c → i < all.length → anc all all.length c i = true) ∧ (∀ i, c < i → i < all.length → anc all all.length i c = true) := by
  unfold pivotOk at h
  rw [List.all_eq_true] at h
  refine ⟨fun i hi hl => ?_, fun i hi hl => ?_⟩
  · have := h i (List.mem_range.2 hl)
    simp only [Bool.or_eq_true, Bool.and_eq_true, decide_eq_true_eq, beq_iff_eq] at this
    rcases this with (h' | h') | h'
    · exact h'.2
    · omega
    · omega
  · have := h i (List.mem_range.2 hl)
    simp only [Bool.or_eq_true, Bool.and_eq_true, decide_eq_true_eq, beq_iff_eq] at this
    rcases this with (h' | h') | h'
    · omega
    · omega
    · exact h'.2

theorem opsP_sound (hX : X.ok) (hF : CallSound X callF) (hd : dataOk all = true) (he : edgesOk all = true) {c : Nat} {s : St} {K : St → Prop} (h : opsP X callF all c base s K) {w0 : World} {K0 : Nat → Option Obj} {E : Env} {a : Act} {w : World}
    (hr : RelS w0 K0 E s a w) (hE : ∀ id, E.dom id → id < base) (hb : base + all.length ≤ s.nx) {Q : Exit → Act → World → Prop}
    (hn : ∀ s' a' w' E', K s' → E.le E' → s.nx ≤ s'.nx → (∀ id, E'.dom id → E.dom id ∨ base ≤ id) → RelS w0 K0 E' s' a' w' → Q .normal a' w') :
    wpAny X.P .any all.toArray Q all.toArray.size (Array.replicate all.toArray.size false) a w := by
  unfold opsP at h
  split at h
  · rename_i o ho
    obtain ⟨hg, hp1, h⟩ := h
    have hcl : c < all.length := (List.getElem?_eq_some_iff.1 ho).1
    obtain ⟨hpa, hpb⟩ := pivot_spec hp1
    obtain ⟨F, G, acc, wr, s1, f1, f2, f3, f4, f5, f6, f7, f8, f9, f10⟩ := opsD_trace hX all (all.take c) 0 s [] h (fun j o ho => by
      rw [Nat.zero_add]
      rw [List.getElem?_take] at ho
      split at ho
      · exact ho
      · cases ho)
    have hlen : (all.take c).length = c := by simp; omega
    rw [Nat.zero_add, hlen] at f3 f5 f7 f8
    -- the first part
    have hs1 : ∀ i, i < all.length → StepOr X all base s.n i (F (min i c)) (F (min (i + 1) c)) (G (min i c)) (G (min (i + 1) c)) (if i < c then acc i else []) (if i < c then wr i else []) (c ≤ i) := by
      intro i hi
      by_cases hic : i < c
      · rw [Nat.min_eq_left (by omega), Nat.min_eq_left (by omega), if_pos hic, if_pos hic]
        exact .inl (f3 i (Nat.zero_le _) hic)
      · rw [Nat.min_eq_right (by omega), Nat.min_eq_right (by omega)]
        exact .inr ⟨by omega, rfl, rfl, if_neg hic⟩
    have hlist : ∀ i, (Array.replicate all.toArray.size false).getD i false = false := by
      intro i
      rw [Array.getD_eq_getD_getElem?, Array.getElem?_replicate]
      split <;> rfl
    have hS0 : ∀ i, ¬ ((Array.replicate all.toArray.size false).getD i false = true) := fun i => by rw [hlist]; simp
    refine any_sound (F := fun i => F (min i c)) (G := fun i => G (min i c)) (acc := fun i => if i < c then acc i else []) (wr := fun i => if i < c then wr i else []) (n := s.n) (base := base) (w0 := w0) (K0 := K0) (E0 := E)
      (sk := fun i => c ≤ i) (J := fun S => ∀ i, S i → i < c) hd he hs1 (fun S i hJ hi k hk => hk.elim (fun hk => hJ k hk) (fun e => e ▸ Nat.lt_of_not_le hi)) ?_ hE ?_ ?_ _ _ E s.fr s.hp a w (by simp) (fun i hi => absurd hi (hS0 i)) ?_ ?_
    · intro i j hj hi hm
      by_cases hic : i < c
      · simp only [if_pos hic, if_pos (show j < c by omega)] at hm
        exact f5 i j (Nat.zero_le _) hj hic hm
      · simp only [if_neg hic] at hm
        rcases hm with hm | hm
        · simp [meets] at hm
        · simp [meets] at hm
    · -- the call
      intro fuel listed E1 fr1 hp1' a1 w1 i o' hsz hJ hcnt hD hsk ho' hf hpre
      have hanc : ∀ k, anc all all.length i k = true → listed.getD k false = true := fun k hk => anc_listed hD.cl _ i k hk fun o2 ho2 => by rw [ho'] at ho2; cases ho2; exact hpre
      have hil : i < all.length := (List.getElem?_eq_some_iff.1 ho').1
      have hic : i = c := by
        rcases Nat.lt_trichotomy i c with hlt | e | hlt
        · omega
        · exact e
        · have := hJ c (hanc c (hpb i hlt hil)); omega
      subst hic
      rw [ho] at ho'; cases ho'
      have hSi : ∀ k, listed.getD k false = true ↔ k < i := fun k => ⟨hJ k, fun hk => hanc k (hpa k hk (by omega))⟩
      obtain ⟨u1, u2⟩ := hD.upto hd hs1 (m := i) (by omega) hSi
      have hrel1 : RelS w0 K0 E1 s1 a1 w1 := by
        have := rel_told hD.rel (fr' := s1.fr) (hp' := s1.hp) (fun t => by rw [u1 t, Nat.min_self, f7]) (fun id => by rw [u2 id, Nat.min_self, f8]) (D' := fun id => id < s1.nx) (fun id hid => by
          rw [f10]
          rcases hD.dom id hid with h' | ⟨k, _, hk, e⟩
          · exact hr.dom id h'
          · omega)
        unfold RelS
        rw [f9]; exact this
      have hme : ¬ E1.dom (base + i) := by
        intro hdm
        rcases hD.dom _ hdm with h' | ⟨k, hk, _, e⟩
        · have := hE _ h'; omega
        · have := hJ k hk; omega
      have hgn : o.guard = none := by simpa using hg
      unfold wpOp
      rw [show all.toArray[i]? = some o by simpa using ho]
      simp only [Region.wanted, hgn, if_true]
      refine .inl (stepA_sound hX hF f6 hrel1 hme (by rw [f10]; omega) ?_)
      intro s2 a2 w2 E2 h2 hle2 hnx2 hdom2 hrel2
      -- the last part
      obtain ⟨F2, G2, acc2, wr2, s3, g1, g2, g3, g4, g5, g6, g7, g8, g9, g10⟩ := opsD_trace hX all (all.drop (i + 1)) (i + 1) _ [] h2 (fun j o ho => by rw [List.getElem?_drop] at ho; exact ho)
      have hlen2 : i + 1 + (all.drop (i + 1)).length = all.length := by simp; omega
      rw [hlen2] at g3 g5 g7 g8
      have hs2 : ∀ k, k < all.length → StepOr X all s2.nx s2.n k (F2 (max k (i + 1))) (F2 (max (k + 1) (i + 1))) (G2 (max k (i + 1))) (G2 (max (k + 1) (i + 1))) (if i < k then acc2 k else []) (if i < k then wr2 k else []) (k ≤ i) := by
        intro k hk
        by_cases hik : i < k
        · rw [Nat.max_eq_left (by omega), Nat.max_eq_left (by omega), if_pos hik, if_pos hik]
          exact .inl (g3 k (by omega) hk)
        · rw [Nat.max_eq_right (by omega), Nat.max_eq_right (by omega)]
          exact .inr ⟨by omega, rfl, rfl, if_neg hik⟩
      have hset : ∀ k, (listed.setIfInBounds i true).getD k false = true ↔ k ≤ i := by
        intro k
        have hlt : i < listed.size := by omega
        by_cases e : k = i
        · subst e
          rw [Array.getD_eq_getD_getElem?, Array.getElem?_setIfInBounds_self_of_lt hlt]
          simp
        · rw [getD_set_ne false (Ne.symm e), hSi k]
          omega
      refine any_sound (F := fun k => F2 (max k (i + 1))) (G := fun k => G2 (max k (i + 1))) (acc := fun k => if i < k then acc2 k else []) (wr := fun k => if i < k then wr2 k else []) (n := s2.n) (base := s2.nx) (w0 := w0) (K0 := K0) (E0 := E2)
        (sk := fun k => k ≤ i) (J := fun S => ∀ k, k ≤ i → S k) hd he hs2 (fun S k hJ _ q hq => .inl (hJ q hq)) ?_ (fun id hid => hrel2.dom id hid) ?_ ?_ fuel _ E2 s2.fr s2.hp a2 w2 (by simp [hsz]) (fun k hk => (hset k).2 hk) hcnt ?_
      · intro k j hj hk hm
        by_cases hik : i < k
        · by_cases hij : i < j
          · simp only [if_pos hik, if_pos hij] at hm
            exact g5 k j (by omega) hj hk hm
          · simp only [if_neg hij] at hm
            simp [meets] at hm
        · simp only [if_neg hik] at hm
          simp [meets] at hm
      · intro fuel' listed' E' fr' hp' a' w' k o' _ hJ' _ _ hk _ hf' _
        have := hJ' k hk
        rw [this] at hf'; cases hf'
      · intro E' fr' hp' a' w' _ hD'
        obtain ⟨v1, v2⟩ := hD'.upto hd hs2 (m := all.length) (Nat.le_refl _) (fun _ => Iff.rfl)
        refine hn s3 a' w' E' g6 (hD.le.trans (hle2.trans hD'.le)) ?_ ?_ ?_
        · have : s3.nx = s2.nx + all.length := g10
          omega
        · intro id hid
          rcases hD'.dom id hid with h' | ⟨k, _, hk, e⟩
          · rcases hdom2 id h' with h' | h' | h'
            · rcases hD.dom id h' with h' | ⟨k, _, _, e⟩
              · exact .inl h'
              · right; omega
            · right; omega
            · right; omega
          · right; omega
        · have := rel_told hD'.rel (fr' := s3.fr) (hp' := s3.hp) (fun t => by rw [v1 t, Nat.max_eq_left (by omega), g7]) (fun id => by rw [v2 id, Nat.max_eq_left (by omega), g8]) (D' := fun id => id < s3.nx) (fun id hid => by
            have e10 : s3.nx = s2.nx + all.length := g10
            rcases hD'.dom id hid with h' | ⟨k, _, hk, e⟩
            · have := hrel2.dom id h'; omega
            · omega)
          have e9 : s3.n = s2.n := g9
          unfold RelS
          rw [e9]; exact this
      · refine { le := Env.le.refl E2, rel := hrel2.names fun _ _ => trivial, dom := fun id hid => .inl hid, cl := ?_, reg := ?_, reg0 := ?_, heap := ?_, heap0 := ?_ }
        · intro k x hk hx e hee hb
          have hk' := (hset k).1 hk
          rw [hset]
          have := (edgesOk_spec he hx).1 e hee hb
          omega
        · intro k x t hk hx hdx
          have hk' := (hset k).1 hk
          rw [Nat.max_eq_right (by omega), g1]
        · intro t _
          rw [Nat.max_eq_right (by omega), g1]
        · intro k id hk _ hkw
          have hk' := (hset k).1 hk
          simp only [if_neg (show ¬ i < k by omega)] at hkw
          simp at hkw
        · intro id _
          rw [Nat.max_eq_right (by omega), g2]
    · intro E' fr hp a' w' hJ _
      have := hJ c hcl
      omega
    · have : ((List.range all.length).filter fun i => !(Array.replicate all.toArray.size false).getD i false) = List.range all.length := by
        rw [List.filter_eq_self]
        intro i _
        rw [hlist]; rfl
      rw [this]; simp
    · exact { le := Env.le.refl E, rel := hr.names fun _ _ => trivial, dom := fun id hid => .inl hid, cl := fun i o hi => absurd hi (hS0 i), reg := fun i o t hi => absurd hi (hS0 i), reg0 := fun t _ => by rw [Nat.min_eq_left (Nat.zero_le _), f1], heap := fun i id hi => absurd hi (hS0 i), heap0 := fun id _ => by rw [Nat.min_eq_left (Nat.zero_le _), f2] }
  · exact h.elim

end

end Go.Vai
