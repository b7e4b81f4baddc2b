/- A region that draws its order, told: any order comes to the state of the text's order. -/
import Derived.Test.YtinjbaccnclhdaaV15
namespace Go.Vai
open Go.RowKit

/-- The last of those below m that are so, or none is. -/
theorem last_below (p : Nat → Prop) : ∀ m, (∃ k, k < m ∧ p k ∧ ∀ j, j < m → p j → j ≤ k) ∨ ∀ j, j < m → ¬ p j
  | 0 => .inr fun j h => by omega
  | m + 1 => by
    by_cases hp : p m
    · exact .inl ⟨m, by omega, hp, fun j h _ => by omega⟩
    · rcases last_below p m with ⟨k, h1, h2, h3⟩ | h
      · exact .inl ⟨k, by omega, h2, fun j hj hpj => by
          by_cases e : j = m
          · subst e; exact absurd hpj hp
          · exact h3 j (by omega) hpj⟩
      · exact .inr fun j hj hpj => by
          by_cases e : j = m
          · subst e; exact hp hpj
          · exact h j (by omega) hpj

theorem meets_of {a b : List Nat} {x : Nat} (h1 : x ∈ a) (h2 : x ∈ b) : meets a b = true := by
  unfold meets
  rw [List.any_eq_true]
  exact ⟨x, h1, by simpa using h2⟩

theorem anc_listed {all : List Oper} {S : Nat → Prop} (hcl : ∀ i o, S i → all[i]? = some o → ∀ e ∈ o.after.toList, Region.binds .any e = true → S e.on) :
    ∀ (f i k : Nat), anc all f i k = true → (∀ o, all[i]? = some o → ∀ e ∈ o.after.toList, Region.binds .any e = true → S e.on) → S k
  | 0, i, k, h, _ => by cases h
  | f + 1, i, k, h, hp => by
    simp only [anc] at h
    cases ho : all[i]? with
    | none => rw [ho] at h; cases h
    | some o =>
      rw [ho] at h
      simp only [List.any_eq_true, Bool.and_eq_true, Bool.or_eq_true, beq_iff_eq] at h
      obtain ⟨e, he, hb, h'⟩ := h
      have hs := hp o ho e he hb
      rcases h' with rfl | h'
      · exact hs
      · exact anc_listed hcl f e.on k h' fun o' ho' => hcl e.on o' hs ho'

section
variable {X : Ctx} {all : List Oper} {base n : Nat} {sk : Nat → Prop} {F : Nat → Nat → AV} {G : Nat → Nat → Option Blk} {acc wr : Nat → List Nat}

/-- The data's order of two operations. -/
theorem dataOk_spec (h : dataOk all = true) {i j : Nat} (hij : i < j) {x y : Oper} (hx : all[i]? = some x) (hy : all[j]? = some y) :
    (∀ d, x.dst = some d → y.dst ≠ some d) ∧ (∀ d, x.dst = some d → d ∈ y.looksAt all.toArray → anc all all.length j i = true) ∧ (∀ d, y.dst = some d → d ∈ x.looksAt all.toArray → anc all all.length j i = true) := by
  unfold dataOk at h
  rw [List.all_eq_true] at h
  have hj := h j (by rw [List.mem_range]; exact (List.getElem?_eq_some_iff.1 hy).1)
  rw [List.all_eq_true] at hj
  have hi := hj i (by rw [List.mem_range]; exact hij)
  rw [hx, hy] at hi
  simp only [Bool.and_eq_true] at hi
  obtain ⟨h1, h2⟩ := hi
  refine ⟨fun d hd => ?_, fun d hd hm => ?_, fun d hd hm => ?_⟩
  · rw [hd] at h1
    simp only [Bool.or_eq_true, Bool.not_eq_true', Bool.or_eq_false_iff, Bool.and_eq_true, bne_iff_ne, beq_eq_false_iff_ne] at h1
    rcases h1 with ⟨_, h1⟩ | ⟨_, h1⟩ <;> exact h1
  · rw [hd] at h1
    simp only [Bool.or_eq_true, Bool.not_eq_true', Bool.or_eq_false_iff, Bool.and_eq_true] at h1
    rcases h1 with ⟨h1, _⟩ | ⟨h1, _⟩
    · have : (y.looksAt all.toArray).contains d = true := by simpa using hm
      rw [this] at h1; cases h1
    · exact h1
  · rw [hd] at h2
    simp only [Bool.or_eq_true, Bool.not_eq_true'] at h2
    rcases h2 with h2 | h2
    · have : (x.looksAt all.toArray).contains d = true := by simpa using hm
      rw [this] at h2; cases h2
    · exact h2

/-- A step of the text's order, or one that is passed over. -/
def StepOr (X : Ctx) (all : List Oper) (base n i : Nat) (F F' : Nat → AV) (G G' : Nat → Option Blk) (acc wr : List Nat) (sk : Prop) : Prop :=
  StepIs X all base n i F F' G G' acc wr ∨ (sk ∧ F' = F ∧ G' = G ∧ wr = [])

/-- A register stays while nobody writes it. -/
theorem regs_stay (hs : ∀ i, i < all.length → StepOr X all base n i (F i) (F (i + 1)) (G i) (G (i + 1)) (acc i) (wr i) (sk i)) (t : Nat) : ∀ (q i : Nat), i + q ≤ all.length →
    (∀ k, i ≤ k → k < i + q → ∀ o, all[k]? = some o → o.dst ≠ some t) → F (i + q) t = F i t
  | 0, _, _, _ => rfl
  | q + 1, i, hl, h => by
    rcases hs (i + q) (by omega) with hst | ⟨_, hF, _⟩
    · obtain ⟨o, go, r, upd, ho, _, _, hF, _⟩ := hst.h
      rw [show i + (q + 1) = i + q + 1 by omega, hF t, if_neg (h (i + q) (by omega) (by omega) o ho)]
      exact regs_stay hs t q i (by omega) fun k h1 h2 => h k h1 (by omega)
    · rw [show i + (q + 1) = i + q + 1 by omega, hF]
      exact regs_stay hs t q i (by omega) fun k h1 h2 => h k h1 (by omega)

theorem heap_stay (hs : ∀ i, i < all.length → StepOr X all base n i (F i) (F (i + 1)) (G i) (G (i + 1)) (acc i) (wr i) (sk i)) (id : Nat) : ∀ (q i : Nat), i + q ≤ all.length →
    (∀ k, i ≤ k → k < i + q → id ∉ wr k) → G (i + q) id = G i id
  | 0, _, _, _ => rfl
  | q + 1, i, hl, h => by
    rcases hs (i + q) (by omega) with hst | ⟨_, _, hG, _⟩
    · obtain ⟨o, go, r, upd, ho, _, _, _, hG, hw, _⟩ := hst.h
      rw [show i + (q + 1) = i + q + 1 by omega, hG id, ovr_not (by rw [← hw]; exact h (i + q) (by omega) (by omega))]
      exact heap_stay hs id q i (by omega) fun k h1 h2 => h k h1 (by omega)
    · rw [show i + (q + 1) = i + q + 1 by omega, hG]
      exact heap_stay hs id q i (by omega) fun k h1 h2 => h k h1 (by omega)

/-- Those that have been done. -/
structure Doing (X : Ctx) (all : List Oper) (base n : Nat) (F : Nat → Nat → AV) (G : Nat → Nat → Option Blk) (wr : Nat → List Nat) (w0 : World) (K0 : Nat → Option Obj) (E0 : Env) (S : Nat → Prop) (E : Env) (fr : Frm) (hp : Hp) (a : Act) (w : World) : Prop where
  le : E0.le E
  rel : Rel w0 K0 (fun _ => True) E n fr hp a w
  dom : ∀ id, E.dom id → E0.dom id ∨ ∃ i, S i ∧ i < all.length ∧ id = base + i
  cl : ∀ i o, S i → all[i]? = some o → ∀ e ∈ o.after.toList, Region.binds .any e = true → S e.on
  reg : ∀ i o t, S i → all[i]? = some o → o.dst = some t → lkp fr t = F (i + 1) t
  reg0 : ∀ t, (∀ i o, S i → all[i]? = some o → o.dst ≠ some t) → lkp fr t = F 0 t
  heap : ∀ i id, S i → i < all.length → id ∈ wr i → (∀ j, S j → j < all.length → id ∈ wr j → j ≤ i) → hlk hp id = G (i + 1) id
  heap0 : ∀ id, (∀ i, S i → i < all.length → id ∉ wr i) → hlk hp id = G 0 id

theorem Doing.step {w0 : World} {K0 : Nat → Option Obj} {E0 : Env} {S : Nat → Prop} {E : Env} {fr : Frm} {hp : Hp} {a : Act} {w : World} (hd : dataOk all = true)
    (hs : ∀ i, i < all.length → StepOr X all base n i (F i) (F (i + 1)) (G i) (G (i + 1)) (acc i) (wr i) (sk i))
    (hpair : ∀ i j, j < i → i < all.length → (meets (wr i) (acc j) = true ∨ meets (wr j) (acc i) = true) → anc all all.length i j = true)
    (h : Doing X all base n F G wr w0 K0 E0 S E fr hp a w) (hE0 : ∀ id, E0.dom id → id < base) {i : Nat} {o : Oper} (ho : all[i]? = some o) (hSi : ¬ S i) (hsk : ¬ sk i)
    (hpre : ∀ e ∈ o.after.toList, Region.binds .any e = true → S e.on) {K : Act → World → Prop} {Q : Exit → Act → World → Prop}
    (hK : ∀ E' fr' hp' a' w', Doing X all base n F G wr w0 K0 E0 (fun k => S k ∨ k = i) E' fr' hp' a' w' → K a' w') : wpOp X.P all.toArray Q i K a w := by
  have hil : i < all.length := (List.getElem?_eq_some_iff.1 ho).1
  have hancS : ∀ k, anc all all.length i k = true → S k := fun k hk => anc_listed h.cl _ i k hk fun o' ho' => by rw [ho] at ho'; cases ho'; exact hpre
  have hnotS : ∀ k, anc all all.length k i = true → ¬ S k := fun k hk hSk => hSi (anc_listed h.cl _ k i hk fun o' ho' => h.cl k o' hSk ho')
  -- what it looks at is as in the text's order
  have hreg : ∀ t, t ∈ o.looksAt all.toArray → lkp fr t = F i t := by
    intro t ht
    by_cases hw : ∃ (k : Nat) (x : Oper), all[k]? = some x ∧ x.dst = some t
    · obtain ⟨k, x, hx, hdx⟩ := hw
      have hkl : k < all.length := (List.getElem?_eq_some_iff.1 hx).1
      have huniq : ∀ (q : Nat) (y : Oper), all[q]? = some y → y.dst = some t → q = k := by
        intro q y hy hdy
        rcases Nat.lt_trichotomy q k with hlt | e | hlt
        · exact absurd hdx ((dataOk_spec hd hlt hy hx).1 t hdy)
        · exact e
        · exact absurd hdy ((dataOk_spec hd hlt hx hy).1 t hdx)
      rcases Nat.lt_trichotomy k i with hlt | e | hlt
      · have hS := hancS k ((dataOk_spec hd hlt hx ho).2.1 t hdx ht)
        rw [h.reg k x t hS hx hdx]
        have := regs_stay hs t (i - (k + 1)) (k + 1) (by omega) fun q h1 h2 y hy hdy => by have := huniq q y hy hdy; omega
        rw [show k + 1 + (i - (k + 1)) = i by omega] at this
        exact this.symm
      · subst e
        rw [h.reg0 t fun q y hSq hy hdy => by have := huniq q y hy hdy; subst this; exact hSi hSq]
        have := regs_stay hs t k 0 (by omega) fun q h1 h2 y hy hdy => by have := huniq q y hy hdy; omega
        rw [Nat.zero_add] at this
        exact this.symm
      · have hS := hnotS k ((dataOk_spec hd hlt ho hx).2.2 t hdx ht)
        rw [h.reg0 t fun q y hSq hy hdy => by have := huniq q y hy hdy; subst this; exact hS hSq]
        have := regs_stay hs t i 0 (by omega) fun q h1 h2 y hy hdy => by have := huniq q y hy hdy; omega
        rw [Nat.zero_add] at this
        exact this.symm
    · have hno : ∀ (q : Nat) (y : Oper), all[q]? = some y → y.dst ≠ some t := fun q y hy hdy => hw ⟨q, y, hy, hdy⟩
      rw [h.reg0 t fun q y _ hy => hno q y hy]
      have := regs_stay hs t i 0 (by omega) fun q _ _ y hy => hno q y hy
      rw [Nat.zero_add] at this
      exact this.symm
  obtain ⟨o', go, r, upd, ho', hgd, hdn, hF, hG, hwr, hwa, hrun⟩ : StepIs X all base n i (F i) (F (i + 1)) (G i) (G (i + 1)) (acc i) (wr i) := (hs i hil).resolve_right fun h => hsk h.1
  rw [ho] at ho'; cases ho'
  have hheap : ∀ id, id ∈ acc i → hlk hp id = G i id := by
    intro id hid
    have hlow : ∀ k, k < i → id ∈ wr k → S k := fun k hk hkw => hancS k (hpair i k hk hil (.inr (meets_of hkw hid)))
    have hhigh : ∀ k, i < k → k < all.length → id ∈ wr k → ¬ S k := fun k hk hkl hkw => hnotS k (hpair k i hk hkl (.inl (meets_of hkw hid)))
    rcases last_below (fun k => id ∈ wr k) i with ⟨k, h1, h2, h3⟩ | hno
    · rw [h.heap k id (hlow k h1 h2) (by omega) h2 fun j hj hjl hjw => by
        rcases Nat.lt_trichotomy j i with hlt | e | hlt
        · exact h3 j hlt hjw
        · subst e; exact absurd hj hSi
        · exact absurd hj (hhigh j hlt hjl hjw)]
      have := heap_stay hs id (i - (k + 1)) (k + 1) (by omega) fun q h4 h5 hq => by have := h3 q (by omega) hq; omega
      rw [show k + 1 + (i - (k + 1)) = i by omega] at this
      exact this.symm
    · rw [h.heap0 id fun j hj hjl hjw => by
        rcases Nat.lt_trichotomy j i with hlt | e | hlt
        · exact hno j hlt hjw
        · subst e; exact hSi hj
        · exact hhigh j hlt hjl hjw hj]
      have := heap_stay hs id i 0 (by omega) fun q _ h5 => hno q (by omega)
      rw [Nat.zero_add] at this
      exact this.symm
  have hguard : Region.wanted o (yielded all.toArray a.tmps) = go := by
    unfold GuardIs at hgd
    cases hg : o.guard with
    | none => rw [hg] at hgd; simp only at hgd; rw [hgd]; simp [Region.wanted, hg]
    | some jw =>
      obtain ⟨j, want⟩ := jw
      rw [hg] at hgd
      simp only at hgd
      cases hjd : (all[j]?).bind (·.dst) with
      | none => rw [hjd] at hgd; simp only at hgd; rw [hgd]; simp [Region.wanted, hg, yielded, hjd]
      | some d =>
        rw [hjd] at hgd
        simp only at hgd
        have hlook : d ∈ o.looksAt all.toArray := by
          unfold Oper.looksAt
          rw [hg]
          simp [hjd]
        have hFd := hreg d hlook
        have hdlt : lkp fr d ≠ .top → d < n := fun hne => Nat.lt_of_not_le fun hle => hne (h.rel.out d hle)
        have hev := h.rel.ev (.tmp d)
        simp only [evo, Act.eval] at hev
        rcases hgd with ⟨c, hc, hgo⟩ | ⟨xs, hc, hgo⟩
        · rw [hFd, hc] at hev
          have hy := yielded_eq (all := all) (a := a) hjd (by rw [h.rel.size]; exact hdlt (by rw [hFd, hc]; simp))
          generalize hv : a.tmps.getD d undef = v at hev hy
          cases hev
          simp only at hy
          simp [Region.wanted, hg, hy, hgo]
        · rw [hFd, hc] at hev
          have hy := yielded_eq (all := all) (a := a) hjd (by rw [h.rel.size]; exact hdlt (by rw [hFd, hc]; simp))
          generalize hv : a.tmps.getD d undef = v at hev hy
          cases hev
          simp only at hy
          simp [Region.wanted, hg, hy, hgo]
  have hme : ¬ E.dom (base + i) := by
    intro hdm
    rcases h.dom _ hdm with h' | ⟨k, hk, _, e⟩
    · have := hE0 _ h'; omega
    · have : k = i := by omega
      subst this; exact hSi hk
  -- the state behind it
  have next : ∀ (v : Value) (E' : Env) (w' : World), E.le E' → Con E' r v → Rel w0 K0 (fun _ => True) E' n fr (upd ++ hp) a w' → (∀ id, E'.dom id → E.dom id ∨ id = base + i) → K (a.put o.dst v) w' := by
    intro v E' w' hle hc hrel hdom
    have huniq : ∀ (q : Nat) (y : Oper) (t : Nat), all[q]? = some y → y.dst = some t → o.dst = some t → q = i := by
      intro q y t hy hdy hdo
      rcases Nat.lt_trichotomy q i with hlt | e | hlt
      · exact absurd hdo ((dataOk_spec hd hlt hy ho).1 t hdy)
      · exact e
      · exact absurd hdy ((dataOk_spec hd hlt ho hy).1 t hdo)
    obtain ⟨fr', hfr', hrel'⟩ : ∃ fr', (∀ t, lkp fr' t = if o.dst = some t then r else lkp fr t) ∧ Rel w0 K0 (fun _ => True) E' n fr' (upd ++ hp) (a.put o.dst v) w' := by
      cases hdo : o.dst with
      | none => exact ⟨fr, fun t => by simp, hrel.skip⟩
      | some d =>
        refine ⟨(d, r) :: fr, fun t => ?_, hrel.put (hdn d hdo) hc⟩
        rw [lkp_cons]
        simp only [Option.some.injEq]
        by_cases e : t = d
        · rw [if_pos e, if_pos e.symm]
        · rw [if_neg e, if_neg (Ne.symm e)]
    refine hK E' fr' (upd ++ hp) _ w' { le := h.le.trans hle, rel := hrel', dom := ?_, cl := ?_, reg := ?_, reg0 := ?_, heap := ?_, heap0 := ?_ }
    · intro id hid
      rcases hdom id hid with h' | h'
      · exact (h.dom id h').imp_right fun ⟨k, hk, hkl, e⟩ => ⟨k, .inl hk, hkl, e⟩
      · exact .inr ⟨i, .inr rfl, hil, h'⟩
    · rintro k x (hk | rfl) hx e he hb
      · exact .inl (h.cl k x hk hx e he hb)
      · rw [ho] at hx; cases hx; exact .inl (hpre e he hb)
    · rintro k x t hk hx hdx
      rw [hfr']
      by_cases e : o.dst = some t
      · have := huniq k x t hx hdx e
        subst this
        rw [if_pos e, hF t, if_pos e]
      · rw [if_neg e]
        rcases hk with hk | rfl
        · exact h.reg k x t hk hx hdx
        · rw [ho] at hx; cases hx; exact absurd hdx e
    · intro t ht
      rw [hfr', if_neg (ht i o (.inr rfl) ho)]
      exact h.reg0 t fun k x hk hx => ht k x (.inl hk) hx
    · intro k id hk hkl hkw hmax
      rw [hlk_append]
      by_cases e : id ∈ wr i
      · have hki : k = i := by
          have hik := hmax i (.inr rfl) hil e
          rcases Nat.lt_or_ge i k with hlt | hge
          · exfalso
            rcases hk with hk | rfl
            · exact hnotS k (hpair k i hlt hkl (.inl (meets_of hkw (hwa id e)))) hk
            · omega
          · omega
        subst hki
        rw [hG id]
        exact ovr_mem (by rw [← hwr]; exact e) _ _
      · rw [ovr_not (by rw [← hwr]; exact e)]
        rcases hk with hk | rfl
        · exact h.heap k id hk hkl hkw fun j hj hjl hjw => hmax j (.inl hj) hjl hjw
        · exact absurd hkw e
    · intro id hid
      rw [hlk_append, ovr_not (by rw [← hwr]; exact hid i (.inr rfl) hil)]
      exact h.heap0 id fun k hk hkl => hid k (.inl hk) hkl
  unfold wpOp
  have hoa : all.toArray[i]? = some o := by simpa using ho
  rw [hoa]
  simp only [hguard]
  rcases hrun with ⟨rfl, rfl, rfl⟩ | ⟨rfl, hrun⟩
  · simp only [Bool.false_eq_true, if_false]
    exact next undef E w (Env.le.refl E) (.v _) h.rel fun id hid => .inl hid
  · simp only [if_true]
    refine .inl (hrun w0 K0 E.dom E n fr hp a w (h.rel.names fun _ hd => hd) ?_ hheap hme _ _ ?_)
    · intro x hx
      cases x with
      | tmp t =>
        simp only [evo, evoF]
        refine hreg t ?_
        unfold Oper.looksAt
        refine List.mem_append_left _ (List.mem_filterMap.2 ⟨.tmp t, by simpa using hx, rfl⟩)
      | const c => rfl
      | global g => rfl
      | func f => rfl
    · intro v w' E' hle hc hrel
      exact next v E' w' hle hc (hrel.names fun _ _ => trivial) hrel.dom
end

end Go.Vai
