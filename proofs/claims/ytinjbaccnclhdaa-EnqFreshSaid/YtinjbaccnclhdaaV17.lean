/- Regions that draw; then all code that the evaluator takes, and the calls that it enters. -/
import Derived.Test.YtinjbaccnclhdaaV16
namespace Go.Vai
open Go.RowKit

theorem count_lt {p q : Nat → Bool} {i : Nat} (himp : ∀ j, q j = true → p j = true) (hi : p i = true) (hq : q i = false) : ∀ (l : List Nat), i ∈ l → (l.filter q).length < (l.filter p).length
  | [], h => by cases h
  | x :: l, h => by
    have hle : ∀ l : List Nat, (l.filter q).length ≤ (l.filter p).length := by
      intro l
      induction l with
      | nil => simp
      | cons y l ih =>
        simp only [List.filter_cons]
        cases hqy : q y with
        | true => rw [himp y hqy]; simp; exact ih
        | false => cases p y <;> simp <;> omega
    by_cases e : x = i
    · subst e
      have := hle l
      simp only [List.filter_cons, hi, hq, if_true, Bool.false_eq_true, if_false, List.length_cons]
      omega
    · have hm : i ∈ l := (List.mem_cons.1 h).resolve_left (Ne.symm e)
      have := count_lt himp hi hq l hm
      simp only [List.filter_cons]
      cases hqy : q x with
      | true => rw [himp x hqy]; simp; exact this
      | false => cases p x <;> simp <;> omega

section
variable {X : Ctx} {all : List Oper} {base n : Nat} {sk : Nat → Prop} {F : Nat → Nat → AV} {G : Nat → Nat → Option Blk} {acc wr : Nat → List Nat}

theorem edgesOk_spec (h : edgesOk all = true) {j : Nat} {o : Oper} (ho : all[j]? = some o) :
    (∀ e ∈ o.after.toList, Region.binds .any e = true → e.on < j) ∧ (∀ g w, o.guard = some (g, w) → g < j) := by
  unfold edgesOk at h
  rw [List.all_eq_true] at h
  have hj := h j (by rw [List.mem_range]; exact (List.getElem?_eq_some_iff.1 ho).1)
  rw [ho] at hj
  simp only [Bool.and_eq_true, List.all_eq_true, Bool.or_eq_true, Bool.not_eq_true', decide_eq_true_eq] at hj
  obtain ⟨⟨h1, _⟩, h3⟩ := hj
  refine ⟨fun e he hb => ?_, fun g w hg => ?_⟩
  · rcases h1 e he with h' | h'
    · rw [hb] at h'; cases h'
    · exact h'
  · rw [hg] at h3; simpa using h3

theorem any_sound {w0 : World} {K0 : Nat → Option Obj} {E0 : Env} {Q : Exit → Act → World → Prop} (hd : dataOk all = true) (he : edgesOk all = true)
    (hs : ∀ i, i < all.length → StepOr X all base n i (F i) (F (i + 1)) (G i) (G (i + 1)) (acc i) (wr i) (sk i)) {J : (Nat → Prop) → Prop} (hJ : ∀ S i, J S → ¬ sk i → J (fun k => S k ∨ k = i))
    (hpair : ∀ i j, j < i → i < all.length → (meets (wr i) (acc j) = true ∨ meets (wr j) (acc i) = true) → anc all all.length i j = true) (hE0 : ∀ id, E0.dom id → id < base)
    (hstop : ∀ (fuel : Nat) (listed : Array Bool) (E : Env) (fr : Frm) (hp : Hp) (a : Act) (w : World) (i : Nat) (o : Oper), listed.size = all.length → J (fun i => listed.getD i false = true) → ((List.range all.length).filter fun k => !(listed.setIfInBounds i true).getD k false).length ≤ fuel →
      Doing X all base n F G wr w0 K0 E0 (fun i => listed.getD i false = true) E fr hp a w → sk i → all[i]? = some o → listed.getD i false = false → (∀ e ∈ o.after.toList, Region.binds .any e = true → listed.getD e.on false = true) →
      wpOp X.P all.toArray Q i (fun a w => wpAny X.P .any all.toArray Q fuel (listed.setIfInBounds i true) a w) a w)
    (hend : ∀ E fr hp a w, J (fun i => i < all.length) → Doing X all base n F G wr w0 K0 E0 (fun i => i < all.length) E fr hp a w → Q .normal a w) :
    ∀ (fuel : Nat) (listed : Array Bool) (E : Env) (fr : Frm) (hp : Hp) (a : Act) (w : World), listed.size = all.length → J (fun i => listed.getD i false = true) → ((List.range all.length).filter fun i => !listed.getD i false).length ≤ fuel →
      Doing X all base n F G wr w0 K0 E0 (fun i => listed.getD i false = true) E fr hp a w → wpAny X.P .any all.toArray Q fuel listed a w := by
  -- nothing is ready: all has been done
  have done : ∀ (listed : Array Bool) (E : Env) (fr : Frm) (hp : Hp) (a : Act) (w : World), listed.size = all.length → J (fun i => listed.getD i false = true) → Doing X all base n F G wr w0 K0 E0 (fun i => listed.getD i false = true) E fr hp a w →
      Region.ready .any all.toArray listed = [] → Q .normal a w := by
    intro listed E fr hp a w hsz hJl h hr
    have hall : ∀ i, i < all.length → listed.getD i false = true := by
      intro i
      induction i using Nat.strongRecOn with
      | _ i ih =>
        intro hi
        cases hli : listed.getD i false with
        | true => rfl
        | false =>
          exfalso
          have ho : all[i]? = some all[i] := by simp [hi]
          have : i ∈ Region.ready .any all.toArray listed := by
            rw [mem_ready]
            refine ⟨?_, all[i], by simp [hi], ?_⟩
            · have hlt : i < listed.size := by omega
              rw [Array.getD_eq_getD_getElem?, Array.getElem?_eq_getElem hlt] at hli ⊢
              simpa using hli
            · intro e hee hb
              have := (edgesOk_spec he ho).1 e (by simpa using hee) hb
              exact ih e.on this (by omega)
          rw [hr] at this; cases this
    have eS : (fun i => listed.getD i false = true) = (fun i => i < all.length) := funext fun i => propext ⟨fun hi => by
      rw [Array.getD_eq_getD_getElem?] at hi
      by_cases hlt : i < listed.size
      · omega
      · rw [Array.getElem?_eq_none (by omega)] at hi; simp at hi, hall i⟩
    refine hend E fr hp a w (eS ▸ hJl) { le := h.le, rel := h.rel, dom := ?_, cl := ?_, reg := ?_, reg0 := ?_, heap := ?_, heap0 := ?_ }
    · intro id hid
      exact (h.dom id hid).imp_right fun ⟨k, _, h2, h3⟩ => ⟨k, h2, h2, h3⟩
    · intro i o hi ho e hee hb
      have := (edgesOk_spec he ho).1 e hee hb
      show e.on < all.length
      omega
    · intro i o t hi; exact h.reg i o t (hall i hi)
    · intro t ht
      exact h.reg0 t fun i o hi ho => ht i o (List.getElem?_eq_some_iff.1 ho).1 ho
    · intro i id hi hil hw hmax
      exact h.heap i id (hall i hil) hil hw fun j hj hjl hjw => hmax j hjl hjl hjw
    · intro id hid
      exact h.heap0 id fun i _ hil => hid i hil hil
  intro fuel
  induction fuel with
  | zero =>
    intro listed E fr hp a w hsz hJl hc h
    have hr : Region.ready .any all.toArray listed = [] := by
      cases hr : Region.ready .any all.toArray listed with
      | nil => rfl
      | cons i r =>
        exfalso
        have hi : i ∈ Region.ready .any all.toArray listed := by rw [hr]; exact List.mem_cons_self
        rw [mem_ready] at hi
        obtain ⟨h0, o, ho, _⟩ := hi
        have hil : i < all.length := by
          have : all[i]? = some o := by simpa using ho
          exact (List.getElem?_eq_some_iff.1 this).1
        have hlt : i < listed.size := by omega
        have hf : listed.getD i false = false := by
          rw [Array.getD_eq_getD_getElem?, Array.getElem?_eq_getElem hlt] at h0 ⊢
          simpa using h0
        have : i ∈ (List.range all.length).filter fun i => !listed.getD i false := by
          rw [List.mem_filter, List.mem_range]
          exact ⟨hil, by rw [hf]; rfl⟩
        have := List.length_pos_of_mem this
        omega
    exact ⟨hr, done listed E fr hp a w hsz hJl h hr⟩
  | succ fuel ih =>
    intro listed E fr hp a w hsz hJl hc h
    refine ⟨done listed E fr hp a w hsz hJl h, fun i hi => ?_⟩
    rw [mem_ready] at hi
    obtain ⟨h0, o, ho, hpre⟩ := hi
    have hoa : all[i]? = some o := by simpa using ho
    have hil : i < all.length := (List.getElem?_eq_some_iff.1 hoa).1
    have hlt : i < listed.size := by omega
    have hf : listed.getD i false = false := by
      rw [Array.getD_eq_getD_getElem?, Array.getElem?_eq_getElem hlt] at h0 ⊢
      simpa using h0
    have hset : ∀ k, (listed.setIfInBounds i true).getD k false = true ↔ (listed.getD k false = true ∨ k = i) := by
      intro k
      by_cases e : k = i
      · subst e
        rw [Array.getD_eq_getD_getElem?, Array.getElem?_setIfInBounds_self_of_lt hlt]
        simp
      · rw [getD_set_ne false (Ne.symm e)]
        simp [e]
    have hcnt : ((List.range all.length).filter fun k => !(listed.setIfInBounds i true).getD k false).length ≤ fuel := by
      have := count_lt (p := fun i => !listed.getD i false) (q := fun k => !(listed.setIfInBounds i true).getD k false) (i := i) (fun j hj => by
          simp only [Bool.not_eq_true'] at hj ⊢
          cases hl : listed.getD j false with
          | false => rfl
          | true => have := (hset j).2 (.inl hl); rw [hj] at this; cases this) (by simp only [hf, Bool.not_false]) (by have := (hset i).2 (.inr rfl); simp only [this, Bool.not_true]) (List.range all.length) (List.mem_range.2 hil)
      omega
    by_cases hsk : sk i
    · exact hstop fuel listed E fr hp a w i o hsz hJl hcnt h hsk hoa hf fun e hee hb => hpre e (by simpa using hee) hb
    have e : (fun k => (listed.setIfInBounds i true).getD k false = true) = (fun k => listed.getD k false = true ∨ k = i) := funext fun k => propext (hset k)
    refine Doing.step hd hs hpair h hE0 hoa (by rw [hf]; simp) hsk (fun e hee hb => hpre e (by simpa using hee) hb) ?_
    intro E' fr' hp' a' w' h'
    refine ih _ E' fr' hp' a' w' (by simp [hsz]) ?_ hcnt ?_
    · rw [e]; exact hJ _ i hJl hsk
    · rw [e]
      exact h'

theorem opsD_sound (hX : X.ok) (hd : dataOk all = true) (he : edgesOk all = true) {s : St} {K : St → Prop} (h : opsD X all all 0 base s [] K) {w0 : World} {K0 : Nat → Option Obj} {E : Env} {a : Act} {w : World}
    (hr : RelS w0 K0 E s a w) (hE : ∀ id, E.dom id → id < base) (hb : base + all.length ≤ s.nx) {Q : Exit → Act → World → Prop}
    (hn : ∀ s' a' w' E', K s' → E.le E' → s'.nx = s.nx → (∀ id, E'.dom id → E.dom id ∨ base ≤ id) → RelS w0 K0 E' s' a' w' → Q .normal a' w') :
    wpAny X.P .any all.toArray Q all.toArray.size (Array.replicate all.toArray.size false) a w := by
  obtain ⟨F, G, acc, wr, s', f1, f2, f3, f4, f5, f6, f7, f8, f9, f10⟩ := opsD_trace hX all all 0 s [] h (fun j o ho => by rw [Nat.zero_add]; exact ho)
  rw [Nat.zero_add] at f3 f5 f7 f8
  have hs : ∀ i, i < all.length → StepOr X all base s.n i (F i) (F (i + 1)) (G i) (G (i + 1)) (acc i) (wr i) False := fun i hi => .inl (f3 i (Nat.zero_le _) hi)
  have hlist : ∀ i, (Array.replicate all.toArray.size false).getD i false = false := by
    intro i
    rw [Array.getD_eq_getD_getElem?, Array.getElem?_replicate]
    split <;> rfl
  refine any_sound (F := F) (G := G) (acc := acc) (wr := wr) (n := s.n) (base := base) (w0 := w0) (K0 := K0) (E0 := E) (sk := fun _ => False) (J := fun _ => True) hd he hs (fun _ _ _ _ => trivial) (fun i j hj hi hm => f5 i j (Nat.zero_le _) hj hi hm) hE (fun _ _ _ _ _ _ _ _ _ _ _ _ _ h => h.elim) ?_ _ _ E s.fr s.hp a w (by simp) trivial ?_ ?_
  · intro E' fr hp a' w' _ hD
    have hreg : ∀ t, lkp fr t = lkp s'.fr t := by
      intro t
      rw [← f7]
      by_cases hw : ∃ (k : Nat) (x : Oper), all[k]? = some x ∧ x.dst = some t
      · obtain ⟨k, x, hx, hdx⟩ := hw
        have hkl : k < all.length := (List.getElem?_eq_some_iff.1 hx).1
        rw [hD.reg k x t hkl hx hdx]
        have := regs_stay hs t (all.length - (k + 1)) (k + 1) (by omega) fun q h1 h2 y hy hdy => (dataOk_spec hd (show k < q by omega) hx hy).1 t hdx hdy
        rw [show k + 1 + (all.length - (k + 1)) = all.length by omega] at this
        exact this.symm
      · have hno : ∀ (q : Nat) (y : Oper), all[q]? = some y → y.dst ≠ some t := fun q y hy hdy => hw ⟨q, y, hy, hdy⟩
        rw [hD.reg0 t fun q y _ hy => hno q y hy]
        have := regs_stay hs t all.length 0 (by omega) fun q _ _ y hy => hno q y hy
        rw [Nat.zero_add] at this
        exact this.symm
    have hheap : ∀ id, hlk hp id = hlk s'.hp id := by
      intro id
      rw [← f8]
      rcases last_below (fun k => id ∈ wr k) all.length with ⟨k, h1, h2, h3⟩ | hno
      · rw [hD.heap k id h1 h1 h2 fun j _ hjl hjw => h3 j hjl hjw]
        have := heap_stay hs id (all.length - (k + 1)) (k + 1) (by omega) fun q h4 h5 hq => by have := h3 q (by omega) hq; omega
        rw [show k + 1 + (all.length - (k + 1)) = all.length by omega] at this
        exact this.symm
      · rw [hD.heap0 id fun j _ hjl => hno j hjl]
        have := heap_stay hs id all.length 0 (by omega) fun q _ h5 => hno q (by omega)
        rw [Nat.zero_add] at this
        exact this.symm
    refine hn s' a' w' E' f6 hD.le f10 (fun id hid => (hD.dom id hid).imp_right fun ⟨k, _, _, e⟩ => by omega) ?_
    have hrel := hD.rel
    refine { below := hrel.below, kw := hrel.kw, k0 := hrel.k0, nd := hrel.nd, size := by rw [f9]; exact hrel.size, regs := fun t ht => by rw [← hreg]; exact hrel.regs t (by rw [← f9]; exact ht), dom := ?_, out := fun t ht => by rw [← hreg]; exact hrel.out t (by rw [← f9]; exact ht),
             own := fun id b hb => hrel.own id b (by rw [hheap]; exact hb), inj := fun id id' b b' g h1 h2 => hrel.inj id id' b b' g (by rw [hheap]; exact h1) (by rw [hheap]; exact h2) }
    intro id hid
    show id < s'.nx
    rw [f10]
    rcases hD.dom id hid with h' | ⟨k, _, hk, e⟩
    · exact hr.dom id h'
    · omega
  · have : ((List.range all.length).filter fun i => !(Array.replicate all.toArray.size false).getD i false) = List.range all.length := by
      rw [List.filter_eq_self]
      intro i _
      rw [hlist]; rfl
    rw [this]; simp
  · have hS : ∀ i, ¬ ((Array.replicate all.toArray.size false).getD i false = true) := fun i => by rw [hlist]; simp
    exact { le := Env.le.refl E, rel := hr.names fun _ _ => trivial, dom := fun id hid => .inl hid, cl := fun i o hi => absurd hi (hS i), reg := fun i o t hi => absurd hi (hS i), reg0 := fun t _ => by rw [f1], heap := fun i id hi => absurd hi (hS i), heap0 := fun id _ => by rw [f2] }

end

end Go.Vai
