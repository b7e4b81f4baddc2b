/- The evaluator, the plain texts and the contracts that this claim leans on, part BJ: nothing of the statement is claimed here. -/
import Derived.Test.YtbhmjfccbidpeaaBB
import Derived.Test.YtbhmjfccbidpeaaBH
import Derived.Test.YtbhmjfccbidpeaaBG
import Derived.Test.YtbhmjfccbidpeaaBI
/- A list of the call's own is written no more. -/
namespace Go.Vai
open Go.RowKit
set_option linter.unusedVariables false

section
variable {X : Ctx}
theorem WP.freeze {c : Code} {Q : Exit → St → Prop} {n nx : Nat} {fr : Frm} {hp : Hp} (t id off len : Nat) {b : Blk} (ht : lkp fr t = .arr id off len) (hb : hlk hp id = some b) (hl : off + len ≤ b.el.length)
    (h : WP X c Q ⟨n, (t, .lst b.sz ((b.el.drop off).take len)) :: fr, (id, some { b with ro := true }) :: hp, nx⟩) (im : ∀ w0 E E', X.inv w0 E → E.le E' → X.inv w0 E' := by exact fun _ _ _ _ _ => trivial) : WP X c Q ⟨n, fr, hp, nx⟩ := by
  intro w0 K0 E a w hi0 hr
  obtain ⟨E', h1, h2, h3, h4⟩ := frzArg_sound hr (.arr id off len)
  have e : frzArg hp (.arr id off len) = (.lst b.sz ((b.el.drop off).take len), (id, some { b with ro := true }) :: hp) := by
    simp only [frzArg]
    rw [hb]
    dsimp only
    rw [if_pos hl]
  rw [e] at h3 h4
  dsimp only at h3 h4
  have hx : Ext E nx E' nx := ⟨h1, Nat.le_refl _, fun id hd => .inl (h2 id hd)⟩
  have hr2 : RelS w0 K0 E' ⟨n, (t, .lst b.sz ((b.el.drop off).take len)) :: fr, (id, some { b with ro := true }) :: hp, nx⟩ a w := by
    refine { h3 with regs := fun t' ht' => ?_, out := fun t' ht' => ?_ }
    · show Con E' (lkp ((t, AV.lst b.sz ((b.el.drop off).take len)) :: fr) t') _
      rw [lkp_cons]
      split
      · rename_i e'
        subst e'
        refine h4 _ ?_
        have := hr.regs t' ht'
        rw [show lkp fr t' = .arr id off len from ht] at this
        exact this
      · exact h3.regs t' ht'
    · show lkp ((t, AV.lst b.sz ((b.el.drop off).take len)) :: fr) t' = .top
      rw [lkp_cons]
      split
      · rename_i e'
        subst e'
        have := hr.out t' ht'
        rw [show lkp fr t' = .arr id off len from ht] at this
        cases this
      · exact h3.out t' ht'
  refine wpIn_mono (h w0 K0 _ a w (im _ _ _ hi0 hx.le) hr2) ?_
  rintro e a' w' ⟨s', E'', k1, k2, k3⟩
  exact ⟨s', E'', k1, hx.trans k2, k3⟩
end
end Go.Vai
/- What always holds when many are at the injector at once: by numbers and lists. -/
namespace Go.Vai
open Go.RowKit
set_option linter.unusedVariables false
set_option linter.unusedSimpArgs false

/-- One that has a place, and is not over. -/
def Holds (f : Fr) : Prop := f.res = 0 ∧ (f.pc = 3 ∨ f.pc = 4)
instance (f : Fr) : Decidable (Holds f) := by unfold Holds; infer_instance
/-- What one has put in. -/
def eGave (f : Fr) : Option Int := if f.op = 3 ∧ (f.res = 1 ∨ Holds f) then some f.val else none
/-- What one has taken out. -/
def qGot (V : List Int) (f : Fr) : Option Int := if f.op = 4 ∧ f.res = 1 then some f.val else if f.op = 4 ∧ Holds f then some (V.getD f.x.toNat 0) else none

def sq (c : Cf) (m : List Int) (x : Int) : Int := mLoad m (6 + x % c.i)
def vl (c : Cf) (m : List Int) (x : Int) : Int := mLoad m (6 + c.i + x % c.i)

/-- A slot, at its place: free, or with what was put in. -/
def SlotOk (c : Cf) (m V : List Int) (H s : Int) : Prop := ∃ x, x % c.i = s % c.i ∧ ((H ≤ x ∧ x < H + c.i ∧ sq c m s = 2 * (x / c.i)) ∨ (0 ≤ x ∧ (V.length : Int) - c.i ≤ x ∧ x < V.length ∧ sq c m s = 2 * (x / c.i) + 1 ∧ vl c m s = V.getD x.toNat 0))

/-- A call. -/
structure FOk (c : Cf) (m V : List Int) (H : Int) (f : Fr) : Prop where
  e : f.op = 3 → f.res = 0 → 0 ≤ f.pc ∧ f.pc < 5 ∧ (f.pc = 1 ∨ f.pc = 2 → 0 ≤ f.x ∧ f.x ≤ V.length) ∧ (f.pc = 2 → 2 * (f.x / c.i) ≤ sq c m f.x) ∧
    (f.pc = 3 ∨ f.pc = 4 → 0 ≤ f.x ∧ f.x < V.length ∧ sq c m f.x = 2 * (f.x / c.i) ∧ V.getD f.x.toNat 0 = f.val) ∧ (f.pc = 4 → vl c m f.x = f.val)
  q : f.op = 4 → f.res = 0 → 0 ≤ f.pc ∧ f.pc < 5 ∧ (f.pc = 1 ∨ f.pc = 2 → 0 ≤ f.x ∧ f.x ≤ H) ∧ (f.pc = 2 → 2 * (f.x / c.i) + 1 ≤ sq c m f.x) ∧
    (f.pc = 3 ∨ f.pc = 4 → 0 ≤ f.x ∧ f.x < H ∧ sq c m f.x = 2 * (f.x / c.i) + 1) ∧ (f.pc = 4 → f.val = V.getD f.x.toNat 0)

def Diff (f g : Fr) : Prop := (f.op = 3 ∧ g.op = 3 ∨ f.op = 4 ∧ g.op = 4) → Holds f → Holds g → f.x ≠ g.x
theorem Diff.symm {f g : Fr} (h : Diff f g) : Diff g f := fun h1 h2 h3 e => h (by omega) h3 h2 e.symm

structure Many (c : Cf) (m V : List Int) (H : Int) (fs : List Fr) : Prop where
  inj : Inj c m
  head : mLoad m 4 = H
  tail : mLoad m 5 = V.length
  lo : 0 ≤ H
  le : H ≤ V.length
  room : (V.length : Int) ≤ H + c.i
  few : fs.length ≤ 1000
  slot : ∀ s, SlotOk c m V H s
  ok : ∀ f ∈ fs, FOk c m V H f
  diff : fs.Pairwise Diff
  gave : (fs.filterMap eGave).Perm V
  got : (fs.filterMap (qGot V)).Perm (V.take H.toNat)
  heldE : ∀ x, 0 ≤ x → x < V.length → sq c m x = 2 * (x / c.i) → ∃ f ∈ fs, f.op = 3 ∧ Holds f ∧ f.x = x
  heldQ : ∀ x, 0 ≤ x → x < H → sq c m x = 2 * (x / c.i) + 1 → ∃ f ∈ fs, f.op = 4 ∧ Holds f ∧ f.x = x

theorem Many.perm {c : Cf} {m V : List Int} {H : Int} {fs gs : List Fr} (h : Many c m V H fs) (p : fs.Perm gs) : Many c m V H gs where
  inj := h.inj
  head := h.head
  tail := h.tail
  lo := h.lo
  le := h.le
  room := h.room
  few := by rw [← p.length_eq]; exact h.few
  slot := h.slot
  ok := fun f hf => h.ok f (p.mem_iff.2 hf)
  diff := p.pairwise h.diff (fun h => h.symm)
  gave := (p.symm.filterMap _).trans h.gave
  got := (p.symm.filterMap _).trans h.got
  heldE := fun x h0 h1 h2 => by obtain ⟨f, hf, e⟩ := h.heldE x h0 h1 h2; exact ⟨f, p.mem_iff.1 hf, e⟩
  heldQ := fun x h0 h1 h2 => by obtain ⟨f, hf, e⟩ := h.heldQ x h0 h1 h2; exact ⟨f, p.mem_iff.1 hf, e⟩

section
variable {i x y : Int}
theorem same_x (e1 : x % i = y % i) (e2 : x / i = y / i) : x = y := by
  have h1 := Int.emod_add_ediv_mul x i
  have h2 := Int.emod_add_ediv_mul y i
  rw [e1, e2] at h1
  omega
theorem ge_of_div (hi : 1 ≤ i) (e1 : x % i = y % i) (h : y / i ≤ x / i) : y ≤ x := by
  have h1 := Int.emod_add_ediv_mul x i
  have h2 := Int.emod_add_ediv_mul y i
  have := Int.mul_le_mul_of_nonneg_right h (show 0 ≤ i by omega)
  omega
theorem near (hi : 1 ≤ i) (e1 : x % i = y % i) (h0 : y ≤ x) (h1 : x < y + i) : x = y := by
  have e := slot_inj (i := i) (h := y) (a := x - y) (b := 0) hi (by omega) (by omega) (by omega) (by omega) (by rw [show y + (x - y) = x by omega, Int.add_zero]; exact e1)
  omega
theorem div_le (hi : 1 ≤ i) (h : x ≤ y) : x / i ≤ y / i := Int.ediv_le_ediv (by omega) h
theorem mod_mod (x i : Int) : x % i % i = x % i := Int.emod_emod_of_dvd x (Int.dvd_refl i)
end

theorem getD_app (V : List Int) (v : Int) {x : Nat} (h : x < V.length) : (V ++ [v]).getD x 0 = V.getD x 0 := by
  simp [List.getD_eq_getElem?_getD, List.getElem?_append, h]
theorem getD_last (V : List Int) (v : Int) : (V ++ [v]).getD V.length 0 = v := by simp [List.getD_eq_getElem?_getD]

section
variable {c : Cf} {m V : List Int} {H : Int} {f f' : Fr} {r : List Fr}

/-- What was put in, and what one has, in more cells. -/
theorem FOk.mono {m' V' : List Int} {H' : Int} (h : FOk c m V H f) (hs : ∀ x, sq c m' x = sq c m x) (hv : ∀ x, vl c m' x = vl c m x) (hl : V.length ≤ V'.length) (hV : ∀ x : Nat, x < V.length → V'.getD x 0 = V.getD x 0) (hHl : H ≤ V.length) (hH : H ≤ H') : FOk c m' V' H' f := by
  refine ⟨fun h3 h4 => ?_, fun h3 h4 => ?_⟩
  · obtain ⟨a1, a2, a3, a4, a5, a6⟩ := h.e h3 h4
    refine ⟨a1, a2, fun e => ?_, fun e => by rw [hs]; exact a4 e, fun e => ?_, fun e => by rw [hv]; exact a6 e⟩
    · have := a3 e; omega
    · obtain ⟨b1, b2, b3, b4⟩ := a5 e
      refine ⟨b1, by omega, by rw [hs]; exact b3, by rw [hV _ (by omega)]; exact b4⟩
  · obtain ⟨a1, a2, a3, a4, a5, a6⟩ := h.q h3 h4
    refine ⟨a1, a2, fun e => ?_, fun e => by rw [hs]; exact a4 e, fun e => ?_, fun e => ?_⟩
    · have := a3 e; omega
    · obtain ⟨b1, b2, b3⟩ := a5 e
      exact ⟨b1, by omega, by rw [hs]; exact b3⟩
    · have := a5 (.inr e)
      rw [hV _ (by omega)]; exact a6 e

theorem qGot_mono {V' : List Int} (h : FOk c m V H f) (hHl : H ≤ V.length) (hV : ∀ x : Nat, x < V.length → V'.getD x 0 = V.getD x 0) : qGot V' f = qGot V f := by
  unfold qGot
  split
  · rfl
  · split
    · rename_i e
      have := (h.q e.1 e.2.1).2.2.2.2.1 e.2.2
      rw [hV _ (by omega)]
    · rfl

theorem got_mono {V' : List Int} (h : ∀ f ∈ r, FOk c m V H f) (hHl : H ≤ V.length) (hV : ∀ x : Nat, x < V.length → V'.getD x 0 = V.getD x 0) : r.filterMap (qGot V') = r.filterMap (qGot V) := by
  induction r with
  | nil => rfl
  | cons g r ih =>
    have e := qGot_mono (h g (by simp)) hHl hV
    rw [List.filterMap_cons, List.filterMap_cons, e, ih fun f hf => h f (by simp [hf])]

theorem held_cons {op x : Int} (hk : Holds f → Holds f' ∧ f'.op = f.op ∧ f'.x = f.x) : (∃ g ∈ f :: r, g.op = op ∧ Holds g ∧ g.x = x) → ∃ g ∈ f' :: r, g.op = op ∧ Holds g ∧ g.x = x := by
  rintro ⟨g, hg, e1, e2, e3⟩
  rcases List.mem_cons.1 hg with e | e
  · subst e
    obtain ⟨k1, k2, k3⟩ := hk e2
    exact ⟨f', by simp, k2.trans e1, k1, k3.trans e3⟩
  · exact ⟨g, by simp [e], e1, e2, e3⟩
theorem held_not {op x : Int} (hk : ¬ (f.op = op ∧ Holds f ∧ f.x = x)) : (∃ g ∈ f :: r, g.op = op ∧ Holds g ∧ g.x = x) → ∃ g ∈ f' :: r, g.op = op ∧ Holds g ∧ g.x = x := by
  rintro ⟨g, hg, e⟩
  rcases List.mem_cons.1 hg with q | q
  · subst q; exact absurd e hk
  · exact ⟨g, by simp [q], e⟩

/-- A step that changes no cell, and takes no place. -/
theorem Many.same (h : Many c m V H (f :: r)) (ok : FOk c m V H f') (d : ∀ g ∈ r, Diff f g → Diff f' g) (e1 : eGave f' = eGave f) (e2 : qGot V f' = qGot V f) (hk : Holds f → Holds f' ∧ f'.op = f.op ∧ f'.x = f.x) : Many c m V H (f' :: r) where
  inj := h.inj
  head := h.head
  tail := h.tail
  lo := h.lo
  le := h.le
  room := h.room
  few := h.few
  slot := h.slot
  ok := fun g hg => (List.mem_cons.1 hg).elim (fun e => e ▸ ok) (fun e => h.ok g (by simp [e]))
  diff := by
    have := List.pairwise_cons.1 h.diff
    exact List.pairwise_cons.2 ⟨fun g hg => d g hg (this.1 g hg), this.2⟩
  gave := by have := h.gave; rw [List.filterMap_cons] at this ⊢; rw [e1]; exact this
  got := by have := h.got; rw [List.filterMap_cons] at this ⊢; rw [e2]; exact this
  heldE := fun x h0 h1 h2 => held_cons hk (h.heldE x h0 h1 h2)
  heldQ := fun x h0 h1 h2 => held_cons hk (h.heldQ x h0 h1 h2)

theorem Many.size (h : Many c m V H (f :: r)) : (V.length : Int) ≤ 1000 := by
  have h1 := h.gave.length_eq
  have h2 := List.length_filterMap_le eGave (f :: r)
  have := h.few
  omega
theorem Many.pos (h : Many c m V H (f :: r)) : 1 ≤ c.i ∧ c.i ≤ 16 ∧ 0 ≤ H ∧ H ≤ 1000 := by
  have := h.size; have := h.le; exact ⟨h.inj.ipos.1, h.inj.ipos.2, h.lo, by omega⟩

theorem Inj.seq' (h : Inj c m) {x : Int} (h0 : 0 ≤ x) (h1 : x ≤ 2000) : eSeq c x = 6 + x % c.i ∧ eVal c x = 6 + c.i + x % c.i ∧ eFree c x = 2 * (x / c.i) ∧ qFull c x = 2 * (x / c.i) + 1 :=
  ⟨h.seq (by unfold InU; omega), h.val (by unfold InU; omega), small_free h.ipos.1 (by omega) (by omega), small_full h.ipos.1 (by omega) (by omega)⟩

/-- One has put in: it takes the last place. -/
theorem Many.claim (h : Many c m V H (f :: r)) (hop : f.op = 3) (hr : f.res = 0) (hp : f.pc = 2) (hx : f.x = V.length) (hf : f'.op = 3 ∧ f'.res = 0 ∧ f'.pc = 3 ∧ f'.x = f.x ∧ f'.val = f.val) :
    Many c (mStore m 5 (wrapU (f.x + 1))) (V ++ [f.val]) H (f' :: r) := by
  obtain ⟨p1, p2, p3, p4⟩ := h.pos
  have hsz := h.size
  have hin := h.inj.size
  obtain ⟨f1, f2, f3, f4, f5⟩ := hf
  obtain ⟨a1, a2, a3, a4, a5, a6⟩ := (h.ok f (by simp)).e hop hr
  have a4 := a4 hp
  have hs : ∀ x, sq c (mStore m 5 (wrapU (f.x + 1))) x = sq c m x := fun x => load_other (by have := h.inj.mod x; omega) _
  have hv : ∀ x, vl c (mStore m 5 (wrapU (f.x + 1))) x = vl c m x := fun x => load_other (by have := h.inj.mod x; omega) _
  have hV : ∀ x : Nat, x < V.length → (V ++ [f.val]).getD x 0 = V.getD x 0 := fun x hx => getD_app V _ hx
  have hsl : sq c m f.x = 2 * (f.x / c.i) ∧ f.x < H + c.i := by
    obtain ⟨x, e, ⟨g1, g2, g3⟩ | ⟨g0, g1, g2, g3, g4⟩⟩ := h.slot f.x
    · have : f.x ≤ x := ge_of_div p1 e (by omega)
      have hle := h.le
      have := near p1 e this (by omega)
      subst this
      exact ⟨g3, g2⟩
    · have : f.x ≤ x := ge_of_div p1 e (by omega)
      omega
  have hok : ∀ g ∈ r, FOk c (mStore m 5 (wrapU (f.x + 1))) (V ++ [f.val]) H g := fun g hg => (h.ok g (by simp [hg])).mono hs hv (by simp) hV h.le (Int.le_refl _)
  refine ⟨h.inj.store _ _, ?_, ?_, h.lo, ?_, ?_, h.few, fun s => ?_, fun g hg => ?_, ?_, ?_, ?_, fun x x0 x1 x2 => ?_, fun x x0 x1 x2 => ?_⟩
  · rw [load_other (by omega)]; exact h.head
  · rw [load_store h.inj.in_tail, wrapU_eq, hx]; simp; omega
  · have := h.le; simp; omega
  · simp; omega
  · obtain ⟨x, e, ⟨g1, g2, g3⟩ | ⟨g0, g1, g2, g3, g4⟩⟩ := h.slot s
    · exact ⟨x, e, .inl ⟨g1, g2, by rw [hs]; exact g3⟩⟩
    · refine ⟨x, e, .inr ⟨g0, ?_, by simp; omega, by rw [hs]; exact g3, by rw [hv, hV _ (by omega)]; exact g4⟩⟩
      by_cases q : x = V.length - c.i
      · exfalso
        have e1 : (x + c.i) % c.i = x % c.i := by simp
        have : sq c m f.x = sq c m s := by unfold sq; rw [← e, ← e1, hx, q]; congr 3; omega
        omega
      · simp; omega
  · rcases List.mem_cons.1 hg with e | e
    · subst e
      refine ⟨fun _ _ => ?_, fun q => by omega⟩
      rw [f3, f4, f5]
      refine ⟨by omega, by omega, fun q => by omega, fun q => by omega, fun _ => ⟨by omega, by simp; omega, by rw [hs]; exact hsl.1, ?_⟩, fun q => by omega⟩
      rw [hx, show ((V.length : Int)).toNat = V.length by omega]; exact getD_last V _
    · exact hok g e
  · have := List.pairwise_cons.1 h.diff
    refine List.pairwise_cons.2 ⟨fun g hg q1 q2 q3 e => ?_, this.2⟩
    have hg3 : g.op = 3 := by omega
    have := ((h.ok g (by simp [hg])).e hg3 q3.1).2.2.2.2.1 q3.2
    omega
  · have := h.gave
    have n1 : eGave f = none := by unfold eGave Holds; rw [if_neg (by omega)]
    have n2 : eGave f' = some f.val := by unfold eGave Holds; rw [if_pos ⟨f1, .inr ⟨f2, .inl f3⟩⟩, f5]
    rw [List.filterMap_cons, n1] at this
    rw [List.filterMap_cons, n2]
    exact (this.cons _).trans (List.perm_append_singleton _ _).symm
  · have := h.got
    have n1 : qGot V f = none := by unfold qGot; rw [if_neg (by omega), if_neg (by omega)]
    have n2 : qGot (V ++ [f.val]) f' = none := by unfold qGot; rw [if_neg (by omega), if_neg (by omega)]
    rw [List.filterMap_cons, n1] at this
    rw [List.filterMap_cons, n2, List.take_append_of_le_length (by have := h.le; omega)]
    dsimp only at this ⊢
    rw [got_mono (fun g hg => h.ok g (by simp [hg])) h.le hV]
    exact this
  · rw [hs] at x2
    by_cases q : x = V.length
    · exact ⟨f', by simp, f1, ⟨f2, .inl f3⟩, by rw [f4, hx, q]⟩
    · exact held_not (fun k => by have := k.2.1.2; omega) (h.heldE x x0 (by simp at x1; omega) x2)
  · rw [hs] at x2
    exact held_not (fun k => by have := k.2.1.2; omega) (h.heldQ x x0 x1 x2)

/-- One takes out: it takes the first place. -/
theorem Many.take (h : Many c m V H (f :: r)) (hop : f.op = 4) (hr : f.res = 0) (hp : f.pc = 2) (hx : f.x = H) (hf : f'.op = 4 ∧ f'.res = 0 ∧ f'.pc = 3 ∧ f'.x = f.x) :
    Many c (mStore m 4 (wrapU (f.x + 1))) V (H + 1) (f' :: r) := by
  obtain ⟨p1, p2, p3, p4⟩ := h.pos
  have hsz := h.size
  have hin := h.inj.size
  have hle := h.le
  have hrm := h.room
  obtain ⟨f1, f2, f3, f4⟩ := hf
  obtain ⟨a1, a2, a3, a4, a5, a6⟩ := (h.ok f (by simp)).q hop hr
  have a4 := a4 hp
  have hs : ∀ x, sq c (mStore m 4 (wrapU (f.x + 1))) x = sq c m x := fun x => load_other (by have := h.inj.mod x; omega) _
  have hv : ∀ x, vl c (mStore m 4 (wrapU (f.x + 1))) x = vl c m x := fun x => load_other (by have := h.inj.mod x; omega) _
  have hsl : sq c m f.x = 2 * (f.x / c.i) + 1 ∧ f.x < V.length := by
    obtain ⟨x, e, ⟨g1, g2, g3⟩ | ⟨g0, g1, g2, g3, g4⟩⟩ := h.slot f.x
    · have : f.x = x := (near p1 e (by omega) (by omega)).symm
      subst this; omega
    · have : f.x ≤ x := ge_of_div p1 e (by omega)
      have := near p1 e this (by omega)
      subst this
      exact ⟨g3, g2⟩
  have hok : ∀ g ∈ r, FOk c (mStore m 4 (wrapU (f.x + 1))) V (H + 1) g := fun g hg => (h.ok g (by simp [hg])).mono hs hv (Nat.le_refl _) (fun _ _ => rfl) h.le (by omega)
  refine ⟨h.inj.store _ _, ?_, ?_, by omega, by omega, by omega, h.few, fun s => ?_, fun g hg => ?_, ?_, ?_, ?_, fun x x0 x1 x2 => ?_, fun x x0 x1 x2 => ?_⟩
  · rw [load_store h.inj.in_head, wrapU_eq, hx]; omega
  · rw [load_other (by omega)]; exact h.tail
  · obtain ⟨x, e, ⟨g1, g2, g3⟩ | ⟨g0, g1, g2, g3, g4⟩⟩ := h.slot s
    · refine ⟨x, e, .inl ⟨?_, by omega, by rw [hs]; exact g3⟩⟩
      by_cases q : x = H
      · exfalso
        have : sq c m f.x = sq c m s := by unfold sq; rw [← e, hx, q]
        omega
      · omega
    · exact ⟨x, e, .inr ⟨g0, g1, g2, by rw [hs]; exact g3, by rw [hv]; exact g4⟩⟩
  · rcases List.mem_cons.1 hg with e | e
    · subst e
      refine ⟨fun q => by omega, fun _ _ => ?_⟩
      rw [f3, f4]
      exact ⟨by omega, by omega, fun q => by omega, fun q => by omega, fun _ => ⟨by omega, by omega, by rw [hs]; exact hsl.1⟩, fun q => by omega⟩
    · exact hok g e
  · have := List.pairwise_cons.1 h.diff
    refine List.pairwise_cons.2 ⟨fun g hg q1 q2 q3 e => ?_, this.2⟩
    have hg3 : g.op = 4 := by omega
    have := ((h.ok g (by simp [hg])).q hg3 q3.1).2.2.2.2.1 q3.2
    omega
  · have := h.gave
    have n1 : eGave f = none := by unfold eGave; rw [if_neg (by omega)]
    have n2 : eGave f' = none := by unfold eGave; rw [if_neg (by omega)]
    rw [List.filterMap_cons, n1] at this
    rw [List.filterMap_cons, n2]
    exact this
  · have := h.got
    have n1 : qGot V f = none := by unfold qGot Holds; rw [if_neg (by omega), if_neg (by omega)]
    have n2 : qGot V f' = some (V.getD H.toNat 0) := by unfold qGot Holds; rw [if_neg (by omega), if_pos ⟨f1, f2, .inl f3⟩, f4, hx]
    rw [List.filterMap_cons, n1] at this
    rw [List.filterMap_cons, n2]
    have hh : H.toNat < V.length := by omega
    rw [show (H + 1).toNat = H.toNat + 1 by omega, List.take_succ_eq_append_getElem hh]
    have hg : V.getD H.toNat 0 = V[H.toNat] := by simp [List.getD_eq_getElem?_getD, hh]
    rw [← hg]
    exact (this.cons _).trans (List.perm_append_singleton _ _).symm
  · rw [hs] at x2
    exact held_not (fun k => by have := k.2.1.2; omega) (h.heldE x x0 x1 x2)
  · rw [hs] at x2
    by_cases q : x = H
    · exact ⟨f', by simp, f1, ⟨f2, .inl f3⟩, by rw [f4, hx, q]⟩
    · exact held_not (fun k => by have := k.2.1.2; omega) (h.heldQ x x0 (by omega) x2)

/-- One writes what it puts in. -/
theorem Many.write (h : Many c m V H (f :: r)) (hop : f.op = 3) (hr : f.res = 0) (hp : f.pc = 3) (hf : f'.op = 3 ∧ f'.res = 0 ∧ f'.pc = 4 ∧ f'.x = f.x ∧ f'.val = f.val) :
    Many c (mStore m (6 + c.i + f.x % c.i) f.val) V H (f' :: r) := by
  obtain ⟨p1, p2, p3, p4⟩ := h.pos
  have hsz := h.size
  have hin := h.inj.size
  have hmx := h.inj.mod f.x
  obtain ⟨f1, f2, f3, f4, f5⟩ := hf
  obtain ⟨a1, a2, a3, a4, a5, a6⟩ := (h.ok f (by simp)).e hop hr
  obtain ⟨b1, b2, b3, b4⟩ := a5 (.inl hp)
  have hd := List.pairwise_cons.1 h.diff
  have hs : ∀ x, sq c (mStore m (6 + c.i + f.x % c.i) f.val) x = sq c m x := fun x => load_other (by have := h.inj.mod x; omega) _
  have hv : ∀ x, x % c.i ≠ f.x % c.i → vl c (mStore m (6 + c.i + f.x % c.i) f.val) x = vl c m x := fun x hx => load_other (by have := h.inj.mod x; omega) _
  have hw : vl c (mStore m (6 + c.i + f.x % c.i) f.val) f.x = f.val := load_store (by simp [isIn]; omega) _
  refine ⟨h.inj.store _ _, ?_, ?_, h.lo, h.le, h.room, h.few, fun s => ?_, fun g hg => ?_, ?_, ?_, ?_, fun x x0 x1 x2 => ?_, fun x x0 x1 x2 => ?_⟩
  · rw [load_other (by omega)]; exact h.head
  · rw [load_other (by omega)]; exact h.tail
  · obtain ⟨x, e, ⟨g1, g2, g3⟩ | ⟨g0, g1, g2, g3, g4⟩⟩ := h.slot s
    · exact ⟨x, e, .inl ⟨g1, g2, by rw [hs]; exact g3⟩⟩
    · refine ⟨x, e, .inr ⟨g0, g1, g2, by rw [hs]; exact g3, ?_⟩⟩
      rw [hv, g4]
      intro q
      have : sq c m s = sq c m f.x := by unfold sq; rw [q]
      omega
  · rcases List.mem_cons.1 hg with e | e
    · subst e
      refine ⟨fun _ _ => ?_, fun q => by omega⟩
      rw [f3, f4, f5, hs, hw]
      exact ⟨by omega, by omega, fun q => by omega, fun q => by omega, fun _ => ⟨b1, b2, b3, b4⟩, fun _ => rfl⟩
    · have hg' := h.ok g (by simp [e])
      refine ⟨fun k1 k2 => ?_, fun k1 k2 => ?_⟩
      · obtain ⟨c1, c2, c3, c4, c5, c6⟩ := hg'.e k1 k2
        refine ⟨c1, c2, c3, fun q => by rw [hs]; exact c4 q, fun q => by rw [hs]; exact c5 q, fun q => ?_⟩
        rw [hv, c6 q]
        intro q2
        have d1 := (c5 (.inr q)).2.2.1
        have d2 : sq c m g.x = sq c m f.x := by unfold sq; rw [q2]
        have d3 := same_x q2 (by omega)
        exact hd.1 g e (.inl ⟨hop, k1⟩) ⟨hr, .inl hp⟩ ⟨k2, .inr q⟩ d3.symm
      · obtain ⟨c1, c2, c3, c4, c5, c6⟩ := hg'.q k1 k2
        exact ⟨c1, c2, c3, fun q => by rw [hs]; exact c4 q, fun q => by rw [hs]; exact c5 q, c6⟩
  · refine List.pairwise_cons.2 ⟨fun g hg q1 q2 q3 e => ?_, hd.2⟩
    exact hd.1 g hg (by omega) ⟨hr, .inl hp⟩ q3 (by rw [← f4]; exact e)
  · have := h.gave
    have n : eGave f' = eGave f := by unfold eGave Holds; rw [if_pos (by omega), if_pos (by omega), f5]
    rw [List.filterMap_cons] at this ⊢
    rw [n]; exact this
  · have := h.got
    have n : qGot V f' = qGot V f := by unfold qGot; rw [if_neg (by omega), if_neg (by omega), if_neg (by omega), if_neg (by omega)]
    rw [List.filterMap_cons] at this ⊢
    rw [n]; exact this
  · rw [hs] at x2
    exact held_cons (fun _ => ⟨⟨f2, .inr f3⟩, by omega, f4⟩) (h.heldE x x0 x1 x2)
  · rw [hs] at x2
    exact held_not (fun k => by omega) (h.heldQ x x0 x1 x2)

/-- One has put in, and is over. -/
theorem Many.put (h : Many c m V H (f :: r)) (hop : f.op = 3) (hr : f.res = 0) (hp : f.pc = 4) (hf : f'.op = 3 ∧ f'.res = 1 ∧ f'.val = f.val) :
    Many c (mStore m (6 + f.x % c.i) (2 * (f.x / c.i) + 1)) V H (f' :: r) := by
  obtain ⟨p1, p2, p3, p4⟩ := h.pos
  have hsz := h.size
  have hin := h.inj.size
  have hrm := h.room
  have hmx := h.inj.mod f.x
  obtain ⟨f1, f2, f3⟩ := hf
  obtain ⟨a1, a2, a3, a4, a5, a6⟩ := (h.ok f (by simp)).e hop hr
  obtain ⟨b1, b2, b3, b4⟩ := a5 (.inr hp)
  have a6 := a6 hp
  have hd := List.pairwise_cons.1 h.diff
  have hv : ∀ x, vl c (mStore m (6 + f.x % c.i) (2 * (f.x / c.i) + 1)) x = vl c m x := fun x => load_other (by have := h.inj.mod x; omega) _
  have hs : ∀ x, x % c.i ≠ f.x % c.i → sq c (mStore m (6 + f.x % c.i) (2 * (f.x / c.i) + 1)) x = sq c m x := fun x hx => load_other (by have := h.inj.mod x; omega) _
  have hw : ∀ x, x % c.i = f.x % c.i → sq c (mStore m (6 + f.x % c.i) (2 * (f.x / c.i) + 1)) x = 2 * (f.x / c.i) + 1 := fun x hx => by unfold sq; rw [hx]; exact load_store (by simp [isIn]; omega) _
  have hq : ∀ x, x % c.i = f.x % c.i → sq c m x = 2 * (f.x / c.i) := fun x hx => by rw [← b3]; unfold sq; rw [hx]
  refine ⟨h.inj.store _ _, ?_, ?_, h.lo, h.le, h.room, h.few, fun s => ?_, fun g hg => ?_, ?_, ?_, ?_, fun x x0 x1 x2 => ?_, fun x x0 x1 x2 => ?_⟩
  · rw [load_other (by omega)]; exact h.head
  · rw [load_other (by omega)]; exact h.tail
  · obtain ⟨x, e, o⟩ := h.slot s
    by_cases q : s % c.i = f.x % c.i
    · have hqs := hq s q
      refine ⟨f.x, q.symm, .inr ⟨b1, ?_, b2, hw s q, ?_⟩⟩
      · rcases o with ⟨g1, g2, g3⟩ | ⟨g0, g1, g2, g3, g4⟩
        · have := same_x (e.trans q) (by omega)
          omega
        · omega
      · rw [hv, b4, ← a6]; unfold vl; rw [q]
    · refine ⟨x, e, ?_⟩
      rw [hs s q, hv]; exact o
  · rcases List.mem_cons.1 hg with e | e
    · subst e
      exact ⟨fun _ q => by omega, fun q => by omega⟩
    · have hg' := h.ok g (by simp [e])
      refine ⟨fun k1 k2 => ?_, fun k1 k2 => ?_⟩
      · obtain ⟨c1, c2, c3, c4, c5, c6⟩ := hg'.e k1 k2
        refine ⟨c1, c2, c3, fun q => ?_, fun q => ?_, fun q => by rw [hv]; exact c6 q⟩
        · have := c4 q
          by_cases q2 : g.x % c.i = f.x % c.i
          · rw [hw _ q2]; rw [hq _ q2] at this; omega
          · rw [hs _ q2]; exact this
        · by_cases q2 : g.x % c.i = f.x % c.i
          · exfalso
            have d1 := (c5 q).2.2.1
            rw [hq _ q2] at d1
            have d3 := same_x q2 (by omega)
            exact hd.1 g e (.inl ⟨hop, k1⟩) ⟨hr, .inr hp⟩ ⟨k2, q⟩ d3.symm
          · rw [hs _ q2]; exact c5 q
      · obtain ⟨c1, c2, c3, c4, c5, c6⟩ := hg'.q k1 k2
        refine ⟨c1, c2, c3, fun q => ?_, fun q => ?_, c6⟩
        · have := c4 q
          by_cases q2 : g.x % c.i = f.x % c.i
          · rw [hw _ q2]; rw [hq _ q2] at this; omega
          · rw [hs _ q2]; exact this
        · have := c5 q
          by_cases q2 : g.x % c.i = f.x % c.i
          · rw [hq _ q2] at this; omega
          · rw [hs _ q2]; exact this
  · refine List.pairwise_cons.2 ⟨fun g hg q1 q2 q3 e => ?_, hd.2⟩
    have := q2.1
    omega
  · have := h.gave
    have n : eGave f' = eGave f := by unfold eGave Holds; rw [if_pos (by omega), if_pos (by omega), f3]
    rw [List.filterMap_cons] at this ⊢
    rw [n]; exact this
  · have := h.got
    have n : qGot V f' = qGot V f := by unfold qGot; rw [if_neg (by omega), if_neg (by omega), if_neg (by omega), if_neg (by omega)]
    rw [List.filterMap_cons] at this ⊢
    rw [n]; exact this
  · by_cases q : x % c.i = f.x % c.i
    · rw [hw x q] at x2; omega
    · rw [hs x q] at x2
      exact held_not (fun k => q (by rw [k.2.2])) (h.heldE x x0 x1 x2)
  · by_cases q : x % c.i = f.x % c.i
    · rw [hw x q] at x2
      exfalso
      have := same_x q (by omega)
      obtain ⟨y, e, ⟨g1, g2, g3⟩ | ⟨g0, g1, g2, g3, g4⟩⟩ := h.slot f.x
      · have := same_x e (by omega); omega
      · omega
    · rw [hs x q] at x2
      exact held_not (fun k => by omega) (h.heldQ x x0 x1 x2)

/-- One has taken out, and is over. -/
theorem Many.gone (h : Many c m V H (f :: r)) (hop : f.op = 4) (hr : f.res = 0) (hp : f.pc = 4) (hf : f'.op = 4 ∧ f'.res = 1 ∧ f'.val = f.val) :
    Many c (mStore m (6 + f.x % c.i) (2 * (f.x / c.i) + 2)) V H (f' :: r) := by
  obtain ⟨p1, p2, p3, p4⟩ := h.pos
  have hsz := h.size
  have hin := h.inj.size
  have hrm := h.room
  have hle := h.le
  have hmx := h.inj.mod f.x
  obtain ⟨f1, f2, f3⟩ := hf
  obtain ⟨a1, a2, a3, a4, a5, a6⟩ := (h.ok f (by simp)).q hop hr
  obtain ⟨b1, b2, b3⟩ := a5 (.inr hp)
  have a6 := a6 hp
  have hd := List.pairwise_cons.1 h.diff
  have hv : ∀ x, vl c (mStore m (6 + f.x % c.i) (2 * (f.x / c.i) + 2)) x = vl c m x := fun x => load_other (by have := h.inj.mod x; omega) _
  have hs : ∀ x, x % c.i ≠ f.x % c.i → sq c (mStore m (6 + f.x % c.i) (2 * (f.x / c.i) + 2)) x = sq c m x := fun x hx => load_other (by have := h.inj.mod x; omega) _
  have hw : ∀ x, x % c.i = f.x % c.i → sq c (mStore m (6 + f.x % c.i) (2 * (f.x / c.i) + 2)) x = 2 * (f.x / c.i) + 2 := fun x hx => by unfold sq; rw [hx]; exact load_store (by simp [isIn]; omega) _
  have hq : ∀ x, x % c.i = f.x % c.i → sq c m x = 2 * (f.x / c.i) + 1 := fun x hx => by rw [← b3]; unfold sq; rw [hx]
  refine ⟨h.inj.store _ _, ?_, ?_, h.lo, h.le, h.room, h.few, fun s => ?_, fun g hg => ?_, ?_, ?_, ?_, fun x x0 x1 x2 => ?_, fun x x0 x1 x2 => ?_⟩
  · rw [load_other (by omega)]; exact h.head
  · rw [load_other (by omega)]; exact h.tail
  · obtain ⟨x, e, o⟩ := h.slot s
    by_cases q : s % c.i = f.x % c.i
    · have hqs := hq s q
      obtain ⟨n1, n2⟩ := slot_next (h := f.x) p1
      refine ⟨f.x + c.i, by rw [n1]; exact q.symm, .inl ⟨?_, by omega, by rw [hw s q, n2]; omega⟩⟩
      rcases o with ⟨g1, g2, g3⟩ | ⟨g0, g1, g2, g3, g4⟩
      · omega
      · have := same_x (e.trans q) (by omega)
        omega
    · refine ⟨x, e, ?_⟩
      rw [hs s q, hv]; exact o
  · rcases List.mem_cons.1 hg with e | e
    · subst e
      exact ⟨fun q => by omega, fun _ q => by omega⟩
    · have hg' := h.ok g (by simp [e])
      refine ⟨fun k1 k2 => ?_, fun k1 k2 => ?_⟩
      · obtain ⟨c1, c2, c3, c4, c5, c6⟩ := hg'.e k1 k2
        refine ⟨c1, c2, c3, fun q => ?_, fun q => ?_, fun q => by rw [hv]; exact c6 q⟩
        · have := c4 q
          by_cases q2 : g.x % c.i = f.x % c.i
          · rw [hw _ q2]; rw [hq _ q2] at this; omega
          · rw [hs _ q2]; exact this
        · have := c5 q
          by_cases q2 : g.x % c.i = f.x % c.i
          · rw [hq _ q2] at this; omega
          · rw [hs _ q2]; exact this
      · obtain ⟨c1, c2, c3, c4, c5, c6⟩ := hg'.q k1 k2
        refine ⟨c1, c2, c3, fun q => ?_, fun q => ?_, c6⟩
        · have := c4 q
          by_cases q2 : g.x % c.i = f.x % c.i
          · rw [hw _ q2]; rw [hq _ q2] at this; omega
          · rw [hs _ q2]; exact this
        · by_cases q2 : g.x % c.i = f.x % c.i
          · exfalso
            have d1 := (c5 q).2.2
            rw [hq _ q2] at d1
            have d3 := same_x q2 (by omega)
            exact hd.1 g e (.inr ⟨hop, k1⟩) ⟨hr, .inr hp⟩ ⟨k2, q⟩ d3.symm
          · rw [hs _ q2]; exact c5 q
  · refine List.pairwise_cons.2 ⟨fun g hg q1 q2 q3 e => ?_, hd.2⟩
    have := q2.1
    omega
  · have := h.gave
    have n : eGave f' = eGave f := by unfold eGave; rw [if_neg (by omega), if_neg (by omega)]
    rw [List.filterMap_cons] at this ⊢
    rw [n]; exact this
  · have := h.got
    have n : qGot V f' = qGot V f := by unfold qGot Holds; rw [if_pos (by omega), if_neg (by omega), if_pos (by omega), f3, a6]
    rw [List.filterMap_cons] at this ⊢
    rw [n]; exact this
  · by_cases q : x % c.i = f.x % c.i
    · rw [hw x q] at x2
      exfalso
      obtain ⟨n1, n2⟩ := slot_next (h := f.x) p1
      have := same_x (x := x) (y := f.x + c.i) (by rw [n1]; exact q) (by rw [n2]; omega)
      obtain ⟨y, e, ⟨g1, g2, g3⟩ | ⟨g0, g1, g2, g3, g4⟩⟩ := h.slot f.x
      · omega
      · have := same_x e (by omega); omega
    · rw [hs x q] at x2
      exact held_not (fun k => by omega) (h.heldE x x0 x1 x2)
  · by_cases q : x % c.i = f.x % c.i
    · rw [hw x q] at x2; omega
    · rw [hs x q] at x2
      exact held_not (fun k => q (by rw [k.2.2])) (h.heldQ x x0 x1 x2)
end
end Go.Vai
/- Many at the injector at once: a step of one of them, and how soon one ends that is alone. -/
namespace Go.Vai
open Go.RowKit
set_option linter.unusedVariables false
set_option linter.unusedSimpArgs false

structure Moved (V : List Int) (H : Int) (V' : List Int) (H' : Int) (f f' : Fr) : Prop where
  op : f'.op = f.op
  who : f'.who = f.who
  val : f.op = 3 → f'.val = f.val
  v : V' = V ∨ (V' = V ++ [f.val] ∧ f.op = 3 ∧ eGave f = none ∧ eGave f' = some f.val)
  keep : eGave f ≠ none → eGave f' ≠ none
  h : (H' = H ∧ (f'.op = 4 → Holds f' → Holds f ∧ f'.x = f.x)) ∨ (H' = H + 1 ∧ f'.res = 0 ∧ f'.x = H)
  got : f.op = 4 → f.res = 0 → f'.res = 1 → Holds f ∧ 0 ≤ f.x ∧ f.x < H ∧ f'.val = V.getD f.x.toNat 0
  over : f.res ≠ 0 → f' = f
  gave : f.op = 3 → f.res = 0 → f'.res = 1 → Holds f

theorem Moved.refl (V : List Int) (H : Int) (f : Fr) : Moved V H V H f f where
  op := rfl
  who := rfl
  val := fun _ => rfl
  v := .inl rfl
  keep := id
  h := .inl ⟨rfl, fun _ h => ⟨h, rfl⟩⟩
  got := fun _ h1 h2 => by omega
  over := fun _ => rfl
  gave := fun _ h1 h2 => by omega

/-- How many steps one has left that is alone. -/
def rank (m : List Int) (f : Fr) : Nat :=
  if f.res ≠ 0 then 0 else
  let e := if f.op = 3 then 5 else 4
  if f.pc = 4 then 1 else if f.pc = 3 then 2 else if f.pc = 2 then (if mLoad m e = f.x then 3 else 6) else if f.pc = 1 then (if mLoad m e = f.x then 4 else 7) else 5
theorem rank_le (m : List Int) (f : Fr) : rank m f ≤ 7 := by
  unfold rank; dsimp only; repeat' split
  all_goals omega

section
variable {c : Cf} {m V : List Int} {H : Int} {f f' : Fr} {r : List Fr}

theorem Many.sq_range (h : Many c m V H (f :: r)) (x : Int) : 0 ≤ sq c m x ∧ sq c m x ≤ 4002 := by
  obtain ⟨p1, p2, p3, p4⟩ := h.pos
  have hsz := h.size
  obtain ⟨y, e, ⟨g1, g2, g3⟩ | ⟨g0, g1, g2, g3, g4⟩⟩ := h.slot x
  · have a1 : 0 ≤ y / c.i := Int.ediv_nonneg (by omega) (by omega)
    have a2 : y / c.i ≤ y := Int.ediv_le_self _ (by omega)
    omega
  · have a1 : 0 ≤ y / c.i := Int.ediv_nonneg (by omega) (by omega)
    have a2 : y / c.i ≤ y := Int.ediv_le_self _ (by omega)
    omega
theorem Many.sq_tail (h : Many c m V H (f :: r)) : sq c m V.length ≤ 2 * ((V.length : Int) / c.i) := by
  obtain ⟨p1, p2, p3, p4⟩ := h.pos
  have hle := h.le
  obtain ⟨y, e, ⟨g1, g2, g3⟩ | ⟨g0, g1, g2, g3, g4⟩⟩ := h.slot V.length
  · by_cases q : y ≤ V.length
    · have := div_le p1 q; omega
    · have := near p1 e (by omega) (by omega); omega
  · have a := near p1 (x := V.length) (y := y) e.symm (by omega)
    by_cases q : y / c.i < (V.length : Int) / c.i
    · omega
    · have := ge_of_div p1 e (by omega); omega
theorem Many.sq_head (h : Many c m V H (f :: r)) : sq c m H ≤ 2 * (H / c.i) + 1 := by
  obtain ⟨p1, p2, p3, p4⟩ := h.pos
  have hle := h.le
  have hrm := h.room
  obtain ⟨y, e, ⟨g1, g2, g3⟩ | ⟨g0, g1, g2, g3, g4⟩⟩ := h.slot H
  · have := near p1 e g1 g2
    subst this; omega
  · by_cases q : y ≤ H
    · have := div_le p1 q; omega
    · have := near p1 e (by omega) (by omega); omega

theorem Many.stepE (h : Many c m V H (f :: r)) (hop : f.op = 3) (hr : f.res = 0) :
    ∃ V' H', Many c (eStep c m f).1 V' H' ((eStep c m f).2 :: r) ∧ Moved V H V' H' f (eStep c m f).2 ∧ rank (eStep c m f).1 (eStep c m f).2 < rank m f := by
  obtain ⟨p1, p2, p3, p4⟩ := h.pos
  have hsz := h.size
  obtain ⟨op, pc, w, v, x, y, res⟩ := f
  simp only at hop hr
  subst hop hr
  obtain ⟨a1, a2, a3, a4, a5, a6⟩ := (h.ok _ (List.mem_cons_self ..)).e rfl rfl
  dsimp only at a1 a2 a3 a4 a5 a6
  have hpc : pc = 0 ∨ pc = 1 ∨ pc = 2 ∨ pc = 3 ∨ pc = 4 := by omega
  rcases hpc with e | e | e | e | e <;> subst e
  · rw [enq_1 h.inj, h.tail]
    refine ⟨V, H, h.same ⟨fun _ _ => ?_, fun q => by simp at q⟩ (fun g hg _ q1 q2 => by simp [Holds] at q2) (by simp [eGave, Holds]) (by simp [qGot, Holds]) (fun q => by simp [Holds] at q), ?_, ?_⟩
    · dsimp only
      exact ⟨by omega, by omega, fun _ => ⟨by omega, by omega⟩, fun q => by omega, fun q => by omega, fun q => by omega⟩
    · constructor <;> simp [eGave, Holds]
    · simp [rank, h.tail]
  · obtain ⟨b1, b2⟩ := a3 (.inl rfl)
    obtain ⟨s1, s2, s3, s4⟩ := h.inj.seq' b1 (by omega)
    have hsr := h.sq_range x
    have es : mLoad m (eSeq c x) = sq c m x := by rw [s1]; rfl
    have d1 : 0 ≤ x / c.i := Int.ediv_nonneg (by omega) (by omega)
    have d2 : x / c.i ≤ x := Int.ediv_le_self _ (by omega)
    have hf : far (mLoad m (eSeq c x)) (eFree c x) = sq c m x - 2 * (x / c.i) := by rw [es, s3]; exact small_far (by omega) (by omega) (by omega) (by omega)
    by_cases q1 : sq c m x = 2 * (x / c.i)
    · rw [enq_2 h.inj (by rw [es, s3]; exact q1)]
      refine ⟨V, H, h.same ⟨fun _ _ => ?_, fun q => by simp at q⟩ (fun g hg _ q1 q2 => by simp [Holds] at q2) (by simp [eGave, Holds]) (by simp [qGot, Holds]) (fun q => by simp [Holds] at q), ?_, ?_⟩
      · dsimp only
        exact ⟨by omega, by omega, fun _ => ⟨by omega, by omega⟩, fun q => by omega, fun q => by omega, fun q => by omega⟩
      · constructor <;> simp [eGave, Holds]
      · simp only [rank]; simp; split <;> omega
    · by_cases q2 : sq c m x < 2 * (x / c.i)
      · rw [enq_2f h.inj (by rw [hf]; omega) (by rw [es, s3]; exact q1)]
        refine ⟨V, H, h.same ⟨fun _ q => by simp at q, fun q => by simp at q⟩ (fun g hg _ q1 q2 => by simp [Holds] at q2) (by simp [eGave, Holds]) (by simp [qGot, Holds]) (fun q => by simp [Holds] at q), ?_, ?_⟩
        · constructor <;> simp [eGave, Holds]
        · simp [rank]; split <;> omega
      · have e3 : eStep c m ⟨3, 1, w, v, x, y, 0⟩ = (m, ⟨3, 0, w, v, x, mLoad m (eSeq c x), 0⟩) := by
          simp only [eStep, goes_e h.inj (show (0 : Int) ≤ 1 by omega) (show (1 : Int) < 5 by omega)]
          rw [hf, es, s3]
          simp [q1, show ¬ (sq c m x - 2 * (x / c.i) < 0) by omega]
        rw [e3]
        refine ⟨V, H, h.same ⟨fun _ _ => ?_, fun q => by simp at q⟩ (fun g hg _ q1 q2 => by simp [Holds] at q2) (by simp [eGave, Holds]) (by simp [qGot, Holds]) (fun q => by simp [Holds] at q), ?_, ?_⟩
        · dsimp only
          exact ⟨by omega, by omega, fun q => by omega, fun q => by omega, fun q => by omega, fun q => by omega⟩
        · constructor <;> simp [eGave, Holds]
        · simp only [rank, h.tail]
          simp
          split
          · rename_i q3
            rw [h.tail] at q3
            subst q3
            have := h.sq_tail
            omega
          · omega
  · obtain ⟨b1, b2⟩ := a3 (.inr rfl)
    have a4 := a4 rfl
    by_cases q : x = V.length
    · rw [enq_3 h.inj (by simp [mCasB, h.inj.in_tail, h.tail, q])]
      refine ⟨_, _, h.claim rfl rfl rfl q ⟨rfl, rfl, rfl, rfl, rfl⟩, ?_, ?_⟩
      · constructor <;> simp [eGave, Holds]
      · simp [rank, h.tail, q]
    · have q' : mCasB m 5 x = false := by simp [mCasB, h.tail]; intro _; omega
      rw [enq_3r h.inj q']
      refine ⟨V, H, h.same ⟨fun _ _ => ?_, fun q => by simp at q⟩ (fun g hg _ q1 q2 => by simp [Holds] at q2) (by simp [eGave, Holds]) (by simp [qGot, Holds]) (fun q => by simp [Holds] at q), ?_, ?_⟩
      · dsimp only
        exact ⟨by omega, by omega, fun q => by omega, fun q => by omega, fun q => by omega, fun q => by omega⟩
      · constructor <;> simp [eGave, Holds]
      · have : ¬ (V.length : Int) = x := fun e => q e.symm
        simp [rank, h.tail, this]
  · obtain ⟨b1, b2, b3, b4⟩ := a5 (.inl rfl)
    obtain ⟨s1, s2, s3, s4⟩ := h.inj.seq' b1 (by omega)
    rw [enq_4 h.inj, s2]
    refine ⟨_, _, h.write rfl rfl rfl ⟨rfl, rfl, rfl, rfl, rfl⟩, ?_, ?_⟩
    · constructor <;> simp [eGave, Holds]
    · simp [rank]
  · obtain ⟨b1, b2, b3, b4⟩ := a5 (.inr rfl)
    obtain ⟨s1, s2, s3, s4⟩ := h.inj.seq' b1 (by omega)
    have d1 : 0 ≤ x / c.i := Int.ediv_nonneg (by omega) (by omega)
    have d2 : x / c.i ≤ x := Int.ediv_le_self _ (by omega)
    rw [enq_5 h.inj, s1, s3, show wrapU (2 * (x / c.i) + 1) = 2 * (x / c.i) + 1 by rw [wrapU_eq]; omega]
    refine ⟨_, _, h.put rfl rfl rfl ⟨rfl, rfl, rfl⟩, ?_, ?_⟩
    · constructor <;> simp [eGave, Holds]
    · simp [rank]

theorem Many.stepQ (h : Many c m V H (f :: r)) (hop : f.op = 4) (hr : f.res = 0) :
    ∃ V' H', Many c (qStep c m f).1 V' H' ((qStep c m f).2 :: r) ∧ Moved V H V' H' f (qStep c m f).2 ∧ rank (qStep c m f).1 (qStep c m f).2 < rank m f := by
  obtain ⟨p1, p2, p3, p4⟩ := h.pos
  have hsz := h.size
  have hle := h.le
  obtain ⟨op, pc, w, v, x, y, res⟩ := f
  simp only at hop hr
  subst hop hr
  obtain ⟨a1, a2, a3, a4, a5, a6⟩ := (h.ok _ (List.mem_cons_self ..)).q rfl rfl
  dsimp only at a1 a2 a3 a4 a5 a6
  have hpc : pc = 0 ∨ pc = 1 ∨ pc = 2 ∨ pc = 3 ∨ pc = 4 := by omega
  rcases hpc with e | e | e | e | e <;> subst e
  · have e1 : qStep c m ⟨4, 0, w, v, x, y, 0⟩ = (m, ⟨4, 1, w, v, mLoad m 4, y, 0⟩) := by simp [qStep, goes_q h.inj]
    rw [e1, h.head]
    refine ⟨V, H, h.same ⟨fun q => by simp at q, fun _ _ => ?_⟩ (fun g hg _ q1 q2 => by simp [Holds] at q2) (by simp [eGave, Holds]) (by simp [qGot, Holds]) (fun q => by simp [Holds] at q), ?_, ?_⟩
    · dsimp only
      exact ⟨by omega, by omega, fun _ => ⟨by omega, by omega⟩, fun q => by omega, fun q => by omega, fun q => by omega⟩
    · constructor <;> simp [eGave, Holds]
    · simp [rank, h.head]
  · obtain ⟨b1, b2⟩ := a3 (.inl rfl)
    obtain ⟨s1, s2, s3, s4⟩ := h.inj.seq' b1 (by omega)
    have hsr := h.sq_range x
    have es : mLoad m (eSeq c x) = sq c m x := by rw [s1]; rfl
    have d1 : 0 ≤ x / c.i := Int.ediv_nonneg (by omega) (by omega)
    have d2 : x / c.i ≤ x := Int.ediv_le_self _ (by omega)
    have hf : far (mLoad m (eSeq c x)) (qFull c x) = sq c m x - (2 * (x / c.i) + 1) := by rw [es, s4]; exact small_far (by omega) (by omega) (by omega) (by omega)
    by_cases q1 : sq c m x = 2 * (x / c.i) + 1
    · rw [deq_2 h.inj (by rw [hf]; omega)]
      refine ⟨V, H, h.same ⟨fun q => by simp at q, fun _ _ => ?_⟩ (fun g hg _ q1 q2 => by simp [Holds] at q2) (by simp [eGave, Holds]) (by simp [qGot, Holds]) (fun q => by simp [Holds] at q), ?_, ?_⟩
      · dsimp only
        exact ⟨by omega, by omega, fun _ => ⟨by omega, by omega⟩, fun q => by omega, fun q => by omega, fun q => by omega⟩
      · constructor <;> simp [eGave, Holds]
      · simp only [rank]; simp; split <;> omega
    · by_cases q2 : sq c m x < 2 * (x / c.i) + 1
      · rw [deq_2e h.inj (by rw [hf]; omega)]
        refine ⟨V, H, h.same ⟨fun q => by simp at q, fun _ q => by simp at q⟩ (fun g hg _ q1 q2 => by simp [Holds] at q2) (by simp [eGave, Holds]) (by simp [qGot, Holds]) (fun q => by simp [Holds] at q), ?_, ?_⟩
        · constructor <;> simp [eGave, Holds]
        · simp [rank]; split <;> omega
      · have e3 : qStep c m ⟨4, 1, w, v, x, y, 0⟩ = (m, ⟨4, 0, w, v, x, mLoad m (eSeq c x), 0⟩) := by
          unfold qFull at hf
          simp only [qStep, goes_q h.inj (show (0 : Int) ≤ 1 by omega) (show (1 : Int) < 5 by omega)]
          rw [hf]
          simp [show ¬ (sq c m x - (2 * (x / c.i) + 1) < 0) by omega, show ¬ (sq c m x - (2 * (x / c.i) + 1) = 0) by omega]
        rw [e3]
        refine ⟨V, H, h.same ⟨fun q => by simp at q, fun _ _ => ?_⟩ (fun g hg _ q1 q2 => by simp [Holds] at q2) (by simp [eGave, Holds]) (by simp [qGot, Holds]) (fun q => by simp [Holds] at q), ?_, ?_⟩
        · dsimp only
          exact ⟨by omega, by omega, fun q => by omega, fun q => by omega, fun q => by omega, fun q => by omega⟩
        · constructor <;> simp [eGave, Holds]
        · simp only [rank, h.head]
          simp
          split
          · rename_i q3
            rw [h.head] at q3
            subst q3
            have := h.sq_head
            omega
          · omega
  · obtain ⟨b1, b2⟩ := a3 (.inr rfl)
    have a4 := a4 rfl
    by_cases q : x = H
    · rw [deq_3 h.inj (by simp [mCasB, h.inj.in_head, h.head, q])]
      refine ⟨_, _, h.take rfl rfl rfl q ⟨rfl, rfl, rfl, rfl⟩, ?_, ?_⟩
      · constructor <;> simp [eGave, Holds, q]
      · simp [rank, h.head, q]
    · have q' : mCasB m 4 x = false := by simp [mCasB, h.head]; intro _; omega
      rw [deq_3r h.inj q']
      refine ⟨V, H, h.same ⟨fun q => by simp at q, fun _ _ => ?_⟩ (fun g hg _ q1 q2 => by simp [Holds] at q2) (by simp [eGave, Holds]) (by simp [qGot, Holds]) (fun q => by simp [Holds] at q), ?_, ?_⟩
      · dsimp only
        exact ⟨by omega, by omega, fun q => by omega, fun q => by omega, fun q => by omega, fun q => by omega⟩
      · constructor <;> simp [eGave, Holds]
      · have : ¬ H = x := fun e => q e.symm
        simp [rank, h.head, this]
  · obtain ⟨b1, b2, b3⟩ := a5 (.inl rfl)
    obtain ⟨s1, s2, s3, s4⟩ := h.inj.seq' b1 (by omega)
    have ev : mLoad m (eVal c x) = V.getD x.toNat 0 := by
      rw [s2]
      obtain ⟨x0, e, ⟨g1, g2, g3⟩ | ⟨g0, g1, g2, g3, g4⟩⟩ := h.slot x
      · omega
      · have := same_x e (by omega)
        subst this
        exact g4
    rw [deq_4 h.inj, ev]
    refine ⟨V, H, h.same ⟨fun q => by simp at q, fun _ _ => ?_⟩ (fun g hg d q1 q2 q3 => d q1 ⟨rfl, .inl rfl⟩ q3) (by simp [eGave, Holds]) (by simp [qGot, Holds]) (fun _ => ⟨⟨rfl, .inr rfl⟩, rfl, rfl⟩), ?_, ?_⟩
    · dsimp only
      exact ⟨by omega, by omega, fun q => by omega, fun q => by omega, fun _ => ⟨b1, b2, b3⟩, fun _ => rfl⟩
    · constructor <;> simp [eGave, Holds]
    · simp [rank]
  · obtain ⟨b1, b2, b3⟩ := a5 (.inr rfl)
    obtain ⟨s1, s2, s3, s4⟩ := h.inj.seq' b1 (by omega)
    have d1 : 0 ≤ x / c.i := Int.ediv_nonneg (by omega) (by omega)
    have d2 : x / c.i ≤ x := Int.ediv_le_self _ (by omega)
    rw [deq_5 h.inj, s1, s4, show wrapU (2 * (x / c.i) + 1 + 1) = 2 * (x / c.i) + 2 by rw [wrapU_eq]; omega]
    refine ⟨_, _, h.gone rfl rfl rfl ⟨rfl, rfl, rfl⟩, ?_, ?_⟩
    · have := a6 rfl
      constructor <;> simp [eGave, Holds]
      exact ⟨b1, b2, this⟩
    · simp [rank]

/-- A step of one of them. -/
theorem Many.step (h : Many c m V H (f :: r)) :
    ∃ V' H', Many c (iStep c m f).1 V' H' ((iStep c m f).2 :: r) ∧ Moved V H V' H' f (iStep c m f).2 ∧ (f.op = 3 ∨ f.op = 4 → f.res = 0 → rank (iStep c m f).1 (iStep c m f).2 < rank m f) := by
  by_cases h3 : f.op = 3
  · have e : iStep c m f = eStep c m f := by simp [iStep, h3]
    rw [e]
    by_cases hr : f.res = 0
    · obtain ⟨V', H', a, b, d⟩ := h.stepE h3 hr
      exact ⟨V', H', a, b, fun _ _ => d⟩
    · rw [enq_over hr]; exact ⟨V, H, h, .refl .., fun _ q => absurd q hr⟩
  · by_cases h4 : f.op = 4
    · have e : iStep c m f = qStep c m f := by simp [iStep, h4]
      rw [e]
      by_cases hr : f.res = 0
      · obtain ⟨V', H', a, b, d⟩ := h.stepQ h4 hr
        exact ⟨V', H', a, b, fun _ _ => d⟩
      · rw [deq_over hr]; exact ⟨V, H, h, .refl .., fun _ q => absurd q hr⟩
    · have e : iStep c m f = (m, f) := by simp [iStep, h3, h4]
      rw [e]
      exact ⟨V, H, h, .refl .., fun q => by omega⟩
end
end Go.Vai
/- The calls that are over stay over. -/
namespace Go.Vai
open Go.RowKit
set_option linter.unusedVariables false
set_option linter.unusedSimpArgs false

theorem pTurn_over (st : Stp) (c : Cf) (n : Nat) (s : Pl) (i : Int) : s.over <+: (pTurn st c n s i).over := by
  unfold pTurn pRound
  dsimp only
  split
  · split
    · exact List.prefix_refl _
    · exact List.prefix_append ..
  · exact List.prefix_refl _
theorem pFold_over (st : Stp) (c : Cf) (n : Nat) : ∀ (who : List Int) (s : Pl), s.over <+: (who.foldl (pTurn st c n) s).over
  | [], s => List.prefix_refl _
  | i :: r, s => (pTurn_over st c n s i).trans (pFold_over st c n r _)

/-- With more steps behind: what was over, and others. -/
theorem play_first (room : Int) (calls : List (List Fr)) (who : List Int) (k : Nat) :
    (iPlay room calls (who.take k)).2.1 <+: (iPlay room calls who).2.1 ∧ (iPlay room calls (who.take k)).2.2.length = (iPlay room calls who).2.2.length := by
  unfold iPlay gPlay
  split
  · refine ⟨?_, ?_⟩
    · dsimp only
      unfold pAll
      have : who.foldl (pTurn iStep (injC room) calls.length) (pStart (injC room) calls) = (who.drop k).foldl (pTurn iStep (injC room) calls.length) ((who.take k).foldl (pTurn iStep (injC room) calls.length) (pStart (injC room) calls)) := by
        rw [← List.foldl_append, List.take_append_drop]
      rw [this]
      exact pFold_over ..
    · dsimp only
      unfold pAll
      rw [(len_pFold len_iStep ..).2.2.1, (len_pFold len_iStep ..).2.2.1]
  · exact ⟨List.prefix_refl _, rfl⟩
end Go.Vai
/- What always holds in a play of lists that bits tell. -/
namespace Go.Vai
open Go.RowKit
set_option linter.unusedVariables false
set_option linter.unusedSimpArgs false

def callOf (i k : Nat) (b : Bool) : Fr := if b then ⟨4, 0, 0, 0, 0, 0, 0⟩ else ⟨3, 0, 0, ((100 * (i + 1) + k : Nat) : Int), 0, 0, 0⟩
def callsL (i : Nat) (l : List Bool) : List Fr := l.mapIdx fun k b => callOf i k b
def callsP (outs : List (List Bool)) : List (List Fr) := outs.mapIdx fun i l => callsL i l
theorem len_callsL (i : Nat) (l : List Bool) : (callsL i l).length = l.length := by simp [callsL]
theorem len_callsP (l : List (List Bool)) : (callsP l).length = l.length := by simp [callsP]

/-- A turn in three: the next call, its step, and what is over is put away. -/
def plBegin (s : Pl) (i : Nat) : Pl := ⟨s.m, s.left.set i (pHand s i).2, s.hand.set i (pHand s i).1, s.over⟩
def plStep (c : Cf) (s : Pl) (i : Nat) : Pl := ⟨(iStep c s.m (s.hand.getD i noneF)).1, s.left, s.hand.set i (iStep c s.m (s.hand.getD i noneF)).2, s.over⟩
def plMove (s : Pl) (i : Nat) : Pl := if (s.hand.getD i noneF).res = 0 then s else ⟨s.m, s.left, s.hand.set i noneF, s.over ++ [s.hand.getD i noneF]⟩
theorem getD_set_self {α : Type} {l : List α} {i : Nat} (h : i < l.length) (a d : α) : (l.set i a).getD i d = a := by rw [getD_set, if_pos ⟨rfl, h⟩]
theorem getD_set_ne {α : Type} {l : List α} {i j : Nat} (h : i ≠ j) (a d : α) : (l.set i a).getD j d = l.getD j d := by rw [getD_set, if_neg (fun e => h e.1)]
theorem pTurn_split {c : Cf} {n : Nat} {s : Pl} {i : Int} (h0 : 0 ≤ i) (h1 : i < n) (hn : s.hand.length = n) : pTurn iStep c n s i = plMove (plStep c (plBegin s i.toNat) i.toNat) i.toNat := by
  have hi : i.toNat < s.hand.length := by omega
  rw [pTurn, if_pos ⟨h0, h1⟩, pRound]
  unfold plMove plStep plBegin
  dsimp only
  rw [getD_set_self hi, List.set_set, getD_set_self hi, List.set_set]

theorem perm_at (over hand : List Fr) {i : Nat} (h : i < hand.length) : (over ++ hand).Perm (hand.getD i noneF :: (over ++ hand.eraseIdx i)) := by
  have h2 : hand.getD i noneF = hand[i] := by simp [List.getD_eq_getElem?_getD, h]
  have h3 : hand = hand.take i ++ hand[i] :: hand.drop (i + 1) := by rw [← List.drop_eq_getElem_cons h, List.take_append_drop]
  have h1 : hand.Perm (hand[i] :: hand.eraseIdx i) := by
    rw [List.eraseIdx_eq_take_drop_succ]
    exact (List.Perm.of_eq h3).trans List.perm_middle
  rw [h2]
  exact (List.Perm.append_left over h1).trans List.perm_middle
theorem perm_set (over hand : List Fr) {i : Nat} (h : i < hand.length) (f : Fr) : (over ++ hand.set i f).Perm (f :: (over ++ hand.eraseIdx i)) := by
  have h1 : (hand.set i f).Perm (f :: hand.eraseIdx i) := by
    rw [List.eraseIdx_eq_take_drop_succ, List.set_eq_take_append_cons_drop, if_pos h]
    exact List.perm_middle
  exact (List.Perm.append_left over h1).trans List.perm_middle

/-- One of them. -/
structure Each (L : List Bool) (V : List Int) (H : Int) (i : Nat) (left : List Fr) (f : Fr) (over : List Fr) (g : Nat) : Prop where
  le : g ≤ L.length
  left : left = (callsL i L).drop g
  at_ : f = noneF ∨ (0 < g ∧ f.who = i ∧ (f.op = 3 ∧ L.getD (g - 1) true = false ∧ f.val = ((100 * (i + 1) + (g - 1) : Nat) : Int) ∨ f.op = 4 ∧ L.getD (g - 1) false = true))
  low : ∀ v ∈ V, v / 100 = i + 1 → v < ((100 * (i + 1) + g : Nat) : Int) ∧ (f.op = 3 → eGave f = none → v < f.val)
  ops : (over.filter fun x => x.who == (i : Int)).map (fun x => x.op == 4) = L.take (if f.op = -1 then g else g - 1)
  ord : ∃ xs : List Nat, xs.Pairwise (· < ·) ∧ (∀ x ∈ xs, (x : Int) < H) ∧ (over.filter fun x => x.who == (i : Int) && x.op == 4 && x.res == 1).map (·.val) = xs.map (fun x => V.getD x 0) ∧
    (f.op = 4 → Holds f → ∀ x ∈ xs, (x : Int) < f.x) ∧ (f.op = 4 → f.res = 1 → ∃ x : Nat, (∀ y ∈ xs, y < x) ∧ (x : Int) < H ∧ f.val = V.getD x 0)

structure GI (c : Cf) (outs : List (List Bool)) (s : Pl) (V : List Int) (H : Int) : Prop where
  many : Many c s.m V H (s.over ++ s.hand)
  hl : s.hand.length = outs.length
  ll : s.left.length = outs.length
  legit : ∀ v ∈ V, ∃ i k : Nat, i < outs.length ∧ k < (outs.getD i []).length ∧ (outs.getD i []).getD k true = false ∧ v = ((100 * (i + 1) + k : Nat) : Int)
  incr : V.Pairwise fun a b => a / 100 = b / 100 → a < b
  done : ∀ f ∈ s.over, f.res ≠ 0
  each : ∀ i, i < outs.length → ∃ g, Each (outs.getD i []) V H i (s.left.getD i []) (s.hand.getD i noneF) s.over g

section
variable {c : Cf} {outs : List (List Bool)} {s : Pl} {V : List Int} {H : Int}

theorem drop_callsL {i g : Nat} {L : List Bool} (h : g < L.length) : (callsL i L).drop g = callOf i g (L.getD g false) :: (callsL i L).drop (g + 1) := by
  rw [List.drop_eq_getElem_cons (by rw [len_callsL]; exact h)]
  simp [callsL, List.getD_eq_getElem?_getD, h]

theorem getD_lt {α : Type} {l : List α} {k : Nat} (h : k < l.length) (a b : α) : l.getD k a = l.getD k b := by simp [List.getD_eq_getElem?_getD, h]
theorem take_one {α : Type} {l : List α} {k : Nat} (h : k < l.length) (d : α) : l.take (k + 1) = l.take k ++ [l.getD k d] := by
  rw [List.take_succ_eq_append_getElem h]; simp [List.getD_eq_getElem?_getD, h]
theorem fresh_ok {op i v : Int} : FOk c s.m V H ⟨op, 0, i, v, 0, 0, 0⟩ :=
  ⟨fun _ _ => ⟨by dsimp only; omega, by dsimp only; omega, fun q => by simp at q, fun q => by simp at q, fun q => by simp at q, fun q => by simp at q⟩,
   fun _ _ => ⟨by dsimp only; omega, by dsimp only; omega, fun q => by simp at q, fun q => by simp at q, fun q => by simp at q, fun q => by simp at q⟩⟩
theorem none_ok {m : List Int} : FOk c m V H noneF := ⟨fun q => by simp [noneF] at q, fun q => by simp [noneF] at q⟩

theorem set_get {α : Type} {l : List α} {k : Nat} {d : α} (h : k < l.length) : l.set k (l.getD k d) = l := by simp [List.getD_eq_getElem?_getD, h]
theorem GI.begin (h : GI c outs s V H) {i : Nat} (hi : i < outs.length) : GI c outs (plBegin s i) V H := by
  have hih : i < s.hand.length := by rw [h.hl]; exact hi
  have hil : i < s.left.length := by rw [h.ll]; exact hi
  obtain ⟨g, e⟩ := h.each i hi
  by_cases ho : (s.hand.getD i noneF).op = -1
  · have hn : s.hand.getD i noneF = noneF := by
      rcases e.at_ with q | ⟨_, _, ⟨q, _⟩ | ⟨q, _⟩⟩
      · exact q
      · omega
      · omega
    have hp : pHand s i = nextP i (s.left.getD i []) := by rw [pHand, if_pos ho]
    by_cases hg : g < (outs.getD i []).length
    · have e2 : nextP i (s.left.getD i []) = (⟨(callOf i g ((outs.getD i []).getD g false)).op, 0, i, (callOf i g ((outs.getD i []).getD g false)).val, 0, 0, 0⟩, (callsL i (outs.getD i [])).drop (g + 1)) := by
        rw [e.left, drop_callsL hg, nextP, if_pos (by unfold callOf; split <;> simp)]
      have hb : plBegin s i = ⟨s.m, s.left.set i ((callsL i (outs.getD i [])).drop (g + 1)), s.hand.set i ⟨(callOf i g ((outs.getD i []).getD g false)).op, 0, i, (callOf i g ((outs.getD i []).getD g false)).val, 0, 0, 0⟩, s.over⟩ := by
        unfold plBegin; rw [hp, e2]
      rw [hb]
      have ho3 : (callOf i g ((outs.getD i []).getD g false)).op ≠ -1 := by unfold callOf; split <;> simp
      refine ⟨?_, by simp [h.hl], by simp [h.ll], h.legit, h.incr, h.done, fun j hj => ?_⟩
      · refine Many.perm ?_ (perm_set s.over s.hand hih _).symm
        refine (h.many.perm (perm_at s.over s.hand hih)).same fresh_ok (fun g hg _ _ q2 => by simp [Holds] at q2) ?_ ?_ (fun q => by rw [hn] at q; simp [Holds, noneF] at q)
        · rw [hn]; simp [eGave, Holds, noneF]
        · rw [hn]; simp [qGot, Holds, noneF]
      · dsimp only
        by_cases q : i = j
        · subst q
          refine ⟨g + 1, ?_⟩
          rw [getD_set_self hil, getD_set_self hih]
          refine ⟨by omega, rfl, .inr ⟨by omega, rfl, ?_⟩, fun v hv h1 => ?_, ?_, ?_⟩
          · rw [Nat.add_sub_cancel]
            rw [getD_lt hg true false]
            cases (outs.getD i []).getD g false <;> simp [callOf]
          · have := (e.low v hv h1).1
            refine ⟨by omega, fun q _ => ?_⟩
            revert q
            unfold callOf
            split
            · intro q; simp at q
            · intro _; exact this
          · rw [if_neg ho3, e.ops, if_pos ho, Nat.add_sub_cancel]
          · obtain ⟨xs, x1, x2, x3, x4, x5⟩ := e.ord
            exact ⟨xs, x1, x2, x3, fun _ q => by simp [Holds] at q, fun _ q => by simp at q⟩
        · rw [getD_set_ne q, getD_set_ne q]
          exact h.each j hj
    · have e2 : nextP i (s.left.getD i []) = (noneF, []) := by
        rw [e.left, List.drop_of_length_le (by rw [len_callsL]; omega)]; rfl
      have e3 : s.left.getD i [] = [] := by rw [e.left, List.drop_of_length_le (by rw [len_callsL]; omega)]
      have hb : plBegin s i = s := by
        unfold plBegin; rw [hp, e2]
        have a1 : s.left.set i [] = s.left := by have := set_get (d := []) hil; rw [e3] at this; exact this
        have a2 : s.hand.set i noneF = s.hand := by have := set_get (d := noneF) hih; rw [hn] at this; exact this
        rw [a1, a2]
      rw [hb]; exact h
  · have hp : pHand s i = (s.hand.getD i noneF, s.left.getD i []) := by rw [pHand, if_neg ho]
    have hb : plBegin s i = s := by
      unfold plBegin; rw [hp]
      dsimp only
      rw [set_get hil, set_get hih]
    rw [hb]; exact h

theorem Each.mono {L : List Bool} {V' : List Int} {H' : Int} {i g : Nat} {left : List Fr} {f : Fr} {over : List Fr} (h : Each L V H i left f over g) (hHl : H ≤ V.length) (hV : V' = V ∨ ∃ v : Int, V' = V ++ [v] ∧ v / 100 ≠ i + 1) (hH : H ≤ H') : Each L V' H' i left f over g := by
  have hg : ∀ x : Nat, (x : Int) < H → V'.getD x 0 = V.getD x 0 := by
    intro x hx
    rcases hV with rfl | ⟨v, rfl, _⟩
    · rfl
    · exact getD_app V v (by omega)
  refine ⟨h.le, h.left, h.at_, ?_, h.ops, ?_⟩
  · rcases hV with rfl | ⟨v, rfl, q⟩
    · exact h.low
    · intro w hw h1
      rcases List.mem_append.1 hw with e | e
      · exact h.low w e h1
      · rw [List.mem_singleton] at e; subst e; exact absurd h1 q
  · obtain ⟨xs, x1, x2, x3, x4, x5⟩ := h.ord
    refine ⟨xs, x1, fun x hx => by have := x2 x hx; omega, ?_, x4, fun q1 q2 => ?_⟩
    · rw [x3]
      apply List.map_congr_left
      intro x hx
      rw [hg x (x2 x hx)]
    · obtain ⟨x, y1, y2, y3⟩ := x5 q1 q2
      exact ⟨x, y1, by omega, by rw [hg x y2]; exact y3⟩

theorem GI.step (h : GI c outs s V H) {i : Nat} (hi : i < outs.length) (hL : (outs.getD i []).length ≤ 100) : ∃ V' H', GI c outs (plStep c s i) V' H' := by
  have hih : i < s.hand.length := by rw [h.hl]; exact hi
  obtain ⟨V', H', hm, hv, _⟩ := (h.many.perm (perm_at s.over s.hand hih)).step
  have hHl := h.many.le
  obtain ⟨g, e⟩ := h.each i hi
  generalize hf : s.hand.getD i noneF = f at hm hv e
  have hval : V' = V ∨ (V' = V ++ [f.val] ∧ 0 < g ∧ f.who = i ∧ f.op = 3 ∧ (outs.getD i []).getD (g - 1) true = false ∧ f.val = ((100 * (i + 1) + (g - 1) : Nat) : Int) ∧ eGave f = none ∧ eGave (iStep c s.m f).2 = some f.val) := by
    rcases hv.v with q | ⟨q1, q2, q3, q4⟩
    · exact .inl q
    · rcases e.at_ with q | ⟨k1, k2, ⟨k3, k4, k5⟩ | ⟨k3, _⟩⟩
      · rw [q] at q2; simp [noneF] at q2
      · exact .inr ⟨q1, k1, k2, k3, k4, k5, q3, q4⟩
      · omega
  have hle := e.le
  have hcls : ∀ k : Nat, k ≤ 99 → ((100 * (i + 1) + k : Nat) : Int) / 100 = i + 1 := by intro k hk; omega
  have hb : plStep c s i = ⟨(iStep c s.m f).1, s.left, s.hand.set i (iStep c s.m f).2, s.over⟩ := by unfold plStep; rw [hf]
  rw [hb]
  have hnone : f = noneF → (iStep c s.m f).2 = noneF := by rintro rfl; rfl
  generalize iStep c s.m f = r at hm hv hval hnone
  obtain ⟨m', f'⟩ := r
  dsimp only at hm hv hval hnone ⊢
  have hH : H ≤ H' := by rcases hv.h with ⟨q, _⟩ | ⟨q, _⟩ <;> omega
  refine ⟨V', H', hm.perm (perm_set s.over s.hand hih _).symm, by simp [h.hl], h.ll, ?_, ?_, h.done, fun j hj => ?_⟩
  · rcases hval with q | ⟨q1, q2, q3, q4, q5, q6, q7, q8⟩
    · rw [q]; exact h.legit
    · rw [q1]
      intro w hw
      rcases List.mem_append.1 hw with q | q
      · exact h.legit w q
      · rw [List.mem_singleton] at q
        exact ⟨i, g - 1, hi, by omega, q5, by rw [q, q6]⟩
  · rcases hval with q | ⟨q1, q2, q3, q4, q5, q6, q7, q8⟩
    · rw [q]; exact h.incr
    · rw [q1]
      refine List.pairwise_append.2 ⟨h.incr, List.pairwise_singleton _ _, fun a ha b hb => ?_⟩
      rw [List.mem_singleton] at hb
      subst hb
      intro q
      rw [q6, hcls _ (by omega)] at q
      exact (e.low a ha q).2 q4 q7
  · by_cases q : i = j
    · subst q
      refine ⟨g, ?_⟩
      rw [getD_set_self hih]
      refine ⟨e.le, e.left, ?_, ?_, ?_, ?_⟩
      · rcases e.at_ with q | ⟨k1, k2, ⟨k3, k4, k5⟩ | ⟨k3, k4⟩⟩
        · exact .inl (hnone q)
        · exact .inr ⟨k1, hv.who.trans k2, .inl ⟨hv.op.trans k3, k4, (hv.val k3).trans k5⟩⟩
        · exact .inr ⟨k1, hv.who.trans k2, .inr ⟨hv.op.trans k3, k4⟩⟩
      · intro w hw h1
        rcases hval with q | ⟨q1, q2, q3, q4, q5, q6, q7, q8⟩
        · rw [q] at hw
          refine ⟨(e.low w hw h1).1, fun o1 o2 => ?_⟩
          have o3 : f.op = 3 := hv.op.symm.trans o1
          rw [hv.val o3]
          refine (e.low w hw h1).2 o3 ?_
          rcases hq : eGave f with _ | z
          · rfl
          · exact absurd o2 (hv.keep (by rw [hq]; simp))
        · rw [q1] at hw
          rcases List.mem_append.1 hw with r | r
          · exact ⟨(e.low w r h1).1, fun _ o2 => by rw [q8] at o2; cases o2⟩
          · rw [List.mem_singleton] at r
            exact ⟨by rw [r, q6]; omega, fun _ o2 => by rw [q8] at o2; cases o2⟩
      · rw [hv.op]; exact e.ops
      · obtain ⟨xs, x1, x2, x3, x4, x5⟩ := e.ord
        have hg : ∀ x : Nat, (x : Int) < H → V'.getD x 0 = V.getD x 0 := by
          intro x hx
          rcases hval with q | ⟨q1, _⟩
          · rw [q]
          · rw [q1]; exact getD_app V _ (by omega)
        refine ⟨xs, x1, fun x hx => by have := x2 x hx; omega, ?_, fun q1 q2 => ?_, fun q1 q2 => ?_⟩
        · rw [x3]
          apply List.map_congr_left
          intro x hx
          rw [hg x (x2 x hx)]
        · rcases hv.h with ⟨r1, r2⟩ | ⟨r1, r2, r3⟩
          · obtain ⟨r3, r4⟩ := r2 q1 q2
            intro x hx
            rw [r4]; exact x4 (hv.op.symm.trans q1) r3 x hx
          · intro x hx
            rw [r3]; exact x2 x hx
        · by_cases r0 : f.res = 0
          · obtain ⟨y1, y2, y3, y4⟩ := hv.got (hv.op.symm.trans q1) r0 q2
            refine ⟨f.x.toNat, fun y hy => ?_, by omega, by rw [hg _ (by omega)]; exact y4⟩
            have := x4 (hv.op.symm.trans q1) y1 y hy
            omega
          · rw [hv.over r0] at q1 q2 ⊢
            obtain ⟨x, y1, y2, y3⟩ := x5 q1 q2
            exact ⟨x, y1, by omega, by rw [hg x y2]; exact y3⟩
    · rw [getD_set_ne q]
      obtain ⟨g', e'⟩ := h.each j hj
      refine ⟨g', e'.mono hHl ?_ hH⟩
      rcases hval with r | ⟨q1, q2, q3, q4, q5, q6, q7, q8⟩
      · exact .inl r
      · refine .inr ⟨_, q1, ?_⟩
        rw [q6, hcls _ (by omega)]
        omega

theorem Many.more {m : List Int} {fs : List Fr} (h : Many c m V H fs) (hl : fs.length + 1 ≤ 1000) : Many c m V H (noneF :: fs) where
  inj := h.inj
  head := h.head
  tail := h.tail
  lo := h.lo
  le := h.le
  room := h.room
  few := by simp; omega
  slot := h.slot
  ok := fun g hg => (List.mem_cons.1 hg).elim (fun e => e ▸ none_ok) (h.ok g)
  diff := List.pairwise_cons.2 ⟨fun g hg q => by simp [noneF] at q, h.diff⟩
  gave := h.gave
  got := h.got
  heldE := fun x h0 h1 h2 => by obtain ⟨f, hf, e⟩ := h.heldE x h0 h1 h2; exact ⟨f, by simp [hf], e⟩
  heldQ := fun x h0 h1 h2 => by obtain ⟨f, hf, e⟩ := h.heldQ x h0 h1 h2; exact ⟨f, by simp [hf], e⟩

theorem GI.move (h : GI c outs s V H) {i : Nat} (hi : i < outs.length) (hl : s.over.length + outs.length + 1 ≤ 1000) : GI c outs (plMove s i) V H := by
  have hih : i < s.hand.length := by rw [h.hl]; exact hi
  unfold plMove
  split
  · exact h
  · rename_i hr
    obtain ⟨g, e⟩ := h.each i hi
    have hne : s.hand.getD i noneF ≠ noneF := fun q => hr (by rw [q]; rfl)
    refine ⟨?_, by simp [h.hl], h.ll, h.legit, h.incr, fun f hf => ?_, fun j hj => ?_⟩
    · dsimp only
      have p1 := h.many.perm (perm_at s.over s.hand hih)
      have p2 := p1.more (by have := p1.few; have := (perm_at s.over s.hand hih).length_eq; simp only [List.length_append, List.length_cons] at *; have := h.hl; omega)
      refine p2.perm ?_
      refine List.Perm.trans ?_ (perm_set (s.over ++ [s.hand.getD i noneF]) s.hand hih noneF).symm
      refine List.Perm.cons _ ?_
      rw [List.append_assoc]
      exact List.perm_middle.symm
    · rcases List.mem_append.1 hf with q | q
      · exact h.done f q
      · rw [List.mem_singleton] at q; rw [q]; exact hr
    · dsimp only
      by_cases q : i = j
      · subst q
        refine ⟨g, ?_⟩
        rw [getD_set_self hih]
        generalize s.hand.getD i noneF = f at hr hne e
        obtain ⟨k1, k2, k3⟩ := e.at_.resolve_left hne
        have hle := e.le
        have hw : (f.who == (i : Int)) = true := by simp [k2]
        have ho : f.op ≠ -1 := by omega
        refine ⟨e.le, e.left, .inl rfl, fun v hv h1 => ⟨(e.low v hv h1).1, fun q => by simp [noneF] at q⟩, ?_, ?_⟩
        · have hop := e.ops
          rw [if_neg ho] at hop
          rw [if_pos (by rfl), List.filter_append, List.map_append, hop]
          have hk : (f.op == 4) = (outs.getD i []).getD (g - 1) false := by
            rcases k3 with ⟨r1, r2, _⟩ | ⟨r1, r2⟩
            · rw [getD_lt (by omega) false true, r2, r1]; rfl
            · rw [r2, r1]; rfl
          have htk : (outs.getD i []).take (g - 1) ++ [(outs.getD i []).getD (g - 1) false] = (outs.getD i []).take g := by
            have := take_one (l := outs.getD i []) (k := g - 1) (by omega) false
            rw [show g - 1 + 1 = g by omega] at this
            exact this.symm
          have : List.map (fun x : Fr => x.op == 4) (List.filter (fun x => x.who == (i : Int)) [f]) = [f.op == 4] := by simp [hw]
          rw [this, hk, htk]
        · obtain ⟨xs, x1, x2, x3, x4, x5⟩ := e.ord
          by_cases r : f.op = 4 ∧ f.res = 1
          · obtain ⟨x, y1, y2, y3⟩ := x5 r.1 r.2
            refine ⟨xs ++ [x], List.pairwise_append.2 ⟨x1, List.pairwise_singleton _ _, fun a ha b hb => ?_⟩, fun y hy => ?_, ?_, fun q => by simp [noneF] at q, fun q => by simp [noneF] at q⟩
            · rw [List.mem_singleton] at hb; rw [hb]; exact y1 a ha
            · rcases List.mem_append.1 hy with q | q
              · exact x2 y q
              · rw [List.mem_singleton] at q; rw [q]; exact y2
            · rw [List.filter_append, List.map_append, x3, List.map_append]
              congr 1
              simp [hw, r.1, r.2, y3]
          · refine ⟨xs, x1, x2, ?_, fun q => by simp [noneF] at q, fun q => by simp [noneF] at q⟩
            rw [List.filter_append, List.map_append, x3]
            have : List.filter (fun x : Fr => x.who == (i : Int) && x.op == 4 && x.res == 1) [f] = [] := by
              rw [List.filter_cons_of_neg]
              · rfl
              · simp [hw]; intro q1 q2; exact r ⟨q1, q2⟩
            rw [this]; simp
      · rw [getD_set_ne q]
        obtain ⟨g', e'⟩ := h.each j hj
        generalize s.hand.getD i noneF = f at hr hne e
        obtain ⟨k1, k2, k3⟩ := e.at_.resolve_left hne
        have hw : (f.who == (j : Int)) = false := by rw [k2]; simp; omega
        refine ⟨g', e'.le, e'.left, e'.at_, e'.low, ?_, ?_⟩
        · rw [List.filter_append, List.filter_cons_of_neg (by simp [hw])]
          simp only [List.filter_nil, List.append_nil]
          exact e'.ops
        · obtain ⟨xs, x1, x2, x3, x4, x5⟩ := e'.ord
          refine ⟨xs, x1, x2, ?_, x4, x5⟩
          rw [List.filter_append, List.filter_cons_of_neg (by simp [hw])]
          simp only [List.filter_nil, List.append_nil]
          exact x3
end
end Go.Vai
/- Calls as lists of bits tell. -/
namespace Go.Vai
open Go.RowKit Go.Proofs
set_option linter.unusedSimpArgs false
set_option linter.unusedVariables false
set_option maxHeartbeats 4000000
set_option maxRecDepth 100000

def fewB (l : List (List Bool)) : Bool := decide (l.length ≤ 8) && (l.take 9).all fun x => decide (x.length ≤ 30)
def ShortB (n : Nat) (l : List (List Bool)) : Prop := ∀ x ∈ l, x.length ≤ n
instance (n : Nat) (l : List (List Bool)) : Decidable (ShortB n l) := by unfold ShortB; infer_instance
theorem take_mapIdx {α β : Type} (f : Nat → α → β) {l : List α} {k : Nat} (h : k < l.length) (d : α) : (l.mapIdx f).take (k + 1) = (l.mapIdx f).take k ++ [f k (l.getD k d)] := by
  rw [List.take_succ_eq_append_getElem (by simpa using h)]
  simp [List.getD_eq_getElem?_getD, h]
theorem snoc_fs (l : List (List Fr)) (x : List Fr) : l.map fs ++ [.lst 7 (x.map fv)] = (l ++ [x]).map fs := by rw [List.map_append]; rfl
theorem ShortB.get {n : Nat} {l : List (List Bool)} (h : ShortB n l) (i : Nat) : (l.getD i []).length ≤ n := by
  rw [List.getD_eq_getElem?_getD]
  cases e : l[i]? with
  | none => simp
  | some x => exact h x (List.mem_of_getElem? e)

theorem calls_pure (outs : List (List Bool)) (hc : outs.length ≤ 1000) (hs : ShortB 1000 outs) : PureC Try.prog 43 [bss outs] (fss (callsP outs)) := by
  refine pure_sub okID 1 Try.func43 rfl (by show 1 ≤ _; decide) ?_
  simp only [Try.f43, inl, ID_all, bss, sv, fv, rf1, List.set_set, T52, T50, T51, T60, T66, hfree_fr, hfree_cf, cv', cf_eta, frz_u, shC_dec, dC, T23, T28, T25, hfree_lu, hfree_l0, row0, row1, row2, row3, row4, row5, shI_dec, shN_dec, shB_dec, shM_dec, dI, dN, dB, dM, dU, dU_map, iv, bv, u, ms, ctx_T, ctx_C, ctx_P, T4, T3, T26, Option.bind_some, Option.bind_none, Option.map_some, List.length_map, List.length_set, String.reduceBEq, Int.toNat_natCast, Bool.true_beq, Bool.false_beq, T24, shF_dec, dF, fr_eta, Int.cast_ofNat_Int, Int.reduceSub, Int.reduceAdd, Int.reduceNeg, ev1, ev2, implies_true, undef, stepP, dynCall, ↓condE_t, ↓condE_f, ↓guardE_tt, ↓guardE_ff, ↓guardE_tf, ↓guardE_ft, frzDeep, deepArgs, deepArg, resB, cv, stepB, stepE, callD, tabD, snapD, snap1, snapC, snapId, snapIds, guardB, guardC, dstAt, aopR, one, pre, binR, intOpR, shiftOpR, unR, argFrm, evo, lkp, hlk, lenOf, asLst, idOf, bndA, srcOk, ofVal, ofCells, setCells, fillA, setElems, fieldsOf, fieldsEq, scalEq, isEq, AV.wr, AV.ok1, TK.agg, frz, frzs, frzA, frzArg, frzArgs, subA, subL, sub1, kp, kh, accOf, List.replicate, Nat.reduceAdd, Nat.reduceSub, Nat.reduceMul, Nat.reduceEqDiff, Nat.reduceLT, Nat.reduceLeDiff, Nat.reduceBEq, reduceIte, reduceCtorEq, eq_self, ne_eq, Int.reduceToNat, Int.reduceLT, Int.reduceLE, Int.reduceGT, Int.reduceGE, Int.reduceBEq, Int.reduceBNe, Int.reduceEq, Int.reduceNe]
  refine WP.virt 3 52 1 rfl (by decide) ?_
  refine WP.loop (ι := Nat × Nat) (fun i => outs.length - i.1) (fun i => i.1 ≤ outs.length) (n := 48)
    (fr := fun i => [(4, iv i.1), (3, .arr i.2 0 i.1), (0, bss outs)])
    (hp := fun i => [(i.2, some ⟨false, 52, 1, ((callsP outs).take i.1).map fs⟩)]) (N := 4) ?_ (0, 3) (Nat.zero_le _) rfl (Nat.le_refl _) ⟨rfl, rfl, rfl, trivial⟩ ⟨rfl, trivial⟩
  rintro ⟨i, id⟩ nx hi hN hid
  dsimp only at hi hid ⊢
  have hidn : id < nx := hid id ⟨false, 52, 1, ((callsP outs).take i).map fs⟩ (by simp only [hlk, nb_self])
  refine WP.of okID 1 (by rfl) ?_
  by_cases hil : i < outs.length
  · have hil' : (i : Int) < outs.length := by omega
    simp only [ID_all, hil', hidn, bss, sv, fv, Int.toNat_natCast, rf1, List.set_set, T52, T50, T51, T60, T66, nb_self, nb_same, nb_l0, nb_r0, nb_lt, nb_gt, nb_lt0, nb_gt0, Nat.add_assoc, hfree_fr, hfree_cf, cv', cf_eta, frz_u, shC_dec, dC, T23, T28, T25, hfree_lu, hfree_l0, row0, row1, row2, row3, row4, row5, shI_dec, shN_dec, shB_dec, shM_dec, dI, dN, dB, dM, dU, dU_map, iv, bv, u, ms, ctx_T, ctx_C, ctx_P, T4, T3, T26, Option.bind_some, Option.bind_none, Option.map_some, List.length_map, List.length_set, String.reduceBEq, Int.toNat_natCast, Bool.true_beq, Bool.false_beq, T24, shF_dec, dF, fr_eta, Int.cast_ofNat_Int, Int.reduceSub, Int.reduceAdd, Int.reduceNeg, ev1, ev2, implies_true, undef, stepP, dynCall, ↓condE_t, ↓condE_f, ↓guardE_tt, ↓guardE_ff, ↓guardE_tf, ↓guardE_ft, frzDeep, deepArgs, deepArg, resB, cv, stepB, stepE, callD, tabD, snapD, snap1, snapC, snapId, snapIds, guardB, guardC, dstAt, aopR, one, pre, binR, intOpR, shiftOpR, unR, argFrm, evo, lkp, hlk, lenOf, asLst, idOf, bndA, srcOk, ofVal, ofCells, setCells, fillA, setElems, fieldsOf, fieldsEq, scalEq, isEq, AV.wr, AV.ok1, TK.agg, frz, frzs, frzA, frzArg, frzArgs, subA, subL, sub1, kp, kh, accOf, List.replicate, Nat.reduceAdd, Nat.reduceSub, Nat.reduceMul, Nat.reduceEqDiff, Nat.reduceLT, Nat.reduceLeDiff, Nat.reduceBEq, reduceIte, reduceCtorEq, eq_self, ne_eq, Int.reduceToNat, Int.reduceLT, Int.reduceLE, Int.reduceGT, Int.reduceGE, Int.reduceBEq, Int.reduceBNe, Int.reduceEq, Int.reduceNe]
    have hl := hs.get i
    have hb := getD_bs hil
    have hi0 : (0 : Int) ≤ i := by omega
    have wi : IntKind.wrap .i64 ((i : Int) + 1) = ((i + 1 : Nat) : Int) := by rw [wrap_i (by omega) (by omega)]; omega
    have w100 : IntKind.wrap .i64 (100 * ((i + 1 : Nat) : Int)) = ((100 * (i + 1) : Nat) : Int) := by rw [wrap_i (by omega) (by omega)]; omega
    have hci : (callsP outs).take (i + 1) = (callsP outs).take i ++ [callsL i (outs.getD i [])] := take_mapIdx _ hil []
    generalize hL : outs.getD i [] = L at hl hb hci
    refine WP.virt 5 28 7 rfl (by decide) ?_
    refine WP.loop (ι := Nat × Nat) (fun k => L.length - k.1) (fun k => k.1 ≤ L.length ∧ nx + 6 ≤ k.2) (n := 48)
      (fr := fun k => [(6, iv k.1), (5, .arr k.2 0 k.1), (4, iv i), (3, .arr id 0 i), (0, bss outs)])
      (hp := fun k => [(k.2, some ⟨false, 28, 7, ((callsL i L).take k.1).map fv⟩), (id, some ⟨false, 52, 1, ((callsP outs).take i).map fs⟩)]) (N := nx + 7) ?_ (0, nx + 6) ⟨Nat.zero_le _, Nat.le_refl _⟩ rfl (Nat.le_refl _) ⟨rfl, rfl, rfl, rfl, rfl, trivial⟩ ?_
    · rintro ⟨k, ld⟩ nx2 ⟨hk, hld⟩ hN2 hid2
      dsimp only at hk hld hid2 ⊢
      have hldn : ld < nx2 := hid2 ld ⟨false, 28, 7, ((callsL i L).take k).map fv⟩ (by simp only [hlk, nb_self])
      have b1 : Nat.beq id ld = false := by rw [← Bool.not_eq_true, Nat.beq_eq]; omega
      have b2 : Nat.beq ld id = false := by rw [← Bool.not_eq_true, Nat.beq_eq]; omega
      have hidn2 : id < nx2 := by omega
      have htl : ((callsL i L).take k).length = k := by rw [List.length_take, len_callsL]; omega
      have htk : List.take k (((callsL i L).take k).map fv) = ((callsL i L).take k).map fv := List.take_of_length_le (by rw [List.length_map, htl]; omega)
      by_cases hkl : k < L.length
      · refine WP.of okID 1 (by rfl) ?_
        have hkl' : (k : Int) < L.length := by omega
        have hk0 : (0 : Int) ≤ k := by omega
        have hkb := getD_b hkl
        have wk : IntKind.wrap .i64 ((k : Int) + 1) = ((k + 1 : Nat) : Int) := by rw [wrap_i (by omega) (by omega)]; omega
        have wa : IntKind.wrap .i64 (((100 * (i + 1) : Nat) : Int) + (k : Int)) = ((100 * (i + 1) + k : Nat) : Int) := by rw [wrap_i (by omega) (by omega)]; omega
        have wu : IntKind.wrap .u64 ((100 * (i + 1) + k : Nat) : Int) = ((100 * (i + 1) + k : Nat) : Int) := by rw [IntKind.wrap_u64]; omega
        have hcap : (k + 1) * 56 ≤ 140737488355328 := by omega
        have hck : (callsL i L).take (k + 1) = (callsL i L).take k ++ [callOf i k (L.getD k false)] := take_mapIdx _ hkl false
        generalize L.getD k false = b at hkb hck
        cases b with
        | true =>
          simp only [ID_all, hil', hi0, hb, hkl', hk0, hkb, wk, hcap, htl, htk, b1, b2, hldn, hidn2, Nat.le_refl, bss, bs, sv, fv, Int.toNat_natCast, rf1, List.set_set, T52, T50, T51, T60, T66, nb_self, nb_same, nb_l0, nb_r0, nb_lt, nb_gt, nb_lt0, nb_gt0, Nat.add_assoc, hfree_fr, hfree_cf, cv', cf_eta, frz_u, shC_dec, dC, T23, T28, T25, hfree_lu, hfree_l0, row0, row1, row2, row3, row4, row5, shI_dec, shN_dec, shB_dec, shM_dec, dI, dN, dB, dM, dU, dU_map, iv, bv, u, ms, ctx_T, ctx_C, ctx_P, T4, T3, T26, Option.bind_some, Option.bind_none, Option.map_some, List.length_map, List.length_set, String.reduceBEq, Int.toNat_natCast, Bool.true_beq, Bool.false_beq, T24, shF_dec, dF, fr_eta, Int.cast_ofNat_Int, Int.reduceSub, Int.reduceAdd, Int.reduceNeg, ev1, ev2, implies_true, undef, stepP, dynCall, ↓condE_t, ↓condE_f, ↓guardE_tt, ↓guardE_ff, ↓guardE_tf, ↓guardE_ft, frzDeep, deepArgs, deepArg, resB, cv, stepB, stepE, callD, tabD, snapD, snap1, snapC, snapId, snapIds, guardB, guardC, dstAt, aopR, one, pre, binR, intOpR, shiftOpR, unR, argFrm, evo, lkp, hlk, lenOf, asLst, idOf, bndA, srcOk, ofVal, ofCells, setCells, fillA, setElems, fieldsOf, fieldsEq, scalEq, isEq, AV.wr, AV.ok1, TK.agg, frz, frzs, frzA, frzArg, frzArgs, subA, subL, sub1, kp, kh, accOf, List.replicate, Nat.reduceAdd, Nat.reduceSub, Nat.reduceMul, Nat.reduceEqDiff, Nat.reduceLT, Nat.reduceLeDiff, Nat.reduceBEq, reduceIte, reduceCtorEq, eq_self, ne_eq, Int.reduceToNat, Int.reduceLT, Int.reduceLE, Int.reduceGT, Int.reduceGE, Int.reduceBEq, Int.reduceBNe, Int.reduceEq, Int.reduceNe]
          refine ⟨(k + 1, nx2 + 17), by dsimp only; omega, ⟨by dsimp only; omega, by dsimp only; omega⟩, ⟨rfl, rfl⟩, ?_⟩
          simp only [nb_self]
          rw [hck]
          rfl
        | false =>
          simp only [ID_all, hil', hi0, hb, hkl', hk0, hkb, wi, w100, wa, wu, wk, hcap, htl, htk, b1, b2, hldn, hidn2, Nat.le_refl, bss, bs, sv, fv, Int.toNat_natCast, rf1, List.set_set, T52, T50, T51, T60, T66, nb_self, nb_same, nb_l0, nb_r0, nb_lt, nb_gt, nb_lt0, nb_gt0, Nat.add_assoc, hfree_fr, hfree_cf, cv', cf_eta, frz_u, shC_dec, dC, T23, T28, T25, hfree_lu, hfree_l0, row0, row1, row2, row3, row4, row5, shI_dec, shN_dec, shB_dec, shM_dec, dI, dN, dB, dM, dU, dU_map, iv, bv, u, ms, ctx_T, ctx_C, ctx_P, T4, T3, T26, Option.bind_some, Option.bind_none, Option.map_some, List.length_map, List.length_set, String.reduceBEq, Int.toNat_natCast, Bool.true_beq, Bool.false_beq, T24, shF_dec, dF, fr_eta, Int.cast_ofNat_Int, Int.reduceSub, Int.reduceAdd, Int.reduceNeg, ev1, ev2, implies_true, undef, stepP, dynCall, ↓condE_t, ↓condE_f, ↓guardE_tt, ↓guardE_ff, ↓guardE_tf, ↓guardE_ft, frzDeep, deepArgs, deepArg, resB, cv, stepB, stepE, callD, tabD, snapD, snap1, snapC, snapId, snapIds, guardB, guardC, dstAt, aopR, one, pre, binR, intOpR, shiftOpR, unR, argFrm, evo, lkp, hlk, lenOf, asLst, idOf, bndA, srcOk, ofVal, ofCells, setCells, fillA, setElems, fieldsOf, fieldsEq, scalEq, isEq, AV.wr, AV.ok1, TK.agg, frz, frzs, frzA, frzArg, frzArgs, subA, subL, sub1, kp, kh, accOf, List.replicate, Nat.reduceAdd, Nat.reduceSub, Nat.reduceMul, Nat.reduceEqDiff, Nat.reduceLT, Nat.reduceLeDiff, Nat.reduceBEq, reduceIte, reduceCtorEq, eq_self, ne_eq, Int.reduceToNat, Int.reduceLT, Int.reduceLE, Int.reduceGT, Int.reduceGE, Int.reduceBEq, Int.reduceBNe, Int.reduceEq, Int.reduceNe]
          refine ⟨(k + 1, nx2 + 23), by dsimp only; omega, ⟨by dsimp only; omega, by dsimp only; omega⟩, ⟨rfl, rfl⟩, ?_⟩
          simp only [nb_self]
          rw [hck]
          rfl
      · have hkl' : ¬ (k : Int) < L.length := by omega
        have hke : k = L.length := by omega
        refine WP.freeze 5 ld 0 k (b := ⟨false, 28, 7, ((callsL i L).take k).map fv⟩) rfl (by simp only [hlk, nb_self]) (by rw [List.length_map, htl]; omega) ?_
        have hle : (callsL i L).take k = callsL i L := List.take_of_length_le (by rw [len_callsL]; omega)
        have hcap2 : (i + 1) * 24 ≤ 140737488355328 := by omega
        have hti : ((callsP outs).take i).length = i := by rw [List.length_take, len_callsP]; omega
        have hti2 : List.take i (((callsP outs).take i).map fs) = ((callsP outs).take i).map fs := List.take_of_length_le (by rw [List.length_map, hti]; omega)
        have hl5 : List.take k (List.drop 0 (((callsL i L).take k).map fv)) = (callsL i L).map fv := by rw [List.drop_zero, htk, hle]
        refine WP.of okID 1 (by rfl) ?_
        simp only [ID_all, hil', hi0, hb, hkl', wi, htl, htk, hcap2, hti, hti2, hl5, b1, b2, hldn, hidn2, Nat.le_refl, bss, bs, sv, fv, Int.toNat_natCast, rf1, List.set_set, T52, T50, T51, T60, T66, nb_self, nb_same, nb_l0, nb_r0, nb_lt, nb_gt, nb_lt0, nb_gt0, Nat.add_assoc, hfree_fr, hfree_cf, cv', cf_eta, frz_u, shC_dec, dC, T23, T28, T25, hfree_lu, hfree_l0, row0, row1, row2, row3, row4, row5, shI_dec, shN_dec, shB_dec, shM_dec, dI, dN, dB, dM, dU, dU_map, iv, bv, u, ms, ctx_T, ctx_C, ctx_P, T4, T3, T26, Option.bind_some, Option.bind_none, Option.map_some, List.length_map, List.length_set, String.reduceBEq, Int.toNat_natCast, Bool.true_beq, Bool.false_beq, T24, shF_dec, dF, fr_eta, Int.cast_ofNat_Int, Int.reduceSub, Int.reduceAdd, Int.reduceNeg, ev1, ev2, implies_true, undef, stepP, dynCall, ↓condE_t, ↓condE_f, ↓guardE_tt, ↓guardE_ff, ↓guardE_tf, ↓guardE_ft, frzDeep, deepArgs, deepArg, resB, cv, stepB, stepE, callD, tabD, snapD, snap1, snapC, snapId, snapIds, guardB, guardC, dstAt, aopR, one, pre, binR, intOpR, shiftOpR, unR, argFrm, evo, lkp, hlk, lenOf, asLst, idOf, bndA, srcOk, ofVal, ofCells, setCells, fillA, setElems, fieldsOf, fieldsEq, scalEq, isEq, AV.wr, AV.ok1, TK.agg, frz, frzs, frzA, frzArg, frzArgs, subA, subL, sub1, kp, kh, accOf, List.replicate, Nat.reduceAdd, Nat.reduceSub, Nat.reduceMul, Nat.reduceEqDiff, Nat.reduceLT, Nat.reduceLeDiff, Nat.reduceBEq, reduceIte, reduceCtorEq, eq_self, ne_eq, Int.reduceToNat, Int.reduceLT, Int.reduceLE, Int.reduceGT, Int.reduceGE, Int.reduceBEq, Int.reduceBNe, Int.reduceEq, Int.reduceNe]
        refine ⟨(i + 1, nx2 + 10), by dsimp only; omega, by dsimp only; omega, ⟨rfl, rfl⟩, ?_⟩
        simp only [nb_self]
        rw [hci, hle, snoc_fs]
    · have b3 : Nat.beq id (nx + 6) = false := by rw [← Bool.not_eq_true, Nat.beq_eq]; omega
      refine ⟨?_, ?_, trivial⟩
      · simp only [hlk, nb_self]; rfl
      · simp only [hlk, nb_self, b3]
  · have hil' : ¬ (i : Int) < outs.length := by omega
    have hie : i = outs.length := by omega
    have hle : (callsP outs).take i = callsP outs := List.take_of_length_le (by rw [len_callsP]; omega)
    simp only [ID_all, hil', hidn, bss, sv, fv, Int.toNat_natCast, rf1, List.set_set, T52, T50, T51, T60, T66, nb_self, nb_same, nb_l0, nb_r0, nb_lt, nb_gt, nb_lt0, nb_gt0, Nat.add_assoc, hfree_fr, hfree_cf, cv', cf_eta, frz_u, shC_dec, dC, T23, T28, T25, hfree_lu, hfree_l0, row0, row1, row2, row3, row4, row5, shI_dec, shN_dec, shB_dec, shM_dec, dI, dN, dB, dM, dU, dU_map, iv, bv, u, ms, ctx_T, ctx_C, ctx_P, T4, T3, T26, Option.bind_some, Option.bind_none, Option.map_some, List.length_map, List.length_set, String.reduceBEq, Int.toNat_natCast, Bool.true_beq, Bool.false_beq, T24, shF_dec, dF, fr_eta, Int.cast_ofNat_Int, Int.reduceSub, Int.reduceAdd, Int.reduceNeg, ev1, ev2, implies_true, undef, stepP, dynCall, ↓condE_t, ↓condE_f, ↓guardE_tt, ↓guardE_ff, ↓guardE_tf, ↓guardE_ft, frzDeep, deepArgs, deepArg, resB, cv, stepB, stepE, callD, tabD, snapD, snap1, snapC, snapId, snapIds, guardB, guardC, dstAt, aopR, one, pre, binR, intOpR, shiftOpR, unR, argFrm, evo, lkp, hlk, lenOf, asLst, idOf, bndA, srcOk, ofVal, ofCells, setCells, fillA, setElems, fieldsOf, fieldsEq, scalEq, isEq, AV.wr, AV.ok1, TK.agg, frz, frzs, frzA, frzArg, frzArgs, subA, subL, sub1, kp, kh, accOf, List.replicate, Nat.reduceAdd, Nat.reduceSub, Nat.reduceMul, Nat.reduceEqDiff, Nat.reduceLT, Nat.reduceLeDiff, Nat.reduceBEq, reduceIte, reduceCtorEq, eq_self, ne_eq, Int.reduceToNat, Int.reduceLT, Int.reduceLE, Int.reduceGT, Int.reduceGE, Int.reduceBEq, Int.reduceBNe, Int.reduceEq, Int.reduceNe]
    rw [hle, hie]
    have htk : List.take outs.length ((callsP outs).map fs) = (callsP outs).map fs := List.take_of_length_le (by rw [List.length_map, len_callsP]; omega)
    rw [htk]
    exact ⟨by rw [len_callsP]; omega, of_eq_true (hf_fs _), rfl⟩

theorem fewbits_pure (l : List (List Bool)) : PureC Try.prog 42 [bss l] (bv (fewB l)) := by
  refine pure_sub okID 1 Try.func42 rfl (by show 1 ≤ _; decide) ?_
  simp only [Try.f42, inl, ID_all, bss, sv, fv, rf1, List.set_set, T52, T50, T51, hfree_fr, hfree_cf, cv', cf_eta, frz_u, shC_dec, dC, T23, T28, T25, hfree_lu, hfree_l0, row0, row1, row2, row3, row4, row5, shI_dec, shN_dec, shB_dec, shM_dec, dI, dN, dB, dM, dU, dU_map, iv, bv, u, ms, ctx_T, ctx_C, ctx_P, T4, T3, T26, Option.bind_some, Option.bind_none, Option.map_some, List.length_map, List.length_set, String.reduceBEq, Int.toNat_natCast, Bool.true_beq, Bool.false_beq, T24, shF_dec, dF, fr_eta, Int.cast_ofNat_Int, Int.reduceSub, Int.reduceAdd, Int.reduceNeg, ev1, ev2, implies_true, undef, stepP, dynCall, ↓condE_t, ↓condE_f, ↓guardE_tt, ↓guardE_ff, ↓guardE_tf, ↓guardE_ft, frzDeep, deepArgs, deepArg, resB, cv, stepB, stepE, callD, tabD, snapD, snap1, snapC, snapId, snapIds, guardB, guardC, dstAt, aopR, one, pre, binR, intOpR, shiftOpR, unR, argFrm, evo, lkp, hlk, lenOf, asLst, idOf, bndA, srcOk, ofVal, ofCells, setCells, fillA, setElems, fieldsOf, fieldsEq, scalEq, isEq, AV.wr, AV.ok1, TK.agg, frz, frzs, frzA, frzArg, frzArgs, subA, subL, sub1, kp, kh, accOf, List.replicate, Nat.reduceAdd, Nat.reduceSub, Nat.reduceMul, Nat.reduceEqDiff, Nat.reduceLT, Nat.reduceLeDiff, Nat.reduceBEq, reduceIte, reduceCtorEq, eq_self, ne_eq, Int.reduceToNat, Int.reduceLT, Int.reduceLE, Int.reduceGT, Int.reduceGE, Int.reduceBEq, Int.reduceBNe, Int.reduceEq, Int.reduceNe]
  refine WP.loop (ι := Nat) (fun k => 12 - k) (fun k => k ≤ 9 ∧ k ≤ l.length ∧ (l.take k).all (fun x => decide (x.length ≤ 30)) = true) (n := 23) (fr := fun k => [(3, iv k), (0, bss l)]) (hp := fun k => []) (N := 0) ?_ 0 ⟨by omega, Nat.zero_le _, rfl⟩ rfl (Nat.zero_le _) ⟨rfl, rfl, trivial⟩ trivial
  rintro k nx ⟨hk, hkl, ha⟩ hN hid
  refine WP.of okID 1 (by rfl) ?_
  by_cases h1 : k < l.length
  · have h1' : (k : Int) < l.length := by omega
    by_cases h2 : k ≤ 8
    · have h2' : (k : Int) ≤ 8 := by omega
      have ww : IntKind.wrap .i64 ((k : Int) + 1) = ((k + 1 : Nat) : Int) := by rw [wrap_i (by omega) (by omega)]; omega
      have hk0 : (0 : Int) ≤ k := by omega
      have hg := getD_bs h1
      have htk : l.take (k + 1) = l.take k ++ [l.getD k []] := by rw [List.take_succ_eq_append_getElem h1]; simp [List.getD_eq_getElem?_getD, h1]
      have hkq : l[k]? = some (l.getD k []) := by simp [List.getD_eq_getElem?_getD, h1]
      generalize l.getD k [] = x at hg htk hkq
      by_cases h3 : x.length ≤ 30
      · have h3' : ¬ (x.length : Int) > 30 := by omega
        simp only [ID_all, h1', h2', h3', ww, hk0, hg, Int.toNat_natCast, bss, bs, sv, fv, rf1, List.set_set, T52, T50, T51, T60, T66, nb_self, nb_same, nb_l0, nb_r0, nb_lt, nb_gt, nb_lt0, nb_gt0, Nat.add_assoc, hfree_fr, hfree_cf, cv', cf_eta, frz_u, shC_dec, dC, T23, T28, T25, hfree_lu, hfree_l0, row0, row1, row2, row3, row4, row5, shI_dec, shN_dec, shB_dec, shM_dec, dI, dN, dB, dM, dU, dU_map, iv, bv, u, ms, ctx_T, ctx_C, ctx_P, T4, T3, T26, Option.bind_some, Option.bind_none, Option.map_some, List.length_map, List.length_set, String.reduceBEq, Int.toNat_natCast, Bool.true_beq, Bool.false_beq, T24, shF_dec, dF, fr_eta, Int.cast_ofNat_Int, Int.reduceSub, Int.reduceAdd, Int.reduceNeg, ev1, ev2, implies_true, undef, stepP, dynCall, ↓condE_t, ↓condE_f, ↓guardE_tt, ↓guardE_ff, ↓guardE_tf, ↓guardE_ft, frzDeep, deepArgs, deepArg, resB, cv, stepB, stepE, callD, tabD, snapD, snap1, snapC, snapId, snapIds, guardB, guardC, dstAt, aopR, one, pre, binR, intOpR, shiftOpR, unR, argFrm, evo, lkp, hlk, lenOf, asLst, idOf, bndA, srcOk, ofVal, ofCells, setCells, fillA, setElems, fieldsOf, fieldsEq, scalEq, isEq, AV.wr, AV.ok1, TK.agg, frz, frzs, frzA, frzArg, frzArgs, subA, subL, sub1, kp, kh, accOf, List.replicate, Nat.reduceAdd, Nat.reduceSub, Nat.reduceMul, Nat.reduceEqDiff, Nat.reduceLT, Nat.reduceLeDiff, Nat.reduceBEq, reduceIte, reduceCtorEq, eq_self, ne_eq, Int.reduceToNat, Int.reduceLT, Int.reduceLE, Int.reduceGT, Int.reduceGE, Int.reduceBEq, Int.reduceBNe, Int.reduceEq, Int.reduceNe]
        exact ⟨k + 1, by omega, ⟨by omega, by omega, by rw [htk, List.all_append, ha]; simp [h3]⟩, rfl⟩
      · have h3' : (x.length : Int) > 30 := by omega
        have hf : fewB l = false := by
          rw [← Bool.not_eq_true]
          intro hc
          have hx : x ∈ l.take 9 := by
            exact List.mem_iff_getElem?.2 ⟨k, by rw [List.getElem?_take, if_pos (by omega)]; exact hkq⟩
          unfold fewB at hc
          rw [Bool.and_eq_true, List.all_eq_true] at hc
          exact h3 (of_decide_eq_true (hc.2 x hx))
        rw [hf]
        simp only [ID_all, h1', h2', h3', ww, hk0, hg, Int.toNat_natCast, bss, bs, sv, fv, rf1, List.set_set, T52, T50, T51, T60, T66, nb_self, nb_same, nb_l0, nb_r0, nb_lt, nb_gt, nb_lt0, nb_gt0, Nat.add_assoc, hfree_fr, hfree_cf, cv', cf_eta, frz_u, shC_dec, dC, T23, T28, T25, hfree_lu, hfree_l0, row0, row1, row2, row3, row4, row5, shI_dec, shN_dec, shB_dec, shM_dec, dI, dN, dB, dM, dU, dU_map, iv, bv, u, ms, ctx_T, ctx_C, ctx_P, T4, T3, T26, Option.bind_some, Option.bind_none, Option.map_some, List.length_map, List.length_set, String.reduceBEq, Int.toNat_natCast, Bool.true_beq, Bool.false_beq, T24, shF_dec, dF, fr_eta, Int.cast_ofNat_Int, Int.reduceSub, Int.reduceAdd, Int.reduceNeg, ev1, ev2, implies_true, undef, stepP, dynCall, ↓condE_t, ↓condE_f, ↓guardE_tt, ↓guardE_ff, ↓guardE_tf, ↓guardE_ft, frzDeep, deepArgs, deepArg, resB, cv, stepB, stepE, callD, tabD, snapD, snap1, snapC, snapId, snapIds, guardB, guardC, dstAt, aopR, one, pre, binR, intOpR, shiftOpR, unR, argFrm, evo, lkp, hlk, lenOf, asLst, idOf, bndA, srcOk, ofVal, ofCells, setCells, fillA, setElems, fieldsOf, fieldsEq, scalEq, isEq, AV.wr, AV.ok1, TK.agg, frz, frzs, frzA, frzArg, frzArgs, subA, subL, sub1, kp, kh, accOf, List.replicate, Nat.reduceAdd, Nat.reduceSub, Nat.reduceMul, Nat.reduceEqDiff, Nat.reduceLT, Nat.reduceLeDiff, Nat.reduceBEq, reduceIte, reduceCtorEq, eq_self, ne_eq, Int.reduceToNat, Int.reduceLT, Int.reduceLE, Int.reduceGT, Int.reduceGE, Int.reduceBEq, Int.reduceBNe, Int.reduceEq, Int.reduceNe]
    · have h2' : ¬ (k : Int) ≤ 8 := by omega
      have h4 : ¬ (l.length : Int) ≤ 8 := by omega
      have hf : fewB l = false := by unfold fewB; simp; omega
      rw [hf]
      simp only [ID_all, h1', h2', h4, bss, bs, sv, fv, rf1, List.set_set, T52, T50, T51, T60, T66, nb_self, nb_same, nb_l0, nb_r0, nb_lt, nb_gt, nb_lt0, nb_gt0, Nat.add_assoc, hfree_fr, hfree_cf, cv', cf_eta, frz_u, shC_dec, dC, T23, T28, T25, hfree_lu, hfree_l0, row0, row1, row2, row3, row4, row5, shI_dec, shN_dec, shB_dec, shM_dec, dI, dN, dB, dM, dU, dU_map, iv, bv, u, ms, ctx_T, ctx_C, ctx_P, T4, T3, T26, Option.bind_some, Option.bind_none, Option.map_some, List.length_map, List.length_set, String.reduceBEq, Int.toNat_natCast, Bool.true_beq, Bool.false_beq, T24, shF_dec, dF, fr_eta, Int.cast_ofNat_Int, Int.reduceSub, Int.reduceAdd, Int.reduceNeg, ev1, ev2, implies_true, undef, stepP, dynCall, ↓condE_t, ↓condE_f, ↓guardE_tt, ↓guardE_ff, ↓guardE_tf, ↓guardE_ft, frzDeep, deepArgs, deepArg, resB, cv, stepB, stepE, callD, tabD, snapD, snap1, snapC, snapId, snapIds, guardB, guardC, dstAt, aopR, one, pre, binR, intOpR, shiftOpR, unR, argFrm, evo, lkp, hlk, lenOf, asLst, idOf, bndA, srcOk, ofVal, ofCells, setCells, fillA, setElems, fieldsOf, fieldsEq, scalEq, isEq, AV.wr, AV.ok1, TK.agg, frz, frzs, frzA, frzArg, frzArgs, subA, subL, sub1, kp, kh, accOf, List.replicate, Nat.reduceAdd, Nat.reduceSub, Nat.reduceMul, Nat.reduceEqDiff, Nat.reduceLT, Nat.reduceLeDiff, Nat.reduceBEq, reduceIte, reduceCtorEq, eq_self, ne_eq, Int.reduceToNat, Int.reduceLT, Int.reduceLE, Int.reduceGT, Int.reduceGE, Int.reduceBEq, Int.reduceBNe, Int.reduceEq, Int.reduceNe]
  · have h1' : ¬ (k : Int) < l.length := by omega
    have hke : k = l.length := by omega
    have hf : fewB l = decide ((l.length : Int) ≤ 8) := by
      unfold fewB
      rw [List.take_of_length_le (by omega)] at ha ⊢
      rw [ha, Bool.and_true, Bool.eq_iff_iff]
      simp
      omega
    rw [hf]
    simp only [ID_all, h1', bss, bs, sv, fv, rf1, List.set_set, T52, T50, T51, T60, T66, nb_self, nb_same, nb_l0, nb_r0, nb_lt, nb_gt, nb_lt0, nb_gt0, Nat.add_assoc, hfree_fr, hfree_cf, cv', cf_eta, frz_u, shC_dec, dC, T23, T28, T25, hfree_lu, hfree_l0, row0, row1, row2, row3, row4, row5, shI_dec, shN_dec, shB_dec, shM_dec, dI, dN, dB, dM, dU, dU_map, iv, bv, u, ms, ctx_T, ctx_C, ctx_P, T4, T3, T26, Option.bind_some, Option.bind_none, Option.map_some, List.length_map, List.length_set, String.reduceBEq, Int.toNat_natCast, Bool.true_beq, Bool.false_beq, T24, shF_dec, dF, fr_eta, Int.cast_ofNat_Int, Int.reduceSub, Int.reduceAdd, Int.reduceNeg, ev1, ev2, implies_true, undef, stepP, dynCall, ↓condE_t, ↓condE_f, ↓guardE_tt, ↓guardE_ff, ↓guardE_tf, ↓guardE_ft, frzDeep, deepArgs, deepArg, resB, cv, stepB, stepE, callD, tabD, snapD, snap1, snapC, snapId, snapIds, guardB, guardC, dstAt, aopR, one, pre, binR, intOpR, shiftOpR, unR, argFrm, evo, lkp, hlk, lenOf, asLst, idOf, bndA, srcOk, ofVal, ofCells, setCells, fillA, setElems, fieldsOf, fieldsEq, scalEq, isEq, AV.wr, AV.ok1, TK.agg, frz, frzs, frzA, frzArg, frzArgs, subA, subL, sub1, kp, kh, accOf, List.replicate, Nat.reduceAdd, Nat.reduceSub, Nat.reduceMul, Nat.reduceEqDiff, Nat.reduceLT, Nat.reduceLeDiff, Nat.reduceBEq, reduceIte, reduceCtorEq, eq_self, ne_eq, Int.reduceToNat, Int.reduceLT, Int.reduceLE, Int.reduceGT, Int.reduceGE, Int.reduceBEq, Int.reduceBNe, Int.reduceEq, Int.reduceNe]

theorem fewB_short {l : List (List Bool)} (h : fewB l = true) : l.length ≤ 8 ∧ ShortB 30 l := by
  unfold fewB at h
  rw [Bool.and_eq_true, decide_eq_true_eq, List.all_eq_true] at h
  refine ⟨h.1, fun x hx => ?_⟩
  rw [List.take_of_length_le (by omega)] at h
  exact of_decide_eq_true (h.2 x hx)
theorem callsP_short {n : Nat} {l : List (List Bool)} (h : ShortB n l) : Short n (callsP l) := by
  intro x hx
  simp only [callsP, List.mem_mapIdx] at hx
  obtain ⟨i, hi, rfl⟩ := hx
  rw [len_callsL]
  exact h _ (List.getElem_mem hi)

def rowsIE : List Row := [
  (43, row1 shBss fun l => if l.length ≤ 1000 ∧ ShortB 1000 l then some (fss (callsP l)) else none), 
  (42, row1 shBss fun l => some (bv (fewB l)))] ++ rowsID
theorem rowsIE_ok : ∀ p ∈ rowsIE, RowOk Try.prog p := fun p h => by
  simp only [rowsIE, List.mem_append, List.mem_cons, List.not_mem_nil, or_false, false_or, or_assoc] at h
  rcases h with rfl | rfl | h
  · exact ok_row1 (enters_of Try.func43 (by decide) rfl) fun l r _ e => by obtain ⟨h, rfl⟩ := opt_if e; exact calls_pure l h.1 h.2
  · exact ok_row1 (enters_of Try.func42 (by decide) rfl) fun l r _ e => by cases e; exact fewbits_pure l
  · exact rowsID_ok p h
theorem okIE : (ctx Try.prog rowsIE).ok := rows_ok rowsIE_ok
theorem IE_43 : tabC rowsIE 43 = row1 shBss fun l => if l.length ≤ 1000 ∧ ShortB 1000 l then some (fss (callsP l)) else none := rfl
theorem IE_42 : tabC rowsIE 42 = row1 shBss fun l => some (bv (fewB l)) := rfl
theorem IE_33 : tabC rowsIE 33 = row0 (bv true) := rfl
theorem IE_37 : tabC rowsIE 37 = row3 shI shFss shZs fun room calls who => if calls.length ≤ 1000 ∧ Short 1000 calls ∧ who.length ≤ 1000 then some (.tup [ms (iPlay room calls who).1, fs (iPlay room calls who).2.1, fs (iPlay room calls who).2.2]) else none := rfl
theorem IE_38 : tabC rowsIE 38 = row3 shI shFss shZs fun room calls who => if calls.length ≤ 1000 ∧ Short 1000 calls ∧ who.length ≤ 1000 then some (.tup [ms (rPlay room calls who).1, fs (rPlay room calls who).2.1, fs (rPlay room calls who).2.2]) else none := rfl
theorem IE_39 : tabC rowsIE 39 = row3 shI shM shFs fun room m hand => if hand.length ≤ 1000 then some (.tup [ms (iRest room m hand).1, fs (iRest room m hand).2]) else none := rfl
theorem IE_40 : tabC rowsIE 40 = row3 shI shM shFs fun room m hand => if hand.length ≤ 1000 then some (.tup [ms (rRest room m hand).1, fs (rRest room m hand).2]) else none := rfl
theorem IE_41 : tabC rowsIE 41 = row2 shFs shFs fun a b => if a = b ∧ a.length ≤ 1000 then some (bv true) else none := rfl
theorem IE_34 : tabC rowsIE 34 = row1 shFss fun l => some (bv (fewC l)) := rfl
theorem IE_85 : tabC rowsIE 85 = row3 shI shI shN fun o w v => some (fv (fBegin o w v)) := rfl
theorem IE_84 : tabC rowsIE 84 = row1 shC fun c => some (ms (zeros (lSize c).toNat)) := rfl
theorem IE_100 : tabC rowsIE 100 = row2 shN shN fun a b => if a = 1 ∧ 0 ≤ b ∧ b ≤ 8 then some (.tup [u 0, u b]) else none := rfl
theorem IE_35 : tabC rowsIE 35 = row3 shC shM shF fun c m f => some (sv (iStep c m f)) := rfl
theorem IE_36 : tabC rowsIE 36 = row3 shC shM shF fun c m f => some (sv (riStep c m f)) := rfl
theorem IE_82 : tabC rowsIE 82 = row2 shFs shI fun l i => if l.length ≤ 1000 then some (.tup [fv (nextP i l).1, fs (nextP i l).2]) else none := rfl
theorem IE_78 : tabC rowsIE 78 = fun _ => none := rfl
theorem IE_81 : tabC rowsIE 81 = fun _ => none := rfl
theorem IE_98 : tabC rowsIE 98 = fun _ => none := rfl
theorem IE_79 : tabC rowsIE 79 = fun _ => none := rfl
theorem IE_87 : tabC rowsIE 87 = fun _ => none := rfl
theorem IE_80 : tabC rowsIE 80 = fun _ => none := rfl
theorem IE_97 : tabC rowsIE 97 = fun _ => none := rfl
theorem IE_19 : tabC rowsIE 19 = row2 shC shM fun c m => some (lv (qList c m)) := rfl
theorem IE_20 : tabC rowsIE 20 = row2 shC shM fun c m => some (lv (rqList c m)) := rfl
theorem IE_17 : tabC rowsIE 17 = row3 shC shM shF fun c m f => some (sv (qStep c m f)) := rfl
theorem IE_18 : tabC rowsIE 18 = row3 shC shM shF fun c m f => some (sv (rqStep c m f)) := rfl
theorem IE_60 : tabC rowsIE 60 = fun _ => none := rfl
theorem IE_94 : tabC rowsIE 94 = fun _ => none := rfl
theorem IE_47 : tabC rowsIE 47 = row2 shC shN fun c x => if 1 ≤ c.i ∧ c.i ≤ 16 then some (u (qFull c x)) else none := rfl
theorem IE_96 : tabC rowsIE 96 = freeRow := rfl
theorem IE_23 : tabC rowsIE 23 = row4 shC shM shF shI fun c m f op => some (bv (goesE c m f op)) := rfl
theorem IE_52 : tabC rowsIE 52 = row4 shC shM shF shI fun c m f op => some (bv (goesE c m f op)) := rfl
theorem IE_26 : tabC rowsIE 26 = row2 shC shM fun c m => some (iv (eLen c m)) := rfl
theorem IE_61 : tabC rowsIE 61 = row2 shC shM fun c m => some (iv (eLen c m)) := rfl
theorem IE_62 : tabC rowsIE 62 = fun _ => none := rfl
theorem IE_67 : tabC rowsIE 67 = fun _ => none := rfl
theorem IE_68 : tabC rowsIE 68 = fun _ => none := rfl
theorem IE_69 : tabC rowsIE 69 = fun _ => none := rfl
theorem IE_70 : tabC rowsIE 70 = fun _ => none := rfl
theorem IE_71 : tabC rowsIE 71 = fun _ => none := rfl
theorem IE_72 : tabC rowsIE 72 = fun _ => none := rfl
theorem IE_44 : tabC rowsIE 44 = row1 shM fun m => some (ms m) := rfl
theorem IE_57 : tabC rowsIE 57 = row4 shM shI shN shN fun m i v w => some (.tup [ms (mCas m i v w), bv (mCasB m i v)]) := rfl
theorem IE_45 : tabC rowsIE 45 = row2 shM shI fun m i => some (u (mLoad m i)) := rfl
theorem IE_51 : tabC rowsIE 51 = row3 shM shI shN fun m i v => some (ms (mStore m i v)) := rfl
theorem IE_49 : tabC rowsIE 49 = row4 shM shI shN shN fun m i v w => some (.tup [ms (mCas m i v w), bv (mCasB m i v)]) := rfl
theorem IE_53 : tabC rowsIE 53 = row2 shM shI fun m i => some (u (mLoad m i)) := rfl
theorem IE_21 : tabC rowsIE 21 = row2 shM shM fun a b => some (bv (decide (a = b))) := rfl
theorem IE_59 : tabC rowsIE 59 = row3 shM shI shN fun m i v => some (ms (mStore m i v)) := rfl
theorem IE_66 : tabC rowsIE 66 = row1 shC fun c => some (iv (lSize c)) := rfl
theorem IE_88 : tabC rowsIE 88 = row1 shC fun c => some (iv (lSize c)) := rfl
theorem IE_27 : tabC rowsIE 27 = row1 shC fun c => some (bv (mayC c)) := rfl
theorem IE_46 : tabC rowsIE 46 = row2 shN shN fun a b => some (iv (far a b)) := rfl
theorem IE_83 : tabC rowsIE 83 = row1 shC fun c => some (bv (mayC c)) := rfl
theorem IE_55 : tabC rowsIE 55 = row2 shN shN fun a b => some (iv (far a b)) := rfl
theorem IE_95 : tabC rowsIE 95 = row2 shC shI fun c w => if mayC c = true ∧ 0 ≤ w ∧ w ≤ 8 then some (iv (lBase c w)) else none := rfl
theorem IE_63 : tabC rowsIE 63 = fun _ => none := rfl
theorem IE_65 : tabC rowsIE 65 = fun _ => none := rfl
theorem IE_86 : tabC rowsIE 86 = row1 shF fun f => some (bv (f.res != 0)) := rfl
theorem IE_56 : tabC rowsIE 56 = row3 shF shI shN fun f r v => some (fv (fEnd f r v)) := rfl
theorem IE_22 : tabC rowsIE 22 = row2 shM shM fun a b => some (bv (decide (a = b))) := rfl
theorem IE_25 : tabC rowsIE 25 = row3 shI shI shN fun o w v => some (fv (fBegin o w v)) := rfl
theorem IE_31 : tabC rowsIE 31 = row1 shF fun f => some (bv (f.res != 0)) := rfl
theorem IE_48 : tabC rowsIE 48 = row3 shF shI shN fun f r v => some (fv (fEnd f r v)) := rfl
theorem IE_74 : tabC rowsIE 74 = fun _ => none := rfl
theorem IE_75 : tabC rowsIE 75 = fun _ => none := rfl
theorem IE_76 : tabC rowsIE 76 = fun _ => none := rfl
theorem IE_73 : tabC rowsIE 73 = fun _ => none := rfl
theorem IE_24 : tabC rowsIE 24 = row2 shC shN fun c x => some (iv (eSeq c x)) := rfl
theorem IE_50 : tabC rowsIE 50 = row2 shC shN fun c x => some (iv (eVal c x)) := rfl
theorem IE_54 : tabC rowsIE 54 = row2 shC shN fun c x => some (iv (eSeq c x)) := rfl
theorem IE_58 : tabC rowsIE 58 = row2 shC shN fun c x => some (iv (eVal c x)) := rfl
theorem IE_30 : tabC rowsIE 30 = row3 shC shM shF fun c m f => some (sv (eStep c m f)) := rfl
theorem IE_77 : tabC rowsIE 77 = row3 shC shM shF fun c m f => some (sv (eStep c m f)) := rfl
theorem IE_28 : tabC rowsIE 28 = row1 shC fun c => some (ms (zeros (lSize c).toNat)) := rfl
theorem IE_all : type_of% (And.intro IE_43 <| And.intro IE_42 <| And.intro IE_33 <| And.intro IE_37 <| And.intro IE_38 <| And.intro IE_39 <| And.intro IE_40 <| And.intro IE_41 <| And.intro IE_34 <| And.intro IE_85 <| And.intro IE_84 <| And.intro IE_100 <| And.intro IE_35 <| And.intro IE_36 <| And.intro IE_82 <| And.intro IE_78 <| And.intro IE_81 <| And.intro IE_98 <| And.intro IE_79 <| And.intro IE_87 <| And.intro IE_80 <| And.intro IE_97 <| And.intro IE_19 <| And.intro IE_20 <| And.intro IE_17 <| And.intro IE_18 <| And.intro IE_60 <| And.intro IE_94 <| And.intro IE_47 <| And.intro IE_96 <| And.intro IE_23 <| And.intro IE_52 <| And.intro IE_26 <| And.intro IE_61 <| And.intro IE_62 <| And.intro IE_67 <| And.intro IE_68 <| And.intro IE_69 <| And.intro IE_70 <| And.intro IE_71 <| And.intro IE_72 <| And.intro IE_44 <| And.intro IE_57 <| And.intro IE_45 <| And.intro IE_51 <| And.intro IE_49 <| And.intro IE_53 <| And.intro IE_21 <| And.intro IE_59 <| And.intro IE_66 <| And.intro IE_88 <| And.intro IE_27 <| And.intro IE_46 <| And.intro IE_83 <| And.intro IE_55 <| And.intro IE_95 <| And.intro IE_63 <| And.intro IE_65 <| And.intro IE_86 <| And.intro IE_56 <| And.intro IE_22 <| And.intro IE_25 <| And.intro IE_31 <| And.intro IE_48 <| And.intro IE_74 <| And.intro IE_75 <| And.intro IE_76 <| And.intro IE_73 <| And.intro IE_24 <| And.intro IE_50 <| And.intro IE_54 <| And.intro IE_58 <| And.intro IE_30 <| And.intro IE_77 <| IE_28) := And.intro IE_43 <| And.intro IE_42 <| And.intro IE_33 <| And.intro IE_37 <| And.intro IE_38 <| And.intro IE_39 <| And.intro IE_40 <| And.intro IE_41 <| And.intro IE_34 <| And.intro IE_85 <| And.intro IE_84 <| And.intro IE_100 <| And.intro IE_35 <| And.intro IE_36 <| And.intro IE_82 <| And.intro IE_78 <| And.intro IE_81 <| And.intro IE_98 <| And.intro IE_79 <| And.intro IE_87 <| And.intro IE_80 <| And.intro IE_97 <| And.intro IE_19 <| And.intro IE_20 <| And.intro IE_17 <| And.intro IE_18 <| And.intro IE_60 <| And.intro IE_94 <| And.intro IE_47 <| And.intro IE_96 <| And.intro IE_23 <| And.intro IE_52 <| And.intro IE_26 <| And.intro IE_61 <| And.intro IE_62 <| And.intro IE_67 <| And.intro IE_68 <| And.intro IE_69 <| And.intro IE_70 <| And.intro IE_71 <| And.intro IE_72 <| And.intro IE_44 <| And.intro IE_57 <| And.intro IE_45 <| And.intro IE_51 <| And.intro IE_49 <| And.intro IE_53 <| And.intro IE_21 <| And.intro IE_59 <| And.intro IE_66 <| And.intro IE_88 <| And.intro IE_27 <| And.intro IE_46 <| And.intro IE_83 <| And.intro IE_55 <| And.intro IE_95 <| And.intro IE_63 <| And.intro IE_65 <| And.intro IE_86 <| And.intro IE_56 <| And.intro IE_22 <| And.intro IE_25 <| And.intro IE_31 <| And.intro IE_48 <| And.intro IE_74 <| And.intro IE_75 <| And.intro IE_76 <| And.intro IE_73 <| And.intro IE_24 <| And.intro IE_50 <| And.intro IE_54 <| And.intro IE_58 <| And.intro IE_30 <| And.intro IE_77 <| IE_28
end Go.Vai
/- What the laws ask of a play, from what always holds. -/
namespace Go.Vai
open Go.RowKit
set_option linter.unusedVariables false
set_option linter.unusedSimpArgs false

section
variable {c : Cf} {outs : List (List Bool)}

theorem nones_gave (g : Fr → Option Int) (h : g noneF = none) (n : Nat) : (List.replicate n noneF).filterMap g = [] := by
  induction n with
  | zero => rfl
  | succ n ih => rw [List.replicate_succ, List.filterMap_cons, h]; exact ih

theorem GI.start (h : mayC c = true) (hl : outs.length ≤ 1000) : GI c outs (pStart c (callsP outs)) [] 0 := by
  have f := fresh_new h
  have hi := f.inj.ipos
  have hz : ∀ i, (List.replicate (callsP outs).length noneF).getD i noneF = noneF := by
    intro i; rw [List.getD_eq_getElem?_getD, List.getElem?_replicate]; split <;> rfl
  refine ⟨⟨f.inj, f.head, f.tail, Int.le_refl _, Int.le_refl _, by simp; omega, by simp [pStart, len_callsP]; exact hl, fun s => ?_, fun g hg => ?_, ?_, ?_, ?_, (fun x h0 h1 => by have h2 : x < 0 := h1; omega), (fun x h0 h1 => by omega)⟩, by simp [pStart, len_callsP], by simp [pStart, len_callsP], (fun v hv => by cases hv), List.Pairwise.nil, (fun f hf => by simp [pStart] at hf), fun i hi => ?_⟩
  · have hm := f.inj.mod s
    refine ⟨s % c.i, mod_mod s c.i, .inl ⟨hm.1, by omega, ?_⟩⟩
    rw [Int.ediv_eq_zero_of_lt hm.1 hm.2]
    exact zeros_load _ _
  · simp only [pStart, List.nil_append, List.mem_replicate] at hg
    rw [hg.2]; exact none_ok
  · simp only [pStart, List.nil_append, List.pairwise_replicate]
    right; intro q; simp [noneF] at q
  · simp only [pStart, List.nil_append]; rw [nones_gave _ (by decide)]
  · simp only [pStart, List.nil_append]; rw [nones_gave _ (by decide)]; simp
  · refine ⟨0, Nat.zero_le _, ?_, .inl (hz i), (fun v hv => by cases hv), ?_, [], List.Pairwise.nil, (fun x hx => by cases hx), rfl, fun q => ?_, fun q => ?_⟩
    · simp [pStart, callsP, List.getD_eq_getElem?_getD, hi]
    · simp only [pStart, hz]; rfl
    · simp only [pStart, hz] at q; simp [noneF] at q
    · simp only [pStart, hz] at q; simp [noneF] at q

theorem over_step (s : Pl) (i : Nat) : (plStep c (plBegin s i) i).over = s.over := rfl

theorem GI.turn {s : Pl} {V : List Int} {H : Int} (h : GI c outs s V H) (i : Int) (hl : outs.length ≤ 50) (hs : ∀ x ∈ outs, x.length ≤ 100) (ho : s.over.length ≤ 900) : ∃ V' H', GI c outs (pTurn iStep c outs.length s i) V' H' := by
  by_cases hi : 0 ≤ i ∧ i < (outs.length : Int)
  · rw [pTurn_split hi.1 hi.2 h.hl]
    have hi' : i.toNat < outs.length := by omega
    have hL : (outs.getD i.toNat []).length ≤ 100 := by
      rw [List.getD_eq_getElem?_getD, List.getElem?_eq_getElem hi']
      exact hs _ (List.getElem_mem hi')
    obtain ⟨V', H', h2⟩ := (h.begin hi').step hi' hL
    exact ⟨V', H', h2.move hi' (by rw [over_step]; omega)⟩
  · rw [pTurn, if_neg hi]; exact ⟨V, H, h⟩

theorem GI.fold (hl : outs.length ≤ 50) (hs : ∀ x ∈ outs, x.length ≤ 100) : ∀ (who : List Int) {s : Pl} {V : List Int} {H : Int}, GI c outs s V H → s.over.length + who.length ≤ 900 → ∃ V' H', GI c outs (who.foldl (pTurn iStep c outs.length) s) V' H'
  | [], s, V, H, h, _ => ⟨V, H, h⟩
  | i :: r, s, V, H, h, ho => by
    simp only [List.length_cons] at ho
    obtain ⟨V', H', h2⟩ := h.turn i hl hs (by omega)
    have := (len_pTurn len_iStep c outs.length s i).2.2.2
    exact GI.fold hl hs r h2 (by omega)

/-- No call at hand is over. -/
def Fresh0 (s : Pl) : Prop := ∀ i, (s.hand.getD i noneF).res = 0
theorem nextP_res (i : Int) : ∀ l : List Fr, (nextP i l).1.res = 0
  | [] => rfl
  | x :: r => by
    unfold nextP
    split
    · rfl
    · exact nextP_res i r
theorem pTurn_res {st : Stp} {n : Nat} {s : Pl} (h : Fresh0 s) (i : Int) : Fresh0 (pTurn st c n s i) := by
  unfold pTurn pRound
  dsimp only
  split
  · split
    · rename_i e
      intro j
      show ((s.hand.set _ _).getD j noneF).res = 0
      rw [getD_set]
      split
      · exact e
      · exact h j
    · intro j
      show ((s.hand.set _ _).getD j noneF).res = 0
      rw [getD_set]
      split
      · rfl
      · exact h j
  · exact h

/-- What holds at a play's end. -/
theorem play_all (room : Int) (hl : outs.length ≤ 50) (hs : ∀ x ∈ outs, x.length ≤ 100) (who : List Int) (hw : who.length ≤ 900) (hm : mayC (injC room) = true) :
    ∃ V H, GI (injC room) outs (pAll iStep (injC room) (callsP outs) who) V H ∧ Fresh0 (pAll iStep (injC room) (callsP outs) who) := by
  obtain ⟨V, H, h⟩ := GI.fold (c := injC room) hl hs who (GI.start hm (by omega)) (by simp [pStart]; exact hw)
  refine ⟨V, H, ?_, ?_⟩
  · unfold pAll; rw [len_callsP]; exact h
  · exact pFold_inv Fresh0 (by intro i; simp only [pStart]; rw [List.getD_eq_getElem?_getD, List.getElem?_replicate]; split <;> rfl) (fun s i hs => pTurn_res hs i) who
theorem iPlay_no {room : Int} {calls : List (List Fr)} {who : List Int} (h : ¬ (mayC (injC room) = true ∧ calls.length ≤ 8)) : iPlay room calls who = ([], [], []) := if_neg h
theorem iPlay_yes {room : Int} {calls : List (List Fr)} {who : List Int} (h : mayC (injC room) = true ∧ calls.length ≤ 8) : iPlay room calls who = ((pAll iStep (injC room) calls who).m, (pAll iStep (injC room) calls who).over, (pAll iStep (injC room) calls who).hand) := if_pos h

theorem many_len {m V : List Int} {H : Int} {fs : List Fr} (h : Many c m V H fs) : eLen c m = V.length - H ∧ 0 ≤ eLen c m ∧ eLen c m ≤ c.i := by
  have e : eLen c m = far (mLoad m 5) (mLoad m 4) := by simp [eLen, h.inj.may, h.inj.len]
  have h1 := h.gave.length_eq
  have h2 := List.length_filterMap_le eGave fs
  have := h.few
  have := h.lo
  have := h.le
  have := h.room
  rw [h.tail, h.head, small_far (by omega) (by omega) (by omega) (by omega)] at e
  omega

/-! Who: how many of one's calls are over. -/
def whoN (i : Int) (l : List Fr) : Nat → Nat
  | 0 => 0
  | k + 1 => if (l.getD k fr0).who = i then whoN i l k + 1 else whoN i l k
theorem whoN_filter (i : Int) (l : List Fr) : ∀ k, k ≤ l.length → whoN i l k = ((l.take k).filter fun x => x.who == i).length
  | 0, _ => by simp [whoN]
  | k + 1, h => by
    rw [whoN, whoN_filter i l k (by omega), take_one (show k < l.length by omega) fr0, List.filter_append]
    by_cases q : (l.getD k fr0).who = i
    · rw [if_pos q, List.filter_cons_of_pos (by simpa using q)]; simp
    · rw [if_neg q, List.filter_cons_of_neg (by simpa using q)]; simp
theorem who_at {i : Int} {l : List Fr} {L : List Bool} {g : Nat} (h : (l.filter fun x => x.who == i).map (fun x => x.op == 4) = L.take g) {k : Nat} (hk : k < l.length) (hw : (l.getD k fr0).who = i) :
    whoN i l k < L.length ∧ L.getD (whoN i l k) false = ((l.getD k fr0).op == 4) := by
  have h1 : l = l.take k ++ l.getD k fr0 :: l.drop (k + 1) := by
    have : l.getD k fr0 = l[k] := by simp [List.getD_eq_getElem?_getD, hk]
    rw [this, ← List.drop_eq_getElem_cons hk, List.take_append_drop]
  rw [h1, List.filter_append, List.filter_cons_of_pos (by simpa using hw), List.map_append, List.map_cons] at h
  rw [whoN_filter i l k (by omega)]
  generalize (l.take k).filter (fun x => x.who == i) = A at h
  generalize l.getD k fr0 = f at h
  generalize ((l.drop (k + 1)).filter (fun x => x.who == i)).map (fun x => x.op == 4) = B at h
  have h2 := congrArg (fun x => x[A.length]?) h
  simp only [List.getElem?_append, List.length_map, Nat.lt_irrefl, if_false, Nat.sub_self, List.getElem?_cons_zero, List.getElem?_take] at h2
  split at h2
  · have h3 : L[A.length]? = some (f.op == 4) := h2.symm
    exact ⟨(List.getElem?_eq_some_iff.1 h3).1, by rw [List.getD_eq_getElem?_getD, h3]; rfl⟩
  · cases h2
theorem who_all {i : Int} {l : List Fr} {L : List Bool} {g : Nat} (hg : g ≤ L.length) (h : (l.filter fun x => x.who == i).map (fun x => x.op == 4) = L.take g) : whoN i l l.length = g := by
  rw [whoN_filter i l _ (Nat.le_refl _), List.take_of_length_le (Nat.le_refl _)]
  have := congrArg List.length h
  simp only [List.length_map, List.length_take] at this
  omega

/-! Order: the last of one's that another one has taken out. -/
def isQ (q i : Int) (f : Fr) : Bool := decide (f.op = 4 ∧ f.res = 1 ∧ f.who = q ∧ f.val / 100 = i + 1)
def lastN (q i : Int) (l : List Fr) : Nat → Int
  | 0 => 0
  | k + 1 => if isQ q i (l.getD k fr0) = true then (l.getD k fr0).val else lastN q i l k
theorem lastN_mem (q i : Int) (l : List Fr) : ∀ k, k ≤ l.length → lastN q i l k = 0 ∨ ∃ f ∈ (l.take k).filter (isQ q i), lastN q i l k = f.val
  | 0, _ => .inl rfl
  | k + 1, h => by
    have ht := take_one (show k < l.length by omega) fr0
    rw [lastN, ht, List.filter_append]
    split
    · rename_i e
      exact .inr ⟨l.getD k fr0, by rw [List.filter_cons_of_pos e]; simp, rfl⟩
    · rcases lastN_mem q i l k (by omega) with e | ⟨f, e1, e2⟩
      · exact .inl e
      · exact .inr ⟨f, by simp [e1], e2⟩
theorem GI.order {s : Pl} {V : List Int} {H : Int} (h : GI c outs s V H) {q i : Int} (hq : 0 ≤ q ∧ q < outs.length) (hi : 0 ≤ i) {k : Nat} (hk : k < s.over.length) (hf : isQ q i (s.over.getD k fr0) = true) : lastN q i s.over k < (s.over.getD k fr0).val := by
  obtain ⟨n, rfl⟩ : ∃ n : Nat, q = n := ⟨q.toNat, by omega⟩
  obtain ⟨g, e⟩ := h.each n (by omega)
  obtain ⟨xs, x1, x2, x3, _, _⟩ := e.ord
  have hp : (s.over.filter fun x => x.who == (n : Int) && x.op == 4 && x.res == 1).Pairwise fun a b => a.val / 100 = b.val / 100 → a.val < b.val := by
    have h1 : (xs.map fun x => V.getD x 0).Pairwise fun a b => a / 100 = b / 100 → a < b := by
      rw [List.pairwise_map]
      refine x1.imp_of_mem fun {a b} ha hb hab => ?_
      have l1 := x2 a ha
      have l2 := x2 b hb
      have hle := h.many.le
      have g1 : V.getD a 0 = V[a]'(by omega) := by simp [List.getD_eq_getElem?_getD, show a < V.length by omega]
      have g2 : V.getD b 0 = V[b]'(by omega) := by simp [List.getD_eq_getElem?_getD, show b < V.length by omega]
      rw [g1, g2]
      exact List.pairwise_iff_getElem.1 h.incr a b (by omega) (by omega) hab
    rw [← x3, List.pairwise_map] at h1
    exact h1
  have hf' := of_decide_eq_true hf
  rcases lastN_mem n i s.over k (by omega) with q0 | ⟨f, q1, q2⟩
  · rw [q0]; omega
  · rw [q2]
    have ht := take_one hk fr0
    have hsub : ((s.over.take (k + 1)).filter fun x => x.who == (n : Int) && x.op == 4 && x.res == 1).Pairwise fun a b => a.val / 100 = b.val / 100 → a.val < b.val :=
      hp.sublist ((List.take_sublist (k + 1) s.over).filter _)
    rw [ht, List.filter_append, List.pairwise_append] at hsub
    obtain ⟨m1, m2⟩ := List.mem_filter.1 q1
    have m2 := of_decide_eq_true m2
    refine hsub.2.2 f (List.mem_filter.2 ⟨m1, by simp [m2]⟩) _ (by rw [List.filter_cons_of_pos (by rw [hf'.1, hf'.2.1, hf'.2.2.1]; simp)]; simp) (by omega)

theorem GI.val_got {s : Pl} {V : List Int} {H : Int} (h : GI c outs s V H) {f : Fr} (hf : f ∈ s.over) (h4 : f.op = 4) (h1 : f.res = 1) : f.val ∈ V := by
  have : f.val ∈ (s.over ++ s.hand).filterMap (qGot V) := List.mem_filterMap.2 ⟨f, List.mem_append_left _ hf, by unfold qGot; rw [if_pos ⟨h4, h1⟩]⟩
  exact List.mem_of_mem_take ((h.many.got.mem_iff).1 this)
theorem GI.small {s : Pl} {V : List Int} {H : Int} (h : GI c outs s V H) (hl : outs.length ≤ 8) (hs : ∀ x ∈ outs, x.length ≤ 30) {v : Int} (hv : v ∈ V) : 100 ≤ v ∧ v < 1000 := by
  obtain ⟨i, k, h1, h2, h3, h4⟩ := h.legit v hv
  have : (outs.getD i []).length ≤ 30 := by
    rw [List.getD_eq_getElem?_getD, List.getElem?_eq_getElem h1]
    exact hs _ (List.getElem_mem h1)
  omega

/-- What InjectOrder asks. -/
theorem play_order (room : Int) (hl : outs.length ≤ 8) (hs : ∀ x ∈ outs, x.length ≤ 30) (who : List Int) (hw : who.length ≤ 500) {q i : Int} (hq : 0 ≤ q ∧ q < outs.length) (hi : 0 ≤ i) :
    ∃ sm so sh, iPlay room (callsP outs) who = (sm, so, sh) ∧ (∀ k : Nat, k < so.length → (isQ q i (so.getD k fr0) = true → lastN q i so k < (so.getD k fr0).val) ∧ ((so.getD k fr0).op = 4 → (so.getD k fr0).res = 1 → 0 ≤ (so.getD k fr0).val ∧ (so.getD k fr0).val < 1000)) := by
  by_cases hm : mayC (injC room) = true ∧ (callsP outs).length ≤ 8
  · obtain ⟨V, H, hG, hF⟩ := play_all (outs := outs) room (by omega) (fun x hx => Nat.le_trans (hs x hx) (by omega)) who (by omega) hm.1
    refine ⟨_, _, _, iPlay_yes hm, fun k hk => ⟨fun h => hG.order hq hi hk h, fun h4 h1 => ?_⟩⟩
    have hmem : (pAll iStep (injC room) (callsP outs) who).over.getD k fr0 ∈ (pAll iStep (injC room) (callsP outs) who).over := by
      have : (pAll iStep (injC room) (callsP outs) who).over.getD k fr0 = (pAll iStep (injC room) (callsP outs) who).over[k] := by simp [List.getD_eq_getElem?_getD, hk]
      rw [this]; exact List.getElem_mem _
    have := hG.small hl hs (hG.val_got hmem h4 h1)
    omega
  · exact ⟨_, _, _, iPlay_no hm, fun k hk => by simp at hk⟩

/-! Room: what was put in, less what was taken out. -/
def inN (l : List Fr) : Nat → Int
  | 0 => 0
  | k + 1 => if (l.getD k fr0).res = 1 ∧ (l.getD k fr0).op = 3 then inN l k + 1 else if (l.getD k fr0).res = 1 ∧ (l.getD k fr0).op = 4 then inN l k - 1 else inN l k
def handN (l : List Fr) : Nat → Int
  | 0 => 0
  | k + 1 => if (l.getD k fr0).op = 4 then handN l k + 1 else handN l k
theorem inN_le (V : List Int) (l : List Fr) : ∀ k, k ≤ l.length → (∀ f ∈ l, f.res ≠ 0) → inN l k = (((l.take k).filterMap eGave).length : Int) - ((l.take k).filterMap (qGot V)).length ∧ -(k : Int) ≤ inN l k ∧ inN l k ≤ k
  | 0, _, _ => by simp [inN]
  | k + 1, h, hr => by
    obtain ⟨h1, h2, h3⟩ := inN_le V l k (by omega) hr
    have ht := take_one (show k < l.length by omega) fr0
    have hm : l.getD k fr0 ∈ l := by
      have : l.getD k fr0 = l[k] := by simp [List.getD_eq_getElem?_getD, show k < l.length by omega]
      rw [this]; exact List.getElem_mem _
    have hr0 := hr _ hm
    rw [inN, ht, List.filterMap_append, List.filterMap_append, List.length_append, List.length_append]
    generalize l.getD k fr0 = f at hr0
    rw [h1] at h2 h3 ⊢
    by_cases a : f.res = 1 ∧ f.op = 3
    · have e1 : eGave f = some f.val := by unfold eGave; rw [if_pos (by omega)]
      have e2 : qGot V f = none := by unfold qGot; rw [if_neg (by omega), if_neg (by omega)]
      rw [if_pos a, List.filterMap_cons, List.filterMap_cons, e1, e2]
      simp; omega
    · rw [if_neg a]
      by_cases b : f.res = 1 ∧ f.op = 4
      · have e1 : eGave f = none := by unfold eGave; rw [if_neg (by omega)]
        have e2 : qGot V f = some f.val := by unfold qGot; rw [if_pos ⟨b.2, b.1⟩]
        rw [if_pos b, List.filterMap_cons, List.filterMap_cons, e1, e2]
        simp; omega
      · rw [if_neg b]
        have e1 : eGave f = none := by unfold eGave Holds; rw [if_neg (by omega)]
        have e2 : qGot V f = none := by unfold qGot Holds; rw [if_neg (by omega), if_neg (by omega)]
        rw [List.filterMap_cons, List.filterMap_cons, e1, e2]
        simp; omega
theorem handN_le (V : List Int) (l : List Fr) : ∀ k, k ≤ l.length → ((((l.take k).filterMap (qGot V)).length : Int) ≤ handN l k ∧ 0 ≤ handN l k ∧ handN l k ≤ k)
  | 0, _ => by simp [handN]
  | k + 1, h => by
    obtain ⟨h1, h2, h3⟩ := handN_le V l k (by omega)
    have ht := take_one (show k < l.length by omega) fr0
    rw [handN, ht, List.filterMap_append, List.length_append]
    generalize l.getD k fr0 = f
    by_cases a : f.op = 4
    · rw [if_pos a, List.filterMap_cons]
      cases qGot V f <;> simp <;> omega
    · have e2 : qGot V f = none := by unfold qGot Holds; rw [if_neg (by omega), if_neg (by omega)]
      rw [if_neg a, List.filterMap_cons, e2]
      simp; omega
theorem GI.room {s : Pl} {V : List Int} {H : Int} (h : GI c outs s V H) : inN s.over s.over.length ≤ c.i + handN s.hand s.hand.length := by
  obtain ⟨h1, _⟩ := inN_le V s.over _ (Nat.le_refl _) h.done
  obtain ⟨h2, _⟩ := handN_le V s.hand _ (Nat.le_refl _)
  rw [List.take_of_length_le (Nat.le_refl _)] at h1 h2
  have e1 := h.many.gave.length_eq
  have e2 := h.many.got.length_eq
  rw [List.filterMap_append, List.length_append] at e1 e2
  rw [List.length_take] at e2
  have := h.many.room
  have := h.many.le
  have := h.many.lo
  omega
/-- What InjectRoom asks. -/
theorem play_room (room : Int) (hl : outs.length ≤ 8) (hs : ∀ x ∈ outs, x.length ≤ 30) (who : List Int) (hw : who.length ≤ 500) (hm : mayC (injC room) = true) :
    ∃ sm so sh, iPlay room (callsP outs) who = (sm, so, sh) ∧ sm.length ≠ 0 ∧ inN so so.length ≤ room + handN sh sh.length ∧ 0 ≤ eLen (injC room) sm ∧ eLen (injC room) sm ≤ room ∧
      (∀ k, k ≤ so.length → -(k : Int) ≤ inN so k ∧ inN so k ≤ k) ∧ (∀ k, k ≤ sh.length → 0 ≤ handN sh k ∧ handN sh k ≤ k) := by
  obtain ⟨V, H, hG, hF⟩ := play_all (outs := outs) room (by omega) (fun x hx => Nat.le_trans (hs x hx) (by omega)) who (by omega) hm
  refine ⟨_, _, _, iPlay_yes ⟨hm, by rw [len_callsP]; exact hl⟩, ?_, hG.room, (many_len hG.many).2.1, (many_len hG.many).2.2, fun k hk => (inN_le V _ k hk hG.done).2, fun k hk => (handN_le V _ k hk).2⟩
  have := hG.many.inj.size
  have := hG.many.inj.ipos
  omega
end
end Go.Vai
