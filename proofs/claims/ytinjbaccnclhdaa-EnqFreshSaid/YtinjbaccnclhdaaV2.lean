/- What the abstract values of V1 say of a world, and that they go on saying it. -/
import Derived.Test.YtinjbaccnclhdaaV1
import Derived.WalkKit
import Derived.Orders
namespace Go.Vai
open Go.RowKit

structure Env where
  ρ : Nat → Option Nat
  sz : Nat → Nat
  cap : Nat → Nat
  dom : Nat → Prop
  K : Nat → Option Obj

def kcell (K : Nat → Option Obj) (a : Addr) : Option Value :=
  match K a.block with
  | some (.cells c _ _) => if a.spot.isSome then none else c[a.off]?
  | _ => none

inductive Con (E : Env) : AV → Value → Prop
  | top (x : Value) : Con E .top x
  | v (x : Value) : Con E (.v x) x
  | agg (cs : List AV) (xs : Array Value) (hl : cs.length = xs.size) (h : ∀ (i : Nat) (a : AV) (x : Value), cs[i]? = some a → xs[i]? = some x → Con E a x) : Con E (.agg cs) (.agg xs)
  | tup (cs : List AV) (xs : Array Value) (hl : cs.length = xs.size) (h : ∀ (i : Nat) (a : AV) (x : Value), cs[i]? = some a → xs[i]? = some x → Con E a x) : Con E (.tup cs) (.tuple xs)
  | lst (sz : Nat) (xs : List AV) (A : Option Addr) (n c : Nat) (ad : Addr) (y : Nat → Nat → Value) (hn : xs.length = n) (hc : n ≤ c) (hA : xs ≠ [] → A = some ad)
      (hs : ∀ (i : Nat) (a : AV), xs[i]? = some a → a.cells.length = sz)
      (hk : ∀ (i : Nat) (a : AV) (j : Nat) (b : AV), xs[i]? = some a → a.cells[j]? = some b → kcell E.K (ad.add (i * sz + j)) = some (y i j))
      (h1 : ∀ (i : Nat) (a : AV) (j : Nat) (b : AV), xs[i]? = some a → a.cells[j]? = some b → (y i j).oneCell' = true)
      (h : ∀ (i : Nat) (a : AV) (j : Nat) (b : AV), xs[i]? = some a → a.cells[j]? = some b → Con E b (y i j)) : Con E (.lst sz xs) (.slice A n c)
  | rptr (cs : List AV) (ad : Addr) (y : Nat → Value)
      (hk : ∀ (j : Nat) (b : AV), cs[j]? = some b → kcell E.K (ad.add j) = some (y j)) (h1 : ∀ (j : Nat) (b : AV), cs[j]? = some b → (y j).oneCell' = true)
      (h : ∀ (j : Nat) (b : AV), cs[j]? = some b → Con E b (y j)) : Con E (.rptr cs) (.pointer (some ad))
  | ptr (id i off g : Nat) (hd : E.dom id) (hg : E.ρ id = some g) : Con E (.ptr id i off) (.pointer (some ⟨g, i * E.sz id + off, none⟩))
  | arr (id off len g o c : Nat) (hd : E.dom id) (hg : E.ρ id = some g) (ho : c = 0 ∨ o = off * E.sz id) (hc : off + c ≤ E.cap id) (hl : len ≤ c) :
      Con E (.arr id off len) (.slice (some ⟨g, o, none⟩) len c)
  | arr0 (id : Nat) (hd : E.dom id) (hg : E.ρ id = none) : Con E (.arr id 0 0) (.slice none 0 0)
  | fn (f : Fn) (a b : List AV) (xs ys : Array Value) (hl : a.length = xs.size) (hm : b.length = ys.size)
      (h : ∀ (i : Nat) (u : AV) (x : Value), a[i]? = some u → xs[i]? = some x → Con E u x) (h' : ∀ (i : Nat) (u : AV) (x : Value), b[i]? = some u → ys[i]? = some x → Con E u x) : Con E (.fn f a b) (.func f xs ys)
  | nb (xs : List AV) (e b : Bool) (h : b = e → xs = []) : Con E (.nb xs e) (.bool b)

/-- E' knows what E knows. -/
structure Env.le (E E' : Env) : Prop where
  dom : ∀ id, E.dom id → E'.dom id
  ρ : ∀ id, E.dom id → E'.ρ id = E.ρ id
  sz : ∀ id, E.dom id → E'.sz id = E.sz id
  cap : ∀ id, E.dom id → E'.cap id = E.cap id
  K : ∀ b o, E.K b = some o → E'.K b = some o

theorem Env.le.refl (E : Env) : E.le E := ⟨fun _ h => h, fun _ _ => rfl, fun _ _ => rfl, fun _ _ => rfl, fun _ _ h => h⟩
theorem Env.le.trans {A B C : Env} (h : A.le B) (k : B.le C) : A.le C :=
  ⟨fun i d => k.dom i (h.dom i d), fun i d => (k.ρ i (h.dom i d)).trans (h.ρ i d), fun i d => (k.sz i (h.dom i d)).trans (h.sz i d),
   fun i d => (k.cap i (h.dom i d)).trans (h.cap i d), fun b o d => k.K b o (h.K b o d)⟩

theorem kcell_mono {K K' : Nat → Option Obj} (h : ∀ b o, K b = some o → K' b = some o) {a : Addr} {v : Value} (hk : kcell K a = some v) : kcell K' a = some v := by
  unfold kcell at hk ⊢
  cases hb : K a.block with
  | none => simp [hb] at hk
  | some o => rw [hb] at hk; rw [h _ _ hb]; exact hk

theorem Con.mono {E E' : Env} (hE : E.le E') {a : AV} {v : Value} (h : Con E a v) : Con E' a v := by
  induction h with
  | top x => exact .top x
  | v x => exact .v x
  | agg cs xs hl h ih => exact .agg cs xs hl ih
  | tup cs xs hl h ih => exact .tup cs xs hl ih
  | lst sz xs A n c ad y hn hc hA hs hk h1 h ih => exact .lst sz xs A n c ad y hn hc hA hs (fun i a j b e e' => kcell_mono hE.K (hk i a j b e e')) h1 ih
  | rptr cs ad y hk h1 h ih => exact .rptr cs ad y (fun j b e => kcell_mono hE.K (hk j b e)) h1 ih
  | ptr id i off g hd hg =>
    rw [← hE.sz id hd]
    exact .ptr id i off g (hE.dom id hd) ((hE.ρ id hd).trans hg)
  | arr id off len g o c hd hg ho hc hl =>
    exact .arr id off len g o c (hE.dom id hd) ((hE.ρ id hd).trans hg) (by rw [hE.sz id hd]; exact ho) (by rw [hE.cap id hd]; exact hc) hl
  | arr0 id hd hg => exact .arr0 id (hE.dom id hd) ((hE.ρ id hd).trans hg)
  | fn f a b xs ys hl hm h h' ih ih' => exact .fn f a b xs ys hl hm ih ih'
  | nb xs e b h => exact .nb xs e b h

/-- What lies in a block. -/
def Els (E : Env) (cur : Array Value) (sz : Nat) (el : List AV) : Prop :=
  ∀ i a, el[i]? = some a → a.cells.length = sz ∧ ∀ j x, a.cells[j]? = some x → ∃ y, cur[i * sz + j]? = some y ∧ y.oneCell' = true ∧ Con E x y

theorem Els.mono {E E' : Env} (hE : E.le E') {cur : Array Value} {sz : Nat} {el : List AV} (h : Els E cur sz el) : Els E' cur sz el :=
  fun i a hi => ⟨(h i a hi).1, fun j x hj => let ⟨y, a1, a2, a3⟩ := (h i a hi).2 j x hj; ⟨y, a1, a2, a3.mono hE⟩⟩

def Own (E : Env) (w : World) (B : Nat) (id : Nat) (b : Blk) : Prop :=
  E.dom id ∧ E.sz id = b.sz ∧ 0 < b.sz ∧ E.cap id ≤ maxLen ∧
  ((E.ρ id = none ∧ b.el = [] ∧ E.cap id = 0) ∨
   ∃ g cur, E.ρ id = some g ∧ B ≤ g ∧ w.heap[g]? = some (.cells cur b.ty (0, 0)) ∧ cur.size = E.cap id * b.sz ∧ b.el.length ≤ E.cap id ∧
     (b.ro = false → E.K g = none) ∧ (b.ro = true → E.K g = some (.cells cur b.ty (0, 0))) ∧ Els E cur b.sz b.el)

/-- What a state says of a frame and a world; D: the names that may be in use. -/
structure Rel (w0 : World) (K0 : Nat → Option Obj) (D : Nat → Prop) (E : Env) (n : Nat) (fr : Frm) (hp : Hp) (a : Act) (w : World) : Prop where
  below : Below w0.heap.size w0 w
  kw : ∀ b o, E.K b = some o → w.heap[b]? = some o
  k0 : ∀ b o, E.K b = some o → b < w0.heap.size → K0 b = some o
  nd : a.defers = []
  size : a.tmps.size = n
  regs : ∀ t, t < n → Con E (lkp fr t) (a.tmps.getD t undef)
  dom : ∀ id, E.dom id → D id
  out : ∀ t, n ≤ t → lkp fr t = .top
  own : ∀ id b, hlk hp id = some b → Own E w w0.heap.size id b
  inj : ∀ id id' b b' g, hlk hp id = some b → hlk hp id' = some b' → E.ρ id = some g → E.ρ id' = some g → id = id'

theorem lkp_cons (d : Nat) (x : AV) (r : Frm) (t : Nat) : lkp ((d, x) :: r) t = if t = d then x else lkp r t := by
  show (match Nat.beq t d with | true => x | false => lkp r t) = _
  cases h : Nat.beq t d with
  | true => rw [if_pos (Nat.eq_of_beq_eq_true h)]
  | false => rw [if_neg (Nat.ne_of_beq_eq_false h)]
theorem hlk_cons (d : Nat) (x : Option Blk) (r : Hp) (t : Nat) : hlk ((d, x) :: r) t = if t = d then x else hlk r t := by
  show (match Nat.beq t d with | true => x | false => hlk r t) = _
  cases h : Nat.beq t d with
  | true => rw [if_pos (Nat.eq_of_beq_eq_true h)]
  | false => rw [if_neg (Nat.ne_of_beq_eq_false h)]

section
variable {w0 : World} {K0 : Nat → Option Obj} {D : Nat → Prop} {E : Env} {n : Nat} {fr : Frm} {hp : Hp} {a : Act} {w : World}

/-- A temporary is written. -/
theorem Rel.put (h : Rel w0 K0 D E n fr hp a w) {d : Nat} (hd : d < n) {x : AV} {v : Value} (hx : Con E x v) :
    Rel w0 K0 D E n ((d, x) :: fr) hp (a.put (some d) v) w where
  below := h.below
  kw := h.kw
  k0 := h.k0
  nd := h.nd
  size := by simp [Act.put, h.size]
  regs := fun t ht => by
    rw [lkp_cons]
    have hs := h.size
    by_cases e : t = d
    · subst e
      rw [if_pos rfl]
      have : (a.put (some t) v).tmps.getD t undef = v := by
        simp only [Act.put]
        rw [Array.getD_eq_getD_getElem?, Array.getElem?_setIfInBounds_self_of_lt (by omega)]
        rfl
      rw [this]; exact hx
    · rw [if_neg e]
      have : (a.put (some d) v).tmps.getD t undef = a.tmps.getD t undef := by
        simp only [Act.put]
        rw [Array.getD_eq_getD_getElem?, Array.getElem?_setIfInBounds_ne (by omega), Array.getD_eq_getD_getElem?]
      rw [this]; exact h.regs t ht
  dom := h.dom
  out := fun t ht => by rw [lkp_cons, if_neg (by omega)]; exact h.out t ht
  own := h.own
  inj := h.inj

theorem Rel.skip (h : Rel w0 K0 D E n fr hp a w) {v : Value} : Rel w0 K0 D E n fr hp (a.put none v) w := h

/-- What an operand holds. -/
theorem Rel.ev (h : Rel w0 K0 D E n fr hp a w) (x : Operand) : Con E (evo fr x) (a.eval x) := by
  cases x with
  | tmp t =>
    simp only [evo, Act.eval]
    by_cases ht : t < n
    · exact h.regs t ht
    · rw [h.out t (Nat.le_of_not_lt ht)]; exact .top _
  | const v => exact .v v
  | func f => exact .fn (.func f) [] [] #[] #[] rfl rfl (by simp) (by simp)
  | global g => exact .top _

theorem heap_lt {w : World} {g : Nat} {o : Obj} (h : w.heap[g]? = some o) : g < w.heap.size := (Array.getElem?_eq_some_iff.1 h).1

/-- More may be known of the names in use. -/
theorem Rel.names (h : Rel w0 K0 D E n fr hp a w) {D' : Nat → Prop} (hD : ∀ id, E.dom id → D' id) : Rel w0 K0 D' E n fr hp a w :=
  { h with dom := hD }

/-- A draw. -/
theorem Rel.drew (h : Rel w0 K0 D E n fr hp a w) : Rel w0 K0 D E n fr hp a w.drew :=
  { below := ⟨h.below.os, h.below.tape, h.below.output, h.below.size, h.below.block⟩, kw := h.kw, k0 := h.k0, nd := h.nd, size := h.size, regs := h.regs, dom := h.dom, out := h.out, own := h.own, inj := h.inj }

def Env.add (E : Env) (me : Nat) (g : Option Nat) (sz cap : Nat) : Env :=
  { ρ := fun i => if i = me then g else E.ρ i, sz := fun i => if i = me then sz else E.sz i, cap := fun i => if i = me then cap else E.cap i, dom := fun i => i = me ∨ E.dom i, K := E.K }

theorem Env.le_add {E : Env} {me : Nat} (h : ¬ E.dom me) (g : Option Nat) (sz cap : Nat) : E.le (E.add me g sz cap) :=
  ⟨fun _ d => .inr d, fun i d => if_neg (fun (e : i = me) => h (e ▸ d)), fun i d => if_neg (fun (e : i = me) => h (e ▸ d)), fun i d => if_neg (fun (e : i = me) => h (e ▸ d)), fun _ _ k => k⟩

theorem Own.mono {E E' : Env} {w w' : World} {B id : Nat} {b : Blk} (hE : E.le E') (h : Own E w B id b) (hK : ∀ g, E.ρ id = some g → E'.K g = E.K g)
    (hw : ∀ g, E.ρ id = some g → g < w.heap.size → w'.heap[g]? = w.heap[g]?) : Own E' w' B id b := by
  obtain ⟨hd, hs, hp, hm, h⟩ := h
  refine ⟨hE.dom id hd, (hE.sz id hd).trans hs, hp, by rw [hE.cap id hd]; exact hm, ?_⟩
  rcases h with ⟨h1, h2, h3⟩ | ⟨g, cur, h1, h2, h3, h4, h5, h6, h7, h8⟩
  · exact .inl ⟨(hE.ρ id hd).trans h1, h2, (hE.cap id hd).trans h3⟩
  · refine .inr ⟨g, cur, (hE.ρ id hd).trans h1, h2, (hw g h1 (heap_lt h3)).trans h3, by rw [hE.cap id hd]; exact h4, by rw [hE.cap id hd]; exact h5, ?_, ?_, h8.mono hE⟩
    · intro hr; rw [hK g h1]; exact h6 hr
    · intro hr; rw [hK g h1]; exact h7 hr

theorem Own.ρ_lt {E : Env} {w : World} {B id : Nat} {b : Blk} (h : Own E w B id b) {g : Nat} (hg : E.ρ id = some g) : g < w.heap.size := by
  rcases h.2.2.2.2 with ⟨h1, _⟩ | ⟨g', cur, h1, _, h3, _⟩
  · rw [h1] at hg; cases hg
  · rw [h1] at hg; cases hg; exact heap_lt h3

/-- A new block. -/
theorem Rel.alloc (h : Rel w0 K0 D E n fr hp a w) {me : Nat} (hme : ¬ E.dom me) {D' : Nat → Prop} (hD : ∀ id, D id ∨ id = me → D' id) (cs : Array Value) (t : TypeId) (sz cap : Nat) (el : List AV)
    (hsz : 0 < sz) (hcap : cap ≤ maxLen) (hcs : cs.size = cap * sz) (hel : el.length ≤ cap) (hEl : Els (E.add me (some w.heap.size) sz cap) cs sz el) :
    Rel w0 K0 D' (E.add me (some w.heap.size) sz cap) n fr ((me, some ⟨false, t, sz, el⟩) :: hp) a (w.alloc (.cells cs t (0, 0))) where
  below := h.below.alloc h.below.size _
  kw := fun b o hb => by
    have := h.kw b o hb
    rw [Below.heap_alloc w _ b (heap_lt this)]; exact this
  k0 := h.k0
  nd := h.nd
  size := h.size
  regs := fun t ht => (h.regs t ht).mono (Env.le_add hme ..)
  dom := fun id hd => hD id (hd.elim .inr fun d => .inl (h.dom id d))
  out := h.out
  own := fun id b hb => by
    rw [hlk_cons] at hb
    by_cases e : id = me
    · subst e
      rw [if_pos rfl] at hb; cases hb
      refine ⟨.inl rfl, if_pos rfl, hsz, by simpa [Env.add] using hcap, .inr ⟨w.heap.size, cs, if_pos rfl, h.below.size, ?_, ?_, ?_, ?_, fun hr => (by cases hr), hEl⟩⟩
      · show (w.heap.push _)[w.heap.size]? = _; simp
      · simpa [Env.add] using hcs
      · simpa [Env.add] using hel
      · intro _
        show E.K w.heap.size = none
        cases hk : E.K w.heap.size with
        | none => rfl
        | some o => have := heap_lt (h.kw _ _ hk); omega
    · rw [if_neg e] at hb
      exact (h.own id b hb).mono (Env.le_add hme ..) (fun _ _ => rfl) (fun g _ hl => Below.heap_alloc w _ g hl)
  inj := fun id id' b b' g hb hb' hg hg' => by
    rw [hlk_cons] at hb hb'
    by_cases e : id = me <;> by_cases e' : id' = me
    · rw [e, e']
    · subst e
      rw [if_neg e'] at hb'
      simp only [Env.add, if_true, if_neg e'] at hg hg'
      have := (h.own id' b' hb').ρ_lt hg'
      cases hg; omega
    · subst e'
      rw [if_neg e] at hb
      simp only [Env.add, if_true, if_neg e] at hg hg'
      have := (h.own id b hb).ρ_lt hg
      cases hg'; omega
    · rw [if_neg e] at hb; rw [if_neg e'] at hb'
      simp only [Env.add, if_neg e, if_neg e'] at hg hg'
      exact h.inj id id' b b' g hb hb' hg hg'

/-- A name for a list that is not there yet. -/
theorem Rel.virt (h : Rel w0 K0 D E n fr hp a w) {me : Nat} (hme : ¬ E.dom me) {D' : Nat → Prop} (hD : ∀ id, D id ∨ id = me → D' id) (t : TypeId) (sz : Nat) (hsz : 0 < sz) :
    Rel w0 K0 D' (E.add me none sz 0) n fr ((me, some ⟨false, t, sz, []⟩) :: hp) a w where
  below := h.below
  kw := h.kw
  k0 := h.k0
  nd := h.nd
  size := h.size
  regs := fun t ht => (h.regs t ht).mono (Env.le_add hme ..)
  dom := fun id hd => hD id (hd.elim .inr fun d => .inl (h.dom id d))
  out := h.out
  own := fun id b hb => by
    rw [hlk_cons] at hb
    by_cases e : id = me
    · subst e
      rw [if_pos rfl] at hb; cases hb
      exact ⟨.inl rfl, if_pos rfl, hsz, by simp [Env.add], .inl ⟨if_pos rfl, rfl, if_pos rfl⟩⟩
    · rw [if_neg e] at hb
      exact (h.own id b hb).mono (Env.le_add hme ..) (fun _ _ => rfl) (fun g _ hl => rfl)
  inj := fun id id' b b' g hb hb' hg hg' => by
    rw [hlk_cons] at hb hb'
    by_cases e : id = me <;> by_cases e' : id' = me
    · rw [e, e']
    · subst e; simp [Env.add] at hg
    · subst e'; simp [Env.add] at hg'
    · rw [if_neg e] at hb; rw [if_neg e'] at hb'
      simp only [Env.add, if_neg e, if_neg e'] at hg hg'
      exact h.inj id id' b b' g hb hb' hg hg'

/-- A block of the call's own is written. -/
theorem Rel.write (h : Rel w0 K0 D E n fr hp a w) {id : Nat} {b : Blk} (hb : hlk hp id = some b) (hro : b.ro = false) {g : Nat} {cur : Array Value} (hg : E.ρ id = some g)
    (hc : w.heap[g]? = some (.cells cur b.ty (0, 0))) (cur' : Array Value) (hs : cur'.size = cur.size) (el : List AV) (hl : el.length = b.el.length) (hEl : Els E cur' b.sz el) :
    Rel w0 K0 D E n fr ((id, some { b with el := el }) :: hp) a (w.setRow g cur') := by
  have hown := h.own id b hb
  have hKg : E.K g = none := by
    rcases hown.2.2.2.2 with ⟨h1, _⟩ | ⟨g', cur'', h1, _, _, _, _, h6, _⟩
    · rw [h1] at hg; cases hg
    · rw [h1] at hg; cases hg; exact h6 hro
  have hBg : w0.heap.size ≤ g := by
    rcases hown.2.2.2.2 with ⟨h1, _⟩ | ⟨g', cur'', h1, h2, _⟩
    · rw [h1] at hg; cases hg
    · rw [h1] at hg; cases hg; exact h2
  have hsz : (w.setRow g cur').heap.size = w.heap.size := by simp [World.setRow]
  have hot : ∀ k, k ≠ g → (w.setRow g cur').heap[k]? = w.heap[k]? := fun k hk => setRow_other w g k cur' hk
  refine { below := ?_, kw := ?_, k0 := h.k0, nd := h.nd, size := h.size, regs := h.regs, dom := h.dom, out := h.out, own := ?_, inj := ?_ }
  · exact ⟨h.below.os, h.below.tape, h.below.output, by rw [hsz]; exact h.below.size, fun k hk => (hot k (by omega)).trans (h.below.block k hk)⟩
  · intro k o hk
    have hne : k ≠ g := fun e => by rw [e, hKg] at hk; cases hk
    rw [hot k hne]; exact h.kw k o hk
  · intro id' b' hb'
    rw [hlk_cons] at hb'
    by_cases e : id' = id
    · subst e
      rw [if_pos rfl] at hb'; cases hb'
      obtain ⟨hd, hs1, hp1, hm1, h1⟩ := hown
      refine ⟨hd, hs1, hp1, hm1, ?_⟩
      rcases h1 with ⟨h1, _⟩ | ⟨g', cur'', h1, h2, h3, h4, h5, h6, h7, h8⟩
      · rw [h1] at hg; cases hg
      · rw [h1] at hg; cases hg
        rw [hc] at h3; cases h3
        exact .inr ⟨g, cur', h1, h2, setRow_heap w g cur cur' b.ty (0, 0) hc, by rw [hs]; exact h4, by rw [hl]; exact h5, fun _ => hKg, fun hr => (by rw [hro] at hr; cases hr), hEl⟩
    · rw [if_neg e] at hb'
      refine (h.own id' b' hb').mono (Env.le.refl E) (fun _ _ => rfl) (fun g' hg' hl => hot g' ?_)
      intro e'
      subst e'
      exact e (h.inj id' id b' b g' hb' hb hg' hg)
  · intro id1 id2 b1 b2 g' h1 h2 hg1 hg2
    rw [hlk_cons] at h1 h2
    have f : ∀ i x, (if i = id then some { b with el := el } else hlk hp i) = some x → ∃ y, hlk hp i = some y := by
      intro i x hx
      by_cases e : i = id
      · exact ⟨b, e ▸ hb⟩
      · rw [if_neg e] at hx; exact ⟨x, hx⟩
    obtain ⟨y1, hy1⟩ := f id1 b1 h1
    obtain ⟨y2, hy2⟩ := f id2 b2 h2
    exact h.inj id1 id2 y1 y2 g' hy1 hy2 hg1 hg2

/-- A block is forgotten. -/
theorem Rel.kill (h : Rel w0 K0 D E n fr hp a w) (id : Nat) : Rel w0 K0 D E n fr ((id, none) :: hp) a w := by
  have f : ∀ i x, hlk ((id, none) :: hp) i = some x → i ≠ id ∧ hlk hp i = some x := by
    intro i x hx
    rw [hlk_cons] at hx
    by_cases e : i = id
    · rw [if_pos e] at hx; cases hx
    · rw [if_neg e] at hx; exact ⟨e, hx⟩
  exact { h with own := fun i x hx => h.own i x (f i x hx).2, inj := fun i j x y g hx hy => h.inj i j x y g (f i x hx).2 (f j y hy).2 }

end

end Go.Vai
