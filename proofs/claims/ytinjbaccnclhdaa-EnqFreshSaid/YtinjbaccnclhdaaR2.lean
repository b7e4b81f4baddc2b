/- What came in, read as the evaluator's values: numbers, structs of numbers, and lists of such. -/
import Derived.Test.YtinjbaccnclhdaaF1
import Derived.ChangeArms
import Derived.ChangeShapes
import Derived.DataElems
namespace Go.Vai
open Go.RowKit Go.WideShapes Go.ChangeShapes

/-- Numbers in their range. -/
def InI (x : Int) : Prop := -9223372036854775808 ≤ x ∧ x < 9223372036854775808
def InU (x : Int) : Prop := 0 ≤ x ∧ x < 18446744073709551616
theorem in_i {x : Int} (h : (Lit.int .i64 x).wf = true) : InI x := by
  have e1 : IntKind.min .i64 = -9223372036854775808 := by decide
  have e2 : IntKind.max .i64 = 9223372036854775807 := by decide
  simp only [Lit.wf, e1, e2, Bool.and_eq_true, decide_eq_true_eq] at h
  unfold InI; omega
theorem in_u {x : Int} (h : (Lit.int .u64 x).wf = true) : InU x := by
  have e1 : IntKind.min .u64 = 0 := by decide
  have e2 : IntKind.max .u64 = 18446744073709551615 := by decide
  simp only [Lit.wf, e1, e2, Bool.and_eq_true, decide_eq_true_eq] at h
  unfold InU; omega

/-- How what lies in cells is read as a value. -/
structure Rdr (P : Program) (e : TypeId) (α : Type) where
  n : Nat
  av : α → AV
  wf : α → Prop
  size : P.cellsOf e = n
  len : ∀ x, (av x).cells.length = n
  rd : ∀ {H : Type} (enc : TypeId × Value → H) (w : World) (base : Nat) (spare : Nat → Bool) (held : Bool) (fuel : Nat) (cs : List Value) (d : DataW H × List MemPlace),
    DataW.trod enc P w base spare held fuel e cs = some d → ∃ x, wf x ∧ cs.length = n ∧ ∀ (j : Nat) (a : AV) (c : Value), (av x).cells[j]? = some a → cs[j]? = some c → c.oneCell' = true ∧ Con (Env.bare (allK w)) a c

def rdInt {P : Program} {e : TypeId} {k : IntKind} (ht : P.underlying e = some (.int k)) (hc : P.cellsOf e = 1) : Rdr P e Int where
  n := 1
  av := fun x => .v (.int k x)
  wf := fun x => (Lit.int k x).wf = true
  size := hc
  len := fun _ => rfl
  rd := fun enc w base spare held fuel cs d h => by
    obtain ⟨z, rfl, _, hw⟩ := DataW.trod_int ht h
    refine ⟨z, hw, rfl, fun j a c ha hcj => ?_⟩
    cases j with
    | zero => simp [AV.cells] at ha hcj; subst ha; subst hcj; exact ⟨rfl, .v _⟩
    | succ j => simp at hcj

def rdBool {P : Program} {e : TypeId} (ht : P.underlying e = some .bool) (hc : P.cellsOf e = 1) : Rdr P e Bool where
  n := 1
  av := bv
  wf := fun _ => True
  size := hc
  len := fun _ => rfl
  rd := fun enc w base spare held fuel cs d h => by
    obtain ⟨z, rfl, _⟩ := DataW.trod_bool ht h
    refine ⟨z, trivial, rfl, fun j a c ha hcj => ?_⟩
    cases j with
    | zero => simp [bv, AV.cells] at ha hcj; subst ha; subst hcj; exact ⟨rfl, .v _⟩
    | succ j => simp at hcj

/-- Fields of one number each. -/
def fieldsB (P : Program) (fs : Array Field) (ks : List IntKind) : Bool :=
  fs.size == ks.length && (List.range ks.length).all fun i => match fs[i]?, ks[i]? with
    | some f, some k => f.offset == i && P.cellsOf f.type == 1 && (match P.underlying f.type with | some (.int k') => decide (k' = k) | _ => false)
    | _, _ => false

theorem struct_ints {H : Type} {enc : TypeId × Value → H} {P : Program} {w : World} {base : Nat} {spare : Nat → Bool} {held : Bool} {fuel : Nat} {t : TypeId} {fs : Array Field} {ks : List IntKind} {cs : List Value} {x : DataW H × List MemPlace}
    (ht : P.underlying t = some (.struct fs)) (hC : P.cellsOf t = ks.length) (hB : fieldsB P fs ks = true) (h : DataW.trod enc P w base spare held fuel t cs = some x) :
    cs.length = ks.length ∧ ∀ (i : Nat) (k : IntKind), ks[i]? = some k → ∃ z, cs[i]? = some (.int k z) ∧ (Lit.int k z).wf = true := by
  obtain ⟨xs, n, _, _, hl, hlen, hf⟩ := DataW.trod_struct ht h
  refine ⟨hl.trans hC, fun i k hk => ?_⟩
  unfold fieldsB at hB
  rw [Bool.and_eq_true, List.all_eq_true] at hB
  have hi : i < ks.length := (List.getElem?_eq_some_iff.1 hk).1
  have := hB.2 i (by simp [hi])
  rw [hk] at this
  cases hfi : fs[i]? with
  | none => rw [hfi] at this; cases this
  | some f =>
    rw [hfi] at this
    simp only [Bool.and_eq_true, beq_iff_eq] at this
    obtain ⟨⟨h1, h2⟩, h3⟩ := this
    have hu : P.underlying f.type = some (.int k) := by
      split at h3
      · rename_i k' he
        rw [he, of_decide_eq_true h3]
      · cases h3
    have hx := hf i f hfi
    have hxi : i < xs.length := by rw [hlen]; exact (Array.getElem?_eq_some_iff.1 hfi).1
    rw [List.getElem?_eq_getElem hxi, h1, h2] at hx
    obtain ⟨z, hz, _, hw⟩ := DataW.trod_int hu hx
    refine ⟨z, ?_, hw⟩
    have : ((cs.drop i).take 1)[0]? = some (.int k z) := by rw [hz]; rfl
    simpa using this

def frKinds : List IntKind := [.i64, .i64, .i64, .u64, .u64, .u64, .i64]

/-- A frame in its range. -/
def Fr.wf (f : Fr) : Prop := InI f.op ∧ InI f.pc ∧ InI f.who ∧ InU f.val ∧ InU f.x ∧ InU f.y ∧ InI f.res

def rdFr {P : Program} {t : TypeId} {fs : Array Field} (ht : P.underlying t = some (.struct fs)) (hC : P.cellsOf t = 7) (hB : fieldsB P fs frKinds = true) : Rdr P t Fr where
  n := 7
  av := fv
  wf := Fr.wf
  size := hC
  len := fun _ => rfl
  rd := fun enc w base spare held fuel cs d h => by
    obtain ⟨hl, hz⟩ := struct_ints ht (ks := frKinds) hC hB h
    obtain ⟨z0, e0, w0⟩ := hz 0 .i64 rfl
    obtain ⟨z1, e1, w1⟩ := hz 1 .i64 rfl
    obtain ⟨z2, e2, w2⟩ := hz 2 .i64 rfl
    obtain ⟨z3, e3, w3⟩ := hz 3 .u64 rfl
    obtain ⟨z4, e4, w4⟩ := hz 4 .u64 rfl
    obtain ⟨z5, e5, w5⟩ := hz 5 .u64 rfl
    obtain ⟨z6, e6, w6⟩ := hz 6 .i64 rfl
    refine ⟨⟨z0, z1, z2, z3, z4, z5, z6⟩, ⟨in_i w0, in_i w1, in_i w2, in_u w3, in_u w4, in_u w5, in_i w6⟩, hl, fun j a c ha hcj => ?_⟩
    match j with
    | 0 => rw [e0] at hcj; cases hcj; cases ha; exact ⟨rfl, .v _⟩
    | 1 => rw [e1] at hcj; cases hcj; cases ha; exact ⟨rfl, .v _⟩
    | 2 => rw [e2] at hcj; cases hcj; cases ha; exact ⟨rfl, .v _⟩
    | 3 => rw [e3] at hcj; cases hcj; cases ha; exact ⟨rfl, .v _⟩
    | 4 => rw [e4] at hcj; cases hcj; cases ha; exact ⟨rfl, .v _⟩
    | 5 => rw [e5] at hcj; cases hcj; cases ha; exact ⟨rfl, .v _⟩
    | 6 => rw [e6] at hcj; cases hcj; cases ha; exact ⟨rfl, .v _⟩
    | j + 7 => cases ha

theorem list_of {α : Type} {Q : Nat → α → Prop} : ∀ n : Nat, (∀ i, i < n → ∃ x, Q i x) → ∃ l : List α, l.length = n ∧ ∀ (i : Nat) (x : α), l[i]? = some x → Q i x
  | 0, _ => ⟨[], rfl, fun i x h => by cases h⟩
  | n + 1, h => by
    obtain ⟨l, hl, hq⟩ := list_of n fun i hi => h i (by omega)
    obtain ⟨x, hx⟩ := h n (by omega)
    refine ⟨l ++ [x], by simp [hl], fun i y hy => ?_⟩
    rw [List.getElem?_append] at hy
    split at hy
    · exact hq i y hy
    · rename_i hi
      rw [List.getElem?_singleton] at hy
      split at hy
      · cases hy
        rw [show i = n by omega]; exact hx
      · cases hy

def rdSlice {P : Program} {t e : TypeId} {α : Type} (r : Rdr P e α) (ht : P.underlying t = some (.slice e)) (hc : P.cellsOf t = 1) : Rdr P t (List α) where
  n := 1
  av := fun l => .lst r.n (l.map r.av)
  wf := fun l => l.length ≤ maxLen ∧ ∀ x ∈ l, r.wf x
  size := hc
  len := fun _ => rfl
  rd := fun enc w base spare held fuel cs d h => by
    rcases DataW.trod_slice ht h with ⟨rfl, _⟩ | ⟨a, len, cap, elems, rest, m, _, rfl, _, hb, hlc, hm, hlen, hel, _⟩
    · refine ⟨[], ⟨Nat.zero_le _, by simp⟩, rfl, fun j a c ha hcj => ?_⟩
      cases j with
      | zero =>
        simp [AV.cells] at ha hcj; subst ha; subst hcj
        exact ⟨rfl, .lst _ _ none 0 0 ⟨0, 0, none⟩ (fun _ _ => undef) (by simp) (Nat.le_refl _) (by simp) (by simp) (by simp) (by simp) (by simp)⟩
      | succ j => simp at hcj
    · obtain ⟨l, hl, hq⟩ := list_of (Q := fun i x => r.wf x ∧ ∃ cs', w.cells? base (a.add (i * r.n)) r.n = some cs' ∧ ∀ (j : Nat) (a : AV) (c : Value), (r.av x).cells[j]? = some a → cs'[j]? = some c → c.oneCell' = true ∧ Con (Env.bare (allK w)) a c) len (fun i hi => by
        have h1 := hel i hi
        rw [List.getElem?_eq_getElem (by omega), Option.bind_eq_some_iff] at h1
        obtain ⟨cs', h2, h3⟩ := h1
        obtain ⟨x, h4, h5, h6⟩ := r.rd enc w base spare held m cs' _ h3
        rw [r.size] at h2
        exact ⟨x, h4, cs', h2, h6⟩)
      refine ⟨l, ⟨by omega, fun x hx => ?_⟩, rfl, fun j b c hb hcj => ?_⟩
      · obtain ⟨i, hi⟩ := List.getElem?_of_mem hx
        exact (hq i x hi).1
      · cases j with
        | succ j => simp at hcj
        | zero =>
          simp [AV.cells] at hb hcj; subst hb; subst hcj
          have key : ∀ (i : Nat) (u : AV) (j : Nat) (b : AV), (l.map r.av)[i]? = some u → u.cells[j]? = some b → ∃ c, w.cell? (a.add (i * r.n + j)) = some c ∧ c.oneCell' = true ∧ Con (Env.bare (allK w)) b c := by
            intro i u j b hu hb
            rw [List.getElem?_map, Option.map_eq_some_iff] at hu
            obtain ⟨x, hx, rfl⟩ := hu
            obtain ⟨_, cs', h1, h2⟩ := hq i x hx
            obtain ⟨_, h3, h4⟩ := World.cells?_some h1
            have hj : j < r.n := by rw [← r.len x]; exact (List.getElem?_eq_some_iff.1 hb).1
            have h5 := h4 j hj
            rw [Addr.add_add] at h5
            have hc' : cs'[j]? = some (cs'[j]'(by omega)) := List.getElem?_eq_getElem _
            rw [hc'] at h5
            exact ⟨_, h5, h2 j b _ hb hc'⟩
          refine ⟨rfl, .lst _ _ _ len cap a (fun i j => (w.cell? (a.add (i * r.n + j))).getD undef) (by simp [hl]) hlc (fun _ => rfl) ?_ ?_ ?_ ?_⟩
          · intro i u hu
            rw [List.getElem?_map, Option.map_eq_some_iff] at hu
            obtain ⟨x, hx, rfl⟩ := hu
            exact r.len x
          · intro i u j b hu hb
            obtain ⟨c, h1, _⟩ := key i u j b hu hb
            rw [h1]
            unfold World.cell? at h1
            exact h1
          · intro i u j b hu hb
            obtain ⟨c, h1, h2, _⟩ := key i u j b hu hb
            rw [h1]; exact h2
          · intro i u j b hu hb
            obtain ⟨c, h1, _, h2⟩ := key i u j b hu hb
            rw [h1]; exact h2

section
variable {P : Program} {w : World} {t : TypeId} {α : Type} {H : Type} {enc : TypeId × Value → H} {reach : Reach} {b0 base : Nat} {spare : Nat → Bool} {held : Bool} {v : Value} {d : DataW H} {p : List MemPlace}

/-- A parameter that is a struct. -/
theorem Rdr.agg (r : Rdr P t α) (hagg : ∀ x, ∃ l, r.av x = .agg l) {fs : Array Field} (hs : P.underlying t = some (.struct fs)) (hv : Value.okWide P w reach b0 t v) (h : DataW.Trod enc P w base spare held t v d p) :
    ∃ x, r.wf x ∧ Con (Env.bare (allK w)) (r.av x) v := by
  obtain ⟨cs, rfl, hsz⟩ := okWide_struct hs hv
  obtain ⟨fuel, hf⟩ := h
  obtain ⟨x, h1, h2, h3⟩ := r.rd enc w base spare held fuel _ _ hf
  refine ⟨x, h1, ?_⟩
  have hl := r.len x
  obtain ⟨l, e⟩ := hagg x
  rw [e] at h3 hl ⊢
  have h2' : cs.size = r.n := by simpa [Value.cells] using h2
  refine .agg _ _ (by rw [h2']; exact hl) fun i a c ha hc => (h3 i a c ha (by simpa [Value.cells] using hc)).2

/-- A parameter of one cell. -/
theorem Rdr.one (r : Rdr P t α) (h1 : ∀ x, (r.av x).cells = [r.av x]) (hv : v.cells.toList = [v]) (h : DataW.Trod enc P w base spare held t v d p) :
    ∃ x, r.wf x ∧ Con (Env.bare (allK w)) (r.av x) v := by
  obtain ⟨fuel, hf⟩ := h
  obtain ⟨x, k1, k2, k3⟩ := r.rd enc w base spare held fuel _ _ hf
  refine ⟨x, k1, (k3 0 _ v (by rw [h1 x]; rfl) (by rw [hv]; rfl)).2⟩

theorem Rdr.slice {e : TypeId} (r : Rdr P e α) (ht : P.underlying t = some (.slice e)) (hc : P.cellsOf t = 1) (hv : Value.okWide P w reach b0 t v) (h : DataW.Trod enc P w base spare held t v d p) :
    ∃ l : List α, (l.length ≤ maxLen ∧ ∀ x ∈ l, r.wf x) ∧ Con (Env.bare (allK w)) (.lst r.n (l.map r.av)) v := by
  obtain ⟨a, len, cap, rfl⟩ := okWide_slice ht hv
  exact (rdSlice r ht hc).one (fun _ => rfl) rfl h

theorem Rdr.int {k : IntKind} (ht : P.underlying t = some (.int k)) (hc : P.cellsOf t = 1) (hv : Value.okWide P w reach b0 t v) (h : DataW.Trod enc P w base spare held t v d p) :
    ∃ x, (Lit.int k x).wf = true ∧ Con (Env.bare (allK w)) (.v (.int k x)) v := by
  obtain ⟨n, rfl⟩ := okWide_int ht hv
  exact (rdInt ht hc).one (fun _ => rfl) rfl h

theorem Rdr.bool (ht : P.underlying t = some .bool) (hc : P.cellsOf t = 1) (hv : Value.okWide P w reach b0 t v) (h : DataW.Trod enc P w base spare held t v d p) :
    ∃ x : Bool, Con (Env.bare (allK w)) (bv x) v := by
  obtain ⟨n, rfl⟩ := okWide_bool ht hv
  obtain ⟨x, _, hx⟩ := (rdBool ht hc).one (fun _ => rfl) rfl h
  exact ⟨x, hx⟩

/-- A slice of numbers. -/
theorem Rdr.ints {e : TypeId} (ht : P.underlying t = some (.slice e)) (hc : P.cellsOf t = 1) (he : P.underlying e = some (.int .u64)) (hce : P.cellsOf e = 1) (hv : Value.okWide P w reach b0 t v) (h : DataW.Trod enc P w base spare held t v d p) :
    ∃ l : List Int, (∀ x ∈ l, InU x) ∧ Con (Env.bare (allK w)) (ms l) v := by
  obtain ⟨l, ⟨_, h1⟩, h2⟩ := (rdInt he hce).slice ht hc hv h
  exact ⟨l, fun x hx => in_u (h1 x hx), h2⟩

theorem Rdr.frame {fs : Array Field} (hs : P.underlying t = some (.struct fs)) (hC : P.cellsOf t = 7) (hB : fieldsB P fs frKinds = true) (hv : Value.okWide P w reach b0 t v) (h : DataW.Trod enc P w base spare held t v d p) :
    ∃ f : Fr, f.wf ∧ Con (Env.bare (allK w)) (fv f) v :=
  (rdFr hs hC hB).agg (fun _ => ⟨_, rfl⟩) hs hv h
end
end Go.Vai
