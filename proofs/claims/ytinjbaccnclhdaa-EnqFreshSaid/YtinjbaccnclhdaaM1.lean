/- Deques in cells, by numbers and lists alone: what is where, and what a step does. -/
import Derived.Test.YtinjbaccnclhdaaL1
import Derived.Test.YtinjbaccnclhdaaR2
namespace Go.Vai
open Go.RowKit
set_option linter.unusedVariables false
set_option linter.unusedSimpArgs false

def cfKinds : List IntKind := [.i64, .i64, .i64, .i64]
def Cf.wf (c : Cf) : Prop := InI c.w ∧ InI c.d ∧ InI c.i ∧ InI c.spin

def rdCf {P : Program} {t : TypeId} {fs : Array Field} (ht : P.underlying t = some (.struct fs)) (hC : P.cellsOf t = 4) (hB : fieldsB P fs cfKinds = true) : Rdr P t Cf where
  n := 4
  av := cv'
  wf := Cf.wf
  size := hC
  len := fun _ => rfl
  rd := fun enc w base spare held fuel cs d h => by
    obtain ⟨hl, hz⟩ := struct_ints ht (ks := cfKinds) hC hB h
    obtain ⟨z0, e0, w0⟩ := hz 0 .i64 rfl
    obtain ⟨z1, e1, w1⟩ := hz 1 .i64 rfl
    obtain ⟨z2, e2, w2⟩ := hz 2 .i64 rfl
    obtain ⟨z3, e3, w3⟩ := hz 3 .i64 rfl
    refine ⟨⟨z0, z1, z2, z3⟩, ⟨in_i w0, in_i w1, in_i w2, in_i w3⟩, hl, fun j a c ha hcj => ?_⟩
    match j with
    | 0 => rw [e0] at hcj; cases hcj; cases ha; exact ⟨rfl, .v _⟩
    | 1 => rw [e1] at hcj; cases hcj; cases ha; exact ⟨rfl, .v _⟩
    | 2 => rw [e2] at hcj; cases hcj; cases ha; exact ⟨rfl, .v _⟩
    | 3 => rw [e3] at hcj; cases hcj; cases ha; exact ⟨rfl, .v _⟩
    | j + 4 => cases ha

theorem Rdr.conf {P : Program} {w : World} {t : TypeId} {H : Type} {enc : TypeId × Value → H} {reach : Reach} {b0 base : Nat} {spare : Nat → Bool} {held : Bool} {v : Value} {d : DataW H} {p : List MemPlace} {fs : Array Field}
    (hs : P.underlying t = some (.struct fs)) (hC : P.cellsOf t = 4) (hB : fieldsB P fs cfKinds = true) (hv : Value.okWide P w reach b0 t v) (h : DataW.Trod enc P w base spare held t v d p) :
    ∃ c : Cf, c.wf ∧ Con (Env.bare (allK w)) (cv' c) v :=
  (rdCf hs hC hB).agg (fun _ => ⟨_, rfl⟩) hs hv h

/-! Cells. -/
theorem store_out {m : List Int} {i : Int} (h : isIn m i = false) (v : Int) : mStore m i v = m := by simp [mStore, h]
theorem load_out {m : List Int} {i : Int} (h : isIn m i = false) : mLoad m i = 0 := by simp [mLoad, h]
theorem load_in {m : List Int} {i : Int} (h : isIn m i = true) : mLoad m i = m.getD i.toNat 0 := by simp [mLoad, h]
theorem in_store (m : List Int) (i v k : Int) : isIn (mStore m i v) k = isIn m k := by simp [isIn, len_store]
theorem load_store {m : List Int} {i : Int} (h : isIn m i = true) (v : Int) : mLoad (mStore m i v) i = v := by
  have h' : isIn (mStore m i v) i = true := by rw [in_store]; exact h
  obtain ⟨_, _, h3⟩ := isIn_true h
  rw [load_in h']
  simp [mStore, h, List.getD_eq_getElem?_getD, h3]
theorem load_other {m : List Int} {i k : Int} (h : i ≠ k) (v : Int) : mLoad (mStore m i v) k = mLoad m k := by
  unfold mLoad
  rw [in_store]
  cases hk : isIn m k with
  | false => rfl
  | true =>
    simp only [if_true]
    unfold mStore
    cases hi : isIn m i with
    | false => rfl
    | true =>
      obtain ⟨a, _, _⟩ := isIn_true hk
      obtain ⟨b, _, _⟩ := isIn_true hi
      have : i.toNat ≠ k.toNat := by omega
      simp [List.getD_eq_getElem?_getD, this]
theorem cas_store {m : List Int} {i v : Int} (h : mCasB m i v = true) (w : Int) : mCas m i v w = mStore m i w := by
  simp only [mCas, h, if_true]
  have : isIn m i = true := by simp [mCasB] at h; exact h.1
  simp [mStore, this]
theorem cas_not {m : List Int} {i v : Int} (h : mCasB m i v = false) (w : Int) : mCas m i v w = m := by simp [mCas, h]
theorem len_cas (m : List Int) (i v w : Int) : (mCas m i v w).length = m.length := by unfold mCas; split <;> simp

/-- Cells in their range. -/
def InM (m : List Int) : Prop := ∀ x ∈ m, InU x
theorem load_u {m : List Int} (h : InM m) (i : Int) : InU (mLoad m i) := by
  unfold mLoad
  split
  · rename_i hi
    obtain ⟨_, _, h3⟩ := isIn_true hi
    rw [List.getD_eq_getElem?_getD, List.getElem?_eq_getElem h3]
    exact h _ (List.getElem_mem h3)
  · unfold InU; omega
theorem store_u {m : List Int} (h : InM m) {i v : Int} (hv : InU v) : InM (mStore m i v) := by
  unfold mStore
  split
  · intro x hx
    rcases List.mem_or_eq_of_mem_set hx with h' | rfl
    · exact h x h'
    · exact hv
  · exact h
theorem wrapU_u (x : Int) : InU (wrapU x) := wrapU_in x

/-! Layouts. -/
/-- A worker's cells are there. -/
structure Lay (c : Cf) (m : List Int) (w : Int) : Prop where
  may : mayC c = true
  len : (m.length : Int) = lSize c
  lo : 0 ≤ w
  hi : w < c.w

theorem Lay.has {c : Cf} {m : List Int} {w : Int} (h : Lay c m w) : lHas c w = true := by
  simp [lHas, h.may, h.lo, h.hi]
theorem Lay.top {c : Cf} {m : List Int} {w : Int} (h : Lay c m w) : lTop c w = lBase c w := by simp [lTop, h.has]
theorem Lay.bottom {c : Cf} {m : List Int} {w : Int} (h : Lay c m w) : lBottom c w = lBase c w + 1 := by simp [lBottom, h.has]
theorem Lay.slot {c : Cf} {m : List Int} {w : Int} (h : Lay c m w) (x : Int) : lSlot c w x = lBase c w + 3 + x % 18446744073709551616 % c.d := by simp [lSlot, h.has]
theorem Lay.store {c : Cf} {m : List Int} {w : Int} (h : Lay c m w) (i v : Int) : Lay c (mStore m i v) w := ⟨h.may, by rw [len_store]; exact h.len, h.lo, h.hi⟩
theorem Lay.cas {c : Cf} {m : List Int} {w : Int} (h : Lay c m w) (i v x : Int) : Lay c (mCas m i v x) w := ⟨h.may, by rw [len_cas]; exact h.len, h.lo, h.hi⟩

theorem Lay.dpos {c : Cf} {m : List Int} {w : Int} (h : Lay c m w) : c.d = 1 ∨ c.d = 2 ∨ c.d = 4 ∨ c.d = 8 ∨ c.d = 16 := (mayC_iff.1 h.may).2.2.1
theorem Lay.base {c : Cf} {m : List Int} {w : Int} (h : Lay c m w) : 6 ≤ lBase c w ∧ lBase c w + 3 + c.d ≤ m.length := by
  obtain ⟨h1, h2, h3, h4, h5, h6, h7⟩ := mayC_iff.1 h.may
  have hl := h.len
  have a1 := h.lo
  have a2 := h.hi
  unfold lSize at hl
  rw [h.may, if_pos rfl] at hl
  unfold lBase at *
  rcases h3 with e | e | e | e | e <;> rw [e] at hl ⊢ <;> omega
theorem Lay.small {c : Cf} {m : List Int} {w : Int} (h : Lay c m w) : m.length ≤ 190 := by
  obtain ⟨h1, h2, h3, h4, h5, h6, h7⟩ := mayC_iff.1 h.may
  have hl := h.len
  unfold lSize at hl
  rw [h.may, if_pos rfl] at hl
  unfold lBase at *
  rcases h3 with e | e | e | e | e <;> rw [e] at hl <;> omega
theorem Lay.in_top {c : Cf} {m : List Int} {w : Int} (h : Lay c m w) : isIn m (lTop c w) = true := by
  have := h.base
  have hd := h.dpos
  rw [h.top]; simp [isIn]; omega
theorem Lay.in_bottom {c : Cf} {m : List Int} {w : Int} (h : Lay c m w) : isIn m (lBottom c w) = true := by
  have := h.base
  have hd := h.dpos
  rw [h.bottom]; simp [isIn]; omega
theorem Lay.in_slot {c : Cf} {m : List Int} {w : Int} (h : Lay c m w) (x : Int) : isIn m (lSlot c w x) = true := by
  have := h.base
  rw [h.slot]; simp [isIn]
  rcases h.dpos with e | e | e | e | e <;> rw [e] at this ⊢ <;> omega
theorem Lay.tb {c : Cf} {m : List Int} {w : Int} (h : Lay c m w) : lTop c w ≠ lBottom c w := by rw [h.top, h.bottom]; omega
theorem Lay.ts {c : Cf} {m : List Int} {w : Int} (h : Lay c m w) (x : Int) : lTop c w ≠ lSlot c w x := by
  rw [h.top, h.slot]
  rcases h.dpos with e | e | e | e | e <;> rw [e] <;> omega
theorem Lay.bs {c : Cf} {m : List Int} {w : Int} (h : Lay c m w) (x : Int) : lBottom c w ≠ lSlot c w x := by
  rw [h.bottom, h.slot]
  rcases h.dpos with e | e | e | e | e <;> rw [e] <;> omega
theorem Lay.ss {c : Cf} {m : List Int} {w : Int} (h : Lay c m w) (x y : Int) : lSlot c w x = lSlot c w y ↔ x % 18446744073709551616 % c.d = y % 18446744073709551616 % c.d := by
  rw [h.slot, h.slot]; omega

/-- Another worker's cells are other ones. -/
theorem Lay.apart {c : Cf} {m : List Int} {w k : Int} (h : Lay c m w) (h' : Lay c m k) (hne : w ≠ k) : lBase c w + 3 + c.d ≤ lBase c k ∨ lBase c k + 3 + c.d ≤ lBase c w := by
  unfold lBase
  rcases h.dpos with e | e | e | e | e <;> rw [e] <;> omega

/-! Steps. -/
def goes (c : Cf) (m : List Int) (f : Fr) (op pcs : Int) : Bool := mayC c && decide ((m.length : Int) = lSize c ∧ f.res = 0 ∧ 0 ≤ f.who ∧ f.who < c.w ∧ f.op = op ∧ 0 ≤ f.pc ∧ f.pc < pcs)

theorem goes_iff {c : Cf} {m : List Int} {f : Fr} {op pcs : Int} : goes c m f op pcs = true ↔ Lay c m f.who ∧ f.res = 0 ∧ f.op = op ∧ 0 ≤ f.pc ∧ f.pc < pcs := by
  constructor
  · intro h
    simp [goes] at h
    exact ⟨⟨h.1, h.2.1, h.2.2.2.1, h.2.2.2.2.1⟩, h.2.2.1, h.2.2.2.2.2⟩
  · rintro ⟨h, h1, h2, h3, h4⟩
    simp [goes, h.may, h.len, h.lo, h.hi, h1, h2, h3, h4]

/-- A push's next step. -/
def pStep (c : Cf) (m : List Int) (f : Fr) : List Int × Fr :=
  if goes c m f 0 4 = true then
    if f.pc = 0 then (m, ⟨f.op, 1, f.who, f.val, mLoad m (lBottom c f.who), f.y, f.res⟩)
    else if f.pc = 1 then
      if c.d ≤ wrapU (f.x - mLoad m (lTop c f.who)) then (m, fEnd f 2 f.val) else (m, ⟨f.op, 2, f.who, f.val, f.x, mLoad m (lTop c f.who), f.res⟩)
    else if f.pc = 2 then (mStore m (lSlot c f.who f.x) f.val, ⟨f.op, 3, f.who, f.val, f.x, f.y, f.res⟩)
    else (mStore m (lBottom c f.who) (wrapU (f.x + 1)), fEnd f 1 f.val)
  else (m, f)

/-- A pop's. -/
def oStep (c : Cf) (m : List Int) (f : Fr) : List Int × Fr :=
  if goes c m f 1 7 = true then
    if f.pc = 0 then (m, ⟨f.op, 1, f.who, f.val, wrapU (mLoad m (lBottom c f.who) - 1), f.y, f.res⟩)
    else if f.pc = 1 then (mStore m (lBottom c f.who) f.x, ⟨f.op, 2, f.who, f.val, f.x, f.y, f.res⟩)
    else if f.pc = 2 then (m, ⟨f.op, if far f.x (mLoad m (lTop c f.who)) < 0 then 6 else 3, f.who, f.val, f.x, mLoad m (lTop c f.who), f.res⟩)
    else if f.pc = 3 then
      if f.x ≠ f.y then (m, fEnd f 1 (mLoad m (lSlot c f.who f.x))) else (m, ⟨f.op, 4, f.who, mLoad m (lSlot c f.who f.x), f.x, f.y, f.res⟩)
    else if f.pc = 4 then (mCas m (lTop c f.who) f.y (wrapU (f.y + 1)), ⟨f.op, if mCasB m (lTop c f.who) f.y = true then 5 else 6, f.who, f.val, f.x, f.y, f.res⟩)
    else if f.pc = 5 then (mStore m (lBottom c f.who) (wrapU (f.x + 1)), fEnd f 1 f.val)
    else (mStore m (lBottom c f.who) (wrapU (f.x + 1)), fEnd f 3 0)
  else (m, f)

/-- A steal's. -/
def sStep (c : Cf) (m : List Int) (f : Fr) : List Int × Fr :=
  if goes c m f 2 4 = true then
    if f.pc = 0 then (m, ⟨f.op, 1, f.who, f.val, f.x, mLoad m (lTop c f.who), f.res⟩)
    else if f.pc = 1 then
      if far (mLoad m (lBottom c f.who)) f.y ≤ 0 then (m, fEnd f 3 0) else (m, ⟨f.op, 2, f.who, f.val, mLoad m (lBottom c f.who), f.y, f.res⟩)
    else if f.pc = 2 then (m, ⟨f.op, 3, f.who, mLoad m (lSlot c f.who f.y), f.x, f.y, f.res⟩)
    else if mCasB m (lTop c f.who) f.y = true then (mCas m (lTop c f.who) f.y (wrapU (f.y + 1)), fEnd f 1 f.val) else (m, fEnd f 4 0)
  else (m, f)

/-- What a deque has. -/
def dNum (c : Cf) (m : List Int) (w : Int) : Int := far (mLoad m (lBottom c w)) (mLoad m (lTop c w))
def dIs (c : Cf) (m : List Int) (w : Int) : Bool := mayC c && decide ((m.length : Int) = lSize c ∧ 0 ≤ w ∧ w < c.w ∧ 0 ≤ dNum c m w ∧ dNum c m w ≤ c.d)
def dAt (c : Cf) (m : List Int) (w : Int) (i : Nat) : Int := mLoad m (lSlot c w (wrapU (mLoad m (lTop c w) + i)))
def dList (c : Cf) (m : List Int) (w : Int) : List Int := if dIs c m w = true then (List.range (dNum c m w).toNat).map (dAt c m w) else []

theorem dIs_iff {c : Cf} {m : List Int} {w : Int} : dIs c m w = true ↔ Lay c m w ∧ 0 ≤ dNum c m w ∧ dNum c m w ≤ c.d := by
  constructor
  · intro h
    simp [dIs] at h
    exact ⟨⟨h.1, h.2.1, h.2.2.1, h.2.2.2.1⟩, h.2.2.2.2⟩
  · rintro ⟨h, h1, h2⟩
    simp [dIs, h.may, h.len, h.lo, h.hi, h1, h2]

theorem far_eq {a b : Int} (ha : InU a) (hb : InU b) : far a b = (a - b + 9223372036854775808) % 18446744073709551616 - 9223372036854775808 := by
  unfold far; rw [IntKind.wrap_i64]

theorem len_dList (c : Cf) (m : List Int) (w : Int) : (dList c m w).length ≤ 16 := by
  unfold dList
  split
  · rename_i h
    obtain ⟨h1, h2, h3⟩ := dIs_iff.1 h
    have := h1.dpos
    simp; omega
  · simp

end Go.Vai
