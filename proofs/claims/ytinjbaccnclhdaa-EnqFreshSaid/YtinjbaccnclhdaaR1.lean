/- Contracts as a table: how arguments are read, and what a call answers. -/
import Derived.Test.YtinjbaccnclhdaaS1
import Derived.Test.YtinjbaccnclhdaaV25
import Derived.IntWalk
namespace Go.Vai
open Go.RowKit

def u (x : Int) : AV := .v (.int .u64 x)
def iv (x : Int) : AV := .v (.int .i64 x)
def bv (b : Bool) : AV := .v (.bool b)
def ms (m : List Int) : AV := .lst 1 (m.map u)

def dU : List AV → Option (List Int)
  | [] => some []
  | .v (.int .u64 x) :: r => (dU r).map (x :: ·)
  | _ => none

theorem dU_map : ∀ m : List Int, dU (m.map u) = some m
  | [] => rfl
  | x :: m => by simp only [List.map_cons, u, dU]; rw [dU_map m]; rfl

theorem dU_some : ∀ {xs : List AV} {m : List Int}, dU xs = some m → xs = m.map u
  | [], m, h => by simp only [dU, Option.some.injEq] at h; subst h; rfl
  | x :: xs, m, h => by
    cases hr : dU xs with
    | none =>
      unfold dU at h
      split at h
      · rename_i heq; cases heq
      · rename_i heq; cases heq; rw [hr] at h; cases h
      · cases h
    | some m' =>
      unfold dU at h
      split at h
      · rename_i heq; cases heq
      · rename_i heq; cases heq; rw [hr] at h; cases h; rw [dU_some hr]; rfl
      · cases h

/-- The numbers of an argument, at most a thousand; nil is a list of none. -/
def dM (a : AV) : Option (List Int) :=
  match a with
  | .lst 1 xs => (dU xs).bind fun m => if m.length ≤ 1000 then some m else none
  | .v (.slice none 0 0) => some []
  | _ => none

theorem dM_some {a : AV} {m : List Int} (h : dM a = some m) : sub1 a (ms m) ∧ m.length ≤ 1000 := by
  unfold dM at h
  split at h
  · rename_i xs
    cases hx : dU xs with
    | none => rw [hx] at h; cases h
    | some m' =>
      rw [hx] at h
      simp only [Option.bind_some] at h
      split at h
      · rename_i hl; cases h; exact ⟨by rw [ms, dU_some hx]; rfl, hl⟩
      · cases h
  · cases h; exact ⟨rfl, Nat.zero_le _⟩
  · cases h

theorem hfree_ms (m : List Int) : HFree (ms m) := hfree_lst fun x hx c hc => by
  obtain ⟨y, _, rfl⟩ := List.mem_map.1 hx
  simp only [u, AV.cells, List.mem_singleton] at hc
  subst hc; exact hfree_v _
theorem hfree_u (x : Int) : HFree (u x) := hfree_v _
theorem hfree_iv (x : Int) : HFree (iv x) := hfree_v _

/-- The cells' functions. -/
def isIn (m : List Int) (i : Int) : Bool := decide (0 ≤ i ∧ i < m.length)
def mLoad (m : List Int) (i : Int) : Int := if isIn m i then m.getD i.toNat 0 else 0
def mStore (m : List Int) (i v : Int) : List Int := if isIn m i then m.set i.toNat v else m
def mCasB (m : List Int) (i old : Int) : Bool := isIn m i && (mLoad m i == old)
def mCas (m : List Int) (i old nw : Int) : List Int := if mCasB m i old = true then m.set i.toNat nw else m
def wrapU (x : Int) : Int := IntKind.wrap .u64 x
def mAdd (m : List Int) (i v : Int) : List Int := mStore m i (wrapU (mLoad m i + v))

theorem len_store (m : List Int) (i v : Int) : (mStore m i v).length = m.length := by unfold mStore; split <;> simp

/-- A table of contracts. -/
abbrev Row := FuncId × (List AV → Option AV)
def tabC (rows : List Row) : FuncId → List AV → Option AV := fun f args => (rows.lookup f).bind fun g => g args
def ctx (P : Program) (rows : List Row) : Ctx := ⟨P, T P, tabC rows⟩
theorem ctx_P (P : Program) (rows : List Row) : (ctx P rows).P = P := rfl
theorem ctx_T (P : Program) (rows : List Row) : (ctx P rows).T = T P := rfl
theorem ctx_C (P : Program) (rows : List Row) : (ctx P rows).C = tabC rows := rfl

def RowOk (P : Program) (p : Row) : Prop := ∀ args r, p.2 args = some r → Enters P p.1 ∧ (∀ a ∈ args, HFree a) ∧ PureC P p.1 args r

open Go.Proofs

theorem rows_ok {rows : List Row} (h : ∀ p ∈ rows, RowOk Try.prog p) : (ctx Try.prog rows).ok := ⟨T_ok, draws_ok, fun f args r hC => by
  change tabC rows f args = some r at hC
  change Enters Try.prog f ∧ (∀ a ∈ args, HFree a) ∧ PureC Try.prog f args r
  unfold tabC at hC
  have : ∀ l : List Row, (∀ p ∈ l, RowOk Try.prog p) → (l.lookup f).bind (fun g => g args) = some r → Enters Try.prog f ∧ (∀ a ∈ args, HFree a) ∧ PureC Try.prog f args r := by
    intro l
    induction l with
    | nil => intro _ h; cases h
    | cons p l ih =>
      intro hp hl
      obtain ⟨g, row⟩ := p
      simp only [List.lookup] at hl
      split at hl
      · rename_i he
        have := hp (g, row) (by simp) args r hl
        rw [eq_of_beq he]; exact this
      · exact ih (fun p hp' => hp p (by simp [hp'])) hl
  exact this rows h hC⟩

theorem ok0 : (ctx Try.prog []).ok := rows_ok fun _ h => by cases h
theorem enters_of {f : FuncId} {fn : Func} (h : Try.prog.funcs[f]? = some fn) (h1 : (fn.name == "runtime.NumGoroutine") = false) (h2 : fn.body.isNone = false) : Enters Try.prog f := ⟨fn, h, h1, h2⟩

/-- How an argument is read. -/
structure Sh (α : Type) where
  dec : AV → Option α
  enc : α → AV
  ok : ∀ a x, dec a = some x → sub1 a (enc x)
  free : ∀ x, HFree (enc x)

theorem Sh.hf {α : Type} (s : Sh α) {a : AV} {x : α} (h : s.dec a = some x) : HFree a := by
  have := s.ok a x h
  unfold sub1 at this
  split at this
  · exact hfree_v _
  · rw [this]; exact s.free x

/-- It was read off something. -/
def Sh.Got {α : Type} (s : Sh α) (x : α) : Prop := ∃ a, s.dec a = some x

theorem subL_args {E : Env} {xs ys : List AV} {vs : Array Value} (h : subL xs ys) (hx : ArgsCon E xs vs) : ArgsCon E ys vs := by
  obtain ⟨h1, h2⟩ := subL_con (vs := vs.toList) h (by simpa using hx.1) fun i x v hx' hv => hx.2 i x v hx' (by simpa using hv)
  exact ⟨by simpa using h1, fun i x v hx' hv => h2 i x v hx' (by simpa using hv)⟩

/-- nil for a list of nothing. -/
theorem PureC.weak {P : Program} {f : FuncId} {xs ys : List AV} {r : AV} (h : subL xs ys) (hp : PureC P f ys r) : PureC P f xs r :=
  fun w K vs hK ha => hp w K vs hK (subL_args h ha)

def dI : AV → Option Int
  | .v (.int .i64 x) => some x
  | _ => none
def dN : AV → Option Int
  | .v (.int .u64 x) => some x
  | _ => none
def dB : AV → Option Bool
  | .v (.bool x) => some x
  | _ => none
theorem dI_some {a : AV} {x : Int} (h : dI a = some x) : sub1 a (iv x) := by unfold dI at h; split at h <;> cases h; rfl
theorem dN_some {a : AV} {x : Int} (h : dN a = some x) : sub1 a (u x) := by unfold dN at h; split at h <;> cases h; rfl
theorem dB_some {a : AV} {x : Bool} (h : dB a = some x) : sub1 a (bv x) := by unfold dB at h; split at h <;> cases h; rfl
def shI : Sh Int := ⟨dI, iv, fun _ _ => dI_some, fun _ => hfree_v _⟩
def shN : Sh Int := ⟨dN, u, fun _ _ => dN_some, fun _ => hfree_v _⟩
def shB : Sh Bool := ⟨dB, bv, fun _ _ => dB_some, fun _ => hfree_v _⟩
def shM : Sh (List Int) := ⟨dM, ms, fun _ _ h => (dM_some h).1, hfree_ms⟩
theorem shI_dec : shI.dec = dI := rfl
theorem shN_dec : shN.dec = dN := rfl
theorem shB_dec : shB.dec = dB := rfl
theorem shM_dec : shM.dec = dM := rfl

def row0 (r : AV) : List AV → Option AV
  | [] => some r
  | _ => none
def row1 {α : Type} (s : Sh α) (F : α → Option AV) : List AV → Option AV
  | [a] => (s.dec a).bind F
  | _ => none
def row2 {α β : Type} (s : Sh α) (t : Sh β) (F : α → β → Option AV) : List AV → Option AV
  | [a, b] => (s.dec a).bind fun x => (t.dec b).bind fun y => F x y
  | _ => none
def row3 {α β γ : Type} (s : Sh α) (t : Sh β) (p : Sh γ) (F : α → β → γ → Option AV) : List AV → Option AV
  | [a, b, c] => (s.dec a).bind fun x => (t.dec b).bind fun y => (p.dec c).bind fun z => F x y z
  | _ => none
def row4 {α β γ δ : Type} (s : Sh α) (t : Sh β) (p : Sh γ) (q : Sh δ) (F : α → β → γ → δ → Option AV) : List AV → Option AV
  | [a, b, c, d] => (s.dec a).bind fun x => (t.dec b).bind fun y => (p.dec c).bind fun z => (q.dec d).bind fun z' => F x y z z'
  | _ => none
def row5 {α β γ δ ε : Type} (s : Sh α) (t : Sh β) (p : Sh γ) (q : Sh δ) (q' : Sh ε) (F : α → β → γ → δ → ε → Option AV) : List AV → Option AV
  | [a, b, c, d, e] => (s.dec a).bind fun x => (t.dec b).bind fun y => (p.dec c).bind fun z => (q.dec d).bind fun z' => (q'.dec e).bind fun z'' => F x y z z' z''
  | _ => none

section
variable {f : FuncId} {α β γ δ ε : Type} {s : Sh α} {t : Sh β} {p : Sh γ} {q : Sh δ} {q' : Sh ε}

theorem ok_row0 {r : AV} (he : Enters Try.prog f) (h : PureC Try.prog f [] r) : RowOk Try.prog (f, row0 r) := by
  intro args r' hr
  dsimp only [row0] at hr
  split at hr
  · cases hr; exact ⟨he, by simp, h⟩
  · cases hr
theorem ok_row1 {F : α → Option AV} (he : Enters Try.prog f) (h : ∀ x r, s.Got x → F x = some r → PureC Try.prog f [s.enc x] r) : RowOk Try.prog (f, row1 s F) := by
  intro args r hr
  dsimp only [row1] at hr
  split at hr
  · rename_i a
    obtain ⟨x, hx, hr⟩ := Option.bind_eq_some_iff.1 hr
    exact ⟨he, by simp only [List.mem_cons, List.not_mem_nil, or_false]; rintro _ rfl; exact s.hf hx, .weak (ys := [s.enc x]) ⟨s.ok _ _ hx, trivial⟩ (h x r ⟨a, hx⟩ hr)⟩
  · cases hr
theorem ok_row2 {F : α → β → Option AV} (he : Enters Try.prog f) (h : ∀ x y r, s.Got x → t.Got y → F x y = some r → PureC Try.prog f [s.enc x, t.enc y] r) : RowOk Try.prog (f, row2 s t F) := by
  intro args r hr
  dsimp only [row2] at hr
  split at hr
  · rename_i a b
    obtain ⟨x, hx, hr⟩ := Option.bind_eq_some_iff.1 hr
    obtain ⟨y, hy, hr⟩ := Option.bind_eq_some_iff.1 hr
    exact ⟨he, by simp only [List.mem_cons, List.not_mem_nil, or_false]; rintro _ (rfl | rfl) <;> first | exact s.hf hx | exact t.hf hy, .weak (ys := [s.enc x, t.enc y]) ⟨s.ok _ _ hx, t.ok _ _ hy, trivial⟩ (h x y r ⟨a, hx⟩ ⟨b, hy⟩ hr)⟩
  · cases hr
theorem ok_row3 {F : α → β → γ → Option AV} (he : Enters Try.prog f) (h : ∀ x y z r, s.Got x → t.Got y → p.Got z → F x y z = some r → PureC Try.prog f [s.enc x, t.enc y, p.enc z] r) : RowOk Try.prog (f, row3 s t p F) := by
  intro args r hr
  dsimp only [row3] at hr
  split at hr
  · rename_i a b c
    obtain ⟨x, hx, hr⟩ := Option.bind_eq_some_iff.1 hr
    obtain ⟨y, hy, hr⟩ := Option.bind_eq_some_iff.1 hr
    obtain ⟨z, hz, hr⟩ := Option.bind_eq_some_iff.1 hr
    exact ⟨he, by simp only [List.mem_cons, List.not_mem_nil, or_false]; rintro _ (rfl | rfl | rfl) <;> first | exact s.hf hx | exact t.hf hy | exact p.hf hz, .weak (ys := [s.enc x, t.enc y, p.enc z]) ⟨s.ok _ _ hx, t.ok _ _ hy, p.ok _ _ hz, trivial⟩ (h x y z r ⟨a, hx⟩ ⟨b, hy⟩ ⟨c, hz⟩ hr)⟩
  · cases hr
theorem ok_row4 {F : α → β → γ → δ → Option AV} (he : Enters Try.prog f) (h : ∀ x y z z' r, s.Got x → t.Got y → p.Got z → q.Got z' → F x y z z' = some r → PureC Try.prog f [s.enc x, t.enc y, p.enc z, q.enc z'] r) : RowOk Try.prog (f, row4 s t p q F) := by
  intro args r hr
  dsimp only [row4] at hr
  split at hr
  · rename_i a b c d
    obtain ⟨x, hx, hr⟩ := Option.bind_eq_some_iff.1 hr
    obtain ⟨y, hy, hr⟩ := Option.bind_eq_some_iff.1 hr
    obtain ⟨z, hz, hr⟩ := Option.bind_eq_some_iff.1 hr
    obtain ⟨z', hz', hr⟩ := Option.bind_eq_some_iff.1 hr
    exact ⟨he, by simp only [List.mem_cons, List.not_mem_nil, or_false]; rintro _ (rfl | rfl | rfl | rfl) <;> first | exact s.hf hx | exact t.hf hy | exact p.hf hz | exact q.hf hz', .weak (ys := [s.enc x, t.enc y, p.enc z, q.enc z']) ⟨s.ok _ _ hx, t.ok _ _ hy, p.ok _ _ hz, q.ok _ _ hz', trivial⟩ (h x y z z' r ⟨a, hx⟩ ⟨b, hy⟩ ⟨c, hz⟩ ⟨d, hz'⟩ hr)⟩
  · cases hr
theorem ok_row5 {F : α → β → γ → δ → ε → Option AV} (he : Enters Try.prog f) (h : ∀ x y z z' z'' r, s.Got x → t.Got y → p.Got z → q.Got z' → q'.Got z'' → F x y z z' z'' = some r → PureC Try.prog f [s.enc x, t.enc y, p.enc z, q.enc z', q'.enc z''] r) : RowOk Try.prog (f, row5 s t p q q' F) := by
  intro args r hr
  dsimp only [row5] at hr
  split at hr
  · rename_i a b c d e
    obtain ⟨x, hx, hr⟩ := Option.bind_eq_some_iff.1 hr
    obtain ⟨y, hy, hr⟩ := Option.bind_eq_some_iff.1 hr
    obtain ⟨z, hz, hr⟩ := Option.bind_eq_some_iff.1 hr
    obtain ⟨z', hz', hr⟩ := Option.bind_eq_some_iff.1 hr
    obtain ⟨z'', hz'', hr⟩ := Option.bind_eq_some_iff.1 hr
    exact ⟨he, by simp only [List.mem_cons, List.not_mem_nil, or_false]; rintro _ (rfl | rfl | rfl | rfl | rfl) <;> first | exact s.hf hx | exact t.hf hy | exact p.hf hz | exact q.hf hz' | exact q'.hf hz'', .weak (ys := [s.enc x, t.enc y, p.enc z, q.enc z', q'.enc z'']) ⟨s.ok _ _ hx, t.ok _ _ hy, p.ok _ _ hz, q.ok _ _ hz', q'.ok _ _ hz'', trivial⟩ (h x y z z' z'' r ⟨a, hx⟩ ⟨b, hy⟩ ⟨c, hz⟩ ⟨d, hz'⟩ ⟨e, hz''⟩ hr)⟩
  · cases hr
end
theorem shM_got {m : List Int} (h : shM.Got m) : m.length ≤ 1000 := h.elim fun _ h => (dM_some h).2

def rMI (F : List Int → Int → AV) : List AV → Option AV := row2 shM shI fun m i => some (F m i)
def rMIU (F : List Int → Int → Int → AV) : List AV → Option AV := row3 shM shI shN fun m i v => some (F m i v)
def rMIUU (F : List Int → Int → Int → Int → AV) : List AV → Option AV := row4 shM shI shN shN fun m i v w => some (F m i v w)
def rMM (F : List Int → List Int → AV) : List AV → Option AV := row2 shM shM fun m k => some (F m k)

theorem rMI_eq (F : List Int → Int → AV) (m : List Int) (i : Int) (h : m.length ≤ 1000) : rMI F [.lst 1 (m.map u), .v (.int .i64 i)] = some (F m i) := by simp [rMI, row2, shM_dec, shI_dec, dI, dM, dU_map, h]
theorem rMIU_eq (F : List Int → Int → Int → AV) (m : List Int) (i v : Int) (h : m.length ≤ 1000) : rMIU F [.lst 1 (m.map u), .v (.int .i64 i), .v (.int .u64 v)] = some (F m i v) := by simp [rMIU, row3, shM_dec, shI_dec, shN_dec, dI, dN, dM, dU_map, h]
theorem rMIUU_eq (F : List Int → Int → Int → Int → AV) (m : List Int) (i v w : Int) (h : m.length ≤ 1000) : rMIUU F [.lst 1 (m.map u), .v (.int .i64 i), .v (.int .u64 v), .v (.int .u64 w)] = some (F m i v w) := by simp [rMIUU, row4, shM_dec, shI_dec, shN_dec, dI, dN, dM, dU_map, h]
theorem rMM_eq (F : List Int → List Int → AV) (m k : List Int) (h : m.length ≤ 1000) (h' : k.length ≤ 1000) : rMM F [.lst 1 (m.map u), .lst 1 (k.map u)] = some (F m k) := by simp [rMM, row2, shM_dec, dM, dU_map, h, h']

theorem ok_MI {f : FuncId} {F : List Int → Int → AV} (he : Enters Try.prog f) (h : ∀ m i, m.length ≤ 1000 → PureC Try.prog f [ms m, iv i] (F m i)) : RowOk Try.prog (f, rMI F) :=
  ok_row2 he fun m i r g _ e => by cases e; exact h m i (shM_got g)
theorem ok_MIU {f : FuncId} {F : List Int → Int → Int → AV} (he : Enters Try.prog f) (h : ∀ m i v, m.length ≤ 1000 → PureC Try.prog f [ms m, iv i, u v] (F m i v)) : RowOk Try.prog (f, rMIU F) :=
  ok_row3 he fun m i v r g _ _ e => by cases e; exact h m i v (shM_got g)
theorem ok_MIUU {f : FuncId} {F : List Int → Int → Int → Int → AV} (he : Enters Try.prog f) (h : ∀ m i v w, m.length ≤ 1000 → PureC Try.prog f [ms m, iv i, u v, u w] (F m i v w)) : RowOk Try.prog (f, rMIUU F) :=
  ok_row4 he fun m i v w r g _ _ _ e => by cases e; exact h m i v w (shM_got g)
theorem ok_MM {f : FuncId} {F : List Int → List Int → AV} (he : Enters Try.prog f) (h : ∀ m k, m.length ≤ 1000 → k.length ≤ 1000 → PureC Try.prog f [ms m, ms k] (F m k)) : RowOk Try.prog (f, rMM F) :=
  ok_row2 he fun m k r g g' e => by cases e; exact h m k (shM_got g) (shM_got g')

theorem getD_u {m : List Int} {k : Nat} (h : k < m.length) : (m.map u).getD k .top = u (m.getD k 0) := by simp [List.getD_eq_getElem?_getD, h]

theorem isIn_true {m : List Int} {i : Int} (h : isIn m i = true) : 0 ≤ i ∧ i < m.length ∧ i.toNat < m.length := by
  simp [isIn] at h; omega

theorem set_u (m : List Int) (k : Nat) (v : Int) : (m.map u).set k (.v (.int .u64 v)) = (m.set k v).map u := by rw [List.map_set]; rfl
theorem take_u (m : List Int) : (m.map u).take m.length = m.map u := List.take_of_length_le (by simp)
theorem take_us (m : List Int) (k : Nat) (v : Int) : ((m.set k v).map u).take m.length = (m.set k v).map u := List.take_of_length_le (by simp)
theorem hf_u (m : List Int) : (∀ x ∈ m.map u, ∀ c ∈ x.cells, HFree c) = True := eq_true fun x hx c hc => by
  obtain ⟨y, _, rfl⟩ := List.mem_map.1 hx
  simp only [u, AV.cells, List.mem_singleton] at hc
  subst hc; exact hfree_v _
theorem ne_u {m : List Int} {k : Nat} (h : k < m.length) : (m.map u = []) = False := by
  have : m ≠ [] := by rintro rfl; simp at h
  simp [this]

theorem set_self {m : List Int} {k : Nat} (h : k < m.length) : m.set k (m.getD k 0) = m := by
  rw [List.getD_eq_getElem?_getD, List.getElem?_eq_getElem h]
  exact List.set_getElem_self h
theorem wrap_s {x : Nat} (h : x ≤ 1000) : IntKind.i64.wrap ((x : Int) + 1) = ((x + 1 : Nat) : Int) := by
  rw [IntKind.wrap_i64]; omega

theorem getD_ne {a b : List Int} {i : Nat} (h : (a.getD i 0 != b.getD i 0) = true) : a ≠ b := by
  rintro rfl; simp at h
theorem take_next {a b : List Int} {i : Nat} (hi : i < a.length) (hi' : i < b.length) (h : a.take i = b.take i) (he : (a.getD i 0 != b.getD i 0) = false) : a.take (i + 1) = b.take (i + 1) := by
  rw [List.take_add_one, List.take_add_one, h, List.getElem?_eq_getElem hi, List.getElem?_eq_getElem hi']
  simp [List.getD_eq_getElem?_getD, hi, hi'] at he
  rw [he]

theorem hfree_lu (m : List Int) : HFree (.lst 1 (m.map u)) = True := eq_true (hfree_ms m)
theorem hfree_l0 : HFree (.lst 1 []) = True := eq_true (hfree_ms [])
theorem hf_0 : (∀ y ∈ ([] : List AV), ∀ c ∈ y.cells, HFree c) = True := eq_true fun y hy => by cases hy
theorem hf_1 (x : Value) : (∀ y ∈ [AV.v x], ∀ c ∈ y.cells, HFree c) = True := eq_true fun y hy c hc => by
  simp only [List.mem_singleton] at hy
  subst hy
  simp only [AV.cells, List.mem_singleton] at hc
  subst hc; exact hfree_v _
theorem wrap_i {x : Int} (h0 : -9223372036854775808 ≤ x) (h1 : x < 9223372036854775808) : IntKind.i64.wrap x = x := by
  rw [IntKind.wrap_i64]; omega
theorem snoc_u (m : List Int) (v : Int) : m.map u ++ [AV.v (.int .u64 v)] = (m ++ [v]).map u := by simp [u]
theorem take_snoc (m : List Int) (v : Int) : ((m ++ [v]).map u).take (m.length + 1) = (m ++ [v]).map u := List.take_of_length_le (by simp)
theorem len_snoc (m : List Int) (v : Int) : (m ++ [v]).length = m.length + 1 := by simp
theorem drop_u (m : List Int) : ((m.map u).drop 1).take (m.length - 1) = (m.drop 1).map u := by
  rw [← List.map_drop]
  exact List.take_of_length_le (by simp)
theorem takeL_u (m : List Int) (k : Nat) : (m.map u).take k = (m.take k).map u := List.map_take.symm

end Go.Vai
