/- The evaluator, the plain texts and the contracts that this claim leans on, part BC: nothing of the statement is claimed here. -/
import Derived.Test.YtppacheibhanbaaBX
import Derived.Test.YtppacheibhanbaaProg
import Derived.RowKit2
import Derived.IntWalk
import Derived.ChangeArms
import Derived.ChangeShapes
import Derived.DataElems
/- The seat's types. -/
namespace Go.Vai
open Go.RowKit
/-- The types that the evaluator knows. -/
def kinds : List (Nat × TK) := [(1, .func), (2, (.int .i64)), (3, (.int .i64)), (4, .bool), (5, (.int .u8)), (6, (.int .u8)), (12, (.int .u64)), (15, (.ptr 101)), (16, (.ptr 104)), (17, (.ptr 112)), (21, (.int .i32)), (22, (.struct [(0, 3), (1, 3), (2, 3), (3, 3)])), (23, (.struct [(0, 3), (1, 3), (2, 3), (3, 3)])), (24, (.slice 26)), (25, (.slice 26)), (26, (.int .u64)), (27, (.struct [(0, 3), (1, 3), (2, 3), (3, 26), (4, 26), (5, 26), (6, 3)])), (28, (.struct [(0, 3), (1, 3), (2, 3), (3, 26), (4, 26), (5, 26), (6, 3)])), (29, (.slice 28)), (30, (.slice 3)), (31, .func), (33, .func), (35, .func), (37, .func), (38, .func), (39, .func), (40, .func), (41, (.slice 4)), (42, .func), (43, .func), (44, .func), (45, .func), (46, .func), (47, .func), (49, .func), (50, .func), (52, .func), (53, .func), (54, .func), (55, .func), (56, .func), (57, .func), (58, .func), (59, .func), (60, .func), (61, .func), (62, .func), (63, .func), (64, .func), (65, .func), (66, .func), (67, .func), (68, .func), (69, .func), (70, .func), (71, (.arr 5 52)), (72, (.ptr 74)), (73, (.struct [(0, 28), (7, 23), (11, 25)])), (74, (.struct [(0, 28), (7, 23), (11, 25)])), (75, (.arr 4 1)), (76, .func), (77, .func), (78, .func), (79, .func), (81, .func), (82, (.slice 1)), (83, .func), (84, (.int .u64)), (86, .func), (87, .func), (88, .func), (89, .func), (90, .func), (92, .func), (93, .func), (94, (.int .u32)), (96, .func), (98, .func), (99, .func), (105, (.int .u8)), (106, (.int .u8)), (107, .func), (108, (.ptr 5)), (109, (.int .i32)), (110, (.int .i32))]
def T (P : Program) : TEnv := tenv P kinds
theorem T_ok : TOk Go.Proofs.Try.prog (T Go.Proofs.Try.prog) := tenv_ok (by kernel_rfl)
theorem T1 : T Go.Proofs.Try.prog 1 = ⟨.func, 1, 8, .nilFunc⟩ := by kernel_rfl
theorem T2 : T Go.Proofs.Try.prog 2 = ⟨(.int .i64), 1, 8, (.int .i64 0)⟩ := by kernel_rfl
theorem T3 : T Go.Proofs.Try.prog 3 = ⟨(.int .i64), 1, 8, (.int .i64 0)⟩ := by kernel_rfl
theorem T4 : T Go.Proofs.Try.prog 4 = ⟨.bool, 1, 1, (.bool false)⟩ := by kernel_rfl
theorem T5 : T Go.Proofs.Try.prog 5 = ⟨(.int .u8), 1, 1, (.int .u8 0)⟩ := by kernel_rfl
theorem T6 : T Go.Proofs.Try.prog 6 = ⟨(.int .u8), 1, 1, (.int .u8 0)⟩ := by kernel_rfl
theorem T12 : T Go.Proofs.Try.prog 12 = ⟨(.int .u64), 1, 8, (.int .u64 0)⟩ := by kernel_rfl
theorem T15 : T Go.Proofs.Try.prog 15 = ⟨(.ptr 101), 1, 8, (.pointer none)⟩ := by kernel_rfl
theorem T16 : T Go.Proofs.Try.prog 16 = ⟨(.ptr 104), 1, 8, (.pointer none)⟩ := by kernel_rfl
theorem T17 : T Go.Proofs.Try.prog 17 = ⟨(.ptr 112), 1, 8, (.pointer none)⟩ := by kernel_rfl
theorem T21 : T Go.Proofs.Try.prog 21 = ⟨(.int .i32), 1, 4, (.int .i32 0)⟩ := by kernel_rfl
theorem T22 : T Go.Proofs.Try.prog 22 = ⟨(.struct [(0, 3), (1, 3), (2, 3), (3, 3)]), 4, 32, (.agg #[(.int .i64 0), (.int .i64 0), (.int .i64 0), (.int .i64 0)])⟩ := by kernel_rfl
theorem T23 : T Go.Proofs.Try.prog 23 = ⟨(.struct [(0, 3), (1, 3), (2, 3), (3, 3)]), 4, 32, (.agg #[(.int .i64 0), (.int .i64 0), (.int .i64 0), (.int .i64 0)])⟩ := by kernel_rfl
theorem T24 : T Go.Proofs.Try.prog 24 = ⟨(.slice 26), 1, 24, (.slice none 0 0)⟩ := by kernel_rfl
theorem T25 : T Go.Proofs.Try.prog 25 = ⟨(.slice 26), 1, 24, (.slice none 0 0)⟩ := by kernel_rfl
theorem T26 : T Go.Proofs.Try.prog 26 = ⟨(.int .u64), 1, 8, (.int .u64 0)⟩ := by kernel_rfl
theorem T27 : T Go.Proofs.Try.prog 27 = ⟨(.struct [(0, 3), (1, 3), (2, 3), (3, 26), (4, 26), (5, 26), (6, 3)]), 7, 56, (.agg #[(.int .i64 0), (.int .i64 0), (.int .i64 0), (.int .u64 0), (.int .u64 0), (.int .u64 0), (.int .i64 0)])⟩ := by kernel_rfl
theorem T28 : T Go.Proofs.Try.prog 28 = ⟨(.struct [(0, 3), (1, 3), (2, 3), (3, 26), (4, 26), (5, 26), (6, 3)]), 7, 56, (.agg #[(.int .i64 0), (.int .i64 0), (.int .i64 0), (.int .u64 0), (.int .u64 0), (.int .u64 0), (.int .i64 0)])⟩ := by kernel_rfl
theorem T29 : T Go.Proofs.Try.prog 29 = ⟨(.slice 28), 1, 24, (.slice none 0 0)⟩ := by kernel_rfl
theorem T30 : T Go.Proofs.Try.prog 30 = ⟨(.slice 3), 1, 24, (.slice none 0 0)⟩ := by kernel_rfl
theorem T31 : T Go.Proofs.Try.prog 31 = ⟨.func, 1, 8, .nilFunc⟩ := by kernel_rfl
theorem T33 : T Go.Proofs.Try.prog 33 = ⟨.func, 1, 8, .nilFunc⟩ := by kernel_rfl
theorem T35 : T Go.Proofs.Try.prog 35 = ⟨.func, 1, 8, .nilFunc⟩ := by kernel_rfl
theorem T37 : T Go.Proofs.Try.prog 37 = ⟨.func, 1, 8, .nilFunc⟩ := by kernel_rfl
theorem T38 : T Go.Proofs.Try.prog 38 = ⟨.func, 1, 8, .nilFunc⟩ := by kernel_rfl
theorem T39 : T Go.Proofs.Try.prog 39 = ⟨.func, 1, 8, .nilFunc⟩ := by kernel_rfl
theorem T40 : T Go.Proofs.Try.prog 40 = ⟨.func, 1, 8, .nilFunc⟩ := by kernel_rfl
theorem T41 : T Go.Proofs.Try.prog 41 = ⟨(.slice 4), 1, 24, (.slice none 0 0)⟩ := by kernel_rfl
theorem T42 : T Go.Proofs.Try.prog 42 = ⟨.func, 1, 8, .nilFunc⟩ := by kernel_rfl
theorem T43 : T Go.Proofs.Try.prog 43 = ⟨.func, 1, 8, .nilFunc⟩ := by kernel_rfl
theorem T44 : T Go.Proofs.Try.prog 44 = ⟨.func, 1, 8, .nilFunc⟩ := by kernel_rfl
theorem T45 : T Go.Proofs.Try.prog 45 = ⟨.func, 1, 8, .nilFunc⟩ := by kernel_rfl
theorem T46 : T Go.Proofs.Try.prog 46 = ⟨.func, 1, 8, .nilFunc⟩ := by kernel_rfl
theorem T47 : T Go.Proofs.Try.prog 47 = ⟨.func, 1, 8, .nilFunc⟩ := by kernel_rfl
theorem T49 : T Go.Proofs.Try.prog 49 = ⟨.func, 1, 8, .nilFunc⟩ := by kernel_rfl
theorem T50 : T Go.Proofs.Try.prog 50 = ⟨.func, 1, 8, .nilFunc⟩ := by kernel_rfl
theorem T52 : T Go.Proofs.Try.prog 52 = ⟨.func, 1, 8, .nilFunc⟩ := by kernel_rfl
theorem T53 : T Go.Proofs.Try.prog 53 = ⟨.func, 1, 8, .nilFunc⟩ := by kernel_rfl
theorem T54 : T Go.Proofs.Try.prog 54 = ⟨.func, 1, 8, .nilFunc⟩ := by kernel_rfl
theorem T55 : T Go.Proofs.Try.prog 55 = ⟨.func, 1, 8, .nilFunc⟩ := by kernel_rfl
theorem T56 : T Go.Proofs.Try.prog 56 = ⟨.func, 1, 8, .nilFunc⟩ := by kernel_rfl
theorem T57 : T Go.Proofs.Try.prog 57 = ⟨.func, 1, 8, .nilFunc⟩ := by kernel_rfl
theorem T58 : T Go.Proofs.Try.prog 58 = ⟨.func, 1, 8, .nilFunc⟩ := by kernel_rfl
theorem T59 : T Go.Proofs.Try.prog 59 = ⟨.func, 1, 8, .nilFunc⟩ := by kernel_rfl
theorem T60 : T Go.Proofs.Try.prog 60 = ⟨.func, 1, 8, .nilFunc⟩ := by kernel_rfl
theorem T61 : T Go.Proofs.Try.prog 61 = ⟨.func, 1, 8, .nilFunc⟩ := by kernel_rfl
theorem T62 : T Go.Proofs.Try.prog 62 = ⟨.func, 1, 8, .nilFunc⟩ := by kernel_rfl
theorem T63 : T Go.Proofs.Try.prog 63 = ⟨.func, 1, 8, .nilFunc⟩ := by kernel_rfl
theorem T64 : T Go.Proofs.Try.prog 64 = ⟨.func, 1, 8, .nilFunc⟩ := by kernel_rfl
theorem T65 : T Go.Proofs.Try.prog 65 = ⟨.func, 1, 8, .nilFunc⟩ := by kernel_rfl
theorem T66 : T Go.Proofs.Try.prog 66 = ⟨.func, 1, 8, .nilFunc⟩ := by kernel_rfl
theorem T67 : T Go.Proofs.Try.prog 67 = ⟨.func, 1, 8, .nilFunc⟩ := by kernel_rfl
theorem T68 : T Go.Proofs.Try.prog 68 = ⟨.func, 1, 8, .nilFunc⟩ := by kernel_rfl
theorem T69 : T Go.Proofs.Try.prog 69 = ⟨.func, 1, 8, .nilFunc⟩ := by kernel_rfl
theorem T70 : T Go.Proofs.Try.prog 70 = ⟨.func, 1, 8, .nilFunc⟩ := by kernel_rfl
theorem T71 : T Go.Proofs.Try.prog 71 = ⟨(.arr 5 52), 5, 40, (.agg #[.nilFunc, .nilFunc, .nilFunc, .nilFunc, .nilFunc])⟩ := by kernel_rfl
theorem T72 : T Go.Proofs.Try.prog 72 = ⟨(.ptr 74), 1, 8, (.pointer none)⟩ := by kernel_rfl
theorem T73 : T Go.Proofs.Try.prog 73 = ⟨(.struct [(0, 28), (7, 23), (11, 25)]), 12, 112, (.agg #[(.int .i64 0), (.int .i64 0), (.int .i64 0), (.int .u64 0), (.int .u64 0), (.int .u64 0), (.int .i64 0), (.int .i64 0), (.int .i64 0), (.int .i64 0), (.int .i64 0), (.slice none 0 0)])⟩ := by kernel_rfl
theorem T74 : T Go.Proofs.Try.prog 74 = ⟨(.struct [(0, 28), (7, 23), (11, 25)]), 12, 112, (.agg #[(.int .i64 0), (.int .i64 0), (.int .i64 0), (.int .u64 0), (.int .u64 0), (.int .u64 0), (.int .i64 0), (.int .i64 0), (.int .i64 0), (.int .i64 0), (.int .i64 0), (.slice none 0 0)])⟩ := by kernel_rfl
theorem T75 : T Go.Proofs.Try.prog 75 = ⟨(.arr 4 1), 4, 32, (.agg #[.nilFunc, .nilFunc, .nilFunc, .nilFunc])⟩ := by kernel_rfl
theorem T76 : T Go.Proofs.Try.prog 76 = ⟨.func, 1, 8, .nilFunc⟩ := by kernel_rfl
theorem T77 : T Go.Proofs.Try.prog 77 = ⟨.func, 1, 8, .nilFunc⟩ := by kernel_rfl
theorem T78 : T Go.Proofs.Try.prog 78 = ⟨.func, 1, 8, .nilFunc⟩ := by kernel_rfl
theorem T79 : T Go.Proofs.Try.prog 79 = ⟨.func, 1, 8, .nilFunc⟩ := by kernel_rfl
theorem T81 : T Go.Proofs.Try.prog 81 = ⟨.func, 1, 8, .nilFunc⟩ := by kernel_rfl
theorem T82 : T Go.Proofs.Try.prog 82 = ⟨(.slice 1), 1, 24, (.slice none 0 0)⟩ := by kernel_rfl
theorem T83 : T Go.Proofs.Try.prog 83 = ⟨.func, 1, 8, .nilFunc⟩ := by kernel_rfl
theorem T84 : T Go.Proofs.Try.prog 84 = ⟨(.int .u64), 1, 8, (.int .u64 0)⟩ := by kernel_rfl
theorem T86 : T Go.Proofs.Try.prog 86 = ⟨.func, 1, 8, .nilFunc⟩ := by kernel_rfl
theorem T87 : T Go.Proofs.Try.prog 87 = ⟨.func, 1, 8, .nilFunc⟩ := by kernel_rfl
theorem T88 : T Go.Proofs.Try.prog 88 = ⟨.func, 1, 8, .nilFunc⟩ := by kernel_rfl
theorem T89 : T Go.Proofs.Try.prog 89 = ⟨.func, 1, 8, .nilFunc⟩ := by kernel_rfl
theorem T90 : T Go.Proofs.Try.prog 90 = ⟨.func, 1, 8, .nilFunc⟩ := by kernel_rfl
theorem T92 : T Go.Proofs.Try.prog 92 = ⟨.func, 1, 8, .nilFunc⟩ := by kernel_rfl
theorem T93 : T Go.Proofs.Try.prog 93 = ⟨.func, 1, 8, .nilFunc⟩ := by kernel_rfl
theorem T94 : T Go.Proofs.Try.prog 94 = ⟨(.int .u32), 1, 4, (.int .u32 0)⟩ := by kernel_rfl
theorem T96 : T Go.Proofs.Try.prog 96 = ⟨.func, 1, 8, .nilFunc⟩ := by kernel_rfl
theorem T98 : T Go.Proofs.Try.prog 98 = ⟨.func, 1, 8, .nilFunc⟩ := by kernel_rfl
theorem T99 : T Go.Proofs.Try.prog 99 = ⟨.func, 1, 8, .nilFunc⟩ := by kernel_rfl
theorem T105 : T Go.Proofs.Try.prog 105 = ⟨(.int .u8), 1, 1, (.int .u8 0)⟩ := by kernel_rfl
theorem T106 : T Go.Proofs.Try.prog 106 = ⟨(.int .u8), 1, 1, (.int .u8 0)⟩ := by kernel_rfl
theorem T107 : T Go.Proofs.Try.prog 107 = ⟨.func, 1, 8, .nilFunc⟩ := by kernel_rfl
theorem T108 : T Go.Proofs.Try.prog 108 = ⟨(.ptr 5), 1, 8, (.pointer none)⟩ := by kernel_rfl
theorem T109 : T Go.Proofs.Try.prog 109 = ⟨(.int .i32), 1, 4, (.int .i32 0)⟩ := by kernel_rfl
theorem T110 : T Go.Proofs.Try.prog 110 = ⟨(.int .i32), 1, 4, (.int .i32 0)⟩ := by kernel_rfl
theorem draws_ok : (Go.Proofs.Try.prog.funcs.all fun fn => match fn.body with | some b => drawsOk b | none => true) = true := by kernel_rfl
end Go.Vai
/- From a contract to the row's step: what came in, as the evaluator's values. -/
namespace Go.Vai
open Go.RowKit

theorem args_nil {E : Env} : ArgsCon E [] #[] := ⟨rfl, fun i x v hx => by simp at hx⟩
theorem args_cons {E : Env} {a : AV} {v : Value} {as1 : List AV} {vs : List Value} (h : Con E a v) (h' : ArgsCon E as1 ⟨vs⟩) : ArgsCon E (a :: as1) ⟨v :: vs⟩ := by
  refine ⟨by have := h'.1; simpa using this, fun i x w hx hw => ?_⟩
  cases i with
  | zero =>
    simp at hx hw
    subst hx; subst hw; exact h
  | succ i => exact h'.2 i x w (by simpa using hx) (by simpa using hw)

/-- All that is there stays. -/
def allK (w : World) : Nat → Option Obj := fun b => w.heap[b]?

/-- A slice of integers that came in. -/
theorem con_row {k : IntKind} {w : World} {a : Option Addr} {len cap : Nat} {zs : List Int}
    (h : (a = none ∧ len = 0 ∧ cap = 0 ∧ zs = []) ∨ ∃ x, a = some x ∧ len ≤ cap ∧ cap ≤ maxLen ∧ zs.length = cap ∧ (∀ i, i < zs.length → w.cell? (x.add i) = some (.int k (zs.getD i 0))) ∧ ∀ n ∈ zs, (Lit.int k n).wf = true) :
    Con (Env.bare (allK w)) (.lst 1 ((zs.take len).map fun x => .v (.int k x))) (.slice a len cap) := by
  rcases h with ⟨rfl, rfl, rfl, rfl⟩ | ⟨x, rfl, hl, hm, hz, hcell, _⟩
  · exact .lst _ _ none 0 0 ⟨0, 0, none⟩ (fun _ _ => undef) (by simp) (Nat.le_refl _) (by simp) (by simp) (by simp) (by simp) (by simp)
  · have el : ∀ (i : Nat) (a : AV), ((zs.take len).map fun x => AV.v (.int k x))[i]? = some a → i < len ∧ i < zs.length ∧ a = .v (.int k (zs.getD i 0)) := by
      intro i a ha
      rw [List.getElem?_map, Option.map_eq_some_iff] at ha
      obtain ⟨y, hy, rfl⟩ := ha
      rw [List.getElem?_take] at hy
      split at hy
      · rename_i hi
        obtain ⟨h1, h2⟩ := List.getElem?_eq_some_iff.1 hy
        exact ⟨hi, h1, by rw [List.getD_eq_getElem?_getD, hy]; rfl⟩
      · cases hy
    have one : ∀ (i : Nat) (a : AV) (j : Nat) (b : AV), ((zs.take len).map fun x => AV.v (.int k x))[i]? = some a → a.cells[j]? = some b → j = 0 ∧ b = .v (.int k (zs.getD i 0)) ∧ i < zs.length := by
      intro i a j b ha hb
      obtain ⟨_, h2, rfl⟩ := el i a ha
      simp only [AV.cells, List.getElem?_singleton] at hb
      split at hb
      · cases hb; exact ⟨‹_›, rfl, h2⟩
      · cases hb
    refine .lst _ _ _ len cap x (fun i _ => .int k (zs.getD i 0)) (by simp; omega) hl (fun _ => rfl) ?_ ?_ ?_ ?_
    · intro i a ha
      obtain ⟨_, _, rfl⟩ := el i a ha
      rfl
    · intro i a j b ha hb
      obtain ⟨rfl, _, h2⟩ := one i a j b ha hb
      have := hcell i h2
      rw [Nat.mul_one, Nat.add_zero]
      unfold kcell
      unfold World.cell? at this
      exact this
    · intro i a j b ha hb; rfl
    · intro i a j b ha hb
      obtain ⟨_, rfl, _⟩ := one i a j b ha hb
      exact .v _

/-- A contract whose answer is a plain value, at what came in. -/
theorem PureC.calls {P : Program} {f : FuncId} {args : List AV} {r : Value} (h : PureC P f args (.v r)) {w : World} {vs : Array Value} (ha : ArgsCon (Env.bare (allK w)) args vs) :
    Calls P f vs w fun e w' => e = .returned r ∧ Below w.heap.size w w' := by
  refine (h w (allK w) vs (fun _ _ h => h) ha).mono ?_
  rintro e w' ⟨v, rfl, hb, hc⟩
  cases hc
  exact ⟨rfl, hb⟩

end Go.Vai
/- Contracts as a table: how arguments are read, and what a call answers. -/
namespace Go.Vai
open Go.RowKit

def u (x : Int) : AV := .v (.int .u64 x)
def iv (x : Int) : AV := .v (.int .i64 x)
def bv (b : Bool) : AV := .v (.bool b)
def ms (m : List Int) : AV := .lst 1 (m.map u)

def dU : List AV → Option (List Int)
  | [] => some []
  | .v (.int .u64 x) :: r => (dU r).map (x :: ·)
  | _ => none

theorem dU_map : ∀ m : List Int, dU (m.map u) = some m
  | [] => rfl
  | x :: m => by simp only [List.map_cons, u, dU]; rw [dU_map m]; rfl

theorem dU_some : ∀ {xs : List AV} {m : List Int}, dU xs = some m → xs = m.map u
  | [], m, h => by simp only [dU, Option.some.injEq] at h; subst h; rfl
  | x :: xs, m, h => by
    cases hr : dU xs with
    | none =>
      unfold dU at h
      split at h
      · rename_i heq; cases heq
      · rename_i heq; cases heq; rw [hr] at h; cases h
      · cases h
    | some m' =>
      unfold dU at h
      split at h
      · rename_i heq; cases heq
      · rename_i heq; cases heq; rw [hr] at h; cases h; rw [dU_some hr]; rfl
      · cases h

/-- The numbers of an argument, at most a thousand; nil is a list of none. -/
def dM (a : AV) : Option (List Int) :=
  match a with
  | .lst 1 xs => (dU xs).bind fun m => if m.length ≤ 1000 then some m else none
  | .v (.slice none 0 0) => some []
  | _ => none

theorem dM_some {a : AV} {m : List Int} (h : dM a = some m) : sub1 a (ms m) ∧ m.length ≤ 1000 := by
  unfold dM at h
  split at h
  · rename_i xs
    cases hx : dU xs with
    | none => rw [hx] at h; cases h
    | some m' =>
      rw [hx] at h
      simp only [Option.bind_some] at h
      split at h
      · rename_i hl; cases h; exact ⟨by rw [ms, dU_some hx]; rfl, hl⟩
      · cases h
  · cases h; exact ⟨rfl, Nat.zero_le _⟩
  · cases h

theorem hfree_ms (m : List Int) : HFree (ms m) := hfree_lst fun x hx c hc => by
  obtain ⟨y, _, rfl⟩ := List.mem_map.1 hx
  simp only [u, AV.cells, List.mem_singleton] at hc
  subst hc; exact hfree_v _
theorem hfree_u (x : Int) : HFree (u x) := hfree_v _
theorem hfree_iv (x : Int) : HFree (iv x) := hfree_v _

/-- The cells' functions. -/
def isIn (m : List Int) (i : Int) : Bool := decide (0 ≤ i ∧ i < m.length)
def mLoad (m : List Int) (i : Int) : Int := if isIn m i then m.getD i.toNat 0 else 0
def mStore (m : List Int) (i v : Int) : List Int := if isIn m i then m.set i.toNat v else m
def mCasB (m : List Int) (i old : Int) : Bool := isIn m i && (mLoad m i == old)
def mCas (m : List Int) (i old nw : Int) : List Int := if mCasB m i old = true then m.set i.toNat nw else m
def wrapU (x : Int) : Int := IntKind.wrap .u64 x
def mAdd (m : List Int) (i v : Int) : List Int := mStore m i (wrapU (mLoad m i + v))

theorem len_store (m : List Int) (i v : Int) : (mStore m i v).length = m.length := by unfold mStore; split <;> simp

/-- A table of contracts. -/
abbrev Row := FuncId × (List AV → Option AV)
def tabC (rows : List Row) : FuncId → List AV → Option AV := fun f args => (rows.lookup f).bind fun g => g args
def ctx (P : Program) (rows : List Row) : Ctx := ⟨P, T P, tabC rows, none, fun _ _ _ _ _ => False, fun _ _ => True⟩
theorem ctx_P (P : Program) (rows : List Row) : (ctx P rows).P = P := rfl
theorem ctx_T (P : Program) (rows : List Row) : (ctx P rows).T = T P := rfl
theorem ctx_C (P : Program) (rows : List Row) : (ctx P rows).C = tabC rows := rfl

def RowOk (P : Program) (p : Row) : Prop := ∀ args r, p.2 args = some r → Enters P p.1 ∧ (∀ a ∈ args, HFree a) ∧ PureC P p.1 args r

open Go.Proofs

theorem rows_ok {rows : List Row} (h : ∀ p ∈ rows, RowOk Try.prog p) : (ctx Try.prog rows).ok := ⟨⟨fun _ _ _ _ _ h => h.elim, fun _ _ _ _ _ => trivial, T_ok, draws_ok, fun f args r hC => by
  change tabC rows f args = some r at hC
  change Enters Try.prog f ∧ (∀ a ∈ args, HFree a) ∧ PureC Try.prog f args r
  unfold tabC at hC
  have : ∀ l : List Row, (∀ p ∈ l, RowOk Try.prog p) → (l.lookup f).bind (fun g => g args) = some r → Enters Try.prog f ∧ (∀ a ∈ args, HFree a) ∧ PureC Try.prog f args r := by
    intro l
    induction l with
    | nil => intro _ h; cases h
    | cons p l ih =>
      intro hp hl
      obtain ⟨g, row⟩ := p
      simp only [List.lookup] at hl
      split at hl
      · rename_i he
        have := hp (g, row) (by simp) args r hl
        rw [eq_of_beq he]; exact this
      · exact ih (fun p hp' => hp p (by simp [hp'])) hl
  exact this rows h hC⟩, rfl, fun _ _ => trivial, fun _ _ _ _ _ h => h⟩

theorem ok0 : (ctx Try.prog []).ok := rows_ok fun _ h => by cases h
theorem enters_of {f : FuncId} {fn : Func} (h : Try.prog.funcs[f]? = some fn) (h1 : (fn.name == "runtime.NumGoroutine") = false) (h2 : fn.body.isNone = false) : Enters Try.prog f := ⟨fn, h, h1, h2⟩

/-- How an argument is read. -/
structure Sh (α : Type) where
  dec : AV → Option α
  enc : α → AV
  ok : ∀ a x, dec a = some x → sub1 a (enc x)
  free : ∀ x, HFree (enc x)

theorem Sh.hf {α : Type} (s : Sh α) {a : AV} {x : α} (h : s.dec a = some x) : HFree a := by
  have := s.ok a x h
  unfold sub1 at this
  split at this
  · exact hfree_v _
  · rw [this]; exact s.free x

/-- It was read off something. -/
def Sh.Got {α : Type} (s : Sh α) (x : α) : Prop := ∃ a, s.dec a = some x

theorem subL_args {E : Env} {xs ys : List AV} {vs : Array Value} (h : subL xs ys) (hx : ArgsCon E xs vs) : ArgsCon E ys vs := by
  obtain ⟨h1, h2⟩ := subL_con (vs := vs.toList) h (by simpa using hx.1) fun i x v hx' hv => hx.2 i x v hx' (by simpa using hv)
  exact ⟨by simpa using h1, fun i x v hx' hv => h2 i x v hx' (by simpa using hv)⟩

/-- nil for a list of nothing. -/
theorem PureC.weak {P : Program} {f : FuncId} {xs ys : List AV} {r : AV} (h : subL xs ys) (hp : PureC P f ys r) : PureC P f xs r :=
  fun w K vs hK ha => hp w K vs hK (subL_args h ha)

def dI : AV → Option Int
  | .v (.int .i64 x) => some x
  | _ => none
def dN : AV → Option Int
  | .v (.int .u64 x) => some x
  | _ => none
def dB : AV → Option Bool
  | .v (.bool x) => some x
  | _ => none
theorem dI_some {a : AV} {x : Int} (h : dI a = some x) : sub1 a (iv x) := by unfold dI at h; split at h <;> cases h; rfl
theorem dN_some {a : AV} {x : Int} (h : dN a = some x) : sub1 a (u x) := by unfold dN at h; split at h <;> cases h; rfl
theorem dB_some {a : AV} {x : Bool} (h : dB a = some x) : sub1 a (bv x) := by unfold dB at h; split at h <;> cases h; rfl
def shI : Sh Int := ⟨dI, iv, fun _ _ => dI_some, fun _ => hfree_v _⟩
def shN : Sh Int := ⟨dN, u, fun _ _ => dN_some, fun _ => hfree_v _⟩
def shB : Sh Bool := ⟨dB, bv, fun _ _ => dB_some, fun _ => hfree_v _⟩
def shM : Sh (List Int) := ⟨dM, ms, fun _ _ h => (dM_some h).1, hfree_ms⟩
theorem shI_dec : shI.dec = dI := rfl
theorem shN_dec : shN.dec = dN := rfl
theorem shB_dec : shB.dec = dB := rfl
theorem shM_dec : shM.dec = dM := rfl

def row0 (r : AV) : List AV → Option AV
  | [] => some r
  | _ => none
def row1 {α : Type} (s : Sh α) (F : α → Option AV) : List AV → Option AV
  | [a] => (s.dec a).bind F
  | _ => none
def row2 {α β : Type} (s : Sh α) (t : Sh β) (F : α → β → Option AV) : List AV → Option AV
  | [a, b] => (s.dec a).bind fun x => (t.dec b).bind fun y => F x y
  | _ => none
def row3 {α β γ : Type} (s : Sh α) (t : Sh β) (p : Sh γ) (F : α → β → γ → Option AV) : List AV → Option AV
  | [a, b, c] => (s.dec a).bind fun x => (t.dec b).bind fun y => (p.dec c).bind fun z => F x y z
  | _ => none
def row4 {α β γ δ : Type} (s : Sh α) (t : Sh β) (p : Sh γ) (q : Sh δ) (F : α → β → γ → δ → Option AV) : List AV → Option AV
  | [a, b, c, d] => (s.dec a).bind fun x => (t.dec b).bind fun y => (p.dec c).bind fun z => (q.dec d).bind fun z' => F x y z z'
  | _ => none
def row5 {α β γ δ ε : Type} (s : Sh α) (t : Sh β) (p : Sh γ) (q : Sh δ) (q' : Sh ε) (F : α → β → γ → δ → ε → Option AV) : List AV → Option AV
  | [a, b, c, d, e] => (s.dec a).bind fun x => (t.dec b).bind fun y => (p.dec c).bind fun z => (q.dec d).bind fun z' => (q'.dec e).bind fun z'' => F x y z z' z''
  | _ => none

section
variable {f : FuncId} {α β γ δ ε : Type} {s : Sh α} {t : Sh β} {p : Sh γ} {q : Sh δ} {q' : Sh ε}

theorem ok_row0 {r : AV} (he : Enters Try.prog f) (h : PureC Try.prog f [] r) : RowOk Try.prog (f, row0 r) := by
  intro args r' hr
  dsimp only [row0] at hr
  split at hr
  · cases hr; exact ⟨he, by simp, h⟩
  · cases hr
theorem ok_row1 {F : α → Option AV} (he : Enters Try.prog f) (h : ∀ x r, s.Got x → F x = some r → PureC Try.prog f [s.enc x] r) : RowOk Try.prog (f, row1 s F) := by
  intro args r hr
  dsimp only [row1] at hr
  split at hr
  · rename_i a
    obtain ⟨x, hx, hr⟩ := Option.bind_eq_some_iff.1 hr
    exact ⟨he, by simp only [List.mem_cons, List.not_mem_nil, or_false]; rintro _ rfl; exact s.hf hx, .weak (ys := [s.enc x]) ⟨s.ok _ _ hx, trivial⟩ (h x r ⟨a, hx⟩ hr)⟩
  · cases hr
theorem ok_row2 {F : α → β → Option AV} (he : Enters Try.prog f) (h : ∀ x y r, s.Got x → t.Got y → F x y = some r → PureC Try.prog f [s.enc x, t.enc y] r) : RowOk Try.prog (f, row2 s t F) := by
  intro args r hr
  dsimp only [row2] at hr
  split at hr
  · rename_i a b
    obtain ⟨x, hx, hr⟩ := Option.bind_eq_some_iff.1 hr
    obtain ⟨y, hy, hr⟩ := Option.bind_eq_some_iff.1 hr
    exact ⟨he, by simp only [List.mem_cons, List.not_mem_nil, or_false]; rintro _ (rfl | rfl) <;> first | exact s.hf hx | exact t.hf hy, .weak (ys := [s.enc x, t.enc y]) ⟨s.ok _ _ hx, t.ok _ _ hy, trivial⟩ (h x y r ⟨a, hx⟩ ⟨b, hy⟩ hr)⟩
  · cases hr
theorem ok_row3 {F : α → β → γ → Option AV} (he : Enters Try.prog f) (h : ∀ x y z r, s.Got x → t.Got y → p.Got z → F x y z = some r → PureC Try.prog f [s.enc x, t.enc y, p.enc z] r) : RowOk Try.prog (f, row3 s t p F) := by
  intro args r hr
  dsimp only [row3] at hr
  split at hr
  · rename_i a b c
    obtain ⟨x, hx, hr⟩ := Option.bind_eq_some_iff.1 hr
    obtain ⟨y, hy, hr⟩ := Option.bind_eq_some_iff.1 hr
    obtain ⟨z, hz, hr⟩ := Option.bind_eq_some_iff.1 hr
    exact ⟨he, by simp only [List.mem_cons, List.not_mem_nil, or_false]; rintro _ (rfl | rfl | rfl) <;> first | exact s.hf hx | exact t.hf hy | exact p.hf hz, .weak (ys := [s.enc x, t.enc y, p.enc z]) ⟨s.ok _ _ hx, t.ok _ _ hy, p.ok _ _ hz, trivial⟩ (h x y z r ⟨a, hx⟩ ⟨b, hy⟩ ⟨c, hz⟩ hr)⟩
  · cases hr
theorem ok_row4 {F : α → β → γ → δ → Option AV} (he : Enters Try.prog f) (h : ∀ x y z z' r, s.Got x → t.Got y → p.Got z → q.Got z' → F x y z z' = some r → PureC Try.prog f [s.enc x, t.enc y, p.enc z, q.enc z'] r) : RowOk Try.prog (f, row4 s t p q F) := by
  intro args r hr
  dsimp only [row4] at hr
  split at hr
  · rename_i a b c d
    obtain ⟨x, hx, hr⟩ := Option.bind_eq_some_iff.1 hr
    obtain ⟨y, hy, hr⟩ := Option.bind_eq_some_iff.1 hr
    obtain ⟨z, hz, hr⟩ := Option.bind_eq_some_iff.1 hr
    obtain ⟨z', hz', hr⟩ := Option.bind_eq_some_iff.1 hr
    exact ⟨he, by simp only [List.mem_cons, List.not_mem_nil, or_false]; rintro _ (rfl | rfl | rfl | rfl) <;> first | exact s.hf hx | exact t.hf hy | exact p.hf hz | exact q.hf hz', .weak (ys := [s.enc x, t.enc y, p.enc z, q.enc z']) ⟨s.ok _ _ hx, t.ok _ _ hy, p.ok _ _ hz, q.ok _ _ hz', trivial⟩ (h x y z z' r ⟨a, hx⟩ ⟨b, hy⟩ ⟨c, hz⟩ ⟨d, hz'⟩ hr)⟩
  · cases hr
theorem ok_row5 {F : α → β → γ → δ → ε → Option AV} (he : Enters Try.prog f) (h : ∀ x y z z' z'' r, s.Got x → t.Got y → p.Got z → q.Got z' → q'.Got z'' → F x y z z' z'' = some r → PureC Try.prog f [s.enc x, t.enc y, p.enc z, q.enc z', q'.enc z''] r) : RowOk Try.prog (f, row5 s t p q q' F) := by
  intro args r hr
  dsimp only [row5] at hr
  split at hr
  · rename_i a b c d e
    obtain ⟨x, hx, hr⟩ := Option.bind_eq_some_iff.1 hr
    obtain ⟨y, hy, hr⟩ := Option.bind_eq_some_iff.1 hr
    obtain ⟨z, hz, hr⟩ := Option.bind_eq_some_iff.1 hr
    obtain ⟨z', hz', hr⟩ := Option.bind_eq_some_iff.1 hr
    obtain ⟨z'', hz'', hr⟩ := Option.bind_eq_some_iff.1 hr
    exact ⟨he, by simp only [List.mem_cons, List.not_mem_nil, or_false]; rintro _ (rfl | rfl | rfl | rfl | rfl) <;> first | exact s.hf hx | exact t.hf hy | exact p.hf hz | exact q.hf hz' | exact q'.hf hz'', .weak (ys := [s.enc x, t.enc y, p.enc z, q.enc z', q'.enc z'']) ⟨s.ok _ _ hx, t.ok _ _ hy, p.ok _ _ hz, q.ok _ _ hz', q'.ok _ _ hz'', trivial⟩ (h x y z z' z'' r ⟨a, hx⟩ ⟨b, hy⟩ ⟨c, hz⟩ ⟨d, hz'⟩ ⟨e, hz''⟩ hr)⟩
  · cases hr
end
theorem shM_got {m : List Int} (h : shM.Got m) : m.length ≤ 1000 := h.elim fun _ h => (dM_some h).2

def rMI (F : List Int → Int → AV) : List AV → Option AV := row2 shM shI fun m i => some (F m i)
def rMIU (F : List Int → Int → Int → AV) : List AV → Option AV := row3 shM shI shN fun m i v => some (F m i v)
def rMIUU (F : List Int → Int → Int → Int → AV) : List AV → Option AV := row4 shM shI shN shN fun m i v w => some (F m i v w)
def rMM (F : List Int → List Int → AV) : List AV → Option AV := row2 shM shM fun m k => some (F m k)

theorem rMI_eq (F : List Int → Int → AV) (m : List Int) (i : Int) (h : m.length ≤ 1000) : rMI F [.lst 1 (m.map u), .v (.int .i64 i)] = some (F m i) := by simp [rMI, row2, shM_dec, shI_dec, dI, dM, dU_map, h]
theorem rMIU_eq (F : List Int → Int → Int → AV) (m : List Int) (i v : Int) (h : m.length ≤ 1000) : rMIU F [.lst 1 (m.map u), .v (.int .i64 i), .v (.int .u64 v)] = some (F m i v) := by simp [rMIU, row3, shM_dec, shI_dec, shN_dec, dI, dN, dM, dU_map, h]
theorem rMIUU_eq (F : List Int → Int → Int → Int → AV) (m : List Int) (i v w : Int) (h : m.length ≤ 1000) : rMIUU F [.lst 1 (m.map u), .v (.int .i64 i), .v (.int .u64 v), .v (.int .u64 w)] = some (F m i v w) := by simp [rMIUU, row4, shM_dec, shI_dec, shN_dec, dI, dN, dM, dU_map, h]
theorem rMM_eq (F : List Int → List Int → AV) (m k : List Int) (h : m.length ≤ 1000) (h' : k.length ≤ 1000) : rMM F [.lst 1 (m.map u), .lst 1 (k.map u)] = some (F m k) := by simp [rMM, row2, shM_dec, dM, dU_map, h, h']

theorem ok_MI {f : FuncId} {F : List Int → Int → AV} (he : Enters Try.prog f) (h : ∀ m i, m.length ≤ 1000 → PureC Try.prog f [ms m, iv i] (F m i)) : RowOk Try.prog (f, rMI F) :=
  ok_row2 he fun m i r g _ e => by cases e; exact h m i (shM_got g)
theorem ok_MIU {f : FuncId} {F : List Int → Int → Int → AV} (he : Enters Try.prog f) (h : ∀ m i v, m.length ≤ 1000 → PureC Try.prog f [ms m, iv i, u v] (F m i v)) : RowOk Try.prog (f, rMIU F) :=
  ok_row3 he fun m i v r g _ _ e => by cases e; exact h m i v (shM_got g)
theorem ok_MIUU {f : FuncId} {F : List Int → Int → Int → Int → AV} (he : Enters Try.prog f) (h : ∀ m i v w, m.length ≤ 1000 → PureC Try.prog f [ms m, iv i, u v, u w] (F m i v w)) : RowOk Try.prog (f, rMIUU F) :=
  ok_row4 he fun m i v w r g _ _ _ e => by cases e; exact h m i v w (shM_got g)
theorem ok_MM {f : FuncId} {F : List Int → List Int → AV} (he : Enters Try.prog f) (h : ∀ m k, m.length ≤ 1000 → k.length ≤ 1000 → PureC Try.prog f [ms m, ms k] (F m k)) : RowOk Try.prog (f, rMM F) :=
  ok_row2 he fun m k r g g' e => by cases e; exact h m k (shM_got g) (shM_got g')

theorem getD_u {m : List Int} {k : Nat} (h : k < m.length) : (m.map u).getD k .top = u (m.getD k 0) := by simp [List.getD_eq_getElem?_getD, h]

theorem isIn_true {m : List Int} {i : Int} (h : isIn m i = true) : 0 ≤ i ∧ i < m.length ∧ i.toNat < m.length := by
  simp [isIn] at h; omega

theorem set_u (m : List Int) (k : Nat) (v : Int) : (m.map u).set k (.v (.int .u64 v)) = (m.set k v).map u := by rw [List.map_set]; rfl
theorem take_u (m : List Int) : (m.map u).take m.length = m.map u := List.take_of_length_le (by simp)
theorem take_us (m : List Int) (k : Nat) (v : Int) : ((m.set k v).map u).take m.length = (m.set k v).map u := List.take_of_length_le (by simp)
theorem frz_u (hp : Hp) : ∀ m : List Int, frzArgs hp (m.map u) = (m.map u, hp)
  | [] => rfl
  | x :: r => by rw [List.map_cons, frzArgs]; show (u x :: (frzArgs hp (r.map u)).1, (frzArgs hp (r.map u)).2) = _; rw [frz_u hp r]
theorem hf_u (m : List Int) : (∀ x ∈ m.map u, ∀ c ∈ x.cells, HFree c) = True := eq_true fun x hx c hc => by
  obtain ⟨y, _, rfl⟩ := List.mem_map.1 hx
  simp only [u, AV.cells, List.mem_singleton] at hc
  subst hc; exact hfree_v _
theorem ne_u {m : List Int} {k : Nat} (h : k < m.length) : (m.map u = []) = False := by
  have : m ≠ [] := by rintro rfl; simp at h
  simp [this]

theorem set_self {m : List Int} {k : Nat} (h : k < m.length) : m.set k (m.getD k 0) = m := by
  rw [List.getD_eq_getElem?_getD, List.getElem?_eq_getElem h]
  exact List.set_getElem_self h
theorem wrap_s {x : Nat} (h : x ≤ 1000) : IntKind.i64.wrap ((x : Int) + 1) = ((x + 1 : Nat) : Int) := by
  rw [IntKind.wrap_i64]; omega

theorem getD_ne {a b : List Int} {i : Nat} (h : (a.getD i 0 != b.getD i 0) = true) : a ≠ b := by
  rintro rfl; simp at h
theorem take_next {a b : List Int} {i : Nat} (hi : i < a.length) (hi' : i < b.length) (h : a.take i = b.take i) (he : (a.getD i 0 != b.getD i 0) = false) : a.take (i + 1) = b.take (i + 1) := by
  rw [List.take_add_one, List.take_add_one, h, List.getElem?_eq_getElem hi, List.getElem?_eq_getElem hi']
  simp [List.getD_eq_getElem?_getD, hi, hi'] at he
  rw [he]

theorem hfree_lu (m : List Int) : HFree (.lst 1 (m.map u)) = True := eq_true (hfree_ms m)
theorem hfree_l0 : HFree (.lst 1 []) = True := eq_true (hfree_ms [])
theorem hf_0 : (∀ y ∈ ([] : List AV), ∀ c ∈ y.cells, HFree c) = True := eq_true fun y hy => by cases hy
theorem hf_1 (x : Value) : (∀ y ∈ [AV.v x], ∀ c ∈ y.cells, HFree c) = True := eq_true fun y hy c hc => by
  simp only [List.mem_singleton] at hy
  subst hy
  simp only [AV.cells, List.mem_singleton] at hc
  subst hc; exact hfree_v _
theorem wrap_i {x : Int} (h0 : -9223372036854775808 ≤ x) (h1 : x < 9223372036854775808) : IntKind.i64.wrap x = x := by
  rw [IntKind.wrap_i64]; omega
theorem snoc_u (m : List Int) (v : Int) : m.map u ++ [AV.v (.int .u64 v)] = (m ++ [v]).map u := by simp [u]
theorem take_snoc (m : List Int) (v : Int) : ((m ++ [v]).map u).take (m.length + 1) = (m ++ [v]).map u := List.take_of_length_le (by simp)
theorem len_snoc (m : List Int) (v : Int) : (m ++ [v]).length = m.length + 1 := by simp
theorem drop_u (m : List Int) : ((m.map u).drop 1).take (m.length - 1) = (m.drop 1).map u := by
  rw [← List.map_drop]
  exact List.take_of_length_le (by simp)
theorem takeL_u (m : List Int) (k : Nat) : (m.map u).take k = (m.take k).map u := List.map_take.symm

end Go.Vai
/- Layouts: where cells are; and how far one number lies behind another one. -/
namespace Go.Vai
open Go.RowKit Go.Proofs
set_option linter.unusedSimpArgs false
set_option linter.unusedVariables false
set_option maxHeartbeats 4000000
set_option maxRecDepth 100000

/-- As many zeros. -/
def zeros (n : Nat) : List Int := List.replicate n 0
theorem zeros_len (n : Nat) : (zeros n).length = n := List.length_replicate
theorem zeros_succ (n : Nat) : zeros n ++ [0] = zeros (n + 1) := (List.replicate_succ').symm
theorem zeros_0 : zeros 0 = [] := rfl

theorem hlk_hd (id : Nat) (x : Option Blk) (r : Hp) : hlk ((id, x) :: r) id = x := by rw [hlk_cons, if_pos rfl]
theorem opt_if {p : Prop} [Decidable p] {a r : AV} (e : (if p then some a else none) = some r) : p ∧ a = r := by
  by_cases h : p
  · rw [if_pos h] at e; exact ⟨h, Option.some.inj e⟩
  · rw [if_neg h] at e; cases e

/-- A layout: workers, room of a deque, room of the injector, tries. -/
structure Cf where
  w : Int
  d : Int
  i : Int
  spin : Int
  deriving DecidableEq

def cv' (c : Cf) : AV := .agg [iv c.w, iv c.d, iv c.i, iv c.spin]
def dC : AV → Option Cf
  | .agg [.v (.int .i64 a), .v (.int .i64 b), .v (.int .i64 c), .v (.int .i64 d)] => some ⟨a, b, c, d⟩
  | _ => none
theorem dC_some {a : AV} {c : Cf} (h : dC a = some c) : sub1 a (cv' c) := by
  unfold dC at h
  split at h
  · cases h; rfl
  · cases h
theorem hfree_cv (c : Cf) : HFree (cv' c) := hfree_agg fun a ha => by
  simp only [iv, List.mem_cons, List.not_mem_nil, or_false] at ha
  rcases ha with rfl | rfl | rfl | rfl <;> exact hfree_v _
theorem hfree_cf (a b c d : Int) : HFree (.agg [.v (.int .i64 a), .v (.int .i64 b), .v (.int .i64 c), .v (.int .i64 d)]) = True := eq_true (hfree_cv ⟨a, b, c, d⟩)
def shC : Sh Cf := ⟨dC, cv', fun _ _ => dC_some, hfree_cv⟩
theorem shC_dec : shC.dec = dC := rfl
theorem cf_eta (c : Cf) : (⟨c.w, c.d, c.i, c.spin⟩ : Cf) = c := rfl

/-- May a layout be? -/
def mayC (c : Cf) : Bool := decide (1 ≤ c.w ∧ c.w ≤ 8 ∧ (c.d = 1 ∨ c.d = 2 ∨ c.d = 4 ∨ c.d = 8 ∨ c.d = 16) ∧ 1 ≤ c.i ∧ c.i ≤ 16 ∧ 0 ≤ c.spin ∧ c.spin ≤ 4)
def lBase (c : Cf) (w : Int) : Int := 6 + 2 * c.i + w * (3 + c.d)
def lSize (c : Cf) : Int := if mayC c then lBase c c.w else 0
def lHas (c : Cf) (w : Int) : Bool := mayC c && decide (0 ≤ w ∧ w < c.w)
def lTop (c : Cf) (w : Int) : Int := if lHas c w then lBase c w else -1
def lBottom (c : Cf) (w : Int) : Int := if lHas c w then lBase c w + 1 else -1
def lSlot (c : Cf) (w x : Int) : Int := if lHas c w then lBase c w + 3 + x % 18446744073709551616 % c.d else -1
def lSeq (c : Cf) (x : Int) : Int := if mayC c then 6 + x % 18446744073709551616 % c.i else -1
def lVal (c : Cf) (x : Int) : Int := if mayC c then 6 + c.i + x % 18446744073709551616 % c.i else -1
/-- How far one lies behind another one. -/
def far (a b : Int) : Int := IntKind.wrap .i64 (a - b)

theorem wrapU_eq (x : Int) : wrapU x = x % 18446744073709551616 := by unfold wrapU; rw [IntKind.wrap_u64]
theorem wrapU_in (x : Int) : 0 ≤ wrapU x ∧ wrapU x < 18446744073709551616 := by rw [wrapU_eq]; omega

theorem mayC_iff {c : Cf} : mayC c = true ↔ (1 ≤ c.w ∧ c.w ≤ 8 ∧ (c.d = 1 ∨ c.d = 2 ∨ c.d = 4 ∨ c.d = 8 ∨ c.d = 16) ∧ 1 ≤ c.i ∧ c.i ≤ 16 ∧ 0 ≤ c.spin ∧ c.spin ≤ 4) := by simp [mayC]

/-- The walk's word for a power of two. -/
def twoB (d : Int) : Bool := IntKind.wrap .i64 (BitVec.ofInt IntKind.i64.bits d &&& BitVec.ofInt IntKind.i64.bits (IntKind.wrap .i64 (d - 1))).toNat == 0
theorem twoB_eq {d : Int} (h : 1 ≤ d ∧ d ≤ 16) : twoB d = decide (d = 1 ∨ d = 2 ∨ d = 4 ∨ d = 8 ∨ d = 16) := by
  have : d = 1 ∨ d = 2 ∨ d = 3 ∨ d = 4 ∨ d = 5 ∨ d = 6 ∨ d = 7 ∨ d = 8 ∨ d = 9 ∨ d = 10 ∨ d = 11 ∨ d = 12 ∨ d = 13 ∨ d = 14 ∨ d = 15 ∨ d = 16 := by omega
  rcases this with rfl | rfl | rfl | rfl | rfl | rfl | rfl | rfl | rfl | rfl | rfl | rfl | rfl | rfl | rfl | rfl <;> decide
end Go.Vai
/- Calls: what the functions of the frames' layer compute. -/
namespace Go.Vai
open Go.RowKit Go.Proofs
set_option linter.unusedSimpArgs false
set_option linter.unusedVariables false
set_option maxHeartbeats 4000000
set_option maxRecDepth 100000

/-- A call. -/
structure Fr where
  op : Int
  pc : Int
  who : Int
  val : Int
  x : Int
  y : Int
  res : Int
  deriving DecidableEq

def fv (f : Fr) : AV := .agg [iv f.op, iv f.pc, iv f.who, u f.val, u f.x, u f.y, iv f.res]
def fEnd (f : Fr) (res val : Int) : Fr := ⟨f.op, 0, f.who, val, 0, 0, res⟩
def fBegin (op who val : Int) : Fr := ⟨op, 0, who, val, 0, 0, 0⟩

def dF : AV → Option Fr
  | .agg [.v (.int .i64 a), .v (.int .i64 b), .v (.int .i64 c), .v (.int .u64 d), .v (.int .u64 e), .v (.int .u64 g), .v (.int .i64 h)] => some ⟨a, b, c, d, e, g, h⟩
  | _ => none

theorem dF_fv (f : Fr) : dF (fv f) = some f := rfl
theorem dF_some {a : AV} {f : Fr} (h : dF a = some f) : a = fv f := by
  unfold dF at h
  split at h
  · cases h; rfl
  · cases h
theorem hfree_fv (f : Fr) : HFree (fv f) := hfree_agg fun c hc => by
  simp only [iv, u, List.mem_cons, List.not_mem_nil, or_false] at hc
  rcases hc with rfl | rfl | rfl | rfl | rfl | rfl | rfl <;> exact hfree_v _

theorem sub1_fv {a : AV} {f : Fr} (h : dF a = some f) : sub1 a (fv f) := by rw [dF_some h]; rfl
def shF : Sh Fr := ⟨dF, fv, fun _ _ h => sub1_fv h, hfree_fv⟩
theorem shF_dec : shF.dec = dF := rfl
theorem fr_eta (f : Fr) : (⟨f.op, f.pc, f.who, f.val, f.x, f.y, f.res⟩ : Fr) = f := rfl

theorem begin_pure (op who val : Int) : PureC Try.prog 23 [iv op, iv who, u val] (fv (fBegin op who val)) := by
  refine pure_sub ok0 1 Try.func23 rfl (by show 3 ≤ _; decide) ?_
  simp only [Try.f23, fv, fBegin, T28, hfree_lu, hfree_l0, row0, row1, row2, row3, row4, row5, shI_dec, shN_dec, shB_dec, shM_dec, dI, dN, dB, dM, dU, dU_map, iv, bv, u, ms, ctx_T, ctx_C, ctx_P, T4, T3, T26, Option.bind_some, Option.bind_none, Option.map_some, List.length_map, List.length_set, String.reduceBEq, Int.toNat_natCast, Bool.true_beq, Bool.false_beq, T24, shF_dec, dF, fr_eta, ev1, ev2, implies_true, undef, stepP, drawB, stepL, lateB, lateB0, rdsT, rdsAny, isRd, afterL, preB, callLB, callLV, lateV, dstV, dynCall, ↓condE_t, ↓condE_f, ↓guardE_tt, ↓guardE_ff, ↓guardE_tf, ↓guardE_ft, frzDeep, deepArgs, deepArg, resB, cv, stepB, stepE, callD, tabD, snapD, snap1, snapC, snapId, snapIds, guardB, guardC, dstAt, aopR, one, pre, binR, intOpR, shiftOpR, unR, argFrm, evo, lkp, hlk, lenOf, asLst, idOf, bndA, srcOk, ofVal, ofCells, setCells, fillA, setElems, fieldsOf, fieldsEq, scalEq, isEq, AV.wr, AV.ok1, TK.agg, frz, frzs, frzA, frzArg, frzArgs, subA, subL, sub1, kp, kh, accOf, List.replicate, Nat.reduceAdd, Nat.reduceSub, Nat.reduceMul, Nat.reduceEqDiff, Nat.reduceLT, Nat.reduceLeDiff, Nat.reduceBEq, reduceIte, reduceCtorEq, eq_self, ne_eq, Int.reduceToNat, Int.reduceLT, Int.reduceLE, Int.reduceGT, Int.reduceGE, Int.reduceBEq, Int.reduceBNe, Int.reduceEq, Int.reduceNe]

theorem over_pure (f : Fr) : PureC Try.prog 20 [fv f] (bv (f.res != 0)) := by
  refine pure_sub ok0 1 Try.func20 rfl (by show 1 ≤ _; decide) ?_
  simp only [Try.f20, fv, T28, hfree_lu, hfree_l0, row0, row1, row2, row3, row4, row5, shI_dec, shN_dec, shB_dec, shM_dec, dI, dN, dB, dM, dU, dU_map, iv, bv, u, ms, ctx_T, ctx_C, ctx_P, T4, T3, T26, Option.bind_some, Option.bind_none, Option.map_some, List.length_map, List.length_set, String.reduceBEq, Int.toNat_natCast, Bool.true_beq, Bool.false_beq, T24, shF_dec, dF, fr_eta, ev1, ev2, implies_true, undef, stepP, drawB, stepL, lateB, lateB0, rdsT, rdsAny, isRd, afterL, preB, callLB, callLV, lateV, dstV, dynCall, ↓condE_t, ↓condE_f, ↓guardE_tt, ↓guardE_ff, ↓guardE_tf, ↓guardE_ft, frzDeep, deepArgs, deepArg, resB, cv, stepB, stepE, callD, tabD, snapD, snap1, snapC, snapId, snapIds, guardB, guardC, dstAt, aopR, one, pre, binR, intOpR, shiftOpR, unR, argFrm, evo, lkp, hlk, lenOf, asLst, idOf, bndA, srcOk, ofVal, ofCells, setCells, fillA, setElems, fieldsOf, fieldsEq, scalEq, isEq, AV.wr, AV.ok1, TK.agg, frz, frzs, frzA, frzArg, frzArgs, subA, subL, sub1, kp, kh, accOf, List.replicate, Nat.reduceAdd, Nat.reduceSub, Nat.reduceMul, Nat.reduceEqDiff, Nat.reduceLT, Nat.reduceLeDiff, Nat.reduceBEq, reduceIte, reduceCtorEq, eq_self, ne_eq, Int.reduceToNat, Int.reduceLT, Int.reduceLE, Int.reduceGT, Int.reduceGE, Int.reduceBEq, Int.reduceBNe, Int.reduceEq, Int.reduceNe]

theorem end_pure (f : Fr) (res val : Int) : PureC Try.prog 62 [fv f, iv res, u val] (fv (fEnd f res val)) := by
  refine pure_sub ok0 1 Try.func62 rfl (by show 3 ≤ _; decide) ?_
  simp only [Try.f62, fv, fEnd, T28, hfree_lu, hfree_l0, row0, row1, row2, row3, row4, row5, shI_dec, shN_dec, shB_dec, shM_dec, dI, dN, dB, dM, dU, dU_map, iv, bv, u, ms, ctx_T, ctx_C, ctx_P, T4, T3, T26, Option.bind_some, Option.bind_none, Option.map_some, List.length_map, List.length_set, String.reduceBEq, Int.toNat_natCast, Bool.true_beq, Bool.false_beq, T24, shF_dec, dF, fr_eta, ev1, ev2, implies_true, undef, stepP, drawB, stepL, lateB, lateB0, rdsT, rdsAny, isRd, afterL, preB, callLB, callLV, lateV, dstV, dynCall, ↓condE_t, ↓condE_f, ↓guardE_tt, ↓guardE_ff, ↓guardE_tf, ↓guardE_ft, frzDeep, deepArgs, deepArg, resB, cv, stepB, stepE, callD, tabD, snapD, snap1, snapC, snapId, snapIds, guardB, guardC, dstAt, aopR, one, pre, binR, intOpR, shiftOpR, unR, argFrm, evo, lkp, hlk, lenOf, asLst, idOf, bndA, srcOk, ofVal, ofCells, setCells, fillA, setElems, fieldsOf, fieldsEq, scalEq, isEq, AV.wr, AV.ok1, TK.agg, frz, frzs, frzA, frzArg, frzArgs, subA, subL, sub1, kp, kh, accOf, List.replicate, Nat.reduceAdd, Nat.reduceSub, Nat.reduceMul, Nat.reduceEqDiff, Nat.reduceLT, Nat.reduceLeDiff, Nat.reduceBEq, reduceIte, reduceCtorEq, eq_self, ne_eq, Int.reduceToNat, Int.reduceLT, Int.reduceLE, Int.reduceGT, Int.reduceGE, Int.reduceBEq, Int.reduceBNe, Int.reduceEq, Int.reduceNe]

def rowsF : List Row := [
  (23, row3 shI shI shN fun o w v => some (fv (fBegin o w v))), 
  (20, row1 shF fun f => some (bv (f.res != 0))), 
  (62, row3 shF shI shN fun f r v => some (fv (fEnd f r v)))]
theorem rowsF_ok : ∀ p ∈ rowsF, RowOk Try.prog p := fun p h => by
  simp only [rowsF, List.mem_append, List.mem_cons, List.not_mem_nil, or_false, false_or, or_assoc] at h
  rcases h with rfl | rfl | rfl
  · exact ok_row3 (enters_of Try.func23 (by decide) rfl) fun o w v r _ _ _ e => by cases e; exact begin_pure o w v
  · exact ok_row1 (enters_of Try.func20 (by decide) rfl) fun f r _ e => by cases e; exact over_pure f
  · exact ok_row3 (enters_of Try.func62 (by decide) rfl) fun f x v r _ _ _ e => by cases e; exact end_pure f x v
theorem okF : (ctx Try.prog rowsF).ok := rows_ok rowsF_ok
theorem F_23 : tabC rowsF 23 = row3 shI shI shN fun o w v => some (fv (fBegin o w v)) := rfl
theorem F_20 : tabC rowsF 20 = row1 shF fun f => some (bv (f.res != 0)) := rfl
theorem F_62 : tabC rowsF 62 = row3 shF shI shN fun f r v => some (fv (fEnd f r v)) := rfl
theorem F_52 : tabC rowsF 52 = fun _ => none := rfl
theorem F_53 : tabC rowsF 53 = fun _ => none := rfl
theorem F_54 : tabC rowsF 54 = fun _ => none := rfl
theorem F_51 : tabC rowsF 51 = fun _ => none := rfl
theorem F_all : type_of% (And.intro F_23 <| And.intro F_20 <| And.intro F_62 <| And.intro F_52 <| And.intro F_53 <| And.intro F_54 <| F_51) := And.intro F_23 <| And.intro F_20 <| And.intro F_62 <| And.intro F_52 <| And.intro F_53 <| And.intro F_54 <| F_51

end Go.Vai
/- What came in, read as the evaluator's values: numbers, structs of numbers, and lists of such. -/
namespace Go.Vai
open Go.RowKit Go.WideShapes Go.ChangeShapes

/-- Numbers in their range. -/
def InI (x : Int) : Prop := -9223372036854775808 ≤ x ∧ x < 9223372036854775808
def InU (x : Int) : Prop := 0 ≤ x ∧ x < 18446744073709551616
theorem in_i {x : Int} (h : (Lit.int .i64 x).wf = true) : InI x := by
  have e1 : IntKind.min .i64 = -9223372036854775808 := by decide
  have e2 : IntKind.max .i64 = 9223372036854775807 := by decide
  simp only [Lit.wf, e1, e2, Bool.and_eq_true, decide_eq_true_eq] at h
  unfold InI; omega
theorem in_u {x : Int} (h : (Lit.int .u64 x).wf = true) : InU x := by
  have e1 : IntKind.min .u64 = 0 := by decide
  have e2 : IntKind.max .u64 = 18446744073709551615 := by decide
  simp only [Lit.wf, e1, e2, Bool.and_eq_true, decide_eq_true_eq] at h
  unfold InU; omega

/-- How what lies in cells is read as a value. -/
structure Rdr (P : Program) (e : TypeId) (α : Type) where
  n : Nat
  av : α → AV
  wf : α → Prop
  size : P.cellsOf e = n
  len : ∀ x, (av x).cells.length = n
  rd : ∀ {H : Type} (enc : TypeId × Value → H) (w : World) (base : Nat) (spare : Nat → Bool) (held : Bool) (fuel : Nat) (cs : List Value) (d : DataW H × List MemPlace),
    DataW.trod enc P w base spare held fuel e cs = some d → ∃ x, wf x ∧ cs.length = n ∧ ∀ (j : Nat) (a : AV) (c : Value), (av x).cells[j]? = some a → cs[j]? = some c → c.oneCell' = true ∧ Con (Env.bare (allK w)) a c

def rdInt {P : Program} {e : TypeId} {k : IntKind} (ht : P.underlying e = some (.int k)) (hc : P.cellsOf e = 1) : Rdr P e Int where
  n := 1
  av := fun x => .v (.int k x)
  wf := fun x => (Lit.int k x).wf = true
  size := hc
  len := fun _ => rfl
  rd := fun enc w base spare held fuel cs d h => by
    obtain ⟨z, rfl, _, hw⟩ := DataW.trod_int ht h
    refine ⟨z, hw, rfl, fun j a c ha hcj => ?_⟩
    cases j with
    | zero => simp [AV.cells] at ha hcj; subst ha; subst hcj; exact ⟨rfl, .v _⟩
    | succ j => simp at hcj

def rdBool {P : Program} {e : TypeId} (ht : P.underlying e = some .bool) (hc : P.cellsOf e = 1) : Rdr P e Bool where
  n := 1
  av := bv
  wf := fun _ => True
  size := hc
  len := fun _ => rfl
  rd := fun enc w base spare held fuel cs d h => by
    obtain ⟨z, rfl, _⟩ := DataW.trod_bool ht h
    refine ⟨z, trivial, rfl, fun j a c ha hcj => ?_⟩
    cases j with
    | zero => simp [bv, AV.cells] at ha hcj; subst ha; subst hcj; exact ⟨rfl, .v _⟩
    | succ j => simp at hcj

/-- Fields of one number each. -/
def fieldsB (P : Program) (fs : Array Field) (ks : List IntKind) : Bool :=
  fs.size == ks.length && (List.range ks.length).all fun i => match fs[i]?, ks[i]? with
    | some f, some k => f.offset == i && P.cellsOf f.type == 1 && (match P.underlying f.type with | some (.int k') => decide (k' = k) | _ => false)
    | _, _ => false

theorem struct_ints {H : Type} {enc : TypeId × Value → H} {P : Program} {w : World} {base : Nat} {spare : Nat → Bool} {held : Bool} {fuel : Nat} {t : TypeId} {fs : Array Field} {ks : List IntKind} {cs : List Value} {x : DataW H × List MemPlace}
    (ht : P.underlying t = some (.struct fs)) (hC : P.cellsOf t = ks.length) (hB : fieldsB P fs ks = true) (h : DataW.trod enc P w base spare held fuel t cs = some x) :
    cs.length = ks.length ∧ ∀ (i : Nat) (k : IntKind), ks[i]? = some k → ∃ z, cs[i]? = some (.int k z) ∧ (Lit.int k z).wf = true := by
  obtain ⟨xs, n, _, _, hl, hlen, hf⟩ := DataW.trod_struct ht h
  refine ⟨hl.trans hC, fun i k hk => ?_⟩
  unfold fieldsB at hB
  rw [Bool.and_eq_true, List.all_eq_true] at hB
  have hi : i < ks.length := (List.getElem?_eq_some_iff.1 hk).1
  have := hB.2 i (by simp [hi])
  rw [hk] at this
  cases hfi : fs[i]? with
  | none => rw [hfi] at this; cases this
  | some f =>
    rw [hfi] at this
    simp only [Bool.and_eq_true, beq_iff_eq] at this
    obtain ⟨⟨h1, h2⟩, h3⟩ := this
    have hu : P.underlying f.type = some (.int k) := by
      split at h3
      · rename_i k' he
        rw [he, of_decide_eq_true h3]
      · cases h3
    have hx := hf i f hfi
    have hxi : i < xs.length := by rw [hlen]; exact (Array.getElem?_eq_some_iff.1 hfi).1
    rw [List.getElem?_eq_getElem hxi, h1, h2] at hx
    obtain ⟨z, hz, _, hw⟩ := DataW.trod_int hu hx
    refine ⟨z, ?_, hw⟩
    have : ((cs.drop i).take 1)[0]? = some (.int k z) := by rw [hz]; rfl
    simpa using this

def frKinds : List IntKind := [.i64, .i64, .i64, .u64, .u64, .u64, .i64]

/-- A frame in its range. -/
def Fr.wf (f : Fr) : Prop := InI f.op ∧ InI f.pc ∧ InI f.who ∧ InU f.val ∧ InU f.x ∧ InU f.y ∧ InI f.res

def rdFr {P : Program} {t : TypeId} {fs : Array Field} (ht : P.underlying t = some (.struct fs)) (hC : P.cellsOf t = 7) (hB : fieldsB P fs frKinds = true) : Rdr P t Fr where
  n := 7
  av := fv
  wf := Fr.wf
  size := hC
  len := fun _ => rfl
  rd := fun enc w base spare held fuel cs d h => by
    obtain ⟨hl, hz⟩ := struct_ints ht (ks := frKinds) hC hB h
    obtain ⟨z0, e0, w0⟩ := hz 0 .i64 rfl
    obtain ⟨z1, e1, w1⟩ := hz 1 .i64 rfl
    obtain ⟨z2, e2, w2⟩ := hz 2 .i64 rfl
    obtain ⟨z3, e3, w3⟩ := hz 3 .u64 rfl
    obtain ⟨z4, e4, w4⟩ := hz 4 .u64 rfl
    obtain ⟨z5, e5, w5⟩ := hz 5 .u64 rfl
    obtain ⟨z6, e6, w6⟩ := hz 6 .i64 rfl
    refine ⟨⟨z0, z1, z2, z3, z4, z5, z6⟩, ⟨in_i w0, in_i w1, in_i w2, in_u w3, in_u w4, in_u w5, in_i w6⟩, hl, fun j a c ha hcj => ?_⟩
    match j with
    | 0 => rw [e0] at hcj; cases hcj; cases ha; exact ⟨rfl, .v _⟩
    | 1 => rw [e1] at hcj; cases hcj; cases ha; exact ⟨rfl, .v _⟩
    | 2 => rw [e2] at hcj; cases hcj; cases ha; exact ⟨rfl, .v _⟩
    | 3 => rw [e3] at hcj; cases hcj; cases ha; exact ⟨rfl, .v _⟩
    | 4 => rw [e4] at hcj; cases hcj; cases ha; exact ⟨rfl, .v _⟩
    | 5 => rw [e5] at hcj; cases hcj; cases ha; exact ⟨rfl, .v _⟩
    | 6 => rw [e6] at hcj; cases hcj; cases ha; exact ⟨rfl, .v _⟩
    | j + 7 => cases ha

theorem list_of {α : Type} {Q : Nat → α → Prop} : ∀ n : Nat, (∀ i, i < n → ∃ x, Q i x) → ∃ l : List α, l.length = n ∧ ∀ (i : Nat) (x : α), l[i]? = some x → Q i x
  | 0, _ => ⟨[], rfl, fun i x h => by cases h⟩
  | n + 1, h => by
    obtain ⟨l, hl, hq⟩ := list_of n fun i hi => h i (by omega)
    obtain ⟨x, hx⟩ := h n (by omega)
    refine ⟨l ++ [x], by simp [hl], fun i y hy => ?_⟩
    rw [List.getElem?_append] at hy
    split at hy
    · exact hq i y hy
    · rename_i hi
      rw [List.getElem?_singleton] at hy
      split at hy
      · cases hy
        rw [show i = n by omega]; exact hx
      · cases hy

def rdSlice {P : Program} {t e : TypeId} {α : Type} (r : Rdr P e α) (ht : P.underlying t = some (.slice e)) (hc : P.cellsOf t = 1) : Rdr P t (List α) where
  n := 1
  av := fun l => .lst r.n (l.map r.av)
  wf := fun l => l.length ≤ maxLen ∧ ∀ x ∈ l, r.wf x
  size := hc
  len := fun _ => rfl
  rd := fun enc w base spare held fuel cs d h => by
    rcases DataW.trod_slice ht h with ⟨rfl, _⟩ | ⟨a, len, cap, elems, rest, m, _, rfl, _, hb, hlc, hm, hlen, hel, _⟩
    · refine ⟨[], ⟨Nat.zero_le _, by simp⟩, rfl, fun j a c ha hcj => ?_⟩
      cases j with
      | zero =>
        simp [AV.cells] at ha hcj; subst ha; subst hcj
        exact ⟨rfl, .lst _ _ none 0 0 ⟨0, 0, none⟩ (fun _ _ => undef) (by simp) (Nat.le_refl _) (by simp) (by simp) (by simp) (by simp) (by simp)⟩
      | succ j => simp at hcj
    · obtain ⟨l, hl, hq⟩ := list_of (Q := fun i x => r.wf x ∧ ∃ cs', w.cells? base (a.add (i * r.n)) r.n = some cs' ∧ ∀ (j : Nat) (a : AV) (c : Value), (r.av x).cells[j]? = some a → cs'[j]? = some c → c.oneCell' = true ∧ Con (Env.bare (allK w)) a c) len (fun i hi => by
        have h1 := hel i hi
        rw [List.getElem?_eq_getElem (by omega), Option.bind_eq_some_iff] at h1
        obtain ⟨cs', h2, h3⟩ := h1
        obtain ⟨x, h4, h5, h6⟩ := r.rd enc w base spare held m cs' _ h3
        rw [r.size] at h2
        exact ⟨x, h4, cs', h2, h6⟩)
      refine ⟨l, ⟨by omega, fun x hx => ?_⟩, rfl, fun j b c hb hcj => ?_⟩
      · obtain ⟨i, hi⟩ := List.getElem?_of_mem hx
        exact (hq i x hi).1
      · cases j with
        | succ j => simp at hcj
        | zero =>
          simp [AV.cells] at hb hcj; subst hb; subst hcj
          have key : ∀ (i : Nat) (u : AV) (j : Nat) (b : AV), (l.map r.av)[i]? = some u → u.cells[j]? = some b → ∃ c, w.cell? (a.add (i * r.n + j)) = some c ∧ c.oneCell' = true ∧ Con (Env.bare (allK w)) b c := by
            intro i u j b hu hb
            rw [List.getElem?_map, Option.map_eq_some_iff] at hu
            obtain ⟨x, hx, rfl⟩ := hu
            obtain ⟨_, cs', h1, h2⟩ := hq i x hx
            obtain ⟨_, h3, h4⟩ := World.cells?_some h1
            have hj : j < r.n := by rw [← r.len x]; exact (List.getElem?_eq_some_iff.1 hb).1
            have h5 := h4 j hj
            rw [Addr.add_add] at h5
            have hc' : cs'[j]? = some (cs'[j]'(by omega)) := List.getElem?_eq_getElem _
            rw [hc'] at h5
            exact ⟨_, h5, h2 j b _ hb hc'⟩
          refine ⟨rfl, .lst _ _ _ len cap a (fun i j => (w.cell? (a.add (i * r.n + j))).getD undef) (by simp [hl]) hlc (fun _ => rfl) ?_ ?_ ?_ ?_⟩
          · intro i u hu
            rw [List.getElem?_map, Option.map_eq_some_iff] at hu
            obtain ⟨x, hx, rfl⟩ := hu
            exact r.len x
          · intro i u j b hu hb
            obtain ⟨c, h1, _⟩ := key i u j b hu hb
            rw [h1]
            unfold World.cell? at h1
            exact h1
          · intro i u j b hu hb
            obtain ⟨c, h1, h2, _⟩ := key i u j b hu hb
            rw [h1]; exact h2
          · intro i u j b hu hb
            obtain ⟨c, h1, _, h2⟩ := key i u j b hu hb
            rw [h1]; exact h2

section
variable {P : Program} {w : World} {t : TypeId} {α : Type} {H : Type} {enc : TypeId × Value → H} {reach : Reach} {b0 base : Nat} {spare : Nat → Bool} {held : Bool} {v : Value} {d : DataW H} {p : List MemPlace}

/-- A parameter that is a struct. -/
theorem Rdr.agg (r : Rdr P t α) (hagg : ∀ x, ∃ l, r.av x = .agg l) {fs : Array Field} (hs : P.underlying t = some (.struct fs)) (hv : Value.okWide P w reach b0 t v) (h : DataW.Trod enc P w base spare held t v d p) :
    ∃ x, r.wf x ∧ Con (Env.bare (allK w)) (r.av x) v := by
  obtain ⟨cs, rfl, hsz⟩ := okWide_struct hs hv
  obtain ⟨fuel, hf⟩ := h
  obtain ⟨x, h1, h2, h3⟩ := r.rd enc w base spare held fuel _ _ hf
  refine ⟨x, h1, ?_⟩
  have hl := r.len x
  obtain ⟨l, e⟩ := hagg x
  rw [e] at h3 hl ⊢
  have h2' : cs.size = r.n := by simpa [Value.cells] using h2
  refine .agg _ _ (by rw [h2']; exact hl) fun i a c ha hc => (h3 i a c ha (by simpa [Value.cells] using hc)).2

/-- A parameter of one cell. -/
theorem Rdr.one (r : Rdr P t α) (h1 : ∀ x, (r.av x).cells = [r.av x]) (hv : v.cells.toList = [v]) (h : DataW.Trod enc P w base spare held t v d p) :
    ∃ x, r.wf x ∧ Con (Env.bare (allK w)) (r.av x) v := by
  obtain ⟨fuel, hf⟩ := h
  obtain ⟨x, k1, k2, k3⟩ := r.rd enc w base spare held fuel _ _ hf
  refine ⟨x, k1, (k3 0 _ v (by rw [h1 x]; rfl) (by rw [hv]; rfl)).2⟩

theorem Rdr.slice {e : TypeId} (r : Rdr P e α) (ht : P.underlying t = some (.slice e)) (hc : P.cellsOf t = 1) (hv : Value.okWide P w reach b0 t v) (h : DataW.Trod enc P w base spare held t v d p) :
    ∃ l : List α, (l.length ≤ maxLen ∧ ∀ x ∈ l, r.wf x) ∧ Con (Env.bare (allK w)) (.lst r.n (l.map r.av)) v := by
  obtain ⟨a, len, cap, rfl⟩ := okWide_slice ht hv
  exact (rdSlice r ht hc).one (fun _ => rfl) rfl h

theorem Rdr.int {k : IntKind} (ht : P.underlying t = some (.int k)) (hc : P.cellsOf t = 1) (hv : Value.okWide P w reach b0 t v) (h : DataW.Trod enc P w base spare held t v d p) :
    ∃ x, (Lit.int k x).wf = true ∧ Con (Env.bare (allK w)) (.v (.int k x)) v := by
  obtain ⟨n, rfl⟩ := okWide_int ht hv
  exact (rdInt ht hc).one (fun _ => rfl) rfl h

theorem Rdr.bool (ht : P.underlying t = some .bool) (hc : P.cellsOf t = 1) (hv : Value.okWide P w reach b0 t v) (h : DataW.Trod enc P w base spare held t v d p) :
    ∃ x : Bool, Con (Env.bare (allK w)) (bv x) v := by
  obtain ⟨n, rfl⟩ := okWide_bool ht hv
  obtain ⟨x, _, hx⟩ := (rdBool ht hc).one (fun _ => rfl) rfl h
  exact ⟨x, hx⟩

/-- A slice of numbers. -/
theorem Rdr.ints {e : TypeId} (ht : P.underlying t = some (.slice e)) (hc : P.cellsOf t = 1) (he : P.underlying e = some (.int .u64)) (hce : P.cellsOf e = 1) (hv : Value.okWide P w reach b0 t v) (h : DataW.Trod enc P w base spare held t v d p) :
    ∃ l : List Int, (∀ x ∈ l, InU x) ∧ Con (Env.bare (allK w)) (ms l) v := by
  obtain ⟨l, ⟨_, h1⟩, h2⟩ := (rdInt he hce).slice ht hc hv h
  exact ⟨l, fun x hx => in_u (h1 x hx), h2⟩

theorem Rdr.frame {fs : Array Field} (hs : P.underlying t = some (.struct fs)) (hC : P.cellsOf t = 7) (hB : fieldsB P fs frKinds = true) (hv : Value.okWide P w reach b0 t v) (h : DataW.Trod enc P w base spare held t v d p) :
    ∃ f : Fr, f.wf ∧ Con (Env.bare (allK w)) (fv f) v :=
  (rdFr hs hC hB).agg (fun _ => ⟨_, rfl⟩) hs hv h
end
end Go.Vai
/- Deques in cells, by numbers and lists alone: what is where, and what a step does. -/
namespace Go.Vai
open Go.RowKit
set_option linter.unusedVariables false
set_option linter.unusedSimpArgs false

def cfKinds : List IntKind := [.i64, .i64, .i64, .i64]
def Cf.wf (c : Cf) : Prop := InI c.w ∧ InI c.d ∧ InI c.i ∧ InI c.spin

def rdCf {P : Program} {t : TypeId} {fs : Array Field} (ht : P.underlying t = some (.struct fs)) (hC : P.cellsOf t = 4) (hB : fieldsB P fs cfKinds = true) : Rdr P t Cf where
  n := 4
  av := cv'
  wf := Cf.wf
  size := hC
  len := fun _ => rfl
  rd := fun enc w base spare held fuel cs d h => by
    obtain ⟨hl, hz⟩ := struct_ints ht (ks := cfKinds) hC hB h
    obtain ⟨z0, e0, w0⟩ := hz 0 .i64 rfl
    obtain ⟨z1, e1, w1⟩ := hz 1 .i64 rfl
    obtain ⟨z2, e2, w2⟩ := hz 2 .i64 rfl
    obtain ⟨z3, e3, w3⟩ := hz 3 .i64 rfl
    refine ⟨⟨z0, z1, z2, z3⟩, ⟨in_i w0, in_i w1, in_i w2, in_i w3⟩, hl, fun j a c ha hcj => ?_⟩
    match j with
    | 0 => rw [e0] at hcj; cases hcj; cases ha; exact ⟨rfl, .v _⟩
    | 1 => rw [e1] at hcj; cases hcj; cases ha; exact ⟨rfl, .v _⟩
    | 2 => rw [e2] at hcj; cases hcj; cases ha; exact ⟨rfl, .v _⟩
    | 3 => rw [e3] at hcj; cases hcj; cases ha; exact ⟨rfl, .v _⟩
    | j + 4 => cases ha

theorem Rdr.conf {P : Program} {w : World} {t : TypeId} {H : Type} {enc : TypeId × Value → H} {reach : Reach} {b0 base : Nat} {spare : Nat → Bool} {held : Bool} {v : Value} {d : DataW H} {p : List MemPlace} {fs : Array Field}
    (hs : P.underlying t = some (.struct fs)) (hC : P.cellsOf t = 4) (hB : fieldsB P fs cfKinds = true) (hv : Value.okWide P w reach b0 t v) (h : DataW.Trod enc P w base spare held t v d p) :
    ∃ c : Cf, c.wf ∧ Con (Env.bare (allK w)) (cv' c) v :=
  (rdCf hs hC hB).agg (fun _ => ⟨_, rfl⟩) hs hv h

/-! Cells. -/
theorem store_out {m : List Int} {i : Int} (h : isIn m i = false) (v : Int) : mStore m i v = m := by simp [mStore, h]
theorem load_out {m : List Int} {i : Int} (h : isIn m i = false) : mLoad m i = 0 := by simp [mLoad, h]
theorem load_in {m : List Int} {i : Int} (h : isIn m i = true) : mLoad m i = m.getD i.toNat 0 := by simp [mLoad, h]
theorem in_store (m : List Int) (i v k : Int) : isIn (mStore m i v) k = isIn m k := by simp [isIn, len_store]
theorem load_store {m : List Int} {i : Int} (h : isIn m i = true) (v : Int) : mLoad (mStore m i v) i = v := by
  have h' : isIn (mStore m i v) i = true := by rw [in_store]; exact h
  obtain ⟨_, _, h3⟩ := isIn_true h
  rw [load_in h']
  simp [mStore, h, List.getD_eq_getElem?_getD, h3]
theorem load_other {m : List Int} {i k : Int} (h : i ≠ k) (v : Int) : mLoad (mStore m i v) k = mLoad m k := by
  unfold mLoad
  rw [in_store]
  cases hk : isIn m k with
  | false => rfl
  | true =>
    simp only [if_true]
    unfold mStore
    cases hi : isIn m i with
    | false => rfl
    | true =>
      obtain ⟨a, _, _⟩ := isIn_true hk
      obtain ⟨b, _, _⟩ := isIn_true hi
      have : i.toNat ≠ k.toNat := by omega
      simp [List.getD_eq_getElem?_getD, this]
theorem cas_store {m : List Int} {i v : Int} (h : mCasB m i v = true) (w : Int) : mCas m i v w = mStore m i w := by
  simp only [mCas, h, if_true]
  have : isIn m i = true := by simp [mCasB] at h; exact h.1
  simp [mStore, this]
theorem cas_not {m : List Int} {i v : Int} (h : mCasB m i v = false) (w : Int) : mCas m i v w = m := by simp [mCas, h]
theorem len_cas (m : List Int) (i v w : Int) : (mCas m i v w).length = m.length := by unfold mCas; split <;> simp

/-- Cells in their range. -/
def InM (m : List Int) : Prop := ∀ x ∈ m, InU x
theorem load_u {m : List Int} (h : InM m) (i : Int) : InU (mLoad m i) := by
  unfold mLoad
  split
  · rename_i hi
    obtain ⟨_, _, h3⟩ := isIn_true hi
    rw [List.getD_eq_getElem?_getD, List.getElem?_eq_getElem h3]
    exact h _ (List.getElem_mem h3)
  · unfold InU; omega
theorem store_u {m : List Int} (h : InM m) {i v : Int} (hv : InU v) : InM (mStore m i v) := by
  unfold mStore
  split
  · intro x hx
    rcases List.mem_or_eq_of_mem_set hx with h' | rfl
    · exact h x h'
    · exact hv
  · exact h
theorem wrapU_u (x : Int) : InU (wrapU x) := wrapU_in x

/-! Layouts. -/
/-- A worker's cells are there. -/
structure Lay (c : Cf) (m : List Int) (w : Int) : Prop where
  may : mayC c = true
  len : (m.length : Int) = lSize c
  lo : 0 ≤ w
  hi : w < c.w

theorem Lay.has {c : Cf} {m : List Int} {w : Int} (h : Lay c m w) : lHas c w = true := by
  simp [lHas, h.may, h.lo, h.hi]
theorem Lay.top {c : Cf} {m : List Int} {w : Int} (h : Lay c m w) : lTop c w = lBase c w := by simp [lTop, h.has]
theorem Lay.bottom {c : Cf} {m : List Int} {w : Int} (h : Lay c m w) : lBottom c w = lBase c w + 1 := by simp [lBottom, h.has]
theorem Lay.slot {c : Cf} {m : List Int} {w : Int} (h : Lay c m w) (x : Int) : lSlot c w x = lBase c w + 3 + x % 18446744073709551616 % c.d := by simp [lSlot, h.has]
theorem Lay.store {c : Cf} {m : List Int} {w : Int} (h : Lay c m w) (i v : Int) : Lay c (mStore m i v) w := ⟨h.may, by rw [len_store]; exact h.len, h.lo, h.hi⟩
theorem Lay.cas {c : Cf} {m : List Int} {w : Int} (h : Lay c m w) (i v x : Int) : Lay c (mCas m i v x) w := ⟨h.may, by rw [len_cas]; exact h.len, h.lo, h.hi⟩

theorem Lay.dpos {c : Cf} {m : List Int} {w : Int} (h : Lay c m w) : c.d = 1 ∨ c.d = 2 ∨ c.d = 4 ∨ c.d = 8 ∨ c.d = 16 := (mayC_iff.1 h.may).2.2.1
theorem Lay.base {c : Cf} {m : List Int} {w : Int} (h : Lay c m w) : 6 ≤ lBase c w ∧ lBase c w + 3 + c.d ≤ m.length := by
  obtain ⟨h1, h2, h3, h4, h5, h6, h7⟩ := mayC_iff.1 h.may
  have hl := h.len
  have a1 := h.lo
  have a2 := h.hi
  unfold lSize at hl
  rw [h.may, if_pos rfl] at hl
  unfold lBase at *
  rcases h3 with e | e | e | e | e <;> rw [e] at hl ⊢ <;> omega
theorem Lay.small {c : Cf} {m : List Int} {w : Int} (h : Lay c m w) : m.length ≤ 190 := by
  obtain ⟨h1, h2, h3, h4, h5, h6, h7⟩ := mayC_iff.1 h.may
  have hl := h.len
  unfold lSize at hl
  rw [h.may, if_pos rfl] at hl
  unfold lBase at *
  rcases h3 with e | e | e | e | e <;> rw [e] at hl <;> omega
theorem Lay.in_top {c : Cf} {m : List Int} {w : Int} (h : Lay c m w) : isIn m (lTop c w) = true := by
  have := h.base
  have hd := h.dpos
  rw [h.top]; simp [isIn]; omega
theorem Lay.in_bottom {c : Cf} {m : List Int} {w : Int} (h : Lay c m w) : isIn m (lBottom c w) = true := by
  have := h.base
  have hd := h.dpos
  rw [h.bottom]; simp [isIn]; omega
theorem Lay.in_slot {c : Cf} {m : List Int} {w : Int} (h : Lay c m w) (x : Int) : isIn m (lSlot c w x) = true := by
  have := h.base
  rw [h.slot]; simp [isIn]
  rcases h.dpos with e | e | e | e | e <;> rw [e] at this ⊢ <;> omega
theorem Lay.tb {c : Cf} {m : List Int} {w : Int} (h : Lay c m w) : lTop c w ≠ lBottom c w := by rw [h.top, h.bottom]; omega
theorem Lay.ts {c : Cf} {m : List Int} {w : Int} (h : Lay c m w) (x : Int) : lTop c w ≠ lSlot c w x := by
  rw [h.top, h.slot]
  rcases h.dpos with e | e | e | e | e <;> rw [e] <;> omega
theorem Lay.bs {c : Cf} {m : List Int} {w : Int} (h : Lay c m w) (x : Int) : lBottom c w ≠ lSlot c w x := by
  rw [h.bottom, h.slot]
  rcases h.dpos with e | e | e | e | e <;> rw [e] <;> omega
theorem Lay.ss {c : Cf} {m : List Int} {w : Int} (h : Lay c m w) (x y : Int) : lSlot c w x = lSlot c w y ↔ x % 18446744073709551616 % c.d = y % 18446744073709551616 % c.d := by
  rw [h.slot, h.slot]; omega

/-- Another worker's cells are other ones. -/
theorem Lay.apart {c : Cf} {m : List Int} {w k : Int} (h : Lay c m w) (h' : Lay c m k) (hne : w ≠ k) : lBase c w + 3 + c.d ≤ lBase c k ∨ lBase c k + 3 + c.d ≤ lBase c w := by
  unfold lBase
  rcases h.dpos with e | e | e | e | e <;> rw [e] <;> omega

/-! Steps. -/
def goes (c : Cf) (m : List Int) (f : Fr) (op pcs : Int) : Bool := mayC c && decide ((m.length : Int) = lSize c ∧ f.res = 0 ∧ 0 ≤ f.who ∧ f.who < c.w ∧ f.op = op ∧ 0 ≤ f.pc ∧ f.pc < pcs)

theorem goes_iff {c : Cf} {m : List Int} {f : Fr} {op pcs : Int} : goes c m f op pcs = true ↔ Lay c m f.who ∧ f.res = 0 ∧ f.op = op ∧ 0 ≤ f.pc ∧ f.pc < pcs := by
  constructor
  · intro h
    simp [goes] at h
    exact ⟨⟨h.1, h.2.1, h.2.2.2.1, h.2.2.2.2.1⟩, h.2.2.1, h.2.2.2.2.2⟩
  · rintro ⟨h, h1, h2, h3, h4⟩
    simp [goes, h.may, h.len, h.lo, h.hi, h1, h2, h3, h4]

/-- A push's next step. -/
def pStep (c : Cf) (m : List Int) (f : Fr) : List Int × Fr :=
  if goes c m f 0 4 = true then
    if f.pc = 0 then (m, ⟨f.op, 1, f.who, f.val, mLoad m (lBottom c f.who), f.y, f.res⟩)
    else if f.pc = 1 then
      if c.d ≤ wrapU (f.x - mLoad m (lTop c f.who)) then (m, fEnd f 2 f.val) else (m, ⟨f.op, 2, f.who, f.val, f.x, mLoad m (lTop c f.who), f.res⟩)
    else if f.pc = 2 then (mStore m (lSlot c f.who f.x) f.val, ⟨f.op, 3, f.who, f.val, f.x, f.y, f.res⟩)
    else (mStore m (lBottom c f.who) (wrapU (f.x + 1)), fEnd f 1 f.val)
  else (m, f)

/-- A pop's. -/
def oStep (c : Cf) (m : List Int) (f : Fr) : List Int × Fr :=
  if goes c m f 1 7 = true then
    if f.pc = 0 then (m, ⟨f.op, 1, f.who, f.val, wrapU (mLoad m (lBottom c f.who) - 1), f.y, f.res⟩)
    else if f.pc = 1 then (mStore m (lBottom c f.who) f.x, ⟨f.op, 2, f.who, f.val, f.x, f.y, f.res⟩)
    else if f.pc = 2 then (m, ⟨f.op, if far f.x (mLoad m (lTop c f.who)) < 0 then 6 else 3, f.who, f.val, f.x, mLoad m (lTop c f.who), f.res⟩)
    else if f.pc = 3 then
      if f.x ≠ f.y then (m, fEnd f 1 (mLoad m (lSlot c f.who f.x))) else (m, ⟨f.op, 4, f.who, mLoad m (lSlot c f.who f.x), f.x, f.y, f.res⟩)
    else if f.pc = 4 then (mCas m (lTop c f.who) f.y (wrapU (f.y + 1)), ⟨f.op, if mCasB m (lTop c f.who) f.y = true then 5 else 6, f.who, f.val, f.x, f.y, f.res⟩)
    else if f.pc = 5 then (mStore m (lBottom c f.who) (wrapU (f.x + 1)), fEnd f 1 f.val)
    else (mStore m (lBottom c f.who) (wrapU (f.x + 1)), fEnd f 3 0)
  else (m, f)

/-- A steal's. -/
def sStep (c : Cf) (m : List Int) (f : Fr) : List Int × Fr :=
  if goes c m f 2 4 = true then
    if f.pc = 0 then (m, ⟨f.op, 1, f.who, f.val, f.x, mLoad m (lTop c f.who), f.res⟩)
    else if f.pc = 1 then
      if far (mLoad m (lBottom c f.who)) f.y ≤ 0 then (m, fEnd f 3 0) else (m, ⟨f.op, 2, f.who, f.val, mLoad m (lBottom c f.who), f.y, f.res⟩)
    else if f.pc = 2 then (m, ⟨f.op, 3, f.who, mLoad m (lSlot c f.who f.y), f.x, f.y, f.res⟩)
    else if mCasB m (lTop c f.who) f.y = true then (mCas m (lTop c f.who) f.y (wrapU (f.y + 1)), fEnd f 1 f.val) else (m, fEnd f 4 0)
  else (m, f)

/-- What a deque has. -/
def dNum (c : Cf) (m : List Int) (w : Int) : Int := far (mLoad m (lBottom c w)) (mLoad m (lTop c w))
def dIs (c : Cf) (m : List Int) (w : Int) : Bool := mayC c && decide ((m.length : Int) = lSize c ∧ 0 ≤ w ∧ w < c.w ∧ 0 ≤ dNum c m w ∧ dNum c m w ≤ c.d)
def dAt (c : Cf) (m : List Int) (w : Int) (i : Nat) : Int := mLoad m (lSlot c w (wrapU (mLoad m (lTop c w) + i)))
def dList (c : Cf) (m : List Int) (w : Int) : List Int := if dIs c m w = true then (List.range (dNum c m w).toNat).map (dAt c m w) else []

theorem dIs_iff {c : Cf} {m : List Int} {w : Int} : dIs c m w = true ↔ Lay c m w ∧ 0 ≤ dNum c m w ∧ dNum c m w ≤ c.d := by
  constructor
  · intro h
    simp [dIs] at h
    exact ⟨⟨h.1, h.2.1, h.2.2.1, h.2.2.2.1⟩, h.2.2.2.2⟩
  · rintro ⟨h, h1, h2⟩
    simp [dIs, h.may, h.len, h.lo, h.hi, h1, h2]

theorem far_eq {a b : Int} (ha : InU a) (hb : InU b) : far a b = (a - b + 9223372036854775808) % 18446744073709551616 - 9223372036854775808 := by
  unfold far; rw [IntKind.wrap_i64]

theorem len_dList (c : Cf) (m : List Int) (w : Int) : (dList c m w).length ≤ 16 := by
  unfold dList
  split
  · rename_i h
    obtain ⟨h1, h2, h3⟩ := dIs_iff.1 h
    have := h1.dpos
    simp; omega
  · simp

end Go.Vai
/- Layouts: what the functions of the layers 'lay' and 'word' compute, and the document's. -/
namespace Go.Vai
open Go.RowKit Go.Proofs
set_option linter.unusedSimpArgs false
set_option linter.unusedVariables false
set_option maxHeartbeats 4000000
set_option maxRecDepth 100000

theorem wrap_uu (x : Int) : IntKind.wrap .i64 (IntKind.wrap .u64 x) = IntKind.wrap .i64 x := by
  rw [IntKind.wrap_i64, IntKind.wrap_u64, IntKind.wrap_i64]; omega

theorem far_pure (a b : Int) : PureC Try.prog 49 [u a, u b] (iv (far a b)) := by
  refine pure_sub ok0 1 Try.func49 rfl (by show 2 ≤ _; decide) ?_
  simp only [Try.f49, far, wrap_uu, hfree_lu, hfree_l0, row0, row1, row2, row3, row4, row5, shI_dec, shN_dec, shB_dec, shM_dec, dI, dN, dB, dM, dU, dU_map, iv, bv, u, ms, ctx_T, ctx_C, ctx_P, T4, T3, T26, Option.bind_some, Option.bind_none, Option.map_some, List.length_map, List.length_set, String.reduceBEq, Int.toNat_natCast, Bool.true_beq, Bool.false_beq, ev1, ev2, implies_true, undef, stepP, drawB, stepL, lateB, lateB0, rdsT, rdsAny, isRd, afterL, preB, callLB, callLV, lateV, dstV, dynCall, ↓condE_t, ↓condE_f, ↓guardE_tt, ↓guardE_ff, ↓guardE_tf, ↓guardE_ft, frzDeep, deepArgs, deepArg, resB, cv, stepB, stepE, callD, tabD, snapD, snap1, snapC, snapId, snapIds, guardB, guardC, dstAt, aopR, one, pre, binR, intOpR, shiftOpR, unR, argFrm, evo, lkp, hlk, lenOf, asLst, idOf, bndA, srcOk, ofVal, ofCells, setCells, fillA, setElems, fieldsOf, fieldsEq, scalEq, isEq, AV.wr, AV.ok1, TK.agg, frz, frzs, frzA, frzArg, frzArgs, subA, subL, sub1, kp, kh, accOf, List.replicate, Nat.reduceAdd, Nat.reduceSub, Nat.reduceMul, Nat.reduceEqDiff, Nat.reduceLT, Nat.reduceLeDiff, Nat.reduceBEq, reduceIte, reduceCtorEq, eq_self, ne_eq, Int.reduceToNat, Int.reduceLT, Int.reduceLE, Int.reduceGT, Int.reduceGE, Int.reduceBEq, Int.reduceBNe, Int.reduceEq, Int.reduceNe]

theorem rfar_pure (a b : Int) : PureC Try.prog 75 [u a, u b] (iv (far a b)) := by
  refine pure_sub ok0 1 Try.func75 rfl (by show 2 ≤ _; decide) ?_
  have hw := wrapU_in (a - b)
  have e : far a b = IntKind.wrap .i64 (wrapU (a - b)) := (wrap_uu (a - b)).symm
  rw [e]
  have hu : ∀ x, IntKind.wrap .u64 x = wrapU x := fun _ => rfl
  by_cases h : wrapU (a - b) ≥ 9223372036854775808
  · have k1 : wrapU (18446744073709551615 - wrapU (a - b)) = 18446744073709551615 - wrapU (a - b) := by rw [wrapU_eq]; omega
    have k2 : IntKind.wrap .i64 (18446744073709551615 - wrapU (a - b)) = 18446744073709551615 - wrapU (a - b) := wrap_i (by omega) (by omega)
    have k3 : IntKind.wrap .i64 (0 - (18446744073709551615 - wrapU (a - b))) = wrapU (a - b) - 18446744073709551615 := by rw [wrap_i (by omega) (by omega)]; omega
    have k4 : IntKind.wrap .i64 (wrapU (a - b) - 18446744073709551615 - 1) = IntKind.wrap .i64 (wrapU (a - b)) := by
      rw [IntKind.wrap_i64, IntKind.wrap_i64]; omega
    simp only [Try.f75, hu, h, k1, k2, k3, k4, hfree_lu, hfree_l0, row0, row1, row2, row3, row4, row5, shI_dec, shN_dec, shB_dec, shM_dec, dI, dN, dB, dM, dU, dU_map, iv, bv, u, ms, ctx_T, ctx_C, ctx_P, T4, T3, T26, Option.bind_some, Option.bind_none, Option.map_some, List.length_map, List.length_set, String.reduceBEq, Int.toNat_natCast, Bool.true_beq, Bool.false_beq, ev1, ev2, implies_true, undef, stepP, drawB, stepL, lateB, lateB0, rdsT, rdsAny, isRd, afterL, preB, callLB, callLV, lateV, dstV, dynCall, ↓condE_t, ↓condE_f, ↓guardE_tt, ↓guardE_ff, ↓guardE_tf, ↓guardE_ft, frzDeep, deepArgs, deepArg, resB, cv, stepB, stepE, callD, tabD, snapD, snap1, snapC, snapId, snapIds, guardB, guardC, dstAt, aopR, one, pre, binR, intOpR, shiftOpR, unR, argFrm, evo, lkp, hlk, lenOf, asLst, idOf, bndA, srcOk, ofVal, ofCells, setCells, fillA, setElems, fieldsOf, fieldsEq, scalEq, isEq, AV.wr, AV.ok1, TK.agg, frz, frzs, frzA, frzArg, frzArgs, subA, subL, sub1, kp, kh, accOf, List.replicate, Nat.reduceAdd, Nat.reduceSub, Nat.reduceMul, Nat.reduceEqDiff, Nat.reduceLT, Nat.reduceLeDiff, Nat.reduceBEq, reduceIte, reduceCtorEq, eq_self, ne_eq, Int.reduceToNat, Int.reduceLT, Int.reduceLE, Int.reduceGT, Int.reduceGE, Int.reduceBEq, Int.reduceBNe, Int.reduceEq, Int.reduceNe]
  · simp only [Try.f75, hu, h, hfree_lu, hfree_l0, row0, row1, row2, row3, row4, row5, shI_dec, shN_dec, shB_dec, shM_dec, dI, dN, dB, dM, dU, dU_map, iv, bv, u, ms, ctx_T, ctx_C, ctx_P, T4, T3, T26, Option.bind_some, Option.bind_none, Option.map_some, List.length_map, List.length_set, String.reduceBEq, Int.toNat_natCast, Bool.true_beq, Bool.false_beq, ev1, ev2, implies_true, undef, stepP, drawB, stepL, lateB, lateB0, rdsT, rdsAny, isRd, afterL, preB, callLB, callLV, lateV, dstV, dynCall, ↓condE_t, ↓condE_f, ↓guardE_tt, ↓guardE_ff, ↓guardE_tf, ↓guardE_ft, frzDeep, deepArgs, deepArg, resB, cv, stepB, stepE, callD, tabD, snapD, snap1, snapC, snapId, snapIds, guardB, guardC, dstAt, aopR, one, pre, binR, intOpR, shiftOpR, unR, argFrm, evo, lkp, hlk, lenOf, asLst, idOf, bndA, srcOk, ofVal, ofCells, setCells, fillA, setElems, fieldsOf, fieldsEq, scalEq, isEq, AV.wr, AV.ok1, TK.agg, frz, frzs, frzA, frzArg, frzArgs, subA, subL, sub1, kp, kh, accOf, List.replicate, Nat.reduceAdd, Nat.reduceSub, Nat.reduceMul, Nat.reduceEqDiff, Nat.reduceLT, Nat.reduceLeDiff, Nat.reduceBEq, reduceIte, reduceCtorEq, eq_self, ne_eq, Int.reduceToNat, Int.reduceLT, Int.reduceLE, Int.reduceGT, Int.reduceGE, Int.reduceBEq, Int.reduceBNe, Int.reduceEq, Int.reduceNe]

def rowsLA : List Row := []
theorem rowsLA_ok : ∀ p ∈ rowsLA, RowOk Try.prog p := fun p h => by
  cases h
theorem okLA : (ctx Try.prog rowsLA).ok := rows_ok rowsLA_ok
theorem LA_77 : tabC rowsLA 77 = fun _ => none := rfl
theorem LA_all : type_of% (LA_77) := LA_77

theorem may_pure (c : Cf) : PureC Try.prog 33 [cv' c] (bv (mayC c)) := by
  refine pure_sub okLA 1 Try.func33 rfl (by show 1 ≤ _; decide) ?_
  have key : mayC c = (decide (c.w ≥ 1) && decide (c.w ≤ 8) && (decide (c.d ≥ 1) && decide (c.d ≤ 16)) && twoB c.d && (decide (c.i ≥ 1) && decide (c.i ≤ 16)) && (decide (c.spin ≥ 0) && decide (c.spin ≤ 4))) := by
    by_cases hd : 1 ≤ c.d ∧ c.d ≤ 16
    · rw [twoB_eq hd, Bool.eq_iff_iff, mayC_iff]
      simp only [Bool.and_eq_true, decide_eq_true_eq]
      omega
    · rw [Bool.eq_iff_iff, mayC_iff]
      simp only [Bool.and_eq_true, decide_eq_true_eq]
      constructor
      · intro h; omega
      · intro h; omega
  have kt : (IntKind.wrap .i64 (BitVec.ofInt IntKind.i64.bits c.d &&& BitVec.ofInt IntKind.i64.bits (IntKind.wrap .i64 (c.d - 1))).toNat == 0) = twoB c.d := rfl
  rw [key]
  generalize twoB c.d = b at *
  simp only [Try.f33, Try.func77, Try.f77, inl, LA_all, kt, cv', T23, hfree_lu, hfree_l0, row0, row1, row2, row3, row4, row5, shI_dec, shN_dec, shB_dec, shM_dec, dI, dN, dB, dM, dU, dU_map, iv, bv, u, ms, ctx_T, ctx_C, ctx_P, T4, T3, T26, Option.bind_some, Option.bind_none, Option.map_some, List.length_map, List.length_set, String.reduceBEq, Int.toNat_natCast, Bool.true_beq, Bool.false_beq, ev1, ev2, implies_true, undef, stepP, drawB, stepL, lateB, lateB0, rdsT, rdsAny, isRd, afterL, preB, callLB, callLV, lateV, dstV, dynCall, ↓condE_t, ↓condE_f, ↓guardE_tt, ↓guardE_ff, ↓guardE_tf, ↓guardE_ft, frzDeep, deepArgs, deepArg, resB, cv, stepB, stepE, callD, tabD, snapD, snap1, snapC, snapId, snapIds, guardB, guardC, dstAt, aopR, one, pre, binR, intOpR, shiftOpR, unR, argFrm, evo, lkp, hlk, lenOf, asLst, idOf, bndA, srcOk, ofVal, ofCells, setCells, fillA, setElems, fieldsOf, fieldsEq, scalEq, isEq, AV.wr, AV.ok1, TK.agg, frz, frzs, frzA, frzArg, frzArgs, subA, subL, sub1, kp, kh, accOf, List.replicate, Nat.reduceAdd, Nat.reduceSub, Nat.reduceMul, Nat.reduceEqDiff, Nat.reduceLT, Nat.reduceLeDiff, Nat.reduceBEq, reduceIte, reduceCtorEq, eq_self, ne_eq, Int.reduceToNat, Int.reduceLT, Int.reduceLE, Int.reduceGT, Int.reduceGE, Int.reduceBEq, Int.reduceBNe, Int.reduceEq, Int.reduceNe]
  clear key kt
  repeat' first | apply And.intro | intro _
  all_goals first | rfl | (simp_all; done) | (simp_all; intros; omega) | (simp_all; omega)

theorem rmay_pure (c : Cf) : PureC Try.prog 39 [cv' c] (bv (mayC c)) := by
  refine pure_sub ok0 1 Try.func39 rfl (by show 1 ≤ _; decide) ?_
  have key : mayC c = (decide (c.w ≥ 1) && decide (c.w ≤ 8) && (c.d == 1 || c.d == 2 || c.d == 4 || c.d == 8 || c.d == 16) && decide (c.i ≥ 1) && decide (c.i ≤ 16) && decide (c.spin ≥ 0) && decide (c.spin ≤ 4)) := by
    rw [Bool.eq_iff_iff, mayC_iff]
    simp only [Bool.and_eq_true, Bool.or_eq_true, decide_eq_true_eq, beq_iff_eq]
    omega
  rw [key]
  simp only [Try.f39, cv', T23, hfree_lu, hfree_l0, row0, row1, row2, row3, row4, row5, shI_dec, shN_dec, shB_dec, shM_dec, dI, dN, dB, dM, dU, dU_map, iv, bv, u, ms, ctx_T, ctx_C, ctx_P, T4, T3, T26, Option.bind_some, Option.bind_none, Option.map_some, List.length_map, List.length_set, String.reduceBEq, Int.toNat_natCast, Bool.true_beq, Bool.false_beq, ev1, ev2, implies_true, undef, stepP, drawB, stepL, lateB, lateB0, rdsT, rdsAny, isRd, afterL, preB, callLB, callLV, lateV, dstV, dynCall, ↓condE_t, ↓condE_f, ↓guardE_tt, ↓guardE_ff, ↓guardE_tf, ↓guardE_ft, frzDeep, deepArgs, deepArg, resB, cv, stepB, stepE, callD, tabD, snapD, snap1, snapC, snapId, snapIds, guardB, guardC, dstAt, aopR, one, pre, binR, intOpR, shiftOpR, unR, argFrm, evo, lkp, hlk, lenOf, asLst, idOf, bndA, srcOk, ofVal, ofCells, setCells, fillA, setElems, fieldsOf, fieldsEq, scalEq, isEq, AV.wr, AV.ok1, TK.agg, frz, frzs, frzA, frzArg, frzArgs, subA, subL, sub1, kp, kh, accOf, List.replicate, Nat.reduceAdd, Nat.reduceSub, Nat.reduceMul, Nat.reduceEqDiff, Nat.reduceLT, Nat.reduceLeDiff, Nat.reduceBEq, reduceIte, reduceCtorEq, eq_self, ne_eq, Int.reduceToNat, Int.reduceLT, Int.reduceLE, Int.reduceGT, Int.reduceGE, Int.reduceBEq, Int.reduceBNe, Int.reduceEq, Int.reduceNe]
  clear key
  repeat' first | apply And.intro | intro _
  all_goals first | rfl | (simp_all; done) | (simp_all; intros; omega) | (simp_all; omega)

structure Base (c : Cf) (w : Int) : Prop where
  e1 : IntKind.wrap .i64 (2 * c.i) = 2 * c.i
  e2 : IntKind.wrap .i64 (6 + 2 * c.i) = 6 + 2 * c.i
  e3 : IntKind.wrap .i64 (3 + c.d) = 3 + c.d
  e4 : IntKind.wrap .i64 (w * (3 + c.d)) = w * (3 + c.d)
  e5 : IntKind.wrap .i64 (6 + 2 * c.i + w * (3 + c.d)) = lBase c w
  e6 : 6 ≤ lBase c w ∧ lBase c w ≤ 1000

theorem base_ok {c : Cf} {w : Int} (h : mayC c = true) (h0 : 0 ≤ w) (h1 : w ≤ 8) : Base c w := by
  obtain ⟨a1, a2, a3, a4, a5, a6, a7⟩ := mayC_iff.1 h
  have hb : 6 ≤ lBase c w ∧ lBase c w ≤ 1000 ∧ 0 ≤ w * (3 + c.d) ∧ w * (3 + c.d) ≤ 200 := by
    unfold lBase
    rcases a3 with e | e | e | e | e <;> rw [e] <;> omega
  refine ⟨wrap_i (by omega) (by omega), wrap_i (by omega) (by omega), wrap_i (by omega) (by omega), wrap_i (by omega) (by omega), ?_, by omega⟩
  unfold lBase at *
  exact wrap_i (by omega) (by omega)

theorem base_pure (c : Cf) (w : Int) (h : mayC c = true) (h0 : 0 ≤ w) (h1 : w ≤ 8) : PureC Try.prog 80 [cv' c, iv w] (iv (lBase c w)) := by
  refine pure_sub ok0 1 Try.func80 rfl (by show 2 ≤ _; decide) ?_
  obtain ⟨e1, e2, e3, e4, e5, _⟩ := base_ok h h0 h1
  simp only [Try.f80, e1, e2, e3, e4, e5, cv', T23, hfree_lu, hfree_l0, row0, row1, row2, row3, row4, row5, shI_dec, shN_dec, shB_dec, shM_dec, dI, dN, dB, dM, dU, dU_map, iv, bv, u, ms, ctx_T, ctx_C, ctx_P, T4, T3, T26, Option.bind_some, Option.bind_none, Option.map_some, List.length_map, List.length_set, String.reduceBEq, Int.toNat_natCast, Bool.true_beq, Bool.false_beq, ev1, ev2, implies_true, undef, stepP, drawB, stepL, lateB, lateB0, rdsT, rdsAny, isRd, afterL, preB, callLB, callLV, lateV, dstV, dynCall, ↓condE_t, ↓condE_f, ↓guardE_tt, ↓guardE_ff, ↓guardE_tf, ↓guardE_ft, frzDeep, deepArgs, deepArg, resB, cv, stepB, stepE, callD, tabD, snapD, snap1, snapC, snapId, snapIds, guardB, guardC, dstAt, aopR, one, pre, binR, intOpR, shiftOpR, unR, argFrm, evo, lkp, hlk, lenOf, asLst, idOf, bndA, srcOk, ofVal, ofCells, setCells, fillA, setElems, fieldsOf, fieldsEq, scalEq, isEq, AV.wr, AV.ok1, TK.agg, frz, frzs, frzA, frzArg, frzArgs, subA, subL, sub1, kp, kh, accOf, List.replicate, Nat.reduceAdd, Nat.reduceSub, Nat.reduceMul, Nat.reduceEqDiff, Nat.reduceLT, Nat.reduceLeDiff, Nat.reduceBEq, reduceIte, reduceCtorEq, eq_self, ne_eq, Int.reduceToNat, Int.reduceLT, Int.reduceLE, Int.reduceGT, Int.reduceGE, Int.reduceBEq, Int.reduceBNe, Int.reduceEq, Int.reduceNe]

def rowsLB : List Row := [
  (33, row1 shC fun c => some (bv (mayC c))), 
  (49, row2 shN shN fun a b => some (iv (far a b))), 
  (39, row1 shC fun c => some (bv (mayC c))), 
  (75, row2 shN shN fun a b => some (iv (far a b))), 
  (80, row2 shC shI fun c w => if mayC c = true ∧ 0 ≤ w ∧ w ≤ 8 then some (iv (lBase c w)) else none)] ++ rowsLA
theorem rowsLB_ok : ∀ p ∈ rowsLB, RowOk Try.prog p := fun p h => by
  simp only [rowsLB, List.mem_append, List.mem_cons, List.not_mem_nil, or_false, false_or, or_assoc] at h
  rcases h with rfl | rfl | rfl | rfl | rfl | h
  · exact ok_row1 (enters_of Try.func33 (by decide) rfl) fun c r _ e => by cases e; exact may_pure c
  · exact ok_row2 (enters_of Try.func49 (by decide) rfl) fun a b r _ _ e => by cases e; exact far_pure a b
  · exact ok_row1 (enters_of Try.func39 (by decide) rfl) fun c r _ e => by cases e; exact rmay_pure c
  · exact ok_row2 (enters_of Try.func75 (by decide) rfl) fun a b r _ _ e => by cases e; exact rfar_pure a b
  · exact ok_row2 (enters_of Try.func80 (by decide) rfl) fun c w r _ _ e => by obtain ⟨h, rfl⟩ := opt_if e; exact base_pure c w h.1 h.2.1 h.2.2
  · exact rowsLA_ok p h
theorem okLB : (ctx Try.prog rowsLB).ok := rows_ok rowsLB_ok
theorem LB_33 : tabC rowsLB 33 = row1 shC fun c => some (bv (mayC c)) := rfl
theorem LB_49 : tabC rowsLB 49 = row2 shN shN fun a b => some (iv (far a b)) := rfl
theorem LB_39 : tabC rowsLB 39 = row1 shC fun c => some (bv (mayC c)) := rfl
theorem LB_75 : tabC rowsLB 75 = row2 shN shN fun a b => some (iv (far a b)) := rfl
theorem LB_80 : tabC rowsLB 80 = row2 shC shI fun c w => if mayC c = true ∧ 0 ≤ w ∧ w ≤ 8 then some (iv (lBase c w)) else none := rfl
theorem LB_82 : tabC rowsLB 82 = fun _ => none := rfl
theorem LB_83 : tabC rowsLB 83 = fun _ => none := rfl
theorem LB_84 : tabC rowsLB 84 = fun _ => none := rfl
theorem LB_85 : tabC rowsLB 85 = fun _ => none := rfl
theorem LB_77 : tabC rowsLB 77 = fun _ => none := rfl
theorem LB_all : type_of% (And.intro LB_33 <| And.intro LB_49 <| And.intro LB_39 <| And.intro LB_75 <| And.intro LB_80 <| And.intro LB_82 <| And.intro LB_83 <| And.intro LB_84 <| And.intro LB_85 <| LB_77) := And.intro LB_33 <| And.intro LB_49 <| And.intro LB_39 <| And.intro LB_75 <| And.intro LB_80 <| And.intro LB_82 <| And.intro LB_83 <| And.intro LB_84 <| And.intro LB_85 <| LB_77

theorem has_iff {c : Cf} {w : Int} : lHas c w = true ↔ mayC c = true ∧ 0 ≤ w ∧ w < c.w := by simp [lHas]

theorem size_pure (c : Cf) : PureC Try.prog 43 [cv' c] (iv (lSize c)) := by
  refine pure_sub okLB 1 Try.func43 rfl (by show 1 ≤ _; decide) ?_
  cases h : mayC c with
  | false => simp only [Try.f43, LB_all, lSize, h, cv', cf_eta, shC_dec, dC, T23, hfree_lu, hfree_l0, row0, row1, row2, row3, row4, row5, shI_dec, shN_dec, shB_dec, shM_dec, dI, dN, dB, dM, dU, dU_map, iv, bv, u, ms, ctx_T, ctx_C, ctx_P, T4, T3, T26, Option.bind_some, Option.bind_none, Option.map_some, List.length_map, List.length_set, String.reduceBEq, Int.toNat_natCast, Bool.true_beq, Bool.false_beq, ev1, ev2, implies_true, undef, stepP, drawB, stepL, lateB, lateB0, rdsT, rdsAny, isRd, afterL, preB, callLB, callLV, lateV, dstV, dynCall, ↓condE_t, ↓condE_f, ↓guardE_tt, ↓guardE_ff, ↓guardE_tf, ↓guardE_ft, frzDeep, deepArgs, deepArg, resB, cv, stepB, stepE, callD, tabD, snapD, snap1, snapC, snapId, snapIds, guardB, guardC, dstAt, aopR, one, pre, binR, intOpR, shiftOpR, unR, argFrm, evo, lkp, hlk, lenOf, asLst, idOf, bndA, srcOk, ofVal, ofCells, setCells, fillA, setElems, fieldsOf, fieldsEq, scalEq, isEq, AV.wr, AV.ok1, TK.agg, frz, frzs, frzA, frzArg, frzArgs, subA, subL, sub1, kp, kh, accOf, List.replicate, Nat.reduceAdd, Nat.reduceSub, Nat.reduceMul, Nat.reduceEqDiff, Nat.reduceLT, Nat.reduceLeDiff, Nat.reduceBEq, reduceIte, reduceCtorEq, eq_self, ne_eq, Int.reduceToNat, Int.reduceLT, Int.reduceLE, Int.reduceGT, Int.reduceGE, Int.reduceBEq, Int.reduceBNe, Int.reduceEq, Int.reduceNe]
  | true =>
    have a := mayC_iff.1 h
    have h0 : 0 ≤ c.w := by omega
    have h1 : c.w ≤ 8 := by omega
    simp only [Try.f43, LB_all, lSize, h, h0, h1, cv', cf_eta, shC_dec, dC, T23, hfree_lu, hfree_l0, row0, row1, row2, row3, row4, row5, shI_dec, shN_dec, shB_dec, shM_dec, dI, dN, dB, dM, dU, dU_map, iv, bv, u, ms, ctx_T, ctx_C, ctx_P, T4, T3, T26, Option.bind_some, Option.bind_none, Option.map_some, List.length_map, List.length_set, String.reduceBEq, Int.toNat_natCast, Bool.true_beq, Bool.false_beq, ev1, ev2, implies_true, undef, stepP, drawB, stepL, lateB, lateB0, rdsT, rdsAny, isRd, afterL, preB, callLB, callLV, lateV, dstV, dynCall, ↓condE_t, ↓condE_f, ↓guardE_tt, ↓guardE_ff, ↓guardE_tf, ↓guardE_ft, frzDeep, deepArgs, deepArg, resB, cv, stepB, stepE, callD, tabD, snapD, snap1, snapC, snapId, snapIds, guardB, guardC, dstAt, aopR, one, pre, binR, intOpR, shiftOpR, unR, argFrm, evo, lkp, hlk, lenOf, asLst, idOf, bndA, srcOk, ofVal, ofCells, setCells, fillA, setElems, fieldsOf, fieldsEq, scalEq, isEq, AV.wr, AV.ok1, TK.agg, frz, frzs, frzA, frzArg, frzArgs, subA, subL, sub1, kp, kh, accOf, List.replicate, Nat.reduceAdd, Nat.reduceSub, Nat.reduceMul, Nat.reduceEqDiff, Nat.reduceLT, Nat.reduceLeDiff, Nat.reduceBEq, reduceIte, reduceCtorEq, eq_self, ne_eq, Int.reduceToNat, Int.reduceLT, Int.reduceLE, Int.reduceGT, Int.reduceGE, Int.reduceBEq, Int.reduceBNe, Int.reduceEq, Int.reduceNe]

theorem rsize_pure (c : Cf) : PureC Try.prog 45 [cv' c] (iv (lSize c)) := by
  refine pure_sub okLB 1 Try.func45 rfl (by show 1 ≤ _; decide) ?_
  cases h : mayC c with
  | false => simp only [Try.f45, LB_all, lSize, h, cv', cf_eta, shC_dec, dC, T23, hfree_lu, hfree_l0, row0, row1, row2, row3, row4, row5, shI_dec, shN_dec, shB_dec, shM_dec, dI, dN, dB, dM, dU, dU_map, iv, bv, u, ms, ctx_T, ctx_C, ctx_P, T4, T3, T26, Option.bind_some, Option.bind_none, Option.map_some, List.length_map, List.length_set, String.reduceBEq, Int.toNat_natCast, Bool.true_beq, Bool.false_beq, ev1, ev2, implies_true, undef, stepP, drawB, stepL, lateB, lateB0, rdsT, rdsAny, isRd, afterL, preB, callLB, callLV, lateV, dstV, dynCall, ↓condE_t, ↓condE_f, ↓guardE_tt, ↓guardE_ff, ↓guardE_tf, ↓guardE_ft, frzDeep, deepArgs, deepArg, resB, cv, stepB, stepE, callD, tabD, snapD, snap1, snapC, snapId, snapIds, guardB, guardC, dstAt, aopR, one, pre, binR, intOpR, shiftOpR, unR, argFrm, evo, lkp, hlk, lenOf, asLst, idOf, bndA, srcOk, ofVal, ofCells, setCells, fillA, setElems, fieldsOf, fieldsEq, scalEq, isEq, AV.wr, AV.ok1, TK.agg, frz, frzs, frzA, frzArg, frzArgs, subA, subL, sub1, kp, kh, accOf, List.replicate, Nat.reduceAdd, Nat.reduceSub, Nat.reduceMul, Nat.reduceEqDiff, Nat.reduceLT, Nat.reduceLeDiff, Nat.reduceBEq, reduceIte, reduceCtorEq, eq_self, ne_eq, Int.reduceToNat, Int.reduceLT, Int.reduceLE, Int.reduceGT, Int.reduceGE, Int.reduceBEq, Int.reduceBNe, Int.reduceEq, Int.reduceNe]
  | true =>
    have a := mayC_iff.1 h
    obtain ⟨e1, e2, e3, e4, e5, _⟩ := base_ok (w := c.w) h (by omega) (by omega)
    simp only [Try.f45, LB_all, lSize, h, e1, e2, e3, e4, e5, cv', cf_eta, shC_dec, dC, T23, hfree_lu, hfree_l0, row0, row1, row2, row3, row4, row5, shI_dec, shN_dec, shB_dec, shM_dec, dI, dN, dB, dM, dU, dU_map, iv, bv, u, ms, ctx_T, ctx_C, ctx_P, T4, T3, T26, Option.bind_some, Option.bind_none, Option.map_some, List.length_map, List.length_set, String.reduceBEq, Int.toNat_natCast, Bool.true_beq, Bool.false_beq, ev1, ev2, implies_true, undef, stepP, drawB, stepL, lateB, lateB0, rdsT, rdsAny, isRd, afterL, preB, callLB, callLV, lateV, dstV, dynCall, ↓condE_t, ↓condE_f, ↓guardE_tt, ↓guardE_ff, ↓guardE_tf, ↓guardE_ft, frzDeep, deepArgs, deepArg, resB, cv, stepB, stepE, callD, tabD, snapD, snap1, snapC, snapId, snapIds, guardB, guardC, dstAt, aopR, one, pre, binR, intOpR, shiftOpR, unR, argFrm, evo, lkp, hlk, lenOf, asLst, idOf, bndA, srcOk, ofVal, ofCells, setCells, fillA, setElems, fieldsOf, fieldsEq, scalEq, isEq, AV.wr, AV.ok1, TK.agg, frz, frzs, frzA, frzArg, frzArgs, subA, subL, sub1, kp, kh, accOf, List.replicate, Nat.reduceAdd, Nat.reduceSub, Nat.reduceMul, Nat.reduceEqDiff, Nat.reduceLT, Nat.reduceLeDiff, Nat.reduceBEq, reduceIte, reduceCtorEq, eq_self, ne_eq, Int.reduceToNat, Int.reduceLT, Int.reduceLE, Int.reduceGT, Int.reduceGE, Int.reduceBEq, Int.reduceBNe, Int.reduceEq, Int.reduceNe]

/-- What a worker's cells' places ask of the walk. -/
structure At (c : Cf) (w : Int) : Prop where
  h0 : 0 ≤ w
  h1 : w ≤ 8
  h2 : w ≥ 0
  h3 : w ≤ c.w - 1
  h4 : IntKind.wrap .i64 (c.w - 1) = c.w - 1
  h5 : w < c.w
  b1 : IntKind.wrap .i64 (lBase c w + 1) = lBase c w + 1
  b3 : IntKind.wrap .i64 (lBase c w + 3) = lBase c w + 3
  d1 : IntKind.wrap .i64 (c.d - 1) = c.d - 1
  d2 : IntKind.wrap .u64 (c.d - 1) = c.d - 1
  d3 : IntKind.wrap .u64 c.d = c.d
  dd : c.d ≠ 0

theorem at_ok {c : Cf} {w : Int} (h : lHas c w = true) : At c w := by
  obtain ⟨hm, h0, h1⟩ := has_iff.1 h
  obtain ⟨a1, a2, a3, a4, a5, a6, a7⟩ := mayC_iff.1 hm
  obtain ⟨b1, b2⟩ := (base_ok hm h0 (by omega)).e6
  exact ⟨h0, by omega, h0, by omega, wrap_i (by omega) (by omega), h1, wrap_i (by omega) (by omega), wrap_i (by omega) (by omega), wrap_i (by omega) (by omega),
    by rw [IntKind.wrap_u64]; omega, by rw [IntKind.wrap_u64]; omega, by omega⟩

theorem and_mask {d x : Int} (h : d = 1 ∨ d = 2 ∨ d = 4 ∨ d = 8 ∨ d = 16) : IntKind.wrap .u64 (BitVec.ofInt IntKind.u64.bits x &&& BitVec.ofInt IntKind.u64.bits (d - 1)).toNat = x % 18446744073709551616 % d := by
  have hx : (BitVec.ofInt 64 x).toNat = (x % 18446744073709551616).toNat := by rw [BitVec.toNat_ofInt]; rfl
  rw [IntKind.wrap_u64]
  show ((BitVec.ofInt 64 x &&& BitVec.ofInt 64 (d - 1)).toNat : Int) % _ = _
  rw [BitVec.toNat_and, hx]
  generalize hn : (x % 18446744073709551616).toNat = n
  have hn' : x % 18446744073709551616 = (n : Int) := by omega
  have hlt : n < 18446744073709551616 := by omega
  rw [hn']
  rcases h with rfl | rfl | rfl | rfl | rfl
  · show ((n &&& 0 : Nat) : Int) % _ = _; rw [Nat.and_zero]; omega
  · show ((n &&& (2 ^ 1 - 1) : Nat) : Int) % _ = _; rw [Nat.and_two_pow_sub_one_eq_mod]; omega
  · show ((n &&& (2 ^ 2 - 1) : Nat) : Int) % _ = _; rw [Nat.and_two_pow_sub_one_eq_mod]; omega
  · show ((n &&& (2 ^ 3 - 1) : Nat) : Int) % _ = _; rw [Nat.and_two_pow_sub_one_eq_mod]; omega
  · show ((n &&& (2 ^ 4 - 1) : Nat) : Int) % _ = _; rw [Nat.and_two_pow_sub_one_eq_mod]; omega

end Go.Vai
/- Layouts: where a worker's cells are. -/
namespace Go.Vai
open Go.RowKit Go.Proofs
set_option linter.unusedSimpArgs false
set_option linter.unusedVariables false
set_option maxHeartbeats 4000000
set_option maxRecDepth 100000

theorem top_pure (c : Cf) (w : Int) : PureC Try.prog 47 [cv' c, iv w] (iv (lTop c w)) := by
  refine pure_sub okLB 3 Try.func47 rfl (by show 2 ≤ _; decide) ?_
  cases h : lHas c w with
  | false =>
    cases hm : mayC c with
    | false => simp only [Try.f47, Try.func82, Try.f82, Try.func83, Try.f83, Try.func77, Try.f77, inl, LB_all, lTop, h, hm, cv', cf_eta, shC_dec, dC, T23, T90, hfree_lu, hfree_l0, row0, row1, row2, row3, row4, row5, shI_dec, shN_dec, shB_dec, shM_dec, dI, dN, dB, dM, dU, dU_map, iv, bv, u, ms, ctx_T, ctx_C, ctx_P, T4, T3, T26, Option.bind_some, Option.bind_none, Option.map_some, List.length_map, List.length_set, String.reduceBEq, Int.toNat_natCast, Bool.true_beq, Bool.false_beq, ev1, ev2, implies_true, undef, stepP, drawB, stepL, lateB, lateB0, rdsT, rdsAny, isRd, afterL, preB, callLB, callLV, lateV, dstV, dynCall, ↓condE_t, ↓condE_f, ↓guardE_tt, ↓guardE_ff, ↓guardE_tf, ↓guardE_ft, frzDeep, deepArgs, deepArg, resB, cv, stepB, stepE, callD, tabD, snapD, snap1, snapC, snapId, snapIds, guardB, guardC, dstAt, aopR, one, pre, binR, intOpR, shiftOpR, unR, argFrm, evo, lkp, hlk, lenOf, asLst, idOf, bndA, srcOk, ofVal, ofCells, setCells, fillA, setElems, fieldsOf, fieldsEq, scalEq, isEq, AV.wr, AV.ok1, TK.agg, frz, frzs, frzA, frzArg, frzArgs, subA, subL, sub1, kp, kh, accOf, List.replicate, Nat.reduceAdd, Nat.reduceSub, Nat.reduceMul, Nat.reduceEqDiff, Nat.reduceLT, Nat.reduceLeDiff, Nat.reduceBEq, reduceIte, reduceCtorEq, eq_self, ne_eq, Int.reduceToNat, Int.reduceLT, Int.reduceLE, Int.reduceGT, Int.reduceGE, Int.reduceBEq, Int.reduceBNe, Int.reduceEq, Int.reduceNe]
    | true =>
      have a := mayC_iff.1 hm
      have h4 : IntKind.wrap .i64 (c.w - 1) = c.w - 1 := wrap_i (by omega) (by omega)
      by_cases h0 : w ≥ 0
      · have h1 : ¬ w ≤ c.w - 1 := by
          intro e
          have : lHas c w = true := has_iff.2 ⟨hm, h0, by omega⟩
          rw [h] at this; cases this
        simp only [Try.f47, Try.func82, Try.f82, Try.func83, Try.f83, Try.func77, Try.f77, inl, LB_all, lTop, h, hm, h0, h1, h4, cv', cf_eta, shC_dec, dC, T23, T90, hfree_lu, hfree_l0, row0, row1, row2, row3, row4, row5, shI_dec, shN_dec, shB_dec, shM_dec, dI, dN, dB, dM, dU, dU_map, iv, bv, u, ms, ctx_T, ctx_C, ctx_P, T4, T3, T26, Option.bind_some, Option.bind_none, Option.map_some, List.length_map, List.length_set, String.reduceBEq, Int.toNat_natCast, Bool.true_beq, Bool.false_beq, ev1, ev2, implies_true, undef, stepP, drawB, stepL, lateB, lateB0, rdsT, rdsAny, isRd, afterL, preB, callLB, callLV, lateV, dstV, dynCall, ↓condE_t, ↓condE_f, ↓guardE_tt, ↓guardE_ff, ↓guardE_tf, ↓guardE_ft, frzDeep, deepArgs, deepArg, resB, cv, stepB, stepE, callD, tabD, snapD, snap1, snapC, snapId, snapIds, guardB, guardC, dstAt, aopR, one, pre, binR, intOpR, shiftOpR, unR, argFrm, evo, lkp, hlk, lenOf, asLst, idOf, bndA, srcOk, ofVal, ofCells, setCells, fillA, setElems, fieldsOf, fieldsEq, scalEq, isEq, AV.wr, AV.ok1, TK.agg, frz, frzs, frzA, frzArg, frzArgs, subA, subL, sub1, kp, kh, accOf, List.replicate, Nat.reduceAdd, Nat.reduceSub, Nat.reduceMul, Nat.reduceEqDiff, Nat.reduceLT, Nat.reduceLeDiff, Nat.reduceBEq, reduceIte, reduceCtorEq, eq_self, ne_eq, Int.reduceToNat, Int.reduceLT, Int.reduceLE, Int.reduceGT, Int.reduceGE, Int.reduceBEq, Int.reduceBNe, Int.reduceEq, Int.reduceNe]
      · simp only [Try.f47, Try.func82, Try.f82, Try.func83, Try.f83, Try.func77, Try.f77, inl, LB_all, lTop, h, hm, h0, h4, cv', cf_eta, shC_dec, dC, T23, T90, hfree_lu, hfree_l0, row0, row1, row2, row3, row4, row5, shI_dec, shN_dec, shB_dec, shM_dec, dI, dN, dB, dM, dU, dU_map, iv, bv, u, ms, ctx_T, ctx_C, ctx_P, T4, T3, T26, Option.bind_some, Option.bind_none, Option.map_some, List.length_map, List.length_set, String.reduceBEq, Int.toNat_natCast, Bool.true_beq, Bool.false_beq, ev1, ev2, implies_true, undef, stepP, drawB, stepL, lateB, lateB0, rdsT, rdsAny, isRd, afterL, preB, callLB, callLV, lateV, dstV, dynCall, ↓condE_t, ↓condE_f, ↓guardE_tt, ↓guardE_ff, ↓guardE_tf, ↓guardE_ft, frzDeep, deepArgs, deepArg, resB, cv, stepB, stepE, callD, tabD, snapD, snap1, snapC, snapId, snapIds, guardB, guardC, dstAt, aopR, one, pre, binR, intOpR, shiftOpR, unR, argFrm, evo, lkp, hlk, lenOf, asLst, idOf, bndA, srcOk, ofVal, ofCells, setCells, fillA, setElems, fieldsOf, fieldsEq, scalEq, isEq, AV.wr, AV.ok1, TK.agg, frz, frzs, frzA, frzArg, frzArgs, subA, subL, sub1, kp, kh, accOf, List.replicate, Nat.reduceAdd, Nat.reduceSub, Nat.reduceMul, Nat.reduceEqDiff, Nat.reduceLT, Nat.reduceLeDiff, Nat.reduceBEq, reduceIte, reduceCtorEq, eq_self, ne_eq, Int.reduceToNat, Int.reduceLT, Int.reduceLE, Int.reduceGT, Int.reduceGE, Int.reduceBEq, Int.reduceBNe, Int.reduceEq, Int.reduceNe]
  | true =>
    obtain ⟨h0, h1, h2, h3, h4, h5, b1, b3, d1, d2, d3, dd⟩ := at_ok h
    have hm := (has_iff.1 h).1
    simp only [Try.f47, Try.func82, Try.f82, Try.func83, Try.f83, Try.func77, Try.f77, inl, LB_all, lTop, h, hm, h0, h1, h2, h3, h4, b1, b3, d1, d2, cv', cf_eta, shC_dec, dC, T23, T90, hfree_lu, hfree_l0, row0, row1, row2, row3, row4, row5, shI_dec, shN_dec, shB_dec, shM_dec, dI, dN, dB, dM, dU, dU_map, iv, bv, u, ms, ctx_T, ctx_C, ctx_P, T4, T3, T26, Option.bind_some, Option.bind_none, Option.map_some, List.length_map, List.length_set, String.reduceBEq, Int.toNat_natCast, Bool.true_beq, Bool.false_beq, ev1, ev2, implies_true, undef, stepP, drawB, stepL, lateB, lateB0, rdsT, rdsAny, isRd, afterL, preB, callLB, callLV, lateV, dstV, dynCall, ↓condE_t, ↓condE_f, ↓guardE_tt, ↓guardE_ff, ↓guardE_tf, ↓guardE_ft, frzDeep, deepArgs, deepArg, resB, cv, stepB, stepE, callD, tabD, snapD, snap1, snapC, snapId, snapIds, guardB, guardC, dstAt, aopR, one, pre, binR, intOpR, shiftOpR, unR, argFrm, evo, lkp, hlk, lenOf, asLst, idOf, bndA, srcOk, ofVal, ofCells, setCells, fillA, setElems, fieldsOf, fieldsEq, scalEq, isEq, AV.wr, AV.ok1, TK.agg, frz, frzs, frzA, frzArg, frzArgs, subA, subL, sub1, kp, kh, accOf, List.replicate, Nat.reduceAdd, Nat.reduceSub, Nat.reduceMul, Nat.reduceEqDiff, Nat.reduceLT, Nat.reduceLeDiff, Nat.reduceBEq, reduceIte, reduceCtorEq, eq_self, ne_eq, Int.reduceToNat, Int.reduceLT, Int.reduceLE, Int.reduceGT, Int.reduceGE, Int.reduceBEq, Int.reduceBNe, Int.reduceEq, Int.reduceNe]
    all_goals ((repeat' apply And.intro) <;> first | rfl | omega | (show entryOk _ _ _ _ _ = true; kernel_rfl) | (show pivotOk _ _ = true; kernel_rfl) | decide)

theorem bottom_pure (c : Cf) (w : Int) : PureC Try.prog 48 [cv' c, iv w] (iv (lBottom c w)) := by
  refine pure_sub okLB 3 Try.func48 rfl (by show 2 ≤ _; decide) ?_
  cases h : lHas c w with
  | false =>
    cases hm : mayC c with
    | false => simp only [Try.f48, Try.func82, Try.f82, Try.func84, Try.f84, Try.func77, Try.f77, inl, LB_all, lBottom, h, hm, cv', cf_eta, shC_dec, dC, T23, T90, hfree_lu, hfree_l0, row0, row1, row2, row3, row4, row5, shI_dec, shN_dec, shB_dec, shM_dec, dI, dN, dB, dM, dU, dU_map, iv, bv, u, ms, ctx_T, ctx_C, ctx_P, T4, T3, T26, Option.bind_some, Option.bind_none, Option.map_some, List.length_map, List.length_set, String.reduceBEq, Int.toNat_natCast, Bool.true_beq, Bool.false_beq, ev1, ev2, implies_true, undef, stepP, drawB, stepL, lateB, lateB0, rdsT, rdsAny, isRd, afterL, preB, callLB, callLV, lateV, dstV, dynCall, ↓condE_t, ↓condE_f, ↓guardE_tt, ↓guardE_ff, ↓guardE_tf, ↓guardE_ft, frzDeep, deepArgs, deepArg, resB, cv, stepB, stepE, callD, tabD, snapD, snap1, snapC, snapId, snapIds, guardB, guardC, dstAt, aopR, one, pre, binR, intOpR, shiftOpR, unR, argFrm, evo, lkp, hlk, lenOf, asLst, idOf, bndA, srcOk, ofVal, ofCells, setCells, fillA, setElems, fieldsOf, fieldsEq, scalEq, isEq, AV.wr, AV.ok1, TK.agg, frz, frzs, frzA, frzArg, frzArgs, subA, subL, sub1, kp, kh, accOf, List.replicate, Nat.reduceAdd, Nat.reduceSub, Nat.reduceMul, Nat.reduceEqDiff, Nat.reduceLT, Nat.reduceLeDiff, Nat.reduceBEq, reduceIte, reduceCtorEq, eq_self, ne_eq, Int.reduceToNat, Int.reduceLT, Int.reduceLE, Int.reduceGT, Int.reduceGE, Int.reduceBEq, Int.reduceBNe, Int.reduceEq, Int.reduceNe]
    | true =>
      have a := mayC_iff.1 hm
      have h4 : IntKind.wrap .i64 (c.w - 1) = c.w - 1 := wrap_i (by omega) (by omega)
      by_cases h0 : w ≥ 0
      · have h1 : ¬ w ≤ c.w - 1 := by
          intro e
          have : lHas c w = true := has_iff.2 ⟨hm, h0, by omega⟩
          rw [h] at this; cases this
        simp only [Try.f48, Try.func82, Try.f82, Try.func84, Try.f84, Try.func77, Try.f77, inl, LB_all, lBottom, h, hm, h0, h1, h4, cv', cf_eta, shC_dec, dC, T23, T90, hfree_lu, hfree_l0, row0, row1, row2, row3, row4, row5, shI_dec, shN_dec, shB_dec, shM_dec, dI, dN, dB, dM, dU, dU_map, iv, bv, u, ms, ctx_T, ctx_C, ctx_P, T4, T3, T26, Option.bind_some, Option.bind_none, Option.map_some, List.length_map, List.length_set, String.reduceBEq, Int.toNat_natCast, Bool.true_beq, Bool.false_beq, ev1, ev2, implies_true, undef, stepP, drawB, stepL, lateB, lateB0, rdsT, rdsAny, isRd, afterL, preB, callLB, callLV, lateV, dstV, dynCall, ↓condE_t, ↓condE_f, ↓guardE_tt, ↓guardE_ff, ↓guardE_tf, ↓guardE_ft, frzDeep, deepArgs, deepArg, resB, cv, stepB, stepE, callD, tabD, snapD, snap1, snapC, snapId, snapIds, guardB, guardC, dstAt, aopR, one, pre, binR, intOpR, shiftOpR, unR, argFrm, evo, lkp, hlk, lenOf, asLst, idOf, bndA, srcOk, ofVal, ofCells, setCells, fillA, setElems, fieldsOf, fieldsEq, scalEq, isEq, AV.wr, AV.ok1, TK.agg, frz, frzs, frzA, frzArg, frzArgs, subA, subL, sub1, kp, kh, accOf, List.replicate, Nat.reduceAdd, Nat.reduceSub, Nat.reduceMul, Nat.reduceEqDiff, Nat.reduceLT, Nat.reduceLeDiff, Nat.reduceBEq, reduceIte, reduceCtorEq, eq_self, ne_eq, Int.reduceToNat, Int.reduceLT, Int.reduceLE, Int.reduceGT, Int.reduceGE, Int.reduceBEq, Int.reduceBNe, Int.reduceEq, Int.reduceNe]
      · simp only [Try.f48, Try.func82, Try.f82, Try.func84, Try.f84, Try.func77, Try.f77, inl, LB_all, lBottom, h, hm, h0, h4, cv', cf_eta, shC_dec, dC, T23, T90, hfree_lu, hfree_l0, row0, row1, row2, row3, row4, row5, shI_dec, shN_dec, shB_dec, shM_dec, dI, dN, dB, dM, dU, dU_map, iv, bv, u, ms, ctx_T, ctx_C, ctx_P, T4, T3, T26, Option.bind_some, Option.bind_none, Option.map_some, List.length_map, List.length_set, String.reduceBEq, Int.toNat_natCast, Bool.true_beq, Bool.false_beq, ev1, ev2, implies_true, undef, stepP, drawB, stepL, lateB, lateB0, rdsT, rdsAny, isRd, afterL, preB, callLB, callLV, lateV, dstV, dynCall, ↓condE_t, ↓condE_f, ↓guardE_tt, ↓guardE_ff, ↓guardE_tf, ↓guardE_ft, frzDeep, deepArgs, deepArg, resB, cv, stepB, stepE, callD, tabD, snapD, snap1, snapC, snapId, snapIds, guardB, guardC, dstAt, aopR, one, pre, binR, intOpR, shiftOpR, unR, argFrm, evo, lkp, hlk, lenOf, asLst, idOf, bndA, srcOk, ofVal, ofCells, setCells, fillA, setElems, fieldsOf, fieldsEq, scalEq, isEq, AV.wr, AV.ok1, TK.agg, frz, frzs, frzA, frzArg, frzArgs, subA, subL, sub1, kp, kh, accOf, List.replicate, Nat.reduceAdd, Nat.reduceSub, Nat.reduceMul, Nat.reduceEqDiff, Nat.reduceLT, Nat.reduceLeDiff, Nat.reduceBEq, reduceIte, reduceCtorEq, eq_self, ne_eq, Int.reduceToNat, Int.reduceLT, Int.reduceLE, Int.reduceGT, Int.reduceGE, Int.reduceBEq, Int.reduceBNe, Int.reduceEq, Int.reduceNe]
  | true =>
    obtain ⟨h0, h1, h2, h3, h4, h5, b1, b3, d1, d2, d3, dd⟩ := at_ok h
    have hm := (has_iff.1 h).1
    simp only [Try.f48, Try.func82, Try.f82, Try.func84, Try.f84, Try.func77, Try.f77, inl, LB_all, lBottom, h, hm, h0, h1, h2, h3, h4, b1, b3, d1, d2, cv', cf_eta, shC_dec, dC, T23, T90, hfree_lu, hfree_l0, row0, row1, row2, row3, row4, row5, shI_dec, shN_dec, shB_dec, shM_dec, dI, dN, dB, dM, dU, dU_map, iv, bv, u, ms, ctx_T, ctx_C, ctx_P, T4, T3, T26, Option.bind_some, Option.bind_none, Option.map_some, List.length_map, List.length_set, String.reduceBEq, Int.toNat_natCast, Bool.true_beq, Bool.false_beq, ev1, ev2, implies_true, undef, stepP, drawB, stepL, lateB, lateB0, rdsT, rdsAny, isRd, afterL, preB, callLB, callLV, lateV, dstV, dynCall, ↓condE_t, ↓condE_f, ↓guardE_tt, ↓guardE_ff, ↓guardE_tf, ↓guardE_ft, frzDeep, deepArgs, deepArg, resB, cv, stepB, stepE, callD, tabD, snapD, snap1, snapC, snapId, snapIds, guardB, guardC, dstAt, aopR, one, pre, binR, intOpR, shiftOpR, unR, argFrm, evo, lkp, hlk, lenOf, asLst, idOf, bndA, srcOk, ofVal, ofCells, setCells, fillA, setElems, fieldsOf, fieldsEq, scalEq, isEq, AV.wr, AV.ok1, TK.agg, frz, frzs, frzA, frzArg, frzArgs, subA, subL, sub1, kp, kh, accOf, List.replicate, Nat.reduceAdd, Nat.reduceSub, Nat.reduceMul, Nat.reduceEqDiff, Nat.reduceLT, Nat.reduceLeDiff, Nat.reduceBEq, reduceIte, reduceCtorEq, eq_self, ne_eq, Int.reduceToNat, Int.reduceLT, Int.reduceLE, Int.reduceGT, Int.reduceGE, Int.reduceBEq, Int.reduceBNe, Int.reduceEq, Int.reduceNe]
    all_goals ((repeat' apply And.intro) <;> first | rfl | omega | (show entryOk _ _ _ _ _ = true; kernel_rfl) | (show pivotOk _ _ = true; kernel_rfl) | decide)

theorem slot_pure (c : Cf) (w x : Int) : PureC Try.prog 50 [cv' c, iv w, u x] (iv (lSlot c w x)) := by
  refine pure_sub okLB 3 Try.func50 rfl (by show 3 ≤ _; decide) ?_
  cases h : lHas c w with
  | false =>
    cases hm : mayC c with
    | false => simp only [Try.f50, Try.func82, Try.f82, Try.func85, Try.f85, Try.func77, Try.f77, inl, LB_all, lSlot, h, hm, cv', cf_eta, shC_dec, dC, T23, T90, hfree_lu, hfree_l0, row0, row1, row2, row3, row4, row5, shI_dec, shN_dec, shB_dec, shM_dec, dI, dN, dB, dM, dU, dU_map, iv, bv, u, ms, ctx_T, ctx_C, ctx_P, T4, T3, T26, Option.bind_some, Option.bind_none, Option.map_some, List.length_map, List.length_set, String.reduceBEq, Int.toNat_natCast, Bool.true_beq, Bool.false_beq, ev1, ev2, implies_true, undef, stepP, drawB, stepL, lateB, lateB0, rdsT, rdsAny, isRd, afterL, preB, callLB, callLV, lateV, dstV, dynCall, ↓condE_t, ↓condE_f, ↓guardE_tt, ↓guardE_ff, ↓guardE_tf, ↓guardE_ft, frzDeep, deepArgs, deepArg, resB, cv, stepB, stepE, callD, tabD, snapD, snap1, snapC, snapId, snapIds, guardB, guardC, dstAt, aopR, one, pre, binR, intOpR, shiftOpR, unR, argFrm, evo, lkp, hlk, lenOf, asLst, idOf, bndA, srcOk, ofVal, ofCells, setCells, fillA, setElems, fieldsOf, fieldsEq, scalEq, isEq, AV.wr, AV.ok1, TK.agg, frz, frzs, frzA, frzArg, frzArgs, subA, subL, sub1, kp, kh, accOf, List.replicate, Nat.reduceAdd, Nat.reduceSub, Nat.reduceMul, Nat.reduceEqDiff, Nat.reduceLT, Nat.reduceLeDiff, Nat.reduceBEq, reduceIte, reduceCtorEq, eq_self, ne_eq, Int.reduceToNat, Int.reduceLT, Int.reduceLE, Int.reduceGT, Int.reduceGE, Int.reduceBEq, Int.reduceBNe, Int.reduceEq, Int.reduceNe]
    | true =>
      have a := mayC_iff.1 hm
      have h4 : IntKind.wrap .i64 (c.w - 1) = c.w - 1 := wrap_i (by omega) (by omega)
      by_cases h0 : w ≥ 0
      · have h1 : ¬ w ≤ c.w - 1 := by
          intro e
          have : lHas c w = true := has_iff.2 ⟨hm, h0, by omega⟩
          rw [h] at this; cases this
        simp only [Try.f50, Try.func82, Try.f82, Try.func85, Try.f85, Try.func77, Try.f77, inl, LB_all, lSlot, h, hm, h0, h1, h4, cv', cf_eta, shC_dec, dC, T23, T90, hfree_lu, hfree_l0, row0, row1, row2, row3, row4, row5, shI_dec, shN_dec, shB_dec, shM_dec, dI, dN, dB, dM, dU, dU_map, iv, bv, u, ms, ctx_T, ctx_C, ctx_P, T4, T3, T26, Option.bind_some, Option.bind_none, Option.map_some, List.length_map, List.length_set, String.reduceBEq, Int.toNat_natCast, Bool.true_beq, Bool.false_beq, ev1, ev2, implies_true, undef, stepP, drawB, stepL, lateB, lateB0, rdsT, rdsAny, isRd, afterL, preB, callLB, callLV, lateV, dstV, dynCall, ↓condE_t, ↓condE_f, ↓guardE_tt, ↓guardE_ff, ↓guardE_tf, ↓guardE_ft, frzDeep, deepArgs, deepArg, resB, cv, stepB, stepE, callD, tabD, snapD, snap1, snapC, snapId, snapIds, guardB, guardC, dstAt, aopR, one, pre, binR, intOpR, shiftOpR, unR, argFrm, evo, lkp, hlk, lenOf, asLst, idOf, bndA, srcOk, ofVal, ofCells, setCells, fillA, setElems, fieldsOf, fieldsEq, scalEq, isEq, AV.wr, AV.ok1, TK.agg, frz, frzs, frzA, frzArg, frzArgs, subA, subL, sub1, kp, kh, accOf, List.replicate, Nat.reduceAdd, Nat.reduceSub, Nat.reduceMul, Nat.reduceEqDiff, Nat.reduceLT, Nat.reduceLeDiff, Nat.reduceBEq, reduceIte, reduceCtorEq, eq_self, ne_eq, Int.reduceToNat, Int.reduceLT, Int.reduceLE, Int.reduceGT, Int.reduceGE, Int.reduceBEq, Int.reduceBNe, Int.reduceEq, Int.reduceNe]
      · simp only [Try.f50, Try.func82, Try.f82, Try.func85, Try.f85, Try.func77, Try.f77, inl, LB_all, lSlot, h, hm, h0, h4, cv', cf_eta, shC_dec, dC, T23, T90, hfree_lu, hfree_l0, row0, row1, row2, row3, row4, row5, shI_dec, shN_dec, shB_dec, shM_dec, dI, dN, dB, dM, dU, dU_map, iv, bv, u, ms, ctx_T, ctx_C, ctx_P, T4, T3, T26, Option.bind_some, Option.bind_none, Option.map_some, List.length_map, List.length_set, String.reduceBEq, Int.toNat_natCast, Bool.true_beq, Bool.false_beq, ev1, ev2, implies_true, undef, stepP, drawB, stepL, lateB, lateB0, rdsT, rdsAny, isRd, afterL, preB, callLB, callLV, lateV, dstV, dynCall, ↓condE_t, ↓condE_f, ↓guardE_tt, ↓guardE_ff, ↓guardE_tf, ↓guardE_ft, frzDeep, deepArgs, deepArg, resB, cv, stepB, stepE, callD, tabD, snapD, snap1, snapC, snapId, snapIds, guardB, guardC, dstAt, aopR, one, pre, binR, intOpR, shiftOpR, unR, argFrm, evo, lkp, hlk, lenOf, asLst, idOf, bndA, srcOk, ofVal, ofCells, setCells, fillA, setElems, fieldsOf, fieldsEq, scalEq, isEq, AV.wr, AV.ok1, TK.agg, frz, frzs, frzA, frzArg, frzArgs, subA, subL, sub1, kp, kh, accOf, List.replicate, Nat.reduceAdd, Nat.reduceSub, Nat.reduceMul, Nat.reduceEqDiff, Nat.reduceLT, Nat.reduceLeDiff, Nat.reduceBEq, reduceIte, reduceCtorEq, eq_self, ne_eq, Int.reduceToNat, Int.reduceLT, Int.reduceLE, Int.reduceGT, Int.reduceGE, Int.reduceBEq, Int.reduceBNe, Int.reduceEq, Int.reduceNe]
  | true =>
    obtain ⟨h0, h1, h2, h3, h4, h5, b1, b3, d1, d2, d3, dd⟩ := at_ok h
    have hm := (has_iff.1 h).1
    have a := mayC_iff.1 hm
    have s4 := and_mask (x := x) a.2.2.1
    have s0 : 0 ≤ x % 18446744073709551616 % c.d ∧ x % 18446744073709551616 % c.d < 16 := by rcases a.2.2.1 with e | e | e | e | e <;> rw [e] <;> omega
    have s5 : IntKind.wrap .i64 (x % 18446744073709551616 % c.d) = x % 18446744073709551616 % c.d := wrap_i (by omega) (by omega)
    have s6 : IntKind.wrap .i64 (lBase c w + 3 + x % 18446744073709551616 % c.d) = lBase c w + 3 + x % 18446744073709551616 % c.d := by
      obtain ⟨b1, b2⟩ := (base_ok hm h0 h1).e6
      exact wrap_i (by omega) (by omega)
    simp only [Try.f50, Try.func82, Try.f82, Try.func85, Try.f85, Try.func77, Try.f77, inl, LB_all, lSlot, h, hm, h0, h1, h2, h3, h4, b1, b3, d1, d2, s4, s5, s6, cv', cf_eta, shC_dec, dC, T23, T90, hfree_lu, hfree_l0, row0, row1, row2, row3, row4, row5, shI_dec, shN_dec, shB_dec, shM_dec, dI, dN, dB, dM, dU, dU_map, iv, bv, u, ms, ctx_T, ctx_C, ctx_P, T4, T3, T26, Option.bind_some, Option.bind_none, Option.map_some, List.length_map, List.length_set, String.reduceBEq, Int.toNat_natCast, Bool.true_beq, Bool.false_beq, ev1, ev2, implies_true, undef, stepP, drawB, stepL, lateB, lateB0, rdsT, rdsAny, isRd, afterL, preB, callLB, callLV, lateV, dstV, dynCall, ↓condE_t, ↓condE_f, ↓guardE_tt, ↓guardE_ff, ↓guardE_tf, ↓guardE_ft, frzDeep, deepArgs, deepArg, resB, cv, stepB, stepE, callD, tabD, snapD, snap1, snapC, snapId, snapIds, guardB, guardC, dstAt, aopR, one, pre, binR, intOpR, shiftOpR, unR, argFrm, evo, lkp, hlk, lenOf, asLst, idOf, bndA, srcOk, ofVal, ofCells, setCells, fillA, setElems, fieldsOf, fieldsEq, scalEq, isEq, AV.wr, AV.ok1, TK.agg, frz, frzs, frzA, frzArg, frzArgs, subA, subL, sub1, kp, kh, accOf, List.replicate, Nat.reduceAdd, Nat.reduceSub, Nat.reduceMul, Nat.reduceEqDiff, Nat.reduceLT, Nat.reduceLeDiff, Nat.reduceBEq, reduceIte, reduceCtorEq, eq_self, ne_eq, Int.reduceToNat, Int.reduceLT, Int.reduceLE, Int.reduceGT, Int.reduceGE, Int.reduceBEq, Int.reduceBNe, Int.reduceEq, Int.reduceNe]
    all_goals ((repeat' apply And.intro) <;> first | rfl | omega | (show entryOk _ _ _ _ _ = true; kernel_rfl) | (show pivotOk _ _ = true; kernel_rfl) | decide)

theorem rtop_pure (c : Cf) (w : Int) : PureC Try.prog 71 [cv' c, iv w] (iv (lTop c w)) := by
  refine pure_sub okLB 1 Try.func71 rfl (by show 2 ≤ _; decide) ?_
  cases h : lHas c w with
  | false =>
    cases hm : mayC c with
    | false => simp only [Try.f71, LB_all, lTop, h, hm, cv', cf_eta, shC_dec, dC, T23, hfree_lu, hfree_l0, row0, row1, row2, row3, row4, row5, shI_dec, shN_dec, shB_dec, shM_dec, dI, dN, dB, dM, dU, dU_map, iv, bv, u, ms, ctx_T, ctx_C, ctx_P, T4, T3, T26, Option.bind_some, Option.bind_none, Option.map_some, List.length_map, List.length_set, String.reduceBEq, Int.toNat_natCast, Bool.true_beq, Bool.false_beq, ev1, ev2, implies_true, undef, stepP, drawB, stepL, lateB, lateB0, rdsT, rdsAny, isRd, afterL, preB, callLB, callLV, lateV, dstV, dynCall, ↓condE_t, ↓condE_f, ↓guardE_tt, ↓guardE_ff, ↓guardE_tf, ↓guardE_ft, frzDeep, deepArgs, deepArg, resB, cv, stepB, stepE, callD, tabD, snapD, snap1, snapC, snapId, snapIds, guardB, guardC, dstAt, aopR, one, pre, binR, intOpR, shiftOpR, unR, argFrm, evo, lkp, hlk, lenOf, asLst, idOf, bndA, srcOk, ofVal, ofCells, setCells, fillA, setElems, fieldsOf, fieldsEq, scalEq, isEq, AV.wr, AV.ok1, TK.agg, frz, frzs, frzA, frzArg, frzArgs, subA, subL, sub1, kp, kh, accOf, List.replicate, Nat.reduceAdd, Nat.reduceSub, Nat.reduceMul, Nat.reduceEqDiff, Nat.reduceLT, Nat.reduceLeDiff, Nat.reduceBEq, reduceIte, reduceCtorEq, eq_self, ne_eq, Int.reduceToNat, Int.reduceLT, Int.reduceLE, Int.reduceGT, Int.reduceGE, Int.reduceBEq, Int.reduceBNe, Int.reduceEq, Int.reduceNe]
    | true =>
      by_cases h0 : w < 0
      · simp only [Try.f71, LB_all, lTop, h, hm, h0, cv', cf_eta, shC_dec, dC, T23, hfree_lu, hfree_l0, row0, row1, row2, row3, row4, row5, shI_dec, shN_dec, shB_dec, shM_dec, dI, dN, dB, dM, dU, dU_map, iv, bv, u, ms, ctx_T, ctx_C, ctx_P, T4, T3, T26, Option.bind_some, Option.bind_none, Option.map_some, List.length_map, List.length_set, String.reduceBEq, Int.toNat_natCast, Bool.true_beq, Bool.false_beq, ev1, ev2, implies_true, undef, stepP, drawB, stepL, lateB, lateB0, rdsT, rdsAny, isRd, afterL, preB, callLB, callLV, lateV, dstV, dynCall, ↓condE_t, ↓condE_f, ↓guardE_tt, ↓guardE_ff, ↓guardE_tf, ↓guardE_ft, frzDeep, deepArgs, deepArg, resB, cv, stepB, stepE, callD, tabD, snapD, snap1, snapC, snapId, snapIds, guardB, guardC, dstAt, aopR, one, pre, binR, intOpR, shiftOpR, unR, argFrm, evo, lkp, hlk, lenOf, asLst, idOf, bndA, srcOk, ofVal, ofCells, setCells, fillA, setElems, fieldsOf, fieldsEq, scalEq, isEq, AV.wr, AV.ok1, TK.agg, frz, frzs, frzA, frzArg, frzArgs, subA, subL, sub1, kp, kh, accOf, List.replicate, Nat.reduceAdd, Nat.reduceSub, Nat.reduceMul, Nat.reduceEqDiff, Nat.reduceLT, Nat.reduceLeDiff, Nat.reduceBEq, reduceIte, reduceCtorEq, eq_self, ne_eq, Int.reduceToNat, Int.reduceLT, Int.reduceLE, Int.reduceGT, Int.reduceGE, Int.reduceBEq, Int.reduceBNe, Int.reduceEq, Int.reduceNe]
      · have h1 : w ≥ c.w := by
          by_cases e : w ≥ c.w
          · exact e
          · have : lHas c w = true := has_iff.2 ⟨hm, by omega, by omega⟩
            rw [h] at this; cases this
        simp only [Try.f71, LB_all, lTop, h, hm, h0, h1, cv', cf_eta, shC_dec, dC, T23, hfree_lu, hfree_l0, row0, row1, row2, row3, row4, row5, shI_dec, shN_dec, shB_dec, shM_dec, dI, dN, dB, dM, dU, dU_map, iv, bv, u, ms, ctx_T, ctx_C, ctx_P, T4, T3, T26, Option.bind_some, Option.bind_none, Option.map_some, List.length_map, List.length_set, String.reduceBEq, Int.toNat_natCast, Bool.true_beq, Bool.false_beq, ev1, ev2, implies_true, undef, stepP, drawB, stepL, lateB, lateB0, rdsT, rdsAny, isRd, afterL, preB, callLB, callLV, lateV, dstV, dynCall, ↓condE_t, ↓condE_f, ↓guardE_tt, ↓guardE_ff, ↓guardE_tf, ↓guardE_ft, frzDeep, deepArgs, deepArg, resB, cv, stepB, stepE, callD, tabD, snapD, snap1, snapC, snapId, snapIds, guardB, guardC, dstAt, aopR, one, pre, binR, intOpR, shiftOpR, unR, argFrm, evo, lkp, hlk, lenOf, asLst, idOf, bndA, srcOk, ofVal, ofCells, setCells, fillA, setElems, fieldsOf, fieldsEq, scalEq, isEq, AV.wr, AV.ok1, TK.agg, frz, frzs, frzA, frzArg, frzArgs, subA, subL, sub1, kp, kh, accOf, List.replicate, Nat.reduceAdd, Nat.reduceSub, Nat.reduceMul, Nat.reduceEqDiff, Nat.reduceLT, Nat.reduceLeDiff, Nat.reduceBEq, reduceIte, reduceCtorEq, eq_self, ne_eq, Int.reduceToNat, Int.reduceLT, Int.reduceLE, Int.reduceGT, Int.reduceGE, Int.reduceBEq, Int.reduceBNe, Int.reduceEq, Int.reduceNe]
  | true =>
    have g := at_ok h
    have hm := (has_iff.1 h).1
    have h0 : ¬ w < 0 := by have := g.h0; omega
    have h1 : ¬ w ≥ c.w := by have := g.h5; omega
    obtain ⟨e1, e2, e3, e4, e5, _⟩ := base_ok hm g.h0 g.h1
    simp only [Try.f71, LB_all, lTop, h, hm, h0, h1, e1, e2, e3, e4, e5, cv', cf_eta, shC_dec, dC, T23, hfree_lu, hfree_l0, row0, row1, row2, row3, row4, row5, shI_dec, shN_dec, shB_dec, shM_dec, dI, dN, dB, dM, dU, dU_map, iv, bv, u, ms, ctx_T, ctx_C, ctx_P, T4, T3, T26, Option.bind_some, Option.bind_none, Option.map_some, List.length_map, List.length_set, String.reduceBEq, Int.toNat_natCast, Bool.true_beq, Bool.false_beq, ev1, ev2, implies_true, undef, stepP, drawB, stepL, lateB, lateB0, rdsT, rdsAny, isRd, afterL, preB, callLB, callLV, lateV, dstV, dynCall, ↓condE_t, ↓condE_f, ↓guardE_tt, ↓guardE_ff, ↓guardE_tf, ↓guardE_ft, frzDeep, deepArgs, deepArg, resB, cv, stepB, stepE, callD, tabD, snapD, snap1, snapC, snapId, snapIds, guardB, guardC, dstAt, aopR, one, pre, binR, intOpR, shiftOpR, unR, argFrm, evo, lkp, hlk, lenOf, asLst, idOf, bndA, srcOk, ofVal, ofCells, setCells, fillA, setElems, fieldsOf, fieldsEq, scalEq, isEq, AV.wr, AV.ok1, TK.agg, frz, frzs, frzA, frzArg, frzArgs, subA, subL, sub1, kp, kh, accOf, List.replicate, Nat.reduceAdd, Nat.reduceSub, Nat.reduceMul, Nat.reduceEqDiff, Nat.reduceLT, Nat.reduceLeDiff, Nat.reduceBEq, reduceIte, reduceCtorEq, eq_self, ne_eq, Int.reduceToNat, Int.reduceLT, Int.reduceLE, Int.reduceGT, Int.reduceGE, Int.reduceBEq, Int.reduceBNe, Int.reduceEq, Int.reduceNe]

def rowsLT : List Row := [
  (43, row1 shC fun c => some (iv (lSize c))), 
  (45, row1 shC fun c => some (iv (lSize c))), 
  (47, row2 shC shI fun c w => some (iv (lTop c w))), 
  (48, row2 shC shI fun c w => some (iv (lBottom c w))), 
  (50, row3 shC shI shN fun c w x => some (iv (lSlot c w x))), 
  (71, row2 shC shI fun c w => some (iv (lTop c w)))] ++ rowsLB
theorem rowsLT_ok : ∀ p ∈ rowsLT, RowOk Try.prog p := fun p h => by
  simp only [rowsLT, List.mem_append, List.mem_cons, List.not_mem_nil, or_false, false_or, or_assoc] at h
  rcases h with rfl | rfl | rfl | rfl | rfl | rfl | h
  · exact ok_row1 (enters_of Try.func43 (by decide) rfl) fun c r _ e => by cases e; exact size_pure c
  · exact ok_row1 (enters_of Try.func45 (by decide) rfl) fun c r _ e => by cases e; exact rsize_pure c
  · exact ok_row2 (enters_of Try.func47 (by decide) rfl) fun c w r _ _ e => by cases e; exact top_pure c w
  · exact ok_row2 (enters_of Try.func48 (by decide) rfl) fun c w r _ _ e => by cases e; exact bottom_pure c w
  · exact ok_row3 (enters_of Try.func50 (by decide) rfl) fun c w x r _ _ _ e => by cases e; exact slot_pure c w x
  · exact ok_row2 (enters_of Try.func71 (by decide) rfl) fun c w r _ _ e => by cases e; exact rtop_pure c w
  · exact rowsLB_ok p h
theorem okLT : (ctx Try.prog rowsLT).ok := rows_ok rowsLT_ok
theorem LT_43 : tabC rowsLT 43 = row1 shC fun c => some (iv (lSize c)) := rfl
theorem LT_45 : tabC rowsLT 45 = row1 shC fun c => some (iv (lSize c)) := rfl
theorem LT_47 : tabC rowsLT 47 = row2 shC shI fun c w => some (iv (lTop c w)) := rfl
theorem LT_48 : tabC rowsLT 48 = row2 shC shI fun c w => some (iv (lBottom c w)) := rfl
theorem LT_50 : tabC rowsLT 50 = row3 shC shI shN fun c w x => some (iv (lSlot c w x)) := rfl
theorem LT_71 : tabC rowsLT 71 = row2 shC shI fun c w => some (iv (lTop c w)) := rfl
theorem LT_33 : tabC rowsLT 33 = row1 shC fun c => some (bv (mayC c)) := rfl
theorem LT_49 : tabC rowsLT 49 = row2 shN shN fun a b => some (iv (far a b)) := rfl
theorem LT_39 : tabC rowsLT 39 = row1 shC fun c => some (bv (mayC c)) := rfl
theorem LT_75 : tabC rowsLT 75 = row2 shN shN fun a b => some (iv (far a b)) := rfl
theorem LT_80 : tabC rowsLT 80 = row2 shC shI fun c w => if mayC c = true ∧ 0 ≤ w ∧ w ≤ 8 then some (iv (lBase c w)) else none := rfl
theorem LT_82 : tabC rowsLT 82 = fun _ => none := rfl
theorem LT_83 : tabC rowsLT 83 = fun _ => none := rfl
theorem LT_84 : tabC rowsLT 84 = fun _ => none := rfl
theorem LT_85 : tabC rowsLT 85 = fun _ => none := rfl
theorem LT_77 : tabC rowsLT 77 = fun _ => none := rfl
theorem LT_all : type_of% (And.intro LT_43 <| And.intro LT_45 <| And.intro LT_47 <| And.intro LT_48 <| And.intro LT_50 <| And.intro LT_71 <| And.intro LT_33 <| And.intro LT_49 <| And.intro LT_39 <| And.intro LT_75 <| And.intro LT_80 <| And.intro LT_82 <| And.intro LT_83 <| And.intro LT_84 <| And.intro LT_85 <| LT_77) := And.intro LT_43 <| And.intro LT_45 <| And.intro LT_47 <| And.intro LT_48 <| And.intro LT_50 <| And.intro LT_71 <| And.intro LT_33 <| And.intro LT_49 <| And.intro LT_39 <| And.intro LT_75 <| And.intro LT_80 <| And.intro LT_82 <| And.intro LT_83 <| And.intro LT_84 <| And.intro LT_85 <| LT_77

theorem top_neg {c : Cf} {w : Int} : (lTop c w < 0) = (lHas c w = false) := by
  cases h : lHas c w with
  | false => simp [lTop, h]
  | true =>
    have hm := (has_iff.1 h)
    have := (base_ok hm.1 hm.2.1 (by have := mayC_iff.1 hm.1; omega)).e6
    simp [lTop, h]; omega

theorem rbottom_pure (c : Cf) (w : Int) : PureC Try.prog 70 [cv' c, iv w] (iv (lBottom c w)) := by
  refine pure_sub okLT 1 Try.func70 rfl (by show 2 ≤ _; decide) ?_
  cases h : lHas c w with
  | false => simp only [Try.f70, LT_all, top_neg, lBottom, h, cv', cf_eta, shC_dec, dC, T23, hfree_lu, hfree_l0, row0, row1, row2, row3, row4, row5, shI_dec, shN_dec, shB_dec, shM_dec, dI, dN, dB, dM, dU, dU_map, iv, bv, u, ms, ctx_T, ctx_C, ctx_P, T4, T3, T26, Option.bind_some, Option.bind_none, Option.map_some, List.length_map, List.length_set, String.reduceBEq, Int.toNat_natCast, Bool.true_beq, Bool.false_beq, ev1, ev2, implies_true, undef, stepP, drawB, stepL, lateB, lateB0, rdsT, rdsAny, isRd, afterL, preB, callLB, callLV, lateV, dstV, dynCall, ↓condE_t, ↓condE_f, ↓guardE_tt, ↓guardE_ff, ↓guardE_tf, ↓guardE_ft, frzDeep, deepArgs, deepArg, resB, cv, stepB, stepE, callD, tabD, snapD, snap1, snapC, snapId, snapIds, guardB, guardC, dstAt, aopR, one, pre, binR, intOpR, shiftOpR, unR, argFrm, evo, lkp, hlk, lenOf, asLst, idOf, bndA, srcOk, ofVal, ofCells, setCells, fillA, setElems, fieldsOf, fieldsEq, scalEq, isEq, AV.wr, AV.ok1, TK.agg, frz, frzs, frzA, frzArg, frzArgs, subA, subL, sub1, kp, kh, accOf, List.replicate, Nat.reduceAdd, Nat.reduceSub, Nat.reduceMul, Nat.reduceEqDiff, Nat.reduceLT, Nat.reduceLeDiff, Nat.reduceBEq, reduceIte, reduceCtorEq, eq_self, ne_eq, Int.reduceToNat, Int.reduceLT, Int.reduceLE, Int.reduceGT, Int.reduceGE, Int.reduceBEq, Int.reduceBNe, Int.reduceEq, Int.reduceNe]
  | true =>
    obtain ⟨h0, h1, h2, h3, h4, h5, b1, b3, d1, d2, d3, dd⟩ := at_ok h
    have e : lTop c w = lBase c w := by simp [lTop, h]
    have e0 : ¬ lBase c w < 0 := by have := (base_ok (has_iff.1 h).1 h0 h1).e6; omega
    simp only [Try.f70, LT_all, e, e0, b1, lBottom, h, cv', cf_eta, shC_dec, dC, T23, hfree_lu, hfree_l0, row0, row1, row2, row3, row4, row5, shI_dec, shN_dec, shB_dec, shM_dec, dI, dN, dB, dM, dU, dU_map, iv, bv, u, ms, ctx_T, ctx_C, ctx_P, T4, T3, T26, Option.bind_some, Option.bind_none, Option.map_some, List.length_map, List.length_set, String.reduceBEq, Int.toNat_natCast, Bool.true_beq, Bool.false_beq, ev1, ev2, implies_true, undef, stepP, drawB, stepL, lateB, lateB0, rdsT, rdsAny, isRd, afterL, preB, callLB, callLV, lateV, dstV, dynCall, ↓condE_t, ↓condE_f, ↓guardE_tt, ↓guardE_ff, ↓guardE_tf, ↓guardE_ft, frzDeep, deepArgs, deepArg, resB, cv, stepB, stepE, callD, tabD, snapD, snap1, snapC, snapId, snapIds, guardB, guardC, dstAt, aopR, one, pre, binR, intOpR, shiftOpR, unR, argFrm, evo, lkp, hlk, lenOf, asLst, idOf, bndA, srcOk, ofVal, ofCells, setCells, fillA, setElems, fieldsOf, fieldsEq, scalEq, isEq, AV.wr, AV.ok1, TK.agg, frz, frzs, frzA, frzArg, frzArgs, subA, subL, sub1, kp, kh, accOf, List.replicate, Nat.reduceAdd, Nat.reduceSub, Nat.reduceMul, Nat.reduceEqDiff, Nat.reduceLT, Nat.reduceLeDiff, Nat.reduceBEq, reduceIte, reduceCtorEq, eq_self, ne_eq, Int.reduceToNat, Int.reduceLT, Int.reduceLE, Int.reduceGT, Int.reduceGE, Int.reduceBEq, Int.reduceBNe, Int.reduceEq, Int.reduceNe]

/-- In a cell's range. -/
def inUb (x : Int) : Bool := decide (0 ≤ x) && decide (x < 18446744073709551616)
theorem inUb_iff {x : Int} : inUb x = true ↔ InU x := by simp [inUb, InU]

theorem rslot_pure (c : Cf) (w x : Int) (hx : inUb x = true) : PureC Try.prog 74 [cv' c, iv w, u x] (iv (lSlot c w x)) := by
  refine pure_sub okLT 1 Try.func74 rfl (by show 3 ≤ _; decide) ?_
  cases h : lHas c w with
  | false => simp only [Try.f74, LT_all, top_neg, lSlot, h, cv', cf_eta, shC_dec, dC, T23, hfree_lu, hfree_l0, row0, row1, row2, row3, row4, row5, shI_dec, shN_dec, shB_dec, shM_dec, dI, dN, dB, dM, dU, dU_map, iv, bv, u, ms, ctx_T, ctx_C, ctx_P, T4, T3, T26, Option.bind_some, Option.bind_none, Option.map_some, List.length_map, List.length_set, String.reduceBEq, Int.toNat_natCast, Bool.true_beq, Bool.false_beq, ev1, ev2, implies_true, undef, stepP, drawB, stepL, lateB, lateB0, rdsT, rdsAny, isRd, afterL, preB, callLB, callLV, lateV, dstV, dynCall, ↓condE_t, ↓condE_f, ↓guardE_tt, ↓guardE_ff, ↓guardE_tf, ↓guardE_ft, frzDeep, deepArgs, deepArg, resB, cv, stepB, stepE, callD, tabD, snapD, snap1, snapC, snapId, snapIds, guardB, guardC, dstAt, aopR, one, pre, binR, intOpR, shiftOpR, unR, argFrm, evo, lkp, hlk, lenOf, asLst, idOf, bndA, srcOk, ofVal, ofCells, setCells, fillA, setElems, fieldsOf, fieldsEq, scalEq, isEq, AV.wr, AV.ok1, TK.agg, frz, frzs, frzA, frzArg, frzArgs, subA, subL, sub1, kp, kh, accOf, List.replicate, Nat.reduceAdd, Nat.reduceSub, Nat.reduceMul, Nat.reduceEqDiff, Nat.reduceLT, Nat.reduceLeDiff, Nat.reduceBEq, reduceIte, reduceCtorEq, eq_self, ne_eq, Int.reduceToNat, Int.reduceLT, Int.reduceLE, Int.reduceGT, Int.reduceGE, Int.reduceBEq, Int.reduceBNe, Int.reduceEq, Int.reduceNe]
  | true =>
    obtain ⟨h0, h1, h2, h3, h4, h5, b1, b3, d1, d2, d3, dd⟩ := at_ok h
    have e : lTop c w = lBase c w := by simp [lTop, h]
    have e0 : ¬ lBase c w < 0 := by have := (base_ok (has_iff.1 h).1 h0 h1).e6; omega
    have a := mayC_iff.1 (has_iff.1 h).1
    have hu := inUb_iff.1 hx
    unfold InU at hu
    have s4 : x.tmod c.d = x % 18446744073709551616 % c.d := by
      rw [Int.tmod_eq_emod_of_nonneg hu.1]
      congr 1
      omega
    have s0 : 0 ≤ x % 18446744073709551616 % c.d ∧ x % 18446744073709551616 % c.d < 16 := by rcases a.2.2.1 with e | e | e | e | e <;> rw [e] <;> omega
    have s5 : IntKind.wrap .i64 (x % 18446744073709551616 % c.d) = x % 18446744073709551616 % c.d := wrap_i (by omega) (by omega)
    have s6 : IntKind.wrap .i64 (lBase c w + 3 + x % 18446744073709551616 % c.d) = lBase c w + 3 + x % 18446744073709551616 % c.d := by
      obtain ⟨b1, b2⟩ := (base_ok (has_iff.1 h).1 h0 h1).e6
      exact wrap_i (by omega) (by omega)
    simp only [Try.f74, LT_all, e, e0, b1, b3, d3, dd, s4, s5, s6, lSlot, h, cv', cf_eta, shC_dec, dC, T23, hfree_lu, hfree_l0, row0, row1, row2, row3, row4, row5, shI_dec, shN_dec, shB_dec, shM_dec, dI, dN, dB, dM, dU, dU_map, iv, bv, u, ms, ctx_T, ctx_C, ctx_P, T4, T3, T26, Option.bind_some, Option.bind_none, Option.map_some, List.length_map, List.length_set, String.reduceBEq, Int.toNat_natCast, Bool.true_beq, Bool.false_beq, ev1, ev2, implies_true, undef, stepP, drawB, stepL, lateB, lateB0, rdsT, rdsAny, isRd, afterL, preB, callLB, callLV, lateV, dstV, dynCall, ↓condE_t, ↓condE_f, ↓guardE_tt, ↓guardE_ff, ↓guardE_tf, ↓guardE_ft, frzDeep, deepArgs, deepArg, resB, cv, stepB, stepE, callD, tabD, snapD, snap1, snapC, snapId, snapIds, guardB, guardC, dstAt, aopR, one, pre, binR, intOpR, shiftOpR, unR, argFrm, evo, lkp, hlk, lenOf, asLst, idOf, bndA, srcOk, ofVal, ofCells, setCells, fillA, setElems, fieldsOf, fieldsEq, scalEq, isEq, AV.wr, AV.ok1, TK.agg, frz, frzs, frzA, frzArg, frzArgs, subA, subL, sub1, kp, kh, accOf, List.replicate, Nat.reduceAdd, Nat.reduceSub, Nat.reduceMul, Nat.reduceEqDiff, Nat.reduceLT, Nat.reduceLeDiff, Nat.reduceBEq, reduceIte, reduceCtorEq, eq_self, ne_eq, Int.reduceToNat, Int.reduceLT, Int.reduceLE, Int.reduceGT, Int.reduceGE, Int.reduceBEq, Int.reduceBNe, Int.reduceEq, Int.reduceNe]

theorem new_pure (c : Cf) : PureC Try.prog 34 [cv' c] (ms (zeros (lSize c).toNat)) := by
  refine pure_sub okLT 1 Try.func34 rfl (by show 1 ≤ _; decide) ?_
  simp only [Try.f34, LT_all, cv', cf_eta, shC_dec, dC, T23, T25, hfree_lu, hfree_l0, row0, row1, row2, row3, row4, row5, shI_dec, shN_dec, shB_dec, shM_dec, dI, dN, dB, dM, dU, dU_map, iv, bv, u, ms, ctx_T, ctx_C, ctx_P, T4, T3, T26, Option.bind_some, Option.bind_none, Option.map_some, List.length_map, List.length_set, String.reduceBEq, Int.toNat_natCast, Bool.true_beq, Bool.false_beq, ev1, ev2, implies_true, undef, stepP, drawB, stepL, lateB, lateB0, rdsT, rdsAny, isRd, afterL, preB, callLB, callLV, lateV, dstV, dynCall, ↓condE_t, ↓condE_f, ↓guardE_tt, ↓guardE_ff, ↓guardE_tf, ↓guardE_ft, frzDeep, deepArgs, deepArg, resB, cv, stepB, stepE, callD, tabD, snapD, snap1, snapC, snapId, snapIds, guardB, guardC, dstAt, aopR, one, pre, binR, intOpR, shiftOpR, unR, argFrm, evo, lkp, hlk, lenOf, asLst, idOf, bndA, srcOk, ofVal, ofCells, setCells, fillA, setElems, fieldsOf, fieldsEq, scalEq, isEq, AV.wr, AV.ok1, TK.agg, frz, frzs, frzA, frzArg, frzArgs, subA, subL, sub1, kp, kh, accOf, List.replicate, Nat.reduceAdd, Nat.reduceSub, Nat.reduceMul, Nat.reduceEqDiff, Nat.reduceLT, Nat.reduceLeDiff, Nat.reduceBEq, reduceIte, reduceCtorEq, eq_self, ne_eq, Int.reduceToNat, Int.reduceLT, Int.reduceLE, Int.reduceGT, Int.reduceGE, Int.reduceBEq, Int.reduceBNe, Int.reduceEq, Int.reduceNe]
  refine WP.virt 3 26 1 rfl (by decide) ?_
  have hs : 0 ≤ lSize c ∧ lSize c ≤ 1000 := by
    unfold lSize
    split
    · rename_i hm
      have a := mayC_iff.1 hm
      have := (base_ok (w := c.w) hm (by omega) (by omega)).e6
      omega
    · omega
  refine WP.loop (fun j : Nat × Nat => (lSize c).toNat - j.1) (fun j => j.1 ≤ (lSize c).toNat) (n := 13) (fr := fun j => [(6, iv j.1), (5, iv (lSize c)), (3, .arr j.2 0 j.1)])
    (hp := fun j => [(j.2, some ⟨false, 26, 1, (zeros j.1).map u⟩)]) (N := 0) ?_ (0, 6) (Nat.zero_le _) rfl (Nat.zero_le _) ⟨rfl, rfl, rfl, trivial⟩ ⟨rfl, trivial⟩
  rintro ⟨i, id⟩ nx h4 _ hid
  dsimp only at h4 hid ⊢
  have n1 : id < nx := hid id _ (hlk_hd ..)
  refine WP.of okLT 1 (by rfl) ?_
  by_cases hi : i < (lSize c).toNat
  · have hz : (i : Int) < lSize c := by omega
    have w : IntKind.wrap .i64 ((i : Int) + 1) = ((i + 1 : Nat) : Int) := by rw [wrap_i (by omega) (by omega)]; omega
    have e1 : ((zeros i).map u).take i = (zeros i).map u := List.take_of_length_le (by simp [zeros_len])
    have hb : (i + 1) * 8 ≤ 140737488355328 := by omega
    have hle : i ≤ i := Nat.le_refl _
    simp only [LT_all, hz, w, e1, hb, hle, n1, snoc_u, zeros_succ, zeros_len, nb_self, nb_same, nb_l0, nb_r0, nb_lt, nb_gt, nb_lt0, nb_gt0, Nat.add_assoc, T25, hfree_lu, hfree_l0, row0, row1, row2, row3, row4, row5, shI_dec, shN_dec, shB_dec, shM_dec, dI, dN, dB, dM, dU, dU_map, iv, bv, u, ms, ctx_T, ctx_C, ctx_P, T4, T3, T26, Option.bind_some, Option.bind_none, Option.map_some, List.length_map, List.length_set, String.reduceBEq, Int.toNat_natCast, Bool.true_beq, Bool.false_beq, ev1, ev2, implies_true, undef, stepP, drawB, stepL, lateB, lateB0, rdsT, rdsAny, isRd, afterL, preB, callLB, callLV, lateV, dstV, dynCall, ↓condE_t, ↓condE_f, ↓guardE_tt, ↓guardE_ff, ↓guardE_tf, ↓guardE_ft, frzDeep, deepArgs, deepArg, resB, cv, stepB, stepE, callD, tabD, snapD, snap1, snapC, snapId, snapIds, guardB, guardC, dstAt, aopR, one, pre, binR, intOpR, shiftOpR, unR, argFrm, evo, lkp, hlk, lenOf, asLst, idOf, bndA, srcOk, ofVal, ofCells, setCells, fillA, setElems, fieldsOf, fieldsEq, scalEq, isEq, AV.wr, AV.ok1, TK.agg, frz, frzs, frzA, frzArg, frzArgs, subA, subL, sub1, kp, kh, accOf, List.replicate, Nat.reduceAdd, Nat.reduceSub, Nat.reduceMul, Nat.reduceEqDiff, Nat.reduceLT, Nat.reduceLeDiff, Nat.reduceBEq, reduceIte, reduceCtorEq, eq_self, ne_eq, Int.reduceToNat, Int.reduceLT, Int.reduceLE, Int.reduceGT, Int.reduceGE, Int.reduceBEq, Int.reduceBNe, Int.reduceEq, Int.reduceNe]
    exact ⟨(i + 1, nx + 3), by dsimp only; omega, by dsimp only; omega, ⟨rfl, rfl⟩, by simp only [nb_self]⟩
  · have e : i = (lSize c).toNat := by omega
    have hz : ¬ (i : Int) < lSize c := by omega
    subst e
    have hle : (lSize c).toNat ≤ (lSize c).toNat := Nat.le_refl _
    have e1 : ((zeros (lSize c).toNat).map u).take (lSize c).toNat = (zeros (lSize c).toNat).map u := List.take_of_length_le (by simp [zeros_len])
    simp only [LT_all, hz, n1, hle, e1, zeros_len, hf_u, Nat.add_zero, nb_self, nb_same, nb_l0, nb_r0, nb_lt, nb_gt, nb_lt0, nb_gt0, Nat.add_assoc, T25, hfree_lu, hfree_l0, row0, row1, row2, row3, row4, row5, shI_dec, shN_dec, shB_dec, shM_dec, dI, dN, dB, dM, dU, dU_map, iv, bv, u, ms, ctx_T, ctx_C, ctx_P, T4, T3, T26, Option.bind_some, Option.bind_none, Option.map_some, List.length_map, List.length_set, String.reduceBEq, Int.toNat_natCast, Bool.true_beq, Bool.false_beq, ev1, ev2, implies_true, undef, stepP, drawB, stepL, lateB, lateB0, rdsT, rdsAny, isRd, afterL, preB, callLB, callLV, lateV, dstV, dynCall, ↓condE_t, ↓condE_f, ↓guardE_tt, ↓guardE_ff, ↓guardE_tf, ↓guardE_ft, frzDeep, deepArgs, deepArg, resB, cv, stepB, stepE, callD, tabD, snapD, snap1, snapC, snapId, snapIds, guardB, guardC, dstAt, aopR, one, pre, binR, intOpR, shiftOpR, unR, argFrm, evo, lkp, hlk, lenOf, asLst, idOf, bndA, srcOk, ofVal, ofCells, setCells, fillA, setElems, fieldsOf, fieldsEq, scalEq, isEq, AV.wr, AV.ok1, TK.agg, frz, frzs, frzA, frzArg, frzArgs, subA, subL, sub1, kp, kh, accOf, List.replicate, Nat.reduceAdd, Nat.reduceSub, Nat.reduceMul, Nat.reduceEqDiff, Nat.reduceLT, Nat.reduceLeDiff, Nat.reduceBEq, reduceIte, reduceCtorEq, eq_self, ne_eq, Int.reduceToNat, Int.reduceLT, Int.reduceLE, Int.reduceGT, Int.reduceGE, Int.reduceBEq, Int.reduceBNe, Int.reduceEq, Int.reduceNe]
end Go.Vai
/- What a call does at once. -/
namespace Go.Vai
open Go.RowKit Go.Proofs
set_option linter.unusedSimpArgs false
set_option linter.unusedVariables false
set_option maxHeartbeats 4000000
set_option maxRecDepth 100000

theorem hfree_fr (a b c d e g h : Int) : HFree (.agg [.v (.int .i64 a), .v (.int .i64 b), .v (.int .i64 c), .v (.int .u64 d), .v (.int .u64 e), .v (.int .u64 g), .v (.int .i64 h)]) = True := eq_true (hfree_fv ⟨a, b, c, d, e, g, h⟩)
/-- What it is by the numbers. -/
def fOnce (l : List Int) (room : Int) (f : Fr) : List Int × Fr :=
  if f.res ≠ 0 ∨ f.op < 0 ∨ 4 < f.op then (l, f)
  else if f.op = 0 ∨ f.op = 3 then (if room ≤ l.length then (l, fEnd f 2 f.val) else (l ++ [f.val], fEnd f 1 f.val))
  else if l = [] then (l, fEnd f 3 0)
  else if f.op = 1 then (l.take (l.length - 1), fEnd f 1 (l.getD (l.length - 1) 0))
  else (l.drop 1, fEnd f 1 (l.getD 0 0))

section
variable {l : List Int} {room : Int} {op pc who val x y res : Int}

theorem once_put (hl : l.length ≤ 1000) (hres : (res != 0) = false) (hop : op = 0 ∨ op = 3) (hr : ¬ (l.length : Int) ≥ room) :
    PureC Try.prog 24 [ms l, iv room, fv ⟨op, pc, who, val, x, y, res⟩] (.tup [ms (l ++ [val]), fv (fEnd ⟨op, pc, who, val, x, y, res⟩ 1 val)]) := by
  refine pure_sub okF 3 Try.func24 rfl (by show 3 ≤ _; decide) ?_
  have hb : l.length * 8 ≤ 140737488355328 := by omega
  have hb2 : (l.length + 1) * 8 ≤ 140737488355328 := by omega
  have hle : l.length ≤ l.length := Nat.le_refl _
  have hle2 : l.length + 1 ≤ l.length + 1 := Nat.le_refl _
  cases l with
  | nil =>
    have hr' : ¬ ((0 : Nat) : Int) ≥ room := hr
    rcases hop with rfl | rfl <;> simp only [Try.f24, Try.func52, Try.f52, Try.func53, Try.f53, Try.func54, Try.f54, Try.func51, Try.f51, inl, F_all, fv, fEnd, hr', hres, hfree_fr, hf_0, hf_1, T71, T52, T28, hfree_lu, hfree_l0, row0, row1, row2, row3, row4, row5, shI_dec, shN_dec, shB_dec, shM_dec, dI, dN, dB, dM, dU, dU_map, iv, bv, u, ms, ctx_T, ctx_C, ctx_P, T4, T3, T26, Option.bind_some, Option.bind_none, Option.map_some, List.length_map, List.length_set, String.reduceBEq, Int.toNat_natCast, Bool.true_beq, Bool.false_beq, T24, shF_dec, dF, fr_eta, ev1, ev2, implies_true, undef, stepP, drawB, stepL, lateB, lateB0, rdsT, rdsAny, isRd, afterL, preB, callLB, callLV, lateV, dstV, dynCall, ↓condE_t, ↓condE_f, ↓guardE_tt, ↓guardE_ff, ↓guardE_tf, ↓guardE_ft, frzDeep, deepArgs, deepArg, resB, cv, stepB, stepE, callD, tabD, snapD, snap1, snapC, snapId, snapIds, guardB, guardC, dstAt, aopR, one, pre, binR, intOpR, shiftOpR, unR, argFrm, evo, lkp, hlk, lenOf, asLst, idOf, bndA, srcOk, ofVal, ofCells, setCells, fillA, setElems, fieldsOf, fieldsEq, scalEq, isEq, AV.wr, AV.ok1, TK.agg, frz, frzs, frzA, frzArg, frzArgs, subA, subL, sub1, kp, kh, accOf, List.replicate, Nat.reduceAdd, Nat.reduceSub, Nat.reduceMul, Nat.reduceEqDiff, Nat.reduceLT, Nat.reduceLeDiff, Nat.reduceBEq, reduceIte, reduceCtorEq, eq_self, ne_eq, Int.reduceToNat, Int.reduceLT, Int.reduceLE, Int.reduceGT, Int.reduceGE, Int.reduceBEq, Int.reduceBNe, Int.reduceEq, Int.reduceNe] <;> all_goals ((repeat' apply And.intro) <;> first | rfl | omega | (show entryOk _ _ _ _ _ = true; kernel_rfl) | (show pivotOk _ _ = true; kernel_rfl) | decide)
  | cons a l =>
    have hn : ((a :: l).map u = []) = False := eq_false (by simp)
    generalize a :: l = l at *
    rcases hop with rfl | rfl <;> simp only [Try.f24, Try.func52, Try.f52, Try.func53, Try.f53, Try.func54, Try.f54, Try.func51, Try.f51, inl, F_all, fv, fEnd, hb, hb2, hle, hle2, hl, hn, hres, hr, hfree_fr, snoc_u, take_snoc, len_snoc, take_u, hf_u, T28, T71, T52, hfree_lu, hfree_l0, row0, row1, row2, row3, row4, row5, shI_dec, shN_dec, shB_dec, shM_dec, dI, dN, dB, dM, dU, dU_map, iv, bv, u, ms, ctx_T, ctx_C, ctx_P, T4, T3, T26, Option.bind_some, Option.bind_none, Option.map_some, List.length_map, List.length_set, String.reduceBEq, Int.toNat_natCast, Bool.true_beq, Bool.false_beq, T24, shF_dec, dF, fr_eta, ev1, ev2, implies_true, undef, stepP, drawB, stepL, lateB, lateB0, rdsT, rdsAny, isRd, afterL, preB, callLB, callLV, lateV, dstV, dynCall, ↓condE_t, ↓condE_f, ↓guardE_tt, ↓guardE_ff, ↓guardE_tf, ↓guardE_ft, frzDeep, deepArgs, deepArg, resB, cv, stepB, stepE, callD, tabD, snapD, snap1, snapC, snapId, snapIds, guardB, guardC, dstAt, aopR, one, pre, binR, intOpR, shiftOpR, unR, argFrm, evo, lkp, hlk, lenOf, asLst, idOf, bndA, srcOk, ofVal, ofCells, setCells, fillA, setElems, fieldsOf, fieldsEq, scalEq, isEq, AV.wr, AV.ok1, TK.agg, frz, frzs, frzA, frzArg, frzArgs, subA, subL, sub1, kp, kh, accOf, List.replicate, Nat.reduceAdd, Nat.reduceSub, Nat.reduceMul, Nat.reduceEqDiff, Nat.reduceLT, Nat.reduceLeDiff, Nat.reduceBEq, reduceIte, reduceCtorEq, eq_self, ne_eq, Int.reduceToNat, Int.reduceLT, Int.reduceLE, Int.reduceGT, Int.reduceGE, Int.reduceBEq, Int.reduceBNe, Int.reduceEq, Int.reduceNe] <;> all_goals ((repeat' apply And.intro) <;> first | rfl | omega | (show entryOk _ _ _ _ _ = true; kernel_rfl) | (show pivotOk _ _ = true; kernel_rfl) | decide)

theorem once_full (hl : l.length ≤ 1000) (hres : (res != 0) = false) (hop : op = 0 ∨ op = 3) (hr : (l.length : Int) ≥ room) :
    PureC Try.prog 24 [ms l, iv room, fv ⟨op, pc, who, val, x, y, res⟩] (.tup [ms l, fv (fEnd ⟨op, pc, who, val, x, y, res⟩ 2 val)]) := by
  refine pure_sub okF 3 Try.func24 rfl (by show 3 ≤ _; decide) ?_
  have hb : l.length * 8 ≤ 140737488355328 := by omega
  have hle : l.length ≤ l.length := Nat.le_refl _
  cases l with
  | nil =>
    have hr' : ((0 : Nat) : Int) ≥ room := hr
    rcases hop with rfl | rfl <;> simp only [Try.f24, Try.func52, Try.f52, Try.func53, Try.f53, Try.func54, Try.f54, Try.func51, Try.f51, inl, F_all, fv, fEnd, hr', hres, hfree_fr, hf_0, hf_1, T71, T52, T28, hfree_lu, hfree_l0, row0, row1, row2, row3, row4, row5, shI_dec, shN_dec, shB_dec, shM_dec, dI, dN, dB, dM, dU, dU_map, iv, bv, u, ms, ctx_T, ctx_C, ctx_P, T4, T3, T26, Option.bind_some, Option.bind_none, Option.map_some, List.length_map, List.length_set, String.reduceBEq, Int.toNat_natCast, Bool.true_beq, Bool.false_beq, T24, shF_dec, dF, fr_eta, ev1, ev2, implies_true, undef, stepP, drawB, stepL, lateB, lateB0, rdsT, rdsAny, isRd, afterL, preB, callLB, callLV, lateV, dstV, dynCall, ↓condE_t, ↓condE_f, ↓guardE_tt, ↓guardE_ff, ↓guardE_tf, ↓guardE_ft, frzDeep, deepArgs, deepArg, resB, cv, stepB, stepE, callD, tabD, snapD, snap1, snapC, snapId, snapIds, guardB, guardC, dstAt, aopR, one, pre, binR, intOpR, shiftOpR, unR, argFrm, evo, lkp, hlk, lenOf, asLst, idOf, bndA, srcOk, ofVal, ofCells, setCells, fillA, setElems, fieldsOf, fieldsEq, scalEq, isEq, AV.wr, AV.ok1, TK.agg, frz, frzs, frzA, frzArg, frzArgs, subA, subL, sub1, kp, kh, accOf, List.replicate, Nat.reduceAdd, Nat.reduceSub, Nat.reduceMul, Nat.reduceEqDiff, Nat.reduceLT, Nat.reduceLeDiff, Nat.reduceBEq, reduceIte, reduceCtorEq, eq_self, ne_eq, Int.reduceToNat, Int.reduceLT, Int.reduceLE, Int.reduceGT, Int.reduceGE, Int.reduceBEq, Int.reduceBNe, Int.reduceEq, Int.reduceNe] <;> all_goals ((repeat' apply And.intro) <;> first | rfl | omega | (show entryOk _ _ _ _ _ = true; kernel_rfl) | (show pivotOk _ _ = true; kernel_rfl) | decide)
  | cons a l =>
    have hn : ((a :: l).map u = []) = False := eq_false (by simp)
    generalize a :: l = l at *
    rcases hop with rfl | rfl <;> simp only [Try.f24, Try.func52, Try.f52, Try.func53, Try.f53, Try.func54, Try.f54, Try.func51, Try.f51, inl, F_all, fv, fEnd, hb, hle, hl, hn, hres, hr, hfree_fr, take_u, hf_u, T28, T71, T52, hfree_lu, hfree_l0, row0, row1, row2, row3, row4, row5, shI_dec, shN_dec, shB_dec, shM_dec, dI, dN, dB, dM, dU, dU_map, iv, bv, u, ms, ctx_T, ctx_C, ctx_P, T4, T3, T26, Option.bind_some, Option.bind_none, Option.map_some, List.length_map, List.length_set, String.reduceBEq, Int.toNat_natCast, Bool.true_beq, Bool.false_beq, T24, shF_dec, dF, fr_eta, ev1, ev2, implies_true, undef, stepP, drawB, stepL, lateB, lateB0, rdsT, rdsAny, isRd, afterL, preB, callLB, callLV, lateV, dstV, dynCall, ↓condE_t, ↓condE_f, ↓guardE_tt, ↓guardE_ff, ↓guardE_tf, ↓guardE_ft, frzDeep, deepArgs, deepArg, resB, cv, stepB, stepE, callD, tabD, snapD, snap1, snapC, snapId, snapIds, guardB, guardC, dstAt, aopR, one, pre, binR, intOpR, shiftOpR, unR, argFrm, evo, lkp, hlk, lenOf, asLst, idOf, bndA, srcOk, ofVal, ofCells, setCells, fillA, setElems, fieldsOf, fieldsEq, scalEq, isEq, AV.wr, AV.ok1, TK.agg, frz, frzs, frzA, frzArg, frzArgs, subA, subL, sub1, kp, kh, accOf, List.replicate, Nat.reduceAdd, Nat.reduceSub, Nat.reduceMul, Nat.reduceEqDiff, Nat.reduceLT, Nat.reduceLeDiff, Nat.reduceBEq, reduceIte, reduceCtorEq, eq_self, ne_eq, Int.reduceToNat, Int.reduceLT, Int.reduceLE, Int.reduceGT, Int.reduceGE, Int.reduceBEq, Int.reduceBNe, Int.reduceEq, Int.reduceNe] <;> all_goals ((repeat' apply And.intro) <;> first | rfl | omega | (show entryOk _ _ _ _ _ = true; kernel_rfl) | (show pivotOk _ _ = true; kernel_rfl) | decide)

theorem once_no (hl : l.length ≤ 1000) (h : res ≠ 0 ∨ op < 0 ∨ 4 < op) :
    PureC Try.prog 24 [ms l, iv room, fv ⟨op, pc, who, val, x, y, res⟩] (.tup [ms l, fv ⟨op, pc, who, val, x, y, res⟩]) := by
  refine pure_sub okF 3 Try.func24 rfl (by show 3 ≤ _; decide) ?_
  have hb : l.length * 8 ≤ 140737488355328 := by omega
  have hle : l.length ≤ l.length := Nat.le_refl _
  have hn : ∀ (a : Int) (l : List Int), ((a :: l).map u = []) = False := fun a l => eq_false (by simp)
  by_cases hres : res = 0
  · have h1 : (res != 0) = false := by simpa using hres
    by_cases h2 : op < 0
    · cases l with
      | nil => simp only [Try.f24, Try.func52, Try.f52, Try.func53, Try.f53, Try.func54, Try.f54, Try.func51, Try.f51, inl, F_all, fv, fEnd, h1, h2, hfree_fr, hf_0, hf_1, T71, T52, T28, hfree_lu, hfree_l0, row0, row1, row2, row3, row4, row5, shI_dec, shN_dec, shB_dec, shM_dec, dI, dN, dB, dM, dU, dU_map, iv, bv, u, ms, ctx_T, ctx_C, ctx_P, T4, T3, T26, Option.bind_some, Option.bind_none, Option.map_some, List.length_map, List.length_set, String.reduceBEq, Int.toNat_natCast, Bool.true_beq, Bool.false_beq, T24, shF_dec, dF, fr_eta, ev1, ev2, implies_true, undef, stepP, drawB, stepL, lateB, lateB0, rdsT, rdsAny, isRd, afterL, preB, callLB, callLV, lateV, dstV, dynCall, ↓condE_t, ↓condE_f, ↓guardE_tt, ↓guardE_ff, ↓guardE_tf, ↓guardE_ft, frzDeep, deepArgs, deepArg, resB, cv, stepB, stepE, callD, tabD, snapD, snap1, snapC, snapId, snapIds, guardB, guardC, dstAt, aopR, one, pre, binR, intOpR, shiftOpR, unR, argFrm, evo, lkp, hlk, lenOf, asLst, idOf, bndA, srcOk, ofVal, ofCells, setCells, fillA, setElems, fieldsOf, fieldsEq, scalEq, isEq, AV.wr, AV.ok1, TK.agg, frz, frzs, frzA, frzArg, frzArgs, subA, subL, sub1, kp, kh, accOf, List.replicate, Nat.reduceAdd, Nat.reduceSub, Nat.reduceMul, Nat.reduceEqDiff, Nat.reduceLT, Nat.reduceLeDiff, Nat.reduceBEq, reduceIte, reduceCtorEq, eq_self, ne_eq, Int.reduceToNat, Int.reduceLT, Int.reduceLE, Int.reduceGT, Int.reduceGE, Int.reduceBEq, Int.reduceBNe, Int.reduceEq, Int.reduceNe] <;> all_goals ((repeat' apply And.intro) <;> first | rfl | omega | (show entryOk _ _ _ _ _ = true; kernel_rfl) | (show pivotOk _ _ = true; kernel_rfl) | decide)
      | cons a l =>
        have hn := hn a l
        generalize a :: l = l at *
        simp only [Try.f24, Try.func52, Try.f52, Try.func53, Try.f53, Try.func54, Try.f54, Try.func51, Try.f51, inl, F_all, fv, fEnd, hb, hle, hl, hn, h1, h2, hfree_fr, take_u, hf_u, T28, T71, T52, hfree_lu, hfree_l0, row0, row1, row2, row3, row4, row5, shI_dec, shN_dec, shB_dec, shM_dec, dI, dN, dB, dM, dU, dU_map, iv, bv, u, ms, ctx_T, ctx_C, ctx_P, T4, T3, T26, Option.bind_some, Option.bind_none, Option.map_some, List.length_map, List.length_set, String.reduceBEq, Int.toNat_natCast, Bool.true_beq, Bool.false_beq, T24, shF_dec, dF, fr_eta, ev1, ev2, implies_true, undef, stepP, drawB, stepL, lateB, lateB0, rdsT, rdsAny, isRd, afterL, preB, callLB, callLV, lateV, dstV, dynCall, ↓condE_t, ↓condE_f, ↓guardE_tt, ↓guardE_ff, ↓guardE_tf, ↓guardE_ft, frzDeep, deepArgs, deepArg, resB, cv, stepB, stepE, callD, tabD, snapD, snap1, snapC, snapId, snapIds, guardB, guardC, dstAt, aopR, one, pre, binR, intOpR, shiftOpR, unR, argFrm, evo, lkp, hlk, lenOf, asLst, idOf, bndA, srcOk, ofVal, ofCells, setCells, fillA, setElems, fieldsOf, fieldsEq, scalEq, isEq, AV.wr, AV.ok1, TK.agg, frz, frzs, frzA, frzArg, frzArgs, subA, subL, sub1, kp, kh, accOf, List.replicate, Nat.reduceAdd, Nat.reduceSub, Nat.reduceMul, Nat.reduceEqDiff, Nat.reduceLT, Nat.reduceLeDiff, Nat.reduceBEq, reduceIte, reduceCtorEq, eq_self, ne_eq, Int.reduceToNat, Int.reduceLT, Int.reduceLE, Int.reduceGT, Int.reduceGE, Int.reduceBEq, Int.reduceBNe, Int.reduceEq, Int.reduceNe] <;> all_goals ((repeat' apply And.intro) <;> first | rfl | omega | (show entryOk _ _ _ _ _ = true; kernel_rfl) | (show pivotOk _ _ = true; kernel_rfl) | decide)
    · have h3 : op > 4 := by omega
      cases l with
      | nil => simp only [Try.f24, Try.func52, Try.f52, Try.func53, Try.f53, Try.func54, Try.f54, Try.func51, Try.f51, inl, F_all, fv, fEnd, h1, h2, h3, hfree_fr, hf_0, hf_1, T71, T52, T28, hfree_lu, hfree_l0, row0, row1, row2, row3, row4, row5, shI_dec, shN_dec, shB_dec, shM_dec, dI, dN, dB, dM, dU, dU_map, iv, bv, u, ms, ctx_T, ctx_C, ctx_P, T4, T3, T26, Option.bind_some, Option.bind_none, Option.map_some, List.length_map, List.length_set, String.reduceBEq, Int.toNat_natCast, Bool.true_beq, Bool.false_beq, T24, shF_dec, dF, fr_eta, ev1, ev2, implies_true, undef, stepP, drawB, stepL, lateB, lateB0, rdsT, rdsAny, isRd, afterL, preB, callLB, callLV, lateV, dstV, dynCall, ↓condE_t, ↓condE_f, ↓guardE_tt, ↓guardE_ff, ↓guardE_tf, ↓guardE_ft, frzDeep, deepArgs, deepArg, resB, cv, stepB, stepE, callD, tabD, snapD, snap1, snapC, snapId, snapIds, guardB, guardC, dstAt, aopR, one, pre, binR, intOpR, shiftOpR, unR, argFrm, evo, lkp, hlk, lenOf, asLst, idOf, bndA, srcOk, ofVal, ofCells, setCells, fillA, setElems, fieldsOf, fieldsEq, scalEq, isEq, AV.wr, AV.ok1, TK.agg, frz, frzs, frzA, frzArg, frzArgs, subA, subL, sub1, kp, kh, accOf, List.replicate, Nat.reduceAdd, Nat.reduceSub, Nat.reduceMul, Nat.reduceEqDiff, Nat.reduceLT, Nat.reduceLeDiff, Nat.reduceBEq, reduceIte, reduceCtorEq, eq_self, ne_eq, Int.reduceToNat, Int.reduceLT, Int.reduceLE, Int.reduceGT, Int.reduceGE, Int.reduceBEq, Int.reduceBNe, Int.reduceEq, Int.reduceNe] <;> all_goals ((repeat' apply And.intro) <;> first | rfl | omega | (show entryOk _ _ _ _ _ = true; kernel_rfl) | (show pivotOk _ _ = true; kernel_rfl) | decide)
      | cons a l =>
        have hn := hn a l
        generalize a :: l = l at *
        simp only [Try.f24, Try.func52, Try.f52, Try.func53, Try.f53, Try.func54, Try.f54, Try.func51, Try.f51, inl, F_all, fv, fEnd, hb, hle, hl, hn, h1, h2, h3, hfree_fr, take_u, hf_u, T28, T71, T52, hfree_lu, hfree_l0, row0, row1, row2, row3, row4, row5, shI_dec, shN_dec, shB_dec, shM_dec, dI, dN, dB, dM, dU, dU_map, iv, bv, u, ms, ctx_T, ctx_C, ctx_P, T4, T3, T26, Option.bind_some, Option.bind_none, Option.map_some, List.length_map, List.length_set, String.reduceBEq, Int.toNat_natCast, Bool.true_beq, Bool.false_beq, T24, shF_dec, dF, fr_eta, ev1, ev2, implies_true, undef, stepP, drawB, stepL, lateB, lateB0, rdsT, rdsAny, isRd, afterL, preB, callLB, callLV, lateV, dstV, dynCall, ↓condE_t, ↓condE_f, ↓guardE_tt, ↓guardE_ff, ↓guardE_tf, ↓guardE_ft, frzDeep, deepArgs, deepArg, resB, cv, stepB, stepE, callD, tabD, snapD, snap1, snapC, snapId, snapIds, guardB, guardC, dstAt, aopR, one, pre, binR, intOpR, shiftOpR, unR, argFrm, evo, lkp, hlk, lenOf, asLst, idOf, bndA, srcOk, ofVal, ofCells, setCells, fillA, setElems, fieldsOf, fieldsEq, scalEq, isEq, AV.wr, AV.ok1, TK.agg, frz, frzs, frzA, frzArg, frzArgs, subA, subL, sub1, kp, kh, accOf, List.replicate, Nat.reduceAdd, Nat.reduceSub, Nat.reduceMul, Nat.reduceEqDiff, Nat.reduceLT, Nat.reduceLeDiff, Nat.reduceBEq, reduceIte, reduceCtorEq, eq_self, ne_eq, Int.reduceToNat, Int.reduceLT, Int.reduceLE, Int.reduceGT, Int.reduceGE, Int.reduceBEq, Int.reduceBNe, Int.reduceEq, Int.reduceNe] <;> all_goals ((repeat' apply And.intro) <;> first | rfl | omega | (show entryOk _ _ _ _ _ = true; kernel_rfl) | (show pivotOk _ _ = true; kernel_rfl) | decide)
  · have h1 : (res != 0) = true := by simpa using hres
    cases l with
    | nil => simp only [Try.f24, Try.func52, Try.f52, Try.func53, Try.f53, Try.func54, Try.f54, Try.func51, Try.f51, inl, F_all, fv, fEnd, h1, hfree_fr, hf_0, hf_1, T71, T52, T28, hfree_lu, hfree_l0, row0, row1, row2, row3, row4, row5, shI_dec, shN_dec, shB_dec, shM_dec, dI, dN, dB, dM, dU, dU_map, iv, bv, u, ms, ctx_T, ctx_C, ctx_P, T4, T3, T26, Option.bind_some, Option.bind_none, Option.map_some, List.length_map, List.length_set, String.reduceBEq, Int.toNat_natCast, Bool.true_beq, Bool.false_beq, T24, shF_dec, dF, fr_eta, ev1, ev2, implies_true, undef, stepP, drawB, stepL, lateB, lateB0, rdsT, rdsAny, isRd, afterL, preB, callLB, callLV, lateV, dstV, dynCall, ↓condE_t, ↓condE_f, ↓guardE_tt, ↓guardE_ff, ↓guardE_tf, ↓guardE_ft, frzDeep, deepArgs, deepArg, resB, cv, stepB, stepE, callD, tabD, snapD, snap1, snapC, snapId, snapIds, guardB, guardC, dstAt, aopR, one, pre, binR, intOpR, shiftOpR, unR, argFrm, evo, lkp, hlk, lenOf, asLst, idOf, bndA, srcOk, ofVal, ofCells, setCells, fillA, setElems, fieldsOf, fieldsEq, scalEq, isEq, AV.wr, AV.ok1, TK.agg, frz, frzs, frzA, frzArg, frzArgs, subA, subL, sub1, kp, kh, accOf, List.replicate, Nat.reduceAdd, Nat.reduceSub, Nat.reduceMul, Nat.reduceEqDiff, Nat.reduceLT, Nat.reduceLeDiff, Nat.reduceBEq, reduceIte, reduceCtorEq, eq_self, ne_eq, Int.reduceToNat, Int.reduceLT, Int.reduceLE, Int.reduceGT, Int.reduceGE, Int.reduceBEq, Int.reduceBNe, Int.reduceEq, Int.reduceNe] <;> all_goals ((repeat' apply And.intro) <;> first | rfl | omega | (show entryOk _ _ _ _ _ = true; kernel_rfl) | (show pivotOk _ _ = true; kernel_rfl) | decide)
    | cons a l =>
      have hn := hn a l
      generalize a :: l = l at *
      simp only [Try.f24, Try.func52, Try.f52, Try.func53, Try.f53, Try.func54, Try.f54, Try.func51, Try.f51, inl, F_all, fv, fEnd, hb, hle, hl, hn, h1, hfree_fr, take_u, hf_u, T28, T71, T52, hfree_lu, hfree_l0, row0, row1, row2, row3, row4, row5, shI_dec, shN_dec, shB_dec, shM_dec, dI, dN, dB, dM, dU, dU_map, iv, bv, u, ms, ctx_T, ctx_C, ctx_P, T4, T3, T26, Option.bind_some, Option.bind_none, Option.map_some, List.length_map, List.length_set, String.reduceBEq, Int.toNat_natCast, Bool.true_beq, Bool.false_beq, T24, shF_dec, dF, fr_eta, ev1, ev2, implies_true, undef, stepP, drawB, stepL, lateB, lateB0, rdsT, rdsAny, isRd, afterL, preB, callLB, callLV, lateV, dstV, dynCall, ↓condE_t, ↓condE_f, ↓guardE_tt, ↓guardE_ff, ↓guardE_tf, ↓guardE_ft, frzDeep, deepArgs, deepArg, resB, cv, stepB, stepE, callD, tabD, snapD, snap1, snapC, snapId, snapIds, guardB, guardC, dstAt, aopR, one, pre, binR, intOpR, shiftOpR, unR, argFrm, evo, lkp, hlk, lenOf, asLst, idOf, bndA, srcOk, ofVal, ofCells, setCells, fillA, setElems, fieldsOf, fieldsEq, scalEq, isEq, AV.wr, AV.ok1, TK.agg, frz, frzs, frzA, frzArg, frzArgs, subA, subL, sub1, kp, kh, accOf, List.replicate, Nat.reduceAdd, Nat.reduceSub, Nat.reduceMul, Nat.reduceEqDiff, Nat.reduceLT, Nat.reduceLeDiff, Nat.reduceBEq, reduceIte, reduceCtorEq, eq_self, ne_eq, Int.reduceToNat, Int.reduceLT, Int.reduceLE, Int.reduceGT, Int.reduceGE, Int.reduceBEq, Int.reduceBNe, Int.reduceEq, Int.reduceNe] <;> all_goals ((repeat' apply And.intro) <;> first | rfl | omega | (show entryOk _ _ _ _ _ = true; kernel_rfl) | (show pivotOk _ _ = true; kernel_rfl) | decide)

theorem once_empty (hres : (res != 0) = false) (hop : op = 1 ∨ op = 2 ∨ op = 4) :
    PureC Try.prog 24 [ms [], iv room, fv ⟨op, pc, who, val, x, y, res⟩] (.tup [ms [], fv (fEnd ⟨op, pc, who, val, x, y, res⟩ 3 0)]) := by
  refine pure_sub okF 3 Try.func24 rfl (by show 3 ≤ _; decide) ?_
  have hz : (((0 : Nat) : Int) == 0) = true := rfl
  have hw : IntKind.wrap .i64 (((0 : Nat) : Int) - 1) = -1 := rfl
  rcases hop with rfl | rfl | rfl <;> simp only [Try.f24, Try.func52, Try.f52, Try.func53, Try.f53, Try.func54, Try.f54, Try.func51, Try.f51, inl, F_all, fv, fEnd, hz, hw, hres, hfree_fr, hf_0, hf_1, T71, T52, T28, hfree_lu, hfree_l0, row0, row1, row2, row3, row4, row5, shI_dec, shN_dec, shB_dec, shM_dec, dI, dN, dB, dM, dU, dU_map, iv, bv, u, ms, ctx_T, ctx_C, ctx_P, T4, T3, T26, Option.bind_some, Option.bind_none, Option.map_some, List.length_map, List.length_set, String.reduceBEq, Int.toNat_natCast, Bool.true_beq, Bool.false_beq, T24, shF_dec, dF, fr_eta, ev1, ev2, implies_true, undef, stepP, drawB, stepL, lateB, lateB0, rdsT, rdsAny, isRd, afterL, preB, callLB, callLV, lateV, dstV, dynCall, ↓condE_t, ↓condE_f, ↓guardE_tt, ↓guardE_ff, ↓guardE_tf, ↓guardE_ft, frzDeep, deepArgs, deepArg, resB, cv, stepB, stepE, callD, tabD, snapD, snap1, snapC, snapId, snapIds, guardB, guardC, dstAt, aopR, one, pre, binR, intOpR, shiftOpR, unR, argFrm, evo, lkp, hlk, lenOf, asLst, idOf, bndA, srcOk, ofVal, ofCells, setCells, fillA, setElems, fieldsOf, fieldsEq, scalEq, isEq, AV.wr, AV.ok1, TK.agg, frz, frzs, frzA, frzArg, frzArgs, subA, subL, sub1, kp, kh, accOf, List.replicate, Nat.reduceAdd, Nat.reduceSub, Nat.reduceMul, Nat.reduceEqDiff, Nat.reduceLT, Nat.reduceLeDiff, Nat.reduceBEq, reduceIte, reduceCtorEq, eq_self, ne_eq, Int.reduceToNat, Int.reduceLT, Int.reduceLE, Int.reduceGT, Int.reduceGE, Int.reduceBEq, Int.reduceBNe, Int.reduceEq, Int.reduceNe] <;> all_goals ((repeat' apply And.intro) <;> first | rfl | omega | (show entryOk _ _ _ _ _ = true; kernel_rfl) | (show pivotOk _ _ = true; kernel_rfl) | decide)

theorem once_first (hl : l.length ≤ 1000) (hne : l ≠ []) (hres : (res != 0) = false) (hop : op = 2 ∨ op = 4) :
    PureC Try.prog 24 [ms l, iv room, fv ⟨op, pc, who, val, x, y, res⟩] (.tup [ms (l.drop 1), fv (fEnd ⟨op, pc, who, val, x, y, res⟩ 1 (l.getD 0 0))]) := by
  refine pure_sub okF 3 Try.func24 rfl (by show 3 ≤ _; decide) ?_
  have hb : l.length * 8 ≤ 140737488355328 := by omega
  have hle : l.length ≤ l.length := Nat.le_refl _
  have hpos : 0 < l.length := List.length_pos_iff.2 hne
  have hn : (l.map u = []) = False := eq_false (by simpa using hne)
  have hz : ((l.length : Int) == 0) = false := by
    have : ¬ (l.length : Int) = 0 := by omega
    simpa using this
  rcases hop with rfl | rfl <;> simp only [Try.f24, Try.func52, Try.f52, Try.func53, Try.f53, Try.func54, Try.f54, Try.func51, Try.f51, inl, F_all, fv, fEnd, hb, hle, hl, hn, hres, hz, hpos, hfree_fr, getD_u, take_u, drop_u, hf_u, T28, T71, T52, hfree_lu, hfree_l0, row0, row1, row2, row3, row4, row5, shI_dec, shN_dec, shB_dec, shM_dec, dI, dN, dB, dM, dU, dU_map, iv, bv, u, ms, ctx_T, ctx_C, ctx_P, T4, T3, T26, Option.bind_some, Option.bind_none, Option.map_some, List.length_map, List.length_set, String.reduceBEq, Int.toNat_natCast, Bool.true_beq, Bool.false_beq, T24, shF_dec, dF, fr_eta, ev1, ev2, implies_true, undef, stepP, drawB, stepL, lateB, lateB0, rdsT, rdsAny, isRd, afterL, preB, callLB, callLV, lateV, dstV, dynCall, ↓condE_t, ↓condE_f, ↓guardE_tt, ↓guardE_ff, ↓guardE_tf, ↓guardE_ft, frzDeep, deepArgs, deepArg, resB, cv, stepB, stepE, callD, tabD, snapD, snap1, snapC, snapId, snapIds, guardB, guardC, dstAt, aopR, one, pre, binR, intOpR, shiftOpR, unR, argFrm, evo, lkp, hlk, lenOf, asLst, idOf, bndA, srcOk, ofVal, ofCells, setCells, fillA, setElems, fieldsOf, fieldsEq, scalEq, isEq, AV.wr, AV.ok1, TK.agg, frz, frzs, frzA, frzArg, frzArgs, subA, subL, sub1, kp, kh, accOf, List.replicate, Nat.reduceAdd, Nat.reduceSub, Nat.reduceMul, Nat.reduceEqDiff, Nat.reduceLT, Nat.reduceLeDiff, Nat.reduceBEq, reduceIte, reduceCtorEq, eq_self, ne_eq, Int.reduceToNat, Int.reduceLT, Int.reduceLE, Int.reduceGT, Int.reduceGE, Int.reduceBEq, Int.reduceBNe, Int.reduceEq, Int.reduceNe] <;> all_goals ((repeat' apply And.intro) <;> first | rfl | omega | (show entryOk _ _ _ _ _ = true; kernel_rfl) | (show pivotOk _ _ = true; kernel_rfl) | decide)

theorem once_last (hl : l.length ≤ 1000) (hne : l ≠ []) (hres : (res != 0) = false) (hop : op = 1) :
    PureC Try.prog 24 [ms l, iv room, fv ⟨op, pc, who, val, x, y, res⟩] (.tup [ms (l.take (l.length - 1)), fv (fEnd ⟨op, pc, who, val, x, y, res⟩ 1 (l.getD (l.length - 1) 0))]) := by
  refine pure_sub okF 3 Try.func24 rfl (by show 3 ≤ _; decide) ?_
  have hb : l.length * 8 ≤ 140737488355328 := by omega
  have hle : l.length ≤ l.length := Nat.le_refl _
  have hpos : 0 < l.length := List.length_pos_iff.2 hne
  have hn : (l.map u = []) = False := eq_false (by simpa using hne)
  have hw : IntKind.wrap .i64 ((l.length : Int) - 1) = ((l.length - 1 : Nat) : Int) := by
    rw [show (l.length : Int) - 1 = ((l.length - 1 : Nat) : Int) by omega]
    exact wrap_i (by omega) (by omega)
  have h0 : ¬ ((l.length - 1 : Nat) : Int) < 0 := by omega
  have h1 : ((l.length - 1 : Nat) : Int) < (l.length : Int) := by omega
  have h2 : l.length - 1 < l.length := by omega
  subst hop
  simp only [Try.f24, Try.func52, Try.f52, Try.func53, Try.f53, Try.func54, Try.f54, Try.func51, Try.f51, inl, F_all, fv, fEnd, hb, hle, hl, hn, hres, hw, h0, h1, h2, hfree_fr, getD_u, take_u, takeL_u, drop_u, hf_u, T28, T71, T52, hfree_lu, hfree_l0, row0, row1, row2, row3, row4, row5, shI_dec, shN_dec, shB_dec, shM_dec, dI, dN, dB, dM, dU, dU_map, iv, bv, u, ms, ctx_T, ctx_C, ctx_P, T4, T3, T26, Option.bind_some, Option.bind_none, Option.map_some, List.length_map, List.length_set, String.reduceBEq, Int.toNat_natCast, Bool.true_beq, Bool.false_beq, T24, shF_dec, dF, fr_eta, ev1, ev2, implies_true, undef, stepP, drawB, stepL, lateB, lateB0, rdsT, rdsAny, isRd, afterL, preB, callLB, callLV, lateV, dstV, dynCall, ↓condE_t, ↓condE_f, ↓guardE_tt, ↓guardE_ff, ↓guardE_tf, ↓guardE_ft, frzDeep, deepArgs, deepArg, resB, cv, stepB, stepE, callD, tabD, snapD, snap1, snapC, snapId, snapIds, guardB, guardC, dstAt, aopR, one, pre, binR, intOpR, shiftOpR, unR, argFrm, evo, lkp, hlk, lenOf, asLst, idOf, bndA, srcOk, ofVal, ofCells, setCells, fillA, setElems, fieldsOf, fieldsEq, scalEq, isEq, AV.wr, AV.ok1, TK.agg, frz, frzs, frzA, frzArg, frzArgs, subA, subL, sub1, kp, kh, accOf, List.replicate, Nat.reduceAdd, Nat.reduceSub, Nat.reduceMul, Nat.reduceEqDiff, Nat.reduceLT, Nat.reduceLeDiff, Nat.reduceBEq, reduceIte, reduceCtorEq, eq_self, ne_eq, Int.reduceToNat, Int.reduceLT, Int.reduceLE, Int.reduceGT, Int.reduceGE, Int.reduceBEq, Int.reduceBNe, Int.reduceEq, Int.reduceNe]
  all_goals ((repeat' apply And.intro) <;> first | rfl | omega | (show entryOk _ _ _ _ _ = true; kernel_rfl) | (show pivotOk _ _ = true; kernel_rfl) | decide)
end

def ov (x : List Int × Fr) : AV := .tup [ms x.1, fv x.2]

theorem once_pure (l : List Int) (room : Int) (f : Fr) (hl : l.length ≤ 1000) : PureC Try.prog 24 [ms l, iv room, fv f] (ov (fOnce l room f)) := by
  obtain ⟨op, pc, who, val, x, y, res⟩ := f
  unfold fOnce ov
  dsimp only
  by_cases h0 : res ≠ 0 ∨ op < 0 ∨ 4 < op
  · rw [if_pos h0]; exact once_no hl h0
  · rw [if_neg h0]
    have hr : res = 0 := by omega
    have h1 : (res != 0) = false := by rw [hr]; rfl
    by_cases h2 : op = 0 ∨ op = 3
    · rw [if_pos h2]
      by_cases h3 : room ≤ l.length
      · rw [if_pos h3]; exact once_full hl h1 h2 h3
      · rw [if_neg h3]; exact once_put hl h1 h2 (by omega)
    · rw [if_neg h2]
      by_cases h3 : l = []
      · rw [if_pos h3]; subst h3; exact once_empty h1 (by omega)
      · rw [if_neg h3]
        by_cases h4 : op = 1
        · rw [if_pos h4]; exact once_last hl h3 h1 h4
        · rw [if_neg h4]; exact once_first hl h3 h1 (by omega)

end Go.Vai
