/- Layouts: where cells are; and how far one number lies behind another one. -/
import Derived.Test.YtinjbaccnclhdaaR1
namespace Go.Vai
open Go.RowKit Go.Proofs
set_option linter.unusedSimpArgs false
set_option linter.unusedVariables false
set_option maxHeartbeats 4000000
set_option maxRecDepth 100000

/-- As many zeros. -/
def zeros (n : Nat) : List Int := List.replicate n 0
theorem zeros_len (n : Nat) : (zeros n).length = n := List.length_replicate
theorem zeros_succ (n : Nat) : zeros n ++ [0] = zeros (n + 1) := (List.replicate_succ').symm
theorem zeros_0 : zeros 0 = [] := rfl

theorem hlk_hd (id : Nat) (x : Option Blk) (r : Hp) : hlk ((id, x) :: r) id = x := by rw [hlk_cons, if_pos rfl]
theorem opt_if {p : Prop} [Decidable p] {a r : AV} (e : (if p then some a else none) = some r) : p ∧ a = r := by
  by_cases h : p
  · rw [if_pos h] at e; exact ⟨h, Option.some.inj e⟩
  · rw [if_neg h] at e; cases e

/-- A layout: workers, room of a deque, room of the injector, tries. -/
structure Cf where
  w : Int
  d : Int
  i : Int
  spin : Int
  deriving DecidableEq

def cv' (c : Cf) : AV := .agg [iv c.w, iv c.d, iv c.i, iv c.spin]
def dC : AV → Option Cf
  | .agg [.v (.int .i64 a), .v (.int .i64 b), .v (.int .i64 c), .v (.int .i64 d)] => some ⟨a, b, c, d⟩
  | _ => none
theorem dC_some {a : AV} {c : Cf} (h : dC a = some c) : sub1 a (cv' c) := by
  unfold dC at h
  split at h
  · cases h; rfl
  · cases h
theorem hfree_cv (c : Cf) : HFree (cv' c) := hfree_agg fun a ha => by
  simp only [iv, List.mem_cons, List.not_mem_nil, or_false] at ha
  rcases ha with rfl | rfl | rfl | rfl <;> exact hfree_v _
theorem hfree_cf (a b c d : Int) : HFree (.agg [.v (.int .i64 a), .v (.int .i64 b), .v (.int .i64 c), .v (.int .i64 d)]) = True := eq_true (hfree_cv ⟨a, b, c, d⟩)
def shC : Sh Cf := ⟨dC, cv', fun _ _ => dC_some, hfree_cv⟩
theorem shC_dec : shC.dec = dC := rfl
theorem cf_eta (c : Cf) : (⟨c.w, c.d, c.i, c.spin⟩ : Cf) = c := rfl

/-- May a layout be? -/
def mayC (c : Cf) : Bool := decide (1 ≤ c.w ∧ c.w ≤ 8 ∧ (c.d = 1 ∨ c.d = 2 ∨ c.d = 4 ∨ c.d = 8 ∨ c.d = 16) ∧ 1 ≤ c.i ∧ c.i ≤ 16 ∧ 0 ≤ c.spin ∧ c.spin ≤ 4)
def lBase (c : Cf) (w : Int) : Int := 6 + 2 * c.i + w * (3 + c.d)
def lSize (c : Cf) : Int := if mayC c then lBase c c.w else 0
def lHas (c : Cf) (w : Int) : Bool := mayC c && decide (0 ≤ w ∧ w < c.w)
def lTop (c : Cf) (w : Int) : Int := if lHas c w then lBase c w else -1
def lBottom (c : Cf) (w : Int) : Int := if lHas c w then lBase c w + 1 else -1
def lSlot (c : Cf) (w x : Int) : Int := if lHas c w then lBase c w + 3 + x % 18446744073709551616 % c.d else -1
def lSeq (c : Cf) (x : Int) : Int := if mayC c then 6 + x % 18446744073709551616 % c.i else -1
def lVal (c : Cf) (x : Int) : Int := if mayC c then 6 + c.i + x % 18446744073709551616 % c.i else -1
/-- How far one lies behind another one. -/
def far (a b : Int) : Int := IntKind.wrap .i64 (a - b)

theorem wrapU_eq (x : Int) : wrapU x = x % 18446744073709551616 := by unfold wrapU; rw [IntKind.wrap_u64]
theorem wrapU_in (x : Int) : 0 ≤ wrapU x ∧ wrapU x < 18446744073709551616 := by rw [wrapU_eq]; omega

theorem mayC_iff {c : Cf} : mayC c = true ↔ (1 ≤ c.w ∧ c.w ≤ 8 ∧ (c.d = 1 ∨ c.d = 2 ∨ c.d = 4 ∨ c.d = 8 ∨ c.d = 16) ∧ 1 ≤ c.i ∧ c.i ≤ 16 ∧ 0 ≤ c.spin ∧ c.spin ≤ 4) := by simp [mayC]

/-- The walk's word for a power of two. -/
def twoB (d : Int) : Bool := IntKind.wrap .i64 (BitVec.ofInt IntKind.i64.bits d &&& BitVec.ofInt IntKind.i64.bits (IntKind.wrap .i64 (d - 1))).toNat == 0
theorem twoB_eq {d : Int} (h : 1 ≤ d ∧ d ≤ 16) : twoB d = decide (d = 1 ∨ d = 2 ∨ d = 4 ∨ d = 8 ∨ d = 16) := by
  have : d = 1 ∨ d = 2 ∨ d = 3 ∨ d = 4 ∨ d = 5 ∨ d = 6 ∨ d = 7 ∨ d = 8 ∨ d = 9 ∨ d = 10 ∨ d = 11 ∨ d = 12 ∨ d = 13 ∨ d = 14 ∨ d = 15 ∨ d = 16 := by omega
  rcases this with rfl | rfl | rfl | rfl | rfl | rfl | rfl | rfl | rfl | rfl | rfl | rfl | rfl | rfl | rfl | rfl <;> decide
end Go.Vai
