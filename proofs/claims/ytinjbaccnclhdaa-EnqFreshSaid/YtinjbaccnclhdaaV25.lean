/- From a contract to the row's step: what came in, as the evaluator's values. -/
import Derived.Test.YtinjbaccnclhdaaV24
namespace Go.Vai
open Go.RowKit

theorem args_nil {E : Env} : ArgsCon E [] #[] := ⟨rfl, fun i x v hx => by simp at hx⟩
theorem args_cons {E : Env} {a : AV} {v : Value} {as : List AV} {vs : List Value} (h : Con E a v) (h' : ArgsCon E as ⟨vs⟩) : ArgsCon E (a :: as) ⟨v :: vs⟩ := by
  refine ⟨by have := h'.1; simpa using this, fun i x w hx hw => ?_⟩
  cases i with
  | zero =>
    simp at hx hw
    subst hx; subst hw; exact h
  | succ i => exact h'.2 i x w (by simpa using hx) (by simpa using hw)

/-- All that is there stays. -/
def allK (w : World) : Nat → Option Obj := fun b => w.heap[b]?

/-- A slice of integers that came in. -/
theorem con_row {k : IntKind} {w : World} {a : Option Addr} {len cap : Nat} {zs : List Int}
    (h : (a = none ∧ len = 0 ∧ cap = 0 ∧ zs = []) ∨ ∃ x, a = some x ∧ len ≤ cap ∧ cap ≤ maxLen ∧ zs.length = cap ∧ (∀ i, i < zs.length → w.cell? (x.add i) = some (.int k (zs.getD i 0))) ∧ ∀ n ∈ zs, (Lit.int k n).wf = true) :
    Con (Env.bare (allK w)) (.lst 1 ((zs.take len).map fun x => .v (.int k x))) (.slice a len cap) := by
  rcases h with ⟨rfl, rfl, rfl, rfl⟩ | ⟨x, rfl, hl, hm, hz, hcell, _⟩
  · exact .lst _ _ none 0 0 ⟨0, 0, none⟩ (fun _ _ => undef) (by simp) (Nat.le_refl _) (by simp) (by simp) (by simp) (by simp) (by simp)
  · have el : ∀ (i : Nat) (a : AV), ((zs.take len).map fun x => AV.v (.int k x))[i]? = some a → i < len ∧ i < zs.length ∧ a = .v (.int k (zs.getD i 0)) := by
      intro i a ha
      rw [List.getElem?_map, Option.map_eq_some_iff] at ha
      obtain ⟨y, hy, rfl⟩ := ha
      rw [List.getElem?_take] at hy
      split at hy
      · rename_i hi
        obtain ⟨h1, h2⟩ := List.getElem?_eq_some_iff.1 hy
        exact ⟨hi, h1, by rw [List.getD_eq_getElem?_getD, hy]; rfl⟩
      · cases hy
    have one : ∀ (i : Nat) (a : AV) (j : Nat) (b : AV), ((zs.take len).map fun x => AV.v (.int k x))[i]? = some a → a.cells[j]? = some b → j = 0 ∧ b = .v (.int k (zs.getD i 0)) ∧ i < zs.length := by
      intro i a j b ha hb
      obtain ⟨_, h2, rfl⟩ := el i a ha
      simp only [AV.cells, List.getElem?_singleton] at hb
      split at hb
      · cases hb; exact ⟨‹_›, rfl, h2⟩
      · cases hb
    refine .lst _ _ _ len cap x (fun i _ => .int k (zs.getD i 0)) (by simp; omega) hl (fun _ => rfl) ?_ ?_ ?_ ?_
    · intro i a ha
      obtain ⟨_, _, rfl⟩ := el i a ha
      rfl
    · intro i a j b ha hb
      obtain ⟨rfl, _, h2⟩ := one i a j b ha hb
      have := hcell i h2
      rw [Nat.mul_one, Nat.add_zero]
      unfold kcell
      unfold World.cell? at this
      exact this
    · intro i a j b ha hb; rfl
    · intro i a j b ha hb
      obtain ⟨_, rfl, _⟩ := one i a j b ha hb
      exact .v _

/-- A contract whose answer is a plain value, at what came in. -/
theorem PureC.calls {P : Program} {f : FuncId} {args : List AV} {r : Value} (h : PureC P f args (.v r)) {w : World} {vs : Array Value} (ha : ArgsCon (Env.bare (allK w)) args vs) :
    Calls P f vs w fun e w' => e = .returned r ∧ Below w.heap.size w w' := by
  refine (h w (allK w) vs (fun _ _ h => h) ha).mono ?_
  rintro e w' ⟨v, rfl, hb, hc⟩
  cases hc
  exact ⟨rfl, hb⟩

end Go.Vai
