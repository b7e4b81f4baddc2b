/- Numbers that came in lie in their range. -/
import Derived.Test.YtegfjolkcaoonaaC6
import Derived.Test.YtegfjolkcaoonaaV25
namespace Go.Vai
open Go.RowKit

theorem row_wf {w : World} {a : Option Addr} {len cap : Nat} {zs : List Int}
    (h : (a = none ∧ len = 0 ∧ cap = 0 ∧ zs = []) ∨ ∃ x, a = some x ∧ len ≤ cap ∧ cap ≤ maxLen ∧ zs.length = cap ∧ (∀ i, i < zs.length → w.cell? (x.add i) = some (.int .u64 (zs.getD i 0))) ∧ ∀ n ∈ zs, (Lit.int .u64 n).wf = true) :
    ∀ x ∈ zs.take len, 0 ≤ x ∧ x < 18446744073709551616 := by
  rcases h with ⟨_, _, _, rfl⟩ | ⟨_, _, _, _, _, _, hw⟩
  · simp
  · intro x hx
    have := hw x (List.mem_of_mem_take hx)
    have e1 : IntKind.min .u64 = 0 := by decide
    have e2 : IntKind.max .u64 = 18446744073709551615 := by decide
    simp only [Lit.wf, e1, e2, Bool.and_eq_true, decide_eq_true_eq] at this
    omega

end Go.Vai
