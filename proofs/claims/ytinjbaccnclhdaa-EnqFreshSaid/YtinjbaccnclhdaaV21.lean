/- A program's types, told from the program itself. -/
import Derived.Test.YtinjbaccnclhdaaV20
namespace Go.Vai
open Go.RowKit

def TK.isB : TK → TypeDesc → Bool
  | .int k, .int k' => k == k'
  | .bool, .bool => true
  | .slice e, .slice e' => e == e'
  | .arr n e, .array n' e' => n == n' && e == e'
  | .struct fs, .struct fa => fa.toList.map (fun f => (f.offset, f.type)) == fs && fa.all (fun f => f.name != "_")
  | .ptr e, .pointer e' => e == e'
  | .func, .func .. => true
  | .tup, .tuple _ => true
  | _, _ => false

theorem TK.is_of {k : TK} {d : TypeDesc} (h : k.isB d = true) : k.is d := by
  cases k <;> cases d <;> simp [TK.isB] at h <;> simp [TK.is, h]

def tenv (P : Program) (ks : List (Nat × TK)) : TEnv := fun t =>
  match ks.lookup t, P.info? t with
  | some k, some i => ⟨k, i.size, i.bytes, i.zero.getD undef⟩
  | _, _ => ⟨.none, 0, 0, undef⟩

def kindOk (P : Program) (t : Nat) (k : TK) : Bool :=
  match P.info? t, P.underlying t with
  | some i, some d => (match i.zero with
    | some z => z.cells.size == i.size && z.cells.toList.all Value.oneCell'
    | none => false) && k.isB d && (match k with | .struct _ => !P.stoodInHeld t && !P.eqGuardType P.depth t | _ => true)
  | _, _ => false

def tenvOk (P : Program) (ks : List (Nat × TK)) : Bool := P.follows .mixedOrders && ks.all fun p => kindOk P p.1 p.2

theorem tenv_ok {P : Program} {ks : List (Nat × TK)} (h : tenvOk P ks = true) : TOk P (tenv P ks) := by
  simp only [tenvOk, Bool.and_eq_true, List.all_eq_true] at h
  obtain ⟨hm, hk⟩ := h
  have key : ∀ t k i, ks.lookup t = some k → P.info? t = some i → kindOk P t k = true := by
    intro t k i hl hi
    have : ∀ l : List (Nat × TK), (∀ p ∈ l, kindOk P p.1 p.2 = true) → l.lookup t = some k → kindOk P t k = true := by
      intro l
      induction l with
      | nil => intro _ h; cases h
      | cons p l ih =>
        intro hp hl
        obtain ⟨a, b⟩ := p
        simp only [List.lookup] at hl
        split at hl
        · rename_i he
          cases hl
          have := hp (a, k) (by simp)
          rw [eq_of_beq he]; exact this
        · exact ih (fun p hp' => hp p (by simp [hp'])) hl
    exact this ks hk hl
  refine ⟨fun t ht => ?_, fun t ht => ?_, hm⟩
  · unfold tenv at ht ⊢
    cases hl : ks.lookup t with
    | none => rw [hl] at ht; simp at ht
    | some k =>
      cases hi : P.info? t with
      | none => rw [hl, hi] at ht; simp at ht
      | some i =>
        have hc := key t k i hl hi
        simp only [kindOk, hi] at hc
        cases hu : P.underlying t with
        | none => rw [hu] at hc; simp at hc
        | some d =>
          rw [hu] at hc
          simp only [Bool.and_eq_true] at hc
          obtain ⟨⟨h1, h2⟩, _⟩ := hc
          cases hz : i.zero with
          | none => rw [hz] at h1; simp at h1
          | some z =>
            rw [hz] at h1
            simp only [Bool.and_eq_true, beq_iff_eq, List.all_eq_true] at h1
            exact ⟨i, d, rfl, rfl, rfl, rfl, by simp [hz], by simpa [hz] using h1.1, by simpa [hz] using h1.2, TK.is_of h2⟩
  · unfold fieldsOf tenv at ht
    cases hl : ks.lookup t with
    | none => rw [hl] at ht; simp at ht
    | some k =>
      cases hi : P.info? t with
      | none => rw [hl, hi] at ht; simp at ht
      | some i =>
        have hc := key t k i hl hi
        rw [hl, hi] at ht
        simp only [kindOk, hi] at hc
        cases hu : P.underlying t with
        | none => rw [hu] at hc; simp at hc
        | some d =>
          rw [hu] at hc
          cases k with
          | struct fs =>
            simp only [Bool.and_eq_true, Bool.not_eq_true'] at hc
            exact hc.2
          | _ => simp at ht

end Go.Vai
