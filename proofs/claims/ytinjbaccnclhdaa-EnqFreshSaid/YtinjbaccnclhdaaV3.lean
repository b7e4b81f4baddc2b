/- What each operation of V1 does to a frame and a world that a state speaks of: one theorem an operation, over any program whose types are as told. -/
import Derived.Test.YtinjbaccnclhdaaV2
namespace Go.Vai
open Go.RowKit

def TK.is : TK → TypeDesc → Prop
  | .none, _ => False
  | .int k, d => d = .int k
  | .bool, d => d = .bool
  | .slice e, d => d = .slice e
  | .arr n e, d => d = .array n e
  | .struct fs, d => ∃ fa : Array Field, d = .struct fa ∧ fa.toList.map (fun f => (f.offset, f.type)) = fs ∧ fa.all (fun f => f.name != "_") = true
  | .ptr e, d => d = .pointer e
  | .func, d => ∃ a b c, d = .func a b c
  | .tup, d => ∃ a, d = .tuple a

structure TOk (P : Program) (T : TEnv) : Prop where
  ok : ∀ t, (T t).k ≠ .none → ∃ i d, P.info? t = some i ∧ P.underlying t = some d ∧ i.size = (T t).size ∧ i.bytes = (T t).bytes ∧ i.zero = some (T t).zero ∧
    (T t).zero.cells.size = (T t).size ∧ (∀ u ∈ (T t).zero.cells.toList, u.oneCell' = true) ∧ (T t).k.is d
  eqs : ∀ t, (fieldsOf T t).isSome = true → P.stoodInHeld t = false ∧ P.eqGuardType P.depth t = false
  mixed : P.follows .mixedOrders = true

section
variable {P : Program} {T : TEnv}

theorem run_size (hT : TOk P T) {t : TypeId} (ht : (T t).k ≠ .none) (w : World) : (sizeOf t).run P w = .ok (T t).size w := by
  obtain ⟨i, d, hi, _, hs, _⟩ := hT.ok t ht
  simp [sizeOf, typeInfo, hi, hs]

theorem run_zero (hT : TOk P T) {t : TypeId} (ht : (T t).k ≠ .none) (w : World) : (zeroValue t).run P w = .ok (T t).zero w := by
  obtain ⟨i, d, hi, _, _, _, hz, _⟩ := hT.ok t ht
  simp [zeroValue, typeInfo, hi, hz]

theorem run_agg (hT : TOk P T) {t : TypeId} (ht : (T t).k ≠ .none) (w : World) : (isAgg t).run P w = .ok (T t).k.agg w := by
  obtain ⟨i, d, hi, hu, _, _, _, _, _, hk⟩ := hT.ok t ht
  cases hkk : (T t).k <;> rw [hkk] at hk <;> simp only [TK.is] at hk <;> (try obtain ⟨fa, rfl, _⟩ := hk) <;> (try obtain ⟨_, _, _, rfl⟩ := hk) <;> (try obtain ⟨_, rfl⟩ := hk) <;> (try subst hk) <;>
    simp [isAgg, run_underlying hu, TK.agg]

/-- What lies in cells, as a value. -/
def valOf (agg : Bool) (cs : List Value) : Value := if agg then .agg cs.toArray else cs.headD undef

theorem run_loadVar (hT : TOk P T) {t : TypeId} (ht : (T t).k ≠ .none) (w : World) (ad : Addr) (cs : List Value) (hl : cs.length = (T t).size) (h1 : (T t).k.agg = false → (T t).size = 1)
    (hc : ∀ (j : Nat) (v : Value), cs[j]? = some v → w.cell? (ad.add j) = some v) : (loadVar t ad).run P w = .ok (valOf (T t).k.agg cs) w := by
  cases hk : (T t).k.agg with
  | true =>
    simp only [loadVar, Sem.run_bind, run_agg hT ht, hk, Result.andThen_ok, if_true, run_size hT ht, ← hl, run_loadCells_list w ad cs hc, Sem.run_pure, valOf]
  | false =>
    have := h1 hk
    obtain ⟨c, rfl⟩ : ∃ c, cs = [c] := by
      match cs, hl with
      | [c], _ => exact ⟨c, rfl⟩
      | [], h => simp at h; omega
      | _ :: _ :: _, h => simp at h; omega
    have h0 := hc 0 c rfl
    have ha : ad.add 0 = ad := by simp [Addr.add]
    rw [ha] at h0
    simp [loadVar, run_agg hT ht, hk, h0, valOf]

theorem run_storeVar (hT : TOk P T) {t : TypeId} (ht : (T t).k ≠ .none) (w : World) (g o : Nat) (e : TypeId) (cur : Array Value) (v : Value) (hv : v.cells.size = (T t).size)
    (hg : w.heap[g]? = some (.cells cur e (0, 0))) (hf : o + (T t).size ≤ cur.size) (h1 : ∀ u ∈ v.cells.toList, u.oneCell' = true) :
    (storeVar t ⟨g, o, none⟩ v).run P w = .ok () (w.setRow g (cur.toList.take o ++ v.cells.toList ++ cur.toList.drop (o + v.cells.toList.length)).toArray) := by
  have := run_storeCells_at P g o e v.cells.toList 0 cur w hg (by simp [hv]; omega) h1
  simp only [Nat.add_zero] at this
  simp only [storeVar, Sem.run_bind, run_size hT ht, Result.andThen_ok, hv, ne_eq, not_true_eq_false, if_false, this]
end

/-- The cells of a value that is told. -/
theorem Con.cells {E : Env} {a : AV} {v : Value} (h : Con E a v) {n : Nat} (hw : a.wr n = true) :
    v.cells.size = n ∧ (∀ u ∈ v.cells.toList, u.oneCell' = true) ∧ ∀ (j : Nat) (x : AV), a.cells[j]? = some x → ∃ y, v.cells[j]? = some y ∧ y.oneCell' = true ∧ Con E x y := by
  simp only [AV.wr, Bool.and_eq_true, beq_iff_eq, List.all_eq_true] at hw
  obtain ⟨hl, ha⟩ := hw
  have one : ∀ {b : AV} {y : Value}, b.ok1 = true → Con E b y → y.oneCell' = true := by
    intro b y hb hc
    cases hc <;> first
      | rfl
      | (simp [AV.ok1] at hb; done)
      | (cases y <;> simp_all [AV.ok1, Value.oneCell'])
  have plain : a.cells = [a] → v.cells = #[v] → v.cells.size = n ∧ (∀ u ∈ v.cells.toList, u.oneCell' = true) ∧ ∀ (j : Nat) (x : AV), a.cells[j]? = some x → ∃ y, v.cells[j]? = some y ∧ y.oneCell' = true ∧ Con E x y := by
    intro e1 e2
    rw [e1] at hl ha ⊢
    rw [e2]
    have hv := one (ha a (by simp)) h
    refine ⟨by simpa using hl, by simpa using hv, fun j x hj => ?_⟩
    match j with
    | 0 => simp at hj; subst hj; exact ⟨v, by simp, hv, h⟩
    | j + 1 => simp at hj
  cases h with
  | agg cs xs hs hh =>
    simp only [AV.cells] at hl ha
    have hx : ∀ (j : Nat) (x : AV), cs[j]? = some x → ∃ y, xs[j]? = some y ∧ y.oneCell' = true ∧ Con E x y := by
      intro j x hj
      have hlt : j < xs.size := by rw [← hs]; exact (List.getElem?_eq_some_iff.1 hj).1
      have hy : xs[j]? = some xs[j] := by simp [hlt]
      exact ⟨xs[j], hy, one (ha x (List.mem_of_getElem? hj)) (hh j x _ hj hy), hh j x _ hj hy⟩
    refine ⟨by simp only [Value.cells]; omega, ?_, hx⟩
    intro u hu
    simp only [Value.cells] at hu
    obtain ⟨j, hj⟩ := List.getElem?_of_mem hu
    rw [Array.getElem?_toList] at hj
    have hlt : j < cs.length := by rw [hs]; exact (Array.getElem?_eq_some_iff.1 hj).1
    obtain ⟨y, hy, h1, _⟩ := hx j cs[j] (by simp [hlt])
    rw [hj] at hy; cases hy; exact h1
  | v =>
    cases v <;> first
      | exact plain rfl rfl
      | (simp [AV.cells, AV.ok1] at ha; done)
  | top x => simp [AV.cells, AV.ok1] at ha
  | tup cs xs _ _ => simp [AV.cells, AV.ok1] at ha
  | _ => exact plain rfl rfl

end Go.Vai
