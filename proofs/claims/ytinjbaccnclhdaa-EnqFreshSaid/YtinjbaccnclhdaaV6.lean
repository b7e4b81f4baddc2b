/- The operations that look into memory, more: cuts, lengths, loads; and structs built of parts. -/
import Derived.Test.YtinjbaccnclhdaaV5
namespace Go.Vai
open Go.RowKit

section
variable {P : Program} {T : TEnv} {ρ : Operand → AV} {H : Nat → Option Blk} {me : Nat}

theorem kcell_cell {K : Nat → Option Obj} {w : World} (hkw : ∀ b o, K b = some o → w.heap[b]? = some o) {ad : Addr} {v : Value} (h : kcell K ad = some v) : w.cell? ad = some v := by
  unfold kcell at h
  cases hb : K ad.block with
  | none => rw [hb] at h; cases h
  | some o =>
    rw [hb] at h
    simp only [World.cell?, hkw _ _ hb]
    exact h

/-- What lies in cells, told. -/
theorem con_valOf {E : Env} {agg : Bool} {n : Nat} {cs : List AV} {vs : List Value} (hl : vs.length = n) (hn : n ≤ cs.length) (h0 : 0 < n) (hh : ∀ (j : Nat) (b : AV) (v : Value), cs[j]? = some b → vs[j]? = some v → Con E b v) :
    Con E (ofCells agg n cs) (valOf agg vs) := by
  cases agg with
  | true =>
    simp only [ofCells, valOf, if_true]
    refine .agg _ _ (by simp; omega) ?_
    intro i a x ha hx
    rw [List.getElem?_take] at ha
    split at ha
    · exact hh i a x ha (by simpa using hx)
    · cases ha
  | false =>
    simp only [ofCells, valOf, Bool.false_eq_true, if_false]
    cases cs with
    | nil => simp at hn; omega
    | cons c cs =>
      cases vs with
      | nil => simp at hl; omega
      | cons v vs => exact hh 0 c v rfl rfl

theorem looks_load_rptr (hT : TOk P T) (t : TypeId) (x : Operand) (cs : List AV) (hx0 : ρ x = .rptr cs) (hn : (T t).k ≠ .none) (hl : (T t).size ≤ cs.length) (h0 : 0 < (T t).size) (h1 : (T t).k.agg = false → (T t).size = 1) :
    Looks P (.load t x) ρ H (ofCells (T t).k.agg (T t).size cs) [] := by
  intro o ho w0 K0 D E n fr hp a w hrel hx hH
  have h := hx x (by simp [Op.operands])
  rw [hx0] at h
  generalize hv : a.eval x = vx at h
  cases h with
  | rptr _ ad y hk h1' hh =>
    have hr := run_loadVar hT hn w ad ((List.range (T t).size).map y) (by simp) h1 (by
      intro j v hj
      rw [List.getElem?_map, Option.map_eq_some_iff] at hj
      obtain ⟨q, hq, rfl⟩ := hj
      obtain ⟨hjl, hq'⟩ := List.getElem?_eq_some_iff.1 hq
      simp only [List.getElem_range] at hq'
      subst hq'
      simp only [List.length_range] at hjl
      have hc : cs[j]? = some cs[j] := by simp [show j < cs.length by omega]
      exact kcell_cell hrel.kw (hk j _ hc))
    refine ⟨_, ?_, con_valOf (vs := (List.range (T t).size).map y) (by simp) hl h0 ?_⟩
    · simp only [execOp, ho, hv, Instr.loadAt, Instr.sureAddr, Sem.run_bind, Sem.run_pure, Result.andThen_ok, hr]
    · intro j b v hb hv'
      rw [List.getElem?_map, Option.map_eq_some_iff] at hv'
      obtain ⟨q, hq, rfl⟩ := hv'
      obtain ⟨hjl, hq'⟩ := List.getElem?_eq_some_iff.1 hq
      simp only [List.getElem_range] at hq'
      subst hq'
      exact hh j b hb

theorem looks_load_ptr (hT : TOk P T) (t : TypeId) (x : Operand) (id i off : Nat) (b : Blk) (hx0 : ρ x = .ptr id i off) (hb : H id = some b) (hn : (T t).k ≠ .none) (hi : i < b.el.length)
    (hl : off + (T t).size ≤ (b.el.getD i .top).cells.length) (h0 : 0 < (T t).size) (h1 : (T t).k.agg = false → (T t).size = 1) :
    Looks P (.load t x) ρ H (ofCells (T t).k.agg (T t).size ((b.el.getD i .top).cells.drop off)) [id] := by
  intro o ho w0 K0 D E n fr hp a w hrel hx hH
  have h := hx x (by simp [Op.operands])
  rw [hx0] at h
  generalize hv : a.eval x = vx at h
  cases h with
  | ptr _ _ _ g hd hg =>
    have hown := hrel.own id b ((hH id (by simp)).trans hb)
    obtain ⟨_, hs, hp, _, hown⟩ := hown
    rcases hown with ⟨h1', _⟩ | ⟨g', cur, hg', hB, hc, hcs, hel, _, _, hE⟩
    · rw [h1'] at hg; cases hg
    · rw [hg'] at hg; cases hg
      have hgd : b.el[i]? = some (b.el.getD i .top) := by rw [List.getD_eq_getElem?_getD]; simp [hi]
      obtain ⟨hlen, hcell⟩ := hE i _ hgd
      generalize b.el.getD i .top = x0 at hl hgd hlen hcell
      have hy : ∀ j, j < x0.cells.length → ∃ y, cur[i * b.sz + j]? = some y ∧ y.oneCell' = true ∧ Con E (x0.cells.getD j .top) y := by
        intro j hj
        have := hcell j (x0.cells.getD j .top) (by rw [List.getD_eq_getElem?_getD]; simp [hj])
        exact this
      have hrd : ∀ j, j < (T t).size → w.cell? ((⟨g, i * E.sz id + off, none⟩ : Addr).add j) = cur[i * b.sz + (off + j)]? := by
        intro j hj
        rw [add_plain', hs]
        simp [World.cell?, hc, Nat.add_assoc]
      have hlist : ∃ vs : List Value, vs.length = (T t).size ∧ (∀ (j : Nat) (v : Value), vs[j]? = some v → cur[i * b.sz + (off + j)]? = some v ∧ Con E (x0.cells.getD (off + j) .top) v) := by
        refine ⟨(List.range (T t).size).map fun j => (cur[i * b.sz + (off + j)]?).getD undef, by simp, ?_⟩
        intro j v hj
        rw [List.getElem?_map, Option.map_eq_some_iff] at hj
        obtain ⟨q, hq, rfl⟩ := hj
        obtain ⟨hjl, hq'⟩ := List.getElem?_eq_some_iff.1 hq
        simp only [List.getElem_range] at hq'
        subst hq'
        simp only [List.length_range] at hjl
        obtain ⟨y, hy1, _, hy3⟩ := hy (off + j) (by omega)
        rw [hy1]
        exact ⟨rfl, hy3⟩
      obtain ⟨vs, hvl, hvs⟩ := hlist
      have hr := run_loadVar hT hn w ⟨g, i * E.sz id + off, none⟩ vs hvl h1 (by
        intro j v hj
        rw [hrd j (by rw [← hvl]; exact (List.getElem?_eq_some_iff.1 hj).1)]
        exact (hvs j v hj).1)
      refine ⟨_, ?_, con_valOf (vs := vs) hvl (by rw [List.length_drop]; omega) h0 ?_⟩
      · simp only [execOp, ho, hv, Instr.loadAt, Instr.sureAddr, Sem.run_bind, Sem.run_pure, Result.andThen_ok, hr]
      · intro j c v hc' hv'
        rw [List.getElem?_drop] at hc'
        have := (hvs j v hv').2
        rw [List.getD_eq_getElem?_getD, hc'] at this
        exact this

theorem looks_len (hT : TOk P T) (x : Operand) (t e : TypeId) (m : Nat) (hk : (T t).k = .slice e) (hx0 : lenOf (ρ x) = some m) :
    Looks P (.call { callee := .builtin .len, args := #[x], argTypes := #[t] }) ρ H (.v (.int .i64 m)) [] := by
  intro o ho w0 K0 D E n fr hp a w hrel hx hH
  have h := hx x (by simp [Op.operands, Call.operands])
  obtain ⟨_, de, _, hu, _, _, _, _, _, hd⟩ := hT.ok t (by rw [hk]; simp)
  rw [hk] at hd; simp only [TK.is] at hd; subst hd
  have hrun : ∀ (A : Option Addr) (c : Nat), a.eval x = .slice A m c → (execOp a.eval o).run P w = .ok (.value (.int .i64 m)) w := by
    intro A c hv
    simp only [execOp, ho, resolve, invoke, builtin, hv, Builtin.len_, Sem.run_bind, run_underlying hu, Result.andThen_ok, Sem.run_pure, goInt, List.map_toArray, List.map_cons, List.map_nil, List.getElem?_toArray, List.getElem?_cons_zero]
  generalize hX : ρ x = X at h hx0
  generalize hv : a.eval x = vx at h
  unfold lenOf at hx0
  split at hx0 <;> cases hx0
  · cases h; exact ⟨_, hrun _ _ hv, .v _⟩
  · cases h with
    | lst _ _ A n' c ad y hn' => subst hn'; exact ⟨_, hrun _ _ hv, .v _⟩
  · cases h with
    | arr _ _ _ g o' c hd hg => exact ⟨_, hrun _ _ hv, .v _⟩
    | arr0 _ hd hg => exact ⟨_, hrun _ _ hv, .v _⟩

end

end Go.Vai
