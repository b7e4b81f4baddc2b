/- The operations that look into memory: fields, elements, cuts, loads. -/
import Derived.Test.YtinjbaccnclhdaaV4
namespace Go.Vai
open Go.RowKit

section
variable {P : Program} {T : TEnv} {ρ : Operand → AV} {H : Nat → Option Blk} {me : Nat}

theorem add_zero_addr (a : Addr) : a.add 0 = a := by simp [Addr.add]
theorem add_plain' (g o j : Nat) : (⟨g, o, none⟩ : Addr).add j = ⟨g, o + j, none⟩ := by unfold Addr.add; split <;> simp_all
theorem add_add (a : Addr) (i j : Nat) : (a.add i).add j = a.add (i + j) := by
  by_cases hi : i = 0
  · subst hi; rw [add_zero_addr, Nat.zero_add]
  · by_cases hj : j = 0
    · subst hj; rw [add_zero_addr, Nat.add_zero]
    · simp [Addr.add, hi, hj, Nat.add_assoc]

/-- A part of cells that are read. -/
theorem Con.rptr_drop {E : Env} {cs : List AV} {ad : Addr} (h : Con E (.rptr cs) (.pointer (some ad))) (k : Nat) : Con E (.rptr (cs.drop k)) (.pointer (some (ad.add k))) := by
  cases h with
  | rptr _ _ y hk h1 h =>
    refine .rptr _ _ (fun j => y (k + j)) ?_ ?_ ?_
    · intro j b hb; rw [List.getElem?_drop] at hb; rw [add_add]; exact hk _ b hb
    · intro j b hb; rw [List.getElem?_drop] at hb; exact h1 _ b hb
    · intro j b hb; rw [List.getElem?_drop] at hb; exact h _ b hb

theorem looks_fieldAddr (hT : TOk P T) (s : TypeId) (x : Operand) (f : Nat) (fs : List (Nat × TypeId)) (off' : Nat) (ft : TypeId) (r : AV) (hk : (T s).k = .struct fs) (hf : fs[f]? = some (off', ft))
    (hn : (T ft).k ≠ .none) (h0 : 0 < (T ft).size) (hr : match ρ x with | .ptr id i off => r = .ptr id i (off + off') | .rptr cs => r = .rptr (cs.drop off') | _ => False) :
    Looks P (.fieldAddr s x f) ρ H r [] := by
  intro o ho w0 K0 D E n fr hp a w hrel hx hH
  have h := hx x (by simp [Op.operands])
  obtain ⟨_, de, _, hu, _, _, _, _, _, hd⟩ := hT.ok s (by rw [hk]; simp)
  rw [hk] at hd; simp only [TK.is] at hd
  obtain ⟨fa, rfl, hfs, _⟩ := hd
  have hfa : ∃ g, fa[f]? = some g ∧ g.offset = off' ∧ g.type = ft := by
    rw [← hfs, List.getElem?_map, Array.getElem?_toList] at hf
    cases hg : fa[f]? with
    | none => rw [hg] at hf; simp at hf
    | some g => rw [hg] at hf; simp at hf; exact ⟨g, rfl, hf.1, hf.2⟩
  obtain ⟨g, hg, hgo, hgt⟩ := hfa
  have hrun : ∀ ad : Addr, a.eval x = .pointer (some ad) → (execOp a.eval o).run P w = .ok (.value (.pointer (some (ad.add off')))) w := by
    intro ad had
    simp only [execOp, ho, had, Instr.fieldAt, Instr.sureAddr, fieldPlace, Sem.run_bind, run_underlying hu, Result.andThen_ok, hg, Sem.run_pure, hgt, run_size hT hn, if_neg (show ¬ (T ft).size = 0 by omega), hgo]
  split at hr
  · rename_i id i off hx0
    subst hr
    rw [hx0] at h
    generalize hv : a.eval x = vx at h
    cases h with
    | ptr _ _ _ g' hd hg' =>
      refine ⟨_, hrun _ hv, ?_⟩
      rw [add_plain', Nat.add_assoc]
      exact .ptr id i (off + off') g' hd hg'
  · rename_i cs hx0
    subst hr
    rw [hx0] at h
    generalize hv : a.eval x = vx at h
    cases h with
    | rptr _ ad y q1 q2 q3 => exact ⟨_, hrun _ hv, Con.rptr_drop (.rptr cs ad y q1 q2 q3) off'⟩
  · exact hr.elim

/-- A part of an aggregate. -/
theorem run_part (hT : TOk P T) {t : TypeId} (ht : (T t).k ≠ .none) {cs : List AV} {xs : Array Value} {off : Nat} {E : Env} (hl : cs.length = xs.size)
    (hh : ∀ (i : Nat) (a : AV) (x : Value), cs[i]? = some a → xs[i]? = some x → Con E a x) (hf : off + (T t).size ≤ cs.length) (h0 : 0 < (T t).size) (h1 : (T t).k.agg = false → (T t).size = 1) (w : World) :
    ∃ v, (part t xs off).run P w = .ok v w ∧ Con E (ofCells (T t).k.agg (T t).size (cs.drop off)) v := by
  cases hk : (T t).k.agg with
  | true =>
    refine ⟨.agg (xs.extract off (off + (T t).size)), by simp [part, run_agg hT ht, hk, run_size hT ht], ?_⟩
    simp only [ofCells, if_true]
    refine .agg _ _ (by simp; omega) ?_
    intro i a x ha hx
    rw [List.getElem?_take] at ha
    split at ha
    · rw [List.getElem?_drop] at ha
      rw [Array.getElem?_extract] at hx
      split at hx
      · exact hh _ a x ha hx
      · cases hx
    · cases ha
  | false =>
    have hs := h1 hk
    have hlt : off < xs.size := by omega
    refine ⟨xs[off], by simp [part, run_agg hT ht, hk, hlt], ?_⟩
    have hc : off < cs.length := by omega
    simp only [ofCells, Bool.false_eq_true, if_false]
    have : (cs.drop off).headD .top = cs[off] := by
      rw [List.headD_eq_head?_getD, List.head?_drop]; simp [hc]
    rw [this]
    exact hh off _ _ (by simp [hc]) (by simp [hlt])

theorem looks_field (hT : TOk P T) (s : TypeId) (x : Operand) (f : Nat) (fs : List (Nat × TypeId)) (off' : Nat) (ft : TypeId) (cs : List AV) (hk : (T s).k = .struct fs) (hf : fs[f]? = some (off', ft))
    (hx0 : ρ x = .agg cs) (hn : (T ft).k ≠ .none) (hl : off' + (T ft).size ≤ cs.length) (h0 : 0 < (T ft).size) (h1 : (T ft).k.agg = false → (T ft).size = 1) :
    Looks P (.field s x f) ρ H (ofCells (T ft).k.agg (T ft).size (cs.drop off')) [] := by
  intro o ho w0 K0 D E n fr hp a w hrel hx hH
  have h := hx x (by simp [Op.operands])
  obtain ⟨_, de, _, hu, _, _, _, _, _, hd⟩ := hT.ok s (by rw [hk]; simp)
  rw [hk] at hd; simp only [TK.is] at hd
  obtain ⟨fa, rfl, hfs, _⟩ := hd
  have hfa : ∃ g, fa[f]? = some g ∧ g.offset = off' ∧ g.type = ft := by
    rw [← hfs, List.getElem?_map, Array.getElem?_toList] at hf
    cases hg : fa[f]? with
    | none => rw [hg] at hf; simp at hf
    | some g => rw [hg] at hf; simp at hf; exact ⟨g, rfl, hf.1, hf.2⟩
  obtain ⟨g, hg, hgo, hgt⟩ := hfa
  rw [hx0] at h
  generalize hv : a.eval x = vx at h
  cases h with
  | agg _ xs hl' hh =>
    obtain ⟨v, hv', hc⟩ := run_part hT hn hl' hh hl h0 h1 w
    refine ⟨v, ?_, hc⟩
    simp only [execOp, ho, hv, Instr.field, asAgg, Sem.run_bind, run_underlying hu, Result.andThen_ok, hg, Sem.run_pure, hgt, hgo, hv']

theorem looks_index (hT : TOk P T) (t : TypeId) (x ix : Operand) (m : Nat) (e : TypeId) (k : IntKind) (i : Int) (cs : List AV) (hk : (T t).k = .arr m e) (hx0 : ρ x = .agg cs) (hi0 : ρ ix = .v (.int k i))
    (hn : (T e).k ≠ .none) (hi1 : 0 ≤ i) (hi2 : i < m) (hl : i.toNat * (T e).size + (T e).size ≤ cs.length) (h0 : 0 < (T e).size) (h1 : (T e).k.agg = false → (T e).size = 1) :
    Looks P (.index t x ix) ρ H (ofCells (T e).k.agg (T e).size (cs.drop (i.toNat * (T e).size))) [] := by
  intro o ho w0 K0 D E n fr hp a w hrel hx hH
  have h := hx x (by simp [Op.operands])
  have h' := hx ix (by simp [Op.operands])
  obtain ⟨_, de, _, hu, _, _, _, _, _, hd⟩ := hT.ok t (by rw [hk]; simp)
  rw [hk] at hd; simp only [TK.is] at hd; subst hd
  rw [hx0] at h
  rw [hi0] at h'
  generalize hv : a.eval x = vx at h
  generalize hv' : a.eval ix = vi at h'
  cases h'
  cases h with
  | agg _ xs hl' hh =>
    obtain ⟨v, hr, hc⟩ := run_part hT hn hl' hh hl h0 h1 w
    refine ⟨v, ?_, hc⟩
    simp only [execOp, ho, hv, hv', Instr.index, asIntOf, Sem.run_bind, run_underlying hu, Result.andThen_ok, Sem.run_pure, if_pos (show 0 ≤ i ∧ i < (m : Int) from ⟨hi1, hi2⟩), run_size hT hn, hr]

theorem looks_indexAddr (hT : TOk P T) (t : TypeId) (x ix : Operand) (e : TypeId) (k : IntKind) (i : Int) (r : AV) (acc : List Nat) (hk : (T t).k = .slice e) (hi0 : ρ ix = .v (.int k i)) (hn : (T e).k ≠ .none)
    (hr : match ρ x with
      | .lst sz xs => sz = (T e).size ∧ 0 ≤ i ∧ i < xs.length ∧ r = .rptr (xs.getD i.toNat .top).cells
      | .arr id off len => (match H id with | some b => b.sz = (T e).size | none => False) ∧ 0 ≤ i ∧ i < len ∧ r = .ptr id (off + i.toNat) 0 ∧ acc = [id]
      | _ => False) : Looks P (.indexAddr t x ix) ρ H r acc := by
  intro o ho w0 K0 D E n fr hp a w hrel hx hH
  have h := hx x (by simp [Op.operands])
  have h' := hx ix (by simp [Op.operands])
  obtain ⟨_, de, _, hu, _, _, _, _, _, hd⟩ := hT.ok t (by rw [hk]; simp)
  rw [hk] at hd; simp only [TK.is] at hd; subst hd
  rw [hi0] at h'
  generalize hv' : a.eval ix = vi at h'
  cases h'
  have hrun : ∀ (ad : Addr) (len c : Nat), a.eval x = .slice (some ad) len c → 0 ≤ i → i < len → (execOp a.eval o).run P w = .ok (.value (.pointer (some (ad.add (i.toNat * (T e).size))))) w := by
    intro ad len c had h1 h2
    simp only [execOp, ho, had, hv', Instr.indexAt, asIntOf, Sem.run_bind, run_underlying hu, Result.andThen_ok, Sem.run_pure, if_pos (show 0 ≤ i ∧ i < (len : Int) from ⟨h1, h2⟩), run_size hT hn]
  split at hr
  · rename_i sz xs hx0
    obtain ⟨rfl, h1, h2, rfl⟩ := hr
    rw [hx0] at h
    generalize hv : a.eval x = vx at h
    cases h with
    | lst _ _ A n' c ad y hn' hc hA hs hk' h1' hh =>
      have hlt : i.toNat < xs.length := by omega
      have hne : xs ≠ [] := by intro e; rw [e] at hlt; simp at hlt
      rw [hA hne] at hv
      refine ⟨_, hrun ad n' c hv h1 (by omega), ?_⟩
      have hgd : xs[i.toNat]? = some (xs.getD i.toNat .top) := by rw [List.getD_eq_getElem?_getD]; simp [hlt]
      refine .rptr _ _ (fun j => y i.toNat j) ?_ ?_ ?_
      · intro j b hb; rw [add_add]; exact hk' _ _ j b hgd hb
      · intro j b hb; exact h1' _ _ j b hgd hb
      · intro j b hb; exact hh _ _ j b hgd hb
  · rename_i id off len hx0
    obtain ⟨hb, h1, h2, rfl, rfl⟩ := hr
    rw [hx0] at h
    generalize hv : a.eval x = vx at h
    cases h with
    | arr _ _ _ g o' c hd hg ho' hc hl =>
      refine ⟨_, hrun _ _ _ hv h1 h2, ?_⟩
      cases hHi : H id with
      | none => rw [hHi] at hb; exact hb.elim
      | some b =>
        rw [hHi] at hb
        have hown := hrel.own id b ((hH id (by simp)).trans hHi)
        have hsz : E.sz id = (T e).size := hown.2.1.trans hb
        have hoo : o' = off * E.sz id := ho'.resolve_left (by omega)
        rw [add_plain', hoo, ← hsz, ← Nat.add_mul]
        exact .ptr id (off + i.toNat) 0 g hd hg
    | arr0 _ hd hg => omega
  · exact hr.elim

theorem looks_indexAddr_arr (hT : TOk P T) (t : TypeId) (x ix : Operand) (m : Nat) (e : TypeId) (k : IntKind) (i : Int) (r : AV) (hk : (T t).k = .arr m e) (hi0 : ρ ix = .v (.int k i)) (hn : (T e).k ≠ .none) (h1 : 0 ≤ i) (h2 : i < m)
    (hr : match ρ x with
      | .ptr id j off => r = .ptr id j (off + i.toNat * (T e).size)
      | .rptr cs => r = .rptr (cs.drop (i.toNat * (T e).size))
      | _ => False) : Looks P (.indexAddr t x ix) ρ H r [] := by
  intro o ho w0 K0 D E n fr hp a w hrel hx hH
  have h := hx x (by simp [Op.operands])
  have h' := hx ix (by simp [Op.operands])
  obtain ⟨_, de, _, hu, _, _, _, _, _, hd⟩ := hT.ok t (by rw [hk]; simp)
  rw [hk] at hd; simp only [TK.is] at hd; subst hd
  rw [hi0] at h'
  generalize hv' : a.eval ix = vi at h'
  cases h'
  have hrun : ∀ (ad : Addr), a.eval x = .pointer (some ad) → (execOp a.eval o).run P w = .ok (.value (.pointer (some (ad.add (i.toNat * (T e).size))))) w := by
    intro ad had
    simp only [execOp, ho, had, hv', Instr.indexAt, Instr.sureAddr, asIntOf, Sem.run_bind, run_underlying hu, Result.andThen_ok, Sem.run_pure, if_pos (show 0 ≤ i ∧ i < (m : Int) from ⟨h1, h2⟩), run_size hT hn]
  split at hr
  · rename_i id j off hx0
    subst hr
    rw [hx0] at h
    generalize hv : a.eval x = vx at h
    cases h with
    | ptr _ _ _ g hd hg =>
      refine ⟨_, hrun _ hv, ?_⟩
      rw [add_plain', Nat.add_assoc]
      exact .ptr id j _ g hd hg
  · rename_i cs hx0
    subst hr
    rw [hx0] at h
    generalize hv : a.eval x = vx at h
    cases h with
    | rptr _ ad y q1 q2 q3 => exact ⟨_, hrun _ hv, Con.rptr_drop (.rptr cs ad y q1 q2 q3) _⟩
  · exact hr.elim

end

end Go.Vai
