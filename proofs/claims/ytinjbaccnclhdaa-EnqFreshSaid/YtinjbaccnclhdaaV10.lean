/- The operations that write what the call has made: a store. -/
import Derived.Test.YtinjbaccnclhdaaV9
namespace Go.Vai
open Go.RowKit

theorem getElem?_splice (l m : List Value) (o : Nat) (ho : o + m.length ≤ l.length) (k : Nat) :
    (l.take o ++ m ++ l.drop (o + m.length))[k]? = if o ≤ k ∧ k < o + m.length then m[k - o]? else l[k]? := by
  have htl : (l.take o).length = o := by simp; omega
  rw [List.append_assoc, List.getElem?_append, htl]
  by_cases h1 : k < o
  · rw [if_pos h1, if_neg (by omega), List.getElem?_take, if_pos h1]
  · rw [if_neg h1, List.getElem?_append]
    by_cases h2 : k - o < m.length
    · rw [if_pos h2, if_pos ⟨by omega, by omega⟩]
    · rw [if_neg h2, if_neg (by omega), List.getElem?_drop]
      congr 1; omega

theorem getElem?_spliceA (l m : List AV) (o : Nat) (ho : o + m.length ≤ l.length) (k : Nat) :
    (l.take o ++ m ++ l.drop (o + m.length))[k]? = if o ≤ k ∧ k < o + m.length then m[k - o]? else l[k]? := by
  have htl : (l.take o).length = o := by simp; omega
  rw [List.append_assoc, List.getElem?_append, htl]
  by_cases h1 : k < o
  · rw [if_pos h1, if_neg (by omega), List.getElem?_take, if_pos h1]
  · rw [if_neg h1, List.getElem?_append]
    by_cases h2 : k - o < m.length
    · rw [if_pos h2, if_pos ⟨by omega, by omega⟩]
    · rw [if_neg h2, if_neg (by omega), List.getElem?_drop]
      congr 1; omega

/-- The cells of an element of which some are written. -/
theorem setCells_cells {x y : AV} {n off : Nat} (hw : y.wr n = true) (hf : off + n ≤ x.cells.length) (h0 : 0 < n) :
    (setCells x off y.cells).cells.length = x.cells.length ∧ ∀ j, (setCells x off y.cells).cells[j]? = if off ≤ j ∧ j < off + n then y.cells[j - off]? else x.cells[j]? := by
  have hwl : y.cells.length = n := by simp only [AV.wr, Bool.and_eq_true, beq_iff_eq] at hw; exact hw.1
  have plain : x.cells = [x] → setCells x off y.cells = y.cells.headD .top →
      (setCells x off y.cells).cells.length = x.cells.length ∧ ∀ j, (setCells x off y.cells).cells[j]? = if off ≤ j ∧ j < off + n then y.cells[j - off]? else x.cells[j]? := by
    intro e1 e2
    rw [e1] at hf ⊢
    simp only [List.length_singleton] at hf
    have hn : n = 1 := by omega
    have ho : off = 0 := by omega
    subst hn ho
    obtain ⟨c, hc⟩ : ∃ c, y.cells = [c] := by
      match y.cells, hwl with
      | [c], _ => exact ⟨c, rfl⟩
    have hc1 : c.ok1 = true := by
      simp only [AV.wr, Bool.and_eq_true, List.all_eq_true] at hw
      exact hw.2 c (by rw [hc]; simp)
    have hcc : c.cells = [c] := by cases c <;> first | rfl | (simp [AV.ok1] at hc1; done)
    rw [e2, hc]
    simp only [List.headD_cons, hcc]
    refine ⟨rfl, fun j => ?_⟩
    by_cases hj : j = 0
    · subst hj; simp
    · rw [if_neg (by omega), List.getElem?_eq_none (by simp; omega), List.getElem?_eq_none (by simp; omega)]
  cases x with
  | agg xs =>
    have hf : off + n ≤ xs.length := hf
    subst hwl
    show (xs.take off ++ y.cells ++ xs.drop (off + y.cells.length)).length = xs.length ∧ ∀ j, (xs.take off ++ y.cells ++ xs.drop (off + y.cells.length))[j]? = if off ≤ j ∧ j < off + y.cells.length then y.cells[j - off]? else xs[j]?
    refine ⟨by simp only [List.length_append, List.length_take, List.length_drop]; omega, fun j => ?_⟩
    exact getElem?_spliceA xs y.cells off hf j
  | _ => exact plain rfl rfl

section
variable {P : Program} {T : TEnv} {ρ : Operand → AV} {H : Nat → Option Blk} {me : Nat}

theorem sound_store (hT : TOk P T) (t : TypeId) (x y : Operand) (id i off : Nat) (b : Blk) (hn : (T t).k ≠ .none) (hx0 : ρ x = .ptr id i off) (hb : H id = some b) (hro : b.ro = false) (hi : i < b.el.length)
    (hf : off + (T t).size ≤ (b.el.getD i .top).cells.length) (hw : (ρ y).wr (T t).size = true) (hsz : (b.el.getD i .top).cells.length = b.sz) (h0 : 0 < (T t).size) :
    OpSound P (.store t x y) ρ H me .top [(id, some { b with el := b.el.set i (setCells (b.el.getD i .top) off (ρ y).cells) })] [id] := by
  intro o ho w0 K0 D E n fr hp a w hrel hx hH hme
  have h := hrel.ev x
  rw [hx x (by simp [Op.operands]), hx0] at h
  have hy := hrel.ev y
  rw [hx y (by simp [Op.operands])] at hy
  obtain ⟨hv1, hv2, hv3⟩ := hy.cells hw
  have hbl : hlk hp id = some b := (hH id (by simp)).trans hb
  generalize hv : a.eval x = vx at h
  cases h with
  | ptr _ _ _ g hd hg =>
    obtain ⟨_, hs, hp0, _, hown⟩ := hrel.own id b hbl
    rcases hown with ⟨h1', _⟩ | ⟨g', cur, hg', hB, hc, hcs, hel, _, _, hE⟩
    · rw [h1'] at hg; cases hg
    · rw [hg'] at hg; cases hg
      have hgd : b.el[i]? = some (b.el.getD i .top) := by rw [List.getD_eq_getElem?_getD]; simp [hi]
      generalize b.el.getD i .top = x0 at hf hsz hgd ⊢
      have hin : (i + 1) * b.sz ≤ E.cap id * b.sz := Nat.mul_le_mul_right _ (by omega)
      rw [Nat.add_mul, Nat.one_mul] at hin
      have hfit : i * b.sz + off + (T t).size ≤ cur.size := by rw [hcs]; omega
      have hrun := run_storeVar hT hn w g (i * b.sz + off) b.ty cur (a.eval y) hv1 hc hfit hv2
      generalize hcur : (cur.toList.take (i * b.sz + off) ++ (a.eval y).cells.toList ++ cur.toList.drop (i * b.sz + off + (a.eval y).cells.toList.length)).toArray = cur' at hrun
      have hvl : (a.eval y).cells.toList.length = (T t).size := by simpa using hv1
      have hget : ∀ k, cur'[k]? = if i * b.sz + off ≤ k ∧ k < i * b.sz + off + (T t).size then (a.eval y).cells[k - (i * b.sz + off)]? else cur[k]? := by
        intro k
        rw [← hcur, List.getElem?_toArray, getElem?_splice _ _ _ (by rw [hvl]; simpa using hfit), hvl, Array.getElem?_toList, Array.getElem?_toList]
      have hsize : cur'.size = cur.size := by
        rw [← hcur]; simp only [List.size_toArray, List.length_append, List.length_take, List.length_drop, hvl, Array.length_toList]; omega
      obtain ⟨hx1, hx2⟩ := setCells_cells (x := x0) hw hf h0
      refine ⟨.skip, undef, w.setRow g cur', E, ?_, .inr ⟨rfl, rfl⟩, Env.le.refl E, .top _, ?_⟩
      · simp only [execOp, ho, hv, Instr.storeAt, Instr.sureAddr, Sem.run_bind, Sem.run_pure, Result.andThen_ok, hs, hrun]
      · refine (hrel.write hbl hro hg' hc cur' hsize _ (by simp) ?_).names fun id' hd' => .inl (hrel.dom id' hd')
        intro k z hz
        rw [List.getElem?_set] at hz
        by_cases hk : i = k
        · subst hk
          rw [if_pos rfl, if_pos hi] at hz
          cases hz
          refine ⟨hx1.trans hsz, fun j u hu => ?_⟩
          rw [hx2 j] at hu
          rw [hget]
          by_cases hj : off ≤ j ∧ j < off + (T t).size
          · rw [if_pos hj] at hu
            rw [if_pos ⟨by omega, by omega⟩, show i * b.sz + j - (i * b.sz + off) = j - off by omega]
            exact hv3 _ u hu
          · rw [if_neg hj] at hu
            rw [if_neg (by omega)]
            exact (hE i x0 hgd).2 j u hu
        · rw [if_neg hk] at hz
          obtain ⟨g1, g2⟩ := hE k z hz
          refine ⟨g1, fun j u hu => ?_⟩
          have hjl : j < b.sz := by rw [← g1]; exact (List.getElem?_eq_some_iff.1 hu).1
          rw [hget, if_neg]
          · exact g2 j u hu
          · rcases Nat.lt_or_gt_of_ne hk with hlt | hlt
            · have := Nat.mul_le_mul_right b.sz hlt; rw [Nat.succ_mul] at this; omega
            · have := Nat.mul_le_mul_right b.sz hlt; rw [Nat.succ_mul] at this; omega
end

end Go.Vai
