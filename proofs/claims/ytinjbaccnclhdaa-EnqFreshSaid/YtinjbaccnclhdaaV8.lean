/- Structs, arrays and slices that are built of parts. -/
import Derived.Test.YtinjbaccnclhdaaV7
namespace Go.Vai
open Go.RowKit

theorem fold_set (off : Nat) : ∀ (l : List Value) (s : Nat) (cs : Array Value),
    (((l.zipIdx s).foldl (fun cs (x : Value × Nat) => cs.setIfInBounds (off + x.2) x.1) cs).size = cs.size) ∧
    ∀ k, ((l.zipIdx s).foldl (fun cs (x : Value × Nat) => cs.setIfInBounds (off + x.2) x.1) cs)[k]? =
      if off + s ≤ k ∧ k < off + s + l.length ∧ k < cs.size then l[k - (off + s)]? else cs[k]?
  | [], s, cs => by
    refine ⟨rfl, fun k => ?_⟩
    rw [if_neg (by simp; omega)]; rfl
  | v :: l, s, cs => by
    obtain ⟨h1, h2⟩ := fold_set off l (s + 1) (cs.setIfInBounds (off + s) v)
    simp only [List.zipIdx_cons, List.foldl_cons]
    refine ⟨by rw [h1]; simp, fun k => ?_⟩
    rw [h2 k]
    simp only [Array.size_setIfInBounds, List.length_cons]
    by_cases hk : k = off + s
    · subst hk
      rw [if_neg (by omega)]
      by_cases hb : off + s < cs.size
      · rw [if_pos ⟨Nat.le_refl _, by omega, hb⟩, Array.getElem?_setIfInBounds_self_of_lt hb]; simp
      · rw [if_neg (by omega)]
        rw [Array.getElem?_eq_none (by simp; omega), Array.getElem?_eq_none (by omega)]
    · by_cases hc : off + (s + 1) ≤ k ∧ k < off + (s + 1) + l.length ∧ k < cs.size
      · rw [if_pos hc, if_pos ⟨by omega, by omega, hc.2.2⟩]
        obtain ⟨m, hm⟩ : ∃ m, k - (off + s) = m + 1 := ⟨k - (off + s) - 1, by omega⟩
        rw [hm, List.getElem?_cons_succ]
        congr 1; omega
      · rw [if_neg hc, if_neg (by omega), Array.getElem?_setIfInBounds_ne (by omega)]

/-- Cells of a value that is made. -/
def CellsCon (E : Env) (cs : List AV) (xs : Array Value) : Prop := cs.length = xs.size ∧ ∀ (i : Nat) (a : AV) (x : Value), cs[i]? = some a → xs[i]? = some x → Con E a x

def PartsCon (E : Env) : List (Nat × AV) → List (Nat × Value) → Prop
  | [], [] => True
  | (i, a) :: ps, (j, v) :: qs => i = j ∧ Con E a v ∧ PartsCon E ps qs
  | _, _ => False

theorem partsCon_map {E : Env} {a : Act} {ρ : Operand → AV} : ∀ (l : List (Nat × Operand)), (∀ p ∈ l, Con E (ρ p.2) (a.eval p.2)) → PartsCon E (l.map fun p => (p.1, ρ p.2)) (l.map fun p => (p.1, a.eval p.2))
  | [], _ => trivial
  | p :: l, h => ⟨rfl, h p List.mem_cons_self, partsCon_map l fun q hq => h q (List.mem_cons_of_mem _ hq)⟩

theorem fill_con {E : Env} (place : Nat → Option (Nat × Nat)) : ∀ (ps : List (Nat × AV)) (qs : List (Nat × Value)) (cs cs' : List AV) (xs : Array Value), PartsCon E ps qs → CellsCon E cs xs → fillA place cs ps = some cs' →
    ∃ xs', Instr.fill place xs qs = some xs' ∧ CellsCon E cs' xs'
  | [], qs, cs, cs', xs, hp, hc, h => by
    cases qs with
    | nil => simp only [fillA, Option.some.injEq] at h; subst h; exact ⟨xs, rfl, hc⟩
    | cons q qs => exact hp.elim
  | (i, x) :: ps, qs, cs, cs', xs, hp, hc, h => by
    cases qs with
    | nil => exact hp.elim
    | cons q qs =>
      obtain ⟨j, v⟩ := q
      obtain ⟨rfl, hx, hp⟩ := hp
      simp only [fillA] at h
      cases hpl : place i with
      | none => rw [hpl] at h; cases h
      | some os =>
        obtain ⟨off, size⟩ := os
        rw [hpl] at h
        simp only at h
        split at h
        · rename_i hcond
          obtain ⟨hw, hfit⟩ := hcond
          obtain ⟨hsz, _, hcell⟩ := hx.cells hw
          have hwl : x.cells.length = size := by simp only [AV.wr, Bool.and_eq_true, beq_iff_eq] at hw; exact hw.1
          obtain ⟨f1, f2⟩ := fold_set off v.cells.toList 0 xs
          have hfold : v.cells.zipIdx.foldl (fun cs (x : Value × Nat) => cs.setIfInBounds (off + x.2) x.1) xs = (v.cells.toList.zipIdx 0).foldl (fun cs (x : Value × Nat) => cs.setIfInBounds (off + x.2) x.1) xs := by
            rw [← Array.foldl_toList, Array.toList_zipIdx]
          have hcc : CellsCon E (cs.take off ++ x.cells ++ cs.drop (off + size)) ((v.cells.toList.zipIdx 0).foldl (fun cs (x : Value × Nat) => cs.setIfInBounds (off + x.2) x.1) xs) := by
            refine ⟨by rw [f1, ← hc.1]; simp only [List.length_append, List.length_take, List.length_drop]; omega, ?_⟩
            intro k b y hb hy
            rw [f2 k] at hy
            simp only [Nat.add_zero, Array.length_toList] at hy
            rw [List.append_assoc, List.getElem?_append] at hb
            have htl : (cs.take off).length = off := by simp; omega
            rw [htl] at hb
            by_cases h1 : k < off
            · rw [if_pos h1] at hb
              rw [if_neg (by omega)] at hy
              rw [List.getElem?_take, if_pos h1] at hb
              exact hc.2 k b y hb hy
            · rw [if_neg h1, List.getElem?_append, hwl] at hb
              by_cases h2 : k - off < size
              · rw [if_pos h2] at hb
                rw [if_pos ⟨by omega, by omega, by rw [← hc.1]; omega⟩] at hy
                obtain ⟨z, hz, _, hzc⟩ := hcell _ b hb
                rw [Array.getElem?_toList, hz] at hy
                cases hy
                exact hzc
              · rw [if_neg h2, List.getElem?_drop] at hb
                rw [if_neg (by omega)] at hy
                have : off + size + (k - off - size) = k := by omega
                rw [this] at hb
                exact hc.2 k b y hb hy
          obtain ⟨xs', hx1, hx2⟩ := fill_con place ps qs _ cs' _ hp hcc h
          refine ⟨xs', ?_, hx2⟩
          · simp only [Instr.fill, hpl]
            rw [if_neg (by simp only [Bool.or_eq_true, decide_eq_true_eq, not_or]; exact ⟨by simp [hsz], by rw [hsz, ← hc.1]; omega⟩), hfold]
            exact hx1
        · cases h

theorem ofVal_con (E : Env) (z : Value) : Con E (ofVal z) z := by
  cases z <;> first
    | exact .v _
    | (refine .agg _ _ (by simp) ?_
       intro i a x ha hx
       simp only [List.getElem?_map, Option.map_eq_some_iff, Array.getElem?_toList] at ha
       obtain ⟨y, hy, rfl⟩ := ha
       rw [hx] at hy; cases hy
       exact .v _)

theorem ofVal_cells (E : Env) (z : Value) : CellsCon E (ofVal z).cells z.cells := by
  cases z <;> first
    | (refine ⟨rfl, ?_⟩
       intro i a x ha hx
       match i with
       | 0 => simp [ofVal, AV.cells, Value.cells] at ha hx; subst ha hx; exact .v _
       | i + 1 => simp [Value.cells] at hx)
    | (refine ⟨by simp [ofVal, AV.cells, Value.cells], ?_⟩
       intro i a x ha hx
       simp only [ofVal, AV.cells, Value.cells, List.getElem?_map, Option.map_eq_some_iff, Array.getElem?_toList] at ha hx
       obtain ⟨y, hy, rfl⟩ := ha
       rw [hx] at hy; cases hy
       exact .v _)

section
variable {P : Program} {T : TEnv} {ρ : Operand → AV} {H : Nat → Option Blk} {me : Nat}

theorem looks_build (hT : TOk P T) (t : TypeId) (parts : Array (Nat × Operand)) (cs : List AV)
    (h : match (T t).k with
      | .struct fs => fillA (fun i => (fs[i]?).map fun f => (f.1, (T f.2).size)) (ofVal (T t).zero).cells (parts.toList.map fun p => (p.1, ρ p.2)) = some cs ∧ (fs.all fun f => (T f.2).k ≠ .none) = true
      | .arr _ e => fillA (fun i => some (i * (T e).size, (T e).size)) (ofVal (T t).zero).cells (parts.toList.map fun p => (p.1, ρ p.2)) = some cs ∧ (T e).k ≠ .none
      | _ => False) : Looks P (.build t parts) ρ H (.agg cs) [] := by
  intro o ho w0 K0 D E n fr hp a w hrel hx hH
  have hparts : PartsCon E (parts.toList.map fun p => (p.1, ρ p.2)) ((parts.map fun (p : Nat × Operand) => (p.1, a.eval p.2)).toList) := by
    rw [Array.toList_map]
    refine partsCon_map parts.toList fun p hp => hx p.2 ?_
    simp only [Op.operands]
    simp only [List.mem_toArray, List.mem_map]
    exact ⟨p, hp, rfl⟩
  have fin : ∀ xs, P.built t (parts.map fun (p : Nat × Operand) => (p.1, a.eval p.2)).toList = some xs → CellsCon E cs xs → ∃ v, (execOp a.eval o).run P w = .ok (.value v) w ∧ Con E (.agg cs) v := by
    intro xs hb hc
    refine ⟨.agg xs, ?_, .agg _ _ hc.1 hc.2⟩
    have := run_build w t (parts.map fun (p : Nat × Operand) => (p.1, a.eval p.2)) xs hb
    simp only [execOp, ho, Sem.run_bind, this, Result.andThen_ok, Sem.run_pure]
  split at h
  · rename_i fs hk
    obtain ⟨hf, hall⟩ := h
    obtain ⟨it, de, hit, hu, _, _, hz, _, _, hd⟩ := hT.ok t (by rw [hk]; simp)
    rw [hk] at hd; simp only [TK.is] at hd
    obtain ⟨fa, rfl, hfs, _⟩ := hd
    obtain ⟨xs, hxs, hcc⟩ := fill_con (E := E) _ _ _ _ _ _ hparts (ofVal_cells E (T t).zero) hf
    refine fin xs ?_ hcc
    have hpl : fa.toList.mapM (fun f => (P.info? f.type).map fun i => (f.offset, i.size)) = some (fs.map fun f => (f.1, (T f.2).size)) := by
      rw [← hfs] at hall ⊢
      clear hf hfs hu hk
      generalize fa.toList = l0 at hall ⊢
      induction l0 with
      | nil => rfl
      | cons f l ih =>
        rw [List.map_cons, List.all_cons, Bool.and_eq_true] at hall
        obtain ⟨i, d, hi, _, hs, _⟩ := hT.ok f.type (of_decide_eq_true hall.1)
        simp only [List.mapM_cons, hi, Option.map_some, Option.bind_eq_bind, Option.bind_some, Option.pure_def, ih hall.2, List.map_cons, hs]
    simp only [Program.built, hit, hu, hz, hpl]
    rw [← hxs]
    congr 1
    funext i
    simp
  · rename_i m e hk
    obtain ⟨hf, hn⟩ := h
    obtain ⟨it, de, hit, hu, _, _, hz, _, _, hd⟩ := hT.ok t (by rw [hk]; simp)
    rw [hk] at hd; simp only [TK.is] at hd; subst hd
    obtain ⟨ie, _, hie, _, hs, _⟩ := hT.ok e hn
    obtain ⟨xs, hxs, hcc⟩ := fill_con (E := E) _ _ _ _ _ _ hparts (ofVal_cells E (T t).zero) hf
    refine fin xs ?_ hcc
    simp only [Program.built, hit, hu, hz, hie, hs]
    exact hxs
  · exact h.elim

end

end Go.Vai
