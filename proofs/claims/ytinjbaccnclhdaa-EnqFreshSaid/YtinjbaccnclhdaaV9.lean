/- The operations that make blocks, or write them. -/
import Derived.Test.YtinjbaccnclhdaaV8
namespace Go.Vai
open Go.RowKit

/-- The cells of one value, as an element. -/
theorem els_one {E : Env} {a : AV} {v : Value} {n : Nat} (h : Con E a v) (hw : a.wr n = true) : Els E v.cells n [a] := by
  obtain ⟨_, _, hc⟩ := h.cells hw
  have hwl : a.cells.length = n := by simp only [AV.wr, Bool.and_eq_true, beq_iff_eq] at hw; exact hw.1
  intro i b hb
  match i with
  | 0 =>
    simp at hb; subst hb
    refine ⟨hwl, fun j x hj => ?_⟩
    obtain ⟨y, h1, h2, h3⟩ := hc j x hj
    exact ⟨y, by simpa using h1, h2, h3⟩
  | i + 1 => simp at hb

theorem els_ofVal (E : Env) {z : Value} {n : Nat} (hs : z.cells.size = n) (h1 : ∀ u ∈ z.cells.toList, u.oneCell' = true) :
    (ofVal z).cells.length = n ∧ ∀ (j : Nat) (x : AV), (ofVal z).cells[j]? = some x → ∃ y, z.cells[j]? = some y ∧ y.oneCell' = true ∧ Con E x y := by
  obtain ⟨hl, hc⟩ := ofVal_cells E z
  refine ⟨by omega, fun j x hj => ?_⟩
  have hlt : j < z.cells.size := by rw [← hl]; exact (List.getElem?_eq_some_iff.1 hj).1
  have hy : z.cells[j]? = some z.cells[j] := by simp [hlt]
  exact ⟨_, hy, h1 _ (by simp), hc j x _ hj hy⟩

section
variable {P : Program} {T : TEnv} {ρ : Operand → AV} {H : Nat → Option Blk} {me : Nat}

theorem sound_new (op : Op) (t : TypeId) (sz : Nat) (el : List AV) (hsz : 0 < sz) (acc : List Nat) (r : AV)
    (hr : ∀ (o : Oper), o.op = op → ∀ (w0 : World) (K0 : Nat → Option Obj) (D : Nat → Prop) (E : Env) (n : Nat) (fr : Frm) (hp : Hp) (a : Act) (w : World),
      Rel w0 K0 D E n fr hp a w → (∀ x ∈ op.operands, Con E (ρ x) (a.eval x)) → (∀ id ∈ acc, hlk hp id = H id) →
      ∃ cs cap v, (execOp a.eval o).run P w = .ok (.value v) (w.alloc (.cells cs t (0, 0))) ∧ cap ≤ maxLen ∧ cs.size = cap * sz ∧ el.length ≤ cap ∧ Els E cs sz el ∧
        (∀ E' : Env, E'.dom me → E'.ρ me = some w.heap.size → E'.cap me = cap → Con E' r v)) :
    OpSound P op ρ H me r [(me, some ⟨false, t, sz, el⟩)] acc := by
  intro o ho w0 K0 D E n fr hp a w hrel hx hH hme
  obtain ⟨cs, cap, v, h1, h2, h3, h4, h5, h6⟩ := hr o ho w0 K0 D E n fr hp a w hrel (fun x hxo => by rw [← hx x hxo]; exact hrel.ev x) hH
  have hle := Env.le_add hme (some w.heap.size) sz cap
  exact ⟨_, v, _, E.add me (some w.heap.size) sz cap, h1, .inl rfl, hle, h6 _ (.inl rfl) (if_pos rfl) (if_pos rfl), hrel.alloc hme (fun _ h => h) cs t sz cap el hsz h2 h3 h4 (h5.mono hle)⟩

theorem sound_alloc (hT : TOk P T) (t : TypeId) (hn : (T t).k ≠ .none) (h0 : 0 < (T t).size) :
    OpSound P (.alloc t) ρ H me (.ptr me 0 0) [(me, some ⟨false, t, (T t).size, [ofVal (T t).zero]⟩)] [] := by
  refine sound_new _ t _ _ h0 _ _ fun o ho w0 K0 D E n fr hp a w hrel hx hH => ?_
  obtain ⟨i, d, hi, _, _, _, hz, hzs, hz1, _⟩ := hT.ok t hn
  refine ⟨(T t).zero.cells, 1, .pointer (some ⟨w.heap.size, 0, none⟩), ?_, by decide, by omega, by simp, ?_, ?_⟩
  · simp only [execOp, ho, Instr.alloc, Sem.run_bind, run_zero hT hn, Result.andThen_ok, newVar, newRow, run_newObj, Sem.run_pure]
    rfl
  · intro i b hb
    match i with
    | 0 =>
      simp at hb; subst hb
      obtain ⟨h1, h2⟩ := els_ofVal E hzs hz1
      exact ⟨h1, fun j x hj => by simpa using h2 j x hj⟩
    | i + 1 => simp at hb
  · intro E' h1 h2 h3
    have := Con.ptr (E := E') me 0 0 w.heap.size h1 h2
    simpa using this

theorem sound_box (t : TypeId) (x : Operand) (n0 : Nat) (h0 : 0 < n0) (hw : (ρ x).wr n0 = true) :
    OpSound P (.box t x) ρ H me (.ptr me 0 0) [(me, some ⟨false, t, n0, [ρ x]⟩)] [] := by
  refine sound_new _ t _ _ h0 _ _ fun o ho w0 K0 D E n fr hp a w hrel hx hH => ?_
  have h := hx x (by simp [Op.operands])
  refine ⟨(a.eval x).cells, 1, .pointer (some ⟨w.heap.size, 0, none⟩), ?_, by decide, by rw [(h.cells hw).1, Nat.one_mul], by simp, els_one h hw, ?_⟩
  · simp only [execOp, ho, Instr.box, Sem.run_bind, Result.andThen_ok, newVar, newRow, run_newObj, Sem.run_pure]
    rfl
  · intro E' h1 h2 h3
    have := Con.ptr (E := E') me 0 0 w.heap.size h1 h2
    simpa using this

theorem setElems_con {E : Env} (sz : Nat) : ∀ (ps : List (Nat × AV)) (qs : List (Nat × Value)) (el el' : List AV) (xs : Array Value), PartsCon E ps qs → Els E xs sz el → xs.size = el.length * sz → setElems sz el ps = some el' →
    ∃ xs', Instr.fill (fun i => some (i * sz, sz)) xs qs = some xs' ∧ Els E xs' sz el' ∧ xs'.size = xs.size ∧ el'.length = el.length
  | [], qs, el, el', xs, hp, hE, hs, h => by
    cases qs with
    | nil => simp only [setElems, Option.some.injEq] at h; subst h; exact ⟨xs, rfl, hE, rfl, rfl⟩
    | cons q qs => exact hp.elim
  | (i, x) :: ps, qs, el, el', xs, hp, hE, hs, h => by
    cases qs with
    | nil => exact hp.elim
    | cons q qs =>
      obtain ⟨j, v⟩ := q
      obtain ⟨rfl, hx, hp⟩ := hp
      simp only [setElems] at h
      split at h
      · rename_i hcond
        obtain ⟨hw, hi⟩ := hcond
        obtain ⟨hsz, _, hcell⟩ := hx.cells hw
        have hwl : x.cells.length = sz := by simp only [AV.wr, Bool.and_eq_true, beq_iff_eq] at hw; exact hw.1
        obtain ⟨f1, f2⟩ := fold_set (i * sz) v.cells.toList 0 xs
        have hfold : v.cells.zipIdx.foldl (fun cs (x : Value × Nat) => cs.setIfInBounds (i * sz + x.2) x.1) xs = (v.cells.toList.zipIdx 0).foldl (fun cs (x : Value × Nat) => cs.setIfInBounds (i * sz + x.2) x.1) xs := by
          rw [← Array.foldl_toList, Array.toList_zipIdx]
        have hin : (i + 1) * sz ≤ el.length * sz := Nat.mul_le_mul_right _ hi
        rw [Nat.add_mul, Nat.one_mul] at hin
        have hcc : Els E ((v.cells.toList.zipIdx 0).foldl (fun cs (x : Value × Nat) => cs.setIfInBounds (i * sz + x.2) x.1) xs) sz (el.set i x) := by
          intro k b hb
          rw [List.getElem?_set] at hb
          by_cases hk : i = k
          · subst hk
            rw [if_pos rfl, if_pos hi] at hb
            cases hb
            refine ⟨hwl, fun j y hj => ?_⟩
            obtain ⟨z, hz1, hz2, hz3⟩ := hcell j y hj
            have hjl : j < sz := by rw [← hwl]; exact (List.getElem?_eq_some_iff.1 hj).1
            refine ⟨z, ?_, hz2, hz3⟩
            rw [f2, if_pos ⟨by omega, by simp [hsz]; omega, by rw [hs]; omega⟩, Array.getElem?_toList]
            rw [show i * sz + j - (i * sz + 0) = j by omega]
            exact hz1
          · rw [if_neg hk] at hb
            obtain ⟨g1, g2⟩ := hE k b hb
            refine ⟨g1, fun j y hj => ?_⟩
            obtain ⟨z, hz1, hz2, hz3⟩ := g2 j y hj
            have hjl : j < sz := by rw [← g1]; exact (List.getElem?_eq_some_iff.1 hj).1
            refine ⟨z, ?_, hz2, hz3⟩
            rw [f2, if_neg, hz1]
            intro hc
            simp only [Array.length_toList, hsz] at hc
            rcases Nat.lt_or_gt_of_ne hk with hlt | hlt
            · have := Nat.mul_le_mul_right sz hlt; rw [Nat.succ_mul] at this; omega
            · have := Nat.mul_le_mul_right sz hlt; rw [Nat.succ_mul] at this; omega
        obtain ⟨xs', hx1, hx2, hx3, hx4⟩ := setElems_con sz ps qs _ el' _ hp hcc (by rw [f1, hs]; simp) h
        refine ⟨xs', ?_, hx2, by rw [hx3, f1], by rw [hx4]; simp⟩
        simp only [Instr.fill]
        rw [if_neg (by simp only [Bool.or_eq_true, decide_eq_true_eq, not_or]; exact ⟨by simp [hsz], by rw [hsz, hs]; omega⟩), hfold]
        exact hx1
      · cases h

theorem sound_buildSlice (hT : TOk P T) (t : TypeId) (len : Nat) (parts : Array (Nat × Operand)) (e : TypeId) (el : List AV) (hk : (T t).k = .slice e) (hn : (T e).k ≠ .none) (h0 : 0 < (T e).size) (hl : len * (T e).size ≤ 16777216)
    (hs : setElems (T e).size (List.replicate len (ofVal (T e).zero)) (parts.toList.map fun p => (p.1, ρ p.2)) = some el) :
    OpSound P (.buildSlice t len parts) ρ H me (.arr me 0 len) [(me, some ⟨false, e, (T e).size, el⟩)] [] := by
  refine sound_new _ e _ _ h0 _ _ fun o ho w0 K0 D E n fr hp a w hrel hx hH => ?_
  obtain ⟨_, de, _, hu, _, _, _, _, _, hd⟩ := hT.ok t (by rw [hk]; simp)
  rw [hk] at hd; simp only [TK.is] at hd; subst hd
  obtain ⟨i, d, hi, _, _, _, hz, hzs, hz1, _⟩ := hT.ok e hn
  have hparts : PartsCon E (parts.toList.map fun p => (p.1, ρ p.2)) ((parts.map fun (p : Nat × Operand) => (p.1, a.eval p.2)).toList) := by
    rw [Array.toList_map]
    refine partsCon_map parts.toList fun p hp => hx p.2 ?_
    simp only [Op.operands, List.mem_toArray, List.mem_map]
    exact ⟨p, hp, rfl⟩
  have hinit : Els E ((Array.range (len * (T e).size)).map fun q => (T e).zero.cells[q % (T e).zero.cells.size]!) (T e).size (List.replicate len (ofVal (T e).zero)) := by
    intro k b hb
    rw [List.getElem?_replicate] at hb
    split at hb
    · rename_i hkl
      cases hb
      obtain ⟨g1, g2⟩ := els_ofVal E hzs hz1
      refine ⟨g1, fun j x hj => ?_⟩
      obtain ⟨y, hy1, hy2, hy3⟩ := g2 j x hj
      have hjl : j < (T e).size := by rw [← g1]; exact (List.getElem?_eq_some_iff.1 hj).1
      refine ⟨y, ?_, hy2, hy3⟩
      have hin : (k + 1) * (T e).size ≤ len * (T e).size := Nat.mul_le_mul_right _ hkl
      rw [Nat.add_mul, Nat.one_mul] at hin
      have hlt : k * (T e).size + j < len * (T e).size := by omega
      simp only [Array.getElem?_map, Array.getElem?_range, hlt, if_true, Option.map_some]
      rw [hzs, Nat.mul_comm k, Nat.mul_add_mod, Nat.mod_eq_of_lt hjl, getElem!_def, hy1]
    · cases hb
  obtain ⟨xs, hx1, hx2, hx3, hx4⟩ := setElems_con (T e).size _ _ _ el _ hparts hinit (by simp) hs
  refine ⟨xs, len, .slice (some ⟨w.heap.size, 0, none⟩) len len, ?_, ?_, by rw [hx3]; simp, by rw [hx4]; simp, hx2, ?_⟩
  · have hgt : ¬ len * (T e).size > 2 ^ 24 := by omega
    have r0 : Array.range 0 = #[] := rfl
    by_cases h00 : len * (T e).size = 0
    · have hfill : Instr.fill (fun i => some (i * (T e).size, (T e).size)) (#[] : Array Value) ((parts.map fun (p : Nat × Operand) => (p.1, a.eval p.2)).toList) = some xs := by
        rw [h00, r0, Array.map_empty] at hx1
        exact hx1
      simp only [execOp, ho, Instr.buildSlice, Sem.run_bind, run_underlying hu, Result.andThen_ok, run_size hT hn, h00, if_neg (show ¬ 0 > 2 ^ 24 by decide), if_true, Sem.run_pure, r0, Array.map_empty, hfill, newRow, run_newObj]
      rfl
    · simp only [execOp, ho, Instr.buildSlice, Sem.run_bind, run_underlying hu, Result.andThen_ok, run_size hT hn, if_neg hgt, if_neg h00, run_zero hT hn, Sem.run_pure, hx1, newRow, run_newObj]
      rfl
  · unfold maxLen
    have : len ≤ len * (T e).size := Nat.le_mul_of_pos_right _ h0
    omega
  · intro E' h1 h2 h3
    exact .arr me 0 len w.heap.size 0 len h1 h2 (.inr (by simp)) (by omega) (Nat.le_refl _)

end

end Go.Vai
