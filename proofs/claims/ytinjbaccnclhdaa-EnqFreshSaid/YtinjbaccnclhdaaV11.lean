/- Appending. -/
import Derived.Test.YtinjbaccnclhdaaV10
namespace Go.Vai
open Go.RowKit

def ElsL (E : Env) (l : List Value) (sz : Nat) (el : List AV) : Prop :=
  ∀ (i : Nat) (a : AV), el[i]? = some a → a.cells.length = sz ∧ ∀ (j : Nat) (x : AV), a.cells[j]? = some x → ∃ y, l[i * sz + j]? = some y ∧ y.oneCell' = true ∧ Con E x y

theorem els_app {E : Env} {cs : Array Value} {olds news rest : List Value} {n sz : Nat} {el ys : List AV} (hcs : cs.toList = olds ++ news ++ rest) (ho : olds.length = n * sz) (hel : el.length = n)
    (h1 : ElsL E olds sz el) (h2 : ElsL E news sz ys) : Els E cs sz (el ++ ys) := by
  intro i a ha
  rw [List.getElem?_append] at ha
  split at ha
  · rename_i hi
    obtain ⟨g1, g2⟩ := h1 i a ha
    refine ⟨g1, fun j x hj => ?_⟩
    obtain ⟨y, hy, h'⟩ := g2 j x hj
    refine ⟨y, ?_, h'⟩
    have hlt := (List.getElem?_eq_some_iff.1 hy).1
    rw [← Array.getElem?_toList, hcs, List.append_assoc, List.getElem?_append, if_pos hlt]
    exact hy
  · rename_i hi
    obtain ⟨g1, g2⟩ := h2 _ a ha
    refine ⟨g1, fun j x hj => ?_⟩
    obtain ⟨y, hy, h'⟩ := g2 j x hj
    refine ⟨y, ?_, h'⟩
    have hlt := (List.getElem?_eq_some_iff.1 hy).1
    have hin : n * sz ≤ i * sz := Nat.mul_le_mul_right _ (by omega)
    have he : i * sz + j - olds.length = (i - n) * sz + j := by rw [ho, Nat.sub_mul]; omega
    rw [hel] at hy hlt
    rw [← Array.getElem?_toList, hcs, List.append_assoc, List.getElem?_append, if_neg (by omega), he, List.getElem?_append, if_pos hlt]
    exact hy

section
variable {w0 : World} {K0 : Nat → Option Obj} {D : Nat → Prop} {E : Env} {n : Nat} {fr : Frm} {hp : Hp} {a : Act} {w : World}

/-- A block goes over to another name, its cells being written. -/
theorem Rel.move (h : Rel w0 K0 D E n fr hp a w) {id me : Nat} {b : Blk} (hme : ¬ E.dom me) {D' : Nat → Prop} (hD : ∀ i, D i ∨ i = me → D' i) (hb : hlk hp id = some b) (hro : b.ro = false) {g : Nat} {cur : Array Value} (hg : E.ρ id = some g)
    (hc : w.heap[g]? = some (.cells cur b.ty (0, 0))) (cur' : Array Value) (hs : cur'.size = cur.size) (el : List AV) (hl : el.length ≤ E.cap id) (hEl : Els E cur' b.sz el) :
    Rel w0 K0 D' (E.add me (some g) b.sz (E.cap id)) n fr ((me, some ⟨false, b.ty, b.sz, el⟩) :: (id, none) :: hp) a (w.setRow g cur') := by
  have hown := h.own id b hb
  have hid : id ≠ me := fun e => hme (e ▸ hown.1)
  have hKg : E.K g = none := by
    rcases hown.2.2.2.2 with ⟨h1, _⟩ | ⟨g', cur'', h1, _, _, _, _, h6, _⟩
    · rw [h1] at hg; cases hg
    · rw [h1] at hg; cases hg; exact h6 hro
  have hBg : w0.heap.size ≤ g := by
    rcases hown.2.2.2.2 with ⟨h1, _⟩ | ⟨g', cur'', h1, h2, _⟩
    · rw [h1] at hg; cases hg
    · rw [h1] at hg; cases hg; exact h2
  have hcs : cur.size = E.cap id * b.sz := by
    rcases hown.2.2.2.2 with ⟨h1, _⟩ | ⟨g', cur'', h1, _, h3, h4, _⟩
    · rw [h1] at hg; cases hg
    · rw [h1] at hg; cases hg; rw [hc] at h3; cases h3; exact h4
  have hsz : (w.setRow g cur').heap.size = w.heap.size := by simp [World.setRow]
  have hot : ∀ k, k ≠ g → (w.setRow g cur').heap[k]? = w.heap[k]? := fun k hk => setRow_other w g k cur' hk
  have hle := Env.le_add hme (some g) b.sz (E.cap id)
  have f : ∀ i x, hlk ((me, some (⟨false, b.ty, b.sz, el⟩ : Blk)) :: (id, none) :: hp) i = some x → (i = me ∧ x = ⟨false, b.ty, b.sz, el⟩) ∨ (i ≠ me ∧ i ≠ id ∧ hlk hp i = some x) := by
    intro i x hx
    rw [hlk_cons, hlk_cons] at hx
    by_cases e : i = me
    · rw [if_pos e] at hx; cases hx; exact .inl ⟨e, rfl⟩
    · rw [if_neg e] at hx
      by_cases e' : i = id
      · rw [if_pos e'] at hx; cases hx
      · rw [if_neg e'] at hx; exact .inr ⟨e, e', hx⟩
  refine { below := ?_, kw := ?_, k0 := h.k0, nd := h.nd, size := h.size, regs := fun t ht => (h.regs t ht).mono hle, dom := ?_, out := h.out, own := ?_, inj := ?_ }
  · exact ⟨h.below.os, h.below.tape, h.below.output, by rw [hsz]; exact h.below.size, fun k hk => (hot k (by omega)).trans (h.below.block k hk)⟩
  · intro k o hk
    have hne : k ≠ g := fun e => by rw [e] at hk; exact absurd hk (by rw [show (E.add me (some g) b.sz (E.cap id)).K g = E.K g from rfl, hKg]; simp)
    rw [hot k hne]; exact h.kw k o hk
  · intro i hi
    exact hD i (hi.elim .inr fun d => .inl (h.dom i d))
  · intro i x hx
    rcases f i x hx with ⟨rfl, rfl⟩ | ⟨e1, e2, hx'⟩
    · refine ⟨.inl rfl, if_pos rfl, hown.2.2.1, by simpa [Env.add] using hown.2.2.2.1, .inr ⟨g, cur', if_pos rfl, hBg, setRow_heap w g cur cur' b.ty (0, 0) hc, ?_, ?_, fun _ => hKg, fun hr => (by cases hr), hEl.mono hle⟩⟩
      · rw [hs, hcs]; simp [Env.add]
      · simpa [Env.add] using hl
    · refine (h.own i x hx').mono hle (fun _ _ => rfl) (fun g' hg' _ => hot g' ?_)
      intro e'
      subst e'
      exact e2 (h.inj i id x b g' hx' hb hg' hg)
  · intro i j x y g' hx hy hg1 hg2
    rcases f i x hx with ⟨rfl, rfl⟩ | ⟨e1, e2, hx'⟩ <;> rcases f j y hy with ⟨rfl, rfl⟩ | ⟨e3, e4, hy'⟩
    · rfl
    · simp only [Env.add, if_true, if_neg e3] at hg1 hg2
      cases hg1
      exact absurd (h.inj j id y b _ hy' hb hg2 hg) e4
    · simp only [Env.add, if_true, if_neg e1] at hg1 hg2
      cases hg2
      exact absurd (h.inj i id x b _ hx' hb hg1 hg) e2
    · simp only [Env.add, if_neg e1, if_neg e3] at hg1 hg2
      exact h.inj i j x y g' hx' hy' hg1 hg2
end

section
variable {P : Program} {T : TEnv} {ρ : Operand → AV} {H : Nat → Option Blk} {me : Nat}

theorem run_append_zero (hT : TOk P T) (t ty e : TypeId) (hk : (T t).k = .slice e) (hn : (T e).k ≠ .none) (A B : Option Addr) (n c c' : Nat) (hc : n ≤ c) (w : World) :
    (Builtin.append_ #[t, t] ty #[.slice A n c, .slice B 0 c']).run P w = .ok (.slice A n c) w := by
  obtain ⟨_, de, _, hu, _, _, _, _, _, hd⟩ := hT.ok t (by rw [hk]; simp)
  rw [hk] at hd; simp only [TK.is] at hd; subst hd
  cases A <;> cases B <;> simp [Builtin.append_, run_underlying hu, run_size hT hn, Builtin.lenOf, hc, Builtin.firstCells, loadCells, loadCellsFrom, storeCells]

/-- What is appended: a slice of so many, and its cells. -/
theorem source {e : TypeId} {w0 : World} {K0 : Nat → Option Obj} {D : Nat → Prop} {E : Env} {n : Nat} {fr : Frm} {hp : Hp} {a : Act} {w : World} (hrel : Rel w0 K0 D E n fr hp a w)
    {X : AV} {v : Value} (h0 : 0 < (T e).size) (hX : Con E X v) (hH : ∀ id ∈ idOf X, hlk hp id = H id) {ys : List AV} (hy : asLst H X = some ys)
    (hs : srcOk T H e X) :
    ∃ A c, v = .slice A ys.length c ∧ (ys ≠ [] → ∃ ad news, A = some ad ∧ news.length = ys.length * (T e).size ∧ (∀ (j : Nat) (u : Value), news[j]? = some u → w.cell? (ad.add j) = some u) ∧ (∀ u ∈ news, u.oneCell' = true) ∧ ElsL E news (T e).size ys) := by
  -- the cells of a list, laid out
  have lay : ∀ (zs : List AV) (sz : Nat) (y : Nat → Nat → Value), 0 < sz → (∀ (i : Nat) (a : AV), zs[i]? = some a → a.cells.length = sz) →
      (∀ (i : Nat) (a : AV) (j : Nat) (b : AV), zs[i]? = some a → a.cells[j]? = some b → (y i j).oneCell' = true ∧ Con E b (y i j)) →
      ∃ news : List Value, news.length = zs.length * sz ∧ (∀ (k : Nat) (u : Value), news[k]? = some u → k < zs.length * sz ∧ u = y (k / sz) (k % sz)) ∧ (∀ u ∈ news, u.oneCell' = true) ∧ ElsL E news sz zs := by
    intro zs sz y hsz hlen hcon
    have hin : ∀ k, k < zs.length * sz → ∃ z b, zs[k / sz]? = some z ∧ z.cells[k % sz]? = some b := by
      intro k hk
      have h1 : k / sz < zs.length := Nat.div_lt_of_lt_mul (by rw [Nat.mul_comm]; exact hk)
      have h2 : zs[k / sz]? = some zs[k / sz] := by simp [h1]
      have h3 := hlen _ _ h2
      have h4 : k % sz < zs[k / sz].cells.length := by rw [h3]; exact Nat.mod_lt _ hsz
      exact ⟨_, zs[k / sz].cells[k % sz], h2, by simp [h4]⟩
    refine ⟨(List.range (zs.length * sz)).map fun k => y (k / sz) (k % sz), by simp, ?_, ?_, ?_⟩
    · intro k u hk
      rw [List.getElem?_map, Option.map_eq_some_iff] at hk
      obtain ⟨q, hq, rfl⟩ := hk
      obtain ⟨hjl, hq'⟩ := List.getElem?_eq_some_iff.1 hq
      simp only [List.getElem_range] at hq'
      subst hq'
      exact ⟨by simpa using hjl, rfl⟩
    · intro u hu
      simp only [List.mem_map, List.mem_range] at hu
      obtain ⟨k, hk, rfl⟩ := hu
      obtain ⟨z, b, h1, h2⟩ := hin k hk
      exact (hcon _ z _ b h1 h2).1
    · intro i z hz
      refine ⟨hlen i z hz, fun j b hb => ?_⟩
      have hjl : j < sz := by rw [← hlen i z hz]; exact (List.getElem?_eq_some_iff.1 hb).1
      have hil : i < zs.length := (List.getElem?_eq_some_iff.1 hz).1
      have hk : i * sz + j < zs.length * sz := by
        have := Nat.mul_le_mul_right sz hil; rw [Nat.succ_mul] at this; omega
      refine ⟨y i j, ?_, hcon i z j b hz hb⟩
      rw [List.getElem?_map, List.getElem?_range hk]
      have e1 : (i * sz + j) / sz = i := by rw [Nat.mul_comm, Nat.mul_add_div hsz, Nat.div_eq_of_lt hjl]; rfl
      have e2 : (i * sz + j) % sz = j := by rw [Nat.mul_comm, Nat.mul_add_mod, Nat.mod_eq_of_lt hjl]
      simp [e1, e2]
  cases X with
  | v x =>
    simp only [asLst] at hy
    split at hy
    · rename_i e0
      cases e0
      cases hy
      cases hX
      exact ⟨none, 0, rfl, fun h => absurd rfl h⟩
    · rename_i e0; cases e0
    · rename_i e0; cases e0
    · cases hy
  | lst sz xs =>
    simp only [asLst, Option.some.injEq] at hy
    subst hy
    simp only [srcOk] at hs
    subst hs
    cases hX with
    | lst _ _ A m c ad y hn hc hA hs' hk h1 h =>
      subst hn
      refine ⟨A, c, rfl, fun hne => ?_⟩
      obtain ⟨news, n1, n2, n3, n4⟩ := lay xs (T e).size y h0 hs' (fun i a j b e1 e2 => ⟨h1 i a j b e1 e2, h i a j b e1 e2⟩)
      refine ⟨ad, news, hA hne, n1, ?_, n3, n4⟩
      intro k u hk'
      obtain ⟨hlt, rfl⟩ := n2 k u hk'
      have h1' : k / (T e).size < xs.length := Nat.div_lt_of_lt_mul (by rw [Nat.mul_comm]; exact hlt)
      have h2 : xs[k / (T e).size]? = some xs[k / (T e).size] := by simp [h1']
      have h3 := hs' _ _ h2
      have h4 : k % (T e).size < xs[k / (T e).size].cells.length := by rw [h3]; exact Nat.mod_lt _ h0
      have h5 : xs[k / (T e).size].cells[k % (T e).size]? = some xs[k / (T e).size].cells[k % (T e).size] := by simp [h4]
      have := kcell_cell hrel.kw (hk _ _ (k % (T e).size) _ h2 h5)
      rw [Nat.mul_comm, Nat.div_add_mod] at this
      exact this
  | arr id off len =>
    simp only [asLst] at hy
    simp only [srcOk] at hs
    cases hb : H id with
    | none => rw [hb] at hy; cases hy
    | some b =>
      rw [hb] at hy hs
      simp only at hy hs
      split at hy
      · rename_i hlen
        cases hy
        have hbl : hlk hp id = some b := (hH id (by simp [idOf])).trans hb
        obtain ⟨hd0, hsz, hp0, _, hown⟩ := hrel.own id b hbl
        have hyl : ((b.el.drop off).take len).length = len := by simp; omega
        cases hX with
        | arr _ _ _ g o' c hd hg ho' hc hl =>
          refine ⟨_, c, by rw [hyl], fun hne => ?_⟩
          rcases hown with ⟨h1', _⟩ | ⟨g', cur, hg', hB, hcell, hcs, hel, _, _, hE⟩
          · rw [h1'] at hg; cases hg
          · rw [hg'] at hg; cases hg
            have hlp : 0 < len := by
              cases len with
              | zero => simp at hne
              | succ k => omega
            have hoo : o' = off * (T e).size := by rw [← hs, ← hsz]; exact ho'.resolve_left (by omega)
            obtain ⟨news, n1, n2, n3, n4⟩ := lay ((b.el.drop off).take len) (T e).size (fun i j => (cur[(off + i) * b.sz + j]?).getD undef) h0
              (fun i z hz => by
                rw [List.getElem?_take] at hz
                split at hz
                · rw [List.getElem?_drop] at hz; rw [← hs]; exact (hE _ z hz).1
                · cases hz)
              (fun i z j x hz hx => by
                rw [List.getElem?_take] at hz
                split at hz
                · rw [List.getElem?_drop] at hz
                  obtain ⟨y, y1, y2, y3⟩ := (hE _ z hz).2 j x hx
                  rw [y1]; exact ⟨y2, y3⟩
                · cases hz)
            refine ⟨_, news, rfl, n1, ?_, n3, n4⟩
            intro k u hk'
            obtain ⟨hlt, rfl⟩ := n2 k u hk'
            rw [hyl] at hlt
            have h1' : k / (T e).size < len := Nat.div_lt_of_lt_mul (by rw [Nat.mul_comm]; exact hlt)
            have hmod : k % (T e).size < (T e).size := Nat.mod_lt _ h0
            have hidx : (off + k / (T e).size) * b.sz + k % (T e).size = o' + k := by
              rw [hoo, hs, Nat.add_mul, Nat.add_assoc, Nat.mul_comm (k / (T e).size), Nat.div_add_mod]
            rw [hidx, add_plain']
            have hin : o' + k < cur.size := by
              have h6 : off + k / (T e).size < b.el.length := by omega
              have h7 := Nat.mul_le_mul_right b.sz (show off + k / (T e).size + 1 ≤ E.cap id by omega)
              rw [Nat.succ_mul] at h7
              rw [hcs]; omega
            simp [World.cell?, hcell, hin]
        | arr0 _ hd hg =>
          exact ⟨none, 0, by simp, fun hne => absurd (by simp) hne⟩
      · cases hy
  | _ => simp [asLst] at hy

theorem bytes_fit {n m b : Nat} (hb : 0 < b) (h : (n + m) * b ≤ 140737488355328) : n + m ≤ maxLen := by
  have : n + m ≤ (n + m) * b := Nat.le_mul_of_pos_right _ hb
  unfold maxLen; omega

theorem sound_append_nil (hT : TOk P T) (t e : TypeId) (s x : Operand) (ys : List AV) (hk : (T t).k = .slice e) (hn : (T e).k ≠ .none) (h0 : 0 < (T e).size) (hby : 0 < (T e).bytes)
    (hs : ρ s = .v (.slice none 0 0)) (hy : asLst H (ρ x) = some ys) (hsz : srcOk T H e (ρ x))
    (hbound : ys.length * (T e).bytes ≤ 140737488355328) :
    OpSound P (.call { callee := .builtin .append, args := #[s, x], argTypes := #[t, t] }) ρ H me (.arr me 0 ys.length) [(me, some ⟨false, e, (T e).size, ys⟩)] (idOf (ρ x)) := by
  intro o ho w0 K0 D E n fr hp a w hrel hx hH hme
  have hsc := hrel.ev s
  rw [hx s (by simp [Op.operands, Call.operands]), hs] at hsc
  have hxc := hrel.ev x
  rw [hx x (by simp [Op.operands, Call.operands])] at hxc
  obtain ⟨A, c, hv, hsrc⟩ := source hrel h0 hxc hH hy hsz
  obtain ⟨i, de, hi, _, hisz, hiby, hz, hzs, hz1, _⟩ := hT.ok e hn
  obtain ⟨_, dt, _, hu, _, _, _, _, _, hd⟩ := hT.ok t (by rw [hk]; simp)
  rw [hk] at hd; simp only [TK.is] at hd; subst hd
  generalize hsv : a.eval s = vs at hsc
  cases hsc
  have hrun : ∀ r w', (Builtin.append_ #[t, t] o.type #[.slice none 0 0, a.eval x]).run P w = .ok r w' → (execOp a.eval o).run P w = .ok (.value r) w' := by
    intro r w' hr
    simp only [execOp, ho, resolve, invoke, builtin, Sem.run_bind, Sem.run_pure, Result.andThen_ok, List.map_toArray, List.map_cons, List.map_nil, hsv, hr]
  cases hys : ys with
  | nil =>
    rw [hys] at hv
    have hz0 := run_append_zero hT t o.type e hk hn none A 0 0 c (Nat.le_refl _) w
    rw [hv] at hrun
    refine ⟨_, _, w, E.add me none (T e).size 0, hrun _ _ hz0, .inl rfl, Env.le_add hme _ _ _, .arr0 me (.inl rfl) (if_pos rfl), hrel.virt hme (fun _ h => h) e (T e).size h0⟩
  | cons y0 yr =>
    obtain ⟨ad, news, rfl, n1, n2, n3, n4⟩ := hsrc (by rw [hys]; simp)
    rw [← hys]
    have hpos : 0 < ys.length := by rw [hys]; simp
    have hfit := bytes_fit (n := 0) (m := ys.length) hby (by rw [Nat.zero_add]; exact hbound)
    rw [Nat.zero_add] at hfit
    have hr := run_append_nil (P := P) w t o.type e i (T e).zero hu hi hz ad ys.length c news (by rw [hisz]; exact n1) n2 hpos (by unfold maxLen at hfit; omega) (by rw [hiby]; omega)
    rw [hv] at hrun
    have hle := Env.le_add hme (some w.drew.heap.size) (T e).size (grownCap w ys.length 0 e)
    have hge := grownCap_ge w ys.length 0 e
    have hcap := grownCap_le_maxLen w ys.length 0 e hfit
    refine ⟨_, _, _, E.add me (some w.drew.heap.size) (T e).size (grownCap w ys.length 0 e), hrun _ _ hr, .inl rfl, hle, ?_, ?_⟩
    · exact .arr me 0 _ w.heap.size 0 _ (.inl rfl) (if_pos rfl) (.inr (by simp)) (by simp [Env.add]) hge
    · refine hrel.drew.alloc hme (fun _ h => h) _ e (T e).size _ ys h0 hcap ?_ hge ?_
      · simp only [Array.size_append, List.size_toArray, size_zeroCells, hzs, n1, ← Nat.add_mul]
        congr 1; omega
      · have := els_app (E := E.add me (some w.drew.heap.size) (T e).size (grownCap w ys.length 0 e)) (cs := news.toArray ++ Builtin.zeroCells (T e).zero.cells (grownCap w ys.length 0 e - ys.length))
          (olds := []) (news := news) (rest := (Builtin.zeroCells (T e).zero.cells (grownCap w ys.length 0 e - ys.length)).toList) (n := 0) (sz := (T e).size) (el := []) (ys := ys) (by simp) (by simp) rfl (fun i a h => by simp at h)
          (fun i a h => ⟨(n4 i a h).1, fun j x hj => let ⟨y, y1, y2, y3⟩ := (n4 i a h).2 j x hj; ⟨y, y1, y2, y3.mono hle⟩⟩)
        simpa using this

theorem sound_append (hT : TOk P T) (t e : TypeId) (s x : Operand) (ys : List AV) (id m : Nat) (b : Blk) (hk : (T t).k = .slice e) (hn : (T e).k ≠ .none) (h0 : 0 < (T e).size) (hby : 0 < (T e).bytes)
    (hs : ρ s = .arr id 0 m) (hb : H id = some b) (hro : b.ro = false) (hbe : b.ty = e) (hbs : b.sz = (T e).size) (hm : m ≤ b.el.length)
    (hy : asLst H (ρ x) = some ys) (hsz : srcOk T H e (ρ x))
    (hbound : (m + ys.length) * (T e).bytes ≤ 140737488355328) :
    OpSound P (.call { callee := .builtin .append, args := #[s, x], argTypes := #[t, t] }) ρ H me (.arr me 0 (m + ys.length)) [(me, some ⟨false, e, (T e).size, b.el.take m ++ ys⟩), (id, none)] (id :: idOf (ρ x)) := by
  intro o ho w0 K0 D E n fr hp a w hrel hx hH hme
  have hsc := hrel.ev s
  rw [hx s (by simp [Op.operands, Call.operands]), hs] at hsc
  have hxc := hrel.ev x
  rw [hx x (by simp [Op.operands, Call.operands])] at hxc
  obtain ⟨A, c, hv, hsrc⟩ := source hrel h0 hxc (fun i hi => hH i (List.mem_cons_of_mem _ hi)) hy hsz
  obtain ⟨i, de, hi, _, hisz, hiby, hz, hzs, hz1, _⟩ := hT.ok e hn
  obtain ⟨_, dt, _, hu, _, _, _, _, _, hd⟩ := hT.ok t (by rw [hk]; simp)
  rw [hk] at hd; simp only [TK.is] at hd; subst hd
  have hbl : hlk hp id = some b := (hH id (by simp)).trans hb
  have hown := hrel.own id b hbl
  obtain ⟨hd0, hEsz, hp0, hcm, hown'⟩ := hown
  generalize hsv : a.eval s = vs at hsc
  have hrun : ∀ r w', (Builtin.append_ #[t, t] o.type #[vs, a.eval x]).run P w = .ok r w' → (execOp a.eval o).run P w = .ok (.value r) w' := by
    intro r w' hr
    simp only [execOp, ho, resolve, invoke, builtin, Sem.run_bind, Sem.run_pure, Result.andThen_ok, List.map_toArray, List.map_cons, List.map_nil, hsv, hr]
  rw [hv] at hrun
  have hfit := bytes_fit hby hbound
  have hmono : ∀ {E' : Env} (hle : E.le E') {l : List Value} {el : List AV}, ElsL E l (T e).size el → ElsL E' l (T e).size el := fun hle _ _ h i a hi =>
    ⟨(h i a hi).1, fun j x hj => let ⟨y, y1, y2, y3⟩ := (h i a hi).2 j x hj; ⟨y, y1, y2, y3.mono hle⟩⟩
  cases hsc with
  | arr0 _ hd1 hg =>
    have hel : b.el = [] := by
      rcases hown' with ⟨_, h2, _⟩ | ⟨g, cur, h1, _⟩
      · exact h2
      · rw [hg] at h1; cases h1
    rw [hel]
    simp only [List.take_nil, List.nil_append, Nat.zero_add]
    simp only [Nat.zero_add] at hbound hfit
    cases hys : ys with
    | nil =>
      rw [hys] at hrun
      have hz0 := run_append_zero hT t o.type e hk hn none A 0 0 c (Nat.le_refl _) w
      exact ⟨_, _, w, E.add me none (T e).size 0, hrun _ _ hz0, .inl rfl, Env.le_add hme _ _ _, .arr0 me (.inl rfl) (if_pos rfl), (hrel.kill id).virt hme (fun _ h => h) e (T e).size h0⟩
    | cons y0 yr =>
      obtain ⟨ad, news, rfl, n1, n2, n3, n4⟩ := hsrc (by rw [hys]; simp)
      rw [← hys]
      have hpos : 0 < ys.length := by rw [hys]; simp
      have hr := run_append_nil (P := P) w t o.type e i (T e).zero hu hi hz ad ys.length c news (by rw [hisz]; exact n1) n2 hpos (by unfold maxLen at hfit; omega) (by rw [hiby]; omega)
      have hle := Env.le_add hme (some w.drew.heap.size) (T e).size (grownCap w ys.length 0 e)
      have hge := grownCap_ge w ys.length 0 e
      have hcap := grownCap_le_maxLen w ys.length 0 e hfit
      refine ⟨_, _, _, E.add me (some w.drew.heap.size) (T e).size (grownCap w ys.length 0 e), hrun _ _ hr, .inl rfl, hle, ?_, ?_⟩
      · exact .arr me 0 _ w.heap.size 0 _ (.inl rfl) (if_pos rfl) (.inr (by simp)) (by simp [Env.add]) hge
      · refine (hrel.kill id).drew.alloc hme (fun _ h => h) _ e (T e).size _ ys h0 hcap ?_ hge ?_
        · simp only [Array.size_append, List.size_toArray, size_zeroCells, hzs, n1, ← Nat.add_mul]
          congr 1; omega
        · have := els_app (E := E.add me (some w.drew.heap.size) (T e).size (grownCap w ys.length 0 e)) (cs := news.toArray ++ Builtin.zeroCells (T e).zero.cells (grownCap w ys.length 0 e - ys.length))
            (olds := []) (news := news) (rest := (Builtin.zeroCells (T e).zero.cells (grownCap w ys.length 0 e - ys.length)).toList) (n := 0) (sz := (T e).size) (el := []) (ys := ys) (by simp) (by simp) rfl (fun i a h => by simp at h)
            (hmono hle n4)
          simpa using this
  | arr _ _ _ g o' c0 hd1 hg ho' hc0 hl0 =>
    rcases hown' with ⟨h1', _⟩ | ⟨g', cur, hg', hB, hcell, hcs, hel, _, _, hE⟩
    · rw [h1'] at hg; cases hg
    · rw [hg'] at hg; cases hg
      subst hbe
      have htake : ∀ l : List Value, (∀ k, k < m * (T b.ty).size → l[k]? = cur[k]?) → ElsL E l (T b.ty).size (b.el.take m) := by
        intro l hl i z hz
        rw [List.getElem?_take] at hz
        split at hz
        · rename_i him
          obtain ⟨g1, g2⟩ := hE i z hz
          refine ⟨g1.trans hbs, fun j x hj => ?_⟩
          obtain ⟨y, y1, y2⟩ := g2 j x hj
          have hjl : j < (T b.ty).size := by rw [← hbs, ← g1]; exact (List.getElem?_eq_some_iff.1 hj).1
          have h7 := Nat.mul_le_mul_right (T b.ty).size him
          rw [Nat.succ_mul] at h7
          refine ⟨y, ?_, y2⟩
          rw [hl _ (by omega), ← hbs]; exact y1
        · cases hz
      have hmc : m * (T b.ty).size ≤ cur.size := by
        rw [hcs, hbs]; exact Nat.mul_le_mul_right _ (by omega)
      by_cases hroom : m + ys.length ≤ c0
      · -- there is room
        by_cases hne : ys = []
        · subst hne
          have hz0 := run_append_zero hT t o.type b.ty hk hn (some ⟨g, o', none⟩) A m c0 c hl0 w
          refine ⟨_, _, _, E.add me (some g) b.sz (E.cap id), hrun _ _ hz0, .inl rfl, Env.le_add hme _ _ _, ?_, ?_⟩
          · exact .arr me 0 _ g o' c0 (.inl rfl) (if_pos rfl) (by simpa [Env.add] using ho') (by simpa [Env.add] using hc0) (by simpa using hl0)
          · have hw := setRow_self w g cur b.ty (0, 0) hcell
            have := hrel.move hme (fun _ h => h) hbl hro hg' hcell cur rfl (b.el.take m ++ []) (by simp; omega) (by
              intro i z hz
              simp only [List.append_nil] at hz
              rw [List.getElem?_take] at hz
              split at hz
              · exact hE i z hz
              · cases hz)
            rw [hw] at this
            rw [← hbs]
            exact this
        · obtain ⟨ad, news, rfl, n1, n2, n3, n4⟩ := hsrc hne
          have hpos : 0 < ys.length := List.length_pos_iff.2 hne
          have hoo : o' = 0 := by have := ho'.resolve_left (by omega); omega
          subst hoo
          have hnl : news.length = ys.length * i.size := by rw [hisz]; exact n1
          have hfitc : m * i.size + news.length ≤ cur.size := by
            rw [hnl, ← Nat.add_mul, hcs, hisz, hbs]; exact Nat.mul_le_mul_right _ (by omega)
          have hr := run_append_room (P := P) w t o.type b.ty i hu hi g m c0 cur hcell ad ys.length c news hnl n2 n3 hroom hfitc
          have hle := Env.le_add hme (some g) b.sz (E.cap id)
          refine ⟨_, _, _, E.add me (some g) b.sz (E.cap id), hrun _ _ hr, .inl rfl, hle, ?_, ?_⟩
          · exact .arr me 0 _ g 0 c0 (.inl rfl) (if_pos rfl) (.inr (by simp)) (by simpa [Env.add] using hc0) hroom
          · have hsz' : (cur.toList.take (m * i.size) ++ news ++ cur.toList.drop (m * i.size + news.length)).toArray.size = cur.size := by
              simp only [List.size_toArray, List.length_append, List.length_take, List.length_drop, Array.length_toList]; omega
            have := hrel.move hme (fun _ h => h) hbl hro hg' hcell _ hsz' (b.el.take m ++ ys) (by simp; omega) (by
              rw [hbs]
              refine els_app (olds := cur.toList.take (m * i.size)) (news := news) (rest := cur.toList.drop (m * i.size + news.length)) (n := m) (by simp) (by simp [hisz]; omega) (by simp; omega) (htake _ ?_) n4
              intro k hk'
              rw [List.getElem?_take, if_pos (by rw [hisz]; exact hk'), Array.getElem?_toList])
            rw [← hbs]
            exact this
      · -- a new row
        have hne : ys ≠ [] := by intro e0; rw [e0] at hroom; simp at hroom; omega
        obtain ⟨ad, news, rfl, n1, n2, n3, n4⟩ := hsrc hne
        have hnl : news.length = ys.length * i.size := by rw [hisz]; exact n1
        have holds : ∀ (j : Nat) (v : Value), (cur.toList.take (m * i.size))[j]? = some v → w.cell? ((⟨g, o', none⟩ : Addr).add j) = some v := by
          intro j v hj
          rw [List.getElem?_take] at hj
          split at hj
          · rename_i hjm
            have hmp : 0 < m := by
              cases m with
              | zero => simp at hjm
              | succ k => omega
            have hoo : o' = 0 := by have := ho'.resolve_left (by omega); omega
            subst hoo
            rw [add_plain']
            simp only [Nat.zero_add, World.cell?, hcell]
            simpa using hj
          · cases hj
        have hol : (cur.toList.take (m * i.size)).length = m * i.size := by simp [hisz]; omega
        have hr := run_append_grow (P := P) w t o.type b.ty i (T b.ty).zero hu hi hz ⟨g, o', none⟩ m c0 _ hol holds ad ys.length c news hnl n2 (by omega) (by unfold maxLen at hfit; omega) (growslice_fits (by omega) (by rw [hiby]; exact hbound))
        have hle := Env.le_add hme (some w.drew.heap.size) (T b.ty).size (grownCap w (m + ys.length) c0 b.ty)
        have hge := grownCap_ge w (m + ys.length) c0 b.ty
        have hcap := grownCap_le_maxLen w (m + ys.length) c0 b.ty hfit
        refine ⟨_, _, _, E.add me (some w.drew.heap.size) (T b.ty).size (grownCap w (m + ys.length) c0 b.ty), hrun _ _ hr, .inl rfl, hle, ?_, ?_⟩
        · exact .arr me 0 _ w.heap.size 0 _ (.inl rfl) (if_pos rfl) (.inr (by simp)) (by simp [Env.add]) hge
        · refine (hrel.kill id).drew.alloc hme (fun _ h => h) _ b.ty (T b.ty).size _ _ h0 hcap ?_ (by simp; omega) ?_
          · have e1 : (cur.toList.take (m * i.size)).toArray.size = m * (T b.ty).size := by rw [List.size_toArray, hol, hisz]
            have e2 : news.toArray.size = ys.length * (T b.ty).size := by rw [List.size_toArray, n1]
            rw [Array.size_append, Array.size_append, size_zeroCells, hzs, e1, e2, ← Nat.add_mul, ← Nat.add_mul]
            congr 1; omega
          · refine els_app (olds := cur.toList.take (m * i.size)) (news := news) (n := m) (rest := (Builtin.zeroCells (T b.ty).zero.cells (grownCap w (m + ys.length) c0 b.ty - (m + ys.length))).toList) (by simp) (by rw [hol, hisz]) (by simp; omega) (hmono hle (htake _ ?_)) (hmono hle n4)
            intro k hk'
            rw [List.getElem?_take, if_pos (by rw [hisz]; exact hk'), Array.getElem?_toList]

end

end Go.Vai
