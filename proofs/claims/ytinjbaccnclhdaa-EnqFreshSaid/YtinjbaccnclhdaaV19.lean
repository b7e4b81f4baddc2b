/- Calls, and functions that only compute. -/
import Derived.Test.YtinjbaccnclhdaaV18
import Derived.Deep.LoopGhost
namespace Go.Vai
open Go.RowKit

/-- What one result's variable holds. -/
def resOf (tmps : Array Value) : ResultVar → Sem Value
  | .tmp t => pure (tmps.getD t undef)
  | .cell p t => do loadVar t (← asAddr (tmps.getD p undef))

theorem results_eq (fn : Func) (tmps : Array Value) : results fn tmps = (do
    let vs ← fn.results.mapM (resOf tmps)
    pure (if h : vs.size = 1 then vs[0] else .tuple vs)) := by
  unfold results
  congr 1

section
variable {X : Ctx}

/-- What a load by an operation answers, a result's cell answers. -/
theorem res_load {P : Program} {o : Oper} {t : TypeId} {x : Operand} (ho : o.op = .load t x) {a : Act} {v : Value} {w w' : World} (h : (execOp a.eval o).run P w = .ok (.value v) w') :
    (do loadVar t (← asAddr (a.eval x))).run P w = .ok v w' := by
  simp only [execOp, ho, Instr.loadAt, Sem.run_bind] at h
  generalize hu : a.eval x = u at h
  simp only [Sem.run_bind]
  cases u with
  | pointer ad => cases ad with
    | none => simp [Instr.sureAddr, stuck] at h
    | some ad =>
      simp only [Instr.sureAddr, asAddr, Sem.run_pure, Result.andThen_ok] at h ⊢
      cases hl : (loadVar t ad).run P w with
      | ok v' w1 => rw [hl] at h; simp at h; simp [h]
      | _ => rw [hl] at h; simp at h
  | _ => simp [Instr.sureAddr, stuck] at h

theorem resA_step {s : St} {E : Env} {a : Act} {w : World} {r : ResultVar} {rs : List ResultVar} {acc : List AV} {vs : List Value} {K : List AV → Prop} {x : AV} {v : Value}
    (ih : ∀ (acc : List AV) (vs : List Value), resA X.T s rs acc K → acc.length = vs.length → (∀ (i : Nat) (x : AV) (v : Value), acc[i]? = some x → vs[i]? = some v → Con E x v) →
      ∃ xs us, K xs ∧ (rs.mapM (resOf a.tmps)).run X.P w = .ok us w ∧ xs.length = (vs ++ us).length ∧ (∀ (i : Nat) (x : AV) (v : Value), xs[i]? = some x → (vs ++ us)[i]? = some v → Con E x v))
    (hl : acc.length = vs.length) (hc : ∀ (i : Nat) (x : AV) (v : Value), acc[i]? = some x → vs[i]? = some v → Con E x v)
    (hx : Con E x v) (h' : resA X.T s rs (acc ++ [x]) K) (hv : (resOf a.tmps r).run X.P w = .ok v w) :
    ∃ xs us, K xs ∧ ((r :: rs).mapM (resOf a.tmps)).run X.P w = .ok us w ∧ xs.length = (vs ++ us).length ∧ (∀ (i : Nat) (x : AV) (v : Value), xs[i]? = some x → (vs ++ us)[i]? = some v → Con E x v) := by
  obtain ⟨xs, us, h1, h2, h3, h4⟩ := ih (acc ++ [x]) (vs ++ [v]) h' (by simp [hl]) (by
    intro i y u hy hu
    rw [List.getElem?_append] at hy hu
    rw [hl] at hy
    split at hy
    · rename_i hi; rw [if_pos hi] at hu; exact hc i y u hy hu
    · rename_i hi
      rw [if_neg hi] at hu
      rw [List.getElem?_singleton] at hy hu
      split at hy
      · rename_i h0; rw [if_pos h0] at hu; cases hy; cases hu; exact hx
      · cases hy)
  refine ⟨xs, v :: us, h1, ?_, by simpa using h3, by simpa using h4⟩
  rw [List.mapM_cons, Sem.run_bind, hv, Result.andThen_ok, Sem.run_bind, h2, Result.andThen_ok, Sem.run_pure]

theorem resA_sound (hX : X.ok) {s : St} {w0 : World} {K0 : Nat → Option Obj} {E : Env} {a : Act} {w : World} (hr : RelS w0 K0 E s a w) : ∀ (rs : List ResultVar) (K : List AV → Prop) (acc : List AV) (vs : List Value),
    resA X.T s rs acc K → acc.length = vs.length → (∀ (i : Nat) (x : AV) (v : Value), acc[i]? = some x → vs[i]? = some v → Con E x v) →
    ∃ xs us, K xs ∧ (rs.mapM (resOf a.tmps)).run X.P w = .ok us w ∧ xs.length = (vs ++ us).length ∧ (∀ (i : Nat) (x : AV) (v : Value), xs[i]? = some x → (vs ++ us)[i]? = some v → Con E x v)
  | [], K, acc, vs, h, hl, hc => ⟨acc, [], h, by simp, by simpa using hl, by simpa using hc⟩
  | .tmp t :: rs, K, acc, vs, h, hl, hc => resA_step (resA_sound hX hr rs K) hl hc (hr.ev (.tmp t)) h (by simp [resOf, Act.eval])
  | .cell p t :: rs, K, acc, vs, h, hl, hc => by
    simp only [resA, aop] at h
    obtain ⟨hn, h⟩ := h
    split at h
    · rename_i id i off hx
      split at h
      · rename_i b hb
        obtain ⟨v, h1, h2⟩ := looks_load_ptr (ρ := evo s.fr) (H := hlk s.hp) hX.T t (.tmp p) id i off b hx hb hn h.1 h.2.1 h.2.2.1 h.2.2.2.1 { (default : Oper) with op := .load t (.tmp p) } rfl w0 K0 _ E s.n s.fr s.hp a w hr (fun x _ => hr.ev x) (fun _ _ => rfl)
        exact resA_step (resA_sound hX hr rs K) hl hc h2 h.2.2.2.2 (res_load (x := .tmp p) (t := t) rfl h1)
      · exact h.elim
    · rename_i cs hx
      obtain ⟨v, h1, h2⟩ := looks_load_rptr (ρ := evo s.fr) (H := hlk s.hp) hX.T t (.tmp p) cs hx hn h.1 h.2.1 h.2.2.1 { (default : Oper) with op := .load t (.tmp p) } rfl w0 K0 _ E s.n s.fr s.hp a w hr (fun x _ => hr.ev x) (fun _ _ => rfl)
      exact resA_step (resA_sound hX hr rs K) hl hc h2 h.2.2.2 (res_load (x := .tmp p) (t := t) rfl h1)
    · exact h.elim

theorem resultA_sound (hX : X.ok) {fn : Func} {s : St} {K : AV → Prop} (h : resultA X.T fn s K) {w0 : World} {K0 : Nat → Option Obj} {E : Env} {a : Act} {w : World} (hr : RelS w0 K0 E s a w) :
    ∃ x v, K x ∧ (results fn a.tmps).run X.P w = .ok v w ∧ Con E x v := by
  obtain ⟨xs, us, h1, h2, h3, h4⟩ := resA_sound hX hr fn.results.toList _ [] [] h rfl (by simp)
  rw [List.nil_append] at h3
  simp only [List.nil_append] at h4
  have hm : (fn.results.mapM (resOf a.tmps)).run X.P w = .ok us.toArray w := by
    rw [Array.mapM_eq_mapM_toList, map_eq_pure_bind, Sem.run_bind, h2, Result.andThen_ok, Sem.run_pure]
  rw [results_eq, Sem.run_bind, hm, Result.andThen_ok, Sem.run_pure]
  split at h1
  · rename_i x
    have hs : us.length = 1 := by simpa using h3.symm
    obtain ⟨u, rfl⟩ := List.length_eq_one_iff.1 hs
    exact ⟨x, u, h1, by simp, h4 0 x u rfl rfl⟩
  · rename_i hx
    refine ⟨_, .tuple us.toArray, h1, ?_, .tup _ _ (by simpa using h3) (by simpa using h4)⟩
    have : us.toArray.size ≠ 1 := by
      intro hs
      have hs' : xs.length = 1 := by simpa [h3] using hs
      obtain ⟨x, e⟩ := List.length_eq_one_iff.1 hs'
      exact hx x e
    rw [dif_neg this]

theorem lkp_argFrm : ∀ (args : List AV) (i t : Nat), lkp (argFrm args i) t = if i ≤ t then args.getD (t - i) .top else .top
  | [], i, t => by simp [argFrm, lkp]
  | x :: r, i, t => by
    rw [argFrm, lkp_cons, lkp_argFrm r (i + 1) t]
    by_cases e : t = i
    · subst e; simp
    · rw [if_neg e]
      by_cases h : i ≤ t
      · rw [if_pos h, if_pos (by omega), show t - i = (t - (i + 1)) + 1 by omega]; simp
      · rw [if_neg h, if_neg (by omega)]

/-- A function's frame as a call makes it. -/
theorem args_rel {w0 : World} {K0 : Nat → Option Obj} {D : Nat → Prop} {E : Env} {n : Nat} {fr : Frm} {hp : Hp} {a : Act} {w : World} (h : Rel w0 K0 D E n fr hp a w) {args : List AV} {vs : Array Value} (ha : ArgsCon E args vs) {m : Nat} (hm : args.length ≤ m) :
    Rel w0 K0 D E m (argFrm args 0) hp { tmps := vs ++ Array.replicate (m - vs.size) undef, defers := [] } w := by
  have hl := ha.1
  refine { below := h.below, kw := h.kw, k0 := h.k0, nd := rfl, size := by simp; omega, regs := ?_, dom := h.dom, out := ?_, own := h.own, inj := h.inj }
  · intro t ht
    rw [lkp_argFrm, if_pos (Nat.zero_le t), Nat.sub_zero, List.getD_eq_getElem?_getD]
    cases hx : args[t]? with
    | none => exact .top _
    | some x =>
      have hlt : t < vs.size := by have := (List.getElem?_eq_some_iff.1 hx).1; omega
      have hv : vs[t]? = some vs[t] := by simp [hlt]
      have := ha.2 t x vs[t] hx hv
      rw [Array.getD_eq_getD_getElem?, Array.getElem?_append, if_pos hlt, hv]
      exact this
  · intro t ht
    rw [lkp_argFrm, if_pos (Nat.zero_le t), Nat.sub_zero, List.getD_eq_getElem?_getD, List.getElem?_eq_none (by omega)]
    rfl

/-- A function's body, run. -/
theorem body_calls (hX : X.ok) {callF : CallF} (hF : CallSound X callF) {g : FuncId} {fn : Func} {body : Code} (hfn : X.P.funcs[g]? = some fn) (hb : fn.body = some body) {args : List AV} (hl : args.length ≤ fn.ntmps) {hp : Hp} {nx : Nat} {K : AV → Hp → Nat → Prop}
    (h : codeA X callF body (bodyQ X.T fn K) ⟨fn.ntmps, argFrm args 0, hp, nx⟩) {w0 : World} {K0 : Nat → Option Obj} {E : Env} {n : Nat} {fr : Frm} {a : Act} {w : World} {vs : Array Value}
    (hr : Rel w0 K0 (fun id => id < nx) E n fr hp a w) (ha : ArgsCon E args vs) :
    Calls X.P g vs w fun e w' => ∃ v r hp' nx' E', e = .returned v ∧ K r hp' nx' ∧ Ext E nx E' nx' ∧ Con E' r v ∧ Rel w0 K0 (fun id => id < nx') E' n fr hp' a w' := by
  have hdr : drawsOk body = true := by
    have := hX.draws
    rw [Array.all_eq_true] at this
    obtain ⟨hlt, he⟩ := Array.getElem?_eq_some_iff.1 hfn
    have := this g hlt
    rw [he, hb] at this
    exact this
  refine calls_of_wp hfn hb (wp_mono (codeA_sound hX hF body _ _ hdr h w0 K0 E _ w (args_rel hr ha hl)) ?_)
  have fin : ∀ (s' : St) (E' : Env) (a' : Act) (w' : World), resultA X.T fn s' (fun r => K r s'.hp s'.nx) → Ext E nx E' s'.nx → RelS w0 K0 E' s' a' w' →
      a'.defers = [] ∧ ∃ v, (results fn a'.tmps).run X.P w' = .ok v w' ∧ ∃ v' r hp' nx' E', Ending.returned v = .returned v' ∧ K r hp' nx' ∧ Ext E nx E' nx' ∧ Con E' r v' ∧ Rel w0 K0 (fun id => id < nx') E' n fr hp' a w' := by
    intro s' E' a' w' h1 h2 h3
    obtain ⟨x, v, k1, k2, k3⟩ := resultA_sound hX h1 h3
    exact ⟨h3.nd, v, k2, v, x, s'.hp, s'.nx, E', rfl, k1, h2, k3, { below := h3.below, kw := h3.kw, k0 := h3.k0, nd := hr.nd, size := hr.size, regs := fun t ht => (hr.regs t ht).mono h2.le, dom := h3.dom, out := hr.out, own := h3.own, inj := h3.inj }⟩
  rintro e a' w' ⟨s', E', h1, h2, h3⟩
  cases e with
  | normal => exact fin s' E' a' w' h1 h2 h3
  | ret => exact fin s' E' a' w' h1 h2 h3
  | _ => exact h1.elim

/-- A block is written no more. -/
theorem frzArg_sound {w0 : World} {K0 : Nat → Option Obj} {D : Nat → Prop} {E : Env} {n : Nat} {fr : Frm} {hp : Hp} {a : Act} {w : World} (hr : Rel w0 K0 D E n fr hp a w) (x : AV) :
    ∃ E', E.le E' ∧ (∀ id, E'.dom id → E.dom id) ∧ Rel w0 K0 D E' n fr (frzArg hp x).2 a w ∧ ∀ v, Con E x v → Con E' (frzArg hp x).1 v := by
  have same : ∃ E', E.le E' ∧ (∀ id, E'.dom id → E.dom id) ∧ Rel w0 K0 D E' n fr hp a w ∧ ∀ v, Con E x v → Con E' x v := ⟨E, Env.le.refl E, fun _ h => h, hr, fun _ h => h⟩
  cases x with
  | arr id off len =>
    simp only [frzArg]
    split
    · rename_i b hb
      split
      · rename_i hle
        obtain ⟨hd, hsz, hpos, hmax, hown⟩ := hr.own id b hb
        have hlen : ((b.el.drop off).take len).length = len := by simp; omega
        have nil : ∀ (E' : Env) (A : Option Addr) (c : Nat), len = 0 → Con E' (.lst b.sz ((b.el.drop off).take len)) (.slice A len c) := by
          intro E' A c h0
          subst h0
          exact .lst _ _ A 0 c ⟨0, 0, none⟩ (fun _ _ => undef) (by simp) (Nat.zero_le _) (by simp) (by simp) (by simp) (by simp) (by simp)
        rcases hown with ⟨k1, k2, k3⟩ | ⟨g, cur, k1, k2, k3, k4, k5, k6, k7, k8⟩
        · refine ⟨E, Env.le.refl E, fun _ h => h, ?_, ?_⟩
          · refine { hr with own := fun i b' hb' => ?_, inj := fun i j b1 b2 g h1 h2 => ?_ }
            · rw [hlk_cons] at hb'
              by_cases e : i = id
              · subst e
                rw [if_pos rfl] at hb'; cases hb'
                exact ⟨hd, hsz, hpos, hmax, .inl ⟨k1, k2, k3⟩⟩
              · rw [if_neg e] at hb'; exact hr.own i b' hb'
            · rw [hlk_cons] at h1 h2
              intro hg1 hg2
              by_cases e : i = id
              · subst e; rw [k1] at hg1; cases hg1
              · by_cases e' : j = id
                · subst e'; rw [k1] at hg2; cases hg2
                · rw [if_neg e] at h1; rw [if_neg e'] at h2; exact hr.inj i j b1 b2 g h1 h2 hg1 hg2
          · intro v hv
            cases hv with
            | arr0 => exact nil E _ _ rfl
            | arr _ _ _ g o c hd hg => rw [k1] at hg; cases hg
        · let E' : Env := { E with K := fun k => if k = g then some (.cells cur b.ty (0, 0)) else E.K k }
          have hKle : ∀ k o, E.K k = some o → E'.K k = some o := by
            intro k o hk
            show (if k = g then _ else E.K k) = some o
            by_cases e : k = g
            · subst e
              rw [if_pos rfl]
              have := hr.kw k o hk
              rw [k3] at this; exact this
            · rw [if_neg e]; exact hk
          have hEle : E.le E' := ⟨fun _ h => h, fun _ _ => rfl, fun _ _ => rfl, fun _ _ => rfl, hKle⟩
          refine ⟨E', hEle, fun _ h => h, ?_, ?_⟩
          · refine { below := hr.below, kw := ?_, k0 := ?_, nd := hr.nd, size := hr.size, regs := fun t ht => (hr.regs t ht).mono hEle, dom := hr.dom, out := hr.out, own := ?_, inj := ?_ }
            · intro k o hk
              have hk' : (if k = g then some (Obj.cells cur b.ty (0, 0)) else E.K k) = some o := hk
              by_cases e : k = g
              · subst e
                rw [if_pos rfl] at hk'
                rw [k3]; exact hk'
              · rw [if_neg e] at hk'; exact hr.kw k o hk'
            · intro k o hk hlt
              have hk' : (if k = g then some (Obj.cells cur b.ty (0, 0)) else E.K k) = some o := hk
              rw [if_neg (by omega)] at hk'
              exact hr.k0 k o hk' hlt
            · intro i b' hb'
              rw [hlk_cons] at hb'
              by_cases e : i = id
              · subst e
                rw [if_pos rfl] at hb'; cases hb'
                exact ⟨hd, hsz, hpos, hmax, .inr ⟨g, cur, k1, k2, k3, k4, k5, fun h => (by cases h), fun _ => if_pos rfl, k8.mono hEle⟩⟩
              · rw [if_neg e] at hb'
                refine (hr.own i b' hb').mono hEle (fun g' hg' => ?_) (fun _ _ _ => rfl)
                show (if g' = g then _ else E.K g') = E.K g'
                rw [if_neg (fun (e' : g' = g) => e (hr.inj i id b' b g hb' hb (e' ▸ hg') k1))]
            · intro i j b1 b2 g' h1 h2 hg1 hg2
              rw [hlk_cons] at h1 h2
              have f : ∀ q y, (if q = id then some { b with ro := true } else hlk hp q) = some y → ∃ y', hlk hp q = some y' := by
                intro q y hy
                by_cases e : q = id
                · exact ⟨b, e ▸ hb⟩
                · rw [if_neg e] at hy; exact ⟨y, hy⟩
              obtain ⟨y1, hy1⟩ := f i b1 h1
              obtain ⟨y2, hy2⟩ := f j b2 h2
              exact hr.inj i j y1 y2 g' hy1 hy2 hg1 hg2
          · intro v hv
            cases hv with
            | arr0 _ _ hg => rw [k1] at hg; cases hg
            | arr _ _ _ g' o c hd' hg ho hc hl =>
              rw [k1] at hg; cases hg
              by_cases h0 : len = 0
              · exact nil E' _ _ h0
              have ho' : o = off * b.sz := by
                rcases ho with e | e
                · omega
                · rw [e, hsz]
              subst ho'
              have el : ∀ (i : Nat) (x : AV), ((b.el.drop off).take len)[i]? = some x → i < len ∧ b.el[off + i]? = some x := by
                intro i x hx
                rw [List.getElem?_take] at hx
                split at hx
                · rename_i hi; rw [List.getElem?_drop] at hx; exact ⟨hi, hx⟩
                · cases hx
              have cell : ∀ (i : Nat) (x : AV) (j : Nat) (c : AV), ((b.el.drop off).take len)[i]? = some x → x.cells[j]? = some c →
                  ∃ y, cur[(off + i) * b.sz + j]? = some y ∧ y.oneCell' = true ∧ Con E c y := fun i x j c hx hc => (k8 (off + i) x (el i x hx).2).2 j c hc
              refine .lst _ _ _ len c ⟨g, off * b.sz, none⟩ (fun i j => (cur[(off + i) * b.sz + j]?).getD undef) hlen hl (fun _ => rfl) (fun i x hx => (k8 _ x (el i x hx).2).1) ?_ ?_ ?_
              · intro i x j c hx hc
                obtain ⟨y, e, _, _⟩ := cell i x j c hx hc
                rw [add_plain']
                simp only [e, Option.getD_some, kcell, E', if_true]
                simp only [Option.isSome_none, Bool.false_eq_true, if_false]
                rw [show off * b.sz + (i * b.sz + j) = (off + i) * b.sz + j by rw [Nat.add_mul]; omega]
                exact e
              · intro i x j c hx hc
                obtain ⟨y, e, h', _⟩ := cell i x j c hx hc
                simp only [e, Option.getD_some]; exact h'
              · intro i x j c hx hc
                obtain ⟨y, e, _, h'⟩ := cell i x j c hx hc
                simp only [e, Option.getD_some]
                exact h'.mono hEle
      · exact same
    · exact same
  | _ => exact same

theorem frzArgs_sound {w0 : World} {K0 : Nat → Option Obj} {D : Nat → Prop} {n : Nat} {fr : Frm} {a : Act} {w : World} : ∀ (args : List AV) (E : Env) (hp : Hp), Rel w0 K0 D E n fr hp a w → ∀ (vs : List Value), args.length = vs.length → (∀ (i : Nat) (x : AV) (v : Value), args[i]? = some x → vs[i]? = some v → Con E x v) →
    ∃ E', E.le E' ∧ (∀ id, E'.dom id → E.dom id) ∧ Rel w0 K0 D E' n fr (frzArgs hp args).2 a w ∧ (frzArgs hp args).1.length = vs.length ∧ ∀ (i : Nat) (x : AV) (v : Value), (frzArgs hp args).1[i]? = some x → vs[i]? = some v → Con E' x v
  | [], E, hp, hr, vs, hl, h => ⟨E, Env.le.refl E, fun _ h => h, hr, hl, fun i x v hx => by simp [frzArgs] at hx⟩
  | x :: r, E, hp, hr, [], hl, h => by simp at hl
  | x :: r, E, hp, hr, v :: vs, hl, h => by
    obtain ⟨E1, h1, h2, h3, h4⟩ := frzArg_sound hr x
    obtain ⟨E2, k1, k2, k3, k4, k5⟩ := frzArgs_sound r E1 (frzArg hp x).2 h3 vs (by simpa using hl) fun i y u hy hu => (h (i + 1) y u (by simpa using hy) (by simpa using hu)).mono h1
    refine ⟨E2, h1.trans k1, fun id hd => h2 id (k2 id hd), k3, by simpa [frzArgs] using k4, ?_⟩
    intro i y u hy hu
    cases i with
    | zero =>
      simp only [frzArgs, List.getElem?_cons_zero, Option.some.injEq] at hy hu
      subst hy; subst hu
      exact (h4 v (h 0 x v rfl rfl)).mono k1
    | succ i =>
      simp only [frzArgs, List.getElem?_cons_succ] at hy hu
      exact k5 i y u hy hu

/-- A call that the table knows, its arguments as they are, or written no more. -/
theorem tabs_sound (hX : X.ok) {g : FuncId} {args : List AV} {hp : Hp} {nx : Nat} {K : AV → Hp → Nat → Prop} {w0 : World} {K0 : Nat → Option Obj} {E : Env} {n : Nat} {fr : Frm} {a : Act} {w : World} {vs : Array Value}
    (hr : Rel w0 K0 (fun id => id < nx) E n fr hp a w) (ha : ArgsCon E args vs) {r : AV} (h : (X.C g args = some r ∧ K r hp nx) ∨ (X.C g (frzArgs hp args).1 = some r ∧ K r (frzArgs hp args).2 nx)) :
    Enters X.P g ∧ Calls X.P g vs w fun e w' => ∃ v r hp' nx' E', e = .returned v ∧ K r hp' nx' ∧ Ext E nx E' nx' ∧ Con E' r v ∧ Rel w0 K0 (fun id => id < nx') E' n fr hp' a w' := by
  rcases h with ⟨hC, hk⟩ | ⟨hC, hk⟩
  · obtain ⟨h1, h2⟩ := tab_sound hX hC hr ha
    refine ⟨h1, h2.mono ?_⟩
    rintro e w' ⟨v, E', rfl, k1, k2, k3, k4⟩
    exact ⟨v, r, hp, nx, E', rfl, hk, ⟨k1, Nat.le_refl _, fun id hd => .inl (k3 id hd)⟩, k2, k4⟩
  · obtain ⟨E1, e1, e2, e3, e4, e5⟩ := frzArgs_sound args E hp hr vs.toList (by simpa using ha.1) fun i x v hx hv => ha.2 i x v hx (by simpa using hv)
    obtain ⟨h1, h2⟩ := tab_sound hX hC e3 (vs := vs) ⟨by simpa using e4, fun i x v hx hv => e5 i x v hx (by simpa using hv)⟩
    refine ⟨h1, h2.mono ?_⟩
    rintro e w' ⟨v, E', rfl, k1, k2, k3, k4⟩
    exact ⟨v, r, _, nx, E', rfl, hk, ⟨e1.trans k1, Nat.le_refl _, fun id hd => .inl (e2 id (k3 id hd))⟩, k2, k4⟩

theorem callN_sound (hX : X.ok) : ∀ n, CallSound X (callN X n)
  | 0 => by
    intro g args hp nx K h w0 K0 E n fr a w vs hr ha
    simp only [callN] at h
    split at h
    · rename_i r hC
      exact tabs_sound hX hr ha (.inl ⟨hC, h⟩)
    · split at h
      · rename_i r hC
        exact tabs_sound hX hr ha (.inr ⟨hC, h⟩)
      · exact h.elim
  | k + 1 => by
    intro g args hp nx K h w0 K0 E n fr a w vs hr ha
    simp only [callN] at h
    split at h
    · rename_i r hC
      exact tabs_sound hX hr ha (.inl ⟨hC, h⟩)
    · split at h
      · rename_i r hC
        exact tabs_sound hX hr ha (.inr ⟨hC, h⟩)
      · split at h
        · rename_i fn hfn
          obtain ⟨h1, h2, h3⟩ := h
          split at h3
          · rename_i body hb
            exact ⟨⟨fn, hfn, h1, by rw [hb]; rfl⟩, body_calls hX (callN_sound hX k) hfn hb h2 h3 hr ha⟩
          · exact h3.elim
        · exact h.elim

end

end Go.Vai
