/- Loops; and a function's contract where nil answers for a list of nothing. -/
import Derived.Test.YtinjbaccnclhdaaV23
import Derived.LoopN
namespace Go.Vai
open Go.RowKit

def sub1 : AV → AV → Prop
  | .v (.slice none 0 0), .lst _ ys => ys = []
  | x, y => x = y

def subL : List AV → List AV → Prop
  | [], [] => True
  | x :: xs, y :: ys => sub1 x y ∧ subL xs ys
  | _, _ => False

def subA : AV → AV → Prop
  | .tup xs, .tup ys => subL xs ys
  | x, y => sub1 x y

theorem sub1_con {E : Env} {x y : AV} {v : Value} (h : sub1 x y) (hx : Con E x v) : Con E y v := by
  unfold sub1 at h
  split at h
  · subst h
    cases hx
    exact .lst _ _ none 0 0 ⟨0, 0, none⟩ (fun _ _ => undef) rfl (Nat.le_refl _) (by simp) (by simp) (by simp) (by simp) (by simp)
  · exact h ▸ hx

theorem subL_con {E : Env} : ∀ {xs ys : List AV} {vs : List Value}, subL xs ys → xs.length = vs.length → (∀ (i : Nat) (x : AV) (v : Value), xs[i]? = some x → vs[i]? = some v → Con E x v) →
    ys.length = vs.length ∧ ∀ (i : Nat) (x : AV) (v : Value), ys[i]? = some x → vs[i]? = some v → Con E x v
  | [], [], vs, _, hl, h => ⟨hl, h⟩
  | x :: xs, y :: ys, [], _, hl, _ => by simp at hl
  | x :: xs, y :: ys, v :: vs, hs, hl, h => by
    obtain ⟨h1, h2⟩ := subL_con (vs := vs) hs.2 (by simpa using hl) fun i x' v' hx hv => h (i + 1) x' v' (by simpa using hx) (by simpa using hv)
    refine ⟨by simpa using h1, fun i x' v' hx hv => ?_⟩
    cases i with
    | zero =>
      simp only [List.getElem?_cons_zero, Option.some.injEq] at hx hv
      subst hx; subst hv
      exact sub1_con hs.1 (h 0 x v rfl rfl)
    | succ i => exact h2 i x' v' (by simpa using hx) (by simpa using hv)
  | [], _ :: _, _, hs, _, _ => hs.elim
  | _ :: _, [], _, hs, _, _ => hs.elim

theorem subA_con {E : Env} {x y : AV} {v : Value} (h : subA x y) (hx : Con E x v) : Con E y v := by
  unfold subA at h
  split at h
  · cases hx with
    | tup _ us hl hc =>
      obtain ⟨h1, h2⟩ := subL_con (vs := us.toList) h (by simpa using hl) fun i x v hx hv => hc i x v hx (by simpa using hv)
      exact .tup _ _ (by simpa using h1) fun i x v hx hv => h2 i x v hx (by simpa using hv)
  · exact sub1_con h hx

theorem cells_agg (cs : List AV) : (AV.agg cs).cells = cs := rfl
theorem cells_v (x : Value) : (AV.v x).cells = [.v x] := rfl
theorem cells_lst (n : Nat) (xs : List AV) : (AV.lst n xs).cells = [.lst n xs] := rfl
theorem cells_ptr (a b c : Nat) : (AV.ptr a b c).cells = [.ptr a b c] := rfl
theorem cells_arr (a b c : Nat) : (AV.arr a b c).cells = [.arr a b c] := rfl
theorem cells_fn (f : Fn) (a b : List AV) : (AV.fn f a b).cells = [.fn f a b] := rfl

section
variable {X : Ctx}

/-- THE EVALUATOR'S WORD FOR A FUNCTION'S CONTRACT. -/
theorem pure_sub (hX : X.ok) (n : Nat) {g : FuncId} {fn : Func} {body : Code} (hfn : X.P.funcs[g]? = some fn) (hb : fn.body = some body) {args : List AV} {r : AV} (hl : args.length ≤ fn.ntmps)
    (h : codeA X (callN X n) body (bodyQ X.T fn fun r0 hp _ => frz hp r0 (subA · r)) ⟨fn.ntmps, argFrm args 0, [], 0⟩) : PureC X.P g args r := by
  intro w K vs hK ha
  refine (body_calls hX (callN_sound hX n) hfn hb hl h (rel_start hK) ha).mono ?_
  rintro e w' ⟨v, r0, hp', nx', E', rfl, h1, h2, h3, h4⟩
  obtain ⟨y, hy, hc⟩ := frz_sound h4 (K' := grow w K w') (fun b o hb => by
    simp only [grow]
    split
    · rename_i hlt; exact h4.k0 b o hb hlt
    · exact h4.kw b o hb) (fun b hb => by simp only [grow, if_neg (Nat.not_lt.2 hb)]) h3 h1
  exact ⟨v, rfl, h4.below, subA_con hy hc⟩

/-- What is kept of a frame, and of blocks. -/
def kp (fr : Frm) : Frm → Prop
  | [] => True
  | (t, x) :: r => sub1 (lkp fr t) x ∧ kp fr r

def kh (hp : Hp) : Hp → Prop
  | [] => True
  | (t, x) :: r => hlk hp t = x ∧ kh hp r

theorem kp_lkp {fr : Frm} : ∀ {fr' : Frm}, kp fr fr' → ∀ t, lkp fr' t = .top ∨ sub1 (lkp fr t) (lkp fr' t)
  | [], _, t => .inl rfl
  | (d, x) :: r, h, t => by
    rw [lkp_cons]
    by_cases e : t = d
    · subst e; rw [if_pos rfl]; exact .inr h.1
    · rw [if_neg e]; exact kp_lkp h.2 t

theorem kh_hlk {hp : Hp} : ∀ {hp' : Hp}, kh hp hp' → ∀ id b, hlk hp' id = some b → hlk hp id = some b
  | [], _, id, b, h => by cases h
  | (d, x) :: r, h, id, b, hb => by
    rw [hlk_cons] at hb
    by_cases e : id = d
    · subst e; rw [if_pos rfl] at hb; rw [h.1, hb]
    · rw [if_neg e] at hb; exact kh_hlk h.2 id b hb

theorem Rel.weak {w0 : World} {K0 : Nat → Option Obj} {D : Nat → Prop} {E : Env} {n : Nat} {fr fr' : Frm} {hp hp' : Hp} {a : Act} {w : World} (h : Rel w0 K0 D E n fr hp a w) (hf : kp fr fr') (hh : kh hp hp') :
    Rel w0 K0 D E n fr' hp' a w :=
  { below := h.below, kw := h.kw, k0 := h.k0, nd := h.nd, size := h.size, dom := h.dom,
    regs := fun t ht => by
      rcases kp_lkp hf t with e | e
      · rw [e]; exact .top _
      · exact sub1_con e (h.regs t ht),
    out := fun t ht => by
      rcases kp_lkp hf t with e | e
      · exact e
      · rw [h.out t ht] at e; exact e.symm,
    own := fun id b hb => h.own id b (kh_hlk hh id b hb), inj := fun id id' b b' g h1 h2 => h.inj id id' b b' g (kh_hlk hh id b h1) (kh_hlk hh id' b' h2) }

/-- A loop's head: the states of an index. -/
def again {ι : Type} (μ : ι → Nat) (ok : ι → Prop) (n : Nat) (fr : ι → Frm) (hp : ι → Hp) (m : Nat) (s : St) : Prop :=
  ∃ j, μ j < m ∧ ok j ∧ s.n = n ∧ kp s.fr (fr j) ∧ kh s.hp (hp j)

theorem WP.loop {ι : Type} (μ : ι → Nat) (ok : ι → Prop) {n : Nat} {fr : ι → Frm} {hp : ι → Hp} {b : Code} {Q : Exit → St → Prop} {N : Nat}
    (round : ∀ i nx, ok i → N ≤ nx → (∀ id b, hlk (hp i) id = some b → id < nx) → WP X b (thenA (again μ ok n fr hp (μ i)) Q) ⟨n, fr i, hp i, nx⟩) (i : ι) {s : St} (hi : ok i) (hn : s.n = n) (hN : N ≤ s.nx) (hf : kp s.fr (fr i)) (hh : kh s.hp (hp i)) : WP X (.loop b) Q s := by
  intro w0 K0 E a w hr
  refine wp_loop_ghost (fun k a w => ∃ j nx E', μ j = k ∧ ok j ∧ Ext E s.nx E' nx ∧ RelS w0 K0 E' ⟨n, fr j, hp j, nx⟩ a w) (μ i) ⟨i, s.nx, E, rfl, hi, Ext.refl E s.nx, ?_⟩ ?_
  · have := hr.weak hf hh
    rw [hn] at this
    exact this
  · rintro k a' w' ⟨j, nx, E', rfl, hj, hext, hrel⟩
    refine wp_mono (round j nx hj (Nat.le_trans hN hext.up) (fun id b hb => hrel.dom id (hrel.own id b hb).1) w0 K0 E' a' w' hrel) ?_
    rintro e a2 w2 ⟨s2, E2, h1, h2, h3⟩
    cases e with
    | normal =>
      obtain ⟨j', k1, k2, k3, k4, k5⟩ := h1
      refine ⟨μ j', k1, j', s2.nx, E2, rfl, k2, hext.trans h2, ?_⟩
      have := h3.weak k4 k5
      rw [k3] at this
      exact this
    | _ => exact ⟨s2, E2, h1, hext.trans h2, h3⟩

theorem r_again {ι : Type} {μ : ι → Nat} {ok : ι → Prop} {n n' nx : Nat} {fr : ι → Frm} {hp : ι → Hp} {m : Nat} {fr' : Frm} {hp' : Hp} :
    again μ ok n fr hp m ⟨n', fr', hp', nx⟩ = ∃ j, μ j < m ∧ ok j ∧ n' = n ∧ kp fr' (fr j) ∧ kh hp' (hp j) := rfl

theorem entryOk_nil (all : List Oper) (k : Nat) (acc wr : List Nat) : entryOk all [] k acc wr = true := rfl

theorem meets_nil (a : List Nat) : meets [] a = false := rfl
theorem entryOk_rd (all : List Oper) (log : Log) (j k : Nat) (acc acc' : List Nat) : entryOk all ((j, acc', []) :: log) k acc [] = entryOk all log k acc [] := by
  simp [entryOk, meets_nil]

/-! Names of blocks, from a name nx on. -/
theorem nb_self (n : Nat) : Nat.beq n n = true := Nat.beq_refl n
theorem nb_same (n a b : Nat) : Nat.beq (n + a) (n + b) = Nat.beq a b := by
  rw [Bool.eq_iff_iff, Nat.beq_eq, Nat.beq_eq]; omega
theorem nb_l0 (n b : Nat) : Nat.beq n (n + b) = Nat.beq 0 b := by
  rw [Bool.eq_iff_iff, Nat.beq_eq, Nat.beq_eq]; omega
theorem nb_r0 (n a : Nat) : Nat.beq (n + a) n = Nat.beq a 0 := by
  rw [Bool.eq_iff_iff, Nat.beq_eq, Nat.beq_eq]; omega
theorem nb_lt {k n : Nat} (h : k < n) (a : Nat) : Nat.beq k (n + a) = false := by
  rw [← Bool.not_eq_true, Nat.beq_eq]; omega
theorem nb_gt {k n : Nat} (h : k < n) (a : Nat) : Nat.beq (n + a) k = false := by
  rw [← Bool.not_eq_true, Nat.beq_eq]; omega
theorem nb_lt0 {k n : Nat} (h : k < n) : Nat.beq k n = false := by
  rw [← Bool.not_eq_true, Nat.beq_eq]; omega
theorem nb_gt0 {k n : Nat} (h : k < n) : Nat.beq n k = false := by
  rw [← Bool.not_eq_true, Nat.beq_eq]; omega

/-- Code, by the evaluator. -/
theorem WP.of (hX : X.ok) (k : Nat) {c : Code} {Q : Exit → St → Prop} {s : St} (hd : drawsOk c = true) (h : codeA X (callN X k) c Q s) : WP X c Q s := codeA_sound hX (callN_sound hX k) c Q s hd h

/-- A loop, round by round. -/
def roundsC (X : Ctx) (F : CallF) (c : Code) (Q : Exit → St → Prop) : Nat → St → Prop
  | 0, _ => False
  | k + 1, s => codeA X F c (thenA (roundsC X F c Q k) Q) s

theorem r_rounds {F : CallF} {c : Code} {Q : Exit → St → Prop} {k n nx : Nat} {fr : Frm} {hp : Hp} : roundsC X F c Q (k + 1) ⟨n, fr, hp, nx⟩ = codeA X F c (thenA (roundsC X F c Q k) Q) ⟨n, fr, hp, nx⟩ := propext Iff.rfl

theorem rounds_sound (hX : X.ok) {F : CallF} (hF : CallSound X F) {c : Code} {Q : Exit → St → Prop} (hd : drawsOk c = true) {w0 : World} {K0 : Nat → Option Obj} {E0 : Env} {nx0 : Nat} : ∀ (k : Nat) (s : St) (E : Env) (a : Act) (w : World), roundsC X F c Q k s → Ext E0 nx0 E s.nx → RelS w0 K0 E s a w →
    Code.rounds X.P c (fun e a' w' => ∃ s' E', Q e s' ∧ Ext E0 nx0 E' s'.nx ∧ RelS w0 K0 E' s' a' w') k a w
  | 0, _, _, _, _, h, _, _ => h.elim
  | k + 1, s, E, a, w, h, hE, hr => by
    rw [rounds_succ]
    refine wp_mono (codeA_sound hX hF c _ s hd h w0 K0 E a w hr) ?_
    rintro e a' w' ⟨s', E', h1, h2, h3⟩
    cases e with
    | normal => exact rounds_sound hX hF hd k s' E' a' w' h1 (hE.trans h2) h3
    | _ => exact ⟨s', E', h1, hE.trans h2, h3⟩

theorem WP.rounds (hX : X.ok) (m k : Nat) {c : Code} {Q : Exit → St → Prop} {s : St} (hd : drawsOk c = true) (h : roundsC X (callN X m) c Q k s) : WP X (.loop c) Q s :=
  fun w0 K0 E a w hr => wp_loop_rounds k (rounds_sound hX (callN_sound hX m) hd k s E a w h (Ext.refl E s.nx) hr)

/-- nil as a list of the call's own. -/
theorem WP.virt {c : Code} {Q : Exit → St → Prop} {n nx : Nat} {fr : Frm} {hp : Hp} (t : Nat) (ty : TypeId) (sz : Nat) (ht : lkp fr t = .v (.slice none 0 0)) (hs : 0 < sz)
    (h : WP X c Q ⟨n, (t, .arr nx 0 0) :: fr, (nx, some ⟨false, ty, sz, []⟩) :: hp, nx + 1⟩) : WP X c Q ⟨n, fr, hp, nx⟩ := by
  intro w0 K0 E a w hr
  have hme : ¬ E.dom nx := fun h => Nat.lt_irrefl _ (hr.dom nx h)
  have hv := Rel.virt hr hme (D' := fun id => id < nx + 1) (fun id h => h.elim Nat.lt_succ_of_lt fun e => e ▸ Nat.lt_succ_self _) ty sz hs
  have hx : Ext E nx (E.add nx none sz 0) (nx + 1) := ⟨Env.le_add hme .., by omega, fun id h => h.elim (fun e => .inr (by omega)) .inl⟩
  have hr2 : RelS w0 K0 (E.add nx none sz 0) ⟨n, (t, .arr nx 0 0) :: fr, (nx, some ⟨false, ty, sz, []⟩) :: hp, nx + 1⟩ a w := by
    have htn : t < n := by
      by_cases hlt : t < n
      · exact hlt
      · have := hr.out t (by dsimp only; omega)
        dsimp only at this
        rw [ht] at this; cases this
    refine { hv with regs := fun t' ht' => ?_, out := fun t' ht' => ?_ }
    · rw [lkp_cons]
      by_cases e : t' = t
      · subst e
        rw [if_pos rfl]
        have := hr.regs t' ht'
        dsimp only at this
        rw [ht] at this
        generalize a.tmps.getD t' undef = v at this
        cases this
        exact .arr0 nx (.inl rfl) (if_pos rfl)
      · rw [if_neg e]; exact hv.regs t' ht'
    · have h1 : n ≤ t' := ht'
      show lkp ((t, _) :: fr) t' = .top
      rw [lkp_cons, if_neg (by omega)]
      exact hv.out t' ht'
  refine wp_mono (h w0 K0 _ a w hr2) ?_
  rintro e a' w' ⟨s', E', h1, h2, h3⟩
  exact ⟨s', E', h1, hx.trans h2, h3⟩

/-- To look at a state while a proof is being made: nothing follows from it. -/
def Peek (_ : Frm) (_ : Hp) (_ : Nat) : Prop := False
theorem WP.peek {c : Code} {Q : Exit → St → Prop} {n nx : Nat} {fr : Frm} {hp : Hp} (h : Peek fr hp nx) : WP X c Q ⟨n, fr, hp, nx⟩ := h.elim
end

end Go.Vai
