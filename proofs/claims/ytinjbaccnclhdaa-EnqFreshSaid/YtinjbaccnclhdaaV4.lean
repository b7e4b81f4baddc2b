/- One operation at a time: what the evaluator of V1 says of it is what the machine does. -/
import Derived.Test.YtinjbaccnclhdaaV3
namespace Go.Vai
open Go.RowKit

def OpSound (P : Program) (op : Op) (ρ : Operand → AV) (H : Nat → Option Blk) (me : Nat) (r : AV) (upd : Upd) (acc : List Nat) : Prop :=
  ∀ (o : Oper), o.op = op → ∀ (w0 : World) (K0 : Nat → Option Obj) (D : Nat → Prop) (E : Env) (n : Nat) (fr : Frm) (hp : Hp) (a : Act) (w : World),
    Rel w0 K0 D E n fr hp a w → (∀ x ∈ op.operands, evo fr x = ρ x) → (∀ id ∈ acc, hlk hp id = H id) → ¬ E.dom me →
    ∃ nx v w' E', (execOp a.eval o).run P w = .ok nx w' ∧ (nx = .value v ∨ (nx = .skip ∧ v = undef)) ∧ E.le E' ∧ Con E' r v ∧ Rel w0 K0 (fun id => D id ∨ id = me) E' n fr (upd ++ hp) a w'

/-- An operation that only looks. -/
def Looks (P : Program) (op : Op) (ρ : Operand → AV) (H : Nat → Option Blk) (r : AV) (acc : List Nat) : Prop :=
  ∀ (o : Oper), o.op = op → ∀ (w0 : World) (K0 : Nat → Option Obj) (D : Nat → Prop) (E : Env) (n : Nat) (fr : Frm) (hp : Hp) (a : Act) (w : World),
    Rel w0 K0 D E n fr hp a w → (∀ x ∈ op.operands, Con E (ρ x) (a.eval x)) → (∀ id ∈ acc, hlk hp id = H id) →
    ∃ v, (execOp a.eval o).run P w = .ok (.value v) w ∧ Con E r v

theorem Looks.sound {P : Program} {op : Op} {ρ : Operand → AV} {H : Nat → Option Blk} {r : AV} {acc : List Nat} (h : Looks P op ρ H r acc) (me : Nat) : OpSound P op ρ H me r [] acc := by
  intro o ho w0 K0 D E n fr hp a w hr hx hH hme
  obtain ⟨v, h1, h2⟩ := h o ho w0 K0 D E n fr hp a w hr (fun x hxo => by rw [← hx x hxo]; exact hr.ev x) hH
  exact ⟨_, v, w, E, h1, .inl rfl, Env.le.refl E, h2, hr.names fun id hd => .inl (hr.dom id hd)⟩

section
variable {P : Program} {T : TEnv} {ρ : Operand → AV} {H : Nat → Option Blk} {me : Nat}

theorem looks_move (x : Operand) : Looks P (.move x) ρ H (ρ x) [] :=
  fun o ho w0 K0 D E n fr hp a w hr hx hH => ⟨a.eval x, by simp [execOp, ho], hx x (by simp [Op.operands])⟩

theorem looks_assign (x : Operand) : Looks P (.assign x) ρ H (ρ x) [] :=
  fun o ho w0 K0 D E n fr hp a w hr hx hH => ⟨a.eval x, by simp [execOp, ho], hx x (by simp [Op.operands])⟩

theorem looks_pick (c x y : Operand) (b : Bool) (hc : ρ c = .v (.bool b)) : Looks P (.pick c x y) ρ H (if b then ρ x else ρ y) [] := by
  intro o ho w0 K0 D E n fr hp a w hr hx hH
  have h := hx c (by simp [Op.operands])
  rw [hc] at h
  generalize hv : a.eval c = vc at h
  cases h
  refine ⟨if b then a.eval x else a.eval y, ?_, ?_⟩
  · simp only [execOp, ho, hv, asBool, Sem.run_bind, Sem.run_pure, Result.andThen_ok]
  · cases b
    · exact hx y (by simp [Op.operands])
    · exact hx x (by simp [Op.operands])

theorem looks_nilCheck_ptr (x : Operand) (id i off : Nat) (h0 : ρ x = .ptr id i off) : Looks P (.nilCheck x) ρ H (.ptr id i off) [] := by
  intro o ho w0 K0 D E n fr hp a w hr hx hH
  have h := hx x (by simp [Op.operands])
  rw [h0] at h
  refine ⟨a.eval x, ?_, h⟩
  generalize hv : a.eval x = vx at h
  cases h
  simp only [execOp, ho, hv, Sem.run_pure]

theorem looks_nilCheck_rptr (x : Operand) (cs : List AV) (h0 : ρ x = .rptr cs) : Looks P (.nilCheck x) ρ H (.rptr cs) [] := by
  intro o ho w0 K0 D E n fr hp a w hr hx hH
  have h := hx x (by simp [Op.operands])
  rw [h0] at h
  refine ⟨a.eval x, ?_, h⟩
  generalize hv : a.eval x = vx at h
  cases h
  simp only [execOp, ho, hv, Sem.run_pure]

theorem looks_nilCheck_fn (x : Operand) (f : FuncId) (u v : List AV) (h0 : ρ x = .fn (.func f) u v) : Looks P (.nilCheck x) ρ H (.fn (.func f) u v) [] := by
  intro o ho w0 K0 D E n fr hp a w hr hx hH
  have h := hx x (by simp [Op.operands])
  rw [h0] at h
  refine ⟨a.eval x, ?_, h⟩
  generalize hv : a.eval x = vx at h
  cases h
  simp only [execOp, ho, hv, Sem.run_pure]

theorem looks_unOp (op : UnOp) (t : TypeId) (x : Operand) (K : AV → Prop) (h0 : unA op (ρ x) K) : ∃ r, K r ∧ Looks P (.unOp op t x) ρ H r [] := by
  unfold unA at h0
  split at h0
  · rename_i b hb
    refine ⟨_, h0, ?_⟩
    intro o ho w0 K0 D E n fr hp a w hr hx hH
    have h := hx x (by simp [Op.operands])
    rw [hb] at h
    generalize hv : a.eval x = vx at h
    cases h
    exact ⟨.bool !b, by simp only [execOp, ho, hv, Op.unary, Sem.run_bind, Sem.run_pure, Result.andThen_ok], .v _⟩
  · rename_i k m hb
    refine ⟨_, h0, ?_⟩
    intro o ho w0 K0 D E n fr hp a w hr hx hH
    have h := hx x (by simp [Op.operands])
    rw [hb] at h
    generalize hv : a.eval x = vx at h
    cases h
    exact ⟨.int k (k.wrap (0 - m)), by simp only [execOp, ho, hv, Op.unary, Op.intArith, Sem.run_bind, Sem.run_pure, Result.andThen_ok], .v _⟩
  · exact h0.elim

theorem looks_makeFunc (f : Fn) (u v : Array Operand) : Looks P (.makeFunc f u v) ρ H (.fn f (u.toList.map ρ) (v.toList.map ρ)) [] := by
  intro o ho w0 K0 D E n fr hp a w hr hx hH
  refine ⟨.func f (u.map a.eval) (v.map a.eval), by simp [execOp, ho, Instr.makeFunc], ?_⟩
  refine .fn _ _ _ _ _ (by simp) (by simp) ?_ ?_
  · intro i y z hy hz
    simp only [List.getElem?_map, Option.map_eq_some_iff, Array.getElem?_map] at hy hz
    obtain ⟨b, hb, rfl⟩ := hy
    obtain ⟨c, hc, rfl⟩ := hz
    have : b = c := by rw [Array.getElem?_toList] at hb; rw [hb] at hc; exact Option.some.inj hc
    subst this
    exact hx b (by simp [Op.operands]; exact .inl (Array.mem_of_getElem? hc))
  · intro i y z hy hz
    simp only [List.getElem?_map, Option.map_eq_some_iff, Array.getElem?_map] at hy hz
    obtain ⟨b, hb, rfl⟩ := hy
    obtain ⟨c, hc, rfl⟩ := hz
    have : b = c := by rw [Array.getElem?_toList] at hb; rw [hb] at hc; exact Option.some.inj hc
    subst this
    exact hx b (by simp [Op.operands]; exact .inr (Array.mem_of_getElem? hc))

theorem looks_extract (x : Operand) (i : Nat) (vs : List AV) (h0 : ρ x = .tup vs) (hi : i < vs.length) : Looks P (.extract x i) ρ H (vs.getD i .top) [] := by
  intro o ho w0 K0 D E n fr hp a w hr hx hH
  have h := hx x (by simp [Op.operands])
  rw [h0] at h
  generalize hv : a.eval x = vx at h
  cases h with
  | tup cs xs hl hh =>
    have hlt : i < xs.size := by omega
    have hy : xs[i]? = some xs[i] := by simp [hlt]
    refine ⟨xs[i], ?_, ?_⟩
    · simp only [execOp, ho, hv, Instr.extract, hy, Sem.run_bind, Sem.run_pure, Result.andThen_ok]
    · have he : vs[i]? = some vs[i] := by simp [hi]
      rw [List.getD_eq_getElem?_getD, he]
      exact hh i _ _ he hy

theorem looks_convert (hT : TOk P T) (src dst : TypeId) (x : Operand) (k k' : IntKind) (m : Int) (hs : (T src).k ≠ .none) (hd : (T dst).k = .int k) (h0 : ρ x = .v (.int k' m)) :
    Looks P (.convert src dst x) ρ H (.v (.int k (k.wrap m))) [] := by
  intro o ho w0 K0 D E n fr hp a w hr hx hH
  have h := hx x (by simp [Op.operands])
  rw [h0] at h
  generalize hv : a.eval x = vx at h
  cases h
  obtain ⟨_, ds, _, hus, _⟩ := hT.ok src hs
  obtain ⟨_, dd, _, hud, _, _, _, _, _, hk⟩ := hT.ok dst (by rw [hd]; simp)
  rw [hd] at hk
  simp only [TK.is] at hk
  subst hk
  exact ⟨.int k (k.wrap m), by simp [execOp, ho, hv, convert, run_underlying hus, run_underlying hud, Conv.intToInt], .v _⟩


theorem run_int_bin (op : BinOp) (t : TypeId) (k : IntKind) (x y : Int) (K : AV → Prop) (hop : op ≠ .shl) (hop' : op ≠ .shr) (h : intOp op k x y K) :
    ∃ v, K (.v v) ∧ ∀ w : World, (binOp op t (.int k x) (.int k y)).run P w = .ok v w := by
  cases op <;> first
    | exact absurd rfl hop
    | exact absurd rfl hop'
    | (refine ⟨_, h, fun w => ?_⟩; simp [binOp, Op.intArith, Op.intBits, Op.intCmp]; done)
    | (refine ⟨_, h.2, fun w => ?_⟩; simp [binOp, Op.intDiv, h.1]; done)
    | exact h.elim

theorem run_shift_bin (op : BinOp) (t : TypeId) (k k' : IntKind) (x y : Int) (K : AV → Prop) (h : shiftOp op k x y K) :
    ∃ v, K (.v v) ∧ ∀ w : World, (binOp op t (.int k x) (.int k' y)).run P w = .ok v w := by
  cases op <;> first
    | (refine ⟨_, h.2, fun w => ?_⟩; have := h.1; simp [binOp, Op.shift, show ¬ y < 0 by omega]; done)
    | exact h.elim

theorem run_guard_none (op : BinOp) (t : TypeId) (x y : Operand) (u v : Value) (w : World) (h : (match u, v with | .nilIface, .nilIface => false | .agg _, .agg _ => false | _, _ => true) = true) :
    (eqGuard op t x y u v).run P w = .ok () w := by
  unfold eqGuard
  cases op <;> first
    | (simp; done)
    | (cases u <;> cases v <;> first | (simp at h; done) | (simp; done))



/-- Equality of two scalars. -/
theorem scalEq_run (hT : TOk P T) (d : Nat) (t : TypeId) (x y : AV) (b : Bool) (h : scalEq (T t).k x y = some b)
    {E : Env} {u v : Value} (hx : Con E x u) (hy : Con E y v) (w : World) : (Op.equalIn (d + 1) t u v).run P w = .ok b w := by
  unfold scalEq at h
  split at h
  · rename_i q1 q2 q3 k1 k i k' j hk
    obtain ⟨_, de, _, hu, _, _, _, _, _, hd⟩ := hT.ok t (by rw [hk]; simp)
    rw [hk] at hd; simp only [TK.is] at hd; subst hd
    cases hx; cases hy
    split at h
    · rename_i e
      subst e; cases h
      simp [Op.equalIn, run_underlying hu]
    · cases h
  · rename_i q1 q2 q3 i j hk
    obtain ⟨_, de, _, hu, _, _, _, _, _, hd⟩ := hT.ok t (by rw [hk]; simp)
    rw [hk] at hd; simp only [TK.is] at hd; subst hd
    cases hx; cases hy; cases h
    simp [Op.equalIn, run_underlying hu]
  · cases h

theorem scalEq_plain (hT : TOk P T) {t : TypeId} {x y : AV} {b : Bool} (h : scalEq (T t).k x y = some b) (w : World) : (isAgg t).run P w = .ok false w := by
  unfold scalEq at h
  split at h
  · rename_i hk
    rw [run_agg hT (by rw [hk]; simp), hk]; rfl
  · rename_i hk
    rw [run_agg hT (by rw [hk]; simp), hk]; rfl
  · cases h


theorem struct_eq_loop (hT : TOk P T) (d : Nat) (xs ys : Array Value) (E : Env) (w : World) : ∀ (l : List Field) (i : Nat) (cs ds : List AV) (b : Bool),
    fieldsEq T i (l.map fun f => (f.offset, f.type)) cs ds = some b →
    (∀ (j : Nat) (x : AV), cs[j]? = some x → ∃ u, xs[i + j]? = some u ∧ Con E x u) → (∀ (j : Nat) (x : AV), ds[j]? = some x → ∃ u, ys[i + j]? = some u ∧ Con E x u) →
    (∀ f ∈ l, f.name ≠ "_") →
    ((forIn l (none, ()) fun f __s =>
      if f.name ≠ "_" then do
        let __do_lift ← part f.type xs f.offset
        let __do_lift_1 ← part f.type ys f.offset
        let __do_lift ← Op.equalIn (d + 1) f.type __do_lift __do_lift_1
        if (!__do_lift) = true then pure (ForInStep.done (some false, ())) else pure (ForInStep.yield (none, ()))
      else pure (ForInStep.yield (none, ())) : Sem (Option Bool × Unit))).run P w = .ok (if b then (none, ()) else (some false, ())) w
  | [], i, cs, ds, b, h, _, _, _ => by
    cases cs <;> cases ds <;> simp [fieldsEq] at h
    subst h
    simp
  | f :: l, i, cs, ds, b, h, hx, hy, hn => by
    cases cs with
    | nil => simp [fieldsEq] at h
    | cons x cs =>
      cases ds with
      | nil => simp [fieldsEq] at h
      | cons y ds =>
        simp only [List.map_cons, fieldsEq] at h
        split at h
        · rename_i ho
          split at h
          · rename_i a c ha hc
            cases h
            obtain ⟨u, hu, hcu⟩ := hx 0 x rfl
            obtain ⟨v, hv, hcv⟩ := hy 0 y rfl
            have hxu : (part f.type xs f.offset).run P w = .ok u w := by
              simp only [Nat.add_zero] at hu
              simp [part, scalEq_plain hT ha, ho, hu]
            have hyv : (part f.type ys f.offset).run P w = .ok v w := by
              simp only [Nat.add_zero] at hv
              simp [part, scalEq_plain hT ha, ho, hv]
            have he := scalEq_run hT d f.type x y a ha hcu hcv w
            have ih := struct_eq_loop hT d xs ys E w l (i + 1) cs ds c hc (fun j z hz => by have := hx (j + 1) z hz; rwa [Nat.add_assoc, Nat.add_comm 1 j]) (fun j z hz => by have := hy (j + 1) z hz; rwa [Nat.add_assoc, Nat.add_comm 1 j]) (fun g hg => hn g (List.mem_cons_of_mem _ hg))
            rw [List.forIn_cons]
            simp only [hn f List.mem_cons_self, ne_eq, not_false_eq_true, if_true, Sem.run_bind, hxu, hyv, he, Result.andThen_ok]
            cases a with
            | true =>
              simp only [Bool.not_true, Bool.false_eq_true, if_false, Sem.run_pure, Result.andThen_ok, Bool.true_and]
              exact ih
            | false => simp
          · cases h
        · cases h

/-- Equality of structs whose cells are scalars. -/
theorem struct_eq_run (hT : TOk P T) (d : Nat) (t : TypeId) (fs : List (Nat × TypeId)) (hf : fieldsOf T t = some fs) (cs ds : List AV) (b : Bool) (h : fieldsEq T 0 fs cs ds = some b)
    {E : Env} {u v : Value} (hx : Con E (.agg cs) u) (hy : Con E (.agg ds) v) (w : World) : (Op.equalIn (d + 2) t u v).run P w = .ok b w := by
  have hst := (hT.eqs t (by rw [hf]; rfl)).1
  unfold fieldsOf at hf
  split at hf
  · rename_i fs' hk
    cases hf
    obtain ⟨_, de, _, hu, _, _, _, _, _, hd⟩ := hT.ok t (by rw [hk]; simp)
    rw [hk] at hd; simp only [TK.is] at hd
    obtain ⟨fa, rfl, hfs, hnm⟩ := hd
    have conv : ∀ {es : List AV} {zs : Array Value}, es.length = zs.size → (∀ (i : Nat) (a : AV) (x : Value), es[i]? = some a → zs[i]? = some x → Con E a x) →
        ∀ (j : Nat) (x : AV), es[j]? = some x → ∃ u, zs[0 + j]? = some u ∧ Con E x u := by
      intro es zs hl hh j x hj
      have hlt : j < zs.size := by rw [← hl]; exact (List.getElem?_eq_some_iff.1 hj).1
      have hz : zs[j]? = some zs[j] := by simp [hlt]
      exact ⟨zs[j], by rw [Nat.zero_add]; exact hz, hh j x _ hj hz⟩
    cases hx with
    | agg _ xs hl hh =>
      cases hy with
      | agg _ ys hl' hh' =>
        have := struct_eq_loop hT d xs ys E w fa.toList 0 cs ds b (by rw [hfs]; exact h) (conv hl hh) (conv hl' hh')
          (fun f hf => by have := Array.all_eq_true_iff_forall_mem.1 hnm f (by simpa using hf); simpa using this)
        simp only [Op.equalIn, Sem.run_bind, run_underlying hu, Result.andThen_ok, run_program, hst, Bool.false_eq_true, if_false]
        rw [← Array.forIn_toList]
        simp only [Op.equalIn] at this ⊢
        rw [this]
        cases b <;> simp
  · cases hf

theorem eqIn_bool {t : TypeId} (hu : P.underlying t = some .bool) (d : Nat) (i j : Bool) (w : World) : (Op.equalIn (d + 1) t (.bool i) (.bool j)).run P w = .ok (i == j) w := by
  simp [Op.equalIn, run_underlying hu]

theorem eqIn_nil {t e : TypeId} (hu : P.underlying t = some (.slice e)) (d : Nat) (A : Option Addr) (n c n' c' : Nat) (w : World) :
    (Op.equalIn (d + 1) t (.slice A n c) (.slice none n' c')).run P w = .ok A.isNone w := by
  cases A <;> simp [Op.equalIn, run_underlying hu]

theorem run_eqs (op : BinOp) (e : Bool) (he : isEq op = some e) (t : TypeId) (x y : Value) (b : Bool) (w : World) (hs : (match x, y with | .bool _, .bool _ => true | .agg _, .agg _ => true | .slice .., .slice .. => true | _, _ => false) = true)
    (h : (Op.equalIn (9998 + 2) t x y).run P w = .ok b w) : (binOp op t x y).run P w = .ok (.bool (b == e)) w := by
  have h' : (Op.equal t x y).run P w = .ok b w := h
  cases op <;> simp only [isEq, Option.some.injEq, reduceCtorEq] at he
  · subst he
    have hb : binOp .eql t x y = (do pure (.bool (← Op.equal t x y))) := by
      cases x <;> cases y <;> first | rfl | cases hs
    rw [hb]
    simp only [Sem.run_bind, h', Result.andThen_ok, Sem.run_pure]
    cases b <;> rfl
  · subst he
    have hb : binOp .neq t x y = (do pure (.bool (!(← Op.equal t x y)))) := by
      cases x <;> cases y <;> first | rfl | cases hs
    rw [hb]
    simp only [Sem.run_bind, h', Result.andThen_ok, Sem.run_pure]
    cases b <;> rfl

theorem looks_binOp (hT : TOk P T) (op : BinOp) (t t' : TypeId) (x y : Operand) (K : AV → Prop) (h0 : binA T op t (ρ x) (ρ y) K) : ∃ r, K r ∧ Looks P (.binOp op t x y t') ρ H r [] := by
  have fin : ∀ (r : AV), (∀ (E : Env) (u v : Value) (w : World), Con E (ρ x) u → Con E (ρ y) v → ∃ z, (do eqGuard op t x y u v; binOp op t u v : Sem Value).run P w = .ok z w ∧ Con E r z) →
      Looks P (.binOp op t x y t') ρ H r [] := by
    intro r hr o ho w0 K0 D E n fr hp a w hrel hx hH
    obtain ⟨z, hz, hc⟩ := hr E (a.eval x) (a.eval y) w (hx x (by simp [Op.operands])) (hx y (by simp [Op.operands]))
    refine ⟨z, ?_, hc⟩
    simp only [execOp, ho, Sem.run_bind] at hz ⊢
    simp only [hz, Result.andThen_ok, Sem.run_pure]
  generalize hX : ρ x = X at h0
  generalize hY : ρ y = Y at h0
  rw [hX, hY] at fin
  unfold binA at h0
  have two : ∀ (u v : Value), X = .v u → Y = .v v → (match u, v with | .nilIface, .nilIface => false | .agg _, .agg _ => false | _, _ => true) = true → ∀ z : Value, (∀ w : World, (binOp op t u v).run P w = .ok z w) →
      Looks P (.binOp op t x y t') ρ H (.v z) [] := by
    intro u v hu hv hg z hz
    refine fin _ fun E u' v' w hu' hv' => ?_
    rw [hu] at hu'; rw [hv] at hv'
    cases hu'; cases hv'
    exact ⟨z, by simp only [Sem.run_bind, run_guard_none (P := P) op t x y u v w hg, Result.andThen_ok, hz w], .v _⟩
  split at h0
  · rename_i k i k' j
    split at h0
    · obtain ⟨v, hv, hr⟩ := run_shift_bin (P := P) .shl t k k' i j K h0
      exact ⟨_, hv, two _ _ rfl rfl rfl v hr⟩
    · obtain ⟨v, hv, hr⟩ := run_shift_bin (P := P) .shr t k k' i j K h0
      exact ⟨_, hv, two _ _ rfl rfl rfl v hr⟩
    · rename_i h1 h2
      obtain ⟨rfl, h0⟩ := h0
      obtain ⟨v, hv, hr⟩ := run_int_bin (P := P) op t k i j K (fun e => h1 e) (fun e => h2 e) h0
      exact ⟨_, hv, two _ _ rfl rfl rfl v hr⟩
  · rename_i i j
    split at h0
    · rename_i e hk he
      obtain ⟨_, de, _, hu, _, _, _, _, _, hd⟩ := hT.ok t (by rw [hk]; simp)
      rw [hk] at hd; simp only [TK.is] at hd; subst hd
      exact ⟨_, h0, two _ _ rfl rfl rfl _ fun w => run_eqs op e he t _ _ _ w rfl (eqIn_bool hu 9999 i j w)⟩
    · exact h0.elim
  · rename_i cs ds
    split at h0
    · rename_i fs e hf he
      split at h0
      · rename_i b hb
        refine ⟨_, h0, fin _ fun E u v w hu hv => ?_⟩
        have hq := struct_eq_run hT 9998 t fs hf cs ds b hb hu hv w
        have hg := (hT.eqs t (by rw [hf]; rfl)).2
        refine ⟨.bool (b == e), ?_, .v _⟩
        cases hu; cases hv
        have hgr : ∀ (xs ys : Array Value), (eqGuard op t x y (.agg xs) (.agg ys)).run P w = .ok () w := by
          intro xs ys
          unfold eqGuard
          cases op <;> simp [hg]
        simp only [Sem.run_bind, hgr, Result.andThen_ok]
        exact run_eqs op e he t _ _ b w rfl hq
      · exact h0.elim
    · exact h0.elim
  · rename_i c1 c2 hno
    split at h0
    · rename_i e' n1 c3 hk he
      obtain ⟨_, de, _, hu, _, _, _, _, _, hd⟩ := hT.ok t (by rw [hk]; simp)
      rw [hk] at hd; simp only [TK.is] at hd; subst hd
      refine ⟨_, h0, two _ _ rfl rfl rfl _ fun w => ?_⟩
      have := run_eqs (P := P) op _ he t _ _ _ w rfl (eqIn_nil hu 9999 none n1 c3 c2 hno w)
      simpa using this
    · rename_i e' e sz xs hk he
      obtain ⟨_, de, _, hu, _, _, _, _, _, hd⟩ := hT.ok t (by rw [hk]; simp)
      rw [hk] at hd; simp only [TK.is] at hd; subst hd
      refine ⟨_, h0, fin _ fun E u v w hu' hv' => ?_⟩
      cases hv'
      cases hu' with
      | lst _ _ A n c ad yy hn hc hA hs hk' h1 h =>
        have hg := run_guard_none (P := P) op t x y (.slice A n c) (.slice none c2 hno) w rfl
        have hb := run_eqs (P := P) op e he t (.slice A n c) (.slice none c2 hno) A.isNone w rfl (eqIn_nil hu 9999 A n c c2 hno w)
        refine ⟨.bool (A.isNone == e), by simp only [Sem.run_bind, hg, Result.andThen_ok, hb], .nb xs e _ fun hq => ?_⟩
        cases hxs : xs with
        | nil => rfl
        | cons z zs =>
          rw [hA (by rw [hxs]; simp)] at hq
          cases e <;> simp at hq
    · exact h0.elim
  · exact h0.elim

end

end Go.Vai
