/- The evaluator's regions in the text's order are what the machine does. -/
import Derived.Test.YtinjbaccnclhdaaV13
namespace Go.Vai
open Go.RowKit

/-- A call leaves the caller's own blocks as they were; the new ones stay. -/
theorem Rel.call {w0 : World} {K0 : Nat → Option Obj} {D : Nat → Prop} {E : Env} {n : Nat} {fr : Frm} {hp : Hp} {a : Act} {w w' : World} (h : Rel w0 K0 D E n fr hp a w) (hb : Below w.heap.size w w') :
    E.le { E with K := grow w E.K w' } ∧ Rel w0 K0 D { E with K := grow w E.K w' } n fr hp a w' := by
  have hle : E.le { E with K := grow w E.K w' } :=
    ⟨fun _ d => d, fun _ _ => rfl, fun _ _ => rfl, fun _ _ => rfl, fun b o hk => by
      have := heap_lt (h.kw b o hk)
      simp only [grow, if_pos this]; exact hk⟩
  refine ⟨hle, ?_⟩
  have hB : w0.heap.size ≤ w.heap.size := h.below.size
  refine { below := h.below.trans (hb.mono hB), kw := ?_, k0 := ?_, nd := h.nd, size := h.size, regs := fun t ht => (h.regs t ht).mono hle, dom := h.dom, out := h.out, own := ?_, inj := h.inj }
  · intro b o hk
    simp only [grow] at hk
    split at hk
    · rename_i hlt
      rw [hb.block b hlt]; exact h.kw b o hk
    · exact hk
  · intro b o hk hlt
    simp only [grow, if_pos (show b < w.heap.size by omega)] at hk
    exact h.k0 b o hk hlt
  · intro id b hid
    have hown := h.own id b hid
    exact hown.mono hle (fun g hg => by simp only [grow, if_pos (hown.ρ_lt hg)]) (fun g _ hl => hb.block g hl)

/-- The table's calls. -/
theorem tab_sound {X : Ctx} (hX : X.ok) {g : FuncId} {args : List AV} {r : AV} (hC : X.C g args = some r) {w0 : World} {K0 : Nat → Option Obj} {D : Nat → Prop} {E : Env} {n : Nat} {fr : Frm} {hp : Hp} {a : Act} {w : World} {vs : Array Value}
    (h : Rel w0 K0 D E n fr hp a w) (ha : ArgsCon E args vs) :
    Enters X.P g ∧ Calls X.P g vs w fun e w' => ∃ v E', e = .returned v ∧ E.le E' ∧ Con E' r v ∧ (∀ id, E'.dom id → E.dom id) ∧ Rel w0 K0 D E' n fr hp a w' := by
  obtain ⟨h1, h2, h3⟩ := hX.C g args r hC
  refine ⟨h1, (h3 w E.K vs h.kw ⟨ha.1, fun i x v hx hv => h2 x (List.mem_of_getElem? hx) E v (ha.2 i x v hx hv)⟩).mono ?_⟩
  rintro e w' ⟨v, rfl, hb, hc⟩
  obtain ⟨hle, hr⟩ := h.call hb
  exact ⟨v, _, rfl, hle, hc.mono (Env.bare_le _ fun _ _ hk => hk), fun _ hd => hd, hr⟩

theorem run_callFunc {P : Program} {g : FuncId} (h : Enters P g) (vs : Array Value) (w : World) : (callFunc g vs).run P w = .ok (.enter g vs) w := by
  obtain ⟨fn, h1, h2, h3⟩ := h
  simp only [callFunc, Sem.run_bind, run_program, Result.andThen_ok, h1]
  simp [h2, h3]

/-- A call of a function value that is told. -/
theorem run_callValue {P : Program} {g : FuncId} (h : Enters P g) {o : Oper} {f : Operand} {args : Array Operand} {ts : Array TypeId} (ho : o.op = .call { callee := .value f, args := args, argTypes := ts }) {a : Act} {xs ys : Array Value}
    (hf : a.eval f = .func (.func g) xs ys) (w : World) : (execOp a.eval o).run P w = .ok (.enter g (xs ++ args.map a.eval ++ ys)) w := by
  simp only [execOp, ho, resolve, Deferred.ofValue, hf, Sem.run_bind, Sem.run_pure, Result.andThen_ok, invoke, run_callFunc h]

/-- The arguments of a call, each as told. -/
theorem args_con {E : Env} {fr : Frm} {a : Act} {args : Array Operand} {g : Fn} {first cap : List AV} {v : Value} (hf : Con E (.fn g first cap) v) (hx : ∀ x, x ∈ args → Con E (evo fr x) (a.eval x)) :
    ∃ xs ys, v = .func g xs ys ∧ ArgsCon E (first ++ args.toList.map (evo fr) ++ cap) (xs ++ args.map a.eval ++ ys) := by
  cases hf with
  | fn _ _ _ xs ys hl hm h h' =>
    refine ⟨xs, ys, rfl, by simp; omega, ?_⟩
    intro i x u hi hu
    rw [List.append_assoc, List.getElem?_append] at hi
    rw [Array.append_assoc, Array.getElem?_append] at hu
    rw [hl] at hi
    split at hi
    · rename_i h1
      rw [if_pos h1] at hu
      exact h i x u hi hu
    · rename_i h1
      rw [if_neg h1] at hu
      rw [List.getElem?_append] at hi
      rw [Array.getElem?_append] at hu
      simp only [List.length_map, Array.length_toList, Array.size_map] at hi hu
      split at hi
      · rename_i h2
        rw [if_pos h2] at hu
        rw [List.getElem?_map, Option.map_eq_some_iff] at hi
        rw [Array.getElem?_map, Option.map_eq_some_iff] at hu
        obtain ⟨p, hp, rfl⟩ := hi
        obtain ⟨q, hq, rfl⟩ := hu
        rw [Array.getElem?_toList] at hp
        rw [hp] at hq; cases hq
        exact hx p (Array.mem_of_getElem? hp)
      · rename_i h2
        rw [if_neg h2] at hu
        exact h' _ x u hi hu

/-- A temporary is written, or nothing. -/
theorem putA_sound {w0 : World} {K0 : Nat → Option Obj} {D : Nat → Prop} {E : Env} {s : St} {a : Act} {w : World} {dst : Option Tmp} {x : AV} {v : Value} {K : St → Prop} (h : putA s dst x K) (hr : Rel w0 K0 D E s.n s.fr s.hp a w) (hx : Con E x v) :
    ∃ s', K s' ∧ s'.nx = s.nx ∧ s'.hp = s.hp ∧ s'.n = s.n ∧ Rel w0 K0 D E s'.n s'.fr s'.hp (a.put dst v) w := by
  cases dst with
  | none => exact ⟨s, h, rfl, rfl, rfl, hr.skip⟩
  | some d => exact ⟨_, h.2, rfl, rfl, rfl, hr.put h.1 hx⟩

section
variable {X : Ctx} {callF : CallF}

/-- One operation that enters no function, in a state. -/
theorem aop_step (hX : X.ok) {o : Oper} {me : Nat} {s : St} {Kf : AV → Upd → List Nat → Prop} (h : aop X.T o.op (evo s.fr) (hlk s.hp) me Kf)
    {w0 : World} {K0 : Nat → Option Obj} {D : Nat → Prop} {E : Env} {a : Act} {w : World} (hr : Rel w0 K0 D E s.n s.fr s.hp a w) (hme : ¬ E.dom me)
    {next : Act → World → Prop} {Q : Exit → Act → World → Prop}
    (hn : ∀ r upd acc v w' E', Kf r upd acc → E.le E' → Con E' r v → Rel w0 K0 (fun id => D id ∨ id = me) E' s.n s.fr (upd ++ s.hp) a w' → next (a.put o.dst v) w') : o.wp X.P a w next Q := by
  obtain ⟨r, upd, acc, hk, hs⟩ := aop_sound hX.T h
  obtain ⟨nx, v, w', E', h1, h2, h3, h4, h5⟩ := hs o rfl w0 K0 D E s.n s.fr s.hp a w hr (fun _ _ => rfl) (fun _ _ => rfl) hme
  unfold Oper.wp
  rw [h1]
  rcases h2 with rfl | ⟨rfl, rfl⟩
  · exact hn r upd acc v w' E' hk h3 h4 h5
  · exact hn r upd acc undef w' E' hk h3 h4 h5

theorem stepA_sound (hX : X.ok) (hF : CallSound X callF) {o : Oper} {me : Nat} {s : St} {K : St → Prop} (h : stepA X callF o me s K) {w0 : World} {K0 : Nat → Option Obj} {E : Env} {a : Act} {w : World}
    (hr : RelS w0 K0 E s a w) (hme : ¬ E.dom me) (hlt : me < s.nx) {next : Act → World → Prop} {Q : Exit → Act → World → Prop}
    (hn : ∀ s' a' w' E', K s' → E.le E' → s.nx ≤ s'.nx → (∀ id, E'.dom id → E.dom id ∨ id = me ∨ s.nx ≤ id) → RelS w0 K0 E' s' a' w' → next a' w') : o.wp X.P a w next Q := by
  unfold stepA at h
  split at h
  · rename_i f args ts ho
    split at h
    · rename_i g first cap hf
      have hfc := hr.ev f
      rw [hf] at hfc
      obtain ⟨xs, ys, hv, hac⟩ := args_con (E := E) (fr := s.fr) (a := a) (args := args) hfc (fun x _ => hr.ev x)
      obtain ⟨hen, hcall⟩ := hF g _ s.hp s.nx _ h w0 K0 E s.n s.fr a w _ hr hac
      unfold Oper.wp
      rw [run_callValue hen ho hv]
      simp only [Oper.upon_enter]
      refine hcall.mono ?_
      rintro e w' ⟨v, r, hp', nx', E', rfl, hk, hext, hc, hrel⟩
      obtain ⟨s', hs', h1, h2, h3, h4⟩ := putA_sound (s := ⟨s.n, s.fr, hp', nx'⟩) hk hrel hc
      refine hn s' _ w' E' hs' hext.le (by rw [h1]; exact hext.up) ?_ (by unfold RelS; rw [h1]; exact h4)
      intro id hid
      exact (hext.dom id hid).imp_right fun h => .inr h.1
    · exact h.elim
  · refine aop_step hX h (hr.names (D' := E.dom) fun _ hd => hd) hme ?_
    intro r upd acc v w' E' hk hle hc hrel
    obtain ⟨s', hs', h1, h2, h3, h4⟩ := putA_sound (s := ⟨s.n, s.fr, upd ++ s.hp, s.nx⟩) hk hrel hc
    refine hn s' _ w' E' hs' hle (by rw [h1]; exact Nat.le_refl _) (fun id hid => (h4.dom id hid).imp_right .inl) ?_
    unfold RelS
    rw [h1]
    exact h4.names fun id hid => by
      have h5 : id < s.nx ∨ id = me := (h4.dom id hid).imp_left (hr.dom id)
      show id < s.nx
      omega

/-- A guard. -/
theorem yielded_eq {all : List Oper} {a : Act} {j d : Nat} (hd : (all[j]?).bind (·.dst) = some d) (hl : d < a.tmps.size) : yielded all.toArray a.tmps j = match a.tmps.getD d undef with | .bool b => some b | _ => none := by
  unfold yielded
  have : (all.toArray[j]?).bind (·.dst) = some d := by simpa using hd
  rw [this]
  simp only [Option.bind_some]
  rw [Array.getD_eq_getD_getElem?, Array.getElem?_eq_getElem hl]
  simp only [Option.getD_some]
  cases a.tmps[d] <;> rfl

theorem guardA_sound {all : List Oper} {o : Oper} {s : St} {K1 K2 : St → Prop} (h : guardA all o s K1 K2) {w0 : World} {K0 : Nat → Option Obj} {D : Nat → Prop} {E : Env} {a : Act} {w : World} (hr : Rel w0 K0 D E s.n s.fr s.hp a w) :
    ∃ s', s'.n = s.n ∧ s'.nx = s.nx ∧ s'.hp = s.hp ∧ (∀ t, Con E (lkp s'.fr t) (a.eval (.tmp t)) ∧ (s.n ≤ t → lkp s'.fr t = .top)) ∧ ((Region.wanted o (yielded all.toArray a.tmps) = true ∧ K1 s') ∨ (Region.wanted o (yielded all.toArray a.tmps) = false ∧ K2 s')) := by
  have same : ∀ t, Con E (lkp s.fr t) (a.eval (.tmp t)) ∧ (s.n ≤ t → lkp s.fr t = .top) := fun t => ⟨hr.ev (.tmp t), hr.out t⟩
  unfold guardA at h
  cases hg : o.guard with
  | none => rw [hg] at h; exact ⟨s, rfl, rfl, rfl, same, .inl ⟨by simp [Region.wanted, hg], h⟩⟩
  | some jw =>
    obtain ⟨j, want⟩ := jw
    rw [hg] at h
    simp only at h
    cases hd : (all[j]?).bind (·.dst) with
    | none =>
      rw [hd] at h
      refine ⟨s, rfl, rfl, rfl, same, .inr ⟨?_, h⟩⟩
      simp [Region.wanted, hg, yielded, hd]
    | some d =>
      rw [hd] at h
      simp only at h
      have hev := hr.ev (.tmp d)
      simp only [evo, Act.eval] at hev
      split at h
      · rename_i b hb
        obtain ⟨hlt, h1, h2⟩ := h
        rw [hb] at hev
        have hy := yielded_eq (all := all) (a := a) hd (by rw [hr.size]; exact hlt)
        generalize hv : a.tmps.getD d undef = v at hev hy
        cases hev
        simp only at hy
        have hsame : ∀ c, b = c → ∀ t, Con E (lkp ((d, .v (.bool c)) :: s.fr) t) (a.eval (.tmp t)) ∧ (s.n ≤ t → lkp ((d, .v (.bool c)) :: s.fr) t = .top) := by
          intro c hc t
          rw [lkp_cons]
          by_cases e : t = d
          · subst e
            rw [if_pos rfl]
            refine ⟨?_, fun h' => absurd h' (Nat.not_le.2 hlt)⟩
            simp only [Act.eval, hv, ← hc]
            exact .v _
          · rw [if_neg e]; exact same t
        by_cases e : b = want
        · exact ⟨⟨s.n, (d, .v (.bool want)) :: s.fr, s.hp, s.nx⟩, rfl, rfl, rfl, hsame want e, .inl ⟨by simp [Region.wanted, hg, hy, e], h1 e⟩⟩
        · have e' : b = !want := by cases b <;> cases want <;> simp_all
          exact ⟨⟨s.n, (d, .v (.bool !want)) :: s.fr, s.hp, s.nx⟩, rfl, rfl, rfl, hsame _ e', .inr ⟨by simp [Region.wanted, hg, hy, e], h2 e'⟩⟩
      · rename_i xs hb
        refine ⟨s, rfl, rfl, rfl, same, .inr ⟨?_, h⟩⟩
        rw [hb] at hev
        by_cases hlt : d < s.n
        · have hy := yielded_eq (all := all) (a := a) hd (by rw [hr.size]; exact hlt)
          generalize hv : a.tmps.getD d undef = v at hev hy
          cases hev
          simp only at hy
          simp [Region.wanted, hg, hy]
        · have := hr.out d (Nat.le_of_not_lt hlt)
          rw [hb] at this; cases this
      · exact h.elim

/-- A frame told otherwise. -/
theorem Rel.retell {w0 : World} {K0 : Nat → Option Obj} {D : Nat → Prop} {E : Env} {n : Nat} {fr fr' : Frm} {hp : Hp} {a : Act} {w : World} (h : Rel w0 K0 D E n fr hp a w)
    (h' : ∀ t, Con E (lkp fr' t) (a.eval (.tmp t)) ∧ (n ≤ t → lkp fr' t = .top)) : Rel w0 K0 D E n fr' hp a w :=
  { h with regs := fun t _ => (h' t).1, out := fun t ht => (h' t).2 ht }

/-- A region in the text's order. -/
theorem opsT_sound (hX : X.ok) (hF : CallSound X callF) (all : List Oper) {base : Nat} {K : St → Prop} {Q : Exit → Act → World → Prop} (size : Nat) : ∀ (l : List Oper) (k : Nat) (s : St), opsT X callF all l k base s K →
    ∀ (w0 : World) (K0 : Nat → Option Obj) (E : Env) (a : Act) (w : World), RelS w0 K0 E s a w → (∀ id, E.dom id → id < base + k ∨ base + size ≤ id) → base + size ≤ s.nx → k + l.length ≤ size →
    (∀ s' a' w' E', K s' → E.le E' → s.nx ≤ s'.nx → (∀ id, E'.dom id → E.dom id ∨ base ≤ id) → RelS w0 K0 E' s' a' w' → Q .normal a' w') → wpList X.P all.toArray Q l a w
  | [], k, s, h, w0, K0, E, a, w, hr, hd, hb, hl, hn => hn s a w E h (Env.le.refl E) (Nat.le_refl _) (fun _ h => .inl h) hr
  | o :: r, k, s, h, w0, K0, E, a, w, hr, hd, hb, hl, hn => by
    simp only [List.length_cons] at hl
    simp only [opsT] at h
    obtain ⟨s1, g1, g2, g3, g4, g5⟩ := guardA_sound h hr
    have hr1 : RelS w0 K0 E s1 a w := by
      unfold RelS
      rw [g1, g2, g3]
      exact hr.retell g4
    rcases g5 with ⟨hw, hk⟩ | ⟨hw, hk⟩
    · refine wpList_step fun Kn hKn => ?_
      rw [if_pos hw]
      refine stepA_sound hX hF hk hr1 (fun hdm => by rcases hd _ hdm with h' | h' <;> omega) (by rw [g2]; omega) ?_
      intro s' a' w' E' hs' hle hnx hdom hrel
      refine hKn a' w' (opsT_sound hX hF all size r (k + 1) s' hs' w0 K0 E' a' w' hrel ?_ (by omega) (by omega) ?_)
      · intro id hid
        rcases hdom id hid with h' | h' | h'
        · have := hd id h'; omega
        · omega
        · right; omega
      · intro s2 a2 w2 E2 hk2 hle2 hnx2 hdom2 hrel2
        refine hn s2 a2 w2 E2 hk2 (hle.trans hle2) (by omega) ?_ hrel2
        intro id hid
        rcases hdom2 id hid with h' | h'
        · rcases hdom id h' with h' | h' | h'
          · exact .inl h'
          · right; omega
          · right; omega
        · exact .inr h'
    · refine wpList_step fun Kn hKn => ?_
      rw [if_neg (by rw [hw]; simp)]
      obtain ⟨s', hs', h1, h2, h3, h4⟩ := putA_sound hk hr1 (.v undef)
      refine hKn _ w (opsT_sound hX hF all size r (k + 1) s' hs' w0 K0 E _ w (by unfold RelS; rw [h1]; exact h4) (fun id hid => by have := hd id hid; omega) (by omega) (by omega) ?_)
      intro s2 a2 w2 E2 hk2 hle2 hnx2 hdom2 hrel2
      exact hn s2 a2 w2 E2 hk2 hle2 (by omega) hdom2 hrel2
end

end Go.Vai
