/- All code that the evaluator takes. -/
import Derived.Test.YtinjbaccnclhdaaV17p
import Derived.Scope
import Derived.LoopN
namespace Go.Vai
open Go.RowKit

/-- A scope through which the run goes ahead: a jump to its label goes on behind the label. -/
def scopeQ (P : Program) (c : Code) (Q : Exit → Act → World → Prop) : Exit → Act → World → Prop
  | .goto l, a, w => match findLabel c l with
    | some rest => rest.wp P (Exit.noGoto Q) a w
    | none => Q (.goto l) a w
  | e, a, w => Q e a w

theorem wp_scope_ahead {P : Program} {a : Act} {w : World} {Q : Exit → Act → World → Prop} {c : Code} (h : c.wp P (scopeQ P c Q) a w) : (Code.scope c).wp P Q a w := by
  intro b k cs
  obtain ⟨e, a₁, w₁, hq, harr⟩ := h b (.inScope c :: k) cs
  cases e with
  | normal => exact ⟨.normal, a₁, w₁, hq, .head step_scope (Steps.trans harr (.one step_inScope))⟩
  | exit id => exact ⟨.exit id, a₁, w₁, hq, fun k' hk => .head step_scope (harr k' (by simp [exitTo, hk]))⟩
  | goto l =>
    simp only [scopeQ] at hq
    cases hf : findLabel c l with
    | none =>
      rw [hf] at hq
      exact ⟨.goto l, a₁, w₁, hq, fun k' hk => .head step_scope (harr k' (by simp [gotoIn, hf, hk]))⟩
    | some rest =>
      rw [hf] at hq
      have hg : gotoIn l (.inScope c :: k) = some (.code rest :: .inScope c :: k) := by simp [gotoIn, hf]
      obtain ⟨e₂, a₂, w₂, hq₂, harr₂⟩ := hq b (.inScope c :: k) cs
      have hst := Steps.trans (.one step_scope) (harr _ hg)
      cases e₂ with
      | normal => exact ⟨.normal, a₂, w₂, hq₂, Steps.trans hst (Steps.trans harr₂ (.one step_inScope))⟩
      | exit id => exact ⟨.exit id, a₂, w₂, hq₂, fun k' hk => Steps.trans hst (harr₂ k' (by simp [exitTo, hk]))⟩
      | goto l => exact hq₂.elim
      | ret => exact ⟨_, a₂, w₂, hq₂, .of_steps hst harr₂⟩
      | panic ch => exact ⟨_, a₂, w₂, hq₂, .of_steps hst harr₂⟩
      | outgrown => exact ⟨_, a₂, w₂, hq₂, .of_steps hst harr₂⟩
  | ret => exact ⟨_, a₁, w₁, hq, .of_steps (.one step_scope) harr⟩
  | panic ch => exact ⟨_, a₁, w₁, hq, .of_steps (.one step_scope) harr⟩
  | outgrown => exact ⟨_, a₁, w₁, hq, .of_steps (.one step_scope) harr⟩

section
variable {X : Ctx} {callF : CallF}

/-- What WP's posts are. -/
def Post (w0 : World) (K0 : Nat → Option Obj) (E : Env) (nx : Nat) (Q : Exit → St → Prop) (e : Exit) (a : Act) (w : World) : Prop :=
  ∃ s' E', Q e s' ∧ Ext E nx E' s'.nx ∧ RelS w0 K0 E' s' a w

theorem Post.ext {w0 : World} {K0 : Nat → Option Obj} {E E1 : Env} {nx n1 : Nat} {Q : Exit → St → Prop} {e : Exit} {a : Act} {w : World} (h : Ext E nx E1 n1) (k : Post w0 K0 E1 n1 Q e a w) : Post w0 K0 E nx Q e a w := by
  obtain ⟨s', E', h1, h2, h3⟩ := k
  exact ⟨s', E', h1, h.trans h2, h3⟩

theorem WP.mono {c : Code} {Q Q' : Exit → St → Prop} {s : St} (h : WP X c Q s) (hq : ∀ e s, Q e s → Q' e s) : WP X c Q' s :=
  fun w0 K0 E a w hr => wp_mono (h w0 K0 E a w hr) fun _ _ _ ⟨s', E', h1, h2, h3⟩ => ⟨s', E', hq _ _ h1, h2, h3⟩

theorem wp_then {b : Code} {Q : Exit → St → Prop} {K : St → Prop} (hK : ∀ s, K s → WP X b Q s) {w0 : World} {K0 : Nat → Option Obj} {E : Env} {nx : Nat} {e : Exit} {a : Act} {w : World}
    (h : Post w0 K0 E nx (thenA K Q) e a w) : Exit.then (b.wp X.P (Post w0 K0 E nx Q)) (Post w0 K0 E nx Q) e a w := by
  obtain ⟨s', E', h1, h2, h3⟩ := h
  cases e with
  | normal => exact wp_mono (hK s' h1 w0 K0 E' a w h3) fun _ _ _ => Post.ext h2
  | _ => exact ⟨s', E', h1, h2, h3⟩

theorem WP.seq {x y : Code} {Q : Exit → St → Prop} {K : St → Prop} {s : St} (h : WP X x (thenA K Q) s) (hK : ∀ s, K s → WP X y Q s) : WP X (.seq x y) Q s :=
  fun w0 K0 E a w hr => wp_seq (wp_mono (h w0 K0 E a w hr) fun _ _ _ k => wp_then hK k)

theorem codeA_sound (hX : X.ok) (hF : CallSound X callF) : ∀ (c : Code) (Q : Exit → St → Prop) (s : St), drawsOk c = true → codeA X callF c Q s → WP X c Q s
  | .skip, Q, s, _, h => fun w0 K0 E a w hr => wp_skip ⟨s, E, h, Ext.refl E s.nx, hr⟩
  | .region id ops false, Q, s, _, h => fun w0 K0 E a w hr => by
    refine wp_region_list ?_
    have := opsT_sound hX hF ops.toList (base := s.nx) (K := Q .normal) (Q := Post w0 K0 E s.nx Q) ops.size ops.toList 0 _ h w0 K0 E a w (hr.names fun id hd => ?_) (fun id hd => .inl (hr.dom id hd)) (Nat.le_refl _) (by simp) ?_
    · exact this
    · have := hr.dom id hd
      show id < s.nx + ops.size
      omega
    · intro s' a' w' E' hk hle hnx hdom hrel
      refine ⟨s', E', hk, ⟨hle, ?_, fun id hd => (hdom id hd).imp_right fun h => ⟨h, hrel.dom id hd⟩⟩, hrel⟩
      have : s.nx + ops.size ≤ s'.nx := hnx
      omega
  | .region id ops true, Q, s, hdr, h => fun w0 K0 E a w hr => by
    simp only [drawsOk, Bool.and_eq_true] at hdr
    refine wp_region_any hX.T.mixed ?_
    simp only [codeA] at h
    unfold drawA at h
    have hlt : ∀ id, E.dom id → id < s.nx + ops.size := fun id hd => by
      have := hr.dom id hd
      omega
    split at h
    · have := opsD_sound hX (base := s.nx) hdr.1 hdr.2 h (w0 := w0) (K0 := K0) (E := E) (a := a) (w := w.drew) (hr.drew.names hlt) (fun id hd => hr.dom id hd) (by simp) (Q := Post w0 K0 E s.nx Q) ?_
      · exact this
      · intro s' a' w' E' hk hle hnx hdom hrel
        refine ⟨s', E', hk, ⟨hle, ?_, fun id hd => (hdom id hd).imp_right fun h => ⟨h, hrel.dom id hd⟩⟩, hrel⟩
        rw [hnx]
        exact Nat.le_add_right _ _
    · have := opsP_sound hX hF (base := s.nx) hdr.1 hdr.2 h (w0 := w0) (K0 := K0) (E := E) (a := a) (w := w.drew) (hr.drew.names hlt) (fun id hd => hr.dom id hd) (by simp) (Q := Post w0 K0 E s.nx Q) ?_
      · exact this
      · intro s' a' w' E' hk hle hnx hdom hrel
        refine ⟨s', E', hk, ⟨hle, ?_, fun id hd => (hdom id hd).imp_right fun h => ⟨h, hrel.dom id hd⟩⟩, hrel⟩
        have : s.nx + ops.size ≤ s'.nx := hnx
        omega
  | .seq x y, Q, s, hdr, h => by
    simp only [drawsOk, Bool.and_eq_true] at hdr
    exact WP.seq (codeA_sound hX hF x _ s hdr.1 h) fun s' h' => codeA_sound hX hF y Q s' hdr.2 h'
  | .cond c x y, Q, s, hdr, h => fun w0 K0 E a w hr => by
    simp only [drawsOk, Bool.and_eq_true] at hdr
    have hev := hr.ev c
    simp only [codeA] at h
    unfold condA at h
    split at h
    · rename_i b hb
      rw [hb] at hev
      generalize hv : a.eval c = v at hev
      cases hev
      exact wp_cond_split hv (fun ht => codeA_sound hX hF x Q s hdr.1 (h.1 ht) w0 K0 E a w hr) (fun hf => codeA_sound hX hF y Q s hdr.2 (h.2 hf) w0 K0 E a w hr)
    · rename_i xs e hb
      rw [hb] at hev
      generalize hv : a.eval c = v at hev
      cases hev with
      | nb _ _ b he =>
        cases e with
        | true => exact wp_cond_split hv (fun ht => codeA_sound hX hF x Q s hdr.1 (h.1 (he ht)) w0 K0 E a w hr) (fun _ => codeA_sound hX hF y Q s hdr.2 h.2 w0 K0 E a w hr)
        | false => exact wp_cond_split hv (fun _ => codeA_sound hX hF x Q s hdr.1 h.1 w0 K0 E a w hr) (fun hf => codeA_sound hX hF y Q s hdr.2 (h.2 (he hf)) w0 K0 E a w hr)
    · exact h.elim
  | .block id b, Q, s, hdr, h => fun w0 K0 E a w hr => by
    simp only [drawsOk] at hdr
    refine wp_block (wp_mono (codeA_sound hX hF b _ s hdr h w0 K0 E a w hr) ?_)
    rintro e a' w' ⟨s', E', h1, h2, h3⟩
    cases e with
    | exit id' =>
      simp only [inBlockA] at h1
      simp only [Exit.inBlock]
      split at h1
      · rename_i he; rw [if_pos he]; exact ⟨s', E', h1, h2, h3⟩
      · rename_i he; rw [if_neg he]; exact ⟨s', E', h1, h2, h3⟩
    | _ => exact ⟨s', E', h1, h2, h3⟩
  | .loop b, Q, s, _, h => h
  | .rangeFunc f ps x b, Q, s, _, h => h
  | .exit id, Q, s, _, h => fun w0 K0 E a w hr => wp_exit ⟨s, E, h, Ext.refl E s.nx, hr⟩
  | .scope b, Q, s, hdr, h => fun w0 K0 E a w hr => by
    simp only [drawsOk] at hdr
    refine wp_scope_ahead (wp_mono (codeA_sound hX hF b _ s hdr h w0 K0 E a w hr) ?_)
    rintro e a' w' ⟨s', E', h1, h2, h3⟩
    cases e with
    | goto l =>
      simp only [inScopeA] at h1
      simp only [scopeQ]
      cases hf : findLabel b l with
      | none => rw [hf] at h1; exact ⟨s', E', h1, h2, h3⟩
      | some rest =>
        rw [hf] at h1
        refine wp_mono (h1 w0 K0 E' a' w' h3) ?_
        rintro e a2 w2 ⟨s2, E2, k1, k2, k3⟩
        cases e with
        | goto l => exact k1.elim
        | _ => exact ⟨s2, E2, k1, h2.trans k2, k3⟩
    | _ => exact ⟨s', E', h1, h2, h3⟩
  | .label l, Q, s, _, h => fun w0 K0 E a w hr => wp_label ⟨s, E, h, Ext.refl E s.nx, hr⟩
  | .goto l, Q, s, _, h => fun w0 K0 E a w hr => wp_goto ⟨s, E, h, Ext.refl E s.nx, hr⟩
  | .ret, Q, s, _, h => fun w0 K0 E a w hr => wp_ret ⟨s, E, h, Ext.refl E s.nx, hr⟩
  | .refuse _, _, _, _, h => h.elim

end

end Go.Vai
