/- Functions that only compute, from the evaluator; what they answer is told without their own blocks. -/
import Derived.Test.YtinjbaccnclhdaaV19
namespace Go.Vai
open Go.RowKit

theorem hfree_v (x : Value) : HFree (.v x) := fun _ _ h => by cases h; exact .v _
theorem hfree_top : HFree .top := fun _ _ h => by cases h; exact .top _
theorem hfree_nb (xs : List AV) (e : Bool) : HFree (.nb xs e) := fun _ _ h => by cases h with | nb _ _ _ h => exact .nb _ _ _ h
theorem hfree_agg {cs : List AV} (h : ∀ c ∈ cs, HFree c) : HFree (.agg cs) := fun E _ k => by
  cases k with
  | agg _ xs hl hx => exact .agg _ _ hl fun i a x ha hv => h a (List.mem_of_getElem? ha) E x (hx i a x ha hv)
theorem hfree_lst {sz : Nat} {xs : List AV} (h : ∀ x ∈ xs, ∀ c ∈ x.cells, HFree c) : HFree (.lst sz xs) := fun E _ k => by
  cases k with
  | lst _ _ A n c ad y hn hc hA hs hk h1 hx => exact .lst _ _ A n c ad y hn hc hA hs hk h1 fun i a j b ha hb => h a (List.mem_of_getElem? ha) b (List.mem_of_getElem? hb) E _ (hx i a j b ha hb)
theorem hfree_fn {f : Fn} {a b : List AV} (h : ∀ x ∈ a, HFree x) (h' : ∀ x ∈ b, HFree x) : HFree (.fn f a b) := fun E _ k => by
  cases k with
  | fn _ _ _ xs ys hl hm hx hy => exact .fn _ _ _ _ _ hl hm (fun i u x hu hv => h u (List.mem_of_getElem? hu) E x (hx i u x hu hv)) (fun i u x hu hv => h' u (List.mem_of_getElem? hu) E x (hy i u x hu hv))

/-- A value told without the call's own blocks. -/
def frzA (hp : Hp) : AV → (AV → Prop) → Prop
  | .arr id off len, K => match hlk hp id with
    | some b => off + len ≤ b.el.length ∧ (∀ x ∈ (b.el.drop off).take len, ∀ c ∈ x.cells, HFree c) ∧ K (.lst b.sz ((b.el.drop off).take len))
    | none => False
  | .v x, K => K (.v x)
  | x, K => HFree x ∧ K x

def frzs (hp : Hp) : List AV → List AV → (List AV → Prop) → Prop
  | [], acc, K => K acc
  | x :: r, acc, K => frzA hp x fun y => frzs hp r (acc ++ [y]) K

def frz (hp : Hp) : AV → (AV → Prop) → Prop
  | .agg cs, K => frzs hp cs [] fun ds => K (.agg ds)
  | .tup cs, K => frzs hp cs [] fun ds => K (.tup ds)
  | x, K => frzA hp x K

section
variable {X : Ctx}

theorem frzA_sound {w0 : World} {K0 : Nat → Option Obj} {D : Nat → Prop} {E : Env} {n : Nat} {fr : Frm} {hp : Hp} {a : Act} {w : World} (hr : Rel w0 K0 D E n fr hp a w) {K' : Nat → Option Obj} (hK : ∀ b o, E.K b = some o → K' b = some o) (hN : ∀ b, w0.heap.size ≤ b → K' b = w.heap[b]?)
    {x : AV} {v : Value} (hx : Con E x v) {K : AV → Prop} (h : frzA hp x K) : ∃ y, K y ∧ Con (Env.bare K') y v := by
  have hle : (Env.bare E.K).le (Env.bare K') := Env.bare_le _ hK
  have other : ∀ y, HFree y ∧ K y → Con E y v → ∃ y, K y ∧ Con (Env.bare K') y v := fun y hy hc => ⟨y, hy.2, (hy.1 E v hc).mono hle⟩
  cases x with
  | arr id off len =>
    simp only [frzA] at h
    split at h
    · rename_i b hb
      obtain ⟨h1, h2, h3⟩ := h
      refine ⟨_, h3, ?_⟩
      obtain ⟨hd, hsz, hpos, _, hown⟩ := hr.own id b hb
      have hlen : ((b.el.drop off).take len).length = len := by simp; omega
      have nil : len = 0 → ∀ {A : Option Addr} {c : Nat}, Con (Env.bare K') (.lst b.sz ((b.el.drop off).take len)) (.slice A len c) := by
        intro h0 A c
        subst h0
        exact .lst _ _ A 0 c ⟨0, 0, none⟩ (fun _ _ => undef) (by simp) (Nat.zero_le _) (by simp) (by simp) (by simp) (by simp) (by simp)
      cases hx with
      | arr0 _ hd hg => exact nil rfl
      | arr _ _ _ g o c hd hg ho hc hl =>
        by_cases h0 : len = 0
        · exact nil h0
        rcases hown with ⟨k1, _⟩ | ⟨g', cur, k1, k2, k3, k4, k5, k6, k7, k8⟩
        · rw [k1] at hg; cases hg
        rw [k1] at hg; cases hg
        have ho' : o = off * b.sz := by
          rcases ho with e | e
          · omega
          · rw [e, hsz]
        subst ho'
        have el : ∀ (i : Nat) (x : AV), ((b.el.drop off).take len)[i]? = some x → i < len ∧ b.el[off + i]? = some x := by
          intro i x hx
          rw [List.getElem?_take] at hx
          split at hx
          · rename_i hi; rw [List.getElem?_drop] at hx; exact ⟨hi, hx⟩
          · cases hx
        have cell : ∀ (i : Nat) (x : AV) (j : Nat) (c : AV), ((b.el.drop off).take len)[i]? = some x → x.cells[j]? = some c →
            ∃ y, cur[(off + i) * b.sz + j]? = some y ∧ y.oneCell' = true ∧ Con E c y := fun i x j c hx hc => (k8 (off + i) x (el i x hx).2).2 j c hc
        refine .lst _ _ _ len c ⟨g, off * b.sz, none⟩ (fun i j => (cur[(off + i) * b.sz + j]?).getD undef) hlen hl (fun _ => rfl) (fun i x hx => (k8 _ x (el i x hx).2).1) ?_ ?_ ?_
        · intro i x j c hx hc
          obtain ⟨y, e, _, _⟩ := cell i x j c hx hc
          rw [add_plain']
          simp only [e, Option.getD_some, kcell, Env.bare]
          rw [hN g k2, k3]
          simp only [Option.isSome_none, Bool.false_eq_true, if_false]
          rw [show off * b.sz + (i * b.sz + j) = (off + i) * b.sz + j by rw [Nat.add_mul]; omega]
          exact e
        · intro i x j c hx hc
          obtain ⟨y, e, h', _⟩ := cell i x j c hx hc
          simp only [e, Option.getD_some]; exact h'
        · intro i x j c hx hc
          obtain ⟨y, e, _, h'⟩ := cell i x j c hx hc
          simp only [e, Option.getD_some]
          exact (h2 x (List.mem_of_getElem? hx) c (List.mem_of_getElem? hc) E y h').mono hle
    · exact h.elim
  | v u => cases hx; exact ⟨_, h, .v _⟩
  | _ => exact other _ h hx

theorem frzs_sound {w0 : World} {K0 : Nat → Option Obj} {D : Nat → Prop} {E : Env} {n : Nat} {fr : Frm} {hp : Hp} {a : Act} {w : World} (hr : Rel w0 K0 D E n fr hp a w) {K' : Nat → Option Obj} (hK : ∀ b o, E.K b = some o → K' b = some o) (hN : ∀ b, w0.heap.size ≤ b → K' b = w.heap[b]?) :
    ∀ (xs : List AV) (vs : List Value) (acc : List AV) (us : List Value) (K : List AV → Prop), xs.length = vs.length → (∀ (i : Nat) (x : AV) (v : Value), xs[i]? = some x → vs[i]? = some v → Con E x v) → acc.length = us.length →
      (∀ (i : Nat) (x : AV) (v : Value), acc[i]? = some x → us[i]? = some v → Con (Env.bare K') x v) → frzs hp xs acc K →
      ∃ ys, K ys ∧ ys.length = (us ++ vs).length ∧ (∀ (i : Nat) (x : AV) (v : Value), ys[i]? = some x → (us ++ vs)[i]? = some v → Con (Env.bare K') x v)
  | [], vs, acc, us, K, hl, _, hl', ha, h => by
    have : vs = [] := List.length_eq_zero_iff.1 hl.symm
    subst this
    exact ⟨acc, h, by simpa using hl', by simpa using ha⟩
  | x :: xs, [], acc, us, K, hl, _, _, _, _ => by simp at hl
  | x :: xs, v :: vs, acc, us, K, hl, hx, hl', ha, h => by
    obtain ⟨y, hy, hc⟩ := frzA_sound hr hK hN (hx 0 x v rfl rfl) h
    obtain ⟨ys, h1, h2, h3⟩ := frzs_sound hr hK hN xs vs (acc ++ [y]) (us ++ [v]) K (by simpa using hl) (fun i x' v' h1 h2 => hx (i + 1) x' v' (by simpa using h1) (by simpa using h2)) (by simpa using hl') (by
      intro i z u hz hu
      rw [List.getElem?_append] at hz hu
      rw [hl'] at hz
      split at hz
      · rename_i hi; rw [if_pos hi] at hu; exact ha i z u hz hu
      · rename_i hi
        rw [if_neg hi] at hu
        rw [List.getElem?_singleton] at hz hu
        split at hz
        · rename_i h0; rw [if_pos h0] at hu; cases hz; cases hu; exact hc
        · cases hz) hy
    exact ⟨ys, h1, by simpa using h2, by simpa using h3⟩

theorem frz_sound {w0 : World} {K0 : Nat → Option Obj} {D : Nat → Prop} {E : Env} {n : Nat} {fr : Frm} {hp : Hp} {a : Act} {w : World} (hr : Rel w0 K0 D E n fr hp a w) {K' : Nat → Option Obj} (hK : ∀ b o, E.K b = some o → K' b = some o) (hN : ∀ b, w0.heap.size ≤ b → K' b = w.heap[b]?)
    {x : AV} {v : Value} (hx : Con E x v) {K : AV → Prop} (h : frz hp x K) : ∃ y, K y ∧ Con (Env.bare K') y v := by
  cases x with
  | agg cs =>
    cases hx with
    | agg _ xs hl hc =>
      obtain ⟨ys, h1, h2, h3⟩ := frzs_sound hr hK hN cs xs.toList [] [] _ (by simpa using hl) (by simpa using hc) rfl (by simp) h
      exact ⟨_, h1, .agg _ _ (by simpa using h2) (by simpa using h3)⟩
  | tup cs =>
    cases hx with
    | tup _ xs hl hc =>
      obtain ⟨ys, h1, h2, h3⟩ := frzs_sound hr hK hN cs xs.toList [] [] _ (by simpa using hl) (by simpa using hc) rfl (by simp) h
      exact ⟨_, h1, .tup _ _ (by simpa using h2) (by simpa using h3)⟩
  | _ => exact frzA_sound hr hK hN hx h

theorem rel_start {w : World} {K : Nat → Option Obj} (hK : ∀ b o, K b = some o → w.heap[b]? = some o) : Rel w K (fun id => id < 0) (Env.bare K) 0 [] [] { tmps := #[], defers := [] } w :=
  { below := Below.refl _ _, kw := hK, k0 := fun _ _ h _ => h, nd := rfl, size := rfl, regs := fun t ht => (by omega), dom := fun _ h => h.elim, out := fun _ _ => rfl, own := fun id b h => (by cases h), inj := fun id id' b b' g h => (by cases h) }

/-- THE EVALUATOR'S WORD FOR A FUNCTION'S CONTRACT. -/
theorem pure_of (hX : X.ok) (n : Nat) {g : FuncId} {fn : Func} {body : Code} (hfn : X.P.funcs[g]? = some fn) (hb : fn.body = some body) {args : List AV} {r : AV} (hl : args.length ≤ fn.ntmps)
    (h : codeA X (callN X n) body (bodyQ X.T fn fun r0 hp _ => frz hp r0 (· = r)) ⟨fn.ntmps, argFrm args 0, [], 0⟩) : PureC X.P g args r := by
  intro w K vs hK ha
  refine (body_calls hX (callN_sound hX n) hfn hb hl h (rel_start hK) ha).mono ?_
  rintro e w' ⟨v, r0, hp', nx', E', rfl, h1, h2, h3, h4⟩
  obtain ⟨y, rfl, hc⟩ := frz_sound h4 (K' := grow w K w') (fun b o hb => by
    simp only [grow]
    split
    · rename_i hlt; exact h4.k0 b o hb hlt
    · exact h4.kw b o hb) (fun b hb => by simp only [grow, if_neg (Nat.not_lt.2 hb)]) h3 h1
  exact ⟨v, rfl, h4.below, hc⟩

end

end Go.Vai
