/- Cuts of slices, and structs built of parts. -/
import Derived.Test.YtinjbaccnclhdaaV6
namespace Go.Vai
open Go.RowKit

section
variable {P : Program} {T : TEnv} {ρ : Operand → AV} {H : Nat → Option Blk} {me : Nat}

theorem run_sliceBound (x : Value) (k : IntKind) (i : Int) (hx : x = .int k i) (y : Nat) (code : BoundsCode) (h0 : 0 ≤ i) (h1 : i ≤ y) (w : World) : (Instr.sliceBound x y code).run P w = .ok i.toNat w := by
  subst hx
  simp only [Instr.sliceBound, asIntOf, Sem.run_bind, Sem.run_pure, Result.andThen_ok, if_pos (show 0 ≤ i ∧ i ≤ (y : Int) from ⟨h0, h1⟩)]

/-- A bound that is given, or not. -/
theorem bndA_some {E : Env} {a : Act} {x : Option Operand} {d : Nat} {i : Int} (h : bndA (x.map ρ) d = some i) (hx : ∀ z, x = some z → Con E (ρ z) (a.eval z)) :
    (x = none ∧ i = d) ∨ ∃ z k, x = some z ∧ a.eval z = .int k i := by
  cases x with
  | none => simp [bndA] at h; exact .inl ⟨rfl, h.symm⟩
  | some z =>
    refine .inr ?_
    have hz := hx z rfl
    simp only [Option.map_some, bndA] at h
    split at h
    · rename_i e; cases e
    · rename_i k j e
      simp only [Option.some.injEq] at e
      cases h
      rw [e] at hz
      generalize hv : a.eval z = v at hz
      cases hz
      exact ⟨z, k, rfl, hv⟩
    · cases h

theorem run_sliceBounds {E : Env} {a : Act} (len cap : Nat) (lo hi mx : Option Operand) (l h m : Int) (hlo : bndA (lo.map ρ) 0 = some l) (hhi : bndA (hi.map ρ) len = some h) (hmx : bndA (mx.map ρ) len = some m)
    (hx : ∀ z, lo = some z ∨ hi = some z ∨ mx = some z → Con E (ρ z) (a.eval z)) (hm : mx.isSome → hi.isSome) (h0 : 0 ≤ l) (h1 : l ≤ h) (h2 : h ≤ m) (h3 : m ≤ len) (hc : len ≤ cap) (w : World) :
    ∃ c : Nat, h.toNat ≤ c ∧ c ≤ cap ∧ (Instr.sliceBounds true len cap (lo.map a.eval) (hi.map a.eval) (mx.map a.eval)).run P w = .ok (l.toNat, h.toNat, c) w := by
  have H1 := bndA_some (a := a) (E := E) hlo fun z hz => hx z (.inl hz)
  have H2 := bndA_some (a := a) (E := E) hhi fun z hz => hx z (.inr (.inl hz))
  have H3 := bndA_some (a := a) (E := E) hmx fun z hz => hx z (.inr (.inr hz))
  rcases H3 with ⟨rfl, rfl⟩ | ⟨zm, km, rfl, hzm⟩
  · refine ⟨cap, by omega, Nat.le_refl _, ?_⟩
    rcases H2 with ⟨rfl, rfl⟩ | ⟨zh, kh, rfl, hzh⟩
    · rcases H1 with ⟨rfl, rfl⟩ | ⟨zl, kl, rfl, hzl⟩
      · simp [Instr.sliceBounds]
      · have hb := run_sliceBound (P := P) (a.eval zl) kl l hzl len .sliceB h0 h1 w
        simp [Instr.sliceBounds, hb]
    · rcases H1 with ⟨rfl, rfl⟩ | ⟨zl, kl, rfl, hzl⟩
      · simp only [Instr.sliceBounds, Option.map_none, Option.map_some, Sem.run_bind, Sem.run_pure, Result.andThen_ok, if_true, run_sliceBound (P := P) _ kh h hzh cap .sliceAcap (by omega) (by omega)]
        simp
      · simp only [Instr.sliceBounds, Option.map_none, Option.map_some, Sem.run_bind, Sem.run_pure, Result.andThen_ok, if_true, run_sliceBound (P := P) _ kh h hzh cap .sliceAcap (by omega) (by omega),
          Option.isSome_none, Bool.false_eq_true, if_false, run_sliceBound (P := P) _ kl l hzl h.toNat .sliceB h0 (by omega)]
  · obtain ⟨zh, rfl⟩ : ∃ z, hi = some z := Option.isSome_iff_exists.1 (hm rfl)
    rcases H2 with ⟨h', _⟩ | ⟨zh, kh, e, hzh⟩
    · cases h'
    · cases e
      refine ⟨m.toNat, by omega, by omega, ?_⟩
      rcases H1 with ⟨rfl, rfl⟩ | ⟨zl, kl, rfl, hzl⟩
      · simp only [Instr.sliceBounds, Option.map_none, Option.map_some, Sem.run_bind, Sem.run_pure, Result.andThen_ok, if_true, run_sliceBound (P := P) _ km m hzm cap .slice3Acap (by omega) (by omega),
          run_sliceBound (P := P) _ kh h hzh m.toNat .slice3B (by omega) (by omega)]
        simp
      · simp only [Instr.sliceBounds, Option.map_some, Sem.run_bind, Sem.run_pure, Result.andThen_ok, if_true, run_sliceBound (P := P) _ km m hzm cap .slice3Acap (by omega) (by omega),
          run_sliceBound (P := P) _ kh h hzh m.toNat .slice3B (by omega) (by omega), Option.isSome_some, run_sliceBound (P := P) _ kl l hzl h.toNat .slice3C h0 (by omega)]

theorem looks_slice (hT : TOk P T) (t : TypeId) (x : Operand) (lo hi mx : Option Operand) (e : TypeId) (len : Nat) (l h m : Int) (r : AV) (acc : List Nat) (hk : (T t).k = .slice e) (hn : (T e).k ≠ .none)
    (hlen : lenOf (ρ x) = some len) (hlo : bndA (lo.map ρ) 0 = some l) (hhi : bndA (hi.map ρ) len = some h) (hmx : bndA (mx.map ρ) len = some m) (hm : mx.isSome → hi.isSome) (h0 : 0 ≤ l) (h1 : l ≤ h) (h2 : h ≤ m) (h3 : m ≤ len)
    (hr : match ρ x with
      | .v (.slice none 0 0) => r = .v (.slice none 0 0)
      | .lst sz xs => sz = (T e).size ∧ r = .lst sz ((xs.drop l.toNat).take (h.toNat - l.toNat))
      | .arr id off _ => (match H id with | some b => b.sz = (T e).size | none => False) ∧ r = .arr id (off + l.toNat) (h.toNat - l.toNat) ∧ acc = [id]
      | _ => False) : Looks P (.slice t x lo hi mx) ρ H r acc := by
  intro o ho w0 K0 D E n fr hp a w hrel hx hH
  have hX := hx x (by simp [Op.operands])
  obtain ⟨_, de, _, hu, _, _, _, _, _, hd⟩ := hT.ok t (by rw [hk]; simp)
  rw [hk] at hd; simp only [TK.is] at hd; subst hd
  have hops : ∀ z, lo = some z ∨ hi = some z ∨ mx = some z → Con E (ρ z) (a.eval z) := by
    intro z hz
    refine hx z ?_
    simp only [Op.operands]
    rcases hz with rfl | rfl | rfl <;> simp
  have hrun : ∀ (A : Option Addr) (cap : Nat), a.eval x = .slice A len cap → len ≤ cap → ∃ c : Nat, h.toNat ≤ c ∧ c ≤ cap ∧
      (execOp a.eval o).run P w = .ok (.value (.slice (if c = l.toNat then A else A.map (·.add (l.toNat * (T e).size))) (h.toNat - l.toNat) (c - l.toNat))) w := by
    intro A cap hv hc
    obtain ⟨c, c1, c2, hb⟩ := run_sliceBounds (P := P) (E := E) (a := a) len cap lo hi mx l h m hlo hhi hmx hops hm h0 h1 h2 h3 hc w
    refine ⟨c, c1, c2, ?_⟩
    simp only [execOp, ho, hv, Instr.sliceAt, Instr.slice, Sem.run_bind, run_underlying hu, Result.andThen_ok, hb, run_size hT hn, Sem.run_pure]
  split at hr
  · rename_i hx0
    subst hr
    rw [hx0] at hX hlen
    simp only [lenOf, Option.some.injEq] at hlen
    subst hlen
    generalize hv : a.eval x = vx at hX
    cases hX
    obtain ⟨c, c1, c2, hrun⟩ := hrun none 0 hv (Nat.le_refl _)
    have : c = 0 := by omega
    subst this
    have hl0 : l.toNat = 0 := by omega
    have hh0 : h.toNat = 0 := by omega
    rw [hl0, hh0] at hrun
    exact ⟨_, hrun, .v _⟩
  · rename_i sz xs hx0
    obtain ⟨rfl, rfl⟩ := hr
    rw [hx0] at hX hlen
    simp only [lenOf, Option.some.injEq] at hlen
    generalize hv : a.eval x = vx at hX
    cases hX with
    | lst _ _ A n' cap ad y hn' hc hA hs hk' h1' hh =>
      subst hlen hn'
      obtain ⟨c, c1, c2, hrun⟩ := hrun A cap hv hc
      refine ⟨_, hrun, .lst _ _ _ _ _ (ad.add (l.toNat * (T e).size)) (fun i j => y (l.toNat + i) j) ?_ ?_ ?_ ?_ ?_ ?_ ?_⟩
      · simp only [List.length_take, List.length_drop]; omega
      · omega
      · intro hne
        have hne' : xs ≠ [] := by intro e0; rw [e0] at hne; simp at hne
        have : ¬ c = l.toNat := by
          intro e0
          apply hne
          apply List.eq_nil_of_length_eq_zero
          simp only [List.length_take, List.length_drop]
          omega
        rw [if_neg this, hA hne']; rfl
      all_goals (intro i; intro z; try intro j b)
      · intro hz
        rw [List.getElem?_take] at hz
        split at hz
        · rw [List.getElem?_drop] at hz; exact hs _ z hz
        · cases hz
      · intro hz hb
        rw [List.getElem?_take] at hz
        split at hz
        · rw [List.getElem?_drop] at hz
          have := hk' _ z j b hz hb
          rw [add_add, ← Nat.add_assoc, ← Nat.add_mul]
          exact this
        · cases hz
      · intro hz hb
        rw [List.getElem?_take] at hz
        split at hz
        · rw [List.getElem?_drop] at hz; exact h1' _ z j b hz hb
        · cases hz
      · intro hz hb
        rw [List.getElem?_take] at hz
        split at hz
        · rw [List.getElem?_drop] at hz; exact hh _ z j b hz hb
        · cases hz
  · rename_i id off len' hx0
    obtain ⟨hb, rfl, rfl⟩ := hr
    rw [hx0] at hX hlen
    simp only [lenOf, Option.some.injEq] at hlen
    subst hlen
    cases hHi : H id with
    | none => rw [hHi] at hb; exact hb.elim
    | some b =>
      rw [hHi] at hb
      have hown := hrel.own id b ((hH id (by simp)).trans hHi)
      have hsz : E.sz id = (T e).size := hown.2.1.trans hb
      generalize hv : a.eval x = vx at hX
      cases hX with
      | arr _ _ _ g o' cap hd hg ho' hc hl =>
        obtain ⟨c, c1, c2, hrun⟩ := hrun _ cap hv hl
        refine ⟨_, hrun, ?_⟩
        by_cases e0 : c = l.toNat
        · rw [if_pos e0]
          exact .arr id _ _ g o' _ hd hg (.inl (by omega)) (by omega) (by omega)
        · rw [if_neg e0]
          simp only [Option.map_some, add_plain']
          refine .arr id _ _ g _ _ hd hg ?_ (by omega) (by omega)
          rcases ho' with h' | h'
          · omega
          · right; rw [h', hsz, ← Nat.add_mul]
      | arr0 _ hd hg =>
        obtain ⟨c, c1, c2, hrun⟩ := hrun none 0 hv (Nat.le_refl _)
        have : c = 0 := by omega
        subst this
        have hl0 : l.toNat = 0 := by omega
        have hh0 : h.toNat = 0 := by omega
        rw [hl0, hh0] at hrun ⊢
        exact ⟨_, hrun, .arr0 id hd hg⟩
  · exact hr.elim

end

end Go.Vai
