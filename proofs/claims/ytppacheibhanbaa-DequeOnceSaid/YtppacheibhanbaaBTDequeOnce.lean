/- What the law DequeOnce needs beyond the other texts. -/
import Derived.Test.YtppacheibhanbaaBG
import Derived.Test.YtppacheibhanbaaBX
/- Plays at a deque, from the first step to the last: numbers and lists. -/
namespace Go.Vai
open Go.RowKit
set_option linter.unusedVariables false
set_option linter.unusedSimpArgs false

theorem zeros_ld (n : Nat) (i : Int) : mLoad (zeros n) i = 0 := by
  unfold mLoad
  split
  · simp only [zeros, List.getD_eq_getElem?_getD, List.getElem?_replicate]
    split <;> rfl
  · rfl
theorem DI.same {c : Cf} {n : Int} {pops : List Bool} {s : Dl} {t : Int} {L : List Int} {N N' : Int} {g : Nat} (h : DI c n pops s t L N g) (hN : N ≤ N') : DI c n pops s t L N' g :=
  ⟨h.base.same hN, h.own, h.th, h.hl, h.hn, h.le, h.left, h.cur, h.perm, h.puts, h.nodup, h.incr⟩
theorem fm_none {g : Fr → Option Int} (hg : g noneF = none) (k : Nat) : (List.replicate k noneF).filterMap g = [] := by
  rw [List.filterMap_eq_nil_iff]
  intro a ha
  rw [(List.mem_replicate.1 ha).2]; exact hg

theorem DI.start {d n : Int} {pops : List Bool} (hm : mayC (dqC d) = true) (hn : 0 ≤ n ∧ n ≤ 8) : DI (dqC d) n pops (dStart (dqC d) n (callsDq pops)) 0 [] 0 0 := by
  have hs := lSize_pos (dqC d)
  have hL : Lay (dqC d) (zeros (lSize (dqC d)).toNat) 0 := ⟨hm, by rw [zeros_len]; omega, by omega, by show (0 : Int) < 1; omega⟩
  have hh : ∀ j, (dStart (dqC d) n (callsDq pops)).hand.getD j noneF = noneF := by
    intro j
    simp only [dStart]
    rw [List.getD_eq_getElem?_getD, List.getElem?_replicate]
    split <;> rfl
  have hp : ∀ g : Fr → Option Int, g noneF = none → (([] : List Fr) ++ List.replicate (n + 1).toNat noneF).filterMap g = [] := fun g hg => by rw [List.nil_append]; exact fm_none hg _
  have p1 : putsD (dStart (dqC d) n (callsDq pops)) = [] := hp dPut rfl
  have p2 : gotsD (dStart (dqC d) n (callsDq pops)) = [] := hp dGot rfl
  have hd := hL.dpos
  refine ⟨⟨hL, zeros_ld .., by omega, by show (0 : Int) ≤ (dqC d).d; omega, by simp, fun k hk => by simp at hk⟩, ?_, fun j _ => by rw [hh j]; exact none_th .., by simp [dStart], hn, by omega, by simp [dStart], .inl (hh 0), ?_, ?_, ?_, List.Pairwise.nil⟩
  · rw [hh 0]
    exact ⟨.inl rfl, fun _ => zeros_ld .., fun q => by simp [noneF] at q, fun q => by simp [noneF] at q⟩
  · rw [p1, p2]; exact List.Perm.refl _
  · rw [p1]; intro v hv; cases hv
  · rw [p1]; exact List.nodup_nil

section
variable {c : Cf} {n : Int} {pops : List Bool} {s : Dl} {t : Int} {L : List Int} {N : Int} {g : Nat}

/-- A whole turn. -/
theorem DI.turn (h : DI c n pops s t L N g) (hN : N ≤ 10000) {i : Int} (h0 : 0 ≤ i) (h1 : i ≤ n) : ∃ t' L' g', DI c n pops (dlBegin s i.toNat) t L N g' ∧ DI c n pops (dlStep c (dlBegin s i.toNat) i.toNat) t' L' (N + 1) g' ∧ DI c n pops (dTurn dqStep c n s i) t' L' (N + 1) g' ∧
    DEv (dHand s i.toNat).1 (dqStep c s.m (dHand s i.toNat).1).2 i.toNat g' L L' ∧ ((dHand s i.toNat).1.op = 1 → (dHand s i.toNat).1.res = 0 → (dqStep c s.m (dHand s i.toNat).1).2.res = 3 → L' = []) := by
  have hi : i.toNat < s.hand.length := by have := h.hl; omega
  obtain ⟨g', b⟩ := h.begin hi
  have hi2 : i.toNat < (dlBegin s i.toNat).hand.length := by simp [dlBegin, hi]
  have e1 : (dlBegin s i.toNat).hand.getD i.toNat noneF = (dHand s i.toNat).1 := gsd_self hi _ _
  have e2 : (dlStep c (dlBegin s i.toNat) i.toNat).hand.getD i.toNat noneF = (dqStep c s.m (dHand s i.toNat).1).2 := by
    rw [dlStep, e1]; exact gsd_self hi2 _ _
  obtain ⟨t', L', b1, b2, b3, b4⟩ := b.step hN hi2
  have hi3 : i.toNat < (dlStep c (dlBegin s i.toNat) i.toNat).hand.length := by simp [dlStep, hi2]
  rw [e1, e2] at b2 b4
  exact ⟨t', L', g', b, b1, by rw [dTurn_split h0 h1 h.hl]; exact b1.move hi3, b2, b4⟩
end

def stolen (f : Fr) : Option Int := if f.op = 2 ∧ f.res = 1 then some f.val else none
theorem turn_fm (c : Cf) {n : Int} (s : Dl) {i : Int} (h0 : 0 ≤ i) (h1 : i ≤ n) (q : Fr → Option Int) (q0 : ∀ f : Fr, f.res = 0 → q f = none) (qw : ∀ f k, q (withWho f k) = q f) :
    (dTurn dqStep c n s i).over.filterMap q = s.over.filterMap q ++ (q (dqStep c s.m (dHand s i.toNat).1).2).toList := by
  rw [dTurn, if_pos ⟨h0, h1⟩, dRound]
  split
  · rename_i e
    rw [q0 _ e]; simp
  · rename_i e
    rw [List.filterMap_append, List.filterMap_cons, List.filterMap_nil, qw]
    cases q (dqStep c s.m (dHand s i.toNat).1).2 <;> rfl
theorem stolen_got {f : Fr} {v : Int} (h : stolen f = some v) : dGot f = some v := by
  unfold stolen at h
  split at h
  · rename_i e
    unfold dGot; rw [if_pos (.inr e)]; exact h
  · cases h

/-- What is stolen, and what is there, as it was put in. -/
structure OrdD (c : Cf) (n : Int) (pops : List Bool) (s : Dl) (N : Int) : Prop where
  who : WhoD n s
  di : ∃ t L g, DI c n pops s t L N g ∧ (s.over.filterMap stolen ++ L).Pairwise (· < ·)

theorem OrdD.turn {c : Cf} {n : Int} {pops : List Bool} {s : Dl} {N : Int} (h : OrdD c n pops s N) (hN : N ≤ 10000) (i : Int) : OrdD c n pops (dTurn dqStep c n s i) (N + 1) := by
  refine ⟨dTurn_whoD h.who i, ?_⟩
  obtain ⟨t, L, g, hD, hP⟩ := h.di
  by_cases hi : 0 ≤ i ∧ i ≤ n
  · have hf := dHand_hand h.who i.toNat
    obtain ⟨t', L', g', b0, b1, b2, b3, b4⟩ := hD.turn hN hi.1 hi.2
    refine ⟨t', L', g', b2, ?_⟩
    have hil : i.toNat < s.hand.length := by have := hD.hl; omega
    rw [turn_fm c s hi.1 hi.2 stolen (fun f e => by unfold stolen; rw [if_neg (by omega)]) (fun f k => rfl)]
    have hop := op_dqStep c s.m (dHand s i.toNat).1
    have e1 : (dlBegin s i.toNat).hand.getD i.toNat noneF = (dHand s i.toNat).1 := gsd_self hil _ _
    have hov : (dlBegin s i.toNat).over = s.over := rfl
    generalize (dHand s i.toNat).1 = f at hf b3 b4 hop e1 ⊢
    generalize (dqStep c s.m f).2 = f' at b3 b4 hop ⊢
    cases b3 with
    | none _ hno =>
      have : stolen f' = none := by
        unfold stolen
        rw [if_neg (fun k => hno k.1 k.2 hf.1)]
      rw [this]; simpa using hP
    | push _ v h1 h2 h3 h4 =>
      have : stolen f' = none := by unfold stolen; rw [if_neg (by omega)]
      rw [this]
      rw [h1] at b0 e1
      have hp := b0.puts
      rw [e1] at hp
      have hlt : ∀ x ∈ s.over.filterMap stolen ++ L, x < v := by
        intro x hx
        have hx2 : x ∈ putsD (dlBegin s 0) := by
          refine b0.perm.mem_iff.2 ?_
          rcases List.mem_append.1 hx with q | q
          · refine List.mem_append_left _ ?_
            obtain ⟨a, ha, hs⟩ := List.mem_filterMap.1 q
            exact List.mem_filterMap.2 ⟨a, List.mem_append_left _ ha, stolen_got hs⟩
          · exact List.mem_append_right _ q
        have := (hp x hx2).2.2.2 h3 (by omega)
        omega
      simp only [Option.toList_none, List.append_nil]
      rw [← List.append_assoc]
      refine List.pairwise_append.2 ⟨hP, List.pairwise_singleton _ _, fun a ha b hb => ?_⟩
      rw [List.mem_singleton] at hb
      rw [hb]; exact hlt a ha
    | pop _ v h1 =>
      have hne : f'.op ≠ 2 := by
        rw [hop]
        rcases hf.2 with q | q | q
        · rw [q]; decide
        · omega
        · omega
      have : stolen f' = none := by unfold stolen; rw [if_neg (fun k => hne k.1)]
      rw [this]
      simp only [Option.toList_none, List.append_nil]
      rw [← List.append_assoc] at hP
      exact (List.pairwise_append.1 hP).1
    | steal _ v h1 h2 h3 h4 h5 =>
      have : stolen f' = some v := by unfold stolen; rw [if_pos ⟨h2, h4⟩, h5]
      rw [this]
      simpa using hP
  · refine ⟨t, L, g, ?_, ?_⟩
    · rw [dTurn, if_neg hi]; exact hD.same (by omega)
    · rw [dTurn, if_neg hi]; exact hP

theorem OrdD.fold {c : Cf} {n : Int} {pops : List Bool} : ∀ (who : List Int) {s : Dl} {N : Int}, OrdD c n pops s N → N + who.length ≤ 10000 → OrdD c n pops (who.foldl (dTurn dqStep c n) s) (N + who.length)
  | [], s, N, h, hN => by simpa using h
  | i :: r, s, N, h, hN => by
    simp only [List.length_cons] at hN
    have := OrdD.fold r (h.turn (by omega) i) (by omega)
    simp only [List.foldl_cons, List.length_cons]
    rwa [show N + ((r.length + 1 : Nat) : Int) = N + 1 + (r.length : Int) by omega]
theorem OrdD.start {d n : Int} {pops : List Bool} (hm : mayC (dqC d) = true) (hn : 0 ≤ n ∧ n ≤ 8) : OrdD (dqC d) n pops (dStart (dqC d) n (callsDq pops)) 0 := by
  refine ⟨⟨fun j => ?_, fun f hf => by simp [dStart] at hf⟩, 0, [], 0, DI.start hm hn, by simp [dStart]⟩
  simp only [dStart]
  rw [List.getD_eq_getElem?_getD, List.getElem?_replicate]
  split <;> exact none_hand j
theorem dAll_ord {d n : Int} {pops : List Bool} (hm : mayC (dqC d) = true) (hn : 0 ≤ n ∧ n ≤ 8) (who : List Int) (hw : who.length ≤ 600) : OrdD (dqC d) n pops (dAll dqStep (dqC d) n (callsDq pops) who) 600 := by
  have h := OrdD.fold who (OrdD.start (pops := pops) hm hn) (by omega)
  obtain ⟨h1, t, L, g, h2, h3⟩ := h
  exact ⟨h1, t, L, g, h2.same (by omega), h3⟩

/-- What DequeOrder asks. -/
theorem dplay_order (d n : Int) (pops : List Bool) (who : List Int) (hw : who.length ≤ 600) :
    dPlay d n (callsDq pops) who = ([], [], []) ∨ ∃ sm so sh, dPlay d n (callsDq pops) who = (sm, so, sh) ∧ (so.filterMap stolen).Pairwise (· < ·) ∧ (∀ v ∈ so.filterMap stolen, 1 ≤ v) ∧ ∀ f ∈ so, OverOk n f := by
  by_cases hm : mayC (dqC d) = true ∧ 0 ≤ n ∧ n ≤ 8
  · right
    obtain ⟨h1, t, L, g, h2, h3⟩ := dAll_ord (pops := pops) hm.1 hm.2 who hw
    refine ⟨_, _, _, if_pos hm, (List.pairwise_append.1 h3).1, fun v hv => ?_, h1.over⟩
    obtain ⟨a, ha, hs⟩ := List.mem_filterMap.1 hv
    exact (h2.puts v (h2.perm.mem_iff.2 (List.mem_append_left _ (List.mem_filterMap.2 ⟨a, List.mem_append_left _ ha, stolen_got hs⟩)))).1
  · left; exact if_neg hm
end Go.Vai
/- How a play at a deque ends: all calls are over, and what was put in is there, or was taken. -/
namespace Go.Vai
open Go.RowKit
set_option linter.unusedVariables false
set_option linter.unusedSimpArgs false

def StopsD (f : Fr) : Prop := f.op = -1 ∨ f.res ≠ 0
def rkD (f : Fr) : Nat := if f.res ≠ 0 then 0 else (7 - f.pc).toNat

section
variable {c : Cf} {n : Int} {pops : List Bool} {g : Nat} {P : Dl → List Int → Prop}

theorem DI.hand_ok {s : Dl} {t : Int} {L : List Int} {N : Int} (h : DI c n pops s t L N g) (i : Nat) : (s.hand.getD i noneF) = noneF ∨ ((s.hand.getD i noneF).op = 0 ∨ (s.hand.getD i noneF).op = 1 ∨ (s.hand.getD i noneF).op = 2) ∧ ((s.hand.getD i noneF).res = 0 → 0 ≤ (s.hand.getD i noneF).pc) := by
  by_cases q : i = 0
  · subst q
    rcases h.own.op with e | e | e
    · exact .inl e
    · exact .inr ⟨.inl e, fun r => (h.own.push e r).2.1⟩
    · exact .inr ⟨.inr (.inl e), fun r => (h.own.pop e r).2.1⟩
  · rcases (h.th i (by omega)).op with e | e
    · exact .inl e
    · exact .inr ⟨.inr (.inr e), fun r => ((h.th i (by omega)).go e r).2.1⟩

/-- What each step keeps. -/
def StepKeeps (c : Cf) (n : Int) (pops : List Bool) (g : Nat) (P : Dl → List Int → Prop) : Prop :=
  ∀ {s : Dl} {t : Int} {L : List Int} {N t' : Int} {L' : List Int} {i : Nat}, i < s.hand.length → DI c n pops s t L N g → DI c n pops (dlStep c s i) t' L' (N + 1) g →
    DEv (s.hand.getD i noneF) ((dlStep c s i).hand.getD i noneF) i g L L' →
    ((s.hand.getD i noneF).op = 1 → (s.hand.getD i noneF).res = 0 → ((dlStep c s i).hand.getD i noneF).res = 3 → L' = []) → P s L → P (dlStep c s i) L'

theorem drest_one (hP : StepKeeps c n pops g P) {i : Nat} : ∀ (k : Nat) {s : Dl} {t : Int} {L : List Int} {N : Int}, i < s.hand.length → DI c n pops s t L N g → N + k ≤ 10000 → P s L → rkD (s.hand.getD i noneF) ≤ k →
    ∃ t' L', DI c n pops ⟨(restN dqStep c k (s.m, s.hand.getD i noneF)).1, s.own, s.hand.set i (restN dqStep c k (s.m, s.hand.getD i noneF)).2, s.over⟩ t' L' (N + k) g ∧
      P ⟨(restN dqStep c k (s.m, s.hand.getD i noneF)).1, s.own, s.hand.set i (restN dqStep c k (s.m, s.hand.getD i noneF)).2, s.over⟩ L' ∧ StopsD (restN dqStep c k (s.m, s.hand.getD i noneF)).2
  | k, s, t, L, N, hi, h, hN, hp, hk => by
    by_cases hs : StopsD (s.hand.getD i noneF)
    · rw [restN_stop (s := (s.m, s.hand.getD i noneF)) hs]
      dsimp only
      rw [gsd_get hi]
      exact ⟨t, L, h.same (by omega), hp, hs⟩
    · have ho := (h.hand_ok i).resolve_left (fun e => hs (.inl (by rw [e]; rfl)))
      have hr : (s.hand.getD i noneF).res = 0 := Classical.byContradiction fun q => hs (.inr q)
      match k, hN, hk with
      | 0, hN, hk =>
        exfalso
        obtain ⟨t', L', h2, h3, h4, h5⟩ := h.step (by omega) hi
        have := ho.2 hr
        have := h4 ho.1 hr
        unfold rkD at hk
        rw [if_neg (by omega)] at hk
        have hpc : (s.hand.getD i noneF).pc ≤ 6 := by
          by_cases q : i = 0
          · subst q
            rcases h.own.op with e | e | e
            · exact absurd (.inl (by rw [e]; rfl)) hs
            · have := h.own.push e hr; omega
            · have := h.own.pop e hr; omega
          · rcases (h.th i (by omega)).op with e | e
            · exact absurd (.inl (by rw [e]; rfl)) hs
            · have := (h.th i (by omega)).go e hr; omega
        omega
      | k + 1, hN, hk =>
        rw [restN_go (s := (s.m, s.hand.getD i noneF)) hs]
        obtain ⟨t', L', h2, h3, h4, h5⟩ := h.step (by omega) hi
        have e : (dlStep c s i).hand.getD i noneF = (dqStep c s.m (s.hand.getD i noneF)).2 := gsd_self hi _ _
        have e2 : (dlStep c s i).m = (dqStep c s.m (s.hand.getD i noneF)).1 := rfl
        have e3 : (dlStep c s i).hand = s.hand.set i (dqStep c s.m (s.hand.getD i noneF)).2 := rfl
        have hp2 := hP hi h h2 h3 h5 hp
        have h4 := h4 ho.1 hr
        have hrk : rkD ((dlStep c s i).hand.getD i noneF) ≤ k := by
          unfold rkD at hk ⊢
          rw [if_neg (by omega)] at hk
          have := ho.2 hr
          split <;> omega
        obtain ⟨t2, L2, k1, k2, k3⟩ := drest_one hP k (s := dlStep c s i) (by simp [dlStep, hi]) h2 (by omega) hp2 hrk
        rw [e, e2] at k1 k2 k3
        rw [e3, List.set_set] at k1 k2
        exact ⟨t2, L2, k1.same (by omega), k2, k3⟩

theorem drest_to (hP : StepKeeps c n pops g P) {s : Dl} {t : Int} {L : List Int} {N : Int} (h : DI c n pops s t L N g) (hp : P s L) : ∀ i, i ≤ s.hand.length → N + 20 * i ≤ 10000 →
    ∃ t' L', DI c n pops ⟨(restTo dqStep c (s.m, s.hand) i).1, s.own, (restTo dqStep c (s.m, s.hand) i).2, s.over⟩ t' L' (N + 20 * i) g ∧ P ⟨(restTo dqStep c (s.m, s.hand) i).1, s.own, (restTo dqStep c (s.m, s.hand) i).2, s.over⟩ L' ∧
      ∀ j, j < i → StopsD ((restTo dqStep c (s.m, s.hand) i).2.getD j noneF)
  | 0, _, _ => ⟨t, L, h.same (by omega), hp, fun j hj => by omega⟩
  | i + 1, hi, hN => by
    obtain ⟨t', L', h1, h2, h3⟩ := drest_to hP h hp i (by omega) (by omega)
    have hl : (restTo dqStep c (s.m, s.hand) i).2.length = s.hand.length := h1.hl.trans h.hl.symm
    have hrk : rkD ((restTo dqStep c (s.m, s.hand) i).2.getD i noneF) ≤ 20 := by
      unfold rkD
      split
      · omega
      · rename_i q
        have q : ((restTo dqStep c (s.m, s.hand) i).2.getD i noneF).res = 0 := by omega
        rcases h1.hand_ok i with e | e
        · have : ((restTo dqStep c (s.m, s.hand) i).2.getD i noneF) = noneF := e
          rw [this]; decide
        · have := e.2 q; dsimp only at this; omega
    obtain ⟨t2, L2, k1, k2, k3⟩ := drest_one hP 20 (i := i) (by show i < (restTo dqStep c (s.m, s.hand) i).2.length; omega) h1 (by omega) h2 hrk
    refine ⟨t2, L2, k1.same (by omega), k2, fun j hj => ?_⟩
    show StopsD (((restTo dqStep c (s.m, s.hand) i).2.set i _).getD j noneF)
    by_cases q : i = j
    · subst q
      rw [gsd_self (by omega)]
      exact k3
    · rw [gsd_ne q]
      exact h3 j (by omega)

/-- The cells, when the owner is done. -/
theorem DI.list {s : Dl} {t : Int} {L : List Int} {N : Int} (h : DI c n pops s t L N g) (hN : N ≤ 100000) (hs : StopsD (s.hand.getD 0 noneF)) : dIs c s.m 0 = true ∧ dList c s.m 0 = L := by
  have hb : mLoad s.m (lBottom c 0) = t + L.length := by
    refine h.own.idle ?_
    rcases hs with q | q
    · rcases h.own.op with e | e | e
      · exact .inl e
      · omega
      · omega
    · exact .inr q
  obtain ⟨b1, b2, b3, b4⟩ := h.base.bound hN
  have hlo := h.base.lo
  have hnum : dNum c s.m 0 = L.length := by
    unfold dNum
    rw [hb, h.base.top, far_eq (by unfold InU; omega) (by unfold InU; omega)]
    omega
  have hi : dIs c s.m 0 = true := dIs_iff.2 ⟨h.base.lay, by rw [hnum]; omega, by rw [hnum]; exact h.base.room⟩
  refine ⟨hi, ?_⟩
  rw [dList_eq hi, hnum, h.base.top]
  apply List.ext_getElem
  · rw [dRow_len]; omega
  · intro i i1 i2
    rw [dRow_len] at i1
    have e := dRow_get (c := c) (m := s.m) (w := 0) (t := t) i1
    rw [List.getD_eq_getElem?_getD, List.getElem?_eq_getElem (by rw [dRow_len]; exact i1)] at e
    have e2 := h.base.slots i (by omega)
    rw [List.getD_eq_getElem?_getD, List.getElem?_eq_getElem (by omega)] at e2
    rw [wrapU_id (by omega) (by omega)] at e
    simp only [Option.getD_some] at e e2
    rw [e, e2]
end

/-! Counts. -/
def isPush (v : Int) (f : Fr) : Bool := f.op == 0 && f.res == 1 && f.val == v
def isTake (v : Int) (f : Fr) : Bool := f.res == 1 && f.op != 0 && f.val == v
theorem put_count (v : Int) (A : List Fr) : (A.filterMap dPut).count v = A.countP (isPush v) := by
  rw [List.count_filterMap]
  congr 1
  funext f
  unfold dPut isPush
  by_cases h : f.op = 0 ∧ f.res = 1
  · rw [if_pos h]; simp [h.1, h.2]
  · rw [if_neg h]
    have : (f.op == 0 && f.res == 1) = false := by simpa using h
    rw [this]; rfl
/-- Of what a hand is, when all is over. -/
def DoneF (f : Fr) : Prop := f = noneF ∨ (f.res ≠ 0 ∧ (f.op = 0 ∨ f.op = 1 ∨ f.op = 2))
theorem got_done {f : Fr} (h : DoneF f) : dGot f = if f.res = 1 ∧ f.op ≠ 0 then some f.val else none := by
  unfold dGot
  rcases h with rfl | ⟨h1, h2⟩
  · rfl
  · by_cases q : f.res = 1 ∧ f.op ≠ 0
    · rw [if_pos q, if_pos (by omega)]
    · rw [if_neg q, if_neg (by omega)]
theorem got_count (v : Int) (A : List Fr) (h : ∀ f ∈ A, DoneF f) : (A.filterMap dGot).count v = A.countP (isTake v) := by
  rw [List.count_filterMap]
  refine List.countP_congr fun f hf => ?_
  rw [got_done (h f hf)]
  unfold isTake
  by_cases q : f.res = 1 ∧ f.op ≠ 0
  · rw [if_pos q]; simp [q.1, q.2]
  · rw [if_neg q]
    have : (f.res == 1 && f.op != 0) = false := by simpa using q
    rw [this]; simp

/-- What a rest is like. -/
structure Rested (c : Cf) (n : Int) (pops : List Bool) (so : List Fr) (m : List Int) (hand : List Fr) (L : List Int) : Prop where
  len : (m.length : Int) = lSize c
  hl : (hand.length : Int) = n + 1
  over : ∀ f ∈ hand, f.op ≥ 0 → f.res ≠ 0
  is : dIs c m 0 = true
  list : dList c m 0 = L
  cnt : ∀ v, (so ++ hand).countP (isTake v) + L.count v = (so ++ hand).countP (isPush v)
  once : ∀ v, (so ++ hand).countP (isPush v) ≤ 1
  no : ∀ v, pops.getD (v - 1).toNat true = true → (so ++ hand).countP (isPush v) = 0
  got : ∀ f ∈ so ++ hand, f.op ≠ 0 → f.res = 1 → 1 ≤ f.val ∧ f.val ≤ pops.length ∧ pops.getD (f.val - 1).toNat true = false

theorem rested {c : Cf} {n : Int} {pops : List Bool} {g : Nat} {s : Dl} {t : Int} {L : List Int} {N : Int} (h : DI c n pops s t L N g) (hN : N ≤ 10000) (hO : ∀ f ∈ s.over, OverOk n f) (hS : ∀ j, j < s.hand.length → StopsD (s.hand.getD j noneF)) : Rested c n pops s.over s.m s.hand L := by
  have hmem : ∀ f ∈ s.hand, ∃ j, j < s.hand.length ∧ s.hand.getD j noneF = f := by
    intro f hf
    obtain ⟨j, hj, e⟩ := List.mem_iff_getElem.1 hf
    exact ⟨j, hj, by simp [List.getD_eq_getElem?_getD, hj, e]⟩
  have hdone : ∀ f ∈ s.over ++ s.hand, DoneF f := by
    intro f hf
    rcases List.mem_append.1 hf with q | q
    · have := hO f q
      exact .inr ⟨this.res, by rcases this.who with w | w <;> omega⟩
    · obtain ⟨j, hj, rfl⟩ := hmem f q
      rcases h.hand_ok j with e | e
      · exact .inl e
      · refine .inr ⟨?_, e.1⟩
        rcases hS j hj with w | w
        · omega
        · exact w
  have h0 : 0 < s.hand.length := by have := h.hl; have := h.hn; omega
  obtain ⟨hi, hl⟩ := h.list (by omega) (hS 0 h0)
  have hg : ∀ f ∈ s.over ++ s.hand, f.op ≠ 0 → f.res = 1 → f.val ∈ putsD s := by
    intro f hf h1 h2
    refine h.perm.mem_iff.2 (List.mem_append_left _ (List.mem_filterMap.2 ⟨f, hf, ?_⟩))
    rw [got_done (hdone f hf), if_pos ⟨h2, h1⟩]
  refine ⟨h.base.lay.len, by have := h.hl; have := h.hn; omega, fun f hf ho => ?_, hi, hl, fun v => ?_, fun v => ?_, fun v hv => ?_, fun f hf h1 h2 => ?_⟩
  · rcases hdone f (List.mem_append_right _ hf) with e | e
    · rw [e] at ho; exact absurd ho (by decide)
    · exact e.1
  · rw [← put_count, ← got_count v _ hdone]
    have := h.perm.count_eq v
    rw [List.count_append] at this
    exact this.symm
  · rw [← put_count]
    exact List.nodup_iff_count.1 h.nodup v
  · rw [← put_count]
    refine List.count_eq_zero.2 fun hm => ?_
    have := (h.puts v hm).2.2.1
    rw [hv] at this; cases this
  · obtain ⟨a1, a2, a3, _⟩ := h.puts _ (hg f hf h1 h2)
    have := h.le
    exact ⟨a1, by omega, a3⟩

/-- What DequeOnce asks. -/
theorem dplay_once (d n : Int) (pops : List Bool) (who : List Int) (hw : who.length ≤ 600) :
    dPlay d n (callsDq pops) who = ([], [], []) ∨ ∃ sm so sh m hand L, dPlay d n (callsDq pops) who = (sm, so, sh) ∧ dRest d sm sh = (m, hand) ∧ (sh.length : Int) = n + 1 ∧ 0 ≤ n ∧ Rested (dqC d) n pops so m hand L := by
  by_cases hm : mayC (dqC d) = true ∧ 0 ≤ n ∧ n ≤ 8
  · right
    obtain ⟨h1, t, L, g, h2, h3⟩ := dAll_ord (pops := pops) hm.1 hm.2 who hw
    have hP : dPlay d n (callsDq pops) who = _ := if_pos hm
    generalize dAll dqStep (dqC d) n (callsDq pops) who = s at h1 h2 h3 hP
    have hl := h2.hl
    obtain ⟨t', L', k1, _, k3⟩ := drest_to (P := fun _ _ => True) (fun _ _ _ _ _ _ => trivial) h2 trivial s.hand.length (Nat.le_refl _) (by omega)
    have hR : dRest d s.m s.hand = restTo dqStep (dqC d) (s.m, s.hand) s.hand.length := if_pos ⟨hm.1, h2.base.lay.len⟩
    refine ⟨_, _, _, _, _, L', hP, hR, by omega, hm.2.1, ?_⟩
    refine rested k1 (by omega) h1.over (fun j hj => k3 j ?_)
    have e1 := k1.hl
    dsimp only at hj e1
    omega
  · left; exact if_neg hm
end Go.Vai
/- What was pushed is taken just once, or is there, as the program says. -/
namespace Go.Vai
open Go.RowKit Go.Proofs
set_option linter.unusedSimpArgs false
set_option linter.unusedVariables false
set_option maxHeartbeats 4000000
set_option maxRecDepth 100000

def pushN (v : Int) (l : List Fr) : Nat → Nat
  | 0 => 0
  | k + 1 => if isPush v (l.getD k fr0) then pushN v l k + 1 else pushN v l k
theorem pushN_le (v : Int) (l : List Fr) : ∀ k, pushN v l k ≤ k
  | 0 => Nat.le_refl _
  | k + 1 => by have := pushN_le v l k; unfold pushN; split <;> omega
theorem pushN_count (v : Int) (l : List Fr) : ∀ k, k ≤ l.length → pushN v l k = (l.take k).countP (isPush v)
  | 0, _ => by simp [pushN]
  | k + 1, h => by
    rw [List.take_succ_eq_append_getElem (by omega), List.countP_append, ← pushN_count v l k (by omega)]
    have : l.getD k fr0 = l[k] := by simp [List.getD_eq_getElem?_getD, show k < l.length by omega]
    show (if isPush v (l.getD k fr0) then pushN v l k + 1 else pushN v l k) = _
    rw [this]
    cases h : isPush v l[k] <;> simp [h]
def leftN (v : Int) (l : List Int) : Nat → Nat
  | 0 => 0
  | k + 1 => if l.getD k 0 = v then leftN v l k + 1 else leftN v l k
theorem leftN_le (v : Int) (l : List Int) : ∀ k, leftN v l k ≤ k
  | 0 => Nat.le_refl _
  | k + 1 => by have := leftN_le v l k; unfold leftN; split <;> omega
theorem leftN_count (v : Int) (l : List Int) : ∀ k, k ≤ l.length → leftN v l k = (l.take k).count v
  | 0, _ => by simp [leftN]
  | k + 1, h => by
    rw [List.take_succ_eq_append_getElem (by omega), List.count_append, ← leftN_count v l k (by omega)]
    have : l.getD k 0 = l[k] := by simp [List.getD_eq_getElem?_getD, show k < l.length by omega]
    show (if l.getD k 0 = v then leftN v l k + 1 else leftN v l k) = _
    rw [this]
    by_cases h : l[k] = v <;> simp [h]

theorem once10_law (d n : Int) (pops : List Bool) (who : List Int) (v : Int) : PureC Try.prog 8 [iv d, iv n, bs pops, zs who, iv v] (bv true) := by
  refine pure_sub okJD 1 Try.func8 rfl (by show 5 ≤ _; decide) ?_
  by_cases h0 : pops.length ≤ 60
  · have h0' : ¬ (pops.length : Int) > 60 := by omega
    by_cases h1 : who.length ≤ 500
    · have h1' : ¬ (who.length : Int) > 500 := by omega
      by_cases h2 : v < 1
      · simp only [Try.f8, JD_all, h0', h1', h2, inl, bs, fs, zs, sv, fv, rf1, List.set_set, T29, T30, T41, hfree_fr, hfree_cf, cv', cf_eta, frz_u, shC_dec, dC, T23, T28, T25, hfree_lu, hfree_l0, row0, row1, row2, row3, row4, row5, shI_dec, shN_dec, shB_dec, shM_dec, dI, dN, dB, dM, dU, dU_map, iv, bv, u, ms, ctx_T, ctx_C, ctx_P, T4, T3, T26, Option.bind_some, Option.bind_none, Option.map_some, List.length_map, List.length_set, String.reduceBEq, Int.toNat_natCast, Bool.true_beq, Bool.false_beq, T24, shF_dec, dF, fr_eta, Int.cast_ofNat_Int, Int.reduceSub, Int.reduceAdd, Int.reduceNeg, ev1, ev2, implies_true, undef, stepP, drawB, stepL, lateB, lateB0, rdsT, rdsAny, isRd, afterL, preB, callLB, callLV, lateV, dstV, dynCall, ↓condE_t, ↓condE_f, ↓guardE_tt, ↓guardE_ff, ↓guardE_tf, ↓guardE_ft, frzDeep, deepArgs, deepArg, resB, cv, stepB, stepE, callD, tabD, snapD, snap1, snapC, snapId, snapIds, guardB, guardC, dstAt, aopR, one, pre, binR, intOpR, shiftOpR, unR, argFrm, evo, lkp, hlk, lenOf, asLst, idOf, bndA, srcOk, ofVal, ofCells, setCells, fillA, setElems, fieldsOf, fieldsEq, scalEq, isEq, AV.wr, AV.ok1, TK.agg, frz, frzs, frzA, frzArg, frzArgs, subA, subL, sub1, kp, kh, accOf, List.replicate, Nat.reduceAdd, Nat.reduceSub, Nat.reduceMul, Nat.reduceEqDiff, Nat.reduceLT, Nat.reduceLeDiff, Nat.reduceBEq, reduceIte, reduceCtorEq, eq_self, ne_eq, Int.reduceToNat, Int.reduceLT, Int.reduceLE, Int.reduceGT, Int.reduceGE, Int.reduceBEq, Int.reduceBNe, Int.reduceEq, Int.reduceNe]
        all_goals ((repeat' apply And.intro) <;> first | rfl | omega | (show entryOk _ _ _ _ _ = true; kernel_rfl) | (show pivotOk _ _ = true; kernel_rfl) | decide)
      · by_cases h3 : v > pops.length
        · simp only [Try.f8, JD_all, h0', h1', h2, h3, inl, bs, fs, zs, sv, fv, rf1, List.set_set, T29, T30, T41, hfree_fr, hfree_cf, cv', cf_eta, frz_u, shC_dec, dC, T23, T28, T25, hfree_lu, hfree_l0, row0, row1, row2, row3, row4, row5, shI_dec, shN_dec, shB_dec, shM_dec, dI, dN, dB, dM, dU, dU_map, iv, bv, u, ms, ctx_T, ctx_C, ctx_P, T4, T3, T26, Option.bind_some, Option.bind_none, Option.map_some, List.length_map, List.length_set, String.reduceBEq, Int.toNat_natCast, Bool.true_beq, Bool.false_beq, T24, shF_dec, dF, fr_eta, Int.cast_ofNat_Int, Int.reduceSub, Int.reduceAdd, Int.reduceNeg, ev1, ev2, implies_true, undef, stepP, drawB, stepL, lateB, lateB0, rdsT, rdsAny, isRd, afterL, preB, callLB, callLV, lateV, dstV, dynCall, ↓condE_t, ↓condE_f, ↓guardE_tt, ↓guardE_ff, ↓guardE_tf, ↓guardE_ft, frzDeep, deepArgs, deepArg, resB, cv, stepB, stepE, callD, tabD, snapD, snap1, snapC, snapId, snapIds, guardB, guardC, dstAt, aopR, one, pre, binR, intOpR, shiftOpR, unR, argFrm, evo, lkp, hlk, lenOf, asLst, idOf, bndA, srcOk, ofVal, ofCells, setCells, fillA, setElems, fieldsOf, fieldsEq, scalEq, isEq, AV.wr, AV.ok1, TK.agg, frz, frzs, frzA, frzArg, frzArgs, subA, subL, sub1, kp, kh, accOf, List.replicate, Nat.reduceAdd, Nat.reduceSub, Nat.reduceMul, Nat.reduceEqDiff, Nat.reduceLT, Nat.reduceLeDiff, Nat.reduceBEq, reduceIte, reduceCtorEq, eq_self, ne_eq, Int.reduceToNat, Int.reduceLT, Int.reduceLE, Int.reduceGT, Int.reduceGE, Int.reduceBEq, Int.reduceBNe, Int.reduceEq, Int.reduceNe]
          all_goals ((repeat' apply And.intro) <;> first | rfl | omega | (show entryOk _ _ _ _ _ = true; kernel_rfl) | (show pivotOk _ _ = true; kernel_rfl) | decide)
        · have g1 : pops.length ≤ 1000 := by omega
          have g2 : (callsDq pops).length ≤ 1000 := by rw [len_callsDq]; omega
          have g3 : who.length ≤ 1000 := by omega
          have lp := len_dPlay d n (callsDq pops) who
          rcases dplay_once d n pops who (by omega) with e | ⟨sm, so, sh, m, hand, L, e, e2, hl, hn0, hR⟩
          · simp only [Try.f8, JD_all, h0', h1', h2, h3, g1, g2, g3, e, inl, bs, fs, zs, sv, fv, List.map_nil, List.length_nil, rf1, List.set_set, T29, T30, T41, hfree_fr, hfree_cf, cv', cf_eta, frz_u, shC_dec, dC, T23, T28, T25, hfree_lu, hfree_l0, row0, row1, row2, row3, row4, row5, shI_dec, shN_dec, shB_dec, shM_dec, dI, dN, dB, dM, dU, dU_map, iv, bv, u, ms, ctx_T, ctx_C, ctx_P, T4, T3, T26, Option.bind_some, Option.bind_none, Option.map_some, List.length_map, List.length_set, String.reduceBEq, Int.toNat_natCast, Bool.true_beq, Bool.false_beq, T24, shF_dec, dF, fr_eta, Int.cast_ofNat_Int, Int.reduceSub, Int.reduceAdd, Int.reduceNeg, ev1, ev2, implies_true, undef, stepP, drawB, stepL, lateB, lateB0, rdsT, rdsAny, isRd, afterL, preB, callLB, callLV, lateV, dstV, dynCall, ↓condE_t, ↓condE_f, ↓guardE_tt, ↓guardE_ff, ↓guardE_tf, ↓guardE_ft, frzDeep, deepArgs, deepArg, resB, cv, stepB, stepE, callD, tabD, snapD, snap1, snapC, snapId, snapIds, guardB, guardC, dstAt, aopR, one, pre, binR, intOpR, shiftOpR, unR, argFrm, evo, lkp, hlk, lenOf, asLst, idOf, bndA, srcOk, ofVal, ofCells, setCells, fillA, setElems, fieldsOf, fieldsEq, scalEq, isEq, AV.wr, AV.ok1, TK.agg, frz, frzs, frzA, frzArg, frzArgs, subA, subL, sub1, kp, kh, accOf, List.replicate, Nat.reduceAdd, Nat.reduceSub, Nat.reduceMul, Nat.reduceEqDiff, Nat.reduceLT, Nat.reduceLeDiff, Nat.reduceBEq, reduceIte, reduceCtorEq, eq_self, ne_eq, Int.reduceToNat, Int.reduceLT, Int.reduceLE, Int.reduceGT, Int.reduceGE, Int.reduceBEq, Int.reduceBNe, Int.reduceEq, Int.reduceNe]
            all_goals ((repeat' apply And.intro) <;> first | rfl | omega | (show entryOk _ _ _ _ _ = true; kernel_rfl) | (show pivotOk _ _ = true; kernel_rfl) | decide)
          · have lr := len_dRest d sm sh
            rw [e] at lp
            rw [e2] at lr
            dsimp only at lp lr
            obtain ⟨r1, r2, r3, r4, r5, r6, r7, r8, r9⟩ := hR
            obtain ⟨q, hq⟩ : ∃ q : Nat, v = (q : Int) + 1 := ⟨(v - 1).toNat, by omega⟩
            have e0 : ((sh.length : Int) == 0) = false := by
              have : (sh.length : Int) ≠ 0 := by omega
              simpa using this
            have k1 : sm.length ≤ 1000 := by omega
            have k2 : sh.length ≤ 1000 := by omega
            have k3 : m.length ≤ 1000 := by omega
            have k4 : so.length * 56 ≤ 140737488355328 := by omega
            have k5 : (so.length + hand.length) * 56 ≤ 140737488355328 := by omega
            simp only [Try.f8, JD_all, h0', h1', h2, h3, g1, g2, g3, e, e0, e2, k1, k2, inl, bs, fs, zs, sv, fv, Int.toNat_natCast, rf1, List.set_set, T29, T30, T41, hfree_fr, hfree_cf, cv', cf_eta, frz_u, shC_dec, dC, T23, T28, T25, hfree_lu, hfree_l0, row0, row1, row2, row3, row4, row5, shI_dec, shN_dec, shB_dec, shM_dec, dI, dN, dB, dM, dU, dU_map, iv, bv, u, ms, ctx_T, ctx_C, ctx_P, T4, T3, T26, Option.bind_some, Option.bind_none, Option.map_some, List.length_map, List.length_set, String.reduceBEq, Int.toNat_natCast, Bool.true_beq, Bool.false_beq, T24, shF_dec, dF, fr_eta, Int.cast_ofNat_Int, Int.reduceSub, Int.reduceAdd, Int.reduceNeg, ev1, ev2, implies_true, undef, stepP, drawB, stepL, lateB, lateB0, rdsT, rdsAny, isRd, afterL, preB, callLB, callLV, lateV, dstV, dynCall, ↓condE_t, ↓condE_f, ↓guardE_tt, ↓guardE_ff, ↓guardE_tf, ↓guardE_ft, frzDeep, deepArgs, deepArg, resB, cv, stepB, stepE, callD, tabD, snapD, snap1, snapC, snapId, snapIds, guardB, guardC, dstAt, aopR, one, pre, binR, intOpR, shiftOpR, unR, argFrm, evo, lkp, hlk, lenOf, asLst, idOf, bndA, srcOk, ofVal, ofCells, setCells, fillA, setElems, fieldsOf, fieldsEq, scalEq, isEq, AV.wr, AV.ok1, TK.agg, frz, frzs, frzA, frzArg, frzArgs, subA, subL, sub1, kp, kh, accOf, List.replicate, Nat.reduceAdd, Nat.reduceSub, Nat.reduceMul, Nat.reduceEqDiff, Nat.reduceLT, Nat.reduceLeDiff, Nat.reduceBEq, reduceIte, reduceCtorEq, eq_self, ne_eq, Int.reduceToNat, Int.reduceLT, Int.reduceLE, Int.reduceGT, Int.reduceGE, Int.reduceBEq, Int.reduceBNe, Int.reduceEq, Int.reduceNe]
            refine WP.loop (ι := Nat) (fun k => hand.length - k) (fun k => k ≤ hand.length) (n := 226)
              (fr := fun k => [(17, iv k), (16, fs hand), (13, fs so), (15, ms m), (0, iv d), (2, bs pops), (4, iv v)]) (hp := fun k => []) (N := 0) ?_ 0 (Nat.zero_le _) rfl (Nat.zero_le _) ⟨rfl, rfl, rfl, rfl, rfl, rfl, rfl, trivial⟩ trivial
            intro k nx hk hN hid
            refine WP.of okJD 1 (by rfl) ?_
            by_cases hkl : k < hand.length
            · have hkl' : (k : Int) < hand.length := by omega
              have hk0 : (0 : Int) ≤ k := by omega
              have hg := getD_f hkl
              have wk : IntKind.wrap .i64 ((k : Int) + 1) = ((k + 1 : Nat) : Int) := by rw [wrap_i (by omega) (by omega)]; omega
              have hF : (hand.getD k fr0).op ≥ 0 → (hand.getD k fr0).res ≠ 0 := by
                have : hand.getD k fr0 = hand[k] := by simp [List.getD_eq_getElem?_getD, hkl]
                rw [this]; exact r3 _ (List.getElem_mem _)
              generalize hand.getD k fr0 = f at hg hF
              by_cases c1 : f.op ≥ 0
              · have c2 : (f.res != 0) = true := by simpa using hF c1
                simp only [JD_all, hkl', hk0, hg, wk, c1, c2, Int.toNat_natCast, bs, fs, zs, sv, fv, rf1, List.set_set, T29, T30, T41, nb_self, nb_same, nb_l0, nb_r0, nb_lt, nb_gt, nb_lt0, nb_gt0, Nat.add_assoc, hfree_fr, hfree_cf, cv', cf_eta, frz_u, shC_dec, dC, T23, T28, T25, hfree_lu, hfree_l0, row0, row1, row2, row3, row4, row5, shI_dec, shN_dec, shB_dec, shM_dec, dI, dN, dB, dM, dU, dU_map, iv, bv, u, ms, ctx_T, ctx_C, ctx_P, T4, T3, T26, Option.bind_some, Option.bind_none, Option.map_some, List.length_map, List.length_set, String.reduceBEq, Int.toNat_natCast, Bool.true_beq, Bool.false_beq, T24, shF_dec, dF, fr_eta, Int.cast_ofNat_Int, Int.reduceSub, Int.reduceAdd, Int.reduceNeg, ev1, ev2, implies_true, undef, stepP, drawB, stepL, lateB, lateB0, rdsT, rdsAny, isRd, afterL, preB, callLB, callLV, lateV, dstV, dynCall, ↓condE_t, ↓condE_f, ↓guardE_tt, ↓guardE_ff, ↓guardE_tf, ↓guardE_ft, frzDeep, deepArgs, deepArg, resB, cv, stepB, stepE, callD, tabD, snapD, snap1, snapC, snapId, snapIds, guardB, guardC, dstAt, aopR, one, pre, binR, intOpR, shiftOpR, unR, argFrm, evo, lkp, hlk, lenOf, asLst, idOf, bndA, srcOk, ofVal, ofCells, setCells, fillA, setElems, fieldsOf, fieldsEq, scalEq, isEq, AV.wr, AV.ok1, TK.agg, frz, frzs, frzA, frzArg, frzArgs, subA, subL, sub1, kp, kh, accOf, List.replicate, Nat.reduceAdd, Nat.reduceSub, Nat.reduceMul, Nat.reduceEqDiff, Nat.reduceLT, Nat.reduceLeDiff, Nat.reduceBEq, reduceIte, reduceCtorEq, eq_self, ne_eq, Int.reduceToNat, Int.reduceLT, Int.reduceLE, Int.reduceGT, Int.reduceGE, Int.reduceBEq, Int.reduceBNe, Int.reduceEq, Int.reduceNe]
                refine ⟨k + 1, by omega, by omega, ?_⟩
                first | trivial | rfl
              · simp only [JD_all, hkl', hk0, hg, wk, c1, Int.toNat_natCast, bs, fs, zs, sv, fv, rf1, List.set_set, T29, T30, T41, nb_self, nb_same, nb_l0, nb_r0, nb_lt, nb_gt, nb_lt0, nb_gt0, Nat.add_assoc, hfree_fr, hfree_cf, cv', cf_eta, frz_u, shC_dec, dC, T23, T28, T25, hfree_lu, hfree_l0, row0, row1, row2, row3, row4, row5, shI_dec, shN_dec, shB_dec, shM_dec, dI, dN, dB, dM, dU, dU_map, iv, bv, u, ms, ctx_T, ctx_C, ctx_P, T4, T3, T26, Option.bind_some, Option.bind_none, Option.map_some, List.length_map, List.length_set, String.reduceBEq, Int.toNat_natCast, Bool.true_beq, Bool.false_beq, T24, shF_dec, dF, fr_eta, Int.cast_ofNat_Int, Int.reduceSub, Int.reduceAdd, Int.reduceNeg, ev1, ev2, implies_true, undef, stepP, drawB, stepL, lateB, lateB0, rdsT, rdsAny, isRd, afterL, preB, callLB, callLV, lateV, dstV, dynCall, ↓condE_t, ↓condE_f, ↓guardE_tt, ↓guardE_ff, ↓guardE_tf, ↓guardE_ft, frzDeep, deepArgs, deepArg, resB, cv, stepB, stepE, callD, tabD, snapD, snap1, snapC, snapId, snapIds, guardB, guardC, dstAt, aopR, one, pre, binR, intOpR, shiftOpR, unR, argFrm, evo, lkp, hlk, lenOf, asLst, idOf, bndA, srcOk, ofVal, ofCells, setCells, fillA, setElems, fieldsOf, fieldsEq, scalEq, isEq, AV.wr, AV.ok1, TK.agg, frz, frzs, frzA, frzArg, frzArgs, subA, subL, sub1, kp, kh, accOf, List.replicate, Nat.reduceAdd, Nat.reduceSub, Nat.reduceMul, Nat.reduceEqDiff, Nat.reduceLT, Nat.reduceLeDiff, Nat.reduceBEq, reduceIte, reduceCtorEq, eq_self, ne_eq, Int.reduceToNat, Int.reduceLT, Int.reduceLE, Int.reduceGT, Int.reduceGE, Int.reduceBEq, Int.reduceBNe, Int.reduceEq, Int.reduceNe]
                refine ⟨k + 1, by omega, by omega, ?_⟩
                first | trivial | rfl
            · have hkl' : ¬ (k : Int) < hand.length := by omega
              simp only [JD_all, hkl', k4, k5, Int.toNat_natCast, bs, fs, zs, sv, fv, rf1, List.set_set, T29, T30, T41, nb_self, nb_same, nb_l0, nb_r0, nb_lt, nb_gt, nb_lt0, nb_gt0, Nat.add_assoc, hfree_fr, hfree_cf, cv', cf_eta, frz_u, shC_dec, dC, T23, T28, T25, hfree_lu, hfree_l0, row0, row1, row2, row3, row4, row5, shI_dec, shN_dec, shB_dec, shM_dec, dI, dN, dB, dM, dU, dU_map, iv, bv, u, ms, ctx_T, ctx_C, ctx_P, T4, T3, T26, Option.bind_some, Option.bind_none, Option.map_some, List.length_map, List.length_set, String.reduceBEq, Int.toNat_natCast, Bool.true_beq, Bool.false_beq, T24, shF_dec, dF, fr_eta, Int.cast_ofNat_Int, Int.reduceSub, Int.reduceAdd, Int.reduceNeg, ev1, ev2, implies_true, undef, stepP, drawB, stepL, lateB, lateB0, rdsT, rdsAny, isRd, afterL, preB, callLB, callLV, lateV, dstV, dynCall, ↓condE_t, ↓condE_f, ↓guardE_tt, ↓guardE_ff, ↓guardE_tf, ↓guardE_ft, frzDeep, deepArgs, deepArg, resB, cv, stepB, stepE, callD, tabD, snapD, snap1, snapC, snapId, snapIds, guardB, guardC, dstAt, aopR, one, pre, binR, intOpR, shiftOpR, unR, argFrm, evo, lkp, hlk, lenOf, asLst, idOf, bndA, srcOk, ofVal, ofCells, setCells, fillA, setElems, fieldsOf, fieldsEq, scalEq, isEq, AV.wr, AV.ok1, TK.agg, frz, frzs, frzA, frzArg, frzArgs, subA, subL, sub1, kp, kh, accOf, List.replicate, Nat.reduceAdd, Nat.reduceSub, Nat.reduceMul, Nat.reduceEqDiff, Nat.reduceLT, Nat.reduceLeDiff, Nat.reduceBEq, reduceIte, reduceCtorEq, eq_self, ne_eq, Int.reduceToNat, Int.reduceLT, Int.reduceLE, Int.reduceGT, Int.reduceGE, Int.reduceBEq, Int.reduceBNe, Int.reduceEq, Int.reduceNe]
              refine ⟨Nat.le_refl _, ?_⟩
              obtain ⟨A, hAd⟩ : ∃ A, A = so ++ hand := ⟨_, rfl⟩
              have hA : List.take (so.length + hand.length) (List.drop 0 (so.map fv ++ hand.map fv)) = A.map fv := by
                rw [List.drop_zero, ← List.map_append, ← hAd]; exact List.take_of_length_le (by rw [hAd]; simp)
              have hAl : A.length ≤ 520 := by rw [hAd]; simp; omega
              rw [← hAd] at r6 r7 r8 r9
              refine WP.freeze 18 (nx + 7) 0 (so.length + hand.length) (b := ⟨false, 28, 7, so.map fv ++ hand.map fv⟩) rfl (by simp only [hlk, nb_self]) (by simp) ?_
              have wv : IntKind.wrap .u64 v = v := by rw [IntKind.wrap_u64]; omega
              have wq : IntKind.wrap .i64 (v - 1) = (q : Int) := by rw [wrap_i (by omega) (by omega)]; omega
              have wl : IntKind.wrap .u64 (pops.length : Int) = pops.length := by rw [IntKind.wrap_u64]; omega
              clear k4 k5
              refine WP.loop (ι := Nat) (fun j => A.length - j) (fun j => j ≤ A.length) (n := 226)
                (fr := fun j => [(20, iv j), (19, iv (pushN v A j : Nat)), (18, fs A), (15, ms m), (0, iv d), (2, bs pops), (4, iv v)])
                (hp := fun j => []) (N := 0) ?_ 0 (Nat.zero_le _) rfl (Nat.zero_le _) ⟨rfl, rfl, congrArg (AV.lst 7) hA, rfl, rfl, rfl, rfl, trivial⟩ trivial
              intro j nx2 hj hN2 hid2
              have hle := pushN_le v A j
              refine WP.of okJD 1 (by rfl) ?_
              by_cases hjl : j < A.length
              · have hjl' : (j : Int) < A.length := by omega
                have hj0 : (0 : Int) ≤ j := by omega
                have hg := getD_f hjl
                have wj : IntKind.wrap .i64 ((j : Int) + 1) = ((j + 1 : Nat) : Int) := by rw [wrap_i (by omega) (by omega)]; omega
                have hF : (A.getD j fr0).op ≠ 0 → (A.getD j fr0).res = 1 → 1 ≤ (A.getD j fr0).val ∧ (A.getD j fr0).val ≤ pops.length ∧ pops.getD ((A.getD j fr0).val - 1).toNat true = false := by
                  have : A.getD j fr0 = A[j] := by simp [List.getD_eq_getElem?_getD, hjl]
                  rw [this]; exact r9 _ (List.getElem_mem _)
                have hn : pushN v A (j + 1) = if isPush v (A.getD j fr0) then pushN v A j + 1 else pushN v A j := rfl
                generalize A.getD j fr0 = f at hg hF hn
                generalize pushN v A j = c at hle hn ⊢
                have wc : IntKind.wrap .i64 ((c : Int) + 1) = ((c + 1 : Nat) : Int) := by rw [wrap_i (by omega) (by omega)]; omega
                cases c2 : f.res == 1 with
                | false =>
                  have ep : isPush v f = false := by simp [isPush, c2]
                  cases c1 : f.op == 0 with
                  | false =>
                    have c1' : (f.op != 0) = true := by simpa using c1
                    simp only [JD_all, hjl', hj0, hg, wj, c1, c1', c2, Int.toNat_natCast, bs, fs, zs, sv, fv, rf1, List.set_set, T29, T30, T41, nb_self, nb_same, nb_l0, nb_r0, nb_lt, nb_gt, nb_lt0, nb_gt0, Nat.add_assoc, hfree_fr, hfree_cf, cv', cf_eta, frz_u, shC_dec, dC, T23, T28, T25, hfree_lu, hfree_l0, row0, row1, row2, row3, row4, row5, shI_dec, shN_dec, shB_dec, shM_dec, dI, dN, dB, dM, dU, dU_map, iv, bv, u, ms, ctx_T, ctx_C, ctx_P, T4, T3, T26, Option.bind_some, Option.bind_none, Option.map_some, List.length_map, List.length_set, String.reduceBEq, Int.toNat_natCast, Bool.true_beq, Bool.false_beq, T24, shF_dec, dF, fr_eta, Int.cast_ofNat_Int, Int.reduceSub, Int.reduceAdd, Int.reduceNeg, ev1, ev2, implies_true, undef, stepP, drawB, stepL, lateB, lateB0, rdsT, rdsAny, isRd, afterL, preB, callLB, callLV, lateV, dstV, dynCall, ↓condE_t, ↓condE_f, ↓guardE_tt, ↓guardE_ff, ↓guardE_tf, ↓guardE_ft, frzDeep, deepArgs, deepArg, resB, cv, stepB, stepE, callD, tabD, snapD, snap1, snapC, snapId, snapIds, guardB, guardC, dstAt, aopR, one, pre, binR, intOpR, shiftOpR, unR, argFrm, evo, lkp, hlk, lenOf, asLst, idOf, bndA, srcOk, ofVal, ofCells, setCells, fillA, setElems, fieldsOf, fieldsEq, scalEq, isEq, AV.wr, AV.ok1, TK.agg, frz, frzs, frzA, frzArg, frzArgs, subA, subL, sub1, kp, kh, accOf, List.replicate, Nat.reduceAdd, Nat.reduceSub, Nat.reduceMul, Nat.reduceEqDiff, Nat.reduceLT, Nat.reduceLeDiff, Nat.reduceBEq, reduceIte, reduceCtorEq, eq_self, ne_eq, Int.reduceToNat, Int.reduceLT, Int.reduceLE, Int.reduceGT, Int.reduceGE, Int.reduceBEq, Int.reduceBNe, Int.reduceEq, Int.reduceNe]
                    refine ⟨j + 1, by omega, by omega, ?_⟩
                    rw [hn, ep]
                    refine ⟨?_, ?_⟩ <;> first | trivial | rfl
                  | true =>
                    have c1' : (f.op != 0) = false := by simpa using c1
                    simp only [JD_all, hjl', hj0, hg, wj, c1, c1', c2, Int.toNat_natCast, bs, fs, zs, sv, fv, rf1, List.set_set, T29, T30, T41, nb_self, nb_same, nb_l0, nb_r0, nb_lt, nb_gt, nb_lt0, nb_gt0, Nat.add_assoc, hfree_fr, hfree_cf, cv', cf_eta, frz_u, shC_dec, dC, T23, T28, T25, hfree_lu, hfree_l0, row0, row1, row2, row3, row4, row5, shI_dec, shN_dec, shB_dec, shM_dec, dI, dN, dB, dM, dU, dU_map, iv, bv, u, ms, ctx_T, ctx_C, ctx_P, T4, T3, T26, Option.bind_some, Option.bind_none, Option.map_some, List.length_map, List.length_set, String.reduceBEq, Int.toNat_natCast, Bool.true_beq, Bool.false_beq, T24, shF_dec, dF, fr_eta, Int.cast_ofNat_Int, Int.reduceSub, Int.reduceAdd, Int.reduceNeg, ev1, ev2, implies_true, undef, stepP, drawB, stepL, lateB, lateB0, rdsT, rdsAny, isRd, afterL, preB, callLB, callLV, lateV, dstV, dynCall, ↓condE_t, ↓condE_f, ↓guardE_tt, ↓guardE_ff, ↓guardE_tf, ↓guardE_ft, frzDeep, deepArgs, deepArg, resB, cv, stepB, stepE, callD, tabD, snapD, snap1, snapC, snapId, snapIds, guardB, guardC, dstAt, aopR, one, pre, binR, intOpR, shiftOpR, unR, argFrm, evo, lkp, hlk, lenOf, asLst, idOf, bndA, srcOk, ofVal, ofCells, setCells, fillA, setElems, fieldsOf, fieldsEq, scalEq, isEq, AV.wr, AV.ok1, TK.agg, frz, frzs, frzA, frzArg, frzArgs, subA, subL, sub1, kp, kh, accOf, List.replicate, Nat.reduceAdd, Nat.reduceSub, Nat.reduceMul, Nat.reduceEqDiff, Nat.reduceLT, Nat.reduceLeDiff, Nat.reduceBEq, reduceIte, reduceCtorEq, eq_self, ne_eq, Int.reduceToNat, Int.reduceLT, Int.reduceLE, Int.reduceGT, Int.reduceGE, Int.reduceBEq, Int.reduceBNe, Int.reduceEq, Int.reduceNe]
                    refine ⟨j + 1, by omega, by omega, ?_⟩
                    rw [hn, ep]
                    refine ⟨?_, ?_⟩ <;> first | trivial | rfl
                | true =>
                  cases c1 : f.op == 0 with
                  | false =>
                    have c1' : (f.op != 0) = true := by simpa using c1
                    have ep : isPush v f = false := by simp [isPush, c1]
                    obtain ⟨y1, y2, y3⟩ := hF (by simpa using c1) (by simpa using c2)
                    have z1 : ¬ f.val < 1 := by omega
                    have z2 : ¬ f.val > pops.length := by omega
                    have z3 : IntKind.wrap .u64 (f.val - 1) = f.val - 1 := by rw [IntKind.wrap_u64]; omega
                    have z4 : (0 : Int) ≤ f.val - 1 := by omega
                    have z5 : f.val - 1 < (pops.length : Int) := by omega
                    have z6 : (pops.map bv).getD (f.val - 1).toNat .top = bv false := by
                      rw [getD_b (by omega), gd_lt (by omega) false true, y3]
                    simp only [JD_all, hjl', hj0, hg, wj, wl, c1, c1', c2, z1, z2, z3, z4, z5, z6, Int.toNat_natCast, bs, fs, zs, sv, fv, rf1, List.set_set, T29, T30, T41, nb_self, nb_same, nb_l0, nb_r0, nb_lt, nb_gt, nb_lt0, nb_gt0, Nat.add_assoc, hfree_fr, hfree_cf, cv', cf_eta, frz_u, shC_dec, dC, T23, T28, T25, hfree_lu, hfree_l0, row0, row1, row2, row3, row4, row5, shI_dec, shN_dec, shB_dec, shM_dec, dI, dN, dB, dM, dU, dU_map, iv, bv, u, ms, ctx_T, ctx_C, ctx_P, T4, T3, T26, Option.bind_some, Option.bind_none, Option.map_some, List.length_map, List.length_set, String.reduceBEq, Int.toNat_natCast, Bool.true_beq, Bool.false_beq, T24, shF_dec, dF, fr_eta, Int.cast_ofNat_Int, Int.reduceSub, Int.reduceAdd, Int.reduceNeg, ev1, ev2, implies_true, undef, stepP, drawB, stepL, lateB, lateB0, rdsT, rdsAny, isRd, afterL, preB, callLB, callLV, lateV, dstV, dynCall, ↓condE_t, ↓condE_f, ↓guardE_tt, ↓guardE_ff, ↓guardE_tf, ↓guardE_ft, frzDeep, deepArgs, deepArg, resB, cv, stepB, stepE, callD, tabD, snapD, snap1, snapC, snapId, snapIds, guardB, guardC, dstAt, aopR, one, pre, binR, intOpR, shiftOpR, unR, argFrm, evo, lkp, hlk, lenOf, asLst, idOf, bndA, srcOk, ofVal, ofCells, setCells, fillA, setElems, fieldsOf, fieldsEq, scalEq, isEq, AV.wr, AV.ok1, TK.agg, frz, frzs, frzA, frzArg, frzArgs, subA, subL, sub1, kp, kh, accOf, List.replicate, Nat.reduceAdd, Nat.reduceSub, Nat.reduceMul, Nat.reduceEqDiff, Nat.reduceLT, Nat.reduceLeDiff, Nat.reduceBEq, reduceIte, reduceCtorEq, eq_self, ne_eq, Int.reduceToNat, Int.reduceLT, Int.reduceLE, Int.reduceGT, Int.reduceGE, Int.reduceBEq, Int.reduceBNe, Int.reduceEq, Int.reduceNe]
                    refine ⟨j + 1, by omega, by omega, ?_⟩
                    rw [hn, ep]
                    refine ⟨?_, ?_⟩ <;> first | trivial | rfl
                  | true =>
                    have c1' : (f.op != 0) = false := by simpa using c1
                    cases c3 : f.val == v with
                    | false =>
                      have ep : isPush v f = false := by simp [isPush, c3]
                      simp only [JD_all, hjl', hj0, hg, wj, wv, c1, c1', c2, c3, Int.toNat_natCast, bs, fs, zs, sv, fv, rf1, List.set_set, T29, T30, T41, nb_self, nb_same, nb_l0, nb_r0, nb_lt, nb_gt, nb_lt0, nb_gt0, Nat.add_assoc, hfree_fr, hfree_cf, cv', cf_eta, frz_u, shC_dec, dC, T23, T28, T25, hfree_lu, hfree_l0, row0, row1, row2, row3, row4, row5, shI_dec, shN_dec, shB_dec, shM_dec, dI, dN, dB, dM, dU, dU_map, iv, bv, u, ms, ctx_T, ctx_C, ctx_P, T4, T3, T26, Option.bind_some, Option.bind_none, Option.map_some, List.length_map, List.length_set, String.reduceBEq, Int.toNat_natCast, Bool.true_beq, Bool.false_beq, T24, shF_dec, dF, fr_eta, Int.cast_ofNat_Int, Int.reduceSub, Int.reduceAdd, Int.reduceNeg, ev1, ev2, implies_true, undef, stepP, drawB, stepL, lateB, lateB0, rdsT, rdsAny, isRd, afterL, preB, callLB, callLV, lateV, dstV, dynCall, ↓condE_t, ↓condE_f, ↓guardE_tt, ↓guardE_ff, ↓guardE_tf, ↓guardE_ft, frzDeep, deepArgs, deepArg, resB, cv, stepB, stepE, callD, tabD, snapD, snap1, snapC, snapId, snapIds, guardB, guardC, dstAt, aopR, one, pre, binR, intOpR, shiftOpR, unR, argFrm, evo, lkp, hlk, lenOf, asLst, idOf, bndA, srcOk, ofVal, ofCells, setCells, fillA, setElems, fieldsOf, fieldsEq, scalEq, isEq, AV.wr, AV.ok1, TK.agg, frz, frzs, frzA, frzArg, frzArgs, subA, subL, sub1, kp, kh, accOf, List.replicate, Nat.reduceAdd, Nat.reduceSub, Nat.reduceMul, Nat.reduceEqDiff, Nat.reduceLT, Nat.reduceLeDiff, Nat.reduceBEq, reduceIte, reduceCtorEq, eq_self, ne_eq, Int.reduceToNat, Int.reduceLT, Int.reduceLE, Int.reduceGT, Int.reduceGE, Int.reduceBEq, Int.reduceBNe, Int.reduceEq, Int.reduceNe]
                      refine ⟨j + 1, by omega, by omega, ?_⟩
                      rw [hn, ep]
                      refine ⟨?_, ?_⟩ <;> first | trivial | rfl
                    | true =>
                      have ep : isPush v f = true := by simp [isPush, c1, c2, c3]
                      simp only [JD_all, hjl', hj0, hg, wj, wv, wc, c1, c1', c2, c3, Int.toNat_natCast, bs, fs, zs, sv, fv, rf1, List.set_set, T29, T30, T41, nb_self, nb_same, nb_l0, nb_r0, nb_lt, nb_gt, nb_lt0, nb_gt0, Nat.add_assoc, hfree_fr, hfree_cf, cv', cf_eta, frz_u, shC_dec, dC, T23, T28, T25, hfree_lu, hfree_l0, row0, row1, row2, row3, row4, row5, shI_dec, shN_dec, shB_dec, shM_dec, dI, dN, dB, dM, dU, dU_map, iv, bv, u, ms, ctx_T, ctx_C, ctx_P, T4, T3, T26, Option.bind_some, Option.bind_none, Option.map_some, List.length_map, List.length_set, String.reduceBEq, Int.toNat_natCast, Bool.true_beq, Bool.false_beq, T24, shF_dec, dF, fr_eta, Int.cast_ofNat_Int, Int.reduceSub, Int.reduceAdd, Int.reduceNeg, ev1, ev2, implies_true, undef, stepP, drawB, stepL, lateB, lateB0, rdsT, rdsAny, isRd, afterL, preB, callLB, callLV, lateV, dstV, dynCall, ↓condE_t, ↓condE_f, ↓guardE_tt, ↓guardE_ff, ↓guardE_tf, ↓guardE_ft, frzDeep, deepArgs, deepArg, resB, cv, stepB, stepE, callD, tabD, snapD, snap1, snapC, snapId, snapIds, guardB, guardC, dstAt, aopR, one, pre, binR, intOpR, shiftOpR, unR, argFrm, evo, lkp, hlk, lenOf, asLst, idOf, bndA, srcOk, ofVal, ofCells, setCells, fillA, setElems, fieldsOf, fieldsEq, scalEq, isEq, AV.wr, AV.ok1, TK.agg, frz, frzs, frzA, frzArg, frzArgs, subA, subL, sub1, kp, kh, accOf, List.replicate, Nat.reduceAdd, Nat.reduceSub, Nat.reduceMul, Nat.reduceEqDiff, Nat.reduceLT, Nat.reduceLeDiff, Nat.reduceBEq, reduceIte, reduceCtorEq, eq_self, ne_eq, Int.reduceToNat, Int.reduceLT, Int.reduceLE, Int.reduceGT, Int.reduceGE, Int.reduceBEq, Int.reduceBNe, Int.reduceEq, Int.reduceNe]
                      refine ⟨j + 1, by omega, by omega, ?_⟩
                      rw [hn, ep]
                      refine ⟨?_, ?_⟩ <;> first | trivial | rfl
              · have hjl' : ¬ (j : Int) < A.length := by omega
                have hpc : pushN v A j = A.countP (isPush v) := by rw [pushN_count v A j hj, List.take_of_length_le (by omega)]
                have r6 := r6 v
                have r7 := r7 v
                have r8 := r8 v
                rw [← hpc] at r6 r7 r8
                generalize pushN v A j = c at hle r6 r7 r8 ⊢
                have o2 : dList ⟨1, d, 1, 0⟩ m 0 = L := r5
                have o3 : dIs ⟨1, d, 1, 0⟩ m 0 = true := r4
                have hLl : L.length ≤ 16 := by rw [← r5]; exact len_dList ..
                simp only [JD_all, hjl', k3, o2, o3, lv, Int.toNat_natCast, bs, fs, zs, sv, fv, rf1, List.set_set, T29, T30, T41, nb_self, nb_same, nb_l0, nb_r0, nb_lt, nb_gt, nb_lt0, nb_gt0, Nat.add_assoc, hfree_fr, hfree_cf, cv', cf_eta, frz_u, shC_dec, dC, T23, T28, T25, hfree_lu, hfree_l0, row0, row1, row2, row3, row4, row5, shI_dec, shN_dec, shB_dec, shM_dec, dI, dN, dB, dM, dU, dU_map, iv, bv, u, ms, ctx_T, ctx_C, ctx_P, T4, T3, T26, Option.bind_some, Option.bind_none, Option.map_some, List.length_map, List.length_set, String.reduceBEq, Int.toNat_natCast, Bool.true_beq, Bool.false_beq, T24, shF_dec, dF, fr_eta, Int.cast_ofNat_Int, Int.reduceSub, Int.reduceAdd, Int.reduceNeg, ev1, ev2, implies_true, undef, stepP, drawB, stepL, lateB, lateB0, rdsT, rdsAny, isRd, afterL, preB, callLB, callLV, lateV, dstV, dynCall, ↓condE_t, ↓condE_f, ↓guardE_tt, ↓guardE_ff, ↓guardE_tf, ↓guardE_ft, frzDeep, deepArgs, deepArg, resB, cv, stepB, stepE, callD, tabD, snapD, snap1, snapC, snapId, snapIds, guardB, guardC, dstAt, aopR, one, pre, binR, intOpR, shiftOpR, unR, argFrm, evo, lkp, hlk, lenOf, asLst, idOf, bndA, srcOk, ofVal, ofCells, setCells, fillA, setElems, fieldsOf, fieldsEq, scalEq, isEq, AV.wr, AV.ok1, TK.agg, frz, frzs, frzA, frzArg, frzArgs, subA, subL, sub1, kp, kh, accOf, List.replicate, Nat.reduceAdd, Nat.reduceSub, Nat.reduceMul, Nat.reduceEqDiff, Nat.reduceLT, Nat.reduceLeDiff, Nat.reduceBEq, reduceIte, reduceCtorEq, eq_self, ne_eq, Int.reduceToNat, Int.reduceLT, Int.reduceLE, Int.reduceGT, Int.reduceGE, Int.reduceBEq, Int.reduceBNe, Int.reduceEq, Int.reduceNe]
                refine WP.loop (ι := Nat) (fun j => L.length - j) (fun j => j ≤ L.length) (n := 226)
                  (fr := fun j => [(24, iv j), (23, iv (leftN v L j : Nat)), (22, bv true), (21, ms L), (19, iv (c : Nat)), (18, fs A), (2, bs pops), (4, iv v)])
                  (hp := fun j => []) (N := 0) ?_ 0 (Nat.zero_le _) rfl (Nat.zero_le _) ⟨rfl, rfl, rfl, rfl, rfl, rfl, rfl, rfl, trivial⟩ trivial
                intro i nx3 hi hN3 hid3
                have hle2 := leftN_le v L i
                refine WP.of okJD 1 (by rfl) ?_
                by_cases hil : i < L.length
                · have hil' : (i : Int) < L.length := by omega
                  have hi0 : (0 : Int) ≤ i := by omega
                  have hg : (L.map u).getD i .top = u (L.getD i 0) := by simp [List.getD_eq_getElem?_getD, hil]
                  have wi : IntKind.wrap .i64 ((i : Int) + 1) = ((i + 1 : Nat) : Int) := by rw [wrap_i (by omega) (by omega)]; omega
                  have hn : leftN v L (i + 1) = if L.getD i 0 = v then leftN v L i + 1 else leftN v L i := rfl
                  generalize L.getD i 0 = x at hg hn
                  generalize leftN v L i = b at hle2 hn ⊢
                  have wb : IntKind.wrap .i64 ((b : Int) + 1) = ((b + 1 : Nat) : Int) := by rw [wrap_i (by omega) (by omega)]; omega
                  by_cases hx : x = v
                  · have av : (x == v) = true := by simpa using hx
                    simp only [JD_all, hil', hi0, hg, wi, wb, wv, av, Int.toNat_natCast, bs, fs, zs, sv, fv, rf1, List.set_set, T29, T30, T41, nb_self, nb_same, nb_l0, nb_r0, nb_lt, nb_gt, nb_lt0, nb_gt0, Nat.add_assoc, hfree_fr, hfree_cf, cv', cf_eta, frz_u, shC_dec, dC, T23, T28, T25, hfree_lu, hfree_l0, row0, row1, row2, row3, row4, row5, shI_dec, shN_dec, shB_dec, shM_dec, dI, dN, dB, dM, dU, dU_map, iv, bv, u, ms, ctx_T, ctx_C, ctx_P, T4, T3, T26, Option.bind_some, Option.bind_none, Option.map_some, List.length_map, List.length_set, String.reduceBEq, Int.toNat_natCast, Bool.true_beq, Bool.false_beq, T24, shF_dec, dF, fr_eta, Int.cast_ofNat_Int, Int.reduceSub, Int.reduceAdd, Int.reduceNeg, ev1, ev2, implies_true, undef, stepP, drawB, stepL, lateB, lateB0, rdsT, rdsAny, isRd, afterL, preB, callLB, callLV, lateV, dstV, dynCall, ↓condE_t, ↓condE_f, ↓guardE_tt, ↓guardE_ff, ↓guardE_tf, ↓guardE_ft, frzDeep, deepArgs, deepArg, resB, cv, stepB, stepE, callD, tabD, snapD, snap1, snapC, snapId, snapIds, guardB, guardC, dstAt, aopR, one, pre, binR, intOpR, shiftOpR, unR, argFrm, evo, lkp, hlk, lenOf, asLst, idOf, bndA, srcOk, ofVal, ofCells, setCells, fillA, setElems, fieldsOf, fieldsEq, scalEq, isEq, AV.wr, AV.ok1, TK.agg, frz, frzs, frzA, frzArg, frzArgs, subA, subL, sub1, kp, kh, accOf, List.replicate, Nat.reduceAdd, Nat.reduceSub, Nat.reduceMul, Nat.reduceEqDiff, Nat.reduceLT, Nat.reduceLeDiff, Nat.reduceBEq, reduceIte, reduceCtorEq, eq_self, ne_eq, Int.reduceToNat, Int.reduceLT, Int.reduceLE, Int.reduceGT, Int.reduceGE, Int.reduceBEq, Int.reduceBNe, Int.reduceEq, Int.reduceNe]
                    refine ⟨i + 1, by omega, by omega, ?_⟩
                    rw [hn, if_pos hx]
                    refine ⟨?_, ?_⟩ <;> first | trivial | rfl
                  · have av : (x == v) = false := by simpa using hx
                    simp only [JD_all, hil', hi0, hg, wi, wb, wv, av, Int.toNat_natCast, bs, fs, zs, sv, fv, rf1, List.set_set, T29, T30, T41, nb_self, nb_same, nb_l0, nb_r0, nb_lt, nb_gt, nb_lt0, nb_gt0, Nat.add_assoc, hfree_fr, hfree_cf, cv', cf_eta, frz_u, shC_dec, dC, T23, T28, T25, hfree_lu, hfree_l0, row0, row1, row2, row3, row4, row5, shI_dec, shN_dec, shB_dec, shM_dec, dI, dN, dB, dM, dU, dU_map, iv, bv, u, ms, ctx_T, ctx_C, ctx_P, T4, T3, T26, Option.bind_some, Option.bind_none, Option.map_some, List.length_map, List.length_set, String.reduceBEq, Int.toNat_natCast, Bool.true_beq, Bool.false_beq, T24, shF_dec, dF, fr_eta, Int.cast_ofNat_Int, Int.reduceSub, Int.reduceAdd, Int.reduceNeg, ev1, ev2, implies_true, undef, stepP, drawB, stepL, lateB, lateB0, rdsT, rdsAny, isRd, afterL, preB, callLB, callLV, lateV, dstV, dynCall, ↓condE_t, ↓condE_f, ↓guardE_tt, ↓guardE_ff, ↓guardE_tf, ↓guardE_ft, frzDeep, deepArgs, deepArg, resB, cv, stepB, stepE, callD, tabD, snapD, snap1, snapC, snapId, snapIds, guardB, guardC, dstAt, aopR, one, pre, binR, intOpR, shiftOpR, unR, argFrm, evo, lkp, hlk, lenOf, asLst, idOf, bndA, srcOk, ofVal, ofCells, setCells, fillA, setElems, fieldsOf, fieldsEq, scalEq, isEq, AV.wr, AV.ok1, TK.agg, frz, frzs, frzA, frzArg, frzArgs, subA, subL, sub1, kp, kh, accOf, List.replicate, Nat.reduceAdd, Nat.reduceSub, Nat.reduceMul, Nat.reduceEqDiff, Nat.reduceLT, Nat.reduceLeDiff, Nat.reduceBEq, reduceIte, reduceCtorEq, eq_self, ne_eq, Int.reduceToNat, Int.reduceLT, Int.reduceLE, Int.reduceGT, Int.reduceGE, Int.reduceBEq, Int.reduceBNe, Int.reduceEq, Int.reduceNe]
                    refine ⟨i + 1, by omega, by omega, ?_⟩
                    rw [hn, if_neg hx]
                    refine ⟨?_, ?_⟩ <;> first | trivial | rfl
                · have hil' : ¬ (i : Int) < L.length := by omega
                  have hlc : leftN v L i = L.count v := by rw [leftN_count v L i hi, List.take_of_length_le (by omega)]
                  have r6 : manyL A v + leftN v L i = c := by rw [hlc]; exact r6
                  generalize leftN v L i = b at hle2 r6 ⊢
                  generalize hM : manyL A v = M at r6
                  have y1 : (c : Int) ≤ 1 := by omega
                  have y2 : IntKind.wrap .i64 ((M : Int) + (b : Nat)) = (c : Int) := by rw [wrap_i (by omega) (by omega)]; omega
                  have y3 : A.length ≤ 2000 := by omega
                  have y4 : (0 : Int) ≤ (q : Int) := by omega
                  have y5 : (q : Int) < pops.length := by omega
                  have y6 := getD_b (l := pops) (k := q) (by omega)
                  have hq2 : (v - 1).toNat = q := by omega
                  rw [hq2, gd_lt (show q < pops.length by omega) true false] at r8
                  cases hb : pops.getD q false with
                  | false =>
                    rw [hb] at y6
                    simp only [JD_all, hil', y1, y2, y3, y4, y5, y6, hM, wv, wq, beq_self_eq_true, Int.toNat_natCast, bs, fs, zs, sv, fv, rf1, List.set_set, T29, T30, T41, nb_self, nb_same, nb_l0, nb_r0, nb_lt, nb_gt, nb_lt0, nb_gt0, Nat.add_assoc, hfree_fr, hfree_cf, cv', cf_eta, frz_u, shC_dec, dC, T23, T28, T25, hfree_lu, hfree_l0, row0, row1, row2, row3, row4, row5, shI_dec, shN_dec, shB_dec, shM_dec, dI, dN, dB, dM, dU, dU_map, iv, bv, u, ms, ctx_T, ctx_C, ctx_P, T4, T3, T26, Option.bind_some, Option.bind_none, Option.map_some, List.length_map, List.length_set, String.reduceBEq, Int.toNat_natCast, Bool.true_beq, Bool.false_beq, T24, shF_dec, dF, fr_eta, Int.cast_ofNat_Int, Int.reduceSub, Int.reduceAdd, Int.reduceNeg, ev1, ev2, implies_true, undef, stepP, drawB, stepL, lateB, lateB0, rdsT, rdsAny, isRd, afterL, preB, callLB, callLV, lateV, dstV, dynCall, ↓condE_t, ↓condE_f, ↓guardE_tt, ↓guardE_ff, ↓guardE_tf, ↓guardE_ft, frzDeep, deepArgs, deepArg, resB, cv, stepB, stepE, callD, tabD, snapD, snap1, snapC, snapId, snapIds, guardB, guardC, dstAt, aopR, one, pre, binR, intOpR, shiftOpR, unR, argFrm, evo, lkp, hlk, lenOf, asLst, idOf, bndA, srcOk, ofVal, ofCells, setCells, fillA, setElems, fieldsOf, fieldsEq, scalEq, isEq, AV.wr, AV.ok1, TK.agg, frz, frzs, frzA, frzArg, frzArgs, subA, subL, sub1, kp, kh, accOf, List.replicate, Nat.reduceAdd, Nat.reduceSub, Nat.reduceMul, Nat.reduceEqDiff, Nat.reduceLT, Nat.reduceLeDiff, Nat.reduceBEq, reduceIte, reduceCtorEq, eq_self, ne_eq, Int.reduceToNat, Int.reduceLT, Int.reduceLE, Int.reduceGT, Int.reduceGE, Int.reduceBEq, Int.reduceBNe, Int.reduceEq, Int.reduceNe]
                    all_goals ((repeat' apply And.intro) <;> first | rfl | omega | (show entryOk _ _ _ _ _ = true; kernel_rfl) | (show pivotOk _ _ = true; kernel_rfl) | decide)
                  | true =>
                    rw [hb] at y6
                    have hc0 : c = 0 := r8 hb
                    subst hc0
                    simp only [JD_all, hil', y1, y2, y3, y4, y5, y6, hM, wv, wq, beq_self_eq_true, Int.toNat_natCast, Int.ofNat_zero, Int.natCast_zero, bs, fs, zs, sv, fv, rf1, List.set_set, T29, T30, T41, nb_self, nb_same, nb_l0, nb_r0, nb_lt, nb_gt, nb_lt0, nb_gt0, Nat.add_assoc, hfree_fr, hfree_cf, cv', cf_eta, frz_u, shC_dec, dC, T23, T28, T25, hfree_lu, hfree_l0, row0, row1, row2, row3, row4, row5, shI_dec, shN_dec, shB_dec, shM_dec, dI, dN, dB, dM, dU, dU_map, iv, bv, u, ms, ctx_T, ctx_C, ctx_P, T4, T3, T26, Option.bind_some, Option.bind_none, Option.map_some, List.length_map, List.length_set, String.reduceBEq, Int.toNat_natCast, Bool.true_beq, Bool.false_beq, T24, shF_dec, dF, fr_eta, Int.cast_ofNat_Int, Int.reduceSub, Int.reduceAdd, Int.reduceNeg, ev1, ev2, implies_true, undef, stepP, drawB, stepL, lateB, lateB0, rdsT, rdsAny, isRd, afterL, preB, callLB, callLV, lateV, dstV, dynCall, ↓condE_t, ↓condE_f, ↓guardE_tt, ↓guardE_ff, ↓guardE_tf, ↓guardE_ft, frzDeep, deepArgs, deepArg, resB, cv, stepB, stepE, callD, tabD, snapD, snap1, snapC, snapId, snapIds, guardB, guardC, dstAt, aopR, one, pre, binR, intOpR, shiftOpR, unR, argFrm, evo, lkp, hlk, lenOf, asLst, idOf, bndA, srcOk, ofVal, ofCells, setCells, fillA, setElems, fieldsOf, fieldsEq, scalEq, isEq, AV.wr, AV.ok1, TK.agg, frz, frzs, frzA, frzArg, frzArgs, subA, subL, sub1, kp, kh, accOf, List.replicate, Nat.reduceAdd, Nat.reduceSub, Nat.reduceMul, Nat.reduceEqDiff, Nat.reduceLT, Nat.reduceLeDiff, Nat.reduceBEq, reduceIte, reduceCtorEq, eq_self, ne_eq, Int.reduceToNat, Int.reduceLT, Int.reduceLE, Int.reduceGT, Int.reduceGE, Int.reduceBEq, Int.reduceBNe, Int.reduceEq, Int.reduceNe]
                    all_goals ((repeat' apply And.intro) <;> first | rfl | omega | (show entryOk _ _ _ _ _ = true; kernel_rfl) | (show pivotOk _ _ = true; kernel_rfl) | decide)
    · have h1' : (who.length : Int) > 500 := by omega
      simp only [Try.f8, JD_all, h0', h1', inl, bs, fs, zs, sv, fv, rf1, List.set_set, T29, T30, T41, hfree_fr, hfree_cf, cv', cf_eta, frz_u, shC_dec, dC, T23, T28, T25, hfree_lu, hfree_l0, row0, row1, row2, row3, row4, row5, shI_dec, shN_dec, shB_dec, shM_dec, dI, dN, dB, dM, dU, dU_map, iv, bv, u, ms, ctx_T, ctx_C, ctx_P, T4, T3, T26, Option.bind_some, Option.bind_none, Option.map_some, List.length_map, List.length_set, String.reduceBEq, Int.toNat_natCast, Bool.true_beq, Bool.false_beq, T24, shF_dec, dF, fr_eta, Int.cast_ofNat_Int, Int.reduceSub, Int.reduceAdd, Int.reduceNeg, ev1, ev2, implies_true, undef, stepP, drawB, stepL, lateB, lateB0, rdsT, rdsAny, isRd, afterL, preB, callLB, callLV, lateV, dstV, dynCall, ↓condE_t, ↓condE_f, ↓guardE_tt, ↓guardE_ff, ↓guardE_tf, ↓guardE_ft, frzDeep, deepArgs, deepArg, resB, cv, stepB, stepE, callD, tabD, snapD, snap1, snapC, snapId, snapIds, guardB, guardC, dstAt, aopR, one, pre, binR, intOpR, shiftOpR, unR, argFrm, evo, lkp, hlk, lenOf, asLst, idOf, bndA, srcOk, ofVal, ofCells, setCells, fillA, setElems, fieldsOf, fieldsEq, scalEq, isEq, AV.wr, AV.ok1, TK.agg, frz, frzs, frzA, frzArg, frzArgs, subA, subL, sub1, kp, kh, accOf, List.replicate, Nat.reduceAdd, Nat.reduceSub, Nat.reduceMul, Nat.reduceEqDiff, Nat.reduceLT, Nat.reduceLeDiff, Nat.reduceBEq, reduceIte, reduceCtorEq, eq_self, ne_eq, Int.reduceToNat, Int.reduceLT, Int.reduceLE, Int.reduceGT, Int.reduceGE, Int.reduceBEq, Int.reduceBNe, Int.reduceEq, Int.reduceNe]
      all_goals ((repeat' apply And.intro) <;> first | rfl | omega | (show entryOk _ _ _ _ _ = true; kernel_rfl) | (show pivotOk _ _ = true; kernel_rfl) | decide)
  · have h0' : (pops.length : Int) > 60 := by omega
    simp only [Try.f8, JD_all, h0', inl, bs, fs, zs, sv, fv, rf1, List.set_set, T29, T30, T41, hfree_fr, hfree_cf, cv', cf_eta, frz_u, shC_dec, dC, T23, T28, T25, hfree_lu, hfree_l0, row0, row1, row2, row3, row4, row5, shI_dec, shN_dec, shB_dec, shM_dec, dI, dN, dB, dM, dU, dU_map, iv, bv, u, ms, ctx_T, ctx_C, ctx_P, T4, T3, T26, Option.bind_some, Option.bind_none, Option.map_some, List.length_map, List.length_set, String.reduceBEq, Int.toNat_natCast, Bool.true_beq, Bool.false_beq, T24, shF_dec, dF, fr_eta, Int.cast_ofNat_Int, Int.reduceSub, Int.reduceAdd, Int.reduceNeg, ev1, ev2, implies_true, undef, stepP, drawB, stepL, lateB, lateB0, rdsT, rdsAny, isRd, afterL, preB, callLB, callLV, lateV, dstV, dynCall, ↓condE_t, ↓condE_f, ↓guardE_tt, ↓guardE_ff, ↓guardE_tf, ↓guardE_ft, frzDeep, deepArgs, deepArg, resB, cv, stepB, stepE, callD, tabD, snapD, snap1, snapC, snapId, snapIds, guardB, guardC, dstAt, aopR, one, pre, binR, intOpR, shiftOpR, unR, argFrm, evo, lkp, hlk, lenOf, asLst, idOf, bndA, srcOk, ofVal, ofCells, setCells, fillA, setElems, fieldsOf, fieldsEq, scalEq, isEq, AV.wr, AV.ok1, TK.agg, frz, frzs, frzA, frzArg, frzArgs, subA, subL, sub1, kp, kh, accOf, List.replicate, Nat.reduceAdd, Nat.reduceSub, Nat.reduceMul, Nat.reduceEqDiff, Nat.reduceLT, Nat.reduceLeDiff, Nat.reduceBEq, reduceIte, reduceCtorEq, eq_self, ne_eq, Int.reduceToNat, Int.reduceLT, Int.reduceLE, Int.reduceGT, Int.reduceGE, Int.reduceBEq, Int.reduceBNe, Int.reduceEq, Int.reduceNe]
    all_goals ((repeat' apply And.intro) <;> first | rfl | omega | (show entryOk _ _ _ _ _ = true; kernel_rfl) | (show pivotOk _ _ = true; kernel_rfl) | decide)
end Go.Vai
