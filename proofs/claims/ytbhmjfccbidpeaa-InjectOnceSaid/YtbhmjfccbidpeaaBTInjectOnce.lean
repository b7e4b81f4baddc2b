/- What the law InjectOnce needs beyond the other texts. -/
import Derived.Test.YtbhmjfccbidpeaaBJ
import Derived.Test.YtbhmjfccbidpeaaBG
/- How a play ends: all calls are over, and what was put in is there, or was taken out. -/
namespace Go.Vai
open Go.RowKit
set_option linter.unusedVariables false
set_option linter.unusedSimpArgs false

section
variable {c : Cf} {outs : List (List Bool)} {s : Pl} {V : List Int} {H : Int}

def Stops (f : Fr) : Prop := f.op = -1 ∨ f.res ≠ 0

theorem GI.op_ok (h : GI c outs s V H) {i : Nat} (hi : i < outs.length) : (s.hand.getD i noneF).op = -1 ∨ (s.hand.getD i noneF).op = 3 ∨ (s.hand.getD i noneF).op = 4 := by
  obtain ⟨g, e⟩ := h.each i hi
  rcases e.at_ with q | ⟨_, _, ⟨q, _⟩ | ⟨q, _⟩⟩
  · rw [q]; exact .inl rfl
  · exact .inr (.inl q)
  · exact .inr (.inr q)

theorem rest_one {i : Nat} (hi : i < outs.length) (hL : (outs.getD i []).length ≤ 100) : ∀ (k : Nat) {s : Pl} {V : List Int} {H : Int}, GI c outs s V H → rank s.m (s.hand.getD i noneF) ≤ k →
    ∃ V' H', GI c outs ⟨(restN iStep c k (s.m, s.hand.getD i noneF)).1, s.left, s.hand.set i (restN iStep c k (s.m, s.hand.getD i noneF)).2, s.over⟩ V' H' ∧ Stops (restN iStep c k (s.m, s.hand.getD i noneF)).2
  | k, s, V, H, h, hk => by
    have hih : i < s.hand.length := by rw [h.hl]; exact hi
    by_cases hs : Stops (s.hand.getD i noneF)
    · rw [restN_stop (s := (s.m, s.hand.getD i noneF)) hs]
      refine ⟨V, H, ?_, hs⟩
      dsimp only
      rw [set_get hih]
      exact h
    · have ho := (h.op_ok hi).resolve_left (fun q => hs (.inl q))
      have hr : (s.hand.getD i noneF).res = 0 := Classical.byContradiction fun q => hs (.inr q)
      obtain ⟨_, _, _, _, hrank⟩ := (h.many.perm (perm_at s.over s.hand hih)).step
      have hrank := hrank ho hr
      match k, hk with
      | 0, hk => omega
      | k + 1, hk =>
        rw [restN_go (s := (s.m, s.hand.getD i noneF)) hs]
        obtain ⟨V', H', h2⟩ := h.step hi hL
        have e : (plStep c s i).hand.getD i noneF = (iStep c s.m (s.hand.getD i noneF)).2 := getD_set_self hih _ _
        have e2 : (plStep c s i).m = (iStep c s.m (s.hand.getD i noneF)).1 := rfl
        obtain ⟨V2, H2, h3, h4⟩ := rest_one hi hL k h2 (by rw [e, e2]; omega)
        rw [e, e2] at h3 h4
        refine ⟨V2, H2, ?_, h4⟩
        have e3 : (plStep c s i).hand = s.hand.set i (iStep c s.m (s.hand.getD i noneF)).2 := rfl
        rw [e3, List.set_set] at h3
        exact h3

theorem rest_at {i : Nat} (hi : i < outs.length) (hL : (outs.getD i []).length ≤ 100) (h : GI c outs s V H) : ∃ V' H', GI c outs ⟨(restAt iStep c (s.m, s.hand) i).1, s.left, (restAt iStep c (s.m, s.hand) i).2, s.over⟩ V' H' ∧ Stops ((restAt iStep c (s.m, s.hand) i).2.getD i noneF) ∧
    ∀ j, j ≠ i → (restAt iStep c (s.m, s.hand) i).2.getD j noneF = s.hand.getD j noneF := by
  obtain ⟨V', H', h1, h2⟩ := rest_one hi hL 20 h (Nat.le_trans (rank_le _ _) (by omega))
  refine ⟨V', H', h1, ?_, fun j hj => ?_⟩
  · show Stops ((s.hand.set i _).getD i noneF)
    rw [getD_set_self (by rw [h.hl]; exact hi)]
    exact h2
  · exact getD_set_ne (fun e => hj e.symm) _ _

theorem rest_to (hL : ∀ i, (outs.getD i []).length ≤ 100) (h : GI c outs s V H) : ∀ i, i ≤ outs.length → ∃ V' H', GI c outs ⟨(restTo iStep c (s.m, s.hand) i).1, s.left, (restTo iStep c (s.m, s.hand) i).2, s.over⟩ V' H' ∧ ∀ j, j < i → Stops ((restTo iStep c (s.m, s.hand) i).2.getD j noneF)
  | 0, _ => ⟨V, H, h, fun j hj => by omega⟩
  | i + 1, hi => by
    obtain ⟨V', H', h1, h2⟩ := rest_to hL h i (by omega)
    obtain ⟨V2, H2, h3, h4, h5⟩ := rest_at (i := i) (by omega) (hL i) h1
    refine ⟨V2, H2, h3, fun j hj => ?_⟩
    by_cases q : j = i
    · subst q; exact h4
    · have := h5 j q
      dsimp only at this
      show Stops ((restAt iStep c _ i).2.getD j noneF)
      rw [this]; exact h2 j (by omega)

theorem rest_k (hL : ∀ i, (outs.getD i []).length ≤ 100) (h : GI c outs s V H) : ∀ k, ∃ V' H', GI c outs ⟨(restK iStep c (s.m, s.hand) k).1, s.left, (restK iStep c (s.m, s.hand) k).2, s.over⟩ V' H' ∧ (0 < k → ∀ j, j < outs.length → Stops ((restK iStep c (s.m, s.hand) k).2.getD j noneF))
  | 0 => ⟨V, H, h, fun q => by omega⟩
  | k + 1 => by
    obtain ⟨V', H', h1, _⟩ := rest_k hL h k
    have e : (restK iStep c (s.m, s.hand) k).2.length = outs.length := h1.hl
    obtain ⟨V2, H2, h3, h4⟩ := rest_to hL h1 outs.length (Nat.le_refl _)
    refine ⟨V2, H2, ?_, fun _ => ?_⟩
    · show GI c outs ⟨(restTo iStep c _ _).1, s.left, (restTo iStep c _ _).2, s.over⟩ V2 H2
      rw [e]; exact h3
    · show ∀ j, j < outs.length → Stops ((restTo iStep c _ _).2.getD j noneF)
      rw [e]; exact h4

/-- When all are over, the cells are a list of what is there. -/
theorem GI.list (h : GI c outs s V H) (hs : ∀ f ∈ s.over ++ s.hand, ¬ Holds f) : QL c s.m (V.drop H.toNat) H := by
  have hM := h.many
  have hi := hM.inj.ipos
  have h1 := hM.gave.length_eq
  have h2 := List.length_filterMap_le eGave (s.over ++ s.hand)
  have hf := hM.few
  have hlo := hM.lo
  have hle := hM.le
  have hrm := hM.room
  have hlen : ((V.drop H.toNat).length : Int) = V.length - H := by rw [List.length_drop]; omega
  have hE : ∀ x : Int, 0 ≤ x → x < V.length → sq c s.m x ≠ 2 * (x / c.i) := fun x h0 h1 e => by
    obtain ⟨f, hf, _, q, _⟩ := hM.heldE x.toNat (by omega) (by omega) (by rw [Int.toNat_of_nonneg h0]; exact e)
    exact hs f hf q
  have hQ : ∀ x : Int, 0 ≤ x → x < H → sq c s.m x ≠ 2 * (x / c.i) + 1 := fun x h0 h1 e => by
    obtain ⟨f, hf, _, q, _⟩ := hM.heldQ x h0 h1 e
    exact hs f hf q
  have key : ∀ k : Nat, (k : Int) < c.i → (H + k < V.length → sq c s.m (H + k) = 2 * ((H + k) / c.i) + 1 ∧ vl c s.m (H + k) = V.getD (H + k).toNat 0) ∧ (V.length ≤ H + k → sq c s.m (H + k) = 2 * ((H + k) / c.i)) := by
    intro k hk
    obtain ⟨x, e, ⟨g1, g2, g3⟩ | ⟨g0, g1, g2, g3, g4⟩⟩ := hM.slot (H + k)
    · have : x = H + k := by
        by_cases q : x ≤ H + k
        · exact (near hi.1 e.symm q (by omega)).symm
        · exact near hi.1 e (by omega) (by omega)
      subst this
      exact ⟨fun q => absurd g3 (hE _ (by omega) q), fun _ => g3⟩
    · have sqx : sq c s.m x = sq c s.m (H + k) := by unfold sq; rw [e]
      have hxH : H ≤ x := Classical.byContradiction fun q => hQ x g0 (by omega) (by rw [sqx]; exact g3)
      have : x = H + k := by
        by_cases q : x ≤ H + k
        · exact (near hi.1 e.symm q (by omega)).symm
        · exact near hi.1 e (by omega) (by omega)
      subst this
      exact ⟨fun _ => ⟨g3, g4⟩, fun q => by omega⟩
  refine ⟨hM.inj, hlo, by omega, hM.head, by rw [hM.tail]; omega, by omega, fun k hk => ?_, fun k hk => ?_⟩
  · obtain ⟨k1, k2⟩ := key k hk
    by_cases q : H + k < V.length
    · rw [if_pos (by omega)]; exact (k1 q).1
    · rw [if_neg (by omega), Int.add_zero]; exact k2 (by omega)
  · have q : H + k < V.length := by omega
    have := ((key k (by omega)).1 q).2
    show vl c s.m (H + k) = _
    rw [this]
    simp only [List.getD_eq_getElem?_getD, List.getElem?_drop]
    congr 2
    omega

/-! The counts of InjectOnce. -/
def okOf (op : Int) (f : Fr) : Option Int := if f.op = op ∧ f.res = 1 then some f.val else none
theorem gave_ok {l : List Fr} (h : ∀ f ∈ l, ¬ Holds f) : l.filterMap eGave = l.filterMap (okOf 3) := by
  induction l with
  | nil => rfl
  | cons f r ih =>
    have e : eGave f = okOf 3 f := by
      have := h f (by simp)
      unfold eGave okOf
      by_cases q : f.op = 3 ∧ f.res = 1
      · rw [if_pos q, if_pos ⟨q.1, .inl q.2⟩]
      · rw [if_neg q, if_neg (fun k => k.2.elim (fun k2 => q ⟨k.1, k2⟩) this)]
    rw [List.filterMap_cons, List.filterMap_cons, e, ih fun g hg => h g (by simp [hg])]
theorem got_ok {l : List Fr} (h : ∀ f ∈ l, ¬ Holds f) : l.filterMap (qGot V) = l.filterMap (okOf 4) := by
  induction l with
  | nil => rfl
  | cons f r ih =>
    have e : qGot V f = okOf 4 f := by
      have := h f (by simp)
      unfold qGot okOf
      by_cases q : f.op = 4 ∧ f.res = 1
      · rw [if_pos q, if_pos q]
      · rw [if_neg q, if_neg q, if_neg (fun k => this k.2)]
    rw [List.filterMap_cons, List.filterMap_cons, e, ih fun g hg => h g (by simp [hg])]
theorem ok_calls (op : Int) (hop : op ≠ -1) (hop2 : 0 ≤ op) (l : List Fr) : l.filterMap (okOf op) = (l.filter fun f => decide (f.op ≥ 0)).filterMap (okOf op) := by
  induction l with
  | nil => rfl
  | cons f r ih =>
    rw [List.filterMap_cons]
    by_cases q : f.op ≥ 0
    · rw [List.filter_cons_of_pos (by simpa using q), List.filterMap_cons, ih]
    · have e : okOf op f = none := by unfold okOf; rw [if_neg (by omega)]
      rw [List.filter_cons_of_neg (by simpa using q), e, ih]

/-- The numbers counted. -/
def cntN (op v : Int) (l : List Fr) : Nat → Nat
  | 0 => 0
  | k + 1 => if (l.getD k fr0).res = 1 ∧ (l.getD k fr0).op = op ∧ (l.getD k fr0).val = v then cntN op v l k + 1 else cntN op v l k
theorem cntN_eq (op v : Int) (l : List Fr) : ∀ k, k ≤ l.length → cntN op v l k = ((l.take k).filterMap (okOf op)).count v ∧ cntN op v l k ≤ k
  | 0, _ => by simp [cntN]
  | k + 1, h => by
    obtain ⟨h1, h2⟩ := cntN_eq op v l k (by omega)
    rw [cntN, take_one (show k < l.length by omega) fr0, List.filterMap_append, List.count_append, ← h1]
    generalize l.getD k fr0 = f
    by_cases q : f.op = op ∧ f.res = 1
    · have e : okOf op f = some f.val := if_pos q
      rw [List.filterMap_cons, e]
      by_cases q2 : f.val = v
      · rw [if_pos ⟨q.2, q.1, q2⟩]; simp [q2]; omega
      · rw [if_neg (fun k => q2 k.2.2)]; simp [q2]; omega
    · have e : okOf op f = none := if_neg q
      rw [List.filterMap_cons, e, if_neg (fun k => q ⟨k.2.1, k.1⟩)]; simp; omega
def cntI (v : Int) (l : List Int) : Nat → Nat
  | 0 => 0
  | k + 1 => if l.getD k 0 = v then cntI v l k + 1 else cntI v l k
theorem cntI_eq (v : Int) (l : List Int) : ∀ k, k ≤ l.length → cntI v l k = (l.take k).count v ∧ cntI v l k ≤ k
  | 0, _ => by simp [cntI]
  | k + 1, h => by
    obtain ⟨h1, h2⟩ := cntI_eq v l k (by omega)
    rw [cntI, take_one (show k < l.length by omega) 0, List.count_append, ← h1]
    generalize l.getD k 0 = x
    by_cases q : x = v
    · rw [if_pos q]; simp [q]; omega
    · rw [if_neg q]; simp [q]; omega

theorem count_one {l : List Int} (h : l.Pairwise fun a b => a / 100 = b / 100 → a < b) (v : Int) : l.count v ≤ 1 := by
  induction l with
  | nil => simp
  | cons a r ih =>
    obtain ⟨h1, h2⟩ := List.pairwise_cons.1 h
    rw [List.count_cons]
    by_cases q : a = v
    · subst q
      have : r.count a = 0 := by
        rw [List.count_eq_zero]
        intro k
        have := h1 a k rfl
        omega
      rw [this]; simp
    · have := ih h2
      simp [q]; exact this

/-- The calls that are over put in, or took out. -/
def OverOp (s : Pl) : Prop := Sane s ∧ ∀ f ∈ s.over, f.op = 3 ∨ f.op = 4
theorem pTurn_overOp {n : Nat} (h : OverOp s) (i : Int) : OverOp (pTurn iStep c n s i) := by
  refine ⟨pTurn_sane op_iStep iStep_none h.1 i, ?_⟩
  unfold pTurn pRound
  dsimp only
  split
  · split
    · exact h.2
    · rename_i hr
      intro f hf
      rcases List.mem_append.1 hf with q | q
      · exact h.2 f q
      · rw [List.mem_singleton] at q
        subst q
        rcases pHand_ok h.1 i.toNat with e | e | e
        · exfalso; apply hr; rw [e]; rfl
        · exact .inl ((op_iStep ..).trans e)
        · exact .inr ((op_iStep ..).trans e)
  · exact h.2

/-- What InjectOnce asks. -/
structure Once (outs : List (List Bool)) (room : Int) (all : List Fr) (n T : List Int) : Prop where
  legit : ∀ f ∈ all, f.res = 1 → ∃ i k : Nat, i < outs.length ∧ k < (outs.getD i []).length ∧ (outs.getD i []).getD k true = false ∧ f.val = ((100 * (i + 1) + k : Nat) : Int)
  list : qList (injC room) n = (T, true)
  len : eLen (injC room) n = T.length
  few : T.length ≤ 16
  one : ∀ v, cntN 3 v all all.length ≤ 1
  sum : ∀ v, cntN 4 v all all.length + cntI v T T.length = cntN 3 v all all.length

theorem mem_getD {l : List Fr} {f : Fr} (h : f ∈ l) : ∃ j, j < l.length ∧ l.getD j noneF = f := by
  obtain ⟨j, hj, e⟩ := List.mem_iff_getElem.1 h
  exact ⟨j, hj, by simp [List.getD_eq_getElem?_getD, hj, e]⟩

theorem play_once (room : Int) (hl : outs.length ≤ 8) (hs : ∀ x ∈ outs, x.length ≤ 30) (who : List Int) (hw : who.length ≤ 500) (hm : mayC (injC room) = true) :
    ∃ sm so sh n rest T, iPlay room (callsP outs) who = (sm, so, sh) ∧ iRest room sm sh = (n, rest) ∧ sh.length = outs.length ∧ rest.length = outs.length ∧ n.length ≤ 190 ∧ so.length ≤ 500 ∧ sm.length ≤ 190 ∧
      (∀ f ∈ rest, f.op ≥ 0 → f.res ≠ 0) ∧ Once outs room (so ++ rest.filter fun f => decide (f.op ≥ 0)) n T := by
  obtain ⟨V, H, hG, hF⟩ := play_all (outs := outs) room (by omega) (fun x hx => Nat.le_trans (hs x hx) (by omega)) who (by omega) hm
  have hov : OverOp (pAll iStep (injC room) (callsP outs) who) := by
    refine pFold_inv OverOp ⟨?_, fun f hf => by simp [pStart] at hf⟩ (fun s i hs => pTurn_overOp hs i) who
    intro i
    simp only [pStart]
    rw [List.getD_eq_getElem?_getD, List.getElem?_replicate]
    split <;> exact .inl rfl
  have e1 := iPlay_yes (who := who) (show mayC (injC room) = true ∧ (callsP outs).length ≤ 8 from ⟨hm, by rw [len_callsP]; exact hl⟩)
  have lp := len_iPlay room (callsP outs) who
  rw [e1] at lp
  dsimp only at lp
  generalize pAll iStep (injC room) (callsP outs) who = s at hG hF hov e1 lp
  have hL : ∀ i, (outs.getD i []).length ≤ 100 := by
    intro i
    rw [List.getD_eq_getElem?_getD]
    cases q : outs[i]? with
    | none => simp
    | some x => have := hs x (List.mem_of_getElem? q); simp; omega
  obtain ⟨V2, H2, h2, hst⟩ := rest_k hL hG 10
  have hst := hst (by omega)
  have e2 : iRest room s.m s.hand = restK iStep (injC room) (s.m, s.hand) 10 := if_pos ⟨hm, hG.many.inj.len⟩
  have lr := len_iRest room s.m s.hand
  rw [e2] at lr
  generalize restK iStep (injC room) (s.m, s.hand) 10 = R at h2 hst e2 lr
  obtain ⟨n, rest⟩ := R
  dsimp only at h2 hst e2 lr
  have hrl : rest.length = outs.length := h2.hl
  have hrest : ∀ f ∈ rest, (f = noneF ∨ f.op = 3 ∨ f.op = 4) ∧ Stops f := by
    intro f hf
    obtain ⟨j, hj, e⟩ := mem_getD hf
    obtain ⟨g, hE⟩ := h2.each j (by omega)
    have hat := hE.at_
    dsimp only at hat
    rw [e] at hat
    refine ⟨?_, by rw [← e]; exact hst j (by omega)⟩
    rcases hat with q | ⟨_, _, ⟨q, _⟩ | ⟨q, _⟩⟩
    · exact .inl q
    · exact .inr (.inl q)
    · exact .inr (.inr q)
  have hno : ∀ f ∈ s.over ++ rest, ¬ Holds f := by
    intro f hf q
    rcases List.mem_append.1 hf with k | k
    · exact hG.done f k q.1
    · obtain ⟨k1, k2⟩ := hrest f k
      rcases k1 with k1 | k1
      · subst k1; have := q.2; simp [noneF] at this
      · rcases k2 with k2 | k2
        · omega
        · exact k2 q.1
  have hsub : ∀ f ∈ s.over ++ rest.filter (fun f => decide (f.op ≥ 0)), f ∈ s.over ++ rest ∧ (f.op = 3 ∨ f.op = 4) := by
    intro f hf
    rcases List.mem_append.1 hf with k | k
    · exact ⟨List.mem_append_left _ k, hov.2 f k⟩
    · obtain ⟨k1, k2⟩ := List.mem_filter.1 k
      have k2 := of_decide_eq_true k2
      refine ⟨List.mem_append_right _ k1, ?_⟩
      rcases (hrest f k1).1 with q | q
      · subst q; simp [noneF] at k2
      · exact q
  have hq := h2.list hno
  have hle := h2.many.le
  have hlo := h2.many.lo
  have hfm : ∀ op : Int, 0 ≤ op → (s.over ++ rest.filter (fun f => decide (f.op ≥ 0))).filterMap (okOf op) = (s.over ++ rest).filterMap (okOf op) := by
    intro op hop
    rw [List.filterMap_append, List.filterMap_append, ← ok_calls op (by omega) hop]
  have hc3 : ∀ v, cntN 3 v (s.over ++ rest.filter fun f => decide (f.op ≥ 0)) (s.over ++ rest.filter fun f => decide (f.op ≥ 0)).length = V2.count v := by
    intro v
    rw [(cntN_eq 3 v _ _ (Nat.le_refl _)).1, List.take_of_length_le (Nat.le_refl _), hfm 3 (by omega), ← gave_ok hno]
    exact h2.many.gave.count_eq v
  have hc4 : ∀ v, cntN 4 v (s.over ++ rest.filter fun f => decide (f.op ≥ 0)) (s.over ++ rest.filter fun f => decide (f.op ≥ 0)).length = (V2.take H2.toNat).count v := by
    intro v
    rw [(cntN_eq 4 v _ _ (Nat.le_refl _)).1, List.take_of_length_le (Nat.le_refl _), hfm 4 (by omega), ← got_ok (V := V2) hno]
    exact h2.many.got.count_eq v
  refine ⟨s.m, s.over, s.hand, n, rest, V2.drop H2.toNat, e1, e2, hG.hl, hrl, by omega, by omega, by omega, fun f hf ho => ?_, ⟨fun f hf hr => ?_, hq.list.1, hq.list.2, ?_, fun v => ?_, fun v => ?_⟩⟩
  · exact (hrest f hf).2.resolve_left (by omega)
  · obtain ⟨k1, k2⟩ := hsub f hf
    refine h2.legit f.val ?_
    rcases k2 with k2 | k2
    · exact h2.many.gave.mem_iff.1 (List.mem_filterMap.2 ⟨f, k1, by unfold eGave; rw [if_pos ⟨k2, .inl hr⟩]⟩)
    · exact List.mem_of_mem_take (h2.many.got.mem_iff.1 (List.mem_filterMap.2 ⟨f, k1, by unfold qGot; rw [if_pos ⟨k2, hr⟩]⟩))
  · have := hq.room
    have := h2.many.inj.ipos
    omega
  · rw [hc3]; exact count_one h2.incr v
  · rw [hc3, hc4, (cntI_eq v _ _ (Nat.le_refl _)).1, List.take_of_length_le (Nat.le_refl _), ← List.count_append, List.take_append_drop]
end
end Go.Vai
/- What was put in is taken out just once, or is there, as the program says. -/
namespace Go.Vai
open Go.RowKit Go.Proofs
set_option linter.unusedSimpArgs false
set_option linter.unusedVariables false
set_option maxHeartbeats 4000000
set_option maxRecDepth 100000

/-- What is over, and what of the hand is over, so far. -/
def catN (so rest : List Fr) (j : Nat) : List Fr := so ++ (rest.take j).filter fun f => decide (f.op ≥ 0)
theorem catN_zero (so rest : List Fr) : catN so rest 0 = so := by simp [catN]
theorem catN_all (so rest : List Fr) : catN so rest rest.length = so ++ rest.filter fun f => decide (f.op ≥ 0) := by rw [catN, List.take_of_length_le (Nat.le_refl _)]
theorem catN_succ {so rest : List Fr} {j : Nat} (h : j < rest.length) : catN so rest (j + 1) = if (rest.getD j fr0).op ≥ 0 then catN so rest j ++ [rest.getD j fr0] else catN so rest j := by
  unfold catN
  rw [take_one h fr0, List.filter_append]
  by_cases q : (rest.getD j fr0).op ≥ 0
  · rw [if_pos q, List.filter_cons_of_pos (by simpa using q), List.append_assoc]; rfl
  · rw [if_neg q, List.filter_cons_of_neg (by simpa using q)]; simp
theorem catN_len (so rest : List Fr) (j : Nat) : (catN so rest j).length ≤ so.length + rest.length := by
  unfold catN
  have := List.length_filter_le (fun f : Fr => decide (f.op ≥ 0)) (rest.take j)
  simp only [List.length_append, List.length_take] at *
  omega

theorem once_law (room : Int) (outs : List (List Bool)) (who : List Int) (i k : Int) : PureC Try.prog 15 [iv room, bss outs, zs who, iv i, iv k] (bv true) := by
  refine pure_sub okIE 1 Try.func15 rfl (by show 5 ≤ _; decide) ?_
  cases hf : fewB outs with
  | false =>
    simp only [Try.f15, IE_all, hf, inl, bss, fs, zs, sv, fv, rf1, List.set_set, T52, T50, T51, T60, T66, hfree_fr, hfree_cf, cv', cf_eta, frz_u, shC_dec, dC, T23, T28, T25, hfree_lu, hfree_l0, row0, row1, row2, row3, row4, row5, shI_dec, shN_dec, shB_dec, shM_dec, dI, dN, dB, dM, dU, dU_map, iv, bv, u, ms, ctx_T, ctx_C, ctx_P, T4, T3, T26, Option.bind_some, Option.bind_none, Option.map_some, List.length_map, List.length_set, String.reduceBEq, Int.toNat_natCast, Bool.true_beq, Bool.false_beq, T24, shF_dec, dF, fr_eta, Int.cast_ofNat_Int, Int.reduceSub, Int.reduceAdd, Int.reduceNeg, ev1, ev2, implies_true, undef, stepP, dynCall, ↓condE_t, ↓condE_f, ↓guardE_tt, ↓guardE_ff, ↓guardE_tf, ↓guardE_ft, frzDeep, deepArgs, deepArg, resB, cv, stepB, stepE, callD, tabD, snapD, snap1, snapC, snapId, snapIds, guardB, guardC, dstAt, aopR, one, pre, binR, intOpR, shiftOpR, unR, argFrm, evo, lkp, hlk, lenOf, asLst, idOf, bndA, srcOk, ofVal, ofCells, setCells, fillA, setElems, fieldsOf, fieldsEq, scalEq, isEq, AV.wr, AV.ok1, TK.agg, frz, frzs, frzA, frzArg, frzArgs, subA, subL, sub1, kp, kh, accOf, List.replicate, Nat.reduceAdd, Nat.reduceSub, Nat.reduceMul, Nat.reduceEqDiff, Nat.reduceLT, Nat.reduceLeDiff, Nat.reduceBEq, reduceIte, reduceCtorEq, eq_self, ne_eq, Int.reduceToNat, Int.reduceLT, Int.reduceLE, Int.reduceGT, Int.reduceGE, Int.reduceBEq, Int.reduceBNe, Int.reduceEq, Int.reduceNe]
    all_goals ((repeat' apply And.intro) <;> first | rfl | omega | (show entryOk _ _ _ _ _ = true; kernel_rfl) | (show pivotOk _ _ = true; kernel_rfl) | decide)
  | true =>
    obtain ⟨hc1, hc2⟩ := fewB_short hf
    have hc3 : ShortB 1000 outs := fun x hx => Nat.le_trans (hc2 x hx) (by omega)
    by_cases h1 : who.length ≤ 500
    · have h1' : ¬ (who.length : Int) > 500 := by omega
      by_cases h2 : i < 0
      · simp only [Try.f15, IE_all, hf, h1', h2, inl, bss, fs, zs, sv, fv, rf1, List.set_set, T52, T50, T51, T60, T66, hfree_fr, hfree_cf, cv', cf_eta, frz_u, shC_dec, dC, T23, T28, T25, hfree_lu, hfree_l0, row0, row1, row2, row3, row4, row5, shI_dec, shN_dec, shB_dec, shM_dec, dI, dN, dB, dM, dU, dU_map, iv, bv, u, ms, ctx_T, ctx_C, ctx_P, T4, T3, T26, Option.bind_some, Option.bind_none, Option.map_some, List.length_map, List.length_set, String.reduceBEq, Int.toNat_natCast, Bool.true_beq, Bool.false_beq, T24, shF_dec, dF, fr_eta, Int.cast_ofNat_Int, Int.reduceSub, Int.reduceAdd, Int.reduceNeg, ev1, ev2, implies_true, undef, stepP, dynCall, ↓condE_t, ↓condE_f, ↓guardE_tt, ↓guardE_ff, ↓guardE_tf, ↓guardE_ft, frzDeep, deepArgs, deepArg, resB, cv, stepB, stepE, callD, tabD, snapD, snap1, snapC, snapId, snapIds, guardB, guardC, dstAt, aopR, one, pre, binR, intOpR, shiftOpR, unR, argFrm, evo, lkp, hlk, lenOf, asLst, idOf, bndA, srcOk, ofVal, ofCells, setCells, fillA, setElems, fieldsOf, fieldsEq, scalEq, isEq, AV.wr, AV.ok1, TK.agg, frz, frzs, frzA, frzArg, frzArgs, subA, subL, sub1, kp, kh, accOf, List.replicate, Nat.reduceAdd, Nat.reduceSub, Nat.reduceMul, Nat.reduceEqDiff, Nat.reduceLT, Nat.reduceLeDiff, Nat.reduceBEq, reduceIte, reduceCtorEq, eq_self, ne_eq, Int.reduceToNat, Int.reduceLT, Int.reduceLE, Int.reduceGT, Int.reduceGE, Int.reduceBEq, Int.reduceBNe, Int.reduceEq, Int.reduceNe]
        all_goals ((repeat' apply And.intro) <;> first | rfl | omega | (show entryOk _ _ _ _ _ = true; kernel_rfl) | (show pivotOk _ _ = true; kernel_rfl) | decide)
      · by_cases h3 : i ≥ outs.length
        · simp only [Try.f15, IE_all, hf, h1', h2, h3, inl, bss, fs, zs, sv, fv, rf1, List.set_set, T52, T50, T51, T60, T66, hfree_fr, hfree_cf, cv', cf_eta, frz_u, shC_dec, dC, T23, T28, T25, hfree_lu, hfree_l0, row0, row1, row2, row3, row4, row5, shI_dec, shN_dec, shB_dec, shM_dec, dI, dN, dB, dM, dU, dU_map, iv, bv, u, ms, ctx_T, ctx_C, ctx_P, T4, T3, T26, Option.bind_some, Option.bind_none, Option.map_some, List.length_map, List.length_set, String.reduceBEq, Int.toNat_natCast, Bool.true_beq, Bool.false_beq, T24, shF_dec, dF, fr_eta, Int.cast_ofNat_Int, Int.reduceSub, Int.reduceAdd, Int.reduceNeg, ev1, ev2, implies_true, undef, stepP, dynCall, ↓condE_t, ↓condE_f, ↓guardE_tt, ↓guardE_ff, ↓guardE_tf, ↓guardE_ft, frzDeep, deepArgs, deepArg, resB, cv, stepB, stepE, callD, tabD, snapD, snap1, snapC, snapId, snapIds, guardB, guardC, dstAt, aopR, one, pre, binR, intOpR, shiftOpR, unR, argFrm, evo, lkp, hlk, lenOf, asLst, idOf, bndA, srcOk, ofVal, ofCells, setCells, fillA, setElems, fieldsOf, fieldsEq, scalEq, isEq, AV.wr, AV.ok1, TK.agg, frz, frzs, frzA, frzArg, frzArgs, subA, subL, sub1, kp, kh, accOf, List.replicate, Nat.reduceAdd, Nat.reduceSub, Nat.reduceMul, Nat.reduceEqDiff, Nat.reduceLT, Nat.reduceLeDiff, Nat.reduceBEq, reduceIte, reduceCtorEq, eq_self, ne_eq, Int.reduceToNat, Int.reduceLT, Int.reduceLE, Int.reduceGT, Int.reduceGE, Int.reduceBEq, Int.reduceBNe, Int.reduceEq, Int.reduceNe]
          all_goals ((repeat' apply And.intro) <;> first | rfl | omega | (show entryOk _ _ _ _ _ = true; kernel_rfl) | (show pivotOk _ _ = true; kernel_rfl) | decide)
        · obtain ⟨i, rfl⟩ : ∃ n : Nat, i = n := ⟨i.toNat, by omega⟩
          by_cases h4 : k < 0
          · simp only [Try.f15, IE_all, hf, h1', h2, h3, h4, inl, bss, fs, zs, sv, fv, rf1, List.set_set, T52, T50, T51, T60, T66, hfree_fr, hfree_cf, cv', cf_eta, frz_u, shC_dec, dC, T23, T28, T25, hfree_lu, hfree_l0, row0, row1, row2, row3, row4, row5, shI_dec, shN_dec, shB_dec, shM_dec, dI, dN, dB, dM, dU, dU_map, iv, bv, u, ms, ctx_T, ctx_C, ctx_P, T4, T3, T26, Option.bind_some, Option.bind_none, Option.map_some, List.length_map, List.length_set, String.reduceBEq, Int.toNat_natCast, Bool.true_beq, Bool.false_beq, T24, shF_dec, dF, fr_eta, Int.cast_ofNat_Int, Int.reduceSub, Int.reduceAdd, Int.reduceNeg, ev1, ev2, implies_true, undef, stepP, dynCall, ↓condE_t, ↓condE_f, ↓guardE_tt, ↓guardE_ff, ↓guardE_tf, ↓guardE_ft, frzDeep, deepArgs, deepArg, resB, cv, stepB, stepE, callD, tabD, snapD, snap1, snapC, snapId, snapIds, guardB, guardC, dstAt, aopR, one, pre, binR, intOpR, shiftOpR, unR, argFrm, evo, lkp, hlk, lenOf, asLst, idOf, bndA, srcOk, ofVal, ofCells, setCells, fillA, setElems, fieldsOf, fieldsEq, scalEq, isEq, AV.wr, AV.ok1, TK.agg, frz, frzs, frzA, frzArg, frzArgs, subA, subL, sub1, kp, kh, accOf, List.replicate, Nat.reduceAdd, Nat.reduceSub, Nat.reduceMul, Nat.reduceEqDiff, Nat.reduceLT, Nat.reduceLeDiff, Nat.reduceBEq, reduceIte, reduceCtorEq, eq_self, ne_eq, Int.reduceToNat, Int.reduceLT, Int.reduceLE, Int.reduceGT, Int.reduceGE, Int.reduceBEq, Int.reduceBNe, Int.reduceEq, Int.reduceNe]
            all_goals ((repeat' apply And.intro) <;> first | rfl | omega | (show entryOk _ _ _ _ _ = true; kernel_rfl) | (show pivotOk _ _ = true; kernel_rfl) | decide)
          · obtain ⟨k, rfl⟩ : ∃ n : Nat, k = n := ⟨k.toNat, by omega⟩
            have q0 : (0 : Int) ≤ (i : Int) := by omega
            have q2 : i < outs.length := by omega
            have q3 : (i : Int) < outs.length := by omega
            have hb := getD_bs q2
            have hL := hc2.get i
            by_cases h5 : (k : Int) ≥ (outs.getD i []).length
            · simp only [Try.f15, IE_all, hf, h1', h2, h3, h4, h5, q0, q3, hb, inl, bss, bs, fs, zs, sv, fv, Int.toNat_natCast, rf1, List.set_set, T52, T50, T51, T60, T66, hfree_fr, hfree_cf, cv', cf_eta, frz_u, shC_dec, dC, T23, T28, T25, hfree_lu, hfree_l0, row0, row1, row2, row3, row4, row5, shI_dec, shN_dec, shB_dec, shM_dec, dI, dN, dB, dM, dU, dU_map, iv, bv, u, ms, ctx_T, ctx_C, ctx_P, T4, T3, T26, Option.bind_some, Option.bind_none, Option.map_some, List.length_map, List.length_set, String.reduceBEq, Int.toNat_natCast, Bool.true_beq, Bool.false_beq, T24, shF_dec, dF, fr_eta, Int.cast_ofNat_Int, Int.reduceSub, Int.reduceAdd, Int.reduceNeg, ev1, ev2, implies_true, undef, stepP, dynCall, ↓condE_t, ↓condE_f, ↓guardE_tt, ↓guardE_ff, ↓guardE_tf, ↓guardE_ft, frzDeep, deepArgs, deepArg, resB, cv, stepB, stepE, callD, tabD, snapD, snap1, snapC, snapId, snapIds, guardB, guardC, dstAt, aopR, one, pre, binR, intOpR, shiftOpR, unR, argFrm, evo, lkp, hlk, lenOf, asLst, idOf, bndA, srcOk, ofVal, ofCells, setCells, fillA, setElems, fieldsOf, fieldsEq, scalEq, isEq, AV.wr, AV.ok1, TK.agg, frz, frzs, frzA, frzArg, frzArgs, subA, subL, sub1, kp, kh, accOf, List.replicate, Nat.reduceAdd, Nat.reduceSub, Nat.reduceMul, Nat.reduceEqDiff, Nat.reduceLT, Nat.reduceLeDiff, Nat.reduceBEq, reduceIte, reduceCtorEq, eq_self, ne_eq, Int.reduceToNat, Int.reduceLT, Int.reduceLE, Int.reduceGT, Int.reduceGE, Int.reduceBEq, Int.reduceBNe, Int.reduceEq, Int.reduceNe]
              all_goals ((repeat' apply And.intro) <;> first | rfl | omega | (show entryOk _ _ _ _ _ = true; kernel_rfl) | (show pivotOk _ _ = true; kernel_rfl) | decide)
            · have g1 : (outs.length ≤ 1000 ∧ ShortB 1000 outs) = True := eq_true ⟨by omega, hc3⟩
              have g2 : ((callsP outs).length ≤ 1000 ∧ Short 1000 (callsP outs) ∧ who.length ≤ 1000) = True := eq_true ⟨by rw [len_callsP]; omega, callsP_short hc3, by omega⟩
              by_cases hm : mayC (injC room) = true
              · obtain ⟨sm, so, sh, n, rest, T, f1, f2, l1, l2, l3, l4, l5, hR, hO⟩ := play_once (outs := outs) room hc1 hc2 who h1 hm
                have e0 : ((sh.length : Int) == 0) = false := by rw [l1]; simp; intro q; rw [q] at q3; simp at q3; omega
                have k1 : sm.length ≤ 1000 := by omega
                have k2 : sh.length ≤ 1000 := by omega
                have k3 : n.length ≤ 1000 := by omega
                have k4 : so.length * 56 ≤ 140737488355328 := by omega
                simp only [Try.f15, IE_all, hf, h1', h2, h3, h4, h5, q0, q3, hb, g1, g2, f1, f2, k1, k2, k4, e0, inl, bss, bs, fss, fs, zs, sv, fv, Int.toNat_natCast, rf1, List.set_set, T52, T50, T51, T60, T66, hfree_fr, hfree_cf, cv', cf_eta, frz_u, shC_dec, dC, T23, T28, T25, hfree_lu, hfree_l0, row0, row1, row2, row3, row4, row5, shI_dec, shN_dec, shB_dec, shM_dec, dI, dN, dB, dM, dU, dU_map, iv, bv, u, ms, ctx_T, ctx_C, ctx_P, T4, T3, T26, Option.bind_some, Option.bind_none, Option.map_some, List.length_map, List.length_set, String.reduceBEq, Int.toNat_natCast, Bool.true_beq, Bool.false_beq, T24, shF_dec, dF, fr_eta, Int.cast_ofNat_Int, Int.reduceSub, Int.reduceAdd, Int.reduceNeg, ev1, ev2, implies_true, undef, stepP, dynCall, ↓condE_t, ↓condE_f, ↓guardE_tt, ↓guardE_ff, ↓guardE_tf, ↓guardE_ft, frzDeep, deepArgs, deepArg, resB, cv, stepB, stepE, callD, tabD, snapD, snap1, snapC, snapId, snapIds, guardB, guardC, dstAt, aopR, one, pre, binR, intOpR, shiftOpR, unR, argFrm, evo, lkp, hlk, lenOf, asLst, idOf, bndA, srcOk, ofVal, ofCells, setCells, fillA, setElems, fieldsOf, fieldsEq, scalEq, isEq, AV.wr, AV.ok1, TK.agg, frz, frzs, frzA, frzArg, frzArgs, subA, subL, sub1, kp, kh, accOf, List.replicate, Nat.reduceAdd, Nat.reduceSub, Nat.reduceMul, Nat.reduceEqDiff, Nat.reduceLT, Nat.reduceLeDiff, Nat.reduceBEq, reduceIte, reduceCtorEq, eq_self, ne_eq, Int.reduceToNat, Int.reduceLT, Int.reduceLE, Int.reduceGT, Int.reduceGE, Int.reduceBEq, Int.reduceBNe, Int.reduceEq, Int.reduceNe]
                clear hb
                have hi30 : k < 30 := by omega
                refine WP.loop (ι := Nat × Nat) (fun j => rest.length - j.1) (fun j => j.1 ≤ rest.length) (n := 255)
                  (fr := fun j => [(19, iv j.1), (18, .arr j.2 0 (catN so rest j.1).length), (17, fs rest), (16, ms n), (0, iv room), (1, bss outs), (3, iv i), (4, iv k)])
                  (hp := fun j => [(j.2, some ⟨false, 28, 7, (catN so rest j.1).map fv⟩)]) (N := 0) ?_ (0, 65) (Nat.zero_le _) rfl (Nat.zero_le _) ?_ ?_
                · rintro ⟨j, id⟩ nx hj hN hid
                  dsimp only at hj hid ⊢
                  have hidn : id < nx := hid id ⟨false, 28, 7, (catN so rest j).map fv⟩ (by simp only [hlk, nb_self])
                  have hA := catN_len so rest j
                  by_cases hjl : j < rest.length
                  · have hjl' : (j : Int) < rest.length := by omega
                    have hj0 : (0 : Int) ≤ j := by omega
                    have hg := getD_f hjl
                    have wj : IntKind.wrap .i64 ((j : Int) + 1) = ((j + 1 : Nat) : Int) := by rw [wrap_i (by omega) (by omega)]; omega
                    have hmem : rest.getD j fr0 ∈ rest := by
                      have : rest.getD j fr0 = rest[j] := by simp [List.getD_eq_getElem?_getD, hjl]
                      rw [this]; exact List.getElem_mem _
                    have hRf := hR _ hmem
                    have hA1 := catN_succ (so := so) hjl
                    generalize rest.getD j fr0 = f at hg hRf hA1
                    generalize catN so rest j = A at hA hA1 hid ⊢
                    refine WP.of okIE 1 (by rfl) ?_
                    by_cases hop : f.op ≥ 0
                    · have c3 : (f.res != 0) = true := by simpa using hRf hop
                      have hcap : (A.length + 1) * 56 ≤ 140737488355328 := by omega
                      rw [if_pos hop] at hA1
                      simp only [IE_all, hjl', hj0, hg, wj, hop, c3, hcap, hidn, Nat.le_refl, take_f, bss, bs, fs, zs, sv, fv, Int.toNat_natCast, rf1, List.set_set, T52, T50, T51, T60, T66, nb_self, nb_same, nb_l0, nb_r0, nb_lt, nb_gt, nb_lt0, nb_gt0, Nat.add_assoc, hfree_fr, hfree_cf, cv', cf_eta, frz_u, shC_dec, dC, T23, T28, T25, hfree_lu, hfree_l0, row0, row1, row2, row3, row4, row5, shI_dec, shN_dec, shB_dec, shM_dec, dI, dN, dB, dM, dU, dU_map, iv, bv, u, ms, ctx_T, ctx_C, ctx_P, T4, T3, T26, Option.bind_some, Option.bind_none, Option.map_some, List.length_map, List.length_set, String.reduceBEq, Int.toNat_natCast, Bool.true_beq, Bool.false_beq, T24, shF_dec, dF, fr_eta, Int.cast_ofNat_Int, Int.reduceSub, Int.reduceAdd, Int.reduceNeg, ev1, ev2, implies_true, undef, stepP, dynCall, ↓condE_t, ↓condE_f, ↓guardE_tt, ↓guardE_ff, ↓guardE_tf, ↓guardE_ft, frzDeep, deepArgs, deepArg, resB, cv, stepB, stepE, callD, tabD, snapD, snap1, snapC, snapId, snapIds, guardB, guardC, dstAt, aopR, one, pre, binR, intOpR, shiftOpR, unR, argFrm, evo, lkp, hlk, lenOf, asLst, idOf, bndA, srcOk, ofVal, ofCells, setCells, fillA, setElems, fieldsOf, fieldsEq, scalEq, isEq, AV.wr, AV.ok1, TK.agg, frz, frzs, frzA, frzArg, frzArgs, subA, subL, sub1, kp, kh, accOf, List.replicate, Nat.reduceAdd, Nat.reduceSub, Nat.reduceMul, Nat.reduceEqDiff, Nat.reduceLT, Nat.reduceLeDiff, Nat.reduceBEq, reduceIte, reduceCtorEq, eq_self, ne_eq, Int.reduceToNat, Int.reduceLT, Int.reduceLE, Int.reduceGT, Int.reduceGE, Int.reduceBEq, Int.reduceBNe, Int.reduceEq, Int.reduceNe]
                      refine ⟨(j + 1, nx + 30), by dsimp only; omega, by dsimp only; omega, ⟨rfl, by rw [hA1]; simp⟩, ?_⟩
                      simp only [nb_self]
                      rw [hA1]
                    · rw [if_neg hop] at hA1
                      simp only [IE_all, hjl', hj0, hg, wj, hop, hidn, bss, bs, fs, zs, sv, fv, Int.toNat_natCast, rf1, List.set_set, T52, T50, T51, T60, T66, nb_self, nb_same, nb_l0, nb_r0, nb_lt, nb_gt, nb_lt0, nb_gt0, Nat.add_assoc, hfree_fr, hfree_cf, cv', cf_eta, frz_u, shC_dec, dC, T23, T28, T25, hfree_lu, hfree_l0, row0, row1, row2, row3, row4, row5, shI_dec, shN_dec, shB_dec, shM_dec, dI, dN, dB, dM, dU, dU_map, iv, bv, u, ms, ctx_T, ctx_C, ctx_P, T4, T3, T26, Option.bind_some, Option.bind_none, Option.map_some, List.length_map, List.length_set, String.reduceBEq, Int.toNat_natCast, Bool.true_beq, Bool.false_beq, T24, shF_dec, dF, fr_eta, Int.cast_ofNat_Int, Int.reduceSub, Int.reduceAdd, Int.reduceNeg, ev1, ev2, implies_true, undef, stepP, dynCall, ↓condE_t, ↓condE_f, ↓guardE_tt, ↓guardE_ff, ↓guardE_tf, ↓guardE_ft, frzDeep, deepArgs, deepArg, resB, cv, stepB, stepE, callD, tabD, snapD, snap1, snapC, snapId, snapIds, guardB, guardC, dstAt, aopR, one, pre, binR, intOpR, shiftOpR, unR, argFrm, evo, lkp, hlk, lenOf, asLst, idOf, bndA, srcOk, ofVal, ofCells, setCells, fillA, setElems, fieldsOf, fieldsEq, scalEq, isEq, AV.wr, AV.ok1, TK.agg, frz, frzs, frzA, frzArg, frzArgs, subA, subL, sub1, kp, kh, accOf, List.replicate, Nat.reduceAdd, Nat.reduceSub, Nat.reduceMul, Nat.reduceEqDiff, Nat.reduceLT, Nat.reduceLeDiff, Nat.reduceBEq, reduceIte, reduceCtorEq, eq_self, ne_eq, Int.reduceToNat, Int.reduceLT, Int.reduceLE, Int.reduceGT, Int.reduceGE, Int.reduceBEq, Int.reduceBNe, Int.reduceEq, Int.reduceNe]
                      refine ⟨(j + 1, id), by dsimp only; omega, by dsimp only; omega, ⟨rfl, by rw [hA1]⟩, ?_⟩
                      simp only [nb_self]
                      rw [hA1]
                  · have hjl' : ¬ (j : Int) < rest.length := by omega
                    have hje : j = rest.length := by omega
                    rw [hje, catN_all] at hA hid ⊢
                    generalize (so ++ rest.filter fun f => decide (f.op ≥ 0)) = A at hA hid hO ⊢
                    obtain ⟨o1, o2, o3, o4, o5, o6⟩ := hO
                    have wi : IntKind.wrap .i64 ((i : Int) + 1) = ((i + 1 : Nat) : Int) := by rw [wrap_i (by omega) (by omega)]; omega
                    have w100 : IntKind.wrap .i64 (100 * ((i + 1 : Nat) : Int)) = ((100 * (i + 1) : Nat) : Int) := by rw [wrap_i (by omega) (by omega)]; omega
                    have wa : IntKind.wrap .i64 (((100 * (i + 1) : Nat) : Int) + (k : Int)) = ((100 * (i + 1) + k : Nat) : Int) := by rw [wrap_i (by omega) (by omega)]; omega
                    have wu : IntKind.wrap .u64 ((100 * (i + 1) + k : Nat) : Int) = ((100 * (i + 1) + k : Nat) : Int) := by rw [IntKind.wrap_u64]; omega
                    refine WP.of okIE 1 (by rfl) ?_
                    rw [← hje] at hjl' ⊢
                    simp only [IE_all, hjl', hje, Int.lt_irrefl, wi, w100, wa, wu, hidn, bss, bs, fs, zs, sv, fv, Int.toNat_natCast, rf1, List.set_set, T52, T50, T51, T60, T66, nb_self, nb_same, nb_l0, nb_r0, nb_lt, nb_gt, nb_lt0, nb_gt0, Nat.add_assoc, hfree_fr, hfree_cf, cv', cf_eta, frz_u, shC_dec, dC, T23, T28, T25, hfree_lu, hfree_l0, row0, row1, row2, row3, row4, row5, shI_dec, shN_dec, shB_dec, shM_dec, dI, dN, dB, dM, dU, dU_map, iv, bv, u, ms, ctx_T, ctx_C, ctx_P, T4, T3, T26, Option.bind_some, Option.bind_none, Option.map_some, List.length_map, List.length_set, String.reduceBEq, Int.toNat_natCast, Bool.true_beq, Bool.false_beq, T24, shF_dec, dF, fr_eta, Int.cast_ofNat_Int, Int.reduceSub, Int.reduceAdd, Int.reduceNeg, ev1, ev2, implies_true, undef, stepP, dynCall, ↓condE_t, ↓condE_f, ↓guardE_tt, ↓guardE_ff, ↓guardE_tf, ↓guardE_ft, frzDeep, deepArgs, deepArg, resB, cv, stepB, stepE, callD, tabD, snapD, snap1, snapC, snapId, snapIds, guardB, guardC, dstAt, aopR, one, pre, binR, intOpR, shiftOpR, unR, argFrm, evo, lkp, hlk, lenOf, asLst, idOf, bndA, srcOk, ofVal, ofCells, setCells, fillA, setElems, fieldsOf, fieldsEq, scalEq, isEq, AV.wr, AV.ok1, TK.agg, frz, frzs, frzA, frzArg, frzArgs, subA, subL, sub1, kp, kh, accOf, List.replicate, Nat.reduceAdd, Nat.reduceSub, Nat.reduceMul, Nat.reduceEqDiff, Nat.reduceLT, Nat.reduceLeDiff, Nat.reduceBEq, reduceIte, reduceCtorEq, eq_self, ne_eq, Int.reduceToNat, Int.reduceLT, Int.reduceLE, Int.reduceGT, Int.reduceGE, Int.reduceBEq, Int.reduceBNe, Int.reduceEq, Int.reduceNe]
                    generalize ((100 * (i + 1) + k : Nat) : Int) = v
                    refine WP.loop (ι := Nat) (fun j => A.length - j) (fun j => j ≤ A.length) (n := 255)
                      (fr := fun j => [(23, iv j), (22, iv (cntN 4 v A j : Nat)), (21, iv (cntN 3 v A j : Nat)), (20, u v), (18, .arr id 0 A.length), (16, ms n), (0, iv room), (1, bss outs)])
                      (hp := fun j => [(id, some ⟨false, 28, 7, A.map fv⟩)]) (N := 0) ?_ 0 (Nat.zero_le _) rfl (Nat.zero_le _) ⟨rfl, rfl, rfl, rfl, rfl, rfl, rfl, rfl, trivial⟩ ⟨by simp only [hlk, nb_self], trivial⟩
                    intro j2 nx2 hj2 hN2 hid2
                    have hidn2 : id < nx2 := hid2 id ⟨false, 28, 7, A.map fv⟩ (by simp only [hlk, nb_self])
                    have c3b := (cntN_eq 3 v A j2 hj2).2
                    have c4b := (cntN_eq 4 v A j2 hj2).2
                    by_cases hjl2 : j2 < A.length
                    · have hjl2' : (j2 : Int) < A.length := by omega
                      have hj0 : (0 : Int) ≤ j2 := by omega
                      have hg := getD_f hjl2
                      have wj : IntKind.wrap .i64 ((j2 : Int) + 1) = ((j2 + 1 : Nat) : Int) := by rw [wrap_i (by omega) (by omega)]; omega
                      have hmem : A.getD j2 fr0 ∈ A := by
                        have : A.getD j2 fr0 = A[j2] := by simp [List.getD_eq_getElem?_getD, hjl2]
                        rw [this]; exact List.getElem_mem _
                      have hLg := o1 _ hmem
                      have n3 : cntN 3 v A (j2 + 1) = if (A.getD j2 fr0).res = 1 ∧ (A.getD j2 fr0).op = 3 ∧ (A.getD j2 fr0).val = v then cntN 3 v A j2 + 1 else cntN 3 v A j2 := rfl
                      have n4 : cntN 4 v A (j2 + 1) = if (A.getD j2 fr0).res = 1 ∧ (A.getD j2 fr0).op = 4 ∧ (A.getD j2 fr0).val = v then cntN 4 v A j2 + 1 else cntN 4 v A j2 := rfl
                      have w3 : IntKind.wrap .i64 ((cntN 3 v A j2 : Nat) + 1 : Int) = ((cntN 3 v A j2 + 1 : Nat) : Int) := by rw [wrap_i (by omega) (by omega)]; omega
                      have w4 : IntKind.wrap .i64 ((cntN 4 v A j2 : Nat) + 1 : Int) = ((cntN 4 v A j2 + 1 : Nat) : Int) := by rw [wrap_i (by omega) (by omega)]; omega
                      generalize A.getD j2 fr0 = f at hg hLg n3 n4
                      refine WP.of okIE 1 (by rfl) ?_
                      by_cases hres : f.res = 1
                      · have hres' : (f.res != 1) = false := by simp [hres]
                        obtain ⟨p, q, z1, z2, z3, z4⟩ := hLg hres
                        have hq30 : q < 30 := by have := hc2.get p; omega
                        have r1 : f.val.tmod 10000 = f.val := by rw [z4, Int.tmod_eq_of_lt (by omega) (by omega)]
                        have r2 : IntKind.wrap .i64 f.val = f.val := wrap_i (by omega) (by omega)
                        have r3 : f.val.tdiv 100 = ((p + 1 : Nat) : Int) := by rw [z4, Int.tdiv_eq_ediv_of_nonneg (by omega)]; omega
                        have r4 : IntKind.wrap .i64 ((p + 1 : Nat) : Int) = ((p + 1 : Nat) : Int) := wrap_i (by omega) (by omega)
                        have r5 : IntKind.wrap .i64 (((p + 1 : Nat) : Int) - 1) = (p : Int) := by rw [wrap_i (by omega) (by omega)]; omega
                        have r6 : f.val.tmod 100 = (q : Int) := by rw [z4, Int.tmod_eq_emod_of_nonneg (by omega)]; omega
                        have r7 : IntKind.wrap .i64 (q : Int) = (q : Int) := wrap_i (by omega) (by omega)
                        have r8 : ¬ f.val ≥ 1000 := by omega
                        have r9 : ¬ (p : Int) < 0 := by omega
                        have r10 : ¬ (p : Int) ≥ (outs.length : Int) := by omega
                        have r11 := getD_bs z1
                        have r12 : ¬ (q : Int) ≥ ((outs.getD p []).length : Int) := by omega
                        have r13 : ((outs.getD p []).map bv).getD q .top = bv false := by rw [getD_b z2, getD_lt z2 false true, z3]
                        have r14 : (0 : Int) ≤ (p : Int) := by omega
                        have r15 : (p : Int) < outs.length := by omega
                        have r16 : (0 : Int) ≤ (q : Int) := by omega
                        have r17 : (q : Int) < (outs.getD p []).length := by omega
                        generalize outs.getD p [] = L at r11 r12 r13 r17
                        by_cases hop3 : f.op = 3
                        · have a3 : (f.op == 3) = true := by simpa using hop3
                          have a4 : (f.op == 4) = false := by simp [hop3]
                          by_cases hv : f.val = v
                          · have av : (f.val == v) = true := by simpa using hv
                            simp only [IE_all, hjl2, hjl2', hj0, hg, wj, hres', a3, a4, av, w3, w4, r1, r2, r3, r4, r5, r6, r7, r8, r9, r10, r11, r12, r13, r14, r15, r16, r17, hidn2, bss, bs, fs, zs, sv, fv, Int.toNat_natCast, rf1, List.set_set, T52, T50, T51, T60, T66, nb_self, nb_same, nb_l0, nb_r0, nb_lt, nb_gt, nb_lt0, nb_gt0, Nat.add_assoc, hfree_fr, hfree_cf, cv', cf_eta, frz_u, shC_dec, dC, T23, T28, T25, hfree_lu, hfree_l0, row0, row1, row2, row3, row4, row5, shI_dec, shN_dec, shB_dec, shM_dec, dI, dN, dB, dM, dU, dU_map, iv, bv, u, ms, ctx_T, ctx_C, ctx_P, T4, T3, T26, Option.bind_some, Option.bind_none, Option.map_some, List.length_map, List.length_set, String.reduceBEq, Int.toNat_natCast, Bool.true_beq, Bool.false_beq, T24, shF_dec, dF, fr_eta, Int.cast_ofNat_Int, Int.reduceSub, Int.reduceAdd, Int.reduceNeg, ev1, ev2, implies_true, undef, stepP, dynCall, ↓condE_t, ↓condE_f, ↓guardE_tt, ↓guardE_ff, ↓guardE_tf, ↓guardE_ft, frzDeep, deepArgs, deepArg, resB, cv, stepB, stepE, callD, tabD, snapD, snap1, snapC, snapId, snapIds, guardB, guardC, dstAt, aopR, one, pre, binR, intOpR, shiftOpR, unR, argFrm, evo, lkp, hlk, lenOf, asLst, idOf, bndA, srcOk, ofVal, ofCells, setCells, fillA, setElems, fieldsOf, fieldsEq, scalEq, isEq, AV.wr, AV.ok1, TK.agg, frz, frzs, frzA, frzArg, frzArgs, subA, subL, sub1, kp, kh, accOf, List.replicate, Nat.reduceAdd, Nat.reduceSub, Nat.reduceMul, Nat.reduceEqDiff, Nat.reduceLT, Nat.reduceLeDiff, Nat.reduceBEq, reduceIte, reduceCtorEq, eq_self, ne_eq, Int.reduceToNat, Int.reduceLT, Int.reduceLE, Int.reduceGT, Int.reduceGE, Int.reduceBEq, Int.reduceBNe, Int.reduceEq, Int.reduceNe]
                            refine ⟨j2 + 1, by omega, by omega, ?_⟩
                            rw [n3, n4, if_neg (fun k => by omega), if_pos ⟨hres, hop3, hv⟩]
                            exact ⟨rfl, rfl, rfl⟩
                          · have av : (f.val == v) = false := by simpa using hv
                            simp only [IE_all, hjl2, hjl2', hj0, hg, wj, hres', a3, a4, av, w3, w4, r1, r2, r3, r4, r5, r6, r7, r8, r9, r10, r11, r12, r13, r14, r15, r16, r17, hidn2, bss, bs, fs, zs, sv, fv, Int.toNat_natCast, rf1, List.set_set, T52, T50, T51, T60, T66, nb_self, nb_same, nb_l0, nb_r0, nb_lt, nb_gt, nb_lt0, nb_gt0, Nat.add_assoc, hfree_fr, hfree_cf, cv', cf_eta, frz_u, shC_dec, dC, T23, T28, T25, hfree_lu, hfree_l0, row0, row1, row2, row3, row4, row5, shI_dec, shN_dec, shB_dec, shM_dec, dI, dN, dB, dM, dU, dU_map, iv, bv, u, ms, ctx_T, ctx_C, ctx_P, T4, T3, T26, Option.bind_some, Option.bind_none, Option.map_some, List.length_map, List.length_set, String.reduceBEq, Int.toNat_natCast, Bool.true_beq, Bool.false_beq, T24, shF_dec, dF, fr_eta, Int.cast_ofNat_Int, Int.reduceSub, Int.reduceAdd, Int.reduceNeg, ev1, ev2, implies_true, undef, stepP, dynCall, ↓condE_t, ↓condE_f, ↓guardE_tt, ↓guardE_ff, ↓guardE_tf, ↓guardE_ft, frzDeep, deepArgs, deepArg, resB, cv, stepB, stepE, callD, tabD, snapD, snap1, snapC, snapId, snapIds, guardB, guardC, dstAt, aopR, one, pre, binR, intOpR, shiftOpR, unR, argFrm, evo, lkp, hlk, lenOf, asLst, idOf, bndA, srcOk, ofVal, ofCells, setCells, fillA, setElems, fieldsOf, fieldsEq, scalEq, isEq, AV.wr, AV.ok1, TK.agg, frz, frzs, frzA, frzArg, frzArgs, subA, subL, sub1, kp, kh, accOf, List.replicate, Nat.reduceAdd, Nat.reduceSub, Nat.reduceMul, Nat.reduceEqDiff, Nat.reduceLT, Nat.reduceLeDiff, Nat.reduceBEq, reduceIte, reduceCtorEq, eq_self, ne_eq, Int.reduceToNat, Int.reduceLT, Int.reduceLE, Int.reduceGT, Int.reduceGE, Int.reduceBEq, Int.reduceBNe, Int.reduceEq, Int.reduceNe]
                            refine ⟨j2 + 1, by omega, by omega, ?_⟩
                            rw [n3, n4, if_neg (fun k => hv k.2.2), if_neg (fun k => hv k.2.2)]
                            exact ⟨rfl, rfl, rfl⟩
                        · have a3 : (f.op == 3) = false := by simpa using hop3
                          by_cases hop4 : f.op = 4
                          · have a4 : (f.op == 4) = true := by simpa using hop4
                            by_cases hv : f.val = v
                            · have av : (f.val == v) = true := by simpa using hv
                              simp only [IE_all, hjl2, hjl2', hj0, hg, wj, hres', a3, a4, av, w3, w4, r1, r2, r3, r4, r5, r6, r7, r8, r9, r10, r11, r12, r13, r14, r15, r16, r17, hidn2, bss, bs, fs, zs, sv, fv, Int.toNat_natCast, rf1, List.set_set, T52, T50, T51, T60, T66, nb_self, nb_same, nb_l0, nb_r0, nb_lt, nb_gt, nb_lt0, nb_gt0, Nat.add_assoc, hfree_fr, hfree_cf, cv', cf_eta, frz_u, shC_dec, dC, T23, T28, T25, hfree_lu, hfree_l0, row0, row1, row2, row3, row4, row5, shI_dec, shN_dec, shB_dec, shM_dec, dI, dN, dB, dM, dU, dU_map, iv, bv, u, ms, ctx_T, ctx_C, ctx_P, T4, T3, T26, Option.bind_some, Option.bind_none, Option.map_some, List.length_map, List.length_set, String.reduceBEq, Int.toNat_natCast, Bool.true_beq, Bool.false_beq, T24, shF_dec, dF, fr_eta, Int.cast_ofNat_Int, Int.reduceSub, Int.reduceAdd, Int.reduceNeg, ev1, ev2, implies_true, undef, stepP, dynCall, ↓condE_t, ↓condE_f, ↓guardE_tt, ↓guardE_ff, ↓guardE_tf, ↓guardE_ft, frzDeep, deepArgs, deepArg, resB, cv, stepB, stepE, callD, tabD, snapD, snap1, snapC, snapId, snapIds, guardB, guardC, dstAt, aopR, one, pre, binR, intOpR, shiftOpR, unR, argFrm, evo, lkp, hlk, lenOf, asLst, idOf, bndA, srcOk, ofVal, ofCells, setCells, fillA, setElems, fieldsOf, fieldsEq, scalEq, isEq, AV.wr, AV.ok1, TK.agg, frz, frzs, frzA, frzArg, frzArgs, subA, subL, sub1, kp, kh, accOf, List.replicate, Nat.reduceAdd, Nat.reduceSub, Nat.reduceMul, Nat.reduceEqDiff, Nat.reduceLT, Nat.reduceLeDiff, Nat.reduceBEq, reduceIte, reduceCtorEq, eq_self, ne_eq, Int.reduceToNat, Int.reduceLT, Int.reduceLE, Int.reduceGT, Int.reduceGE, Int.reduceBEq, Int.reduceBNe, Int.reduceEq, Int.reduceNe]
                              refine ⟨j2 + 1, by omega, by omega, ?_⟩
                              rw [n3, n4, if_pos ⟨hres, hop4, hv⟩, if_neg (fun k => hop3 k.2.1)]
                              exact ⟨rfl, rfl, rfl⟩
                            · have av : (f.val == v) = false := by simpa using hv
                              simp only [IE_all, hjl2, hjl2', hj0, hg, wj, hres', a3, a4, av, w3, w4, r1, r2, r3, r4, r5, r6, r7, r8, r9, r10, r11, r12, r13, r14, r15, r16, r17, hidn2, bss, bs, fs, zs, sv, fv, Int.toNat_natCast, rf1, List.set_set, T52, T50, T51, T60, T66, nb_self, nb_same, nb_l0, nb_r0, nb_lt, nb_gt, nb_lt0, nb_gt0, Nat.add_assoc, hfree_fr, hfree_cf, cv', cf_eta, frz_u, shC_dec, dC, T23, T28, T25, hfree_lu, hfree_l0, row0, row1, row2, row3, row4, row5, shI_dec, shN_dec, shB_dec, shM_dec, dI, dN, dB, dM, dU, dU_map, iv, bv, u, ms, ctx_T, ctx_C, ctx_P, T4, T3, T26, Option.bind_some, Option.bind_none, Option.map_some, List.length_map, List.length_set, String.reduceBEq, Int.toNat_natCast, Bool.true_beq, Bool.false_beq, T24, shF_dec, dF, fr_eta, Int.cast_ofNat_Int, Int.reduceSub, Int.reduceAdd, Int.reduceNeg, ev1, ev2, implies_true, undef, stepP, dynCall, ↓condE_t, ↓condE_f, ↓guardE_tt, ↓guardE_ff, ↓guardE_tf, ↓guardE_ft, frzDeep, deepArgs, deepArg, resB, cv, stepB, stepE, callD, tabD, snapD, snap1, snapC, snapId, snapIds, guardB, guardC, dstAt, aopR, one, pre, binR, intOpR, shiftOpR, unR, argFrm, evo, lkp, hlk, lenOf, asLst, idOf, bndA, srcOk, ofVal, ofCells, setCells, fillA, setElems, fieldsOf, fieldsEq, scalEq, isEq, AV.wr, AV.ok1, TK.agg, frz, frzs, frzA, frzArg, frzArgs, subA, subL, sub1, kp, kh, accOf, List.replicate, Nat.reduceAdd, Nat.reduceSub, Nat.reduceMul, Nat.reduceEqDiff, Nat.reduceLT, Nat.reduceLeDiff, Nat.reduceBEq, reduceIte, reduceCtorEq, eq_self, ne_eq, Int.reduceToNat, Int.reduceLT, Int.reduceLE, Int.reduceGT, Int.reduceGE, Int.reduceBEq, Int.reduceBNe, Int.reduceEq, Int.reduceNe]
                              refine ⟨j2 + 1, by omega, by omega, ?_⟩
                              rw [n3, n4, if_neg (fun k => hv k.2.2), if_neg (fun k => hv k.2.2)]
                              exact ⟨rfl, rfl, rfl⟩
                          · have a4 : (f.op == 4) = false := by simpa using hop4
                            simp only [IE_all, hjl2, hjl2', hj0, hg, wj, hres', a3, a4, w3, w4, r1, r2, r3, r4, r5, r6, r7, r8, r9, r10, r11, r12, r13, r14, r15, r16, r17, hidn2, bss, bs, fs, zs, sv, fv, Int.toNat_natCast, rf1, List.set_set, T52, T50, T51, T60, T66, nb_self, nb_same, nb_l0, nb_r0, nb_lt, nb_gt, nb_lt0, nb_gt0, Nat.add_assoc, hfree_fr, hfree_cf, cv', cf_eta, frz_u, shC_dec, dC, T23, T28, T25, hfree_lu, hfree_l0, row0, row1, row2, row3, row4, row5, shI_dec, shN_dec, shB_dec, shM_dec, dI, dN, dB, dM, dU, dU_map, iv, bv, u, ms, ctx_T, ctx_C, ctx_P, T4, T3, T26, Option.bind_some, Option.bind_none, Option.map_some, List.length_map, List.length_set, String.reduceBEq, Int.toNat_natCast, Bool.true_beq, Bool.false_beq, T24, shF_dec, dF, fr_eta, Int.cast_ofNat_Int, Int.reduceSub, Int.reduceAdd, Int.reduceNeg, ev1, ev2, implies_true, undef, stepP, dynCall, ↓condE_t, ↓condE_f, ↓guardE_tt, ↓guardE_ff, ↓guardE_tf, ↓guardE_ft, frzDeep, deepArgs, deepArg, resB, cv, stepB, stepE, callD, tabD, snapD, snap1, snapC, snapId, snapIds, guardB, guardC, dstAt, aopR, one, pre, binR, intOpR, shiftOpR, unR, argFrm, evo, lkp, hlk, lenOf, asLst, idOf, bndA, srcOk, ofVal, ofCells, setCells, fillA, setElems, fieldsOf, fieldsEq, scalEq, isEq, AV.wr, AV.ok1, TK.agg, frz, frzs, frzA, frzArg, frzArgs, subA, subL, sub1, kp, kh, accOf, List.replicate, Nat.reduceAdd, Nat.reduceSub, Nat.reduceMul, Nat.reduceEqDiff, Nat.reduceLT, Nat.reduceLeDiff, Nat.reduceBEq, reduceIte, reduceCtorEq, eq_self, ne_eq, Int.reduceToNat, Int.reduceLT, Int.reduceLE, Int.reduceGT, Int.reduceGE, Int.reduceBEq, Int.reduceBNe, Int.reduceEq, Int.reduceNe]
                            refine ⟨j2 + 1, by omega, by omega, ?_⟩
                            rw [n3, n4, if_neg (fun k => hop4 k.2.1), if_neg (fun k => hop3 k.2.1)]
                            exact ⟨rfl, rfl, rfl⟩
                      · have hres' : (f.res != 1) = true := by simpa using hres
                        simp only [IE_all, hjl2, hjl2', hj0, hg, wj, hres', hidn2, bss, bs, fs, zs, sv, fv, Int.toNat_natCast, rf1, List.set_set, T52, T50, T51, T60, T66, nb_self, nb_same, nb_l0, nb_r0, nb_lt, nb_gt, nb_lt0, nb_gt0, Nat.add_assoc, hfree_fr, hfree_cf, cv', cf_eta, frz_u, shC_dec, dC, T23, T28, T25, hfree_lu, hfree_l0, row0, row1, row2, row3, row4, row5, shI_dec, shN_dec, shB_dec, shM_dec, dI, dN, dB, dM, dU, dU_map, iv, bv, u, ms, ctx_T, ctx_C, ctx_P, T4, T3, T26, Option.bind_some, Option.bind_none, Option.map_some, List.length_map, List.length_set, String.reduceBEq, Int.toNat_natCast, Bool.true_beq, Bool.false_beq, T24, shF_dec, dF, fr_eta, Int.cast_ofNat_Int, Int.reduceSub, Int.reduceAdd, Int.reduceNeg, ev1, ev2, implies_true, undef, stepP, dynCall, ↓condE_t, ↓condE_f, ↓guardE_tt, ↓guardE_ff, ↓guardE_tf, ↓guardE_ft, frzDeep, deepArgs, deepArg, resB, cv, stepB, stepE, callD, tabD, snapD, snap1, snapC, snapId, snapIds, guardB, guardC, dstAt, aopR, one, pre, binR, intOpR, shiftOpR, unR, argFrm, evo, lkp, hlk, lenOf, asLst, idOf, bndA, srcOk, ofVal, ofCells, setCells, fillA, setElems, fieldsOf, fieldsEq, scalEq, isEq, AV.wr, AV.ok1, TK.agg, frz, frzs, frzA, frzArg, frzArgs, subA, subL, sub1, kp, kh, accOf, List.replicate, Nat.reduceAdd, Nat.reduceSub, Nat.reduceMul, Nat.reduceEqDiff, Nat.reduceLT, Nat.reduceLeDiff, Nat.reduceBEq, reduceIte, reduceCtorEq, eq_self, ne_eq, Int.reduceToNat, Int.reduceLT, Int.reduceLE, Int.reduceGT, Int.reduceGE, Int.reduceBEq, Int.reduceBNe, Int.reduceEq, Int.reduceNe]
                        refine ⟨j2 + 1, by omega, by omega, ?_⟩
                        rw [n3, n4, if_neg (fun k => hres k.1), if_neg (fun k => hres k.1)]
                        exact ⟨rfl, rfl, rfl⟩
                    · have hjl2' : ¬ (j2 : Int) < A.length := by omega
                      have hje2 : j2 = A.length := by omega
                      have o5 := o5 v
                      have o6 := o6 v
                      rw [hje2] at hjl2' ⊢
                      generalize cntN 3 v A A.length = c3 at o5 o6 ⊢
                      generalize cntN 4 v A A.length = c4 at o6 ⊢
                      have o2 : qList ⟨1, 1, room, 0⟩ n = (T, true) := o2
                      have o3 : eLen ⟨1, 1, room, 0⟩ n = T.length := o3
                      refine WP.of okIE 1 (by rfl) ?_
                      simp only [IE_all, hjl2', hidn2, o2, o3, k3, lv, bss, bs, fs, zs, sv, fv, Int.toNat_natCast, rf1, List.set_set, T52, T50, T51, T60, T66, nb_self, nb_same, nb_l0, nb_r0, nb_lt, nb_gt, nb_lt0, nb_gt0, Nat.add_assoc, hfree_fr, hfree_cf, cv', cf_eta, frz_u, shC_dec, dC, T23, T28, T25, hfree_lu, hfree_l0, row0, row1, row2, row3, row4, row5, shI_dec, shN_dec, shB_dec, shM_dec, dI, dN, dB, dM, dU, dU_map, iv, bv, u, ms, ctx_T, ctx_C, ctx_P, T4, T3, T26, Option.bind_some, Option.bind_none, Option.map_some, List.length_map, List.length_set, String.reduceBEq, Int.toNat_natCast, Bool.true_beq, Bool.false_beq, T24, shF_dec, dF, fr_eta, Int.cast_ofNat_Int, Int.reduceSub, Int.reduceAdd, Int.reduceNeg, ev1, ev2, implies_true, undef, stepP, dynCall, ↓condE_t, ↓condE_f, ↓guardE_tt, ↓guardE_ff, ↓guardE_tf, ↓guardE_ft, frzDeep, deepArgs, deepArg, resB, cv, stepB, stepE, callD, tabD, snapD, snap1, snapC, snapId, snapIds, guardB, guardC, dstAt, aopR, one, pre, binR, intOpR, shiftOpR, unR, argFrm, evo, lkp, hlk, lenOf, asLst, idOf, bndA, srcOk, ofVal, ofCells, setCells, fillA, setElems, fieldsOf, fieldsEq, scalEq, isEq, AV.wr, AV.ok1, TK.agg, frz, frzs, frzA, frzArg, frzArgs, subA, subL, sub1, kp, kh, accOf, List.replicate, Nat.reduceAdd, Nat.reduceSub, Nat.reduceMul, Nat.reduceEqDiff, Nat.reduceLT, Nat.reduceLeDiff, Nat.reduceBEq, reduceIte, reduceCtorEq, eq_self, ne_eq, Int.reduceToNat, Int.reduceLT, Int.reduceLE, Int.reduceGT, Int.reduceGE, Int.reduceBEq, Int.reduceBNe, Int.reduceEq, Int.reduceNe]
                      refine WP.loop (ι := Nat) (fun j => T.length - j) (fun j => j ≤ T.length) (n := 255)
                        (fr := fun j => [(30, iv j), (29, iv (cntI v T j : Nat)), (28, bv true), (27, ms T), (22, iv (c4 : Nat)), (21, iv (c3 : Nat)), (20, u v), (16, ms n), (0, iv room)])
                        (hp := fun j => []) (N := 0) ?_ 0 (Nat.zero_le _) rfl (Nat.zero_le _) ⟨rfl, rfl, rfl, rfl, rfl, rfl, rfl, rfl, rfl, trivial⟩ trivial
                      intro j3 nx3 hj3 hN3 hid3
                      have cib := (cntI_eq v T j3 hj3).2
                      refine WP.of okIE 1 (by rfl) ?_
                      by_cases hjl3 : j3 < T.length
                      · have hjl3' : (j3 : Int) < T.length := by omega
                        have hj0 : (0 : Int) ≤ j3 := by omega
                        have hg : (T.map u).getD j3 .top = u (T.getD j3 0) := by simp [List.getD_eq_getElem?_getD, hjl3]
                        have wj : IntKind.wrap .i64 ((j3 : Int) + 1) = ((j3 + 1 : Nat) : Int) := by rw [wrap_i (by omega) (by omega)]; omega
                        have wc : IntKind.wrap .i64 ((cntI v T j3 : Nat) + 1 : Int) = ((cntI v T j3 + 1 : Nat) : Int) := by rw [wrap_i (by omega) (by omega)]; omega
                        have nI : cntI v T (j3 + 1) = if T.getD j3 0 = v then cntI v T j3 + 1 else cntI v T j3 := rfl
                        generalize T.getD j3 0 = x at hg nI
                        by_cases hv : x = v
                        · have av : (x == v) = true := by simpa using hv
                          simp only [IE_all, hjl3', hj0, hg, wj, wc, av, bss, bs, fs, zs, sv, fv, Int.toNat_natCast, rf1, List.set_set, T52, T50, T51, T60, T66, nb_self, nb_same, nb_l0, nb_r0, nb_lt, nb_gt, nb_lt0, nb_gt0, Nat.add_assoc, hfree_fr, hfree_cf, cv', cf_eta, frz_u, shC_dec, dC, T23, T28, T25, hfree_lu, hfree_l0, row0, row1, row2, row3, row4, row5, shI_dec, shN_dec, shB_dec, shM_dec, dI, dN, dB, dM, dU, dU_map, iv, bv, u, ms, ctx_T, ctx_C, ctx_P, T4, T3, T26, Option.bind_some, Option.bind_none, Option.map_some, List.length_map, List.length_set, String.reduceBEq, Int.toNat_natCast, Bool.true_beq, Bool.false_beq, T24, shF_dec, dF, fr_eta, Int.cast_ofNat_Int, Int.reduceSub, Int.reduceAdd, Int.reduceNeg, ev1, ev2, implies_true, undef, stepP, dynCall, ↓condE_t, ↓condE_f, ↓guardE_tt, ↓guardE_ff, ↓guardE_tf, ↓guardE_ft, frzDeep, deepArgs, deepArg, resB, cv, stepB, stepE, callD, tabD, snapD, snap1, snapC, snapId, snapIds, guardB, guardC, dstAt, aopR, one, pre, binR, intOpR, shiftOpR, unR, argFrm, evo, lkp, hlk, lenOf, asLst, idOf, bndA, srcOk, ofVal, ofCells, setCells, fillA, setElems, fieldsOf, fieldsEq, scalEq, isEq, AV.wr, AV.ok1, TK.agg, frz, frzs, frzA, frzArg, frzArgs, subA, subL, sub1, kp, kh, accOf, List.replicate, Nat.reduceAdd, Nat.reduceSub, Nat.reduceMul, Nat.reduceEqDiff, Nat.reduceLT, Nat.reduceLeDiff, Nat.reduceBEq, reduceIte, reduceCtorEq, eq_self, ne_eq, Int.reduceToNat, Int.reduceLT, Int.reduceLE, Int.reduceGT, Int.reduceGE, Int.reduceBEq, Int.reduceBNe, Int.reduceEq, Int.reduceNe]
                          refine ⟨j3 + 1, by omega, by omega, ?_⟩
                          rw [nI, if_pos hv]
                          exact ⟨rfl, rfl⟩
                        · have av : (x == v) = false := by simpa using hv
                          simp only [IE_all, hjl3', hj0, hg, wj, wc, av, bss, bs, fs, zs, sv, fv, Int.toNat_natCast, rf1, List.set_set, T52, T50, T51, T60, T66, nb_self, nb_same, nb_l0, nb_r0, nb_lt, nb_gt, nb_lt0, nb_gt0, Nat.add_assoc, hfree_fr, hfree_cf, cv', cf_eta, frz_u, shC_dec, dC, T23, T28, T25, hfree_lu, hfree_l0, row0, row1, row2, row3, row4, row5, shI_dec, shN_dec, shB_dec, shM_dec, dI, dN, dB, dM, dU, dU_map, iv, bv, u, ms, ctx_T, ctx_C, ctx_P, T4, T3, T26, Option.bind_some, Option.bind_none, Option.map_some, List.length_map, List.length_set, String.reduceBEq, Int.toNat_natCast, Bool.true_beq, Bool.false_beq, T24, shF_dec, dF, fr_eta, Int.cast_ofNat_Int, Int.reduceSub, Int.reduceAdd, Int.reduceNeg, ev1, ev2, implies_true, undef, stepP, dynCall, ↓condE_t, ↓condE_f, ↓guardE_tt, ↓guardE_ff, ↓guardE_tf, ↓guardE_ft, frzDeep, deepArgs, deepArg, resB, cv, stepB, stepE, callD, tabD, snapD, snap1, snapC, snapId, snapIds, guardB, guardC, dstAt, aopR, one, pre, binR, intOpR, shiftOpR, unR, argFrm, evo, lkp, hlk, lenOf, asLst, idOf, bndA, srcOk, ofVal, ofCells, setCells, fillA, setElems, fieldsOf, fieldsEq, scalEq, isEq, AV.wr, AV.ok1, TK.agg, frz, frzs, frzA, frzArg, frzArgs, subA, subL, sub1, kp, kh, accOf, List.replicate, Nat.reduceAdd, Nat.reduceSub, Nat.reduceMul, Nat.reduceEqDiff, Nat.reduceLT, Nat.reduceLeDiff, Nat.reduceBEq, reduceIte, reduceCtorEq, eq_self, ne_eq, Int.reduceToNat, Int.reduceLT, Int.reduceLE, Int.reduceGT, Int.reduceGE, Int.reduceBEq, Int.reduceBNe, Int.reduceEq, Int.reduceNe]
                          refine ⟨j3 + 1, by omega, by omega, ?_⟩
                          rw [nI, if_neg hv]
                          exact ⟨rfl, rfl⟩
                      · have hjl3' : ¬ (j3 : Int) < T.length := by omega
                        have hje3 : j3 = T.length := by omega
                        rw [← hje3] at o6
                        have y1 : ((c3 : Nat) : Int) ≤ 1 := by omega
                        have y2 : IntKind.wrap .i64 ((c4 : Int) + (cntI v T j3 : Nat)) = (c3 : Int) := by rw [wrap_i (by omega) (by omega)]; omega
                        simp only [IE_all, hjl3', y1, y2, o3, k3, beq_self_eq_true, bss, bs, fs, zs, sv, fv, Int.toNat_natCast, rf1, List.set_set, T52, T50, T51, T60, T66, nb_self, nb_same, nb_l0, nb_r0, nb_lt, nb_gt, nb_lt0, nb_gt0, Nat.add_assoc, hfree_fr, hfree_cf, cv', cf_eta, frz_u, shC_dec, dC, T23, T28, T25, hfree_lu, hfree_l0, row0, row1, row2, row3, row4, row5, shI_dec, shN_dec, shB_dec, shM_dec, dI, dN, dB, dM, dU, dU_map, iv, bv, u, ms, ctx_T, ctx_C, ctx_P, T4, T3, T26, Option.bind_some, Option.bind_none, Option.map_some, List.length_map, List.length_set, String.reduceBEq, Int.toNat_natCast, Bool.true_beq, Bool.false_beq, T24, shF_dec, dF, fr_eta, Int.cast_ofNat_Int, Int.reduceSub, Int.reduceAdd, Int.reduceNeg, ev1, ev2, implies_true, undef, stepP, dynCall, ↓condE_t, ↓condE_f, ↓guardE_tt, ↓guardE_ff, ↓guardE_tf, ↓guardE_ft, frzDeep, deepArgs, deepArg, resB, cv, stepB, stepE, callD, tabD, snapD, snap1, snapC, snapId, snapIds, guardB, guardC, dstAt, aopR, one, pre, binR, intOpR, shiftOpR, unR, argFrm, evo, lkp, hlk, lenOf, asLst, idOf, bndA, srcOk, ofVal, ofCells, setCells, fillA, setElems, fieldsOf, fieldsEq, scalEq, isEq, AV.wr, AV.ok1, TK.agg, frz, frzs, frzA, frzArg, frzArgs, subA, subL, sub1, kp, kh, accOf, List.replicate, Nat.reduceAdd, Nat.reduceSub, Nat.reduceMul, Nat.reduceEqDiff, Nat.reduceLT, Nat.reduceLeDiff, Nat.reduceBEq, reduceIte, reduceCtorEq, eq_self, ne_eq, Int.reduceToNat, Int.reduceLT, Int.reduceLE, Int.reduceGT, Int.reduceGE, Int.reduceBEq, Int.reduceBNe, Int.reduceEq, Int.reduceNe]
                        all_goals ((repeat' apply And.intro) <;> first | rfl | omega | (show entryOk _ _ _ _ _ = true; kernel_rfl) | (show pivotOk _ _ = true; kernel_rfl) | decide)
                · refine ⟨rfl, ?_, rfl, rfl, rfl, rfl, rfl, rfl, trivial⟩
                  dsimp only
                  rw [catN_zero]
                  rfl
                · refine ⟨?_, trivial⟩
                  dsimp only
                  rw [catN_zero]
                  rfl
              · have f1 := iPlay_no (room := room) (calls := callsP outs) (who := who) (fun h => hm h.1)
                simp only [Try.f15, IE_all, hf, h1', h2, h3, h4, h5, q0, q3, hb, g1, g2, f1, inl, bss, bs, fss, fs, zs, sv, fv, Int.toNat_natCast, List.map_nil, rf1, List.set_set, T52, T50, T51, T60, T66, hfree_fr, hfree_cf, cv', cf_eta, frz_u, shC_dec, dC, T23, T28, T25, hfree_lu, hfree_l0, row0, row1, row2, row3, row4, row5, shI_dec, shN_dec, shB_dec, shM_dec, dI, dN, dB, dM, dU, dU_map, iv, bv, u, ms, ctx_T, ctx_C, ctx_P, T4, T3, T26, Option.bind_some, Option.bind_none, Option.map_some, List.length_map, List.length_set, String.reduceBEq, Int.toNat_natCast, Bool.true_beq, Bool.false_beq, T24, shF_dec, dF, fr_eta, Int.cast_ofNat_Int, Int.reduceSub, Int.reduceAdd, Int.reduceNeg, ev1, ev2, implies_true, undef, stepP, dynCall, ↓condE_t, ↓condE_f, ↓guardE_tt, ↓guardE_ff, ↓guardE_tf, ↓guardE_ft, frzDeep, deepArgs, deepArg, resB, cv, stepB, stepE, callD, tabD, snapD, snap1, snapC, snapId, snapIds, guardB, guardC, dstAt, aopR, one, pre, binR, intOpR, shiftOpR, unR, argFrm, evo, lkp, hlk, lenOf, asLst, idOf, bndA, srcOk, ofVal, ofCells, setCells, fillA, setElems, fieldsOf, fieldsEq, scalEq, isEq, AV.wr, AV.ok1, TK.agg, frz, frzs, frzA, frzArg, frzArgs, subA, subL, sub1, kp, kh, accOf, List.replicate, Nat.reduceAdd, Nat.reduceSub, Nat.reduceMul, Nat.reduceEqDiff, Nat.reduceLT, Nat.reduceLeDiff, Nat.reduceBEq, reduceIte, reduceCtorEq, eq_self, ne_eq, Int.reduceToNat, Int.reduceLT, Int.reduceLE, Int.reduceGT, Int.reduceGE, Int.reduceBEq, Int.reduceBNe, Int.reduceEq, Int.reduceNe]
                all_goals ((repeat' apply And.intro) <;> first | rfl | omega | (show entryOk _ _ _ _ _ = true; kernel_rfl) | (show pivotOk _ _ = true; kernel_rfl) | decide)
    · have h1' : (who.length : Int) > 500 := by omega
      simp only [Try.f15, IE_all, hf, h1', inl, bss, fs, zs, sv, fv, rf1, List.set_set, T52, T50, T51, T60, T66, hfree_fr, hfree_cf, cv', cf_eta, frz_u, shC_dec, dC, T23, T28, T25, hfree_lu, hfree_l0, row0, row1, row2, row3, row4, row5, shI_dec, shN_dec, shB_dec, shM_dec, dI, dN, dB, dM, dU, dU_map, iv, bv, u, ms, ctx_T, ctx_C, ctx_P, T4, T3, T26, Option.bind_some, Option.bind_none, Option.map_some, List.length_map, List.length_set, String.reduceBEq, Int.toNat_natCast, Bool.true_beq, Bool.false_beq, T24, shF_dec, dF, fr_eta, Int.cast_ofNat_Int, Int.reduceSub, Int.reduceAdd, Int.reduceNeg, ev1, ev2, implies_true, undef, stepP, dynCall, ↓condE_t, ↓condE_f, ↓guardE_tt, ↓guardE_ff, ↓guardE_tf, ↓guardE_ft, frzDeep, deepArgs, deepArg, resB, cv, stepB, stepE, callD, tabD, snapD, snap1, snapC, snapId, snapIds, guardB, guardC, dstAt, aopR, one, pre, binR, intOpR, shiftOpR, unR, argFrm, evo, lkp, hlk, lenOf, asLst, idOf, bndA, srcOk, ofVal, ofCells, setCells, fillA, setElems, fieldsOf, fieldsEq, scalEq, isEq, AV.wr, AV.ok1, TK.agg, frz, frzs, frzA, frzArg, frzArgs, subA, subL, sub1, kp, kh, accOf, List.replicate, Nat.reduceAdd, Nat.reduceSub, Nat.reduceMul, Nat.reduceEqDiff, Nat.reduceLT, Nat.reduceLeDiff, Nat.reduceBEq, reduceIte, reduceCtorEq, eq_self, ne_eq, Int.reduceToNat, Int.reduceLT, Int.reduceLE, Int.reduceGT, Int.reduceGE, Int.reduceBEq, Int.reduceBNe, Int.reduceEq, Int.reduceNe]
      all_goals ((repeat' apply And.intro) <;> first | rfl | omega | (show entryOk _ _ _ _ _ = true; kernel_rfl) | (show pivotOk _ _ = true; kernel_rfl) | decide)
end Go.Vai
