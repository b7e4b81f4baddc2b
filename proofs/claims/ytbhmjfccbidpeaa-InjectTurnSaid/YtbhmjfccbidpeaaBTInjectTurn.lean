/- What the law InjectTurn needs beyond the other texts. -/
import Derived.Test.YtbhmjfccbidpeaaBJ
import Derived.Test.YtbhmjfccbidpeaaBH
import Derived.Test.YtbhmjfccbidpeaaBC
/- One alone at the injector, call after call: as with a list. -/
namespace Go.Vai
open Go.RowKit
set_option linter.unusedVariables false
set_option linter.unusedSimpArgs false

section
variable {c : Cf} {m m1 : List Int} {f f1 x : Fr} {r : List Fr} {o : List Fr}
theorem turn_first (hx : x.op = 3 ∨ x.op = 4) (e : iStep c m ⟨x.op, 0, 0, x.val, 0, 0, 0⟩ = (m1, f1)) (h : f1.res = 0) : pTurn iStep c 1 ⟨m, [x :: r], [noneF], o⟩ 0 = ⟨m1, [r], [f1], o⟩ := by
  have hp : pHand ⟨m, [x :: r], [noneF], o⟩ 0 = (⟨x.op, 0, 0, x.val, 0, 0, 0⟩, r) := by
    simp [pHand, noneF, nextP, hx]
  rw [pTurn, if_pos ⟨by omega, by omega⟩, pRound]
  simp only [Int.toNat_zero, hp, e, h, if_true]
  rfl
theorem turn_first1 {k : Int} (hx : x.op = k) (hk : k = 3 ∨ k = 4) (e : iStep c m ⟨k, 0, 0, x.val, 0, 0, 0⟩ = (m1, f1)) (h : f1.res = 0) : pTurn iStep c 1 ⟨m, [x :: r], [noneF], o⟩ 0 = ⟨m1, [r], [f1], o⟩ := by
  subst hx; exact turn_first hk e h
theorem turn_next (hf : f.op = 3 ∨ f.op = 4) (e : iStep c m f = (m1, f1)) (h : f1.res = 0) : pTurn iStep c 1 ⟨m, [r], [f], o⟩ 0 = ⟨m1, [r], [f1], o⟩ := by
  have hp : pHand ⟨m, [r], [f], o⟩ 0 = (f, r) := by
    have : ¬ f.op = -1 := by omega
    simp [pHand, this]
  rw [pTurn, if_pos ⟨by omega, by omega⟩, pRound]
  simp only [Int.toNat_zero, hp, e, h, if_true]
  rfl
theorem turn_last (hf : f.op = 3 ∨ f.op = 4) (e : iStep c m f = (m1, f1)) (h : f1.res ≠ 0) : pTurn iStep c 1 ⟨m, [r], [f], o⟩ 0 = ⟨m1, [r], [noneF], o ++ [f1]⟩ := by
  have hp : pHand ⟨m, [r], [f], o⟩ 0 = (f, r) := by
    have : ¬ f.op = -1 := by omega
    simp [pHand, this]
  rw [pTurn, if_pos ⟨by omega, by omega⟩, pRound]
  simp only [Int.toNat_zero, hp, e, h, if_false]
  rfl
theorem turn_idle : pTurn iStep c 1 ⟨m, [[]], [noneF], o⟩ 0 = ⟨m, [[]], [noneF], o⟩ := by
  rw [pTurn, if_pos ⟨by omega, by omega⟩]; rfl
end

def turns (c : Cf) (n : Nat) (s : Pl) : Pl := (List.replicate n (0 : Int)).foldl (pTurn iStep c 1) s
theorem turns_succ (c : Cf) (n : Nat) (s : Pl) : turns c (n + 1) s = turns c n (pTurn iStep c 1 s 0) := by
  unfold turns; rw [List.replicate_succ, List.foldl_cons]
theorem turns_idle (c : Cf) (m : List Int) (o : List Fr) : ∀ n, turns c n ⟨m, [[]], [noneF], o⟩ = ⟨m, [[]], [noneF], o⟩
  | 0 => rfl
  | n + 1 => by rw [turns_succ, turn_idle]; exact turns_idle c m o n

/-- What one is like, that is over, with a list. -/
structure Good (room : Int) (l : List Int) (f : Fr) (l' : List Int) : Prop where
  len : l.length ≤ 16
  op : f.op = 3 ∨ f.op = 4
  g : ∃ g, fOnce l room ⟨f.op, 0, 0, if f.op = 3 then f.val else 0, 0, 0, 0⟩ = (l', g) ∧ g.res = f.res ∧ g.val = f.val

theorem one_turn {c : Cf} {m l : List Int} {h : Int} (q : QL c m l h) (hh : h ≤ 1000) {x : Fr} (hx : x.op = 3 ∨ x.op = 4) (r o : List Fr) :
    ∃ t m' l' h' f, t ≤ 9 ∧ (∀ n, turns c (t + n) ⟨m, [x :: r], [noneF], o⟩ = turns c n ⟨m', [r], [noneF], o ++ [f]⟩) ∧ QL c m' l' h' ∧ h' ≤ h + 1 ∧ Good c.i l f l' := by
  have hi := q.inj.ipos
  have hr := q.room
  rcases hx with hx | hx
  · have i3 : ∀ m f, f.op = 3 → iStep c m f = eStep c m f := fun m f hf => by simp [iStep, hf]
    by_cases hl : (l.length : Int) < c.i
    · obtain ⟨m3, m4, m5, e1, e2, e3, e4, e5, l3, l4, l5, q5⟩ := ql_put q hl 0 x.val
      refine ⟨5, m5, l ++ [x.val], h, ⟨3, 0, 0, x.val, 0, 0, 1⟩, by omega, fun n => ?_, q5, by omega, by omega, .inl rfl, ?_⟩
      · rw [Nat.add_comm, turns_succ, turn_first1 hx (.inl rfl) ((i3 _ _ rfl).trans e1) rfl, turns_succ, turn_next (.inl rfl) ((i3 _ _ rfl).trans e2) rfl,
          turns_succ, turn_next (.inl rfl) ((i3 _ _ rfl).trans e3) rfl, turns_succ, turn_next (.inl rfl) ((i3 _ _ rfl).trans e4) rfl,
          turns_succ, turn_last (.inl rfl) ((i3 _ _ rfl).trans e5) (by simp)]
      · refine ⟨⟨3, 0, 0, x.val, 0, 0, 1⟩, ?_, rfl, rfl⟩
        have : ¬ c.i ≤ (l.length : Int) := by omega
        simp [fOnce, this, fEnd]
    · have hf : (l.length : Int) = c.i := by omega
      obtain ⟨e1, e2⟩ := ql_full q hf 0 x.val
      refine ⟨2, m, l, h, ⟨3, 0, 0, x.val, 0, 0, 2⟩, by omega, fun n => ?_, q, by omega, by omega, .inl rfl, ?_⟩
      · rw [Nat.add_comm, turns_succ, turn_first1 hx (.inl rfl) ((i3 _ _ rfl).trans e1) rfl, turns_succ, turn_last (.inl rfl) ((i3 _ _ rfl).trans e2) (by simp)]
      · refine ⟨⟨3, 0, 0, x.val, 0, 0, 2⟩, ?_, rfl, rfl⟩
        have : c.i ≤ (l.length : Int) := by omega
        simp [fOnce, this, fEnd]
  · have i4 : ∀ m f, f.op = 4 → iStep c m f = qStep c m f := fun m f hf => by simp [iStep, hf]
    by_cases hl : l = []
    · subst hl
      obtain ⟨e1, e2⟩ := ql_empty q 0 x.val
      refine ⟨2, m, [], h, ⟨4, 0, 0, 0, 0, 0, 3⟩, by omega, fun n => ?_, q, by omega, by simp, .inr rfl, ?_⟩
      · rw [Nat.add_comm, turns_succ, turn_first1 hx (.inr rfl) ((i4 _ _ rfl).trans e1) rfl, turns_succ, turn_last (.inr rfl) ((i4 _ _ rfl).trans (e2 0)) (by simp)]
      · exact ⟨⟨4, 0, 0, 0, 0, 0, 3⟩, by simp [fOnce, fEnd], rfl, rfl⟩
    · obtain ⟨y, m3, m5, e1, e2, e3, e4, e5, l3, l5, q5⟩ := ql_take q (List.length_pos_iff.2 hl) (by omega) 0 x.val
      refine ⟨5, m5, l.drop 1, h + 1, ⟨4, 0, 0, l.getD 0 0, 0, 0, 1⟩, by omega, fun n => ?_, q5, by omega, by omega, .inr rfl, ?_⟩
      · rw [Nat.add_comm, turns_succ, turn_first1 hx (.inr rfl) ((i4 _ _ rfl).trans e1) rfl, turns_succ, turn_next (.inr rfl) ((i4 _ _ rfl).trans e2) rfl,
          turns_succ, turn_next (.inr rfl) ((i4 _ _ rfl).trans e3) rfl, turns_succ, turn_next (.inr rfl) ((i4 _ _ rfl).trans e4) rfl,
          turns_succ, turn_last (.inr rfl) ((i4 _ _ rfl).trans e5) (by simp)]
      · refine ⟨⟨4, 0, 0, l.getD 0 0, 0, 0, 1⟩, ?_, rfl, rfl⟩
        simp [fOnce, hl, fEnd]

theorem all_turns {c : Cf} : ∀ (cs : List Fr), (∀ x ∈ cs, x.op = 3 ∨ x.op = 4) → ∀ {m l : List Int} {h : Int} (o : List Fr) (n : Nat), QL c m l h → h + cs.length ≤ 1000 → 9 * cs.length ≤ n →
    ∃ m' F, ∃ Ls : Nat → List Int, turns c n ⟨m, [cs], [noneF], o⟩ = ⟨m', [[]], [noneF], o ++ F⟩ ∧ F.length = cs.length ∧ Ls 0 = l ∧ ∀ k, k < F.length → Good c.i (Ls k) (F.getD k fr0) (Ls (k + 1))
  | [], _, m, l, h, o, n, q, _, _ => ⟨m, [], fun _ => l, by rw [turns_idle, List.append_nil], rfl, rfl, fun k hk => by simp at hk⟩
  | x :: r, hx, m, l, h, o, n, q, hh, hn => by
    simp only [List.length_cons] at hh hn
    obtain ⟨t, m', l', h', f, ht, e, q', hh', hg⟩ := one_turn q (by omega) (hx x (by simp)) r o
    obtain ⟨m2, F, Ls, e2, e3, e4, e5⟩ := all_turns r (fun y hy => hx y (by simp [hy])) (o ++ [f]) (n - t) q' (by omega) (by omega)
    refine ⟨m2, f :: F, fun k => match k with | 0 => l | k + 1 => Ls k, ?_, by simp [e3], rfl, ?_⟩
    · have := e (n - t)
      rw [show t + (n - t) = n by omega] at this
      rw [this, e2, List.append_assoc]; rfl
    · intro k hk
      cases k with
      | zero => dsimp only; rw [e4]; exact hg
      | succ k => exact e5 k (by simpa using hk)

/-- What InjectTurn asks. -/
theorem play_turn (room : Int) (L : List Bool) (hL : L.length ≤ 100) (hm : mayC (injC room) = true) :
    ∃ sm so sh, ∃ Ls : Nat → List Int, iPlay room (callsP [L]) (List.replicate (9 * L.length) 0) = (sm, so, sh) ∧ sh.length = 1 ∧ so.length = L.length ∧ Ls 0 = [] ∧ ∀ k, k < so.length → Good room (Ls k) (so.getD k fr0) (Ls (k + 1)) := by
  have hc : ∀ x ∈ callsL 0 L, x.op = 3 ∨ x.op = 4 := by
    intro x hx
    simp only [callsL, List.mem_mapIdx] at hx
    obtain ⟨i, hi, rfl⟩ := hx
    unfold callOf; split <;> simp
  obtain ⟨m', F, Ls, e1, e2, e3, e4⟩ := all_turns (c := injC room) (callsL 0 L) hc [] (9 * L.length) (ql_new hm) (by rw [len_callsL]; omega) (by rw [len_callsL]; omega)
  refine ⟨m', F, [noneF], Ls, ?_, rfl, by rw [e2, len_callsL], e3, e4⟩
  unfold iPlay gPlay
  rw [if_pos ⟨hm, by simp [callsP]⟩]
  have : pAll iStep (injC room) (callsP [L]) (List.replicate (9 * L.length) 0) = ⟨m', [[]], [noneF], F⟩ := e1
  rw [this]
end Go.Vai
/- One alone, call after call, as the program says. -/
namespace Go.Vai
open Go.RowKit Go.Proofs
set_option linter.unusedSimpArgs false
set_option linter.unusedVariables false
set_option maxHeartbeats 4000000
set_option maxRecDepth 100000

def rowsIF : List Row := [
  (32, row3 shM shI shF fun l room f => some (ov (fOnce l room f)))] ++ rowsIE
theorem rowsIF_ok : ∀ p ∈ rowsIF, RowOk Try.prog p := fun p h => by
  simp only [rowsIF, List.mem_append, List.mem_cons, List.not_mem_nil, or_false, false_or, or_assoc] at h
  rcases h with rfl | h
  · exact ok_row3 (enters_of Try.func32 (by decide) rfl) fun l room f r g _ _ e => by cases e; exact once_pure l room f (shM_got g)
  · exact rowsIE_ok p h
theorem okIF : (ctx Try.prog rowsIF).ok := rows_ok rowsIF_ok
theorem IF_32 : tabC rowsIF 32 = row3 shM shI shF fun l room f => some (ov (fOnce l room f)) := rfl
theorem IF_43 : tabC rowsIF 43 = row1 shBss fun l => if l.length ≤ 1000 ∧ ShortB 1000 l then some (fss (callsP l)) else none := rfl
theorem IF_42 : tabC rowsIF 42 = row1 shBss fun l => some (bv (fewB l)) := rfl
theorem IF_33 : tabC rowsIF 33 = row0 (bv true) := rfl
theorem IF_37 : tabC rowsIF 37 = row3 shI shFss shZs fun room calls who => if calls.length ≤ 1000 ∧ Short 1000 calls ∧ who.length ≤ 1000 then some (.tup [ms (iPlay room calls who).1, fs (iPlay room calls who).2.1, fs (iPlay room calls who).2.2]) else none := rfl
theorem IF_38 : tabC rowsIF 38 = row3 shI shFss shZs fun room calls who => if calls.length ≤ 1000 ∧ Short 1000 calls ∧ who.length ≤ 1000 then some (.tup [ms (rPlay room calls who).1, fs (rPlay room calls who).2.1, fs (rPlay room calls who).2.2]) else none := rfl
theorem IF_39 : tabC rowsIF 39 = row3 shI shM shFs fun room m hand => if hand.length ≤ 1000 then some (.tup [ms (iRest room m hand).1, fs (iRest room m hand).2]) else none := rfl
theorem IF_40 : tabC rowsIF 40 = row3 shI shM shFs fun room m hand => if hand.length ≤ 1000 then some (.tup [ms (rRest room m hand).1, fs (rRest room m hand).2]) else none := rfl
theorem IF_41 : tabC rowsIF 41 = row2 shFs shFs fun a b => if a = b ∧ a.length ≤ 1000 then some (bv true) else none := rfl
theorem IF_34 : tabC rowsIF 34 = row1 shFss fun l => some (bv (fewC l)) := rfl
theorem IF_85 : tabC rowsIF 85 = row3 shI shI shN fun o w v => some (fv (fBegin o w v)) := rfl
theorem IF_84 : tabC rowsIF 84 = row1 shC fun c => some (ms (zeros (lSize c).toNat)) := rfl
theorem IF_100 : tabC rowsIF 100 = row2 shN shN fun a b => if a = 1 ∧ 0 ≤ b ∧ b ≤ 8 then some (.tup [u 0, u b]) else none := rfl
theorem IF_35 : tabC rowsIF 35 = row3 shC shM shF fun c m f => some (sv (iStep c m f)) := rfl
theorem IF_36 : tabC rowsIF 36 = row3 shC shM shF fun c m f => some (sv (riStep c m f)) := rfl
theorem IF_82 : tabC rowsIF 82 = row2 shFs shI fun l i => if l.length ≤ 1000 then some (.tup [fv (nextP i l).1, fs (nextP i l).2]) else none := rfl
theorem IF_78 : tabC rowsIF 78 = fun _ => none := rfl
theorem IF_81 : tabC rowsIF 81 = fun _ => none := rfl
theorem IF_98 : tabC rowsIF 98 = fun _ => none := rfl
theorem IF_79 : tabC rowsIF 79 = fun _ => none := rfl
theorem IF_87 : tabC rowsIF 87 = fun _ => none := rfl
theorem IF_80 : tabC rowsIF 80 = fun _ => none := rfl
theorem IF_97 : tabC rowsIF 97 = fun _ => none := rfl
theorem IF_19 : tabC rowsIF 19 = row2 shC shM fun c m => some (lv (qList c m)) := rfl
theorem IF_20 : tabC rowsIF 20 = row2 shC shM fun c m => some (lv (rqList c m)) := rfl
theorem IF_17 : tabC rowsIF 17 = row3 shC shM shF fun c m f => some (sv (qStep c m f)) := rfl
theorem IF_18 : tabC rowsIF 18 = row3 shC shM shF fun c m f => some (sv (rqStep c m f)) := rfl
theorem IF_60 : tabC rowsIF 60 = fun _ => none := rfl
theorem IF_94 : tabC rowsIF 94 = fun _ => none := rfl
theorem IF_47 : tabC rowsIF 47 = row2 shC shN fun c x => if 1 ≤ c.i ∧ c.i ≤ 16 then some (u (qFull c x)) else none := rfl
theorem IF_96 : tabC rowsIF 96 = freeRow := rfl
theorem IF_23 : tabC rowsIF 23 = row4 shC shM shF shI fun c m f op => some (bv (goesE c m f op)) := rfl
theorem IF_52 : tabC rowsIF 52 = row4 shC shM shF shI fun c m f op => some (bv (goesE c m f op)) := rfl
theorem IF_26 : tabC rowsIF 26 = row2 shC shM fun c m => some (iv (eLen c m)) := rfl
theorem IF_61 : tabC rowsIF 61 = row2 shC shM fun c m => some (iv (eLen c m)) := rfl
theorem IF_62 : tabC rowsIF 62 = fun _ => none := rfl
theorem IF_67 : tabC rowsIF 67 = fun _ => none := rfl
theorem IF_68 : tabC rowsIF 68 = fun _ => none := rfl
theorem IF_69 : tabC rowsIF 69 = fun _ => none := rfl
theorem IF_70 : tabC rowsIF 70 = fun _ => none := rfl
theorem IF_71 : tabC rowsIF 71 = fun _ => none := rfl
theorem IF_72 : tabC rowsIF 72 = fun _ => none := rfl
theorem IF_44 : tabC rowsIF 44 = row1 shM fun m => some (ms m) := rfl
theorem IF_57 : tabC rowsIF 57 = row4 shM shI shN shN fun m i v w => some (.tup [ms (mCas m i v w), bv (mCasB m i v)]) := rfl
theorem IF_45 : tabC rowsIF 45 = row2 shM shI fun m i => some (u (mLoad m i)) := rfl
theorem IF_51 : tabC rowsIF 51 = row3 shM shI shN fun m i v => some (ms (mStore m i v)) := rfl
theorem IF_49 : tabC rowsIF 49 = row4 shM shI shN shN fun m i v w => some (.tup [ms (mCas m i v w), bv (mCasB m i v)]) := rfl
theorem IF_53 : tabC rowsIF 53 = row2 shM shI fun m i => some (u (mLoad m i)) := rfl
theorem IF_21 : tabC rowsIF 21 = row2 shM shM fun a b => some (bv (decide (a = b))) := rfl
theorem IF_59 : tabC rowsIF 59 = row3 shM shI shN fun m i v => some (ms (mStore m i v)) := rfl
theorem IF_66 : tabC rowsIF 66 = row1 shC fun c => some (iv (lSize c)) := rfl
theorem IF_88 : tabC rowsIF 88 = row1 shC fun c => some (iv (lSize c)) := rfl
theorem IF_27 : tabC rowsIF 27 = row1 shC fun c => some (bv (mayC c)) := rfl
theorem IF_46 : tabC rowsIF 46 = row2 shN shN fun a b => some (iv (far a b)) := rfl
theorem IF_83 : tabC rowsIF 83 = row1 shC fun c => some (bv (mayC c)) := rfl
theorem IF_55 : tabC rowsIF 55 = row2 shN shN fun a b => some (iv (far a b)) := rfl
theorem IF_95 : tabC rowsIF 95 = row2 shC shI fun c w => if mayC c = true ∧ 0 ≤ w ∧ w ≤ 8 then some (iv (lBase c w)) else none := rfl
theorem IF_63 : tabC rowsIF 63 = fun _ => none := rfl
theorem IF_65 : tabC rowsIF 65 = fun _ => none := rfl
theorem IF_86 : tabC rowsIF 86 = row1 shF fun f => some (bv (f.res != 0)) := rfl
theorem IF_56 : tabC rowsIF 56 = row3 shF shI shN fun f r v => some (fv (fEnd f r v)) := rfl
theorem IF_22 : tabC rowsIF 22 = row2 shM shM fun a b => some (bv (decide (a = b))) := rfl
theorem IF_25 : tabC rowsIF 25 = row3 shI shI shN fun o w v => some (fv (fBegin o w v)) := rfl
theorem IF_31 : tabC rowsIF 31 = row1 shF fun f => some (bv (f.res != 0)) := rfl
theorem IF_48 : tabC rowsIF 48 = row3 shF shI shN fun f r v => some (fv (fEnd f r v)) := rfl
theorem IF_74 : tabC rowsIF 74 = fun _ => none := rfl
theorem IF_75 : tabC rowsIF 75 = fun _ => none := rfl
theorem IF_76 : tabC rowsIF 76 = fun _ => none := rfl
theorem IF_73 : tabC rowsIF 73 = fun _ => none := rfl
theorem IF_24 : tabC rowsIF 24 = row2 shC shN fun c x => some (iv (eSeq c x)) := rfl
theorem IF_50 : tabC rowsIF 50 = row2 shC shN fun c x => some (iv (eVal c x)) := rfl
theorem IF_54 : tabC rowsIF 54 = row2 shC shN fun c x => some (iv (eSeq c x)) := rfl
theorem IF_58 : tabC rowsIF 58 = row2 shC shN fun c x => some (iv (eVal c x)) := rfl
theorem IF_30 : tabC rowsIF 30 = row3 shC shM shF fun c m f => some (sv (eStep c m f)) := rfl
theorem IF_77 : tabC rowsIF 77 = row3 shC shM shF fun c m f => some (sv (eStep c m f)) := rfl
theorem IF_28 : tabC rowsIF 28 = row1 shC fun c => some (ms (zeros (lSize c).toNat)) := rfl
theorem IF_all : type_of% (And.intro IF_32 <| And.intro IF_43 <| And.intro IF_42 <| And.intro IF_33 <| And.intro IF_37 <| And.intro IF_38 <| And.intro IF_39 <| And.intro IF_40 <| And.intro IF_41 <| And.intro IF_34 <| And.intro IF_85 <| And.intro IF_84 <| And.intro IF_100 <| And.intro IF_35 <| And.intro IF_36 <| And.intro IF_82 <| And.intro IF_78 <| And.intro IF_81 <| And.intro IF_98 <| And.intro IF_79 <| And.intro IF_87 <| And.intro IF_80 <| And.intro IF_97 <| And.intro IF_19 <| And.intro IF_20 <| And.intro IF_17 <| And.intro IF_18 <| And.intro IF_60 <| And.intro IF_94 <| And.intro IF_47 <| And.intro IF_96 <| And.intro IF_23 <| And.intro IF_52 <| And.intro IF_26 <| And.intro IF_61 <| And.intro IF_62 <| And.intro IF_67 <| And.intro IF_68 <| And.intro IF_69 <| And.intro IF_70 <| And.intro IF_71 <| And.intro IF_72 <| And.intro IF_44 <| And.intro IF_57 <| And.intro IF_45 <| And.intro IF_51 <| And.intro IF_49 <| And.intro IF_53 <| And.intro IF_21 <| And.intro IF_59 <| And.intro IF_66 <| And.intro IF_88 <| And.intro IF_27 <| And.intro IF_46 <| And.intro IF_83 <| And.intro IF_55 <| And.intro IF_95 <| And.intro IF_63 <| And.intro IF_65 <| And.intro IF_86 <| And.intro IF_56 <| And.intro IF_22 <| And.intro IF_25 <| And.intro IF_31 <| And.intro IF_48 <| And.intro IF_74 <| And.intro IF_75 <| And.intro IF_76 <| And.intro IF_73 <| And.intro IF_24 <| And.intro IF_50 <| And.intro IF_54 <| And.intro IF_58 <| And.intro IF_30 <| And.intro IF_77 <| IF_28) := And.intro IF_32 <| And.intro IF_43 <| And.intro IF_42 <| And.intro IF_33 <| And.intro IF_37 <| And.intro IF_38 <| And.intro IF_39 <| And.intro IF_40 <| And.intro IF_41 <| And.intro IF_34 <| And.intro IF_85 <| And.intro IF_84 <| And.intro IF_100 <| And.intro IF_35 <| And.intro IF_36 <| And.intro IF_82 <| And.intro IF_78 <| And.intro IF_81 <| And.intro IF_98 <| And.intro IF_79 <| And.intro IF_87 <| And.intro IF_80 <| And.intro IF_97 <| And.intro IF_19 <| And.intro IF_20 <| And.intro IF_17 <| And.intro IF_18 <| And.intro IF_60 <| And.intro IF_94 <| And.intro IF_47 <| And.intro IF_96 <| And.intro IF_23 <| And.intro IF_52 <| And.intro IF_26 <| And.intro IF_61 <| And.intro IF_62 <| And.intro IF_67 <| And.intro IF_68 <| And.intro IF_69 <| And.intro IF_70 <| And.intro IF_71 <| And.intro IF_72 <| And.intro IF_44 <| And.intro IF_57 <| And.intro IF_45 <| And.intro IF_51 <| And.intro IF_49 <| And.intro IF_53 <| And.intro IF_21 <| And.intro IF_59 <| And.intro IF_66 <| And.intro IF_88 <| And.intro IF_27 <| And.intro IF_46 <| And.intro IF_83 <| And.intro IF_55 <| And.intro IF_95 <| And.intro IF_63 <| And.intro IF_65 <| And.intro IF_86 <| And.intro IF_56 <| And.intro IF_22 <| And.intro IF_25 <| And.intro IF_31 <| And.intro IF_48 <| And.intro IF_74 <| And.intro IF_75 <| And.intro IF_76 <| And.intro IF_73 <| And.intro IF_24 <| And.intro IF_50 <| And.intro IF_54 <| And.intro IF_58 <| And.intro IF_30 <| And.intro IF_77 <| IF_28

theorem snoc_0 (n : Nat) : (List.replicate n (0 : Int)).map iv ++ [.v (.int .i64 0)] = (List.replicate (n + 1) (0 : Int)).map iv := by
  rw [List.replicate_succ' (n := n), List.map_append]; rfl
theorem shBss_one (l : List Bool) : shBss.dec (.lst 1 [.lst 1 (l.map bv)]) = some [l] := shBss_dec [l]

theorem turn_law (room : Int) (outs : List Bool) : PureC Try.prog 14 [iv room, bs outs] (bv true) := by
  refine pure_sub okIF 1 Try.func14 rfl (by show 2 ≤ _; decide) ?_
  by_cases h1 : outs.length ≤ 30
  · have h1' : ¬ (outs.length : Int) > 30 := by omega
    simp only [Try.f14, IF_all, h1', inl, bss, bs, fs, zs, sv, fv, rf1, List.set_set, T52, T50, T51, T60, T66, hfree_fr, hfree_cf, cv', cf_eta, frz_u, shC_dec, dC, T23, T28, T25, hfree_lu, hfree_l0, row0, row1, row2, row3, row4, row5, shI_dec, shN_dec, shB_dec, shM_dec, dI, dN, dB, dM, dU, dU_map, iv, bv, u, ms, ctx_T, ctx_C, ctx_P, T4, T3, T26, Option.bind_some, Option.bind_none, Option.map_some, List.length_map, List.length_set, String.reduceBEq, Int.toNat_natCast, Bool.true_beq, Bool.false_beq, T24, shF_dec, dF, fr_eta, Int.cast_ofNat_Int, Int.reduceSub, Int.reduceAdd, Int.reduceNeg, ev1, ev2, implies_true, undef, stepP, dynCall, ↓condE_t, ↓condE_f, ↓guardE_tt, ↓guardE_ff, ↓guardE_tf, ↓guardE_ft, frzDeep, deepArgs, deepArg, resB, cv, stepB, stepE, callD, tabD, snapD, snap1, snapC, snapId, snapIds, guardB, guardC, dstAt, aopR, one, pre, binR, intOpR, shiftOpR, unR, argFrm, evo, lkp, hlk, lenOf, asLst, idOf, bndA, srcOk, ofVal, ofCells, setCells, fillA, setElems, fieldsOf, fieldsEq, scalEq, isEq, AV.wr, AV.ok1, TK.agg, frz, frzs, frzA, frzArg, frzArgs, subA, subL, sub1, kp, kh, accOf, List.replicate, Nat.reduceAdd, Nat.reduceSub, Nat.reduceMul, Nat.reduceEqDiff, Nat.reduceLT, Nat.reduceLeDiff, Nat.reduceBEq, reduceIte, reduceCtorEq, eq_self, ne_eq, Int.reduceToNat, Int.reduceLT, Int.reduceLE, Int.reduceGT, Int.reduceGE, Int.reduceBEq, Int.reduceBNe, Int.reduceEq, Int.reduceNe]
    refine WP.virt 6 3 1 rfl (by decide) ?_
    refine WP.loop (ι := Nat × Nat) (fun i => 9 * outs.length - i.1) (fun i => i.1 ≤ 9 * outs.length) (n := 106)
      (fr := fun i => [(7, iv i.1), (6, .arr i.2 0 i.1), (0, iv room), (1, bs outs)]) (hp := fun i => [(i.2, some ⟨false, 3, 1, (List.replicate i.1 (0 : Int)).map iv⟩)]) (N := 13) ?_ (0, 12) (Nat.zero_le _) rfl (Nat.le_refl _) ⟨rfl, rfl, rfl, rfl, trivial⟩ ⟨rfl, trivial⟩
    rintro ⟨i, id⟩ nx hi hN hid
    dsimp only at hi hid ⊢
    have hidn : id < nx := hid id ⟨false, 3, 1, (List.replicate i (0 : Int)).map iv⟩ (by simp only [hlk, nb_self])
    have w9 : IntKind.wrap .i64 (9 * (outs.length : Int)) = ((9 * outs.length : Nat) : Int) := by rw [wrap_i (by omega) (by omega)]; omega
    have hrl : (List.replicate i (0 : Int)).length = i := List.length_replicate
    have htk : List.take i ((List.replicate i (0 : Int)).map iv) = (List.replicate i (0 : Int)).map iv := List.take_of_length_le (by simp)
    refine WP.of okIF 1 (by rfl) ?_
    by_cases hil : i < 9 * outs.length
    · have hil' : (i : Int) < ((9 * outs.length : Nat) : Int) := by omega
      have wi : IntKind.wrap .i64 ((i : Int) + 1) = ((i + 1 : Nat) : Int) := by rw [wrap_i (by omega) (by omega)]; omega
      have hcap : (i + 1) * 8 ≤ 140737488355328 := by omega
      simp only [IF_all, hil', w9, wi, hrl, htk, hcap, hidn, Nat.le_refl, bs, zs, sv, fv, Int.toNat_natCast, rf1, List.set_set, T52, T50, T51, T60, T66, nb_self, nb_same, nb_l0, nb_r0, nb_lt, nb_gt, nb_lt0, nb_gt0, Nat.add_assoc, hfree_fr, hfree_cf, cv', cf_eta, frz_u, shC_dec, dC, T23, T28, T25, hfree_lu, hfree_l0, row0, row1, row2, row3, row4, row5, shI_dec, shN_dec, shB_dec, shM_dec, dI, dN, dB, dM, dU, dU_map, iv, bv, u, ms, ctx_T, ctx_C, ctx_P, T4, T3, T26, Option.bind_some, Option.bind_none, Option.map_some, List.length_map, List.length_set, String.reduceBEq, Int.toNat_natCast, Bool.true_beq, Bool.false_beq, T24, shF_dec, dF, fr_eta, Int.cast_ofNat_Int, Int.reduceSub, Int.reduceAdd, Int.reduceNeg, ev1, ev2, implies_true, undef, stepP, dynCall, ↓condE_t, ↓condE_f, ↓guardE_tt, ↓guardE_ff, ↓guardE_tf, ↓guardE_ft, frzDeep, deepArgs, deepArg, resB, cv, stepB, stepE, callD, tabD, snapD, snap1, snapC, snapId, snapIds, guardB, guardC, dstAt, aopR, one, pre, binR, intOpR, shiftOpR, unR, argFrm, evo, lkp, hlk, lenOf, asLst, idOf, bndA, srcOk, ofVal, ofCells, setCells, fillA, setElems, fieldsOf, fieldsEq, scalEq, isEq, AV.wr, AV.ok1, TK.agg, frz, frzs, frzA, frzArg, frzArgs, subA, subL, sub1, kp, kh, accOf, List.replicate, Nat.reduceAdd, Nat.reduceSub, Nat.reduceMul, Nat.reduceEqDiff, Nat.reduceLT, Nat.reduceLeDiff, Nat.reduceBEq, reduceIte, reduceCtorEq, eq_self, ne_eq, Int.reduceToNat, Int.reduceLT, Int.reduceLE, Int.reduceGT, Int.reduceGE, Int.reduceBEq, Int.reduceBNe, Int.reduceEq, Int.reduceNe]
      refine ⟨(i + 1, nx + 7), by dsimp only; omega, by dsimp only; omega, ⟨rfl, rfl⟩, ?_⟩
      simp only [nb_self]
      rw [snoc_0]
    · have hil' : ¬ (i : Int) < ((9 * outs.length : Nat) : Int) := by omega
      have hie : i = 9 * outs.length := by omega
      have g1 : ShortB 1000 [outs] = True := eq_true (fun x hx => by rw [List.mem_singleton] at hx; rw [hx]; omega)
      have g2 : Short 1000 (callsP [outs]) = True := eq_true (callsP_short (fun x hx => by rw [List.mem_singleton] at hx; rw [hx]; omega))
      have g4 : i ≤ 1000 := by omega
      have g3 : (callsP [outs]).length = 1 := by rw [len_callsP]; rfl
      by_cases hm : mayC (injC room) = true
      · obtain ⟨sm, so, sh, Ls, f1, z1, z2, z3, z4⟩ := play_turn room outs (by omega) hm
        rw [← hie] at f1
        have e1 : ((sh.length : Int) == 0) = false := by rw [z1]; rfl
        simp only [IF_all, hil', w9, g1, g2, g3, g4, f1, e1, hrl, htk, hidn, Nat.le_refl, shBss_one, bs, fss, fs, zs, sv, fv, Int.toNat_natCast, rf1, List.set_set, T52, T50, T51, T60, T66, nb_self, nb_same, nb_l0, nb_r0, nb_lt, nb_gt, nb_lt0, nb_gt0, Nat.add_assoc, hfree_fr, hfree_cf, cv', cf_eta, frz_u, shC_dec, dC, T23, T28, T25, hfree_lu, hfree_l0, row0, row1, row2, row3, row4, row5, shI_dec, shN_dec, shB_dec, shM_dec, dI, dN, dB, dM, dU, dU_map, iv, bv, u, ms, ctx_T, ctx_C, ctx_P, T4, T3, T26, Option.bind_some, Option.bind_none, Option.map_some, List.length_map, List.length_set, String.reduceBEq, Int.toNat_natCast, Bool.true_beq, Bool.false_beq, T24, shF_dec, dF, fr_eta, Int.cast_ofNat_Int, Int.reduceSub, Int.reduceAdd, Int.reduceNeg, ev1, ev2, implies_true, undef, stepP, dynCall, ↓condE_t, ↓condE_f, ↓guardE_tt, ↓guardE_ff, ↓guardE_tf, ↓guardE_ft, frzDeep, deepArgs, deepArg, resB, cv, stepB, stepE, callD, tabD, snapD, snap1, snapC, snapId, snapIds, guardB, guardC, dstAt, aopR, one, pre, binR, intOpR, shiftOpR, unR, argFrm, evo, lkp, hlk, lenOf, asLst, idOf, bndA, srcOk, ofVal, ofCells, setCells, fillA, setElems, fieldsOf, fieldsEq, scalEq, isEq, AV.wr, AV.ok1, TK.agg, frz, frzs, frzA, frzArg, frzArgs, subA, subL, sub1, kp, kh, accOf, List.replicate, Nat.reduceAdd, Nat.reduceSub, Nat.reduceMul, Nat.reduceEqDiff, Nat.reduceLT, Nat.reduceLeDiff, Nat.reduceBEq, reduceIte, reduceCtorEq, eq_self, ne_eq, Int.reduceToNat, Int.reduceLT, Int.reduceLE, Int.reduceGT, Int.reduceGE, Int.reduceBEq, Int.reduceBNe, Int.reduceEq, Int.reduceNe]
        refine WP.loop (ι := Nat) (fun k => so.length - k) (fun k => k ≤ so.length) (n := 106)
          (fr := fun k => [(12, iv k), (11, ms (Ls k)), (9, fs so), (0, iv room), (1, bs outs)]) (hp := fun k => []) (N := 0) ?_ 0 (Nat.zero_le _) rfl (Nat.zero_le _) ⟨rfl, by rw [z3]; rfl, rfl, rfl, rfl, trivial⟩ trivial
        intro k nx2 hk hN2 hid2
        refine WP.of okIF 1 (by rfl) ?_
        by_cases hkl : k < so.length
        · have hkl' : (k : Int) < so.length := by omega
          have hk0 : (0 : Int) ≤ k := by omega
          have hg := getD_f hkl
          have wk : IntKind.wrap .i64 ((k : Int) + 1) = ((k + 1 : Nat) : Int) := by rw [wrap_i (by omega) (by omega)]; omega
          obtain ⟨zl, zo, g, zg, zr, zv⟩ := z4 k hkl
          have zl' : (Ls k).length ≤ 1000 := by omega
          generalize so.getD k fr0 = f at hg zo zg zr zv
          obtain ⟨gop, gpc, gwho, gval, gx, gy, gres⟩ := g
          dsimp only at zr zv
          subst zr zv
          have e2 : (f.res != f.res) = false := by simp
          have e3 : (f.val != f.val) = false := by simp
          rcases zo with a1 | a1
          · have a1' : (f.op == 3) = true := by simpa using a1
            rw [if_pos a1] at zg
            simp only [IF_all, hkl', hk0, hg, a1', zg, zl', e2, e3, wk, fBegin, ov, Int.toNat_natCast, bs, fs, zs, sv, fv, rf1, List.set_set, T52, T50, T51, T60, T66, nb_self, nb_same, nb_l0, nb_r0, nb_lt, nb_gt, nb_lt0, nb_gt0, Nat.add_assoc, hfree_fr, hfree_cf, cv', cf_eta, frz_u, shC_dec, dC, T23, T28, T25, hfree_lu, hfree_l0, row0, row1, row2, row3, row4, row5, shI_dec, shN_dec, shB_dec, shM_dec, dI, dN, dB, dM, dU, dU_map, iv, bv, u, ms, ctx_T, ctx_C, ctx_P, T4, T3, T26, Option.bind_some, Option.bind_none, Option.map_some, List.length_map, List.length_set, String.reduceBEq, Int.toNat_natCast, Bool.true_beq, Bool.false_beq, T24, shF_dec, dF, fr_eta, Int.cast_ofNat_Int, Int.reduceSub, Int.reduceAdd, Int.reduceNeg, ev1, ev2, implies_true, undef, stepP, dynCall, ↓condE_t, ↓condE_f, ↓guardE_tt, ↓guardE_ff, ↓guardE_tf, ↓guardE_ft, frzDeep, deepArgs, deepArg, resB, cv, stepB, stepE, callD, tabD, snapD, snap1, snapC, snapId, snapIds, guardB, guardC, dstAt, aopR, one, pre, binR, intOpR, shiftOpR, unR, argFrm, evo, lkp, hlk, lenOf, asLst, idOf, bndA, srcOk, ofVal, ofCells, setCells, fillA, setElems, fieldsOf, fieldsEq, scalEq, isEq, AV.wr, AV.ok1, TK.agg, frz, frzs, frzA, frzArg, frzArgs, subA, subL, sub1, kp, kh, accOf, List.replicate, Nat.reduceAdd, Nat.reduceSub, Nat.reduceMul, Nat.reduceEqDiff, Nat.reduceLT, Nat.reduceLeDiff, Nat.reduceBEq, reduceIte, reduceCtorEq, eq_self, ne_eq, Int.reduceToNat, Int.reduceLT, Int.reduceLE, Int.reduceGT, Int.reduceGE, Int.reduceBEq, Int.reduceBNe, Int.reduceEq, Int.reduceNe]
            exact ⟨k + 1, by omega, by omega, rfl, rfl⟩
          · have a1' : (f.op == 3) = false := by simp [a1]
            rw [if_neg (by omega)] at zg
            simp only [IF_all, hkl', hk0, hg, a1', zg, zl', e2, e3, wk, fBegin, ov, Int.toNat_natCast, bs, fs, zs, sv, fv, rf1, List.set_set, T52, T50, T51, T60, T66, nb_self, nb_same, nb_l0, nb_r0, nb_lt, nb_gt, nb_lt0, nb_gt0, Nat.add_assoc, hfree_fr, hfree_cf, cv', cf_eta, frz_u, shC_dec, dC, T23, T28, T25, hfree_lu, hfree_l0, row0, row1, row2, row3, row4, row5, shI_dec, shN_dec, shB_dec, shM_dec, dI, dN, dB, dM, dU, dU_map, iv, bv, u, ms, ctx_T, ctx_C, ctx_P, T4, T3, T26, Option.bind_some, Option.bind_none, Option.map_some, List.length_map, List.length_set, String.reduceBEq, Int.toNat_natCast, Bool.true_beq, Bool.false_beq, T24, shF_dec, dF, fr_eta, Int.cast_ofNat_Int, Int.reduceSub, Int.reduceAdd, Int.reduceNeg, ev1, ev2, implies_true, undef, stepP, dynCall, ↓condE_t, ↓condE_f, ↓guardE_tt, ↓guardE_ff, ↓guardE_tf, ↓guardE_ft, frzDeep, deepArgs, deepArg, resB, cv, stepB, stepE, callD, tabD, snapD, snap1, snapC, snapId, snapIds, guardB, guardC, dstAt, aopR, one, pre, binR, intOpR, shiftOpR, unR, argFrm, evo, lkp, hlk, lenOf, asLst, idOf, bndA, srcOk, ofVal, ofCells, setCells, fillA, setElems, fieldsOf, fieldsEq, scalEq, isEq, AV.wr, AV.ok1, TK.agg, frz, frzs, frzA, frzArg, frzArgs, subA, subL, sub1, kp, kh, accOf, List.replicate, Nat.reduceAdd, Nat.reduceSub, Nat.reduceMul, Nat.reduceEqDiff, Nat.reduceLT, Nat.reduceLeDiff, Nat.reduceBEq, reduceIte, reduceCtorEq, eq_self, ne_eq, Int.reduceToNat, Int.reduceLT, Int.reduceLE, Int.reduceGT, Int.reduceGE, Int.reduceBEq, Int.reduceBNe, Int.reduceEq, Int.reduceNe]
            exact ⟨k + 1, by omega, by omega, rfl, rfl⟩
        · have hkl' : ¬ (k : Int) < so.length := by omega
          have e2 : ((so.length : Int) == outs.length) = true := by rw [z2]; simp
          simp only [IF_all, hkl', e2, Int.toNat_natCast, bs, fs, zs, sv, fv, rf1, List.set_set, T52, T50, T51, T60, T66, nb_self, nb_same, nb_l0, nb_r0, nb_lt, nb_gt, nb_lt0, nb_gt0, Nat.add_assoc, hfree_fr, hfree_cf, cv', cf_eta, frz_u, shC_dec, dC, T23, T28, T25, hfree_lu, hfree_l0, row0, row1, row2, row3, row4, row5, shI_dec, shN_dec, shB_dec, shM_dec, dI, dN, dB, dM, dU, dU_map, iv, bv, u, ms, ctx_T, ctx_C, ctx_P, T4, T3, T26, Option.bind_some, Option.bind_none, Option.map_some, List.length_map, List.length_set, String.reduceBEq, Int.toNat_natCast, Bool.true_beq, Bool.false_beq, T24, shF_dec, dF, fr_eta, Int.cast_ofNat_Int, Int.reduceSub, Int.reduceAdd, Int.reduceNeg, ev1, ev2, implies_true, undef, stepP, dynCall, ↓condE_t, ↓condE_f, ↓guardE_tt, ↓guardE_ff, ↓guardE_tf, ↓guardE_ft, frzDeep, deepArgs, deepArg, resB, cv, stepB, stepE, callD, tabD, snapD, snap1, snapC, snapId, snapIds, guardB, guardC, dstAt, aopR, one, pre, binR, intOpR, shiftOpR, unR, argFrm, evo, lkp, hlk, lenOf, asLst, idOf, bndA, srcOk, ofVal, ofCells, setCells, fillA, setElems, fieldsOf, fieldsEq, scalEq, isEq, AV.wr, AV.ok1, TK.agg, frz, frzs, frzA, frzArg, frzArgs, subA, subL, sub1, kp, kh, accOf, List.replicate, Nat.reduceAdd, Nat.reduceSub, Nat.reduceMul, Nat.reduceEqDiff, Nat.reduceLT, Nat.reduceLeDiff, Nat.reduceBEq, reduceIte, reduceCtorEq, eq_self, ne_eq, Int.reduceToNat, Int.reduceLT, Int.reduceLE, Int.reduceGT, Int.reduceGE, Int.reduceBEq, Int.reduceBNe, Int.reduceEq, Int.reduceNe]
          all_goals ((repeat' apply And.intro) <;> first | rfl | omega | (show entryOk _ _ _ _ _ = true; kernel_rfl) | (show pivotOk _ _ = true; kernel_rfl) | decide)
      · have f1 := iPlay_no (room := room) (calls := callsP [outs]) (who := List.replicate i 0) (fun h => hm h.1)
        simp only [IF_all, hil', w9, g1, g2, g3, g4, f1, hrl, htk, hidn, Nat.le_refl, shBss_one, List.map_nil, bs, fss, fs, zs, sv, fv, Int.toNat_natCast, rf1, List.set_set, T52, T50, T51, T60, T66, nb_self, nb_same, nb_l0, nb_r0, nb_lt, nb_gt, nb_lt0, nb_gt0, Nat.add_assoc, hfree_fr, hfree_cf, cv', cf_eta, frz_u, shC_dec, dC, T23, T28, T25, hfree_lu, hfree_l0, row0, row1, row2, row3, row4, row5, shI_dec, shN_dec, shB_dec, shM_dec, dI, dN, dB, dM, dU, dU_map, iv, bv, u, ms, ctx_T, ctx_C, ctx_P, T4, T3, T26, Option.bind_some, Option.bind_none, Option.map_some, List.length_map, List.length_set, String.reduceBEq, Int.toNat_natCast, Bool.true_beq, Bool.false_beq, T24, shF_dec, dF, fr_eta, Int.cast_ofNat_Int, Int.reduceSub, Int.reduceAdd, Int.reduceNeg, ev1, ev2, implies_true, undef, stepP, dynCall, ↓condE_t, ↓condE_f, ↓guardE_tt, ↓guardE_ff, ↓guardE_tf, ↓guardE_ft, frzDeep, deepArgs, deepArg, resB, cv, stepB, stepE, callD, tabD, snapD, snap1, snapC, snapId, snapIds, guardB, guardC, dstAt, aopR, one, pre, binR, intOpR, shiftOpR, unR, argFrm, evo, lkp, hlk, lenOf, asLst, idOf, bndA, srcOk, ofVal, ofCells, setCells, fillA, setElems, fieldsOf, fieldsEq, scalEq, isEq, AV.wr, AV.ok1, TK.agg, frz, frzs, frzA, frzArg, frzArgs, subA, subL, sub1, kp, kh, accOf, List.replicate, Nat.reduceAdd, Nat.reduceSub, Nat.reduceMul, Nat.reduceEqDiff, Nat.reduceLT, Nat.reduceLeDiff, Nat.reduceBEq, reduceIte, reduceCtorEq, eq_self, ne_eq, Int.reduceToNat, Int.reduceLT, Int.reduceLE, Int.reduceGT, Int.reduceGE, Int.reduceBEq, Int.reduceBNe, Int.reduceEq, Int.reduceNe]
        all_goals ((repeat' apply And.intro) <;> first | rfl | omega | (show entryOk _ _ _ _ _ = true; kernel_rfl) | (show pivotOk _ _ = true; kernel_rfl) | decide)
  · have h1' : (outs.length : Int) > 30 := by omega
    simp only [Try.f14, IF_all, h1', inl, bss, bs, fs, zs, sv, fv, rf1, List.set_set, T52, T50, T51, T60, T66, hfree_fr, hfree_cf, cv', cf_eta, frz_u, shC_dec, dC, T23, T28, T25, hfree_lu, hfree_l0, row0, row1, row2, row3, row4, row5, shI_dec, shN_dec, shB_dec, shM_dec, dI, dN, dB, dM, dU, dU_map, iv, bv, u, ms, ctx_T, ctx_C, ctx_P, T4, T3, T26, Option.bind_some, Option.bind_none, Option.map_some, List.length_map, List.length_set, String.reduceBEq, Int.toNat_natCast, Bool.true_beq, Bool.false_beq, T24, shF_dec, dF, fr_eta, Int.cast_ofNat_Int, Int.reduceSub, Int.reduceAdd, Int.reduceNeg, ev1, ev2, implies_true, undef, stepP, dynCall, ↓condE_t, ↓condE_f, ↓guardE_tt, ↓guardE_ff, ↓guardE_tf, ↓guardE_ft, frzDeep, deepArgs, deepArg, resB, cv, stepB, stepE, callD, tabD, snapD, snap1, snapC, snapId, snapIds, guardB, guardC, dstAt, aopR, one, pre, binR, intOpR, shiftOpR, unR, argFrm, evo, lkp, hlk, lenOf, asLst, idOf, bndA, srcOk, ofVal, ofCells, setCells, fillA, setElems, fieldsOf, fieldsEq, scalEq, isEq, AV.wr, AV.ok1, TK.agg, frz, frzs, frzA, frzArg, frzArgs, subA, subL, sub1, kp, kh, accOf, List.replicate, Nat.reduceAdd, Nat.reduceSub, Nat.reduceMul, Nat.reduceEqDiff, Nat.reduceLT, Nat.reduceLeDiff, Nat.reduceBEq, reduceIte, reduceCtorEq, eq_self, ne_eq, Int.reduceToNat, Int.reduceLT, Int.reduceLE, Int.reduceGT, Int.reduceGE, Int.reduceBEq, Int.reduceBNe, Int.reduceEq, Int.reduceNe]
    all_goals ((repeat' apply And.intro) <;> first | rfl | omega | (show entryOk _ _ _ _ _ = true; kernel_rfl) | (show pivotOk _ _ = true; kernel_rfl) | decide)
end Go.Vai
