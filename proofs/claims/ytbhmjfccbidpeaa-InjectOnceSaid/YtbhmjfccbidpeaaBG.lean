/- The evaluator, the plain texts and the contracts that this claim leans on, part BG: nothing of the statement is claimed here. -/
import Derived.Test.YtbhmjfccbidpeaaBF
import Derived.Test.YtbhmjfccbidpeaaBE
/- The injector with a list: what is put in, and taken out, alone; by numbers and lists. -/
namespace Go.Vai
open Go.RowKit
set_option linter.unusedVariables false
set_option linter.unusedSimpArgs false

section
variable {c : Cf} {m : List Int} {w v x y : Int}
theorem deq_1 (h : Inj c m) : qStep c m ⟨4, 0, w, v, x, y, 0⟩ = (m, ⟨4, 1, w, v, mLoad m 4, y, 0⟩) := by simp [qStep, goes_q h]
theorem deq_2 (h : Inj c m) (e : far (mLoad m (eSeq c x)) (qFull c x) = 0) : qStep c m ⟨4, 1, w, v, x, y, 0⟩ = (m, ⟨4, 2, w, v, x, mLoad m (eSeq c x), 0⟩) := by
  unfold qFull at e; simp [qStep, goes_q h, e]
theorem deq_2e (h : Inj c m) (e : far (mLoad m (eSeq c x)) (qFull c x) < 0) : qStep c m ⟨4, 1, w, v, x, y, 0⟩ = (m, ⟨4, 0, w, 0, 0, 0, 3⟩) := by
  unfold qFull at e
  have ne : ¬ far (mLoad m (eSeq c x)) (wrapU (eFree c x + 1)) = 0 := by omega
  simp [qStep, goes_q h, e, ne, fEnd]
theorem deq_3 (h : Inj c m) (e : mCasB m 4 x = true) : qStep c m ⟨4, 2, w, v, x, y, 0⟩ = (mStore m 4 (wrapU (x + 1)), ⟨4, 3, w, v, x, y, 0⟩) := by simp [qStep, goes_q h, e, cas_store e]
theorem deq_3r (h : Inj c m) (e : mCasB m 4 x = false) : qStep c m ⟨4, 2, w, v, x, y, 0⟩ = (m, ⟨4, 0, w, v, x, y, 0⟩) := by simp [qStep, goes_q h, e, cas_not e]
theorem deq_4 (h : Inj c m) : qStep c m ⟨4, 3, w, v, x, y, 0⟩ = (m, ⟨4, 4, w, mLoad m (eVal c x), x, y, 0⟩) := by simp [qStep, goes_q h]
theorem deq_5 (h : Inj c m) : qStep c m ⟨4, 4, w, v, x, y, 0⟩ = (mStore m (eSeq c x) (wrapU (qFull c x + 1)), ⟨4, 0, w, v, 0, 0, 1⟩) := by simp [qStep, goes_q h, fEnd, qFull]
theorem deq_over {f : Fr} (h : f.res ≠ 0) : qStep c m f = (m, f) := qStep_no (goesE_over h)
end

/-- An injector with a list, its head at h. -/
structure QL (c : Cf) (m : List Int) (l : List Int) (h : Int) : Prop where
  inj : Inj c m
  lo : 0 ≤ h
  hi : h ≤ 1153000000000000000
  head : mLoad m 4 = h
  tail : mLoad m 5 = h + l.length
  room : (l.length : Int) ≤ c.i
  seq : ∀ k : Nat, (k : Int) < c.i → mLoad m (6 + (h + k) % c.i) = 2 * ((h + k) / c.i) + if k < l.length then 1 else 0
  val : ∀ k : Nat, k < l.length → mLoad m (6 + c.i + (h + k) % c.i) = l.getD k 0

theorem small_free {c : Cf} (hi : 1 ≤ c.i) {x : Int} (h0 : 0 ≤ x) (h1 : x ≤ 2305843009213693952) : eFree c x = 2 * (x / c.i) := by
  unfold eFree
  rw [Int.tdiv_eq_ediv_of_nonneg h0]
  have h2 : 0 ≤ x / c.i := Int.ediv_nonneg h0 (by omega)
  have h3 : x / c.i ≤ x := Int.ediv_le_self _ h0
  rw [wrapU_eq, wrapU_eq]
  omega
theorem small_full {c : Cf} (hi : 1 ≤ c.i) {x : Int} (h0 : 0 ≤ x) (h1 : x ≤ 2305843009213693952) : qFull c x = 2 * (x / c.i) + 1 := by
  have h2 : 0 ≤ x / c.i := Int.ediv_nonneg h0 (by omega)
  have h3 : x / c.i ≤ x := Int.ediv_le_self _ h0
  unfold qFull
  rw [small_free hi h0 h1, wrapU_eq]
  omega
theorem small_far {a b : Int} (ha : 0 ≤ a) (ha' : a ≤ 4611686018427387904 + 1000) (hb : 0 ≤ b) (hb' : b ≤ 4611686018427387904 + 1000) : far a b = a - b := by
  rw [far_eq (by unfold InU; omega) (by unfold InU; omega)]; omega

/-- Of cells as the list tells. -/
theorem QL.of_list {c : Cf} {m : List Int} (hm : InM m) {l : List Int} (hq : qList c m = (l, true)) (h4 : mLoad m 4 ≤ 1152921504606846976) (h5 : mLoad m 5 ≤ 1152921504606846976) : QL c m l (mLoad m 4) := by
  unfold qList at hq
  split at hq
  · cases hq
  · rename_i hn
    split at hq
    · rename_i hall
      have u4 := load_u hm 4
      have u5 := load_u hm 5
      have z4 : 0 ≤ mLoad m 4 := u4.1
      have z5 : 0 ≤ mLoad m 5 := u5.1
      have he : mayC c = true ∧ (m.length : Int) = lSize c := by
        by_cases hh : mayC c && decide ((m.length : Int) = lSize c)
        · simpa using hh
        · exfalso; apply hn; left; simp only [eLen]; rw [if_neg hh]; decide
      have hI : Inj c m := ⟨he.1, he.2⟩
      have hi := hI.ipos
      have hl : eLen c m = mLoad m 5 - mLoad m 4 := by
        have : eLen c m = far (mLoad m 5) (mLoad m 4) := by simp [eLen, he.1, he.2]
        rw [this, small_far u5.1 (by omega) u4.1 (by omega)]
      have hw : wrapU (mLoad m 5 - mLoad m 4) = mLoad m 5 - mLoad m 4 := by rw [wrapU_eq]; omega
      have hX : ∀ k : Nat, k ≤ 16 → qX (mLoad m 4) k = mLoad m 4 + k := by
        intro k hk
        rw [qX_eq u4, wrapU_eq]; unfold InU at u4; omega
      have hH : ∀ k : Nat, qHas m k = decide ((k : Int) < mLoad m 5 - mLoad m 4) := by intro k; rw [qHas, hw]
      have hA : ∀ j : Nat, qAll c m j = true → ∀ k, k < j → qOk c m k = true := by
        intro j
        induction j with
        | zero => intro _ k hk; omega
        | succ j ih =>
          intro h k hk
          simp [qAll] at h
          by_cases e : k = j
          · subst e; exact h.2
          · exact ih h.1 k (by omega)
      have hO : ∀ j : Nat, qOut c m j = (List.range (min j (mLoad m 5 - mLoad m 4).toNat)).map (qVal c m) := by
        intro j
        induction j with
        | zero => simp [qOut]
        | succ j ih =>
          rw [qOut, hH j, ih]
          by_cases e : (j : Int) < mLoad m 5 - mLoad m 4
          · rw [if_pos (by simpa using e), show min (j + 1) (mLoad m 5 - mLoad m 4).toNat = j + 1 by omega, show min j (mLoad m 5 - mLoad m 4).toNat = j by omega, List.range_succ, List.map_append]
            rfl
          · rw [if_neg (by simpa using e), show min (j + 1) (mLoad m 5 - mLoad m 4).toNat = min j (mLoad m 5 - mLoad m 4).toNat by omega]
      have hll : l = qOut c m c.i.toNat := by cases hq; rfl
      rw [hO, show min c.i.toNat (mLoad m 5 - mLoad m 4).toNat = (mLoad m 5 - mLoad m 4).toNat by omega] at hll
      have hlen : (l.length : Int) = mLoad m 5 - mLoad m 4 := by rw [hll]; simp; omega
      refine ⟨hI, u4.1, by omega, rfl, by omega, by omega, fun k hk => ?_, fun k hk => ?_⟩
      · have := hA _ hall k (by omega)
        unfold qOk at this
        have hu : InU (mLoad m 4 + k) := by unfold InU at *; omega
        rw [hX k (by omega), hI.seq hu] at this
        have e := eq_of_beq this
        rw [e, qWant, hH k, hX k (by omega), small_full hi.1 (by omega) (by omega), ← hlen]
        by_cases q : k < l.length
        · rw [if_pos (by simpa using q), if_pos q]
        · rw [if_neg (by simpa using q), if_neg q, wrapU_eq]
          have h2 : 0 ≤ (mLoad m 4 + k) / c.i := Int.ediv_nonneg (by omega) (by omega)
          have h3 : (mLoad m 4 + k) / c.i ≤ (mLoad m 4 + k) := Int.ediv_le_self _ (by omega)
          omega
      · have hu : InU (mLoad m 4 + k) := by unfold InU at *; omega
        have hk' : k < (List.map (qVal c m) (List.range (mLoad m 5 - mLoad m 4).toNat)).length := by rw [← hll]; exact hk
        rw [hll, List.getD_eq_getElem?_getD, List.getElem?_eq_getElem hk']
        simp [qVal, hX k (by omega), hI.val hu]
    · cases hq

/-- Such cells' list. -/
theorem QL.list {c : Cf} {m : List Int} {l : List Int} {h : Int} (q : QL c m l h) : qList c m = (l, true) ∧ eLen c m = l.length := by
  have hi := q.inj.ipos
  have hlo := q.lo
  have hhi := q.hi
  have hr := q.room
  have hl : eLen c m = l.length := by
    have : eLen c m = far (mLoad m 5) (mLoad m 4) := by simp [eLen, q.inj.may, q.inj.len]
    rw [this, q.head, q.tail, small_far (by omega) (by omega) (by omega) (by omega)]; omega
  have hX : ∀ k : Nat, k ≤ 16 → qX (mLoad m 4) k = h + k := by
    intro k hk
    rw [qX_eq (by rw [q.head]; unfold InU; omega), wrapU_eq, q.head]; omega
  have hH : ∀ k : Nat, qHas m k = decide (k < l.length) := by
    intro k
    rw [qHas, q.head, q.tail, wrapU_eq]
    congr 1
    apply propext
    omega
  have hok : ∀ k : Nat, (k : Int) < c.i → qOk c m k = true := by
    intro k hk
    have hu : InU (h + k) := by unfold InU; omega
    rw [qOk, hX k (by omega), q.inj.seq hu, q.seq k hk, qWant, hH k, hX k (by omega), small_full hi.1 (by omega) (by omega)]
    by_cases e : k < l.length
    · rw [if_pos e, if_pos (by simpa using e)]; simp
    · rw [if_neg e, if_neg (by simpa using e), wrapU_eq]
      have h2 : 0 ≤ (h + k) / c.i := Int.ediv_nonneg (by omega) (by omega)
      have h3 : (h + k) / c.i ≤ (h + k) := Int.ediv_le_self _ (by omega)
      simp; omega
  have hA : ∀ j : Nat, (j : Int) ≤ c.i → qAll c m j = true := by
    intro j
    induction j with
    | zero => intro _; rfl
    | succ j ih => intro hj; rw [qAll, ih (by omega), hok j (by omega)]; rfl
  have hO : ∀ j : Nat, (j : Int) ≤ c.i → qOut c m j = l.take j := by
    intro j
    induction j with
    | zero => intro _; simp [qOut]
    | succ j ih =>
      intro hj
      rw [qOut, hH j, ih (by omega)]
      by_cases e : j < l.length
      · rw [if_pos (by simpa using e), List.take_add_one, List.getElem?_eq_getElem e, qVal, hX j (by omega), q.inj.val (by unfold InU; omega), q.val j e]
        simp [List.getD_eq_getElem?_getD, e]
      · rw [if_neg (by simpa using e), List.take_of_length_le (by omega), List.take_of_length_le (by omega)]
  refine ⟨?_, hl⟩
  rw [qList, if_neg (by omega), if_pos (hA _ (by omega)), hO _ (by omega), List.take_of_length_le (by omega)]
end Go.Vai
/- The injector with a list: a call alone, step by step. -/
namespace Go.Vai
open Go.RowKit
set_option linter.unusedVariables false
set_option linter.unusedSimpArgs false

theorem slot_inj {i h a b : Int} (hi : 1 ≤ i) (ha : 0 ≤ a) (ha' : a < i) (hb : 0 ≤ b) (hb' : b < i) (e : (h + a) % i = (h + b) % i) : a = b := by
  have e1 := Int.emod_add_ediv_mul (h + a) i
  have e2 := Int.emod_add_ediv_mul (h + b) i
  rw [e] at e1
  have e3 : a - b = ((h + a) / i - (h + b) / i) * i := by rw [Int.sub_mul]; omega
  generalize (h + a) / i - (h + b) / i = q at e3
  rcases Int.lt_trichotomy q 0 with hq | hq | hq
  · have : q * i ≤ (-1) * i := Int.mul_le_mul_of_nonneg_right (by omega) (by omega)
    omega
  · subst hq; omega
  · have : 1 * i ≤ q * i := Int.mul_le_mul_of_nonneg_right (by omega) (by omega)
    omega
theorem slot_next {i h : Int} (hi : 1 ≤ i) : (h + i) % i = h % i ∧ (h + i) / i = h / i + 1 := by
  refine ⟨by simp, ?_⟩
  have := Int.add_mul_ediv_right h 1 (show i ≠ 0 by omega)
  rw [Int.one_mul] at this
  exact this

section
variable {c : Cf} {m l : List Int} {h : Int}

theorem QL.pos (q : QL c m l h) : 1 ≤ c.i ∧ c.i ≤ 16 ∧ 0 ≤ h ∧ h ≤ 1153000000000000000 := ⟨q.inj.ipos.1, q.inj.ipos.2, q.lo, q.hi⟩
theorem QL.div (q : QL c m l h) {k : Int} (h0 : 0 ≤ k) : 0 ≤ (h + k) / c.i ∧ (h + k) / c.i ≤ h + k := by
  have := q.pos
  exact ⟨Int.ediv_nonneg (by omega) (by omega), Int.ediv_le_self _ (by omega)⟩
theorem QL.at (q : QL c m l h) {k : Nat} (hk : k ≤ 16) : eSeq c (h + k) = 6 + (h + k) % c.i ∧ eVal c (h + k) = 6 + c.i + (h + k) % c.i ∧ eFree c (h + k) = 2 * ((h + k) / c.i) ∧ qFull c (h + k) = 2 * ((h + k) / c.i) + 1 := by
  have := q.pos
  exact ⟨q.inj.seq (by unfold InU; omega), q.inj.val (by unfold InU; omega), small_free (by omega) (by omega) (by omega), small_full (by omega) (by omega) (by omega)⟩

/-- One is put in. -/
theorem ql_put (q : QL c m l h) (hr : (l.length : Int) < c.i) (w v : Int) : ∃ m3 m4 m5,
    eStep c m ⟨3, 0, w, v, 0, 0, 0⟩ = (m, ⟨3, 1, w, v, h + l.length, 0, 0⟩) ∧ eStep c m ⟨3, 1, w, v, h + l.length, 0, 0⟩ = (m, ⟨3, 2, w, v, h + l.length, eFree c (h + l.length), 0⟩) ∧
    eStep c m ⟨3, 2, w, v, h + l.length, eFree c (h + l.length), 0⟩ = (m3, ⟨3, 3, w, v, h + l.length, eFree c (h + l.length), 0⟩) ∧ eStep c m3 ⟨3, 3, w, v, h + l.length, eFree c (h + l.length), 0⟩ = (m4, ⟨3, 4, w, v, h + l.length, eFree c (h + l.length), 0⟩) ∧
    eStep c m4 ⟨3, 4, w, v, h + l.length, eFree c (h + l.length), 0⟩ = (m5, ⟨3, 0, w, v, 0, 0, 1⟩) ∧ m3.length = m.length ∧ m4.length = m.length ∧ m5.length = m.length ∧ QL c m5 (l ++ [v]) h := by
  obtain ⟨p1, p2, p3, p4⟩ := q.pos
  have hl : l.length ≤ 16 := by omega
  obtain ⟨s1, s2, s3, s4⟩ := q.at hl
  have hsz := q.inj.size
  have hd := q.div (k := (l.length : Int)) (by omega)
  have hmod := q.inj.mod (h + l.length)
  have i3 := q.inj.store 5 (wrapU (h + l.length + 1))
  have i4 := i3.store (eVal c (h + l.length)) v
  have hw : wrapU (h + l.length + 1) = h + l.length + 1 := by rw [wrapU_eq]; omega
  have hseq : mLoad m (eSeq c (h + l.length)) = eFree c (h + l.length) := by rw [s1, s3, q.seq l.length hr]; simp
  have hcas : mCasB m 5 (h + l.length) = true := by simp [mCasB, q.inj.in_tail, q.tail]
  refine ⟨_, _, _, ?_, enq_2 q.inj hseq, enq_3 q.inj hcas, enq_4 i3, enq_5 i4, len_store .., by rw [len_store, len_store], by rw [len_store, len_store, len_store], ?_⟩
  · rw [enq_1 q.inj, q.tail]
  · have i5 := i4.store (eSeq c (h + l.length)) (wrapU (eFree c (h + l.length) + 1))
    rw [s1, s2, s3] at i5
    rw [s1, s2, s3]
    have hf : wrapU (2 * ((h + l.length) / c.i) + 1) = 2 * ((h + l.length) / c.i) + 1 := by rw [wrapU_eq]; omega
    refine ⟨i5, p3, p4, ?_, ?_, by simp; omega, ?_, ?_⟩
    · rw [load_other (by omega), load_other (by omega), load_other (by omega), q.head]
    · rw [load_other (by omega), load_other (by omega), load_store q.inj.in_tail, hw]; simp; omega
    · intro k hk
      have hmk := q.inj.mod (h + k)
      by_cases e : k = l.length
      · subst e
        rw [load_store (by rw [in_store, in_store]; simp [isIn]; omega), hf]
        simp
      · have hne : (h + k) % c.i ≠ (h + l.length) % c.i := fun e' => e (by have := slot_inj p1 (by omega) hk (by omega) hr e'; omega)
        rw [load_other (by omega), load_other (by omega), load_other (by omega), q.seq k hk]
        by_cases e2 : k < l.length
        · rw [if_pos e2, if_pos (by simp; omega)]
        · rw [if_neg e2, if_neg (by simp; omega)]
    · intro k hk
      have hk' : k < l.length + 1 := by simpa using hk
      have hmk := q.inj.mod (h + k)
      by_cases e : k = l.length
      · subst e
        rw [load_other (by omega), load_store (by rw [in_store]; simp [isIn]; omega)]
        simp [List.getD_eq_getElem?_getD]
      · have hne : (h + k) % c.i ≠ (h + l.length) % c.i := fun e' => e (by have := slot_inj p1 (by omega) (show (k : Int) < c.i by omega) (by omega) hr e'; omega)
        rw [load_other (by omega), load_other (by omega), load_other (by omega), q.val k (by omega)]
        simp [List.getD_eq_getElem?_getD, List.getElem?_append, show k < l.length by omega]

/-- There is no room. -/
theorem ql_full (q : QL c m l h) (hr : (l.length : Int) = c.i) (w v : Int) :
    eStep c m ⟨3, 0, w, v, 0, 0, 0⟩ = (m, ⟨3, 1, w, v, h + l.length, 0, 0⟩) ∧ eStep c m ⟨3, 1, w, v, h + l.length, 0, 0⟩ = (m, ⟨3, 0, w, v, 0, 0, 2⟩) := by
  obtain ⟨p1, p2, p3, p4⟩ := q.pos
  have hl : l.length ≤ 16 := by omega
  obtain ⟨s1, s2, s3, s4⟩ := q.at hl
  obtain ⟨n1, n2⟩ := slot_next (h := h) p1
  have h0 := q.seq 0 (by omega)
  have hd := q.div (k := 0) (by omega)
  rw [hr, n1] at s1
  rw [hr, n2] at s3
  simp only [Int.ofNat_zero, Int.add_zero, Int.natCast_zero] at h0 hd
  rw [if_pos (by omega)] at h0
  have hne : mLoad m (eSeq c (h + l.length)) ≠ eFree c (h + l.length) := by rw [hr, s1, s3, h0]; omega
  refine ⟨by rw [enq_1 q.inj, q.tail], enq_2f q.inj ?_ hne⟩
  rw [hr, s1, s3, h0, small_far (by omega) (by omega) (by omega) (by omega)]
  omega

/-- One is taken out. -/
theorem ql_take (q : QL c m l h) (hr : 0 < l.length) (hh : h < 1153000000000000000) (w v : Int) : ∃ y m3 m5,
    qStep c m ⟨4, 0, w, v, 0, 0, 0⟩ = (m, ⟨4, 1, w, v, h, 0, 0⟩) ∧ qStep c m ⟨4, 1, w, v, h, 0, 0⟩ = (m, ⟨4, 2, w, v, h, y, 0⟩) ∧
    qStep c m ⟨4, 2, w, v, h, y, 0⟩ = (m3, ⟨4, 3, w, v, h, y, 0⟩) ∧ qStep c m3 ⟨4, 3, w, v, h, y, 0⟩ = (m3, ⟨4, 4, w, l.getD 0 0, h, y, 0⟩) ∧
    qStep c m3 ⟨4, 4, w, l.getD 0 0, h, y, 0⟩ = (m5, ⟨4, 0, w, l.getD 0 0, 0, 0, 1⟩) ∧ m3.length = m.length ∧ m5.length = m.length ∧ QL c m5 (l.drop 1) (h + 1) := by
  obtain ⟨p1, p2, p3, p4⟩ := q.pos
  obtain ⟨s1, s2, s3, s4⟩ := q.at (k := 0) (by omega)
  have hsz := q.inj.size
  have hrm := q.room
  have hd := q.div (k := 0) (by omega)
  have hmod := q.inj.mod h
  have hs0 := q.seq 0 (by omega)
  have hv0 := q.val 0 hr
  simp only [Int.ofNat_zero, Int.add_zero, Int.natCast_zero] at s1 s2 s3 s4 hd hs0 hv0
  rw [if_pos hr] at hs0
  have i3 := q.inj.store 4 (wrapU (h + 1))
  have hw : wrapU (h + 1) = h + 1 := by rw [wrapU_eq]; omega
  have hseq : far (mLoad m (eSeq c h)) (qFull c h) = 0 := by rw [s1, s4, hs0, small_far (by omega) (by omega) (by omega) (by omega)]; omega
  have hcas : mCasB m 4 h = true := by simp [mCasB, q.inj.in_head, q.head]
  have hval : mLoad (mStore m 4 (wrapU (h + 1))) (eVal c h) = l.getD 0 0 := by rw [s2, load_other (by omega), hv0]
  refine ⟨mLoad m (eSeq c h), _, _, ?_, deq_2 q.inj hseq, deq_3 q.inj hcas, ?_, deq_5 i3, len_store .., by rw [len_store, len_store], ?_⟩
  · rw [deq_1 q.inj, q.head]
  · rw [deq_4 i3, hval]
  · have i5 := i3.store (eSeq c h) (wrapU (qFull c h + 1))
    rw [s1, s4] at i5
    rw [s1, s4]
    have hf : wrapU (2 * (h / c.i) + 1 + 1) = 2 * (h / c.i) + 2 := by rw [wrapU_eq]; omega
    refine ⟨i5, by omega, by omega, ?_, ?_, by simp; omega, ?_, ?_⟩
    · rw [load_other (by omega), load_store q.inj.in_head, hw]
    · rw [load_other (by omega), load_other (by omega), q.tail]; simp; omega
    · intro k hk
      by_cases e : (k : Int) = c.i - 1
      · obtain ⟨n1, n2⟩ := slot_next (h := h) p1
        rw [show h + 1 + (k : Int) = h + c.i by omega, n1, n2, load_store (by rw [in_store]; simp [isIn]; omega), hf, if_neg (by simp; omega)]
        omega
      · have hmk := q.inj.mod (h + 1 + k)
        have hne : (h + 1 + k) % c.i ≠ h % c.i := fun e' => by
          have := slot_inj (i := c.i) (h := h) (a := 1 + k) (b := 0) p1 (by omega) (by omega) (by omega) (by omega) (by rw [Int.add_zero, ← Int.add_assoc]; exact e')
          omega
        have := q.seq (k + 1) (by omega)
        rw [show h + ((k + 1 : Nat) : Int) = h + 1 + k by omega] at this
        rw [load_other (by omega), load_other (by omega), this]
        by_cases e2 : k + 1 < l.length
        · rw [if_pos e2, if_pos (by simp; omega)]
        · rw [if_neg e2, if_neg (by simp; omega)]
    · intro k hk
      have hk' : k + 1 < l.length := by simp at hk; omega
      have hmk := q.inj.mod (h + 1 + k)
      have := q.val (k + 1) hk'
      rw [show h + ((k + 1 : Nat) : Int) = h + 1 + k by omega] at this
      rw [load_other (by omega), load_other (by omega), this]
      simp [List.getD_eq_getElem?_getD, Nat.add_comm]

/-- There is none. -/
theorem ql_empty (q : QL c m [] h) (w v : Int) :
    qStep c m ⟨4, 0, w, v, 0, 0, 0⟩ = (m, ⟨4, 1, w, v, h, 0, 0⟩) ∧ ∀ y : Int, qStep c m ⟨4, 1, w, v, h, y, 0⟩ = (m, ⟨4, 0, w, 0, 0, 0, 3⟩) := by
  obtain ⟨p1, p2, p3, p4⟩ := q.pos
  obtain ⟨s1, s2, s3, s4⟩ := q.at (k := 0) (by omega)
  have hd := q.div (k := 0) (by omega)
  have hs0 := q.seq 0 (by omega)
  simp only [Int.ofNat_zero, Int.add_zero, Int.natCast_zero] at s1 s2 s3 s4 hd hs0
  rw [if_neg (by simp)] at hs0
  refine ⟨by rw [deq_1 q.inj, q.head], fun y => deq_2e q.inj ?_⟩
  rw [s1, s4, hs0, small_far (by omega) (by omega) (by omega) (by omega)]
  omega
end

/-- A new injector has a list of none. -/
theorem ql_new {c : Cf} (h : mayC c = true) : QL c (zeros (lSize c).toNat) [] 0 := by
  have f := fresh_new h
  have hi := f.inj.ipos
  refine ⟨f.inj, Int.le_refl _, by omega, f.head, by rw [f.tail]; rfl, by simp; omega, fun k hk => ?_, fun k hk => by simp at hk⟩
  rw [zeros_load, Int.zero_add, Int.ediv_eq_zero_of_lt (by omega) hk]
  simp
end Go.Vai
/- A call at the injector, alone, up to nine steps. -/
namespace Go.Vai
open Go.RowKit
set_option linter.unusedVariables false
set_option linter.unusedSimpArgs false

def eqStep (c : Cf) (m : List Int) (f : Fr) : List Int × Fr := if f.op = 3 then eStep c m f else qStep c m f
def oneN (c : Cf) (x : List Int × Fr) : Nat → List Int × Fr
  | 0 => x
  | k + 1 => eqStep c (oneN c x k).1 (oneN c x k).2
def oneC (c : Cf) (m : List Int) (f : Fr) : List Int × Fr := oneN c (m, f) 9

theorem len_eqStep (c : Cf) (m : List Int) (f : Fr) : (eqStep c m f).1.length = m.length := by
  unfold eqStep; split
  · exact len_eStep ..
  · exact len_qStep ..
theorem len_oneN (c : Cf) (x : List Int × Fr) : ∀ k, (oneN c x k).1.length = x.1.length
  | 0 => rfl
  | k + 1 => by rw [oneN, len_eqStep, len_oneN c x k]
theorem eqStep_over {c : Cf} {m : List Int} {f : Fr} (h : f.res ≠ 0) : eqStep c m f = (m, f) := by
  unfold eqStep; split
  · exact enq_over h
  · exact deq_over h
theorem oneN_add (c : Cf) (x : List Int × Fr) (k : Nat) : ∀ j, oneN c x (k + j) = oneN c (oneN c x k) j
  | 0 => rfl
  | j + 1 => by rw [show k + (j + 1) = k + j + 1 by omega, oneN, oneN, oneN_add c x k j]
theorem oneN_over {c : Cf} {x : List Int × Fr} (h : x.2.res ≠ 0) : ∀ k, oneN c x k = x
  | 0 => rfl
  | k + 1 => by rw [oneN, oneN_over h k, eqStep_over h]
theorem oneC_at {c : Cf} {m : List Int} {f : Fr} {k : Nat} (hk : k ≤ 9) {y : List Int × Fr} (h : oneN c (m, f) k = y) (hy : y.2.res ≠ 0) : oneC c m f = y := by
  unfold oneC
  rw [show 9 = k + (9 - k) by omega, oneN_add, h, oneN_over hy]

section
variable {c : Cf} {m l : List Int} {h : Int}
/-- What is put in, alone. -/
theorem one_put (q : QL c m l h) (w v : Int) : ∃ m', oneC c m ⟨3, 0, w, v, 0, 0, 0⟩ = (m', if (l.length : Int) < c.i then ⟨3, 0, w, v, 0, 0, 1⟩ else ⟨3, 0, w, v, 0, 0, 2⟩) ∧ m'.length = m.length ∧ QL c m' (if (l.length : Int) < c.i then l ++ [v] else l) h := by
  by_cases hr : (l.length : Int) < c.i
  · obtain ⟨m3, m4, m5, e1, e2, e3, e4, e5, l3, l4, l5, q5⟩ := ql_put q hr w v
    refine ⟨m5, ?_, l5, by rw [if_pos hr]; exact q5⟩
    rw [if_pos hr]
    exact oneC_at (k := 5) (by omega) (by simp [oneN, eqStep, e1, e2, e3, e4, e5]) (by simp)
  · have hf : (l.length : Int) = c.i := by have := q.room; omega
    obtain ⟨e1, e2⟩ := ql_full q hf w v
    refine ⟨m, ?_, rfl, by rw [if_neg hr]; exact q⟩
    rw [if_neg hr]
    exact oneC_at (k := 2) (by omega) (by simp [oneN, eqStep, e1, e2]) (by simp)
/-- What is taken out, alone. -/
theorem one_take (q : QL c m l h) (hh : h < 1153000000000000000) (w v : Int) : ∃ m', oneC c m ⟨4, 0, w, v, 0, 0, 0⟩ = (m', if l = [] then ⟨4, 0, w, 0, 0, 0, 3⟩ else ⟨4, 0, w, l.getD 0 0, 0, 0, 1⟩) ∧ m'.length = m.length ∧ QL c m' (l.drop 1) (if l = [] then h else h + 1) := by
  by_cases hr : l = []
  · subst hr
    obtain ⟨e1, e2⟩ := ql_empty q w v
    exact ⟨m, oneC_at (k := 2) (by omega) (by simp [oneN, eqStep, e1, e2]) (by simp), rfl, q⟩
  · obtain ⟨y, m3, m5, e1, e2, e3, e4, e5, l3, l5, q5⟩ := ql_take q (List.length_pos_iff.2 hr) hh w v
    refine ⟨m5, ?_, l5, by rw [if_neg hr]; exact q5⟩
    rw [if_neg hr]
    generalize l.getD 0 0 = z at *
    exact oneC_at (k := 5) (by omega) (by simp [oneN, eqStep, e1, e2, e3, e4, e5]) (by simp)
end
end Go.Vai
/- A call at the injector, alone; what the injector has, of cells of any number. -/
namespace Go.Vai
open Go.RowKit Go.Proofs
set_option linter.unusedSimpArgs false
set_option linter.unusedVariables false
set_option maxHeartbeats 4000000
set_option maxRecDepth 100000

theorem one12_pure (c : Cf) (m : List Int) (f : Fr) (hm : m.length ≤ 1000) : PureC Try.prog 29 [cv' c, ms m, fv f] (sv (oneC c m f)) := by
  refine pure_sub okDD 1 Try.func29 rfl (by show 3 ≤ _; decide) ?_
  simp only [Try.f29, inl, DD_all, hm, sv, fv, hfree_fr, hfree_cf, cv', cf_eta, frz_u, shC_dec, dC, T23, T28, T25, hfree_lu, hfree_l0, row0, row1, row2, row3, row4, row5, shI_dec, shN_dec, shB_dec, shM_dec, dI, dN, dB, dM, dU, dU_map, iv, bv, u, ms, ctx_T, ctx_C, ctx_P, T4, T3, T26, Option.bind_some, Option.bind_none, Option.map_some, List.length_map, List.length_set, String.reduceBEq, Int.toNat_natCast, Bool.true_beq, Bool.false_beq, T24, shF_dec, dF, fr_eta, Int.cast_ofNat_Int, Int.reduceSub, Int.reduceAdd, Int.reduceNeg, ev1, ev2, implies_true, undef, stepP, dynCall, ↓condE_t, ↓condE_f, ↓guardE_tt, ↓guardE_ff, ↓guardE_tf, ↓guardE_ft, frzDeep, deepArgs, deepArg, resB, cv, stepB, stepE, callD, tabD, snapD, snap1, snapC, snapId, snapIds, guardB, guardC, dstAt, aopR, one, pre, binR, intOpR, shiftOpR, unR, argFrm, evo, lkp, hlk, lenOf, asLst, idOf, bndA, srcOk, ofVal, ofCells, setCells, fillA, setElems, fieldsOf, fieldsEq, scalEq, isEq, AV.wr, AV.ok1, TK.agg, frz, frzs, frzA, frzArg, frzArgs, subA, subL, sub1, kp, kh, accOf, List.replicate, Nat.reduceAdd, Nat.reduceSub, Nat.reduceMul, Nat.reduceEqDiff, Nat.reduceLT, Nat.reduceLeDiff, Nat.reduceBEq, reduceIte, reduceCtorEq, eq_self, ne_eq, Int.reduceToNat, Int.reduceLT, Int.reduceLE, Int.reduceGT, Int.reduceGE, Int.reduceBEq, Int.reduceBNe, Int.reduceEq, Int.reduceNe]
  refine WP.loop (ι := Nat) (fun i => 9 - i) (fun i => i ≤ 9) (n := 32) (fr := fun i => [(8, iv i), (1, ms (oneN c (m, f) i).1), (5, .ptr 1 0 0), (3, .ptr 0 0 0), (7, .ptr 3 0 0)])
    (hp := fun i => [(3, some ⟨false, 28, 7, [fv ⟨0, 0, 0, 0, 0, 0, 0⟩]⟩), (1, some ⟨false, 28, 7, [fv (oneN c (m, f) i).2]⟩), (0, some ⟨false, 23, 4, [cv' c]⟩)]) (N := 0) ?_ 0 (Nat.zero_le _) rfl (Nat.zero_le _) ⟨rfl, rfl, rfl, rfl, rfl, trivial⟩ ⟨rfl, rfl, rfl, trivial⟩
  rintro k nx hk _ hid
  have n1 : 3 < nx := hid 3 _ rfl
  have n2 : 1 < nx := by omega
  have n3 : 0 < nx := by omega
  have hml : (oneN c (m, f) k).1.length ≤ 1000 := by rw [len_oneN]; exact hm
  refine WP.of okDD 1 (by rfl) ?_
  have hs : oneN c (m, f) (k + 1) = eqStep c (oneN c (m, f) k).1 (oneN c (m, f) k).2 := rfl
  by_cases hk9 : (k : Int) < 9
  · have ww : IntKind.wrap .i64 ((k : Int) + 1) = ((k + 1 : Nat) : Int) := by rw [wrap_i (by omega) (by omega)]; omega
    generalize hx : oneN c (m, f) k = x at *
    obtain ⟨a, g⟩ := x
    dsimp only at hml hs ⊢
    by_cases ho : g.op = 3
    · have ho' : (g.op == 3) = true := by simpa using ho
      have he : eqStep c a g = eStep c a g := if_pos ho
      simp only [DD_all, hml, hk9, ho', ww, n1, n2, n3, nb_self, nb_same, nb_l0, nb_r0, nb_lt, nb_gt, nb_lt0, nb_gt0, Nat.add_assoc, Int.cast_ofNat_Int, Int.reduceSub, Int.reduceAdd, Int.reduceNeg, inl, lv, fv, sv, fBegin, fEnd, hfree_fr, hfree_cf, cv', cf_eta, frz_u, shC_dec, dC, T23, T28, T25, hfree_lu, hfree_l0, row0, row1, row2, row3, row4, row5, shI_dec, shN_dec, shB_dec, shM_dec, dI, dN, dB, dM, dU, dU_map, iv, bv, u, ms, ctx_T, ctx_C, ctx_P, T4, T3, T26, Option.bind_some, Option.bind_none, Option.map_some, List.length_map, List.length_set, String.reduceBEq, Int.toNat_natCast, Bool.true_beq, Bool.false_beq, T24, shF_dec, dF, fr_eta, ev1, ev2, implies_true, undef, stepP, dynCall, ↓condE_t, ↓condE_f, ↓guardE_tt, ↓guardE_ff, ↓guardE_tf, ↓guardE_ft, frzDeep, deepArgs, deepArg, resB, cv, stepB, stepE, callD, tabD, snapD, snap1, snapC, snapId, snapIds, guardB, guardC, dstAt, aopR, one, pre, binR, intOpR, shiftOpR, unR, argFrm, evo, lkp, hlk, lenOf, asLst, idOf, bndA, srcOk, ofVal, ofCells, setCells, fillA, setElems, fieldsOf, fieldsEq, scalEq, isEq, AV.wr, AV.ok1, TK.agg, frz, frzs, frzA, frzArg, frzArgs, subA, subL, sub1, kp, kh, accOf, List.replicate, Nat.reduceAdd, Nat.reduceSub, Nat.reduceMul, Nat.reduceEqDiff, Nat.reduceLT, Nat.reduceLeDiff, Nat.reduceBEq, reduceIte, reduceCtorEq, eq_self, ne_eq, Int.reduceToNat, Int.reduceLT, Int.reduceLE, Int.reduceGT, Int.reduceGE, Int.reduceBEq, Int.reduceBNe, Int.reduceEq, Int.reduceNe]
      exact ⟨k + 1, by omega, by omega, by rw [hs, he]; exact ⟨rfl, rfl⟩, by rw [hs, he]⟩
    · have ho' : (g.op == 3) = false := by simpa using ho
      have he : eqStep c a g = qStep c a g := if_neg ho
      simp only [DD_all, hml, hk9, ho', ww, n1, n2, n3, nb_self, nb_same, nb_l0, nb_r0, nb_lt, nb_gt, nb_lt0, nb_gt0, Nat.add_assoc, Int.cast_ofNat_Int, Int.reduceSub, Int.reduceAdd, Int.reduceNeg, inl, lv, fv, sv, fBegin, fEnd, hfree_fr, hfree_cf, cv', cf_eta, frz_u, shC_dec, dC, T23, T28, T25, hfree_lu, hfree_l0, row0, row1, row2, row3, row4, row5, shI_dec, shN_dec, shB_dec, shM_dec, dI, dN, dB, dM, dU, dU_map, iv, bv, u, ms, ctx_T, ctx_C, ctx_P, T4, T3, T26, Option.bind_some, Option.bind_none, Option.map_some, List.length_map, List.length_set, String.reduceBEq, Int.toNat_natCast, Bool.true_beq, Bool.false_beq, T24, shF_dec, dF, fr_eta, ev1, ev2, implies_true, undef, stepP, dynCall, ↓condE_t, ↓condE_f, ↓guardE_tt, ↓guardE_ff, ↓guardE_tf, ↓guardE_ft, frzDeep, deepArgs, deepArg, resB, cv, stepB, stepE, callD, tabD, snapD, snap1, snapC, snapId, snapIds, guardB, guardC, dstAt, aopR, one, pre, binR, intOpR, shiftOpR, unR, argFrm, evo, lkp, hlk, lenOf, asLst, idOf, bndA, srcOk, ofVal, ofCells, setCells, fillA, setElems, fieldsOf, fieldsEq, scalEq, isEq, AV.wr, AV.ok1, TK.agg, frz, frzs, frzA, frzArg, frzArgs, subA, subL, sub1, kp, kh, accOf, List.replicate, Nat.reduceAdd, Nat.reduceSub, Nat.reduceMul, Nat.reduceEqDiff, Nat.reduceLT, Nat.reduceLeDiff, Nat.reduceBEq, reduceIte, reduceCtorEq, eq_self, ne_eq, Int.reduceToNat, Int.reduceLT, Int.reduceLE, Int.reduceGT, Int.reduceGE, Int.reduceBEq, Int.reduceBNe, Int.reduceEq, Int.reduceNe]
      exact ⟨k + 1, by omega, by omega, by rw [hs, he]; exact ⟨rfl, rfl⟩, by rw [hs, he]⟩
  · have e9 : k = 9 := by omega
    subst e9
    have hr : oneC c m f = oneN c (m, f) 9 := rfl
    rw [hr]
    simp only [DD_all, hml, hk9, n1, n2, n3, nb_self, nb_same, nb_l0, nb_r0, nb_lt, nb_gt, nb_lt0, nb_gt0, Nat.add_assoc, Int.cast_ofNat_Int, Int.reduceSub, Int.reduceAdd, Int.reduceNeg, inl, lv, fv, sv, fBegin, fEnd, hfree_fr, hfree_cf, cv', cf_eta, frz_u, shC_dec, dC, T23, T28, T25, hfree_lu, hfree_l0, row0, row1, row2, row3, row4, row5, shI_dec, shN_dec, shB_dec, shM_dec, dI, dN, dB, dM, dU, dU_map, iv, bv, u, ms, ctx_T, ctx_C, ctx_P, T4, T3, T26, Option.bind_some, Option.bind_none, Option.map_some, List.length_map, List.length_set, String.reduceBEq, Int.toNat_natCast, Bool.true_beq, Bool.false_beq, T24, shF_dec, dF, fr_eta, ev1, ev2, implies_true, undef, stepP, dynCall, ↓condE_t, ↓condE_f, ↓guardE_tt, ↓guardE_ff, ↓guardE_tf, ↓guardE_ft, frzDeep, deepArgs, deepArg, resB, cv, stepB, stepE, callD, tabD, snapD, snap1, snapC, snapId, snapIds, guardB, guardC, dstAt, aopR, one, pre, binR, intOpR, shiftOpR, unR, argFrm, evo, lkp, hlk, lenOf, asLst, idOf, bndA, srcOk, ofVal, ofCells, setCells, fillA, setElems, fieldsOf, fieldsEq, scalEq, isEq, AV.wr, AV.ok1, TK.agg, frz, frzs, frzA, frzArg, frzArgs, subA, subL, sub1, kp, kh, accOf, List.replicate, Nat.reduceAdd, Nat.reduceSub, Nat.reduceMul, Nat.reduceEqDiff, Nat.reduceLT, Nat.reduceLeDiff, Nat.reduceBEq, reduceIte, reduceCtorEq, eq_self, ne_eq, Int.reduceToNat, Int.reduceLT, Int.reduceLE, Int.reduceGT, Int.reduceGE, Int.reduceBEq, Int.reduceBNe, Int.reduceEq, Int.reduceNe]
    all_goals ((repeat' apply And.intro) <;> first | rfl | omega | (show entryOk _ _ _ _ _ = true; kernel_rfl) | (show pivotOk _ _ = true; kernel_rfl) | decide)

theorem qlist_big (c : Cf) (m : List Int) (hm : ¬ m.length ≤ 1000) : PureC Try.prog 19 [cv' c, ms m] (lv ([], false)) := by
  refine pure_sub okDB 4 Try.func19 rfl (by show 2 ≤ _; decide) ?_
  cases hc : mayC c with
  | false =>
    simp only [Try.f19, Try.func26, Try.f26, Try.func62, Try.f62, inl, DB_all, hm, hc, lv, sv, fv, top_T, top_C, top_P, inR_T, inR_C, inR_P, iter_T, iter_C, iter_P, iter_Y, r_rangeF, r_yld, r_start, r_rkN, r_rkR, r_rkE, r_endR, r_endM, r_endJ0, r_endJ2, r_endJ3, r_endJ5, r_endJ7, zipF, hfree_fr, hfree_cf, cv', cf_eta, frz_u, shC_dec, dC, T23, T28, T25, hfree_lu, hfree_l0, row0, row1, row2, row3, row4, row5, shI_dec, shN_dec, shB_dec, shM_dec, dI, dN, dB, dM, dU, dU_map, iv, bv, u, ms, ctx_T, ctx_C, ctx_P, T4, T3, T26, Option.bind_some, Option.bind_none, Option.map_some, List.length_map, List.length_set, String.reduceBEq, Int.toNat_natCast, Bool.true_beq, Bool.false_beq, T24, shF_dec, dF, fr_eta, Int.cast_ofNat_Int, Int.reduceSub, Int.reduceAdd, Int.reduceNeg, ev1, ev2, implies_true, undef, stepP, dynCall, ↓condE_t, ↓condE_f, ↓guardE_tt, ↓guardE_ff, ↓guardE_tf, ↓guardE_ft, frzDeep, deepArgs, deepArg, resB, cv, stepB, stepE, callD, tabD, snapD, snap1, snapC, snapId, snapIds, guardB, guardC, dstAt, aopR, one, pre, binR, intOpR, shiftOpR, unR, argFrm, evo, lkp, hlk, lenOf, asLst, idOf, bndA, srcOk, ofVal, ofCells, setCells, fillA, setElems, fieldsOf, fieldsEq, scalEq, isEq, AV.wr, AV.ok1, TK.agg, frz, frzs, frzA, frzArg, frzArgs, subA, subL, sub1, kp, kh, accOf, List.replicate, Nat.reduceAdd, Nat.reduceSub, Nat.reduceMul, Nat.reduceEqDiff, Nat.reduceLT, Nat.reduceLeDiff, Nat.reduceBEq, reduceIte, reduceCtorEq, eq_self, ne_eq, Int.reduceToNat, Int.reduceLT, Int.reduceLE, Int.reduceGT, Int.reduceGE, Int.reduceBEq, Int.reduceBNe, Int.reduceEq, Int.reduceNe]
    all_goals ((repeat' apply And.intro) <;> first | rfl | omega | (show entryOk _ _ _ _ _ = true; kernel_rfl) | (show pivotOk _ _ = true; kernel_rfl) | decide)
  | true =>
    have hs : lSize c ≤ 190 := by
      obtain ⟨h1, h2, h3, h4, h5, h6, h7⟩ := mayC_iff.1 hc
      unfold lSize
      rw [hc, if_pos rfl]
      unfold lBase at *
      rcases h3 with e | e | e | e | e <;> rw [e] <;> omega
    have hl : ((m.length : Int) == lSize c) = false := by simp; omega
    simp only [Try.f19, Try.func26, Try.f26, Try.func62, Try.f62, inl, DB_all, hm, hc, hl, lv, sv, fv, top_T, top_C, top_P, inR_T, inR_C, inR_P, iter_T, iter_C, iter_P, iter_Y, r_rangeF, r_yld, r_start, r_rkN, r_rkR, r_rkE, r_endR, r_endM, r_endJ0, r_endJ2, r_endJ3, r_endJ5, r_endJ7, zipF, hfree_fr, hfree_cf, cv', cf_eta, frz_u, shC_dec, dC, T23, T28, T25, hfree_lu, hfree_l0, row0, row1, row2, row3, row4, row5, shI_dec, shN_dec, shB_dec, shM_dec, dI, dN, dB, dM, dU, dU_map, iv, bv, u, ms, ctx_T, ctx_C, ctx_P, T4, T3, T26, Option.bind_some, Option.bind_none, Option.map_some, List.length_map, List.length_set, String.reduceBEq, Int.toNat_natCast, Bool.true_beq, Bool.false_beq, T24, shF_dec, dF, fr_eta, Int.cast_ofNat_Int, Int.reduceSub, Int.reduceAdd, Int.reduceNeg, ev1, ev2, implies_true, undef, stepP, dynCall, ↓condE_t, ↓condE_f, ↓guardE_tt, ↓guardE_ff, ↓guardE_tf, ↓guardE_ft, frzDeep, deepArgs, deepArg, resB, cv, stepB, stepE, callD, tabD, snapD, snap1, snapC, snapId, snapIds, guardB, guardC, dstAt, aopR, one, pre, binR, intOpR, shiftOpR, unR, argFrm, evo, lkp, hlk, lenOf, asLst, idOf, bndA, srcOk, ofVal, ofCells, setCells, fillA, setElems, fieldsOf, fieldsEq, scalEq, isEq, AV.wr, AV.ok1, TK.agg, frz, frzs, frzA, frzArg, frzArgs, subA, subL, sub1, kp, kh, accOf, List.replicate, Nat.reduceAdd, Nat.reduceSub, Nat.reduceMul, Nat.reduceEqDiff, Nat.reduceLT, Nat.reduceLeDiff, Nat.reduceBEq, reduceIte, reduceCtorEq, eq_self, ne_eq, Int.reduceToNat, Int.reduceLT, Int.reduceLE, Int.reduceGT, Int.reduceGE, Int.reduceBEq, Int.reduceBNe, Int.reduceEq, Int.reduceNe]
    all_goals ((repeat' apply And.intro) <;> first | rfl | omega | (show entryOk _ _ _ _ _ = true; kernel_rfl) | (show pivotOk _ _ = true; kernel_rfl) | decide)

/-- The numbers of an argument, however many. -/
def dW (a : AV) : Option (List Int) :=
  match a with
  | .lst 1 xs => dU xs
  | .v (.slice none 0 0) => some []
  | _ => none
theorem dW_some {a : AV} {m : List Int} (h : dW a = some m) : sub1 a (ms m) := by
  unfold dW at h
  split at h
  · rw [ms, dU_some h]; rfl
  · cases h; rfl
  · cases h
def shW : Sh (List Int) := ⟨dW, ms, fun _ _ h => dW_some h, hfree_ms⟩
theorem shW_dec : shW.dec = dW := rfl
def qListW (c : Cf) (m : List Int) : List Int × Bool := if m.length ≤ 1000 then qList c m else ([], false)
theorem qlistW_pure (c : Cf) (m : List Int) : PureC Try.prog 19 [cv' c, ms m] (lv (qListW c m)) := by
  unfold qListW
  split
  · exact qlist_pure c m ‹_›
  · exact qlist_big c m ‹_›

def rowsDE : List Row := [
  (29, row3 shC shM shF fun c m f => some (sv (oneC c m f))), 
  (19, row2 shC shW fun c m => some (lv (qListW c m))), 
  (32, row3 shM shI shF fun l room f => some (ov (fOnce l room f)))] ++ rowsDD
theorem rowsDE_ok : ∀ p ∈ rowsDE, RowOk Try.prog p := fun p h => by
  simp only [rowsDE, List.mem_append, List.mem_cons, List.not_mem_nil, or_false, false_or, or_assoc] at h
  rcases h with rfl | rfl | rfl | h
  · exact ok_row3 (enters_of Try.func29 (by decide) rfl) fun c m f r _ g _ e => by cases e; exact one12_pure c m f (shM_got g)
  · exact ok_row2 (enters_of Try.func19 (by decide) rfl) fun c m r _ g e => by cases e; exact qlistW_pure c m
  · exact ok_row3 (enters_of Try.func32 (by decide) rfl) fun l room f r g _ _ e => by cases e; exact once_pure l room f (shM_got g)
  · exact rowsDD_ok p h
theorem okDE : (ctx Try.prog rowsDE).ok := rows_ok rowsDE_ok
theorem DE_29 : tabC rowsDE 29 = row3 shC shM shF fun c m f => some (sv (oneC c m f)) := rfl
theorem DE_19 : tabC rowsDE 19 = row2 shC shW fun c m => some (lv (qListW c m)) := rfl
theorem DE_32 : tabC rowsDE 32 = row3 shM shI shF fun l room f => some (ov (fOnce l room f)) := rfl
theorem DE_16 : tabC rowsDE 16 = row0 (bv true) := rfl
theorem DE_20 : tabC rowsDE 20 = row2 shC shM fun c m => some (lv (rqList c m)) := rfl
theorem DE_17 : tabC rowsDE 17 = row3 shC shM shF fun c m f => some (sv (qStep c m f)) := rfl
theorem DE_18 : tabC rowsDE 18 = row3 shC shM shF fun c m f => some (sv (rqStep c m f)) := rfl
theorem DE_60 : tabC rowsDE 60 = fun _ => none := rfl
theorem DE_94 : tabC rowsDE 94 = fun _ => none := rfl
theorem DE_47 : tabC rowsDE 47 = row2 shC shN fun c x => if 1 ≤ c.i ∧ c.i ≤ 16 then some (u (qFull c x)) else none := rfl
theorem DE_96 : tabC rowsDE 96 = freeRow := rfl
theorem DE_23 : tabC rowsDE 23 = row4 shC shM shF shI fun c m f op => some (bv (goesE c m f op)) := rfl
theorem DE_52 : tabC rowsDE 52 = row4 shC shM shF shI fun c m f op => some (bv (goesE c m f op)) := rfl
theorem DE_26 : tabC rowsDE 26 = row2 shC shM fun c m => some (iv (eLen c m)) := rfl
theorem DE_61 : tabC rowsDE 61 = row2 shC shM fun c m => some (iv (eLen c m)) := rfl
theorem DE_62 : tabC rowsDE 62 = fun _ => none := rfl
theorem DE_67 : tabC rowsDE 67 = fun _ => none := rfl
theorem DE_68 : tabC rowsDE 68 = fun _ => none := rfl
theorem DE_69 : tabC rowsDE 69 = fun _ => none := rfl
theorem DE_70 : tabC rowsDE 70 = fun _ => none := rfl
theorem DE_71 : tabC rowsDE 71 = fun _ => none := rfl
theorem DE_72 : tabC rowsDE 72 = fun _ => none := rfl
theorem DE_44 : tabC rowsDE 44 = row1 shM fun m => some (ms m) := rfl
theorem DE_57 : tabC rowsDE 57 = row4 shM shI shN shN fun m i v w => some (.tup [ms (mCas m i v w), bv (mCasB m i v)]) := rfl
theorem DE_45 : tabC rowsDE 45 = row2 shM shI fun m i => some (u (mLoad m i)) := rfl
theorem DE_51 : tabC rowsDE 51 = row3 shM shI shN fun m i v => some (ms (mStore m i v)) := rfl
theorem DE_49 : tabC rowsDE 49 = row4 shM shI shN shN fun m i v w => some (.tup [ms (mCas m i v w), bv (mCasB m i v)]) := rfl
theorem DE_53 : tabC rowsDE 53 = row2 shM shI fun m i => some (u (mLoad m i)) := rfl
theorem DE_21 : tabC rowsDE 21 = row2 shM shM fun a b => some (bv (decide (a = b))) := rfl
theorem DE_59 : tabC rowsDE 59 = row3 shM shI shN fun m i v => some (ms (mStore m i v)) := rfl
theorem DE_66 : tabC rowsDE 66 = row1 shC fun c => some (iv (lSize c)) := rfl
theorem DE_88 : tabC rowsDE 88 = row1 shC fun c => some (iv (lSize c)) := rfl
theorem DE_27 : tabC rowsDE 27 = row1 shC fun c => some (bv (mayC c)) := rfl
theorem DE_46 : tabC rowsDE 46 = row2 shN shN fun a b => some (iv (far a b)) := rfl
theorem DE_83 : tabC rowsDE 83 = row1 shC fun c => some (bv (mayC c)) := rfl
theorem DE_55 : tabC rowsDE 55 = row2 shN shN fun a b => some (iv (far a b)) := rfl
theorem DE_95 : tabC rowsDE 95 = row2 shC shI fun c w => if mayC c = true ∧ 0 ≤ w ∧ w ≤ 8 then some (iv (lBase c w)) else none := rfl
theorem DE_63 : tabC rowsDE 63 = fun _ => none := rfl
theorem DE_65 : tabC rowsDE 65 = fun _ => none := rfl
theorem DE_86 : tabC rowsDE 86 = row1 shF fun f => some (bv (f.res != 0)) := rfl
theorem DE_56 : tabC rowsDE 56 = row3 shF shI shN fun f r v => some (fv (fEnd f r v)) := rfl
theorem DE_22 : tabC rowsDE 22 = row2 shM shM fun a b => some (bv (decide (a = b))) := rfl
theorem DE_25 : tabC rowsDE 25 = row3 shI shI shN fun o w v => some (fv (fBegin o w v)) := rfl
theorem DE_31 : tabC rowsDE 31 = row1 shF fun f => some (bv (f.res != 0)) := rfl
theorem DE_48 : tabC rowsDE 48 = row3 shF shI shN fun f r v => some (fv (fEnd f r v)) := rfl
theorem DE_74 : tabC rowsDE 74 = fun _ => none := rfl
theorem DE_75 : tabC rowsDE 75 = fun _ => none := rfl
theorem DE_76 : tabC rowsDE 76 = fun _ => none := rfl
theorem DE_73 : tabC rowsDE 73 = fun _ => none := rfl
theorem DE_24 : tabC rowsDE 24 = row2 shC shN fun c x => some (iv (eSeq c x)) := rfl
theorem DE_50 : tabC rowsDE 50 = row2 shC shN fun c x => some (iv (eVal c x)) := rfl
theorem DE_54 : tabC rowsDE 54 = row2 shC shN fun c x => some (iv (eSeq c x)) := rfl
theorem DE_58 : tabC rowsDE 58 = row2 shC shN fun c x => some (iv (eVal c x)) := rfl
theorem DE_30 : tabC rowsDE 30 = row3 shC shM shF fun c m f => some (sv (eStep c m f)) := rfl
theorem DE_77 : tabC rowsDE 77 = row3 shC shM shF fun c m f => some (sv (eStep c m f)) := rfl
theorem DE_28 : tabC rowsDE 28 = row1 shC fun c => some (ms (zeros (lSize c).toNat)) := rfl
theorem DE_all : type_of% (And.intro DE_29 <| And.intro DE_19 <| And.intro DE_32 <| And.intro DE_16 <| And.intro DE_20 <| And.intro DE_17 <| And.intro DE_18 <| And.intro DE_60 <| And.intro DE_94 <| And.intro DE_47 <| And.intro DE_96 <| And.intro DE_23 <| And.intro DE_52 <| And.intro DE_26 <| And.intro DE_61 <| And.intro DE_62 <| And.intro DE_67 <| And.intro DE_68 <| And.intro DE_69 <| And.intro DE_70 <| And.intro DE_71 <| And.intro DE_72 <| And.intro DE_44 <| And.intro DE_57 <| And.intro DE_45 <| And.intro DE_51 <| And.intro DE_49 <| And.intro DE_53 <| And.intro DE_21 <| And.intro DE_59 <| And.intro DE_66 <| And.intro DE_88 <| And.intro DE_27 <| And.intro DE_46 <| And.intro DE_83 <| And.intro DE_55 <| And.intro DE_95 <| And.intro DE_63 <| And.intro DE_65 <| And.intro DE_86 <| And.intro DE_56 <| And.intro DE_22 <| And.intro DE_25 <| And.intro DE_31 <| And.intro DE_48 <| And.intro DE_74 <| And.intro DE_75 <| And.intro DE_76 <| And.intro DE_73 <| And.intro DE_24 <| And.intro DE_50 <| And.intro DE_54 <| And.intro DE_58 <| And.intro DE_30 <| And.intro DE_77 <| DE_28) := And.intro DE_29 <| And.intro DE_19 <| And.intro DE_32 <| And.intro DE_16 <| And.intro DE_20 <| And.intro DE_17 <| And.intro DE_18 <| And.intro DE_60 <| And.intro DE_94 <| And.intro DE_47 <| And.intro DE_96 <| And.intro DE_23 <| And.intro DE_52 <| And.intro DE_26 <| And.intro DE_61 <| And.intro DE_62 <| And.intro DE_67 <| And.intro DE_68 <| And.intro DE_69 <| And.intro DE_70 <| And.intro DE_71 <| And.intro DE_72 <| And.intro DE_44 <| And.intro DE_57 <| And.intro DE_45 <| And.intro DE_51 <| And.intro DE_49 <| And.intro DE_53 <| And.intro DE_21 <| And.intro DE_59 <| And.intro DE_66 <| And.intro DE_88 <| And.intro DE_27 <| And.intro DE_46 <| And.intro DE_83 <| And.intro DE_55 <| And.intro DE_95 <| And.intro DE_63 <| And.intro DE_65 <| And.intro DE_86 <| And.intro DE_56 <| And.intro DE_22 <| And.intro DE_25 <| And.intro DE_31 <| And.intro DE_48 <| And.intro DE_74 <| And.intro DE_75 <| And.intro DE_76 <| And.intro DE_73 <| And.intro DE_24 <| And.intro DE_50 <| And.intro DE_54 <| And.intro DE_58 <| And.intro DE_30 <| And.intro DE_77 <| DE_28
end Go.Vai
