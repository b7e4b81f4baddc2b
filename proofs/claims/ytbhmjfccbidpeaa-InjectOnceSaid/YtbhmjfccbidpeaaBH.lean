/- The evaluator, the plain texts and the contracts that this claim leans on, part BH: nothing of the statement is claimed here. -/
import Derived.Test.YtbhmjfccbidpeaaBC
import Derived.Test.YtbhmjfccbidpeaaBF
/- Lists of frames, of numbers, of truths, and lists of such, as arguments. -/
namespace Go.Vai
open Go.RowKit Go.Proofs
set_option linter.unusedVariables false

/-- How an element is read, just so. -/
structure El (α : Type) where
  dec : AV → Option α
  enc : α → AV
  ok : ∀ a x, dec a = some x → a = enc x
  inv : ∀ x, dec (enc x) = some x
  free : ∀ x, HFree (enc x)
  cfree : ∀ x, ∀ c ∈ (enc x).cells, HFree c

def dL {α : Type} (d : AV → Option α) : List AV → Option (List α)
  | [] => some []
  | x :: r => (d x).bind fun a => (dL d r).map (a :: ·)

theorem dL_map {α : Type} (E : El α) : ∀ l : List α, dL E.dec (l.map E.enc) = some l
  | [] => rfl
  | x :: l => by simp [dL, E.inv, dL_map E l]

theorem dL_some {α : Type} (E : El α) : ∀ {xs : List AV} {l : List α}, dL E.dec xs = some l → xs = l.map E.enc
  | [], l, h => by cases h; rfl
  | x :: xs, l, h => by
    simp only [dL, Option.bind_eq_some_iff, Option.map_eq_some_iff] at h
    obtain ⟨a, h1, r, h2, rfl⟩ := h
    rw [E.ok x a h1, dL_some E h2]
    rfl

def encL {α : Type} (n : Nat) (E : El α) (l : List α) : AV := .lst n (l.map E.enc)
theorem hfree_L {α : Type} (n : Nat) (E : El α) (l : List α) : HFree (encL n E l) := hfree_lst fun x hx c hc => by
  obtain ⟨y, _, rfl⟩ := List.mem_map.1 hx
  exact E.cfree y c hc

/-- A list as an argument. -/
def decL {α : Type} (n : Nat) (E : El α) (a : AV) : Option (List α) :=
  match a with
  | .lst k xs => if k = n then dL E.dec xs else none
  | .v (.slice none 0 0) => some []
  | _ => none

theorem decL_some {α : Type} {n : Nat} {E : El α} {a : AV} {l : List α} (h : decL n E a = some l) : sub1 a (encL n E l) := by
  unfold decL at h
  split at h
  · rename_i k xs
    split at h
    · rename_i hk
      subst hk
      rw [dL_some E h]; rfl
    · cases h
  · cases h; rfl
  · cases h

def shL {α : Type} (n : Nat) (E : El α) : Sh (List α) := ⟨decL n E, encL n E, fun _ _ h => decL_some h, hfree_L n E⟩
theorem shL_dec {α : Type} {n : Nat} {E : El α} (l : List α) : (shL n E).dec (.lst n (l.map E.enc)) = some l := by
  simp [shL, decL, dL_map]
theorem shL_nil {α : Type} {n : Nat} {E : El α} : (shL n E).dec (.v (.slice none 0 0)) = some [] := rfl
theorem shL_emp {α : Type} {n : Nat} {E : El α} : (shL n E).dec (.lst n []) = some [] := by
  simp [shL, decL, dL]
/-- A list as an element. -/
def elL {α : Type} (n : Nat) (E : El α) : El (List α) where
  dec := fun a => match a with | .lst k xs => if k = n then dL E.dec xs else none | _ => none
  enc := encL n E
  ok := fun a l h => by
    split at h
    · split at h
      · rename_i hk; subst hk; rw [dL_some E h]; rfl
      · cases h
    · cases h
  inv := fun l => by simp [encL, dL_map]
  free := hfree_L n E
  cfree := fun l c hc => by
    simp only [encL, AV.cells, List.mem_singleton] at hc
    subst hc; exact hfree_L n E l

theorem dF_ok {a : AV} {f : Fr} (h : dF a = some f) : a = fv f := by
  exact dF_some h
def elF : El Fr := ⟨dF, fv, fun _ _ h => dF_ok h, fun _ => rfl, hfree_fv, fun f c hc => by
  simp only [fv, AV.cells, List.mem_cons, List.not_mem_nil, or_false] at hc
  rcases hc with rfl | rfl | rfl | rfl | rfl | rfl | rfl <;> exact hfree_v _⟩
def elI : El Int := ⟨dI, iv, fun a x h => by unfold dI at h; split at h <;> cases h; rfl, fun _ => rfl, fun _ => hfree_v _, fun x c hc => by simp only [iv, AV.cells, List.mem_singleton] at hc; subst hc; exact hfree_v _⟩
def elB : El Bool := ⟨dB, bv, fun a x h => by unfold dB at h; split at h <;> cases h; rfl, fun _ => rfl, fun _ => hfree_v _, fun x c hc => by simp only [bv, AV.cells, List.mem_singleton] at hc; subst hc; exact hfree_v _⟩

def fs (l : List Fr) : AV := .lst 7 (l.map fv)
def fss (l : List (List Fr)) : AV := .lst 1 (l.map fs)
def zs (l : List Int) : AV := .lst 1 (l.map iv)
def bs (l : List Bool) : AV := .lst 1 (l.map bv)
def bss (l : List (List Bool)) : AV := .lst 1 (l.map bs)
def elFs : El (List Fr) := elL 7 elF
def elBs : El (List Bool) := elL 1 elB

def shFs : Sh (List Fr) := shL 7 elF
def shFss : Sh (List (List Fr)) := shL 1 elFs
def shZs : Sh (List Int) := shL 1 elI
def shBs : Sh (List Bool) := shL 1 elB
def shBss : Sh (List (List Bool)) := shL 1 elBs
theorem shFs_dec (l : List Fr) : shFs.dec (.lst 7 (l.map fv)) = some l := shL_dec (E := elF) l
theorem shFss_dec (l : List (List Fr)) : shFss.dec (.lst 1 (l.map fs)) = some l := shL_dec (E := elFs) l
theorem shZs_dec (l : List Int) : shZs.dec (.lst 1 (l.map iv)) = some l := shL_dec (E := elI) l
theorem shBs_dec (l : List Bool) : shBs.dec (.lst 1 (l.map bv)) = some l := shL_dec (E := elB) l
theorem shBss_dec (l : List (List Bool)) : shBss.dec (.lst 1 (l.map bs)) = some l := shL_dec (E := elBs) l
theorem shFss_nil : shFss.dec (.v (.slice none 0 0)) = some [] := rfl
theorem shFss_emp : shFss.dec (.lst 1 []) = some [] := shL_emp
theorem shBss_nil : shBss.dec (.v (.slice none 0 0)) = some [] := rfl
theorem shBss_emp : shBss.dec (.lst 1 []) = some [] := shL_emp
theorem shZs_emp : shZs.dec (.lst 1 []) = some [] := shL_emp
theorem shFs_nil : shFs.dec (.v (.slice none 0 0)) = some [] := rfl
theorem shFs_emp : shFs.dec (.lst 7 []) = some [] := shL_emp
theorem shZs_nil : shZs.dec (.v (.slice none 0 0)) = some [] := rfl
theorem shFs_arr (a b c : Nat) : shFs.dec (.arr a b c) = none := rfl
theorem shFss_arr (a b c : Nat) : shFss.dec (.arr a b c) = none := rfl
theorem shZs_arr (a b c : Nat) : shZs.dec (.arr a b c) = none := rfl
theorem shBs_arr (a b c : Nat) : shBs.dec (.arr a b c) = none := rfl
theorem shBss_arr (a b c : Nat) : shBss.dec (.arr a b c) = none := rfl
theorem shFss_arrs (a b c : Nat) (r : List AV) : shFss.dec (.lst 1 (.arr a b c :: r)) = none := rfl
theorem shBss_arrs (a b c : Nat) (r : List AV) : shBss.dec (.lst 1 (.arr a b c :: r)) = none := rfl
theorem shFs_enc (l : List Fr) : shFs.enc l = fs l := rfl
theorem shFss_enc (l : List (List Fr)) : shFss.enc l = fss l := rfl
theorem shZs_enc (l : List Int) : shZs.enc l = zs l := rfl
theorem shBs_enc (l : List Bool) : shBs.enc l = bs l := rfl
theorem shBss_enc (l : List (List Bool)) : shBss.enc l = bss l := rfl

/-! Elements. -/
def fr0 : Fr := ⟨0, 0, 0, 0, 0, 0, 0⟩
theorem getD_f {l : List Fr} {k : Nat} (h : k < l.length) : (l.map fv).getD k .top = fv (l.getD k fr0) := by simp [List.getD_eq_getElem?_getD, h]
theorem getD_fs {l : List (List Fr)} {k : Nat} (h : k < l.length) : (l.map fs).getD k .top = fs (l.getD k []) := by simp [List.getD_eq_getElem?_getD, h]
theorem getD_z {l : List Int} {k : Nat} (h : k < l.length) : (l.map iv).getD k .top = iv (l.getD k 0) := by simp [List.getD_eq_getElem?_getD, h]
theorem getD_b {l : List Bool} {k : Nat} (h : k < l.length) : (l.map bv).getD k .top = bv (l.getD k false) := by simp [List.getD_eq_getElem?_getD, h]
theorem getD_bs {l : List (List Bool)} {k : Nat} (h : k < l.length) : (l.map bs).getD k .top = bs (l.getD k []) := by simp [List.getD_eq_getElem?_getD, h]
theorem set_f (l : List Fr) (k : Nat) (a b c d e g h : Int) : (l.map fv).set k (.agg [.v (.int .i64 a), .v (.int .i64 b), .v (.int .i64 c), .v (.int .u64 d), .v (.int .u64 e), .v (.int .u64 g), .v (.int .i64 h)]) = (l.set k ⟨a, b, c, d, e, g, h⟩).map fv := by rw [List.map_set]; rfl
theorem set_fs (l : List (List Fr)) (k : Nat) (x : List Fr) : (l.map fs).set k (.lst 7 (x.map fv)) = (l.set k x).map fs := by rw [List.map_set]; rfl
theorem set_z (l : List Int) (k : Nat) (x : Int) : (l.map iv).set k (.v (.int .i64 x)) = (l.set k x).map iv := by rw [List.map_set]; rfl
theorem snoc_f (l : List Fr) (a b c d e g h : Int) : l.map fv ++ [.agg [.v (.int .i64 a), .v (.int .i64 b), .v (.int .i64 c), .v (.int .u64 d), .v (.int .u64 e), .v (.int .u64 g), .v (.int .i64 h)]] = (l ++ [(⟨a, b, c, d, e, g, h⟩ : Fr)]).map fv := by rw [List.map_append]; rfl
theorem getD_in {α : Type} {l : List α} {k : Nat} {a b : α} (h : k < l.length) : l.getD k a = l.getD k b := by simp [List.getD_eq_getElem?_getD, h]
theorem getD_set_f {l : List Fr} {k : Nat} (h : k < l.length) (x : Fr) : ((l.set k x).map fv).getD k .top = fv x := by simp [List.getD_eq_getElem?_getD, h]
theorem set_getD_self {α : Type} {l : List α} {k : Nat} {a : α} (h : k < l.length) : l.set k (l.getD k a) = l := by simp [List.getD_eq_getElem?_getD, h]
theorem len_snocF (l : List Fr) (x : Fr) : (l ++ [x]).length = l.length + 1 := by simp
theorem take_f (l : List Fr) : (l.map fv).take l.length = l.map fv := List.take_of_length_le (by simp)
theorem take_fs (l : List (List Fr)) : (l.map fs).take l.length = l.map fs := List.take_of_length_le (by simp)
theorem take_fS (l : List Fr) (k : Nat) (x : Fr) : ((l.set k x).map fv).take l.length = (l.set k x).map fv := List.take_of_length_le (by simp)
theorem hf_f (l : List Fr) : (∀ x ∈ l.map fv, ∀ c ∈ x.cells, HFree c) = True := eq_true fun x hx c hc => by
  obtain ⟨y, _, rfl⟩ := List.mem_map.1 hx
  exact elF.cfree y c hc
theorem hf_fs (l : List (List Fr)) : (∀ x ∈ l.map fs, ∀ c ∈ x.cells, HFree c) = True := eq_true fun x hx c hc => by
  obtain ⟨y, _, rfl⟩ := List.mem_map.1 hx
  exact elFs.cfree y c hc
theorem hfree_fs (l : List Fr) : HFree (.lst 7 (l.map fv)) = True := eq_true (hfree_L 7 elF l)
theorem hfree_f0 : HFree (.lst 7 []) = True := eq_true (hfree_L 7 elF [])
theorem len_fs (l : List Fr) : (l.map fv).length = l.length := by simp
theorem len_fss (l : List (List Fr)) : (l.map fs).length = l.length := by simp
theorem len_zs (l : List Int) : (l.map iv).length = l.length := by simp
theorem len_bs (l : List Bool) : (l.map bv).length = l.length := by simp
theorem len_bss (l : List (List Bool)) : (l.map bs).length = l.length := by simp

theorem len_setF (l : List Fr) (k : Nat) (x : Fr) : (l.set k x).length = l.length := by simp

theorem frz_map {α : Type} {g : α → AV} (hg : ∀ hp x, frzArg hp (g x) = (g x, hp)) (hp : Hp) : ∀ l : List α, frzArgs hp (l.map g) = (l.map g, hp)
  | [] => rfl
  | x :: r => by rw [List.map_cons, frzArgs, hg]; dsimp only; rw [frz_map hg hp r]
theorem frz_fv (hp : Hp) (l : List Fr) : frzArgs hp (l.map fv) = (l.map fv, hp) := frz_map (fun _ _ => rfl) hp l
theorem frz_fs (hp : Hp) (l : List (List Fr)) : frzArgs hp (l.map fs) = (l.map fs, hp) := frz_map (fun _ _ => rfl) hp l
theorem frz_iv (hp : Hp) (l : List Int) : frzArgs hp (l.map iv) = (l.map iv, hp) := frz_map (fun _ _ => rfl) hp l
theorem frz_bv (hp : Hp) (l : List Bool) : frzArgs hp (l.map bv) = (l.map bv, hp) := frz_map (fun _ _ => rfl) hp l
theorem frz_bs (hp : Hp) (l : List (List Bool)) : frzArgs hp (l.map bs) = (l.map bs, hp) := frz_map (fun _ _ => rfl) hp l

theorem rf1 : type_of% (And.intro @shFs_arr <| And.intro @shFss_arr <| And.intro @shZs_arr <| And.intro @shBs_arr <| And.intro @shBss_arr <| And.intro @shFss_arrs <| And.intro @shBss_arrs <| And.intro @shFs_dec <| And.intro @shFss_dec <| And.intro @shZs_dec <| And.intro @shBs_dec <| And.intro @shBss_dec <| And.intro @shFs_nil <| And.intro @shFs_emp <| And.intro @shFss_nil <| And.intro @shFss_emp <| And.intro @shBss_nil <| And.intro @shBss_emp <| And.intro @shZs_nil <| And.intro @shZs_emp <| And.intro @len_zs <| And.intro @len_fs <| And.intro @len_fss <| And.intro @len_bs <| And.intro @len_bss <| And.intro @len_setF <| And.intro @set_f <| And.intro @set_fs <| And.intro @set_z <| And.intro @fr_eta <| And.intro @take_f <| And.intro @snoc_f <| And.intro @frz_fv <| And.intro @frz_fs <| And.intro @frz_iv <| And.intro @frz_bv <| And.intro @frz_bs <| And.intro @hfree_fs <| @hfree_f0) := And.intro @shFs_arr <| And.intro @shFss_arr <| And.intro @shZs_arr <| And.intro @shBs_arr <| And.intro @shBss_arr <| And.intro @shFss_arrs <| And.intro @shBss_arrs <| And.intro @shFs_dec <| And.intro @shFss_dec <| And.intro @shZs_dec <| And.intro @shBs_dec <| And.intro @shBss_dec <| And.intro @shFs_nil <| And.intro @shFs_emp <| And.intro @shFss_nil <| And.intro @shFss_emp <| And.intro @shBss_nil <| And.intro @shBss_emp <| And.intro @shZs_nil <| And.intro @shZs_emp <| And.intro @len_zs <| And.intro @len_fs <| And.intro @len_fss <| And.intro @len_bs <| And.intro @len_bss <| And.intro @len_setF <| And.intro @set_f <| And.intro @set_fs <| And.intro @set_z <| And.intro @fr_eta <| And.intro @take_f <| And.intro @snoc_f <| And.intro @frz_fv <| And.intro @frz_fs <| And.intro @frz_iv <| And.intro @frz_bv <| And.intro @frz_bs <| And.intro @hfree_fs <| @hfree_f0

/-! What came in. -/
section
variable {P : Program} {w : World} {t : TypeId} {α : Type} {H : Type} {enc : TypeId × Value → H} {reach : Reach} {b0 base : Nat} {spare : Nat → Bool} {held : Bool} {v : Value} {d : DataW H} {p : List MemPlace}

theorem Rdr.frames {e : TypeId} {fds : Array Field} (ht : P.underlying t = some (.slice e)) (hc : P.cellsOf t = 1) (he : P.underlying e = some (.struct fds)) (hC : P.cellsOf e = 7) (hB : fieldsB P fds frKinds = true)
    (hv : Value.okWide P w reach b0 t v) (h : DataW.Trod enc P w base spare held t v d p) : ∃ l : List Fr, (∀ x ∈ l, x.wf) ∧ Con (Env.bare (allK w)) (fs l) v := by
  obtain ⟨l, ⟨_, h1⟩, h2⟩ := (rdFr he hC hB).slice ht hc hv h
  exact ⟨l, h1, h2⟩
theorem Rdr.framess {e e' : TypeId} {fds : Array Field} (ht : P.underlying t = some (.slice e)) (hc : P.cellsOf t = 1) (ht' : P.underlying e = some (.slice e')) (hc' : P.cellsOf e = 1) (he : P.underlying e' = some (.struct fds)) (hC : P.cellsOf e' = 7) (hB : fieldsB P fds frKinds = true)
    (hv : Value.okWide P w reach b0 t v) (h : DataW.Trod enc P w base spare held t v d p) : ∃ l : List (List Fr), (∀ x ∈ l, ∀ y ∈ x, y.wf) ∧ Con (Env.bare (allK w)) (fss l) v := by
  obtain ⟨l, ⟨_, h1⟩, h2⟩ := (rdSlice (rdFr he hC hB) ht' hc').slice ht hc hv h
  exact ⟨l, fun x hx => (h1 x hx).2, h2⟩
theorem Rdr.intsI {e : TypeId} (ht : P.underlying t = some (.slice e)) (hc : P.cellsOf t = 1) (he : P.underlying e = some (.int .i64)) (hce : P.cellsOf e = 1) (hv : Value.okWide P w reach b0 t v) (h : DataW.Trod enc P w base spare held t v d p) :
    ∃ l : List Int, (∀ x ∈ l, InI x) ∧ Con (Env.bare (allK w)) (zs l) v := by
  obtain ⟨l, ⟨_, h1⟩, h2⟩ := (rdInt he hce).slice ht hc hv h
  exact ⟨l, fun x hx => in_i (h1 x hx), h2⟩
theorem Rdr.bools {e : TypeId} (ht : P.underlying t = some (.slice e)) (hc : P.cellsOf t = 1) (he : P.underlying e = some .bool) (hce : P.cellsOf e = 1) (hv : Value.okWide P w reach b0 t v) (h : DataW.Trod enc P w base spare held t v d p) :
    ∃ l : List Bool, True ∧ Con (Env.bare (allK w)) (bs l) v := by
  obtain ⟨l, _, h2⟩ := (rdBool he hce).slice ht hc hv h
  exact ⟨l, trivial, h2⟩
theorem Rdr.boolss {e e' : TypeId} (ht : P.underlying t = some (.slice e)) (hc : P.cellsOf t = 1) (ht' : P.underlying e = some (.slice e')) (hc' : P.cellsOf e = 1) (he : P.underlying e' = some .bool) (hce : P.cellsOf e' = 1) (hv : Value.okWide P w reach b0 t v) (h : DataW.Trod enc P w base spare held t v d p) :
    ∃ l : List (List Bool), True ∧ Con (Env.bare (allK w)) (bss l) v := by
  obtain ⟨l, _, h2⟩ := (rdSlice (rdBool he hce) ht' hc').slice ht hc hv h
  exact ⟨l, trivial, h2⟩
end
end Go.Vai
/- What all do at the injector, by lists alone. -/
namespace Go.Vai
open Go.RowKit
set_option linter.unusedVariables false
set_option linter.unusedSimpArgs false

def noneF : Fr := ⟨-1, 0, 0, 0, 0, 0, 0⟩

/-- A call's next step. -/
def iStep (c : Cf) (m : List Int) (f : Fr) : List Int × Fr := if f.op = 3 then eStep c m f else if f.op = 4 then qStep c m f else (m, f)
def riStep (c : Cf) (m : List Int) (f : Fr) : List Int × Fr := if f.op = 3 then eStep c m f else if f.op = 4 then rqStep c m f else (m, f)
theorem riStep_eq {c : Cf} {m : List Int} (h : InM m) (f : Fr) : riStep c m f = iStep c m f := by
  unfold riStep iStep; rw [rqStep_eq h]
theorem len_iStep (c : Cf) (m : List Int) (f : Fr) : (iStep c m f).1.length = m.length := by
  unfold iStep; repeat' split
  all_goals first | rfl | exact len_eStep .. | exact len_qStep ..
theorem len_riStep (c : Cf) (m : List Int) (f : Fr) : (riStep c m f).1.length = m.length := by
  unfold riStep; repeat' split
  all_goals first | rfl | exact len_eStep .. | exact len_rqStep ..

/-- The next call of a list, and what is left of it. -/
def nextP (i : Int) : List Fr → Fr × List Fr
  | [] => (noneF, [])
  | x :: r => if x.op = 3 ∨ x.op = 4 then (⟨x.op, 0, i, x.val, 0, 0, 0⟩, r) else nextP i r

structure Pl where
  m : List Int
  left : List (List Fr)
  hand : List Fr
  over : List Fr

/-- What is at hand of one, and what is left of its list, ahead of its step. -/
def pHand (s : Pl) (i : Nat) : Fr × List Fr :=
  if (s.hand.getD i noneF).op = -1 then nextP i (s.left.getD i []) else (s.hand.getD i noneF, s.left.getD i [])

/-- One step of one of them. -/
abbrev Stp := Cf → List Int → Fr → List Int × Fr
def pRound (st : Stp) (c : Cf) (s : Pl) (i : Nat) : Pl :=
  let p := pHand s i
  let r := st c s.m p.1
  if r.2.res = 0 then ⟨r.1, s.left.set i p.2, s.hand.set i r.2, s.over⟩ else ⟨r.1, s.left.set i p.2, s.hand.set i noneF, s.over ++ [r.2]⟩

def pTurn (st : Stp) (c : Cf) (n : Nat) (s : Pl) (i : Int) : Pl := if 0 ≤ i ∧ i < n then pRound st c s i.toNat else s

def pStart (c : Cf) (calls : List (List Fr)) : Pl := ⟨zeros (lSize c).toNat, calls, List.replicate calls.length noneF, []⟩

def pAll (st : Stp) (c : Cf) (calls : List (List Fr)) (who : List Int) : Pl := who.foldl (pTurn st c calls.length) (pStart c calls)

def injC (room : Int) : Cf := ⟨1, 1, room, 0⟩

def gPlay (st : Stp) (room : Int) (calls : List (List Fr)) (who : List Int) : List Int × List Fr × List Fr :=
  if mayC (injC room) = true ∧ calls.length ≤ 8 then ((pAll st (injC room) calls who).m, (pAll st (injC room) calls who).over, (pAll st (injC room) calls who).hand) else ([], [], [])
def iPlay := gPlay iStep
def rPlay := gPlay riStep

/-- One ends what is at hand: so many steps at most. -/
def restN (st : Stp) (c : Cf) : Nat → List Int × Fr → List Int × Fr
  | 0, s => s
  | n + 1, s => if s.2.op = -1 ∨ s.2.res ≠ 0 then s else restN st c n (st c s.1 s.2)

/-- One of them ends what it has at hand. -/
def restAt (st : Stp) (c : Cf) (s : List Int × List Fr) (i : Nat) : List Int × List Fr :=
  ((restN st c 20 (s.1, s.2.getD i noneF)).1, s.2.set i (restN st c 20 (s.1, s.2.getD i noneF)).2)
def restTo (st : Stp) (c : Cf) (s : List Int × List Fr) : Nat → List Int × List Fr
  | 0 => s
  | i + 1 => restAt st c (restTo st c s i) i
def restK (st : Stp) (c : Cf) (s : List Int × List Fr) : Nat → List Int × List Fr
  | 0 => s
  | k + 1 => restTo st c (restK st c s k) (restK st c s k).2.length

def gRest (st : Stp) (room : Int) (m : List Int) (hand : List Fr) : List Int × List Fr :=
  if mayC (injC room) = true ∧ (m.length : Int) = lSize (injC room) then restK st (injC room) (m, hand) 10 else ([], [])
def iRest := gRest iStep
def rRest := gRest riStep

section
variable {st : Stp} (hst : ∀ c m f, (st c m f).1.length = m.length)
include hst

theorem len_pRound (c : Cf) (s : Pl) (i : Nat) : (pRound st c s i).m.length = s.m.length ∧ (pRound st c s i).left.length = s.left.length ∧ (pRound st c s i).hand.length = s.hand.length ∧ (pRound st c s i).over.length ≤ s.over.length + 1 := by
  unfold pRound
  dsimp only
  split <;> simp [hst]

theorem len_pTurn (c : Cf) (n : Nat) (s : Pl) (i : Int) : (pTurn st c n s i).m.length = s.m.length ∧ (pTurn st c n s i).left.length = s.left.length ∧ (pTurn st c n s i).hand.length = s.hand.length ∧ (pTurn st c n s i).over.length ≤ s.over.length + 1 := by
  unfold pTurn
  split
  · exact len_pRound hst ..
  · exact ⟨rfl, rfl, rfl, by omega⟩

theorem len_pFold (c : Cf) (n : Nat) : ∀ (who : List Int) (s : Pl), (who.foldl (pTurn st c n) s).m.length = s.m.length ∧ (who.foldl (pTurn st c n) s).left.length = s.left.length ∧ (who.foldl (pTurn st c n) s).hand.length = s.hand.length ∧
    (who.foldl (pTurn st c n) s).over.length ≤ s.over.length + who.length
  | [], s => ⟨rfl, rfl, rfl, by simp⟩
  | i :: r, s => by
    obtain ⟨h1, h2, h3, h4⟩ := len_pFold c n r (pTurn st c n s i)
    obtain ⟨g1, g2, g3, g4⟩ := len_pTurn hst c n s i
    simp only [List.foldl_cons, List.length_cons]
    exact ⟨h1.trans g1, h2.trans g2, h3.trans g3, by omega⟩

omit hst in
theorem pFold_take (c : Cf) (n : Nat) (s : Pl) (who : List Int) (k : Nat) (hk : k < who.length) : (who.take (k + 1)).foldl (pTurn st c n) s = pTurn st c n ((who.take k).foldl (pTurn st c n) s) (who.getD k 0) := by
  rw [List.take_succ_eq_append_getElem hk, List.foldl_append]
  simp [List.getD_eq_getElem?_getD, hk]

end

theorem len_nextP (i : Int) : ∀ l : List Fr, (nextP i l).2.length ≤ l.length
  | [] => Nat.le_refl _
  | x :: r => by
    have := len_nextP i r
    unfold nextP
    split
    · simp
    · simp; omega

/-- How long what is left may be. -/
def Short (n : Nat) (left : List (List Fr)) : Prop := ∀ l ∈ left, l.length ≤ n
theorem Short.get {n : Nat} {left : List (List Fr)} (h : Short n left) (i : Nat) : (left.getD i []).length ≤ n := by
  rw [List.getD_eq_getElem?_getD]
  cases e : left[i]? with
  | none => simp
  | some l => exact h l (List.mem_of_getElem? e)
theorem Short.set {n : Nat} {left : List (List Fr)} (h : Short n left) (i : Nat) {l : List Fr} (hl : l.length ≤ n) : Short n (left.set i l) := by
  intro x hx
  rcases List.mem_or_eq_of_mem_set hx with h1 | h1
  · exact h x h1
  · rw [h1]; exact hl
theorem pHand_short {n : Nat} {s : Pl} (h : Short n s.left) (i : Nat) : (pHand s i).2.length ≤ n := by
  unfold pHand
  split
  · exact Nat.le_trans (len_nextP ..) (h.get i)
  · exact h.get i
theorem pTurn_short {st : Stp} {n k : Nat} {c : Cf} {s : Pl} (h : Short n s.left) (i : Int) : Short n (pTurn st c k s i).left := by
  unfold pTurn pRound
  dsimp only
  split
  · split
    · exact h.set _ (pHand_short h _)
    · exact h.set _ (pHand_short h _)
  · exact h
theorem pFold_short {st : Stp} {n k : Nat} {c : Cf} : ∀ (who : List Int) {s : Pl}, Short n s.left → Short n (who.foldl (pTurn st c k) s).left
  | [], s, h => h
  | i :: r, s, h => pFold_short r (pTurn_short h i)

theorem pFold_inv {st : Stp} {c : Cf} {n : Nat} (I : Pl → Prop) {s : Pl} (h0 : I s) (hs : ∀ s i, I s → I (pTurn st c n s i)) : ∀ who : List Int, I (who.foldl (pTurn st c n) s) := by
  intro who
  induction who generalizing s with
  | nil => exact h0
  | cons i r ih => exact ih (hs s i h0)

theorem lSize_le (c : Cf) : lSize c ≤ 190 := by
  unfold lSize
  split
  · rename_i hc
    obtain ⟨h1, h2, h3, h4, h5, h6, h7⟩ := mayC_iff.1 hc
    unfold lBase at *
    rcases h3 with e | e | e | e | e <;> rw [e] <;> omega
  · omega

theorem lSize_pos (c : Cf) : 0 ≤ lSize c := by
  unfold lSize
  split
  · rename_i hc
    obtain ⟨h1, h2, h3, h4, h5, h6, h7⟩ := mayC_iff.1 hc
    unfold lBase at *
    rcases h3 with e | e | e | e | e <;> rw [e] <;> omega
  · omega

/-- What a play is like, turn by turn. -/
structure Plays (st : Stp) (c : Cf) (calls : List (List Fr)) (who : List Int) (S : Nat → Pl) : Prop where
  zero : S 0 = pStart c calls
  succ : ∀ k, k < who.length → S (k + 1) = pTurn st c calls.length (S k) (who.getD k 0)
  last : S who.length = pAll st c calls who
  hand : ∀ k, (S k).hand.length = calls.length
  left : ∀ k, (S k).left.length = calls.length
  m : ∀ k, (S k).m.length ≤ 1000
  over : ∀ k, (S k).over.length ≤ who.length
  short : ∀ n, Short n calls → ∀ k, Short n (S k).left
  inv : ∀ I : Pl → Prop, I (pStart c calls) → (∀ s i, I s → I (pTurn st c calls.length s i)) → ∀ k, I (S k)

theorem plays {st : Stp} (hst : ∀ c m f, (st c m f).1.length = m.length) (c : Cf) (calls : List (List Fr)) (who : List Int) : ∃ S, Plays st c calls who S := by
  refine ⟨fun k => (who.take k).foldl (pTurn st c calls.length) (pStart c calls), rfl, fun k hk => pFold_take _ _ _ _ _ hk, by simp [pAll], ?_, ?_, ?_, ?_, ?_, ?_⟩
  all_goals intro k
  · rw [(len_pFold hst ..).2.2.1]; simp [pStart]
  · rw [(len_pFold hst ..).2.1]; simp [pStart]
  · rw [(len_pFold hst ..).1]; simp only [pStart, zeros_len]; have := lSize_le c; omega
  · have := (len_pFold hst c calls.length (who.take k) (pStart c calls)).2.2.2
    simp only [pStart, List.length_nil, List.length_take] at this
    refine Nat.le_trans this ?_
    omega
  · intro h j; exact pFold_short _ h
  · intro h0 hs j; exact pFold_inv k h0 hs _

theorem pTurn_nil (st : Stp) (c : Cf) (s : Pl) (i : Int) : pTurn st c 0 s i = s := by rw [pTurn, if_neg (by omega)]
theorem pAll_nil (st : Stp) (c : Cf) (who : List Int) : pAll st c [] who = pStart c [] := by
  unfold pAll
  generalize pStart c [] = s
  induction who generalizing s with
  | nil => rfl
  | cons i r ih => rw [List.foldl_cons, List.length_nil, pTurn_nil]; exact ih s

theorem op_eStep (c : Cf) (m : List Int) (f : Fr) : (eStep c m f).2.op = f.op := by
  unfold eStep; repeat' split
  all_goals rfl
theorem op_qStep (c : Cf) (m : List Int) (f : Fr) : (qStep c m f).2.op = f.op := by
  unfold qStep; repeat' split
  all_goals rfl
theorem op_rqStep (c : Cf) (m : List Int) (f : Fr) : (rqStep c m f).2.op = f.op := by
  unfold rqStep; repeat' split
  all_goals rfl
theorem op_iStep (c : Cf) (m : List Int) (f : Fr) : (iStep c m f).2.op = f.op := by
  unfold iStep; repeat' split
  all_goals first | rfl | exact op_eStep .. | exact op_qStep ..
theorem op_riStep (c : Cf) (m : List Int) (f : Fr) : (riStep c m f).2.op = f.op := by
  unfold riStep; repeat' split
  all_goals first | rfl | exact op_eStep .. | exact op_rqStep ..
theorem iStep_none (c : Cf) (m : List Int) : iStep c m noneF = (m, noneF) := rfl
theorem riStep_none (c : Cf) (m : List Int) : riStep c m noneF = (m, noneF) := rfl

theorem nextP_op (i : Int) : ∀ l : List Fr, nextP i l = (noneF, []) ∨ (nextP i l).1.op = 3 ∨ (nextP i l).1.op = 4
  | [] => .inl rfl
  | x :: r => by
    unfold nextP
    split
    · exact .inr ‹_›
    · exact nextP_op i r
theorem nextP_suf (i : Int) : ∀ l : List Fr, (nextP i l).2 <:+ l
  | [] => List.suffix_refl _
  | x :: r => by
    unfold nextP
    split
    · exact List.suffix_cons x r
    · exact (nextP_suf i r).trans (List.suffix_cons x r)

/-- What is at hand is nothing, or a call. -/
def OpOk (x : Fr) : Prop := x = noneF ∨ x.op = 3 ∨ x.op = 4
def Sane (s : Pl) : Prop := ∀ i, OpOk (s.hand.getD i noneF)

theorem getD_set {α : Type} (l : List α) (k i : Nat) (a d : α) : (l.set k a).getD i d = if k = i ∧ k < l.length then a else l.getD i d := by
  rw [List.getD_eq_getElem?_getD, List.getElem?_set, List.getD_eq_getElem?_getD]
  by_cases h : k = i
  · subst h
    by_cases h2 : k < l.length
    · simp [h2]
    · simp [h2]
  · simp [h]

theorem pHand_ok {s : Pl} (h : Sane s) (i : Nat) : OpOk (pHand s i).1 := by
  unfold pHand
  split
  · rcases nextP_op i (s.left.getD i []) with e | e | e
    · rw [e]; exact .inl rfl
    · exact .inr (.inl e)
    · exact .inr (.inr e)
  · exact h i

theorem pTurn_sane {st : Stp} (hop : ∀ c m f, (st c m f).2.op = f.op) (hno : ∀ c m, st c m noneF = (m, noneF)) {c : Cf} {n : Nat} {s : Pl} (h : Sane s) (i : Int) : Sane (pTurn st c n s i) := by
  unfold pTurn pRound
  dsimp only
  split
  · split
    · intro j
      show OpOk ((s.hand.set _ _).getD j noneF)
      rw [getD_set]
      split
      · rcases pHand_ok h i.toNat with e | e | e
        · rw [e, hno]; exact .inl rfl
        · exact .inr (.inl ((hop ..).trans e))
        · exact .inr (.inr ((hop ..).trans e))
      · exact h j
    · intro j
      show OpOk ((s.hand.set _ _).getD j noneF)
      rw [getD_set]
      split
      · exact .inl rfl
      · exact h j
  · exact h

def Suf (calls : List (List Fr)) (s : Pl) : Prop := ∀ i, s.left.getD i [] <:+ calls.getD i []
theorem pHand_suf (s : Pl) (i : Nat) : (pHand s i).2 <:+ s.left.getD i [] := by
  unfold pHand
  split
  · exact nextP_suf ..
  · exact List.suffix_refl _
theorem pTurn_suf {st : Stp} {calls : List (List Fr)} {c : Cf} {n : Nat} {s : Pl} (h : Suf calls s) (i : Int) : Suf calls (pTurn st c n s i) := by
  have key : Suf calls ⟨s.m, s.left.set i.toNat (pHand s i.toNat).2, s.hand, s.over⟩ := by
    intro j
    show (s.left.set _ _).getD j [] <:+ _
    rw [getD_set]
    split
    · rename_i e
      rw [← e.1]
      exact (pHand_suf s i.toNat).trans (h i.toNat)
    · exact h j
  unfold pTurn pRound
  dsimp only
  split
  · split
    · exact key
    · exact key
  · exact h

theorem Plays.sane {st : Stp} (hop : ∀ c m f, (st c m f).2.op = f.op) (hno : ∀ c m, st c m noneF = (m, noneF)) {c : Cf} {calls : List (List Fr)} {who : List Int} {S : Nat → Pl} (h : Plays st c calls who S) (k : Nat) : Sane (S k) := by
  refine h.inv Sane ?_ (fun s i hs => pTurn_sane hop hno hs i) k
  intro i
  simp only [pStart]
  rw [List.getD_eq_getElem?_getD, List.getElem?_replicate]
  split <;> exact .inl rfl
theorem Plays.suf {st : Stp} {c : Cf} {calls : List (List Fr)} {who : List Int} {S : Nat → Pl} (h : Plays st c calls who S) (k : Nat) : Suf calls (S k) :=
  h.inv (Suf calls) (fun i => List.suffix_refl _) (fun s i hs => pTurn_suf hs i) k

/-- How many of each list are gone. -/
def goneP (calls left : List (List Fr)) : List Int := List.zipWith (fun a b => (((a.length - b.length : Nat)) : Int)) calls left
theorem len_goneP {calls left : List (List Fr)} (h : left.length = calls.length) : (goneP calls left).length = calls.length := by simp [goneP, h]
theorem goneP_getD {calls left : List (List Fr)} {i : Nat} (h1 : i < calls.length) (h2 : i < left.length) : (goneP calls left).getD i 0 = (((calls.getD i []).length - (left.getD i []).length : Nat) : Int) := by
  simp [goneP, List.getD_eq_getElem?_getD, List.getElem?_zipWith, h1, h2]
theorem goneP_set {calls left : List (List Fr)} {i : Nat} (h1 : i < calls.length) (l : List Fr) : goneP calls (left.set i l) = (goneP calls left).set i ((((calls.getD i []).length - l.length : Nat)) : Int) := by
  apply List.ext_getElem?
  intro j
  simp only [goneP, List.getElem?_zipWith, List.getElem?_set, List.length_zipWith]
  by_cases e : i = j
  · subst e
    by_cases h2 : i < left.length
    · simp [h1, h2, List.getD_eq_getElem?_getD]; omega
    · simp [h2]; omega
  · simp [e]
theorem goneP_self (calls : List (List Fr)) : goneP calls calls = List.replicate calls.length 0 := by
  induction calls with
  | nil => rfl
  | cons a r ih =>
    simp only [goneP, List.zipWith_cons_cons, Nat.sub_self, List.length_cons, List.replicate_succ] at ih ⊢
    rw [ih]; rfl
theorem suf_drop {l r : List Fr} (h : r <:+ l) : l.drop (l.length - r.length) = r := (List.suffix_iff_eq_drop.1 h).symm

section
variable {st : Stp} (hst : ∀ c m f, (st c m f).1.length = m.length)
include hst
theorem len_restN (c : Cf) : ∀ (n : Nat) (s : List Int × Fr), (restN st c n s).1.length = s.1.length
  | 0, s => rfl
  | n + 1, s => by
    unfold restN
    split
    · rfl
    · rw [len_restN c n]; exact hst ..
theorem len_restTo (c : Cf) (s : List Int × List Fr) : ∀ i : Nat, (restTo st c s i).1.length = s.1.length ∧ (restTo st c s i).2.length = s.2.length
  | 0 => ⟨rfl, rfl⟩
  | i + 1 => by
    obtain ⟨h1, h2⟩ := len_restTo c s i
    unfold restTo restAt
    exact ⟨(len_restN hst ..).trans h1, by simp [h2]⟩
theorem len_restK (c : Cf) (s : List Int × List Fr) : ∀ k : Nat, (restK st c s k).1.length = s.1.length ∧ (restK st c s k).2.length = s.2.length
  | 0 => ⟨rfl, rfl⟩
  | k + 1 => by
    obtain ⟨h1, h2⟩ := len_restK c s k
    unfold restK
    obtain ⟨g1, g2⟩ := len_restTo hst c (restK st c s k) (restK st c s k).2.length
    exact ⟨g1.trans h1, g2.trans h2⟩
end
theorem restN_stop {st : Stp} {c : Cf} {n : Nat} {s : List Int × Fr} (h : s.2.op = -1 ∨ s.2.res ≠ 0) : restN st c n s = s := by
  cases n with
  | zero => rfl
  | succ n => unfold restN; exact if_pos h
theorem restN_go {st : Stp} {c : Cf} {n : Nat} {s : List Int × Fr} (h : ¬ (s.2.op = -1 ∨ s.2.res ≠ 0)) : restN st c (n + 1) s = restN st c n (st c s.1 s.2) := by
  rw [restN]; exact if_neg h
end Go.Vai
/- What all do, by the program and by the document: the same. -/
namespace Go.Vai
open Go.RowKit
set_option linter.unusedVariables false
set_option linter.unusedSimpArgs false

theorem InM.store {m : List Int} (h : InM m) (i : Int) {v : Int} (hv : InU v) : InM (mStore m i v) := store_u h hv
theorem InM.cas {m : List Int} (h : InM m) (i a : Int) {v : Int} (hv : InU v) : InM (mCas m i a v) := by
  unfold mCas
  split
  · exact fun x hx => (List.mem_or_eq_of_mem_set hx).elim (h x) (fun e => e ▸ hv)
  · exact h
theorem zero_u : InU 0 := ⟨by decide, by decide⟩
theorem iStep_ok {c : Cf} {m : List Int} {f : Fr} (h : InM m) (hf : InU f.val) : InM (iStep c m f).1 ∧ InU (iStep c m f).2.val := by
  unfold iStep
  split
  · unfold eStep
    repeat' split
    all_goals first | exact ⟨h, hf⟩ | exact ⟨h.cas _ _ (wrapU_u _), hf⟩ | exact ⟨h.store _ hf, hf⟩ | exact ⟨h.store _ (wrapU_u _), hf⟩
  · split
    · unfold qStep
      repeat' split
      all_goals first | exact ⟨h, hf⟩ | exact ⟨h.cas _ _ (wrapU_u _), hf⟩ | exact ⟨h, load_u h _⟩ | exact ⟨h, zero_u⟩ | exact ⟨h.store _ (wrapU_u _), hf⟩
    · exact ⟨h, hf⟩

/-- All values are numbers in range. -/
def VU (l : List Fr) : Prop := ∀ x ∈ l, InU x.val
theorem VU.get {l : List Fr} (h : VU l) (i : Nat) : InU (l.getD i noneF).val := by
  rw [List.getD_eq_getElem?_getD]
  cases e : l[i]? with
  | none => exact zero_u
  | some x => exact h x (List.mem_of_getElem? e)
theorem VU.set {l : List Fr} (h : VU l) (i : Nat) {x : Fr} (hx : InU x.val) : VU (l.set i x) := by
  intro y hy
  rcases List.mem_or_eq_of_mem_set hy with e | e
  · exact h y e
  · rw [e]; exact hx
theorem nextP_u (i : Int) : ∀ l : List Fr, VU l → InU (nextP i l).1.val ∧ VU (nextP i l).2
  | [], h => ⟨zero_u, h⟩
  | x :: r, h => by
    unfold nextP
    split
    · exact ⟨h x (by simp), fun y hy => h y (by simp [hy])⟩
    · exact nextP_u i r fun y hy => h y (by simp [hy])

structure PlU (s : Pl) : Prop where
  m : InM s.m
  left : ∀ l ∈ s.left, VU l
  hand : VU s.hand
theorem PlU.lget {s : Pl} (h : PlU s) (i : Nat) : VU (s.left.getD i []) := by
  rw [List.getD_eq_getElem?_getD]
  cases e : s.left[i]? with
  | none => intro x hx; cases hx
  | some l => exact h.left l (List.mem_of_getElem? e)
theorem pHand_u {s : Pl} (h : PlU s) (i : Nat) : InU (pHand s i).1.val ∧ VU (pHand s i).2 := by
  unfold pHand
  split
  · exact nextP_u _ _ (h.lget i)
  · exact ⟨h.hand.get i, h.lget i⟩
theorem pTurn_u {c : Cf} {n : Nat} {s : Pl} (h : PlU s) (i : Int) : PlU (pTurn iStep c n s i) := by
  unfold pTurn pRound
  dsimp only
  split
  · obtain ⟨h1, h2⟩ := pHand_u h i.toNat
    obtain ⟨g1, g2⟩ := iStep_ok (c := c) h.m h1
    have hl : ∀ l ∈ s.left.set i.toNat (pHand s i.toNat).2, VU l := by
      intro l hl
      rcases List.mem_or_eq_of_mem_set hl with e | e
      · exact h.left l e
      · rw [e]; exact h2
    split
    · exact ⟨g1, hl, h.hand.set _ g2⟩
    · exact ⟨g1, hl, h.hand.set _ zero_u⟩
  · exact h
theorem pTurn_eq {c : Cf} {n : Nat} {s : Pl} (h : PlU s) (i : Int) : pTurn riStep c n s i = pTurn iStep c n s i := by
  unfold pTurn pRound
  dsimp only
  rw [riStep_eq h.m]
theorem pFold_eq {c : Cf} {n : Nat} : ∀ (who : List Int) {s : Pl}, PlU s → who.foldl (pTurn riStep c n) s = who.foldl (pTurn iStep c n) s
  | [], s, h => rfl
  | i :: r, s, h => by
    rw [List.foldl_cons, List.foldl_cons, pTurn_eq h]
    exact pFold_eq r (pTurn_u h i)
theorem pFold_u {c : Cf} {n : Nat} (who : List Int) {s : Pl} (h : PlU s) : PlU (who.foldl (pTurn iStep c n) s) := pFold_inv PlU h (fun s i hs => pTurn_u hs i) who

theorem zeros_u (n : Nat) : InM (zeros n) := by
  intro x hx
  rw [zeros, List.mem_replicate] at hx
  rw [hx.2]; exact zero_u
theorem pStart_u {c : Cf} {calls : List (List Fr)} (h : ∀ l ∈ calls, VU l) : PlU (pStart c calls) := ⟨zeros_u _, h, by
  intro x hx
  simp only [pStart, List.mem_replicate] at hx
  rw [hx.2]; exact zero_u⟩
theorem rPlay_eq {room : Int} {calls : List (List Fr)} {who : List Int} (h : ∀ l ∈ calls, VU l) : rPlay room calls who = iPlay room calls who := by
  unfold rPlay iPlay gPlay pAll
  rw [pFold_eq who (pStart_u h)]
theorem iPlay_u {room : Int} {calls : List (List Fr)} {who : List Int} (h : ∀ l ∈ calls, VU l) : InM (iPlay room calls who).1 ∧ VU (iPlay room calls who).2.2 := by
  unfold iPlay gPlay
  split
  · have := pFold_u (c := injC room) (n := calls.length) who (pStart_u (c := injC room) h)
    exact ⟨this.m, this.hand⟩
  · exact ⟨(fun x hx => by cases hx), (fun x hx => by cases hx)⟩

theorem restN_u {c : Cf} : ∀ (n : Nat) {s : List Int × Fr}, InM s.1 → InU s.2.val → restN riStep c n s = restN iStep c n s ∧ InM (restN iStep c n s).1 ∧ InU (restN iStep c n s).2.val
  | 0, s, h, hf => ⟨rfl, h, hf⟩
  | n + 1, s, h, hf => by
    unfold restN
    split
    · exact ⟨rfl, h, hf⟩
    · rw [riStep_eq h]
      obtain ⟨g1, g2⟩ := iStep_ok (c := c) h hf
      exact restN_u n g1 g2
theorem restTo_u {c : Cf} {s : List Int × List Fr} (h : InM s.1) (hf : VU s.2) : ∀ i : Nat, restTo riStep c s i = restTo iStep c s i ∧ InM (restTo iStep c s i).1 ∧ VU (restTo iStep c s i).2
  | 0 => ⟨rfl, h, hf⟩
  | i + 1 => by
    obtain ⟨e, h1, h2⟩ := restTo_u h hf i
    unfold restTo restAt
    rw [e]
    obtain ⟨g1, g2, g3⟩ := restN_u (c := c) 20 (s := ((restTo iStep c s i).1, (restTo iStep c s i).2.getD i noneF)) h1 (h2.get i)
    rw [g1]
    exact ⟨rfl, g2, h2.set _ g3⟩
theorem restK_u {c : Cf} {s : List Int × List Fr} (h : InM s.1) (hf : VU s.2) : ∀ k : Nat, restK riStep c s k = restK iStep c s k ∧ InM (restK iStep c s k).1 ∧ VU (restK iStep c s k).2
  | 0 => ⟨rfl, h, hf⟩
  | k + 1 => by
    obtain ⟨e, h1, h2⟩ := restK_u h hf k
    unfold restK
    rw [e]
    exact restTo_u h1 h2 _
theorem rRest_eq {room : Int} {m : List Int} {hand : List Fr} (h : InM m) (hf : VU hand) : rRest room m hand = iRest room m hand := by
  unfold rRest iRest gRest
  split
  · exact (restK_u (c := injC room) (s := (m, hand)) h hf 10).1
  · rfl

theorem len_iPlay (room : Int) (calls : List (List Fr)) (who : List Int) : (iPlay room calls who).1.length ≤ 190 ∧ (iPlay room calls who).2.1.length ≤ who.length ∧ (iPlay room calls who).2.2.length ≤ calls.length := by
  unfold iPlay gPlay pAll
  split
  · obtain ⟨h1, h2, h3, h4⟩ := len_pFold len_iStep (injC room) calls.length who (pStart (injC room) calls)
    refine ⟨?_, ?_, ?_⟩
    · dsimp only; rw [h1]; simp only [pStart, zeros_len]; have := lSize_le (injC room); omega
    · dsimp only; simp only [pStart, List.length_nil] at h4 ⊢; omega
    · dsimp only; rw [h3]; simp [pStart]
  · simp
theorem len_iRest (room : Int) (m : List Int) (hand : List Fr) : (iRest room m hand).1.length ≤ m.length ∧ (iRest room m hand).2.length ≤ hand.length := by
  unfold iRest gRest
  split
  · obtain ⟨h1, h2⟩ := len_restK len_iStep (injC room) (m, hand) 10
    exact ⟨by rw [h1]; exact Nat.le_refl _, by rw [h2]; exact Nat.le_refl _⟩
  · simp

/-- Few lists of few. -/
def fewC (l : List (List Fr)) : Bool := decide (l.length ≤ 10) && (l.take 11).all fun x => decide (x.length ≤ 30)
theorem fewC_short {l : List (List Fr)} (h : fewC l = true) : l.length ≤ 10 ∧ Short 1000 l := by
  unfold fewC at h
  rw [Bool.and_eq_true, decide_eq_true_eq, List.all_eq_true] at h
  refine ⟨h.1, fun x hx => ?_⟩
  rw [List.take_of_length_le (by omega)] at h
  have := of_decide_eq_true (h.2 x hx)
  omega
instance (n : Nat) (l : List (List Fr)) : Decidable (Short n l) := by unfold Short; infer_instance
end Go.Vai
/- The injector, and all who are at it: steps, and the next call of a list. -/
namespace Go.Vai
open Go.RowKit Go.Proofs
set_option linter.unusedSimpArgs false
set_option linter.unusedVariables false
set_option maxHeartbeats 4000000
set_option maxRecDepth 100000

theorem istep_pure (c : Cf) (m : List Int) (f : Fr) (hm : m.length ≤ 1000) : PureC Try.prog 35 [cv' c, ms m, fv f] (sv (iStep c m f)) := by
  refine pure_sub okDC 1 Try.func35 rfl (by show 3 ≤ _; decide) ?_
  by_cases h3 : f.op = 3
  · have e3 : (f.op == 3) = true := by simpa using h3
    rw [show iStep c m f = eStep c m f from if_pos h3]
    simp only [Try.f35, DC_all, e3, hm, inl, sv, fv, hfree_fr, hfree_cf, cv', cf_eta, frz_u, shC_dec, dC, T23, T28, T25, hfree_lu, hfree_l0, row0, row1, row2, row3, row4, row5, shI_dec, shN_dec, shB_dec, shM_dec, dI, dN, dB, dM, dU, dU_map, iv, bv, u, ms, ctx_T, ctx_C, ctx_P, T4, T3, T26, Option.bind_some, Option.bind_none, Option.map_some, List.length_map, List.length_set, String.reduceBEq, Int.toNat_natCast, Bool.true_beq, Bool.false_beq, T24, shF_dec, dF, fr_eta, Int.cast_ofNat_Int, Int.reduceSub, Int.reduceAdd, Int.reduceNeg, ev1, ev2, implies_true, undef, stepP, dynCall, ↓condE_t, ↓condE_f, ↓guardE_tt, ↓guardE_ff, ↓guardE_tf, ↓guardE_ft, frzDeep, deepArgs, deepArg, resB, cv, stepB, stepE, callD, tabD, snapD, snap1, snapC, snapId, snapIds, guardB, guardC, dstAt, aopR, one, pre, binR, intOpR, shiftOpR, unR, argFrm, evo, lkp, hlk, lenOf, asLst, idOf, bndA, srcOk, ofVal, ofCells, setCells, fillA, setElems, fieldsOf, fieldsEq, scalEq, isEq, AV.wr, AV.ok1, TK.agg, frz, frzs, frzA, frzArg, frzArgs, subA, subL, sub1, kp, kh, accOf, List.replicate, Nat.reduceAdd, Nat.reduceSub, Nat.reduceMul, Nat.reduceEqDiff, Nat.reduceLT, Nat.reduceLeDiff, Nat.reduceBEq, reduceIte, reduceCtorEq, eq_self, ne_eq, Int.reduceToNat, Int.reduceLT, Int.reduceLE, Int.reduceGT, Int.reduceGE, Int.reduceBEq, Int.reduceBNe, Int.reduceEq, Int.reduceNe]
    all_goals ((repeat' apply And.intro) <;> first | rfl | omega | (show entryOk _ _ _ _ _ = true; kernel_rfl) | (show pivotOk _ _ = true; kernel_rfl) | decide)
  · have e3 : (f.op == 3) = false := by simpa using h3
    by_cases h4 : f.op = 4
    · have e4 : (f.op == 4) = true := by simpa using h4
      rw [show iStep c m f = qStep c m f from (if_neg h3).trans (if_pos h4)]
      simp only [Try.f35, DC_all, e3, e4, hm, inl, sv, fv, hfree_fr, hfree_cf, cv', cf_eta, frz_u, shC_dec, dC, T23, T28, T25, hfree_lu, hfree_l0, row0, row1, row2, row3, row4, row5, shI_dec, shN_dec, shB_dec, shM_dec, dI, dN, dB, dM, dU, dU_map, iv, bv, u, ms, ctx_T, ctx_C, ctx_P, T4, T3, T26, Option.bind_some, Option.bind_none, Option.map_some, List.length_map, List.length_set, String.reduceBEq, Int.toNat_natCast, Bool.true_beq, Bool.false_beq, T24, shF_dec, dF, fr_eta, Int.cast_ofNat_Int, Int.reduceSub, Int.reduceAdd, Int.reduceNeg, ev1, ev2, implies_true, undef, stepP, dynCall, ↓condE_t, ↓condE_f, ↓guardE_tt, ↓guardE_ff, ↓guardE_tf, ↓guardE_ft, frzDeep, deepArgs, deepArg, resB, cv, stepB, stepE, callD, tabD, snapD, snap1, snapC, snapId, snapIds, guardB, guardC, dstAt, aopR, one, pre, binR, intOpR, shiftOpR, unR, argFrm, evo, lkp, hlk, lenOf, asLst, idOf, bndA, srcOk, ofVal, ofCells, setCells, fillA, setElems, fieldsOf, fieldsEq, scalEq, isEq, AV.wr, AV.ok1, TK.agg, frz, frzs, frzA, frzArg, frzArgs, subA, subL, sub1, kp, kh, accOf, List.replicate, Nat.reduceAdd, Nat.reduceSub, Nat.reduceMul, Nat.reduceEqDiff, Nat.reduceLT, Nat.reduceLeDiff, Nat.reduceBEq, reduceIte, reduceCtorEq, eq_self, ne_eq, Int.reduceToNat, Int.reduceLT, Int.reduceLE, Int.reduceGT, Int.reduceGE, Int.reduceBEq, Int.reduceBNe, Int.reduceEq, Int.reduceNe]
      all_goals ((repeat' apply And.intro) <;> first | rfl | omega | (show entryOk _ _ _ _ _ = true; kernel_rfl) | (show pivotOk _ _ = true; kernel_rfl) | decide)
    · have e4 : (f.op == 4) = false := by simpa using h4
      rw [show iStep c m f = (m, f) from (if_neg h3).trans (if_neg h4)]
      simp only [Try.f35, DC_all, e3, e4, hm, inl, sv, fv, hfree_fr, hfree_cf, cv', cf_eta, frz_u, shC_dec, dC, T23, T28, T25, hfree_lu, hfree_l0, row0, row1, row2, row3, row4, row5, shI_dec, shN_dec, shB_dec, shM_dec, dI, dN, dB, dM, dU, dU_map, iv, bv, u, ms, ctx_T, ctx_C, ctx_P, T4, T3, T26, Option.bind_some, Option.bind_none, Option.map_some, List.length_map, List.length_set, String.reduceBEq, Int.toNat_natCast, Bool.true_beq, Bool.false_beq, T24, shF_dec, dF, fr_eta, Int.cast_ofNat_Int, Int.reduceSub, Int.reduceAdd, Int.reduceNeg, ev1, ev2, implies_true, undef, stepP, dynCall, ↓condE_t, ↓condE_f, ↓guardE_tt, ↓guardE_ff, ↓guardE_tf, ↓guardE_ft, frzDeep, deepArgs, deepArg, resB, cv, stepB, stepE, callD, tabD, snapD, snap1, snapC, snapId, snapIds, guardB, guardC, dstAt, aopR, one, pre, binR, intOpR, shiftOpR, unR, argFrm, evo, lkp, hlk, lenOf, asLst, idOf, bndA, srcOk, ofVal, ofCells, setCells, fillA, setElems, fieldsOf, fieldsEq, scalEq, isEq, AV.wr, AV.ok1, TK.agg, frz, frzs, frzA, frzArg, frzArgs, subA, subL, sub1, kp, kh, accOf, List.replicate, Nat.reduceAdd, Nat.reduceSub, Nat.reduceMul, Nat.reduceEqDiff, Nat.reduceLT, Nat.reduceLeDiff, Nat.reduceBEq, reduceIte, reduceCtorEq, eq_self, ne_eq, Int.reduceToNat, Int.reduceLT, Int.reduceLE, Int.reduceGT, Int.reduceGE, Int.reduceBEq, Int.reduceBNe, Int.reduceEq, Int.reduceNe]
      all_goals ((repeat' apply And.intro) <;> first | rfl | omega | (show entryOk _ _ _ _ _ = true; kernel_rfl) | (show pivotOk _ _ = true; kernel_rfl) | decide)

theorem ristep_pure (c : Cf) (m : List Int) (f : Fr) (hm : m.length ≤ 1000) : PureC Try.prog 36 [cv' c, ms m, fv f] (sv (riStep c m f)) := by
  refine pure_sub okDC 1 Try.func36 rfl (by show 3 ≤ _; decide) ?_
  by_cases h3 : f.op = 3
  · have e3 : (f.op == 3) = true := by simpa using h3
    rw [show riStep c m f = eStep c m f from if_pos h3]
    simp only [Try.f36, DC_all, e3, hm, inl, sv, fv, hfree_fr, hfree_cf, cv', cf_eta, frz_u, shC_dec, dC, T23, T28, T25, hfree_lu, hfree_l0, row0, row1, row2, row3, row4, row5, shI_dec, shN_dec, shB_dec, shM_dec, dI, dN, dB, dM, dU, dU_map, iv, bv, u, ms, ctx_T, ctx_C, ctx_P, T4, T3, T26, Option.bind_some, Option.bind_none, Option.map_some, List.length_map, List.length_set, String.reduceBEq, Int.toNat_natCast, Bool.true_beq, Bool.false_beq, T24, shF_dec, dF, fr_eta, Int.cast_ofNat_Int, Int.reduceSub, Int.reduceAdd, Int.reduceNeg, ev1, ev2, implies_true, undef, stepP, dynCall, ↓condE_t, ↓condE_f, ↓guardE_tt, ↓guardE_ff, ↓guardE_tf, ↓guardE_ft, frzDeep, deepArgs, deepArg, resB, cv, stepB, stepE, callD, tabD, snapD, snap1, snapC, snapId, snapIds, guardB, guardC, dstAt, aopR, one, pre, binR, intOpR, shiftOpR, unR, argFrm, evo, lkp, hlk, lenOf, asLst, idOf, bndA, srcOk, ofVal, ofCells, setCells, fillA, setElems, fieldsOf, fieldsEq, scalEq, isEq, AV.wr, AV.ok1, TK.agg, frz, frzs, frzA, frzArg, frzArgs, subA, subL, sub1, kp, kh, accOf, List.replicate, Nat.reduceAdd, Nat.reduceSub, Nat.reduceMul, Nat.reduceEqDiff, Nat.reduceLT, Nat.reduceLeDiff, Nat.reduceBEq, reduceIte, reduceCtorEq, eq_self, ne_eq, Int.reduceToNat, Int.reduceLT, Int.reduceLE, Int.reduceGT, Int.reduceGE, Int.reduceBEq, Int.reduceBNe, Int.reduceEq, Int.reduceNe]
    all_goals ((repeat' apply And.intro) <;> first | rfl | omega | (show entryOk _ _ _ _ _ = true; kernel_rfl) | (show pivotOk _ _ = true; kernel_rfl) | decide)
  · have e3 : (f.op == 3) = false := by simpa using h3
    by_cases h4 : f.op = 4
    · have e4 : (f.op == 4) = true := by simpa using h4
      rw [show riStep c m f = rqStep c m f from (if_neg h3).trans (if_pos h4)]
      simp only [Try.f36, DC_all, e3, e4, hm, inl, sv, fv, hfree_fr, hfree_cf, cv', cf_eta, frz_u, shC_dec, dC, T23, T28, T25, hfree_lu, hfree_l0, row0, row1, row2, row3, row4, row5, shI_dec, shN_dec, shB_dec, shM_dec, dI, dN, dB, dM, dU, dU_map, iv, bv, u, ms, ctx_T, ctx_C, ctx_P, T4, T3, T26, Option.bind_some, Option.bind_none, Option.map_some, List.length_map, List.length_set, String.reduceBEq, Int.toNat_natCast, Bool.true_beq, Bool.false_beq, T24, shF_dec, dF, fr_eta, Int.cast_ofNat_Int, Int.reduceSub, Int.reduceAdd, Int.reduceNeg, ev1, ev2, implies_true, undef, stepP, dynCall, ↓condE_t, ↓condE_f, ↓guardE_tt, ↓guardE_ff, ↓guardE_tf, ↓guardE_ft, frzDeep, deepArgs, deepArg, resB, cv, stepB, stepE, callD, tabD, snapD, snap1, snapC, snapId, snapIds, guardB, guardC, dstAt, aopR, one, pre, binR, intOpR, shiftOpR, unR, argFrm, evo, lkp, hlk, lenOf, asLst, idOf, bndA, srcOk, ofVal, ofCells, setCells, fillA, setElems, fieldsOf, fieldsEq, scalEq, isEq, AV.wr, AV.ok1, TK.agg, frz, frzs, frzA, frzArg, frzArgs, subA, subL, sub1, kp, kh, accOf, List.replicate, Nat.reduceAdd, Nat.reduceSub, Nat.reduceMul, Nat.reduceEqDiff, Nat.reduceLT, Nat.reduceLeDiff, Nat.reduceBEq, reduceIte, reduceCtorEq, eq_self, ne_eq, Int.reduceToNat, Int.reduceLT, Int.reduceLE, Int.reduceGT, Int.reduceGE, Int.reduceBEq, Int.reduceBNe, Int.reduceEq, Int.reduceNe]
      all_goals ((repeat' apply And.intro) <;> first | rfl | omega | (show entryOk _ _ _ _ _ = true; kernel_rfl) | (show pivotOk _ _ = true; kernel_rfl) | decide)
    · have e4 : (f.op == 4) = false := by simpa using h4
      rw [show riStep c m f = (m, f) from (if_neg h3).trans (if_neg h4)]
      simp only [Try.f36, DC_all, e3, e4, hm, inl, sv, fv, hfree_fr, hfree_cf, cv', cf_eta, frz_u, shC_dec, dC, T23, T28, T25, hfree_lu, hfree_l0, row0, row1, row2, row3, row4, row5, shI_dec, shN_dec, shB_dec, shM_dec, dI, dN, dB, dM, dU, dU_map, iv, bv, u, ms, ctx_T, ctx_C, ctx_P, T4, T3, T26, Option.bind_some, Option.bind_none, Option.map_some, List.length_map, List.length_set, String.reduceBEq, Int.toNat_natCast, Bool.true_beq, Bool.false_beq, T24, shF_dec, dF, fr_eta, Int.cast_ofNat_Int, Int.reduceSub, Int.reduceAdd, Int.reduceNeg, ev1, ev2, implies_true, undef, stepP, dynCall, ↓condE_t, ↓condE_f, ↓guardE_tt, ↓guardE_ff, ↓guardE_tf, ↓guardE_ft, frzDeep, deepArgs, deepArg, resB, cv, stepB, stepE, callD, tabD, snapD, snap1, snapC, snapId, snapIds, guardB, guardC, dstAt, aopR, one, pre, binR, intOpR, shiftOpR, unR, argFrm, evo, lkp, hlk, lenOf, asLst, idOf, bndA, srcOk, ofVal, ofCells, setCells, fillA, setElems, fieldsOf, fieldsEq, scalEq, isEq, AV.wr, AV.ok1, TK.agg, frz, frzs, frzA, frzArg, frzArgs, subA, subL, sub1, kp, kh, accOf, List.replicate, Nat.reduceAdd, Nat.reduceSub, Nat.reduceMul, Nat.reduceEqDiff, Nat.reduceLT, Nat.reduceLeDiff, Nat.reduceBEq, reduceIte, reduceCtorEq, eq_self, ne_eq, Int.reduceToNat, Int.reduceLT, Int.reduceLE, Int.reduceGT, Int.reduceGE, Int.reduceBEq, Int.reduceBNe, Int.reduceEq, Int.reduceNe]
      all_goals ((repeat' apply And.intro) <;> first | rfl | omega | (show entryOk _ _ _ _ _ = true; kernel_rfl) | (show pivotOk _ _ = true; kernel_rfl) | decide)

theorem drop_f {l : List Fr} {k : Nat} (h : k < l.length) : l.drop k = l.getD k fr0 :: l.drop (k + 1) := by
  rw [List.drop_eq_getElem_cons h]; simp [List.getD_eq_getElem?_getD, h]

theorem cut_f (l : List Fr) (k : Nat) : ((l.map fv).drop (k + 1)).take (l.length - (k + 1)) = (l.drop (k + 1)).map fv := by
  rw [List.take_of_length_le (by simp), List.map_drop]

theorem next_pure (l : List Fr) (i : Int) (hl : l.length ≤ 1000) : PureC Try.prog 82 [fs l, iv i] (.tup [fv (nextP i l).1, fs (nextP i l).2]) := by
  refine pure_sub okDC 1 Try.func82 rfl (by show 2 ≤ _; decide) ?_
  simp only [Try.f82, inl, DC_all, fs, sv, fv, len_fs, T52, hfree_fr, hfree_cf, cv', cf_eta, frz_u, shC_dec, dC, T23, T28, T25, hfree_lu, hfree_l0, row0, row1, row2, row3, row4, row5, shI_dec, shN_dec, shB_dec, shM_dec, dI, dN, dB, dM, dU, dU_map, iv, bv, u, ms, ctx_T, ctx_C, ctx_P, T4, T3, T26, Option.bind_some, Option.bind_none, Option.map_some, List.length_map, List.length_set, String.reduceBEq, Int.toNat_natCast, Bool.true_beq, Bool.false_beq, T24, shF_dec, dF, fr_eta, Int.cast_ofNat_Int, Int.reduceSub, Int.reduceAdd, Int.reduceNeg, ev1, ev2, implies_true, undef, stepP, dynCall, ↓condE_t, ↓condE_f, ↓guardE_tt, ↓guardE_ff, ↓guardE_tf, ↓guardE_ft, frzDeep, deepArgs, deepArg, resB, cv, stepB, stepE, callD, tabD, snapD, snap1, snapC, snapId, snapIds, guardB, guardC, dstAt, aopR, one, pre, binR, intOpR, shiftOpR, unR, argFrm, evo, lkp, hlk, lenOf, asLst, idOf, bndA, srcOk, ofVal, ofCells, setCells, fillA, setElems, fieldsOf, fieldsEq, scalEq, isEq, AV.wr, AV.ok1, TK.agg, frz, frzs, frzA, frzArg, frzArgs, subA, subL, sub1, kp, kh, accOf, List.replicate, Nat.reduceAdd, Nat.reduceSub, Nat.reduceMul, Nat.reduceEqDiff, Nat.reduceLT, Nat.reduceLeDiff, Nat.reduceBEq, reduceIte, reduceCtorEq, eq_self, ne_eq, Int.reduceToNat, Int.reduceLT, Int.reduceLE, Int.reduceGT, Int.reduceGE, Int.reduceBEq, Int.reduceBNe, Int.reduceEq, Int.reduceNe]
  refine WP.loop (ι := Nat) (fun k => l.length - k) (fun k => k ≤ l.length ∧ nextP i (l.drop k) = nextP i l) (n := 40) (fr := fun k => [(13, iv k), (12, iv l.length), (11, fs l), (6, iv l.length), (5, .v (.slice none 0 0)), (4, .ptr 0 0 0), (0, fs l), (1, iv i)])
    (hp := fun k => [(0, some ⟨false, 28, 7, [fv fr0]⟩)]) (N := 0) ?_ 0 ⟨Nat.zero_le _, rfl⟩ rfl (Nat.zero_le _) ⟨rfl, rfl, rfl, rfl, rfl, rfl, rfl, rfl, trivial⟩ ⟨rfl, trivial⟩
  rintro k nx ⟨hk, hi⟩ _ hid
  have n1 : 0 < nx := hid 0 _ rfl
  refine WP.of okDC 1 (by rfl) ?_
  by_cases hkl : k < l.length
  · have hkl' : (k : Int) < l.length := by omega
    have ww : IntKind.wrap .i64 ((k : Int) + 1) = ((k + 1 : Nat) : Int) := by rw [wrap_i (by omega) (by omega)]; omega
    have hk0 : (0 : Int) ≤ k := by omega
    have hg := getD_f hkl
    rw [drop_f hkl] at hi
    generalize hx : l.getD k fr0 = x at hi hg
    have q1 : (0 : Int) ≤ ((k + 1 : Nat) : Int) := by omega
    have q2 : ((k + 1 : Nat) : Int) ≤ (l.length : Int) := by omega
    by_cases h3 : x.op = 3
    · have e3 : (x.op == 3) = true := by simpa using h3
      have hn : nextP i l = (fBegin x.op i x.val, l.drop (k + 1)) := by rw [← hi, nextP, if_pos (.inl h3)]; rfl
      rw [hn]
      simp only [DC_all, hkl', hk0, hg, e3, ww, q1, q2, n1, fs, fr0, len_fs, Int.toNat_natCast, cut_f, hfree_fs, Int.le_refl, T52, nb_self, nb_same, nb_l0, nb_r0, nb_lt, nb_gt, nb_lt0, nb_gt0, Nat.add_assoc, Int.cast_ofNat_Int, Int.reduceSub, Int.reduceAdd, Int.reduceNeg, inl, fv, sv, fBegin, hfree_fr, hfree_cf, cv', cf_eta, frz_u, shC_dec, dC, T23, T28, T25, hfree_lu, hfree_l0, row0, row1, row2, row3, row4, row5, shI_dec, shN_dec, shB_dec, shM_dec, dI, dN, dB, dM, dU, dU_map, iv, bv, u, ms, ctx_T, ctx_C, ctx_P, T4, T3, T26, Option.bind_some, Option.bind_none, Option.map_some, List.length_map, List.length_set, String.reduceBEq, Int.toNat_natCast, Bool.true_beq, Bool.false_beq, T24, shF_dec, dF, fr_eta, ev1, ev2, implies_true, undef, stepP, dynCall, ↓condE_t, ↓condE_f, ↓guardE_tt, ↓guardE_ff, ↓guardE_tf, ↓guardE_ft, frzDeep, deepArgs, deepArg, resB, cv, stepB, stepE, callD, tabD, snapD, snap1, snapC, snapId, snapIds, guardB, guardC, dstAt, aopR, one, pre, binR, intOpR, shiftOpR, unR, argFrm, evo, lkp, hlk, lenOf, asLst, idOf, bndA, srcOk, ofVal, ofCells, setCells, fillA, setElems, fieldsOf, fieldsEq, scalEq, isEq, AV.wr, AV.ok1, TK.agg, frz, frzs, frzA, frzArg, frzArgs, subA, subL, sub1, kp, kh, accOf, List.replicate, Nat.reduceAdd, Nat.reduceSub, Nat.reduceMul, Nat.reduceEqDiff, Nat.reduceLT, Nat.reduceLeDiff, Nat.reduceBEq, reduceIte, reduceCtorEq, eq_self, ne_eq, Int.reduceToNat, Int.reduceLT, Int.reduceLE, Int.reduceGT, Int.reduceGE, Int.reduceBEq, Int.reduceBNe, Int.reduceEq, Int.reduceNe]
      (repeat (first | exact entryOk_nil _ _ _ _ | (refine entryOk_step ?h ?_; case h => (first | (apply Or.inr; constructor <;> simp [meets] <;> omega; done) | (apply Or.inl; show anc _ _ _ _ = true; kernel_rfl)))))
    · have e3 : (x.op == 3) = false := by simpa using h3
      by_cases h4 : x.op = 4
      · have e4 : (x.op == 4) = true := by simpa using h4
        have hn : nextP i l = (fBegin x.op i x.val, l.drop (k + 1)) := by rw [← hi, nextP, if_pos (.inr h4)]; rfl
        rw [hn]
        simp only [DC_all, hkl', hk0, hg, e3, e4, ww, q1, q2, n1, fs, fr0, len_fs, Int.toNat_natCast, cut_f, hfree_fs, Int.le_refl, T52, nb_self, nb_same, nb_l0, nb_r0, nb_lt, nb_gt, nb_lt0, nb_gt0, Nat.add_assoc, Int.cast_ofNat_Int, Int.reduceSub, Int.reduceAdd, Int.reduceNeg, inl, fv, sv, fBegin, hfree_fr, hfree_cf, cv', cf_eta, frz_u, shC_dec, dC, T23, T28, T25, hfree_lu, hfree_l0, row0, row1, row2, row3, row4, row5, shI_dec, shN_dec, shB_dec, shM_dec, dI, dN, dB, dM, dU, dU_map, iv, bv, u, ms, ctx_T, ctx_C, ctx_P, T4, T3, T26, Option.bind_some, Option.bind_none, Option.map_some, List.length_map, List.length_set, String.reduceBEq, Int.toNat_natCast, Bool.true_beq, Bool.false_beq, T24, shF_dec, dF, fr_eta, ev1, ev2, implies_true, undef, stepP, dynCall, ↓condE_t, ↓condE_f, ↓guardE_tt, ↓guardE_ff, ↓guardE_tf, ↓guardE_ft, frzDeep, deepArgs, deepArg, resB, cv, stepB, stepE, callD, tabD, snapD, snap1, snapC, snapId, snapIds, guardB, guardC, dstAt, aopR, one, pre, binR, intOpR, shiftOpR, unR, argFrm, evo, lkp, hlk, lenOf, asLst, idOf, bndA, srcOk, ofVal, ofCells, setCells, fillA, setElems, fieldsOf, fieldsEq, scalEq, isEq, AV.wr, AV.ok1, TK.agg, frz, frzs, frzA, frzArg, frzArgs, subA, subL, sub1, kp, kh, accOf, List.replicate, Nat.reduceAdd, Nat.reduceSub, Nat.reduceMul, Nat.reduceEqDiff, Nat.reduceLT, Nat.reduceLeDiff, Nat.reduceBEq, reduceIte, reduceCtorEq, eq_self, ne_eq, Int.reduceToNat, Int.reduceLT, Int.reduceLE, Int.reduceGT, Int.reduceGE, Int.reduceBEq, Int.reduceBNe, Int.reduceEq, Int.reduceNe]
        (repeat (first | exact entryOk_nil _ _ _ _ | (refine entryOk_step ?h ?_; case h => (first | (apply Or.inr; constructor <;> simp [meets] <;> omega; done) | (apply Or.inl; show anc _ _ _ _ = true; kernel_rfl)))))
      · have e4 : (x.op == 4) = false := by simpa using h4
        have hn : nextP i (l.drop (k + 1)) = nextP i l := by rw [← hi, nextP, if_neg (by simp [h3, h4])]
        simp only [DC_all, hkl', hk0, hg, e3, e4, ww, q1, q2, n1, fs, fr0, len_fs, T52, nb_self, nb_same, nb_l0, nb_r0, nb_lt, nb_gt, nb_lt0, nb_gt0, Nat.add_assoc, Int.cast_ofNat_Int, Int.reduceSub, Int.reduceAdd, Int.reduceNeg, inl, fv, sv, fBegin, hfree_fr, hfree_cf, cv', cf_eta, frz_u, shC_dec, dC, T23, T28, T25, hfree_lu, hfree_l0, row0, row1, row2, row3, row4, row5, shI_dec, shN_dec, shB_dec, shM_dec, dI, dN, dB, dM, dU, dU_map, iv, bv, u, ms, ctx_T, ctx_C, ctx_P, T4, T3, T26, Option.bind_some, Option.bind_none, Option.map_some, List.length_map, List.length_set, String.reduceBEq, Int.toNat_natCast, Bool.true_beq, Bool.false_beq, T24, shF_dec, dF, fr_eta, ev1, ev2, implies_true, undef, stepP, dynCall, ↓condE_t, ↓condE_f, ↓guardE_tt, ↓guardE_ff, ↓guardE_tf, ↓guardE_ft, frzDeep, deepArgs, deepArg, resB, cv, stepB, stepE, callD, tabD, snapD, snap1, snapC, snapId, snapIds, guardB, guardC, dstAt, aopR, one, pre, binR, intOpR, shiftOpR, unR, argFrm, evo, lkp, hlk, lenOf, asLst, idOf, bndA, srcOk, ofVal, ofCells, setCells, fillA, setElems, fieldsOf, fieldsEq, scalEq, isEq, AV.wr, AV.ok1, TK.agg, frz, frzs, frzA, frzArg, frzArgs, subA, subL, sub1, kp, kh, accOf, List.replicate, Nat.reduceAdd, Nat.reduceSub, Nat.reduceMul, Nat.reduceEqDiff, Nat.reduceLT, Nat.reduceLeDiff, Nat.reduceBEq, reduceIte, reduceCtorEq, eq_self, ne_eq, Int.reduceToNat, Int.reduceLT, Int.reduceLE, Int.reduceGT, Int.reduceGE, Int.reduceBEq, Int.reduceBNe, Int.reduceEq, Int.reduceNe]
        exact ⟨k + 1, by omega, ⟨by omega, hn⟩, rfl⟩
  · have hkl' : ¬ (k : Int) < l.length := by omega
    have hn : nextP i l = (noneF, []) := by rw [← hi, List.drop_eq_nil_of_le (by omega), nextP]
    rw [hn]
    simp only [DC_all, hkl', n1, fs, fr0, len_fs, noneF, List.map_nil, hfree_f0, T52, nb_self, nb_same, nb_l0, nb_r0, nb_lt, nb_gt, nb_lt0, nb_gt0, Nat.add_assoc, Int.cast_ofNat_Int, Int.reduceSub, Int.reduceAdd, Int.reduceNeg, inl, fv, sv, fBegin, hfree_fr, hfree_cf, cv', cf_eta, frz_u, shC_dec, dC, T23, T28, T25, hfree_lu, hfree_l0, row0, row1, row2, row3, row4, row5, shI_dec, shN_dec, shB_dec, shM_dec, dI, dN, dB, dM, dU, dU_map, iv, bv, u, ms, ctx_T, ctx_C, ctx_P, T4, T3, T26, Option.bind_some, Option.bind_none, Option.map_some, List.length_map, List.length_set, String.reduceBEq, Int.toNat_natCast, Bool.true_beq, Bool.false_beq, T24, shF_dec, dF, fr_eta, ev1, ev2, implies_true, undef, stepP, dynCall, ↓condE_t, ↓condE_f, ↓guardE_tt, ↓guardE_ff, ↓guardE_tf, ↓guardE_ft, frzDeep, deepArgs, deepArg, resB, cv, stepB, stepE, callD, tabD, snapD, snap1, snapC, snapId, snapIds, guardB, guardC, dstAt, aopR, one, pre, binR, intOpR, shiftOpR, unR, argFrm, evo, lkp, hlk, lenOf, asLst, idOf, bndA, srcOk, ofVal, ofCells, setCells, fillA, setElems, fieldsOf, fieldsEq, scalEq, isEq, AV.wr, AV.ok1, TK.agg, frz, frzs, frzA, frzArg, frzArgs, subA, subL, sub1, kp, kh, accOf, List.replicate, Nat.reduceAdd, Nat.reduceSub, Nat.reduceMul, Nat.reduceEqDiff, Nat.reduceLT, Nat.reduceLeDiff, Nat.reduceBEq, reduceIte, reduceCtorEq, eq_self, ne_eq, Int.reduceToNat, Int.reduceLT, Int.reduceLE, Int.reduceGT, Int.reduceGE, Int.reduceBEq, Int.reduceBNe, Int.reduceEq, Int.reduceNe]

theorem mul64_pure (b : Int) (h : 0 ≤ b ∧ b ≤ 8) : PureC Try.prog 100 [u 1, u b] (.tup [u 0, u b]) := by
  refine pure_sub okDC 1 Try.func100 rfl (by show 2 ≤ _; decide) ?_
  have hb : b = 0 ∨ b = 1 ∨ b = 2 ∨ b = 3 ∨ b = 4 ∨ b = 5 ∨ b = 6 ∨ b = 7 ∨ b = 8 := by omega
  rcases hb with rfl | rfl | rfl | rfl | rfl | rfl | rfl | rfl | rfl <;>
    (simp only [Try.f100, inl, DC_all, T105, hfree_fr, hfree_cf, cv', cf_eta, frz_u, shC_dec, dC, T23, T28, T25, hfree_lu, hfree_l0, row0, row1, row2, row3, row4, row5, shI_dec, shN_dec, shB_dec, shM_dec, dI, dN, dB, dM, dU, dU_map, iv, bv, u, ms, ctx_T, ctx_C, ctx_P, T4, T3, T26, Option.bind_some, Option.bind_none, Option.map_some, List.length_map, List.length_set, String.reduceBEq, Int.toNat_natCast, Bool.true_beq, Bool.false_beq, T24, shF_dec, dF, fr_eta, Int.cast_ofNat_Int, Int.reduceSub, Int.reduceAdd, Int.reduceNeg, ev1, ev2, implies_true, undef, stepP, dynCall, ↓condE_t, ↓condE_f, ↓guardE_tt, ↓guardE_ff, ↓guardE_tf, ↓guardE_ft, frzDeep, deepArgs, deepArg, resB, cv, stepB, stepE, callD, tabD, snapD, snap1, snapC, snapId, snapIds, guardB, guardC, dstAt, aopR, one, pre, binR, intOpR, shiftOpR, unR, argFrm, evo, lkp, hlk, lenOf, asLst, idOf, bndA, srcOk, ofVal, ofCells, setCells, fillA, setElems, fieldsOf, fieldsEq, scalEq, isEq, AV.wr, AV.ok1, TK.agg, frz, frzs, frzA, frzArg, frzArgs, subA, subL, sub1, kp, kh, accOf, List.replicate, Nat.reduceAdd, Nat.reduceSub, Nat.reduceMul, Nat.reduceEqDiff, Nat.reduceLT, Nat.reduceLeDiff, Nat.reduceBEq, reduceIte, reduceCtorEq, eq_self, ne_eq, Int.reduceToNat, Int.reduceLT, Int.reduceLE, Int.reduceGT, Int.reduceGE, Int.reduceBEq, Int.reduceBNe, Int.reduceEq, Int.reduceNe]
     constructor <;> kernel_rfl)

def rowsIA : List Row := [
  (100, row2 shN shN fun a b => if a = 1 ∧ 0 ≤ b ∧ b ≤ 8 then some (.tup [u 0, u b]) else none), 
  (35, row3 shC shM shF fun c m f => some (sv (iStep c m f))), 
  (36, row3 shC shM shF fun c m f => some (sv (riStep c m f))), 
  (82, row2 shFs shI fun l i => if l.length ≤ 1000 then some (.tup [fv (nextP i l).1, fs (nextP i l).2]) else none)] ++ rowsDC
theorem rowsIA_ok : ∀ p ∈ rowsIA, RowOk Try.prog p := fun p h => by
  simp only [rowsIA, List.mem_append, List.mem_cons, List.not_mem_nil, or_false, false_or, or_assoc] at h
  rcases h with rfl | rfl | rfl | rfl | h
  · exact ok_row2 (enters_of Try.func100 (by decide) rfl) fun a b r _ _ e => by obtain ⟨h, rfl⟩ := opt_if e; rw [h.1]; exact mul64_pure b h.2
  · exact ok_row3 (enters_of Try.func35 (by decide) rfl) fun c m f r _ g _ e => by cases e; exact istep_pure c m f (shM_got g)
  · exact ok_row3 (enters_of Try.func36 (by decide) rfl) fun c m f r _ g _ e => by cases e; exact ristep_pure c m f (shM_got g)
  · exact ok_row2 (enters_of Try.func82 (by decide) rfl) fun l i r _ _ e => by obtain ⟨h, rfl⟩ := opt_if e; exact next_pure l i h
  · exact rowsDC_ok p h
theorem okIA : (ctx Try.prog rowsIA).ok := rows_ok rowsIA_ok
theorem IA_100 : tabC rowsIA 100 = row2 shN shN fun a b => if a = 1 ∧ 0 ≤ b ∧ b ≤ 8 then some (.tup [u 0, u b]) else none := rfl
theorem IA_35 : tabC rowsIA 35 = row3 shC shM shF fun c m f => some (sv (iStep c m f)) := rfl
theorem IA_36 : tabC rowsIA 36 = row3 shC shM shF fun c m f => some (sv (riStep c m f)) := rfl
theorem IA_82 : tabC rowsIA 82 = row2 shFs shI fun l i => if l.length ≤ 1000 then some (.tup [fv (nextP i l).1, fs (nextP i l).2]) else none := rfl
theorem IA_78 : tabC rowsIA 78 = fun _ => none := rfl
theorem IA_81 : tabC rowsIA 81 = fun _ => none := rfl
theorem IA_98 : tabC rowsIA 98 = fun _ => none := rfl
theorem IA_79 : tabC rowsIA 79 = fun _ => none := rfl
theorem IA_87 : tabC rowsIA 87 = fun _ => none := rfl
theorem IA_80 : tabC rowsIA 80 = fun _ => none := rfl
theorem IA_97 : tabC rowsIA 97 = fun _ => none := rfl
theorem IA_19 : tabC rowsIA 19 = row2 shC shM fun c m => some (lv (qList c m)) := rfl
theorem IA_20 : tabC rowsIA 20 = row2 shC shM fun c m => some (lv (rqList c m)) := rfl
theorem IA_17 : tabC rowsIA 17 = row3 shC shM shF fun c m f => some (sv (qStep c m f)) := rfl
theorem IA_18 : tabC rowsIA 18 = row3 shC shM shF fun c m f => some (sv (rqStep c m f)) := rfl
theorem IA_60 : tabC rowsIA 60 = fun _ => none := rfl
theorem IA_94 : tabC rowsIA 94 = fun _ => none := rfl
theorem IA_47 : tabC rowsIA 47 = row2 shC shN fun c x => if 1 ≤ c.i ∧ c.i ≤ 16 then some (u (qFull c x)) else none := rfl
theorem IA_96 : tabC rowsIA 96 = freeRow := rfl
theorem IA_23 : tabC rowsIA 23 = row4 shC shM shF shI fun c m f op => some (bv (goesE c m f op)) := rfl
theorem IA_52 : tabC rowsIA 52 = row4 shC shM shF shI fun c m f op => some (bv (goesE c m f op)) := rfl
theorem IA_26 : tabC rowsIA 26 = row2 shC shM fun c m => some (iv (eLen c m)) := rfl
theorem IA_61 : tabC rowsIA 61 = row2 shC shM fun c m => some (iv (eLen c m)) := rfl
theorem IA_62 : tabC rowsIA 62 = fun _ => none := rfl
theorem IA_67 : tabC rowsIA 67 = fun _ => none := rfl
theorem IA_68 : tabC rowsIA 68 = fun _ => none := rfl
theorem IA_69 : tabC rowsIA 69 = fun _ => none := rfl
theorem IA_70 : tabC rowsIA 70 = fun _ => none := rfl
theorem IA_71 : tabC rowsIA 71 = fun _ => none := rfl
theorem IA_72 : tabC rowsIA 72 = fun _ => none := rfl
theorem IA_44 : tabC rowsIA 44 = row1 shM fun m => some (ms m) := rfl
theorem IA_57 : tabC rowsIA 57 = row4 shM shI shN shN fun m i v w => some (.tup [ms (mCas m i v w), bv (mCasB m i v)]) := rfl
theorem IA_45 : tabC rowsIA 45 = row2 shM shI fun m i => some (u (mLoad m i)) := rfl
theorem IA_51 : tabC rowsIA 51 = row3 shM shI shN fun m i v => some (ms (mStore m i v)) := rfl
theorem IA_49 : tabC rowsIA 49 = row4 shM shI shN shN fun m i v w => some (.tup [ms (mCas m i v w), bv (mCasB m i v)]) := rfl
theorem IA_53 : tabC rowsIA 53 = row2 shM shI fun m i => some (u (mLoad m i)) := rfl
theorem IA_21 : tabC rowsIA 21 = row2 shM shM fun a b => some (bv (decide (a = b))) := rfl
theorem IA_59 : tabC rowsIA 59 = row3 shM shI shN fun m i v => some (ms (mStore m i v)) := rfl
theorem IA_66 : tabC rowsIA 66 = row1 shC fun c => some (iv (lSize c)) := rfl
theorem IA_88 : tabC rowsIA 88 = row1 shC fun c => some (iv (lSize c)) := rfl
theorem IA_27 : tabC rowsIA 27 = row1 shC fun c => some (bv (mayC c)) := rfl
theorem IA_46 : tabC rowsIA 46 = row2 shN shN fun a b => some (iv (far a b)) := rfl
theorem IA_83 : tabC rowsIA 83 = row1 shC fun c => some (bv (mayC c)) := rfl
theorem IA_55 : tabC rowsIA 55 = row2 shN shN fun a b => some (iv (far a b)) := rfl
theorem IA_95 : tabC rowsIA 95 = row2 shC shI fun c w => if mayC c = true ∧ 0 ≤ w ∧ w ≤ 8 then some (iv (lBase c w)) else none := rfl
theorem IA_63 : tabC rowsIA 63 = fun _ => none := rfl
theorem IA_65 : tabC rowsIA 65 = fun _ => none := rfl
theorem IA_86 : tabC rowsIA 86 = row1 shF fun f => some (bv (f.res != 0)) := rfl
theorem IA_56 : tabC rowsIA 56 = row3 shF shI shN fun f r v => some (fv (fEnd f r v)) := rfl
theorem IA_22 : tabC rowsIA 22 = row2 shM shM fun a b => some (bv (decide (a = b))) := rfl
theorem IA_25 : tabC rowsIA 25 = row3 shI shI shN fun o w v => some (fv (fBegin o w v)) := rfl
theorem IA_31 : tabC rowsIA 31 = row1 shF fun f => some (bv (f.res != 0)) := rfl
theorem IA_48 : tabC rowsIA 48 = row3 shF shI shN fun f r v => some (fv (fEnd f r v)) := rfl
theorem IA_74 : tabC rowsIA 74 = fun _ => none := rfl
theorem IA_75 : tabC rowsIA 75 = fun _ => none := rfl
theorem IA_76 : tabC rowsIA 76 = fun _ => none := rfl
theorem IA_73 : tabC rowsIA 73 = fun _ => none := rfl
theorem IA_24 : tabC rowsIA 24 = row2 shC shN fun c x => some (iv (eSeq c x)) := rfl
theorem IA_50 : tabC rowsIA 50 = row2 shC shN fun c x => some (iv (eVal c x)) := rfl
theorem IA_54 : tabC rowsIA 54 = row2 shC shN fun c x => some (iv (eSeq c x)) := rfl
theorem IA_58 : tabC rowsIA 58 = row2 shC shN fun c x => some (iv (eVal c x)) := rfl
theorem IA_30 : tabC rowsIA 30 = row3 shC shM shF fun c m f => some (sv (eStep c m f)) := rfl
theorem IA_77 : tabC rowsIA 77 = row3 shC shM shF fun c m f => some (sv (eStep c m f)) := rfl
theorem IA_28 : tabC rowsIA 28 = row1 shC fun c => some (ms (zeros (lSize c).toNat)) := rfl
theorem IA_all : type_of% (And.intro IA_100 <| And.intro IA_35 <| And.intro IA_36 <| And.intro IA_82 <| And.intro IA_78 <| And.intro IA_81 <| And.intro IA_98 <| And.intro IA_79 <| And.intro IA_87 <| And.intro IA_80 <| And.intro IA_97 <| And.intro IA_19 <| And.intro IA_20 <| And.intro IA_17 <| And.intro IA_18 <| And.intro IA_60 <| And.intro IA_94 <| And.intro IA_47 <| And.intro IA_96 <| And.intro IA_23 <| And.intro IA_52 <| And.intro IA_26 <| And.intro IA_61 <| And.intro IA_62 <| And.intro IA_67 <| And.intro IA_68 <| And.intro IA_69 <| And.intro IA_70 <| And.intro IA_71 <| And.intro IA_72 <| And.intro IA_44 <| And.intro IA_57 <| And.intro IA_45 <| And.intro IA_51 <| And.intro IA_49 <| And.intro IA_53 <| And.intro IA_21 <| And.intro IA_59 <| And.intro IA_66 <| And.intro IA_88 <| And.intro IA_27 <| And.intro IA_46 <| And.intro IA_83 <| And.intro IA_55 <| And.intro IA_95 <| And.intro IA_63 <| And.intro IA_65 <| And.intro IA_86 <| And.intro IA_56 <| And.intro IA_22 <| And.intro IA_25 <| And.intro IA_31 <| And.intro IA_48 <| And.intro IA_74 <| And.intro IA_75 <| And.intro IA_76 <| And.intro IA_73 <| And.intro IA_24 <| And.intro IA_50 <| And.intro IA_54 <| And.intro IA_58 <| And.intro IA_30 <| And.intro IA_77 <| IA_28) := And.intro IA_100 <| And.intro IA_35 <| And.intro IA_36 <| And.intro IA_82 <| And.intro IA_78 <| And.intro IA_81 <| And.intro IA_98 <| And.intro IA_79 <| And.intro IA_87 <| And.intro IA_80 <| And.intro IA_97 <| And.intro IA_19 <| And.intro IA_20 <| And.intro IA_17 <| And.intro IA_18 <| And.intro IA_60 <| And.intro IA_94 <| And.intro IA_47 <| And.intro IA_96 <| And.intro IA_23 <| And.intro IA_52 <| And.intro IA_26 <| And.intro IA_61 <| And.intro IA_62 <| And.intro IA_67 <| And.intro IA_68 <| And.intro IA_69 <| And.intro IA_70 <| And.intro IA_71 <| And.intro IA_72 <| And.intro IA_44 <| And.intro IA_57 <| And.intro IA_45 <| And.intro IA_51 <| And.intro IA_49 <| And.intro IA_53 <| And.intro IA_21 <| And.intro IA_59 <| And.intro IA_66 <| And.intro IA_88 <| And.intro IA_27 <| And.intro IA_46 <| And.intro IA_83 <| And.intro IA_55 <| And.intro IA_95 <| And.intro IA_63 <| And.intro IA_65 <| And.intro IA_86 <| And.intro IA_56 <| And.intro IA_22 <| And.intro IA_25 <| And.intro IA_31 <| And.intro IA_48 <| And.intro IA_74 <| And.intro IA_75 <| And.intro IA_76 <| And.intro IA_73 <| And.intro IA_24 <| And.intro IA_50 <| And.intro IA_54 <| And.intro IA_58 <| And.intro IA_30 <| And.intro IA_77 <| IA_28
end Go.Vai
/- What all do at the injector. -/
namespace Go.Vai
open Go.RowKit Go.Proofs
set_option linter.unusedSimpArgs false
set_option linter.unusedVariables false
set_option maxHeartbeats 4000000
set_option maxRecDepth 100000

theorem play_nil (room : Int) (who : List Int) (hw : who.length ≤ 1000) (hm : mayC (injC room) = true) :
    PureC Try.prog 37 [iv room, fss [], zs who] (.tup [ms (iPlay room [] who).1, fs (iPlay room [] who).2.1, fs (iPlay room [] who).2.2]) := by
  refine pure_top okIA 4 Try.func37 rfl (by show 3 ≤ _; decide) ?_
  have h8 : ([] : List (List Fr)).length ≤ 8 := by decide
  have e : injC room = ⟨1, 1, room, 0⟩ := rfl
  rw [e] at hm
  have hP : iPlay room [] who = (zeros (lSize ⟨1, 1, room, 0⟩).toNat, [], []) := by
    rw [iPlay, gPlay, if_pos ⟨hm, h8⟩, pAll_nil]; rfl
  have z12 : IntKind.wrap .u64 1 = 1 := by decide
  have z13 : IntKind.wrap .u64 0 = 0 := by decide
  have z14 : IntKind.wrap .i64 0 = 0 := by decide
  simp only [Try.f37, List.take_nil, List.map_nil, Try.func78, Try.f78, Try.func79, Try.f79,
    Try.func80, Try.f80, Try.func97, Try.f97,
    inl, IA_all, hm, fss, zs, fs, sv, fv, z12, z13, z14, Int.le_refl, rf1, List.set_set, T52, T50, T51, T105, top_T, top_C, top_P, inR_T, inR_C, inR_P, iter_T, iter_C, iter_P, iter_Y, r_rangeF, r_yld, r_start, r_rkN, r_rkR, r_rkE, r_endR, r_endM, r_endJ0, r_endJ2, r_endJ3, r_endJ5, r_endJ7, zipF, hfree_fr, hfree_cf, cv', cf_eta, frz_u, shC_dec, dC, T23, T28, T25, hfree_lu, hfree_l0, row0, row1, row2, row3, row4, row5, shI_dec, shN_dec, shB_dec, shM_dec, dI, dN, dB, dM, dU, dU_map, iv, bv, u, ms, ctx_T, ctx_C, ctx_P, T4, T3, T26, Option.bind_some, Option.bind_none, Option.map_some, List.length_map, List.length_set, String.reduceBEq, Int.toNat_natCast, Bool.true_beq, Bool.false_beq, T24, shF_dec, dF, fr_eta, Int.cast_ofNat_Int, Int.reduceSub, Int.reduceAdd, Int.reduceNeg, ev1, ev2, implies_true, undef, stepP, dynCall, ↓condE_t, ↓condE_f, ↓guardE_tt, ↓guardE_ff, ↓guardE_tf, ↓guardE_ft, frzDeep, deepArgs, deepArg, resB, cv, stepB, stepE, callD, tabD, snapD, snap1, snapC, snapId, snapIds, guardB, guardC, dstAt, aopR, one, pre, binR, intOpR, shiftOpR, unR, argFrm, evo, lkp, hlk, lenOf, asLst, idOf, bndA, srcOk, ofVal, ofCells, setCells, fillA, setElems, fieldsOf, fieldsEq, scalEq, isEq, AV.wr, AV.ok1, TK.agg, frz, frzs, frzA, frzArg, frzArgs, subA, subL, sub1, kp, kh, accOf, List.replicate, Nat.reduceAdd, Nat.reduceSub, Nat.reduceMul, Nat.reduceEqDiff, Nat.reduceLT, Nat.reduceLeDiff, Nat.reduceBEq, reduceIte, reduceCtorEq, eq_self, ne_eq, Int.reduceToNat, Int.reduceLT, Int.reduceLE, Int.reduceGT, Int.reduceGE, Int.reduceBEq, Int.reduceBNe, Int.reduceEq, Int.reduceNe]
  rw [hP]
  repeat' apply And.intro
  all_goals (refine WP.rounds okIA 1 1 (by rfl) ?_)
  all_goals simp only [IA_all, r_rounds, Try.func81, Try.f81, fss, zs, fs, sv, fv, z12, z13, z14, Int.le_refl, Int.lt_irrefl, List.map_nil, rf1, List.set_set, T52, T50, T51, T105, top_T, top_C, top_P, inR_T, inR_C, inR_P, iter_T, iter_C, iter_P, iter_Y, r_rangeF, r_yld, r_start, r_rkN, r_rkR, r_rkE, r_endR, r_endM, r_endJ0, r_endJ2, r_endJ3, r_endJ5, r_endJ7, zipF, hfree_fr, hfree_cf, cv', cf_eta, frz_u, shC_dec, dC, T23, T28, T25, hfree_lu, hfree_l0, row0, row1, row2, row3, row4, row5, shI_dec, shN_dec, shB_dec, shM_dec, dI, dN, dB, dM, dU, dU_map, iv, bv, u, ms, ctx_T, ctx_C, ctx_P, T4, T3, T26, Option.bind_some, Option.bind_none, Option.map_some, List.length_map, List.length_set, String.reduceBEq, Int.toNat_natCast, Bool.true_beq, Bool.false_beq, T24, shF_dec, dF, fr_eta, Int.cast_ofNat_Int, Int.reduceSub, Int.reduceAdd, Int.reduceNeg, inl, ev1, ev2, implies_true, undef, stepP, dynCall, ↓condE_t, ↓condE_f, ↓guardE_tt, ↓guardE_ff, ↓guardE_tf, ↓guardE_ft, frzDeep, deepArgs, deepArg, resB, cv, stepB, stepE, callD, tabD, snapD, snap1, snapC, snapId, snapIds, guardB, guardC, dstAt, aopR, one, pre, binR, intOpR, shiftOpR, unR, argFrm, evo, lkp, hlk, lenOf, asLst, idOf, bndA, srcOk, ofVal, ofCells, setCells, fillA, setElems, fieldsOf, fieldsEq, scalEq, isEq, AV.wr, AV.ok1, TK.agg, frz, frzs, frzA, frzArg, frzArgs, subA, subL, sub1, kp, kh, accOf, List.replicate, Nat.reduceAdd, Nat.reduceSub, Nat.reduceMul, Nat.reduceEqDiff, Nat.reduceLT, Nat.reduceLeDiff, Nat.reduceBEq, reduceIte, reduceCtorEq, eq_self, ne_eq, Int.reduceToNat, Int.reduceLT, Int.reduceLE, Int.reduceGT, Int.reduceGE, Int.reduceBEq, Int.reduceBNe, Int.reduceEq, Int.reduceNe]
  · refine WP.ranges okIA 1 (g := 98) rfl (enters_of Try.func98 (by decide) rfl) Try.func98 rfl (by show 3 ≤ _; decide) (by rfl) (by rfl) ?_
    intro Y hI hYF hYT hYC hYY
    simp only [Try.f98, inl, IA_all, hYT, hYC, len_zs, sv, fv, rf1, List.set_set, T52, T50, T51, nb_self, nb_same, nb_l0, nb_r0, nb_lt, nb_gt, nb_lt0, nb_gt0, Nat.add_assoc, top_T, top_C, top_P, inR_T, inR_C, inR_P, iter_T, iter_C, iter_P, iter_Y, r_rangeF, r_yld, r_start, r_rkN, r_rkR, r_rkE, r_endR, r_endM, r_endJ0, r_endJ2, r_endJ3, r_endJ5, r_endJ7, zipF, hfree_fr, hfree_cf, cv', cf_eta, frz_u, shC_dec, dC, T23, T28, T25, hfree_lu, hfree_l0, row0, row1, row2, row3, row4, row5, shI_dec, shN_dec, shB_dec, shM_dec, dI, dN, dB, dM, dU, dU_map, iv, bv, u, ms, ctx_T, ctx_C, ctx_P, T4, T3, T26, Option.bind_some, Option.bind_none, Option.map_some, List.length_map, List.length_set, String.reduceBEq, Int.toNat_natCast, Bool.true_beq, Bool.false_beq, T24, shF_dec, dF, fr_eta, ev1, ev2, implies_true, undef, stepP, dynCall, ↓condE_t, ↓condE_f, ↓guardE_tt, ↓guardE_ff, ↓guardE_tf, ↓guardE_ft, frzDeep, deepArgs, deepArg, resB, cv, stepB, stepE, callD, tabD, snapD, snap1, snapC, snapId, snapIds, guardB, guardC, dstAt, aopR, one, pre, binR, intOpR, shiftOpR, unR, argFrm, evo, lkp, hlk, lenOf, asLst, idOf, bndA, srcOk, ofVal, ofCells, setCells, fillA, setElems, fieldsOf, fieldsEq, scalEq, isEq, AV.wr, AV.ok1, TK.agg, frz, frzs, frzA, frzArg, frzArgs, subA, subL, sub1, kp, kh, accOf, List.replicate, Nat.reduceAdd, Nat.reduceSub, Nat.reduceMul, Nat.reduceEqDiff, Nat.reduceLT, Nat.reduceLeDiff, Nat.reduceBEq, reduceIte, reduceCtorEq, eq_self, ne_eq, Int.reduceToNat, Int.reduceLT, Int.reduceLE, Int.reduceGT, Int.reduceGE, Int.reduceBEq, Int.reduceBNe, Int.reduceEq, Int.reduceNe]
    refine WP.loop (ι := Nat) (fun i => who.length - i) (fun i => i ≤ who.length) (n := 26)
      (fr := fun i => [(8, iv i), (7, iv who.length), (6, zs who), (0, .yld 96), (2, .ptr 92 0 0)])
      (hp := fun i => [(96, some (gBlk 0)), (86, some ⟨false, 52, 1, [.v (.slice none 0 0)]⟩), (92, some ⟨false, 3, 1, [iv 0]⟩), (36, some ⟨false, 52, 1, [.arr 74 0 0]⟩), (74, some ⟨false, 28, 7, []⟩),
        (23, some ⟨false, 25, 1, [ms (zeros (lSize ⟨1, 1, room, 0⟩).toNat)]⟩)]) (N := 100) ?_ 0 (Nat.zero_le _) rfl (by show 100 ≤ 100; decide) ⟨rfl, rfl, rfl, rfl, rfl, trivial⟩ ⟨rfl, rfl, rfl, rfl, rfl, rfl, trivial⟩ (im := hI.im)
    rintro k nx hk hN hid
    have n1 : 96 < nx := by omega
    have n2 : 86 < nx := by omega
    have n3 : 92 < nx := by omega
    have n4 : 36 < nx := by omega
    have n5 : 74 < nx := by omega
    have n6 : 23 < nx := by omega
    refine WP.ofX hI hYF (by rfl) ?_
    by_cases hkw : k < who.length
    · have hkw' : (k : Int) < who.length := by omega
      have ww : IntKind.wrap .i64 ((k : Int) + 1) = ((k + 1 : Nat) : Int) := by rw [wrap_i (by omega) (by omega)]; omega
      have hk0 : (0 : Int) ≤ k := by omega
      have hg := getD_z hkw
      generalize who.getD k 0 = i at hg
      by_cases h1 : 0 ≤ i
      · have h2 : ¬ i < 0 := by omega
        simp only [IA_all, hYT, hYC, hYY, r_yld, hkw', ww, hk0, hg, h1, h2, n1, n2, n3, n4, n5, n6, Int.toNat_natCast, Int.le_refl, Nat.le_refl, zs, fs, fss, sv, fv, List.map_nil, rf1, List.set_set, T52, T50, T51, nb_self, nb_same, nb_l0, nb_r0, nb_lt, nb_gt, nb_lt0, nb_gt0, Nat.add_assoc, top_T, top_C, top_P, inR_T, inR_C, inR_P, iter_T, iter_C, iter_P, iter_Y, r_rangeF, r_yld, r_start, r_rkN, r_rkR, r_rkE, r_endR, r_endM, r_endJ0, r_endJ2, r_endJ3, r_endJ5, r_endJ7, zipF, hfree_fr, hfree_cf, cv', cf_eta, frz_u, shC_dec, dC, T23, T28, T25, hfree_lu, hfree_l0, row0, row1, row2, row3, row4, row5, shI_dec, shN_dec, shB_dec, shM_dec, dI, dN, dB, dM, dU, dU_map, iv, bv, u, ms, ctx_T, ctx_C, ctx_P, T4, T3, T26, Option.bind_some, Option.bind_none, Option.map_some, List.length_map, List.length_set, String.reduceBEq, Int.toNat_natCast, Bool.true_beq, Bool.false_beq, T24, shF_dec, dF, fr_eta, Int.cast_ofNat_Int, Int.reduceSub, Int.reduceAdd, Int.reduceNeg, ev1, ev2, implies_true, undef, stepP, dynCall, ↓condE_t, ↓condE_f, ↓guardE_tt, ↓guardE_ff, ↓guardE_tf, ↓guardE_ft, frzDeep, deepArgs, deepArg, resB, cv, stepB, stepE, callD, tabD, snapD, snap1, snapC, snapId, snapIds, guardB, guardC, dstAt, aopR, one, pre, binR, intOpR, shiftOpR, unR, argFrm, evo, lkp, hlk, lenOf, asLst, idOf, bndA, srcOk, ofVal, ofCells, setCells, fillA, setElems, fieldsOf, fieldsEq, scalEq, isEq, AV.wr, AV.ok1, TK.agg, frz, frzs, frzA, frzArg, frzArgs, subA, subL, sub1, kp, kh, accOf, List.replicate, Nat.reduceAdd, Nat.reduceSub, Nat.reduceMul, Nat.reduceEqDiff, Nat.reduceLT, Nat.reduceLeDiff, Nat.reduceBEq, reduceIte, reduceCtorEq, eq_self, ne_eq, Int.reduceToNat, Int.reduceLT, Int.reduceLE, Int.reduceGT, Int.reduceGE, Int.reduceBEq, Int.reduceBNe, Int.reduceEq, Int.reduceNe]
        exact ⟨k + 1, by omega, by omega, rfl⟩
      · simp only [IA_all, hYT, hYC, hYY, r_yld, hkw', ww, hk0, hg, h1, n1, n2, n3, n4, n5, n6, Int.toNat_natCast, Int.le_refl, Nat.le_refl, zs, fs, fss, sv, fv, List.map_nil, rf1, List.set_set, T52, T50, T51, nb_self, nb_same, nb_l0, nb_r0, nb_lt, nb_gt, nb_lt0, nb_gt0, Nat.add_assoc, top_T, top_C, top_P, inR_T, inR_C, inR_P, iter_T, iter_C, iter_P, iter_Y, r_rangeF, r_yld, r_start, r_rkN, r_rkR, r_rkE, r_endR, r_endM, r_endJ0, r_endJ2, r_endJ3, r_endJ5, r_endJ7, zipF, hfree_fr, hfree_cf, cv', cf_eta, frz_u, shC_dec, dC, T23, T28, T25, hfree_lu, hfree_l0, row0, row1, row2, row3, row4, row5, shI_dec, shN_dec, shB_dec, shM_dec, dI, dN, dB, dM, dU, dU_map, iv, bv, u, ms, ctx_T, ctx_C, ctx_P, T4, T3, T26, Option.bind_some, Option.bind_none, Option.map_some, List.length_map, List.length_set, String.reduceBEq, Int.toNat_natCast, Bool.true_beq, Bool.false_beq, T24, shF_dec, dF, fr_eta, Int.cast_ofNat_Int, Int.reduceSub, Int.reduceAdd, Int.reduceNeg, ev1, ev2, implies_true, undef, stepP, dynCall, ↓condE_t, ↓condE_f, ↓guardE_tt, ↓guardE_ff, ↓guardE_tf, ↓guardE_ft, frzDeep, deepArgs, deepArg, resB, cv, stepB, stepE, callD, tabD, snapD, snap1, snapC, snapId, snapIds, guardB, guardC, dstAt, aopR, one, pre, binR, intOpR, shiftOpR, unR, argFrm, evo, lkp, hlk, lenOf, asLst, idOf, bndA, srcOk, ofVal, ofCells, setCells, fillA, setElems, fieldsOf, fieldsEq, scalEq, isEq, AV.wr, AV.ok1, TK.agg, frz, frzs, frzA, frzArg, frzArgs, subA, subL, sub1, kp, kh, accOf, List.replicate, Nat.reduceAdd, Nat.reduceSub, Nat.reduceMul, Nat.reduceEqDiff, Nat.reduceLT, Nat.reduceLeDiff, Nat.reduceBEq, reduceIte, reduceCtorEq, eq_self, ne_eq, Int.reduceToNat, Int.reduceLT, Int.reduceLE, Int.reduceGT, Int.reduceGE, Int.reduceBEq, Int.reduceBNe, Int.reduceEq, Int.reduceNe]
        exact ⟨k + 1, by omega, by omega, rfl⟩
    · have hkw' : ¬ (k : Int) < who.length := by omega
      simp only [IA_all, hYT, hYC, hYY, r_yld, hkw', n1, n2, n3, n4, n5, n6, Int.toNat_natCast, Int.le_refl, Nat.le_refl, zs, fs, fss, sv, fv, List.map_nil, rf1, List.set_set, T52, T50, T51, nb_self, nb_same, nb_l0, nb_r0, nb_lt, nb_gt, nb_lt0, nb_gt0, Nat.add_assoc, top_T, top_C, top_P, inR_T, inR_C, inR_P, iter_T, iter_C, iter_P, iter_Y, r_rangeF, r_yld, r_start, r_rkN, r_rkR, r_rkE, r_endR, r_endM, r_endJ0, r_endJ2, r_endJ3, r_endJ5, r_endJ7, zipF, hfree_fr, hfree_cf, cv', cf_eta, frz_u, shC_dec, dC, T23, T28, T25, hfree_lu, hfree_l0, row0, row1, row2, row3, row4, row5, shI_dec, shN_dec, shB_dec, shM_dec, dI, dN, dB, dM, dU, dU_map, iv, bv, u, ms, ctx_T, ctx_C, ctx_P, T4, T3, T26, Option.bind_some, Option.bind_none, Option.map_some, List.length_map, List.length_set, String.reduceBEq, Int.toNat_natCast, Bool.true_beq, Bool.false_beq, T24, shF_dec, dF, fr_eta, Int.cast_ofNat_Int, Int.reduceSub, Int.reduceAdd, Int.reduceNeg, ev1, ev2, implies_true, undef, stepP, dynCall, ↓condE_t, ↓condE_f, ↓guardE_tt, ↓guardE_ff, ↓guardE_tf, ↓guardE_ft, frzDeep, deepArgs, deepArg, resB, cv, stepB, stepE, callD, tabD, snapD, snap1, snapC, snapId, snapIds, guardB, guardC, dstAt, aopR, one, pre, binR, intOpR, shiftOpR, unR, argFrm, evo, lkp, hlk, lenOf, asLst, idOf, bndA, srcOk, ofVal, ofCells, setCells, fillA, setElems, fieldsOf, fieldsEq, scalEq, isEq, AV.wr, AV.ok1, TK.agg, frz, frzs, frzA, frzArg, frzArgs, subA, subL, sub1, kp, kh, accOf, List.replicate, Nat.reduceAdd, Nat.reduceSub, Nat.reduceMul, Nat.reduceEqDiff, Nat.reduceLT, Nat.reduceLeDiff, Nat.reduceBEq, reduceIte, reduceCtorEq, eq_self, ne_eq, Int.reduceToNat, Int.reduceLT, Int.reduceLE, Int.reduceGT, Int.reduceGE, Int.reduceBEq, Int.reduceBNe, Int.reduceEq, Int.reduceNe]
      all_goals ((repeat' apply And.intro) <;> first | rfl | (intro x hx; cases hx))
  · refine WP.ranges okIA 1 (g := 98) rfl (enters_of Try.func98 (by decide) rfl) Try.func98 rfl (by show 3 ≤ _; decide) (by rfl) (by rfl) ?_
    intro Y hI hYF hYT hYC hYY
    simp only [Try.f98, inl, IA_all, hYT, hYC, len_zs, sv, fv, rf1, List.set_set, T52, T50, T51, nb_self, nb_same, nb_l0, nb_r0, nb_lt, nb_gt, nb_lt0, nb_gt0, Nat.add_assoc, top_T, top_C, top_P, inR_T, inR_C, inR_P, iter_T, iter_C, iter_P, iter_Y, r_rangeF, r_yld, r_start, r_rkN, r_rkR, r_rkE, r_endR, r_endM, r_endJ0, r_endJ2, r_endJ3, r_endJ5, r_endJ7, zipF, hfree_fr, hfree_cf, cv', cf_eta, frz_u, shC_dec, dC, T23, T28, T25, hfree_lu, hfree_l0, row0, row1, row2, row3, row4, row5, shI_dec, shN_dec, shB_dec, shM_dec, dI, dN, dB, dM, dU, dU_map, iv, bv, u, ms, ctx_T, ctx_C, ctx_P, T4, T3, T26, Option.bind_some, Option.bind_none, Option.map_some, List.length_map, List.length_set, String.reduceBEq, Int.toNat_natCast, Bool.true_beq, Bool.false_beq, T24, shF_dec, dF, fr_eta, ev1, ev2, implies_true, undef, stepP, dynCall, ↓condE_t, ↓condE_f, ↓guardE_tt, ↓guardE_ff, ↓guardE_tf, ↓guardE_ft, frzDeep, deepArgs, deepArg, resB, cv, stepB, stepE, callD, tabD, snapD, snap1, snapC, snapId, snapIds, guardB, guardC, dstAt, aopR, one, pre, binR, intOpR, shiftOpR, unR, argFrm, evo, lkp, hlk, lenOf, asLst, idOf, bndA, srcOk, ofVal, ofCells, setCells, fillA, setElems, fieldsOf, fieldsEq, scalEq, isEq, AV.wr, AV.ok1, TK.agg, frz, frzs, frzA, frzArg, frzArgs, subA, subL, sub1, kp, kh, accOf, List.replicate, Nat.reduceAdd, Nat.reduceSub, Nat.reduceMul, Nat.reduceEqDiff, Nat.reduceLT, Nat.reduceLeDiff, Nat.reduceBEq, reduceIte, reduceCtorEq, eq_self, ne_eq, Int.reduceToNat, Int.reduceLT, Int.reduceLE, Int.reduceGT, Int.reduceGE, Int.reduceBEq, Int.reduceBNe, Int.reduceEq, Int.reduceNe]
    refine WP.loop (ι := Nat) (fun i => who.length - i) (fun i => i ≤ who.length) (n := 26)
      (fr := fun i => [(8, iv i), (7, iv who.length), (6, zs who), (0, .yld 99), (2, .ptr 95 0 0)])
      (hp := fun i => [(99, some (gBlk 0)), (89, some ⟨false, 52, 1, [.v (.slice none 0 0)]⟩), (95, some ⟨false, 3, 1, [iv 0]⟩), (39, some ⟨false, 52, 1, [.arr 77 0 0]⟩), (77, some ⟨false, 28, 7, []⟩),
        (23, some ⟨false, 25, 1, [ms (zeros (lSize ⟨1, 1, room, 0⟩).toNat)]⟩)]) (N := 103) ?_ 0 (Nat.zero_le _) rfl (by show 103 ≤ 103; decide) ⟨rfl, rfl, rfl, rfl, rfl, trivial⟩ ⟨rfl, rfl, rfl, rfl, rfl, rfl, trivial⟩ (im := hI.im)
    rintro k nx hk hN hid
    have n1 : 99 < nx := by omega
    have n2 : 89 < nx := by omega
    have n3 : 95 < nx := by omega
    have n4 : 39 < nx := by omega
    have n5 : 77 < nx := by omega
    have n6 : 23 < nx := by omega
    refine WP.ofX hI hYF (by rfl) ?_
    by_cases hkw : k < who.length
    · have hkw' : (k : Int) < who.length := by omega
      have ww : IntKind.wrap .i64 ((k : Int) + 1) = ((k + 1 : Nat) : Int) := by rw [wrap_i (by omega) (by omega)]; omega
      have hk0 : (0 : Int) ≤ k := by omega
      have hg := getD_z hkw
      generalize who.getD k 0 = i at hg
      by_cases h1 : 0 ≤ i
      · have h2 : ¬ i < 0 := by omega
        simp only [IA_all, hYT, hYC, hYY, r_yld, hkw', ww, hk0, hg, h1, h2, n1, n2, n3, n4, n5, n6, Int.toNat_natCast, Int.le_refl, Nat.le_refl, zs, fs, fss, sv, fv, List.map_nil, rf1, List.set_set, T52, T50, T51, nb_self, nb_same, nb_l0, nb_r0, nb_lt, nb_gt, nb_lt0, nb_gt0, Nat.add_assoc, top_T, top_C, top_P, inR_T, inR_C, inR_P, iter_T, iter_C, iter_P, iter_Y, r_rangeF, r_yld, r_start, r_rkN, r_rkR, r_rkE, r_endR, r_endM, r_endJ0, r_endJ2, r_endJ3, r_endJ5, r_endJ7, zipF, hfree_fr, hfree_cf, cv', cf_eta, frz_u, shC_dec, dC, T23, T28, T25, hfree_lu, hfree_l0, row0, row1, row2, row3, row4, row5, shI_dec, shN_dec, shB_dec, shM_dec, dI, dN, dB, dM, dU, dU_map, iv, bv, u, ms, ctx_T, ctx_C, ctx_P, T4, T3, T26, Option.bind_some, Option.bind_none, Option.map_some, List.length_map, List.length_set, String.reduceBEq, Int.toNat_natCast, Bool.true_beq, Bool.false_beq, T24, shF_dec, dF, fr_eta, Int.cast_ofNat_Int, Int.reduceSub, Int.reduceAdd, Int.reduceNeg, ev1, ev2, implies_true, undef, stepP, dynCall, ↓condE_t, ↓condE_f, ↓guardE_tt, ↓guardE_ff, ↓guardE_tf, ↓guardE_ft, frzDeep, deepArgs, deepArg, resB, cv, stepB, stepE, callD, tabD, snapD, snap1, snapC, snapId, snapIds, guardB, guardC, dstAt, aopR, one, pre, binR, intOpR, shiftOpR, unR, argFrm, evo, lkp, hlk, lenOf, asLst, idOf, bndA, srcOk, ofVal, ofCells, setCells, fillA, setElems, fieldsOf, fieldsEq, scalEq, isEq, AV.wr, AV.ok1, TK.agg, frz, frzs, frzA, frzArg, frzArgs, subA, subL, sub1, kp, kh, accOf, List.replicate, Nat.reduceAdd, Nat.reduceSub, Nat.reduceMul, Nat.reduceEqDiff, Nat.reduceLT, Nat.reduceLeDiff, Nat.reduceBEq, reduceIte, reduceCtorEq, eq_self, ne_eq, Int.reduceToNat, Int.reduceLT, Int.reduceLE, Int.reduceGT, Int.reduceGE, Int.reduceBEq, Int.reduceBNe, Int.reduceEq, Int.reduceNe]
        exact ⟨k + 1, by omega, by omega, rfl⟩
      · simp only [IA_all, hYT, hYC, hYY, r_yld, hkw', ww, hk0, hg, h1, n1, n2, n3, n4, n5, n6, Int.toNat_natCast, Int.le_refl, Nat.le_refl, zs, fs, fss, sv, fv, List.map_nil, rf1, List.set_set, T52, T50, T51, nb_self, nb_same, nb_l0, nb_r0, nb_lt, nb_gt, nb_lt0, nb_gt0, Nat.add_assoc, top_T, top_C, top_P, inR_T, inR_C, inR_P, iter_T, iter_C, iter_P, iter_Y, r_rangeF, r_yld, r_start, r_rkN, r_rkR, r_rkE, r_endR, r_endM, r_endJ0, r_endJ2, r_endJ3, r_endJ5, r_endJ7, zipF, hfree_fr, hfree_cf, cv', cf_eta, frz_u, shC_dec, dC, T23, T28, T25, hfree_lu, hfree_l0, row0, row1, row2, row3, row4, row5, shI_dec, shN_dec, shB_dec, shM_dec, dI, dN, dB, dM, dU, dU_map, iv, bv, u, ms, ctx_T, ctx_C, ctx_P, T4, T3, T26, Option.bind_some, Option.bind_none, Option.map_some, List.length_map, List.length_set, String.reduceBEq, Int.toNat_natCast, Bool.true_beq, Bool.false_beq, T24, shF_dec, dF, fr_eta, Int.cast_ofNat_Int, Int.reduceSub, Int.reduceAdd, Int.reduceNeg, ev1, ev2, implies_true, undef, stepP, dynCall, ↓condE_t, ↓condE_f, ↓guardE_tt, ↓guardE_ff, ↓guardE_tf, ↓guardE_ft, frzDeep, deepArgs, deepArg, resB, cv, stepB, stepE, callD, tabD, snapD, snap1, snapC, snapId, snapIds, guardB, guardC, dstAt, aopR, one, pre, binR, intOpR, shiftOpR, unR, argFrm, evo, lkp, hlk, lenOf, asLst, idOf, bndA, srcOk, ofVal, ofCells, setCells, fillA, setElems, fieldsOf, fieldsEq, scalEq, isEq, AV.wr, AV.ok1, TK.agg, frz, frzs, frzA, frzArg, frzArgs, subA, subL, sub1, kp, kh, accOf, List.replicate, Nat.reduceAdd, Nat.reduceSub, Nat.reduceMul, Nat.reduceEqDiff, Nat.reduceLT, Nat.reduceLeDiff, Nat.reduceBEq, reduceIte, reduceCtorEq, eq_self, ne_eq, Int.reduceToNat, Int.reduceLT, Int.reduceLE, Int.reduceGT, Int.reduceGE, Int.reduceBEq, Int.reduceBNe, Int.reduceEq, Int.reduceNe]
        exact ⟨k + 1, by omega, by omega, rfl⟩
    · have hkw' : ¬ (k : Int) < who.length := by omega
      simp only [IA_all, hYT, hYC, hYY, r_yld, hkw', n1, n2, n3, n4, n5, n6, Int.toNat_natCast, Int.le_refl, Nat.le_refl, zs, fs, fss, sv, fv, List.map_nil, rf1, List.set_set, T52, T50, T51, nb_self, nb_same, nb_l0, nb_r0, nb_lt, nb_gt, nb_lt0, nb_gt0, Nat.add_assoc, top_T, top_C, top_P, inR_T, inR_C, inR_P, iter_T, iter_C, iter_P, iter_Y, r_rangeF, r_yld, r_start, r_rkN, r_rkR, r_rkE, r_endR, r_endM, r_endJ0, r_endJ2, r_endJ3, r_endJ5, r_endJ7, zipF, hfree_fr, hfree_cf, cv', cf_eta, frz_u, shC_dec, dC, T23, T28, T25, hfree_lu, hfree_l0, row0, row1, row2, row3, row4, row5, shI_dec, shN_dec, shB_dec, shM_dec, dI, dN, dB, dM, dU, dU_map, iv, bv, u, ms, ctx_T, ctx_C, ctx_P, T4, T3, T26, Option.bind_some, Option.bind_none, Option.map_some, List.length_map, List.length_set, String.reduceBEq, Int.toNat_natCast, Bool.true_beq, Bool.false_beq, T24, shF_dec, dF, fr_eta, Int.cast_ofNat_Int, Int.reduceSub, Int.reduceAdd, Int.reduceNeg, ev1, ev2, implies_true, undef, stepP, dynCall, ↓condE_t, ↓condE_f, ↓guardE_tt, ↓guardE_ff, ↓guardE_tf, ↓guardE_ft, frzDeep, deepArgs, deepArg, resB, cv, stepB, stepE, callD, tabD, snapD, snap1, snapC, snapId, snapIds, guardB, guardC, dstAt, aopR, one, pre, binR, intOpR, shiftOpR, unR, argFrm, evo, lkp, hlk, lenOf, asLst, idOf, bndA, srcOk, ofVal, ofCells, setCells, fillA, setElems, fieldsOf, fieldsEq, scalEq, isEq, AV.wr, AV.ok1, TK.agg, frz, frzs, frzA, frzArg, frzArgs, subA, subL, sub1, kp, kh, accOf, List.replicate, Nat.reduceAdd, Nat.reduceSub, Nat.reduceMul, Nat.reduceEqDiff, Nat.reduceLT, Nat.reduceLeDiff, Nat.reduceBEq, reduceIte, reduceCtorEq, eq_self, ne_eq, Int.reduceToNat, Int.reduceLT, Int.reduceLE, Int.reduceGT, Int.reduceGE, Int.reduceBEq, Int.reduceBNe, Int.reduceEq, Int.reduceNe]
      all_goals ((repeat' apply And.intro) <;> first | rfl | (intro x hx; cases hx))
end Go.Vai
/- What all do at the injector. -/
namespace Go.Vai
open Go.RowKit Go.Proofs
set_option linter.unusedSimpArgs false
set_option linter.unusedVariables false
set_option maxHeartbeats 4000000
set_option maxRecDepth 100000

def repA (n j : Nat) : List Fr := List.replicate j noneF ++ List.replicate (n - j) fr0

theorem rep_take {n j : Nat} (h : j ≤ n) : List.take j ((repA n j).map fv) = (List.replicate j noneF).map fv := by
  rw [← List.map_take, repA, List.take_append_of_le_length (by simp), List.take_of_length_le (by simp)]
theorem rep_drop {n j : Nat} (q : Nat) : List.drop (j + q) ((repA n j).map fv) = (List.replicate (n - j - q) fr0).map fv := by
  rw [← List.map_drop, repA, List.drop_append, List.drop_eq_nil_of_le (by simp), List.nil_append, List.drop_replicate]
  simp
theorem rep_join (n j q : Nat) : (List.replicate j noneF).map fv ++ (List.replicate q noneF).map fv ++ (List.replicate (n - j - q) fr0).map fv = (repA n (j + q)).map fv := by
  rw [repA, List.map_append, ← List.replicate_append_replicate, List.map_append, Nat.sub_sub]


theorem play_pure (room : Int) (calls : List (List Fr)) (who : List Int) (hc : calls.length ≤ 1000) (hs : Short 1000 calls) (hw : who.length ≤ 1000) :
    PureC Try.prog 37 [iv room, fss calls, zs who] (.tup [ms (iPlay room calls who).1, fs (iPlay room calls who).2.1, fs (iPlay room calls who).2.2]) := by
  by_cases hq : calls = [] ∧ mayC (injC room) = true
  · obtain ⟨rfl, hm⟩ := hq
    exact play_nil room who hw hm
  refine pure_top okIA 4 Try.func37 rfl (by show 3 ≤ _; decide) ?_
  by_cases hm : mayC (injC room) = true
  · by_cases h8 : calls.length ≤ 8
    · have h8' : ¬ (calls.length : Int) > 8 := by omega
      have e : injC room = ⟨1, 1, room, 0⟩ := rfl
      rw [e] at hm
      by_cases hne : calls = []
      · exact absurd ⟨hne, hm⟩ hq
      · have hne' : (calls.map fs = []) = False := by simp [hne]
        have hL := len_fss calls
        generalize hA : calls.map fs = A at hne' hL
        obtain ⟨N, hN⟩ : ∃ N, calls.length = N + 1 := ⟨calls.length - 1, by have := List.length_pos_iff.2 hne; omega⟩
        rw [hN] at hL
        generalize hZ : ((N + 1 : Nat) : Int) = Z
        have z1 : ¬ Z > 8 := by omega
        have z2 : ¬ Z < 0 := by omega
        have z3 : IntKind.wrap .u64 Z = Z := by rw [IntKind.wrap_u64]; omega
        have z4 : Z ≤ 8 := by omega
        have z5 : ¬ Z > 9223372036854775807 := by omega
        have z6 : IntKind.wrap .i64 Z = Z := by rw [wrap_i (by omega) (by omega)]
        have z7 : 0 ≤ Z := by omega
        have z8 : Z.toNat = N + 1 := by omega
        have z9 : (N + 1) * 24 ≤ 140737488355328 := by omega
        have z10 : (N + 1) * 7 ≤ 16777216 := by omega
        have z11 : (N + 1) * 56 ≤ 140737488355328 := by omega
        have z12 : IntKind.wrap .u64 1 = 1 := by decide
        simp only [Try.f37, List.take_nil, Try.func78, Try.f78, Try.func79, Try.f79,
          Try.func80, Try.f80, Try.func97, Try.f97,
          inl, IA_all, hm, h8', fss, zs, fs, sv, fv, hA, hL, hne', hZ, z1, z2, z3, z4, z5, z6, z7, z8, z9, z10, z11, z12, T52, T50, T51, T105, top_T, top_C, top_P, inR_T, inR_C, inR_P, iter_T, iter_C, iter_P, iter_Y, r_rangeF, r_yld, r_start, r_rkN, r_rkR, r_rkE, r_endR, r_endM, r_endJ0, r_endJ2, r_endJ3, r_endJ5, r_endJ7, zipF, hfree_fr, hfree_cf, cv', cf_eta, frz_u, shC_dec, dC, T23, T28, T25, hfree_lu, hfree_l0, row0, row1, row2, row3, row4, row5, shI_dec, shN_dec, shB_dec, shM_dec, dI, dN, dB, dM, dU, dU_map, iv, bv, u, ms, ctx_T, ctx_C, ctx_P, T4, T3, T26, Option.bind_some, Option.bind_none, Option.map_some, List.length_map, List.length_set, String.reduceBEq, Int.toNat_natCast, Bool.true_beq, Bool.false_beq, T24, shF_dec, dF, fr_eta, Int.cast_ofNat_Int, Int.reduceSub, Int.reduceAdd, Int.reduceNeg, ev1, ev2, implies_true, undef, stepP, dynCall, ↓condE_t, ↓condE_f, ↓guardE_tt, ↓guardE_ff, ↓guardE_tf, ↓guardE_ft, frzDeep, deepArgs, deepArg, resB, cv, stepB, stepE, callD, tabD, snapD, snap1, snapC, snapId, snapIds, guardB, guardC, dstAt, aopR, one, pre, binR, intOpR, shiftOpR, unR, argFrm, evo, lkp, hlk, lenOf, asLst, idOf, bndA, srcOk, ofVal, ofCells, setCells, fillA, setElems, fieldsOf, fieldsEq, scalEq, isEq, AV.wr, AV.ok1, TK.agg, frz, frzs, frzA, frzArg, frzArgs, subA, subL, sub1, kp, kh, accOf, List.replicate, Nat.reduceAdd, Nat.reduceSub, Nat.reduceMul, Nat.reduceEqDiff, Nat.reduceLT, Nat.reduceLeDiff, Nat.reduceBEq, reduceIte, reduceCtorEq, eq_self, ne_eq, Int.reduceToNat, Int.reduceLT, Int.reduceLE, Int.reduceGT, Int.reduceGE, Int.reduceBEq, Int.reduceBNe, Int.reduceEq, Int.reduceNe]
        refine ⟨by simp, ?_⟩
        refine WP.loop (ι := Nat) (fun j => N + 1 - j) (fun j => 1 ≤ j ∧ j ≤ N + 1) (n := 48) (fr := fun j => [(8, iv j), (7, .arr 77 0 (N + 1)), (4, .v (.slice none 0 0)), (0, .arr 35 0 1), (1, iv Z)])
          (hp := fun j => [(77, some ⟨false, 28, 7, (repA (N + 1) j).map fv⟩), (24, some ⟨false, 50, 1, [.arr 32 0 (N + 1)]⟩), (23, some ⟨false, 25, 1, [ms (zeros (lSize ⟨1, 1, room, 0⟩).toNat)]⟩), (32, some ⟨false, 52, 1, A⟩),
            (5, some ⟨false, 23, 4, [cv' ⟨1, 1, room, 0⟩]⟩)]) (N := 83) ?_ 1 ⟨Nat.le_refl _, by omega⟩ rfl (Nat.le_refl _) ?_ ?_
        · rintro j nx ⟨hj1, hj2⟩ hN' hid
          have jj : 0 ≤ (j : Int) := by omega
          have jZ : (j : Int) ≤ Z := by omega
          refine WP.of okIA 1 (by rfl) ?_
          by_cases hjN : (j : Int) < Z
          · obtain ⟨q, hq⟩ : ∃ q, q = min (N + 1 - j) j := ⟨_, rfl⟩
            have tk1 := rep_take (n := N + 1) hj2
            have tk2 : List.take (N + 1 - j) ((List.replicate j noneF).map fv) = (List.replicate q noneF).map fv := by rw [← List.map_take, List.take_replicate, hq]
            have tk3 : ((List.replicate q noneF).map fv).length = q := by simp
            have tk4 := rep_drop (n := N + 1) (j := j) q
            have hrl : ((repA (N + 1) j).map fv).length = N + 1 := by simp [repA]; omega
            have hjq : j + (N + 1 - j) ≤ N + 1 := by omega
            have ww : IntKind.wrap .i64 ((j : Int) + (q : Int)) = ((j + q : Nat) : Int) := by rw [wrap_i (by omega) (by omega)]; omega
            have n1 : 77 < nx := by omega
            have n2 : 24 < nx := by omega
            have n3 : 23 < nx := by omega
            have n4 : 32 < nx := by omega
            have n5 : 5 < nx := by omega
            simp only [IA_all, hZ, hjN, jj, jZ, hj2, hA, hL, tk1, tk2, tk3, tk4, hrl, hjq, ww, n1, n2, n3, n4, n5, z1, z2, z3, z4, z5, z6, z7, z8, z9, z10, z11, z12, fs, Int.toNat_natCast, Int.le_refl, T52, T50, T51, T105, nb_self, nb_same, nb_l0, nb_r0, nb_lt, nb_gt, nb_lt0, nb_gt0, Nat.add_assoc, Int.cast_ofNat_Int, Int.reduceSub, Int.reduceAdd, Int.reduceNeg, inl, sv, fv, hfree_fr, hfree_cf, cv', cf_eta, frz_u, shC_dec, dC, T23, T28, T25, hfree_lu, hfree_l0, row0, row1, row2, row3, row4, row5, shI_dec, shN_dec, shB_dec, shM_dec, dI, dN, dB, dM, dU, dU_map, iv, bv, u, ms, ctx_T, ctx_C, ctx_P, T4, T3, T26, Option.bind_some, Option.bind_none, Option.map_some, List.length_map, List.length_set, String.reduceBEq, Int.toNat_natCast, Bool.true_beq, Bool.false_beq, T24, shF_dec, dF, fr_eta, ev1, ev2, implies_true, undef, stepP, dynCall, ↓condE_t, ↓condE_f, ↓guardE_tt, ↓guardE_ff, ↓guardE_tf, ↓guardE_ft, frzDeep, deepArgs, deepArg, resB, cv, stepB, stepE, callD, tabD, snapD, snap1, snapC, snapId, snapIds, guardB, guardC, dstAt, aopR, one, pre, binR, intOpR, shiftOpR, unR, argFrm, evo, lkp, hlk, lenOf, asLst, idOf, bndA, srcOk, ofVal, ofCells, setCells, fillA, setElems, fieldsOf, fieldsEq, scalEq, isEq, AV.wr, AV.ok1, TK.agg, frz, frzs, frzA, frzArg, frzArgs, subA, subL, sub1, kp, kh, accOf, List.replicate, Nat.reduceAdd, Nat.reduceSub, Nat.reduceMul, Nat.reduceEqDiff, Nat.reduceLT, Nat.reduceLeDiff, Nat.reduceBEq, reduceIte, reduceCtorEq, eq_self, ne_eq, Int.reduceToNat, Int.reduceLT, Int.reduceLE, Int.reduceGT, Int.reduceGE, Int.reduceBEq, Int.reduceBNe, Int.reduceEq, Int.reduceNe]
            have hj3 : j < N + 1 := by omega
            refine ⟨?_, j + q, by omega, ⟨by omega, by omega⟩, rfl, by rw [rep_join]⟩
            (repeat (first | exact entryOk_nil _ _ _ _ | (refine entryOk_step ?h ?_; case h => (first | (apply Or.inr; constructor <;> simp [meets] <;> omega; done) | (apply Or.inl; show anc _ _ _ _ = true; kernel_rfl)))))
          · have hjE : j = N + 1 := by omega
            subst hjE
            have hr : (repA (N + 1) (N + 1)).map fv = (List.replicate (N + 1) noneF).map fv := by rw [repA, Nat.sub_self]; simp
            have n1 : 77 < nx := by omega
            have n2 : 24 < nx := by omega
            have n3 : 23 < nx := by omega
            have n4 : 32 < nx := by omega
            have n5 : 5 < nx := by omega
            rw [hr]
            generalize hB : List.replicate (N + 1) noneF = B
            simp only [IA_all, Try.func81, Try.f81, hZ, Int.lt_irrefl, hj2, hA, hL, n1, n2, n3, n4, n5, z1, z2, z3, z4, z5, z6, z7, z8, z9, z10, z11, z12, fs, Int.toNat_natCast, Int.le_refl, T52, T50, T51, T105, nb_self, nb_same, nb_l0, nb_r0, nb_lt, nb_gt, nb_lt0, nb_gt0, Nat.add_assoc, Int.cast_ofNat_Int, Int.reduceSub, Int.reduceAdd, Int.reduceNeg, inl, sv, fv, top_T, top_C, top_P, inR_T, inR_C, inR_P, iter_T, iter_C, iter_P, iter_Y, r_rangeF, r_yld, r_start, r_rkN, r_rkR, r_rkE, r_endR, r_endM, r_endJ0, r_endJ2, r_endJ3, r_endJ5, r_endJ7, zipF, hfree_fr, hfree_cf, cv', cf_eta, frz_u, shC_dec, dC, T23, T28, T25, hfree_lu, hfree_l0, row0, row1, row2, row3, row4, row5, shI_dec, shN_dec, shB_dec, shM_dec, dI, dN, dB, dM, dU, dU_map, iv, bv, u, ms, ctx_T, ctx_C, ctx_P, T4, T3, T26, Option.bind_some, Option.bind_none, Option.map_some, List.length_map, List.length_set, String.reduceBEq, Int.toNat_natCast, Bool.true_beq, Bool.false_beq, T24, shF_dec, dF, fr_eta, ev1, ev2, implies_true, undef, stepP, dynCall, ↓condE_t, ↓condE_f, ↓guardE_tt, ↓guardE_ff, ↓guardE_tf, ↓guardE_ft, frzDeep, deepArgs, deepArg, resB, cv, stepB, stepE, callD, tabD, snapD, snap1, snapC, snapId, snapIds, guardB, guardC, dstAt, aopR, one, pre, binR, intOpR, shiftOpR, unR, argFrm, evo, lkp, hlk, lenOf, asLst, idOf, bndA, srcOk, ofVal, ofCells, setCells, fillA, setElems, fieldsOf, fieldsEq, scalEq, isEq, AV.wr, AV.ok1, TK.agg, frz, frzs, frzA, frzArg, frzArgs, subA, subL, sub1, kp, kh, accOf, List.replicate, Nat.reduceAdd, Nat.reduceSub, Nat.reduceMul, Nat.reduceEqDiff, Nat.reduceLT, Nat.reduceLeDiff, Nat.reduceBEq, reduceIte, reduceCtorEq, eq_self, ne_eq, Int.reduceToNat, Int.reduceLT, Int.reduceLE, Int.reduceGT, Int.reduceGE, Int.reduceBEq, Int.reduceBNe, Int.reduceEq, Int.reduceNe]
            refine WP.virtB (nx + 6) 28 7 (b := ⟨false, 52, 1, [.v (.slice none 0 0)]⟩) (by simp only [hlk, nb_self, nb_same, nb_l0, nb_r0, nb_lt, nb_gt, nb_lt0, nb_gt0, Nat.add_assoc, Nat.reduceBEq]) rfl (by decide) ?_ (im := (top_core okIA).im)
            refine WP.ranges okIA 1 (g := 98) rfl (enters_of Try.func98 (by decide) rfl) Try.func98 rfl (by show 3 ≤ _; decide) (by rfl) (by rfl) ?_
            intro Y hI hYF hYT hYC hYY
            have hcs : calls.length ≤ N + 1 := by omega
            simp only [Try.f98, inl, IA_all, hYT, hYC, hA, hL, n1, n2, n3, n4, n5, len_zs, T52, T50, T51, sv, fv, nb_self, nb_same, nb_l0, nb_r0, nb_lt, nb_gt, nb_lt0, nb_gt0, Nat.add_assoc, top_T, top_C, top_P, inR_T, inR_C, inR_P, iter_T, iter_C, iter_P, iter_Y, r_rangeF, r_yld, r_start, r_rkN, r_rkR, r_rkE, r_endR, r_endM, r_endJ0, r_endJ2, r_endJ3, r_endJ5, r_endJ7, zipF, hfree_fr, hfree_cf, cv', cf_eta, frz_u, shC_dec, dC, T23, T28, T25, hfree_lu, hfree_l0, row0, row1, row2, row3, row4, row5, shI_dec, shN_dec, shB_dec, shM_dec, dI, dN, dB, dM, dU, dU_map, iv, bv, u, ms, ctx_T, ctx_C, ctx_P, T4, T3, T26, Option.bind_some, Option.bind_none, Option.map_some, List.length_map, List.length_set, String.reduceBEq, Int.toNat_natCast, Bool.true_beq, Bool.false_beq, T24, shF_dec, dF, fr_eta, ev1, ev2, implies_true, undef, stepP, dynCall, ↓condE_t, ↓condE_f, ↓guardE_tt, ↓guardE_ff, ↓guardE_tf, ↓guardE_ft, frzDeep, deepArgs, deepArg, resB, cv, stepB, stepE, callD, tabD, snapD, snap1, snapC, snapId, snapIds, guardB, guardC, dstAt, aopR, one, pre, binR, intOpR, shiftOpR, unR, argFrm, evo, lkp, hlk, lenOf, asLst, idOf, bndA, srcOk, ofVal, ofCells, setCells, fillA, setElems, fieldsOf, fieldsEq, scalEq, isEq, AV.wr, AV.ok1, TK.agg, frz, frzs, frzA, frzArg, frzArgs, subA, subL, sub1, kp, kh, accOf, List.replicate, Nat.reduceAdd, Nat.reduceSub, Nat.reduceMul, Nat.reduceEqDiff, Nat.reduceLT, Nat.reduceLeDiff, Nat.reduceBEq, reduceIte, reduceCtorEq, eq_self, ne_eq, Int.reduceToNat, Int.reduceLT, Int.reduceLE, Int.reduceGT, Int.reduceGE, Int.reduceBEq, Int.reduceBNe, Int.reduceEq, Int.reduceNe]
            obtain ⟨S, hS⟩ := plays len_iStep ⟨1, 1, room, 0⟩ calls who
            refine WP.loop (ι := Nat × Nat) (fun i => who.length - i.1) (fun i => i.1 ≤ who.length ∧ (i.2 = nx + 16 ∨ nx + 21 ≤ i.2)) (n := 26)
              (fr := fun i => [(8, iv i.1), (7, iv who.length), (6, zs who), (0, .yld (nx + 17)), (2, .ptr (nx + 12) 0 0)])
              (hp := fun i => [(nx + 17, some (gBlk 0)), (nx + 6, some ⟨false, 52, 1, [.arr i.2 0 (S i.1).over.length]⟩), (i.2, some ⟨false, 28, 7, (S i.1).over.map fv⟩), (nx + 12, some ⟨false, 3, 1, [iv Z]⟩),
                (39, some ⟨false, 52, 1, [.arr 77 0 (N + 1)]⟩), (77, some ⟨false, 28, 7, (S i.1).hand.map fv⟩), (24, some ⟨false, 50, 1, [.arr 32 0 (N + 1)]⟩), (32, some ⟨false, 52, 1, (S i.1).left.map fs⟩),
                (23, some ⟨false, 25, 1, [ms (S i.1).m]⟩), (5, some ⟨false, 23, 4, [cv' ⟨1, 1, room, 0⟩]⟩)]) (N := nx + 21) ?_ (0, nx + 16) ⟨Nat.zero_le _, .inl rfl⟩ rfl (Nat.le_refl _) ?_ ?_ (im := hI.im)
            · rintro ⟨k, id⟩ nx2 ⟨hk, hj⟩ hN2 hid2
              dsimp only at hk hj hN2 hid2 ⊢
              have k0 : 5 < nx2 := by omega
              have k1 : 23 < nx2 := by omega
              have k2 : 24 < nx2 := by omega
              have k3 : 32 < nx2 := by omega
              have k4 : 39 < nx2 := by omega
              have k5 : 77 < nx2 := by omega
              have k6 : nx + 6 < nx2 := by omega
              have k7 : nx + 12 < nx2 := by omega
              have k8 : nx + 17 < nx2 := by omega
              have n0 : 39 < nx := by omega
              have bb : ∀ j : Nat, j < nx + 16 ∨ j = nx + 17 → Nat.beq j id = false ∧ Nat.beq id j = false := by
                intro j hjj
                constructor <;> (rw [← Bool.not_eq_true, Nat.beq_eq]; omega)
              obtain ⟨b0, d0⟩ := bb 5 (by omega)
              obtain ⟨b1, d1⟩ := bb 23 (by omega)
              obtain ⟨b2, d2⟩ := bb 24 (by omega)
              obtain ⟨b3, d3⟩ := bb 32 (by omega)
              obtain ⟨b4, d4⟩ := bb 39 (by omega)
              obtain ⟨b5, d5⟩ := bb 77 (by omega)
              obtain ⟨b6, d6⟩ := bb (nx + 6) (by omega)
              obtain ⟨b7, d7⟩ := bb (nx + 12) (by omega)
              obtain ⟨b8, d8⟩ := bb (nx + 17) (by omega)
              have hidn : id < nx2 := by
                rcases hj with e | e
                · omega
                · exact hid2 id ⟨false, 28, 7, (S k).over.map fv⟩ (by simp only [hlk, d6, d8, nb_self])
              have b9 : Nat.beq id nx2 = false := nb_lt0 hidn
              have d9 : ∀ a, Nat.beq id (nx2 + a) = false := fun a => nb_lt hidn a
              refine WP.ofX hI hYF (by rfl) ?_
              have hh := hS.hand k
              have hl := hS.left k
              have hml := hS.m k
              have hov := hS.over k
              have hsh := hS.short 1000 hs k
              have hs1 := hS.succ k
              have hla := hS.last
              generalize hSk : S k = s at hh hl hml hov hsh hs1 ⊢
              obtain ⟨m, left, hand, over⟩ := s
              dsimp only at hh hl hml hov hsh hs1 ⊢
              rw [hN] at hh hl hs1
              have hlen : over.length ≤ 1000 := by omega
              have hcap : (over.length + 1) * 56 ≤ 140737488355328 := by omega
              by_cases hkw : k < who.length
              · have hkw' : (k : Int) < who.length := by omega
                have ww : IntKind.wrap .i64 ((k : Int) + 1) = ((k + 1 : Nat) : Int) := by rw [wrap_i (by omega) (by omega)]; omega
                have hk0 : (0 : Int) ≤ k := by omega
                have hg := getD_z hkw
                have hs2 := hs1 hkw
                generalize who.getD k 0 = i at hg hs2
                by_cases h0 : 0 ≤ i ∧ i < Z
                · obtain ⟨i', rfl⟩ := Int.eq_ofNat_of_zero_le h0.1
                  have hi1 : (0 : Int) ≤ (i' : Int) := by omega
                  have hi2 : (i' : Int) < Z := h0.2
                  have hi3 : i' < N + 1 := by omega
                  have hs3 : S (k + 1) = pRound iStep ⟨1, 1, room, 0⟩ ⟨m, left, hand, over⟩ i' := by rw [hs2, pTurn, if_pos (by omega), Int.toNat_natCast]
                  have g1 := getD_f (l := hand) (k := i') (by omega)
                  have g2 := getD_fs (l := left) (k := i') (by omega)
                  have g3 : hand.getD i' noneF = hand.getD i' fr0 := getD_in (by omega)
                  have g4 : (left.getD i' []).length ≤ 1000 := hsh.get i'
                  have hp : pHand ⟨m, left, hand, over⟩ i' = if (hand.getD i' fr0).op = -1 then nextP i' (left.getD i' []) else (hand.getD i' fr0, left.getD i' []) := by rw [← g3]; rfl
                  generalize hand.getD i' fr0 = x at g1 hp
                  generalize hlx : left.getD i' [] = l at g2 g4 hp
                  by_cases hx : x.op = -1
                  · have hx' : (x.op == -1) = true := by simpa using hx
                    rw [if_pos hx] at hp
                    obtain ⟨p1, p2, e1⟩ : ∃ a b, nextP i' l = (a, b) := ⟨_, _, rfl⟩
                    obtain ⟨m', g, e2⟩ : ∃ a b, iStep ⟨1, 1, room, 0⟩ m p1 = (a, b) := ⟨_, _, rfl⟩
                    have g5 := getD_set_f (l := hand) (k := i') (by omega) p1
                    have g6 := getD_set_f (l := hand) (k := i') (by omega) g
                    have hml' : m'.length ≤ 1000 := by have := len_iStep ⟨1, 1, room, 0⟩ m p1; rw [e2] at this; dsimp only at this; omega
                    by_cases hr : g.res = 0
                    · have hr' : (g.res != 0) = false := by simpa using hr
                      have hs4 : S (k + 1) = ⟨m', left.set i' p2, hand.set i' g, over⟩ := by rw [hs3, pRound, hp, e1]; dsimp only; rw [e2]; exact if_pos hr
                      simp only [IA_all, hYT, hYC, hYY, r_yld, hZ, hg, hkw', ww, hk0, hi1, hi2, hi3, g1, g2, g4, g5, g6, hx', e1, e2, hr', b0, b1, b2, b3, b4, b5, b6, b7, b8, b9, d0, d1, d2, d3, d4, d5, d6, d7, d8, d9, n0, n1, n2, n3, n4, n5, k0, k1, k2, k3, k4, k5, k6, k7, k8, len_snocF, hh, hl, hml, hlen, hcap, Int.toNat_natCast, Int.le_refl, Nat.le_refl, zs, fs, sv, fv, rf1, List.set_set, T52, T50, T51, nb_self, nb_same, nb_l0, nb_r0, nb_lt, nb_gt, nb_lt0, nb_gt0, Nat.add_assoc, top_T, top_C, top_P, inR_T, inR_C, inR_P, iter_T, iter_C, iter_P, iter_Y, r_rangeF, r_yld, r_start, r_rkN, r_rkR, r_rkE, r_endR, r_endM, r_endJ0, r_endJ2, r_endJ3, r_endJ5, r_endJ7, zipF, hfree_fr, hfree_cf, cv', cf_eta, frz_u, shC_dec, dC, T23, T28, T25, hfree_lu, hfree_l0, row0, row1, row2, row3, row4, row5, shI_dec, shN_dec, shB_dec, shM_dec, dI, dN, dB, dM, dU, dU_map, iv, bv, u, ms, ctx_T, ctx_C, ctx_P, T4, T3, T26, Option.bind_some, Option.bind_none, Option.map_some, List.length_map, List.length_set, String.reduceBEq, Int.toNat_natCast, Bool.true_beq, Bool.false_beq, T24, shF_dec, dF, fr_eta, Int.cast_ofNat_Int, Int.reduceSub, Int.reduceAdd, Int.reduceNeg, ev1, ev2, implies_true, undef, stepP, dynCall, ↓condE_t, ↓condE_f, ↓guardE_tt, ↓guardE_ff, ↓guardE_tf, ↓guardE_ft, frzDeep, deepArgs, deepArg, resB, cv, stepB, stepE, callD, tabD, snapD, snap1, snapC, snapId, snapIds, guardB, guardC, dstAt, aopR, one, pre, binR, intOpR, shiftOpR, unR, argFrm, evo, lkp, hlk, lenOf, asLst, idOf, bndA, srcOk, ofVal, ofCells, setCells, fillA, setElems, fieldsOf, fieldsEq, scalEq, isEq, AV.wr, AV.ok1, TK.agg, frz, frzs, frzA, frzArg, frzArgs, subA, subL, sub1, kp, kh, accOf, List.replicate, Nat.reduceAdd, Nat.reduceSub, Nat.reduceMul, Nat.reduceEqDiff, Nat.reduceLT, Nat.reduceLeDiff, Nat.reduceBEq, reduceIte, reduceCtorEq, eq_self, ne_eq, Int.reduceToNat, Int.reduceLT, Int.reduceLE, Int.reduceGT, Int.reduceGE, Int.reduceBEq, Int.reduceBNe, Int.reduceEq, Int.reduceNe]
                      intro lz
                      repeat' apply And.intro
                      any_goals (show entryOk _ _ _ _ _ = true; (repeat (first | exact entryOk_nil _ _ _ _ | (refine entryOk_step ?h ?_; case h => (first | (apply Or.inr; constructor <;> simp [meets] <;> omega; done) | (apply Or.inl; show anc _ _ _ _ = true; kernel_rfl))))))
                      refine ⟨(k + 1, id), by dsimp only; omega, ⟨by dsimp only; omega, hj⟩, rfl, ?_⟩
                      dsimp only
                      rw [hs4]
                      dsimp only
                      refine ⟨rfl, ?_⟩
                      simp only [b0, b1, b2, b3, b4, b5, b6, b7, b8, b9, d0, d1, d2, d3, d4, d5, d6, d7, d8, d9, n0, n1, n2, n3, n4, n5, k0, k1, k2, k3, k4, k5, k6, k7, k8, nb_self, nb_same, nb_l0, nb_r0, nb_lt, nb_gt, nb_lt0, nb_gt0, Nat.add_assoc]
                      refine ⟨?_, ?_, ?_, ?_⟩ <;> first | trivial | rfl
                    · have hr' : (g.res != 0) = true := by simpa using hr
                      have hs4 : S (k + 1) = ⟨m', left.set i' p2, hand.set i' noneF, over ++ [g]⟩ := by rw [hs3, pRound, hp, e1]; dsimp only; rw [e2]; exact if_neg hr
                      simp only [IA_all, hYT, hYC, hYY, r_yld, hZ, hg, hkw', ww, hk0, hi1, hi2, hi3, g1, g2, g4, g5, g6, hx', e1, e2, hr', b0, b1, b2, b3, b4, b5, b6, b7, b8, b9, d0, d1, d2, d3, d4, d5, d6, d7, d8, d9, n0, n1, n2, n3, n4, n5, k0, k1, k2, k3, k4, k5, k6, k7, k8, len_snocF, hh, hl, hml, hlen, hcap, Int.toNat_natCast, Int.le_refl, Nat.le_refl, zs, fs, sv, fv, rf1, List.set_set, T52, T50, T51, nb_self, nb_same, nb_l0, nb_r0, nb_lt, nb_gt, nb_lt0, nb_gt0, Nat.add_assoc, top_T, top_C, top_P, inR_T, inR_C, inR_P, iter_T, iter_C, iter_P, iter_Y, r_rangeF, r_yld, r_start, r_rkN, r_rkR, r_rkE, r_endR, r_endM, r_endJ0, r_endJ2, r_endJ3, r_endJ5, r_endJ7, zipF, hfree_fr, hfree_cf, cv', cf_eta, frz_u, shC_dec, dC, T23, T28, T25, hfree_lu, hfree_l0, row0, row1, row2, row3, row4, row5, shI_dec, shN_dec, shB_dec, shM_dec, dI, dN, dB, dM, dU, dU_map, iv, bv, u, ms, ctx_T, ctx_C, ctx_P, T4, T3, T26, Option.bind_some, Option.bind_none, Option.map_some, List.length_map, List.length_set, String.reduceBEq, Int.toNat_natCast, Bool.true_beq, Bool.false_beq, T24, shF_dec, dF, fr_eta, Int.cast_ofNat_Int, Int.reduceSub, Int.reduceAdd, Int.reduceNeg, ev1, ev2, implies_true, undef, stepP, dynCall, ↓condE_t, ↓condE_f, ↓guardE_tt, ↓guardE_ff, ↓guardE_tf, ↓guardE_ft, frzDeep, deepArgs, deepArg, resB, cv, stepB, stepE, callD, tabD, snapD, snap1, snapC, snapId, snapIds, guardB, guardC, dstAt, aopR, one, pre, binR, intOpR, shiftOpR, unR, argFrm, evo, lkp, hlk, lenOf, asLst, idOf, bndA, srcOk, ofVal, ofCells, setCells, fillA, setElems, fieldsOf, fieldsEq, scalEq, isEq, AV.wr, AV.ok1, TK.agg, frz, frzs, frzA, frzArg, frzArgs, subA, subL, sub1, kp, kh, accOf, List.replicate, Nat.reduceAdd, Nat.reduceSub, Nat.reduceMul, Nat.reduceEqDiff, Nat.reduceLT, Nat.reduceLeDiff, Nat.reduceBEq, reduceIte, reduceCtorEq, eq_self, ne_eq, Int.reduceToNat, Int.reduceLT, Int.reduceLE, Int.reduceGT, Int.reduceGE, Int.reduceBEq, Int.reduceBNe, Int.reduceEq, Int.reduceNe]
                      intro lz
                      repeat' apply And.intro
                      any_goals (show entryOk _ _ _ _ _ = true; (repeat (first | exact entryOk_nil _ _ _ _ | (refine entryOk_step ?h ?_; case h => (first | (apply Or.inr; constructor <;> simp [meets] <;> omega; done) | (apply Or.inl; show anc _ _ _ _ = true; kernel_rfl))))))
                      refine ⟨(k + 1, nx2 + 68), by dsimp only; omega, ⟨by dsimp only; omega, by dsimp only; omega⟩, rfl, ?_⟩
                      dsimp only
                      rw [hs4]
                      dsimp only
                      rw [len_snocF]
                      refine ⟨rfl, ?_⟩
                      simp only [b0, b1, b2, b3, b4, b5, b6, b7, b8, b9, d0, d1, d2, d3, d4, d5, d6, d7, d8, d9, n0, n1, n2, n3, n4, n5, k0, k1, k2, k3, k4, k5, k6, k7, k8, nb_self, nb_same, nb_l0, nb_r0, nb_lt, nb_gt, nb_lt0, nb_gt0, Nat.add_assoc]
                      refine ⟨?_, ?_, ?_, ?_⟩ <;> first | trivial | rfl
                  · have hx' : (x.op == -1) = false := by simpa using hx
                    rw [if_neg hx] at hp
                    obtain ⟨m', g, e2⟩ : ∃ a b, iStep ⟨1, 1, room, 0⟩ m x = (a, b) := ⟨_, _, rfl⟩
                    have g6 := getD_set_f (l := hand) (k := i') (by omega) g
                    have hml' : m'.length ≤ 1000 := by have := len_iStep ⟨1, 1, room, 0⟩ m x; rw [e2] at this; dsimp only at this; omega
                    have hle : left.set i' l = left := by rw [← hlx]; exact set_getD_self (by omega)
                    by_cases hr : g.res = 0
                    · have hr' : (g.res != 0) = false := by simpa using hr
                      have hs4 : S (k + 1) = ⟨m', left, hand.set i' g, over⟩ := by rw [hs3, pRound, hp]; dsimp only; rw [e2, hle]; exact if_pos hr
                      simp only [IA_all, hYT, hYC, hYY, r_yld, hZ, hg, hkw', ww, hk0, hi1, hi2, hi3, g1, g2, g4, g6, hx', e2, hr', b0, b1, b2, b3, b4, b5, b6, b7, b8, b9, d0, d1, d2, d3, d4, d5, d6, d7, d8, d9, n0, n1, n2, n3, n4, n5, k0, k1, k2, k3, k4, k5, k6, k7, k8, len_snocF, hh, hl, hml, hlen, hcap, Int.toNat_natCast, Int.le_refl, Nat.le_refl, zs, fs, sv, fv, rf1, List.set_set, T52, T50, T51, nb_self, nb_same, nb_l0, nb_r0, nb_lt, nb_gt, nb_lt0, nb_gt0, Nat.add_assoc, top_T, top_C, top_P, inR_T, inR_C, inR_P, iter_T, iter_C, iter_P, iter_Y, r_rangeF, r_yld, r_start, r_rkN, r_rkR, r_rkE, r_endR, r_endM, r_endJ0, r_endJ2, r_endJ3, r_endJ5, r_endJ7, zipF, hfree_fr, hfree_cf, cv', cf_eta, frz_u, shC_dec, dC, T23, T28, T25, hfree_lu, hfree_l0, row0, row1, row2, row3, row4, row5, shI_dec, shN_dec, shB_dec, shM_dec, dI, dN, dB, dM, dU, dU_map, iv, bv, u, ms, ctx_T, ctx_C, ctx_P, T4, T3, T26, Option.bind_some, Option.bind_none, Option.map_some, List.length_map, List.length_set, String.reduceBEq, Int.toNat_natCast, Bool.true_beq, Bool.false_beq, T24, shF_dec, dF, fr_eta, Int.cast_ofNat_Int, Int.reduceSub, Int.reduceAdd, Int.reduceNeg, ev1, ev2, implies_true, undef, stepP, dynCall, ↓condE_t, ↓condE_f, ↓guardE_tt, ↓guardE_ff, ↓guardE_tf, ↓guardE_ft, frzDeep, deepArgs, deepArg, resB, cv, stepB, stepE, callD, tabD, snapD, snap1, snapC, snapId, snapIds, guardB, guardC, dstAt, aopR, one, pre, binR, intOpR, shiftOpR, unR, argFrm, evo, lkp, hlk, lenOf, asLst, idOf, bndA, srcOk, ofVal, ofCells, setCells, fillA, setElems, fieldsOf, fieldsEq, scalEq, isEq, AV.wr, AV.ok1, TK.agg, frz, frzs, frzA, frzArg, frzArgs, subA, subL, sub1, kp, kh, accOf, List.replicate, Nat.reduceAdd, Nat.reduceSub, Nat.reduceMul, Nat.reduceEqDiff, Nat.reduceLT, Nat.reduceLeDiff, Nat.reduceBEq, reduceIte, reduceCtorEq, eq_self, ne_eq, Int.reduceToNat, Int.reduceLT, Int.reduceLE, Int.reduceGT, Int.reduceGE, Int.reduceBEq, Int.reduceBNe, Int.reduceEq, Int.reduceNe]
                      intro lz
                      repeat' apply And.intro
                      any_goals (show entryOk _ _ _ _ _ = true; (repeat (first | exact entryOk_nil _ _ _ _ | (refine entryOk_step ?h ?_; case h => (first | (apply Or.inr; constructor <;> simp [meets] <;> omega; done) | (apply Or.inl; show anc _ _ _ _ = true; kernel_rfl))))))
                      refine ⟨(k + 1, id), by dsimp only; omega, ⟨by dsimp only; omega, hj⟩, rfl, ?_⟩
                      dsimp only
                      rw [hs4]
                      dsimp only
                      refine ⟨rfl, ?_⟩
                      simp only [b0, b1, b2, b3, b4, b5, b6, b7, b8, b9, d0, d1, d2, d3, d4, d5, d6, d7, d8, d9, n0, n1, n2, n3, n4, n5, k0, k1, k2, k3, k4, k5, k6, k7, k8, nb_self, nb_same, nb_l0, nb_r0, nb_lt, nb_gt, nb_lt0, nb_gt0, Nat.add_assoc]
                      refine ⟨?_, ?_, ?_, ?_⟩ <;> first | trivial | rfl
                    · have hr' : (g.res != 0) = true := by simpa using hr
                      have hs4 : S (k + 1) = ⟨m', left, hand.set i' noneF, over ++ [g]⟩ := by rw [hs3, pRound, hp]; dsimp only; rw [e2, hle]; exact if_neg hr
                      simp only [IA_all, hYT, hYC, hYY, r_yld, hZ, hg, hkw', ww, hk0, hi1, hi2, hi3, g1, g2, g4, g6, hx', e2, hr', b0, b1, b2, b3, b4, b5, b6, b7, b8, b9, d0, d1, d2, d3, d4, d5, d6, d7, d8, d9, n0, n1, n2, n3, n4, n5, k0, k1, k2, k3, k4, k5, k6, k7, k8, len_snocF, hh, hl, hml, hlen, hcap, Int.toNat_natCast, Int.le_refl, Nat.le_refl, zs, fs, sv, fv, rf1, List.set_set, T52, T50, T51, nb_self, nb_same, nb_l0, nb_r0, nb_lt, nb_gt, nb_lt0, nb_gt0, Nat.add_assoc, top_T, top_C, top_P, inR_T, inR_C, inR_P, iter_T, iter_C, iter_P, iter_Y, r_rangeF, r_yld, r_start, r_rkN, r_rkR, r_rkE, r_endR, r_endM, r_endJ0, r_endJ2, r_endJ3, r_endJ5, r_endJ7, zipF, hfree_fr, hfree_cf, cv', cf_eta, frz_u, shC_dec, dC, T23, T28, T25, hfree_lu, hfree_l0, row0, row1, row2, row3, row4, row5, shI_dec, shN_dec, shB_dec, shM_dec, dI, dN, dB, dM, dU, dU_map, iv, bv, u, ms, ctx_T, ctx_C, ctx_P, T4, T3, T26, Option.bind_some, Option.bind_none, Option.map_some, List.length_map, List.length_set, String.reduceBEq, Int.toNat_natCast, Bool.true_beq, Bool.false_beq, T24, shF_dec, dF, fr_eta, Int.cast_ofNat_Int, Int.reduceSub, Int.reduceAdd, Int.reduceNeg, ev1, ev2, implies_true, undef, stepP, dynCall, ↓condE_t, ↓condE_f, ↓guardE_tt, ↓guardE_ff, ↓guardE_tf, ↓guardE_ft, frzDeep, deepArgs, deepArg, resB, cv, stepB, stepE, callD, tabD, snapD, snap1, snapC, snapId, snapIds, guardB, guardC, dstAt, aopR, one, pre, binR, intOpR, shiftOpR, unR, argFrm, evo, lkp, hlk, lenOf, asLst, idOf, bndA, srcOk, ofVal, ofCells, setCells, fillA, setElems, fieldsOf, fieldsEq, scalEq, isEq, AV.wr, AV.ok1, TK.agg, frz, frzs, frzA, frzArg, frzArgs, subA, subL, sub1, kp, kh, accOf, List.replicate, Nat.reduceAdd, Nat.reduceSub, Nat.reduceMul, Nat.reduceEqDiff, Nat.reduceLT, Nat.reduceLeDiff, Nat.reduceBEq, reduceIte, reduceCtorEq, eq_self, ne_eq, Int.reduceToNat, Int.reduceLT, Int.reduceLE, Int.reduceGT, Int.reduceGE, Int.reduceBEq, Int.reduceBNe, Int.reduceEq, Int.reduceNe]
                      intro lz
                      repeat' apply And.intro
                      any_goals (show entryOk _ _ _ _ _ = true; (repeat (first | exact entryOk_nil _ _ _ _ | (refine entryOk_step ?h ?_; case h => (first | (apply Or.inr; constructor <;> simp [meets] <;> omega; done) | (apply Or.inl; show anc _ _ _ _ = true; kernel_rfl))))))
                      refine ⟨(k + 1, nx2 + 51), by dsimp only; omega, ⟨by dsimp only; omega, by dsimp only; omega⟩, rfl, ?_⟩
                      dsimp only
                      rw [hs4]
                      dsimp only
                      rw [len_snocF]
                      refine ⟨rfl, ?_⟩
                      simp only [b0, b1, b2, b3, b4, b5, b6, b7, b8, b9, d0, d1, d2, d3, d4, d5, d6, d7, d8, d9, n0, n1, n2, n3, n4, n5, k0, k1, k2, k3, k4, k5, k6, k7, k8, nb_self, nb_same, nb_l0, nb_r0, nb_lt, nb_gt, nb_lt0, nb_gt0, Nat.add_assoc]
                      refine ⟨?_, ?_, ?_, ?_⟩ <;> first | trivial | rfl
                · have hs4 : S (k + 1) = ⟨m, left, hand, over⟩ := by rw [hs2, pTurn, if_neg (by omega)]
                  by_cases h1 : 0 ≤ i
                  · have h2 : ¬ i < Z := fun h => h0 ⟨h1, h⟩
                    simp only [IA_all, hYT, hYC, hYY, r_yld, hZ, hg, hkw', ww, hk0, h1, h2, b0, b1, b2, b3, b4, b5, b6, b7, b8, b9, d0, d1, d2, d3, d4, d5, d6, d7, d8, d9, n0, n1, n2, n3, n4, n5, k0, k1, k2, k3, k4, k5, k6, k7, k8, len_snocF, hh, hl, hml, hlen, hcap, Int.toNat_natCast, Int.le_refl, Nat.le_refl, zs, fs, sv, fv, rf1, List.set_set, T52, T50, T51, nb_self, nb_same, nb_l0, nb_r0, nb_lt, nb_gt, nb_lt0, nb_gt0, Nat.add_assoc, top_T, top_C, top_P, inR_T, inR_C, inR_P, iter_T, iter_C, iter_P, iter_Y, r_rangeF, r_yld, r_start, r_rkN, r_rkR, r_rkE, r_endR, r_endM, r_endJ0, r_endJ2, r_endJ3, r_endJ5, r_endJ7, zipF, hfree_fr, hfree_cf, cv', cf_eta, frz_u, shC_dec, dC, T23, T28, T25, hfree_lu, hfree_l0, row0, row1, row2, row3, row4, row5, shI_dec, shN_dec, shB_dec, shM_dec, dI, dN, dB, dM, dU, dU_map, iv, bv, u, ms, ctx_T, ctx_C, ctx_P, T4, T3, T26, Option.bind_some, Option.bind_none, Option.map_some, List.length_map, List.length_set, String.reduceBEq, Int.toNat_natCast, Bool.true_beq, Bool.false_beq, T24, shF_dec, dF, fr_eta, Int.cast_ofNat_Int, Int.reduceSub, Int.reduceAdd, Int.reduceNeg, ev1, ev2, implies_true, undef, stepP, dynCall, ↓condE_t, ↓condE_f, ↓guardE_tt, ↓guardE_ff, ↓guardE_tf, ↓guardE_ft, frzDeep, deepArgs, deepArg, resB, cv, stepB, stepE, callD, tabD, snapD, snap1, snapC, snapId, snapIds, guardB, guardC, dstAt, aopR, one, pre, binR, intOpR, shiftOpR, unR, argFrm, evo, lkp, hlk, lenOf, asLst, idOf, bndA, srcOk, ofVal, ofCells, setCells, fillA, setElems, fieldsOf, fieldsEq, scalEq, isEq, AV.wr, AV.ok1, TK.agg, frz, frzs, frzA, frzArg, frzArgs, subA, subL, sub1, kp, kh, accOf, List.replicate, Nat.reduceAdd, Nat.reduceSub, Nat.reduceMul, Nat.reduceEqDiff, Nat.reduceLT, Nat.reduceLeDiff, Nat.reduceBEq, reduceIte, reduceCtorEq, eq_self, ne_eq, Int.reduceToNat, Int.reduceLT, Int.reduceLE, Int.reduceGT, Int.reduceGE, Int.reduceBEq, Int.reduceBNe, Int.reduceEq, Int.reduceNe]
                    repeat' apply And.intro
                    try any_goals (show entryOk _ _ _ _ _ = true; (repeat (first | exact entryOk_nil _ _ _ _ | (refine entryOk_step ?h ?_; case h => (first | (apply Or.inr; constructor <;> simp [meets] <;> omega; done) | (apply Or.inl; show anc _ _ _ _ = true; kernel_rfl))))))
                    refine ⟨(k + 1, id), by dsimp only; omega, ⟨by dsimp only; omega, hj⟩, rfl, ?_⟩
                    dsimp only
                    rw [hs4]
                    dsimp only
                    refine ⟨rfl, ?_⟩
                    simp only [b0, b1, b2, b3, b4, b5, b6, b7, b8, b9, d0, d1, d2, d3, d4, d5, d6, d7, d8, d9, n0, n1, n2, n3, n4, n5, k0, k1, k2, k3, k4, k5, k6, k7, k8, nb_self, nb_same, nb_l0, nb_r0, nb_lt, nb_gt, nb_lt0, nb_gt0, Nat.add_assoc]
                    refine ⟨?_, ?_, ?_, ?_⟩ <;> first | trivial | rfl
                  · simp only [IA_all, hYT, hYC, hYY, r_yld, hZ, hg, hkw', ww, hk0, h1, b0, b1, b2, b3, b4, b5, b6, b7, b8, b9, d0, d1, d2, d3, d4, d5, d6, d7, d8, d9, n0, n1, n2, n3, n4, n5, k0, k1, k2, k3, k4, k5, k6, k7, k8, len_snocF, hh, hl, hml, hlen, hcap, Int.toNat_natCast, Int.le_refl, Nat.le_refl, zs, fs, sv, fv, rf1, List.set_set, T52, T50, T51, nb_self, nb_same, nb_l0, nb_r0, nb_lt, nb_gt, nb_lt0, nb_gt0, Nat.add_assoc, top_T, top_C, top_P, inR_T, inR_C, inR_P, iter_T, iter_C, iter_P, iter_Y, r_rangeF, r_yld, r_start, r_rkN, r_rkR, r_rkE, r_endR, r_endM, r_endJ0, r_endJ2, r_endJ3, r_endJ5, r_endJ7, zipF, hfree_fr, hfree_cf, cv', cf_eta, frz_u, shC_dec, dC, T23, T28, T25, hfree_lu, hfree_l0, row0, row1, row2, row3, row4, row5, shI_dec, shN_dec, shB_dec, shM_dec, dI, dN, dB, dM, dU, dU_map, iv, bv, u, ms, ctx_T, ctx_C, ctx_P, T4, T3, T26, Option.bind_some, Option.bind_none, Option.map_some, List.length_map, List.length_set, String.reduceBEq, Int.toNat_natCast, Bool.true_beq, Bool.false_beq, T24, shF_dec, dF, fr_eta, Int.cast_ofNat_Int, Int.reduceSub, Int.reduceAdd, Int.reduceNeg, ev1, ev2, implies_true, undef, stepP, dynCall, ↓condE_t, ↓condE_f, ↓guardE_tt, ↓guardE_ff, ↓guardE_tf, ↓guardE_ft, frzDeep, deepArgs, deepArg, resB, cv, stepB, stepE, callD, tabD, snapD, snap1, snapC, snapId, snapIds, guardB, guardC, dstAt, aopR, one, pre, binR, intOpR, shiftOpR, unR, argFrm, evo, lkp, hlk, lenOf, asLst, idOf, bndA, srcOk, ofVal, ofCells, setCells, fillA, setElems, fieldsOf, fieldsEq, scalEq, isEq, AV.wr, AV.ok1, TK.agg, frz, frzs, frzA, frzArg, frzArgs, subA, subL, sub1, kp, kh, accOf, List.replicate, Nat.reduceAdd, Nat.reduceSub, Nat.reduceMul, Nat.reduceEqDiff, Nat.reduceLT, Nat.reduceLeDiff, Nat.reduceBEq, reduceIte, reduceCtorEq, eq_self, ne_eq, Int.reduceToNat, Int.reduceLT, Int.reduceLE, Int.reduceGT, Int.reduceGE, Int.reduceBEq, Int.reduceBNe, Int.reduceEq, Int.reduceNe]
                    repeat' apply And.intro
                    try any_goals (show entryOk _ _ _ _ _ = true; (repeat (first | exact entryOk_nil _ _ _ _ | (refine entryOk_step ?h ?_; case h => (first | (apply Or.inr; constructor <;> simp [meets] <;> omega; done) | (apply Or.inl; show anc _ _ _ _ = true; kernel_rfl))))))
                    refine ⟨(k + 1, id), by dsimp only; omega, ⟨by dsimp only; omega, hj⟩, rfl, ?_⟩
                    dsimp only
                    rw [hs4]
                    dsimp only
                    refine ⟨rfl, ?_⟩
                    simp only [b0, b1, b2, b3, b4, b5, b6, b7, b8, b9, d0, d1, d2, d3, d4, d5, d6, d7, d8, d9, n0, n1, n2, n3, n4, n5, k0, k1, k2, k3, k4, k5, k6, k7, k8, nb_self, nb_same, nb_l0, nb_r0, nb_lt, nb_gt, nb_lt0, nb_gt0, Nat.add_assoc]
                    refine ⟨?_, ?_, ?_, ?_⟩ <;> first | trivial | rfl
              · have hkw' : ¬ (k : Int) < who.length := by omega
                have hkk : k = who.length := by omega
                simp only [IA_all, hYT, hYC, hYY, r_yld, hZ, hkw', b0, b1, b2, b3, b4, b5, b6, b7, b8, b9, d0, d1, d2, d3, d4, d5, d6, d7, d8, d9, n0, n1, n2, n3, n4, n5, k0, k1, k2, k3, k4, k5, k6, k7, k8, len_snocF, hh, hl, hml, hlen, hcap, Int.toNat_natCast, Int.le_refl, Nat.le_refl, zs, fs, sv, fv, rf1, List.set_set, T52, T50, T51, nb_self, nb_same, nb_l0, nb_r0, nb_lt, nb_gt, nb_lt0, nb_gt0, Nat.add_assoc, top_T, top_C, top_P, inR_T, inR_C, inR_P, iter_T, iter_C, iter_P, iter_Y, r_rangeF, r_yld, r_start, r_rkN, r_rkR, r_rkE, r_endR, r_endM, r_endJ0, r_endJ2, r_endJ3, r_endJ5, r_endJ7, zipF, hfree_fr, hfree_cf, cv', cf_eta, frz_u, shC_dec, dC, T23, T28, T25, hfree_lu, hfree_l0, row0, row1, row2, row3, row4, row5, shI_dec, shN_dec, shB_dec, shM_dec, dI, dN, dB, dM, dU, dU_map, iv, bv, u, ms, ctx_T, ctx_C, ctx_P, T4, T3, T26, Option.bind_some, Option.bind_none, Option.map_some, List.length_map, List.length_set, String.reduceBEq, Int.toNat_natCast, Bool.true_beq, Bool.false_beq, T24, shF_dec, dF, fr_eta, Int.cast_ofNat_Int, Int.reduceSub, Int.reduceAdd, Int.reduceNeg, ev1, ev2, implies_true, undef, stepP, dynCall, ↓condE_t, ↓condE_f, ↓guardE_tt, ↓guardE_ff, ↓guardE_tf, ↓guardE_ft, frzDeep, deepArgs, deepArg, resB, cv, stepB, stepE, callD, tabD, snapD, snap1, snapC, snapId, snapIds, guardB, guardC, dstAt, aopR, one, pre, binR, intOpR, shiftOpR, unR, argFrm, evo, lkp, hlk, lenOf, asLst, idOf, bndA, srcOk, ofVal, ofCells, setCells, fillA, setElems, fieldsOf, fieldsEq, scalEq, isEq, AV.wr, AV.ok1, TK.agg, frz, frzs, frzA, frzArg, frzArgs, subA, subL, sub1, kp, kh, accOf, List.replicate, Nat.reduceAdd, Nat.reduceSub, Nat.reduceMul, Nat.reduceEqDiff, Nat.reduceLT, Nat.reduceLeDiff, Nat.reduceBEq, reduceIte, reduceCtorEq, eq_self, ne_eq, Int.reduceToNat, Int.reduceLT, Int.reduceLE, Int.reduceGT, Int.reduceGE, Int.reduceBEq, Int.reduceBNe, Int.reduceEq, Int.reduceNe]
                have hth : List.take (N + 1) (hand.map fv) = hand.map fv := by rw [← hh]; exact take_f hand
                have hP : iPlay room calls who = (m, over, hand) := by
                  rw [iPlay, gPlay, if_pos ⟨hm, h8⟩, show injC room = ⟨1, 1, room, 0⟩ from rfl, ← hla, ← hkk, hSk]
                rw [hP, hth]
                exact ⟨of_eq_true (hf_f _), of_eq_true (hf_f _), rfl, rfl, rfl⟩
            · dsimp only [kp]
              exact ⟨rfl, rfl, rfl, rfl, rfl, trivial⟩
            · rw [hS.zero]
              have n6 : 39 < nx := by omega
              simp only [kh, hlk, n1, n2, n3, n4, n5, n6, pStart, hN, hA, hB, List.map_nil, List.length_nil, nb_self, nb_same, nb_l0, nb_r0, nb_lt, nb_gt, nb_lt0, nb_gt0, Nat.add_assoc, Nat.reduceBEq]
              repeat' apply And.intro
              all_goals first | trivial | rfl
        · dsimp only [kp]
          exact ⟨rfl, rfl, rfl, rfl, rfl, trivial⟩
        · have hr : (repA (N + 1) 1).map fv = fv noneF :: List.replicate N (fv fr0) := by simp [repA]
          dsimp only [kh]
          rw [hr]
          exact ⟨rfl, rfl, rfl, rfl, rfl, trivial⟩
    · have h8' : (calls.length : Int) > 8 := by omega
      have hP : iPlay room calls who = ([], [], []) := by rw [iPlay, gPlay, if_neg (fun h => h8 h.2)]
      have e : injC room = ⟨1, 1, room, 0⟩ := rfl
      rw [e] at hm
      rw [hP]
      simp only [Try.f37, Try.func78, Try.f78, inl, IA_all, hm, h8', fss, zs, fs, sv, fv, List.map_nil, rf1, List.set_set, T52, T50, T51, top_T, top_C, top_P, inR_T, inR_C, inR_P, iter_T, iter_C, iter_P, iter_Y, r_rangeF, r_yld, r_start, r_rkN, r_rkR, r_rkE, r_endR, r_endM, r_endJ0, r_endJ2, r_endJ3, r_endJ5, r_endJ7, zipF, hfree_fr, hfree_cf, cv', cf_eta, frz_u, shC_dec, dC, T23, T28, T25, hfree_lu, hfree_l0, row0, row1, row2, row3, row4, row5, shI_dec, shN_dec, shB_dec, shM_dec, dI, dN, dB, dM, dU, dU_map, iv, bv, u, ms, ctx_T, ctx_C, ctx_P, T4, T3, T26, Option.bind_some, Option.bind_none, Option.map_some, List.length_map, List.length_set, String.reduceBEq, Int.toNat_natCast, Bool.true_beq, Bool.false_beq, T24, shF_dec, dF, fr_eta, Int.cast_ofNat_Int, Int.reduceSub, Int.reduceAdd, Int.reduceNeg, ev1, ev2, implies_true, undef, stepP, dynCall, ↓condE_t, ↓condE_f, ↓guardE_tt, ↓guardE_ff, ↓guardE_tf, ↓guardE_ft, frzDeep, deepArgs, deepArg, resB, cv, stepB, stepE, callD, tabD, snapD, snap1, snapC, snapId, snapIds, guardB, guardC, dstAt, aopR, one, pre, binR, intOpR, shiftOpR, unR, argFrm, evo, lkp, hlk, lenOf, asLst, idOf, bndA, srcOk, ofVal, ofCells, setCells, fillA, setElems, fieldsOf, fieldsEq, scalEq, isEq, AV.wr, AV.ok1, TK.agg, frz, frzs, frzA, frzArg, frzArgs, subA, subL, sub1, kp, kh, accOf, List.replicate, Nat.reduceAdd, Nat.reduceSub, Nat.reduceMul, Nat.reduceEqDiff, Nat.reduceLT, Nat.reduceLeDiff, Nat.reduceBEq, reduceIte, reduceCtorEq, eq_self, ne_eq, Int.reduceToNat, Int.reduceLT, Int.reduceLE, Int.reduceGT, Int.reduceGE, Int.reduceBEq, Int.reduceBNe, Int.reduceEq, Int.reduceNe]
      all_goals ((repeat' apply And.intro) <;> first | rfl | omega | (show entryOk _ _ _ _ _ = true; kernel_rfl) | (show pivotOk _ _ = true; kernel_rfl) | decide)
  · have hP : iPlay room calls who = ([], [], []) := by rw [iPlay, gPlay, if_neg (fun h => hm h.1)]
    have e : injC room = ⟨1, 1, room, 0⟩ := rfl
    rw [e] at hm
    rw [hP]
    have hm' : mayC ⟨1, 1, room, 0⟩ = false := by simpa using hm
    simp only [Try.f37, Try.func78, Try.f78, inl, IA_all, hm', fss, zs, fs, sv, fv, List.map_nil, rf1, List.set_set, T52, T50, T51, top_T, top_C, top_P, inR_T, inR_C, inR_P, iter_T, iter_C, iter_P, iter_Y, r_rangeF, r_yld, r_start, r_rkN, r_rkR, r_rkE, r_endR, r_endM, r_endJ0, r_endJ2, r_endJ3, r_endJ5, r_endJ7, zipF, hfree_fr, hfree_cf, cv', cf_eta, frz_u, shC_dec, dC, T23, T28, T25, hfree_lu, hfree_l0, row0, row1, row2, row3, row4, row5, shI_dec, shN_dec, shB_dec, shM_dec, dI, dN, dB, dM, dU, dU_map, iv, bv, u, ms, ctx_T, ctx_C, ctx_P, T4, T3, T26, Option.bind_some, Option.bind_none, Option.map_some, List.length_map, List.length_set, String.reduceBEq, Int.toNat_natCast, Bool.true_beq, Bool.false_beq, T24, shF_dec, dF, fr_eta, Int.cast_ofNat_Int, Int.reduceSub, Int.reduceAdd, Int.reduceNeg, ev1, ev2, implies_true, undef, stepP, dynCall, ↓condE_t, ↓condE_f, ↓guardE_tt, ↓guardE_ff, ↓guardE_tf, ↓guardE_ft, frzDeep, deepArgs, deepArg, resB, cv, stepB, stepE, callD, tabD, snapD, snap1, snapC, snapId, snapIds, guardB, guardC, dstAt, aopR, one, pre, binR, intOpR, shiftOpR, unR, argFrm, evo, lkp, hlk, lenOf, asLst, idOf, bndA, srcOk, ofVal, ofCells, setCells, fillA, setElems, fieldsOf, fieldsEq, scalEq, isEq, AV.wr, AV.ok1, TK.agg, frz, frzs, frzA, frzArg, frzArgs, subA, subL, sub1, kp, kh, accOf, List.replicate, Nat.reduceAdd, Nat.reduceSub, Nat.reduceMul, Nat.reduceEqDiff, Nat.reduceLT, Nat.reduceLeDiff, Nat.reduceBEq, reduceIte, reduceCtorEq, eq_self, ne_eq, Int.reduceToNat, Int.reduceLT, Int.reduceLE, Int.reduceGT, Int.reduceGE, Int.reduceBEq, Int.reduceBNe, Int.reduceEq, Int.reduceNe]
    all_goals ((repeat' apply And.intro) <;> first | rfl | omega | (show entryOk _ _ _ _ _ = true; kernel_rfl) | (show pivotOk _ _ = true; kernel_rfl) | decide)
end Go.Vai
