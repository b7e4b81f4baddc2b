/- The evaluator, the plain texts and the contracts that this claim leans on, part 3: nothing of the statement is claimed here. -/
import Derived.Test.YtfbpdlondinjaaaGreatKB
set_option linter.unusedVariables false
set_option linter.unusedSimpArgs false
/- A list of the call's own is written no more. -/
namespace Go.Vai
open Go.RowKit
section
variable {X : Ctx}
def ownR (hp : Hp) (ty : TypeId) (sz : Nat) (el : List AV) : AV → Prop
 | .arr id off len => match hlk hp id with
  | some b => b.ro = false ∧ b.ty = ty ∧ b.sz = sz ∧ off = 0 ∧ len = el.length ∧ len ≤ b.el.length ∧ b.el.take len = el
  | none => False
 | _ => False

theorem own_sub (hX : X.ok) (n : Nat) {g : FuncId} {fn : Func} {body : Code} (hfn : X.P.funcs[g]? = some fn) (hb : fn.body = some body) {args : List AV} {ty : TypeId} {sz : Nat} {el : List AV} (hl : args.length ≤ fn.ntmps) (he : el ≠ []) (hf : ∀ x ∈ el, ∀ c ∈ x.cells, HFree c)
    (h : codeA X (callN X n) body (bodyQ X.T fn fun r0 hp _ => ownR hp ty sz el r0) ⟨fn.ntmps, argFrm args 0, [], 0⟩) : OwnC X.P g args ty sz el := by
  intro w K vs hK ha
  refine (body_calls hX.core hX.rd (callN_sound hX.core hX.rd hX.inv n) hfn hb hl h (hX.inv _ _) (rel_start hK) ha).mono ?_
  rintro e w' ⟨v, r0, hp', nx', E', rfl, h1, h2, h3, h4⟩
  have hlen : 0 < el.length := List.length_pos_iff.2 he
  cases r0 with
  | arr id off len =>
    simp only [ownR] at h1
    split at h1
    · rename_i b hbl
      obtain ⟨h5, rfl, rfl, rfl, rfl, h6, h7⟩ := h1
      obtain ⟨hd, hsz, hpos, hmax, hown⟩ := h4.own id b hbl
      generalize hL : el.length = L at *
      cases h3 with
      | arr0 => omega
      | arr _ _ _ g' o c hd' hg ho hc hl' =>
        rcases hown with ⟨k1, _⟩ | ⟨g2, cur, k1, k2, k3, k4, k5, k6, k7, k8⟩
        · rw [k1] at hg; cases hg
        rw [k1] at hg; cases hg
        have ho' : o = 0 := by
          rcases ho with e | e
          · omega
          · simpa using e
        subst ho'
        refine ⟨g', cur, c, E'.cap id, rfl, h4.below, k2, k3, k4, by omega, by omega, hmax, hpos, ?_⟩
        intro i x hx
        have hx' : b.el[i]? = some x := by
          rw [← h7, List.getElem?_take] at hx
          split at hx
          · exact hx
          · cases hx
        refine ⟨(k8 i x hx').1, fun j y hy => ?_⟩
        obtain ⟨z, z1, z2, z3⟩ := (k8 i x hx').2 j y hy
        refine ⟨z, z1, z2, (hf x (List.mem_of_getElem? hx) y (List.mem_of_getElem? hy) E' z z3).monoc (Env.bare_le { Env.bare (fun b => if b = g' then none else grow w K w' b) with mrk := false } fun q o hq => ?_)⟩
        show (if q = g' then none else grow w K w' q) = some o
        rw [if_neg (fun e => by rw [e, k6 h5] at hq; cases hq)]
        simp only [grow]
        split
        · rename_i hlt; exact h4.k0 q o hq hlt
        · exact h4.kw q o hq
    · exact h1.elim
  | _ => exact h1.elim

variable {T : TEnv} {ρ : Operand → AV} {H : Nat → Option Blk} {me : Nat}
def updM (T : TEnv) (k : TK) (m key x : AV) (H : Nat → Option Blk) : Outc :=
 match k, m, key with
 | .map kt _, .mp id, .v (.int ki n) => match H id with
  | some b => some ((T kt).k = .int ki ∧ findM ki n b.el = some none, .top, [(id, some { b with el := b.el ++ [.tup [.v (.int ki n), x]] })], [id])
  | none => none
 | _, _, _ => none
def hitM (T : TEnv) (kt e : TypeId) (ki : IntKind) (ok : Bool) (acc : List Nat) : Option (Option AV) → Outc
 | some (some x) => some ((T kt).k = .int ki, if ok then .tup [x, .v (.bool true)] else x, [], acc)
 | some none => some ((T kt).k = .int ki ∧ (T e).k ≠ .none, if ok then .tup [ofVal (T e).zero, .v (.bool false)] else ofVal (T e).zero, [], acc)
 | none => none
def lookM (T : TEnv) (k : TK) (m key : AV) (ok : Bool) (H : Nat → Option Blk) : Outc :=
 match k, m, key with
 | .map kt e, .mp id, .v (.int ki n) => match H id with
  | some b => hitM T kt e ki ok [id] (findM ki n b.el)
  | none => none
 | .map kt e, .fm el, .v (.int ki n) => hitM T kt e ki ok [] (findM ki n el)
 | _, _, _ => none
theorem am_look {t : TypeId} {m k : Operand} {ok : Bool} : aopR T (.lookup t m k ok) ρ H me = lookM T (T t).k (ρ m) (ρ k) ok H := by
  show mapO T (.lookup t m k ok) ρ H me = _
  unfold mapO lookM
  dsimp only
  generalize (T t).k = tk
  generalize ρ m = a
  generalize ρ k = b
  cases tk with
  | map kt e =>
    cases a with
    | mp id =>
      cases b with
      | v x =>
        cases x with
        | int ki n =>
          dsimp only
          cases H id with
          | none => rfl
          | some b =>
            dsimp only
            cases findM ki n b.el with
            | none => rfl
            | some q => cases q <;> rfl
        | _ => rfl
      | _ => rfl
    | fm el =>
      cases b with
      | v x =>
        cases x with
        | int ki n =>
          dsimp only
          cases findM ki n el with
          | none => rfl
          | some q => cases q <;> rfl
        | _ => rfl
      | _ => rfl
    | _ => rfl
  | _ => rfl
def maxM (x y : AV) : Outc :=
 match x, y with
 | .v (.int k a), .v (.int _ b) => some (True, .v (.int k (if b > a then b else a)), [], [])
 | _, _ => none
def minM (x y : AV) : Outc :=
 match x, y with
 | .v (.int k a), .v (.int _ b) => some (True, .v (.int k (if b < a then b else a)), [], [])
 | _, _ => none
theorem mo_make {t : TypeId} : mapO T (.makeMap t none) ρ H me = some (True, .mp me, [(me, some ⟨false, 0, 1, []⟩)], []) := rfl
theorem mo_ins {t : TypeId} {m k x : Operand} : mapO T (.insert t m k x) ρ H me = updM T (T t).k (ρ m) (ρ k) (ρ x) H := rfl
theorem mo_look {t : TypeId} {m k : Operand} {ok : Bool} : mapO T (.lookup t m k ok) ρ H me = lookM T (T t).k (ρ m) (ρ k) ok H := am_look (me := me)
theorem mo_max {x y : Operand} {ts : Array TypeId} : mapO T (.call { callee := .builtin .max, args := #[x, y], argTypes := ts }) ρ H me = maxM (ρ x) (ρ y) := rfl
theorem mo_min {x y : Operand} {ts : Array TypeId} : mapO T (.call { callee := .builtin .min, args := #[x, y], argTypes := ts }) ρ H me = minM (ρ x) (ρ y) := rfl
theorem find_nil {k : IntKind} {n : Int} : findM k n [] = some none := rfl
def findS (b : Bool) (x : AV) (r : Option (Option AV)) : Option (Option AV) := match b with | true => some (some x) | false => r
theorem find_cons {k : IntKind} {n a : Int} {x : AV} {r : List AV} : findM k n (.tup [.v (.int k a), x] :: r) = findS (n == a) x (findM k n r) := by
 simp only [findM, if_true]
 by_cases e : n = a
 ·subst e; simp [findS]
 ·rw [if_neg e, show (n == a) = false from by simpa using e]; rfl
end
end Go.Vai
