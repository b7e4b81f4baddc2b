/- A region that draws its order: whatever the order, it comes to what the text's order comes to. -/
import Derived.Test.YtinjbaccnclhdaaV14
namespace Go.Vai
open Go.RowKit

def ovr : Upd → (Nat → Option Blk) → Nat → Option Blk
  | [], G, id => G id
  | (d, x) :: r, G, id => if id = d then x else ovr r G id

theorem hlk_append (upd : Upd) (hp : Hp) (id : Nat) : hlk (upd ++ hp) id = ovr upd (hlk hp) id := by
  induction upd with
  | nil => rfl
  | cons p r ih => obtain ⟨d, x⟩ := p; simp only [List.cons_append, hlk_cons, ovr, ih]

theorem ovr_mem {upd : Upd} {id : Nat} (h : id ∈ upd.map (·.1)) (A B : Nat → Option Blk) : ovr upd A id = ovr upd B id := by
  induction upd with
  | nil => simp at h
  | cons p r ih =>
    obtain ⟨d, x⟩ := p
    simp only [ovr]
    by_cases e : id = d
    · rw [if_pos e, if_pos e]
    · rw [if_neg e, if_neg e]
      simp only [List.map_cons, List.mem_cons] at h
      exact ih (h.resolve_left e)

theorem ovr_not {upd : Upd} {id : Nat} (h : id ∉ upd.map (·.1)) (A : Nat → Option Blk) : ovr upd A id = A id := by
  induction upd with
  | nil => rfl
  | cons p r ih =>
    obtain ⟨d, x⟩ := p
    simp only [List.map_cons, List.mem_cons, not_or] at h
    simp only [ovr, if_neg h.1]
    exact ih h.2

def evoF (F : Nat → AV) : Operand → AV
  | .tmp t => F t
  | .const c => .v c
  | .func f => .fn (.func f) [] []
  | .global _ => .top

theorem evoF_lkp (fr : Frm) (x : Operand) : evoF (lkp fr) x = evo fr x := by cases x <;> rfl

/-- What an operation does from wherever its operands, and what it touches, are as told. -/
def Runs (X : Ctx) (o : Oper) (ρ : Operand → AV) (H : Nat → Option Blk) (me : Nat) (r : AV) (upd : Upd) (acc : List Nat) : Prop :=
  ∀ (w0 : World) (K0 : Nat → Option Obj) (D : Nat → Prop) (E : Env) (n : Nat) (fr : Frm) (hp : Hp) (a : Act) (w : World),
    Rel w0 K0 D E n fr hp a w → (∀ x ∈ o.op.operands, evo fr x = ρ x) → (∀ id ∈ acc, hlk hp id = H id) → ¬ E.dom me →
    ∀ (next : Act → World → Prop) (Q : Exit → Act → World → Prop),
      (∀ v w' E', E.le E' → Con E' r v → Rel w0 K0 (fun id => D id ∨ id = me) E' n fr (upd ++ hp) a w' → next (a.put o.dst v) w') → o.wp X.P a w next Q

def GuardIs (all : List Oper) (o : Oper) (F : Nat → AV) (b : Bool) : Prop :=
  match o.guard with
  | none => b = true
  | some (j, want) => match (all[j]?).bind (·.dst) with
    | none => b = false
    | some d => (∃ c, F d = .v (.bool c) ∧ b = (c == want)) ∨ (∃ xs, F d = .v (.tuple xs) ∧ b = false)

/-- One step of the text's order. -/
structure StepIs (X : Ctx) (all : List Oper) (base n i : Nat) (F F' : Nat → AV) (G G' : Nat → Option Blk) (acc wr : List Nat) : Prop where
  mk ::
  h : ∃ (o : Oper) (go : Bool) (r : AV) (upd : Upd), all[i]? = some o ∧ GuardIs all o F go ∧ (∀ d, o.dst = some d → d < n) ∧ (∀ t, F' t = if o.dst = some t then r else F t) ∧ (∀ id, G' id = ovr upd G id) ∧
    wr = upd.map (·.1) ∧ (∀ id ∈ wr, id ∈ acc) ∧ ((go = false ∧ r = .v undef ∧ upd = []) ∨ (go = true ∧ Runs X o (evoF F) G (base + i) r upd acc))

/-- The text's order, step by step. -/
def Traced (X : Ctx) (all : List Oper) (base : Nat) (K : St → Prop) (l : List Oper) (k : Nat) (s : St) (log : Log) : Prop :=
    ∃ (F : Nat → Nat → AV) (G : Nat → Nat → Option Blk) (acc wr : Nat → List Nat) (s' : St), F k = lkp s.fr ∧ G k = hlk s.hp ∧
      (∀ i, k ≤ i → i < k + l.length → StepIs X all base s.n i (F i) (F (i + 1)) (G i) (G (i + 1)) (acc i) (wr i)) ∧
      (∀ i, k ≤ i → i < k + l.length → ∀ e ∈ log, (meets (wr i) e.2.1 = true ∨ meets e.2.2 (acc i) = true) → anc all all.length i e.1 = true) ∧
      (∀ i j, k ≤ j → j < i → i < k + l.length → (meets (wr i) (acc j) = true ∨ meets (wr j) (acc i) = true) → anc all all.length i j = true) ∧
      K s' ∧ F (k + l.length) = lkp s'.fr ∧ G (k + l.length) = hlk s'.hp ∧ s'.n = s.n ∧ s'.nx = s.nx

section
variable {X : Ctx}

theorem runs_aop (hX : X.ok) {o : Oper} {ρ : Operand → AV} {H : Nat → Option Blk} {me : Nat} {Kf : AV → Upd → List Nat → Prop} (h : aop X.T o.op ρ H me Kf) :
    ∃ r upd acc, Kf r upd acc ∧ ∀ acc', (∀ id ∈ acc, id ∈ acc') → Runs X o ρ H me r upd acc' := by
  obtain ⟨r, upd, acc, hk, hs⟩ := aop_sound hX.T h
  refine ⟨r, upd, acc, hk, fun acc' hacc w0 K0 D E n fr hp a w hr hx hH hme next Q hn => ?_⟩
  obtain ⟨nx, v, w', E', h1, h2, h3, h4, h5⟩ := hs o rfl w0 K0 D E n fr hp a w hr hx (fun id hid => hH id (hacc id hid)) hme
  unfold Oper.wp
  rw [h1]
  rcases h2 with rfl | ⟨rfl, rfl⟩
  · exact hn v w' E' h3 h4 h5
  · exact hn undef w' E' h3 h4 h5

theorem runs_tab (hX : X.ok) {o : Oper} {f : Operand} {args : Array Operand} {ts : Array TypeId} (ho : o.op = .call { callee := .value f, args := args, argTypes := ts }) {ρ : Operand → AV} {H : Nat → Option Blk} {me : Nat} {g : FuncId} {first cap : List AV} {r : AV}
    (hf : ρ f = .fn (.func g) first cap) (hC : X.C g (first ++ args.toList.map ρ ++ cap) = some r) : Runs X o ρ H me r [] [] := by
  intro w0 K0 D E n fr hp a w hr hx hH hme next Q hn
  have hops : ∀ x, x = f ∨ x ∈ args → evo fr x = ρ x := by
    intro x hxx
    refine hx x ?_
    rw [ho]
    simp only [Op.operands, Call.operands, Array.mem_append]
    rcases hxx with rfl | h
    · exact .inl (by simp)
    · exact .inr h
  have hfc := hr.ev f
  rw [hops f (.inl rfl), hf] at hfc
  obtain ⟨xs, ys, hv, hac⟩ := args_con (E := E) (fr := fr) (a := a) (args := args) hfc (fun x _ => hr.ev x)
  have hmap : args.toList.map (evo fr) = args.toList.map ρ := List.map_congr_left fun x hxa => hops x (.inr (by simpa using hxa))
  rw [hmap] at hac
  obtain ⟨hen, hcall⟩ := tab_sound hX hC hr hac
  unfold Oper.wp
  rw [run_callValue hen ho hv]
  simp only [Oper.upon_enter]
  refine hcall.mono ?_
  rintro e w' ⟨v, E', rfl, hle, hc, _, hrel⟩
  exact hn v w' E' hle hc (hrel.names fun id hid => .inl (hrel.dom id hid))

theorem snapC_con {E : Env} {x : AV} {v : Value} (h : Con E x v) : Con E (snapC x) v := by
  unfold snapC
  split
  · exact h
  · exact .top v

theorem snapIds_mem {x : AV} {id : Nat} : ∀ {args : List AV}, x ∈ args → id ∈ snapId x → id ∈ snapIds args
  | [], h, _ => by cases h
  | y :: r, h, hid => by
    simp only [snapIds, List.mem_append]
    rcases List.mem_cons.1 h with rfl | h
    · exact .inl hid
    · exact .inr (snapIds_mem h hid)

/-- What a pointer into an own block looks at. -/
theorem snap1_con {w0 : World} {K0 : Nat → Option Obj} {D : Nat → Prop} {E : Env} {n : Nat} {fr : Frm} {hp : Hp} {a : Act} {w : World} (hr : Rel w0 K0 D E n fr hp a w) {H : Nat → Option Blk} {x : AV} {v : Value}
    (hH : ∀ id ∈ snapId x, hlk hp id = H id) (hx : Con E x v) : Con { E with K := fun b => w.heap[b]? } (snap1 H x) v := by
  have hle : E.le { E with K := fun b => w.heap[b]? } := ⟨fun _ d => d, fun _ _ => rfl, fun _ _ => rfl, fun _ _ => rfl, fun b o hk => hr.kw b o hk⟩
  unfold snap1
  split
  · rename_i id i off
    split
    · rename_i b hb
      split
      · rename_i hi
        cases hx with
        | ptr _ _ _ g hd hg =>
          have hown := hr.own id b (by rw [hH id (by simp [snapId])]; exact hb)
          obtain ⟨_, hsz, _, _, ⟨k1, _⟩ | ⟨g', cur, k1, k2, k3, k4, k5, k6, k7, k8⟩⟩ := hown
          · rw [k1] at hg; cases hg
          rw [k1] at hg; cases hg
          have hel : b.el[i]? = some (b.el.getD i .top) := by simp [List.getD_eq_getElem?_getD, hi]
          have cell : ∀ (j : Nat) (c : AV), (((b.el.getD i .top).cells.drop off).map snapC)[j]? = some c → ∃ y, cur[i * b.sz + (off + j)]? = some y ∧ y.oneCell' = true ∧ Con E c y := by
            intro j c hc
            rw [List.getElem?_map, Option.map_eq_some_iff] at hc
            obtain ⟨c0, hc, rfl⟩ := hc
            rw [List.getElem?_drop] at hc
            obtain ⟨y, e1, e2, e3⟩ := (k8 i _ hel).2 (off + j) c0 hc
            exact ⟨y, e1, e2, snapC_con e3⟩
          refine .rptr _ _ (fun j => (cur[i * b.sz + (off + j)]?).getD undef) ?_ ?_ ?_
          · intro j c hc
            obtain ⟨y, e, _, _⟩ := cell j c hc
            rw [add_plain', hsz]
            simp only [kcell, k3, e, Option.getD_some, Option.isSome_none, Bool.false_eq_true, if_false]
            rw [show i * b.sz + off + j = i * b.sz + (off + j) by omega]
            exact e
          · intro j c hc
            obtain ⟨y, e, h', _⟩ := cell j c hc
            simp only [e, Option.getD_some]; exact h'
          · intro j c hc
            obtain ⟨y, e, _, h'⟩ := cell j c hc
            simp only [e, Option.getD_some]; exact h'.mono hle
      · exact hx.mono hle
    · exact hx.mono hle
  · exact hx.mono hle

theorem runs_snap (hX : X.ok) {o : Oper} {f : Operand} {args : Array Operand} {ts : Array TypeId} (ho : o.op = .call { callee := .value f, args := args, argTypes := ts }) {ρ : Operand → AV} {H : Nat → Option Blk} {me : Nat} {g : FuncId} {first cap : List AV} {x : Value}
    (hf : ρ f = .fn (.func g) first cap) (hC : X.C g ((first ++ args.toList.map ρ ++ cap).map (snap1 H)) = some (.v x)) : Runs X o ρ H me (.v x) [] (snapIds (first ++ args.toList.map ρ ++ cap)) := by
  intro w0 K0 D E n fr hp a w hr hx hH hme next Q hn
  have hops : ∀ x, x = f ∨ x ∈ args → evo fr x = ρ x := by
    intro x hxx
    refine hx x ?_
    rw [ho]
    simp only [Op.operands, Call.operands, Array.mem_append]
    rcases hxx with rfl | h
    · exact .inl (by simp)
    · exact .inr h
  have hfc := hr.ev f
  rw [hops f (.inl rfl), hf] at hfc
  obtain ⟨xs, ys, hv, hac⟩ := args_con (E := E) (fr := fr) (a := a) (args := args) hfc (fun x _ => hr.ev x)
  have hmap : args.toList.map (evo fr) = args.toList.map ρ := List.map_congr_left fun x hxa => hops x (.inr (by simpa using hxa))
  rw [hmap] at hac
  obtain ⟨hen, h2, h3⟩ := hX.C g _ _ hC
  unfold Oper.wp
  rw [run_callValue hen ho hv]
  simp only [Oper.upon_enter]
  have hcon : ArgsCon (Env.bare fun b => w.heap[b]?) ((first ++ args.toList.map ρ ++ cap).map (snap1 H)) (xs ++ args.map a.eval ++ ys) := by
    refine ⟨by simpa using hac.1, fun i y v hy hvv => ?_⟩
    rw [List.getElem?_map, Option.map_eq_some_iff] at hy
    obtain ⟨z, hz, rfl⟩ := hy
    have hm := List.mem_of_getElem? hz
    have hc := snap1_con hr (H := H) (fun id hid => hH id (snapIds_mem hm hid)) (hac.2 i z v hz hvv)
    exact h2 _ (List.mem_map_of_mem hm) _ v hc
  refine (h3 w (fun b => w.heap[b]?) _ (fun _ _ h => h) hcon).mono ?_
  rintro e w' ⟨v, rfl, hb, hc⟩
  cases hc
  obtain ⟨hle, hrel⟩ := hr.call hb
  exact hn x w' _ hle (.v _) (hrel.names fun id hid => .inl (hrel.dom id hid))

/-- The text's order, step by step. -/
theorem opsD_trace (hX : X.ok) (all : List Oper) {base : Nat} {K : St → Prop} : ∀ (l : List Oper) (k : Nat) (s : St) (log : Log), opsD X all l k base s log K → (∀ j o, l[j]? = some o → all[k + j]? = some o) → Traced X all base K l k s log
  | [], k, s, log, h, hl => ⟨fun _ => lkp s.fr, fun _ => hlk s.hp, fun _ => [], fun _ => [], s, rfl, rfl, fun i h1 h2 => by simp at h2; omega, fun i h1 h2 => by simp at h2; omega, fun i j h1 h2 h3 => by simp at h3; omega, h, rfl, rfl, rfl, rfl⟩
  | o :: r, k, s, log, h, hl => by
    have ho : all[k]? = some o := by have := hl 0 o rfl; simpa using this
    have hl' : ∀ j o', r[j]? = some o' → all[k + 1 + j]? = some o' := fun j o' h => by have := hl (j + 1) o' (by simpa using h); simpa [Nat.add_assoc, Nat.add_comm 1 j] using this
    -- the rest, put behind one step
    have fin : ∀ (s1 : St) (go : Bool) (x : AV) (upd : Upd) (ac : List Nat) (log' : Log), lkp s1.fr = lkp s.fr → s1.hp = s.hp → s1.n = s.n → s1.nx = s.nx → GuardIs all o (lkp s.fr) go →
        (putA ⟨s1.n, s1.fr, upd ++ s1.hp, s1.nx⟩ o.dst x fun s' => opsD X all r (k + 1) base s' log' K) → (∀ id ∈ upd.map (·.1), id ∈ ac) →
        ((go = false ∧ x = .v undef ∧ upd = []) ∨ (go = true ∧ Runs X o (evoF (lkp s.fr)) (hlk s.hp) (base + k) x upd ac)) →
        ((log' = log ∧ upd = [] ∧ ac = []) ∨ (log' = (k, ac, upd.map (·.1)) :: log ∧ entryOk all log k ac (upd.map (·.1)) = true)) →
        Traced X all base K (o :: r) k s log := by
      intro s1 go x upd ac log' e1 e2 e3 e4 hg hput hwa hrun hlog
      have hput' : ∃ s2 : St, opsD X all r (k + 1) base s2 log' K ∧ (∀ t, lkp s2.fr t = if o.dst = some t then x else lkp s.fr t) ∧ (∀ id, hlk s2.hp id = ovr upd (hlk s.hp) id) ∧ s2.n = s.n ∧ s2.nx = s.nx ∧ (∀ d, o.dst = some d → d < s.n) := by
        cases hd : o.dst with
        | none =>
          rw [hd] at hput
          exact ⟨_, hput, fun t => by simp [e1], fun id => by rw [hlk_append, e2], e3, e4, by simp⟩
        | some d =>
          rw [hd] at hput
          refine ⟨_, hput.2, fun t => ?_, fun id => by rw [hlk_append, e2], e3, e4, fun d' hd' => by cases hd'; rw [← e3]; exact hput.1⟩
          simp only [lkp_cons, Option.some.injEq, e1]
          by_cases e : t = d
          · rw [if_pos e, if_pos e.symm]
          · rw [if_neg e, if_neg (Ne.symm e)]
      obtain ⟨s2, h2, hf, hh, hn2, hnx2, hdn⟩ := hput'
      obtain ⟨F, G, acc, wr, s', f1, f2, f3, f4, f5, f6, f7, f8, f9, f10⟩ := opsD_trace hX all r (k + 1) s2 log' h2 hl'
      have hlen : k + (o :: r).length = k + 1 + r.length := by simp; omega
      refine ⟨fun i => if i = k then lkp s.fr else F i, fun i => if i = k then hlk s.hp else G i, fun i => if i = k then ac else acc i, fun i => if i = k then upd.map (·.1) else wr i, s', by simp, by simp, ?_, ?_, ?_, f6, ?_, ?_, by rw [f9, hn2], by rw [f10, hnx2]⟩
      · intro i h1 h2
        by_cases e : i = k
        · subst e
          simp only [if_true, if_neg (show ¬ i + 1 = i by omega)]
          refine ⟨o, go, x, upd, ho, hg, hdn, fun t => by rw [f1]; exact hf t, fun id => by rw [f2]; exact hh id, rfl, hwa, hrun⟩
        · simp only [if_neg e, if_neg (show ¬ i + 1 = k by omega)]
          have := f3 i (by omega) (by omega)
          rw [hn2] at this
          exact this
      · intro i h1 h2 e he hm
        by_cases ei : i = k
        · subst ei
          simp only [if_true] at hm
          rcases hlog with ⟨_, rfl, rfl⟩ | ⟨_, hen⟩
          · simp [meets] at hm
          · have := List.all_eq_true.1 hen e he
            simp only [Bool.or_eq_true, Bool.not_eq_true', Bool.or_eq_false_iff] at this
            rcases this with ⟨h3, h4⟩ | h3
            · rcases hm with hm | hm
              · rw [hm] at h3; cases h3
              · rw [hm] at h4; cases h4
            · exact h3
        · simp only [if_neg ei] at hm
          refine f4 i (by omega) (by omega) e ?_ hm
          rcases hlog with ⟨rfl, _⟩ | ⟨rfl, _⟩
          · exact he
          · exact List.mem_cons_of_mem _ he
      · intro i j h1 h2 h3 hm
        have ei : ¬ i = k := by omega
        by_cases ej : j = k
        · subst ej
          simp only [if_true, if_neg ei] at hm
          rcases hlog with ⟨_, rfl, rfl⟩ | ⟨rfl, _⟩
          · simp [meets] at hm
          · exact f4 i (by omega) (by omega) (j, ac, upd.map (·.1)) List.mem_cons_self hm
        · simp only [if_neg ei, if_neg ej] at hm
          exact f5 i j (by omega) h2 (by omega) hm
      · simp only [if_neg (show ¬ k + (o :: r).length = k by simp)]
        rw [hlen]; exact f7
      · simp only [if_neg (show ¬ k + (o :: r).length = k by simp)]
        rw [hlen]; exact f8
    -- an operation that is wanted
    have go : ∀ (s1 : St), lkp s1.fr = lkp s.fr → s1.hp = s.hp → s1.n = s.n → s1.nx = s.nx → GuardIs all o (lkp s.fr) true →
        (stepD X o all k base s1 log fun s' log' => opsD X all r (k + 1) base s' log' K) → Traced X all base K (o :: r) k s log := by
      intro s1 e1 e2 e3 e4 hg hst
      have hevo : evo s1.fr = evoF (lkp s.fr) := by funext x; rw [← evoF_lkp, e1]
      unfold stepD at hst
      split at hst
      · rename_i f args ts hop
        split at hst
        · rename_i g first cap hf
          split at hst
          · rename_i rr hC
            rw [hevo] at hf hC
            exact fin s1 true rr [] [] log e1 e2 e3 e4 hg (by simpa using hst) (by simp) (.inr ⟨rfl, runs_tab hX hop hf hC⟩) (.inl ⟨rfl, rfl, rfl⟩)
          · rename_i hC0
            rw [hevo, e2] at hst
            rw [hevo] at hf
            unfold tabS at hst
            split at hst
            · rename_i x hC
              exact fin s1 true (.v x) [] _ _ e1 e2 e3 e4 hg (by simpa using hst.2) (by simp) (.inr ⟨rfl, runs_snap hX hop hf hC⟩) (.inr ⟨rfl, hst.1⟩)
            · exact hst.elim
        · exact hst.elim
      · rw [hevo, e2] at hst
        obtain ⟨rr, upd, ac, hk, hruns⟩ := runs_aop hX hst
        split at hk
        · exact fin s1 true rr [] [] log e1 e2 e3 e4 hg hk (by simp) (.inr ⟨rfl, hruns [] (by simp)⟩) (.inl ⟨rfl, rfl, rfl⟩)
        · obtain ⟨hen, hp⟩ := hk
          exact fin s1 true rr upd (accOf upd ac) _ e1 e2 e3 e4 hg (by rw [e2]; exact hp) (fun id hid => List.mem_append_left _ hid) (.inr ⟨rfl, hruns _ fun id hid => List.mem_append_right _ hid⟩) (.inr ⟨rfl, hen⟩)
    have skip : ∀ (s1 : St), lkp s1.fr = lkp s.fr → s1.hp = s.hp → s1.n = s.n → s1.nx = s.nx → GuardIs all o (lkp s.fr) false →
        (putA s1 o.dst (.v undef) fun s' => opsD X all r (k + 1) base s' log K) → Traced X all base K (o :: r) k s log := by
      intro s1 e1 e2 e3 e4 hg hp
      exact fin s1 false (.v undef) [] [] log e1 e2 e3 e4 hg (by simpa using hp) (by simp) (.inl ⟨rfl, rfl, rfl⟩) (.inl ⟨rfl, rfl, rfl⟩)
    simp only [opsD, guardA] at h
    cases hg : o.guard with
    | none =>
      rw [hg] at h
      exact go s rfl rfl rfl rfl (by unfold GuardIs; rw [hg]) h
    | some jw =>
      obtain ⟨j, want⟩ := jw
      rw [hg] at h
      simp only at h
      cases hd : (all[j]?).bind (·.dst) with
      | none =>
        rw [hd] at h
        exact skip s rfl rfl rfl rfl (by unfold GuardIs; rw [hg]; simp only [hd]) h
      | some d =>
        rw [hd] at h
        simp only at h
        split at h
        · rename_i b hb
          obtain ⟨hlt, h1, h2⟩ := h
          have same : ∀ c, b = c → lkp ((d, .v (.bool c)) :: s.fr) = lkp s.fr := by
            intro c hc
            funext t
            rw [lkp_cons]
            by_cases e : t = d
            · rw [if_pos e, e, hb, hc]
            · rw [if_neg e]
          by_cases e : b = want
          · exact go ⟨s.n, (d, .v (.bool want)) :: s.fr, s.hp, s.nx⟩ (same want e) rfl rfl rfl (by unfold GuardIs; rw [hg]; simp only [hd]; exact .inl ⟨b, hb, by simp [e]⟩) (h1 e)
          · have e' : b = !want := by cases b <;> cases want <;> simp_all
            exact skip ⟨s.n, (d, .v (.bool !want)) :: s.fr, s.hp, s.nx⟩ (same _ e') rfl rfl rfl (by unfold GuardIs; rw [hg]; simp only [hd]; exact .inl ⟨b, hb, by simp [e]⟩) (h2 e')
        · rename_i xs hb
          exact skip s rfl rfl rfl rfl (by unfold GuardIs; rw [hg]; simp only [hd]; exact .inr ⟨xs, hb, trivial⟩) h
        · exact h.elim
end

end Go.Vai
