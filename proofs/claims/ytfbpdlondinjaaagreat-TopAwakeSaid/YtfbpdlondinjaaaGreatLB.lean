/- The evaluator, the plain texts and the contracts that this claim leans on, part 2: nothing of the statement is claimed here. -/
import Derived.Test.YtfbpdlondinjaaaGreatLA
import Derived.Scope
import Derived.LoopNIn
import Derived.Deep.LoopGhost
import Derived.RangeFuncRecord
set_option linter.unusedVariables false
set_option linter.unusedSimpArgs false

/- Regions that draw; then all code that the evaluator takes, and the calls that it enters. -/
namespace Go.Vai
open Go.RowKit
theorem count_lt {p q:Nat→Bool} {i:Nat} (himp:∀ j,q j=true→p j=true) (hi:p i=true) (hq:q i=false):∀ (l:List Nat),i∈l→(l.filter q).length < (l.filter p).length
 | [],h=>by cases h
 | x :: l,h=>by
  have hle:∀ l:List Nat,(l.filter q).length≤(l.filter p).length:=by
   intro l
   induction l with
   | nil=>simp
   | cons y l ih=>
    simp only [List.filter_cons]
    cases hqy:q y with
    | true=>rw [himp y hqy]; simp; exact ih
    | false=>cases p y <;> simp <;> omega
  by_cases e:x=i
  ·subst e
   have:=hle l
   simp only [List.filter_cons,hi,hq,if_true,Bool.false_eq_true,if_false,List.length_cons]
   omega
  ·have hm:i∈l:=(List.mem_cons.1 h).resolve_left (Ne.symm e)
   have:=count_lt himp hi hq l hm
   simp only [List.filter_cons]
   cases hqy:q x with
   | true=>rw [himp x hqy]; simp; exact this
   | false=>cases p x <;> simp <;> omega
section
variable {X : Ctx} {all : List Oper} {base n : Nat} {sk : Nat → Prop} {F : Nat → Nat → AV} {G : Nat → Nat → Option Blk} {acc wr : Nat → List Nat}
theorem edgesOk_spec (h:edgesOk all=true) {j:Nat} {o:Oper} (ho:all[j]? = some o) :
  (∀ e∈o.after.toList,Region.binds .any e=true→e.on < j)∧(∀ g w,o.guard=some (g,w)→g < j):=by
 unfold edgesOk at h
 rw [List.all_eq_true] at h
 have hj:=h j (by rw [List.mem_range]; exact (List.getElem?_eq_some_iff.1 ho).1)
 rw [ho] at hj
 simp only [Bool.and_eq_true,List.all_eq_true,Bool.or_eq_true,Bool.not_eq_true',decide_eq_true_eq] at hj
 obtain ⟨⟨h1,_⟩,h3⟩:=hj
 refine ⟨fun e he hb=>?_,fun g w hg=>?_⟩
 ·rcases h1 e he with h' | h'
  ·rw [hb] at h'; cases h'
  ·exact h'
 ·rw [hg] at h3; simpa using h3
theorem any_sound {w0:World} {K0:Nat→Option Obj} {E0:Env} {Q:Exit→Act→World→Prop} (hd:dataOk all=true) (he:edgesOk all=true)
  (hs:∀ i,i < all.length→StepOr X all base n i (F i) (F (i + 1)) (G i) (G (i + 1)) (acc i) (wr i) (sk i)) {J:(Nat→Prop)→Prop} (hJ:∀ S i,J S→¬ sk i→J (fun k=>S k∨k=i))
  (hpair:∀ i j,j < i→i < all.length→(meets (wr i) (acc j)=true∨meets (wr j) (acc i)=true)→anc all all.length i j=true) (hE0:∀ id,E0.dom id→id < base)
  (hstop:∀ (fuel:Nat) (listed:Array Bool) (E:Env) (fr:Frm) (hp:Hp) (a:Act) (w:World) (i:Nat) (o:Oper),listed.size=all.length→J (fun i=>listed.getD i false=true)→((List.range all.length).filter fun k=>!(listed.setIfInBounds i true).getD k false).length≤fuel →
   Doing X all base n F G wr w0 K0 E0 (fun i=>listed.getD i false=true) E fr hp a w→sk i→all[i]? = some o→listed.getD i false=false→(∀ e∈o.after.toList,Region.binds .any e=true→listed.getD e.on false=true) →
   wpOpIn (FW X.rd) 0 X.P all.toArray Q i (fun a w=>wpAnyIn (FW X.rd) 0 X.P .any all.toArray Q fuel (listed.setIfInBounds i true) a w) a w)
  (hend:∀ E fr hp a w,J (fun i=>i < all.length)→Doing X all base n F G wr w0 K0 E0 (fun i=>i < all.length) E fr hp a w→Q .normal a w) :
  ∀ (fuel:Nat) (listed:Array Bool) (E:Env) (fr:Frm) (hp:Hp) (a:Act) (w:World),listed.size=all.length→J (fun i=>listed.getD i false=true)→((List.range all.length).filter fun i=>!listed.getD i false).length≤fuel →
   Doing X all base n F G wr w0 K0 E0 (fun i=>listed.getD i false=true) E fr hp a w→wpAnyIn (FW X.rd) 0 X.P .any all.toArray Q fuel listed a w:=by
 -- nothing is ready: all has been done
 have done:∀ (listed:Array Bool) (E:Env) (fr:Frm) (hp:Hp) (a:Act) (w:World),listed.size=all.length→J (fun i=>listed.getD i false=true)→Doing X all base n F G wr w0 K0 E0 (fun i=>listed.getD i false=true) E fr hp a w →
   Region.ready .any all.toArray listed=[]→Q .normal a w:=by
  intro listed E fr hp a w hsz hJl h hr
  have hall:∀ i,i < all.length→listed.getD i false=true:=by
   intro i
   induction i using Nat.strongRecOn with
   | _ i ih=>
    intro hi
    cases hli:listed.getD i false with
    | true=>rfl
    | false=>
     exfalso
     have ho:all[i]? = some all[i]:=by simp [hi]
     have:i∈Region.ready .any all.toArray listed:=by
      rw [mem_ready]
      refine ⟨?_,all[i],by simp [hi],?_⟩
      ·have hlt:i < listed.size:=by omega
       rw [Array.getD_eq_getD_getElem?,Array.getElem?_eq_getElem hlt] at hli ⊢
       simpa using hli
      ·intro e hee hb
       have:=(edgesOk_spec he ho).1 e (by simpa using hee) hb
       exact ih e.on this (by omega)
     rw [hr] at this; cases this
  have eS:(fun i=>listed.getD i false=true)=(fun i=>i < all.length):=funext fun i=>propext ⟨fun hi=>by
   rw [Array.getD_eq_getD_getElem?] at hi
   by_cases hlt:i < listed.size
   ·omega
   ·rw [Array.getElem?_eq_none (by omega)] at hi; simp at hi,hall i⟩
  refine hend E fr hp a w (eS ▸ hJl) { le:=h.le,rel:=h.rel,dom:=?_,cl:=?_,reg:=?_,reg0:=?_,heap:=?_,heap0:=?_ }
  ·intro id hid
   exact (h.dom id hid).imp_right fun ⟨k,_,h2,h3⟩=>⟨k,h2,h2,h3⟩
  ·intro i o hi ho e hee hb
   have:=(edgesOk_spec he ho).1 e hee hb
   show e.on < all.length
   omega
  ·intro i o t hi; exact h.reg i o t (hall i hi)
  ·intro t ht
   exact h.reg0 t fun i o hi ho=>ht i o (List.getElem?_eq_some_iff.1 ho).1 ho
  ·intro i id hi hil hw hmax
   exact h.heap i id (hall i hil) hil hw fun j hj hjl hjw=>hmax j hjl hjl hjw
  ·intro id hid
   exact h.heap0 id fun i _ hil=>hid i hil hil
 intro fuel
 induction fuel with
 | zero=>
  intro listed E fr hp a w hsz hJl hc h
  have hr:Region.ready .any all.toArray listed=[]:=by
   cases hr:Region.ready .any all.toArray listed with
   | nil=>rfl
   | cons i r=>
    exfalso
    have hi:i∈Region.ready .any all.toArray listed:=by rw [hr]; exact List.mem_cons_self
    rw [mem_ready] at hi
    obtain ⟨h0,o,ho,_⟩:=hi
    have hil:i < all.length:=by
     have:all[i]? = some o:=by simpa using ho
     exact (List.getElem?_eq_some_iff.1 this).1
    have hlt:i < listed.size:=by omega
    have hf:listed.getD i false=false:=by
     rw [Array.getD_eq_getD_getElem?,Array.getElem?_eq_getElem hlt] at h0 ⊢
     simpa using h0
    have:i∈(List.range all.length).filter fun i=>!listed.getD i false:=by
     rw [List.mem_filter,List.mem_range]
     exact ⟨hil,by rw [hf]; rfl⟩
    have:=List.length_pos_of_mem this
    omega
  exact ⟨hr,done listed E fr hp a w hsz hJl h hr⟩
 | succ fuel ih=>
  intro listed E fr hp a w hsz hJl hc h
  refine ⟨done listed E fr hp a w hsz hJl h,fun i hi=>?_⟩
  rw [mem_ready] at hi
  obtain ⟨h0,o,ho,hpre⟩:=hi
  have hoa:all[i]? = some o:=by simpa using ho
  have hil:i < all.length:=(List.getElem?_eq_some_iff.1 hoa).1
  have hlt:i < listed.size:=by omega
  have hf:listed.getD i false=false:=by
   rw [Array.getD_eq_getD_getElem?,Array.getElem?_eq_getElem hlt] at h0 ⊢
   simpa using h0
  have hset:∀ k,(listed.setIfInBounds i true).getD k false=true ↔ (listed.getD k false=true∨k=i):=by
   intro k
   by_cases e:k=i
   ·subst e
    rw [Array.getD_eq_getD_getElem?,Array.getElem?_setIfInBounds_self_of_lt hlt]
    simp
   ·rw [getD_set_ne false (Ne.symm e)]
    simp [e]
  have hcnt:((List.range all.length).filter fun k=>!(listed.setIfInBounds i true).getD k false).length≤fuel:=by
   have:=count_lt (p:=fun i=>!listed.getD i false) (q:=fun k=>!(listed.setIfInBounds i true).getD k false) (i:=i) (fun j hj=>by
     simp only [Bool.not_eq_true'] at hj ⊢
     cases hl:listed.getD j false with
     | false=>rfl
     | true=>have:=(hset j).2 (.inl hl); rw [hj] at this; cases this) (by simp only [hf,Bool.not_false]) (by have:=(hset i).2 (.inr rfl); simp only [this,Bool.not_true]) (List.range all.length) (List.mem_range.2 hil)
   omega
  by_cases hsk:sk i
  ·exact hstop fuel listed E fr hp a w i o hsz hJl hcnt h hsk hoa hf fun e hee hb=>hpre e (by simpa using hee) hb
  have e:(fun k=>(listed.setIfInBounds i true).getD k false=true)=(fun k=>listed.getD k false=true∨k=i):=funext fun k=>propext (hset k)
  refine Doing.step hd hs hpair h hE0 hoa (by rw [hf]; simp) hsk (fun e hee hb=>hpre e (by simpa using hee) hb) ?_
  intro E' fr' hp' a' w' h'
  refine ih _ E' fr' hp' a' w' (by simp [hsz]) ?_ hcnt ?_
  ·rw [e]; exact hJ _ i hJl hsk
  ·rw [e]
   exact h'
theorem opsD_sound (hX : X.core) (hd : dataOk all = true) (he : edgesOk all = true) {s : St} {K : St → Prop} (h : opsD X all all 0 base s [] K) {w0 : World} {K0 : Nat → Option Obj} {E : Env} {a : Act} {w : World}
    (hr : RelS w0 K0 E s a w) (hE : ∀ id, E.dom id → id < base) (hb : base + all.length ≤ s.nx) {Q : Exit → Act → World → Prop}
    (hn : ∀ s' a' w' E', K s' → E.le E' → s'.nx = s.nx → (∀ id, E'.dom id → E.dom id ∨ base ≤ id) → RelS w0 K0 E' s' a' w' → Q .normal a' w') :
    wpAnyIn (FW X.rd) 0 X.P .any all.toArray Q all.toArray.size (Array.replicate all.toArray.size false) a w := by
  obtain ⟨F, G, acc, wr, s', f1, f2, f3, f4, f5, f6, f7, f8, f9, f10⟩ := opsD_trace hX all all 0 s [] h (fun j o ho => by rw [Nat.zero_add]; exact ho)
  rw [Nat.zero_add] at f3 f5 f7 f8
  have hs : ∀ i, i < all.length → StepOr X all base s.n i (F i) (F (i + 1)) (G i) (G (i + 1)) (acc i) (wr i) False := fun i hi => .inl (f3 i (Nat.zero_le _) hi)
  have hlist : ∀ i, (Array.replicate all.toArray.size false).getD i false = false := by
    intro i
    rw [Array.getD_eq_getD_getElem?, Array.getElem?_replicate]
    split <;> rfl
  refine any_sound (F := F) (G := G) (acc := acc) (wr := wr) (n := s.n) (base := base) (w0 := w0) (K0 := K0) (E0 := E) (sk := fun _ => False) (J := fun _ => True) hd he hs (fun _ _ _ _ => trivial) (fun i j hj hi hm => f5 i j (Nat.zero_le _) hj hi hm) hE (fun _ _ _ _ _ _ _ _ _ _ _ _ _ h => h.elim) ?_ _ _ E s.fr s.hp a w (by simp) trivial ?_ ?_
  · intro E' fr hp a' w' _ hD
    have hreg : ∀ t, lkp fr t = lkp s'.fr t := by
      intro t
      rw [← f7]
      by_cases hw : ∃ (k : Nat) (x : Oper), all[k]? = some x ∧ x.dst = some t
      · obtain ⟨k, x, hx, hdx⟩ := hw
        have hkl : k < all.length := (List.getElem?_eq_some_iff.1 hx).1
        rw [hD.reg k x t hkl hx hdx]
        have := regs_stay hs t (all.length - (k + 1)) (k + 1) (by omega) fun q h1 h2 y hy hdy => (dataOk_spec hd (show k < q by omega) hx hy).1 t hdx hdy
        rw [show k + 1 + (all.length - (k + 1)) = all.length by omega] at this
        exact this.symm
      · have hno : ∀ (q : Nat) (y : Oper), all[q]? = some y → y.dst ≠ some t := fun q y hy hdy => hw ⟨q, y, hy, hdy⟩
        rw [hD.reg0 t fun q y _ hy => hno q y hy]
        have := regs_stay hs t all.length 0 (by omega) fun q _ _ y hy => hno q y hy
        rw [Nat.zero_add] at this
        exact this.symm
    have hheap : ∀ id, hlk hp id = hlk s'.hp id := by
      intro id
      rw [← f8]
      rcases last_below (fun k => id ∈ wr k) all.length with ⟨k, h1, h2, h3⟩ | hno
      · rw [hD.heap k id h1 h1 h2 fun j _ hjl hjw => h3 j hjl hjw]
        have := heap_stay hs id (all.length - (k + 1)) (k + 1) (by omega) fun q h4 h5 hq => by have := h3 q (by omega) hq; omega
        rw [show k + 1 + (all.length - (k + 1)) = all.length by omega] at this
        exact this.symm
      · rw [hD.heap0 id fun j _ hjl => hno j hjl]
        have := heap_stay hs id all.length 0 (by omega) fun q _ h5 => hno q (by omega)
        rw [Nat.zero_add] at this
        exact this.symm
    refine hn s' a' w' E' f6 hD.le f10 (fun id hid => (hD.dom id hid).imp_right fun ⟨k, _, _, e⟩ => by omega) ?_
    have hrel := hD.rel
    refine { below := hrel.below, kw := hrel.kw, k0 := hrel.k0, nd := hrel.nd, size := by rw [f9]; exact hrel.size, regs := fun t ht => by rw [← hreg]; exact hrel.regs t (by rw [← f9]; exact ht), dom := ?_, lw := hrel.lw, out := fun t ht => by rw [← hreg]; exact hrel.out t (by rw [← f9]; exact ht),
             own := fun id b hb => hrel.own id b (by rw [hheap]; exact hb), inj := fun id id' b b' g h1 h2 => hrel.inj id id' b b' g (by rw [hheap]; exact h1) (by rw [hheap]; exact h2) }
    intro id hid
    show id < s'.nx
    rw [f10]
    rcases hD.dom id hid with h' | ⟨k, _, hk, e⟩
    · exact hr.dom id h'
    · omega
  · have : ((List.range all.length).filter fun i => !(Array.replicate all.toArray.size false).getD i false) = List.range all.length := by
      rw [List.filter_eq_self]
      intro i _
      rw [hlist]; rfl
    rw [this]; simp
  · have hS : ∀ i, ¬ ((Array.replicate all.toArray.size false).getD i false = true) := fun i => by rw [hlist]; simp
    exact { le := Env.le.refl E, rel := hr.names fun _ _ => trivial, dom := fun id hid => .inl hid, cl := fun i o hi => absurd hi (hS i), reg := fun i o t hi => absurd hi (hS i), reg0 := fun t _ => by rw [f1], heap := fun i id hi => absurd hi (hS i), heap0 := fun id _ => by rw [f2] }

end
end Go.Vai

/- A region that draws, with a call that stands between all others. -/
namespace Go.Vai
open Go.RowKit
section
variable {X : Ctx} {callF : CallF} {all : List Oper} {base n : Nat} {F : Nat → Nat → AV} {G : Nat → Nat → Option Blk} {acc wr : Nat → List Nat} {sk : Nat → Prop}
theorem Doing.upto {w0:World} {K0:Nat→Option Obj} {E0:Env} {S:Nat→Prop} {E:Env} {fr:Frm} {hp:Hp} {a:Act} {w:World} (hd:dataOk all=true)
  (hs:∀ i,i < all.length→StepOr X all base n i (F i) (F (i + 1)) (G i) (G (i + 1)) (acc i) (wr i) (sk i))
  (hD:Doing X all base n F G wr w0 K0 E0 S E fr hp a w) {m:Nat} (hm:m≤all.length) (hS:∀ i,S i ↔ i < m):(∀ t,lkp fr t=F m t)∧∀ id,hlk hp id=G m id:=by
 refine ⟨fun t=>?_,fun id=>?_⟩
 ·by_cases hw:∃ (k:Nat) (x:Oper),all[k]? = some x∧x.dst=some t∧k < m
  ·obtain ⟨k,x,hx,hdx,hkm⟩:=hw
   rw [hD.reg k x t ((hS k).2 hkm) hx hdx]
   have:=regs_stay hs t (m - (k + 1)) (k + 1) (by omega) fun q h1 h2 y hy hdy=>(dataOk_spec hd (show k < q by omega) hx hy).1 t hdx hdy
   rw [show k + 1 + (m - (k + 1))=m by omega] at this
   exact this.symm
  ·have hno:∀ (q:Nat) (y:Oper),q < m→all[q]? = some y→y.dst≠some t:=fun q y hq hy hdy=>hw ⟨q,y,hy,hdy,hq⟩
   rw [hD.reg0 t fun q y hSq hy=>hno q y ((hS q).1 hSq) hy]
   have:=regs_stay hs t m 0 (by omega) fun q _ h2 y hy=>hno q y (by omega) hy
   rw [Nat.zero_add] at this
   exact this.symm
 ·rcases last_below (fun k=>id∈wr k) m with ⟨k,h1,h2,h3⟩ | hno
  ·rw [hD.heap k id ((hS k).2 h1) (by omega) h2 fun j hj _ hjw=>h3 j ((hS j).1 hj) hjw]
   have:=heap_stay hs id (m - (k + 1)) (k + 1) (by omega) fun q h4 h5 hq=>by have:=h3 q (by omega) hq; omega
   rw [show k + 1 + (m - (k + 1))=m by omega] at this
   exact this.symm
  ·rw [hD.heap0 id fun j hj _=>hno j ((hS j).1 hj)]
   have:=heap_stay hs id m 0 (by omega) fun q _ h5=>hno q (by omega)
   rw [Nat.zero_add] at this
   exact this.symm
theorem rel_told {w0 : World} {K0 : Nat → Option Obj} {D : Nat → Prop} {E : Env} {n : Nat} {fr : Frm} {hp : Hp} {a : Act} {w : World} (h : Rel w0 K0 D E n fr hp a w) {fr' : Frm} {hp' : Hp} (hf : ∀ t, lkp fr t = lkp fr' t) (hh : ∀ id, hlk hp id = hlk hp' id) {D' : Nat → Prop} (hD : ∀ id, E.dom id → D' id) :
    Rel w0 K0 D' E n fr' hp' a w :=
  { below := h.below, kw := h.kw, k0 := h.k0, nd := h.nd, size := h.size, regs := fun t ht => by rw [← hf]; exact h.regs t ht, dom := hD, lw := h.lw, out := fun t ht => by rw [← hf]; exact h.out t ht,
    own := fun id b hb => h.own id b (by rw [hh]; exact hb), inj := fun id id' b b' g h1 h2 => h.inj id id' b b' g (by rw [hh]; exact h1) (by rw [hh]; exact h2) }

theorem pivot_spec {c:Nat} (h:pivotOk all c=true):(∀ i,i < c→i < all.length→anc all all.length c i=true)∧(∀ i,c < i→i < all.length→anc all all.length i c=true):=by
 unfold pivotOk at h
 rw [List.all_eq_true] at h
 refine ⟨fun i hi hl=>?_,fun i hi hl=>?_⟩
 ·have:=h i (List.mem_range.2 hl)
  simp only [Bool.or_eq_true,Bool.and_eq_true,decide_eq_true_eq,beq_iff_eq] at this
  rcases this with (h' | h') | h'
  ·exact h'.2
  ·omega
  ·omega
 ·have:=h i (List.mem_range.2 hl)
  simp only [Bool.or_eq_true,Bool.and_eq_true,decide_eq_true_eq,beq_iff_eq] at this
  rcases this with (h' | h') | h'
  ·omega
  ·omega
  ·exact h'.2
theorem opsP_sound (hX:X.core) (hF:CallSound X callF) (hd:dataOk all=true) (he:edgesOk all=true) {c:Nat} {s:St} {K:St→Prop} (h:opsP X callF all c base s K) {w0:World} {K0:Nat→Option Obj} {E:Env} {a:Act} {w:World}
  (hi:X.inv w0 E) (hr:RelS w0 K0 E s a w) (hE:∀ id,E.dom id→id < base) (hb:base + all.length≤s.nx) {Q:Exit→Act→World→Prop}
  (hn:∀ s' a' w' E',K s'→E.le E'→s.nx≤s'.nx→(∀ id,E'.dom id→E.dom id∨base≤id)→RelS w0 K0 E' s' a' w'→Q .normal a' w') :
  wpAnyIn (FW X.rd) 0 X.P .any all.toArray Q all.toArray.size (Array.replicate all.toArray.size false) a w:=by
 unfold opsP at h
 split at h
 ·rename_i o ho
  obtain ⟨hg,hp1,h⟩:=h
  have hcl:c < all.length:=(List.getElem?_eq_some_iff.1 ho).1
  obtain ⟨hpa,hpb⟩:=pivot_spec hp1
  obtain ⟨F,G,acc,wr,s1,f1,f2,f3,f4,f5,f6,f7,f8,f9,f10⟩:=opsD_trace hX all (all.take c) 0 s [] h (fun j o ho=>by
   rw [Nat.zero_add]
   rw [List.getElem?_take] at ho
   split at ho
   ·exact ho
   ·cases ho)
  have hlen:(all.take c).length=c:=by simp; omega
  rw [Nat.zero_add,hlen] at f3 f5 f7 f8
  -- the first part
  have hs1:∀ i,i < all.length→StepOr X all base s.n i (F (min i c)) (F (min (i + 1) c)) (G (min i c)) (G (min (i + 1) c)) (if i < c then acc i else []) (if i < c then wr i else []) (c≤i):=by
   intro i hi
   by_cases hic:i < c
   ·rw [Nat.min_eq_left (by omega),Nat.min_eq_left (by omega),if_pos hic,if_pos hic]
    exact .inl (f3 i (Nat.zero_le _) hic)
   ·rw [Nat.min_eq_right (by omega),Nat.min_eq_right (by omega)]
    exact .inr ⟨by omega,rfl,rfl,if_neg hic⟩
  have hlist:∀ i,(Array.replicate all.toArray.size false).getD i false=false:=by
   intro i
   rw [Array.getD_eq_getD_getElem?,Array.getElem?_replicate]
   split <;> rfl
  have hS0:∀ i,¬ ((Array.replicate all.toArray.size false).getD i false=true):=fun i=>by rw [hlist]; simp
  refine any_sound (F:=fun i=>F (min i c)) (G:=fun i=>G (min i c)) (acc:=fun i=>if i < c then acc i else []) (wr:=fun i=>if i < c then wr i else []) (n:=s.n) (base:=base) (w0:=w0) (K0:=K0) (E0:=E)
   (sk:=fun i=>c≤i) (J:=fun S=>∀ i,S i→i < c) hd he hs1 (fun S i hJ hi k hk=>hk.elim (fun hk=>hJ k hk) (fun e=>e ▸ Nat.lt_of_not_le hi)) ?_ hE ?_ ?_ _ _ E s.fr s.hp a w (by simp) (fun i hi=>absurd hi (hS0 i)) ?_ ?_
  ·intro i j hj hi hm
   by_cases hic:i < c
   ·simp only [if_pos hic,if_pos (show j < c by omega)] at hm
    exact f5 i j (Nat.zero_le _) hj hic hm
   ·simp only [if_neg hic] at hm
    rcases hm with hm | hm
    ·simp [meets] at hm
    ·simp [meets] at hm
  ·-- the call
   intro fuel listed E1 fr1 hp1' a1 w1 i o' hsz hJ hcnt hD hsk ho' hf hpre
   have hanc:∀ k,anc all all.length i k=true→listed.getD k false=true:=fun k hk=>anc_listed hD.cl _ i k hk fun o2 ho2=>by rw [ho'] at ho2; cases ho2; exact hpre
   have hil:i < all.length:=(List.getElem?_eq_some_iff.1 ho').1
   have hic:i=c:=by
    rcases Nat.lt_trichotomy i c with hlt | e | hlt
    ·omega
    ·exact e
    ·have:=hJ c (hanc c (hpb i hlt hil)); omega
   subst hic
   rw [ho] at ho'; cases ho'
   have hSi:∀ k,listed.getD k false=true ↔ k < i:=fun k=>⟨hJ k,fun hk=>hanc k (hpa k hk (by omega))⟩
   obtain ⟨u1,u2⟩:=hD.upto hd hs1 (m:=i) (by omega) hSi
   have hrel1:RelS w0 K0 E1 s1 a1 w1:=by
    have:=rel_told hD.rel (fr':=s1.fr) (hp':=s1.hp) (fun t=>by rw [u1 t,Nat.min_self,f7]) (fun id=>by rw [u2 id,Nat.min_self,f8]) (D':=fun id=>id < s1.nx) (fun id hid=>by
     rw [f10]
     rcases hD.dom id hid with h' | ⟨k,_,hk,e⟩
     ·exact hr.dom id h'
     ·omega)
    unfold RelS
    rw [f9]; exact this
   have hme:¬ E1.dom (base + i):=by
    intro hdm
    rcases hD.dom _ hdm with h' | ⟨k,hk,_,e⟩
    ·have:=hE _ h'; omega
    ·have:=hJ k hk; omega
   have hgn:o.guard=none:=by simpa using hg
   unfold wpOpIn
   rw [show all.toArray[i]? = some o by simpa using ho]
   simp only [Region.wanted,hgn,if_true]
   refine stepA_sound hX hF f6 (hX.im _ _ _ hi hD.le) hrel1 hme (by rw [f10]; omega) ?_
   intro s2 a2 w2 E2 h2 hle2 hnx2 hdom2 hrel2
   -- the last part
   obtain ⟨F2,G2,acc2,wr2,s3,g1,g2,g3,g4,g5,g6,g7,g8,g9,g10⟩:=opsD_trace hX all (all.drop (i + 1)) (i + 1) _ [] h2 (fun j o ho=>by rw [List.getElem?_drop] at ho; exact ho)
   have hlen2:i + 1 + (all.drop (i + 1)).length=all.length:=by simp; omega
   rw [hlen2] at g3 g5 g7 g8
   have hs2:∀ k,k < all.length→StepOr X all s2.nx s2.n k (F2 (max k (i + 1))) (F2 (max (k + 1) (i + 1))) (G2 (max k (i + 1))) (G2 (max (k + 1) (i + 1))) (if i < k then acc2 k else []) (if i < k then wr2 k else []) (k≤i):=by
    intro k hk
    by_cases hik:i < k
    ·rw [Nat.max_eq_left (by omega),Nat.max_eq_left (by omega),if_pos hik,if_pos hik]
     exact .inl (g3 k (by omega) hk)
    ·rw [Nat.max_eq_right (by omega),Nat.max_eq_right (by omega)]
     exact .inr ⟨by omega,rfl,rfl,if_neg hik⟩
   have hset:∀ k,(listed.setIfInBounds i true).getD k false=true ↔ k≤i:=by
    intro k
    have hlt:i < listed.size:=by omega
    by_cases e:k=i
    ·subst e
     rw [Array.getD_eq_getD_getElem?,Array.getElem?_setIfInBounds_self_of_lt hlt]
     simp
    ·rw [getD_set_ne false (Ne.symm e),hSi k]
     omega
   refine any_sound (F:=fun k=>F2 (max k (i + 1))) (G:=fun k=>G2 (max k (i + 1))) (acc:=fun k=>if i < k then acc2 k else []) (wr:=fun k=>if i < k then wr2 k else []) (n:=s2.n) (base:=s2.nx) (w0:=w0) (K0:=K0) (E0:=E2)
    (sk:=fun k=>k≤i) (J:=fun S=>∀ k,k≤i→S k) hd he hs2 (fun S k hJ _ q hq=>.inl (hJ q hq)) ?_ (fun id hid=>hrel2.dom id hid) ?_ ?_ fuel _ E2 s2.fr s2.hp a2 w2 (by simp [hsz]) (fun k hk=>(hset k).2 hk) hcnt ?_
   ·intro k j hj hk hm
    by_cases hik:i < k
    ·by_cases hij:i < j
     ·simp only [if_pos hik,if_pos hij] at hm
      exact g5 k j (by omega) hj hk hm
     ·simp only [if_neg hij] at hm
      simp [meets] at hm
    ·simp only [if_neg hik] at hm
     simp [meets] at hm
   ·intro fuel' listed' E' fr' hp' a' w' k o' _ hJ' _ _ hk _ hf' _
    have:=hJ' k hk
    rw [this] at hf'; cases hf'
   ·intro E' fr' hp' a' w' _ hD'
    obtain ⟨v1,v2⟩:=hD'.upto hd hs2 (m:=all.length) (Nat.le_refl _) (fun _=>Iff.rfl)
    refine hn s3 a' w' E' g6 (hD.le.trans (hle2.trans hD'.le)) ?_ ?_ ?_
    ·have:s3.nx=s2.nx + all.length:=g10
     omega
    ·intro id hid
     rcases hD'.dom id hid with h' | ⟨k,_,hk,e⟩
     ·rcases hdom2 id h' with h' | h' | h'
      ·rcases hD.dom id h' with h' | ⟨k,_,_,e⟩
       ·exact .inl h'
       ·right; omega
      ·right; omega
      ·right; omega
     ·right; omega
    ·have:=rel_told hD'.rel (fr':=s3.fr) (hp':=s3.hp) (fun t=>by rw [v1 t,Nat.max_eq_left (by omega),g7]) (fun id=>by rw [v2 id,Nat.max_eq_left (by omega),g8]) (D':=fun id=>id < s3.nx) (fun id hid=>by
      have e10:s3.nx=s2.nx + all.length:=g10
      rcases hD'.dom id hid with h' | ⟨k,_,hk,e⟩
      ·have:=hrel2.dom id h'; omega
      ·omega)
     have e9:s3.n=s2.n:=g9
     unfold RelS
     rw [e9]; exact this
   ·refine { le:=Env.le.refl E2,rel:=hrel2.names fun _ _=>trivial,dom:=fun id hid=>.inl hid,cl:=?_,reg:=?_,reg0:=?_,heap:=?_,heap0:=?_ }
    ·intro k x hk hx e hee hb
     have hk':=(hset k).1 hk
     rw [hset]
     have:=(edgesOk_spec he hx).1 e hee hb
     omega
    ·intro k x t hk hx hdx
     have hk':=(hset k).1 hk
     rw [Nat.max_eq_right (by omega),g1]
    ·intro t _
     rw [Nat.max_eq_right (by omega),g1]
    ·intro k id hk _ hkw
     have hk':=(hset k).1 hk
     simp only [if_neg (show ¬ i < k by omega)] at hkw
     simp at hkw
    ·intro id _
     rw [Nat.max_eq_right (by omega),g2]
  ·intro E' fr hp a' w' hJ _
   have:=hJ c hcl
   omega
  ·have:((List.range all.length).filter fun i=>!(Array.replicate all.toArray.size false).getD i false)=List.range all.length:=by
    rw [List.filter_eq_self]
    intro i _
    rw [hlist]; rfl
   rw [this]; simp
  ·exact { le:=Env.le.refl E,rel:=hr.names fun _ _=>trivial,dom:=fun id hid=>.inl hid,cl:=fun i o hi=>absurd hi (hS0 i),reg:=fun i o t hi=>absurd hi (hS0 i),reg0:=fun t _=>by rw [Nat.min_eq_left (Nat.zero_le _),f1],heap:=fun i id hi=>absurd hi (hS0 i),heap0:=fun id _=>by rw [Nat.min_eq_left (Nat.zero_le _),f2] }
 ·exact h.elim
end
end Go.Vai

/- A region that draws, with a call that some looks do not wait for: they come to the same ahead of it and behind it. -/
namespace Go.Vai
open Go.RowKit
section
variable {X : Ctx} {callF : CallF} {all : List Oper}
theorem aop_me {T:TEnv} {o:Op} (h:isRd o=true) {ρ:Operand→AV} {H:Nat→Option Blk} {K:AV→Upd→List Nat→Prop} (me me':Nat) (k:aop T o ρ H me K):aop T o ρ H me' K:=by
 unfold isRd at h
 split at h
 ·exact k
 ·exact k
 ·cases h
theorem looks_op {o:Oper} {t:Nat} (h:Operand.tmp t∈o.op.operands):t∈o.looksAt all.toArray:=by
 unfold Oper.looksAt
 refine List.mem_append_left _ (List.mem_filterMap.2 ⟨.tmp t,by simpa using h,rfl⟩)
theorem runs_at {o:Oper} {ρ ρ':Operand→AV} {H:Nat→Option Blk} {me:Nat} {r:AV} {upd:Upd} {acc:List Nat} (h:Runs X o ρ H me r upd acc) (e:∀ x∈o.op.operands,ρ' x=ρ x):Runs X o ρ' H me r upd acc:=
 fun w0 K0 D E n fr hp a w hr hx=>h w0 K0 D E n fr hp a w hr (fun x hx'=>(hx x hx').trans (e x hx'))
theorem preL_trace (hX:X.core) {base:Nat}:∀ (l:List Oper) (k:Nat) (s:St) (K:St→Prop),preL X l s K→(∀ (j:Nat) (o:Oper),l[j]? = some o→all[k + j]? = some o) →
  ∃ (F:Nat→Nat→AV) (acc:Nat→List Nat) (s':St),F k=lkp s.fr∧(∀ i,k≤i→i < k + l.length→StepIs X all base s.n i (F i) (F (i + 1)) (hlk s.hp) (hlk s.hp) (acc i) []) ∧
   K s'∧F (k + l.length)=lkp s'.fr∧s'.hp=s.hp∧s'.n=s.n∧s'.nx=s.nx∧(∀ (j:Nat) (o:Oper),l[j]? = some o→isRd o.op=true∧o.guard=none∧o.dst.isSome=true)
 | [],k,s,K,h,hl=>⟨fun _=>lkp s.fr,fun _=>[],s,rfl,fun i h1 h2=>by simp at h2; omega,h,rfl,rfl,rfl,rfl,fun j o ho=>by simp at ho⟩
 | o :: r,k,s,K,h,hl=>by
  have ho:all[k]? = some o:=by have:=hl 0 o rfl; simpa using this
  have hl':∀ j o',r[j]? = some o'→all[k + 1 + j]? = some o':=fun j o' h=>by have:=hl (j + 1) o' (by simpa using h); simpa [Nat.add_assoc,Nat.add_comm 1 j] using this
  obtain ⟨h1,h2,h3,h4⟩:=h
  obtain ⟨d,hd⟩:=Option.isSome_iff_exists.1 h3
  have hg:o.guard=none:=by simpa using h2
  have hevo:evo s.fr=evoF (lkp s.fr):=by funext x; rw [← evoF_lkp]
  rw [hevo] at h4
  obtain ⟨x,upd,ac,⟨rfl,hp⟩,hruns⟩:=runs_aop hX (aop_me h1 0 (base + k) h4)
  rw [hd] at hp
  obtain ⟨hdn,hp⟩:=hp
  obtain ⟨F,acc,s',f1,f2,f3,f4,f5,f6,f7,f8⟩:=preL_trace hX r (k + 1) _ K hp hl'
  have hlen:k + (o :: r).length=k + 1 + r.length:=by simp; omega
  refine ⟨fun i=>if i=k then lkp s.fr else F i,fun i=>if i=k then ac else acc i,s',by simp,fun i i1 i2=>?_,f3,?_,f5,f6,f7,fun j o' hj=>?_⟩
  ·by_cases e:i=k
   ·subst e
    simp only [if_true,if_neg (show ¬ i + 1=i by omega)]
    refine ⟨fun _ _ _ _=>rfl,o,true,x,[],ho,by unfold GuardIs; rw [hg],fun d' hd'=>by rw [hd] at hd'; cases hd'; exact hdn,fun t=>?_,fun id=>rfl,rfl,by simp,.inr ⟨rfl,hruns ac fun _ h=>h⟩⟩
    rw [f1,hd]
    simp only [lkp_cons,Option.some.injEq]
    by_cases e:t=d
    ·rw [if_pos e,if_pos e.symm]
    ·rw [if_neg e,if_neg (Ne.symm e)]
   ·simp only [if_neg e,if_neg (show ¬ i + 1=k by omega)]
    exact f2 i (by omega) (by omega)
  ·simp only [if_neg (show ¬ k + (o :: r).length=k by simp)]
   rw [hlen]; exact f4
  ·cases j with
   | zero=>cases hj; exact ⟨h1,hg,h3⟩
   | succ j=>exact f8 j o' hj
theorem lateL_runs (hX:X.core):∀ (l:List Oper) (s:St),lateL X l s→(∀ (j:Nat) (o:Oper),l[j]? = some o→isRd o.op=true)→∀ (j:Nat) (o:Oper),l[j]? = some o→∀ me:Nat,∃ ac,Runs X o (evo s.fr) (hlk s.hp) me (dstV s.fr o.dst) [] ac
 | [],s,_,_,j,o,hj,_=>by simp at hj
 | x :: r,s,h,hr,j,o,hj,me=>by
  cases j with
  | zero=>
   cases hj
   obtain ⟨v,upd,ac,⟨rfl,rfl⟩,hruns⟩:=runs_aop hX (aop_me (hr 0 x rfl) 0 me h.1)
   exact ⟨ac,hruns ac fun _ h=>h⟩
  | succ j=>exact lateL_runs hX r s h.2 (fun j o hj=>hr (j + 1) o hj) j o hj me
theorem lateOk_spec {c:Nat} (h:lateOk all c=true):(∀ (k j:Nat) (x y:Oper) (d:Nat),k < c→j < c→k≤j→all[k]? = some x→all[j]? = some y→y.dst=some d→d ∉ x.looksAt all.toArray)∧(∀ i j,c < i→i < all.length→j≤c→anc all all.length i j=true):=by
 unfold lateOk at h
 simp only [Bool.and_eq_true,List.all_eq_true,Bool.or_eq_true,decide_eq_true_eq,List.mem_range] at h
 refine ⟨fun k j x y d hk hj hkj hx hy hd hm=>?_,fun i j hi hil hj=>?_⟩
 ·have:=(h.1 k hk j hj).resolve_left (by omega)
  rw [hx,hy] at this
  dsimp only at this
  rw [hd] at this
  simp at this
  exact this (by simpa using hm)
 ·exact (h.2 i hil).resolve_left (by omega) j (by omega)
theorem opsL_sound (hX:X.core) (hF:CallSound X callF) (hd:dataOk all=true) (he:edgesOk all=true) {base:Nat} {c:Nat} {s:St} {K:St→Prop} (h:opsL X callF all c s K) {w0:World} {K0:Nat→Option Obj} {E:Env} {a:Act} {w:World}
  (hr:RelS w0 K0 E s a w) (hE:∀ id,E.dom id→id < base) (hb:base + all.length≤s.nx) {Q:Exit→Act→World→Prop}
  (hn:∀ s' a' w' E',K s'→E.le E'→s.nx≤s'.nx→(∀ id,E'.dom id→E.dom id∨base≤id)→RelS w0 K0 E' s' a' w'→Q .normal a' w') :
  wpAnyIn (FW X.rd) 0 X.P .any all.toArray Q all.toArray.size (Array.replicate all.toArray.size false) a w:=by
 classical
 unfold opsL at h
 split at h
 ·rename_i o ho
  obtain ⟨hg,hlo,h⟩:=h
  have hcl:c < all.length:=(List.getElem?_eq_some_iff.1 ho).1
  obtain ⟨hfresh,hpb⟩:=lateOk_spec hlo
  have htake:∀ (j:Nat) (o':Oper),(all.take c)[j]? = some o'→all[0 + j]? = some o':=fun j o' ho'=>by
   rw [Nat.zero_add]
   rw [List.getElem?_take] at ho'
   split at ho'
   ·exact ho'
   ·cases ho'
  obtain ⟨F,acc,s1,f1,f2,f3,f4,f5,f6,f7,f8⟩:=preL_trace (all:=all) (base:=base) hX (all.take c) 0 s _ h htake
  have hlen:(all.take c).length=c:=by simp; omega
  rw [Nat.zero_add,hlen] at f2 f4
  have htk:∀ j,j < c→(all.take c)[j]? = all[j]?:=fun j hj=>by rw [List.getElem?_take,if_pos hj]
  -- registers are written once
  have once:∀ (i j:Nat) (x y:Oper) (t:Nat),all[i]? = some x→all[j]? = some y→x.dst=some t→y.dst=some t→i=j:=by
   intro i j x y t hx hy hdx hdy
   rcases Nat.lt_trichotomy i j with hlt | e | hlt
   ·exact absurd hdy ((dataOk_spec hd hlt hx hy).1 t hdx)
   ·exact e
   ·exact absurd hdx ((dataOk_spec hd hlt hy hx).1 t hdy)
  have hs1:∀ i,i < all.length→StepOr X all base s.n i (F (min i c)) (F (min (i + 1) c)) (hlk s.hp) (hlk s.hp) (if i < c then acc i else []) [] (c≤i):=by
   intro i hi
   by_cases hic:i < c
   ·rw [Nat.min_eq_left (by omega),Nat.min_eq_left (by omega),if_pos hic]
    exact .inl (f2 i (Nat.zero_le _) hic)
   ·rw [Nat.min_eq_right (by omega),Nat.min_eq_right (by omega)]
    exact .inr ⟨by omega,rfl,rfl,rfl⟩
  have hlist:∀ i,(Array.replicate all.toArray.size false).getD i false=false:=by
   intro i
   rw [Array.getD_eq_getD_getElem?,Array.getElem?_replicate]
   split <;> rfl
  have hS0:∀ i,¬ ((Array.replicate all.toArray.size false).getD i false=true):=fun i=>by rw [hlist]; simp
  refine any_sound (F:=fun i=>F (min i c)) (G:=fun _=>hlk s.hp) (acc:=fun i=>if i < c then acc i else []) (wr:=fun _=>[]) (n:=s.n) (base:=base) (w0:=w0) (K0:=K0) (E0:=E)
   (sk:=fun i=>c≤i) (J:=fun S=>∀ i,S i→i < c) hd he hs1 (fun S i hJ hi k hk=>hk.elim (fun hk=>hJ k hk) (fun e=>e ▸ Nat.lt_of_not_le hi)) ?_ hE ?_ ?_ _ _ E s.fr s.hp a w (by simp) (fun i hi=>absurd hi (hS0 i)) ?_ ?_
  ·intro i j hj hi hm
   rcases hm with hm | hm <;> simp [meets] at hm
  ·-- the call
   intro fuel listed E1 fr1 hp1' a1 w1 i o' hsz hJ hcnt hD hsk ho' hf hpre
   have hanc:∀ k,anc all all.length i k=true→listed.getD k false=true:=fun k hk=>anc_listed hD.cl _ i k hk fun o2 ho2=>by rw [ho'] at ho2; cases ho2; exact hpre
   have hil:i < all.length:=(List.getElem?_eq_some_iff.1 ho').1
   have hic:i=c:=by
    rcases Nat.lt_trichotomy i c with hlt | e | hlt
    ·omega
    ·exact e
    ·have:=hJ c (hanc c (hpb i c hlt hil (Nat.le_refl _))); omega
   subst hic
   rw [ho] at ho'; cases ho'
   -- where nothing is still to be written,all is as ahead of the call
   have hFr:∀ t,(∀ (j:Nat) (y:Oper),j < i→listed.getD j false=false→all[j]? = some y→y.dst≠some t)→lkp fr1 t=lkp s1.fr t:=by
    intro t hno
    rw [← f4]
    by_cases hw:∃ (k:Nat) (x:Oper),all[k]? = some x∧x.dst=some t∧k < i
    ·obtain ⟨k,x,hx,hdx,hki⟩:=hw
     have hSk:listed.getD k false=true:=by
      cases q:listed.getD k false with
      | true=>rfl
      | false=>exact absurd hdx (hno k x hki q hx)
     rw [hD.reg k x t hSk hx hdx]
     have:=regs_stay (F:=fun i'=>F (min i' i)) hs1 t (i - (k + 1)) (k + 1) (by omega) fun q h1 h2 y hy hdy=>by
      have:=once q k y x t hy hx hdy hdx; omega
     rw [show k + 1 + (i - (k + 1))=i by omega,Nat.min_self] at this
     exact this.symm
    ·have hno2:∀ (q:Nat) (y:Oper),q < i→all[q]? = some y→y.dst≠some t:=fun q y hq hy hdy=>hw ⟨q,y,hy,hdy,hq⟩
     rw [hD.reg0 t fun q y hSq hy=>hno2 q y (hJ q hSq) hy]
     have:=regs_stay (F:=fun i'=>F (min i' i)) hs1 t i 0 (by omega) fun q _ h2 y hy=>hno2 q y (by omega) hy
     rw [Nat.zero_add,Nat.min_self] at this
     exact this.symm
   have hH:∀ id,hlk hp1' id=hlk s1.hp id:=fun id=>by
    rw [f5]
    exact hD.heap0 id fun _ _ _=>by simp
   have hundone:∀ t,t∈o.looksAt all.toArray→lkp fr1 t=lkp s1.fr t:=fun t ht=>hFr t fun j y hj hlj hy hdy=>by
    have:=hanc j ((dataOk_spec hd hj hy ho).2.1 t hdy ht)
    rw [hlj] at this; cases this
   have hevo:∀ x,x∈o.op.operands→evo fr1 x=evo s1.fr x:=by
    intro x hx
    cases x with
    | tmp t=>exact hundone t (looks_op hx)
    | _=>rfl
   have hrel1:Rel w0 K0 (fun id=>id < s1.nx) E1 s1.n fr1 s1.hp a1 w1:=by
    have:=rel_told hD.rel (fr':=fr1) (hp':=s1.hp) (fun t=>rfl) hH (D':=fun id=>id < s1.nx) (fun id hid=>by
     rw [f7]
     rcases hD.dom id hid with h' | ⟨k,_,hk,e⟩
     ·exact hr.dom id h'
     ·omega)
    rw [f6]; exact this
   have hgn:o.guard=none:=by simpa using hg
   unfold wpOpIn
   rw [show all.toArray[i]? = some o by simpa using ho]
   simp only [Region.wanted,hgn,if_true]
   unfold callL at f3
   split at f3
   ·rename_i f args ts hop
    have hofa:∀ x,x=f∨x∈args→x∈o.op.operands:=by
     intro x hxx
     rw [hop]
     simp only [Op.operands,Call.operands,Array.mem_append]
     rcases hxx with rfl | h
     ·exact .inl (by simp)
     ·exact .inr h
    split at f3
    ·rename_i g first cap hfv
     have hfc:=hrel1.ev f
     rw [hevo f (hofa f (.inl rfl)),hfv] at hfc
     obtain ⟨xs,ys,hv,hac⟩:=args_con (E:=E1) (fr:=fr1) (a:=a1) (args:=args) hfc (fun x _=>hrel1.ev x)
     have hmap:args.toList.map (evo fr1)=args.toList.map (evo s1.fr):=List.map_congr_left fun x hxa=>hevo x (hofa x (.inr (by simpa using hxa)))
     rw [hmap] at hac
     obtain ⟨hen,hcall⟩:=hF g _ s1.hp s1.nx _ f3 w0 K0 E1 s1.n fr1 a1 w1 _ hrel1 hac
     refine wpIn_of (by rw [hop]; intro c hc; cases hc) ?_
     rw [run_callValue hen hop hv,Oper.uponIn_enter]
     refine ⟨(fun h=>by cases h),callsIn_FW.2 (hcall.mono ?_)⟩
     rintro e w' ⟨v,r,hp2,nx2,E2,rfl,hk,hext,hc,hrel⟩
     -- the state behind the call,and where it stands in fact
     obtain ⟨s2,fr2,hk2,hs2n,hs2h,hs2x,hfr2,hpn,hrel2⟩:∃ (s2:St) (fr2:Frm),(lateL X (all.take i) s2∧opsD X all (all.drop (i + 1)) (i + 1) s2.nx ⟨s2.n,s2.fr,s2.hp,s2.nx + all.length⟩ [] K)∧s2.n=s1.n∧s2.hp=hp2∧s2.nx=nx2 ∧
       (∀ t,(o.dst=some t→lkp fr2 t=lkp s2.fr t)∧(o.dst≠some t→lkp fr2 t=lkp fr1 t∧lkp s2.fr t=lkp s1.fr t))∧True∧Rel w0 K0 (fun id=>id < nx2) E2 s1.n fr2 hp2 (a1.put o.dst v) w':=by
      cases hdst:o.dst with
      | none=>
       rw [hdst] at hk
       refine ⟨_,fr1,hk,rfl,rfl,rfl,fun t=>⟨fun q=>(by cases q),fun _=>⟨rfl,rfl⟩⟩,trivial,hrel.skip⟩
      | some d=>
       rw [hdst] at hk
       refine ⟨_,(d,r) :: fr1,hk.2,rfl,rfl,rfl,fun t=>⟨fun q=>?_,fun q=>?_⟩,trivial,hrel.put hk.1 hc⟩
       ·cases q; simp [lkp_cons]
       ·have:t≠d:=fun e=>q (by rw [e])
        simp only [lkp_cons,if_neg this]
        exact ⟨trivial,trivial⟩
     obtain ⟨hlate,h2⟩:=hk2
     -- the last part
     obtain ⟨F2,G2,acc2,wr2,s3,g1,g2,g3,g4,g5,g6,g7,g8,g9,g10⟩:=opsD_trace hX all (all.drop (i + 1)) (i + 1) _ [] h2 (fun j o ho=>by rw [List.getElem?_drop] at ho; exact ho)
     have hlen2:i + 1 + (all.drop (i + 1)).length=all.length:=by simp; omega
     rw [hlen2] at g3 g5 g7 g8
     have hruns:=lateL_runs hX (all.take i) s2 hlate (fun j o' hj=>(f8 j o' hj).1)
     have hset:∀ k,(listed.setIfInBounds i true).getD k false=true ↔ (listed.getD k false=true∨k=i):=by
      intro k
      have hlt:i < listed.size:=by omega
      by_cases e:k=i
      ·subst e
       rw [Array.getD_eq_getD_getElem?,Array.getElem?_setIfInBounds_self_of_lt hlt]
       simp
      ·rw [getD_set_ne false (Ne.symm e)]
       simp [e]
     -- what is still to be done of the looks
     let U:Nat→Prop:=fun k=>k < i∧listed.getD k false=false
     let W:Nat→Nat→Prop:=fun k t=>∃ j,k≤j∧U j∧∃ y,all[j]? = some y∧y.dst=some t
     let F3:Nat→Nat→AV:=fun k t=>if k≤i then (if W k t then lkp fr2 t else lkp s2.fr t) else F2 k t
     let G3:Nat→Nat→Option Blk:=fun k=>if k≤i then hlk s2.hp else G2 k
     have F3i:∀ t,F3 i t=lkp s2.fr t:=by
      intro t
      show (if i≤i then _ else _)=_
      rw [if_pos (Nat.le_refl _),if_neg]
      rintro ⟨j,hj,hu,_⟩
      have:=hu.1; omega
     have hnod:∀ t y,(∃ j,U j∧all[j]? = some y∧y.dst=some t)→o.dst≠some t:=by
      rintro t y ⟨j,hu,hy,hdy⟩ hdo
      have:=once j i y o t hy ho hdy hdo
      have:=hu.1; omega
     have hsame:∀ t,¬ W 0 t→lkp fr2 t=lkp s2.fr t:=by
      intro t hw
      by_cases hdo:o.dst=some t
      ·exact (hfr2 t).1 hdo
      ·obtain ⟨q1,q2⟩:=(hfr2 t).2 hdo
       rw [q1,q2]
       exact hFr t fun j y hj hlj hy hdy=>hw ⟨j,Nat.zero_le _,⟨hj,hlj⟩,y,hy,hdy⟩
     have accU:∀ k,∃ ac:List Nat,U k→∀ y,all[k]? = some y→Runs X y (evo s2.fr) (hlk s2.hp) (s2.nx + k) (dstV s2.fr y.dst) [] ac:=by
      intro k
      by_cases hu:U k
      ·have hkl:k < all.length:=by have:=hu.1; omega
       obtain ⟨ac,hac⟩:=hruns k all[k] (by rw [htk k hu.1]; simp [hkl]) (s2.nx + k)
       exact ⟨ac,fun _ y hy=>by rw [List.getElem?_eq_getElem hkl] at hy; cases hy; exact hac⟩
      ·exact ⟨[],fun h=>absurd h hu⟩
     let accL:Nat→List Nat:=fun k=>Classical.choose (accU k)
     have hs2:∀ k,k < all.length→StepOr X all s2.nx s2.n k (F3 k) (F3 (k + 1)) (G3 k) (G3 (k + 1)) (if i < k then acc2 k else accL k) (if i < k then wr2 k else []) (k≤i∧¬ U k):=by
      intro k hk
      rcases Nat.lt_trichotomy k i with hki | hki | hki
      ·-- a look
       have eG:G3 (k + 1)=G3 k:=by
        show (if k + 1≤i then _ else _)=(if k≤i then _ else _)
        rw [if_pos (by omega),if_pos (by omega)]
       by_cases hu:U k
       ·left
        have hy:all[k]? = some all[k]:=List.getElem?_eq_getElem hk
        obtain ⟨r1,r2,r3⟩:=f8 k all[k] (by rw [htk k hki]; exact hy)
        obtain ⟨d,hdk⟩:=Option.isSome_iff_exists.1 r3
        rw [if_neg (by omega),if_neg (by omega)]
        refine ⟨fun _ _ _ _=>rfl,all[k],true,dstV s2.fr all[k].dst,[],hy,by unfold GuardIs; rw [r2],fun d' hd'=>?_,fun t=>?_,fun id=>by rw [eG]; rfl,rfl,by simp,.inr ⟨rfl,?_⟩⟩
        ·rw [hs2n,f6]
         obtain ⟨o3,go3,r3',upd3,q1,q2,q3,_⟩:=(f2 k (Nat.zero_le _) hki).h
         rw [hy] at q1; cases q1
         exact q3 d' hd'
        ·show (if k + 1≤i then _ else _)=if _ then _ else (if k≤i then _ else _)
         rw [if_pos (by omega),if_pos (show k≤i by omega)]
         by_cases e:all[k].dst=some t
         ·rw [if_pos e,if_neg]
          ·rw [e]; rfl
          ·rintro ⟨j,hj,hju,y,hyj,hdy⟩
           have:=once k j _ y t hy hyj e hdy
           omega
         ·rw [if_neg e]
          by_cases hw:W k t
          ·rw [if_pos hw,if_pos]
           obtain ⟨j,hj,hju,y,hyj,hdy⟩:=hw
           refine ⟨j,?_,hju,y,hyj,hdy⟩
           have:j≠k:=fun e'=>e (by subst e'; rw [hy] at hyj; cases hyj; exact hdy)
           omega
          ·rw [if_neg hw,if_neg]
           rintro ⟨j,hj,q⟩
           exact hw ⟨j,by omega,q⟩
        ·have hr3:=Classical.choose_spec (accU k) hu all[k] hy
         have eG2:G3 k=hlk s2.hp:=if_pos (by omega)
         rw [eG2]
         refine runs_at hr3 fun x hx=>?_
         cases x with
         | tmp t=>
          show F3 k t=lkp s2.fr t
          show (if k≤i then _ else _)=_
          rw [if_pos (by omega),if_neg]
          rintro ⟨j,hj,hju,y,hyj,hdy⟩
          exact hfresh k j _ y t hki hju.1 hj hy hyj hdy (looks_op hx)
         | _=>rfl
       ·right
        refine ⟨⟨by omega,hu⟩,?_,eG,if_neg (by omega)⟩
        funext t
        show (if k + 1≤i then _ else _)=(if k≤i then _ else _)
        rw [if_pos (by omega),if_pos (show k≤i by omega)]
        by_cases hw:W k t
        ·rw [if_pos hw,if_pos]
         obtain ⟨j,hj,hju,q⟩:=hw
         refine ⟨j,?_,hju,q⟩
         have:j≠k:=fun e'=>hu (e' ▸ hju)
         omega
        ·rw [if_neg hw,if_neg]
         rintro ⟨j,hj,q⟩
         exact hw ⟨j,by omega,q⟩
      ·subst hki
       right
       refine ⟨⟨Nat.le_refl _,fun hu=>by have:=hu.1; omega⟩,?_,?_,if_neg (by omega)⟩
       ·funext t
        rw [F3i t]
        show (if k + 1≤k then _ else _)=_
        rw [if_neg (by omega),g1]
       ·show (if k + 1≤k then _ else _)=(if k≤k then _ else _)
        rw [if_neg (by omega),if_pos (Nat.le_refl _),g2]
      ·left
       have:=g3 k (by omega) hk
       rw [if_pos hki,if_pos hki]
       have e1:F3 k=F2 k:=by funext t; exact if_neg (by omega)
       have e2:F3 (k + 1)=F2 (k + 1):=by funext t; exact if_neg (by omega)
       have e3:G3 k=G2 k:=if_neg (by omega)
       have e4:G3 (k + 1)=G2 (k + 1):=if_neg (by omega)
       rw [e1,e2,e3,e4]
       exact this
     refine any_sound (F:=F3) (G:=G3) (acc:=fun k=>if i < k then acc2 k else accL k) (wr:=fun k=>if i < k then wr2 k else []) (n:=s2.n) (base:=s2.nx) (w0:=w0) (K0:=K0) (E0:=E2)
      (sk:=fun k=>k≤i∧¬ U k) (J:=fun S=>∀ k,(k≤i∧¬ U k)→S k) hd he hs2 (fun S k hJ _ q hq=>.inl (hJ q hq)) ?_ (fun id hid=>by rw [hs2x]; exact hrel2.dom id hid) ?_ ?_ fuel _ E2 fr2 hp2 (a1.put o.dst v) w' (by simp [hsz]) (fun k hk=>(hset k).2 ?_) hcnt ?_
     ·intro k j hj hk hm
      by_cases hik:i < k
      ·by_cases hij:i < j
       ·simp only [if_pos hik,if_pos hij] at hm
        exact g5 k j (by omega) hj hk hm
       ·exact hpb k j hik hk (by omega)
      ·simp only [if_neg hik,if_neg (show ¬ i < j by omega)] at hm
       rcases hm with hm | hm <;> simp [meets] at hm
     ·intro fuel' listed' E' fr' hp' a' w' k o' _ hJ' _ _ hk _ hf' _
      have:=hJ' k hk
      rw [this] at hf'; cases hf'
     ·intro E' fr' hp' a' w' _ hD'
      obtain ⟨v1,v2⟩:=hD'.upto hd hs2 (m:=all.length) (Nat.le_refl _) (fun _=>Iff.rfl)
      have eF:F3 all.length=F2 all.length:=by funext t; exact if_neg (by omega)
      have eG:G3 all.length=G2 all.length:=if_neg (by omega)
      refine hn s3 a' w' E' g6 (hD.le.trans (hext.le.trans hD'.le)) ?_ ?_ ?_
      ·have h10:s3.nx=s2.nx + all.length:=g10
       have:=hext.up
       omega
      ·intro id hid
       rcases hD'.dom id hid with h' | ⟨k,_,hk,e⟩
       ·rcases hext.dom id h' with h' | h'
        ·rcases hD.dom id h' with h' | ⟨k,_,_,e⟩
         ·exact .inl h'
         ·right; omega
        ·right; have:=h'.1; omega
       ·right
        have:=hext.up
        omega
      ·have:=rel_told hD'.rel (fr':=s3.fr) (hp':=s3.hp) (fun t=>by rw [v1 t,eF,g7]) (fun id=>by rw [v2 id,eG,g8]) (D':=fun id=>id < s3.nx) (fun id hid=>by
        have e10:s3.nx=s2.nx + all.length:=g10
        rcases hD'.dom id hid with h' | ⟨k,_,hk,e⟩
        ·have:=hrel2.dom id h'; omega
        ·omega)
       have e9:s3.n=s2.n:=g9
       unfold RelS
       rw [e9]; exact this
     ·rcases Nat.lt_or_eq_of_le hk.1 with h' | h'
      ·left
       cases q:listed.getD k false with
       | true=>rfl
       | false=>exact absurd ⟨h',q⟩ hk.2
      ·exact .inr h'
     ·refine { le:=Env.le.refl E2,rel:=(by rw [hs2n]; exact hrel2.names fun _ _=>trivial),dom:=fun id hid=>.inl hid,cl:=?_,reg:=?_,reg0:=?_,heap:=?_,heap0:=?_ }
      ·intro k x hk hx e hee hb
       rw [hset]
       rcases (hset k).1 hk with h' | h'
       ·exact .inl (hD.cl k x h' hx e hee hb)
       ·subst h'
        rw [ho] at hx; cases hx
        exact .inl (hpre e hee hb)
      ·intro k x t hk hx hdx
       have hw0:¬ W 0 t:=by
        rintro ⟨j,_,hju,y,hyj,hdy⟩
        have e:=once k j x y t hx hyj hdx hdy
        subst e
        rcases (hset k).1 hk with h' | h'
        ·rw [hju.2] at h'; cases h'
        ·have:=hju.1; omega
       have hki:k≤i:=by
        rcases (hset k).1 hk with h' | h'
        ·exact Nat.le_of_lt (hJ k h')
        ·omega
       rw [hsame t hw0]
       by_cases e:k=i
       ·subst e
        show _=(if k + 1≤k then _ else _)
        rw [if_neg (by omega),g1]
       ·show _=(if k + 1≤i then _ else _)
        rw [if_pos (by omega),if_neg]
        rintro ⟨j,hj,q⟩
        exact hw0 ⟨j,Nat.zero_le _,q⟩
      ·intro t _
       show _=(if 0≤i then _ else _)
       rw [if_pos (Nat.zero_le _)]
       by_cases hw:W 0 t
       ·rw [if_pos hw]
       ·rw [if_neg hw]; exact hsame t hw
      ·intro k id hk _ hkw
       have hki:k≤i:=by
        rcases (hset k).1 hk with h' | h'
        ·exact Nat.le_of_lt (hJ k h')
        ·omega
       simp only [if_neg (show ¬ i < k by omega)] at hkw
       simp at hkw
      ·intro id _
       have e:G3 0=hlk s2.hp:=if_pos (Nat.zero_le _)
       rw [e,hs2h]
    ·exact f3.elim
   ·exact f3.elim
  ·intro E' fr hp a' w' hJ _
   have:=hJ c hcl
   omega
  ·have:((List.range all.length).filter fun i=>!(Array.replicate all.toArray.size false).getD i false)=List.range all.length:=by
    rw [List.filter_eq_self]
    intro i _
    rw [hlist]; rfl
   rw [this]; simp
  ·exact { le:=Env.le.refl E,rel:=hr.names fun _ _=>trivial,dom:=fun id hid=>.inl hid,cl:=fun i o hi=>absurd hi (hS0 i),reg:=fun i o t hi=>absurd hi (hS0 i),reg0:=fun t _=>by rw [Nat.min_eq_left (Nat.zero_le _),f1],heap:=fun i id hi=>absurd hi (hS0 i),heap0:=fun id _=>rfl }
 ·exact h.elim
end
end Go.Vai

/- A region that draws, with a call that some moves do not wait for: they come to the same ahead of it and behind it. -/
namespace Go.Vai
open Go.RowKit
section
variable {X : Ctx} {callF : CallF} {all : List Oper}
theorem isMv_spec {op:Op} (h:isMv op=true):∃ y,op=.move y:=by
 unfold isMv at h
 split at h
 ·exact ⟨_,rfl⟩
 ·cases h
theorem mixOk_spec {c:Nat} (h:mixOk all c=true) :
  (∀ k,k < c→k < all.length→anc all all.length c k=true∨∃ x,all[k]? = some x∧(∃ y,x.op=.move y)∧x.guard=none∧x.dst.isSome=true) ∧
  (∀ i,c < i→i < all.length→anc all all.length i c=true) ∧
  (∀ (k j:Nat) (x y:Oper) (d:Nat),k < c→j < c→k≤j→anc all all.length c k=false→anc all all.length c j=false→all[k]? = some x→all[j]? = some y→y.dst=some d→d ∉ x.looksAt all.toArray):=by
 unfold mixOk at h
 rw [Bool.and_eq_true,List.all_eq_true,List.all_eq_true] at h
 refine ⟨fun k hk hl=>?_,fun i hi hl=>?_,fun k j x y d hk hj hkj ha hb hx hy hd hm=>?_⟩
 ·have:=h.1 k (List.mem_range.2 hl)
  simp only [Bool.or_eq_true,Bool.and_eq_true,decide_eq_true_eq,beq_iff_eq] at this
  rcases this with (h' | h') | h'
  ·rcases h'.2 with q | q
   ·exact .inl q
   ·right
    split at q
    ·rename_i x hx
     simp only [Bool.and_eq_true] at q
     exact ⟨x,hx,isMv_spec q.1.1,by simpa using q.1.2,q.2⟩
    ·cases q
  ·omega
  ·omega
 ·have:=h.1 i (List.mem_range.2 hl)
  simp only [Bool.or_eq_true,Bool.and_eq_true,decide_eq_true_eq,beq_iff_eq] at this
  rcases this with (h' | h') | h'
  ·omega
  ·omega
  ·exact h'.2
 ·have:=List.all_eq_true.1 (h.2 k (List.mem_range.2 hk)) j (List.mem_range.2 hj)
  rw [ha,hb,hx,hy] at this
  dsimp only at this
  rw [hd] at this
  simp only [Bool.or_false,Bool.or_eq_true,decide_eq_true_eq,Bool.not_eq_true'] at this
  rcases this with q | q
  ·omega
  ·have:(x.looksAt all.toArray).contains d=true:=by simpa using hm
   rw [this] at q; cases q
theorem movesL_spec:∀ (l:List Oper) (s:St),movesL l s→∀ (j:Nat) (o:Oper) (x:Operand),l[j]? = some o→o.guard=none→o.op=.move x→dstV s.fr o.dst=evo s.fr x
 | [],s,_,j,o,x,hj,_,_=>by simp at hj
 | y :: r,s,h,j,o,x,hj,hg,hx=>by
  cases j with
  | zero=>
   cases hj
   have:=h.1
   unfold mvV at this
   rw [hg,hx] at this
   exact this
  | succ j=>exact movesL_spec r s h.2 j o x hj hg hx
theorem opsM_sound (hX:X.core) (hF:CallSound X callF) (hd:dataOk all=true) (he:edgesOk all=true) {base:Nat} {c:Nat} {s:St} {K:St→Prop} (h:opsM X callF all c base s K) {w0:World} {K0:Nat→Option Obj} {E:Env} {a:Act} {w:World}
  (hr:RelS w0 K0 E s a w) (hE:∀ id,E.dom id→id < base) (hb:base + all.length≤s.nx) {Q:Exit→Act→World→Prop}
  (hn:∀ s' a' w' E',K s'→E.le E'→s.nx≤s'.nx→(∀ id,E'.dom id→E.dom id∨base≤id)→RelS w0 K0 E' s' a' w'→Q .normal a' w') :
  wpAnyIn (FW X.rd) 0 X.P .any all.toArray Q all.toArray.size (Array.replicate all.toArray.size false) a w:=by
 classical
 unfold opsM at h
 split at h
 ·rename_i o ho
  obtain ⟨hg,hlo,h⟩:=h
  have hcl:c < all.length:=(List.getElem?_eq_some_iff.1 ho).1
  obtain ⟨hpa,hpb,hfresh⟩:=mixOk_spec hlo
  obtain ⟨F,G,acc,wr,s1,f1,f2h,f2,_,f5p,f3,f4,f5,f6,f7⟩:=opsD_trace hX all (all.take c) 0 s [] h (fun j o ho=>by
   rw [Nat.zero_add]
   rw [List.getElem?_take] at ho
   split at ho
   ·exact ho
   ·cases ho)
  have hlen:(all.take c).length=c:=by simp; omega
  rw [Nat.zero_add,hlen] at f2 f5p f4 f5
  have htk:∀ j,j < c→(all.take c)[j]? = all[j]?:=fun j hj=>by rw [List.getElem?_take,if_pos hj]
  -- registers are written once
  have once:∀ (i j:Nat) (x y:Oper) (t:Nat),all[i]? = some x→all[j]? = some y→x.dst=some t→y.dst=some t→i=j:=by
   intro i j x y t hx hy hdx hdy
   rcases Nat.lt_trichotomy i j with hlt | e | hlt
   ·exact absurd hdy ((dataOk_spec hd hlt hx hy).1 t hdx)
   ·exact e
   ·exact absurd hdx ((dataOk_spec hd hlt hy hx).1 t hdy)
  have hs1:∀ i,i < all.length→StepOr X all base s.n i (F (min i c)) (F (min (i + 1) c)) (G (min i c)) (G (min (i + 1) c)) (if i < c then acc i else []) (if i < c then wr i else []) (c≤i):=by
   intro i hi
   by_cases hic:i < c
   ·rw [Nat.min_eq_left (by omega),Nat.min_eq_left (by omega),if_pos hic,if_pos hic]
    exact .inl (f2 i (Nat.zero_le _) hic)
   ·rw [Nat.min_eq_right (by omega),Nat.min_eq_right (by omega)]
    exact .inr ⟨by omega,rfl,rfl,if_neg hic⟩
  have hlist:∀ i,(Array.replicate all.toArray.size false).getD i false=false:=by
   intro i
   rw [Array.getD_eq_getD_getElem?,Array.getElem?_replicate]
   split <;> rfl
  have hS0:∀ i,¬ ((Array.replicate all.toArray.size false).getD i false=true):=fun i=>by rw [hlist]; simp
  refine any_sound (F:=fun i=>F (min i c)) (G:=fun i=>G (min i c)) (acc:=fun i=>if i < c then acc i else []) (wr:=fun i=>if i < c then wr i else []) (n:=s.n) (base:=base) (w0:=w0) (K0:=K0) (E0:=E)
   (sk:=fun i=>c≤i) (J:=fun S=>∀ i,S i→i < c) hd he hs1 (fun S i hJ hi k hk=>hk.elim (fun hk=>hJ k hk) (fun e=>e ▸ Nat.lt_of_not_le hi)) ?_ hE ?_ ?_ _ _ E s.fr s.hp a w (by simp) (fun i hi=>absurd hi (hS0 i)) ?_ ?_
  ·intro i j hj hi hm
   by_cases hic:i < c
   ·simp only [if_pos hic,if_pos (show j < c by omega)] at hm
    exact f5p i j (Nat.zero_le _) hj hic hm
   ·simp only [if_neg hic] at hm
    rcases hm with hm | hm
    ·simp [meets] at hm
    ·simp [meets] at hm
  ·-- the call
   intro fuel listed E1 fr1 hp1' a1 w1 i o' hsz hJ hcnt hD hsk ho' hf hpre
   have hanc:∀ k,anc all all.length i k=true→listed.getD k false=true:=fun k hk=>anc_listed hD.cl _ i k hk fun o2 ho2=>by rw [ho'] at ho2; cases ho2; exact hpre
   have hil:i < all.length:=(List.getElem?_eq_some_iff.1 ho').1
   have hic:i=c:=by
    rcases Nat.lt_trichotomy i c with hlt | e | hlt
    ·omega
    ·exact e
    ·have:=hJ c (hanc c (hpb i hlt hil)); omega
   subst hic
   rw [ho] at ho'; cases ho'
   -- where nothing is still to be written,all is as ahead of the call
   have hFr:∀ t,(∀ (j:Nat) (y:Oper),j < i→listed.getD j false=false→all[j]? = some y→y.dst≠some t)→lkp fr1 t=lkp s1.fr t:=by
    intro t hno
    rw [← f4]
    by_cases hw:∃ (k:Nat) (x:Oper),all[k]? = some x∧x.dst=some t∧k < i
    ·obtain ⟨k,x,hx,hdx,hki⟩:=hw
     have hSk:listed.getD k false=true:=by
      cases q:listed.getD k false with
      | true=>rfl
      | false=>exact absurd hdx (hno k x hki q hx)
     rw [hD.reg k x t hSk hx hdx]
     have:=regs_stay (F:=fun i'=>F (min i' i)) hs1 t (i - (k + 1)) (k + 1) (by omega) fun q h1 h2 y hy hdy=>by
      have:=once q k y x t hy hx hdy hdx; omega
     rw [show k + 1 + (i - (k + 1))=i by omega,Nat.min_self] at this
     exact this.symm
    ·have hno2:∀ (q:Nat) (y:Oper),q < i→all[q]? = some y→y.dst≠some t:=fun q y hq hy hdy=>hw ⟨q,y,hy,hdy,hq⟩
     rw [hD.reg0 t fun q y hSq hy=>hno2 q y (hJ q hSq) hy]
     have:=regs_stay (F:=fun i'=>F (min i' i)) hs1 t i 0 (by omega) fun q _ h2 y hy=>hno2 q y (by omega) hy
     rw [Nat.zero_add,Nat.min_self] at this
     exact this.symm
   have hfree:∀ k,k < i→listed.getD k false=false→∃ x,all[k]? = some x∧(∃ y,x.op=.move y)∧x.guard=none∧x.dst.isSome=true∧anc all all.length i k=false:=by
    intro k hk hlk'
    rcases hpa k hk (by omega) with q | ⟨x,q1,q2,q3,q4⟩
    ·have:=hanc k q; rw [hlk'] at this; cases this
    ·refine ⟨x,q1,q2,q3,q4,?_⟩
     cases q:anc all all.length i k with
     | false=>rfl
     | true=>have:=hanc k q; rw [hlk'] at this; cases this
   have hwfree:∀ k,k < i→listed.getD k false=false→wr k=[]:=by
    intro k hk hlk'
    obtain ⟨x,q1,⟨y,q2⟩,_⟩:=hfree k hk hlk'
    exact (f2 k (Nat.zero_le _) hk).mv x y q1 q2
   have hH:∀ id,hlk hp1' id=hlk s1.hp id:=by
    intro id
    rw [← f5]
    rcases last_below (fun k=>id∈wr k) i with ⟨k,h1,h2,h3⟩ | hno
    ·have hSk:listed.getD k false=true:=by
      cases q:listed.getD k false with
      | true=>rfl
      | false=>rw [hwfree k h1 q] at h2; cases h2
     have e1:=hD.heap k id hSk (by omega) (by simp only [if_pos h1]; exact h2) fun j hj hjl hjw=>by
      have hji:=hJ j hj
      simp only [if_pos hji] at hjw
      exact h3 j hji hjw
     rw [e1]
     have:=heap_stay (G:=fun i'=>G (min i' i)) hs1 id (i - (k + 1)) (k + 1) (by omega) fun q h4 h5 hq=>by
      have hqi:q < i:=by omega
      simp only [if_pos hqi] at hq
      have:=h3 q hqi hq; omega
     rw [show k + 1 + (i - (k + 1))=i by omega,Nat.min_self] at this
     exact this.symm
    ·have e1:=hD.heap0 id fun j hj _=>by
      have hji:=hJ j hj
      simp only [if_pos hji]
      exact hno j hji
     rw [e1]
     have:=heap_stay (G:=fun i'=>G (min i' i)) hs1 id i 0 (by omega) fun q _ h5 hq=>by
      have hqi:q < i:=by omega
      simp only [if_pos hqi] at hq
      exact hno q hqi hq
     rw [Nat.zero_add,Nat.min_self] at this
     exact this.symm
   have hundone:∀ t,t∈o.looksAt all.toArray→lkp fr1 t=lkp s1.fr t:=fun t ht=>hFr t fun j y hj hlj hy hdy=>by
    have:=hanc j ((dataOk_spec hd hj hy ho).2.1 t hdy ht)
    rw [hlj] at this; cases this
   have hevo:∀ x,x∈o.op.operands→evo fr1 x=evo s1.fr x:=by
    intro x hx
    cases x with
    | tmp t=>exact hundone t (looks_op hx)
    | _=>rfl
   have hrel1:Rel w0 K0 (fun id=>id < s1.nx) E1 s1.n fr1 s1.hp a1 w1:=by
    have:=rel_told hD.rel (fr':=fr1) (hp':=s1.hp) (fun t=>rfl) hH (D':=fun id=>id < s1.nx) (fun id hid=>by
     rw [f7]
     rcases hD.dom id hid with h' | ⟨k,_,hk,e⟩
     ·exact hr.dom id h'
     ·omega)
    rw [f6]; exact this
   have hgn:o.guard=none:=by simpa using hg
   unfold wpOpIn
   rw [show all.toArray[i]? = some o by simpa using ho]
   simp only [Region.wanted,hgn,if_true]
   unfold callL at f3
   split at f3
   ·rename_i f args ts hop
    have hofa:∀ x,x=f∨x∈args→x∈o.op.operands:=by
     intro x hxx
     rw [hop]
     simp only [Op.operands,Call.operands,Array.mem_append]
     rcases hxx with rfl | h
     ·exact .inl (by simp)
     ·exact .inr h
    split at f3
    ·rename_i g first cap hfv
     have hfc:=hrel1.ev f
     rw [hevo f (hofa f (.inl rfl)),hfv] at hfc
     obtain ⟨xs,ys,hv,hac⟩:=args_con (E:=E1) (fr:=fr1) (a:=a1) (args:=args) hfc (fun x _=>hrel1.ev x)
     have hmap:args.toList.map (evo fr1)=args.toList.map (evo s1.fr):=List.map_congr_left fun x hxa=>hevo x (hofa x (.inr (by simpa using hxa)))
     rw [hmap] at hac
     obtain ⟨hen,hcall⟩:=hF g _ s1.hp s1.nx _ f3 w0 K0 E1 s1.n fr1 a1 w1 _ hrel1 hac
     refine wpIn_of (by rw [hop]; intro c hc; cases hc) ?_
     rw [run_callValue hen hop hv,Oper.uponIn_enter]
     refine ⟨(fun h=>by cases h),callsIn_FW.2 (hcall.mono ?_)⟩
     rintro e w' ⟨v,r,hp2,nx2,E2,rfl,hk,hext,hc,hrel⟩
     -- the state behind the call,and where it stands in fact
     obtain ⟨s2,fr2,hk2,hs2n,hs2h,hs2x,hfr2,hpn,hrel2⟩:∃ (s2:St) (fr2:Frm),(movesL (all.take i) s2∧opsD X all (all.drop (i + 1)) (i + 1) s2.nx ⟨s2.n,s2.fr,s2.hp,s2.nx + all.length⟩ [] K)∧s2.n=s1.n∧s2.hp=hp2∧s2.nx=nx2 ∧
       (∀ t,(o.dst=some t→lkp fr2 t=lkp s2.fr t)∧(o.dst≠some t→lkp fr2 t=lkp fr1 t∧lkp s2.fr t=lkp s1.fr t))∧True∧Rel w0 K0 (fun id=>id < nx2) E2 s1.n fr2 hp2 (a1.put o.dst v) w':=by
      cases hdst:o.dst with
      | none=>
       rw [hdst] at hk
       refine ⟨_,fr1,hk,rfl,rfl,rfl,fun t=>⟨fun q=>(by cases q),fun _=>⟨rfl,rfl⟩⟩,trivial,hrel.skip⟩
      | some d=>
       rw [hdst] at hk
       refine ⟨_,(d,r) :: fr1,hk.2,rfl,rfl,rfl,fun t=>⟨fun q=>?_,fun q=>?_⟩,trivial,hrel.put hk.1 hc⟩
       ·cases q; simp [lkp_cons]
       ·have:t≠d:=fun e=>q (by rw [e])
        simp only [lkp_cons,if_neg this]
        exact ⟨trivial,trivial⟩
     obtain ⟨hlate,h2⟩:=hk2
     -- the last part
     obtain ⟨F2,G2,acc2,wr2,s3,g1,g2,g3,g4,g5,g6,g7,g8,g9,g10⟩:=opsD_trace hX all (all.drop (i + 1)) (i + 1) _ [] h2 (fun j o ho=>by rw [List.getElem?_drop] at ho; exact ho)
     have hlen2:i + 1 + (all.drop (i + 1)).length=all.length:=by simp; omega
     rw [hlen2] at g3 g5 g7 g8
     have hmoves:=movesL_spec (all.take i) s2 hlate
     have hset:∀ k,(listed.setIfInBounds i true).getD k false=true ↔ (listed.getD k false=true∨k=i):=by
      intro k
      have hlt:i < listed.size:=by omega
      by_cases e:k=i
      ·subst e
       rw [Array.getD_eq_getD_getElem?,Array.getElem?_setIfInBounds_self_of_lt hlt]
       simp
      ·rw [getD_set_ne false (Ne.symm e)]
       simp [e]
     -- what is still to be done of the looks
     let U:Nat→Prop:=fun k=>k < i∧listed.getD k false=false
     let W:Nat→Nat→Prop:=fun k t=>∃ j,k≤j∧U j∧∃ y,all[j]? = some y∧y.dst=some t
     let F3:Nat→Nat→AV:=fun k t=>if k≤i then (if W k t then lkp fr2 t else lkp s2.fr t) else F2 k t
     let G3:Nat→Nat→Option Blk:=fun k=>if k≤i then hlk s2.hp else G2 k
     have F3i:∀ t,F3 i t=lkp s2.fr t:=by
      intro t
      show (if i≤i then _ else _)=_
      rw [if_pos (Nat.le_refl _),if_neg]
      rintro ⟨j,hj,hu,_⟩
      have:=hu.1; omega
     have hnod:∀ t y,(∃ j,U j∧all[j]? = some y∧y.dst=some t)→o.dst≠some t:=by
      rintro t y ⟨j,hu,hy,hdy⟩ hdo
      have:=once j i y o t hy ho hdy hdo
      have:=hu.1; omega
     have hsame:∀ t,¬ W 0 t→lkp fr2 t=lkp s2.fr t:=by
      intro t hw
      by_cases hdo:o.dst=some t
      ·exact (hfr2 t).1 hdo
      ·obtain ⟨q1,q2⟩:=(hfr2 t).2 hdo
       rw [q1,q2]
       exact hFr t fun j y hj hlj hy hdy=>hw ⟨j,Nat.zero_le _,⟨hj,hlj⟩,y,hy,hdy⟩
     have hrunU:∀ k,U k→∀ y,all[k]? = some y→Runs X y (evo s2.fr) (hlk s2.hp) (s2.nx + k) (dstV s2.fr y.dst) [] []:=by
      intro k hu y hy
      obtain ⟨x,q1,⟨z,q2⟩,q3,q4,_⟩:=hfree k hu.1 hu.2
      rw [hy] at q1; cases q1
      have hv:=hmoves k y z (by rw [htk k hu.1]; exact hy) q3 q2
      obtain ⟨rr,upd,ac,⟨rfl,rfl,rfl⟩,hruns⟩:=runs_aop hX (o:=y) (ρ:=evo s2.fr) (H:=hlk s2.hp) (me:=s2.nx + k) (Kf:=fun r upd acc=>r=evo s2.fr z∧upd=[]∧acc=[]) (by rw [q2]; exact ⟨rfl,rfl,rfl⟩)
      rw [hv]
      exact hruns [] (by simp)
     let accL:Nat→List Nat:=fun _=>[]
     have hs2:∀ k,k < all.length→StepOr X all s2.nx s2.n k (F3 k) (F3 (k + 1)) (G3 k) (G3 (k + 1)) (if i < k then acc2 k else accL k) (if i < k then wr2 k else []) (k≤i∧¬ U k):=by
      intro k hk
      rcases Nat.lt_trichotomy k i with hki | hki | hki
      ·-- a look
       have eG:G3 (k + 1)=G3 k:=by
        show (if k + 1≤i then _ else _)=(if k≤i then _ else _)
        rw [if_pos (by omega),if_pos (by omega)]
       by_cases hu:U k
       ·left
        have hy:all[k]? = some all[k]:=List.getElem?_eq_getElem hk
        obtain ⟨x8,e8,_,r2,r3,hna⟩:=hfree k hu.1 hu.2
        rw [hy] at e8; cases e8
        obtain ⟨d,hdk⟩:=Option.isSome_iff_exists.1 r3
        rw [if_neg (by omega),if_neg (by omega)]
        refine ⟨fun _ _ _ _=>rfl,all[k],true,dstV s2.fr all[k].dst,[],hy,by unfold GuardIs; rw [r2],fun d' hd'=>?_,fun t=>?_,fun id=>by rw [eG]; rfl,rfl,by simp,.inr ⟨rfl,?_⟩⟩
        ·rw [hs2n,f6]
         obtain ⟨o3,go3,r3',upd3,q1,q2,q3,_⟩:=(f2 k (Nat.zero_le _) hki).h
         rw [hy] at q1; cases q1
         exact q3 d' hd'
        ·show (if k + 1≤i then _ else _)=if _ then _ else (if k≤i then _ else _)
         rw [if_pos (by omega),if_pos (show k≤i by omega)]
         by_cases e:all[k].dst=some t
         ·rw [if_pos e,if_neg]
          ·rw [e]; rfl
          ·rintro ⟨j,hj,hju,y,hyj,hdy⟩
           have:=once k j _ y t hy hyj e hdy
           omega
         ·rw [if_neg e]
          by_cases hw:W k t
          ·rw [if_pos hw,if_pos]
           obtain ⟨j,hj,hju,y,hyj,hdy⟩:=hw
           refine ⟨j,?_,hju,y,hyj,hdy⟩
           have:j≠k:=fun e'=>e (by subst e'; rw [hy] at hyj; cases hyj; exact hdy)
           omega
          ·rw [if_neg hw,if_neg]
           rintro ⟨j,hj,q⟩
           exact hw ⟨j,by omega,q⟩
        ·have hr3:=hrunU k hu all[k] hy
         have eG2:G3 k=hlk s2.hp:=if_pos (by omega)
         rw [eG2]
         refine runs_at hr3 fun x hx=>?_
         cases x with
         | tmp t=>
          show F3 k t=lkp s2.fr t
          show (if k≤i then _ else _)=_
          rw [if_pos (by omega),if_neg]
          rintro ⟨j,hj,hju,y,hyj,hdy⟩
          obtain ⟨x9,e9,_,_,_,hnj⟩:=hfree j hju.1 hju.2
          exact hfresh k j _ y t hki hju.1 hj hna hnj hy hyj hdy (looks_op hx)
         | _=>rfl
       ·right
        refine ⟨⟨by omega,hu⟩,?_,eG,if_neg (by omega)⟩
        funext t
        show (if k + 1≤i then _ else _)=(if k≤i then _ else _)
        rw [if_pos (by omega),if_pos (show k≤i by omega)]
        by_cases hw:W k t
        ·rw [if_pos hw,if_pos]
         obtain ⟨j,hj,hju,q⟩:=hw
         refine ⟨j,?_,hju,q⟩
         have:j≠k:=fun e'=>hu (e' ▸ hju)
         omega
        ·rw [if_neg hw,if_neg]
         rintro ⟨j,hj,q⟩
         exact hw ⟨j,by omega,q⟩
      ·subst hki
       right
       refine ⟨⟨Nat.le_refl _,fun hu=>by have:=hu.1; omega⟩,?_,?_,if_neg (by omega)⟩
       ·funext t
        rw [F3i t]
        show (if k + 1≤k then _ else _)=_
        rw [if_neg (by omega),g1]
       ·show (if k + 1≤k then _ else _)=(if k≤k then _ else _)
        rw [if_neg (by omega),if_pos (Nat.le_refl _),g2]
      ·left
       have:=g3 k (by omega) hk
       rw [if_pos hki,if_pos hki]
       have e1:F3 k=F2 k:=by funext t; exact if_neg (by omega)
       have e2:F3 (k + 1)=F2 (k + 1):=by funext t; exact if_neg (by omega)
       have e3:G3 k=G2 k:=if_neg (by omega)
       have e4:G3 (k + 1)=G2 (k + 1):=if_neg (by omega)
       rw [e1,e2,e3,e4]
       exact this
     refine any_sound (F:=F3) (G:=G3) (acc:=fun k=>if i < k then acc2 k else accL k) (wr:=fun k=>if i < k then wr2 k else []) (n:=s2.n) (base:=s2.nx) (w0:=w0) (K0:=K0) (E0:=E2)
      (sk:=fun k=>k≤i∧¬ U k) (J:=fun S=>∀ k,(k≤i∧¬ U k)→S k) hd he hs2 (fun S k hJ _ q hq=>.inl (hJ q hq)) ?_ (fun id hid=>by rw [hs2x]; exact hrel2.dom id hid) ?_ ?_ fuel _ E2 fr2 hp2 (a1.put o.dst v) w' (by simp [hsz]) (fun k hk=>(hset k).2 ?_) hcnt ?_
     ·intro k j hj hk hm
      by_cases hik:i < k
      ·by_cases hij:i < j
       ·simp only [if_pos hik,if_pos hij] at hm
        exact g5 k j (by omega) hj hk hm
       ·simp only [if_pos hik,if_neg hij] at hm
        rcases hm with hm | hm <;> simp [meets,accL] at hm
      ·simp only [if_neg hik,if_neg (show ¬ i < j by omega)] at hm
       rcases hm with hm | hm <;> simp [meets,accL] at hm
     ·intro fuel' listed' E' fr' hp' a' w' k o' _ hJ' _ _ hk _ hf' _
      have:=hJ' k hk
      rw [this] at hf'; cases hf'
     ·intro E' fr' hp' a' w' _ hD'
      obtain ⟨v1,v2⟩:=hD'.upto hd hs2 (m:=all.length) (Nat.le_refl _) (fun _=>Iff.rfl)
      have eF:F3 all.length=F2 all.length:=by funext t; exact if_neg (by omega)
      have eG:G3 all.length=G2 all.length:=if_neg (by omega)
      refine hn s3 a' w' E' g6 (hD.le.trans (hext.le.trans hD'.le)) ?_ ?_ ?_
      ·have h10:s3.nx=s2.nx + all.length:=g10
       have:=hext.up
       omega
      ·intro id hid
       rcases hD'.dom id hid with h' | ⟨k,_,hk,e⟩
       ·rcases hext.dom id h' with h' | h'
        ·rcases hD.dom id h' with h' | ⟨k,_,_,e⟩
         ·exact .inl h'
         ·right; omega
        ·right; have:=h'.1; omega
       ·right
        have:=hext.up
        omega
      ·have:=rel_told hD'.rel (fr':=s3.fr) (hp':=s3.hp) (fun t=>by rw [v1 t,eF,g7]) (fun id=>by rw [v2 id,eG,g8]) (D':=fun id=>id < s3.nx) (fun id hid=>by
        have e10:s3.nx=s2.nx + all.length:=g10
        rcases hD'.dom id hid with h' | ⟨k,_,hk,e⟩
        ·have:=hrel2.dom id h'; omega
        ·omega)
       have e9:s3.n=s2.n:=g9
       unfold RelS
       rw [e9]; exact this
     ·rcases Nat.lt_or_eq_of_le hk.1 with h' | h'
      ·left
       cases q:listed.getD k false with
       | true=>rfl
       | false=>exact absurd ⟨h',q⟩ hk.2
      ·exact .inr h'
     ·refine { le:=Env.le.refl E2,rel:=(by rw [hs2n]; exact hrel2.names fun _ _=>trivial),dom:=fun id hid=>.inl hid,cl:=?_,reg:=?_,reg0:=?_,heap:=?_,heap0:=?_ }
      ·intro k x hk hx e hee hb
       rw [hset]
       rcases (hset k).1 hk with h' | h'
       ·exact .inl (hD.cl k x h' hx e hee hb)
       ·subst h'
        rw [ho] at hx; cases hx
        exact .inl (hpre e hee hb)
      ·intro k x t hk hx hdx
       have hw0:¬ W 0 t:=by
        rintro ⟨j,_,hju,y,hyj,hdy⟩
        have e:=once k j x y t hx hyj hdx hdy
        subst e
        rcases (hset k).1 hk with h' | h'
        ·rw [hju.2] at h'; cases h'
        ·have:=hju.1; omega
       have hki:k≤i:=by
        rcases (hset k).1 hk with h' | h'
        ·exact Nat.le_of_lt (hJ k h')
        ·omega
       rw [hsame t hw0]
       by_cases e:k=i
       ·subst e
        show _=(if k + 1≤k then _ else _)
        rw [if_neg (by omega),g1]
       ·show _=(if k + 1≤i then _ else _)
        rw [if_pos (by omega),if_neg]
        rintro ⟨j,hj,q⟩
        exact hw0 ⟨j,Nat.zero_le _,q⟩
      ·intro t _
       show _=(if 0≤i then _ else _)
       rw [if_pos (Nat.zero_le _)]
       by_cases hw:W 0 t
       ·rw [if_pos hw]
       ·rw [if_neg hw]; exact hsame t hw
      ·intro k id hk _ hkw
       have hki:k≤i:=by
        rcases (hset k).1 hk with h' | h'
        ·exact Nat.le_of_lt (hJ k h')
        ·omega
       simp only [if_neg (show ¬ i < k by omega)] at hkw
       simp at hkw
      ·intro id _
       have e:G3 0=hlk s2.hp:=if_pos (Nat.zero_le _)
       rw [e,hs2h]
    ·exact f3.elim
   ·exact f3.elim
  ·intro E' fr hp a' w' hJ _
   have:=hJ c hcl
   omega
  ·have:((List.range all.length).filter fun i=>!(Array.replicate all.toArray.size false).getD i false)=List.range all.length:=by
    rw [List.filter_eq_self]
    intro i _
    rw [hlist]; rfl
   rw [this]; simp
  ·exact { le:=Env.le.refl E,rel:=hr.names fun _ _=>trivial,dom:=fun id hid=>.inl hid,cl:=fun i o hi=>absurd hi (hS0 i),reg:=fun i o t hi=>absurd hi (hS0 i),reg0:=fun t _=>by rw [Nat.min_eq_left (Nat.zero_le _),f1],heap:=fun i id hi=>absurd hi (hS0 i),heap0:=fun id _=>by rw [Nat.min_eq_left (Nat.zero_le _),f2h] }
 ·exact h.elim
end
end Go.Vai

/- All code that the evaluator takes. -/
namespace Go.Vai
open Go.RowKit
section
variable {F : Fence} {n : Nat} {P : Program} {a : Act} {w : World} {b : Frame} {k : List Item} {cs : List Frame}
theorem stepR_scope' {c:Code}:step P (lone (b.atR a (.code (.scope c) :: k)) cs w)=.next (lone (b.atR a (.code c :: .inScope c :: k)) cs w):=
 step_lone_go (by simp [stepG,stepG.exec,Frame.atR])
theorem stepR_inScope' {c:Code}:step P (lone (b.atR a (.inScope c :: k)) cs w)=.next (lone (b.atR a k) cs w):=
 step_lone_go (by simp [stepG,stepG.exec,Frame.atR])
end
def scopeQ (ro:Option Nat) (P:Program) (c:Code) (Q:Exit→Act→World→Prop):Exit→Act→World→Prop
 | .goto l,a,w=>match findLabel c l with
  | some rest=>rest.wpIn (FW ro) 0 P (Exit.noGoto Q) a w
  | none=>Q (.goto l) a w
 | e,a,w=>Q e a w
theorem wp_scope_ahead {ro:Option Nat} {P:Program} {a:Act} {w:World} {Q:Exit→Act→World→Prop} {c:Code} (h:c.wpIn (FW ro) 0 P (scopeQ ro P c Q) a w):(Code.scope c).wpIn (FW ro) 0 P Q a w:=by
 intro b k cs hro hb hr
 obtain ⟨e,a₁,w₁,hq,harr⟩:=h b (.inScope c :: k) cs hro hb hr
 have h0:(lone (b.atR a (.code (.scope c) :: k)) cs w).fenced P (FW ro):=fenced_calm hb hr rfl
 have hout:∀ (a':Act) (w':World),StepsIn (Machine.fenced P (FW ro)) P (lone (b.atR a' (.inScope c :: k)) cs w') (lone (b.atR a' k) cs w'):=fun a' w'=>.one (fenced_calm hb hr rfl) stepR_inScope'
 have hin:=StepsIn.one h0 (stepR_scope' (P:=P) (b:=b) (a:=a) (k:=k) (cs:=cs) (w:=w) (c:=c))
 have jx:∀ (m:Machine) (id:Nat) (a':Act) (w':World),ArrivesIn (Machine.fenced P (FW ro)) P m b (.inScope c :: k) cs (.exit id) a' w'→ArrivesIn (Machine.fenced P (FW ro)) P m b k cs (.exit id) a' w':=
  fun m id a' w' h=>⟨fun k' hk=>h.1 k' (by simp [exitTo,hk]),fun hr' hk=>h.2 hr' (by simp [exitTo,hk])⟩
 cases e with
 | normal=>exact ⟨.normal,a₁,w₁,hq,(hin.trans harr).trans (hout _ _)⟩
 | exit id=>exact ⟨.exit id,a₁,w₁,hq,.of_steps hin (jx _ _ _ _ harr)⟩
 | goto l=>
  simp only [scopeQ] at hq
  cases hf:findLabel c l with
  | none=>
   rw [hf] at hq
   have hx:gotoIn l (.inScope c :: k)=gotoIn l k:=by simp [gotoIn,hf]
   exact ⟨.goto l,a₁,w₁,hq,fun k' hk=>hin.trans (harr.1 k' (by rw [hx]; exact hk)),fun hr' hk=>let ⟨k₁,h1,h2⟩:=harr.2 hr' (by rw [hx]; exact hk); ⟨k₁,h1,hin.trans h2⟩⟩
  | some rest=>
   rw [hf] at hq
   have hg:gotoIn l (.inScope c :: k)=some (.code rest :: .inScope c :: k):=by simp [gotoIn,hf]
   obtain ⟨e₂,a₂,w₂,hq₂,harr₂⟩:=hq b (.inScope c :: k) cs hro hb hr
   have hst:=hin.trans (harr.1 _ hg)
   cases e₂ with
   | normal=>exact ⟨.normal,a₂,w₂,hq₂,(hst.trans harr₂).trans (hout _ _)⟩
   | exit id=>exact ⟨.exit id,a₂,w₂,hq₂,.of_steps hst (jx _ _ _ _ harr₂)⟩
   | goto l=>exact hq₂.elim
   | ret=>exact ⟨_,a₂,w₂,hq₂,.of_steps hst harr₂⟩
   | panic ch=>exact ⟨_,a₂,w₂,hq₂,.of_steps hst harr₂⟩
   | outgrown=>exact ⟨_,a₂,w₂,hq₂,.of_steps hst harr₂⟩
 | ret=>exact ⟨_,a₁,w₁,hq,.of_steps hin harr⟩
 | panic ch=>exact ⟨_,a₁,w₁,hq,.of_steps hin harr⟩
 | outgrown=>exact ⟨_,a₁,w₁,hq,.of_steps hin harr⟩
section
variable {X : Ctx} {callF : CallF}
def Post (w0:World) (K0:Nat→Option Obj) (E:Env) (nx:Nat) (Q:Exit→St→Prop) (e:Exit) (a:Act) (w:World):Prop:=
 ∃ s' E',Q e s'∧Ext E nx E' s'.nx∧RelS w0 K0 E' s' a w
theorem Post.ext {w0:World} {K0:Nat→Option Obj} {E E1:Env} {nx n1:Nat} {Q:Exit→St→Prop} {e:Exit} {a:Act} {w:World} (h:Ext E nx E1 n1) (k:Post w0 K0 E1 n1 Q e a w):Post w0 K0 E nx Q e a w:=by
 obtain ⟨s',E',h1,h2,h3⟩:=k
 exact ⟨s',E',h1,h.trans h2,h3⟩
theorem WP.mono {c:Code} {Q Q':Exit→St→Prop} {s:St} (h:WP X c Q s) (hq:∀ e s,Q e s→Q' e s):WP X c Q' s:=
 fun w0 K0 E a w hi hr=>wpIn_mono (h w0 K0 E a w hi hr) fun _ _ _ ⟨s',E',h1,h2,h3⟩=>⟨s',E',hq _ _ h1,h2,h3⟩
theorem wp_then (im:∀ w0 E E',X.inv w0 E→E.le E'→X.inv w0 E') {b:Code} {Q:Exit→St→Prop} {K:St→Prop} (hK:∀ s,K s→WP X b Q s) {w0:World} {K0:Nat→Option Obj} {E:Env} {nx:Nat} {e:Exit} {a:Act} {w:World} (hi:X.inv w0 E)
  (h:Post w0 K0 E nx (thenA K Q) e a w):Exit.then (b.wpIn (FW X.rd) 0 X.P (Post w0 K0 E nx Q)) (Post w0 K0 E nx Q) e a w:=by
 obtain ⟨s',E',h1,h2,h3⟩:=h
 cases e with
 | normal=>exact wpIn_mono (hK s' h1 w0 K0 E' a w (im _ _ _ hi h2.le) h3) fun _ _ _=>Post.ext h2
 | _=>exact ⟨s',E',h1,h2,h3⟩
theorem WP.seq (im:∀ w0 E E',X.inv w0 E→E.le E'→X.inv w0 E') {x y:Code} {Q:Exit→St→Prop} {K:St→Prop} {s:St} (h:WP X x (thenA K Q) s) (hK:∀ s,K s→WP X y Q s):WP X (.seq x y) Q s:=
 fun w0 K0 E a w hi hr=>wpIn_seq (wpIn_mono (h w0 K0 E a w hi hr) fun _ _ _ k=>wp_then im hK hi k)
theorem codeA_sound (hX:X.core) (hF:CallSound X callF):∀ (c:Code) (Q:Exit→St→Prop) (s:St),drawsOk c=true→codeA X callF c Q s→WP X c Q s
 | .skip,Q,s,_,h=>fun w0 K0 E a w hi hr=>wpIn_skip ⟨s,E,h,Ext.refl E s.nx,hr⟩
 | .region id ops false,Q,s,_,h=>fun w0 K0 E a w hi hr=>by
  refine wpIn_region_list ?_
  have:=opsT_sound hX hF ops.toList (base:=s.nx) (K:=Q .normal) (Q:=Post w0 K0 E s.nx Q) ops.size ops.toList 0 _ h w0 K0 E a w hi (hr.names fun id hd=>?_) (fun id hd=>.inl (hr.dom id hd)) (Nat.le_refl _) (by simp) ?_
  ·exact this
  ·have:=hr.dom id hd
   show id < s.nx + ops.size
   omega
  ·intro s' a' w' E' hk hle hnx hdom hrel
   refine ⟨s',E',hk,⟨hle,?_,fun id hd=>(hdom id hd).imp_right fun h=>⟨h,hrel.dom id hd⟩⟩,hrel⟩
   have:s.nx + ops.size≤s'.nx:=hnx
   omega
 | .region id ops true,Q,s,hdr,h=>fun w0 K0 E a w hi hr=>by
  simp only [drawsOk,Bool.and_eq_true] at hdr
  refine wpIn_region_any hX.T.mixed ?_
  simp only [codeA] at h
  unfold drawA at h
  have hlt:∀ id,E.dom id→id < s.nx + ops.size:=fun id hd=>by
   have:=hr.dom id hd
   omega
  split at h
  ·have:=opsD_sound hX (base:=s.nx) hdr.1 hdr.2 h (w0:=w0) (K0:=K0) (E:=E) (a:=a) (w:=w.drew) (hr.drew.names hlt) (fun id hd=>hr.dom id hd) (by simp) (Q:=Post w0 K0 E s.nx Q) ?_
   ·exact this
   ·intro s' a' w' E' hk hle hnx hdom hrel
    refine ⟨s',E',hk,⟨hle,?_,fun id hd=>(hdom id hd).imp_right fun h=>⟨h,hrel.dom id hd⟩⟩,hrel⟩
    rw [hnx]
    exact Nat.le_add_right _ _
  ·split at h
   ·split at h
    ·have:=opsP_sound hX hF (base:=s.nx) hdr.1 hdr.2 h (w0:=w0) (K0:=K0) (E:=E) (a:=a) (w:=w.drew) hi (hr.drew.names hlt) (fun id hd=>hr.dom id hd) (by simp) (Q:=Post w0 K0 E s.nx Q) ?_
     ·exact this
     ·intro s' a' w' E' hk hle hnx hdom hrel
      refine ⟨s',E',hk,⟨hle,?_,fun id hd=>(hdom id hd).imp_right fun h=>⟨h,hrel.dom id hd⟩⟩,hrel⟩
      have:s.nx + ops.size≤s'.nx:=hnx
      omega
    ·have:=opsM_sound hX hF (base:=s.nx) hdr.1 hdr.2 h (w0:=w0) (K0:=K0) (E:=E) (a:=a) (w:=w.drew) (hr.drew.names hlt) (fun id hd=>hr.dom id hd) (by simp) (Q:=Post w0 K0 E s.nx Q) ?_
     ·exact this
     ·intro s' a' w' E' hk hle hnx hdom hrel
      refine ⟨s',E',hk,⟨hle,?_,fun id hd=>(hdom id hd).imp_right fun h=>⟨h,hrel.dom id hd⟩⟩,hrel⟩
      have:s.nx + ops.size≤s'.nx:=hnx
      omega
   ·have:=opsL_sound hX hF (base:=s.nx) hdr.1 hdr.2 h (w0:=w0) (K0:=K0) (E:=E) (a:=a) (w:=w.drew) (hr.drew.names hlt) (fun id hd=>hr.dom id hd) (by simp) (Q:=Post w0 K0 E s.nx Q) ?_
    ·exact this
    ·intro s' a' w' E' hk hle hnx hdom hrel
     refine ⟨s',E',hk,⟨hle,?_,fun id hd=>(hdom id hd).imp_right fun h=>⟨h,hrel.dom id hd⟩⟩,hrel⟩
     have:s.nx + ops.size≤s'.nx:=hnx
     omega
 | .seq x y,Q,s,hdr,h=>by
  simp only [drawsOk,Bool.and_eq_true] at hdr
  exact WP.seq hX.im (codeA_sound hX hF x _ s hdr.1 h) fun s' h'=>codeA_sound hX hF y Q s' hdr.2 h'
 | .cond c x y,Q,s,hdr,h=>fun w0 K0 E a w hi hr=>by
  simp only [drawsOk,Bool.and_eq_true] at hdr
  have hev:=hr.ev c
  simp only [codeA] at h
  unfold condA at h
  split at h
  ·rename_i b hb
   rw [hb] at hev
   generalize hv:a.eval c=v at hev
   cases hev
   exact wpIn_cond_split hv (fun ht=>codeA_sound hX hF x Q s hdr.1 (h.1 ht) w0 K0 E a w hi hr) (fun hf=>codeA_sound hX hF y Q s hdr.2 (h.2 hf) w0 K0 E a w hi hr)
  ·rename_i xs e hb
   rw [hb] at hev
   generalize hv:a.eval c=v at hev
   cases hev with
   | nb _ _ b he=>
    cases e with
    | true=>exact wpIn_cond_split hv (fun ht=>codeA_sound hX hF x Q s hdr.1 (h.1 (he ht)) w0 K0 E a w hi hr) (fun _=>codeA_sound hX hF y Q s hdr.2 h.2 w0 K0 E a w hi hr)
    | false=>exact wpIn_cond_split hv (fun _=>codeA_sound hX hF x Q s hdr.1 h.1 w0 K0 E a w hi hr) (fun hf=>codeA_sound hX hF y Q s hdr.2 (h.2 (he hf)) w0 K0 E a w hi hr)
  ·exact h.elim
 | .block id b,Q,s,hdr,h=>fun w0 K0 E a w hi hr=>by
  simp only [drawsOk] at hdr
  refine wpIn_block (wpIn_mono (codeA_sound hX hF b _ s hdr h w0 K0 E a w hi hr) ?_)
  rintro e a' w' ⟨s',E',h1,h2,h3⟩
  cases e with
  | exit id'=>
   simp only [inBlockA] at h1
   simp only [Exit.inBlock]
   split at h1
   ·rename_i he; rw [if_pos he]; exact ⟨s',E',h1,h2,h3⟩
   ·rename_i he; rw [if_neg he]; exact ⟨s',E',h1,h2,h3⟩
  | _=>exact ⟨s',E',h1,h2,h3⟩
 | .loop b,Q,s,_,h=>h
 | .rangeFunc f ps x b,Q,s,_,h=>h
 | .exit id,Q,s,_,h=>fun w0 K0 E a w hi hr=>wpIn_exit ⟨s,E,h,Ext.refl E s.nx,hr⟩
 | .scope b,Q,s,hdr,h=>fun w0 K0 E a w hi hr=>by
  simp only [drawsOk] at hdr
  refine wp_scope_ahead (wpIn_mono (codeA_sound hX hF b _ s hdr h w0 K0 E a w hi hr) ?_)
  rintro e a' w' ⟨s',E',h1,h2,h3⟩
  cases e with
  | goto l=>
   simp only [inScopeA] at h1
   simp only [scopeQ]
   cases hf:findLabel b l with
   | none=>rw [hf] at h1; exact ⟨s',E',h1,h2,h3⟩
   | some rest=>
    rw [hf] at h1
    refine wpIn_mono (h1 w0 K0 E' a' w' (hX.im _ _ _ hi h2.le) h3) ?_
    rintro e a2 w2 ⟨s2,E2,k1,k2,k3⟩
    cases e with
    | goto l=>exact k1.elim
    | _=>exact ⟨s2,E2,k1,h2.trans k2,k3⟩
  | _=>exact ⟨s',E',h1,h2,h3⟩
 | .label l,Q,s,_,h=>fun w0 K0 E a w hi hr=>wpIn_label ⟨s,E,h,Ext.refl E s.nx,hr⟩
 | .goto l,Q,s,_,h=>fun w0 K0 E a w hi hr=>wpIn_goto ⟨s,E,h,Ext.refl E s.nx,hr⟩
 | .ret,Q,s,_,h=>fun w0 K0 E a w hi hr=>wpIn_ret ⟨s,E,h,Ext.refl E s.nx,hr⟩
 | .refuse _,_,_,_,h=>h.elim
end
end Go.Vai

/- Calls, and functions that only compute. -/
namespace Go.Vai
open Go.RowKit
def resOf (tmps:Array Value):ResultVar→Sem Value
 | .tmp t=>pure (tmps.getD t undef)
 | .cell p t=>do loadVar t (← asAddr (tmps.getD p undef))
theorem results_eq (fn:Func) (tmps:Array Value):results fn tmps=(do
  let vs ← fn.results.mapM (resOf tmps)
  pure (if h:vs.size=1 then vs[0] else .tuple vs)):=by
 unfold results
 congr 1
section
variable {X : Ctx}
theorem res_load {P:Program} {o:Oper} {t:TypeId} {x:Operand} (ho:o.op=.load t x) {a:Act} {v:Value} {w w':World} (h:(execOp a.eval o).run P w=.ok (.value v) w') :
  (do loadVar t (← asAddr (a.eval x))).run P w=.ok v w':=by
 simp only [execOp,ho,Instr.loadAt,Sem.run_bind] at h
 generalize hu:a.eval x=u at h
 simp only [Sem.run_bind]
 cases u with
 | pointer ad=>cases ad with
  | none=>simp [Instr.sureAddr,stuck] at h
  | some ad=>
   simp only [Instr.sureAddr,asAddr,Sem.run_pure,Result.andThen_ok] at h ⊢
   cases hl:(loadVar t ad).run P w with
   | ok v' w1=>rw [hl] at h; simp at h; simp [h]
   | _=>rw [hl] at h; simp at h
 | _=>simp [Instr.sureAddr,stuck] at h
theorem resA_step {s:St} {E:Env} {a:Act} {w:World} {r:ResultVar} {rs:List ResultVar} {acc:List AV} {vs:List Value} {K:List AV→Prop} {x:AV} {v:Value}
  (ih:∀ (acc:List AV) (vs:List Value),resA X.T s rs acc K→acc.length=vs.length→(∀ (i:Nat) (x:AV) (v:Value),acc[i]? = some x→vs[i]? = some v→Con E x v) →
   ∃ xs us,K xs∧(rs.mapM (resOf a.tmps)).run X.P w=.ok us w∧xs.length=(vs ++ us).length∧(∀ (i:Nat) (x:AV) (v:Value),xs[i]? = some x→(vs ++ us)[i]? = some v→Con E x v))
  (hl:acc.length=vs.length) (hc:∀ (i:Nat) (x:AV) (v:Value),acc[i]? = some x→vs[i]? = some v→Con E x v)
  (hx:Con E x v) (h':resA X.T s rs (acc ++ [x]) K) (hv:(resOf a.tmps r).run X.P w=.ok v w) :
  ∃ xs us,K xs∧((r :: rs).mapM (resOf a.tmps)).run X.P w=.ok us w∧xs.length=(vs ++ us).length∧(∀ (i:Nat) (x:AV) (v:Value),xs[i]? = some x→(vs ++ us)[i]? = some v→Con E x v):=by
 obtain ⟨xs,us,h1,h2,h3,h4⟩:=ih (acc ++ [x]) (vs ++ [v]) h' (by simp [hl]) (by
  intro i y u hy hu
  rw [List.getElem?_append] at hy hu
  rw [hl] at hy
  split at hy
  ·rename_i hi; rw [if_pos hi] at hu; exact hc i y u hy hu
  ·rename_i hi
   rw [if_neg hi] at hu
   rw [List.getElem?_singleton] at hy hu
   split at hy
   ·rename_i h0; rw [if_pos h0] at hu; cases hy; cases hu; exact hx
   ·cases hy)
 refine ⟨xs,v :: us,h1,?_,by simpa using h3,by simpa using h4⟩
 rw [List.mapM_cons,Sem.run_bind,hv,Result.andThen_ok,Sem.run_bind,h2,Result.andThen_ok,Sem.run_pure]
theorem resA_sound (hX:X.core) {s:St} {w0:World} {K0:Nat→Option Obj} {E:Env} {a:Act} {w:World} (hr:RelS w0 K0 E s a w):∀ (rs:List ResultVar) (K:List AV→Prop) (acc:List AV) (vs:List Value),
  resA X.T s rs acc K→acc.length=vs.length→(∀ (i:Nat) (x:AV) (v:Value),acc[i]? = some x→vs[i]? = some v→Con E x v) →
  ∃ xs us,K xs∧(rs.mapM (resOf a.tmps)).run X.P w=.ok us w∧xs.length=(vs ++ us).length∧(∀ (i:Nat) (x:AV) (v:Value),xs[i]? = some x→(vs ++ us)[i]? = some v→Con E x v)
 | [],K,acc,vs,h,hl,hc=>⟨acc,[],h,by simp,by simpa using hl,by simpa using hc⟩
 | .tmp t :: rs,K,acc,vs,h,hl,hc=>resA_step (resA_sound hX hr rs K) hl hc (hr.ev (.tmp t)) h (by simp [resOf,Act.eval])
 | .cell p t :: rs,K,acc,vs,h,hl,hc=>by
  simp only [resA,aop] at h
  obtain ⟨hn,h⟩:=h
  split at h
  ·rename_i id i off hx
   split at h
   ·rename_i b hb
    obtain ⟨v,h1,h2⟩:=looks_load_ptr (ρ:=evo s.fr) (H:=hlk s.hp) hX.T t (.tmp p) id i off b hx hb hn h.1 h.2.1 h.2.2.1 h.2.2.2.1 { (default:Oper) with op:=.load t (.tmp p) } rfl w0 K0 _ E s.n s.fr s.hp a w hr (fun x _=>hr.ev x) (fun _ _=>rfl)
    exact resA_step (resA_sound hX hr rs K) hl hc h2 h.2.2.2.2 (res_load (x:=.tmp p) (t:=t) rfl h1)
   ·exact h.elim
  ·rename_i cs hx
   obtain ⟨v,h1,h2⟩:=looks_load_rptr (ρ:=evo s.fr) (H:=hlk s.hp) hX.T t (.tmp p) cs hx hn h.1 h.2.1 h.2.2.1 { (default:Oper) with op:=.load t (.tmp p) } rfl w0 K0 _ E s.n s.fr s.hp a w hr (fun x _=>hr.ev x) (fun _ _=>rfl)
   exact resA_step (resA_sound hX hr rs K) hl hc h2 h.2.2.2 (res_load (x:=.tmp p) (t:=t) rfl h1)
  ·exact h.elim
theorem resultA_sound (hX:X.core) {fn:Func} {s:St} {K:AV→Prop} (h:resultA X.T fn s K) {w0:World} {K0:Nat→Option Obj} {E:Env} {a:Act} {w:World} (hr:RelS w0 K0 E s a w) :
  ∃ x v,K x∧(results fn a.tmps).run X.P w=.ok v w∧Con E x v:=by
 obtain ⟨xs,us,h1,h2,h3,h4⟩:=resA_sound hX hr fn.results.toList _ [] [] h rfl (by simp)
 rw [List.nil_append] at h3
 simp only [List.nil_append] at h4
 have hm:(fn.results.mapM (resOf a.tmps)).run X.P w=.ok us.toArray w:=by
  rw [Array.mapM_eq_mapM_toList,map_eq_pure_bind,Sem.run_bind,h2,Result.andThen_ok,Sem.run_pure]
 rw [results_eq,Sem.run_bind,hm,Result.andThen_ok,Sem.run_pure]
 split at h1
 ·rename_i x
  have hs:us.length=1:=by simpa using h3.symm
  obtain ⟨u,rfl⟩:=List.length_eq_one_iff.1 hs
  exact ⟨x,u,h1,by simp,h4 0 x u rfl rfl⟩
 ·rename_i hx
  refine ⟨_,.tuple us.toArray,h1,?_,.tup _ _ (by simpa using h3) (by simpa using h4)⟩
  have:us.toArray.size≠1:=by
   intro hs
   have hs':xs.length=1:=by simpa [h3] using hs
   obtain ⟨x,e⟩:=List.length_eq_one_iff.1 hs'
   exact hx x e
  rw [dif_neg this]
theorem lkp_argFrm:∀ (args:List AV) (i t:Nat),lkp (argFrm args i) t=if i≤t then args.getD (t - i) .top else .top
 | [],i,t=>by simp [argFrm,lkp]
 | x :: r,i,t=>by
  rw [argFrm,lkp_cons,lkp_argFrm r (i + 1) t]
  by_cases e:t=i
  ·subst e; simp
  ·rw [if_neg e]
   by_cases h:i≤t
   ·rw [if_pos h,if_pos (by omega),show t - i=(t - (i + 1)) + 1 by omega]; simp
   ·rw [if_neg h,if_neg (by omega)]
theorem args_rel {w0:World} {K0:Nat→Option Obj} {D:Nat→Prop} {E:Env} {n:Nat} {fr:Frm} {hp:Hp} {a:Act} {w:World} (h:Rel w0 K0 D E n fr hp a w) {args:List AV} {vs:Array Value} (ha:ArgsCon E args vs) {m:Nat} (hm:args.length≤m) :
  Rel w0 K0 D E m (argFrm args 0) hp { tmps:=vs ++ Array.replicate (m - vs.size) undef,defers:=[] } w:=by
 have hl:=ha.1
 refine { below:=h.below,kw:=h.kw,k0:=h.k0,nd:=⟨fun _=>rfl,trivial⟩,size:=by simp; omega,regs:=?_,dom:=h.dom,lw:=h.lw,out:=?_,own:=h.own,inj:=h.inj }
 ·intro t ht
  rw [lkp_argFrm,if_pos (Nat.zero_le t),Nat.sub_zero,List.getD_eq_getElem?_getD]
  cases hx:args[t]? with
  | none=>exact .top _
  | some x=>
   have hlt:t < vs.size:=by have:=(List.getElem?_eq_some_iff.1 hx).1; omega
   have hv:vs[t]? = some vs[t]:=by simp [hlt]
   have:=ha.2 t x vs[t] hx hv
   rw [Array.getD_eq_getD_getElem?,Array.getElem?_append,if_pos hlt,hv]
   exact this
 ·intro t ht
  rw [lkp_argFrm,if_pos (Nat.zero_le t),Nat.sub_zero,List.getD_eq_getElem?_getD,List.getElem?_eq_none (by omega)]
  rfl
def Env.plain (E:Env):Env:={ E with mrk:=false }
theorem Env.lec_plain (E:Env):E.lec E.plain:=⟨fun _ h=>h,fun _ _=>rfl,fun _ _=>rfl,fun _ _=>rfl,fun _ _ h=>h,fun _ _ _ h=>h,fun _ _=>rfl⟩
theorem Env.lec_mrk (E:Env) (m:Bool):E.lec { E with mrk:=m }:=⟨fun _ h=>h,fun _ _=>rfl,fun _ _=>rfl,fun _ _=>rfl,fun _ _ h=>h,fun _ _ _ h=>h,fun _ _=>rfl⟩
theorem Els.monoc {E E':Env} (hE:E.lec E') {cur:Array Value} {sz:Nat} {el:List AV} (h:Els E cur sz el):Els E' cur sz el:=
 fun i a hi=>⟨(h i a hi).1,fun j x hj=>let ⟨y,a1,a2,a3⟩:=(h i a hi).2 j x hj; ⟨y,a1,a2,a3.monoc hE⟩⟩
theorem Own.mrk {E:Env} {w:World} {B id:Nat} {b:Blk} (m:Bool) (h:Own E w B id b):Own { E with mrk:=m } w B id b:=by
 obtain ⟨hd,hs,hp,hm,h⟩:=h
 refine ⟨hd,hs,hp,hm,?_⟩
 rcases h with ⟨h1,h2,h3,h4⟩ | ⟨g,cur,h1,h2,h3,h4,h5,h6,h7,h8⟩
 ·exact .inl ⟨h1,h2,h3,fun l r e=>let ⟨ws,e0,e1⟩:=h4 l r e; ⟨ws,e0.monoc (Env.lec_mrk E m),e1⟩⟩
 ·exact .inr ⟨g,cur,h1,h2,h3,h4,h5,h6,h7,h8.monoc (Env.lec_mrk E m)⟩
theorem Rel.mrk {w0:World} {K0:Nat→Option Obj} {D:Nat→Prop} {E:Env} {n:Nat} {fr:Frm} {hp:Hp} {a:Act} {w:World} (h:Rel w0 K0 D E n fr hp a w) (m:Bool) {a':Act} (ht:a'.tmps=a.tmps)
  (hn:(m=false→a'.defers=[])∧Marks w0.heap.size E.K a'.defers):Rel w0 K0 D { E with mrk:=m } n fr hp a' w:=
 { below:=h.below,kw:=h.kw,k0:=h.k0,nd:=hn,size:=by rw [ht]; exact h.size,regs:=fun t hl=>by rw [ht]; exact (h.regs t hl).monoc (Env.lec_mrk E m),dom:=h.dom,lw:=h.lw,out:=h.out,own:=fun id b hb=>(h.own id b hb).mrk m,inj:=h.inj }
theorem body_draws (hX:X.core) {g:FuncId} {fn:Func} {body:Code} (hfn:X.P.funcs[g]? = some fn) (hb:fn.body=some body):drawsOk body=true:=by
 have:=hX.draws
 rw [Array.all_eq_true] at this
 obtain ⟨hlt,he⟩:=Array.getElem?_eq_some_iff.1 hfn
 have:=this g hlt
 rw [he,hb] at this
 exact this
theorem body_calls (hX:X.core) (hrd:X.rd=none) {callF:CallF} (hF:CallSound X callF) {g:FuncId} {fn:Func} {body:Code} (hfn:X.P.funcs[g]? = some fn) (hb:fn.body=some body) {args:List AV} (hl:args.length≤fn.ntmps) {hp:Hp} {nx:Nat} {K:AV→Hp→Nat→Prop}
  (h:codeA X callF body (bodyQ X.T fn K) ⟨fn.ntmps,argFrm args 0,hp,nx⟩) {w0:World} {K0:Nat→Option Obj} {E:Env} {n:Nat} {fr:Frm} {a:Act} {w:World} {vs:Array Value} (hi:X.inv w0 E.plain)
  (hr:Rel w0 K0 (fun id=>id < nx) E n fr hp a w) (ha:ArgsCon E args vs) :
  Calls X.P g vs w fun e w'=>∃ v r hp' nx' E',e=.returned v∧K r hp' nx'∧Ext E nx E' nx'∧Con E' r v∧Rel w0 K0 (fun id=>id < nx') E' n fr hp' a w':=by
 have ha1:ArgsCon E.plain args vs:=⟨ha.1,fun i x v hx hv=>(ha.2 i x v hx hv).monoc E.lec_plain⟩
 have hr1:Rel w0 K0 (fun id=>id < nx) E.plain n fr hp { a with defers:=[] } w:=hr.mrk false rfl ⟨fun _=>rfl,trivial⟩
 rw [← callsIn_FW (ro:=none) (n:=0)]
 have hwp:=codeA_sound hX hF body _ _ (body_draws hX hfn hb) h w0 K0 E.plain _ w hi (args_rel hr1 ha1 hl)
 rw [hrd] at hwp
 refine callsIn_of_wp hfn hb trivial (wpIn_mono hwp ?_)
 have fin:∀ (s':St) (E':Env) (a':Act) (w':World),resultA X.T fn s' (fun r=>K r s'.hp s'.nx)→Ext E.plain nx E' s'.nx→RelS w0 K0 E' s' a' w' →
   a'.defers=[]∧∃ v,(results fn a'.tmps).run X.P w'=.ok v w'∧∃ v' r hp' nx' E',Ending.returned v=.returned v'∧K r hp' nx'∧Ext E nx E' nx'∧Con E' r v'∧Rel w0 K0 (fun id=>id < nx') E' n fr hp' a w':=by
  intro s' E' a' w' h1 h2 h3
  obtain ⟨x,v,k1,k2,k3⟩:=resultA_sound hX h1 h3
  have hle:E.le { E' with mrk:=E.mrk }:=⟨h2.le.dom,h2.le.ρ,h2.le.sz,h2.le.cap,h2.le.K,h2.le.lp,h2.le.lk,rfl⟩
  exact ⟨h3.nd.1 h2.le.mrk,v,k2,v,x,s'.hp,s'.nx,{ E' with mrk:=E.mrk },rfl,k1,⟨hle,h2.up,h2.dom⟩,k3.monoc (Env.lec_mrk E' _),
   { below:=h3.below,kw:=h3.kw,k0:=h3.k0,nd:=⟨hr.nd.1,hr.nd.2.mono h2.le.K⟩,size:=hr.size,regs:=fun t ht=>(hr.regs t ht).mono hle,dom:=h3.dom,lw:=h3.lw,out:=hr.out,own:=fun id b hb=>(h3.own id b hb).mrk _,inj:=h3.inj }⟩
 rintro e a' w' ⟨s',E',h1,h2,h3⟩
 cases e with
 | normal=>exact fin s' E' a' w' h1 h2 h3
 | ret=>exact fin s' E' a' w' h1 h2 h3
 | _=>exact h1.elim
theorem frzArg_cells (hp:Hp) (x:AV):((frzArg hp x).1=x)∨(x.cells=[x]∧(frzArg hp x).1.cells=[(frzArg hp x).1]):=by
 cases x with
 | arr id off len=>
  refine .inr ⟨rfl,?_⟩
  simp only [frzArg]
  repeat' split
  all_goals rfl
 | _=>exact .inl rfl
theorem frzEls_sound {w0:World} {K0:Nat→Option Obj} {D:Nat→Prop} {n:Nat} {fr:Frm} {a:Act} {w:World}:∀ (xs:List AV) (E:Env) (hp:Hp),Rel w0 K0 D E n fr hp a w →
  ∃ E',E.le E'∧(∀ id,E'.dom id→E.dom id)∧Rel w0 K0 D E' n fr (frzArgs hp xs).2 a w∧(frzArgs hp xs).1.length=xs.length ∧
   ∀ (i:Nat) (x:AV),(frzArgs hp xs).1[i]? = some x→∃ y,xs[i]? = some y∧x.cells.length=y.cells.length∧∀ (j:Nat) (b:AV),x.cells[j]? = some b→∃ b',y.cells[j]? = some b'∧∀ v,Con E b' v→Con E' b v
 | [],E,hp,hr=>⟨E,Env.le.refl E,fun _ h=>h,hr,rfl,fun i x hx=>by simp [frzArgs] at hx⟩
 | x :: r,E,hp,hr=>by
  obtain ⟨E1,h1,h2,h3,h4⟩:=frzArg_sound hr x
  obtain ⟨E2,k1,k2,k3,k4,k5⟩:=frzEls_sound r E1 (frzArg hp x).2 h3
  refine ⟨E2,h1.trans k1,fun id hd=>h2 id (k2 id hd),k3,by simpa [frzArgs] using k4,?_⟩
  intro i y hy
  cases i with
  | zero=>
   simp only [frzArgs,List.getElem?_cons_zero,Option.some.injEq] at hy
   subst hy
   refine ⟨x,rfl,?_⟩
   rcases frzArg_cells hp x with e | ⟨e1,e2⟩
   ·rw [e]
    exact ⟨rfl,fun j b hb=>⟨b,hb,fun v hv=>(hv.mono h1).mono k1⟩⟩
   ·rw [e1,e2]
    refine ⟨rfl,fun j b hb=>?_⟩
    cases j with
    | zero=>
     simp only [List.getElem?_cons_zero,Option.some.injEq] at hb
     subst hb
     exact ⟨x,rfl,fun v hv=>(h4 v hv).mono k1⟩
    | succ j=>simp at hb
  | succ i=>
   simp only [frzArgs,List.getElem?_cons_succ] at hy
   obtain ⟨y',q1,q2,q3⟩:=k5 i y hy
   exact ⟨y',q1,q2,fun j b hb=>let ⟨b',q4,q5⟩:=q3 j b hb; ⟨b',q4,fun v hv=>q5 v (hv.mono h1)⟩⟩
theorem deepArg_sound {w0:World} {K0:Nat→Option Obj} {D:Nat→Prop} {E:Env} {n:Nat} {fr:Frm} {hp:Hp} {a:Act} {w:World} (hr:Rel w0 K0 D E n fr hp a w) (x:AV) :
  ∃ E',E.le E'∧(∀ id,E'.dom id→E.dom id)∧Rel w0 K0 D E' n fr (deepArg hp x).2 a w∧∀ v,Con E x v→Con E' (deepArg hp x).1 v:=by
 cases x with
 | lst sz xs=>
  obtain ⟨E',h1,h2,h3,h4,h5⟩:=frzEls_sound xs E hp hr
  refine ⟨E',h1,h2,h3,fun v hv=>?_⟩
  cases hv with
  | lst _ _ A m c ad y hn hc hA hs hk h1' hh=>
   refine .lst _ _ A m c ad y (h4.trans hn) hc (fun hne=>hA (fun e=>hne (List.eq_nil_of_length_eq_zero (by rw [h4,e]; rfl)))) ?_ ?_ ?_ ?_
   ·intro i x hx
    obtain ⟨y',q1,q2,_⟩:=h5 i x hx
    exact q2.trans (hs i y' q1)
   ·intro i x j b hx hb
    obtain ⟨y',q1,_,q3⟩:=h5 i x hx
    obtain ⟨b',q4,_⟩:=q3 j b hb
    exact kcell_mono h1.K (hk i y' j b' q1 q4)
   ·intro i x j b hx hb
    obtain ⟨y',q1,_,q3⟩:=h5 i x hx
    obtain ⟨b',q4,_⟩:=q3 j b hb
    exact h1' i y' j b' q1 q4
   ·intro i x j b hx hb
    obtain ⟨y',q1,_,q3⟩:=h5 i x hx
    obtain ⟨b',q4,q5⟩:=q3 j b hb
    exact q5 _ (hh i y' j b' q1 q4)
 | _=>exact ⟨E,Env.le.refl E,fun _ h=>h,hr,fun _ h=>h⟩
theorem deepArgs_sound {w0:World} {K0:Nat→Option Obj} {D:Nat→Prop} {n:Nat} {fr:Frm} {a:Act} {w:World}:∀ (args:List AV) (E:Env) (hp:Hp),Rel w0 K0 D E n fr hp a w→∀ (vs:List Value),args.length=vs.length→(∀ (i:Nat) (x:AV) (v:Value),args[i]? = some x→vs[i]? = some v→Con E x v) →
  ∃ E',E.le E'∧(∀ id,E'.dom id→E.dom id)∧Rel w0 K0 D E' n fr (deepArgs hp args).2 a w∧(deepArgs hp args).1.length=vs.length∧∀ (i:Nat) (x:AV) (v:Value),(deepArgs hp args).1[i]? = some x→vs[i]? = some v→Con E' x v
 | [],E,hp,hr,vs,hl,h=>⟨E,Env.le.refl E,fun _ h=>h,hr,hl,fun i x v hx=>by simp [deepArgs] at hx⟩
 | x :: r,E,hp,hr,[],hl,h=>by simp at hl
 | x :: r,E,hp,hr,v :: vs,hl,h=>by
  obtain ⟨E1,h1,h2,h3,h4⟩:=deepArg_sound hr x
  obtain ⟨E2,k1,k2,k3,k4,k5⟩:=deepArgs_sound r E1 (deepArg hp x).2 h3 vs (by simpa using hl) fun i y u hy hu=>(h (i + 1) y u (by simpa using hy) (by simpa using hu)).mono h1
  refine ⟨E2,h1.trans k1,fun id hd=>h2 id (k2 id hd),k3,by simpa [deepArgs] using k4,?_⟩
  intro i y u hy hu
  cases i with
  | zero=>
   simp only [deepArgs,List.getElem?_cons_zero,Option.some.injEq] at hy hu
   subst hy; subst hu
   exact (h4 v (h 0 x v rfl rfl)).mono k1
  | succ i=>
   simp only [deepArgs,List.getElem?_cons_succ] at hy hu
   exact k5 i y u hy hu
theorem tabs_sound (hX:X.core) {g:FuncId} {args:List AV} {hp:Hp} {nx:Nat} {K:AV→Hp→Nat→Prop} {w0:World} {K0:Nat→Option Obj} {E:Env} {n:Nat} {fr:Frm} {a:Act} {w:World} {vs:Array Value}
  (hr:Rel w0 K0 (fun id=>id < nx) E n fr hp a w) (ha:ArgsCon E args vs) {r:AV} (h:(X.C g args=some r∧K r hp nx)∨(X.C g (frzArgs hp args).1=some r∧K r (frzArgs hp args).2 nx)∨(X.C g (frzDeep hp args).1=some r∧K r (frzDeep hp args).2 nx)) :
  Enters X.P g∧Calls X.P g vs w fun e w'=>∃ v r hp' nx' E',e=.returned v∧K r hp' nx'∧Ext E nx E' nx'∧Con E' r v∧Rel w0 K0 (fun id=>id < nx') E' n fr hp' a w':=by
 rcases h with ⟨hC,hk⟩ | ⟨hC,hk⟩ | ⟨hC,hk⟩
 ·obtain ⟨h1,h2⟩:=tab_sound hX hC hr ha
  refine ⟨h1,h2.mono ?_⟩
  rintro e w' ⟨v,E',rfl,k1,k2,k3,k4⟩
  exact ⟨v,r,hp,nx,E',rfl,hk,⟨k1,Nat.le_refl _,fun id hd=>.inl (k3 id hd)⟩,k2,k4⟩
 ·obtain ⟨E1,e1,e2,e3,e4,e5⟩:=frzArgs_sound args E hp hr vs.toList (by simpa using ha.1) fun i x v hx hv=>ha.2 i x v hx (by simpa using hv)
  obtain ⟨h1,h2⟩:=tab_sound hX hC e3 (vs:=vs) ⟨by simpa using e4,fun i x v hx hv=>e5 i x v hx (by simpa using hv)⟩
  refine ⟨h1,h2.mono ?_⟩
  rintro e w' ⟨v,E',rfl,k1,k2,k3,k4⟩
  exact ⟨v,r,_,nx,E',rfl,hk,⟨e1.trans k1,Nat.le_refl _,fun id hd=>.inl (e2 id (k3 id hd))⟩,k2,k4⟩
 ·obtain ⟨E1,e1,e2,e3,e4,e5⟩:=frzArgs_sound args E hp hr vs.toList (by simpa using ha.1) fun i x v hx hv=>ha.2 i x v hx (by simpa using hv)
  obtain ⟨E2,d1,d2,d3,d4,d5⟩:=deepArgs_sound (frzArgs hp args).1 E1 (frzArgs hp args).2 e3 vs.toList e4 e5
  obtain ⟨h1,h2⟩:=tab_sound hX hC d3 (vs:=vs) ⟨d4.trans (by simp),fun i x v hx hv=>d5 i x v hx (by simpa using hv)⟩
  refine ⟨h1,h2.mono ?_⟩
  rintro e w' ⟨v,E',rfl,k1,k2,k3,k4⟩
  exact ⟨v,r,_,nx,E',rfl,hk,⟨(e1.trans d1).trans k1,Nat.le_refl _,fun id hd=>.inl (e2 id (d2 id (k3 id hd)))⟩,k2,k4⟩
structure Ctx.ok (X:Ctx):Prop where
 core:X.core
 rd:X.rd=none
 inv:∀ w0 E,X.inv w0 E
 noY:∀ id args hp nx K,¬ X.Y id args hp nx K
theorem callN_sound (hX:X.core) (hrd:X.rd=none) (hinv:∀ w0 E,X.inv w0 E):∀ n,CallSound X (callN X n)
 | 0=>by
  intro g args hp nx K h w0 K0 E n fr a w vs hr ha
  simp only [callN] at h
  split at h
  ·rename_i r hC
   exact tabs_sound hX hr ha (.inl ⟨hC,h⟩)
  ·split at h
   ·rename_i r hC
    exact tabs_sound hX hr ha (.inr (.inl ⟨hC,h⟩))
   ·split at h
    ·rename_i r hC
     exact tabs_sound hX hr ha (.inr (.inr ⟨hC,h⟩))
    ·exact h.elim
 | k + 1=>by
  intro g args hp nx K h w0 K0 E n fr a w vs hr ha
  simp only [callN] at h
  split at h
  ·rename_i r hC
   exact tabs_sound hX hr ha (.inl ⟨hC,h⟩)
  ·split at h
   ·rename_i r hC
    exact tabs_sound hX hr ha (.inr (.inl ⟨hC,h⟩))
   ·split at h
    ·rename_i r hC
     exact tabs_sound hX hr ha (.inr (.inr ⟨hC,h⟩))
    ·split at h
     ·rename_i fn hfn
      obtain ⟨h1,h2,h3⟩:=h
      split at h3
      ·rename_i body hb
       exact ⟨⟨fn,hfn,h1,by rw [hb]; rfl⟩,body_calls hX hrd (callN_sound hX hrd hinv k) hfn hb h2 h3 (hinv _ _) hr ha⟩
      ·exact h3.elim
     ·exact h.elim
end
end Go.Vai

/- Functions that only compute, from the evaluator; what they answer is told without their own blocks. -/
namespace Go.Vai
open Go.RowKit
theorem hfree_v (x:Value):HFree (.v x):=fun _ _ h=>by cases h; exact .v _
theorem hfree_top:HFree .top:=fun _ _ h=>by cases h; exact .top _
theorem hfree_agg {cs:List AV} (h:∀ c∈cs,HFree c):HFree (.agg cs):=fun E _ k=>by
 cases k with
 | agg _ xs hl hx=>exact .agg _ _ hl fun i a x ha hv=>h a (List.mem_of_getElem? ha) E x (hx i a x ha hv)
theorem hfree_lst {sz:Nat} {xs:List AV} (h:∀ x∈xs,∀ c∈x.cells,HFree c):HFree (.lst sz xs):=fun E _ k=>by
 cases k with
 | lst _ _ A n c ad y hn hc hA hs hk h1 hx=>exact .lst _ _ A n c ad y hn hc hA hs hk h1 fun i a j b ha hb=>h a (List.mem_of_getElem? ha) b (List.mem_of_getElem? hb) E _ (hx i a j b ha hb)
theorem hfree_fn {f:Fn} {a b:List AV} (h:∀ x∈a,HFree x) (h':∀ x∈b,HFree x):HFree (.fn f a b):=fun E _ k=>by
 cases k with
 | fn _ _ _ xs ys hl hm hx hy=>exact .fn _ _ _ _ _ hl hm (fun i u x hu hv=>h u (List.mem_of_getElem? hu) E x (hx i u x hu hv)) (fun i u x hu hv=>h' u (List.mem_of_getElem? hu) E x (hy i u x hu hv))
theorem hfree_tup {cs:List AV} (h:∀ c∈cs,HFree c):HFree (.tup cs):=fun E _ k=>by
 cases k with
 | tup _ xs hl hx=>exact .tup _ _ hl fun i a x ha hv=>h a (List.mem_of_getElem? ha) E x (hx i a x ha hv)
def frzA (hp:Hp):AV→(AV→Prop)→Prop
 | .arr id off len,K=>match hlk hp id with
  | some b=>off + len≤b.el.length∧(∀ x∈(b.el.drop off).take len,∀ c∈x.cells,HFree c)∧K (.lst b.sz ((b.el.drop off).take len))
  | none=>False
 | .mp id,K=>match hlk hp id with
  | some b=>(∀ x∈b.el,HFree x)∧K (.fm b.el)
  | none=>False
 | .v x,K=>K (.v x)
 | x,K=>HFree x∧K x
def frzs (hp:Hp):List AV→List AV→(List AV→Prop)→Prop
 | [],acc,K=>K acc
 | x :: r,acc,K=>frzA hp x fun y=>frzs hp r (acc ++ [y]) K
def frz1 (hp:Hp):AV→(AV→Prop)→Prop
 | .agg cs,K=>frzs hp cs [] fun ds=>K (.agg ds)
 | x,K=>frzA hp x K
def frzt (hp:Hp):List AV→List AV→(List AV→Prop)→Prop
 | [],acc,K=>K acc
 | x :: r,acc,K=>frz1 hp x fun y=>frzt hp r (acc ++ [y]) K
def frz (hp:Hp):AV→(AV→Prop)→Prop
 | .tup cs,K=>frzt hp cs [] fun ds=>K (.tup ds)
 | x,K=>frz1 hp x K
section
variable {X : Ctx}
theorem frzA_sound {w0:World} {K0:Nat→Option Obj} {D:Nat→Prop} {E:Env} {n:Nat} {fr:Frm} {hp:Hp} {a:Act} {w:World} (hr:Rel w0 K0 D E n fr hp a w) {K':Nat→Option Obj} (hK:∀ b o,E.K b=some o→K' b=some o) (hN:∀ b,w0.heap.size≤b→K' b=w.heap[b]?)
  {x:AV} {v:Value} (hx:Con E x v) {K:AV→Prop} (h:frzA hp x K):∃ y,K y∧Con (Env.bare K') y v:=by
 have hle:(Env.bare E.K).lec (Env.bare K'):=Env.bare_le _ hK
 have other:∀ y,HFree y∧K y→Con E y v→∃ y,K y∧Con (Env.bare K') y v:=fun y hy hc=>⟨y,hy.2,(hy.1 E v hc).monoc hle⟩
 cases x with
 | arr id off len=>
  simp only [frzA] at h
  split at h
  ·rename_i b hb
   obtain ⟨h1,h2,h3⟩:=h
   refine ⟨_,h3,?_⟩
   obtain ⟨hd,hsz,hpos,_,hown⟩:=hr.own id b hb
   have hlen:((b.el.drop off).take len).length=len:=by simp; omega
   have nil:len=0→∀ {A:Option Addr} {c:Nat},Con (Env.bare K') (.lst b.sz ((b.el.drop off).take len)) (.slice A len c):=by
    intro h0 A c
    subst h0
    exact .lst _ _ A 0 c ⟨0,0,none⟩ (fun _ _=>undef) (by simp) (Nat.zero_le _) (by simp) (by simp) (by simp) (by simp) (by simp)
   cases hx with
   | arr0 _ hd hg=>exact nil rfl
   | arr _ _ _ g o c hd hg ho hc hl=>
    by_cases h0:len=0
    ·exact nil h0
    rcases hown with ⟨k1,_⟩ | ⟨g',cur,k1,k2,k3,k4,k5,k6,k7,k8⟩
    ·rw [k1] at hg; cases hg
    rw [k1] at hg; cases hg
    have ho':o=off * b.sz:=by
     rcases ho with e | e
     ·omega
     ·rw [e,hsz]
    subst ho'
    have el:∀ (i:Nat) (x:AV),((b.el.drop off).take len)[i]? = some x→i < len∧b.el[off + i]? = some x:=by
     intro i x hx
     rw [List.getElem?_take] at hx
     split at hx
     ·rename_i hi; rw [List.getElem?_drop] at hx; exact ⟨hi,hx⟩
     ·cases hx
    have cell:∀ (i:Nat) (x:AV) (j:Nat) (c:AV),((b.el.drop off).take len)[i]? = some x→x.cells[j]? = some c →
      ∃ y,cur[(off + i) * b.sz + j]? = some y∧y.oneCell'=true∧Con E c y:=fun i x j c hx hc=>(k8 (off + i) x (el i x hx).2).2 j c hc
    refine .lst _ _ _ len c ⟨g,off * b.sz,none⟩ (fun i j=>(cur[(off + i) * b.sz + j]?).getD undef) hlen hl (fun _=>rfl) (fun i x hx=>(k8 _ x (el i x hx).2).1) ?_ ?_ ?_
    ·intro i x j c hx hc
     obtain ⟨y,e,_,_⟩:=cell i x j c hx hc
     rw [add_plain']
     simp only [e,Option.getD_some,kcell,Env.bare]
     rw [hN g k2,k3]
     simp only [Option.isSome_none,Bool.false_eq_true,if_false]
     rw [show off * b.sz + (i * b.sz + j)=(off + i) * b.sz + j by rw [Nat.add_mul]; omega]
     exact e
    ·intro i x j c hx hc
     obtain ⟨y,e,h',_⟩:=cell i x j c hx hc
     simp only [e,Option.getD_some]; exact h'
    ·intro i x j c hx hc
     obtain ⟨y,e,_,h'⟩:=cell i x j c hx hc
     simp only [e,Option.getD_some]
     exact (h2 x (List.mem_of_getElem? hx) c (List.mem_of_getElem? hc) E y h').monoc hle
  ·exact h.elim
 | mp id=>
  simp only [frzA] at h
  split at h
  ·rename_i b hb
   obtain ⟨h1,h2⟩:=h
   cases hx with
   | mp _ l hd hg hl=>
    obtain ⟨ws,e0,e1,e2,e3,e4⟩:=hr.loopIs hb hg l _ hl
    have hmel:MapEl E id b.el:=by
     rcases (hr.own id b hb).2.2.2.2 with ⟨_,h2,_⟩ | ⟨g,cur,h1,_⟩
     ·exact h2
     ·rw [hg] at h1; cases h1
    have hB:w0.heap.size≤l:=by
     rcases e2 with ⟨L,e⟩ | ⟨hB,_⟩
     ·cases e
     ·exact hB
    exact ⟨_,h2,.fm _ l ws e0.1 ((hN l hB).trans e1) hmel.2 fun i x v hi hv=>(h1 x (List.mem_of_getElem? hi) E v (e0.2 i x v hi hv)).monoc hle⟩
  ·exact h.elim
 | v u=>cases hx; exact ⟨_,h,.v _⟩
 | _=>exact other _ h hx
theorem frzs_sound {w0:World} {K0:Nat→Option Obj} {D:Nat→Prop} {E:Env} {n:Nat} {fr:Frm} {hp:Hp} {a:Act} {w:World} (hr:Rel w0 K0 D E n fr hp a w) {K':Nat→Option Obj} (hK:∀ b o,E.K b=some o→K' b=some o) (hN:∀ b,w0.heap.size≤b→K' b=w.heap[b]?) :
  ∀ (xs:List AV) (vs:List Value) (acc:List AV) (us:List Value) (K:List AV→Prop),xs.length=vs.length→(∀ (i:Nat) (x:AV) (v:Value),xs[i]? = some x→vs[i]? = some v→Con E x v)→acc.length=us.length →
   (∀ (i:Nat) (x:AV) (v:Value),acc[i]? = some x→us[i]? = some v→Con (Env.bare K') x v)→frzs hp xs acc K →
   ∃ ys,K ys∧ys.length=(us ++ vs).length∧(∀ (i:Nat) (x:AV) (v:Value),ys[i]? = some x→(us ++ vs)[i]? = some v→Con (Env.bare K') x v)
 | [],vs,acc,us,K,hl,_,hl',ha,h=>by
  have:vs=[]:=List.length_eq_zero_iff.1 hl.symm
  subst this
  exact ⟨acc,h,by simpa using hl',by simpa using ha⟩
 | x :: xs,[],acc,us,K,hl,_,_,_,_=>by simp at hl
 | x :: xs,v :: vs,acc,us,K,hl,hx,hl',ha,h=>by
  obtain ⟨y,hy,hc⟩:=frzA_sound hr hK hN (hx 0 x v rfl rfl) h
  obtain ⟨ys,h1,h2,h3⟩:=frzs_sound hr hK hN xs vs (acc ++ [y]) (us ++ [v]) K (by simpa using hl) (fun i x' v' h1 h2=>hx (i + 1) x' v' (by simpa using h1) (by simpa using h2)) (by simpa using hl') (by
   intro i z u hz hu
   rw [List.getElem?_append] at hz hu
   rw [hl'] at hz
   split at hz
   ·rename_i hi; rw [if_pos hi] at hu; exact ha i z u hz hu
   ·rename_i hi
    rw [if_neg hi] at hu
    rw [List.getElem?_singleton] at hz hu
    split at hz
    ·rename_i h0; rw [if_pos h0] at hu; cases hz; cases hu; exact hc
    ·cases hz) hy
  exact ⟨ys,h1,by simpa using h2,by simpa using h3⟩
theorem frz1_sound {w0:World} {K0:Nat→Option Obj} {D:Nat→Prop} {E:Env} {n:Nat} {fr:Frm} {hp:Hp} {a:Act} {w:World} (hr:Rel w0 K0 D E n fr hp a w) {K':Nat→Option Obj} (hK:∀ b o,E.K b=some o→K' b=some o) (hN:∀ b,w0.heap.size≤b→K' b=w.heap[b]?)
  {x:AV} {v:Value} (hx:Con E x v) {K:AV→Prop} (h:frz1 hp x K):∃ y,K y∧Con (Env.bare K') y v:=by
 cases x with
 | agg cs=>
  cases hx with
  | agg _ xs hl hc=>
   obtain ⟨ys,h1,h2,h3⟩:=frzs_sound hr hK hN cs xs.toList [] [] _ (by simpa using hl) (by simpa using hc) rfl (by simp) h
   exact ⟨_,h1,.agg _ _ (by simpa using h2) (by simpa using h3)⟩
 | _=>exact frzA_sound hr hK hN hx h
theorem frzt_sound {w0:World} {K0:Nat→Option Obj} {D:Nat→Prop} {E:Env} {n:Nat} {fr:Frm} {hp:Hp} {a:Act} {w:World} (hr:Rel w0 K0 D E n fr hp a w) {K':Nat→Option Obj} (hK:∀ b o,E.K b=some o→K' b=some o) (hN:∀ b,w0.heap.size≤b→K' b=w.heap[b]?) :
  ∀ (xs:List AV) (vs:List Value) (acc:List AV) (us:List Value) (K:List AV→Prop),xs.length=vs.length→(∀ (i:Nat) (x:AV) (v:Value),xs[i]? = some x→vs[i]? = some v→Con E x v)→acc.length=us.length →
   (∀ (i:Nat) (x:AV) (v:Value),acc[i]? = some x→us[i]? = some v→Con (Env.bare K') x v)→frzt hp xs acc K →
   ∃ ys,K ys∧ys.length=(us ++ vs).length∧(∀ (i:Nat) (x:AV) (v:Value),ys[i]? = some x→(us ++ vs)[i]? = some v→Con (Env.bare K') x v)
 | [],vs,acc,us,K,hl,_,hl',ha,h=>by
  have:vs=[]:=List.length_eq_zero_iff.1 hl.symm
  subst this
  exact ⟨acc,h,by simpa using hl',by simpa using ha⟩
 | x :: xs,[],acc,us,K,hl,_,_,_,_=>by simp at hl
 | x :: xs,v :: vs,acc,us,K,hl,hx,hl',ha,h=>by
  obtain ⟨y,hy,hc⟩:=frz1_sound hr hK hN (hx 0 x v rfl rfl) h
  obtain ⟨ys,h1,h2,h3⟩:=frzt_sound hr hK hN xs vs (acc ++ [y]) (us ++ [v]) K (by simpa using hl) (fun i x' v' h1 h2=>hx (i + 1) x' v' (by simpa using h1) (by simpa using h2)) (by simpa using hl') (by
   intro i z u hz hu
   rw [List.getElem?_append] at hz hu
   rw [hl'] at hz
   split at hz
   ·rename_i hi; rw [if_pos hi] at hu; exact ha i z u hz hu
   ·rename_i hi
    rw [if_neg hi] at hu
    rw [List.getElem?_singleton] at hz hu
    split at hz
    ·rename_i h0; rw [if_pos h0] at hu; cases hz; cases hu; exact hc
    ·cases hz) hy
  exact ⟨ys,h1,by simpa using h2,by simpa using h3⟩
theorem frz_sound {w0:World} {K0:Nat→Option Obj} {D:Nat→Prop} {E:Env} {n:Nat} {fr:Frm} {hp:Hp} {a:Act} {w:World} (hr:Rel w0 K0 D E n fr hp a w) {K':Nat→Option Obj} (hK:∀ b o,E.K b=some o→K' b=some o) (hN:∀ b,w0.heap.size≤b→K' b=w.heap[b]?)
  {x:AV} {v:Value} (hx:Con E x v) {K:AV→Prop} (h:frz hp x K):∃ y,K y∧Con (Env.bare K') y v:=by
 cases x with
 | tup cs=>
  cases hx with
  | tup _ xs hl hc=>
   obtain ⟨ys,h1,h2,h3⟩:=frzt_sound hr hK hN cs xs.toList [] [] _ (by simpa using hl) (by simpa using hc) rfl (by simp) h
   exact ⟨_,h1,.tup _ _ (by simpa using h2) (by simpa using h3)⟩
 | _=>exact frz1_sound hr hK hN hx h
theorem rel_start {w:World} {K:Nat→Option Obj} (hK:∀ b o,K b=some o→w.heap[b]? = some o):Rel w K (fun id=>id < 0) (Env.bare K) 0 [] [] { tmps:=#[],defers:=[] } w:=
 { below:=Below.refl _ _,kw:=hK,k0:=fun _ _ h _=>h,nd:=⟨fun _=>rfl,trivial⟩,size:=rfl,regs:=fun t ht=>(by omega),dom:=fun _ h=>h.elim,lw:=fun l id h=>(by cases h),out:=fun _ _=>rfl,own:=fun id b h=>(by cases h),inj:=fun id id' b b' g h=>(by cases h) }
end
end Go.Vai

/- A program's types, told from the program itself. -/
namespace Go.Vai
open Go.RowKit
def TK.isB:TK→TypeDesc→Bool
 | .int k,.int k'=>k == k'
 | .bool,.bool=>true
 | .slice e,.slice e'=>e == e'
 | .arr n e,.array n' e'=>n == n' && e == e'
 | .struct fs,.struct fa=>fa.toList.map (fun f=>(f.offset,f.type)) == fs && fa.all (fun f=>f.name != "_")
 | .ptr e,.pointer e'=>e == e'
 | .func,.func ..=>true
 | .tup,.tuple _=>true
 | .map k e,.map k' e'=>k == k' && e == e'
 | _,_=>false
theorem TK.is_of {k:TK} {d:TypeDesc} (h:k.isB d=true):k.is d:=by
 cases k <;> cases d <;> simp [TK.isB] at h <;> simp [TK.is,h]
def tenv (P:Program) (ks:List (Nat × TK)):TEnv:=fun t=>
 match ks.lookup t,P.info? t with
 | some k,some i=>⟨k,i.size,i.bytes,i.zero.getD undef⟩
 | _,_=>⟨.none,0,0,undef⟩
def kindOk (P:Program) (t:Nat) (k:TK):Bool:=
 match P.info? t,P.underlying t with
 | some i,some d=>(match i.zero with
  | some z=>z.cells.size == i.size && z.cells.toList.all Value.oneCell'
  | none=>false) && k.isB d && (match k with | .struct _=>!P.stoodInHeld t && !P.eqGuardType P.depth t | _=>true)
 | _,_=>false
def tenvOk (P:Program) (ks:List (Nat × TK)):Bool:=P.follows .mixedOrders && ks.all fun p=>kindOk P p.1 p.2
theorem tenv_ok {P:Program} {ks:List (Nat × TK)} (h:tenvOk P ks=true):TOk P (tenv P ks):=by
 simp only [tenvOk,Bool.and_eq_true,List.all_eq_true] at h
 obtain ⟨hm,hk⟩:=h
 have key:∀ t k i,ks.lookup t=some k→P.info? t=some i→kindOk P t k=true:=by
  intro t k i hl hi
  have:∀ l:List (Nat × TK),(∀ p∈l,kindOk P p.1 p.2=true)→l.lookup t=some k→kindOk P t k=true:=by
   intro l
   induction l with
   | nil=>intro _ h; cases h
   | cons p l ih=>
    intro hp hl
    obtain ⟨a,b⟩:=p
    simp only [List.lookup] at hl
    split at hl
    ·rename_i he
     cases hl
     have:=hp (a,k) (by simp)
     rw [eq_of_beq he]; exact this
    ·exact ih (fun p hp'=>hp p (by simp [hp'])) hl
  exact this ks hk hl
 refine ⟨fun t ht=>?_,fun t ht=>?_,hm⟩
 ·unfold tenv at ht ⊢
  cases hl:ks.lookup t with
  | none=>rw [hl] at ht; simp at ht
  | some k=>
   cases hi:P.info? t with
   | none=>rw [hl,hi] at ht; simp at ht
   | some i=>
    have hc:=key t k i hl hi
    simp only [kindOk,hi] at hc
    cases hu:P.underlying t with
    | none=>rw [hu] at hc; simp at hc
    | some d=>
     rw [hu] at hc
     simp only [Bool.and_eq_true] at hc
     obtain ⟨⟨h1,h2⟩,_⟩:=hc
     cases hz:i.zero with
     | none=>rw [hz] at h1; simp at h1
     | some z=>
      rw [hz] at h1
      simp only [Bool.and_eq_true,beq_iff_eq,List.all_eq_true] at h1
      exact ⟨i,d,rfl,rfl,rfl,rfl,by simp [hz],by simpa [hz] using h1.1,by simpa [hz] using h1.2,TK.is_of h2⟩
 ·unfold fieldsOf tenv at ht
  cases hl:ks.lookup t with
  | none=>rw [hl] at ht; simp at ht
  | some k=>
   cases hi:P.info? t with
   | none=>rw [hl,hi] at ht; simp at ht
   | some i=>
    have hc:=key t k i hl hi
    rw [hl,hi] at ht
    simp only [kindOk,hi] at hc
    cases hu:P.underlying t with
    | none=>rw [hu] at hc; simp at hc
    | some d=>
     rw [hu] at hc
     cases k with
     | struct fs=>
      simp only [Bool.and_eq_true,Bool.not_eq_true'] at hc
      exact hc.2
     | _=>simp at ht
end Go.Vai

/- The evaluator in a form that simp goes through: one operation's outcome is data, and nothing is unfolded below a binder. -/
namespace Go.Vai
open Go.RowKit
abbrev Outc:=Option (Prop × AV × Upd × List Nat)
def pre (p:Prop):Outc→Outc
 | some (q,x)=>some (p∧q,x)
 | none=>none
def outA (o:Outc) (K:AV→Upd→List Nat→Prop):Prop:=
 match o with
 | some (p,r,u,a)=>p∧K r u a
 | none=>False
def one (x:AV):Outc:=some (True,x,[],[])
def intOpR (op:BinOp) (k:IntKind) (a b:Int):Outc:=
 match op with
 | .add=>one (.v (.int k (k.wrap (a + b))))
 | .sub=>one (.v (.int k (k.wrap (a - b))))
 | .mul=>one (.v (.int k (k.wrap (a * b))))
 | .quo=>pre (b≠0) (one (.v (.int k (k.wrap (a.tdiv b)))))
 | .rem=>pre (b≠0) (one (.v (.int k (a.tmod b))))
 | .and=>one (.v (.int k (k.wrap (BitVec.ofInt k.bits a &&& BitVec.ofInt k.bits b).toNat)))
 | .or=>one (.v (.int k (k.wrap (BitVec.ofInt k.bits a ||| BitVec.ofInt k.bits b).toNat)))
 | .xor=>one (.v (.int k (k.wrap (BitVec.ofInt k.bits a ^^^ BitVec.ofInt k.bits b).toNat)))
 | .andNot=>one (.v (.int k (k.wrap (BitVec.ofInt k.bits a &&& ~~~(BitVec.ofInt k.bits b)).toNat)))
 | .eql=>one (.v (.bool (a == b)))
 | .neq=>one (.v (.bool (a != b)))
 | .lss=>one (.v (.bool (decide (a < b))))
 | .leq=>one (.v (.bool (decide (a≤b))))
 | .gtr=>one (.v (.bool (decide (a > b))))
 | .geq=>one (.v (.bool (decide (a ≥ b))))
 | _=>none
def shiftOpR (op:BinOp) (k:IntKind) (a b:Int):Outc:=
 match op with
 | .shl=>pre (0≤b) (one (.v (.int k (k.wrap (a * 2 ^ (min b.toNat k.bits))))))
 | .shr=>pre (0≤b) (one (.v (.int k (a.fdiv (2 ^ (min b.toNat k.bits))))))
 | _=>none
def binR (T:TEnv) (op:BinOp) (t:TypeId) (x y:AV):Outc:=
 match x,y with
 | .v (.int k a),.v (.int k' b)=>
  match op with
  | .shl=>shiftOpR .shl k a b
  | .shr=>shiftOpR .shr k a b
  | op=>pre (k=k') (intOpR op k a b)
 | .v (.bool a),.v (.bool b)=>
  match (T t).k,isEq op with
  | .bool,some e=>one (.v (.bool ((a == b) == e)))
  | _,_=>none
 | .agg xs,.agg ys=>
  match fieldsOf T t,isEq op with
  | some fs,some e=>match fieldsEq T 0 fs xs ys with
   | some b=>one (.v (.bool (b == e)))
   | none=>none
  | _,_=>none
 | x,.v (.slice none _ _)=>
  match (T t).k,isEq op,x with
  | .slice _,some e,.v (.slice none _ _)=>one (.v (.bool e))
  | .slice _,some e,.lst _ xs=>one (.nb xs e)
  | _,_,_=>none
 | _,_=>none
def unR (op:UnOp) (x:AV):Outc:=
 match op,x with
 | .not,.v (.bool b)=>one (.v (.bool (!b)))
 | .neg,.v (.int k n)=>one (.v (.int k (k.wrap (0 - n))))
 | _,_=>none
theorem bin_out (T:TEnv) (op:BinOp) (t:TypeId) (x y:AV) (K:AV→Upd→List Nat→Prop):(binA T op t x y fun r=>K r [] [])=outA (binR T op t x y) K:=by
 unfold binA binR
 split
 ·cases op <;> simp [shiftOp,shiftOpR,intOp,intOpR,pre,outA,one,and_assoc]
 ·split <;> simp_all [outA,one]
 ·split
  ·split <;> simp_all [outA,one]
  ·simp_all [outA]
 ·split <;> simp_all [outA,one]
 ·simp_all [outA]
theorem un_out (op:UnOp) (x:AV) (K:AV→Upd→List Nat→Prop):(unA op x fun r=>K r [] [])=outA (unR op x) K:=by
 unfold unA unR
 split <;> simp_all [outA,one]
def aopR (T:TEnv) (o:Op) (ρ:Operand→AV) (H:Nat→Option Blk) (me:Nat):Outc:=
 match o with
 | .move x=>one (ρ x)
 | .assign x=>one (ρ x)
 | .pick c a b=>match ρ c with
  | .v (.bool c')=>match c',ρ a,ρ b with
   | true,x,_=>one x
   | false,_,y=>one y
  | _=>none
 | .alloc t=>some ((T t).k≠.none∧0 < (T t).size,.ptr me 0 0,[(me,some ⟨false,t,(T t).size,[ofVal (T t).zero]⟩)],[])
 | .box t x=>some ((T t).k≠.none∧0 < (T t).size∧(ρ x).wr (T t).size=true,.ptr me 0 0,[(me,some ⟨false,t,(T t).size,[ρ x]⟩)],[])
 | .build t parts=>match (T t).k with
  | .struct fs=>match fillA (fun i=>(fs[i]?).map fun f=>(f.1,(T f.2).size)) (ofVal (T t).zero).cells (parts.toList.map fun p=>(p.1,ρ p.2)) with
   | some cs=>some ((fs.all fun f=>(T f.2).k≠.none)=true,.agg cs,[],[])
   | none=>none
  | .arr _ e=>match fillA (fun i=>some (i * (T e).size,(T e).size)) (ofVal (T t).zero).cells (parts.toList.map fun p=>(p.1,ρ p.2)) with
   | some cs=>some ((T e).k≠.none,.agg cs,[],[])
   | none=>none
  | _=>none
 | .buildSlice t len parts=>match (T t).k with
  | .slice e=>match setElems (T e).size (List.replicate len (ofVal (T e).zero)) (parts.toList.map fun p=>(p.1,ρ p.2)) with
   | some el=>some ((T e).k≠.none∧0 < (T e).size∧len * (T e).size≤16777216,.arr me 0 len,[(me,some ⟨false,e,(T e).size,el⟩)],[])
   | none=>none
  | _=>none
 | .load t a=>pre ((T t).k≠.none) (match ρ a with
  | .ptr id i off=>match H id with
   | some b=>some (i < b.el.length∧off + (T t).size≤(b.el.getD i .top).cells.length∧0 < (T t).size∧((T t).k.agg=false→(T t).size=1),
     ofCells (T t).k.agg (T t).size ((b.el.getD i .top).cells.drop off),[],[id])
   | none=>none
  | .rptr cs=>some ((T t).size≤cs.length∧0 < (T t).size∧((T t).k.agg=false→(T t).size=1),ofCells (T t).k.agg (T t).size cs,[],[])
  | _=>none)
 | .store t a y=>pre ((T t).k≠.none) (match ρ a with
  | .ptr id i off=>match H id with
   | some b=>some (b.ro=false∧i < b.el.length∧off + (T t).size≤(b.el.getD i .top).cells.length∧(ρ y).wr (T t).size=true∧((b.el.getD i .top).cells.length=b.sz)∧0 < (T t).size,
     .top,[(id,some { b with el:=b.el.set i (setCells (b.el.getD i .top) off (ρ y).cells) })],[id])
   | none=>none
  | _=>none)
 | .nilCheck x=>match ρ x with
  | .ptr id i off=>one (.ptr id i off)
  | .rptr cs=>one (.rptr cs)
  | .fn (.func f) a b=>one (.fn (.func f) a b)
  | _=>none
 | .binOp op t x y _=>binR T op t (ρ x) (ρ y)
 | .unOp op _ x=>unR op (ρ x)
 | .convert src dst x=>pre ((T src).k≠.none) (match (T dst).k,ρ x with
  | .int k,.v (.int _ n)=>one (.v (.int k (k.wrap n)))
  | _,_=>none)
 | .makeFunc f first cap=>one (.fn f (first.toList.map ρ) (cap.toList.map ρ))
 | .slice t x lo hi mx=>match (T t).k with
  | .slice e=>pre ((T e).k≠.none) (match lenOf (ρ x) with
   | some n=>match bndA (lo.map ρ) 0,bndA (hi.map ρ) n,bndA (mx.map ρ) n with
    | some l,some h,some m=>pre ((mx.isSome→hi.isSome)∧0≤l∧l≤h∧h≤m∧m≤n) (match ρ x with
     | .v (.slice none 0 0)=>one (.v (.slice none 0 0))
     | .lst sz xs=>some (sz=(T e).size,.lst sz ((xs.drop l.toNat).take (h.toNat - l.toNat)),[],[])
     | .arr id off _=>some ((match H id with | some b=>b.sz=(T e).size | none=>False),.arr id (off + l.toNat) (h.toNat - l.toNat),[],[id])
     | _=>none)
    | _,_,_=>none
   | none=>none)
  | _=>none
 | .fieldAddr s x f=>match (T s).k with
  | .struct fs=>match fs[f]? with
   | some (off',ft)=>pre ((T ft).k≠.none∧0 < (T ft).size) (match ρ x with
    | .ptr id i off=>one (.ptr id i (off + off'))
    | .rptr cs=>one (.rptr (cs.drop off'))
    | _=>none)
   | none=>none
  | _=>none
 | .field s x f=>match (T s).k with
  | .struct fs=>match fs[f]?,ρ x with
   | some (off',ft),.agg cs=>some ((T ft).k≠.none∧off' + (T ft).size≤cs.length∧0 < (T ft).size∧((T ft).k.agg=false→(T ft).size=1),
     ofCells (T ft).k.agg (T ft).size (cs.drop off'),[],[])
   | _,_=>none
  | _=>none
 | .indexAddr t x ix=>match (T t).k,ρ ix with
  | .slice e,.v (.int _ i)=>pre ((T e).k≠.none) (match ρ x with
   | .lst sz xs=>some (sz=(T e).size∧0≤i∧i < xs.length,.rptr (xs.getD i.toNat .top).cells,[],[])
   | .arr id off len=>some ((match H id with | some b=>b.sz=(T e).size | none=>False)∧0≤i∧i < len,.ptr id (off + i.toNat) 0,[],[id])
   | _=>none)
  | .arr n e,.v (.int _ i)=>pre ((T e).k≠.none∧0 < (T e).size∧0≤i∧i < n) (match ρ x with
   | .ptr id k off=>one (.ptr id k (off + i.toNat * (T e).size))
   | .rptr cs=>one (.rptr (cs.drop (i.toNat * (T e).size)))
   | _=>none)
  | _,_=>none
 | .index t x ix=>match (T t).k,ρ x,ρ ix with
  | .arr n e,.agg cs,.v (.int _ i)=>some ((T e).k≠.none∧0≤i∧i < n∧i.toNat * (T e).size + (T e).size≤cs.length∧0 < (T e).size∧((T e).k.agg=false→(T e).size=1),
    ofCells (T e).k.agg (T e).size (cs.drop (i.toNat * (T e).size)),[],[])
  | _,_,_=>none
 | .extract x i=>match ρ x with
  | .tup vs=>some (i < vs.length,vs.getD i .top,[],[])
  | _=>none
 | .call { callee:=.builtin .len,args:=args,argTypes:=ts }=>match args.toList,ts.toList with
  | [x],[t]=>match (T t).k,lenOf (ρ x) with
   | .slice _,some n=>one (.v (.int .i64 n))
   | _,_=>none
  | _,_=>none
 | .call { callee:=.builtin .append,args:=args,argTypes:=ts }=>match args.toList,ts.toList with
  | [s,x],[t,t']=>pre (t=t') (match (T t).k,asLst H (ρ x) with
   | .slice e,some ys=>pre ((T e).k≠.none∧0 < (T e).size∧0 < (T e).bytes∧srcOk T H e (ρ x)) (match ρ s with
    | .v (.slice none 0 0)=>some (ys.length * (T e).bytes≤140737488355328,.arr me 0 ys.length,[(me,some ⟨false,e,(T e).size,ys⟩)],idOf (ρ x))
    | .arr id 0 n=>match H id with
     | some b=>some (b.ro=false∧b.ty=e∧b.sz=(T e).size∧n≤b.el.length∧(n + ys.length) * (T e).bytes≤140737488355328,
      .arr me 0 (n + ys.length),[(me,some ⟨false,e,(T e).size,b.el.take n ++ ys⟩),(id,none)],(id :: idOf (ρ x)))
     | none=>none
    | _=>none)
   | _,_=>none)
  | _,_=>none
 | .makeSlice t x y=>match (T t).k with
  | .slice e=>match ρ x with
   | .v (.int _ l)=>match ρ y with
    | .v (.int _ l')=>some (l=l'∧(T e).k≠.none∧0 < (T e).size∧0≤l∧l.toNat * (T e).size≤16777216∧l.toNat * (T e).bytes≤140737488355328,
     .arr me 0 l.toNat,[(me,some ⟨false,e,(T e).size,List.replicate l.toNat (ofVal (T e).zero)⟩)],[])
    | _=>none
   | _=>none
  | _=>none
 | .call { callee:=.builtin .copy,args:=args,argTypes:=ts }=>match args.toList,ts.toList with
  | [s,x],[t,_]=>match (T t).k with
   | .slice e=>match asLst H (ρ x) with
    | some ys=>match ρ s with
     | .arr id off m=>match H id with
      | some b=>some ((T e).k≠.none∧0 < (T e).size∧srcOk T H e (ρ x)∧b.ro=false∧b.sz=(T e).size∧off + m≤b.el.length,
       .v (.int .i64 (ys.take m).length),[(id,some { b with el:=b.el.take off ++ ys.take m ++ b.el.drop (off + (ys.take m).length) })],id :: idOf (ρ x))
      | none=>none
     | _=>none
    | none=>none
   | _=>none
  | _,_=>none
 | o=>mapO T o ρ H me
theorem aop_out (T : TEnv) (o : Op) (ρ : Operand → AV) (H : Nat → Option Blk) (me : Nat) (K : AV → Upd → List Nat → Prop) : aop T o ρ H me K = outA (aopR T o ρ H me) K := by
  cases o
  case call c =>
    obtain ⟨callee, args, ts⟩ := c
    cases callee
    case builtin b =>
      cases b
      all_goals (unfold aop aopR; dsimp only)
      all_goals first
        | (rfl)
        | (repeat' split
           all_goals try simp_all [outA, one, pre, and_assoc]
           all_goals try (rename_i h; exact (h _ rfl).elim)
           all_goals try (rename_i h; exact (h _ _ rfl rfl).elim)
           all_goals try (rename_i h; exact (h _ _ _ rfl rfl rfl).elim)
           all_goals try (rename_i h; exact (h _ _ _ _ rfl rfl rfl rfl).elim)
           all_goals try (rename_i h; exact (h _ _ _ _ _ rfl rfl rfl rfl rfl).elim)
           all_goals try (rename_i h _; exact (h _ rfl).elim)
           all_goals try (rename_i h _; exact (h _ _ rfl rfl).elim)
           all_goals try (rename_i h _; exact (h _ _ _ rfl rfl rfl).elim)
           all_goals try (rename_i h _; exact (h _ _ _ _ rfl rfl rfl rfl).elim)
           all_goals try (rename_i h _; exact (h _ _ _ _ _ rfl rfl rfl rfl rfl).elim)
           all_goals try (rename_i h _ _; exact (h _ rfl).elim)
           all_goals try (rename_i h _ _; exact (h _ _ rfl rfl).elim)
           all_goals try (rename_i h _ _; exact (h _ _ _ rfl rfl rfl).elim)
           all_goals try (rename_i h _ _; exact (h _ _ _ _ rfl rfl rfl rfl).elim)
           all_goals try (rename_i h _ _; exact (h _ _ _ _ _ rfl rfl rfl rfl rfl).elim)
           all_goals try (rename_i h _ _ _; exact (h _ rfl).elim)
           all_goals try (rename_i h _ _ _; exact (h _ _ rfl rfl).elim)
           all_goals try (rename_i h _ _ _; exact (h _ _ _ rfl rfl rfl).elim)
           all_goals try (rename_i h _ _ _; exact (h _ _ _ _ rfl rfl rfl rfl).elim)
           all_goals try (rename_i h _ _ _; exact (h _ _ _ _ _ rfl rfl rfl rfl rfl).elim)
           all_goals try (rename_i h _ _ _ _; exact (h _ rfl).elim)
           all_goals try (rename_i h _ _ _ _; exact (h _ _ rfl rfl).elim)
           all_goals try (rename_i h _ _ _ _; exact (h _ _ _ rfl rfl rfl).elim)
           all_goals try (rename_i h _ _ _ _; exact (h _ _ _ _ rfl rfl rfl rfl).elim)
           all_goals try (rename_i h _ _ _ _; exact (h _ _ _ _ _ rfl rfl rfl rfl rfl).elim)
           all_goals try (rename_i h _ _ _ _ _; exact (h _ rfl).elim)
           all_goals try (rename_i h _ _ _ _ _; exact (h _ _ rfl rfl).elim)
           all_goals try (rename_i h _ _ _ _ _; exact (h _ _ _ rfl rfl rfl).elim)
           all_goals try (rename_i h _ _ _ _ _; exact (h _ _ _ _ rfl rfl rfl rfl).elim)
           all_goals try (rename_i h _ _ _ _ _; exact (h _ _ _ _ _ rfl rfl rfl rfl rfl).elim)
           all_goals try (rename_i h _ _ _ _ _ _; exact (h _ rfl).elim)
           all_goals try (rename_i h _ _ _ _ _ _; exact (h _ _ rfl rfl).elim)
           all_goals try (rename_i h _ _ _ _ _ _; exact (h _ _ _ rfl rfl rfl).elim)
           all_goals try (rename_i h _ _ _ _ _ _; exact (h _ _ _ _ rfl rfl rfl rfl).elim)
           all_goals try (rename_i h _ _ _ _ _ _; exact (h _ _ _ _ _ rfl rfl rfl rfl rfl).elim)
           all_goals try (rename_i h _ _ _ _ _ _ _; exact (h _ rfl).elim)
           all_goals try (rename_i h _ _ _ _ _ _ _; exact (h _ _ rfl rfl).elim)
           all_goals try (rename_i h _ _ _ _ _ _ _; exact (h _ _ _ rfl rfl rfl).elim)
           all_goals try (rename_i h _ _ _ _ _ _ _; exact (h _ _ _ _ rfl rfl rfl rfl).elim)
           all_goals try (rename_i h _ _ _ _ _ _ _; exact (h _ _ _ _ _ rfl rfl rfl rfl rfl).elim))
    all_goals (unfold aop aopR; dsimp only; rfl)
  all_goals (unfold aop aopR; dsimp only)
  all_goals first
    | exact bin_out ..
    | exact un_out ..
    | (rfl)
    | (simp only [outA, one, true_and, and_assoc]; done)
    | (repeat' split
       all_goals try simp_all [outA, one, pre, and_assoc]
       all_goals try (rename_i h; exact (h _ rfl).elim)
       all_goals try (rename_i h; exact (h _ _ rfl rfl).elim)
       all_goals try (rename_i h; exact (h _ _ _ rfl rfl rfl).elim)
       all_goals try (rename_i h; exact (h _ _ _ _ rfl rfl rfl rfl).elim)
       all_goals try (rename_i h; exact (h _ _ _ _ _ rfl rfl rfl rfl rfl).elim)
       all_goals try (rename_i h _; exact (h _ rfl).elim)
       all_goals try (rename_i h _; exact (h _ _ rfl rfl).elim)
       all_goals try (rename_i h _; exact (h _ _ _ rfl rfl rfl).elim)
       all_goals try (rename_i h _; exact (h _ _ _ _ rfl rfl rfl rfl).elim)
       all_goals try (rename_i h _; exact (h _ _ _ _ _ rfl rfl rfl rfl rfl).elim)
       all_goals try (rename_i h _ _; exact (h _ rfl).elim)
       all_goals try (rename_i h _ _; exact (h _ _ rfl rfl).elim)
       all_goals try (rename_i h _ _; exact (h _ _ _ rfl rfl rfl).elim)
       all_goals try (rename_i h _ _; exact (h _ _ _ _ rfl rfl rfl rfl).elim)
       all_goals try (rename_i h _ _; exact (h _ _ _ _ _ rfl rfl rfl rfl rfl).elim)
       all_goals try (rename_i h _ _ _; exact (h _ rfl).elim)
       all_goals try (rename_i h _ _ _; exact (h _ _ rfl rfl).elim)
       all_goals try (rename_i h _ _ _; exact (h _ _ _ rfl rfl rfl).elim)
       all_goals try (rename_i h _ _ _; exact (h _ _ _ _ rfl rfl rfl rfl).elim)
       all_goals try (rename_i h _ _ _; exact (h _ _ _ _ _ rfl rfl rfl rfl rfl).elim)
       all_goals try (rename_i h _ _ _ _; exact (h _ rfl).elim)
       all_goals try (rename_i h _ _ _ _; exact (h _ _ rfl rfl).elim)
       all_goals try (rename_i h _ _ _ _; exact (h _ _ _ rfl rfl rfl).elim)
       all_goals try (rename_i h _ _ _ _; exact (h _ _ _ _ rfl rfl rfl rfl).elim)
       all_goals try (rename_i h _ _ _ _; exact (h _ _ _ _ _ rfl rfl rfl rfl rfl).elim)
       all_goals try (rename_i h _ _ _ _ _; exact (h _ rfl).elim)
       all_goals try (rename_i h _ _ _ _ _; exact (h _ _ rfl rfl).elim)
       all_goals try (rename_i h _ _ _ _ _; exact (h _ _ _ rfl rfl rfl).elim)
       all_goals try (rename_i h _ _ _ _ _; exact (h _ _ _ _ rfl rfl rfl rfl).elim)
       all_goals try (rename_i h _ _ _ _ _; exact (h _ _ _ _ _ rfl rfl rfl rfl rfl).elim)
       all_goals try (rename_i h _ _ _ _ _ _; exact (h _ rfl).elim)
       all_goals try (rename_i h _ _ _ _ _ _; exact (h _ _ rfl rfl).elim)
       all_goals try (rename_i h _ _ _ _ _ _; exact (h _ _ _ rfl rfl rfl).elim)
       all_goals try (rename_i h _ _ _ _ _ _; exact (h _ _ _ _ rfl rfl rfl rfl).elim)
       all_goals try (rename_i h _ _ _ _ _ _; exact (h _ _ _ _ _ rfl rfl rfl rfl rfl).elim)
       all_goals try (rename_i h _ _ _ _ _ _ _; exact (h _ rfl).elim)
       all_goals try (rename_i h _ _ _ _ _ _ _; exact (h _ _ rfl rfl).elim)
       all_goals try (rename_i h _ _ _ _ _ _ _; exact (h _ _ _ rfl rfl rfl).elim)
       all_goals try (rename_i h _ _ _ _ _ _ _; exact (h _ _ _ _ rfl rfl rfl rfl).elim)
       all_goals try (rename_i h _ _ _ _ _ _ _; exact (h _ _ _ _ _ rfl rfl rfl rfl rfl).elim))

end Go.Vai

/- The evaluator's rules for simp: each fires at a state that is written out, so none below a binder. -/
namespace Go.Vai
open Go.RowKit
section
variable {X : Ctx} {F : CallF} {n nx : Nat} {fr : Frm} {hp : Hp} {Q : Exit → St → Prop}
def after (n:Nat) (fr:Frm) (hp:Hp) (nx:Nat) (dst:Option Tmp) (K:St→Prop):Outc→Prop
 | some (p,r,upd,_)=>p∧putA ⟨n,fr,upd ++ hp,nx⟩ dst r K
 | none=>False
def ret1 (n:Nat) (fr:Frm) (dst:Option Tmp) (K:St→Prop) (r:AV) (hp:Hp) (nx:Nat):Prop:=putA ⟨n,fr,hp,nx⟩ dst r K
def cv:Op→Option (Operand × Array Operand)
 | .call { callee:=.value f,args:=args,argTypes:=_ }=>some (f,args)
 | _=>none
def callV (X:Ctx) (F:CallF) (f:AV) (args:List AV) (n:Nat) (fr:Frm) (hp:Hp) (nx:Nat) (dst:Option Tmp) (K:St→Prop):Prop:=
 match f with
 | .fn (.func g) first cap=>F g (first ++ args ++ cap) hp nx (ret1 n fr dst K)
 | .yld id=>X.Y id args hp nx (ret1 n fr dst K)
 | _=>False
def stepB (X:Ctx) (F:CallF) (c:Option (Operand × Array Operand)) (op:Op) (dst:Option Tmp) (me n:Nat) (fr:Frm) (hp:Hp) (nx:Nat) (K:St→Prop):Prop:=
 match c with
 | some (f,args)=>callV X F (evo fr f) (args.toList.map (evo fr)) n fr hp nx dst K
 | none=>after n fr hp nx dst K (aopR X.T op (evo fr) (hlk hp) me)
theorem r_step {o : Oper} {me : Nat} {K : St → Prop} : stepA X F o me ⟨n, fr, hp, nx⟩ K = stepB X F (cv o.op) o.op o.dst me n fr hp nx K := by
  unfold stepA
  split
  · rename_i f args ts ho
    rw [ho]
    dsimp only [stepB, cv, callV]
    split
    · rename_i heq
      first
        | rfl
        | (rw [heq]; rfl)
    · rename_i heq
      first
        | rfl
        | (rw [heq]; rfl)
    · rename_i h h'
      first
        | rfl
        | (split
           · rename_i heq
             exact absurd heq (h _ _ _)
           · rename_i heq
             exact absurd heq (h' _)
           · rfl)
  · rename_i h
    have hc : cv o.op = none := by
      unfold cv
      split
      · rename_i f args ts ho
        exact absurd ho (h _ _ _)
      · rfl
    rw [hc, aop_out]
    unfold outA stepB after
    cases aopR X.T o.op (evo fr) (hlk hp) me <;> rfl

theorem r_put {d:Tmp} {x:AV} {K:St→Prop}:putA ⟨n,fr,hp,nx⟩ (some d) x K=(d < n∧K ⟨n,(d,x) :: fr,hp,nx⟩):=propext Iff.rfl
theorem r_put0 {x:AV} {K:St→Prop}:putA ⟨n,fr,hp,nx⟩ none x K=K ⟨n,fr,hp,nx⟩:=propext Iff.rfl
theorem r_after {dst:Option Tmp} {K:St→Prop} {p:Prop} {r:AV} {upd:Upd} {acc:List Nat}:after n fr hp nx dst K (some (p,r,upd,acc))=(p∧putA ⟨n,fr,upd ++ hp,nx⟩ dst r K):=propext Iff.rfl
def guardE (b want:Bool) (p q:Prop):Prop:=(b=want→p)∧(b=!want→q)
theorem guardE_tt (p q:Prop):guardE true true p q=p:=by simp [guardE]
theorem guardE_ff (p q:Prop):guardE false false p q=p:=by simp [guardE]
theorem guardE_tf (p q:Prop):guardE true false p q=q:=by simp [guardE]
theorem guardE_ft (p q:Prop):guardE false true p q=q:=by simp [guardE]
theorem guardE_any (b want:Bool) (p q:Prop):guardE b want p q=((b=want→p)∧(b=!want→q)):=propext Iff.rfl
def guardC (x:AV) (d:Nat) (want:Bool) (n:Nat) (fr:Frm) (hp:Hp) (nx:Nat) (K1 K2:St→Prop):Prop:=
 match x with
 | .v (.bool b)=>d < n∧guardE b want (K1 ⟨n,(d,.v (.bool want)) :: fr,hp,nx⟩) (K2 ⟨n,(d,.v (.bool !want)) :: fr,hp,nx⟩)
 | .v (.tuple _)=>K2 ⟨n,fr,hp,nx⟩
 | _=>False
def guardB (d:Option Tmp) (want:Bool) (n:Nat) (fr:Frm) (hp:Hp) (nx:Nat) (K1 K2:St→Prop):Prop:=
 match d with
 | none=>K2 ⟨n,fr,hp,nx⟩
 | some d=>guardC (lkp fr d) d want n fr hp nx K1 K2
def dstAt:List Oper→Nat→Option Tmp
 | [],_=>none
 | o :: _,0=>o.dst
 | _ :: r,i + 1=>dstAt r i
theorem dstAt_eq:∀ (all:List Oper) (j:Nat),(all[j]?).bind (·.dst)=dstAt all j
 | [],_=>rfl
 | _ :: _,0=>rfl
 | _ :: r,j + 1=>by simp only [List.getElem?_cons_succ,dstAt]; exact dstAt_eq r j
theorem r_guard0 {all:List Oper} {dst:Option Tmp} {op:Op} {ty:TypeId} {pos:String} {af:Array Edge} {K1 K2:St→Prop} :
  guardA all ⟨dst,op,ty,pos,af,none⟩ ⟨n,fr,hp,nx⟩ K1 K2=K1 ⟨n,fr,hp,nx⟩:=propext Iff.rfl
theorem r_guard {all:List Oper} {dst:Option Tmp} {op:Op} {ty:TypeId} {pos:String} {af:Array Edge} {j:Nat} {want:Bool} {K1 K2:St→Prop} :
  guardA all ⟨dst,op,ty,pos,af,some (j,want)⟩ ⟨n,fr,hp,nx⟩ K1 K2=guardB (dstAt all j) want n fr hp nx K1 K2:=by
 unfold guardB guardC
 rw [← dstAt_eq]
 rfl
theorem r_nil {all:List Oper} {k base:Nat} {K:St→Prop}:opsT X F all [] k base ⟨n,fr,hp,nx⟩ K=K ⟨n,fr,hp,nx⟩:=propext Iff.rfl
theorem r_cons {all:List Oper} {o:Oper} {r:List Oper} {k base:Nat} {K:St→Prop}:opsT X F all (o :: r) k base ⟨n,fr,hp,nx⟩ K =
  guardA all o ⟨n,fr,hp,nx⟩ (fun s=>stepA X F o (base + k) s fun s'=>opsT X F all r (k + 1) base s' K) (fun s=>putA s o.dst (.v undef) fun s'=>opsT X F all r (k + 1) base s' K):=propext Iff.rfl
def snapD (r:Option AV) (alt:Prop) (all:List Oper) (k:Nat) (acc:List Nat) (dst:Option Tmp) (n:Nat) (fr:Frm) (hp:Hp) (nx:Nat) (log:Log) (K:St→Log→Prop):Prop:=
 match r with
 | some (.v x)=>entryOk all log k acc []=true∧putA ⟨n,fr,hp,nx⟩ dst (.v x) fun s'=>K s' ((k,acc,[]) :: log)
 | _=>alt
def ownD (r:Option (TypeId × Nat × List AV)) (all:List Oper) (k me:Nat) (dst:Option Tmp) (n:Nat) (fr:Frm) (hp:Hp) (nx:Nat) (log:Log) (K:St→Log→Prop):Prop:=
 match r with
 | some (ty,sz,el)=>entryOk all log k [me] [me]=true∧putA ⟨n,fr,(me,some ⟨false,ty,sz,el⟩) :: hp,nx⟩ dst (.arr me 0 el.length) fun s'=>K s' ((k,[me],[me]) :: log)
 | none=>False
def frzD (r:Option AV) (upd:Upd) (alt:Prop) (all:List Oper) (k:Nat) (dst:Option Tmp) (n:Nat) (fr:Frm) (hp:Hp) (nx:Nat) (log:Log) (K:St→Log→Prop):Prop:=
 match r with
 | some r=>entryOk all log k (upd.map (·.1)) (upd.map (·.1))=true∧putA ⟨n,fr,upd ++ hp,nx⟩ dst r fun s'=>K s' ((k,upd.map (·.1),upd.map (·.1)) :: log)
 | none=>alt
def tabD (r:Option AV) (X:Ctx) (g:FuncId) (args:List AV) (all:List Oper) (k base:Nat) (dst:Option Tmp) (n:Nat) (fr:Frm) (hp:Hp) (nx:Nat) (log:Log) (K:St→Log→Prop):Prop:=
 match r with
 | some r=>putA ⟨n,fr,hp,nx⟩ dst r fun s'=>K s' log
 | none=>snapD (X.C g (args.map (snap1 (hlk hp)))) (frzD (X.C g (frzHs (hlk hp) args).1) (frzHs (hlk hp) args).2 (ownD (X.O g args) all k (base + k) dst n fr hp nx log K) all k dst n fr hp nx log K) all k (snapIds args) dst n fr hp nx log K
def callD (X:Ctx) (f:AV) (args:List AV) (all:List Oper) (k base:Nat) (n:Nat) (fr:Frm) (hp:Hp) (nx:Nat) (dst:Option Tmp) (log:Log) (K:St→Log→Prop):Prop:=
 match f with
 | .fn (.func g) first cap=>tabD (X.C g (first ++ args ++ cap)) X g (first ++ args ++ cap) all k base dst n fr hp nx log K
 | _=>False
def afterD (all:List Oper) (k n:Nat) (fr:Frm) (hp:Hp) (nx:Nat) (dst:Option Tmp) (log:Log) (K:St→Log→Prop):Outc→Prop
 | some (p,r,[],[])=>p∧putA ⟨n,fr,hp,nx⟩ dst r fun s'=>K s' log
 | some (p,r,upd,acc)=>p∧entryOk all log k (accOf upd acc) (upd.map (·.1))=true∧putA ⟨n,fr,upd ++ hp,nx⟩ dst r fun s'=>K s' ((k,accOf upd acc,upd.map (·.1)) :: log)
 | none=>False
def stepE (X:Ctx) (all:List Oper) (c:Option (Operand × Array Operand)) (op:Op) (dst:Option Tmp) (k base n:Nat) (fr:Frm) (hp:Hp) (nx:Nat) (log:Log) (K:St→Log→Prop):Prop:=
 match c with
 | some (f,args)=>callD X (evo fr f) (args.toList.map (evo fr)) all k base n fr hp nx dst log K
 | none=>afterD all k n fr hp nx dst log K (aopR X.T op (evo fr) (hlk hp) (base + k))
theorem r_stepD {o : Oper} {all : List Oper} {k base : Nat} {log : Log} {K : St → Log → Prop} : stepD X o all k base ⟨n, fr, hp, nx⟩ log K = stepE X all (cv o.op) o.op o.dst k base n fr hp nx log K := by
  unfold stepD
  split
  · rename_i f args ts ho
    rw [ho]
    dsimp only [stepE, cv, callD]
    split
    · rename_i g first cap heq
      try rw [heq]
      try dsimp only
      cases X.C g (first ++ List.map (evo fr) args.toList ++ cap) with
      | some r => rfl
      | none =>
        simp only [tabD, tabS, snapD, frzD, frzS, ownD, ownS]
        all_goals
          generalize X.C g (List.map (snap1 (hlk hp)) (first ++ List.map (evo fr) args.toList ++ cap)) = q
          generalize X.C g (frzHs (hlk hp) (first ++ List.map (evo fr) args.toList ++ cap)).1 = q2
          generalize X.O g (first ++ List.map (evo fr) args.toList ++ cap) = q3
          cases q with
          | none =>
            cases q2 with
            | none => cases q3 <;> rfl
            | some _ => rfl
          | some r =>
            cases q2 with
            | none => cases q3 <;> cases r <;> rfl
            | some _ => cases r <;> rfl
    · rename_i h
      first
        | rfl
        | (split
           · rename_i heq
             exact absurd heq (h _ _ _)
           · rfl)
  · rename_i h
    have hc : cv o.op = none := by
      unfold cv
      split
      · rename_i f args ts ho
        exact absurd ho (h _ _ _)
      · rfl
    rw [hc, aop_out]
    unfold outA stepE afterD
    dsimp only
    cases aopR X.T o.op (evo fr) (hlk hp) (base + k) with
    | none => rfl
    | some x =>
      obtain ⟨p, r, upd, acc⟩ := x
      cases upd with
      | nil => cases acc <;> rfl
      | cons => rfl

theorem r_afterD0 {all:List Oper} {k:Nat} {dst:Option Tmp} {log:Log} {K:St→Log→Prop} {p:Prop} {r:AV}:afterD all k n fr hp nx dst log K (some (p,r,[],[]))=(p∧putA ⟨n,fr,hp,nx⟩ dst r fun s'=>K s' log):=propext Iff.rfl
theorem r_afterD1 {all:List Oper} {k:Nat} {dst:Option Tmp} {log:Log} {K:St→Log→Prop} {p:Prop} {r:AV} {upd:Upd} {a:Nat} {acc:List Nat}:afterD all k n fr hp nx dst log K (some (p,r,upd,a :: acc)) =
  (p∧entryOk all log k (accOf upd (a :: acc)) (upd.map (·.1))=true∧putA ⟨n,fr,upd ++ hp,nx⟩ dst r fun s'=>K s' ((k,accOf upd (a :: acc),upd.map (·.1)) :: log)):=by
 cases upd <;> rfl
theorem r_afterD2 {all:List Oper} {k:Nat} {dst:Option Tmp} {log:Log} {K:St→Log→Prop} {p:Prop} {r:AV} {u:Nat × Option Blk} {upd:Upd} {acc:List Nat}:afterD all k n fr hp nx dst log K (some (p,r,u :: upd,acc)) =
  (p∧entryOk all log k (accOf (u :: upd) acc) ((u :: upd).map (·.1))=true∧putA ⟨n,fr,(u :: upd) ++ hp,nx⟩ dst r fun s'=>K s' ((k,accOf (u :: upd) acc,(u :: upd).map (·.1)) :: log)):=propext Iff.rfl
theorem r_nilD {all:List Oper} {k base:Nat} {log:Log} {K:St→Prop}:opsD X all [] k base ⟨n,fr,hp,nx⟩ log K=K ⟨n,fr,hp,nx⟩:=propext Iff.rfl
theorem r_consD {all:List Oper} {o:Oper} {r:List Oper} {k base:Nat} {log:Log} {K:St→Prop}:opsD X all (o :: r) k base ⟨n,fr,hp,nx⟩ log K =
  guardA all o ⟨n,fr,hp,nx⟩ (fun s=>stepD X o all k base s log fun s' log'=>opsD X all r (k + 1) base s' log' K) (fun s=>putA s o.dst (.v undef) fun s'=>opsD X all r (k + 1) base s' log K):=propext Iff.rfl
theorem r_skip:codeA X F .skip Q ⟨n,fr,hp,nx⟩=Q .normal ⟨n,fr,hp,nx⟩:=propext Iff.rfl
theorem r_text {id:Nat} {ops:List Oper}:codeA X F (.region id ops.toArray false) Q ⟨n,fr,hp,nx⟩=opsT X F ops ops 0 nx ⟨n,fr,hp,nx + ops.length⟩ (Q .normal):=propext Iff.rfl
def pivG:List Oper→Nat→Option Nat
 | [],_=>none
 | o :: r,k=>if dynCall o then some k else pivG r (k + 1)
theorem pivG_eq:∀ (l:List Oper) (k:Nat),pivG l k=(l.findIdx? dynCall).map (· + k)
 | [],_=>rfl
 | o :: r,k=>by
  rw [pivG,List.findIdx?_cons]
  cases dynCall o with
  | true=>simp
  | false=>simp [pivG_eq r (k + 1),Nat.add_assoc,Nat.add_comm 1 k,Function.comp_def]
theorem pivotOf_eq (l:List Oper):pivotOf l=pivG l 0:=by
 rw [pivG_eq]; simp [pivotOf]
theorem r_pivN {k:Nat}:pivG [] k=none:=rfl
theorem r_pivC {o:Oper} {r:List Oper} {k:Nat}:pivG (o :: r) k=if dynCall o then some k else pivG r (k + 1):=rfl
theorem r_draw {id:Nat} {ops:List Oper}:codeA X F (.region id ops.toArray true) Q ⟨n,fr,hp,nx⟩=drawA X F ops (pivG ops 0) nx ⟨n,fr,hp,nx + ops.length⟩ (Q .normal):=by
 rw [← pivotOf_eq]; exact propext Iff.rfl
theorem r_drawN {ops:List Oper} {base:Nat} {K:St→Prop}:drawA X F ops none base ⟨n,fr,hp,nx⟩ K=opsD X ops ops 0 base ⟨n,fr,hp,nx⟩ [] K:=propext Iff.rfl
def restP (X:Ctx) (all:List Oper) (c:Nat) (K:St→Prop) (s2:St):Prop:=opsD X all (all.drop (c + 1)) (c + 1) s2.nx ⟨s2.n,s2.fr,s2.hp,s2.nx + all.length⟩ [] K
theorem r_rest {all:List Oper} {c:Nat} {K:St→Prop}:restP X all c K ⟨n,fr,hp,nx⟩=opsD X all (all.drop (c + 1)) (c + 1) nx ⟨n,fr,hp,nx + all.length⟩ [] K:=propext Iff.rfl
def stepP (X:Ctx) (F:CallF) (all:List Oper) (c base:Nat) (n:Nat) (fr:Frm) (hp:Hp) (nx:Nat) (K:St→Prop):Option Oper→Prop
 | some o=>o.guard.isNone=true∧pivotOk all c=true∧opsD X all (all.take c) 0 base ⟨n,fr,hp,nx⟩ [] (fun s1=>stepA X F o (base + c) s1 (restP X all c K))
 | none=>False
def restL (X:Ctx) (all:List Oper) (c:Nat) (K:St→Prop) (s2:St):Prop:=lateL X (all.take c) s2∧opsD X all (all.drop (c + 1)) (c + 1) s2.nx ⟨s2.n,s2.fr,s2.hp,s2.nx + all.length⟩ [] K
theorem r_restL {all:List Oper} {c:Nat} {K:St→Prop}:restL X all c K ⟨n,fr,hp,nx⟩=(lateL X (all.take c) ⟨n,fr,hp,nx⟩∧opsD X all (all.drop (c + 1)) (c + 1) nx ⟨n,fr,hp,nx + all.length⟩ [] K):=propext Iff.rfl
def afterL (X:Ctx) (r:List Oper) (n:Nat) (fr:Frm) (hp:Hp) (nx:Nat) (d:Nat) (K:St→Prop):Outc→Prop
 | some (p,x,upd,_)=>p∧upd=[]∧d < n∧preL X r ⟨n,(d,x) :: fr,hp,nx⟩ K
 | none=>False
def preB (X:Ctx) (g:Option (Nat × Bool)) (dst:Option Tmp) (b:Bool) (r:List Oper) (n:Nat) (fr:Frm) (hp:Hp) (nx:Nat) (K:St→Prop) (out:Outc):Prop:=
 match g,dst,b with
 | none,some d,true=>afterL X r n fr hp nx d K out
 | _,_,_=>False
theorem r_preN {K:St→Prop}:preL X [] ⟨n,fr,hp,nx⟩ K=K ⟨n,fr,hp,nx⟩:=propext Iff.rfl
theorem r_preC {o:Oper} {r:List Oper} {K:St→Prop}:preL X (o :: r) ⟨n,fr,hp,nx⟩ K=preB X o.guard o.dst (isRd o.op) r n fr hp nx K (aopR X.T o.op (evo fr) (hlk hp) 0):=by
 apply propext
 simp only [preL]
 rw [aop_out]
 unfold preB outA
 cases o.guard with
 | some g=>simp
 | none=>
  cases o.dst with
  | none=>simp
  | some d=>
   cases isRd o.op with
   | false=>simp
   | true=>
    simp only [Option.isNone_none,Option.isSome_some,true_and]
    cases aopR X.T o.op (evo fr) (hlk hp) 0 with
    | none=>simp [afterL]
    | some x=>obtain ⟨p,x,upd,ac⟩:=x; simp [afterL,putA]
def callLV (F:CallF) (f:AV) (args:List AV) (dst:Option Tmp) (n:Nat) (fr:Frm) (hp:Hp) (nx:Nat) (K:St→Prop):Prop:=
 match f with
 | .fn (.func g) first cap=>F g (first ++ args ++ cap) hp nx (ret1 n fr dst K)
 | _=>False
def callLB (F:CallF) (c:Option (Operand × Array Operand)) (dst:Option Tmp) (n:Nat) (fr:Frm) (hp:Hp) (nx:Nat) (K:St→Prop):Prop:=
 match c with
 | some (f,args)=>callLV F (evo fr f) (args.toList.map (evo fr)) dst n fr hp nx K
 | none=>False
theorem r_callL {o:Oper} {K:St→Prop}:callL F o ⟨n,fr,hp,nx⟩ K=callLB F (cv o.op) o.dst n fr hp nx K:=by
 unfold callL
 split
 ·rename_i f args ts ho
  rw [ho]
  dsimp only [callLB,cv,callLV]
  split
  ·rename_i heq
   first
    | rfl
    | (rw [heq]; rfl)
  ·rename_i h
   split
   ·rename_i heq
    exact absurd heq (h _ _ _)
   ·rfl
 ·rename_i h
  have hc:cv o.op=none:=by
   unfold cv
   split
   ·rename_i f args ts ho
    exact absurd ho (h _ _ _)
   ·rfl
  rw [hc]; rfl
def lateV (fr:Frm) (dst:Option Tmp):Outc→Prop
 | some (p,x,upd,_)=>p∧upd=[]∧x=dstV fr dst
 | none=>False
theorem r_lateN:lateL X [] ⟨n,fr,hp,nx⟩=True:=rfl
theorem r_lateC {o:Oper} {r:List Oper}:lateL X (o :: r) ⟨n,fr,hp,nx⟩=(lateV fr o.dst (aopR X.T o.op (evo fr) (hlk hp) 0)∧lateL X r ⟨n,fr,hp,nx⟩):=by
 apply propext
 simp only [lateL]
 rw [aop_out]
 unfold outA
 cases aopR X.T o.op (evo fr) (hlk hp) 0 with
 | none=>simp [lateV]
 | some x=>obtain ⟨p,x,upd,ac⟩:=x; simp [lateV]
def stepL (X:Ctx) (F:CallF) (all:List Oper) (c:Nat) (n:Nat) (fr:Frm) (hp:Hp) (nx:Nat) (K:St→Prop):Option Oper→Prop
 | some o=>o.guard.isNone=true∧lateOk all c=true∧preL X (all.take c) ⟨n,fr,hp,nx⟩ (fun s1=>callL F o s1 (restL X all c K))
 | none=>False
def restM (X:Ctx) (all:List Oper) (c:Nat) (K:St→Prop) (s2:St):Prop:=movesL (all.take c) s2∧opsD X all (all.drop (c + 1)) (c + 1) s2.nx ⟨s2.n,s2.fr,s2.hp,s2.nx + all.length⟩ [] K
theorem r_restM {all:List Oper} {c:Nat} {K:St→Prop}:restM X all c K ⟨n,fr,hp,nx⟩=(movesL (all.take c) ⟨n,fr,hp,nx⟩∧opsD X all (all.drop (c + 1)) (c + 1) nx ⟨n,fr,hp,nx + all.length⟩ [] K):=propext Iff.rfl
theorem r_mvN:movesL [] ⟨n,fr,hp,nx⟩=True:=propext Iff.rfl
theorem r_mvC {o:Oper} {r:List Oper}:movesL (o :: r) ⟨n,fr,hp,nx⟩=(mvV o.guard o.op o.dst fr∧movesL r ⟨n,fr,hp,nx⟩):=propext Iff.rfl
def stepM (X:Ctx) (F:CallF) (all:List Oper) (c base:Nat) (n:Nat) (fr:Frm) (hp:Hp) (nx:Nat) (K:St→Prop):Option Oper→Prop
 | some o=>o.guard.isNone=true∧mixOk all c=true∧opsD X all (all.take c) 0 base ⟨n,fr,hp,nx⟩ [] (fun s1=>callL F o s1 (restM X all c K))
 | none=>False
def drawB (b b2:Bool) (X:Ctx) (F:CallF) (all:List Oper) (c base:Nat) (n:Nat) (fr:Frm) (hp:Hp) (nx:Nat) (K:St→Prop) (o:Option Oper):Prop:=
 match b with
 | false=>(match b2 with
  | false=>stepP X F all c base n fr hp nx K o
  | true=>stepM X F all c base n fr hp nx K o)
 | true=>stepL X F all c n fr hp nx K o
theorem r_drawP {ops:List Oper} {c base:Nat} {K:St→Prop}:drawA X F ops (some c) base ⟨n,fr,hp,nx⟩ K=drawB (lateB ops) (mixB ops) X F ops c base n fr hp nx K (ops[c]?):=by
 unfold drawA drawB
 dsimp only
 cases lateB ops with
 | false=>
  cases mixB ops with
  | false=>
   show opsP X F ops c base ⟨n,fr,hp,nx⟩ K=_
   unfold opsP stepP
   cases ops[c]? <;> rfl
  | true=>
   show opsM X F ops c base ⟨n,fr,hp,nx⟩ K=_
   unfold opsM stepM
   cases ops[c]? <;> rfl
 | true=>
  show opsL X F ops c ⟨n,fr,hp,nx⟩ K=_
  unfold opsL stepL
  cases ops[c]? <;> rfl
theorem r_seq {a b:Code}:codeA X F (.seq a b) Q ⟨n,fr,hp,nx⟩=codeA X F a (thenA (codeA X F b Q) Q) ⟨n,fr,hp,nx⟩:=propext Iff.rfl
def condE (b:Bool) (p q:Prop):Prop:=(b=true→p)∧(b=false→q)
theorem condE_t (p q:Prop):condE true p q=p:=by simp [condE]
theorem condE_f (p q:Prop):condE false p q=q:=by simp [condE]
theorem condE_any (b:Bool) (p q:Prop):condE b p q=((b=true→p)∧(b=false→q)):=propext Iff.rfl
def condS (x:AV) (X:Ctx) (F:CallF) (a b:Code) (Q:Exit→St→Prop) (n:Nat) (fr:Frm) (hp:Hp) (nx:Nat):Prop:=condA x (codeA X F a Q ⟨n,fr,hp,nx⟩) (codeA X F b Q ⟨n,fr,hp,nx⟩)
theorem r_cond {c:Operand} {a b:Code}:codeA X F (.cond c a b) Q ⟨n,fr,hp,nx⟩=condS (evo fr c) X F a b Q n fr hp nx:=propext Iff.rfl
theorem r_condB {v:Bool} {a b:Code}:condS (.v (.bool v)) X F a b Q n fr hp nx=condE v (codeA X F a Q ⟨n,fr,hp,nx⟩) (codeA X F b Q ⟨n,fr,hp,nx⟩):=propext Iff.rfl
theorem r_condT {xs:List AV} {a b:Code}:condS (.nb xs true) X F a b Q n fr hp nx=((xs=[]→codeA X F a Q ⟨n,fr,hp,nx⟩)∧codeA X F b Q ⟨n,fr,hp,nx⟩):=propext Iff.rfl
theorem r_condF {xs:List AV} {a b:Code}:condS (.nb xs false) X F a b Q n fr hp nx=(codeA X F a Q ⟨n,fr,hp,nx⟩∧(xs=[]→codeA X F b Q ⟨n,fr,hp,nx⟩)):=propext Iff.rfl
theorem r_block {id:Nat} {b:Code}:codeA X F (.block id b) Q ⟨n,fr,hp,nx⟩=codeA X F b (inBlockA id Q) ⟨n,fr,hp,nx⟩:=propext Iff.rfl
theorem r_loop {b:Code}:codeA X F (.loop b) Q ⟨n,fr,hp,nx⟩=WP X (.loop b) Q ⟨n,fr,hp,nx⟩:=propext Iff.rfl
theorem r_exit {id:Nat}:codeA X F (.exit id) Q ⟨n,fr,hp,nx⟩=Q (.exit id) ⟨n,fr,hp,nx⟩:=propext Iff.rfl
theorem r_scope {b:Code}:codeA X F (.scope b) Q ⟨n,fr,hp,nx⟩=codeA X F b (inScopeA X b Q) ⟨n,fr,hp,nx⟩:=propext Iff.rfl
theorem r_label {l:Nat}:codeA X F (.label l) Q ⟨n,fr,hp,nx⟩=Q .normal ⟨n,fr,hp,nx⟩:=propext Iff.rfl
theorem r_goto {l:Nat}:codeA X F (.goto l) Q ⟨n,fr,hp,nx⟩=Q (.goto l) ⟨n,fr,hp,nx⟩:=propext Iff.rfl
theorem r_ret:codeA X F .ret Q ⟨n,fr,hp,nx⟩=Q .ret ⟨n,fr,hp,nx⟩:=propext Iff.rfl
theorem r_then {K:St→Prop}:thenA K Q .normal ⟨n,fr,hp,nx⟩=K ⟨n,fr,hp,nx⟩:=propext Iff.rfl
theorem r_thenR {K:St→Prop}:thenA K Q .ret ⟨n,fr,hp,nx⟩=Q .ret ⟨n,fr,hp,nx⟩:=propext Iff.rfl
theorem r_thenE {K:St→Prop} {id:Nat}:thenA K Q (.exit id) ⟨n,fr,hp,nx⟩=Q (.exit id) ⟨n,fr,hp,nx⟩:=propext Iff.rfl
theorem r_thenG {K:St→Prop} {l:Nat}:thenA K Q (.goto l) ⟨n,fr,hp,nx⟩=Q (.goto l) ⟨n,fr,hp,nx⟩:=propext Iff.rfl
theorem r_blkN {id:Nat}:inBlockA id Q .normal ⟨n,fr,hp,nx⟩=Q .normal ⟨n,fr,hp,nx⟩:=propext Iff.rfl
theorem r_blkR {id:Nat}:inBlockA id Q .ret ⟨n,fr,hp,nx⟩=Q .ret ⟨n,fr,hp,nx⟩:=propext Iff.rfl
theorem r_blkG {id l:Nat}:inBlockA id Q (.goto l) ⟨n,fr,hp,nx⟩=Q (.goto l) ⟨n,fr,hp,nx⟩:=propext Iff.rfl
theorem r_blkE {id id':Nat}:inBlockA id Q (.exit id') ⟨n,fr,hp,nx⟩=if id'=id then Q .normal ⟨n,fr,hp,nx⟩ else Q (.exit id') ⟨n,fr,hp,nx⟩:=propext Iff.rfl
theorem r_scpN {b:Code}:inScopeA X b Q .normal ⟨n,fr,hp,nx⟩=Q .normal ⟨n,fr,hp,nx⟩:=propext Iff.rfl
theorem r_scpR {b:Code}:inScopeA X b Q .ret ⟨n,fr,hp,nx⟩=Q .ret ⟨n,fr,hp,nx⟩:=propext Iff.rfl
theorem r_scpE {b:Code} {id:Nat}:inScopeA X b Q (.exit id) ⟨n,fr,hp,nx⟩=Q (.exit id) ⟨n,fr,hp,nx⟩:=propext Iff.rfl
def resB (T:TEnv) (n:Nat) (fr:Frm) (hp:Hp) (nx:Nat) (K:AV→Hp→Nat→Prop):List ResultVar→List AV→Prop
 | [],acc=>match acc with
  | [x]=>K x hp nx
  | xs=>K (.tup xs) hp nx
 | .tmp t :: r,acc=>resB T n fr hp nx K r (acc ++ [lkp fr t])
 | .cell t ty :: r,acc=>match aopR T (.load ty (.tmp t)) (evo fr) (hlk hp) nx with
  | some (p,x,_,_)=>p∧resB T n fr hp nx K r (acc ++ [x])
  | none=>False
theorem resA_B {T : TEnv} {K : AV → Hp → Nat → Prop} : ∀ (rs : List ResultVar) (acc : List AV), (resA T ⟨n, fr, hp, nx⟩ rs acc fun xs => match xs with
      | [x] => K x hp nx
      | xs => K (.tup xs) hp nx) = resB T n fr hp nx K rs acc
  | [], acc => rfl
  | .tmp t :: r, acc => by simp only [resA, resB]; exact resA_B r _
  | .cell t ty :: r, acc => by
    simp only [resA, resB, aop_out]
    unfold outA
    cases aopR T (.load ty (.tmp t)) (evo fr) (hlk hp) nx with
    | none => rfl
    | some x => obtain ⟨p, y, u, a⟩ := x; simp only; rw [resA_B r]

theorem r_bodyR {T:TEnv} {fn:Func} {K:AV→Hp→Nat→Prop}:bodyQ T fn K .ret ⟨n,fr,hp,nx⟩=resB T n fr hp nx K fn.results.toList []:=resA_B _ _
theorem r_bodyN {T:TEnv} {fn:Func} {K:AV→Hp→Nat→Prop}:bodyQ T fn K .normal ⟨n,fr,hp,nx⟩=resB T n fr hp nx K fn.results.toList []:=resA_B _ _
theorem r_ret1 {dst:Option Tmp} {K:St→Prop} {r:AV}:ret1 n fr dst K r hp nx=putA ⟨n,fr,hp,nx⟩ dst r K:=propext Iff.rfl
def inl (X:Ctx) (k:Nat) (fn:Option Func) (args:List AV) (hp:Hp) (nx:Nat) (K:AV→Hp→Nat→Prop):Prop:=
 match fn with
 | some fn=>(fn.name == "runtime.NumGoroutine")=false∧args.length≤fn.ntmps∧match fn.body with
  | some body=>codeA X (callN X k) body (bodyQ X.T fn K) ⟨fn.ntmps,argFrm args 0,hp,nx⟩
  | none=>False
 | none=>False
def callG (r:Option AV) (X:Ctx) (k:Nat) (g:FuncId) (args:List AV) (hp:Hp) (nx:Nat) (K:AV→Hp→Nat→Prop):Prop:=
 match r with
 | some r=>K r (frzDeep hp args).2 nx
 | none=>inl X k (X.P.funcs[g]?) args hp nx K
def callE (r:Option AV) (X:Ctx) (k:Nat) (g:FuncId) (args:List AV) (hp:Hp) (nx:Nat) (K:AV→Hp→Nat→Prop):Prop:=
 match r with
 | some r=>K r (frzArgs hp args).2 nx
 | none=>callG (X.C g (frzDeep hp args).1) X k g args hp nx K
def callC (r:Option AV) (X:Ctx) (k:Nat) (g:FuncId) (args:List AV) (hp:Hp) (nx:Nat) (K:AV→Hp→Nat→Prop):Prop:=
 match r with
 | some r=>K r hp nx
 | none=>callE (X.C g (frzArgs hp args).1) X k g args hp nx K
theorem r_call {k:Nat} {g:FuncId} {args:List AV} {K:AV→Hp→Nat→Prop}:callN X (k + 1) g args hp nx K=callC (X.C g args) X k g args hp nx K:=by
 simp only [callN,callC,callE,callG,inl]
 all_goals
  cases X.C g args with
  | some r=>rfl
  | none=>cases X.C g (frzArgs hp args).1 with
   | some r=>rfl
   | none=>cases X.C g (frzDeep hp args).1 with
    | some r=>rfl
    | none=>cases X.P.funcs[g]? <;> rfl
theorem r_callC {r:AV} {k:Nat} {g:FuncId} {args:List AV} {K:AV→Hp→Nat→Prop}:callC (some r) X k g args hp nx K=K r hp nx:=propext Iff.rfl
theorem r_callI {k:Nat} {g:FuncId} {args:List AV} {K:AV→Hp→Nat→Prop}:callC none X k g args hp nx K=callE (X.C g (frzArgs hp args).1) X k g args hp nx K:=propext Iff.rfl
theorem r_callE {r:AV} {k:Nat} {g:FuncId} {args:List AV} {K:AV→Hp→Nat→Prop}:callE (some r) X k g args hp nx K=K r (frzArgs hp args).2 nx:=propext Iff.rfl
theorem r_callJ {k:Nat} {g:FuncId} {args:List AV} {K:AV→Hp→Nat→Prop}:callE none X k g args hp nx K=callG (X.C g (frzDeep hp args).1) X k g args hp nx K:=propext Iff.rfl
theorem r_callG {r:AV} {k:Nat} {g:FuncId} {args:List AV} {K:AV→Hp→Nat→Prop}:callG (some r) X k g args hp nx K=K r (frzDeep hp args).2 nx:=propext Iff.rfl
theorem r_callH {k:Nat} {g:FuncId} {args:List AV} {K:AV→Hp→Nat→Prop}:callG none X k g args hp nx K=inl X k (X.P.funcs[g]?) args hp nx K:=propext Iff.rfl
theorem r_callV {g:FuncId} {first cap args:List AV} {dst:Option Tmp} {K:St→Prop}:callV X F (.fn (.func g) first cap) args n fr hp nx dst K=F g (first ++ args ++ cap) hp nx (ret1 n fr dst K):=propext Iff.rfl
theorem r_callY {id:Nat} {args:List AV} {dst:Option Tmp} {K:St→Prop}:callV X F (.yld id) args n fr hp nx dst K=X.Y id args hp nx (ret1 n fr dst K):=propext Iff.rfl
end
end Go.Vai

/- Loops; and a function's contract where nil answers for a list of nothing. -/
namespace Go.Vai
open Go.RowKit
def sub1:AV→AV→Prop
 | .v (.slice none 0 0),.lst _ ys=>ys=[]
 | x,y=>x=y
def subL:List AV→List AV→Prop
 | [],[]=>True
 | x :: xs,y :: ys=>sub1 x y∧subL xs ys
 | _,_=>False
def subB:AV→AV→Prop
 | .agg xs,.agg ys=>subL xs ys
 | x,y=>sub1 x y
def subM:List AV→List AV→Prop
 | [],[]=>True
 | x :: xs,y :: ys=>subB x y∧subM xs ys
 | _,_=>False
def subA:AV→AV→Prop
 | .tup xs,.tup ys=>subM xs ys
 | x,y=>subB x y
theorem sub1_con {E:Env} {x y:AV} {v:Value} (h:sub1 x y) (hx:Con E x v):Con E y v:=by
 unfold sub1 at h
 split at h
 ·subst h
  cases hx
  exact .lst _ _ none 0 0 ⟨0,0,none⟩ (fun _ _=>undef) rfl (Nat.le_refl _) (by simp) (by simp) (by simp) (by simp) (by simp)
 ·exact h ▸ hx
theorem subL_con {E:Env}:∀ {xs ys:List AV} {vs:List Value},subL xs ys→xs.length=vs.length→(∀ (i:Nat) (x:AV) (v:Value),xs[i]? = some x→vs[i]? = some v→Con E x v) →
  ys.length=vs.length∧∀ (i:Nat) (x:AV) (v:Value),ys[i]? = some x→vs[i]? = some v→Con E x v
 | [],[],vs,_,hl,h=>⟨hl,h⟩
 | x :: xs,y :: ys,[],_,hl,_=>by simp at hl
 | x :: xs,y :: ys,v :: vs,hs,hl,h=>by
  obtain ⟨h1,h2⟩:=subL_con (vs:=vs) hs.2 (by simpa using hl) fun i x' v' hx hv=>h (i + 1) x' v' (by simpa using hx) (by simpa using hv)
  refine ⟨by simpa using h1,fun i x' v' hx hv=>?_⟩
  cases i with
  | zero=>
   simp only [List.getElem?_cons_zero,Option.some.injEq] at hx hv
   subst hx; subst hv
   exact sub1_con hs.1 (h 0 x v rfl rfl)
  | succ i=>exact h2 i x' v' (by simpa using hx) (by simpa using hv)
 | [],_ :: _,_,hs,_,_=>hs.elim
 | _ :: _,[],_,hs,_,_=>hs.elim
theorem subB_con {E:Env} {x y:AV} {v:Value} (h:subB x y) (hx:Con E x v):Con E y v:=by
 unfold subB at h
 split at h
 ·cases hx with
  | agg _ us hl hc=>
   obtain ⟨h1,h2⟩:=subL_con (vs:=us.toList) h (by simpa using hl) fun i x v hx hv=>hc i x v hx (by simpa using hv)
   exact .agg _ _ (by simpa using h1) fun i x v hx hv=>h2 i x v hx (by simpa using hv)
 ·exact sub1_con h hx
theorem subM_con {E:Env}:∀ {xs ys:List AV} {vs:List Value},subM xs ys→xs.length=vs.length→(∀ (i:Nat) (x:AV) (v:Value),xs[i]? = some x→vs[i]? = some v→Con E x v) →
  ys.length=vs.length∧∀ (i:Nat) (x:AV) (v:Value),ys[i]? = some x→vs[i]? = some v→Con E x v
 | [],[],vs,_,hl,h=>⟨hl,h⟩
 | x :: xs,y :: ys,[],_,hl,_=>by simp at hl
 | x :: xs,y :: ys,v :: vs,hs,hl,h=>by
  obtain ⟨h1,h2⟩:=subM_con (vs:=vs) hs.2 (by simpa using hl) fun i x' v' hx hv=>h (i + 1) x' v' (by simpa using hx) (by simpa using hv)
  refine ⟨by simpa using h1,fun i x' v' hx hv=>?_⟩
  cases i with
  | zero=>
   simp only [List.getElem?_cons_zero,Option.some.injEq] at hx hv
   subst hx; subst hv
   exact subB_con hs.1 (h 0 x v rfl rfl)
  | succ i=>exact h2 i x' v' (by simpa using hx) (by simpa using hv)
 | [],_ :: _,_,hs,_,_=>hs.elim
 | _ :: _,[],_,hs,_,_=>hs.elim
theorem subA_con {E:Env} {x y:AV} {v:Value} (h:subA x y) (hx:Con E x v):Con E y v:=by
 unfold subA at h
 split at h
 ·cases hx with
  | tup _ us hl hc=>
   obtain ⟨h1,h2⟩:=subM_con (vs:=us.toList) h (by simpa using hl) fun i x v hx hv=>hc i x v hx (by simpa using hv)
   exact .tup _ _ (by simpa using h1) fun i x v hx hv=>h2 i x v hx (by simpa using hv)
 ·exact subB_con h hx
theorem cells_agg (cs:List AV):(AV.agg cs).cells=cs:=rfl
theorem cells_v (x:Value):(AV.v x).cells=[.v x]:=rfl
theorem cells_lst (n:Nat) (xs:List AV):(AV.lst n xs).cells=[.lst n xs]:=rfl
theorem cells_ptr (a b c:Nat):(AV.ptr a b c).cells=[.ptr a b c]:=rfl
theorem cells_arr (a b c:Nat):(AV.arr a b c).cells=[.arr a b c]:=rfl
theorem cells_fn (f:Fn) (a b:List AV):(AV.fn f a b).cells=[.fn f a b]:=rfl
section
variable {X : Ctx}
theorem pure_sub (hX:X.ok) (n:Nat) {g:FuncId} {fn:Func} {body:Code} (hfn:X.P.funcs[g]? = some fn) (hb:fn.body=some body) {args:List AV} {r:AV} (hl:args.length≤fn.ntmps)
  (h:codeA X (callN X n) body (bodyQ X.T fn fun r0 hp _=>frz hp r0 (subA · r)) ⟨fn.ntmps,argFrm args 0,[],0⟩):PureC X.P g args r:=by
 intro w K vs hK ha
 refine (body_calls hX.core hX.rd (callN_sound hX.core hX.rd hX.inv n) hfn hb hl h (hX.inv _ _) (rel_start hK) ha).mono ?_
 rintro e w' ⟨v,r0,hp',nx',E',rfl,h1,h2,h3,h4⟩
 obtain ⟨y,hy,hc⟩:=frz_sound h4 (K':=grow w K w') (fun b o hb=>by
  simp only [grow]
  split
  ·rename_i hlt; exact h4.k0 b o hb hlt
  ·exact h4.kw b o hb) (fun b hb=>by simp only [grow,if_neg (Nat.not_lt.2 hb)]) h3 h1
 exact ⟨v,rfl,h4.below,subA_con hy hc⟩
def kp (fr:Frm):Frm→Prop
 | []=>True
 | (t,x) :: r=>sub1 (lkp fr t) x∧kp fr r
def kh (hp:Hp):Hp→Prop
 | []=>True
 | (t,x) :: r=>hlk hp t=x∧kh hp r
theorem kp_lkp {fr:Frm}:∀ {fr':Frm},kp fr fr'→∀ t,lkp fr' t=.top∨sub1 (lkp fr t) (lkp fr' t)
 | [],_,t=>.inl rfl
 | (d,x) :: r,h,t=>by
  rw [lkp_cons]
  by_cases e:t=d
  ·subst e; rw [if_pos rfl]; exact .inr h.1
  ·rw [if_neg e]; exact kp_lkp h.2 t
theorem kh_hlk {hp:Hp}:∀ {hp':Hp},kh hp hp'→∀ id b,hlk hp' id=some b→hlk hp id=some b
 | [],_,id,b,h=>by cases h
 | (d,x) :: r,h,id,b,hb=>by
  rw [hlk_cons] at hb
  by_cases e:id=d
  ·subst e; rw [if_pos rfl] at hb; rw [h.1,hb]
  ·rw [if_neg e] at hb; exact kh_hlk h.2 id b hb
theorem Rel.weak {w0 : World} {K0 : Nat → Option Obj} {D : Nat → Prop} {E : Env} {n : Nat} {fr fr' : Frm} {hp hp' : Hp} {a : Act} {w : World} (h : Rel w0 K0 D E n fr hp a w) (hf : kp fr fr') (hh : kh hp hp') :
    Rel w0 K0 D E n fr' hp' a w :=
  { below := h.below, kw := h.kw, k0 := h.k0, nd := h.nd, size := h.size, dom := h.dom, lw := h.lw,
    regs := fun t ht => by
      rcases kp_lkp hf t with e | e
      · rw [e]; exact .top _
      · exact sub1_con e (h.regs t ht),
    out := fun t ht => by
      rcases kp_lkp hf t with e | e
      · exact e
      · rw [h.out t ht] at e; exact e.symm,
    own := fun id b hb => h.own id b (kh_hlk hh id b hb), inj := fun id id' b b' g h1 h2 => h.inj id id' b b' g (kh_hlk hh id b h1) (kh_hlk hh id' b' h2) }

theorem wpIn_loopg {F:Fence} {rm:Nat} {P:Program} {Q:Exit→Act→World→Prop} {a:Act} {w:World} {c:Code} (I:Nat→Act→World→Prop) (n₀:Nat) (h₀:I n₀ a w)
  (round:∀ n a w,I n a w→c.wpIn F rm P (Exit.then (fun a' w'=>∃ n',n' < n∧I n' a' w') Q) a w):(Code.loop c).wpIn F rm P Q a w:=by
 refine wpIn_loop (fun a w=>∃ n,I n a w) (fun a w=>leastOf (fun n=>I n a w)) ⟨n₀,h₀⟩ ?_
 intro a w hI
 refine wpIn_mono (round _ a w (leastOf_spec hI).1) ?_
 intro e a' w' hq
 cases e with
 | normal=>
  obtain ⟨n',hlt,hI'⟩:=hq
  exact show (∃ n,I n a' w')∧leastOf (fun n=>I n a' w') < leastOf (fun n=>I n a w) from ⟨⟨n',hI'⟩,Nat.lt_of_le_of_lt ((leastOf_spec ⟨n',hI'⟩).2 n' hI') hlt⟩
 | _=>exact hq
def again {ι:Type} (μ:ι→Nat) (ok:ι→Prop) (n:Nat) (fr:ι→Frm) (hp:ι→Hp) (m:Nat) (s:St):Prop:=
 ∃ j,μ j < m∧ok j∧s.n=n∧kp s.fr (fr j)∧kh s.hp (hp j)
theorem WP.loop {ι:Type} (μ:ι→Nat) (ok:ι→Prop) {n:Nat} {fr:ι→Frm} {hp:ι→Hp} {b:Code} {Q:Exit→St→Prop} {N:Nat}
  (round:∀ i nx,ok i→N≤nx→(∀ id b,hlk (hp i) id=some b→id < nx)→WP X b (thenA (again μ ok n fr hp (μ i)) Q) ⟨n,fr i,hp i,nx⟩) (i:ι) {s:St} (hi:ok i) (hn:s.n=n) (hN:N≤s.nx) (hf:kp s.fr (fr i)) (hh:kh s.hp (hp i)) (im:∀ w0 E E',X.inv w0 E→E.le E'→X.inv w0 E':=by exact fun _ _ _ _ _=>trivial):WP X (.loop b) Q s:=by
 intro w0 K0 E a w hi0 hr
 refine wpIn_loopg (fun k a w=>∃ j nx E',μ j=k∧ok j∧Ext E s.nx E' nx∧RelS w0 K0 E' ⟨n,fr j,hp j,nx⟩ a w) (μ i) ⟨i,s.nx,E,rfl,hi,Ext.refl E s.nx,?_⟩ ?_
 ·have:=hr.weak hf hh
  rw [hn] at this
  exact this
 ·rintro k a' w' ⟨j,nx,E',rfl,hj,hext,hrel⟩
  refine wpIn_mono (round j nx hj (Nat.le_trans hN hext.up) (fun id b hb=>hrel.dom id (hrel.own id b hb).1) w0 K0 E' a' w' (im _ _ _ hi0 hext.le) hrel) ?_
  rintro e a2 w2 ⟨s2,E2,h1,h2,h3⟩
  cases e with
  | normal=>
   obtain ⟨j',k1,k2,k3,k4,k5⟩:=h1
   refine ⟨μ j',k1,j',s2.nx,E2,rfl,k2,hext.trans h2,?_⟩
   have:=h3.weak k4 k5
   rw [k3] at this
   exact this
  | _=>exact ⟨s2,E2,h1,hext.trans h2,h3⟩
theorem r_again {ι:Type} {μ:ι→Nat} {ok:ι→Prop} {n n' nx:Nat} {fr:ι→Frm} {hp:ι→Hp} {m:Nat} {fr':Frm} {hp':Hp} :
  again μ ok n fr hp m ⟨n',fr',hp',nx⟩=∃ j,μ j < m∧ok j∧n'=n∧kp fr' (fr j)∧kh hp' (hp j):=rfl
theorem entryOk_nil (all:List Oper) (k:Nat) (acc wr:List Nat):entryOk all [] k acc wr=true:=rfl
theorem meets_nil (a:List Nat):meets [] a=false:=rfl
theorem entryOk_rd (all:List Oper) (log:Log) (j k:Nat) (acc acc':List Nat):entryOk all ((j,acc',[]) :: log) k acc []=entryOk all log k acc []:=by
 simp [entryOk,meets_nil]
theorem nb_self (n:Nat):Nat.beq n n=true:=Nat.beq_refl n
theorem nb_same (n a b:Nat):Nat.beq (n + a) (n + b)=Nat.beq a b:=by
 rw [Bool.eq_iff_iff,Nat.beq_eq,Nat.beq_eq]; omega
theorem nb_lt {k n:Nat} (h:k < n) (a:Nat):Nat.beq k (n + a)=false:=by
 rw [← Bool.not_eq_true,Nat.beq_eq]; omega
theorem nb_gt {k n:Nat} (h:k < n) (a:Nat):Nat.beq (n + a) k=false:=by
 rw [← Bool.not_eq_true,Nat.beq_eq]; omega
theorem nb_lt0 {k n:Nat} (h:k < n):Nat.beq k n=false:=by
 rw [← Bool.not_eq_true,Nat.beq_eq]; omega
theorem nb_gt0 {k n:Nat} (h:k < n):Nat.beq n k=false:=by
 rw [← Bool.not_eq_true,Nat.beq_eq]; omega
theorem WP.ofX (hX:X.core) {F:CallF} (hF:CallSound X F) {c:Code} {Q:Exit→St→Prop} {s:St} (hd:drawsOk c=true) (h:codeA X F c Q s):WP X c Q s:=codeA_sound hX hF c Q s hd h
theorem WP.of (hX:X.ok) (k:Nat) {c:Code} {Q:Exit→St→Prop} {s:St} (hd:drawsOk c=true) (h:codeA X (callN X k) c Q s):WP X c Q s:=codeA_sound hX.core (callN_sound hX.core hX.rd hX.inv k) c Q s hd h
def roundsC (X:Ctx) (F:CallF) (c:Code) (Q:Exit→St→Prop):Nat→St→Prop
 | 0,_=>False
 | k + 1,s=>codeA X F c (thenA (roundsC X F c Q k) Q) s
theorem r_rounds {F:CallF} {c:Code} {Q:Exit→St→Prop} {k n nx:Nat} {fr:Frm} {hp:Hp}:roundsC X F c Q (k + 1) ⟨n,fr,hp,nx⟩=codeA X F c (thenA (roundsC X F c Q k) Q) ⟨n,fr,hp,nx⟩:=propext Iff.rfl
theorem rounds_sound (hX:X.core) {F:CallF} (hF:CallSound X F) {c:Code} {Q:Exit→St→Prop} (hd:drawsOk c=true) {w0:World} {K0:Nat→Option Obj} {E0:Env} {nx0:Nat}:∀ (k:Nat) (s:St) (E:Env) (a:Act) (w:World),roundsC X F c Q k s→X.inv w0 E→Ext E0 nx0 E s.nx→RelS w0 K0 E s a w →
  Code.roundsIn (FW X.rd) 0 X.P c (fun e a' w'=>∃ s' E',Q e s'∧Ext E0 nx0 E' s'.nx∧RelS w0 K0 E' s' a' w') k a w
 | 0,_,_,_,_,h,_,_,_=>h.elim
 | k + 1,s,E,a,w,h,hi,hE,hr=>by
  show c.wpIn (FW X.rd) 0 X.P (Exit.then (Code.roundsIn (FW X.rd) 0 X.P c _ k) _) a w
  refine wpIn_mono (codeA_sound hX hF c _ s hd h w0 K0 E a w hi hr) ?_
  rintro e a' w' ⟨s',E',h1,h2,h3⟩
  cases e with
  | normal=>exact rounds_sound hX hF hd k s' E' a' w' h1 (hX.im _ _ _ hi h2.le) (hE.trans h2) h3
  | _=>exact ⟨s',E',h1,hE.trans h2,h3⟩
theorem WP.roundsX (hX:X.core) {F:CallF} (hF:CallSound X F) (k:Nat) {c:Code} {Q:Exit→St→Prop} {s:St} (hd:drawsOk c=true) (h:roundsC X F c Q k s):WP X (.loop c) Q s:=
 fun w0 K0 E a w hi hr=>wpIn_loop_rounds k (rounds_sound hX hF hd k s E a w h hi (Ext.refl E s.nx) hr)
theorem WP.rounds (hX:X.ok) (m k:Nat) {c:Code} {Q:Exit→St→Prop} {s:St} (hd:drawsOk c=true) (h:roundsC X (callN X m) c Q k s):WP X (.loop c) Q s:=
 WP.roundsX hX.core (callN_sound hX.core hX.rd hX.inv m) k hd h
theorem WP.virt {c:Code} {Q:Exit→St→Prop} {n nx:Nat} {fr:Frm} {hp:Hp} (t:Nat) (ty:TypeId) (sz:Nat) (ht:lkp fr t=.v (.slice none 0 0)) (hs:0 < sz)
  (h:WP X c Q ⟨n,(t,.arr nx 0 0) :: fr,(nx,some ⟨false,ty,sz,[]⟩) :: hp,nx + 1⟩) (im:∀ w0 E E',X.inv w0 E→E.le E'→X.inv w0 E':=by exact fun _ _ _ _ _=>trivial):WP X c Q ⟨n,fr,hp,nx⟩:=by
 intro w0 K0 E a w hi0 hr
 have hme:¬ E.dom nx:=fun h=>Nat.lt_irrefl _ (hr.dom nx h)
 have hv:=Rel.virt hr hme (D':=fun id=>id < nx + 1) (fun id h=>h.elim Nat.lt_succ_of_lt fun e=>e ▸ Nat.lt_succ_self _) ty sz hs
 have hx:Ext E nx (E.add nx none sz 0) (nx + 1):=⟨Env.le_add hme ..,by omega,fun id h=>h.elim (fun e=>.inr (by omega)) .inl⟩
 have hr2:RelS w0 K0 (E.add nx none sz 0) ⟨n,(t,.arr nx 0 0) :: fr,(nx,some ⟨false,ty,sz,[]⟩) :: hp,nx + 1⟩ a w:=by
  have htn:t < n:=by
   by_cases hlt:t < n
   ·exact hlt
   ·have:=hr.out t (by dsimp only; omega)
    dsimp only at this
    rw [ht] at this; cases this
  refine { hv with regs:=fun t' ht'=>?_,out:=fun t' ht'=>?_ }
  ·rw [lkp_cons]
   by_cases e:t'=t
   ·subst e
    rw [if_pos rfl]
    have:=hr.regs t' ht'
    dsimp only at this
    rw [ht] at this
    generalize a.tmps.getD t' undef=v at this
    cases this
    exact .arr0 nx (.inl rfl) (if_pos rfl)
   ·rw [if_neg e]; exact hv.regs t' ht'
  ·have h1:n≤t':=ht'
   show lkp ((t,_) :: fr) t'=.top
   rw [lkp_cons,if_neg (by omega)]
   exact hv.out t' ht'
 refine wpIn_mono (h w0 K0 _ a w (im _ _ _ hi0 hx.le) hr2) ?_
 rintro e a' w' ⟨s',E',h1,h2,h3⟩
 exact ⟨s',E',h1,hx.trans h2,h3⟩
end
end Go.Vai

/- A range over a function: the iterator's code and the rounds' are walked as one; and a function that leaves with a range's mark. -/
namespace Go.Vai
open Go.RowKit
def Ctx.top (X:Ctx):Ctx:={ X with inv:=fun _ E=>E.mrk=true }
def Ctx.inR (X:Ctx) (l:Nat):Ctx:={ X with rd:=some l }
def Ctx.iter (X:Ctx) (Y:YldF) (inv:World→Env→Prop):Ctx:={ X with Y:=Y,inv:=inv }
section
variable {X : Ctx}
theorem top_core (hX:X.ok):X.top.core:=
 ⟨fun id args hp nx K h=>(hX.noY id args hp nx K h).elim,fun w0 E E' h hle=>hle.mrk.trans h,hX.core.T,hX.core.draws,hX.core.C,hX.core.O⟩
theorem inR_core (hX:X.ok) (l:Nat):(X.inR l).core:=
 ⟨fun id args hp nx K h=>(hX.noY id args hp nx K h).elim,hX.core.im,hX.core.T,hX.core.draws,hX.core.C,hX.core.O⟩
end
def jumpOf:Nat→Option Code
 | 0=>none
 | 1=>none
 | 2=>some .ret
 | t + 3=>if t % 2=0 then some (.exit (t / 2)) else some (.goto (t / 2))
def recL (fn:FuncId) (tmps:Array Value) (ps:Array Tmp) (as bd:Code) (D:Nat) (t:Nat):Loop:=
 { state:=if t=0 then .ready else if t=1 then .busy else .done,pending:=jumpOf t,fn:=fn,tmps:=tmps,params:=ps,assign:=as,body:=bd,defers:=D }
def gBlk (t:Nat):Blk:=⟨false,t,1,[]⟩
def roundK (nx0:Nat) (K:AV→Hp→Nat→Prop):Exit→St→Prop
 | .normal,s=>hlk s.hp nx0=some (gBlk 1)∧K (.v (.bool true)) ((nx0,some (gBlk 0)) :: s.hp) s.nx
 | .ret,s=>hlk s.hp nx0=some (gBlk 1)∧K (.v (.bool false)) ((nx0,some (gBlk 2)) :: s.hp) s.nx
 | .exit id,s=>hlk s.hp nx0=some (gBlk 1)∧K (.v (.bool false)) ((nx0,some (gBlk (2 * id + 3))) :: s.hp) s.nx
 | .goto l,s=>hlk s.hp nx0=some (gBlk 1)∧K (.v (.bool false)) ((nx0,some (gBlk (2 * l + 4))) :: s.hp) s.nx
 | _,_=>False
def zipF:List Tmp→List AV→Frm→Frm
 | p :: ps,x :: xs,fr=>zipF ps xs ((p,x) :: fr)
 | _,_,fr=>fr
def noQ (_:Exit) (_:St):Prop:=False
def startR (X:Ctx) (F:CallF) (l nx0:Nat) (bd:Code) (K:AV→Hp→Nat→Prop) (s:St):Prop:=
 hlk s.hp nx0=some (gBlk 0)∧codeA (X.inR l) F bd (roundK nx0 K) ⟨s.n,s.fr,(nx0,some (gBlk 1)) :: s.hp,s.nx⟩
def yldH (X:Ctx) (F:CallF) (nx0 n:Nat) (fr:Frm) (ps:List Tmp) (as bd:Code):YldF:=fun id args hp nx K=>
 id=nx0∧hlk hp nx0=some (gBlk 0)∧args.length=ps.length∧ps.all (· < n)=true∧∀ l,codeA (X.inR l) F as (thenA (startR X F l nx0 bd K) noQ) ⟨n,zipF ps args fr,hp,nx⟩
def endJ (Q:Exit→St→Prop) (s:St):Nat→Prop
 | 0=>Q .normal s
 | 1=>False
 | 2=>Q .ret s
 | t + 3=>if t % 2=0 then Q (.exit (t / 2)) s else Q (.goto (t / 2)) s
def endR (nx0 n:Nat) (fr:Frm) (Q:Exit→St→Prop) (_:AV) (hp:Hp) (nx:Nat):Prop:=
 match hlk hp nx0 with
 | some b=>endJ Q ⟨n,fr,(nx0,none) :: hp,nx⟩ b.ty
 | none=>False
theorem Marks.mono' {B:Nat} {K K':Nat→Option Obj}:∀ {ds:List Deferred},(∀ D,{ target:=.collected D,args:=#[] }∈ds→K D=some (.deferred (some []))→K' D=some (.deferred (some [])))→Marks B K ds→Marks B K' ds
 | [],_,h=>h
 | d :: ds,hk,⟨⟨D,h1,h2,h3,h4⟩,h⟩=>⟨⟨D,h1,h2,hk D (h1 ▸ List.mem_cons_self) h3,h4⟩,h.mono' fun D' hm=>hk D' (List.mem_cons_of_mem _ hm)⟩
section
variable {w0 : World} {K0 : Nat → Option Obj} {D : Nat → Prop} {E : Env} {n : Nat} {fr : Frm} {hp : Hp} {a : Act} {w : World}
theorem Rel.frame (h:Rel w0 K0 D E n fr hp a w) {m:Nat} {fr':Frm} {a':Act} (hn:(E.mrk=false→a'.defers=[])∧Marks w0.heap.size E.K a'.defers) (hs:a'.tmps.size=m) (hr:∀ t,t < m→Con E (lkp fr' t) (a'.tmps.getD t undef)) (ho:∀ t,m≤t→lkp fr' t=.top) :
  Rel w0 K0 D E m fr' hp a' w:=
 { below:=h.below,kw:=h.kw,k0:=h.k0,nd:=hn,size:=hs,regs:=hr,dom:=h.dom,lw:=h.lw,out:=ho,own:=h.own,inj:=h.inj }
theorem zip_rel:∀ (ps:List Tmp) (xs:List AV) (vs:List Value) (fr:Frm) (ts:Array Value),Rel w0 K0 D E n fr hp { tmps:=ts,defers:=[] } w→ps.all (· < n)=true→xs.length=ps.length→xs.length=vs.length →
  (∀ (i:Nat) (x:AV) (v:Value),xs[i]? = some x→vs[i]? = some v→Con E x v) →
  Rel w0 K0 D E n (zipF ps xs fr) hp { tmps:=(ps.zip vs).foldl (fun t (p,v)=>t.setIfInBounds p v) ts,defers:=[] } w
 | [],[],vs,fr,ts,h,_,_,_,_=>by simpa [zipF] using h
 | [],_ :: _,vs,fr,ts,h,_,hl,_,_=>by simp at hl
 | p :: ps,[],vs,fr,ts,h,_,hl,_,_=>by simp at hl
 | p :: ps,x :: xs,[],fr,ts,h,_,_,hl,_=>by simp at hl
 | p :: ps,x :: xs,v :: vs,fr,ts,h,ha,hl,hl',hc=>by
  simp only [List.all_cons,Bool.and_eq_true,decide_eq_true_eq] at ha
  have:=h.put ha.1 (hc 0 x v rfl rfl)
  exact zip_rel ps xs vs _ _ this ha.2 (by simpa using hl) (by simpa using hl') fun i y u hy hu=>hc (i + 1) y u (by simpa using hy) (by simpa using hu)
end
end Go.Vai

/- A range over a function: the rule; and functions that leave with a range's mark. -/
namespace Go.Vai
open Go.RowKit
theorem jump_exit (id:Nat):jumpOf (2 * id + 3)=some (.exit id):=by simp [jumpOf]
theorem jump_goto (l:Nat):jumpOf (2 * l + 4)=some (.goto l):=by
 show (if (2 * l + 1) % 2=0 then _ else _)=_
 rw [if_neg (by omega),show (2 * l + 1) / 2=l by omega]
section
variable {X : Ctx}
theorem yldH_sound (hX:X.ok) (k:Nat) {nx0 n:Nat} {fr:Frm} {ps:List Tmp} {as bd:Code} (hda:drawsOk as=true) (hdb:drawsOk bd=true) {E1:Env} {l D:Nat} {fnid:FuncId} {ts:Array Value} (hts:ts.size=n)
  (hfr:∀ t,t < n→Con E1 (lkp fr t) (ts.getD t undef)) (hout:∀ t,n≤t→lkp fr t=.top) (hdom1:E1.dom nx0) (hρ1:E1.ρ nx0=none) (hlp1:E1.lp nx0=some (l,fun t _=>.loop (recL fnid ts ps.toArray as bd D t))) :
  YieldSound (X.iter (yldH X (callN X k) nx0 n fr ps as bd) (fun w0' E'=>w0'.heap.size≤l∧E1.le E')):=by
 intro id args hp nx K hY w0 K0 E m fr' a w l' q vs hinv hrel hd hlp hargs
 obtain ⟨hid,hrdy,hlen,hps,hall⟩:=hY
 subst hid
 obtain ⟨hB,hle⟩:=hinv
 have hlp':E.lp id=some (l,fun t _=>.loop (recL fnid ts ps.toArray as bd D t)):=(hle.lp id hdom1).trans hlp1
 rw [hlp'] at hlp; cases hlp
 have hρ':E.ρ id=none:=(hle.ρ id hdom1).trans hρ1
 obtain ⟨_,_,e1,e2,e3,e4⟩:=hrel.loopIs hrdy hρ' l _ hlp'
 have hF:CallSound (X.inR l) (callN X k):=callN_sound hX.core hX.rd hX.inv k
 refine ⟨fnid,_,as,bd,run_yield (r:=recL fnid ts ps.toArray as bd D 0) e1 (by have:=hargs.1; simp [recL]; omega),?_⟩
 show RoundIn (FW X.rd) 0 X.P l fnid _ as bd w _
 rw [hX.rd]
 refine roundIn_of_wpIn (F:=FW none) trivial ?_
 have hbase:Rel w0 K0 (fun id=>id < nx) E n fr hp { tmps:=ts,defers:=[] } w:=hrel.frame ⟨fun _=>rfl,trivial⟩ hts (fun t ht=>(hfr t ht).mono hle) hout
 have hz:=zip_rel ps args vs.toList fr ts hbase hps hlen (by simpa using hargs.1) (fun i x v hx hv=>hargs.2 i x v hx (by simpa using hv))
 have hfold:((recL fnid ts ps.toArray as bd D 0).params.zip vs).foldl (fun (t:Array Value) (p:Tmp × Value)=>t.setIfInBounds p.1 p.2) (recL fnid ts ps.toArray as bd D 0).tmps=(ps.zip vs.toList).foldl (fun t p=>t.setIfInBounds p.1 p.2) ts:=by
  cases vs; simp [recL]
 rw [hfold]
 have hwp:=codeA_sound (inR_core hX l) hF as _ ⟨n,zipF ps args fr,hp,nx⟩ hda (hall l) w0 K0 E _ w (hX.inv _ _) hz
 refine wpIn_mono hwp ?_
 rintro e a1 w1 ⟨s1,E2,h1,h2,h3⟩
 cases e with
 | normal=>
  obtain ⟨hr1,hb1⟩:startR X (callN X k) l id bd K s1:=h1
  have hρ2:E2.ρ id=none:=(h2.le.ρ id hd).trans hρ'
  have hlp2:=(h2.le.lp id hd).trans hlp'
  obtain ⟨_,_,f1,f2,f3,f4⟩:=h3.loopIs hr1 hρ2 l _ hlp2
  refine ⟨_,run_beginRound (r:=recL fnid ts ps.toArray as bd D 0) f1 rfl,?_⟩
  have h4:=h3.state hr1 hρ2 hlp2 hB 1 [] [] ElsV.nil MapEl.nil (.inl ⟨_,rfl⟩) false
  have hwp2:=codeA_sound (inR_core hX l) hF bd _ ⟨s1.n,s1.fr,(id,some (gBlk 1)) :: s1.hp,s1.nx⟩ hdb hb1 w0 K0 E2 a1 _ (hX.inv _ _) h4
  refine wpIn_mono hwp2 ?_
  rintro e3 a3 w3 ⟨s3,E3,g1,g2,g3⟩
  have hd2:E2.dom id:=h2.le.dom id hd
  have hρ3:E3.ρ id=none:=(g2.le.ρ id hd2).trans hρ2
  have hlp3:=(g2.le.lp id hd2).trans hlp2
  have hle3:E.le E3:=h2.le.trans g2.le
  have fin:∀ (t:Nat) (bv:Bool) (jump:Option Code),hlk s3.hp id=some (gBlk 1)→K (.v (.bool bv)) ((id,some (gBlk t)) :: s3.hp) s3.nx→jump.isNone=bv →
    recL fnid ts ps.toArray as bd D t={ recL fnid ts ps.toArray as bd D 1 with state:=if jump.isNone then .ready else .done,pending:=jump } →
    ∃ v w4,(Instr.endRound l jump).run X.P w3=.ok v w4∧∃ v' r hp' nx' E',Ending.returned v=.returned v'∧K r hp' nx'∧Ext E nx E' nx'∧Con E' r v'∧Rel w0 K0 (fun id=>id < nx') E' m fr' hp' a w4:=by
   intro t bv jump hl1 hK hj hrec
   obtain ⟨_,_,k1,k2,k3,k4⟩:=g3.loopIs hl1 hρ3 l _ hlp3
   have h5:=g3.state hl1 hρ3 hlp3 hB t [] [] ElsV.nil MapEl.nil (.inl ⟨_,rfl⟩) false
   refine ⟨_,_,run_endRound jump k1,_,.v (.bool bv),_,_,E3,rfl,hK,⟨hle3,Nat.le_trans h2.up g2.up,(h2.trans g2).dom⟩,by rw [hj]; exact .v _,?_⟩
   have h6:=h5.frame (m:=m) (fr':=fr') (a':=a) ⟨fun he=>hrel.nd.1 (hle3.mrk ▸ he),hrel.nd.2.mono hle3.K⟩ hrel.size (fun t ht=>(hrel.regs t ht).mono hle3) hrel.out
   rw [hrec] at h6
   exact h6
  cases e3 with
  | normal=>exact fin 0 true none g1.1 g1.2 rfl rfl
  | ret=>exact fin 2 false (some .ret) g1.1 g1.2 rfl rfl
  | exit i=>exact fin (2 * i + 3) false (some (.exit i)) g1.1 g1.2 rfl (by simp only [recL,jump_exit]; simp)
  | goto i=>exact fin (2 * i + 4) false (some (.goto i)) g1.1 g1.2 rfl (by simp only [recL,jump_goto]; simp)
  | panic ch=>exact g1.elim
  | outgrown=>exact g1.elim
 | _=>exact h1.elim
end
end Go.Vai

/- A range over a function: the statement itself. -/
namespace Go.Vai
open Go.RowKit
section
variable {X : Ctx}
def Env.range (E : Env) (nx l : Nat) (D : Nat) (r : Nat → List Value → Obj) : Env :=
  { ρ := fun i => if i = nx then none else E.ρ i, sz := fun i => if i = nx then 1 else E.sz i, cap := fun i => if i = nx then 0 else E.cap i, dom := fun i => i = nx ∨ E.dom i,
    K := fun b => if b = D then some (.deferred (some [])) else E.K b, lp := fun i => if i = nx then some (l, r) else E.lp i, lk := fun x => if x = l then some nx else E.lk x, mrk := E.mrk }

theorem range_le {w0:World} {K0:Nat→Option Obj} {E:Env} {n:Nat} {fr:Frm} {hp:Hp} {a:Act} {w:World} {nx:Nat} (hr:Rel w0 K0 (fun id=>id < nx) E n fr hp a w) (r:Nat→List Value→Obj) :
  E.le (E.range nx (w.heap.size + 1) w.heap.size r):=by
 have ne:∀ i,E.dom i→i≠nx:=fun i hd e=>by have:=hr.dom i hd; omega
 refine ⟨fun i d=>.inr d,fun i d=>if_neg (ne i d),fun i d=>if_neg (ne i d),fun i d=>if_neg (ne i d),?_,fun i d=>if_neg (ne i d),?_,rfl⟩
 ·intro b o hk
  have:=heap_lt (hr.kw b o hk)
  show (if b=w.heap.size then _ else E.K b)=some o
  rw [if_neg (by omega)]; exact hk
 ·intro l id hl
  have:=hr.lw l id hl
  show (if l=w.heap.size + 1 then _ else E.lk l)=some id
  rw [if_neg (by omega)]; exact hl
theorem range_rel {w0:World} {K0:Nat→Option Obj} {E:Env} {n:Nat} {fr:Frm} {hp:Hp} {a:Act} {w:World} {nx:Nat} (hr:Rel w0 K0 (fun id=>id < nx) E n fr hp a w) (r:Nat→List Value→Obj) (hc:∀ t ws,∃ L,r t ws=.loop L) :
  Rel w0 K0 (fun id=>id < nx + 1) (E.range nx (w.heap.size + 1) w.heap.size r) n fr ((nx,some (gBlk 0)) :: hp) a ((w.alloc (.deferred (some []))).alloc (r 0 [])):=by
 have hle:=range_le hr r
 have hold:∀ k,k < w.heap.size→((w.alloc (.deferred (some []))).alloc (r 0 [])).heap[k]? = w.heap[k]?:=fun k hk=>
  (Below.heap_alloc (w.alloc (.deferred (some []))) (r 0 []) k (by simp; omega)).trans (Below.heap_alloc w _ k hk)
 have hD:((w.alloc (.deferred (some []))).alloc (r 0 [])).heap[w.heap.size]? = some (.deferred (some [])):=
  (Below.heap_alloc _ _ _ (by simp)).trans (World.alloc_heap_new w _)
 have hL:((w.alloc (.deferred (some []))).alloc (r 0 [])).heap[w.heap.size + 1]? = some (r 0 []):=by
  have:=World.alloc_heap_new (w.alloc (.deferred (some []))) (r 0 []); rwa [World.size_alloc] at this
 have hko:KeepsOthers w ((w.alloc (.deferred (some []))).alloc (r 0 [])):=(KeepsOthers.alloc w _).trans (KeepsOthers.alloc _ _)
 have hsz:((w.alloc (.deferred (some []))).alloc (r 0 [])).heap.size=w.heap.size + 2:=by simp
 have f:∀ i x,hlk ((nx,some (gBlk 0)) :: hp) i=some x→(i=nx∧x=gBlk 0)∨(i≠nx∧hlk hp i=some x):=by
  intro i x hx
  rw [hlk_cons] at hx
  by_cases e:i=nx
  ·rw [if_pos e] at hx; cases hx; exact .inl ⟨e,rfl⟩
  ·rw [if_neg e] at hx; exact .inr ⟨e,hx⟩
 refine { below:=?_,kw:=?_,k0:=?_,nd:=⟨hr.nd.1,hr.nd.2.mono hle.K⟩,size:=hr.size,regs:=fun t ht=>(hr.regs t ht).mono hle,dom:=?_,lw:=?_,out:=hr.out,own:=?_,inj:=?_ }
 ·exact (hr.below.trans ((((Below.refl _ w).alloc (Nat.le_refl _) _).alloc (by simp) _).mono hr.below.size))
 ·intro b o hb
  have hb':(if b=w.heap.size then some (Obj.deferred (some [])) else E.K b)=some o:=hb
  split at hb'
  ·rename_i e; cases hb'; rw [e]; exact hD
  ·have:=hr.kw b o hb'
   rw [hold b (heap_lt this)]; exact this
 ·intro b o hb hlt
  have hb':(if b=w.heap.size then some (Obj.deferred (some [])) else E.K b)=some o:=hb
  have:=hr.below.size
  rw [if_neg (by omega)] at hb'
  exact hr.k0 b o hb' hlt
 ·intro id hd
  rcases hd with rfl | hd
  ·exact Nat.lt_succ_self _
  ·exact Nat.lt_succ_of_lt (hr.dom id hd)
 ·intro l id hl
  have hl':(if l=w.heap.size + 1 then some nx else E.lk l)=some id:=hl
  rw [hsz]
  split at hl'
  ·omega
  ·have:=hr.lw l id hl'; omega
 ·intro i x hx
  rcases f i x hx with ⟨rfl,rfl⟩ | ⟨e,hx'⟩
  ·refine ⟨.inl rfl,if_pos rfl,Nat.one_pos,?_,.inl ⟨if_pos rfl,MapEl.nil,if_pos rfl,?_⟩⟩
   ·show (if i=i then 0 else E.cap i)≤maxLen
    rw [if_pos rfl]; exact Nat.zero_le _
   ·intro l q hq
    have hq':(if i=i then some (w.heap.size + 1,r) else E.lp i)=some (l,q):=hq
    rw [if_pos rfl] at hq'
    cases hq'
    refine ⟨[],ElsV.nil,hL,.inl (hc 0 []),if_pos rfl,?_⟩
    show (if w.heap.size + 1=w.heap.size then _ else E.K (w.heap.size + 1))=none
    rw [if_neg (by omega)]
    cases hk:E.K (w.heap.size + 1) with
    | none=>rfl
    | some o=>have:=heap_lt (hr.kw _ _ hk); omega
  ·have hown:=hr.own i x hx'
   refine hown.mono hle (fun g hg=>?_) (fun g hg hlt=>hold g hlt) hko (fun l o hl _ hk=>?_)
   ·have:=hown.ρ_lt hg
    show (if g=w.heap.size then _ else E.K g)=E.K g
    rw [if_neg (by omega)]
   ·have:=heap_lt hl
    show (if l=w.heap.size then _ else E.K l)=none
    rw [if_neg (by omega)]; exact hk
 ·intro i j x y g hx hy hg1 hg2
  rcases f i x hx with ⟨rfl,rfl⟩ | ⟨e,hx'⟩
  ·have hg1':(if i=i then none else E.ρ i)=some g:=hg1
   rw [if_pos rfl] at hg1'; cases hg1'
  ·rcases f j y hy with ⟨rfl,rfl⟩ | ⟨e',hy'⟩
   ·have hg2':(if j=j then none else E.ρ j)=some g:=hg2
    rw [if_pos rfl] at hg2'; cases hg2'
   ·have hg1':(if i=nx then none else E.ρ i)=some g:=hg1
    have hg2':(if j=nx then none else E.ρ j)=some g:=hg2
    rw [if_neg e] at hg1'; rw [if_neg e'] at hg2'
    exact hr.inj i j x y g hx' hy' hg1' hg2'
theorem WP.range (hX:X.ok) (k:Nat) {f:Operand} {g:FuncId} {gn:Func} {gb:Code} {cap:List AV} {ps:List Tmp} {as bd:Code} {n nx:Nat} {fr:Frm} {hp:Hp} {Q:Exit→St→Prop}
  (hf:evo fr f=.fn (.func g) [] cap) (hen:Enters X.P g) (hgn:X.P.funcs[g]? = some gn) (hgb:gn.body=some gb) (hl:(AV.yld nx :: cap).length≤gn.ntmps) (hda:drawsOk as=true) (hdb:drawsOk bd=true)
  (h:∀ inv,(X.iter (yldH X (callN X k) nx n fr ps as bd) inv).core→codeA (X.iter (yldH X (callN X k) nx n fr ps as bd) inv) (callN X k) gb (bodyQ X.T gn (endR nx n fr Q)) ⟨gn.ntmps,argFrm (.yld nx :: cap) 0,(nx,some (gBlk 0)) :: hp,nx + 1⟩) :
  WP X.top (.rangeFunc f ps.toArray as bd) Q ⟨n,fr,hp,nx⟩:=by
 intro w0 K0 E a w hi hr
 have hfc:=hr.ev f
 dsimp only at hfc
 rw [hf] at hfc
 generalize hv:a.eval f=v at hfc
 cases hfc with
 | fn _ _ _ xs ys hlx hly hx hy=>
 have hxs:xs=#[]:=Array.eq_empty_of_size_eq_zero (by simpa using hlx.symm)
 subst hxs
 show Code.wpIn (FW X.rd) 0 X.P _ _ _ _
 rw [hX.rd]
 refine wpIn_rangeFunc ?_
 intro fnid _
 obtain ⟨r,hrdef⟩:∃ r:Nat→List Value→Obj,r=fun t _=>.loop (recL fnid a.tmps ps.toArray as bd w.heap.size t):=⟨_,rfl⟩
 have hrc:∀ t ws,∃ L,r t ws=.loop L:=fun t _=>by rw [hrdef]; exact ⟨_,rfl⟩
 have hle:=range_le hr r
 have hrel:=range_rel hr r hrc
 refine ⟨w.heap.size + 1,[{ target:=.collected w.heap.size,args:=#[] }],(w.alloc (.deferred (some []))).alloc (r 0 []),{ target:=.fn (.func g) ys,args:=#[.func (.yield (w.heap.size + 1)) #[] #[]] },
  (w.alloc (.deferred (some []))).alloc (r 0 []),g,#[.func (.yield (w.heap.size + 1)) #[] #[]] ++ ys,(w.alloc (.deferred (some []))).alloc (r 0 []),?_,?_,fun _ _=>trivial,?_,(fun h=>by cases h),?_⟩
 ·rw [hrdef]; exact run_enterLoop_outer _ _ _ _ _
 ·simp only [resolve,hv]
  simp [go_sem]
 ·simp [invoke,go_sem,run_callFunc hen]
 ·have hE1:(E.range nx (w.heap.size + 1) w.heap.size r).lp nx=some (w.heap.size + 1,r):=if_pos rfl
  have hE2:(E.range nx (w.heap.size + 1) w.heap.size r).ρ nx=none:=if_pos rfl
  have hE3:(E.range nx (w.heap.size + 1) w.heap.size r).dom nx:=.inl rfl
  have hdomE:∀ id,(E.range nx (w.heap.size + 1) w.heap.size r).dom id→id=nx∨E.dom id:=fun _ h=>h
  have hKD:(E.range nx (w.heap.size + 1) w.heap.size r).K w.heap.size=some (.deferred (some [])):=if_pos rfl
  have hmk:(E.range nx (w.heap.size + 1) w.heap.size r).mrk=E.mrk:=rfl
  generalize E.range nx (w.heap.size + 1) w.heap.size r=E1 at *
  have hY:=yldH_sound hX k (nx0:=nx) (n:=n) (fr:=fr) (ps:=ps) (as:=as) (bd:=bd) hda hdb (E1:=E1.plain) (l:=w.heap.size + 1) (D:=w.heap.size) (fnid:=fnid) (ts:=a.tmps) hr.size
   (fun t ht=>((hr.regs t ht).mono hle).monoc E1.lec_plain) hr.out hE3 hE2 (by rw [← hrdef]; exact hE1)
  have hcore:(X.iter (yldH X (callN X k) nx n fr ps as bd) (fun w0' E'=>w0'.heap.size≤w.heap.size + 1∧E1.plain.le E')).core:=
   ⟨hY,fun w0 E E' h hle=>⟨h.1,h.2.trans hle⟩,hX.core.T,hX.core.draws,hX.core.C,hX.core.O⟩
  have hargs:ArgsCon E1 (.yld nx :: cap) (#[.func (.yield (w.heap.size + 1)) #[] #[]] ++ ys):=by
   refine ⟨by simp; omega,fun i x u hix hiu=>?_⟩
   cases i with
   | zero=>
    rw [Array.getElem?_append,if_pos (by simp)] at hiu
    simp at hix hiu
    subst hix; subst hiu
    exact .yld nx _ r hE3 hE1
   | succ i=>
    have h1:cap[i]? = some x:=by simpa using hix
    have h2:ys[i]? = some u:=by
     rw [Array.getElem?_append,if_neg (by simp)] at hiu
     simpa using hiu
    exact (hy i x u h1 h2).mono hle
  refine callsIn_FW.2 ((body_calls hcore hX.rd (callN_sound hX.core hX.rd hX.inv k) hgn hgb hl (h _ hcore) (by exact ⟨by have:=hr.below.size; omega,Env.le.refl _⟩) hrel hargs).mono ?_)
  rintro e w3 ⟨v,rr,hp',nx',E',rfl,hend,hext,hc,hrel3⟩
  have hρ3:E'.ρ nx=none:=(hext.le.ρ nx hE3).trans hE2
  have hlp3:=(hext.le.lp nx hE3).trans hE1
  unfold endR at hend
  split at hend
  ·rename_i b hb
   obtain ⟨_,_,f1,f2,f3,f4⟩:=hrel3.loopIs hb hρ3 _ _ hlp3
   have hput:=hrel3.putL hb hρ3 hlp3 (by have:=hr.below.size; omega) (.loop { recL fnid a.tmps ps.toArray as bd w.heap.size b.ty with state:=.exhausted })
   have hleE:E.le E':=hle.trans hext.le
   have hfin:Rel w0 K0 (fun id=>id < nx') E' n fr ((nx,none) :: hp') { a with defers:={ target:=.collected w.heap.size,args:=#[] } :: a.defers } (w3.putObj (w.heap.size + 1) (.loop { recL fnid a.tmps ps.toArray as bd w.heap.size b.ty with state:=.exhausted })):=by
    refine hput.frame ⟨fun he=>?_,⟨⟨w.heap.size,rfl,hr.below.size,hext.le.K _ _ hKD,fun d' hd' e=>?_⟩,hrel3.nd.2⟩⟩ hrel3.size hrel3.regs hrel3.out
    ·rw [hext.le.mrk,hmk,show E.mrk=true from hi] at he; cases he
    ·have hm:∀ ds,Marks w0.heap.size E.K ds→{ target:=.collected w.heap.size,args:=#[] } ∉ ds:=by
      intro ds
      induction ds with
      | nil=>intro _ h; cases h
      | cons d ds ih=>
       rintro ⟨⟨D',h1,h2,h3,_⟩,h5⟩ hmem
       rcases List.mem_cons.1 hmem with e' | hmem
       ·rw [h1] at e'
        have:w.heap.size=D':=by simpa using e'
        have:=heap_lt (hr.kw D' _ h3)
        omega
       ·exact ih h5 hmem
     rw [e] at hd'
     exact hm _ hr.nd.2 hd'
   have hE':Ext E nx E' nx':=⟨hleE,by have:=hext.up; omega,fun id hd=>by
    rcases hext.dom id hd with h' | h'
    ·rcases hdomE id h' with rfl | h'
     ·right; have:=hext.up; omega
     ·exact .inl h'
    ·right; omega⟩
   have hnb:b.ty≠1:=fun e=>by rw [e] at hend; exact hend
   have hf1:w3.heap[w.heap.size + 1]? = some (.loop (recL fnid a.tmps ps.toArray as bd w.heap.size b.ty)):=by rw [f1,hrdef]
   have hrun:=run_endLoop (P:=X.P) hf1 (by
    simp only [recL,if_neg hnb]
    split <;> simp)
   refine ⟨_,_,hrun,?_⟩
   show (match jumpOf b.ty with | none=>_ | some c=>_)
   generalize hty:b.ty=t at *
   match t,hend with
   | 0,hend=>exact ⟨_,E',hend,hE',hfin⟩
   | 1,hend=>exact hend.elim
   | 2,hend=>exact wpIn_ret ⟨_,E',hend,hE',hfin⟩
   | t + 3,hend=>
    simp only [endJ] at hend
    simp only [jumpOf]
    by_cases e:t % 2=0
    ·rw [if_pos e] at hend ⊢
     exact wpIn_exit ⟨_,E',hend,hE',hfin⟩
    ·rw [if_neg e] at hend ⊢
     exact wpIn_goto ⟨_,E',hend,hE',hfin⟩
  ·exact hend.elim
end
end Go.Vai

/- A function that leaves with a range's mark. -/
namespace Go.Vai
open Go.RowKit
def Env.unmark (E:Env) (D:Nat):Env:={ E with K:=fun b=>if b=D then none else E.K b }
theorem Rel.unmark {w0:World} {K0:Nat→Option Obj} {D0:Nat→Prop} {E:Env} {n:Nat} {fr:Frm} {hp:Hp} {ts:Array Value} {D:Nat} {ds:List Deferred} {w:World}
  (h:Rel w0 K0 D0 E n fr hp { tmps:=ts,defers:={ target:=.collected D,args:=#[] } :: ds } w) :
  w.heap[D]? = some (.deferred (some []))∧Rel w0 K0 D0 (E.unmark D) n fr hp { tmps:=ts,defers:=ds } (w.putObj D (.deferred none)):=by
 obtain ⟨hn1,⟨D',hd,hB,hK,hne⟩,hm⟩:=h.nd
 have hDD:D'=D:=by simpa using hd.symm
 subst hDD
 have hw:=h.kw D' _ hK
 have hot:∀ k,k≠D'→(w.putObj D' (.deferred none)).heap[k]? = w.heap[k]?:=fun k hk=>World.putObj_heap_other hk
 have hlec:E.lec (E.unmark D'):=⟨fun _ d=>d,fun _ _=>rfl,fun _ _=>rfl,fun _ _=>rfl,fun a v hk=>by
  unfold kcell at hk ⊢
  by_cases e:a.block=D'
  ·rw [e,hK] at hk; cases hk
  ·rw [show (E.unmark D').K a.block=E.K a.block from if_neg e]; exact hk,fun l es c hk=>by
   by_cases e:l=D'
   ·rw [e,hK] at hk; cases hk
   ·rw [show (E.unmark D').K l=E.K l from if_neg e]; exact hk,fun _ _=>rfl⟩
 refine ⟨hw,{ below:=⟨h.below.os,h.below.tape,h.below.output,by rw [World.putObj_size]; exact h.below.size,fun k hk=>(hot k (by omega)).trans (h.below.block k hk)⟩,kw:=?_,k0:=?_,nd:=⟨fun he=>?_,hm.mono' ?_⟩,size:=h.size,regs:=fun t ht=>(h.regs t ht).monoc hlec,dom:=h.dom,lw:=fun l i hl=>by rw [World.putObj_size]; exact h.lw l i hl,out:=h.out,own:=?_,inj:=h.inj }⟩
 ·intro b o hb
  have hb':(if b=D' then none else E.K b)=some o:=hb
  split at hb'
  ·cases hb'
  ·rename_i e; rw [hot b e]; exact h.kw b o hb'
 ·intro b o hb hlt
  have hb':(if b=D' then none else E.K b)=some o:=hb
  split at hb'
  ·cases hb'
  ·exact h.k0 b o hb' hlt
 ·have:=hn1 he; cases this
 ·intro D2 hmem hk
  show (if D2=D' then none else E.K D2)=_
  rw [if_neg (fun e=>hne _ hmem (by rw [e]))]; exact hk
 ·intro id b hb
  obtain ⟨hd,hs,hp0,hmx,ho⟩:=h.own id b hb
  refine ⟨hd,hs,hp0,hmx,?_⟩
  rcases ho with ⟨h1,h2,h3,h4⟩ | ⟨g,cur,h1,h2,h3,h4,h5,h6,h7,h8⟩
  ·refine .inl ⟨h1,h2,h3,fun l r he=>?_⟩
   obtain ⟨ws,f0,f1,fr,f3,f4⟩:=h4 l r he
   refine ⟨ws,f0.monoc hlec,(hot l (fun e=>by
    rw [e,hw] at f1
    rcases fr with ⟨L,hL⟩ | ⟨_,es,c,hL⟩ <;> (rw [hL] at f1; cases f1))).trans f1,fr,f3,?_⟩
   show (if l=D' then none else E.K l)=none
   split
   ·rfl
   ·exact f4
  ·have hg:g≠D':=fun e=>by rw [e,hw] at h3; cases h3
   refine .inr ⟨g,cur,h1,h2,(hot g hg).trans h3,h4,h5,fun hr=>?_,fun hr=>?_,h8.monoc hlec⟩
   ·show (if g=D' then none else E.K g)=none
    rw [if_neg hg]; exact h6 hr
   ·show (if g=D' then none else E.K g)=_
    rw [if_neg hg]; exact h7 hr
theorem leaves_of {w0:World} {K0:Nat→Option Obj} {D0:Nat→Prop} {n:Nat} {fr:Frm} {hp:Hp} {ts:Array Value} {P:Program} {fn:Func} {R:Ending→World→Prop}
  (fin:∀ E w,Rel w0 K0 D0 E n fr hp { tmps:=ts,defers:=[] } w→∃ v,(results fn ts).run P w=.ok v w∧R (.returned v) w) :
  ∀ (ds:List Deferred) (E:Env) (w:World),Rel w0 K0 D0 E n fr hp { tmps:=ts,defers:=ds } w→LeavesInM (FW none) 0 P fn ts R ds .returning w
 | [],E,w,h=>fin E w h
 | d :: ds,E,w,h=>by
  obtain ⟨_,⟨D,rfl,_,_,_⟩,_⟩:=h.nd
  obtain ⟨h1,h2⟩:=h.unmark
  exact ⟨by simp,.inl ⟨D,_,rfl,run_takeDeferred h1,leaves_of fin ds _ _ h2⟩⟩
section
variable {X : Ctx} {F : CallF} {n nx nx0 : Nat} {fr : Frm} {hp : Hp} {Q : Exit → St → Prop}
theorem top_T:X.top.T=X.T:=rfl
theorem inR_T {l:Nat}:(X.inR l).T=X.T:=rfl
theorem iter_calls (hX:X.ok) (k:Nat) {Y:YldF} {inv:World→Env→Prop}:CallSound (X.iter Y inv) (callN X k):=callN_sound hX.core hX.rd hX.inv k
theorem r_rangeF {f:Operand} {ps:Array Tmp} {as bd:Code}:codeA X F (.rangeFunc f ps as bd) Q ⟨n,fr,hp,nx⟩=WP X (.rangeFunc f ps as bd) Q ⟨n,fr,hp,nx⟩:=propext Iff.rfl
theorem r_yld {ps:List Tmp} {as bd:Code} {id m:Nat} {fr0:Frm} {args:List AV} {K:AV→Hp→Nat→Prop}:yldH X F nx0 m fr0 ps as bd id args hp nx K =
  (id=nx0∧hlk hp nx0=some (gBlk 0)∧args.length=ps.length∧ps.all (· < m)=true∧∀ l,codeA (X.inR l) F as (thenA (startR X F l nx0 bd K) noQ) ⟨m,zipF ps args fr0,hp,nx⟩):=propext Iff.rfl
theorem r_start {l:Nat} {bd:Code} {K:AV→Hp→Nat→Prop}:startR X F l nx0 bd K ⟨n,fr,hp,nx⟩=(hlk hp nx0=some (gBlk 0)∧codeA (X.inR l) F bd (roundK nx0 K) ⟨n,fr,(nx0,some (gBlk 1)) :: hp,nx⟩):=propext Iff.rfl
theorem r_rkN {K:AV→Hp→Nat→Prop}:roundK nx0 K .normal ⟨n,fr,hp,nx⟩=(hlk hp nx0=some (gBlk 1)∧K (.v (.bool true)) ((nx0,some (gBlk 0)) :: hp) nx):=propext Iff.rfl
theorem r_rkR {K:AV→Hp→Nat→Prop}:roundK nx0 K .ret ⟨n,fr,hp,nx⟩=(hlk hp nx0=some (gBlk 1)∧K (.v (.bool false)) ((nx0,some (gBlk 2)) :: hp) nx):=propext Iff.rfl
theorem r_rkE {K:AV→Hp→Nat→Prop} {id:Nat}:roundK nx0 K (.exit id) ⟨n,fr,hp,nx⟩=(hlk hp nx0=some (gBlk 1)∧K (.v (.bool false)) ((nx0,some (gBlk (2 * id + 3))) :: hp) nx):=propext Iff.rfl
def endM (Q:Exit→St→Prop) (n:Nat) (fr:Frm) (hp:Hp) (nx:Nat):Option Blk→Prop
 | some b=>endJ Q ⟨n,fr,hp,nx⟩ b.ty
 | none=>False
theorem r_endR {r:AV}:endR nx0 n fr Q r hp nx=endM Q n fr ((nx0,none) :: hp) nx (hlk hp nx0):=by
 unfold endR endM; cases hlk hp nx0 <;> rfl
theorem r_endM {t:Nat}:endM Q n fr hp nx (some (gBlk t))=endJ Q ⟨n,fr,hp,nx⟩ t:=propext Iff.rfl
theorem r_endJ0 {s:St}:endJ Q s 0=Q .normal s:=propext Iff.rfl
theorem r_endJ2 {s:St}:endJ Q s 2=Q .ret s:=propext Iff.rfl
theorem r_endJ3 {s:St}:endJ Q s 3=Q (.exit 0) s:=propext Iff.rfl
end
section
variable {X : Ctx}
theorem pure_top (hX:X.ok) (n:Nat) {g:FuncId} {fn:Func} {body:Code} (hfn:X.P.funcs[g]? = some fn) (hb:fn.body=some body) {args:List AV} {r:AV} (hl:args.length≤fn.ntmps)
  (h:codeA X.top (callN X n) body (bodyQ X.T fn fun r0 hp _=>frz hp r0 (subA · r)) ⟨fn.ntmps,argFrm args 0,[],0⟩):PureC X.P g args r:=by
 intro w K vs hK ha
 have hr0:=(rel_start hK).mrk true (a':={ tmps:=#[],defers:=[] }) rfl ⟨fun _=>rfl,trivial⟩
 have ha0:ArgsCon { Env.bare K with mrk:=true } args vs:=⟨ha.1,fun i x v hx hv=>(ha.2 i x v hx hv).monoc (Env.lec_mrk _ true)⟩
 have hwp:=codeA_sound (top_core hX) (callN_sound hX.core hX.rd hX.inv n) body _ _ (body_draws hX.core hfn hb) h w K { Env.bare K with mrk:=true } _ w rfl (args_rel hr0 ha0 hl)
 rw [← callsIn_FW (ro:=none) (n:=0)]
 have hrd:X.top.rd=none:=hX.rd
 rw [hrd] at hwp
 refine callsIn_of_wp_marks hfn hb trivial (wpIn_mono hwp ?_)
 have fin:∀ (s':St) (E':Env) (a':Act) (w':World),resultA X.T fn s' (fun r0=>frz s'.hp r0 (subA · r))→RelS w K E' s' a' w' →
   LeavesInM (FW none) 0 X.P fn a'.tmps (fun e w'=>∃ v,e=.returned v∧Below w.heap.size w w'∧Con (Env.bare (grow w K w')) r v) a'.defers .returning w':=by
  intro s' E' a' w' h1 h2
  refine leaves_of (fun E2 w2 h3=>?_) a'.defers E' w' h2
  obtain ⟨x,v,k1,k2,k3⟩:=resultA_sound (top_core hX) h1 h3
  obtain ⟨y,hy,hc⟩:=frz_sound h3 (K':=grow w K w2) (fun b o hb=>by
   simp only [grow]
   split
   ·rename_i hlt; exact h3.k0 b o hb hlt
   ·exact h3.kw b o hb) (fun b hb=>by simp only [grow,if_neg (Nat.not_lt.2 hb)]) k3 k1
  exact ⟨v,k2,v,rfl,h3.below,subA_con hy hc⟩
 rintro e a' w' ⟨s',E',h1,h2,h3⟩
 cases e with
 | normal=>exact fin s' E' a' w' h1 h3
 | ret=>exact fin s' E' a' w' h1 h3
 | _=>exact h1.elim
end
end Go.Vai

/- nil in a cell of the call's own, as a list of the call's own. -/
namespace Go.Vai
open Go.RowKit
section
variable {X : Ctx}
theorem Rel.reel {w0:World} {K0:Nat→Option Obj} {D:Nat→Prop} {E:Env} {n:Nat} {fr:Frm} {hp:Hp} {a:Act} {w:World} (h:Rel w0 K0 D E n fr hp a w) {id nx:Nat} {b:Blk} (hb:hlk hp id=some b) (hel:b.el=[.v (.slice none 0 0)]) (hd:E.dom nx) (hρ:E.ρ nx=none) :
  Rel w0 K0 D E n fr ((id,some { b with el:=[.arr nx 0 0] }) :: hp) a w:=by
 have f:∀ i x,hlk ((id,some ({ b with el:=[.arr nx 0 0] }:Blk)) :: hp) i=some x→(i=id∧x={ b with el:=[.arr nx 0 0] })∨(i≠id∧hlk hp i=some x):=by
  intro i x hx
  rw [hlk_cons] at hx
  by_cases e:i=id
  ·rw [if_pos e] at hx; cases hx; exact .inl ⟨e,rfl⟩
  ·rw [if_neg e] at hx; exact .inr ⟨e,hx⟩
 have g:∀ i x,hlk ((id,some ({ b with el:=[.arr nx 0 0] }:Blk)) :: hp) i=some x→∃ y,hlk hp i=some y:=by
  intro i x hx
  rcases f i x hx with ⟨rfl,_⟩ | ⟨_,h'⟩
  ·exact ⟨b,hb⟩
  ·exact ⟨x,h'⟩
 refine { h with own:=fun i x hx=>?_,inj:=fun i j x y q hx hy=>?_ }
 ·rcases f i x hx with ⟨rfl,rfl⟩ | ⟨_,h'⟩
  ·obtain ⟨hd1,hs,hp0,hm,ho⟩:=h.own i b hb
   refine ⟨hd1,hs,hp0,hm,?_⟩
   rcases ho with ⟨_,h2,_⟩ | ⟨g',cur,h1,h2,h3,h4,h5,h6,h7,h8⟩
   ·obtain ⟨k,y,e⟩:=h2.2 (.v (.slice none 0 0)) (by rw [hel]; simp)
    cases e
   ·refine .inr ⟨g',cur,h1,h2,h3,h4,by rw [hel] at h5; exact h5,h6,h7,?_⟩
    intro k x hk
    have h0:=h8 0 (.v (.slice none 0 0)) (by rw [hel]; rfl)
    cases k with
    | zero=>
     simp at hk
     subst hk
     refine ⟨h0.1,fun j z hz=>?_⟩
     cases j with
     | zero=>
      simp [AV.cells] at hz
      subst hz
      obtain ⟨y,e1,e2,e3⟩:=h0.2 0 (.v (.slice none 0 0)) rfl
      cases e3
      exact ⟨_,e1,e2,.arr0 nx hd hρ⟩
     | succ j=>simp [AV.cells] at hz
    | succ k=>simp at hk
  ·exact h.own i x h'
 ·obtain ⟨x',hx'⟩:=g i x hx
  obtain ⟨y',hy'⟩:=g j y hy
  exact h.inj i j x' y' q hx' hy'
theorem WP.virtB {c:Code} {Q:Exit→St→Prop} {n nx:Nat} {fr:Frm} {hp:Hp} (id:Nat) (ty:TypeId) (sz:Nat) {b:Blk} (hb:hlk hp id=some b) (hel:b.el=[.v (.slice none 0 0)]) (hs:0 < sz)
  (h:WP X c Q ⟨n,fr,(id,some { b with el:=[.arr nx 0 0] }) :: (nx,some ⟨false,ty,sz,[]⟩) :: hp,nx + 1⟩) (im:∀ w0 E E',X.inv w0 E→E.le E'→X.inv w0 E':=by exact fun _ _ _ _ _=>trivial):WP X c Q ⟨n,fr,hp,nx⟩:=by
 intro w0 K0 E a w hi0 hr
 have hme:¬ E.dom nx:=fun h=>Nat.lt_irrefl _ (hr.dom nx h)
 have hid:id≠nx:=fun e=>hme (e ▸ (hr.own id b hb).1)
 have hv:=Rel.virt hr hme (D':=fun id=>id < nx + 1) (fun id h=>h.elim Nat.lt_succ_of_lt fun e=>e ▸ Nat.lt_succ_self _) ty sz hs
 have hx:Ext E nx (E.add nx none sz 0) (nx + 1):=⟨Env.le_add hme ..,by omega,fun id h=>h.elim (fun e=>.inr (by omega)) .inl⟩
 have hr2:RelS w0 K0 (E.add nx none sz 0) ⟨n,fr,(id,some { b with el:=[.arr nx 0 0] }) :: (nx,some ⟨false,ty,sz,[]⟩) :: hp,nx + 1⟩ a w:=
  hv.reel (b:=b) (by rw [hlk_cons,if_neg hid]; exact hb) hel (.inl rfl) (if_pos rfl)
 refine wpIn_mono (h w0 K0 _ a w (im _ _ _ hi0 hx.le) hr2) ?_
 rintro e a' w' ⟨s',E',h1,h2,h3⟩
 exact ⟨s',E',h1,hx.trans h2,h3⟩
theorem WP.ranges (hX:X.ok) (k:Nat) {f:Operand} {g:FuncId} {gn:Func} {gb:Code} {cap:List AV} {ps:List Tmp} {as bd:Code} {n nx:Nat} {fr:Frm} {hp:Hp} {Q:Exit→St→Prop}
  (hf:evo fr f=.fn (.func g) [] cap) (hen:Enters X.P g) (hgn:X.P.funcs[g]? = some gn) (hgb:gn.body=some gb) (hl:(AV.yld nx :: cap).length≤gn.ntmps) (hda:drawsOk as=true) (hdb:drawsOk bd=true)
  (h:∀ Y:Ctx,Y.core→CallSound Y (callN X k)→Y.T=X.T→Y.C=X.C→Y.Y=yldH X (callN X k) nx n fr ps as bd →
   codeA Y (callN X k) gb (bodyQ X.T gn (endR nx n fr Q)) ⟨gn.ntmps,argFrm (.yld nx :: cap) 0,(nx,some (gBlk 0)) :: hp,nx + 1⟩):WP X.top (.rangeFunc f ps.toArray as bd) Q ⟨n,fr,hp,nx⟩:=
 WP.range hX k hf hen hgn hgb hl hda hdb fun inv hI=>h _ hI (iter_calls hX k) rfl rfl rfl
end
theorem entryOk_step {all:List Oper} {e:Nat × List Nat × List Nat} {log:Log} {k:Nat} {acc wr:List Nat} (h:anc all all.length k e.1=true∨(meets wr e.2.1=false∧meets e.2.2 acc=false)) (h':entryOk all log k acc wr=true) :
  entryOk all (e :: log) k acc wr=true:=by
 unfold entryOk at *
 rw [List.all_cons,h',Bool.and_true]
 rcases h with h | ⟨h1,h2⟩
 ·rw [h,Bool.or_true]
 ·rw [h1,h2]; rfl
theorem ev1:type_of% (And.intro @r_step <| And.intro @r_put <| And.intro @r_put0 <| And.intro @r_after <| And.intro @r_guard0 <| And.intro @r_guard <| And.intro @r_nil <| And.intro @r_cons <| And.intro @r_stepD <| And.intro @r_afterD0 <| And.intro @r_afterD1 <| And.intro @r_afterD2 <| And.intro @r_nilD <| And.intro @r_consD <| And.intro @r_skip <| And.intro @r_text <| And.intro @r_draw <| And.intro @r_drawN <| And.intro @r_drawP <| And.intro @r_restL <| And.intro @r_restM <| And.intro @r_mvN <| And.intro @r_mvC <| And.intro @r_preN <| And.intro @r_preC <| And.intro @r_callL <| And.intro @r_lateN <| And.intro @r_lateC <| And.intro @r_rest <| And.intro @r_pivN <| And.intro @r_pivC <| And.intro @r_seq <| And.intro @r_cond <| And.intro @r_block <| And.intro @r_loop <| And.intro @r_exit <| And.intro @r_scope <| And.intro @r_label <| And.intro @r_goto <| And.intro @r_ret <| And.intro @r_condB <| And.intro @r_condT <| And.intro @r_condF <| And.intro @condE_any <| And.intro @guardE_any <| And.intro @r_then <| And.intro @r_thenR <| And.intro @r_thenE <| And.intro @r_thenG <| And.intro @r_blkN <| And.intro @r_blkR <| And.intro @r_blkG <| And.intro @r_blkE <| And.intro @r_scpN <| And.intro @r_scpR <| And.intro @r_scpE <| And.intro @r_bodyR <| And.intro @r_bodyN <| And.intro @r_ret1 <| And.intro @r_call <| And.intro @r_callC <| And.intro @r_callI <| And.intro @r_callE <| And.intro @r_callJ <| And.intro @r_callG <| And.intro @r_callH <| And.intro @r_callV <| And.intro @r_callY <| And.intro @r_again <| And.intro @cells_agg <| And.intro @cells_v <| And.intro @cells_lst <| And.intro @cells_ptr <| And.intro @cells_arr <| And.intro @cells_fn <| And.intro @entryOk_nil <| @entryOk_rd):=And.intro @r_step <| And.intro @r_put <| And.intro @r_put0 <| And.intro @r_after <| And.intro @r_guard0 <| And.intro @r_guard <| And.intro @r_nil <| And.intro @r_cons <| And.intro @r_stepD <| And.intro @r_afterD0 <| And.intro @r_afterD1 <| And.intro @r_afterD2 <| And.intro @r_nilD <| And.intro @r_consD <| And.intro @r_skip <| And.intro @r_text <| And.intro @r_draw <| And.intro @r_drawN <| And.intro @r_drawP <| And.intro @r_restL <| And.intro @r_restM <| And.intro @r_mvN <| And.intro @r_mvC <| And.intro @r_preN <| And.intro @r_preC <| And.intro @r_callL <| And.intro @r_lateN <| And.intro @r_lateC <| And.intro @r_rest <| And.intro @r_pivN <| And.intro @r_pivC <| And.intro @r_seq <| And.intro @r_cond <| And.intro @r_block <| And.intro @r_loop <| And.intro @r_exit <| And.intro @r_scope <| And.intro @r_label <| And.intro @r_goto <| And.intro @r_ret <| And.intro @r_condB <| And.intro @r_condT <| And.intro @r_condF <| And.intro @condE_any <| And.intro @guardE_any <| And.intro @r_then <| And.intro @r_thenR <| And.intro @r_thenE <| And.intro @r_thenG <| And.intro @r_blkN <| And.intro @r_blkR <| And.intro @r_blkG <| And.intro @r_blkE <| And.intro @r_scpN <| And.intro @r_scpR <| And.intro @r_scpE <| And.intro @r_bodyR <| And.intro @r_bodyN <| And.intro @r_ret1 <| And.intro @r_call <| And.intro @r_callC <| And.intro @r_callI <| And.intro @r_callE <| And.intro @r_callJ <| And.intro @r_callG <| And.intro @r_callH <| And.intro @r_callV <| And.intro @r_callY <| And.intro @r_again <| And.intro @cells_agg <| And.intro @cells_v <| And.intro @cells_lst <| And.intro @cells_ptr <| And.intro @cells_arr <| And.intro @cells_fn <| And.intro @entryOk_nil <| @entryOk_rd
theorem ev2:type_of% (And.intro @List.toList_toArray.{0} <| And.intro @List.length_cons.{0} <| And.intro @List.length_nil.{0} <| And.intro @List.nil_append.{0} <| And.intro @List.cons_append.{0} <| And.intro @List.append_nil.{0} <| And.intro @List.map_nil.{0,0} <| And.intro @List.map_cons.{0,0} <| And.intro @List.getD_cons_zero.{0} <| And.intro @List.getD_cons_succ.{0} <| And.intro @List.drop_zero.{0} <| And.intro @List.drop_succ_cons.{0} <| And.intro @List.take_succ_cons.{0} <| And.intro @List.take_zero.{0} <| And.intro @List.all_cons.{0} <| And.intro @List.all_nil.{0} <| And.intro @List.getElem?_cons_zero.{0} <| And.intro @List.getElem?_cons_succ.{0} <| And.intro @List.headD_cons.{0} <| And.intro @List.set_cons_zero.{0} <| And.intro @List.set_cons_succ.{0} <| And.intro @Option.map_some.{0,0} <| And.intro @Option.map_none.{0,0} <| And.intro @Option.isSome_some.{0} <| And.intro @Option.isSome_none.{0} <| And.intro @Nat.zero_add <| And.intro @Nat.sub_zero <| And.intro @Nat.add_zero <| And.intro @Int.toNat_zero <| And.intro @Nat.zero_le <| And.intro @if_true.{1} <| And.intro @if_false.{1} <| And.intro @true_and <| And.intro @and_true <| And.intro @false_and <| And.intro @and_false <| And.intro @true_implies <| And.intro @false_implies <| And.intro @Bool.not_true <| And.intro @Bool.not_false <| And.intro @Bool.and_true <| And.intro @Bool.true_and <| And.intro @decide_true <| And.intro @decide_false <| And.intro @Bool.false_eq_true <| And.intro @not_false_eq_true <| And.intro @not_true_eq_false <| And.intro @Bool.true_eq_false <| And.intro @Bool.not_eq_true <| And.intro @List.cons_ne_nil.{0} <| And.intro @Nat.lt_irrefl <| @beq_self_eq_true.{0}):=And.intro @List.toList_toArray.{0} <| And.intro @List.length_cons.{0} <| And.intro @List.length_nil.{0} <| And.intro @List.nil_append.{0} <| And.intro @List.cons_append.{0} <| And.intro @List.append_nil.{0} <| And.intro @List.map_nil.{0,0} <| And.intro @List.map_cons.{0,0} <| And.intro @List.getD_cons_zero.{0} <| And.intro @List.getD_cons_succ.{0} <| And.intro @List.drop_zero.{0} <| And.intro @List.drop_succ_cons.{0} <| And.intro @List.take_succ_cons.{0} <| And.intro @List.take_zero.{0} <| And.intro @List.all_cons.{0} <| And.intro @List.all_nil.{0} <| And.intro @List.getElem?_cons_zero.{0} <| And.intro @List.getElem?_cons_succ.{0} <| And.intro @List.headD_cons.{0} <| And.intro @List.set_cons_zero.{0} <| And.intro @List.set_cons_succ.{0} <| And.intro @Option.map_some.{0,0} <| And.intro @Option.map_none.{0,0} <| And.intro @Option.isSome_some.{0} <| And.intro @Option.isSome_none.{0} <| And.intro @Nat.zero_add <| And.intro @Nat.sub_zero <| And.intro @Nat.add_zero <| And.intro @Int.toNat_zero <| And.intro @Nat.zero_le <| And.intro @if_true.{1} <| And.intro @if_false.{1} <| And.intro @true_and <| And.intro @and_true <| And.intro @false_and <| And.intro @and_false <| And.intro @true_implies <| And.intro @false_implies <| And.intro @Bool.not_true <| And.intro @Bool.not_false <| And.intro @Bool.and_true <| And.intro @Bool.true_and <| And.intro @decide_true <| And.intro @decide_false <| And.intro @Bool.false_eq_true <| And.intro @not_false_eq_true <| And.intro @not_true_eq_false <| And.intro @Bool.true_eq_false <| And.intro @Bool.not_eq_true <| And.intro @List.cons_ne_nil.{0} <| And.intro @Nat.lt_irrefl <| @beq_self_eq_true.{0}
end Go.Vai

/- A list of the call's own is written no more. -/
namespace Go.Vai
open Go.RowKit
section
variable {X : Ctx}
def ownR (hp:Hp) (ty:TypeId) (sz:Nat) (el:List AV):AV→Prop
 | .arr id off len=>match hlk hp id with
  | some b=>b.ro=false∧b.ty=ty∧b.sz=sz∧off=0∧len=el.length∧len≤b.el.length∧b.el.take len=el
  | none=>False
 | _=>False
theorem own_sub (hX:X.ok) (n:Nat) {g:FuncId} {fn:Func} {body:Code} (hfn:X.P.funcs[g]? = some fn) (hb:fn.body=some body) {args:List AV} {ty:TypeId} {sz:Nat} {el:List AV} (hl:args.length≤fn.ntmps) (he:el≠[]) (hf:∀ x∈el,∀ c∈x.cells,HFree c)
  (h:codeA X (callN X n) body (bodyQ X.T fn fun r0 hp _=>ownR hp ty sz el r0) ⟨fn.ntmps,argFrm args 0,[],0⟩):OwnC X.P g args ty sz el:=by
 intro w K vs hK ha
 refine (body_calls hX.core hX.rd (callN_sound hX.core hX.rd hX.inv n) hfn hb hl h (hX.inv _ _) (rel_start hK) ha).mono ?_
 rintro e w' ⟨v,r0,hp',nx',E',rfl,h1,h2,h3,h4⟩
 have hlen:0 < el.length:=List.length_pos_iff.2 he
 cases r0 with
 | arr id off len=>
  simp only [ownR] at h1
  split at h1
  ·rename_i b hbl
   obtain ⟨h5,rfl,rfl,rfl,rfl,h6,h7⟩:=h1
   obtain ⟨hd,hsz,hpos,hmax,hown⟩:=h4.own id b hbl
   generalize hL:el.length=L at *
   cases h3 with
   | arr0=>omega
   | arr _ _ _ g' o c hd' hg ho hc hl'=>
    rcases hown with ⟨k1,_⟩ | ⟨g2,cur,k1,k2,k3,k4,k5,k6,k7,k8⟩
    ·rw [k1] at hg; cases hg
    rw [k1] at hg; cases hg
    have ho':o=0:=by
     rcases ho with e | e
     ·omega
     ·simpa using e
    subst ho'
    refine ⟨g',cur,c,E'.cap id,rfl,h4.below,k2,k3,k4,by omega,by omega,hmax,hpos,?_⟩
    intro i x hx
    have hx':b.el[i]? = some x:=by
     rw [← h7,List.getElem?_take] at hx
     split at hx
     ·exact hx
     ·cases hx
    refine ⟨(k8 i x hx').1,fun j y hy=>?_⟩
    obtain ⟨z,z1,z2,z3⟩:=(k8 i x hx').2 j y hy
    refine ⟨z,z1,z2,(hf x (List.mem_of_getElem? hx) y (List.mem_of_getElem? hy) E' z z3).monoc (Env.bare_le { Env.bare (fun b=>if b=g' then none else grow w K w' b) with mrk:=false } fun q o hq=>?_)⟩
    show (if q=g' then none else grow w K w' q)=some o
    rw [if_neg (fun e=>by rw [e,k6 h5] at hq; cases hq)]
    simp only [grow]
    split
    ·rename_i hlt; exact h4.k0 q o hq hlt
    ·exact h4.kw q o hq
  ·exact h1.elim
 | _=>exact h1.elim
variable {T : TEnv} {ρ : Operand → AV} {H : Nat → Option Blk} {me : Nat}
def updM (T:TEnv) (k:TK) (m key x:AV) (H:Nat→Option Blk):Outc:=
 match k,m,key with
 | .map kt _,.mp id,.v (.int ki n)=>match H id with
  | some b=>some ((T kt).k=.int ki∧findM ki n b.el=some none,.top,[(id,some { b with el:=b.el ++ [.tup [.v (.int ki n),x]] })],[id])
  | none=>none
 | _,_,_=>none
def hitM (T:TEnv) (kt e:TypeId) (ki:IntKind) (ok:Bool) (acc:List Nat):Option (Option AV)→Outc
 | some (some x)=>some ((T kt).k=.int ki,if ok then .tup [x,.v (.bool true)] else x,[],acc)
 | some none=>some ((T kt).k=.int ki∧(T e).k≠.none,if ok then .tup [ofVal (T e).zero,.v (.bool false)] else ofVal (T e).zero,[],acc)
 | none=>none
def lookM (T:TEnv) (k:TK) (m key:AV) (ok:Bool) (H:Nat→Option Blk):Outc:=
 match k,m,key with
 | .map kt e,.mp id,.v (.int ki n)=>match H id with
  | some b=>hitM T kt e ki ok [id] (findM ki n b.el)
  | none=>none
 | .map kt e,.fm el,.v (.int ki n)=>hitM T kt e ki ok [] (findM ki n el)
 | _,_,_=>none
theorem am_look {t:TypeId} {m k:Operand} {ok:Bool}:aopR T (.lookup t m k ok) ρ H me=lookM T (T t).k (ρ m) (ρ k) ok H:=by
 show mapO T (.lookup t m k ok) ρ H me=_
 unfold mapO lookM
 dsimp only
 generalize (T t).k=tk
 generalize ρ m=a
 generalize ρ k=b
 cases tk with
 | map kt e=>
  cases a with
  | mp id=>
   cases b with
   | v x=>
    cases x with
    | int ki n=>
     dsimp only
     cases H id with
     | none=>rfl
     | some b=>
      dsimp only
      cases findM ki n b.el with
      | none=>rfl
      | some q=>cases q <;> rfl
    | _=>rfl
   | _=>rfl
  | fm el=>
   cases b with
   | v x=>
    cases x with
    | int ki n=>
     dsimp only
     cases findM ki n el with
     | none=>rfl
     | some q=>cases q <;> rfl
    | _=>rfl
   | _=>rfl
  | _=>rfl
 | _=>rfl
def maxM (x y:AV):Outc:=
 match x,y with
 | .v (.int k a),.v (.int _ b)=>some (True,.v (.int k (if b > a then b else a)),[],[])
 | _,_=>none
def minM (x y:AV):Outc:=
 match x,y with
 | .v (.int k a),.v (.int _ b)=>some (True,.v (.int k (if b < a then b else a)),[],[])
 | _,_=>none
theorem mo_make {t:TypeId}:mapO T (.makeMap t none) ρ H me=some (True,.mp me,[(me,some ⟨false,0,1,[]⟩)],[]):=rfl
theorem mo_ins {t:TypeId} {m k x:Operand}:mapO T (.insert t m k x) ρ H me=updM T (T t).k (ρ m) (ρ k) (ρ x) H:=rfl
theorem mo_look {t:TypeId} {m k:Operand} {ok:Bool}:mapO T (.lookup t m k ok) ρ H me=lookM T (T t).k (ρ m) (ρ k) ok H:=am_look (me:=me)
theorem mo_max {x y:Operand} {ts:Array TypeId}:mapO T (.call { callee:=.builtin .max,args:=#[x,y],argTypes:=ts }) ρ H me=maxM (ρ x) (ρ y):=rfl
theorem mo_min {x y:Operand} {ts:Array TypeId}:mapO T (.call { callee:=.builtin .min,args:=#[x,y],argTypes:=ts }) ρ H me=minM (ρ x) (ρ y):=rfl
theorem find_nil {k:IntKind} {n:Int}:findM k n []=some none:=rfl
def findS (b:Bool) (x:AV) (r:Option (Option AV)):Option (Option AV):=match b with | true=>some (some x) | false=>r
theorem find_cons {k:IntKind} {n a:Int} {x:AV} {r:List AV}:findM k n (.tup [.v (.int k a),x] :: r)=findS (n == a) x (findM k n r):=by
 simp only [findM,if_true]
 by_cases e:n=a
 ·subst e; simp [findS]
 ·rw [if_neg e,show (n == a)=false from by simpa using e]; rfl
end
end Go.Vai
