/- The evaluator, the plain texts and the contracts that this claim leans on, part 6: nothing of the statement is claimed here. -/
import Derived.Test.YtfbpdlondinjaaaGreatLE
set_option linter.unusedVariables false
set_option linter.unusedSimpArgs false

/- What always holds when an owner and some who steal are at one of several deques at once: by numbers and lists. -/
namespace Go.Vai
open Go.RowKit
structure DBase (c:Cf) (m:List Int) (w t:Int) (L:List Int) (N:Int):Prop where
 lay:Lay c m w
 top:mLoad m (lTop c w)=t
 lo:0≤t
 room:(L.length:Int)≤c.d
 hi:t + L.length≤N
 slots:∀ k:Nat,k < L.length→mLoad m (lSlot c w (t + k))=L.getD k 0
structure OOk (c:Cf) (m:List Int) (w t:Int) (L:List Int) (o:Fr):Prop where
 op:o=noneF∨o.op=0∨o.op=1
 idle:o=noneF∨o.res≠0→mLoad m (lBottom c w)=t + L.length
 push:o.op=0→o.res=0→o.who=w∧0≤o.pc∧o.pc < 4∧mLoad m (lBottom c w)=t + L.length∧(1≤o.pc→o.x=t + L.length)∧(2≤o.pc→(L.length:Int) < c.d)∧(o.pc=3→mLoad m (lSlot c w o.x)=o.val)
 pop:o.op=1→o.res=0→o.who=w∧0≤o.pc∧o.pc < 7∧(o.pc≤1→mLoad m (lBottom c w)=t + L.length)∧(1≤o.pc→o.x=wrapU (t + L.length - 1))∧(2≤o.pc→mLoad m (lBottom c w)=o.x) ∧
  (o.pc=3→0≤o.y∧o.y≤t∧o.y≤t + L.length - 1∧(o.x≠o.y→L≠[]))∧(o.pc=4→o.y=t + L.length - 1∧0≤o.y∧o.y≤t∧(o.y=t→o.val=L.getD 0 0))∧(5≤o.pc→L=[])
def Solo (o:Fr):Prop:=o.op=1∧o.res=0∧o.pc=3∧o.x≠o.y
structure ThOk (w t:Int) (L:List Int) (o f:Fr):Prop where
 op:f=noneF∨f.op=2
 go:f.op=2→f.res=0→f.who=w∧0≤f.pc∧f.pc < 4∧(1≤f.pc→0≤f.y∧f.y≤t)∧(2≤f.pc→f.y=t→L≠[]∧(Solo o→1 < L.length))∧(f.pc=3→f.y=t→f.val=L.getD 0 0)
def dPut (f:Fr):Option Int:=if f.op=0∧f.res=1 then some f.val else none
def dGot (f:Fr):Option Int:=if f.op=1∧(f.res=1∨f.res=0∧f.pc=5)∨f.op=2∧f.res=1 then some f.val else none
structure OEv (o o':Fr) (t:Int) (L:List Int) (t':Int) (L':List Int):Prop where
 op:o'.op=o.op
 val:o.op=0→o'.val=o.val
 over:o.res≠0→o'=o
 ev:(L'=L∧dPut o'=dPut o∧dGot o'=dGot o)∨(L'=L ++ [o.val]∧o.op=0∧o.res=0∧o'.res=1)∨(∃ v,L=L' ++ [v]∧o.op=1∧dGot o=none∧dGot o'=some v)
 empty:o.op=1→o.res=0→o'.res=3→L'=[]
 res:o.res=0→o'.res=0∨o'.res=1∨(o'.res=2∧o.op=0)∨o'.res=3
 rank:o.op=0∨o.op=1→o.res=0→o'.res≠0∨(o.pc < o'.pc∧o'.pc≤6)
structure TEv (f f':Fr) (t:Int) (L:List Int) (t':Int) (L':List Int):Prop where
 op:f'.op=f.op
 over:f.res≠0→f'=f
 ev:(L'=L∧t'=t∧dGot f'=dGot f)∨(∃ v,L=v :: L'∧f.op=2∧f.res=0∧f'.res=1∧f'.val=v)
 res:f.res=0→f'.res=0∨(f'.res=1∧L=f'.val :: L')∨f'.res=3∨f'.res=4
 rank:f.op=2→f.res=0→f'.res≠0∨(f.pc < f'.pc∧f'.pc≤6)
section
variable {c : Cf} {m : List Int} {w t : Int} {L : List Int} {N : Int} {o f : Fr}
theorem DBase.bound (h:DBase c m w t L N) (hN:N≤100000):0≤t∧t + L.length≤100000∧1≤c.d∧c.d≤16:=by
 have:=h.lo; have:=h.hi; have:=h.lay.dpos; omega
theorem wrapU_id {x:Int} (h0:0≤x) (h1:x≤1000000):wrapU x=x:=by rw [wrapU_eq]; omega
theorem far_d {a b:Int} (h0:-1≤a) (h1:a≤1000000) (h2:0≤b) (h3:b≤1000000):far (wrapU a) b=a - b:=by
 rw [far_eq (wrapU_u a) (by unfold InU; omega),wrapU_eq]; omega
theorem wrapU_back {a:Int} (h0:-1≤a) (h1:a≤1000000):wrapU (wrapU a + 1)=a + 1:=by rw [wrapU_eq,wrapU_eq]; omega
theorem sl_ne (h:Lay c m w) {x y:Int} (h0:0≤x) (h1:x < y) (h2:y < x + c.d) (h3:y≤1000000):lSlot c w y≠lSlot c w x:=by
 rw [h.slot,h.slot]
 rcases h.dpos with e | e | e | e | e <;> rw [e] at h2 ⊢ <;> omega
theorem DBase.same {N':Int} (h:DBase c m w t L N) (hN:N≤N'):DBase c m w t L N':=⟨h.lay,h.top,h.lo,h.room,by have:=h.hi; omega,h.slots⟩
theorem DBase.setBottom (h:DBase c m w t L N) (v:Int) {N':Int} (hN:N≤N'):DBase c (mStore m (lBottom c w) v) w t L N' where
 lay:=h.lay.store _ _
 top:=by rw [load_other (fun e=>h.lay.tb e.symm)]; exact h.top
 lo:=h.lo
 room:=h.room
 hi:=by have:=h.hi; omega
 slots:=fun k hk=>by rw [load_other (h.lay.bs _)]; exact h.slots k hk
theorem bottom_set (h:DBase c m w t L N) (v:Int):mLoad (mStore m (lBottom c w) v) (lBottom c w)=v:=load_store h.lay.in_bottom v
theorem ThOk.mono {t':Int} {L':List Int} {o':Fr} (h:ThOk w t L o f) (ht:t≤t') (hL:t'=t→L≠[]→(Solo o→1 < L.length)→L'≠[]∧L'.getD 0 0=L.getD 0 0∧(Solo o'→1 < L'.length)):ThOk w t' L' o' f:=by
 refine ⟨h.op,fun h1 h2=>?_⟩
 obtain ⟨a1,a2,a3,a4,a5,a6⟩:=h.go h1 h2
 refine ⟨a1,a2,a3,fun e=>?_,fun e q=>?_,fun e q=>?_⟩
 ·have:=a4 e; omega
 ·have hy:=a4 (by omega)
  have:t'=t:=by omega
  obtain ⟨b1,b2⟩:=a5 e (by omega)
  obtain ⟨c1,c2,c3⟩:=hL this b1 b2
  exact ⟨c1,c3⟩
 ·have hy:=a4 (by omega)
  have:t'=t:=by omega
  obtain ⟨b1,b2⟩:=a5 (by omega) (by omega)
  obtain ⟨c1,c2,c3⟩:=hL this b1 b2
  rw [c2]; exact a6 e (by omega)
theorem goes_p {pc w v x y:Int} (h:Lay c m w) (h0:0≤pc) (h1:pc < 4):goes c m ⟨0,pc,w,v,x,y,0⟩ 0 4=true:=goes_iff.2 ⟨h,rfl,rfl,h0,h1⟩
theorem own_push (h:DBase c m w t L N) (hN:N≤10000) (ho:OOk c m w t L o) (h0:o.op=0) (hr:o.res=0) :
  ∃ t' L',DBase c (pStep c m o).1 w t' L' (N + 1)∧OOk c (pStep c m o).1 w t' L' (pStep c m o).2∧(∀ f,ThOk w t L o f→ThOk w t' L' (pStep c m o).2 f)∧OEv o (pStep c m o).2 t L t' L':=by
 obtain ⟨b1,b2,b3,b4⟩:=h.bound (by omega)
 obtain ⟨a0,a1,a2,a3,a4,a5,a6⟩:=ho.push h0 hr
 have hns:¬ Solo o:=fun q=>by have:=q.1; omega
 obtain ⟨op,pc,wh,v,x,y,res⟩:=o
 simp only at h0 hr a0 a1 a2 a3 a4 a5 a6
 have a0:=a0.symm
 subst h0 hr a0
 have same:∀ o':Fr,o'.op≠1→∀ f,ThOk w t L ⟨0,pc,w,v,x,y,0⟩ f→ThOk w t L o' f:=fun o' h1 f hf=>hf.mono (Int.le_refl _) (fun _ q _=>⟨q,rfl,fun k=>absurd k.1 h1⟩)
 have hpc:pc=0∨pc=1∨pc=2∨pc=3:=by omega
 rcases hpc with e | e | e | e <;> subst e
 ·have e1:pStep c m ⟨0,0,w,v,x,y,0⟩=(m,⟨0,1,w,v,mLoad m (lBottom c w),y,0⟩):=by simp [pStep,goes_p h.lay]
  rw [e1,a3]
  refine ⟨t,L,h.same (by omega),⟨.inr (.inl rfl),fun q=>by simp [noneF] at q,fun _ _=>?_,fun q=>by simp at q⟩,same _ (by simp),?_⟩
  ·dsimp only
   exact ⟨rfl,by omega,by omega,a3,fun _=>rfl,fun q=>by omega,fun q=>by omega⟩
  ·constructor <;> simp [dPut,dGot]
 ·have a4:=a4 (by omega)
  by_cases q:c.d≤wrapU (x - mLoad m (lTop c w))
  ·have e1:pStep c m ⟨0,1,w,v,x,y,0⟩=(m,⟨0,0,w,v,0,0,2⟩):=by simp [pStep,goes_p h.lay,q,fEnd]
   rw [e1]
   refine ⟨t,L,h.same (by omega),⟨.inr (.inl rfl),fun _=>a3,fun _ q=>by simp at q,fun q=>by simp at q⟩,same _ (by simp),?_⟩
   constructor <;> simp [dPut,dGot]
  ·have e1:pStep c m ⟨0,1,w,v,x,y,0⟩=(m,⟨0,2,w,v,x,mLoad m (lTop c w),0⟩):=by simp [pStep,goes_p h.lay,q]
   rw [e1]
   refine ⟨t,L,h.same (by omega),⟨.inr (.inl rfl),fun q=>by simp [noneF] at q,fun _ _=>?_,fun q=>by simp at q⟩,same _ (by simp),?_⟩
   ·dsimp only
    rw [h.top,a4,wrapU_id (by omega) (by omega)] at q
    exact ⟨rfl,by omega,by omega,a3,fun _=>a4,fun _=>by omega,fun q=>by omega⟩
   ·constructor <;> simp [dPut,dGot]
 ·have a4:=a4 (by omega)
  have a5:=a5 (by omega)
  have e1:pStep c m ⟨0,2,w,v,x,y,0⟩=(mStore m (lSlot c w x) v,⟨0,3,w,v,x,y,0⟩):=by simp [pStep,goes_p h.lay]
  rw [e1]
  refine ⟨t,L,⟨h.lay.store _ _,?_,h.lo,h.room,by have:=h.hi; omega,fun k hk=>?_⟩,⟨.inr (.inl rfl),fun q=>by simp [noneF] at q,fun _ _=>?_,fun q=>by simp at q⟩,same _ (by simp),?_⟩
  ·rw [load_other (fun e=>h.lay.ts x e.symm)]; exact h.top
  ·rw [load_other (sl_ne h.lay (by omega) (by omega) (by omega) (by omega))]; exact h.slots k hk
  ·dsimp only
   refine ⟨rfl,by omega,by omega,?_,fun _=>a4,fun _=>a5,fun _=>load_store (h.lay.in_slot x) v⟩
   rw [load_other (fun e=>h.lay.bs x e.symm)]; exact a3
  ·constructor <;> simp [dPut,dGot]
 ·have a4:=a4 (by omega)
  have a5:=a5 (by omega)
  have a6:=a6 rfl
  have e1:pStep c m ⟨0,3,w,v,x,y,0⟩=(mStore m (lBottom c w) (wrapU (x + 1)),⟨0,0,w,v,0,0,1⟩):=by simp [pStep,goes_p h.lay,fEnd]
  rw [e1,wrapU_id (by omega) (by omega)]
  have hb:=h.setBottom (x + 1) (Int.le_refl N)
  refine ⟨t,L ++ [v],⟨hb.lay,hb.top,h.lo,by simp; omega,by have:=h.hi; simp; omega,fun k hk=>?_⟩,⟨.inr (.inl rfl),fun _=>?_,fun _ q=>by simp at q,fun q=>by simp at q⟩,fun f hf=>hf.mono (Int.le_refl _) (fun _ q _=>⟨by simp,?_,fun k=>by simp [Solo] at k⟩),?_⟩
  ·rw [load_other (h.lay.bs _)]
   by_cases q:k < L.length
   ·rw [h.slots k q]; simp [List.getD_eq_getElem?_getD,List.getElem?_append,q]
   ·have:k=L.length:=by simp at hk; omega
    subst this
    rw [← a4,a6]; simp [List.getD_eq_getElem?_getD]
  ·rw [bottom_set h]; simp; omega
  ·cases L with
   | nil=>exact absurd rfl q
   | cons a r=>rfl
  ·constructor <;> simp [dPut,dGot]
theorem own_pop (h:DBase c m w t L N) (hN:N≤10000) (ho:OOk c m w t L o) (h0:o.op=1) (hr:o.res=0) :
  ∃ t' L',DBase c (oStep c m o).1 w t' L' (N + 1)∧OOk c (oStep c m o).1 w t' L' (oStep c m o).2∧(∀ f,ThOk w t L o f→ThOk w t' L' (oStep c m o).2 f)∧OEv o (oStep c m o).2 t L t' L':=by
 obtain ⟨b1,b2,b3,b4⟩:=h.bound (by omega)
 obtain ⟨a0,a1,a2,a3,a4,a5,a6,a7,a8⟩:=ho.pop h0 hr
 obtain ⟨op,pc,wh,v,x,y,res⟩:=o
 simp only at h0 hr a0 a1 a2 a3 a4 a5 a6 a7 a8
 have a0:=a0.symm
 subst h0 hr a0
 have hpc:pc=0∨pc=1∨pc=2∨pc=3∨pc=4∨pc=5∨pc=6:=by omega
 have same:∀ o':Fr,¬ Solo o'→∀ f,ThOk w t L ⟨1,pc,w,v,x,y,0⟩ f→ThOk w t L o' f:=fun o' h1 f hf=>hf.mono (Int.le_refl _) (fun _ q _=>⟨q,rfl,fun k=>absurd k h1⟩)
 have hlen:0≤(L.length:Int):=by omega
 rcases hpc with e | e | e | e | e | e | e <;> subst e
 ·have a3:=a3 (by omega)
  rw [pop_1 h.lay,a3]
  refine ⟨t,L,h.same (by omega),⟨.inr (.inr rfl),fun q=>by simp [noneF] at q,fun q=>by simp at q,fun _ _=>?_⟩,same _ (by simp [Solo]),?_⟩
  ·dsimp only
   exact ⟨rfl,by omega,by omega,fun _=>a3,fun _=>rfl,fun q=>by omega,fun q=>by omega,fun q=>by omega,fun q=>by omega⟩
  ·constructor <;> simp [dPut,dGot]
 ·have a3:=a3 (by omega)
  have a4:=a4 (by omega)
  rw [pop_2 h.lay]
  refine ⟨t,L,h.setBottom x (by omega),⟨.inr (.inr rfl),fun q=>by simp [noneF] at q,fun q=>by simp at q,fun _ _=>?_⟩,same _ (by simp [Solo]),?_⟩
  ·dsimp only
   exact ⟨rfl,by omega,by omega,fun q=>by omega,fun _=>a4,fun _=>bottom_set h x,fun q=>by omega,fun q=>by omega,fun q=>by omega⟩
  ·constructor <;> simp [dPut,dGot]
 ·have a4:=a4 (by omega)
  have a5:=a5 (by omega)
  have hf:far x (mLoad m (lTop c w))=t + L.length - 1 - t:=by rw [h.top,a4]; exact far_d (by omega) (by omega) (by omega) (by omega)
  by_cases q:L=[]
  ·have hl0:L.length=0:=by rw [q]; rfl
   rw [pop_3e h.lay (by rw [hf]; omega)]
   refine ⟨t,L,h.same (by omega),⟨.inr (.inr rfl),fun q=>by simp [noneF] at q,fun q=>by simp at q,fun _ _=>?_⟩,same _ (by simp [Solo]),?_⟩
   ·dsimp only
    exact ⟨rfl,by omega,by omega,fun q=>by omega,fun _=>a4,fun _=>a5,fun q=>by omega,fun q=>by omega,fun _=>q⟩
   ·constructor <;> simp [dPut,dGot]
  ·have hl0:0 < L.length:=List.length_pos_iff.2 q
   rw [pop_3 h.lay (by rw [hf]; omega),h.top]
   have hx:x=t + L.length - 1:=by rw [a4,wrapU_id (by omega) (by omega)]
   refine ⟨t,L,h.same (by omega),⟨.inr (.inr rfl),fun q=>by simp [noneF] at q,fun q=>by simp at q,fun _ _=>?_⟩,fun f hf=>hf.mono (Int.le_refl _) (fun _ q _=>⟨q,rfl,fun k=>?_⟩),?_⟩
   ·dsimp only
    exact ⟨rfl,by omega,by omega,fun q=>by omega,fun _=>a4,fun _=>a5,fun _=>⟨b1,Int.le_refl _,by omega,fun _=>q⟩,fun q=>by omega,fun q=>by omega⟩
   ·have:=k.2.2.2
    dsimp only at this
    omega
   ·constructor <;> simp [dPut,dGot]
 ·have a4:=a4 (by omega)
  have a5:=a5 (by omega)
  obtain ⟨c1,c2,c3,c4⟩:=a6 rfl
  have hx:x=t + L.length - 1:=by rw [a4,wrapU_id (by omega) (by omega)]
  by_cases q:x=y
  ·rw [pop_4 h.lay q]
   refine ⟨t,L,h.same (by omega),⟨.inr (.inr rfl),fun q=>by simp [noneF] at q,fun q=>by simp at q,fun _ _=>?_⟩,same _ (by simp [Solo]),?_⟩
   ·dsimp only
    refine ⟨rfl,by omega,by omega,fun q=>by omega,fun _=>a4,fun _=>a5,fun q=>by omega,fun _=>⟨by omega,c1,c2,fun k=>?_⟩,fun q=>by omega⟩
    have:=h.slots 0 (by omega)
    rw [show t + ((0:Nat):Int)=x by omega] at this
    exact this
   ·constructor <;> simp [dPut,dGot]
  ·rw [pop_4d h.lay q]
   have c4:=c4 q
   have hl0:0 < L.length:=List.length_pos_iff.2 c4
   have hd:L=L.dropLast ++ [L.getD (L.length - 1) 0]:=by
    have:=List.dropLast_concat_getLast c4
    have e:L.getLast c4=L.getD (L.length - 1) 0:=by rw [List.getLast_eq_getElem]; simp [List.getD_eq_getElem?_getD,show L.length - 1 < L.length by omega]
    rw [e] at this; exact this.symm
   have hs:mLoad m (lSlot c w x)=L.getD (L.length - 1) 0:=by
    have:=h.slots (L.length - 1) (by omega)
    rw [show t + ((L.length - 1:Nat):Int)=x by omega] at this
    exact this
   have hl1:L.dropLast.length=L.length - 1:=by simp
   rw [hs]
   refine ⟨t,L.dropLast,⟨h.lay,h.top,h.lo,by have:=h.room; omega,by have:=h.hi; omega,fun k hk=>?_⟩,⟨.inr (.inr rfl),fun _=>by rw [a5,hx]; omega,fun q=>by simp at q,fun _ q=>by simp at q⟩,fun f hf=>hf.mono (Int.le_refl _) (fun _ k1 k2=>?_),?_⟩
   ·rw [h.slots k (by omega)]
    simp only [List.getD_eq_getElem?_getD,List.getElem?_dropLast]
    rw [if_pos (by omega)]
   ·have k2:=k2 ⟨rfl,rfl,rfl,q⟩
    refine ⟨fun e=>by rw [e] at hl1; simp at hl1; omega,?_,fun k=>by simp [Solo] at k⟩
    simp only [List.getD_eq_getElem?_getD,List.getElem?_dropLast]
    rw [if_pos (by omega)]
   ·refine ⟨rfl,fun q=>by simp at q,fun q=>by simp at q,.inr (.inr ⟨L.getD (L.length - 1) 0,hd,rfl,by simp [dGot],by simp [dGot]⟩),fun _ _ q=>by simp at q,fun _=>.inr (.inl rfl),fun _ _=>.inl (by simp)⟩
 ·have a4:=a4 (by omega)
  have a5:=a5 (by omega)
  obtain ⟨c1,c2,c3,c4⟩:=a7 rfl
  have hx:x=t + L.length - 1:=by rw [a4,wrapU_id (by omega) (by omega)]
  rw [pop_5 h.lay]
  by_cases q:y=t
  ·have hc:mCasB m (lTop c w) y=true:=by rw [q,← h.top]; exact casB_top h.lay
   rw [cas_store hc,hc,if_pos rfl]
   have hl1:L.length=1:=by omega
   have hL:L=[v]:=by
    match L,hl1 with
    | [a],_=>have:=c4 q; simp at this; rw [this]
   refine ⟨t + 1,[],⟨h.lay.store _ _,?_,by omega,by simp; omega,by have:=h.hi; simp; omega,fun k hk=>by simp at hk⟩,⟨.inr (.inr rfl),fun q=>by simp [noneF] at q,fun q=>by simp at q,fun _ _=>?_⟩,fun f hf=>hf.mono (by omega) (fun q=>by omega),?_⟩
   ·rw [load_store h.lay.in_top,wrapU_id (by omega) (by omega),q]
   ·dsimp only
    refine ⟨rfl,by omega,by omega,fun q=>by omega,fun _=>?_,fun _=>?_,fun q=>by omega,fun q=>by omega,fun _=>rfl⟩
    ·rw [a4,hL]; simp
    ·rw [load_other h.lay.tb]; exact a5
   ·refine ⟨rfl,fun q=>by simp at q,fun q=>by simp at q,.inr (.inr ⟨v,by rw [hL]; rfl,rfl,by simp [dGot],by simp [dGot]⟩),fun _ _ q=>by simp at q,fun _=>.inl rfl,fun _ _=>.inr ⟨by simp,by simp⟩⟩
  ·have hc:mCasB m (lTop c w) y=false:=by simp [mCasB,h.top]; intro _; omega
   rw [cas_not hc,hc,if_neg (by simp)]
   have hL:L=[]:=List.length_eq_zero_iff.1 (by omega)
   refine ⟨t,L,h.same (by omega),⟨.inr (.inr rfl),fun q=>by simp [noneF] at q,fun q=>by simp at q,fun _ _=>?_⟩,same _ (by simp [Solo]),?_⟩
   ·dsimp only
    exact ⟨rfl,by omega,by omega,fun q=>by omega,fun _=>a4,fun _=>a5,fun q=>by omega,fun q=>by omega,fun _=>hL⟩
   ·constructor <;> simp [dPut,dGot]
 ·have a4:=a4 (by omega)
  have a8:=a8 (by omega)
  have hw:wrapU (x + 1)=t + L.length - 1 + 1:=by rw [a4]; exact wrapU_back (by omega) (by omega)
  rw [pop_6 h.lay,hw]
  refine ⟨t,L,h.setBottom _ (by omega),⟨.inr (.inr rfl),fun _=>by rw [bottom_set h]; omega,fun q=>by simp at q,fun _ q=>by simp at q⟩,same _ (by simp [Solo]),?_⟩
  constructor <;> simp [dPut,dGot]
 ·have a4:=a4 (by omega)
  have a8:=a8 (by omega)
  have hw:wrapU (x + 1)=t + L.length - 1 + 1:=by rw [a4]; exact wrapU_back (by omega) (by omega)
  rw [pop_7 h.lay,hw]
  refine ⟨t,L,h.setBottom _ (by omega),⟨.inr (.inr rfl),fun _=>by rw [bottom_set h]; omega,fun q=>by simp at q,fun _ q=>by simp at q⟩,same _ (by simp [Solo]),?_⟩
  constructor <;> simp [dPut,dGot,a8]
theorem one_steal (h:DBase c m w t L N) (hN:N≤10000) (ho:OOk c m w t L o) (hf:ThOk w t L o f) (h0:f.op=2) (hr:f.res=0) :
  ∃ t' L',DBase c (sStep c m f).1 w t' L' (N + 1)∧OOk c (sStep c m f).1 w t' L' o∧ThOk w t' L' o (sStep c m f).2∧(∀ g,ThOk w t L o g→ThOk w t' L' o g)∧TEv f (sStep c m f).2 t L t' L':=by
 obtain ⟨b1,b2,b3,b4⟩:=h.bound (by omega)
 obtain ⟨a0,a1,a2,a3,a4,a5⟩:=hf.go h0 hr
 obtain ⟨op,pc,wh,v,x,y,res⟩:=f
 simp only at h0 hr a0 a1 a2 a3 a4 a5
 have a0:=a0.symm
 subst h0 hr a0
 have hpc:pc=0∨pc=1∨pc=2∨pc=3:=by omega
 rcases hpc with e | e | e | e <;> subst e
 ·rw [steal_1 h.lay,h.top]
  refine ⟨t,L,h.same (by omega),ho,⟨.inr rfl,fun _ _=>?_⟩,fun g hg=>hg,?_⟩
  ·dsimp only
   exact ⟨rfl,by omega,by omega,fun _=>⟨b1,Int.le_refl _⟩,fun q=>by omega,fun q=>by omega⟩
  ·constructor <;> simp [dGot]
 ·obtain ⟨c1,c2⟩:=a3 (by omega)
  by_cases q:far (mLoad m (lBottom c w)) y≤0
  ·rw [steal_2e h.lay q]
   refine ⟨t,L,h.same (by omega),ho,⟨.inr rfl,fun _ q=>by simp at q⟩,fun g hg=>hg,?_⟩
   constructor <;> simp [dGot]
  ·rw [steal_2 h.lay q]
   refine ⟨t,L,h.same (by omega),ho,⟨.inr rfl,fun _ _=>?_⟩,fun g hg=>hg,?_⟩
   ·dsimp only
    refine ⟨rfl,by omega,by omega,fun _=>⟨c1,c2⟩,fun _ qt=>?_,fun q=>by omega⟩
    -- what the bottom is
    have hB:∃ k:Int,mLoad m (lBottom c w)=wrapU k∧-1≤k∧k≤t + L.length∧(Solo o→k=t + L.length - 1):=by
     rcases ho.op with e | e | e
     ·exact ⟨t + L.length,by rw [ho.idle (.inl e),wrapU_id (by omega) (by omega)],by omega,Int.le_refl _,fun k=>by have:=k.1; rw [e] at this; simp [noneF] at this⟩
     ·by_cases r0:o.res=0
      ·exact ⟨t + L.length,by rw [(ho.push e r0).2.2.2.1,wrapU_id (by omega) (by omega)],by omega,Int.le_refl _,fun k=>by have:=k.1; omega⟩
      ·exact ⟨t + L.length,by rw [ho.idle (.inr r0),wrapU_id (by omega) (by omega)],by omega,Int.le_refl _,fun k=>by have:=k.1; omega⟩
     ·by_cases r0:o.res=0
      ·obtain ⟨d0,d1,d2,d3,d4,d5,_⟩:=ho.pop e r0
       by_cases r1:o.pc≤1
       ·exact ⟨t + L.length,by rw [d3 r1,wrapU_id (by omega) (by omega)],by omega,Int.le_refl _,fun k=>by have:=k.2.2.1; omega⟩
       ·exact ⟨t + L.length - 1,by rw [d5 (by omega),d4 (by omega)],by omega,by omega,fun _=>rfl⟩
      ·exact ⟨t + L.length,by rw [ho.idle (.inr r0),wrapU_id (by omega) (by omega)],by omega,Int.le_refl _,fun k=>absurd k.2.1 r0⟩
    obtain ⟨k,k1,k2,k3,k4⟩:=hB
    rw [k1,far_d k2 (by omega) c1 (by omega)] at q
    refine ⟨fun e=>?_,fun s=>?_⟩
    ·have:L.length=0:=by rw [e]; rfl
     omega
    ·have:=k4 s; omega
   ·constructor <;> simp [dGot]
 ·obtain ⟨c1,c2⟩:=a3 (by omega)
  rw [steal_3 h.lay]
  refine ⟨t,L,h.same (by omega),ho,⟨.inr rfl,fun _ _=>?_⟩,fun g hg=>hg,?_⟩
  ·dsimp only
   refine ⟨rfl,by omega,by omega,fun _=>⟨c1,c2⟩,fun _=>a4 (by omega),fun _ qt=>?_⟩
   have:=h.slots 0 (List.length_pos_iff.2 (a4 (by omega) qt).1)
   rw [show t + ((0:Nat):Int)=y by omega] at this
   exact this
  ·constructor <;> simp [dGot]
 ·obtain ⟨c1,c2⟩:=a3 (by omega)
  by_cases q:y=t
  ·have hc:mCasB m (lTop c w) y=true:=by rw [q,← h.top]; exact casB_top h.lay
   obtain ⟨d1,d2⟩:=a4 (by omega) q
   have d3:=a5 rfl q
   rw [steal_4 h.lay hc,wrapU_id (by omega) (by omega)]
   obtain ⟨a,r,rfl⟩:∃ a r,L=a :: r:=by
    cases L with
    | nil=>exact absurd rfl d1
    | cons a r=>exact ⟨a,r,rfl⟩
   have hva:v=a:=by simpa using d3
   simp only [List.length_cons] at b2 d2
   have hB:mLoad (mStore m (lTop c w) (y + 1)) (lBottom c w)=mLoad m (lBottom c w):=load_other h.lay.tb _
   have hS:∀ x,mLoad (mStore m (lTop c w) (y + 1)) (lSlot c w x)=mLoad m (lSlot c w x):=fun x=>load_other (h.lay.ts x) _
   refine ⟨t + 1,r,⟨h.lay.store _ _,by rw [load_store h.lay.in_top,q],by omega,by have:=h.room; simp at this; omega,by have:=h.hi; simp at this; omega,fun k hk=>?_⟩,⟨ho.op,fun e=>?_,fun e1 e2=>?_,fun e1 e2=>?_⟩,⟨.inr rfl,fun _ q=>by simp at q⟩,fun g hg=>hg.mono (by omega) (fun q=>by omega),?_⟩
   ·have:=h.slots (k + 1) (by simp; omega)
    rw [hS,show t + 1 + (k:Int)=t + ((k + 1:Nat):Int) by omega,this]; rfl
   ·rw [hB,ho.idle e]; simp; omega
   ·obtain ⟨p0,p1,p2,p3,p4,p5,p6⟩:=ho.push e1 e2
    simp only [List.length_cons] at p3 p4 p5
    exact ⟨p0,p1,p2,by rw [hB,p3]; omega,fun e=>by have:=p4 e; omega,fun e=>by have:=p5 e; omega,fun e=>by rw [hS]; exact p6 e⟩
   ·obtain ⟨p0,p1,p2,p3,p4,p5,p6,p7,p8⟩:=ho.pop e1 e2
    simp only [List.length_cons] at p3 p4 p6 p7
    refine ⟨p0,p1,p2,fun e=>by rw [hB,p3 e]; omega,fun e=>by rw [p4 e]; congr 1; omega,fun e=>by rw [hB]; exact p5 e,fun e=>?_,fun e=>?_,fun e=>by have:=p8 e; cases this⟩
    ·obtain ⟨s1,s2,s3,s4⟩:=p6 e
     refine ⟨s1,by omega,by omega,fun e'=>?_⟩
     have:=d2 ⟨e1,e2,e,e'⟩
     intro hr; rw [hr] at this; simp at this
    ·obtain ⟨s1,s2,s3,s4⟩:=p7 e
     exact ⟨by omega,s2,by omega,fun k=>by omega⟩
   ·refine ⟨rfl,fun q=>by simp at q,.inr ⟨a,rfl,rfl,rfl,rfl,hva⟩,fun _=>.inr (.inl ⟨rfl,by rw [hva]⟩),fun _ _=>.inl (by simp)⟩
  ·have hc:mCasB m (lTop c w) y=false:=by simp [mCasB,h.top]; intro _; omega
   rw [steal_4a h.lay hc]
   refine ⟨t,L,h.same (by omega),ho,⟨.inr rfl,fun _ q=>by simp at q⟩,fun g hg=>hg,?_⟩
   constructor <;> simp [dGot]
end
end Go.Vai

/- What which step may write; the deques of a pool, and who is at them. -/
namespace Go.Vai
open Go.RowKit
set_option maxHeartbeats 2000000
theorem store_only {m:List Int} {i j:Int} (h:i=-1∨i≠j) (v:Int):mLoad (mStore m i v) j=mLoad m j:=by
 rcases h with rfl | h
 ·rw [store_out (by simp [isIn])]
 ·exact load_other h v
theorem cas_only {m:List Int} {i j:Int} (h:i=-1∨i≠j) (a v:Int):mLoad (mCas m i a v) j=mLoad m j:=by
 cases hc:mCasB m i a with
 | false=>rw [cas_not hc]
 | true=>rw [cas_store hc]; exact store_only h v
theorem dq_only {c:Cf} {m:List Int} {f:Fr} {j:Int} (h1:j≠lTop c f.who∨j=-1) (h2:j≠lBottom c f.who∨j=-1) (h3:∀ x,j≠lSlot c f.who x∨j=-1):mLoad (dqStep c m f).1 j=mLoad m j:=by
 have a1:lTop c f.who=-1∨lTop c f.who≠j:=by omega
 have a2:lBottom c f.who=-1∨lBottom c f.who≠j:=by omega
 have a3:lSlot c f.who f.x=-1∨lSlot c f.who f.x≠j:=by have:=h3 f.x; omega
 unfold dqStep pStep oStep sStep
 repeat' split
 all_goals first
  | rfl
  | exact store_only a2 _
  | exact store_only a3 _
  | exact cas_only a1 _ _
theorem i_only {c:Cf} {m:List Int} {f:Fr} {j:Int} (hc:mayC c=true) (hf:UFr f) (h:j < 4∨6 + 2 * c.i≤j):mLoad (iStep c m f).1 j=mLoad m j:=by
 have s1:=seq_in hc hf.x
 have v1:=val_in hc hf.x
 have:=mayC_iff.1 hc
 have a1:eSeq c f.x=-1∨eSeq c f.x≠j:=by omega
 have a2:eVal c f.x=-1∨eVal c f.x≠j:=by omega
 have a3:(4:Int)=-1∨(4:Int)≠j:=by omega
 have a4:(5:Int)=-1∨(5:Int)≠j:=by omega
 unfold iStep eStep qStep
 repeat' split
 all_goals first
  | rfl
  | exact store_only a1 _
  | exact store_only a2 _
  | exact cas_only a3 _ _
  | exact cas_only a4 _ _
theorem ev_only {c:Cf} {m:List Int} {f:Fr} {j:Int} (h2:j≠2) (hp:∀ w,j≠lPark c w∨j=-1):mLoad (evStep c m f).1 j=mLoad m j:=by
 have a1:(2:Int)=-1∨(2:Int)≠j:=by omega
 have a2:∀ w,lPark c w=-1∨lPark c w≠j:=fun w=>by have:=hp w; omega
 unfold evStep waStep noStep
 repeat' split
 all_goals first
  | rfl
  | exact store_only (a2 _) _
  | exact cas_only a1 _ _
structure DSame (c:Cf) (w:Int) (m m':List Int):Prop where
 len:m'.length=m.length
 top:mLoad m' (lTop c w)=mLoad m (lTop c w)
 bot:mLoad m' (lBottom c w)=mLoad m (lBottom c w)
 slot:∀ x,mLoad m' (lSlot c w x)=mLoad m (lSlot c w x)
theorem DSame.refl (c:Cf) (w:Int) (m:List Int):DSame c w m m:=⟨rfl,rfl,rfl,fun _=>rfl⟩
theorem top_low {c:Cf} {w:Int}:lTop c w=-1∨6 + 2 * c.i≤lTop c w∧8≤lTop c w:=by
 cases h:lHas c w with
 | false=>left; simp [lTop,h]
 | true=>
  right
  obtain ⟨a,b,d⟩:=lHas_iff.1 h
  obtain ⟨h1,h2,h3,h4,h5,h6,h7⟩:=mayC_iff.1 a
  simp only [lTop,h,if_true]
  unfold lBase
  rcases h3 with e | e | e | e | e <;> rw [e] <;> omega
theorem bot_low {c:Cf} {w:Int}:lBottom c w=-1∨6 + 2 * c.i≤lBottom c w∧8≤lBottom c w:=by
 cases h:lHas c w with
 | false=>left; simp [lBottom,h]
 | true=>
  right
  obtain ⟨a,b,d⟩:=lHas_iff.1 h
  obtain ⟨h1,h2,h3,h4,h5,h6,h7⟩:=mayC_iff.1 a
  simp only [lBottom,h,if_true]
  unfold lBase
  rcases h3 with e | e | e | e | e <;> rw [e] <;> omega
theorem slot_low {c:Cf} {w x:Int}:lSlot c w x=-1∨6 + 2 * c.i≤lSlot c w x∧8≤lSlot c w x:=by
 cases h:lHas c w with
 | false=>left; simp [lSlot,h]
 | true=>
  right
  obtain ⟨a,b,d⟩:=lHas_iff.1 h
  obtain ⟨h1,h2,h3,h4,h5,h6,h7⟩:=mayC_iff.1 a
  simp only [lSlot,h,if_true]
  unfold lBase
  rcases h3 with e | e | e | e | e <;> rw [e] <;> omega
theorem dsame_of {c:Cf} {m m':List Int} (hl:m'.length=m.length) (h:∀ j,(∀ w,j≠lPark c w)→8≤j→6 + 2 * c.i≤j→mLoad m' j=mLoad m j) (w:Int):DSame c w m m':=by
 have h0:mLoad m' (-1)=mLoad m (-1):=by rw [load_out (by simp [isIn]),load_out (by simp [isIn])]
 refine ⟨hl,?_,?_,fun x=>?_⟩
 ·rcases top_low (c:=c) (w:=w) with e | e
  ·rw [e]; exact h0
  ·exact h _ (fun k=>park_top k (by omega)) e.2 e.1
 ·rcases bot_low (c:=c) (w:=w) with e | e
  ·rw [e]; exact h0
  ·exact h _ (fun k=>park_bottom k (by omega)) e.2 e.1
 ·rcases slot_low (c:=c) (w:=w) (x:=x) with e | e
  ·rw [e]; exact h0
  ·exact h _ (fun k=>park_slot k (by omega)) e.2 e.1
theorem i_dsame {c:Cf} {m:List Int} {f:Fr} (hc:mayC c=true) (hf:UFr f) (w:Int):DSame c w m (iStep c m f).1:=
 dsame_of (len_iStep ..) (fun j _ _ h=>i_only hc hf (.inr h)) w
theorem ev_dsame (c:Cf) (m:List Int) (f:Fr) (w:Int):DSame c w m (evStep c m f).1:=
 dsame_of (len_evStep ..) (fun j h h8 _=>ev_only (by omega) (fun k=>.inl (h k))) w
theorem add_dsame (c:Cf) (m:List Int) {i:Int} (h:i < 8) (v:Int) (w:Int):DSame c w m (mAdd m i v):=
 dsame_of (len_add ..) (fun j _ h8 _=>load_other (by omega) _) w
theorem dq_dsame {c:Cf} {m:List Int} {f:Fr} {w:Int} (hw:lHas c w=true) (h:f.who≠w):DSame c w m (dqStep c m f).1:=by
 obtain ⟨a,b,d⟩:=lHas_iff.1 hw
 have key:∀ j,(6 + 2 * c.i + w * (3 + c.d)≤j∧j < 6 + 2 * c.i + w * (3 + c.d) + 3 + c.d)→mLoad (dqStep c m f).1 j=mLoad m j:=by
  intro j hj
  obtain ⟨h1,h2,h3,h4,h5,h6,h7⟩:=mayC_iff.1 a
  cases hk:lHas c f.who with
  | false=>
   have e1:lTop c f.who=-1:=by simp [lTop,hk]
   have e2:lBottom c f.who=-1:=by simp [lBottom,hk]
   have e3:∀ x,lSlot c f.who x=-1:=fun x=>by simp [lSlot,hk]
   have:j≠-1:=by rcases h3 with e | e | e | e | e <;> rw [e] at hj <;> omega
   exact dq_only (by rw [e1]; omega) (by rw [e2]; omega) (fun x=>by rw [e3]; omega)
  | true=>
   obtain ⟨_,b',d'⟩:=lHas_iff.1 hk
   refine dq_only (.inl ?_) (.inl ?_) (fun x=>.inl ?_)
   ·simp only [lTop,hk,if_true]; unfold lBase
    rcases h3 with e | e | e | e | e <;> rw [e] at hj ⊢ <;> omega
   ·simp only [lBottom,hk,if_true]; unfold lBase
    rcases h3 with e | e | e | e | e <;> rw [e] at hj ⊢ <;> omega
   ·simp only [lSlot,hk,if_true]; unfold lBase
    rcases h3 with e | e | e | e | e <;> rw [e] at hj ⊢ <;> omega
 obtain ⟨h1,h2,h3,h4,h5,h6,h7⟩:=mayC_iff.1 a
 refine ⟨len_dqStep ..,key _ ?_,key _ ?_,fun x=>key _ ?_⟩
 ·simp only [lTop,hw,if_true]; unfold lBase
  rcases h3 with e | e | e | e | e <;> rw [e] <;> omega
 ·simp only [lBottom,hw,if_true]; unfold lBase
  rcases h3 with e | e | e | e | e <;> rw [e] <;> omega
 ·simp only [lSlot,hw,if_true]; unfold lBase
  rcases h3 with e | e | e | e | e <;> rw [e] <;> omega
theorem DBase.dsame {c:Cf} {m m':List Int} {w t N:Int} {L:List Int} (h:DBase c m w t L N) (s:DSame c w m m'):DBase c m' w t L (N + 1) where
 lay:=⟨h.lay.may,by rw [s.len]; exact h.lay.len,h.lay.lo,h.lay.hi⟩
 top:=by rw [s.top]; exact h.top
 lo:=h.lo
 room:=h.room
 hi:=by have:=h.hi; omega
 slots:=fun k hk=>by rw [s.slot]; exact h.slots k hk
theorem OOk.dsame {c:Cf} {m m':List Int} {w t:Int} {L:List Int} {o:Fr} (h:OOk c m w t L o) (s:DSame c w m m'):OOk c m' w t L o where
 op:=h.op
 idle:=fun e=>by rw [s.bot]; exact h.idle e
 push:=fun a b=>by
  obtain ⟨p0,p1,p2,p3,p4,p5,p6⟩:=h.push a b
  exact ⟨p0,p1,p2,by rw [s.bot]; exact p3,p4,p5,fun e=>by rw [s.slot]; exact p6 e⟩
 pop:=fun a b=>by
  obtain ⟨p0,p1,p2,p3,p4,p5,p6⟩:=h.pop a b
  exact ⟨p0,p1,p2,fun e=>by rw [s.bot]; exact p3 e,p4,fun e=>by rw [s.bot]; exact p5 e,p6⟩
def ownF (x:Wk):Fr:=if x.pc=0∨x.pc=11 then x.f else noneF
def thF (x:Wk) (w:Int):Fr:=if x.pc=3∧x.f.who=w then x.f else noneF
theorem ownF_no {x:Wk} (h0:x.pc≠0) (h1:x.pc≠11):ownF x=noneF:=by simp [ownF,h0,h1]
theorem thF_no {x:Wk} (w:Int) (h:x.pc≠3∨x.f.who≠w):thF x w=noneF:=by
 unfold thF; rw [if_neg (by omega)]
theorem th_none (w t:Int) (L:List Int) (o:Fr):ThOk w t L o noneF:=⟨.inl rfl,fun h=>by simp [noneF] at h⟩
theorem own_idle {c:Cf} {m:List Int} {w t:Int} {L:List Int} (h:mLoad m (lBottom c w)=t + L.length):OOk c m w t L noneF:=
 ⟨.inl rfl,fun _=>h,fun e=>by simp [noneF] at e,fun e=>by simp [noneF] at e⟩
theorem solo_none:¬ Solo noneF:=fun h=>by simp [Solo,noneF] at h
theorem solo_pc {o:Fr} (h:o.pc≠3∨o.res≠0∨o.op≠1):¬ Solo o:=fun k=>by
 rcases h with h | h | h
 ·exact h k.2.2.1
 ·exact h k.2.1
 ·exact h k.1
theorem ThOk.other {w t:Int} {L:List Int} {o o' f:Fr} (h:ThOk w t L o f) (ho:¬ Solo o'):ThOk w t L o' f:=h.mono (Int.le_refl _) (fun _ q _=>⟨q,rfl,fun k=>absurd k ho⟩)
structure DqW (c:Cf) (m:List Int) (W:List Wk) (N:Int) (w:Nat) (t:Int) (L:List Int):Prop where
 base:DBase c m w t L N
 own:OOk c m w t L (ownF (W.getD w wk0))
 th:∀ i:Nat,i < W.length→ThOk w t L (ownF (W.getD w wk0)) (thF (W.getD i wk0) w)
 none:1≤(W.getD w wk0).pc→(W.getD w wk0).pc≤8→L=[]
def DqI (c:Cf) (m:List Int) (W:List Wk) (N:Int):Prop:=∀ w:Nat,w < W.length→∃ t L,DqW c m W N w t L
def freshO (i:Nat) (f:Fr):Prop:=f=noneF∨(f.op=0∨f.op=1)∧f.pc=0∧f.res=0∧f.who=i
def freshT (w:Int) (f:Fr):Prop:=f=noneF∨f.op=2∧f.pc=0∧f.res=0∧f.who=w
theorem own_fresh {c:Cf} {m:List Int} {i:Nat} {t:Int} {L:List Int} {f:Fr} (hb:mLoad m (lBottom c i)=t + L.length) (h:freshO i f):OOk c m i t L f:=by
 rcases h with rfl | ⟨h1,h2,h3,h4⟩
 ·exact own_idle hb
 ·refine ⟨.inr h1,fun _=>hb,fun _ _=>?_,fun _ _=>?_⟩
  ·rw [h2]
   exact ⟨h4,by decide,by decide,hb,fun e=>by omega,fun e=>by omega,fun e=>by omega⟩
  ·rw [h2]
   exact ⟨h4,by decide,by decide,fun _=>hb,fun e=>by omega,fun e=>by omega,fun e=>by omega,fun e=>by omega,fun e=>by omega⟩
theorem th_fresh {w t:Int} {L:List Int} {o f:Fr} (h:freshT w f):ThOk w t L o f:=by
 rcases h with rfl | ⟨h1,h2,h3,h4⟩
 ·exact th_none ..
 ·refine ⟨.inr h1,fun _ _=>?_⟩
  rw [h2]
  exact ⟨h4,by decide,by decide,fun e=>by omega,fun e=>by omega,fun e=>by omega⟩
theorem solo_fresh {i:Nat} {f:Fr} (h:freshO i f):¬ Solo f:=by
 rcases h with rfl | ⟨h1,h2,h3,h4⟩
 ·exact solo_none
 ·exact solo_pc (.inl (by omega))
theorem DqI.plain {c:Cf} {m m':List Int} {W:List Wk} {N:Int} (h:DqI c m W N) {i:Nat} (hi:i < W.length) {x':Wk} (hs:∀ w,DSame c w m m') (ho:ownF (W.getD i wk0)=noneF) (ho':freshO i (ownF x'))
  (ht':∀ w,freshT w (thF x' w)) (hp:1≤x'.pc→x'.pc≤8→1≤(W.getD i wk0).pc∧(W.getD i wk0).pc≤8):DqI c m' (W.set i x') (N + 1):=by
 intro w hw
 rw [List.length_set] at hw
 obtain ⟨t,L,h1,h2,h3,h4⟩:=h w hw
 refine ⟨t,L,h1.dsame (hs w),?_,fun k hk=>?_,?_⟩
 ·rw [getD_setW hi]
  split
  ·rename_i e
   subst e
   rw [ho] at h2
   exact own_fresh (by rw [(hs w).bot]; exact h2.idle (.inl rfl)) ho'
  ·exact h2.dsame (hs w)
 ·rw [List.length_set] at hk
  rw [getD_setW hi,getD_setW hi]
  have hT:ThOk w t L (ownF (W.getD w wk0)) (if k=i then thF x' w else thF (W.getD k wk0) w):=by
   split
   ·exact th_fresh (ht' w)
   ·exact h3 k hk
  have e1:thF (if k=i then x' else W.getD k wk0) w=if k=i then thF x' w else thF (W.getD k wk0) w:=by split <;> rfl
  rw [e1]
  split
  ·exact hT.other (solo_fresh ho')
  ·exact hT
 ·rw [getD_setW hi]
  split
  ·rename_i e
   subst e
   intro a b
   obtain ⟨p,q⟩:=hp a b
   exact h4 p q
  ·exact h4
theorem DqI.ownStep {c:Cf} {m:List Int} {W:List Wk} {N:Int} (h:DqI c m W N) (hN:N≤10000) {i:Nat} (hi:i < W.length) {x':Wk} {o:Fr} (hx:ownF (W.getD i wk0)=o) (hop:o.op=0∨o.op=1) (hr:o.res=0)
  (hc:∀ w,w < W.length→lHas c w=true)
  (ho':ownF x'=(dqStep c m o).2∧(dqStep c m o).2.res=0∨ownF x'=noneF∧(dqStep c m o).2.res≠0) (hpc:1≤x'.pc→x'.pc≤8→o.op=1∧(dqStep c m o).2.res=3)
  (hp0:(W.getD i wk0).pc≠3) (ht':x'.pc≠3):DqI c (dqStep c m o).1 (W.set i x') (N + 1):=by
 have hwho:o.who=i:=by
  obtain ⟨t,L,h1,h2,h3,h4⟩:=h i hi
  rw [hx] at h2
  rcases hop with e | e
  ·exact (h2.push e hr).1
  ·exact (h2.pop e hr).1
 intro w hw
 rw [List.length_set] at hw
 obtain ⟨t,L,h1,h2,h3,h4⟩:=h w hw
 by_cases e:w=i
 ·subst e
  rw [hx] at h2 h3
  have key:∃ t' L',DBase c (dqStep c m o).1 w t' L' (N + 1)∧OOk c (dqStep c m o).1 w t' L' (dqStep c m o).2∧(∀ f,ThOk w t L o f→ThOk w t' L' (dqStep c m o).2 f)∧OEv o (dqStep c m o).2 t L t' L':=by
   rcases hop with e | e
   ·have:dqStep c m o=pStep c m o:=by simp [dqStep,e]
    rw [this]
    exact own_push h1 hN h2 e hr
   ·have:dqStep c m o=oStep c m o:=by simp [dqStep,e]
    rw [this]
    exact own_pop h1 hN h2 e hr
  obtain ⟨t',L',k1,k2,k3,k4⟩:=key
  have hO:OOk c (dqStep c m o).1 w t' L' (ownF x'):=by
   rcases ho' with ⟨q,_⟩ | ⟨q,q'⟩
   ·rw [q]; exact k2
   ·rw [q]; exact own_idle (k2.idle (.inr q'))
  refine ⟨t',L',k1,?_,fun k hk=>?_,?_⟩
  ·rw [getD_setW hi,if_pos rfl]; exact hO
  ·rw [List.length_set] at hk
   rw [getD_setW hi,getD_setW hi,if_pos rfl]
   have hT:ThOk w t' L' (dqStep c m o).2 (thF (if k=w then x' else W.getD k wk0) w):=by
    split
    ·rw [thF_no _ (.inl ht')]; exact th_none ..
    ·exact k3 _ (h3 k hk)
   rcases ho' with ⟨q,_⟩ | ⟨q,q'⟩
   ·rw [q]; exact hT
   ·rw [q]; exact hT.other solo_none
  ·rw [getD_setW hi,if_pos rfl]
   intro a b
   obtain ⟨q1,q2⟩:=hpc a b
   exact k4.empty q1 hr q2
 ·have hs:DSame c w m (dqStep c m o).1:=dq_dsame (hc w hw) (by rw [hwho]; omega)
  refine ⟨t,L,h1.dsame hs,?_,fun k hk=>?_,?_⟩
  ·rw [getD_setW hi,if_neg e]; exact h2.dsame hs
  ·rw [List.length_set] at hk
   rw [getD_setW hi,getD_setW hi,if_neg e]
   split
   ·rw [thF_no _ (.inl ht')]; exact th_none ..
   ·exact h3 k hk
  ·rw [getD_setW hi,if_neg e]; exact h4
theorem DqI.thStep {c:Cf} {m:List Int} {W:List Wk} {N:Int} (h:DqI c m W N) (hN:N≤10000) {i:Nat} (hi:i < W.length) {x':Wk} {f:Fr} (hx:(W.getD i wk0).pc=3) (hf:(W.getD i wk0).f=f) (hop:f.op=2) (hr:f.res=0)
  (hc:∀ w,w < W.length→lHas c w=true)
  (ho':x'.pc=3∧x'.f=(dqStep c m f).2∨x'.pc≠3) (hpc:x'.pc≠0∧x'.pc≠11):DqI c (dqStep c m f).1 (W.set i x') (N + 1):=by
 have hox:ownF (W.getD i wk0)=noneF:=ownF_no (by omega) (by omega)
 have hox':ownF x'=noneF:=ownF_no hpc.1 hpc.2
 have hwho:(dqStep c m f).2.who=f.who:=by
  have:dqStep c m f=sStep c m f:=by simp [dqStep,hop]
  rw [this]
  unfold sStep
  repeat' split
  all_goals rfl
 intro w hw
 rw [List.length_set] at hw
 obtain ⟨t,L,h1,h2,h3,h4⟩:=h w hw
 by_cases e:f.who=w
 ·have hth:=h3 i hi
  have eth:thF (W.getD i wk0) w=f:=by unfold thF; rw [if_pos ⟨hx,by rw [hf]; exact e⟩,hf]
  rw [eth] at hth
  have hd:dqStep c m f=sStep c m f:=by simp [dqStep,hop]
  rw [hd] at ho' ⊢
  obtain ⟨t',L',k1,k2,k3,k4,k5⟩:=one_steal h1 hN h2 hth hop hr
  refine ⟨t',L',k1,?_,fun k hk=>?_,?_⟩
  ·rw [getD_setW hi]
   split
   ·rename_i ew
    subst ew
    rw [hox] at k2
    rw [hox']; exact k2
   ·exact k2
  ·rw [List.length_set] at hk
   have hT:ThOk w t' L' (ownF (W.getD w wk0)) (thF (if k=i then x' else W.getD k wk0) w):=by
    split
    ·rcases ho' with ⟨q1,q2⟩ | q
     ·unfold thF
      rw [if_pos ⟨q1,by rw [q2,← hd,hwho]; exact e⟩,q2]; exact k3
     ·rw [thF_no _ (.inl q)]; exact th_none ..
    ·exact k4 _ (h3 k hk)
   rw [getD_setW hi,getD_setW hi]
   split
   ·rename_i ew
    subst ew
    rw [hox] at hT
    rw [hox']; exact hT
   ·exact hT
  ·rw [getD_setW hi]
   have hL:L=[]→L'=[]:=fun q=>by
    rcases k5.ev with ⟨e1,_⟩ | ⟨v,e1,_⟩
    ·rw [e1]; exact q
    ·rw [q] at e1; cases e1
   split
   ·rename_i ew
    subst ew
    intro _ _
    exact hL (h4 (by omega) (by omega))
   ·intro a b; exact hL (h4 a b)
 ·have hs:DSame c w m (dqStep c m f).1:=dq_dsame (hc w hw) e
  refine ⟨t,L,h1.dsame hs,?_,fun k hk=>?_,?_⟩
  ·rw [getD_setW hi]
   split
   ·rename_i ew
    subst ew
    rw [hox]  at h2
    rw [hox']; exact h2.dsame hs
   ·exact h2.dsame hs
  ·rw [List.length_set] at hk
   have hT:ThOk w t L (ownF (W.getD w wk0)) (thF (if k=i then x' else W.getD k wk0) w):=by
    split
    ·rcases ho' with ⟨q1,q2⟩ | q
     ·rw [thF_no _ (.inr (by rw [q2,hwho]; exact e))]; exact th_none ..
     ·rw [thF_no _ (.inl q)]; exact th_none ..
    ·exact h3 k hk
   rw [getD_setW hi,getD_setW hi]
   split
   ·rename_i ew
    subst ew
    rw [hox] at hT
    rw [hox']; exact hT
   ·exact hT
  ·rw [getD_setW hi]
   split
   ·rename_i ew
    subst ew
    intro _ _
    exact h4 (by omega) (by omega)
   ·exact h4
end Go.Vai

/- A worker's step, and the deques. -/
namespace Go.Vai
open Go.RowKit
set_option maxHeartbeats 2000000
structure WRw (x:Wk):Prop where
 r:x.pc=0∨x.pc=2∨x.pc=3∨x.pc=11∨x.pc=12→x.f.res=0
 p67:x.pc=6∨x.pc=7→x.f.pc=1
 p8:x.pc=8→1≤x.f.pc
theorem WRw.none {x:Wk} (h:x.pc≠0) (h2:x.pc≠2) (h3:x.pc≠3) (h11:x.pc≠11) (h12:x.pc≠12) (h6:x.pc≠6) (h7:x.pc≠7) (h8:x.pc≠8):WRw x:=⟨fun q=>by omega,fun q=>by omega,fun q=>by omega⟩
theorem WRw.res {x:Wk} (h:x.f.res=0) (h6:x.pc≠6) (h7:x.pc≠7) (h8:x.pc≠8):WRw x:=⟨fun _=>h,fun q=>by omega,fun q=>by omega⟩
structure WD (c:Cf) (m':List Int) (W:List Wk) (N:Int) (i:Nat) (x':Wk):Prop where
 dq:DqI c m' (W.set i x') (N + 1)
 wr:WRw x'
structure WHd (c:Cf) (m:List Int) (W:List Wk) (N:Int) (i:Nat) (x:Wk):Prop where
 mi:MI c m
 wi:WI c i x
 wr:WRw x
 dq:DqI c m W N
 n:N≤10000
 il:i < W.length
 x:W.getD i wk0=x
 has:∀ w,w < W.length→lHas c w=true
section
variable {c : Cf} {t : List Tk} {m : List Int} {W : List Wk} {N : Int} {i : Nat} {x : Wk}
theorem WHd.plain (h:WHd c m W N i x) {m':List Int} {x':Wk} (hs:∀ w,DSame c w m m') (n0:x.pc≠0) (n11:x.pc≠11) (ho':freshO i (ownF x')) (ht':∀ w,freshT w (thF x' w)) (hp:1≤x'.pc→x'.pc≤8→1≤x.pc∧x.pc≤8) (wr:WRw x'):WD c m' W N i x':=
 ⟨h.dq.plain h.il hs (by rw [h.x]; exact ownF_no n0 n11) ho' ht' (by rw [h.x]; exact hp),wr⟩
theorem WHd.easy (h:WHd c m W N i x) {m':List Int} {x':Wk} (hs:∀ w,DSame c w m m') (n0:x.pc≠0) (n11:x.pc≠11) (p0:x'.pc≠0) (p11:x'.pc≠11) (p3:x'.pc≠3) (hp:1≤x'.pc→x'.pc≤8→1≤x.pc∧x.pc≤8) (wr:WRw x'):WD c m' W N i x':=
 h.plain hs n0 n11 (.inl (ownF_no p0 p11)) (fun w=>.inl (thF_no w (.inl p3))) hp wr
theorem DSame.all (c:Cf) (m:List Int):∀ w,DSame c w m m:=fun w=>DSame.refl c w m
theorem pop_res {c:Cf} {m:List Int} {o:Fr} (hop:o.op=1) (hr:o.res=0):(dqStep c m o).2.res=0∨(dqStep c m o).2.res=1∨(dqStep c m o).2.res=3:=by
 have:dqStep c m o=oStep c m o:=by simp [dqStep,hop]
 rw [this]
 unfold oStep
 repeat' split
 all_goals simp [fEnd,hr]
theorem set_self' {W:List Wk} {i:Nat} {x:Wk} (hi:i < W.length) (hx:W.getD i wk0=x):W.set i x=W:=by
 apply List.ext_getElem?
 intro j
 rw [List.getElem?_set]
 split
 ·rename_i e; subst e
  subst hx
  simp [List.getD_eq_getElem?_getD,hi]
 ·rfl
theorem DqI.mono (h:DqI c m W N):DqI c m W (N + 1):=fun w hw=>by
 obtain ⟨t,L,h1,h2,h3,h4⟩:=h w hw
 exact ⟨t,L,h1.same (by omega),h2,h3,h4⟩
theorem wdN (h:WHd c m W N i x):WD c m W N i x:=⟨by rw [set_self' h.il h.x]; exact h.dq.mono,h.wr⟩
theorem wd0 (d:Int) (h:WHd c m W N i x) (hp:x.pc=0):WD c (wq0 c t m i x d).1 W N i (wq0 c t m i x d).2.1:=by
 have hop:=h.wi.op.1 hp
 have hr:=h.wr.r (.inl hp)
 have ho:ownF (W.getD i wk0)=x.f:=by rw [h.x]; unfold ownF; rw [if_pos (.inl hp)]
 have hres:=pop_res (c:=c) (m:=m) hop hr
 unfold wq0
 dsimp only
 by_cases q0:(dqStep c m x.f).2.res=0
 ·rw [if_pos q0]
  refine ⟨h.dq.ownStep h.n h.il ho (.inr hop) hr h.has (.inl ⟨?_,q0⟩) (fun a b=>by simp [atF] at a; omega) (by rw [h.x]; omega) (by simp [atF]; omega),WRw.res q0 (by simp [atF]; omega) (by simp [atF]; omega) (by simp [atF]; omega)⟩
  unfold ownF; rw [if_pos (.inl (by simp [atF]; exact hp))]; rfl
 ·rw [if_neg q0]
  by_cases q1:(dqStep c m x.f).2.res=1
  ·rw [if_pos q1]
   exact ⟨h.dq.ownStep h.n h.il ho (.inr hop) hr h.has (.inr ⟨ownF_no (by simp [stW,toW]) (by simp [stW,toW]),q0⟩) (fun a b=>by simp [stW,toW] at b) (by rw [h.x]; omega) (by simp [stW,toW]),
    WRw.none (by simp [stW,toW]) (by simp [stW,toW]) (by simp [stW,toW]) (by simp [stW,toW]) (by simp [stW,toW]) (by simp [stW,toW]) (by simp [stW,toW]) (by simp [stW,toW])⟩
  ·rw [if_neg q1]
   exact ⟨h.dq.ownStep h.n h.il ho (.inr hop) hr h.has (.inr ⟨ownF_no (by simp [stW,toW]) (by simp [stW,toW]),q0⟩) (fun a b=>⟨hop,by omega⟩) (by rw [h.x]; omega) (by simp [stW,toW]),
    WRw.none (by simp [stW,toW]) (by simp [stW,toW]) (by simp [stW,toW]) (by simp [stW,toW]) (by simp [stW,toW]) (by simp [stW,toW]) (by simp [stW,toW]) (by simp [stW,toW])⟩
theorem wd11 (d:Int) (h:WHd c m W N i x) (hp:x.pc=11):WD c (wq11 c t m i x d).1 W N i (wq11 c t m i x d).2.1:=by
 have hop:=h.wi.op.2.2.2.2.2.2.2.1 hp
 have hr:=h.wr.r (by omega)
 have ho:ownF (W.getD i wk0)=x.f:=by rw [h.x]; unfold ownF; rw [if_pos (.inr hp)]
 unfold wq11
 dsimp only
 by_cases q0:(dqStep c m x.f).2.res=0
 ·rw [if_pos q0]
  refine ⟨h.dq.ownStep h.n h.il ho (.inl hop) hr h.has (.inl ⟨?_,q0⟩) (fun a b=>by simp [atF] at b; omega) (by rw [h.x]; omega) (by simp [atF]; omega),WRw.res q0 (by simp [atF]; omega) (by simp [atF]; omega) (by simp [atF]; omega)⟩
  unfold ownF; rw [if_pos (.inr (by simp [atF]; exact hp))]; rfl
 ·rw [if_neg q0]
  split
  ·exact ⟨h.dq.ownStep h.n h.il ho (.inl hop) hr h.has (.inr ⟨ownF_no (by simp [withW]) (by simp [withW]),q0⟩) (fun a b=>by simp [withW] at b) (by rw [h.x]; omega) (by simp [withW]),
    WRw.res rfl (by simp [withW]) (by simp [withW]) (by simp [withW])⟩
  ·exact ⟨h.dq.ownStep h.n h.il ho (.inl hop) hr h.has (.inr ⟨ownF_no (by simp [toW]) (by simp [toW]),q0⟩) (fun a b=>by simp [toW] at b) (by rw [h.x]; omega) (by simp [toW]),
    WRw.none (by simp [toW]) (by simp [toW]) (by simp [toW]) (by simp [toW]) (by simp [toW]) (by simp [toW]) (by simp [toW]) (by simp [toW])⟩
theorem wd3 (d:Int) (h:WHd c m W N i x) (hp:x.pc=3):WD c (wq3 c t m i x d).1 W N i (wq3 c t m i x d).2.1:=by
 have hop:=h.wi.op.2.2.1 hp
 have hr:=h.wr.r (by omega)
 have hx3:(W.getD i wk0).pc=3:=by rw [h.x]; exact hp
 have hxf:(W.getD i wk0).f=x.f:=by rw [h.x]
 unfold wq3
 dsimp only
 by_cases q0:(dqStep c m x.f).2.res=0
 ·rw [if_pos q0]
  exact ⟨h.dq.thStep h.n h.il hx3 hxf hop hr h.has (.inl ⟨by simp [atF]; exact hp,rfl⟩) ⟨by simp [atF]; omega,by simp [atF]; omega⟩,WRw.res q0 (by simp [atF]; omega) (by simp [atF]; omega) (by simp [atF]; omega)⟩
 ·rw [if_neg q0]
  repeat' split
  ·exact ⟨h.dq.thStep h.n h.il hx3 hxf hop hr h.has (.inr (by simp)) ⟨by simp,by simp⟩,WRw.none (by simp) (by simp) (by simp) (by simp) (by simp) (by simp) (by simp) (by simp)⟩
  ·exact ⟨h.dq.thStep h.n h.il hx3 hxf hop hr h.has (.inr (by simp [withW])) ⟨by simp [withW],by simp [withW]⟩,WRw.res rfl (by simp [withW]) (by simp [withW]) (by simp [withW])⟩
  ·exact ⟨h.dq.thStep h.n h.il hx3 hxf hop hr h.has (.inr (by simp)) ⟨by simp,by simp⟩,WRw.res rfl (by simp) (by simp) (by simp)⟩
theorem fr_pop (i:Nat) (x:Wk) (w:Int) (p:x.pc=0) (f:x.f=⟨1,0,w,0,0,0,0⟩) (e:w=i):freshO i (ownF x):=by
 unfold ownF; rw [if_pos (.inl p),f]; exact .inr ⟨.inr rfl,rfl,rfl,e⟩
theorem wd1 (d:Int) (h:WHd c m W N i x) (hp:x.pc=1):WD c (wq1 c t m i x d).1 W N i (wq1 c t m i x d).2.1:=by
 unfold wq1
 exact h.easy (fun w=>add_dsame c m (by decide) _ w) (by omega) (by omega) (by simp) (by simp) (by simp) (fun _ _=>by omega) (WRw.res rfl (by simp) (by simp) (by simp))
theorem wd2 (d:Int) (h:WHd c m W N i x) (hp:x.pc=2):WD c (wq2 c t m i x d).1 W N i (wq2 c t m i x d).2.1:=by
 have hs:=fun w=>i_dsame (c:=c) (m:=m) h.mi.may h.wi.u w
 unfold wq2
 dsimp only
 by_cases q0:(iStep c m x.f).2.res=0
 ·rw [if_pos q0]
  exact h.easy hs (by omega) (by omega) (by simp [atF]; omega) (by simp [atF]; omega) (by simp [atF]; omega) (fun _ _=>by omega) (WRw.res q0 (by simp [atF]; omega) (by simp [atF]; omega) (by simp [atF]; omega))
 ·rw [if_neg q0]
  repeat' split
  ·exact h.easy hs (by omega) (by omega) (by simp) (by simp) (by simp) (fun _ _=>by omega) (WRw.none (by simp) (by simp) (by simp) (by simp) (by simp) (by simp) (by simp) (by simp))
  ·refine h.plain hs (by omega) (by omega) (.inl (ownF_no (by simp [withW]) (by simp [withW]))) (fun w=>?_) (fun _ _=>by omega) (WRw.res rfl (by simp [withW]) (by simp [withW]) (by simp [withW]))
   unfold thF
   split
   ·rename_i e; exact .inr ⟨rfl,rfl,rfl,e.2⟩
   ·exact .inl rfl
  ·exact h.easy hs (by omega) (by omega) (by simp [withW]) (by simp [withW]) (by simp [withW]) (fun _ _=>by omega) (WRw.res rfl (by simp [withW]) (by simp [withW]) (by simp [withW]))
  ·exact h.easy hs (by omega) (by omega) (by simp) (by simp) (by simp) (fun _ _=>by omega) (WRw.res rfl (by simp) (by simp) (by simp))
theorem wd4 (d:Int) (h:WHd c m W N i x) (hp:x.pc=4):WD c (wq4 c t m i x d).1 W N i (wq4 c t m i x d).2.1:=by
 have hs:=fun w=>add_dsame c m (i:=1) (by decide) less w
 unfold wq4
 split
 ·exact h.easy hs (by omega) (by omega) (by simp [stW,withW]) (by simp [stW,withW]) (by simp [stW,withW]) (fun _ b=>by simp [stW,withW] at b) (WRw.res rfl (by simp [stW,withW]) (by simp [stW,withW]) (by simp [stW,withW]))
 ·exact h.easy hs (by omega) (by omega) (by simp [stW,toW]) (by simp [stW,toW]) (by simp [stW,toW]) (fun _ b=>by simp [stW,toW] at b) (WRw.res rfl (by simp [stW,toW]) (by simp [stW,toW]) (by simp [stW,toW]))
theorem wd5 (d:Int) (h:WHd c m W N i x) (hp:x.pc=5):WD c (wq5 c t m i x d).1 W N i (wq5 c t m i x d).2.1:=by
 obtain ⟨b1,b2,b3,b4⟩:=h.wi.p5 (.inl hp)
 have b0:=h.wi.p55 hp
 have bop:x.f.op=5:=h.wi.op.2.2.2.1 hp
 have hw:=lHas_iff.1 (h.has i h.il)
 have hl:Lay c m x.f.who:=⟨h.mi.may,h.mi.len,by omega,by rw [b4]; exact hw.2.2⟩
 have hg:goes c m x.f 5 5=true:=goes_iff.2 ⟨hl,b3,bop,b1,by omega⟩
 have hs:=fun w=>ev_dsame c m x.f w
 have e:(evStep c m x.f).2.pc=1:=by
  unfold evStep
  rw [if_pos bop]
  unfold waStep
  rw [if_pos hg,if_pos b0]
 unfold wq5
 exact h.easy hs (by omega) (by omega) (by simp) (by simp) (by simp) (fun _ _=>by omega) ⟨fun q=>by simp at q,fun _=>e,fun q=>by simp at q⟩
theorem wd6 (d:Int) (h:WHd c m W N i x) (hp:x.pc=6):WD c (wq6 c t m i x d).1 W N i (wq6 c t m i x d).2.1:=by
 have hs:=fun w=>add_dsame c m (i:=1) (by decide) less w
 unfold wq6
 exact h.easy hs (by omega) (by omega) (by simp) (by simp) (by simp) (fun _ _=>by omega) ⟨fun q=>by simp at q,fun _=>h.wr.p67 (.inl hp),fun q=>by simp at q⟩
theorem wd7 (d:Int) (h:WHd c m W N i x) (hp:x.pc=7):WD c (wq7 c t m i x d).1 W N i (wq7 c t m i x d).2.1:=by
 have h1:=h.wr.p67 (.inr hp)
 have hs:=DSame.all c m
 have to8:WD c m W N i ⟨8,x.stack,fVal x.f 0,x.spins,0⟩:=h.easy hs (by omega) (by omega) (by simp) (by simp) (by simp) (fun _ _=>by omega) ⟨fun q=>by simp at q,fun q=>by simp at q,fun _=>by simp [fVal]; omega⟩
 unfold wq7
 split
 ·exact to8
 ·split
  ·exact h.easy hs (by omega) (by omega) (by simp [toW]) (by simp [toW]) (by simp [toW]) (fun _ _=>by omega) (WRw.none (by simp [toW]) (by simp [toW]) (by simp [toW]) (by simp [toW]) (by simp [toW]) (by simp [toW]) (by simp [toW]) (by simp [toW]))
  ·split
   ·exact to8
   ·exact h.easy hs (by omega) (by omega) (by simp) (by simp) (by simp) (fun _ _=>by omega) ⟨fun q=>by simp at q,fun _=>h1,fun q=>by simp at q⟩
theorem wait_pc {c:Cf} {m:List Int} {f:Fr} (hop:f.op=5) (h1:1≤f.pc) (hr:(evStep c m f).2.res=0):1≤(evStep c m f).2.pc:=by
 unfold evStep at hr ⊢
 rw [if_pos hop] at hr ⊢
 revert hr
 unfold waStep
 split
 ·rw [if_neg (by omega)]
  split
  ·split
   ·intro _; simp
   ·intro q; simp at q
  ·split
   ·intro _; simp only; split <;> decide
   ·split
    ·intro _; simp only; split <;> decide
    ·intro q; simp at q
 ·intro _; exact h1
theorem wd8 (d:Int) (h:WHd c m W N i x) (hp:x.pc=8):WD c (wq8 c t m i x d).1 W N i (wq8 c t m i x d).2.1:=by
 have bop:x.f.op=5:=h.wi.op.2.2.2.2.2.2.1 hp
 have h1:=h.wr.p8 hp
 have hs:=fun w=>ev_dsame c m x.f w
 unfold wq8
 dsimp only
 by_cases q0:(evStep c m x.f).2.res=0
 ·rw [if_pos q0]
  exact h.easy hs (by omega) (by omega) (by simp [atF]; omega) (by simp [atF]; omega) (by simp [atF]; omega) (fun _ _=>by omega) ⟨fun q=>by simp [atF] at q; omega,fun q=>by simp [atF] at q; omega,fun _=>wait_pc bop h1 q0⟩
 ·rw [if_neg q0]
  exact h.easy hs (by omega) (by omega) (by simp [toW]) (by simp [toW]) (by simp [toW]) (fun _ _=>by omega) (WRw.none (by simp [toW]) (by simp [toW]) (by simp [toW]) (by simp [toW]) (by simp [toW]) (by simp [toW]) (by simp [toW]) (by simp [toW]))
theorem wd9 (d:Int) (h:WHd c m W N i x) (hp:x.pc=9):WD c (wq9 c t m i x d).1 W N i (wq9 c t m i x d).2.1:=by
 have hs:=DSame.all c m
 unfold wq9
 dsimp only
 repeat' split
 ·exact h.easy hs (by omega) (by omega) (by simp) (by simp) (by simp) (fun _ b=>by simp at b) (WRw.none (by simp) (by simp) (by simp) (by simp) (by simp) (by simp) (by simp) (by simp))
 ·exact h.easy hs (by omega) (by omega) (by simp) (by simp) (by simp) (fun _ b=>by simp at b) (WRw.none (by simp) (by simp) (by simp) (by simp) (by simp) (by simp) (by simp) (by simp))
 ·exact h.easy hs (by omega) (by omega) (by simp) (by simp) (by simp) (fun _ b=>by simp at b) (WRw.none (by simp) (by simp) (by simp) (by simp) (by simp) (by simp) (by simp) (by simp))
 ·exact h.plain hs (by omega) (by omega) (fr_pop i _ i rfl rfl rfl) (fun w=>.inl (thF_no w (.inl (by simp [withW])))) (fun a b=>by simp [withW] at a) (WRw.res rfl (by simp [withW]) (by simp [withW]) (by simp [withW]))
theorem wd10 (d:Int) (h:WHd c m W N i x) (hp:x.pc=10):WD c (wq10 c t m i x d).1 W N i (wq10 c t m i x d).2.1:=by
 unfold wq10
 dsimp only
 split
 ·refine h.plain (fun w=>add_dsame c m (by decide) _ w) (by omega) (by omega) ?_ (fun w=>.inl (thF_no w (.inl (by simp)))) (fun a b=>by simp at b) (WRw.res rfl (by simp) (by simp) (by simp))
  unfold ownF; rw [if_pos (.inr rfl)]; exact .inr ⟨.inl rfl,rfl,rfl,rfl⟩
 ·exact h.easy (DSame.all c m) (by omega) (by omega) (by simp [toW]) (by simp [toW]) (by simp [toW]) (fun _ b=>by simp [toW] at b) (WRw.none (by simp [toW]) (by simp [toW]) (by simp [toW]) (by simp [toW]) (by simp [toW]) (by simp [toW]) (by simp [toW]) (by simp [toW]))
theorem wd12 (d:Int) (h:WHd c m W N i x) (hp:x.pc=12):WD c (wq12 c t m i x d).1 W N i (wq12 c t m i x d).2.1:=by
 have hs:=fun w=>i_dsame (c:=c) (m:=m) h.mi.may h.wi.u w
 unfold wq12
 dsimp only
 by_cases q0:(iStep c m x.f).2.res=0
 ·rw [if_pos q0]
  exact h.easy hs (by omega) (by omega) (by simp [atF]; omega) (by simp [atF]; omega) (by simp [atF]; omega) (fun _ b=>by simp [atF] at b; omega) (WRw.res q0 (by simp [atF]; omega) (by simp [atF]; omega) (by simp [atF]; omega))
 ·rw [if_neg q0]
  split
  ·exact h.easy hs (by omega) (by omega) (by simp [stW,toW]) (by simp [stW,toW]) (by simp [stW,toW]) (fun _ b=>by simp [stW,toW] at b) (WRw.res rfl (by simp [stW,toW]) (by simp [stW,toW]) (by simp [stW,toW]))
  ·exact h.easy hs (by omega) (by omega) (by simp [toW]) (by simp [toW]) (by simp [toW]) (fun _ b=>by simp [toW] at b) (WRw.res rfl (by simp [toW]) (by simp [toW]) (by simp [toW]))
theorem wd13 (d:Int) (h:WHd c m W N i x) (hp:x.pc=13):WD c (wq13 c t m i x d).1 W N i (wq13 c t m i x d).2.1:=by
 unfold wq13
 split
 ·exact h.easy (DSame.all c m) (by omega) (by omega) (by simp [withW]) (by simp [withW]) (by simp [withW]) (fun _ b=>by simp [withW] at b) (WRw.res rfl (by simp [withW]) (by simp [withW]) (by simp [withW]))
 ·exact h.easy (DSame.all c m) (by omega) (by omega) (by simp [toW]) (by simp [toW]) (by simp [toW]) (fun _ b=>by simp [toW] at b) (WRw.res rfl (by simp [toW]) (by simp [toW]) (by simp [toW]))
theorem wd14 (d:Int) (h:WHd c m W N i x) (hp:x.pc=14):WD c (wq14 c t m i x d).1 W N i (wq14 c t m i x d).2.1:=by
 have hs:=fun w=>ev_dsame c m x.f w
 unfold wq14
 dsimp only
 split
 ·exact h.easy hs (by omega) (by omega) (by simp [atF]; omega) (by simp [atF]; omega) (by simp [atF]; omega) (fun _ b=>by simp [atF] at b; omega) (WRw.none (by simp [atF]; omega) (by simp [atF]; omega) (by simp [atF]; omega) (by simp [atF]; omega) (by simp [atF]; omega) (by simp [atF]; omega) (by simp [atF]; omega) (by simp [atF]; omega))
 ·exact h.easy hs (by omega) (by omega) (by simp [toW]) (by simp [toW]) (by simp [toW]) (fun _ b=>by simp [toW] at b) (WRw.res rfl (by simp [toW]) (by simp [toW]) (by simp [toW]))
theorem wd15 (d:Int) (h:WHd c m W N i x) (hp:x.pc=15):WD c (wq15 c t m i x d).1 W N i (wq15 c t m i x d).2.1:=by
 have hs:=fun w=>add_dsame c m (i:=0) (by decide) less w
 unfold wq15
 dsimp only
 split
 ·split
  ·exact h.plain hs (by omega) (by omega) (fr_pop i _ i rfl rfl rfl) (fun w=>.inl (thF_no w (.inl (by simp)))) (fun a b=>by simp at a) (WRw.res rfl (by simp) (by simp) (by simp))
  ·exact h.easy hs (by omega) (by omega) (by simp) (by simp) (by simp) (fun _ b=>by simp at b) (WRw.res rfl (by simp) (by simp) (by simp))
 ·exact h.easy (DSame.all c m) (by omega) (by omega) (by simp [toW]) (by simp [toW]) (by simp [toW]) (fun _ b=>by simp [toW] at b) (WRw.res rfl (by simp [toW]) (by simp [toW]) (by simp [toW]))
theorem wd (d:Int) (h:WHd c m W N i x):WD c (wStep c t m i x d).1 W N i (wStep c t m i x d).2.1:=
 wStep_cases (Q:=fun r=>WD c r.1 W N i r.2.1) c t m i x d (fun _=>wdN h) (fun _ q=>wd0 d h q) (fun _ q=>wd1 d h q) (fun _ q=>wd2 d h q) (fun _ q=>wd3 d h q) (fun _ q=>wd4 d h q) (fun _ q=>wd5 d h q) (fun _ q=>wd6 d h q)
  (fun _ q=>wd7 d h q) (fun _ q=>wd8 d h q) (fun _ q=>wd9 d h q) (fun _ q=>wd10 d h q) (fun _ q=>wd11 d h q) (fun _ q=>wd12 d h q) (fun _ q=>wd13 d h q) (fun _ q=>wd14 d h q) (fun _ q=>wd15 d h q)
end
end Go.Vai

/- What all do, by the program and by the document: the same. -/
namespace Go.Vai
open Go.RowKit
theorem InM.store {m:List Int} (h:InM m) (i:Int) {v:Int} (hv:InU v):InM (mStore m i v):=store_u h hv
def VU (l:List Fr):Prop:=∀ x∈l,InU x.val
theorem VU.set {l:List Fr} (h:VU l) (i:Nat) {x:Fr} (hx:InU x.val):VU (l.set i x):=by
 intro y hy
 rcases List.mem_or_eq_of_mem_set hy with e | e
 ·exact h y e
 ·rw [e]; exact hx
instance (n:Nat) (l:List (List Fr)):Decidable (Short n l):=by unfold Short; infer_instance
end Go.Vai

/- A new injector: as many go in as there is room for. -/
namespace Go.Vai
open Go.RowKit
structure Fresh (c:Cf) (m:List Int) (k:Nat):Prop where
 inj:Inj c m
 tail:mLoad m 5=k
 head:mLoad m 4=0
 seq:∀ j:Nat,(j:Int) < c.i→mLoad m (6 + j)=if j < k then 1 else 0
 room:(k:Int)≤c.i
theorem zeros_load (n:Nat) (i:Int):mLoad (zeros n) i=0:=by
 unfold mLoad
 split
 ·rename_i h
  obtain ⟨_,_,h3⟩:=isIn_true h
  unfold zeros at *
  rw [List.getD_eq_getElem?_getD,List.getElem?_eq_getElem h3]
  simp
 ·rfl
theorem fresh_new {c:Cf} (h:mayC c=true):Fresh c (zeros (lSize c).toNat) 0:=by
 have hs:0≤lSize c:=by
  obtain ⟨a1,a2,a3,a4,a5,a6,a7⟩:=mayC_iff.1 h
  unfold lSize lBase
  rw [h,if_pos rfl]
  rcases a3 with e | e | e | e | e <;> rw [e] <;> omega
 exact ⟨⟨h,by rw [zeros_len]; omega⟩,by rw [zeros_load]; rfl,zeros_load _ _,fun j _=>by rw [zeros_load]; simp,by have:=mayC_iff.1 h; omega⟩
end Go.Vai

/- The injector with a list: what is put in, and taken out, alone; by numbers and lists. -/
namespace Go.Vai
open Go.RowKit
section
variable {c : Cf} {m : List Int} {w v x y : Int}
theorem deq_2 (h:Inj c m) (e:far (mLoad m (eSeq c x)) (qFull c x)=0):qStep c m ⟨4,1,w,v,x,y,0⟩=(m,⟨4,2,w,v,x,mLoad m (eSeq c x),0⟩):=by
 unfold qFull at e; simp [qStep,goes_q h,e]
theorem deq_2e (h:Inj c m) (e:far (mLoad m (eSeq c x)) (qFull c x) < 0):qStep c m ⟨4,1,w,v,x,y,0⟩=(m,⟨4,0,w,0,0,0,3⟩):=by
 unfold qFull at e
 have ne:¬ far (mLoad m (eSeq c x)) (wrapU (eFree c x + 1))=0:=by omega
 simp [qStep,goes_q h,e,ne,fEnd]
theorem deq_3 (h:Inj c m) (e:mCasB m 4 x=true):qStep c m ⟨4,2,w,v,x,y,0⟩=(mStore m 4 (wrapU (x + 1)),⟨4,3,w,v,x,y,0⟩):=by simp [qStep,goes_q h,e,cas_store e]
theorem deq_3r (h:Inj c m) (e:mCasB m 4 x=false):qStep c m ⟨4,2,w,v,x,y,0⟩=(m,⟨4,0,w,v,x,y,0⟩):=by simp [qStep,goes_q h,e,cas_not e]
theorem deq_4 (h:Inj c m):qStep c m ⟨4,3,w,v,x,y,0⟩=(m,⟨4,4,w,mLoad m (eVal c x),x,y,0⟩):=by simp [qStep,goes_q h]
theorem deq_5 (h:Inj c m):qStep c m ⟨4,4,w,v,x,y,0⟩=(mStore m (eSeq c x) (wrapU (qFull c x + 1)),⟨4,0,w,v,0,0,1⟩):=by simp [qStep,goes_q h,fEnd,qFull]
theorem deq_over {f:Fr} (h:f.res≠0):qStep c m f=(m,f):=qStep_no (goesE_over h)
end
structure QL (c:Cf) (m:List Int) (l:List Int) (h:Int):Prop where
 inj:Inj c m
 lo:0≤h
 hi:h≤1153000000000000000
 head:mLoad m 4=h
 tail:mLoad m 5=h + l.length
 room:(l.length:Int)≤c.i
 seq:∀ k:Nat,(k:Int) < c.i→mLoad m (6 + (h + k) % c.i)=2 * ((h + k) / c.i) + if k < l.length then 1 else 0
 val:∀ k:Nat,k < l.length→mLoad m (6 + c.i + (h + k) % c.i)=l.getD k 0
theorem small_free {c:Cf} (hi:1≤c.i) {x:Int} (h0:0≤x) (h1:x≤2305843009213693952):eFree c x=2 * (x / c.i):=by
 unfold eFree
 rw [Int.tdiv_eq_ediv_of_nonneg h0]
 have h2:0≤x / c.i:=Int.ediv_nonneg h0 (by omega)
 have h3:x / c.i≤x:=Int.ediv_le_self _ h0
 rw [wrapU_eq,wrapU_eq]
 omega
theorem small_full {c:Cf} (hi:1≤c.i) {x:Int} (h0:0≤x) (h1:x≤2305843009213693952):qFull c x=2 * (x / c.i) + 1:=by
 have h2:0≤x / c.i:=Int.ediv_nonneg h0 (by omega)
 have h3:x / c.i≤x:=Int.ediv_le_self _ h0
 unfold qFull
 rw [small_free hi h0 h1,wrapU_eq]
 omega
theorem small_far {a b:Int} (ha:0≤a) (ha':a≤4611686018427387904 + 1000) (hb:0≤b) (hb':b≤4611686018427387904 + 1000):far a b=a - b:=by
 rw [far_eq (by unfold InU; omega) (by unfold InU; omega)]; omega
theorem QL.list {c:Cf} {m:List Int} {l:List Int} {h:Int} (q:QL c m l h):qList c m=(l,true)∧eLen c m=l.length:=by
 have hi:=q.inj.ipos
 have hlo:=q.lo
 have hhi:=q.hi
 have hr:=q.room
 have hl:eLen c m=l.length:=by
  have:eLen c m=far (mLoad m 5) (mLoad m 4):=by simp [eLen,q.inj.may,q.inj.len]
  rw [this,q.head,q.tail,small_far (by omega) (by omega) (by omega) (by omega)]; omega
 have hX:∀ k:Nat,k≤16→qX (mLoad m 4) k=h + k:=by
  intro k hk
  rw [qX_eq (by rw [q.head]; unfold InU; omega),wrapU_eq,q.head]; omega
 have hH:∀ k:Nat,qHas m k=decide (k < l.length):=by
  intro k
  rw [qHas,q.head,q.tail,wrapU_eq]
  congr 1
  apply propext
  omega
 have hok:∀ k:Nat,(k:Int) < c.i→qOk c m k=true:=by
  intro k hk
  have hu:InU (h + k):=by unfold InU; omega
  rw [qOk,hX k (by omega),q.inj.seq hu,q.seq k hk,qWant,hH k,hX k (by omega),small_full hi.1 (by omega) (by omega)]
  by_cases e:k < l.length
  ·rw [if_pos e,if_pos (by simpa using e)]; simp
  ·rw [if_neg e,if_neg (by simpa using e),wrapU_eq]
   have h2:0≤(h + k) / c.i:=Int.ediv_nonneg (by omega) (by omega)
   have h3:(h + k) / c.i≤(h + k):=Int.ediv_le_self _ (by omega)
   simp; omega
 have hA:∀ j:Nat,(j:Int)≤c.i→qAll c m j=true:=by
  intro j
  induction j with
  | zero=>intro _; rfl
  | succ j ih=>intro hj; rw [qAll,ih (by omega),hok j (by omega)]; rfl
 have hO:∀ j:Nat,(j:Int)≤c.i→qOut c m j=l.take j:=by
  intro j
  induction j with
  | zero=>intro _; simp [qOut]
  | succ j ih=>
   intro hj
   rw [qOut,hH j,ih (by omega)]
   by_cases e:j < l.length
   ·rw [if_pos (by simpa using e),List.take_add_one,List.getElem?_eq_getElem e,qVal,hX j (by omega),q.inj.val (by unfold InU; omega),q.val j e]
    simp [List.getD_eq_getElem?_getD,e]
   ·rw [if_neg (by simpa using e),List.take_of_length_le (by omega),List.take_of_length_le (by omega)]
 refine ⟨?_,hl⟩
 rw [qList,if_neg (by omega),if_pos (hA _ (by omega)),hO _ (by omega),List.take_of_length_le (by omega)]
end Go.Vai

/- The injector with a list: a call alone, step by step. -/
namespace Go.Vai
open Go.RowKit
theorem slot_inj {i h a b:Int} (hi:1≤i) (ha:0≤a) (ha':a < i) (hb:0≤b) (hb':b < i) (e:(h + a) % i=(h + b) % i):a=b:=by
 have e1:=Int.emod_add_ediv_mul (h + a) i
 have e2:=Int.emod_add_ediv_mul (h + b) i
 rw [e] at e1
 have e3:a - b=((h + a) / i - (h + b) / i) * i:=by rw [Int.sub_mul]; omega
 generalize (h + a) / i - (h + b) / i=q at e3
 rcases Int.lt_trichotomy q 0 with hq | hq | hq
 ·have:q * i≤(-1) * i:=Int.mul_le_mul_of_nonneg_right (by omega) (by omega)
  omega
 ·subst hq; omega
 ·have:1 * i≤q * i:=Int.mul_le_mul_of_nonneg_right (by omega) (by omega)
  omega
theorem slot_next {i h:Int} (hi:1≤i):(h + i) % i=h % i∧(h + i) / i=h / i + 1:=by
 refine ⟨by simp,?_⟩
 have:=Int.add_mul_ediv_right h 1 (show i≠0 by omega)
 rw [Int.one_mul] at this
 exact this
section
variable {c : Cf} {m l : List Int} {h : Int}
theorem QL.pos (q:QL c m l h):1≤c.i∧c.i≤16∧0≤h∧h≤1153000000000000000:=⟨q.inj.ipos.1,q.inj.ipos.2,q.lo,q.hi⟩
theorem QL.at (q:QL c m l h) {k:Nat} (hk:k≤16):eSeq c (h + k)=6 + (h + k) % c.i∧eVal c (h + k)=6 + c.i + (h + k) % c.i∧eFree c (h + k)=2 * ((h + k) / c.i)∧qFull c (h + k)=2 * ((h + k) / c.i) + 1:=by
 have:=q.pos
 exact ⟨q.inj.seq (by unfold InU; omega),q.inj.val (by unfold InU; omega),small_free (by omega) (by omega) (by omega),small_full (by omega) (by omega) (by omega)⟩
end
end Go.Vai

/- What always holds when many are at the injector at once: by numbers and lists. -/
namespace Go.Vai
open Go.RowKit
def Holds (f:Fr):Prop:=f.res=0∧(f.pc=3∨f.pc=4)
instance (f:Fr):Decidable (Holds f):=by unfold Holds; infer_instance
def eGave (f:Fr):Option Int:=if f.op=3∧(f.res=1∨Holds f) then some f.val else none
def qGot (V:List Int) (f:Fr):Option Int:=if f.op=4∧f.res=1 then some f.val else if f.op=4∧Holds f then some (V.getD f.x.toNat 0) else none
def sq (c:Cf) (m:List Int) (x:Int):Int:=mLoad m (6 + x % c.i)
def vl (c:Cf) (m:List Int) (x:Int):Int:=mLoad m (6 + c.i + x % c.i)
def SlotOk (c:Cf) (m V:List Int) (H s:Int):Prop:=∃ x,x % c.i=s % c.i∧((H≤x∧x < H + c.i∧sq c m s=2 * (x / c.i))∨(0≤x∧(V.length:Int) - c.i≤x∧x < V.length∧sq c m s=2 * (x / c.i) + 1∧vl c m s=V.getD x.toNat 0))
structure FOk (c:Cf) (m V:List Int) (H:Int) (f:Fr):Prop where
 e:f.op=3→f.res=0→0≤f.pc∧f.pc < 5∧(f.pc=1∨f.pc=2→0≤f.x∧f.x≤V.length)∧(f.pc=2→2 * (f.x / c.i)≤sq c m f.x) ∧
  (f.pc=3∨f.pc=4→0≤f.x∧f.x < V.length∧sq c m f.x=2 * (f.x / c.i)∧V.getD f.x.toNat 0=f.val)∧(f.pc=4→vl c m f.x=f.val)
 q:f.op=4→f.res=0→0≤f.pc∧f.pc < 5∧(f.pc=1∨f.pc=2→0≤f.x∧f.x≤H)∧(f.pc=2→2 * (f.x / c.i) + 1≤sq c m f.x) ∧
  (f.pc=3∨f.pc=4→0≤f.x∧f.x < H∧sq c m f.x=2 * (f.x / c.i) + 1)∧(f.pc=4→f.val=V.getD f.x.toNat 0)
def Diff (f g:Fr):Prop:=(f.op=3∧g.op=3∨f.op=4∧g.op=4)→Holds f→Holds g→f.x≠g.x
theorem Diff.symm {f g:Fr} (h:Diff f g):Diff g f:=fun h1 h2 h3 e=>h (by omega) h3 h2 e.symm
structure Many (c:Cf) (m V:List Int) (H:Int) (fs:List Fr):Prop where
 inj:Inj c m
 head:mLoad m 4=H
 tail:mLoad m 5=V.length
 lo:0≤H
 le:H≤V.length
 room:(V.length:Int)≤H + c.i
 few:fs.length≤1000
 slot:∀ s,SlotOk c m V H s
 ok:∀ f∈fs,FOk c m V H f
 diff:fs.Pairwise Diff
 gave:(fs.filterMap eGave).Perm V
 got:(fs.filterMap (qGot V)).Perm (V.take H.toNat)
 heldE:∀ x,0≤x→x < V.length→sq c m x=2 * (x / c.i)→∃ f∈fs,f.op=3∧Holds f∧f.x=x
 heldQ:∀ x,0≤x→x < H→sq c m x=2 * (x / c.i) + 1→∃ f∈fs,f.op=4∧Holds f∧f.x=x
theorem Many.perm {c:Cf} {m V:List Int} {H:Int} {fs gs:List Fr} (h:Many c m V H fs) (p:fs.Perm gs):Many c m V H gs where
 inj:=h.inj
 head:=h.head
 tail:=h.tail
 lo:=h.lo
 le:=h.le
 room:=h.room
 few:=by rw [← p.length_eq]; exact h.few
 slot:=h.slot
 ok:=fun f hf=>h.ok f (p.mem_iff.2 hf)
 diff:=p.pairwise h.diff (fun h=>h.symm)
 gave:=(p.symm.filterMap _).trans h.gave
 got:=(p.symm.filterMap _).trans h.got
 heldE:=fun x h0 h1 h2=>by obtain ⟨f,hf,e⟩:=h.heldE x h0 h1 h2; exact ⟨f,p.mem_iff.1 hf,e⟩
 heldQ:=fun x h0 h1 h2=>by obtain ⟨f,hf,e⟩:=h.heldQ x h0 h1 h2; exact ⟨f,p.mem_iff.1 hf,e⟩
section
variable {i x y : Int}
theorem same_x (e1:x % i=y % i) (e2:x / i=y / i):x=y:=by
 have h1:=Int.emod_add_ediv_mul x i
 have h2:=Int.emod_add_ediv_mul y i
 rw [e1,e2] at h1
 omega
theorem ge_of_div (hi:1≤i) (e1:x % i=y % i) (h:y / i≤x / i):y≤x:=by
 have h1:=Int.emod_add_ediv_mul x i
 have h2:=Int.emod_add_ediv_mul y i
 have:=Int.mul_le_mul_of_nonneg_right h (show 0≤i by omega)
 omega
theorem near (hi:1≤i) (e1:x % i=y % i) (h0:y≤x) (h1:x < y + i):x=y:=by
 have e:=slot_inj (i:=i) (h:=y) (a:=x - y) (b:=0) hi (by omega) (by omega) (by omega) (by omega) (by rw [show y + (x - y)=x by omega,Int.add_zero]; exact e1)
 omega
theorem div_le (hi:1≤i) (h:x≤y):x / i≤y / i:=Int.ediv_le_ediv (by omega) h
theorem mod_mod (x i:Int):x % i % i=x % i:=Int.emod_emod_of_dvd x (Int.dvd_refl i)
end
theorem getD_app (V:List Int) (v:Int) {x:Nat} (h:x < V.length):(V ++ [v]).getD x 0=V.getD x 0:=by
 simp [List.getD_eq_getElem?_getD,List.getElem?_append,h]
theorem getD_last (V:List Int) (v:Int):(V ++ [v]).getD V.length 0=v:=by simp [List.getD_eq_getElem?_getD]
section
variable {c : Cf} {m V : List Int} {H : Int} {f f' : Fr} {r : List Fr}
theorem FOk.mono {m' V':List Int} {H':Int} (h:FOk c m V H f) (hs:∀ x,sq c m' x=sq c m x) (hv:∀ x,vl c m' x=vl c m x) (hl:V.length≤V'.length) (hV:∀ x:Nat,x < V.length→V'.getD x 0=V.getD x 0) (hHl:H≤V.length) (hH:H≤H'):FOk c m' V' H' f:=by
 refine ⟨fun h3 h4=>?_,fun h3 h4=>?_⟩
 ·obtain ⟨a1,a2,a3,a4,a5,a6⟩:=h.e h3 h4
  refine ⟨a1,a2,fun e=>?_,fun e=>by rw [hs]; exact a4 e,fun e=>?_,fun e=>by rw [hv]; exact a6 e⟩
  ·have:=a3 e; omega
  ·obtain ⟨b1,b2,b3,b4⟩:=a5 e
   refine ⟨b1,by omega,by rw [hs]; exact b3,by rw [hV _ (by omega)]; exact b4⟩
 ·obtain ⟨a1,a2,a3,a4,a5,a6⟩:=h.q h3 h4
  refine ⟨a1,a2,fun e=>?_,fun e=>by rw [hs]; exact a4 e,fun e=>?_,fun e=>?_⟩
  ·have:=a3 e; omega
  ·obtain ⟨b1,b2,b3⟩:=a5 e
   exact ⟨b1,by omega,by rw [hs]; exact b3⟩
  ·have:=a5 (.inr e)
   rw [hV _ (by omega)]; exact a6 e
theorem qGot_mono {V':List Int} (h:FOk c m V H f) (hHl:H≤V.length) (hV:∀ x:Nat,x < V.length→V'.getD x 0=V.getD x 0):qGot V' f=qGot V f:=by
 unfold qGot
 split
 ·rfl
 ·split
  ·rename_i e
   have:=(h.q e.1 e.2.1).2.2.2.2.1 e.2.2
   rw [hV _ (by omega)]
  ·rfl
theorem got_mono {V':List Int} (h:∀ f∈r,FOk c m V H f) (hHl:H≤V.length) (hV:∀ x:Nat,x < V.length→V'.getD x 0=V.getD x 0):r.filterMap (qGot V')=r.filterMap (qGot V):=by
 induction r with
 | nil=>rfl
 | cons g r ih=>
  have e:=qGot_mono (h g (by simp)) hHl hV
  rw [List.filterMap_cons,List.filterMap_cons,e,ih fun f hf=>h f (by simp [hf])]
theorem held_cons {op x:Int} (hk:Holds f→Holds f'∧f'.op=f.op∧f'.x=f.x):(∃ g∈f :: r,g.op=op∧Holds g∧g.x=x)→∃ g∈f' :: r,g.op=op∧Holds g∧g.x=x:=by
 rintro ⟨g,hg,e1,e2,e3⟩
 rcases List.mem_cons.1 hg with e | e
 ·subst e
  obtain ⟨k1,k2,k3⟩:=hk e2
  exact ⟨f',by simp,k2.trans e1,k1,k3.trans e3⟩
 ·exact ⟨g,by simp [e],e1,e2,e3⟩
theorem held_not {op x:Int} (hk:¬ (f.op=op∧Holds f∧f.x=x)):(∃ g∈f :: r,g.op=op∧Holds g∧g.x=x)→∃ g∈f' :: r,g.op=op∧Holds g∧g.x=x:=by
 rintro ⟨g,hg,e⟩
 rcases List.mem_cons.1 hg with q | q
 ·subst q; exact absurd e hk
 ·exact ⟨g,by simp [q],e⟩
theorem Many.same (h:Many c m V H (f :: r)) (ok:FOk c m V H f') (d:∀ g∈r,Diff f g→Diff f' g) (e1:eGave f'=eGave f) (e2:qGot V f'=qGot V f) (hk:Holds f→Holds f'∧f'.op=f.op∧f'.x=f.x):Many c m V H (f' :: r) where
 inj:=h.inj
 head:=h.head
 tail:=h.tail
 lo:=h.lo
 le:=h.le
 room:=h.room
 few:=h.few
 slot:=h.slot
 ok:=fun g hg=>(List.mem_cons.1 hg).elim (fun e=>e ▸ ok) (fun e=>h.ok g (by simp [e]))
 diff:=by
  have:=List.pairwise_cons.1 h.diff
  exact List.pairwise_cons.2 ⟨fun g hg=>d g hg (this.1 g hg),this.2⟩
 gave:=by have:=h.gave; rw [List.filterMap_cons] at this ⊢; rw [e1]; exact this
 got:=by have:=h.got; rw [List.filterMap_cons] at this ⊢; rw [e2]; exact this
 heldE:=fun x h0 h1 h2=>held_cons hk (h.heldE x h0 h1 h2)
 heldQ:=fun x h0 h1 h2=>held_cons hk (h.heldQ x h0 h1 h2)
theorem Many.size (h:Many c m V H (f :: r)):(V.length:Int)≤1000:=by
 have h1:=h.gave.length_eq
 have h2:=List.length_filterMap_le eGave (f :: r)
 have:=h.few
 omega
theorem Many.pos (h:Many c m V H (f :: r)):1≤c.i∧c.i≤16∧0≤H∧H≤1000:=by
 have:=h.size; have:=h.le; exact ⟨h.inj.ipos.1,h.inj.ipos.2,h.lo,by omega⟩
theorem Inj.seq' (h:Inj c m) {x:Int} (h0:0≤x) (h1:x≤2000):eSeq c x=6 + x % c.i∧eVal c x=6 + c.i + x % c.i∧eFree c x=2 * (x / c.i)∧qFull c x=2 * (x / c.i) + 1:=
 ⟨h.seq (by unfold InU; omega),h.val (by unfold InU; omega),small_free h.ipos.1 (by omega) (by omega),small_full h.ipos.1 (by omega) (by omega)⟩
theorem Many.claim (h:Many c m V H (f :: r)) (hop:f.op=3) (hr:f.res=0) (hp:f.pc=2) (hx:f.x=V.length) (hf:f'.op=3∧f'.res=0∧f'.pc=3∧f'.x=f.x∧f'.val=f.val) :
  Many c (mStore m 5 (wrapU (f.x + 1))) (V ++ [f.val]) H (f' :: r):=by
 obtain ⟨p1,p2,p3,p4⟩:=h.pos
 have hsz:=h.size
 have hin:=h.inj.size
 obtain ⟨f1,f2,f3,f4,f5⟩:=hf
 obtain ⟨a1,a2,a3,a4,a5,a6⟩:=(h.ok f (by simp)).e hop hr
 have a4:=a4 hp
 have hs:∀ x,sq c (mStore m 5 (wrapU (f.x + 1))) x=sq c m x:=fun x=>load_other (by have:=h.inj.mod x; omega) _
 have hv:∀ x,vl c (mStore m 5 (wrapU (f.x + 1))) x=vl c m x:=fun x=>load_other (by have:=h.inj.mod x; omega) _
 have hV:∀ x:Nat,x < V.length→(V ++ [f.val]).getD x 0=V.getD x 0:=fun x hx=>getD_app V _ hx
 have hsl:sq c m f.x=2 * (f.x / c.i)∧f.x < H + c.i:=by
  obtain ⟨x,e,⟨g1,g2,g3⟩ | ⟨g0,g1,g2,g3,g4⟩⟩:=h.slot f.x
  ·have:f.x≤x:=ge_of_div p1 e (by omega)
   have hle:=h.le
   have:=near p1 e this (by omega)
   subst this
   exact ⟨g3,g2⟩
  ·have:f.x≤x:=ge_of_div p1 e (by omega)
   omega
 have hok:∀ g∈r,FOk c (mStore m 5 (wrapU (f.x + 1))) (V ++ [f.val]) H g:=fun g hg=>(h.ok g (by simp [hg])).mono hs hv (by simp) hV h.le (Int.le_refl _)
 refine ⟨h.inj.store _ _,?_,?_,h.lo,?_,?_,h.few,fun s=>?_,fun g hg=>?_,?_,?_,?_,fun x x0 x1 x2=>?_,fun x x0 x1 x2=>?_⟩
 ·rw [load_other (by omega)]; exact h.head
 ·rw [load_store h.inj.in_tail,wrapU_eq,hx]; simp; omega
 ·have:=h.le; simp; omega
 ·simp; omega
 ·obtain ⟨x,e,⟨g1,g2,g3⟩ | ⟨g0,g1,g2,g3,g4⟩⟩:=h.slot s
  ·exact ⟨x,e,.inl ⟨g1,g2,by rw [hs]; exact g3⟩⟩
  ·refine ⟨x,e,.inr ⟨g0,?_,by simp; omega,by rw [hs]; exact g3,by rw [hv,hV _ (by omega)]; exact g4⟩⟩
   by_cases q:x=V.length - c.i
   ·exfalso
    have e1:(x + c.i) % c.i=x % c.i:=by simp
    have:sq c m f.x=sq c m s:=by unfold sq; rw [← e,← e1,hx,q]; congr 3; omega
    omega
   ·simp; omega
 ·rcases List.mem_cons.1 hg with e | e
  ·subst e
   refine ⟨fun _ _=>?_,fun q=>by omega⟩
   rw [f3,f4,f5]
   refine ⟨by omega,by omega,fun q=>by omega,fun q=>by omega,fun _=>⟨by omega,by simp; omega,by rw [hs]; exact hsl.1,?_⟩,fun q=>by omega⟩
   rw [hx,show ((V.length:Int)).toNat=V.length by omega]; exact getD_last V _
  ·exact hok g e
 ·have:=List.pairwise_cons.1 h.diff
  refine List.pairwise_cons.2 ⟨fun g hg q1 q2 q3 e=>?_,this.2⟩
  have hg3:g.op=3:=by omega
  have:=((h.ok g (by simp [hg])).e hg3 q3.1).2.2.2.2.1 q3.2
  omega
 ·have:=h.gave
  have n1:eGave f=none:=by unfold eGave Holds; rw [if_neg (by omega)]
  have n2:eGave f'=some f.val:=by unfold eGave Holds; rw [if_pos ⟨f1,.inr ⟨f2,.inl f3⟩⟩,f5]
  rw [List.filterMap_cons,n1] at this
  rw [List.filterMap_cons,n2]
  exact (this.cons _).trans (List.perm_append_singleton _ _).symm
 ·have:=h.got
  have n1:qGot V f=none:=by unfold qGot; rw [if_neg (by omega),if_neg (by omega)]
  have n2:qGot (V ++ [f.val]) f'=none:=by unfold qGot; rw [if_neg (by omega),if_neg (by omega)]
  rw [List.filterMap_cons,n1] at this
  rw [List.filterMap_cons,n2,List.take_append_of_le_length (by have:=h.le; omega)]
  dsimp only at this ⊢
  rw [got_mono (fun g hg=>h.ok g (by simp [hg])) h.le hV]
  exact this
 ·rw [hs] at x2
  by_cases q:x=V.length
  ·exact ⟨f',by simp,f1,⟨f2,.inl f3⟩,by rw [f4,hx,q]⟩
  ·exact held_not (fun k=>by have:=k.2.1.2; omega) (h.heldE x x0 (by simp at x1; omega) x2)
 ·rw [hs] at x2
  exact held_not (fun k=>by have:=k.2.1.2; omega) (h.heldQ x x0 x1 x2)
theorem Many.take (h:Many c m V H (f :: r)) (hop:f.op=4) (hr:f.res=0) (hp:f.pc=2) (hx:f.x=H) (hf:f'.op=4∧f'.res=0∧f'.pc=3∧f'.x=f.x) :
  Many c (mStore m 4 (wrapU (f.x + 1))) V (H + 1) (f' :: r):=by
 obtain ⟨p1,p2,p3,p4⟩:=h.pos
 have hsz:=h.size
 have hin:=h.inj.size
 have hle:=h.le
 have hrm:=h.room
 obtain ⟨f1,f2,f3,f4⟩:=hf
 obtain ⟨a1,a2,a3,a4,a5,a6⟩:=(h.ok f (by simp)).q hop hr
 have a4:=a4 hp
 have hs:∀ x,sq c (mStore m 4 (wrapU (f.x + 1))) x=sq c m x:=fun x=>load_other (by have:=h.inj.mod x; omega) _
 have hv:∀ x,vl c (mStore m 4 (wrapU (f.x + 1))) x=vl c m x:=fun x=>load_other (by have:=h.inj.mod x; omega) _
 have hsl:sq c m f.x=2 * (f.x / c.i) + 1∧f.x < V.length:=by
  obtain ⟨x,e,⟨g1,g2,g3⟩ | ⟨g0,g1,g2,g3,g4⟩⟩:=h.slot f.x
  ·have:f.x=x:=(near p1 e (by omega) (by omega)).symm
   subst this; omega
  ·have:f.x≤x:=ge_of_div p1 e (by omega)
   have:=near p1 e this (by omega)
   subst this
   exact ⟨g3,g2⟩
 have hok:∀ g∈r,FOk c (mStore m 4 (wrapU (f.x + 1))) V (H + 1) g:=fun g hg=>(h.ok g (by simp [hg])).mono hs hv (Nat.le_refl _) (fun _ _=>rfl) h.le (by omega)
 refine ⟨h.inj.store _ _,?_,?_,by omega,by omega,by omega,h.few,fun s=>?_,fun g hg=>?_,?_,?_,?_,fun x x0 x1 x2=>?_,fun x x0 x1 x2=>?_⟩
 ·rw [load_store h.inj.in_head,wrapU_eq,hx]; omega
 ·rw [load_other (by omega)]; exact h.tail
 ·obtain ⟨x,e,⟨g1,g2,g3⟩ | ⟨g0,g1,g2,g3,g4⟩⟩:=h.slot s
  ·refine ⟨x,e,.inl ⟨?_,by omega,by rw [hs]; exact g3⟩⟩
   by_cases q:x=H
   ·exfalso
    have:sq c m f.x=sq c m s:=by unfold sq; rw [← e,hx,q]
    omega
   ·omega
  ·exact ⟨x,e,.inr ⟨g0,g1,g2,by rw [hs]; exact g3,by rw [hv]; exact g4⟩⟩
 ·rcases List.mem_cons.1 hg with e | e
  ·subst e
   refine ⟨fun q=>by omega,fun _ _=>?_⟩
   rw [f3,f4]
   exact ⟨by omega,by omega,fun q=>by omega,fun q=>by omega,fun _=>⟨by omega,by omega,by rw [hs]; exact hsl.1⟩,fun q=>by omega⟩
  ·exact hok g e
 ·have:=List.pairwise_cons.1 h.diff
  refine List.pairwise_cons.2 ⟨fun g hg q1 q2 q3 e=>?_,this.2⟩
  have hg3:g.op=4:=by omega
  have:=((h.ok g (by simp [hg])).q hg3 q3.1).2.2.2.2.1 q3.2
  omega
 ·have:=h.gave
  have n1:eGave f=none:=by unfold eGave; rw [if_neg (by omega)]
  have n2:eGave f'=none:=by unfold eGave; rw [if_neg (by omega)]
  rw [List.filterMap_cons,n1] at this
  rw [List.filterMap_cons,n2]
  exact this
 ·have:=h.got
  have n1:qGot V f=none:=by unfold qGot Holds; rw [if_neg (by omega),if_neg (by omega)]
  have n2:qGot V f'=some (V.getD H.toNat 0):=by unfold qGot Holds; rw [if_neg (by omega),if_pos ⟨f1,f2,.inl f3⟩,f4,hx]
  rw [List.filterMap_cons,n1] at this
  rw [List.filterMap_cons,n2]
  have hh:H.toNat < V.length:=by omega
  rw [show (H + 1).toNat=H.toNat + 1 by omega,List.take_succ_eq_append_getElem hh]
  have hg:V.getD H.toNat 0=V[H.toNat]:=by simp [List.getD_eq_getElem?_getD,hh]
  rw [← hg]
  exact (this.cons _).trans (List.perm_append_singleton _ _).symm
 ·rw [hs] at x2
  exact held_not (fun k=>by have:=k.2.1.2; omega) (h.heldE x x0 x1 x2)
 ·rw [hs] at x2
  by_cases q:x=H
  ·exact ⟨f',by simp,f1,⟨f2,.inl f3⟩,by rw [f4,hx,q]⟩
  ·exact held_not (fun k=>by have:=k.2.1.2; omega) (h.heldQ x x0 (by omega) x2)
theorem Many.write (h:Many c m V H (f :: r)) (hop:f.op=3) (hr:f.res=0) (hp:f.pc=3) (hf:f'.op=3∧f'.res=0∧f'.pc=4∧f'.x=f.x∧f'.val=f.val) :
  Many c (mStore m (6 + c.i + f.x % c.i) f.val) V H (f' :: r):=by
 obtain ⟨p1,p2,p3,p4⟩:=h.pos
 have hsz:=h.size
 have hin:=h.inj.size
 have hmx:=h.inj.mod f.x
 obtain ⟨f1,f2,f3,f4,f5⟩:=hf
 obtain ⟨a1,a2,a3,a4,a5,a6⟩:=(h.ok f (by simp)).e hop hr
 obtain ⟨b1,b2,b3,b4⟩:=a5 (.inl hp)
 have hd:=List.pairwise_cons.1 h.diff
 have hs:∀ x,sq c (mStore m (6 + c.i + f.x % c.i) f.val) x=sq c m x:=fun x=>load_other (by have:=h.inj.mod x; omega) _
 have hv:∀ x,x % c.i≠f.x % c.i→vl c (mStore m (6 + c.i + f.x % c.i) f.val) x=vl c m x:=fun x hx=>load_other (by have:=h.inj.mod x; omega) _
 have hw:vl c (mStore m (6 + c.i + f.x % c.i) f.val) f.x=f.val:=load_store (by simp [isIn]; omega) _
 refine ⟨h.inj.store _ _,?_,?_,h.lo,h.le,h.room,h.few,fun s=>?_,fun g hg=>?_,?_,?_,?_,fun x x0 x1 x2=>?_,fun x x0 x1 x2=>?_⟩
 ·rw [load_other (by omega)]; exact h.head
 ·rw [load_other (by omega)]; exact h.tail
 ·obtain ⟨x,e,⟨g1,g2,g3⟩ | ⟨g0,g1,g2,g3,g4⟩⟩:=h.slot s
  ·exact ⟨x,e,.inl ⟨g1,g2,by rw [hs]; exact g3⟩⟩
  ·refine ⟨x,e,.inr ⟨g0,g1,g2,by rw [hs]; exact g3,?_⟩⟩
   rw [hv,g4]
   intro q
   have:sq c m s=sq c m f.x:=by unfold sq; rw [q]
   omega
 ·rcases List.mem_cons.1 hg with e | e
  ·subst e
   refine ⟨fun _ _=>?_,fun q=>by omega⟩
   rw [f3,f4,f5,hs,hw]
   exact ⟨by omega,by omega,fun q=>by omega,fun q=>by omega,fun _=>⟨b1,b2,b3,b4⟩,fun _=>rfl⟩
  ·have hg':=h.ok g (by simp [e])
   refine ⟨fun k1 k2=>?_,fun k1 k2=>?_⟩
   ·obtain ⟨c1,c2,c3,c4,c5,c6⟩:=hg'.e k1 k2
    refine ⟨c1,c2,c3,fun q=>by rw [hs]; exact c4 q,fun q=>by rw [hs]; exact c5 q,fun q=>?_⟩
    rw [hv,c6 q]
    intro q2
    have d1:=(c5 (.inr q)).2.2.1
    have d2:sq c m g.x=sq c m f.x:=by unfold sq; rw [q2]
    have d3:=same_x q2 (by omega)
    exact hd.1 g e (.inl ⟨hop,k1⟩) ⟨hr,.inl hp⟩ ⟨k2,.inr q⟩ d3.symm
   ·obtain ⟨c1,c2,c3,c4,c5,c6⟩:=hg'.q k1 k2
    exact ⟨c1,c2,c3,fun q=>by rw [hs]; exact c4 q,fun q=>by rw [hs]; exact c5 q,c6⟩
 ·refine List.pairwise_cons.2 ⟨fun g hg q1 q2 q3 e=>?_,hd.2⟩
  exact hd.1 g hg (by omega) ⟨hr,.inl hp⟩ q3 (by rw [← f4]; exact e)
 ·have:=h.gave
  have n:eGave f'=eGave f:=by unfold eGave Holds; rw [if_pos (by omega),if_pos (by omega),f5]
  rw [List.filterMap_cons] at this ⊢
  rw [n]; exact this
 ·have:=h.got
  have n:qGot V f'=qGot V f:=by unfold qGot; rw [if_neg (by omega),if_neg (by omega),if_neg (by omega),if_neg (by omega)]
  rw [List.filterMap_cons] at this ⊢
  rw [n]; exact this
 ·rw [hs] at x2
  exact held_cons (fun _=>⟨⟨f2,.inr f3⟩,by omega,f4⟩) (h.heldE x x0 x1 x2)
 ·rw [hs] at x2
  exact held_not (fun k=>by omega) (h.heldQ x x0 x1 x2)
theorem Many.put (h:Many c m V H (f :: r)) (hop:f.op=3) (hr:f.res=0) (hp:f.pc=4) (hf:f'.op=3∧f'.res=1∧f'.val=f.val) :
  Many c (mStore m (6 + f.x % c.i) (2 * (f.x / c.i) + 1)) V H (f' :: r):=by
 obtain ⟨p1,p2,p3,p4⟩:=h.pos
 have hsz:=h.size
 have hin:=h.inj.size
 have hrm:=h.room
 have hmx:=h.inj.mod f.x
 obtain ⟨f1,f2,f3⟩:=hf
 obtain ⟨a1,a2,a3,a4,a5,a6⟩:=(h.ok f (by simp)).e hop hr
 obtain ⟨b1,b2,b3,b4⟩:=a5 (.inr hp)
 have a6:=a6 hp
 have hd:=List.pairwise_cons.1 h.diff
 have hv:∀ x,vl c (mStore m (6 + f.x % c.i) (2 * (f.x / c.i) + 1)) x=vl c m x:=fun x=>load_other (by have:=h.inj.mod x; omega) _
 have hs:∀ x,x % c.i≠f.x % c.i→sq c (mStore m (6 + f.x % c.i) (2 * (f.x / c.i) + 1)) x=sq c m x:=fun x hx=>load_other (by have:=h.inj.mod x; omega) _
 have hw:∀ x,x % c.i=f.x % c.i→sq c (mStore m (6 + f.x % c.i) (2 * (f.x / c.i) + 1)) x=2 * (f.x / c.i) + 1:=fun x hx=>by unfold sq; rw [hx]; exact load_store (by simp [isIn]; omega) _
 have hq:∀ x,x % c.i=f.x % c.i→sq c m x=2 * (f.x / c.i):=fun x hx=>by rw [← b3]; unfold sq; rw [hx]
 refine ⟨h.inj.store _ _,?_,?_,h.lo,h.le,h.room,h.few,fun s=>?_,fun g hg=>?_,?_,?_,?_,fun x x0 x1 x2=>?_,fun x x0 x1 x2=>?_⟩
 ·rw [load_other (by omega)]; exact h.head
 ·rw [load_other (by omega)]; exact h.tail
 ·obtain ⟨x,e,o⟩:=h.slot s
  by_cases q:s % c.i=f.x % c.i
  ·have hqs:=hq s q
   refine ⟨f.x,q.symm,.inr ⟨b1,?_,b2,hw s q,?_⟩⟩
   ·rcases o with ⟨g1,g2,g3⟩ | ⟨g0,g1,g2,g3,g4⟩
    ·have:=same_x (e.trans q) (by omega)
     omega
    ·omega
   ·rw [hv,b4,← a6]; unfold vl; rw [q]
  ·refine ⟨x,e,?_⟩
   rw [hs s q,hv]; exact o
 ·rcases List.mem_cons.1 hg with e | e
  ·subst e
   exact ⟨fun _ q=>by omega,fun q=>by omega⟩
  ·have hg':=h.ok g (by simp [e])
   refine ⟨fun k1 k2=>?_,fun k1 k2=>?_⟩
   ·obtain ⟨c1,c2,c3,c4,c5,c6⟩:=hg'.e k1 k2
    refine ⟨c1,c2,c3,fun q=>?_,fun q=>?_,fun q=>by rw [hv]; exact c6 q⟩
    ·have:=c4 q
     by_cases q2:g.x % c.i=f.x % c.i
     ·rw [hw _ q2]; rw [hq _ q2] at this; omega
     ·rw [hs _ q2]; exact this
    ·by_cases q2:g.x % c.i=f.x % c.i
     ·exfalso
      have d1:=(c5 q).2.2.1
      rw [hq _ q2] at d1
      have d3:=same_x q2 (by omega)
      exact hd.1 g e (.inl ⟨hop,k1⟩) ⟨hr,.inr hp⟩ ⟨k2,q⟩ d3.symm
     ·rw [hs _ q2]; exact c5 q
   ·obtain ⟨c1,c2,c3,c4,c5,c6⟩:=hg'.q k1 k2
    refine ⟨c1,c2,c3,fun q=>?_,fun q=>?_,c6⟩
    ·have:=c4 q
     by_cases q2:g.x % c.i=f.x % c.i
     ·rw [hw _ q2]; rw [hq _ q2] at this; omega
     ·rw [hs _ q2]; exact this
    ·have:=c5 q
     by_cases q2:g.x % c.i=f.x % c.i
     ·rw [hq _ q2] at this; omega
     ·rw [hs _ q2]; exact this
 ·refine List.pairwise_cons.2 ⟨fun g hg q1 q2 q3 e=>?_,hd.2⟩
  have:=q2.1
  omega
 ·have:=h.gave
  have n:eGave f'=eGave f:=by unfold eGave Holds; rw [if_pos (by omega),if_pos (by omega),f3]
  rw [List.filterMap_cons] at this ⊢
  rw [n]; exact this
 ·have:=h.got
  have n:qGot V f'=qGot V f:=by unfold qGot; rw [if_neg (by omega),if_neg (by omega),if_neg (by omega),if_neg (by omega)]
  rw [List.filterMap_cons] at this ⊢
  rw [n]; exact this
 ·by_cases q:x % c.i=f.x % c.i
  ·rw [hw x q] at x2; omega
  ·rw [hs x q] at x2
   exact held_not (fun k=>q (by rw [k.2.2])) (h.heldE x x0 x1 x2)
 ·by_cases q:x % c.i=f.x % c.i
  ·rw [hw x q] at x2
   exfalso
   have:=same_x q (by omega)
   obtain ⟨y,e,⟨g1,g2,g3⟩ | ⟨g0,g1,g2,g3,g4⟩⟩:=h.slot f.x
   ·have:=same_x e (by omega); omega
   ·omega
  ·rw [hs x q] at x2
   exact held_not (fun k=>by omega) (h.heldQ x x0 x1 x2)
theorem Many.gone (h:Many c m V H (f :: r)) (hop:f.op=4) (hr:f.res=0) (hp:f.pc=4) (hf:f'.op=4∧f'.res=1∧f'.val=f.val) :
  Many c (mStore m (6 + f.x % c.i) (2 * (f.x / c.i) + 2)) V H (f' :: r):=by
 obtain ⟨p1,p2,p3,p4⟩:=h.pos
 have hsz:=h.size
 have hin:=h.inj.size
 have hrm:=h.room
 have hle:=h.le
 have hmx:=h.inj.mod f.x
 obtain ⟨f1,f2,f3⟩:=hf
 obtain ⟨a1,a2,a3,a4,a5,a6⟩:=(h.ok f (by simp)).q hop hr
 obtain ⟨b1,b2,b3⟩:=a5 (.inr hp)
 have a6:=a6 hp
 have hd:=List.pairwise_cons.1 h.diff
 have hv:∀ x,vl c (mStore m (6 + f.x % c.i) (2 * (f.x / c.i) + 2)) x=vl c m x:=fun x=>load_other (by have:=h.inj.mod x; omega) _
 have hs:∀ x,x % c.i≠f.x % c.i→sq c (mStore m (6 + f.x % c.i) (2 * (f.x / c.i) + 2)) x=sq c m x:=fun x hx=>load_other (by have:=h.inj.mod x; omega) _
 have hw:∀ x,x % c.i=f.x % c.i→sq c (mStore m (6 + f.x % c.i) (2 * (f.x / c.i) + 2)) x=2 * (f.x / c.i) + 2:=fun x hx=>by unfold sq; rw [hx]; exact load_store (by simp [isIn]; omega) _
 have hq:∀ x,x % c.i=f.x % c.i→sq c m x=2 * (f.x / c.i) + 1:=fun x hx=>by rw [← b3]; unfold sq; rw [hx]
 refine ⟨h.inj.store _ _,?_,?_,h.lo,h.le,h.room,h.few,fun s=>?_,fun g hg=>?_,?_,?_,?_,fun x x0 x1 x2=>?_,fun x x0 x1 x2=>?_⟩
 ·rw [load_other (by omega)]; exact h.head
 ·rw [load_other (by omega)]; exact h.tail
 ·obtain ⟨x,e,o⟩:=h.slot s
  by_cases q:s % c.i=f.x % c.i
  ·have hqs:=hq s q
   obtain ⟨n1,n2⟩:=slot_next (h:=f.x) p1
   refine ⟨f.x + c.i,by rw [n1]; exact q.symm,.inl ⟨?_,by omega,by rw [hw s q,n2]; omega⟩⟩
   rcases o with ⟨g1,g2,g3⟩ | ⟨g0,g1,g2,g3,g4⟩
   ·omega
   ·have:=same_x (e.trans q) (by omega)
    omega
  ·refine ⟨x,e,?_⟩
   rw [hs s q,hv]; exact o
 ·rcases List.mem_cons.1 hg with e | e
  ·subst e
   exact ⟨fun q=>by omega,fun _ q=>by omega⟩
  ·have hg':=h.ok g (by simp [e])
   refine ⟨fun k1 k2=>?_,fun k1 k2=>?_⟩
   ·obtain ⟨c1,c2,c3,c4,c5,c6⟩:=hg'.e k1 k2
    refine ⟨c1,c2,c3,fun q=>?_,fun q=>?_,fun q=>by rw [hv]; exact c6 q⟩
    ·have:=c4 q
     by_cases q2:g.x % c.i=f.x % c.i
     ·rw [hw _ q2]; rw [hq _ q2] at this; omega
     ·rw [hs _ q2]; exact this
    ·have:=c5 q
     by_cases q2:g.x % c.i=f.x % c.i
     ·rw [hq _ q2] at this; omega
     ·rw [hs _ q2]; exact this
   ·obtain ⟨c1,c2,c3,c4,c5,c6⟩:=hg'.q k1 k2
    refine ⟨c1,c2,c3,fun q=>?_,fun q=>?_,c6⟩
    ·have:=c4 q
     by_cases q2:g.x % c.i=f.x % c.i
     ·rw [hw _ q2]; rw [hq _ q2] at this; omega
     ·rw [hs _ q2]; exact this
    ·by_cases q2:g.x % c.i=f.x % c.i
     ·exfalso
      have d1:=(c5 q).2.2
      rw [hq _ q2] at d1
      have d3:=same_x q2 (by omega)
      exact hd.1 g e (.inr ⟨hop,k1⟩) ⟨hr,.inr hp⟩ ⟨k2,q⟩ d3.symm
     ·rw [hs _ q2]; exact c5 q
 ·refine List.pairwise_cons.2 ⟨fun g hg q1 q2 q3 e=>?_,hd.2⟩
  have:=q2.1
  omega
 ·have:=h.gave
  have n:eGave f'=eGave f:=by unfold eGave; rw [if_neg (by omega),if_neg (by omega)]
  rw [List.filterMap_cons] at this ⊢
  rw [n]; exact this
 ·have:=h.got
  have n:qGot V f'=qGot V f:=by unfold qGot Holds; rw [if_pos (by omega),if_neg (by omega),if_pos (by omega),f3,a6]
  rw [List.filterMap_cons] at this ⊢
  rw [n]; exact this
 ·by_cases q:x % c.i=f.x % c.i
  ·rw [hw x q] at x2
   exfalso
   obtain ⟨n1,n2⟩:=slot_next (h:=f.x) p1
   have:=same_x (x:=x) (y:=f.x + c.i) (by rw [n1]; exact q) (by rw [n2]; omega)
   obtain ⟨y,e,⟨g1,g2,g3⟩ | ⟨g0,g1,g2,g3,g4⟩⟩:=h.slot f.x
   ·omega
   ·have:=same_x e (by omega); omega
  ·rw [hs x q] at x2
   exact held_not (fun k=>by omega) (h.heldE x x0 x1 x2)
 ·by_cases q:x % c.i=f.x % c.i
  ·rw [hw x q] at x2; omega
  ·rw [hs x q] at x2
   exact held_not (fun k=>q (by rw [k.2.2])) (h.heldQ x x0 x1 x2)
end
end Go.Vai

/- Many at the injector at once: a step of one of them, and how soon one ends that is alone. -/
namespace Go.Vai
open Go.RowKit
structure Moved (V:List Int) (H:Int) (V':List Int) (H':Int) (f f':Fr):Prop where
 op:f'.op=f.op
 who:f'.who=f.who
 val:f.op=3→f'.val=f.val
 v:V'=V∨(V'=V ++ [f.val]∧f.op=3∧eGave f=none∧eGave f'=some f.val)
 keep:eGave f≠none→eGave f'≠none
 h:(H'=H∧(f'.op=4→Holds f'→Holds f∧f'.x=f.x))∨(H'=H + 1∧f'.res=0∧f'.x=H)
 got:f.op=4→f.res=0→f'.res=1→Holds f∧0≤f.x∧f.x < H∧f'.val=V.getD f.x.toNat 0
 over:f.res≠0→f'=f
 gave:f.op=3→f.res=0→f'.res=1→Holds f
theorem Moved.refl (V:List Int) (H:Int) (f:Fr):Moved V H V H f f where
 op:=rfl
 who:=rfl
 val:=fun _=>rfl
 v:=.inl rfl
 keep:=id
 h:=.inl ⟨rfl,fun _ h=>⟨h,rfl⟩⟩
 got:=fun _ h1 h2=>by omega
 over:=fun _=>rfl
 gave:=fun _ h1 h2=>by omega
def rank (m:List Int) (f:Fr):Nat:=
 if f.res≠0 then 0 else
 let e:=if f.op=3 then 5 else 4
 if f.pc=4 then 1 else if f.pc=3 then 2 else if f.pc=2 then (if mLoad m e=f.x then 3 else 6) else if f.pc=1 then (if mLoad m e=f.x then 4 else 7) else 5
section
variable {c : Cf} {m V : List Int} {H : Int} {f f' : Fr} {r : List Fr}
theorem Many.sq_range (h:Many c m V H (f :: r)) (x:Int):0≤sq c m x∧sq c m x≤4002:=by
 obtain ⟨p1,p2,p3,p4⟩:=h.pos
 have hsz:=h.size
 obtain ⟨y,e,⟨g1,g2,g3⟩ | ⟨g0,g1,g2,g3,g4⟩⟩:=h.slot x
 ·have a1:0≤y / c.i:=Int.ediv_nonneg (by omega) (by omega)
  have a2:y / c.i≤y:=Int.ediv_le_self _ (by omega)
  omega
 ·have a1:0≤y / c.i:=Int.ediv_nonneg (by omega) (by omega)
  have a2:y / c.i≤y:=Int.ediv_le_self _ (by omega)
  omega
theorem Many.sq_tail (h:Many c m V H (f :: r)):sq c m V.length≤2 * ((V.length:Int) / c.i):=by
 obtain ⟨p1,p2,p3,p4⟩:=h.pos
 have hle:=h.le
 obtain ⟨y,e,⟨g1,g2,g3⟩ | ⟨g0,g1,g2,g3,g4⟩⟩:=h.slot V.length
 ·by_cases q:y≤V.length
  ·have:=div_le p1 q; omega
  ·have:=near p1 e (by omega) (by omega); omega
 ·have a:=near p1 (x:=V.length) (y:=y) e.symm (by omega)
  by_cases q:y / c.i < (V.length:Int) / c.i
  ·omega
  ·have:=ge_of_div p1 e (by omega); omega
theorem Many.sq_head (h:Many c m V H (f :: r)):sq c m H≤2 * (H / c.i) + 1:=by
 obtain ⟨p1,p2,p3,p4⟩:=h.pos
 have hle:=h.le
 have hrm:=h.room
 obtain ⟨y,e,⟨g1,g2,g3⟩ | ⟨g0,g1,g2,g3,g4⟩⟩:=h.slot H
 ·have:=near p1 e g1 g2
  subst this; omega
 ·by_cases q:y≤H
  ·have:=div_le p1 q; omega
  ·have:=near p1 e (by omega) (by omega); omega
theorem Many.stepE (h:Many c m V H (f :: r)) (hop:f.op=3) (hr:f.res=0) :
  ∃ V' H',Many c (eStep c m f).1 V' H' ((eStep c m f).2 :: r)∧Moved V H V' H' f (eStep c m f).2∧rank (eStep c m f).1 (eStep c m f).2 < rank m f:=by
 obtain ⟨p1,p2,p3,p4⟩:=h.pos
 have hsz:=h.size
 obtain ⟨op,pc,w,v,x,y,res⟩:=f
 simp only at hop hr
 subst hop hr
 obtain ⟨a1,a2,a3,a4,a5,a6⟩:=(h.ok _ (List.mem_cons_self ..)).e rfl rfl
 dsimp only at a1 a2 a3 a4 a5 a6
 have hpc:pc=0∨pc=1∨pc=2∨pc=3∨pc=4:=by omega
 rcases hpc with e | e | e | e | e <;> subst e
 ·rw [enq_1 h.inj,h.tail]
  refine ⟨V,H,h.same ⟨fun _ _=>?_,fun q=>by simp at q⟩ (fun g hg _ q1 q2=>by simp [Holds] at q2) (by simp [eGave,Holds]) (by simp [qGot,Holds]) (fun q=>by simp [Holds] at q),?_,?_⟩
  ·dsimp only
   exact ⟨by omega,by omega,fun _=>⟨by omega,by omega⟩,fun q=>by omega,fun q=>by omega,fun q=>by omega⟩
  ·constructor <;> simp [eGave,Holds]
  ·simp [rank,h.tail]
 ·obtain ⟨b1,b2⟩:=a3 (.inl rfl)
  obtain ⟨s1,s2,s3,s4⟩:=h.inj.seq' b1 (by omega)
  have hsr:=h.sq_range x
  have es:mLoad m (eSeq c x)=sq c m x:=by rw [s1]; rfl
  have d1:0≤x / c.i:=Int.ediv_nonneg (by omega) (by omega)
  have d2:x / c.i≤x:=Int.ediv_le_self _ (by omega)
  have hf:far (mLoad m (eSeq c x)) (eFree c x)=sq c m x - 2 * (x / c.i):=by rw [es,s3]; exact small_far (by omega) (by omega) (by omega) (by omega)
  by_cases q1:sq c m x=2 * (x / c.i)
  ·rw [enq_2 h.inj (by rw [es,s3]; exact q1)]
   refine ⟨V,H,h.same ⟨fun _ _=>?_,fun q=>by simp at q⟩ (fun g hg _ q1 q2=>by simp [Holds] at q2) (by simp [eGave,Holds]) (by simp [qGot,Holds]) (fun q=>by simp [Holds] at q),?_,?_⟩
   ·dsimp only
    exact ⟨by omega,by omega,fun _=>⟨by omega,by omega⟩,fun q=>by omega,fun q=>by omega,fun q=>by omega⟩
   ·constructor <;> simp [eGave,Holds]
   ·simp only [rank]; simp; split <;> omega
  ·by_cases q2:sq c m x < 2 * (x / c.i)
   ·rw [enq_2f h.inj (by rw [hf]; omega) (by rw [es,s3]; exact q1)]
    refine ⟨V,H,h.same ⟨fun _ q=>by simp at q,fun q=>by simp at q⟩ (fun g hg _ q1 q2=>by simp [Holds] at q2) (by simp [eGave,Holds]) (by simp [qGot,Holds]) (fun q=>by simp [Holds] at q),?_,?_⟩
    ·constructor <;> simp [eGave,Holds]
    ·simp [rank]; split <;> omega
   ·have e3:eStep c m ⟨3,1,w,v,x,y,0⟩=(m,⟨3,0,w,v,x,mLoad m (eSeq c x),0⟩):=by
     simp only [eStep,goes_e h.inj (show (0:Int)≤1 by omega) (show (1:Int) < 5 by omega)]
     rw [hf,es,s3]
     simp [q1,show ¬ (sq c m x - 2 * (x / c.i) < 0) by omega]
    rw [e3]
    refine ⟨V,H,h.same ⟨fun _ _=>?_,fun q=>by simp at q⟩ (fun g hg _ q1 q2=>by simp [Holds] at q2) (by simp [eGave,Holds]) (by simp [qGot,Holds]) (fun q=>by simp [Holds] at q),?_,?_⟩
    ·dsimp only
     exact ⟨by omega,by omega,fun q=>by omega,fun q=>by omega,fun q=>by omega,fun q=>by omega⟩
    ·constructor <;> simp [eGave,Holds]
    ·simp only [rank]
     simp
     split
     ·rename_i q3
      rw [h.tail] at q3
      subst q3
      have:=h.sq_tail
      omega
     ·omega
 ·obtain ⟨b1,b2⟩:=a3 (.inr rfl)
  have a4:=a4 rfl
  by_cases q:x=V.length
  ·rw [enq_3 h.inj (by simp [mCasB,h.inj.in_tail,h.tail,q])]
   refine ⟨_,_,h.claim rfl rfl rfl q ⟨rfl,rfl,rfl,rfl,rfl⟩,?_,?_⟩
   ·constructor <;> simp [eGave,Holds]
   ·simp [rank,h.tail,q]
  ·have q':mCasB m 5 x=false:=by simp [mCasB,h.tail]; intro _; omega
   rw [enq_3r h.inj q']
   refine ⟨V,H,h.same ⟨fun _ _=>?_,fun q=>by simp at q⟩ (fun g hg _ q1 q2=>by simp [Holds] at q2) (by simp [eGave,Holds]) (by simp [qGot,Holds]) (fun q=>by simp [Holds] at q),?_,?_⟩
   ·dsimp only
    exact ⟨by omega,by omega,fun q=>by omega,fun q=>by omega,fun q=>by omega,fun q=>by omega⟩
   ·constructor <;> simp [eGave,Holds]
   ·have:¬ (V.length:Int)=x:=fun e=>q e.symm
    simp [rank,h.tail,this]
 ·obtain ⟨b1,b2,b3,b4⟩:=a5 (.inl rfl)
  obtain ⟨s1,s2,s3,s4⟩:=h.inj.seq' b1 (by omega)
  rw [enq_4 h.inj,s2]
  refine ⟨_,_,h.write rfl rfl rfl ⟨rfl,rfl,rfl,rfl,rfl⟩,?_,?_⟩
  ·constructor <;> simp [eGave,Holds]
  ·simp [rank]
 ·obtain ⟨b1,b2,b3,b4⟩:=a5 (.inr rfl)
  obtain ⟨s1,s2,s3,s4⟩:=h.inj.seq' b1 (by omega)
  have d1:0≤x / c.i:=Int.ediv_nonneg (by omega) (by omega)
  have d2:x / c.i≤x:=Int.ediv_le_self _ (by omega)
  rw [enq_5 h.inj,s1,s3,show wrapU (2 * (x / c.i) + 1)=2 * (x / c.i) + 1 by rw [wrapU_eq]; omega]
  refine ⟨_,_,h.put rfl rfl rfl ⟨rfl,rfl,rfl⟩,?_,?_⟩
  ·constructor <;> simp [eGave,Holds]
  ·simp [rank]
theorem Many.stepQ (h:Many c m V H (f :: r)) (hop:f.op=4) (hr:f.res=0) :
  ∃ V' H',Many c (qStep c m f).1 V' H' ((qStep c m f).2 :: r)∧Moved V H V' H' f (qStep c m f).2∧rank (qStep c m f).1 (qStep c m f).2 < rank m f:=by
 obtain ⟨p1,p2,p3,p4⟩:=h.pos
 have hsz:=h.size
 have hle:=h.le
 obtain ⟨op,pc,w,v,x,y,res⟩:=f
 simp only at hop hr
 subst hop hr
 obtain ⟨a1,a2,a3,a4,a5,a6⟩:=(h.ok _ (List.mem_cons_self ..)).q rfl rfl
 dsimp only at a1 a2 a3 a4 a5 a6
 have hpc:pc=0∨pc=1∨pc=2∨pc=3∨pc=4:=by omega
 rcases hpc with e | e | e | e | e <;> subst e
 ·have e1:qStep c m ⟨4,0,w,v,x,y,0⟩=(m,⟨4,1,w,v,mLoad m 4,y,0⟩):=by simp [qStep,goes_q h.inj]
  rw [e1,h.head]
  refine ⟨V,H,h.same ⟨fun q=>by simp at q,fun _ _=>?_⟩ (fun g hg _ q1 q2=>by simp [Holds] at q2) (by simp [eGave,Holds]) (by simp [qGot,Holds]) (fun q=>by simp [Holds] at q),?_,?_⟩
  ·dsimp only
   exact ⟨by omega,by omega,fun _=>⟨by omega,by omega⟩,fun q=>by omega,fun q=>by omega,fun q=>by omega⟩
  ·constructor <;> simp [eGave,Holds]
  ·simp [rank,h.head]
 ·obtain ⟨b1,b2⟩:=a3 (.inl rfl)
  obtain ⟨s1,s2,s3,s4⟩:=h.inj.seq' b1 (by omega)
  have hsr:=h.sq_range x
  have es:mLoad m (eSeq c x)=sq c m x:=by rw [s1]; rfl
  have d1:0≤x / c.i:=Int.ediv_nonneg (by omega) (by omega)
  have d2:x / c.i≤x:=Int.ediv_le_self _ (by omega)
  have hf:far (mLoad m (eSeq c x)) (qFull c x)=sq c m x - (2 * (x / c.i) + 1):=by rw [es,s4]; exact small_far (by omega) (by omega) (by omega) (by omega)
  by_cases q1:sq c m x=2 * (x / c.i) + 1
  ·rw [deq_2 h.inj (by rw [hf]; omega)]
   refine ⟨V,H,h.same ⟨fun q=>by simp at q,fun _ _=>?_⟩ (fun g hg _ q1 q2=>by simp [Holds] at q2) (by simp [eGave,Holds]) (by simp [qGot,Holds]) (fun q=>by simp [Holds] at q),?_,?_⟩
   ·dsimp only
    exact ⟨by omega,by omega,fun _=>⟨by omega,by omega⟩,fun q=>by omega,fun q=>by omega,fun q=>by omega⟩
   ·constructor <;> simp [eGave,Holds]
   ·simp only [rank]; simp; split <;> omega
  ·by_cases q2:sq c m x < 2 * (x / c.i) + 1
   ·rw [deq_2e h.inj (by rw [hf]; omega)]
    refine ⟨V,H,h.same ⟨fun q=>by simp at q,fun _ q=>by simp at q⟩ (fun g hg _ q1 q2=>by simp [Holds] at q2) (by simp [eGave,Holds]) (by simp [qGot,Holds]) (fun q=>by simp [Holds] at q),?_,?_⟩
    ·constructor <;> simp [eGave,Holds]
    ·simp [rank]; split <;> omega
   ·have e3:qStep c m ⟨4,1,w,v,x,y,0⟩=(m,⟨4,0,w,v,x,mLoad m (eSeq c x),0⟩):=by
     unfold qFull at hf
     simp only [qStep,goes_q h.inj (show (0:Int)≤1 by omega) (show (1:Int) < 5 by omega)]
     rw [hf]
     simp [show ¬ (sq c m x - (2 * (x / c.i) + 1) < 0) by omega,show ¬ (sq c m x - (2 * (x / c.i) + 1)=0) by omega]
    rw [e3]
    refine ⟨V,H,h.same ⟨fun q=>by simp at q,fun _ _=>?_⟩ (fun g hg _ q1 q2=>by simp [Holds] at q2) (by simp [eGave,Holds]) (by simp [qGot,Holds]) (fun q=>by simp [Holds] at q),?_,?_⟩
    ·dsimp only
     exact ⟨by omega,by omega,fun q=>by omega,fun q=>by omega,fun q=>by omega,fun q=>by omega⟩
    ·constructor <;> simp [eGave,Holds]
    ·simp only [rank]
     simp
     split
     ·rename_i q3
      rw [h.head] at q3
      subst q3
      have:=h.sq_head
      omega
     ·omega
 ·obtain ⟨b1,b2⟩:=a3 (.inr rfl)
  have a4:=a4 rfl
  by_cases q:x=H
  ·rw [deq_3 h.inj (by simp [mCasB,h.inj.in_head,h.head,q])]
   refine ⟨_,_,h.take rfl rfl rfl q ⟨rfl,rfl,rfl,rfl⟩,?_,?_⟩
   ·constructor <;> simp [eGave,Holds,q]
   ·simp [rank,h.head,q]
  ·have q':mCasB m 4 x=false:=by simp [mCasB,h.head]; intro _; omega
   rw [deq_3r h.inj q']
   refine ⟨V,H,h.same ⟨fun q=>by simp at q,fun _ _=>?_⟩ (fun g hg _ q1 q2=>by simp [Holds] at q2) (by simp [eGave,Holds]) (by simp [qGot,Holds]) (fun q=>by simp [Holds] at q),?_,?_⟩
   ·dsimp only
    exact ⟨by omega,by omega,fun q=>by omega,fun q=>by omega,fun q=>by omega,fun q=>by omega⟩
   ·constructor <;> simp [eGave,Holds]
   ·have:¬ H=x:=fun e=>q e.symm
    simp [rank,h.head,this]
 ·obtain ⟨b1,b2,b3⟩:=a5 (.inl rfl)
  obtain ⟨s1,s2,s3,s4⟩:=h.inj.seq' b1 (by omega)
  have ev:mLoad m (eVal c x)=V.getD x.toNat 0:=by
   rw [s2]
   obtain ⟨x0,e,⟨g1,g2,g3⟩ | ⟨g0,g1,g2,g3,g4⟩⟩:=h.slot x
   ·omega
   ·have:=same_x e (by omega)
    subst this
    exact g4
  rw [deq_4 h.inj,ev]
  refine ⟨V,H,h.same ⟨fun q=>by simp at q,fun _ _=>?_⟩ (fun g hg d q1 q2 q3=>d q1 ⟨rfl,.inl rfl⟩ q3) (by simp [eGave,Holds]) (by simp [qGot,Holds]) (fun _=>⟨⟨rfl,.inr rfl⟩,rfl,rfl⟩),?_,?_⟩
  ·dsimp only
   exact ⟨by omega,by omega,fun q=>by omega,fun q=>by omega,fun _=>⟨b1,b2,b3⟩,fun _=>rfl⟩
  ·constructor <;> simp [eGave,Holds]
  ·simp [rank]
 ·obtain ⟨b1,b2,b3⟩:=a5 (.inr rfl)
  obtain ⟨s1,s2,s3,s4⟩:=h.inj.seq' b1 (by omega)
  have d1:0≤x / c.i:=Int.ediv_nonneg (by omega) (by omega)
  have d2:x / c.i≤x:=Int.ediv_le_self _ (by omega)
  rw [deq_5 h.inj,s1,s4,show wrapU (2 * (x / c.i) + 1 + 1)=2 * (x / c.i) + 2 by rw [wrapU_eq]; omega]
  refine ⟨_,_,h.gone rfl rfl rfl ⟨rfl,rfl,rfl⟩,?_,?_⟩
  ·have:=a6 rfl
   constructor <;> simp [eGave,Holds]
   exact ⟨b1,b2,this⟩
  ·simp [rank]
theorem Many.step (h:Many c m V H (f :: r)) :
  ∃ V' H',Many c (iStep c m f).1 V' H' ((iStep c m f).2 :: r)∧Moved V H V' H' f (iStep c m f).2∧(f.op=3∨f.op=4→f.res=0→rank (iStep c m f).1 (iStep c m f).2 < rank m f):=by
 by_cases h3:f.op=3
 ·have e:iStep c m f=eStep c m f:=by simp [iStep,h3]
  rw [e]
  by_cases hr:f.res=0
  ·obtain ⟨V',H',a,b,d⟩:=h.stepE h3 hr
   exact ⟨V',H',a,b,fun _ _=>d⟩
  ·rw [enq_over hr]; exact ⟨V,H,h,.refl ..,fun _ q=>absurd q hr⟩
 ·by_cases h4:f.op=4
  ·have e:iStep c m f=qStep c m f:=by simp [iStep,h4]
   rw [e]
   by_cases hr:f.res=0
   ·obtain ⟨V',H',a,b,d⟩:=h.stepQ h4 hr
    exact ⟨V',H',a,b,fun _ _=>d⟩
   ·rw [deq_over hr]; exact ⟨V,H,h,.refl ..,fun _ q=>absurd q hr⟩
  ·have e:iStep c m f=(m,f):=by simp [iStep,h3,h4]
   rw [e]
   exact ⟨V,H,h,.refl ..,fun q=>by omega⟩
end
end Go.Vai

/- A pool's injector, and who is at it. -/
namespace Go.Vai
open Go.RowKit
set_option maxHeartbeats 2000000
structure ISame (c:Cf) (m m':List Int):Prop where
 len:m'.length=m.length
 h:∀ j,4≤j→j < 6 + 2 * c.i→mLoad m' j=mLoad m j
theorem ISame.refl (c:Cf) (m:List Int):ISame c m m:=⟨rfl,fun _ _ _=>rfl⟩
theorem Many.msame {c:Cf} {m m' V:List Int} {H:Int} {fs:List Fr} (h:Many c m V H fs) (s:ISame c m m'):Many c m' V H fs:=by
 have hc:=mayC_iff.1 h.inj.may
 have hq:∀ x,sq c m' x=sq c m x:=fun x=>by
  unfold sq
  have a:=Int.emod_nonneg x (b:=c.i) (by omega)
  have b:=Int.emod_lt_of_pos x (b:=c.i) (by omega)
  exact s.h _ (by omega) (by omega)
 have hv:∀ x,vl c m' x=vl c m x:=fun x=>by
  unfold vl
  have a:=Int.emod_nonneg x (b:=c.i) (by omega)
  have b:=Int.emod_lt_of_pos x (b:=c.i) (by omega)
  exact s.h _ (by omega) (by omega)
 refine { inj:=⟨h.inj.may,by rw [s.len]; exact h.inj.len⟩,head:=by rw [s.h 4 (by omega) (by omega)]; exact h.head,tail:=by rw [s.h 5 (by omega) (by omega)]; exact h.tail,lo:=h.lo,le:=h.le,room:=h.room,few:=h.few,slot:=?_,ok:=?_,diff:=h.diff,gave:=h.gave,got:=h.got,heldE:=?_,heldQ:=?_ }
 ·intro k
  obtain ⟨x,e,k1⟩:=h.slot k
  refine ⟨x,e,?_⟩
  rw [hq,hv]; exact k1
 ·exact fun f hf=>(h.ok f hf).mono hq hv (Nat.le_refl _) (fun _ _=>rfl) h.le (Int.le_refl _)
 ·exact fun x h0 h1 h2=>h.heldE x h0 h1 (by rw [← hq]; exact h2)
 ·exact fun x h0 h1 h2=>h.heldQ x h0 h1 (by rw [← hq]; exact h2)
def Idle (g:Fr):Prop:=(g.op≠3∧g.op≠4)∨(g.pc=0∧g.res=0)
theorem idle_none:Idle noneF:=.inl ⟨by simp [noneF],by simp [noneF]⟩
theorem Idle.ok {c:Cf} {m V:List Int} {H:Int} {g:Fr} (h:Idle g):FOk c m V H g:=by
 rcases h with ⟨a,b⟩ | ⟨a,b⟩
 ·exact ⟨fun e=>absurd e a,fun e=>absurd e b⟩
 ·refine ⟨fun _ _=>?_,fun _ _=>?_⟩
  ·rw [a]; exact ⟨by decide,by decide,fun q=>by omega,fun q=>by omega,fun q=>by omega,fun q=>by omega⟩
  ·rw [a]; exact ⟨by decide,by decide,fun q=>by omega,fun q=>by omega,fun q=>by omega,fun q=>by omega⟩
theorem Idle.gave {g:Fr} (h:Idle g):eGave g=none:=by
 unfold eGave
 rw [if_neg]
 rintro ⟨e,q⟩
 rcases h with ⟨a,b⟩ | ⟨a,b⟩
 ·exact a e
 ·rcases q with q | q
  ·omega
  ·rcases q.2 with q | q <;> omega
theorem Idle.got {V:List Int} {g:Fr} (h:Idle g):qGot V g=none:=by
 unfold qGot
 rw [if_neg,if_neg]
 ·rintro ⟨e,q⟩
  rcases h with ⟨a,b⟩ | ⟨a,b⟩
  ·exact b e
  ·rcases q.2 with q | q <;> omega
 ·rintro ⟨e,q⟩
  rcases h with ⟨a,b⟩ | ⟨a,b⟩
  ·exact b e
  ·omega
theorem Idle.diff {g f:Fr} (h:Idle g):Diff g f:=by
 intro q h1 _ _
 rcases h with ⟨a,b⟩ | ⟨a,b⟩
 ·omega
 ·rcases h1.2 with e | e <;> omega
theorem Idle.held {g:Fr} (h:Idle g) {op x:Int} (ho:op=3∨op=4):¬ (g.op=op∧Holds g∧g.x=x):=by
 rintro ⟨e,q,_⟩
 rcases h with ⟨a,b⟩ | ⟨a,b⟩
 ·omega
 ·rcases q.2 with q | q <;> omega
theorem Many.add {c:Cf} {m V:List Int} {H:Int} {fs:List Fr} {g:Fr} (h:Many c m V H fs) (hg:Idle g) (hl:fs.length < 1000):Many c m V H (g :: fs) where
 inj:=h.inj
 head:=h.head
 tail:=h.tail
 lo:=h.lo
 le:=h.le
 room:=h.room
 few:=by rw [List.length_cons]; omega
 slot:=h.slot
 ok:=fun f hf=>by
  rcases List.mem_cons.1 hf with rfl | hf
  ·exact hg.ok
  ·exact h.ok f hf
 diff:=List.pairwise_cons.2 ⟨fun f _=>hg.diff,h.diff⟩
 gave:=by rw [List.filterMap_cons,hg.gave]; exact h.gave
 got:=by rw [List.filterMap_cons,hg.got]; exact h.got
 heldE:=fun x h0 h1 h2=>by obtain ⟨f,hf,e⟩:=h.heldE x h0 h1 h2; exact ⟨f,List.mem_cons_of_mem _ hf,e⟩
 heldQ:=fun x h0 h1 h2=>by obtain ⟨f,hf,e⟩:=h.heldQ x h0 h1 h2; exact ⟨f,List.mem_cons_of_mem _ hf,e⟩
theorem Many.turn {c:Cf} {m V:List Int} {H:Int} {r:List Fr} {f g:Fr} (h:Many c m V H (f :: r)) (hf:Idle f) (hg:Idle g):Many c m V H (g :: r) where
 inj:=h.inj
 head:=h.head
 tail:=h.tail
 lo:=h.lo
 le:=h.le
 room:=h.room
 few:=h.few
 slot:=h.slot
 ok:=fun k hk=>(List.mem_cons.1 hk).elim (fun e=>e ▸ hg.ok) (fun e=>h.ok k (by simp [e]))
 diff:=by
  have:=List.pairwise_cons.1 h.diff
  exact List.pairwise_cons.2 ⟨fun k hk=>hg.diff,this.2⟩
 gave:=by have:=h.gave; rw [List.filterMap_cons] at this ⊢; rw [hg.gave,← hf.gave]; exact this
 got:=by have:=h.got; rw [List.filterMap_cons] at this ⊢; rw [hg.got,← hf.got]; exact this
 heldE:=fun x h0 h1 h2=>held_not (hf.held (.inl rfl)) (h.heldE x h0 h1 h2)
 heldQ:=fun x h0 h1 h2=>held_not (hf.held (.inr rfl)) (h.heldQ x h0 h1 h2)
theorem perm_get {α:Type} (d:α):∀ {l:List α} {i:Nat},i < l.length→l.Perm (l.getD i d :: l.eraseIdx i)
 | x :: r,0,_=>List.Perm.refl _
 | x :: r,i + 1,h=>by
  have:=perm_get d (l:=r) (i:=i) (by simpa using h)
  rw [List.eraseIdx_cons_succ,List.getD_cons_succ]
  exact (this.cons x).trans (List.Perm.swap ..)
theorem perm_set {α:Type} {y:α}:∀ {l:List α} {i:Nat},i < l.length→(l.set i y).Perm (y :: l.eraseIdx i)
 | x :: r,0,_=>List.Perm.refl _
 | x :: r,i + 1,h=>by
  have:=perm_set (y:=y) (l:=r) (i:=i) (by simpa using h)
  rw [List.eraseIdx_cons_succ,List.set_cons_succ]
  exact (this.cons x).trans (List.Perm.swap ..)
structure IOk (c:Cf) (V:List Int) (H:Int) (m':List Int) (fs' hist':List Fr) (V':List Int) (H':Int):Prop where
 many:Many c m' V' H' (fs' ++ hist')
 h:H≤H'
 v:V.length≤V'.length
theorem inj_step {c:Cf} {m V:List Int} {H:Int} {A B hist:List Fr} {i:Nat} {f g:Fr} (h:Many c m V H ((A ++ B) ++ hist)) (hi:i < (A ++ B).length) (hf:(A ++ B).getD i noneF=f) (hl:(A ++ B).length + hist.length < 1000)
  (hg:g=(iStep c m f).2∨Idle g):∃ V' H' hist',IOk c V H (iStep c m f).1 ((A ++ B).set i g) hist' V' H'∧hist'.length≤hist.length + 1∧(V'.length=V.length∨Holds (iStep c m f).2∨(iStep c m f).2.res=1):=by
 generalize hF:A ++ B=F at *
 have h1:Many c m V H (f :: (F.eraseIdx i ++ hist)):=by
  refine h.perm ?_
  have:=perm_get noneF hi
  rw [hf] at this
  exact this.append_right hist
 obtain ⟨V',H',k1,k2,_⟩:=h1.step
 have hH:H≤H':=by rcases k2.h with e | e <;> omega
 have hV:V.length≤V'.length:=by
  rcases k2.v with e | ⟨e,_⟩
  ·rw [e]; exact Nat.le_refl _
  ·rw [e]; simp
 have hT:V'.length=V.length∨Holds (iStep c m f).2∨(iStep c m f).2.res=1:=by
  rcases k2.v with e | ⟨_,_,_,e⟩
  ·left; rw [e]
  ·right
   unfold eGave at e
   split at e
   ·rename_i q
    rcases q.2 with q | q
    ·exact .inr q
    ·exact .inl q
   ·cases e
 by_cases e:g=(iStep c m f).2
 ·refine ⟨V',H',hist,⟨k1.perm ?_,hH,hV⟩,by omega,hT⟩
  rw [e]
  exact ((perm_set hi).append_right hist).symm
 ·have hg':=hg.resolve_left e
  refine ⟨V',H',(iStep c m f).2 :: hist,⟨(k1.add hg' (by
   rw [List.length_cons,List.length_append]
   have:=List.length_eraseIdx_of_lt hi
   omega)).perm ?_,hH,hV⟩,by simp,hT⟩
  have p1:=((perm_set (y:=g) hi).append_right ((iStep c m f).2 :: hist)).symm
  refine List.Perm.trans ?_ p1
  rw [List.cons_append]
  refine List.Perm.cons g ?_
  exact List.perm_middle.symm
theorem inj_turn {c:Cf} {m m' V:List Int} {H:Int} {F hist:List Fr} {i:Nat} {g:Fr} (h:Many c m V H (F ++ hist)) (s:ISame c m m') (hi:i < F.length) (hf:Idle (F.getD i noneF)) (hg:Idle g) :
  IOk c V H m' (F.set i g) hist V H:=by
 have h1:Many c m V H (F.getD i noneF :: (F.eraseIdx i ++ hist)):=h.perm ((perm_get noneF hi).append_right hist)
 exact ⟨((h1.turn hf hg).msame s).perm ((perm_set hi).append_right hist).symm,Int.le_refl _,Nat.le_refl _⟩
end Go.Vai

/- Who must still look, or is woken: a worker's step. -/
namespace Go.Vai
open Go.RowKit
set_option maxHeartbeats 2000000
def epo (e:Int):Nat:=e.toNat / 65536
theorem wEpoch_epo {e:Int} (h:InU e):wEpoch e=(epo e:Int):=by
 unfold wEpoch wShr epo
 show e.fdiv (2 ^ (min (16:Int).toNat 64))=_
 have e1:min (16:Int).toNat 64=16:=rfl
 rw [e1]
 unfold InU at h
 rw [Int.fdiv_eq_ediv_of_nonneg _ (by decide)]
 omega
theorem epo_set {e:Int} (h:InU e) {k:Nat} (hk:k < 16):epo (wSet e k)=epo e:=by
 unfold wSet epo
 rw [if_pos (by omega),wShl_pow hk,wOr_nat h (pow_u hk),Int.toNat_natCast,Int.toNat_natCast]
 have h1:(65536:Nat)=2 ^ 16:=rfl
 rw [h1,Nat.or_div_two_pow]
 have h2:2 ^ k / 2 ^ 16=0:=Nat.div_eq_of_lt (Nat.pow_lt_pow_right (by decide) hk)
 rw [h2,Nat.or_zero]
theorem epo_bump {e:Int} (h:InU e) (hs:epo e < 100000):epo (wBump e)=epo e + 1:=by
 have hm:=mask_lt h
 have um:InU (wMask e):=by unfold InU; omega
 have hm1:InU (wrapU (wMask e - 1)):=wrapU_u _
 have ha:InU (wAnd (wMask e) (wrapU (wMask e - 1))):=wAnd_u um hm1
 have hp:wrapU (wEpoch e + 1)=((epo e + 1:Nat):Int):=by rw [wEpoch_epo h,wrapU_eq]; omega
 unfold wBump wPack
 rw [hp]
 have hsh:wShl ((epo e + 1:Nat):Int) 16=(((epo e + 1) * 65536:Nat):Int):=by
  unfold wShl
  show wrapU (((epo e + 1:Nat):Int) * 2 ^ (min (16:Int).toNat 64))=_
  have e1:min (16:Int).toNat 64=16:=rfl
  rw [e1,wrapU_eq]; omega
 rw [hsh]
 have u1:InU (((epo e + 1) * 65536:Nat):Int):=by unfold InU; omega
 have u2:InU (wAnd (wAnd (wMask e) (wrapU (wMask e - 1))) 65535):=wAnd_u ha u65535
 have l2:0≤wAnd (wAnd (wMask e) (wrapU (wMask e - 1))) 65535∧wAnd (wAnd (wMask e) (wrapU (wMask e - 1))) 65535 < 65536:=mask_lt ha
 generalize wAnd (wAnd (wMask e) (wrapU (wMask e - 1))) 65535=q at *
 have hq:q.toNat < 65536:=by omega
 show (wOr (((epo e + 1) * 65536:Nat):Int) q).toNat / 65536=epo e + 1
 rw [wOr_nat u1 u2,Int.toNat_natCast,Int.toNat_natCast]
 have h1:(65536:Nat)=2 ^ 16:=rfl
 rw [h1,Nat.or_div_two_pow]
 have h3:q.toNat / 2 ^ 16=0:=Nat.div_eq_of_lt hq
 rw [h3,Nat.or_zero]
 omega
def RespW (c:Cf) (m:List Int) (i:Nat) (x:Wk):Prop:=
 (x.pc≠7∧x.pc≠8)∨(x.pc=7∧x.look=0)∨(x.pc=7∧x.look=1∧x.f.val≠mLoad m 5)∨((x.pc=7∨x.pc=8∧x.f.pc≤2)∧epo x.f.x < epo (mLoad m 2))∨(x.pc=8∧3≤x.f.pc∧parked c m i=true)
structure WE (m:List Int) (x:Wk):Prop where
 fx:x.pc=6∨x.pc=7∨x.pc=8→epo x.f.x≤epo (mLoad m 2)
 fy:x.pc=8→x.f.pc=2→epo x.f.y=epo x.f.x
 lo:x.pc=7→0≤x.look
 v:x.pc=7→x.look=1→x.f.val≤mLoad m 4
structure WC (c:Cf) (m:List Int) (i:Nat) (x:Wk) (m':List Int) (x':Wk):Prop where
 one:mLoad m' 1 + (seeks x).toNat=mLoad m 1 + (seeks x').toNat
 ep:epo (mLoad m 2)≤epo (mLoad m' 2)∧epo (mLoad m' 2)≤epo (mLoad m 2) + 1
 we:epo (mLoad m 2)≤epo (mLoad m' 2)→mLoad m 4≤mLoad m' 4→WE m' x'
 act:x.pc≠7→x.pc≠8→RespW c m' i x'
 same:x.pc=7∨x.pc=8→mLoad m' 4=mLoad m 4∧mLoad m' 5=mLoad m 5
 look:x.pc=7∨x.pc=8→RespW c m i x→mLoad m 4=mLoad m 5∨RespW c m' i x'
structure WCh (c:Cf) (m:List Int) (i:Nat) (x:Wk):Prop where
 mi:MI c m
 wi:WI c i x
 wr:WRw x
 we:WE m x
 iw:(i:Int) < c.w
 one:(seeks x).toNat≤mLoad m 1∧mLoad m 1≤100
 ep:epo (mLoad m 2) < 100000
 le:mLoad m 4≤mLoad m 5
theorem seeks_no {x:Wk} (h2:x.pc≠2) (h3:x.pc≠3) (h4:x.pc≠4) (h5:x.pc≠5) (h6:x.pc≠6):seeks x=false:=by simp [seeks,h2,h3,h4,h5,h6]
theorem seeks_yes {x:Wk} (h:x.pc=2∨x.pc=3∨x.pc=4∨x.pc=5∨x.pc=6):seeks x=true:=by
 rcases h with h | h | h | h | h <;> simp [seeks,h]
theorem WE.none {m:List Int} {x:Wk} (h6:x.pc≠6) (h7:x.pc≠7) (h8:x.pc≠8):WE m x:=⟨fun q=>by omega,fun q=>by omega,fun q=>by omega,fun q=>by omega⟩
section
variable {c : Cf} {t : List Tk} {m : List Int} {i : Nat} {x : Wk}
theorem WCh.go (h:WCh c m i x) {m':List Int} {x':Wk} (h1:mLoad m' 1 + (seeks x).toNat=mLoad m 1 + (seeks x').toNat) (h2:mLoad m' 2=mLoad m 2) (n7:x.pc≠7) (n8:x.pc≠8) (p6:x'.pc≠6) (p7:x'.pc≠7) (p8:x'.pc≠8):WC c m i x m' x' where
 one:=h1
 ep:=by rw [h2]; omega
 we:=fun _ _=>WE.none p6 p7 p8
 act:=fun _ _=>.inl ⟨p7,p8⟩
 same:=fun q=>by omega
 look:=fun q=>by omega
theorem add_1 {c:Cf} {m:List Int} (h:MI c m) (v:Int):mLoad (mAdd m 1 v) 1=wrapU (mLoad m 1 + v):=by
 have l0:Lay c m 0:=⟨h.may,h.len,Int.le_refl _,by have:=mayC_iff.1 h.may; omega⟩
 have:=l0.base
 have hd:=l0.dpos
 exact load_store (by simp [isIn]; omega) _
theorem wc_inc (h:WCh c m i x):mLoad (mAdd m 1 1) 1=mLoad m 1 + 1:=by rw [add_1 h.mi,wrapU_eq]; have:=h.one; omega
theorem wc_dec (h:WCh c m i x) (hs:seeks x=true):mLoad (mAdd m 1 less) 1=mLoad m 1 - 1:=by
 rw [add_1 h.mi,wrapU_eq]
 have:=h.one
 rw [hs] at this
 simp at this
 unfold less
 omega
theorem dq_cell {c:Cf} {m:List Int} {f:Fr} {j:Int} (h0:0≤j) (h:j < 8):mLoad (dqStep c m f).1 j=mLoad m j:=by
 refine dq_only (.inl ?_) (.inl ?_) (fun x=>.inl ?_)
 ·rcases top_low (c:=c) (w:=f.who) with e | e <;> omega
 ·rcases bot_low (c:=c) (w:=f.who) with e | e <;> omega
 ·rcases slot_low (c:=c) (w:=f.who) (x:=x) with e | e <;> omega
theorem ev_cell {c:Cf} {m:List Int} {f:Fr} {j:Int} (h0:0≤j) (h2:j≠2) (h:j < 10):mLoad (evStep c m f).1 j=mLoad m j:=
 ev_only h2 (fun w=>.inl (by rcases park_low (c:=c) (w:=w) with e | e <;> omega))
theorem wcN (h:WCh c m i x):WC c m i x m x:=
 ⟨rfl,⟨Nat.le_refl _,Nat.le_succ _⟩,fun _ _=>h.we,fun a b=>.inl ⟨a,b⟩,fun _=>⟨rfl,rfl⟩,fun _ q=>.inr q⟩
theorem wc0 (d:Int) (h:WCh c m i x) (hp:x.pc=0):WC c m i x (wq0 c t m i x d).1 (wq0 c t m i x d).2.1:=by
 have c1:mLoad (dqStep c m x.f).1 1=mLoad m 1:=dq_cell (by decide) (by decide)
 have c2:mLoad (dqStep c m x.f).1 2=mLoad m 2:=dq_cell (by decide) (by decide)
 have s0:seeks x=false:=seeks_no (by omega) (by omega) (by omega) (by omega) (by omega)
 unfold wq0
 dsimp only
 repeat' split
 ·exact h.go (by rw [c1,s0,seeks_no (x:=atF x _) (by simp [atF]; omega) (by simp [atF]; omega) (by simp [atF]; omega) (by simp [atF]; omega) (by simp [atF]; omega)]) c2 (by omega) (by omega) (by simp [atF]; omega) (by simp [atF]; omega) (by simp [atF]; omega)
 ·exact h.go (by rw [show (stW t i (dqStep c m x.f).1 (toW x 9) (dqStep c m x.f).2.val).1=(dqStep c m x.f).1 from rfl,c1,s0,seeks_no (by simp [stW,toW]) (by simp [stW,toW]) (by simp [stW,toW]) (by simp [stW,toW]) (by simp [stW,toW])]) c2 (by omega) (by omega) (by simp [stW,toW]) (by simp [stW,toW]) (by simp [stW,toW])
 ·exact h.go (by rw [c1,s0,seeks_no (by simp [toW]) (by simp [toW]) (by simp [toW]) (by simp [toW]) (by simp [toW])]) c2 (by omega) (by omega) (by simp [toW]) (by simp [toW]) (by simp [toW])
theorem wc1 (d:Int) (h:WCh c m i x) (hp:x.pc=1):WC c m i x (wq1 c t m i x d).1 (wq1 c t m i x d).2.1:=by
 have s0:seeks x=false:=seeks_no (by omega) (by omega) (by omega) (by omega) (by omega)
 unfold wq1
 refine h.go ?_ (load_other (by decide) _) (by omega) (by omega) (by simp) (by simp) (by simp)
 dsimp only
 rw [wc_inc h,s0,seeks_yes (.inl rfl)]
 simp
theorem wc2 (d:Int) (h:WCh c m i x) (hp:x.pc=2):WC c m i x (wq2 c t m i x d).1 (wq2 c t m i x d).2.1:=by
 have c1:mLoad (iStep c m x.f).1 1=mLoad m 1:=i_only h.mi.may h.wi.u (.inl (by decide))
 have c2:mLoad (iStep c m x.f).1 2=mLoad m 2:=i_only h.mi.may h.wi.u (.inl (by decide))
 have s0:seeks x=true:=seeks_yes (.inl hp)
 unfold wq2
 dsimp only
 repeat' split
 ·exact h.go (by rw [c1,s0,seeks_yes (x:=atF x _) (.inl (by simp [atF]; exact hp))]) c2 (by omega) (by omega) (by simp [atF]; omega) (by simp [atF]; omega) (by simp [atF]; omega)
 ·exact h.go (by rw [c1,s0,seeks_yes (by simp)]) c2 (by omega) (by omega) (by simp) (by simp) (by simp)
 ·exact h.go (by rw [c1,s0,seeks_yes (by simp [withW])]) c2 (by omega) (by omega) (by simp [withW]) (by simp [withW]) (by simp [withW])
 ·exact h.go (by rw [c1,s0,seeks_yes (by simp [withW])]) c2 (by omega) (by omega) (by simp [withW]) (by simp [withW]) (by simp [withW])
 ·exact h.go (by rw [c1,s0,seeks_yes (by simp)]) c2 (by omega) (by omega) (by simp) (by simp) (by simp)
theorem wc3 (d:Int) (h:WCh c m i x) (hp:x.pc=3):WC c m i x (wq3 c t m i x d).1 (wq3 c t m i x d).2.1:=by
 have c1:mLoad (dqStep c m x.f).1 1=mLoad m 1:=dq_cell (by decide) (by decide)
 have c2:mLoad (dqStep c m x.f).1 2=mLoad m 2:=dq_cell (by decide) (by decide)
 have s0:seeks x=true:=seeks_yes (.inr (.inl hp))
 unfold wq3
 dsimp only
 repeat' split
 ·exact h.go (by rw [c1,s0,seeks_yes (x:=atF x _) (.inr (.inl (by simp [atF]; exact hp)))]) c2 (by omega) (by omega) (by simp [atF]; omega) (by simp [atF]; omega) (by simp [atF]; omega)
 ·exact h.go (by rw [c1,s0,seeks_yes (by simp)]) c2 (by omega) (by omega) (by simp) (by simp) (by simp)
 ·exact h.go (by rw [c1,s0,seeks_yes (by simp [withW])]) c2 (by omega) (by omega) (by simp [withW]) (by simp [withW]) (by simp [withW])
 ·exact h.go (by rw [c1,s0,seeks_yes (by simp)]) c2 (by omega) (by omega) (by simp) (by simp) (by simp)
theorem wc4 (d:Int) (h:WCh c m i x) (hp:x.pc=4):WC c m i x (wq4 c t m i x d).1 (wq4 c t m i x d).2.1:=by
 have s0:seeks x=true:=seeks_yes (by omega)
 have c1:=wc_dec h s0
 have c2:mLoad (mAdd m 1 less) 2=mLoad m 2:=load_other (by decide) _
 unfold wq4
 split
 ·refine h.go ?_ c2 (by omega) (by omega) (by simp [stW,withW]) (by simp [stW,withW]) (by simp [stW,withW])
  rw [seeks_no (x:=(stW t i (mAdd m 1 less) (withW x 14 6 i 0) x.f.val).2.1) (by simp [stW,withW]) (by simp [stW,withW]) (by simp [stW,withW]) (by simp [stW,withW]) (by simp [stW,withW]),s0]
  show mLoad (mAdd m 1 less) 1 + _=_
  rw [c1]; simp
 ·refine h.go ?_ c2 (by omega) (by omega) (by simp [stW,toW]) (by simp [stW,toW]) (by simp [stW,toW])
  rw [seeks_no (x:=(stW t i (mAdd m 1 less) (toW x 9) x.f.val).2.1) (by simp [stW,toW]) (by simp [stW,toW]) (by simp [stW,toW]) (by simp [stW,toW]) (by simp [stW,toW]),s0]
  show mLoad (mAdd m 1 less) 1 + _=_
  rw [c1]; simp
theorem wc9 (d:Int) (h:WCh c m i x) (hp:x.pc=9):WC c m i x (wq9 c t m i x d).1 (wq9 c t m i x d).2.1:=by
 have s0:seeks x=false:=seeks_no (by omega) (by omega) (by omega) (by omega) (by omega)
 unfold wq9
 dsimp only
 repeat' split
 ·exact h.go (by rw [s0,seeks_no (by simp) (by simp) (by simp) (by simp) (by simp)]) rfl (by omega) (by omega) (by simp) (by simp) (by simp)
 ·exact h.go (by rw [s0,seeks_no (by simp) (by simp) (by simp) (by simp) (by simp)]) rfl (by omega) (by omega) (by simp) (by simp) (by simp)
 ·exact h.go (by rw [s0,seeks_no (by simp) (by simp) (by simp) (by simp) (by simp)]) rfl (by omega) (by omega) (by simp) (by simp) (by simp)
 ·exact h.go (by rw [s0,seeks_no (by simp [withW]) (by simp [withW]) (by simp [withW]) (by simp [withW]) (by simp [withW])]) rfl (by omega) (by omega) (by simp [withW]) (by simp [withW]) (by simp [withW])
theorem wc10 (d:Int) (h:WCh c m i x) (hp:x.pc=10):WC c m i x (wq10 c t m i x d).1 (wq10 c t m i x d).2.1:=by
 have s0:seeks x=false:=seeks_no (by omega) (by omega) (by omega) (by omega) (by omega)
 have c1:mLoad (mAdd m 0 1) 1=mLoad m 1:=load_other (by decide) _
 unfold wq10
 dsimp only
 split
 ·exact h.go (by rw [c1,s0,seeks_no (by simp) (by simp) (by simp) (by simp) (by simp)]) (load_other (by decide) _) (by omega) (by omega) (by simp) (by simp) (by simp)
 ·exact h.go (by rw [s0,seeks_no (by simp [toW]) (by simp [toW]) (by simp [toW]) (by simp [toW]) (by simp [toW])]) rfl (by omega) (by omega) (by simp [toW]) (by simp [toW]) (by simp [toW])
theorem wc11 (d:Int) (h:WCh c m i x) (hp:x.pc=11):WC c m i x (wq11 c t m i x d).1 (wq11 c t m i x d).2.1:=by
 have c1:mLoad (dqStep c m x.f).1 1=mLoad m 1:=dq_cell (by decide) (by decide)
 have c2:mLoad (dqStep c m x.f).1 2=mLoad m 2:=dq_cell (by decide) (by decide)
 have s0:seeks x=false:=seeks_no (by omega) (by omega) (by omega) (by omega) (by omega)
 unfold wq11
 dsimp only
 repeat' split
 ·exact h.go (by rw [c1,s0,seeks_no (x:=atF x _) (by simp [atF]; omega) (by simp [atF]; omega) (by simp [atF]; omega) (by simp [atF]; omega) (by simp [atF]; omega)]) c2 (by omega) (by omega) (by simp [atF]; omega) (by simp [atF]; omega) (by simp [atF]; omega)
 ·exact h.go (by rw [c1,s0,seeks_no (by simp [withW]) (by simp [withW]) (by simp [withW]) (by simp [withW]) (by simp [withW])]) c2 (by omega) (by omega) (by simp [withW]) (by simp [withW]) (by simp [withW])
 ·exact h.go (by rw [c1,s0,seeks_no (by simp [toW]) (by simp [toW]) (by simp [toW]) (by simp [toW]) (by simp [toW])]) c2 (by omega) (by omega) (by simp [toW]) (by simp [toW]) (by simp [toW])
theorem wc12 (d:Int) (h:WCh c m i x) (hp:x.pc=12):WC c m i x (wq12 c t m i x d).1 (wq12 c t m i x d).2.1:=by
 have c1:mLoad (iStep c m x.f).1 1=mLoad m 1:=i_only h.mi.may h.wi.u (.inl (by decide))
 have c2:mLoad (iStep c m x.f).1 2=mLoad m 2:=i_only h.mi.may h.wi.u (.inl (by decide))
 have s0:seeks x=false:=seeks_no (by omega) (by omega) (by omega) (by omega) (by omega)
 unfold wq12
 dsimp only
 repeat' split
 ·exact h.go (by rw [c1,s0,seeks_no (x:=atF x _) (by simp [atF]; omega) (by simp [atF]; omega) (by simp [atF]; omega) (by simp [atF]; omega) (by simp [atF]; omega)]) c2 (by omega) (by omega) (by simp [atF]; omega) (by simp [atF]; omega) (by simp [atF]; omega)
 ·exact h.go (by rw [show (stW t i (iStep c m x.f).1 (toW x 9) (iStep c m x.f).2.val).1=(iStep c m x.f).1 from rfl,c1,s0,seeks_no (by simp [stW,toW]) (by simp [stW,toW]) (by simp [stW,toW]) (by simp [stW,toW]) (by simp [stW,toW])]) c2 (by omega) (by omega) (by simp [stW,toW]) (by simp [stW,toW]) (by simp [stW,toW])
 ·exact h.go (by rw [c1,s0,seeks_no (by simp [toW]) (by simp [toW]) (by simp [toW]) (by simp [toW]) (by simp [toW])]) c2 (by omega) (by omega) (by simp [toW]) (by simp [toW]) (by simp [toW])
theorem wc13 (d:Int) (h:WCh c m i x) (hp:x.pc=13):WC c m i x (wq13 c t m i x d).1 (wq13 c t m i x d).2.1:=by
 have s0:seeks x=false:=seeks_no (by omega) (by omega) (by omega) (by omega) (by omega)
 unfold wq13
 split
 ·exact h.go (by rw [s0,seeks_no (by simp [withW]) (by simp [withW]) (by simp [withW]) (by simp [withW]) (by simp [withW])]) rfl (by omega) (by omega) (by simp [withW]) (by simp [withW]) (by simp [withW])
 ·exact h.go (by rw [s0,seeks_no (by simp [toW]) (by simp [toW]) (by simp [toW]) (by simp [toW]) (by simp [toW])]) rfl (by omega) (by omega) (by simp [toW]) (by simp [toW]) (by simp [toW])
theorem wc15 (d:Int) (h:WCh c m i x) (hp:x.pc=15):WC c m i x (wq15 c t m i x d).1 (wq15 c t m i x d).2.1:=by
 have s0:seeks x=false:=seeks_no (by omega) (by omega) (by omega) (by omega) (by omega)
 have c1:mLoad (mAdd m 0 less) 1=mLoad m 1:=load_other (by decide) _
 have c2:mLoad (mAdd m 0 less) 2=mLoad m 2:=load_other (by decide) _
 unfold wq15
 dsimp only
 split
 ·split
  ·exact h.go (by rw [c1,s0,seeks_no (by simp) (by simp) (by simp) (by simp) (by simp)]) c2 (by omega) (by omega) (by simp) (by simp) (by simp)
  ·exact h.go (by rw [c1,s0,seeks_no (by simp) (by simp) (by simp) (by simp) (by simp)]) c2 (by omega) (by omega) (by simp) (by simp) (by simp)
 ·exact h.go (by rw [s0,seeks_no (by simp [toW]) (by simp [toW]) (by simp [toW]) (by simp [toW]) (by simp [toW])]) rfl (by omega) (by omega) (by simp [toW]) (by simp [toW]) (by simp [toW])
end
end Go.Vai

/- Who must still look, or is woken: the steps of waiting; all steps of a worker. -/
namespace Go.Vai
open Go.RowKit
set_option maxHeartbeats 2000000
section
variable {c : Cf} {t : List Tk} {m : List Int} {i : Nat} {x : Wk}
theorem wc5 (d:Int) (h:WCh c m i x) (hp:x.pc=5):WC c m i x (wq5 c t m i x d).1 (wq5 c t m i x d).2.1:=by
 obtain ⟨b1,b2,b3,b4⟩:=h.wi.p5 (.inl hp)
 have b0:=h.wi.p55 hp
 have bop:x.f.op=5:=h.wi.op.2.2.2.1 hp
 have hl:Lay c m x.f.who:=⟨h.mi.may,h.mi.len,by omega,by rw [b4]; exact h.iw⟩
 have hg:goes c m x.f 5 5=true:=goes_iff.2 ⟨hl,b3,bop,b1,by omega⟩
 have e:evStep c m x.f=(m,⟨x.f.op,1,x.f.who,x.f.val,mLoad m 2,x.f.y,x.f.res⟩):=by
  unfold evStep
  rw [if_pos bop]
  unfold waStep
  rw [if_pos hg,if_pos b0]
 unfold wq5
 dsimp only
 rw [e]
 refine ⟨?_,⟨Nat.le_refl _,Nat.le_succ _⟩,fun _ _=>⟨fun _=>Nat.le_refl _,fun q=>by simp at q,fun q=>by simp at q,fun q=>by simp at q⟩,fun _ _=>.inl ⟨by simp,by simp⟩,fun q=>by omega,fun q=>by omega⟩
 rw [seeks_yes (x:=x) (by omega),seeks_yes (by simp)]
theorem wc6 (d:Int) (h:WCh c m i x) (hp:x.pc=6):WC c m i x (wq6 c t m i x d).1 (wq6 c t m i x d).2.1:=by
 have s0:seeks x=true:=seeks_yes (by omega)
 have c1:=wc_dec h s0
 have c2:mLoad (mAdd m 1 less) 2=mLoad m 2:=load_other (by decide) _
 have hx:=h.we.fx (.inl hp)
 unfold wq6
 dsimp only
 refine ⟨?_,by rw [c2]; omega,fun _ _=>⟨fun _=>by rw [c2]; exact hx,fun q=>by simp at q,fun _=>by simp,fun _ q=>by simp at q⟩,fun _ _=>.inr (.inl ⟨rfl,rfl⟩),fun q=>by omega,fun q=>by omega⟩
 rw [c1,s0,seeks_no (by simp) (by simp) (by simp) (by simp) (by simp)]
 simp
theorem wc7 (d:Int) (h:WCh c m i x) (hp:x.pc=7):WC c m i x (wq7 c t m i x d).1 (wq7 c t m i x d).2.1:=by
 have s0:seeks x=false:=seeks_no (by omega) (by omega) (by omega) (by omega) (by omega)
 have hx:=h.we.fx (.inr (.inl hp))
 have hlo:=h.we.lo hp
 have hv:=h.we.v hp
 have h1:=h.wr.p67 (.inr hp)
 have hle:=h.le
 have hw:1≤c.w:=(mayC_iff.1 h.mi.may).1
 have stale:∀ x':Wk,(x'.pc=7∨x'.pc=8∧x'.f.pc≤2)→x'.f.x=x.f.x→epo x.f.x < epo (mLoad m 2)→RespW c m i x':=fun x' p q r=>.inr (.inr (.inr (.inl ⟨p,by rw [q]; exact r⟩)))
 have to1:WC c m i x m (toW x 1):=⟨by rw [s0,seeks_no (by simp [toW]) (by simp [toW]) (by simp [toW]) (by simp [toW]) (by simp [toW])],⟨Nat.le_refl _,Nat.le_succ _⟩,fun _ _=>WE.none (by simp [toW]) (by simp [toW]) (by simp [toW]),fun q=>by omega,fun _=>⟨rfl,rfl⟩,fun _ _=>.inr (.inl ⟨by simp [toW],by simp [toW]⟩)⟩
 have to8:x.look≠0→x.look≠1→WC c m i x m ⟨8,x.stack,fVal x.f 0,x.spins,0⟩:=fun l0 l1=>
  ⟨by rw [s0,seeks_no (by simp) (by simp) (by simp) (by simp) (by simp)],⟨Nat.le_refl _,Nat.le_succ _⟩,fun _ _=>⟨fun _=>hx,fun _ q=>by simp [fVal] at q; omega,fun q=>by simp at q,fun q=>by simp at q⟩,fun q=>by omega,fun _=>⟨rfl,rfl⟩,fun _ r=>by
   rcases r with ⟨a,_⟩ | ⟨_,a⟩ | ⟨_,a,_⟩ | ⟨_,a⟩ | ⟨a,_⟩
   ·exact absurd hp a
   ·exact absurd a l0
   ·exact absurd a l1
   ·exact .inr (stale _ (.inr ⟨rfl,by simp [fVal]; omega⟩) rfl a)
   ·omega⟩
 unfold wq7
 split
 ·rename_i q
  exact to8 (by omega) (by omega)
 ·rename_i q
  split
  ·exact to1
  ·rename_i q2
   split
   ·exact to8 (by omega) (by omega)
   ·refine ⟨by rw [s0,seeks_no (by simp) (by simp) (by simp) (by simp) (by simp)],⟨Nat.le_refl _,Nat.le_succ _⟩,fun _ _=>⟨fun _=>hx,fun q=>by simp at q,fun _=>by dsimp only; omega,fun _ e=>?_⟩,fun q=>by omega,fun _=>⟨rfl,rfl⟩,fun _ r=>?_⟩
    ·dsimp only at e ⊢
     have:x.look=0:=by omega
     simp only [fVal,againW,this,if_true]
     exact Int.le_refl _
    ·rcases r with ⟨a,_⟩ | ⟨_,a⟩ | ⟨_,a,b⟩ | ⟨_,a⟩ | ⟨a,_⟩
     ·exact absurd hp a
     ·by_cases e:mLoad m 4=mLoad m 5
      ·exact .inl e
      ·refine .inr (.inr (.inr (.inl ⟨rfl,by dsimp only; omega,?_⟩)))
       simp only [fVal,againW,a,if_true]
       exact e
     ·exfalso
      apply q2
      unfold againW
      rw [a,if_neg (by decide),if_pos rfl]
      simp
      exact fun e=>b e.symm
     ·exact .inr (stale _ (.inl rfl) rfl a)
     ·omega
theorem wc8 (d:Int) (h:WCh c m i x) (hp:x.pc=8):WC c m i x (wq8 c t m i x d).1 (wq8 c t m i x d).2.1:=by
 have s0:seeks x=false:=seeks_no (by omega) (by omega) (by omega) (by omega) (by omega)
 have hx:=h.we.fx (.inr (.inr hp))
 have hy:=h.we.fy hp
 obtain ⟨b1,b2,b3,b4⟩:=h.wi.p8 hp
 have b5:=h.wr.p8 hp
 have bop:x.f.op=5:=h.wi.op.2.2.2.2.2.2.1 hp
 have hl:Lay c m x.f.who:=⟨h.mi.may,h.mi.len,by omega,by rw [b4]; exact h.iw⟩
 have hg:goes c m x.f 5 5=true:=goes_iff.2 ⟨hl,b3,bop,b1,by omega⟩
 obtain ⟨uv,ux,uy⟩:=h.wi.u
 have hw8:=h.mi.w8
 have hi8:=h.iw
 have c4:mLoad (evStep c m x.f).1 4=mLoad m 4:=ev_cell (by decide) (by decide) (by decide)
 have c5:mLoad (evStep c m x.f).1 5=mLoad m 5:=ev_cell (by decide) (by decide) (by decide)
 have c1:mLoad (evStep c m x.f).1 1=mLoad m 1:=ev_cell (by decide) (by decide) (by decide)
 have s1:∀ f,seeks (atF x f)=false:=fun f=>seeks_no (by simp [atF]; omega) (by simp [atF]; omega) (by simp [atF]; omega) (by simp [atF]; omega) (by simp [atF]; omega)
 have s2:seeks (toW x 1)=false:=seeks_no (by simp [toW]) (by simp [toW]) (by simp [toW]) (by simp [toW]) (by simp [toW])
 -- what is common to all its ends
 have fin:∀ (x':Wk),(evStep c m x.f).2.res=0∧x'=atF x (evStep c m x.f).2∨x'=toW x 1→epo (mLoad (evStep c m x.f).1 2)=epo (mLoad m 2)→WE (evStep c m x.f).1 x'→(RespW c m i x→RespW c (evStep c m x.f).1 i x')→WC c m i x (evStep c m x.f).1 x':=by
  intro x' hx' he hwe hr
  refine ⟨?_,by rw [he]; omega,fun _ _=>hwe,fun _ q=>absurd hp q,fun _=>⟨c4,c5⟩,fun _ r=>.inr (hr r)⟩
  have:seeks x'=false:=by
   rcases hx' with ⟨_,e⟩ | e
   ·rw [e]; exact s1 _
   ·rw [e]; exact s2
  rw [c1,s0,this]
 have tow:∀ m',RespW c m' i (toW x 1):=fun m'=>.inl ⟨by simp [toW],by simp [toW]⟩
 have wetow:∀ m',WE m' (toW x 1):=fun m'=>WE.none (by simp [toW]) (by simp [toW]) (by simp [toW])
 unfold wq8
 dsimp only
 have ev:evStep c m x.f=waStep c m x.f:=by unfold evStep; rw [if_pos bop]
 have e1:waStep c m x.f=(if x.f.pc=1 then (m,if wEpoch (mLoad m 2)=wEpoch x.f.x then (⟨x.f.op,2,x.f.who,x.f.val,x.f.x,mLoad m 2,x.f.res⟩:Fr) else ⟨x.f.op,0,x.f.who,0,0,0,4⟩)
   else if x.f.pc=2 then (mCas m 2 x.f.y (wSet x.f.y x.f.who),⟨x.f.op,if mCasB m 2 x.f.y=true then 3 else 1,x.f.who,x.f.val,x.f.x,x.f.y,x.f.res⟩)
   else if x.f.pc=3 then (m,⟨x.f.op,if mLoad m (lPark c x.f.who)=0 then 3 else 4,x.f.who,x.f.val,x.f.x,mLoad m (lPark c x.f.who),x.f.res⟩)
   else (mStore m (lPark c x.f.who) 0,⟨x.f.op,0,x.f.who,0,0,0,1⟩)):=by unfold waStep; rw [if_pos hg,if_neg (by omega)]
 by_cases p1:x.f.pc=1
 ·rw [if_pos p1] at e1
  by_cases he:wEpoch (mLoad m 2)=wEpoch x.f.x
  ·rw [if_pos he] at e1
   have e2:=ev.trans e1
   rw [if_pos (by rw [e2]; exact b3)]
   refine fin _ (.inl ⟨by rw [e2]; exact b3,rfl⟩) (by rw [e2]) ?_ ?_
   ·rw [e2]
    refine ⟨fun _=>hx,fun _ _=>?_,fun q=>by simp [atF] at q; omega,fun q=>by simp [atF] at q; omega⟩
    simp only [atF]
    rw [wEpoch_epo (load_u h.mi.u 2),wEpoch_epo ux] at he
    omega
   ·intro r
    rw [e2]
    rcases r with ⟨_,a⟩ | ⟨a,_⟩ | ⟨a,_⟩ | ⟨_,a⟩ | ⟨_,a,_⟩
    ·exact absurd hp a
    ·omega
    ·omega
    ·rw [wEpoch_epo (load_u h.mi.u 2),wEpoch_epo ux] at he
     omega
    ·omega
  ·rw [if_neg he] at e1
   have e2:=ev.trans e1
   rw [if_neg (by rw [e2]; simp)]
   exact fin _ (.inr rfl) (by rw [e2]) (wetow _) (fun _=>tow _)
 rw [if_neg p1] at e1
 by_cases p2:x.f.pc=2
 ·rw [if_pos p2] at e1
  have e2:=ev.trans e1
  rw [if_pos (by rw [e2]; exact b3)]
  have hyx:=hy p2
  cases hc:mCasB m 2 x.f.y with
  | false=>
   rw [hc,cas_not hc,if_neg (by simp)] at e2
   refine fin _ (.inl ⟨by rw [e2]; exact b3,rfl⟩) (by rw [e2]) ?_ ?_
   ·rw [e2]
    exact ⟨fun _=>hx,fun _ q=>by simp [atF] at q,fun q=>by simp [atF] at q; omega,fun q=>by simp [atF] at q; omega⟩
   ·intro r
    rw [e2]
    rcases r with ⟨_,a⟩ | ⟨a,_⟩ | ⟨a,_⟩ | ⟨_,a⟩ | ⟨_,a,_⟩
    ·exact absurd hp a
    ·omega
    ·omega
    ·exact .inr (.inr (.inr (.inl ⟨.inr ⟨by simp [atF]; exact hp,by simp [atF]⟩,a⟩)))
    ·omega
  | true=>
   have hm2:mLoad m 2=x.f.y:=by
    have:=hc
    simp only [mCasB,Bool.and_eq_true,beq_iff_eq] at this
    exact this.2
   rw [hc,cas_store hc,if_pos rfl,b4] at e2
   have h2:mLoad (mStore m 2 (wSet x.f.y i)) 2=wSet x.f.y i:=load_store h.mi.in2 _
   have hep:epo (mLoad (evStep c m x.f).1 2)=epo (mLoad m 2):=by rw [e2]; dsimp only; rw [h2,epo_set uy (by omega),hm2]
   refine fin _ (.inl ⟨by rw [e2]; exact b3,rfl⟩) hep ?_ ?_
   ·refine ⟨fun _=>by rw [hep,e2]; exact hx,fun _ q=>by rw [e2] at q; simp [atF] at q,fun q=>by simp [atF] at q; omega,fun q=>by simp [atF] at q; omega⟩
   ·intro r
    exfalso
    rcases r with ⟨_,a⟩ | ⟨a,_⟩ | ⟨a,_⟩ | ⟨_,a⟩ | ⟨_,a,_⟩
    ·exact absurd hp a
    ·omega
    ·omega
    ·rw [hm2,hyx] at a; omega
    ·omega
 rw [if_neg p2] at e1
 by_cases p3:x.f.pc=3
 ·rw [if_pos p3] at e1
  have e2:=ev.trans e1
  rw [if_pos (by rw [e2]; exact b3)]
  refine fin _ (.inl ⟨by rw [e2]; exact b3,rfl⟩) (by rw [e2]) ?_ ?_
  ·rw [e2]
   exact ⟨fun _=>hx,fun _ q=>by simp only [atF] at q; split at q <;> omega,fun q=>by simp [atF] at q; omega,fun q=>by simp [atF] at q; omega⟩
  ·intro r
   rw [e2]
   rcases r with ⟨_,a⟩ | ⟨a,_⟩ | ⟨a,_⟩ | ⟨a,_⟩ | ⟨_,_,a⟩
   ·exact absurd hp a
   ·omega
   ·omega
   ·omega
   ·exact .inr (.inr (.inr (.inr ⟨by simp [atF]; exact hp,by simp only [atF]; split <;> decide,a⟩)))
 rw [if_neg p3] at e1
 have e2:=ev.trans e1
 rw [if_neg (by rw [e2]; simp)]
 have h2:mLoad (mStore m (lPark c x.f.who) 0) 2=mLoad m 2:=load_other (by rcases park_low (c:=c) (w:=x.f.who) with q | q <;> omega) _
 exact fin _ (.inr rfl) (by rw [e2]; dsimp only; rw [h2]) (wetow _) (fun _=>tow _)
theorem no_epo {c:Cf} {m:List Int} {f:Fr} (h:MI c m) (n:NI c f) (hu:UFr f) (hs:epo (mLoad m 2) < 100000):epo (mLoad m 2)≤epo (mLoad (evStep c m f).1 2)∧epo (mLoad (evStep c m f).1 2)≤epo (mLoad m 2) + 1 ∧
  ((evStep c m f).2.res=3→epo (mLoad (evStep c m f).1 2)=epo (mLoad m 2) + 1∧∀ w:Nat,(w:Int) < c.w→tb (mLoad m 2) w=false):=by
 have hg:=goesN_of h n
 have e5:¬ f.op=5:=by rw [n.op]; decide
 unfold evStep
 rw [if_neg e5,if_pos n.op]
 unfold noStep
 rw [if_pos hg]
 by_cases p0:f.pc=0
 ·rw [if_pos p0]
  exact ⟨Nat.le_refl _,Nat.le_succ _,fun q=>by have:=n.res; simp at q; omega⟩
 rw [if_neg p0]
 by_cases p1:f.pc=1
 ·rw [if_pos p1]
  cases hc:mCasB m 2 f.x with
  | false=>
   rw [if_neg (by simp),cas_not hc]
   exact ⟨Nat.le_refl _,Nat.le_succ _,fun q=>by have:=n.res; simp at q; omega⟩
  | true=>
   have he:mLoad m 2=f.x:=by
    have:=hc
    simp only [mCasB,Bool.and_eq_true,beq_iff_eq] at this
    exact this.2
   rw [if_pos rfl,cas_store hc]
   have h2:mLoad (mStore m 2 (wBump f.x)) 2=wBump f.x:=load_store h.in2 _
   have hb:=epo_bump hu.x (by rw [← he]; exact hs)
   dsimp only
   rw [h2,hb,he]
   refine ⟨by omega,by omega,fun q=>⟨rfl,fun w hw=>?_⟩⟩
   have hz:wMask f.x=0:=by
    by_cases z:wMask f.x=0
    ·exact z
    ·rw [if_neg z] at q
     have:=n.res
     simp at q; omega
   have hw8:=h.w8
   have:=tb_mask hu.x w
   rw [hz] at this
   have h0:tb 0 w=false:=by simp [tb]
   rw [h0] at this
   have hw16:decide (w < 16)=true:=by simp; omega
   rw [hw16,Bool.and_true] at this
   exact this.symm
 ·rw [if_neg p1]
  have h2:mLoad (mStore m (lPark c (nWho f.y)) 1) 2=mLoad m 2:=load_other (by rcases park_low (c:=c) (w:=nWho f.y) with q | q <;> omega) _
  dsimp only
  rw [h2]
  exact ⟨Nat.le_refl _,Nat.le_succ _,fun q=>by simp at q⟩
theorem wc14 (d:Int) (h:WCh c m i x) (hp:x.pc=14):WC c m i x (wq14 c t m i x d).1 (wq14 c t m i x d).2.1:=by
 have s0:seeks x=false:=seeks_no (by omega) (by omega) (by omega) (by omega) (by omega)
 have hn:=h.wi.p14 hp
 obtain ⟨k1,k2,_⟩:=no_epo h.mi hn h.wi.u h.ep
 have c1:mLoad (evStep c m x.f).1 1=mLoad m 1:=ev_cell (by decide) (by decide) (by decide)
 unfold wq14
 dsimp only
 split
 ·exact ⟨by rw [c1,s0,seeks_no (x:=atF x _) (by simp [atF]; omega) (by simp [atF]; omega) (by simp [atF]; omega) (by simp [atF]; omega) (by simp [atF]; omega)],⟨k1,k2⟩,fun _ _=>WE.none (by simp [atF]; omega) (by simp [atF]; omega) (by simp [atF]; omega),fun _ _=>.inl ⟨by simp [atF]; omega,by simp [atF]; omega⟩,fun q=>by omega,fun q=>by omega⟩
 ·exact ⟨by rw [c1,s0,seeks_no (x:=toW x 9) (by simp [toW]) (by simp [toW]) (by simp [toW]) (by simp [toW]) (by simp [toW])],⟨k1,k2⟩,fun _ _=>WE.none (by simp [toW]) (by simp [toW]) (by simp [toW]),fun _ _=>.inl ⟨by simp [toW],by simp [toW]⟩,fun q=>by omega,fun q=>by omega⟩
theorem wc (d:Int) (h:WCh c m i x):WC c m i x (wStep c t m i x d).1 (wStep c t m i x d).2.1:=
 wStep_cases (Q:=fun r=>WC c m i x r.1 r.2.1) c t m i x d (fun _=>wcN h) (fun _ q=>wc0 d h q) (fun _ q=>wc1 d h q) (fun _ q=>wc2 d h q) (fun _ q=>wc3 d h q) (fun _ q=>wc4 d h q) (fun _ q=>wc5 d h q) (fun _ q=>wc6 d h q)
  (fun _ q=>wc7 d h q) (fun _ q=>wc8 d h q) (fun _ q=>wc9 d h q) (fun _ q=>wc10 d h q) (fun _ q=>wc11 d h q) (fun _ q=>wc12 d h q) (fun _ q=>wc13 d h q) (fun _ q=>wc14 d h q) (fun _ q=>wc15 d h q)
end
end Go.Vai

/- Nobody's wake is lost: a pool's steps. -/
namespace Go.Vai
open Go.RowKit
set_option maxHeartbeats 2000000
def injW (x:Wk):Fr:=if x.pc=2∨x.pc=12 then x.f else noneF
def injS (x:Sb):Fr:=if x.pc=2 then x.f else noneF
def hands (W:List Wk) (S:List Sb):List Fr:=W.map injW ++ S.map injS
theorem hands_w (W:List Wk) (S:List Sb) {i:Nat} (hi:i < W.length) (x:Wk):hands (W.set i x) S=(hands W S).set i (injW x):=by
 unfold hands
 rw [List.set_append_left _ _ (by simpa using hi),List.map_set]
theorem hands_s (W:List Wk) (S:List Sb) {k:Nat} (x:Sb):hands W (S.set k x)=(hands W S).set (W.length + k) (injS x):=by
 unfold hands
 rw [List.set_append_right _ _ (by simp),List.map_set]
 simp
theorem hands_getW (W:List Wk) (S:List Sb) {i:Nat} (hi:i < W.length):(hands W S).getD i noneF=injW (W.getD i wk0):=by
 unfold hands
 simp [List.getD_eq_getElem?_getD,List.getElem?_append,hi]
theorem hands_getS (W:List Wk) (S:List Sb) {k:Nat} (hk:k < S.length):(hands W S).getD (W.length + k) noneF=injS (S.getD k sb0):=by
 unfold hands
 simp [List.getD_eq_getElem?_getD,List.getElem?_append,hk]
theorem hands_len (W:List Wk) (S:List Sb):(hands W S).length=W.length + S.length:=by simp [hands]
theorem injW_idle {x:Wk} (h:(x.pc≠2∧x.pc≠12)∨(x.f.pc=0∧x.f.res=0)):Idle (injW x):=by
 unfold injW
 split
 ·rcases h with h | h
  ·omega
  ·exact .inr h
 ·exact idle_none
theorem injS_idle {x:Sb} (h:x.pc≠2∨(x.f.pc=0∧x.f.res=0)):Idle (injS x):=by
 unfold injS
 split
 ·rcases h with h | h
  ·omega
  ·exact .inr h
 ·exact idle_none
theorem isame_dq {c:Cf} {m:List Int} {f:Fr}:ISame c m (dqStep c m f).1:=
 ⟨len_dqStep ..,fun j h0 h1=>by
  refine dq_only (.inl ?_) (.inl ?_) (fun x=>.inl ?_)
  ·rcases top_low (c:=c) (w:=f.who) with e | e <;> omega
  ·rcases bot_low (c:=c) (w:=f.who) with e | e <;> omega
  ·rcases slot_low (c:=c) (w:=f.who) (x:=x) with e | e <;> omega⟩
theorem isame_ev {c:Cf} {m:List Int} {f:Fr}:ISame c m (evStep c m f).1:=
 ⟨len_evStep ..,fun j h0 h1=>ev_only (by omega) (fun w=>.inl (by rcases park_low (c:=c) (w:=w) with e | e <;> omega))⟩
theorem isame_add {c:Cf} {m:List Int} {i:Int} (h:i < 4) (v:Int):ISame c m (mAdd m i v):=⟨len_add ..,fun j h0 _=>load_other (by omega) _⟩
theorem isame_store {c:Cf} {m:List Int} {i:Int} (h:i < 4) (v:Int):ISame c m (mStore m i v):=⟨len_store ..,fun j h0 _=>load_other (by omega) _⟩
structure WIh (c:Cf) (m V:List Int) (H:Int) (W:List Wk) (S:List Sb) (hist:List Fr) (i:Nat) (x:Wk):Prop where
 many:Many c m V H (hands W S ++ hist)
 il:i < W.length
 x:W.getD i wk0=x
 len:W.length + S.length + hist.length < 1000
def IR (c:Cf) (V:List Int) (H:Int) (hist:List Fr) (m':List Int) (fs':List Fr):Prop:=∃ V' H' hist',IOk c V H m' fs' hist' V' H'∧hist'.length≤hist.length + 1
section
variable {c : Cf} {t : List Tk} {m V : List Int} {H : Int} {W : List Wk} {S : List Sb} {hist : List Fr} {i : Nat} {x : Wk}
theorem WIh.turn (h:WIh c m V H W S hist i x) {m':List Int} {x':Wk} (s:ISame c m m') (n:x.pc≠2∧x.pc≠12) (n':(x'.pc≠2∧x'.pc≠12)∨(x'.f.pc=0∧x'.f.res=0)):IR c V H hist m' (hands (W.set i x') S):=by
 rw [hands_w W S h.il]
 exact ⟨V,H,hist,inj_turn h.many s (by rw [hands_len]; have:=h.il; omega) (by rw [hands_getW W S h.il,h.x]; exact injW_idle (.inl n)) (injW_idle n'),by omega⟩
theorem WIh.step (h:WIh c m V H W S hist i x) {x':Wk} (n:x.pc=2∨x.pc=12) (n':injW x'=(iStep c m x.f).2∨Idle (injW x')):IR c V H hist (iStep c m x.f).1 (hands (W.set i x') S):=by
 rw [hands_w W S h.il]
 have hl:=h.len
 obtain ⟨V',H',hist',k1,k2,_⟩:=inj_step (A:=W.map injW) (B:=S.map injS) (i:=i) (f:=x.f) (g:=injW x') h.many (by have:=hands_len W S; unfold hands at this; rw [this]; have:=h.il; omega)
  (by have:=hands_getW W S h.il; unfold hands at this; rw [this,h.x]; unfold injW; rw [if_pos n]) (by have:=hands_len W S; unfold hands at this; rw [this]; omega) n'
 exact ⟨V',H',hist',k1,k2⟩
theorem wi (d:Int) (h:WIh c m V H W S hist i x):IR c V H hist (wStep c t m i x d).1 (hands (W.set i (wStep c t m i x d).2.1) S):=by
 refine wStep_cases (Q:=fun r=>IR c V H hist r.1 (hands (W.set i r.2.1) S)) c t m i x d ?_ ?_ ?_ ?_ ?_ ?_ ?_ ?_ ?_ ?_ ?_ ?_ ?_ ?_ ?_ ?_ ?_
 ·intro _
  rw [set_self' h.il h.x]
  exact ⟨V,H,hist,⟨h.many,Int.le_refl _,Nat.le_refl _⟩,by omega⟩
 ·intro _ hp
  unfold wq0
  dsimp only
  repeat' split
  ·exact h.turn isame_dq (by omega) (.inl (by simp [atF]; omega))
  ·exact h.turn isame_dq (by omega) (.inl (by simp [stW,toW]))
  ·exact h.turn isame_dq (by omega) (.inl (by simp [toW]))
 ·intro _ hp
  unfold wq1
  exact h.turn (isame_add (by decide) _) (by omega) (.inr ⟨rfl,rfl⟩)
 ·intro _ hp
  unfold wq2
  dsimp only
  repeat' split
  ·exact h.step (.inl hp) (.inl (by unfold injW; rw [if_pos (by simp [atF]; omega)]; rfl))
  ·exact h.step (.inl hp) (.inr (injW_idle (.inl (by simp))))
  ·exact h.step (.inl hp) (.inr (injW_idle (.inl (by simp [withW]))))
  ·exact h.step (.inl hp) (.inr (injW_idle (.inl (by simp [withW]))))
  ·exact h.step (.inl hp) (.inr (injW_idle (.inr ⟨rfl,rfl⟩)))
 ·intro _ hp
  unfold wq3
  dsimp only
  repeat' split
  ·exact h.turn isame_dq (by omega) (.inl (by simp [atF]; omega))
  ·exact h.turn isame_dq (by omega) (.inl (by simp))
  ·exact h.turn isame_dq (by omega) (.inl (by simp [withW]))
  ·exact h.turn isame_dq (by omega) (.inr ⟨rfl,rfl⟩)
 ·intro _ hp
  unfold wq4
  split
  ·exact h.turn (isame_add (by decide) _) (by omega) (.inl (by simp [stW,withW]))
  ·exact h.turn (isame_add (by decide) _) (by omega) (.inl (by simp [stW,toW]))
 ·intro _ hp
  unfold wq5
  exact h.turn isame_ev (by omega) (.inl (by simp))
 ·intro _ hp
  unfold wq6
  exact h.turn (isame_add (by decide) _) (by omega) (.inl (by simp))
 ·intro _ hp
  unfold wq7
  repeat' split
  ·exact h.turn (ISame.refl c m) (by omega) (.inl (by simp))
  ·exact h.turn (ISame.refl c m) (by omega) (.inl (by simp [toW]))
  ·exact h.turn (ISame.refl c m) (by omega) (.inl (by simp))
  ·exact h.turn (ISame.refl c m) (by omega) (.inl (by simp))
 ·intro _ hp
  unfold wq8
  dsimp only
  repeat' split
  ·exact h.turn isame_ev (by omega) (.inl (by simp [atF]; omega))
  ·exact h.turn isame_ev (by omega) (.inl (by simp [toW]))
 ·intro _ hp
  unfold wq9
  dsimp only
  repeat' split
  ·exact h.turn (ISame.refl c m) (by omega) (.inl (by simp))
  ·exact h.turn (ISame.refl c m) (by omega) (.inl (by simp))
  ·exact h.turn (ISame.refl c m) (by omega) (.inl (by simp))
  ·exact h.turn (ISame.refl c m) (by omega) (.inl (by simp [withW]))
 ·intro _ hp
  unfold wq10
  dsimp only
  split
  ·exact h.turn (isame_add (by decide) _) (by omega) (.inl (by simp))
  ·exact h.turn (ISame.refl c m) (by omega) (.inl (by simp [toW]))
 ·intro _ hp
  unfold wq11
  dsimp only
  repeat' split
  ·exact h.turn isame_dq (by omega) (.inl (by simp [atF]; omega))
  ·exact h.turn isame_dq (by omega) (.inr ⟨rfl,rfl⟩)
  ·exact h.turn isame_dq (by omega) (.inl (by simp [toW]))
 ·intro _ hp
  unfold wq12
  dsimp only
  repeat' split
  ·exact h.step (.inr hp) (.inl (by unfold injW; rw [if_pos (by simp [atF]; omega)]; rfl))
  ·exact h.step (.inr hp) (.inr (injW_idle (.inl (by simp [stW,toW]))))
  ·exact h.step (.inr hp) (.inr (injW_idle (.inl (by simp [toW]))))
 ·intro _ hp
  unfold wq13
  split
  ·exact h.turn (ISame.refl c m) (by omega) (.inl (by simp [withW]))
  ·exact h.turn (ISame.refl c m) (by omega) (.inl (by simp [toW]))
 ·intro _ hp
  unfold wq14
  dsimp only
  repeat' split
  ·exact h.turn isame_ev (by omega) (.inl (by simp [atF]; omega))
  ·exact h.turn isame_ev (by omega) (.inl (by simp [toW]))
 ·intro _ hp
  unfold wq15
  dsimp only
  split
  ·split
   ·exact h.turn (isame_add (by decide) _) (by omega) (.inl (by simp))
   ·exact h.turn (isame_add (by decide) _) (by omega) (.inl (by simp))
  ·exact h.turn (ISame.refl c m) (by omega) (.inl (by simp [toW]))
end
def RespS (x:Sb):Prop:=(x.pc=2∧Holds x.f)∨x.pc=3∨x.pc=4
structure SR' (x:Sb):Prop where
 r:x.pc=2→x.f.res=0
structure SC (c:Cf) (m V:List Int) (H:Int) (W:List Wk) (S:List Sb) (hist:List Fr) (k:Nat) (x:Sb) (m':List Int) (x':Sb):Prop where
 one:mLoad m' 1=mLoad m 1
 ep:epo (mLoad m 2)≤epo (mLoad m' 2)∧epo (mLoad m' 2)≤epo (mLoad m 2) + 1
 sr:SR' x'
 ds:∀ w,DSame c w m m'
 inj:∃ V' H' hist',IOk c V H m' (hands W (S.set k x')) hist' V' H'∧hist'.length≤hist.length + 1∧(H'=H∧V'.length=V.length∨RespS x')
 resp:RespS x→RespS x'∨(x.pc=3∧mLoad m 1≠0)∨(x.pc=4∧(evStep c m x.f).2.res=3)∨(x.pc=4∧(evStep c m x.f).2.res=1)
 ev:x.pc=4→m'=(evStep c m x.f).1
structure SCh (c:Cf) (m V:List Int) (H:Int) (W:List Wk) (S:List Sb) (hist:List Fr) (k:Nat) (x:Sb):Prop where
 mi:MI c m
 bi:BI c x
 sr:SR' x
 many:Many c m V H (hands W S ++ hist)
 kl:k < S.length
 x:S.getD k sb0=x
 len:W.length + S.length + hist.length < 1000
 ep:epo (mLoad m 2) < 100000
section
variable {c : Cf} {m V : List Int} {H : Int} {W : List Wk} {S : List Sb} {hist : List Fr} {k : Nat} {x : Sb}
theorem SCh.turn (h:SCh c m V H W S hist k x) {m':List Int} {x':Sb} (s:ISame c m m') (n:x.pc≠2) (n':x'.pc≠2∨(x'.f.pc=0∧x'.f.res=0)) :
  ∃ V' H' hist',IOk c V H m' (hands W (S.set k x')) hist' V' H'∧hist'.length≤hist.length + 1∧(H'=H∧V'.length=V.length∨RespS x'):=by
 rw [hands_s W S]
 exact ⟨V,H,hist,inj_turn h.many s (by rw [hands_len]; have:=h.kl; omega) (by rw [hands_getS W S h.kl,h.x]; exact injS_idle (.inl n)) (injS_idle n'),by omega,.inl ⟨rfl,rfl⟩⟩
theorem no_res {c:Cf} {m:List Int} {f:Fr} (h:MI c m) (n:NI c f):(evStep c m f).2.res=0∨(evStep c m f).2.res=3∧f.pc=1∨(evStep c m f).2.res=1∧f.pc=2:=by
 have hg:=goesN_of h n
 have e5:¬ f.op=5:=by rw [n.op]; decide
 have hr:=n.res
 have hlo:=n.lo
 have hhi:=n.hi
 unfold evStep
 rw [if_neg e5,if_pos n.op]
 unfold noStep
 rw [if_pos hg]
 split
 ·exact .inl hr
 ·rename_i p0
  split
  ·rename_i p1
   dsimp only
   split
   ·split
    ·exact .inr (.inl ⟨rfl,p1⟩)
    ·exact .inl hr
   ·exact .inl hr
  ·rename_i p1
   exact .inr (.inr ⟨rfl,by omega⟩)
theorem sc (h:SCh c m V H W S hist k x) (j:Int):SC c m V H W S hist k x (sbStep c m j x).1 (sbStep c m j x).2.1:=by
 have dn:SR' (doneS x):=⟨fun q=>by simp [doneS] at q⟩
 unfold sbStep
 by_cases p0:x.pc=0
 ·rw [if_pos p0]
  unfold sq0
  split
  ·exact ⟨rfl,⟨Nat.le_refl _,Nat.le_succ _⟩,⟨fun q=>by simp at q⟩,DSame.all c m,h.turn (ISame.refl c m) (by omega) (.inl (by simp)),fun r=>by rcases r with r | r | r <;> omega,fun q=>by omega⟩
  ·exact ⟨rfl,⟨Nat.le_refl _,Nat.le_succ _⟩,dn,DSame.all c m,h.turn (ISame.refl c m) (by omega) (.inl (by simp [doneS])),fun r=>by rcases r with r | r | r <;> omega,fun q=>by omega⟩
 rw [if_neg p0]
 by_cases p1:x.pc=1
 ·rw [if_pos p1]
  unfold sq1
  have c2:mLoad (mAdd m 0 1) 2=mLoad m 2:=load_other (by decide) _
  exact ⟨load_other (by decide) _,by dsimp only; rw [c2]; omega,⟨fun _=>rfl⟩,fun w=>add_dsame c m (by decide) _ w,h.turn (isame_add (by decide) _) (by omega) (.inr ⟨rfl,rfl⟩),fun r=>by rcases r with r | r | r <;> omega,fun q=>by omega⟩
 rw [if_neg p1]
 by_cases p2:x.pc=2
 ·rw [if_pos p2]
  have hop:=h.bi.op.1 p2
  have hr:=h.sr.r p2
  have c1:mLoad (iStep c m x.f).1 1=mLoad m 1:=i_only h.mi.may h.bi.u (.inl (by decide))
  have c2:mLoad (iStep c m x.f).1 2=mLoad m 2:=i_only h.mi.may h.bi.u (.inl (by decide))
  have hd:=fun w=>i_dsame (c:=c) (m:=m) h.mi.may h.bi.u w
  have hx:(hands W S).getD (W.length + k) noneF=x.f:=by rw [hands_getS W S h.kl,h.x]; unfold injS; rw [if_pos p2]
  have hl:=h.len
  have hi:W.length + k < (hands W S).length:=by rw [hands_len]; have:=h.kl; omega
  -- the call alone
  have alone:Many c m V H (x.f :: ((hands W S).eraseIdx (W.length + k) ++ hist)):=by
   refine h.many.perm ?_
   have:=perm_get noneF hi
   rw [hx] at this
   exact this.append_right hist
  have key:Holds x.f→Holds (iStep c m x.f).2∨(iStep c m x.f).2.res=1:=by
   intro hh
   obtain ⟨V',H',_,k2,_⟩:=alone.step
   have e1:eGave x.f≠none:=by unfold eGave; rw [if_pos ⟨hop,.inr hh⟩]; simp
   have e2:=k2.keep e1
   unfold eGave at e2
   split at e2
   ·rename_i q
    rcases q.2 with q | q
    ·exact .inr q
    ·exact .inl q
   ·exact absurd rfl e2
  have inj:∀ x':Sb,(injS x'=(iStep c m x.f).2∨Idle (injS x'))→(Holds (iStep c m x.f).2∨(iStep c m x.f).2.res=1→RespS x')→∃ V' H' hist',IOk c V H (iStep c m x.f).1 (hands W (S.set k x')) hist' V' H'∧hist'.length≤hist.length + 1∧(H'=H∧V'.length=V.length∨RespS x'):=by
   intro x' hg hq
   rw [hands_s W S]
   obtain ⟨V',H',hist',k1,k2,k3⟩:=inj_step (A:=W.map injW) (B:=S.map injS) (i:=W.length + k) (f:=x.f) (g:=injS x') h.many hi hx (by have:=hands_len W S; unfold hands at this; rw [this]; omega) hg
   refine ⟨V',H',hist',k1,k2,?_⟩
   rcases k3 with e | e
   ·have e4:=h.many.head
    have e4':=k1.many.head
    have:mLoad (iStep c m x.f).1 4=mLoad m 4:=by
     unfold iStep
     rw [if_pos hop]
     unfold eStep
     have s1:=seq_in h.mi.may h.bi.u.x
     have v1:=val_in h.mi.may h.bi.u.x
     repeat' split
     all_goals first
      | rfl
      | exact store_only (.inr (by omega)) _
      | exact cas_only (.inr (by decide)) _ _
    exact .inl ⟨by omega,e⟩
   ·exact .inr (hq e)
  have ep2:epo (mLoad m 2)≤epo (mLoad (iStep c m x.f).1 2)∧epo (mLoad (iStep c m x.f).1 2)≤epo (mLoad m 2) + 1:=by rw [c2]; omega
  unfold sq2
  dsimp only
  by_cases q0:(iStep c m x.f).2.res=0
  ·rw [if_pos q0]
   have hh:Holds (iStep c m x.f).2∨(iStep c m x.f).2.res=1→RespS ⟨2,x.roots,(iStep c m x.f).2⟩:=fun q=>by
    rcases q with q | q
    ·exact .inl ⟨rfl,q⟩
    ·omega
   refine ⟨c1,ep2,⟨fun _=>q0⟩,hd,inj _ (.inl (by unfold injS; rw [if_pos rfl])) hh,fun r=>?_,fun q=>by omega⟩
   rcases r with r | r | r
   ·exact .inl (hh (key r.2))
   ·omega
   ·omega
  ·rw [if_neg q0]
   have hn:¬ Holds (iStep c m x.f).2:=fun q=>q0 q.1
   split
   ·rename_i q2
    have hh:Holds (iStep c m x.f).2∨(iStep c m x.f).2.res=1→RespS ⟨5,x.roots,(iStep c m x.f).2⟩:=fun q=>by
     rcases q with q | q
     ·exact absurd q hn
     ·omega
    refine ⟨c1,ep2,⟨fun q=>by simp at q⟩,hd,inj _ (.inr (injS_idle (.inl (by simp)))) hh,fun r=>?_,fun q=>by omega⟩
    rcases r with r | r | r
    ·exact .inl (hh (key r.2))
    ·omega
    ·omega
   ·exact ⟨c1,ep2,⟨fun q=>by simp at q⟩,hd,inj _ (.inr (injS_idle (.inl (by simp)))) (fun _=>.inr (.inl rfl)),fun _=>.inl (.inr (.inl rfl)),fun q=>by omega⟩
 rw [if_neg p2]
 by_cases p3:x.pc=3
 ·rw [if_pos p3]
  unfold sq3
  split
  ·exact ⟨rfl,⟨Nat.le_refl _,Nat.le_succ _⟩,⟨fun q=>by simp at q⟩,DSame.all c m,h.turn (ISame.refl c m) (by omega) (.inl (by simp)),fun _=>.inl (.inr (.inr rfl)),fun q=>by omega⟩
  ·rename_i q
   exact ⟨rfl,⟨Nat.le_refl _,Nat.le_succ _⟩,dn,DSame.all c m,h.turn (ISame.refl c m) (by omega) (.inl (by simp [doneS])),fun _=>.inr (.inl ⟨p3,q⟩),fun q=>by omega⟩
 rw [if_neg p3]
 by_cases p4:x.pc=4
 ·rw [if_pos p4]
  have hn:=h.bi.p4 p4
  obtain ⟨k1,k2,_⟩:=no_epo h.mi hn h.bi.u h.ep
  have c1:mLoad (evStep c m x.f).1 1=mLoad m 1:=ev_cell (by decide) (by decide) (by decide)
  have hd:=fun w=>ev_dsame c m x.f w
  have hres:=no_res h.mi hn
  unfold sq4
  dsimp only
  split
  ·exact ⟨c1,⟨k1,k2⟩,⟨fun q=>by simp at q⟩,hd,h.turn isame_ev (by omega) (.inl (by simp)),fun _=>.inl (.inr (.inr rfl)),fun _=>rfl⟩
  ·rename_i q0
   refine ⟨c1,⟨k1,k2⟩,dn,hd,h.turn isame_ev (by omega) (.inl (by simp [doneS])),fun _=>?_,fun _=>rfl⟩
   rcases hres with e | e | e
   ·exact absurd e q0
   ·exact .inr (.inr (.inl ⟨p4,e.1⟩))
   ·exact .inr (.inr (.inr ⟨p4,e.1⟩))
 rw [if_neg p4]
 unfold sq5
 have c2:mLoad (mAdd m 0 less) 2=mLoad m 2:=load_other (by decide) _
 exact ⟨load_other (by decide) _,by dsimp only; rw [c2]; omega,dn,fun w=>add_dsame c m (by decide) _ w,h.turn (isame_add (by decide) _) (by omega) (.inl (by simp [doneS])),fun r=>by rcases r with r | r | r <;> omega,fun q=>by omega⟩
end
end Go.Vai

/- Nobody's wake is lost: what always holds of a pool. -/
namespace Go.Vai
open Go.RowKit
set_option maxHeartbeats 2000000
structure AwI (p:Po) (n:Nat):Prop where
 si:SI p
 dq:DqI p.c p.m p.w n
 wr:∀ i:Nat,i < p.w.length→WRw (p.w.getD i wk0)
 we:∀ i:Nat,i < p.w.length→WE p.m (p.w.getD i wk0)
 sr:∀ k:Nat,k < p.s.length→SR' (p.s.getD k sb0)
 inj:∃ V H hist,Many p.c p.m V H (hands p.w p.s ++ hist)∧hist.length≤n
 one:mLoad p.m 1=(p.w.countP seeks:Nat)
 ep:epo (mLoad p.m 2)≤n
 sl:p.s.length≤3
 resp:mLoad p.m 4=mLoad p.m 5∨(∃ i:Nat,i < p.w.length∧RespW p.c p.m i (p.w.getD i wk0))∨∃ k:Nat,k < p.s.length∧RespS (p.s.getD k sb0)
theorem AwI.has {p:Po} {n:Nat} (h:AwI p n):∀ w,w < p.w.length→lHas p.c w=true:=fun w hw=>h.si.mi.has (by omega) (by have:=h.si.wl; omega)
theorem AwI.le {p:Po} {n:Nat} (h:AwI p n):mLoad p.m 4≤mLoad p.m 5:=by
 obtain ⟨V,H,hist,k1,_⟩:=h.inj
 rw [k1.head,k1.tail]; exact k1.le
theorem AwI.mono {p:Po} {n:Nat} (h:AwI p n):AwI p (n + 1):=
 { h with dq:=by have:=h.dq.mono; rwa [show ((n:Int) + 1)=((n + 1:Nat):Int) by omega] at this,inj:=by obtain ⟨V,H,hist,a,b⟩:=h.inj; exact ⟨V,H,hist,a,by omega⟩,ep:=by have:=h.ep; omega }
theorem RespW.other {c:Cf} {m m':List Int} {i:Nat} {x:Wk} (h:RespW c m i x) (we:WE m x) (h45:mLoad m 4≤mLoad m 5) (h5:mLoad m' 5=mLoad m 5∨mLoad m 5≤mLoad m' 5) (he:epo (mLoad m 2)≤epo (mLoad m' 2)) (hp:parked c m i=true→parked c m' i=true):RespW c m' i x:=by
 rcases h with h | h | ⟨a,b,d⟩ | ⟨a,b⟩ | ⟨a,b,d⟩
 ·exact .inl h
 ·exact .inr (.inl h)
 ·refine .inr (.inr (.inl ⟨a,b,?_⟩))
  have:=we.v a b
  rcases h5 with e | e
  ·rw [e]; exact d
  ·omega
 ·exact .inr (.inr (.inr (.inl ⟨a,by omega⟩)))
 ·exact .inr (.inr (.inr (.inr ⟨a,b,hp d⟩)))
theorem WE.grow {m m':List Int} {x:Wk} (h:WE m x) (he:epo (mLoad m 2)≤epo (mLoad m' 2)) (h4:mLoad m 4≤mLoad m' 4):WE m' x:=
 ⟨fun q=>Nat.le_trans (h.fx q) he,h.fy,h.lo,fun a b=>Int.le_trans (h.v a b) h4⟩
theorem AwI.work {p:Po} {n:Nat} (h:AwI p n) (hn:n≤900) {i:Nat} (hi:i < p.w.length) (d:Int) (hsi:SI ⟨p.c,p.t,(wStep p.c p.t p.m i (p.w.getD i wk0) d).1,p.w.set i (wStep p.c p.t p.m i (p.w.getD i wk0) d).2.1,p.s⟩) :
  AwI ⟨p.c,p.t,(wStep p.c p.t p.m i (p.w.getD i wk0) d).1,p.w.set i (wStep p.c p.t p.m i (p.w.getD i wk0) d).2.1,p.s⟩ (n + 1):=by
 have hwl:=h.si.wl
 have h8:=h.si.mi.w8
 generalize hx:p.w.getD i wk0=x at *
 obtain ⟨V,H,hist,q1,q2⟩:=h.inj
 have hsl:=h.sl
 have hle:=h.le
 have hcnt:(seeks x).toNat≤p.w.countP seeks:=by have:=countP_get seeks wk0 hi; rw [hx] at this; exact this
 have hcl:p.w.countP seeks≤p.w.length:=List.countP_le_length
 have hwc:WCh p.c p.m i x:=⟨h.si.mi,hx ▸ h.si.ws i hi,hx ▸ h.wr i hi,hx ▸ h.we i hi,by omega,by rw [h.one]; omega,by have:=h.ep; omega,hle⟩
 obtain ⟨c1,c2,c3,c4,c5,c6⟩:=wc (t:=p.t) d hwc
 have hwd:WHd p.c p.m p.w n i x:=⟨h.si.mi,hx ▸ h.si.ws i hi,hx ▸ h.wr i hi,h.dq,by omega,hi,hx,h.has⟩
 obtain ⟨d1,d2⟩:=wd (t:=p.t) d hwd
 have hwi:WIh p.c p.m V H p.w p.s hist i x:=⟨q1,hi,hx,by omega⟩
 obtain ⟨V',H',hist',⟨i1,i2,i3⟩,i4⟩:=wi (t:=p.t) d hwi
 have hone:∀ w:Nat,(w:Int) < p.c.w→sgM p.c p.m w + (wW x w).toNat≤1:=fun w hw=>by
  have hs:=h.si.sg w (by omega)
  have hc:=countP_get (wW · w) wk0 hi
  have:=com_le (p.w.getD w wk0)
  try dsimp only at hc
  rw [hx] at hc
  unfold signs at hs
  omega
 have hwh:WH p.c i p.m x:=⟨h.si.mi,hx ▸ h.si.ws i hi,by omega,hone,by
  have hs:=h.si.sg i hi
  have hc:=countP_get (wW · i) wk0 hi
  try dsimp only at hc
  rw [hx] at hc hs
  unfold signs at hs
  omega,fun a b=>h.si.pk i hi (by rw [hx]; exact a) (by rw [hx]; exact b)⟩
 have hpk:=(wOk (t:=p.t) d hwh).pk
 generalize hr:wStep p.c p.t p.m (i:Int) x d=r at *
 obtain ⟨m',x',ev⟩:=r
 dsimp only at *
 have e4:mLoad p.m 4=H:=q1.head
 have e5:mLoad p.m 5=V.length:=q1.tail
 have e4':mLoad m' 4=H':=i1.head
 have e5':mLoad m' 5=V'.length:=i1.tail
 refine ⟨hsi,by rwa [show ((n:Int) + 1)=((n + 1:Nat):Int) by omega] at d1,fun j hj=>?_,fun j hj=>?_,h.sr,⟨V',H',hist',i1,by omega⟩,?_,by have:=h.ep; dsimp only; omega,h.sl,?_⟩
 ·dsimp only
  rw [getD_setW hi]
  split
  ·exact d2
  ·exact h.wr j (by simpa using hj)
 ·dsimp only
  rw [getD_setW hi]
  split
  ·exact c3 c2.1 (by rw [e4,e4']; exact i2)
  ·exact (h.we j (by simpa using hj)).grow c2.1 (by rw [e4,e4']; exact i2)
 ·dsimp only
  have:=countP_set seeks wk0 p.w i x' hi
  rw [hx] at this
  have h1:=h.one
  omega
 ·dsimp only
  by_cases hp:x.pc=7∨x.pc=8
  ·obtain ⟨s4,s5⟩:=c5 hp
   rcases h.resp with e | ⟨j,hj,e⟩ | ⟨k,hk,e⟩
   ·left; rw [s4,s5]; exact e
   ·by_cases ej:j=i
    ·subst ej
     rw [hx] at e
     rcases c6 hp e with e | e
     ·left; rw [s4,s5]; exact e
     ·right; left
      refine ⟨j,by simpa using hj,?_⟩
      rw [getD_setW hi,if_pos rfl]; exact e
    ·right; left
     refine ⟨j,by simpa using hj,?_⟩
     rw [getD_setW hi,if_neg ej]
     exact e.other (h.we j hj) hle (.inl s5) c2.1 (hpk j (by omega) ej)
   ·exact .inr (.inr ⟨k,hk,e⟩)
  ·right; left
   refine ⟨i,by simpa using hi,?_⟩
   rw [getD_setW hi,if_pos rfl]
   exact c4 (fun q=>hp (.inl q)) (fun q=>hp (.inr q))
theorem countP_ex {α:Type} {q:α→Bool} {l:List α} (d:α) (h:0 < l.countP q):∃ i,i < l.length∧q (l.getD i d)=true:=by
 obtain ⟨a,ha,hq⟩:=List.countP_pos_iff.1 h
 obtain ⟨i,hi,e⟩:=List.getElem_of_mem ha
 exact ⟨i,hi,by rw [List.getD_eq_getElem?_getD,List.getElem?_eq_getElem hi,Option.getD_some,e]; exact hq⟩
theorem AwI.sub {p:Po} {n:Nat} (h:AwI p n) (hn:n≤900) {k:Nat} (hk:k < p.s.length) (j:Int) (hsi:SI ⟨p.c,p.t,(sbStep p.c p.m j (p.s.getD k sb0)).1,p.w,p.s.set k (sbStep p.c p.m j (p.s.getD k sb0)).2.1⟩) :
  AwI ⟨p.c,p.t,(sbStep p.c p.m j (p.s.getD k sb0)).1,p.w,p.s.set k (sbStep p.c p.m j (p.s.getD k sb0)).2.1⟩ (n + 1):=by
 have hwl:=h.si.wl
 have h8:=h.si.mi.w8
 generalize hx:p.s.getD k sb0=x at *
 obtain ⟨V,H,hist,q1,q2⟩:=h.inj
 have hsl:=h.sl
 have hle:=h.le
 have hbi:BI p.c x:=hx ▸ h.si.ss k hk
 have hsc:SCh p.c p.m V H p.w p.s hist k x:=⟨h.si.mi,hbi,hx ▸ h.sr k hk,q1,hk,hx,by omega,by have:=h.ep; omega⟩
 obtain ⟨c1,c2,c3,c4,⟨V',H',hist',⟨i1,i2,i3⟩,i4,i5⟩,c6,c7⟩:=sc hsc j
 have hone:∀ w:Nat,(w:Int) < p.c.w→sgM p.c p.m w + (wS x w).toNat≤1:=fun w hw=>by
  have hs:=h.si.sg w (by omega)
  have hc:=countP_get (wS · w) sb0 hk
  have:=com_le (p.w.getD w wk0)
  try dsimp only at hc
  rw [hx] at hc
  unfold signs at hs
  omega
 have hpk:=(sbOk j h.si.mi hbi hone).pk
 have hw1:1≤p.c.w:=(mayC_iff.1 h.si.mi.may).1
 generalize hr:sbStep p.c p.m j x=r at *
 obtain ⟨m',x',ev⟩:=r
 dsimp only at *
 have e4:mLoad p.m 4=H:=q1.head
 have e5:mLoad p.m 5=V.length:=q1.tail
 have e4':mLoad m' 4=H':=i1.head
 have e5':mLoad m' 5=V'.length:=i1.tail
 have hge:mLoad p.m 5≤mLoad m' 5:=by omega
 have other:∀ w:Nat,w < p.w.length→RespW p.c p.m w (p.w.getD w wk0)→∃ i:Nat,i < p.w.length∧RespW p.c m' i (p.w.getD i wk0):=fun w hw r=>
  ⟨w,hw,r.other (h.we w hw) hle (.inr hge) c2.1 (hpk w (by omega))⟩
 refine ⟨hsi,fun w hw=>?_,h.wr,fun w hw=>(h.we w hw).grow c2.1 (by rw [e4,e4']; exact i2),fun l hl=>?_,⟨V',H',hist',i1,by omega⟩,by dsimp only; rw [c1]; exact h.one,by have:=h.ep; dsimp only; omega,by simpa using h.sl,?_⟩
 ·obtain ⟨t,L,a1,a2,a3,a4⟩:=h.dq w hw
  exact ⟨t,L,by have:=a1.dsame (c4 w); rwa [show ((n:Int) + 1)=((n + 1:Nat):Int) by omega] at this,a2.dsame (c4 w),a3,a4⟩
 ·dsimp only
  rw [getD_setW hk]
  split
  ·exact c3
  ·exact h.sr l (by simpa using hl)
 ·dsimp only
  have mine:RespS x'→∃ k':Nat,k' < (p.s.set k x').length∧RespS ((p.s.set k x').getD k' sb0):=fun r=>⟨k,by simpa using hk,by rw [getD_setW hk,if_pos rfl]; exact r⟩
  rcases h.resp with e | ⟨w,hw,e⟩ | ⟨l,hl,e⟩
  ·rcases i5 with ⟨f1,f2⟩ | f
   ·left; omega
   ·exact .inr (.inr (mine f))
  ·exact .inr (.inl (other w hw e))
  ·by_cases el:l=k
   ·subst el
    rw [hx] at e
    rcases c6 e with f | ⟨f1,f2⟩ | ⟨f1,f2⟩ | ⟨f1,f2⟩
    ·exact .inr (.inr (mine f))
    ·right; left
     have h1:=h.one
     obtain ⟨w,hw,hs⟩:=countP_ex (q:=seeks) wk0 (l:=p.w) (by omega)
     refine ⟨w,hw,.inl ⟨fun q=>?_,fun q=>?_⟩⟩
     ·rw [seeks_no (by omega) (by omega) (by omega) (by omega) (by omega)] at hs; cases hs
     ·rw [seeks_no (by omega) (by omega) (by omega) (by omega) (by omega)] at hs; cases hs
    ·-- a wake that met nobody
     have hn':=hbi.p4 f1
     have hm':=c7 f1
     obtain ⟨_,_,g3⟩:=no_epo h.si.mi hn' hbi.u (by have:=h.ep; omega)
     obtain ⟨g4,g5⟩:=g3 f2
     rw [← hm'] at g4
     have h0:0 < p.w.length:=by omega
     have hwe:=h.we 0 h0
     have hwr:=h.wr 0 h0
     have hsg:=h.si.sg 0 h0
     have hb:=g5 0 (by omega)
     by_cases p7:(p.w.getD 0 wk0).pc=7
     ·right; left
      exact ⟨0,h0,.inr (.inr (.inr (.inl ⟨.inl p7,by have:=hwe.fx (.inr (.inl p7)); omega⟩)))⟩
     ·by_cases p8:(p.w.getD 0 wk0).pc=8
      ·by_cases p2:(p.w.getD 0 wk0).f.pc≤2
       ·right; left
        exact ⟨0,h0,.inr (.inr (.inr (.inl ⟨.inr ⟨p8,p2⟩,by have:=hwe.fx (.inr (.inr p8)); omega⟩)))⟩
       ·have hcm:com (p.w.getD 0 wk0)=true:=by unfold com; exact decide_eq_true ⟨p8,by omega⟩
        unfold signs sgM at hsg
        rw [hcm,hb] at hsg
        cases hpk0:parked p.c p.m ((0:Nat):Int) with
        | true=>
         right; left
         exact ⟨0,h0,.inr (.inr (.inr (.inr ⟨p8,by omega,hpk 0 (by omega) hpk0⟩)))⟩
        | false=>
         rw [hpk0] at hsg
         simp only [Bool.toNat_false,Bool.toNat_true,Nat.zero_add] at hsg
         by_cases cw:0 < p.w.countP (wW · 0)
         ·right; left
          obtain ⟨w,hw,hs⟩:=countP_ex (q:=(wW · 0)) wk0 (l:=p.w) cw
          have:(p.w.getD w wk0).pc=14:=by simp only [wW,Bool.and_eq_true,decide_eq_true_eq] at hs; exact hs.1
          exact ⟨w,hw,.inl ⟨by omega,by omega⟩⟩
         ·right; right
          obtain ⟨k',hk',hs⟩:=countP_ex (q:=(wS · 0)) sb0 (l:=p.s) (by omega)
          simp only [wS,hd,Bool.and_eq_true,decide_eq_true_eq] at hs
          refine ⟨k',by simpa using hk',?_⟩
          rw [getD_setW hk]
          split
          ·rename_i ek
           subst ek
           exfalso
           rw [hx] at hs
           have:=no_res h.si.mi hn'
           omega
          ·exact .inr (.inr hs.1)
      ·right; left
       exact ⟨0,h0,.inl ⟨p7,p8⟩⟩
    ·-- a wake that is told
     have hn':=hbi.p4 f1
     have hm':=c7 f1
     have hres:=no_res h.si.mi hn'
     have hp2:x.f.pc=2:=by omega
     obtain ⟨y0,y1⟩:=hn'.y hp2
     obtain ⟨y,hy⟩:∃ y:Nat,x.f.y=(y:Int):=⟨x.f.y.toNat,by omega⟩
     have hyl:y < p.w.length:=by omega
     have hsg:=h.si.sg y hyl
     have hws:wS x y=true:=by simp [wS,hd,f1,hp2,hy]
     have hc:=countP_get (wS · y) sb0 hk
     try dsimp only at hc
     rw [hx,hws] at hc
     have hcm:com (p.w.getD y wk0)=true:=by
      cases q:com (p.w.getD y wk0) with
      | true=>rfl
      | false=>
       rw [q,show Bool.toNat false=0 from rfl] at hsg
       rw [show Bool.toNat true=1 from rfl] at hc
       unfold signs at hsg
       omega
     simp only [com,decide_eq_true_eq] at hcm
     have hg:=goesN_of h.si.mi hn'
     have e5:¬ x.f.op=5:=by rw [hn'.op]; decide
     have hst:m'=mStore p.m (lPark p.c y) 1:=by
      rw [hm']
      unfold evStep
      rw [if_neg e5,if_pos hn'.op]
      unfold noStep
      rw [if_pos hg,if_neg (by omega),if_neg (by omega)]
      have hw8:=h8
      have:nWho x.f.y=x.f.y:=by
       unfold nWho
       rw [if_pos (by omega),wrap_i (by omega) (by omega)]
      dsimp only
      rw [this,hy]
     right; left
     refine ⟨y,hyl,.inr (.inr (.inr (.inr ⟨hcm.1,hcm.2,?_⟩)))⟩
     unfold parked
     rw [hst,load_store (h.si.mi.inP (by omega) (by omega))]
     simp
   ·right; right
    refine ⟨l,by simpa using hl,?_⟩
    rw [getD_setW hk,if_neg el]; exact e
theorem AwI.go {p:Po} {n:Nat} (h:AwI p n) (hn:n≤900) (k:Pk):AwI (pGo p k).1 (n + 1):=by
 have hsi:=h.si.go k
 unfold pGo at hsi ⊢
 split
 ·rename_i hf
  rw [if_pos hf] at hsi
  unfold pStep' at hsi ⊢
  by_cases h0:k.kind=0
  ·rw [if_pos h0] at hsi ⊢
   obtain ⟨f1,f2⟩:=fits_w hf h0
   obtain ⟨i,hi⟩:∃ i:Nat,k.who=(i:Int):=⟨k.who.toNat,by omega⟩
   rw [hi] at f2 hsi ⊢
   rw [Int.toNat_natCast] at hsi ⊢
   have hwl:=h.si.wl
   exact h.work hn (by omega) k.draw hsi
  ·rw [if_neg h0] at hsi ⊢
   by_cases h1:k.kind=1
   ·rw [if_pos h1] at hsi ⊢
    obtain ⟨f1,f2⟩:=fits_s hf h1
    obtain ⟨i,hi⟩:∃ i:Nat,k.who=(i:Int):=⟨k.who.toNat,by omega⟩
    rw [hi] at f2 hsi ⊢
    rw [Int.toNat_natCast] at hsi ⊢
    split
    ·rename_i hm
     rw [if_pos hm] at hsi
     exact h.sub hn (by omega) i hsi
    ·exact h.mono
   ·rw [if_neg h1] at hsi ⊢
    split
    ·rename_i h2
     rw [if_pos h2] at hsi
     have c1:mLoad (mStore p.m 3 1) 1=mLoad p.m 1:=load_other (by decide) _
     have c2:mLoad (mStore p.m 3 1) 2=mLoad p.m 2:=load_other (by decide) _
     have c4:mLoad (mStore p.m 3 1) 4=mLoad p.m 4:=load_other (by decide) _
     have c5:mLoad (mStore p.m 3 1) 5=mLoad p.m 5:=load_other (by decide) _
     have hds:∀ w,DSame p.c w p.m (mStore p.m 3 1):=fun w=>dsame_of (len_store ..) (fun j _ h8 _=>load_other (by omega) _) w
     have hpp:∀ w:Int,mLoad (mStore p.m 3 1) (lPark p.c w)=mLoad p.m (lPark p.c w):=fun w=>load_other (by rcases park_low (c:=p.c) (w:=w) with q | q <;> omega) _
     obtain ⟨V,H,hist,q1,q2⟩:=h.inj
     refine ⟨hsi,fun w hw=>?_,h.wr,fun w hw=>(h.we w hw).grow (by dsimp only; rw [c2]; exact Nat.le_refl _) (by dsimp only; rw [c4]; exact Int.le_refl _),h.sr,⟨V,H,hist,q1.msame (isame_store (by decide) _),by omega⟩,by dsimp only; rw [c1]; exact h.one,by dsimp only; rw [c2]; have:=h.ep; omega,h.sl,?_⟩
     ·obtain ⟨t,L,a1,a2,a3,a4⟩:=h.dq w hw
      exact ⟨t,L,by have:=a1.dsame (hds w); rwa [show ((n:Int) + 1)=((n + 1:Nat):Int) by omega] at this,a2.dsame (hds w),a3,a4⟩
     ·dsimp only
      rw [c4,c5]
      rcases h.resp with e | ⟨w,hw,e⟩ | e
      ·exact .inl e
      ·exact .inr (.inl ⟨w,hw,e.other (h.we w hw) h.le (.inl c5) (by rw [c2]; exact Nat.le_refl _) (fun q=>by unfold parked at *; rw [hpp]; exact q)⟩)
      ·exact .inr (.inr e)
    ·exact h.mono
 ·exact h.mono
theorem AwI.rest {p:Po} {n:Nat} (h:AwI p n) (hw:∀ i:Nat,i < p.w.length→wkPark (p.w.getD i wk0)=true∧parked p.c p.m i=false) (hs:∀ k:Nat,k < p.s.length→(p.s.getD k sb0).pc=0) :
  mLoad p.m 4=mLoad p.m 5∧∀ w:Nat,w < p.w.length→mLoad p.m (lBottom p.c w)=mLoad p.m (lTop p.c w):=by
 have hpk:∀ i:Nat,i < p.w.length→(p.w.getD i wk0).pc=8∧(p.w.getD i wk0).f.pc=3:=fun i hi=>by
  have:=(hw i hi).1
  simp only [wkPark,wParked,Bool.and_eq_true,beq_iff_eq] at this
  exact ⟨this.1,this.2.2⟩
 constructor
 ·rcases h.resp with e | ⟨i,hi,e⟩ | ⟨k,hk,e⟩
  ·exact e
  ·exfalso
   obtain ⟨a,b⟩:=hpk i hi
   have hp:=(hw i hi).2
   rcases e with e | e | e | e | e
   ·exact e.2 a
   ·omega
   ·omega
   ·have:=e.1; omega
   ·rw [hp] at e; cases e.2.2
  ·exfalso
   have:=hs k hk
   rcases e with e | e | e
   ·omega
   ·omega
   ·omega
 ·intro w hwl
  obtain ⟨t,L,a1,a2,a3,a4⟩:=h.dq w hwl
  obtain ⟨a,b⟩:=hpk w hwl
  have hL:=a4 (by omega) (by omega)
  rw [ownF_no (by omega) (by omega)] at a2
  have:=a2.idle (.inl rfl)
  rw [this,a1.top,hL]; simp
end Go.Vai

/- Nobody's wake is lost: a new pool; a pool that may be is one that may be behind each step. -/
namespace Go.Vai
open Go.RowKit
set_option maxHeartbeats 2000000
theorem new_hands (c:Cf) (t:List Tk) (roots:List (List Int)):hands (newP c t roots).w (newP c t roots).s=List.replicate (c.w.toNat + roots.length) noneF:=by
 refine List.eq_replicate_iff.2 ⟨by simp [hands,newP],fun f hf=>?_⟩
 rcases List.mem_append.1 hf with h | h
 ·obtain ⟨x,hx,rfl⟩:=List.mem_map.1 h
  obtain ⟨i,_,rfl⟩:=List.mem_map.1 hx
  rfl
 ·obtain ⟨x,hx,rfl⟩:=List.mem_map.1 h
  obtain ⟨l,_,rfl⟩:=List.mem_map.1 hx
  rfl
theorem nones_gave' (g:Fr→Option Int) (h:g noneF=none) (n:Nat):(List.replicate n noneF).filterMap g=[]:=by
 induction n with
 | zero=>rfl
 | succ n ih=>rw [List.replicate_succ,List.filterMap_cons,h]; exact ih
theorem AwI.new {c:Cf} {t:List Tk} {roots:List (List Int)} (h:mayC c=true) (hr:roots.length≤3):AwI (newP c t roots) 0:=by
 have si:=SI.new (t:=t) (roots:=roots) h
 have hc:=mayC_iff.1 h
 have f:=fresh_new h
 have hi:=f.inj.ipos
 have hz:∀ i,mLoad (newP c t roots).m i=0:=fun i=>zeros_load _ _
 have hw:∀ i:Nat,i < (newP c t roots).w.length→(newP c t roots).w.getD i wk0=newW i:=fun i hi=>newW_get (by simpa [newP] using hi)
 have hs:∀ k:Nat,k < (newP c t roots).s.length→(newP c t roots).s.getD k sb0=newS (roots.getD k []):=fun k hk=>newS_get (by simpa [newP] using hk)
 refine ⟨si,fun w hlt=>⟨0,[],⟨⟨h,si.mi.len,by omega,?_⟩,hz _,Int.le_refl _,by show (0:Int)≤c.d; omega,by simp,fun k hk=>by simp at hk⟩,?_,fun i hil=>?_,fun _ _=>rfl⟩,fun i hil=>?_,fun i hil=>?_,fun k hk=>?_,⟨[],0,[],?_,Nat.zero_le _⟩,?_,by rw [hz]; simp [epo],?_,?_⟩
 ·have:=si.wl
  show (w:Int) < c.w
  have e:(newP c t roots).c=c:=rfl
  rw [e] at this
  omega
 ·rw [hw w hlt]
  have e:ownF (newW (w:Int))=⟨1,0,w,0,0,0,0⟩:=by simp [ownF,newW]
  rw [e]
  refine own_fresh (by rw [hz]; simp) (.inr ⟨.inr rfl,rfl,rfl,rfl⟩)
 ·rw [hw i hil,thF_no w (by left; simp [newW])]
  exact th_none ..
 ·rw [hw i hil]
  exact WRw.res rfl (by simp [newW]) (by simp [newW]) (by simp [newW])
 ·rw [hw i hil]
  refine ⟨fun q=>by simp [newW] at q,fun q=>?_,fun q=>?_,fun q=>?_⟩
  all_goals simp [newW] at q
 ·rw [hs k hk]
  exact ⟨fun q=>by simp [newS] at q⟩
 ·rw [new_hands,List.append_nil]
  refine ⟨⟨h,si.mi.len⟩,hz _,hz _,Int.le_refl _,Int.le_refl _,by show (0:Int)≤0 + c.i; omega,by rw [List.length_replicate]; have:=hc.2.1; have:=hc.1; omega,fun s=>?_,fun g hg=>?_,?_,?_,?_,(fun x h0 h1=>by have h2:x < 0:=h1; omega),(fun x h0 h1=>by omega)⟩
  ·have hm:=f.inj.mod s
   refine ⟨s % c.i,mod_mod s c.i,.inl ⟨hm.1,by show s % c.i < 0 + c.i; omega,?_⟩⟩
   rw [show (newP c t roots).c=c from rfl,Int.ediv_eq_zero_of_lt hm.1 hm.2]
   exact zeros_load _ _
  ·rw [(List.mem_replicate.1 hg).2]; exact ⟨fun q=>by simp [noneF] at q,fun q=>by simp [noneF] at q⟩
  ·rw [List.pairwise_replicate]
   right; intro q; simp [noneF] at q
  ·rw [nones_gave' _ (by decide)]
  ·rw [nones_gave' _ (by decide)]; simp
 ·rw [hz]
  have:(newP c t roots).w.countP seeks=0:=by
   rw [List.countP_eq_zero]
   intro x hx
   obtain ⟨i,_,rfl⟩:=List.mem_map.1 hx
   simp [seeks,newW]
  rw [this]; rfl
 ·show (roots.map newS).length≤3
  simpa using hr
 ·left; rw [hz,hz]
theorem tk_at {t:List Tk} (h:fMay t=true) {v:Int} (h0:0≤v) (h1:v < t.length):0≤(tkAt t v).work∧(tkAt t v).work≤20:=by
 unfold fMay at h
 simp only [Bool.and_eq_true,List.all_eq_true] at h
 have:=h.1.2 (tkAt t v) (by unfold tkAt; exact getD_memW (by omega))
 simpa [okWork] using this
theorem may_start {t:List Tk} {s:List It} (h:tMay t s=true) (v:Int):tMay t (tStart t s v)=true:=by
 unfold tStart
 split
 ·rename_i k
  obtain ⟨_,k0,k1⟩:=k
  simp only [tMay,Bool.and_eq_true,List.all_eq_true] at h ⊢
  refine ⟨h.1,fun x hx=>?_⟩
  rcases List.mem_append.1 hx with hx | hx
  ·exact h.2 x hx
  ·have:=List.mem_singleton.1 hx
   subst this
   have:=tk_at h.1 k0 k1
   simp [okItem]; omega
 ·exact h
theorem may_set {t:List Tk} {s:List It} (h:tMay t s=true) {k:Nat} {x:It} (hx:okItem t x=true):tMay t (s.set k x)=true:=by
 simp only [tMay,Bool.and_eq_true,List.all_eq_true] at h ⊢
 refine ⟨h.1,fun y hy=>?_⟩
 rcases mem_setD hy with rfl | hy
 ·exact hx
 ·exact h.2 y hy
theorem may_do {t:List Tk} {s:List It} (ht:tB t=true) (h:tMay t s=true):tMay t (tDo t s)=true:=by
 by_cases h0:s=[]
 ·subst h0; simpa [tDo,tNext] using h
 have ho:=top_ok h h0
 simp only [okItem,Bool.and_eq_true,decide_eq_true_eq,Bool.not_eq_true'] at ho
 have hkl:(tkAt t (top s).task).kids.length≤1000:=by
  have:=List.all_eq_true.1 ht (tkAt t (top s).task) (by unfold tkAt; exact getD_memW (by omega))
  simpa using this
 have hf:fMay t=true:=by simp only [tMay,Bool.and_eq_true] at h; exact h.1
 have hwk:=tk_at hf ho.1.1.1.1.1.1 ho.1.1.1.1.1.2
 have hlast:=ho.2
 rw [Bool.and_eq_false_iff] at hlast
 simp only [decide_eq_false_iff_not] at hlast
 unfold tDo
 unfold tNext
 have hn:¬ (s=[]∨tMay t s=false):=by rw [h]; simp [h0]
 rw [if_neg hn]
 by_cases c1:(top s).done < (tkAt t (top s).task).work
 ·rw [if_pos c1,if_pos rfl]
  refine may_set h ?_
  rw [wrap_i (by omega) (by omega)]
  simp only [okItem,Bool.and_eq_true,decide_eq_true_eq,Bool.not_eq_true',Bool.and_eq_false_iff,decide_eq_false_iff_not]
  omega
 ·rw [if_neg c1]
  by_cases c2:(top s).kid < (tkAt t (top s).task).kids.length
  ·rw [if_pos c2,if_neg (by simp),if_pos rfl]
   refine may_set h ?_
   rw [wrap_i (by omega) (by omega)]
   simp only [okItem,Bool.and_eq_true,decide_eq_true_eq,Bool.not_eq_true',Bool.and_eq_false_iff,decide_eq_false_iff_not]
   omega
  ·rw [if_neg c2,if_neg (by simp),if_neg (by simp),if_pos rfl]
   simp only [tMay,Bool.and_eq_true,List.all_eq_true] at h ⊢
   exact ⟨h.1,fun x hx=>h.2 x (List.mem_of_mem_take hx)⟩
def WM (t:List Tk) (r:WR):Prop:=0≤r.2.1.pc∧r.2.1.pc < 16∧tMay t r.2.1.stack=true
theorem wmay_go {c:Cf} {t:List Tk} {m:List Int} {w:Int} {x:Wk} (d:Int) (ht:tB t=true) (h:tMay t x.stack=true) (hp:0≤x.pc∧x.pc < 16):WM t (wStep c t m w x d):=by
 have hs:=may_start h
 have hd:=may_do ht h
 have h0:=hp.1
 have h1:=hp.2
 refine wStep_cases (Q:=WM t) c t m w x d (fun _=>⟨h0,h1,h⟩) ?_ ?_ ?_ ?_ ?_ ?_ ?_ ?_ ?_ ?_ ?_ ?_ ?_ ?_ ?_ ?_ <;> intro _ _
 all_goals first | unfold wq0 | unfold wq1 | unfold wq2 | unfold wq3 | unfold wq4 | unfold wq5 | unfold wq6 | unfold wq7 | unfold wq8 | unfold wq9 | unfold wq10 | unfold wq11 | unfold wq12 | unfold wq13 | unfold wq14 | unfold wq15
 all_goals try dsimp only
 all_goals repeat' split
 all_goals simp only [WM,stW,toW,withW,atF]
 all_goals first | exact ⟨h0,h1,h⟩ | exact ⟨h0,h1,hs _⟩ | exact ⟨by decide,by decide,h⟩ | exact ⟨by decide,by decide,hs _⟩ | exact ⟨by decide,by decide,hd⟩
theorem okSub_step {c:Cf} {n:Nat} {m:List Int} {i:Int} {x:Sb} (h:okSub n x=true) (hr:0 < x.roots.length):okSub n (sbStep c m i x).2.1=true:=by
 simp only [okSub,Bool.and_eq_true,decide_eq_true_eq,List.all_eq_true] at h
 obtain ⟨⟨⟨h0,h1⟩,h2⟩,h3⟩:=h
 have a:∀ p:Int,0≤p→p < 6→∀ f,okSub n ⟨p,x.roots,f⟩=true:=fun p p0 p1 f=>by
  simp only [okSub,Bool.and_eq_true,decide_eq_true_eq,List.all_eq_true,Bool.or_eq_true]
  exact ⟨⟨⟨p0,p1⟩,h2⟩,.inr hr⟩
 have b:okSub n (doneS x)=true:=by
  simp only [okSub,doneS,Bool.and_eq_true,List.all_eq_true,Bool.or_eq_true]
  exact ⟨⟨⟨by simp,by simp⟩,fun y hy=>h2 y (List.mem_of_mem_drop hy)⟩,.inl rfl⟩
 unfold sbStep sq0 sq1 sq2 sq3 sq4 sq5
 dsimp only
 repeat' split
 all_goals try dsimp only
 all_goals first | exact b | exact a _ (by decide) (by decide) _
theorem pmay_go {p:Po} (ht:tB p.t=true) (h:pMay p=true) (hml:∀ k,(pGo p k).1.m.length=p.m.length) (k:Pk):pMay (pGo p k).1=true:=by
 have hml:=hml k
 unfold pGo at hml ⊢
 split
 ·rename_i hf
  rw [if_pos hf] at hml
  unfold pStep' at hml ⊢
  simp only [pMay,Bool.and_eq_true,beq_iff_eq,decide_eq_true_eq] at h
  obtain ⟨⟨⟨⟨m1,m2⟩,m3⟩,m4⟩,m5⟩:=h
  unfold allW at m4
  rw [List.all_eq_true] at m4
  by_cases h0:k.kind=0
  ·rw [if_pos h0] at hml ⊢
   obtain ⟨f1,f2⟩:=fits_w hf h0
   have hlt:k.who.toNat < p.w.length:=by omega
   have hx:=m4 k.who.toNat (List.mem_range.2 hlt)
   have hx':=hx
   simp only [wMay,Bool.and_eq_true,decide_eq_true_eq] at hx'
   have hg:=wmay_go (c:=p.c) (m:=p.m) (w:=k.who) k.draw ht hx'.2 ⟨hx'.1.1.2,hx'.1.2⟩
   generalize hr:wStep p.c p.t p.m k.who (p.w.getD k.who.toNat wk0) k.draw=r at *
   obtain ⟨m',x',ev⟩:=r
   dsimp only at hml hg ⊢
   simp only [pMay,Bool.and_eq_true,beq_iff_eq,decide_eq_true_eq]
   refine ⟨⟨⟨⟨m1,by simpa using m2⟩,m3⟩,?_⟩,m5⟩
   unfold allW
   rw [List.all_eq_true]
   intro j hj
   have hj':j < p.w.length:=by simpa using List.mem_range.1 hj
   have hy:=m4 j (List.mem_range.2 hj')
   dsimp only
   simp only [wMay,Bool.and_eq_true,beq_iff_eq,decide_eq_true_eq] at hy ⊢
   rw [hml]
   rw [getD_setW hlt]
   split
   ·exact ⟨⟨⟨hy.1.1.1,hg.1⟩,hg.2.1⟩,hg.2.2⟩
   ·exact hy
  ·rw [if_neg h0] at hml ⊢
   by_cases h1:k.kind=1
   ·rw [if_pos h1] at hml ⊢
    obtain ⟨f1,f2⟩:=fits_s hf h1
    have hlt:k.who.toNat < p.s.length:=by omega
    split
    ·rename_i hm
     rw [if_pos hm] at hml
     have hrl:0 < (p.s.getD k.who.toNat sb0).roots.length:=by
      simp only [sMay,Bool.and_eq_true,decide_eq_true_eq] at hm
      have:=hm.1.1.2
      omega
     have hso:=okSub_step (c:=p.c) (m:=p.m) (i:=k.who) (List.all_eq_true.1 m5 _ (getD_memW (d:=sb0) hlt)) hrl
     generalize hr:sbStep p.c p.m k.who (p.s.getD k.who.toNat sb0)=r at *
     obtain ⟨m',x',ev⟩:=r
     dsimp only at hml hso ⊢
     simp only [pMay,Bool.and_eq_true,beq_iff_eq,decide_eq_true_eq]
     refine ⟨⟨⟨⟨m1,m2⟩,by simpa using m3⟩,?_⟩,?_⟩
     ·unfold allW
      rw [List.all_eq_true]
      intro j hj
      have hy:=m4 j hj
      simp only [wMay,Bool.and_eq_true,beq_iff_eq,decide_eq_true_eq] at hy ⊢
      rw [hml]; exact hy
     ·rw [List.all_eq_true]
      intro y hy
      rcases mem_setD hy with rfl | hy
      ·exact hso
      ·exact List.all_eq_true.1 m5 y hy
    ·simp only [pMay,Bool.and_eq_true,beq_iff_eq,decide_eq_true_eq]
     exact ⟨⟨⟨⟨m1,m2⟩,m3⟩,by unfold allW; rw [List.all_eq_true]; exact m4⟩,m5⟩
   ·rw [if_neg h1] at hml ⊢
    split
    ·rename_i h2
     rw [if_pos h2] at hml
     dsimp only at hml
     simp only [pMay,Bool.and_eq_true,beq_iff_eq,decide_eq_true_eq]
     refine ⟨⟨⟨⟨m1,m2⟩,m3⟩,?_⟩,m5⟩
     unfold allW
     rw [List.all_eq_true]
     intro j hj
     have hy:=m4 j hj
     simp only [wMay,Bool.and_eq_true,beq_iff_eq,decide_eq_true_eq] at hy ⊢
     rw [hml]; exact hy
    ·simp only [pMay,Bool.and_eq_true,beq_iff_eq,decide_eq_true_eq]
     exact ⟨⟨⟨⟨m1,m2⟩,m3⟩,by unfold allW; rw [List.all_eq_true]; exact m4⟩,m5⟩
 ·exact h
end Go.Vai

/- One step of a pool; how many are queued. -/
namespace Go.Vai
open Go.RowKit Go.Proofs
set_option maxHeartbeats 4000000
set_option maxRecDepth 100000
def rowsBB:List Row:=[
 (45,row2 shC shM fun c m=>some (iv (eLen c m))),
 (46,row3 shC shM shI fun c m w=>some (lv c m w))] ++ rowsAX
theorem rowsBB_ok:∀ p∈rowsBB,RowOk Tryz.prog p:=fun p h=>by
 simp only [rowsBB,List.mem_append,List.mem_cons,List.not_mem_nil,or_false,or_assoc] at h
 rcases h with rfl | rfl | h
 ·exact ok_row2 (enters_of Tryz.func45 (by decide) rfl) fun c m r _ g e=>by cases e; exact length_pure c m (shM_got g)
 ·exact ok_row3 (enters_of Tryz.func46 (by decide) rfl) fun c m w r _ g _ e=>by cases e; exact list_pure c m w (shM_got g)
 ·exact rowsAX_ok p h
theorem okBB:(ctx Tryz.prog rowsBB).ok:=rows_ok rowsBB_ok
theorem BB_all:tabC rowsBB 45=(row2 shC shM fun c m=>some (iv (eLen c m)))∧tabC rowsBB 46=(row3 shC shM shI fun c m w=>some (lv c m w))∧tabC rowsBB 25=(row2 shPo shPs fun p l=>if RIn p l then some (.tup [pov (pRun p l).1,evs (pRun p l).2]) else none)∧tabC rowsBB 44=(row1 shPo fun p=>if PB p 100000 then some (bv (pMay p)) else none)∧tabC rowsBB 191=(row1 shN fun e=>some (.tup [u (wBump e),iv (wLow (wMask e))]))∧tabC rowsBB 190=(fun _=>none)∧tabC rowsBB 192=(fun _=>none)∧tabC rowsBB 30=(row1 shN fun e=>some (u (wMask e))):=⟨rfl,rfl,rfl,rfl,rfl,rfl,rfl,rfl⟩
theorem shPs_one (a b c:Int):shPs.dec (.lst 3 [.agg [.v (.int .i64 a),.v (.int .i64 b),.v (.int .u64 c)]])=some [⟨a,b,c⟩]:=shPs_dec [⟨a,b,c⟩]
theorem shPs_arr (a b c:Nat):shPs.dec (.arr a b c)=none:=rfl
theorem pstep_pure (p:Po) (k:Pk) (h:RIn p [k]):PureC Tryz.prog 16 [pov p,pkv k] (.tup [pov (pRun p [k]).1,evs (pRun p [k]).2]):=by
 refine pure_sub okBB 2 Tryz.func16 rfl (by show 2≤_; decide) ?_
 generalize hq:pRun p [k]=q at *
 obtain ⟨⟨cw,cd,ci,cs⟩,pt,pm,pw,ps⟩:=p
 obtain ⟨⟨⟨qcw,qcd,qci,qcs⟩,qt,qm,qw,qs⟩,qe⟩:=q
 obtain ⟨k1,k2,k3⟩:=k
 simp only [Tryz.f16,BB_all,sx_all,shPs_one,shPs_arr,h,hq,if_true,tks,pov,pkv,wks,sbs,evs,ms,List.map_nil,tt_all,hfree_lu,row2,iv,u,ms,ctx_T,ctx_C,Option.bind_some,Option.bind_none,ev1,ev2,undef,resB,cv,stepB,aopR,one,pre,argFrm,evo,lkp,hlk,ofVal,ofCells,setCells,setElems,AV.wr,AV.ok1,TK.agg,frz,frz1,frzt,frzs,frzA,frzArg,frzArgs,subA,subB,subM,subL,sub1,List.replicate,Nat.reduceAdd,Nat.reduceMul,Nat.reduceEqDiff,Nat.reduceLT,Nat.reduceLeDiff,reduceCtorEq,eq_self,ne_eq]
 repeat' apply And.intro
 any_goals exact hf_tks _
 all_goals first | exact hf_evs _ | exact hf_wks _ | exact hf_sbs _ | exact hfree_ms _ | rfl | trivial
def qN (p:Po) (i:Nat):Nat:=((List.range i).map fun (w:Nat)=>(dList p.c p.m w).length).sum
def qd (p:Po):Int:=if pMay p=true then eLen p.c p.m + qN p p.w.length else 0
theorem qN_succ (p:Po) (i:Nat):qN p (i + 1)=qN p i + (dList p.c p.m i).length:=by
 unfold qN
 rw [List.range_succ,List.map_append,List.sum_append]
 rfl
theorem qN_le (p:Po):∀ i,qN p i≤16 * i
 | 0=>Nat.zero_le _
 | i + 1=>by
  rw [qN_succ]
  have:=qN_le p i
  have:=len_dList p.c p.m i
  omega
theorem queued_pure (p:Po) (h:PB p 100000) (hl:pMay p=true→0≤eLen p.c p.m∧eLen p.c p.m≤100000):PureC Tryz.prog 18 [pov p] (iv (qd p)):=by
 refine pure_sub okBB 2 Tryz.func18 rfl (by show 1≤_; decide) ?_
 obtain ⟨⟨cw,cd,ci,cs⟩,t,m,ws,ss⟩:=p
 have hm:=h.m
 dsimp only at hm
 unfold qd
 cases h1:pMay ⟨⟨cw,cd,ci,cs⟩,t,m,ws,ss⟩ with
 | false=>
  simp only [Tryz.f18,BB_all,sx_all,h,h1,pov,tks,wks,sbs,ms,Bool.not_false,tt_all,row1,iv,bv,ms,ctx_T,ctx_C,Option.bind_some,ev1,ev2,undef,↓condE_t,resB,cv,stepB,aopR,one,pre,unR,argFrm,evo,lkp,hlk,ofCells,AV.wr,AV.ok1,TK.agg,frz,frz1,frzA,subA,subB,sub1,Nat.reduceAdd,Nat.reduceEqDiff,Nat.reduceLT,Nat.reduceLeDiff,reduceCtorEq,eq_self,ne_eq]
  all_goals ((repeat' apply And.intro) <;> first | rfl | omega | (show (_:Bool)=true; kernel_rfl) | decide)
 | true=>
  obtain ⟨l0,l1⟩:=hl h1
  have h1':=h1
  simp only [pMay,Bool.and_eq_true,decide_eq_true_eq,beq_iff_eq] at h1'
  obtain ⟨⟨⟨⟨q1,q2⟩,q3⟩,q4⟩,q5⟩:=h1'
  have hw8:ws.length≤8:=by have:=mayC_iff.1 q1; dsimp only at this; omega
  subst q2
  rw [if_pos rfl]
  have hqs:=qN_succ ⟨⟨ws.length,cd,ci,cs⟩,t,m,ws,ss⟩
  have hql:=qN_le ⟨⟨ws.length,cd,ci,cs⟩,t,m,ws,ss⟩
  generalize hQ:qN ⟨⟨ws.length,cd,ci,cs⟩,t,m,ws,ss⟩=Q at *
  dsimp only at hqs l0 l1 ⊢
  have hQ0:Q 0=0:=by rw [← hQ]; rfl
  clear hQ
  generalize hE:eLen ⟨ws.length,cd,ci,cs⟩ m=E at *
  simp only [Tryz.f18,BB_all,sx_all,h,h1,hE,hm,pov,tks,wks,sbs,ms,Bool.not_true,tt_all,shC_dec,dC,row1,row2,shM_dec,dM,dU_map,iv,bv,ms,ctx_T,ctx_C,Option.bind_some,ev1,ev2,implies_true,undef,↓condE_f,cv,stepB,aopR,one,pre,unR,argFrm,evo,lkp,hlk,ofCells,AV.wr,AV.ok1,TK.agg,frz,frz1,frzA,subA,subB,sub1,Nat.reduceAdd,Nat.reduceEqDiff,Nat.reduceLT,Nat.reduceLeDiff,reduceCtorEq,eq_self,ne_eq]
  have hQ0':iv E=iv (E + ((Q 0:Nat):Int)):=by rw [hQ0]; simp
  refine WP.loop (ι:=Nat) (fun i=>ws.length - i) (fun i=>i≤ws.length) (n:=36)
   (fr:=fun i=>[(18,iv i),(17,iv ws.length),(3,iv (E + ((Q i:Nat):Int))),(1,.ptr 0 0 0)])
   (hp:=fun i=>[(0,some ⟨false,34,8,[pov ⟨⟨ws.length,cd,ci,cs⟩,t,m,ws,ss⟩]⟩)])
   (N:=0) ?_ 0 (Nat.zero_le _) rfl (Nat.zero_le _) ⟨rfl,rfl,hQ0',rfl,trivial⟩ ⟨rfl,trivial⟩
  rintro i nx g1 hN hid
  have n0:0 < nx:=hid 0 _ (by rw [hlk_cons,if_pos rfl])
  refine WP.of okBB 1 (by rfl) ?_
  by_cases hi:i < ws.length
  ·have hz:(i:Int) < ws.length:=by omega
   have hz0:(0:Int)≤(i:Int):=by omega
   have w1:IntKind.wrap .i64 ((i:Int) + 1)=((i + 1:Nat):Int):=by rw [wrap_i (by omega) (by omega)]; omega
   have hqi:=hqs i
   have hli:=hql (i + 1)
   have w2:IntKind.wrap .i64 (E + (Q i:Int) + ((dList ⟨ws.length,cd,ci,cs⟩ m i).length:Int))=E + ((Q (i + 1):Nat):Int):=by rw [wrap_i (by omega) (by omega)]; omega
   simp only [BB_all,hz,hm,w1,w2,lv,pov,tks,wks,sbs,ms,List.length_map,Nat.add_assoc,tt_all,shC_dec,dC,row3,shI_dec,shM_dec,dI,dM,dU_map,iv,bv,ms,ctx_T,ctx_C,Option.bind_some,List.length_map,ev1,ev2,implies_true,undef,↓condE_t,cv,stepB,aopR,one,pre,binR,intOpR,evo,lkp,hlk,lenOf,ofCells,TK.agg,sub1,kp,kh,Nat.reduceAdd,Nat.reduceEqDiff,Nat.reduceLT,Nat.reduceLeDiff,reduceCtorEq,eq_self,ne_eq]
   exact ⟨i + 1,by omega,by omega,rfl,rfl⟩
  ·have hz:¬ (i:Int) < ws.length:=by omega
   have e:i=ws.length:=by omega
   subst e
   simp only [hz,pov,tks,wks,sbs,Nat.add_assoc,iv,ms,ev1,ev2,undef,↓condE_f,resB,cv,stepB,aopR,one,pre,binR,intOpR,evo,lkp,Nat.reduceAdd,Nat.reduceLT,eq_self]
   all_goals ((repeat' apply And.intro) <;> first | rfl | omega | (show (_:Bool)=true; kernel_rfl) | decide)
end Go.Vai

/- Some are queued, and all are parked: never. What the walk needs. -/
namespace Go.Vai
open Go.RowKit Go.Proofs
set_option maxHeartbeats 4000000
set_option maxRecDepth 100000
structure Aw (p0:Po) (n:Nat) (p:Po):Prop where
 aw:AwI p n
 pin:PIn p0 n p
 may:pMay p=true
theorem Aw.new {c:Cf} {t:List Tk} {r:List (List Int)} (ht:tB t=true) (hr:rtB r=true) (h:(pNew c t r).2=true):Aw (newP c t r) 0 (newP c t r)∧PB (newP c t r) 50000:=by
 obtain ⟨e1,e2,e3⟩:=new_rin (l:=[]) ht hr (Nat.zero_le _) h
 refine ⟨⟨AwI.new e2 ?_,⟨rfl,rfl,rfl,rfl,rfl,fun x hx=>?_,fun x hx=>⟨e3.b.s x hx,e3.s x hx⟩⟩,e3.may⟩,e3.b⟩
 ·have:=e3.may
  simp only [pMay,Bool.and_eq_true,decide_eq_true_eq] at this
  have:=this.1.1.2
  simpa [newP] using this
 ·obtain ⟨i,_,rfl⟩:=List.mem_map.1 hx
  exact ⟨Nat.le_refl _,by simp [opOk,newW]⟩
theorem Aw.cw {p0 p:Po} {n:Nat} (h:Aw p0 n p):(p.w.length:Int)=p.c.w:=h.aw.si.wl
theorem Aw.rin {p0 p:Po} {n:Nat} (h:Aw p0 n p) (hn:n≤900) (b:PB p0 50000) (k:Pk):RIn p [k]:=
 ⟨⟨by rw [h.pin.t]; exact b.t,by rw [h.pin.m]; exact b.m,fun x hx=>by have:=(h.pin.ws x hx).1; omega,fun x hx=>(h.pin.ss x hx).1⟩,h.may,by simp,fun x hx=>(h.pin.ws x hx).2,fun x hx=>(h.pin.ss x hx).2⟩
theorem Aw.go {p0 p:Po} {n:Nat} (h:Aw p0 n p) (hn:n≤900) (b:PB p0 50000) (k:Pk):Aw p0 (n + 1) (pGo p k).1:=by
 have hw:(p0.w.length:Int)=p0.c.w:=by have:=h.cw; rw [h.pin.w,h.pin.c] at this; exact this
 have hp:=fun k=>h.pin.go hw k
 exact ⟨h.aw.go hn k,hp k,pmay_go (by rw [h.pin.t]; exact b.t) h.may (fun k=>by rw [(hp k).m,h.pin.m]) k⟩
theorem Aw.pb {p0 p:Po} {n:Nat} (h:Aw p0 n p) (hn:n≤900) (b:PB p0 50000):PB p 100000:=
 ⟨by rw [h.pin.t]; exact b.t,by rw [h.pin.m]; exact b.m,fun x hx=>by have:=(h.pin.ws x hx).1; omega,fun x hx=>(h.pin.ss x hx).1⟩
theorem Aw.elen {p0 p:Po} {n:Nat} (h:Aw p0 n p):eLen p.c p.m=mLoad p.m 5 - mLoad p.m 4∧0≤eLen p.c p.m∧eLen p.c p.m≤100000:=by
 have hle:=h.aw.le
 obtain ⟨V,H,hist,q,_⟩:=h.aw.inj
 have hc:=mayC_iff.1 h.aw.si.mi.may
 have h4:=q.head
 have h5:=q.tail
 have hr:=q.room
 have e:eLen p.c p.m=mLoad p.m 5 - mLoad p.m 4:=by
  unfold eLen far
  rw [h.aw.si.mi.may,decide_eq_true h.aw.si.mi.len,Bool.true_and,if_pos rfl,wrap_i (by omega) (by omega)]
 rw [e]
 exact ⟨rfl,by omega,by omega⟩
def someW (p:Po) (n:Nat):Bool:=(List.range n).any fun i=>!rest1 p.c p.m i (p.w.getD i wk0)
def someS (p:Po) (n:Nat):Bool:=(p.s.take n).any busy
theorem someW_succ (p:Po) (n:Nat):someW p (n + 1)=(someW p n || !rest1 p.c p.m n (p.w.getD n wk0)):=by
 unfold someW
 rw [List.range_succ,List.any_append]
 simp
theorem someS_succ (p:Po) {n:Nat} (h:n < p.s.length):someS p (n + 1)=(someS p n || busy (p.s.getD n sb0)):=by
 unfold someS
 rw [List.take_add_one,List.any_append]
 simp [List.getElem?_eq_getElem h,List.getD_eq_getElem?_getD]
theorem Aw.up {p0 p:Po} {n:Nat} (h:Aw p0 n p) (hs:(someW p p.w.length || someS p p.s.length)=false):qd p=0:=by
 rw [Bool.or_eq_false_iff] at hs
 obtain ⟨s1,s2⟩:=hs
 unfold someW at s1
 unfold someS at s2
 rw [List.take_length] at s2
 rw [List.any_eq_false] at s1 s2
 obtain ⟨e45,ebt⟩:=h.aw.rest (fun i hi=>by
  have:=s1 i (List.mem_range.2 hi)
  simp only [rest1,Bool.not_eq_true',Bool.not_eq_false,Bool.and_eq_true,beq_iff_eq] at this
  exact ⟨this.1,by unfold parked; simp [this.2]⟩) (fun k hk=>by
  have:=s2 _ (getD_memW (d:=sb0) hk)
  simpa [busy] using this)
 unfold qd
 rw [if_pos h.may,h.elen.1,e45]
 have:∀ i,i≤p.w.length→qN p i=0:=by
  intro i
  induction i with
  | zero=>intro _; rfl
  | succ i ih=>
   intro hi
   rw [qN_succ,ih (by omega)]
   have e:dNum p.c p.m i=0:=by
    unfold dNum far
    rw [ebt i (by omega),wrap_i (by omega) (by omega)]
    omega
   unfold dList
   rw [e]
   split <;> simp
 rw [this _ (Nat.le_refl _)]
 simp
end Go.Vai

/- Some are queued, and all are parked: never. The law. -/
namespace Go.Vai
open Go.RowKit Go.Proofs
set_option maxHeartbeats 4000000
set_option maxRecDepth 100000
def rowsBC:List Row:=[
 (6,row0 (bv true)),
 (23,row1 shT fun t=>some (bv (few t))),
 (24,row1 shZss fun t=>some (bv (fewR t))),
 (16,row2 shPo shPk fun p k=>if RIn p [k] then some (.tup [pov (pRun p [k]).1,evs (pRun p [k]).2]) else none),
 (18,row1 shPo fun p=>if PB p 100000∧0≤eLen p.c p.m∧eLen p.c p.m≤100000 then some (iv (qd p)) else none)] ++ rowsBB
theorem rowsBC_ok:∀ p∈rowsBC,RowOk Tryz.prog p:=fun p h=>by
 simp only [rowsBC,List.mem_append,List.mem_cons,List.not_mem_nil,or_false,or_assoc] at h
 rcases h with rfl | rfl | rfl | rfl | rfl | h
 ·exact ok_row0 (enters_of Tryz.func6 (by decide) rfl) awake_pure
 ·exact ok_row1 (enters_of Tryz.func23 (by decide) rfl) fun t r _ e=>by cases e; exact few_pure t
 ·exact ok_row1 (enters_of Tryz.func24 (by decide) rfl) fun t r _ e=>by cases e; exact fewr_pure t
 ·exact ok_row2 (enters_of Tryz.func16 (by decide) rfl) fun p k r _ _ e=>by obtain ⟨h,rfl⟩:=opt_if e; exact pstep_pure p k h
 ·exact ok_row1 (enters_of Tryz.func18 (by decide) rfl) fun p r _ e=>by obtain ⟨h,rfl⟩:=opt_if e; exact queued_pure p h.1 fun _=>h.2
 ·exact rowsBB_ok p h
theorem okBC:(ctx Tryz.prog rowsBC).ok:=rows_ok rowsBC_ok
theorem BC_all:tabC rowsBC 6=(row0 (bv true))∧tabC rowsBC 23=(row1 shT fun t=>some (bv (few t)))∧tabC rowsBC 24=(row1 shZss fun t=>some (bv (fewR t)))∧tabC rowsBC 7=(fun _=>none)∧tabC rowsBC 16=(row2 shPo shPk fun p k=>if RIn p [k] then some (.tup [pov (pRun p [k]).1,evs (pRun p [k]).2]) else none)∧tabC rowsBC 18=(row1 shPo fun p=>if PB p 100000∧0≤eLen p.c p.m∧eLen p.c p.m≤100000 then some (iv (qd p)) else none)∧tabC rowsBC 10=(row1 shWk fun x=>some (bv (wkPark x)))∧tabC rowsBC 17=(fun _=>none)∧tabC rowsBC 14=(row3 shC shT shZss fun c t r=>if tB t=true∧rtB r=true then some (.tup [pov (pNew c t r).1,bv (pNew c t r).2]) else none)∧tabC rowsBC 15=(row1 shBy fun b=>if b.length≤1500 then some (pks (decode b)) else none)∧tabC rowsBC 191=(row1 shN fun e=>some (.tup [u (wBump e),iv (wLow (wMask e))]))∧tabC rowsBC 190=(fun _=>none)∧tabC rowsBC 192=(fun _=>none)∧tabC rowsBC 30=(row1 shN fun e=>some (u (wMask e)))∧tabC rowsBC 13=(row2 shC shI fun c w=>some (iv (lPark c w)))∧tabC rowsBC 12=(row2 shM shI fun m i=>some (u (mLoad m i))):=⟨rfl,rfl,rfl,rfl,rfl,rfl,rfl,rfl,rfl,rfl,rfl,rfl,rfl,rfl,rfl,rfl⟩
theorem awake_law (c:Cf) (t:List Tk) (roots:List (List Int)) (b:List Int):PureC Tryz.prog 4 [cv' c,tks t,zss roots,bys b] (bv true):=by
 refine pure_sub okBC 2 Tryz.func4 rfl (by show 4≤_; decide) ?_
 cases h1:few t with
 | false=>
  simp only [Tryz.f4,Tryz.func7,Tryz.f7,inl,BC_all,row0,sx_all,h1,tks,zss,bys,tt_all,cv',row0,row1,iv,bv,ctx_T,ctx_C,ctx_P,Option.bind_some,String.reduceBEq,ev1,ev2,undef,↓condE_t,↓guardE_ff,↓guardE_tf,↓guardE_ft,frzDeep,deepArgs,deepArg,resB,cv,stepB,guardB,guardC,dstAt,aopR,one,unR,argFrm,evo,lkp,AV.wr,AV.ok1,frz,frz1,frzA,frzArg,frzArgs,subA,subB,sub1,Nat.reduceAdd,Nat.reduceLT,Nat.reduceLeDiff,reduceCtorEq,eq_self,ne_eq]
  all_goals ((repeat' apply And.intro) <;> first | rfl | omega | (show (_:Bool)=true; kernel_rfl) | decide)
 | true=>
  cases h2:fewR roots with
  | false=>
   simp only [Tryz.f4,Tryz.func7,Tryz.f7,inl,BC_all,row0,sx_all,h1,h2,tks,zss,bys,tt_all,cv',row0,row1,iv,bv,ctx_T,ctx_C,ctx_P,Option.bind_some,String.reduceBEq,ev1,ev2,undef,↓condE_t,↓guardE_tt,↓guardE_ff,↓guardE_tf,frzDeep,deepArgs,deepArg,resB,cv,stepB,guardB,guardC,dstAt,aopR,one,unR,argFrm,evo,lkp,AV.wr,AV.ok1,frz,frz1,frzA,frzArg,frzArgs,subA,subB,sub1,Nat.reduceAdd,Nat.reduceLT,Nat.reduceLeDiff,reduceCtorEq,eq_self,ne_eq]
   all_goals ((repeat' apply And.intro) <;> first | rfl | omega | (show (_:Bool)=true; kernel_rfl) | decide)
  | true=>
   have htb:=few_tB h1
   have hrt:=fewR_rtB h2
   by_cases h3:(b.length:Int) > 1500
   ·simp only [Tryz.f4,Tryz.func7,Tryz.f7,inl,BC_all,row0,sx_all,h1,h2,h3,decide_true,tks,zss,bys,List.length_map,tt_all,cv',row0,row1,iv,bv,ctx_T,ctx_C,ctx_P,Option.bind_some,List.length_map,String.reduceBEq,ev1,ev2,undef,↓condE_t,↓guardE_tt,↓guardE_ff,frzDeep,deepArgs,deepArg,resB,cv,stepB,guardB,guardC,dstAt,aopR,one,pre,binR,intOpR,unR,argFrm,evo,lkp,lenOf,AV.wr,AV.ok1,frz,frz1,frzA,frzArg,frzArgs,subA,subB,sub1,Nat.reduceAdd,Nat.reduceLT,Nat.reduceLeDiff,reduceCtorEq,eq_self,ne_eq]
    all_goals ((repeat' apply And.intro) <;> first | rfl | omega | (show (_:Bool)=true; kernel_rfl) | decide)
   ·have h3':b.length≤1500:=by omega
    have hd:=decode_len 500 b (by omega)
    generalize hl:decode b=l at *
    obtain ⟨cw,cd,ci,cs⟩:=c
    cases hn:(pNew ⟨cw,cd,ci,cs⟩ t roots).2 with
    | false=>
     generalize (pNew ⟨cw,cd,ci,cs⟩ t roots).1=p at *
     obtain ⟨⟨pw,pd,pi,pp⟩,pt,pm,pws,pss⟩:=p
     simp only [Tryz.f4,Tryz.func7,Tryz.f7,inl,BC_all,row0,sx_all,shBy_dec,h1,h2,h3,h3',htb,hrt,hl,hn,and_self,decide_false,pov,wks,sbs,pks,ms,tks,zss,bys,List.length_map,tt_all,cv',shC_dec,dC,row0,row1,row3,iv,bv,ms,ctx_T,ctx_C,ctx_P,Option.bind_some,List.length_map,String.reduceBEq,ev1,ev2,undef,↓condE_f,↓guardE_tt,↓guardE_ff,frzDeep,deepArgs,deepArg,resB,cv,stepB,guardB,guardC,dstAt,aopR,one,pre,binR,intOpR,unR,argFrm,evo,lkp,hlk,lenOf,ofVal,ofCells,setCells,AV.wr,AV.ok1,TK.agg,frz,frz1,frzA,frzArg,frzArgs,subA,subB,sub1,Nat.reduceAdd,Nat.reduceEqDiff,Nat.reduceLT,Nat.reduceLeDiff,reduceCtorEq,eq_self,ne_eq]
     refine WP.rounds okBC 2 1 (by rfl) ?_
     by_cases hl0:(0:Int) < l.length
     ·simp only [r_rounds,hl0,decide_true,List.length_map,tt_all,ctx_T,List.length_map,ev1,ev2,undef,↓condE_f,↓guardE_tt,resB,cv,stepB,guardB,guardC,dstAt,aopR,one,pre,binR,intOpR,evo,lkp,lenOf,Nat.reduceAdd,Nat.reduceLT,eq_self]
      all_goals ((repeat' apply And.intro) <;> first | rfl | omega | (show (_:Bool)=true; kernel_rfl) | decide)
     ·simp only [r_rounds,hl0,decide_false,List.length_map,tt_all,ctx_T,List.length_map,ev1,ev2,undef,↓condE_f,↓guardE_ft,resB,cv,stepB,guardB,guardC,dstAt,aopR,one,pre,binR,intOpR,evo,lkp,lenOf,Nat.reduceAdd,Nat.reduceLT,eq_self]
      all_goals ((repeat' apply And.intro) <;> first | rfl | omega | (show (_:Bool)=true; kernel_rfl) | decide)
    | true=>
     obtain ⟨e1,e2,e3⟩:=new_rin (l:=[]) htb hrt (Nat.zero_le _) hn
     obtain ⟨hA,hB⟩:=Aw.new htb hrt hn
     generalize hP:newP ⟨cw,cd,ci,cs⟩ t roots=P at *
     have hPc:P.c=⟨cw,cd,ci,cs⟩:=by rw [← hP]; rfl
     obtain ⟨Pc,pt,pm,pws,pss⟩:=P
     dsimp only at hPc
     subst hPc
     simp only [Tryz.f4,Tryz.func7,Tryz.f7,inl,BC_all,row0,sx_all,shBy_dec,h1,h2,h3,h3',htb,hrt,hl,hn,e1,and_self,decide_false,pov,wks,sbs,pks,ms,tks,zss,bys,List.length_map,tt_all,cv',shC_dec,dC,row0,row1,row3,iv,bv,ms,ctx_T,ctx_C,ctx_P,Option.bind_some,List.length_map,String.reduceBEq,ev1,ev2,undef,↓condE_f,↓guardE_tt,↓guardE_ff,frzDeep,deepArgs,deepArg,resB,cv,stepB,guardB,guardC,dstAt,aopR,one,pre,binR,intOpR,unR,argFrm,evo,lkp,hlk,lenOf,ofVal,ofCells,setCells,AV.wr,AV.ok1,TK.agg,frz,frz1,frzA,frzArg,frzArgs,subA,subB,sub1,Nat.reduceAdd,Nat.reduceEqDiff,Nat.reduceLT,Nat.reduceLeDiff,reduceCtorEq,eq_self,ne_eq]
     have hA':Aw ⟨⟨cw,cd,ci,cs⟩,pt,pm,pws,pss⟩ 0 ⟨⟨cw,cd,ci,cs⟩,pt,pm,pws,pss⟩:=hA
     generalize hP0:(⟨⟨cw,cd,ci,cs⟩,pt,pm,pws,pss⟩:Po)=P0 at hB
     rw [hP0] at hA
     refine WP.loop (ι:=Nat × Po) (fun x=>l.length - x.1) (fun x=>x.1≤l.length∧x.2.c=⟨cw,cd,ci,cs⟩∧Aw P0 x.1 x.2) (n:=113)
      (fr:=fun x=>[(14,iv x.1),(13,pks l),(12,bv true),(11,.ptr 38 0 0),(4,.ptr 0 0 0)])
      (hp:=fun x=>[(38,some ⟨false,34,8,[pov x.2]⟩),(0,some ⟨false,23,4,[cv' ⟨cw,cd,ci,cs⟩]⟩)])
      (N:=0) ?_ (0,⟨⟨cw,cd,ci,cs⟩,pt,pm,pws,pss⟩) ⟨Nat.zero_le _,rfl,by rw [hP0]; exact hA⟩ rfl (Nat.zero_le _) ⟨rfl,rfl,rfl,rfl,rfl,trivial⟩ ⟨rfl,rfl,trivial⟩
     clear hA hA' hP e1 e3 hn
     rintro ⟨i,⟨qc,qt,qm,qws,qss⟩⟩ nx ⟨g1,g2,g3⟩ _ hid
     dsimp only at g1 g2 g3
     subst g2
     have n38:38 < nx:=hid 38 _ (by rw [hlk_cons,if_pos rfl])
     have n0:0 < nx:=by omega
     refine WP.of okBC 2 (by rfl) ?_
     by_cases hi:i < l.length
     ·have hz:(i:Int) < l.length:=by omega
      have hz0:(0:Int)≤(i:Int):=by omega
      have hg:=getD_pk hi
      have w1:IntKind.wrap .i64 ((i:Int) + 1)=((i + 1:Nat):Int):=by rw [wrap_i (by omega) (by omega)]; omega
      have hri:=g3.rin (by omega) hB (l.getD i pk0)
      have hgo:=g3.go (by omega) hB (l.getD i pk0)
      have hgo:Aw P0 (i + 1) (pRun ⟨⟨cw,cd,ci,cs⟩,qt,qm,qws,qss⟩ [l.getD i pk0]).1:=hgo
      generalize l.getD i pk0=k at hg hri hgo
      generalize hR:pRun ⟨⟨cw,cd,ci,cs⟩,qt,qm,qws,qss⟩ [k]=R at *
      obtain ⟨⟨rc,rt,rm,rws,rss⟩,es⟩:=R
      obtain ⟨k1,k2,k3⟩:=k
      have hrc:rc=⟨cw,cd,ci,cs⟩:=by
       have a:=hgo.pin.c
       have b:=g3.pin.c
       dsimp only at a b
       rw [a,b]
      subst hrc
      dsimp only at hgo
      have hgw:=hgo.cw
      have hw8:rws.length≤8:=by have:=hgo.aw.si.mi.w8; dsimp only at this hgw; omega
      have hs3:rss.length≤3:=hgo.aw.sl
      have hpb:=hgo.pb (by omega) hB
      have hml:=hpb.m
      have hel:=hgo.elen
      have hup:=hgo.up
      dsimp only at hgw hml hel hup
      simp only [BC_all,sx_all,hz,hz0,hg,hri,hR,n38,pov,tks,wks,sbs,pks,evs,ms,pkv,decide_true,List.length_map,Int.toNat_natCast,nb_self,nb_lt,Nat.add_assoc,tt_all,cv',row2,iv,bv,u,ms,ctx_T,ctx_C,Option.bind_some,List.length_map,Int.toNat_natCast,ev1,ev2,undef,dynCall,↓condE_t,↓guardE_tt,cv,stepB,stepE,callD,tabD,guardB,guardC,dstAt,aopR,one,pre,binR,intOpR,evo,lkp,hlk,lenOf,ofVal,ofCells,setCells,AV.wr,AV.ok1,TK.agg,accOf,Nat.reduceAdd,Nat.reduceEqDiff,Nat.reduceLT,Nat.reduceLeDiff,reduceCtorEq,eq_self,ne_eq]
      repeat' apply And.intro
      any_goals (show entryOk _ _ _ _ _=true; (repeat (first | exact entryOk_nil _ _ _ _ | (refine entryOk_step ?h ?_; case h=>(first | (apply Or.inr; constructor <;> simp [meets] <;> omega; done) | (apply Or.inl; show anc _ _ _ _=true; kernel_rfl))))))
      refine WP.loop (ι:=Nat) (fun w=>rws.length - w) (fun w=>w≤rws.length) (n:=113)
       (fr:=fun w=>[(18,iv w),(17,bv (someW ⟨⟨cw,cd,ci,cs⟩,rt,rm,rws,rss⟩ w)),(14,iv i),(13,pks l),(12,bv true),(11,.ptr 38 0 0),(4,.ptr 0 0 0)])
       (hp:=fun _=>[(38,some ⟨false,34,8,[pov ⟨⟨cw,cd,ci,cs⟩,rt,rm,rws,rss⟩]⟩),(0,some ⟨false,23,4,[cv' ⟨cw,cd,ci,cs⟩]⟩)])
       (N:=0) ?_ 0 (Nat.zero_le _) rfl (Nat.zero_le _) ⟨rfl,rfl,rfl,rfl,rfl,rfl,rfl,trivial⟩ (by simp only [n0,pov,tks,wks,sbs,ms,and_self,cv',iv,ms,nb_lt,hlk,kh,eq_self])
      rintro w nx2 g4 _ hid2
      have m38:38 < nx2:=hid2 38 _ (by rw [hlk_cons,if_pos rfl])
      have m0:0 < nx2:=by omega
      refine WP.of okBC 2 (by rfl) ?_
      by_cases hw:w < rws.length
      ·have hy:(w:Int) < rws.length:=by omega
       have hy0:(0:Int)≤(w:Int):=by omega
       have hgx:=getD_w hw
       have w2:IntKind.wrap .i64 ((w:Int) + 1)=((w + 1:Nat):Int):=by rw [wrap_i (by omega) (by omega)]; omega
       have hsw:=someW_succ ⟨⟨cw,cd,ci,cs⟩,rt,rm,rws,rss⟩ w
       dsimp only at hsw
       generalize hF1:someW ⟨⟨cw,cd,ci,cs⟩,rt,rm,rws,rss⟩ w=F1 at *
       generalize hF2:someW ⟨⟨cw,cd,ci,cs⟩,rt,rm,rws,rss⟩ (w + 1)=F2 at *
       generalize rws.getD w wk0=x at *
       unfold rest1 at hsw
       cases F1 with
       | true=>
        rw [Bool.true_or] at hsw
        simp only [hy,w2,pov,tks,wks,sbs,pks,ms,List.length_map,Nat.add_assoc,tt_all,cv',iv,bv,ms,ctx_T,List.length_map,ev1,ev2,implies_true,undef,dynCall,↓condE_t,↓guardE_tf,cv,stepB,stepE,guardB,guardC,dstAt,aopR,one,pre,binR,intOpR,evo,lkp,hlk,lenOf,ofCells,TK.agg,sub1,kp,kh,Nat.reduceAdd,Nat.reduceLT,Nat.reduceLeDiff,reduceCtorEq,eq_self,ne_eq]
        refine ⟨w + 1,by omega,by omega,?_⟩
        rw [hF2,hsw]
        exact ⟨rfl,rfl⟩
       | false=>
        cases hx1:wkPark x with
        | false=>
         rw [hx1,Bool.false_and,Bool.not_false,Bool.false_or] at hsw
         simp only [BC_all,sx_all,hy,hy0,hgx,w2,hx1,pov,tks,wks,sbs,pks,ms,wv,its,List.length_map,Int.toNat_natCast,Nat.add_assoc,tt_all,cv',row1,iv,bv,u,ms,ctx_T,ctx_C,Option.bind_some,List.length_map,Int.toNat_natCast,fr_eta,ev1,ev2,implies_true,undef,dynCall,↓condE_t,↓guardE_ff,↓guardE_tf,cv,stepB,stepE,callD,tabD,guardB,guardC,dstAt,aopR,one,pre,binR,intOpR,unR,evo,lkp,hlk,lenOf,ofCells,TK.agg,sub1,kp,kh,accOf,Nat.reduceAdd,Nat.reduceEqDiff,Nat.reduceLT,Nat.reduceLeDiff,reduceCtorEq,eq_self,ne_eq]
         refine ⟨w + 1,by omega,by omega,?_⟩
         rw [hF2,hsw]
         exact ⟨rfl,rfl⟩
        | true=>
         cases hx2:(mLoad rm (lPark ⟨cw,cd,ci,cs⟩ w) == 0) with
         | false=>
          have hx2':(mLoad rm (lPark ⟨cw,cd,ci,cs⟩ w) != 0)=true:=by simp only [bne,hx2]; rfl
          rw [hx1,hx2,Bool.true_and,Bool.not_false,Bool.false_or] at hsw
          simp only [BC_all,sx_all,hy,hy0,hgx,hml,w2,hx1,hx2',pov,tks,wks,sbs,pks,ms,wv,its,List.length_map,Int.toNat_natCast,Nat.add_assoc,tt_all,cv',shC_dec,dC,row1,row2,shI_dec,shM_dec,dI,dM,dU_map,iv,bv,u,ms,ctx_T,ctx_C,Option.bind_some,List.length_map,Int.toNat_natCast,fr_eta,ev1,ev2,implies_true,undef,dynCall,↓condE_t,↓guardE_ff,cv,stepB,stepE,callD,tabD,guardB,guardC,dstAt,aopR,one,pre,binR,intOpR,unR,evo,lkp,hlk,lenOf,ofCells,TK.agg,sub1,kp,kh,accOf,Nat.reduceAdd,Nat.reduceEqDiff,Nat.reduceLT,Nat.reduceLeDiff,reduceCtorEq,eq_self,ne_eq]
          refine ⟨w + 1,by omega,by omega,?_⟩
          rw [hF2,hsw]
          exact ⟨rfl,rfl⟩
         | true=>
          have hx2':(mLoad rm (lPark ⟨cw,cd,ci,cs⟩ w) != 0)=false:=by simp only [bne,hx2]; rfl
          rw [hx1,hx2,Bool.true_and,Bool.not_true,Bool.false_or] at hsw
          simp only [BC_all,sx_all,hy,hy0,hgx,hml,w2,hx1,hx2',pov,tks,wks,sbs,pks,ms,wv,its,List.length_map,Int.toNat_natCast,Nat.add_assoc,tt_all,cv',shC_dec,dC,row1,row2,shI_dec,shM_dec,dI,dM,dU_map,iv,bv,u,ms,ctx_T,ctx_C,Option.bind_some,List.length_map,Int.toNat_natCast,fr_eta,ev1,ev2,implies_true,undef,dynCall,↓condE_t,↓guardE_ff,cv,stepB,stepE,callD,tabD,guardB,guardC,dstAt,aopR,one,pre,binR,intOpR,unR,evo,lkp,hlk,lenOf,ofCells,TK.agg,sub1,kp,kh,accOf,Nat.reduceAdd,Nat.reduceEqDiff,Nat.reduceLT,Nat.reduceLeDiff,reduceCtorEq,eq_self,ne_eq]
          refine ⟨w + 1,by omega,by omega,?_⟩
          rw [hF2,hsw]
          exact ⟨rfl,rfl⟩
      ·have hy:¬ (w:Int) < rws.length:=by omega
       have ew:w=rws.length:=by omega
       subst ew
       simp only [hy,pov,tks,wks,sbs,pks,ms,List.length_map,Nat.add_assoc,tt_all,cv',iv,bv,ms,ctx_T,List.length_map,ev1,ev2,implies_true,undef,↓condE_f,resB,cv,stepB,aopR,one,pre,binR,intOpR,evo,lkp,hlk,lenOf,ofCells,TK.agg,sub1,kp,kh,Nat.reduceAdd,Nat.reduceEqDiff,Nat.reduceLT,Nat.reduceLeDiff,reduceCtorEq,eq_self,ne_eq]
       generalize hF:someW ⟨⟨cw,cd,ci,cs⟩,rt,rm,rws,rss⟩ rws.length=F at *
       have hF0:bv F=bv (F || someS ⟨⟨cw,cd,ci,cs⟩,rt,rm,rws,rss⟩ 0):=by simp [someS]
       refine WP.loop (ι:=Nat) (fun w=>rss.length - w) (fun w=>w≤rss.length) (n:=113)
        (fr:=fun w=>[(19,iv w),(17,bv (F || someS ⟨⟨cw,cd,ci,cs⟩,rt,rm,rws,rss⟩ w)),(14,iv i),(13,pks l),(12,bv true),(11,.ptr 38 0 0),(4,.ptr 0 0 0)])
        (hp:=fun _=>[(38,some ⟨false,34,8,[pov ⟨⟨cw,cd,ci,cs⟩,rt,rm,rws,rss⟩]⟩),(0,some ⟨false,23,4,[cv' ⟨cw,cd,ci,cs⟩]⟩)])
        (N:=0) ?_ 0 (Nat.zero_le _) rfl (Nat.zero_le _) ⟨rfl,hF0,rfl,rfl,rfl,rfl,rfl,trivial⟩ (by simp only [pov,tks,wks,sbs,ms,and_self,cv',iv,ms,hlk,kh,eq_self])
       rintro k nx3 g5 _ hid3
       have p38:38 < nx3:=hid3 38 _ (by rw [hlk_cons,if_pos rfl])
       have p0:0 < nx3:=by omega
       refine WP.of okBC 2 (by rfl) ?_
       by_cases hk:k < rss.length
       ·have hv:(k:Int) < rss.length:=by omega
        have hv0:(0:Int)≤(k:Int):=by omega
        have hgx:=getD_s hk
        have w2:IntKind.wrap .i64 ((k:Int) + 1)=((k + 1:Nat):Int):=by rw [wrap_i (by omega) (by omega)]; omega
        have hsw:=someS_succ ⟨⟨cw,cd,ci,cs⟩,rt,rm,rws,rss⟩ hk
        dsimp only at hsw
        generalize hF1:someS ⟨⟨cw,cd,ci,cs⟩,rt,rm,rws,rss⟩ k=F1 at *
        generalize hF2:someS ⟨⟨cw,cd,ci,cs⟩,rt,rm,rws,rss⟩ (k + 1)=F2 at *
        rw [show (⟨0,[],fr00⟩:Sb)=sb0 from rfl] at hgx
        generalize rss.getD k sb0=x at *
        unfold busy at hsw
        cases hG:(F || F1) with
        | true=>
         have hG2:(F || F2)=true:=by rw [hsw,← Bool.or_assoc,hG]; rfl
         simp only [hv,w2,pov,tks,wks,sbs,pks,ms,List.length_map,Nat.add_assoc,tt_all,cv',iv,bv,ms,ctx_T,List.length_map,ev1,ev2,implies_true,undef,↓condE_t,↓guardE_tf,cv,stepB,guardB,guardC,dstAt,aopR,one,pre,binR,intOpR,evo,lkp,hlk,lenOf,ofCells,TK.agg,sub1,kp,kh,Nat.reduceAdd,Nat.reduceLT,Nat.reduceLeDiff,reduceCtorEq,eq_self,ne_eq]
         refine ⟨k + 1,by omega,by omega,?_⟩
         rw [hF2,hG2]
         exact ⟨rfl,rfl⟩
        | false=>
         have hG2:(F || F2)=(x.pc != 0):=by rw [hsw,← Bool.or_assoc,hG]; rfl
         simp only [Tryz.func17,Tryz.f17,inl,BC_all,hv,hv0,hgx,w2,p38,p0,pov,tks,wks,sbs,pks,ms,sbv,zs,List.length_map,Int.toNat_natCast,nb_self,nb_lt,Nat.add_assoc,tt_all,cv',iv,bv,u,ms,ctx_T,ctx_C,ctx_P,List.length_map,String.reduceBEq,Int.toNat_natCast,ev1,ev2,implies_true,undef,↓condE_t,↓guardE_ff,frzDeep,deepArgs,deepArg,resB,cv,stepB,guardB,guardC,dstAt,aopR,one,pre,binR,intOpR,argFrm,evo,lkp,hlk,lenOf,ofCells,AV.wr,AV.ok1,TK.agg,frzArg,frzArgs,sub1,kp,kh,Nat.reduceAdd,Nat.reduceEqDiff,Nat.reduceLT,Nat.reduceLeDiff,reduceCtorEq,eq_self,ne_eq]
         refine ⟨k + 1,by omega,by omega,?_⟩
         rw [hF2,hG2]
         exact ⟨rfl,rfl⟩
       ·have hv:¬ (k:Int) < rss.length:=by omega
        have ek:k=rss.length:=by omega
        subst ek
        have hqd:qd ⟨⟨cw,cd,ci,cs⟩,rt,rm,rws,rss⟩ > 0→(F || someS ⟨⟨cw,cd,ci,cs⟩,rt,rm,rws,rss⟩ rss.length)=true:=fun q=>by
         cases hG:(F || someS ⟨⟨cw,cd,ci,cs⟩,rt,rm,rws,rss⟩ rss.length) with
         | true=>rfl
         | false=>have:=hup hG; omega
        obtain ⟨_,hel1,hel2⟩:=hel
        by_cases hq:qd ⟨⟨cw,cd,ci,cs⟩,rt,rm,rws,rss⟩ > 0
        ·rw [hqd hq]
         simp only [BC_all,sx_all,hv,hpb,hel1,hel2,hq,w1,and_self,decide_true,Bool.not_true,pov,tks,wks,sbs,pks,ms,List.length_map,Nat.add_assoc,tt_all,cv',row1,iv,bv,ms,ctx_T,ctx_C,Option.bind_some,List.length_map,ev1,ev2,implies_true,undef,↓condE_f,↓guardE_tt,resB,cv,stepB,guardB,guardC,dstAt,aopR,one,pre,binR,intOpR,unR,evo,lkp,hlk,lenOf,ofCells,TK.agg,sub1,kp,kh,Nat.reduceAdd,Nat.reduceEqDiff,Nat.reduceLT,Nat.reduceLeDiff,reduceCtorEq,eq_self,ne_eq]
         refine ⟨(i + 1,⟨⟨cw,cd,ci,cs⟩,rt,rm,rws,rss⟩),by dsimp only; omega,⟨by dsimp only; omega,rfl,hgo⟩,?_⟩
         all_goals ((repeat' apply And.intro) <;> first | rfl | omega | (show (_:Bool)=true; kernel_rfl) | decide)
        ·generalize (F || someS ⟨⟨cw,cd,ci,cs⟩,rt,rm,rws,rss⟩ rss.length)=G at *
         simp only [BC_all,sx_all,hv,hpb,hel1,hel2,hq,w1,and_self,decide_false,pov,tks,wks,sbs,pks,ms,List.length_map,Nat.add_assoc,tt_all,cv',row1,iv,bv,ms,ctx_T,ctx_C,Option.bind_some,List.length_map,ev1,ev2,implies_true,undef,↓condE_f,↓guardE_ft,resB,cv,stepB,guardB,guardC,dstAt,aopR,one,pre,binR,intOpR,evo,lkp,hlk,lenOf,ofCells,TK.agg,sub1,kp,kh,Nat.reduceAdd,Nat.reduceEqDiff,Nat.reduceLT,Nat.reduceLeDiff,reduceCtorEq,eq_self,ne_eq]
         refine ⟨(i + 1,⟨⟨cw,cd,ci,cs⟩,rt,rm,rws,rss⟩),by dsimp only; omega,⟨by dsimp only; omega,rfl,hgo⟩,?_⟩
         all_goals ((repeat' apply And.intro) <;> first | rfl | omega | (show (_:Bool)=true; kernel_rfl) | decide)
     ·have hz:¬ (i:Int) < l.length:=by omega
      simp only [hz,pov,tks,wks,sbs,pks,ms,decide_false,List.length_map,Nat.add_assoc,tt_all,cv',iv,bv,ms,ctx_T,List.length_map,ev1,ev2,undef,↓condE_f,↓guardE_ft,resB,cv,stepB,guardB,guardC,dstAt,aopR,one,pre,binR,intOpR,evo,lkp,lenOf,Nat.reduceAdd,Nat.reduceLT,eq_self]
      all_goals ((repeat' apply And.intro) <;> first | rfl | omega | (show (_:Bool)=true; kernel_rfl) | decide)
end Go.Vai

/- No more seek than there are: the law. -/
namespace Go.Vai
open Go.RowKit Go.Proofs
set_option maxHeartbeats 4000000
set_option maxRecDepth 100000
end Go.Vai

/- Tasks, lists of lists of numbers, and bytes that came in. -/
namespace Go.Vai
open Go.RowKit Go.WideShapes Go.ChangeShapes
def taskB (P:Program) (fs:Array Field) (ft:TypeId):Bool:=match fs[0]?,fs[1]? with
 | some f0,some f1=>f0.offset == 0 && P.cellsOf f0.type == 1 && (match P.underlying f0.type with | some (.int k)=>decide (k=.i64) | _=>false) && f1.offset == 1 && f1.type == ft
 | _,_=>false
def rdTask {P:Program} {t ft e:TypeId} {fs:Array Field} (ht:P.underlying t=some (.struct fs)) (hC:P.cellsOf t=2) (hB:taskB P fs ft=true) (h1:P.underlying ft=some (.slice e)) (hc1:P.cellsOf ft=1)
  (he:P.underlying e=some (.int .i64)) (hce:P.cellsOf e=1):Rdr P t Tk where
 n:=2
 av:=tv
 wf:=fun _=>True
 size:=hC
 len:=fun _=>rfl
 rd:=fun enc w base spare held fuel cs d h=>by
  obtain ⟨xs,n,_,_,hl,hlen,hf⟩:=DataW.trod_struct ht h
  unfold taskB at hB
  split at hB
  ·rename_i f0 f1 e0 e1
   simp only [Bool.and_eq_true,beq_iff_eq] at hB
   obtain ⟨⟨⟨⟨b1,b2⟩,b3⟩,b4⟩,b5⟩:=hB
   have hu0:P.underlying f0.type=some (.int .i64):=by
    split at b3
    ·rename_i k' hk
     rw [hk,of_decide_eq_true b3]
    ·cases b3
   have hx0:=hf 0 f0 e0
   have hx1:=hf 1 f1 e1
   have hl0:0 < xs.length:=by rw [hlen]; exact (Array.getElem?_eq_some_iff.1 e0).1
   have hl1:1 < xs.length:=by rw [hlen]; exact (Array.getElem?_eq_some_iff.1 e1).1
   rw [List.getElem?_eq_getElem hl0,b1,b2] at hx0
   rw [List.getElem?_eq_getElem hl1,b4,b5,hc1] at hx1
   obtain ⟨z,hz,_,_⟩:=DataW.trod_int hu0 hx0
   obtain ⟨l,_,q2,q3⟩:=(rdSlice (rdInt he hce) h1 hc1).rd enc w base spare held n _ _ hx1
   have c0:cs[0]? = some (.int .i64 z):=by
    have:((cs.drop 0).take 1)[0]? = some (.int .i64 z):=by rw [hz]; rfl
    simpa using this
   refine ⟨⟨z,l⟩,trivial,hl.trans hC,fun j a c ha hcj=>?_⟩
   match j with
   | 0=>rw [c0] at hcj; cases hcj; cases ha; exact ⟨rfl,.v _⟩
   | 1=>
    cases ha
    exact q3 0 _ c rfl (by simpa using hcj)
   | j + 2=>cases ha
  ·cases hB
section
variable {P : Program} {w : World} {t : TypeId} {α : Type} {H : Type} {enc : TypeId × Value → H} {reach : Reach} {b0 base : Nat} {spare : Nat → Bool} {held : Bool} {v : Value} {d : DataW H} {p : List MemPlace}
theorem Rdr.tasks {e ft e':TypeId} {fs:Array Field} (ht:P.underlying t=some (.slice e)) (hc:P.cellsOf t=1) (he:P.underlying e=some (.struct fs)) (hC:P.cellsOf e=2) (hB:taskB P fs ft=true) (h1:P.underlying ft=some (.slice e')) (hc1:P.cellsOf ft=1)
  (he':P.underlying e'=some (.int .i64)) (hce:P.cellsOf e'=1) (hv:Value.okWide P w reach b0 t v) (h:DataW.Trod enc P w base spare held t v d p):∃ l:List Tk,True∧Con (Env.bare (allK w)) (tks l) v:=by
 obtain ⟨l,_,h2⟩:=(rdTask he hC hB h1 hc1 he' hce).slice ht hc hv h
 exact ⟨l,trivial,h2⟩
theorem Rdr.intss {e e':TypeId} (ht:P.underlying t=some (.slice e)) (hc:P.cellsOf t=1) (ht':P.underlying e=some (.slice e')) (hc':P.cellsOf e=1) (he:P.underlying e'=some (.int .i64)) (hce:P.cellsOf e'=1) (hv:Value.okWide P w reach b0 t v) (h:DataW.Trod enc P w base spare held t v d p) :
  ∃ l:List (List Int),True∧Con (Env.bare (allK w)) (zss l) v:=by
 obtain ⟨l,_,h2⟩:=(rdSlice (rdInt he hce) ht' hc').slice ht hc hv h
 exact ⟨l,trivial,h2⟩
theorem Rdr.bytes {e:TypeId} (ht:P.underlying t=some (.slice e)) (hc:P.cellsOf t=1) (he:P.underlying e=some (.int .u8)) (hce:P.cellsOf e=1) (hv:Value.okWide P w reach b0 t v) (h:DataW.Trod enc P w base spare held t v d p) :
  ∃ l:List Int,True∧Con (Env.bare (allK w)) (bys l) v:=by
 obtain ⟨l,_,h2⟩:=(rdInt he hce).slice ht hc hv h
 exact ⟨l,trivial,h2⟩
end
end Go.Vai

/- Some are queued, and all are parked: never. Both the law, and what came in, read. -/
namespace Go.Vai
end Go.Vai
