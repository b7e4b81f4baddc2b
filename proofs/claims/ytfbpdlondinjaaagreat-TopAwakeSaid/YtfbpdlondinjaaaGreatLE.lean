/- The evaluator, the plain texts and the contracts that this claim leans on, part 5: nothing of the statement is claimed here. -/
import Derived.Test.YtfbpdlondinjaaaGreatLD
import Derived.Shelf.SlicesG.Delete
import Derived.Shelf.SlGeneric
set_option linter.unusedVariables false
set_option linter.unusedSimpArgs false

/- Scripts. -/
namespace Go.Vai
open Go.RowKit Go.Proofs
set_option maxHeartbeats 4000000
set_option maxRecDepth 100000
def rowsAO:List Row:=[] ++ rowsAL
theorem rowsAO_ok:∀ p∈rowsAO,RowOk Tryz.prog p:=fun p h=>by
 simp only [rowsAO,List.mem_append,List.not_mem_nil,false_or] at h
 rcases h with h
 ·exact rowsAL_ok p h
theorem okAO:(ctx Tryz.prog rowsAO).ok:=rows_ok rowsAO_ok
theorem AO_all:tabC rowsAO 43=(fun _=>none)∧tabC rowsAO 64=(fun _=>none)∧tabC rowsAO 83=(fun _=>none)∧tabC rowsAO 191=(row1 shN fun e=>some (.tup [u (wBump e),iv (wLow (wMask e))]))∧tabC rowsAO 190=(fun _=>none)∧tabC rowsAO 192=(fun _=>none)∧tabC rowsAO 30=(row1 shN fun e=>some (u (wMask e))):=⟨rfl,rfl,rfl,rfl,rfl,rfl,rfl⟩
def dFits (k:Pk) (w s:Int):Bool:=(k.kind == 0 && (decide (0≤k.who) && decide (k.who < w))) || ((k.kind == 1 && (decide (0≤k.who) && decide (k.who < s))) || (k.kind == 2 || k.kind == 3))
theorem fits_pure (k:Pk) (w s:Int):PureC Tryz.prog 53 [pkv k,iv w,iv s] (bv (dFits k w s)):=by
 refine pure_sub okAO 1 Tryz.func53 rfl (by show 3≤_; decide) ?_
 unfold dFits
 obtain ⟨kd,who,dr⟩:=k
 dsimp only
 by_cases h0:kd=0
 ·subst h0
  by_cases h1:who ≥ 0
  ·have h1':0≤who:=h1
   by_cases h2:who < w
   ·simp only [Tryz.f53,Tryz.func83,Tryz.f83,inl,AO_all,h1,h2,pkv,decide_true,beq_self_eq_true,Bool.true_and,Bool.true_or,tt_all,iv,bv,u,ctx_T,ctx_C,ctx_P,String.reduceBEq,ev1,ev2,implies_true,undef,↓guardE_tt,↓guardE_tf,frzDeep,deepArgs,deepArg,resB,cv,stepB,guardB,guardC,dstAt,aopR,one,pre,binR,intOpR,argFrm,evo,lkp,hlk,ofCells,AV.wr,AV.ok1,TK.agg,frz,frz1,frzA,frzArg,frzArgs,subA,subB,sub1,Nat.reduceAdd,Nat.reduceLT,Nat.reduceLeDiff,reduceCtorEq,eq_self,ne_eq,Int.reduceBEq]
    all_goals ((repeat' apply And.intro) <;> first | rfl | omega | (show (_:Bool)=true; kernel_rfl) | decide)
   ·simp only [Tryz.f53,Tryz.func83,Tryz.f83,inl,AO_all,h1,h2,pkv,decide_true,decide_false,beq_self_eq_true,Bool.true_and,Bool.false_and,Bool.and_false,Bool.false_or,tt_all,iv,bv,u,ctx_T,ctx_C,ctx_P,String.reduceBEq,ev1,ev2,implies_true,undef,↓guardE_tt,↓guardE_ff,↓guardE_ft,frzDeep,deepArgs,deepArg,resB,cv,stepB,guardB,guardC,dstAt,aopR,one,pre,binR,intOpR,argFrm,evo,lkp,hlk,ofCells,AV.wr,AV.ok1,TK.agg,frz,frz1,frzA,frzArg,frzArgs,subA,subB,sub1,Nat.reduceAdd,Nat.reduceLT,Nat.reduceLeDiff,reduceCtorEq,eq_self,ne_eq,Int.reduceBEq]
    all_goals ((repeat' apply And.intro) <;> first | rfl | omega | (show (_:Bool)=true; kernel_rfl) | decide)
  ·have h1':¬ 0≤who:=h1
   simp only [Tryz.f53,Tryz.func83,Tryz.f83,inl,AO_all,h1,pkv,decide_false,beq_self_eq_true,Bool.false_and,Bool.and_false,Bool.false_or,tt_all,iv,bv,u,ctx_T,ctx_C,ctx_P,String.reduceBEq,ev1,ev2,implies_true,undef,↓guardE_tt,↓guardE_ff,↓guardE_ft,frzDeep,deepArgs,deepArg,resB,cv,stepB,guardB,guardC,dstAt,aopR,one,pre,binR,intOpR,argFrm,evo,lkp,hlk,ofCells,AV.wr,AV.ok1,TK.agg,frz,frz1,frzA,frzArg,frzArgs,subA,subB,sub1,Nat.reduceAdd,Nat.reduceLT,Nat.reduceLeDiff,reduceCtorEq,eq_self,ne_eq,Int.reduceBEq]
   all_goals ((repeat' apply And.intro) <;> first | rfl | omega | (show (_:Bool)=true; kernel_rfl) | decide)
 ·have h0':(kd == 0)=false:=by simpa using h0
  by_cases h3:kd=1
  ·subst h3
   by_cases h1:who ≥ 0
   ·have h1':0≤who:=h1
    by_cases h2:who < s
    ·simp only [Tryz.f53,Tryz.func83,Tryz.f83,inl,AO_all,h0',h1,h2,pkv,decide_true,beq_self_eq_true,Bool.true_and,Bool.false_and,Bool.true_or,Bool.false_or,tt_all,iv,bv,u,ctx_T,ctx_C,ctx_P,String.reduceBEq,ev1,ev2,implies_true,undef,↓guardE_tt,↓guardE_ff,↓guardE_tf,↓guardE_ft,frzDeep,deepArgs,deepArg,resB,cv,stepB,guardB,guardC,dstAt,aopR,one,pre,binR,intOpR,argFrm,evo,lkp,hlk,ofCells,AV.wr,AV.ok1,TK.agg,frz,frz1,frzA,frzArg,frzArgs,subA,subB,sub1,Nat.reduceAdd,Nat.reduceLT,Nat.reduceLeDiff,reduceCtorEq,eq_self,ne_eq,Int.reduceBEq]
     all_goals ((repeat' apply And.intro) <;> first | rfl | omega | (show (_:Bool)=true; kernel_rfl) | decide)
    ·simp only [Tryz.f53,Tryz.func83,Tryz.f83,inl,AO_all,h0',h1,h2,pkv,decide_true,decide_false,beq_self_eq_true,Bool.true_and,Bool.false_and,Bool.and_false,Bool.false_or,tt_all,iv,bv,u,ctx_T,ctx_C,ctx_P,String.reduceBEq,ev1,ev2,implies_true,undef,↓guardE_tt,↓guardE_ff,↓guardE_ft,frzDeep,deepArgs,deepArg,resB,cv,stepB,guardB,guardC,dstAt,aopR,one,pre,binR,intOpR,argFrm,evo,lkp,hlk,ofCells,AV.wr,AV.ok1,TK.agg,frz,frz1,frzA,frzArg,frzArgs,subA,subB,sub1,Nat.reduceAdd,Nat.reduceLT,Nat.reduceLeDiff,reduceCtorEq,eq_self,ne_eq,Int.reduceBEq]
     all_goals ((repeat' apply And.intro) <;> first | rfl | omega | (show (_:Bool)=true; kernel_rfl) | decide)
   ·have h1':¬ 0≤who:=h1
    simp only [Tryz.f53,Tryz.func83,Tryz.f83,inl,AO_all,h0',h1,pkv,decide_false,beq_self_eq_true,Bool.false_and,Bool.and_false,Bool.false_or,tt_all,iv,bv,u,ctx_T,ctx_C,ctx_P,String.reduceBEq,ev1,ev2,implies_true,undef,↓guardE_tt,↓guardE_ff,↓guardE_ft,frzDeep,deepArgs,deepArg,resB,cv,stepB,guardB,guardC,dstAt,aopR,one,pre,binR,intOpR,argFrm,evo,lkp,hlk,ofCells,AV.wr,AV.ok1,TK.agg,frz,frz1,frzA,frzArg,frzArgs,subA,subB,sub1,Nat.reduceAdd,Nat.reduceLT,Nat.reduceLeDiff,reduceCtorEq,eq_self,ne_eq,Int.reduceBEq]
    all_goals ((repeat' apply And.intro) <;> first | rfl | omega | (show (_:Bool)=true; kernel_rfl) | decide)
  ·have h3':(kd == 1)=false:=by simpa using h3
   cases h4:kd == 2 with
   | true=>
    simp only [Tryz.f53,h0',h3',h4,pkv,Bool.false_and,Bool.false_or,Bool.true_or,tt_all,iv,bv,u,ctx_T,ev1,ev2,implies_true,undef,↓guardE_ff,↓guardE_tf,↓guardE_ft,resB,cv,stepB,guardB,guardC,dstAt,aopR,one,pre,binR,intOpR,argFrm,evo,lkp,hlk,ofCells,AV.wr,AV.ok1,TK.agg,frz,frz1,frzA,subA,subB,sub1,Nat.reduceAdd,Nat.reduceLT,Nat.reduceLeDiff,reduceCtorEq,eq_self,ne_eq]
    all_goals ((repeat' apply And.intro) <;> first | rfl | omega | (show (_:Bool)=true; kernel_rfl) | decide)
   | false=>
    simp only [Tryz.f53,h0',h3',h4,pkv,Bool.false_and,Bool.false_or,tt_all,iv,bv,u,ctx_T,ev1,ev2,implies_true,undef,↓guardE_ff,↓guardE_ft,resB,cv,stepB,guardB,guardC,dstAt,aopR,one,pre,binR,intOpR,argFrm,evo,lkp,hlk,ofCells,AV.wr,AV.ok1,TK.agg,frz,frz1,frzA,subA,subB,sub1,Nat.reduceAdd,Nat.reduceLT,Nat.reduceLeDiff,reduceCtorEq,eq_self,ne_eq]
    all_goals ((repeat' apply And.intro) <;> first | rfl | omega | (show (_:Bool)=true; kernel_rfl) | decide)
def byv (x:Int):AV:=.v (.int .u8 x)
def bys (l:List Int):AV:=.lst 1 (l.map byv)
def dBy:AV→Option Int
 | .v (.int .u8 x)=>some x
 | _=>none
def elBy:El Int:=⟨dBy,byv,fun a x h=>by unfold dBy at h; split at h <;> cases h; rfl,fun _=>rfl,fun _=>hfree_v _,fun x c hc=>by simp only [byv,AV.cells,List.mem_singleton] at hc; subst hc; exact hfree_v _⟩
def shBy:Sh (List Int):=shL 1 elBy
theorem shBy_dec (l:List Int):shBy.dec (.lst 1 (l.map byv))=some l:=shL_dec (E:=elBy) l
def pick3 (a b c:Int):Pk:=⟨IntKind.wrap .i64 (a.tmod 4),IntKind.wrap .i64 b,IntKind.wrap .u64 c⟩
def decode:List Int→List Pk
 | a :: b :: c :: r=>pick3 a b c :: decode r
 | _=>[]
theorem decode_snoc:∀ (n:Nat) (l:List Int) (a b c:Int),l.length=3 * n→decode (l ++ [a,b,c])=decode l ++ [pick3 a b c]
 | 0,l,a,b,c,h=>by
  have:l=[]:=List.eq_nil_of_length_eq_zero (by omega)
  subst this; rfl
 | n + 1,x :: y :: z :: r,a,b,c,h=>by
  simp only [List.cons_append,decode]
  rw [decode_snoc n r a b c (by simp at h; omega)]
 | n + 1,[],a,b,c,h=>by simp at h
 | n + 1,[x],a,b,c,h=>by simp at h; omega
 | n + 1,[x,y],a,b,c,h=>by simp at h; omega
theorem decode_part:∀ (n:Nat) (l r:List Int),l.length=3 * n→r.length < 3→decode (l ++ r)=decode l
 | 0,l,r,h,hr=>by
  have:l=[]:=List.eq_nil_of_length_eq_zero (by omega)
  subst this
  match r,hr with
  | [],_=>rfl
  | [x],_=>rfl
  | [x,y],_=>rfl
  | _ :: _ :: _ :: _,hr=>simp at hr; omega
 | n + 1,x :: y :: z :: l,r,h,hr=>by
  simp only [List.cons_append,decode]
  rw [decode_part n l r (by simp at h; omega) hr]
 | n + 1,[],r,h,hr=>by simp at h
 | n + 1,[x],r,h,hr=>by simp at h; omega
 | n + 1,[x,y],r,h,hr=>by simp at h; omega
theorem decode_len:∀ (n:Nat) (l:List Int),l.length≤3 * n→(decode l).length≤n
 | n,[],h=>by simp [decode]
 | n,[x],h=>by simp [decode]
 | n,[x,y],h=>by simp [decode]
 | 0,x :: y :: z :: r,h=>by simp at h
 | n + 1,x :: y :: z :: r,h=>by
  simp only [decode,List.length_cons]
  have:=decode_len n r (by simp at h; omega)
  omega
theorem take_pp (l:List Pk):(l.map pkv).take l.length=l.map pkv:=List.take_of_length_le (by simp)
theorem hfc_p (l:List Pk):(∀ x∈l.map pkv,∀ c∈x.cells,HFree c)=True:=eq_true fun x hx c hc=>by
 obtain ⟨y,_,rfl⟩:=List.mem_map.1 hx; exact elP.cfree y c hc
theorem len_snocP {α:Type} (l:List α) (x:α):(l ++ [x]).length=l.length + 1:=by simp
theorem decode_pure (b:List Int) (hb:b.length≤1500):PureC Tryz.prog 15 [bys b] (pks (decode b)):=by
 refine pure_top okAO 2 Tryz.func15 rfl (by show 1≤_; decide) ?_
 simp only [Tryz.f15,Tryz.func43,Tryz.f43,inl,AO_all,bys,tt_all,top_T,r_rangeF,ctx_T,ctx_C,ctx_P,String.reduceBEq,ev1,ev2,implies_true,undef,↓condE_f,frzDeep,deepArgs,deepArg,resB,cv,stepB,aopR,one,pre,binR,intOpR,argFrm,evo,lkp,hlk,ofVal,ofCells,AV.wr,AV.ok1,TK.agg,frz,frz1,frzA,frzArg,frzArgs,subA,subB,sub1,Nat.reduceAdd,Nat.reduceLT,Nat.reduceLeDiff,reduceCtorEq,eq_self,ne_eq,Int.reduceLT]
 refine WP.virtB 1 59 3 rfl rfl (by decide) ?_ (im:=(top_core okAO).im)
 refine WP.ranges okAO 1 (g:=64) rfl (enters_of Tryz.func64 (by decide) rfl) Tryz.func64 rfl (by decide) (by rfl) (by rfl) ?_
 intro Y hI hYF hYT hYC hYY
 simp only [Tryz.f64,ctx_T,ev1,ev2,undef,cv,stepB,aopR,one,argFrm,evo,Nat.reduceAdd,Nat.reduceLT]
 refine WP.loop (ι:=Nat × Nat) (fun i=>2000 - i.1) (fun i=>i.1≤b.length + 2∧(∃ j,i.1=3 * j)∧(i.2=11∨14≤i.2)) (n:=31)
  (fr:=fun i=>[(4,iv i.1),(0,.yld 12),(1,.ptr 4 0 0),(2,.ptr 5 0 0)])
  (hp:=fun i=>[(12,some (gBlk 0)),(1,some ⟨false,54,1,[.arr i.2 0 (decode (b.take i.1)).length]⟩),(i.2,some ⟨false,59,3,(decode (b.take i.1)).map pkv⟩),(5,some ⟨false,3,1,[iv 3]⟩),(4,some ⟨false,26,1,[bys b]⟩)])
  (N:=14) ?_ (0,11) ⟨by dsimp only; omega,⟨0,rfl⟩,.inl rfl⟩ rfl (Nat.le_refl _) ⟨rfl,rfl,rfl,rfl,trivial⟩ ⟨rfl,rfl,rfl,rfl,rfl,trivial⟩ (im:=hI.im)
 rintro ⟨i,id⟩ nx ⟨g1,⟨j,g2⟩,g3⟩ hN hid
 dsimp only at g1 g2 g3 hN hid ⊢
 have hidn:id < nx:=by
  rcases g3 with e | e
  ·omega
  ·exact hid id ⟨false,59,3,(decode (b.take i)).map pkv⟩ (by
    simp only [hlk,show Nat.beq id 12=false from by rw [← Bool.not_eq_true,Nat.beq_eq]; omega,show Nat.beq id 1=false from by rw [← Bool.not_eq_true,Nat.beq_eq]; omega,nb_self])
 have bb:∀ k:Nat,k < 11∨k=12→Nat.beq k id=false∧Nat.beq id k=false:=by
  intro k hk
  constructor <;> (rw [← Bool.not_eq_true,Nat.beq_eq]; omega)
 obtain ⟨b1,d1⟩:=bb 1 (by omega)
 obtain ⟨b4,d4⟩:=bb 4 (by omega)
 obtain ⟨b5,d5⟩:=bb 5 (by omega)
 obtain ⟨b12,d12⟩:=bb 12 (by omega)
 have n1:1 < nx:=by omega
 have n4:4 < nx:=by omega
 have n5:5 < nx:=by omega
 have n12:12 < nx:=by omega
 have hdl:(decode (b.take i)).length≤1000:=by have:=decode_len 500 (b.take i) (by simp; omega); omega
 have hcap:((decode (b.take i)).length + 1) * 24≤140737488355328:=by omega
 have hle:(decode (b.take i)).length≤(decode (b.take i)).length:=Nat.le_refl _
 refine WP.ofX hI hYF (by rfl) ?_
 by_cases hi:i < b.length
 ·have hz:(i:Int) < b.length:=by omega
  have hz0:(0:Int)≤(i:Int):=by omega
  have hz1:(i:Int)≤(b.length:Int):=by omega
  have w1:IntKind.wrap .i64 ((i:Int) + 3)=((i + 3:Nat):Int):=by rw [wrap_i (by omega) (by omega)]; omega
  have hL:(((b.map byv).drop i).take (b.length - i)).length=b.length - i:=by simp
  by_cases hf:i + 3≤b.length
  ·have q1:¬ ((b.length - i:Nat):Int) < 3:=by omega
   have hs:i + 3 - i=3:=by omega
   have e3:List.take 3 (List.drop i (b.map byv))=[.v (.int .u8 (b.getD i 0)),.v (.int .u8 (b.getD (i + 1) 0)),.v (.int .u8 (b.getD (i + 2) 0))]:=by
    apply List.ext_getElem?
    intro k
    match k with
    | 0=>simp [List.getD_eq_getElem?_getD,show i < b.length by omega,byv]
    | 1=>simp [List.getD_eq_getElem?_getD,show i + 1 < b.length by omega,byv]
    | 2=>simp [List.getD_eq_getElem?_getD,show i + 2 < b.length by omega,byv]
    | k + 3=>simp [List.getElem?_take]; omega
   have p1:(i:Int)≤((i + 3:Nat):Int):=by omega
   have p2:((i + 3:Nat):Int)≤(b.length:Int):=by omega
   have p3:(b.length:Int)≤(b.length:Int):=Int.le_refl _
   have p4:((i + 3:Nat):Int)≤((i + 3:Nat):Int):=Int.le_refl _
   have hdec:decode (b.take (i + 3))=decode (b.take i) ++ [pick3 (b.getD i 0) (b.getD (i + 1) 0) (b.getD (i + 2) 0)]:=by
    rw [← decode_snoc j (b.take i) _ _ _ (by simp; omega)]
    congr 1
    apply List.ext_getElem?
    intro k
    rw [List.getElem?_append,List.length_take,show min i b.length=i by omega]
    by_cases hk:k < i
    ·rw [if_pos hk,List.getElem?_take,List.getElem?_take,if_pos hk,if_pos (by omega)]
    ·rw [if_neg hk]
     obtain ⟨q,rfl⟩:∃ q,k=i + q:=⟨k - i,by omega⟩
     rw [show i + q - i=q by omega]
     match q with
     | 0=>simp [List.getD_eq_getElem?_getD,show i < b.length by omega]
     | 1=>simp [List.getD_eq_getElem?_getD,show i + 1 < b.length by omega]
     | 2=>simp [List.getD_eq_getElem?_getD,show i + 2 < b.length by omega]
     | q + 3=>simp [List.getElem?_take]; omega
   simp only [hYT,hYY,r_yld,hz,hz0,hz1,w1,hL,q1,hs,e3,p1,p2,p3,p4,hcap,hle,b1,b4,b5,b12,d1,d12,n1,n4,n5,n12,hidn,bys,List.length_map,List.length_cons,List.length_nil,Int.toNat_natCast,nb_self,nb_lt,Nat.add_assoc,tt_all,mo_min,minM,List.cons_append,List.nil_append,inR_T,r_yld,r_start,r_rkN,zipF,iv,ctx_T,Option.map_some,List.length_map,Int.toNat_natCast,Int.cast_ofNat_Int,ev1,ev2,implies_true,undef,dynCall,↓condE_t,↓condE_f,cv,stepB,stepE,aopR,one,pre,binR,intOpR,unR,evo,lkp,hlk,lenOf,asLst,idOf,bndA,srcOk,ofVal,ofCells,setCells,fillA,setElems,AV.wr,AV.ok1,TK.agg,sub1,kp,kh,accOf,List.replicate,Nat.reduceAdd,Nat.reduceMul,Nat.reduceLT,Nat.reduceLeDiff,reduceCtorEq,eq_self,ne_eq,Int.reduceToNat,Int.reduceLT,Int.reduceLE,Int.reduceEq]
   intro l
   repeat' apply And.intro
   any_goals (show entryOk _ _ _ _ _=true; (repeat (first | exact entryOk_nil _ _ _ _ | (refine entryOk_step ?h ?_; case h=>(first | (apply Or.inr; constructor <;> simp [meets] <;> omega; done) | (apply Or.inl; show anc _ _ _ _=true; kernel_rfl))))))
   refine ⟨(i + 3,nx + 43),by dsimp only; omega,⟨by dsimp only; omega,⟨j + 1,by dsimp only; omega⟩,.inr (by dsimp only; omega)⟩,rfl,?_⟩
   dsimp only
   rw [hdec,len_snocP]
   refine ⟨rfl,?_⟩
   simp only [n1,n12,nb_self,nb_gt]
   rw [take_pp,List.map_append]
   rfl
  ·have hL2:((b.length - i:Nat):Int) < 3:=by omega
   have w2:IntKind.wrap .i64 ((i:Int) + ((b.length - i:Nat):Int))=(b.length:Int):=by rw [wrap_i (by omega) (by omega)]; omega
   have p3:(b.length:Int)≤(b.length:Int):=Int.le_refl _
   have q3:(((b.length - i:Nat):Int) == 3)=false:=by
    have:¬ ((b.length - i:Nat):Int)=3:=by omega
    simpa using this
   have hdec:decode (b.take (i + 3))=decode (b.take i):=by
    rw [List.take_of_length_le (by omega:b.length≤i + 3)]
    rw [← decode_part j (b.take i) (b.drop i) (by simp; omega) (by simp; omega),List.take_append_drop]
   simp only [hYT,hYY,r_yld,hz,hz0,hz1,w1,w2,hL,hL2,q3,p3,b4,b5,bys,List.length_map,Int.toNat_natCast,Nat.add_assoc,tt_all,mo_min,minM,List.nil_append,inR_T,r_yld,r_start,r_rkN,zipF,iv,ctx_T,Option.map_some,List.length_map,Int.toNat_natCast,ev1,ev2,implies_true,undef,dynCall,↓condE_t,↓condE_f,cv,stepB,stepE,aopR,one,pre,binR,intOpR,unR,evo,lkp,hlk,lenOf,bndA,ofCells,TK.agg,sub1,kp,kh,accOf,Nat.reduceAdd,Nat.reduceLT,Nat.reduceLeDiff,reduceCtorEq,eq_self,ne_eq]
   intro l
   refine ⟨(i + 3,id),by dsimp only; omega,⟨by dsimp only; omega,⟨j + 1,by dsimp only; omega⟩,g3⟩,rfl,?_⟩
   dsimp only
   rw [hdec]
   refine ⟨rfl,?_⟩
   simp only [d1,d12,nb_self]
 ·have hz:¬ (i:Int) < b.length:=by omega
  have e:b.take i=b:=List.take_of_length_le (by omega)
  simp only [hYT,hz,hle,b4,d1,d12,bys,List.length_map,nb_self,Nat.add_assoc,tt_all,List.nil_append,top_T,r_endR,r_endM,r_endJ0,iv,ctx_T,List.length_map,ev1,ev2,implies_true,undef,↓condE_f,resB,cv,stepB,aopR,one,pre,binR,intOpR,evo,lkp,hlk,lenOf,ofCells,TK.agg,Nat.reduceAdd,Nat.reduceLT,Nat.reduceLeDiff,reduceCtorEq,eq_self,ne_eq]
  rw [e,take_pp]
  exact ⟨of_eq_true (hfc_p _),rfl⟩
end Go.Vai

/- A pool's steps, by lists alone: what they keep. -/
namespace Go.Vai
open Go.RowKit
set_option maxHeartbeats 1000000
theorem len_tStart (t:List Tk) (s:List It) (k:Int):(tStart t s k).length≤s.length + 1:=by
 unfold tStart
 split
 ·simp
 ·omega
theorem len_tDo (t:List Tk) (s:List It):(tDo t s).length≤s.length:=by
 unfold tDo
 repeat' split
 all_goals simp
theorem op_waStep (c:Cf) (m:List Int) (f:Fr):(waStep c m f).2.op=f.op:=by
 unfold waStep
 repeat' split
 all_goals rfl
theorem op_noStep (c:Cf) (m:List Int) (f:Fr):(noStep c m f).2.op=f.op:=by
 unfold noStep
 repeat' split
 all_goals rfl
theorem op_evStep (c:Cf) (m:List Int) (f:Fr):(evStep c m f).2.op=f.op:=by
 unfold evStep
 repeat' split
 all_goals first | rfl | exact op_waStep .. | exact op_noStep ..
structure WKeeps (m:List Int) (x:Wk) (r:WR):Prop where
 len:r.1.length=m.length
 stack:r.2.1.stack.length≤x.stack.length + 1
 op:opOk x→opOk r.2.1
theorem opOk_same {x:Wk} {pc:Int} {st:List It} {f:Fr} {sp lk:Int} (hp:pc=x.pc) (hf:f.op=x.f.op) (h:opOk x):opOk ⟨pc,st,f,sp,lk⟩:=by
 subst hp
 unfold opOk at *
 dsimp only
 rw [hf]; exact h
theorem wkeeps0 (c:Cf) (t:List Tk) (m:List Int) (w:Int) (x:Wk) (d:Int) (hp:x.pc=0):WKeeps m x (wq0 c t m w x d):=by
 have hd1:=op_dqStep c m x.f
 have hd2:=len_dqStep c m x.f
 have hi1:=op_iStep c m x.f
 have hi2:=len_iStep c m x.f
 have he1:=op_evStep c m x.f
 have he2:=len_evStep c m x.f
 have hs:=fun v=>len_tStart t x.stack v
 have hdo:=len_tDo t x.stack
 unfold wq0
 dsimp only
 repeat' split
 ·exact ⟨hd2,Nat.le_succ _,fun h=>opOk_same rfl hd1 h⟩
 ·exact ⟨hd2,hs _,fun _=>by simp [opOk,toW,stW]⟩
 ·exact ⟨hd2,Nat.le_succ _,fun _=>by simp [opOk,toW]⟩
theorem wkeeps1 (c:Cf) (t:List Tk) (m:List Int) (w:Int) (x:Wk) (d:Int) (hp:x.pc=1):WKeeps m x (wq1 c t m w x d):=by
 have hd1:=op_dqStep c m x.f
 have hd2:=len_dqStep c m x.f
 have hi1:=op_iStep c m x.f
 have hi2:=len_iStep c m x.f
 have he1:=op_evStep c m x.f
 have he2:=len_evStep c m x.f
 have hs:=fun v=>len_tStart t x.stack v
 have hdo:=len_tDo t x.stack
 exact ⟨len_add ..,Nat.le_succ _,fun _=>by simp [opOk,wq1]⟩
theorem wkeeps2 (c:Cf) (t:List Tk) (m:List Int) (w:Int) (x:Wk) (d:Int) (hp:x.pc=2):WKeeps m x (wq2 c t m w x d):=by
 have hd1:=op_dqStep c m x.f
 have hd2:=len_dqStep c m x.f
 have hi1:=op_iStep c m x.f
 have hi2:=len_iStep c m x.f
 have he1:=op_evStep c m x.f
 have he2:=len_evStep c m x.f
 have hs:=fun v=>len_tStart t x.stack v
 have hdo:=len_tDo t x.stack
 unfold wq2
 dsimp only
 repeat' split
 ·exact ⟨hi2,Nat.le_succ _,fun h=>opOk_same rfl hi1 h⟩
 ·exact ⟨hi2,Nat.le_succ _,fun _=>by simp [opOk]⟩
 ·exact ⟨hi2,Nat.le_succ _,fun _=>by simp [opOk,withW]⟩
 ·exact ⟨hi2,Nat.le_succ _,fun _=>by simp [opOk,withW]⟩
 ·exact ⟨hi2,Nat.le_succ _,fun _=>by simp [opOk]⟩
theorem wkeeps3 (c:Cf) (t:List Tk) (m:List Int) (w:Int) (x:Wk) (d:Int) (hp:x.pc=3):WKeeps m x (wq3 c t m w x d):=by
 have hd1:=op_dqStep c m x.f
 have hd2:=len_dqStep c m x.f
 have hi1:=op_iStep c m x.f
 have hi2:=len_iStep c m x.f
 have he1:=op_evStep c m x.f
 have he2:=len_evStep c m x.f
 have hs:=fun v=>len_tStart t x.stack v
 have hdo:=len_tDo t x.stack
 unfold wq3
 dsimp only
 repeat' split
 ·exact ⟨hd2,Nat.le_succ _,fun h=>opOk_same rfl hd1 h⟩
 ·exact ⟨hd2,Nat.le_succ _,fun _=>by simp [opOk]⟩
 ·exact ⟨hd2,Nat.le_succ _,fun _=>by simp [opOk,withW]⟩
 ·exact ⟨hd2,Nat.le_succ _,fun _=>by simp [opOk]⟩
theorem wkeeps4 (c:Cf) (t:List Tk) (m:List Int) (w:Int) (x:Wk) (d:Int) (hp:x.pc=4):WKeeps m x (wq4 c t m w x d):=by
 have hd1:=op_dqStep c m x.f
 have hd2:=len_dqStep c m x.f
 have hi1:=op_iStep c m x.f
 have hi2:=len_iStep c m x.f
 have he1:=op_evStep c m x.f
 have he2:=len_evStep c m x.f
 have hs:=fun v=>len_tStart t x.stack v
 have hdo:=len_tDo t x.stack
 unfold wq4
 split
 ·exact ⟨len_add ..,hs _,fun _=>by simp [opOk,stW,withW]⟩
 ·exact ⟨len_add ..,hs _,fun _=>by simp [opOk,stW,toW]⟩
theorem wkeeps5 (c:Cf) (t:List Tk) (m:List Int) (w:Int) (x:Wk) (d:Int) (hp:x.pc=5):WKeeps m x (wq5 c t m w x d):=by
 have hd1:=op_dqStep c m x.f
 have hd2:=len_dqStep c m x.f
 have hi1:=op_iStep c m x.f
 have hi2:=len_iStep c m x.f
 have he1:=op_evStep c m x.f
 have he2:=len_evStep c m x.f
 have hs:=fun v=>len_tStart t x.stack v
 have hdo:=len_tDo t x.stack
 exact ⟨he2,Nat.le_succ _,fun h=>by have:=h.2.2.2.1 hp; simp [opOk,wq5,he1,this]⟩
theorem wkeeps6 (c:Cf) (t:List Tk) (m:List Int) (w:Int) (x:Wk) (d:Int) (hp:x.pc=6):WKeeps m x (wq6 c t m w x d):=by
 have hd1:=op_dqStep c m x.f
 have hd2:=len_dqStep c m x.f
 have hi1:=op_iStep c m x.f
 have hi2:=len_iStep c m x.f
 have he1:=op_evStep c m x.f
 have he2:=len_evStep c m x.f
 have hs:=fun v=>len_tStart t x.stack v
 have hdo:=len_tDo t x.stack
 exact ⟨len_add ..,Nat.le_succ _,fun h=>by have:=h.2.2.2.2.1 hp; simp [opOk,wq6,this]⟩
theorem wkeeps7 (c:Cf) (t:List Tk) (m:List Int) (w:Int) (x:Wk) (d:Int) (hp:x.pc=7):WKeeps m x (wq7 c t m w x d):=by
 have hd1:=op_dqStep c m x.f
 have hd2:=len_dqStep c m x.f
 have hi1:=op_iStep c m x.f
 have hi2:=len_iStep c m x.f
 have he1:=op_evStep c m x.f
 have he2:=len_evStep c m x.f
 have hs:=fun v=>len_tStart t x.stack v
 have hdo:=len_tDo t x.stack
 unfold wq7
 repeat' split
 ·exact ⟨rfl,Nat.le_succ _,fun h=>by have:=h.2.2.2.2.2.1 hp; simp [opOk,fVal,this]⟩
 ·exact ⟨rfl,Nat.le_succ _,fun _=>by simp [opOk,toW]⟩
 ·exact ⟨rfl,Nat.le_succ _,fun h=>by have:=h.2.2.2.2.2.1 hp; simp [opOk,fVal,this]⟩
 ·exact ⟨rfl,Nat.le_succ _,fun h=>by have:=h.2.2.2.2.2.1 hp; simp [opOk,fVal,this]⟩
theorem wkeeps8 (c:Cf) (t:List Tk) (m:List Int) (w:Int) (x:Wk) (d:Int) (hp:x.pc=8):WKeeps m x (wq8 c t m w x d):=by
 have hd1:=op_dqStep c m x.f
 have hd2:=len_dqStep c m x.f
 have hi1:=op_iStep c m x.f
 have hi2:=len_iStep c m x.f
 have he1:=op_evStep c m x.f
 have he2:=len_evStep c m x.f
 have hs:=fun v=>len_tStart t x.stack v
 have hdo:=len_tDo t x.stack
 unfold wq8
 dsimp only
 split
 ·exact ⟨he2,Nat.le_succ _,fun h=>opOk_same rfl he1 h⟩
 ·exact ⟨he2,Nat.le_succ _,fun _=>by simp [opOk,toW]⟩
theorem wkeeps9 (c:Cf) (t:List Tk) (m:List Int) (w:Int) (x:Wk) (d:Int) (hp:x.pc=9):WKeeps m x (wq9 c t m w x d):=by
 have hd1:=op_dqStep c m x.f
 have hd2:=len_dqStep c m x.f
 have hi1:=op_iStep c m x.f
 have hi2:=len_iStep c m x.f
 have he1:=op_evStep c m x.f
 have he2:=len_evStep c m x.f
 have hs:=fun v=>len_tStart t x.stack v
 have hdo:=len_tDo t x.stack
 unfold wq9
 dsimp only
 repeat' split
 ·exact ⟨rfl,by dsimp only; omega,fun _=>by simp [opOk]⟩
 ·exact ⟨rfl,Nat.le_succ _,fun _=>by simp [opOk]⟩
 ·exact ⟨rfl,Nat.le_succ _,fun _=>by simp [opOk]⟩
 ·exact ⟨rfl,Nat.le_succ _,fun _=>by simp [opOk,withW]⟩
theorem wkeeps10 (c:Cf) (t:List Tk) (m:List Int) (w:Int) (x:Wk) (d:Int) (hp:x.pc=10):WKeeps m x (wq10 c t m w x d):=by
 have hd1:=op_dqStep c m x.f
 have hd2:=len_dqStep c m x.f
 have hi1:=op_iStep c m x.f
 have hi2:=len_iStep c m x.f
 have he1:=op_evStep c m x.f
 have he2:=len_evStep c m x.f
 have hs:=fun v=>len_tStart t x.stack v
 have hdo:=len_tDo t x.stack
 unfold wq10
 dsimp only
 split
 ·exact ⟨len_add ..,by dsimp only; omega,fun _=>by simp [opOk]⟩
 ·exact ⟨rfl,Nat.le_succ _,fun _=>by simp [opOk,toW]⟩
theorem wkeeps11 (c:Cf) (t:List Tk) (m:List Int) (w:Int) (x:Wk) (d:Int) (hp:x.pc=11):WKeeps m x (wq11 c t m w x d):=by
 have hd1:=op_dqStep c m x.f
 have hd2:=len_dqStep c m x.f
 have hi1:=op_iStep c m x.f
 have hi2:=len_iStep c m x.f
 have he1:=op_evStep c m x.f
 have he2:=len_evStep c m x.f
 have hs:=fun v=>len_tStart t x.stack v
 have hdo:=len_tDo t x.stack
 unfold wq11
 dsimp only
 repeat' split
 ·exact ⟨hd2,Nat.le_succ _,fun h=>opOk_same rfl hd1 h⟩
 ·exact ⟨hd2,Nat.le_succ _,fun _=>by simp [opOk,withW]⟩
 ·exact ⟨hd2,Nat.le_succ _,fun _=>by simp [opOk,toW]⟩
theorem wkeeps12 (c:Cf) (t:List Tk) (m:List Int) (w:Int) (x:Wk) (d:Int) (hp:x.pc=12):WKeeps m x (wq12 c t m w x d):=by
 have hd1:=op_dqStep c m x.f
 have hd2:=len_dqStep c m x.f
 have hi1:=op_iStep c m x.f
 have hi2:=len_iStep c m x.f
 have he1:=op_evStep c m x.f
 have he2:=len_evStep c m x.f
 have hs:=fun v=>len_tStart t x.stack v
 have hdo:=len_tDo t x.stack
 unfold wq12
 dsimp only
 repeat' split
 ·exact ⟨hi2,Nat.le_succ _,fun h=>opOk_same rfl hi1 h⟩
 ·exact ⟨hi2,hs _,fun _=>by simp [opOk,toW,stW]⟩
 ·exact ⟨hi2,Nat.le_succ _,fun _=>by simp [opOk,toW]⟩
theorem wkeeps13 (c:Cf) (t:List Tk) (m:List Int) (w:Int) (x:Wk) (d:Int) (hp:x.pc=13):WKeeps m x (wq13 c t m w x d):=by
 have hd1:=op_dqStep c m x.f
 have hd2:=len_dqStep c m x.f
 have hi1:=op_iStep c m x.f
 have hi2:=len_iStep c m x.f
 have he1:=op_evStep c m x.f
 have he2:=len_evStep c m x.f
 have hs:=fun v=>len_tStart t x.stack v
 have hdo:=len_tDo t x.stack
 unfold wq13
 split
 ·exact ⟨rfl,Nat.le_succ _,fun _=>by simp [opOk,withW]⟩
 ·exact ⟨rfl,Nat.le_succ _,fun _=>by simp [opOk,toW]⟩
theorem wkeeps14 (c:Cf) (t:List Tk) (m:List Int) (w:Int) (x:Wk) (d:Int) (hp:x.pc=14):WKeeps m x (wq14 c t m w x d):=by
 have hd1:=op_dqStep c m x.f
 have hd2:=len_dqStep c m x.f
 have hi1:=op_iStep c m x.f
 have hi2:=len_iStep c m x.f
 have he1:=op_evStep c m x.f
 have he2:=len_evStep c m x.f
 have hs:=fun v=>len_tStart t x.stack v
 have hdo:=len_tDo t x.stack
 unfold wq14
 dsimp only
 split
 ·exact ⟨he2,Nat.le_succ _,fun h=>opOk_same rfl he1 h⟩
 ·exact ⟨he2,Nat.le_succ _,fun _=>by simp [opOk,toW]⟩
theorem wkeeps15 (c:Cf) (t:List Tk) (m:List Int) (w:Int) (x:Wk) (d:Int) (hp:True):WKeeps m x (wq15 c t m w x d):=by
 have hd1:=op_dqStep c m x.f
 have hd2:=len_dqStep c m x.f
 have hi1:=op_iStep c m x.f
 have hi2:=len_iStep c m x.f
 have he1:=op_evStep c m x.f
 have he2:=len_evStep c m x.f
 have hs:=fun v=>len_tStart t x.stack v
 have hdo:=len_tDo t x.stack
 unfold wq15
 dsimp only
 split
 ·split
  ·exact ⟨len_add ..,by dsimp only; omega,fun _=>by simp [opOk]⟩
  ·exact ⟨len_add ..,by dsimp only; omega,fun _=>by simp [opOk]⟩
 ·exact ⟨rfl,Nat.le_succ _,fun _=>by simp [opOk,toW]⟩
theorem wStep_cases {Q:WR→Prop} (c:Cf) (t:List Tk) (m:List Int) (w:Int) (x:Wk) (d:Int) (hN:wMay c t m w x=false→Q (m,x,[]))
  (h0:wMay c t m w x=true→x.pc=0→Q (wq0 c t m w x d))
  (h1:wMay c t m w x=true→x.pc=1→Q (wq1 c t m w x d))
  (h2:wMay c t m w x=true→x.pc=2→Q (wq2 c t m w x d))
  (h3:wMay c t m w x=true→x.pc=3→Q (wq3 c t m w x d))
  (h4:wMay c t m w x=true→x.pc=4→Q (wq4 c t m w x d))
  (h5:wMay c t m w x=true→x.pc=5→Q (wq5 c t m w x d))
  (h6:wMay c t m w x=true→x.pc=6→Q (wq6 c t m w x d))
  (h7:wMay c t m w x=true→x.pc=7→Q (wq7 c t m w x d))
  (h8:wMay c t m w x=true→x.pc=8→Q (wq8 c t m w x d))
  (h9:wMay c t m w x=true→x.pc=9→Q (wq9 c t m w x d))
  (h10:wMay c t m w x=true→x.pc=10→Q (wq10 c t m w x d))
  (h11:wMay c t m w x=true→x.pc=11→Q (wq11 c t m w x d))
  (h12:wMay c t m w x=true→x.pc=12→Q (wq12 c t m w x d))
  (h13:wMay c t m w x=true→x.pc=13→Q (wq13 c t m w x d))
  (h14:wMay c t m w x=true→x.pc=14→Q (wq14 c t m w x d))
  (h15:wMay c t m w x=true→x.pc=15→Q (wq15 c t m w x d)):Q (wStep c t m w x d):=by
 unfold wStep
 cases hm:wMay c t m w x with
 | false=>rw [if_pos rfl]; exact hN hm
 | true=>
  rw [if_neg (by simp)]
  have hpc:0≤x.pc∧x.pc < 16:=by
   have:=hm
   simp only [wMay,Bool.and_eq_true,decide_eq_true_eq] at this
   omega
  by_cases p0:x.pc=0
  ·rw [if_pos p0]; exact h0 hm p0
  rw [if_neg p0]
  by_cases p1:x.pc=1
  ·rw [if_pos p1]; exact h1 hm p1
  rw [if_neg p1]
  by_cases p2:x.pc=2
  ·rw [if_pos p2]; exact h2 hm p2
  rw [if_neg p2]
  by_cases p3:x.pc=3
  ·rw [if_pos p3]; exact h3 hm p3
  rw [if_neg p3]
  by_cases p4:x.pc=4
  ·rw [if_pos p4]; exact h4 hm p4
  rw [if_neg p4]
  by_cases p5:x.pc=5
  ·rw [if_pos p5]; exact h5 hm p5
  rw [if_neg p5]
  by_cases p6:x.pc=6
  ·rw [if_pos p6]; exact h6 hm p6
  rw [if_neg p6]
  by_cases p7:x.pc=7
  ·rw [if_pos p7]; exact h7 hm p7
  rw [if_neg p7]
  by_cases p8:x.pc=8
  ·rw [if_pos p8]; exact h8 hm p8
  rw [if_neg p8]
  by_cases p9:x.pc=9
  ·rw [if_pos p9]; exact h9 hm p9
  rw [if_neg p9]
  by_cases p10:x.pc=10
  ·rw [if_pos p10]; exact h10 hm p10
  rw [if_neg p10]
  by_cases p11:x.pc=11
  ·rw [if_pos p11]; exact h11 hm p11
  rw [if_neg p11]
  by_cases p12:x.pc=12
  ·rw [if_pos p12]; exact h12 hm p12
  rw [if_neg p12]
  by_cases p13:x.pc=13
  ·rw [if_pos p13]; exact h13 hm p13
  rw [if_neg p13]
  by_cases p14:x.pc=14
  ·rw [if_pos p14]; exact h14 hm p14
  rw [if_neg p14]
  exact h15 hm (by omega)
theorem wkeeps (c:Cf) (t:List Tk) (m:List Int) (w:Int) (x:Wk) (d:Int):WKeeps m x (wStep c t m w x d):=
 wStep_cases c t m w x d (fun _=>⟨rfl,Nat.le_succ _,fun h=>h⟩) (fun _ h=>wkeeps0 c t m w x d h) (fun _ h=>wkeeps1 c t m w x d h) (fun _ h=>wkeeps2 c t m w x d h) (fun _ h=>wkeeps3 c t m w x d h) (fun _ h=>wkeeps4 c t m w x d h) (fun _ h=>wkeeps5 c t m w x d h) (fun _ h=>wkeeps6 c t m w x d h) (fun _ h=>wkeeps7 c t m w x d h) (fun _ h=>wkeeps8 c t m w x d h) (fun _ h=>wkeeps9 c t m w x d h) (fun _ h=>wkeeps10 c t m w x d h) (fun _ h=>wkeeps11 c t m w x d h) (fun _ h=>wkeeps12 c t m w x d h) (fun _ h=>wkeeps13 c t m w x d h) (fun _ h=>wkeeps14 c t m w x d h) (fun _ h=>wkeeps15 c t m w x d trivial)
structure SKeeps (m:List Int) (x:Sb) (r:SR):Prop where
 len:r.1.length=m.length
 roots:r.2.1.roots.length≤x.roots.length
 op:opOkS x→opOkS r.2.1
theorem skeeps (c:Cf) (m:List Int) (i:Int) (x:Sb):SKeeps m x (sbStep c m i x):=by
 have hi1:=op_iStep c m x.f
 have hi2:=len_iStep c m x.f
 have he1:=op_evStep c m x.f
 have he2:=len_evStep c m x.f
 have hdr:(x.roots.drop 1).length≤x.roots.length:=by simp
 unfold sbStep
 by_cases p0:x.pc=0
 ·rw [if_pos p0]
  unfold sq0
  split
  ·exact ⟨rfl,Nat.le_refl _,fun _=>by simp [opOkS]⟩
  ·exact ⟨rfl,hdr,fun _=>by simp [opOkS,doneS]⟩
 rw [if_neg p0]
 by_cases p1:x.pc=1
 ·rw [if_pos p1]
  exact ⟨len_add ..,Nat.le_refl _,fun _=>by simp [opOkS,sq1]⟩
 rw [if_neg p1]
 by_cases p2:x.pc=2
 ·rw [if_pos p2]
  unfold sq2
  dsimp only
  repeat' split
  ·exact ⟨hi2,Nat.le_refl _,fun h=>by have:=h.1 p2; simp [opOkS,hi1,this]⟩
  ·exact ⟨hi2,Nat.le_refl _,fun _=>by simp [opOkS]⟩
  ·exact ⟨hi2,Nat.le_refl _,fun _=>by simp [opOkS]⟩
 rw [if_neg p2]
 by_cases p3:x.pc=3
 ·rw [if_pos p3]
  unfold sq3
  split
  ·exact ⟨rfl,Nat.le_refl _,fun _=>by simp [opOkS]⟩
  ·exact ⟨rfl,hdr,fun _=>by simp [opOkS,doneS]⟩
 rw [if_neg p3]
 by_cases p4:x.pc=4
 ·rw [if_pos p4]
  unfold sq4
  dsimp only
  split
  ·exact ⟨he2,Nat.le_refl _,fun h=>by have:=h.2 p4; simp [opOkS,he1,this]⟩
  ·exact ⟨he2,hdr,fun _=>by simp [opOkS,doneS]⟩
 rw [if_neg p4]
 exact ⟨len_add ..,hdr,fun _=>by simp [opOkS,doneS,sq5]⟩
def sb0:Sb:=⟨0,[],fr00⟩
def pStep' (p:Po) (k:Pk):Po × List Ev:=
 if k.kind=0 then
  (⟨p.c,p.t,(wStep p.c p.t p.m k.who (p.w.getD k.who.toNat wk0) k.draw).1,p.w.set k.who.toNat (wStep p.c p.t p.m k.who (p.w.getD k.who.toNat wk0) k.draw).2.1,p.s⟩,(wStep p.c p.t p.m k.who (p.w.getD k.who.toNat wk0) k.draw).2.2)
 else if k.kind=1 then
  (if sMay p.c p.t p.m (p.s.getD k.who.toNat sb0)=true then
   (⟨p.c,p.t,(sbStep p.c p.m k.who (p.s.getD k.who.toNat sb0)).1,p.w,p.s.set k.who.toNat (sbStep p.c p.m k.who (p.s.getD k.who.toNat sb0)).2.1⟩,(sbStep p.c p.m k.who (p.s.getD k.who.toNat sb0)).2.2)
  else (p,[]))
 else if k.kind=2 then (⟨p.c,p.t,mStore p.m 3 1,p.w,p.s⟩,[])
 else (p,[])
def pGo (p:Po) (k:Pk):Po × List Ev:=if dFits k p.c.w p.s.length=true then pStep' p k else (p,[])
def pRun (p:Po) (l:List Pk):Po × List Ev:=l.foldl (fun a k=>((pGo a.1 k).1,a.2 ++ (pGo a.1 k).2)) (p,[])
theorem pRun_snoc (p:Po) (l:List Pk) (k:Pk):pRun p (l ++ [k])=((pGo (pRun p l).1 k).1,(pRun p l).2 ++ (pGo (pRun p l).1 k).2):=by
 unfold pRun; rw [List.foldl_append]; rfl
structure PIn (p:Po) (n:Nat) (q:Po):Prop where
 c:q.c=p.c
 t:q.t=p.t
 m:q.m.length=p.m.length
 w:q.w.length=p.w.length
 s:q.s.length=p.s.length
 ws:∀ x∈q.w,x.stack.length≤n∧opOk x
 ss:∀ x∈q.s,x.roots.length≤100000∧opOkS x
theorem mem_setD {α:Type} {l:List α} {i:Nat} {x y:α} (h:y∈l.set i x):y=x∨y∈l:=by
 rcases List.mem_or_eq_of_mem_set h with h | h
 ·exact .inr h
 ·exact .inl h
theorem getD_memW {α:Type} {l:List α} {i:Nat} {d:α} (h:i < l.length):l.getD i d∈l:=by simp [List.getD_eq_getElem?_getD,h]
theorem PIn.mono {p q:Po} {n n':Nat} (h:PIn p n q) (hn:n≤n'):PIn p n' q:={ h with ws:=fun x hx=>⟨by have:=(h.ws x hx).1; omega,(h.ws x hx).2⟩ }
theorem fits_w {k:Pk} {w s:Int} (h:dFits k w s=true) (hk:k.kind=0):0≤k.who∧k.who < w:=by
 unfold dFits at h
 rw [hk] at h
 simp at h
 exact h
theorem fits_s {k:Pk} {w s:Int} (h:dFits k w s=true) (hk:k.kind=1):0≤k.who∧k.who < s:=by
 unfold dFits at h
 rw [hk] at h
 simp at h
 exact h
theorem PIn.go {p q:Po} {n:Nat} (h:PIn p n q) (hw:(p.w.length:Int)=p.c.w) (k:Pk):PIn p (n + 1) (pGo q k).1:=by
 unfold pGo
 split
 ·rename_i hf
  unfold pStep'
  by_cases h0:k.kind=0
  ·rw [if_pos h0]
   obtain ⟨f1,f2⟩:=fits_w hf h0
   have hlt:k.who.toNat < q.w.length:=by rw [h.w]; rw [h.c] at f2; omega
   have hx:=h.ws _ (getD_memW (d:=wk0) hlt)
   obtain ⟨k1,k2,k3⟩:=wkeeps q.c q.t q.m k.who (q.w.getD k.who.toNat wk0) k.draw
   refine ⟨h.c,h.t,k1.trans h.m,by simpa using h.w,h.s,fun y hy=>?_,h.ss⟩
   rcases mem_setD hy with rfl | hy
   ·exact ⟨by omega,k3 hx.2⟩
   ·exact ⟨by have:=(h.ws y hy).1; omega,(h.ws y hy).2⟩
  ·rw [if_neg h0]
   by_cases h1:k.kind=1
   ·rw [if_pos h1]
    obtain ⟨f1,f2⟩:=fits_s hf h1
    have hlt:k.who.toNat < q.s.length:=by omega
    have hx:=h.ss _ (getD_memW (d:=sb0) hlt)
    split
    ·obtain ⟨k1,k2,k3⟩:=skeeps q.c q.m k.who (q.s.getD k.who.toNat sb0)
     refine ⟨h.c,h.t,k1.trans h.m,h.w,by simpa using h.s,fun y hy=>⟨by have:=(h.ws y hy).1; omega,(h.ws y hy).2⟩,fun y hy=>?_⟩
     rcases mem_setD hy with rfl | hy
     ·exact ⟨by omega,k3 hx.2⟩
     ·exact h.ss y hy
    ·exact h.mono (by omega)
   ·rw [if_neg h1]
    split
    ·exact ⟨h.c,h.t,(len_store ..).trans h.m,h.w,h.s,fun y hy=>⟨by have:=(h.ws y hy).1; omega,(h.ws y hy).2⟩,h.ss⟩
    ·exact h.mono (by omega)
 ·exact h.mono (by omega)
end Go.Vai

/- Few tasks, few roots; tasks of one's own. -/
namespace Go.Vai
open Go.RowKit Go.Proofs
set_option maxHeartbeats 4000000
set_option maxRecDepth 100000
def okKd (x:Tk):Bool:=decide (x.kids.length≤40)
def few (t:List Tk):Bool:=(t.take 41).all okKd && decide (t.length≤40)
theorem few_pure (t:List Tk):PureC Tryz.prog 23 [tks t] (bv (few t)):=by
 refine pure_sub okAL 1 Tryz.func23 rfl (by show 1≤_; decide) ?_
 simp only [Tryz.f23,tks,bv,ctx_T,ev1,ev2,undef,cv,stepB,aopR,one,argFrm,evo,frz,frz1,frzA,subA,subB,sub1,Nat.reduceAdd,Nat.reduceLT]
 refine WP.loop (fun i:Nat=>50 - i) (fun i=>i≤41∧i≤t.length∧(t.take i).all okKd=true) (n:=24) (fr:=fun i=>[(3,iv i),(0,tks t)]) (hp:=fun _=>[]) (N:=0) ?_ 0 ⟨by omega,by omega,rfl⟩ rfl (Nat.zero_le _) ⟨rfl,rfl,trivial⟩ trivial
 rintro i nx ⟨g1,g2,g3⟩ _ _
 refine WP.of okAL 1 (by rfl) ?_
 by_cases hi:i < t.length
 ·have hz:(i:Int) < t.length:=by omega
  have hz0:(0:Int)≤(i:Int):=by omega
  have hg:=getD_t hi
  by_cases h4:(i:Int)≤40
  ·have w1:IntKind.wrap .i64 ((i:Int) + 1)=((i + 1:Nat):Int):=by rw [wrap_i (by omega) (by omega)]; omega
   by_cases h5:((t.getD i ⟨0,[]⟩).kids.length:Int) > 40
   ·have e:few t=false:=by
     unfold few
     have:(t.take 41).all okKd=false:=all_not (i:=i) (d:=⟨0,[]⟩) (by simp; omega) (by
      rw [show (t.take 41).getD i ⟨0,[]⟩=t.getD i ⟨0,[]⟩ by simp [List.getD_eq_getElem?_getD,show i < 41 by omega]]
      simp only [okKd,decide_eq_false_iff_not]; omega)
     rw [this]; rfl
    rw [e]
    simp only [hz,hz0,hg,h4,h5,tks,tv,zs,List.length_map,Int.toNat_natCast,Nat.add_assoc,tt_all,iv,ctx_T,List.length_map,Int.toNat_natCast,ev1,ev2,implies_true,undef,↓condE_t,↓guardE_tt,resB,cv,stepB,guardB,guardC,dstAt,aopR,one,pre,binR,intOpR,evo,lkp,lenOf,ofCells,TK.agg,Nat.reduceAdd,Nat.reduceLT,Nat.reduceLeDiff,reduceCtorEq,eq_self,ne_eq]
    all_goals ((repeat' apply And.intro) <;> first | rfl | omega | (show (_:Bool)=true; kernel_rfl) | decide)
   ·simp only [hz,hz0,hg,h4,h5,w1,tks,tv,zs,List.length_map,Int.toNat_natCast,Nat.add_assoc,tt_all,iv,ctx_T,List.length_map,Int.toNat_natCast,ev1,ev2,implies_true,undef,↓condE_t,↓condE_f,↓guardE_tt,cv,stepB,guardB,guardC,dstAt,aopR,one,pre,binR,intOpR,evo,lkp,lenOf,ofCells,TK.agg,sub1,kp,kh,Nat.reduceAdd,Nat.reduceLT,Nat.reduceLeDiff,reduceCtorEq,eq_self,ne_eq]
    exact ⟨i + 1,by omega,⟨by omega,by omega,take_all g3 hi (d:=⟨0,[]⟩) (by simp only [okKd,decide_eq_true_eq]; omega)⟩,rfl⟩
  ·have e:few t=false:=by
    unfold few
    rw [show decide (t.length≤40)=false from by simp; omega,Bool.and_false]
   have e2:¬ (t.length:Int)≤40:=by omega
   rw [e]
   simp only [hz,h4,e2,tks,List.length_map,Nat.add_assoc,tt_all,iv,ctx_T,List.length_map,ev1,ev2,undef,↓condE_f,↓guardE_tt,resB,cv,stepB,guardB,guardC,dstAt,aopR,one,pre,binR,intOpR,evo,lkp,lenOf,Nat.reduceAdd,Nat.reduceLT,eq_self]
   all_goals ((repeat' apply And.intro) <;> first | rfl | omega | (show (_:Bool)=true; kernel_rfl) | decide)
 ·have hz:¬ (i:Int) < t.length:=by omega
  have ei:i=t.length:=by omega
  have e:few t=decide ((t.length:Int)≤40):=by
   unfold few
   have:(t.take 41).all okKd=true:=by
    rw [ei,List.take_length] at g3
    rw [List.all_eq_true] at g3 ⊢
    exact fun x hx=>g3 x (List.mem_of_mem_take hx)
   rw [this,Bool.true_and]
   simp only [decide_eq_decide]; omega
  rw [e]
  simp only [hz,tks,List.length_map,Nat.add_assoc,tt_all,iv,ctx_T,List.length_map,ev1,ev2,undef,↓condE_f,↓guardE_ft,resB,cv,stepB,guardB,guardC,dstAt,aopR,one,pre,binR,intOpR,evo,lkp,lenOf,Nat.reduceAdd,Nat.reduceLT,eq_self]
  all_goals ((repeat' apply And.intro) <;> first | rfl | omega | (show (_:Bool)=true; kernel_rfl) | decide)
def okRt (x:List Int):Bool:=decide (x.length≤60)
def fewR (l:List (List Int)):Bool:=(l.take 11).all okRt && decide (l.length≤10)
theorem getD_zz {l:List (List Int)} {k:Nat} (h:k < l.length):(l.map zs).getD k .top=zs (l.getD k []):=by simp [List.getD_eq_getElem?_getD,h]
theorem fewr_pure (t:List (List Int)):PureC Tryz.prog 24 [zss t] (bv (fewR t)):=by
 refine pure_sub okAL 1 Tryz.func24 rfl (by show 1≤_; decide) ?_
 simp only [Tryz.f24,zss,bv,ctx_T,ev1,ev2,undef,cv,stepB,aopR,one,argFrm,evo,frz,frz1,frzA,subA,subB,sub1,Nat.reduceAdd,Nat.reduceLT]
 refine WP.loop (fun i:Nat=>20 - i) (fun i=>i≤11∧i≤t.length∧(t.take i).all okRt=true) (n:=23) (fr:=fun i=>[(3,iv i),(0,zss t)]) (hp:=fun _=>[]) (N:=0) ?_ 0 ⟨by omega,by omega,rfl⟩ rfl (Nat.zero_le _) ⟨rfl,rfl,trivial⟩ trivial
 rintro i nx ⟨g1,g2,g3⟩ _ _
 refine WP.of okAL 1 (by rfl) ?_
 by_cases hi:i < t.length
 ·have hz:(i:Int) < t.length:=by omega
  have hz0:(0:Int)≤(i:Int):=by omega
  have hg:=getD_zz hi
  by_cases h4:(i:Int)≤10
  ·have w1:IntKind.wrap .i64 ((i:Int) + 1)=((i + 1:Nat):Int):=by rw [wrap_i (by omega) (by omega)]; omega
   by_cases h5:((t.getD i []).length:Int) > 60
   ·have e:fewR t=false:=by
     unfold fewR
     have:(t.take 11).all okRt=false:=all_not (i:=i) (d:=[]) (by simp; omega) (by
      rw [show (t.take 11).getD i []=t.getD i [] by simp [List.getD_eq_getElem?_getD,show i < 11 by omega]]
      simp only [okRt,decide_eq_false_iff_not]; omega)
     rw [this]; rfl
    rw [e]
    simp only [hz,hz0,hg,h4,h5,zss,zs,List.length_map,Int.toNat_natCast,Nat.add_assoc,tt_all,iv,ctx_T,List.length_map,Int.toNat_natCast,ev1,ev2,implies_true,undef,↓condE_t,↓guardE_tt,resB,cv,stepB,guardB,guardC,dstAt,aopR,one,pre,binR,intOpR,evo,lkp,lenOf,ofCells,TK.agg,Nat.reduceAdd,Nat.reduceLT,Nat.reduceLeDiff,reduceCtorEq,eq_self,ne_eq]
    all_goals ((repeat' apply And.intro) <;> first | rfl | omega | (show (_:Bool)=true; kernel_rfl) | decide)
   ·simp only [hz,hz0,hg,h4,h5,w1,zss,zs,List.length_map,Int.toNat_natCast,Nat.add_assoc,tt_all,iv,ctx_T,List.length_map,Int.toNat_natCast,ev1,ev2,implies_true,undef,↓condE_t,↓condE_f,↓guardE_tt,cv,stepB,guardB,guardC,dstAt,aopR,one,pre,binR,intOpR,evo,lkp,lenOf,ofCells,TK.agg,sub1,kp,kh,Nat.reduceAdd,Nat.reduceLT,Nat.reduceLeDiff,reduceCtorEq,eq_self,ne_eq]
    exact ⟨i + 1,by omega,⟨by omega,by omega,take_all g3 hi (d:=[]) (by simp only [okRt,decide_eq_true_eq]; omega)⟩,rfl⟩
  ·have e:fewR t=false:=by
    unfold fewR
    rw [show decide (t.length≤10)=false from by simp; omega,Bool.and_false]
   have e2:¬ (t.length:Int)≤10:=by omega
   rw [e]
   simp only [hz,h4,e2,zss,List.length_map,Nat.add_assoc,tt_all,iv,ctx_T,List.length_map,ev1,ev2,undef,↓condE_f,↓guardE_tt,resB,cv,stepB,guardB,guardC,dstAt,aopR,one,pre,binR,intOpR,evo,lkp,lenOf,Nat.reduceAdd,Nat.reduceLT,eq_self]
   all_goals ((repeat' apply And.intro) <;> first | rfl | omega | (show (_:Bool)=true; kernel_rfl) | decide)
 ·have hz:¬ (i:Int) < t.length:=by omega
  have ei:i=t.length:=by omega
  have e:fewR t=decide ((t.length:Int)≤10):=by
   unfold fewR
   have:(t.take 11).all okRt=true:=by
    rw [ei,List.take_length] at g3
    rw [List.all_eq_true] at g3 ⊢
    exact fun x hx=>g3 x (List.mem_of_mem_take hx)
   rw [this,Bool.true_and]
   simp only [decide_eq_decide]; omega
  rw [e]
  simp only [hz,zss,List.length_map,Nat.add_assoc,tt_all,iv,ctx_T,List.length_map,ev1,ev2,undef,↓condE_f,↓guardE_ft,resB,cv,stepB,guardB,guardC,dstAt,aopR,one,pre,binR,intOpR,evo,lkp,lenOf,Nat.reduceAdd,Nat.reduceLT,eq_self]
  all_goals ((repeat' apply And.intro) <;> first | rfl | omega | (show (_:Bool)=true; kernel_rfl) | decide)
end Go.Vai

/- Several steps of a pool. -/
namespace Go.Vai
open Go.RowKit Go.Proofs
set_option maxHeartbeats 4000000
set_option maxRecDepth 100000
theorem cls0_pure:PureC Tryz.prog 81 [sbs []] (sbs []):=by
 refine pure_sub okAP 1 Tryz.func81 rfl (by show 1≤_; decide) ?_
 simp only [Tryz.f81,sbs,List.map_nil,List.length_nil,hfc_0,tt_all,ctx_T,ev1,ev2,implies_true,undef,resB,cv,stepB,aopR,one,pre,binR,argFrm,evo,lkp,hlk,asLst,idOf,srcOk,setElems,isEq,frz,frz1,frzA,subA,subB,sub1,List.replicate,Nat.reduceAdd,Nat.reduceMul,Nat.reduceLT,reduceCtorEq,eq_self,ne_eq]
 all_goals ((repeat' apply And.intro) <;> first | rfl | omega | (show (_:Bool)=true; kernel_rfl) | decide)
def rowsAQ:List Row:=[
 (53,row3 shPk shI shI fun k w s=>some (bv (dFits k w s))),
 (15,row1 shBy fun b=>if b.length≤1500 then some (pks (decode b)) else none),
 (37,row1 shT fun t=>if tB t=true∧t.length≤100000 then some (tks t) else none),
 (44,row1 shPo fun p=>if PB p 100000 then some (bv (pMay p)) else none),
 (85,row6 shC shT shM shI shWk shN fun c t m w x d=>if tB t=true∧x.stack.length≤100000∧opOk x then some (wsv (wStep c t m w x d)) else none),
 (88,row5 shC shT shM shI shSb fun c t m i x=>if tB t=true∧x.roots.length≤100000∧sMay c t m x=true∧opOkS x then some (ssv (sbStep c m i x)) else none),
 (42,row1 shZs fun l=>if l.length≤100000 then some (sbv ⟨0,l,fr00⟩) else none),
 (39,row1 shI fun w=>some (wv ⟨0,[],⟨1,0,w,0,0,0,0⟩,0,0⟩)),
 (81,row1 shSs fun l=>if l=[] then some (sbs []) else none)] ++ rowsAP ++ rowsAO
theorem rowsAQ_ok:∀ p∈rowsAQ,RowOk Tryz.prog p:=fun p h=>by
 simp only [rowsAQ,List.mem_append,List.mem_cons,List.not_mem_nil,or_false,or_assoc] at h
 rcases h with rfl | rfl | rfl | rfl | rfl | rfl | rfl | rfl | rfl | h | h
 ·exact ok_row3 (enters_of Tryz.func53 (by decide) rfl) fun k w s r _ _ _ e=>by cases e; exact fits_pure k w s
 ·exact ok_row1 (enters_of Tryz.func15 (by decide) rfl) fun b r _ e=>by obtain ⟨h,rfl⟩:=opt_if e; exact decode_pure b h
 ·exact ok_row1 (enters_of Tryz.func37 (by decide) rfl) fun t r _ e=>by obtain ⟨h,rfl⟩:=opt_if e; exact tasks_pure t h.1 h.2
 ·exact ok_row1 (enters_of Tryz.func44 (by decide) rfl) fun p r _ e=>by obtain ⟨h,rfl⟩:=opt_if e; exact pmay_pure p h
 ·exact ok_row6 (enters_of Tryz.func85 (by decide) rfl) fun c t m w x d r _ _ g _ _ _ e=>by obtain ⟨h,rfl⟩:=opt_if e; exact wstep_pure c t m w x d h.1 (shM_got g) h.2.1 h.2.2
 ·exact ok_row5 (enters_of Tryz.func88 (by decide) rfl) fun c t m i x r _ _ g _ _ e=>by obtain ⟨h,rfl⟩:=opt_if e; exact sbstep_pure c t m i x ⟨h.1,shM_got g,h.2.1,h.2.2.1⟩ h.2.2.2
 ·exact ok_row1 (enters_of Tryz.func42 (by decide) rfl) fun l r _ e=>by obtain ⟨h,rfl⟩:=opt_if e; exact snew_pure l h
 ·exact ok_row1 (enters_of Tryz.func39 (by decide) rfl) fun w r _ e=>by cases e; exact wnew_pure w
 ·exact ok_row1 (enters_of Tryz.func81 (by decide) rfl) fun l r _ e=>by obtain ⟨rfl,rfl⟩:=opt_if e; exact cls0_pure
 ·exact rowsAP_ok p h
 ·exact rowsAO_ok p h
theorem okAQ:(ctx Tryz.prog rowsAQ).ok:=rows_ok rowsAQ_ok
theorem AQ_all:tabC rowsAQ 53=(row3 shPk shI shI fun k w s=>some (bv (dFits k w s)))∧tabC rowsAQ 15=(row1 shBy fun b=>if b.length≤1500 then some (pks (decode b)) else none)∧tabC rowsAQ 37=(row1 shT fun t=>if tB t=true∧t.length≤100000 then some (tks t) else none)∧tabC rowsAQ 44=(row1 shPo fun p=>if PB p 100000 then some (bv (pMay p)) else none)∧tabC rowsAQ 85=(row6 shC shT shM shI shWk shN fun c t m w x d=>if tB t=true∧x.stack.length≤100000∧opOk x then some (wsv (wStep c t m w x d)) else none)∧tabC rowsAQ 88=(row5 shC shT shM shI shSb fun c t m i x=>if tB t=true∧x.roots.length≤100000∧sMay c t m x=true∧opOkS x then some (ssv (sbStep c m i x)) else none)∧tabC rowsAQ 42=(row1 shZs fun l=>if l.length≤100000 then some (sbv ⟨0,l,fr00⟩) else none)∧tabC rowsAQ 39=(row1 shI fun w=>some (wv ⟨0,[],⟨1,0,w,0,0,0,0⟩,0,0⟩))∧tabC rowsAQ 81=(row1 shSs fun l=>if l=[] then some (sbs []) else none)∧tabC rowsAQ 52=(fun _=>none)∧tabC rowsAQ 54=(fun _=>none)∧tabC rowsAQ 84=(fun _=>none)∧tabC rowsAQ 86=(fun _=>none)∧tabC rowsAQ 89=(fun _=>none)∧tabC rowsAQ 87=(row4 shC shT shM shSb fun c t m x=>if tB t=true then some (bv (sMay c t m x)) else none)∧tabC rowsAQ 62=(row1 shZs fun l=>if l.length≤100000 then some (zs l) else none)∧tabC rowsAQ 82=(row1 shX fun l=>if l.length≤100000 then some (its l) else none)∧tabC rowsAQ 80=(fun _=>none)∧tabC rowsAQ 191=(row1 shN fun e=>some (.tup [u (wBump e),iv (wLow (wMask e))]))∧tabC rowsAQ 190=(fun _=>none)∧tabC rowsAQ 192=(fun _=>none)∧tabC rowsAQ 30=(row1 shN fun e=>some (u (wMask e)))∧tabC rowsAQ 79=(row1 shM fun m=>some (ms m))∧tabC rowsAQ 90=(row3 shM shI shN fun m i v=>some (ms (mStore m i v))):=⟨rfl,rfl,rfl,rfl,rfl,rfl,rfl,rfl,rfl,rfl,rfl,rfl,rfl,rfl,rfl,rfl,rfl,rfl,rfl,rfl,rfl,rfl,rfl,rfl⟩
def ownTW (args:List AV):Option (TypeId × Nat × List AV):=
 match args with
 | [a]=>(shWs.dec a).bind fun l=>if l≠[]∧l.length≤1000 then some (44,11,l.map wv) else none
 | _=>none
def ownTS (args:List AV):Option (TypeId × Nat × List AV):=
 match args with
 | [a]=>(shSs.dec a).bind fun l=>if l≠[]∧l.length≤1000 then some (50,9,l.map sbv) else none
 | _=>none
def ownT (f:FuncId) (args:List AV):Option (TypeId × Nat × List AV):=
 match Nat.beq f 80 with
 | true=>ownTW args
 | false=>match Nat.beq f 81 with
  | true=>ownTS args
  | false=>none
def ctxO (P:Program) (rows:List Row):Ctx:={ ctx P rows with O:=ownT }
theorem ctxO_P (P:Program) (rows:List Row):(ctxO P rows).P=P:=rfl
theorem ctxO_T (P:Program) (rows:List Row):(ctxO P rows).T=T P:=rfl
theorem ctxO_C (P:Program) (rows:List Row):(ctxO P rows).C=tabC rows:=rfl
theorem ctxO_O (P:Program) (rows:List Row):(ctxO P rows).O=ownT:=rfl
theorem dec_ne {α:Type} {n:Nat} {E:El α} {a:AV} {l:List α} (h:decL n E a=some l) (h0:l≠[]):a=encL n E l:=by
 have:=decL_some h
 unfold sub1 at this
 split at this
 ·rename_i heq
  unfold encL at heq
  cases heq
  exact (h0 (by simpa using this)).elim
 ·exact this
theorem ownT_ok (f:FuncId) (args:List AV) (ty:TypeId) (sz:Nat) (el:List AV) (h:ownT f args=some (ty,sz,el)):Enters Tryz.prog f∧(∀ a∈args,HFree a)∧OwnC Tryz.prog f args ty sz el:=by
 unfold ownT at h
 split at h
 ·rename_i e
  have e:=Nat.eq_of_beq_eq_true e
  subst e
  unfold ownTW at h
  split at h
  ·rename_i a
   obtain ⟨l,h1,h2⟩:=Option.bind_eq_some_iff.1 h
   split at h2
   ·rename_i h3
    cases h2
    have:=dec_ne (E:=elW) h1 h3.1
    subst this
    refine ⟨enters_of Tryz.func80 (by decide) rfl,?_,clw_own l h3.1 (by omega)⟩
    intro a ha
    simp only [List.mem_cons,List.not_mem_nil,or_false] at ha
    subst ha; exact hf_wks l
   ·cases h2
  ·cases h
 ·split at h
  ·rename_i e
   have e:=Nat.eq_of_beq_eq_true e
   subst e
   unfold ownTS at h
   split at h
   ·rename_i a
    obtain ⟨l,h1,h2⟩:=Option.bind_eq_some_iff.1 h
    split at h2
    ·rename_i h3
     cases h2
     have:=dec_ne (E:=elS) h1 h3.1
     subst this
     refine ⟨enters_of Tryz.func81 (by decide) rfl,?_,cls_own l h3.1 (by omega)⟩
     intro a ha
     simp only [List.mem_cons,List.not_mem_nil,or_false] at ha
     subst ha; exact hf_sbs l
    ·cases h2
   ·cases h
  ·cases h
theorem okO {rows:List Row} (h:(ctx Tryz.prog rows).ok):(ctxO Tryz.prog rows).ok:=
 ⟨⟨h.core.Y,h.core.im,h.core.T,h.core.draws,h.core.C,ownT_ok⟩,h.rd,h.inv,h.noY⟩
theorem okAQ':(ctxO Tryz.prog rowsAQ).ok:=okO okAQ
theorem wev_len (c:Cf) (t:List Tk) (m:List Int) (w:Int) (x:Wk) (d:Int):(wStep c t m w x d).2.2.length≤2:=by
 refine wStep_cases (Q:=fun r=>r.2.2.length≤2) c t m w x d (fun _=>by simp) ?_ ?_ ?_ ?_ ?_ ?_ ?_ ?_ ?_ ?_ ?_ ?_ ?_ ?_ ?_ ?_
 all_goals intro _ _
 all_goals simp only [wq0,wq1,wq2,wq3,wq4,wq5,wq6,wq7,wq8,wq9,wq10,wq11,wq12,wq13,wq14,wq15,stW]
 all_goals ((repeat' split) <;> simp)
theorem sev_len (c:Cf) (m:List Int) (i:Int) (x:Sb):(sbStep c m i x).2.2.length≤2:=by
 unfold sbStep
 repeat' split
 all_goals simp only [sq0,sq1,sq2,sq3,sq4,sq5]
 all_goals ((repeat' split) <;> simp)
theorem pgo_ev (q:Po) (k:Pk):(pGo q k).2.length≤2:=by
 unfold pGo
 split
 ·unfold pStep'
  repeat' split
  all_goals first | exact wev_len .. | exact sev_len .. | exact Nat.zero_le _
 ·exact Nat.zero_le _
theorem tk_map {α β:Type} (f:α→β) (l:List α):List.take l.length (l.map f)=l.map f:=List.take_of_length_le (by rw [List.length_map]; exact Nat.le_refl _)
def pk0:Pk:=⟨0,0,0⟩
theorem getD_pk {l:List Pk} {k:Nat} (h:k < l.length):(l.map pkv).getD k .top=pkv (l.getD k pk0):=by simp [List.getD_eq_getElem?_getD,h]
theorem prun_at (p:Po) {l:List Pk} {i:Nat} (h:i < l.length):pRun p (l.take (i + 1))=((pGo (pRun p (l.take i)).1 (l.getD i pk0)).1,(pRun p (l.take i)).2 ++ (pGo (pRun p (l.take i)).1 (l.getD i pk0)).2):=by
 rw [List.take_add_one,show l[i]?.toList=[l.getD i pk0] by simp [List.getD_eq_getElem?_getD,h],pRun_snoc]
structure RIn (p:Po) (l:List Pk):Prop where
 b:PB p 50000
 may:pMay p=true
 len:l.length≤40000
 w:∀ x∈p.w,opOk x
 s:∀ x∈p.s,opOkS x
def pzero:AV:=.agg [.v (.int .i64 0),.v (.int .i64 0),.v (.int .i64 0),.v (.int .i64 0),.v (.slice none 0 0),.v (.slice none 0 0),.v (.slice none 0 0),.v (.slice none 0 0)]
def pag (c:Cf) (t:List Tk) (m:List Int) (a b:AV):AV:=.agg [iv c.w,iv c.d,iv c.i,iv c.spin,tks t,ms m,a,b]
theorem set_self_w {l:List Wk} {k:Nat} (h:k < l.length):(l.map wv).set k (wv (l.getD k wk0))=l.map wv:=by
 rw [← List.map_set,set_getD_self h]
theorem set_self_s {l:List Sb} {k:Nat} (h:k < l.length):(l.map sbv).set k (sbv (l.getD k ⟨0,[],fr00⟩))=l.map sbv:=by
 rw [← List.map_set,set_getD_self h]
theorem run_cons (p:Po) (l:List Pk) (h:RIn p l) (hs0:p.s≠[]):PureC Tryz.prog 25 [pov p,pks l] (.tup [pov (pRun p l).1,evs (pRun p l).2]):=by
 refine pure_sub okAQ' 5 Tryz.func25 rfl (by show 2≤_; decide) ?_
 obtain ⟨⟨ht,hm,hw,hs⟩,hmay,hll,ho,hos⟩:=h
 obtain ⟨c,t,m,ws,ss⟩:=p
 dsimp only at ht hm hw hs ho hos hs0
 have hpb:PB ⟨c,t,m,ws,ss⟩ 100000:=⟨ht,hm,fun x hx=>by have:=hw x hx; omega,hs⟩
 have hmay':=hmay
 simp only [pMay,Bool.and_eq_true,decide_eq_true_eq,beq_iff_eq] at hmay'
 obtain ⟨⟨⟨⟨h1,h2⟩,h3⟩,h4⟩,h5⟩:=hmay'
 have hmc:=mayC_iff.1 h1
 have hw8:ws.length≤8:=by omega
 have hw1:ws≠[]:=by
  intro e
  rw [e] at h2
  simp at h2
  omega
 have hw2:(ws≠[]∧ws.length≤1000):=⟨hw1,by omega⟩
 have htl:t.length≤30:=by
  have h4':allW ⟨c,t,m,ws,ss⟩=true:=h4
  unfold allW at h4'
  rw [List.all_eq_true] at h4'
  have h0:=h4' 0 (List.mem_range.2 (List.length_pos_iff.2 hw1))
  simp only [wMay,Bool.and_eq_true] at h0
  exact may_len h0.1.1.1.1.1.2
 have htl2:t.length≤100000:=by omega
 have hs1:(ss≠[]∧ss.length≤1000):=⟨hs0,by omega⟩
 simp only [Tryz.f25,Tryz.func52,Tryz.f52,inl,AQ_all,ctxO_P,ctxO_T,ctxO_C,ctxO_O,ownT,ownTW,ownTS,sx_all,ht,hm,htl2,hs0,hs1,hw2,and_self,pov,tks,wks,sbs,pks,List.length_map,tt_all,row1,shM_dec,dM,dU_map,iv,ms,Option.bind_some,List.length_map,String.reduceBEq,ev1,ev2,implies_true,undef,dynCall,frzDeep,deepArgs,deepArg,cv,stepB,stepE,callD,tabD,snapD,frzD,frzHs,frzH,ownD,snap1,aopR,one,pre,argFrm,evo,lkp,hlk,lenOf,ofVal,ofCells,setCells,AV.wr,AV.ok1,TK.agg,frz,frz1,frzA,frzArg,frzArgs,subA,subB,sub1,accOf,Nat.reduceAdd,Nat.reduceEqDiff,Nat.reduceLT,Nat.reduceLeDiff,reduceCtorEq,eq_self,ne_eq]
 repeat' apply And.intro
 any_goals (show entryOk _ _ _ _ _=true; kernel_rfl)
 refine WP.loop (ι:=Nat) (fun i=>ws.length - i) (fun i=>i≤ws.length) (n:=60)
  (fr:=fun i=>[(24,iv i),(23,iv ws.length),(1,.ptr 7 0 0),(2,.ptr 8 0 0)])
  (hp:=fun i=>[(7,some ⟨false,34,8,[pag c t m (.arr 21 0 ws.length) (.arr 24 0 ss.length)]⟩),(24,some ⟨false,50,9,ss.map sbv⟩),(21,some ⟨false,44,11,ws.map wv⟩),(8,some ⟨false,34,8,[pzero]⟩),(1,some ⟨false,34,8,[pzero]⟩),(0,some ⟨false,34,8,[pov ⟨c,t,m,ws,ss⟩]⟩)])
  (N:=33) ?_ 0 (Nat.zero_le _) rfl (Nat.le_refl _) ⟨rfl,rfl,rfl,rfl,trivial⟩ ⟨rfl,rfl,rfl,rfl,rfl,rfl,trivial⟩
 rintro i nx g1 hN _
 have n0:0 < nx:=by omega
 have n1:1 < nx:=by omega
 have n7:7 < nx:=by omega
 have n8:8 < nx:=by omega
 have n21:21 < nx:=by omega
 have n24:24 < nx:=by omega
 refine WP.of okAQ' 4 (by rfl) ?_
 by_cases hi:i < ws.length
 ·have hz:(i:Int) < ws.length:=by omega
  have hz0:(0:Int)≤(i:Int):=by omega
  have hg:=getD_w hi
  have hst:(ws.map wv).set i (wv (ws.getD i wk0))=ws.map wv:=set_self_w hi
  have hsl:(ws.getD i wk0).stack.length≤100000:=by have:=hw _ (getD_memW (d:=wk0) hi); omega
  have w1:IntKind.wrap .i64 ((i:Int) + 1)=((i + 1:Nat):Int):=by rw [wrap_i (by omega) (by omega)]; omega
  generalize ws.getD i wk0=x at hg hst hsl
  simp only [wv,its,iv,u] at hst
  simp only [hz,hz0,hg,hst,hsl,hi,w1,AQ_all,ctxO_T,ctxO_C,sx_all,pov,pag,pzero,tks,wks,sbs,wv,its,ms,List.length_map,Int.toNat_natCast,Nat.zero_add,Nat.add_assoc,tt_all,row1,iv,u,ms,Option.bind_some,List.length_map,Int.toNat_natCast,ev1,ev2,implies_true,undef,dynCall,↓condE_t,cv,stepB,stepE,callD,tabD,aopR,one,pre,binR,intOpR,evo,lkp,hlk,ofCells,setCells,AV.wr,AV.ok1,TK.agg,sub1,kp,kh,accOf,Nat.reduceAdd,Nat.reduceLT,Nat.reduceLeDiff,reduceCtorEq,eq_self,ne_eq]
  refine ⟨?_,i + 1,by omega,by omega,rfl⟩
  kernel_rfl
 ·have hz:¬ (i:Int) < ws.length:=by omega
  simp only [hz,ctxO_T,pov,pag,pzero,tks,wks,sbs,ms,Nat.zero_add,Nat.add_assoc,tt_all,iv,ms,ev1,ev2,implies_true,undef,↓condE_f,cv,stepB,aopR,one,pre,binR,intOpR,evo,lkp,hlk,lenOf,ofCells,TK.agg,Nat.reduceAdd,Nat.reduceLT,Nat.reduceLeDiff,reduceCtorEq,eq_self,ne_eq]
  refine WP.loop (ι:=Nat) (fun j=>ss.length - j) (fun j=>j≤ss.length) (n:=60)
   (fr:=fun j=>[(43,iv j),(42,iv ss.length),(1,.ptr 7 0 0),(2,.ptr 8 0 0)])
   (hp:=fun j=>[(7,some ⟨false,34,8,[pag c t m (.arr 21 0 ws.length) (.arr 24 0 ss.length)]⟩),(24,some ⟨false,50,9,ss.map sbv⟩),(21,some ⟨false,44,11,ws.map wv⟩),(8,some ⟨false,34,8,[pzero]⟩),(1,some ⟨false,34,8,[pzero]⟩),(0,some ⟨false,34,8,[pov ⟨c,t,m,ws,ss⟩]⟩)])
   (N:=33) ?_ 0 (Nat.zero_le _) rfl (by dsimp only; omega) ⟨rfl,rfl,rfl,rfl,trivial⟩ ⟨rfl,rfl,rfl,rfl,rfl,rfl,trivial⟩
  rintro j nx g2 hN _
  have n0:0 < nx:=by omega
  have n1:1 < nx:=by omega
  have n7:7 < nx:=by omega
  have n8:8 < nx:=by omega
  have n21:21 < nx:=by omega
  have n24:24 < nx:=by omega
  refine WP.of okAQ' 4 (by rfl) ?_
  by_cases hj:j < ss.length
  ·have hz:(j:Int) < ss.length:=by omega
   have hz0:(0:Int)≤(j:Int):=by omega
   have hg:=getD_s hj
   have hst:(ss.map sbv).set j (sbv (ss.getD j ⟨0,[],fr00⟩))=ss.map sbv:=set_self_s hj
   have hsl:(ss.getD j ⟨0,[],fr00⟩).roots.length≤100000:=hs _ (getD_memW (d:=⟨0,[],fr00⟩) hj)
   have w1:IntKind.wrap .i64 ((j:Int) + 1)=((j + 1:Nat):Int):=by rw [wrap_i (by omega) (by omega)]; omega
   generalize ss.getD j ⟨0,[],fr00⟩=x at hg hst hsl
   simp only [sbv,zs,iv,u] at hst
   simp only [hz,hz0,hg,hst,hsl,hj,w1,AQ_all,ctxO_T,ctxO_C,rf1,pov,pag,pzero,tks,wks,sbs,sbv,zs,ms,List.length_map,Int.toNat_natCast,Nat.zero_add,Nat.add_assoc,tt_all,row1,iv,u,ms,Option.bind_some,List.length_map,Int.toNat_natCast,ev1,ev2,implies_true,undef,dynCall,↓condE_t,cv,stepB,stepE,callD,tabD,aopR,one,pre,binR,intOpR,evo,lkp,hlk,ofCells,setCells,AV.wr,AV.ok1,TK.agg,sub1,kp,kh,accOf,Nat.reduceAdd,Nat.reduceLT,Nat.reduceLeDiff,reduceCtorEq,eq_self,ne_eq]
   refine ⟨?_,j + 1,by omega,by omega,rfl⟩
   kernel_rfl
  ·have hz:¬ (j:Int) < ss.length:=by omega
   simp only [hz,hpb,hmay,Bool.not_true,AQ_all,ctxO_T,ctxO_C,sx_all,pov,pag,pzero,tks,wks,sbs,ms,List.length_map,Nat.zero_add,Nat.add_assoc,tt_all,cf_eta,row1,iv,bv,ms,Option.bind_some,List.length_map,ev1,ev2,undef,↓condE_f,resB,cv,stepB,aopR,one,pre,binR,intOpR,unR,evo,lkp,hlk,lenOf,ofVal,ofCells,setCells,AV.wr,AV.ok1,TK.agg,Nat.reduceAdd,Nat.reduceEqDiff,Nat.reduceLT,Nat.reduceLeDiff,reduceCtorEq,eq_self,ne_eq]
   refine WP.virt 7 104 3 rfl (by decide) ?_
   refine WP.loop (ι:=Nat × Nat × Po × List Ev) (fun x=>l.length - x.1) (fun x=>x.1≤l.length∧24 < x.2.1∧x.2.2.2.length≤2 * x.1∧x.2.2=pRun ⟨c,t,m,ws,ss⟩ (l.take x.1)∧PIn ⟨c,t,m,ws,ss⟩ (50000 + x.1) x.2.2.1) (n:=37)
    (fr:=fun x=>[(18,iv x.1),(17,iv l.length),(16,pks l),(7,.arr x.2.1 0 x.2.2.2.length),(6,.ptr 5 0 0),(5,.v (.slice none 0 0)),(4,.ptr 1 0 0),(2,.ptr 0 0 0)])
    (hp:=fun x=>[(x.2.1,some ⟨false,104,3,x.2.2.2.map ev'⟩),(5,some ⟨false,34,8,[pag c t x.2.2.1.m (.arr 21 0 ws.length) (.arr 24 0 ss.length)]⟩),(24,some ⟨false,50,9,x.2.2.1.s.map sbv⟩),(21,some ⟨false,44,11,x.2.2.1.w.map wv⟩),(1,some ⟨false,34,8,[pzero]⟩),(0,some ⟨false,34,8,[pov ⟨c,t,m,ws,ss⟩]⟩)])
    (N:=nx + 11) ?_ (0,nx + 10,⟨c,t,m,ws,ss⟩,[]) ⟨Nat.zero_le _,by dsimp only; omega,Nat.zero_le _,rfl,⟨rfl,rfl,rfl,rfl,rfl,fun x hx=>⟨by have:=hw x hx; dsimp only; omega,ho x hx⟩,fun x hx=>⟨hs x hx,hos x hx⟩⟩⟩ rfl (Nat.le_refl _) ⟨rfl,rfl,rfl,rfl,rfl,rfl,rfl,rfl,trivial⟩ (by simp only [pov,pag,pzero,tks,wks,sbs,List.map_nil,iv,ms,n0,n1,n21,n24,show 5 < nx by omega,nb_self,nb_lt,iv,ms,ev2,hlk,kh,eq_self])
   rintro ⟨i,z,⟨qc,qt,qm,qw,qs⟩,es⟩ nx2 ⟨g3,gz,gl,ge,gq⟩ hN2 hid
   dsimp only at g3 gz gl ge gq
   have hzn:z < nx2:=hid z ⟨false,104,3,es.map ev'⟩ (by simp only [nb_self,hlk,eq_self])
   obtain ⟨qc',qt',qml,qwl,qsl,qws,qss⟩:=gq
   dsimp only at qc' qt' qml qwl qsl qws qss
   have e1:=qc'.symm
   have e2:=qt'.symm
   subst e1 e2
   clear qc' qt'
   have hqm:qm.length≤1000:=by omega
   have m0:0 < z:=by omega
   have m1:1 < z:=by omega
   have m5:5 < z:=by omega
   have m21:21 < z:=by omega
   have m24:24 < z:=by omega
   have n0:0 < nx2:=by omega
   have n1:1 < nx2:=by omega
   have n5:5 < nx2:=by omega
   have n21:21 < nx2:=by omega
   have n24:24 < nx2:=by omega
   refine WP.of okAQ' 4 (by rfl) ?_
   by_cases hi:i < l.length
   ·have hz:(i:Int) < l.length:=by omega
    have hz0:(0:Int)≤(i:Int):=by omega
    have hg:=getD_pk hi
    have w1:IntKind.wrap .i64 ((i:Int) + 1)=((i + 1:Nat):Int):=by rw [wrap_i (by omega) (by omega)]; omega
    have hrun:=prun_at ⟨c,t,m,ws,ss⟩ hi
    rw [← ge] at hrun
    have hel:=pgo_ev ⟨c,t,qm,qw,qs⟩ (l.getD i pk0)
    have hcp:(es.length + (pGo ⟨c,t,qm,qw,qs⟩ (l.getD i pk0)).2.length) * 24≤140737488355328:=by omega
    have hnl:(es ++ (pGo ⟨c,t,qm,qw,qs⟩ (l.getD i pk0)).2).length≤2 * (i + 1):=by rw [List.length_append]; omega
    have hgo:PIn ⟨c,t,m,ws,ss⟩ (50000 + (i + 1)) (pGo ⟨c,t,qm,qw,qs⟩ (l.getD i pk0)).1:=PIn.go (p:=⟨c,t,m,ws,ss⟩) (q:=⟨c,t,qm,qw,qs⟩) (n:=50000 + i) ⟨rfl,rfl,qml,qwl,qsl,qws,qss⟩ h2 _
    generalize l.getD i pk0=k at hg hrun hgo hcp hnl
    clear hel
    obtain ⟨kd,who,dr⟩:=k
    cases hf:dFits ⟨kd,who,dr⟩ c.w ss.length with
    | false=>
     have hp0:pGo ⟨c,t,qm,qw,qs⟩ ⟨kd,who,dr⟩=(⟨c,t,qm,qw,qs⟩,[]):=by
      unfold pGo
      dsimp only
      rw [qsl,hf]; rfl
     rw [hp0] at hrun hgo hcp hnl
     simp only [hz,hz0,hg,hf,w1,m0,m1,m5,m21,m24,n0,n1,n5,n21,n24,AQ_all,ctxO_T,ctxO_C,sx_all,pov,pag,pzero,pkv,tks,wks,sbs,pks,ms,List.length_map,Int.toNat_natCast,Nat.zero_add,nb_self,nb_lt,nb_lt0,Nat.add_assoc,tt_all,row3,shI_dec,dI,iv,bv,u,ms,Option.bind_some,List.length_map,Int.toNat_natCast,ev1,ev2,implies_true,undef,↓condE_t,↓condE_f,cv,stepB,aopR,one,pre,binR,intOpR,evo,lkp,hlk,lenOf,ofVal,ofCells,setCells,AV.wr,AV.ok1,TK.agg,sub1,kp,kh,Nat.reduceAdd,Nat.reduceEqDiff,Nat.reduceLT,Nat.reduceLeDiff,reduceCtorEq,eq_self,ne_eq]
     refine ⟨(i + 1,z,_,_),by dsimp only; omega,⟨by dsimp only; omega,by dsimp only; omega,hnl,hrun.symm,hgo⟩,?_⟩
     simp only [hzn,List.append_nil,nb_self,nb_lt,ev2,eq_self]
    | true=>
     by_cases k0:kd=0
     ·subst k0
      obtain ⟨f1,f2⟩:=fits_w hf rfl
      dsimp only at f1 f2
      have hlt:who.toNat < qw.length:=by omega
      have hw1:who < (ws.length:Int):=by omega
      have hgw:=getD_w hlt
      have hx:=qws _ (getD_memW (d:=wk0) hlt)
      have hxs:(qw.getD who.toNat wk0).stack.length≤100000:=by omega
      have hxo:=hx.2
      have hp0:pGo ⟨c,t,qm,qw,qs⟩ ⟨0,who,dr⟩=(⟨c,t,(wStep c t qm who (qw.getD who.toNat wk0) dr).1,qw.set who.toNat (wStep c t qm who (qw.getD who.toNat wk0) dr).2.1,qs⟩,(wStep c t qm who (qw.getD who.toNat wk0) dr).2.2):=by
       unfold pGo
       dsimp only
       rw [qsl,hf]; rfl
      rw [hp0] at hrun hgo hcp hnl
      clear hp0 hx
      generalize qw.getD who.toNat wk0=x at *
      generalize hr:wStep c t qm who x dr=r at *
      obtain ⟨rm,ry,re⟩:=r
      have hst:(qw.map wv).set who.toNat (wv ry)=(qw.set who.toNat ry).map wv:=List.map_set.symm
      simp only [wv,its,iv,u] at hst
      simp only [Tryz.func54,Tryz.f54,Tryz.func84,Tryz.f84,hr,hst,hgw,hw1,hlt,hqm,row6, hxs,hxo,f1,ht,wsv,wv,its,evs,and_self,hz,hz0,hg,hf,w1,tk_map,m0,m1,m5,m21,m24,n0,n1,n5,hzn,n21,n24,inl,AQ_all,ctxO_P,ctxO_T,ctxO_C,rf1,sx_all,pov,pag,pzero,pkv,tks,wks,sbs,pks,ms,List.length_map,Int.toNat_natCast,Nat.zero_add,nb_self,nb_same,nb_lt,nb_gt,nb_lt0,nb_gt0,Nat.add_assoc,tt_all,mo_make,mo_ins,updM,mo_look,lookM,hitM,find_nil,find_cons,findS,List.cons_append,List.nil_append,cf_eta,shC_dec,dC,row3,shI_dec,shN_dec,shM_dec,dI,dN,dM,dU_map,iv,bv,u,ms,Option.bind_some,List.length_map,String.reduceBEq,Int.toNat_natCast,ev1,ev2,implies_true,undef,dynCall,↓condE_t,frzDeep,deepArgs,deepArg,resB,cv,stepB,stepE,callD,tabD,aopR,one,pre,binR,intOpR,argFrm,evo,lkp,hlk,lenOf,asLst,idOf,srcOk,ofVal,ofCells,setCells,AV.wr,AV.ok1,TK.agg,frzArg,frzArgs,sub1,kp,kh,accOf,Nat.reduceAdd,Nat.reduceEqDiff,Nat.reduceLT,Nat.reduceLeDiff,reduceCtorEq,eq_self,ne_eq,Int.reduceBEq]
      repeat' apply And.intro
      all_goals try (show entryOk _ _ _ _ _=true; (repeat (first | exact entryOk_nil _ _ _ _ | (refine entryOk_step ?h ?_; case h=>(first | (apply Or.inr; constructor <;> simp [meets] <;> omega; done) | (apply Or.inl; show anc _ _ _ _=true; kernel_rfl))))))
      all_goals try (show _≤_; (try dsimp only at hcp); (try simp only [List.length_nil,Nat.add_zero] at hcp); omega)
      refine ⟨(i + 1,nx2 + 16,_,_),by dsimp only; omega,⟨by dsimp only; omega,by dsimp only; omega,hnl,hrun.symm,hgo⟩,?_⟩
      simp only [List.map_append,List.length_append,nb_self,ev2,eq_self]
     ·have k0':(kd == 0)=false:=by simpa using k0
      by_cases k1:kd=1
      ·subst k1
       obtain ⟨f1,f2⟩:=fits_s hf rfl
       dsimp only at f1 f2
       have hlt:who.toNat < qs.length:=by omega
       have hgs:=getD_s hlt
       have hx:=qss _ (getD_memW (d:=sb0) hlt)
       have hxs:=hx.1
       have hxo:=hx.2
       have hp0:pGo ⟨c,t,qm,qw,qs⟩ ⟨1,who,dr⟩=(if sMay c t qm (qs.getD who.toNat sb0)=true then (⟨c,t,(sbStep c qm who (qs.getD who.toNat sb0)).1,qw,qs.set who.toNat (sbStep c qm who (qs.getD who.toNat sb0)).2.1⟩,(sbStep c qm who (qs.getD who.toNat sb0)).2.2) else (⟨c,t,qm,qw,qs⟩,[])):=by
        unfold pGo
        dsimp only
        rw [qsl,hf]; rfl
       rw [hp0] at hrun hgo hcp hnl
       clear hp0 hx
       unfold sb0 at *
       generalize qs.getD who.toNat ⟨0,[],fr00⟩=x at *
       cases hmy:sMay c t qm x with
       | false=>
        rw [hmy,if_neg Bool.false_ne_true] at hrun hgo hcp hnl
        simp only [Tryz.func54,Tryz.f54,Tryz.func86,Tryz.f86,evs,and_self,hz,hz0,hg,hf,w1,tk_map,m0,m1,m5,m21,m24,n0,n1,n5,hzn,n21,n24,inl,AQ_all,ctxO_P,ctxO_T,ctxO_C,rf1,sx_all,pov,pag,pzero,pkv,tks,wks,sbs,pks,ms,List.length_map,Int.toNat_natCast,Nat.zero_add,nb_self,nb_same,nb_lt,nb_lt0,Nat.add_assoc,tt_all,mo_make,mo_ins,updM,mo_look,lookM,hitM,find_nil,find_cons,findS,List.cons_append,List.nil_append,cf_eta,shC_dec,dC,row3,row4,shI_dec,shM_dec,dI,dM,dU_map,iv,bv,u,ms,Option.bind_some,List.length_map,String.reduceBEq,Int.toNat_natCast,ev1,ev2,implies_true,undef,dynCall,↓condE_t,↓condE_f,frzDeep,deepArgs,deepArg,resB,cv,stepB,stepE,callD,tabD,aopR,one,pre,binR,intOpR,argFrm,evo,lkp,hlk,lenOf,asLst,idOf,srcOk,ofVal,ofCells,setCells,AV.wr,AV.ok1,TK.agg,frzArg,frzArgs,sub1,kp,kh,accOf,Nat.reduceAdd,Nat.reduceEqDiff,Nat.reduceLT,Nat.reduceLeDiff,reduceCtorEq,eq_self,ne_eq,Int.reduceBEq,k0',hmy,hgs,f1,f2,hlt,hqm,ht,sbv,zs]
        repeat' apply And.intro
        all_goals try (show entryOk _ _ _ _ _=true; (repeat (first | exact entryOk_nil _ _ _ _ | (refine entryOk_step ?h ?_; case h=>(first | (apply Or.inr; constructor <;> simp [meets] <;> omega; done) | (apply Or.inl; show anc _ _ _ _=true; kernel_rfl))))))
        all_goals try (show _≤_; (try dsimp only at hcp); (try simp only [List.length_nil,Nat.add_zero] at hcp); omega)
        refine ⟨(i + 1,nx2 + 16,_,_),by dsimp only; omega,⟨by dsimp only; omega,by dsimp only; omega,hnl,hrun.symm,hgo⟩,?_⟩
        simp only [List.append_nil,nb_self,ev2,eq_self]
       | true=>
        rw [hmy,if_pos rfl] at hrun hgo hcp hnl
        generalize hr:sbStep c qm who x=r at *
        obtain ⟨rm,ry,re⟩:=r
        have hst:(qs.map sbv).set who.toNat (sbv ry)=(qs.set who.toNat ry).map sbv:=List.map_set.symm
        simp only [sbv,zs,iv,u] at hst
        simp only [Tryz.func54,Tryz.f54,Tryz.func86,Tryz.f86,evs,and_self,hz,hz0,hg,hf,w1,tk_map,m0,m1,m5,m21,m24,n0,n1,n5,hzn,n21,n24,inl,AQ_all,ctxO_P,ctxO_T,ctxO_C,rf1,sx_all,pov,pag,pzero,pkv,tks,wks,sbs,pks,ms,List.length_map,Int.toNat_natCast,Nat.zero_add,nb_self,nb_same,nb_lt,nb_gt,nb_lt0,nb_gt0,Nat.add_assoc,tt_all,mo_make,mo_ins,updM,mo_look,lookM,hitM,find_nil,find_cons,findS,List.cons_append,List.nil_append,cf_eta,shC_dec,dC,row3,row4,row5,shI_dec,shM_dec,dI,dM,dU_map,iv,bv,u,ms,Option.bind_some,List.length_map,String.reduceBEq,Int.toNat_natCast,ev1,ev2,implies_true,undef,dynCall,↓condE_t,frzDeep,deepArgs,deepArg,resB,cv,stepB,stepE,callD,tabD,aopR,one,pre,binR,intOpR,argFrm,evo,lkp,hlk,lenOf,asLst,idOf,srcOk,ofVal,ofCells,setCells,AV.wr,AV.ok1,TK.agg,frzArg,frzArgs,sub1,kp,kh,accOf,Nat.reduceAdd,Nat.reduceEqDiff,Nat.reduceLT,Nat.reduceLeDiff,reduceCtorEq,eq_self,ne_eq,Int.reduceBEq,k0',hmy,hgs,f1,f2,hlt,hqm,hxs,hxo,ht,hr,hst,ssv,sbv,zs]
        repeat' apply And.intro
        all_goals try (show entryOk _ _ _ _ _=true; (repeat (first | exact entryOk_nil _ _ _ _ | (refine entryOk_step ?h ?_; case h=>(first | (apply Or.inr; constructor <;> simp [meets] <;> omega; done) | (apply Or.inl; show anc _ _ _ _=true; kernel_rfl))))))
        all_goals try (show _≤_; (try dsimp only at hcp); (try simp only [List.length_nil,Nat.add_zero] at hcp); omega)
        refine ⟨(i + 1,nx2 + 16,_,_),by dsimp only; omega,⟨by dsimp only; omega,by dsimp only; omega,hnl,hrun.symm,hgo⟩,?_⟩
        simp only [List.map_append,List.length_append,nb_self,ev2,eq_self]
      ·have k1':(kd == 1)=false:=by simpa using k1
       by_cases k2:kd=2
       ·subst k2
        have hp0:pGo ⟨c,t,qm,qw,qs⟩ ⟨2,who,dr⟩=(⟨c,t,mStore qm 3 1,qw,qs⟩,[]):=by
         unfold pGo
         dsimp only
         rw [qsl,hf]; rfl
        rw [hp0] at hrun hgo hcp hnl
        simp only [Tryz.func54,Tryz.f54,Tryz.func89,Tryz.f89, evs,and_self,hz,hz0,hg,hf,w1,tk_map,m0,m1,m5,m21,m24,n0,n1,n5,hzn,n21,n24,inl,AQ_all,ctxO_P,ctxO_T,ctxO_C,sx_all,pov,pag,pzero,pkv,tks,wks,sbs,pks,ms,List.length_map,Int.toNat_natCast,Nat.zero_add,nb_self,nb_same,nb_lt,nb_gt,nb_lt0,nb_gt0,Nat.add_assoc,tt_all,mo_make,mo_ins,updM,mo_look,lookM,hitM,find_nil,find_cons,findS,List.cons_append,List.nil_append,row3,shI_dec,shN_dec,shM_dec,dI,dN,dM,dU_map,iv,bv,u,ms,Option.bind_some,List.length_map,String.reduceBEq,Int.toNat_natCast,ev1,ev2,implies_true,undef,dynCall,↓condE_t,frzDeep,deepArgs,deepArg,resB,cv,stepB,stepE,callD,tabD,aopR,one,pre,binR,intOpR,argFrm,evo,lkp,hlk,lenOf,asLst,idOf,srcOk,ofVal,ofCells,setCells,AV.wr,AV.ok1,TK.agg,frzArg,frzArgs,sub1,kp,kh,accOf,Nat.reduceAdd,Nat.reduceEqDiff,Nat.reduceLT,Nat.reduceLeDiff,reduceCtorEq,eq_self,ne_eq,Int.reduceBEq,k0',k1',hqm]
        repeat' apply And.intro
        all_goals try (show entryOk _ _ _ _ _=true; (repeat (first | exact entryOk_nil _ _ _ _ | (refine entryOk_step ?h ?_; case h=>(first | (apply Or.inr; constructor <;> simp [meets] <;> omega; done) | (apply Or.inl; show anc _ _ _ _=true; kernel_rfl))))))
        all_goals try (show _≤_; (try dsimp only at hcp); (try simp only [List.length_nil,Nat.add_zero] at hcp); omega)
        refine ⟨(i + 1,nx2 + 16,_,_),by dsimp only; omega,⟨by dsimp only; omega,by dsimp only; omega,hnl,hrun.symm,hgo⟩,?_⟩
        simp only [List.append_nil,nb_self,ev2,eq_self]
       ·have k2':(kd == 2)=false:=by simpa using k2
        have hp0:pGo ⟨c,t,qm,qw,qs⟩ ⟨kd,who,dr⟩=(⟨c,t,qm,qw,qs⟩,[]):=by
         unfold pGo
         dsimp only
         rw [qsl,hf,if_pos rfl]
         unfold pStep'
         rw [if_neg k0,if_neg k1,if_neg k2]
        rw [hp0] at hrun hgo hcp hnl
        simp only [Tryz.func54,Tryz.f54,evs,and_self,hz,hz0,hg,hf,w1,tk_map,m0,m1,m5,m21,m24,n0,n1,n5,hzn,n21,n24,inl,AQ_all,ctxO_P,ctxO_T,ctxO_C,sx_all,pov,pag,pzero,pkv,tks,wks,sbs,pks,ms,List.length_map,Int.toNat_natCast,Nat.zero_add,nb_self,nb_same,nb_lt,nb_lt0,Nat.add_assoc,tt_all,mo_make,mo_ins,updM,mo_look,lookM,hitM,find_nil,find_cons,findS,List.cons_append,List.nil_append,row3,shI_dec,dI,iv,bv,u,ms,Option.bind_some,List.length_map,String.reduceBEq,Int.toNat_natCast,ev1,ev2,implies_true,undef,↓condE_t,↓condE_f,frzDeep,deepArgs,deepArg,resB,cv,stepB,aopR,one,pre,binR,intOpR,argFrm,evo,lkp,hlk,lenOf,asLst,idOf,srcOk,ofVal,ofCells,setCells,AV.wr,AV.ok1,TK.agg,frzArg,frzArgs,sub1,kp,kh,Nat.reduceAdd,Nat.reduceEqDiff,Nat.reduceLT,Nat.reduceLeDiff,reduceCtorEq,eq_self,ne_eq,Int.reduceBEq,k0',k1',k2']
        repeat' apply And.intro
        all_goals try (show entryOk _ _ _ _ _=true; (repeat (first | exact entryOk_nil _ _ _ _ | (refine entryOk_step ?h ?_; case h=>(first | (apply Or.inr; constructor <;> simp [meets] <;> omega; done) | (apply Or.inl; show anc _ _ _ _=true; kernel_rfl))))))
        all_goals try (show _≤_; (try dsimp only at hcp); (try simp only [List.length_nil,Nat.add_zero] at hcp); omega)
        refine ⟨(i + 1,nx2 + 16,_,_),by dsimp only; omega,⟨by dsimp only; omega,by dsimp only; omega,hnl,hrun.symm,hgo⟩,?_⟩
        simp only [List.append_nil,nb_self,ev2,eq_self]
   ·have hz:¬ (i:Int) < l.length:=by omega
    have hlt:l.take i=l:=List.take_of_length_le (by omega)
    rw [hlt] at ge
    rw [← ge]
    simp only [hz,tk_map,m1,m5,m21,m24,ctxO_T,pov,pag,pzero,tks,wks,sbs,evs,ms,List.length_map,Nat.zero_add,nb_self,nb_lt0,nb_gt0,Nat.add_assoc,tt_all,hfree_lu,iv,ms,List.length_map,ev1,ev2,undef,↓condE_f,resB,cv,stepB,aopR,one,pre,binR,intOpR,evo,lkp,hlk,ofCells,setCells,AV.wr,AV.ok1,TK.agg,frz1,frzt,frzs,frzA,subB,subM,subL,sub1,Nat.reduceAdd,Nat.reduceEqDiff,Nat.reduceLT,Nat.reduceLeDiff,reduceCtorEq,eq_self,ne_eq]
    refine ⟨hf_tks t,by omega,fun x hx=>?_,by omega,fun x hx=>?_,Nat.le_refl _,fun x hx=>?_,?_,?_⟩
    ·obtain ⟨y,_,rfl⟩:=List.mem_map.1 (List.mem_of_mem_take hx)
     exact elW.cfree y
    ·obtain ⟨y,_,rfl⟩:=List.mem_map.1 (List.mem_of_mem_take hx)
     exact elS.cfree y
    ·obtain ⟨y,_,rfl⟩:=List.mem_map.1 hx
     exact elE.cfree y
    ·rw [List.take_of_length_le (by rw [List.length_map]; omega)]
    ·rw [List.take_of_length_le (by rw [List.length_map]; omega)]
end Go.Vai

/- Several steps of a pool without submitters. -/
namespace Go.Vai
open Go.RowKit Go.Proofs
set_option maxHeartbeats 4000000
set_option maxRecDepth 100000
theorem shPo_dec0 (w d i sp:Int) (t:List Tk) (m:List Int) (ws:List Wk):shPo.dec (.agg [.v (.int .i64 w),.v (.int .i64 d),.v (.int .i64 i),.v (.int .i64 sp),.lst 2 (t.map tv),.lst 1 (m.map u),.lst 11 (ws.map wv),.lst 9 []])=some ⟨⟨w,d,i,sp⟩,t,m,ws,[]⟩:=shPo_dec w d i sp t m ws []
theorem run_nil (p:Po) (l:List Pk) (h:RIn p l) (hs0:p.s=[]):PureC Tryz.prog 25 [pov p,pks l] (.tup [pov (pRun p l).1,evs (pRun p l).2]):=by
 refine pure_sub okAQ' 5 Tryz.func25 rfl (by show 2≤_; decide) ?_
 obtain ⟨⟨ht,hm,hw,hs⟩,hmay,hll,ho,hos⟩:=h
 obtain ⟨c,t,m,ws,ss⟩:=p
 dsimp only at ht hm hw hs ho hos hs0
 have hpb:PB ⟨c,t,m,ws,ss⟩ 100000:=⟨ht,hm,fun x hx=>by have:=hw x hx; omega,hs⟩
 have hmay':=hmay
 simp only [pMay,Bool.and_eq_true,decide_eq_true_eq,beq_iff_eq] at hmay'
 obtain ⟨⟨⟨⟨h1,h2⟩,h3⟩,h4⟩,h5⟩:=hmay'
 have hmc:=mayC_iff.1 h1
 have hw8:ws.length≤8:=by omega
 have hw1:ws≠[]:=by
  intro e
  rw [e] at h2
  simp at h2
  omega
 have hw2:(ws≠[]∧ws.length≤1000):=⟨hw1,by omega⟩
 have htl:t.length≤30:=by
  have h4':allW ⟨c,t,m,ws,ss⟩=true:=h4
  unfold allW at h4'
  rw [List.all_eq_true] at h4'
  have h0:=h4' 0 (List.mem_range.2 (List.length_pos_iff.2 hw1))
  simp only [wMay,Bool.and_eq_true] at h0
  exact may_len h0.1.1.1.1.1.2
 have htl2:t.length≤100000:=by omega
 subst hs0
 simp only [Tryz.f25,Tryz.func52,Tryz.f52,inl,AQ_all,ctxO_P,ctxO_T,ctxO_C,ctxO_O,ownT,ownTW,ownTS,sx_all,List.length_nil,ht,hm,htl2,hw2,ne_eq,List.map_nil,if_true,and_self,pov,tks,wks,sbs,pks,List.length_map,tt_all,row1,shM_dec,dM,dU_map,iv,ms,Option.bind_some,List.length_map,String.reduceBEq,ev1,ev2,implies_true,undef,dynCall,frzDeep,deepArgs,deepArg,cv,stepB,stepE,callD,tabD,snapD,frzD,frzHs,frzH,ownD,snap1,snapId,snapIds,aopR,one,pre,argFrm,evo,lkp,hlk,lenOf,ofVal,ofCells,setCells,AV.wr,AV.ok1,TK.agg,frz,frz1,frzA,frzArg,frzArgs,subA,subB,sub1,accOf,Nat.reduceAdd,Nat.reduceEqDiff,Nat.reduceLT,Nat.reduceLeDiff,reduceCtorEq,eq_self,ne_eq]
 repeat' apply And.intro
 any_goals (show entryOk _ _ _ _ _=true; kernel_rfl)
 any_goals (show (_ && _)=true; rfl)
 refine WP.loop (ι:=Nat) (fun i=>ws.length - i) (fun i=>i≤ws.length) (n:=60)
  (fr:=fun i=>[(24,iv i),(23,iv ws.length),(1,.ptr 7 0 0),(2,.ptr 8 0 0)])
  (hp:=fun i=>[(7,some ⟨false,34,8,[pag c t m (.arr 21 0 ws.length) (sbs [])]⟩),(21,some ⟨false,44,11,ws.map wv⟩),(8,some ⟨false,34,8,[pzero]⟩),(1,some ⟨false,34,8,[pzero]⟩),(0,some ⟨false,34,8,[pov ⟨c,t,m,ws,[]⟩]⟩)])
  (N:=33) ?_ 0 (Nat.zero_le _) rfl (Nat.le_refl _) ⟨rfl,rfl,rfl,rfl,trivial⟩ ⟨rfl,rfl,rfl,rfl,rfl,trivial⟩
 rintro i nx g1 hN _
 have n0:0 < nx:=by omega
 have n1:1 < nx:=by omega
 have n7:7 < nx:=by omega
 have n8:8 < nx:=by omega
 have n21:21 < nx:=by omega
 have n24:24 < nx:=by omega
 refine WP.of okAQ' 4 (by rfl) ?_
 by_cases hi:i < ws.length
 ·have hz:(i:Int) < ws.length:=by omega
  have hz0:(0:Int)≤(i:Int):=by omega
  have hg:=getD_w hi
  have hst:(ws.map wv).set i (wv (ws.getD i wk0))=ws.map wv:=set_self_w hi
  have hsl:(ws.getD i wk0).stack.length≤100000:=by have:=hw _ (getD_memW (d:=wk0) hi); omega
  have w1:IntKind.wrap .i64 ((i:Int) + 1)=((i + 1:Nat):Int):=by rw [wrap_i (by omega) (by omega)]; omega
  generalize ws.getD i wk0=x at hg hst hsl
  simp only [wv,its,iv,u] at hst
  simp only [hz,hz0,hg,hst,hsl,hi,w1,AQ_all,ctxO_T,ctxO_C,sx_all,List.length_nil,pov,pag,pzero,tks,wks,sbs,wv,its,ms,List.length_map,Int.toNat_natCast,Nat.zero_add,Nat.add_assoc,tt_all,row1,iv,u,ms,Option.bind_some,List.length_map,Int.toNat_natCast,ev1,ev2,implies_true,undef,dynCall,↓condE_t,cv,stepB,stepE,callD,tabD,aopR,one,pre,binR,intOpR,evo,lkp,hlk,ofCells,setCells,AV.wr,AV.ok1,TK.agg,sub1,kp,kh,accOf,Nat.reduceAdd,Nat.reduceLT,Nat.reduceLeDiff,reduceCtorEq,eq_self,ne_eq]
  refine ⟨?_,i + 1,by omega,by omega,rfl⟩
  kernel_rfl
 ·have hz:¬ (i:Int) < ws.length:=by omega
  simp only [hz,ctxO_T,List.length_nil,pov,pag,pzero,tks,wks,sbs,ms,Nat.zero_add,Nat.add_assoc,tt_all,iv,ms,Int.cast_ofNat_Int,ev1,ev2,implies_true,undef,↓condE_f,cv,stepB,aopR,one,pre,binR,intOpR,evo,lkp,hlk,lenOf,ofCells,TK.agg,Nat.reduceAdd,Nat.reduceLT,Nat.reduceLeDiff,reduceCtorEq,eq_self,ne_eq]
  refine WP.loop (ι:=Unit) (fun _=>0) (fun _=>True) (n:=60)
   (fr:=fun _=>[(43,iv 0),(42,iv 0),(1,.ptr 7 0 0),(2,.ptr 8 0 0)])
   (hp:=fun _=>[(7,some ⟨false,34,8,[pag c t m (.arr 21 0 ws.length) (sbs [])]⟩),(21,some ⟨false,44,11,ws.map wv⟩),(8,some ⟨false,34,8,[pzero]⟩),(1,some ⟨false,34,8,[pzero]⟩),(0,some ⟨false,34,8,[pov ⟨c,t,m,ws,[]⟩]⟩)])
   (N:=33) ?_ () trivial rfl (by dsimp only; omega) ⟨rfl,rfl,rfl,rfl,trivial⟩ ⟨rfl,rfl,rfl,rfl,rfl,trivial⟩
  rintro _ nx _ hN _
  have n0:0 < nx:=by omega
  have n1:1 < nx:=by omega
  have n7:7 < nx:=by omega
  have n8:8 < nx:=by omega
  have n21:21 < nx:=by omega
  have n24:24 < nx:=by omega
  refine WP.of okAQ' 4 (by rfl) ?_
  have hz:¬ (0:Int) < 0:=by omega
  simp only [hz,hpb,hmay,Bool.not_true,AQ_all,ctxO_T,ctxO_C,shPo_dec0,List.length_nil,pov,pag,pzero,tks,wks,sbs,ms,List.length_map,Nat.zero_add,Nat.add_assoc,tt_all,cf_eta,row1,iv,bv,ms,Option.bind_some,List.length_map,ev1,ev2,undef,↓condE_f,resB,cv,stepB,aopR,one,pre,binR,intOpR,unR,evo,lkp,hlk,lenOf,ofVal,ofCells,setCells,AV.wr,AV.ok1,TK.agg,Nat.reduceAdd,Nat.reduceEqDiff,Nat.reduceLT,Nat.reduceLeDiff,reduceCtorEq,eq_self,ne_eq]
  refine WP.virt 7 104 3 rfl (by decide) ?_
  refine WP.loop (ι:=Nat × Nat × Po × List Ev) (fun x=>l.length - x.1) (fun x=>x.1≤l.length∧24 < x.2.1∧x.2.2.2.length≤2 * x.1∧x.2.2=pRun ⟨c,t,m,ws,[]⟩ (l.take x.1)∧PIn ⟨c,t,m,ws,[]⟩ (50000 + x.1) x.2.2.1) (n:=37)
   (fr:=fun x=>[(18,iv x.1),(17,iv l.length),(16,pks l),(7,.arr x.2.1 0 x.2.2.2.length),(6,.ptr 5 0 0),(5,.v (.slice none 0 0)),(4,.ptr 1 0 0),(2,.ptr 0 0 0)])
   (hp:=fun x=>[(x.2.1,some ⟨false,104,3,x.2.2.2.map ev'⟩),(5,some ⟨false,34,8,[pag c t x.2.2.1.m (.arr 21 0 ws.length) (sbs [])]⟩),(21,some ⟨false,44,11,x.2.2.1.w.map wv⟩),(1,some ⟨false,34,8,[pzero]⟩),(0,some ⟨false,34,8,[pov ⟨c,t,m,ws,[]⟩]⟩)])
   (N:=nx + 11) ?_ (0,nx + 10,⟨c,t,m,ws,[]⟩,[]) ⟨Nat.zero_le _,by dsimp only; omega,Nat.zero_le _,rfl,⟨rfl,rfl,rfl,rfl,rfl,fun x hx=>⟨by have:=hw x hx; dsimp only; omega,ho x hx⟩,fun x hx=>(by cases hx)⟩⟩ rfl (Nat.le_refl _) ⟨rfl,rfl,rfl,rfl,rfl,rfl,rfl,rfl,trivial⟩ (by simp only [pov,pag,pzero,tks,wks,sbs,List.map_nil,iv,ms,n0,n1,n21,show 5 < nx by omega,nb_self,nb_lt,iv,ms,ev2,hlk,kh,eq_self])
  rintro ⟨i,z,⟨qc,qt,qm,qw,qs⟩,es⟩ nx2 ⟨g3,gz,gl,ge,gq⟩ hN2 hid
  dsimp only at g3 gz gl ge gq
  have hzn:z < nx2:=hid z ⟨false,104,3,es.map ev'⟩ (by simp only [nb_self,hlk,eq_self])
  obtain ⟨qc',qt',qml,qwl,qsl,qws,qss⟩:=gq
  dsimp only at qc' qt' qml qwl qsl qws qss
  have e1:=qc'.symm
  have e2:=qt'.symm
  subst e1 e2
  clear qc' qt'
  have hqm:qm.length≤1000:=by omega
  have hq0:((qs.length:Nat):Int)=0:=by rw [qsl]; rfl
  have m0:0 < z:=by omega
  have m1:1 < z:=by omega
  have m5:5 < z:=by omega
  have m21:21 < z:=by omega
  have m24:24 < z:=by omega
  have n0:0 < nx2:=by omega
  have n1:1 < nx2:=by omega
  have n5:5 < nx2:=by omega
  have n21:21 < nx2:=by omega
  have n24:24 < nx2:=by omega
  refine WP.of okAQ' 4 (by rfl) ?_
  by_cases hi:i < l.length
  ·have hz:(i:Int) < l.length:=by omega
   have hz0:(0:Int)≤(i:Int):=by omega
   have hg:=getD_pk hi
   have w1:IntKind.wrap .i64 ((i:Int) + 1)=((i + 1:Nat):Int):=by rw [wrap_i (by omega) (by omega)]; omega
   have hrun:=prun_at ⟨c,t,m,ws,[]⟩ hi
   rw [← ge] at hrun
   have hel:=pgo_ev ⟨c,t,qm,qw,qs⟩ (l.getD i pk0)
   have hcp:(es.length + (pGo ⟨c,t,qm,qw,qs⟩ (l.getD i pk0)).2.length) * 24≤140737488355328:=by omega
   have hnl:(es ++ (pGo ⟨c,t,qm,qw,qs⟩ (l.getD i pk0)).2).length≤2 * (i + 1):=by rw [List.length_append]; omega
   have hgo:PIn ⟨c,t,m,ws,[]⟩ (50000 + (i + 1)) (pGo ⟨c,t,qm,qw,qs⟩ (l.getD i pk0)).1:=PIn.go (p:=⟨c,t,m,ws,[]⟩) (q:=⟨c,t,qm,qw,qs⟩) (n:=50000 + i) ⟨rfl,rfl,qml,qwl,qsl,qws,qss⟩ h2 _
   generalize l.getD i pk0=k at hg hrun hgo hcp hnl
   clear hel
   obtain ⟨kd,who,dr⟩:=k
   cases hf:dFits ⟨kd,who,dr⟩ c.w (0:Int) with
   | false=>
    have hp0:pGo ⟨c,t,qm,qw,qs⟩ ⟨kd,who,dr⟩=(⟨c,t,qm,qw,qs⟩,[]):=by
     unfold pGo
     dsimp only
     rw [hq0,hf]; rfl
    rw [hp0] at hrun hgo hcp hnl
    simp only [hz,hz0,hg,hf,w1,m0,m1,m5,m21,n0,n1,n5,n21,AQ_all,ctxO_T,ctxO_C,sx_all,List.length_nil,pov,pag,pzero,pkv,tks,wks,sbs,pks,ms,List.length_map,Int.toNat_natCast,Nat.zero_add,nb_self,nb_lt,nb_lt0,Nat.add_assoc,tt_all,row3,shI_dec,dI,iv,bv,u,ms,Option.bind_some,List.length_map,Int.toNat_natCast,Int.cast_ofNat_Int,ev1,ev2,implies_true,undef,↓condE_t,↓condE_f,cv,stepB,aopR,one,pre,binR,intOpR,evo,lkp,hlk,lenOf,ofVal,ofCells,setCells,AV.wr,AV.ok1,TK.agg,sub1,kp,kh,Nat.reduceAdd,Nat.reduceEqDiff,Nat.reduceLT,Nat.reduceLeDiff,reduceCtorEq,eq_self,ne_eq]
    refine ⟨(i + 1,z,_,_),by dsimp only; omega,⟨by dsimp only; omega,by dsimp only; omega,hnl,hrun.symm,hgo⟩,?_⟩
    simp only [hzn,List.append_nil,nb_self,nb_lt,ev2,eq_self]
   | true=>
    by_cases k0:kd=0
    ·subst k0
     obtain ⟨f1,f2⟩:=fits_w hf rfl
     dsimp only at f1 f2
     have hlt:who.toNat < qw.length:=by omega
     have hw1:who < (ws.length:Int):=by omega
     have hgw:=getD_w hlt
     have hx:=qws _ (getD_memW (d:=wk0) hlt)
     have hxs:(qw.getD who.toNat wk0).stack.length≤100000:=by omega
     have hxo:=hx.2
     have hp0:pGo ⟨c,t,qm,qw,qs⟩ ⟨0,who,dr⟩=(⟨c,t,(wStep c t qm who (qw.getD who.toNat wk0) dr).1,qw.set who.toNat (wStep c t qm who (qw.getD who.toNat wk0) dr).2.1,qs⟩,(wStep c t qm who (qw.getD who.toNat wk0) dr).2.2):=by
      unfold pGo
      dsimp only
      rw [hq0,hf]; rfl
     rw [hp0] at hrun hgo hcp hnl
     clear hp0 hx
     generalize qw.getD who.toNat wk0=x at *
     generalize hr:wStep c t qm who x dr=r at *
     obtain ⟨rm,ry,re⟩:=r
     have hst:(qw.map wv).set who.toNat (wv ry)=(qw.set who.toNat ry).map wv:=List.map_set.symm
     simp only [wv,its,iv,u] at hst
     simp only [Tryz.func54,Tryz.f54,Tryz.func84,Tryz.f84,hr,hst,hgw,hw1,hlt,hqm,row6, hxs,hxo,f1,ht,wsv,wv,its,evs,and_self,hz,hz0,hg,hf,w1,tk_map,m0,m1,m5,m21,n0,n1,n5,hzn,n21,inl,AQ_all,ctxO_P,ctxO_T,ctxO_C,rf1,sx_all,List.length_nil,pov,pag,pzero,pkv,tks,wks,sbs,pks,ms,List.length_map,Int.toNat_natCast,Nat.zero_add,nb_self,nb_same,nb_lt,nb_gt,nb_lt0,nb_gt0,Nat.add_assoc,tt_all,mo_make,mo_ins,updM,mo_look,lookM,hitM,find_nil,find_cons,findS,List.cons_append,List.nil_append,cf_eta,shC_dec,dC,row3,shI_dec,shN_dec,shM_dec,dI,dN,dM,dU_map,iv,bv,u,ms,Option.bind_some,List.length_map,String.reduceBEq,Int.toNat_natCast,Int.cast_ofNat_Int,ev1,ev2,implies_true,undef,dynCall,↓condE_t,frzDeep,deepArgs,deepArg,resB,cv,stepB,stepE,callD,tabD,aopR,one,pre,binR,intOpR,argFrm,evo,lkp,hlk,lenOf,asLst,idOf,srcOk,ofVal,ofCells,setCells,AV.wr,AV.ok1,TK.agg,frzArg,frzArgs,sub1,kp,kh,accOf,Nat.reduceAdd,Nat.reduceEqDiff,Nat.reduceLT,Nat.reduceLeDiff,reduceCtorEq,eq_self,ne_eq,Int.reduceBEq]
     repeat' apply And.intro
     all_goals try (show entryOk _ _ _ _ _=true; (repeat (first | exact entryOk_nil _ _ _ _ | (refine entryOk_step ?h ?_; case h=>(first | (apply Or.inr; constructor <;> simp [meets] <;> omega; done) | (apply Or.inl; show anc _ _ _ _=true; kernel_rfl))))))
     all_goals try (show _≤_; (try dsimp only at hcp); (try simp only [List.length_nil,Nat.add_zero] at hcp); omega)
     refine ⟨(i + 1,nx2 + 16,_,_),by dsimp only; omega,⟨by dsimp only; omega,by dsimp only; omega,hnl,hrun.symm,hgo⟩,?_⟩
     simp only [List.map_append,List.length_append,nb_self,ev2,eq_self]
    ·have k0':(kd == 0)=false:=by simpa using k0
     by_cases k1:kd=1
     ·subst k1
      obtain ⟨f1,f2⟩:=fits_s hf rfl
      dsimp only at f1 f2
      omega
     ·have k1':(kd == 1)=false:=by simpa using k1
      by_cases k2:kd=2
      ·subst k2
       have hp0:pGo ⟨c,t,qm,qw,qs⟩ ⟨2,who,dr⟩=(⟨c,t,mStore qm 3 1,qw,qs⟩,[]):=by
        unfold pGo
        dsimp only
        rw [hq0,hf]; rfl
       rw [hp0] at hrun hgo hcp hnl
       simp only [Tryz.func54,Tryz.f54,Tryz.func89,Tryz.f89, evs,and_self,hz,hz0,hg,hf,w1,tk_map,m0,m1,m5,m21,n0,n1,n5,hzn,n21,inl,AQ_all,ctxO_P,ctxO_T,ctxO_C,sx_all,List.length_nil,pov,pag,pzero,pkv,tks,wks,sbs,pks,ms,List.length_map,Int.toNat_natCast,Nat.zero_add,nb_self,nb_same,nb_lt,nb_gt,nb_lt0,nb_gt0,Nat.add_assoc,tt_all,mo_make,mo_ins,updM,mo_look,lookM,hitM,find_nil,find_cons,findS,List.cons_append,List.nil_append,row3,shI_dec,shN_dec,shM_dec,dI,dN,dM,dU_map,iv,bv,u,ms,Option.bind_some,List.length_map,String.reduceBEq,Int.toNat_natCast,Int.cast_ofNat_Int,ev1,ev2,implies_true,undef,dynCall,↓condE_t,frzDeep,deepArgs,deepArg,resB,cv,stepB,stepE,callD,tabD,aopR,one,pre,binR,intOpR,argFrm,evo,lkp,hlk,lenOf,asLst,idOf,srcOk,ofVal,ofCells,setCells,AV.wr,AV.ok1,TK.agg,frzArg,frzArgs,sub1,kp,kh,accOf,Nat.reduceAdd,Nat.reduceEqDiff,Nat.reduceLT,Nat.reduceLeDiff,reduceCtorEq,eq_self,ne_eq,Int.reduceBEq,k0',k1',hqm]
       repeat' apply And.intro
       all_goals try (show entryOk _ _ _ _ _=true; (repeat (first | exact entryOk_nil _ _ _ _ | (refine entryOk_step ?h ?_; case h=>(first | (apply Or.inr; constructor <;> simp [meets] <;> omega; done) | (apply Or.inl; show anc _ _ _ _=true; kernel_rfl))))))
       all_goals try (show _≤_; (try dsimp only at hcp); (try simp only [List.length_nil,Nat.add_zero] at hcp); omega)
       refine ⟨(i + 1,nx2 + 16,_,_),by dsimp only; omega,⟨by dsimp only; omega,by dsimp only; omega,hnl,hrun.symm,hgo⟩,?_⟩
       simp only [List.append_nil,nb_self,ev2,eq_self]
      ·have k2':(kd == 2)=false:=by simpa using k2
       have hp0:pGo ⟨c,t,qm,qw,qs⟩ ⟨kd,who,dr⟩=(⟨c,t,qm,qw,qs⟩,[]):=by
        unfold pGo
        dsimp only
        rw [hq0,hf,if_pos rfl]
        unfold pStep'
        rw [if_neg k0,if_neg k1,if_neg k2]
       rw [hp0] at hrun hgo hcp hnl
       simp only [Tryz.func54,Tryz.f54,evs,and_self,hz,hz0,hg,hf,w1,tk_map,m0,m1,m5,m21,n0,n1,n5,hzn,n21,inl,AQ_all,ctxO_P,ctxO_T,ctxO_C,sx_all,List.length_nil,pov,pag,pzero,pkv,tks,wks,sbs,pks,ms,List.length_map,Int.toNat_natCast,Nat.zero_add,nb_self,nb_same,nb_lt,nb_lt0,Nat.add_assoc,tt_all,mo_make,mo_ins,updM,mo_look,lookM,hitM,find_nil,find_cons,findS,List.cons_append,List.nil_append,row3,shI_dec,dI,iv,bv,u,ms,Option.bind_some,List.length_map,String.reduceBEq,Int.toNat_natCast,Int.cast_ofNat_Int,ev1,ev2,implies_true,undef,↓condE_t,↓condE_f,frzDeep,deepArgs,deepArg,resB,cv,stepB,aopR,one,pre,binR,intOpR,argFrm,evo,lkp,hlk,lenOf,asLst,idOf,srcOk,ofVal,ofCells,setCells,AV.wr,AV.ok1,TK.agg,frzArg,frzArgs,sub1,kp,kh,Nat.reduceAdd,Nat.reduceEqDiff,Nat.reduceLT,Nat.reduceLeDiff,reduceCtorEq,eq_self,ne_eq,Int.reduceBEq,k0',k1',k2']
       repeat' apply And.intro
       all_goals try (show entryOk _ _ _ _ _=true; (repeat (first | exact entryOk_nil _ _ _ _ | (refine entryOk_step ?h ?_; case h=>(first | (apply Or.inr; constructor <;> simp [meets] <;> omega; done) | (apply Or.inl; show anc _ _ _ _=true; kernel_rfl))))))
       all_goals try (show _≤_; (try dsimp only at hcp); (try simp only [List.length_nil,Nat.add_zero] at hcp); omega)
       refine ⟨(i + 1,nx2 + 16,_,_),by dsimp only; omega,⟨by dsimp only; omega,by dsimp only; omega,hnl,hrun.symm,hgo⟩,?_⟩
       simp only [List.append_nil,nb_self,ev2,eq_self]
  ·have hz:¬ (i:Int) < l.length:=by omega
   have hlt:l.take i=l:=List.take_of_length_le (by omega)
   rw [hlt] at ge
   rw [← ge]
   simp only [hz,tk_map,m1,m5,m21,ctxO_T,List.length_nil,pov,pag,pzero,tks,wks,sbs,evs,ms,List.length_map,Nat.zero_add,nb_self,nb_lt0,nb_gt0,Nat.add_assoc,tt_all,hfree_lu,iv,ms,List.length_map,ev1,ev2,undef,↓condE_f,resB,cv,stepB,aopR,one,pre,binR,intOpR,evo,lkp,hlk,ofCells,setCells,AV.wr,AV.ok1,TK.agg,frz1,frzt,frzs,frzA,subB,subM,subL,sub1,Nat.reduceAdd,Nat.reduceEqDiff,Nat.reduceLT,Nat.reduceLeDiff,reduceCtorEq,eq_self,ne_eq]
   have hqs:qs=[]:=List.length_eq_zero_iff.1 qsl
   subst hqs
   refine ⟨hf_tks t,by omega,fun x hx=>?_,hf_sbs [],Nat.le_refl _,fun x hx=>?_,?_⟩
   ·obtain ⟨y,_,rfl⟩:=List.mem_map.1 (List.mem_of_mem_take hx)
    exact elW.cfree y
   ·obtain ⟨y,_,rfl⟩:=List.mem_map.1 hx
    exact elE.cfree y
   ·skip
    rw [List.take_of_length_le (by rw [List.length_map]; omega)]
    exact ⟨rfl,rfl⟩
theorem run_pure (p:Po) (l:List Pk) (h:RIn p l):PureC Tryz.prog 25 [pov p,pks l] (.tup [pov (pRun p l).1,evs (pRun p l).2]):=by
 by_cases h0:p.s=[]
 ·exact run_nil p l h h0
 ·exact run_cons p l h h0
end Go.Vai

/- slices.Delete of one number out of a list of the call's own. -/
namespace Go.Vai
open Go.RowKit Go.Proofs Go.Shelf Go.Sort
set_option maxRecDepth 100000
def renD:Ren:=⟨fun _=>41,fun n=>match n with | 0=>0 | 4=>4 | 22=>48 | _=>3,fun _=>0⟩
theorem laysD:SlLaysN.n45 Tryz.prog renD where
 mixed:=by kernel_rfl
 f45:=⟨"slices.Delete[[]int,int]",by decide,Tryz.func41.trans (congrArg some (by kernel_rfl))⟩
 t0:=Tryz.underlying0
 a0:=Tryz.isAgg0
 z0:=Tryz.sizeOf0
 v0:=Tryz.zeroValue0
 t3:=Tryz.underlying3
 a3:=Tryz.isAgg3
 z3:=Tryz.sizeOf3
 v3:=Tryz.zeroValue3
 t4:=Tryz.underlying4
 a4:=Tryz.isAgg4
 z4:=Tryz.sizeOf4
 v4:=Tryz.zeroValue4
 t22:=Tryz.underlying48
 a22:=Tryz.isAgg48
 z22:=Tryz.sizeOf48
 v22:=Tryz.zeroValue48
 t23:=Tryz.underlying3
 a23:=Tryz.isAgg3
 z23:=Tryz.sizeOf3
 v23:=Tryz.zeroValue3
 i23:=by kernel_rfl
end Go.Vai

/- The evaluator's rule for slices.Delete of one number out of a list of the call's own. -/
namespace Go.Vai
open Go.RowKit Go.Proofs Go.Shelf Go.Sort
section
variable {w0 : World} {K0 : Nat → Option Obj} {D : Nat → Prop} {E : Env} {n : Nat} {fr : Frm} {hp : Hp} {a : Act} {w : World}
theorem Rel.ahead (h:Rel w0 K0 D E n fr hp a w) (q:Nat):Rel w0 K0 D E n fr hp a (Sort.ahead w q):=
 { below:=⟨h.below.os,h.below.tape,h.below.output,h.below.size,h.below.block⟩,kw:=h.kw,k0:=h.k0,nd:=h.nd,size:=h.size,regs:=h.regs,dom:=h.dom,lw:=h.lw,out:=h.out,own:=fun id b hb=>(h.own id b hb).mono (Env.le.refl E) (fun _ _=>rfl) (fun _ _ _=>rfl) ⟨Nat.le_refl _,fun _ _ h _=>h⟩ (fun _ _ _ _ h=>h),inj:=h.inj }
theorem Rel.hpc (h:Rel w0 K0 D E n fr hp a w) {hp':Hp} (e:∀ id,hlk hp' id=hlk hp id):Rel w0 K0 D E n fr hp' a w:=
 { h with own:=fun id b hb=>h.own id b (by rw [← e]; exact hb),inj:=fun i j x y g hx hy=>h.inj i j x y g (by rw [← e]; exact hx) (by rw [← e]; exact hy) }
theorem Rel.shrink (h:Rel w0 K0 D E n fr hp a w) {id:Nat} {b:Blk} (hb:hlk hp id=some b) {g:Nat} (hg:E.ρ id=some g) (k:Nat):Rel w0 K0 D E n fr ((id,some { b with el:=b.el.take k }) :: hp) a w:=by
 have f:∀ i x,hlk ((id,some { b with el:=b.el.take k }) :: hp) i=some x→∃ y,hlk hp i=some y∧(i≠id→y=x)∧(i=id→x={ b with el:=b.el.take k }):=by
  intro i x hx
  rw [hlk_cons] at hx
  by_cases e:i=id
  ·rw [if_pos e] at hx; cases hx; exact ⟨b,e ▸ hb,fun h=>absurd e h,fun _=>rfl⟩
  ·rw [if_neg e] at hx; exact ⟨x,hx,fun _=>rfl,fun h=>absurd h e⟩
 refine { h with own:=fun i x hx=>?_,inj:=fun i j x y g hx hy=>?_ }
 ·obtain ⟨y,h1,h2,h3⟩:=f i x hx
  by_cases e:i=id
  ·subst e
   rw [h3 rfl]
   obtain ⟨hd,hs1,hp1,hm1,ho⟩:=h.own i b hb
   refine ⟨hd,hs1,hp1,hm1,?_⟩
   rcases ho with ⟨o1,_⟩ | ⟨g',cur,o1,o2,o3,o4,o5,o6,o7,o8⟩
   ·rw [o1] at hg; cases hg
   ·refine .inr ⟨g',cur,o1,o2,o3,o4,?_,o6,o7,fun j x hj=>?_⟩
    ·dsimp only; rw [List.length_take]; omega
    ·dsimp only at hj
     rw [List.getElem?_take] at hj
     split at hj
     ·exact o8 j x hj
     ·cases hj
  ·have:=h2 e; subst this
   exact h.own i y h1
 ·obtain ⟨y1,k1,_⟩:=f i x hx
  obtain ⟨y2,k2,_⟩:=f j y hy
  exact h.inj i j y1 y2 g k1 k2
end
def delB (b:Option Blk) (id off len:Nat) (i j:Int) (hp:Hp) (nx:Nat) (K:AV→Hp→Nat→Prop):Prop:=
 match b with
 | some b=>off=0∧b.ro=false∧b.sz=1∧len=b.el.length∧0≤i∧i.toNat < len∧j=i + 1∧(∃ l:List Int,b.el=l.map iv) ∧
   K (.arr id 0 (len - 1)) ((id,some { b with el:=b.el.take i.toNat ++ b.el.drop (i.toNat + 1) }) :: hp) nx
 | none=>False
def delA (args:List AV) (hp:Hp) (nx:Nat) (K:AV→Hp→Nat→Prop):Prop:=
 match args with
 | [.arr id off len,.v (.int .i64 i),.v (.int .i64 j)]=>delB (hlk hp id) id off len i j hp nx K
 | _=>False
def delF (X:Ctx) (k:Nat):CallF:=fun g args hp nx K=>
 match Nat.beq g 41 with
 | true=>delA args hp nx K
 | false=>callN X k g args hp nx K
theorem r_del {X:Ctx} {k id off len:Nat} {i j:Int} {hp:Hp} {nx:Nat} {K:AV→Hp→Nat→Prop} :
  delF X k 41 [.arr id off len,.v (.int .i64 i),.v (.int .i64 j)] hp nx K=delB (hlk hp id) id off len i j hp nx K:=rfl
theorem r_delN {X:Ctx} {k g:Nat} {args:List AV} {hp:Hp} {nx:Nat} {K:AV→Hp→Nat→Prop} (h:Nat.beq g 41=false) :
  delF X k g args hp nx K=callN X k g args hp nx K:=by
 unfold delF; rw [h]
theorem iv_con {E:Env} {n:Int} {v:Value} (h:Con E (iv n) v):v=.int .i64 n:=by cases h; rfl
theorem putCells_size {α:Type} [Inhabited α] (enc:α→Value) (off:Nat) (d:Array α) (c:Array Value):(putCells enc off d c).size=c.size:=by simp [putCells]
theorem mapBlock_setRow {w:World} {g:Nat} {cur:Array Value} {t:TypeId} {sp:Nat × Nat} (hc:w.heap[g]? = some (.cells cur t sp)) (f:Array Value→Array Value):mapBlock w g f=w.setRow g (f cur):=by
 unfold mapBlock World.setRow
 congr 1
 apply Array.ext_getElem?
 intro k
 simp only [Array.getElem?_modify]
 by_cases hk:g=k
 ·subst hk
  simp only [if_true]
  rw [hc]; rfl
 ·simp [hk]
theorem del_sound {X:Ctx} (hP:X.P=Tryz.prog) (k:Nat) (hC:CallSound X (callN X k)):CallSound X (delF X k):=by
 intro g args hp nx K h w0 K0 E n fr a w vs hr ha
 unfold delF at h
 split at h
 ·rename_i hg
  have hg:=Nat.eq_of_beq_eq_true hg
  subst hg
  unfold delA at h
  split at h
  ·rename_i id off len i j
   unfold delB at h
   split at h
   ·rename_i b hb
    obtain ⟨rfl,hro,hsz,hlen,hi0,hil,rfl,⟨l,hl⟩,hK⟩:=h
    obtain ⟨vl,hv⟩:=ha
    have e3:vs.size=3:=by rw [← vl]; rfl
    have c0:=hv 0 _ vs[0] rfl (by simp)
    have c1:=hv 1 _ vs[1] rfl (by simp)
    have c2:=hv 2 _ vs[2] rfl (by simp)
    have ev:vs=#[vs[0],vs[1],vs[2]]:=by
     apply Array.ext
     ·simp [e3]
     ·intro q h1 h2
      have:q=0∨q=1∨q=2:=by omega
      rcases this with rfl | rfl | rfl <;> rfl
    generalize vs[0]=v0 at *
    generalize vs[1]=v1 at *
    generalize vs[2]=v2 at *
    subst ev
    have e1:v1=.int .i64 i:=by cases c1; rfl
    have e2:v2=.int .i64 (i + 1):=by cases c2; rfl
    subst e1; subst e2
    have hll:l.length=len:=by rw [hlen,hl,List.length_map]
    cases c0 with
    | arr0 _ hd hg0=>omega
    | arr _ _ _ g o c hd hg ho hc hlc=>
    have hown:=hr.own id b hb
    obtain ⟨hd',hs1,hp1,hm1,hx⟩:=hown
    rcases hx with ⟨o1,_⟩ | ⟨g',cur,o1,o2,o3,o4,o5,o6,o7,o8⟩
    ·rw [o1] at hg; cases hg
    ·rw [o1] at hg; cases hg
     have ho0:o=0:=by
      rcases ho with h | h
      ·omega
      ·omega
     subst ho0
     have hcell:∀ q (hq:q < l.length),cur[q]? = some (.int .i64 l[q]):=by
      intro q hq
      obtain ⟨y,y1,y2,y3⟩:=(o8 q (iv l[q]) (by rw [hl]; simp [hq])).2 0 (iv l[q]) rfl
      rw [iv_con y3] at y1
      rw [hsz] at y1
      simpa using y1
     have hH:Holds encI w g 0 l.toArray:=by
      intro q hq
      have hq':q < l.length:=by simpa using hq
      constructor
      ·simp only [World.cell?,o3,Option.isSome_none,if_neg (Bool.false_ne_true),Nat.zero_add]
       rw [hcell q hq',getElem!_pos l.toArray q hq]
       rfl
      ·simp only [World.frozen?,o3]
       simp
     obtain ⟨iN,rfl⟩:∃ m:Nat,i=(m:Int):=⟨i.toNat,by omega⟩
     have hiN:iN < l.length:=by simpa [hll] using hil
     have hcm:c≤9223372036854775807:=by
      have:maxLen=9223372036854775807:=rfl
      omega
     have hcall:=AnyG.slices_Delete_int_arr laysD g 0 c iN (iN + 1) l.toArray w hH (by simp [hll]; exact hlc) hcm (by omega) (by simp; omega)
     refine ⟨?_,?_⟩
     ·rw [hP]
      exact ⟨_,Tryz.func41,by rfl,by rfl⟩
     ·rw [hP]
      have hsize:l.toArray.size=len:=by simpa using hll
      have ea:(#[Value.slice (some ⟨g,0,none⟩) l.toArray.size c,.int .i64 (iN:Int),.int .i64 ((iN + 1:Nat):Int)]:Array Value)=#[.slice (some ⟨g,0,none⟩) len c,.int .i64 (iN:Int),.int .i64 ((iN:Int) + 1)]:=by
       rw [hsize]; rfl
      rw [ea] at hcall
      refine hcall.mono ?_
      rintro e w' ⟨rfl,q,rfl⟩
      have hr1:=hr.ahead q
      have ho3:(Sort.ahead w q).heap[g]? = some (.cells cur b.ty (0,0)):=o3
      generalize hDD:(l.toArray.toList.take iN ++ l.toArray.toList.drop (iN + 1) ++ List.replicate (iN + 1 - iN) 0).toArray=DD
      have hds:DD.size=l.length:=by rw [← hDD]; simp; omega
      have hcur:=putCells_size encI 0 DD cur
      have hcapc:l.length≤cur.size:=by
       have:=(Array.getElem?_eq_some_iff.1 (hcell (l.length - 1) (by omega))).1
       omega
      have hw:=hr1.write hb hro o1 ho3 (putCells encI 0 DD cur) hcur (DD.toList.map iv) (by rw [List.length_map,hl,List.length_map,Array.length_toList,hds]) (by
       intro q' x hx
       rw [hsz]
       rw [List.getElem?_map] at hx
       obtain ⟨y,y1,rfl⟩:=Option.map_eq_some_iff.1 hx
       refine ⟨rfl,fun j x hj=>?_⟩
       have:j=0:=by
        have:=(List.getElem?_eq_some_iff.1 hj).1
        have e:(iv y).cells.length=1:=rfl
        omega
       subst this
       have:x=iv y:=by simpa [iv,AV.cells] using hj.symm
       subst this
       have hq'':q' < DD.size:=by simpa using (List.getElem?_eq_some_iff.1 y1).1
       have hyy:DD[q']! = y:=by
        rw [getElem!_pos DD q' hq'']
        have:=(List.getElem?_eq_some_iff.1 y1).2
        simpa using this
       refine ⟨.int .i64 y,?_,rfl,.v _⟩
       simp only [putCells,Nat.mul_one,Nat.add_zero,Array.getElem?_mapIdx]
       rw [Array.getElem?_eq_getElem (by omega)]
       simp only [Option.map_some,Nat.zero_le,true_and,Nat.zero_add,hq'',if_true,Nat.sub_zero,hyy]
       try rfl)
      have hw2:=hw.shrink (id:=id) (by rw [hlk_cons,if_pos rfl]) o1 (l.length - 1)
      have hDl:DD.toList=l.take iN ++ l.drop (iN + 1) ++ [0]:=by
       rw [← hDD]; simp
      have hel:(DD.toList.map iv).take (l.length - 1)=b.el.take iN ++ b.el.drop (iN + 1):=by
       rw [hDl,hl,List.map_append,List.take_append_of_le_length (by simp; omega),List.take_of_length_le (by simp; omega)]
       try simp
      dsimp only at hw2
      rw [hel] at hw2
      have hw3:=hw2.hpc (hp':=(id,some { b with el:=b.el.take iN ++ b.el.drop (iN + 1) }) :: hp) (fun id'=>by
       rw [hlk_cons,hlk_cons,hlk_cons]
       by_cases e:id'=id <;> simp [e])
      refine ⟨_,_,_,_,E,rfl,hK,Ext.refl E nx,?_,?_⟩
      ·have:l.toArray.size - (iN + 1 - iN)=len - 1:=by simp [hll]
       rw [this]
       exact .arr id 0 (len - 1) g 0 c hd o1 (.inr (by simp)) hc (by omega)
      ·have:putRow encI (Sort.ahead w q) g 0 DD=(Sort.ahead w q).setRow g (putCells encI 0 DD cur):=mapBlock_setRow ho3 _
       rw [this]
       exact hw3
   ·exact h.elim
  ·exact h.elim
 ·exact hC g args hp nx K h w0 K0 E n fr a w vs hr ha
theorem delF_sound {X:Ctx} (hX:X.ok) (hP:X.P=Tryz.prog) (k:Nat):CallSound X (delF X k):=del_sound hP k (callN_sound hX.core hX.rd hX.inv k)
end Go.Vai

/- nil in a field of a struct of the call's own, as a list of the call's own. -/
namespace Go.Vai
open Go.RowKit
section
variable {X : Ctx}
theorem Rel.reelF {w0:World} {K0:Nat→Option Obj} {D:Nat→Prop} {E:Env} {n:Nat} {fr:Frm} {hp:Hp} {a:Act} {w:World} (h:Rel w0 K0 D E n fr hp a w) {id nx:Nat} {b:Blk} (hb:hlk hp id=some b) {cs:List AV} {p:Nat} (hel:b.el=[.agg cs]) (hp':cs[p]? = some (.v (.slice none 0 0))) (hd:E.dom nx) (hρ:E.ρ nx=none) :
  Rel w0 K0 D E n fr ((id,some { b with el:=[.agg (cs.set p (.arr nx 0 0))] }) :: hp) a w:=by
 have f:∀ i x,hlk ((id,some ({ b with el:=[.agg (cs.set p (.arr nx 0 0))] }:Blk)) :: hp) i=some x→(i=id∧x={ b with el:=[.agg (cs.set p (.arr nx 0 0))] })∨(i≠id∧hlk hp i=some x):=by
  intro i x hx
  rw [hlk_cons] at hx
  by_cases e:i=id
  ·rw [if_pos e] at hx; cases hx; exact .inl ⟨e,rfl⟩
  ·rw [if_neg e] at hx; exact .inr ⟨e,hx⟩
 have g:∀ i x,hlk ((id,some ({ b with el:=[.agg (cs.set p (.arr nx 0 0))] }:Blk)) :: hp) i=some x→∃ y,hlk hp i=some y:=by
  intro i x hx
  rcases f i x hx with ⟨rfl,_⟩ | ⟨_,h'⟩
  ·exact ⟨b,hb⟩
  ·exact ⟨x,h'⟩
 refine { h with own:=fun i x hx=>?_,inj:=fun i j x y q hx hy=>?_ }
 ·rcases f i x hx with ⟨rfl,rfl⟩ | ⟨_,h'⟩
  ·obtain ⟨hd1,hs,hp0,hm,ho⟩:=h.own i b hb
   refine ⟨hd1,hs,hp0,hm,?_⟩
   rcases ho with ⟨_,h2,_⟩ | ⟨g',cur,h1,h2,h3,h4,h5,h6,h7,h8⟩
   ·obtain ⟨k,y,e⟩:=h2.2 (.agg cs) (by rw [hel]; simp)
    cases e
   ·refine .inr ⟨g',cur,h1,h2,h3,h4,by rw [hel] at h5; exact h5,h6,h7,?_⟩
    intro k x hk
    have h0:=h8 0 (.agg cs) (by rw [hel]; rfl)
    cases k with
    | zero=>
     simp at hk
     subst hk
     refine ⟨by simpa [AV.cells] using h0.1,fun j z hz=>?_⟩
     simp only [AV.cells] at hz
     rw [List.getElem?_set] at hz
     by_cases e:p=j
     ·subst e
      rw [if_pos rfl] at hz
      have hlt:=(List.getElem?_eq_some_iff.1 hp').1
      rw [if_pos hlt] at hz
      cases hz
      obtain ⟨y,e1,e2,e3⟩:=h0.2 p (.v (.slice none 0 0)) hp'
      cases e3
      exact ⟨_,e1,e2,.arr0 nx hd hρ⟩
     ·rw [if_neg e] at hz
      exact h0.2 j z hz
    | succ k=>simp at hk
  ·exact h.own i x h'
 ·obtain ⟨x',hx'⟩:=g i x hx
  obtain ⟨y',hy'⟩:=g j y hy
  exact h.inj i j x' y' q hx' hy'
theorem WP.virtF {c:Code} {Q:Exit→St→Prop} {n nx:Nat} {fr:Frm} {hp:Hp} (id p:Nat) (ty:TypeId) (sz:Nat) {b:Blk} {cs:List AV} (hb:hlk hp id=some b) (hel:b.el=[.agg cs]) (hp':cs[p]? = some (.v (.slice none 0 0))) (hs:0 < sz)
  (h:WP X c Q ⟨n,fr,(id,some { b with el:=[.agg (cs.set p (.arr nx 0 0))] }) :: (nx,some ⟨false,ty,sz,[]⟩) :: hp,nx + 1⟩) (im:∀ w0 E E',X.inv w0 E→E.le E'→X.inv w0 E':=by exact fun _ _ _ _ _=>trivial):WP X c Q ⟨n,fr,hp,nx⟩:=by
 intro w0 K0 E a w hi0 hr
 have hme:¬ E.dom nx:=fun h=>Nat.lt_irrefl _ (hr.dom nx h)
 have hid:id≠nx:=fun e=>hme (e ▸ (hr.own id b hb).1)
 have hv:=Rel.virt hr hme (D':=fun id=>id < nx + 1) (fun id h=>h.elim Nat.lt_succ_of_lt fun e=>e ▸ Nat.lt_succ_self _) ty sz hs
 have hx:Ext E nx (E.add nx none sz 0) (nx + 1):=⟨Env.le_add hme ..,by omega,fun id h=>h.elim (fun e=>.inr (by omega)) .inl⟩
 have hr2:RelS w0 K0 (E.add nx none sz 0) ⟨n,fr,(id,some { b with el:=[.agg (cs.set p (.arr nx 0 0))] }) :: (nx,some ⟨false,ty,sz,[]⟩) :: hp,nx + 1⟩ a w:=
  hv.reelF (b:=b) (by rw [hlk_cons,if_neg hid]; exact hb) hel hp' (.inl rfl) (if_pos rfl)
 refine wpIn_mono (h w0 K0 _ a w (im _ _ _ hi0 hx.le) hr2) ?_
 rintro e a' w' ⟨s',E',h1,h2,h3⟩
 exact ⟨s',E',h1,hx.trans h2,h3⟩
end
end Go.Vai

/- What all do at a deque keeps numbers in range. -/
namespace Go.Vai
open Go.RowKit
structure UFr (f:Fr):Prop where
 val:InU f.val
 x:InU f.x
 y:InU f.y
theorem u0:InU 0:=⟨by decide,by decide⟩
theorem cas_u {m:List Int} (h:InM m) (i a:Int) {v:Int} (hv:InU v):InM (mCas m i a v):=by
 unfold mCas
 split
 ·exact fun x hx=>(List.mem_or_eq_of_mem_set hx).elim (h x) (fun e=>e ▸ hv)
 ·exact h
theorem dqStep_u {c:Cf} {m:List Int} {f:Fr} (h:InM m) (hf:UFr f):InM (dqStep c m f).1∧UFr (dqStep c m f).2:=by
 obtain ⟨v,x,y⟩:=hf
 unfold dqStep
 split
 ·unfold pStep
  repeat' split
  all_goals first
   | exact ⟨h,⟨v,x,y⟩⟩ | exact ⟨h,⟨v,load_u h _,y⟩⟩ | exact ⟨h,⟨v,u0,u0⟩⟩ | exact ⟨h,⟨v,x,load_u h _⟩⟩ | exact ⟨store_u h v,⟨v,x,y⟩⟩ | exact ⟨store_u h (wrapU_u _),⟨v,u0,u0⟩⟩
 ·split
  ·unfold oStep
   repeat' split
   all_goals first
    | exact ⟨h,⟨v,x,y⟩⟩ | exact ⟨h,⟨v,wrapU_u _,y⟩⟩ | exact ⟨store_u h x,⟨v,x,y⟩⟩ | exact ⟨h,⟨v,x,load_u h _⟩⟩ | exact ⟨h,⟨load_u h _,u0,u0⟩⟩ | exact ⟨h,⟨load_u h _,x,y⟩⟩
    | exact ⟨cas_u h _ _ (wrapU_u _),⟨v,x,y⟩⟩ | exact ⟨store_u h (wrapU_u _),⟨v,u0,u0⟩⟩ | exact ⟨store_u h (wrapU_u _),⟨u0,u0,u0⟩⟩
  ·split
   ·unfold sStep
    repeat' split
    all_goals first
     | exact ⟨h,⟨v,x,y⟩⟩ | exact ⟨h,⟨v,x,load_u h _⟩⟩ | exact ⟨h,⟨u0,u0,u0⟩⟩ | exact ⟨h,⟨v,load_u h _,y⟩⟩ | exact ⟨h,⟨load_u h _,x,y⟩⟩ | exact ⟨cas_u h _ _ (wrapU_u _),⟨v,u0,u0⟩⟩
   ·exact ⟨h,⟨v,x,y⟩⟩
def UFs (l:List Fr):Prop:=∀ f∈l,UFr f
theorem UFs.set {l:List Fr} (h:UFs l) (i:Nat) {x:Fr} (hx:UFr x):UFs (l.set i x):=by
 intro y hy
 rcases List.mem_or_eq_of_mem_set hy with e | e
 ·exact h y e
 ·rw [e]; exact hx
end Go.Vai

/- What no step of a deque or of an injector changes: the event's word, and who is parked. Bits of a word. -/
namespace Go.Vai
open Go.RowKit
set_option maxHeartbeats 2000000
structure Alike (c:Cf) (m m':List Int):Prop where
 len:m'.length=m.length
 two:mLoad m' 2=mLoad m 2
 park:∀ w,mLoad m' (lPark c w)=mLoad m (lPark c w)
theorem Alike.refl (c:Cf) (m:List Int):Alike c m m:=⟨rfl,rfl,fun _=>rfl⟩
theorem alike_store {c:Cf} {m:List Int} {i:Int} (h2:i≠2) (hp:∀ w,i≠-1→i≠lPark c w) (v:Int):Alike c m (mStore m i v):=by
 by_cases e:i=-1
 ·have:mStore m i v=m:=store_out (by subst e; simp [isIn]) v
  rw [this]; exact Alike.refl c m
 ·exact ⟨len_store ..,load_other h2 v,fun w=>load_other (hp w e) v⟩
theorem alike_cas {c:Cf} {m:List Int} {i:Int} (h2:i≠2) (hp:∀ w,i≠-1→i≠lPark c w) (a v:Int):Alike c m (mCas m i a v):=by
 cases h:mCasB m i a with
 | false=>rw [cas_not h]; exact Alike.refl c m
 | true=>rw [cas_store h]; exact alike_store h2 hp v
theorem lHas_iff {c:Cf} {w:Int}:lHas c w=true ↔ mayC c=true∧0≤w∧w < c.w:=by simp [lHas]
theorem park_has {c:Cf} {w:Int} (h:lHas c w=true):lPark c w=lBase c w + 2:=by simp [lPark,h]
theorem park_no {c:Cf} {w:Int} (h:lHas c w=false):lPark c w=-1:=by simp [lPark,h]
theorem park_low {c:Cf} {w:Int}:lPark c w=-1∨6 + 2 * c.i + 2≤lPark c w∧10≤lPark c w:=by
 cases h:lHas c w with
 | false=>exact .inl (park_no h)
 | true=>
  refine .inr ?_
  rw [park_has h]
  obtain ⟨a,b,d⟩:=lHas_iff.1 h
  obtain ⟨h1,h2,h3,h4,h5,h6,h7⟩:=mayC_iff.1 a
  unfold lBase
  rcases h3 with e | e | e | e | e <;> rw [e] <;> omega
theorem park_small {c:Cf} {i:Int} (h0:0≤i) (h:i < 10):∀ w,i≠-1→i≠lPark c w:=by
 intro w _ e
 rcases park_low (c:=c) (w:=w) with k | k <;> omega
theorem park_top {c:Cf} {k:Int}:∀ w,lTop c k≠-1→lTop c k≠lPark c w:=by
 intro w h e
 cases hk:lHas c k with
 | false=>simp [lTop,hk] at h
 | true=>
  cases hw:lHas c w with
  | false=>rw [park_no hw] at e; exact h e
  | true=>
   rw [park_has hw] at e
   simp only [lTop,hk,if_true] at e
   obtain ⟨a,b,d⟩:=lHas_iff.1 hw
   obtain ⟨_,b',d'⟩:=lHas_iff.1 hk
   obtain ⟨h1,h2,h3,h4,h5,h6,h7⟩:=mayC_iff.1 a
   unfold lBase at e
   rcases h3 with e' | e' | e' | e' | e' <;> rw [e'] at e <;> omega
theorem park_bottom {c:Cf} {k:Int}:∀ w,lBottom c k≠-1→lBottom c k≠lPark c w:=by
 intro w h e
 cases hk:lHas c k with
 | false=>simp [lBottom,hk] at h
 | true=>
  cases hw:lHas c w with
  | false=>rw [park_no hw] at e; exact h e
  | true=>
   rw [park_has hw] at e
   simp only [lBottom,hk,if_true] at e
   obtain ⟨a,b,d⟩:=lHas_iff.1 hw
   obtain ⟨_,b',d'⟩:=lHas_iff.1 hk
   obtain ⟨h1,h2,h3,h4,h5,h6,h7⟩:=mayC_iff.1 a
   unfold lBase at e
   rcases h3 with e' | e' | e' | e' | e' <;> rw [e'] at e <;> omega
theorem park_slot {c:Cf} {k x:Int}:∀ w,lSlot c k x≠-1→lSlot c k x≠lPark c w:=by
 intro w h e
 cases hk:lHas c k with
 | false=>simp [lSlot,hk] at h
 | true=>
  cases hw:lHas c w with
  | false=>rw [park_no hw] at e; exact h e
  | true=>
   rw [park_has hw] at e
   simp only [lSlot,hk,if_true] at e
   obtain ⟨a,b,d⟩:=lHas_iff.1 hw
   obtain ⟨_,b',d'⟩:=lHas_iff.1 hk
   obtain ⟨h1,h2,h3,h4,h5,h6,h7⟩:=mayC_iff.1 a
   unfold lBase at e
   rcases h3 with e' | e' | e' | e' | e' <;> rw [e'] at e <;> omega
theorem park_inj {c:Cf} {k w:Int} (hk:lHas c k=true) (hw:lHas c w=true) (h:lPark c k=lPark c w):k=w:=by
 rw [park_has hk,park_has hw] at h
 obtain ⟨a,b,d⟩:=lHas_iff.1 hw
 obtain ⟨h1,h2,h3,h4,h5,h6,h7⟩:=mayC_iff.1 a
 unfold lBase at h
 rcases h3 with e' | e' | e' | e' | e' <;> rw [e'] at h <;> omega
theorem two_top {c:Cf} {k:Int}:lTop c k≠2:=by
 intro h
 cases hk:lHas c k with
 | false=>simp [lTop,hk] at h
 | true=>
  simp only [lTop,hk,if_true] at h
  obtain ⟨a,b,d⟩:=lHas_iff.1 hk
  obtain ⟨h1,h2,h3,h4,h5,h6,h7⟩:=mayC_iff.1 a
  unfold lBase at h
  rcases h3 with e' | e' | e' | e' | e' <;> rw [e'] at h <;> omega
theorem two_bottom {c:Cf} {k:Int}:lBottom c k≠2:=by
 intro h
 cases hk:lHas c k with
 | false=>simp [lBottom,hk] at h
 | true=>
  simp only [lBottom,hk,if_true] at h
  obtain ⟨a,b,d⟩:=lHas_iff.1 hk
  obtain ⟨h1,h2,h3,h4,h5,h6,h7⟩:=mayC_iff.1 a
  unfold lBase at h
  rcases h3 with e' | e' | e' | e' | e' <;> rw [e'] at h <;> omega
theorem two_slot {c:Cf} {k x:Int}:lSlot c k x≠2:=by
 intro h
 cases hk:lHas c k with
 | false=>simp [lSlot,hk] at h
 | true=>
  simp only [lSlot,hk,if_true] at h
  obtain ⟨a,b,d⟩:=lHas_iff.1 hk
  obtain ⟨h1,h2,h3,h4,h5,h6,h7⟩:=mayC_iff.1 a
  unfold lBase at h
  rcases h3 with e' | e' | e' | e' | e' <;> rw [e'] at h <;> omega
theorem seq_in {c:Cf} (hm:mayC c=true) {x:Int} (hx:InU x):6≤eSeq c x∧eSeq c x < 6 + c.i:=by
 obtain ⟨h1,h2,h3,h4,h5,h6,h7⟩:=mayC_iff.1 hm
 have a:=Int.tmod_lt_of_pos x (b:=c.i) (by omega)
 have b:=Int.tmod_nonneg c.i hx.1
 simp only [eSeq,hm,if_true]; omega
theorem val_in {c:Cf} (hm:mayC c=true) {x:Int} (hx:InU x):6≤eVal c x∧eVal c x < 6 + 2 * c.i:=by
 obtain ⟨h1,h2,h3,h4,h5,h6,h7⟩:=mayC_iff.1 hm
 have a:=Int.tmod_lt_of_pos x (b:=c.i) (by omega)
 have b:=Int.tmod_nonneg c.i hx.1
 simp only [eVal,hm,if_true]; omega
theorem dqStep_alike (c:Cf) (m:List Int) (f:Fr):Alike c m (dqStep c m f).1:=by
 unfold dqStep pStep oStep sStep
 repeat' split
 all_goals first
  | exact Alike.refl c m
  | exact alike_store two_top park_top _
  | exact alike_store two_bottom park_bottom _
  | exact alike_store two_slot park_slot _
  | exact alike_cas two_top park_top _ _
theorem iStep_alike {c:Cf} {m:List Int} {f:Fr} (hc:mayC c=true) (hf:UFr f):Alike c m (iStep c m f).1:=by
 have s1:=seq_in hc hf.x
 have v1:=val_in hc hf.x
 have ps:∀ w,eSeq c f.x≠-1→eSeq c f.x≠lPark c w:=fun w _ e=>by rcases park_low (c:=c) (w:=w) with k | k <;> omega
 have pv:∀ w,eVal c f.x≠-1→eVal c f.x≠lPark c w:=fun w _ e=>by rcases park_low (c:=c) (w:=w) with k | k <;> omega
 unfold iStep eStep qStep
 repeat' split
 all_goals first
  | exact Alike.refl c m
  | exact alike_store (by omega) ps _
  | exact alike_store (by omega) pv _
  | exact alike_cas (by decide) (park_small (by decide) (by decide)) _ _
theorem iStep_u {c:Cf} {m:List Int} {f:Fr} (h:InM m) (hf:UFr f):InM (iStep c m f).1∧UFr (iStep c m f).2:=by
 obtain ⟨v,x,y⟩:=hf
 unfold iStep eStep qStep
 repeat' split
 all_goals first
  | exact ⟨h,⟨v,x,y⟩⟩ | exact ⟨h,⟨v,load_u h _,y⟩⟩ | exact ⟨h,⟨v,x,load_u h _⟩⟩ | exact ⟨h,⟨v,u0,u0⟩⟩ | exact ⟨h,⟨u0,u0,u0⟩⟩ | exact ⟨h,⟨load_u h _,x,y⟩⟩
  | exact ⟨cas_u h _ _ (wrapU_u _),⟨v,x,y⟩⟩ | exact ⟨store_u h v,⟨v,x,y⟩⟩ | exact ⟨store_u h (wrapU_u _),⟨v,u0,u0⟩⟩
theorem add_alike (c:Cf) (m:List Int) {i:Int} (h0:0≤i) (h2:i≠2) (h:i < 10) (v:Int):Alike c m (mAdd m i v):=alike_store h2 (park_small h0 h) _
theorem add_u {m:List Int} (h:InM m) (i v:Int):InM (mAdd m i v):=store_u h (wrapU_u _)
def tb (e:Int) (w:Nat):Bool:=e.toNat.testBit w
theorem ofInt_u {e:Int} (h:InU e):(BitVec.ofInt 64 e).toNat=e.toNat:=by
 unfold InU at h
 rw [BitVec.toNat_ofInt]
 have h2:((2 ^ 64:Nat):Int)=18446744073709551616:=by decide
 rw [h2,Int.emod_eq_of_lt h.1 h.2]
theorem wAnd_nat {a b:Int} (ha:InU a) (hb:InU b):wAnd a b=((a.toNat &&& b.toNat:Nat):Int):=by
 unfold wAnd
 show wrapU ((BitVec.ofInt 64 a &&& BitVec.ofInt 64 b).toNat:Int)=_
 rw [wrapU_eq,BitVec.toNat_and,ofInt_u ha,ofInt_u hb]
 have:(a.toNat &&& b.toNat)≤a.toNat:=Nat.and_le_left
 unfold InU at ha
 omega
theorem wOr_nat {a b:Int} (ha:InU a) (hb:InU b):wOr a b=((a.toNat ||| b.toNat:Nat):Int):=by
 unfold wOr
 show wrapU ((BitVec.ofInt 64 a ||| BitVec.ofInt 64 b).toNat:Int)=_
 rw [wrapU_eq,BitVec.toNat_or,ofInt_u ha,ofInt_u hb]
 have:(a.toNat ||| b.toNat) < 2 ^ 64:=Nat.or_lt_two_pow (by unfold InU at ha; omega) (by unfold InU at hb; omega)
 omega
theorem wAnd_u {a b:Int} (ha:InU a) (hb:InU b):InU (wAnd a b):=by
 rw [wAnd_nat ha hb]
 have:(a.toNat &&& b.toNat)≤a.toNat:=Nat.and_le_left
 unfold InU at *
 omega
theorem wOr_u (a b:Int):InU (wOr a b):=wrapU_u _
theorem tb_and {a b:Int} (ha:InU a) (hb:InU b) (w:Nat):tb (wAnd a b) w=(tb a w && tb b w):=by
 rw [wAnd_nat ha hb]; simp [tb]
theorem tb_or {a b:Int} (ha:InU a) (hb:InU b) (w:Nat):tb (wOr a b) w=(tb a w || tb b w):=by
 rw [wOr_nat ha hb]; simp [tb]
theorem u65535:InU 65535:=⟨by decide,by decide⟩
theorem tb_mask {e:Int} (h:InU e) (w:Nat):tb (wMask e) w=(tb e w && decide (w < 16)):=by
 unfold wMask
 rw [tb_and h u65535]
 congr 1
 show Nat.testBit 65535 w=_
 rw [show (65535:Nat)=2 ^ 16 - 1 from rfl,Nat.testBit_two_pow_sub_one]
theorem mask_lt {e:Int} (h:InU e):0≤wMask e∧wMask e < 65536:=by
 unfold wMask
 rw [wAnd_nat h u65535]
 have:(e.toNat &&& (65535:Int).toNat)≤65535:=Nat.and_le_right
 omega
theorem wShl_pow {w:Nat} (h:w < 16):wShl 1 w=((2 ^ w:Nat):Int):=by
 have:w=0∨w=1∨w=2∨w=3∨w=4∨w=5∨w=6∨w=7∨w=8∨w=9∨w=10∨w=11∨w=12∨w=13∨w=14∨w=15:=by omega
 rcases this with rfl | rfl | rfl | rfl | rfl | rfl | rfl | rfl | rfl | rfl | rfl | rfl | rfl | rfl | rfl | rfl <;> rfl
theorem pow_u {w:Nat} (h:w < 16):InU ((2 ^ w:Nat):Int):=by
 have:2 ^ w≤2 ^ 16:=Nat.pow_le_pow_right (by decide) (by omega)
 exact ⟨Int.natCast_nonneg _,Int.ofNat_lt.2 (Nat.lt_of_le_of_lt this (by decide))⟩
theorem wset_u {e:Int} (h:InU e) (w:Int):InU (wSet e w):=by
 unfold wSet; split
 ·exact wOr_u _ _
 ·exact h
theorem tb_set {e:Int} (h:InU e) {k:Nat} (hk:k < 16) (w:Nat):tb (wSet e k) w=(tb e w || decide (w=k)):=by
 unfold wSet
 rw [if_pos (by omega),wShl_pow hk,tb_or h (pow_u hk)]
 congr 1
 unfold tb
 rw [Int.toNat_natCast,Nat.testBit_two_pow]
 simp [eq_comm]
theorem wBit_tb {e:Int} (h:InU e) {w:Nat} (hw:w < 64):wBit e w=tb e w:=by
 unfold wBit wShr tb
 have hmin:min (w:Int).toNat IntKind.u64.bits=w:=by
  have:IntKind.u64.bits=64:=rfl
  rw [this,Int.toNat_natCast]; omega
 rw [hmin]
 obtain ⟨n,rfl⟩:∃ n:Nat,e=(n:Int):=⟨e.toNat,by unfold InU at h; omega⟩
 have h1:((n:Int).fdiv (2 ^ w))=((n / 2 ^ w:Nat):Int):=by
  have h0:((2:Int) ^ w)=((2 ^ w:Nat):Int):=by simp
  rw [h0,Int.fdiv_eq_ediv_of_nonneg _ (Int.natCast_nonneg _)]
  exact (Int.natCast_ediv n (2 ^ w)).symm
 rw [h1]
 have hu:InU ((n / 2 ^ w:Nat):Int):=by
  have h3:n / 2 ^ w≤n:=Nat.div_le_self _ _
  exact ⟨Int.natCast_nonneg _,Int.lt_of_le_of_lt (Int.ofNat_le.2 h3) h.2⟩
 rw [wAnd_nat hu ⟨by decide,by decide⟩]
 simp only [Int.toNat_natCast,Nat.testBit,Nat.shiftRight_eq_div_pow]
 rw [Nat.and_comm]
 have e1:(1:Int).toNat=1:=rfl
 rw [e1]
 rw [Bool.eq_iff_iff]
 simp only [beq_iff_eq,bne_iff_ne,ne_eq]
 have h2:(1 &&& (n / 2 ^ w))=(n / 2 ^ w) % 2:=Nat.one_and_eq_mod_two _
 rw [h2]
 omega
theorem clear_low:∀ (i x:Nat),x.testBit i=true→(∀ j,j < i→x.testBit j=false)→∀ k,(x &&& (x - 1)).testBit k=(x.testBit k && decide (k≠i))
 | 0,x,h,_,k=>by
  have hx:x % 2=1:=by simpa [Nat.testBit_zero] using h
  cases k with
  | zero=>
   rw [Nat.testBit_and]
   simp only [Nat.testBit_zero]
   have:(x - 1) % 2=0:=by omega
   simp [this]
  | succ k=>
   rw [Nat.testBit_and]
   have:(x - 1).testBit (k + 1)=x.testBit (k + 1):=by
    rw [Nat.testBit_succ,Nat.testBit_succ]
    congr 1; omega
   rw [this]; simp
 | i + 1,x,h,hl,k=>by
  have h0:=hl 0 (by omega)
  have hx:x % 2=0:=by
   have:¬ x % 2=1:=by simpa [Nat.testBit_zero] using h0
   omega
  have hpos:0 < x / 2:=by
   rw [Nat.testBit_succ] at h
   rcases Nat.eq_zero_or_pos (x / 2) with e | e
   ·rw [e] at h; simp at h
   ·exact e
  have ih:=clear_low i (x / 2) (by rw [← Nat.testBit_succ]; exact h) (fun j hj=>by rw [← Nat.testBit_succ]; exact hl (j + 1) (by omega))
  cases k with
  | zero=>
   rw [Nat.testBit_and,h0]; simp
  | succ k=>
   have:=ih k
   rw [Nat.testBit_and] at this ⊢
   rw [Nat.testBit_succ,Nat.testBit_succ (x:=x - 1)]
   have e:(x - 1) / 2=x / 2 - 1:=by omega
   rw [e,this]
   simp
theorem low_lt {e:Int} (h:InU e):(wLow e=-1∧∀ j,j < 16→tb e j=false)∨∃ i:Nat,i < 16∧wLow e=i∧tb e i=true∧∀ j,j < i→tb e j=false:=by
 by_cases hn:∀ j,j < 16→tb e j=false
 ·exact .inl ⟨low_none fun j hj=>by rw [wBit_tb h (by omega)]; exact hn j hj,hn⟩
 ·refine .inr ?_
  have:∃ j,j < 16∧tb e j=true:=by
   by_cases q:∃ j,j < 16∧tb e j=true
   ·exact q
   ·exact absurd (fun j hj=>by
     cases hh:tb e j with
     | false=>rfl
     | true=>exact absurd ⟨j,hj,hh⟩ q) hn
  obtain ⟨i,hi⟩:∃ i,(i < 16∧tb e i=true)∧∀ j,j < i→¬ (j < 16∧tb e j=true):=by
   have hsp:=leastOf_spec (p:=fun j=>j < 16∧tb e j=true) this
   exact ⟨_,hsp.1,fun k hk hc=>by have:=hsp.2 k hc; omega⟩
  have hlow:∀ j,j < i→tb e j=false:=fun j hj=>by
   have:=hi.2 j hj
   cases hh:tb e j with
   | false=>rfl
   | true=>exact absurd ⟨by omega,hh⟩ this
  exact ⟨i,hi.1.1,low_at hi.1.1 (by rw [wBit_tb h (by omega)]; exact hi.1.2) fun j hj=>by rw [wBit_tb h (by omega)]; exact hlow j hj,hi.1.2,hlow⟩
theorem tb_shl16 {p:Int} {w:Nat} (hw:w < 16):tb (wShl p 16) w=false:=by
 unfold wShl tb
 show (wrapU (p * 2 ^ (min (16:Int).toNat 64))).toNat.testBit w=false
 rw [wrapU_eq]
 have e:min (16:Int).toNat 64=16:=rfl
 rw [e]
 obtain ⟨n,hn⟩:∃ n:Nat,(p * 2 ^ 16 % 18446744073709551616).toNat=2 ^ 16 * n:=by
  refine ⟨(p * 2 ^ 16 % 18446744073709551616).toNat / 65536,?_⟩
  have:(p * 2 ^ 16 % 18446744073709551616) % 65536=0:=by omega
  omega
 rw [hn,Nat.testBit_two_pow_mul]
 simp; omega
theorem bump_u (e:Int):InU (wBump e):=wOr_u _ _
theorem shl_u (p:Int):InU (wShl p 16):=wrapU_u _
theorem tb_bump {e:Int} (h:InU e) {w:Nat} (hw:w < 16):tb (wBump e) w=(tb e w && decide ((w:Int)≠wLow (wMask e))):=by
 have hm:=mask_lt h
 have um:InU (wMask e):=by unfold InU; omega
 have hm1:InU (wrapU (wMask e - 1)):=wrapU_u _
 unfold wBump wPack
 have ha:InU (wAnd (wMask e) (wrapU (wMask e - 1))):=wAnd_u um hm1
 rw [tb_or (shl_u _) (wAnd_u ha u65535),tb_shl16 hw,Bool.false_or]
 have e2:tb (wAnd (wAnd (wMask e) (wrapU (wMask e - 1))) 65535) w=tb (wAnd (wMask e) (wrapU (wMask e - 1))) w:=by
  have:=tb_mask ha w
  unfold wMask at this
  unfold wMask
  rw [this]; simp [hw]
 rw [e2]
 have emw:tb (wMask e) w=tb e w:=by rw [tb_mask h]; simp [hw]
 rcases low_lt um with ⟨l1,l2⟩ | ⟨i,hi,l1,l2,l3⟩
 ·rw [tb_and um hm1,l2 w hw,← emw,l2 w hw]; rfl
 ·have hpos:0 < wMask e:=by
   rcases Int.lt_or_eq_of_le hm.1 with q | q
   ·exact q
   ·rw [← q] at l2; simp [tb] at l2
  have e3:wrapU (wMask e - 1)=wMask e - 1:=by rw [wrapU_eq]; omega
  rw [e3] at hm1 ⊢
  rw [wAnd_nat um hm1,← emw,l1]
  have e4:(wMask e - 1).toNat=(wMask e).toNat - 1:=by omega
  rw [e4]
  unfold tb
  rw [Int.toNat_natCast,clear_low i _ l2 l3 w]
  congr 1
  simp only [ne_eq,decide_eq_decide]
  omega
end Go.Vai

/- Signs: of each worker who has committed himself there is one sign, of each other one there is none. What a step does to them. -/
namespace Go.Vai
open Go.RowKit
set_option maxHeartbeats 2000000
def hd (f:Fr) (w:Nat):Bool:=decide (f.pc=2∧f.y=w)
def wW (x:Wk) (w:Nat):Bool:=decide (x.pc=14) && hd x.f w
def wS (x:Sb) (w:Nat):Bool:=decide (x.pc=4) && hd x.f w
def com (x:Wk):Bool:=decide (x.pc=8∧x.f.pc ≥ 3)
def parked (c:Cf) (m:List Int) (w:Int):Bool:=decide (mLoad m (lPark c w)≠0)
def sgM (c:Cf) (m:List Int) (w:Nat):Nat:=(tb (mLoad m 2) w).toNat + (parked c m w).toNat
theorem Alike.sg {c:Cf} {m m':List Int} (h:Alike c m m') (w:Nat):sgM c m' w=sgM c m w:=by unfold sgM parked; rw [h.two,h.park]
structure NI (c:Cf) (f:Fr):Prop where
 op:f.op=6
 res:f.res=0
 lo:0≤f.pc
 hi:f.pc≤2
 y:f.pc=2→0≤f.y∧f.y < c.w
structure MI (c:Cf) (m:List Int):Prop where
 may:mayC c=true
 len:(m.length:Int)=lSize c
 u:InM m
 hi:∀ w:Nat,w < 16→c.w≤w→tb (mLoad m 2) w=false
theorem MI.alike {c:Cf} {m m':List Int} (h:MI c m) (a:Alike c m m') (u:InM m'):MI c m':=
 ⟨h.may,by rw [a.len]; exact h.len,u,fun w h1 h2=>by rw [a.two]; exact h.hi w h1 h2⟩
theorem MI.in2 {c:Cf} {m:List Int} (h:MI c m):isIn m 2=true:=by
 have:Lay c m 0:=⟨h.may,h.len,Int.le_refl _,by have:=mayC_iff.1 h.may; omega⟩
 have:=this.base
 have hd:=(mayC_iff.1 h.may).2.2.1
 simp [isIn]; omega
theorem MI.has {c:Cf} {m:List Int} (h:MI c m) {w:Int} (h0:0≤w) (h1:w < c.w):lHas c w=true:=lHas_iff.2 ⟨h.may,h0,h1⟩
theorem MI.inP {c:Cf} {m:List Int} (h:MI c m) {w:Int} (h0:0≤w) (h1:w < c.w):isIn m (lPark c w)=true:=by
 have l:Lay c m w:=⟨h.may,h.len,h0,h1⟩
 have:=l.base
 have hd:=l.dpos
 rw [park_has l.has]
 simp [isIn]; omega
theorem MI.w8 {c:Cf} {m:List Int} (h:MI c m):c.w≤8:=(mayC_iff.1 h.may).2.1
structure NoOk (c:Cf) (m:List Int) (f:Fr) (m':List Int) (f':Fr):Prop where
 mi:MI c m'
 u:UFr f'
 ni:f'.res=0→NI c f'
 sg:∀ w:Nat,(w:Int) < c.w→sgM c m' w + (decide (f'.res=0) && hd f' w).toNat=sgM c m w + (hd f w).toNat
 pk:∀ w:Nat,(w:Int) < c.w→parked c m w=true→parked c m' w=true
theorem goesN_of {c:Cf} {m:List Int} {f:Fr} (h:MI c m) (n:NI c f):goesN c m f=true:=by
 simp [goesN,h.may,h.len,n.res,n.lo,n.hi]
theorem hd_pc {f:Fr} (h:f.pc≠2) (w:Nat):hd f w=false:=by simp [hd,h]
theorem noOk {c:Cf} {m:List Int} {f:Fr} (h:MI c m) (n:NI c f) (hu:UFr f) (h1:∀ w:Nat,(w:Int) < c.w→sgM c m w + (hd f w).toNat≤1):NoOk c m f (noStep c m f).1 (noStep c m f).2:=by
 have hg:=goesN_of h n
 obtain ⟨hv,hx,hy⟩:=hu
 unfold noStep
 rw [if_pos hg]
 by_cases p0:f.pc=0
 ·rw [if_pos p0]
  refine ⟨h,⟨hv,load_u h.u _,hy⟩,fun _=>⟨n.op,n.res,by simp,by simp,fun q=>by simp at q⟩,fun w hw=>?_,fun w _ q=>q⟩
  dsimp only
  rw [hd_pc (f:=⟨f.op,1,f.who,f.val,mLoad m 2,f.y,f.res⟩) (by simp),hd_pc (f:=f) (by omega)]
  simp
 rw [if_neg p0]
 by_cases p1:f.pc=1
 ·rw [if_pos p1]
  cases hc:mCasB m 2 f.x with
  | false=>
   rw [if_neg (by simp),cas_not hc]
   refine ⟨h,⟨hv,hx,hy⟩,fun _=>⟨n.op,n.res,by simp,by simp,fun q=>by simp at q⟩,fun w hw=>?_,fun w _ q=>q⟩
   dsimp only
   rw [hd_pc (f:=⟨f.op,0,f.who,f.val,f.x,f.y,f.res⟩) (by simp),hd_pc (f:=f) (by omega)]
   simp
  | true=>
   rw [if_pos rfl,cas_store hc]
   have he:mLoad m 2=f.x:=by
    have:=hc
    simp only [mCasB,Bool.and_eq_true,beq_iff_eq] at this
    exact this.2
   have h2:mLoad (mStore m 2 (wBump f.x)) 2=wBump f.x:=load_store h.in2 _
   have hp:∀ w:Int,mLoad (mStore m 2 (wBump f.x)) (lPark c w)=mLoad m (lPark c w):=fun w=>load_other (by rcases park_low (c:=c) (w:=w) with k | k <;> omega) _
   have hw8:=h.w8
   have mi:MI c (mStore m 2 (wBump f.x)):=⟨h.may,by rw [len_store]; exact h.len,store_u h.u (bump_u _),fun w a b=>by
    rw [h2,tb_bump hx a,← he,h.hi w a b]; rfl⟩
   have um:=mask_lt hx
   have umu:InU (wMask f.x):=by unfold InU; omega
   by_cases hz:wMask f.x=0
   ·rw [if_pos hz]
    refine ⟨mi,⟨u0,u0,u0⟩,fun q=>by simp at q,fun w hw=>?_,fun w hw q=>?_⟩
    ·have e:hd f w=false:=hd_pc (by omega) w
     rw [e]
     unfold sgM parked
     rw [h2,hp,tb_bump hx (by omega),he]
     have:tb f.x w=false:=by
      have:=tb_mask hx w
      rw [hz] at this
      have h0:tb 0 w=false:=by simp [tb]
      rw [h0] at this
      have hw16:decide (w < 16)=true:=by simp; omega
      rw [hw16,Bool.and_true] at this
      exact this.symm
     rw [this]; simp
    ·unfold parked at *; rw [hp]; exact q
   ·rw [if_neg hz]
    obtain ⟨i,hi,hlow,htb,hlo⟩:∃ i:Nat,i < 16∧wLow (wMask f.x)=i∧tb (wMask f.x) i=true∧∀ j,j < i→tb (wMask f.x) j=false:=by
     rcases low_lt umu with ⟨_,q⟩ | q
     ·exfalso
      apply hz
      have:(wMask f.x).toNat=0:=by
       apply Nat.eq_of_testBit_eq
       intro j
       rw [Nat.zero_testBit]
       by_cases hj:j < 16
       ·exact q j hj
       ·have:=tb_mask hx j
        unfold tb at this
        rw [this]; simp; omega
      omega
     ·exact q
    have hti:tb f.x i=true:=by
     have:=tb_mask hx i
     rw [htb] at this
     cases hh:tb f.x i with
     | true=>rfl
     | false=>rw [hh] at this; simp at this
    have hiw:(i:Int) < c.w:=by
     by_cases q:(i:Int) < c.w
     ·exact q
     ·have:=h.hi i hi (by omega)
      rw [he,hti] at this; cases this
    have hn:nLow f.x=i:=by
     unfold nLow
     rw [hlow,if_neg (by omega)]
     show wrapU _=_
     rw [wrapU_eq]; omega
    rw [hn]
    refine ⟨mi,⟨hv,hx,by unfold InU; dsimp only; omega⟩,fun _=>⟨n.op,n.res,by simp,by simp,fun _=>by dsimp only; omega⟩,fun w hw=>?_,fun w hw q=>?_⟩
    ·have e:hd f w=false:=hd_pc (by omega) w
     have e2:(decide (f.res=0) && hd ⟨f.op,2,f.who,f.val,f.x,(i:Int),f.res⟩ w)=decide (w=i):=by
      rw [n.res]
      simp [hd]
      omega
     dsimp only
     rw [e,e2]
     unfold sgM parked
     rw [h2,hp,tb_bump hx (by omega),he,hlow]
     by_cases q:w=i
     ·subst q
      rw [hti]
      have:decide ((w:Int)≠(w:Int))=false:=by simp
      rw [this]; simp; omega
     ·have:decide ((w:Int)≠(i:Int))=true:=by simp; omega
      rw [this]; simp [q]
    ·unfold parked at *; rw [hp]; exact q
 rw [if_neg p1]
 have p2:f.pc=2:=by have:=n.lo; have:=n.hi; omega
 obtain ⟨y0,y1⟩:=n.y p2
 have hw8:=h.w8
 have hn:nWho f.y=f.y:=by
  unfold nWho
  rw [if_pos (by omega),wrap_i (by omega) (by omega)]
 rw [hn]
 obtain ⟨k,hk⟩:∃ k:Nat,f.y=(k:Int):=⟨f.y.toNat,by omega⟩
 rw [hk] at y0 y1 ⊢
 have h2:mLoad (mStore m (lPark c k) 1) 2=mLoad m 2:=load_other (by rcases park_low (c:=c) (w:=k) with q | q <;> omega) _
 have hs:mLoad (mStore m (lPark c k) 1) (lPark c k)=1:=load_store (h.inP y0 y1) _
 have ho:∀ w:Nat,(w:Int) < c.w→w≠k→mLoad (mStore m (lPark c k) 1) (lPark c w)=mLoad m (lPark c w):=fun w hw q=>load_other (fun e=>q (by
  have:=park_inj (h.has y0 y1) (h.has (w:=w) (by omega) hw) e; omega)) _
 refine ⟨⟨h.may,by rw [len_store]; exact h.len,store_u h.u ⟨by decide,by decide⟩,fun w a b=>by rw [h2]; exact h.hi w a b⟩,⟨by unfold InU; dsimp only; omega,u0,u0⟩,fun q=>by simp at q,fun w hw=>?_,fun w hw q=>?_⟩
 ·have hh:=h1 w hw
  have e:hd f w=decide (w=k):=by
   simp [hd,p2,hk]; omega
  rw [e] at hh ⊢
  dsimp only
  unfold sgM parked at *
  rw [h2]
  by_cases q:w=k
  ·subst q
   rw [hs]
   simp at hh ⊢
   omega
  ·rw [ho w hw q]
   simp [q]
 ·unfold parked at *
  by_cases e:w=k
  ·subst e; rw [hs]; simp
  ·rw [ho w hw e]; exact q
structure WI (c:Cf) (i:Nat) (x:Wk):Prop where
 u:UFr x.f
 op:opOk x
 p5:x.pc=5∨x.pc=6∨x.pc=7→0≤x.f.pc∧x.f.pc≤1∧x.f.res=0∧x.f.who=i
 p55:x.pc=5→x.f.pc=0
 p8:x.pc=8→0≤x.f.pc∧x.f.pc≤4∧x.f.res=0∧x.f.who=i
 p14:x.pc=14→NI c x.f
structure WOk (c:Cf) (i:Nat) (m:List Int) (x:Wk) (m':List Int) (x':Wk):Prop where
 mi:MI c m'
 wi:WI c i x'
 other:∀ w:Nat,(w:Int) < c.w→w≠i→sgM c m' w + (wW x' w).toNat=sgM c m w + (wW x w).toNat
 self:sgM c m' i + (wW x' i).toNat + (com x).toNat=sgM c m i + (wW x i).toNat + (com x').toNat
 pk:∀ w:Nat,(w:Int) < c.w→w≠i→parked c m w=true→parked c m' w=true
 mine:x'.pc=8→x'.f.pc=4→parked c m' i=true
theorem wW_not {x:Wk} (h:x.pc≠14∨x.f.pc≠2) (w:Nat):wW x w=false:=by
 rcases h with h | h
 ·simp [wW,h]
 ·simp [wW,hd_pc h]
theorem com_not {x:Wk} (h:x.pc≠8∨x.f.pc < 3):com x=false:=by
 rcases h with h | h
 ·simp [com,h]
 ·simp [com]; omega
theorem WI.easy {c:Cf} {i:Nat} {x:Wk} (u:UFr x.f) (op:opOk x) (h5:x.pc≠5) (h6:x.pc≠6) (h7:x.pc≠7) (h8:x.pc≠8) (h14:x.pc≠14):WI c i x:=
 ⟨u,op,fun h=>by omega,fun h=>by omega,fun h=>by omega,fun h=>by omega⟩
theorem quiet {c:Cf} {i:Nat} {m m':List Int} {x x':Wk} (h:MI c m) (a:Alike c m m') (u:InM m') (wi:WI c i x') (n:x.pc≠14∨x.f.pc≠2) (n':x'.pc≠14∨x'.f.pc≠2) (k:x.pc≠8∨x.f.pc < 3) (k':x'.pc≠8∨x'.f.pc < 3) :
  WOk c i m x m' x' where
 mi:=h.alike a u
 wi:=wi
 other:=fun w _ _=>by rw [a.sg,wW_not n,wW_not n']
 self:=by rw [a.sg,wW_not n,wW_not n',com_not k,com_not k']
 pk:=fun w _ _ q=>by unfold parked at *; rw [a.park]; exact q
 mine:=fun h1 h2=>by rcases k' with k' | k' <;> omega
structure WH (c:Cf) (i:Nat) (m:List Int) (x:Wk):Prop where
 mi:MI c m
 wi:WI c i x
 iw:(i:Int) < c.w
 one:∀ w:Nat,(w:Int) < c.w→sgM c m w + (wW x w).toNat≤1
 mine:sgM c m i + (wW x i).toNat≤(com x).toNat
 pk:x.pc=8→x.f.pc=4→parked c m i=true
theorem wOk8 {c:Cf} {t:List Tk} {i:Nat} {m:List Int} {x:Wk} (d:Int) (h:WH c i m x) (hp:x.pc=8):WOk c i m x (wq8 c t m i x d).1 (wq8 c t m i x d).2.1:=by
 obtain ⟨b1,b2,b3,b4⟩:=h.wi.p8 hp
 have bop:x.f.op=5:=h.wi.op.2.2.2.2.2.2.1 hp
 have hl:Lay c m x.f.who:=⟨h.mi.may,h.mi.len,by omega,by rw [b4]; exact h.iw⟩
 have hg:goes c m x.f 5 5=true:=goes_iff.2 ⟨hl,b3,bop,b1,by omega⟩
 obtain ⟨uv,ux,uy⟩:=h.wi.u
 have hne:x.pc≠14∨x.f.pc≠2:=.inl (by omega)
 have hww:∀ w,wW x w=false:=wW_not hne
 unfold wq8 evStep
 rw [if_pos bop]
 dsimp only
 unfold waStep
 rw [if_pos hg]
 have e1:UFr (toW x 1).f:=⟨u0,u0,u0⟩
 have toq:∀ {m':List Int},WI c i (toW x 1):=fun {_}=>WI.easy e1 (by simp [opOk,toW]) (by simp [toW]) (by simp [toW]) (by simp [toW]) (by simp [toW]) (by simp [toW])
 by_cases p0:x.f.pc=0
 ·rw [if_pos p0]
  dsimp only
  rw [if_pos b3]
  refine quiet h.mi (Alike.refl c m) h.mi.u ⟨⟨uv,load_u h.mi.u _,uy⟩,opOk_same rfl rfl h.wi.op,fun q=>by simp [atF] at q; omega,fun q=>by simp [atF] at q; omega,fun _=>⟨by simp [atF],by simp [atF],b3,b4⟩,fun q=>by simp [atF] at q; omega⟩ hne (.inl (by simp [atF]; omega)) (.inr (by omega)) (.inr (by simp [atF]))
 rw [if_neg p0]
 by_cases p1:x.f.pc=1
 ·rw [if_pos p1]
  dsimp only
  by_cases he:wEpoch (mLoad m 2)=wEpoch x.f.x
  ·rw [if_pos he]
   dsimp only
   rw [if_pos b3]
   refine quiet h.mi (Alike.refl c m) h.mi.u ⟨⟨uv,ux,load_u h.mi.u _⟩,opOk_same rfl rfl h.wi.op,fun q=>by simp [atF] at q; omega,fun q=>by simp [atF] at q; omega,fun _=>⟨by simp [atF],by simp [atF],b3,b4⟩,fun q=>by simp [atF] at q; omega⟩ hne (.inl (by simp [atF]; omega)) (.inr (by omega)) (.inr (by simp [atF]))
  ·rw [if_neg he]
   dsimp only
   rw [if_neg (by decide)]
   exact quiet h.mi (Alike.refl c m) h.mi.u (toq (m':=m)) hne (.inl (by simp [toW])) (.inr (by omega)) (.inl (by simp [toW]))
 rw [if_neg p1]
 by_cases p2:x.f.pc=2
 ·rw [if_pos p2]
  dsimp only
  rw [if_pos b3]
  cases hc:mCasB m 2 x.f.y with
  | false=>
   rw [if_neg (by simp),cas_not hc]
   refine quiet h.mi (Alike.refl c m) h.mi.u ⟨⟨uv,ux,uy⟩,opOk_same rfl rfl h.wi.op,fun q=>by simp [atF] at q; omega,fun q=>by simp [atF] at q; omega,fun _=>⟨by simp [atF],by simp [atF],b3,b4⟩,fun q=>by simp [atF] at q; omega⟩ hne (.inl (by simp [atF]; omega)) (.inr (by omega)) (.inr (by simp [atF]))
  | true=>
   rw [if_pos rfl,cas_store hc,b4]
   have he:mLoad m 2=x.f.y:=by
    have:=hc
    simp only [mCasB,Bool.and_eq_true,beq_iff_eq] at this
    exact this.2
   have h2:mLoad (mStore m 2 (wSet x.f.y i)) 2=wSet x.f.y i:=load_store h.mi.in2 _
   have hpp:∀ w:Int,mLoad (mStore m 2 (wSet x.f.y i)) (lPark c w)=mLoad m (lPark c w):=fun w=>load_other (by rcases park_low (c:=c) (w:=w) with k | k <;> omega) _
   have hw8:=h.mi.w8
   have hi8:=h.iw
   have hc0:com x=false:=com_not (.inr (by omega))
   have hm0:=h.mine
   rw [hc0,hww] at hm0
   refine ⟨⟨h.mi.may,by rw [len_store]; exact h.mi.len,store_u h.mi.u (wset_u uy _),fun w a b=>?_⟩,⟨⟨uv,ux,uy⟩,opOk_same rfl rfl h.wi.op,fun q=>by simp [atF] at q; omega,fun q=>by simp [atF] at q; omega,fun _=>⟨by simp [atF],by simp [atF],b3,by simp [atF]⟩,fun q=>by simp [atF] at q; omega⟩,fun w hw hne'=>?_,?_,fun w hw hne' q=>?_,fun _ q=>by simp [atF] at q⟩
   ·rw [h2,tb_set uy (by omega),← he,h.mi.hi w a b]
    simp; omega
   ·rw [wW_not (.inl (by simp [atF]; omega)),hww]
    unfold sgM parked
    rw [h2,hpp,tb_set uy (by omega),he]
    simp [hne']
   ·rw [wW_not (.inl (by simp [atF]; omega)),hww,hc0]
    have hcx:com (atF x ⟨x.f.op,3,i,x.f.val,x.f.x,x.f.y,x.f.res⟩)=true:=by simp [com,atF,hp]
    rw [hcx]
    unfold sgM parked at *
    rw [h2,hpp,tb_set uy (by omega)]
    simp at hm0 ⊢
    simp [hm0]
   ·unfold parked at *; rw [hpp]; exact q
 rw [if_neg p2]
 by_cases p3:x.f.pc=3
 ·rw [if_pos p3]
  dsimp only
  rw [if_pos b3]
  have hc1:com x=true:=by simp [com,hp,p3]
  by_cases hk:mLoad m (lPark c x.f.who)=0
  ·rw [if_pos hk]
   refine ⟨h.mi,⟨⟨uv,ux,load_u h.mi.u _⟩,opOk_same rfl rfl h.wi.op,fun q=>by simp [atF] at q; omega,fun q=>by simp [atF] at q; omega,fun _=>⟨by simp [atF],by simp [atF],b3,b4⟩,fun q=>by simp [atF] at q; omega⟩,fun w hw hne'=>?_,?_,fun w hw hne' q=>q,fun _ q=>by simp [atF] at q⟩
   ·rw [wW_not (.inl (by simp [atF]; omega)),hww]
   ·rw [wW_not (.inl (by simp [atF]; omega)),hww,hc1]
    have hcx:com (atF x ⟨x.f.op,3,x.f.who,x.f.val,x.f.x,mLoad m (lPark c x.f.who),x.f.res⟩)=true:=by simp [com,atF,hp]
    rw [hcx]
  ·rw [if_neg hk]
   refine ⟨h.mi,⟨⟨uv,ux,load_u h.mi.u _⟩,opOk_same rfl rfl h.wi.op,fun q=>by simp [atF] at q; omega,fun q=>by simp [atF] at q; omega,fun _=>⟨by simp [atF],by simp [atF],b3,b4⟩,fun q=>by simp [atF] at q; omega⟩,fun w hw hne'=>?_,?_,fun w hw hne' q=>q,fun _ _=>?_⟩
   ·rw [wW_not (.inl (by simp [atF]; omega)),hww]
   ·rw [wW_not (.inl (by simp [atF]; omega)),hww,hc1]
    have hcx:com (atF x ⟨x.f.op,4,x.f.who,x.f.val,x.f.x,mLoad m (lPark c x.f.who),x.f.res⟩)=true:=by simp [com,atF,hp]
    rw [hcx]
   ·rw [b4] at hk; simp [parked,hk]
 rw [if_neg p3]
 have p4:x.f.pc=4:=by omega
 dsimp only
 rw [if_neg (by decide)]
 have hc1:com x=true:=by simp [com,hp,p4]
 have hpk:=h.pk hp p4
 have hm0:=h.mine
 have h1i:=h.one i h.iw
 rw [b4]
 have hi0:(0:Int)≤(i:Int):=by omega
 have h2:mLoad (mStore m (lPark c i) 0) 2=mLoad m 2:=load_other (by rcases park_low (c:=c) (w:=i) with q | q <;> omega) _
 have hs:mLoad (mStore m (lPark c i) 0) (lPark c i)=0:=load_store (h.mi.inP hi0 h.iw) _
 have ho:∀ w:Nat,(w:Int) < c.w→w≠i→mLoad (mStore m (lPark c i) 0) (lPark c w)=mLoad m (lPark c w):=fun w hw q=>load_other (fun e=>q (by
  have:=park_inj (h.mi.has hi0 h.iw) (h.mi.has (w:=w) (by omega) hw) e; omega)) _
 refine ⟨⟨h.mi.may,by rw [len_store]; exact h.mi.len,store_u h.mi.u u0,fun w a b=>by rw [h2]; exact h.mi.hi w a b⟩,toq (m':=m),fun w hw hne'=>?_,?_,fun w hw hne' q=>?_,fun q=>by simp [toW] at q⟩
 ·rw [wW_not (.inl (by simp [toW])),hww]
  unfold sgM parked
  rw [h2,ho w hw hne']
 ·rw [wW_not (.inl (by simp [toW])),hww,hc1,com_not (x:=toW x 1) (.inl (by simp [toW]))]
  rw [hww,hc1] at hm0
  unfold sgM at *
  rw [hpk] at hm0
  have:parked c (mStore m (lPark c i) 0) i=false:=by unfold parked; rw [hs]; simp
  rw [this,h2,hpk]
  simp at hm0 ⊢
 ·unfold parked at *; rw [ho w hw hne']; exact q
theorem wOk14 {c:Cf} {t:List Tk} {i:Nat} {m:List Int} {x:Wk} (d:Int) (h:WH c i m x) (hp:x.pc=14):WOk c i m x (wq14 c t m i x d).1 (wq14 c t m i x d).2.1:=by
 have hn:=h.wi.p14 hp
 have hwx:∀ w,wW x w=hd x.f w:=fun w=>by simp [wW,hp]
 obtain ⟨k1,k2,k3,k4,k5⟩:=noOk h.mi hn h.wi.u (fun w hw=>by have:=h.one w hw; rw [hwx] at this; exact this)
 have hcx:com x=false:=com_not (.inl (by omega))
 unfold wq14 evStep
 have e5:¬ x.f.op=5:=by rw [hn.op]; decide
 rw [if_neg e5,if_pos hn.op]
 dsimp only
 by_cases hr:(noStep c m x.f).2.res=0
 ·rw [if_pos hr]
  have hcx':com (atF x (noStep c m x.f).2)=false:=com_not (.inl (by simp [atF]; omega))
  have hw':∀ w,wW (atF x (noStep c m x.f).2) w=(decide ((noStep c m x.f).2.res=0) && hd (noStep c m x.f).2 w):=fun w=>by simp [wW,atF,hp,hr]
  have hni:=k3 hr
  refine ⟨k1,⟨k2,opOk_same rfl (by rw [hni.op,hn.op]) h.wi.op,fun q=>by simp [atF] at q; omega,fun q=>by simp [atF] at q; omega,fun q=>by simp [atF] at q; omega,fun _=>hni⟩,fun w hw _=>?_,?_,fun w hw _ q=>k5 w hw q,fun q=>by simp [atF] at q; omega⟩
  ·rw [hw',hwx]; exact k4 w hw
  ·rw [hw',hwx,hcx,hcx',k4 i h.iw]
 ·rw [if_neg hr]
  have hw':∀ w,wW (toW x 9) w=(decide ((noStep c m x.f).2.res=0) && hd (noStep c m x.f).2 w):=fun w=>by rw [wW_not (.inl (by simp [toW]))]; simp [hr]
  refine ⟨k1,WI.easy ⟨u0,u0,u0⟩ (by simp [opOk,toW]) (by simp [toW]) (by simp [toW]) (by simp [toW]) (by simp [toW]) (by simp [toW]),fun w hw _=>?_,?_,fun w hw _ q=>k5 w hw q,fun q=>by simp [toW] at q⟩
  ·rw [hw',hwx]; exact k4 w hw
  ·rw [hw',hwx,hcx,com_not (x:=toW x 9) (.inl (by simp [toW])),k4 i h.iw]
theorem fr0_u (op who v:Int) (hv:InU v):UFr ⟨op,0,who,v,0,0,0⟩:=⟨hv,u0,u0⟩
theorem wOk5 {c:Cf} {t:List Tk} {i:Nat} {m:List Int} {x:Wk} (d:Int) (h:WH c i m x) (hp:x.pc=5):WOk c i m x (wq5 c t m i x d).1 (wq5 c t m i x d).2.1:=by
 obtain ⟨b1,b2,b3,b4⟩:=h.wi.p5 (.inl hp)
 have b0:=h.wi.p55 hp
 have bop:x.f.op=5:=h.wi.op.2.2.2.1 hp
 have hl:Lay c m x.f.who:=⟨h.mi.may,h.mi.len,by omega,by rw [b4]; exact h.iw⟩
 have hg:goes c m x.f 5 5=true:=goes_iff.2 ⟨hl,b3,bop,b1,by omega⟩
 obtain ⟨uv,ux,uy⟩:=h.wi.u
 unfold wq5 evStep
 rw [if_pos bop]
 dsimp only
 unfold waStep
 rw [if_pos hg,if_pos b0]
 exact quiet h.mi (Alike.refl c m) h.mi.u ⟨⟨uv,load_u h.mi.u _,uy⟩,by simp [opOk,bop],fun _=>⟨by simp,by simp,b3,b4⟩,fun q=>by simp at q,fun q=>by simp at q,fun q=>by simp at q⟩ (.inl (by omega)) (.inl (by simp)) (.inl (by omega)) (.inl (by simp))
theorem wOk6 {c:Cf} {t:List Tk} {i:Nat} {m:List Int} {x:Wk} (d:Int) (h:WH c i m x) (hp:x.pc=6):WOk c i m x (wq6 c t m i x d).1 (wq6 c t m i x d).2.1:=by
 obtain ⟨b1,b2,b3,b4⟩:=h.wi.p5 (.inr (.inl hp))
 have bop:x.f.op=5:=h.wi.op.2.2.2.2.1 hp
 unfold wq6
 exact quiet h.mi (add_alike c m (by decide) (by decide) (by decide) _) (add_u h.mi.u _ _) ⟨h.wi.u,by simp [opOk,bop],fun _=>⟨b1,b2,b3,b4⟩,fun q=>by simp at q,fun q=>by simp at q,fun q=>by simp at q⟩ (.inl (by omega)) (.inl (by simp)) (.inl (by omega)) (.inl (by simp))
theorem againW_u {c:Cf} {m:List Int} (h:InM m) (k:Int) {v:Int} (hv:InU v):InU (againW c m k v).1:=by
 unfold againW
 repeat' split
 all_goals first | exact load_u h _ | exact hv
theorem wOk7 {c:Cf} {t:List Tk} {i:Nat} {m:List Int} {x:Wk} (d:Int) (h:WH c i m x) (hp:x.pc=7):WOk c i m x (wq7 c t m i x d).1 (wq7 c t m i x d).2.1:=by
 obtain ⟨b1,b2,b3,b4⟩:=h.wi.p5 (.inr (.inr hp))
 have bop:x.f.op=5:=h.wi.op.2.2.2.2.2.1 hp
 obtain ⟨uv,ux,uy⟩:=h.wi.u
 have ha:=againW_u (c:=c) h.mi.u x.look uv
 have to8:WOk c i m x m ⟨8,x.stack,fVal x.f 0,x.spins,0⟩:=
  quiet h.mi (Alike.refl c m) h.mi.u ⟨⟨u0,ux,uy⟩,by simp [opOk,fVal,bop],fun q=>by simp at q,fun q=>by simp at q,fun _=>⟨b1,by simp [fVal]; omega,b3,b4⟩,fun q=>by simp at q⟩ (.inl (by omega)) (.inl (by simp)) (.inl (by omega)) (.inr (by simp [fVal]; omega))
 unfold wq7
 split
 ·exact to8
 ·split
  ·exact quiet h.mi (Alike.refl c m) h.mi.u (WI.easy ⟨u0,u0,u0⟩ (by simp [opOk,toW]) (by simp [toW]) (by simp [toW]) (by simp [toW]) (by simp [toW]) (by simp [toW])) (.inl (by omega)) (.inl (by simp [toW])) (.inl (by omega)) (.inl (by simp [toW]))
  ·split
   ·exact to8
   ·exact quiet h.mi (Alike.refl c m) h.mi.u ⟨⟨ha,ux,uy⟩,by simp [opOk,fVal,bop],fun _=>⟨b1,b2,b3,b4⟩,fun q=>by simp at q,fun q=>by simp at q,fun q=>by simp at q⟩ (.inl (by omega)) (.inl (by simp)) (.inl (by omega)) (.inl (by simp))
end Go.Vai

/- Signs: what a pool's steps do to them. -/
namespace Go.Vai
open Go.RowKit
set_option maxHeartbeats 2000000
theorem easy {c:Cf} {i:Nat} {m m':List Int} {x x':Wk} (h:MI c m) (a:Alike c m m') (u:InM m') (n8:x.pc≠8) (n14:x.pc≠14) (uf:UFr x'.f) (op:opOk x')
  (h5:x'.pc≠5) (h6:x'.pc≠6) (h7:x'.pc≠7) (h8:x'.pc≠8) (h14:x'.pc≠14):WOk c i m x m' x':=
 quiet h a u (WI.easy uf op h5 h6 h7 h8 h14) (.inl n14) (.inl h14) (.inl n8) (.inl h8)
theorem to14 {c:Cf} {i:Nat} {m m':List Int} {x:Wk} {st:List It} {w sp lk:Int} (h:MI c m) (a:Alike c m m') (u:InM m') (n8:x.pc≠8) (n14:x.pc≠14):WOk c i m x m' ⟨14,st,⟨6,0,w,0,0,0,0⟩,sp,lk⟩:=
 quiet h a u ⟨fr0_u _ _ _ u0,by simp [opOk],fun q=>by simp at q,fun q=>by simp at q,fun q=>by simp at q,fun _=>⟨rfl,rfl,by simp,by simp,fun q=>by simp at q⟩⟩ (.inl n14) (.inr (by simp)) (.inl n8) (.inl (by simp))
theorem to5 {c:Cf} {i:Nat} {m m':List Int} {x:Wk} {st:List It} {sp lk:Int} (h:MI c m) (a:Alike c m m') (u:InM m') (n8:x.pc≠8) (n14:x.pc≠14):WOk c i m x m' ⟨5,st,⟨5,0,(i:Int),0,0,0,0⟩,sp,lk⟩:=
 quiet h a u ⟨fr0_u _ _ _ u0,by simp [opOk],fun q=>⟨by simp,by simp,rfl,rfl⟩,fun q=>rfl,fun q=>by simp at q,fun q=>by simp at q⟩ (.inl n14) (.inl (by simp)) (.inl n8) (.inl (by simp))
theorem wk_same {x:Wk} {f:Fr} {pc:Int} (hp:x.pc=pc):atF x f=⟨pc,x.stack,f,x.spins,x.look⟩:=by subst hp; rfl
section
variable {c : Cf} {t : List Tk} {i : Nat} {m : List Int} {x : Wk}
theorem wOk0 (d:Int) (h:WH c i m x) (hp:x.pc=0):WOk c i m x (wq0 c t m i x d).1 (wq0 c t m i x d).2.1:=by
 have ha:=dqStep_alike c m x.f
 obtain ⟨k1,k2⟩:=dqStep_u (c:=c) h.mi.u h.wi.u
 have ho:=op_dqStep c m x.f
 have hop:=h.wi.op.1 hp
 unfold wq0
 dsimp only
 repeat' split
 ·rw [wk_same hp]; exact easy h.mi ha k1 (by omega) (by omega) k2 (by simp [opOk,ho,hop]) (by simp) (by simp) (by simp) (by simp) (by simp)
 ·exact easy h.mi ha k1 (by omega) (by omega) ⟨u0,u0,u0⟩ (by simp [opOk,stW,toW]) (by simp [stW,toW]) (by simp [stW,toW]) (by simp [stW,toW]) (by simp [stW,toW]) (by simp [stW,toW])
 ·exact easy h.mi ha k1 (by omega) (by omega) ⟨u0,u0,u0⟩ (by simp [opOk,toW]) (by simp [toW]) (by simp [toW]) (by simp [toW]) (by simp [toW]) (by simp [toW])
theorem wOk1 (d:Int) (h:WH c i m x) (hp:x.pc=1):WOk c i m x (wq1 c t m i x d).1 (wq1 c t m i x d).2.1:=by
 unfold wq1
 exact easy h.mi (add_alike c m (by decide) (by decide) (by decide) _) (add_u h.mi.u _ _) (by omega) (by omega) (fr0_u _ _ _ u0) (by simp [opOk]) (by simp) (by simp) (by simp) (by simp) (by simp)
theorem wOk2 (d:Int) (h:WH c i m x) (hp:x.pc=2):WOk c i m x (wq2 c t m i x d).1 (wq2 c t m i x d).2.1:=by
 have ha:=iStep_alike (m:=m) h.mi.may h.wi.u
 obtain ⟨k1,k2⟩:=iStep_u (c:=c) h.mi.u h.wi.u
 have ho:=op_iStep c m x.f
 have hop:=h.wi.op.2.1 hp
 unfold wq2
 dsimp only
 repeat' split
 ·rw [wk_same hp]; exact easy h.mi ha k1 (by omega) (by omega) k2 (by simp [opOk,ho,hop]) (by simp) (by simp) (by simp) (by simp) (by simp)
 ·exact easy h.mi ha k1 (by omega) (by omega) k2 (by simp [opOk]) (by simp) (by simp) (by simp) (by simp) (by simp)
 ·exact easy h.mi ha k1 (by omega) (by omega) (fr0_u _ _ _ u0) (by simp [opOk,withW]) (by simp [withW]) (by simp [withW]) (by simp [withW]) (by simp [withW]) (by simp [withW])
 ·exact to5 h.mi ha k1 (by omega) (by omega)
 ·exact easy h.mi ha k1 (by omega) (by omega) (fr0_u _ _ _ u0) (by simp [opOk]) (by simp) (by simp) (by simp) (by simp) (by simp)
theorem wOk3 (d:Int) (h:WH c i m x) (hp:x.pc=3):WOk c i m x (wq3 c t m i x d).1 (wq3 c t m i x d).2.1:=by
 have ha:=dqStep_alike c m x.f
 obtain ⟨k1,k2⟩:=dqStep_u (c:=c) h.mi.u h.wi.u
 have ho:=op_dqStep c m x.f
 have hop:=h.wi.op.2.2.1 hp
 unfold wq3
 dsimp only
 repeat' split
 ·rw [wk_same hp]; exact easy h.mi ha k1 (by omega) (by omega) k2 (by simp [opOk,ho,hop]) (by simp) (by simp) (by simp) (by simp) (by simp)
 ·exact easy h.mi ha k1 (by omega) (by omega) k2 (by simp [opOk]) (by simp) (by simp) (by simp) (by simp) (by simp)
 ·exact to5 h.mi ha k1 (by omega) (by omega)
 ·exact easy h.mi ha k1 (by omega) (by omega) (fr0_u _ _ _ u0) (by simp [opOk]) (by simp) (by simp) (by simp) (by simp) (by simp)
theorem wOk4 (d:Int) (h:WH c i m x) (hp:x.pc=4):WOk c i m x (wq4 c t m i x d).1 (wq4 c t m i x d).2.1:=by
 unfold wq4
 split
 ·exact to14 h.mi (add_alike c m (by decide) (by decide) (by decide) _) (add_u h.mi.u _ _) (by omega) (by omega)
 ·exact easy h.mi (add_alike c m (by decide) (by decide) (by decide) _) (add_u h.mi.u _ _) (by omega) (by omega) ⟨u0,u0,u0⟩ (by simp [opOk,stW,toW]) (by simp [stW,toW]) (by simp [stW,toW]) (by simp [stW,toW]) (by simp [stW,toW]) (by simp [stW,toW])
theorem wOk9 (d:Int) (h:WH c i m x) (hp:x.pc=9):WOk c i m x (wq9 c t m i x d).1 (wq9 c t m i x d).2.1:=by
 unfold wq9
 dsimp only
 repeat' split
 ·exact easy h.mi (Alike.refl c m) h.mi.u (by omega) (by omega) h.wi.u (by simp [opOk]) (by simp) (by simp) (by simp) (by simp) (by simp)
 ·exact easy h.mi (Alike.refl c m) h.mi.u (by omega) (by omega) h.wi.u (by simp [opOk]) (by simp) (by simp) (by simp) (by simp) (by simp)
 ·exact easy h.mi (Alike.refl c m) h.mi.u (by omega) (by omega) h.wi.u (by simp [opOk]) (by simp) (by simp) (by simp) (by simp) (by simp)
 ·exact easy h.mi (Alike.refl c m) h.mi.u (by omega) (by omega) (fr0_u _ _ _ u0) (by simp [opOk,withW]) (by simp [withW]) (by simp [withW]) (by simp [withW]) (by simp [withW]) (by simp [withW])
theorem wOk10 (d:Int) (h:WH c i m x) (hp:x.pc=10):WOk c i m x (wq10 c t m i x d).1 (wq10 c t m i x d).2.1:=by
 unfold wq10
 dsimp only
 split
 ·exact easy h.mi (add_alike c m (by decide) (by decide) (by decide) _) (add_u h.mi.u _ _) (by omega) (by omega) (fr0_u _ _ _ (wrapU_u _)) (by simp [opOk]) (by simp) (by simp) (by simp) (by simp) (by simp)
 ·exact easy h.mi (Alike.refl c m) h.mi.u (by omega) (by omega) ⟨u0,u0,u0⟩ (by simp [opOk,toW]) (by simp [toW]) (by simp [toW]) (by simp [toW]) (by simp [toW]) (by simp [toW])
theorem wOk11 (d:Int) (h:WH c i m x) (hp:x.pc=11):WOk c i m x (wq11 c t m i x d).1 (wq11 c t m i x d).2.1:=by
 have ha:=dqStep_alike c m x.f
 obtain ⟨k1,k2⟩:=dqStep_u (c:=c) h.mi.u h.wi.u
 have ho:=op_dqStep c m x.f
 have hop:=h.wi.op.2.2.2.2.2.2.2.1 hp
 unfold wq11
 dsimp only
 repeat' split
 ·rw [wk_same hp]; exact easy h.mi ha k1 (by omega) (by omega) k2 (by simp [opOk,ho,hop]) (by simp) (by simp) (by simp) (by simp) (by simp)
 ·exact easy h.mi ha k1 (by omega) (by omega) (fr0_u _ _ _ k2.val) (by simp [opOk,withW]) (by simp [withW]) (by simp [withW]) (by simp [withW]) (by simp [withW]) (by simp [withW])
 ·exact easy h.mi ha k1 (by omega) (by omega) ⟨u0,u0,u0⟩ (by simp [opOk,toW]) (by simp [toW]) (by simp [toW]) (by simp [toW]) (by simp [toW]) (by simp [toW])
theorem wOk12 (d:Int) (h:WH c i m x) (hp:x.pc=12):WOk c i m x (wq12 c t m i x d).1 (wq12 c t m i x d).2.1:=by
 have ha:=iStep_alike (m:=m) h.mi.may h.wi.u
 obtain ⟨k1,k2⟩:=iStep_u (c:=c) h.mi.u h.wi.u
 have ho:=op_iStep c m x.f
 have hop:=h.wi.op.2.2.2.2.2.2.2.2.1 hp
 unfold wq12
 dsimp only
 repeat' split
 ·rw [wk_same hp]; exact easy h.mi ha k1 (by omega) (by omega) k2 (by simp [opOk,ho,hop]) (by simp) (by simp) (by simp) (by simp) (by simp)
 ·exact easy h.mi ha k1 (by omega) (by omega) ⟨u0,u0,u0⟩ (by simp [opOk,stW,toW]) (by simp [stW,toW]) (by simp [stW,toW]) (by simp [stW,toW]) (by simp [stW,toW]) (by simp [stW,toW])
 ·exact easy h.mi ha k1 (by omega) (by omega) ⟨u0,u0,u0⟩ (by simp [opOk,toW]) (by simp [toW]) (by simp [toW]) (by simp [toW]) (by simp [toW]) (by simp [toW])
theorem wOk13 (d:Int) (h:WH c i m x) (hp:x.pc=13):WOk c i m x (wq13 c t m i x d).1 (wq13 c t m i x d).2.1:=by
 unfold wq13
 split
 ·exact to14 h.mi (Alike.refl c m) h.mi.u (by omega) (by omega)
 ·exact easy h.mi (Alike.refl c m) h.mi.u (by omega) (by omega) ⟨u0,u0,u0⟩ (by simp [opOk,toW]) (by simp [toW]) (by simp [toW]) (by simp [toW]) (by simp [toW]) (by simp [toW])
theorem wOk15 (d:Int) (h:WH c i m x) (hp:x.pc=15):WOk c i m x (wq15 c t m i x d).1 (wq15 c t m i x d).2.1:=by
 unfold wq15
 dsimp only
 split
 ·split
  ·exact easy h.mi (add_alike c m (by decide) (by decide) (by decide) _) (add_u h.mi.u _ _) (by omega) (by omega) (fr0_u _ _ _ u0) (by simp [opOk]) (by simp) (by simp) (by simp) (by simp) (by simp)
  ·exact easy h.mi (add_alike c m (by decide) (by decide) (by decide) _) (add_u h.mi.u _ _) (by omega) (by omega) ⟨u0,u0,u0⟩ (by simp [opOk]) (by simp) (by simp) (by simp) (by simp) (by simp)
 ·exact easy h.mi (Alike.refl c m) h.mi.u (by omega) (by omega) ⟨u0,u0,u0⟩ (by simp [opOk,toW]) (by simp [toW]) (by simp [toW]) (by simp [toW]) (by simp [toW]) (by simp [toW])
theorem wOkN (h:WH c i m x):WOk c i m x m x:=⟨h.mi,h.wi,fun _ _ _=>rfl,rfl,fun _ _ _ q=>q,h.pk⟩
theorem wOk (d:Int) (h:WH c i m x):WOk c i m x (wStep c t m i x d).1 (wStep c t m i x d).2.1:=
 wStep_cases (Q:=fun r=>WOk c i m x r.1 r.2.1) c t m i x d (fun _=>wOkN h) (fun _ q=>wOk0 d h q) (fun _ q=>wOk1 d h q) (fun _ q=>wOk2 d h q) (fun _ q=>wOk3 d h q) (fun _ q=>wOk4 d h q) (fun _ q=>wOk5 d h q) (fun _ q=>wOk6 d h q)
  (fun _ q=>wOk7 d h q) (fun _ q=>wOk8 d h q) (fun _ q=>wOk9 d h q) (fun _ q=>wOk10 d h q) (fun _ q=>wOk11 d h q) (fun _ q=>wOk12 d h q) (fun _ q=>wOk13 d h q) (fun _ q=>wOk14 d h q) (fun _ q=>wOk15 d h q)
end
structure BI (c:Cf) (x:Sb):Prop where
 u:UFr x.f
 op:opOkS x
 p4:x.pc=4→NI c x.f
structure BOk (c:Cf) (m:List Int) (x:Sb) (m':List Int) (x':Sb):Prop where
 mi:MI c m'
 bi:BI c x'
 sg:∀ w:Nat,(w:Int) < c.w→sgM c m' w + (wS x' w).toNat=sgM c m w + (wS x w).toNat
 pk:∀ w:Nat,(w:Int) < c.w→parked c m w=true→parked c m' w=true
theorem wS_not {x:Sb} (h:x.pc≠4∨x.f.pc≠2) (w:Nat):wS x w=false:=by
 rcases h with h | h
 ·simp [wS,h]
 ·simp [wS,hd_pc h]
theorem quietS {c:Cf} {m m':List Int} {x x':Sb} (h:MI c m) (a:Alike c m m') (u:InM m') (bi:BI c x') (n:x.pc≠4∨x.f.pc≠2) (n':x'.pc≠4∨x'.f.pc≠2):BOk c m x m' x' where
 mi:=h.alike a u
 bi:=bi
 sg:=fun w _=>by rw [a.sg,wS_not n,wS_not n']
 pk:=fun w _ q=>by unfold parked at *; rw [a.park]; exact q
theorem BI.done (c:Cf) (x:Sb):BI c (doneS x):=⟨⟨u0,u0,u0⟩,by simp [opOkS,doneS],fun q=>by simp [doneS] at q⟩
theorem sbOk {c:Cf} {m:List Int} {x:Sb} (i:Int) (h:MI c m) (bi:BI c x) (one:∀ w:Nat,(w:Int) < c.w→sgM c m w + (wS x w).toNat≤1):BOk c m x (sbStep c m i x).1 (sbStep c m i x).2.1:=by
 unfold sbStep
 by_cases p0:x.pc=0
 ·rw [if_pos p0]
  unfold sq0
  split
  ·exact quietS h (Alike.refl c m) h.u ⟨bi.u,by simp [opOkS],fun q=>by simp at q⟩ (.inl (by omega)) (.inl (by simp))
  ·exact quietS h (Alike.refl c m) h.u (BI.done c x) (.inl (by omega)) (.inl (by simp [doneS]))
 rw [if_neg p0]
 by_cases p1:x.pc=1
 ·rw [if_pos p1]
  unfold sq1
  exact quietS h (add_alike c m (by decide) (by decide) (by decide) _) (add_u h.u _ _) ⟨fr0_u _ _ _ (wrapU_u _),by simp [opOkS],fun q=>by simp at q⟩ (.inl (by omega)) (.inl (by simp))
 rw [if_neg p1]
 by_cases p2:x.pc=2
 ·rw [if_pos p2]
  have ha:=iStep_alike (m:=m) h.may bi.u
  obtain ⟨k1,k2⟩:=iStep_u (c:=c) h.u bi.u
  have ho:=op_iStep c m x.f
  have hop:=bi.op.1 p2
  unfold sq2
  dsimp only
  repeat' split
  ·exact quietS h ha k1 ⟨k2,by simp [opOkS,ho,hop],fun q=>by simp at q⟩ (.inl (by omega)) (.inl (by simp))
  ·exact quietS h ha k1 ⟨k2,by simp [opOkS],fun q=>by simp at q⟩ (.inl (by omega)) (.inl (by simp))
  ·exact quietS h ha k1 ⟨k2,by simp [opOkS],fun q=>by simp at q⟩ (.inl (by omega)) (.inl (by simp))
 rw [if_neg p2]
 by_cases p3:x.pc=3
 ·rw [if_pos p3]
  unfold sq3
  split
  ·exact quietS h (Alike.refl c m) h.u ⟨fr0_u _ _ _ u0,by simp [opOkS],fun q=>⟨rfl,rfl,by simp,by simp,fun q=>by simp at q⟩⟩ (.inl (by omega)) (.inr (by simp))
  ·exact quietS h (Alike.refl c m) h.u (BI.done c x) (.inl (by omega)) (.inl (by simp [doneS]))
 rw [if_neg p3]
 by_cases p4:x.pc=4
 ·rw [if_pos p4]
  have hn:=bi.p4 p4
  have hwx:∀ w,wS x w=hd x.f w:=fun w=>by simp [wS,p4]
  obtain ⟨k1,k2,k3,k4,k5⟩:=noOk h hn bi.u (fun w hw=>by have:=one w hw; rw [hwx] at this; exact this)
  unfold sq4 evStep
  have e5:¬ x.f.op=5:=by rw [hn.op]; decide
  rw [if_neg e5,if_pos hn.op]
  dsimp only
  by_cases hr:(noStep c m x.f).2.res=0
  ·rw [if_pos hr]
   have hw':∀ w,wS ⟨4,x.roots,(noStep c m x.f).2⟩ w=(decide ((noStep c m x.f).2.res=0) && hd (noStep c m x.f).2 w):=fun w=>by simp [wS,hr]
   have hni:=k3 hr
   exact ⟨k1,⟨k2,by simp [opOkS,hni.op],fun _=>hni⟩,fun w hw=>by rw [hw',hwx]; exact k4 w hw,k5⟩
  ·rw [if_neg hr]
   have hw':∀ w,wS (doneS x) w=(decide ((noStep c m x.f).2.res=0) && hd (noStep c m x.f).2 w):=fun w=>by rw [wS_not (.inl (by simp [doneS]))]; simp [hr]
   exact ⟨k1,BI.done c x,fun w hw=>by rw [hw',hwx]; exact k4 w hw,k5⟩
 rw [if_neg p4]
 unfold sq5
 exact quietS h (add_alike c m (by decide) (by decide) (by decide) _) (add_u h.u _ _) (BI.done c x) (.inl (by omega)) (.inl (by simp [doneS]))
def signs (p:Po) (w:Nat):Nat:=sgM p.c p.m w + p.w.countP (wW · w) + p.s.countP (wS · w)
structure SI (p:Po):Prop where
 mi:MI p.c p.m
 wl:(p.w.length:Int)=p.c.w
 ws:∀ i:Nat,i < p.w.length→WI p.c i (p.w.getD i wk0)
 ss:∀ i:Nat,i < p.s.length→BI p.c (p.s.getD i sb0)
 sg:∀ w:Nat,w < p.w.length→signs p w=(com (p.w.getD w wk0)).toNat
 pk:∀ w:Nat,w < p.w.length→(p.w.getD w wk0).pc=8→(p.w.getD w wk0).f.pc=4→parked p.c p.m w=true
theorem countP_set {α:Type} (q:α→Bool) (d:α):∀ (l:List α) (i:Nat) (y:α),i < l.length→(l.set i y).countP q + (q (l.getD i d)).toNat=l.countP q + (q y).toNat
 | [],i,y,h=>by simp at h
 | x :: r,0,y,_=>by
  simp only [List.set_cons_zero,List.countP_cons,List.getD_cons_zero]
  cases q x <;> cases q y <;> simp <;> omega
 | x :: r,i + 1,y,h=>by
  have:=countP_set q d r i y (by simpa using h)
  simp only [List.set_cons_succ,List.countP_cons,List.getD_cons_succ]
  omega
theorem countP_get {α:Type} (q:α→Bool) (d:α) {l:List α} {i:Nat} (h:i < l.length):(q (l.getD i d)).toNat≤l.countP q:=by
 cases hq:q (l.getD i d) with
 | false=>simp
 | true=>
  have:0 < l.countP q:=List.countP_pos_iff.2 ⟨_,getD_memW h,hq⟩
  simpa using this
theorem getD_setW {α:Type} {l:List α} {i j:Nat} {y d:α} (hi:i < l.length):(l.set i y).getD j d=if j=i then y else l.getD j d:=by
 simp only [List.getD_eq_getElem?_getD,List.getElem?_set]
 by_cases e:i=j
 ·subst e; simp [hi]
 ·rw [if_neg e,if_neg (Ne.symm e)]
theorem com_le (x:Wk):(com x).toNat≤1:=by cases com x <;> simp
theorem SI.go {p:Po} (h:SI p) (k:Pk):SI (pGo p k).1:=by
 unfold pGo
 split
 ·rename_i hf
  unfold pStep'
  by_cases h0:k.kind=0
  ·rw [if_pos h0]
   obtain ⟨f1,f2⟩:=fits_w hf h0
   obtain ⟨i,hi⟩:∃ i:Nat,k.who=(i:Int):=⟨k.who.toNat,by omega⟩
   rw [hi] at f2 ⊢
   rw [Int.toNat_natCast]
   have hwl:=h.wl
   have hil:i < p.w.length:=by omega
   generalize hx:p.w.getD i wk0=x
   have hone:∀ w:Nat,(w:Int) < p.c.w→sgM p.c p.m w + (wW x w).toNat≤1:=fun w hw=>by
    have hs:=h.sg w (by omega)
    have hc:=countP_get (wW · w) wk0 hil
    have:=com_le (p.w.getD w wk0)
    try dsimp only at hc
    rw [hx] at hc
    unfold signs at hs
    omega
   have hwh:WH p.c i p.m x:=⟨h.mi,hx ▸ h.ws i hil,f2,hone,by
    have hs:=h.sg i hil
    have hc:=countP_get (wW · i) wk0 hil
    try dsimp only at hc
    rw [hx] at hc hs
    unfold signs at hs
    omega,fun a b=>h.pk i hil (by rw [hx]; exact a) (by rw [hx]; exact b)⟩
   obtain ⟨k1,k2,k3,k4,k5,k6⟩:=wOk (t:=p.t) k.draw hwh
   generalize hr:wStep p.c p.t p.m (i:Int) x k.draw=r at *
   refine ⟨k1,by simpa using h.wl,fun j hj=>?_,h.ss,fun w hw=>?_,fun w hw a b=>?_⟩
   ·dsimp only at hj ⊢
    rw [getD_setW hil]
    split
    ·rename_i e; rw [e]; exact k2
    ·exact h.ws j (by simpa using hj)
   ·have hwl':w < p.w.length:=by simpa using hw
    have hs:=h.sg w hwl'
    have hc:=countP_set (wW · w) wk0 p.w i r.2.1 hil
    try dsimp only at hc
    rw [hx] at hc
    unfold signs at *
    dsimp only
    rw [getD_setW hil]
    by_cases e:w=i
    ·subst e
     rw [if_pos rfl]
     rw [hx] at hs
     omega
    ·rw [if_neg e]
     have:=k3 w (by omega) e
     omega
   ·have hwl':w < p.w.length:=by simpa using hw
    dsimp only at a b ⊢
    rw [getD_setW hil] at a b
    by_cases e:w=i
    ·subst e
     rw [if_pos rfl] at a b
     exact k6 a b
    ·rw [if_neg e] at a b
     exact k5 w (by omega) e (h.pk w hwl' a b)
  ·rw [if_neg h0]
   by_cases h1:k.kind=1
   ·rw [if_pos h1]
    obtain ⟨f1,f2⟩:=fits_s hf h1
    obtain ⟨i,hi⟩:∃ i:Nat,k.who=(i:Int):=⟨k.who.toNat,by omega⟩
    rw [hi] at f2 ⊢
    rw [Int.toNat_natCast]
    have hwl:=h.wl
    have hil:i < p.s.length:=by omega
    split
    ·generalize hx:p.s.getD i sb0=x
     have hone:∀ w:Nat,(w:Int) < p.c.w→sgM p.c p.m w + (wS x w).toNat≤1:=fun w hw=>by
      have hs:=h.sg w (by omega)
      have hc:=countP_get (wS · w) sb0 hil
      have:=com_le (p.w.getD w wk0)
      try dsimp only at hc
      rw [hx] at hc
      unfold signs at hs
      omega
     obtain ⟨k1,k2,k3,k4⟩:=sbOk (i:Int) h.mi (hx ▸ h.ss i hil) hone
     generalize hr:sbStep p.c p.m (i:Int) x=r at *
     refine ⟨k1,h.wl,h.ws,fun j hj=>?_,fun w hw=>?_,fun w hw a b=>k4 w (by dsimp only at hw; omega) (h.pk w hw a b)⟩
     ·dsimp only at hj ⊢
      rw [getD_setW hil]
      split
      ·exact k2
      ·exact h.ss j (by simpa using hj)
     ·have hs:=h.sg w hw
      have hc:=countP_set (wS · w) sb0 p.s i r.2.1 hil
      try dsimp only at hc
      rw [hx] at hc
      have:=k3 w (by dsimp only at hw; omega)
      unfold signs at *
      dsimp only
      omega
    ·exact h
   ·rw [if_neg h1]
    split
    ·have a:Alike p.c p.m (mStore p.m 3 1):=alike_store (by decide) (park_small (by decide) (by decide)) _
     refine ⟨h.mi.alike a (store_u h.mi.u ⟨by decide,by decide⟩),h.wl,h.ws,h.ss,fun w hw=>?_,fun w hw q q'=>?_⟩
     ·have:=h.sg w hw
      unfold signs at *
      dsimp only
      rw [a.sg]; exact this
     ·have:=h.pk w hw q q'
      unfold parked at *
      dsimp only
      rw [a.park]; exact this
    ·exact h
 ·exact h
theorem go_cw (p:Po) (k:Pk):(pGo p k).1.c=p.c∧(pGo p k).1.w.length=p.w.length∧(pGo p k).1.s.length=p.s.length:=by
 unfold pGo pStep'
 repeat' split
 all_goals simp
theorem SI.run {p:Po} (h:SI p) (l:List Pk):SI (pRun p l).1∧(pRun p l).1.c=p.c∧(pRun p l).1.w.length=p.w.length:=by
 unfold pRun
 have:∀ (l:List Pk) (a:Po × List Ev),SI a.1→SI (l.foldl (fun a k=>((pGo a.1 k).1,a.2 ++ (pGo a.1 k).2)) a).1∧(l.foldl (fun a k=>((pGo a.1 k).1,a.2 ++ (pGo a.1 k).2)) a).1.c=a.1.c∧(l.foldl (fun a k=>((pGo a.1 k).1,a.2 ++ (pGo a.1 k).2)) a).1.w.length=a.1.w.length:=by
  intro l
  induction l with
  | nil=>intro a h; exact ⟨h,rfl,rfl⟩
  | cons k r ih=>
   intro a h
   obtain ⟨h1,h2,h3⟩:=ih ((pGo a.1 k).1,a.2 ++ (pGo a.1 k).2) (h.go k)
   obtain ⟨g1,g2,_⟩:=go_cw a.1 k
   exact ⟨h1,h2.trans g1,h3.trans g2⟩
 exact this l (p,[]) h
end Go.Vai

/- A pool that begins, by lists alone; it has no signs. What the signs of a pool come to. -/
namespace Go.Vai
open Go.RowKit
set_option maxHeartbeats 2000000
def newW (w:Int):Wk:=⟨0,[],⟨1,0,w,0,0,0,0⟩,0,0⟩
def newS (l:List Int):Sb:=⟨0,l,fr00⟩
def isRoot (t:List Tk) (k:Int):Bool:=fParent t k == -1
def fRoots (t:List Tk):List Int:=((List.range t.length).map fun (k:Nat)=>(k:Int)).filter (isRoot t)
def takes:List Int→List Int→Option (List Int)
 | left,[]=>some left
 | left,r :: rs=>if r∈left then takes (left.erase r) rs else none
def takeAll:List Int→List (List Int)→Option (List Int)
 | left,[]=>some left
 | left,l :: ls=>(takes left l).bind fun left'=>takeAll left' ls
def po0:Po:=⟨⟨0,0,0,0⟩,[],[],[],[]⟩
def newP (c:Cf) (t:List Tk) (roots:List (List Int)):Po:=⟨c,t,zeros (lSize c).toNat,(List.range c.w.toNat).map fun (w:Nat)=>newW w,roots.map newS⟩
def pNew (c:Cf) (t:List Tk) (roots:List (List Int)):Po × Bool:=
 if mayC c=true∧fMay t=true∧roots.length≤3∧(takeAll (fRoots t) roots).isSome=true then (newP c t roots,true) else (po0,false)
theorem takes_append (left a b:List Int):takes left (a ++ b)=(takes left a).bind fun l=>takes l b:=by
 induction a generalizing left with
 | nil=>rfl
 | cons x r ih=>
  simp only [List.cons_append,takes]
  split
  ·exact ih _
  ·rfl
theorem takeAll_append (left:List Int) (a b:List (List Int)):takeAll left (a ++ b)=(takeAll left a).bind fun l=>takeAll l b:=by
 induction a generalizing left with
 | nil=>rfl
 | cons x r ih=>
  simp only [List.cons_append,takeAll]
  cases takes left x with
  | none=>rfl
  | some l=>exact ih l
theorem zerosL_load (n:Nat) (i:Int):mLoad (zeros n) i=0:=by
 unfold mLoad zeros
 split
 ·rw [List.getD_eq_getElem?_getD,List.getElem?_replicate]
  split <;> rfl
 ·rfl
theorem newW_get {n i:Nat} (h:i < n):((List.range n).map fun (w:Nat)=>newW w).getD i wk0=newW i:=by
 simp [List.getD_eq_getElem?_getD,h]
theorem newS_get {l:List (List Int)} {i:Nat} (h:i < l.length):(l.map newS).getD i sb0=newS (l.getD i []):=by
 simp [List.getD_eq_getElem?_getD,h]
theorem SI.new {c:Cf} {t:List Tk} {roots:List (List Int)} (h:mayC c=true):SI (newP c t roots):=by
 have hc:=mayC_iff.1 h
 have hsz:0≤lSize c:=by
  unfold lSize; rw [if_pos h]
  unfold lBase
  rcases hc.2.2.1 with e | e | e | e | e <;> rw [e] <;> omega
 refine ⟨⟨h,?_,?_,?_⟩,?_,?_,?_,?_,?_⟩
 ·show ((zeros (lSize c).toNat).length:Int)=lSize c
  simp [zeros]; omega
 ·intro x hx
  have:=List.eq_of_mem_replicate (show x∈List.replicate _ 0 from hx)
  subst this; exact u0
 ·intro w _ _
  show tb (mLoad (zeros _) 2) w=false
  rw [zerosL_load]; simp [tb]
 ·show (((List.range c.w.toNat).map fun (w:Nat)=>newW w).length:Int)=c.w
  simp; omega
 ·intro i hi
  have hi':i < c.w.toNat:=by simpa [newP] using hi
  show WI c i (((List.range c.w.toNat).map fun (w:Nat)=>newW w).getD i wk0)
  rw [newW_get hi']
  exact WI.easy ⟨u0,u0,u0⟩ (by simp [opOk,newW]) (by simp [newW]) (by simp [newW]) (by simp [newW]) (by simp [newW]) (by simp [newW])
 ·intro i hi
  have hi':i < roots.length:=by simpa [newP] using hi
  show BI c ((roots.map newS).getD i sb0)
  rw [newS_get hi']
  exact ⟨⟨u0,u0,u0⟩,by simp [opOkS,newS],fun q=>by simp [newS] at q⟩
 ·intro w hw
  have hw':w < c.w.toNat:=by simpa [newP] using hw
  show sgM c (zeros _) w + ((List.range c.w.toNat).map fun (w:Nat)=>newW w).countP (wW · w) + (roots.map newS).countP (wS · w)=(com (((List.range c.w.toNat).map fun (w:Nat)=>newW w).getD w wk0)).toNat
  rw [newW_get hw']
  have e1:((List.range c.w.toNat).map fun (w:Nat)=>newW w).countP (wW · w)=0:=by
   rw [List.countP_eq_zero]
   intro x hx
   obtain ⟨i,_,rfl⟩:=List.mem_map.1 hx
   simp [wW,newW]
  have e2:(roots.map newS).countP (wS · w)=0:=by
   rw [List.countP_eq_zero]
   intro x hx
   obtain ⟨i,_,rfl⟩:=List.mem_map.1 hx
   simp [wS,newS]
  rw [e1,e2]
  unfold sgM parked
  rw [zerosL_load,zerosL_load]
  simp [tb,com,newW]
 ·intro w hw hp
  have hw':w < c.w.toNat:=by simpa [newP] using hw
  have e:((newP c t roots).w.getD w wk0)=newW w:=newW_get hw'
  rw [e] at hp
  simp [newW] at hp
def seeks (x:Wk):Bool:=x.pc == 2 || x.pc == 3 || x.pc == 4 || x.pc == 5 || x.pc == 6
def wkPark (x:Wk):Bool:=x.pc == 8 && wParked x.f
end Go.Vai

/- A pool that begins. -/
namespace Go.Vai
open Go.RowKit Go.Proofs
set_option maxHeartbeats 4000000
set_option maxRecDepth 100000
def rowsAT:List Row:=[] ++ rowsAQ
theorem rowsAT_ok:∀ p∈rowsAT,RowOk Tryz.prog p:=fun p h=>by
 simp only [rowsAT,List.mem_append,List.not_mem_nil,false_or] at h
 rcases h with h
 ·exact rowsAQ_ok p h
theorem okAT:(ctx Tryz.prog rowsAT).ok:=rows_ok rowsAT_ok
theorem AT_all:tabC rowsAT 36=(fun _=>none)∧tabC rowsAT 40=(fun _=>none)∧tabC rowsAT 37=(row1 shT fun t=>if tB t=true∧t.length≤100000 then some (tks t) else none)∧tabC rowsAT 42=(row1 shZs fun l=>if l.length≤100000 then some (sbv ⟨0,l,fr00⟩) else none)∧tabC rowsAT 39=(row1 shI fun w=>some (wv ⟨0,[],⟨1,0,w,0,0,0,0⟩,0,0⟩))∧tabC rowsAT 60=(row2 shT shI fun t k=>if tB t=true then some (iv (fParent t k)) else none)∧tabC rowsAT 35=(row1 shT fun t=>if tB t=true then some (bv (fMay t)) else none)∧tabC rowsAT 191=(row1 shN fun e=>some (.tup [u (wBump e),iv (wLow (wMask e))]))∧tabC rowsAT 190=(fun _=>none)∧tabC rowsAT 192=(fun _=>none)∧tabC rowsAT 30=(row1 shN fun e=>some (u (wMask e)))∧tabC rowsAT 38=(row1 shC fun c=>some (ms (zeros (lSize c).toNat)))∧tabC rowsAT 28=(row1 shC fun c=>some (bv (mayC c))):=⟨rfl,rfl,rfl,rfl,rfl,rfl,rfl,rfl,rfl,rfl,rfl,rfl,rfl⟩
theorem new_no (c:Cf) (t:List Tk) (roots:List (List Int)) (ht:tB t=true) (h:¬ (mayC c=true∧fMay t=true∧roots.length≤3)) :
  PureC Tryz.prog 14 [cv' c,tks t,zss roots] (.tup [pov (pNew c t roots).1,bv (pNew c t roots).2]):=by
 have e:pNew c t roots=(po0,false):=by
  unfold pNew
  rw [if_neg (fun q=>h ⟨q.1,q.2.1,q.2.2.1⟩)]
 rw [e]
 refine pure_sub okAT 3 Tryz.func14 rfl (by show 3≤_; decide) ?_
 cases h1:mayC c with
 | false=>
  simp only [Tryz.f14,AT_all,h1,tks,zss,pov,po0,wks,sbs,ms,List.map_nil,tt_all,cv',cf_eta,shC_dec,dC,row1,iv,bv,ms,ctx_T,ctx_C,Option.bind_some,ev1,ev2,undef,↓condE_t,↓guardE_tf,resB,cv,stepB,guardB,guardC,dstAt,aopR,one,pre,unR,argFrm,evo,lkp,hlk,ofVal,ofCells,setCells,fillA,AV.wr,AV.ok1,TK.agg,frz,frz1,frzt,frzs,frzA,subA,subB,subM,subL,sub1,Nat.reduceAdd,Nat.reduceEqDiff,Nat.reduceLT,Nat.reduceLeDiff,reduceCtorEq,eq_self,ne_eq]
  all_goals ((repeat' apply And.intro) <;> first | rfl | omega | (show (_:Bool)=true; kernel_rfl) | decide)
 | true=>
  cases h2:fMay t with
  | false=>
   simp only [Tryz.f14,AT_all,sx_all,h1,h2,ht,tks,zss,pov,po0,wks,sbs,ms,List.map_nil,tt_all,cv',cf_eta,shC_dec,dC,row1,iv,bv,ms,ctx_T,ctx_C,Option.bind_some,ev1,ev2,undef,↓condE_t,↓guardE_ff,↓guardE_tf,resB,cv,stepB,guardB,guardC,dstAt,aopR,one,pre,unR,argFrm,evo,lkp,hlk,ofVal,ofCells,setCells,fillA,AV.wr,AV.ok1,TK.agg,frz,frz1,frzt,frzs,frzA,subA,subB,subM,subL,sub1,Nat.reduceAdd,Nat.reduceEqDiff,Nat.reduceLT,Nat.reduceLeDiff,reduceCtorEq,eq_self,ne_eq]
   all_goals ((repeat' apply And.intro) <;> first | rfl | omega | (show (_:Bool)=true; kernel_rfl) | decide)
  | true=>
   have h3:(roots.length:Int) > 3:=by
    have:¬ roots.length≤3:=fun q=>h ⟨h1,h2,q⟩
    omega
   simp only [Tryz.f14,AT_all,sx_all,h1,h2,h3,ht,tks,zss,pov,po0,wks,sbs,ms,List.map_nil,List.length_map,tt_all,cv',cf_eta,shC_dec,dC,row1,iv,bv,ms,ctx_T,ctx_C,Option.bind_some,List.length_map,ev1,ev2,undef,↓condE_t,↓guardE_ff,resB,cv,stepB,guardB,guardC,dstAt,aopR,one,pre,binR,intOpR,unR,argFrm,evo,lkp,hlk,lenOf,ofVal,ofCells,setCells,fillA,AV.wr,AV.ok1,TK.agg,frz,frz1,frzt,frzs,frzA,subA,subB,subM,subL,sub1,Nat.reduceAdd,Nat.reduceEqDiff,Nat.reduceLT,Nat.reduceLeDiff,reduceCtorEq,eq_self,ne_eq]
   all_goals ((repeat' apply And.intro) <;> first | rfl | omega | (show (_:Bool)=true; kernel_rfl) | decide)
def rp (t:List Tk) (i:Nat):List Int:=((List.range i).map fun (k:Nat)=>(k:Int)).filter (isRoot t)
theorem rp_succ (t:List Tk) (i:Nat):rp t (i + 1)=rp t i ++ (if isRoot t i=true then [(i:Int)] else []):=by
 unfold rp
 rw [List.range_succ,List.map_append,List.filter_append]
 congr 1
 show List.filter (isRoot t) [(i:Int)]=_
 rw [List.filter_cons,List.filter_nil]
theorem rp_len (t:List Tk) (i:Nat):(rp t i).length≤i:=by
 unfold rp
 exact Nat.le_trans (List.length_filter_le _ _) (by simp)
def nw (i:Nat):List Wk:=(List.range i).map fun (w:Nat)=>newW w
theorem nw_succ (i:Nat):nw (i + 1)=nw i ++ [newW i]:=by
 unfold nw
 rw [List.range_succ,List.map_append]; rfl
theorem nw_len (i:Nat):(nw i).length=i:=by simp [nw]
theorem erase_at {l:List Int} {m:Nat} {r:Int} (hm:m < l.length) (hr:r=l.getD m 0) (hn:r ∉ l.take m):l.erase r=l.take m ++ l.drop (m + 1):=by
 have e:l=l.take m ++ (r :: l.drop (m + 1)):=by
  have:r=l[m]:=by rw [hr]; simp [List.getD_eq_getElem?_getD,hm]
  rw [this,List.getElem_cons_drop,List.take_append_drop]
 conv=>lhs; rw [e]
 rw [List.erase_append_right _ hn,List.erase_cons_head]
theorem new_yes (c:Cf) (t:List Tk) (roots:List (List Int)) (ht:tB t=true) (hr:∀ l∈roots,l.length≤1000) (h1:mayC c=true) (h2:fMay t=true) (h3:roots.length≤3) :
  PureC Tryz.prog 14 [cv' c,tks t,zss roots] (.tup [pov (pNew c t roots).1,bv (pNew c t roots).2]):=by
 refine pure_sub okAT 3 Tryz.func14 rfl (by show 3≤_; decide) ?_
 have h3':¬ (roots.length:Int) > 3:=by omega
 have htl:t.length≤30:=may_len h2
 have htl2:t.length≤100000:=by omega
 have hmc:=mayC_iff.1 h1
 simp only [Tryz.f14,Tryz.func36,Tryz.f36,inl,AT_all,sx_all,h1,h2,h3',ht,and_self,tks,zss,List.length_map,tt_all,cv',cf_eta,shC_dec,dC,row1,iv,bv,ctx_T,ctx_C,ctx_P,Option.bind_some,List.length_map,String.reduceBEq,Int.reduceNeg,ev1,ev2,undef,↓condE_f,↓guardE_ff,frzDeep,deepArgs,deepArg,cv,stepB,guardB,guardC,dstAt,aopR,one,pre,binR,intOpR,unR,argFrm,evo,lkp,hlk,lenOf,ofVal,ofCells,AV.wr,AV.ok1,TK.agg,frz,frz1,frzA,frzArg,frzArgs,subA,subB,sub1,Nat.reduceAdd,Nat.reduceEqDiff,Nat.reduceLT,Nat.reduceLeDiff,reduceCtorEq,eq_self,ne_eq]
 refine WP.virt 3 3 1 rfl (by decide) ?_
 refine WP.loop (ι:=Nat × Nat) (fun i=>t.length - i.1) (fun i=>i.1≤t.length∧26 < i.2) (n:=23)
  (fr:=fun i=>[(10,iv i.1),(9,iv t.length),(3,.arr i.2 0 (rp t i.1).length),(0,tks t)])
  (hp:=fun i=>[(i.2,some ⟨false,3,1,(rp t i.1).map iv⟩),(1,some ⟨false,34,8,[pzero]⟩),(0,some ⟨false,23,4,[cv' c]⟩)])
  (N:=28) ?_ (0,27) ⟨Nat.zero_le _,by decide⟩ rfl (by show 28≤28; decide) ⟨rfl,rfl,rfl,rfl,trivial⟩ ⟨rfl,rfl,rfl,trivial⟩
 rintro ⟨i,z⟩ nx ⟨g1,g2⟩ hN hid
 dsimp only at g1 g2 hid ⊢
 have n0:0 < nx:=by omega
 have n1:1 < nx:=by omega
 have z0:0 < z:=by omega
 have z1:1 < z:=by omega
 have nz:z < nx:=hid z _ (by rw [hlk_cons,if_pos rfl])
 have hrl:=rp_len t i
 refine WP.of okAT 3 (by rfl) ?_
 by_cases hi:i < t.length
 ·have hz:(i:Int) < t.length:=by omega
  have hz0:(0:Int)≤(i:Int):=by omega
  have w1:IntKind.wrap .i64 ((i:Int) + 1)=((i + 1:Nat):Int):=by rw [wrap_i (by omega) (by omega)]; omega
  have hsu:=rp_succ t i
  have hcap:((rp t i).length + 1) * 8≤140737488355328:=by omega
  cases hp:(fParent t i == -1) with
  | false=>
   rw [show isRoot t i=false from hp] at hsu
   simp only [AT_all,sx_all,hz,hp,w1,ht,z0,z1,tks,nb_lt0,Nat.add_assoc,cv',row2,shI_dec,dI,iv,ctx_C,Option.bind_some,Int.reduceNeg,ev1,ev2,undef,↓condE_t,↓condE_f,cv,stepB,aopR,one,pre,binR,intOpR,evo,lkp,hlk,sub1,kp,kh,Nat.reduceAdd,Nat.reduceLT,eq_self]
   refine ⟨(i + 1,z),by dsimp only; omega,⟨by dsimp only; omega,by dsimp only; omega⟩,?_⟩
   simp only [hsu,List.append_nil,if_neg,Bool.false_eq_true,and_self,nb_self,ev2,eq_self]
  | true=>
   rw [show isRoot t i=true from hp,if_pos rfl] at hsu
   simp only [AT_all,sx_all,hz,hp,w1,ht,hcap,n0,n1,nz,z0,z1,tks,tk_map,List.length_map,nb_self,nb_lt,nb_lt0,Nat.add_assoc,tt_all,cv',row2,shI_dec,dI,iv,ctx_T,ctx_C,Option.bind_some,List.length_map,Int.reduceNeg,ev1,ev2,undef,↓condE_t,cv,stepB,aopR,one,pre,binR,intOpR,evo,lkp,hlk,asLst,idOf,srcOk,ofVal,setElems,AV.wr,AV.ok1,sub1,kp,kh,List.replicate,Nat.reduceAdd,Nat.reduceMul,Nat.reduceLT,Nat.reduceLeDiff,reduceCtorEq,eq_self,ne_eq]
   refine ⟨Nat.le_refl _,(i + 1,nx + 10),by dsimp only; omega,⟨by dsimp only; omega,by dsimp only; omega⟩,?_⟩
   simp only [hsu,List.map_append,List.length_append,List.map_cons,List.map_nil,List.length_cons,List.length_nil,Nat.zero_add,and_self,iv,nb_self,eq_self]
 ·have hz:¬ (i:Int) < t.length:=by omega
  have ei:i=t.length:=by omega
  subst ei
  have hfr:rp t t.length=fRoots t:=rfl
  rw [hfr] at hrl hid ⊢
  generalize hL:fRoots t=L at hrl hid
  simp only [AT_all,sx_all,hz,ht,htl2,and_self,n0,z0,tks,nb_self,nb_lt,nb_lt0,Nat.add_assoc,tt_all,cv',cf_eta,shC_dec,dC,row1,iv,ms,ctx_T,ctx_C,Option.bind_some,Option.map_some,Int.reduceNeg,ev1,ev2,implies_true,undef,dynCall,↓condE_f,resB,cv,stepB,stepE,callD,tabD,aopR,one,pre,binR,intOpR,evo,lkp,hlk,ofVal,ofCells,setCells,fillA,AV.wr,AV.ok1,TK.agg,accOf,Nat.reduceAdd,Nat.reduceEqDiff,Nat.reduceLT,Nat.reduceLeDiff,reduceCtorEq,eq_self,ne_eq]
  repeat' apply And.intro
  any_goals (show entryOk _ _ _ _ _=true; (repeat (first | exact entryOk_nil _ _ _ _ | (refine entryOk_step ?h ?_; case h=>(first | (apply Or.inr; constructor <;> simp [meets] <;> omega; done) | (apply Or.inl; show anc _ _ _ _=true; kernel_rfl))))))
  refine WP.virtF (nx + 9) 6 44 11 (by rw [hlk_cons,if_pos rfl]) rfl rfl (by decide) ?_
  refine WP.virtF (nx + 9) 7 50 9 (by rw [hlk_cons,if_pos rfl]) rfl rfl (by decide) ?_
  obtain ⟨cw,hcw⟩:∃ n:Nat,c.w=(n:Int):=⟨c.w.toNat,by omega⟩
  have hcw8:cw≤8:=by omega
  generalize hM:zeros (lSize c).toNat=M
  obtain ⟨q,hq⟩:∃ q,q=nx + 9:=⟨_,rfl⟩
  obtain ⟨s0,hs0⟩:∃ s,s=nx + 15:=⟨_,rfl⟩
  refine WP.loop (ι:=Nat × Nat) (fun i=>cw - i.1) (fun i=>i.1≤cw∧nx + 13 < i.2∧i.2≠nx + 15) (n:=84)
   (fr:=fun i=>[(40,iv i.1),(39,iv cw),(9,.ptr q 0 0),(8,.arr z 0 L.length),(6,.ptr 1 0 0),(2,zss roots)])
   (hp:=fun i=>[(i.2,some ⟨false,44,11,(nw i.1).map wv⟩),(s0,some ⟨false,50,9,[]⟩),(q,some ⟨false,34,8,[pag c t M (.arr i.2 0 i.1) (.arr s0 0 0)]⟩),(z,some ⟨false,3,1,L.map iv⟩),(1,some ⟨false,34,8,[pzero]⟩)])
   (N:=nx + 16) ?_ (0,nx + 14) ⟨Nat.zero_le _,by dsimp only; omega,by dsimp only; omega⟩ rfl (by show nx + 16≤nx + 14 + 1 + 1; omega) (by simp only [hq,hcw,zss,ev2,lkp,sub1,kp,eq_self]; exact ⟨rfl,rfl⟩) (by
    simp only [hq,hs0,pag,tks,ms,iv,nw,n1,nz,z1,List.range_zero,List.map_nil,List.set_cons_succ,List.set_cons_zero,nb_self,nb_same,nb_lt,nb_lt0,nb_gt0,Nat.add_assoc,ev2,hlk,kh,Nat.reduceAdd,Nat.reduceLT,eq_self])
  have zq:z < q:=by omega
  have q0:0 < q:=by omega
  have q1:1 < q:=by omega
  have s00:0 < s0:=by omega
  have s01:1 < s0:=by omega
  have zs0:z < s0:=by omega
  have qs0:q < s0:=by omega
  clear hid
  rintro ⟨i,a⟩ nx2 ⟨g3,g4,g5⟩ hN2 hid2
  dsimp only at g3 g4 g5 hid2 ⊢
  have m0:0 < nx2:=by omega
  have m1:1 < nx2:=by omega
  have mz:z < nx2:=by omega
  have mq:q < nx2:=by omega
  have ms0:s0 < nx2:=by omega
  have a0:0 < a:=by omega
  have a1:1 < a:=by omega
  have za:z < a:=by omega
  have qa:q < a:=by omega
  have sa:Nat.beq s0 a=false:=by rw [← Bool.not_eq_true,Nat.beq_eq]; omega
  have a_s:Nat.beq a s0=false:=by rw [← Bool.not_eq_true,Nat.beq_eq]; omega
  have ma:a < nx2:=hid2 a _ (by rw [hlk_cons,if_pos rfl])
  have hnl:=nw_len i
  refine WP.of okAT 3 (by rfl) ?_
  by_cases hj:i < cw
  ·have hy:(i:Int) < cw:=by omega
   have hy0:(0:Int)≤(i:Int):=by omega
   have w1:IntKind.wrap .i64 ((i:Int) + 1)=((i + 1:Nat):Int):=by rw [wrap_i (by omega) (by omega)]; omega
   have hsu:=nw_succ i
   have hcap2:(i + 1) * 88≤140737488355328:=by omega
   have htk:((nw i).map wv).take i=(nw i).map wv:=List.take_of_length_le (by rw [List.length_map,nw_len]; exact Nat.le_refl _)
   simp only [AT_all,hy,w1,m1,mz,mq,ms0,a1,za,qa,sa,ma,zq,q1,s01,zs0,qs0,z1,htk,hnl,wv,its,List.map_nil,pag,tks,ms,zss,List.length_map,nb_self,nb_lt,nb_lt0,nb_gt0,Nat.add_assoc,tt_all,row1,shI_dec,dI,iv,u,ms,ctx_T,ctx_C,Option.bind_some,List.length_map,ev1,ev2,implies_true,undef,dynCall,↓condE_t,cv,stepB,stepE,callD,tabD,aopR,one,pre,binR,intOpR,evo,lkp,hlk,asLst,idOf,srcOk,ofVal,ofCells,setCells,setElems,AV.wr,AV.ok1,TK.agg,sub1,kp,kh,accOf,List.replicate,Nat.reduceAdd,Nat.reduceMul,Nat.reduceLT,Nat.reduceLeDiff,reduceCtorEq,eq_self,ne_eq]
   refine ⟨?_,⟨Nat.le_refl _,by omega⟩,?_⟩
   ·show entryOk _ _ _ _ _=true; (repeat (first | exact entryOk_nil _ _ _ _ | (refine entryOk_step ?h ?_; case h=>(first | (apply Or.inr; constructor <;> simp [meets] <;> omega; done) | (apply Or.inl; show anc _ _ _ _=true; kernel_rfl)))))
   repeat' apply And.intro
   all_goals try (show entryOk _ _ _ _ _=true; (repeat (first | exact entryOk_nil _ _ _ _ | (refine entryOk_step ?h ?_; case h=>(first | (apply Or.inr; constructor <;> simp [meets] <;> omega; done) | (apply Or.inl; show anc _ _ _ _=true; kernel_rfl))))))
   refine ⟨(i + 1,nx2 + 8),by dsimp only; omega,⟨by dsimp only; omega,by dsimp only; omega,by dsimp only; omega⟩,rfl,?_⟩
   simp only [hsu,newW,wv,its,iv,u,List.map_append,List.map_cons,List.map_nil,mq,and_self,nb_self,nb_gt,eq_self]
  ·have hy:¬ (i:Int) < cw:=by omega
   have ei:i=cw:=by omega
   subst ei
   simp only [hy,pag,tks,ms,zss,List.length_map,Nat.add_assoc,tt_all,iv,ms,ctx_T,List.length_map,ev1,ev2,undef,↓condE_f,cv,stepB,aopR,one,pre,binR,intOpR,evo,lkp,lenOf,Nat.reduceAdd,Nat.reduceLT,eq_self,ne_eq]
   refine WP.loop (ι:=Nat × Nat × List Int) (fun j=>roots.length - j.1) (fun j=>j.1≤roots.length∧q < j.2.1∧j.2.1≠a∧j.2.2.length≤30∧takeAll L (roots.take j.1)=some j.2.2) (n:=84)
    (fr:=fun j=>[(53,iv j.1),(52,iv roots.length),(51,zss roots),(9,.ptr q 0 0),(8,.arr z 0 j.2.2.length),(6,.ptr 1 0 0)])
    (hp:=fun j=>[(j.2.1,some ⟨false,50,9,((roots.take j.1).map newS).map sbv⟩),(a,some ⟨false,44,11,(nw i).map wv⟩),(q,some ⟨false,34,8,[pag c t M (.arr a 0 i) (.arr j.2.1 0 j.1)]⟩),(z,some ⟨false,3,1,j.2.2.map iv⟩),(1,some ⟨false,34,8,[pzero]⟩)])
    (N:=nx2 + 4) ?_ (0,s0,L) ⟨Nat.zero_le _,qs0,by dsimp only; omega,by dsimp only; omega,rfl⟩ rfl (Nat.le_refl _) ⟨rfl,rfl,rfl,rfl,rfl,rfl,trivial⟩ (by
     simp only [pag,tks,ms,iv,a1,za,qa,sa,zq,q1,s01,zs0,qs0,z1,List.take_zero,List.map_nil,and_self,nb_self,nb_lt0,hlk,kh,eq_self])
   rintro ⟨j,b,left⟩ nx3 ⟨g6,g7,g8,g9,g10⟩ hN3 hid3
   dsimp only at g6 g7 g8 g9 g10 hid3 ⊢
   have k0:0 < nx3:=by omega
   have k1:1 < nx3:=by omega
   have kz:z < nx3:=by omega
   have kq:q < nx3:=by omega
   have ka:a < nx3:=by omega
   have kb:b < nx3:=hid3 b _ (by rw [hlk_cons,if_pos rfl])
   have b0:0 < b:=by omega
   have b1:1 < b:=by omega
   have zb:z < b:=by omega
   have ba:Nat.beq b a=false:=by rw [← Bool.not_eq_true,Nat.beq_eq]; omega
   have ab:Nat.beq a b=false:=by rw [← Bool.not_eq_true,Nat.beq_eq]; omega
   refine WP.of okAT 3 (by rfl) ?_
   by_cases hr1:j < roots.length
   ·have hx:(j:Int) < roots.length:=by omega
    have hx0:(0:Int)≤(j:Int):=by omega
    have hg:=getD_zz hr1
    have hll:=hr _ (getD_memW (d:=[]) hr1)
    have htk:roots.take (j + 1)=roots.take j ++ [roots.getD j []]:=by
     rw [List.take_add_one]; simp [List.getElem?_eq_getElem hr1,List.getD_eq_getElem?_getD]
    generalize hl:roots.getD j []=l at hg hll htk
    simp only [hx,hx0,hg,pag,tks,ms,zs,zss,List.length_map,Int.toNat_natCast,Nat.add_assoc,tt_all,iv,ms,ctx_T,List.length_map,Int.toNat_natCast,ev1,ev2,implies_true,undef,↓condE_t,cv,stepB,aopR,one,pre,binR,intOpR,evo,lkp,lenOf,ofCells,TK.agg,Nat.reduceAdd,Nat.reduceLT,Nat.reduceLeDiff,reduceCtorEq,eq_self,ne_eq]
    refine WP.loop (ι:=Nat × List Int) (fun k=>l.length - k.1) (fun k=>k.1≤l.length∧k.2.length≤30∧takes left (l.take k.1)=some k.2) (n:=84)
     (fr:=fun k=>[(59,iv k.1),(58,iv l.length),(57,zs l),(12,zs l),(53,iv j),(52,iv roots.length),(51,zss roots),(9,.ptr q 0 0),(8,.arr z 0 k.2.length),(6,.ptr 1 0 0)])
     (hp:=fun k=>[(b,some ⟨false,50,9,((roots.take j).map newS).map sbv⟩),(a,some ⟨false,44,11,(nw i).map wv⟩),(q,some ⟨false,34,8,[pag c t M (.arr a 0 i) (.arr b 0 j)]⟩),(z,some ⟨false,3,1,k.2.map iv⟩),(1,some ⟨false,34,8,[pzero]⟩)])
     (N:=nx3) ?_ (0,left) ⟨Nat.zero_le _,g9,rfl⟩ rfl (by show nx3≤nx3 + 7; omega) ⟨rfl,rfl,rfl,rfl,rfl,rfl,rfl,rfl,rfl,rfl,trivial⟩ (by
      simp only [pag,tks,ms,iv,b1,zb,ab,g7,a1,za,qa,zq,q1,z1,and_self,nb_self,nb_lt0,hlk,kh,eq_self])
    rintro ⟨k,lf⟩ nx4 ⟨h6,h7,h8⟩ hN4 hid4
    dsimp only at h6 h7 h8 hid4 ⊢
    have p0:0 < nx4:=by omega
    have p1:1 < nx4:=by omega
    have pz:z < nx4:=by omega
    have pq:q < nx4:=by omega
    have pa:a < nx4:=by omega
    have pb:b < nx4:=by omega
    refine WP.ofX okAT.core (delF_sound okAT rfl 3) (by rfl) ?_
    by_cases hr2:k < l.length
    ·have hv:(k:Int) < l.length:=by omega
     have hv0:(0:Int)≤(k:Int):=by omega
     have hgr:=getD_z hr2
     have htk2:l.take (k + 1)=l.take k ++ [l.getD k 0]:=by
      rw [List.take_add_one]; simp [List.getElem?_eq_getElem hr2,List.getD_eq_getElem?_getD]
     have w3:IntKind.wrap .i64 ((k:Int) + 1)=((k + 1:Nat):Int):=by rw [wrap_i (by omega) (by omega)]; omega
     generalize l.getD k 0=r at hgr htk2
     simp only [Tryz.func40,Tryz.f40,r_delN,inl,AT_all,hv,hv0,hgr,zb,za,zq,pag,tks,ms,zs,zss,List.length_map,Int.toNat_natCast,nb_self,nb_lt0,Nat.add_assoc,tt_all,iv,ms,ctx_T,ctx_C,ctx_P,List.length_map,String.reduceBEq,Int.toNat_natCast,Int.reduceNeg,ev1,ev2,implies_true,undef,↓condE_t,frzDeep,deepArgs,deepArg,cv,stepB,aopR,one,pre,binR,intOpR,argFrm,evo,lkp,hlk,lenOf,ofCells,TK.agg,frzArg,frzArgs,Nat.reduceAdd,Nat.reduceLT,Nat.reduceLeDiff,reduceCtorEq,eq_self,ne_eq]
     refine WP.loop (ι:=Nat) (fun m=>lf.length - m) (fun m=>m≤lf.length∧r ∉ lf.take m) (n:=19)
      (fr:=fun m=>[(8,iv m),(7,iv lf.length),(0,.arr z 0 lf.length),(1,iv r)])
      (hp:=fun m=>[(b,some ⟨false,50,9,((roots.take j).map newS).map sbv⟩),(a,some ⟨false,44,11,(nw i).map wv⟩),(q,some ⟨false,34,8,[pag c t M (.arr a 0 i) (.arr b 0 j)]⟩),(z,some ⟨false,3,1,lf.map iv⟩),(1,some ⟨false,34,8,[pzero]⟩)])
      (N:=nx4) ?_ 0 ⟨Nat.zero_le _,by simp⟩ rfl (Nat.le_add_right _ _) ⟨rfl,rfl,rfl,rfl,trivial⟩ (by
       simp only [pag,tks,ms,iv,b1,zb,ab,g7,a1,za,qa,zq,q1,z1,and_self,nb_self,nb_lt0,hlk,kh,eq_self])
     rintro m nx5 ⟨u6,u7⟩ hN5 hid5
     have r0:0 < nx5:=by omega
     have r1:1 < nx5:=by omega
     have rz:z < nx5:=by omega
     have rq:q < nx5:=by omega
     have ra:a < nx5:=by omega
     have rb:b < nx5:=by omega
     refine WP.of okAT 2 (by rfl) ?_
     by_cases hm:m < lf.length
     ·have hs:(m:Int) < lf.length:=by omega
      have hs1:(0:Int)≤(m:Int):=by omega
      have hs2:¬ (m:Int) < 0:=by omega
      have hgm:=getD_z hm
      have w2:IntKind.wrap .i64 ((m:Int) + 1)=((m + 1:Nat):Int):=by rw [wrap_i (by omega) (by omega)]; omega
      cases hc:(r == lf.getD m 0) with
      | true=>
       simp only [r_del,delB,hs,hs1,hs2,hgm,hc,w2,b1,zb,ab,g7,a1,za,qa,zq,q1,z1,pag,tks,ms,List.length_map,Int.toNat_natCast,nb_self,nb_lt0,nb_gt0,Nat.add_assoc,tt_all,iv,ms,ctx_T,List.length_map,Int.toNat_natCast,Int.reduceNeg,ev1,ev2,implies_true,undef,↓condE_t,↓condE_f,resB,cv,stepB,aopR,one,pre,binR,intOpR,evo,lkp,hlk,ofCells,TK.agg,sub1,kp,kh,Nat.reduceAdd,Nat.reduceLT,Nat.reduceLeDiff,reduceCtorEq,eq_self,ne_eq]
       have her:lf.erase r=lf.take m ++ lf.drop (m + 1):=erase_at hm (by simpa using hc) u7
       have hlen:(lf.erase r).length=lf.length - 1:=by rw [her]; simp; omega
       have hmem:r∈lf:=by
        have:r=lf.getD m 0:=by simpa using hc
        rw [this]; exact getD_memW hm
       refine ⟨hm,hm,by omega,⟨lf,rfl⟩,(k + 1,lf.erase r),by dsimp only; omega,⟨by dsimp only; omega,by dsimp only; omega,?_⟩,⟨by rw [w3],by dsimp only; rw [hlen]⟩,?_⟩
       ·dsimp only
        rw [htk2,takes_append,h8]
        show (if r∈lf then _ else none)=_
        rw [if_pos hmem]; rfl
       ·dsimp only
        rw [her,List.map_append,List.map_take,List.map_drop]
      | false=>
       simp only [hs,hs1,hgm,hc,w2,b1,zb,ab,g7,a1,za,qa,zq,q1,z1,pag,tks,ms,List.length_map,Int.toNat_natCast,nb_self,nb_lt0,Nat.add_assoc,tt_all,iv,ms,ctx_T,List.length_map,Int.toNat_natCast,Int.reduceNeg,ev1,ev2,implies_true,undef,↓condE_t,↓condE_f,cv,stepB,aopR,one,pre,binR,intOpR,evo,lkp,hlk,ofCells,TK.agg,sub1,kp,kh,Nat.reduceAdd,Nat.reduceLT,Nat.reduceLeDiff,reduceCtorEq,eq_self,ne_eq]
       refine ⟨hm,m + 1,by omega,⟨by omega,?_⟩,rfl⟩
       rw [List.take_add_one,List.mem_append]
       rintro (q5 | q5)
       ·exact u7 q5
       ·have:r=lf.getD m 0:=by
         simp only [List.getElem?_eq_getElem hm,Option.toList_some,List.mem_singleton] at q5
         rw [q5]; simp [List.getD_eq_getElem?_getD,hm]
        rw [this] at hc
        simp at hc
     ·have hs:¬ (m:Int) < lf.length:=by omega
      have em:lf.take m=lf:=List.take_of_length_le (by omega)
      rw [em] at u7
      have e:pNew c t roots=(po0,false):=by
       unfold pNew
       rw [if_neg]
       rintro ⟨_,_,_,q4⟩
       have e1:takeAll L (roots.take (j + 1))=none:=by
        rw [htk,takeAll_append,g10]
        show (takes left l).bind _=none
        have e2:takes left (l.take (k + 1))=none:=by
         rw [htk2,takes_append,h8]
         show (if r∈lf then _ else none)=none
         rw [if_neg u7]
        rw [← List.take_append_drop (k + 1) l,takes_append,e2]; rfl
       rw [hL,← List.take_append_drop (j + 1) roots,takeAll_append,e1] at q4
       cases q4
      rw [e]
      simp only [hs,b1,a1,q1,z1,pzero,po0,pov,wks,sbs,tks,ms,List.map_nil,nb_lt0,Nat.add_assoc,tt_all,iv,ms,ctx_T,Int.reduceNeg,ev1,ev2,undef,↓condE_t,↓condE_f,resB,cv,stepB,aopR,one,pre,binR,intOpR,evo,lkp,hlk,ofVal,ofCells,setCells,fillA,AV.wr,AV.ok1,TK.agg,frz1,frzt,frzs,frzA,subB,subM,subL,sub1,Nat.reduceAdd,Nat.reduceEqDiff,Nat.reduceLT,Nat.reduceLeDiff,reduceCtorEq,eq_self,ne_eq,Int.reduceLT]
    ·have hv:¬ (k:Int) < l.length:=by omega
     have ek:l.take k=l:=List.take_of_length_le (by omega)
     rw [ek] at h8
     have w2:IntKind.wrap .i64 ((j:Int) + 1)=((j + 1:Nat):Int):=by rw [wrap_i (by omega) (by omega)]; omega
     have hl5:l.length≤100000:=by omega
     have htj:(roots.take j).length=j:=by rw [List.length_take]; omega
     have htj2:(((roots.take j).map newS).map sbv).take j=((roots.take j).map newS).map sbv:=List.take_of_length_le (by rw [List.length_map,List.length_map,htj]; exact Nat.le_refl _)
     simp only [AT_all,hv,w2,hl5,htj,htj2,shZs_dec,Option.bind_some,fr00,p1,pz,pq,pa,pb,b1,zb,ab,g7,a1,za,qa,zq,q1,z1,sbv,pag,tks,ms,zs,zss,List.length_map,nb_self,nb_lt,nb_lt0,nb_gt0,Nat.add_assoc,tt_all,row1,iv,u,ms,ctx_T,ctx_C,Option.bind_some,List.length_map,ev1,ev2,implies_true,undef,dynCall,↓condE_f,resB,cv,stepB,stepE,callD,tabD,aopR,one,pre,binR,intOpR,evo,lkp,hlk,asLst,idOf,srcOk,ofVal,ofCells,setCells,setElems,AV.wr,AV.ok1,TK.agg,frz1,frzt,frzA,subB,subM,sub1,kp,kh,accOf,List.replicate,Nat.reduceAdd,Nat.reduceMul,Nat.reduceEqDiff,Nat.reduceLT,Nat.reduceLeDiff,reduceCtorEq,eq_self,ne_eq]
     refine ⟨?_,⟨Nat.le_refl _,by omega⟩,?_⟩
     ·show entryOk _ _ _ _ _=true; (repeat (first | exact entryOk_nil _ _ _ _ | (refine entryOk_step ?h ?_; case h=>(first | (apply Or.inr; constructor <;> simp [meets] <;> omega; done) | (apply Or.inl; show anc _ _ _ _=true; kernel_rfl)))))
     repeat' apply And.intro
     all_goals try (show entryOk _ _ _ _ _=true; (repeat (first | exact entryOk_nil _ _ _ _ | (refine entryOk_step ?h ?_; case h=>(first | (apply Or.inr; constructor <;> simp [meets] <;> omega; done) | (apply Or.inl; show anc _ _ _ _=true; kernel_rfl))))))
     refine ⟨(j + 1,nx4 + 6,lf),by dsimp only; omega,⟨by dsimp only; omega,by dsimp only; omega,by dsimp only; omega,by dsimp only; omega,?_⟩,?_⟩
     ·dsimp only
      rw [htk,takeAll_append,g10]
      show (takes left l).bind _=_
      rw [h8]; rfl
     ·simp only [htk,newS,sbv,zs,iv,u,fr00,List.map_append,List.map_cons,List.map_nil,pq,and_self,nb_self,nb_gt,eq_self]
   ·have hx:¬ (j:Int) < roots.length:=by omega
    have ej:roots.take j=roots:=List.take_of_length_le (by omega)
    rw [ej] at g10
    have e:pNew c t roots=(newP c t roots,true):=by
     unfold pNew
     rw [if_pos ⟨h1,h2,h3,by rw [hL,g10]; rfl⟩]
    rw [e]
    simp only [hx,b1,ab,g7,a1,qa,q1,z1,ej,hnl,pag,pzero,newP,tks,ms,zss,List.length_map,nb_self,nb_lt0,nb_gt0,Nat.add_assoc,tt_all,hfree_lu,iv,ms,ctx_T,List.length_map,ev1,ev2,undef,↓condE_f,resB,cv,stepB,aopR,one,pre,binR,intOpR,evo,lkp,hlk,ofCells,setCells,AV.wr,AV.ok1,TK.agg,frz1,frzt,frzs,frzA,subB,subM,sub1,Nat.reduceAdd,Nat.reduceEqDiff,Nat.reduceLT,Nat.reduceLeDiff,reduceCtorEq,eq_self,ne_eq]
    refine ⟨hf_tks t,Nat.le_refl _,fun x hx=>?_,by omega,fun x hx=>?_,?_⟩
    ·obtain ⟨y,_,rfl⟩:=List.mem_map.1 (List.mem_of_mem_take hx)
     exact elW.cfree y
    ·obtain ⟨y,_,rfl⟩:=List.mem_map.1 (List.mem_of_mem_take hx)
     exact elS.cfree y
    ·have ej2:j=roots.length:=by omega
     have e1:((nw i).map wv).take i=(nw i).map wv:=List.take_of_length_le (by rw [List.length_map,nw_len]; exact Nat.le_refl _)
     have e2:((roots.map newS).map sbv).take j=(roots.map newS).map sbv:=List.take_of_length_le (by rw [List.length_map,List.length_map]; omega)
     rw [e1,e2,hM]
     simp only [pov,tks,ms,wks,sbs,iv,hcw,Int.toNat_natCast]
     exact ⟨rfl,rfl,rfl,rfl,rfl,rfl,rfl,rfl,trivial⟩
theorem new_pure_p (c:Cf) (t:List Tk) (roots:List (List Int)) (ht:tB t=true) (hr:∀ l∈roots,l.length≤1000) :
  PureC Tryz.prog 14 [cv' c,tks t,zss roots] (.tup [pov (pNew c t roots).1,bv (pNew c t roots).2]):=by
 by_cases h:mayC c=true∧fMay t=true∧roots.length≤3
 ·exact new_yes c t roots ht hr h.1 h.2.1 h.2.2
 ·exact new_no c t roots ht h
end Go.Vai

/- A script, played. -/
namespace Go.Vai
open Go.RowKit Go.Proofs
set_option maxHeartbeats 4000000
set_option maxRecDepth 100000
instance (p:Po) (l:List Pk):Decidable (RIn p l):=
 if h:PB p 50000∧pMay p=true∧l.length≤40000∧(∀ x∈p.w,opOk x)∧(∀ x∈p.s,opOkS x) then .isTrue ⟨h.1,h.2.1,h.2.2.1,h.2.2.2.1,h.2.2.2.2⟩
 else .isFalse fun k=>h ⟨k.b,k.may,k.len,k.w,k.s⟩
def rtB (l:List (List Int)):Bool:=l.all fun x=>decide (x.length≤1000)
theorem rtB_iff {l:List (List Int)} (h:rtB l=true):∀ x∈l,x.length≤1000:=by
 intro x hx
 have:=List.all_eq_true.1 h x hx
 simpa using this
def rowsAU:List Row:=[
 (14,row3 shC shT shZss fun c t r=>if tB t=true∧rtB r=true then some (.tup [pov (pNew c t r).1,bv (pNew c t r).2]) else none),
 (25,row2 shPo shPs fun p l=>if RIn p l then some (.tup [pov (pRun p l).1,evs (pRun p l).2]) else none)] ++ rowsAT
theorem rowsAU_ok:∀ p∈rowsAU,RowOk Tryz.prog p:=fun p h=>by
 simp only [rowsAU,List.mem_append,List.mem_cons,List.not_mem_nil,or_false,or_assoc] at h
 rcases h with rfl | rfl | h
 ·exact ok_row3 (enters_of Tryz.func14 (by decide) rfl) fun c t r q _ _ _ e=>by obtain ⟨h,rfl⟩:=opt_if e; exact new_pure_p c t r h.1 (rtB_iff h.2)
 ·exact ok_row2 (enters_of Tryz.func25 (by decide) rfl) fun p l r _ _ e=>by obtain ⟨h,rfl⟩:=opt_if e; exact run_pure p l h
 ·exact rowsAT_ok p h
theorem okAU:(ctx Tryz.prog rowsAU).ok:=rows_ok rowsAU_ok
theorem AU_all:tabC rowsAU 14=(row3 shC shT shZss fun c t r=>if tB t=true∧rtB r=true then some (.tup [pov (pNew c t r).1,bv (pNew c t r).2]) else none)∧tabC rowsAU 25=(row2 shPo shPs fun p l=>if RIn p l then some (.tup [pov (pRun p l).1,evs (pRun p l).2]) else none)∧tabC rowsAU 15=(row1 shBy fun b=>if b.length≤1500 then some (pks (decode b)) else none)∧tabC rowsAU 191=(row1 shN fun e=>some (.tup [u (wBump e),iv (wLow (wMask e))]))∧tabC rowsAU 190=(fun _=>none)∧tabC rowsAU 192=(fun _=>none)∧tabC rowsAU 30=(row1 shN fun e=>some (u (wMask e))):=⟨rfl,rfl,rfl,rfl,rfl,rfl,rfl⟩
theorem takes_mem:∀ (l:List Int) (left left':List Int),takes left l=some left'→(∀ x∈l,x∈left)∧(∀ x∈left',x∈left)
 | [],left,left',h=>by
  simp only [takes,Option.some.injEq] at h
  subst h; exact ⟨fun x hx=>absurd hx List.not_mem_nil,fun x hx=>hx⟩
 | r :: rs,left,left',h=>by
  unfold takes at h
  split at h
  ·rename_i hm
   obtain ⟨h1,h2⟩:=takes_mem rs _ _ h
   refine ⟨fun x hx=>?_,fun x hx=>List.mem_of_mem_erase (h2 x hx)⟩
   rcases List.mem_cons.1 hx with rfl | hx
   ·exact hm
   ·exact List.mem_of_mem_erase (h1 x hx)
  ·cases h
theorem takeAll_mem:∀ (l:List (List Int)) (left:List Int),(takeAll left l).isSome=true→∀ x∈l,∀ y∈x,y∈left
 | [],left,h=>fun x hx=>by cases hx
 | a :: r,left,h=>by
  unfold takeAll at h
  cases ht:takes left a with
  | none=>rw [ht] at h; cases h
  | some left'=>
   rw [ht] at h
   obtain ⟨h1,h2⟩:=takes_mem a left left' ht
   intro x hx y hy
   rcases List.mem_cons.1 hx with rfl | hx
   ·exact h1 y hy
   ·exact h2 y (takeAll_mem r left' h x hx y hy)
theorem tMay_nil {t:List Tk} (h:fMay t=true):tMay t []=true:=by simp [tMay,h]
theorem new_rin {c:Cf} {t:List Tk} {r:List (List Int)} {l:List Pk} (ht:tB t=true) (hr:rtB r=true) (hl:l.length≤40000) (h:(pNew c t r).2=true):(pNew c t r).1=newP c t r∧mayC c=true∧RIn (newP c t r) l:=by
 unfold pNew at h ⊢
 split at h
 ·rename_i hc
  obtain ⟨h1,h2,h3,h4⟩:=hc
  have si:=SI.new (t:=t) (roots:=r) h1
  rw [if_pos ⟨h1,h2,h3,h4⟩]
  refine ⟨rfl,h1,⟨ht,?_,?_,?_⟩,?_,hl,?_,?_⟩
  ·have l0:Lay c (newP c t r).m 0:=⟨h1,si.mi.len,Int.le_refl _,by have:=mayC_iff.1 h1; omega⟩
   have:=l0.small
   omega
  ·intro x hx
   obtain ⟨i,_,rfl⟩:=List.mem_map.1 hx
   exact Nat.zero_le _
  ·intro x hx
   obtain ⟨y,hy,rfl⟩:=List.mem_map.1 hx
   have:=rtB_iff hr y hy
   show y.length≤_
   omega
  ·have hwl:=si.wl
   have e1:((newP c t r).w.length:Int)=c.w:=si.wl
   unfold pMay
   simp only [Bool.and_eq_true,beq_iff_eq,decide_eq_true_eq]
   refine ⟨⟨⟨⟨h1,si.wl⟩,?_⟩,?_⟩,?_⟩
   ·show (r.map newS).length≤3
    simpa using h3
   ·unfold allW
    rw [List.all_eq_true]
    intro i hi
    have hi':i < (newP c t r).w.length:=List.mem_range.1 hi
    have hic:i < c.w.toNat:=by omega
    have e2:(newP c t r).w.getD i wk0=newW i:=newW_get hic
    rw [e2]
    have e3:(newP c t r).c=c:=rfl
    have e4:(newP c t r).t=t:=rfl
    have e5:(((newP c t r).m.length:Int) == lSize c)=true:=by
     have:=si.mi.len
     rw [e3] at this
     simpa using this
    unfold wMay
    rw [e3,e4,e5]
    simp only [Bool.and_eq_true,decide_eq_true_eq]
    exact ⟨⟨⟨⟨⟨⟨⟨h1,trivial⟩,h2⟩,by omega⟩,by omega⟩,by simp [newW]⟩,by simp [newW]⟩,tMay_nil h2⟩
   ·rw [List.all_eq_true]
    intro x hx
    obtain ⟨y,hy,rfl⟩:=List.mem_map.1 hx
    have e4:(newP c t r).t=t:=rfl
    rw [e4]
    have ha:y.all (okRoot t.length)=true:=by
     rw [List.all_eq_true]
     intro k hk
     have:=takeAll_mem r (fRoots t) h4 y hy k hk
     unfold fRoots at this
     have:=(List.mem_filter.1 this).1
     obtain ⟨n,hn,rfl⟩:=List.mem_map.1 this
     have:=List.mem_range.1 hn
     simp only [okRoot,Bool.and_eq_true,decide_eq_true_eq]
     omega
    simp [okSub,newS,ha]
  ·intro x hx
   obtain ⟨i,_,rfl⟩:=List.mem_map.1 hx
   simp [opOk,newW]
  ·intro x hx
   obtain ⟨i,_,rfl⟩:=List.mem_map.1 hx
   simp [opOkS,newS]
 ·cases h
def pPlay (c:Cf) (t:List Tk) (r:List (List Int)) (b:List Int):Po × List Ev × Bool:=
 if (pNew c t r).2=true then ((pRun (newP c t r) (decode b)).1,(pRun (newP c t r) (decode b)).2,true) else (po0,[],false)
theorem play_pure (c:Cf) (t:List Tk) (r:List (List Int)) (b:List Int) (ht:tB t=true) (hr:rtB r=true) (hb:b.length≤1500) :
  PureC Tryz.prog 8 [cv' c,tks t,zss r,bys b] (.tup [pov (pPlay c t r b).1,evs (pPlay c t r b).2.1,bv (pPlay c t r b).2.2]):=by
 refine pure_sub okAU 2 Tryz.func8 rfl (by show 4≤_; decide) ?_
 have hd:(decode b).length≤40000:=by have:=decode_len 500 b (by omega); omega
 unfold pPlay
 cases hn:(pNew c t r).2 with
 | false=>
  rw [if_neg (by simp)]
  generalize (pNew c t r).1=p at *
  simp only [Tryz.f8,AU_all,sx_all,ht,hr,hn,and_self,tks,zss,bys,pov,po0,wks,sbs,evs,ms,List.map_nil,tt_all,cv',cf_eta,shC_dec,dC,row3,iv,bv,ms,ctx_T,ctx_C,Option.bind_some,ev1,ev2,undef,↓condE_t,resB,cv,stepB,aopR,one,pre,unR,argFrm,evo,lkp,hlk,ofVal,ofCells,setCells,fillA,AV.wr,AV.ok1,TK.agg,frz,frz1,frzt,frzs,frzA,subA,subB,subM,subL,sub1,Nat.reduceAdd,Nat.reduceEqDiff,Nat.reduceLT,Nat.reduceLeDiff,reduceCtorEq,eq_self,ne_eq]
  all_goals ((repeat' apply And.intro) <;> first | rfl | omega | (show (_:Bool)=true; kernel_rfl) | decide)
 | true=>
  obtain ⟨e1,e2,e3⟩:=new_rin (l:=decode b) ht hr hd hn
  rw [if_pos rfl]
  generalize hp:newP c t r=p at *
  generalize hq:pRun p (decode b)=q at *
  obtain ⟨⟨cw,cd,ci,cs⟩,pt,pm,pw,ps⟩:=p
  obtain ⟨⟨⟨qcw,qcd,qci,qcs⟩,qt,qm,qw,qs⟩,qe⟩:=q
  simp only [Tryz.f8,AU_all,sx_all,ht,hr,hn,hb,e1,e3,hq,shBy_dec,and_self,tks,zss,bys,pov,wks,sbs,pks,evs,ms,List.map_nil,tt_all,cv',cf_eta,shC_dec,dC,hfree_lu,row1,row2,row3,iv,bv,ms,ctx_T,ctx_C,Option.bind_some,ev1,ev2,undef,dynCall,↓condE_f,resB,cv,stepB,stepE,callD,tabD,aopR,one,pre,unR,argFrm,evo,lkp,hlk,ofVal,ofCells,setCells,AV.wr,AV.ok1,TK.agg,frz,frz1,frzt,frzs,frzA,subA,subB,subM,subL,sub1,accOf,Nat.reduceAdd,Nat.reduceEqDiff,Nat.reduceLT,Nat.reduceLeDiff,reduceCtorEq,eq_self,ne_eq]
  repeat' apply And.intro
  any_goals (show entryOk _ _ _ _ _=true; kernel_rfl)
  any_goals exact hf_tks _
  all_goals first | exact hf_evs _ | exact hf_wks _ | exact hf_sbs _ | exact hfree_ms _ | rfl | trivial | trace_state
end Go.Vai

/- Rounds of all, and when all rests: by lists alone; the pool that the statements try first. -/
namespace Go.Vai
open Go.RowKit
set_option maxRecDepth 100000
def rnd (w s:Nat) (n:Int):List Pk:=(List.range w).map (fun (i:Nat)=>(⟨0,i,n⟩:Pk)) ++ (List.range s).map (fun (i:Nat)=>(⟨1,i,n⟩:Pk))
def busy (s:Sb):Bool:=s.pc != 0
def rest1 (c:Cf) (m:List Int) (i:Nat) (x:Wk):Bool:=wkPark x && (mLoad m (lPark c i) == 0)
def pAsleep (p:Po):Bool:=pMay p && !(p.s.any busy) && (List.range p.w.length).all fun i=>rest1 p.c p.m i (p.w.getD i wk0)
def hasR (s:Sb):Bool:=decide ((s.roots.length:Int) > 0)
def pRested (p:Po):Bool:=pAsleep p && (mLoad p.m 0 == 0) && !(p.s.any hasR)
def c1:Cf:=⟨2,1,1,1⟩
def t1:List Tk:=[⟨1,[1]⟩,⟨2,[]⟩]
def r1:List (List Int):=[[0]]
def b1:List Int:=[1,0,0,1,0,0]
def drn (p:Po):Nat→Po × List Ev
 | 0=>(p,[])
 | n + 1=>((pRun (drn p n).1 (rnd 2 1 n)).1,(drn p n).2 ++ (pRun (drn p n).1 (rnd 2 1 n)).2)
def many (k:Int) (l:List Ev):Int:=(l.countP fun e=>e.kind == k:Nat)
end Go.Vai

/- Does all rest? -/
namespace Go.Vai
open Go.RowKit Go.Proofs
set_option maxHeartbeats 4000000
set_option maxRecDepth 100000
def rowsAV:List Row:=[] ++ rowsAU
theorem rowsAV_ok:∀ p∈rowsAV,RowOk Tryz.prog p:=fun p h=>by
 simp only [rowsAV,List.mem_append,List.not_mem_nil,false_or] at h
 rcases h with h
 ·exact rowsAU_ok p h
theorem okAV:(ctx Tryz.prog rowsAV).ok:=rows_ok rowsAV_ok
theorem AV_all:tabC rowsAV 50=(fun _=>none)∧tabC rowsAV 78=(fun _=>none)∧tabC rowsAV 17=(fun _=>none)∧tabC rowsAV 51=(fun _=>none)∧tabC rowsAV 83=(fun _=>none)∧tabC rowsAV 191=(row1 shN fun e=>some (.tup [u (wBump e),iv (wLow (wMask e))]))∧tabC rowsAV 27=(row1 shF fun f=>some (bv (wParked f)))∧tabC rowsAV 190=(fun _=>none)∧tabC rowsAV 192=(fun _=>none)∧tabC rowsAV 30=(row1 shN fun e=>some (u (wMask e))):=⟨rfl,rfl,rfl,rfl,rfl,rfl,rfl,rfl,rfl,rfl⟩
theorem any_hit {α:Type} {p:α→Bool} {l:List α} {i:Nat} {d:α} (hi:i < l.length) (hp:p (l.getD i d)=true):l.any p=true:=by
 rw [List.any_eq_true]
 exact ⟨_,getD_memW hi,hp⟩
theorem take_any {α:Type} {p:α→Bool} {l:List α} {i:Nat} {d:α} (h:(l.take i).any p=false) (hi:i < l.length) (hp:p (l.getD i d)=false):(l.take (i + 1)).any p=false:=by
 rw [List.take_add_one,List.any_append,h,Bool.false_or]
 simp [List.getElem?_eq_getElem hi,List.getD_eq_getElem?_getD] at hp ⊢
 exact hp
theorem anyS_pure (g:FuncId) (q:Sb→Bool) (l:List Sb) (hl:l.length≤1000)
  (hg:g=17∧q=busy∨g=51∧q=hasR):PureC Tryz.prog 50 [sbs l,.fn (.func g) [] []] (bv (l.any q)):=by
 refine pure_sub okAV 3 Tryz.func50 rfl (by show 2≤_; decide) ?_
 simp only [Tryz.f50,Tryz.func78,Tryz.f78,inl,AV_all,sbs,List.length_map,tt_all,bv,ctx_T,ctx_C,ctx_P,List.length_map,String.reduceBEq,Int.reduceNeg,ev1,ev2,undef,frzDeep,deepArgs,deepArg,cv,stepB,aopR,one,argFrm,evo,lkp,lenOf,frz,frz1,frzA,frzArg,frzArgs,subA,subB,sub1,Nat.reduceAdd,Nat.reduceLT,Nat.reduceLeDiff,eq_self]
 refine WP.loop (fun i:Nat=>l.length - i) (fun i=>i≤l.length∧(l.take i).any q=false) (n:=19) (fr:=fun i=>[(8,iv i),(7,iv l.length),(0,sbs l),(1,.fn (.func g) [] [])]) (hp:=fun _=>[]) (N:=0) ?_ 0 ⟨Nat.zero_le _,rfl⟩ rfl (Nat.zero_le _) ⟨rfl,rfl,rfl,rfl,trivial⟩ trivial
 rintro i nx ⟨h1,h2⟩ _ _
 refine WP.of okAV 2 (by rfl) ?_
 by_cases hi:i < l.length
 ·have hz:(i:Int) < l.length:=by omega
  have hz0:(0:Int)≤(i:Int):=by omega
  have hg0:(i:Int) ≥ 0:=by omega
  have w1:IntKind.wrap .i64 ((i:Int) + 1)=((i + 1:Nat):Int):=by rw [wrap_i (by omega) (by omega)]; omega
  have hgs:=getD_s hi
  have hbad:q (l.getD i sb0)=true→l.any q=true:=any_hit hi
  have hgood:q (l.getD i sb0)=false→(l.take (i + 1)).any q=false:=take_any h2 hi
  rw [show (⟨0,[],fr00⟩:Sb)=sb0 from rfl] at hgs
  generalize l.getD i sb0=x at hgs hbad hgood
  cases hq:q x with
  | true=>
   rw [hbad hq]
   rcases hg with ⟨rfl,rfl⟩ | ⟨rfl,rfl⟩
   ·have hq':(x.pc != 0)=true:=hq
    simp only [Tryz.func17,Tryz.f17,inl,AV_all,hz,hz0,hgs,hq',sbs,sbv,zs,List.length_map,Int.toNat_natCast,nb_self,Nat.add_assoc,tt_all,iv,u,ctx_T,ctx_C,ctx_P,List.length_map,String.reduceBEq,Int.toNat_natCast,Int.reduceNeg,ev1,ev2,implies_true,undef,↓condE_t,frzDeep,deepArgs,deepArg,resB,cv,stepB,aopR,one,pre,binR,intOpR,argFrm,evo,lkp,hlk,ofCells,AV.wr,AV.ok1,TK.agg,frzArg,frzArgs,Nat.reduceAdd,Nat.reduceEqDiff,Nat.reduceLT,Nat.reduceLeDiff,reduceCtorEq,eq_self,ne_eq]
    all_goals ((repeat' apply And.intro) <;> first | rfl | omega | (show (_:Bool)=true; kernel_rfl) | decide)
   ·have hq':(x.roots.length:Int) > 0:=by simpa [hasR] using hq
    simp only [Tryz.func51,Tryz.f51,inl,AV_all,hz,hz0,hgs,hq',sbs,sbv,zs,List.length_map,Int.toNat_natCast,decide_true,nb_self,Nat.add_assoc,tt_all,iv,u,ctx_T,ctx_C,ctx_P,List.length_map,String.reduceBEq,Int.toNat_natCast,Int.reduceNeg,ev1,ev2,implies_true,undef,↓condE_t,frzDeep,deepArgs,deepArg,resB,cv,stepB,aopR,one,pre,binR,intOpR,argFrm,evo,lkp,hlk,lenOf,ofCells,AV.wr,AV.ok1,TK.agg,frzArg,frzArgs,Nat.reduceAdd,Nat.reduceEqDiff,Nat.reduceLT,Nat.reduceLeDiff,reduceCtorEq,eq_self,ne_eq]
    all_goals ((repeat' apply And.intro) <;> first | rfl | omega | (show (_:Bool)=true; kernel_rfl) | decide)
  | false=>
   rcases hg with ⟨rfl,rfl⟩ | ⟨rfl,rfl⟩
   ·have hq':(x.pc != 0)=false:=hq
    simp only [Tryz.func17,Tryz.f17,inl,AV_all,hz,hz0,hgs,hq',w1,sbs,sbv,zs,List.length_map,Int.toNat_natCast,nb_self,Nat.add_assoc,tt_all,iv,u,ctx_T,ctx_C,ctx_P,List.length_map,String.reduceBEq,Int.toNat_natCast,Int.reduceNeg,ev1,ev2,implies_true,undef,↓condE_t,↓condE_f,frzDeep,deepArgs,deepArg,resB,cv,stepB,aopR,one,pre,binR,intOpR,argFrm,evo,lkp,hlk,ofCells,AV.wr,AV.ok1,TK.agg,frzArg,frzArgs,sub1,kp,kh,Nat.reduceAdd,Nat.reduceEqDiff,Nat.reduceLT,Nat.reduceLeDiff,reduceCtorEq,eq_self,ne_eq]
    exact ⟨i + 1,by omega,⟨by omega,hgood hq⟩,rfl⟩
   ·have hq':¬ (x.roots.length:Int) > 0:=by simpa [hasR] using hq
    simp only [Tryz.func51,Tryz.f51,inl,AV_all,hz,hz0,hgs,hq',w1,sbs,sbv,zs,List.length_map,Int.toNat_natCast,decide_false,nb_self,Nat.add_assoc,tt_all,iv,u,ctx_T,ctx_C,ctx_P,List.length_map,String.reduceBEq,Int.toNat_natCast,Int.reduceNeg,ev1,ev2,implies_true,undef,↓condE_t,↓condE_f,frzDeep,deepArgs,deepArg,resB,cv,stepB,aopR,one,pre,binR,intOpR,argFrm,evo,lkp,hlk,lenOf,ofCells,AV.wr,AV.ok1,TK.agg,frzArg,frzArgs,sub1,kp,kh,Nat.reduceAdd,Nat.reduceEqDiff,Nat.reduceLT,Nat.reduceLeDiff,reduceCtorEq,eq_self,ne_eq]
    exact ⟨i + 1,by omega,⟨by omega,hgood hq⟩,rfl⟩
 ·have hz:¬ (i:Int) < l.length:=by omega
  have e:l.any q=false:=by rwa [List.take_of_length_le (by omega)] at h2
  rw [e]
  simp only [hz,sbs,Nat.add_assoc,iv,Int.reduceNeg,ev1,ev2,undef,↓condE_f,resB,cv,stepB,aopR,one,pre,binR,intOpR,evo,lkp,Nat.reduceAdd,Nat.reduceLT,eq_self,Int.reduceGE]
  all_goals ((repeat' apply And.intro) <;> first | rfl | omega | (show (_:Bool)=true; kernel_rfl) | decide)
theorem wkpark_pure (x:Wk):PureC Tryz.prog 10 [wv x] (bv (wkPark x)):=by
 refine pure_sub okAV 1 Tryz.func10 rfl (by show 1≤_; decide) ?_
 obtain ⟨pc,st,⟨op,p,who,val,fx,fy,res⟩,sp,lk⟩:=x
 unfold wkPark
 cases h:pc == 8 with
 | false=>
  simp only [Tryz.f10,h,wv,its,Bool.false_and,tt_all,iv,bv,u,ctx_T,ev1,ev2,implies_true,undef,↓guardE_ft,resB,cv,stepB,guardB,guardC,dstAt,aopR,one,pre,binR,intOpR,argFrm,evo,lkp,hlk,ofCells,AV.wr,AV.ok1,TK.agg,frz,frz1,frzA,subA,subB,sub1,Nat.reduceAdd,Nat.reduceLT,Nat.reduceLeDiff,reduceCtorEq,eq_self,ne_eq]
  all_goals ((repeat' apply And.intro) <;> first | rfl | omega | (show (_:Bool)=true; kernel_rfl) | decide)
 | true=>
  simp only [Tryz.f10,AV_all,h,wv,its,Bool.true_and,tt_all,row1,iv,bv,u,ctx_T,ctx_C,Option.bind_some,shF_dec,dF,ev1,ev2,implies_true,undef,↓guardE_tt,resB,cv,stepB,guardB,guardC,dstAt,aopR,one,pre,binR,intOpR,argFrm,evo,lkp,hlk,ofCells,AV.wr,AV.ok1,TK.agg,frz,frz1,frzA,subA,subB,sub1,Nat.reduceAdd,Nat.reduceEqDiff,Nat.reduceLT,Nat.reduceLeDiff,reduceCtorEq,eq_self,ne_eq]
  all_goals ((repeat' apply And.intro) <;> first | rfl | omega | (show (_:Bool)=true; kernel_rfl) | decide)
theorem wr1:IntKind.wrap .i64 1=1:=by decide
theorem wr2:IntKind.wrap .i64 2=2:=by decide
theorem wr3:IntKind.wrap .i64 3=3:=by decide
theorem round_pure (n:Int):PureC Tryz.prog 77 [iv 2,iv 1,u n] (pks (rnd 2 1 n)):=by
 refine pure_sub okAV 1 Tryz.func77 rfl (by show 3≤_; decide) ?_
 simp only [Tryz.f77,Tryz.func83,Tryz.f83,inl,AV_all,iv,u,ctx_T,ctx_C,ctx_P,String.reduceBEq,ev1,ev2,undef,↓condE_f,↓guardE_tt,↓guardE_ff,frzDeep,deepArgs,deepArg,resB,cv,stepB,guardB,guardC,dstAt,aopR,one,pre,binR,intOpR,unR,argFrm,evo,lkp,frz,frz1,frzA,frzArg,frzArgs,subA,subB,sub1,Nat.reduceAdd,Nat.reduceLT,Nat.reduceLeDiff,eq_self,Int.reduceLT,Int.reduceGE]
 refine WP.rounds okAV 1 3 (by rfl) ?_
 simp only [r_rounds,wr1,wr2,Int.reduceAdd,Int.reduceLT,decide_true,decide_false,tt_all,ctx_T,Option.map_some,Int.reduceAdd,ev1,ev2,undef,↓condE_t,↓condE_f,cv,stepB,aopR,one,pre,binR,intOpR,evo,lkp,hlk,asLst,idOf,srcOk,ofVal,fillA,setElems,AV.wr,AV.ok1,List.replicate,Nat.reduceAdd,Nat.reduceMul,Nat.reduceLT,Nat.reduceLeDiff,reduceCtorEq,eq_self,ne_eq,Int.reduceLT]
 refine WP.rounds okAV 1 2 (by rfl) ?_
 simp only [r_rounds,wr1,Int.reduceAdd,Int.reduceLT,decide_true,decide_false,pks,rnd,tt_all,ctx_T,Option.map_some,Int.reduceAdd,ev1,ev2,undef,↓condE_t,↓condE_f,resB,cv,stepB,aopR,one,pre,binR,intOpR,evo,lkp,hlk,asLst,idOf,srcOk,ofVal,fillA,setElems,AV.wr,AV.ok1,List.replicate,Nat.reduceAdd,Nat.reduceMul,Nat.reduceLT,Nat.reduceLeDiff,reduceCtorEq,eq_self,ne_eq,Int.reduceLT]
 refine ⟨fun x hx c hc=>?_,rfl⟩
 simp only [List.mem_cons,List.not_mem_nil,or_false] at hx
 rcases hx with rfl | rfl | rfl <;>
  (simp only [AV.cells,List.mem_cons,List.not_mem_nil,or_false] at hc; rcases hc with rfl | rfl | rfl <;> exact hfree_v _)
end Go.Vai

/- Are all asleep, and does all rest? -/
namespace Go.Vai
open Go.RowKit Go.Proofs
set_option maxHeartbeats 4000000
set_option maxRecDepth 100000
def rowsAW:List Row:=[
 (50,row2 shSs (shFn 17) fun l _=>if l.length≤1000 then some (bv (l.any busy)) else none),
 (10,row1 shWk fun x=>some (bv (wkPark x))),
 (77,row3 shI shI shN fun w s n=>if w=2∧s=1 then some (pks (rnd 2 1 n)) else none)] ++ rowsAV
theorem rowsAW_ok:∀ p∈rowsAW,RowOk Tryz.prog p:=fun p h=>by
 simp only [rowsAW,List.mem_append,List.mem_cons,List.not_mem_nil,or_false,or_assoc] at h
 rcases h with rfl | rfl | rfl | h
 ·exact ok_row2 (enters_of Tryz.func50 (by decide) rfl) fun l _ r _ _ e=>by obtain ⟨h,rfl⟩:=opt_if e; exact anyS_pure _ _ l h (.inl ⟨rfl,rfl⟩)
 ·exact ok_row1 (enters_of Tryz.func10 (by decide) rfl) fun x r _ e=>by cases e; exact wkpark_pure x
 ·exact ok_row3 (enters_of Tryz.func77 (by decide) rfl) fun w s n r _ _ _ e=>by obtain ⟨⟨rfl,rfl⟩,rfl⟩:=opt_if e; exact round_pure n
 ·exact rowsAV_ok p h
theorem okAW:(ctx Tryz.prog rowsAW).ok:=rows_ok rowsAW_ok
theorem AW_all:tabC rowsAW 50=(row2 shSs (shFn 17) fun l _=>if l.length≤1000 then some (bv (l.any busy)) else none)∧tabC rowsAW 10=(row1 shWk fun x=>some (bv (wkPark x)))∧tabC rowsAW 77=(row3 shI shI shN fun w s n=>if w=2∧s=1 then some (pks (rnd 2 1 n)) else none)∧tabC rowsAW 17=(fun _=>none)∧tabC rowsAW 51=(fun _=>none)∧tabC rowsAW 44=(row1 shPo fun p=>if PB p 100000 then some (bv (pMay p)) else none)∧tabC rowsAW 191=(row1 shN fun e=>some (.tup [u (wBump e),iv (wLow (wMask e))]))∧tabC rowsAW 190=(fun _=>none)∧tabC rowsAW 192=(fun _=>none)∧tabC rowsAW 30=(row1 shN fun e=>some (u (wMask e)))∧tabC rowsAW 13=(row2 shC shI fun c w=>some (iv (lPark c w)))∧tabC rowsAW 12=(row2 shM shI fun m i=>some (u (mLoad m i))):=⟨rfl,rfl,rfl,rfl,rfl,rfl,rfl,rfl,rfl,rfl,rfl,rfl⟩
theorem rangeAll_not {n i:Nat} {f:Nat→Bool} (hi:i < n) (h:f i=false):(List.range n).all f=false:=by
 rw [Bool.eq_false_iff,Ne,List.all_eq_true]
 intro k
 have:=k i (List.mem_range.2 hi)
 rw [h] at this; cases this
theorem asleep_pure (p:Po) (h:PB p 100000):PureC Tryz.prog 49 [pov p] (bv (pAsleep p)):=by
 refine pure_sub okAW 2 Tryz.func49 rfl (by show 1≤_; decide) ?_
 obtain ⟨c,t,m,ws,ss⟩:=p
 have hm:=h.m
 dsimp only at hm
 unfold pAsleep
 cases h1:pMay ⟨c,t,m,ws,ss⟩ with
 | false=>
  simp only [Tryz.f49,AW_all,sx_all,h,h1,pov,tks,wks,sbs,ms,Bool.false_and,tt_all,cf_eta,row1,iv,bv,ms,ctx_T,ctx_C,Option.bind_some,ev1,ev2,undef,↓condE_t,↓guardE_tf,resB,cv,stepB,guardB,guardC,dstAt,aopR,one,pre,unR,argFrm,evo,lkp,hlk,ofCells,AV.wr,AV.ok1,TK.agg,frz,frz1,frzA,subA,subB,sub1,Nat.reduceAdd,Nat.reduceEqDiff,Nat.reduceLT,Nat.reduceLeDiff,reduceCtorEq,eq_self,ne_eq]
  all_goals ((repeat' apply And.intro) <;> first | rfl | omega | (show (_:Bool)=true; kernel_rfl) | decide)
 | true=>
  have h1':=h1
  simp only [pMay,Bool.and_eq_true,decide_eq_true_eq,beq_iff_eq] at h1'
  obtain ⟨⟨⟨⟨q1,q2⟩,q3⟩,q4⟩,q5⟩:=h1'
  have hw8:ws.length≤8:=by have:=mayC_iff.1 q1; omega
  have hsl:ss.length≤1000:=by omega
  cases h2:ss.any busy with
  | true=>
   simp only [Tryz.f49,AW_all,sx_all,shFn_dec,h,h1,h2,hsl,pov,tks,wks,sbs,ms,Bool.true_and,Bool.not_true,Bool.false_and,tt_all,cf_eta,row1,row2,iv,bv,ms,ctx_T,ctx_C,Option.bind_some,ev1,ev2,implies_true,undef,↓condE_t,↓guardE_ff,resB,cv,stepB,guardB,guardC,dstAt,aopR,one,pre,unR,argFrm,evo,lkp,hlk,ofCells,AV.wr,AV.ok1,TK.agg,frz,frz1,frzA,subA,subB,sub1,Nat.reduceAdd,Nat.reduceEqDiff,Nat.reduceLT,Nat.reduceLeDiff,reduceCtorEq,eq_self,ne_eq]
   all_goals ((repeat' apply And.intro) <;> first | rfl | omega | (show (_:Bool)=true; kernel_rfl) | decide)
  | false=>
   simp only [Tryz.f49,AW_all,sx_all,shFn_dec,h,h1,h2,hsl,pov,tks,wks,sbs,ms,List.length_map,Bool.true_and,Bool.not_false,tt_all,cf_eta,row1,row2,iv,bv,ms,ctx_T,ctx_C,Option.bind_some,List.length_map,ev1,ev2,implies_true,undef,↓condE_f,↓guardE_ff,cv,stepB,guardB,guardC,dstAt,aopR,one,pre,unR,argFrm,evo,lkp,hlk,lenOf,ofCells,AV.wr,AV.ok1,TK.agg,frz,frz1,frzA,subA,subB,sub1,Nat.reduceAdd,Nat.reduceEqDiff,Nat.reduceLT,Nat.reduceLeDiff,reduceCtorEq,eq_self,ne_eq]
   refine WP.loop (ι:=Nat) (fun i=>ws.length - i) (fun i=>i≤ws.length∧∀ k,k < i→rest1 c m k (ws.getD k wk0)=true) (n:=35)
    (fr:=fun i=>[(16,iv i),(15,iv ws.length),(14,wks ws),(1,.ptr 0 0 0)])
    (hp:=fun i=>[(0,some ⟨false,34,8,[pov ⟨c,t,m,ws,ss⟩]⟩)])
    (N:=0) ?_ 0 ⟨Nat.zero_le _,fun k h=>by omega⟩ rfl (Nat.zero_le _) ⟨rfl,rfl,rfl,rfl,trivial⟩ ⟨rfl,trivial⟩
   rintro i nx ⟨g1,g2⟩ hN hid
   have n0:0 < nx:=hid 0 _ (by rw [hlk_cons,if_pos rfl])
   refine WP.of okAW 1 (by rfl) ?_
   by_cases hi:i < ws.length
   ·have hz:(i:Int) < ws.length:=by omega
    have hz0:(0:Int)≤(i:Int):=by omega
    have hg:=getD_w hi
    have w1:IntKind.wrap .i64 ((i:Int) + 1)=((i + 1:Nat):Int):=by rw [wrap_i (by omega) (by omega)]; omega
    have hbad:rest1 c m i (ws.getD i wk0)=false→(List.range ws.length).all (fun i=>rest1 c m i (ws.getD i wk0))=false:=fun q=>rangeAll_not hi q
    have hgood:rest1 c m i (ws.getD i wk0)=true→∀ k,k < i + 1→rest1 c m k (ws.getD k wk0)=true:=by
     intro q k hk
     rcases Nat.lt_succ_iff_lt_or_eq.1 hk with e | rfl
     ·exact g2 k e
     ·exact q
    generalize ws.getD i wk0=x at hg hbad hgood
    cases hx:wkPark x with
    | false=>
     rw [hbad (by unfold rest1; rw [hx]; rfl)]
     simp only [AW_all,sx_all,hz,hz0,hg,hx,pov,tks,wks,sbs,wv,its,ms,List.length_map,Int.toNat_natCast,Bool.not_false,nb_self,Nat.add_assoc,tt_all,row1,iv,bv,u,ms,ctx_T,ctx_C,Option.bind_some,List.length_map,Int.toNat_natCast,fr_eta,ev1,ev2,undef,dynCall,↓condE_t,↓guardE_tf,resB,cv,stepB,stepE,callD,tabD,guardB,guardC,dstAt,aopR,one,pre,binR,intOpR,unR,evo,lkp,hlk,ofVal,ofCells,setCells,AV.wr,AV.ok1,TK.agg,accOf,Nat.reduceAdd,Nat.reduceEqDiff,Nat.reduceLT,Nat.reduceLeDiff,reduceCtorEq,eq_self,ne_eq]
     all_goals ((repeat' apply And.intro) <;> first | rfl | omega | (show (_:Bool)=true; kernel_rfl) | decide)
    | true=>
     cases hy:(mLoad m (lPark c i) == 0) with
     | false=>
      have hy':(mLoad m (lPark c i) != 0)=true:=by simp only [bne,hy]; rfl
      rw [hbad (by unfold rest1; rw [hx,hy]; rfl)]
      simp only [AW_all,sx_all,hz,hz0,hg,hx,hy',hm,n0,pov,tks,wks,sbs,wv,its,ms,List.length_map,Int.toNat_natCast,Bool.not_true,nb_self,nb_lt,Nat.add_assoc,tt_all,cf_eta,shC_dec,dC,row1,row2,shI_dec,shM_dec,dI,dM,dU_map,iv,bv,u,ms,ctx_T,ctx_C,Option.bind_some,List.length_map,Int.toNat_natCast,fr_eta,ev1,ev2,implies_true,undef,dynCall,↓condE_t,↓guardE_ff,resB,cv,stepB,stepE,callD,tabD,guardB,guardC,dstAt,aopR,one,pre,binR,intOpR,unR,evo,lkp,hlk,ofVal,ofCells,setCells,AV.wr,AV.ok1,TK.agg,accOf,Nat.reduceAdd,Nat.reduceEqDiff,Nat.reduceLT,Nat.reduceLeDiff,reduceCtorEq,eq_self,ne_eq]
      all_goals ((repeat' apply And.intro) <;> first | rfl | omega | (show (_:Bool)=true; kernel_rfl) | decide)
     | true=>
      have hy':(mLoad m (lPark c i) != 0)=false:=by simp only [bne,hy]; rfl
      simp only [AW_all,sx_all,hz,hz0,hg,hx,hy',hm,w1,n0,pov,tks,wks,sbs,wv,its,ms,List.length_map,Int.toNat_natCast,Bool.not_true,nb_self,nb_lt,Nat.add_assoc,tt_all,cf_eta,shC_dec,dC,row1,row2,shI_dec,shM_dec,dI,dM,dU_map,iv,bv,u,ms,ctx_T,ctx_C,Option.bind_some,List.length_map,Int.toNat_natCast,fr_eta,ev1,ev2,implies_true,undef,dynCall,↓condE_t,↓condE_f,↓guardE_ff,cv,stepB,stepE,callD,tabD,guardB,guardC,dstAt,aopR,one,pre,binR,intOpR,unR,evo,lkp,hlk,ofVal,ofCells,setCells,AV.wr,AV.ok1,TK.agg,sub1,kp,kh,accOf,Nat.reduceAdd,Nat.reduceEqDiff,Nat.reduceLT,Nat.reduceLeDiff,reduceCtorEq,eq_self,ne_eq]
      exact ⟨i + 1,by omega,⟨by omega,hgood (by unfold rest1; rw [hx,hy]; rfl)⟩,rfl⟩
   ·have hz:¬ (i:Int) < ws.length:=by omega
    have e:(List.range ws.length).all (fun i=>rest1 c m i (ws.getD i wk0))=true:=by
     rw [List.all_eq_true]
     intro k hk
     exact g2 k (by have:=List.mem_range.1 hk; omega)
    rw [e]
    simp only [hz,pov,tks,wks,sbs,Nat.add_assoc,iv,ms,ev1,ev2,undef,↓condE_f,resB,cv,stepB,aopR,one,pre,binR,intOpR,evo,lkp,Nat.reduceAdd,Nat.reduceLT,eq_self]
    all_goals ((repeat' apply And.intro) <;> first | rfl | omega | (show (_:Bool)=true; kernel_rfl) | decide)
def rowsAX:List Row:=[
 (50,row2 shSs (shFn 51) fun l _=>if l.length≤1000 then some (bv (l.any hasR)) else none),
 (49,row1 shPo fun p=>if PB p 100000 then some (bv (pAsleep p)) else none)] ++ rowsAW
theorem rowsAX_ok:∀ p∈rowsAX,RowOk Tryz.prog p:=fun p h=>by
 simp only [rowsAX,List.mem_append,List.mem_cons,List.not_mem_nil,or_false,or_assoc] at h
 rcases h with rfl | rfl | h
 ·exact ok_row2 (enters_of Tryz.func50 (by decide) rfl) fun l _ r _ _ e=>by obtain ⟨h,rfl⟩:=opt_if e; exact anyS_pure _ _ l h (.inr ⟨rfl,rfl⟩)
 ·exact ok_row1 (enters_of Tryz.func49 (by decide) rfl) fun p r _ e=>by obtain ⟨h,rfl⟩:=opt_if e; exact asleep_pure p h
 ·exact rowsAW_ok p h
theorem okAX:(ctx Tryz.prog rowsAX).ok:=rows_ok rowsAX_ok
theorem AX_all:tabC rowsAX 50=(row2 shSs (shFn 51) fun l _=>if l.length≤1000 then some (bv (l.any hasR)) else none)∧tabC rowsAX 49=(row1 shPo fun p=>if PB p 100000 then some (bv (pAsleep p)) else none)∧tabC rowsAX 10=(row1 shWk fun x=>some (bv (wkPark x)))∧tabC rowsAX 77=(row3 shI shI shN fun w s n=>if w=2∧s=1 then some (pks (rnd 2 1 n)) else none)∧tabC rowsAX 17=(fun _=>none)∧tabC rowsAX 51=(fun _=>none)∧tabC rowsAX 44=(row1 shPo fun p=>if PB p 100000 then some (bv (pMay p)) else none)∧tabC rowsAX 191=(row1 shN fun e=>some (.tup [u (wBump e),iv (wLow (wMask e))]))∧tabC rowsAX 190=(fun _=>none)∧tabC rowsAX 192=(fun _=>none)∧tabC rowsAX 30=(row1 shN fun e=>some (u (wMask e)))∧tabC rowsAX 13=(row2 shC shI fun c w=>some (iv (lPark c w)))∧tabC rowsAX 12=(row2 shM shI fun m i=>some (u (mLoad m i))):=⟨rfl,rfl,rfl,rfl,rfl,rfl,rfl,rfl,rfl,rfl,rfl,rfl,rfl⟩
theorem rested_pure (p:Po) (h:PB p 100000):PureC Tryz.prog 22 [pov p] (bv (pRested p)):=by
 refine pure_sub okAX 2 Tryz.func22 rfl (by show 1≤_; decide) ?_
 obtain ⟨c,t,m,ws,ss⟩:=p
 have hm:=h.m
 dsimp only at hm
 unfold pRested
 cases h1:pAsleep ⟨c,t,m,ws,ss⟩ with
 | false=>
  simp only [Tryz.f22,AX_all,sx_all,h,h1,pov,tks,wks,sbs,ms,Bool.false_and,tt_all,cf_eta,row1,iv,bv,ms,ctx_T,ctx_C,Option.bind_some,ev1,ev2,undef,↓guardE_ft,resB,cv,stepB,guardB,guardC,dstAt,aopR,one,pre,argFrm,evo,lkp,hlk,ofCells,AV.wr,AV.ok1,TK.agg,frz,frz1,frzA,subA,subB,sub1,Nat.reduceAdd,Nat.reduceEqDiff,Nat.reduceLT,Nat.reduceLeDiff,reduceCtorEq,eq_self,ne_eq]
  all_goals ((repeat' apply And.intro) <;> first | rfl | omega | (show (_:Bool)=true; kernel_rfl) | decide)
 | true=>
  have h1':=h1
  simp only [pAsleep,Bool.and_eq_true] at h1'
  have h1':=h1'.1.1
  simp only [pMay,Bool.and_eq_true,decide_eq_true_eq,beq_iff_eq] at h1'
  have hsl:ss.length≤1000:=by omega
  cases h2:mLoad m 0 == 0 with
  | false=>
   simp only [Tryz.f22,AX_all,sx_all,h,h1,h2,hm,pov,tks,wks,sbs,ms,Bool.true_and,Bool.false_and,tt_all,cf_eta,row1,row2,shI_dec,shM_dec,dI,dM,dU_map,iv,bv,u,ms,ctx_T,ctx_C,Option.bind_some,ev1,ev2,implies_true,undef,↓guardE_tt,↓guardE_ft,resB,cv,stepB,guardB,guardC,dstAt,aopR,one,pre,binR,intOpR,argFrm,evo,lkp,hlk,ofCells,AV.wr,AV.ok1,TK.agg,frz,frz1,frzA,subA,subB,sub1,Nat.reduceAdd,Nat.reduceEqDiff,Nat.reduceLT,Nat.reduceLeDiff,reduceCtorEq,eq_self,ne_eq]
   all_goals ((repeat' apply And.intro) <;> first | rfl | omega | (show (_:Bool)=true; kernel_rfl) | decide)
  | true=>
   simp only [Tryz.f22,AX_all,sx_all,shFn_dec,h,h1,h2,hsl,hm,pov,tks,wks,sbs,ms,Bool.true_and,tt_all,cf_eta,row1,row2,shI_dec,shM_dec,dI,dM,dU_map,iv,bv,u,ms,ctx_T,ctx_C,Option.bind_some,ev1,ev2,implies_true,undef,↓guardE_tt,resB,cv,stepB,guardB,guardC,dstAt,aopR,one,pre,binR,intOpR,unR,argFrm,evo,lkp,hlk,ofCells,AV.wr,AV.ok1,TK.agg,frz,frz1,frzA,subA,subB,sub1,Nat.reduceAdd,Nat.reduceEqDiff,Nat.reduceLT,Nat.reduceLeDiff,reduceCtorEq,eq_self,ne_eq]
   all_goals ((repeat' apply And.intro) <;> first | rfl | omega | (show (_:Bool)=true; kernel_rfl) | decide)
end Go.Vai

/- Several steps of a pool: none. -/
namespace Go.Vai
open Go.RowKit Go.Proofs
set_option maxHeartbeats 4000000
set_option maxRecDepth 100000
theorem run_none (p:Po) (h:RIn p []) (hs0:p.s≠[]):PureC Tryz.prog 25 [pov p,.v (.slice none 0 0)] (.tup [pov p,.v (.slice none 0 0)]):=by
 refine pure_sub okAQ' 5 Tryz.func25 rfl (by show 2≤_; decide) ?_
 obtain ⟨⟨ht,hm,hw,hs⟩,hmay,hll,ho,hos⟩:=h
 obtain ⟨c,t,m,ws,ss⟩:=p
 dsimp only at ht hm hw hs ho hos hs0
 have hpb:PB ⟨c,t,m,ws,ss⟩ 100000:=⟨ht,hm,fun x hx=>by have:=hw x hx; omega,hs⟩
 have hmay':=hmay
 simp only [pMay,Bool.and_eq_true,decide_eq_true_eq,beq_iff_eq] at hmay'
 obtain ⟨⟨⟨⟨h1,h2⟩,h3⟩,h4⟩,h5⟩:=hmay'
 have hmc:=mayC_iff.1 h1
 have hw8:ws.length≤8:=by omega
 have hw1:ws≠[]:=by
  intro e
  rw [e] at h2
  simp at h2
  omega
 have hw2:(ws≠[]∧ws.length≤1000):=⟨hw1,by omega⟩
 have htl:t.length≤30:=by
  have h4':allW ⟨c,t,m,ws,ss⟩=true:=h4
  unfold allW at h4'
  rw [List.all_eq_true] at h4'
  have h0:=h4' 0 (List.mem_range.2 (List.length_pos_iff.2 hw1))
  simp only [wMay,Bool.and_eq_true] at h0
  exact may_len h0.1.1.1.1.1.2
 have htl2:t.length≤100000:=by omega
 have hs1:(ss≠[]∧ss.length≤1000):=⟨hs0,by omega⟩
 simp only [Tryz.f25,Tryz.func52,Tryz.f52,inl,AQ_all,ctxO_P,ctxO_T,ctxO_C,ctxO_O,ownT,ownTW,ownTS,sx_all,ht,hm,htl2,hs0,hs1,hw2,and_self,pov,tks,wks,sbs,List.length_map,tt_all,row1,shM_dec,dM,dU_map,iv,ms,Option.bind_some,List.length_map,String.reduceBEq,ev1,ev2,implies_true,undef,dynCall,frzDeep,deepArgs,deepArg,cv,stepB,stepE,callD,tabD,snapD,frzD,frzHs,frzH,ownD,snap1,aopR,one,pre,argFrm,evo,lkp,hlk,lenOf,ofVal,ofCells,setCells,AV.wr,AV.ok1,TK.agg,frz,frz1,frzA,frzArg,frzArgs,subA,subB,sub1,accOf,Nat.reduceAdd,Nat.reduceEqDiff,Nat.reduceLT,Nat.reduceLeDiff,reduceCtorEq,eq_self,ne_eq]
 repeat' apply And.intro
 any_goals (show entryOk _ _ _ _ _=true; kernel_rfl)
 refine WP.loop (ι:=Nat) (fun i=>ws.length - i) (fun i=>i≤ws.length) (n:=60)
  (fr:=fun i=>[(24,iv i),(23,iv ws.length),(1,.ptr 7 0 0),(2,.ptr 8 0 0)])
  (hp:=fun i=>[(7,some ⟨false,34,8,[pag c t m (.arr 21 0 ws.length) (.arr 24 0 ss.length)]⟩),(24,some ⟨false,50,9,ss.map sbv⟩),(21,some ⟨false,44,11,ws.map wv⟩),(8,some ⟨false,34,8,[pzero]⟩),(1,some ⟨false,34,8,[pzero]⟩),(0,some ⟨false,34,8,[pov ⟨c,t,m,ws,ss⟩]⟩)])
  (N:=33) ?_ 0 (Nat.zero_le _) rfl (Nat.le_refl _) ⟨rfl,rfl,rfl,rfl,trivial⟩ ⟨rfl,rfl,rfl,rfl,rfl,rfl,trivial⟩
 rintro i nx g1 hN _
 have n0:0 < nx:=by omega
 have n1:1 < nx:=by omega
 have n7:7 < nx:=by omega
 have n8:8 < nx:=by omega
 have n21:21 < nx:=by omega
 have n24:24 < nx:=by omega
 refine WP.of okAQ' 4 (by rfl) ?_
 by_cases hi:i < ws.length
 ·have hz:(i:Int) < ws.length:=by omega
  have hz0:(0:Int)≤(i:Int):=by omega
  have hg:=getD_w hi
  have hst:(ws.map wv).set i (wv (ws.getD i wk0))=ws.map wv:=set_self_w hi
  have hsl:(ws.getD i wk0).stack.length≤100000:=by have:=hw _ (getD_memW (d:=wk0) hi); omega
  have w1:IntKind.wrap .i64 ((i:Int) + 1)=((i + 1:Nat):Int):=by rw [wrap_i (by omega) (by omega)]; omega
  generalize ws.getD i wk0=x at hg hst hsl
  simp only [wv,its,iv,u] at hst
  simp only [hz,hz0,hg,hst,hsl,hi,w1,AQ_all,ctxO_T,ctxO_C,sx_all,pov,pag,pzero,tks,wks,sbs,wv,its,ms,List.length_map,Int.toNat_natCast,Nat.zero_add,Nat.add_assoc,tt_all,row1,iv,u,ms,Option.bind_some,List.length_map,Int.toNat_natCast,ev1,ev2,implies_true,undef,dynCall,↓condE_t,cv,stepB,stepE,callD,tabD,aopR,one,pre,binR,intOpR,evo,lkp,hlk,ofCells,setCells,AV.wr,AV.ok1,TK.agg,sub1,kp,kh,accOf,Nat.reduceAdd,Nat.reduceLT,Nat.reduceLeDiff,reduceCtorEq,eq_self,ne_eq]
  refine ⟨?_,i + 1,by omega,by omega,rfl⟩
  kernel_rfl
 ·have hz:¬ (i:Int) < ws.length:=by omega
  simp only [hz,ctxO_T,pov,pag,pzero,tks,wks,sbs,ms,Nat.zero_add,Nat.add_assoc,tt_all,iv,ms,ev1,ev2,implies_true,undef,↓condE_f,cv,stepB,aopR,one,pre,binR,intOpR,evo,lkp,hlk,lenOf,ofCells,TK.agg,Nat.reduceAdd,Nat.reduceLT,Nat.reduceLeDiff,reduceCtorEq,eq_self,ne_eq]
  refine WP.loop (ι:=Nat) (fun j=>ss.length - j) (fun j=>j≤ss.length) (n:=60)
   (fr:=fun j=>[(43,iv j),(42,iv ss.length),(1,.ptr 7 0 0),(2,.ptr 8 0 0)])
   (hp:=fun j=>[(7,some ⟨false,34,8,[pag c t m (.arr 21 0 ws.length) (.arr 24 0 ss.length)]⟩),(24,some ⟨false,50,9,ss.map sbv⟩),(21,some ⟨false,44,11,ws.map wv⟩),(8,some ⟨false,34,8,[pzero]⟩),(1,some ⟨false,34,8,[pzero]⟩),(0,some ⟨false,34,8,[pov ⟨c,t,m,ws,ss⟩]⟩)])
   (N:=33) ?_ 0 (Nat.zero_le _) rfl (by dsimp only; omega) ⟨rfl,rfl,rfl,rfl,trivial⟩ ⟨rfl,rfl,rfl,rfl,rfl,rfl,trivial⟩
  rintro j nx g2 hN _
  have n0:0 < nx:=by omega
  have n1:1 < nx:=by omega
  have n7:7 < nx:=by omega
  have n8:8 < nx:=by omega
  have n21:21 < nx:=by omega
  have n24:24 < nx:=by omega
  refine WP.of okAQ' 4 (by rfl) ?_
  by_cases hj:j < ss.length
  ·have hz:(j:Int) < ss.length:=by omega
   have hz0:(0:Int)≤(j:Int):=by omega
   have hg:=getD_s hj
   have hst:(ss.map sbv).set j (sbv (ss.getD j ⟨0,[],fr00⟩))=ss.map sbv:=set_self_s hj
   have hsl:(ss.getD j ⟨0,[],fr00⟩).roots.length≤100000:=hs _ (getD_memW (d:=⟨0,[],fr00⟩) hj)
   have w1:IntKind.wrap .i64 ((j:Int) + 1)=((j + 1:Nat):Int):=by rw [wrap_i (by omega) (by omega)]; omega
   generalize ss.getD j ⟨0,[],fr00⟩=x at hg hst hsl
   simp only [sbv,zs,iv,u] at hst
   simp only [hz,hz0,hg,hst,hsl,hj,w1,AQ_all,ctxO_T,ctxO_C,rf1,pov,pag,pzero,tks,wks,sbs,sbv,zs,ms,List.length_map,Int.toNat_natCast,Nat.zero_add,Nat.add_assoc,tt_all,row1,iv,u,ms,Option.bind_some,List.length_map,Int.toNat_natCast,ev1,ev2,implies_true,undef,dynCall,↓condE_t,cv,stepB,stepE,callD,tabD,aopR,one,pre,binR,intOpR,evo,lkp,hlk,ofCells,setCells,AV.wr,AV.ok1,TK.agg,sub1,kp,kh,accOf,Nat.reduceAdd,Nat.reduceLT,Nat.reduceLeDiff,reduceCtorEq,eq_self,ne_eq]
   refine ⟨?_,j + 1,by omega,by omega,rfl⟩
   kernel_rfl
  ·have hz:¬ (j:Int) < ss.length:=by omega
   simp only [hz,hpb,hmay,Bool.not_true,AQ_all,ctxO_T,ctxO_C,sx_all,pov,pag,pzero,tks,wks,sbs,ms,Nat.zero_add,Nat.add_assoc,tt_all,cf_eta,row1,iv,bv,ms,Option.bind_some,Int.cast_ofNat_Int,ev1,ev2,undef,↓condE_f,resB,cv,stepB,aopR,one,pre,binR,intOpR,unR,evo,lkp,hlk,lenOf,ofVal,ofCells,setCells,AV.wr,AV.ok1,TK.agg,Nat.reduceAdd,Nat.reduceEqDiff,Nat.reduceLT,Nat.reduceLeDiff,reduceCtorEq,eq_self,ne_eq]
   refine WP.rounds okAQ' 4 1 (by rfl) ?_
   simp only [r_rounds,ctxO_T,List.length_map,Nat.zero_add,Nat.add_assoc,tt_all,hfree_lu,List.length_map,ev1,ev2,undef,↓condE_f,resB,cv,stepB,aopR,one,pre,binR,intOpR,evo,lkp,hlk,ofCells,setCells,AV.wr,AV.ok1,TK.agg,frz1,frzt,frzs,frzA,subB,subM,subL,sub1,Nat.reduceAdd,Nat.reduceEqDiff,Nat.reduceLT,Nat.reduceLeDiff,reduceCtorEq,eq_self,ne_eq,Int.reduceLT]
   refine ⟨hf_tks t,Nat.le_refl _,fun x hx=>?_,Nat.le_refl _,fun x hx=>?_,by rw [tk_map],by rw [tk_map]⟩
   ·obtain ⟨y,_,rfl⟩:=List.mem_map.1 (List.mem_of_mem_take hx)
    exact elW.cfree y
   ·obtain ⟨y,_,rfl⟩:=List.mem_map.1 (List.mem_of_mem_take hx)
    exact elS.cfree y
def orRow (F G:List AV→Option AV):List AV→Option AV:=fun args=>match F args with
 | some r=>some r
 | none=>G args
theorem ok_or {f:FuncId} {F G:List AV→Option AV} (h1:RowOk Tryz.prog (f,F)) (h2:RowOk Tryz.prog (f,G)):RowOk Tryz.prog (f,orRow F G):=by
 intro args r hr
 dsimp only [orRow] at hr
 cases hF:F args with
 | some x=>
  rw [hF] at hr
  dsimp only at hr
  cases hr
  exact h1 args _ hF
 | none=>
  rw [hF] at hr
  exact h2 args r hr
def shNil:Sh Unit where
 dec:=fun a=>match a with
  | .v (.slice none 0 0)=>some ()
  | _=>none
 enc:=fun _=>.v (.slice none 0 0)
 ok:=fun a x h=>by
  split at h
  ·rfl
  ·cases h
 free:=fun _=>hfree_v _
end Go.Vai

/- On, till all rests. -/
namespace Go.Vai
open Go.RowKit Go.Proofs
set_option maxHeartbeats 4000000
set_option maxRecDepth 100000
def rowsAY:List Row:=[
 (25,orRow (row2 shPo shNil fun p _=>if RIn p []∧p.s≠[] then some (.tup [pov p,.v (.slice none 0 0)]) else none) (row2 shPo shPs fun p l=>if RIn p l then some (.tup [pov (pRun p l).1,evs (pRun p l).2]) else none)),
 (22,row1 shPo fun p=>if PB p 100000 then some (bv (pRested p)) else none)] ++ rowsAX
theorem rowsAY_ok:∀ p∈rowsAY,RowOk Tryz.prog p:=fun p h=>by
 simp only [rowsAY,List.mem_append,List.mem_cons,List.not_mem_nil,or_false,or_assoc] at h
 rcases h with rfl | rfl | h
 ·exact ok_or (ok_row2 (enters_of Tryz.func25 (by decide) rfl) fun p l r _ _ e=>by obtain ⟨h,rfl⟩:=opt_if e; exact run_none p h.1 h.2) (ok_row2 (enters_of Tryz.func25 (by decide) rfl) fun p l r _ _ e=>by obtain ⟨h,rfl⟩:=opt_if e; exact run_pure p l h)
 ·exact ok_row1 (enters_of Tryz.func22 (by decide) rfl) fun p r _ e=>by obtain ⟨h,rfl⟩:=opt_if e; exact rested_pure p h
 ·exact rowsAX_ok p h
theorem okAY:(ctx Tryz.prog rowsAY).ok:=rows_ok rowsAY_ok
theorem AY_all:tabC rowsAY 25=(orRow (row2 shPo shNil fun p _=>if RIn p []∧p.s≠[] then some (.tup [pov p,.v (.slice none 0 0)]) else none) (row2 shPo shPs fun p l=>if RIn p l then some (.tup [pov (pRun p l).1,evs (pRun p l).2]) else none))∧tabC rowsAY 22=(row1 shPo fun p=>if PB p 100000 then some (bv (pRested p)) else none)∧tabC rowsAY 48=(fun _=>none)∧tabC rowsAY 76=(fun _=>none)∧tabC rowsAY 77=(row3 shI shI shN fun w s n=>if w=2∧s=1 then some (pks (rnd 2 1 n)) else none)∧tabC rowsAY 44=(row1 shPo fun p=>if PB p 100000 then some (bv (pMay p)) else none)∧tabC rowsAY 191=(row1 shN fun e=>some (.tup [u (wBump e),iv (wLow (wMask e))]))∧tabC rowsAY 190=(fun _=>none)∧tabC rowsAY 192=(fun _=>none)∧tabC rowsAY 30=(row1 shN fun e=>some (u (wMask e))):=⟨rfl,rfl,rfl,rfl,rfl,rfl,rfl,rfl,rfl,rfl⟩
structure Calm (p:Po) (N:Nat):Prop where
 n:N≤900
 w:p.c.w=2
 s:p.s.length=1
 r0:RIn p []
 ri:∀ n,n≤N→RIn (drn p n).1 (rnd 2 1 n)
 no:∀ n,n < N→pRested (drn p n).1=false
 yes:pRested (drn p N).1=true
 len:∀ n,n≤N→(drn p n).2.length≤6 * n
theorem hfc_ev (l:List Ev):∀ x∈l.map ev',∀ c∈x.cells,HFree c:=fun x hx=>by
 obtain ⟨y,_,rfl⟩:=List.mem_map.1 hx
 exact elE.cfree y
theorem drain_pure (p:Po) (N:Nat) (h:Calm p N):PureC Tryz.prog 20 [pov p,iv 1000] (.tup [pov (drn p N).1,evs (drn p N).2,iv N]):=by
 refine pure_top okAY 2 Tryz.func20 rfl (by show 2≤_; decide) ?_
 have hb:=h.r0.b
 have hmay:=h.r0.may
 have h0:=h.r0
 have hs1:=h.s
 have hw2:=h.w
 have hne:p.s≠[]:=by intro e; rw [e] at hs1; simp at hs1
 have h00:(RIn p []∧p.s≠[]):=⟨h0,hne⟩
 have hbb:PB p 100000:=⟨hb.t,hb.m,fun x hx=>by have:=hb.w x hx; omega,hb.s⟩
 obtain ⟨⟨cw,cd,ci,cs⟩,t,m,ws,ss⟩:=p
 dsimp only at hs1 hw2 hne h00
 subst hw2
 simp only [Tryz.f20,Tryz.func48,Tryz.f48,inl,AY_all,orRow,shNil,sx_all,h0,h00,hbb,hmay,Bool.not_true,pov,tks,wks,sbs,ms,tt_all,top_T,r_rangeF,row1,row2,iv,bv,ms,ctx_T,ctx_C,ctx_P,Option.bind_some,String.reduceBEq,ev1,ev2,undef,↓condE_f,frzDeep,deepArgs,deepArg,resB,cv,stepB,aopR,one,pre,unR,argFrm,evo,lkp,hlk,ofVal,ofCells,setCells,AV.wr,AV.ok1,TK.agg,frz,frz1,frzA,frzArg,frzArgs,subA,subB,sub1,Nat.reduceAdd,Nat.reduceEqDiff,Nat.reduceLT,Nat.reduceLeDiff,reduceCtorEq,eq_self,ne_eq]
 generalize hP:(⟨⟨2,cd,ci,cs⟩,t,m,ws,ss⟩:Po)=p0 at *
 refine WP.virtB 10 104 3 rfl rfl (by decide) ?_ (im:=(top_core okAY).im)
 refine WP.ranges okAY 1 (g:=76) rfl (enters_of Tryz.func76 (by decide) rfl) Tryz.func76 rfl (by decide) (by rfl) (by rfl) ?_
 intro Y hI hYF hYT hYC hYY
 simp only [Tryz.f76,ctx_T,ev1,ev2,undef,cv,stepB,aopR,one,argFrm,evo,Nat.reduceAdd,Nat.reduceLT]
 refine WP.loop (ι:=Nat × Nat) (fun i=>1000 - i.1) (fun i=>i.1≤N∧(i.2=26∨28≤i.2)) (n:=24)
  (fr:=fun i=>[(4,iv i.1),(2,.ptr 21 0 0),(1,.ptr 22 0 0),(0,.yld 27)])
  (hp:=fun i=>[(27,some (gBlk 0)),(10,some ⟨false,35,1,[.arr i.2 0 (drn p0 i.1).2.length]⟩),(i.2,some ⟨false,104,3,(drn p0 i.1).2.map ev'⟩),(22,some ⟨false,3,1,[iv 1000]⟩),(21,some ⟨false,34,8,[pov p0]⟩),(16,some ⟨false,3,1,[iv i.1]⟩),(9,some ⟨false,34,8,[pov (drn p0 i.1).1]⟩),(1,some ⟨false,34,8,[pzero]⟩),(0,some ⟨false,34,8,[pov p0]⟩)])
  (N:=28) ?_ (0,26) ⟨Nat.zero_le _,.inl rfl⟩ rfl (by first | exact Nat.le_refl _ | exact Nat.le_add_right _ _ | (show 28≤29; decide)) ⟨rfl,rfl,rfl,rfl,trivial⟩ (by
   subst hP
   exact ⟨rfl,rfl,rfl,rfl,rfl,rfl,rfl,rfl,rfl,trivial⟩) (im:=hI.im)
 rintro ⟨n,z⟩ nx ⟨g1,g2⟩ hN hid
 dsimp only at g1 g2 hid ⊢
 have hn9:=h.n
 have hzn:z < nx:=by
  rcases g2 with e | e
  ·omega
  ·exact hid z _ (by rw [hlk_cons,if_neg (by omega),hlk_cons,if_neg (by omega),hlk_cons,if_pos rfl])
 have bb:∀ j:Nat,j < 26∨j=27→Nat.beq j z=false∧Nat.beq z j=false:=by
  intro j hjj
  constructor <;> (rw [← Bool.not_eq_true,Nat.beq_eq]; omega)
 obtain ⟨b0,d0⟩:=bb 0 (by omega)
 obtain ⟨b1,d1⟩:=bb 1 (by omega)
 obtain ⟨b2,d2⟩:=bb 9 (by omega)
 obtain ⟨b3,d3⟩:=bb 10 (by omega)
 obtain ⟨b4,d4⟩:=bb 16 (by omega)
 obtain ⟨b5,d5⟩:=bb 21 (by omega)
 obtain ⟨b6,d6⟩:=bb 22 (by omega)
 obtain ⟨b7,d7⟩:=bb 27 (by omega)
 have n0:0 < nx:=by omega
 have n1:1 < nx:=by omega
 have n2:9 < nx:=by omega
 have n3:10 < nx:=by omega
 have n4:16 < nx:=by omega
 have n5:21 < nx:=by omega
 have n6:22 < nx:=by omega
 have n7:27 < nx:=by omega
 have hu:IntKind.wrap .u64 (n:Int)=(n:Int):=by
  show wrapU _=_
  rw [wrapU_eq]; omega
 have hz:(n:Int) < 1000:=by omega
 have w1:IntKind.wrap .i64 ((n:Int) + 1)=((n + 1:Nat):Int):=by rw [wrap_i (by omega) (by omega)]; omega
 have hri:=h.ri n g1
 have hqb:PB (drn p0 n).1 100000:=⟨hri.b.t,hri.b.m,fun x hx=>by have:=hri.b.w x hx; omega,hri.b.s⟩
 have hlen:=h.len n g1
 have hstep:drn p0 (n + 1)=((pRun (drn p0 n).1 (rnd 2 1 n)).1,(drn p0 n).2 ++ (pRun (drn p0 n).1 (rnd 2 1 n)).2):=rfl
 refine WP.ofX hI hYF (by rfl) ?_
 subst hP
 by_cases hnN:n < N
 ·have hno:=h.no n hnN
  have hl1:=h.len (n + 1) hnN
  rw [hstep] at hl1
  generalize drn ⟨⟨2,cd,ci,cs⟩,t,m,ws,ss⟩ n=D at *
  obtain ⟨q,es⟩:=D
  dsimp only at hno hri hqb hlen hstep hl1 ⊢
  generalize hr:pRun q (rnd 2 1 n)=r at *
  obtain ⟨qc,qt,qm,qw,qs⟩:=q
  obtain ⟨⟨rc,rt,rm,rw',rs⟩,re⟩:=r
  dsimp only at hl1 hstep
  rw [List.length_append] at hl1
  have hcap:(es.length + re.length) * 24≤140737488355328:=by omega
  simp only [AY_all,hYT,hYY,r_yld,orRow,shNil,sx_all,hu,hz,w1,hri,hqb,hno,hr,hcap,hs1,tk_map,b0,b1,b2,b3,b4,b5,b6,b7,d3,d7,hzn,n0,n1,n2,n3,n4,n5,n6,n7,pov,tks,wks,sbs,pks,evs,ms,List.length_map,and_self,nb_self,nb_lt,Nat.add_assoc,tt_all,mo_min,minM,List.cons_append,List.nil_append,inR_T,r_yld,r_start,r_rkN,zipF,cf_eta,row1,row2,row3,shI_dec,shN_dec,dI,dN,iv,bv,ms,ctx_T,ctx_C,Option.bind_some,Option.bind_none,List.length_map,Int.cast_ofNat_Int,ev1,ev2,implies_true,undef,dynCall,↓condE_t,↓condE_f,cv,stepB,stepE,aopR,one,pre,binR,intOpR,unR,evo,lkp,hlk,lenOf,asLst,idOf,srcOk,ofVal,ofCells,setCells,AV.wr,AV.ok1,TK.agg,sub1,kp,kh,accOf,Nat.reduceAdd,Nat.reduceEqDiff,Nat.reduceLT,Nat.reduceLeDiff,reduceCtorEq,eq_self,ne_eq,Int.reduceLT]
  intro l
  repeat' apply And.intro
  any_goals (show entryOk _ _ _ _ _=true; (repeat (first | exact entryOk_nil _ _ _ _ | (refine entryOk_step ?h ?_; case h=>(first | (apply Or.inr; constructor <;> simp [meets] <;> omega; done) | (apply Or.inl; show anc _ _ _ _=true; kernel_rfl))))))
  any_goals exact Nat.le_refl _
  refine ⟨(n + 1,nx + 33),by dsimp only; omega,⟨by dsimp only; omega,.inr (by dsimp only; omega)⟩,rfl,?_⟩
  dsimp only
  simp only [hstep,List.map_append,List.length_append,n2,n3,n4,n7,and_self,nb_self,nb_gt,eq_self]
 ·have e:n=N:=by omega
  subst e
  have hyes:=h.yes
  generalize drn ⟨⟨2,cd,ci,cs⟩,t,m,ws,ss⟩ n=D at *
  obtain ⟨q,es⟩:=D
  dsimp only at hyes hri hqb hlen hstep ⊢
  obtain ⟨qc,qt,qm,qw,qs⟩:=q
  simp only [AY_all,hYT,hYY,r_yld,sx_all,hu,hz,w1,hqb,hyes,hs1,tk_map,b0,b1,b2,b4,b5,b6,d1,d3,d7,pzero,pov,tks,wks,sbs,pks,evs,ms,List.length_map,and_self,nb_self,Nat.add_assoc,tt_all,mo_min,minM,List.cons_append,List.nil_append,top_T,inR_T,r_yld,r_start,r_rkN,r_rkE,r_endR,r_endM,r_endJ3,zipF,cf_eta,hfree_lu,row1,row3,shI_dec,shN_dec,dI,dN,iv,bv,ms,ctx_T,ctx_C,Option.bind_some,List.length_map,Int.cast_ofNat_Int,ev1,ev2,implies_true,undef,dynCall,↓condE_t,↓condE_f,resB,cv,stepB,stepE,aopR,one,pre,binR,intOpR,unR,evo,lkp,hlk,lenOf,ofCells,setCells,AV.wr,AV.ok1,TK.agg,frz1,frzt,frzs,frzA,subB,subM,subL,sub1,kp,kh,accOf,Nat.reduceAdd,Nat.reduceMul,Nat.reduceEqDiff,Nat.reduceLT,Nat.reduceLeDiff,reduceCtorEq,eq_self,ne_eq,Int.reduceLT]
  intro l
  repeat' apply And.intro
  any_goals (show entryOk _ _ _ _ _=true; (repeat (first | exact entryOk_nil _ _ _ _ | (refine entryOk_step ?h ?_; case h=>(first | (apply Or.inr; constructor <;> simp [meets] <;> omega; done) | (apply Or.inl; show anc _ _ _ _=true; kernel_rfl))))))
  all_goals first | exact hf_tks _ | exact hf_wks _ | exact hf_sbs _ | exact Nat.le_refl _ | exact hfc_ev es | rfl | trivial
end Go.Vai

/- A call whose arguments are lists of structs of the call's own, by a contract that is named. -/
namespace Go.Vai
open Go.RowKit
def frzEl (hp:Hp):AV→AV × Hp
 | .agg cs=>(.agg (frzArgs hp cs).1,(frzArgs hp cs).2)
 | x=>frzArg hp x
def frzEl2:Hp→List AV→List AV × Hp
 | hp,[]=>([],hp)
 | hp,x :: r=>((frzEl hp x).1 :: (frzEl2 (frzEl hp x).2 r).1,(frzEl2 (frzEl hp x).2 r).2)
def deep2 (hp:Hp):AV→AV × Hp
 | .lst sz xs=>(.lst sz (frzEl2 hp xs).1,(frzEl2 hp xs).2)
 | x=>(x,hp)
def deep2s:Hp→List AV→List AV × Hp
 | hp,[]=>([],hp)
 | hp,x :: r=>((deep2 hp x).1 :: (deep2s (deep2 hp x).2 r).1,(deep2s (deep2 hp x).2 r).2)
def subEls:List AV→List AV→Prop
 | [],[]=>True
 | x :: xs,y :: ys=>subB x y∧subEls xs ys
 | _,_=>False
def subDs:AV→AV→Prop
 | .lst n xs,.lst m ys=>n=m∧subEls xs ys
 | x,y=>sub1 x y
def subD:List AV→List AV→Prop
 | [],[]=>True
 | x :: xs,y :: ys=>subDs x y∧subD xs ys
 | _,_=>False
section
variable {w0 : World} {K0 : Nat → Option Obj} {D : Nat → Prop} {n : Nat} {fr : Frm} {a : Act} {w : World}
theorem frzCells_sound:∀ (xs:List AV) (E:Env) (hp:Hp),Rel w0 K0 D E n fr hp a w →
  ∃ E',E.le E'∧(∀ id,E'.dom id→E.dom id)∧Rel w0 K0 D E' n fr (frzArgs hp xs).2 a w∧(frzArgs hp xs).1.length=xs.length ∧
   ∀ (i:Nat) (x:AV),(frzArgs hp xs).1[i]? = some x→∃ y,xs[i]? = some y∧∀ v,Con E y v→Con E' x v
 | [],E,hp,hr=>⟨E,Env.le.refl E,fun _ h=>h,hr,rfl,fun i x hx=>by simp [frzArgs] at hx⟩
 | x :: r,E,hp,hr=>by
  obtain ⟨E1,h1,h2,h3,h4⟩:=frzArg_sound hr x
  obtain ⟨E2,k1,k2,k3,k4,k5⟩:=frzCells_sound r E1 (frzArg hp x).2 h3
  refine ⟨E2,h1.trans k1,fun id hd=>h2 id (k2 id hd),k3,by simpa [frzArgs] using k4,?_⟩
  intro i y hy
  cases i with
  | zero=>
   simp only [frzArgs,List.getElem?_cons_zero,Option.some.injEq] at hy
   subst hy
   exact ⟨x,rfl,fun v hv=>(h4 v hv).mono k1⟩
  | succ i=>
   simp only [frzArgs,List.getElem?_cons_succ] at hy
   obtain ⟨y',q1,q2⟩:=k5 i y hy
   exact ⟨y',q1,fun v hv=>q2 v (hv.mono h1)⟩
theorem frzEl_sound {E:Env} {hp:Hp} (hr:Rel w0 K0 D E n fr hp a w) (x:AV) :
  ∃ E',E.le E'∧(∀ id,E'.dom id→E.dom id)∧Rel w0 K0 D E' n fr (frzEl hp x).2 a w∧(frzEl hp x).1.cells.length=x.cells.length ∧
   ∀ (j:Nat) (b:AV),(frzEl hp x).1.cells[j]? = some b→∃ b',x.cells[j]? = some b'∧∀ v,Con E b' v→Con E' b v:=by
 have one:∀ x:AV,frzEl hp x=frzArg hp x→∃ E',E.le E'∧(∀ id,E'.dom id→E.dom id)∧Rel w0 K0 D E' n fr (frzEl hp x).2 a w∧(frzEl hp x).1.cells.length=x.cells.length ∧
   ∀ (j:Nat) (b:AV),(frzEl hp x).1.cells[j]? = some b→∃ b',x.cells[j]? = some b'∧∀ v,Con E b' v→Con E' b v:=by
  intro x e
  rw [e]
  obtain ⟨E1,h1,h2,h3,h4⟩:=frzArg_sound hr x
  refine ⟨E1,h1,h2,h3,?_⟩
  rcases frzArg_cells hp x with e | ⟨e1,e2⟩
  ·rw [e]
   exact ⟨rfl,fun j b hb=>⟨b,hb,fun v hv=>hv.mono h1⟩⟩
  ·rw [e1,e2]
   refine ⟨rfl,fun j b hb=>?_⟩
   cases j with
   | zero=>
    simp only [List.getElem?_cons_zero,Option.some.injEq] at hb
    subst hb
    exact ⟨x,rfl,h4⟩
   | succ j=>simp at hb
 cases x with
 | agg cs=>
  obtain ⟨E1,h1,h2,h3,h4,h5⟩:=frzCells_sound cs E hp hr
  exact ⟨E1,h1,h2,h3,h4,h5⟩
 | _=>exact one _ rfl
theorem frzEl2_sound:∀ (xs:List AV) (E:Env) (hp:Hp),Rel w0 K0 D E n fr hp a w →
  ∃ E',E.le E'∧(∀ id,E'.dom id→E.dom id)∧Rel w0 K0 D E' n fr (frzEl2 hp xs).2 a w∧(frzEl2 hp xs).1.length=xs.length ∧
   ∀ (i:Nat) (x:AV),(frzEl2 hp xs).1[i]? = some x→∃ y,xs[i]? = some y∧x.cells.length=y.cells.length∧∀ (j:Nat) (b:AV),x.cells[j]? = some b→∃ b',y.cells[j]? = some b'∧∀ v,Con E b' v→Con E' b v
 | [],E,hp,hr=>⟨E,Env.le.refl E,fun _ h=>h,hr,rfl,fun i x hx=>by simp [frzEl2] at hx⟩
 | x :: r,E,hp,hr=>by
  obtain ⟨E1,h1,h2,h3,h4,h4'⟩:=frzEl_sound hr x
  obtain ⟨E2,k1,k2,k3,k4,k5⟩:=frzEl2_sound r E1 (frzEl hp x).2 h3
  refine ⟨E2,h1.trans k1,fun id hd=>h2 id (k2 id hd),k3,by simpa [frzEl2] using k4,?_⟩
  intro i y hy
  cases i with
  | zero=>
   simp only [frzEl2,List.getElem?_cons_zero,Option.some.injEq] at hy
   subst hy
   exact ⟨x,rfl,h4,fun j b hb=>let ⟨b',q4,q5⟩:=h4' j b hb; ⟨b',q4,fun v hv=>(q5 v hv).mono k1⟩⟩
  | succ i=>
   simp only [frzEl2,List.getElem?_cons_succ] at hy
   obtain ⟨y',q1,q2,q3⟩:=k5 i y hy
   exact ⟨y',q1,q2,fun j b hb=>let ⟨b',q4,q5⟩:=q3 j b hb; ⟨b',q4,fun v hv=>q5 v (hv.mono h1)⟩⟩
theorem deep2_sound {E:Env} {hp:Hp} (hr:Rel w0 K0 D E n fr hp a w) (x:AV) :
  ∃ E',E.le E'∧(∀ id,E'.dom id→E.dom id)∧Rel w0 K0 D E' n fr (deep2 hp x).2 a w∧∀ v,Con E x v→Con E' (deep2 hp x).1 v:=by
 cases x with
 | lst sz xs=>
  obtain ⟨E',h1,h2,h3,h4,h5⟩:=frzEl2_sound xs E hp hr
  refine ⟨E',h1,h2,h3,fun v hv=>?_⟩
  cases hv with
  | lst _ _ A m c ad y hn hc hA hs hk h1' hh=>
   refine .lst _ _ A m c ad y (h4.trans hn) hc (fun hne=>hA (fun e=>hne (List.eq_nil_of_length_eq_zero (by rw [h4,e]; rfl)))) ?_ ?_ ?_ ?_
   ·intro i x hx
    obtain ⟨y',q1,q2,_⟩:=h5 i x hx
    exact q2.trans (hs i y' q1)
   ·intro i x j b hx hb
    obtain ⟨y',q1,_,q3⟩:=h5 i x hx
    obtain ⟨b',q4,_⟩:=q3 j b hb
    exact kcell_mono h1.K (hk i y' j b' q1 q4)
   ·intro i x j b hx hb
    obtain ⟨y',q1,_,q3⟩:=h5 i x hx
    obtain ⟨b',q4,_⟩:=q3 j b hb
    exact h1' i y' j b' q1 q4
   ·intro i x j b hx hb
    obtain ⟨y',q1,_,q3⟩:=h5 i x hx
    obtain ⟨b',q4,q5⟩:=q3 j b hb
    exact q5 _ (hh i y' j b' q1 q4)
 | _=>exact ⟨E,Env.le.refl E,fun _ h=>h,hr,fun _ h=>h⟩
theorem deep2s_sound:∀ (args:List AV) (E:Env) (hp:Hp),Rel w0 K0 D E n fr hp a w→∀ (vs:List Value),args.length=vs.length→(∀ (i:Nat) (x:AV) (v:Value),args[i]? = some x→vs[i]? = some v→Con E x v) →
  ∃ E',E.le E'∧(∀ id,E'.dom id→E.dom id)∧Rel w0 K0 D E' n fr (deep2s hp args).2 a w∧(deep2s hp args).1.length=vs.length∧∀ (i:Nat) (x:AV) (v:Value),(deep2s hp args).1[i]? = some x→vs[i]? = some v→Con E' x v
 | [],E,hp,hr,vs,hl,h=>⟨E,Env.le.refl E,fun _ h=>h,hr,hl,fun i x v hx=>by simp [deep2s] at hx⟩
 | x :: r,E,hp,hr,[],hl,h=>by simp at hl
 | x :: r,E,hp,hr,v :: vs,hl,h=>by
  obtain ⟨E1,h1,h2,h3,h4⟩:=deep2_sound hr x
  obtain ⟨E2,k1,k2,k3,k4,k5⟩:=deep2s_sound r E1 (deep2 hp x).2 h3 vs (by simpa using hl) fun i y u hy hu=>(h (i + 1) y u (by simpa using hy) (by simpa using hu)).mono h1
  refine ⟨E2,h1.trans k1,fun id hd=>h2 id (k2 id hd),k3,by simpa [deep2s] using k4,?_⟩
  intro i y u hy hu
  cases i with
  | zero=>
   simp only [deep2s,List.getElem?_cons_zero,Option.some.injEq] at hy hu
   subst hy; subst hu
   exact (h4 v (h 0 x v rfl rfl)).mono k1
  | succ i=>
   simp only [deep2s,List.getElem?_cons_succ] at hy hu
   exact k5 i y u hy hu
end
theorem subL_get:∀ {xs ys:List AV},subL xs ys→ys.length=xs.length∧∀ (j:Nat) (b:AV),ys[j]? = some b→∃ b',xs[j]? = some b'∧sub1 b' b
 | [],[],_=>⟨rfl,fun j b hb=>by simp at hb⟩
 | x :: xs,y :: ys,h=>by
  obtain ⟨h1,h2⟩:=subL_get h.2
  refine ⟨by simpa using h1,fun j b hb=>?_⟩
  cases j with
  | zero=>
   simp only [List.getElem?_cons_zero,Option.some.injEq] at hb
   subst hb
   exact ⟨x,rfl,h.1⟩
  | succ j=>exact h2 j b (by simpa using hb)
 | [],_ :: _,h=>h.elim
 | _ :: _,[],h=>h.elim
theorem sub1_cells {x y:AV} (h:sub1 x y):(x=y)∨(x.cells=[x]∧y.cells=[y]):=by
 unfold sub1 at h
 split at h
 ·exact .inr ⟨rfl,rfl⟩
 ·exact .inl h
theorem sub1_refl (x:AV):sub1 x x:=by
 have h:∀ x y:AV,x=y→sub1 x y:=by
  intro x y e
  unfold sub1
  split
  ·cases e
  ·exact e
 exact h x x rfl
theorem subB_get {x y:AV} (h:subB x y):y.cells.length=x.cells.length∧∀ (j:Nat) (b:AV),y.cells[j]? = some b→∃ b',x.cells[j]? = some b'∧sub1 b' b:=by
 unfold subB at h
 split at h
 ·exact subL_get h
 ·rcases sub1_cells h with rfl | ⟨e1,e2⟩
  ·exact ⟨rfl,fun j b hb=>⟨b,hb,sub1_refl b⟩⟩
  ·rw [e1,e2]
   refine ⟨rfl,fun j b hb=>?_⟩
   cases j with
   | zero=>
    simp only [List.getElem?_cons_zero,Option.some.injEq] at hb
    subst hb
    exact ⟨x,rfl,h⟩
   | succ j=>simp at hb
theorem subEls_get:∀ {xs ys:List AV},subEls xs ys→ys.length=xs.length∧∀ (j:Nat) (b:AV),ys[j]? = some b→∃ b',xs[j]? = some b'∧subB b' b
 | [],[],_=>⟨rfl,fun j b hb=>by simp at hb⟩
 | x :: xs,y :: ys,h=>by
  obtain ⟨h1,h2⟩:=subEls_get h.2
  refine ⟨by simpa using h1,fun j b hb=>?_⟩
  cases j with
  | zero=>
   simp only [List.getElem?_cons_zero,Option.some.injEq] at hb
   subst hb
   exact ⟨x,rfl,h.1⟩
  | succ j=>exact h2 j b (by simpa using hb)
 | [],_ :: _,h=>h.elim
 | _ :: _,[],h=>h.elim
theorem subEls_key {xs ys:List AV} (h:subEls xs ys) {i:Nat} {y:AV} {j:Nat} {b:AV} (hy:ys[i]? = some y) (hb:y.cells[j]? = some b):∃ x' b',xs[i]? = some x'∧x'.cells[j]? = some b'∧sub1 b' b:=by
 obtain ⟨x',q1,q2⟩:=(subEls_get h).2 i y hy
 obtain ⟨b',q5,q6⟩:=(subB_get q2).2 j b hb
 exact ⟨x',b',q1,q5,q6⟩
theorem subDs_con {E:Env} {x y:AV} {v:Value} (h:subDs x y) (hx:Con E x v):Con E y v:=by
 unfold subDs at h
 split at h
 ·obtain ⟨rfl,h⟩:=h
  obtain ⟨g1,g2⟩:=subEls_get h
  cases hx with
  | lst _ _ A m c ad z hn hc hA hs hk h1' hh=>
   refine .lst _ _ A m c ad z (g1.trans hn) hc (fun hne=>hA (fun e=>hne (List.eq_nil_of_length_eq_zero (by rw [g1,e]; rfl)))) ?_ ?_ ?_ ?_
   ·intro i y hy
    obtain ⟨x',q1,q2⟩:=g2 i y hy
    exact (subB_get q2).1.trans (hs i x' q1)
   ·intro i y j b hy hb
    obtain ⟨x',b',q1,q2,q3⟩:=subEls_key h hy hb
    exact hk i x' j b' q1 q2
   ·intro i y j b hy hb
    obtain ⟨x',b',q1,q2,q3⟩:=subEls_key h hy hb
    exact h1' i x' j b' q1 q2
   ·intro i y j b hy hb
    obtain ⟨x',b',q1,q2,q3⟩:=subEls_key h hy hb
    exact sub1_con q3 (hh i x' j b' q1 q2)
 ·exact sub1_con h hx
theorem subD_con {E:Env}:∀ {xs ys:List AV} {vs:List Value},subD xs ys→xs.length=vs.length→(∀ (i:Nat) (x:AV) (v:Value),xs[i]? = some x→vs[i]? = some v→Con E x v) →
  ys.length=vs.length∧∀ (i:Nat) (x:AV) (v:Value),ys[i]? = some x→vs[i]? = some v→Con E x v
 | [],[],vs,_,hl,h=>⟨hl,h⟩
 | x :: xs,y :: ys,[],_,hl,_=>by simp at hl
 | x :: xs,y :: ys,v :: vs,hs,hl,h=>by
  obtain ⟨h1,h2⟩:=subD_con (vs:=vs) hs.2 (by simpa using hl) fun i x' v' hx hv=>h (i + 1) x' v' (by simpa using hx) (by simpa using hv)
  refine ⟨by simpa using h1,fun i x' v' hx hv=>?_⟩
  cases i with
  | zero=>
   simp only [List.getElem?_cons_zero,Option.some.injEq] at hx hv
   subst hx; subst hv
   exact subDs_con hs.1 (h 0 x v rfl rfl)
  | succ i=>exact h2 i x' v' (by simpa using hx) (by simpa using hv)
 | [],_ :: _,_,hs,_,_=>hs.elim
 | _ :: _,[],_,hs,_,_=>hs.elim
def conA (hp1:List AV × Hp) (nx:Nat) (tgt:List AV) (r:AV) (K:AV→Hp→Nat→Prop):Prop:=subD hp1.1 tgt∧K r hp1.2 nx
def conF (F:CallF) (g0:FuncId) (tgt:List AV) (r:AV):CallF:=fun g args hp nx K=>
 match Nat.beq g g0 with
 | true=>conA (deep2s (frzDeep hp args).2 (frzDeep hp args).1) nx tgt r K
 | false=>F g args hp nx K
theorem r_con {F:CallF} {g g0:Nat} {tgt:List AV} {r:AV} {args:List AV} {hp:Hp} {nx:Nat} {K:AV→Hp→Nat→Prop}:conF F g0 tgt r g args hp nx K=match Nat.beq g g0 with
 | true=>conA (deep2s (frzDeep hp args).2 (frzDeep hp args).1) nx tgt r K
 | false=>F g args hp nx K:=rfl
theorem con_sound {X:Ctx} {F:CallF} (hC:CallSound X F) {g0:FuncId} {tgt:List AV} {r:AV} (he:Enters X.P g0) (hf:∀ a∈tgt,HFree a) (hp0:PureC X.P g0 tgt r):CallSound X (conF F g0 tgt r):=by
 intro g args hp nx K h w0 K0 E n fr a w vs hr ha
 unfold conF at h
 split at h
 ·rename_i hg
  have hg:=Nat.eq_of_beq_eq_true hg
  subst hg
  obtain ⟨hs,hK⟩:=h
  obtain ⟨E1,e1,e2,e3,e4,e5⟩:=frzArgs_sound args E hp hr vs.toList (by simpa using ha.1) fun i x v hx hv=>ha.2 i x v hx (by simpa using hv)
  obtain ⟨E2,d1,d2,d3,d4,d5⟩:=deepArgs_sound (frzArgs hp args).1 E1 (frzArgs hp args).2 e3 vs.toList e4 e5
  obtain ⟨E3,f1,f2,f3,f4,f5⟩:=deep2s_sound (frzDeep hp args).1 E2 (frzDeep hp args).2 d3 vs.toList d4 d5
  obtain ⟨g1,g2⟩:=subD_con hs f4 f5
  refine ⟨he,(hp0 w E3.K vs f3.kw ⟨by simpa using g1,fun i x v hx hv=>hf x (List.mem_of_getElem? hx) E3 v (g2 i x v hx (by simpa using hv))⟩).mono ?_⟩
  rintro e w' ⟨v,rfl,hb,hc⟩
  obtain ⟨hle,hr'⟩:=f3.call hb
  exact ⟨v,r,_,nx,_,rfl,hK,⟨((e1.trans d1).trans f1).trans hle,Nat.le_refl _,fun id hd=>.inl (e2 id (d2 id (f2 id hd)))⟩,hc.monoc (Env.bare_le _ fun _ _ hk=>hk),hr'⟩
 ·exact hC g args hp nx K h w0 K0 E n fr a w vs hr ha
theorem pure_subF {X:Ctx} (hX:X.ok) {F:CallF} (hF:CallSound X F) {g:FuncId} {fn:Func} {body:Code} (hfn:X.P.funcs[g]? = some fn) (hb:fn.body=some body) {args:List AV} {r:AV} (hl:args.length≤fn.ntmps)
  (h:codeA X F body (bodyQ X.T fn fun r0 hp _=>frz hp r0 (subA · r)) ⟨fn.ntmps,argFrm args 0,[],0⟩):PureC X.P g args r:=by
 intro w K vs hK ha
 refine (body_calls hX.core hX.rd hF hfn hb hl h (hX.inv _ _) (rel_start hK) ha).mono ?_
 rintro e w' ⟨v,r0,hp',nx',E',rfl,h1,h2,h3,h4⟩
 obtain ⟨y,hy,hc⟩:=frz_sound h4 (K':=grow w K w') (fun b o hb=>by
  simp only [grow]
  split
  ·rename_i hlt; exact h4.k0 b o hb hlt
  ·exact h4.kw b o hb) (fun b hb=>by simp only [grow,if_neg (Nat.not_lt.2 hb)]) h3 h1
 exact ⟨v,rfl,h4.below,subA_con hy hc⟩
end Go.Vai

/- What the statements try first: all is as it should be. -/
namespace Go.Vai
open Go.RowKit Go.Proofs
set_option maxHeartbeats 4000000
set_option maxRecDepth 100000
def P1:Po:=(pPlay c1 t1 r1 b1).1
def L1:List Ev:=[⟨0,0,0⟩,⟨2,0,0⟩,⟨3,1,0⟩,⟨4,0,0⟩,⟨2,1,0⟩,⟨4,1,0⟩,⟨5,0,0⟩]
theorem p1_is:(pPlay c1 t1 r1 b1).2.2=true:=by decide +kernel
theorem p1_no:((List.range 56).all fun n=>!pRested (drn P1 n).1)=true:=by decide +kernel
theorem p1_yes:pRested (drn P1 56).1=true:=by decide +kernel
theorem p1_ri:((List.range 57).all fun n=>decide (RIn (drn P1 n).1 (rnd 2 1 n)))=true:=by decide +kernel
theorem p1_len:((List.range 57).all fun n=>decide ((drn P1 n).2.length≤6 * n))=true:=by decide +kernel
theorem p1_r0:RIn P1 []:=by decide +kernel
theorem p1_ev:(drn P1 56).2=L1:=by decide +kernel
theorem p1_w:P1.c.w=2:=by decide +kernel
theorem p1_s:P1.s.length=1:=by decide +kernel
theorem calm1:Calm P1 56 where
 n:=by decide
 w:=p1_w
 s:=p1_s
 r0:=p1_r0
 ri:=fun n hn=>by
  have:=List.all_eq_true.1 p1_ri n (List.mem_range.2 (by omega))
  simpa using this
 no:=fun n hn=>by
  have:=List.all_eq_true.1 p1_no n (List.mem_range.2 hn)
  simpa using this
 yes:=p1_yes
 len:=fun n hn=>by
  have:=List.all_eq_true.1 p1_len n (List.mem_range.2 (by omega))
  simpa using this
def rowsAZ:List Row:=[] ++ rowsAY
theorem rowsAZ_ok:∀ p∈rowsAZ,RowOk Tryz.prog p:=fun p h=>by
 simp only [rowsAZ,List.mem_append,List.not_mem_nil,false_or] at h
 rcases h with h
 ·exact rowsAY_ok p h
theorem okAZ:(ctx Tryz.prog rowsAZ).ok:=rows_ok rowsAZ_ok
theorem AZ_all:tabC rowsAZ 21=(fun _=>none)∧tabC rowsAZ 22=(row1 shPo fun p=>if PB p 100000 then some (bv (pRested p)) else none)∧tabC rowsAZ 191=(row1 shN fun e=>some (.tup [u (wBump e),iv (wLow (wMask e))]))∧tabC rowsAZ 190=(fun _=>none)∧tabC rowsAZ 192=(fun _=>none)∧tabC rowsAZ 30=(row1 shN fun e=>some (u (wMask e))):=⟨rfl,rfl,rfl,rfl,rfl,rfl⟩
theorem wr4:IntKind.wrap .i64 4=4:=by decide
theorem wr5:IntKind.wrap .i64 5=5:=by decide
theorem wr6:IntKind.wrap .i64 6=6:=by decide
theorem wr7:IntKind.wrap .i64 7=7:=by decide
theorem awake_pure:PureC Tryz.prog 6 [] (bv true):=by
 have hplay:=play_pure c1 t1 r1 b1 (by decide) (by decide) (by decide)
 have hdrain:=drain_pure P1 56 calm1
 have hpb:PB (drn P1 56).1 100000:=by
  have:=(calm1.ri 56 (Nat.le_refl _)).b
  exact ⟨this.t,this.m,fun x hx=>by have:=this.w x hx; omega,this.s⟩
 have hyes:=p1_yes
 rw [p1_ev] at hdrain
 rw [p1_is,show (pPlay c1 t1 r1 b1).1=P1 from rfl] at hplay
 generalize (pPlay c1 t1 r1 b1).2.1=L0 at hplay
 generalize drn P1 56=D at hdrain hpb hyes
 generalize P1=p at hplay hdrain
 obtain ⟨q,dl⟩:=D
 dsimp only at hdrain hpb hyes
 obtain ⟨⟨pw,pd,pi,ps⟩,pt,pm,pws,pss⟩:=p
 obtain ⟨⟨qw,qd,qi,qs⟩,qt,qm,qws,qss⟩:=q
 refine pure_subF okAZ (con_sound (con_sound (callN_sound okAZ.core okAZ.rd okAZ.inv 2) (g0:=8) (enters_of Tryz.func8 (by decide) rfl) ?_ hplay) (g0:=20) (enters_of Tryz.func20 (by decide) rfl) ?_ hdrain) Tryz.func6 rfl (by show 0≤_; decide) ?_
 ·intro x hx
  simp only [List.mem_cons,List.not_mem_nil,or_false] at hx
  rcases hx with rfl | rfl | rfl | rfl
  ·exact hfree_cv _
  ·exact hf_tks _
  ·exact hfree_L 1 elZ _
  ·exact hfree_L 1 elBy _
 ·intro x hx
  simp only [List.mem_cons,List.not_mem_nil,or_false] at hx
  rcases hx with rfl | rfl
  ·exact elPo.free _
  ·exact hfree_v _
 simp only [Tryz.f6,Tryz.func21,Tryz.f21,r_con,conA,deep2s,deep2,frzEl2,frzEl,subD,subDs,inl,AZ_all,pov,tks,wks,sbs,ms,evs,L1,tt_all,cv',iv,bv,ms,ctx_T,ctx_C,ctx_P,Option.map_some,String.reduceBEq,Int.cast_ofNat_Int,ev1,ev2,undef,frzDeep,deepArgs,deepArg,cv,stepB,aopR,one,pre,argFrm,evo,lkp,hlk,lenOf,ofVal,ofCells,setCells,fillA,setElems,AV.wr,AV.ok1,TK.agg,frz,frz1,frzA,frzArg,frzArgs,subA,subB,sub1,List.replicate,Nat.reduceAdd,Nat.reduceMul,Nat.reduceEqDiff,Nat.reduceLT,Nat.reduceLeDiff,reduceCtorEq,eq_self,ne_eq]
 refine ⟨⟨rfl,⟨⟨rfl,rfl,trivial⟩,⟨rfl,rfl,trivial⟩,trivial⟩,⟨rfl,rfl,trivial⟩,⟨rfl,rfl,rfl,rfl,rfl,rfl,rfl,trivial⟩⟩,?_⟩
 refine WP.rounds okAZ 1 8 (by rfl) ?_
 simp only [r_rounds,r_con,AZ_all,sx_all,hpb,hyes,ev',wr1,wr2,wr3,wr4,wr5,wr6,wr7,Int.reduceAdd,Int.reduceLT,Int.reduceToNat,List.length_cons,List.length_nil,Nat.reduceAdd,tt_all,row1,iv,bv,ctx_T,ctx_C,Option.bind_some,Int.cast_ofNat_Int,Int.reduceAdd,ev1,ev2,implies_true,undef,dynCall,↓condE_t,↓condE_f,↓guardE_tt,↓guardE_ff,resB,cv,stepB,stepE,guardB,guardC,dstAt,aopR,one,pre,binR,intOpR,evo,lkp,hlk,ofVal,ofCells,setCells,AV.wr,AV.ok1,TK.agg,accOf,Nat.reduceAdd,Nat.reduceMul,Nat.reduceEqDiff,Nat.reduceLT,Nat.reduceLeDiff,reduceCtorEq,eq_self,ne_eq,Int.reduceToNat,Int.reduceLT,Int.reduceLE,Int.reduceGE]
end Go.Vai

/- No more seek than there are: the law's own text. -/
namespace Go.Vai
open Go.RowKit Go.Proofs
set_option maxHeartbeats 4000000
set_option maxRecDepth 100000
theorem few_tB {t:List Tk} (h:few t=true):tB t=true:=by
 simp only [few,Bool.and_eq_true,decide_eq_true_eq] at h
 obtain ⟨h1,h2⟩:=h
 rw [List.take_of_length_le (by omega)] at h1
 unfold tB
 rw [List.all_eq_true] at h1 ⊢
 intro x hx
 have:=h1 x hx
 simp only [okKd,decide_eq_true_eq] at this ⊢
 omega
theorem fewR_rtB {l:List (List Int)} (h:fewR l=true):rtB l=true:=by
 simp only [fewR,Bool.and_eq_true,decide_eq_true_eq] at h
 obtain ⟨h1,h2⟩:=h
 rw [List.take_of_length_le (by omega)] at h1
 unfold rtB
 rw [List.all_eq_true] at h1 ⊢
 intro x hx
 have:=h1 x hx
 simp only [okRt,decide_eq_true_eq] at this ⊢
 omega
end Go.Vai
