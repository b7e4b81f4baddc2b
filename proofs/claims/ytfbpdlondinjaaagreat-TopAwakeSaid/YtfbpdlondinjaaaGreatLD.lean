/- The evaluator, the plain texts and the contracts that this claim leans on, part 4: nothing of the statement is claimed here. -/
import Derived.Test.YtfbpdlondinjaaaGreatLC
set_option linter.unusedVariables false
set_option linter.unusedSimpArgs false

/- Waking, a step; the event's. -/
namespace Go.Vai
open Go.RowKit Go.Proofs
set_option maxHeartbeats 4000000
set_option maxRecDepth 100000
def rowsAD:List Row:=[
 (165,row3 shC shM shF fun c m f=>if f.op=6 then some (bv (goesN c m f)) else none)] ++ rowsAC
theorem rowsAD_ok:∀ p∈rowsAD,RowOk Tryz.prog p:=fun p h=>by
 simp only [rowsAD,List.mem_append,List.mem_cons,List.not_mem_nil,or_false] at h
 rcases h with rfl | h
 ·exact ok_row3 (enters_of Tryz.func165 (by decide) rfl) fun c m f r _ g _ e=>by obtain ⟨h,rfl⟩:=opt_if e; exact ngoes_pure c m f (shM_got g) h
 ·exact rowsAC_ok p h
theorem okAD:(ctx Tryz.prog rowsAD).ok:=rows_ok rowsAD_ok
theorem AD_all:tabC rowsAD 165=(row3 shC shM shF fun c m f=>if f.op=6 then some (bv (goesN c m f)) else none)∧tabC rowsAD 166=(row0 (.fm kindsM))∧tabC rowsAD 191=(row1 shN fun e=>some (.tup [u (wBump e),iv (wLow (wMask e))]))∧tabC rowsAD 169=(row3 shC shM shW fun c m w=>some (ms (mStore m (lPark c w) 1)))∧tabC rowsAD 148=(row3 shC shM shF fun c m f=>some (sv (waStep c m f)))∧tabC rowsAD 190=(fun _=>none)∧tabC rowsAD 192=(fun _=>none)∧tabC rowsAD 30=(row1 shN fun e=>some (u (wMask e)))∧tabC rowsAD 170=(row1 shN fun e=>some (iv (wLow e)))∧tabC rowsAD 79=(row1 shM fun m=>some (ms m))∧tabC rowsAD 12=(row2 shM shI fun m i=>some (u (mLoad m i)))∧tabC rowsAD 167=(row4 shM shI shN shN fun m i v w=>some (.tup [ms (mCas m i v w),bv (mCasB m i v)]))∧tabC rowsAD 168=(row3 shF shI shN fun f r v=>some (fv (fEnd f r v))):=⟨rfl,rfl,rfl,rfl,rfl,rfl,rfl,rfl,rfl,rfl,rfl,rfl,rfl⟩
def nLow (x:Int):Int:=IntKind.wrap .u64 (if 0 > wLow (wMask x) then 0 else wLow (wMask x))
def nWho (y:Int):Int:=if y < 8 then IntKind.wrap .i64 y else -1
def noStep (c:Cf) (m:List Int) (f:Fr):List Int × Fr:=
 if goesN c m f=true then
  (if f.pc=0 then (m,⟨f.op,1,f.who,f.val,mLoad m 2,f.y,f.res⟩)
  else if f.pc=1 then (mCas m 2 f.x (wBump f.x),if mCasB m 2 f.x=true then (if wMask f.x=0 then ⟨f.op,0,f.who,0,0,0,3⟩ else ⟨f.op,2,f.who,f.val,f.x,nLow f.x,f.res⟩) else ⟨f.op,0,f.who,f.val,f.x,f.y,f.res⟩)
  else (mStore m (lPark c (nWho f.y)) 1,⟨f.op,0,f.who,f.y,0,0,1⟩))
 else (m,f)
theorem noStep_no {c:Cf} {m:List Int} {f:Fr} (h:goesN c m f=false):noStep c m f=(m,f):=by simp [noStep,h]
theorem len_noStep (c:Cf) (m:List Int) (f:Fr):(noStep c m f).1.length=m.length:=by
 unfold noStep
 repeat' split
 all_goals first | rfl | exact len_store .. | exact len_cas ..
theorem nostep_pure (c:Cf) (m:List Int) (f:Fr) (hm:m.length≤1000) (h6:f.op=6):PureC Tryz.prog 149 [cv' c,ms m,fv f] (sv (noStep c m f)):=by
 refine pure_sub okAD 2 Tryz.func149 rfl (by show 3≤_; decide) ?_
 obtain ⟨op,pc,who,val,x,y,res⟩:=f
 dsimp only at h6
 subst h6
 cases hg:goesN c m ⟨6,pc,who,val,x,y,res⟩ with
 | false=>
  rw [noStep_no hg]
  simp only [Tryz.f149,AD_all,hg,hm,sv,fv,cv',cf_eta,shC_dec,dC,T23,T42,hfree_lu,row1,row3,shM_dec,dM,dU_map,iv,bv,u,ms,ctx_T,ctx_C,Option.bind_some,shF_dec,dF,Int.reduceNeg,ev1,ev2,undef,dynCall,↓condE_t,resB,cv,stepB,stepE,aopR,one,pre,unR,argFrm,evo,lkp,hlk,ofVal,ofCells,setCells,AV.wr,AV.ok1,TK.agg,frz,frz1,frzt,frzs,frzA,subA,subB,subM,subL,sub1,accOf,Nat.reduceAdd,Nat.reduceEqDiff,Nat.reduceLT,Nat.reduceLeDiff,reduceCtorEq,eq_self,ne_eq]
  all_goals ((repeat' apply And.intro) <;> first | rfl | omega | (show (_:Bool)=true; kernel_rfl) | decide)
 | true=>
  have hpc:pc=0∨pc=1∨pc=2:=by
   simp [goesN] at hg; omega
  unfold noStep
  rw [if_pos hg]
  have hu:∀ x,IntKind.wrap .u64 x=wrapU x:=fun _=>rfl
  rcases hpc with rfl | rfl | rfl
  ·simp only [Tryz.f149,AD_all,hg,hm,sv,fv,cv',cf_eta,shC_dec,dC,T23,T42,hfree_lu,row1,row2,row3,shI_dec,shM_dec,dI,dM,dU_map,iv,bv,u,ms,ctx_T,ctx_C,T3,T40,Option.bind_some,shF_dec,dF,Int.reduceNeg,ev1,ev2,implies_true,undef,dynCall,↓condE_t,↓condE_f,resB,cv,stepB,stepE,aopR,one,pre,binR,intOpR,unR,argFrm,evo,lkp,hlk,ofVal,ofCells,setCells,AV.wr,AV.ok1,TK.agg,frz,frz1,frzt,frzs,frzA,subA,subB,subM,subL,sub1,accOf,Nat.reduceAdd,Nat.reduceEqDiff,Nat.reduceLT,Nat.reduceLeDiff,reduceCtorEq,eq_self,ne_eq,Int.reduceEq]
   all_goals ((repeat' apply And.intro) <;> first | rfl | omega | (show (_:Bool)=true; kernel_rfl) | decide)
  ·cases hb:mCasB m 2 x with
   | false=>
    simp only [Tryz.f149,Tryz.func190,Tryz.f190,inl,AD_all,hg,hm,hb,kindsM,sv,fv,T192,mo_look,lookM,hitM,mo_max,maxM,find_cons,findS,List.cons_append,List.nil_append,cv',cf_eta,shC_dec,dC,T23,T42,hfree_lu,row0,row1,row3,row4,shI_dec,shN_dec,shM_dec,dI,dN,dM,dU_map,iv,bv,u,ms,ctx_T,ctx_C,ctx_P,T3,T40,Option.bind_some,String.reduceBEq,shF_dec,dF,Int.reduceNeg,ev1,ev2,implies_true,undef,stepP,drawB,lateB,mixB,dynCall,↓condE_t,↓condE_f,frzDeep,deepArgs,deepArg,resB,cv,stepB,stepE,callD,tabD,aopR,one,pre,binR,intOpR,unR,argFrm,evo,lkp,hlk,ofVal,ofCells,setCells,AV.wr,AV.ok1,TK.agg,frz,frz1,frzt,frzs,frzA,frzArg,frzArgs,subA,subB,subM,subL,sub1,accOf,Nat.reduceAdd,Nat.reduceEqDiff,Nat.reduceLT,Nat.reduceLeDiff,reduceCtorEq,eq_self,ne_eq,Int.reduceBEq,Int.reduceEq]
    all_goals ((repeat' apply And.intro) <;> first | rfl | omega | (show (_:Bool)=true; kernel_rfl) | decide)
   | true=>
    by_cases hz:wMask x=0
    ·simp only [Tryz.f149,Tryz.func190,Tryz.f190,inl,AD_all,hg,hm,hb,hz,kindsM,sv,fv,fEnd,T192,mo_look,lookM,hitM,mo_max,maxM,find_cons,findS,List.cons_append,List.nil_append,cv',cf_eta,shC_dec,dC,T23,T42,hfree_lu,row0,row1,row3,row4,shI_dec,shN_dec,shM_dec,dI,dN,dM,dU_map,iv,bv,u,ms,ctx_T,ctx_C,ctx_P,T3,T40,Option.bind_some,String.reduceBEq,shF_dec,dF,Int.reduceNeg,ev1,ev2,implies_true,undef,stepP,drawB,lateB,mixB,dynCall,↓condE_t,↓condE_f,frzDeep,deepArgs,deepArg,resB,cv,stepB,stepE,callD,tabD,aopR,one,pre,binR,intOpR,unR,argFrm,evo,lkp,hlk,ofVal,ofCells,setCells,AV.wr,AV.ok1,TK.agg,frz,frz1,frzt,frzs,frzA,frzArg,frzArgs,subA,subB,subM,subL,sub1,accOf,Nat.reduceAdd,Nat.reduceEqDiff,Nat.reduceLT,Nat.reduceLeDiff,reduceCtorEq,eq_self,ne_eq,Int.reduceBEq,Int.reduceEq]
     all_goals ((repeat' apply And.intro) <;> first | rfl | omega | (show (_:Bool)=true; kernel_rfl) | decide)
    ·have hz':(wMask x == 0)=false:=by simpa using hz
     simp only [Tryz.f149,Tryz.func190,Tryz.f190,inl,AD_all,hg,hm,hb,hz,hz',kindsM,sv,fv,T192,mo_look,lookM,hitM,mo_max,maxM,find_cons,findS,List.cons_append,List.nil_append,cv',cf_eta,shC_dec,dC,T23,T42,hfree_lu,row0,row1,row3,row4,shI_dec,shN_dec,shM_dec,dI,dN,dM,dU_map,iv,bv,u,ms,ctx_T,ctx_C,ctx_P,T3,T40,Option.bind_some,String.reduceBEq,shF_dec,dF,Int.reduceNeg,ev1,ev2,implies_true,undef,stepP,drawB,lateB,mixB,dynCall,↓condE_t,↓condE_f,frzDeep,deepArgs,deepArg,resB,cv,stepB,stepE,callD,tabD,aopR,one,pre,binR,intOpR,unR,argFrm,evo,lkp,hlk,ofVal,ofCells,setCells,AV.wr,AV.ok1,TK.agg,frz,frz1,frzt,frzs,frzA,frzArg,frzArgs,subA,subB,subM,subL,sub1,accOf,Nat.reduceAdd,Nat.reduceEqDiff,Nat.reduceLT,Nat.reduceLeDiff,reduceCtorEq,eq_self,ne_eq,Int.reduceBEq,Int.reduceEq]
     all_goals ((repeat' apply And.intro) <;> first | rfl | omega | (show (_:Bool)=true; kernel_rfl) | decide)
  ·by_cases hy:y < 8
   ·simp only [Tryz.f149,AD_all,hg,hm,hy,nWho,shW_dec,sv,fv,fEnd,T48,List.cons_append,List.nil_append,cv',cf_eta,shC_dec,dC,T23,T42,hfree_lu,row1,row3,shI_dec,shN_dec,shM_dec,dI,dN,dM,dU_map,iv,bv,u,ms,ctx_T,ctx_C,T3,T40,Option.bind_some,shF_dec,dF,Int.reduceNeg,ev1,ev2,implies_true,undef,dynCall,↓condE_t,↓condE_f,resB,cv,stepB,stepE,callD,tabD,snapD,frzD,frzHs,frzH,snap1,snapId,snapIds,aopR,one,pre,binR,intOpR,unR,argFrm,evo,lkp,hlk,ofVal,ofCells,setCells,setElems,AV.wr,AV.ok1,TK.agg,frz,frz1,frzt,frzs,frzA,subA,subB,subM,subL,sub1,accOf,List.replicate,Nat.reduceAdd,Nat.reduceMul,Nat.reduceEqDiff,Nat.reduceLT,Nat.reduceLeDiff,reduceCtorEq,eq_self,ne_eq,Int.reduceBEq,Int.reduceEq]
    all_goals ((repeat' apply And.intro) <;> first | rfl | omega | (show (_:Bool)=true; kernel_rfl) | decide)
   ·simp only [Tryz.f149,AD_all,hg,hm,hy,nWho,shW_dec,sv,fv,fEnd,T48,List.cons_append,List.nil_append,cv',cf_eta,shC_dec,dC,T23,T42,hfree_lu,row1,row3,shI_dec,shN_dec,shM_dec,dI,dN,dM,dU_map,iv,bv,u,ms,ctx_T,ctx_C,T3,T40,Option.bind_some,shF_dec,dF,Int.reduceNeg,ev1,ev2,implies_true,undef,dynCall,↓condE_t,↓condE_f,resB,cv,stepB,stepE,callD,tabD,snapD,frzD,frzHs,frzH,snap1,snapId,snapIds,aopR,one,pre,binR,intOpR,unR,argFrm,evo,lkp,hlk,ofVal,ofCells,setCells,setElems,AV.wr,AV.ok1,TK.agg,frz,frz1,frzt,frzs,frzA,subA,subB,subM,subL,sub1,accOf,List.replicate,Nat.reduceAdd,Nat.reduceMul,Nat.reduceEqDiff,Nat.reduceLT,Nat.reduceLeDiff,reduceCtorEq,eq_self,ne_eq,Int.reduceBEq,Int.reduceEq]
    all_goals ((repeat' apply And.intro) <;> first | rfl | omega | (show (_:Bool)=true; kernel_rfl) | decide)
def rowsAE:List Row:=[
 (149,row3 shC shM shF fun c m f=>if f.op=6 then some (sv (noStep c m f)) else none)] ++ rowsAD
theorem rowsAE_ok:∀ p∈rowsAE,RowOk Tryz.prog p:=fun p h=>by
 simp only [rowsAE,List.mem_append,List.mem_cons,List.not_mem_nil,or_false] at h
 rcases h with rfl | h
 ·exact ok_row3 (enters_of Tryz.func149 (by decide) rfl) fun c m f r _ g _ e=>by obtain ⟨h,rfl⟩:=opt_if e; exact nostep_pure c m f (shM_got g) h
 ·exact rowsAD_ok p h
theorem okAE:(ctx Tryz.prog rowsAE).ok:=rows_ok rowsAE_ok
theorem AE_all:tabC rowsAE 149=(row3 shC shM shF fun c m f=>if f.op=6 then some (sv (noStep c m f)) else none)∧tabC rowsAE 165=(row3 shC shM shF fun c m f=>if f.op=6 then some (bv (goesN c m f)) else none)∧tabC rowsAE 166=(row0 (.fm kindsM))∧tabC rowsAE 191=(row1 shN fun e=>some (.tup [u (wBump e),iv (wLow (wMask e))]))∧tabC rowsAE 169=(row3 shC shM shW fun c m w=>some (ms (mStore m (lPark c w) 1)))∧tabC rowsAE 148=(row3 shC shM shF fun c m f=>some (sv (waStep c m f)))∧tabC rowsAE 190=(fun _=>none)∧tabC rowsAE 192=(fun _=>none)∧tabC rowsAE 30=(row1 shN fun e=>some (u (wMask e)))∧tabC rowsAE 170=(row1 shN fun e=>some (iv (wLow e)))∧tabC rowsAE 79=(row1 shM fun m=>some (ms m))∧tabC rowsAE 12=(row2 shM shI fun m i=>some (u (mLoad m i)))∧tabC rowsAE 167=(row4 shM shI shN shN fun m i v w=>some (.tup [ms (mCas m i v w),bv (mCasB m i v)]))∧tabC rowsAE 168=(row3 shF shI shN fun f r v=>some (fv (fEnd f r v))):=⟨rfl,rfl,rfl,rfl,rfl,rfl,rfl,rfl,rfl,rfl,rfl,rfl,rfl,rfl⟩
def evStep (c:Cf) (m:List Int) (f:Fr):List Int × Fr:=if f.op=5 then waStep c m f else if f.op=6 then noStep c m f else (m,f)
theorem len_evStep (c:Cf) (m:List Int) (f:Fr):(evStep c m f).1.length=m.length:=by
 unfold evStep
 repeat' split
 all_goals first | rfl | exact len_waStep .. | exact len_noStep ..
theorem evstep_pure (c:Cf) (m:List Int) (f:Fr) (hm:m.length≤1000) (h7:f.op≠7):PureC Tryz.prog 120 [cv' c,ms m,fv f] (sv (evStep c m f)):=by
 refine pure_sub okAE 1 Tryz.func120 rfl (by show 3≤_; decide) ?_
 have e7:(f.op == 7)=false:=by simpa using h7
 by_cases h5:f.op=5
 ·have e5:(f.op == 5)=true:=by simpa using h5
  rw [show evStep c m f=waStep c m f from if_pos h5]
  simp only [Tryz.f120,AE_all,e5,hm,sv,fv,cv',cf_eta,shC_dec,dC,T23,T42,hfree_lu,row3,shM_dec,dM,dU_map,iv,u,ms,ctx_T,ctx_C,T3,Option.bind_some,shF_dec,dF,fr_eta,ev1,ev2,implies_true,undef,↓condE_t,resB,cv,stepB,aopR,one,pre,binR,intOpR,argFrm,evo,lkp,hlk,ofVal,ofCells,setCells,AV.wr,AV.ok1,TK.agg,frz,frz1,frzt,frzs,frzA,subA,subB,subM,subL,sub1,Nat.reduceAdd,Nat.reduceEqDiff,Nat.reduceLT,Nat.reduceLeDiff,reduceCtorEq,eq_self,ne_eq]
  all_goals ((repeat' apply And.intro) <;> first | rfl | omega | (show (_:Bool)=true; kernel_rfl) | decide)
 ·have e5:(f.op == 5)=false:=by simpa using h5
  by_cases h6:f.op=6
  ·rw [show evStep c m f=noStep c m f from (if_neg h5).trans (if_pos h6)]
   obtain ⟨op,pc,who,val,x,y,res⟩:=f
   dsimp only at h6
   subst h6
   simp only [Tryz.f120,AE_all,hm,sv,fv,cv',cf_eta,shC_dec,dC,T23,T42,hfree_lu,row3,shM_dec,dM,dU_map,iv,u,ms,ctx_T,ctx_C,T3,Option.bind_some,shF_dec,dF,ev1,ev2,implies_true,undef,↓condE_t,↓condE_f,resB,cv,stepB,aopR,one,pre,binR,intOpR,argFrm,evo,lkp,hlk,ofVal,ofCells,setCells,AV.wr,AV.ok1,TK.agg,frz,frz1,frzt,frzs,frzA,subA,subB,subM,subL,sub1,Nat.reduceAdd,Nat.reduceEqDiff,Nat.reduceLT,Nat.reduceLeDiff,reduceCtorEq,eq_self,ne_eq,Int.reduceBEq]
   all_goals ((repeat' apply And.intro) <;> first | rfl | omega | (show (_:Bool)=true; kernel_rfl) | decide)
  ·have e6:(f.op == 6)=false:=by simpa using h6
   rw [show evStep c m f=(m,f) from (if_neg h5).trans (if_neg h6)]
   simp only [Tryz.f120,AE_all,e5,e6,e7,hm,sv,fv,cv',T23,T42,hfree_lu,row1,shM_dec,dM,dU_map,iv,u,ms,ctx_T,ctx_C,T3,Option.bind_some,ev1,ev2,implies_true,undef,dynCall,↓condE_f,resB,cv,stepB,stepE,callD,tabD,aopR,one,pre,binR,intOpR,argFrm,evo,lkp,hlk,ofVal,ofCells,setCells,AV.wr,AV.ok1,TK.agg,frz,frz1,frzt,frzs,frzA,subA,subB,subM,subL,sub1,accOf,Nat.reduceAdd,Nat.reduceEqDiff,Nat.reduceLT,Nat.reduceLeDiff,reduceCtorEq,eq_self,ne_eq]
   all_goals ((repeat' apply And.intro) <;> first | rfl | omega | (show (_:Bool)=true; kernel_rfl) | decide)
end Go.Vai

/- Tasks, workers, submitters, picks, what happens, pools: as values. -/
namespace Go.Vai
open Go.RowKit Go.Proofs
structure Tk where
 work:Int
 kids:List Int
 deriving DecidableEq
structure It where
 task:Int
 done:Int
 kid:Int
 deriving DecidableEq
structure Wk where
 pc:Int
 stack:List It
 f:Fr
 spins:Int
 look:Int
 deriving DecidableEq
structure Sb where
 pc:Int
 roots:List Int
 f:Fr
 deriving DecidableEq
structure Pk where
 kind:Int
 who:Int
 draw:Int
 deriving DecidableEq
structure Ev where
 kind:Int
 task:Int
 who:Int
 deriving DecidableEq
structure Po where
 c:Cf
 t:List Tk
 m:List Int
 w:List Wk
 s:List Sb
def tv (t:Tk):AV:=.agg [iv t.work,zs t.kids]
def tks (l:List Tk):AV:=.lst 2 (l.map tv)
def xv (x:It):AV:=.agg [iv x.task,iv x.done,iv x.kid]
def its (l:List It):AV:=.lst 3 (l.map xv)
def wv (x:Wk):AV:=.agg [iv x.pc,its x.stack,iv x.f.op,iv x.f.pc,iv x.f.who,u x.f.val,u x.f.x,u x.f.y,iv x.f.res,iv x.spins,iv x.look]
def wks (l:List Wk):AV:=.lst 11 (l.map wv)
def sbv (x:Sb):AV:=.agg [iv x.pc,zs x.roots,iv x.f.op,iv x.f.pc,iv x.f.who,u x.f.val,u x.f.x,u x.f.y,iv x.f.res]
def sbs (l:List Sb):AV:=.lst 9 (l.map sbv)
def pkv (x:Pk):AV:=.agg [iv x.kind,iv x.who,u x.draw]
def pks (l:List Pk):AV:=.lst 3 (l.map pkv)
def ev' (x:Ev):AV:=.agg [iv x.kind,iv x.task,iv x.who]
def evs (l:List Ev):AV:=.lst 3 (l.map ev')
def pov (p:Po):AV:=.agg [iv p.c.w,iv p.c.d,iv p.c.i,iv p.c.spin,tks p.t,ms p.m,wks p.w,sbs p.s]
theorem hf_zs (l:List Int):HFree (.lst 1 (l.map iv)):=hfree_L 1 elI l
def elT:El Tk where
 dec:=fun a=>match a with
  | .agg [.v (.int .i64 w),.lst 1 ks]=>(dL dI ks).map fun k=>⟨w,k⟩
  | _=>none
 enc:=tv
 ok:=fun a x h=>by
  split at h
  ·rename_i w ks
   rw [Option.map_eq_some_iff] at h
   obtain ⟨k,h1,rfl⟩:=h
   rw [dL_some elI h1]; rfl
  ·cases h
 inv:=fun x=>by
  show (dL dI (x.kids.map iv)).map _=_
  rw [show dL dI (x.kids.map iv)=some x.kids from dL_map elI x.kids]; rfl
 free:=fun x=>hfree_agg fun c hc=>by
  simp only [List.mem_cons,List.not_mem_nil,or_false] at hc
  rcases hc with rfl | rfl
  ·exact hfree_v _
  ·exact hf_zs _
 cfree:=fun x c hc=>by
  simp only [tv,AV.cells,List.mem_cons,List.not_mem_nil,or_false] at hc
  rcases hc with rfl | rfl
  ·exact hfree_v _
  ·exact hf_zs _
def el3 {α:Type} (a:α→Int) (b:α→Int) (c:α→Int) (mk:Int→Int→Int→α) (h1:∀ x,mk (a x) (b x) (c x)=x) (h2:∀ x y z,a (mk x y z)=x∧b (mk x y z)=y∧c (mk x y z)=z) (k:IntKind):El α where
 dec:=fun v=>match v with
  | .agg [.v (.int .i64 x),.v (.int .i64 y),.v (.int k' z)]=>if k'=k then some (mk x y z) else none
  | _=>none
 enc:=fun x=>.agg [iv (a x),iv (b x),.v (.int k (c x))]
 ok:=fun v x h=>by
  split at h
  ·split at h
   ·rename_i hk
    cases h
    subst hk
    rw [(h2 _ _ _).1,(h2 _ _ _).2.1,(h2 _ _ _).2.2]; rfl
   ·cases h
  ·cases h
 inv:=fun x=>by simp [iv,h1]
 free:=fun x=>hfree_agg fun c hc=>by
  simp only [List.mem_cons,List.not_mem_nil,or_false] at hc
  rcases hc with rfl | rfl | rfl <;> exact hfree_v _
 cfree:=fun x c hc=>by
  simp only [AV.cells,List.mem_cons,List.not_mem_nil,or_false] at hc
  rcases hc with rfl | rfl | rfl <;> exact hfree_v _
def elX:El It:=el3 It.task It.done It.kid It.mk (fun _=>rfl) (fun _ _ _=>⟨rfl,rfl,rfl⟩) .i64
def elP:El Pk:=el3 Pk.kind Pk.who Pk.draw Pk.mk (fun _=>rfl) (fun _ _ _=>⟨rfl,rfl,rfl⟩) .u64
def elE:El Ev:=el3 Ev.kind Ev.task Ev.who Ev.mk (fun _=>rfl) (fun _ _ _=>⟨rfl,rfl,rfl⟩) .i64
theorem hf_its (l:List It):HFree (.lst 3 (l.map xv)):=hfree_L 3 elX l
def elW:El Wk where
 dec:=fun a=>match a with
  | .agg [.v (.int .i64 pc),.lst 3 st,.v (.int .i64 op),.v (.int .i64 p),.v (.int .i64 who),.v (.int .u64 vl),.v (.int .u64 x),.v (.int .u64 y),.v (.int .i64 res),.v (.int .i64 sp),.v (.int .i64 lk)]=>(dL elX.dec st).map fun s=>⟨pc,s,⟨op,p,who,vl,x,y,res⟩,sp,lk⟩
  | _=>none
 enc:=wv
 ok:=fun a x h=>by
  split at h
  ·rw [Option.map_eq_some_iff] at h
   obtain ⟨k,h1,rfl⟩:=h
   rw [dL_some elX h1]; rfl
  ·cases h
 inv:=fun x=>by
  show (dL elX.dec (x.stack.map elX.enc)).map _=_
  rw [dL_map elX]; rfl
 free:=fun x=>hfree_agg fun c hc=>by
  simp only [List.mem_cons,List.not_mem_nil,or_false] at hc
  rcases hc with rfl | rfl | rfl | rfl | rfl | rfl | rfl | rfl | rfl | rfl | rfl <;> first | exact hfree_v _ | exact hf_its _
 cfree:=fun x c hc=>by
  simp only [wv,AV.cells,List.mem_cons,List.not_mem_nil,or_false] at hc
  rcases hc with rfl | rfl | rfl | rfl | rfl | rfl | rfl | rfl | rfl | rfl | rfl <;> first | exact hfree_v _ | exact hf_its _
def elS:El Sb where
 dec:=fun a=>match a with
  | .agg [.v (.int .i64 pc),.lst 1 st,.v (.int .i64 op),.v (.int .i64 p),.v (.int .i64 who),.v (.int .u64 vl),.v (.int .u64 x),.v (.int .u64 y),.v (.int .i64 res)]=>(dL dI st).map fun s=>⟨pc,s,⟨op,p,who,vl,x,y,res⟩⟩
  | _=>none
 enc:=sbv
 ok:=fun a x h=>by
  split at h
  ·rw [Option.map_eq_some_iff] at h
   obtain ⟨k,h1,rfl⟩:=h
   rw [dL_some elI h1]; rfl
  ·cases h
 inv:=fun x=>by
  show (dL dI (x.roots.map iv)).map _=_
  rw [show dL dI (x.roots.map iv)=some x.roots from dL_map elI x.roots]; rfl
 free:=fun x=>hfree_agg fun c hc=>by
  simp only [List.mem_cons,List.not_mem_nil,or_false] at hc
  rcases hc with rfl | rfl | rfl | rfl | rfl | rfl | rfl | rfl | rfl <;> first | exact hfree_v _ | exact hf_zs _
 cfree:=fun x c hc=>by
  simp only [sbv,AV.cells,List.mem_cons,List.not_mem_nil,or_false] at hc
  rcases hc with rfl | rfl | rfl | rfl | rfl | rfl | rfl | rfl | rfl <;> first | exact hfree_v _ | exact hf_zs _
theorem hf_tks (l:List Tk):HFree (.lst 2 (l.map tv)):=hfree_L 2 elT l
theorem hf_wks (l:List Wk):HFree (.lst 11 (l.map wv)):=hfree_L 11 elW l
theorem hf_sbs (l:List Sb):HFree (.lst 9 (l.map sbv)):=hfree_L 9 elS l
theorem hf_evs (l:List Ev):HFree (.lst 3 (l.map ev')):=hfree_L 3 elE l
def elPo:El Po where
 dec:=fun a=>match a with
  | .agg [.v (.int .i64 w),.v (.int .i64 d),.v (.int .i64 i),.v (.int .i64 sp),.lst 2 t,.lst 1 m,.lst 11 ws,.lst 9 ss]=>
   (dL elT.dec t).bind fun t=>(dU m).bind fun m=>(dL elW.dec ws).bind fun ws=>(dL elS.dec ss).map fun ss=>⟨⟨w,d,i,sp⟩,t,m,ws,ss⟩
  | _=>none
 enc:=pov
 ok:=fun a x h=>by
  split at h
  ·simp only [Option.bind_eq_some_iff,Option.map_eq_some_iff] at h
   obtain ⟨t,h1,m,h2,ws,h3,ss,h4,rfl⟩:=h
   rw [dL_some elT h1,dU_some h2,dL_some elW h3,dL_some elS h4]; rfl
  ·cases h
 inv:=fun x=>by
  show ((dL elT.dec (x.t.map elT.enc)).bind fun t=>(dU (x.m.map u)).bind fun m=>(dL elW.dec (x.w.map elW.enc)).bind fun ws=>(dL elS.dec (x.s.map elS.enc)).map fun ss=>(⟨⟨x.c.w,x.c.d,x.c.i,x.c.spin⟩,t,m,ws,ss⟩:Po))=some x
  rw [dL_map elT,dU_map,dL_map elW,dL_map elS]; rfl
 free:=fun x=>hfree_agg fun c hc=>by
  simp only [List.mem_cons,List.not_mem_nil,or_false] at hc
  rcases hc with rfl | rfl | rfl | rfl | rfl | rfl | rfl | rfl <;> first | exact hfree_v _ | exact hf_tks _ | exact hfree_ms _ | exact hf_wks _ | exact hf_sbs _
 cfree:=fun x c hc=>by
  simp only [pov,AV.cells,List.mem_cons,List.not_mem_nil,or_false] at hc
  rcases hc with rfl | rfl | rfl | rfl | rfl | rfl | rfl | rfl <;> first | exact hfree_v _ | exact hf_tks _ | exact hfree_ms _ | exact hf_wks _ | exact hf_sbs _
def shE {α:Type} (E:El α):Sh α:=⟨E.dec,E.enc,fun a x h=>by
 rw [E.ok a x h]
 unfold sub1
 split
 ·rename_i heq heq'; rw [heq] at heq'; cases heq'
 ·rfl,E.free⟩
def shT:Sh (List Tk):=shL 2 elT
def shX:Sh (List It):=shL 3 elX
def shWk:Sh Wk:=shE elW
def shSb:Sh Sb:=shE elS
def shPk:Sh Pk:=shE elP
def shPo:Sh Po:=shE elPo
def shWs:Sh (List Wk):=shL 11 elW
def shSs:Sh (List Sb):=shL 9 elS
def shPs:Sh (List Pk):=shL 3 elP
def shEs:Sh (List Ev):=shL 3 elE
def elZ:El (List Int):=elL 1 elI
def shZss:Sh (List (List Int)):=shL 1 elZ
def zss (l:List (List Int)):AV:=.lst 1 (l.map zs)
theorem shT_dec (l:List Tk):shT.dec (.lst 2 (l.map tv))=some l:=shL_dec (E:=elT) l
theorem shX_dec (l:List It):shX.dec (.lst 3 (l.map xv))=some l:=shL_dec (E:=elX) l
theorem shX_nil:shX.dec (.v (.slice none 0 0))=some []:=rfl
theorem shT_nil:shT.dec (.v (.slice none 0 0))=some []:=rfl
theorem shWs_dec (l:List Wk):shWs.dec (.lst 11 (l.map wv))=some l:=shL_dec (E:=elW) l
theorem shSs_dec (l:List Sb):shSs.dec (.lst 9 (l.map sbv))=some l:=shL_dec (E:=elS) l
theorem shPs_dec (l:List Pk):shPs.dec (.lst 3 (l.map pkv))=some l:=shL_dec (E:=elP) l
theorem shPs_nil:shPs.dec (.v (.slice none 0 0))=some []:=rfl
theorem shEs_dec (l:List Ev):shEs.dec (.lst 3 (l.map ev'))=some l:=shL_dec (E:=elE) l
theorem shZss_dec (l:List (List Int)):shZss.dec (.lst 1 (l.map zs))=some l:=shL_dec (E:=elZ) l
theorem shWk_dec (pc:Int) (st:List It) (op p who vl x y res sp lk:Int):shWk.dec (.agg [.v (.int .i64 pc),.lst 3 (st.map xv),.v (.int .i64 op),.v (.int .i64 p),.v (.int .i64 who),.v (.int .u64 vl),.v (.int .u64 x),.v (.int .u64 y),.v (.int .i64 res),.v (.int .i64 sp),.v (.int .i64 lk)]) =
  some ⟨pc,st,⟨op,p,who,vl,x,y,res⟩,sp,lk⟩:=elW.inv ⟨pc,st,⟨op,p,who,vl,x,y,res⟩,sp,lk⟩
theorem shSb_dec (pc:Int) (st:List Int) (op p who vl x y res:Int):shSb.dec (.agg [.v (.int .i64 pc),.lst 1 (st.map iv),.v (.int .i64 op),.v (.int .i64 p),.v (.int .i64 who),.v (.int .u64 vl),.v (.int .u64 x),.v (.int .u64 y),.v (.int .i64 res)]) =
  some ⟨pc,st,⟨op,p,who,vl,x,y,res⟩⟩:=elS.inv ⟨pc,st,⟨op,p,who,vl,x,y,res⟩⟩
theorem shPk_dec (a b c:Int):shPk.dec (.agg [.v (.int .i64 a),.v (.int .i64 b),.v (.int .u64 c)])=some ⟨a,b,c⟩:=elP.inv ⟨a,b,c⟩
theorem shPo_dec (w d i sp:Int) (t:List Tk) (m:List Int) (ws:List Wk) (ss:List Sb):shPo.dec (.agg [.v (.int .i64 w),.v (.int .i64 d),.v (.int .i64 i),.v (.int .i64 sp),.lst 2 (t.map tv),.lst 1 (m.map u),.lst 11 (ws.map wv),.lst 9 (ss.map sbv)]) =
  some ⟨⟨w,d,i,sp⟩,t,m,ws,ss⟩:=elPo.inv ⟨⟨w,d,i,sp⟩,t,m,ws,ss⟩
theorem wk_eta (x:Wk):(⟨x.pc,x.stack,x.f,x.spins,x.look⟩:Wk)=x:=rfl
theorem sb_eta (x:Sb):(⟨x.pc,x.roots,x.f⟩:Sb)=x:=rfl
theorem pk_eta (x:Pk):(⟨x.kind,x.who,x.draw⟩:Pk)=x:=rfl
theorem po_eta (x:Po):(⟨x.c,x.t,x.m,x.w,x.s⟩:Po)=x:=rfl
theorem sx_all:type_of% (And.intro @shT_dec <| And.intro @shX_dec <| And.intro shX_nil <| And.intro shT_nil <| And.intro @shWs_dec <| And.intro @shSs_dec <| And.intro @shPs_dec <| And.intro shPs_nil <| And.intro @shEs_dec <| And.intro @shZss_dec <| And.intro @shWk_dec <| And.intro @shSb_dec <| And.intro @shPk_dec <| And.intro @shPo_dec <| And.intro @wk_eta <| And.intro @sb_eta <| And.intro @pk_eta <| @po_eta):=
 And.intro @shT_dec <| And.intro @shX_dec <| And.intro shX_nil <| And.intro shT_nil <| And.intro @shWs_dec <| And.intro @shSs_dec <| And.intro @shPs_dec <| And.intro shPs_nil <| And.intro @shEs_dec <| And.intro @shZss_dec <| And.intro @shWk_dec <| And.intro @shSb_dec <| And.intro @shPk_dec <| And.intro @shPo_dec <| And.intro @wk_eta <| And.intro @sb_eta <| And.intro @pk_eta <| @po_eta
end Go.Vai

/- Copies of lists. -/
namespace Go.Vai
open Go.RowKit Go.Proofs
set_option maxHeartbeats 4000000
set_option maxRecDepth 100000
theorem hfc_e (l:List Ev):(∀ x∈l.map ev',∀ c∈x.cells,HFree c)=True:=eq_true fun x hx c hc=>by
 obtain ⟨y,_,rfl⟩:=List.mem_map.1 hx; exact elE.cfree y c hc
theorem hfc_0:(∀ (x:AV),x∈([]:List AV)→∀ c∈x.cells,HFree c)=True:=eq_true (by simp)
theorem hfc_z (l:List Int):(∀ x∈l.map iv,∀ c∈x.cells,HFree c)=True:=eq_true fun x hx c hc=>by
 obtain ⟨y,_,rfl⟩:=List.mem_map.1 hx; exact elI.cfree y c hc
theorem take_zz (l:List Int):(l.map iv).take l.length=l.map iv:=List.take_of_length_le (by simp)
theorem hfc_t (l:List Tk):(∀ x∈l.map tv,∀ c∈x.cells,HFree c)=True:=eq_true fun x hx c hc=>by
 obtain ⟨y,_,rfl⟩:=List.mem_map.1 hx; exact elT.cfree y c hc
theorem take_tt (l:List Tk):(l.map tv).take l.length=l.map tv:=List.take_of_length_le (by simp)
theorem hfc_x (l:List It):(∀ x∈l.map xv,∀ c∈x.cells,HFree c)=True:=eq_true fun x hx c hc=>by
 obtain ⟨y,_,rfl⟩:=List.mem_map.1 hx; exact elX.cfree y c hc
theorem take_xx (l:List It):(l.map xv).take l.length=l.map xv:=List.take_of_length_le (by simp)
theorem take_ww (l:List Wk):(l.map wv).take l.length=l.map wv:=List.take_of_length_le (by simp)
theorem take_ss (l:List Sb):(l.map sbv).take l.length=l.map sbv:=List.take_of_length_le (by simp)
theorem clz_pure (l:List Int) (hl:l.length≤100000):PureC Tryz.prog 62 [zs l] (zs l):=by
 refine pure_sub okAE 1 Tryz.func62 rfl (by show 1≤_; decide) ?_
 have hb:l.length * 8≤140737488355328:=by omega
 have hle:l.length≤l.length:=Nat.le_refl _
 cases l with
 | nil=>simp only [Tryz.f62,zs,List.map_nil,List.length_nil,hfc_0,tt_all,ctx_T,ev1,ev2,implies_true,undef,resB,cv,stepB,aopR,one,pre,binR,argFrm,evo,lkp,hlk,asLst,idOf,srcOk,setElems,isEq,frz,frz1,frzA,subA,subB,sub1,List.replicate,Nat.reduceAdd,Nat.reduceMul,Nat.reduceLT,reduceCtorEq,eq_self,ne_eq]; all_goals ((repeat' apply And.intro) <;> first | rfl | omega | (show (_:Bool)=true; kernel_rfl) | decide)
 | cons a l=>
  have hn:((a :: l).map iv=[])=False:=eq_false (by simp)
  generalize a :: l=l at *
  simp only [Tryz.f62,zs,hn,hb,hle,hfc_z,take_zz,tt_all,ctx_T,List.length_map,ev1,ev2,undef,resB,cv,stepB,aopR,one,pre,binR,argFrm,evo,lkp,hlk,asLst,idOf,srcOk,setElems,isEq,frz,frz1,frzA,subA,subB,sub1,List.replicate,Nat.reduceAdd,Nat.reduceMul,Nat.reduceLT,reduceCtorEq,eq_self,ne_eq]
  all_goals ((repeat' apply And.intro) <;> first | rfl | omega | (show (_:Bool)=true; kernel_rfl) | decide)
theorem clx_pure (l:List It) (hl:l.length≤100000):PureC Tryz.prog 82 [its l] (its l):=by
 refine pure_sub okAE 1 Tryz.func82 rfl (by show 1≤_; decide) ?_
 have hb:l.length * 24≤140737488355328:=by omega
 have hle:l.length≤l.length:=Nat.le_refl _
 cases l with
 | nil=>simp only [Tryz.f82,its,List.map_nil,List.length_nil,hfc_0,tt_all,ctx_T,ev1,ev2,implies_true,undef,resB,cv,stepB,aopR,one,pre,binR,argFrm,evo,lkp,hlk,asLst,idOf,srcOk,setElems,isEq,frz,frz1,frzA,subA,subB,sub1,List.replicate,Nat.reduceAdd,Nat.reduceMul,Nat.reduceLT,reduceCtorEq,eq_self,ne_eq]; all_goals ((repeat' apply And.intro) <;> first | rfl | omega | (show (_:Bool)=true; kernel_rfl) | decide)
 | cons a l=>
  have hn:((a :: l).map xv=[])=False:=eq_false (by simp)
  generalize a :: l=l at *
  simp only [Tryz.f82,its,hn,hb,hle,hfc_x,take_xx,tt_all,ctx_T,List.length_map,ev1,ev2,undef,resB,cv,stepB,aopR,one,pre,binR,argFrm,evo,lkp,hlk,asLst,idOf,srcOk,setElems,isEq,frz,frz1,frzA,subA,subB,sub1,List.replicate,Nat.reduceAdd,Nat.reduceMul,Nat.reduceLT,reduceCtorEq,eq_self,ne_eq]
  all_goals ((repeat' apply And.intro) <;> first | rfl | omega | (show (_:Bool)=true; kernel_rfl) | decide)
theorem clw_own (l:List Wk) (h0:l≠[]) (hl:l.length≤100000):OwnC Tryz.prog 80 [wks l] 44 11 (l.map wv):=by
 refine own_sub okAE 1 Tryz.func80 rfl (by show 1≤_; decide) (by simpa using h0) (fun x hx c hc=>by
  obtain ⟨y,_,rfl⟩:=List.mem_map.1 hx; exact elW.cfree y c hc) ?_
 have hb:l.length * 104≤140737488355328:=by omega
 have hle:l.length≤l.length:=Nat.le_refl _
 cases l with
 | nil=>exact (h0 rfl).elim
 | cons a l=>
  have hn:((a :: l).map wv=[])=False:=eq_false (by simp)
  generalize a :: l=l at *
  simp only [Tryz.f80,wks,hn,hb,hle,ownR,take_ww,tt_all,ctx_T,List.length_map,ev1,ev2,undef,resB,cv,stepB,aopR,one,pre,binR,argFrm,evo,lkp,hlk,asLst,idOf,srcOk,setElems,isEq,List.replicate,Nat.reduceAdd,Nat.reduceMul,Nat.reduceLT,reduceCtorEq,eq_self,ne_eq]
  all_goals ((repeat' apply And.intro) <;> first | rfl | omega | (show (_:Bool)=true; kernel_rfl) | decide)
theorem cls_own (l:List Sb) (h0:l≠[]) (hl:l.length≤100000):OwnC Tryz.prog 81 [sbs l] 50 9 (l.map sbv):=by
 refine own_sub okAE 1 Tryz.func81 rfl (by show 1≤_; decide) (by simpa using h0) (fun x hx c hc=>by
  obtain ⟨y,_,rfl⟩:=List.mem_map.1 hx; exact elS.cfree y c hc) ?_
 have hb:l.length * 88≤140737488355328:=by omega
 have hle:l.length≤l.length:=Nat.le_refl _
 cases l with
 | nil=>exact (h0 rfl).elim
 | cons a l=>
  have hn:((a :: l).map sbv=[])=False:=eq_false (by simp)
  generalize a :: l=l at *
  simp only [Tryz.f81,sbs,hn,hb,hle,ownR,take_ss,tt_all,ctx_T,List.length_map,ev1,ev2,undef,resB,cv,stepB,aopR,one,pre,binR,argFrm,evo,lkp,hlk,asLst,idOf,srcOk,setElems,isEq,List.replicate,Nat.reduceAdd,Nat.reduceMul,Nat.reduceLT,reduceCtorEq,eq_self,ne_eq]
  all_goals ((repeat' apply And.intro) <;> first | rfl | omega | (show (_:Bool)=true; kernel_rfl) | decide)
end Go.Vai

/- Forests: may they be? -/
namespace Go.Vai
open Go.RowKit Go.Proofs
set_option maxHeartbeats 4000000
set_option maxRecDepth 100000
def rowsAF:List Row:=[
 (120,row3 shC shM shF fun c m f=>if f.op≠7 then some (sv (evStep c m f)) else none),
 (62,row1 shZs fun l=>if l.length≤100000 then some (zs l) else none),
 (82,row1 shX fun l=>if l.length≤100000 then some (its l) else none)] ++ rowsAE
theorem rowsAF_ok:∀ p∈rowsAF,RowOk Tryz.prog p:=fun p h=>by
 simp only [rowsAF,List.mem_append,List.mem_cons,List.not_mem_nil,or_false,or_assoc] at h
 rcases h with rfl | rfl | rfl | h
 ·exact ok_row3 (enters_of Tryz.func120 (by decide) rfl) fun c m f r _ g _ e=>by obtain ⟨h,rfl⟩:=opt_if e; exact evstep_pure c m f (shM_got g) h
 ·exact ok_row1 (enters_of Tryz.func62 (by decide) rfl) fun l r _ e=>by obtain ⟨h,rfl⟩:=opt_if e; exact clz_pure l h
 ·exact ok_row1 (enters_of Tryz.func82 (by decide) rfl) fun l r _ e=>by obtain ⟨h,rfl⟩:=opt_if e; exact clx_pure l h
 ·exact rowsAE_ok p h
theorem okAF:(ctx Tryz.prog rowsAF).ok:=rows_ok rowsAF_ok
theorem AF_all:tabC rowsAF 120=(row3 shC shM shF fun c m f=>if f.op≠7 then some (sv (evStep c m f)) else none)∧tabC rowsAF 62=(row1 shZs fun l=>if l.length≤100000 then some (zs l) else none)∧tabC rowsAF 82=(row1 shX fun l=>if l.length≤100000 then some (its l) else none)∧tabC rowsAF 57=(fun _=>none)∧tabC rowsAF 91=(fun _=>none)∧tabC rowsAF 58=(fun _=>none)∧tabC rowsAF 59=(fun _=>none)∧tabC rowsAF 92=(fun _=>none)∧tabC rowsAF 191=(row1 shN fun e=>some (.tup [u (wBump e),iv (wLow (wMask e))]))∧tabC rowsAF 190=(fun _=>none)∧tabC rowsAF 192=(fun _=>none)∧tabC rowsAF 30=(row1 shN fun e=>some (u (wMask e))):=⟨rfl,rfl,rfl,rfl,rfl,rfl,rfl,rfl,rfl,rfl,rfl,rfl⟩
def kidsFrom:Nat→List Tk→List (Int × Int)
 | _,[]=>[]
 | i,x :: r=>x.kids.map (fun k=>(k,(i:Int))) ++ kidsFrom (i + 1) r
def fKids (t:List Tk):List (Int × Int):=kidsFrom 0 t
def kRun (n:Nat):List (Int × Int)→List Bool→Option (List Bool)
 | [],had=>some had
 | (k,o) :: r,had=>if k≤o∨(n:Int)≤k∨had.getD k.toNat false=true then none else kRun n r (had.set k.toNat true)
def okWork (x:Tk):Bool:=decide (0≤x.work) && decide (x.work≤20)
def fMay (t:List Tk):Bool:=decide (t.length≤30) && t.all okWork && (kRun t.length (fKids t) (List.replicate t.length false)).isSome
def tB (t:List Tk):Bool:=t.all fun x=>decide (x.kids.length≤1000)
theorem kRun_append (n:Nat):∀ (a b:List (Int × Int)) (h:List Bool),kRun n (a ++ b) h=(kRun n a h).bind (kRun n b)
 | [],b,h=>rfl
 | (k,o) :: a,b,h=>by
  simp only [List.cons_append,kRun]
  split
  ·rfl
  ·exact kRun_append n a b _
theorem kRun_len {n:Nat}:∀ {l:List (Int × Int)} {h h':List Bool},kRun n l h=some h'→h'.length=h.length
 | [],h,h',e=>by cases e; rfl
 | (k,o) :: r,h,h',e=>by
  simp only [kRun] at e
  split at e
  ·cases e
  ·rw [kRun_len e,List.length_set]
theorem kidsFrom_append:∀ (a b:List Tk) (i:Nat),kidsFrom i (a ++ b)=kidsFrom i a ++ kidsFrom (i + a.length) b
 | [],b,i=>by simp [kidsFrom]
 | x :: a,b,i=>by
  simp only [List.cons_append,kidsFrom,List.append_assoc,kidsFrom_append a b (i + 1),List.length_cons]
  rw [show i + 1 + a.length=i + (a.length + 1) by omega]
theorem getD_t {l:List Tk} {k:Nat} (h:k < l.length):(l.map tv).getD k .top=tv (l.getD k ⟨0,[]⟩):=by simp [List.getD_eq_getElem?_getD,h]
theorem take_all {α:Type} {p:α→Bool} {l:List α} {i:Nat} {d:α} (h:(l.take i).all p=true) (hi:i < l.length) (hp:p (l.getD i d)=true):(l.take (i + 1)).all p=true:=by
 rw [List.take_add_one,List.all_append,h]
 simp [List.getElem?_eq_getElem hi,List.getD_eq_getElem?_getD] at hp ⊢
 exact hp
theorem all_not {α:Type} {p:α→Bool} {l:List α} {i:Nat} {d:α} (hi:i < l.length) (hp:p (l.getD i d)=false):l.all p=false:=by
 rw [Bool.eq_false_iff,Ne,List.all_eq_true]
 intro h
 have:=h (l.getD i d) (by simp [List.getD_eq_getElem?_getD,hi])
 rw [hp] at this; cases this
def shFn (g:FuncId):Sh Unit where
 dec:=fun a=>match a with
  | .fn (.func f) [] []=>match Nat.beq f g with
   | true=>some ()
   | false=>none
  | _=>none
 enc:=fun _=>.fn (.func g) [] []
 ok:=fun a x h=>by
  split at h
  ·split at h
   ·rename_i e; rw [Nat.eq_of_beq_eq_true e]; rfl
   ·cases h
  ·cases h
 free:=fun _=>hfree_fn (fun x h=>by cases h) (fun x h=>by cases h)
theorem shFn_dec (f g:FuncId):(shFn g).dec (.fn (.func f) [] [])=match Nat.beq f g with | true=>some () | false=>none:=rfl
theorem anyT_pure (t:List Tk) (hl:t.length≤1000):PureC Tryz.prog 57 [tks t,.fn (.func 58) [] []] (bv (!t.all okWork)):=by
 refine pure_sub okAF 3 Tryz.func57 rfl (by show 2≤_; decide) ?_
 simp only [Tryz.f57,Tryz.func91,Tryz.f91,inl,AF_all,tks,List.length_map,tt_all,bv,ctx_T,ctx_C,ctx_P,List.length_map,String.reduceBEq,Int.reduceNeg,ev1,ev2,undef,frzDeep,deepArgs,deepArg,cv,stepB,aopR,one,argFrm,evo,lkp,lenOf,frz,frz1,frzA,frzArg,frzArgs,subA,subB,sub1,Nat.reduceAdd,Nat.reduceLT,Nat.reduceLeDiff,eq_self]
 refine WP.loop (fun i:Nat=>t.length - i) (fun i=>i≤t.length∧(t.take i).all okWork=true) (n:=19) (fr:=fun i=>[(8,iv i),(7,iv t.length),(0,tks t),(1,.fn (.func 58) [] [])]) (hp:=fun _=>[]) (N:=0) ?_ 0 ⟨Nat.zero_le _,rfl⟩ rfl (Nat.zero_le _) ⟨rfl,rfl,rfl,rfl,trivial⟩ trivial
 rintro i nx ⟨h1,h2⟩ _ _
 refine WP.of okAF 2 (by rfl) ?_
 by_cases hi:i < t.length
 ·have hz:(i:Int) < t.length:=by omega
  have hz0:(0:Int)≤(i:Int):=by omega
  have w1:IntKind.wrap .i64 ((i:Int) + 1)=((i + 1:Nat):Int):=by rw [wrap_i (by omega) (by omega)]; omega
  have hg:=getD_t hi
  by_cases h3:(t.getD i ⟨0,[]⟩).work < 0
  ·have e:t.all okWork=false:=all_not hi (d:=⟨0,[]⟩) (by simp only [okWork,Bool.and_eq_false_iff,decide_eq_false_iff_not]; omega)
   rw [e]
   have hg0:(i:Int) ≥ 0:=by omega
   simp only [Tryz.func58,Tryz.f58,inl,AF_all,hz,hz0,hg,h3,tks,tv,zs,List.length_map,nb_self,Nat.add_assoc,tt_all,iv,ctx_T,ctx_C,ctx_P,List.length_map,String.reduceBEq,Int.toNat_natCast,Int.reduceNeg,ev1,ev2,implies_true,undef,↓condE_t,↓guardE_tf,frzDeep,deepArgs,deepArg,resB,cv,stepB,guardB,guardC,dstAt,aopR,one,pre,binR,intOpR,argFrm,evo,lkp,hlk,ofCells,AV.wr,AV.ok1,TK.agg,frzArg,frzArgs,Nat.reduceAdd,Nat.reduceEqDiff,Nat.reduceLT,Nat.reduceLeDiff,reduceCtorEq,eq_self,ne_eq]
   all_goals ((repeat' apply And.intro) <;> first | rfl | omega | (show (_:Bool)=true; kernel_rfl) | decide)
  ·by_cases h4:(t.getD i ⟨0,[]⟩).work > 20
   ·have e:t.all okWork=false:=all_not hi (d:=⟨0,[]⟩) (by simp only [okWork,Bool.and_eq_false_iff,decide_eq_false_iff_not]; omega)
    rw [e]
    have hg0:(i:Int) ≥ 0:=by omega
    simp only [Tryz.func58,Tryz.f58,inl,AF_all,hz,hz0,hg,h3,h4,tks,tv,zs,List.length_map,nb_self,Nat.add_assoc,tt_all,iv,ctx_T,ctx_C,ctx_P,List.length_map,String.reduceBEq,Int.toNat_natCast,Int.reduceNeg,ev1,ev2,implies_true,undef,↓condE_t,↓guardE_ff,frzDeep,deepArgs,deepArg,resB,cv,stepB,guardB,guardC,dstAt,aopR,one,pre,binR,intOpR,argFrm,evo,lkp,hlk,ofCells,AV.wr,AV.ok1,TK.agg,frzArg,frzArgs,Nat.reduceAdd,Nat.reduceEqDiff,Nat.reduceLT,Nat.reduceLeDiff,reduceCtorEq,eq_self,ne_eq]
    all_goals ((repeat' apply And.intro) <;> first | rfl | omega | (show (_:Bool)=true; kernel_rfl) | decide)
   ·simp only [Tryz.func58,Tryz.f58,inl,AF_all,hz,hz0,hg,h3,h4,w1,tks,tv,zs,List.length_map,nb_self,Nat.add_assoc,tt_all,iv,ctx_T,ctx_C,ctx_P,List.length_map,String.reduceBEq,Int.toNat_natCast,Int.reduceNeg,ev1,ev2,implies_true,undef,↓condE_t,↓condE_f,↓guardE_ff,frzDeep,deepArgs,deepArg,resB,cv,stepB,guardB,guardC,dstAt,aopR,one,pre,binR,intOpR,argFrm,evo,lkp,hlk,ofCells,AV.wr,AV.ok1,TK.agg,frzArg,frzArgs,sub1,kp,kh,Nat.reduceAdd,Nat.reduceEqDiff,Nat.reduceLT,Nat.reduceLeDiff,reduceCtorEq,eq_self,ne_eq]
    have e:=take_all h2 hi (d:=⟨0,[]⟩) (by simp only [okWork,Bool.and_eq_true,decide_eq_true_eq]; omega)
    exact ⟨i + 1,by omega,⟨by omega,e⟩,rfl⟩
 ·have hz:¬ (i:Int) < t.length:=by omega
  have e:t.all okWork=true:=by rwa [List.take_of_length_le (by omega)] at h2
  rw [e]
  simp only [hz,tks,Nat.add_assoc,iv,Int.reduceNeg,ev1,ev2,undef,↓condE_f,resB,cv,stepB,aopR,one,pre,binR,intOpR,evo,lkp,Nat.reduceAdd,Nat.reduceLT,eq_self,Int.reduceGE]
  all_goals ((repeat' apply And.intro) <;> first | rfl | omega | (show (_:Bool)=true; kernel_rfl) | decide)
def rowsAG:List Row:=[
 (57,row2 shT (shFn 58) fun t _=>if t.length≤1000 then some (bv (!t.all okWork)) else none)] ++ rowsAF
theorem rowsAG_ok:∀ p∈rowsAG,RowOk Tryz.prog p:=fun p h=>by
 simp only [rowsAG,List.mem_append,List.mem_cons,List.not_mem_nil,or_false] at h
 rcases h with rfl | h
 ·exact ok_row2 (enters_of Tryz.func57 (by decide) rfl) fun t _ r _ _ e=>by obtain ⟨h,rfl⟩:=opt_if e; exact anyT_pure t h
 ·exact rowsAF_ok p h
theorem okAG:(ctx Tryz.prog rowsAG).ok:=rows_ok rowsAG_ok
theorem AG_all:tabC rowsAG 57=(row2 shT (shFn 58) fun t _=>if t.length≤1000 then some (bv (!t.all okWork)) else none)∧tabC rowsAG 120=(row3 shC shM shF fun c m f=>if f.op≠7 then some (sv (evStep c m f)) else none)∧tabC rowsAG 62=(row1 shZs fun l=>if l.length≤100000 then some (zs l) else none)∧tabC rowsAG 82=(row1 shX fun l=>if l.length≤100000 then some (its l) else none)∧tabC rowsAG 91=(fun _=>none)∧tabC rowsAG 58=(fun _=>none)∧tabC rowsAG 59=(fun _=>none)∧tabC rowsAG 92=(fun _=>none)∧tabC rowsAG 191=(row1 shN fun e=>some (.tup [u (wBump e),iv (wLow (wMask e))]))∧tabC rowsAG 190=(fun _=>none)∧tabC rowsAG 192=(fun _=>none)∧tabC rowsAG 30=(row1 shN fun e=>some (u (wMask e))):=⟨rfl,rfl,rfl,rfl,rfl,rfl,rfl,rfl,rfl,rfl,rfl,rfl⟩
theorem rep_b (n:Nat):List.replicate n (AV.v (.bool false))=(List.replicate n false).map bv:=by rw [List.map_replicate]; rfl
theorem fmay_pure (t:List Tk) (ht:tB t=true):PureC Tryz.prog 35 [tks t] (bv (fMay t)):=by
 refine pure_top okAG 2 Tryz.func35 rfl (by show 1≤_; decide) ?_
 by_cases h1:t.length≤30
 ·have h1':¬ (t.length:Int) > 30:=by omega
  have h1k:t.length≤1000:=by omega
  cases h2:t.all okWork with
  | false=>
   have e:fMay t=false:=by simp [fMay,h2]
   rw [e]
   simp only [Tryz.f35,AG_all,sx_all,shFn_dec,h1',h1k,h2,tks,List.length_map,tt_all,top_T,row2,bv,ctx_T,ctx_C,Option.bind_some,List.length_map,ev1,ev2,implies_true,undef,↓condE_t,↓guardE_ff,resB,cv,stepB,guardB,guardC,dstAt,aopR,one,pre,binR,intOpR,argFrm,evo,lkp,hlk,lenOf,ofVal,ofCells,setCells,AV.wr,AV.ok1,TK.agg,frz,frz1,frzA,subA,subB,sub1,Nat.reduceAdd,Nat.reduceLT,Nat.reduceLeDiff,reduceCtorEq,eq_self,ne_eq]
   all_goals ((repeat' apply And.intro) <;> first | rfl | omega | (show (_:Bool)=true; kernel_rfl) | decide)
  | true=>
   have hc1:(t.length:Int) ≥ 0:=by omega
   have hc2:t.length * 1≤16777216:=by omega
   have hc3:t.length * 1≤140737488355328:=by omega
   have hc4:(0:Int)≤(t.length:Int):=by omega
   simp only [Tryz.f35,Tryz.func59,Tryz.f59,inl,AG_all,sx_all,shFn_dec,rep_b,h1',h1k,h2,hc1,hc2,hc3,tks,List.length_map,Int.toNat_natCast,tt_all,top_T,r_rangeF,row2,bv,ctx_T,ctx_C,ctx_P,Option.bind_some,List.length_map,String.reduceBEq,Int.toNat_natCast,ev1,ev2,implies_true,undef,↓condE_f,↓guardE_ff,frzDeep,deepArgs,deepArg,resB,cv,stepB,guardB,guardC,dstAt,aopR,one,pre,binR,intOpR,argFrm,evo,lkp,hlk,lenOf,ofVal,ofCells,setCells,AV.wr,AV.ok1,TK.agg,frz,frz1,frzA,frzArg,frzArgs,subA,subB,sub1,Nat.reduceAdd,Nat.reduceLT,Nat.reduceLeDiff,reduceCtorEq,eq_self,ne_eq]
   refine WP.ranges okAG 1 (g:=92) rfl (enters_of Tryz.func92 (by decide) rfl) Tryz.func92 rfl (by decide) (by rfl) (by rfl) ?_
   intro Y hI hYF hYT hYC hYY
   simp only [Tryz.f92,hYT,List.length_map,tt_all,ctx_T,List.length_map,ev1,ev2,implies_true,undef,cv,stepB,aopR,one,pre,argFrm,evo,lkp,hlk,lenOf,ofCells,TK.agg,Nat.reduceAdd,Nat.reduceLT,Nat.reduceLeDiff,reduceCtorEq,eq_self,ne_eq]
   refine WP.loop (ι:=Nat × List Bool) (fun i=>t.length - i.1) (fun i=>i.1≤t.length∧kRun t.length (kidsFrom 0 (t.take i.1)) (List.replicate t.length false)=some i.2) (n:=28)
    (fr:=fun i=>[(9,iv i.1),(8,iv t.length),(7,tks t),(0,.yld 20),(1,.ptr 16 0 0)])
    (hp:=fun i=>[(20,some (gBlk 0)),(16,some ⟨false,24,1,[tks t]⟩),(12,some ⟨false,113,1,[.arr 11 0 t.length]⟩),(11,some ⟨false,4,1,i.2.map bv⟩),(1,some ⟨false,4,1,[bv false]⟩),(0,some ⟨false,24,1,[tks t]⟩)])
    (N:=24) ?_ (0,List.replicate t.length false) ⟨Nat.zero_le _,rfl⟩ rfl (Nat.le_refl _) ⟨rfl,rfl,rfl,rfl,rfl,trivial⟩ ⟨rfl,rfl,rfl,rfl,rfl,rfl,trivial⟩ (im:=hI.im)
   rintro ⟨i,had⟩ nx ⟨g1,g2⟩ hN hid
   dsimp only at g1 g2 hN hid ⊢
   have n0:0 < nx:=by omega
   have n1:1 < nx:=by omega
   have n11:11 < nx:=by omega
   have n12:12 < nx:=by omega
   have n16:16 < nx:=by omega
   have n20:20 < nx:=by omega
   refine WP.ofX hI hYF (by rfl) ?_
   by_cases hi:i < t.length
   ·have hz:(i:Int) < t.length:=by omega
    have hz0:(0:Int)≤(i:Int):=by omega
    have hg:=getD_t hi
    simp only [hYT,hz,hz0,hg,tks,tv,zs,List.length_map,Int.toNat_natCast,nb_self,Nat.add_assoc,tt_all,iv,bv,ctx_T,List.length_map,Int.toNat_natCast,ev1,ev2,implies_true,undef,↓condE_t,cv,stepB,aopR,one,pre,binR,intOpR,evo,lkp,hlk,lenOf,ofVal,ofCells,setCells,AV.wr,AV.ok1,TK.agg,Nat.reduceAdd,Nat.reduceEqDiff,Nat.reduceLT,Nat.reduceLeDiff,reduceCtorEq,eq_self,ne_eq]
    have hkl:(t.getD i ⟨0,[]⟩).kids.length≤1000:=by
     have:=List.all_eq_true.1 ht (t.getD i ⟨0,[]⟩) (by simp [List.getD_eq_getElem?_getD,hi])
     simpa using this
    have hsp:kidsFrom 0 (t.take (i + 1))=kidsFrom 0 (t.take i) ++ (t.getD i ⟨0,[]⟩).kids.map (fun k=>(k,(i:Int))):=by
     rw [List.take_add_one,kidsFrom_append]
     simp only [List.getElem?_eq_getElem hi,List.getD_eq_getElem?_getD,Option.toList_some,Option.getD_some,kidsFrom,List.append_nil,List.length_take,Nat.zero_add]
     rw [show min i t.length=i by omega]
    have hfull:kidsFrom 0 t=kidsFrom 0 (t.take (i + 1)) ++ kidsFrom (i + 1) (t.drop (i + 1)):=by
     conv=>lhs; rw [← List.take_append_drop (i + 1) t]
     rw [kidsFrom_append,Nat.zero_add,List.length_take,show min (i + 1) t.length=i + 1 by omega]
    generalize hks:(t.getD i ⟨0,[]⟩).kids=ks at *
    have hlen0:=kRun_len g2
    rw [List.length_replicate] at hlen0
    refine WP.loop (ι:=Nat × List Bool) (fun j=>ks.length - j.1) (fun j=>j.1≤ks.length∧kRun t.length ((ks.take j.1).map (fun k=>(k,(i:Int)))) had=some j.2) (n:=28)
     (fr:=fun j=>[(17,iv j.1),(16,iv ks.length),(15,zs ks),(3,iv i),(9,iv i),(8,iv t.length),(7,tks t),(0,.yld 20),(1,.ptr 16 0 0)])
     (hp:=fun j=>[(20,some (gBlk 0)),(16,some ⟨false,24,1,[tks t]⟩),(12,some ⟨false,113,1,[.arr 11 0 t.length]⟩),(11,some ⟨false,4,1,j.2.map bv⟩),(1,some ⟨false,4,1,[bv false]⟩),(0,some ⟨false,24,1,[tks t]⟩)])
     (N:=24) ?_ (0,had) ⟨Nat.zero_le _,rfl⟩ rfl (by dsimp only; omega) ⟨rfl,rfl,rfl,rfl,rfl,rfl,rfl,rfl,rfl,trivial⟩ (by simp only [n0,n1,n11,n12,n16,n20,tks,gBlk,nb_lt,bv,ev2,hlk,kh,eq_self]) (im:=hI.im)
    rintro ⟨j,hd⟩ nx ⟨g3,g4⟩ hN hid
    dsimp only at g3 g4 hN hid ⊢
    have n0:0 < nx:=by omega
    have n1:1 < nx:=by omega
    have n11:11 < nx:=by omega
    have n12:12 < nx:=by omega
    have n16:16 < nx:=by omega
    have n20:20 < nx:=by omega
    have hlen1:=(kRun_len g4).trans hlen0
    refine WP.ofX hI hYF (by rfl) ?_
    by_cases hj:j < ks.length
    ·have hy:(j:Int) < ks.length:=by omega
     have hy0:(0:Int)≤(j:Int):=by omega
     have hgj:=getD_z hj
     have w1:IntKind.wrap .i64 ((j:Int) + 1)=((j + 1:Nat):Int):=by rw [wrap_i (by omega) (by omega)]; omega
     have hst:(ks.take (j + 1)).map (fun k=>(k,(i:Int)))=(ks.take j).map (fun k=>(k,(i:Int))) ++ [(ks.getD j 0,(i:Int))]:=by
      rw [List.take_add_one,List.map_append]
      simp [List.getElem?_eq_getElem hj,List.getD_eq_getElem?_getD]
     have hfail:kRun t.length [(ks.getD j 0,(i:Int))] hd=none→fMay t=false:=by
      intro e
      have:kRun t.length (fKids t) (List.replicate t.length false)=none:=by
       unfold fKids
       have e1:ks.map (fun k=>(k,(i:Int)))=(ks.take (j + 1)).map (fun k=>(k,(i:Int))) ++ (ks.drop (j + 1)).map (fun k=>(k,(i:Int))):=by rw [← List.map_append,List.take_append_drop]
       rw [hfull,hsp,e1,hst]
       simp only [kRun_append,g2,g4,e,Option.bind_some,Option.bind_none]
      simp [fMay,this]
     by_cases q1:ks.getD j 0≤i
     ·have e:=hfail (by simp only [kRun]; rw [if_pos (.inl q1)])
      rw [e]
      simp only [hYT,hYY,r_yld,hy,hy0,hgj,q1,tks,zs,List.length_map,Int.toNat_natCast,Nat.add_assoc,tt_all,inR_T,r_yld,r_start,r_rkR,r_endR,r_endM,r_endJ2,zipF,iv,bv,ctx_T,List.length_map,Int.toNat_natCast,ev1,ev2,implies_true,undef,↓condE_t,↓guardE_tf,resB,cv,stepB,guardB,guardC,dstAt,aopR,one,pre,binR,intOpR,unR,evo,lkp,hlk,ofCells,setCells,AV.wr,AV.ok1,TK.agg,Nat.reduceAdd,Nat.reduceLT,Nat.reduceLeDiff,reduceCtorEq,eq_self,ne_eq]
     ·by_cases q2:ks.getD j 0 ≥ t.length
      ·have e:=hfail (by simp only [kRun]; rw [if_pos (.inr (.inl q2))])
       rw [e]
       simp only [hYT,hYY,r_yld,hy,hy0,hgj,q1,q2,tks,zs,List.length_map,Int.toNat_natCast,Nat.add_assoc,tt_all,inR_T,r_yld,r_start,r_rkR,r_endR,r_endM,r_endJ2,zipF,iv,bv,ctx_T,List.length_map,Int.toNat_natCast,ev1,ev2,implies_true,undef,↓condE_t,↓guardE_ff,↓guardE_tf,resB,cv,stepB,guardB,guardC,dstAt,aopR,one,pre,binR,intOpR,unR,evo,lkp,hlk,lenOf,ofCells,setCells,AV.wr,AV.ok1,TK.agg,Nat.reduceAdd,Nat.reduceLT,Nat.reduceLeDiff,reduceCtorEq,eq_self,ne_eq]
      ·have q3:0≤ks.getD j 0:=by omega
       have q4:ks.getD j 0 < t.length:=by omega
       have q5:(ks.getD j 0).toNat < hd.length:=by omega
       have hgb:=getD_b q5
       cases q6:hd.getD (ks.getD j 0).toNat false with
       | true=>
        have e:=hfail (by simp only [kRun]; rw [if_pos (.inr (.inr q6))])
        rw [e]
        simp only [hYT,hYY,r_yld,hy,hy0,hgj,q1,q2,q3,q4,q5,q6,hgb,tks,zs,List.length_map,Int.toNat_natCast,Nat.add_assoc,tt_all,inR_T,r_yld,r_start,r_rkR,r_endR,r_endM,r_endJ2,zipF,iv,bv,ctx_T,List.length_map,Int.toNat_natCast,ev1,ev2,implies_true,undef,↓condE_t,↓guardE_ff,resB,cv,stepB,guardB,guardC,dstAt,aopR,one,pre,binR,intOpR,unR,evo,lkp,hlk,lenOf,ofCells,setCells,AV.wr,AV.ok1,TK.agg,Nat.reduceAdd,Nat.reduceLT,Nat.reduceLeDiff,reduceCtorEq,eq_self,ne_eq]
       | false=>
        simp only [hYT,hYY,r_yld,hy,hy0,hgj,q1,q2,q3,q4,q5,q6,hgb,w1,tks,zs,List.length_map,Int.toNat_natCast,Nat.add_assoc,tt_all,inR_T,r_yld,r_start,r_rkN,zipF,iv,bv,ctx_T,List.length_map,Int.toNat_natCast,ev1,ev2,implies_true,undef,↓condE_t,↓condE_f,↓guardE_ff,cv,stepB,guardB,guardC,dstAt,aopR,one,pre,binR,intOpR,unR,evo,lkp,hlk,lenOf,ofCells,setCells,AV.wr,AV.ok1,TK.agg,sub1,kp,kh,Nat.reduceAdd,Nat.reduceLT,Nat.reduceLeDiff,reduceCtorEq,eq_self,ne_eq]
        intro l
        refine ⟨(j + 1,hd.set (ks.getD j 0).toNat true),by dsimp only; omega,⟨by dsimp only; omega,?_⟩,rfl,?_⟩
        ·rw [hst,kRun_append,g4,Option.bind_some]
         simp only [kRun]
         rw [if_neg (by
          rintro (q | q | q)
          ·exact q1 q
          ·exact q2 q
          ·rw [q6] at q; cases q)]
        ·rw [List.map_set]; rfl
    ·have hy:¬ (j:Int) < ks.length:=by omega
     have ej:ks.take j=ks:=List.take_of_length_le (by omega)
     rw [ej] at g4
     have w1:IntKind.wrap .i64 ((i:Int) + 1)=((i + 1:Nat):Int):=by rw [wrap_i (by omega) (by omega)]; omega
     simp only [hy,w1,tks,zs,Nat.add_assoc,tt_all,top_T,r_endR,r_endM,r_endJ0,iv,bv,ctx_T,ev1,ev2,implies_true,undef,↓condE_f,resB,cv,stepB,aopR,one,pre,binR,intOpR,evo,lkp,hlk,ofCells,setCells,AV.wr,AV.ok1,TK.agg,sub1,kp,kh,Nat.reduceAdd,Nat.reduceEqDiff,Nat.reduceLT,Nat.reduceLeDiff,reduceCtorEq,eq_self,ne_eq]
     refine ⟨(i + 1,hd),by dsimp only; omega,⟨by dsimp only; omega,?_⟩,rfl,rfl⟩
     rw [hsp,kRun_append,g2,Option.bind_some]; exact g4
   ·have hz:¬ (i:Int) < t.length:=by omega
    have e:t.take i=t:=List.take_of_length_le (by omega)
    rw [e] at g2
    have e2:fMay t=true:=by
     unfold fMay fKids
     rw [g2,h2]
     simp [h1]
    rw [e2]
    simp only [hz,tks,Nat.add_assoc,tt_all,top_T,r_endR,r_endM,r_endJ0,iv,bv,ctx_T,ev1,ev2,implies_true,undef,↓condE_f,resB,cv,stepB,aopR,one,pre,binR,intOpR,evo,lkp,hlk,ofCells,setCells,AV.wr,AV.ok1,TK.agg,Nat.reduceAdd,Nat.reduceLT,Nat.reduceLeDiff,reduceCtorEq,eq_self,ne_eq]
 ·have h1':(t.length:Int) > 30:=by omega
  have e:fMay t=false:=by simp [fMay,h1]
  rw [e]
  simp only [Tryz.f35,h1',tks,List.length_map,tt_all,top_T,bv,ctx_T,List.length_map,ev1,ev2,implies_true,undef,↓condE_t,↓guardE_tf,resB,cv,stepB,guardB,guardC,dstAt,aopR,one,pre,binR,intOpR,argFrm,evo,lkp,hlk,lenOf,ofVal,ofCells,setCells,AV.wr,AV.ok1,TK.agg,frz,frz1,frzA,subA,subB,sub1,Nat.reduceAdd,Nat.reduceLT,Nat.reduceLeDiff,reduceCtorEq,eq_self,ne_eq]
  all_goals ((repeat' apply And.intro) <;> first | rfl | omega | (show (_:Bool)=true; kernel_rfl) | decide)
end Go.Vai

/- Forests: parents. -/
namespace Go.Vai
open Go.RowKit Go.Proofs
set_option maxHeartbeats 4000000
set_option maxRecDepth 100000
def rowsAH:List Row:=[
 (35,row1 shT fun t=>if tB t=true then some (bv (fMay t)) else none)] ++ rowsAG
theorem rowsAH_ok:∀ p∈rowsAH,RowOk Tryz.prog p:=fun p h=>by
 simp only [rowsAH,List.mem_append,List.mem_cons,List.not_mem_nil,or_false] at h
 rcases h with rfl | h
 ·exact ok_row1 (enters_of Tryz.func35 (by decide) rfl) fun t r _ e=>by obtain ⟨h,rfl⟩:=opt_if e; exact fmay_pure t h
 ·exact rowsAG_ok p h
theorem okAH:(ctx Tryz.prog rowsAH).ok:=rows_ok rowsAH_ok
theorem AH_all:tabC rowsAH 35=(row1 shT fun t=>if tB t=true then some (bv (fMay t)) else none)∧tabC rowsAH 59=(fun _=>none)∧tabC rowsAH 92=(fun _=>none)∧tabC rowsAH 191=(row1 shN fun e=>some (.tup [u (wBump e),iv (wLow (wMask e))]))∧tabC rowsAH 190=(fun _=>none)∧tabC rowsAH 192=(fun _=>none)∧tabC rowsAH 30=(row1 shN fun e=>some (u (wMask e))):=⟨rfl,rfl,rfl,rfl,rfl,rfl,rfl⟩
def fPar (t:List Tk) (k:Int):Int:=((fKids t).find? fun p=>p.1 == k).elim (-1) fun p=>p.2
def fParent (t:List Tk) (k:Int):Int:=if fMay t=true then fPar t k else -1
theorem par_hit {a b:List (Int × Int)} {k o:Int} (h:a.find? (fun p=>p.1 == k)=none):(a ++ [(k,o)] ++ b).find? (fun p=>p.1 == k)=some (k,o):=by
 rw [List.append_assoc,List.find?_append,h]
 simp
theorem fparent_pure (t:List Tk) (k:Int) (ht:tB t=true):PureC Tryz.prog 60 [tks t,iv k] (iv (fParent t k)):=by
 refine pure_top okAH 2 Tryz.func60 rfl (by show 2≤_; decide) ?_
 unfold fParent
 cases hm:fMay t with
 | false=>
  simp only [Tryz.f60,AH_all,sx_all,ht,hm,tks,tt_all,top_T,row1,iv,bv,ctx_T,ctx_C,Option.bind_some,Int.reduceNeg,ev1,ev2,implies_true,undef,↓condE_f,resB,cv,stepB,aopR,one,pre,argFrm,evo,lkp,hlk,ofVal,ofCells,setCells,AV.wr,AV.ok1,TK.agg,frz,frz1,frzA,subA,subB,sub1,Nat.reduceAdd,Nat.reduceLT,Nat.reduceLeDiff,reduceCtorEq,eq_self,ne_eq]
  all_goals ((repeat' apply And.intro) <;> first | rfl | omega | (show (_:Bool)=true; kernel_rfl) | decide)
 | true=>
  have hl:t.length≤30:=by
   unfold fMay at hm
   simp only [Bool.and_eq_true,decide_eq_true_eq] at hm
   exact hm.1.1
  simp only [Tryz.f60,Tryz.func59,Tryz.f59,inl,AH_all,sx_all,ht,hm,tks,tt_all,top_T,r_rangeF,row1,iv,bv,ctx_T,ctx_C,ctx_P,Option.bind_some,String.reduceBEq,Int.reduceNeg,ev1,ev2,undef,↓condE_t,frzDeep,deepArgs,deepArg,resB,cv,stepB,aopR,one,argFrm,evo,lkp,ofVal,AV.wr,AV.ok1,frz,frz1,frzA,frzArg,frzArgs,subA,subB,sub1,Nat.reduceAdd,Nat.reduceLT,Nat.reduceLeDiff,reduceCtorEq,eq_self,ne_eq]
  refine WP.ranges okAH 1 (g:=92) rfl (enters_of Tryz.func92 (by decide) rfl) Tryz.func92 rfl (by decide) (by rfl) (by rfl) ?_
  intro Y hI hYF hYT hYC hYY
  simp only [Tryz.f92,hYT,List.length_map,tt_all,ctx_T,List.length_map,ev1,ev2,implies_true,undef,cv,stepB,aopR,one,pre,argFrm,evo,lkp,hlk,lenOf,ofCells,TK.agg,Nat.reduceAdd,Nat.reduceLT,Nat.reduceLeDiff,reduceCtorEq,eq_self,ne_eq]
  refine WP.loop (ι:=Nat) (fun i=>t.length - i) (fun i=>i≤t.length∧(kidsFrom 0 (t.take i)).find? (fun p=>p.1 == k)=none) (n:=28)
   (fr:=fun i=>[(9,iv i),(8,iv t.length),(7,tks t),(0,.yld 10),(1,.ptr 6 0 0)])
   (hp:=fun i=>[(10,some (gBlk 0)),(6,some ⟨false,24,1,[tks t]⟩),(1,some ⟨false,3,1,[iv 0]⟩),(0,some ⟨false,3,1,[iv k]⟩)])
   (N:=14) ?_ 0 ⟨Nat.zero_le _,rfl⟩ rfl (Nat.le_refl _) ⟨rfl,rfl,rfl,rfl,rfl,trivial⟩ ⟨rfl,rfl,rfl,rfl,trivial⟩ (im:=hI.im)
  rintro i nx ⟨g1,g2⟩ hN hid
  have n0:0 < nx:=by omega
  have n1:1 < nx:=by omega
  have n6:6 < nx:=by omega
  have n10:10 < nx:=by omega
  refine WP.ofX hI hYF (by rfl) ?_
  by_cases hi:i < t.length
  ·have hz:(i:Int) < t.length:=by omega
   have hz0:(0:Int)≤(i:Int):=by omega
   have hg:=getD_t hi
   simp only [hYT,hz,hz0,hg,tks,tv,zs,List.length_map,Int.toNat_natCast,nb_self,Nat.add_assoc,tt_all,iv,ctx_T,List.length_map,Int.toNat_natCast,Int.reduceNeg,ev1,ev2,implies_true,undef,↓condE_t,cv,stepB,aopR,one,pre,binR,intOpR,evo,lkp,hlk,lenOf,ofVal,ofCells,setCells,AV.wr,AV.ok1,TK.agg,Nat.reduceAdd,Nat.reduceEqDiff,Nat.reduceLT,Nat.reduceLeDiff,reduceCtorEq,eq_self,ne_eq]
   have hkl:(t.getD i ⟨0,[]⟩).kids.length≤1000:=by
    have:=List.all_eq_true.1 ht (t.getD i ⟨0,[]⟩) (by simp [List.getD_eq_getElem?_getD,hi])
    simpa using this
   have hsp:kidsFrom 0 (t.take (i + 1))=kidsFrom 0 (t.take i) ++ (t.getD i ⟨0,[]⟩).kids.map (fun k=>(k,(i:Int))):=by
    rw [List.take_add_one,kidsFrom_append]
    simp only [List.getElem?_eq_getElem hi,List.getD_eq_getElem?_getD,Option.toList_some,Option.getD_some,kidsFrom,List.append_nil,List.length_take,Nat.zero_add]
    rw [show min i t.length=i by omega]
   have hfull:kidsFrom 0 t=kidsFrom 0 (t.take (i + 1)) ++ kidsFrom (i + 1) (t.drop (i + 1)):=by
    conv=>lhs; rw [← List.take_append_drop (i + 1) t]
    rw [kidsFrom_append,Nat.zero_add,List.length_take,show min (i + 1) t.length=i + 1 by omega]
   generalize hks:(t.getD i ⟨0,[]⟩).kids=ks at *
   refine WP.loop (ι:=Nat) (fun j=>ks.length - j) (fun j=>j≤ks.length∧(kidsFrom 0 (t.take i) ++ (ks.take j).map (fun k=>(k,(i:Int)))).find? (fun p=>p.1 == k)=none) (n:=28)
    (fr:=fun j=>[(17,iv j),(16,iv ks.length),(15,zs ks),(3,iv i),(9,iv i),(8,iv t.length),(7,tks t),(0,.yld 10),(1,.ptr 6 0 0)])
    (hp:=fun j=>[(10,some (gBlk 0)),(6,some ⟨false,24,1,[tks t]⟩),(1,some ⟨false,3,1,[iv 0]⟩),(0,some ⟨false,3,1,[iv k]⟩)])
    (N:=14) ?_ 0 ⟨Nat.zero_le _,by simpa using g2⟩ rfl (by dsimp only; omega) ⟨rfl,rfl,rfl,rfl,rfl,rfl,rfl,rfl,rfl,trivial⟩ (by simp only [n0,n1,n6,n10,tks,gBlk,nb_lt,iv,ev2,hlk,kh,eq_self]) (im:=hI.im)
   rintro j nx ⟨g3,g4⟩ hN hid
   have n0:0 < nx:=by omega
   have n1:1 < nx:=by omega
   have n6:6 < nx:=by omega
   have n10:10 < nx:=by omega
   refine WP.ofX hI hYF (by rfl) ?_
   by_cases hj:j < ks.length
   ·have hy:(j:Int) < ks.length:=by omega
    have hy0:(0:Int)≤(j:Int):=by omega
    have hgj:=getD_z hj
    have w1:IntKind.wrap .i64 ((j:Int) + 1)=((j + 1:Nat):Int):=by rw [wrap_i (by omega) (by omega)]; omega
    have hst:(ks.take (j + 1)).map (fun k=>(k,(i:Int)))=(ks.take j).map (fun k=>(k,(i:Int))) ++ [(ks.getD j 0,(i:Int))]:=by
     rw [List.take_add_one,List.map_append]
     simp [List.getElem?_eq_getElem hj,List.getD_eq_getElem?_getD]
    cases q1:ks.getD j 0 == k with
    | true=>
     have hk:ks.getD j 0=k:=by simpa using q1
     have e:fPar t k=i:=by
      unfold fPar fKids
      have e1:ks.map (fun k=>(k,(i:Int)))=(ks.take (j + 1)).map (fun k=>(k,(i:Int))) ++ (ks.drop (j + 1)).map (fun k=>(k,(i:Int))):=by rw [← List.map_append,List.take_append_drop]
      rw [hfull,hsp,e1,hst,hk,← List.append_assoc,← List.append_assoc,List.append_assoc _ _ (kidsFrom _ _),par_hit g4]
      rfl
     rw [e]
     simp only [hYT,hYY,r_yld,hy,hy0,hgj,q1,tks,zs,List.length_map,Int.toNat_natCast,Nat.add_assoc,tt_all,inR_T,r_yld,r_start,r_rkR,r_endR,r_endM,r_endJ2,zipF,iv,ctx_T,List.length_map,Int.toNat_natCast,Int.reduceNeg,ev1,ev2,implies_true,undef,↓condE_t,resB,cv,stepB,aopR,one,pre,binR,intOpR,unR,evo,lkp,hlk,ofCells,setCells,AV.wr,AV.ok1,TK.agg,Nat.reduceAdd,Nat.reduceLT,Nat.reduceLeDiff,reduceCtorEq,eq_self,ne_eq]
    | false=>
     simp only [hYT,hYY,r_yld,hy,hy0,hgj,q1,w1,tks,zs,List.length_map,Int.toNat_natCast,Nat.add_assoc,tt_all,inR_T,r_yld,r_start,r_rkN,zipF,iv,ctx_T,List.length_map,Int.toNat_natCast,Int.reduceNeg,ev1,ev2,implies_true,undef,↓condE_t,↓condE_f,cv,stepB,aopR,one,pre,binR,intOpR,unR,evo,lkp,hlk,ofCells,TK.agg,sub1,kp,kh,Nat.reduceAdd,Nat.reduceLT,Nat.reduceLeDiff,reduceCtorEq,eq_self,ne_eq]
     intro l
     refine ⟨j + 1,by omega,⟨by omega,?_⟩,rfl⟩
     rw [hst,← List.append_assoc,List.find?_append,g4]
     show (none:Option (Int × Int)).or (List.find? _ _)=none
     simp only [List.find?_cons,q1]
     rfl
   ·have hy:¬ (j:Int) < ks.length:=by omega
    have ej:ks.take j=ks:=List.take_of_length_le (by omega)
    rw [ej] at g4
    have w1:IntKind.wrap .i64 ((i:Int) + 1)=((i + 1:Nat):Int):=by rw [wrap_i (by omega) (by omega)]; omega
    simp only [hy,w1,tks,zs,Nat.add_assoc,tt_all,top_T,r_endR,r_endM,r_endJ0,iv,ctx_T,Int.reduceNeg,ev1,ev2,implies_true,undef,↓condE_f,resB,cv,stepB,aopR,one,pre,binR,intOpR,evo,lkp,hlk,ofCells,setCells,AV.wr,AV.ok1,TK.agg,sub1,kp,kh,Nat.reduceAdd,Nat.reduceEqDiff,Nat.reduceLT,Nat.reduceLeDiff,reduceCtorEq,eq_self,ne_eq]
    refine ⟨i + 1,by omega,⟨by omega,?_⟩,rfl⟩
    rw [hsp]; exact g4
  ·have hz:¬ (i:Int) < t.length:=by omega
   have e:t.take i=t:=List.take_of_length_le (by omega)
   rw [e] at g2
   have e2:fPar t k=-1:=by
    unfold fPar fKids
    rw [g2]; rfl
   rw [e2]
   simp only [hz,tks,Nat.add_assoc,tt_all,top_T,r_endR,r_endM,r_endJ0,iv,ctx_T,Int.reduceNeg,ev1,ev2,implies_true,undef,↓condE_f,resB,cv,stepB,aopR,one,pre,binR,intOpR,evo,lkp,hlk,ofCells,setCells,AV.wr,AV.ok1,TK.agg,Nat.reduceAdd,Nat.reduceLT,Nat.reduceLeDiff,reduceCtorEq,eq_self,ne_eq]
end Go.Vai

/- What a task does next. -/
namespace Go.Vai
open Go.RowKit Go.Proofs
set_option maxHeartbeats 4000000
set_option maxRecDepth 100000
def rowsAI:List Row:=[
 (60,row2 shT shI fun t k=>if tB t=true then some (iv (fParent t k)) else none)] ++ rowsAH
theorem rowsAI_ok:∀ p∈rowsAI,RowOk Tryz.prog p:=fun p h=>by
 simp only [rowsAI,List.mem_append,List.mem_cons,List.not_mem_nil,or_false] at h
 rcases h with rfl | h
 ·exact ok_row2 (enters_of Tryz.func60 (by decide) rfl) fun t k r _ _ e=>by obtain ⟨h,rfl⟩:=opt_if e; exact fparent_pure t k h
 ·exact rowsAH_ok p h
theorem okAI:(ctx Tryz.prog rowsAI).ok:=rows_ok rowsAI_ok
theorem AI_all:tabC rowsAI 60=(row2 shT shI fun t k=>if tB t=true then some (iv (fParent t k)) else none)∧tabC rowsAI 153=(fun _=>none)∧tabC rowsAI 181=(fun _=>none)∧tabC rowsAI 154=(fun _=>none)∧tabC rowsAI 155=(fun _=>none)∧tabC rowsAI 35=(row1 shT fun t=>if tB t=true then some (bv (fMay t)) else none)∧tabC rowsAI 191=(row1 shN fun e=>some (.tup [u (wBump e),iv (wLow (wMask e))]))∧tabC rowsAI 190=(fun _=>none)∧tabC rowsAI 192=(fun _=>none)∧tabC rowsAI 30=(row1 shN fun e=>some (u (wMask e))):=⟨rfl,rfl,rfl,rfl,rfl,rfl,rfl,rfl,rfl,rfl⟩
def tk0:Tk:=⟨0,[]⟩
def tkAt (t:List Tk) (i:Int):Tk:=t.getD i.toNat tk0
def okItem (t:List Tk) (x:It):Bool:=
 decide (0≤x.task) && decide (x.task < t.length) && decide (0≤x.done) && decide (x.done≤(tkAt t x.task).work) && decide (0≤x.kid) && decide (x.kid≤(tkAt t x.task).kids.length) && !(decide (x.done < (tkAt t x.task).work) && decide (0 < x.kid))
def tMay (t:List Tk) (s:List It):Bool:=fMay t && s.all (okItem t)
theorem getD_x {l:List It} {k:Nat} (h:k < l.length):(l.map xv).getD k .top=xv (l.getD k ⟨0,0,0⟩):=by simp [List.getD_eq_getElem?_getD,h]
theorem may_len {t:List Tk} (h:fMay t=true):t.length≤30:=by
 unfold fMay at h
 simp only [Bool.and_eq_true,decide_eq_true_eq] at h
 exact h.1.1
theorem tmay_pure (t:List Tk) (s:List It) (ht:tB t=true) (hs:s.length≤100000):PureC Tryz.prog 131 [tks t,its s] (bv (tMay t s)):=by
 refine pure_sub okAI 5 Tryz.func131 rfl (by show 2≤_; decide) ?_
 unfold tMay
 cases hm:fMay t with
 | false=>
  simp only [Tryz.f131,AI_all,sx_all,ht,hm,tks,its,Bool.false_and,tt_all,row1,bv,ctx_T,ctx_C,Option.bind_some,ev1,ev2,implies_true,undef,↓guardE_ft,resB,cv,stepB,guardB,guardC,dstAt,aopR,one,pre,argFrm,evo,lkp,hlk,ofCells,AV.wr,AV.ok1,TK.agg,frz,frz1,frzA,subA,subB,sub1,Nat.reduceAdd,Nat.reduceLT,Nat.reduceLeDiff,reduceCtorEq,eq_self,ne_eq]
  all_goals ((repeat' apply And.intro) <;> first | rfl | omega | (show (_:Bool)=true; kernel_rfl) | decide)
 | true=>
  have hl:=may_len hm
  simp only [Tryz.f131,Tryz.func153,Tryz.f153,Tryz.func181,Tryz.f181,inl,AI_all,sx_all,ht,hm,tks,its,List.length_map,Bool.true_and,tt_all,row1,bv,ctx_T,ctx_C,ctx_P,Option.bind_some,List.length_map,String.reduceBEq,Int.reduceNeg,ev1,ev2,implies_true,undef,↓guardE_tt,frzDeep,deepArgs,deepArg,cv,stepB,guardB,guardC,dstAt,aopR,one,pre,argFrm,evo,lkp,hlk,lenOf,ofCells,AV.wr,AV.ok1,TK.agg,frz,frz1,frzA,frzArg,frzArgs,subA,subB,sub1,Nat.reduceAdd,Nat.reduceLT,Nat.reduceLeDiff,reduceCtorEq,eq_self,ne_eq]
  refine WP.loop (fun i:Nat=>s.length - i) (fun i=>i≤s.length∧(s.take i).all (okItem t)=true) (n:=19) (fr:=fun i=>[(8,iv i),(7,iv s.length),(0,its s),(1,.fn (.func 154) [] [.ptr 0 0 0])]) (hp:=fun _=>[(0,some ⟨false,24,1,[tks t]⟩)]) (N:=21) ?_ 0 ⟨Nat.zero_le _,rfl⟩ rfl (Nat.le_refl _) ⟨rfl,rfl,rfl,rfl,trivial⟩ ⟨rfl,trivial⟩
  rintro i nx ⟨h1,h2⟩ hN _
  have n0:0 < nx:=by omega
  refine WP.of okAI 4 (by rfl) ?_
  by_cases hi:i < s.length
  ·have hz:(i:Int) < s.length:=by omega
   have hz0:(0:Int)≤(i:Int):=by omega
   have w1:IntKind.wrap .i64 ((i:Int) + 1)=((i + 1:Nat):Int):=by rw [wrap_i (by omega) (by omega)]; omega
   have hw:IntKind.wrap .i64 ((t.length:Int) - 1)=(t.length:Int) - 1:=wrap_i (by omega) (by omega)
   have hg:=getD_x hi
   generalize hx:s.getD i ⟨0,0,0⟩=x at *
   by_cases c1:x.task ≥ 0
   ·skip
    by_cases c2:x.task≤(t.length:Int) - 1
    ·skip
     have hti:x.task.toNat < t.length:=by omega
     have hgt:(t.map tv).getD x.task.toNat .top=tv (tkAt t x.task):=getD_t hti
     have c1':0≤x.task:=c1
     have c2':x.task < (t.length:Int):=by omega
     by_cases c3:x.done ≥ 0
     ·skip
      by_cases c4:x.done≤(tkAt t x.task).work
      ·skip
       by_cases c5:x.kid ≥ 0
       ·skip
        by_cases c6:x.kid≤((tkAt t x.task).kids.length:Int)
        ·skip
         by_cases d1:x.done < (tkAt t x.task).work
         ·by_cases d2:x.kid > 0
          ·skip
           have e:s.all (okItem t)=false:=all_not hi (d:=⟨0,0,0⟩) (by rw [hx]; simp only [okItem,Bool.and_eq_false_iff,decide_eq_false_iff_not,Bool.not_eq_false',Bool.and_eq_true,decide_eq_true_eq]; omega)
           rw [e]
           have hi0:(i:Int) ≥ 0:=by omega
           simp only [Tryz.func154,Tryz.f154,Tryz.func155,Tryz.f155,inl,hi0,c1,c2,hgt,c2',c3,c4,c5,c6,d1,d2,AI_all,hz,hw,hg,n0,tks,its,xv,tv,zs,List.length_map,Int.toNat_natCast,nb_self,nb_same,nb_lt,nb_lt0,Nat.add_assoc,tt_all,iv,ctx_T,ctx_C,ctx_P,List.length_map,String.reduceBEq,Int.toNat_natCast,Int.reduceNeg,ev1,ev2,implies_true,undef,↓condE_t,↓condE_f,↓guardE_tt,↓guardE_ff,frzDeep,deepArgs,deepArg,resB,cv,stepB,guardB,guardC,dstAt,aopR,one,pre,binR,intOpR,unR,argFrm,evo,lkp,hlk,lenOf,ofVal,ofCells,setCells,AV.wr,AV.ok1,TK.agg,frzArg,frzArgs,Nat.reduceAdd,Nat.reduceEqDiff,Nat.reduceLT,Nat.reduceLeDiff,reduceCtorEq,eq_self,ne_eq]
           all_goals ((repeat' apply And.intro) <;> first | rfl | omega | (show (_:Bool)=true; kernel_rfl) | decide)
          ·skip
           have e:(s.take (i + 1)).all (okItem t)=true:=take_all h2 hi (d:=⟨0,0,0⟩) (by rw [hx]; simp only [okItem,Bool.and_eq_true,decide_eq_true_eq,Bool.not_eq_true',Bool.and_eq_false_iff,decide_eq_false_iff_not]; omega)
           simp only [Tryz.func154,Tryz.f154,Tryz.func155,Tryz.f155,inl,w1,c1,c2,hgt,c2',c3,c4,c5,c6,d1,d2,AI_all,hz,hz0,hw,hg,n0,tks,its,xv,tv,zs,List.length_map,Int.toNat_natCast,nb_self,nb_same,nb_lt,nb_lt0,Nat.add_assoc,tt_all,iv,ctx_T,ctx_C,ctx_P,List.length_map,String.reduceBEq,Int.toNat_natCast,Int.reduceNeg,ev1,ev2,implies_true,undef,↓condE_t,↓condE_f,↓guardE_tt,↓guardE_ff,frzDeep,deepArgs,deepArg,resB,cv,stepB,guardB,guardC,dstAt,aopR,one,pre,binR,intOpR,unR,argFrm,evo,lkp,hlk,lenOf,ofVal,ofCells,setCells,AV.wr,AV.ok1,TK.agg,frzArg,frzArgs,sub1,kp,kh,Nat.reduceAdd,Nat.reduceEqDiff,Nat.reduceLT,Nat.reduceLeDiff,reduceCtorEq,eq_self,ne_eq]
           exact ⟨i + 1,by omega,⟨by omega,e⟩,rfl⟩
         ·skip
          have e:(s.take (i + 1)).all (okItem t)=true:=take_all h2 hi (d:=⟨0,0,0⟩) (by rw [hx]; simp only [okItem,Bool.and_eq_true,decide_eq_true_eq,Bool.not_eq_true',Bool.and_eq_false_iff,decide_eq_false_iff_not]; omega)
          simp only [Tryz.func154,Tryz.f154,Tryz.func155,Tryz.f155,inl,w1,c1,c2,hgt,c2',c3,c4,c5,c6,d1,AI_all,hz,hz0,hw,hg,n0,tks,its,xv,tv,zs,List.length_map,Int.toNat_natCast,nb_self,nb_same,nb_lt,nb_lt0,Nat.add_assoc,tt_all,iv,ctx_T,ctx_C,ctx_P,List.length_map,String.reduceBEq,Int.toNat_natCast,Int.reduceNeg,ev1,ev2,implies_true,undef,↓condE_t,↓condE_f,↓guardE_tt,↓guardE_ff,↓guardE_ft,frzDeep,deepArgs,deepArg,resB,cv,stepB,guardB,guardC,dstAt,aopR,one,pre,binR,intOpR,unR,argFrm,evo,lkp,hlk,lenOf,ofVal,ofCells,setCells,AV.wr,AV.ok1,TK.agg,frzArg,frzArgs,sub1,kp,kh,Nat.reduceAdd,Nat.reduceEqDiff,Nat.reduceLT,Nat.reduceLeDiff,reduceCtorEq,eq_self,ne_eq]
          exact ⟨i + 1,by omega,⟨by omega,e⟩,rfl⟩
        ·skip
         have e:s.all (okItem t)=false:=all_not hi (d:=⟨0,0,0⟩) (by rw [hx]; simp only [okItem,Bool.and_eq_false_iff,decide_eq_false_iff_not,Bool.not_eq_false',Bool.and_eq_true,decide_eq_true_eq]; omega)
         rw [e]
         have hi0:(i:Int) ≥ 0:=by omega
         simp only [Tryz.func154,Tryz.f154,Tryz.func155,Tryz.f155,inl,hi0,c1,c2,hgt,c2',c3,c4,c5,c6,AI_all,hz,hw,hg,n0,tks,its,xv,tv,zs,List.length_map,Int.toNat_natCast,nb_self,nb_same,nb_lt,nb_lt0,Nat.add_assoc,tt_all,iv,ctx_T,ctx_C,ctx_P,List.length_map,String.reduceBEq,Int.toNat_natCast,Int.reduceNeg,ev1,ev2,implies_true,undef,↓condE_t,↓condE_f,↓guardE_tt,↓guardE_ff,↓guardE_tf,frzDeep,deepArgs,deepArg,resB,cv,stepB,guardB,guardC,dstAt,aopR,one,pre,binR,intOpR,unR,argFrm,evo,lkp,hlk,lenOf,ofVal,ofCells,setCells,AV.wr,AV.ok1,TK.agg,frzArg,frzArgs,Nat.reduceAdd,Nat.reduceEqDiff,Nat.reduceLT,Nat.reduceLeDiff,reduceCtorEq,eq_self,ne_eq]
         all_goals ((repeat' apply And.intro) <;> first | rfl | omega | (show (_:Bool)=true; kernel_rfl) | decide)
       ·skip
        have e:s.all (okItem t)=false:=all_not hi (d:=⟨0,0,0⟩) (by rw [hx]; simp only [okItem,Bool.and_eq_false_iff,decide_eq_false_iff_not,Bool.not_eq_false',Bool.and_eq_true,decide_eq_true_eq]; omega)
        rw [e]
        have hi0:(i:Int) ≥ 0:=by omega
        simp only [Tryz.func154,Tryz.f154,Tryz.func155,Tryz.f155,inl,hi0,c1,c2,hgt,c2',c3,c4,c5,AI_all,hz,hw,hg,n0,tks,its,xv,tv,zs,List.length_map,Int.toNat_natCast,nb_self,nb_same,nb_lt,nb_lt0,Nat.add_assoc,tt_all,iv,ctx_T,ctx_C,ctx_P,List.length_map,String.reduceBEq,Int.toNat_natCast,Int.reduceNeg,ev1,ev2,implies_true,undef,↓condE_t,↓condE_f,↓guardE_tt,↓guardE_ff,↓guardE_tf,↓guardE_ft,frzDeep,deepArgs,deepArg,resB,cv,stepB,guardB,guardC,dstAt,aopR,one,pre,binR,intOpR,unR,argFrm,evo,lkp,hlk,lenOf,ofVal,ofCells,setCells,AV.wr,AV.ok1,TK.agg,frzArg,frzArgs,Nat.reduceAdd,Nat.reduceEqDiff,Nat.reduceLT,Nat.reduceLeDiff,reduceCtorEq,eq_self,ne_eq]
        all_goals ((repeat' apply And.intro) <;> first | rfl | omega | (show (_:Bool)=true; kernel_rfl) | decide)
      ·skip
       have e:s.all (okItem t)=false:=all_not hi (d:=⟨0,0,0⟩) (by rw [hx]; simp only [okItem,Bool.and_eq_false_iff,decide_eq_false_iff_not,Bool.not_eq_false',Bool.and_eq_true,decide_eq_true_eq]; omega)
       rw [e]
       have hi0:(i:Int) ≥ 0:=by omega
       simp only [Tryz.func154,Tryz.f154,Tryz.func155,Tryz.f155,inl,hi0,c1,c2,hgt,c2',c3,c4,AI_all,hz,hw,hg,n0,tks,its,xv,tv,zs,List.length_map,Int.toNat_natCast,nb_self,nb_same,nb_lt,nb_lt0,Nat.add_assoc,tt_all,iv,ctx_T,ctx_C,ctx_P,List.length_map,String.reduceBEq,Int.toNat_natCast,Int.reduceNeg,ev1,ev2,implies_true,undef,↓condE_t,↓condE_f,↓guardE_tt,↓guardE_tf,frzDeep,deepArgs,deepArg,resB,cv,stepB,guardB,guardC,dstAt,aopR,one,pre,binR,intOpR,unR,argFrm,evo,lkp,hlk,lenOf,ofVal,ofCells,setCells,AV.wr,AV.ok1,TK.agg,frzArg,frzArgs,Nat.reduceAdd,Nat.reduceEqDiff,Nat.reduceLT,Nat.reduceLeDiff,reduceCtorEq,eq_self,ne_eq]
       all_goals ((repeat' apply And.intro) <;> first | rfl | omega | (show (_:Bool)=true; kernel_rfl) | decide)
     ·skip
      have e:s.all (okItem t)=false:=all_not hi (d:=⟨0,0,0⟩) (by rw [hx]; simp only [okItem,Bool.and_eq_false_iff,decide_eq_false_iff_not,Bool.not_eq_false',Bool.and_eq_true,decide_eq_true_eq]; omega)
      rw [e]
      have hi0:(i:Int) ≥ 0:=by omega
      simp only [Tryz.func154,Tryz.f154,Tryz.func155,Tryz.f155,inl,hi0,c1,c2,hgt,c2',c3,AI_all,hz,hw,hg,n0,tks,its,xv,tv,zs,List.length_map,Int.toNat_natCast,nb_self,nb_same,nb_lt,nb_lt0,Nat.add_assoc,tt_all,iv,ctx_T,ctx_C,ctx_P,List.length_map,String.reduceBEq,Int.toNat_natCast,Int.reduceNeg,ev1,ev2,implies_true,undef,↓condE_t,↓condE_f,↓guardE_tt,↓guardE_tf,↓guardE_ft,frzDeep,deepArgs,deepArg,resB,cv,stepB,guardB,guardC,dstAt,aopR,one,pre,binR,intOpR,unR,argFrm,evo,lkp,hlk,lenOf,ofVal,ofCells,setCells,AV.wr,AV.ok1,TK.agg,frzArg,frzArgs,Nat.reduceAdd,Nat.reduceEqDiff,Nat.reduceLT,Nat.reduceLeDiff,reduceCtorEq,eq_self,ne_eq]
      all_goals ((repeat' apply And.intro) <;> first | rfl | omega | (show (_:Bool)=true; kernel_rfl) | decide)
    ·skip
     have e:s.all (okItem t)=false:=all_not hi (d:=⟨0,0,0⟩) (by rw [hx]; simp only [okItem,Bool.and_eq_false_iff,decide_eq_false_iff_not,Bool.not_eq_false',Bool.and_eq_true,decide_eq_true_eq]; omega)
     rw [e]
     have hi0:(i:Int) ≥ 0:=by omega
     simp only [Tryz.func154,Tryz.f154,Tryz.func155,Tryz.f155,inl,hi0,c1,c2,AI_all,hz,hw,hg,n0,tks,its,xv,List.length_map,Int.toNat_natCast,nb_self,nb_lt,Nat.add_assoc,tt_all,iv,ctx_T,ctx_C,ctx_P,List.length_map,String.reduceBEq,Int.toNat_natCast,Int.reduceNeg,ev1,ev2,implies_true,undef,↓condE_t,↓guardE_tt,frzDeep,deepArgs,deepArg,resB,cv,stepB,guardB,guardC,dstAt,aopR,one,pre,binR,intOpR,unR,argFrm,evo,lkp,hlk,lenOf,ofCells,AV.wr,AV.ok1,TK.agg,frzArg,frzArgs,Nat.reduceAdd,Nat.reduceEqDiff,Nat.reduceLT,Nat.reduceLeDiff,reduceCtorEq,eq_self,ne_eq]
     all_goals ((repeat' apply And.intro) <;> first | rfl | omega | (show (_:Bool)=true; kernel_rfl) | decide)
   ·skip
    have e:s.all (okItem t)=false:=all_not hi (d:=⟨0,0,0⟩) (by rw [hx]; simp only [okItem,Bool.and_eq_false_iff,decide_eq_false_iff_not,Bool.not_eq_false',Bool.and_eq_true,decide_eq_true_eq]; omega)
    rw [e]
    have hi0:(i:Int) ≥ 0:=by omega
    simp only [Tryz.func154,Tryz.f154,Tryz.func155,Tryz.f155,inl,hi0,c1,AI_all,hz,hw,hg,n0,tks,its,xv,List.length_map,Int.toNat_natCast,nb_self,nb_lt,Nat.add_assoc,tt_all,iv,ctx_T,ctx_C,ctx_P,List.length_map,String.reduceBEq,Int.toNat_natCast,Int.reduceNeg,ev1,ev2,implies_true,undef,↓condE_t,↓guardE_tt,↓guardE_ft,frzDeep,deepArgs,deepArg,resB,cv,stepB,guardB,guardC,dstAt,aopR,one,pre,binR,intOpR,unR,argFrm,evo,lkp,hlk,lenOf,ofCells,AV.wr,AV.ok1,TK.agg,frzArg,frzArgs,Nat.reduceAdd,Nat.reduceEqDiff,Nat.reduceLT,Nat.reduceLeDiff,reduceCtorEq,eq_self,ne_eq]
    all_goals ((repeat' apply And.intro) <;> first | rfl | omega | (show (_:Bool)=true; kernel_rfl) | decide)
  ·have hz:¬ (i:Int) < s.length:=by omega
   have e:s.all (okItem t)=true:=by rwa [List.take_of_length_le (by omega)] at h2
   rw [e]
   simp only [hz,tks,its,Nat.add_assoc,iv,Int.reduceNeg,ev1,ev2,undef,↓condE_f,↓guardE_tt,resB,cv,stepB,guardB,guardC,dstAt,aopR,one,pre,binR,intOpR,unR,evo,lkp,Nat.reduceAdd,Nat.reduceLT,eq_self,Int.reduceGE]
   all_goals ((repeat' apply And.intro) <;> first | rfl | omega | (show (_:Bool)=true; kernel_rfl) | decide)
end Go.Vai

/- What a task does next: steps of a stack. -/
namespace Go.Vai
open Go.RowKit Go.Proofs
set_option maxHeartbeats 4000000
set_option maxRecDepth 100000
theorem shX_emp:shX.dec (.lst 3 [])=some []:=shL_emp
def rowsAJ:List Row:=[
 (131,row2 shT shX fun t s=>if tB t=true∧s.length≤100000 then some (bv (tMay t s)) else none)] ++ rowsAI
theorem rowsAJ_ok:∀ p∈rowsAJ,RowOk Tryz.prog p:=fun p h=>by
 simp only [rowsAJ,List.mem_append,List.mem_cons,List.not_mem_nil,or_false] at h
 rcases h with rfl | h
 ·exact ok_row2 (enters_of Tryz.func131 (by decide) rfl) fun t s r _ _ e=>by obtain ⟨h,rfl⟩:=opt_if e; exact tmay_pure t s h.1 h.2
 ·exact rowsAI_ok p h
theorem okAJ:(ctx Tryz.prog rowsAJ).ok:=rows_ok rowsAJ_ok
theorem AJ_all:tabC rowsAJ 131=(row2 shT shX fun t s=>if tB t=true∧s.length≤100000 then some (bv (tMay t s)) else none)∧tabC rowsAJ 155=(fun _=>none)∧tabC rowsAJ 158=(fun _=>none)∧tabC rowsAJ 185=(fun _=>none)∧tabC rowsAJ 186=(fun _=>none)∧tabC rowsAJ 187=(fun _=>none)∧tabC rowsAJ 82=(row1 shX fun l=>if l.length≤100000 then some (its l) else none)∧tabC rowsAJ 191=(row1 shN fun e=>some (.tup [u (wBump e),iv (wLow (wMask e))]))∧tabC rowsAJ 190=(fun _=>none)∧tabC rowsAJ 192=(fun _=>none)∧tabC rowsAJ 30=(row1 shN fun e=>some (u (wMask e))):=⟨rfl,rfl,rfl,rfl,rfl,rfl,rfl,rfl,rfl,rfl,rfl⟩
def acv (a:Int × Int):AV:=.agg [iv a.1,iv a.2]
def it0:It:=⟨0,0,0⟩
def top (s:List It):It:=s.getD (s.length - 1) it0
def tNext (t:List Tk) (s:List It):Int × Int:=
 if s=[]∨tMay t s=false then (0,0)
 else if (top s).done < (tkAt t (top s).task).work then (1,(top s).task)
 else if (top s).kid < (tkAt t (top s).task).kids.length then (2,(tkAt t (top s).task).kids.getD (top s).kid.toNat 0)
 else (3,(top s).task)
theorem top_ok {t:List Tk} {s:List It} (h:tMay t s=true) (hs:s≠[]):okItem t (top s)=true:=by
 simp only [tMay,Bool.and_eq_true,List.all_eq_true] at h
 refine h.2 _ ?_
 have:=List.length_pos_iff.2 hs
 unfold top
 rw [List.getD_eq_getElem?_getD,List.getElem?_eq_getElem (by omega)]
 exact List.getElem_mem _
theorem next_pure (t:List Tk) (s:List It) (ht:tB t=true) (hs:s.length≤100000):PureC Tryz.prog 145 [tks t,its s] (acv (tNext t s)):=by
 refine pure_sub okAJ 1 Tryz.func145 rfl (by show 2≤_; decide) ?_
 unfold tNext
 by_cases h0:s=[]
 ·subst h0
  rw [if_pos (.inl rfl)]
  simp only [Tryz.f145,tks,its,acv,List.map_nil,List.length_nil,tt_all,iv,ctx_T,Int.cast_ofNat_Int,ev1,ev2,undef,↓condE_t,↓guardE_tf,resB,cv,stepB,guardB,guardC,dstAt,aopR,one,pre,binR,intOpR,argFrm,evo,lkp,hlk,lenOf,ofVal,ofCells,setCells,fillA,AV.wr,AV.ok1,TK.agg,frz,frz1,frzs,frzA,subA,subB,subL,sub1,Nat.reduceAdd,Nat.reduceEqDiff,Nat.reduceLT,Nat.reduceLeDiff,reduceCtorEq,eq_self,ne_eq]
  all_goals ((repeat' apply And.intro) <;> first | rfl | omega | (show (_:Bool)=true; kernel_rfl) | decide)
 ·have hp:=List.length_pos_iff.2 h0
  have hl0:((s.length:Int) == 0)=false:=by
   have:¬ (s.length:Int)=0:=by omega
   simpa using this
  cases hm:tMay t s with
  | false=>
   rw [if_pos (.inr rfl)]
   simp only [Tryz.f145,AJ_all,sx_all,ht,hs,hm,hl0,tks,its,acv,List.length_map,tt_all,row2,iv,bv,ctx_T,ctx_C,Option.bind_some,List.length_map,ev1,ev2,undef,↓condE_t,↓guardE_ff,resB,cv,stepB,guardB,guardC,dstAt,aopR,one,pre,binR,intOpR,unR,argFrm,evo,lkp,hlk,lenOf,ofVal,ofCells,setCells,fillA,AV.wr,AV.ok1,TK.agg,frz,frz1,frzs,frzA,subA,subB,subL,sub1,Nat.reduceAdd,Nat.reduceEqDiff,Nat.reduceLT,Nat.reduceLeDiff,reduceCtorEq,eq_self,ne_eq]
   all_goals ((repeat' apply And.intro) <;> first | rfl | omega | (show (_:Bool)=true; kernel_rfl) | decide)
  | true=>
   rw [if_neg (by rintro (h | h); exact h0 h; cases h)]
   have hk:=top_ok hm h0
   simp only [okItem,Bool.and_eq_true,decide_eq_true_eq,Bool.not_eq_true',Bool.and_eq_false_iff,decide_eq_false_iff_not] at hk
   obtain ⟨⟨⟨⟨⟨⟨k1,k2⟩,k3⟩,k4⟩,k5⟩,k6⟩,k7⟩:=hk
   have w:IntKind.wrap .i64 ((s.length:Int) - 1)=((s.length - 1:Nat):Int):=by rw [wrap_i (by omega) (by omega)]; omega
   have hg:(s.map xv).getD (s.length - 1) .top=xv (top s):=getD_x (by omega)
   have hi0:(0:Int)≤((s.length - 1:Nat):Int):=by omega
   have hi1:((s.length - 1:Nat):Int) < (s.length:Int):=by omega
   have hti:(top s).task.toNat < t.length:=by omega
   have hgt:(t.map tv).getD (top s).task.toNat .top=tv (tkAt t (top s).task):=getD_t hti
   generalize top s=x at *
   by_cases d1:x.done < (tkAt t x.task).work
   ·rw [if_pos d1]
    simp only [Tryz.f145,AJ_all,sx_all,ht,hs,hm,hl0,w,hg,hi0,hi1,k1,k2,hgt,d1,tks,its,acv,xv,tv,zs,List.length_map,Int.toNat_natCast,tt_all,row2,iv,bv,ctx_T,ctx_C,Option.bind_some,Option.map_some,List.length_map,Int.toNat_natCast,ev1,ev2,implies_true,undef,↓condE_t,↓condE_f,↓guardE_ff,resB,cv,stepB,guardB,guardC,dstAt,aopR,one,pre,binR,intOpR,unR,argFrm,evo,lkp,hlk,lenOf,ofVal,ofCells,setCells,fillA,AV.wr,AV.ok1,TK.agg,frz,frz1,frzs,frzA,subA,subB,subL,sub1,Nat.reduceAdd,Nat.reduceEqDiff,Nat.reduceLT,Nat.reduceLeDiff,reduceCtorEq,eq_self,ne_eq]
    all_goals ((repeat' apply And.intro) <;> first | rfl | omega | (show (_:Bool)=true; kernel_rfl) | decide)
   ·rw [if_neg d1]
    by_cases d2:x.kid < (tkAt t x.task).kids.length
    ·rw [if_pos d2]
     have hgz:((tkAt t x.task).kids.map iv).getD x.kid.toNat .top=iv ((tkAt t x.task).kids.getD x.kid.toNat 0):=getD_z (by omega)
     simp only [Tryz.f145,AJ_all,sx_all,ht,hs,hm,hl0,w,hg,hi0,hi1,k1,k2,k5,hgt,hgz,d1,d2,tks,its,acv,xv,tv,zs,List.length_map,Int.toNat_natCast,tt_all,row2,iv,bv,ctx_T,ctx_C,Option.bind_some,Option.map_some,List.length_map,Int.toNat_natCast,ev1,ev2,implies_true,undef,↓condE_t,↓condE_f,↓guardE_ff,resB,cv,stepB,guardB,guardC,dstAt,aopR,one,pre,binR,intOpR,unR,argFrm,evo,lkp,hlk,lenOf,ofVal,ofCells,setCells,fillA,AV.wr,AV.ok1,TK.agg,frz,frz1,frzs,frzA,subA,subB,subL,sub1,Nat.reduceAdd,Nat.reduceEqDiff,Nat.reduceLT,Nat.reduceLeDiff,reduceCtorEq,eq_self,ne_eq]
     all_goals ((repeat' apply And.intro) <;> first | rfl | omega | (show (_:Bool)=true; kernel_rfl) | decide)
    ·rw [if_neg d2]
     simp only [Tryz.f145,AJ_all,sx_all,ht,hs,hm,hl0,w,hg,hi0,hi1,k1,k2,hgt,d1,d2,tks,its,acv,xv,tv,zs,List.length_map,Int.toNat_natCast,tt_all,row2,iv,bv,ctx_T,ctx_C,Option.bind_some,Option.map_some,List.length_map,Int.toNat_natCast,ev1,ev2,implies_true,undef,↓condE_f,↓guardE_ff,resB,cv,stepB,guardB,guardC,dstAt,aopR,one,pre,binR,intOpR,unR,argFrm,evo,lkp,hlk,lenOf,ofVal,ofCells,setCells,fillA,AV.wr,AV.ok1,TK.agg,frz,frz1,frzs,frzA,subA,subB,subL,sub1,Nat.reduceAdd,Nat.reduceEqDiff,Nat.reduceLT,Nat.reduceLeDiff,reduceCtorEq,eq_self,ne_eq]
     all_goals ((repeat' apply And.intro) <;> first | rfl | omega | (show (_:Bool)=true; kernel_rfl) | decide)
def waysM:List AV:=[.tup [.v (.int .i64 1),.fn (.func 185) [] []],.tup [.v (.int .i64 2),.fn (.func 186) [] []],.tup [.v (.int .i64 3),.fn (.func 187) [] []]]
theorem ways_pure:PureC Tryz.prog 158 [] (.fm waysM):=by
 refine pure_sub okAJ 1 Tryz.func158 rfl (by show 0≤_; decide) ?_
 have hm:(∀ x∈waysM,HFree x)=True:=eq_true (by
  intro x hx
  simp only [waysM,List.mem_cons,List.not_mem_nil,or_false] at hx
  rcases hx with rfl | rfl | rfl
  all_goals
   refine hfree_tup fun c hc=>?_
   simp only [List.mem_cons,List.not_mem_nil,or_false] at hc
   rcases hc with rfl | rfl
   ·exact hfree_v _
   ·exact hfree_fn0 _)
 unfold waysM at hm ⊢
 simp only [Tryz.f158,hm,tt_all,mo_make,mo_ins,updM,find_nil,find_cons,findS,List.cons_append,List.nil_append,ctx_T,ev1,ev2,undef,resB,cv,stepB,aopR,one,argFrm,evo,lkp,hlk,frz,frz1,frzA,subA,subB,sub1,Nat.reduceAdd,Nat.reduceLT,eq_self,Int.reduceBEq]
 all_goals ((repeat' apply And.intro) <;> first | rfl | omega | (show (_:Bool)=true; kernel_rfl) | decide)
def rowsAK:List Row:=[
 (145,row2 shT shX fun t s=>if tB t=true∧s.length≤100000 then some (acv (tNext t s)) else none),
 (158,row0 (.fm waysM)),
 (82,(fun _=>none))] ++ rowsAJ
theorem rowsAK_ok:∀ p∈rowsAK,RowOk Tryz.prog p:=fun p h=>by
 simp only [rowsAK,List.mem_append,List.mem_cons,List.not_mem_nil,or_false,or_assoc] at h
 rcases h with rfl | rfl | rfl | h
 ·exact ok_row2 (enters_of Tryz.func145 (by decide) rfl) fun t s r _ _ e=>by obtain ⟨h,rfl⟩:=opt_if e; exact next_pure t s h.1 h.2
 ·exact ok_row0 (enters_of Tryz.func158 (by decide) rfl) ways_pure
 ·exact fun _ _ h=>by cases h
 ·exact rowsAJ_ok p h
theorem okAK:(ctx Tryz.prog rowsAK).ok:=rows_ok rowsAK_ok
theorem AK_all:tabC rowsAK 145=(row2 shT shX fun t s=>if tB t=true∧s.length≤100000 then some (acv (tNext t s)) else none)∧tabC rowsAK 158=(row0 (.fm waysM))∧tabC rowsAK 82=((fun _=>none))∧tabC rowsAK 131=(row2 shT shX fun t s=>if tB t=true∧s.length≤100000 then some (bv (tMay t s)) else none)∧tabC rowsAK 155=(fun _=>none)∧tabC rowsAK 185=(fun _=>none)∧tabC rowsAK 186=(fun _=>none)∧tabC rowsAK 187=(fun _=>none)∧tabC rowsAK 191=(row1 shN fun e=>some (.tup [u (wBump e),iv (wLow (wMask e))]))∧tabC rowsAK 190=(fun _=>none)∧tabC rowsAK 192=(fun _=>none)∧tabC rowsAK 30=(row1 shN fun e=>some (u (wMask e))):=⟨rfl,rfl,rfl,rfl,rfl,rfl,rfl,rfl,rfl,rfl,rfl,rfl⟩
def tDo (t:List Tk) (s:List It):List It:=
 if (tNext t s).1=1 then s.set (s.length - 1) ⟨(top s).task,IntKind.wrap .i64 ((top s).done + 1),(top s).kid⟩
 else if (tNext t s).1=2 then s.set (s.length - 1) ⟨(top s).task,(top s).done,IntKind.wrap .i64 ((top s).kid + 1)⟩
 else if (tNext t s).1=3 then s.take (s.length - 1)
 else s
theorem set_xx (l:List It) (k:Nat) (a b c:Int):(l.map xv).set k (.agg [.v (.int .i64 a),.v (.int .i64 b),.v (.int .i64 c)])=(l.set k ⟨a,b,c⟩).map xv:=by rw [List.map_set]; rfl
theorem do_pure (t:List Tk) (s:List It) (ht:tB t=true) (hs:s.length≤100000):PureC Tryz.prog 146 [tks t,its s] (its (tDo t s)):=by
 refine pure_sub okAK 2 Tryz.func146 rfl (by show 2≤_; decide) ?_
 unfold tDo
 by_cases h0:s=[]
 ·subst h0
  have hn:tNext t []=(0,0):=if_pos (.inl rfl)
  rw [hn]
  simp only [Tryz.f146,Tryz.func82,Tryz.f82,inl,AK_all,sx_all,shX_emp,and_self,ht,hn,waysM,tks,its,acv,List.map_nil,List.length_nil,hfc_0,tt_all,mo_look,lookM,hitM,find_nil,find_cons,findS,List.cons_append,List.nil_append,row0,row2,iv,ctx_T,ctx_C,ctx_P,Option.bind_some,String.reduceBEq,ev1,ev2,implies_true,undef,↓condE_f,frzDeep,deepArgs,deepArg,resB,cv,stepB,aopR,one,pre,binR,argFrm,evo,lkp,hlk,asLst,idOf,srcOk,ofVal,ofCells,setElems,isEq,TK.agg,frz,frz1,frzA,frzArg,frzArgs,subA,subB,sub1,List.replicate,Nat.reduceAdd,Nat.reduceSub,Nat.reduceMul,Nat.reduceLT,Nat.reduceLeDiff,reduceCtorEq,eq_self,ne_eq,Int.reduceBEq,Int.reduceEq]
  all_goals ((repeat' apply And.intro) <;> first | rfl | omega | (show (_:Bool)=true; kernel_rfl) | decide)
 ·have hp:=List.length_pos_iff.2 h0
  have hb:s.length * 24≤140737488355328:=by omega
  have hle:s.length≤s.length:=Nat.le_refl _
  have hn:(s.map xv=[])=False:=eq_false (by simpa using h0)
  have w:IntKind.wrap .i64 ((s.length:Int) - 1)=((s.length - 1:Nat):Int):=by rw [wrap_i (by omega) (by omega)]; omega
  have hg:(s.map xv).getD (s.length - 1) .top=xv (top s):=getD_x (by omega)
  have hi0:(0:Int)≤((s.length - 1:Nat):Int):=by omega
  have hi1:((s.length - 1:Nat):Int) < (s.length:Int):=by omega
  have hi2:s.length - 1 < s.length:=by omega
  have hi3:((s.length - 1:Nat):Int)≤(s.length:Int):=by omega
  have hkind:(tNext t s).1=0∨(tNext t s).1=1∨(tNext t s).1=2∨(tNext t s).1=3:=by
   unfold tNext
   repeat' split
   all_goals simp
  have e1:∀ y,((s.set (s.length - 1) y).map xv).take s.length=(s.set (s.length - 1) y).map xv:=fun y=>List.take_of_length_le (by simp)
  have e2:(s.map xv).take (s.length - 1)=(s.take (s.length - 1)).map xv:=by rw [List.map_take]
  have hgs:∀ y,((s.set (s.length - 1) y).map xv).getD (s.length - 1) .top=xv y:=fun y=>by simp [List.getD_eq_getElem?_getD,hi2]
  generalize hq:(tNext t s).1=q at *
  rcases hkind with rfl | rfl | rfl | rfl
  ·simp only [Tryz.f146,Tryz.func82,Tryz.f82,inl,AK_all,sx_all,ht,hs,hq,hn,hb,hle,waysM,tks,its,acv,take_xx,hfc_x,List.length_map,tt_all,mo_look,lookM,hitM,find_nil,find_cons,findS,List.cons_append,List.nil_append,row0,row2,iv,ctx_T,ctx_C,ctx_P,Option.bind_some,List.length_map,String.reduceBEq,ev1,ev2,implies_true,undef,↓condE_f,frzDeep,deepArgs,deepArg,resB,cv,stepB,aopR,one,pre,binR,argFrm,evo,lkp,hlk,asLst,idOf,srcOk,ofVal,ofCells,setElems,isEq,TK.agg,frz,frz1,frzA,frzArg,frzArgs,subA,subB,sub1,List.replicate,Nat.reduceAdd,Nat.reduceMul,Nat.reduceLT,Nat.reduceLeDiff,reduceCtorEq,eq_self,ne_eq,Int.reduceBEq,Int.reduceEq]
   all_goals ((repeat' apply And.intro) <;> first | rfl | omega | (show (_:Bool)=true; kernel_rfl) | decide)
  ·simp only [Tryz.f146,Tryz.func82,Tryz.f82,Tryz.func185,Tryz.f185,inl,AK_all,sx_all,ht,hs,hq,hn,hb,hle,w,hg,hi0,hi1,hi2,e1,waysM,tks,its,acv,xv,set_xx,take_xx,hfc_x,List.length_map,List.length_set,Int.toNat_natCast,Nat.zero_add,tt_all,mo_look,lookM,hitM,find_cons,findS,List.cons_append,List.nil_append,row0,row2,iv,ctx_T,ctx_C,ctx_P,Option.bind_some,List.length_map,List.length_set,String.reduceBEq,Int.toNat_natCast,Int.cast_ofNat_Int,Int.reduceSub,Int.reduceNeg,ev1,ev2,implies_true,undef,↓condE_t,frzDeep,deepArgs,deepArg,resB,cv,stepB,aopR,one,pre,binR,intOpR,argFrm,evo,lkp,hlk,lenOf,asLst,idOf,srcOk,ofCells,setCells,setElems,isEq,AV.wr,AV.ok1,TK.agg,frz,frz1,frzA,frzArg,frzArgs,subA,subB,sub1,List.replicate,Nat.reduceAdd,Nat.reduceMul,Nat.reduceLT,Nat.reduceLeDiff,reduceCtorEq,eq_self,ne_eq,Int.reduceEq]
   all_goals ((repeat' apply And.intro) <;> first | rfl | omega | (show (_:Bool)=true; kernel_rfl) | decide)
  ·simp only [Tryz.f146,Tryz.func82,Tryz.f82,Tryz.func186,Tryz.f186,inl,AK_all,sx_all,ht,hs,hq,hn,hb,hle,w,hg,hi0,hi1,hi2,e1,waysM,tks,its,acv,xv,set_xx,take_xx,hfc_x,List.length_map,List.length_set,Int.toNat_natCast,Nat.zero_add,tt_all,mo_look,lookM,hitM,find_cons,findS,List.cons_append,List.nil_append,row0,row2,iv,ctx_T,ctx_C,ctx_P,Option.bind_some,List.length_map,List.length_set,String.reduceBEq,Int.toNat_natCast,Int.cast_ofNat_Int,Int.reduceSub,Int.reduceNeg,ev1,ev2,implies_true,undef,↓condE_t,frzDeep,deepArgs,deepArg,resB,cv,stepB,aopR,one,pre,binR,intOpR,argFrm,evo,lkp,hlk,lenOf,asLst,idOf,srcOk,ofCells,setCells,setElems,isEq,AV.wr,AV.ok1,TK.agg,frz,frz1,frzA,frzArg,frzArgs,subA,subB,sub1,List.replicate,Nat.reduceAdd,Nat.reduceMul,Nat.reduceLT,Nat.reduceLeDiff,reduceCtorEq,eq_self,ne_eq,Int.reduceBEq,Int.reduceEq]
   all_goals ((repeat' apply And.intro) <;> first | rfl | omega | (show (_:Bool)=true; kernel_rfl) | decide)
  ·simp only [Tryz.f146,Tryz.func82,Tryz.f82,Tryz.func187,Tryz.f187,inl,AK_all,sx_all,ht,hs,hq,hn,hb,hle,w,hi0,hi3,e2,waysM,tks,its,acv,take_xx,hfc_x,List.length_map,Int.toNat_natCast,Nat.zero_add,Nat.sub_zero,List.drop_zero,tt_all,mo_look,lookM,hitM,find_cons,findS,List.cons_append,List.nil_append,row0,row2,iv,ctx_T,ctx_C,ctx_P,Option.bind_some,Option.map_some,List.length_map,String.reduceBEq,Int.toNat_natCast,Int.cast_ofNat_Int,Int.reduceSub,Int.reduceNeg,ev1,ev2,implies_true,undef,↓condE_t,frzDeep,deepArgs,deepArg,resB,cv,stepB,aopR,one,pre,binR,intOpR,argFrm,evo,lkp,hlk,lenOf,asLst,idOf,bndA,srcOk,ofCells,setElems,isEq,TK.agg,frz,frz1,frzA,frzArg,frzArgs,subA,subB,sub1,List.replicate,Nat.reduceAdd,Nat.reduceMul,Nat.reduceLT,Nat.reduceLeDiff,reduceCtorEq,eq_self,ne_eq,Int.reduceLE,Int.reduceBEq,Int.reduceEq]
   all_goals ((repeat' apply And.intro) <;> first | rfl | omega | (show (_:Bool)=true; kernel_rfl) | decide)
def tStart (t:List Tk) (s:List It) (k:Int):List It:=if tMay t s=true∧0≤k∧k < t.length then s ++ [⟨k,0,0⟩] else s
theorem start_pure (t:List Tk) (s:List It) (k:Int) (ht:tB t=true) (hs:s.length≤100000):PureC Tryz.prog 157 [tks t,its s,iv k] (its (tStart t s k)):=by
 refine pure_sub okAK 2 Tryz.func157 rfl (by show 3≤_; decide) ?_
 unfold tStart
 have hb:s.length * 24≤140737488355328:=by omega
 have hb1:(s.length + 1) * 24≤140737488355328:=by omega
 have hle:s.length≤s.length:=Nat.le_refl _
 cases hm:tMay t s with
 | false=>
  rw [if_neg (by simp)]
  by_cases h0:s=[]
  ·subst h0
   simp only [Tryz.f157,Tryz.func82,Tryz.f82,inl,AK_all,sx_all,shX_emp,and_self,ht,hm,tks,its,List.map_nil,List.length_nil,hfc_0,tt_all,row2,iv,bv,ctx_T,ctx_C,ctx_P,Option.bind_some,String.reduceBEq,ev1,ev2,implies_true,undef,↓condE_t,↓guardE_tf,frzDeep,deepArgs,deepArg,resB,cv,stepB,guardB,guardC,dstAt,aopR,one,pre,binR,unR,argFrm,evo,lkp,hlk,asLst,idOf,srcOk,setElems,isEq,frz,frz1,frzA,frzArg,frzArgs,subA,subB,sub1,List.replicate,Nat.reduceAdd,Nat.reduceMul,Nat.reduceLT,Nat.reduceLeDiff,reduceCtorEq,eq_self,ne_eq]
   all_goals ((repeat' apply And.intro) <;> first | rfl | omega | (show (_:Bool)=true; kernel_rfl) | decide)
  ·have hn:(s.map xv=[])=False:=eq_false (by simpa using h0)
   simp only [Tryz.f157,Tryz.func82,Tryz.f82,inl,AK_all,sx_all,ht,hs,hm,hn,hb,hle,tks,its,take_xx,hfc_x,List.length_map,tt_all,row2,iv,bv,ctx_T,ctx_C,ctx_P,Option.bind_some,List.length_map,String.reduceBEq,ev1,ev2,undef,↓condE_t,↓guardE_tf,frzDeep,deepArgs,deepArg,resB,cv,stepB,guardB,guardC,dstAt,aopR,one,pre,binR,unR,argFrm,evo,lkp,hlk,asLst,idOf,srcOk,setElems,isEq,frz,frz1,frzA,frzArg,frzArgs,subA,subB,sub1,List.replicate,Nat.reduceAdd,Nat.reduceMul,Nat.reduceLT,Nat.reduceLeDiff,reduceCtorEq,eq_self,ne_eq]
   all_goals ((repeat' apply And.intro) <;> first | rfl | omega | (show (_:Bool)=true; kernel_rfl) | decide)
 | true=>
  have hl:=may_len (t:=t) (by simp only [tMay,Bool.and_eq_true] at hm; exact hm.1)
  have hw:IntKind.wrap .i64 ((t.length:Int) - 1)=(t.length:Int) - 1:=wrap_i (by omega) (by omega)
  by_cases k1:k ≥ 0
  ·by_cases k2:k≤(t.length:Int) - 1
   ·rw [if_pos ⟨rfl,k1,by omega⟩]
    by_cases h0:s=[]
    ·subst h0
     have hf:=hfc_x [⟨k,0,0⟩]
     simp only [List.map_cons,List.map_nil,xv,iv] at hf
     simp only [Tryz.f157,Tryz.func82,Tryz.f82,Tryz.func155,Tryz.f155,inl,AK_all,sx_all,shX_emp,and_self,ht,hm,hw,k1,k2,hf,tks,its,xv,List.map_nil,List.map_cons,List.length_map,List.length_nil,List.length_cons,List.nil_append,List.take_nil,List.take_succ_cons,tt_all,row2,iv,bv,ctx_T,ctx_C,ctx_P,Option.bind_some,Option.map_some,List.length_map,String.reduceBEq,ev1,ev2,implies_true,undef,↓condE_f,↓guardE_tt,↓guardE_ff,frzDeep,deepArgs,deepArg,resB,cv,stepB,guardB,guardC,dstAt,aopR,one,pre,binR,intOpR,unR,argFrm,evo,lkp,hlk,lenOf,asLst,idOf,srcOk,ofVal,fillA,setElems,isEq,AV.wr,AV.ok1,frz,frz1,frzA,frzArg,frzArgs,subA,subB,sub1,List.replicate,Nat.reduceAdd,Nat.reduceMul,Nat.reduceLT,Nat.reduceLeDiff,reduceCtorEq,eq_self,ne_eq]
     all_goals ((repeat' apply And.intro) <;> first | rfl | omega | (show (_:Bool)=true; kernel_rfl) | decide)
    ·have hn:(s.map xv=[])=False:=eq_false (by simpa using h0)
     have e1:s.map xv ++ [.agg [.v (.int .i64 k),.v (.int .i64 0),.v (.int .i64 0)]]=(s ++ [(⟨k,0,0⟩:It)]).map xv:=by rw [List.map_append]; rfl
     have e2:((s ++ [(⟨k,0,0⟩:It)]).map xv).take (s.length + 1)=(s ++ [(⟨k,0,0⟩:It)]).map xv:=List.take_of_length_le (by simp)
     have e3:(s ++ [(⟨k,0,0⟩:It)]).length=s.length + 1:=by simp
     simp only [Tryz.f157,Tryz.func82,Tryz.f82,Tryz.func155,Tryz.f155,inl,AK_all,sx_all,ht,hs,hm,hw,k1,k2,hn,hb,hb1,hle,e1,e2,e3,tks,its,take_xx,hfc_x,List.length_map,List.length_cons,List.length_nil,tt_all,row2,iv,bv,ctx_T,ctx_C,ctx_P,Option.bind_some,Option.map_some,List.length_map,String.reduceBEq,ev1,ev2,undef,↓condE_f,↓guardE_tt,↓guardE_ff,frzDeep,deepArgs,deepArg,resB,cv,stepB,guardB,guardC,dstAt,aopR,one,pre,binR,intOpR,unR,argFrm,evo,lkp,hlk,lenOf,asLst,idOf,srcOk,ofVal,fillA,setElems,isEq,AV.wr,AV.ok1,frz,frz1,frzA,frzArg,frzArgs,subA,subB,sub1,List.replicate,Nat.reduceAdd,Nat.reduceMul,Nat.reduceLT,Nat.reduceLeDiff,reduceCtorEq,eq_self,ne_eq]
     all_goals ((repeat' apply And.intro) <;> first | rfl | omega | (show (_:Bool)=true; kernel_rfl) | decide)
   ·rw [if_neg (by omega)]
    by_cases h0:s=[]
    ·subst h0
     simp only [Tryz.f157,Tryz.func82,Tryz.f82,Tryz.func155,Tryz.f155,inl,AK_all,sx_all,shX_emp,and_self,ht,hm,hw,k1,k2,tks,its,List.map_nil,List.length_map,List.length_nil,hfc_0,tt_all,row2,iv,bv,ctx_T,ctx_C,ctx_P,Option.bind_some,List.length_map,String.reduceBEq,ev1,ev2,implies_true,undef,↓condE_t,↓guardE_tt,↓guardE_ff,frzDeep,deepArgs,deepArg,resB,cv,stepB,guardB,guardC,dstAt,aopR,one,pre,binR,intOpR,unR,argFrm,evo,lkp,hlk,lenOf,asLst,idOf,srcOk,setElems,isEq,frz,frz1,frzA,frzArg,frzArgs,subA,subB,sub1,List.replicate,Nat.reduceAdd,Nat.reduceMul,Nat.reduceLT,Nat.reduceLeDiff,reduceCtorEq,eq_self,ne_eq]
     all_goals ((repeat' apply And.intro) <;> first | rfl | omega | (show (_:Bool)=true; kernel_rfl) | decide)
    ·have hn:(s.map xv=[])=False:=eq_false (by simpa using h0)
     simp only [Tryz.f157,Tryz.func82,Tryz.f82,Tryz.func155,Tryz.f155,inl,AK_all,sx_all,ht,hs,hm,hw,k1,k2,hn,hb,hle,tks,its,take_xx,hfc_x,List.length_map,tt_all,row2,iv,bv,ctx_T,ctx_C,ctx_P,Option.bind_some,List.length_map,String.reduceBEq,ev1,ev2,undef,↓condE_t,↓guardE_tt,↓guardE_ff,frzDeep,deepArgs,deepArg,resB,cv,stepB,guardB,guardC,dstAt,aopR,one,pre,binR,intOpR,unR,argFrm,evo,lkp,hlk,lenOf,asLst,idOf,srcOk,setElems,isEq,frz,frz1,frzA,frzArg,frzArgs,subA,subB,sub1,List.replicate,Nat.reduceAdd,Nat.reduceMul,Nat.reduceLT,Nat.reduceLeDiff,reduceCtorEq,eq_self,ne_eq]
     all_goals ((repeat' apply And.intro) <;> first | rfl | omega | (show (_:Bool)=true; kernel_rfl) | decide)
  ·rw [if_neg (by omega)]
   by_cases h0:s=[]
   ·subst h0
    simp only [Tryz.f157,Tryz.func82,Tryz.f82,Tryz.func155,Tryz.f155,inl,AK_all,sx_all,shX_emp,and_self,ht,hm,hw,k1,tks,its,List.map_nil,List.length_map,List.length_nil,hfc_0,tt_all,row2,iv,bv,ctx_T,ctx_C,ctx_P,Option.bind_some,List.length_map,String.reduceBEq,ev1,ev2,implies_true,undef,↓condE_t,↓guardE_ff,↓guardE_ft,frzDeep,deepArgs,deepArg,resB,cv,stepB,guardB,guardC,dstAt,aopR,one,pre,binR,intOpR,unR,argFrm,evo,lkp,hlk,lenOf,asLst,idOf,srcOk,setElems,isEq,frz,frz1,frzA,frzArg,frzArgs,subA,subB,sub1,List.replicate,Nat.reduceAdd,Nat.reduceMul,Nat.reduceLT,Nat.reduceLeDiff,reduceCtorEq,eq_self,ne_eq]
    all_goals ((repeat' apply And.intro) <;> first | rfl | omega | (show (_:Bool)=true; kernel_rfl) | decide)
   ·have hn:(s.map xv=[])=False:=eq_false (by simpa using h0)
    simp only [Tryz.f157,Tryz.func82,Tryz.f82,Tryz.func155,Tryz.f155,inl,AK_all,sx_all,ht,hs,hm,hw,k1,hn,hb,hle,tks,its,take_xx,hfc_x,List.length_map,tt_all,row2,iv,bv,ctx_T,ctx_C,ctx_P,Option.bind_some,List.length_map,String.reduceBEq,ev1,ev2,undef,↓condE_t,↓guardE_ff,↓guardE_ft,frzDeep,deepArgs,deepArg,resB,cv,stepB,guardB,guardC,dstAt,aopR,one,pre,binR,intOpR,unR,argFrm,evo,lkp,hlk,lenOf,asLst,idOf,srcOk,setElems,isEq,frz,frz1,frzA,frzArg,frzArgs,subA,subB,sub1,List.replicate,Nat.reduceAdd,Nat.reduceMul,Nat.reduceLT,Nat.reduceLeDiff,reduceCtorEq,eq_self,ne_eq]
    all_goals ((repeat' apply And.intro) <;> first | rfl | omega | (show (_:Bool)=true; kernel_rfl) | decide)
end Go.Vai

/- A worker: may it step? -/
namespace Go.Vai
open Go.RowKit Go.Proofs
set_option maxHeartbeats 4000000
set_option maxRecDepth 100000
def rowsAL:List Row:=[
 (145,row2 shT shX fun t s=>if tB t=true∧s.length≤100000 then some (acv (tNext t s)) else none),
 (146,row2 shT shX fun t s=>if tB t=true∧s.length≤100000 then some (its (tDo t s)) else none),
 (157,row3 shT shX shI fun t s k=>if tB t=true∧s.length≤100000 then some (its (tStart t s k)) else none)] ++ rowsAJ
theorem rowsAL_ok:∀ p∈rowsAL,RowOk Tryz.prog p:=fun p h=>by
 simp only [rowsAL,List.mem_append,List.mem_cons,List.not_mem_nil,or_false,or_assoc] at h
 rcases h with rfl | rfl | rfl | h
 ·exact ok_row2 (enters_of Tryz.func145 (by decide) rfl) fun t s r _ _ e=>by obtain ⟨h,rfl⟩:=opt_if e; exact next_pure t s h.1 h.2
 ·exact ok_row2 (enters_of Tryz.func146 (by decide) rfl) fun t s r _ _ e=>by obtain ⟨h,rfl⟩:=opt_if e; exact do_pure t s h.1 h.2
 ·exact ok_row3 (enters_of Tryz.func157 (by decide) rfl) fun t s k r _ _ _ e=>by obtain ⟨h,rfl⟩:=opt_if e; exact start_pure t s k h.1 h.2
 ·exact rowsAJ_ok p h
theorem okAL:(ctx Tryz.prog rowsAL).ok:=rows_ok rowsAL_ok
theorem AL_all:tabC rowsAL 145=(row2 shT shX fun t s=>if tB t=true∧s.length≤100000 then some (acv (tNext t s)) else none)∧tabC rowsAL 146=(row2 shT shX fun t s=>if tB t=true∧s.length≤100000 then some (its (tDo t s)) else none)∧tabC rowsAL 157=(row3 shT shX shI fun t s k=>if tB t=true∧s.length≤100000 then some (its (tStart t s k)) else none)∧tabC rowsAL 83=(fun _=>none)∧tabC rowsAL 131=(row2 shT shX fun t s=>if tB t=true∧s.length≤100000 then some (bv (tMay t s)) else none)∧tabC rowsAL 35=(row1 shT fun t=>if tB t=true then some (bv (fMay t)) else none)∧tabC rowsAL 191=(row1 shN fun e=>some (.tup [u (wBump e),iv (wLow (wMask e))]))∧tabC rowsAL 190=(fun _=>none)∧tabC rowsAL 192=(fun _=>none)∧tabC rowsAL 30=(row1 shN fun e=>some (u (wMask e)))∧tabC rowsAL 29=(row1 shC fun c=>some (iv (lSize c)))∧tabC rowsAL 28=(row1 shC fun c=>some (bv (mayC c))):=⟨rfl,rfl,rfl,rfl,rfl,rfl,rfl,rfl,rfl,rfl,rfl,rfl⟩
def victim (d self w:Int):Int:=
 if 2≤w∧0≤self∧self < w then IntKind.wrap .i64 ((wrapU (wrapU (wrapU self + 1) + d.tmod (wrapU (wrapU w - 1)))).tmod (wrapU w)) else -1
theorem victim_pure (d self w:Int) (hw:w≤1000):PureC Tryz.prog 144 [u d,iv self,iv w] (iv (victim d self w)):=by
 refine pure_sub okAL 1 Tryz.func144 rfl (by show 3≤_; decide) ?_
 have hu:∀ x,IntKind.wrap .u64 x=wrapU x:=fun _=>rfl
 unfold victim
 by_cases h1:w < 2
 ·rw [if_neg (by omega)]
  simp only [Tryz.f144,h1,iv,u,ctx_T,Int.reduceNeg,ev1,ev2,undef,↓condE_t,↓guardE_tf,resB,cv,stepB,guardB,guardC,dstAt,aopR,one,pre,binR,intOpR,argFrm,evo,lkp,frz,frz1,frzA,subA,subB,sub1,Nat.reduceAdd,Nat.reduceLT,eq_self]
  all_goals ((repeat' apply And.intro) <;> first | rfl | omega | (show (_:Bool)=true; kernel_rfl) | decide)
 ·by_cases h2:self ≥ 0
  ·by_cases h3:self < w
   ·rw [if_pos (by omega)]
    have e1:wrapU w=w:=by rw [wrapU_eq]; omega
    have e2:wrapU (w - 1)=w - 1:=by rw [wrapU_eq]; omega
    have e3:(w - 1=0)=False:=eq_false (by omega)
    have e4:(w=0)=False:=eq_false (by omega)
    simp only [Tryz.f144,Tryz.func83,Tryz.f83,inl,AL_all,h1,h2,h3,hu,e1,e2,e3,e4,tt_all,iv,u,ctx_T,ctx_C,ctx_P,String.reduceBEq,Int.reduceNeg,ev1,ev2,undef,↓condE_f,↓guardE_tt,↓guardE_ff,frzDeep,deepArgs,deepArg,resB,cv,stepB,guardB,guardC,dstAt,aopR,one,pre,binR,intOpR,unR,argFrm,evo,lkp,frz,frz1,frzA,frzArg,frzArgs,subA,subB,sub1,Nat.reduceAdd,Nat.reduceLT,Nat.reduceLeDiff,reduceCtorEq,eq_self,ne_eq]
    all_goals ((repeat' apply And.intro) <;> first | rfl | omega | (show (_:Bool)=true; kernel_rfl) | decide)
   ·rw [if_neg (by omega)]
    simp only [Tryz.f144,Tryz.func83,Tryz.f83,inl,AL_all,h1,h2,h3,iv,u,ctx_T,ctx_C,ctx_P,String.reduceBEq,Int.reduceNeg,ev1,ev2,undef,↓condE_t,↓guardE_tt,↓guardE_ff,frzDeep,deepArgs,deepArg,resB,cv,stepB,guardB,guardC,dstAt,aopR,one,pre,binR,intOpR,unR,argFrm,evo,lkp,frz,frz1,frzA,frzArg,frzArgs,subA,subB,sub1,Nat.reduceAdd,Nat.reduceLT,Nat.reduceLeDiff,eq_self]
    all_goals ((repeat' apply And.intro) <;> first | rfl | omega | (show (_:Bool)=true; kernel_rfl) | decide)
  ·rw [if_neg (by omega)]
   simp only [Tryz.f144,Tryz.func83,Tryz.f83,inl,AL_all,h1,h2,iv,u,ctx_T,ctx_C,ctx_P,String.reduceBEq,Int.reduceNeg,ev1,ev2,undef,↓condE_t,↓guardE_ff,↓guardE_ft,frzDeep,deepArgs,deepArg,resB,cv,stepB,guardB,guardC,dstAt,aopR,one,pre,binR,intOpR,unR,argFrm,evo,lkp,frz,frz1,frzA,frzArg,frzArgs,subA,subB,sub1,Nat.reduceAdd,Nat.reduceLT,Nat.reduceLeDiff,eq_self]
   all_goals ((repeat' apply And.intro) <;> first | rfl | omega | (show (_:Bool)=true; kernel_rfl) | decide)
def wMay (c:Cf) (t:List Tk) (m:List Int) (w:Int) (x:Wk):Bool:=
 mayC c && ((m.length:Int) == lSize c) && fMay t && decide (w ≥ 0) && decide (w < c.w) && decide (x.pc ≥ 0) && decide (x.pc < 16) && tMay t x.stack
theorem wmay_pure (c:Cf) (t:List Tk) (m:List Int) (w:Int) (x:Wk) (ht:tB t=true) (hm:m.length≤1000) (hs:x.stack.length≤100000):PureC Tryz.prog 94 [cv' c,tks t,ms m,iv w,wv x] (bv (wMay c t m w x)):=by
 refine pure_sub okAL 1 Tryz.func94 rfl (by show 5≤_; decide) ?_
 unfold wMay
 cases h1:mayC c with
 | false=>simp only [Tryz.f94,AL_all,h1,tks,wv,its,ms,Bool.false_and,tt_all,cv',cf_eta,shC_dec,dC,row1,iv,bv,u,ms,ctx_T,ctx_C,Option.bind_some,ev1,ev2,undef,↓guardE_ft,resB,cv,stepB,guardB,guardC,dstAt,aopR,one,pre,argFrm,evo,lkp,hlk,ofCells,AV.wr,AV.ok1,TK.agg,frz,frz1,frzA,subA,subB,sub1,Nat.reduceAdd,Nat.reduceEqDiff,Nat.reduceLT,Nat.reduceLeDiff,reduceCtorEq,eq_self,ne_eq]; all_goals ((repeat' apply And.intro) <;> first | rfl | omega | (show (_:Bool)=true; kernel_rfl) | decide)
 | true=>
  cases h2:(m.length:Int) == lSize c with
  | false=>simp only [Tryz.f94,AL_all,h1,h2,tks,wv,its,ms,Bool.false_and,Bool.true_and,tt_all,cv',cf_eta,shC_dec,dC,row1,iv,bv,u,ms,ctx_T,ctx_C,Option.bind_some,List.length_map,ev1,ev2,undef,↓guardE_tt,↓guardE_ft,resB,cv,stepB,guardB,guardC,dstAt,aopR,one,pre,binR,intOpR,argFrm,evo,lkp,hlk,lenOf,ofCells,AV.wr,AV.ok1,TK.agg,frz,frz1,frzA,subA,subB,sub1,Nat.reduceAdd,Nat.reduceEqDiff,Nat.reduceLT,Nat.reduceLeDiff,reduceCtorEq,eq_self,ne_eq]; all_goals ((repeat' apply And.intro) <;> first | rfl | omega | (show (_:Bool)=true; kernel_rfl) | decide)
  | true=>
   cases h3:fMay t with
   | false=>simp only [Tryz.f94,AL_all,sx_all,ht,h1,h2,h3,tks,wv,its,ms,Bool.false_and,Bool.true_and,tt_all,cv',cf_eta,shC_dec,dC,row1,iv,bv,u,ms,ctx_T,ctx_C,Option.bind_some,List.length_map,ev1,ev2,undef,↓guardE_tt,↓guardE_ft,resB,cv,stepB,guardB,guardC,dstAt,aopR,one,pre,binR,intOpR,argFrm,evo,lkp,hlk,lenOf,ofCells,AV.wr,AV.ok1,TK.agg,frz,frz1,frzA,subA,subB,sub1,Nat.reduceAdd,Nat.reduceEqDiff,Nat.reduceLT,Nat.reduceLeDiff,reduceCtorEq,eq_self,ne_eq]; all_goals ((repeat' apply And.intro) <;> first | rfl | omega | (show (_:Bool)=true; kernel_rfl) | decide)
   | true=>
    by_cases h4:w ≥ 0
    ·by_cases h5:w < c.w
     ·by_cases h6:x.pc ≥ 0
      ·by_cases h7:x.pc < 16
       ·simp only [Tryz.f94,AL_all,sx_all,ht,hs,and_self,h1,h2,h3,h4,h5,h6,h7,tks,wv,its,ms,Bool.true_and,decide_true,tt_all,cv',cf_eta,shC_dec,dC,row1,row2,iv,bv,u,ms,ctx_T,ctx_C,Option.bind_some,List.length_map,ev1,ev2,implies_true,undef,↓guardE_tt,resB,cv,stepB,guardB,guardC,dstAt,aopR,one,pre,binR,intOpR,argFrm,evo,lkp,hlk,lenOf,ofCells,AV.wr,AV.ok1,TK.agg,frz,frz1,frzA,subA,subB,sub1,Nat.reduceAdd,Nat.reduceEqDiff,Nat.reduceLT,Nat.reduceLeDiff,reduceCtorEq,eq_self,ne_eq]; all_goals ((repeat' apply And.intro) <;> first | rfl | omega | (show (_:Bool)=true; kernel_rfl) | decide)
       ·simp only [Tryz.f94,AL_all,sx_all,ht,and_self,h1,h2,h3,h4,h5,h6,h7,tks,wv,its,ms,Bool.false_and,Bool.and_false,decide_true,decide_false,tt_all,cv',cf_eta,shC_dec,dC,row1,iv,bv,u,ms,ctx_T,ctx_C,Option.bind_some,List.length_map,ev1,ev2,implies_true,undef,↓guardE_tt,↓guardE_ft,resB,cv,stepB,guardB,guardC,dstAt,aopR,one,pre,binR,intOpR,argFrm,evo,lkp,hlk,lenOf,ofCells,AV.wr,AV.ok1,TK.agg,frz,frz1,frzA,subA,subB,sub1,Nat.reduceAdd,Nat.reduceEqDiff,Nat.reduceLT,Nat.reduceLeDiff,reduceCtorEq,eq_self,ne_eq]; all_goals ((repeat' apply And.intro) <;> first | rfl | omega | (show (_:Bool)=true; kernel_rfl) | decide)
      ·simp only [Tryz.f94,AL_all,sx_all,ht,and_self,h1,h2,h3,h4,h5,h6,tks,wv,its,ms,Bool.false_and,Bool.and_false,decide_true,decide_false,tt_all,cv',cf_eta,shC_dec,dC,row1,iv,bv,u,ms,ctx_T,ctx_C,Option.bind_some,List.length_map,ev1,ev2,implies_true,undef,↓guardE_tt,↓guardE_ft,resB,cv,stepB,guardB,guardC,dstAt,aopR,one,pre,binR,intOpR,argFrm,evo,lkp,hlk,lenOf,ofCells,AV.wr,AV.ok1,TK.agg,frz,frz1,frzA,subA,subB,sub1,Nat.reduceAdd,Nat.reduceEqDiff,Nat.reduceLT,Nat.reduceLeDiff,reduceCtorEq,eq_self,ne_eq]; all_goals ((repeat' apply And.intro) <;> first | rfl | omega | (show (_:Bool)=true; kernel_rfl) | decide)
     ·simp only [Tryz.f94,AL_all,sx_all,ht,and_self,h1,h2,h3,h4,h5,tks,wv,its,ms,Bool.false_and,Bool.and_false,decide_true,decide_false,tt_all,cv',cf_eta,shC_dec,dC,row1,iv,bv,u,ms,ctx_T,ctx_C,Option.bind_some,List.length_map,ev1,ev2,implies_true,undef,↓guardE_tt,↓guardE_ft,resB,cv,stepB,guardB,guardC,dstAt,aopR,one,pre,binR,intOpR,argFrm,evo,lkp,hlk,lenOf,ofCells,AV.wr,AV.ok1,TK.agg,frz,frz1,frzA,subA,subB,sub1,Nat.reduceAdd,Nat.reduceEqDiff,Nat.reduceLT,Nat.reduceLeDiff,reduceCtorEq,eq_self,ne_eq]; all_goals ((repeat' apply And.intro) <;> first | rfl | omega | (show (_:Bool)=true; kernel_rfl) | decide)
    ·simp only [Tryz.f94,AL_all,sx_all,ht,and_self,h1,h2,h3,h4,tks,wv,its,ms,Bool.false_and,Bool.and_false,decide_false,tt_all,cv',cf_eta,shC_dec,dC,row1,iv,bv,u,ms,ctx_T,ctx_C,Option.bind_some,List.length_map,ev1,ev2,undef,↓guardE_tt,↓guardE_ft,resB,cv,stepB,guardB,guardC,dstAt,aopR,one,pre,binR,intOpR,argFrm,evo,lkp,hlk,lenOf,ofCells,AV.wr,AV.ok1,TK.agg,frz,frz1,frzA,subA,subB,sub1,Nat.reduceAdd,Nat.reduceEqDiff,Nat.reduceLT,Nat.reduceLeDiff,reduceCtorEq,eq_self,ne_eq]; all_goals ((repeat' apply And.intro) <;> first | rfl | omega | (show (_:Bool)=true; kernel_rfl) | decide)
end Go.Vai

/- A worker's step: what it comes to. -/
namespace Go.Vai
open Go.RowKit Go.Proofs
set_option maxHeartbeats 4000000
set_option maxRecDepth 100000
def rowsAM:List Row:=[
 (144,row3 shN shI shI fun d s w=>if w≤1000 then some (iv (victim d s w)) else none),
 (94,row5 shC shT shM shI shWk fun c t m w x=>if tB t=true∧x.stack.length≤100000 then some (bv (wMay c t m w x)) else none)] ++ rowsAL
theorem rowsAM_ok:∀ p∈rowsAM,RowOk Tryz.prog p:=fun p h=>by
 simp only [rowsAM,List.mem_append,List.mem_cons,List.not_mem_nil,or_false,or_assoc] at h
 rcases h with rfl | rfl | h
 ·exact ok_row3 (enters_of Tryz.func144 (by decide) rfl) fun d s w r _ _ _ e=>by obtain ⟨h,rfl⟩:=opt_if e; exact victim_pure d s w h
 ·exact ok_row5 (enters_of Tryz.func94 (by decide) rfl) fun c t m w x r _ _ g _ _ e=>by obtain ⟨h,rfl⟩:=opt_if e; exact wmay_pure c t m w x h.1 (shM_got g) h.2
 ·exact rowsAL_ok p h
theorem okAM:(ctx Tryz.prog rowsAM).ok:=rows_ok rowsAM_ok
theorem AM_all:tabC rowsAM 144=(row3 shN shI shI fun d s w=>if w≤1000 then some (iv (victim d s w)) else none)∧tabC rowsAM 94=(row5 shC shT shM shI shWk fun c t m w x=>if tB t=true∧x.stack.length≤100000 then some (bv (wMay c t m w x)) else none)∧tabC rowsAM 102=(fun _=>none)∧tabC rowsAM 103=(fun _=>none)∧tabC rowsAM 104=(fun _=>none)∧tabC rowsAM 105=(fun _=>none)∧tabC rowsAM 106=(fun _=>none)∧tabC rowsAM 107=(fun _=>none)∧tabC rowsAM 108=(fun _=>none)∧tabC rowsAM 109=(fun _=>none)∧tabC rowsAM 110=(fun _=>none)∧tabC rowsAM 111=(fun _=>none)∧tabC rowsAM 112=(fun _=>none)∧tabC rowsAM 113=(fun _=>none)∧tabC rowsAM 114=(fun _=>none)∧tabC rowsAM 115=(fun _=>none)∧tabC rowsAM 116=(fun _=>none)∧tabC rowsAM 139=(fun _=>none)∧tabC rowsAM 140=(fun _=>none)∧tabC rowsAM 143=(fun _=>none)∧tabC rowsAM 141=(fun _=>none)∧tabC rowsAM 147=(fun _=>none)∧tabC rowsAM 142=(fun _=>none)∧tabC rowsAM 145=(row2 shT shX fun t s=>if tB t=true∧s.length≤100000 then some (acv (tNext t s)) else none)∧tabC rowsAM 146=(row2 shT shX fun t s=>if tB t=true∧s.length≤100000 then some (its (tDo t s)) else none)∧tabC rowsAM 157=(row3 shT shX shI fun t s k=>if tB t=true∧s.length≤100000 then some (its (tStart t s k)) else none)∧tabC rowsAM 35=(row1 shT fun t=>if tB t=true then some (bv (fMay t)) else none)∧tabC rowsAM 120=(row3 shC shM shF fun c m f=>if f.op≠7 then some (sv (evStep c m f)) else none)∧tabC rowsAM 62=(row1 shZs fun l=>if l.length≤100000 then some (zs l) else none)∧tabC rowsAM 82=(row1 shX fun l=>if l.length≤100000 then some (its l) else none)∧tabC rowsAM 191=(row1 shN fun e=>some (.tup [u (wBump e),iv (wLow (wMask e))]))∧tabC rowsAM 121=(row3 shC shM shF fun c m f=>some (sv (iStep c m f)))∧tabC rowsAM 190=(fun _=>none)∧tabC rowsAM 192=(fun _=>none)∧tabC rowsAM 30=(row1 shN fun e=>some (u (wMask e)))∧tabC rowsAM 156=(row3 shC shM shF fun c m f=>some (sv (dqStep c m f)))∧tabC rowsAM 79=(row1 shM fun m=>some (ms m))∧tabC rowsAM 12=(row2 shM shI fun m i=>some (u (mLoad m i)))∧tabC rowsAM 124=(row3 shM shI shN fun m i v=>some (.tup [ms (mAdd m i v),u (mLoad m i)]))∧tabC rowsAM 29=(row1 shC fun c=>some (iv (lSize c)))∧tabC rowsAM 71=(row2 shC shI fun c w=>some (iv (lTop c w)))∧tabC rowsAM 72=(row2 shC shI fun c w=>some (iv (lBottom c w)))∧tabC rowsAM 28=(row1 shC fun c=>some (bv (mayC c)))∧tabC rowsAM 70=(row2 shN shN fun a b=>some (iv (far a b)))∧tabC rowsAM 63=(row3 shI shI shN fun o w v=>some (fv (fBegin o w v)))∧tabC rowsAM 55=(row1 shF fun f=>some (bv (f.res != 0))):=⟨rfl,rfl,rfl,rfl,rfl,rfl,rfl,rfl,rfl,rfl,rfl,rfl,rfl,rfl,rfl,rfl,rfl,rfl,rfl,rfl,rfl,rfl,rfl,rfl,rfl,rfl,rfl,rfl,rfl,rfl,rfl,rfl,rfl,rfl,rfl,rfl,rfl,rfl,rfl,rfl,rfl,rfl,rfl,rfl,rfl,rfl⟩
abbrev WR:=List Int × Wk × List Ev
def wsv (r:WR):AV:=.tup [ms r.1,wv r.2.1,evs r.2.2]
def fr00:Fr:=⟨0,0,0,0,0,0,0⟩
def toW (x:Wk) (pc:Int):Wk:=⟨pc,x.stack,fr00,x.spins,x.look⟩
def withW (x:Wk) (pc op who val:Int):Wk:=⟨pc,x.stack,⟨op,0,who,val,0,0,0⟩,x.spins,x.look⟩
def atF (x:Wk) (f:Fr):Wk:=⟨x.pc,x.stack,f,x.spins,x.look⟩
def less:Int:=18446744073709551615
def stW (t:List Tk) (w:Int) (m:List Int) (x:Wk) (v:Int):WR:=(m,⟨x.pc,tStart t x.stack (IntKind.wrap .i64 v),x.f,x.spins,x.look⟩,[⟨2,IntKind.wrap .i64 v,w⟩])
structure WIn (c:Cf) (t:List Tk) (m:List Int) (w:Int) (x:Wk):Prop where
 bt:tB t=true
 bm:m.length≤1000
 bs:x.stack.length≤100000
 may:wMay c t m w x=true
theorem wmay_in {c:Cf} {t:List Tk} {m:List Int} {w:Int} {x:Wk} (h:wMay c t m w x=true):0≤w∧w < c.w∧(1≤c.w∧c.w≤8∧c.w≤1000):=by
 simp only [wMay,Bool.and_eq_true,decide_eq_true_eq] at h
 have:=mayC_iff.1 h.1.1.1.1.1.1.1
 omega
theorem tNext_kind (t:List Tk) (s:List It):(tNext t s).1=0∨(tNext t s).1=1∨(tNext t s).1=2∨(tNext t s).1=3:=by
 unfold tNext
 repeat' split
 all_goals simp
theorem len_add (m:List Int) (i v:Int):(mAdd m i v).length=m.length:=len_store ..
theorem hfq_x (l:List It):HFree (.lst 3 (l.map xv))=True:=eq_true (hf_its l)
theorem hfq_z (l:List Int):HFree (.lst 1 (l.map iv))=True:=eq_true (hf_zs l)
theorem hfe1 (a b c:Int):(∀ x∈[AV.agg [.v (.int .i64 a),.v (.int .i64 b),.v (.int .i64 c)]],∀ c∈x.cells,HFree c)=True:=by
 have:=hfc_e [⟨a,b,c⟩]
 exact this
theorem hfe2 (a b c a' b' c':Int):(∀ x∈[AV.agg [.v (.int .i64 a),.v (.int .i64 b),.v (.int .i64 c)],AV.agg [.v (.int .i64 a'),.v (.int .i64 b'),.v (.int .i64 c')]],∀ c∈x.cells,HFree c)=True:=by
 have:=hfc_e [⟨a,b,c⟩,⟨a',b',c'⟩]
 exact this
theorem hfe3 (x:AV):([x]:List AV).take 1=[x]:=rfl
theorem hfe4 (x y:AV):([x,y]:List AV).take 2=[x,y]:=rfl
def wq0 (c:Cf) (t:List Tk) (m:List Int) (w:Int) (x:Wk) (d:Int):WR:=
 let r:=dqStep c m x.f
 if r.2.res=0 then (r.1,atF x r.2,[]) else if r.2.res=1 then stW t w r.1 (toW x 9) r.2.val else (r.1,toW x 1,[])
def wq1 (c:Cf) (t:List Tk) (m:List Int) (w:Int) (x:Wk) (d:Int):WR:=(mAdd m 1 1,⟨2,x.stack,⟨4,0,w,0,0,0,0⟩,c.spin,x.look⟩,[])
def wq2 (c:Cf) (t:List Tk) (m:List Int) (w:Int) (x:Wk) (d:Int):WR:=
 let r:=iStep c m x.f
 if r.2.res=0 then (r.1,atF x r.2,[]) else if r.2.res=1 then (r.1,⟨4,x.stack,r.2,x.spins,x.look⟩,[])
 else if 0≤victim d w c.w then (r.1,withW x 3 2 (victim d w c.w) 0,[])
 else if x.spins≤0 then (r.1,withW x 5 5 w 0,[]) else (r.1,⟨2,x.stack,⟨4,0,w,0,0,0,0⟩,IntKind.wrap .i64 (x.spins - 1),x.look⟩,[])
def wq3 (c:Cf) (t:List Tk) (m:List Int) (w:Int) (x:Wk) (d:Int):WR:=
 let r:=dqStep c m x.f
 if r.2.res=0 then (r.1,atF x r.2,[]) else if r.2.res=1 then (r.1,⟨4,x.stack,r.2,x.spins,x.look⟩,[])
 else if x.spins≤0 then (r.1,withW x 5 5 w 0,[]) else (r.1,⟨2,x.stack,⟨4,0,w,0,0,0,0⟩,IntKind.wrap .i64 (x.spins - 1),x.look⟩,[])
def wq4 (c:Cf) (t:List Tk) (m:List Int) (w:Int) (x:Wk) (d:Int):WR:=
 if mLoad m 1=1 then stW t w (mAdd m 1 less) (withW x 14 6 w 0) x.f.val else stW t w (mAdd m 1 less) (toW x 9) x.f.val
def wq5 (c:Cf) (t:List Tk) (m:List Int) (w:Int) (x:Wk) (d:Int):WR:=
 let r:=evStep c m x.f
 (r.1,⟨6,x.stack,r.2,x.spins,x.look⟩,[])
def wq6 (c:Cf) (t:List Tk) (m:List Int) (w:Int) (x:Wk) (d:Int):WR:=(mAdd m 1 less,⟨7,x.stack,x.f,x.spins,0⟩,[])
def fVal (f:Fr) (v:Int):Fr:=⟨f.op,f.pc,f.who,v,f.x,f.y,f.res⟩
def againW (c:Cf) (m:List Int) (k v:Int):Int × Bool:=
 if k=0 then (mLoad m 4,false)
 else if k=1 then (v,mLoad m 5 != v)
 else if k.tmod 2=0 then (mLoad m (lTop c ((k - 2).tdiv 2)),false)
 else (v,decide (far (mLoad m (lBottom c ((k - 2).tdiv 2))) v > 0))
def wq7 (c:Cf) (t:List Tk) (m:List Int) (w:Int) (x:Wk) (d:Int):WR:=
 if x.look < 0∨x.look ≥ 2 + 2 * c.w then (m,⟨8,x.stack,fVal x.f 0,x.spins,0⟩,[])
 else if (againW c m x.look x.f.val).2=true then (m,toW x 1,[])
 else if x.look + 1=2 + 2 * c.w then (m,⟨8,x.stack,fVal x.f 0,x.spins,0⟩,[])
 else (m,⟨7,x.stack,fVal x.f (againW c m x.look x.f.val).1,x.spins,x.look + 1⟩,[])
def wq8 (c:Cf) (t:List Tk) (m:List Int) (w:Int) (x:Wk) (d:Int):WR:=
 let r:=evStep c m x.f
 if r.2.res=0 then (r.1,atF x r.2,[]) else (r.1,toW x 1,[])
def wq9 (c:Cf) (t:List Tk) (m:List Int) (w:Int) (x:Wk) (d:Int):WR:=
 let a:=tNext t x.stack
 if a.1=1 then (m,⟨9,tDo t x.stack,x.f,x.spins,x.look⟩,[]) else if a.1=2 then (m,⟨10,x.stack,x.f,x.spins,x.look⟩,[])
 else if a.1=3 then (m,⟨15,x.stack,x.f,x.spins,x.look⟩,[]) else (m,withW x 0 1 w 0,[])
def wq10 (c:Cf) (t:List Tk) (m:List Int) (w:Int) (x:Wk) (d:Int):WR:=
 let a:=tNext t x.stack
 if a.1=2 then (mAdd m 0 1,⟨11,tDo t x.stack,⟨0,0,w,wrapU a.2,0,0,0⟩,x.spins,x.look⟩,[⟨3,a.2,w⟩]) else (m,toW x 9,[])
def wq11 (c:Cf) (t:List Tk) (m:List Int) (w:Int) (x:Wk) (d:Int):WR:=
 let r:=dqStep c m x.f
 if r.2.res=0 then (r.1,atF x r.2,[]) else if r.2.res=2 then (r.1,withW x 12 3 w r.2.val,[]) else (r.1,toW x 13,[])
def wq12 (c:Cf) (t:List Tk) (m:List Int) (w:Int) (x:Wk) (d:Int):WR:=
 let r:=iStep c m x.f
 if r.2.res=0 then (r.1,atF x r.2,[]) else if r.2.res=2 then stW t w r.1 (toW x 9) r.2.val else (r.1,toW x 13,[])
def wq13 (c:Cf) (t:List Tk) (m:List Int) (w:Int) (x:Wk) (d:Int):WR:=if mLoad m 1=0 then (m,withW x 14 6 w 0,[]) else (m,toW x 9,[])
def wq14 (c:Cf) (t:List Tk) (m:List Int) (w:Int) (x:Wk) (d:Int):WR:=
 let r:=evStep c m x.f
 if r.2.res=0 then (r.1,atF x r.2,[]) else (r.1,toW x 9,[])
def wq15 (c:Cf) (t:List Tk) (m:List Int) (w:Int) (x:Wk) (d:Int):WR:=
 let a:=tNext t x.stack
 if a.1=3 then
  (if tDo t x.stack=[] then (mAdd m 0 less,⟨0,tDo t x.stack,⟨1,0,w,0,0,0,0⟩,x.spins,x.look⟩,[⟨4,a.2,w⟩] ++ (if (mLoad m 0 == 1)=true then [⟨5,0,w⟩] else []))
  else (mAdd m 0 less,⟨9,tDo t x.stack,fr00,x.spins,x.look⟩,[⟨4,a.2,w⟩] ++ (if (mLoad m 0 == 1)=true then [⟨5,0,w⟩] else [])))
 else (m,toW x 9,[])
end Go.Vai

/- A submitter. -/
namespace Go.Vai
open Go.RowKit Go.Proofs
set_option maxHeartbeats 4000000
set_option maxRecDepth 100000
def sMay (c:Cf) (t:List Tk) (m:List Int) (x:Sb):Bool:=
 mayC c && ((m.length:Int) == lSize c) && fMay t && decide (x.pc ≥ 0) && decide (x.pc < 6) && decide ((x.roots.length:Int) > 0) && decide (x.roots.getD 0 0 ≥ 0) && decide (x.roots.getD 0 0 < t.length)
theorem smay_pure (c:Cf) (t:List Tk) (m:List Int) (x:Sb) (ht:tB t=true) (hm:m.length≤1000):PureC Tryz.prog 87 [cv' c,tks t,ms m,sbv x] (bv (sMay c t m x)):=by
 refine pure_sub okAM 1 Tryz.func87 rfl (by show 4≤_; decide) ?_
 unfold sMay
 cases h1:mayC c with
 | false=>simp only [Tryz.f87,AM_all,h1,tks,sbv,zs,ms,Bool.false_and,tt_all,cv',cf_eta,shC_dec,dC,row1,iv,bv,u,ms,ctx_T,ctx_C,Option.bind_some,ev1,ev2,undef,↓guardE_ft,resB,cv,stepB,guardB,guardC,dstAt,aopR,one,pre,argFrm,evo,lkp,hlk,ofCells,AV.wr,AV.ok1,TK.agg,frz,frz1,frzA,subA,subB,sub1,Nat.reduceAdd,Nat.reduceEqDiff,Nat.reduceLT,Nat.reduceLeDiff,reduceCtorEq,eq_self,ne_eq]; all_goals ((repeat' apply And.intro) <;> first | rfl | omega | (show (_:Bool)=true; kernel_rfl) | decide)
 | true=>
  cases h2:(m.length:Int) == lSize c with
  | false=>simp only [Tryz.f87,AM_all,h1,h2,tks,sbv,zs,ms,List.length_map,Bool.false_and,Bool.and_false,tt_all,cv',cf_eta,shC_dec,dC,row1,iv,bv,u,ms,ctx_T,ctx_C,Option.bind_some,List.length_map,ev1,ev2,undef,↓guardE_tt,↓guardE_ft,resB,cv,stepB,guardB,guardC,dstAt,aopR,one,pre,binR,intOpR,argFrm,evo,lkp,hlk,lenOf,ofCells,AV.wr,AV.ok1,TK.agg,frz,frz1,frzA,subA,subB,sub1,Nat.reduceAdd,Nat.reduceEqDiff,Nat.reduceLT,Nat.reduceLeDiff,reduceCtorEq,eq_self,ne_eq]; all_goals ((repeat' apply And.intro) <;> first | rfl | omega | (show (_:Bool)=true; kernel_rfl) | decide)
  | true=>
   cases h3:fMay t with
   | false=>simp only [Tryz.f87,AM_all,sx_all,ht,h1,h2,h3,tks,sbv,zs,ms,List.length_map,Bool.false_and,Bool.and_false,tt_all,cv',cf_eta,shC_dec,dC,row1,iv,bv,u,ms,ctx_T,ctx_C,Option.bind_some,List.length_map,ev1,ev2,undef,↓guardE_tt,↓guardE_ft,resB,cv,stepB,guardB,guardC,dstAt,aopR,one,pre,binR,intOpR,argFrm,evo,lkp,hlk,lenOf,ofCells,AV.wr,AV.ok1,TK.agg,frz,frz1,frzA,subA,subB,sub1,Nat.reduceAdd,Nat.reduceEqDiff,Nat.reduceLT,Nat.reduceLeDiff,reduceCtorEq,eq_self,ne_eq]; all_goals ((repeat' apply And.intro) <;> first | rfl | omega | (show (_:Bool)=true; kernel_rfl) | decide)
   | true=>
    by_cases h4:x.pc ≥ 0
    ·by_cases h5:x.pc < 6
     ·by_cases h6:(x.roots.length:Int) > 0
      ·have hg:=getD_z (l:=x.roots) (k:=0) (by omega)
       have h6':(0:Int) < x.roots.length:=h6
       by_cases h7:x.roots.getD 0 0 ≥ 0
       ·by_cases h8:x.roots.getD 0 0 < t.length
        ·simp only [Tryz.f87,AM_all,sx_all,ht,h1,h2,h3,h4,h5,h6,h7,h8,hg,tks,sbv,zs,ms,List.length_map,decide_true,tt_all,cv',cf_eta,shC_dec,dC,row1,iv,bv,u,ms,ctx_T,ctx_C,Option.bind_some,List.length_map,ev1,ev2,implies_true,undef,↓guardE_tt,resB,cv,stepB,guardB,guardC,dstAt,aopR,one,pre,binR,intOpR,argFrm,evo,lkp,hlk,lenOf,ofCells,AV.wr,AV.ok1,TK.agg,frz,frz1,frzA,subA,subB,sub1,Nat.reduceAdd,Nat.reduceEqDiff,Nat.reduceLT,Nat.reduceLeDiff,reduceCtorEq,eq_self,ne_eq,Int.reduceLE]; all_goals ((repeat' apply And.intro) <;> first | rfl | omega | (show (_:Bool)=true; kernel_rfl) | decide)
        ·simp only [Tryz.f87,AM_all,sx_all,ht,h1,h2,h3,h4,h5,h6,h7,h8,hg,tks,sbv,zs,ms,List.length_map,Bool.and_false,decide_true,decide_false,tt_all,cv',cf_eta,shC_dec,dC,row1,iv,bv,u,ms,ctx_T,ctx_C,Option.bind_some,List.length_map,ev1,ev2,implies_true,undef,↓guardE_tt,resB,cv,stepB,guardB,guardC,dstAt,aopR,one,pre,binR,intOpR,argFrm,evo,lkp,hlk,lenOf,ofCells,AV.wr,AV.ok1,TK.agg,frz,frz1,frzA,subA,subB,sub1,Nat.reduceAdd,Nat.reduceEqDiff,Nat.reduceLT,Nat.reduceLeDiff,reduceCtorEq,eq_self,ne_eq,Int.reduceLE]; all_goals ((repeat' apply And.intro) <;> first | rfl | omega | (show (_:Bool)=true; kernel_rfl) | decide)
       ·simp only [Tryz.f87,AM_all,sx_all,ht,h1,h2,h3,h4,h5,h6,h7,hg,tks,sbv,zs,ms,List.length_map,Bool.false_and,Bool.and_false,decide_true,decide_false,tt_all,cv',cf_eta,shC_dec,dC,row1,iv,bv,u,ms,ctx_T,ctx_C,Option.bind_some,List.length_map,ev1,ev2,implies_true,undef,↓guardE_tt,↓guardE_ft,resB,cv,stepB,guardB,guardC,dstAt,aopR,one,pre,binR,intOpR,argFrm,evo,lkp,hlk,lenOf,ofCells,AV.wr,AV.ok1,TK.agg,frz,frz1,frzA,subA,subB,sub1,Nat.reduceAdd,Nat.reduceEqDiff,Nat.reduceLT,Nat.reduceLeDiff,reduceCtorEq,eq_self,ne_eq,Int.reduceLE]; all_goals ((repeat' apply And.intro) <;> first | rfl | omega | (show (_:Bool)=true; kernel_rfl) | decide)
      ·simp only [Tryz.f87,AM_all,sx_all,ht,h1,h2,h3,h4,h5,h6,tks,sbv,zs,ms,List.length_map,Bool.false_and,Bool.and_false,decide_true,decide_false,tt_all,cv',cf_eta,shC_dec,dC,row1,iv,bv,u,ms,ctx_T,ctx_C,Option.bind_some,List.length_map,ev1,ev2,implies_true,undef,↓guardE_tt,↓guardE_ft,resB,cv,stepB,guardB,guardC,dstAt,aopR,one,pre,binR,intOpR,argFrm,evo,lkp,hlk,lenOf,ofCells,AV.wr,AV.ok1,TK.agg,frz,frz1,frzA,subA,subB,sub1,Nat.reduceAdd,Nat.reduceEqDiff,Nat.reduceLT,Nat.reduceLeDiff,reduceCtorEq,eq_self,ne_eq]; all_goals ((repeat' apply And.intro) <;> first | rfl | omega | (show (_:Bool)=true; kernel_rfl) | decide)
     ·simp only [Tryz.f87,AM_all,sx_all,ht,h1,h2,h3,h4,h5,tks,sbv,zs,ms,List.length_map,Bool.false_and,Bool.and_false,decide_true,decide_false,tt_all,cv',cf_eta,shC_dec,dC,row1,iv,bv,u,ms,ctx_T,ctx_C,Option.bind_some,List.length_map,ev1,ev2,implies_true,undef,↓guardE_tt,↓guardE_ft,resB,cv,stepB,guardB,guardC,dstAt,aopR,one,pre,binR,intOpR,argFrm,evo,lkp,hlk,lenOf,ofCells,AV.wr,AV.ok1,TK.agg,frz,frz1,frzA,subA,subB,sub1,Nat.reduceAdd,Nat.reduceEqDiff,Nat.reduceLT,Nat.reduceLeDiff,reduceCtorEq,eq_self,ne_eq]; all_goals ((repeat' apply And.intro) <;> first | rfl | omega | (show (_:Bool)=true; kernel_rfl) | decide)
    ·simp only [Tryz.f87,AM_all,sx_all,ht,h1,h2,h3,h4,tks,sbv,zs,ms,List.length_map,Bool.false_and,Bool.and_false,decide_false,tt_all,cv',cf_eta,shC_dec,dC,row1,iv,bv,u,ms,ctx_T,ctx_C,Option.bind_some,List.length_map,ev1,ev2,implies_true,undef,↓guardE_tt,↓guardE_ft,resB,cv,stepB,guardB,guardC,dstAt,aopR,one,pre,binR,intOpR,argFrm,evo,lkp,hlk,lenOf,ofCells,AV.wr,AV.ok1,TK.agg,frz,frz1,frzA,subA,subB,sub1,Nat.reduceAdd,Nat.reduceEqDiff,Nat.reduceLT,Nat.reduceLeDiff,reduceCtorEq,eq_self,ne_eq]; all_goals ((repeat' apply And.intro) <;> first | rfl | omega | (show (_:Bool)=true; kernel_rfl) | decide)
def rowsAN:List Row:=[
 (87,row4 shC shT shM shSb fun c t m x=>if tB t=true then some (bv (sMay c t m x)) else none)] ++ rowsAM
theorem rowsAN_ok:∀ p∈rowsAN,RowOk Tryz.prog p:=fun p h=>by
 simp only [rowsAN,List.mem_append,List.mem_cons,List.not_mem_nil,or_false] at h
 rcases h with rfl | h
 ·exact ok_row4 (enters_of Tryz.func87 (by decide) rfl) fun c t m x r _ _ g _ e=>by obtain ⟨h,rfl⟩:=opt_if e; exact smay_pure c t m x h (shM_got g)
 ·exact rowsAM_ok p h
theorem okAN:(ctx Tryz.prog rowsAN).ok:=rows_ok rowsAN_ok
theorem AN_all:tabC rowsAN 87=(row4 shC shT shM shSb fun c t m x=>if tB t=true then some (bv (sMay c t m x)) else none)∧tabC rowsAN 117=(fun _=>none)∧tabC rowsAN 118=(fun _=>none)∧tabC rowsAN 119=(fun _=>none)∧tabC rowsAN 122=(fun _=>none)∧tabC rowsAN 123=(fun _=>none)∧tabC rowsAN 125=(fun _=>none)∧tabC rowsAN 126=(fun _=>none)∧tabC rowsAN 127=(fun _=>none)∧tabC rowsAN 128=(fun _=>none)∧tabC rowsAN 35=(row1 shT fun t=>if tB t=true then some (bv (fMay t)) else none)∧tabC rowsAN 120=(row3 shC shM shF fun c m f=>if f.op≠7 then some (sv (evStep c m f)) else none)∧tabC rowsAN 62=(row1 shZs fun l=>if l.length≤100000 then some (zs l) else none)∧tabC rowsAN 191=(row1 shN fun e=>some (.tup [u (wBump e),iv (wLow (wMask e))]))∧tabC rowsAN 121=(row3 shC shM shF fun c m f=>some (sv (iStep c m f)))∧tabC rowsAN 190=(fun _=>none)∧tabC rowsAN 192=(fun _=>none)∧tabC rowsAN 30=(row1 shN fun e=>some (u (wMask e)))∧tabC rowsAN 79=(row1 shM fun m=>some (ms m))∧tabC rowsAN 12=(row2 shM shI fun m i=>some (u (mLoad m i)))∧tabC rowsAN 124=(row3 shM shI shN fun m i v=>some (.tup [ms (mAdd m i v),u (mLoad m i)]))∧tabC rowsAN 29=(row1 shC fun c=>some (iv (lSize c)))∧tabC rowsAN 28=(row1 shC fun c=>some (bv (mayC c)))∧tabC rowsAN 63=(row3 shI shI shN fun o w v=>some (fv (fBegin o w v)))∧tabC rowsAN 55=(row1 shF fun f=>some (bv (f.res != 0))):=⟨rfl,rfl,rfl,rfl,rfl,rfl,rfl,rfl,rfl,rfl,rfl,rfl,rfl,rfl,rfl,rfl,rfl,rfl,rfl,rfl,rfl,rfl,rfl,rfl,rfl⟩
abbrev SR:=List Int × Sb × List Ev
def ssv (r:SR):AV:=.tup [ms r.1,sbv r.2.1,evs r.2.2]
def doneS (x:Sb):Sb:=⟨0,x.roots.drop 1,fr00⟩
def sq0 (c:Cf) (m:List Int) (i:Int) (x:Sb):SR:=if mLoad m 3=0 then (m,⟨1,x.roots,x.f⟩,[]) else (m,doneS x,[⟨1,x.roots.getD 0 0,i⟩])
def sq1 (c:Cf) (m:List Int) (i:Int) (x:Sb):SR:=(mAdd m 0 1,⟨2,x.roots,⟨3,0,i,wrapU (x.roots.getD 0 0),0,0,0⟩⟩,[])
def sq2 (c:Cf) (m:List Int) (i:Int) (x:Sb):SR:=
 let r:=iStep c m x.f
 if r.2.res=0 then (r.1,⟨2,x.roots,r.2⟩,[]) else if r.2.res=2 then (r.1,⟨5,x.roots,r.2⟩,[]) else (r.1,⟨3,x.roots,r.2⟩,[⟨0,x.roots.getD 0 0,i⟩])
def sq3 (c:Cf) (m:List Int) (i:Int) (x:Sb):SR:=if mLoad m 1=0 then (m,⟨4,x.roots,⟨6,0,i,0,0,0,0⟩⟩,[]) else (m,doneS x,[])
def sq4 (c:Cf) (m:List Int) (i:Int) (x:Sb):SR:=
 let r:=evStep c m x.f
 if r.2.res=0 then (r.1,⟨4,x.roots,r.2⟩,[]) else (r.1,doneS x,[])
def sq5 (c:Cf) (m:List Int) (i:Int) (x:Sb):SR:=(mAdd m 0 less,doneS x,[⟨1,x.roots.getD 0 0,i⟩] ++ (if (mLoad m 0 == 1)=true then [⟨5,0,i⟩] else []))
structure SIn (c:Cf) (t:List Tk) (m:List Int) (x:Sb):Prop where
 bt:tB t=true
 bm:m.length≤1000
 bs:x.roots.length≤100000
 may:sMay c t m x=true
theorem smay_in {c:Cf} {t:List Tk} {m:List Int} {x:Sb} (h:sMay c t m x=true):0 < x.roots.length∧0≤x.pc∧x.pc < 6:=by
 simp only [sMay,Bool.and_eq_true,decide_eq_true_eq] at h
 omega
theorem sbstep0 (c:Cf) (t:List Tk) (m:List Int) (i:Int) (rt:List Int) (op p who val fx fy res:Int) (h:SIn c t m ⟨0,rt,⟨op,p,who,val,fx,fy,res⟩⟩) :
  PureC Tryz.prog 88 [cv' c,tks t,ms m,iv i,sbv ⟨0,rt,⟨op,p,who,val,fx,fy,res⟩⟩] (ssv (sq0 c m i ⟨0,rt,⟨op,p,who,val,fx,fy,res⟩⟩)):=by
 refine pure_sub okAN 5 Tryz.func88 rfl (by show 5≤_; decide) ?_
 obtain ⟨ht,hm,hrl,hmay⟩:=h
 have hr0:=(smay_in hmay).1
 dsimp only at hrl hr0
 have hu:∀ x,IntKind.wrap .u64 x=wrapU x:=fun _=>rfl
 have hg:=getD_z hr0
 have h6:(0:Int) < rt.length:=by omega
 have hl1:(1:Int)≤rt.length:=by omega
 have hd1:((rt.map iv).drop 1).take (rt.length - 1)=(rt.drop 1).map iv:=by rw [← List.map_drop]; exact List.take_of_length_le (by simp)
 unfold sq0
 try dsimp only
 have hm1:=hm
 by_cases a0:mLoad m 3=0
 ·have a0':(mLoad m 3 != 0)=false:=by simpa using a0
  rw [if_pos a0]
  simp only [Tryz.f88,Tryz.func122,Tryz.f122,a0',inl,AN_all,sx_all,rf1,ht,hm,hrl,and_self,hmay,hg,h6,tks,sbv,zs,ms,evs,ssv,List.map_cons,List.map_nil,List.length_map,hfq_z,tt_all,cv',cf_eta,shC_dec,dC,hfree_lu,row1,row2,row4,shI_dec,shM_dec,dI,dM,dU_map,iv,bv,u,ms,ctx_T,ctx_C,ctx_P,Option.bind_some,Option.map_some,List.length_map,String.reduceBEq,Int.cast_ofNat_Int,ev1,ev2,implies_true,undef,dynCall,↓condE_f,frzDeep,deepArgs,deepArg,resB,cv,stepB,stepE,callD,tabD,aopR,one,pre,binR,intOpR,unR,argFrm,evo,lkp,hlk,ofVal,ofCells,setCells,fillA,AV.wr,AV.ok1,TK.agg,frz,frz1,frzt,frzs,frzA,frzArg,frzArgs,subA,subB,subM,subL,sub1,accOf,Nat.reduceAdd,Nat.reduceMul,Nat.reduceEqDiff,Nat.reduceLT,Nat.reduceLeDiff,reduceCtorEq,eq_self,ne_eq,Int.reduceLT,Int.reduceLE]
  all_goals ((repeat' apply And.intro) <;> first | rfl | omega | (show (_:Bool)=true; kernel_rfl) | decide)
 ·have a0':(mLoad m 3 != 0)=true:=by simpa using a0
  rw [if_neg a0]
  simp only [Tryz.f88,Tryz.func122,Tryz.f122,Tryz.func117,Tryz.f117,Tryz.func118,Tryz.f118,a0',inl,AN_all,sx_all,rf1,ht,hm,hrl,and_self,hmay,hg,h6,hd1,hl1,tks,sbv,zs,ms,evs,ssv,doneS,fr00,ev',List.map_cons,List.map_nil,List.length_map,hfq_z,hfe1,tt_all,cv',cf_eta,shC_dec,dC,hfree_lu,row1,row2,row4,shI_dec,shM_dec,dI,dM,dU_map,iv,bv,u,ms,ctx_T,ctx_C,ctx_P,Option.bind_some,Option.map_some,List.length_map,String.reduceBEq,Int.toNat_natCast,Int.cast_ofNat_Int,ev1,ev2,implies_true,undef,dynCall,↓condE_t,↓condE_f,frzDeep,deepArgs,deepArg,resB,cv,stepB,stepE,callD,tabD,aopR,one,pre,binR,intOpR,unR,argFrm,evo,lkp,hlk,lenOf,asLst,idOf,bndA,srcOk,ofVal,ofCells,setCells,fillA,setElems,AV.wr,AV.ok1,TK.agg,frz,frz1,frzt,frzs,frzA,frzArg,frzArgs,subA,subB,subM,subL,sub1,accOf,List.replicate,Nat.reduceAdd,Nat.reduceMul,Nat.reduceEqDiff,Nat.reduceLT,Nat.reduceLeDiff,reduceCtorEq,eq_self,ne_eq,Int.reduceToNat,Int.reduceLT,Int.reduceLE]
  all_goals ((repeat' apply And.intro) <;> first | rfl | omega | (show (_:Bool)=true; kernel_rfl) | decide)
theorem sbstep1 (c:Cf) (t:List Tk) (m:List Int) (i:Int) (rt:List Int) (op p who val fx fy res:Int) (h:SIn c t m ⟨1,rt,⟨op,p,who,val,fx,fy,res⟩⟩) :
  PureC Tryz.prog 88 [cv' c,tks t,ms m,iv i,sbv ⟨1,rt,⟨op,p,who,val,fx,fy,res⟩⟩] (ssv (sq1 c m i ⟨1,rt,⟨op,p,who,val,fx,fy,res⟩⟩)):=by
 refine pure_sub okAN 5 Tryz.func88 rfl (by show 5≤_; decide) ?_
 obtain ⟨ht,hm,hrl,hmay⟩:=h
 have hr0:=(smay_in hmay).1
 dsimp only at hrl hr0
 have hu:∀ x,IntKind.wrap .u64 x=wrapU x:=fun _=>rfl
 have hg:=getD_z hr0
 have h6:(0:Int) < rt.length:=by omega
 have hl1:(1:Int)≤rt.length:=by omega
 have hd1:((rt.map iv).drop 1).take (rt.length - 1)=(rt.drop 1).map iv:=by rw [← List.map_drop]; exact List.take_of_length_le (by simp)
 unfold sq1
 try dsimp only
 have hm1:=hm
 simp only [Tryz.f88,Tryz.func123,Tryz.f123,hu,inl,AN_all,sx_all,rf1,ht,hm,hrl,and_self,hmay,hg,h6,tks,sbv,zs,ms,evs,ssv,fv,fBegin,List.map_cons,List.map_nil,List.length_map,hfq_z,tt_all,cv',cf_eta,shC_dec,dC,hfree_lu,row1,row3,row4,shI_dec,shN_dec,shM_dec,dI,dN,dM,dU_map,iv,bv,u,ms,ctx_T,ctx_C,ctx_P,Option.bind_some,Option.map_some,List.length_map,String.reduceBEq,Int.cast_ofNat_Int,ev1,ev2,implies_true,undef,dynCall,↓condE_f,frzDeep,deepArgs,deepArg,resB,cv,stepB,stepE,callD,tabD,aopR,one,pre,unR,argFrm,evo,lkp,hlk,ofVal,ofCells,setCells,fillA,AV.wr,AV.ok1,TK.agg,frz,frz1,frzt,frzs,frzA,frzArg,frzArgs,subA,subB,subM,subL,sub1,accOf,Nat.reduceAdd,Nat.reduceMul,Nat.reduceEqDiff,Nat.reduceLT,Nat.reduceLeDiff,reduceCtorEq,eq_self,ne_eq,Int.reduceToNat,Int.reduceLT,Int.reduceLE]
 all_goals ((repeat' apply And.intro) <;> first | rfl | omega | (show (_:Bool)=true; kernel_rfl) | decide)
theorem sbstep2 (c:Cf) (t:List Tk) (m:List Int) (i:Int) (rt:List Int) (p who val fx fy res:Int) (h:SIn c t m ⟨2,rt,⟨3,p,who,val,fx,fy,res⟩⟩) :
  PureC Tryz.prog 88 [cv' c,tks t,ms m,iv i,sbv ⟨2,rt,⟨3,p,who,val,fx,fy,res⟩⟩] (ssv (sq2 c m i ⟨2,rt,⟨3,p,who,val,fx,fy,res⟩⟩)):=by
 refine pure_sub okAN 5 Tryz.func88 rfl (by show 5≤_; decide) ?_
 obtain ⟨ht,hm,hrl,hmay⟩:=h
 have hr0:=(smay_in hmay).1
 dsimp only at hrl hr0
 have hu:∀ x,IntKind.wrap .u64 x=wrapU x:=fun _=>rfl
 have hg:=getD_z hr0
 have h6:(0:Int) < rt.length:=by omega
 have hl1:(1:Int)≤rt.length:=by omega
 have hd1:((rt.map iv).drop 1).take (rt.length - 1)=(rt.drop 1).map iv:=by rw [← List.map_drop]; exact List.take_of_length_le (by simp)
 unfold sq2
 try dsimp only
 have hl:=len_iStep c m ⟨3,p,who,val,fx,fy,res⟩
 obtain ⟨m1,f1,e1⟩:∃ a b,iStep c m ⟨3,p,who,val,fx,fy,res⟩=(a,b):=⟨_,_,rfl⟩
 rw [e1] at hl ⊢
 dsimp only at hl ⊢
 have hm1:m1.length≤1000:=by omega
 by_cases r0:f1.res=0
 ·have r0':(f1.res != 0)=false:=by simpa using r0
  rw [if_pos r0]
  simp only [Tryz.f88,Tryz.func125,Tryz.f125,Tryz.func119,Tryz.f119,e1,r0,inl,AN_all,sx_all,rf1,ht,hm,hrl,and_self,hmay,hg,h6,tks,sbv,zs,ms,evs,ssv,sv,fv,List.map_cons,List.map_nil,List.length_map,hfq_z,tt_all,cv',cf_eta,shC_dec,dC,hfree_lu,row1,row3,row4,shM_dec,dM,dU_map,iv,bv,u,ms,ctx_T,ctx_C,ctx_P,Option.bind_some,Option.map_some,List.length_map,String.reduceBEq,shF_dec,dF,Int.cast_ofNat_Int,ev1,ev2,implies_true,undef,dynCall,↓condE_t,↓condE_f,↓guardE_tf,frzDeep,deepArgs,deepArg,resB,cv,stepB,stepE,callD,tabD,guardB,guardC,dstAt,aopR,one,pre,binR,intOpR,unR,argFrm,evo,lkp,hlk,ofVal,ofCells,setCells,fillA,AV.wr,AV.ok1,TK.agg,frz,frz1,frzt,frzs,frzA,frzArg,frzArgs,subA,subB,subM,subL,sub1,accOf,Nat.reduceAdd,Nat.reduceMul,Nat.reduceEqDiff,Nat.reduceLT,Nat.reduceLeDiff,reduceCtorEq,eq_self,ne_eq,Int.reduceToNat,Int.reduceLT,Int.reduceLE,Int.reduceBNe]
  all_goals ((repeat' apply And.intro) <;> first | rfl | omega | (show (_:Bool)=true; kernel_rfl) | decide)
 ·have r0':(f1.res != 0)=true:=by simpa using r0
  rw [if_neg r0]
  by_cases r1:f1.res=2
  ·have r1':(f1.res != 2)=false:=by simpa using r1
   rw [if_pos r1]
   simp only [Tryz.f88,Tryz.func125,Tryz.f125,Tryz.func119,Tryz.f119,e1,r0',r1',inl,AN_all,sx_all,rf1,ht,hm,hrl,and_self,hmay,hg,h6,tks,sbv,zs,ms,evs,ssv,sv,fv,List.map_cons,List.map_nil,List.length_map,hfq_z,tt_all,cv',cf_eta,shC_dec,dC,hfree_lu,row1,row3,row4,shM_dec,dM,dU_map,iv,bv,u,ms,ctx_T,ctx_C,ctx_P,Option.bind_some,Option.map_some,List.length_map,String.reduceBEq,shF_dec,dF,Int.cast_ofNat_Int,ev1,ev2,implies_true,undef,dynCall,↓condE_t,↓condE_f,↓guardE_tf,frzDeep,deepArgs,deepArg,resB,cv,stepB,stepE,callD,tabD,guardB,guardC,dstAt,aopR,one,pre,binR,intOpR,unR,argFrm,evo,lkp,hlk,ofVal,ofCells,setCells,fillA,AV.wr,AV.ok1,TK.agg,frz,frz1,frzt,frzs,frzA,frzArg,frzArgs,subA,subB,subM,subL,sub1,accOf,Nat.reduceAdd,Nat.reduceMul,Nat.reduceEqDiff,Nat.reduceLT,Nat.reduceLeDiff,reduceCtorEq,eq_self,ne_eq,Int.reduceToNat,Int.reduceLT,Int.reduceLE]
   all_goals ((repeat' apply And.intro) <;> first | rfl | omega | (show (_:Bool)=true; kernel_rfl) | decide)
  ·have r1':(f1.res != 2)=true:=by simpa using r1
   rw [if_neg r1]
   simp only [Tryz.f88,Tryz.func125,Tryz.f125,Tryz.func119,Tryz.f119,Tryz.func117,Tryz.f117,e1,r0',r1',inl,AN_all,sx_all,rf1,ht,hm,hrl,and_self,hmay,hg,h6,tks,sbv,zs,ms,evs,ssv,sv,fv,ev',List.map_cons,List.map_nil,List.length_map,hfq_z,hfe1,tt_all,cv',cf_eta,shC_dec,dC,hfree_lu,row1,row3,row4,shM_dec,dM,dU_map,iv,bv,u,ms,ctx_T,ctx_C,ctx_P,Option.bind_some,Option.map_some,List.length_map,String.reduceBEq,shF_dec,dF,Int.cast_ofNat_Int,ev1,ev2,implies_true,undef,dynCall,↓condE_t,↓condE_f,↓guardE_tf,frzDeep,deepArgs,deepArg,resB,cv,stepB,stepE,callD,tabD,guardB,guardC,dstAt,aopR,one,pre,binR,intOpR,unR,argFrm,evo,lkp,hlk,asLst,idOf,srcOk,ofVal,ofCells,setCells,fillA,setElems,AV.wr,AV.ok1,TK.agg,frz,frz1,frzt,frzs,frzA,frzArg,frzArgs,subA,subB,subM,subL,sub1,accOf,List.replicate,Nat.reduceAdd,Nat.reduceMul,Nat.reduceEqDiff,Nat.reduceLT,Nat.reduceLeDiff,reduceCtorEq,eq_self,ne_eq,Int.reduceToNat,Int.reduceLT,Int.reduceLE]
   all_goals ((repeat' apply And.intro) <;> first | rfl | omega | (show (_:Bool)=true; kernel_rfl) | decide)
theorem sbstep3 (c:Cf) (t:List Tk) (m:List Int) (i:Int) (rt:List Int) (op p who val fx fy res:Int) (h:SIn c t m ⟨3,rt,⟨op,p,who,val,fx,fy,res⟩⟩) :
  PureC Tryz.prog 88 [cv' c,tks t,ms m,iv i,sbv ⟨3,rt,⟨op,p,who,val,fx,fy,res⟩⟩] (ssv (sq3 c m i ⟨3,rt,⟨op,p,who,val,fx,fy,res⟩⟩)):=by
 refine pure_sub okAN 5 Tryz.func88 rfl (by show 5≤_; decide) ?_
 obtain ⟨ht,hm,hrl,hmay⟩:=h
 have hr0:=(smay_in hmay).1
 dsimp only at hrl hr0
 have hu:∀ x,IntKind.wrap .u64 x=wrapU x:=fun _=>rfl
 have hg:=getD_z hr0
 have h6:(0:Int) < rt.length:=by omega
 have hl1:(1:Int)≤rt.length:=by omega
 have hd1:((rt.map iv).drop 1).take (rt.length - 1)=(rt.drop 1).map iv:=by rw [← List.map_drop]; exact List.take_of_length_le (by simp)
 unfold sq3
 try dsimp only
 have hm1:=hm
 by_cases a0:mLoad m 1=0
 ·have a0':(mLoad m 1 != 0)=false:=by simpa using a0
  rw [if_pos a0]
  simp only [Tryz.f88,Tryz.func126,Tryz.f126,a0',inl,AN_all,sx_all,rf1,ht,hm,hrl,and_self,hmay,hg,h6,tks,sbv,zs,ms,evs,ssv,fv,fBegin,List.map_cons,List.map_nil,List.length_map,hfq_z,tt_all,cv',cf_eta,shC_dec,dC,hfree_lu,row1,row2,row3,row4,shI_dec,shN_dec,shM_dec,dI,dN,dM,dU_map,iv,bv,u,ms,ctx_T,ctx_C,ctx_P,Option.bind_some,Option.map_some,List.length_map,String.reduceBEq,Int.cast_ofNat_Int,ev1,ev2,implies_true,undef,dynCall,↓condE_f,frzDeep,deepArgs,deepArg,resB,cv,stepB,stepE,callD,tabD,aopR,one,pre,binR,intOpR,unR,argFrm,evo,lkp,hlk,ofVal,ofCells,setCells,fillA,AV.wr,AV.ok1,TK.agg,frz,frz1,frzt,frzs,frzA,frzArg,frzArgs,subA,subB,subM,subL,sub1,accOf,Nat.reduceAdd,Nat.reduceMul,Nat.reduceEqDiff,Nat.reduceLT,Nat.reduceLeDiff,reduceCtorEq,eq_self,ne_eq,Int.reduceToNat,Int.reduceLT,Int.reduceLE]
  all_goals ((repeat' apply And.intro) <;> first | rfl | omega | (show (_:Bool)=true; kernel_rfl) | decide)
 ·have a0':(mLoad m 1 != 0)=true:=by simpa using a0
  rw [if_neg a0]
  simp only [Tryz.f88,Tryz.func126,Tryz.f126,Tryz.func118,Tryz.f118,a0',inl,AN_all,sx_all,rf1,ht,hm,hrl,and_self,hmay,hg,h6,hd1,hl1,tks,sbv,zs,ms,evs,ssv,doneS,fr00,List.map_cons,List.map_nil,List.length_map,hfq_z,tt_all,cv',cf_eta,shC_dec,dC,hfree_lu,row1,row2,row4,shI_dec,shM_dec,dI,dM,dU_map,iv,bv,u,ms,ctx_T,ctx_C,ctx_P,Option.bind_some,Option.map_some,List.length_map,String.reduceBEq,Int.toNat_natCast,Int.cast_ofNat_Int,ev1,ev2,implies_true,undef,dynCall,↓condE_t,↓condE_f,frzDeep,deepArgs,deepArg,resB,cv,stepB,stepE,callD,tabD,aopR,one,pre,binR,intOpR,unR,argFrm,evo,lkp,hlk,lenOf,bndA,ofVal,ofCells,setCells,fillA,AV.wr,AV.ok1,TK.agg,frz,frz1,frzt,frzs,frzA,frzArg,frzArgs,subA,subB,subM,subL,sub1,accOf,Nat.reduceAdd,Nat.reduceMul,Nat.reduceEqDiff,Nat.reduceLT,Nat.reduceLeDiff,reduceCtorEq,eq_self,ne_eq,Int.reduceToNat,Int.reduceLT,Int.reduceLE]
  all_goals ((repeat' apply And.intro) <;> first | rfl | omega | (show (_:Bool)=true; kernel_rfl) | decide)
theorem sbstep4 (c:Cf) (t:List Tk) (m:List Int) (i:Int) (rt:List Int) (p who val fx fy res:Int) (h:SIn c t m ⟨4,rt,⟨6,p,who,val,fx,fy,res⟩⟩) :
  PureC Tryz.prog 88 [cv' c,tks t,ms m,iv i,sbv ⟨4,rt,⟨6,p,who,val,fx,fy,res⟩⟩] (ssv (sq4 c m i ⟨4,rt,⟨6,p,who,val,fx,fy,res⟩⟩)):=by
 refine pure_sub okAN 5 Tryz.func88 rfl (by show 5≤_; decide) ?_
 obtain ⟨ht,hm,hrl,hmay⟩:=h
 have hr0:=(smay_in hmay).1
 dsimp only at hrl hr0
 have hu:∀ x,IntKind.wrap .u64 x=wrapU x:=fun _=>rfl
 have hg:=getD_z hr0
 have h6:(0:Int) < rt.length:=by omega
 have hl1:(1:Int)≤rt.length:=by omega
 have hd1:((rt.map iv).drop 1).take (rt.length - 1)=(rt.drop 1).map iv:=by rw [← List.map_drop]; exact List.take_of_length_le (by simp)
 unfold sq4
 try dsimp only
 have hl:=len_evStep c m ⟨6,p,who,val,fx,fy,res⟩
 obtain ⟨m1,f1,e1⟩:∃ a b,evStep c m ⟨6,p,who,val,fx,fy,res⟩=(a,b):=⟨_,_,rfl⟩
 rw [e1] at hl ⊢
 dsimp only at hl ⊢
 have hm1:m1.length≤1000:=by omega
 have o7:((6:Int)=7)=False:=eq_false (by decide)
 by_cases r0:f1.res=0
 ·have r0':(f1.res != 0)=false:=by simpa using r0
  rw [if_pos r0]
  simp only [Tryz.f88,Tryz.func127,Tryz.f127,Tryz.func119,Tryz.f119,e1,r0,o7,not_false_eq_true,inl,AN_all,sx_all,rf1,ht,hm,hrl,and_self,hmay,hg,h6,tks,sbv,zs,ms,evs,ssv,sv,fv,List.map_cons,List.map_nil,List.length_map,hfq_z,tt_all,cv',cf_eta,shC_dec,dC,hfree_lu,row1,row3,row4,shM_dec,dM,dU_map,iv,bv,u,ms,ctx_T,ctx_C,ctx_P,Option.bind_some,Option.map_some,List.length_map,String.reduceBEq,shF_dec,dF,Int.cast_ofNat_Int,ev1,ev2,implies_true,undef,dynCall,↓condE_f,↓guardE_ff,frzDeep,deepArgs,deepArg,resB,cv,stepB,stepE,callD,tabD,guardB,guardC,dstAt,aopR,one,pre,binR,intOpR,unR,argFrm,evo,lkp,hlk,ofVal,ofCells,setCells,fillA,AV.wr,AV.ok1,TK.agg,frz,frz1,frzt,frzs,frzA,frzArg,frzArgs,subA,subB,subM,subL,sub1,accOf,Nat.reduceAdd,Nat.reduceMul,Nat.reduceEqDiff,Nat.reduceLT,Nat.reduceLeDiff,reduceCtorEq,eq_self,ne_eq,Int.reduceToNat,Int.reduceLT,Int.reduceLE,Int.reduceBEq,Int.reduceBNe]
  all_goals ((repeat' apply And.intro) <;> first | rfl | omega | (show (_:Bool)=true; kernel_rfl) | decide)
 ·have r0':(f1.res != 0)=true:=by simpa using r0
  rw [if_neg r0]
  simp only [Tryz.f88,Tryz.func127,Tryz.f127,Tryz.func119,Tryz.f119,Tryz.func118,Tryz.f118,e1,r0',o7,not_false_eq_true,inl,AN_all,sx_all,rf1,ht,hm,hrl,and_self,hmay,hg,h6,hd1,hl1,tks,sbv,zs,ms,evs,ssv,sv,fv,doneS,fr00,List.map_cons,List.map_nil,List.length_map,hfq_z,tt_all,cv',cf_eta,shC_dec,dC,hfree_lu,row1,row3,row4,shM_dec,dM,dU_map,iv,bv,u,ms,ctx_T,ctx_C,ctx_P,Option.bind_some,Option.map_some,List.length_map,String.reduceBEq,Int.toNat_natCast,shF_dec,dF,Int.cast_ofNat_Int,ev1,ev2,implies_true,undef,dynCall,↓condE_t,↓condE_f,↓guardE_ff,frzDeep,deepArgs,deepArg,resB,cv,stepB,stepE,callD,tabD,guardB,guardC,dstAt,aopR,one,pre,binR,intOpR,unR,argFrm,evo,lkp,hlk,lenOf,bndA,ofVal,ofCells,setCells,fillA,AV.wr,AV.ok1,TK.agg,frz,frz1,frzt,frzs,frzA,frzArg,frzArgs,subA,subB,subM,subL,sub1,accOf,Nat.reduceAdd,Nat.reduceMul,Nat.reduceEqDiff,Nat.reduceLT,Nat.reduceLeDiff,reduceCtorEq,eq_self,ne_eq,Int.reduceToNat,Int.reduceLT,Int.reduceLE,Int.reduceBEq]
  all_goals ((repeat' apply And.intro) <;> first | rfl | omega | (show (_:Bool)=true; kernel_rfl) | decide)
theorem sbstep5 (c:Cf) (t:List Tk) (m:List Int) (i:Int) (rt:List Int) (op p who val fx fy res:Int) (h:SIn c t m ⟨5,rt,⟨op,p,who,val,fx,fy,res⟩⟩) :
  PureC Tryz.prog 88 [cv' c,tks t,ms m,iv i,sbv ⟨5,rt,⟨op,p,who,val,fx,fy,res⟩⟩] (ssv (sq5 c m i ⟨5,rt,⟨op,p,who,val,fx,fy,res⟩⟩)):=by
 refine pure_sub okAN 5 Tryz.func88 rfl (by show 5≤_; decide) ?_
 obtain ⟨ht,hm,hrl,hmay⟩:=h
 have hr0:=(smay_in hmay).1
 dsimp only at hrl hr0
 have hu:∀ x,IntKind.wrap .u64 x=wrapU x:=fun _=>rfl
 have hg:=getD_z hr0
 have h6:(0:Int) < rt.length:=by omega
 have hl1:(1:Int)≤rt.length:=by omega
 have hd1:((rt.map iv).drop 1).take (rt.length - 1)=(rt.drop 1).map iv:=by rw [← List.map_drop]; exact List.take_of_length_le (by simp)
 unfold sq5
 try dsimp only
 have hm1:=hm
 cases a0:mLoad m 0 == 1 with
 | true=>
  simp only [Tryz.f88,Tryz.func128,Tryz.f128,Tryz.func117,Tryz.f117,Tryz.func118,Tryz.f118,a0,if_true,List.cons_append,List.nil_append,inl,AN_all,sx_all,rf1,ht,hm,hrl,and_self,hmay,hg,h6,hd1,hl1,tks,sbv,zs,ms,evs,ssv,doneS,fr00,less,ev',List.map_cons,List.map_nil,List.length_map,hfq_z,hfe2,tt_all,cv',cf_eta,shC_dec,dC,hfree_lu,row1,row3,row4,shI_dec,shN_dec,shM_dec,dI,dN,dM,dU_map,iv,bv,u,ms,ctx_T,ctx_C,ctx_P,Option.bind_some,Option.map_some,List.length_map,String.reduceBEq,Int.toNat_natCast,Int.cast_ofNat_Int,ev1,ev2,implies_true,undef,dynCall,↓condE_t,↓condE_f,frzDeep,deepArgs,deepArg,resB,cv,stepB,stepE,callD,tabD,aopR,one,pre,binR,intOpR,unR,argFrm,evo,lkp,hlk,lenOf,asLst,idOf,bndA,srcOk,ofVal,ofCells,setCells,fillA,setElems,AV.wr,AV.ok1,TK.agg,frz,frz1,frzt,frzs,frzA,frzArg,frzArgs,subA,subB,subM,subL,sub1,accOf,List.replicate,Nat.reduceAdd,Nat.reduceMul,Nat.reduceEqDiff,Nat.reduceLT,Nat.reduceLeDiff,reduceCtorEq,eq_self,ne_eq,Int.reduceToNat,Int.reduceLT,Int.reduceLE]
  all_goals ((repeat' apply And.intro) <;> first | rfl | omega | (show (_:Bool)=true; kernel_rfl) | decide)
 | false=>
  simp only [Tryz.f88,Tryz.func128,Tryz.f128,Tryz.func117,Tryz.f117,Tryz.func118,Tryz.f118,a0,Bool.false_eq_true,if_false,List.append_nil,inl,AN_all,sx_all,rf1,ht,hm,hrl,and_self,hmay,hg,h6,hd1,hl1,tks,sbv,zs,ms,evs,ssv,doneS,fr00,less,ev',List.map_cons,List.map_nil,List.length_map,hfq_z,hfe1,tt_all,cv',cf_eta,shC_dec,dC,hfree_lu,row1,row3,row4,shI_dec,shN_dec,shM_dec,dI,dN,dM,dU_map,iv,bv,u,ms,ctx_T,ctx_C,ctx_P,Option.bind_some,Option.map_some,List.length_map,String.reduceBEq,Int.toNat_natCast,Int.cast_ofNat_Int,ev1,ev2,implies_true,undef,dynCall,↓condE_f,frzDeep,deepArgs,deepArg,resB,cv,stepB,stepE,callD,tabD,aopR,one,pre,binR,intOpR,unR,argFrm,evo,lkp,hlk,lenOf,asLst,idOf,bndA,srcOk,ofVal,ofCells,setCells,fillA,setElems,AV.wr,AV.ok1,TK.agg,frz,frz1,frzt,frzs,frzA,frzArg,frzArgs,subA,subB,subM,subL,sub1,accOf,List.replicate,Nat.reduceAdd,Nat.reduceMul,Nat.reduceEqDiff,Nat.reduceLT,Nat.reduceLeDiff,reduceCtorEq,eq_self,ne_eq,Int.reduceToNat,Int.reduceLT,Int.reduceLE]
  all_goals ((repeat' apply And.intro) <;> first | rfl | omega | (show (_:Bool)=true; kernel_rfl) | decide)
def opOkS (x:Sb):Prop:=(x.pc=2→x.f.op=3)∧(x.pc=4→x.f.op=6)
instance (x:Sb):Decidable (opOkS x):=by unfold opOkS; infer_instance
def sbStep (c:Cf) (m:List Int) (i:Int) (x:Sb):SR:=
 if x.pc=0 then sq0 c m i x else if x.pc=1 then sq1 c m i x else if x.pc=2 then sq2 c m i x else if x.pc=3 then sq3 c m i x else if x.pc=4 then sq4 c m i x else sq5 c m i x
theorem sbstep_pure (c:Cf) (t:List Tk) (m:List Int) (i:Int) (x:Sb) (h:SIn c t m x) (ho:opOkS x) :
  PureC Tryz.prog 88 [cv' c,tks t,ms m,iv i,sbv x] (ssv (sbStep c m i x)):=by
 have hpc:=(smay_in h.may).2
 unfold sbStep
 obtain ⟨pc,rt,⟨op,p,who,val,fx,fy,res⟩⟩:=x
 obtain ⟨o2,o4⟩:=ho
 dsimp only at hpc o2 o4 ⊢
 have hp:pc=0∨pc=1∨pc=2∨pc=3∨pc=4∨pc=5:=by omega
 rcases hp with rfl | rfl | rfl | rfl | rfl | rfl
 ·exact sbstep0 c t m i rt op p who val fx fy res h
 ·exact sbstep1 c t m i rt op p who val fx fy res h
 ·obtain rfl:=o2 rfl; exact sbstep2 c t m i rt p who val fx fy res h
 ·exact sbstep3 c t m i rt op p who val fx fy res h
 ·obtain rfl:=o4 rfl; exact sbstep4 c t m i rt p who val fx fy res h
 ·exact sbstep5 c t m i rt op p who val fx fy res h
theorem snew_pure (l:List Int) (hl:l.length≤100000):PureC Tryz.prog 42 [zs l] (sbv ⟨0,l,fr00⟩):=by
 refine pure_sub okAN 1 Tryz.func42 rfl (by show 1≤_; decide) ?_
 simp only [Tryz.f42,AN_all,rf1,hl,zs,sbv,fr00,hfq_z,tt_all,row1,iv,u,ctx_T,ctx_C,Option.bind_some,Option.map_some,ev1,ev2,undef,resB,cv,stepB,aopR,one,pre,argFrm,evo,lkp,hlk,ofVal,ofCells,setCells,fillA,AV.wr,AV.ok1,TK.agg,frz,frz1,frzs,frzA,subA,subB,subL,sub1,Nat.reduceAdd,Nat.reduceEqDiff,Nat.reduceLT,Nat.reduceLeDiff,reduceCtorEq,eq_self,ne_eq]
 all_goals ((repeat' apply And.intro) <;> first | rfl | omega | (show (_:Bool)=true; kernel_rfl) | decide)
theorem wnew_pure (w:Int):PureC Tryz.prog 39 [iv w] (wv ⟨0,[],⟨1,0,w,0,0,0,0⟩,0,0⟩):=by
 refine pure_sub okAN 1 Tryz.func39 rfl (by show 1≤_; decide) ?_
 simp only [Tryz.f39,AN_all,wv,its,fv,fBegin,List.map_nil,tt_all,row3,shI_dec,shN_dec,dI,dN,iv,u,ctx_T,ctx_C,Option.bind_some,Option.map_some,ev1,ev2,undef,resB,cv,stepB,aopR,one,pre,argFrm,evo,lkp,hlk,ofVal,ofCells,setCells,fillA,AV.wr,AV.ok1,TK.agg,frz,frz1,frzs,frzA,subA,subB,subL,sub1,Nat.reduceAdd,Nat.reduceEqDiff,Nat.reduceLT,Nat.reduceLeDiff,reduceCtorEq,eq_self,ne_eq]
 all_goals ((repeat' apply And.intro) <;> first | rfl | omega | (show (_:Bool)=true; kernel_rfl) | decide)
end Go.Vai

/- A worker's step, place by place. -/
namespace Go.Vai
open Go.RowKit Go.Proofs
set_option maxHeartbeats 4000000
set_option maxRecDepth 100000
theorem wstep0 (c:Cf) (t:List Tk) (m:List Int) (w:Int) (st:List It) (p who val fx fy res sp lk d:Int) (h:WIn c t m w ⟨0,st,⟨1,p,who,val,fx,fy,res⟩,sp,lk⟩) :
  PureC Tryz.prog 85 [cv' c,tks t,ms m,iv w,wv ⟨0,st,⟨1,p,who,val,fx,fy,res⟩,sp,lk⟩,u d] (wsv (wq0 c t m w ⟨0,st,⟨1,p,who,val,fx,fy,res⟩,sp,lk⟩ d)):=by
 refine pure_sub okAM 4 Tryz.func85 rfl (by show 6≤_; decide) ?_
 obtain ⟨ht,hm,hs,hmay⟩:=h
 dsimp only at hs
 obtain ⟨hw0,hw1,hcw⟩:=wmay_in hmay
 unfold wq0
 try dsimp only
 have hl:=len_dqStep c m ⟨1,p,who,val,fx,fy,res⟩
 obtain ⟨m1,f1,e1⟩:∃ a b,dqStep c m ⟨1,p,who,val,fx,fy,res⟩=(a,b):=⟨_,_,rfl⟩
 rw [e1] at hl ⊢
 dsimp only at hl ⊢
 have hm1:m1.length≤1000:=by omega
 by_cases r0:f1.res=0
 ·have r0':(f1.res != 0)=false:=by simpa using r0
  rw [if_pos r0]
  simp only [Tryz.f85,Tryz.func102,Tryz.f102,Tryz.func139,Tryz.f139,e1,r0,inl,AM_all,sx_all,ht,hm,hs,and_self,hmay,tks,wv,its,ms,evs,wsv,sv,fv,atF,List.map_cons,List.map_nil,hfq_x,tt_all,cv',cf_eta,shC_dec,dC,hfree_lu,row1,row3,row5,shI_dec,shM_dec,dI,dM,dU_map,iv,bv,u,ms,ctx_T,ctx_C,ctx_P,Option.bind_some,Option.map_some,String.reduceBEq,shF_dec,dF,Int.cast_ofNat_Int,ev1,ev2,implies_true,undef,drawB,lateB,mixB,mixB0,usesT,mvV,stepM,rdsT,rdsAny,callLB,callLV,dstV,dynCall,↓condE_t,↓condE_f,frzDeep,deepArgs,deepArg,resB,cv,stepB,stepE,callD,tabD,aopR,one,pre,binR,intOpR,unR,argFrm,evo,lkp,hlk,ofVal,ofCells,setCells,fillA,AV.wr,AV.ok1,TK.agg,frz,frz1,frzt,frzs,frzA,frzArg,frzArgs,subA,subB,subM,subL,sub1,accOf,Nat.reduceAdd,Nat.reduceMul,Nat.reduceEqDiff,Nat.reduceLT,Nat.reduceLeDiff,reduceCtorEq,eq_self,ne_eq,Int.reduceLT,Int.reduceLE,Int.reduceBEq,Int.reduceBNe]
  all_goals ((repeat' apply And.intro) <;> first | rfl | omega | (show (_:Bool)=true; kernel_rfl) | decide)
 ·have r0':(f1.res != 0)=true:=by simpa using r0
  rw [if_neg r0]
  by_cases r1:f1.res=1
  ·have r1':(f1.res != 1)=false:=by simpa using r1
   rw [if_pos r1]
   simp only [Tryz.f85,Tryz.func102,Tryz.f102,Tryz.func139,Tryz.f139,Tryz.func140,Tryz.f140,Tryz.func141,Tryz.f141,Tryz.func147,Tryz.f147,e1,r0',r1',inl,AM_all,sx_all,ht,hm,hs,and_self,hmay,tks,wv,its,ms,evs,wsv,sv,fv,toW,stW,fr00,ev',List.map_cons,List.map_nil,hfq_x,hfe1,tt_all,cv',cf_eta,shC_dec,dC,hfree_lu,row1,row3,row5,shI_dec,shM_dec,dI,dM,dU_map,iv,bv,u,ms,ctx_T,ctx_C,ctx_P,Option.bind_some,Option.map_some,String.reduceBEq,shF_dec,dF,fr_eta,Int.cast_ofNat_Int,ev1,ev2,implies_true,undef,drawB,lateB,mixB,mixB0,usesT,mvV,stepM,rdsT,rdsAny,callLB,callLV,dstV,dynCall,↓condE_t,↓condE_f,frzDeep,deepArgs,deepArg,resB,cv,stepB,stepE,callD,tabD,aopR,one,pre,binR,intOpR,unR,argFrm,evo,lkp,hlk,asLst,idOf,srcOk,ofVal,ofCells,setCells,fillA,setElems,AV.wr,AV.ok1,TK.agg,frz,frz1,frzt,frzs,frzA,frzArg,frzArgs,subA,subB,subM,subL,sub1,accOf,List.replicate,Nat.reduceAdd,Nat.reduceMul,Nat.reduceEqDiff,Nat.reduceLT,Nat.reduceLeDiff,reduceCtorEq,eq_self,ne_eq,Int.reduceLT,Int.reduceLE,Int.reduceBEq]
   all_goals ((repeat' apply And.intro) <;> first | rfl | omega | (show (_:Bool)=true; kernel_rfl) | decide)
  ·have r1':(f1.res != 1)=true:=by simpa using r1
   rw [if_neg r1]
   simp only [Tryz.f85,Tryz.func102,Tryz.f102,Tryz.func139,Tryz.f139,Tryz.func140,Tryz.f140,e1,r0',r1',inl,AM_all,sx_all,ht,hm,hs,and_self,hmay,tks,wv,its,ms,evs,wsv,sv,fv,toW,fr00,List.map_cons,List.map_nil,hfq_x,tt_all,cv',cf_eta,shC_dec,dC,hfree_lu,row1,row3,row5,shI_dec,shM_dec,dI,dM,dU_map,iv,bv,u,ms,ctx_T,ctx_C,ctx_P,Option.bind_some,Option.map_some,String.reduceBEq,shF_dec,dF,fr_eta,Int.cast_ofNat_Int,ev1,ev2,implies_true,undef,drawB,lateB,mixB,mixB0,usesT,mvV,stepM,rdsT,rdsAny,callLB,callLV,dstV,dynCall,↓condE_t,↓condE_f,frzDeep,deepArgs,deepArg,resB,cv,stepB,stepE,callD,tabD,aopR,one,pre,binR,intOpR,unR,argFrm,evo,lkp,hlk,ofVal,ofCells,setCells,fillA,AV.wr,AV.ok1,TK.agg,frz,frz1,frzt,frzs,frzA,frzArg,frzArgs,subA,subB,subM,subL,sub1,accOf,Nat.reduceAdd,Nat.reduceMul,Nat.reduceEqDiff,Nat.reduceLT,Nat.reduceLeDiff,reduceCtorEq,eq_self,ne_eq,Int.reduceLT,Int.reduceLE,Int.reduceBEq]
   all_goals ((repeat' apply And.intro) <;> first | rfl | omega | (show (_:Bool)=true; kernel_rfl) | decide)
theorem wstep1 (c:Cf) (t:List Tk) (m:List Int) (w:Int) (st:List It) (op p who val fx fy res sp lk d:Int) (h:WIn c t m w ⟨1,st,⟨op,p,who,val,fx,fy,res⟩,sp,lk⟩) :
  PureC Tryz.prog 85 [cv' c,tks t,ms m,iv w,wv ⟨1,st,⟨op,p,who,val,fx,fy,res⟩,sp,lk⟩,u d] (wsv (wq1 c t m w ⟨1,st,⟨op,p,who,val,fx,fy,res⟩,sp,lk⟩ d)):=by
 refine pure_sub okAM 4 Tryz.func85 rfl (by show 6≤_; decide) ?_
 obtain ⟨ht,hm,hs,hmay⟩:=h
 dsimp only at hs
 obtain ⟨hw0,hw1,hcw⟩:=wmay_in hmay
 unfold wq1
 try dsimp only
 have hm1:=hm
 simp only [Tryz.f85,Tryz.func103,Tryz.f103,Tryz.func142,Tryz.f142,Tryz.func143,Tryz.f143,inl,AM_all,sx_all,ht,hm,hs,and_self,hmay,tks,wv,its,ms,evs,wsv,fv,fBegin,List.map_cons,List.map_nil,hfq_x,tt_all,cv',cf_eta,shC_dec,dC,hfree_lu,row1,row3,row5,shI_dec,shN_dec,shM_dec,dI,dN,dM,dU_map,iv,bv,u,ms,ctx_T,ctx_C,ctx_P,Option.bind_some,Option.map_some,String.reduceBEq,Int.cast_ofNat_Int,ev1,ev2,implies_true,undef,dynCall,↓condE_f,frzDeep,deepArgs,deepArg,resB,cv,stepB,stepE,callD,tabD,aopR,one,pre,unR,argFrm,evo,lkp,hlk,ofVal,ofCells,setCells,fillA,AV.wr,AV.ok1,TK.agg,frz,frz1,frzt,frzs,frzA,frzArg,frzArgs,subA,subB,subM,subL,sub1,accOf,Nat.reduceAdd,Nat.reduceMul,Nat.reduceEqDiff,Nat.reduceLT,Nat.reduceLeDiff,reduceCtorEq,eq_self,ne_eq,Int.reduceToNat,Int.reduceLT,Int.reduceLE]
 all_goals ((repeat' apply And.intro) <;> first | rfl | omega | (show (_:Bool)=true; kernel_rfl) | decide)
theorem wstep4 (c:Cf) (t:List Tk) (m:List Int) (w:Int) (st:List It) (op p who val fx fy res sp lk d:Int) (h:WIn c t m w ⟨4,st,⟨op,p,who,val,fx,fy,res⟩,sp,lk⟩) :
  PureC Tryz.prog 85 [cv' c,tks t,ms m,iv w,wv ⟨4,st,⟨op,p,who,val,fx,fy,res⟩,sp,lk⟩,u d] (wsv (wq4 c t m w ⟨4,st,⟨op,p,who,val,fx,fy,res⟩,sp,lk⟩ d)):=by
 refine pure_sub okAM 4 Tryz.func85 rfl (by show 6≤_; decide) ?_
 obtain ⟨ht,hm,hs,hmay⟩:=h
 dsimp only at hs
 obtain ⟨hw0,hw1,hcw⟩:=wmay_in hmay
 unfold wq4
 try dsimp only
 have hm1:=hm
 by_cases a1:mLoad m 1=1
 ·have a1':(mLoad m 1 == 1)=true:=by simpa using a1
  rw [if_pos a1]
  simp only [Tryz.f85,Tryz.func105,Tryz.f105,Tryz.func142,Tryz.f142,Tryz.func143,Tryz.f143,Tryz.func141,Tryz.f141,Tryz.func147,Tryz.f147,a1',inl,AM_all,sx_all,ht,hm,hs,and_self,hmay,tks,wv,its,ms,evs,wsv,fv,withW,stW,fBegin,less,ev',List.map_cons,List.map_nil,hfq_x,hfe1,tt_all,cv',cf_eta,shC_dec,dC,hfree_lu,row1,row3,row5,shI_dec,shN_dec,shM_dec,dI,dN,dM,dU_map,iv,bv,u,ms,ctx_T,ctx_C,ctx_P,Option.bind_some,Option.map_some,String.reduceBEq,Int.cast_ofNat_Int,ev1,ev2,implies_true,undef,dynCall,↓condE_t,↓condE_f,frzDeep,deepArgs,deepArg,resB,cv,stepB,stepE,callD,tabD,aopR,one,pre,binR,intOpR,unR,argFrm,evo,lkp,hlk,asLst,idOf,srcOk,ofVal,ofCells,setCells,fillA,setElems,AV.wr,AV.ok1,TK.agg,frz,frz1,frzt,frzs,frzA,frzArg,frzArgs,subA,subB,subM,subL,sub1,accOf,List.replicate,Nat.reduceAdd,Nat.reduceMul,Nat.reduceEqDiff,Nat.reduceLT,Nat.reduceLeDiff,reduceCtorEq,eq_self,ne_eq,Int.reduceToNat,Int.reduceLT,Int.reduceLE]
  all_goals ((repeat' apply And.intro) <;> first | rfl | omega | (show (_:Bool)=true; kernel_rfl) | decide)
 ·have a1':(mLoad m 1 == 1)=false:=by simpa using a1
  rw [if_neg a1]
  simp only [Tryz.f85,Tryz.func105,Tryz.f105,Tryz.func142,Tryz.f142,Tryz.func140,Tryz.f140,Tryz.func141,Tryz.f141,Tryz.func147,Tryz.f147,a1',inl,AM_all,sx_all,ht,hm,hs,and_self,hmay,tks,wv,its,ms,evs,wsv,toW,stW,fr00,less,ev',List.map_cons,List.map_nil,hfq_x,hfe1,tt_all,cv',cf_eta,shC_dec,dC,hfree_lu,row1,row3,row5,shI_dec,shN_dec,shM_dec,dI,dN,dM,dU_map,iv,bv,u,ms,ctx_T,ctx_C,ctx_P,Option.bind_some,Option.map_some,String.reduceBEq,Int.cast_ofNat_Int,ev1,ev2,implies_true,undef,dynCall,↓condE_f,frzDeep,deepArgs,deepArg,resB,cv,stepB,stepE,callD,tabD,aopR,one,pre,binR,intOpR,unR,argFrm,evo,lkp,hlk,asLst,idOf,srcOk,ofVal,ofCells,setCells,fillA,setElems,AV.wr,AV.ok1,TK.agg,frz,frz1,frzt,frzs,frzA,frzArg,frzArgs,subA,subB,subM,subL,sub1,accOf,List.replicate,Nat.reduceAdd,Nat.reduceMul,Nat.reduceEqDiff,Nat.reduceLT,Nat.reduceLeDiff,reduceCtorEq,eq_self,ne_eq,Int.reduceToNat,Int.reduceLT,Int.reduceLE]
  all_goals ((repeat' apply And.intro) <;> first | rfl | omega | (show (_:Bool)=true; kernel_rfl) | decide)
theorem wstep5 (c:Cf) (t:List Tk) (m:List Int) (w:Int) (st:List It) (p who val fx fy res sp lk d:Int) (h:WIn c t m w ⟨5,st,⟨5,p,who,val,fx,fy,res⟩,sp,lk⟩) :
  PureC Tryz.prog 85 [cv' c,tks t,ms m,iv w,wv ⟨5,st,⟨5,p,who,val,fx,fy,res⟩,sp,lk⟩,u d] (wsv (wq5 c t m w ⟨5,st,⟨5,p,who,val,fx,fy,res⟩,sp,lk⟩ d)):=by
 refine pure_sub okAM 4 Tryz.func85 rfl (by show 6≤_; decide) ?_
 obtain ⟨ht,hm,hs,hmay⟩:=h
 dsimp only at hs
 obtain ⟨hw0,hw1,hcw⟩:=wmay_in hmay
 unfold wq5
 try dsimp only
 have hl:=len_evStep c m ⟨5,p,who,val,fx,fy,res⟩
 obtain ⟨m1,f1,e1⟩:∃ a b,evStep c m ⟨5,p,who,val,fx,fy,res⟩=(a,b):=⟨_,_,rfl⟩
 rw [e1] at hl ⊢
 dsimp only at hl ⊢
 have hm1:m1.length≤1000:=by omega
 have o7:((5:Int)=7)=False:=eq_false (by decide)
 by_cases r0:f1.res=0
 ·have r0':(f1.res != 0)=false:=by simpa using r0
  simp only [Tryz.f85,Tryz.func106,Tryz.f106,Tryz.func139,Tryz.f139,e1,r0',o7,not_false_eq_true,inl,AM_all,sx_all,ht,hm,hs,and_self,hmay,tks,wv,its,ms,evs,wsv,sv,fv,List.map_cons,List.map_nil,hfq_x,tt_all,cv',cf_eta,shC_dec,dC,hfree_lu,row1,row3,row5,shI_dec,shM_dec,dI,dM,dU_map,iv,bv,u,ms,ctx_T,ctx_C,ctx_P,Option.bind_some,Option.map_some,String.reduceBEq,shF_dec,dF,fr_eta,Int.cast_ofNat_Int,ev1,ev2,implies_true,undef,drawB,lateB,mixB,mixB0,usesT,mvV,stepM,rdsT,rdsAny,callLB,callLV,dstV,dynCall,↓condE_f,frzDeep,deepArgs,deepArg,resB,cv,stepB,stepE,callD,tabD,aopR,one,pre,binR,intOpR,unR,argFrm,evo,lkp,hlk,ofVal,ofCells,setCells,fillA,AV.wr,AV.ok1,TK.agg,frz,frz1,frzt,frzs,frzA,frzArg,frzArgs,subA,subB,subM,subL,sub1,accOf,Nat.reduceAdd,Nat.reduceMul,Nat.reduceEqDiff,Nat.reduceLT,Nat.reduceLeDiff,reduceCtorEq,eq_self,ne_eq,Int.reduceToNat,Int.reduceLT,Int.reduceLE,Int.reduceBEq]
  all_goals ((repeat' apply And.intro) <;> first | rfl | omega | (show (_:Bool)=true; kernel_rfl) | decide)
 ·have r0':(f1.res != 0)=true:=by simpa using r0
  simp only [Tryz.f85,Tryz.func106,Tryz.f106,Tryz.func139,Tryz.f139,e1,r0',o7,not_false_eq_true,inl,AM_all,sx_all,ht,hm,hs,and_self,hmay,tks,wv,its,ms,evs,wsv,sv,fv,List.map_cons,List.map_nil,hfq_x,tt_all,cv',cf_eta,shC_dec,dC,hfree_lu,row1,row3,row5,shI_dec,shM_dec,dI,dM,dU_map,iv,bv,u,ms,ctx_T,ctx_C,ctx_P,Option.bind_some,Option.map_some,String.reduceBEq,shF_dec,dF,fr_eta,Int.cast_ofNat_Int,ev1,ev2,implies_true,undef,drawB,lateB,mixB,mixB0,usesT,mvV,stepM,rdsT,rdsAny,callLB,callLV,dstV,dynCall,↓condE_f,frzDeep,deepArgs,deepArg,resB,cv,stepB,stepE,callD,tabD,aopR,one,pre,binR,intOpR,unR,argFrm,evo,lkp,hlk,ofVal,ofCells,setCells,fillA,AV.wr,AV.ok1,TK.agg,frz,frz1,frzt,frzs,frzA,frzArg,frzArgs,subA,subB,subM,subL,sub1,accOf,Nat.reduceAdd,Nat.reduceMul,Nat.reduceEqDiff,Nat.reduceLT,Nat.reduceLeDiff,reduceCtorEq,eq_self,ne_eq,Int.reduceToNat,Int.reduceLT,Int.reduceLE,Int.reduceBEq]
  all_goals ((repeat' apply And.intro) <;> first | rfl | omega | (show (_:Bool)=true; kernel_rfl) | decide)
theorem wstep6 (c:Cf) (t:List Tk) (m:List Int) (w:Int) (st:List It) (op p who val fx fy res sp lk d:Int) (h:WIn c t m w ⟨6,st,⟨op,p,who,val,fx,fy,res⟩,sp,lk⟩) :
  PureC Tryz.prog 85 [cv' c,tks t,ms m,iv w,wv ⟨6,st,⟨op,p,who,val,fx,fy,res⟩,sp,lk⟩,u d] (wsv (wq6 c t m w ⟨6,st,⟨op,p,who,val,fx,fy,res⟩,sp,lk⟩ d)):=by
 refine pure_sub okAM 4 Tryz.func85 rfl (by show 6≤_; decide) ?_
 obtain ⟨ht,hm,hs,hmay⟩:=h
 dsimp only at hs
 obtain ⟨hw0,hw1,hcw⟩:=wmay_in hmay
 unfold wq6
 try dsimp only
 have hm1:=hm
 simp only [Tryz.f85,Tryz.func107,Tryz.f107,Tryz.func142,Tryz.f142,inl,AM_all,sx_all,ht,hm,hs,and_self,hmay,tks,wv,its,ms,evs,wsv,less,List.map_cons,List.map_nil,hfq_x,tt_all,cv',cf_eta,shC_dec,dC,hfree_lu,row1,row3,row5,shI_dec,shN_dec,shM_dec,dI,dN,dM,dU_map,iv,bv,u,ms,ctx_T,ctx_C,ctx_P,Option.bind_some,Option.map_some,String.reduceBEq,Int.cast_ofNat_Int,ev1,ev2,implies_true,undef,dynCall,↓condE_f,frzDeep,deepArgs,deepArg,resB,cv,stepB,stepE,callD,tabD,aopR,one,pre,unR,argFrm,evo,lkp,hlk,ofVal,ofCells,setCells,fillA,AV.wr,AV.ok1,TK.agg,frz,frz1,frzt,frzs,frzA,frzArg,frzArgs,subA,subB,subM,subL,sub1,accOf,Nat.reduceAdd,Nat.reduceMul,Nat.reduceEqDiff,Nat.reduceLT,Nat.reduceLeDiff,reduceCtorEq,eq_self,ne_eq,Int.reduceToNat,Int.reduceLT,Int.reduceLE]
 all_goals ((repeat' apply And.intro) <;> first | rfl | omega | (show (_:Bool)=true; kernel_rfl) | decide)
end Go.Vai

/- A worker's step, place by place. -/
namespace Go.Vai
open Go.RowKit Go.Proofs
set_option maxHeartbeats 4000000
set_option maxRecDepth 100000
theorem wstep2 (c:Cf) (t:List Tk) (m:List Int) (w:Int) (st:List It) (p who val fx fy res sp lk d:Int) (h:WIn c t m w ⟨2,st,⟨4,p,who,val,fx,fy,res⟩,sp,lk⟩) :
  PureC Tryz.prog 85 [cv' c,tks t,ms m,iv w,wv ⟨2,st,⟨4,p,who,val,fx,fy,res⟩,sp,lk⟩,u d] (wsv (wq2 c t m w ⟨2,st,⟨4,p,who,val,fx,fy,res⟩,sp,lk⟩ d)):=by
 refine pure_sub okAM 4 Tryz.func85 rfl (by show 6≤_; decide) ?_
 obtain ⟨ht,hm,hs,hmay⟩:=h
 dsimp only at hs
 obtain ⟨hw0,hw1,hcw⟩:=wmay_in hmay
 unfold wq2
 try dsimp only
 have hl:=len_iStep c m ⟨4,p,who,val,fx,fy,res⟩
 obtain ⟨m1,f1,e1⟩:∃ a b,iStep c m ⟨4,p,who,val,fx,fy,res⟩=(a,b):=⟨_,_,rfl⟩
 rw [e1] at hl ⊢
 dsimp only at hl ⊢
 have hm1:m1.length≤1000:=by omega
 have hv:=hcw
 by_cases r0:f1.res=0
 ·have r0':(f1.res != 0)=false:=by simpa using r0
  rw [if_pos r0]
  simp only [Tryz.f85,Tryz.func104,Tryz.f104,Tryz.func139,Tryz.f139,hv,e1,r0,inl,AM_all,sx_all,ht,hm,hs,and_self,hmay,tks,wv,its,ms,evs,wsv,sv,fv,atF,List.map_cons,List.map_nil,hfq_x,tt_all,cv',cf_eta,shC_dec,dC,hfree_lu,row1,row3,row5,shI_dec,shN_dec,shM_dec,dI,dN,dM,dU_map,iv,bv,u,ms,ctx_T,ctx_C,ctx_P,Option.bind_some,Option.map_some,String.reduceBEq,shF_dec,dF,Int.cast_ofNat_Int,ev1,ev2,implies_true,undef,drawB,lateB,mixB,mixB0,usesT,mvV,stepM,rdsT,rdsAny,callLB,callLV,dstV,dynCall,↓condE_t,↓condE_f,frzDeep,deepArgs,deepArg,resB,cv,stepB,stepE,callD,tabD,aopR,one,pre,binR,intOpR,unR,argFrm,evo,lkp,hlk,ofVal,ofCells,setCells,fillA,AV.wr,AV.ok1,TK.agg,frz,frz1,frzt,frzs,frzA,frzArg,frzArgs,subA,subB,subM,subL,sub1,accOf,Nat.reduceAdd,Nat.reduceMul,Nat.reduceEqDiff,Nat.reduceLT,Nat.reduceLeDiff,reduceCtorEq,eq_self,ne_eq,Int.reduceToNat,Int.reduceLT,Int.reduceLE,Int.reduceBEq,Int.reduceBNe]
  repeat' apply And.intro
  all_goals first | rfl | omega | (show entryOk _ _ _ _ _=true; kernel_rfl) | (show pivotOk _ _=true; kernel_rfl) | (show mixOk _ _=true; kernel_rfl) | (refine WP.of okAM 3 (by rfl) ?_)
  all_goals (simp only [Tryz.func104,Tryz.f104,Tryz.func139,Tryz.f139,hv,e1,r0,r0',r_scpG,r_ngR,r_ngN,scopeG,findLabel,inl,AM_all,sx_all,ht,hm,hs,hm1,and_self,hmay,tks,wv,its,zs,ms,evs,wsv,sv,fv,acv,atF,toW,withW,stW,fr00,fBegin,less,ev',List.map_cons,List.map_nil,List.length_map,hfq_x,hfe1,hfe2,hfe3,hfe4,tt_all,hfree_fr,hfree_cf,cv',cf_eta,frz_u,shC_dec,dC,T23,T42,T30,hfree_lu,hfree_l0,row0,row1,row2,row3,row4,row5,shI_dec,shN_dec,shB_dec,shM_dec,dI,dN,dB,dM,dU,dU_map,iv,bv,u,ms,ctx_T,ctx_C,ctx_P,T4,T3,T40,Option.bind_some,Option.bind_none,Option.map_some,List.length_map,List.length_set,String.reduceBEq,Int.toNat_natCast,Bool.true_beq,Bool.false_beq,T29,shF_dec,dF,fr_eta,Int.cast_ofNat_Int,Int.reduceSub,Int.reduceAdd,Int.reduceNeg,ev1,ev2,implies_true,undef,stepP,drawB,stepL,lateB,lateB0,mixB,mixB0,usesT,mvV,stepM,rdsT,rdsAny,isRd,afterL,preB,callLB,callLV,lateV,dstV,dynCall,↓condE_t,↓condE_f,↓guardE_tt,↓guardE_ff,↓guardE_tf,↓guardE_ft,frzDeep,deepArgs,deepArg,resB,cv,stepB,stepE,callD,tabD,snapD,frzD,frzHs,frzH,ownD,snap1,snapC,snapId,snapIds,guardB,guardC,dstAt,aopR,one,pre,binR,intOpR,shiftOpR,unR,argFrm,evo,lkp,hlk,lenOf,asLst,idOf,bndA,srcOk,ofVal,ofCells,setCells,fillA,setElems,fieldsOf,fieldsEq,scalEq,isEq,AV.wr,AV.ok1,TK.agg,frz,frz1,frzt,frzs,frzA,frzArg,frzArgs,subA,subB,subM,subL,sub1,kp,kh,accOf,List.replicate,Nat.reduceAdd,Nat.reduceSub,Nat.reduceMul,Nat.reduceEqDiff,Nat.reduceLT,Nat.reduceLeDiff,Nat.reduceBEq,reduceIte,reduceCtorEq,eq_self,ne_eq,Int.reduceToNat,Int.reduceLT,Int.reduceLE,Int.reduceGT,Int.reduceGE,Int.reduceBEq,Int.reduceBNe,Int.reduceEq,Int.reduceNe]; all_goals ((repeat' apply And.intro) <;> first | rfl | omega | (show (_:Bool)=true; kernel_rfl) | decide))
 ·have r0':(f1.res != 0)=true:=by simpa using r0
  rw [if_neg r0]
  by_cases r1:f1.res=1
  ·have r1':(f1.res == 1)=true:=by simpa using r1
   rw [if_pos r1]
   simp only [Tryz.f85,Tryz.func104,Tryz.f104,Tryz.func139,Tryz.f139,hv,e1,r0',r1',r_scpG,scopeG,findLabel,inl,AM_all,sx_all,ht,hm,hs,and_self,hmay,tks,wv,its,ms,evs,wsv,sv,fv,List.map_cons,List.map_nil,tt_all,cv',cf_eta,shC_dec,dC,row1,row3,row5,shI_dec,shN_dec,shM_dec,dI,dN,dM,dU_map,iv,bv,u,ms,ctx_T,ctx_C,ctx_P,Option.bind_some,Option.map_some,String.reduceBEq,shF_dec,dF,fr_eta,Int.cast_ofNat_Int,ev1,ev2,implies_true,undef,drawB,lateB,mixB,mixB0,usesT,mvV,stepM,rdsT,rdsAny,callLB,callLV,dstV,dynCall,↓condE_t,↓condE_f,frzDeep,deepArgs,deepArg,resB,cv,stepB,stepE,callD,tabD,aopR,one,pre,binR,intOpR,unR,argFrm,evo,lkp,hlk,ofVal,ofCells,setCells,fillA,AV.wr,AV.ok1,TK.agg,frz,frz1,frzA,frzArg,frzArgs,subA,subB,sub1,accOf,Nat.reduceAdd,Nat.reduceMul,Nat.reduceEqDiff,Nat.reduceLT,Nat.reduceLeDiff,Nat.reduceBEq,reduceCtorEq,eq_self,ne_eq,Int.reduceToNat,Int.reduceLT,Int.reduceLE,Int.reduceBEq]
   repeat' apply And.intro
   all_goals first | rfl | omega | (show entryOk _ _ _ _ _=true; kernel_rfl) | (show pivotOk _ _=true; kernel_rfl) | (show mixOk _ _=true; kernel_rfl) | (refine WP.of okAM 3 (by rfl) ?_)
   all_goals (simp only [r_ngN,and_self,List.map_cons,List.map_nil,hfq_x,tt_all,hfree_lu,ctx_T,ev1,ev2,implies_true,undef,dynCall,resB,cv,stepB,stepE,aopR,one,pre,evo,lkp,hlk,ofCells,setCells,AV.wr,AV.ok1,TK.agg,frz1,frzt,frzs,frzA,subB,subM,subL,sub1,accOf,Nat.reduceAdd,Nat.reduceEqDiff,Nat.reduceLT,Nat.reduceLeDiff,reduceCtorEq,eq_self,ne_eq]; all_goals ((repeat' apply And.intro) <;> first | rfl | omega | (show (_:Bool)=true; kernel_rfl) | decide))
  ·have r1':(f1.res == 1)=false:=by simpa using r1
   rw [if_neg r1]
   by_cases v0:victim d w c.w ≥ 0
   ·have v0':0≤victim d w c.w:=v0
    rw [if_pos v0']
    simp only [Tryz.f85,Tryz.func104,Tryz.f104,Tryz.func139,Tryz.f139,Tryz.func143,Tryz.f143,hv,e1,r0',r1',v0,inl,AM_all,sx_all,ht,hm,hs,and_self,hmay,tks,wv,its,ms,evs,wsv,sv,fv,withW,fBegin,List.map_cons,List.map_nil,hfq_x,tt_all,cv',cf_eta,shC_dec,dC,hfree_lu,row1,row3,row5,shI_dec,shN_dec,shM_dec,dI,dN,dM,dU_map,iv,bv,u,ms,ctx_T,ctx_C,ctx_P,Option.bind_some,Option.map_some,String.reduceBEq,shF_dec,dF,fr_eta,Int.cast_ofNat_Int,ev1,ev2,implies_true,undef,drawB,lateB,mixB,mixB0,usesT,mvV,stepM,rdsT,rdsAny,callLB,callLV,dstV,dynCall,↓condE_t,↓condE_f,↓guardE_tt,frzDeep,deepArgs,deepArg,resB,cv,stepB,stepE,callD,tabD,guardB,guardC,dstAt,aopR,one,pre,binR,intOpR,unR,argFrm,evo,lkp,hlk,ofVal,ofCells,setCells,fillA,AV.wr,AV.ok1,TK.agg,frz,frz1,frzt,frzs,frzA,frzArg,frzArgs,subA,subB,subM,subL,sub1,accOf,Nat.reduceAdd,Nat.reduceMul,Nat.reduceEqDiff,Nat.reduceLT,Nat.reduceLeDiff,reduceCtorEq,eq_self,ne_eq,Int.reduceToNat,Int.reduceLT,Int.reduceLE,Int.reduceBEq]
    repeat' apply And.intro
    all_goals first | rfl | omega | (show entryOk _ _ _ _ _=true; kernel_rfl) | (show pivotOk _ _=true; kernel_rfl) | (show mixOk _ _=true; kernel_rfl) | (refine WP.of okAM 3 (by rfl) ?_)
    all_goals (simp only [Tryz.func104,Tryz.f104,Tryz.func139,Tryz.f139,Tryz.func143,Tryz.f143,hv,e1,r0',r1',v0,r_scpG,r_ngR,r_ngN,scopeG,findLabel,inl,AM_all,sx_all,ht,hm,hs,hm1,and_self,hmay,tks,wv,its,zs,ms,evs,wsv,sv,fv,acv,atF,toW,withW,stW,fr00,fBegin,less,ev',List.map_cons,List.map_nil,List.length_map,hfq_x,hfe1,hfe2,hfe3,hfe4,tt_all,hfree_fr,hfree_cf,cv',cf_eta,frz_u,shC_dec,dC,T23,T42,T30,hfree_lu,hfree_l0,row0,row1,row2,row3,row4,row5,shI_dec,shN_dec,shB_dec,shM_dec,dI,dN,dB,dM,dU,dU_map,iv,bv,u,ms,ctx_T,ctx_C,ctx_P,T4,T3,T40,Option.bind_some,Option.bind_none,Option.map_some,List.length_map,List.length_set,String.reduceBEq,Int.toNat_natCast,Bool.true_beq,Bool.false_beq,T29,shF_dec,dF,fr_eta,Int.cast_ofNat_Int,Int.reduceSub,Int.reduceAdd,Int.reduceNeg,ev1,ev2,implies_true,undef,stepP,drawB,stepL,lateB,lateB0,mixB,mixB0,usesT,mvV,stepM,rdsT,rdsAny,isRd,afterL,preB,callLB,callLV,lateV,dstV,dynCall,↓condE_t,↓condE_f,↓guardE_tt,↓guardE_ff,↓guardE_tf,↓guardE_ft,frzDeep,deepArgs,deepArg,resB,cv,stepB,stepE,callD,tabD,snapD,frzD,frzHs,frzH,ownD,snap1,snapC,snapId,snapIds,guardB,guardC,dstAt,aopR,one,pre,binR,intOpR,shiftOpR,unR,argFrm,evo,lkp,hlk,lenOf,asLst,idOf,bndA,srcOk,ofVal,ofCells,setCells,fillA,setElems,fieldsOf,fieldsEq,scalEq,isEq,AV.wr,AV.ok1,TK.agg,frz,frz1,frzt,frzs,frzA,frzArg,frzArgs,subA,subB,subM,subL,sub1,kp,kh,accOf,List.replicate,Nat.reduceAdd,Nat.reduceSub,Nat.reduceMul,Nat.reduceEqDiff,Nat.reduceLT,Nat.reduceLeDiff,Nat.reduceBEq,reduceIte,reduceCtorEq,eq_self,ne_eq,Int.reduceToNat,Int.reduceLT,Int.reduceLE,Int.reduceGT,Int.reduceGE,Int.reduceBEq,Int.reduceBNe,Int.reduceEq,Int.reduceNe]; all_goals ((repeat' apply And.intro) <;> first | rfl | omega | (show (_:Bool)=true; kernel_rfl) | decide))
   ·have v0':¬ 0≤victim d w c.w:=v0
    rw [if_neg v0']
    by_cases s0:sp≤0
    ·rw [if_pos s0]
     simp only [Tryz.f85,Tryz.func104,Tryz.f104,Tryz.func139,Tryz.f139,hv,e1,r0',r1',s0,v0,r_scpG,scopeG,findLabel,inl,AM_all,sx_all,ht,hm,hs,and_self,hmay,tks,wv,its,ms,evs,wsv,sv,fv,withW,List.map_cons,List.map_nil,tt_all,cv',cf_eta,shC_dec,dC,row1,row3,row5,shI_dec,shN_dec,shM_dec,dI,dN,dM,dU_map,iv,bv,u,ms,ctx_T,ctx_C,ctx_P,Option.bind_some,Option.map_some,String.reduceBEq,shF_dec,dF,fr_eta,Int.cast_ofNat_Int,ev1,ev2,implies_true,undef,drawB,lateB,mixB,mixB0,usesT,mvV,stepM,rdsT,rdsAny,callLB,callLV,dstV,dynCall,↓condE_t,↓condE_f,↓guardE_tt,frzDeep,deepArgs,deepArg,resB,cv,stepB,stepE,callD,tabD,guardB,guardC,dstAt,aopR,one,pre,binR,intOpR,unR,argFrm,evo,lkp,hlk,ofVal,ofCells,setCells,fillA,AV.wr,AV.ok1,TK.agg,frz,frz1,frzA,frzArg,frzArgs,subA,subB,sub1,accOf,Nat.reduceAdd,Nat.reduceMul,Nat.reduceEqDiff,Nat.reduceLT,Nat.reduceLeDiff,reduceCtorEq,eq_self,ne_eq,Int.reduceToNat,Int.reduceLT,Int.reduceLE,Int.reduceBEq]
     repeat' apply And.intro
     all_goals first | rfl | omega | (show entryOk _ _ _ _ _=true; kernel_rfl) | (show pivotOk _ _=true; kernel_rfl) | (show mixOk _ _=true; kernel_rfl) | (refine WP.of okAM 3 (by rfl) ?_)
     all_goals (simp only [Tryz.func143,Tryz.f143,r_ngR,inl,AM_all,and_self,fv,fBegin,List.map_cons,List.map_nil,hfq_x,tt_all,hfree_lu,row3,shI_dec,shN_dec,dI,dN,iv,u,ctx_T,ctx_C,ctx_P,Option.bind_some,String.reduceBEq,ev1,ev2,implies_true,undef,dynCall,frzDeep,deepArgs,deepArg,resB,cv,stepB,stepE,aopR,one,pre,argFrm,evo,lkp,hlk,ofCells,setCells,AV.wr,AV.ok1,TK.agg,frz1,frzt,frzs,frzA,frzArg,frzArgs,subB,subM,subL,sub1,accOf,Nat.reduceAdd,Nat.reduceEqDiff,Nat.reduceLT,Nat.reduceLeDiff,reduceCtorEq,eq_self,ne_eq]; all_goals ((repeat' apply And.intro) <;> first | rfl | omega | (show (_:Bool)=true; kernel_rfl) | decide))
    ·rw [if_neg s0]
     simp only [Tryz.f85,Tryz.func104,Tryz.f104,Tryz.func139,Tryz.f139,Tryz.func143,Tryz.f143,hv,e1,r0',r1',s0,v0,inl,AM_all,sx_all,ht,hm,hs,and_self,hmay,tks,wv,its,ms,evs,wsv,sv,fv,fBegin,List.map_cons,List.map_nil,hfq_x,tt_all,cv',cf_eta,shC_dec,dC,hfree_lu,row1,row3,row5,shI_dec,shN_dec,shM_dec,dI,dN,dM,dU_map,iv,bv,u,ms,ctx_T,ctx_C,ctx_P,Option.bind_some,Option.map_some,String.reduceBEq,shF_dec,dF,fr_eta,Int.cast_ofNat_Int,ev1,ev2,implies_true,undef,drawB,lateB,mixB,mixB0,usesT,mvV,stepM,rdsT,rdsAny,callLB,callLV,dstV,dynCall,↓condE_t,↓condE_f,↓guardE_tt,frzDeep,deepArgs,deepArg,resB,cv,stepB,stepE,callD,tabD,guardB,guardC,dstAt,aopR,one,pre,binR,intOpR,unR,argFrm,evo,lkp,hlk,ofVal,ofCells,setCells,fillA,AV.wr,AV.ok1,TK.agg,frz,frz1,frzt,frzs,frzA,frzArg,frzArgs,subA,subB,subM,subL,sub1,accOf,Nat.reduceAdd,Nat.reduceMul,Nat.reduceEqDiff,Nat.reduceLT,Nat.reduceLeDiff,reduceCtorEq,eq_self,ne_eq,Int.reduceToNat,Int.reduceLT,Int.reduceLE,Int.reduceBEq]
     repeat' apply And.intro
     all_goals first | rfl | omega | (show entryOk _ _ _ _ _=true; kernel_rfl) | (show pivotOk _ _=true; kernel_rfl) | (show mixOk _ _=true; kernel_rfl) | (refine WP.of okAM 3 (by rfl) ?_)
     all_goals (simp only [Tryz.func104,Tryz.f104,Tryz.func139,Tryz.f139,Tryz.func143,Tryz.f143,hv,e1,r0',r1',s0,v0,r_scpG,r_ngR,r_ngN,scopeG,findLabel,inl,AM_all,sx_all,ht,hm,hs,hm1,and_self,hmay,tks,wv,its,zs,ms,evs,wsv,sv,fv,acv,atF,toW,withW,stW,fr00,fBegin,less,ev',List.map_cons,List.map_nil,List.length_map,hfq_x,hfe1,hfe2,hfe3,hfe4,tt_all,hfree_fr,hfree_cf,cv',cf_eta,frz_u,shC_dec,dC,T23,T42,T30,hfree_lu,hfree_l0,row0,row1,row2,row3,row4,row5,shI_dec,shN_dec,shB_dec,shM_dec,dI,dN,dB,dM,dU,dU_map,iv,bv,u,ms,ctx_T,ctx_C,ctx_P,T4,T3,T40,Option.bind_some,Option.bind_none,Option.map_some,List.length_map,List.length_set,String.reduceBEq,Int.toNat_natCast,Bool.true_beq,Bool.false_beq,T29,shF_dec,dF,fr_eta,Int.cast_ofNat_Int,Int.reduceSub,Int.reduceAdd,Int.reduceNeg,ev1,ev2,implies_true,undef,stepP,drawB,stepL,lateB,lateB0,mixB,mixB0,usesT,mvV,stepM,rdsT,rdsAny,isRd,afterL,preB,callLB,callLV,lateV,dstV,dynCall,↓condE_t,↓condE_f,↓guardE_tt,↓guardE_ff,↓guardE_tf,↓guardE_ft,frzDeep,deepArgs,deepArg,resB,cv,stepB,stepE,callD,tabD,snapD,frzD,frzHs,frzH,ownD,snap1,snapC,snapId,snapIds,guardB,guardC,dstAt,aopR,one,pre,binR,intOpR,shiftOpR,unR,argFrm,evo,lkp,hlk,lenOf,asLst,idOf,bndA,srcOk,ofVal,ofCells,setCells,fillA,setElems,fieldsOf,fieldsEq,scalEq,isEq,AV.wr,AV.ok1,TK.agg,frz,frz1,frzt,frzs,frzA,frzArg,frzArgs,subA,subB,subM,subL,sub1,kp,kh,accOf,List.replicate,Nat.reduceAdd,Nat.reduceSub,Nat.reduceMul,Nat.reduceEqDiff,Nat.reduceLT,Nat.reduceLeDiff,Nat.reduceBEq,reduceIte,reduceCtorEq,eq_self,ne_eq,Int.reduceToNat,Int.reduceLT,Int.reduceLE,Int.reduceGT,Int.reduceGE,Int.reduceBEq,Int.reduceBNe,Int.reduceEq,Int.reduceNe]; all_goals ((repeat' apply And.intro) <;> first | rfl | omega | (show (_:Bool)=true; kernel_rfl) | decide))
theorem wstep3 (c:Cf) (t:List Tk) (m:List Int) (w:Int) (st:List It) (p who val fx fy res sp lk d:Int) (h:WIn c t m w ⟨3,st,⟨2,p,who,val,fx,fy,res⟩,sp,lk⟩) :
  PureC Tryz.prog 85 [cv' c,tks t,ms m,iv w,wv ⟨3,st,⟨2,p,who,val,fx,fy,res⟩,sp,lk⟩,u d] (wsv (wq3 c t m w ⟨3,st,⟨2,p,who,val,fx,fy,res⟩,sp,lk⟩ d)):=by
 refine pure_sub okAM 4 Tryz.func85 rfl (by show 6≤_; decide) ?_
 obtain ⟨ht,hm,hs,hmay⟩:=h
 dsimp only at hs
 obtain ⟨hw0,hw1,hcw⟩:=wmay_in hmay
 unfold wq3
 try dsimp only
 have hl:=len_dqStep c m ⟨2,p,who,val,fx,fy,res⟩
 obtain ⟨m1,f1,e1⟩:∃ a b,dqStep c m ⟨2,p,who,val,fx,fy,res⟩=(a,b):=⟨_,_,rfl⟩
 rw [e1] at hl ⊢
 dsimp only at hl ⊢
 have hm1:m1.length≤1000:=by omega
 have hv:=hcw
 by_cases r0:f1.res=0
 ·have r0':(f1.res != 0)=false:=by simpa using r0
  rw [if_pos r0]
  simp only [Tryz.f85,Tryz.func104,Tryz.f104,Tryz.func139,Tryz.f139,hv,e1,r0,inl,AM_all,sx_all,ht,hm,hs,and_self,hmay,tks,wv,its,ms,evs,wsv,sv,fv,atF,List.map_cons,List.map_nil,hfq_x,tt_all,cv',cf_eta,shC_dec,dC,hfree_lu,row1,row3,row5,shI_dec,shN_dec,shM_dec,dI,dN,dM,dU_map,iv,bv,u,ms,ctx_T,ctx_C,ctx_P,Option.bind_some,Option.map_some,String.reduceBEq,shF_dec,dF,Int.cast_ofNat_Int,ev1,ev2,implies_true,undef,drawB,lateB,mixB,mixB0,usesT,mvV,stepM,rdsT,rdsAny,callLB,callLV,dstV,dynCall,↓condE_t,↓condE_f,frzDeep,deepArgs,deepArg,resB,cv,stepB,stepE,callD,tabD,aopR,one,pre,binR,intOpR,unR,argFrm,evo,lkp,hlk,ofVal,ofCells,setCells,fillA,AV.wr,AV.ok1,TK.agg,frz,frz1,frzt,frzs,frzA,frzArg,frzArgs,subA,subB,subM,subL,sub1,accOf,Nat.reduceAdd,Nat.reduceMul,Nat.reduceEqDiff,Nat.reduceLT,Nat.reduceLeDiff,reduceCtorEq,eq_self,ne_eq,Int.reduceToNat,Int.reduceLT,Int.reduceLE,Int.reduceBEq,Int.reduceBNe]
  repeat' apply And.intro
  all_goals first | rfl | omega | (show entryOk _ _ _ _ _=true; kernel_rfl) | (show pivotOk _ _=true; kernel_rfl) | (show mixOk _ _=true; kernel_rfl) | (refine WP.of okAM 3 (by rfl) ?_)
  all_goals (simp only [Tryz.func104,Tryz.f104,Tryz.func139,Tryz.f139,hv,e1,r0,r0',r_scpG,r_ngR,r_ngN,scopeG,findLabel,inl,AM_all,sx_all,ht,hm,hs,hm1,and_self,hmay,tks,wv,its,zs,ms,evs,wsv,sv,fv,acv,atF,toW,withW,stW,fr00,fBegin,less,ev',List.map_cons,List.map_nil,List.length_map,hfq_x,hfe1,hfe2,hfe3,hfe4,tt_all,hfree_fr,hfree_cf,cv',cf_eta,frz_u,shC_dec,dC,T23,T42,T30,hfree_lu,hfree_l0,row0,row1,row2,row3,row4,row5,shI_dec,shN_dec,shB_dec,shM_dec,dI,dN,dB,dM,dU,dU_map,iv,bv,u,ms,ctx_T,ctx_C,ctx_P,T4,T3,T40,Option.bind_some,Option.bind_none,Option.map_some,List.length_map,List.length_set,String.reduceBEq,Int.toNat_natCast,Bool.true_beq,Bool.false_beq,T29,shF_dec,dF,fr_eta,Int.cast_ofNat_Int,Int.reduceSub,Int.reduceAdd,Int.reduceNeg,ev1,ev2,implies_true,undef,stepP,drawB,stepL,lateB,lateB0,mixB,mixB0,usesT,mvV,stepM,rdsT,rdsAny,isRd,afterL,preB,callLB,callLV,lateV,dstV,dynCall,↓condE_t,↓condE_f,↓guardE_tt,↓guardE_ff,↓guardE_tf,↓guardE_ft,frzDeep,deepArgs,deepArg,resB,cv,stepB,stepE,callD,tabD,snapD,frzD,frzHs,frzH,ownD,snap1,snapC,snapId,snapIds,guardB,guardC,dstAt,aopR,one,pre,binR,intOpR,shiftOpR,unR,argFrm,evo,lkp,hlk,lenOf,asLst,idOf,bndA,srcOk,ofVal,ofCells,setCells,fillA,setElems,fieldsOf,fieldsEq,scalEq,isEq,AV.wr,AV.ok1,TK.agg,frz,frz1,frzt,frzs,frzA,frzArg,frzArgs,subA,subB,subM,subL,sub1,kp,kh,accOf,List.replicate,Nat.reduceAdd,Nat.reduceSub,Nat.reduceMul,Nat.reduceEqDiff,Nat.reduceLT,Nat.reduceLeDiff,Nat.reduceBEq,reduceIte,reduceCtorEq,eq_self,ne_eq,Int.reduceToNat,Int.reduceLT,Int.reduceLE,Int.reduceGT,Int.reduceGE,Int.reduceBEq,Int.reduceBNe,Int.reduceEq,Int.reduceNe]; all_goals ((repeat' apply And.intro) <;> first | rfl | omega | (show (_:Bool)=true; kernel_rfl) | decide))
 ·have r0':(f1.res != 0)=true:=by simpa using r0
  rw [if_neg r0]
  by_cases r1:f1.res=1
  ·have r1':(f1.res == 1)=true:=by simpa using r1
   rw [if_pos r1]
   simp only [Tryz.f85,Tryz.func104,Tryz.f104,Tryz.func139,Tryz.f139,hv,e1,r0',r1',r_scpG,scopeG,findLabel,inl,AM_all,sx_all,ht,hm,hs,and_self,hmay,tks,wv,its,ms,evs,wsv,sv,fv,List.map_cons,List.map_nil,tt_all,cv',cf_eta,shC_dec,dC,row1,row3,row5,shI_dec,shN_dec,shM_dec,dI,dN,dM,dU_map,iv,bv,u,ms,ctx_T,ctx_C,ctx_P,Option.bind_some,Option.map_some,String.reduceBEq,shF_dec,dF,fr_eta,Int.cast_ofNat_Int,ev1,ev2,implies_true,undef,drawB,lateB,mixB,mixB0,usesT,mvV,stepM,rdsT,rdsAny,callLB,callLV,dstV,dynCall,↓condE_t,↓condE_f,frzDeep,deepArgs,deepArg,resB,cv,stepB,stepE,callD,tabD,aopR,one,pre,binR,intOpR,unR,argFrm,evo,lkp,hlk,ofVal,ofCells,setCells,fillA,AV.wr,AV.ok1,TK.agg,frz,frz1,frzA,frzArg,frzArgs,subA,subB,sub1,accOf,Nat.reduceAdd,Nat.reduceMul,Nat.reduceEqDiff,Nat.reduceLT,Nat.reduceLeDiff,Nat.reduceBEq,reduceCtorEq,eq_self,ne_eq,Int.reduceToNat,Int.reduceLT,Int.reduceLE,Int.reduceBEq]
   repeat' apply And.intro
   all_goals first | rfl | omega | (show entryOk _ _ _ _ _=true; kernel_rfl) | (show pivotOk _ _=true; kernel_rfl) | (show mixOk _ _=true; kernel_rfl) | (refine WP.of okAM 3 (by rfl) ?_)
   all_goals (simp only [r_ngN,and_self,List.map_cons,List.map_nil,hfq_x,tt_all,hfree_lu,ctx_T,ev1,ev2,implies_true,undef,dynCall,resB,cv,stepB,stepE,aopR,one,pre,evo,lkp,hlk,ofCells,setCells,AV.wr,AV.ok1,TK.agg,frz1,frzt,frzs,frzA,subB,subM,subL,sub1,accOf,Nat.reduceAdd,Nat.reduceEqDiff,Nat.reduceLT,Nat.reduceLeDiff,reduceCtorEq,eq_self,ne_eq]; all_goals ((repeat' apply And.intro) <;> first | rfl | omega | (show (_:Bool)=true; kernel_rfl) | decide))
  ·have r1':(f1.res == 1)=false:=by simpa using r1
   rw [if_neg r1]
   by_cases s0:sp≤0
   ·rw [if_pos s0]
    simp only [Tryz.f85,Tryz.func104,Tryz.f104,Tryz.func139,Tryz.f139,hv,e1,r0',r1',s0,r_scpG,scopeG,findLabel,inl,AM_all,sx_all,ht,hm,hs,and_self,hmay,tks,wv,its,ms,evs,wsv,sv,fv,withW,List.map_cons,List.map_nil,tt_all,cv',cf_eta,shC_dec,dC,row1,row3,row5,shI_dec,shN_dec,shM_dec,dI,dN,dM,dU_map,iv,bv,u,ms,ctx_T,ctx_C,ctx_P,Option.bind_some,Option.map_some,String.reduceBEq,shF_dec,dF,fr_eta,Int.cast_ofNat_Int,ev1,ev2,implies_true,undef,drawB,lateB,mixB,mixB0,usesT,mvV,stepM,rdsT,rdsAny,callLB,callLV,dstV,dynCall,↓condE_t,↓condE_f,↓guardE_ft,frzDeep,deepArgs,deepArg,resB,cv,stepB,stepE,callD,tabD,guardB,guardC,dstAt,aopR,one,pre,binR,intOpR,unR,argFrm,evo,lkp,hlk,ofVal,ofCells,setCells,fillA,AV.wr,AV.ok1,TK.agg,frz,frz1,frzA,frzArg,frzArgs,subA,subB,sub1,accOf,Nat.reduceAdd,Nat.reduceMul,Nat.reduceEqDiff,Nat.reduceLT,Nat.reduceLeDiff,reduceCtorEq,eq_self,ne_eq,Int.reduceToNat,Int.reduceLT,Int.reduceLE,Int.reduceBEq]
    repeat' apply And.intro
    all_goals first | rfl | omega | (show entryOk _ _ _ _ _=true; kernel_rfl) | (show pivotOk _ _=true; kernel_rfl) | (show mixOk _ _=true; kernel_rfl) | (refine WP.of okAM 3 (by rfl) ?_)
    all_goals (simp only [Tryz.func143,Tryz.f143,r_ngR,inl,AM_all,and_self,fv,fBegin,List.map_cons,List.map_nil,hfq_x,tt_all,hfree_lu,row3,shI_dec,shN_dec,dI,dN,iv,u,ctx_T,ctx_C,ctx_P,Option.bind_some,String.reduceBEq,ev1,ev2,implies_true,undef,dynCall,frzDeep,deepArgs,deepArg,resB,cv,stepB,stepE,aopR,one,pre,argFrm,evo,lkp,hlk,ofCells,setCells,AV.wr,AV.ok1,TK.agg,frz1,frzt,frzs,frzA,frzArg,frzArgs,subB,subM,subL,sub1,accOf,Nat.reduceAdd,Nat.reduceEqDiff,Nat.reduceLT,Nat.reduceLeDiff,reduceCtorEq,eq_self,ne_eq]; all_goals ((repeat' apply And.intro) <;> first | rfl | omega | (show (_:Bool)=true; kernel_rfl) | decide))
   ·rw [if_neg s0]
    simp only [Tryz.f85,Tryz.func104,Tryz.f104,Tryz.func139,Tryz.f139,Tryz.func143,Tryz.f143,hv,e1,r0',r1',s0,inl,AM_all,sx_all,ht,hm,hs,and_self,hmay,tks,wv,its,ms,evs,wsv,sv,fv,fBegin,List.map_cons,List.map_nil,hfq_x,tt_all,cv',cf_eta,shC_dec,dC,hfree_lu,row1,row3,row5,shI_dec,shN_dec,shM_dec,dI,dN,dM,dU_map,iv,bv,u,ms,ctx_T,ctx_C,ctx_P,Option.bind_some,Option.map_some,String.reduceBEq,shF_dec,dF,fr_eta,Int.cast_ofNat_Int,ev1,ev2,implies_true,undef,drawB,lateB,mixB,mixB0,usesT,mvV,stepM,rdsT,rdsAny,callLB,callLV,dstV,dynCall,↓condE_t,↓condE_f,↓guardE_ft,frzDeep,deepArgs,deepArg,resB,cv,stepB,stepE,callD,tabD,guardB,guardC,dstAt,aopR,one,pre,binR,intOpR,unR,argFrm,evo,lkp,hlk,ofVal,ofCells,setCells,fillA,AV.wr,AV.ok1,TK.agg,frz,frz1,frzt,frzs,frzA,frzArg,frzArgs,subA,subB,subM,subL,sub1,accOf,Nat.reduceAdd,Nat.reduceMul,Nat.reduceEqDiff,Nat.reduceLT,Nat.reduceLeDiff,reduceCtorEq,eq_self,ne_eq,Int.reduceToNat,Int.reduceLT,Int.reduceLE,Int.reduceBEq]
    repeat' apply And.intro
    all_goals first | rfl | omega | (show entryOk _ _ _ _ _=true; kernel_rfl) | (show pivotOk _ _=true; kernel_rfl) | (show mixOk _ _=true; kernel_rfl) | (refine WP.of okAM 3 (by rfl) ?_)
    all_goals (simp only [Tryz.func104,Tryz.f104,Tryz.func139,Tryz.f139,Tryz.func143,Tryz.f143,hv,e1,r0',r1',s0,r_scpG,r_ngR,r_ngN,scopeG,findLabel,inl,AM_all,sx_all,ht,hm,hs,hm1,and_self,hmay,tks,wv,its,zs,ms,evs,wsv,sv,fv,acv,atF,toW,withW,stW,fr00,fBegin,less,ev',List.map_cons,List.map_nil,List.length_map,hfq_x,hfe1,hfe2,hfe3,hfe4,tt_all,hfree_fr,hfree_cf,cv',cf_eta,frz_u,shC_dec,dC,T23,T42,T30,hfree_lu,hfree_l0,row0,row1,row2,row3,row4,row5,shI_dec,shN_dec,shB_dec,shM_dec,dI,dN,dB,dM,dU,dU_map,iv,bv,u,ms,ctx_T,ctx_C,ctx_P,T4,T3,T40,Option.bind_some,Option.bind_none,Option.map_some,List.length_map,List.length_set,String.reduceBEq,Int.toNat_natCast,Bool.true_beq,Bool.false_beq,T29,shF_dec,dF,fr_eta,Int.cast_ofNat_Int,Int.reduceSub,Int.reduceAdd,Int.reduceNeg,ev1,ev2,implies_true,undef,stepP,drawB,stepL,lateB,lateB0,mixB,mixB0,usesT,mvV,stepM,rdsT,rdsAny,isRd,afterL,preB,callLB,callLV,lateV,dstV,dynCall,↓condE_t,↓condE_f,↓guardE_tt,↓guardE_ff,↓guardE_tf,↓guardE_ft,frzDeep,deepArgs,deepArg,resB,cv,stepB,stepE,callD,tabD,snapD,frzD,frzHs,frzH,ownD,snap1,snapC,snapId,snapIds,guardB,guardC,dstAt,aopR,one,pre,binR,intOpR,shiftOpR,unR,argFrm,evo,lkp,hlk,lenOf,asLst,idOf,bndA,srcOk,ofVal,ofCells,setCells,fillA,setElems,fieldsOf,fieldsEq,scalEq,isEq,AV.wr,AV.ok1,TK.agg,frz,frz1,frzt,frzs,frzA,frzArg,frzArgs,subA,subB,subM,subL,sub1,kp,kh,accOf,List.replicate,Nat.reduceAdd,Nat.reduceSub,Nat.reduceMul,Nat.reduceEqDiff,Nat.reduceLT,Nat.reduceLeDiff,Nat.reduceBEq,reduceIte,reduceCtorEq,eq_self,ne_eq,Int.reduceToNat,Int.reduceLT,Int.reduceLE,Int.reduceGT,Int.reduceGE,Int.reduceBEq,Int.reduceBNe,Int.reduceEq,Int.reduceNe]; all_goals ((repeat' apply And.intro) <;> first | rfl | omega | (show (_:Bool)=true; kernel_rfl) | decide))
end Go.Vai

/- A worker's step, place by place. -/
namespace Go.Vai
open Go.RowKit Go.Proofs
set_option maxHeartbeats 4000000
set_option maxRecDepth 100000
theorem wstep7 (c:Cf) (t:List Tk) (m:List Int) (w:Int) (st:List It) (op p who val fx fy res sp lk d:Int) (h:WIn c t m w ⟨7,st,⟨op,p,who,val,fx,fy,res⟩,sp,lk⟩) :
  PureC Tryz.prog 85 [cv' c,tks t,ms m,iv w,wv ⟨7,st,⟨op,p,who,val,fx,fy,res⟩,sp,lk⟩,u d] (wsv (wq7 c t m w ⟨7,st,⟨op,p,who,val,fx,fy,res⟩,sp,lk⟩ d)):=by
 refine pure_sub okAM 4 Tryz.func85 rfl (by show 6≤_; decide) ?_
 obtain ⟨ht,hm,hs,hmay⟩:=h
 dsimp only at hs
 obtain ⟨hw0,hw1,hcw⟩:=wmay_in hmay
 unfold wq7
 try dsimp only
 have hm1:=hm
 have w2:IntKind.wrap .i64 (2 * c.w)=2 * c.w:=wrap_i (by omega) (by omega)
 have w3:IntKind.wrap .i64 (2 + 2 * c.w)=2 + 2 * c.w:=wrap_i (by omega) (by omega)
 by_cases k0:lk < 0
 ·rw [if_pos (.inl k0)]
  simp only [Tryz.f85,Tryz.func108,Tryz.f108,k0,w2,w3,inl,AM_all,sx_all,ht,hm,hs,and_self,hmay,tks,wv,its,ms,evs,wsv,List.map_cons,List.map_nil,hfq_x,tt_all,cv',cf_eta,shC_dec,dC,hfree_lu,row1,row5,shI_dec,shM_dec,dI,dM,dU_map,iv,bv,u,ms,ctx_T,ctx_C,ctx_P,Option.bind_some,Option.map_some,String.reduceBEq,Int.cast_ofNat_Int,ev1,ev2,implies_true,undef,dynCall,↓condE_t,↓condE_f,↓guardE_tf,frzDeep,deepArgs,deepArg,resB,cv,stepB,stepE,callD,tabD,guardB,guardC,dstAt,aopR,one,pre,binR,intOpR,unR,argFrm,evo,lkp,hlk,ofVal,ofCells,setCells,fillA,AV.wr,AV.ok1,TK.agg,frz,frz1,frzt,frzs,frzA,frzArg,frzArgs,subA,subB,subM,subL,sub1,accOf,Nat.reduceAdd,Nat.reduceMul,Nat.reduceEqDiff,Nat.reduceLT,Nat.reduceLeDiff,reduceCtorEq,eq_self,ne_eq,Int.reduceToNat,Int.reduceLT,Int.reduceLE]
  all_goals ((repeat' apply And.intro) <;> first | rfl | omega | (show (_:Bool)=true; kernel_rfl) | decide)
 ·by_cases k1:lk ≥ 2 + 2 * c.w
  ·rw [if_pos (.inr k1)]
   simp only [Tryz.f85,Tryz.func108,Tryz.f108,k0,k1,w2,w3,inl,AM_all,sx_all,ht,hm,hs,and_self,hmay,tks,wv,its,ms,evs,wsv,List.map_cons,List.map_nil,hfq_x,tt_all,cv',cf_eta,shC_dec,dC,hfree_lu,row1,row5,shI_dec,shM_dec,dI,dM,dU_map,iv,bv,u,ms,ctx_T,ctx_C,ctx_P,Option.bind_some,Option.map_some,String.reduceBEq,Int.cast_ofNat_Int,ev1,ev2,implies_true,undef,dynCall,↓condE_t,↓condE_f,↓guardE_ff,frzDeep,deepArgs,deepArg,resB,cv,stepB,stepE,callD,tabD,guardB,guardC,dstAt,aopR,one,pre,binR,intOpR,unR,argFrm,evo,lkp,hlk,ofVal,ofCells,setCells,fillA,AV.wr,AV.ok1,TK.agg,frz,frz1,frzt,frzs,frzA,frzArg,frzArgs,subA,subB,subM,subL,sub1,accOf,Nat.reduceAdd,Nat.reduceMul,Nat.reduceEqDiff,Nat.reduceLT,Nat.reduceLeDiff,reduceCtorEq,eq_self,ne_eq,Int.reduceToNat,Int.reduceLT,Int.reduceLE]
   all_goals ((repeat' apply And.intro) <;> first | rfl | omega | (show (_:Bool)=true; kernel_rfl) | decide)
  ·rw [if_neg (by omega)]
   have w4:IntKind.wrap .i64 (lk - 2)=lk - 2:=wrap_i (by omega) (by omega)
   have w6:IntKind.wrap .i64 (lk + 1)=lk + 1:=wrap_i (by omega) (by omega)
   have z2:((2:Int)=0)=False:=eq_false (by decide)
   unfold againW
   by_cases q0:lk=0
   ·subst q0
    have n1:(1:Int)≠2 + 2 * c.w:=by omega
    have n1':((1:Int) == 2 + 2 * c.w)=false:=by simpa using n1
    have w4:IntKind.wrap .i64 ((0:Int) - 2)=-2:=by decide
    have w5:IntKind.wrap .i64 ((-2:Int).tdiv 2)=-1:=by decide
    have w6:IntKind.wrap .i64 ((0:Int) + 1)=1:=by decide
    have w7:IntKind.wrap .i64 (-2:Int)=-2:=by decide
    have w8:IntKind.wrap .i64 (1:Int)=1:=by decide
    rw [if_pos rfl]
    dsimp only
    rw [if_neg (by decide),if_neg (by simpa using n1)]
    simp only [Tryz.f85,Tryz.func108,Tryz.f108,k0,k1,w2,w3,w5,w7,w8,n1',z2,not_false_eq_true,inl,AM_all,sx_all,ht,hm,hs,and_self,hmay,tks,wv,its,ms,evs,wsv,List.map_cons,List.map_nil,hfq_x,tt_all,cv',cf_eta,shC_dec,dC,hfree_lu,row1,row2,row5,shI_dec,shM_dec,dI,dM,dU_map,iv,bv,u,ms,ctx_T,ctx_C,ctx_P,Option.bind_some,Option.map_some,String.reduceBEq,Int.cast_ofNat_Int,Int.reduceSub,Int.reduceAdd,Int.reduceNeg,ev1,ev2,implies_true,undef,dynCall,↓condE_t,↓condE_f,↓guardE_ff,frzDeep,deepArgs,deepArg,resB,cv,stepB,stepE,callD,tabD,guardB,guardC,dstAt,aopR,one,pre,binR,intOpR,unR,argFrm,evo,lkp,hlk,ofVal,ofCells,setCells,fillA,AV.wr,AV.ok1,TK.agg,frz,frz1,frzt,frzs,frzA,frzArg,frzArgs,subA,subB,subM,subL,sub1,accOf,Nat.reduceAdd,Nat.reduceMul,Nat.reduceEqDiff,Nat.reduceLT,Nat.reduceLeDiff,reduceCtorEq,eq_self,ne_eq,Int.reduceToNat,Int.reduceLT,Int.reduceLE]
    all_goals ((repeat' apply And.intro) <;> first | rfl | omega | (show (_:Bool)=true; kernel_rfl) | decide)
   ·have q0':(lk == 0)=false:=by simpa using q0
    rw [if_neg q0]
    by_cases q1:lk=1
    ·subst q1
     have n1:(2:Int)≠2 + 2 * c.w:=by omega
     have n1':((2:Int) == 2 + 2 * c.w)=false:=by simpa using n1
     have w4:IntKind.wrap .i64 ((1:Int) - 2)=-1:=by decide
     have w5:IntKind.wrap .i64 ((-1:Int).tdiv 2)=0:=by decide
     have w6:IntKind.wrap .i64 ((1:Int) + 1)=2:=by decide
     have w7:IntKind.wrap .i64 (-1:Int)=-1:=by decide
     have w8:IntKind.wrap .i64 (2:Int)=2:=by decide
     rw [if_pos rfl]
     dsimp only
     cases q2:mLoad m 5 != val with
     | true=>
      rw [if_pos rfl]
      simp only [Tryz.f85,Tryz.func108,Tryz.f108,Tryz.func140,Tryz.f140,k0,k1,w2,w3,w5,w7,q2,z2,not_false_eq_true,inl,AM_all,sx_all,ht,hm,hs,and_self,hmay,tks,wv,its,ms,evs,wsv,toW,fr00,List.map_cons,List.map_nil,hfq_x,tt_all,cv',cf_eta,shC_dec,dC,hfree_lu,row1,row2,row5,shI_dec,shM_dec,dI,dM,dU_map,iv,bv,u,ms,ctx_T,ctx_C,ctx_P,Option.bind_some,Option.map_some,String.reduceBEq,Int.cast_ofNat_Int,Int.reduceSub,Int.reduceNeg,ev1,ev2,implies_true,undef,dynCall,↓condE_t,↓condE_f,↓guardE_ff,frzDeep,deepArgs,deepArg,resB,cv,stepB,stepE,callD,tabD,guardB,guardC,dstAt,aopR,one,pre,binR,intOpR,unR,argFrm,evo,lkp,hlk,ofVal,ofCells,setCells,fillA,AV.wr,AV.ok1,TK.agg,frz,frz1,frzt,frzs,frzA,frzArg,frzArgs,subA,subB,subM,subL,sub1,accOf,Nat.reduceAdd,Nat.reduceMul,Nat.reduceEqDiff,Nat.reduceLT,Nat.reduceLeDiff,reduceCtorEq,eq_self,ne_eq,Int.reduceToNat,Int.reduceLT,Int.reduceLE,Int.reduceBEq]
      all_goals ((repeat' apply And.intro) <;> first | rfl | omega | (show (_:Bool)=true; kernel_rfl) | decide)
     | false=>
      rw [if_neg (by decide),if_neg (by simpa using n1)]
      simp only [Tryz.f85,Tryz.func108,Tryz.f108,k0,k1,w2,w3,w5,w7,w8,q2,n1',z2,not_false_eq_true,inl,AM_all,sx_all,ht,hm,hs,and_self,hmay,tks,wv,its,ms,evs,wsv,List.map_cons,List.map_nil,hfq_x,tt_all,cv',cf_eta,shC_dec,dC,hfree_lu,row1,row2,row5,shI_dec,shM_dec,dI,dM,dU_map,iv,bv,u,ms,ctx_T,ctx_C,ctx_P,Option.bind_some,Option.map_some,String.reduceBEq,Int.cast_ofNat_Int,Int.reduceSub,Int.reduceAdd,Int.reduceNeg,ev1,ev2,implies_true,undef,dynCall,↓condE_t,↓condE_f,↓guardE_ff,frzDeep,deepArgs,deepArg,resB,cv,stepB,stepE,callD,tabD,guardB,guardC,dstAt,aopR,one,pre,binR,intOpR,unR,argFrm,evo,lkp,hlk,ofVal,ofCells,setCells,fillA,AV.wr,AV.ok1,TK.agg,frz,frz1,frzt,frzs,frzA,frzArg,frzArgs,subA,subB,subM,subL,sub1,accOf,Nat.reduceAdd,Nat.reduceMul,Nat.reduceEqDiff,Nat.reduceLT,Nat.reduceLeDiff,reduceCtorEq,eq_self,ne_eq,Int.reduceToNat,Int.reduceLT,Int.reduceLE,Int.reduceBEq]
      all_goals ((repeat' apply And.intro) <;> first | rfl | omega | (show (_:Bool)=true; kernel_rfl) | decide)
    ·have q1':(lk == 1)=false:=by simpa using q1
     have ht2:(lk - 2).tdiv 2=(lk - 2) / 2:=Int.tdiv_eq_ediv_of_nonneg (by omega)
     have w5:IntKind.wrap .i64 ((lk - 2).tdiv 2)=(lk - 2).tdiv 2:=by rw [ht2]; exact wrap_i (by omega) (by omega)
     rw [if_neg q1]
     by_cases q2:lk.tmod 2=0
     ·have q2':(lk.tmod 2 == 0)=true:=by simpa using q2
      rw [if_pos q2]
      dsimp only
      rw [if_neg (by decide)]
      cases q3:lk + 1 == 2 + 2 * c.w with
      | true=>
       rw [if_pos (by simpa using q3)]
       simp only [Tryz.f85,Tryz.func108,Tryz.f108,k0,k1,w2,w3,w4,w5,w6,q0',q1',q2',q3,z2,not_false_eq_true,inl,AM_all,sx_all,ht,hm,hs,and_self,hmay,tks,wv,its,ms,evs,wsv,List.map_cons,List.map_nil,hfq_x,tt_all,cv',cf_eta,shC_dec,dC,hfree_lu,row1,row2,row5,shI_dec,shM_dec,dI,dM,dU_map,iv,bv,u,ms,ctx_T,ctx_C,ctx_P,Option.bind_some,Option.map_some,String.reduceBEq,Int.cast_ofNat_Int,ev1,ev2,implies_true,undef,dynCall,↓condE_t,↓condE_f,↓guardE_ff,frzDeep,deepArgs,deepArg,resB,cv,stepB,stepE,callD,tabD,guardB,guardC,dstAt,aopR,one,pre,binR,intOpR,unR,argFrm,evo,lkp,hlk,ofVal,ofCells,setCells,fillA,AV.wr,AV.ok1,TK.agg,frz,frz1,frzt,frzs,frzA,frzArg,frzArgs,subA,subB,subM,subL,sub1,accOf,Nat.reduceAdd,Nat.reduceMul,Nat.reduceEqDiff,Nat.reduceLT,Nat.reduceLeDiff,reduceCtorEq,eq_self,ne_eq,Int.reduceToNat,Int.reduceLT,Int.reduceLE]
       all_goals ((repeat' apply And.intro) <;> first | rfl | omega | (show (_:Bool)=true; kernel_rfl) | decide)
      | false=>
       rw [if_neg (by simpa using q3)]
       simp only [Tryz.f85,Tryz.func108,Tryz.f108,k0,k1,w2,w3,w4,w5,w6,q0',q1',q2',q3,z2,not_false_eq_true,inl,AM_all,sx_all,ht,hm,hs,and_self,hmay,tks,wv,its,ms,evs,wsv,List.map_cons,List.map_nil,hfq_x,tt_all,cv',cf_eta,shC_dec,dC,hfree_lu,row1,row2,row5,shI_dec,shM_dec,dI,dM,dU_map,iv,bv,u,ms,ctx_T,ctx_C,ctx_P,Option.bind_some,Option.map_some,String.reduceBEq,Int.cast_ofNat_Int,ev1,ev2,implies_true,undef,dynCall,↓condE_t,↓condE_f,↓guardE_ff,frzDeep,deepArgs,deepArg,resB,cv,stepB,stepE,callD,tabD,guardB,guardC,dstAt,aopR,one,pre,binR,intOpR,unR,argFrm,evo,lkp,hlk,ofVal,ofCells,setCells,fillA,AV.wr,AV.ok1,TK.agg,frz,frz1,frzt,frzs,frzA,frzArg,frzArgs,subA,subB,subM,subL,sub1,accOf,Nat.reduceAdd,Nat.reduceMul,Nat.reduceEqDiff,Nat.reduceLT,Nat.reduceLeDiff,reduceCtorEq,eq_self,ne_eq,Int.reduceToNat,Int.reduceLT,Int.reduceLE]
       all_goals ((repeat' apply And.intro) <;> first | rfl | omega | (show (_:Bool)=true; kernel_rfl) | decide)
     ·have q2':(lk.tmod 2 == 0)=false:=by simpa using q2
      rw [if_neg q2]
      dsimp only
      by_cases q4:far (mLoad m (lBottom c ((lk - 2).tdiv 2))) val > 0
      ·rw [if_pos (by simpa using q4)]
       simp only [Tryz.f85,Tryz.func108,Tryz.f108,Tryz.func140,Tryz.f140,k0,k1,w2,w3,w4,w5,q0',q1',q2',q4,z2,not_false_eq_true,inl,AM_all,sx_all,ht,hm,hs,and_self,hmay,tks,wv,its,ms,evs,wsv,toW,fr00,List.map_cons,List.map_nil,hfq_x,tt_all,cv',cf_eta,shC_dec,dC,hfree_lu,row1,row2,row5,shI_dec,shN_dec,shM_dec,dI,dN,dM,dU_map,iv,bv,u,ms,ctx_T,ctx_C,ctx_P,Option.bind_some,Option.map_some,String.reduceBEq,Int.cast_ofNat_Int,ev1,ev2,implies_true,undef,dynCall,↓condE_t,↓condE_f,↓guardE_ff,frzDeep,deepArgs,deepArg,resB,cv,stepB,stepE,callD,tabD,guardB,guardC,dstAt,aopR,one,pre,binR,intOpR,unR,argFrm,evo,lkp,hlk,ofVal,ofCells,setCells,fillA,AV.wr,AV.ok1,TK.agg,frz,frz1,frzt,frzs,frzA,frzArg,frzArgs,subA,subB,subM,subL,sub1,accOf,Nat.reduceAdd,Nat.reduceMul,Nat.reduceEqDiff,Nat.reduceLT,Nat.reduceLeDiff,reduceCtorEq,eq_self,ne_eq,Int.reduceToNat,Int.reduceLT,Int.reduceLE]
       all_goals ((repeat' apply And.intro) <;> first | rfl | omega | (show (_:Bool)=true; kernel_rfl) | decide)
      ·rw [if_neg (by simpa using q4)]
       cases q3:lk + 1 == 2 + 2 * c.w with
       | true=>
        rw [if_pos (by simpa using q3)]
        simp only [Tryz.f85,Tryz.func108,Tryz.f108,k0,k1,w2,w3,w4,w5,w6,q0',q1',q2',q3,q4,z2,not_false_eq_true,inl,AM_all,sx_all,ht,hm,hs,and_self,hmay,tks,wv,its,ms,evs,wsv,List.map_cons,List.map_nil,hfq_x,tt_all,cv',cf_eta,shC_dec,dC,hfree_lu,row1,row2,row5,shI_dec,shN_dec,shM_dec,dI,dN,dM,dU_map,iv,bv,u,ms,ctx_T,ctx_C,ctx_P,Option.bind_some,Option.map_some,String.reduceBEq,Int.cast_ofNat_Int,ev1,ev2,implies_true,undef,dynCall,↓condE_t,↓condE_f,↓guardE_ff,frzDeep,deepArgs,deepArg,resB,cv,stepB,stepE,callD,tabD,guardB,guardC,dstAt,aopR,one,pre,binR,intOpR,unR,argFrm,evo,lkp,hlk,ofVal,ofCells,setCells,fillA,AV.wr,AV.ok1,TK.agg,frz,frz1,frzt,frzs,frzA,frzArg,frzArgs,subA,subB,subM,subL,sub1,accOf,Nat.reduceAdd,Nat.reduceMul,Nat.reduceEqDiff,Nat.reduceLT,Nat.reduceLeDiff,reduceCtorEq,eq_self,ne_eq,Int.reduceToNat,Int.reduceLT,Int.reduceLE]
        all_goals ((repeat' apply And.intro) <;> first | rfl | omega | (show (_:Bool)=true; kernel_rfl) | decide)
       | false=>
        rw [if_neg (by simpa using q3)]
        simp only [Tryz.f85,Tryz.func108,Tryz.f108,k0,k1,w2,w3,w4,w5,w6,q0',q1',q2',q3,q4,z2,not_false_eq_true,inl,AM_all,sx_all,ht,hm,hs,and_self,hmay,tks,wv,its,ms,evs,wsv,List.map_cons,List.map_nil,hfq_x,tt_all,cv',cf_eta,shC_dec,dC,hfree_lu,row1,row2,row5,shI_dec,shN_dec,shM_dec,dI,dN,dM,dU_map,iv,bv,u,ms,ctx_T,ctx_C,ctx_P,Option.bind_some,Option.map_some,String.reduceBEq,Int.cast_ofNat_Int,ev1,ev2,implies_true,undef,dynCall,↓condE_f,↓guardE_ff,frzDeep,deepArgs,deepArg,resB,cv,stepB,stepE,callD,tabD,guardB,guardC,dstAt,aopR,one,pre,binR,intOpR,unR,argFrm,evo,lkp,hlk,ofVal,ofCells,setCells,fillA,AV.wr,AV.ok1,TK.agg,frz,frz1,frzt,frzs,frzA,frzArg,frzArgs,subA,subB,subM,subL,sub1,accOf,Nat.reduceAdd,Nat.reduceMul,Nat.reduceEqDiff,Nat.reduceLT,Nat.reduceLeDiff,reduceCtorEq,eq_self,ne_eq,Int.reduceToNat,Int.reduceLT,Int.reduceLE]
        all_goals ((repeat' apply And.intro) <;> first | rfl | omega | (show (_:Bool)=true; kernel_rfl) | decide)
end Go.Vai

/- A worker's step, place by place. -/
namespace Go.Vai
open Go.RowKit Go.Proofs
set_option maxHeartbeats 4000000
set_option maxRecDepth 100000
theorem wstep9 (c:Cf) (t:List Tk) (m:List Int) (w:Int) (st:List It) (op p who val fx fy res sp lk d:Int) (h:WIn c t m w ⟨9,st,⟨op,p,who,val,fx,fy,res⟩,sp,lk⟩) :
  PureC Tryz.prog 85 [cv' c,tks t,ms m,iv w,wv ⟨9,st,⟨op,p,who,val,fx,fy,res⟩,sp,lk⟩,u d] (wsv (wq9 c t m w ⟨9,st,⟨op,p,who,val,fx,fy,res⟩,sp,lk⟩ d)):=by
 refine pure_sub okAM 4 Tryz.func85 rfl (by show 6≤_; decide) ?_
 obtain ⟨ht,hm,hs,hmay⟩:=h
 dsimp only at hs
 obtain ⟨hw0,hw1,hcw⟩:=wmay_in hmay
 unfold wq9
 try dsimp only
 have hm1:=hm
 have hk:=tNext_kind t st
 obtain ⟨a1,a2,e2⟩:∃ a b,tNext t st=(a,b):=⟨_,_,rfl⟩
 rw [e2] at hk ⊢
 dsimp only at hk ⊢
 rcases hk with rfl | rfl | rfl | rfl
 ·skip
  rw [if_neg (by decide),if_neg (by decide),if_neg (by decide)]
  simp only [Tryz.f85,Tryz.func110,Tryz.f110,Tryz.func143,Tryz.f143,e2,inl,AM_all,sx_all,ht,hm,hs,and_self,hmay,tks,wv,its,ms,evs,wsv,fv,acv,withW,fBegin,List.map_cons,List.map_nil,hfq_x,tt_all,cv',cf_eta,shC_dec,dC,hfree_lu,row1,row2,row3,row5,shI_dec,shN_dec,shM_dec,dI,dN,dM,dU_map,iv,bv,u,ms,ctx_T,ctx_C,ctx_P,Option.bind_some,Option.map_some,String.reduceBEq,Int.cast_ofNat_Int,ev1,ev2,implies_true,undef,dynCall,↓condE_f,frzDeep,deepArgs,deepArg,resB,cv,stepB,stepE,callD,tabD,aopR,one,pre,binR,intOpR,unR,argFrm,evo,lkp,hlk,ofVal,ofCells,setCells,fillA,AV.wr,AV.ok1,TK.agg,frz,frz1,frzt,frzs,frzA,frzArg,frzArgs,subA,subB,subM,subL,sub1,accOf,Nat.reduceAdd,Nat.reduceMul,Nat.reduceEqDiff,Nat.reduceLT,Nat.reduceLeDiff,reduceCtorEq,eq_self,ne_eq,Int.reduceToNat,Int.reduceLT,Int.reduceLE,Int.reduceBEq]
  all_goals ((repeat' apply And.intro) <;> first | rfl | omega | (show (_:Bool)=true; kernel_rfl) | decide)
 ·skip
  rw [if_pos rfl]
  simp only [Tryz.f85,Tryz.func110,Tryz.f110,e2,inl,AM_all,sx_all,ht,hm,hs,and_self,hmay,tks,wv,its,ms,evs,wsv,acv,List.map_cons,List.map_nil,hfq_x,tt_all,cv',cf_eta,shC_dec,dC,hfree_lu,row1,row2,row5,shI_dec,shM_dec,dI,dM,dU_map,iv,bv,u,ms,ctx_T,ctx_C,ctx_P,Option.bind_some,Option.map_some,String.reduceBEq,Int.cast_ofNat_Int,ev1,ev2,implies_true,undef,dynCall,↓condE_t,↓condE_f,frzDeep,deepArgs,deepArg,resB,cv,stepB,stepE,callD,tabD,aopR,one,pre,binR,intOpR,unR,argFrm,evo,lkp,hlk,ofVal,ofCells,setCells,fillA,AV.wr,AV.ok1,TK.agg,frz,frz1,frzt,frzs,frzA,frzArg,frzArgs,subA,subB,subM,subL,sub1,accOf,Nat.reduceAdd,Nat.reduceMul,Nat.reduceEqDiff,Nat.reduceLT,Nat.reduceLeDiff,reduceCtorEq,eq_self,ne_eq,Int.reduceToNat,Int.reduceLT,Int.reduceLE]
  all_goals ((repeat' apply And.intro) <;> first | rfl | omega | (show (_:Bool)=true; kernel_rfl) | decide)
 ·skip
  rw [if_neg (by decide),if_pos rfl]
  simp only [Tryz.f85,Tryz.func110,Tryz.f110,e2,inl,AM_all,sx_all,ht,hm,hs,and_self,hmay,tks,wv,its,ms,evs,wsv,acv,List.map_cons,List.map_nil,hfq_x,tt_all,cv',cf_eta,shC_dec,dC,hfree_lu,row1,row2,row5,shI_dec,shM_dec,dI,dM,dU_map,iv,bv,u,ms,ctx_T,ctx_C,ctx_P,Option.bind_some,Option.map_some,String.reduceBEq,Int.cast_ofNat_Int,ev1,ev2,implies_true,undef,dynCall,↓condE_t,↓condE_f,frzDeep,deepArgs,deepArg,resB,cv,stepB,stepE,callD,tabD,aopR,one,pre,binR,intOpR,unR,argFrm,evo,lkp,hlk,ofVal,ofCells,setCells,fillA,AV.wr,AV.ok1,TK.agg,frz,frz1,frzt,frzs,frzA,frzArg,frzArgs,subA,subB,subM,subL,sub1,accOf,Nat.reduceAdd,Nat.reduceMul,Nat.reduceEqDiff,Nat.reduceLT,Nat.reduceLeDiff,reduceCtorEq,eq_self,ne_eq,Int.reduceToNat,Int.reduceLT,Int.reduceLE,Int.reduceBEq]
  all_goals ((repeat' apply And.intro) <;> first | rfl | omega | (show (_:Bool)=true; kernel_rfl) | decide)
 ·skip
  rw [if_neg (by decide),if_neg (by decide),if_pos rfl]
  simp only [Tryz.f85,Tryz.func110,Tryz.f110,e2,inl,AM_all,sx_all,ht,hm,hs,and_self,hmay,tks,wv,its,ms,evs,wsv,acv,List.map_cons,List.map_nil,hfq_x,tt_all,cv',cf_eta,shC_dec,dC,hfree_lu,row1,row2,row5,shI_dec,shM_dec,dI,dM,dU_map,iv,bv,u,ms,ctx_T,ctx_C,ctx_P,Option.bind_some,Option.map_some,String.reduceBEq,Int.cast_ofNat_Int,ev1,ev2,implies_true,undef,dynCall,↓condE_t,↓condE_f,frzDeep,deepArgs,deepArg,resB,cv,stepB,stepE,callD,tabD,aopR,one,pre,binR,intOpR,unR,argFrm,evo,lkp,hlk,ofVal,ofCells,setCells,fillA,AV.wr,AV.ok1,TK.agg,frz,frz1,frzt,frzs,frzA,frzArg,frzArgs,subA,subB,subM,subL,sub1,accOf,Nat.reduceAdd,Nat.reduceMul,Nat.reduceEqDiff,Nat.reduceLT,Nat.reduceLeDiff,reduceCtorEq,eq_self,ne_eq,Int.reduceToNat,Int.reduceLT,Int.reduceLE,Int.reduceBEq]
  all_goals ((repeat' apply And.intro) <;> first | rfl | omega | (show (_:Bool)=true; kernel_rfl) | decide)
theorem wstep10 (c:Cf) (t:List Tk) (m:List Int) (w:Int) (st:List It) (op p who val fx fy res sp lk d:Int) (h:WIn c t m w ⟨10,st,⟨op,p,who,val,fx,fy,res⟩,sp,lk⟩) :
  PureC Tryz.prog 85 [cv' c,tks t,ms m,iv w,wv ⟨10,st,⟨op,p,who,val,fx,fy,res⟩,sp,lk⟩,u d] (wsv (wq10 c t m w ⟨10,st,⟨op,p,who,val,fx,fy,res⟩,sp,lk⟩ d)):=by
 refine pure_sub okAM 4 Tryz.func85 rfl (by show 6≤_; decide) ?_
 obtain ⟨ht,hm,hs,hmay⟩:=h
 dsimp only at hs
 obtain ⟨hw0,hw1,hcw⟩:=wmay_in hmay
 unfold wq10
 try dsimp only
 have hm1:=hm
 have hk:=tNext_kind t st
 obtain ⟨a1,a2,e2⟩:∃ a b,tNext t st=(a,b):=⟨_,_,rfl⟩
 rw [e2] at hk ⊢
 dsimp only at hk ⊢
 rcases hk with rfl | rfl | rfl | rfl
 ·skip
  rw [if_neg (by decide)]
  simp only [Tryz.f85,Tryz.func111,Tryz.f111,Tryz.func140,Tryz.f140,e2,inl,AM_all,sx_all,ht,hm,hs,and_self,hmay,tks,wv,its,ms,evs,wsv,acv,toW,fr00,List.map_cons,List.map_nil,hfq_x,tt_all,cv',cf_eta,shC_dec,dC,hfree_lu,row1,row2,row5,shI_dec,shM_dec,dI,dM,dU_map,iv,bv,u,ms,ctx_T,ctx_C,ctx_P,Option.bind_some,Option.map_some,String.reduceBEq,Int.cast_ofNat_Int,ev1,ev2,implies_true,undef,dynCall,↓condE_t,↓condE_f,frzDeep,deepArgs,deepArg,resB,cv,stepB,stepE,callD,tabD,aopR,one,pre,binR,intOpR,unR,argFrm,evo,lkp,hlk,ofVal,ofCells,setCells,fillA,AV.wr,AV.ok1,TK.agg,frz,frz1,frzt,frzs,frzA,frzArg,frzArgs,subA,subB,subM,subL,sub1,accOf,Nat.reduceAdd,Nat.reduceMul,Nat.reduceEqDiff,Nat.reduceLT,Nat.reduceLeDiff,reduceCtorEq,eq_self,ne_eq,Int.reduceToNat,Int.reduceLT,Int.reduceLE,Int.reduceBNe]
  all_goals ((repeat' apply And.intro) <;> first | rfl | omega | (show (_:Bool)=true; kernel_rfl) | decide)
 ·skip
  rw [if_neg (by decide)]
  simp only [Tryz.f85,Tryz.func111,Tryz.f111,Tryz.func140,Tryz.f140,e2,inl,AM_all,sx_all,ht,hm,hs,and_self,hmay,tks,wv,its,ms,evs,wsv,acv,toW,fr00,List.map_cons,List.map_nil,hfq_x,tt_all,cv',cf_eta,shC_dec,dC,hfree_lu,row1,row2,row5,shI_dec,shM_dec,dI,dM,dU_map,iv,bv,u,ms,ctx_T,ctx_C,ctx_P,Option.bind_some,Option.map_some,String.reduceBEq,Int.cast_ofNat_Int,ev1,ev2,implies_true,undef,dynCall,↓condE_t,↓condE_f,frzDeep,deepArgs,deepArg,resB,cv,stepB,stepE,callD,tabD,aopR,one,pre,binR,intOpR,unR,argFrm,evo,lkp,hlk,ofVal,ofCells,setCells,fillA,AV.wr,AV.ok1,TK.agg,frz,frz1,frzt,frzs,frzA,frzArg,frzArgs,subA,subB,subM,subL,sub1,accOf,Nat.reduceAdd,Nat.reduceMul,Nat.reduceEqDiff,Nat.reduceLT,Nat.reduceLeDiff,reduceCtorEq,eq_self,ne_eq,Int.reduceToNat,Int.reduceLT,Int.reduceLE,Int.reduceBNe]
  all_goals ((repeat' apply And.intro) <;> first | rfl | omega | (show (_:Bool)=true; kernel_rfl) | decide)
 ·skip
  rw [if_pos rfl]
  simp only [Tryz.f85,Tryz.func111,Tryz.f111,Tryz.func142,Tryz.f142,Tryz.func147,Tryz.f147,Tryz.func143,Tryz.f143,e2,inl,AM_all,sx_all,ht,hm,hs,and_self,hmay,tks,wv,its,ms,evs,wsv,fv,acv,fBegin,ev',List.map_cons,List.map_nil,hfq_x,hfe1,tt_all,cv',cf_eta,shC_dec,dC,hfree_lu,row1,row2,row3,row5,shI_dec,shN_dec,shM_dec,dI,dN,dM,dU_map,iv,bv,u,ms,ctx_T,ctx_C,ctx_P,Option.bind_some,Option.map_some,String.reduceBEq,Int.cast_ofNat_Int,ev1,ev2,implies_true,undef,stepP,drawB,lateB,mixB,mixB0,usesT,rdsT,dynCall,↓condE_f,frzDeep,deepArgs,deepArg,resB,cv,stepB,stepE,callD,tabD,aopR,one,pre,binR,intOpR,unR,argFrm,evo,lkp,hlk,asLst,idOf,srcOk,ofVal,ofCells,setCells,fillA,setElems,AV.wr,AV.ok1,TK.agg,frz,frz1,frzt,frzs,frzA,frzArg,frzArgs,subA,subB,subM,subL,sub1,accOf,List.replicate,Nat.reduceAdd,Nat.reduceMul,Nat.reduceEqDiff,Nat.reduceLT,Nat.reduceLeDiff,reduceCtorEq,eq_self,ne_eq,Int.reduceToNat,Int.reduceLT,Int.reduceLE,Int.reduceBNe]
  all_goals ((repeat' apply And.intro) <;> first | rfl | omega | (show (_:Bool)=true; kernel_rfl) | decide)
 ·skip
  rw [if_neg (by decide)]
  simp only [Tryz.f85,Tryz.func111,Tryz.f111,Tryz.func140,Tryz.f140,e2,inl,AM_all,sx_all,ht,hm,hs,and_self,hmay,tks,wv,its,ms,evs,wsv,acv,toW,fr00,List.map_cons,List.map_nil,hfq_x,tt_all,cv',cf_eta,shC_dec,dC,hfree_lu,row1,row2,row5,shI_dec,shM_dec,dI,dM,dU_map,iv,bv,u,ms,ctx_T,ctx_C,ctx_P,Option.bind_some,Option.map_some,String.reduceBEq,Int.cast_ofNat_Int,ev1,ev2,implies_true,undef,dynCall,↓condE_t,↓condE_f,frzDeep,deepArgs,deepArg,resB,cv,stepB,stepE,callD,tabD,aopR,one,pre,binR,intOpR,unR,argFrm,evo,lkp,hlk,ofVal,ofCells,setCells,fillA,AV.wr,AV.ok1,TK.agg,frz,frz1,frzt,frzs,frzA,frzArg,frzArgs,subA,subB,subM,subL,sub1,accOf,Nat.reduceAdd,Nat.reduceMul,Nat.reduceEqDiff,Nat.reduceLT,Nat.reduceLeDiff,reduceCtorEq,eq_self,ne_eq,Int.reduceToNat,Int.reduceLT,Int.reduceLE,Int.reduceBNe]
  all_goals ((repeat' apply And.intro) <;> first | rfl | omega | (show (_:Bool)=true; kernel_rfl) | decide)
theorem wstep15 (c:Cf) (t:List Tk) (m:List Int) (w:Int) (st:List It) (op p who val fx fy res sp lk d:Int) (h:WIn c t m w ⟨15,st,⟨op,p,who,val,fx,fy,res⟩,sp,lk⟩) :
  PureC Tryz.prog 85 [cv' c,tks t,ms m,iv w,wv ⟨15,st,⟨op,p,who,val,fx,fy,res⟩,sp,lk⟩,u d] (wsv (wq15 c t m w ⟨15,st,⟨op,p,who,val,fx,fy,res⟩,sp,lk⟩ d)):=by
 refine pure_sub okAM 4 Tryz.func85 rfl (by show 6≤_; decide) ?_
 obtain ⟨ht,hm,hs,hmay⟩:=h
 dsimp only at hs
 obtain ⟨hw0,hw1,hcw⟩:=wmay_in hmay
 unfold wq15
 try dsimp only
 have hm1:=hm
 have hk:=tNext_kind t st
 obtain ⟨a1,a2,e2⟩:∃ a b,tNext t st=(a,b):=⟨_,_,rfl⟩
 rw [e2] at hk ⊢
 dsimp only at hk ⊢
 rcases hk with rfl | rfl | rfl | rfl
 ·skip
  rw [if_neg (by decide)]
  simp only [Tryz.f85,Tryz.func116,Tryz.f116,Tryz.func140,Tryz.f140,e2,inl,AM_all,sx_all,ht,hm,hs,and_self,hmay,tks,wv,its,ms,evs,wsv,acv,toW,fr00,List.map_cons,List.map_nil,hfq_x,tt_all,cv',cf_eta,shC_dec,dC,hfree_lu,row1,row2,row5,shI_dec,shM_dec,dI,dM,dU_map,iv,bv,u,ms,ctx_T,ctx_C,ctx_P,Option.bind_some,Option.map_some,String.reduceBEq,Int.cast_ofNat_Int,ev1,ev2,implies_true,undef,dynCall,↓condE_t,↓condE_f,frzDeep,deepArgs,deepArg,resB,cv,stepB,stepE,callD,tabD,aopR,one,pre,binR,intOpR,unR,argFrm,evo,lkp,hlk,ofVal,ofCells,setCells,fillA,AV.wr,AV.ok1,TK.agg,frz,frz1,frzt,frzs,frzA,frzArg,frzArgs,subA,subB,subM,subL,sub1,accOf,Nat.reduceAdd,Nat.reduceMul,Nat.reduceEqDiff,Nat.reduceLT,Nat.reduceLeDiff,reduceCtorEq,eq_self,ne_eq,Int.reduceToNat,Int.reduceLT,Int.reduceLE,Int.reduceBNe]
  all_goals ((repeat' apply And.intro) <;> first | rfl | omega | (show (_:Bool)=true; kernel_rfl) | decide)
 ·skip
  rw [if_neg (by decide)]
  simp only [Tryz.f85,Tryz.func116,Tryz.f116,Tryz.func140,Tryz.f140,e2,inl,AM_all,sx_all,ht,hm,hs,and_self,hmay,tks,wv,its,ms,evs,wsv,acv,toW,fr00,List.map_cons,List.map_nil,hfq_x,tt_all,cv',cf_eta,shC_dec,dC,hfree_lu,row1,row2,row5,shI_dec,shM_dec,dI,dM,dU_map,iv,bv,u,ms,ctx_T,ctx_C,ctx_P,Option.bind_some,Option.map_some,String.reduceBEq,Int.cast_ofNat_Int,ev1,ev2,implies_true,undef,dynCall,↓condE_t,↓condE_f,frzDeep,deepArgs,deepArg,resB,cv,stepB,stepE,callD,tabD,aopR,one,pre,binR,intOpR,unR,argFrm,evo,lkp,hlk,ofVal,ofCells,setCells,fillA,AV.wr,AV.ok1,TK.agg,frz,frz1,frzt,frzs,frzA,frzArg,frzArgs,subA,subB,subM,subL,sub1,accOf,Nat.reduceAdd,Nat.reduceMul,Nat.reduceEqDiff,Nat.reduceLT,Nat.reduceLeDiff,reduceCtorEq,eq_self,ne_eq,Int.reduceToNat,Int.reduceLT,Int.reduceLE,Int.reduceBNe]
  all_goals ((repeat' apply And.intro) <;> first | rfl | omega | (show (_:Bool)=true; kernel_rfl) | decide)
 ·skip
  rw [if_neg (by decide)]
  simp only [Tryz.f85,Tryz.func116,Tryz.f116,Tryz.func140,Tryz.f140,e2,inl,AM_all,sx_all,ht,hm,hs,and_self,hmay,tks,wv,its,ms,evs,wsv,acv,toW,fr00,List.map_cons,List.map_nil,hfq_x,tt_all,cv',cf_eta,shC_dec,dC,hfree_lu,row1,row2,row5,shI_dec,shM_dec,dI,dM,dU_map,iv,bv,u,ms,ctx_T,ctx_C,ctx_P,Option.bind_some,Option.map_some,String.reduceBEq,Int.cast_ofNat_Int,ev1,ev2,implies_true,undef,dynCall,↓condE_t,↓condE_f,frzDeep,deepArgs,deepArg,resB,cv,stepB,stepE,callD,tabD,aopR,one,pre,binR,intOpR,unR,argFrm,evo,lkp,hlk,ofVal,ofCells,setCells,fillA,AV.wr,AV.ok1,TK.agg,frz,frz1,frzt,frzs,frzA,frzArg,frzArgs,subA,subB,subM,subL,sub1,accOf,Nat.reduceAdd,Nat.reduceMul,Nat.reduceEqDiff,Nat.reduceLT,Nat.reduceLeDiff,reduceCtorEq,eq_self,ne_eq,Int.reduceToNat,Int.reduceLT,Int.reduceLE,Int.reduceBNe]
  all_goals ((repeat' apply And.intro) <;> first | rfl | omega | (show (_:Bool)=true; kernel_rfl) | decide)
 ·rw [if_pos rfl]
  cases a0:mLoad m 0 == 1 with
  | true=>
   by_cases d0:tDo t st=[]
   ·rw [if_pos d0]
    have d0':(((tDo t st).length:Int) == 0)=true:=by rw [d0]; rfl
    simp only [Tryz.f85,Tryz.func116,Tryz.f116,Tryz.func142,Tryz.f142,Tryz.func147,Tryz.f147,Tryz.func143,Tryz.f143,e2,a0,d0',if_true,List.cons_append,List.nil_append,inl,AM_all,sx_all,ht,hm,hs,and_self,hmay,tks,wv,its,ms,evs,wsv,fv,acv,fBegin,less,ev',List.map_cons,List.map_nil,List.length_map,hfq_x,hfe2,tt_all,cv',cf_eta,shC_dec,dC,hfree_lu,row1,row2,row3,row5,shI_dec,shN_dec,shM_dec,dI,dN,dM,dU_map,iv,bv,u,ms,ctx_T,ctx_C,ctx_P,Option.bind_some,Option.map_some,List.length_map,String.reduceBEq,Int.cast_ofNat_Int,ev1,ev2,implies_true,undef,dynCall,↓condE_t,↓condE_f,frzDeep,deepArgs,deepArg,resB,cv,stepB,stepE,callD,tabD,aopR,one,pre,binR,intOpR,unR,argFrm,evo,lkp,hlk,lenOf,asLst,idOf,srcOk,ofVal,ofCells,setCells,fillA,setElems,AV.wr,AV.ok1,TK.agg,frz,frz1,frzt,frzs,frzA,frzArg,frzArgs,subA,subB,subM,subL,sub1,accOf,List.replicate,Nat.reduceAdd,Nat.reduceMul,Nat.reduceEqDiff,Nat.reduceLT,Nat.reduceLeDiff,reduceCtorEq,eq_self,ne_eq,Int.reduceToNat,Int.reduceLT,Int.reduceLE,Int.reduceBNe]
    all_goals ((repeat' apply And.intro) <;> first | rfl | omega | (show (_:Bool)=true; kernel_rfl) | decide)
   ·rw [if_neg d0]
    have d0':(((tDo t st).length:Int) == 0)=false:=by
     have:=List.length_pos_iff.2 d0
     have:¬ ((tDo t st).length:Int)=0:=by omega
     simpa using this
    simp only [Tryz.f85,Tryz.func116,Tryz.f116,Tryz.func142,Tryz.f142,Tryz.func147,Tryz.f147,Tryz.func140,Tryz.f140,e2,a0,d0',if_true,List.cons_append,List.nil_append,inl,AM_all,sx_all,ht,hm,hs,and_self,hmay,tks,wv,its,ms,evs,wsv,acv,fr00,less,ev',List.map_cons,List.map_nil,List.length_map,hfq_x,hfe2,tt_all,cv',cf_eta,shC_dec,dC,hfree_lu,row1,row2,row3,row5,shI_dec,shN_dec,shM_dec,dI,dN,dM,dU_map,iv,bv,u,ms,ctx_T,ctx_C,ctx_P,Option.bind_some,Option.map_some,List.length_map,String.reduceBEq,Int.cast_ofNat_Int,ev1,ev2,implies_true,undef,dynCall,↓condE_t,↓condE_f,frzDeep,deepArgs,deepArg,resB,cv,stepB,stepE,callD,tabD,aopR,one,pre,binR,intOpR,unR,argFrm,evo,lkp,hlk,lenOf,asLst,idOf,srcOk,ofVal,ofCells,setCells,fillA,setElems,AV.wr,AV.ok1,TK.agg,frz,frz1,frzt,frzs,frzA,frzArg,frzArgs,subA,subB,subM,subL,sub1,accOf,List.replicate,Nat.reduceAdd,Nat.reduceMul,Nat.reduceEqDiff,Nat.reduceLT,Nat.reduceLeDiff,reduceCtorEq,eq_self,ne_eq,Int.reduceToNat,Int.reduceLT,Int.reduceLE,Int.reduceBNe]
    all_goals ((repeat' apply And.intro) <;> first | rfl | omega | (show (_:Bool)=true; kernel_rfl) | decide)
  | false=>
   by_cases d0:tDo t st=[]
   ·rw [if_pos d0]
    have d0':(((tDo t st).length:Int) == 0)=true:=by rw [d0]; rfl
    simp only [Tryz.f85,Tryz.func116,Tryz.f116,Tryz.func142,Tryz.f142,Tryz.func147,Tryz.f147,Tryz.func143,Tryz.f143,e2,a0,d0',Bool.false_eq_true,if_false,List.append_nil,inl,AM_all,sx_all,ht,hm,hs,and_self,hmay,tks,wv,its,ms,evs,wsv,fv,acv,fBegin,less,ev',List.map_cons,List.map_nil,List.length_map,hfq_x,hfe1,tt_all,cv',cf_eta,shC_dec,dC,hfree_lu,row1,row2,row3,row5,shI_dec,shN_dec,shM_dec,dI,dN,dM,dU_map,iv,bv,u,ms,ctx_T,ctx_C,ctx_P,Option.bind_some,Option.map_some,List.length_map,String.reduceBEq,Int.cast_ofNat_Int,ev1,ev2,implies_true,undef,dynCall,↓condE_t,↓condE_f,frzDeep,deepArgs,deepArg,resB,cv,stepB,stepE,callD,tabD,aopR,one,pre,binR,intOpR,unR,argFrm,evo,lkp,hlk,lenOf,asLst,idOf,srcOk,ofVal,ofCells,setCells,fillA,setElems,AV.wr,AV.ok1,TK.agg,frz,frz1,frzt,frzs,frzA,frzArg,frzArgs,subA,subB,subM,subL,sub1,accOf,List.replicate,Nat.reduceAdd,Nat.reduceMul,Nat.reduceEqDiff,Nat.reduceLT,Nat.reduceLeDiff,reduceCtorEq,eq_self,ne_eq,Int.reduceToNat,Int.reduceLT,Int.reduceLE,Int.reduceBNe]
    all_goals ((repeat' apply And.intro) <;> first | rfl | omega | (show (_:Bool)=true; kernel_rfl) | decide)
   ·rw [if_neg d0]
    have d0':(((tDo t st).length:Int) == 0)=false:=by
     have:=List.length_pos_iff.2 d0
     have:¬ ((tDo t st).length:Int)=0:=by omega
     simpa using this
    simp only [Tryz.f85,Tryz.func116,Tryz.f116,Tryz.func142,Tryz.f142,Tryz.func147,Tryz.f147,Tryz.func140,Tryz.f140,e2,a0,d0',Bool.false_eq_true,if_false,List.append_nil,inl,AM_all,sx_all,ht,hm,hs,and_self,hmay,tks,wv,its,ms,evs,wsv,acv,fr00,less,ev',List.map_cons,List.map_nil,List.length_map,hfq_x,hfe1,tt_all,cv',cf_eta,shC_dec,dC,hfree_lu,row1,row2,row3,row5,shI_dec,shN_dec,shM_dec,dI,dN,dM,dU_map,iv,bv,u,ms,ctx_T,ctx_C,ctx_P,Option.bind_some,Option.map_some,List.length_map,String.reduceBEq,Int.cast_ofNat_Int,ev1,ev2,implies_true,undef,dynCall,↓condE_f,frzDeep,deepArgs,deepArg,resB,cv,stepB,stepE,callD,tabD,aopR,one,pre,binR,intOpR,unR,argFrm,evo,lkp,hlk,lenOf,asLst,idOf,srcOk,ofVal,ofCells,setCells,fillA,setElems,AV.wr,AV.ok1,TK.agg,frz,frz1,frzt,frzs,frzA,frzArg,frzArgs,subA,subB,subM,subL,sub1,accOf,List.replicate,Nat.reduceAdd,Nat.reduceMul,Nat.reduceEqDiff,Nat.reduceLT,Nat.reduceLeDiff,reduceCtorEq,eq_self,ne_eq,Int.reduceToNat,Int.reduceLT,Int.reduceLE,Int.reduceBNe]
    all_goals ((repeat' apply And.intro) <;> first | rfl | omega | (show (_:Bool)=true; kernel_rfl) | decide)
end Go.Vai

/- A worker's step, place by place. -/
namespace Go.Vai
open Go.RowKit Go.Proofs
set_option maxHeartbeats 4000000
set_option maxRecDepth 100000
theorem wstep8 (c:Cf) (t:List Tk) (m:List Int) (w:Int) (st:List It) (p who val fx fy res sp lk d:Int) (h:WIn c t m w ⟨8,st,⟨5,p,who,val,fx,fy,res⟩,sp,lk⟩) :
  PureC Tryz.prog 85 [cv' c,tks t,ms m,iv w,wv ⟨8,st,⟨5,p,who,val,fx,fy,res⟩,sp,lk⟩,u d] (wsv (wq8 c t m w ⟨8,st,⟨5,p,who,val,fx,fy,res⟩,sp,lk⟩ d)):=by
 refine pure_sub okAM 4 Tryz.func85 rfl (by show 6≤_; decide) ?_
 obtain ⟨ht,hm,hs,hmay⟩:=h
 dsimp only at hs
 obtain ⟨hw0,hw1,hcw⟩:=wmay_in hmay
 unfold wq8
 try dsimp only
 have hl:=len_evStep c m ⟨5,p,who,val,fx,fy,res⟩
 obtain ⟨m1,f1,e1⟩:∃ a b,evStep c m ⟨5,p,who,val,fx,fy,res⟩=(a,b):=⟨_,_,rfl⟩
 rw [e1] at hl ⊢
 dsimp only at hl ⊢
 have hm1:m1.length≤1000:=by omega
 have o7:((5:Int)=7)=False:=eq_false (by decide)
 by_cases r0:f1.res=0
 ·have r0':(f1.res != 0)=false:=by simpa using r0
  rw [if_pos r0]
  simp only [Tryz.f85,Tryz.func109,Tryz.f109,Tryz.func139,Tryz.f139,e1,r0',o7,not_false_eq_true,inl,AM_all,sx_all,ht,hm,hs,and_self,hmay,tks,wv,its,ms,evs,wsv,sv,fv,atF,List.map_cons,List.map_nil,hfq_x,tt_all,cv',cf_eta,shC_dec,dC,hfree_lu,row1,row3,row5,shI_dec,shM_dec,dI,dM,dU_map,iv,bv,u,ms,ctx_T,ctx_C,ctx_P,Option.bind_some,Option.map_some,String.reduceBEq,shF_dec,dF,fr_eta,Int.cast_ofNat_Int,ev1,ev2,implies_true,undef,drawB,lateB,mixB,mixB0,usesT,mvV,stepM,rdsT,rdsAny,callLB,callLV,dstV,dynCall,↓condE_f,frzDeep,deepArgs,deepArg,resB,cv,stepB,stepE,callD,tabD,aopR,one,pre,binR,intOpR,unR,argFrm,evo,lkp,hlk,ofVal,ofCells,setCells,fillA,AV.wr,AV.ok1,TK.agg,frz,frz1,frzt,frzs,frzA,frzArg,frzArgs,subA,subB,subM,subL,sub1,accOf,Nat.reduceAdd,Nat.reduceMul,Nat.reduceEqDiff,Nat.reduceLT,Nat.reduceLeDiff,reduceCtorEq,eq_self,ne_eq,Int.reduceToNat,Int.reduceLT,Int.reduceLE,Int.reduceBEq]
  all_goals ((repeat' apply And.intro) <;> first | rfl | omega | (show (_:Bool)=true; kernel_rfl) | decide)
 ·have r0':(f1.res != 0)=true:=by simpa using r0
  rw [if_neg r0]
  simp only [Tryz.f85,Tryz.func109,Tryz.f109,Tryz.func139,Tryz.f139,Tryz.func140,Tryz.f140,e1,r0',o7,not_false_eq_true,inl,AM_all,sx_all,ht,hm,hs,and_self,hmay,tks,wv,its,ms,evs,wsv,sv,fv,toW,fr00,List.map_cons,List.map_nil,hfq_x,tt_all,cv',cf_eta,shC_dec,dC,hfree_lu,row1,row3,row5,shI_dec,shM_dec,dI,dM,dU_map,iv,bv,u,ms,ctx_T,ctx_C,ctx_P,Option.bind_some,Option.map_some,String.reduceBEq,shF_dec,dF,fr_eta,Int.cast_ofNat_Int,ev1,ev2,implies_true,undef,drawB,lateB,mixB,mixB0,usesT,mvV,stepM,rdsT,rdsAny,callLB,callLV,dstV,dynCall,↓condE_t,↓condE_f,frzDeep,deepArgs,deepArg,resB,cv,stepB,stepE,callD,tabD,aopR,one,pre,binR,intOpR,unR,argFrm,evo,lkp,hlk,ofVal,ofCells,setCells,fillA,AV.wr,AV.ok1,TK.agg,frz,frz1,frzt,frzs,frzA,frzArg,frzArgs,subA,subB,subM,subL,sub1,accOf,Nat.reduceAdd,Nat.reduceMul,Nat.reduceEqDiff,Nat.reduceLT,Nat.reduceLeDiff,reduceCtorEq,eq_self,ne_eq,Int.reduceToNat,Int.reduceLT,Int.reduceLE,Int.reduceBEq]
  all_goals ((repeat' apply And.intro) <;> first | rfl | omega | (show (_:Bool)=true; kernel_rfl) | decide)
theorem wstep11 (c:Cf) (t:List Tk) (m:List Int) (w:Int) (st:List It) (p who val fx fy res sp lk d:Int) (h:WIn c t m w ⟨11,st,⟨0,p,who,val,fx,fy,res⟩,sp,lk⟩) :
  PureC Tryz.prog 85 [cv' c,tks t,ms m,iv w,wv ⟨11,st,⟨0,p,who,val,fx,fy,res⟩,sp,lk⟩,u d] (wsv (wq11 c t m w ⟨11,st,⟨0,p,who,val,fx,fy,res⟩,sp,lk⟩ d)):=by
 refine pure_sub okAM 4 Tryz.func85 rfl (by show 6≤_; decide) ?_
 obtain ⟨ht,hm,hs,hmay⟩:=h
 dsimp only at hs
 obtain ⟨hw0,hw1,hcw⟩:=wmay_in hmay
 unfold wq11
 try dsimp only
 have hl:=len_dqStep c m ⟨0,p,who,val,fx,fy,res⟩
 obtain ⟨m1,f1,e1⟩:∃ a b,dqStep c m ⟨0,p,who,val,fx,fy,res⟩=(a,b):=⟨_,_,rfl⟩
 rw [e1] at hl ⊢
 dsimp only at hl ⊢
 have hm1:m1.length≤1000:=by omega
 by_cases r0:f1.res=0
 ·have r0':(f1.res != 0)=false:=by simpa using r0
  rw [if_pos r0]
  simp only [Tryz.f85,Tryz.func112,Tryz.f112,Tryz.func139,Tryz.f139,e1,r0',inl,AM_all,sx_all,ht,hm,hs,and_self,hmay,tks,wv,its,ms,evs,wsv,sv,fv,atF,List.map_cons,List.map_nil,hfq_x,tt_all,cv',cf_eta,shC_dec,dC,hfree_lu,row1,row3,row5,shI_dec,shM_dec,dI,dM,dU_map,iv,bv,u,ms,ctx_T,ctx_C,ctx_P,Option.bind_some,Option.map_some,String.reduceBEq,shF_dec,dF,fr_eta,Int.cast_ofNat_Int,ev1,ev2,implies_true,undef,drawB,lateB,mixB,mixB0,usesT,mvV,stepM,rdsT,rdsAny,callLB,callLV,dstV,dynCall,↓condE_t,↓condE_f,frzDeep,deepArgs,deepArg,resB,cv,stepB,stepE,callD,tabD,aopR,one,pre,binR,intOpR,unR,argFrm,evo,lkp,hlk,ofVal,ofCells,setCells,fillA,AV.wr,AV.ok1,TK.agg,frz,frz1,frzt,frzs,frzA,frzArg,frzArgs,subA,subB,subM,subL,sub1,accOf,Nat.reduceAdd,Nat.reduceMul,Nat.reduceEqDiff,Nat.reduceLT,Nat.reduceLeDiff,reduceCtorEq,eq_self,ne_eq,Int.reduceToNat,Int.reduceLT,Int.reduceLE]
  all_goals ((repeat' apply And.intro) <;> first | rfl | omega | (show (_:Bool)=true; kernel_rfl) | decide)
 ·have r0':(f1.res != 0)=true:=by simpa using r0
  rw [if_neg r0]
  by_cases r1:f1.res=2
  ·have r1':(f1.res == 2)=true:=by simpa using r1
   rw [if_pos r1]
   simp only [Tryz.f85,Tryz.func112,Tryz.f112,Tryz.func139,Tryz.f139,Tryz.func143,Tryz.f143,e1,r0',r1',inl,AM_all,sx_all,ht,hm,hs,and_self,hmay,tks,wv,its,ms,evs,wsv,sv,fv,withW,fBegin,List.map_cons,List.map_nil,hfq_x,tt_all,cv',cf_eta,shC_dec,dC,hfree_lu,row1,row3,row5,shI_dec,shN_dec,shM_dec,dI,dN,dM,dU_map,iv,bv,u,ms,ctx_T,ctx_C,ctx_P,Option.bind_some,Option.map_some,String.reduceBEq,shF_dec,dF,fr_eta,Int.cast_ofNat_Int,ev1,ev2,implies_true,undef,stepP,drawB,lateB,mixB,mixB0,usesT,mvV,stepM,rdsT,rdsAny,callLB,callLV,dstV,dynCall,↓condE_t,↓condE_f,frzDeep,deepArgs,deepArg,resB,cv,stepB,stepE,callD,tabD,aopR,one,pre,binR,intOpR,unR,argFrm,evo,lkp,hlk,ofVal,ofCells,setCells,fillA,AV.wr,AV.ok1,TK.agg,frz,frz1,frzt,frzs,frzA,frzArg,frzArgs,subA,subB,subM,subL,sub1,accOf,Nat.reduceAdd,Nat.reduceMul,Nat.reduceEqDiff,Nat.reduceLT,Nat.reduceLeDiff,reduceCtorEq,eq_self,ne_eq,Int.reduceToNat,Int.reduceLT,Int.reduceLE]
   all_goals ((repeat' apply And.intro) <;> first | rfl | omega | (show (_:Bool)=true; kernel_rfl) | decide)
  ·have r1':(f1.res == 2)=false:=by simpa using r1
   rw [if_neg r1]
   simp only [Tryz.f85,Tryz.func112,Tryz.f112,Tryz.func139,Tryz.f139,Tryz.func140,Tryz.f140,e1,r0',r1',inl,AM_all,sx_all,ht,hm,hs,and_self,hmay,tks,wv,its,ms,evs,wsv,sv,fv,toW,fr00,List.map_cons,List.map_nil,hfq_x,tt_all,cv',cf_eta,shC_dec,dC,hfree_lu,row1,row3,row5,shI_dec,shM_dec,dI,dM,dU_map,iv,bv,u,ms,ctx_T,ctx_C,ctx_P,Option.bind_some,Option.map_some,String.reduceBEq,shF_dec,dF,fr_eta,Int.cast_ofNat_Int,ev1,ev2,implies_true,undef,drawB,lateB,mixB,mixB0,usesT,mvV,stepM,rdsT,rdsAny,callLB,callLV,dstV,dynCall,↓condE_t,↓condE_f,frzDeep,deepArgs,deepArg,resB,cv,stepB,stepE,callD,tabD,aopR,one,pre,binR,intOpR,unR,argFrm,evo,lkp,hlk,ofVal,ofCells,setCells,fillA,AV.wr,AV.ok1,TK.agg,frz,frz1,frzt,frzs,frzA,frzArg,frzArgs,subA,subB,subM,subL,sub1,accOf,Nat.reduceAdd,Nat.reduceMul,Nat.reduceEqDiff,Nat.reduceLT,Nat.reduceLeDiff,reduceCtorEq,eq_self,ne_eq,Int.reduceToNat,Int.reduceLT,Int.reduceLE]
   all_goals ((repeat' apply And.intro) <;> first | rfl | omega | (show (_:Bool)=true; kernel_rfl) | decide)
theorem wstep12 (c:Cf) (t:List Tk) (m:List Int) (w:Int) (st:List It) (p who val fx fy res sp lk d:Int) (h:WIn c t m w ⟨12,st,⟨3,p,who,val,fx,fy,res⟩,sp,lk⟩) :
  PureC Tryz.prog 85 [cv' c,tks t,ms m,iv w,wv ⟨12,st,⟨3,p,who,val,fx,fy,res⟩,sp,lk⟩,u d] (wsv (wq12 c t m w ⟨12,st,⟨3,p,who,val,fx,fy,res⟩,sp,lk⟩ d)):=by
 refine pure_sub okAM 4 Tryz.func85 rfl (by show 6≤_; decide) ?_
 obtain ⟨ht,hm,hs,hmay⟩:=h
 dsimp only at hs
 obtain ⟨hw0,hw1,hcw⟩:=wmay_in hmay
 unfold wq12
 try dsimp only
 have hl:=len_iStep c m ⟨3,p,who,val,fx,fy,res⟩
 obtain ⟨m1,f1,e1⟩:∃ a b,iStep c m ⟨3,p,who,val,fx,fy,res⟩=(a,b):=⟨_,_,rfl⟩
 rw [e1] at hl ⊢
 dsimp only at hl ⊢
 have hm1:m1.length≤1000:=by omega
 by_cases r0:f1.res=0
 ·have r0':(f1.res != 0)=false:=by simpa using r0
  rw [if_pos r0]
  simp only [Tryz.f85,Tryz.func113,Tryz.f113,Tryz.func139,Tryz.f139,e1,r0',inl,AM_all,sx_all,ht,hm,hs,and_self,hmay,tks,wv,its,ms,evs,wsv,sv,fv,atF,List.map_cons,List.map_nil,hfq_x,tt_all,cv',cf_eta,shC_dec,dC,hfree_lu,row1,row3,row5,shI_dec,shM_dec,dI,dM,dU_map,iv,bv,u,ms,ctx_T,ctx_C,ctx_P,Option.bind_some,Option.map_some,String.reduceBEq,shF_dec,dF,fr_eta,Int.cast_ofNat_Int,ev1,ev2,implies_true,undef,drawB,lateB,mixB,mixB0,usesT,mvV,stepM,rdsT,rdsAny,callLB,callLV,dstV,dynCall,↓condE_t,↓condE_f,frzDeep,deepArgs,deepArg,resB,cv,stepB,stepE,callD,tabD,aopR,one,pre,binR,intOpR,unR,argFrm,evo,lkp,hlk,ofVal,ofCells,setCells,fillA,AV.wr,AV.ok1,TK.agg,frz,frz1,frzt,frzs,frzA,frzArg,frzArgs,subA,subB,subM,subL,sub1,accOf,Nat.reduceAdd,Nat.reduceMul,Nat.reduceEqDiff,Nat.reduceLT,Nat.reduceLeDiff,reduceCtorEq,eq_self,ne_eq,Int.reduceToNat,Int.reduceLT,Int.reduceLE,Int.reduceBEq]
  all_goals ((repeat' apply And.intro) <;> first | rfl | omega | (show (_:Bool)=true; kernel_rfl) | decide)
 ·have r0':(f1.res != 0)=true:=by simpa using r0
  rw [if_neg r0]
  by_cases r1:f1.res=2
  ·have r1':(f1.res == 2)=true:=by simpa using r1
   rw [if_pos r1]
   simp only [Tryz.f85,Tryz.func113,Tryz.f113,Tryz.func139,Tryz.f139,Tryz.func140,Tryz.f140,Tryz.func141,Tryz.f141,Tryz.func147,Tryz.f147,e1,r0',r1',inl,AM_all,sx_all,ht,hm,hs,and_self,hmay,tks,wv,its,ms,evs,wsv,sv,fv,toW,stW,fr00,ev',List.map_cons,List.map_nil,hfq_x,hfe1,tt_all,cv',cf_eta,shC_dec,dC,hfree_lu,row1,row3,row5,shI_dec,shM_dec,dI,dM,dU_map,iv,bv,u,ms,ctx_T,ctx_C,ctx_P,Option.bind_some,Option.map_some,String.reduceBEq,shF_dec,dF,fr_eta,Int.cast_ofNat_Int,ev1,ev2,implies_true,undef,drawB,lateB,mixB,mixB0,usesT,mvV,stepM,rdsT,rdsAny,callLB,callLV,dstV,dynCall,↓condE_t,↓condE_f,frzDeep,deepArgs,deepArg,resB,cv,stepB,stepE,callD,tabD,aopR,one,pre,binR,intOpR,unR,argFrm,evo,lkp,hlk,asLst,idOf,srcOk,ofVal,ofCells,setCells,fillA,setElems,AV.wr,AV.ok1,TK.agg,frz,frz1,frzt,frzs,frzA,frzArg,frzArgs,subA,subB,subM,subL,sub1,accOf,List.replicate,Nat.reduceAdd,Nat.reduceMul,Nat.reduceEqDiff,Nat.reduceLT,Nat.reduceLeDiff,reduceCtorEq,eq_self,ne_eq,Int.reduceToNat,Int.reduceLT,Int.reduceLE,Int.reduceBEq]
   all_goals ((repeat' apply And.intro) <;> first | rfl | omega | (show (_:Bool)=true; kernel_rfl) | decide)
  ·have r1':(f1.res == 2)=false:=by simpa using r1
   rw [if_neg r1]
   simp only [Tryz.f85,Tryz.func113,Tryz.f113,Tryz.func139,Tryz.f139,Tryz.func140,Tryz.f140,e1,r0',r1',inl,AM_all,sx_all,ht,hm,hs,and_self,hmay,tks,wv,its,ms,evs,wsv,sv,fv,toW,fr00,List.map_cons,List.map_nil,hfq_x,tt_all,cv',cf_eta,shC_dec,dC,hfree_lu,row1,row3,row5,shI_dec,shM_dec,dI,dM,dU_map,iv,bv,u,ms,ctx_T,ctx_C,ctx_P,Option.bind_some,Option.map_some,String.reduceBEq,shF_dec,dF,fr_eta,Int.cast_ofNat_Int,ev1,ev2,implies_true,undef,drawB,lateB,mixB,mixB0,usesT,mvV,stepM,rdsT,rdsAny,callLB,callLV,dstV,dynCall,↓condE_t,↓condE_f,frzDeep,deepArgs,deepArg,resB,cv,stepB,stepE,callD,tabD,aopR,one,pre,binR,intOpR,unR,argFrm,evo,lkp,hlk,ofVal,ofCells,setCells,fillA,AV.wr,AV.ok1,TK.agg,frz,frz1,frzt,frzs,frzA,frzArg,frzArgs,subA,subB,subM,subL,sub1,accOf,Nat.reduceAdd,Nat.reduceMul,Nat.reduceEqDiff,Nat.reduceLT,Nat.reduceLeDiff,reduceCtorEq,eq_self,ne_eq,Int.reduceToNat,Int.reduceLT,Int.reduceLE,Int.reduceBEq]
   all_goals ((repeat' apply And.intro) <;> first | rfl | omega | (show (_:Bool)=true; kernel_rfl) | decide)
theorem wstep13 (c:Cf) (t:List Tk) (m:List Int) (w:Int) (st:List It) (op p who val fx fy res sp lk d:Int) (h:WIn c t m w ⟨13,st,⟨op,p,who,val,fx,fy,res⟩,sp,lk⟩) :
  PureC Tryz.prog 85 [cv' c,tks t,ms m,iv w,wv ⟨13,st,⟨op,p,who,val,fx,fy,res⟩,sp,lk⟩,u d] (wsv (wq13 c t m w ⟨13,st,⟨op,p,who,val,fx,fy,res⟩,sp,lk⟩ d)):=by
 refine pure_sub okAM 4 Tryz.func85 rfl (by show 6≤_; decide) ?_
 obtain ⟨ht,hm,hs,hmay⟩:=h
 dsimp only at hs
 obtain ⟨hw0,hw1,hcw⟩:=wmay_in hmay
 unfold wq13
 try dsimp only
 have hm1:=hm
 cases a0:mLoad m 1 == 0 with
 | true=>
  rw [if_pos (by simpa using a0)]
  simp only [Tryz.f85,Tryz.func114,Tryz.f114,Tryz.func143,Tryz.f143,a0,inl,AM_all,sx_all,ht,hm,hs,and_self,hmay,tks,wv,its,ms,evs,wsv,fv,withW,fBegin,List.map_cons,List.map_nil,hfq_x,tt_all,cv',cf_eta,shC_dec,dC,hfree_lu,row1,row2,row3,row5,shI_dec,shN_dec,shM_dec,dI,dN,dM,dU_map,iv,bv,u,ms,ctx_T,ctx_C,ctx_P,Option.bind_some,Option.map_some,String.reduceBEq,Int.cast_ofNat_Int,ev1,ev2,implies_true,undef,dynCall,↓condE_t,↓condE_f,frzDeep,deepArgs,deepArg,resB,cv,stepB,stepE,callD,tabD,aopR,one,pre,binR,intOpR,unR,argFrm,evo,lkp,hlk,ofVal,ofCells,setCells,fillA,AV.wr,AV.ok1,TK.agg,frz,frz1,frzt,frzs,frzA,frzArg,frzArgs,subA,subB,subM,subL,sub1,accOf,Nat.reduceAdd,Nat.reduceMul,Nat.reduceEqDiff,Nat.reduceLT,Nat.reduceLeDiff,reduceCtorEq,eq_self,ne_eq,Int.reduceToNat,Int.reduceLT,Int.reduceLE]
  all_goals ((repeat' apply And.intro) <;> first | rfl | omega | (show (_:Bool)=true; kernel_rfl) | decide)
 | false=>
  rw [if_neg (by simpa using a0)]
  simp only [Tryz.f85,Tryz.func114,Tryz.f114,Tryz.func140,Tryz.f140,a0,inl,AM_all,sx_all,ht,hm,hs,and_self,hmay,tks,wv,its,ms,evs,wsv,toW,fr00,List.map_cons,List.map_nil,hfq_x,tt_all,cv',cf_eta,shC_dec,dC,hfree_lu,row1,row2,row5,shI_dec,shM_dec,dI,dM,dU_map,iv,bv,u,ms,ctx_T,ctx_C,ctx_P,Option.bind_some,Option.map_some,String.reduceBEq,Int.cast_ofNat_Int,ev1,ev2,implies_true,undef,dynCall,↓condE_f,frzDeep,deepArgs,deepArg,resB,cv,stepB,stepE,callD,tabD,aopR,one,pre,binR,intOpR,unR,argFrm,evo,lkp,hlk,ofVal,ofCells,setCells,fillA,AV.wr,AV.ok1,TK.agg,frz,frz1,frzt,frzs,frzA,frzArg,frzArgs,subA,subB,subM,subL,sub1,accOf,Nat.reduceAdd,Nat.reduceMul,Nat.reduceEqDiff,Nat.reduceLT,Nat.reduceLeDiff,reduceCtorEq,eq_self,ne_eq,Int.reduceToNat,Int.reduceLT,Int.reduceLE]
  all_goals ((repeat' apply And.intro) <;> first | rfl | omega | (show (_:Bool)=true; kernel_rfl) | decide)
theorem wstep14 (c:Cf) (t:List Tk) (m:List Int) (w:Int) (st:List It) (p who val fx fy res sp lk d:Int) (h:WIn c t m w ⟨14,st,⟨6,p,who,val,fx,fy,res⟩,sp,lk⟩) :
  PureC Tryz.prog 85 [cv' c,tks t,ms m,iv w,wv ⟨14,st,⟨6,p,who,val,fx,fy,res⟩,sp,lk⟩,u d] (wsv (wq14 c t m w ⟨14,st,⟨6,p,who,val,fx,fy,res⟩,sp,lk⟩ d)):=by
 refine pure_sub okAM 4 Tryz.func85 rfl (by show 6≤_; decide) ?_
 obtain ⟨ht,hm,hs,hmay⟩:=h
 dsimp only at hs
 obtain ⟨hw0,hw1,hcw⟩:=wmay_in hmay
 unfold wq14
 try dsimp only
 have hl:=len_evStep c m ⟨6,p,who,val,fx,fy,res⟩
 obtain ⟨m1,f1,e1⟩:∃ a b,evStep c m ⟨6,p,who,val,fx,fy,res⟩=(a,b):=⟨_,_,rfl⟩
 rw [e1] at hl ⊢
 dsimp only at hl ⊢
 have hm1:m1.length≤1000:=by omega
 have o7:((6:Int)=7)=False:=eq_false (by decide)
 by_cases r0:f1.res=0
 ·have r0':(f1.res != 0)=false:=by simpa using r0
  rw [if_pos r0]
  simp only [Tryz.f85,Tryz.func115,Tryz.f115,Tryz.func139,Tryz.f139,e1,r0',o7,not_false_eq_true,inl,AM_all,sx_all,ht,hm,hs,and_self,hmay,tks,wv,its,ms,evs,wsv,sv,fv,atF,List.map_cons,List.map_nil,hfq_x,tt_all,cv',cf_eta,shC_dec,dC,hfree_lu,row1,row3,row5,shI_dec,shM_dec,dI,dM,dU_map,iv,bv,u,ms,ctx_T,ctx_C,ctx_P,Option.bind_some,Option.map_some,String.reduceBEq,shF_dec,dF,fr_eta,Int.cast_ofNat_Int,ev1,ev2,implies_true,undef,drawB,lateB,mixB,mixB0,usesT,mvV,stepM,rdsT,rdsAny,callLB,callLV,dstV,dynCall,↓condE_f,frzDeep,deepArgs,deepArg,resB,cv,stepB,stepE,callD,tabD,aopR,one,pre,binR,intOpR,unR,argFrm,evo,lkp,hlk,ofVal,ofCells,setCells,fillA,AV.wr,AV.ok1,TK.agg,frz,frz1,frzt,frzs,frzA,frzArg,frzArgs,subA,subB,subM,subL,sub1,accOf,Nat.reduceAdd,Nat.reduceMul,Nat.reduceEqDiff,Nat.reduceLT,Nat.reduceLeDiff,reduceCtorEq,eq_self,ne_eq,Int.reduceToNat,Int.reduceLT,Int.reduceLE,Int.reduceBEq]
  all_goals ((repeat' apply And.intro) <;> first | rfl | omega | (show (_:Bool)=true; kernel_rfl) | decide)
 ·have r0':(f1.res != 0)=true:=by simpa using r0
  rw [if_neg r0]
  simp only [Tryz.f85,Tryz.func115,Tryz.f115,Tryz.func139,Tryz.f139,Tryz.func140,Tryz.f140,e1,r0',o7,not_false_eq_true,inl,AM_all,sx_all,ht,hm,hs,and_self,hmay,tks,wv,its,ms,evs,wsv,sv,fv,toW,fr00,List.map_cons,List.map_nil,hfq_x,tt_all,cv',cf_eta,shC_dec,dC,hfree_lu,row1,row3,row5,shI_dec,shM_dec,dI,dM,dU_map,iv,bv,u,ms,ctx_T,ctx_C,ctx_P,Option.bind_some,Option.map_some,String.reduceBEq,shF_dec,dF,fr_eta,Int.cast_ofNat_Int,ev1,ev2,implies_true,undef,drawB,lateB,mixB,mixB0,usesT,mvV,stepM,rdsT,rdsAny,callLB,callLV,dstV,dynCall,↓condE_t,↓condE_f,frzDeep,deepArgs,deepArg,resB,cv,stepB,stepE,callD,tabD,aopR,one,pre,binR,intOpR,unR,argFrm,evo,lkp,hlk,ofVal,ofCells,setCells,fillA,AV.wr,AV.ok1,TK.agg,frz,frz1,frzt,frzs,frzA,frzArg,frzArgs,subA,subB,subM,subL,sub1,accOf,Nat.reduceAdd,Nat.reduceMul,Nat.reduceEqDiff,Nat.reduceLT,Nat.reduceLeDiff,reduceCtorEq,eq_self,ne_eq,Int.reduceToNat,Int.reduceLT,Int.reduceLE,Int.reduceBEq]
  all_goals ((repeat' apply And.intro) <;> first | rfl | omega | (show (_:Bool)=true; kernel_rfl) | decide)
end Go.Vai

/- A worker's step. -/
namespace Go.Vai
open Go.RowKit Go.Proofs
set_option maxHeartbeats 4000000
set_option maxRecDepth 100000
def opOk (x:Wk):Prop:=
 (x.pc=0→x.f.op=1)∧(x.pc=2→x.f.op=4)∧(x.pc=3→x.f.op=2)∧(x.pc=5→x.f.op=5)∧(x.pc=6→x.f.op=5)∧(x.pc=7→x.f.op=5)∧(x.pc=8→x.f.op=5)∧(x.pc=11→x.f.op=0)∧(x.pc=12→x.f.op=3)∧(x.pc=14→x.f.op=6)
instance (x:Wk):Decidable (opOk x):=by unfold opOk; infer_instance
def wStep (c:Cf) (t:List Tk) (m:List Int) (w:Int) (x:Wk) (d:Int):WR:=
 if wMay c t m w x=false then (m,x,[])
 else if x.pc=0 then wq0 c t m w x d else if x.pc=1 then wq1 c t m w x d else if x.pc=2 then wq2 c t m w x d else if x.pc=3 then wq3 c t m w x d
 else if x.pc=4 then wq4 c t m w x d else if x.pc=5 then wq5 c t m w x d else if x.pc=6 then wq6 c t m w x d else if x.pc=7 then wq7 c t m w x d
 else if x.pc=8 then wq8 c t m w x d else if x.pc=9 then wq9 c t m w x d else if x.pc=10 then wq10 c t m w x d else if x.pc=11 then wq11 c t m w x d
 else if x.pc=12 then wq12 c t m w x d else if x.pc=13 then wq13 c t m w x d else if x.pc=14 then wq14 c t m w x d else wq15 c t m w x d
theorem wstepN (c:Cf) (t:List Tk) (m:List Int) (w:Int) (x:Wk) (d:Int) (ht:tB t=true) (hm:m.length≤1000) (hs:x.stack.length≤100000) (hmay:wMay c t m w x=false) :
  PureC Tryz.prog 85 [cv' c,tks t,ms m,iv w,wv x,u d] (wsv (m,x,[])):=by
 refine pure_sub okAM 4 Tryz.func85 rfl (by show 6≤_; decide) ?_
 simp only [Tryz.f85,AM_all,sx_all,ht,hm,hs,and_self,hmay,tks,wv,its,ms,evs,wsv,List.map_nil,hfq_x,tt_all,cv',cf_eta,shC_dec,dC,hfree_lu,row1,row5,shI_dec,shM_dec,dI,dM,dU_map,iv,bv,u,ms,ctx_T,ctx_C,Option.bind_some,Option.map_some,fr_eta,ev1,ev2,implies_true,undef,dynCall,↓condE_t,resB,cv,stepB,stepE,callD,tabD,aopR,one,pre,unR,argFrm,evo,lkp,hlk,ofVal,ofCells,setCells,fillA,AV.wr,AV.ok1,TK.agg,frz,frz1,frzt,frzs,frzA,subA,subB,subM,subL,sub1,accOf,Nat.reduceAdd,Nat.reduceEqDiff,Nat.reduceLT,Nat.reduceLeDiff,reduceCtorEq,eq_self,ne_eq]
 all_goals ((repeat' apply And.intro) <;> first | rfl | omega | (show (_:Bool)=true; kernel_rfl) | decide)
theorem wstep_pure (c:Cf) (t:List Tk) (m:List Int) (w:Int) (x:Wk) (d:Int) (ht:tB t=true) (hm:m.length≤1000) (hs:x.stack.length≤100000) (ho:opOk x) :
  PureC Tryz.prog 85 [cv' c,tks t,ms m,iv w,wv x,u d] (wsv (wStep c t m w x d)):=by
 unfold wStep
 cases hmay:wMay c t m w x with
 | false=>rw [if_pos rfl]; exact wstepN c t m w x d ht hm hs hmay
 | true=>
  rw [if_neg (by simp)]
  have hpc:0≤x.pc∧x.pc < 16:=by
   have:=hmay
   simp only [wMay,Bool.and_eq_true,decide_eq_true_eq] at this
   omega
  obtain ⟨pc,st,⟨op,p,who,val,fx,fy,res⟩,sp,lk⟩:=x
  obtain ⟨o0,o2,o3,o5,_,_,o8,o11,o12,o14⟩:=ho
  dsimp only at hpc hs o0 o2 o3 o5 o8 o11 o12 o14 ⊢
  have hp:pc=0∨pc=1∨pc=2∨pc=3∨pc=4∨pc=5∨pc=6∨pc=7∨pc=8∨pc=9∨pc=10∨pc=11∨pc=12∨pc=13∨pc=14∨pc=15:=by omega
  rcases hp with rfl | rfl | rfl | rfl | rfl | rfl | rfl | rfl | rfl | rfl | rfl | rfl | rfl | rfl | rfl | rfl
  ·obtain rfl:=o0 rfl; exact wstep0 c t m w st p who val fx fy res sp lk d ⟨ht,hm,hs,hmay⟩
  ·exact wstep1 c t m w st op p who val fx fy res sp lk d ⟨ht,hm,hs,hmay⟩
  ·obtain rfl:=o2 rfl; exact wstep2 c t m w st p who val fx fy res sp lk d ⟨ht,hm,hs,hmay⟩
  ·obtain rfl:=o3 rfl; exact wstep3 c t m w st p who val fx fy res sp lk d ⟨ht,hm,hs,hmay⟩
  ·exact wstep4 c t m w st op p who val fx fy res sp lk d ⟨ht,hm,hs,hmay⟩
  ·obtain rfl:=o5 rfl; exact wstep5 c t m w st p who val fx fy res sp lk d ⟨ht,hm,hs,hmay⟩
  ·exact wstep6 c t m w st op p who val fx fy res sp lk d ⟨ht,hm,hs,hmay⟩
  ·exact wstep7 c t m w st op p who val fx fy res sp lk d ⟨ht,hm,hs,hmay⟩
  ·obtain rfl:=o8 rfl; exact wstep8 c t m w st p who val fx fy res sp lk d ⟨ht,hm,hs,hmay⟩
  ·exact wstep9 c t m w st op p who val fx fy res sp lk d ⟨ht,hm,hs,hmay⟩
  ·exact wstep10 c t m w st op p who val fx fy res sp lk d ⟨ht,hm,hs,hmay⟩
  ·obtain rfl:=o11 rfl; exact wstep11 c t m w st p who val fx fy res sp lk d ⟨ht,hm,hs,hmay⟩
  ·obtain rfl:=o12 rfl; exact wstep12 c t m w st p who val fx fy res sp lk d ⟨ht,hm,hs,hmay⟩
  ·exact wstep13 c t m w st op p who val fx fy res sp lk d ⟨ht,hm,hs,hmay⟩
  ·obtain rfl:=o14 rfl; exact wstep14 c t m w st p who val fx fy res sp lk d ⟨ht,hm,hs,hmay⟩
  ·exact wstep15 c t m w st op p who val fx fy res sp lk d ⟨ht,hm,hs,hmay⟩
def row6 {α β γ δ ε ζ:Type} (s:Sh α) (t:Sh β) (p:Sh γ) (q:Sh δ) (q':Sh ε) (q2:Sh ζ) (F:α→β→γ→δ→ε→ζ→Option AV):List AV→Option AV
 | [a,b,c,d,e,f]=>(s.dec a).bind fun x=>(t.dec b).bind fun y=>(p.dec c).bind fun z=>(q.dec d).bind fun z'=>(q'.dec e).bind fun z''=>(q2.dec f).bind fun z3=>F x y z z' z'' z3
 | _=>none
theorem ok_row6 {f:FuncId} {α β γ δ ε ζ:Type} {s:Sh α} {t:Sh β} {p:Sh γ} {q:Sh δ} {q':Sh ε} {q2:Sh ζ} {F:α→β→γ→δ→ε→ζ→Option AV} (he:Enters Tryz.prog f)
  (h:∀ x y z z' z'' z3 r,s.Got x→t.Got y→p.Got z→q.Got z'→q'.Got z''→q2.Got z3→F x y z z' z'' z3=some r→PureC Tryz.prog f [s.enc x,t.enc y,p.enc z,q.enc z',q'.enc z'',q2.enc z3] r):RowOk Tryz.prog (f,row6 s t p q q' q2 F):=by
 intro args r hr
 dsimp only [row6] at hr
 split at hr
 ·rename_i a b c d e g
  obtain ⟨x,hx,hr⟩:=Option.bind_eq_some_iff.1 hr
  obtain ⟨y,hy,hr⟩:=Option.bind_eq_some_iff.1 hr
  obtain ⟨z,hz,hr⟩:=Option.bind_eq_some_iff.1 hr
  obtain ⟨z',hz',hr⟩:=Option.bind_eq_some_iff.1 hr
  obtain ⟨z'',hz'',hr⟩:=Option.bind_eq_some_iff.1 hr
  obtain ⟨z3,hz3,hr⟩:=Option.bind_eq_some_iff.1 hr
  exact ⟨he,by simp only [List.mem_cons,List.not_mem_nil,or_false]; rintro _ (rfl | rfl | rfl | rfl | rfl | rfl) <;> first | exact s.hf hx | exact t.hf hy | exact p.hf hz | exact q.hf hz' | exact q'.hf hz'' | exact q2.hf hz3,.weak (ys:=[s.enc x,t.enc y,p.enc z,q.enc z',q'.enc z'',q2.enc z3]) ⟨s.ok _ _ hx,t.ok _ _ hy,p.ok _ _ hz,q.ok _ _ hz',q'.ok _ _ hz'',q2.ok _ _ hz3,trivial⟩ (h x y z z' z'' z3 r ⟨a,hx⟩ ⟨b,hy⟩ ⟨c,hz⟩ ⟨d,hz'⟩ ⟨e,hz''⟩ ⟨g,hz3⟩ hr)⟩
 ·cases hr
end Go.Vai

/- Tasks of one's own; may a pool be? -/
namespace Go.Vai
open Go.RowKit Go.Proofs
set_option maxHeartbeats 4000000
set_option maxRecDepth 100000
def rowsAP:List Row:=[] ++ rowsAN
theorem rowsAP_ok:∀ p∈rowsAP,RowOk Tryz.prog p:=fun p h=>by
 simp only [rowsAP,List.mem_append,List.not_mem_nil,false_or] at h
 rcases h with h
 ·exact rowsAN_ok p h
theorem okAP:(ctx Tryz.prog rowsAP).ok:=rows_ok rowsAP_ok
theorem AP_all:tabC rowsAP 50=(fun _=>none)∧tabC rowsAP 78=(fun _=>none)∧tabC rowsAP 68=(fun _=>none)∧tabC rowsAP 95=(fun _=>none)∧tabC rowsAP 66=(fun _=>none)∧tabC rowsAP 67=(fun _=>none)∧tabC rowsAP 65=(fun _=>none)∧tabC rowsAP 93=(fun _=>none)∧tabC rowsAP 94=(row5 shC shT shM shI shWk fun c t m w x=>if tB t=true∧x.stack.length≤100000 then some (bv (wMay c t m w x)) else none)∧tabC rowsAP 62=(row1 shZs fun l=>if l.length≤100000 then some (zs l) else none)∧tabC rowsAP 61=(fun _=>none)∧tabC rowsAP 191=(row1 shN fun e=>some (.tup [u (wBump e),iv (wLow (wMask e))]))∧tabC rowsAP 190=(fun _=>none)∧tabC rowsAP 192=(fun _=>none)∧tabC rowsAP 30=(row1 shN fun e=>some (u (wMask e)))∧tabC rowsAP 28=(row1 shC fun c=>some (bv (mayC c))):=⟨rfl,rfl,rfl,rfl,rfl,rfl,rfl,rfl,rfl,rfl,rfl,rfl,rfl,rfl,rfl,rfl⟩
theorem set_self_t {l:List Tk} {k:Nat} (h:k < l.length):(l.map tv).set k (.agg [.v (.int .i64 (l.getD k ⟨0,[]⟩).work),.lst 1 ((l.getD k ⟨0,[]⟩).kids.map iv)])=l.map tv:=by
 apply List.ext_getElem?
 intro j
 rw [List.getElem?_set]
 split
 ·rename_i e
  subst e
  simp only [List.length_map,h,if_true,List.getElem?_map,List.getElem?_eq_getElem h,Option.map_some,List.getD_eq_getElem?_getD,Option.getD_some]
  rfl
 ·rfl
theorem tasks_pure (t:List Tk) (ht:tB t=true) (hl:t.length≤100000):PureC Tryz.prog 37 [tks t] (tks t):=by
 refine pure_sub okAP 2 Tryz.func37 rfl (by show 1≤_; decide) ?_
 have hb:t.length * 32≤140737488355328:=by omega
 have hle:t.length≤t.length:=Nat.le_refl _
 by_cases h0:t=[]
 ·subst h0
  simp only [Tryz.f37,Tryz.func61,Tryz.f61,inl,AP_all,tks,List.map_nil,List.length_nil,tt_all,ctx_T,ctx_C,ctx_P,String.reduceBEq,Int.cast_ofNat_Int,ev1,ev2,undef,frzDeep,deepArgs,deepArg,resB,cv,stepB,aopR,one,pre,binR,argFrm,evo,lkp,hlk,lenOf,asLst,idOf,srcOk,setElems,isEq,frz,frz1,frzA,frzArg,frzArgs,subA,subB,sub1,List.replicate,Nat.reduceAdd,Nat.reduceMul,Nat.reduceLT,Nat.reduceLeDiff,reduceCtorEq,eq_self,ne_eq]
  constructor
  ·refine WP.rounds okAP 1 1 (by rfl) ?_
   simp only [r_rounds,List.length_nil,ev1,ev2,undef,↓condE_f,resB,cv,stepB,aopR,one,pre,binR,intOpR,evo,lkp,Nat.reduceAdd,Nat.reduceLT,eq_self,Int.reduceLT]
  ·refine WP.rounds okAP 1 1 (by rfl) ?_
   simp only [r_rounds,List.length_nil,hfc_0,ev1,ev2,undef,↓condE_f,resB,cv,stepB,aopR,one,pre,binR,intOpR,evo,lkp,hlk,Nat.reduceAdd,Nat.reduceLT,eq_self,Int.reduceLT]
 ·have hn:(t.map tv=[])=False:=eq_false (by simpa using h0)
  simp only [Tryz.f37,Tryz.func61,Tryz.f61,inl,AP_all,hn,hb,tks,List.length_map,tt_all,ctx_T,ctx_C,ctx_P,List.length_map,String.reduceBEq,Int.cast_ofNat_Int,ev1,ev2,undef,frzDeep,deepArgs,deepArg,resB,cv,stepB,aopR,one,pre,binR,argFrm,evo,lkp,hlk,lenOf,asLst,idOf,srcOk,setElems,isEq,frz,frz1,frzA,frzArg,frzArgs,subA,subB,sub1,List.replicate,Nat.reduceAdd,Nat.reduceMul,Nat.reduceLT,Nat.reduceLeDiff,reduceCtorEq,eq_self,ne_eq]
  refine WP.loop (fun i:Nat=>t.length - i) (fun i=>i≤t.length) (n:=24) (fr:=fun i=>[(9,iv i),(8,iv t.length),(3,.arr 9 0 t.length)]) (hp:=fun _=>[(9,some ⟨false,67,2,t.map tv⟩)]) (N:=14) ?_ 0 (Nat.zero_le _) rfl (Nat.le_refl _) ⟨rfl,rfl,rfl,trivial⟩ ⟨rfl,trivial⟩
  rintro i nx g1 hN _
  have n9:9 < nx:=by omega
  refine WP.of okAP 1 (by rfl) ?_
  by_cases hi:i < t.length
  ·have hz:(i:Int) < t.length:=by omega
   have hz0:(0:Int)≤(i:Int):=by omega
   have hg:=getD_t hi
   have hst:=set_self_t hi
   have w1:IntKind.wrap .i64 ((i:Int) + 1)=((i + 1:Nat):Int):=by rw [wrap_i (by omega) (by omega)]; omega
   have hk:(t.getD i ⟨0,[]⟩).kids.length≤100000:=by
    have:=List.all_eq_true.1 ht (t.getD i ⟨0,[]⟩) (by simp [List.getD_eq_getElem?_getD,hi])
    simp only [decide_eq_true_eq] at this; omega
   simp only [AP_all,rf1,hz,hz0,hg,hi,hk,hst,w1,tv,zs,List.length_map,Int.toNat_natCast,Nat.zero_add,Nat.add_assoc,tt_all,row1,iv,ctx_T,ctx_C,Option.bind_some,List.length_map,Int.toNat_natCast,ev1,ev2,implies_true,undef,↓condE_t,cv,stepB,aopR,one,pre,binR,intOpR,evo,lkp,hlk,ofCells,setCells,AV.wr,AV.ok1,TK.agg,sub1,kp,kh,Nat.reduceAdd,Nat.reduceLT,Nat.reduceLeDiff,reduceCtorEq,eq_self,ne_eq]
   exact ⟨i + 1,by omega,by omega,rfl⟩
  ·have hz:¬ (i:Int) < t.length:=by omega
   simp only [hz,hle,take_tt,hfc_t,List.length_map,Nat.add_assoc,iv,List.length_map,ev1,ev2,undef,↓condE_f,resB,cv,stepB,aopR,one,pre,binR,intOpR,evo,lkp,hlk,Nat.reduceAdd,Nat.reduceLT,eq_self]
   all_goals ((repeat' apply And.intro) <;> first | rfl | omega | (show (_:Bool)=true; kernel_rfl) | decide)
end Go.Vai

/- May a pool be? -/
namespace Go.Vai
open Go.RowKit Go.Proofs
set_option maxHeartbeats 4000000
set_option maxRecDepth 100000
def wk0:Wk:=⟨0,[],fr00,0,0⟩
def allW (p:Po):Bool:=(List.range p.w.length).all fun (i:Nat)=>wMay p.c p.t p.m i (p.w.getD i wk0)
def okRoot (n:Nat) (r:Int):Bool:=decide (0≤r) && decide (r < n)
def okSub (n:Nat) (s:Sb):Bool:=decide (0≤s.pc) && decide (s.pc < 6) && s.roots.all (okRoot n) && (s.pc == 0 || decide (0 < s.roots.length))
def pMay (p:Po):Bool:=mayC p.c && ((p.w.length:Int) == p.c.w) && decide (p.s.length≤3) && allW p && p.s.all (okSub p.t.length)
structure PB (p:Po) (n:Nat):Prop where
 t:tB p.t=true
 m:p.m.length≤1000
 w:∀ x∈p.w,x.stack.length≤n
 s:∀ x∈p.s,x.roots.length≤100000
instance (p:Po) (n:Nat):Decidable (PB p n):=
 if h:tB p.t=true∧p.m.length≤1000∧(∀ x∈p.w,x.stack.length≤n)∧(∀ x∈p.s,x.roots.length≤100000) then .isTrue ⟨h.1,h.2.1,h.2.2.1,h.2.2.2⟩
 else .isFalse fun k=>h ⟨k.t,k.m,k.w,k.s⟩
theorem getD_w {l:List Wk} {k:Nat} (h:k < l.length):(l.map wv).getD k .top=wv (l.getD k wk0):=by simp [List.getD_eq_getElem?_getD,h]
theorem getD_s {l:List Sb} {k:Nat} (h:k < l.length):(l.map sbv).getD k .top=sbv (l.getD k ⟨0,[],fr00⟩):=by simp [List.getD_eq_getElem?_getD,h]
theorem allW_not {p:Po} {i:Nat} (hi:i < p.w.length) (h:wMay p.c p.t p.m i (p.w.getD i wk0)=false):allW p=false:=by
 rw [Bool.eq_false_iff,Ne,allW,List.all_eq_true]
 intro k
 have:=k i (List.mem_range.2 hi)
 rw [h] at this; cases this
theorem pmay_pure (p:Po) (h:PB p 100000):PureC Tryz.prog 44 [pov p] (bv (pMay p)):=by
 refine pure_top okAP 6 Tryz.func44 rfl (by show 1≤_; decide) ?_
 obtain ⟨c,t,m,ws,ss⟩:=p
 obtain ⟨ht,hm,hw,hs⟩:=h
 dsimp only at ht hm hw hs
 unfold pMay
 dsimp only
 cases h1:mayC c with
 | false=>
  simp only [Tryz.f44,AP_all,h1,pov,tks,wks,sbs,Bool.false_and,tt_all,top_T,cf_eta,shC_dec,dC,row1,iv,bv,ms,ctx_T,ctx_C,Option.bind_some,ev1,ev2,implies_true,undef,↓condE_t,↓guardE_tf,resB,cv,stepB,guardB,guardC,dstAt,aopR,one,pre,unR,argFrm,evo,lkp,hlk,ofVal,ofCells,setCells,AV.wr,AV.ok1,TK.agg,frz,frz1,frzA,subA,subB,sub1,Nat.reduceAdd,Nat.reduceEqDiff,Nat.reduceLT,Nat.reduceLeDiff,reduceCtorEq,eq_self,ne_eq]
  all_goals ((repeat' apply And.intro) <;> first | rfl | omega | (show (_:Bool)=true; kernel_rfl) | decide)
 | true=>
  cases h2:(ws.length:Int) == c.w with
  | false=>
   have h2':((ws.length:Int) != c.w)=true:=by simp only [bne,h2]; rfl
   simp only [Tryz.f44,AP_all,h1,h2',pov,tks,wks,sbs,List.length_map,Bool.false_and,Bool.and_false,tt_all,top_T,cf_eta,shC_dec,dC,row1,iv,bv,ms,ctx_T,ctx_C,Option.bind_some,List.length_map,ev1,ev2,implies_true,undef,↓condE_t,↓guardE_ff,↓guardE_tf,resB,cv,stepB,guardB,guardC,dstAt,aopR,one,pre,binR,intOpR,unR,argFrm,evo,lkp,hlk,lenOf,ofVal,ofCells,setCells,AV.wr,AV.ok1,TK.agg,frz,frz1,frzA,subA,subB,sub1,Nat.reduceAdd,Nat.reduceEqDiff,Nat.reduceLT,Nat.reduceLeDiff,reduceCtorEq,eq_self,ne_eq]
   all_goals ((repeat' apply And.intro) <;> first | rfl | omega | (show (_:Bool)=true; kernel_rfl) | decide)
  | true=>
   have h2':((ws.length:Int) != c.w)=false:=by simp only [bne,h2]; rfl
   by_cases h3:(ss.length:Int) > 3
   ·have h3':decide (ss.length≤3)=false:=by simp; omega
    simp only [Tryz.f44,AP_all,h1,h2',h3,h3',pov,tks,wks,sbs,List.length_map,Bool.false_and,Bool.and_false,tt_all,top_T,cf_eta,shC_dec,dC,row1,iv,bv,ms,ctx_T,ctx_C,Option.bind_some,List.length_map,ev1,ev2,implies_true,undef,↓condE_t,↓guardE_ff,resB,cv,stepB,guardB,guardC,dstAt,aopR,one,pre,binR,intOpR,unR,argFrm,evo,lkp,hlk,lenOf,ofVal,ofCells,setCells,AV.wr,AV.ok1,TK.agg,frz,frz1,frzA,subA,subB,sub1,Nat.reduceAdd,Nat.reduceEqDiff,Nat.reduceLT,Nat.reduceLeDiff,reduceCtorEq,eq_self,ne_eq]
    all_goals ((repeat' apply And.intro) <;> first | rfl | omega | (show (_:Bool)=true; kernel_rfl) | decide)
   ·have h3':decide (ss.length≤3)=true:=by simp; omega
    rw [h3']
    have hcw:ws.length≤8:=by
     have a:=mayC_iff.1 h1
     have b:(ws.length:Int)=c.w:=by simpa using h2
     omega
    simp only [Tryz.f44,Tryz.func65,Tryz.f65,inl,AP_all,h1,h2',h3,pov,tks,wks,sbs,List.length_map,Bool.true_and,tt_all,top_T,r_rangeF,cf_eta,shC_dec,dC,row1,iv,bv,ms,ctx_T,ctx_C,ctx_P,Option.bind_some,List.length_map,String.reduceBEq,ev1,ev2,implies_true,undef,↓condE_f,↓guardE_ff,frzDeep,deepArgs,deepArg,resB,cv,stepB,guardB,guardC,dstAt,aopR,one,pre,binR,intOpR,unR,argFrm,evo,lkp,hlk,lenOf,ofVal,ofCells,AV.wr,AV.ok1,TK.agg,frz,frz1,frzA,frzArg,frzArgs,subA,subB,sub1,Nat.reduceAdd,Nat.reduceEqDiff,Nat.reduceLT,Nat.reduceLeDiff,reduceCtorEq,eq_self,ne_eq]
    refine WP.ranges okAP 1 (g:=93) rfl (enters_of Tryz.func93 (by decide) rfl) Tryz.func93 rfl (by decide) (by rfl) (by rfl) ?_
    intro Y hI hYF hYT hYC hYY
    simp only [Tryz.f93,hYT,List.length_map,tt_all,ctx_T,List.length_map,ev1,ev2,implies_true,undef,cv,stepB,aopR,one,pre,argFrm,evo,lkp,hlk,lenOf,ofCells,TK.agg,Nat.reduceAdd,Nat.reduceLT,Nat.reduceLeDiff,reduceCtorEq,eq_self,ne_eq]
    refine WP.loop (ι:=Nat) (fun i=>ws.length - i) (fun i=>i≤ws.length∧∀ k,k < i→wMay c t m k (ws.getD k wk0)=true) (n:=30)
     (fr:=fun i=>[(8,iv i),(7,iv ws.length),(6,wks ws),(0,.yld 27),(1,.ptr 23 0 0)])
     (hp:=fun i=>[(27,some (gBlk 0)),(23,some ⟨false,34,8,[pov ⟨c,t,m,ws,ss⟩]⟩),(1,some ⟨false,4,1,[bv false]⟩),(0,some ⟨false,34,8,[pov ⟨c,t,m,ws,ss⟩]⟩)])
     (N:=32) ?_ 0 ⟨Nat.zero_le _,fun k h=>by omega⟩ rfl (Nat.le_refl _) ⟨rfl,rfl,rfl,rfl,rfl,trivial⟩ ⟨rfl,rfl,rfl,rfl,trivial⟩ (im:=hI.im)
    rintro i nx ⟨g1,g2⟩ hN hid
    have n0:0 < nx:=by omega
    have n1:1 < nx:=by omega
    have n23:23 < nx:=by omega
    have n27:27 < nx:=by omega
    refine WP.ofX hI hYF (by rfl) ?_
    by_cases hi:i < ws.length
    ·have hz:(i:Int) < ws.length:=by omega
     have hz0:(0:Int)≤(i:Int):=by omega
     have hg:=getD_w hi
     have hsl:(ws.getD i wk0).stack.length≤100000:=hw _ (by simp [List.getD_eq_getElem?_getD,hi])
     have w1:IntKind.wrap .i64 ((i:Int) + 1)=((i + 1:Nat):Int):=by rw [wrap_i (by omega) (by omega)]; omega
     cases hx:wMay c t m i (ws.getD i wk0) with
     | false=>
      have e:allW ⟨c,t,m,ws,ss⟩=false:=allW_not (p:=⟨c,t,m,ws,ss⟩) hi hx
      rw [e]
      generalize ws.getD i wk0=x at *
      simp only [hYT,hYY,r_yld,AP_all,sx_all,hz,hz0,hg,ht,hm,hsl,hx,n1,n23,n27,and_self,pov,tks,wks,sbs,wv,its,List.length_map,Int.toNat_natCast,Bool.false_and,nb_self,nb_lt,Nat.add_assoc,tt_all,inR_T,r_yld,r_start,r_rkR,r_endR,r_endM,r_endJ2,zipF,cf_eta,shC_dec,dC,row5,shI_dec,shM_dec,dI,dM,dU_map,iv,bv,u,ms,ctx_T,ctx_C,Option.bind_some,List.length_map,Int.toNat_natCast,fr_eta,ev1,ev2,implies_true,undef,↓condE_t,↓guardE_tt,resB,cv,stepB,guardB,guardC,dstAt,aopR,one,pre,binR,intOpR,unR,evo,lkp,hlk,ofVal,ofCells,setCells,AV.wr,AV.ok1,TK.agg,Nat.reduceAdd,Nat.reduceEqDiff,Nat.reduceLT,Nat.reduceLeDiff,reduceCtorEq,eq_self,ne_eq]
      all_goals ((repeat' apply And.intro) <;> first | rfl | omega | (show (_:Bool)=true; kernel_rfl) | decide)
     | true=>
      have hstep:∀ k,k < i + 1→wMay c t m k (ws.getD k wk0)=true:=by
       intro k hk
       rcases Nat.lt_succ_iff_lt_or_eq.1 hk with q | rfl
       ·exact g2 k q
       ·exact hx
      generalize ws.getD i wk0=x at hg hsl hx
      simp only [hYT,AP_all,sx_all,hz,hz0,hg,ht,hm,hsl,hx,w1,n0,n1,n23,n27,and_self,pov,tks,wks,sbs,wv,its,List.length_map,Int.toNat_natCast,nb_self,nb_lt,Nat.add_assoc,tt_all,cf_eta,shC_dec,dC,row5,shI_dec,shM_dec,dI,dM,dU_map,iv,bv,u,ms,ctx_T,ctx_C,Option.bind_some,List.length_map,Int.toNat_natCast,fr_eta,ev1,ev2,implies_true,undef,↓condE_t,↓condE_f,↓guardE_ft,cv,stepB,guardB,guardC,dstAt,aopR,one,pre,binR,intOpR,unR,evo,lkp,hlk,ofVal,ofCells,setCells,AV.wr,AV.ok1,TK.agg,sub1,kp,kh,Nat.reduceAdd,Nat.reduceEqDiff,Nat.reduceLT,Nat.reduceLeDiff,reduceCtorEq,eq_self,ne_eq]
      exact ⟨i + 1,by omega,⟨by omega,hstep⟩,rfl⟩
    ·have hz:¬ (i:Int) < ws.length:=by omega
     have e:allW ⟨c,t,m,ws,ss⟩=true:=by
      unfold allW
      rw [List.all_eq_true]
      intro k hk
      exact g2 k (by have:=List.mem_range.1 hk; dsimp only at this; omega)
     rw [e]
     simp only [Tryz.func50,Tryz.f50,Tryz.func78,Tryz.f78,inl,AP_all,hz,pov,tks,wks,sbs,List.length_map,Bool.true_and,Nat.add_assoc,tt_all,top_T,r_endR,r_endM,r_endJ0,iv,bv,ms,ctx_T,ctx_C,ctx_P,List.length_map,String.reduceBEq,Int.reduceNeg,ev1,ev2,implies_true,undef,↓condE_f,frzDeep,deepArgs,deepArg,resB,cv,stepB,aopR,one,pre,binR,intOpR,argFrm,evo,lkp,hlk,lenOf,ofCells,TK.agg,frzArg,frzArgs,Nat.reduceAdd,Nat.reduceLT,Nat.reduceLeDiff,reduceCtorEq,eq_self,ne_eq]
     refine WP.loop (ι:=Nat) (fun j=>ss.length - j) (fun j=>j≤ss.length∧(ss.take j).all (okSub t.length)=true) (n:=19)
      (fr:=fun j=>[(8,iv j),(7,iv ss.length),(0,sbs ss),(1,.fn (.func 66) [] [.ptr 0 0 0])])
      (hp:=fun j=>[(1,some ⟨false,4,1,[bv false]⟩),(0,some ⟨false,34,8,[pov ⟨c,t,m,ws,ss⟩]⟩)])
      (N:=32) ?_ 0 ⟨Nat.zero_le _,rfl⟩ rfl (by dsimp only; omega) ⟨rfl,rfl,rfl,rfl,trivial⟩ (by simp only [pov,tks,wks,sbs,iv,bv,ms,ev2,hlk,kh,eq_self])
     rintro j nx ⟨g3,g4⟩ hN hid
     have n0:0 < nx:=by omega
     have n1:1 < nx:=by omega
     refine WP.of okAP 5 (by rfl) ?_
     by_cases hj:j < ss.length
     ·have hy:(j:Int) < ss.length:=by omega
      have hy0:(0:Int)≤(j:Int):=by omega
      have hj0:(j:Int) ≥ 0:=by omega
      have hgs:=getD_s hj
      have w1:IntKind.wrap .i64 ((j:Int) + 1)=((j + 1:Nat):Int):=by rw [wrap_i (by omega) (by omega)]; omega
      have hrl:(ss.getD j ⟨0,[],fr00⟩).roots.length≤100000:=hs _ (by simp [List.getD_eq_getElem?_getD,hj])
      have hbad:okSub t.length (ss.getD j ⟨0,[],fr00⟩)=false→ss.all (okSub t.length)=false:=fun q=>all_not hj q
      have hgood:okSub t.length (ss.getD j ⟨0,[],fr00⟩)=true→(ss.take (j + 1)).all (okSub t.length)=true:=fun q=>take_all g4 hj q
      generalize ss.getD j ⟨0,[],fr00⟩=x at hgs hrl hbad hgood
      by_cases c1:x.pc < 0
      ·rw [hbad (by simp only [okSub]; rw [show decide (0≤x.pc)=false by simp; omega]; rfl)]
       simp only [Tryz.func66,Tryz.f66,hy,hy0,hgs,c1,n1,inl,AP_all,pov,tks,wks,sbs,sbv,zs,List.length_map,Int.toNat_natCast,Bool.not_true,Bool.not_false,nb_self,nb_lt,Nat.add_assoc,tt_all,top_T,iv,bv,u,ms,ctx_T,ctx_C,ctx_P,List.length_map,String.reduceBEq,Int.toNat_natCast,Int.reduceNeg,ev1,ev2,implies_true,undef,↓condE_t,↓guardE_tf,frzDeep,deepArgs,deepArg,resB,cv,stepB,guardB,guardC,dstAt,aopR,one,pre,binR,intOpR,unR,argFrm,evo,lkp,hlk,ofCells,setCells,AV.wr,AV.ok1,TK.agg,frzArg,frzArgs,Nat.reduceAdd,Nat.reduceEqDiff,Nat.reduceLT,Nat.reduceLeDiff,reduceCtorEq,eq_self,ne_eq]
       all_goals ((repeat' apply And.intro) <;> first | rfl | omega | (show (_:Bool)=true; kernel_rfl) | decide)
      ·by_cases c2:x.pc ≥ 6
       ·rw [hbad (by simp only [okSub]; rw [show decide (x.pc < 6)=false by simp; omega]; simp)]
        simp only [Tryz.func66,Tryz.f66,hy,hy0,hgs,c1,c2,n1,inl,AP_all,pov,tks,wks,sbs,sbv,zs,List.length_map,Int.toNat_natCast,Bool.not_true,Bool.not_false,nb_self,nb_lt,Nat.add_assoc,tt_all,top_T,iv,bv,u,ms,ctx_T,ctx_C,ctx_P,List.length_map,String.reduceBEq,Int.toNat_natCast,Int.reduceNeg,ev1,ev2,implies_true,undef,↓condE_t,↓guardE_ff,↓guardE_tf,frzDeep,deepArgs,deepArg,resB,cv,stepB,guardB,guardC,dstAt,aopR,one,pre,binR,intOpR,unR,argFrm,evo,lkp,hlk,ofCells,setCells,AV.wr,AV.ok1,TK.agg,frzArg,frzArgs,Nat.reduceAdd,Nat.reduceEqDiff,Nat.reduceLT,Nat.reduceLeDiff,reduceCtorEq,eq_self,ne_eq]
        all_goals ((repeat' apply And.intro) <;> first | rfl | omega | (show (_:Bool)=true; kernel_rfl) | decide)
       ·simp only [Tryz.func66,Tryz.f66,Tryz.func68,Tryz.f68,Tryz.func95,Tryz.f95,hy,hy0,hgs,c1,c2,inl,AP_all,rf1,pov,tks,wks,sbs,sbv,zs,List.length_map,Int.toNat_natCast,nb_self,Nat.add_assoc,tt_all,iv,bv,u,ms,ctx_T,ctx_C,ctx_P,List.length_map,String.reduceBEq,Int.toNat_natCast,Int.reduceNeg,ev1,ev2,implies_true,undef,↓condE_t,↓guardE_ff,frzDeep,deepArgs,deepArg,cv,stepB,guardB,guardC,dstAt,aopR,one,pre,binR,intOpR,argFrm,evo,lkp,hlk,lenOf,ofCells,AV.wr,AV.ok1,TK.agg,frzArg,frzArgs,Nat.reduceAdd,Nat.reduceEqDiff,Nat.reduceLT,Nat.reduceLeDiff,reduceCtorEq,eq_self,ne_eq]
        have c3:decide (0≤x.pc)=true:=by simp; omega
        have c4:decide (x.pc < 6)=true:=by simp; omega
        refine WP.loop (ι:=Nat) (fun k=>x.roots.length - k) (fun k=>k≤x.roots.length∧(x.roots.take k).all (okRoot t.length)=true) (n:=19)
         (fr:=fun k=>[(8,iv k),(7,iv x.roots.length),(0,zs x.roots),(1,.fn (.func 67) [] [.ptr 0 0 0])])
         (hp:=fun k=>[(nx + 9,some ⟨false,50,9,[sbv x]⟩),(1,some ⟨false,4,1,[bv false]⟩),(0,some ⟨false,34,8,[pov ⟨c,t,m,ws,ss⟩]⟩)])
         (N:=nx + 49) ?_ 0 ⟨Nat.zero_le _,rfl⟩ rfl (Nat.le_refl _) ⟨rfl,rfl,rfl,rfl,trivial⟩ (by simp only [n0,n1,pov,tks,wks,sbs,sbv,zs,nb_self,nb_lt,iv,bv,u,ms,ev2,hlk,kh,eq_self])
        rintro k nx2 ⟨g5,g6⟩ hN2 hid2
        have m0:0 < nx2:=by omega
        have m1:1 < nx2:=by omega
        have m9:nx + 9 < nx2:=by omega
        refine WP.of okAP 3 (by rfl) ?_
        by_cases hk:k < x.roots.length
        ·have hv:(k:Int) < x.roots.length:=by omega
         have hv0:(0:Int)≤(k:Int):=by omega
         have hv1:(k:Int) ≥ 0:=by omega
         have hgr:=getD_z hk
         have w2:IntKind.wrap .i64 ((k:Int) + 1)=((k + 1:Nat):Int):=by rw [wrap_i (by omega) (by omega)]; omega
         by_cases q1:x.roots.getD k 0 < 0
         ·rw [hbad (by simp only [okSub]; rw [all_not hk (d:=0) (by simp only [okRoot]; rw [show decide (0≤x.roots.getD k 0)=false by simp only [decide_eq_false_iff_not]; omega]; rfl)]; simp)]
          simp only [Tryz.func67,Tryz.f67,hv,hv0,hgr,q1,n1,hy0,inl,AP_all,pov,tks,wks,sbs,sbv,zs,List.length_map,Int.toNat_natCast,Bool.not_true,Bool.not_false,nb_lt,Nat.add_assoc,tt_all,top_T,iv,bv,u,ms,ctx_T,ctx_C,ctx_P,List.length_map,String.reduceBEq,Int.toNat_natCast,Int.reduceNeg,ev1,ev2,implies_true,undef,↓condE_t,↓guardE_tf,frzDeep,deepArgs,deepArg,resB,cv,stepB,guardB,guardC,dstAt,aopR,one,pre,binR,intOpR,unR,argFrm,evo,lkp,hlk,ofCells,setCells,AV.wr,AV.ok1,TK.agg,frzArg,frzArgs,Nat.reduceAdd,Nat.reduceLT,Nat.reduceLeDiff,reduceCtorEq,eq_self,ne_eq]
          all_goals ((repeat' apply And.intro) <;> first | rfl | omega | (show (_:Bool)=true; kernel_rfl) | decide)
         ·by_cases q2:x.roots.getD k 0 ≥ t.length
          ·rw [hbad (by simp only [okSub]; rw [all_not hk (d:=0) (by simp only [okRoot]; rw [show decide (x.roots.getD k 0 < t.length)=false by simp only [decide_eq_false_iff_not]; omega]; simp)]; simp)]
           simp only [Tryz.func67,Tryz.f67,hv,hv0,hgr,q1,q2,n0,n1,hy0,inl,AP_all,pov,tks,wks,sbs,sbv,zs,List.length_map,Int.toNat_natCast,Bool.not_true,Bool.not_false,nb_lt,Nat.add_assoc,tt_all,top_T,iv,bv,u,ms,ctx_T,ctx_C,ctx_P,List.length_map,String.reduceBEq,Int.toNat_natCast,Int.reduceNeg,ev1,ev2,implies_true,undef,↓condE_t,↓guardE_ff,↓guardE_tf,frzDeep,deepArgs,deepArg,resB,cv,stepB,guardB,guardC,dstAt,aopR,one,pre,binR,intOpR,unR,argFrm,evo,lkp,hlk,lenOf,ofCells,setCells,AV.wr,AV.ok1,TK.agg,frzArg,frzArgs,Nat.reduceAdd,Nat.reduceLT,Nat.reduceLeDiff,reduceCtorEq,eq_self,ne_eq]
           all_goals ((repeat' apply And.intro) <;> first | rfl | omega | (show (_:Bool)=true; kernel_rfl) | decide)
          ·simp only [Tryz.func67,Tryz.f67,hv,hv0,hgr,q1,q2,w2,n0,n1,inl,AP_all,pov,tks,wks,sbs,sbv,zs,List.length_map,Int.toNat_natCast,nb_self,nb_lt,Nat.add_assoc,tt_all,iv,bv,u,ms,ctx_T,ctx_C,ctx_P,List.length_map,String.reduceBEq,Int.toNat_natCast,Int.reduceNeg,ev1,ev2,implies_true,undef,↓condE_t,↓condE_f,↓guardE_ff,frzDeep,deepArgs,deepArg,resB,cv,stepB,guardB,guardC,dstAt,aopR,one,pre,binR,intOpR,argFrm,evo,lkp,hlk,lenOf,ofCells,TK.agg,frzArg,frzArgs,sub1,kp,kh,Nat.reduceAdd,Nat.reduceLT,Nat.reduceLeDiff,reduceCtorEq,eq_self,ne_eq]
           exact ⟨k + 1,by omega,⟨by omega,take_all g6 hk (d:=0) (by simp only [okRoot,Bool.and_eq_true,decide_eq_true_eq]; omega)⟩,rfl⟩
        ·have hv:¬ (k:Int) < x.roots.length:=by omega
         have er:x.roots.all (okRoot t.length)=true:=by rwa [List.take_of_length_le (by omega)] at g6
         cases q3:x.pc == 0 with
         | true=>
          have q3':(x.pc != 0)=false:=by simp only [bne,q3]; rfl
          have gd:=hgood (by simp only [okSub,c3,c4,er,q3]; rfl)
          simp only [hv,q3',w1,n0,n1,pov,tks,wks,sbs,sbv,zs,Bool.not_true,nb_self,nb_lt,Nat.add_assoc,tt_all,iv,bv,u,ms,ctx_T,Int.reduceNeg,ev1,ev2,implies_true,undef,↓condE_f,↓guardE_ff,↓guardE_ft,resB,cv,stepB,guardB,guardC,dstAt,aopR,one,pre,binR,intOpR,evo,lkp,hlk,ofCells,TK.agg,sub1,kp,kh,Nat.reduceAdd,Nat.reduceLT,Nat.reduceLeDiff,reduceCtorEq,eq_self,ne_eq,Int.reduceGE]
          exact ⟨j + 1,by omega,⟨by omega,gd⟩,rfl⟩
         | false=>
          have q3':(x.pc != 0)=true:=by simp only [bne,q3]; rfl
          by_cases q4:x.roots.length=0
          ·have q4':((x.roots.length:Int) == 0)=true:=by rw [q4]; rfl
           rw [hbad (by simp only [okSub,c3,c4,er,q3]; rw [show decide (0 < x.roots.length)=false by simp only [decide_eq_false_iff_not]; omega]; rfl)]
           simp only [hv,q3',q4',n1,hy0,pov,tks,wks,sbs,sbv,zs,List.length_map,Bool.not_true,nb_self,nb_lt,Nat.add_assoc,tt_all,top_T,iv,bv,u,ms,ctx_T,List.length_map,Int.reduceNeg,ev1,ev2,implies_true,undef,↓condE_t,↓condE_f,↓guardE_tt,↓guardE_ff,resB,cv,stepB,guardB,guardC,dstAt,aopR,one,pre,binR,intOpR,unR,evo,lkp,hlk,lenOf,ofCells,setCells,AV.wr,AV.ok1,TK.agg,Nat.reduceAdd,Nat.reduceLT,Nat.reduceLeDiff,reduceCtorEq,eq_self,ne_eq,Int.reduceGE]
           all_goals ((repeat' apply And.intro) <;> first | rfl | omega | (show (_:Bool)=true; kernel_rfl) | decide)
          ·have q4':((x.roots.length:Int) == 0)=false:=by
            have:¬ (x.roots.length:Int)=0:=by omega
            simpa using this
           have gd:=hgood (by simp only [okSub,c3,c4,er,q3]; rw [show decide (0 < x.roots.length)=true by simp only [decide_eq_true_eq]; omega]; rfl)
           simp only [hv,q3',q4',w1,n0,n1,pov,tks,wks,sbs,sbv,zs,List.length_map,nb_self,nb_lt,Nat.add_assoc,tt_all,iv,bv,u,ms,ctx_T,List.length_map,Int.reduceNeg,ev1,ev2,implies_true,undef,↓condE_f,↓guardE_tt,↓guardE_ff,resB,cv,stepB,guardB,guardC,dstAt,aopR,one,pre,binR,intOpR,evo,lkp,hlk,lenOf,ofCells,TK.agg,sub1,kp,kh,Nat.reduceAdd,Nat.reduceLT,Nat.reduceLeDiff,reduceCtorEq,eq_self,ne_eq,Int.reduceGE]
           exact ⟨j + 1,by omega,⟨by omega,gd⟩,rfl⟩
     ·have hy:¬ (j:Int) < ss.length:=by omega
      have e:ss.all (okSub t.length)=true:=by rwa [List.take_of_length_le (by omega)] at g4
      rw [e]
      simp only [hy,pov,tks,wks,sbs,Bool.not_false,Nat.add_assoc,tt_all,top_T,iv,bv,ms,ctx_T,Int.reduceNeg,ev1,ev2,implies_true,undef,↓condE_f,resB,cv,stepB,aopR,one,pre,binR,intOpR,unR,evo,lkp,hlk,ofCells,setCells,AV.wr,AV.ok1,TK.agg,Nat.reduceAdd,Nat.reduceLT,Nat.reduceLeDiff,reduceCtorEq,eq_self,ne_eq,Int.reduceGE]
      all_goals ((repeat' apply And.intro) <;> first | rfl | omega | (show (_:Bool)=true; kernel_rfl) | decide)
end Go.Vai
