/- The evaluator, the plain texts and the contracts that this claim leans on, part 1: nothing of the statement is claimed here. -/
import Derived.Calls
import Derived.Tactics
import Derived.WalkKit
import Derived.Orders
import Derived.RangeFuncOwn
import Derived.Laws.MakeOwn
import Derived.Laws.CopyRow
import Derived.MapKept
import Derived.RangeFuncRecord
import Derived.TacticsIn
import Derived.OrdersIn
set_option linter.unusedVariables false
set_option linter.unusedSimpArgs false

/- The abstract values, states and evaluator of a small program logic over the kit's calculus of calls. Definitions alone: nothing is claimed here. -/
namespace Go.Vai
inductive AV where
 | top
 | v (x:Value)
 | agg (cs:List AV)
 | tup (vs:List AV)
 | lst (sz:Nat) (xs:List AV)
 | rptr (cs:List AV)
 | ptr (id i off:Nat)
 | arr (id off len:Nat)
 | fn (f:Fn) (first captured:List AV)
 | nb (xs:List AV) (e:Bool)      -- a bool; if it is e,there is nothing in xs
 | yld (id:Nat)      -- a range's yield
 | mp (id:Nat)      -- a map of the call's own
 | fm (el:List AV)      -- a map that is written no more
 deriving Inhabited
def AV.cells:AV→List AV
 | .agg cs=>cs
 | x=>[x]
def AV.ok1:AV→Bool
 | .top | .agg _ | .tup _ | .v (.agg _) | .v (.tuple _)=>false
 | _=>true
def AV.wr (n:Nat) (a:AV):Bool:=a.cells.length == n && a.cells.all AV.ok1
structure Blk where
 ro:Bool
 ty:TypeId
 sz:Nat
 el:List AV
 deriving Inhabited
inductive TK where
 | none
 | int (k:IntKind)
 | bool
 | slice (e:TypeId)
 | arr (n:Nat) (e:TypeId)
 | struct (fs:List (Nat × TypeId))
 | ptr (e:TypeId)
 | func
 | tup
 | map (k e:TypeId)
 deriving Inhabited,DecidableEq
structure TI where
 k:TK
 size:Nat
 bytes:Nat
 zero:Value
 deriving Inhabited
def TK.agg:TK→Bool
 | .struct _ | .arr _ _=>true
 | _=>false
abbrev TEnv:=TypeId→TI
def ofVal:Value→AV
 | .agg cs=>.agg (cs.toList.map .v)
 | x=>.v x
abbrev Frm:=List (Nat × AV)
abbrev Hp:=List (Nat × Option Blk)
def lkp:Frm→Nat→AV
 | [],_=>.top
 | (d,x) :: r,t=>match Nat.beq t d with
  | true=>x
  | false=>lkp r t
def hlk:Hp→Nat→Option Blk
 | [],_=>none
 | (d,x) :: r,t=>match Nat.beq t d with
  | true=>x
  | false=>hlk r t
structure St where
 n:Nat
 fr:Frm
 hp:Hp
 nx:Nat
 deriving Inhabited
def evo (fr:Frm):Operand→AV
 | .tmp t=>lkp fr t
 | .const c=>.v c
 | .func f=>.fn (.func f) [] []
 | .global _=>.top
def ofCells (agg:Bool) (n:Nat) (cs:List AV):AV:=
 if agg then .agg (cs.take n) else cs.headD .top
def setCells (x:AV) (off:Nat) (cs:List AV):AV:=
 match x with
 | .agg xs=>.agg (xs.take off ++ cs ++ xs.drop (off + cs.length))
 | _=>cs.headD .top
def asLst (H:Nat→Option Blk):AV→Option (List AV)
 | .v (.slice none 0 0)=>some []
 | .lst _ xs=>some xs
 | .arr id off len=>match H id with
  | some b=>if off + len≤b.el.length then some ((b.el.drop off).take len) else none
  | none=>none
 | _=>none
def idOf:AV→List Nat
 | .arr id _ _=>[id]
 | _=>[]
def lenOf:AV→Option Nat
 | .v (.slice none 0 0)=>some 0
 | .lst _ xs=>some xs.length
 | .arr _ _ len=>some len
 | _=>none
def scalEq:TK→AV→AV→Option Bool
 | .int _,.v (.int k a),.v (.int k' b)=>if k=k' then some (a == b) else none
 | .bool,.v (.bool a),.v (.bool b)=>some (a == b)
 | _,_,_=>none
def fieldsEq (T:TEnv):Nat→List (Nat × TypeId)→List AV→List AV→Option Bool
 | _,[],[],[]=>some true
 | i,(o,t) :: fs,x :: xs,y :: ys=>if o=i then match scalEq (T t).k x y,fieldsEq T (i + 1) fs xs ys with
  | some a,some b=>some (a && b)
  | _,_=>none
  else none
 | _,_,_,_=>none
def intOp (op:BinOp) (k:IntKind) (a b:Int) (K:AV→Prop):Prop:=
 match op with
 | .add=>K (.v (.int k (k.wrap (a + b))))
 | .sub=>K (.v (.int k (k.wrap (a - b))))
 | .mul=>K (.v (.int k (k.wrap (a * b))))
 | .quo=>b≠0∧K (.v (.int k (k.wrap (a.tdiv b))))
 | .rem=>b≠0∧K (.v (.int k (a.tmod b)))
 | .and=>K (.v (.int k (k.wrap (BitVec.ofInt k.bits a &&& BitVec.ofInt k.bits b).toNat)))
 | .or=>K (.v (.int k (k.wrap (BitVec.ofInt k.bits a ||| BitVec.ofInt k.bits b).toNat)))
 | .xor=>K (.v (.int k (k.wrap (BitVec.ofInt k.bits a ^^^ BitVec.ofInt k.bits b).toNat)))
 | .andNot=>K (.v (.int k (k.wrap (BitVec.ofInt k.bits a &&& ~~~(BitVec.ofInt k.bits b)).toNat)))
 | .eql=>K (.v (.bool (a == b)))
 | .neq=>K (.v (.bool (a != b)))
 | .lss=>K (.v (.bool (decide (a < b))))
 | .leq=>K (.v (.bool (decide (a≤b))))
 | .gtr=>K (.v (.bool (decide (a > b))))
 | .geq=>K (.v (.bool (decide (a ≥ b))))
 | _=>False
def shiftOp (op:BinOp) (k:IntKind) (a b:Int) (K:AV→Prop):Prop:=
 match op with
 | .shl=>0≤b∧K (.v (.int k (k.wrap (a * 2 ^ (min b.toNat k.bits)))))
 | .shr=>0≤b∧K (.v (.int k (a.fdiv (2 ^ (min b.toNat k.bits)))))
 | _=>False
def fieldsOf (T:TEnv) (t:TypeId):Option (List (Nat × TypeId)):=
 match (T t).k with
 | .struct fs=>some fs
 | _=>none
def isEq:BinOp→Option Bool
 | .eql=>some true
 | .neq=>some false
 | _=>none
def binA (T:TEnv) (op:BinOp) (t:TypeId) (x y:AV) (K:AV→Prop):Prop:=
 match x,y with
 | .v (.int k a),.v (.int k' b)=>
  match op with
  | .shl | .shr=>shiftOp op k a b K
  | _=>k=k'∧intOp op k a b K
 | .v (.bool a),.v (.bool b)=>
  match (T t).k,isEq op with
  | .bool,some e=>K (.v (.bool ((a == b) == e)))
  | _,_=>False
 | .agg xs,.agg ys=>
  match fieldsOf T t,isEq op with
  | some fs,some e=>match fieldsEq T 0 fs xs ys with
   | some b=>K (.v (.bool (b == e)))
   | none=>False
  | _,_=>False
 | x,.v (.slice none _ _)=>
  match (T t).k,isEq op,x with
  | .slice _,some e,.v (.slice none _ _)=>K (.v (.bool e))
  | .slice _,some e,.lst _ xs=>K (.nb xs e)
  | _,_,_=>False
 | _,_=>False
def unA (op:UnOp) (x:AV) (K:AV→Prop):Prop:=
 match op,x with
 | .not,.v (.bool b)=>K (.v (.bool (!b)))
 | .neg,.v (.int k n)=>K (.v (.int k (k.wrap (0 - n))))
 | _,_=>False
abbrev Upd:=List (Nat × Option Blk)
def fillA (place:Nat→Option (Nat × Nat)):List AV→List (Nat × AV)→Option (List AV)
 | cells,[]=>some cells
 | cells,(i,x) :: rest=>match place i with
  | none=>none
  | some (off,size)=>
   if x.wr size=true∧off + size≤cells.length then fillA place (cells.take off ++ x.cells ++ cells.drop (off + size)) rest else none
def setElems (sz:Nat):List AV→List (Nat × AV)→Option (List AV)
 | el,[]=>some el
 | el,(i,x) :: rest=>if x.wr sz=true∧i < el.length then setElems sz (el.set i x) rest else none
def srcOk (T:TEnv) (H:Nat→Option Blk) (e:TypeId):AV→Prop
 | .lst sz _=>sz=(T e).size
 | .arr id _ _=>match H id with
  | some b=>b.sz=(T e).size
  | none=>False
 | _=>True
def bndA (x:Option AV) (d:Nat):Option Int:=
 match x with
 | none=>some d
 | some (.v (.int _ i))=>some i
 | _=>none
def findM (k:IntKind) (n:Int):List AV→Option (Option AV)
 | []=>some none
 | .tup [.v (.int k' a),x] :: r=>if k'=k then (if n=a then some (some x) else findM k n r) else none
 | _=>none
def mapO (T:TEnv) (o:Op) (ρ:Operand→AV) (H:Nat→Option Blk) (me:Nat):Option (Prop × AV × Upd × List Nat):=
 match o with
 | .makeMap _ none=>some (True,.mp me,[(me,some ⟨false,0,1,[]⟩)],[])
 | .mapUpdate t m k x=>match (T t).k,ρ m,ρ k with
  | .map kt _,.mp id,.v (.int ki n)=>match H id with
   | some b=>some ((T kt).k=.int ki∧findM ki n b.el=some none,.top,[(id,some { b with el:=b.el ++ [.tup [.v (.int ki n),ρ x]] })],[id])
   | none=>none
  | _,_,_=>none
 | .insert t m k x=>match (T t).k,ρ m,ρ k with
  | .map kt _,.mp id,.v (.int ki n)=>match H id with
   | some b=>some ((T kt).k=.int ki∧findM ki n b.el=some none,.top,[(id,some { b with el:=b.el ++ [.tup [.v (.int ki n),ρ x]] })],[id])
   | none=>none
  | _,_,_=>none
 | .lookup t m k ok=>match (T t).k,ρ m,ρ k with
  | .map kt e,.mp id,.v (.int ki n)=>match H id with
   | some b=>match findM ki n b.el with
    | some (some x)=>some ((T kt).k=.int ki,if ok then .tup [x,.v (.bool true)] else x,[],[id])
    | some none=>some ((T kt).k=.int ki∧(T e).k≠.none,if ok then .tup [ofVal (T e).zero,.v (.bool false)] else ofVal (T e).zero,[],[id])
    | none=>none
   | none=>none
  | .map kt e,.fm el,.v (.int ki n)=>match findM ki n el with
   | some (some x)=>some ((T kt).k=.int ki,if ok then .tup [x,.v (.bool true)] else x,[],[])
   | some none=>some ((T kt).k=.int ki∧(T e).k≠.none,if ok then .tup [ofVal (T e).zero,.v (.bool false)] else ofVal (T e).zero,[],[])
   | none=>none
  | _,_,_=>none
 | .call { callee:=.builtin .max,args:=args,argTypes:=_ }=>match args.toList with
  | [x,y]=>match ρ x,ρ y with
   | .v (.int k a),.v (.int _ b)=>some (True,.v (.int k (if b > a then b else a)),[],[])
   | _,_=>none
  | _=>none
 | .call { callee:=.builtin .min,args:=args,argTypes:=_ }=>match args.toList with
  | [x,y]=>match ρ x,ρ y with
   | .v (.int k a),.v (.int _ b)=>some (True,.v (.int k (if b < a then b else a)),[],[])
   | _,_=>none
  | _=>none
 | _=>none
def aop (T:TEnv) (o:Op) (ρ:Operand→AV) (H:Nat→Option Blk) (me:Nat) (K:AV→Upd→List Nat→Prop):Prop:=
 match o with
 | .move x | .assign x=>K (ρ x) [] []
 | .pick c a b=>match ρ c with
  | .v (.bool c')=>match c',ρ a,ρ b with
   | true,x,_=>K x [] []
   | false,_,y=>K y [] []
  | _=>False
 | .alloc t=>(T t).k≠.none∧0 < (T t).size∧K (.ptr me 0 0) [(me,some ⟨false,t,(T t).size,[ofVal (T t).zero]⟩)] []
 | .box t x=>(T t).k≠.none∧0 < (T t).size∧(ρ x).wr (T t).size=true∧K (.ptr me 0 0) [(me,some ⟨false,t,(T t).size,[ρ x]⟩)] []
 | .build t parts=>match (T t).k with
  | .struct fs=>match fillA (fun i=>(fs[i]?).map fun f=>(f.1,(T f.2).size)) (ofVal (T t).zero).cells (parts.toList.map fun p=>(p.1,ρ p.2)) with
   | some cs=>(fs.all fun f=>(T f.2).k≠.none)=true∧K (.agg cs) [] []
   | none=>False
  | .arr _ e=>match fillA (fun i=>some (i * (T e).size,(T e).size)) (ofVal (T t).zero).cells (parts.toList.map fun p=>(p.1,ρ p.2)) with
   | some cs=>(T e).k≠.none∧K (.agg cs) [] []
   | none=>False
  | _=>False
 | .buildSlice t len parts=>match (T t).k with
  | .slice e=>match setElems (T e).size (List.replicate len (ofVal (T e).zero)) (parts.toList.map fun p=>(p.1,ρ p.2)) with
   | some el=>(T e).k≠.none∧0 < (T e).size∧len * (T e).size≤16777216∧K (.arr me 0 len) [(me,some ⟨false,e,(T e).size,el⟩)] []
   | none=>False
  | _=>False
 | .load t a=>(T t).k≠.none∧match ρ a with
  | .ptr id i off=>match H id with
   | some b=>i < b.el.length∧off + (T t).size≤(b.el.getD i .top).cells.length∧0 < (T t).size ∧
     ((T t).k.agg=false→(T t).size=1)∧K (ofCells (T t).k.agg (T t).size ((b.el.getD i .top).cells.drop off)) [] [id]
   | none=>False
  | .rptr cs=>(T t).size≤cs.length∧0 < (T t).size∧((T t).k.agg=false→(T t).size=1)∧K (ofCells (T t).k.agg (T t).size cs) [] []
  | _=>False
 | .store t a y=>(T t).k≠.none∧match ρ a with
  | .ptr id i off=>match H id with
   | some b=>b.ro=false∧i < b.el.length∧off + (T t).size≤(b.el.getD i .top).cells.length∧(ρ y).wr (T t).size=true ∧
     ((b.el.getD i .top).cells.length=b.sz)∧0 < (T t).size ∧
     K .top [(id,some { b with el:=b.el.set i (setCells (b.el.getD i .top) off (ρ y).cells) })] [id]
   | none=>False
  | _=>False
 | .nilCheck x=>match ρ x with
  | .ptr id i off=>K (.ptr id i off) [] []
  | .rptr cs=>K (.rptr cs) [] []
  | .fn (.func f) a b=>K (.fn (.func f) a b) [] []
  | _=>False
 | .binOp op t x y _=>binA T op t (ρ x) (ρ y) fun r=>K r [] []
 | .unOp op _ x=>unA op (ρ x) fun r=>K r [] []
 | .convert src dst x=>(T src).k≠.none∧match (T dst).k,ρ x with
  | .int k,.v (.int _ n)=>K (.v (.int k (k.wrap n))) [] []
  | _,_=>False
 | .makeFunc f first cap=>K (.fn f (first.toList.map ρ) (cap.toList.map ρ)) [] []
 | .slice t x lo hi mx=>match (T t).k with
  | .slice e=>(T e).k≠.none∧match lenOf (ρ x) with
   | some n=>match bndA (lo.map ρ) 0,bndA (hi.map ρ) n,bndA (mx.map ρ) n with
    | some l,some h,some m=>(mx.isSome→hi.isSome)∧0≤l∧l≤h∧h≤m∧m≤n∧match ρ x with
     | .v (.slice none 0 0)=>K (.v (.slice none 0 0)) [] []
     | .lst sz xs=>sz=(T e).size∧K (.lst sz ((xs.drop l.toNat).take (h.toNat - l.toNat))) [] []
     | .arr id off _=>(match H id with | some b=>b.sz=(T e).size | none=>False)∧K (.arr id (off + l.toNat) (h.toNat - l.toNat)) [] [id]
     | _=>False
    | _,_,_=>False
   | none=>False
  | _=>False
 | .fieldAddr s x f=>match (T s).k with
  | .struct fs=>match fs[f]? with
   | some (off',ft)=>(T ft).k≠.none∧0 < (T ft).size∧match ρ x with
    | .ptr id i off=>K (.ptr id i (off + off')) [] []
    | .rptr cs=>K (.rptr (cs.drop off')) [] []
    | _=>False
   | none=>False
  | _=>False
 | .field s x f=>match (T s).k with
  | .struct fs=>match fs[f]?,ρ x with
   | some (off',ft),.agg cs=>(T ft).k≠.none∧off' + (T ft).size≤cs.length∧0 < (T ft).size∧((T ft).k.agg=false→(T ft).size=1) ∧
     K (ofCells (T ft).k.agg (T ft).size (cs.drop off')) [] []
   | _,_=>False
  | _=>False
 | .indexAddr t x ix=>match (T t).k,ρ ix with
  | .slice e,.v (.int _ i)=>(T e).k≠.none∧match ρ x with
   | .lst sz xs=>sz=(T e).size∧0≤i∧i < xs.length∧K (.rptr (xs.getD i.toNat .top).cells) [] []
   | .arr id off len=>(match H id with | some b=>b.sz=(T e).size | none=>False)∧0≤i∧i < len∧K (.ptr id (off + i.toNat) 0) [] [id]
   | _=>False
  | .arr n e,.v (.int _ i)=>(T e).k≠.none∧0 < (T e).size∧0≤i∧i < n∧match ρ x with
   | .ptr id k off=>K (.ptr id k (off + i.toNat * (T e).size)) [] []
   | .rptr cs=>K (.rptr (cs.drop (i.toNat * (T e).size))) [] []
   | _=>False
  | _,_=>False
 | .index t x ix=>match (T t).k,ρ x,ρ ix with
  | .arr n e,.agg cs,.v (.int _ i)=>(T e).k≠.none∧0≤i∧i < n∧i.toNat * (T e).size + (T e).size≤cs.length∧0 < (T e).size∧((T e).k.agg=false→(T e).size=1) ∧
    K (ofCells (T e).k.agg (T e).size (cs.drop (i.toNat * (T e).size))) [] []
  | _,_,_=>False
 | .extract x i=>match ρ x with
  | .tup vs=>i < vs.length∧K (vs.getD i .top) [] []
  | _=>False
 | .call { callee:=.builtin .len,args:=args,argTypes:=ts }=>match args.toList,ts.toList with
  | [x],[t]=>match (T t).k,lenOf (ρ x) with
   | .slice _,some n=>K (.v (.int .i64 n)) [] []
   | _,_=>False
  | _,_=>False
 | .call { callee:=.builtin .append,args:=args,argTypes:=ts }=>match args.toList,ts.toList with
  | [s,x],[t,t']=>t=t'∧match (T t).k,asLst H (ρ x) with
   | .slice e,some ys=>(T e).k≠.none∧0 < (T e).size∧0 < (T e).bytes∧srcOk T H e (ρ x) ∧
    match ρ s with
    | .v (.slice none 0 0)=>ys.length * (T e).bytes≤140737488355328∧K (.arr me 0 ys.length) [(me,some ⟨false,e,(T e).size,ys⟩)] (idOf (ρ x))
    | .arr id 0 n=>(match H id with
     | some b=>b.ro=false∧b.ty=e∧b.sz=(T e).size∧n≤b.el.length∧(n + ys.length) * (T e).bytes≤140737488355328 ∧
      K (.arr me 0 (n + ys.length)) [(me,some ⟨false,e,(T e).size,b.el.take n ++ ys⟩),(id,none)] (id :: idOf (ρ x))
     | none=>False)
    | _=>False
   | _,_=>False
  | _,_=>False
 | .makeSlice t x y=>match (T t).k with
  | .slice e=>match ρ x with
   | .v (.int _ l)=>match ρ y with
    | .v (.int _ l')=>l=l'∧(T e).k≠.none∧0 < (T e).size∧0≤l∧l.toNat * (T e).size≤16777216∧l.toNat * (T e).bytes≤140737488355328 ∧
     K (.arr me 0 l.toNat) [(me,some ⟨false,e,(T e).size,List.replicate l.toNat (ofVal (T e).zero)⟩)] []
    | _=>False
   | _=>False
  | _=>False
 | .call { callee:=.builtin .copy,args:=args,argTypes:=ts }=>match args.toList,ts.toList with
  | [s,x],[t,_]=>match (T t).k with
   | .slice e=>match asLst H (ρ x) with
    | some ys=>match ρ s with
     | .arr id off m=>match H id with
      | some b=>(T e).k≠.none∧0 < (T e).size∧srcOk T H e (ρ x)∧b.ro=false∧b.sz=(T e).size∧off + m≤b.el.length ∧
       K (.v (.int .i64 (ys.take m).length)) [(id,some { b with el:=b.el.take off ++ ys.take m ++ b.el.drop (off + (ys.take m).length) })] (id :: idOf (ρ x))
      | none=>False
     | _=>False
    | none=>False
   | _=>False
  | _,_=>False
 | o=>match mapO T o ρ H me with
  | some (p,r,u,a)=>p∧K r u a
  | none=>False
end Go.Vai

/- What the abstract values of V1 say of a world, and that they go on saying it. -/
namespace Go.Vai
open Go.RowKit
structure Env where
 ρ:Nat→Option Nat
 sz:Nat→Nat
 cap:Nat→Nat
 dom:Nat→Prop
 K:Nat→Option Obj
 lp:Nat→Option (Nat × (Nat→List Value→Obj))
 lk:Nat→Option Nat
 mrk:Bool
def entryOf (i:Nat):Value→MapEntry
 | .tuple xs=>⟨xs.getD 0 undef,xs.getD 1 undef,i⟩
 | _=>⟨undef,undef,i⟩
def mapR (_:Nat) (ws:List Value):Obj:=.map (ws.mapIdx entryOf).toArray ws.length
def kcell (K:Nat→Option Obj) (a:Addr):Option Value:=
 match K a.block with
 | some (.cells c _ _)=>if a.spot.isSome then none else c[a.off]?
 | _=>none
inductive Con (E:Env):AV→Value→Prop
 | top (x:Value):Con E .top x
 | v (x:Value):Con E (.v x) x
 | agg (cs:List AV) (xs:Array Value) (hl:cs.length=xs.size) (h:∀ (i:Nat) (a:AV) (x:Value),cs[i]? = some a→xs[i]? = some x→Con E a x):Con E (.agg cs) (.agg xs)
 | tup (cs:List AV) (xs:Array Value) (hl:cs.length=xs.size) (h:∀ (i:Nat) (a:AV) (x:Value),cs[i]? = some a→xs[i]? = some x→Con E a x):Con E (.tup cs) (.tuple xs)
 | lst (sz:Nat) (xs:List AV) (A:Option Addr) (n c:Nat) (ad:Addr) (y:Nat→Nat→Value) (hn:xs.length=n) (hc:n≤c) (hA:xs≠[]→A=some ad)
   (hs:∀ (i:Nat) (a:AV),xs[i]? = some a→a.cells.length=sz)
   (hk:∀ (i:Nat) (a:AV) (j:Nat) (b:AV),xs[i]? = some a→a.cells[j]? = some b→kcell E.K (ad.add (i * sz + j))=some (y i j))
   (h1:∀ (i:Nat) (a:AV) (j:Nat) (b:AV),xs[i]? = some a→a.cells[j]? = some b→(y i j).oneCell'=true)
   (h:∀ (i:Nat) (a:AV) (j:Nat) (b:AV),xs[i]? = some a→a.cells[j]? = some b→Con E b (y i j)):Con E (.lst sz xs) (.slice A n c)
 | rptr (cs:List AV) (ad:Addr) (y:Nat→Value)
   (hk:∀ (j:Nat) (b:AV),cs[j]? = some b→kcell E.K (ad.add j)=some (y j)) (h1:∀ (j:Nat) (b:AV),cs[j]? = some b→(y j).oneCell'=true)
   (h:∀ (j:Nat) (b:AV),cs[j]? = some b→Con E b (y j)):Con E (.rptr cs) (.pointer (some ad))
 | ptr (id i off g:Nat) (hd:E.dom id) (hg:E.ρ id=some g):Con E (.ptr id i off) (.pointer (some ⟨g,i * E.sz id + off,none⟩))
 | arr (id off len g o c:Nat) (hd:E.dom id) (hg:E.ρ id=some g) (ho:c=0∨o=off * E.sz id) (hc:off + c≤E.cap id) (hl:len≤c) :
   Con E (.arr id off len) (.slice (some ⟨g,o,none⟩) len c)
 | arr0 (id:Nat) (hd:E.dom id) (hg:E.ρ id=none):Con E (.arr id 0 0) (.slice none 0 0)
 | fn (f:Fn) (a b:List AV) (xs ys:Array Value) (hl:a.length=xs.size) (hm:b.length=ys.size)
   (h:∀ (i:Nat) (u:AV) (x:Value),a[i]? = some u→xs[i]? = some x→Con E u x) (h':∀ (i:Nat) (u:AV) (x:Value),b[i]? = some u→ys[i]? = some x→Con E u x):Con E (.fn f a b) (.func f xs ys)
 | nb (xs:List AV) (e b:Bool) (h:b=e→xs=[]):Con E (.nb xs e) (.bool b)
 | yld (id l:Nat) (r:Nat→List Value→Obj) (hd:E.dom id) (hl:E.lp id=some (l,r)):Con E (.yld id) (.func (.yield l) #[] #[])
 | mp (id l:Nat) (hd:E.dom id) (hg:E.ρ id=none) (hl:E.lp id=some (l,mapR)):Con E (.mp id) (.map (some l))
 | fm (el:List AV) (l:Nat) (ws:List Value) (hl:el.length=ws.length) (hk:E.K l=some (.map (ws.mapIdx entryOf).toArray ws.length)) (hm:∀ x∈el,∃ k y,x=.tup [k,y])
   (h:∀ (i:Nat) (a:AV) (x:Value),el[i]? = some a→ws[i]? = some x→Con E a x):Con E (.fm el) (.map (some l))
structure Env.le (E E':Env):Prop where
 dom:∀ id,E.dom id→E'.dom id
 ρ:∀ id,E.dom id→E'.ρ id=E.ρ id
 sz:∀ id,E.dom id→E'.sz id=E.sz id
 cap:∀ id,E.dom id→E'.cap id=E.cap id
 K:∀ b o,E.K b=some o→E'.K b=some o
 lp:∀ id,E.dom id→E'.lp id=E.lp id
 lk:∀ l id,E.lk l=some id→E'.lk l=some id
 mrk:E'.mrk=E.mrk
theorem kcell_mono {K K':Nat→Option Obj} (h:∀ b o,K b=some o→K' b=some o) {a:Addr} {v:Value} (hk:kcell K a=some v):kcell K' a=some v:=by
 unfold kcell at hk ⊢
 cases hb:K a.block with
 | none=>simp [hb] at hk
 | some o=>rw [hb] at hk; rw [h _ _ hb]; exact hk
structure Env.lec (E E':Env):Prop where
 dom:∀ id,E.dom id→E'.dom id
 ρ:∀ id,E.dom id→E'.ρ id=E.ρ id
 sz:∀ id,E.dom id→E'.sz id=E.sz id
 cap:∀ id,E.dom id→E'.cap id=E.cap id
 kc:∀ a v,kcell E.K a=some v→kcell E'.K a=some v
 km:∀ l es c,E.K l=some (.map es c)→E'.K l=some (.map es c)
 lp:∀ id,E.dom id→E'.lp id=E.lp id
theorem Env.le.c {E E':Env} (h:E.le E'):E.lec E':=⟨h.dom,h.ρ,h.sz,h.cap,fun _ _=>kcell_mono h.K,fun _ _ _=>h.K _ _,h.lp⟩
theorem Env.le.refl (E:Env):E.le E:=⟨fun _ h=>h,fun _ _=>rfl,fun _ _=>rfl,fun _ _=>rfl,fun _ _ h=>h,fun _ _=>rfl,fun _ _ h=>h,rfl⟩
theorem Env.le.trans {A B C : Env} (h : A.le B) (k : B.le C) : A.le C :=
  ⟨fun i d => k.dom i (h.dom i d), fun i d => (k.ρ i (h.dom i d)).trans (h.ρ i d), fun i d => (k.sz i (h.dom i d)).trans (h.sz i d),
   fun i d => (k.cap i (h.dom i d)).trans (h.cap i d), fun b o d => k.K b o (h.K b o d), fun i d => (k.lp i (h.dom i d)).trans (h.lp i d), fun l i d => k.lk l i (h.lk l i d), k.mrk.trans h.mrk⟩

theorem Con.monoc {E E':Env} (hE:E.lec E') {a:AV} {v:Value} (h:Con E a v):Con E' a v:=by
 induction h with
 | top x=>exact .top x
 | v x=>exact .v x
 | agg cs xs hl h ih=>exact .agg cs xs hl ih
 | tup cs xs hl h ih=>exact .tup cs xs hl ih
 | lst sz xs A n c ad y hn hc hA hs hk h1 h ih=>exact .lst sz xs A n c ad y hn hc hA hs (fun i a j b e e'=>hE.kc _ _ (hk i a j b e e')) h1 ih
 | rptr cs ad y hk h1 h ih=>exact .rptr cs ad y (fun j b e=>hE.kc _ _ (hk j b e)) h1 ih
 | ptr id i off g hd hg=>
  rw [← hE.sz id hd]
  exact .ptr id i off g (hE.dom id hd) ((hE.ρ id hd).trans hg)
 | arr id off len g o c hd hg ho hc hl=>
  exact .arr id off len g o c (hE.dom id hd) ((hE.ρ id hd).trans hg) (by rw [hE.sz id hd]; exact ho) (by rw [hE.cap id hd]; exact hc) hl
 | arr0 id hd hg=>exact .arr0 id (hE.dom id hd) ((hE.ρ id hd).trans hg)
 | fn f a b xs ys hl hm h h' ih ih'=>exact .fn f a b xs ys hl hm ih ih'
 | nb xs e b h=>exact .nb xs e b h
 | yld id l r hd hl=>exact .yld id l r (hE.dom id hd) ((hE.lp id hd).trans hl)
 | mp id l hd hg hl=>exact .mp id l (hE.dom id hd) ((hE.ρ id hd).trans hg) ((hE.lp id hd).trans hl)
 | fm el l ws hl hk hm h ih=>exact .fm el l ws hl (hE.km _ _ _ hk) hm ih
theorem Con.mono {E E':Env} (hE:E.le E') {a:AV} {v:Value} (h:Con E a v):Con E' a v:=h.monoc hE.c
def Els (E:Env) (cur:Array Value) (sz:Nat) (el:List AV):Prop:=
 ∀ i a,el[i]? = some a→a.cells.length=sz∧∀ j x,a.cells[j]? = some x→∃ y,cur[i * sz + j]? = some y∧y.oneCell'=true∧Con E x y
theorem Els.mono {E E':Env} (hE:E.le E') {cur:Array Value} {sz:Nat} {el:List AV} (h:Els E cur sz el):Els E' cur sz el:=
 fun i a hi=>⟨(h i a hi).1,fun j x hj=>let ⟨y,a1,a2,a3⟩:=(h i a hi).2 j x hj; ⟨y,a1,a2,a3.mono hE⟩⟩
def RecOk (B l:Nat) (o:Obj):Prop:=(∃ L,o=.loop L)∨(B≤l∧∃ es c,o=.map es c)
theorem RecOk.nc {B l:Nat} {o:Obj} (h:RecOk B l o):o.isCells=false:=by
 rcases h with ⟨L,rfl⟩ | ⟨_,es,c,rfl⟩ <;> rfl
def ElsV (E:Env) (el:List AV) (ws:List Value):Prop:=el.length=ws.length∧∀ (i:Nat) (x:AV) (v:Value),el[i]? = some x→ws[i]? = some v→Con E x v
theorem ElsV.monoc {E E':Env} (hE:E.lec E') {el:List AV} {ws:List Value} (h:ElsV E el ws):ElsV E' el ws:=⟨h.1,fun i x v hx hv=>(h.2 i x v hx hv).monoc hE⟩
theorem ElsV.nil {E:Env}:ElsV E [] []:=⟨rfl,fun i x v hx _=>by simp at hx⟩
def LoopIs (E:Env) (w:World) (B:Nat) (id t:Nat) (el:List AV):Prop:=∀ l r,E.lp id=some (l,r)→∃ ws,ElsV E el ws∧w.heap[l]? = some (r t ws)∧RecOk B l (r t ws)∧E.lk l=some id∧E.K l=none
def MapEl (E:Env) (id:Nat) (el:List AV):Prop:=(E.lp id=none→el=[])∧∀ x∈el,∃ k y,x=.tup [k,y]
theorem MapEl.nil {E:Env} {id:Nat}:MapEl E id []:=⟨fun _=>rfl,fun x hx=>by cases hx⟩
def Own (E : Env) (w : World) (B : Nat) (id : Nat) (b : Blk) : Prop :=
  E.dom id ∧ E.sz id = b.sz ∧ 0 < b.sz ∧ E.cap id ≤ maxLen ∧
  ((E.ρ id = none ∧ MapEl E id b.el ∧ E.cap id = 0 ∧ LoopIs E w B id b.ty b.el) ∨
   ∃ g cur, E.ρ id = some g ∧ B ≤ g ∧ w.heap[g]? = some (.cells cur b.ty (0, 0)) ∧ cur.size = E.cap id * b.sz ∧ b.el.length ≤ E.cap id ∧
     (b.ro = false → E.K g = none) ∧ (b.ro = true → E.K g = some (.cells cur b.ty (0, 0))) ∧ Els E cur b.sz b.el)

def Marks (B:Nat) (K:Nat→Option Obj):List Deferred→Prop
 | []=>True
 | d :: ds=>(∃ D,d={ target:=.collected D,args:=#[] }∧B≤D∧K D=some (.deferred (some []))∧∀ d'∈ds,d'≠{ target:=.collected D,args:=#[] })∧Marks B K ds
theorem Marks.mono {B:Nat} {K K':Nat→Option Obj} (hk:∀ b o,K b=some o→K' b=some o):∀ {ds:List Deferred},Marks B K ds→Marks B K' ds
 | [],h=>h
 | d :: ds,⟨⟨D,h1,h2,h3,h4⟩,h⟩=>⟨⟨D,h1,h2,hk _ _ h3,h4⟩,h.mono hk⟩
theorem keeps_below {w w':World} (h:Below w.heap.size w w'):KeepsOthers w w':=
 ⟨h.size,fun k o hk _=>(h.block k (Array.getElem?_eq_some_iff.1 hk).1).trans hk⟩
theorem keeps_setRow {w:World} {g:Nat} {cur:Array Value} {t:TypeId} {sp:Nat × Nat} (hc:w.heap[g]? = some (.cells cur t sp)) (cur':Array Value):KeepsOthers w (w.setRow g cur'):=
 ⟨by simp [World.setRow],fun k o hk ho=>by
  by_cases e:k=g
  ·subst e; rw [hc] at hk; cases hk; cases ho
  ·rw [setRow_other w g k cur' e]; exact hk⟩
structure Rel (w0:World) (K0:Nat→Option Obj) (D:Nat→Prop) (E:Env) (n:Nat) (fr:Frm) (hp:Hp) (a:Act) (w:World):Prop where
 below:Below w0.heap.size w0 w
 kw:∀ b o,E.K b=some o→w.heap[b]? = some o
 k0:∀ b o,E.K b=some o→b < w0.heap.size→K0 b=some o
 nd:(E.mrk=false→a.defers=[])∧Marks w0.heap.size E.K a.defers
 size:a.tmps.size=n
 regs:∀ t,t < n→Con E (lkp fr t) (a.tmps.getD t undef)
 dom:∀ id,E.dom id→D id
 lw:∀ l id,E.lk l=some id→l < w.heap.size
 out:∀ t,n≤t→lkp fr t=.top
 own:∀ id b,hlk hp id=some b→Own E w w0.heap.size id b
 inj:∀ id id' b b' g,hlk hp id=some b→hlk hp id'=some b'→E.ρ id=some g→E.ρ id'=some g→id=id'
theorem lkp_cons (d:Nat) (x:AV) (r:Frm) (t:Nat):lkp ((d,x) :: r) t=if t=d then x else lkp r t:=by
 show (match Nat.beq t d with | true=>x | false=>lkp r t)=_
 cases h:Nat.beq t d with
 | true=>rw [if_pos (Nat.eq_of_beq_eq_true h)]
 | false=>rw [if_neg (Nat.ne_of_beq_eq_false h)]
theorem hlk_cons (d:Nat) (x:Option Blk) (r:Hp) (t:Nat):hlk ((d,x) :: r) t=if t=d then x else hlk r t:=by
 show (match Nat.beq t d with | true=>x | false=>hlk r t)=_
 cases h:Nat.beq t d with
 | true=>rw [if_pos (Nat.eq_of_beq_eq_true h)]
 | false=>rw [if_neg (Nat.ne_of_beq_eq_false h)]
section
variable {w0 : World} {K0 : Nat → Option Obj} {D : Nat → Prop} {E : Env} {n : Nat} {fr : Frm} {hp : Hp} {a : Act} {w : World}
theorem Rel.put (h:Rel w0 K0 D E n fr hp a w) {d:Nat} (hd:d < n) {x:AV} {v:Value} (hx:Con E x v) :
  Rel w0 K0 D E n ((d,x) :: fr) hp (a.put (some d) v) w where
 below:=h.below
 kw:=h.kw
 k0:=h.k0
 nd:=h.nd
 size:=by simp [Act.put,h.size]
 regs:=fun t ht=>by
  rw [lkp_cons]
  have hs:=h.size
  by_cases e:t=d
  ·subst e
   rw [if_pos rfl]
   have:(a.put (some t) v).tmps.getD t undef=v:=by
    simp only [Act.put]
    rw [Array.getD_eq_getD_getElem?,Array.getElem?_setIfInBounds_self_of_lt (by omega)]
    rfl
   rw [this]; exact hx
  ·rw [if_neg e]
   have:(a.put (some d) v).tmps.getD t undef=a.tmps.getD t undef:=by
    simp only [Act.put]
    rw [Array.getD_eq_getD_getElem?,Array.getElem?_setIfInBounds_ne (by omega),Array.getD_eq_getD_getElem?]
   rw [this]; exact h.regs t ht
 dom:=h.dom
 lw:=h.lw
 out:=fun t ht=>by rw [lkp_cons,if_neg (by omega)]; exact h.out t ht
 own:=h.own
 inj:=h.inj
theorem Rel.skip (h:Rel w0 K0 D E n fr hp a w) {v:Value}:Rel w0 K0 D E n fr hp (a.put none v) w:=h
theorem Rel.ev (h:Rel w0 K0 D E n fr hp a w) (x:Operand):Con E (evo fr x) (a.eval x):=by
 cases x with
 | tmp t=>
  simp only [evo,Act.eval]
  by_cases ht:t < n
  ·exact h.regs t ht
  ·rw [h.out t (Nat.le_of_not_lt ht)]; exact .top _
 | const v=>exact .v v
 | func f=>exact .fn (.func f) [] [] #[] #[] rfl rfl (by simp) (by simp)
 | global g=>exact .top _
theorem heap_lt {w:World} {g:Nat} {o:Obj} (h:w.heap[g]? = some o):g < w.heap.size:=(Array.getElem?_eq_some_iff.1 h).1
theorem Rel.names (h:Rel w0 K0 D E n fr hp a w) {D':Nat→Prop} (hD:∀ id,E.dom id→D' id):Rel w0 K0 D' E n fr hp a w:=
 { h with dom:=hD }
def Env.add (E : Env) (me : Nat) (g : Option Nat) (sz cap : Nat) : Env :=
  { ρ := fun i => if i = me then g else E.ρ i, sz := fun i => if i = me then sz else E.sz i, cap := fun i => if i = me then cap else E.cap i, dom := fun i => i = me ∨ E.dom i, K := E.K,
    lp := fun i => if i = me then none else E.lp i, lk := E.lk,
    mrk := E.mrk }

theorem Env.le_add {E:Env} {me:Nat} (h:¬ E.dom me) (g:Option Nat) (sz cap:Nat):E.le (E.add me g sz cap):=
 ⟨fun _ d=>.inr d,fun i d=>if_neg (fun (e:i=me)=>h (e ▸ d)),fun i d=>if_neg (fun (e:i=me)=>h (e ▸ d)),fun i d=>if_neg (fun (e:i=me)=>h (e ▸ d)),fun _ _ k=>k,fun i d=>if_neg (fun (e:i=me)=>h (e ▸ d)),fun _ _ k=>k,rfl⟩
theorem Own.mono {E E':Env} {w w':World} {B id:Nat} {b:Blk} (hE:E.le E') (h:Own E w B id b) (hK:∀ g,E.ρ id=some g→E'.K g=E.K g)
  (hw:∀ g,E.ρ id=some g→g < w.heap.size→w'.heap[g]? = w.heap[g]?) (hk:KeepsOthers w w') (hkl:∀ l o,w.heap[l]? = some o→o.isCells=false→E.K l=none→E'.K l=none):Own E' w' B id b:=by
 obtain ⟨hd,hs,hp,hm,h⟩:=h
 refine ⟨hE.dom id hd,(hE.sz id hd).trans hs,hp,by rw [hE.cap id hd]; exact hm,?_⟩
 rcases h with ⟨h1,h2,h3,h4⟩ | ⟨g,cur,h1,h2,h3,h4,h5,h6,h7,h8⟩
 ·exact .inl ⟨(hE.ρ id hd).trans h1,⟨fun e=>h2.1 ((hE.lp id hd).symm.trans e),h2.2⟩,(hE.cap id hd).trans h3,fun l r e=>by obtain ⟨ws,e0,e1,e2,e3,e4⟩:=h4 l r ((hE.lp id hd).symm.trans e); have e5:=e2.nc; exact ⟨ws,e0.monoc hE.c,hk.same _ _ e1 e5,e2,hE.lk _ _ e3,hkl _ _ e1 e5 e4⟩⟩
 ·refine .inr ⟨g,cur,(hE.ρ id hd).trans h1,h2,(hw g h1 (heap_lt h3)).trans h3,by rw [hE.cap id hd]; exact h4,by rw [hE.cap id hd]; exact h5,?_,?_,h8.mono hE⟩
  ·intro hr; rw [hK g h1]; exact h6 hr
  ·intro hr; rw [hK g h1]; exact h7 hr
theorem Own.ρ_lt {E:Env} {w:World} {B id:Nat} {b:Blk} (h:Own E w B id b) {g:Nat} (hg:E.ρ id=some g):g < w.heap.size:=by
 rcases h.2.2.2.2 with ⟨h1,_⟩ | ⟨g',cur,h1,_,h3,_⟩
 ·rw [h1] at hg; cases hg
 ·rw [h1] at hg; cases hg; exact heap_lt h3
theorem keeps_drew (w:World):KeepsOthers w w.drew:=⟨Nat.le_refl _,fun _ _ h _=>h⟩
theorem Rel.drew (h:Rel w0 K0 D E n fr hp a w):Rel w0 K0 D E n fr hp a w.drew:=
 { below:=⟨h.below.os,h.below.tape,h.below.output,h.below.size,h.below.block⟩,kw:=h.kw,k0:=h.k0,nd:=h.nd,size:=h.size,regs:=h.regs,dom:=h.dom,lw:=h.lw,out:=h.out,own:=fun id b hb=>(h.own id b hb).mono (Env.le.refl E) (fun _ _=>rfl) (fun _ _ _=>rfl) (keeps_drew w) (fun _ _ _ _ h=>h),inj:=h.inj }
theorem Rel.alloc (h:Rel w0 K0 D E n fr hp a w) {me:Nat} (hme:¬ E.dom me) {D':Nat→Prop} (hD:∀ id,D id∨id=me→D' id) (cs:Array Value) (t:TypeId) (sz cap:Nat) (el:List AV)
  (hsz:0 < sz) (hcap:cap≤maxLen) (hcs:cs.size=cap * sz) (hel:el.length≤cap) (hEl:Els (E.add me (some w.heap.size) sz cap) cs sz el) :
  Rel w0 K0 D' (E.add me (some w.heap.size) sz cap) n fr ((me,some ⟨false,t,sz,el⟩) :: hp) a (w.alloc (.cells cs t (0,0))) where
 below:=h.below.alloc h.below.size _
 kw:=fun b o hb=>by
  have:=h.kw b o hb
  rw [Below.heap_alloc w _ b (heap_lt this)]; exact this
 k0:=h.k0
 nd:=h.nd
 size:=h.size
 regs:=fun t ht=>(h.regs t ht).mono (Env.le_add hme ..)
 dom:=fun id hd=>hD id (hd.elim .inr fun d=>.inl (h.dom id d))
 lw:=fun l id hl=>by have:=h.lw l id hl; simp; omega
 out:=h.out
 own:=fun id b hb=>by
  rw [hlk_cons] at hb
  by_cases e:id=me
  ·subst e
   rw [if_pos rfl] at hb; cases hb
   refine ⟨.inl rfl,if_pos rfl,hsz,by simpa [Env.add] using hcap,.inr ⟨w.heap.size,cs,if_pos rfl,h.below.size,?_,?_,?_,?_,fun hr=>(by cases hr),hEl⟩⟩
   ·show (w.heap.push _)[w.heap.size]? = _; simp
   ·simpa [Env.add] using hcs
   ·simpa [Env.add] using hel
   ·intro _
    show E.K w.heap.size=none
    cases hk:E.K w.heap.size with
    | none=>rfl
    | some o=>have:=heap_lt (h.kw _ _ hk); omega
  ·rw [if_neg e] at hb
   exact (h.own id b hb).mono (Env.le_add hme ..) (fun _ _=>rfl) (fun g _ hl=>Below.heap_alloc w _ g hl) (KeepsOthers.alloc w _) (fun _ _ _ _ h=>h)
 inj:=fun id id' b b' g hb hb' hg hg'=>by
  rw [hlk_cons] at hb hb'
  by_cases e:id=me <;> by_cases e':id'=me
  ·rw [e,e']
  ·subst e
   rw [if_neg e'] at hb'
   simp only [Env.add,if_true,if_neg e'] at hg hg'
   have:=(h.own id' b' hb').ρ_lt hg'
   cases hg; omega
  ·subst e'
   rw [if_neg e] at hb
   simp only [Env.add,if_true,if_neg e] at hg hg'
   have:=(h.own id b hb).ρ_lt hg
   cases hg'; omega
  ·rw [if_neg e] at hb; rw [if_neg e'] at hb'
   simp only [Env.add,if_neg e,if_neg e'] at hg hg'
   exact h.inj id id' b b' g hb hb' hg hg'
theorem Rel.virt (h:Rel w0 K0 D E n fr hp a w) {me:Nat} (hme:¬ E.dom me) {D':Nat→Prop} (hD:∀ id,D id∨id=me→D' id) (t:TypeId) (sz:Nat) (hsz:0 < sz) :
  Rel w0 K0 D' (E.add me none sz 0) n fr ((me,some ⟨false,t,sz,[]⟩) :: hp) a w where
 below:=h.below
 kw:=h.kw
 k0:=h.k0
 nd:=h.nd
 size:=h.size
 regs:=fun t ht=>(h.regs t ht).mono (Env.le_add hme ..)
 dom:=fun id hd=>hD id (hd.elim .inr fun d=>.inl (h.dom id d))
 lw:=h.lw
 out:=h.out
 own:=fun id b hb=>by
  rw [hlk_cons] at hb
  by_cases e:id=me
  ·subst e
   rw [if_pos rfl] at hb; cases hb
   exact ⟨.inl rfl,if_pos rfl,hsz,by simp [Env.add],.inl ⟨if_pos rfl,MapEl.nil,if_pos rfl,fun l r e=>by simp [Env.add] at e⟩⟩
  ·rw [if_neg e] at hb
   exact (h.own id b hb).mono (Env.le_add hme ..) (fun _ _=>rfl) (fun g _ hl=>rfl) (KeepsOthers.refl w) (fun _ _ _ _ h=>h)
 inj:=fun id id' b b' g hb hb' hg hg'=>by
  rw [hlk_cons] at hb hb'
  by_cases e:id=me <;> by_cases e':id'=me
  ·rw [e,e']
  ·subst e; simp [Env.add] at hg
  ·subst e'; simp [Env.add] at hg'
  ·rw [if_neg e] at hb; rw [if_neg e'] at hb'
   simp only [Env.add,if_neg e,if_neg e'] at hg hg'
   exact h.inj id id' b b' g hb hb' hg hg'
theorem Rel.write (h:Rel w0 K0 D E n fr hp a w) {id:Nat} {b:Blk} (hb:hlk hp id=some b) (hro:b.ro=false) {g:Nat} {cur:Array Value} (hg:E.ρ id=some g)
  (hc:w.heap[g]? = some (.cells cur b.ty (0,0))) (cur':Array Value) (hs:cur'.size=cur.size) (el:List AV) (hl:el.length=b.el.length) (hEl:Els E cur' b.sz el) :
  Rel w0 K0 D E n fr ((id,some { b with el:=el }) :: hp) a (w.setRow g cur'):=by
 have hown:=h.own id b hb
 have hKg:E.K g=none:=by
  rcases hown.2.2.2.2 with ⟨h1,_⟩ | ⟨g',cur'',h1,_,_,_,_,h6,_⟩
  ·rw [h1] at hg; cases hg
  ·rw [h1] at hg; cases hg; exact h6 hro
 have hBg:w0.heap.size≤g:=by
  rcases hown.2.2.2.2 with ⟨h1,_⟩ | ⟨g',cur'',h1,h2,_⟩
  ·rw [h1] at hg; cases hg
  ·rw [h1] at hg; cases hg; exact h2
 have hsz:(w.setRow g cur').heap.size=w.heap.size:=by simp [World.setRow]
 have hot:∀ k,k≠g→(w.setRow g cur').heap[k]? = w.heap[k]?:=fun k hk=>setRow_other w g k cur' hk
 refine { below:=?_,kw:=?_,k0:=h.k0,nd:=h.nd,size:=h.size,regs:=h.regs,dom:=h.dom,lw:=fun l i hl=>by rw [hsz]; exact h.lw l i hl,out:=h.out,own:=?_,inj:=?_ }
 ·exact ⟨h.below.os,h.below.tape,h.below.output,by rw [hsz]; exact h.below.size,fun k hk=>(hot k (by omega)).trans (h.below.block k hk)⟩
 ·intro k o hk
  have hne:k≠g:=fun e=>by rw [e,hKg] at hk; cases hk
  rw [hot k hne]; exact h.kw k o hk
 ·intro id' b' hb'
  rw [hlk_cons] at hb'
  by_cases e:id'=id
  ·subst e
   rw [if_pos rfl] at hb'; cases hb'
   obtain ⟨hd,hs1,hp1,hm1,h1⟩:=hown
   refine ⟨hd,hs1,hp1,hm1,?_⟩
   rcases h1 with ⟨h1,_⟩ | ⟨g',cur'',h1,h2,h3,h4,h5,h6,h7,h8⟩
   ·rw [h1] at hg; cases hg
   ·rw [h1] at hg; cases hg
    rw [hc] at h3; cases h3
    exact .inr ⟨g,cur',h1,h2,setRow_heap w g cur cur' b.ty (0,0) hc,by rw [hs]; exact h4,by rw [hl]; exact h5,fun _=>hKg,fun hr=>(by rw [hro] at hr; cases hr),hEl⟩
  ·rw [if_neg e] at hb'
   refine (h.own id' b' hb').mono (Env.le.refl E) (fun _ _=>rfl) (fun g' hg' hl=>hot g' ?_) (keeps_setRow hc cur') (fun _ _ _ _ h=>h)
   intro e'
   subst e'
   exact e (h.inj id' id b' b g' hb' hb hg' hg)
 ·intro id1 id2 b1 b2 g' h1 h2 hg1 hg2
  rw [hlk_cons] at h1 h2
  have f:∀ i x,(if i=id then some { b with el:=el } else hlk hp i)=some x→∃ y,hlk hp i=some y:=by
   intro i x hx
   by_cases e:i=id
   ·exact ⟨b,e ▸ hb⟩
   ·rw [if_neg e] at hx; exact ⟨x,hx⟩
  obtain ⟨y1,hy1⟩:=f id1 b1 h1
  obtain ⟨y2,hy2⟩:=f id2 b2 h2
  exact h.inj id1 id2 y1 y2 g' hy1 hy2 hg1 hg2
theorem Rel.kill (h:Rel w0 K0 D E n fr hp a w) (id:Nat):Rel w0 K0 D E n fr ((id,none) :: hp) a w:=by
 have f:∀ i x,hlk ((id,none) :: hp) i=some x→i≠id∧hlk hp i=some x:=by
  intro i x hx
  rw [hlk_cons] at hx
  by_cases e:i=id
  ·rw [if_pos e] at hx; cases hx
  ·rw [if_neg e] at hx; exact ⟨e,hx⟩
 exact { h with own:=fun i x hx=>h.own i x (f i x hx).2,inj:=fun i j x y g hx hy=>h.inj i j x y g (f i x hx).2 (f j y hy).2 }
end
end Go.Vai

/- What each operation of V1 does to a frame and a world that a state speaks of: one theorem an operation, over any program whose types are as told. -/
namespace Go.Vai
open Go.RowKit
def TK.is:TK→TypeDesc→Prop
 | .none,_=>False
 | .int k,d=>d=.int k
 | .bool,d=>d=.bool
 | .slice e,d=>d=.slice e
 | .arr n e,d=>d=.array n e
 | .struct fs,d=>∃ fa:Array Field,d=.struct fa∧fa.toList.map (fun f=>(f.offset,f.type))=fs∧fa.all (fun f=>f.name != "_")=true
 | .ptr e,d=>d=.pointer e
 | .func,d=>∃ a b c,d=.func a b c
 | .tup,d=>∃ a,d=.tuple a
 | .map k e,d=>d=.map k e
structure TOk (P:Program) (T:TEnv):Prop where
 ok:∀ t,(T t).k≠.none→∃ i d,P.info? t=some i∧P.underlying t=some d∧i.size=(T t).size∧i.bytes=(T t).bytes∧i.zero=some (T t).zero ∧
  (T t).zero.cells.size=(T t).size∧(∀ u∈(T t).zero.cells.toList,u.oneCell'=true)∧(T t).k.is d
 eqs:∀ t,(fieldsOf T t).isSome=true→P.stoodInHeld t=false∧P.eqGuardType P.depth t=false
 mixed:P.follows .mixedOrders=true
section
variable {P : Program} {T : TEnv}
theorem run_size (hT:TOk P T) {t:TypeId} (ht:(T t).k≠.none) (w:World):(sizeOf t).run P w=.ok (T t).size w:=by
 obtain ⟨i,d,hi,_,hs,_⟩:=hT.ok t ht
 simp [sizeOf,typeInfo,hi,hs]
theorem run_zero (hT:TOk P T) {t:TypeId} (ht:(T t).k≠.none) (w:World):(zeroValue t).run P w=.ok (T t).zero w:=by
 obtain ⟨i,d,hi,_,_,_,hz,_⟩:=hT.ok t ht
 simp [zeroValue,typeInfo,hi,hz]
theorem run_agg (hT:TOk P T) {t:TypeId} (ht:(T t).k≠.none) (w:World):(isAgg t).run P w=.ok (T t).k.agg w:=by
 obtain ⟨i,d,hi,hu,_,_,_,_,_,hk⟩:=hT.ok t ht
 cases hkk:(T t).k <;> rw [hkk] at hk <;> simp only [TK.is] at hk <;> (try obtain ⟨fa,rfl,_⟩:=hk) <;> (try obtain ⟨_,_,_,rfl⟩:=hk) <;> (try obtain ⟨_,rfl⟩:=hk) <;> (try subst hk) <;>
  simp [isAgg,run_underlying hu,TK.agg]
def valOf (agg:Bool) (cs:List Value):Value:=if agg then .agg cs.toArray else cs.headD undef
theorem run_loadVar (hT:TOk P T) {t:TypeId} (ht:(T t).k≠.none) (w:World) (ad:Addr) (cs:List Value) (hl:cs.length=(T t).size) (h1:(T t).k.agg=false→(T t).size=1)
  (hc:∀ (j:Nat) (v:Value),cs[j]? = some v→w.cell? (ad.add j)=some v):(loadVar t ad).run P w=.ok (valOf (T t).k.agg cs) w:=by
 cases hk:(T t).k.agg with
 | true=>
  simp only [loadVar,Sem.run_bind,run_agg hT ht,hk,Result.andThen_ok,if_true,run_size hT ht,← hl,run_loadCells_list w ad cs hc,Sem.run_pure,valOf]
 | false=>
  have:=h1 hk
  obtain ⟨c,rfl⟩:∃ c,cs=[c]:=by
   match cs,hl with
   | [c],_=>exact ⟨c,rfl⟩
   | [],h=>simp at h; omega
   | _ :: _ :: _,h=>simp at h; omega
  have h0:=hc 0 c rfl
  have ha:ad.add 0=ad:=by simp [Addr.add]
  rw [ha] at h0
  simp [loadVar,run_agg hT ht,hk,h0,valOf]
theorem run_storeVar (hT:TOk P T) {t:TypeId} (ht:(T t).k≠.none) (w:World) (g o:Nat) (e:TypeId) (cur:Array Value) (v:Value) (hv:v.cells.size=(T t).size)
  (hg:w.heap[g]? = some (.cells cur e (0,0))) (hf:o + (T t).size≤cur.size) (h1:∀ u∈v.cells.toList,u.oneCell'=true) :
  (storeVar t ⟨g,o,none⟩ v).run P w=.ok () (w.setRow g (cur.toList.take o ++ v.cells.toList ++ cur.toList.drop (o + v.cells.toList.length)).toArray):=by
 have:=run_storeCells_at P g o e v.cells.toList 0 cur w hg (by simp [hv]; omega) h1
 simp only [Nat.add_zero] at this
 simp only [storeVar,Sem.run_bind,run_size hT ht,Result.andThen_ok,hv,ne_eq,not_true_eq_false,if_false,this]
end
theorem Con.cells {E:Env} {a:AV} {v:Value} (h:Con E a v) {n:Nat} (hw:a.wr n=true) :
  v.cells.size=n∧(∀ u∈v.cells.toList,u.oneCell'=true)∧∀ (j:Nat) (x:AV),a.cells[j]? = some x→∃ y,v.cells[j]? = some y∧y.oneCell'=true∧Con E x y:=by
 simp only [AV.wr,Bool.and_eq_true,beq_iff_eq,List.all_eq_true] at hw
 obtain ⟨hl,ha⟩:=hw
 have one:∀ {b:AV} {y:Value},b.ok1=true→Con E b y→y.oneCell'=true:=by
  intro b y hb hc
  cases hc <;> first
   | rfl
   | (simp [AV.ok1] at hb; done)
   | (cases y <;> simp_all [AV.ok1,Value.oneCell'])
 have plain:a.cells=[a]→v.cells=#[v]→v.cells.size=n∧(∀ u∈v.cells.toList,u.oneCell'=true)∧∀ (j:Nat) (x:AV),a.cells[j]? = some x→∃ y,v.cells[j]? = some y∧y.oneCell'=true∧Con E x y:=by
  intro e1 e2
  rw [e1] at hl ha ⊢
  rw [e2]
  have hv:=one (ha a (by simp)) h
  refine ⟨by simpa using hl,by simpa using hv,fun j x hj=>?_⟩
  match j with
  | 0=>simp at hj; subst hj; exact ⟨v,by simp,hv,h⟩
  | j + 1=>simp at hj
 cases h with
 | agg cs xs hs hh=>
  simp only [AV.cells] at hl ha
  have hx:∀ (j:Nat) (x:AV),cs[j]? = some x→∃ y,xs[j]? = some y∧y.oneCell'=true∧Con E x y:=by
   intro j x hj
   have hlt:j < xs.size:=by rw [← hs]; exact (List.getElem?_eq_some_iff.1 hj).1
   have hy:xs[j]? = some xs[j]:=by simp [hlt]
   exact ⟨xs[j],hy,one (ha x (List.mem_of_getElem? hj)) (hh j x _ hj hy),hh j x _ hj hy⟩
  refine ⟨by simp only [Value.cells]; omega,?_,hx⟩
  intro u hu
  simp only [Value.cells] at hu
  obtain ⟨j,hj⟩:=List.getElem?_of_mem hu
  rw [Array.getElem?_toList] at hj
  have hlt:j < cs.length:=by rw [hs]; exact (Array.getElem?_eq_some_iff.1 hj).1
  obtain ⟨y,hy,h1,_⟩:=hx j cs[j] (by simp [hlt])
  rw [hj] at hy; cases hy; exact h1
 | v=>
  cases v <;> first
   | exact plain rfl rfl
   | (simp [AV.cells,AV.ok1] at ha; done)
 | top x=>simp [AV.cells,AV.ok1] at ha
 | tup cs xs _ _=>simp [AV.cells,AV.ok1] at ha
 | _=>exact plain rfl rfl
end Go.Vai

/- One operation at a time: what the evaluator of V1 says of it is what the machine does. -/
namespace Go.Vai
open Go.RowKit
def OpSound (P:Program) (op:Op) (ρ:Operand→AV) (H:Nat→Option Blk) (me:Nat) (r:AV) (upd:Upd) (acc:List Nat):Prop:=
 ∀ (o:Oper),o.op=op→∀ (w0:World) (K0:Nat→Option Obj) (D:Nat→Prop) (E:Env) (n:Nat) (fr:Frm) (hp:Hp) (a:Act) (w:World),
  Rel w0 K0 D E n fr hp a w→(∀ x∈op.operands,evo fr x=ρ x)→(∀ id∈acc,hlk hp id=H id)→¬ E.dom me →
  ∃ nx v w' E',(execOp a.eval o).run P w=.ok nx w'∧(nx=.value v∨(nx=.skip∧v=undef))∧E.le E'∧Con E' r v∧Rel w0 K0 (fun id=>D id∨id=me) E' n fr (upd ++ hp) a w'
def Looks (P:Program) (op:Op) (ρ:Operand→AV) (H:Nat→Option Blk) (r:AV) (acc:List Nat):Prop:=
 ∀ (o:Oper),o.op=op→∀ (w0:World) (K0:Nat→Option Obj) (D:Nat→Prop) (E:Env) (n:Nat) (fr:Frm) (hp:Hp) (a:Act) (w:World),
  Rel w0 K0 D E n fr hp a w→(∀ x∈op.operands,Con E (ρ x) (a.eval x))→(∀ id∈acc,hlk hp id=H id) →
  ∃ v,(execOp a.eval o).run P w=.ok (.value v) w∧Con E r v
theorem Looks.sound {P:Program} {op:Op} {ρ:Operand→AV} {H:Nat→Option Blk} {r:AV} {acc:List Nat} (h:Looks P op ρ H r acc) (me:Nat):OpSound P op ρ H me r [] acc:=by
 intro o ho w0 K0 D E n fr hp a w hr hx hH hme
 obtain ⟨v,h1,h2⟩:=h o ho w0 K0 D E n fr hp a w hr (fun x hxo=>by rw [← hx x hxo]; exact hr.ev x) hH
 exact ⟨_,v,w,E,h1,.inl rfl,Env.le.refl E,h2,hr.names fun id hd=>.inl (hr.dom id hd)⟩
section
variable {P : Program} {T : TEnv} {ρ : Operand → AV} {H : Nat → Option Blk} {me : Nat}
theorem looks_move (x:Operand):Looks P (.move x) ρ H (ρ x) []:=
 fun o ho w0 K0 D E n fr hp a w hr hx hH=>⟨a.eval x,by simp [execOp,ho],hx x (by simp [Op.operands])⟩
theorem looks_assign (x:Operand):Looks P (.assign x) ρ H (ρ x) []:=
 fun o ho w0 K0 D E n fr hp a w hr hx hH=>⟨a.eval x,by simp [execOp,ho],hx x (by simp [Op.operands])⟩
theorem looks_pick (c x y:Operand) (b:Bool) (hc:ρ c=.v (.bool b)):Looks P (.pick c x y) ρ H (if b then ρ x else ρ y) []:=by
 intro o ho w0 K0 D E n fr hp a w hr hx hH
 have h:=hx c (by simp [Op.operands])
 rw [hc] at h
 generalize hv:a.eval c=vc at h
 cases h
 refine ⟨if b then a.eval x else a.eval y,?_,?_⟩
 ·simp only [execOp,ho,hv,asBool,Sem.run_bind,Sem.run_pure,Result.andThen_ok]
 ·cases b
  ·exact hx y (by simp [Op.operands])
  ·exact hx x (by simp [Op.operands])
theorem looks_nilCheck_ptr (x:Operand) (id i off:Nat) (h0:ρ x=.ptr id i off):Looks P (.nilCheck x) ρ H (.ptr id i off) []:=by
 intro o ho w0 K0 D E n fr hp a w hr hx hH
 have h:=hx x (by simp [Op.operands])
 rw [h0] at h
 refine ⟨a.eval x,?_,h⟩
 generalize hv:a.eval x=vx at h
 cases h
 simp only [execOp,ho,hv,Sem.run_pure]
theorem looks_nilCheck_rptr (x:Operand) (cs:List AV) (h0:ρ x=.rptr cs):Looks P (.nilCheck x) ρ H (.rptr cs) []:=by
 intro o ho w0 K0 D E n fr hp a w hr hx hH
 have h:=hx x (by simp [Op.operands])
 rw [h0] at h
 refine ⟨a.eval x,?_,h⟩
 generalize hv:a.eval x=vx at h
 cases h
 simp only [execOp,ho,hv,Sem.run_pure]
theorem looks_nilCheck_fn (x:Operand) (f:FuncId) (u v:List AV) (h0:ρ x=.fn (.func f) u v):Looks P (.nilCheck x) ρ H (.fn (.func f) u v) []:=by
 intro o ho w0 K0 D E n fr hp a w hr hx hH
 have h:=hx x (by simp [Op.operands])
 rw [h0] at h
 refine ⟨a.eval x,?_,h⟩
 generalize hv:a.eval x=vx at h
 cases h
 simp only [execOp,ho,hv,Sem.run_pure]
theorem looks_unOp (op:UnOp) (t:TypeId) (x:Operand) (K:AV→Prop) (h0:unA op (ρ x) K):∃ r,K r∧Looks P (.unOp op t x) ρ H r []:=by
 unfold unA at h0
 split at h0
 ·rename_i b hb
  refine ⟨_,h0,?_⟩
  intro o ho w0 K0 D E n fr hp a w hr hx hH
  have h:=hx x (by simp [Op.operands])
  rw [hb] at h
  generalize hv:a.eval x=vx at h
  cases h
  exact ⟨.bool !b,by simp only [execOp,ho,hv,Op.unary,Sem.run_bind,Sem.run_pure,Result.andThen_ok],.v _⟩
 ·rename_i k m hb
  refine ⟨_,h0,?_⟩
  intro o ho w0 K0 D E n fr hp a w hr hx hH
  have h:=hx x (by simp [Op.operands])
  rw [hb] at h
  generalize hv:a.eval x=vx at h
  cases h
  exact ⟨.int k (k.wrap (0 - m)),by simp only [execOp,ho,hv,Op.unary,Op.intArith,Sem.run_bind,Sem.run_pure,Result.andThen_ok],.v _⟩
 ·exact h0.elim
theorem looks_makeFunc (f:Fn) (u v:Array Operand):Looks P (.makeFunc f u v) ρ H (.fn f (u.toList.map ρ) (v.toList.map ρ)) []:=by
 intro o ho w0 K0 D E n fr hp a w hr hx hH
 refine ⟨.func f (u.map a.eval) (v.map a.eval),by simp [execOp,ho,Instr.makeFunc],?_⟩
 refine .fn _ _ _ _ _ (by simp) (by simp) ?_ ?_
 ·intro i y z hy hz
  simp only [List.getElem?_map,Option.map_eq_some_iff,Array.getElem?_map] at hy hz
  obtain ⟨b,hb,rfl⟩:=hy
  obtain ⟨c,hc,rfl⟩:=hz
  have:b=c:=by rw [Array.getElem?_toList] at hb; rw [hb] at hc; exact Option.some.inj hc
  subst this
  exact hx b (by simp [Op.operands]; exact .inl (Array.mem_of_getElem? hc))
 ·intro i y z hy hz
  simp only [List.getElem?_map,Option.map_eq_some_iff,Array.getElem?_map] at hy hz
  obtain ⟨b,hb,rfl⟩:=hy
  obtain ⟨c,hc,rfl⟩:=hz
  have:b=c:=by rw [Array.getElem?_toList] at hb; rw [hb] at hc; exact Option.some.inj hc
  subst this
  exact hx b (by simp [Op.operands]; exact .inr (Array.mem_of_getElem? hc))
theorem looks_extract (x:Operand) (i:Nat) (vs:List AV) (h0:ρ x=.tup vs) (hi:i < vs.length):Looks P (.extract x i) ρ H (vs.getD i .top) []:=by
 intro o ho w0 K0 D E n fr hp a w hr hx hH
 have h:=hx x (by simp [Op.operands])
 rw [h0] at h
 generalize hv:a.eval x=vx at h
 cases h with
 | tup cs xs hl hh=>
  have hlt:i < xs.size:=by omega
  have hy:xs[i]? = some xs[i]:=by simp [hlt]
  refine ⟨xs[i],?_,?_⟩
  ·simp only [execOp,ho,hv,Instr.extract,hy,Sem.run_bind,Sem.run_pure,Result.andThen_ok]
  ·have he:vs[i]? = some vs[i]:=by simp [hi]
   rw [List.getD_eq_getElem?_getD,he]
   exact hh i _ _ he hy
theorem looks_convert (hT:TOk P T) (src dst:TypeId) (x:Operand) (k k':IntKind) (m:Int) (hs:(T src).k≠.none) (hd:(T dst).k=.int k) (h0:ρ x=.v (.int k' m)) :
  Looks P (.convert src dst x) ρ H (.v (.int k (k.wrap m))) []:=by
 intro o ho w0 K0 D E n fr hp a w hr hx hH
 have h:=hx x (by simp [Op.operands])
 rw [h0] at h
 generalize hv:a.eval x=vx at h
 cases h
 obtain ⟨_,ds,_,hus,_⟩:=hT.ok src hs
 obtain ⟨_,dd,_,hud,_,_,_,_,_,hk⟩:=hT.ok dst (by rw [hd]; simp)
 rw [hd] at hk
 simp only [TK.is] at hk
 subst hk
 exact ⟨.int k (k.wrap m),by simp [execOp,ho,hv,convert,run_underlying hus,run_underlying hud,Conv.intToInt],.v _⟩
theorem run_int_bin (op:BinOp) (t:TypeId) (k:IntKind) (x y:Int) (K:AV→Prop) (hop:op≠.shl) (hop':op≠.shr) (h:intOp op k x y K) :
  ∃ v,K (.v v)∧∀ w:World,(binOp op t (.int k x) (.int k y)).run P w=.ok v w:=by
 cases op <;> first
  | exact absurd rfl hop
  | exact absurd rfl hop'
  | (refine ⟨_,h,fun w=>?_⟩; simp [binOp,Op.intArith,Op.intBits,Op.intCmp]; done)
  | (refine ⟨_,h.2,fun w=>?_⟩; simp [binOp,Op.intDiv,h.1]; done)
  | exact h.elim
theorem run_shift_bin (op:BinOp) (t:TypeId) (k k':IntKind) (x y:Int) (K:AV→Prop) (h:shiftOp op k x y K) :
  ∃ v,K (.v v)∧∀ w:World,(binOp op t (.int k x) (.int k' y)).run P w=.ok v w:=by
 cases op <;> first
  | (refine ⟨_,h.2,fun w=>?_⟩; have:=h.1; simp [binOp,Op.shift,show ¬ y < 0 by omega]; done)
  | exact h.elim
theorem run_guard_none (op:BinOp) (t:TypeId) (x y:Operand) (u v:Value) (w:World) (h:(match u,v with | .nilIface,.nilIface=>false | .agg _,.agg _=>false | _,_=>true)=true) :
  (eqGuard op t x y u v).run P w=.ok () w:=by
 unfold eqGuard
 cases op <;> first
  | (simp; done)
  | (cases u <;> cases v <;> first | (simp at h; done) | (simp; done))
theorem scalEq_run (hT:TOk P T) (d:Nat) (t:TypeId) (x y:AV) (b:Bool) (h:scalEq (T t).k x y=some b)
  {E:Env} {u v:Value} (hx:Con E x u) (hy:Con E y v) (w:World):(Op.equalIn (d + 1) t u v).run P w=.ok b w:=by
 unfold scalEq at h
 split at h
 ·rename_i q1 q2 q3 k1 k i k' j hk
  obtain ⟨_,de,_,hu,_,_,_,_,_,hd⟩:=hT.ok t (by rw [hk]; simp)
  rw [hk] at hd; simp only [TK.is] at hd; subst hd
  cases hx; cases hy
  split at h
  ·rename_i e
   subst e; cases h
   simp [Op.equalIn,run_underlying hu]
  ·cases h
 ·rename_i q1 q2 q3 i j hk
  obtain ⟨_,de,_,hu,_,_,_,_,_,hd⟩:=hT.ok t (by rw [hk]; simp)
  rw [hk] at hd; simp only [TK.is] at hd; subst hd
  cases hx; cases hy; cases h
  simp [Op.equalIn,run_underlying hu]
 ·cases h
theorem scalEq_plain (hT:TOk P T) {t:TypeId} {x y:AV} {b:Bool} (h:scalEq (T t).k x y=some b) (w:World):(isAgg t).run P w=.ok false w:=by
 unfold scalEq at h
 split at h
 ·rename_i hk
  rw [run_agg hT (by rw [hk]; simp),hk]; rfl
 ·rename_i hk
  rw [run_agg hT (by rw [hk]; simp),hk]; rfl
 ·cases h
theorem struct_eq_loop (hT:TOk P T) (d:Nat) (xs ys:Array Value) (E:Env) (w:World):∀ (l:List Field) (i:Nat) (cs ds:List AV) (b:Bool),
  fieldsEq T i (l.map fun f=>(f.offset,f.type)) cs ds=some b →
  (∀ (j:Nat) (x:AV),cs[j]? = some x→∃ u,xs[i + j]? = some u∧Con E x u)→(∀ (j:Nat) (x:AV),ds[j]? = some x→∃ u,ys[i + j]? = some u∧Con E x u) →
  (∀ f∈l,f.name≠"_") →
  ((forIn l (none,()) fun f __s=>
   if f.name≠"_" then do
    let __do_lift ← part f.type xs f.offset
    let __do_lift_1 ← part f.type ys f.offset
    let __do_lift ← Op.equalIn (d + 1) f.type __do_lift __do_lift_1
    if (!__do_lift)=true then pure (ForInStep.done (some false,())) else pure (ForInStep.yield (none,()))
   else pure (ForInStep.yield (none,())):Sem (Option Bool × Unit))).run P w=.ok (if b then (none,()) else (some false,())) w
 | [],i,cs,ds,b,h,_,_,_=>by
  cases cs <;> cases ds <;> simp [fieldsEq] at h
  subst h
  simp
 | f :: l,i,cs,ds,b,h,hx,hy,hn=>by
  cases cs with
  | nil=>simp [fieldsEq] at h
  | cons x cs=>
   cases ds with
   | nil=>simp [fieldsEq] at h
   | cons y ds=>
    simp only [List.map_cons,fieldsEq] at h
    split at h
    ·rename_i ho
     split at h
     ·rename_i a c ha hc
      cases h
      obtain ⟨u,hu,hcu⟩:=hx 0 x rfl
      obtain ⟨v,hv,hcv⟩:=hy 0 y rfl
      have hxu:(part f.type xs f.offset).run P w=.ok u w:=by
       simp only [Nat.add_zero] at hu
       simp [part,scalEq_plain hT ha,ho,hu]
      have hyv:(part f.type ys f.offset).run P w=.ok v w:=by
       simp only [Nat.add_zero] at hv
       simp [part,scalEq_plain hT ha,ho,hv]
      have he:=scalEq_run hT d f.type x y a ha hcu hcv w
      have ih:=struct_eq_loop hT d xs ys E w l (i + 1) cs ds c hc (fun j z hz=>by have:=hx (j + 1) z hz; rwa [Nat.add_assoc,Nat.add_comm 1 j]) (fun j z hz=>by have:=hy (j + 1) z hz; rwa [Nat.add_assoc,Nat.add_comm 1 j]) (fun g hg=>hn g (List.mem_cons_of_mem _ hg))
      rw [List.forIn_cons]
      simp only [hn f List.mem_cons_self,ne_eq,not_false_eq_true,if_true,Sem.run_bind,hxu,hyv,he,Result.andThen_ok]
      cases a with
      | true=>
       simp only [Bool.not_true,Bool.false_eq_true,if_false,Sem.run_pure,Result.andThen_ok,Bool.true_and]
       exact ih
      | false=>simp
     ·cases h
    ·cases h
theorem struct_eq_run (hT:TOk P T) (d:Nat) (t:TypeId) (fs:List (Nat × TypeId)) (hf:fieldsOf T t=some fs) (cs ds:List AV) (b:Bool) (h:fieldsEq T 0 fs cs ds=some b)
  {E:Env} {u v:Value} (hx:Con E (.agg cs) u) (hy:Con E (.agg ds) v) (w:World):(Op.equalIn (d + 2) t u v).run P w=.ok b w:=by
 have hst:=(hT.eqs t (by rw [hf]; rfl)).1
 unfold fieldsOf at hf
 split at hf
 ·rename_i fs' hk
  cases hf
  obtain ⟨_,de,_,hu,_,_,_,_,_,hd⟩:=hT.ok t (by rw [hk]; simp)
  rw [hk] at hd; simp only [TK.is] at hd
  obtain ⟨fa,rfl,hfs,hnm⟩:=hd
  have conv:∀ {es:List AV} {zs:Array Value},es.length=zs.size→(∀ (i:Nat) (a:AV) (x:Value),es[i]? = some a→zs[i]? = some x→Con E a x) →
    ∀ (j:Nat) (x:AV),es[j]? = some x→∃ u,zs[0 + j]? = some u∧Con E x u:=by
   intro es zs hl hh j x hj
   have hlt:j < zs.size:=by rw [← hl]; exact (List.getElem?_eq_some_iff.1 hj).1
   have hz:zs[j]? = some zs[j]:=by simp [hlt]
   exact ⟨zs[j],by rw [Nat.zero_add]; exact hz,hh j x _ hj hz⟩
  cases hx with
  | agg _ xs hl hh=>
   cases hy with
   | agg _ ys hl' hh'=>
    have:=struct_eq_loop hT d xs ys E w fa.toList 0 cs ds b (by rw [hfs]; exact h) (conv hl hh) (conv hl' hh')
     (fun f hf=>by have:=Array.all_eq_true_iff_forall_mem.1 hnm f (by simpa using hf); simpa using this)
    simp only [Op.equalIn,Sem.run_bind,run_underlying hu,Result.andThen_ok,run_program,hst,Bool.false_eq_true,if_false]
    rw [← Array.forIn_toList]
    simp only [Op.equalIn] at this ⊢
    rw [this]
    cases b <;> simp
 ·cases hf
theorem eqIn_bool {t:TypeId} (hu:P.underlying t=some .bool) (d:Nat) (i j:Bool) (w:World):(Op.equalIn (d + 1) t (.bool i) (.bool j)).run P w=.ok (i == j) w:=by
 simp [Op.equalIn,run_underlying hu]
theorem eqIn_nil {t e:TypeId} (hu:P.underlying t=some (.slice e)) (d:Nat) (A:Option Addr) (n c n' c':Nat) (w:World) :
  (Op.equalIn (d + 1) t (.slice A n c) (.slice none n' c')).run P w=.ok A.isNone w:=by
 cases A <;> simp [Op.equalIn,run_underlying hu]
theorem run_eqs (op:BinOp) (e:Bool) (he:isEq op=some e) (t:TypeId) (x y:Value) (b:Bool) (w:World) (hs:(match x,y with | .bool _,.bool _=>true | .agg _,.agg _=>true | .slice ..,.slice ..=>true | _,_=>false)=true)
  (h:(Op.equalIn (9998 + 2) t x y).run P w=.ok b w):(binOp op t x y).run P w=.ok (.bool (b == e)) w:=by
 have h':(Op.equal t x y).run P w=.ok b w:=h
 cases op <;> simp only [isEq,Option.some.injEq,reduceCtorEq] at he
 ·subst he
  have hb:binOp .eql t x y=(do pure (.bool (← Op.equal t x y))):=by
   cases x <;> cases y <;> first | rfl | cases hs
  rw [hb]
  simp only [Sem.run_bind,h',Result.andThen_ok,Sem.run_pure]
  cases b <;> rfl
 ·subst he
  have hb:binOp .neq t x y=(do pure (.bool (!(← Op.equal t x y)))):=by
   cases x <;> cases y <;> first | rfl | cases hs
  rw [hb]
  simp only [Sem.run_bind,h',Result.andThen_ok,Sem.run_pure]
  cases b <;> rfl
theorem looks_binOp (hT:TOk P T) (op:BinOp) (t t':TypeId) (x y:Operand) (K:AV→Prop) (h0:binA T op t (ρ x) (ρ y) K):∃ r,K r∧Looks P (.binOp op t x y t') ρ H r []:=by
 have fin:∀ (r:AV),(∀ (E:Env) (u v:Value) (w:World),Con E (ρ x) u→Con E (ρ y) v→∃ z,(do eqGuard op t x y u v; binOp op t u v:Sem Value).run P w=.ok z w∧Con E r z) →
   Looks P (.binOp op t x y t') ρ H r []:=by
  intro r hr o ho w0 K0 D E n fr hp a w hrel hx hH
  obtain ⟨z,hz,hc⟩:=hr E (a.eval x) (a.eval y) w (hx x (by simp [Op.operands])) (hx y (by simp [Op.operands]))
  refine ⟨z,?_,hc⟩
  simp only [execOp,ho,Sem.run_bind] at hz ⊢
  simp only [hz,Result.andThen_ok,Sem.run_pure]
 generalize hX:ρ x=X at h0
 generalize hY:ρ y=Y at h0
 rw [hX,hY] at fin
 unfold binA at h0
 have two:∀ (u v:Value),X=.v u→Y=.v v→(match u,v with | .nilIface,.nilIface=>false | .agg _,.agg _=>false | _,_=>true)=true→∀ z:Value,(∀ w:World,(binOp op t u v).run P w=.ok z w) →
   Looks P (.binOp op t x y t') ρ H (.v z) []:=by
  intro u v hu hv hg z hz
  refine fin _ fun E u' v' w hu' hv'=>?_
  rw [hu] at hu'; rw [hv] at hv'
  cases hu'; cases hv'
  exact ⟨z,by simp only [Sem.run_bind,run_guard_none (P:=P) op t x y u v w hg,Result.andThen_ok,hz w],.v _⟩
 split at h0
 ·rename_i k i k' j
  split at h0
  ·obtain ⟨v,hv,hr⟩:=run_shift_bin (P:=P) .shl t k k' i j K h0
   exact ⟨_,hv,two _ _ rfl rfl rfl v hr⟩
  ·obtain ⟨v,hv,hr⟩:=run_shift_bin (P:=P) .shr t k k' i j K h0
   exact ⟨_,hv,two _ _ rfl rfl rfl v hr⟩
  ·rename_i h1 h2
   obtain ⟨rfl,h0⟩:=h0
   obtain ⟨v,hv,hr⟩:=run_int_bin (P:=P) op t k i j K (fun e=>h1 e) (fun e=>h2 e) h0
   exact ⟨_,hv,two _ _ rfl rfl rfl v hr⟩
 ·rename_i i j
  split at h0
  ·rename_i e hk he
   obtain ⟨_,de,_,hu,_,_,_,_,_,hd⟩:=hT.ok t (by rw [hk]; simp)
   rw [hk] at hd; simp only [TK.is] at hd; subst hd
   exact ⟨_,h0,two _ _ rfl rfl rfl _ fun w=>run_eqs op e he t _ _ _ w rfl (eqIn_bool hu 9999 i j w)⟩
  ·exact h0.elim
 ·rename_i cs ds
  split at h0
  ·rename_i fs e hf he
   split at h0
   ·rename_i b hb
    refine ⟨_,h0,fin _ fun E u v w hu hv=>?_⟩
    have hq:=struct_eq_run hT 9998 t fs hf cs ds b hb hu hv w
    have hg:=(hT.eqs t (by rw [hf]; rfl)).2
    refine ⟨.bool (b == e),?_,.v _⟩
    cases hu; cases hv
    have hgr:∀ (xs ys:Array Value),(eqGuard op t x y (.agg xs) (.agg ys)).run P w=.ok () w:=by
     intro xs ys
     unfold eqGuard
     cases op <;> simp [hg]
    simp only [Sem.run_bind,hgr,Result.andThen_ok]
    exact run_eqs op e he t _ _ b w rfl hq
   ·exact h0.elim
  ·exact h0.elim
 ·rename_i c1 c2 hno
  split at h0
  ·rename_i e' n1 c3 hk he
   obtain ⟨_,de,_,hu,_,_,_,_,_,hd⟩:=hT.ok t (by rw [hk]; simp)
   rw [hk] at hd; simp only [TK.is] at hd; subst hd
   refine ⟨_,h0,two _ _ rfl rfl rfl _ fun w=>?_⟩
   have:=run_eqs (P:=P) op _ he t _ _ _ w rfl (eqIn_nil hu 9999 none n1 c3 c2 hno w)
   simpa using this
  ·rename_i e' e sz xs hk he
   obtain ⟨_,de,_,hu,_,_,_,_,_,hd⟩:=hT.ok t (by rw [hk]; simp)
   rw [hk] at hd; simp only [TK.is] at hd; subst hd
   refine ⟨_,h0,fin _ fun E u v w hu' hv'=>?_⟩
   cases hv'
   cases hu' with
   | lst _ _ A n c ad yy hn hc hA hs hk' h1 h=>
    have hg:=run_guard_none (P:=P) op t x y (.slice A n c) (.slice none c2 hno) w rfl
    have hb:=run_eqs (P:=P) op e he t (.slice A n c) (.slice none c2 hno) A.isNone w rfl (eqIn_nil hu 9999 A n c c2 hno w)
    refine ⟨.bool (A.isNone == e),by simp only [Sem.run_bind,hg,Result.andThen_ok,hb],.nb xs e _ fun hq=>?_⟩
    cases hxs:xs with
    | nil=>rfl
    | cons z zs=>
     rw [hA (by rw [hxs]; simp)] at hq
     cases e <;> simp at hq
  ·exact h0.elim
 ·exact h0.elim
end
end Go.Vai

/- The operations that look into memory: fields, elements, cuts, loads. -/
namespace Go.Vai
open Go.RowKit
section
variable {P : Program} {T : TEnv} {ρ : Operand → AV} {H : Nat → Option Blk} {me : Nat}
theorem add_zero_addr (a:Addr):a.add 0=a:=by simp [Addr.add]
theorem add_plain' (g o j:Nat):(⟨g,o,none⟩:Addr).add j=⟨g,o + j,none⟩:=by unfold Addr.add; split <;> simp_all
theorem add_add (a:Addr) (i j:Nat):(a.add i).add j=a.add (i + j):=by
 by_cases hi:i=0
 ·subst hi; rw [add_zero_addr,Nat.zero_add]
 ·by_cases hj:j=0
  ·subst hj; rw [add_zero_addr,Nat.add_zero]
  ·simp [Addr.add,hi,hj,Nat.add_assoc]
theorem Con.rptr_drop {E:Env} {cs:List AV} {ad:Addr} (h:Con E (.rptr cs) (.pointer (some ad))) (k:Nat):Con E (.rptr (cs.drop k)) (.pointer (some (ad.add k))):=by
 cases h with
 | rptr _ _ y hk h1 h=>
  refine .rptr _ _ (fun j=>y (k + j)) ?_ ?_ ?_
  ·intro j b hb; rw [List.getElem?_drop] at hb; rw [add_add]; exact hk _ b hb
  ·intro j b hb; rw [List.getElem?_drop] at hb; exact h1 _ b hb
  ·intro j b hb; rw [List.getElem?_drop] at hb; exact h _ b hb
theorem looks_fieldAddr (hT:TOk P T) (s:TypeId) (x:Operand) (f:Nat) (fs:List (Nat × TypeId)) (off':Nat) (ft:TypeId) (r:AV) (hk:(T s).k=.struct fs) (hf:fs[f]? = some (off',ft))
  (hn:(T ft).k≠.none) (h0:0 < (T ft).size) (hr:match ρ x with | .ptr id i off=>r=.ptr id i (off + off') | .rptr cs=>r=.rptr (cs.drop off') | _=>False) :
  Looks P (.fieldAddr s x f) ρ H r []:=by
 intro o ho w0 K0 D E n fr hp a w hrel hx hH
 have h:=hx x (by simp [Op.operands])
 obtain ⟨_,de,_,hu,_,_,_,_,_,hd⟩:=hT.ok s (by rw [hk]; simp)
 rw [hk] at hd; simp only [TK.is] at hd
 obtain ⟨fa,rfl,hfs,_⟩:=hd
 have hfa:∃ g,fa[f]? = some g∧g.offset=off'∧g.type=ft:=by
  rw [← hfs,List.getElem?_map,Array.getElem?_toList] at hf
  cases hg:fa[f]? with
  | none=>rw [hg] at hf; simp at hf
  | some g=>rw [hg] at hf; simp at hf; exact ⟨g,rfl,hf.1,hf.2⟩
 obtain ⟨g,hg,hgo,hgt⟩:=hfa
 have hrun:∀ ad:Addr,a.eval x=.pointer (some ad)→(execOp a.eval o).run P w=.ok (.value (.pointer (some (ad.add off')))) w:=by
  intro ad had
  simp only [execOp,ho,had,Instr.fieldAt,Instr.sureAddr,fieldPlace,Sem.run_bind,run_underlying hu,Result.andThen_ok,hg,Sem.run_pure,hgt,run_size hT hn,if_neg (show ¬ (T ft).size=0 by omega),hgo]
 split at hr
 ·rename_i id i off hx0
  subst hr
  rw [hx0] at h
  generalize hv:a.eval x=vx at h
  cases h with
  | ptr _ _ _ g' hd hg'=>
   refine ⟨_,hrun _ hv,?_⟩
   rw [add_plain',Nat.add_assoc]
   exact .ptr id i (off + off') g' hd hg'
 ·rename_i cs hx0
  subst hr
  rw [hx0] at h
  generalize hv:a.eval x=vx at h
  cases h with
  | rptr _ ad y q1 q2 q3=>exact ⟨_,hrun _ hv,Con.rptr_drop (.rptr cs ad y q1 q2 q3) off'⟩
 ·exact hr.elim
theorem run_part (hT:TOk P T) {t:TypeId} (ht:(T t).k≠.none) {cs:List AV} {xs:Array Value} {off:Nat} {E:Env} (hl:cs.length=xs.size)
  (hh:∀ (i:Nat) (a:AV) (x:Value),cs[i]? = some a→xs[i]? = some x→Con E a x) (hf:off + (T t).size≤cs.length) (h0:0 < (T t).size) (h1:(T t).k.agg=false→(T t).size=1) (w:World) :
  ∃ v,(part t xs off).run P w=.ok v w∧Con E (ofCells (T t).k.agg (T t).size (cs.drop off)) v:=by
 cases hk:(T t).k.agg with
 | true=>
  refine ⟨.agg (xs.extract off (off + (T t).size)),by simp [part,run_agg hT ht,hk,run_size hT ht],?_⟩
  simp only [ofCells,if_true]
  refine .agg _ _ (by simp; omega) ?_
  intro i a x ha hx
  rw [List.getElem?_take] at ha
  split at ha
  ·rw [List.getElem?_drop] at ha
   rw [Array.getElem?_extract] at hx
   split at hx
   ·exact hh _ a x ha hx
   ·cases hx
  ·cases ha
 | false=>
  have hs:=h1 hk
  have hlt:off < xs.size:=by omega
  refine ⟨xs[off],by simp [part,run_agg hT ht,hk,hlt],?_⟩
  have hc:off < cs.length:=by omega
  simp only [ofCells,Bool.false_eq_true,if_false]
  have:(cs.drop off).headD .top=cs[off]:=by
   rw [List.headD_eq_head?_getD,List.head?_drop]; simp [hc]
  rw [this]
  exact hh off _ _ (by simp [hc]) (by simp [hlt])
theorem looks_field (hT:TOk P T) (s:TypeId) (x:Operand) (f:Nat) (fs:List (Nat × TypeId)) (off':Nat) (ft:TypeId) (cs:List AV) (hk:(T s).k=.struct fs) (hf:fs[f]? = some (off',ft))
  (hx0:ρ x=.agg cs) (hn:(T ft).k≠.none) (hl:off' + (T ft).size≤cs.length) (h0:0 < (T ft).size) (h1:(T ft).k.agg=false→(T ft).size=1) :
  Looks P (.field s x f) ρ H (ofCells (T ft).k.agg (T ft).size (cs.drop off')) []:=by
 intro o ho w0 K0 D E n fr hp a w hrel hx hH
 have h:=hx x (by simp [Op.operands])
 obtain ⟨_,de,_,hu,_,_,_,_,_,hd⟩:=hT.ok s (by rw [hk]; simp)
 rw [hk] at hd; simp only [TK.is] at hd
 obtain ⟨fa,rfl,hfs,_⟩:=hd
 have hfa:∃ g,fa[f]? = some g∧g.offset=off'∧g.type=ft:=by
  rw [← hfs,List.getElem?_map,Array.getElem?_toList] at hf
  cases hg:fa[f]? with
  | none=>rw [hg] at hf; simp at hf
  | some g=>rw [hg] at hf; simp at hf; exact ⟨g,rfl,hf.1,hf.2⟩
 obtain ⟨g,hg,hgo,hgt⟩:=hfa
 rw [hx0] at h
 generalize hv:a.eval x=vx at h
 cases h with
 | agg _ xs hl' hh=>
  obtain ⟨v,hv',hc⟩:=run_part hT hn hl' hh hl h0 h1 w
  refine ⟨v,?_,hc⟩
  simp only [execOp,ho,hv,Instr.field,asAgg,Sem.run_bind,run_underlying hu,Result.andThen_ok,hg,Sem.run_pure,hgt,hgo,hv']
theorem looks_index (hT:TOk P T) (t:TypeId) (x ix:Operand) (m:Nat) (e:TypeId) (k:IntKind) (i:Int) (cs:List AV) (hk:(T t).k=.arr m e) (hx0:ρ x=.agg cs) (hi0:ρ ix=.v (.int k i))
  (hn:(T e).k≠.none) (hi1:0≤i) (hi2:i < m) (hl:i.toNat * (T e).size + (T e).size≤cs.length) (h0:0 < (T e).size) (h1:(T e).k.agg=false→(T e).size=1) :
  Looks P (.index t x ix) ρ H (ofCells (T e).k.agg (T e).size (cs.drop (i.toNat * (T e).size))) []:=by
 intro o ho w0 K0 D E n fr hp a w hrel hx hH
 have h:=hx x (by simp [Op.operands])
 have h':=hx ix (by simp [Op.operands])
 obtain ⟨_,de,_,hu,_,_,_,_,_,hd⟩:=hT.ok t (by rw [hk]; simp)
 rw [hk] at hd; simp only [TK.is] at hd; subst hd
 rw [hx0] at h
 rw [hi0] at h'
 generalize hv:a.eval x=vx at h
 generalize hv':a.eval ix=vi at h'
 cases h'
 cases h with
 | agg _ xs hl' hh=>
  obtain ⟨v,hr,hc⟩:=run_part hT hn hl' hh hl h0 h1 w
  refine ⟨v,?_,hc⟩
  simp only [execOp,ho,hv,hv',Instr.index,asIntOf,Sem.run_bind,run_underlying hu,Result.andThen_ok,Sem.run_pure,if_pos (show 0≤i∧i < (m:Int) from ⟨hi1,hi2⟩),run_size hT hn,hr]
theorem looks_indexAddr (hT:TOk P T) (t:TypeId) (x ix:Operand) (e:TypeId) (k:IntKind) (i:Int) (r:AV) (acc:List Nat) (hk:(T t).k=.slice e) (hi0:ρ ix=.v (.int k i)) (hn:(T e).k≠.none)
  (hr:match ρ x with
   | .lst sz xs=>sz=(T e).size∧0≤i∧i < xs.length∧r=.rptr (xs.getD i.toNat .top).cells
   | .arr id off len=>(match H id with | some b=>b.sz=(T e).size | none=>False)∧0≤i∧i < len∧r=.ptr id (off + i.toNat) 0∧acc=[id]
   | _=>False):Looks P (.indexAddr t x ix) ρ H r acc:=by
 intro o ho w0 K0 D E n fr hp a w hrel hx hH
 have h:=hx x (by simp [Op.operands])
 have h':=hx ix (by simp [Op.operands])
 obtain ⟨_,de,_,hu,_,_,_,_,_,hd⟩:=hT.ok t (by rw [hk]; simp)
 rw [hk] at hd; simp only [TK.is] at hd; subst hd
 rw [hi0] at h'
 generalize hv':a.eval ix=vi at h'
 cases h'
 have hrun:∀ (ad:Addr) (len c:Nat),a.eval x=.slice (some ad) len c→0≤i→i < len→(execOp a.eval o).run P w=.ok (.value (.pointer (some (ad.add (i.toNat * (T e).size))))) w:=by
  intro ad len c had h1 h2
  simp only [execOp,ho,had,hv',Instr.indexAt,asIntOf,Sem.run_bind,run_underlying hu,Result.andThen_ok,Sem.run_pure,if_pos (show 0≤i∧i < (len:Int) from ⟨h1,h2⟩),run_size hT hn]
 split at hr
 ·rename_i sz xs hx0
  obtain ⟨rfl,h1,h2,rfl⟩:=hr
  rw [hx0] at h
  generalize hv:a.eval x=vx at h
  cases h with
  | lst _ _ A n' c ad y hn' hc hA hs hk' h1' hh=>
   have hlt:i.toNat < xs.length:=by omega
   have hne:xs≠[]:=by intro e; rw [e] at hlt; simp at hlt
   rw [hA hne] at hv
   refine ⟨_,hrun ad n' c hv h1 (by omega),?_⟩
   have hgd:xs[i.toNat]? = some (xs.getD i.toNat .top):=by rw [List.getD_eq_getElem?_getD]; simp [hlt]
   refine .rptr _ _ (fun j=>y i.toNat j) ?_ ?_ ?_
   ·intro j b hb; rw [add_add]; exact hk' _ _ j b hgd hb
   ·intro j b hb; exact h1' _ _ j b hgd hb
   ·intro j b hb; exact hh _ _ j b hgd hb
 ·rename_i id off len hx0
  obtain ⟨hb,h1,h2,rfl,rfl⟩:=hr
  rw [hx0] at h
  generalize hv:a.eval x=vx at h
  cases h with
  | arr _ _ _ g o' c hd hg ho' hc hl=>
   refine ⟨_,hrun _ _ _ hv h1 h2,?_⟩
   cases hHi:H id with
   | none=>rw [hHi] at hb; exact hb.elim
   | some b=>
    rw [hHi] at hb
    have hown:=hrel.own id b ((hH id (by simp)).trans hHi)
    have hsz:E.sz id=(T e).size:=hown.2.1.trans hb
    have hoo:o'=off * E.sz id:=ho'.resolve_left (by omega)
    rw [add_plain',hoo,← hsz,← Nat.add_mul]
    exact .ptr id (off + i.toNat) 0 g hd hg
  | arr0 _ hd hg=>omega
 ·exact hr.elim
theorem looks_indexAddr_arr (hT:TOk P T) (t:TypeId) (x ix:Operand) (m:Nat) (e:TypeId) (k:IntKind) (i:Int) (r:AV) (hk:(T t).k=.arr m e) (hi0:ρ ix=.v (.int k i)) (hn:(T e).k≠.none) (h1:0≤i) (h2:i < m)
  (hr:match ρ x with
   | .ptr id j off=>r=.ptr id j (off + i.toNat * (T e).size)
   | .rptr cs=>r=.rptr (cs.drop (i.toNat * (T e).size))
   | _=>False):Looks P (.indexAddr t x ix) ρ H r []:=by
 intro o ho w0 K0 D E n fr hp a w hrel hx hH
 have h:=hx x (by simp [Op.operands])
 have h':=hx ix (by simp [Op.operands])
 obtain ⟨_,de,_,hu,_,_,_,_,_,hd⟩:=hT.ok t (by rw [hk]; simp)
 rw [hk] at hd; simp only [TK.is] at hd; subst hd
 rw [hi0] at h'
 generalize hv':a.eval ix=vi at h'
 cases h'
 have hrun:∀ (ad:Addr),a.eval x=.pointer (some ad)→(execOp a.eval o).run P w=.ok (.value (.pointer (some (ad.add (i.toNat * (T e).size))))) w:=by
  intro ad had
  simp only [execOp,ho,had,hv',Instr.indexAt,Instr.sureAddr,asIntOf,Sem.run_bind,run_underlying hu,Result.andThen_ok,Sem.run_pure,if_pos (show 0≤i∧i < (m:Int) from ⟨h1,h2⟩),run_size hT hn]
 split at hr
 ·rename_i id j off hx0
  subst hr
  rw [hx0] at h
  generalize hv:a.eval x=vx at h
  cases h with
  | ptr _ _ _ g hd hg=>
   refine ⟨_,hrun _ hv,?_⟩
   rw [add_plain',Nat.add_assoc]
   exact .ptr id j _ g hd hg
 ·rename_i cs hx0
  subst hr
  rw [hx0] at h
  generalize hv:a.eval x=vx at h
  cases h with
  | rptr _ ad y q1 q2 q3=>exact ⟨_,hrun _ hv,Con.rptr_drop (.rptr cs ad y q1 q2 q3) _⟩
 ·exact hr.elim
end
end Go.Vai

/- The operations that look into memory, more: cuts, lengths, loads; and structs built of parts. -/
namespace Go.Vai
open Go.RowKit
section
variable {P : Program} {T : TEnv} {ρ : Operand → AV} {H : Nat → Option Blk} {me : Nat}
theorem kcell_cell {K:Nat→Option Obj} {w:World} (hkw:∀ b o,K b=some o→w.heap[b]? = some o) {ad:Addr} {v:Value} (h:kcell K ad=some v):w.cell? ad=some v:=by
 unfold kcell at h
 cases hb:K ad.block with
 | none=>rw [hb] at h; cases h
 | some o=>
  rw [hb] at h
  simp only [World.cell?,hkw _ _ hb]
  exact h
theorem con_valOf {E:Env} {agg:Bool} {n:Nat} {cs:List AV} {vs:List Value} (hl:vs.length=n) (hn:n≤cs.length) (h0:0 < n) (hh:∀ (j:Nat) (b:AV) (v:Value),cs[j]? = some b→vs[j]? = some v→Con E b v) :
  Con E (ofCells agg n cs) (valOf agg vs):=by
 cases agg with
 | true=>
  simp only [ofCells,valOf,if_true]
  refine .agg _ _ (by simp; omega) ?_
  intro i a x ha hx
  rw [List.getElem?_take] at ha
  split at ha
  ·exact hh i a x ha (by simpa using hx)
  ·cases ha
 | false=>
  simp only [ofCells,valOf,Bool.false_eq_true,if_false]
  cases cs with
  | nil=>simp at hn; omega
  | cons c cs=>
   cases vs with
   | nil=>simp at hl; omega
   | cons v vs=>exact hh 0 c v rfl rfl
theorem looks_load_rptr (hT:TOk P T) (t:TypeId) (x:Operand) (cs:List AV) (hx0:ρ x=.rptr cs) (hn:(T t).k≠.none) (hl:(T t).size≤cs.length) (h0:0 < (T t).size) (h1:(T t).k.agg=false→(T t).size=1) :
  Looks P (.load t x) ρ H (ofCells (T t).k.agg (T t).size cs) []:=by
 intro o ho w0 K0 D E n fr hp a w hrel hx hH
 have h:=hx x (by simp [Op.operands])
 rw [hx0] at h
 generalize hv:a.eval x=vx at h
 cases h with
 | rptr _ ad y hk h1' hh=>
  have hr:=run_loadVar hT hn w ad ((List.range (T t).size).map y) (by simp) h1 (by
   intro j v hj
   rw [List.getElem?_map,Option.map_eq_some_iff] at hj
   obtain ⟨q,hq,rfl⟩:=hj
   obtain ⟨hjl,hq'⟩:=List.getElem?_eq_some_iff.1 hq
   simp only [List.getElem_range] at hq'
   subst hq'
   simp only [List.length_range] at hjl
   have hc:cs[j]? = some cs[j]:=by simp [show j < cs.length by omega]
   exact kcell_cell hrel.kw (hk j _ hc))
  refine ⟨_,?_,con_valOf (vs:=(List.range (T t).size).map y) (by simp) hl h0 ?_⟩
  ·simp only [execOp,ho,hv,Instr.loadAt,Instr.sureAddr,Sem.run_bind,Sem.run_pure,Result.andThen_ok,hr]
  ·intro j b v hb hv'
   rw [List.getElem?_map,Option.map_eq_some_iff] at hv'
   obtain ⟨q,hq,rfl⟩:=hv'
   obtain ⟨hjl,hq'⟩:=List.getElem?_eq_some_iff.1 hq
   simp only [List.getElem_range] at hq'
   subst hq'
   exact hh j b hb
theorem looks_load_ptr (hT:TOk P T) (t:TypeId) (x:Operand) (id i off:Nat) (b:Blk) (hx0:ρ x=.ptr id i off) (hb:H id=some b) (hn:(T t).k≠.none) (hi:i < b.el.length)
  (hl:off + (T t).size≤(b.el.getD i .top).cells.length) (h0:0 < (T t).size) (h1:(T t).k.agg=false→(T t).size=1) :
  Looks P (.load t x) ρ H (ofCells (T t).k.agg (T t).size ((b.el.getD i .top).cells.drop off)) [id]:=by
 intro o ho w0 K0 D E n fr hp a w hrel hx hH
 have h:=hx x (by simp [Op.operands])
 rw [hx0] at h
 generalize hv:a.eval x=vx at h
 cases h with
 | ptr _ _ _ g hd hg=>
  have hown:=hrel.own id b ((hH id (by simp)).trans hb)
  obtain ⟨_,hs,hp,_,hown⟩:=hown
  rcases hown with ⟨h1',_⟩ | ⟨g',cur,hg',hB,hc,hcs,hel,_,_,hE⟩
  ·rw [h1'] at hg; cases hg
  ·rw [hg'] at hg; cases hg
   have hgd:b.el[i]? = some (b.el.getD i .top):=by rw [List.getD_eq_getElem?_getD]; simp [hi]
   obtain ⟨hlen,hcell⟩:=hE i _ hgd
   generalize b.el.getD i .top=x0 at hl hgd hlen hcell
   have hy:∀ j,j < x0.cells.length→∃ y,cur[i * b.sz + j]? = some y∧y.oneCell'=true∧Con E (x0.cells.getD j .top) y:=by
    intro j hj
    have:=hcell j (x0.cells.getD j .top) (by rw [List.getD_eq_getElem?_getD]; simp [hj])
    exact this
   have hrd:∀ j,j < (T t).size→w.cell? ((⟨g,i * E.sz id + off,none⟩:Addr).add j)=cur[i * b.sz + (off + j)]?:=by
    intro j hj
    rw [add_plain',hs]
    simp [World.cell?,hc,Nat.add_assoc]
   have hlist:∃ vs:List Value,vs.length=(T t).size∧(∀ (j:Nat) (v:Value),vs[j]? = some v→cur[i * b.sz + (off + j)]? = some v∧Con E (x0.cells.getD (off + j) .top) v):=by
    refine ⟨(List.range (T t).size).map fun j=>(cur[i * b.sz + (off + j)]?).getD undef,by simp,?_⟩
    intro j v hj
    rw [List.getElem?_map,Option.map_eq_some_iff] at hj
    obtain ⟨q,hq,rfl⟩:=hj
    obtain ⟨hjl,hq'⟩:=List.getElem?_eq_some_iff.1 hq
    simp only [List.getElem_range] at hq'
    subst hq'
    simp only [List.length_range] at hjl
    obtain ⟨y,hy1,_,hy3⟩:=hy (off + j) (by omega)
    rw [hy1]
    exact ⟨rfl,hy3⟩
   obtain ⟨vs,hvl,hvs⟩:=hlist
   have hr:=run_loadVar hT hn w ⟨g,i * E.sz id + off,none⟩ vs hvl h1 (by
    intro j v hj
    rw [hrd j (by rw [← hvl]; exact (List.getElem?_eq_some_iff.1 hj).1)]
    exact (hvs j v hj).1)
   refine ⟨_,?_,con_valOf (vs:=vs) hvl (by rw [List.length_drop]; omega) h0 ?_⟩
   ·simp only [execOp,ho,hv,Instr.loadAt,Instr.sureAddr,Sem.run_bind,Sem.run_pure,Result.andThen_ok,hr]
   ·intro j c v hc' hv'
    rw [List.getElem?_drop] at hc'
    have:=(hvs j v hv').2
    rw [List.getD_eq_getElem?_getD,hc'] at this
    exact this
theorem looks_len (hT:TOk P T) (x:Operand) (t e:TypeId) (m:Nat) (hk:(T t).k=.slice e) (hx0:lenOf (ρ x)=some m) :
  Looks P (.call { callee:=.builtin .len,args:=#[x],argTypes:=#[t] }) ρ H (.v (.int .i64 m)) []:=by
 intro o ho w0 K0 D E n fr hp a w hrel hx hH
 have h:=hx x (by simp [Op.operands,Call.operands])
 obtain ⟨_,de,_,hu,_,_,_,_,_,hd⟩:=hT.ok t (by rw [hk]; simp)
 rw [hk] at hd; simp only [TK.is] at hd; subst hd
 have hrun:∀ (A:Option Addr) (c:Nat),a.eval x=.slice A m c→(execOp a.eval o).run P w=.ok (.value (.int .i64 m)) w:=by
  intro A c hv
  simp only [execOp,ho,resolve,invoke,builtin,hv,Builtin.len_,Sem.run_bind,run_underlying hu,Result.andThen_ok,Sem.run_pure,goInt,List.map_toArray,List.map_cons,List.map_nil,List.getElem?_toArray,List.getElem?_cons_zero]
 generalize hX:ρ x=X at h hx0
 generalize hv:a.eval x=vx at h
 unfold lenOf at hx0
 split at hx0 <;> cases hx0
 ·cases h; exact ⟨_,hrun _ _ hv,.v _⟩
 ·cases h with
  | lst _ _ A n' c ad y hn'=>subst hn'; exact ⟨_,hrun _ _ hv,.v _⟩
 ·cases h with
  | arr _ _ _ g o' c hd hg=>exact ⟨_,hrun _ _ hv,.v _⟩
  | arr0 _ hd hg=>exact ⟨_,hrun _ _ hv,.v _⟩
end
end Go.Vai

/- Cuts of slices, and structs built of parts. -/
namespace Go.Vai
open Go.RowKit
section
variable {P : Program} {T : TEnv} {ρ : Operand → AV} {H : Nat → Option Blk} {me : Nat}
theorem run_sliceBound (x:Value) (k:IntKind) (i:Int) (hx:x=.int k i) (y:Nat) (code:BoundsCode) (h0:0≤i) (h1:i≤y) (w:World):(Instr.sliceBound x y code).run P w=.ok i.toNat w:=by
 subst hx
 simp only [Instr.sliceBound,asIntOf,Sem.run_bind,Sem.run_pure,Result.andThen_ok,if_pos (show 0≤i∧i≤(y:Int) from ⟨h0,h1⟩)]
theorem bndA_some {E:Env} {a:Act} {x:Option Operand} {d:Nat} {i:Int} (h:bndA (x.map ρ) d=some i) (hx:∀ z,x=some z→Con E (ρ z) (a.eval z)) :
  (x=none∧i=d)∨∃ z k,x=some z∧a.eval z=.int k i:=by
 cases x with
 | none=>simp [bndA] at h; exact .inl ⟨rfl,h.symm⟩
 | some z=>
  refine .inr ?_
  have hz:=hx z rfl
  simp only [Option.map_some,bndA] at h
  split at h
  ·rename_i e; cases e
  ·rename_i k j e
   simp only [Option.some.injEq] at e
   cases h
   rw [e] at hz
   generalize hv:a.eval z=v at hz
   cases hz
   exact ⟨z,k,rfl,hv⟩
  ·cases h
theorem run_sliceBounds {E:Env} {a:Act} (len cap:Nat) (lo hi mx:Option Operand) (l h m:Int) (hlo:bndA (lo.map ρ) 0=some l) (hhi:bndA (hi.map ρ) len=some h) (hmx:bndA (mx.map ρ) len=some m)
  (hx:∀ z,lo=some z∨hi=some z∨mx=some z→Con E (ρ z) (a.eval z)) (hm:mx.isSome→hi.isSome) (h0:0≤l) (h1:l≤h) (h2:h≤m) (h3:m≤len) (hc:len≤cap) (w:World) :
  ∃ c:Nat,h.toNat≤c∧c≤cap∧(Instr.sliceBounds true len cap (lo.map a.eval) (hi.map a.eval) (mx.map a.eval)).run P w=.ok (l.toNat,h.toNat,c) w:=by
 have H1:=bndA_some (a:=a) (E:=E) hlo fun z hz=>hx z (.inl hz)
 have H2:=bndA_some (a:=a) (E:=E) hhi fun z hz=>hx z (.inr (.inl hz))
 have H3:=bndA_some (a:=a) (E:=E) hmx fun z hz=>hx z (.inr (.inr hz))
 rcases H3 with ⟨rfl,rfl⟩ | ⟨zm,km,rfl,hzm⟩
 ·refine ⟨cap,by omega,Nat.le_refl _,?_⟩
  rcases H2 with ⟨rfl,rfl⟩ | ⟨zh,kh,rfl,hzh⟩
  ·rcases H1 with ⟨rfl,rfl⟩ | ⟨zl,kl,rfl,hzl⟩
   ·simp [Instr.sliceBounds]
   ·have hb:=run_sliceBound (P:=P) (a.eval zl) kl l hzl len .sliceB h0 h1 w
    simp [Instr.sliceBounds,hb]
  ·rcases H1 with ⟨rfl,rfl⟩ | ⟨zl,kl,rfl,hzl⟩
   ·simp only [Instr.sliceBounds,Option.map_none,Option.map_some,Sem.run_bind,Sem.run_pure,Result.andThen_ok,if_true,run_sliceBound (P:=P) _ kh h hzh cap .sliceAcap (by omega) (by omega)]
    simp
   ·simp only [Instr.sliceBounds,Option.map_none,Option.map_some,Sem.run_bind,Sem.run_pure,Result.andThen_ok,if_true,run_sliceBound (P:=P) _ kh h hzh cap .sliceAcap (by omega) (by omega),
     Option.isSome_none,Bool.false_eq_true,if_false,run_sliceBound (P:=P) _ kl l hzl h.toNat .sliceB h0 (by omega)]
 ·obtain ⟨zh,rfl⟩:∃ z,hi=some z:=Option.isSome_iff_exists.1 (hm rfl)
  rcases H2 with ⟨h',_⟩ | ⟨zh,kh,e,hzh⟩
  ·cases h'
  ·cases e
   refine ⟨m.toNat,by omega,by omega,?_⟩
   rcases H1 with ⟨rfl,rfl⟩ | ⟨zl,kl,rfl,hzl⟩
   ·simp only [Instr.sliceBounds,Option.map_none,Option.map_some,Sem.run_bind,Sem.run_pure,Result.andThen_ok,if_true,run_sliceBound (P:=P) _ km m hzm cap .slice3Acap (by omega) (by omega),
     run_sliceBound (P:=P) _ kh h hzh m.toNat .slice3B (by omega) (by omega)]
    simp
   ·simp only [Instr.sliceBounds,Option.map_some,Sem.run_bind,Sem.run_pure,Result.andThen_ok,if_true,run_sliceBound (P:=P) _ km m hzm cap .slice3Acap (by omega) (by omega),
     run_sliceBound (P:=P) _ kh h hzh m.toNat .slice3B (by omega) (by omega),Option.isSome_some,run_sliceBound (P:=P) _ kl l hzl h.toNat .slice3C h0 (by omega)]
theorem looks_slice (hT:TOk P T) (t:TypeId) (x:Operand) (lo hi mx:Option Operand) (e:TypeId) (len:Nat) (l h m:Int) (r:AV) (acc:List Nat) (hk:(T t).k=.slice e) (hn:(T e).k≠.none)
  (hlen:lenOf (ρ x)=some len) (hlo:bndA (lo.map ρ) 0=some l) (hhi:bndA (hi.map ρ) len=some h) (hmx:bndA (mx.map ρ) len=some m) (hm:mx.isSome→hi.isSome) (h0:0≤l) (h1:l≤h) (h2:h≤m) (h3:m≤len)
  (hr:match ρ x with
   | .v (.slice none 0 0)=>r=.v (.slice none 0 0)
   | .lst sz xs=>sz=(T e).size∧r=.lst sz ((xs.drop l.toNat).take (h.toNat - l.toNat))
   | .arr id off _=>(match H id with | some b=>b.sz=(T e).size | none=>False)∧r=.arr id (off + l.toNat) (h.toNat - l.toNat)∧acc=[id]
   | _=>False):Looks P (.slice t x lo hi mx) ρ H r acc:=by
 intro o ho w0 K0 D E n fr hp a w hrel hx hH
 have hX:=hx x (by simp [Op.operands])
 obtain ⟨_,de,_,hu,_,_,_,_,_,hd⟩:=hT.ok t (by rw [hk]; simp)
 rw [hk] at hd; simp only [TK.is] at hd; subst hd
 have hops:∀ z,lo=some z∨hi=some z∨mx=some z→Con E (ρ z) (a.eval z):=by
  intro z hz
  refine hx z ?_
  simp only [Op.operands]
  rcases hz with rfl | rfl | rfl <;> simp
 have hrun:∀ (A:Option Addr) (cap:Nat),a.eval x=.slice A len cap→len≤cap→∃ c:Nat,h.toNat≤c∧c≤cap ∧
   (execOp a.eval o).run P w=.ok (.value (.slice (if c=l.toNat then A else A.map (·.add (l.toNat * (T e).size))) (h.toNat - l.toNat) (c - l.toNat))) w:=by
  intro A cap hv hc
  obtain ⟨c,c1,c2,hb⟩:=run_sliceBounds (P:=P) (E:=E) (a:=a) len cap lo hi mx l h m hlo hhi hmx hops hm h0 h1 h2 h3 hc w
  refine ⟨c,c1,c2,?_⟩
  simp only [execOp,ho,hv,Instr.sliceAt,Instr.slice,Sem.run_bind,run_underlying hu,Result.andThen_ok,hb,run_size hT hn,Sem.run_pure]
 split at hr
 ·rename_i hx0
  subst hr
  rw [hx0] at hX hlen
  simp only [lenOf,Option.some.injEq] at hlen
  subst hlen
  generalize hv:a.eval x=vx at hX
  cases hX
  obtain ⟨c,c1,c2,hrun⟩:=hrun none 0 hv (Nat.le_refl _)
  have:c=0:=by omega
  subst this
  have hl0:l.toNat=0:=by omega
  have hh0:h.toNat=0:=by omega
  rw [hl0,hh0] at hrun
  exact ⟨_,hrun,.v _⟩
 ·rename_i sz xs hx0
  obtain ⟨rfl,rfl⟩:=hr
  rw [hx0] at hX hlen
  simp only [lenOf,Option.some.injEq] at hlen
  generalize hv:a.eval x=vx at hX
  cases hX with
  | lst _ _ A n' cap ad y hn' hc hA hs hk' h1' hh=>
   subst hlen hn'
   obtain ⟨c,c1,c2,hrun⟩:=hrun A cap hv hc
   refine ⟨_,hrun,.lst _ _ _ _ _ (ad.add (l.toNat * (T e).size)) (fun i j=>y (l.toNat + i) j) ?_ ?_ ?_ ?_ ?_ ?_ ?_⟩
   ·simp only [List.length_take,List.length_drop]; omega
   ·omega
   ·intro hne
    have hne':xs≠[]:=by intro e0; rw [e0] at hne; simp at hne
    have:¬ c=l.toNat:=by
     intro e0
     apply hne
     apply List.eq_nil_of_length_eq_zero
     simp only [List.length_take,List.length_drop]
     omega
    rw [if_neg this,hA hne']; rfl
   all_goals (intro i; intro z; try intro j b)
   ·intro hz
    rw [List.getElem?_take] at hz
    split at hz
    ·rw [List.getElem?_drop] at hz; exact hs _ z hz
    ·cases hz
   ·intro hz hb
    rw [List.getElem?_take] at hz
    split at hz
    ·rw [List.getElem?_drop] at hz
     have:=hk' _ z j b hz hb
     rw [add_add,← Nat.add_assoc,← Nat.add_mul]
     exact this
    ·cases hz
   ·intro hz hb
    rw [List.getElem?_take] at hz
    split at hz
    ·rw [List.getElem?_drop] at hz; exact h1' _ z j b hz hb
    ·cases hz
   ·intro hz hb
    rw [List.getElem?_take] at hz
    split at hz
    ·rw [List.getElem?_drop] at hz; exact hh _ z j b hz hb
    ·cases hz
 ·rename_i id off len' hx0
  obtain ⟨hb,rfl,rfl⟩:=hr
  rw [hx0] at hX hlen
  simp only [lenOf,Option.some.injEq] at hlen
  subst hlen
  cases hHi:H id with
  | none=>rw [hHi] at hb; exact hb.elim
  | some b=>
   rw [hHi] at hb
   have hown:=hrel.own id b ((hH id (by simp)).trans hHi)
   have hsz:E.sz id=(T e).size:=hown.2.1.trans hb
   generalize hv:a.eval x=vx at hX
   cases hX with
   | arr _ _ _ g o' cap hd hg ho' hc hl=>
    obtain ⟨c,c1,c2,hrun⟩:=hrun _ cap hv hl
    refine ⟨_,hrun,?_⟩
    by_cases e0:c=l.toNat
    ·rw [if_pos e0]
     exact .arr id _ _ g o' _ hd hg (.inl (by omega)) (by omega) (by omega)
    ·rw [if_neg e0]
     simp only [Option.map_some,add_plain']
     refine .arr id _ _ g _ _ hd hg ?_ (by omega) (by omega)
     rcases ho' with h' | h'
     ·omega
     ·right; rw [h',hsz,← Nat.add_mul]
   | arr0 _ hd hg=>
    obtain ⟨c,c1,c2,hrun⟩:=hrun none 0 hv (Nat.le_refl _)
    have:c=0:=by omega
    subst this
    have hl0:l.toNat=0:=by omega
    have hh0:h.toNat=0:=by omega
    rw [hl0,hh0] at hrun ⊢
    exact ⟨_,hrun,.arr0 id hd hg⟩
 ·exact hr.elim
end
end Go.Vai

/- Structs, arrays and slices that are built of parts. -/
namespace Go.Vai
open Go.RowKit
theorem fold_set (off:Nat):∀ (l:List Value) (s:Nat) (cs:Array Value),
  (((l.zipIdx s).foldl (fun cs (x:Value × Nat)=>cs.setIfInBounds (off + x.2) x.1) cs).size=cs.size) ∧
  ∀ k,((l.zipIdx s).foldl (fun cs (x:Value × Nat)=>cs.setIfInBounds (off + x.2) x.1) cs)[k]? =
   if off + s≤k∧k < off + s + l.length∧k < cs.size then l[k - (off + s)]? else cs[k]?
 | [],s,cs=>by
  refine ⟨rfl,fun k=>?_⟩
  rw [if_neg (by simp; omega)]; rfl
 | v :: l,s,cs=>by
  obtain ⟨h1,h2⟩:=fold_set off l (s + 1) (cs.setIfInBounds (off + s) v)
  simp only [List.zipIdx_cons,List.foldl_cons]
  refine ⟨by rw [h1]; simp,fun k=>?_⟩
  rw [h2 k]
  simp only [Array.size_setIfInBounds,List.length_cons]
  by_cases hk:k=off + s
  ·subst hk
   rw [if_neg (by omega)]
   by_cases hb:off + s < cs.size
   ·rw [if_pos ⟨Nat.le_refl _,by omega,hb⟩,Array.getElem?_setIfInBounds_self_of_lt hb]; simp
   ·rw [if_neg (by omega)]
    rw [Array.getElem?_eq_none (by simp; omega),Array.getElem?_eq_none (by omega)]
  ·by_cases hc:off + (s + 1)≤k∧k < off + (s + 1) + l.length∧k < cs.size
   ·rw [if_pos hc,if_pos ⟨by omega,by omega,hc.2.2⟩]
    obtain ⟨m,hm⟩:∃ m,k - (off + s)=m + 1:=⟨k - (off + s) - 1,by omega⟩
    rw [hm,List.getElem?_cons_succ]
    congr 1; omega
   ·rw [if_neg hc,if_neg (by omega),Array.getElem?_setIfInBounds_ne (by omega)]
def CellsCon (E:Env) (cs:List AV) (xs:Array Value):Prop:=cs.length=xs.size∧∀ (i:Nat) (a:AV) (x:Value),cs[i]? = some a→xs[i]? = some x→Con E a x
def PartsCon (E:Env):List (Nat × AV)→List (Nat × Value)→Prop
 | [],[]=>True
 | (i,a) :: ps,(j,v) :: qs=>i=j∧Con E a v∧PartsCon E ps qs
 | _,_=>False
theorem partsCon_map {E:Env} {a:Act} {ρ:Operand→AV}:∀ (l:List (Nat × Operand)),(∀ p∈l,Con E (ρ p.2) (a.eval p.2))→PartsCon E (l.map fun p=>(p.1,ρ p.2)) (l.map fun p=>(p.1,a.eval p.2))
 | [],_=>trivial
 | p :: l,h=>⟨rfl,h p List.mem_cons_self,partsCon_map l fun q hq=>h q (List.mem_cons_of_mem _ hq)⟩
theorem fill_con {E:Env} (place:Nat→Option (Nat × Nat)):∀ (ps:List (Nat × AV)) (qs:List (Nat × Value)) (cs cs':List AV) (xs:Array Value),PartsCon E ps qs→CellsCon E cs xs→fillA place cs ps=some cs' →
  ∃ xs',Instr.fill place xs qs=some xs'∧CellsCon E cs' xs'
 | [],qs,cs,cs',xs,hp,hc,h=>by
  cases qs with
  | nil=>simp only [fillA,Option.some.injEq] at h; subst h; exact ⟨xs,rfl,hc⟩
  | cons q qs=>exact hp.elim
 | (i,x) :: ps,qs,cs,cs',xs,hp,hc,h=>by
  cases qs with
  | nil=>exact hp.elim
  | cons q qs=>
   obtain ⟨j,v⟩:=q
   obtain ⟨rfl,hx,hp⟩:=hp
   simp only [fillA] at h
   cases hpl:place i with
   | none=>rw [hpl] at h; cases h
   | some os=>
    obtain ⟨off,size⟩:=os
    rw [hpl] at h
    simp only at h
    split at h
    ·rename_i hcond
     obtain ⟨hw,hfit⟩:=hcond
     obtain ⟨hsz,_,hcell⟩:=hx.cells hw
     have hwl:x.cells.length=size:=by simp only [AV.wr,Bool.and_eq_true,beq_iff_eq] at hw; exact hw.1
     obtain ⟨f1,f2⟩:=fold_set off v.cells.toList 0 xs
     have hfold:v.cells.zipIdx.foldl (fun cs (x:Value × Nat)=>cs.setIfInBounds (off + x.2) x.1) xs=(v.cells.toList.zipIdx 0).foldl (fun cs (x:Value × Nat)=>cs.setIfInBounds (off + x.2) x.1) xs:=by
      rw [← Array.foldl_toList,Array.toList_zipIdx]
     have hcc:CellsCon E (cs.take off ++ x.cells ++ cs.drop (off + size)) ((v.cells.toList.zipIdx 0).foldl (fun cs (x:Value × Nat)=>cs.setIfInBounds (off + x.2) x.1) xs):=by
      refine ⟨by rw [f1,← hc.1]; simp only [List.length_append,List.length_take,List.length_drop]; omega,?_⟩
      intro k b y hb hy
      rw [f2 k] at hy
      simp only [Nat.add_zero,Array.length_toList] at hy
      rw [List.append_assoc,List.getElem?_append] at hb
      have htl:(cs.take off).length=off:=by simp; omega
      rw [htl] at hb
      by_cases h1:k < off
      ·rw [if_pos h1] at hb
       rw [if_neg (by omega)] at hy
       rw [List.getElem?_take,if_pos h1] at hb
       exact hc.2 k b y hb hy
      ·rw [if_neg h1,List.getElem?_append,hwl] at hb
       by_cases h2:k - off < size
       ·rw [if_pos h2] at hb
        rw [if_pos ⟨by omega,by omega,by rw [← hc.1]; omega⟩] at hy
        obtain ⟨z,hz,_,hzc⟩:=hcell _ b hb
        rw [Array.getElem?_toList,hz] at hy
        cases hy
        exact hzc
       ·rw [if_neg h2,List.getElem?_drop] at hb
        rw [if_neg (by omega)] at hy
        have:off + size + (k - off - size)=k:=by omega
        rw [this] at hb
        exact hc.2 k b y hb hy
     obtain ⟨xs',hx1,hx2⟩:=fill_con place ps qs _ cs' _ hp hcc h
     refine ⟨xs',?_,hx2⟩
     ·simp only [Instr.fill,hpl]
      rw [if_neg (by simp only [Bool.or_eq_true,decide_eq_true_eq,not_or]; exact ⟨by simp [hsz],by rw [hsz,← hc.1]; omega⟩),hfold]
      exact hx1
    ·cases h
theorem ofVal_con (E : Env) (z : Value) : Con E (ofVal z) z := by
  cases z <;> first
    | exact .v _
    | (refine .agg _ _ (by simp) ?_
       intro i a x ha hx
       simp only [List.getElem?_map, Option.map_eq_some_iff, Array.getElem?_toList] at ha
       obtain ⟨y, hy, rfl⟩ := ha
       rw [hx] at hy; cases hy
       exact .v _)

theorem ofVal_cells (E : Env) (z : Value) : CellsCon E (ofVal z).cells z.cells := by
  cases z <;> first
    | (refine ⟨rfl, ?_⟩
       intro i a x ha hx
       match i with
       | 0 => simp [ofVal, AV.cells, Value.cells] at ha hx; subst ha hx; exact .v _
       | i + 1 => simp [Value.cells] at hx)
    | (refine ⟨by simp [ofVal, AV.cells, Value.cells], ?_⟩
       intro i a x ha hx
       simp only [ofVal, AV.cells, Value.cells, List.getElem?_map, Option.map_eq_some_iff, Array.getElem?_toList] at ha hx
       obtain ⟨y, hy, rfl⟩ := ha
       rw [hx] at hy; cases hy
       exact .v _)

section
variable {P : Program} {T : TEnv} {ρ : Operand → AV} {H : Nat → Option Blk} {me : Nat}
theorem looks_build (hT:TOk P T) (t:TypeId) (parts:Array (Nat × Operand)) (cs:List AV)
  (h:match (T t).k with
   | .struct fs=>fillA (fun i=>(fs[i]?).map fun f=>(f.1,(T f.2).size)) (ofVal (T t).zero).cells (parts.toList.map fun p=>(p.1,ρ p.2))=some cs∧(fs.all fun f=>(T f.2).k≠.none)=true
   | .arr _ e=>fillA (fun i=>some (i * (T e).size,(T e).size)) (ofVal (T t).zero).cells (parts.toList.map fun p=>(p.1,ρ p.2))=some cs∧(T e).k≠.none
   | _=>False):Looks P (.build t parts) ρ H (.agg cs) []:=by
 intro o ho w0 K0 D E n fr hp a w hrel hx hH
 have hparts:PartsCon E (parts.toList.map fun p=>(p.1,ρ p.2)) ((parts.map fun (p:Nat × Operand)=>(p.1,a.eval p.2)).toList):=by
  rw [Array.toList_map]
  refine partsCon_map parts.toList fun p hp=>hx p.2 ?_
  simp only [Op.operands]
  simp only [List.mem_toArray,List.mem_map]
  exact ⟨p,hp,rfl⟩
 have fin:∀ xs,P.built t (parts.map fun (p:Nat × Operand)=>(p.1,a.eval p.2)).toList=some xs→CellsCon E cs xs→∃ v,(execOp a.eval o).run P w=.ok (.value v) w∧Con E (.agg cs) v:=by
  intro xs hb hc
  refine ⟨.agg xs,?_,.agg _ _ hc.1 hc.2⟩
  have:=run_build w t (parts.map fun (p:Nat × Operand)=>(p.1,a.eval p.2)) xs hb
  simp only [execOp,ho,Sem.run_bind,this,Result.andThen_ok,Sem.run_pure]
 split at h
 ·rename_i fs hk
  obtain ⟨hf,hall⟩:=h
  obtain ⟨it,de,hit,hu,_,_,hz,_,_,hd⟩:=hT.ok t (by rw [hk]; simp)
  rw [hk] at hd; simp only [TK.is] at hd
  obtain ⟨fa,rfl,hfs,_⟩:=hd
  obtain ⟨xs,hxs,hcc⟩:=fill_con (E:=E) _ _ _ _ _ _ hparts (ofVal_cells E (T t).zero) hf
  refine fin xs ?_ hcc
  have hpl:fa.toList.mapM (fun f=>(P.info? f.type).map fun i=>(f.offset,i.size))=some (fs.map fun f=>(f.1,(T f.2).size)):=by
   rw [← hfs] at hall ⊢
   clear hf hfs hu hk
   generalize fa.toList=l0 at hall ⊢
   induction l0 with
   | nil=>rfl
   | cons f l ih=>
    rw [List.map_cons,List.all_cons,Bool.and_eq_true] at hall
    obtain ⟨i,d,hi,_,hs,_⟩:=hT.ok f.type (of_decide_eq_true hall.1)
    simp only [List.mapM_cons,hi,Option.map_some,Option.bind_eq_bind,Option.bind_some,Option.pure_def,ih hall.2,List.map_cons,hs]
  simp only [Program.built,hit,hu,hz,hpl]
  rw [← hxs]
  congr 1
  funext i
  simp
 ·rename_i m e hk
  obtain ⟨hf,hn⟩:=h
  obtain ⟨it,de,hit,hu,_,_,hz,_,_,hd⟩:=hT.ok t (by rw [hk]; simp)
  rw [hk] at hd; simp only [TK.is] at hd; subst hd
  obtain ⟨ie,_,hie,_,hs,_⟩:=hT.ok e hn
  obtain ⟨xs,hxs,hcc⟩:=fill_con (E:=E) _ _ _ _ _ _ hparts (ofVal_cells E (T t).zero) hf
  refine fin xs ?_ hcc
  simp only [Program.built,hit,hu,hz,hie,hs]
  exact hxs
 ·exact h.elim
end
end Go.Vai

/- The operations that make blocks, or write them. -/
namespace Go.Vai
open Go.RowKit
theorem els_one {E:Env} {a:AV} {v:Value} {n:Nat} (h:Con E a v) (hw:a.wr n=true):Els E v.cells n [a]:=by
 obtain ⟨_,_,hc⟩:=h.cells hw
 have hwl:a.cells.length=n:=by simp only [AV.wr,Bool.and_eq_true,beq_iff_eq] at hw; exact hw.1
 intro i b hb
 match i with
 | 0=>
  simp at hb; subst hb
  refine ⟨hwl,fun j x hj=>?_⟩
  obtain ⟨y,h1,h2,h3⟩:=hc j x hj
  exact ⟨y,by simpa using h1,h2,h3⟩
 | i + 1=>simp at hb
theorem els_ofVal (E:Env) {z:Value} {n:Nat} (hs:z.cells.size=n) (h1:∀ u∈z.cells.toList,u.oneCell'=true) :
  (ofVal z).cells.length=n∧∀ (j:Nat) (x:AV),(ofVal z).cells[j]? = some x→∃ y,z.cells[j]? = some y∧y.oneCell'=true∧Con E x y:=by
 obtain ⟨hl,hc⟩:=ofVal_cells E z
 refine ⟨by omega,fun j x hj=>?_⟩
 have hlt:j < z.cells.size:=by rw [← hl]; exact (List.getElem?_eq_some_iff.1 hj).1
 have hy:z.cells[j]? = some z.cells[j]:=by simp [hlt]
 exact ⟨_,hy,h1 _ (by simp),hc j x _ hj hy⟩
section
variable {P : Program} {T : TEnv} {ρ : Operand → AV} {H : Nat → Option Blk} {me : Nat}
theorem sound_new (op:Op) (t:TypeId) (sz:Nat) (el:List AV) (hsz:0 < sz) (acc:List Nat) (r:AV)
  (hr:∀ (o:Oper),o.op=op→∀ (w0:World) (K0:Nat→Option Obj) (D:Nat→Prop) (E:Env) (n:Nat) (fr:Frm) (hp:Hp) (a:Act) (w:World),
   Rel w0 K0 D E n fr hp a w→(∀ x∈op.operands,Con E (ρ x) (a.eval x))→(∀ id∈acc,hlk hp id=H id) →
   ∃ cs cap v,(execOp a.eval o).run P w=.ok (.value v) (w.alloc (.cells cs t (0,0)))∧cap≤maxLen∧cs.size=cap * sz∧el.length≤cap∧Els E cs sz el ∧
    (∀ E':Env,E'.dom me→E'.ρ me=some w.heap.size→E'.cap me=cap→Con E' r v)) :
  OpSound P op ρ H me r [(me,some ⟨false,t,sz,el⟩)] acc:=by
 intro o ho w0 K0 D E n fr hp a w hrel hx hH hme
 obtain ⟨cs,cap,v,h1,h2,h3,h4,h5,h6⟩:=hr o ho w0 K0 D E n fr hp a w hrel (fun x hxo=>by rw [← hx x hxo]; exact hrel.ev x) hH
 have hle:=Env.le_add hme (some w.heap.size) sz cap
 exact ⟨_,v,_,E.add me (some w.heap.size) sz cap,h1,.inl rfl,hle,h6 _ (.inl rfl) (if_pos rfl) (if_pos rfl),hrel.alloc hme (fun _ h=>h) cs t sz cap el hsz h2 h3 h4 (h5.mono hle)⟩
theorem sound_alloc (hT:TOk P T) (t:TypeId) (hn:(T t).k≠.none) (h0:0 < (T t).size) :
  OpSound P (.alloc t) ρ H me (.ptr me 0 0) [(me,some ⟨false,t,(T t).size,[ofVal (T t).zero]⟩)] []:=by
 refine sound_new _ t _ _ h0 _ _ fun o ho w0 K0 D E n fr hp a w hrel hx hH=>?_
 obtain ⟨i,d,hi,_,_,_,hz,hzs,hz1,_⟩:=hT.ok t hn
 refine ⟨(T t).zero.cells,1,.pointer (some ⟨w.heap.size,0,none⟩),?_,by decide,by omega,by simp,?_,?_⟩
 ·simp only [execOp,ho,Instr.alloc,Sem.run_bind,run_zero hT hn,Result.andThen_ok,newVar,newRow,run_newObj,Sem.run_pure]
  rfl
 ·intro i b hb
  match i with
  | 0=>
   simp at hb; subst hb
   obtain ⟨h1,h2⟩:=els_ofVal E hzs hz1
   exact ⟨h1,fun j x hj=>by simpa using h2 j x hj⟩
  | i + 1=>simp at hb
 ·intro E' h1 h2 h3
  have:=Con.ptr (E:=E') me 0 0 w.heap.size h1 h2
  simpa using this
theorem sound_box (t:TypeId) (x:Operand) (n0:Nat) (h0:0 < n0) (hw:(ρ x).wr n0=true) :
  OpSound P (.box t x) ρ H me (.ptr me 0 0) [(me,some ⟨false,t,n0,[ρ x]⟩)] []:=by
 refine sound_new _ t _ _ h0 _ _ fun o ho w0 K0 D E n fr hp a w hrel hx hH=>?_
 have h:=hx x (by simp [Op.operands])
 refine ⟨(a.eval x).cells,1,.pointer (some ⟨w.heap.size,0,none⟩),?_,by decide,by rw [(h.cells hw).1,Nat.one_mul],by simp,els_one h hw,?_⟩
 ·simp only [execOp,ho,Instr.box,Sem.run_bind,Result.andThen_ok,newVar,newRow,run_newObj,Sem.run_pure]
  rfl
 ·intro E' h1 h2 h3
  have:=Con.ptr (E:=E') me 0 0 w.heap.size h1 h2
  simpa using this
theorem setElems_con {E:Env} (sz:Nat):∀ (ps:List (Nat × AV)) (qs:List (Nat × Value)) (el el':List AV) (xs:Array Value),PartsCon E ps qs→Els E xs sz el→xs.size=el.length * sz→setElems sz el ps=some el' →
  ∃ xs',Instr.fill (fun i=>some (i * sz,sz)) xs qs=some xs'∧Els E xs' sz el'∧xs'.size=xs.size∧el'.length=el.length
 | [],qs,el,el',xs,hp,hE,hs,h=>by
  cases qs with
  | nil=>simp only [setElems,Option.some.injEq] at h; subst h; exact ⟨xs,rfl,hE,rfl,rfl⟩
  | cons q qs=>exact hp.elim
 | (i,x) :: ps,qs,el,el',xs,hp,hE,hs,h=>by
  cases qs with
  | nil=>exact hp.elim
  | cons q qs=>
   obtain ⟨j,v⟩:=q
   obtain ⟨rfl,hx,hp⟩:=hp
   simp only [setElems] at h
   split at h
   ·rename_i hcond
    obtain ⟨hw,hi⟩:=hcond
    obtain ⟨hsz,_,hcell⟩:=hx.cells hw
    have hwl:x.cells.length=sz:=by simp only [AV.wr,Bool.and_eq_true,beq_iff_eq] at hw; exact hw.1
    obtain ⟨f1,f2⟩:=fold_set (i * sz) v.cells.toList 0 xs
    have hfold:v.cells.zipIdx.foldl (fun cs (x:Value × Nat)=>cs.setIfInBounds (i * sz + x.2) x.1) xs=(v.cells.toList.zipIdx 0).foldl (fun cs (x:Value × Nat)=>cs.setIfInBounds (i * sz + x.2) x.1) xs:=by
     rw [← Array.foldl_toList,Array.toList_zipIdx]
    have hin:(i + 1) * sz≤el.length * sz:=Nat.mul_le_mul_right _ hi
    rw [Nat.add_mul,Nat.one_mul] at hin
    have hcc:Els E ((v.cells.toList.zipIdx 0).foldl (fun cs (x:Value × Nat)=>cs.setIfInBounds (i * sz + x.2) x.1) xs) sz (el.set i x):=by
     intro k b hb
     rw [List.getElem?_set] at hb
     by_cases hk:i=k
     ·subst hk
      rw [if_pos rfl,if_pos hi] at hb
      cases hb
      refine ⟨hwl,fun j y hj=>?_⟩
      obtain ⟨z,hz1,hz2,hz3⟩:=hcell j y hj
      have hjl:j < sz:=by rw [← hwl]; exact (List.getElem?_eq_some_iff.1 hj).1
      refine ⟨z,?_,hz2,hz3⟩
      rw [f2,if_pos ⟨by omega,by simp [hsz]; omega,by rw [hs]; omega⟩,Array.getElem?_toList]
      rw [show i * sz + j - (i * sz + 0)=j by omega]
      exact hz1
     ·rw [if_neg hk] at hb
      obtain ⟨g1,g2⟩:=hE k b hb
      refine ⟨g1,fun j y hj=>?_⟩
      obtain ⟨z,hz1,hz2,hz3⟩:=g2 j y hj
      have hjl:j < sz:=by rw [← g1]; exact (List.getElem?_eq_some_iff.1 hj).1
      refine ⟨z,?_,hz2,hz3⟩
      rw [f2,if_neg,hz1]
      intro hc
      simp only [Array.length_toList,hsz] at hc
      rcases Nat.lt_or_gt_of_ne hk with hlt | hlt
      ·have:=Nat.mul_le_mul_right sz hlt; rw [Nat.succ_mul] at this; omega
      ·have:=Nat.mul_le_mul_right sz hlt; rw [Nat.succ_mul] at this; omega
    obtain ⟨xs',hx1,hx2,hx3,hx4⟩:=setElems_con sz ps qs _ el' _ hp hcc (by rw [f1,hs]; simp) h
    refine ⟨xs',?_,hx2,by rw [hx3,f1],by rw [hx4]; simp⟩
    simp only [Instr.fill]
    rw [if_neg (by simp only [Bool.or_eq_true,decide_eq_true_eq,not_or]; exact ⟨by simp [hsz],by rw [hsz,hs]; omega⟩),hfold]
    exact hx1
   ·cases h
theorem sound_buildSlice (hT:TOk P T) (t:TypeId) (len:Nat) (parts:Array (Nat × Operand)) (e:TypeId) (el:List AV) (hk:(T t).k=.slice e) (hn:(T e).k≠.none) (h0:0 < (T e).size) (hl:len * (T e).size≤16777216)
  (hs:setElems (T e).size (List.replicate len (ofVal (T e).zero)) (parts.toList.map fun p=>(p.1,ρ p.2))=some el) :
  OpSound P (.buildSlice t len parts) ρ H me (.arr me 0 len) [(me,some ⟨false,e,(T e).size,el⟩)] []:=by
 refine sound_new _ e _ _ h0 _ _ fun o ho w0 K0 D E n fr hp a w hrel hx hH=>?_
 obtain ⟨_,de,_,hu,_,_,_,_,_,hd⟩:=hT.ok t (by rw [hk]; simp)
 rw [hk] at hd; simp only [TK.is] at hd; subst hd
 obtain ⟨i,d,hi,_,_,_,hz,hzs,hz1,_⟩:=hT.ok e hn
 have hparts:PartsCon E (parts.toList.map fun p=>(p.1,ρ p.2)) ((parts.map fun (p:Nat × Operand)=>(p.1,a.eval p.2)).toList):=by
  rw [Array.toList_map]
  refine partsCon_map parts.toList fun p hp=>hx p.2 ?_
  simp only [Op.operands,List.mem_toArray,List.mem_map]
  exact ⟨p,hp,rfl⟩
 have hinit:Els E ((Array.range (len * (T e).size)).map fun q=>(T e).zero.cells[q % (T e).zero.cells.size]!) (T e).size (List.replicate len (ofVal (T e).zero)):=by
  intro k b hb
  rw [List.getElem?_replicate] at hb
  split at hb
  ·rename_i hkl
   cases hb
   obtain ⟨g1,g2⟩:=els_ofVal E hzs hz1
   refine ⟨g1,fun j x hj=>?_⟩
   obtain ⟨y,hy1,hy2,hy3⟩:=g2 j x hj
   have hjl:j < (T e).size:=by rw [← g1]; exact (List.getElem?_eq_some_iff.1 hj).1
   refine ⟨y,?_,hy2,hy3⟩
   have hin:(k + 1) * (T e).size≤len * (T e).size:=Nat.mul_le_mul_right _ hkl
   rw [Nat.add_mul,Nat.one_mul] at hin
   have hlt:k * (T e).size + j < len * (T e).size:=by omega
   simp only [Array.getElem?_map,Array.getElem?_range,hlt,if_true,Option.map_some]
   rw [hzs,Nat.mul_comm k,Nat.mul_add_mod,Nat.mod_eq_of_lt hjl,getElem!_def,hy1]
  ·cases hb
 obtain ⟨xs,hx1,hx2,hx3,hx4⟩:=setElems_con (T e).size _ _ _ el _ hparts hinit (by simp) hs
 refine ⟨xs,len,.slice (some ⟨w.heap.size,0,none⟩) len len,?_,?_,by rw [hx3]; simp,by rw [hx4]; simp,hx2,?_⟩
 ·have hgt:¬ len * (T e).size > 2 ^ 24:=by omega
  have r0:Array.range 0=#[]:=rfl
  by_cases h00:len * (T e).size=0
  ·have hfill:Instr.fill (fun i=>some (i * (T e).size,(T e).size)) (#[]:Array Value) ((parts.map fun (p:Nat × Operand)=>(p.1,a.eval p.2)).toList)=some xs:=by
    rw [h00,r0,Array.map_empty] at hx1
    exact hx1
   simp only [execOp,ho,Instr.buildSlice,Sem.run_bind,run_underlying hu,Result.andThen_ok,run_size hT hn,h00,if_neg (show ¬ 0 > 2 ^ 24 by decide),if_true,Sem.run_pure,r0,Array.map_empty,hfill,newRow,run_newObj]
   rfl
  ·simp only [execOp,ho,Instr.buildSlice,Sem.run_bind,run_underlying hu,Result.andThen_ok,run_size hT hn,if_neg hgt,if_neg h00,run_zero hT hn,Sem.run_pure,hx1,newRow,run_newObj]
   rfl
 ·unfold maxLen
  have:len≤len * (T e).size:=Nat.le_mul_of_pos_right _ h0
  omega
 ·intro E' h1 h2 h3
  exact .arr me 0 len w.heap.size 0 len h1 h2 (.inr (by simp)) (by omega) (Nat.le_refl _)
end
end Go.Vai

/- The operations that write what the call has made: a store. -/
namespace Go.Vai
open Go.RowKit
theorem getElem?_splice (l m:List Value) (o:Nat) (ho:o + m.length≤l.length) (k:Nat) :
  (l.take o ++ m ++ l.drop (o + m.length))[k]? = if o≤k∧k < o + m.length then m[k - o]? else l[k]?:=by
 have htl:(l.take o).length=o:=by simp; omega
 rw [List.append_assoc,List.getElem?_append,htl]
 by_cases h1:k < o
 ·rw [if_pos h1,if_neg (by omega),List.getElem?_take,if_pos h1]
 ·rw [if_neg h1,List.getElem?_append]
  by_cases h2:k - o < m.length
  ·rw [if_pos h2,if_pos ⟨by omega,by omega⟩]
  ·rw [if_neg h2,if_neg (by omega),List.getElem?_drop]
   congr 1; omega
theorem getElem?_spliceA (l m:List AV) (o:Nat) (ho:o + m.length≤l.length) (k:Nat) :
  (l.take o ++ m ++ l.drop (o + m.length))[k]? = if o≤k∧k < o + m.length then m[k - o]? else l[k]?:=by
 have htl:(l.take o).length=o:=by simp; omega
 rw [List.append_assoc,List.getElem?_append,htl]
 by_cases h1:k < o
 ·rw [if_pos h1,if_neg (by omega),List.getElem?_take,if_pos h1]
 ·rw [if_neg h1,List.getElem?_append]
  by_cases h2:k - o < m.length
  ·rw [if_pos h2,if_pos ⟨by omega,by omega⟩]
  ·rw [if_neg h2,if_neg (by omega),List.getElem?_drop]
   congr 1; omega
theorem setCells_cells {x y:AV} {n off:Nat} (hw:y.wr n=true) (hf:off + n≤x.cells.length) (h0:0 < n) :
  (setCells x off y.cells).cells.length=x.cells.length∧∀ j,(setCells x off y.cells).cells[j]? = if off≤j∧j < off + n then y.cells[j - off]? else x.cells[j]?:=by
 have hwl:y.cells.length=n:=by simp only [AV.wr,Bool.and_eq_true,beq_iff_eq] at hw; exact hw.1
 have plain:x.cells=[x]→setCells x off y.cells=y.cells.headD .top →
   (setCells x off y.cells).cells.length=x.cells.length∧∀ j,(setCells x off y.cells).cells[j]? = if off≤j∧j < off + n then y.cells[j - off]? else x.cells[j]?:=by
  intro e1 e2
  rw [e1] at hf ⊢
  simp only [List.length_singleton] at hf
  have hn:n=1:=by omega
  have ho:off=0:=by omega
  subst hn ho
  obtain ⟨c,hc⟩:∃ c,y.cells=[c]:=by
   match y.cells,hwl with
   | [c],_=>exact ⟨c,rfl⟩
  have hc1:c.ok1=true:=by
   simp only [AV.wr,Bool.and_eq_true,List.all_eq_true] at hw
   exact hw.2 c (by rw [hc]; simp)
  have hcc:c.cells=[c]:=by cases c <;> first | rfl | (simp [AV.ok1] at hc1; done)
  rw [e2,hc]
  simp only [List.headD_cons,hcc]
  refine ⟨rfl,fun j=>?_⟩
  by_cases hj:j=0
  ·subst hj; simp
  ·rw [if_neg (by omega),List.getElem?_eq_none (by simp; omega),List.getElem?_eq_none (by simp; omega)]
 cases x with
 | agg xs=>
  have hf:off + n≤xs.length:=hf
  subst hwl
  show (xs.take off ++ y.cells ++ xs.drop (off + y.cells.length)).length=xs.length∧∀ j,(xs.take off ++ y.cells ++ xs.drop (off + y.cells.length))[j]? = if off≤j∧j < off + y.cells.length then y.cells[j - off]? else xs[j]?
  refine ⟨by simp only [List.length_append,List.length_take,List.length_drop]; omega,fun j=>?_⟩
  exact getElem?_spliceA xs y.cells off hf j
 | _=>exact plain rfl rfl
section
variable {P : Program} {T : TEnv} {ρ : Operand → AV} {H : Nat → Option Blk} {me : Nat}
theorem sound_store (hT:TOk P T) (t:TypeId) (x y:Operand) (id i off:Nat) (b:Blk) (hn:(T t).k≠.none) (hx0:ρ x=.ptr id i off) (hb:H id=some b) (hro:b.ro=false) (hi:i < b.el.length)
  (hf:off + (T t).size≤(b.el.getD i .top).cells.length) (hw:(ρ y).wr (T t).size=true) (hsz:(b.el.getD i .top).cells.length=b.sz) (h0:0 < (T t).size) :
  OpSound P (.store t x y) ρ H me .top [(id,some { b with el:=b.el.set i (setCells (b.el.getD i .top) off (ρ y).cells) })] [id]:=by
 intro o ho w0 K0 D E n fr hp a w hrel hx hH hme
 have h:=hrel.ev x
 rw [hx x (by simp [Op.operands]),hx0] at h
 have hy:=hrel.ev y
 rw [hx y (by simp [Op.operands])] at hy
 obtain ⟨hv1,hv2,hv3⟩:=hy.cells hw
 have hbl:hlk hp id=some b:=(hH id (by simp)).trans hb
 generalize hv:a.eval x=vx at h
 cases h with
 | ptr _ _ _ g hd hg=>
  obtain ⟨_,hs,hp0,_,hown⟩:=hrel.own id b hbl
  rcases hown with ⟨h1',_⟩ | ⟨g',cur,hg',hB,hc,hcs,hel,_,_,hE⟩
  ·rw [h1'] at hg; cases hg
  ·rw [hg'] at hg; cases hg
   have hgd:b.el[i]? = some (b.el.getD i .top):=by rw [List.getD_eq_getElem?_getD]; simp [hi]
   generalize b.el.getD i .top=x0 at hf hsz hgd ⊢
   have hin:(i + 1) * b.sz≤E.cap id * b.sz:=Nat.mul_le_mul_right _ (by omega)
   rw [Nat.add_mul,Nat.one_mul] at hin
   have hfit:i * b.sz + off + (T t).size≤cur.size:=by rw [hcs]; omega
   have hrun:=run_storeVar hT hn w g (i * b.sz + off) b.ty cur (a.eval y) hv1 hc hfit hv2
   generalize hcur:(cur.toList.take (i * b.sz + off) ++ (a.eval y).cells.toList ++ cur.toList.drop (i * b.sz + off + (a.eval y).cells.toList.length)).toArray=cur' at hrun
   have hvl:(a.eval y).cells.toList.length=(T t).size:=by simpa using hv1
   have hget:∀ k,cur'[k]? = if i * b.sz + off≤k∧k < i * b.sz + off + (T t).size then (a.eval y).cells[k - (i * b.sz + off)]? else cur[k]?:=by
    intro k
    rw [← hcur,List.getElem?_toArray,getElem?_splice _ _ _ (by rw [hvl]; simpa using hfit),hvl,Array.getElem?_toList,Array.getElem?_toList]
   have hsize:cur'.size=cur.size:=by
    rw [← hcur]; simp only [List.size_toArray,List.length_append,List.length_take,List.length_drop,hvl,Array.length_toList]; omega
   obtain ⟨hx1,hx2⟩:=setCells_cells (x:=x0) hw hf h0
   refine ⟨.skip,undef,w.setRow g cur',E,?_,.inr ⟨rfl,rfl⟩,Env.le.refl E,.top _,?_⟩
   ·simp only [execOp,ho,hv,Instr.storeAt,Instr.sureAddr,Sem.run_bind,Sem.run_pure,Result.andThen_ok,hs,hrun]
   ·refine (hrel.write hbl hro hg' hc cur' hsize _ (by simp) ?_).names fun id' hd'=>.inl (hrel.dom id' hd')
    intro k z hz
    rw [List.getElem?_set] at hz
    by_cases hk:i=k
    ·subst hk
     rw [if_pos rfl,if_pos hi] at hz
     cases hz
     refine ⟨hx1.trans hsz,fun j u hu=>?_⟩
     rw [hx2 j] at hu
     rw [hget]
     by_cases hj:off≤j∧j < off + (T t).size
     ·rw [if_pos hj] at hu
      rw [if_pos ⟨by omega,by omega⟩,show i * b.sz + j - (i * b.sz + off)=j - off by omega]
      exact hv3 _ u hu
     ·rw [if_neg hj] at hu
      rw [if_neg (by omega)]
      exact (hE i x0 hgd).2 j u hu
    ·rw [if_neg hk] at hz
     obtain ⟨g1,g2⟩:=hE k z hz
     refine ⟨g1,fun j u hu=>?_⟩
     have hjl:j < b.sz:=by rw [← g1]; exact (List.getElem?_eq_some_iff.1 hu).1
     rw [hget,if_neg]
     ·exact g2 j u hu
     ·rcases Nat.lt_or_gt_of_ne hk with hlt | hlt
      ·have:=Nat.mul_le_mul_right b.sz hlt; rw [Nat.succ_mul] at this; omega
      ·have:=Nat.mul_le_mul_right b.sz hlt; rw [Nat.succ_mul] at this; omega
end
end Go.Vai

/- Appending. -/
namespace Go.Vai
open Go.RowKit
def ElsL (E:Env) (l:List Value) (sz:Nat) (el:List AV):Prop:=
 ∀ (i:Nat) (a:AV),el[i]? = some a→a.cells.length=sz∧∀ (j:Nat) (x:AV),a.cells[j]? = some x→∃ y,l[i * sz + j]? = some y∧y.oneCell'=true∧Con E x y
theorem els_app {E:Env} {cs:Array Value} {olds news rest:List Value} {n sz:Nat} {el ys:List AV} (hcs:cs.toList=olds ++ news ++ rest) (ho:olds.length=n * sz) (hel:el.length=n)
  (h1:ElsL E olds sz el) (h2:ElsL E news sz ys):Els E cs sz (el ++ ys):=by
 intro i a ha
 rw [List.getElem?_append] at ha
 split at ha
 ·rename_i hi
  obtain ⟨g1,g2⟩:=h1 i a ha
  refine ⟨g1,fun j x hj=>?_⟩
  obtain ⟨y,hy,h'⟩:=g2 j x hj
  refine ⟨y,?_,h'⟩
  have hlt:=(List.getElem?_eq_some_iff.1 hy).1
  rw [← Array.getElem?_toList,hcs,List.append_assoc,List.getElem?_append,if_pos hlt]
  exact hy
 ·rename_i hi
  obtain ⟨g1,g2⟩:=h2 _ a ha
  refine ⟨g1,fun j x hj=>?_⟩
  obtain ⟨y,hy,h'⟩:=g2 j x hj
  refine ⟨y,?_,h'⟩
  have hlt:=(List.getElem?_eq_some_iff.1 hy).1
  have hin:n * sz≤i * sz:=Nat.mul_le_mul_right _ (by omega)
  have he:i * sz + j - olds.length=(i - n) * sz + j:=by rw [ho,Nat.sub_mul]; omega
  rw [hel] at hy hlt
  rw [← Array.getElem?_toList,hcs,List.append_assoc,List.getElem?_append,if_neg (by omega),he,List.getElem?_append,if_pos hlt]
  exact hy
section
variable {w0 : World} {K0 : Nat → Option Obj} {D : Nat → Prop} {E : Env} {n : Nat} {fr : Frm} {hp : Hp} {a : Act} {w : World}
theorem Rel.move (h:Rel w0 K0 D E n fr hp a w) {id me:Nat} {b:Blk} (hme:¬ E.dom me) {D':Nat→Prop} (hD:∀ i,D i∨i=me→D' i) (hb:hlk hp id=some b) (hro:b.ro=false) {g:Nat} {cur:Array Value} (hg:E.ρ id=some g)
  (hc:w.heap[g]? = some (.cells cur b.ty (0,0))) (cur':Array Value) (hs:cur'.size=cur.size) (el:List AV) (hl:el.length≤E.cap id) (hEl:Els E cur' b.sz el) :
  Rel w0 K0 D' (E.add me (some g) b.sz (E.cap id)) n fr ((me,some ⟨false,b.ty,b.sz,el⟩) :: (id,none) :: hp) a (w.setRow g cur'):=by
 have hown:=h.own id b hb
 have hid:id≠me:=fun e=>hme (e ▸ hown.1)
 have hKg:E.K g=none:=by
  rcases hown.2.2.2.2 with ⟨h1,_⟩ | ⟨g',cur'',h1,_,_,_,_,h6,_⟩
  ·rw [h1] at hg; cases hg
  ·rw [h1] at hg; cases hg; exact h6 hro
 have hBg:w0.heap.size≤g:=by
  rcases hown.2.2.2.2 with ⟨h1,_⟩ | ⟨g',cur'',h1,h2,_⟩
  ·rw [h1] at hg; cases hg
  ·rw [h1] at hg; cases hg; exact h2
 have hcs:cur.size=E.cap id * b.sz:=by
  rcases hown.2.2.2.2 with ⟨h1,_⟩ | ⟨g',cur'',h1,_,h3,h4,_⟩
  ·rw [h1] at hg; cases hg
  ·rw [h1] at hg; cases hg; rw [hc] at h3; cases h3; exact h4
 have hsz:(w.setRow g cur').heap.size=w.heap.size:=by simp [World.setRow]
 have hot:∀ k,k≠g→(w.setRow g cur').heap[k]? = w.heap[k]?:=fun k hk=>setRow_other w g k cur' hk
 have hle:=Env.le_add hme (some g) b.sz (E.cap id)
 have f:∀ i x,hlk ((me,some (⟨false,b.ty,b.sz,el⟩:Blk)) :: (id,none) :: hp) i=some x→(i=me∧x=⟨false,b.ty,b.sz,el⟩)∨(i≠me∧i≠id∧hlk hp i=some x):=by
  intro i x hx
  rw [hlk_cons,hlk_cons] at hx
  by_cases e:i=me
  ·rw [if_pos e] at hx; cases hx; exact .inl ⟨e,rfl⟩
  ·rw [if_neg e] at hx
   by_cases e':i=id
   ·rw [if_pos e'] at hx; cases hx
   ·rw [if_neg e'] at hx; exact .inr ⟨e,e',hx⟩
 refine { below:=?_,kw:=?_,k0:=h.k0,nd:=h.nd,size:=h.size,regs:=fun t ht=>(h.regs t ht).mono hle,dom:=?_,lw:=fun l i hl=>by rw [hsz]; exact h.lw l i hl,out:=h.out,own:=?_,inj:=?_ }
 ·exact ⟨h.below.os,h.below.tape,h.below.output,by rw [hsz]; exact h.below.size,fun k hk=>(hot k (by omega)).trans (h.below.block k hk)⟩
 ·intro k o hk
  have hne:k≠g:=fun e=>by rw [e] at hk; exact absurd hk (by rw [show (E.add me (some g) b.sz (E.cap id)).K g=E.K g from rfl,hKg]; simp)
  rw [hot k hne]; exact h.kw k o hk
 ·intro i hi
  exact hD i (hi.elim .inr fun d=>.inl (h.dom i d))
 ·intro i x hx
  rcases f i x hx with ⟨rfl,rfl⟩ | ⟨e1,e2,hx'⟩
  ·refine ⟨.inl rfl,if_pos rfl,hown.2.2.1,by simpa [Env.add] using hown.2.2.2.1,.inr ⟨g,cur',if_pos rfl,hBg,setRow_heap w g cur cur' b.ty (0,0) hc,?_,?_,fun _=>hKg,fun hr=>(by cases hr),hEl.mono hle⟩⟩
   ·rw [hs,hcs]; simp [Env.add]
   ·simpa [Env.add] using hl
  ·refine (h.own i x hx').mono hle (fun _ _=>rfl) (fun g' hg' _=>hot g' ?_) (keeps_setRow hc cur') (fun _ _ _ _ h=>h)
   intro e'
   subst e'
   exact e2 (h.inj i id x b g' hx' hb hg' hg)
 ·intro i j x y g' hx hy hg1 hg2
  rcases f i x hx with ⟨rfl,rfl⟩ | ⟨e1,e2,hx'⟩ <;> rcases f j y hy with ⟨rfl,rfl⟩ | ⟨e3,e4,hy'⟩
  ·rfl
  ·simp only [Env.add,if_true,if_neg e3] at hg1 hg2
   cases hg1
   exact absurd (h.inj j id y b _ hy' hb hg2 hg) e4
  ·simp only [Env.add,if_true,if_neg e1] at hg1 hg2
   cases hg2
   exact absurd (h.inj i id x b _ hx' hb hg1 hg) e2
  ·simp only [Env.add,if_neg e1,if_neg e3] at hg1 hg2
   exact h.inj i j x y g' hx' hy' hg1 hg2
end
section
variable {P : Program} {T : TEnv} {ρ : Operand → AV} {H : Nat → Option Blk} {me : Nat}
theorem run_append_zero (hT:TOk P T) (t ty e:TypeId) (hk:(T t).k=.slice e) (hn:(T e).k≠.none) (A B:Option Addr) (n c c':Nat) (hc:n≤c) (w:World) :
  (Builtin.append_ #[t,t] ty #[.slice A n c,.slice B 0 c']).run P w=.ok (.slice A n c) w:=by
 obtain ⟨_,de,_,hu,_,_,_,_,_,hd⟩:=hT.ok t (by rw [hk]; simp)
 rw [hk] at hd; simp only [TK.is] at hd; subst hd
 cases A <;> cases B <;> simp [Builtin.append_,run_underlying hu,run_size hT hn,Builtin.lenOf,hc,Builtin.firstCells,loadCells,loadCellsFrom,storeCells]
theorem source {e:TypeId} {w0:World} {K0:Nat→Option Obj} {D:Nat→Prop} {E:Env} {n:Nat} {fr:Frm} {hp:Hp} {a:Act} {w:World} (hrel:Rel w0 K0 D E n fr hp a w)
  {X:AV} {v:Value} (h0:0 < (T e).size) (hX:Con E X v) (hH:∀ id∈idOf X,hlk hp id=H id) {ys:List AV} (hy:asLst H X=some ys)
  (hs:srcOk T H e X) :
  ∃ A c,v=.slice A ys.length c∧(ys≠[]→∃ ad news,A=some ad∧news.length=ys.length * (T e).size∧(∀ (j:Nat) (u:Value),news[j]? = some u→w.cell? (ad.add j)=some u)∧(∀ u∈news,u.oneCell'=true)∧ElsL E news (T e).size ys):=by
 -- the cells of a list,laid out
 have lay:∀ (zs:List AV) (sz:Nat) (y:Nat→Nat→Value),0 < sz→(∀ (i:Nat) (a:AV),zs[i]? = some a→a.cells.length=sz) →
   (∀ (i:Nat) (a:AV) (j:Nat) (b:AV),zs[i]? = some a→a.cells[j]? = some b→(y i j).oneCell'=true∧Con E b (y i j)) →
   ∃ news:List Value,news.length=zs.length * sz∧(∀ (k:Nat) (u:Value),news[k]? = some u→k < zs.length * sz∧u=y (k / sz) (k % sz))∧(∀ u∈news,u.oneCell'=true)∧ElsL E news sz zs:=by
  intro zs sz y hsz hlen hcon
  have hin:∀ k,k < zs.length * sz→∃ z b,zs[k / sz]? = some z∧z.cells[k % sz]? = some b:=by
   intro k hk
   have h1:k / sz < zs.length:=Nat.div_lt_of_lt_mul (by rw [Nat.mul_comm]; exact hk)
   have h2:zs[k / sz]? = some zs[k / sz]:=by simp [h1]
   have h3:=hlen _ _ h2
   have h4:k % sz < zs[k / sz].cells.length:=by rw [h3]; exact Nat.mod_lt _ hsz
   exact ⟨_,zs[k / sz].cells[k % sz],h2,by simp [h4]⟩
  refine ⟨(List.range (zs.length * sz)).map fun k=>y (k / sz) (k % sz),by simp,?_,?_,?_⟩
  ·intro k u hk
   rw [List.getElem?_map,Option.map_eq_some_iff] at hk
   obtain ⟨q,hq,rfl⟩:=hk
   obtain ⟨hjl,hq'⟩:=List.getElem?_eq_some_iff.1 hq
   simp only [List.getElem_range] at hq'
   subst hq'
   exact ⟨by simpa using hjl,rfl⟩
  ·intro u hu
   simp only [List.mem_map,List.mem_range] at hu
   obtain ⟨k,hk,rfl⟩:=hu
   obtain ⟨z,b,h1,h2⟩:=hin k hk
   exact (hcon _ z _ b h1 h2).1
  ·intro i z hz
   refine ⟨hlen i z hz,fun j b hb=>?_⟩
   have hjl:j < sz:=by rw [← hlen i z hz]; exact (List.getElem?_eq_some_iff.1 hb).1
   have hil:i < zs.length:=(List.getElem?_eq_some_iff.1 hz).1
   have hk:i * sz + j < zs.length * sz:=by
    have:=Nat.mul_le_mul_right sz hil; rw [Nat.succ_mul] at this; omega
   refine ⟨y i j,?_,hcon i z j b hz hb⟩
   rw [List.getElem?_map,List.getElem?_range hk]
   have e1:(i * sz + j) / sz=i:=by rw [Nat.mul_comm,Nat.mul_add_div hsz,Nat.div_eq_of_lt hjl]; rfl
   have e2:(i * sz + j) % sz=j:=by rw [Nat.mul_comm,Nat.mul_add_mod,Nat.mod_eq_of_lt hjl]
   simp [e1,e2]
 cases X with
 | v x=>
  simp only [asLst] at hy
  split at hy
  ·rename_i e0
   cases e0
   cases hy
   cases hX
   exact ⟨none,0,rfl,fun h=>absurd rfl h⟩
  ·rename_i e0; cases e0
  ·rename_i e0; cases e0
  ·cases hy
 | lst sz xs=>
  simp only [asLst,Option.some.injEq] at hy
  subst hy
  simp only [srcOk] at hs
  subst hs
  cases hX with
  | lst _ _ A m c ad y hn hc hA hs' hk h1 h=>
   subst hn
   refine ⟨A,c,rfl,fun hne=>?_⟩
   obtain ⟨news,n1,n2,n3,n4⟩:=lay xs (T e).size y h0 hs' (fun i a j b e1 e2=>⟨h1 i a j b e1 e2,h i a j b e1 e2⟩)
   refine ⟨ad,news,hA hne,n1,?_,n3,n4⟩
   intro k u hk'
   obtain ⟨hlt,rfl⟩:=n2 k u hk'
   have h1':k / (T e).size < xs.length:=Nat.div_lt_of_lt_mul (by rw [Nat.mul_comm]; exact hlt)
   have h2:xs[k / (T e).size]? = some xs[k / (T e).size]:=by simp [h1']
   have h3:=hs' _ _ h2
   have h4:k % (T e).size < xs[k / (T e).size].cells.length:=by rw [h3]; exact Nat.mod_lt _ h0
   have h5:xs[k / (T e).size].cells[k % (T e).size]? = some xs[k / (T e).size].cells[k % (T e).size]:=by simp [h4]
   have:=kcell_cell hrel.kw (hk _ _ (k % (T e).size) _ h2 h5)
   rw [Nat.mul_comm,Nat.div_add_mod] at this
   exact this
 | arr id off len=>
  simp only [asLst] at hy
  simp only [srcOk] at hs
  cases hb:H id with
  | none=>rw [hb] at hy; cases hy
  | some b=>
   rw [hb] at hy hs
   simp only at hy hs
   split at hy
   ·rename_i hlen
    cases hy
    have hbl:hlk hp id=some b:=(hH id (by simp [idOf])).trans hb
    obtain ⟨hd0,hsz,hp0,_,hown⟩:=hrel.own id b hbl
    have hyl:((b.el.drop off).take len).length=len:=by simp; omega
    cases hX with
    | arr _ _ _ g o' c hd hg ho' hc hl=>
     refine ⟨_,c,by rw [hyl],fun hne=>?_⟩
     rcases hown with ⟨h1',_⟩ | ⟨g',cur,hg',hB,hcell,hcs,hel,_,_,hE⟩
     ·rw [h1'] at hg; cases hg
     ·rw [hg'] at hg; cases hg
      have hlp:0 < len:=by
       cases len with
       | zero=>simp at hne
       | succ k=>omega
      have hoo:o'=off * (T e).size:=by rw [← hs,← hsz]; exact ho'.resolve_left (by omega)
      obtain ⟨news,n1,n2,n3,n4⟩:=lay ((b.el.drop off).take len) (T e).size (fun i j=>(cur[(off + i) * b.sz + j]?).getD undef) h0
       (fun i z hz=>by
        rw [List.getElem?_take] at hz
        split at hz
        ·rw [List.getElem?_drop] at hz; rw [← hs]; exact (hE _ z hz).1
        ·cases hz)
       (fun i z j x hz hx=>by
        rw [List.getElem?_take] at hz
        split at hz
        ·rw [List.getElem?_drop] at hz
         obtain ⟨y,y1,y2,y3⟩:=(hE _ z hz).2 j x hx
         rw [y1]; exact ⟨y2,y3⟩
        ·cases hz)
      refine ⟨_,news,rfl,n1,?_,n3,n4⟩
      intro k u hk'
      obtain ⟨hlt,rfl⟩:=n2 k u hk'
      rw [hyl] at hlt
      have h1':k / (T e).size < len:=Nat.div_lt_of_lt_mul (by rw [Nat.mul_comm]; exact hlt)
      have hmod:k % (T e).size < (T e).size:=Nat.mod_lt _ h0
      have hidx:(off + k / (T e).size) * b.sz + k % (T e).size=o' + k:=by
       rw [hoo,hs,Nat.add_mul,Nat.add_assoc,Nat.mul_comm (k / (T e).size),Nat.div_add_mod]
      rw [hidx,add_plain']
      have hin:o' + k < cur.size:=by
       have h6:off + k / (T e).size < b.el.length:=by omega
       have h7:=Nat.mul_le_mul_right b.sz (show off + k / (T e).size + 1≤E.cap id by omega)
       rw [Nat.succ_mul] at h7
       rw [hcs]; omega
      simp [World.cell?,hcell,hin]
    | arr0 _ hd hg=>
     exact ⟨none,0,by simp,fun hne=>absurd (by simp) hne⟩
   ·cases hy
 | _=>simp [asLst] at hy
theorem bytes_fit {n m b:Nat} (hb:0 < b) (h:(n + m) * b≤140737488355328):n + m≤maxLen:=by
 have:n + m≤(n + m) * b:=Nat.le_mul_of_pos_right _ hb
 unfold maxLen; omega
theorem sound_append_nil (hT:TOk P T) (t e:TypeId) (s x:Operand) (ys:List AV) (hk:(T t).k=.slice e) (hn:(T e).k≠.none) (h0:0 < (T e).size) (hby:0 < (T e).bytes)
  (hs:ρ s=.v (.slice none 0 0)) (hy:asLst H (ρ x)=some ys) (hsz:srcOk T H e (ρ x))
  (hbound:ys.length * (T e).bytes≤140737488355328) :
  OpSound P (.call { callee:=.builtin .append,args:=#[s,x],argTypes:=#[t,t] }) ρ H me (.arr me 0 ys.length) [(me,some ⟨false,e,(T e).size,ys⟩)] (idOf (ρ x)):=by
 intro o ho w0 K0 D E n fr hp a w hrel hx hH hme
 have hsc:=hrel.ev s
 rw [hx s (by simp [Op.operands,Call.operands]),hs] at hsc
 have hxc:=hrel.ev x
 rw [hx x (by simp [Op.operands,Call.operands])] at hxc
 obtain ⟨A,c,hv,hsrc⟩:=source hrel h0 hxc hH hy hsz
 obtain ⟨i,de,hi,_,hisz,hiby,hz,hzs,hz1,_⟩:=hT.ok e hn
 obtain ⟨_,dt,_,hu,_,_,_,_,_,hd⟩:=hT.ok t (by rw [hk]; simp)
 rw [hk] at hd; simp only [TK.is] at hd; subst hd
 generalize hsv:a.eval s=vs at hsc
 cases hsc
 have hrun:∀ r w',(Builtin.append_ #[t,t] o.type #[.slice none 0 0,a.eval x]).run P w=.ok r w'→(execOp a.eval o).run P w=.ok (.value r) w':=by
  intro r w' hr
  simp only [execOp,ho,resolve,invoke,builtin,Sem.run_bind,Sem.run_pure,Result.andThen_ok,List.map_toArray,List.map_cons,List.map_nil,hsv,hr]
 cases hys:ys with
 | nil=>
  rw [hys] at hv
  have hz0:=run_append_zero hT t o.type e hk hn none A 0 0 c (Nat.le_refl _) w
  rw [hv] at hrun
  refine ⟨_,_,w,E.add me none (T e).size 0,hrun _ _ hz0,.inl rfl,Env.le_add hme _ _ _,.arr0 me (.inl rfl) (if_pos rfl),hrel.virt hme (fun _ h=>h) e (T e).size h0⟩
 | cons y0 yr=>
  obtain ⟨ad,news,rfl,n1,n2,n3,n4⟩:=hsrc (by rw [hys]; simp)
  rw [← hys]
  have hpos:0 < ys.length:=by rw [hys]; simp
  have hfit:=bytes_fit (n:=0) (m:=ys.length) hby (by rw [Nat.zero_add]; exact hbound)
  rw [Nat.zero_add] at hfit
  have hr:=run_append_nil (P:=P) w t o.type e i (T e).zero hu hi hz ad ys.length c news (by rw [hisz]; exact n1) n2 hpos (by unfold maxLen at hfit; omega) (by rw [hiby]; omega)
  rw [hv] at hrun
  have hle:=Env.le_add hme (some w.drew.heap.size) (T e).size (grownCap w ys.length 0 e)
  have hge:=grownCap_ge w ys.length 0 e
  have hcap:=grownCap_le_maxLen w ys.length 0 e hfit
  refine ⟨_,_,_,E.add me (some w.drew.heap.size) (T e).size (grownCap w ys.length 0 e),hrun _ _ hr,.inl rfl,hle,?_,?_⟩
  ·exact .arr me 0 _ w.heap.size 0 _ (.inl rfl) (if_pos rfl) (.inr (by simp)) (by simp [Env.add]) hge
  ·refine hrel.drew.alloc hme (fun _ h=>h) _ e (T e).size _ ys h0 hcap ?_ hge ?_
   ·simp only [Array.size_append,List.size_toArray,size_zeroCells,hzs,n1,← Nat.add_mul]
    congr 1; omega
   ·have:=els_app (E:=E.add me (some w.drew.heap.size) (T e).size (grownCap w ys.length 0 e)) (cs:=news.toArray ++ Builtin.zeroCells (T e).zero.cells (grownCap w ys.length 0 e - ys.length))
     (olds:=[]) (news:=news) (rest:=(Builtin.zeroCells (T e).zero.cells (grownCap w ys.length 0 e - ys.length)).toList) (n:=0) (sz:=(T e).size) (el:=[]) (ys:=ys) (by simp) (by simp) rfl (fun i a h=>by simp at h)
     (fun i a h=>⟨(n4 i a h).1,fun j x hj=>let ⟨y,y1,y2,y3⟩:=(n4 i a h).2 j x hj; ⟨y,y1,y2,y3.mono hle⟩⟩)
    simpa using this
theorem sound_append (hT:TOk P T) (t e:TypeId) (s x:Operand) (ys:List AV) (id m:Nat) (b:Blk) (hk:(T t).k=.slice e) (hn:(T e).k≠.none) (h0:0 < (T e).size) (hby:0 < (T e).bytes)
  (hs:ρ s=.arr id 0 m) (hb:H id=some b) (hro:b.ro=false) (hbe:b.ty=e) (hbs:b.sz=(T e).size) (hm:m≤b.el.length)
  (hy:asLst H (ρ x)=some ys) (hsz:srcOk T H e (ρ x))
  (hbound:(m + ys.length) * (T e).bytes≤140737488355328) :
  OpSound P (.call { callee:=.builtin .append,args:=#[s,x],argTypes:=#[t,t] }) ρ H me (.arr me 0 (m + ys.length)) [(me,some ⟨false,e,(T e).size,b.el.take m ++ ys⟩),(id,none)] (id :: idOf (ρ x)):=by
 intro o ho w0 K0 D E n fr hp a w hrel hx hH hme
 have hsc:=hrel.ev s
 rw [hx s (by simp [Op.operands,Call.operands]),hs] at hsc
 have hxc:=hrel.ev x
 rw [hx x (by simp [Op.operands,Call.operands])] at hxc
 obtain ⟨A,c,hv,hsrc⟩:=source hrel h0 hxc (fun i hi=>hH i (List.mem_cons_of_mem _ hi)) hy hsz
 obtain ⟨i,de,hi,_,hisz,hiby,hz,hzs,hz1,_⟩:=hT.ok e hn
 obtain ⟨_,dt,_,hu,_,_,_,_,_,hd⟩:=hT.ok t (by rw [hk]; simp)
 rw [hk] at hd; simp only [TK.is] at hd; subst hd
 have hbl:hlk hp id=some b:=(hH id (by simp)).trans hb
 have hown:=hrel.own id b hbl
 obtain ⟨hd0,hEsz,hp0,hcm,hown'⟩:=hown
 generalize hsv:a.eval s=vs at hsc
 have hrun:∀ r w',(Builtin.append_ #[t,t] o.type #[vs,a.eval x]).run P w=.ok r w'→(execOp a.eval o).run P w=.ok (.value r) w':=by
  intro r w' hr
  simp only [execOp,ho,resolve,invoke,builtin,Sem.run_bind,Sem.run_pure,Result.andThen_ok,List.map_toArray,List.map_cons,List.map_nil,hsv,hr]
 rw [hv] at hrun
 have hfit:=bytes_fit hby hbound
 have hmono:∀ {E':Env} (hle:E.le E') {l:List Value} {el:List AV},ElsL E l (T e).size el→ElsL E' l (T e).size el:=fun hle _ _ h i a hi=>
  ⟨(h i a hi).1,fun j x hj=>let ⟨y,y1,y2,y3⟩:=(h i a hi).2 j x hj; ⟨y,y1,y2,y3.mono hle⟩⟩
 cases hsc with
 | arr0 _ hd1 hg=>
  rw [List.take_zero]
  simp only [List.nil_append,Nat.zero_add]
  simp only [Nat.zero_add] at hbound hfit
  cases hys:ys with
  | nil=>
   rw [hys] at hrun
   have hz0:=run_append_zero hT t o.type e hk hn none A 0 0 c (Nat.le_refl _) w
   exact ⟨_,_,w,E.add me none (T e).size 0,hrun _ _ hz0,.inl rfl,Env.le_add hme _ _ _,.arr0 me (.inl rfl) (if_pos rfl),(hrel.kill id).virt hme (fun _ h=>h) e (T e).size h0⟩
  | cons y0 yr=>
   obtain ⟨ad,news,rfl,n1,n2,n3,n4⟩:=hsrc (by rw [hys]; simp)
   rw [← hys]
   have hpos:0 < ys.length:=by rw [hys]; simp
   have hr:=run_append_nil (P:=P) w t o.type e i (T e).zero hu hi hz ad ys.length c news (by rw [hisz]; exact n1) n2 hpos (by unfold maxLen at hfit; omega) (by rw [hiby]; omega)
   have hle:=Env.le_add hme (some w.drew.heap.size) (T e).size (grownCap w ys.length 0 e)
   have hge:=grownCap_ge w ys.length 0 e
   have hcap:=grownCap_le_maxLen w ys.length 0 e hfit
   refine ⟨_,_,_,E.add me (some w.drew.heap.size) (T e).size (grownCap w ys.length 0 e),hrun _ _ hr,.inl rfl,hle,?_,?_⟩
   ·exact .arr me 0 _ w.heap.size 0 _ (.inl rfl) (if_pos rfl) (.inr (by simp)) (by simp [Env.add]) hge
   ·refine (hrel.kill id).drew.alloc hme (fun _ h=>h) _ e (T e).size _ ys h0 hcap ?_ hge ?_
    ·simp only [Array.size_append,List.size_toArray,size_zeroCells,hzs,n1,← Nat.add_mul]
     congr 1; omega
    ·have:=els_app (E:=E.add me (some w.drew.heap.size) (T e).size (grownCap w ys.length 0 e)) (cs:=news.toArray ++ Builtin.zeroCells (T e).zero.cells (grownCap w ys.length 0 e - ys.length))
      (olds:=[]) (news:=news) (rest:=(Builtin.zeroCells (T e).zero.cells (grownCap w ys.length 0 e - ys.length)).toList) (n:=0) (sz:=(T e).size) (el:=[]) (ys:=ys) (by simp) (by simp) rfl (fun i a h=>by simp at h)
      (hmono hle n4)
     simpa using this
 | arr _ _ _ g o' c0 hd1 hg ho' hc0 hl0=>
  rcases hown' with ⟨h1',_⟩ | ⟨g',cur,hg',hB,hcell,hcs,hel,_,_,hE⟩
  ·rw [h1'] at hg; cases hg
  ·rw [hg'] at hg; cases hg
   subst hbe
   have htake:∀ l:List Value,(∀ k,k < m * (T b.ty).size→l[k]? = cur[k]?)→ElsL E l (T b.ty).size (b.el.take m):=by
    intro l hl i z hz
    rw [List.getElem?_take] at hz
    split at hz
    ·rename_i him
     obtain ⟨g1,g2⟩:=hE i z hz
     refine ⟨g1.trans hbs,fun j x hj=>?_⟩
     obtain ⟨y,y1,y2⟩:=g2 j x hj
     have hjl:j < (T b.ty).size:=by rw [← hbs,← g1]; exact (List.getElem?_eq_some_iff.1 hj).1
     have h7:=Nat.mul_le_mul_right (T b.ty).size him
     rw [Nat.succ_mul] at h7
     refine ⟨y,?_,y2⟩
     rw [hl _ (by omega),← hbs]; exact y1
    ·cases hz
   have hmc:m * (T b.ty).size≤cur.size:=by
    rw [hcs,hbs]; exact Nat.mul_le_mul_right _ (by omega)
   by_cases hroom:m + ys.length≤c0
   ·-- there is room
    by_cases hne:ys=[]
    ·subst hne
     have hz0:=run_append_zero hT t o.type b.ty hk hn (some ⟨g,o',none⟩) A m c0 c hl0 w
     refine ⟨_,_,_,E.add me (some g) b.sz (E.cap id),hrun _ _ hz0,.inl rfl,Env.le_add hme _ _ _,?_,?_⟩
     ·exact .arr me 0 _ g o' c0 (.inl rfl) (if_pos rfl) (by simpa [Env.add] using ho') (by simpa [Env.add] using hc0) (by simpa using hl0)
     ·have hw:=setRow_self w g cur b.ty (0,0) hcell
      have:=hrel.move hme (fun _ h=>h) hbl hro hg' hcell cur rfl (b.el.take m ++ []) (by simp; omega) (by
       intro i z hz
       simp only [List.append_nil] at hz
       rw [List.getElem?_take] at hz
       split at hz
       ·exact hE i z hz
       ·cases hz)
      rw [hw] at this
      rw [← hbs]
      exact this
    ·obtain ⟨ad,news,rfl,n1,n2,n3,n4⟩:=hsrc hne
     have hpos:0 < ys.length:=List.length_pos_iff.2 hne
     have hoo:o'=0:=by have:=ho'.resolve_left (by omega); omega
     subst hoo
     have hnl:news.length=ys.length * i.size:=by rw [hisz]; exact n1
     have hfitc:m * i.size + news.length≤cur.size:=by
      rw [hnl,← Nat.add_mul,hcs,hisz,hbs]; exact Nat.mul_le_mul_right _ (by omega)
     have hr:=run_append_room (P:=P) w t o.type b.ty i hu hi g m c0 cur hcell ad ys.length c news hnl n2 n3 hroom hfitc
     have hle:=Env.le_add hme (some g) b.sz (E.cap id)
     refine ⟨_,_,_,E.add me (some g) b.sz (E.cap id),hrun _ _ hr,.inl rfl,hle,?_,?_⟩
     ·exact .arr me 0 _ g 0 c0 (.inl rfl) (if_pos rfl) (.inr (by simp)) (by simpa [Env.add] using hc0) hroom
     ·have hsz':(cur.toList.take (m * i.size) ++ news ++ cur.toList.drop (m * i.size + news.length)).toArray.size=cur.size:=by
       simp only [List.size_toArray,List.length_append,List.length_take,List.length_drop,Array.length_toList]; omega
      have:=hrel.move hme (fun _ h=>h) hbl hro hg' hcell _ hsz' (b.el.take m ++ ys) (by simp; omega) (by
       rw [hbs]
       refine els_app (olds:=cur.toList.take (m * i.size)) (news:=news) (rest:=cur.toList.drop (m * i.size + news.length)) (n:=m) (by simp) (by simp [hisz]; omega) (by simp; omega) (htake _ ?_) n4
       intro k hk'
       rw [List.getElem?_take,if_pos (by rw [hisz]; exact hk'),Array.getElem?_toList])
      rw [← hbs]
      exact this
   ·-- a new row
    have hne:ys≠[]:=by intro e0; rw [e0] at hroom; simp at hroom; omega
    obtain ⟨ad,news,rfl,n1,n2,n3,n4⟩:=hsrc hne
    have hnl:news.length=ys.length * i.size:=by rw [hisz]; exact n1
    have holds:∀ (j:Nat) (v:Value),(cur.toList.take (m * i.size))[j]? = some v→w.cell? ((⟨g,o',none⟩:Addr).add j)=some v:=by
     intro j v hj
     rw [List.getElem?_take] at hj
     split at hj
     ·rename_i hjm
      have hmp:0 < m:=by
       cases m with
       | zero=>simp at hjm
       | succ k=>omega
      have hoo:o'=0:=by have:=ho'.resolve_left (by omega); omega
      subst hoo
      rw [add_plain']
      simp only [Nat.zero_add,World.cell?,hcell]
      simpa using hj
     ·cases hj
    have hol:(cur.toList.take (m * i.size)).length=m * i.size:=by simp [hisz]; omega
    have hr:=run_append_grow (P:=P) w t o.type b.ty i (T b.ty).zero hu hi hz ⟨g,o',none⟩ m c0 _ hol holds ad ys.length c news hnl n2 (by omega) (by unfold maxLen at hfit; omega) (growslice_fits (by omega) (by rw [hiby]; exact hbound))
    have hle:=Env.le_add hme (some w.drew.heap.size) (T b.ty).size (grownCap w (m + ys.length) c0 b.ty)
    have hge:=grownCap_ge w (m + ys.length) c0 b.ty
    have hcap:=grownCap_le_maxLen w (m + ys.length) c0 b.ty hfit
    refine ⟨_,_,_,E.add me (some w.drew.heap.size) (T b.ty).size (grownCap w (m + ys.length) c0 b.ty),hrun _ _ hr,.inl rfl,hle,?_,?_⟩
    ·exact .arr me 0 _ w.heap.size 0 _ (.inl rfl) (if_pos rfl) (.inr (by simp)) (by simp [Env.add]) hge
    ·refine (hrel.kill id).drew.alloc hme (fun _ h=>h) _ b.ty (T b.ty).size _ _ h0 hcap ?_ (by simp; omega) ?_
     ·have e1:(cur.toList.take (m * i.size)).toArray.size=m * (T b.ty).size:=by rw [List.size_toArray,hol,hisz]
      have e2:news.toArray.size=ys.length * (T b.ty).size:=by rw [List.size_toArray,n1]
      rw [Array.size_append,Array.size_append,size_zeroCells,hzs,e1,e2,← Nat.add_mul,← Nat.add_mul]
      congr 1; omega
     ·refine els_app (olds:=cur.toList.take (m * i.size)) (news:=news) (n:=m) (rest:=(Builtin.zeroCells (T b.ty).zero.cells (grownCap w (m + ys.length) c0 b.ty - (m + ys.length))).toList) (by simp) (by rw [hol,hisz]) (by simp; omega) (hmono hle (htake _ ?_)) (hmono hle n4)
      intro k hk'
      rw [List.getElem?_take,if_pos (by rw [hisz]; exact hk'),Array.getElem?_toList]
end
end Go.Vai

/- Slices that are made, and cells that are copied. -/
namespace Go.Vai
open Go.RowKit
theorem Rel.same {w0:World} {K0:Nat→Option Obj} {D:Nat→Prop} {E:Env} {n:Nat} {fr:Frm} {hp hp':Hp} {a:Act} {w:World} (h:Rel w0 K0 D E n fr hp a w) (hh:∀ id,hlk hp' id=hlk hp id):Rel w0 K0 D E n fr hp' a w where
 below:=h.below
 kw:=h.kw
 k0:=h.k0
 nd:=h.nd
 size:=h.size
 regs:=h.regs
 dom:=h.dom
 lw:=h.lw
 out:=h.out
 own:=fun id b hb=>h.own id b (by rw [← hh]; exact hb)
 inj:=fun id id' b b' g h1 h2=>h.inj id id' b b' g (by rw [← hh]; exact h1) (by rw [← hh]; exact h2)
section
variable {P : Program} {T : TEnv} {ρ : Operand → AV} {H : Nat → Option Blk} {me : Nat}
theorem sound_makeSlice (hT:TOk P T) (t:TypeId) (x y:Operand) (e:TypeId) (k k':IntKind) (l:Int) (hk:(T t).k=.slice e) (hn:(T e).k≠.none) (h0:0 < (T e).size)
  (hx:ρ x=.v (.int k l)) (hy:ρ y=.v (.int k' l)) (hl:0≤l) (hs:l.toNat * (T e).size≤16777216) (hb:l.toNat * (T e).bytes≤140737488355328) :
  OpSound P (.makeSlice t x y) ρ H me (.arr me 0 l.toNat) [(me,some ⟨false,e,(T e).size,List.replicate l.toNat (ofVal (T e).zero)⟩)] []:=by
 refine sound_new _ e _ _ h0 _ _ fun o ho w0 K0 D E n fr hp a w hrel hop hH=>?_
 have c1:=hop x (by simp [Op.operands])
 have c2:=hop y (by simp [Op.operands])
 rw [hx] at c1
 rw [hy] at c2
 generalize hv:a.eval x=vx at c1
 generalize hv':a.eval y=vy at c2
 cases c1
 cases c2
 obtain ⟨i,de,hi,_,hisz,hiby,hz,hzs,hz1,_⟩:=hT.ok e hn
 obtain ⟨_,dt,_,hu,_,_,_,_,_,hd⟩:=hT.ok t (by rw [hk]; simp)
 rw [hk] at hd; simp only [TK.is] at hd; subst hd
 have hlt:l.toNat≤16777216:=Nat.le_trans (Nat.le_mul_of_pos_right _ h0) hs
 have hb':(i.bytes:Int) * l≤281474976710656:=by
  rw [hiby,Int.mul_comm]
  have:(((l.toNat * (T e).bytes:Nat)):Int)≤140737488355328:=Int.ofNat_le.2 hb
  rw [Int.natCast_mul,Int.toNat_of_nonneg hl] at this
  omega
 have hr:=run_makeSlice (P:=P) (w:=w) t e i (T e).zero hu hi hz k k' l l hl (Int.le_refl _) (by rw [hisz]; exact hs) hb' (by omega)
 refine ⟨madeCells (T e).zero.cells (l.toNat * i.size),l.toNat,.slice (some ⟨w.heap.size,0,none⟩) l.toNat l.toNat,?_,by unfold maxLen; omega,by rw [size_madeCells,hisz],by simp,?_,?_⟩
 ·simp only [execOp,ho,hv,hv',Sem.run_bind,hr,Result.andThen_ok,Sem.run_pure]
 ·intro q b hq
  rw [List.getElem?_replicate] at hq
  split at hq
  ·rename_i hkl
   cases hq
   obtain ⟨g1,g2⟩:=els_ofVal E hzs hz1
   refine ⟨g1,fun j u hj=>?_⟩
   obtain ⟨z,hy1,hy2,hy3⟩:=g2 j u hj
   have hjl:j < (T e).size:=by rw [← g1]; exact (List.getElem?_eq_some_iff.1 hj).1
   refine ⟨z,?_,hy2,hy3⟩
   have hin:(q + 1) * (T e).size≤l.toNat * (T e).size:=Nat.mul_le_mul_right _ hkl
   rw [Nat.add_mul,Nat.one_mul] at hin
   have hlt':q * (T e).size + j < l.toNat * (T e).size:=by omega
   simp only [madeCells,hisz,Array.getElem?_map,Array.getElem?_range,hlt',if_true,Option.map_some]
   rw [hzs,Nat.mul_comm q,Nat.mul_add_mod,Nat.mod_eq_of_lt hjl,getElem!_def,hy1]
  ·cases hq
 ·intro E' h1 h2 h3
  exact .arr me 0 _ w.heap.size 0 l.toNat h1 h2 (.inr (by simp)) (by omega) (Nat.le_refl _)
theorem sound_copy (hT:TOk P T) (t t' e:TypeId) (s x:Operand) (ys:List AV) (id off m:Nat) (b:Blk) (hk:(T t).k=.slice e) (hn:(T e).k≠.none) (h0:0 < (T e).size)
  (hs:ρ s=.arr id off m) (hb:H id=some b) (hro:b.ro=false) (hbs:b.sz=(T e).size) (hm:off + m≤b.el.length)
  (hy:asLst H (ρ x)=some ys) (hsz:srcOk T H e (ρ x)) :
  OpSound P (.call { callee:=.builtin .copy,args:=#[s,x],argTypes:=#[t,t'] }) ρ H me (.v (.int .i64 (ys.take m).length))
   [(id,some { b with el:=b.el.take off ++ ys.take m ++ b.el.drop (off + (ys.take m).length) })] (id :: idOf (ρ x)):=by
 intro o ho w0 K0 D E n fr hp a w hrel hx hH hme
 have hsc:=hrel.ev s
 rw [hx s (by simp [Op.operands,Call.operands]),hs] at hsc
 have hxc:=hrel.ev x
 rw [hx x (by simp [Op.operands,Call.operands])] at hxc
 obtain ⟨A,c,hv,hsrc⟩:=source hrel h0 hxc (fun i hi=>hH i (List.mem_cons_of_mem _ hi)) hy hsz
 obtain ⟨i,de,hi,_,hisz,hiby,hz,hzs,hz1,_⟩:=hT.ok e hn
 obtain ⟨_,dt,_,hu,_,_,_,_,_,hd⟩:=hT.ok t (by rw [hk]; simp)
 rw [hk] at hd; simp only [TK.is] at hd; subst hd
 have hbl:hlk hp id=some b:=(hH id (by simp)).trans hb
 obtain ⟨hd0,hEsz,hp0,hcm,hown'⟩:=hrel.own id b hbl
 generalize hsv:a.eval s=vs at hsc
 have hrun:∀ r w',(Builtin.copy_ #[t,t'] o.type #[vs,a.eval x]).run P w=.ok r w'→(execOp a.eval o).run P w=.ok (.value r) w':=by
  intro r w' hr
  simp only [execOp,ho,resolve,invoke,builtin,Sem.run_bind,Sem.run_pure,Result.andThen_ok,List.map_toArray,List.map_cons,List.map_nil,hsv,hr]
 rw [hv] at hrun
 have hmin:(ys.take m).length=Nat.min ys.length m:=by rw [List.length_take,Nat.min_comm]
 have ⟨B,cB,hvs⟩:∃ B cB,vs=.slice B m cB:=by cases hsc <;> exact ⟨_,_,rfl⟩
 by_cases hne:ys.take m=[]
 ·have hz0:Nat.min ys.length m=0:=by rw [← hmin,hne]; rfl
  refine ⟨_,.int .i64 0,w,E,hrun _ _ ?_,.inl rfl,Env.le.refl E,?_,?_⟩
  ·subst hvs
   cases A <;> cases B <;> simp [Builtin.copy_,run_underlying hu,run_size hT hn,Builtin.lenOf,hz0,Builtin.firstCells,loadCells,loadCellsFrom,storeCells,goInt]
  ·rw [hne]; exact .v _
  ·rw [hne]
   refine (hrel.names fun id' hd'=>.inl (hrel.dom id' hd')).same fun id'=>?_
   simp only [List.append_nil,List.length_nil,Nat.add_zero,List.take_append_drop,List.cons_append,List.nil_append]
   rw [hlk_cons]
   split
   ·rename_i e0; rw [e0,hbl]
   ·rfl
 ·have hmp:0 < m:=by
   cases m with
   | zero=>simp at hne
   | succ q=>omega
  have hyn:ys≠[]:=by intro e0; rw [e0] at hne; simp at hne
  obtain ⟨ad,news,rfl,n1,n2,n3,n4⟩:=hsrc hyn
  cases hsc with
  | arr0 _ hd1 hg=>omega
  | arr _ _ _ g o' c0 hd1 hg ho' hc0 hl0=>
   rcases hown' with ⟨h1',_⟩ | ⟨g',cur,hg',hB,hcell,hcs,hel,_,_,hE⟩
   ·rw [h1'] at hg; cases hg
   ·rw [hg'] at hg; cases hg
    have hoo:o'=off * b.sz:=by rw [← hEsz]; exact ho'.resolve_left (by omega)
    generalize hkk:Nat.min ys.length m=q at hmin
    have hq1:q≤ys.length:=by rw [← hkk]; exact Nat.min_le_left _ _
    have hq2:q≤m:=by rw [← hkk]; exact Nat.min_le_right _ _
    have hqs:q * (T e).size≤ys.length * (T e).size:=Nat.mul_le_mul_right _ hq1
    have hnl:(news.take (q * (T e).size)).length=q * (T e).size:=by rw [List.length_take,n1]; omega
    have hfc:=run_firstCells_some (P:=P) w (T e).size q ad ys.length c (news.take (q * (T e).size)) hnl (fun j v hj=>by
     rw [List.getElem?_take] at hj
     split at hj
     ·exact n2 j v hj
     ·cases hj)
    have hfit:o' + q * (T e).size≤cur.size:=by
     rw [hoo,hcs,← hbs,← Nat.add_mul]; exact Nat.mul_le_mul_right _ (by omega)
    have hst:=run_storeCells_at P g o' b.ty (news.take (q * (T e).size)) 0 cur w hcell (by rw [hnl]; simpa using hfit) (fun v hv'=>n3 v (List.mem_of_mem_take hv'))
    simp only [Nat.add_zero] at hst
    generalize hcur:(cur.toList.take o' ++ news.take (q * (T e).size) ++ cur.toList.drop (o' + (news.take (q * (T e).size)).length)).toArray=cur' at hst
    have hget:∀ j,cur'[j]? = if o'≤j∧j < o' + q * (T e).size then (news.take (q * (T e).size))[j - o']? else cur[j]?:=by
     intro j
     rw [← hcur,List.getElem?_toArray,getElem?_splice _ _ _ (by rw [hnl]; simpa using hfit),hnl,Array.getElem?_toList (xs:=cur)]
    have hsize:cur'.size=cur.size:=by
     rw [← hcur]; simp only [List.size_toArray,List.length_append,hnl,List.length_drop,Array.length_toList]; rw [List.length_take,Array.length_toList]; omega
    refine ⟨_,.int .i64 q,w.setRow g cur',E,hrun _ _ ?_,.inl rfl,Env.le.refl E,?_,?_⟩
    ·simp [Builtin.copy_,run_underlying hu,run_size hT hn,Builtin.lenOf,hkk,hfc,hst,goInt]
    ·rw [hmin]; exact .v _
    ·refine (hrel.write hbl hro hg' hcell cur' hsize _ ?_ ?_).names fun id' hd'=>.inl (hrel.dom id' hd')
     ·simp only [List.length_append,List.length_take,List.length_drop]; omega
     ·intro z u hu
      rw [getElem?_spliceA _ _ _ (by rw [hmin]; omega),hmin] at hu
      split at hu
      ·rename_i hin
       rw [List.getElem?_take] at hu
       split at hu
       ·obtain ⟨g1,g2⟩:=n4 _ u hu
        refine ⟨g1.trans hbs.symm,fun j v hj=>?_⟩
        obtain ⟨y,y1,y2,y3⟩:=g2 j v hj
        have hjl:j < (T e).size:=by rw [← g1]; exact (List.getElem?_eq_some_iff.1 hj).1
        have h7:=Nat.mul_le_mul_right (T e).size (show z - off + 1≤q by omega)
        rw [Nat.succ_mul] at h7
        have h8:z * (T e).size=(z - off) * (T e).size + off * (T e).size:=by rw [← Nat.add_mul]; congr 1; omega
        refine ⟨y,?_,y2,y3⟩
        rw [hget,hoo,hbs,if_pos (by omega),List.getElem?_take,if_pos (by omega),show z * (T e).size + j - off * (T e).size=(z - off) * (T e).size + j by omega]
        exact y1
       ·cases hu
      ·rename_i hout
       obtain ⟨g1,g2⟩:=hE z u hu
       refine ⟨g1,fun j v hj=>?_⟩
       obtain ⟨y,y1,y2,y3⟩:=g2 j v hj
       have hjl:j < b.sz:=by rw [← g1]; exact (List.getElem?_eq_some_iff.1 hj).1
       refine ⟨y,?_,y2,y3⟩
       rw [hget,if_neg,y1]
       rw [hoo,← hbs]
       intro hc
       rcases Nat.lt_or_ge z off with hlt | hge
       ·have:=Nat.mul_le_mul_right b.sz hlt; rw [Nat.succ_mul] at this; omega
       ·have:=Nat.mul_le_mul_right b.sz (show off + q≤z by omega); rw [Nat.add_mul] at this; omega
end
end Go.Vai

/- Maps that a call makes, and the greater and the lesser of two. -/
namespace Go.Vai
open Go.RowKit
def Env.withMap (E : Env) (nx l : Nat) : Env :=
  { ρ := fun i => if i = nx then none else E.ρ i, sz := fun i => if i = nx then 1 else E.sz i, cap := fun i => if i = nx then 0 else E.cap i, dom := fun i => i = nx ∨ E.dom i,
    K := E.K, lp := fun i => if i = nx then some (l, mapR) else E.lp i, lk := fun x => if x = l then some nx else E.lk x, mrk := E.mrk }

section
variable {w0 : World} {K0 : Nat → Option Obj} {D : Nat → Prop} {E : Env} {n : Nat} {fr : Frm} {hp : Hp} {a : Act} {w : World}
theorem Rel.loopIs (h:Rel w0 K0 D E n fr hp a w) {id:Nat} {b:Blk} (hb:hlk hp id=some b) (hρ:E.ρ id=none):LoopIs E w w0.heap.size id b.ty b.el:=by
 rcases (h.own id b hb).2.2.2.2 with ⟨_,_,_,h4⟩ | ⟨g,cur,h1,_⟩
 ·exact h4
 ·rw [hρ] at h1; cases h1
theorem Rel.putL (h : Rel w0 K0 D E n fr hp a w) {id l : Nat} {r : Nat → List Value → Obj} {b : Blk} (hb : hlk hp id = some b) (hρ : E.ρ id = none) (hlp : E.lp id = some (l, r)) (hB : w0.heap.size ≤ l) (o : Obj) :
    Rel w0 K0 D E n fr ((id, none) :: hp) a (w.putObj l o) := by
  obtain ⟨ws, e0, e1, e2, e3, e4⟩ := h.loopIs hb hρ l r hlp
  have hk := h.kill id
  have hot : ∀ k, k ≠ l → (w.putObj l o).heap[k]? = w.heap[k]? := fun k hk => World.putObj_heap_other hk
  refine { below := ⟨h.below.os, h.below.tape, h.below.output, by rw [World.putObj_size]; exact h.below.size, fun k hk => (hot k (by omega)).trans (h.below.block k hk)⟩,
           kw := ?_, k0 := h.k0, nd := h.nd, size := h.size, regs := h.regs, dom := h.dom, lw := fun l' i hl => by rw [World.putObj_size]; exact h.lw l' i hl, out := h.out, own := ?_, inj := hk.inj }
  · intro k o' hko
    rw [hot k (fun e => by rw [e, e4] at hko; cases hko)]
    exact h.kw k o' hko
  · intro i x hx
    have hne : i ≠ id := fun e => by rw [e, hlk_cons, if_pos rfl] at hx; cases hx
    obtain ⟨hd, hs, hp1, hm, ho⟩ := hk.own i x hx
    refine ⟨hd, hs, hp1, hm, ?_⟩
    rcases ho with ⟨h1, h2, h3, h4⟩ | ⟨g, cur, h1, h2, h3, h4, h5, h6, h7, h8⟩
    · refine .inl ⟨h1, h2, h3, fun l' r' he => ?_⟩
      obtain ⟨ws', f0, f1, f2, f3, f4⟩ := h4 l' r' he
      exact ⟨ws', f0, (hot l' (fun e => by rw [e, e3] at f3; cases f3; exact hne rfl)).trans f1, f2, f3, f4⟩
    · refine .inr ⟨g, cur, h1, h2, (hot g (fun e => by have hn := e2.nc; rw [e, e1] at h3; injection h3 with h3; rw [h3] at hn; cases hn)).trans h3, h4, h5, h6, h7, h8⟩

theorem Rel.state (h:Rel w0 K0 D E n fr hp a w) {id l:Nat} {r:Nat→List Value→Obj} {b:Blk} (hb:hlk hp id=some b) (hρ:E.ρ id=none) (hlp:E.lp id=some (l,r)) (hB:w0.heap.size≤l) (t:Nat) (el:List AV) (ws:List Value) (hws:ElsV E el ws) (hme:MapEl E id el) (ht:RecOk w0.heap.size l (r t ws)) (ro:Bool) :
  Rel w0 K0 D E n fr ((id,some { b with ty:=t,ro:=ro,el:=el }) :: hp) a (w.putObj l (r t ws)):=by
 obtain ⟨ws0,e0,e1,e2,e3,e4⟩:=h.loopIs hb hρ l r hlp
 have hp1:=h.putL hb hρ hlp hB (r t ws)
 obtain ⟨hd,hs,hp0,hm,ho⟩:=h.own id b hb
 have f:∀ i x,hlk ((id,some ({ b with ty:=t,ro:=ro,el:=el }:Blk)) :: hp) i=some x→(i=id∧x={ b with ty:=t,ro:=ro,el:=el })∨(i≠id∧hlk ((id,none) :: hp) i=some x):=by
  intro i x hx
  rw [hlk_cons] at hx
  by_cases e:i=id
  ·rw [if_pos e] at hx; cases hx; exact .inl ⟨e,rfl⟩
  ·rw [if_neg e] at hx; exact .inr ⟨e,by rw [hlk_cons,if_neg e]; exact hx⟩
 have hcap:E.cap id=0:=by
  rcases ho with ⟨_,_,h3,_⟩ | ⟨g,cur,h1,_⟩
  ·exact h3
  ·rw [hρ] at h1; cases h1
 refine { hp1 with own:=fun i x hx=>?_,inj:=fun i j x y g hx hy hg1 hg2=>?_ }
 ·rcases f i x hx with ⟨rfl,rfl⟩ | ⟨_,hx'⟩
  ·refine ⟨hd,hs,hp0,hm,.inl ⟨hρ,hme,hcap,fun l' r' he=>?_⟩⟩
   rw [hlp] at he; cases he
   exact ⟨ws,hws,World.putObj_heap_same (heap_lt e1),ht,e3,e4⟩
  ·exact hp1.own i x hx'
 ·rcases f i x hx with ⟨rfl,rfl⟩ | ⟨_,hx'⟩
  ·rw [hρ] at hg1; cases hg1
  ·rcases f j y hy with ⟨rfl,rfl⟩ | ⟨_,hy'⟩
   ·rw [hρ] at hg2; cases hg2
   ·exact hp1.inj i j x y g hx' hy' hg1 hg2
theorem withMap_le (hr:Rel w0 K0 D E n fr hp a w) {nx:Nat} (hme:¬ E.dom nx):E.le (E.withMap nx w.heap.size):=by
 have ne:∀ i,E.dom i→i≠nx:=fun i hd e=>hme (e ▸ hd)
 refine ⟨fun i d=>.inr d,fun i d=>if_neg (ne i d),fun i d=>if_neg (ne i d),fun i d=>if_neg (ne i d),fun _ _ h=>h,fun i d=>if_neg (ne i d),?_,rfl⟩
 intro l id hl
 have:=hr.lw l id hl
 show (if l=w.heap.size then _ else E.lk l)=some id
 rw [if_neg (by omega)]; exact hl
theorem withMap_rel (hr:Rel w0 K0 D E n fr hp a w) {nx:Nat} (hme:¬ E.dom nx) :
  Rel w0 K0 (fun id=>D id∨id=nx) (E.withMap nx w.heap.size) n fr ((nx,some ⟨false,0,1,[]⟩) :: hp) a (w.alloc (.map #[] 0)):=by
 have hle:=withMap_le hr hme
 have hold:∀ k,k < w.heap.size→(w.alloc (.map #[] 0)).heap[k]? = w.heap[k]?:=fun k hk=>Below.heap_alloc w _ k hk
 have hL:(w.alloc (.map #[] 0)).heap[w.heap.size]? = some (.map #[] 0):=World.alloc_heap_new w _
 have f:∀ i x,hlk ((nx,some (⟨false,0,1,[]⟩:Blk)) :: hp) i=some x→(i=nx∧x=⟨false,0,1,[]⟩)∨(i≠nx∧hlk hp i=some x):=by
  intro i x hx
  rw [hlk_cons] at hx
  by_cases e:i=nx
  ·rw [if_pos e] at hx; cases hx; exact .inl ⟨e,rfl⟩
  ·rw [if_neg e] at hx; exact .inr ⟨e,hx⟩
 refine { below:=hr.below.alloc hr.below.size _,kw:=?_,k0:=hr.k0,nd:=hr.nd,size:=hr.size,regs:=fun t ht=>(hr.regs t ht).mono hle,dom:=?_,lw:=?_,out:=hr.out,own:=?_,inj:=?_ }
 ·intro b o hb
  have:=hr.kw b o hb
  rw [hold b (heap_lt this)]; exact this
 ·intro id hd
  rcases hd with rfl | hd
  ·exact .inr rfl
  ·exact .inl (hr.dom id hd)
 ·intro l id hl
  have hl':(if l=w.heap.size then some nx else E.lk l)=some id:=hl
  simp only [World.size_alloc]
  split at hl'
  ·omega
  ·have:=hr.lw l id hl'; omega
 ·intro i x hx
  rcases f i x hx with ⟨rfl,rfl⟩ | ⟨e,hx'⟩
  ·refine ⟨.inl rfl,if_pos rfl,Nat.one_pos,?_,.inl ⟨if_pos rfl,MapEl.nil,if_pos rfl,?_⟩⟩
   ·show (if i=i then 0 else E.cap i)≤maxLen
    rw [if_pos rfl]; exact Nat.zero_le _
   ·intro l q hq
    have hq':(if i=i then some (w.heap.size,mapR) else E.lp i)=some (l,q):=hq
    rw [if_pos rfl] at hq'
    cases hq'
    refine ⟨[],ElsV.nil,hL,.inr ⟨hr.below.size,_,_,rfl⟩,if_pos rfl,?_⟩
    show E.K w.heap.size=none
    cases hk:E.K w.heap.size with
    | none=>rfl
    | some o=>have:=heap_lt (hr.kw _ _ hk); omega
  ·have hown:=hr.own i x hx'
   exact hown.mono hle (fun g hg=>rfl) (fun g hg hlt=>hold g hlt) (KeepsOthers.alloc w _) (fun l o hl _ hk=>hk)
 ·intro i j x y g hx hy hg1 hg2
  rcases f i x hx with ⟨rfl,rfl⟩ | ⟨e,hx'⟩
  ·have hg1':(if i=i then none else E.ρ i)=some g:=hg1
   rw [if_pos rfl] at hg1'; cases hg1'
  ·rcases f j y hy with ⟨rfl,rfl⟩ | ⟨e',hy'⟩
   ·have hg2':(if j=j then none else E.ρ j)=some g:=hg2
    rw [if_pos rfl] at hg2'; cases hg2'
   ·have hg1':(if i=nx then none else E.ρ i)=some g:=hg1
    have hg2':(if j=nx then none else E.ρ j)=some g:=hg2
    rw [if_neg e] at hg1'; rw [if_neg e'] at hg2'
    exact hr.inj i j x y g hx' hy' hg1' hg2'
end
section
variable {P : Program} {T : TEnv} {ρ : Operand → AV} {H : Nat → Option Blk} {me : Nat}
theorem sound_makeMap (t:TypeId):OpSound P (.makeMap t none) ρ H me (.mp me) [(me,some ⟨false,0,1,[]⟩)] []:=by
 intro o ho w0 K0 D E n fr hp a w hrel hx hH hme
 refine ⟨.value (.map (some w.heap.size)),_,_,E.withMap me w.heap.size,?_,.inl rfl,withMap_le hrel hme,.mp me _ (.inl rfl) (if_pos rfl) (if_pos rfl),withMap_rel hrel hme⟩
 simp only [execOp,ho,Instr.makeMap,Option.map_none,Sem.run_bind,run_newObj,Result.andThen_ok,Sem.run_pure]
 rfl
theorem con_tup2 {E:Env} {x y:AV} {v u:Value} (h1:Con E x v) (h2:Con E y u):Con E (.tup [x,y]) (.tuple #[v,u]):=by
 refine .tup _ _ rfl ?_
 intro j c z hc hz
 match j with
 | 0=>simp at hc hz; subst hc hz; exact h1
 | 1=>simp at hc hz; subst hc hz; exact h2
 | j + 2=>simp at hc
theorem find_spec {E:Env} {kd k:IntKind} {n:Int}:∀ (el:List AV) (l:List MapEntry) (i:Nat) (r:Option AV),el.length=l.length→(∀ (j:Nat) (x:AV) (e:MapEntry),el[j]? = some x→l[j]? = some e→Con E x (.tuple #[e.key,e.val]))→findM k n el=some r →
  (r=none→Instr.findNow (.int kd) (.int k n) l i=some none)∧∀ x,r=some x→∃ j v,Instr.findNow (.int kd) (.int k n) l i=some (some (j,v))∧Con E x v
 | [],[],i,r,_,_,h=>by
  simp only [findM,Option.some.injEq] at h
  subst h
  exact ⟨fun _=>rfl,fun x e=>by cases e⟩
 | [],_ :: _,i,r,hl,_,_=>by simp at hl
 | _ :: _,[],i,r,hl,_,_=>by simp at hl
 | y :: el,e :: l,i,r,hl,hc,h=>by
  have h0:=hc 0 y e rfl rfl
  unfold findM at h
  split at h
  ·rename_i hnil; cases hnil
  ·rename_i k' b x r' he
   cases he
   split at h
   ·rename_i hk
    subst hk
    cases h0 with
    | tup _ _ h1 h2=>
    have hkey:=h2 0 _ e.key rfl rfl
    have hval:=h2 1 x e.val rfl rfl
    have ek:e.key=.int k' b:=by generalize e.key=ek at hkey; cases hkey; rfl
    split at h
    ·rename_i hn
     subst hn
     simp only [Option.some.injEq] at h
     subst h
     refine ⟨(fun e=>by cases e),fun x' e'=>?_⟩
     cases e'
     refine ⟨i,e.val,?_,hval⟩
     simp [Instr.findNow,Instr.sameNow,ek]
    ·rename_i hn
     obtain ⟨g1,g2⟩:=find_spec (kd:=kd) el l (i + 1) r (by simpa using hl) (fun j x e hx he=>hc (j + 1) x e (by simpa using hx) (by simpa using he)) h
     have hs:Instr.findNow (.int kd) (.int k' n) (e :: l) i=Instr.findNow (.int kd) (.int k' n) l (i + 1):=by
      have hb:(n == b)=false:=by simpa using hn
      simp [Instr.findNow,Instr.sameNow,ek,hb]
     rw [hs]
     exact ⟨g1,g2⟩
   ·cases h
  ·cases h
theorem entry_con {E:Env} {el:List AV} {ws:List Value} (h:ElsV E el ws) (hm:∀ x∈el,∃ k y,x=.tup [k,y]) (j:Nat) (x:AV) (e:MapEntry) (hx:el[j]? = some x) (he:(ws.mapIdx entryOf)[j]? = some e):Con E x (.tuple #[e.key,e.val]):=by
 rw [List.getElem?_mapIdx,Option.map_eq_some_iff] at he
 obtain ⟨w,hw,rfl⟩:=he
 have hc:=h.2 j x w hx hw
 obtain ⟨k,y,rfl⟩:=hm x (List.mem_of_getElem? hx)
 cases hc with
 | tup _ xs h1 h2=>
  have hs:xs.size=2:=by simpa using h1.symm
  have:xs=#[xs.getD 0 undef,xs.getD 1 undef]:=by
   apply Array.ext
   ·simp [hs]
   ·intro i i1 i2
    have:i=0∨i=1:=by omega
    rcases this with rfl | rfl <;> simp [hs]
  show Con E _ (.tuple #[xs.getD 0 undef,xs.getD 1 undef])
  rw [← this]
  exact .tup _ xs h1 h2
theorem sound_mapUpdate (hT:TOk P T) (t kt e:TypeId) (m k x:Operand) (id:Nat) (ki:IntKind) (nn:Int) (b:Blk) (ht:(T t).k=.map kt e) (hm:ρ m=.mp id) (hk:ρ k=.v (.int ki nn)) (hb:H id=some b)
  (hkt:(T kt).k=.int ki) (hf:findM ki nn b.el=some none) :
  OpSound P (.mapUpdate t m k x) ρ H me .top [(id,some { b with el:=b.el ++ [.tup [.v (.int ki nn),ρ x]] })] [id]:=by
 intro o ho w0 K0 D E n fr hp a w hrel hx hH hme
 have hcm:=hrel.ev m
 rw [hx m (by simp [Op.operands]),hm] at hcm
 have hck:=hrel.ev k
 rw [hx k (by simp [Op.operands]),hk] at hck
 have hcx:=hrel.ev x
 rw [hx x (by simp [Op.operands])] at hcx
 generalize hvm:a.eval m=vm at hcm
 generalize hvk:a.eval k=vk at hck
 generalize hvx:a.eval x=vx at hcx
 cases hck
 cases hcm with
 | mp _ l hd hg hl=>
  have hbl:hlk hp id=some b:=(hH id (by simp)).trans hb
  obtain ⟨ws,e0,e1,e2,e3,e4⟩:=hrel.loopIs hbl hg l _ hl
  have hmel:MapEl E id b.el:=by
   rcases (hrel.own id b hbl).2.2.2.2 with ⟨_,h2,_⟩ | ⟨g,cur,h1,_⟩
   ·exact h2
   ·rw [hg] at h1; cases h1
  have hB:w0.heap.size≤l:=by
   rcases e2 with ⟨L,hL⟩ | ⟨h,_⟩
   ·cases hL
   ·exact h
  obtain ⟨_,dt,_,hu,_,_,_,_,_,hdt⟩:=hT.ok t (by rw [ht]; simp)
  rw [ht] at hdt; simp only [TK.is] at hdt; subst hdt
  obtain ⟨_,dk,_,huk,_,_,_,_,_,hdk⟩:=hT.ok kt (by rw [hkt]; simp)
  rw [hkt] at hdk; simp only [TK.is] at hdk; subst hdk
  have hes:w.heap[l]? = some (.map (ws.mapIdx entryOf).toArray ws.length):=e1
  have hfind:=(find_spec (E:=E) (kd:=ki) b.el (ws.mapIdx entryOf) 0 none (by rw [List.length_mapIdx]; exact e0.1) (entry_con e0 hmel.2) hf).1 rfl
  have hkey:MapKept.IsKey (.int ki) (.int ki nn):=by simp [MapKept.IsKey]
  have hnew:ElsV E (b.el ++ [.tup [.v (.int ki nn),ρ x]]) (ws ++ [.tuple #[.int ki nn,vx]]):=by
   refine ⟨by simp [e0.1],fun i y v hy hv=>?_⟩
   rw [List.getElem?_append] at hy hv
   rw [e0.1] at hy
   split at hy
   ·rename_i hi
    rw [if_pos hi] at hv
    exact e0.2 i y v hy hv
   ·rename_i hi
    rw [if_neg hi] at hv
    generalize i - ws.length=q at hy hv
    cases q with
    | zero=>
     simp at hy hv
     subst hy hv
     refine .tup _ _ rfl fun j c z hc hz=>?_
     match j with
     | 0=>simp at hc hz; subst hc hz; exact .v _
     | 1=>simp at hc hz; subst hc hz; exact hcx
     | j + 2=>simp at hc
    | succ q=>simp at hy
  have hobj:mapR b.ty (ws ++ [.tuple #[.int ki nn,vx]])=.map ((ws.mapIdx entryOf).toArray.push ⟨.int ki nn,vx,ws.length⟩) (ws.length + 1):=by
   unfold mapR
   rw [List.mapIdx_append]
   simp [entryOf]
  have hst:=hrel.state hbl hg hl hB b.ty _ _ hnew ⟨fun e=>(by rw [hl] at e; cases e),fun y hy=>by
   rcases List.mem_append.1 hy with q | q
   ·exact hmel.2 y q
   ·rw [List.mem_singleton] at q; exact ⟨_,_,q⟩⟩ (.inr ⟨hB,_,_,rfl⟩) b.ro
  refine ⟨.skip,undef,_,E,?_,.inr ⟨rfl,rfl⟩,Env.le.refl E,.top _,hst.names fun i hi=>.inl (hrel.dom i hi)⟩
  rw [hobj]
  simp [execOp,ho,hvm,hvk,hvx,Instr.mapUpdate,run_underlying hu,MapKept.run_getObj_map hes,MapKept.run_checkKey huk hkey,MapKept.run_findKey huk hfind,MapKept.run_setObj_map _ hes,Result.andThen]
  rfl
theorem sound_insert (hT:TOk P T) (t kt e:TypeId) (m k x:Operand) (id:Nat) (ki:IntKind) (nn:Int) (b:Blk) (ht:(T t).k=.map kt e) (hm:ρ m=.mp id) (hk:ρ k=.v (.int ki nn)) (hb:H id=some b)
  (hkt:(T kt).k=.int ki) (hf:findM ki nn b.el=some none) :
  OpSound P (.insert t m k x) ρ H me .top [(id,some { b with el:=b.el ++ [.tup [.v (.int ki nn),ρ x]] })] [id]:=by
 intro o ho w0 K0 D E n fr hp a w hrel hx hH hme
 have hcm:=hrel.ev m
 rw [hx m (by simp [Op.operands]),hm] at hcm
 have hck:=hrel.ev k
 rw [hx k (by simp [Op.operands]),hk] at hck
 have hcx:=hrel.ev x
 rw [hx x (by simp [Op.operands])] at hcx
 generalize hvm:a.eval m=vm at hcm
 generalize hvk:a.eval k=vk at hck
 generalize hvx:a.eval x=vx at hcx
 cases hck
 cases hcm with
 | mp _ l hd hg hl=>
  have hbl:hlk hp id=some b:=(hH id (by simp)).trans hb
  obtain ⟨ws,e0,e1,e2,e3,e4⟩:=hrel.loopIs hbl hg l _ hl
  have hmel:MapEl E id b.el:=by
   rcases (hrel.own id b hbl).2.2.2.2 with ⟨_,h2,_⟩ | ⟨g,cur,h1,_⟩
   ·exact h2
   ·rw [hg] at h1; cases h1
  have hB:w0.heap.size≤l:=by
   rcases e2 with ⟨L,hL⟩ | ⟨h,_⟩
   ·cases hL
   ·exact h
  obtain ⟨_,dt,_,hu,_,_,_,_,_,hdt⟩:=hT.ok t (by rw [ht]; simp)
  rw [ht] at hdt; simp only [TK.is] at hdt; subst hdt
  obtain ⟨_,dk,_,huk,_,_,_,_,_,hdk⟩:=hT.ok kt (by rw [hkt]; simp)
  rw [hkt] at hdk; simp only [TK.is] at hdk; subst hdk
  have hes:w.heap[l]? = some (.map (ws.mapIdx entryOf).toArray ws.length):=e1
  have hfind:=(find_spec (E:=E) (kd:=ki) b.el (ws.mapIdx entryOf) 0 none (by rw [List.length_mapIdx]; exact e0.1) (entry_con e0 hmel.2) hf).1 rfl
  have hkey:MapKept.IsKey (.int ki) (.int ki nn):=by simp [MapKept.IsKey]
  have hnew:ElsV E (b.el ++ [.tup [.v (.int ki nn),ρ x]]) (ws ++ [.tuple #[.int ki nn,vx]]):=by
   refine ⟨by simp [e0.1],fun i y v hy hv=>?_⟩
   rw [List.getElem?_append] at hy hv
   rw [e0.1] at hy
   split at hy
   ·rename_i hi
    rw [if_pos hi] at hv
    exact e0.2 i y v hy hv
   ·rename_i hi
    rw [if_neg hi] at hv
    generalize i - ws.length=q at hy hv
    cases q with
    | zero=>
     simp at hy hv
     subst hy hv
     refine .tup _ _ rfl fun j c z hc hz=>?_
     match j with
     | 0=>simp at hc hz; subst hc hz; exact .v _
     | 1=>simp at hc hz; subst hc hz; exact hcx
     | j + 2=>simp at hc
    | succ q=>simp at hy
  have hobj:mapR b.ty (ws ++ [.tuple #[.int ki nn,vx]])=.map ((ws.mapIdx entryOf).toArray.push ⟨.int ki nn,vx,ws.length⟩) (ws.length + 1):=by
   unfold mapR
   rw [List.mapIdx_append]
   simp [entryOf]
  have hst:=hrel.state hbl hg hl hB b.ty _ _ hnew ⟨fun e=>(by rw [hl] at e; cases e),fun y hy=>by
   rcases List.mem_append.1 hy with q | q
   ·exact hmel.2 y q
   ·rw [List.mem_singleton] at q; exact ⟨_,_,q⟩⟩ (.inr ⟨hB,_,_,rfl⟩) b.ro
  refine ⟨.skip,undef,_,E,?_,.inr ⟨rfl,rfl⟩,Env.le.refl E,.top _,hst.names fun i hi=>.inl (hrel.dom i hi)⟩
  rw [hobj]
  simp [execOp,ho,hvm,hvk,hvx,Instr.mapUpdate,run_underlying hu,MapKept.run_getObj_map hes,MapKept.run_checkKey huk hkey,MapKept.run_findKey huk hfind,MapKept.run_setObj_map _ hes,Result.andThen]
  rfl
theorem looks_lookup (hT:TOk P T) (t kt e:TypeId) (m k:Operand) (ok:Bool) (id:Nat) (ki:IntKind) (nn:Int) (b:Blk) (r:Option AV) (ht:(T t).k=.map kt e) (hm:ρ m=.mp id) (hk:ρ k=.v (.int ki nn)) (hb:H id=some b)
  (hkt:(T kt).k=.int ki) (hf:findM ki nn b.el=some r) (he:r=none→(T e).k≠.none) :
  Looks P (.lookup t m k ok) ρ H (match r with | some x=>if ok then .tup [x,.v (.bool true)] else x | none=>if ok then .tup [ofVal (T e).zero,.v (.bool false)] else ofVal (T e).zero) [id]:=by
 intro o ho w0 K0 D E n fr hp a w hrel hx hH
 have hcm:=hx m (by simp [Op.operands])
 rw [hm] at hcm
 have hck:=hx k (by simp [Op.operands])
 rw [hk] at hck
 generalize hvm:a.eval m=vm at hcm
 generalize hvk:a.eval k=vk at hck
 cases hck
 cases hcm with
 | mp _ l hd hg hl=>
  have hbl:hlk hp id=some b:=(hH id (by simp)).trans hb
  obtain ⟨ws,e0,e1,e2,e3,e4⟩:=hrel.loopIs hbl hg l _ hl
  have hmel:MapEl E id b.el:=by
   rcases (hrel.own id b hbl).2.2.2.2 with ⟨_,h2,_⟩ | ⟨g,cur,h1,_⟩
   ·exact h2
   ·rw [hg] at h1; cases h1
  obtain ⟨_,dt,_,hu,_,_,_,_,_,hdt⟩:=hT.ok t (by rw [ht]; simp)
  rw [ht] at hdt; simp only [TK.is] at hdt; subst hdt
  obtain ⟨_,dk,_,huk,_,_,_,_,_,hdk⟩:=hT.ok kt (by rw [hkt]; simp)
  rw [hkt] at hdk; simp only [TK.is] at hdk; subst hdk
  have hes:w.heap[l]? = some (.map (ws.mapIdx entryOf).toArray ws.length):=e1
  have hkey:MapKept.IsKey (.int ki) (.int ki nn):=by simp [MapKept.IsKey]
  obtain ⟨f1,f2⟩:=find_spec (E:=E) (kd:=ki) b.el (ws.mapIdx entryOf) 0 r (by rw [List.length_mapIdx]; exact e0.1) (entry_con e0 hmel.2) hf
  cases r with
  | none=>
   have hfind:=f1 rfl
   have hz:=run_zero hT (he rfl) w
   refine ⟨if ok then .tuple #[(T e).zero,.bool false] else (T e).zero,?_,?_⟩
   ·simp [execOp,ho,hvm,hvk,Instr.lookup,run_underlying hu,MapKept.run_getObj_map hes,MapKept.run_checkKey huk hkey,MapKept.run_findKey huk hfind,hz,Result.andThen]
   ·obtain ⟨i,d,_,_,_,_,_,z1,z2,_⟩:=hT.ok e (he rfl)
    have hzc:Con E (ofVal (T e).zero) (T e).zero:=ofVal_con E _
    cases ok with
    | true=>exact con_tup2 hzc (.v _)
    | false=>exact hzc
  | some x=>
   obtain ⟨j,v,hfind,hcv⟩:=f2 x rfl
   refine ⟨if ok then .tuple #[v,.bool true] else v,?_,?_⟩
   ·simp [execOp,ho,hvm,hvk,Instr.lookup,run_underlying hu,MapKept.run_getObj_map hes,MapKept.run_checkKey huk hkey,MapKept.run_findKey huk hfind,Result.andThen]
   ·cases ok with
    | true=>exact con_tup2 hcv (.v _)
    | false=>exact hcv
theorem looks_lookupF (hT:TOk P T) (t kt e:TypeId) (m k:Operand) (ok:Bool) (el:List AV) (ki:IntKind) (nn:Int) (r:Option AV) (ht:(T t).k=.map kt e) (hm:ρ m=.fm el) (hk:ρ k=.v (.int ki nn))
  (hkt:(T kt).k=.int ki) (hf:findM ki nn el=some r) (he:r=none→(T e).k≠.none) :
  Looks P (.lookup t m k ok) ρ H (match r with | some x=>if ok then .tup [x,.v (.bool true)] else x | none=>if ok then .tup [ofVal (T e).zero,.v (.bool false)] else ofVal (T e).zero) []:=by
 intro o ho w0 K0 D E n fr hp a w hrel hx hH
 have hcm:=hx m (by simp [Op.operands])
 rw [hm] at hcm
 have hck:=hx k (by simp [Op.operands])
 rw [hk] at hck
 generalize hvm:a.eval m=vm at hcm
 generalize hvk:a.eval k=vk at hck
 cases hck
 cases hcm with
 | fm _ l ws e0 e1' hmel hcon=>
  obtain ⟨_,dt,_,hu,_,_,_,_,_,hdt⟩:=hT.ok t (by rw [ht]; simp)
  rw [ht] at hdt; simp only [TK.is] at hdt; subst hdt
  obtain ⟨_,dk,_,huk,_,_,_,_,_,hdk⟩:=hT.ok kt (by rw [hkt]; simp)
  rw [hkt] at hdk; simp only [TK.is] at hdk; subst hdk
  have hes:w.heap[l]? = some (.map (ws.mapIdx entryOf).toArray ws.length):=hrel.kw _ _ e1'
  have hkey:MapKept.IsKey (.int ki) (.int ki nn):=by simp [MapKept.IsKey]
  obtain ⟨f1,f2⟩:=find_spec (E:=E) (kd:=ki) el (ws.mapIdx entryOf) 0 r (by rw [List.length_mapIdx]; exact e0) (entry_con ⟨e0,hcon⟩ hmel) hf
  cases r with
  | none=>
   have hfind:=f1 rfl
   have hz:=run_zero hT (he rfl) w
   refine ⟨if ok then .tuple #[(T e).zero,.bool false] else (T e).zero,?_,?_⟩
   ·simp [execOp,ho,hvm,hvk,Instr.lookup,run_underlying hu,MapKept.run_getObj_map hes,MapKept.run_checkKey huk hkey,MapKept.run_findKey huk hfind,hz,Result.andThen]
   ·obtain ⟨i,d,_,_,_,_,_,z1,z2,_⟩:=hT.ok e (he rfl)
    have hzc:Con E (ofVal (T e).zero) (T e).zero:=ofVal_con E _
    cases ok with
    | true=>exact con_tup2 hzc (.v _)
    | false=>exact hzc
  | some x=>
   obtain ⟨j,v,hfind,hcv⟩:=f2 x rfl
   refine ⟨if ok then .tuple #[v,.bool true] else v,?_,?_⟩
   ·simp [execOp,ho,hvm,hvk,Instr.lookup,run_underlying hu,MapKept.run_getObj_map hes,MapKept.run_checkKey huk hkey,MapKept.run_findKey huk hfind,Result.andThen]
   ·cases ok with
    | true=>exact con_tup2 hcv (.v _)
    | false=>exact hcv
theorem looks_max (x y:Operand) (ts:Array TypeId) (k k':IntKind) (a b:Int) (hx:ρ x=.v (.int k a)) (hy:ρ y=.v (.int k' b)) :
  Looks P (.call { callee:=.builtin .max,args:=#[x,y],argTypes:=ts }) ρ H (.v (.int k (if b > a then b else a))) []:=by
 intro o ho w0 K0 D E n fr hp act w hrel hc hH
 have h1:=hc x (by simp [Op.operands,Call.operands])
 have h2:=hc y (by simp [Op.operands,Call.operands])
 rw [hx] at h1
 rw [hy] at h2
 generalize hv:act.eval x=v at h1
 generalize hv':act.eval y=v' at h2
 cases h1
 cases h2
 refine ⟨_,?_,.v _⟩
 simp [execOp,ho,resolve,invoke,builtin,hv,hv',Builtin.max_,Builtin.max2]
theorem looks_min (x y:Operand) (ts:Array TypeId) (k k':IntKind) (a b:Int) (hx:ρ x=.v (.int k a)) (hy:ρ y=.v (.int k' b)) :
  Looks P (.call { callee:=.builtin .min,args:=#[x,y],argTypes:=ts }) ρ H (.v (.int k (if b < a then b else a))) []:=by
 intro o ho w0 K0 D E n fr hp act w hrel hc hH
 have h1:=hc x (by simp [Op.operands,Call.operands])
 have h2:=hc y (by simp [Op.operands,Call.operands])
 rw [hx] at h1
 rw [hy] at h2
 generalize hv:act.eval x=v at h1
 generalize hv':act.eval y=v' at h2
 cases h1
 cases h2
 refine ⟨_,?_,.v _⟩
 simp [execOp,ho,resolve,invoke,builtin,hv,hv',Builtin.min_,Builtin.min2]
theorem sound_mapO (hT:TOk P T) {op:Op} {p:Prop} {r:AV} {u:Upd} {acc:List Nat} (h:mapO T op ρ H me=some (p,r,u,acc)) (hp:p):OpSound P op ρ H me r u acc:=by
 unfold mapO at h
 split at h
 ·cases h; exact sound_makeMap _
 ·split at h
  ·rename_i kt e id ki n h1 h2 h3
   split at h
   ·rename_i b hb
    cases h
    exact sound_mapUpdate hT _ _ _ _ _ _ _ _ _ b h1 h2 h3 hb hp.1 hp.2
   ·cases h
  ·cases h
 ·split at h
  ·rename_i kt e id ki n h1 h2 h3
   split at h
   ·rename_i b hb
    cases h
    exact sound_insert hT _ _ _ _ _ _ _ _ _ b h1 h2 h3 hb hp.1 hp.2
   ·cases h
  ·cases h
 ·split at h
  ·rename_i kt e id ki n h1 h2 h3
   split at h
   ·rename_i b hb
    split at h
    ·rename_i x hf
     cases h
     exact (looks_lookup hT _ _ _ _ _ _ _ _ _ b (some x) h1 h2 h3 hb hp hf (fun e=>by cases e)).sound me
    ·rename_i hf
     cases h
     exact (looks_lookup hT _ _ _ _ _ _ _ _ _ b none h1 h2 h3 hb hp.1 hf (fun _=>hp.2)).sound me
    ·cases h
   ·cases h
  ·rename_i kt e el ki n h1 h2 h3
   split at h
   ·rename_i x hf
    cases h
    exact (looks_lookupF hT _ _ _ _ _ _ el _ _ (some x) h1 h2 h3 hp hf (fun e=>by cases e)).sound me
   ·rename_i hf
    cases h
    exact (looks_lookupF hT _ _ _ _ _ _ el _ _ none h1 h2 h3 hp.1 hf (fun _=>hp.2)).sound me
   ·cases h
  ·cases h
 ·rename_i args ts
  split at h
  ·rename_i x y ha
   split at h
   ·rename_i k a k' b h1 h2
    cases h
    have ea:args=#[x,y]:=by rw [← Array.toArray_toList (xs:=args),ha]
    subst ea
    exact (looks_max x y _ k k' a b h1 h2).sound me
   ·cases h
  ·cases h
 ·rename_i args ts
  split at h
  ·rename_i x y ha
   split at h
   ·rename_i k a k' b h1 h2
    cases h
    have ea:args=#[x,y]:=by rw [← Array.toArray_toList (xs:=args),ha]
    subst ea
    exact (looks_min x y _ k k' a b h1 h2).sound me
   ·cases h
  ·cases h
 ·cases h
end
end Go.Vai

/- Every operation of the evaluator, at one go. -/
namespace Go.Vai
open Go.RowKit
theorem aop_sound {P:Program} {T:TEnv} (hT:TOk P T) {op:Op} {ρ:Operand→AV} {H:Nat→Option Blk} {me:Nat} {K:AV→Upd→List Nat→Prop} (h:aop T op ρ H me K) :
  ∃ r upd acc,K r upd acc∧OpSound P op ρ H me r upd acc:=by
 unfold aop at h
 split at h
 ·exact ⟨_,_,_,h,(looks_move _).sound me⟩
 ·exact ⟨_,_,_,h,(looks_assign _).sound me⟩
 ·-- pick
  split at h
  ·rename_i c a b c' hc
   split at h
   ·exact ⟨_,_,_,h,(looks_pick _ _ _ true hc).sound me⟩
   ·exact ⟨_,_,_,h,(looks_pick _ _ _ false hc).sound me⟩
  ·exact h.elim
 ·exact ⟨_,_,_,h.2.2,sound_alloc hT _ h.1 h.2.1⟩
 ·exact ⟨_,_,_,h.2.2.2,sound_box _ _ _ h.2.1 h.2.2.1⟩
 ·-- build
  split at h
  ·rename_i fs hk
   split at h
   ·rename_i cs hc
    exact ⟨_,_,_,h.2,(looks_build hT _ _ cs (by rw [hk]; exact ⟨hc,h.1⟩)).sound me⟩
   ·exact h.elim
  ·rename_i m e hk
   split at h
   ·rename_i cs hc
    exact ⟨_,_,_,h.2,(looks_build hT _ _ cs (by rw [hk]; exact ⟨hc,h.1⟩)).sound me⟩
   ·exact h.elim
  ·exact h.elim
 ·-- buildSlice
  split at h
  ·rename_i e hk
   split at h
   ·rename_i el he
    exact ⟨_,_,_,h.2.2.2,sound_buildSlice hT _ _ _ e el hk h.1 h.2.1 h.2.2.1 he⟩
   ·exact h.elim
  ·exact h.elim
 ·-- load
  obtain ⟨hn,h⟩:=h
  split at h
  ·rename_i id i off hx
   split at h
   ·rename_i b hb
    exact ⟨_,_,_,h.2.2.2.2,(looks_load_ptr hT _ _ id i off b hx hb hn h.1 h.2.1 h.2.2.1 h.2.2.2.1).sound me⟩
   ·exact h.elim
  ·rename_i cs hx
   exact ⟨_,_,_,h.2.2.2,(looks_load_rptr hT _ _ cs hx hn h.1 h.2.1 h.2.2.1).sound me⟩
  ·exact h.elim
 ·-- store
  obtain ⟨hn,h⟩:=h
  split at h
  ·rename_i id i off hx
   split at h
   ·rename_i b hb
    exact ⟨_,_,_,h.2.2.2.2.2.2,sound_store hT _ _ _ id i off b hn hx hb h.1 h.2.1 h.2.2.1 h.2.2.2.1 h.2.2.2.2.1 h.2.2.2.2.2.1⟩
   ·exact h.elim
  ·exact h.elim
 ·-- nilCheck
  split at h
  ·rename_i id i off hx
   exact ⟨_,_,_,h,(looks_nilCheck_ptr _ id i off hx).sound me⟩
  ·rename_i cs hx
   exact ⟨_,_,_,h,(looks_nilCheck_rptr _ cs hx).sound me⟩
  ·rename_i f a b hx
   exact ⟨_,_,_,h,(looks_nilCheck_fn _ f a b hx).sound me⟩
  ·exact h.elim
 ·obtain ⟨r,hr,hl⟩:=looks_binOp (ρ:=ρ) (H:=H) hT _ _ _ _ _ _ h
  exact ⟨_,_,_,hr,hl.sound me⟩
 ·obtain ⟨r,hr,hl⟩:=looks_unOp (P:=P) (ρ:=ρ) (H:=H) _ _ _ _ h
  exact ⟨_,_,_,hr,hl.sound me⟩
 ·-- convert
  obtain ⟨hs,h⟩:=h
  split at h
  ·rename_i k k' m hd hx
   exact ⟨_,_,_,h,(looks_convert hT _ _ _ k k' m hs hd hx).sound me⟩
  ·exact h.elim
 ·exact ⟨_,_,_,h,(looks_makeFunc _ _ _).sound me⟩
 ·-- slice
  split at h
  ·rename_i e hk
   obtain ⟨hn,h⟩:=h
   split at h
   ·rename_i n hl
    split at h
    ·rename_i l h' m h1 h2 h3
     obtain ⟨g1,g2,g3,g4,g5,h⟩:=h
     split at h
     ·rename_i hx
      exact ⟨_,_,_,h,(looks_slice hT _ _ _ _ _ e n l h' m _ _ hk hn hl h1 h2 h3 g1 g2 g3 g4 g5 (by rw [hx]; exact rfl)).sound me⟩
     ·rename_i sz xs hx
      exact ⟨_,_,_,h.2,(looks_slice hT _ _ _ _ _ e n l h' m _ _ hk hn hl h1 h2 h3 g1 g2 g3 g4 g5 (by rw [hx]; exact ⟨h.1,rfl⟩)).sound me⟩
     ·rename_i id off len hx
      exact ⟨_,_,_,h.2,(looks_slice hT _ _ _ _ _ e n l h' m _ _ hk hn hl h1 h2 h3 g1 g2 g3 g4 g5 (by rw [hx]; exact ⟨h.1,rfl,rfl⟩)).sound me⟩
     ·exact h.elim
    ·exact h.elim
   ·exact h.elim
  ·exact h.elim
 ·-- fieldAddr
  split at h
  ·rename_i fs hk
   split at h
   ·rename_i off' ft hf
    obtain ⟨hn,h0,h⟩:=h
    split at h
    ·rename_i id i off hx
     exact ⟨_,_,_,h,(looks_fieldAddr hT _ _ _ fs off' ft _ hk hf hn h0 (by rw [hx])).sound me⟩
    ·rename_i cs hx
     exact ⟨_,_,_,h,(looks_fieldAddr hT _ _ _ fs off' ft _ hk hf hn h0 (by rw [hx])).sound me⟩
    ·exact h.elim
   ·exact h.elim
  ·exact h.elim
 ·-- field
  split at h
  ·rename_i fs hk
   split at h
   ·rename_i off' ft cs hf hx
    exact ⟨_,_,_,h.2.2.2.2,(looks_field hT _ _ _ fs off' ft cs hk hf hx h.1 h.2.1 h.2.2.1 h.2.2.2.1).sound me⟩
   ·exact h.elim
  ·exact h.elim
 ·-- indexAddr
  split at h
  ·rename_i e k i hk hi
   obtain ⟨hn,h⟩:=h
   split at h
   ·rename_i sz xs hx
    exact ⟨_,_,_,h.2.2.2,(looks_indexAddr hT _ _ _ e k i _ _ hk hi hn (by rw [hx]; exact ⟨h.1,h.2.1,h.2.2.1,rfl⟩)).sound me⟩
   ·rename_i id off len hx
    exact ⟨_,_,_,h.2.2.2,(looks_indexAddr hT _ _ _ e k i _ _ hk hi hn (by rw [hx]; exact ⟨h.1,h.2.1,h.2.2.1,rfl,rfl⟩)).sound me⟩
   ·exact h.elim
  ·rename_i m e k i hk hi
   obtain ⟨hn,h0,h1,h2,h⟩:=h
   split at h
   ·rename_i id j off hx
    exact ⟨_,_,_,h,(looks_indexAddr_arr hT _ _ _ m e k i _ hk hi hn h1 h2 (by rw [hx])).sound me⟩
   ·rename_i cs hx
    exact ⟨_,_,_,h,(looks_indexAddr_arr hT _ _ _ m e k i _ hk hi hn h1 h2 (by rw [hx])).sound me⟩
   ·exact h.elim
  ·exact h.elim
 ·-- index
  split at h
  ·rename_i m e cs k i hk hx hi
   exact ⟨_,_,_,h.2.2.2.2.2.2,(looks_index hT _ _ _ m e k i cs hk hx hi h.1 h.2.1 h.2.2.1 h.2.2.2.1 h.2.2.2.2.1 h.2.2.2.2.2.1).sound me⟩
  ·exact h.elim
 ·-- extract
  split at h
  ·rename_i vs hx
   exact ⟨_,_,_,h.2,(looks_extract _ _ vs hx h.1).sound me⟩
  ·exact h.elim
 ·-- len
  rename_i args ts
  split at h
  ·rename_i x t ha ht
   split at h
   ·rename_i e n hk hl
    have ea:args=#[x]:=by rw [← Array.toArray_toList (xs:=args),ha]
    have et:ts=#[t]:=by rw [← Array.toArray_toList (xs:=ts),ht]
    subst ea et
    exact ⟨_,_,_,h,(looks_len hT x t e n hk hl).sound me⟩
   ·exact h.elim
  ·exact h.elim
 ·-- append
  rename_i args ts
  split at h
  ·rename_i s x t t' ha ht
   obtain ⟨rfl,h⟩:=h
   split at h
   ·rename_i e ys hk hy
    obtain ⟨hn,h0,hb,hs,h⟩:=h
    have ea:args=#[s,x]:=by rw [← Array.toArray_toList (xs:=args),ha]
    have et:ts=#[t,t]:=by rw [← Array.toArray_toList (xs:=ts),ht]
    subst ea et
    split at h
    ·rename_i hx
     exact ⟨_,_,_,h.2,sound_append_nil hT t e s x ys hk hn h0 hb hx hy hs h.1⟩
    ·rename_i id m hx
     split at h
     ·rename_i b hHb
      exact ⟨_,_,_,h.2.2.2.2.2,sound_append hT t e s x ys id m b hk hn h0 hb hx hHb h.1 h.2.1 h.2.2.1 h.2.2.2.1 hy hs h.2.2.2.2.1⟩
     ·exact h.elim
    ·exact h.elim
   ·exact h.elim
  ·exact h.elim
 ·-- makeSlice
  split at h
  ·rename_i e hk
   split at h
   ·rename_i k l hx
    split at h
    ·rename_i k' l' hy
     obtain ⟨rfl,hn,h0,hl,h1,h2,h⟩:=h
     exact ⟨_,_,_,h,sound_makeSlice hT _ _ _ e k k' l hk hn h0 hx hy hl h1 h2⟩
    ·exact h.elim
   ·exact h.elim
  ·exact h.elim
 ·-- copy
  rename_i args ts
  split at h
  ·rename_i s x t t' ha ht
   split at h
   ·rename_i e hk
    split at h
    ·rename_i ys hy
     split at h
     ·rename_i id off m hx
      split at h
      ·rename_i b hHb
       obtain ⟨hn,h0,hs,hro,hbs,hm,h⟩:=h
       have ea:args=#[s,x]:=by rw [← Array.toArray_toList (xs:=args),ha]
       have et:ts=#[t,t']:=by rw [← Array.toArray_toList (xs:=ts),ht]
       subst ea et
       exact ⟨_,_,_,h,sound_copy hT t t' e s x ys id off m b hk hn h0 hx hHb hro hbs hm hy hs⟩
      ·exact h.elim
     ·exact h.elim
    ·exact h.elim
   ·exact h.elim
  ·exact h.elim
 ·split at h
  ·rename_i p r u acc hm
   exact ⟨r,u,acc,h.2,sound_mapO hT hm h.1⟩
  ·exact h.elim
end Go.Vai

/- The evaluator of whole functions, and what it says of them: definitions. -/
namespace Go.Vai
open Go.RowKit
abbrev YldF:=Nat→List AV→Hp→Nat→(AV→Hp→Nat→Prop)→Prop
structure Ctx where
 P:Program
 T:TEnv
 C:FuncId→List AV→Option AV
 rd:Option Nat
 Y:YldF
 inv:World→Env→Prop
 O:FuncId→List AV→Option (TypeId × Nat × List AV)
def FW (ro:Option Nat):Fence:={ Fence.wide with round:=ro }
theorem callsIn_FW {ro:Option Nat} {n:Nat} {P:Program} {f:FuncId} {args:Array Value} {w:World} {R:Ending→World→Prop}:CallsIn (FW ro) n P f args w R ↔ Calls P f args w R:=
 callsIn_wide (n:=n)
def Env.bare (K:Nat→Option Obj):Env:=⟨fun _=>none,fun _=>0,fun _=>0,fun _=>False,K,fun _=>none,fun _=>none,false⟩
theorem Env.bare_le (E:Env) {K:Nat→Option Obj} (h:∀ b o,K b=some o→E.K b=some o):(Env.bare K).lec E:=
 ⟨fun _ h=>h.elim,fun _ h=>h.elim,fun _ h=>h.elim,fun _ h=>h.elim,fun _ _=>kcell_mono h,fun _ _ _=>h _ _,fun _ h=>h.elim⟩
def HFree (a:AV):Prop:=∀ (E:Env) (v:Value),Con E a v→Con (Env.bare E.K) a v
def grow (w:World) (K:Nat→Option Obj) (w':World):Nat→Option Obj:=fun b=>if b < w.heap.size then K b else w'.heap[b]?
def ArgsCon (E:Env) (args:List AV) (vs:Array Value):Prop:=args.length=vs.size∧∀ (i:Nat) (a:AV) (v:Value),args[i]? = some a→vs[i]? = some v→Con E a v
def PureC (P:Program) (f:FuncId) (args:List AV) (r:AV):Prop:=
 ∀ (w:World) (K:Nat→Option Obj) (vs:Array Value),(∀ b o,K b=some o→w.heap[b]? = some o)→ArgsCon (Env.bare K) args vs →
  Calls P f vs w fun e w'=>∃ v,e=.returned v∧Below w.heap.size w w'∧Con (Env.bare (grow w K w')) r v
def OwnC (P:Program) (f:FuncId) (args:List AV) (ty:TypeId) (sz:Nat) (el:List AV):Prop:=
 ∀ (w:World) (K:Nat→Option Obj) (vs:Array Value),(∀ b o,K b=some o→w.heap[b]? = some o)→ArgsCon (Env.bare K) args vs →
  Calls P f vs w fun e w'=>∃ g cur c cap,e=.returned (.slice (some ⟨g,0,none⟩) el.length c)∧Below w.heap.size w w'∧w.heap.size≤g∧w'.heap[g]? = some (.cells cur ty (0,0)) ∧
   cur.size=cap * sz∧el.length≤c∧c≤cap∧cap≤maxLen∧0 < sz ∧
   ∀ i a,el[i]? = some a→a.cells.length=sz∧∀ j x,a.cells[j]? = some x→∃ y,cur[i * sz + j]? = some y∧y.oneCell'=true∧Con (Env.bare fun b=>if b=g then none else grow w K w' b) x y
def Enters (P:Program) (f:FuncId):Prop:=∃ fn,P.funcs[f]? = some fn∧(fn.name == "runtime.NumGoroutine")=false∧fn.body.isNone=false
abbrev CallF:=FuncId→List AV→Hp→Nat→(AV→Hp→Nat→Prop)→Prop
def RelS (w0:World) (K0:Nat→Option Obj) (E:Env) (s:St) (a:Act) (w:World):Prop:=Rel w0 K0 (fun id=>id < s.nx) E s.n s.fr s.hp a w
structure Ext (E:Env) (nx:Nat) (E':Env) (nx':Nat):Prop where
 le:E.le E'
 up:nx≤nx'
 dom:∀ id,E'.dom id→E.dom id∨(nx≤id∧id < nx')
theorem Ext.refl (E:Env) (nx:Nat):Ext E nx E nx:=⟨Env.le.refl E,Nat.le_refl _,fun _ h=>.inl h⟩
theorem Ext.trans {E1 E2 E3:Env} {n1 n2 n3:Nat} (h:Ext E1 n1 E2 n2) (k:Ext E2 n2 E3 n3):Ext E1 n1 E3 n3:=
 ⟨h.le.trans k.le,Nat.le_trans h.up k.up,fun id hd=>by
  have h1:=h.up
  have h2:=k.up
  rcases k.dom id hd with h' | h'
  ·rcases h.dom id h' with h' | h'
   ·exact .inl h'
   ·exact .inr ⟨h'.1,by omega⟩
  ·exact .inr ⟨by omega,h'.2⟩⟩
def CallSound (X:Ctx) (callF:CallF):Prop:=
 ∀ (g:FuncId) (args:List AV) (hp:Hp) (nx:Nat) (K:AV→Hp→Nat→Prop),callF g args hp nx K →
  ∀ (w0:World) (K0:Nat→Option Obj) (E:Env) (n:Nat) (fr:Frm) (a:Act) (w:World) (vs:Array Value),Rel w0 K0 (fun id=>id < nx) E n fr hp a w→ArgsCon E args vs →
   Enters X.P g∧Calls X.P g vs w fun e w'=>∃ v r hp' nx' E',e=.returned v∧K r hp' nx'∧Ext E nx E' nx'∧Con E' r v∧Rel w0 K0 (fun id=>id < nx') E' n fr hp' a w'
def putA (s:St) (dst:Option Tmp) (x:AV) (K:St→Prop):Prop:=
 match dst with
 | none=>K s
 | some d=>d < s.n∧K ⟨s.n,(d,x) :: s.fr,s.hp,s.nx⟩
def stepA (X:Ctx) (callF:CallF) (o:Oper) (me:Nat) (s:St) (K:St→Prop):Prop:=
 match o.op with
 | .call { callee:=.value f,args:=args,argTypes:=_ }=>match evo s.fr f with
  | .fn (.func g) first cap=>callF g (first ++ args.toList.map (evo s.fr) ++ cap) s.hp s.nx fun r hp nx=>putA ⟨s.n,s.fr,hp,nx⟩ o.dst r K
  | .yld id=>X.Y id (args.toList.map (evo s.fr)) s.hp s.nx fun r hp nx=>putA ⟨s.n,s.fr,hp,nx⟩ o.dst r K
  | _=>False
 | op=>aop X.T op (evo s.fr) (hlk s.hp) me fun r upd _=>putA ⟨s.n,s.fr,upd ++ s.hp,s.nx⟩ o.dst r K
def guardA (all:List Oper) (o:Oper) (s:St) (K1 K2:St→Prop):Prop:=
 match o.guard with
 | none=>K1 s
 | some (j,want)=>match (all[j]?).bind (·.dst) with
  | none=>K2 s
  | some d=>match lkp s.fr d with
   | .v (.bool b)=>d < s.n∧(b=want→K1 ⟨s.n,(d,.v (.bool want)) :: s.fr,s.hp,s.nx⟩)∧(b=!want→K2 ⟨s.n,(d,.v (.bool !want)) :: s.fr,s.hp,s.nx⟩)
   | .v (.tuple _)=>K2 s
   | _=>False
def opsT (X:Ctx) (callF:CallF) (all:List Oper):List Oper→Nat→Nat→St→(St→Prop)→Prop
 | [],_,_,s,K=>K s
 | o :: r,k,base,s,K=>guardA all o s (fun s=>stepA X callF o (base + k) s fun s'=>opsT X callF all r (k + 1) base s' K)
   (fun s=>putA s o.dst (.v undef) fun s'=>opsT X callF all r (k + 1) base s' K)
def WP (X:Ctx) (c:Code) (Q:Exit→St→Prop) (s:St):Prop:=
 ∀ (w0:World) (K0:Nat→Option Obj) (E:Env) (a:Act) (w:World),X.inv w0 E→RelS w0 K0 E s a w →
  c.wpIn (FW X.rd) 0 X.P (fun e a' w'=>∃ s' E',Q e s'∧Ext E s.nx E' s'.nx∧RelS w0 K0 E' s' a' w') a w
def thenA (K:St→Prop) (Q:Exit→St→Prop):Exit→St→Prop
 | .normal,s=>K s
 | e,s=>Q e s
def inBlockA (id:Nat) (Q:Exit→St→Prop):Exit→St→Prop
 | .exit id',s=>if id'=id then Q .normal s else Q (.exit id') s
 | e,s=>Q e s
def inScopeA (X:Ctx) (body:Code) (Q:Exit→St→Prop):Exit→St→Prop
 | .goto l,s=>match findLabel body l with
  | some rest=>WP X rest (fun e s'=>match e with | .goto _=>False | e=>Q e s') s
  | none=>Q (.goto l) s
 | e,s=>Q e s
def condA (x:AV) (K1 K2:Prop):Prop:=
 match x with
 | .v (.bool b)=>(b=true→K1)∧(b=false→K2)
 | .nb xs e=>match e with
  | true=>(xs=[]→K1)∧K2
  | false=>K1∧(xs=[]→K2)
 | _=>False
abbrev Log:=List (Nat × List Nat × List Nat)
def anc (all:List Oper):Nat→Nat→Nat→Bool
 | 0,_,_=>false
 | f + 1,j,i=>match all[j]? with
  | some o=>o.after.toList.any fun e=>Region.binds .any e && (e.on == i || anc all f e.on i)
  | none=>false
def meets (a b:List Nat):Bool:=a.any fun x=>b.contains x
def entryOk (all:List Oper) (log:Log) (k:Nat) (acc wr:List Nat):Bool:=
 log.all fun e=>!(meets wr e.2.1 || meets e.2.2 acc) || anc all all.length k e.1
def accOf (upd:Upd) (acc:List Nat):List Nat:=upd.map (·.1) ++ acc
def snapC:AV→AV
 | .v x=>.v x
 | _=>.top
def snap1 (H:Nat→Option Blk):AV→AV
 | .ptr id i off=>match H id with
  | some b=>if i < b.el.length then .rptr (((b.el.getD i .top).cells.drop off).map snapC) else .ptr id i off
  | none=>.ptr id i off
 | x=>x
def snapId:AV→List Nat
 | .ptr id _ _=>[id]
 | _=>[]
def snapIds:List AV→List Nat
 | []=>[]
 | x :: r=>snapId x ++ snapIds r
def tabS (all:List Oper) (k:Nat) (s:St) (dst:Option Tmp) (log:Log) (acc:List Nat) (K:St→Log→Prop) (alt:Prop):Option AV→Prop
 | some (.v x)=>entryOk all log k acc []=true∧putA s dst (.v x) fun s'=>K s' ((k,acc,[]) :: log)
 | _=>alt
def frzH (H:Nat→Option Blk):AV→AV × Upd
 | .arr id off len=>match H id with
  | some b=>if off + len≤b.el.length then (.lst b.sz ((b.el.drop off).take len),[(id,some { b with ro:=true })]) else (.arr id off len,[])
  | none=>(.arr id off len,[])
 | x=>(x,[])
def frzHs (H:Nat→Option Blk):List AV→List AV × Upd
 | []=>([],[])
 | x :: r=>((frzH H x).1 :: (frzHs H r).1,(frzHs H r).2 ++ (frzH H x).2)
def ownS (all:List Oper) (k me:Nat) (s:St) (dst:Option Tmp) (log:Log) (K:St→Log→Prop):Option (TypeId × Nat × List AV)→Prop
 | some (ty,sz,el)=>entryOk all log k [me] [me]=true∧putA ⟨s.n,s.fr,(me,some ⟨false,ty,sz,el⟩) :: s.hp,s.nx⟩ dst (.arr me 0 el.length) fun s'=>K s' ((k,[me],[me]) :: log)
 | none=>False
def frzS (all:List Oper) (k:Nat) (s:St) (dst:Option Tmp) (log:Log) (upd:Upd) (K:St→Log→Prop) (alt:Prop):Option AV→Prop
 | some r=>entryOk all log k (upd.map (·.1)) (upd.map (·.1))=true∧putA ⟨s.n,s.fr,upd ++ s.hp,s.nx⟩ dst r fun s'=>K s' ((k,upd.map (·.1),upd.map (·.1)) :: log)
 | none=>alt
def stepD (X:Ctx) (o:Oper) (all:List Oper) (k base:Nat) (s:St) (log:Log) (K:St→Log→Prop):Prop:=
 match o.op with
 | .call { callee:=.value f,args:=args,argTypes:=_ }=>match evo s.fr f with
  | .fn (.func g) first cap=>match X.C g (first ++ args.toList.map (evo s.fr) ++ cap) with
   | some r=>putA s o.dst r fun s'=>K s' log
   | none=>tabS all k s o.dst log (snapIds (first ++ args.toList.map (evo s.fr) ++ cap)) K
     (frzS all k s o.dst log (frzHs (hlk s.hp) (first ++ args.toList.map (evo s.fr) ++ cap)).2 K (ownS all k (base + k) s o.dst log K (X.O g (first ++ args.toList.map (evo s.fr) ++ cap))) (X.C g (frzHs (hlk s.hp) (first ++ args.toList.map (evo s.fr) ++ cap)).1))
     (X.C g ((first ++ args.toList.map (evo s.fr) ++ cap).map (snap1 (hlk s.hp))))
  | _=>False
 | op=>aop X.T op (evo s.fr) (hlk s.hp) (base + k) fun r upd acc=>
   match upd,acc with
   | [],[]=>putA s o.dst r fun s'=>K s' log
   | upd,acc=>entryOk all log k (accOf upd acc) (upd.map (·.1))=true∧putA ⟨s.n,s.fr,upd ++ s.hp,s.nx⟩ o.dst r fun s'=>K s' ((k,accOf upd acc,upd.map (·.1)) :: log)
def opsD (X:Ctx) (all:List Oper):List Oper→Nat→Nat→St→Log→(St→Prop)→Prop
 | [],_,_,s,_,K=>K s
 | o :: r,k,base,s,log,K=>guardA all o s (fun s=>stepD X o all k base s log fun s' log'=>opsD X all r (k + 1) base s' log' K)
   (fun s=>putA s o.dst (.v undef) fun s'=>opsD X all r (k + 1) base s' log K)
def dataOk (all:List Oper):Bool:=
 (List.range all.length).all fun j=>(List.range j).all fun i=>
  match all[i]?,all[j]? with
  | some x,some y=>
   let rx:=x.looksAt all.toArray
   let ry:=y.looksAt all.toArray
   (match x.dst with | some d=>!(ry.contains d || y.dst == some d) || (anc all all.length j i && y.dst != some d) | none=>true) &&
   (match y.dst with | some d=>!(rx.contains d) || anc all all.length j i | none=>true)
  | _,_=>true
def edgesOk (all:List Oper):Bool:=
 (List.range all.length).all fun j=>match all[j]? with
  | some o=>o.after.toList.all (fun e=>!Region.binds .any e || e.on < j) && (match o.op with | .select ..=>false | _=>true) && (match o.guard with | some (g,_)=>g < j | none=>true)
  | none=>true
def dynCall (o:Oper):Bool:=
 match o.op,o.type with
 | .call { callee:=.value (.tmp _),.. },_=>true
 | .call { callee:=.value (.func _),.. },0=>true
 | _,_=>false
def pivotOf (all:List Oper):Option Nat:=all.findIdx? dynCall
def pivotOk (all:List Oper) (c:Nat):Bool:=
 (List.range all.length).all fun i=>(decide (i < c) && anc all all.length c i) || i == c || (decide (c < i) && anc all all.length i c)
def opsP (X:Ctx) (callF:CallF) (all:List Oper) (c base:Nat) (s:St) (K:St→Prop):Prop:=
 match all[c]? with
 | some o=>o.guard.isNone=true∧pivotOk all c=true∧opsD X all (all.take c) 0 base s [] (fun s1=>stepA X callF o (base + c) s1 fun s2=>
   opsD X all (all.drop (c + 1)) (c + 1) s2.nx ⟨s2.n,s2.fr,s2.hp,s2.nx + all.length⟩ [] K)
 | none=>False
def rdsT (d:Nat):Operand→Bool
 | .tmp t=>Nat.beq t d
 | _=>false
def rdsAny (d:Nat):List Operand→Bool
 | []=>false
 | x :: r=>match rdsT d x with
  | true=>true
  | false=>rdsAny d r
def lateB0 (d:Nat):List Oper→Bool
 | []=>false
 | o :: r=>match o.op with
  | .move x=>match rdsT d x with
   | true=>false
   | false=>lateB0 d r
  | .load _ x=>match rdsT d x with
   | true=>false
   | false=>lateB0 d r
  | .call { callee:=.value (.tmp t),args:=as,argTypes:=_ }=>match Nat.beq t d with
   | true=>false
   | false=>!rdsAny d as.toList
  | _=>false
def lateB:List Oper→Bool
 | []=>false
 | o :: r=>match o.op,o.dst with
  | .load _ _,some d=>lateB0 d r
  | _,_=>false
def isRd:Op→Bool
 | .move _=>true
 | .load _ _=>true
 | _=>false
def preL (X:Ctx):List Oper→St→(St→Prop)→Prop
 | [],s,K=>K s
 | o :: r,s,K=>isRd o.op=true∧o.guard.isNone=true∧o.dst.isSome=true∧aop X.T o.op (evo s.fr) (hlk s.hp) 0 fun x upd _=>upd=[]∧putA s o.dst x fun s'=>preL X r s' K
def dstV (fr:Frm):Option Tmp→AV
 | some d=>lkp fr d
 | none=>.top
def lateL (X:Ctx):List Oper→St→Prop
 | [],_=>True
 | o :: r,s=>(aop X.T o.op (evo s.fr) (hlk s.hp) 0 fun x upd _=>upd=[]∧x=dstV s.fr o.dst)∧lateL X r s
def callL (callF:CallF) (o:Oper) (s:St) (K:St→Prop):Prop:=
 match o.op with
 | .call { callee:=.value f,args:=args,argTypes:=_ }=>match evo s.fr f with
  | .fn (.func g) first cap=>callF g (first ++ args.toList.map (evo s.fr) ++ cap) s.hp s.nx fun r hp nx=>putA ⟨s.n,s.fr,hp,nx⟩ o.dst r K
  | _=>False
 | _=>False
def lateOk (all:List Oper) (c:Nat):Bool:=
 ((List.range c).all fun k=>(List.range c).all fun j=>decide (j < k) || match all[k]?,all[j]? with
  | some x,some y=>match y.dst with
   | some d=>!((x.looksAt all.toArray).contains d)
   | none=>true
  | _,_=>true) &&
 ((List.range all.length).all fun i=>decide (i≤c) || (List.range (c + 1)).all fun j=>anc all all.length i j)
def opsL (X:Ctx) (callF:CallF) (all:List Oper) (c:Nat) (s:St) (K:St→Prop):Prop:=
 match all[c]? with
 | some o=>o.guard.isNone=true∧lateOk all c=true∧preL X (all.take c) s (fun s1=>callL callF o s1 fun s2=>lateL X (all.take c) s2 ∧
   opsD X all (all.drop (c + 1)) (c + 1) s2.nx ⟨s2.n,s2.fr,s2.hp,s2.nx + all.length⟩ [] K)
 | none=>False
def usesT (d:Nat):Op→Bool
 | .move x=>rdsT d x
 | .load _ x=>rdsT d x
 | .nilCheck x=>rdsT d x
 | .fieldAddr _ x _=>rdsT d x
 | .indexAddr _ x y=>match rdsT d x with
  | true=>true
  | false=>rdsT d y
 | _=>true
def mixB0 (d:Nat):List Oper→Bool
 | []=>false
 | o :: r=>match o.op with
  | .call { callee:=.value (.tmp t),args:=as,argTypes:=_ }=>match Nat.beq t d with
   | true=>false
   | false=>!rdsAny d as.toList
  | op=>match usesT d op with
   | true=>false
   | false=>mixB0 d r
def mixB:List Oper→Bool
 | []=>false
 | o :: r=>match o.op,o.dst with
  | .move _,some d=>mixB0 d r
  | _,_=>false
def isMv:Op→Bool
 | .move _=>true
 | _=>false
def mixOk (all:List Oper) (c:Nat):Bool:=
 ((List.range all.length).all fun i=>(decide (i < c) && (anc all all.length c i || match all[i]? with
  | some o=>isMv o.op && o.guard.isNone && o.dst.isSome
  | none=>false)) || i == c || (decide (c < i) && anc all all.length i c)) &&
 ((List.range c).all fun k=>(List.range c).all fun j=>decide (j < k) || anc all all.length c k || anc all all.length c j || match all[k]?,all[j]? with
  | some x,some y=>match y.dst with
   | some d=>!((x.looksAt all.toArray).contains d)
   | none=>true
  | _,_=>true)
def mvV (g:Option (Nat × Bool)) (op:Op) (dst:Option Tmp) (fr:Frm):Prop:=
 match g,op with
 | none,.move x=>dstV fr dst=evo fr x
 | _,_=>True
def movesL:List Oper→St→Prop
 | [],_=>True
 | o :: r,s=>mvV o.guard o.op o.dst s.fr∧movesL r s
def opsM (X:Ctx) (callF:CallF) (all:List Oper) (c base:Nat) (s:St) (K:St→Prop):Prop:=
 match all[c]? with
 | some o=>o.guard.isNone=true∧mixOk all c=true∧opsD X all (all.take c) 0 base s [] (fun s1=>callL callF o s1 fun s2=>movesL (all.take c) s2 ∧
   opsD X all (all.drop (c + 1)) (c + 1) s2.nx ⟨s2.n,s2.fr,s2.hp,s2.nx + all.length⟩ [] K)
 | none=>False
def drawA (X:Ctx) (callF:CallF) (ops:List Oper) (c:Option Nat) (base:Nat) (s:St) (K:St→Prop):Prop:=
 match c with
 | none=>opsD X ops ops 0 base s [] K
 | some c=>match lateB ops with
  | false=>(match mixB ops with
   | false=>opsP X callF ops c base s K
   | true=>opsM X callF ops c base s K)
  | true=>opsL X callF ops c s K
def codeA (X:Ctx) (callF:CallF):Code→(Exit→St→Prop)→St→Prop
 | .skip,Q,s=>Q .normal s
 | .region _ ops false,Q,s=>opsT X callF ops.toList ops.toList 0 s.nx ⟨s.n,s.fr,s.hp,s.nx + ops.size⟩ (Q .normal)
 | .region _ ops true,Q,s=>drawA X callF ops.toList (pivotOf ops.toList) s.nx ⟨s.n,s.fr,s.hp,s.nx + ops.size⟩ (Q .normal)
 | .seq a b,Q,s=>codeA X callF a (thenA (codeA X callF b Q) Q) s
 | .cond c x y,Q,s=>condA (evo s.fr c) (codeA X callF x Q s) (codeA X callF y Q s)
 | .block id b,Q,s=>codeA X callF b (inBlockA id Q) s
 | .loop b,Q,s=>WP X (.loop b) Q s
 | .rangeFunc f ps a b,Q,s=>WP X (.rangeFunc f ps a b) Q s
 | .exit id,Q,s=>Q (.exit id) s
 | .scope b,Q,s=>codeA X callF b (inScopeA X b Q) s
 | .label _,Q,s=>Q .normal s
 | .goto l,Q,s=>Q (.goto l) s
 | .ret,Q,s=>Q .ret s
 | .refuse _,_,_=>False
def drawsOk:Code→Bool
 | .region _ ops true=>dataOk ops.toList && edgesOk ops.toList
 | .seq a b=>drawsOk a && drawsOk b
 | .cond _ a b=>drawsOk a && drawsOk b
 | .block _ b | .loop b | .scope b=>drawsOk b
 | .rangeFunc _ _ a b=>drawsOk a && drawsOk b
 | _=>true
def YieldSound (X:Ctx):Prop:=
 ∀ (id:Nat) (args:List AV) (hp:Hp) (nx:Nat) (K:AV→Hp→Nat→Prop),X.Y id args hp nx K →
  ∀ (w0:World) (K0:Nat→Option Obj) (E:Env) (n:Nat) (fr:Frm) (a:Act) (w:World) (l:Nat) (q:Nat→List Value→Obj) (vs:Array Value),X.inv w0 E→Rel w0 K0 (fun id=>id < nx) E n fr hp a w→E.dom id→E.lp id=some (l,q)→ArgsCon E args vs →
   ∃ fn tmps assign body,(Instr.yield l vs).run X.P w=.ok (.round l fn tmps assign body) w ∧
    RoundIn (FW X.rd) 0 X.P l fn tmps assign body w fun e w'=>∃ v r hp' nx' E',e=.returned v∧K r hp' nx'∧Ext E nx E' nx'∧Con E' r v∧Rel w0 K0 (fun id=>id < nx') E' n fr hp' a w'
structure Ctx.core (X:Ctx):Prop where
 Y:YieldSound X
 im:∀ w0 E E',X.inv w0 E→E.le E'→X.inv w0 E'
 T:TOk X.P X.T
 draws:(X.P.funcs.all fun fn=>match fn.body with | some b=>drawsOk b | none=>true)=true
 C:∀ f args r,X.C f args=some r→Enters X.P f∧(∀ a∈args,HFree a)∧PureC X.P f args r
 O:∀ f args ty sz el,X.O f args=some (ty,sz,el)→Enters X.P f∧(∀ a∈args,HFree a)∧OwnC X.P f args ty sz el
def resA (T:TEnv) (s:St):List ResultVar→List AV→(List AV→Prop)→Prop
 | [],acc,K=>K acc
 | .tmp t :: r,acc,K=>resA T s r (acc ++ [lkp s.fr t]) K
 | .cell t ty :: r,acc,K=>aop T (.load ty (.tmp t)) (evo s.fr) (hlk s.hp) s.nx fun x _ _=>resA T s r (acc ++ [x]) K
def resultA (T:TEnv) (fn:Func) (s:St) (K:AV→Prop):Prop:=
 resA T s fn.results.toList [] fun xs=>match xs with
  | [x]=>K x
  | xs=>K (.tup xs)
def argFrm:List AV→Nat→Frm
 | [],_=>[]
 | a :: r,i=>(i,a) :: argFrm r (i + 1)
def bodyQ (T:TEnv) (fn:Func) (K:AV→Hp→Nat→Prop):Exit→St→Prop
 | .normal,s | .ret,s=>resultA T fn s fun r=>K r s.hp s.nx
 | _,_=>False
def frzArg (hp:Hp):AV→AV × Hp
 | .arr id off len=>match hlk hp id with
  | some b=>if off + len≤b.el.length then (.lst b.sz ((b.el.drop off).take len),(id,some { b with ro:=true }) :: hp) else (.arr id off len,hp)
  | none=>(.arr id off len,hp)
 | x=>(x,hp)
def frzArgs:Hp→List AV→List AV × Hp
 | hp,[]=>([],hp)
 | hp,x :: r=>((frzArg hp x).1 :: (frzArgs (frzArg hp x).2 r).1,(frzArgs (frzArg hp x).2 r).2)
def deepArg (hp:Hp):AV→AV × Hp
 | .lst sz xs=>(.lst sz (frzArgs hp xs).1,(frzArgs hp xs).2)
 | x=>(x,hp)
def deepArgs:Hp→List AV→List AV × Hp
 | hp,[]=>([],hp)
 | hp,x :: r=>((deepArg hp x).1 :: (deepArgs (deepArg hp x).2 r).1,(deepArgs (deepArg hp x).2 r).2)
def frzDeep (hp:Hp) (args:List AV):List AV × Hp:=deepArgs (frzArgs hp args).2 (frzArgs hp args).1
def callN (X:Ctx):Nat→CallF
 | 0,g,args,hp,nx,K=>match X.C g args with
  | some r=>K r hp nx
  | none=>match X.C g (frzArgs hp args).1 with
   | some r=>K r (frzArgs hp args).2 nx
   | none=>match X.C g (frzDeep hp args).1 with
    | some r=>K r (frzDeep hp args).2 nx
    | none=>False
 | n + 1,g,args,hp,nx,K=>match X.C g args with
  | some r=>K r hp nx
  | none=>match X.C g (frzArgs hp args).1 with
   | some r=>K r (frzArgs hp args).2 nx
   | none=>match X.C g (frzDeep hp args).1 with
    | some r=>K r (frzDeep hp args).2 nx
    | none=>match X.P.funcs[g]? with
     | some fn=>(fn.name == "runtime.NumGoroutine")=false∧args.length≤fn.ntmps∧match fn.body with
      | some body=>codeA X (callN X n) body (bodyQ X.T fn K) ⟨fn.ntmps,argFrm args 0,hp,nx⟩
      | none=>False
     | none=>False
end Go.Vai

/- The evaluator's regions in the text's order are what the machine does. -/
namespace Go.Vai
open Go.RowKit
theorem Rel.call {w0:World} {K0:Nat→Option Obj} {D:Nat→Prop} {E:Env} {n:Nat} {fr:Frm} {hp:Hp} {a:Act} {w w':World} (h:Rel w0 K0 D E n fr hp a w) (hb:Below w.heap.size w w') :
  E.le { E with K:=grow w E.K w' }∧Rel w0 K0 D { E with K:=grow w E.K w' } n fr hp a w':=by
 have hle:E.le { E with K:=grow w E.K w' }:=
  ⟨fun _ d=>d,fun _ _=>rfl,fun _ _=>rfl,fun _ _=>rfl,fun b o hk=>by
   have:=heap_lt (h.kw b o hk)
   simp only [grow,if_pos this]; exact hk,fun _ _=>rfl,fun _ _ h=>h,rfl⟩
 refine ⟨hle,?_⟩
 have hB:w0.heap.size≤w.heap.size:=h.below.size
 refine { below:=h.below.trans (hb.mono hB),kw:=?_,k0:=?_,nd:=⟨h.nd.1,h.nd.2.mono hle.K⟩,size:=h.size,regs:=fun t ht=>(h.regs t ht).mono hle,dom:=h.dom,lw:=fun l id hl=>Nat.lt_of_lt_of_le (h.lw l id hl) hb.size,out:=h.out,own:=?_,inj:=h.inj }
 ·intro b o hk
  simp only [grow] at hk
  split at hk
  ·rename_i hlt
   rw [hb.block b hlt]; exact h.kw b o hk
  ·exact hk
 ·intro b o hk hlt
  simp only [grow,if_pos (show b < w.heap.size by omega)] at hk
  exact h.k0 b o hk hlt
 ·intro id b hid
  have hown:=h.own id b hid
  exact hown.mono hle (fun g hg=>by simp only [grow,if_pos (hown.ρ_lt hg)]) (fun g _ hl=>hb.block g hl) (keeps_below hb) (fun l o hl _ hk=>by simp only [grow,if_pos (heap_lt hl)]; exact hk)
theorem tab_sound {X:Ctx} (hX:X.core) {g:FuncId} {args:List AV} {r:AV} (hC:X.C g args=some r) {w0:World} {K0:Nat→Option Obj} {D:Nat→Prop} {E:Env} {n:Nat} {fr:Frm} {hp:Hp} {a:Act} {w:World} {vs:Array Value}
  (h:Rel w0 K0 D E n fr hp a w) (ha:ArgsCon E args vs) :
  Enters X.P g∧Calls X.P g vs w fun e w'=>∃ v E',e=.returned v∧E.le E'∧Con E' r v∧(∀ id,E'.dom id→E.dom id)∧Rel w0 K0 D E' n fr hp a w':=by
 obtain ⟨h1,h2,h3⟩:=hX.C g args r hC
 refine ⟨h1,(h3 w E.K vs h.kw ⟨ha.1,fun i x v hx hv=>h2 x (List.mem_of_getElem? hx) E v (ha.2 i x v hx hv)⟩).mono ?_⟩
 rintro e w' ⟨v,rfl,hb,hc⟩
 obtain ⟨hle,hr⟩:=h.call hb
 exact ⟨v,_,rfl,hle,hc.monoc (Env.bare_le _ fun _ _ hk=>hk),fun _ hd=>hd,hr⟩
theorem run_callFunc {P:Program} {g:FuncId} (h:Enters P g) (vs:Array Value) (w:World):(callFunc g vs).run P w=.ok (.enter g vs) w:=by
 obtain ⟨fn,h1,h2,h3⟩:=h
 simp only [callFunc,Sem.run_bind,run_program,Result.andThen_ok,h1]
 simp [h2,h3]
theorem run_callValue {P:Program} {g:FuncId} (h:Enters P g) {o:Oper} {f:Operand} {args:Array Operand} {ts:Array TypeId} (ho:o.op=.call { callee:=.value f,args:=args,argTypes:=ts }) {a:Act} {xs ys:Array Value}
  (hf:a.eval f=.func (.func g) xs ys) (w:World):(execOp a.eval o).run P w=.ok (.enter g (xs ++ args.map a.eval ++ ys)) w:=by
 simp only [execOp,ho,resolve,Deferred.ofValue,hf,Sem.run_bind,Sem.run_pure,Result.andThen_ok,invoke,run_callFunc h]
theorem run_callYield {P:Program} {l:Nat} {o:Oper} {f:Operand} {args:Array Operand} {ts:Array TypeId} (ho:o.op=.call { callee:=.value f,args:=args,argTypes:=ts }) {a:Act} (hf:a.eval f=.func (.yield l) #[] #[]) (w:World) :
  (execOp a.eval o).run P w=(Instr.yield l (args.map a.eval)).run P w:=by
 simp only [execOp,ho,resolve,Deferred.ofValue,hf,Sem.run_bind,Sem.run_pure,Result.andThen_ok,invoke,Array.empty_append]
theorem aop_nodefer {T:TEnv} {o:Op} {ρ:Operand→AV} {H:Nat→Option Blk} {me:Nat} {K:AV→Upd→List Nat→Prop} (h:aop T o ρ H me K):∀ c,o≠.defer c:=by
 rintro c rfl
 exact h
theorem wpIn_of {ro:Option Nat} {P:Program} {o:Oper} {a:Act} {w:World} {next:Act→World→Prop} {Q:Exit→Act→World→Prop} (hd:∀ c,o.op≠.defer c) (h:o.uponIn (FW ro) 0 P a next Q ((execOp a.eval o).run P w)):o.wpIn (FW ro) 0 P a w next Q:=
 ⟨fun _ _=>trivial,by rw [Oper.semAt_eq _ _ _ hd]; exact h⟩
theorem args_con {E:Env} {fr:Frm} {a:Act} {args:Array Operand} {g:Fn} {first cap:List AV} {v:Value} (hf:Con E (.fn g first cap) v) (hx:∀ x,x∈args→Con E (evo fr x) (a.eval x)) :
  ∃ xs ys,v=.func g xs ys∧ArgsCon E (first ++ args.toList.map (evo fr) ++ cap) (xs ++ args.map a.eval ++ ys):=by
 cases hf with
 | fn _ _ _ xs ys hl hm h h'=>
  refine ⟨xs,ys,rfl,by simp; omega,?_⟩
  intro i x u hi hu
  rw [List.append_assoc,List.getElem?_append] at hi
  rw [Array.append_assoc,Array.getElem?_append] at hu
  rw [hl] at hi
  split at hi
  ·rename_i h1
   rw [if_pos h1] at hu
   exact h i x u hi hu
  ·rename_i h1
   rw [if_neg h1] at hu
   rw [List.getElem?_append] at hi
   rw [Array.getElem?_append] at hu
   simp only [List.length_map,Array.length_toList,Array.size_map] at hi hu
   split at hi
   ·rename_i h2
    rw [if_pos h2] at hu
    rw [List.getElem?_map,Option.map_eq_some_iff] at hi
    rw [Array.getElem?_map,Option.map_eq_some_iff] at hu
    obtain ⟨p,hp,rfl⟩:=hi
    obtain ⟨q,hq,rfl⟩:=hu
    rw [Array.getElem?_toList] at hp
    rw [hp] at hq; cases hq
    exact hx p (Array.mem_of_getElem? hp)
   ·rename_i h2
    rw [if_neg h2] at hu
    exact h' _ x u hi hu
theorem putA_sound {w0:World} {K0:Nat→Option Obj} {D:Nat→Prop} {E:Env} {s:St} {a:Act} {w:World} {dst:Option Tmp} {x:AV} {v:Value} {K:St→Prop} (h:putA s dst x K) (hr:Rel w0 K0 D E s.n s.fr s.hp a w) (hx:Con E x v) :
  ∃ s',K s'∧s'.nx=s.nx∧s'.hp=s.hp∧s'.n=s.n∧Rel w0 K0 D E s'.n s'.fr s'.hp (a.put dst v) w:=by
 cases dst with
 | none=>exact ⟨s,h,rfl,rfl,rfl,hr.skip⟩
 | some d=>exact ⟨_,h.2,rfl,rfl,rfl,hr.put h.1 hx⟩
section
variable {X : Ctx} {callF : CallF}
theorem aop_step (hX:X.core) {o:Oper} {me:Nat} {s:St} {Kf:AV→Upd→List Nat→Prop} (h:aop X.T o.op (evo s.fr) (hlk s.hp) me Kf)
  {w0:World} {K0:Nat→Option Obj} {D:Nat→Prop} {E:Env} {a:Act} {w:World} (hr:Rel w0 K0 D E s.n s.fr s.hp a w) (hme:¬ E.dom me)
  {next:Act→World→Prop} {Q:Exit→Act→World→Prop}
  (hn:∀ r upd acc v w' E',Kf r upd acc→E.le E'→Con E' r v→Rel w0 K0 (fun id=>D id∨id=me) E' s.n s.fr (upd ++ s.hp) a w'→next (a.put o.dst v) w'):o.wpIn (FW X.rd) 0 X.P a w next Q:=by
 obtain ⟨r,upd,acc,hk,hs⟩:=aop_sound hX.T h
 obtain ⟨nx,v,w',E',h1,h2,h3,h4,h5⟩:=hs o rfl w0 K0 D E s.n s.fr s.hp a w hr (fun _ _=>rfl) (fun _ _=>rfl) hme
 refine wpIn_of (aop_nodefer h) ?_
 rw [h1]
 rcases h2 with rfl | ⟨rfl,rfl⟩
 ·exact hn r upd acc v w' E' hk h3 h4 h5
 ·exact hn r upd acc undef w' E' hk h3 h4 h5
theorem stepA_sound (hX:X.core) (hF:CallSound X callF) {o:Oper} {me:Nat} {s:St} {K:St→Prop} (h:stepA X callF o me s K) {w0:World} {K0:Nat→Option Obj} {E:Env} {a:Act} {w:World}
  (hi:X.inv w0 E) (hr:RelS w0 K0 E s a w) (hme:¬ E.dom me) (hlt:me < s.nx) {next:Act→World→Prop} {Q:Exit→Act→World→Prop}
  (hn:∀ s' a' w' E',K s'→E.le E'→s.nx≤s'.nx→(∀ id,E'.dom id→E.dom id∨id=me∨s.nx≤id)→RelS w0 K0 E' s' a' w'→next a' w'):o.wpIn (FW X.rd) 0 X.P a w next Q:=by
 unfold stepA at h
 split at h
 ·rename_i f args ts ho
  split at h
  ·rename_i g first cap hf
   have hfc:=hr.ev f
   rw [hf] at hfc
   obtain ⟨xs,ys,hv,hac⟩:=args_con (E:=E) (fr:=s.fr) (a:=a) (args:=args) hfc (fun x _=>hr.ev x)
   obtain ⟨hen,hcall⟩:=hF g _ s.hp s.nx _ h w0 K0 E s.n s.fr a w _ hr hac
   refine wpIn_of (by rw [ho]; intro c hc; cases hc) ?_
   rw [run_callValue hen ho hv]
   rw [Oper.uponIn_enter]
   refine ⟨(fun h=>by cases h),callsIn_FW.2 (hcall.mono ?_)⟩
   rintro e w' ⟨v,r,hp',nx',E',rfl,hk,hext,hc,hrel⟩
   obtain ⟨s',hs',h1,h2,h3,h4⟩:=putA_sound (s:=⟨s.n,s.fr,hp',nx'⟩) hk hrel hc
   refine hn s' _ w' E' hs' hext.le (by rw [h1]; exact hext.up) ?_ (by unfold RelS; rw [h1]; exact h4)
   intro id hid
   exact (hext.dom id hid).imp_right fun h=>.inr h.1
  ·rename_i id hf
   have hfc:=hr.ev f
   rw [hf] at hfc
   generalize hv:a.eval f=v at hfc
   cases hfc with
   | yld _ l q hd hl=>
    have hac:ArgsCon E (args.toList.map (evo s.fr)) (args.map a.eval):=by
     refine ⟨by simp,fun i x u hi hu=>?_⟩
     rw [List.getElem?_map,Option.map_eq_some_iff] at hi
     rw [Array.getElem?_map,Option.map_eq_some_iff] at hu
     obtain ⟨p,hp,rfl⟩:=hi
     obtain ⟨q,hq,rfl⟩:=hu
     rw [Array.getElem?_toList] at hp
     rw [hp] at hq; cases hq
     exact hr.ev p
    obtain ⟨fn,tmps,as,bd,hy,hround⟩:=hX.Y id _ s.hp s.nx _ h w0 K0 E s.n s.fr a w l q _ hi hr hd hl hac
    refine wpIn_of (by rw [ho]; intro c hc; cases hc) ?_
    rw [run_callYield ho hv,hy]
    rw [Oper.uponIn_round]
    refine ⟨(fun h=>by cases h),hround.mono ?_⟩
    rintro e w' ⟨v,r,hp',nx',E',rfl,hk,hext,hc,hrel⟩
    obtain ⟨s',hs',h1,h2,h3,h4⟩:=putA_sound (s:=⟨s.n,s.fr,hp',nx'⟩) hk hrel hc
    refine hn s' _ w' E' hs' hext.le (by rw [h1]; exact hext.up) ?_ (by unfold RelS; rw [h1]; exact h4)
    intro id hid
    exact (hext.dom id hid).imp_right fun h=>.inr h.1
  ·exact h.elim
 ·refine aop_step hX h (hr.names (D':=E.dom) fun _ hd=>hd) hme ?_
  intro r upd acc v w' E' hk hle hc hrel
  obtain ⟨s',hs',h1,h2,h3,h4⟩:=putA_sound (s:=⟨s.n,s.fr,upd ++ s.hp,s.nx⟩) hk hrel hc
  refine hn s' _ w' E' hs' hle (by rw [h1]; exact Nat.le_refl _) (fun id hid=>(h4.dom id hid).imp_right .inl) ?_
  unfold RelS
  rw [h1]
  exact h4.names fun id hid=>by
   have h5:id < s.nx∨id=me:=(h4.dom id hid).imp_left (hr.dom id)
   show id < s.nx
   omega
theorem yielded_eq {all:List Oper} {a:Act} {j d:Nat} (hd:(all[j]?).bind (·.dst)=some d) (hl:d < a.tmps.size):yielded all.toArray a.tmps j=match a.tmps.getD d undef with | .bool b=>some b | _=>none:=by
 unfold yielded
 have:(all.toArray[j]?).bind (·.dst)=some d:=by simpa using hd
 rw [this]
 simp only [Option.bind_some]
 rw [Array.getD_eq_getD_getElem?,Array.getElem?_eq_getElem hl]
 simp only [Option.getD_some]
 cases a.tmps[d] <;> rfl
theorem guardA_sound {all:List Oper} {o:Oper} {s:St} {K1 K2:St→Prop} (h:guardA all o s K1 K2) {w0:World} {K0:Nat→Option Obj} {D:Nat→Prop} {E:Env} {a:Act} {w:World} (hr:Rel w0 K0 D E s.n s.fr s.hp a w) :
  ∃ s',s'.n=s.n∧s'.nx=s.nx∧s'.hp=s.hp∧(∀ t,Con E (lkp s'.fr t) (a.eval (.tmp t))∧(s.n≤t→lkp s'.fr t=.top))∧((Region.wanted o (yielded all.toArray a.tmps)=true∧K1 s')∨(Region.wanted o (yielded all.toArray a.tmps)=false∧K2 s')):=by
 have same:∀ t,Con E (lkp s.fr t) (a.eval (.tmp t))∧(s.n≤t→lkp s.fr t=.top):=fun t=>⟨hr.ev (.tmp t),hr.out t⟩
 unfold guardA at h
 cases hg:o.guard with
 | none=>rw [hg] at h; exact ⟨s,rfl,rfl,rfl,same,.inl ⟨by simp [Region.wanted,hg],h⟩⟩
 | some jw=>
  obtain ⟨j,want⟩:=jw
  rw [hg] at h
  simp only at h
  cases hd:(all[j]?).bind (·.dst) with
  | none=>
   rw [hd] at h
   refine ⟨s,rfl,rfl,rfl,same,.inr ⟨?_,h⟩⟩
   simp [Region.wanted,hg,yielded,hd]
  | some d=>
   rw [hd] at h
   simp only at h
   have hev:=hr.ev (.tmp d)
   simp only [evo,Act.eval] at hev
   split at h
   ·rename_i b hb
    obtain ⟨hlt,h1,h2⟩:=h
    rw [hb] at hev
    have hy:=yielded_eq (all:=all) (a:=a) hd (by rw [hr.size]; exact hlt)
    generalize hv:a.tmps.getD d undef=v at hev hy
    cases hev
    simp only at hy
    have hsame:∀ c,b=c→∀ t,Con E (lkp ((d,.v (.bool c)) :: s.fr) t) (a.eval (.tmp t))∧(s.n≤t→lkp ((d,.v (.bool c)) :: s.fr) t=.top):=by
     intro c hc t
     rw [lkp_cons]
     by_cases e:t=d
     ·subst e
      rw [if_pos rfl]
      refine ⟨?_,fun h'=>absurd h' (Nat.not_le.2 hlt)⟩
      simp only [Act.eval,hv,← hc]
      exact .v _
     ·rw [if_neg e]; exact same t
    by_cases e:b=want
    ·exact ⟨⟨s.n,(d,.v (.bool want)) :: s.fr,s.hp,s.nx⟩,rfl,rfl,rfl,hsame want e,.inl ⟨by simp [Region.wanted,hg,hy,e],h1 e⟩⟩
    ·have e':b=!want:=by cases b <;> cases want <;> simp_all
     exact ⟨⟨s.n,(d,.v (.bool !want)) :: s.fr,s.hp,s.nx⟩,rfl,rfl,rfl,hsame _ e',.inr ⟨by simp [Region.wanted,hg,hy,e],h2 e'⟩⟩
   ·rename_i xs hb
    refine ⟨s,rfl,rfl,rfl,same,.inr ⟨?_,h⟩⟩
    rw [hb] at hev
    by_cases hlt:d < s.n
    ·have hy:=yielded_eq (all:=all) (a:=a) hd (by rw [hr.size]; exact hlt)
     generalize hv:a.tmps.getD d undef=v at hev hy
     cases hev
     simp only at hy
     simp [Region.wanted,hg,hy]
    ·have:=hr.out d (Nat.le_of_not_lt hlt)
     rw [hb] at this; cases this
   ·exact h.elim
theorem Rel.retell {w0:World} {K0:Nat→Option Obj} {D:Nat→Prop} {E:Env} {n:Nat} {fr fr':Frm} {hp:Hp} {a:Act} {w:World} (h:Rel w0 K0 D E n fr hp a w)
  (h':∀ t,Con E (lkp fr' t) (a.eval (.tmp t))∧(n≤t→lkp fr' t=.top)):Rel w0 K0 D E n fr' hp a w:=
 { h with regs:=fun t _=>(h' t).1,out:=fun t ht=>(h' t).2 ht }
theorem opsT_sound (hX:X.core) (hF:CallSound X callF) (all:List Oper) {base:Nat} {K:St→Prop} {Q:Exit→Act→World→Prop} (size:Nat):∀ (l:List Oper) (k:Nat) (s:St),opsT X callF all l k base s K →
  ∀ (w0:World) (K0:Nat→Option Obj) (E:Env) (a:Act) (w:World),X.inv w0 E→RelS w0 K0 E s a w→(∀ id,E.dom id→id < base + k∨base + size≤id)→base + size≤s.nx→k + l.length≤size →
  (∀ s' a' w' E',K s'→E.le E'→s.nx≤s'.nx→(∀ id,E'.dom id→E.dom id∨base≤id)→RelS w0 K0 E' s' a' w'→Q .normal a' w')→wpListIn (FW X.rd) 0 X.P all.toArray Q l a w
 | [],k,s,h,w0,K0,E,a,w,hi,hr,hd,hb,hl,hn=>hn s a w E h (Env.le.refl E) (Nat.le_refl _) (fun _ h=>.inl h) hr
 | o :: r,k,s,h,w0,K0,E,a,w,hi,hr,hd,hb,hl,hn=>by
  simp only [List.length_cons] at hl
  simp only [opsT] at h
  obtain ⟨s1,g1,g2,g3,g4,g5⟩:=guardA_sound h hr
  have hr1:RelS w0 K0 E s1 a w:=by
   unfold RelS
   rw [g1,g2,g3]
   exact hr.retell g4
  rcases g5 with ⟨hw,hk⟩ | ⟨hw,hk⟩
  ·refine wpListIn_step fun Kn hKn=>?_
   rw [if_pos hw]
   refine stepA_sound hX hF hk hi hr1 (fun hdm=>by rcases hd _ hdm with h' | h' <;> omega) (by rw [g2]; omega) ?_
   intro s' a' w' E' hs' hle hnx hdom hrel
   refine hKn a' w' (opsT_sound hX hF all size r (k + 1) s' hs' w0 K0 E' a' w' (hX.im _ _ _ hi hle) hrel ?_ (by omega) (by omega) ?_)
   ·intro id hid
    rcases hdom id hid with h' | h' | h'
    ·have:=hd id h'; omega
    ·omega
    ·right; omega
   ·intro s2 a2 w2 E2 hk2 hle2 hnx2 hdom2 hrel2
    refine hn s2 a2 w2 E2 hk2 (hle.trans hle2) (by omega) ?_ hrel2
    intro id hid
    rcases hdom2 id hid with h' | h'
    ·rcases hdom id h' with h' | h' | h'
     ·exact .inl h'
     ·right; omega
     ·right; omega
    ·exact .inr h'
  ·refine wpListIn_step fun Kn hKn=>?_
   rw [if_neg (by rw [hw]; simp)]
   refine ⟨fun _ _=>trivial,?_⟩
   obtain ⟨s',hs',h1,h2,h3,h4⟩:=putA_sound hk hr1 (.v undef)
   refine hKn _ w (opsT_sound hX hF all size r (k + 1) s' hs' w0 K0 E _ w hi (by unfold RelS; rw [h1]; exact h4) (fun id hid=>by have:=hd id hid; omega) (by omega) (by omega) ?_)
   intro s2 a2 w2 E2 hk2 hle2 hnx2 hdom2 hrel2
   exact hn s2 a2 w2 E2 hk2 hle2 (by omega) hdom2 hrel2
end
end Go.Vai

/- Lists of a call's own that are given away, or come in: what is known then. -/
namespace Go.Vai
open Go.RowKit
theorem frzArg_sound {w0:World} {K0:Nat→Option Obj} {D:Nat→Prop} {E:Env} {n:Nat} {fr:Frm} {hp:Hp} {a:Act} {w:World} (hr:Rel w0 K0 D E n fr hp a w) (x:AV) :
  ∃ E',E.le E'∧(∀ id,E'.dom id→E.dom id)∧Rel w0 K0 D E' n fr (frzArg hp x).2 a w∧∀ v,Con E x v→Con E' (frzArg hp x).1 v:=by
 have same:∃ E',E.le E'∧(∀ id,E'.dom id→E.dom id)∧Rel w0 K0 D E' n fr hp a w∧∀ v,Con E x v→Con E' x v:=⟨E,Env.le.refl E,fun _ h=>h,hr,fun _ h=>h⟩
 cases x with
 | arr id off len=>
  simp only [frzArg]
  split
  ·rename_i b hb
   split
   ·rename_i hle
    obtain ⟨hd,hsz,hpos,hmax,hown⟩:=hr.own id b hb
    have hlen:((b.el.drop off).take len).length=len:=by simp; omega
    have nil:∀ (E':Env) (A:Option Addr) (c:Nat),len=0→Con E' (.lst b.sz ((b.el.drop off).take len)) (.slice A len c):=by
     intro E' A c h0
     subst h0
     exact .lst _ _ A 0 c ⟨0,0,none⟩ (fun _ _=>undef) (by simp) (Nat.zero_le _) (by simp) (by simp) (by simp) (by simp) (by simp)
    rcases hown with ⟨k1,k2,k3⟩ | ⟨g,cur,k1,k2,k3,k4,k5,k6,k7,k8⟩
    ·refine ⟨E,Env.le.refl E,fun _ h=>h,?_,?_⟩
     ·refine { hr with own:=fun i b' hb'=>?_,inj:=fun i j b1 b2 g h1 h2=>?_ }
      ·rw [hlk_cons] at hb'
       by_cases e:i=id
       ·subst e
        rw [if_pos rfl] at hb'; cases hb'
        exact ⟨hd,hsz,hpos,hmax,.inl ⟨k1,k2,k3⟩⟩
       ·rw [if_neg e] at hb'; exact hr.own i b' hb'
      ·rw [hlk_cons] at h1 h2
       intro hg1 hg2
       by_cases e:i=id
       ·subst e; rw [k1] at hg1; cases hg1
       ·by_cases e':j=id
        ·subst e'; rw [k1] at hg2; cases hg2
        ·rw [if_neg e] at h1; rw [if_neg e'] at h2; exact hr.inj i j b1 b2 g h1 h2 hg1 hg2
     ·intro v hv
      cases hv with
      | arr0=>exact nil E _ _ rfl
      | arr _ _ _ g o c hd hg=>rw [k1] at hg; cases hg
    ·let E':Env:={ E with K:=fun k=>if k=g then some (.cells cur b.ty (0,0)) else E.K k }
     have hKle:∀ k o,E.K k=some o→E'.K k=some o:=by
      intro k o hk
      show (if k=g then _ else E.K k)=some o
      by_cases e:k=g
      ·subst e
       rw [if_pos rfl]
       have:=hr.kw k o hk
       rw [k3] at this; exact this
      ·rw [if_neg e]; exact hk
     have hEle:E.le E':=⟨fun _ h=>h,fun _ _=>rfl,fun _ _=>rfl,fun _ _=>rfl,hKle,fun _ _=>rfl,fun _ _ h=>h,rfl⟩
     refine ⟨E',hEle,fun _ h=>h,?_,?_⟩
     ·refine { below:=hr.below,kw:=?_,k0:=?_,nd:=⟨hr.nd.1,hr.nd.2.mono hKle⟩,size:=hr.size,regs:=fun t ht=>(hr.regs t ht).mono hEle,dom:=hr.dom,lw:=hr.lw,out:=hr.out,own:=?_,inj:=?_ }
      ·intro k o hk
       have hk':(if k=g then some (Obj.cells cur b.ty (0,0)) else E.K k)=some o:=hk
       by_cases e:k=g
       ·subst e
        rw [if_pos rfl] at hk'
        rw [k3]; exact hk'
       ·rw [if_neg e] at hk'; exact hr.kw k o hk'
      ·intro k o hk hlt
       have hk':(if k=g then some (Obj.cells cur b.ty (0,0)) else E.K k)=some o:=hk
       rw [if_neg (by omega)] at hk'
       exact hr.k0 k o hk' hlt
      ·intro i b' hb'
       rw [hlk_cons] at hb'
       by_cases e:i=id
       ·subst e
        rw [if_pos rfl] at hb'; cases hb'
        exact ⟨hd,hsz,hpos,hmax,.inr ⟨g,cur,k1,k2,k3,k4,k5,fun h=>(by cases h),fun _=>if_pos rfl,k8.mono hEle⟩⟩
       ·rw [if_neg e] at hb'
        refine (hr.own i b' hb').mono hEle (fun g' hg'=>?_) (fun _ _ _=>rfl) (KeepsOthers.refl w) (fun l o hl ho hk=>by
         show (if l=g then _ else E.K l)=none
         rw [if_neg (fun (e':l=g)=>by rw [e',k3] at hl; cases hl; cases ho)]; exact hk)
        show (if g'=g then _ else E.K g')=E.K g'
        rw [if_neg (fun (e':g'=g)=>e (hr.inj i id b' b g hb' hb (e' ▸ hg') k1))]
      ·intro i j b1 b2 g' h1 h2 hg1 hg2
       rw [hlk_cons] at h1 h2
       have f:∀ q y,(if q=id then some { b with ro:=true } else hlk hp q)=some y→∃ y',hlk hp q=some y':=by
        intro q y hy
        by_cases e:q=id
        ·exact ⟨b,e ▸ hb⟩
        ·rw [if_neg e] at hy; exact ⟨y,hy⟩
       obtain ⟨y1,hy1⟩:=f i b1 h1
       obtain ⟨y2,hy2⟩:=f j b2 h2
       exact hr.inj i j y1 y2 g' hy1 hy2 hg1 hg2
     ·intro v hv
      cases hv with
      | arr0 _ _ hg=>rw [k1] at hg; cases hg
      | arr _ _ _ g' o c hd' hg ho hc hl=>
       rw [k1] at hg; cases hg
       by_cases h0:len=0
       ·exact nil E' _ _ h0
       have ho':o=off * b.sz:=by
        rcases ho with e | e
        ·omega
        ·rw [e,hsz]
       subst ho'
       have el:∀ (i:Nat) (x:AV),((b.el.drop off).take len)[i]? = some x→i < len∧b.el[off + i]? = some x:=by
        intro i x hx
        rw [List.getElem?_take] at hx
        split at hx
        ·rename_i hi; rw [List.getElem?_drop] at hx; exact ⟨hi,hx⟩
        ·cases hx
       have cell:∀ (i:Nat) (x:AV) (j:Nat) (c:AV),((b.el.drop off).take len)[i]? = some x→x.cells[j]? = some c →
         ∃ y,cur[(off + i) * b.sz + j]? = some y∧y.oneCell'=true∧Con E c y:=fun i x j c hx hc=>(k8 (off + i) x (el i x hx).2).2 j c hc
       refine .lst _ _ _ len c ⟨g,off * b.sz,none⟩ (fun i j=>(cur[(off + i) * b.sz + j]?).getD undef) hlen hl (fun _=>rfl) (fun i x hx=>(k8 _ x (el i x hx).2).1) ?_ ?_ ?_
       ·intro i x j c hx hc
        obtain ⟨y,e,_,_⟩:=cell i x j c hx hc
        rw [add_plain']
        simp only [e,Option.getD_some,kcell,E',if_true]
        simp only [Option.isSome_none,Bool.false_eq_true,if_false]
        rw [show off * b.sz + (i * b.sz + j)=(off + i) * b.sz + j by rw [Nat.add_mul]; omega]
        exact e
       ·intro i x j c hx hc
        obtain ⟨y,e,h',_⟩:=cell i x j c hx hc
        simp only [e,Option.getD_some]; exact h'
       ·intro i x j c hx hc
        obtain ⟨y,e,_,h'⟩:=cell i x j c hx hc
        simp only [e,Option.getD_some]
        exact h'.mono hEle
   ·exact same
  ·exact same
 | _=>exact same
theorem frzArgs_sound {w0:World} {K0:Nat→Option Obj} {D:Nat→Prop} {n:Nat} {fr:Frm} {a:Act} {w:World}:∀ (args:List AV) (E:Env) (hp:Hp),Rel w0 K0 D E n fr hp a w→∀ (vs:List Value),args.length=vs.length→(∀ (i:Nat) (x:AV) (v:Value),args[i]? = some x→vs[i]? = some v→Con E x v) →
  ∃ E',E.le E'∧(∀ id,E'.dom id→E.dom id)∧Rel w0 K0 D E' n fr (frzArgs hp args).2 a w∧(frzArgs hp args).1.length=vs.length∧∀ (i:Nat) (x:AV) (v:Value),(frzArgs hp args).1[i]? = some x→vs[i]? = some v→Con E' x v
 | [],E,hp,hr,vs,hl,h=>⟨E,Env.le.refl E,fun _ h=>h,hr,hl,fun i x v hx=>by simp [frzArgs] at hx⟩
 | x :: r,E,hp,hr,[],hl,h=>by simp at hl
 | x :: r,E,hp,hr,v :: vs,hl,h=>by
  obtain ⟨E1,h1,h2,h3,h4⟩:=frzArg_sound hr x
  obtain ⟨E2,k1,k2,k3,k4,k5⟩:=frzArgs_sound r E1 (frzArg hp x).2 h3 vs (by simpa using hl) fun i y u hy hu=>(h (i + 1) y u (by simpa using hy) (by simpa using hu)).mono h1
  refine ⟨E2,h1.trans k1,fun id hd=>h2 id (k2 id hd),k3,by simpa [frzArgs] using k4,?_⟩
  intro i y u hy hu
  cases i with
  | zero=>
   simp only [frzArgs,List.getElem?_cons_zero,Option.some.injEq] at hy hu
   subst hy; subst hu
   exact (h4 v (h 0 x v rfl rfl)).mono k1
  | succ i=>
   simp only [frzArgs,List.getElem?_cons_succ] at hy hu
   exact k5 i y u hy hu
theorem frzHs_sound {w0:World} {K0:Nat→Option Obj} {D:Nat→Prop} {n:Nat} {fr:Frm} {a:Act} {w:World} {H:Nat→Option Blk}:∀ (args:List AV) (E:Env) (hp:Hp),Rel w0 K0 D E n fr hp a w →
  (∀ id∈(frzHs H args).2.map (·.1),hlk hp id=H id∨∃ b,H id=some b∧hlk hp id=some { b with ro:=true })→∀ (vs:List Value),args.length=vs.length→(∀ (i:Nat) (x:AV) (v:Value),args[i]? = some x→vs[i]? = some v→Con E x v) →
  ∃ E',E.le E'∧(∀ id,E'.dom id→E.dom id)∧Rel w0 K0 D E' n fr ((frzHs H args).2 ++ hp) a w∧(frzHs H args).1.length=vs.length∧∀ (i:Nat) (x:AV) (v:Value),(frzHs H args).1[i]? = some x→vs[i]? = some v→Con E' x v
 | [],E,hp,hr,_,vs,hl,h=>⟨E,Env.le.refl E,fun _ h=>h,hr,hl,fun i x v hx=>by simp [frzHs] at hx⟩
 | x :: r,E,hp,hr,hH,[],hl,h=>by simp at hl
 | x :: r,E,hp,hr,hH,v :: vs,hl,h=>by
  have one:∃ E',E.le E'∧(∀ id,E'.dom id→E.dom id)∧Rel w0 K0 D E' n fr ((frzH H x).2 ++ hp) a w∧(∀ v,Con E x v→Con E' (frzH H x).1 v)∧∀ id,hlk ((frzH H x).2 ++ hp) id=hlk hp id∨∃ b,H id=some b∧hlk ((frzH H x).2 ++ hp) id=some { b with ro:=true }:=by
   have same:frzH H x=(x,[])→∃ E',E.le E'∧(∀ id,E'.dom id→E.dom id)∧Rel w0 K0 D E' n fr ((frzH H x).2 ++ hp) a w∧(∀ v,Con E x v→Con E' (frzH H x).1 v)∧∀ id,hlk ((frzH H x).2 ++ hp) id=hlk hp id∨∃ b,H id=some b∧hlk ((frzH H x).2 ++ hp) id=some { b with ro:=true }:=by
    intro e
    rw [e]
    exact ⟨E,Env.le.refl E,fun _ h=>h,hr,fun _ h=>h,fun _=>.inl rfl⟩
   cases x with
   | arr id off len=>
    cases hb:H id with
    | none=>exact same (by simp only [frzH,hb])
    | some b=>
     by_cases hle:off + len≤b.el.length
     ·have e:frzH H (.arr id off len)=(.lst b.sz ((b.el.drop off).take len),[(id,some { b with ro:=true })]):=by simp only [frzH,hb,if_pos hle]
      have hid:id∈(frzHs H (.arr id off len :: r)).2.map (·.1):=by simp [frzHs,e]
      have hfz:frzArg hp (.arr id off len)=(.lst b.sz ((b.el.drop off).take len),(id,some { b with ro:=true }) :: hp):=by
       rcases hH id hid with q | ⟨b',q1,q2⟩
       ·simp only [frzArg]; rw [q,hb]; dsimp only; rw [if_pos hle]
       ·rw [hb] at q1; cases q1
        simp only [frzArg]; rw [q2]; dsimp only; rw [if_pos hle]
      obtain ⟨E1,h1,h2,h3,h4⟩:=frzArg_sound hr (.arr id off len)
      rw [hfz] at h3 h4
      rw [e]
      refine ⟨E1,h1,h2,h3,h4,fun id'=>?_⟩
      show hlk ((id,some ({ b with ro:=true }:Blk)) :: hp) id'=hlk hp id'∨∃ b':Blk,H id'=some b'∧hlk ((id,some ({ b with ro:=true }:Blk)) :: hp) id'=some ({ b' with ro:=true }:Blk)
      rw [hlk_cons]
      by_cases e':id'=id
      ·subst e'; rw [if_pos rfl]; exact .inr ⟨b,hb,rfl⟩
      ·rw [if_neg e']; exact .inl rfl
     ·exact same (by simp only [frzH,hb,if_neg hle])
   | _=>exact same rfl
  obtain ⟨E1,h1,h2,h3,h4,h6⟩:=one
  obtain ⟨E2,k1,k2,k3,k4,k5⟩:=frzHs_sound r E1 ((frzH H x).2 ++ hp) h3 (fun id hid=>by
   have hid':id∈(frzHs H (x :: r)).2.map (·.1):=by simp only [frzHs,List.map_append,List.mem_append]; exact .inl hid
   rcases h6 id with q | q
   ·rw [q]; exact hH id hid'
   ·exact .inr q) vs (by simpa using hl) fun i y u hy hu=>(h (i + 1) y u (by simpa using hy) (by simpa using hu)).mono h1
  refine ⟨E2,h1.trans k1,fun id hd=>h2 id (k2 id hd),by simpa only [frzHs,List.append_assoc] using k3,by simpa [frzHs] using k4,?_⟩
  intro i y u hy hu
  cases i with
  | zero=>
   simp only [frzHs,List.getElem?_cons_zero,Option.some.injEq] at hy hu
   subst hy; subst hu
   exact (h4 v (h 0 x v rfl rfl)).mono k1
  | succ i=>
   simp only [frzHs,List.getElem?_cons_succ] at hy hu
   exact k5 i y u hy hu
theorem Rel.callOwn {w0:World} {K0:Nat→Option Obj} {D:Nat→Prop} {E:Env} {n:Nat} {fr:Frm} {hp:Hp} {a:Act} {w w':World} (h:Rel w0 K0 D E n fr hp a w) (hb:Below w.heap.size w w') {me:Nat} (hme:¬ E.dom me)
  {g c cap sz:Nat} {cur:Array Value} {ty:TypeId} {el:List AV} (hg:w.heap.size≤g) (hc:w'.heap[g]? = some (.cells cur ty (0,0))) (hs:cur.size=cap * sz) (h1:el.length≤c) (h2:c≤cap) (h3:cap≤maxLen) (h4:0 < sz)
  (hel:∀ i a,el[i]? = some a→a.cells.length=sz∧∀ j x,a.cells[j]? = some x→∃ y,cur[i * sz + j]? = some y∧y.oneCell'=true∧Con (Env.bare fun b=>if b=g then none else grow w E.K w' b) x y) :
  ∃ E',E.le E'∧Con E' (.arr me 0 el.length) (.slice (some ⟨g,0,none⟩) el.length c)∧Rel w0 K0 (fun id=>D id∨id=me) E' n fr ((me,some ⟨false,ty,sz,el⟩) :: hp) a w':=by
 have hKg:∀ b,b < w.heap.size→(if b=g then none else grow w E.K w' b)=E.K b:=fun b hlt=>by
  rw [if_neg (by omega)]; simp only [grow,if_pos hlt]
 have hle0:E.le { E with K:=fun b=>if b=g then none else grow w E.K w' b }:=
  ⟨fun _ d=>d,fun _ _=>rfl,fun _ _=>rfl,fun _ _=>rfl,fun b o hk=>by
   show (if b=g then none else grow w E.K w' b)=some o
   rw [hKg b (heap_lt (h.kw b o hk))]; exact hk,fun _ _=>rfl,fun _ _ h=>h,rfl⟩
 have hle:E.le (Env.add { E with K:=fun b=>if b=g then none else grow w E.K w' b } me (some g) sz cap):=hle0.trans (Env.le_add (E:={ E with K:=fun b=>if b=g then none else grow w E.K w' b }) hme _ _ _)
 have hB:w0.heap.size≤w.heap.size:=h.below.size
 refine ⟨_,hle,.arr me 0 _ g 0 c (.inl rfl) (if_pos rfl) (.inr (by simp)) (by show 0 + c≤(if me=me then cap else E.cap me); rw [if_pos rfl]; omega) h1,?_⟩
 refine { below:=h.below.trans (hb.mono hB),kw:=?_,k0:=?_,nd:=⟨h.nd.1,h.nd.2.mono hle.K⟩,size:=h.size,regs:=fun t ht=>(h.regs t ht).mono hle,dom:=?_,lw:=fun l id hl=>Nat.lt_of_lt_of_le (h.lw l id hl) hb.size,out:=h.out,own:=?_,inj:=?_ }
 ·intro b o hk
  have hk':(if b=g then none else grow w E.K w' b)=some o:=hk
  split at hk'
  ·cases hk'
  ·simp only [grow] at hk'
   split at hk'
   ·rename_i hlt
    rw [hb.block b hlt]; exact h.kw b o hk'
   ·exact hk'
 ·intro b o hk hlt
  have hk':(if b=g then none else grow w E.K w' b)=some o:=hk
  rw [hKg b (by omega)] at hk'
  exact h.k0 b o hk' hlt
 ·intro id hd
  rcases hd with rfl | hd
  ·exact .inr rfl
  ·exact .inl (h.dom id hd)
 ·intro id b hid
  rw [hlk_cons] at hid
  by_cases e:id=me
  ·subst e
   rw [if_pos rfl] at hid; cases hid
   refine ⟨.inl rfl,if_pos rfl,h4,by show (if id=id then cap else E.cap id)≤maxLen; rw [if_pos rfl]; exact h3,.inr ⟨g,cur,if_pos rfl,by omega,hc,?_,?_,fun _=>if_pos rfl,fun hr=>(by cases hr),?_⟩⟩
   ·show cur.size=(if id=id then cap else E.cap id) * sz
    rw [if_pos rfl]; exact hs
   ·show el.length≤(if id=id then cap else E.cap id)
    rw [if_pos rfl]; omega
   ·intro i x hx
    refine ⟨(hel i x hx).1,fun j y hy=>?_⟩
    obtain ⟨z,z1,z2,z3⟩:=(hel i x hx).2 j y hy
    exact ⟨z,z1,z2,z3.monoc (Env.bare_le _ fun b o hk=>hk)⟩
  ·rw [if_neg e] at hid
   have hown:=h.own id b hid
   exact hown.mono hle (fun g' hg'=>hKg g' (hown.ρ_lt hg')) (fun g' _ hl=>hb.block g' hl) (keeps_below hb) (fun l o hl _ hk=>by
    show (if l=g then none else grow w E.K w' l)=none
    rw [hKg l (heap_lt hl)]; exact hk)
 ·intro i j b1 b2 g' hb1 hb2 hg1 hg2
  rw [hlk_cons] at hb1 hb2
  by_cases e:i=me <;> by_cases e':j=me
  ·rw [e,e']
  ·subst e
   rw [if_neg e'] at hb2
   have hg1':(if i=i then some g else E.ρ i)=some g':=hg1
   have hg2':(if j=i then some g else E.ρ j)=some g':=hg2
   rw [if_pos rfl] at hg1'; rw [if_neg e'] at hg2'
   have:=(h.own j b2 hb2).ρ_lt hg2'
   cases hg1'; omega
  ·subst e'
   rw [if_neg e] at hb1
   have hg1':(if i=j then some g else E.ρ i)=some g':=hg1
   have hg2':(if j=j then some g else E.ρ j)=some g':=hg2
   rw [if_pos rfl] at hg2'; rw [if_neg e] at hg1'
   have:=(h.own i b1 hb1).ρ_lt hg1'
   cases hg2'; omega
  ·rw [if_neg e] at hb1; rw [if_neg e'] at hb2
   have hg1':(if i=me then some g else E.ρ i)=some g':=hg1
   have hg2':(if j=me then some g else E.ρ j)=some g':=hg2
   rw [if_neg e] at hg1'; rw [if_neg e'] at hg2'
   exact h.inj i j b1 b2 g' hb1 hb2 hg1' hg2'
end Go.Vai

/- A region that draws its order: whatever the order, it comes to what the text's order comes to. -/
namespace Go.Vai
open Go.RowKit
def ovr:Upd→(Nat→Option Blk)→Nat→Option Blk
 | [],G,id=>G id
 | (d,x) :: r,G,id=>if id=d then x else ovr r G id
theorem hlk_append (upd:Upd) (hp:Hp) (id:Nat):hlk (upd ++ hp) id=ovr upd (hlk hp) id:=by
 induction upd with
 | nil=>rfl
 | cons p r ih=>obtain ⟨d,x⟩:=p; simp only [List.cons_append,hlk_cons,ovr,ih]
theorem ovr_mem {upd:Upd} {id:Nat} (h:id∈upd.map (·.1)) (A B:Nat→Option Blk):ovr upd A id=ovr upd B id:=by
 induction upd with
 | nil=>simp at h
 | cons p r ih=>
  obtain ⟨d,x⟩:=p
  simp only [ovr]
  by_cases e:id=d
  ·rw [if_pos e,if_pos e]
  ·rw [if_neg e,if_neg e]
   simp only [List.map_cons,List.mem_cons] at h
   exact ih (h.resolve_left e)
theorem ovr_not {upd:Upd} {id:Nat} (h:id ∉ upd.map (·.1)) (A:Nat→Option Blk):ovr upd A id=A id:=by
 induction upd with
 | nil=>rfl
 | cons p r ih=>
  obtain ⟨d,x⟩:=p
  simp only [List.map_cons,List.mem_cons,not_or] at h
  simp only [ovr,if_neg h.1]
  exact ih h.2
def evoF (F:Nat→AV):Operand→AV
 | .tmp t=>F t
 | .const c=>.v c
 | .func f=>.fn (.func f) [] []
 | .global _=>.top
theorem evoF_lkp (fr:Frm) (x:Operand):evoF (lkp fr) x=evo fr x:=by cases x <;> rfl
def Runs (X:Ctx) (o:Oper) (ρ:Operand→AV) (H:Nat→Option Blk) (me:Nat) (r:AV) (upd:Upd) (acc:List Nat):Prop:=
 ∀ (w0:World) (K0:Nat→Option Obj) (D:Nat→Prop) (E:Env) (n:Nat) (fr:Frm) (hp:Hp) (a:Act) (w:World),
  Rel w0 K0 D E n fr hp a w→(∀ x∈o.op.operands,evo fr x=ρ x)→(∀ id∈acc,hlk hp id=H id)→¬ E.dom me →
  ∀ (next:Act→World→Prop) (Q:Exit→Act→World→Prop),
   (∀ v w' E',E.le E'→Con E' r v→Rel w0 K0 (fun id=>D id∨id=me) E' n fr (upd ++ hp) a w'→next (a.put o.dst v) w')→o.wpIn (FW X.rd) 0 X.P a w next Q
def GuardIs (all:List Oper) (o:Oper) (F:Nat→AV) (b:Bool):Prop:=
 match o.guard with
 | none=>b=true
 | some (j,want)=>match (all[j]?).bind (·.dst) with
  | none=>b=false
  | some d=>(∃ c,F d=.v (.bool c)∧b=(c == want))∨(∃ xs,F d=.v (.tuple xs)∧b=false)
structure StepIs (X:Ctx) (all:List Oper) (base n i:Nat) (F F':Nat→AV) (G G':Nat→Option Blk) (acc wr:List Nat):Prop where
 mk ::
 mv:∀ (o:Oper) (x:Operand),all[i]? = some o→o.op=.move x→wr=[]
 h:∃ (o:Oper) (go:Bool) (r:AV) (upd:Upd),all[i]? = some o∧GuardIs all o F go∧(∀ d,o.dst=some d→d < n)∧(∀ t,F' t=if o.dst=some t then r else F t)∧(∀ id,G' id=ovr upd G id) ∧
  wr=upd.map (·.1)∧(∀ id∈wr,id∈acc)∧((go=false∧r=.v undef∧upd=[])∨(go=true∧Runs X o (evoF F) G (base + i) r upd acc))
def Traced (X:Ctx) (all:List Oper) (base:Nat) (K:St→Prop) (l:List Oper) (k:Nat) (s:St) (log:Log):Prop:=
  ∃ (F:Nat→Nat→AV) (G:Nat→Nat→Option Blk) (acc wr:Nat→List Nat) (s':St),F k=lkp s.fr∧G k=hlk s.hp ∧
   (∀ i,k≤i→i < k + l.length→StepIs X all base s.n i (F i) (F (i + 1)) (G i) (G (i + 1)) (acc i) (wr i)) ∧
   (∀ i,k≤i→i < k + l.length→∀ e∈log,(meets (wr i) e.2.1=true∨meets e.2.2 (acc i)=true)→anc all all.length i e.1=true) ∧
   (∀ i j,k≤j→j < i→i < k + l.length→(meets (wr i) (acc j)=true∨meets (wr j) (acc i)=true)→anc all all.length i j=true) ∧
   K s'∧F (k + l.length)=lkp s'.fr∧G (k + l.length)=hlk s'.hp∧s'.n=s.n∧s'.nx=s.nx
section
variable {X : Ctx}
theorem runs_aop (hX:X.core) {o:Oper} {ρ:Operand→AV} {H:Nat→Option Blk} {me:Nat} {Kf:AV→Upd→List Nat→Prop} (h:aop X.T o.op ρ H me Kf) :
  ∃ r upd acc,Kf r upd acc∧∀ acc',(∀ id∈acc,id∈acc')→Runs X o ρ H me r upd acc':=by
 obtain ⟨r,upd,acc,hk,hs⟩:=aop_sound hX.T h
 refine ⟨r,upd,acc,hk,fun acc' hacc w0 K0 D E n fr hp a w hr hx hH hme next Q hn=>?_⟩
 obtain ⟨nx,v,w',E',h1,h2,h3,h4,h5⟩:=hs o rfl w0 K0 D E n fr hp a w hr hx (fun id hid=>hH id (hacc id hid)) hme
 refine wpIn_of (aop_nodefer h) ?_
 rw [h1]
 rcases h2 with rfl | ⟨rfl,rfl⟩
 ·exact hn v w' E' h3 h4 h5
 ·exact hn undef w' E' h3 h4 h5
theorem runs_tab (hX:X.core) {o:Oper} {f:Operand} {args:Array Operand} {ts:Array TypeId} (ho:o.op=.call { callee:=.value f,args:=args,argTypes:=ts }) {ρ:Operand→AV} {H:Nat→Option Blk} {me:Nat} {g:FuncId} {first cap:List AV} {r:AV}
  (hf:ρ f=.fn (.func g) first cap) (hC:X.C g (first ++ args.toList.map ρ ++ cap)=some r):Runs X o ρ H me r [] []:=by
 intro w0 K0 D E n fr hp a w hr hx hH hme next Q hn
 have hops:∀ x,x=f∨x∈args→evo fr x=ρ x:=by
  intro x hxx
  refine hx x ?_
  rw [ho]
  simp only [Op.operands,Call.operands,Array.mem_append]
  rcases hxx with rfl | h
  ·exact .inl (by simp)
  ·exact .inr h
 have hfc:=hr.ev f
 rw [hops f (.inl rfl),hf] at hfc
 obtain ⟨xs,ys,hv,hac⟩:=args_con (E:=E) (fr:=fr) (a:=a) (args:=args) hfc (fun x _=>hr.ev x)
 have hmap:args.toList.map (evo fr)=args.toList.map ρ:=List.map_congr_left fun x hxa=>hops x (.inr (by simpa using hxa))
 rw [hmap] at hac
 obtain ⟨hen,hcall⟩:=tab_sound hX hC hr hac
 refine wpIn_of (by rw [ho]; intro c hc; cases hc) ?_
 rw [run_callValue hen ho hv,Oper.uponIn_enter]
 refine ⟨(fun h=>by cases h),callsIn_FW.2 (hcall.mono ?_)⟩
 rintro e w' ⟨v,E',rfl,hle,hc,_,hrel⟩
 exact hn v w' E' hle hc (hrel.names fun id hid=>.inl (hrel.dom id hid))
theorem snapC_con {E:Env} {x:AV} {v:Value} (h:Con E x v):Con E (snapC x) v:=by
 unfold snapC
 split
 ·exact h
 ·exact .top v
theorem snapIds_mem {x:AV} {id:Nat}:∀ {args:List AV},x∈args→id∈snapId x→id∈snapIds args
 | [],h,_=>by cases h
 | y :: r,h,hid=>by
  simp only [snapIds,List.mem_append]
  rcases List.mem_cons.1 h with rfl | h
  ·exact .inl hid
  ·exact .inr (snapIds_mem h hid)
theorem snap1_con {w0:World} {K0:Nat→Option Obj} {D:Nat→Prop} {E:Env} {n:Nat} {fr:Frm} {hp:Hp} {a:Act} {w:World} (hr:Rel w0 K0 D E n fr hp a w) {H:Nat→Option Blk} {x:AV} {v:Value}
  (hH:∀ id∈snapId x,hlk hp id=H id) (hx:Con E x v):Con { E with K:=fun b=>w.heap[b]? } (snap1 H x) v:=by
 have hle:E.le { E with K:=fun b=>w.heap[b]? }:=⟨fun _ d=>d,fun _ _=>rfl,fun _ _=>rfl,fun _ _=>rfl,fun b o hk=>hr.kw b o hk,fun _ _=>rfl,fun _ _ h=>h,rfl⟩
 unfold snap1
 split
 ·rename_i id i off
  split
  ·rename_i b hb
   split
   ·rename_i hi
    cases hx with
    | ptr _ _ _ g hd hg=>
     have hown:=hr.own id b (by rw [hH id (by simp [snapId])]; exact hb)
     obtain ⟨_,hsz,_,_,⟨k1,_⟩ | ⟨g',cur,k1,k2,k3,k4,k5,k6,k7,k8⟩⟩:=hown
     ·rw [k1] at hg; cases hg
     rw [k1] at hg; cases hg
     have hel:b.el[i]? = some (b.el.getD i .top):=by simp [List.getD_eq_getElem?_getD,hi]
     have cell:∀ (j:Nat) (c:AV),(((b.el.getD i .top).cells.drop off).map snapC)[j]? = some c→∃ y,cur[i * b.sz + (off + j)]? = some y∧y.oneCell'=true∧Con E c y:=by
      intro j c hc
      rw [List.getElem?_map,Option.map_eq_some_iff] at hc
      obtain ⟨c0,hc,rfl⟩:=hc
      rw [List.getElem?_drop] at hc
      obtain ⟨y,e1,e2,e3⟩:=(k8 i _ hel).2 (off + j) c0 hc
      exact ⟨y,e1,e2,snapC_con e3⟩
     refine .rptr _ _ (fun j=>(cur[i * b.sz + (off + j)]?).getD undef) ?_ ?_ ?_
     ·intro j c hc
      obtain ⟨y,e,_,_⟩:=cell j c hc
      rw [add_plain',hsz]
      simp only [kcell,k3,e,Option.getD_some,Option.isSome_none,Bool.false_eq_true,if_false]
      rw [show i * b.sz + off + j=i * b.sz + (off + j) by omega]
      exact e
     ·intro j c hc
      obtain ⟨y,e,h',_⟩:=cell j c hc
      simp only [e,Option.getD_some]; exact h'
     ·intro j c hc
      obtain ⟨y,e,_,h'⟩:=cell j c hc
      simp only [e,Option.getD_some]; exact h'.mono hle
   ·exact hx.mono hle
  ·exact hx.mono hle
 ·exact hx.mono hle
theorem runs_snap (hX:X.core) {o:Oper} {f:Operand} {args:Array Operand} {ts:Array TypeId} (ho:o.op=.call { callee:=.value f,args:=args,argTypes:=ts }) {ρ:Operand→AV} {H:Nat→Option Blk} {me:Nat} {g:FuncId} {first cap:List AV} {x:Value}
  (hf:ρ f=.fn (.func g) first cap) (hC:X.C g ((first ++ args.toList.map ρ ++ cap).map (snap1 H))=some (.v x)):Runs X o ρ H me (.v x) [] (snapIds (first ++ args.toList.map ρ ++ cap)):=by
 intro w0 K0 D E n fr hp a w hr hx hH hme next Q hn
 have hops:∀ x,x=f∨x∈args→evo fr x=ρ x:=by
  intro x hxx
  refine hx x ?_
  rw [ho]
  simp only [Op.operands,Call.operands,Array.mem_append]
  rcases hxx with rfl | h
  ·exact .inl (by simp)
  ·exact .inr h
 have hfc:=hr.ev f
 rw [hops f (.inl rfl),hf] at hfc
 obtain ⟨xs,ys,hv,hac⟩:=args_con (E:=E) (fr:=fr) (a:=a) (args:=args) hfc (fun x _=>hr.ev x)
 have hmap:args.toList.map (evo fr)=args.toList.map ρ:=List.map_congr_left fun x hxa=>hops x (.inr (by simpa using hxa))
 rw [hmap] at hac
 obtain ⟨hen,h2,h3⟩:=hX.C g _ _ hC
 refine wpIn_of (by rw [ho]; intro c hc; cases hc) ?_
 rw [run_callValue hen ho hv,Oper.uponIn_enter]
 refine ⟨(fun h=>by cases h),callsIn_FW.2 ?_⟩
 have hcon:ArgsCon (Env.bare fun b=>w.heap[b]?) ((first ++ args.toList.map ρ ++ cap).map (snap1 H)) (xs ++ args.map a.eval ++ ys):=by
  refine ⟨by simpa using hac.1,fun i y v hy hvv=>?_⟩
  rw [List.getElem?_map,Option.map_eq_some_iff] at hy
  obtain ⟨z,hz,rfl⟩:=hy
  have hm:=List.mem_of_getElem? hz
  have hc:=snap1_con hr (H:=H) (fun id hid=>hH id (snapIds_mem hm hid)) (hac.2 i z v hz hvv)
  exact h2 _ (List.mem_map_of_mem hm) _ v hc
 refine (h3 w (fun b=>w.heap[b]?) _ (fun _ _ h=>h) hcon).mono ?_
 rintro e w' ⟨v,rfl,hb,hc⟩
 cases hc
 obtain ⟨hle,hrel⟩:=hr.call hb
 exact hn x w' _ hle (.v _) (hrel.names fun id hid=>.inl (hrel.dom id hid))
theorem runs_frz (hX:X.core) {o:Oper} {f:Operand} {args:Array Operand} {ts:Array TypeId} (ho:o.op=.call { callee:=.value f,args:=args,argTypes:=ts }) {ρ:Operand→AV} {H:Nat→Option Blk} {me:Nat} {g:FuncId} {first cap:List AV} {r:AV}
  (hf:ρ f=.fn (.func g) first cap) (hC:X.C g (frzHs H (first ++ args.toList.map ρ ++ cap)).1=some r):Runs X o ρ H me r (frzHs H (first ++ args.toList.map ρ ++ cap)).2 ((frzHs H (first ++ args.toList.map ρ ++ cap)).2.map (·.1)):=by
 intro w0 K0 D E n fr hp a w hr hx hH hme next Q hn
 have hops:∀ x,x=f∨x∈args→evo fr x=ρ x:=by
  intro x hxx
  refine hx x ?_
  rw [ho]
  simp only [Op.operands,Call.operands,Array.mem_append]
  rcases hxx with rfl | h
  ·exact .inl (by simp)
  ·exact .inr h
 have hfc:=hr.ev f
 rw [hops f (.inl rfl),hf] at hfc
 obtain ⟨xs,ys,hv,hac⟩:=args_con (E:=E) (fr:=fr) (a:=a) (args:=args) hfc (fun x _=>hr.ev x)
 have hmap:args.toList.map (evo fr)=args.toList.map ρ:=List.map_congr_left fun x hxa=>hops x (.inr (by simpa using hxa))
 rw [hmap] at hac
 obtain ⟨E1,e1,e2,e3,e4,e5⟩:=frzHs_sound _ E hp hr (fun id hid=>.inl (hH id hid)) (xs ++ args.map a.eval ++ ys).toList (by simpa using hac.1) fun i x v hx hv=>hac.2 i x v hx (by rw [Array.getElem?_toList] at hv; exact hv)
 obtain ⟨hen,hcall⟩:=tab_sound hX hC e3 (vs:=xs ++ args.map a.eval ++ ys) ⟨by simpa using e4,fun i x v hx hv=>e5 i x v hx (by rw [Array.getElem?_toList]; exact hv)⟩
 refine wpIn_of (by rw [ho]; intro c hc; cases hc) ?_
 rw [run_callValue hen ho hv,Oper.uponIn_enter]
 refine ⟨(fun h=>by cases h),callsIn_FW.2 (hcall.mono ?_)⟩
 rintro e w' ⟨v,E',rfl,hle,hc,_,hrel⟩
 exact hn v w' E' (e1.trans hle) hc (hrel.names fun id hid=>.inl (hrel.dom id hid))
theorem runs_own (hX:X.core) {o:Oper} {f:Operand} {args:Array Operand} {ts:Array TypeId} (ho:o.op=.call { callee:=.value f,args:=args,argTypes:=ts }) {ρ:Operand→AV} {H:Nat→Option Blk} {me:Nat} {g:FuncId} {first cap:List AV} {ty:TypeId} {sz:Nat} {el:List AV}
  (hf:ρ f=.fn (.func g) first cap) (hO:X.O g (first ++ args.toList.map ρ ++ cap)=some (ty,sz,el)):Runs X o ρ H me (.arr me 0 el.length) [(me,some ⟨false,ty,sz,el⟩)] [me]:=by
 intro w0 K0 D E n fr hp a w hr hx hH hme next Q hn
 have hops:∀ x,x=f∨x∈args→evo fr x=ρ x:=by
  intro x hxx
  refine hx x ?_
  rw [ho]
  simp only [Op.operands,Call.operands,Array.mem_append]
  rcases hxx with rfl | h
  ·exact .inl (by simp)
  ·exact .inr h
 have hfc:=hr.ev f
 rw [hops f (.inl rfl),hf] at hfc
 obtain ⟨xs,ys,hv,hac⟩:=args_con (E:=E) (fr:=fr) (a:=a) (args:=args) hfc (fun x _=>hr.ev x)
 have hmap:args.toList.map (evo fr)=args.toList.map ρ:=List.map_congr_left fun x hxa=>hops x (.inr (by simpa using hxa))
 rw [hmap] at hac
 obtain ⟨hen,h2,h3⟩:=hX.O g _ _ _ _ hO
 refine wpIn_of (by rw [ho]; intro c hc; cases hc) ?_
 rw [run_callValue hen ho hv,Oper.uponIn_enter]
 refine ⟨(fun h=>by cases h),callsIn_FW.2 ?_⟩
 refine (h3 w E.K _ hr.kw ⟨hac.1,fun i x v hx hv=>h2 x (List.mem_of_getElem? hx) E v (hac.2 i x v hx hv)⟩).mono ?_
 rintro e w' ⟨g',cur,c,cp,rfl,hb,k1,k2,k3,k4,k5,k6,k7,k8⟩
 obtain ⟨E',q1,q2,q3⟩:=hr.callOwn hb hme k1 k2 k3 k4 k5 k6 k7 k8
 exact hn _ w' E' q1 q2 q3
theorem opsD_trace (hX:X.core) (all:List Oper) {base:Nat} {K:St→Prop}:∀ (l:List Oper) (k:Nat) (s:St) (log:Log),opsD X all l k base s log K→(∀ j o,l[j]? = some o→all[k + j]? = some o)→Traced X all base K l k s log
 | [],k,s,log,h,hl=>⟨fun _=>lkp s.fr,fun _=>hlk s.hp,fun _=>[],fun _=>[],s,rfl,rfl,fun i h1 h2=>by simp at h2; omega,fun i h1 h2=>by simp at h2; omega,fun i j h1 h2 h3=>by simp at h3; omega,h,rfl,rfl,rfl,rfl⟩
 | o :: r,k,s,log,h,hl=>by
  have ho:all[k]? = some o:=by have:=hl 0 o rfl; simpa using this
  have hl':∀ j o',r[j]? = some o'→all[k + 1 + j]? = some o':=fun j o' h=>by have:=hl (j + 1) o' (by simpa using h); simpa [Nat.add_assoc,Nat.add_comm 1 j] using this
  -- the rest,put behind one step
  have fin:∀ (s1:St) (go:Bool) (x:AV) (upd:Upd) (ac:List Nat) (log':Log),lkp s1.fr=lkp s.fr→s1.hp=s.hp→s1.n=s.n→s1.nx=s.nx→GuardIs all o (lkp s.fr) go →
    (putA ⟨s1.n,s1.fr,upd ++ s1.hp,s1.nx⟩ o.dst x fun s'=>opsD X all r (k + 1) base s' log' K)→(∀ id∈upd.map (·.1),id∈ac)→(∀ x',o.op=.move x'→upd=[]) →
    ((go=false∧x=.v undef∧upd=[])∨(go=true∧Runs X o (evoF (lkp s.fr)) (hlk s.hp) (base + k) x upd ac)) →
    ((log'=log∧upd=[]∧ac=[])∨(log'=(k,ac,upd.map (·.1)) :: log∧entryOk all log k ac (upd.map (·.1))=true)) →
    Traced X all base K (o :: r) k s log:=by
   intro s1 go x upd ac log' e1 e2 e3 e4 hg hput hwa hmv hrun hlog
   have hput':∃ s2:St,opsD X all r (k + 1) base s2 log' K∧(∀ t,lkp s2.fr t=if o.dst=some t then x else lkp s.fr t)∧(∀ id,hlk s2.hp id=ovr upd (hlk s.hp) id)∧s2.n=s.n∧s2.nx=s.nx∧(∀ d,o.dst=some d→d < s.n):=by
    cases hd:o.dst with
    | none=>
     rw [hd] at hput
     exact ⟨_,hput,fun t=>by simp [e1],fun id=>by rw [hlk_append,e2],e3,e4,by simp⟩
    | some d=>
     rw [hd] at hput
     refine ⟨_,hput.2,fun t=>?_,fun id=>by rw [hlk_append,e2],e3,e4,fun d' hd'=>by cases hd'; rw [← e3]; exact hput.1⟩
     simp only [lkp_cons,Option.some.injEq,e1]
     by_cases e:t=d
     ·rw [if_pos e,if_pos e.symm]
     ·rw [if_neg e,if_neg (Ne.symm e)]
   obtain ⟨s2,h2,hf,hh,hn2,hnx2,hdn⟩:=hput'
   obtain ⟨F,G,acc,wr,s',f1,f2,f3,f4,f5,f6,f7,f8,f9,f10⟩:=opsD_trace hX all r (k + 1) s2 log' h2 hl'
   have hlen:k + (o :: r).length=k + 1 + r.length:=by simp; omega
   refine ⟨fun i=>if i=k then lkp s.fr else F i,fun i=>if i=k then hlk s.hp else G i,fun i=>if i=k then ac else acc i,fun i=>if i=k then upd.map (·.1) else wr i,s',by simp,by simp,?_,?_,?_,f6,?_,?_,by rw [f9,hn2],by rw [f10,hnx2]⟩
   ·intro i h1 h2
    by_cases e:i=k
    ·subst e
     simp only [if_true,if_neg (show ¬ i + 1=i by omega)]
     refine ⟨fun o' x' ho' hm'=>by rw [ho] at ho'; cases ho'; rw [hmv x' hm']; rfl,o,go,x,upd,ho,hg,hdn,fun t=>by rw [f1]; exact hf t,fun id=>by rw [f2]; exact hh id,rfl,hwa,hrun⟩
    ·simp only [if_neg e,if_neg (show ¬ i + 1=k by omega)]
     have:=f3 i (by omega) (by omega)
     rw [hn2] at this
     exact this
   ·intro i h1 h2 e he hm
    by_cases ei:i=k
    ·subst ei
     simp only [if_true] at hm
     rcases hlog with ⟨_,rfl,rfl⟩ | ⟨_,hen⟩
     ·simp [meets] at hm
     ·have:=List.all_eq_true.1 hen e he
      simp only [Bool.or_eq_true,Bool.not_eq_true',Bool.or_eq_false_iff] at this
      rcases this with ⟨h3,h4⟩ | h3
      ·rcases hm with hm | hm
       ·rw [hm] at h3; cases h3
       ·rw [hm] at h4; cases h4
      ·exact h3
    ·simp only [if_neg ei] at hm
     refine f4 i (by omega) (by omega) e ?_ hm
     rcases hlog with ⟨rfl,_⟩ | ⟨rfl,_⟩
     ·exact he
     ·exact List.mem_cons_of_mem _ he
   ·intro i j h1 h2 h3 hm
    have ei:¬ i=k:=by omega
    by_cases ej:j=k
    ·subst ej
     simp only [if_true,if_neg ei] at hm
     rcases hlog with ⟨_,rfl,rfl⟩ | ⟨rfl,_⟩
     ·simp [meets] at hm
     ·exact f4 i (by omega) (by omega) (j,ac,upd.map (·.1)) List.mem_cons_self hm
    ·simp only [if_neg ei,if_neg ej] at hm
     exact f5 i j (by omega) h2 (by omega) hm
   ·simp only [if_neg (show ¬ k + (o :: r).length=k by simp)]
    rw [hlen]; exact f7
   ·simp only [if_neg (show ¬ k + (o :: r).length=k by simp)]
    rw [hlen]; exact f8
  -- an operation that is wanted
  have go:∀ (s1:St),lkp s1.fr=lkp s.fr→s1.hp=s.hp→s1.n=s.n→s1.nx=s.nx→GuardIs all o (lkp s.fr) true →
    (stepD X o all k base s1 log fun s' log'=>opsD X all r (k + 1) base s' log' K)→Traced X all base K (o :: r) k s log:=by
   intro s1 e1 e2 e3 e4 hg hst
   have hevo:evo s1.fr=evoF (lkp s.fr):=by funext x; rw [← evoF_lkp,e1]
   unfold stepD at hst
   split at hst
   ·rename_i f args ts hop
    split at hst
    ·rename_i g first cap hf
     split at hst
     ·rename_i rr hC
      rw [hevo] at hf hC
      exact fin s1 true rr [] [] log e1 e2 e3 e4 hg (by simpa using hst) (by simp) (fun _ _=>rfl) (.inr ⟨rfl,runs_tab hX hop hf hC⟩) (.inl ⟨rfl,rfl,rfl⟩)
     ·rename_i hC0
      rw [hevo,e2] at hst
      rw [hevo] at hf
      unfold tabS at hst
      split at hst
      ·rename_i x hC
       exact fin s1 true (.v x) [] _ _ e1 e2 e3 e4 hg (by simpa using hst.2) (by simp) (fun _ _=>rfl) (.inr ⟨rfl,runs_snap hX hop hf hC⟩) (.inr ⟨rfl,hst.1⟩)
      ·unfold frzS at hst
       split at hst
       ·rename_i rr hC
        exact fin s1 true rr _ _ _ e1 e2 e3 e4 hg (by simpa only [e2] using hst.2) (fun id hid=>hid) (fun _ h=>by rw [hop] at h; cases h) (.inr ⟨rfl,runs_frz hX hop hf hC⟩) (.inr ⟨rfl,hst.1⟩)
       ·unfold ownS at hst
        split at hst
        ·rename_i ty sz el hO
         exact fin s1 true _ [(base + k,some ⟨false,ty,sz,el⟩)] [base + k] _ e1 e2 e3 e4 hg (show putA ⟨s1.n,s1.fr,(base + k,some ⟨false,ty,sz,el⟩) :: s1.hp,s1.nx⟩ _ _ _ from hst.2) (fun id hid=>by simpa using hid) (fun _ h=>by rw [hop] at h; cases h) (.inr ⟨rfl,runs_own hX hop hf hO⟩) (.inr ⟨rfl,hst.1⟩)
        ·exact hst.elim
    ·exact hst.elim
   ·rw [hevo,e2] at hst
    by_cases hmv:∃ x',o.op=.move x'
    ·obtain ⟨x',hmv⟩:=hmv
     have h2:putA s1 o.dst (evoF (lkp s.fr) x') fun s'=>opsD X all r (k + 1) base s' log K:=by rw [hmv] at hst; exact hst
     obtain ⟨rr,upd,ac,⟨rfl,rfl,rfl⟩,hruns⟩:=runs_aop hX (o:=o) (ρ:=evoF (lkp s.fr)) (H:=hlk s.hp) (me:=base + k) (Kf:=fun r upd acc=>r=evoF (lkp s.fr) x'∧upd=[]∧acc=[]) (by rw [hmv]; exact ⟨rfl,rfl,rfl⟩)
     exact fin s1 true _ [] [] log e1 e2 e3 e4 hg h2 (by simp) (fun _ _=>rfl) (.inr ⟨rfl,hruns [] (by simp)⟩) (.inl ⟨rfl,rfl,rfl⟩)
    obtain ⟨rr,upd,ac,hk,hruns⟩:=runs_aop hX hst
    split at hk
    ·exact fin s1 true rr [] [] log e1 e2 e3 e4 hg hk (by simp) (fun _ _=>rfl) (.inr ⟨rfl,hruns [] (by simp)⟩) (.inl ⟨rfl,rfl,rfl⟩)
    ·obtain ⟨hen,hp⟩:=hk
     exact fin s1 true rr upd (accOf upd ac) _ e1 e2 e3 e4 hg (by rw [e2]; exact hp) (fun id hid=>List.mem_append_left _ hid) (fun x' h=>absurd ⟨x',h⟩ hmv) (.inr ⟨rfl,hruns _ fun id hid=>List.mem_append_right _ hid⟩) (.inr ⟨rfl,hen⟩)
  have skip:∀ (s1:St),lkp s1.fr=lkp s.fr→s1.hp=s.hp→s1.n=s.n→s1.nx=s.nx→GuardIs all o (lkp s.fr) false →
    (putA s1 o.dst (.v undef) fun s'=>opsD X all r (k + 1) base s' log K)→Traced X all base K (o :: r) k s log:=by
   intro s1 e1 e2 e3 e4 hg hp
   exact fin s1 false (.v undef) [] [] log e1 e2 e3 e4 hg (by simpa using hp) (by simp) (fun _ _=>rfl) (.inl ⟨rfl,rfl,rfl⟩) (.inl ⟨rfl,rfl,rfl⟩)
  simp only [opsD,guardA] at h
  cases hg:o.guard with
  | none=>
   rw [hg] at h
   exact go s rfl rfl rfl rfl (by unfold GuardIs; rw [hg]) h
  | some jw=>
   obtain ⟨j,want⟩:=jw
   rw [hg] at h
   simp only at h
   cases hd:(all[j]?).bind (·.dst) with
   | none=>
    rw [hd] at h
    exact skip s rfl rfl rfl rfl (by unfold GuardIs; rw [hg]; simp only [hd]) h
   | some d=>
    rw [hd] at h
    simp only at h
    split at h
    ·rename_i b hb
     obtain ⟨hlt,h1,h2⟩:=h
     have same:∀ c,b=c→lkp ((d,.v (.bool c)) :: s.fr)=lkp s.fr:=by
      intro c hc
      funext t
      rw [lkp_cons]
      by_cases e:t=d
      ·rw [if_pos e,e,hb,hc]
      ·rw [if_neg e]
     by_cases e:b=want
     ·exact go ⟨s.n,(d,.v (.bool want)) :: s.fr,s.hp,s.nx⟩ (same want e) rfl rfl rfl (by unfold GuardIs; rw [hg]; simp only [hd]; exact .inl ⟨b,hb,by simp [e]⟩) (h1 e)
     ·have e':b=!want:=by cases b <;> cases want <;> simp_all
      exact skip ⟨s.n,(d,.v (.bool !want)) :: s.fr,s.hp,s.nx⟩ (same _ e') rfl rfl rfl (by unfold GuardIs; rw [hg]; simp only [hd]; exact .inl ⟨b,hb,by simp [e]⟩) (h2 e')
    ·rename_i xs hb
     exact skip s rfl rfl rfl rfl (by unfold GuardIs; rw [hg]; simp only [hd]; exact .inr ⟨xs,hb,trivial⟩) h
    ·exact h.elim
end
end Go.Vai

/- A region that draws its order, told: any order comes to the state of the text's order. -/
namespace Go.Vai
open Go.RowKit
theorem last_below (p:Nat→Prop):∀ m,(∃ k,k < m∧p k∧∀ j,j < m→p j→j≤k)∨∀ j,j < m→¬ p j
 | 0=>.inr fun j h=>by omega
 | m + 1=>by
  by_cases hp:p m
  ·exact .inl ⟨m,by omega,hp,fun j h _=>by omega⟩
  ·rcases last_below p m with ⟨k,h1,h2,h3⟩ | h
   ·exact .inl ⟨k,by omega,h2,fun j hj hpj=>by
     by_cases e:j=m
     ·subst e; exact absurd hpj hp
     ·exact h3 j (by omega) hpj⟩
   ·exact .inr fun j hj hpj=>by
     by_cases e:j=m
     ·subst e; exact hp hpj
     ·exact h j (by omega) hpj
theorem meets_of {a b:List Nat} {x:Nat} (h1:x∈a) (h2:x∈b):meets a b=true:=by
 unfold meets
 rw [List.any_eq_true]
 exact ⟨x,h1,by simpa using h2⟩
theorem anc_listed {all:List Oper} {S:Nat→Prop} (hcl:∀ i o,S i→all[i]? = some o→∀ e∈o.after.toList,Region.binds .any e=true→S e.on) :
  ∀ (f i k:Nat),anc all f i k=true→(∀ o,all[i]? = some o→∀ e∈o.after.toList,Region.binds .any e=true→S e.on)→S k
 | 0,i,k,h,_=>by cases h
 | f + 1,i,k,h,hp=>by
  simp only [anc] at h
  cases ho:all[i]? with
  | none=>rw [ho] at h; cases h
  | some o=>
   rw [ho] at h
   simp only [List.any_eq_true,Bool.and_eq_true,Bool.or_eq_true,beq_iff_eq] at h
   obtain ⟨e,he,hb,h'⟩:=h
   have hs:=hp o ho e he hb
   rcases h' with rfl | h'
   ·exact hs
   ·exact anc_listed hcl f e.on k h' fun o' ho'=>hcl e.on o' hs ho'
section
variable {X : Ctx} {all : List Oper} {base n : Nat} {sk : Nat → Prop} {F : Nat → Nat → AV} {G : Nat → Nat → Option Blk} {acc wr : Nat → List Nat}
theorem dataOk_spec (h:dataOk all=true) {i j:Nat} (hij:i < j) {x y:Oper} (hx:all[i]? = some x) (hy:all[j]? = some y) :
  (∀ d,x.dst=some d→y.dst≠some d)∧(∀ d,x.dst=some d→d∈y.looksAt all.toArray→anc all all.length j i=true)∧(∀ d,y.dst=some d→d∈x.looksAt all.toArray→anc all all.length j i=true):=by
 unfold dataOk at h
 rw [List.all_eq_true] at h
 have hj:=h j (by rw [List.mem_range]; exact (List.getElem?_eq_some_iff.1 hy).1)
 rw [List.all_eq_true] at hj
 have hi:=hj i (by rw [List.mem_range]; exact hij)
 rw [hx,hy] at hi
 simp only [Bool.and_eq_true] at hi
 obtain ⟨h1,h2⟩:=hi
 refine ⟨fun d hd=>?_,fun d hd hm=>?_,fun d hd hm=>?_⟩
 ·rw [hd] at h1
  simp only [Bool.or_eq_true,Bool.not_eq_true',Bool.or_eq_false_iff,Bool.and_eq_true,bne_iff_ne,beq_eq_false_iff_ne] at h1
  rcases h1 with ⟨_,h1⟩ | ⟨_,h1⟩ <;> exact h1
 ·rw [hd] at h1
  simp only [Bool.or_eq_true,Bool.not_eq_true',Bool.or_eq_false_iff,Bool.and_eq_true] at h1
  rcases h1 with ⟨h1,_⟩ | ⟨h1,_⟩
  ·have:(y.looksAt all.toArray).contains d=true:=by simpa using hm
   rw [this] at h1; cases h1
  ·exact h1
 ·rw [hd] at h2
  simp only [Bool.or_eq_true,Bool.not_eq_true'] at h2
  rcases h2 with h2 | h2
  ·have:(x.looksAt all.toArray).contains d=true:=by simpa using hm
   rw [this] at h2; cases h2
  ·exact h2
def StepOr (X:Ctx) (all:List Oper) (base n i:Nat) (F F':Nat→AV) (G G':Nat→Option Blk) (acc wr:List Nat) (sk:Prop):Prop:=
 StepIs X all base n i F F' G G' acc wr∨(sk∧F'=F∧G'=G∧wr=[])
theorem regs_stay (hs:∀ i,i < all.length→StepOr X all base n i (F i) (F (i + 1)) (G i) (G (i + 1)) (acc i) (wr i) (sk i)) (t:Nat):∀ (q i:Nat),i + q≤all.length →
  (∀ k,i≤k→k < i + q→∀ o,all[k]? = some o→o.dst≠some t)→F (i + q) t=F i t
 | 0,_,_,_=>rfl
 | q + 1,i,hl,h=>by
  rcases hs (i + q) (by omega) with hst | ⟨_,hF,_⟩
  ·obtain ⟨o,go,r,upd,ho,_,_,hF,_⟩:=hst.h
   rw [show i + (q + 1)=i + q + 1 by omega,hF t,if_neg (h (i + q) (by omega) (by omega) o ho)]
   exact regs_stay hs t q i (by omega) fun k h1 h2=>h k h1 (by omega)
  ·rw [show i + (q + 1)=i + q + 1 by omega,hF]
   exact regs_stay hs t q i (by omega) fun k h1 h2=>h k h1 (by omega)
theorem heap_stay (hs:∀ i,i < all.length→StepOr X all base n i (F i) (F (i + 1)) (G i) (G (i + 1)) (acc i) (wr i) (sk i)) (id:Nat):∀ (q i:Nat),i + q≤all.length →
  (∀ k,i≤k→k < i + q→id ∉ wr k)→G (i + q) id=G i id
 | 0,_,_,_=>rfl
 | q + 1,i,hl,h=>by
  rcases hs (i + q) (by omega) with hst | ⟨_,_,hG,_⟩
  ·obtain ⟨o,go,r,upd,ho,_,_,_,hG,hw,_⟩:=hst.h
   rw [show i + (q + 1)=i + q + 1 by omega,hG id,ovr_not (by rw [← hw]; exact h (i + q) (by omega) (by omega))]
   exact heap_stay hs id q i (by omega) fun k h1 h2=>h k h1 (by omega)
  ·rw [show i + (q + 1)=i + q + 1 by omega,hG]
   exact heap_stay hs id q i (by omega) fun k h1 h2=>h k h1 (by omega)
structure Doing (X:Ctx) (all:List Oper) (base n:Nat) (F:Nat→Nat→AV) (G:Nat→Nat→Option Blk) (wr:Nat→List Nat) (w0:World) (K0:Nat→Option Obj) (E0:Env) (S:Nat→Prop) (E:Env) (fr:Frm) (hp:Hp) (a:Act) (w:World):Prop where
 le:E0.le E
 rel:Rel w0 K0 (fun _=>True) E n fr hp a w
 dom:∀ id,E.dom id→E0.dom id∨∃ i,S i∧i < all.length∧id=base + i
 cl:∀ i o,S i→all[i]? = some o→∀ e∈o.after.toList,Region.binds .any e=true→S e.on
 reg:∀ i o t,S i→all[i]? = some o→o.dst=some t→lkp fr t=F (i + 1) t
 reg0:∀ t,(∀ i o,S i→all[i]? = some o→o.dst≠some t)→lkp fr t=F 0 t
 heap:∀ i id,S i→i < all.length→id∈wr i→(∀ j,S j→j < all.length→id∈wr j→j≤i)→hlk hp id=G (i + 1) id
 heap0:∀ id,(∀ i,S i→i < all.length→id ∉ wr i)→hlk hp id=G 0 id
theorem Doing.step {w0:World} {K0:Nat→Option Obj} {E0:Env} {S:Nat→Prop} {E:Env} {fr:Frm} {hp:Hp} {a:Act} {w:World} (hd:dataOk all=true)
  (hs:∀ i,i < all.length→StepOr X all base n i (F i) (F (i + 1)) (G i) (G (i + 1)) (acc i) (wr i) (sk i))
  (hpair:∀ i j,j < i→i < all.length→(meets (wr i) (acc j)=true∨meets (wr j) (acc i)=true)→anc all all.length i j=true)
  (h:Doing X all base n F G wr w0 K0 E0 S E fr hp a w) (hE0:∀ id,E0.dom id→id < base) {i:Nat} {o:Oper} (ho:all[i]? = some o) (hSi:¬ S i) (hsk:¬ sk i)
  (hpre:∀ e∈o.after.toList,Region.binds .any e=true→S e.on) {K:Act→World→Prop} {Q:Exit→Act→World→Prop}
  (hK:∀ E' fr' hp' a' w',Doing X all base n F G wr w0 K0 E0 (fun k=>S k∨k=i) E' fr' hp' a' w'→K a' w'):wpOpIn (FW X.rd) 0 X.P all.toArray Q i K a w:=by
 have hil:i < all.length:=(List.getElem?_eq_some_iff.1 ho).1
 have hancS:∀ k,anc all all.length i k=true→S k:=fun k hk=>anc_listed h.cl _ i k hk fun o' ho'=>by rw [ho] at ho'; cases ho'; exact hpre
 have hnotS:∀ k,anc all all.length k i=true→¬ S k:=fun k hk hSk=>hSi (anc_listed h.cl _ k i hk fun o' ho'=>h.cl k o' hSk ho')
 -- what it looks at is as in the text's order
 have hreg:∀ t,t∈o.looksAt all.toArray→lkp fr t=F i t:=by
  intro t ht
  by_cases hw:∃ (k:Nat) (x:Oper),all[k]? = some x∧x.dst=some t
  ·obtain ⟨k,x,hx,hdx⟩:=hw
   have hkl:k < all.length:=(List.getElem?_eq_some_iff.1 hx).1
   have huniq:∀ (q:Nat) (y:Oper),all[q]? = some y→y.dst=some t→q=k:=by
    intro q y hy hdy
    rcases Nat.lt_trichotomy q k with hlt | e | hlt
    ·exact absurd hdx ((dataOk_spec hd hlt hy hx).1 t hdy)
    ·exact e
    ·exact absurd hdy ((dataOk_spec hd hlt hx hy).1 t hdx)
   rcases Nat.lt_trichotomy k i with hlt | e | hlt
   ·have hS:=hancS k ((dataOk_spec hd hlt hx ho).2.1 t hdx ht)
    rw [h.reg k x t hS hx hdx]
    have:=regs_stay hs t (i - (k + 1)) (k + 1) (by omega) fun q h1 h2 y hy hdy=>by have:=huniq q y hy hdy; omega
    rw [show k + 1 + (i - (k + 1))=i by omega] at this
    exact this.symm
   ·subst e
    rw [h.reg0 t fun q y hSq hy hdy=>by have:=huniq q y hy hdy; subst this; exact hSi hSq]
    have:=regs_stay hs t k 0 (by omega) fun q h1 h2 y hy hdy=>by have:=huniq q y hy hdy; omega
    rw [Nat.zero_add] at this
    exact this.symm
   ·have hS:=hnotS k ((dataOk_spec hd hlt ho hx).2.2 t hdx ht)
    rw [h.reg0 t fun q y hSq hy hdy=>by have:=huniq q y hy hdy; subst this; exact hS hSq]
    have:=regs_stay hs t i 0 (by omega) fun q h1 h2 y hy hdy=>by have:=huniq q y hy hdy; omega
    rw [Nat.zero_add] at this
    exact this.symm
  ·have hno:∀ (q:Nat) (y:Oper),all[q]? = some y→y.dst≠some t:=fun q y hy hdy=>hw ⟨q,y,hy,hdy⟩
   rw [h.reg0 t fun q y _ hy=>hno q y hy]
   have:=regs_stay hs t i 0 (by omega) fun q _ _ y hy=>hno q y hy
   rw [Nat.zero_add] at this
   exact this.symm
 obtain ⟨_,o',go,r,upd,ho',hgd,hdn,hF,hG,hwr,hwa,hrun⟩:StepIs X all base n i (F i) (F (i + 1)) (G i) (G (i + 1)) (acc i) (wr i):=(hs i hil).resolve_right fun h=>hsk h.1
 rw [ho] at ho'; cases ho'
 have hheap:∀ id,id∈acc i→hlk hp id=G i id:=by
  intro id hid
  have hlow:∀ k,k < i→id∈wr k→S k:=fun k hk hkw=>hancS k (hpair i k hk hil (.inr (meets_of hkw hid)))
  have hhigh:∀ k,i < k→k < all.length→id∈wr k→¬ S k:=fun k hk hkl hkw=>hnotS k (hpair k i hk hkl (.inl (meets_of hkw hid)))
  rcases last_below (fun k=>id∈wr k) i with ⟨k,h1,h2,h3⟩ | hno
  ·rw [h.heap k id (hlow k h1 h2) (by omega) h2 fun j hj hjl hjw=>by
    rcases Nat.lt_trichotomy j i with hlt | e | hlt
    ·exact h3 j hlt hjw
    ·subst e; exact absurd hj hSi
    ·exact absurd hj (hhigh j hlt hjl hjw)]
   have:=heap_stay hs id (i - (k + 1)) (k + 1) (by omega) fun q h4 h5 hq=>by have:=h3 q (by omega) hq; omega
   rw [show k + 1 + (i - (k + 1))=i by omega] at this
   exact this.symm
  ·rw [h.heap0 id fun j hj hjl hjw=>by
    rcases Nat.lt_trichotomy j i with hlt | e | hlt
    ·exact hno j hlt hjw
    ·subst e; exact hSi hj
    ·exact hhigh j hlt hjl hjw hj]
   have:=heap_stay hs id i 0 (by omega) fun q _ h5=>hno q (by omega)
   rw [Nat.zero_add] at this
   exact this.symm
 have hguard:Region.wanted o (yielded all.toArray a.tmps)=go:=by
  unfold GuardIs at hgd
  cases hg:o.guard with
  | none=>rw [hg] at hgd; simp only at hgd; rw [hgd]; simp [Region.wanted,hg]
  | some jw=>
   obtain ⟨j,want⟩:=jw
   rw [hg] at hgd
   simp only at hgd
   cases hjd:(all[j]?).bind (·.dst) with
   | none=>rw [hjd] at hgd; simp only at hgd; rw [hgd]; simp [Region.wanted,hg,yielded,hjd]
   | some d=>
    rw [hjd] at hgd
    simp only at hgd
    have hlook:d∈o.looksAt all.toArray:=by
     unfold Oper.looksAt
     rw [hg]
     simp [hjd]
    have hFd:=hreg d hlook
    have hdlt:lkp fr d≠.top→d < n:=fun hne=>Nat.lt_of_not_le fun hle=>hne (h.rel.out d hle)
    have hev:=h.rel.ev (.tmp d)
    simp only [evo,Act.eval] at hev
    rcases hgd with ⟨c,hc,hgo⟩ | ⟨xs,hc,hgo⟩
    ·rw [hFd,hc] at hev
     have hy:=yielded_eq (all:=all) (a:=a) hjd (by rw [h.rel.size]; exact hdlt (by rw [hFd,hc]; simp))
     generalize hv:a.tmps.getD d undef=v at hev hy
     cases hev
     simp only at hy
     simp [Region.wanted,hg,hy,hgo]
    ·rw [hFd,hc] at hev
     have hy:=yielded_eq (all:=all) (a:=a) hjd (by rw [h.rel.size]; exact hdlt (by rw [hFd,hc]; simp))
     generalize hv:a.tmps.getD d undef=v at hev hy
     cases hev
     simp only at hy
     simp [Region.wanted,hg,hy,hgo]
 have hme:¬ E.dom (base + i):=by
  intro hdm
  rcases h.dom _ hdm with h' | ⟨k,hk,_,e⟩
  ·have:=hE0 _ h'; omega
  ·have:k=i:=by omega
   subst this; exact hSi hk
 -- the state behind it
 have next:∀ (v:Value) (E':Env) (w':World),E.le E'→Con E' r v→Rel w0 K0 (fun _=>True) E' n fr (upd ++ hp) a w'→(∀ id,E'.dom id→E.dom id∨id=base + i)→K (a.put o.dst v) w':=by
  intro v E' w' hle hc hrel hdom
  have huniq:∀ (q:Nat) (y:Oper) (t:Nat),all[q]? = some y→y.dst=some t→o.dst=some t→q=i:=by
   intro q y t hy hdy hdo
   rcases Nat.lt_trichotomy q i with hlt | e | hlt
   ·exact absurd hdo ((dataOk_spec hd hlt hy ho).1 t hdy)
   ·exact e
   ·exact absurd hdy ((dataOk_spec hd hlt ho hy).1 t hdo)
  obtain ⟨fr',hfr',hrel'⟩:∃ fr',(∀ t,lkp fr' t=if o.dst=some t then r else lkp fr t)∧Rel w0 K0 (fun _=>True) E' n fr' (upd ++ hp) (a.put o.dst v) w':=by
   cases hdo:o.dst with
   | none=>exact ⟨fr,fun t=>by simp,hrel.skip⟩
   | some d=>
    refine ⟨(d,r) :: fr,fun t=>?_,hrel.put (hdn d hdo) hc⟩
    rw [lkp_cons]
    simp only [Option.some.injEq]
    by_cases e:t=d
    ·rw [if_pos e,if_pos e.symm]
    ·rw [if_neg e,if_neg (Ne.symm e)]
  refine hK E' fr' (upd ++ hp) _ w' { le:=h.le.trans hle,rel:=hrel',dom:=?_,cl:=?_,reg:=?_,reg0:=?_,heap:=?_,heap0:=?_ }
  ·intro id hid
   rcases hdom id hid with h' | h'
   ·exact (h.dom id h').imp_right fun ⟨k,hk,hkl,e⟩=>⟨k,.inl hk,hkl,e⟩
   ·exact .inr ⟨i,.inr rfl,hil,h'⟩
  ·rintro k x (hk | rfl) hx e he hb
   ·exact .inl (h.cl k x hk hx e he hb)
   ·rw [ho] at hx; cases hx; exact .inl (hpre e he hb)
  ·rintro k x t hk hx hdx
   rw [hfr']
   by_cases e:o.dst=some t
   ·have:=huniq k x t hx hdx e
    subst this
    rw [if_pos e,hF t,if_pos e]
   ·rw [if_neg e]
    rcases hk with hk | rfl
    ·exact h.reg k x t hk hx hdx
    ·rw [ho] at hx; cases hx; exact absurd hdx e
  ·intro t ht
   rw [hfr',if_neg (ht i o (.inr rfl) ho)]
   exact h.reg0 t fun k x hk hx=>ht k x (.inl hk) hx
  ·intro k id hk hkl hkw hmax
   rw [hlk_append]
   by_cases e:id∈wr i
   ·have hki:k=i:=by
     have hik:=hmax i (.inr rfl) hil e
     rcases Nat.lt_or_ge i k with hlt | hge
     ·exfalso
      rcases hk with hk | rfl
      ·exact hnotS k (hpair k i hlt hkl (.inl (meets_of hkw (hwa id e)))) hk
      ·omega
     ·omega
    subst hki
    rw [hG id]
    exact ovr_mem (by rw [← hwr]; exact e) _ _
   ·rw [ovr_not (by rw [← hwr]; exact e)]
    rcases hk with hk | rfl
    ·exact h.heap k id hk hkl hkw fun j hj hjl hjw=>hmax j (.inl hj) hjl hjw
    ·exact absurd hkw e
  ·intro id hid
   rw [hlk_append,ovr_not (by rw [← hwr]; exact hid i (.inr rfl) hil)]
   exact h.heap0 id fun k hk hkl=>hid k (.inl hk) hkl
 unfold wpOpIn
 have hoa:all.toArray[i]? = some o:=by simpa using ho
 rw [hoa]
 simp only [hguard]
 rcases hrun with ⟨rfl,rfl,rfl⟩ | ⟨rfl,hrun⟩
 ·simp only [Bool.false_eq_true,if_false]
  exact ⟨fun _ _=>trivial,next undef E w (Env.le.refl E) (.v _) h.rel fun id hid=>.inl hid⟩
 ·simp only [if_true]
  refine hrun w0 K0 E.dom E n fr hp a w (h.rel.names fun _ hd=>hd) ?_ hheap hme _ _ ?_
  ·intro x hx
   cases x with
   | tmp t=>
    simp only [evo,evoF]
    refine hreg t ?_
    unfold Oper.looksAt
    refine List.mem_append_left _ (List.mem_filterMap.2 ⟨.tmp t,by simpa using hx,rfl⟩)
   | const c=>rfl
   | global g=>rfl
   | func f=>rfl
  ·intro v w' E' hle hc hrel
   exact next v E' w' hle hc (hrel.names fun _ _=>trivial) hrel.dom
end
end Go.Vai
