/-
  Buffers and stages, plain (conditions: none). Stages and pipelines, plain (conditions: none). Buffers: what their operations keep (conditions: none). Stages: what items and ends keep (conditions: none). Pipelines: their pipes and ends (conditions: none). A step keeps a state valid (conditions: none). What a step returns is valid (conditions: none). Steps of different stages commute (conditions: none). Pipes form a forest: among some stages there are fewer pipes than stages (conditions: none). A pipeline that runs: what is still to come (conditions: none). A pipeline that runs: a step (conditions: none). A pipeline that runs: until all stages have ended, one can make a step (conditions: none).
-/
import Derived.Test.YtbddckhdbnmamaaGreatAAr
import Derived.Test.YtbddckhdbnmamaaGreatABr
import Derived.Test.YtbddckhdbnmamaaGreatBBr
namespace Go.Proofs.YtbddckhdbnmamaaGreat
open Go Go.RowKit
set_option linter.unusedVariables false
set_option linter.unusedSimpArgs false
set_option maxRecDepth 10000
structure SS where
 held:List Int
 count:Int
 ended:Bool
 deriving DecidableEq
structure CC where
 cap:Int
 granted:Int
 sent:Int
 taken:Int
 items:List Int
 closed:Bool
 deriving DecidableEq
structure FS where
 st:List SS
 cr:List CC
 out:List (List Int)
 drain:Bool
 deriving DecidableEq
def ssZ:SS:=⟨[],0,false⟩
def crZ:CC:=⟨0,0,0,0,[],false⟩
def fsZ:FS:=⟨[],[],[],false⟩
instance:Inhabited SS:=⟨ssZ⟩
instance:Inhabited CC:=⟨crZ⟩
def Ss.pl (s:Ss):SS:=⟨s.held.l,s.count,s.ended⟩
def Cr.pl (c:Cr):CC:=⟨c.cap,c.granted,c.sent,c.taken,c.items.l,c.closed⟩
def Fs.pl (s:Fs):FS:=⟨s.stages.l.map Ss.pl,s.credits.l.map Cr.pl,s.outputs.l.map Sl.l,s.draining⟩
def isIt (n:Int):Bool:=decide (-1099511627776≤n)&&decide (n≤1099511627776)
def crI (c:CC):Int:=
 if c.cap<1∨100<c.cap then 2
 else if c.taken<0∨c.sent<c.taken∨c.granted<c.sent∨1099511627776<c.granted∨c.cap<c.granted - c.taken∨(c.items.length:Int)≠c.sent - c.taken then 1
 else if c.items.all isIt=true then 0 else 1
def reqC (c:CC) (n:Int):CC×Int:=
 if crI c≠0 then (crZ,crI c) else if n<1 then (crZ,2) else if c.closed=true then (crZ,19) else if c.taken+c.cap - c.granted<n then (crZ,18)
 else if 1099511627776<c.granted+n then (crZ,4) else ({c with granted:=c.granted+n},0)
def zc9 (c:CC) (n:Int):CC×Int:=
 if crI c≠0 then (crZ,crI c) else if isIt n=false then (crZ,2) else if c.closed=true then (crZ,19) else if c.sent=c.granted then (crZ,18)
 else ({c with items:=c.items++[n],sent:=c.sent+1},0)
def zbX (c:CC):CC×Int×Int:=
 if crI c≠0 then (crZ,0,crI c) else match c.items with
 | []=>if c.closed=true then (crZ,0,19) else (crZ,0,23)
 |a::r=>({c with items:=r,taken:=c.taken+1},a,0)
def zbK (c:CC):CC×Int:=
 if crI c≠0 then (crZ,crI c) else if c.closed=true then (crZ,19) else ({c with closed:=true},0)
def endC (c:CC):Bool:=decide (crI c=0)&&c.closed&&c.items.isEmpty
def zfJ (c:CC):Int:=if crI c≠0∨c.closed=true then 0 else c.granted - c.sent
def zaD (l:List Bnd) (n:List UInt8):Option Bnd:=l.find? fun b=>decide (b.name=n)
def opAr (o:Int):Int:=if o=8∨o=9 then 0 else if o≤13 then 1 else 2
def opRs (o:Int):Int:=if o≤7 then 1 else 2
def zaT (l:List Bnd) (k o:Int) (n:List UInt8) (ts:List Int):Int×Int:=
 if k=1 then (1,0)
 else if k=2 then (match zaD l n with|none=>(0,7)|some b=>(b.type,0))
 else if k=3 then (if ts.getD 0 0≠(if o=2 then 2 else 1) then (0,15) else ((if o=2 then 2 else 1),0))
 else if ts.getD 0 0≠ts.getD 1 0∨(opAr o≠0∧ts.getD 0 0≠opAr o) then (0,15) else (opRs o,0)
mutual
def tyE (l:List Bnd):Ex→Int×Int
 | .mk k o n _ _ _ es=>match tyEs l es with
  | .inl f=>(0,f)
  | .inr ts=>zaT l k o n ts
def tyEs (l:List Bnd):List Ex→Int⊕List Int
 | []=> .inr []
 |x::r=>if (tyE l x).2≠0 then .inl (tyE l x).2 else match tyEs l r with
  | .inl f=> .inl f
  | .inr ts=> .inr ((tyE l x).1::ts)
end
theorem zcj (l:List Bnd) (e:Ex):tyE l e=match tyEs l e.args.l with| .inl f=>(0,f)| .inr ts=>zaT l e.kind e.op e.name ts:=by
 cases e;simp only[tyE,Ex.kind,Ex.op,Ex.name,Ex.args]
def b01 (b:Bool):Int:=if b=true then 1 else 0
def opE (o a b:Int):Int×Int:=
 if o=3 then (a+b,0)
 else if o=4 then (a - b,0)
 else if o=5 then (if 1099511627776<a.natAbs* b.natAbs then (0,14) else (a* b,0))
 else if o=6 then (if b=0 then (0,24) else (a.tdiv b,0))
 else if o=7 then (if b=0 then (0,24) else (a.tmod b,0))
 else if o=8 then (b01 (decide (a=b)),0)
 else if o=9 then (b01 (!decide (a=b)),0)
 else if o=10 then (b01 (decide (a<b)),0)
 else if o=11 then (b01 (decide (a≤b)),0)
 else if o=12 then (b01 (decide (b<a)),0)
 else if o=13 then (b01 (decide (b≤a)),0)
 else if o=14 then (b01 (!decide (a=0)&& !decide (b=0)),0)
 else (b01 (!decide (a=0)|| !decide (b=0)),0)
def fitV (p:Int×Int):Int×Int:=if p.2≠0 then (0,p.2) else if isIt p.1=true then (p.1,0) else (0,14)
def zbB (l:List Bnd) (k o:Int) (n:List UInt8) (v:Int) (vs:List Int):Int×Int:=
 fitV (if k=1 then (v,0)
 else if k=2 then (match zaD l n with|none=>(0,0)|some b=>(b.value,0))
 else if k=3 then (if o=2 then (1 - vs.getD 0 0,0) else (- vs.getD 0 0,0))
 else opE o (vs.getD 0 0) (vs.getD 1 0))
mutual
def vaE (l:List Bnd):Ex→Int×Int
 | .mk k o n v _ _ es=>match vaEs l es with
  | .inl f=>(0,f)
  | .inr vs=>zbB l k o n v vs
def vaEs (l:List Bnd):List Ex→Int⊕List Int
 | []=> .inr []
 |x::r=>if (vaE l x).2≠0 then .inl (vaE l x).2 else match vaEs l r with
  | .inl f=> .inl f
  | .inr vs=> .inr ((vaE l x).1::vs)
end
theorem zdg (l:List Bnd) (e:Ex):vaE l e=match vaEs l e.args.l with| .inl f=>(0,f)| .inr vs=>zbB l e.kind e.op e.name e.value vs:=by
 cases e;simp only[vaE,Ex.kind,Ex.op,Ex.name,Ex.value,Ex.args]
def xN:List UInt8:=[120]
def yN:List UInt8:=[121]
def etyp (k:Int):Int:=if k=2∨k=9 then 1 else if k=3∨k=7 then 2 else 0
def zC (k:Int):Int:=if k=4 then 1 else 0
def zL (k:Int):Int:=if k=4∨k=5 then 100 else if k=6 then 200 else 0
def zdP (k:Int):List (List UInt8):=if k=9 then [xN,yN] else if k=2∨k=3∨k=7 then [xN] else []
def bnd2 (a b:Int):List Bnd:=[⟨xN,1,a⟩,⟨yN,1,b⟩]
def ckE (k:Int) (e:Ex):Int:=
 if zB e≠0 then zB e
 else if (zb2 e).all (fun s=>decide (s∈zdP k))=false then 5
 else if tyE (bnd2 0 0) e=(etyp k,0) then 0 else 15
def sgI (x:Sg):Int:=
 if x.kind<1∨10<x.kind then 8
 else if (zL x.kind=0∧x.size≠0)∨(etyp x.kind=0∧zaS x.expr=false)∨(x.kind≠1∧x.items.l≠[]) then 1
 else if x.size<zC x.kind∨zL x.kind<x.size then 2
 else if 200<x.items.l.length then 4
 else if x.items.l.all isIt=false then 2
 else if etyp x.kind=0 then 0 else ckE x.kind x.expr
def inK (k:Int):Nat:=if k=1 then 0 else if k=8∨k=9 then 2 else 1
def outK (k:Int):Nat:=if k=10 then 0 else if k=7 then 2 else 1
def inN (x:Sg):Nat:=if sgI x≠0 then 0 else inK x.kind
def outN (x:Sg):Nat:=if sgI x≠0 then 0 else outK x.kind
def evX (x:Sg) (a b:Int):Int×Int:=vaE (bnd2 a b) x.expr
def zN (x:Sg):Int:=if x.kind=1 then x.items.l.length else if x.kind=6 then x.size else if x.kind=8 then 1 else if x.kind=9 then 3 else 0
def zX (x:Sg):Int:=if x.kind=8 then 2 else if x.kind=9 then 1 else if x.kind=4 then x.size - 1 else 0
def zag:List Int→Bool
 | []=>true
 | [a]=>decide (a=0)||decide (a=1)
 | [a,b]=>decide (a=0)&&decide (b=1)
 |_=>false
def ssB (x:Sg) (s:SS):Bool:=
 decide (0≤s.count∧s.count≤zN x∧(s.held.length:Int)≤zX x)&&s.held.all isIt&&
 (if x.kind=4 then !s.ended||s.held.isEmpty
 else if x.kind=8 then zag s.held&&(s.ended==decide (s.held.length=2))
 else if x.kind=9 then (s.ended==decide (s.count=3))&&(decide (s.count<2)||s.held.isEmpty)
 else true)
def za2 (x:Sg) (s:SS) (i:Int):Bool:=
 if x.kind=8 then decide (i∈s.held) else if x.kind=9 then decide (s.count=3∨s.count=i+1) else s.ended
def zan (x:Sg) (s:SS):Int:=if sgI x≠0 then sgI x else if ssB x s=true then 0 else 1
def za8 (x:Sg) (s:SS):Int:=
 if x.kind=8 then (if s.count∈s.held then 1 - s.count else s.count)
 else if x.kind=9∧(za2 x s 0=true∨s.held≠[]) then 1 else 0
def zet (x:Sg) (s:SS):List Int:=if s.ended=true∨x.kind=1 then [] else [za8 x s]
def sumB:List Int→Int→Int×Int
 | [],n=>(n,0)
 |a::r,n=>if isIt (n+a)=true then sumB r (n+a) else (0,14)
def zr (x:Sg) (s:SS) (i n:Int):SS×List (List Int)×Int:=
 if x.kind=1 then ({s with count:=s.count+1},[[x.items.l.getD s.count.toNat 0]],0)
 else if x.kind=2 then (if (evX x n 0).2≠0 then (ssZ,[],(evX x n 0).2) else (s,[[(evX x n 0).1]],0))
 else if x.kind=3 then (if (evX x n 0).2≠0 then (ssZ,[],(evX x n 0).2) else (s,[if (evX x n 0).1=1 then [n] else []],0))
 else if x.kind=4 then
  (if ((s.held.length:Int)+1<x.size) then ({s with held:=s.held++[n]},[[]],0)
  else if (sumB (s.held++[n]) 0).2≠0 then (ssZ,[],(sumB (s.held++[n]) 0).2) else ({s with held:=[]},[[(sumB (s.held++[n]) 0).1]],0))
 else if x.kind=5 then (s,[List.replicate x.size.toNat n],0)
 else if x.kind=6 then (if s.count<x.size then ({s with count:=s.count+1},[[n]],0) else (s,[[]],0))
 else if x.kind=7 then (if (evX x n 0).2≠0 then (ssZ,[],(evX x n 0).2) else (s,if (evX x n 0).1=1 then [[n],[]] else [[],[n]],0))
 else if x.kind=8 then ({s with count:=1 - i},[[n]],0)
 else if x.kind=9 then
  (if i=0 then (if 2≤s.count then (s,[[]],0) else ({s with held:=[n]},[[]],0))
  else match s.held with
   | []=>(s,[[]],0)
   |a::_=>if (evX x a n).2≠0 then (ssZ,[],(evX x a n).2) else ({s with held:=[]},[[(evX x a n).1]],0))
 else (s,[],0)
def zbW (x:Sg) (s:SS) (i n:Int):Int:=
 if zan x s≠0 then zan x s
 else if s.ended=true∨(x.kind=1∧(i≠ -1∨s.count=x.items.l.length))∨(x.kind≠1∧za8 x s≠i) then 17
 else if isIt n=false∨(x.kind=1∧n≠0) then 2 else 0
def zcU (x:Sg) (s:SS) (i n:Int):SS×List (List Int)×Int:=
 if zbW x s i n≠0 then (ssZ,[],zbW x s i n) else zr x s i n
def endE (x:Sg) (s:SS) (i:Int):Int:=
 if zan x s≠0 then zan x s
 else if (x.kind=1∧i≠ -1)∨(x.kind≠1∧(i<0∨(inK x.kind:Int)≤i)) then 2
 else if s.ended=true∨(x.kind≠1∧za2 x s i=true) then 17 else 0
def endK (x:Sg) (s:SS) (i:Int):SS×List (List Int)×Int:=
 if x.kind=4 then
  (if s.held=[] then ({s with ended:=true},[[]],0)
  else if (sumB s.held 0).2≠0 then (ssZ,[],(sumB s.held 0).2) else (⟨[],s.count,true⟩,[[(sumB s.held 0).1]],0))
 else if x.kind=8 then (if s.held=[] then ({s with held:=[i]},[[]],0) else (⟨[0,1],s.count,true⟩,[[]],0))
 else if x.kind=9 then (⟨if i=1 then [] else s.held,s.count+i+1,decide (s.count+i+1=3)⟩,[[]],0)
 else ({s with ended:=true},List.replicate (outK x.kind) [],0)
def endS (x:Sg) (s:SS) (i:Int):SS×List (List Int)×Int:=
 if endE x s i≠0 then (ssZ,[],endE x s i) else endK x s i
def pidx (p:Pi→Bool):List Pi→Nat→Int
 | [],_=> -1
 |a::r,k=>if p a=true then k else pidx p r (k+1)
def pOut (x:Pl) (i n:Int):Int:=pidx (fun y=>decide (y.src=i)&&decide (y.output=n)) x.pipes.l 0
def pIn (x:Pl) (i n:Int):Int:=pidx (fun y=>decide (y.dst=i)&&decide (y.input=n)) x.pipes.l 0
def sgAt (x:Pl) (i:Int):Sg:=x.stages.l.getD i.toNat default
def piI (x:Pl) (k:Nat) (y:Pi):Int:=
 if y.src<0∨(x.stages.l.length:Int)≤y.src∨y.dst<0∨(x.stages.l.length:Int)≤y.dst∨y.capacity<1∨100<y.capacity then 2
 else if y.output<0∨(outN (sgAt x y.src):Int)≤y.output∨y.input<0∨(inN (sgAt x y.dst):Int)≤y.input then 2
 else if pOut x y.src y.output<k∨pIn x y.dst y.input<k then 6
 else if (sgAt x y.src).kind=5∧y.capacity<(sgAt x y.src).size then 2 else 0
def zaV {α:Type} (f:α→Int):List α→Int
 | []=>0
 |a::r=>if f a≠0 then f a else zaV f r
def pisI (x:Pl):List Pi→Nat→Int
 | [],_=>0
 |y::r,k=>if piI x k y≠0 then piI x k y else pisI x r (k+1)
def ends (l:List Sg):Nat:=(l.map fun s=>inN s+outN s).sum
def zeu (g:List Int) (y:Pi):Option (List Int):=
 let a:=g.getD y.src.toNat 0
 let b:=g.getD y.dst.toNat 0
 if a=b then none else some (g.map fun c=>if c=b then a else c)
def zbI:List Pi→List Int→Option (List Int)
 | [],g=>some g
 |y::r,g=>match zeu g y with|none=>none|some g'=>zbI r g'
def idsG (n:Nat):List Int:=(List.range n).map fun (i:Nat)=>(i:Int)
def cyc (x:Pl):Bool:=(zbI x.pipes.l (idsG x.stages.l.length)).isNone
def plI (x:Pl):Int:=
 if x.stages.l.length=0∨16<x.stages.l.length then 4
 else if zaV sgI x.stages.l≠0 then zaV sgI x.stages.l
 else if 32<x.pipes.l.length then 4
 else if pisI x x.pipes.l 0≠0 then pisI x x.pipes.l 0
 else if ends x.stages.l≠2* x.pipes.l.length then 10
 else if cyc x=true then 21 else 0
def zK (l:List Sg):Nat:=(l.filter fun s=>decide (s.kind=10)).length
def zac (x:Sg) (s:SS) (i:Int):Bool:=
 if x.kind=8 then decide (i∈s.held)
 else if x.kind=9 then (if i=0 then decide (s.count=1∨s.count=3) else decide (2≤s.count))
 else s.ended
def stAt (s:FS) (i:Int):SS:=s.st.getD i.toNat ssZ
def crAt (s:FS) (i:Int):CC:=s.cr.getD i.toNat crZ
def crOk (x:Pl) (s:FS) (c:CC) (y:Pi):Bool:=
 decide (crI c=0)&&decide (c.cap=y.capacity)&&(c.closed==(stAt s y.src).ended)&&(c.closed||decide (c.granted=c.taken+c.cap))&&
 (!zac (sgAt x y.dst) (stAt s y.dst) y.input||endC c)
def fsB (x:Pl) (s:FS):Bool:=
 decide (s.st.length=x.stages.l.length)&&decide (s.cr.length=x.pipes.l.length)&&decide (s.out.length=zK x.stages.l)&&
 s.out.all (fun l=>decide (l.length≤200)&&l.all isIt)&&all2 (fun g t=>decide (zan g t=0)) x.stages.l s.st&&all2 (crOk x s) s.cr x.pipes.l
def vaI (x:Pl) (s:FS):Int:=if plI x=0∧fsB x s=true then 0 else 1
structure MV where
 kind:Int
 st:SS
 out:List (List Int)
 pipe:Int
 item:Int
 e:Int
def mvZ:MV:=⟨0,ssZ,[],0,0,0⟩
def zad (x:Pl) (s:FS) (i:Int):MV:=
 let y:=sgAt x i
 let t:=stAt s i
 if t.ended=true then mvZ
 else if y.kind=1 then
  (if s.drain=false∧t.count<y.items.l.length then (let r:=zcU y t (-1) 0;⟨1,r.1,r.2.1, -1,0,r.2.2⟩)
  else (let r:=endS y t (-1);⟨3,r.1,r.2.1, -1,0,r.2.2⟩))
 else (let n:=za8 y t;let k:=pIn x i n;let c:=crAt s k
  match c.items with
  |a::_=>(let r:=zcU y t n a;⟨2,r.1,r.2.1,k,a,r.2.2⟩)
  | []=>if endC c=true then (let r:=endS y t n;⟨3,r.1,r.2.1, -1,0,r.2.2⟩) else mvZ)
def fitO (x:Pl) (s:FS) (i:Int):List (List Int)→Nat→Bool
 | [],_=>true
 |l::r,n=>decide ((l.length:Int)≤zfJ (crAt s (pOut x i n)))&&fitO x s i r (n+1)
def enB (x:Pl) (s:FS) (i:Int):Bool:=
 !decide ((zad x s i).kind=0)&&(!decide ((zad x s i).e=0)||fitO x s i (zad x s i).out 0)
def enL (x:Pl) (s:FS):List Int:=(idsG x.stages.l.length).filter (enB x s)
def zas (c:CC):CC×Int:=if (zbX c).1.closed=true then ((zbX c).1,0) else reqC (zbX c).1 1
def putC:List Int→CC→CC
 | [],c=>c
 |n::r,c=>putC r (zc9 c n).1
def zbr (x:Pl) (i:Int) (e:Bool):List (List Int)→Nat→List CC→List CC
 | [],_,l=>l
 |o::r,n,l=>
  let k:=(pOut x i n).toNat
  let c:=putC o (l.getD k crZ)
  zbr x i e r (n+1) (l.set k (if e=true then (zbK c).1 else c))
def zbp (x:Pl) (s:FS) (i:Int):FS×Int:=
 if vaI x s≠0 then (fsZ,vaI x s)
 else if i<0∨(x.stages.l.length:Int)≤i then (fsZ,2)
 else if enB x s i=false then (fsZ,25)
 else
  let m:=zad x s i
  let k:=zK (x.stages.l.take i.toNat)
  if m.e≠0 then (fsZ,m.e)
  else if m.kind=2∧(sgAt x i).kind=10∧(s.out.getD k []).length=200 then (fsZ,4)
  else
   let out:=if m.kind=2∧(sgAt x i).kind=10 then s.out.set k (s.out.getD k []++[m.item]) else s.out
   let c:=zas (crAt s m.pipe)
   if m.kind=2∧c.2≠0 then (fsZ,c.2)
   else (⟨s.st.set i.toNat m.st,zbr x i m.st.ended m.out 0 (if m.kind=2 then s.cr.set m.pipe.toNat c.1 else s.cr),out,s.drain⟩,0)
theorem zO (n:Int):isIt n=true↔ -1099511627776≤n∧n≤1099511627776:=by simp[isIt]
structure CrV (c:CC):Prop where
 c1:1≤c.cap
 c2:c.cap≤100
 t0:0≤c.taken
 ts:c.taken≤c.sent
 sg:c.sent≤c.granted
 gm:c.granted≤1099511627776
 gc:c.granted - c.taken≤c.cap
 len:(c.items.length:Int)=c.sent - c.taken
 all:∀n∈c.items,isIt n=true
theorem zaO (c:CC):crI c=0↔CrV c:=by
 unfold crI
 constructor
 .intro h
  split at h
  .cases h
  .rename_i h1
   split at h
   .cases h
   .rename_i h2
    split at h
    .rename_i h3
     exact⟨by omega,by omega,by omega,by omega,by omega,by omega,by omega,by omega,by simpa using h3⟩
    .cases h
 .intro h
  obtain⟨a,b,c,d,e,f,g,i,j⟩:=h
  rw[if_neg (by omega),if_neg (by omega),if_pos (by simpa using j)]
theorem zph {c:CC} {n:Int} (h:CrV c) (hn:isIt n=true) (hc:c.closed=false) (hr:c.sent<c.granted):zc9 c n=({c with items:=c.items++[n],sent:=c.sent+1},0):=by
 have h1:=(zaO c).2 h
 unfold zc9
 rw[if_neg (by simp[h1]),if_neg (by simp[hn]),if_neg (by simp[hc]),if_neg (by omega)]
theorem zuE {c:CC} {n:Int} (h:CrV c) (hn:isIt n=true) (hr:c.sent<c.granted):CrV {c with items:=c.items++[n],sent:=c.sent+1}:=by
 obtain⟨a,b,t,d,e,f,g,i,j⟩:=h
 refine⟨a,b,t,by simp only;omega,by simp only;omega,f,g,by simp only[List.length_append,List.length_singleton];omega,fun m hm=>?_⟩
 simp only[List.mem_append,List.mem_singleton]at hm
 rcases hm with hm|rfl
 .exact j m hm
 .exact hn
theorem zmI:∀(l:List Int) {c:CC},CrV c→(∀n∈l,isIt n=true)→c.closed=false→c.sent+l.length≤c.granted→
  putC l c={c with items:=c.items++l,sent:=c.sent+l.length}∧CrV {c with items:=c.items++l,sent:=c.sent+l.length}
 | [],c,h,_,_,_=>by simpa[putC]using h
 |n::r,c,h,hn,hc,hr=>by
  have h0:c.sent<c.granted:=by simp only[lLc]at hr;omega
  have h1:=zph h (hn n (by simp)) hc h0
  have h2:=zmI r (c:={c with items:=c.items++[n],sent:=c.sent+1}) (zuE h (hn n (by simp)) h0) (fun m hm=>hn m (by simp[hm])) hc (by simp only[lLc]at hr;simp only;omega)
  simp only[putC,h1]
  simp only[List.append_assoc,List.singleton_append]at h2
  have e:c.sent+1+(r.length:Int)=c.sent+((n::r).length:Nat):=by simp only[lLc];omega
  rw[e]at h2
  exact h2
theorem zog {c:CC} (h:CrV c) (hc:c.closed=false):zbK c=({c with closed:=true},0):=by
 have h1:=(zaO c).2 h
 unfold zbK
 rw[if_neg (by simp[h1]),if_neg (by simp[hc])]
theorem zt6 {c:CC} {b:Bool} (h:CrV c):CrV {c with closed:=b}:=⟨h.c1,h.c2,h.t0,h.ts,h.sg,h.gm,h.gc,h.len,h.all⟩
theorem zeT {c:CC} (h:CrV c):endC c=true↔c.closed=true∧c.items=[]:=by
 unfold endC
 simp[(zaO c).2 h]
theorem zdQ {c:CC} (h:CrV c) (hc:c.closed=false):zfJ c=c.granted - c.sent:=by
 unfold zfJ
 rw[if_neg (by simp[(zaO c).2 h,hc])]
def zbM (c:CC):CC:=⟨c.cap,if c.closed=true then c.granted else c.granted+1,c.sent,c.taken+1,c.items.tail,c.closed⟩
theorem zck {c:CC} {a:Int} {r:List Int} (h:CrV c) (hi:c.items=a::r) (hg:c.closed=true∨c.granted=c.taken+c.cap):
  zas c=if c.closed=true∨c.granted+1≤1099511627776 then (zbM c,0) else (crZ,4):=by
 have h0:=(zaO c).2 h
 have h1:zbX c=({c with items:=r,taken:=c.taken+1},a,0):=by
  unfold zbX
  rw[if_neg (by simp[h0]),hi]
 have hl:=h.len
 rw[hi,lLc]at hl
 have hv:CrV {c with items:=r,taken:=c.taken+1}:=
  ⟨h.c1,h.c2,by have:=h.t0;simp only;omega,by simp only;omega,h.sg,h.gm,by have:=h.gc;simp only;omega,by simp only;omega,fun n hn=>h.all n (by rw[hi];simp[hn])⟩
 unfold zas
 rw[h1]
 simp only
 by_cases hc:c.closed=true
 .rw[if_pos hc,if_pos (.inl hc)]
  simp[zbM,hc,hi]
 .rw[if_neg hc]
  have hg':=hg.resolve_left hc
  have h2:=(zaO _).2 hv
  unfold reqC
  rw[if_neg (by simp[h2]),if_neg (by omega),if_neg (by simpa using hc),if_neg (by simp only;omega)]
  simp only
  by_cases hm:1099511627776<c.granted+1
  .rw[if_pos hm,if_neg (by simp[hc];omega)]
  .rw[if_neg hm,if_pos (.inr (by omega))]
   simp[zbM,hc,hi]
theorem zut {c:CC} {a:Int} {r:List Int} (h:CrV c) (hi:c.items=a::r) (hg:c.closed=true∨c.granted=c.taken+c.cap) (hm:c.closed=true∨c.granted+1≤1099511627776):CrV (zbM c):=by
 have hl:=h.len
 rw[hi,lLc]at hl
 unfold zbM
 by_cases hc:c.closed=true
 .simp only[hc,if_true,hi,List.tail_cons]
  exact⟨h.c1,h.c2,by have:=h.t0;simp only;omega,by simp only;omega,h.sg,h.gm,by have:=h.gc;simp only;omega,by simp only;omega,fun n hn=>h.all n (by rw[hi];simp at hn;simp[hn])⟩
 .have hg':=hg.resolve_left hc
  have hm':=hm.resolve_left hc
  simp only[hc,if_false,hi,List.tail_cons]
  exact⟨h.c1,h.c2,by have:=h.t0;simp only;omega,by simp only;omega,by have:=h.sg;simp only;omega,by simp only;omega,by simp only;omega,by simp only;omega,fun n hn=>h.all n (by rw[hi];simp at hn;simp[hn])⟩
theorem zdO {x:Sg} (h:sgI x=0):1≤x.kind∧x.kind≤10:=by
 unfold sgI at h
 split at h
 .cases h
 .omega
theorem zbq {x:Sg} (h:sgI x=0):zC x.kind≤x.size∧(x.size≤zL x.kind):=by
 unfold sgI at h
 split at h
 .cases h
 .split at h
  .cases h
  .split at h
   .cases h
   .omega
theorem zj2 {x:Sg} (h:sgI x=0):x.items.l.length≤200∧∀n∈x.items.l,isIt n=true:=by
 unfold sgI at h
 split at h
 .cases h
 .split at h
  .cases h
  .split at h
   .cases h
   .split at h
    .cases h
    .split at h
     .cases h
     .rename_i h5
      exact⟨by omega,by simpa using h5⟩
theorem zx {x:Sg} {s:SS}:zan x s=0↔sgI x=0∧ssB x s=true:=by
 unfold zan
 by_cases h1:sgI x=0
 .simp[h1]
 .simp[h1]
theorem zrX {p:Int×Int} (h:(fitV p).2=0):isIt (fitV p).1=true:=by
 unfold fitV at *
 split at h
 .rename_i h1;exact absurd h h1
 .rename_i h1
  split at h
  .rename_i h2;rw[if_neg h1,if_pos h2];exact h2
  .cases h
theorem zvu {x:Sg} {a b:Int} (h:(evX x a b).2=0):isIt (evX x a b).1=true:=by
 unfold evX at *
 rw[zdg]at *
 split at h
 .simp only at h;subst h;rfl
 .unfold zbB at *
  exact zrX h
theorem zmr:∀(l:List Int) (n:Int),isIt n=true→(sumB l n).2=0→isIt (sumB l n).1=true
 | [],n,h,_=>h
 |a::r,n,h,h0=>by
  unfold sumB at *
  split at h0
  .rename_i h1;rw[if_pos h1];exact zmr r _ h1 h0
  .cases h0
structure MvOk (x:Sg) (t:SS) (o:List (List Int)):Prop where
 ok:zan x t=0
 len:o.length=outK x.kind
 all:∀l∈o,∀n∈l,isIt n=true
theorem zQ {x:Sg} {s:SS} (h:ssB x s=true):0≤s.count∧s.count≤zN x∧(s.held.length:Int)≤zX x∧∀n∈s.held,isIt n=true:=by
 simp only[ssB,bAt,dTe,lAt]at h
 exact⟨h.1.1.1,h.1.1.2.1,h.1.1.2.2,h.1.2⟩
theorem zdU (k:Int):outK k≤2:=by unfold outK;split;omega;split<;>omega
theorem zdW {x:Sg} {s:SS} {i n:Int} (h0:zbW x s i n=0) (h1:(zr x s i n).2.2=0):
  MvOk x (zr x s i n).1 (zr x s i n).2.1∧(zr x s i n).1.ended=false∧∀j,zac x (zr x s i n).1 j=zac x s j:=by
 unfold zbW at h0
 split at h0
 .rename_i h;exact absurd h0 h
 rename_i hne
 split at h0
 .cases h0
 rename_i hst
 split at h0
 .cases h0
 rename_i hn
 have hne0:zan x s=0:=by omega
 obtain⟨hg,hs⟩:=zx.1 hne0
 obtain⟨hk1,hk2⟩:=zdO hg
 have hsz:=zbq hg
 have hit:=zj2 hg
 have hnn:isIt n=true:=by
  cases h:isIt n with
  |true=>rfl
  |false=>exact absurd (.inl h) hn
 have he:s.ended=false:=by
  cases h:s.ended with
  |false=>rfl
  |true=>exact absurd (.inl h) hst
 obtain⟨f1,f2,f3,f4⟩:=zQ hs
 by_cases k1:x.kind=1
 .have hc:s.count≠x.items.l.length:=fun e=>hst (.inr (.inl ⟨k1,.inr e⟩))
  have hm:zN x=x.items.l.length:=by simp[zN,k1]
  have hlt:s.count.toNat<x.items.l.length:=by omega
  simp only[zr,k1,if_true]
  refine⟨⟨zx.2 ⟨hg,?_⟩,by simp[outK,k1],?_⟩,he,fun j=>by simp[zac,k1]⟩
  .simp only[ssB,k1]at hs⊢
   simp only[hm,zX,k1]at hs⊢
   simp at hs⊢
   refine⟨⟨by omega,by omega,hs.1.2.2⟩,hs.2⟩
  .intro l hl m hm
   simp only[List.mem_singleton]at hl
   subst hl
   simp only[List.mem_singleton]at hm
   subst hm
   refine hit.2 _ ?_
   rw[gEd,gEg hlt]
   exact List.getElem_mem hlt
 by_cases k2:x.kind=2
 .simp only[zr,k2]at h1⊢
  simp at h1⊢
  by_cases hv:(evX x n 0).2=0
  .simp only[hv,if_true]at h1⊢
   refine⟨⟨hne0,by simp[outK,k2],by simpa using zvu hv⟩,he,fun j=>trivial⟩
  .rw[if_neg hv]at h1;exact absurd h1 hv
 by_cases k3:x.kind=3
 .simp only[zr,k3]at h1⊢
  simp at h1⊢
  by_cases hv:(evX x n 0).2=0
  .simp only[hv,if_true]at h1⊢
   refine⟨⟨hne0,by simp[outK,k3],?_⟩,he,fun j=>trivial⟩
   intro l hl m hm
   simp only[List.mem_singleton]at hl
   subst hl
   split at hm
   .simp at hm;subst hm;exact hnn
   .cases hm
  .rw[if_neg hv]at h1;exact absurd h1 hv
 by_cases k4:x.kind=4
 .have hmH:zX x=x.size - 1:=by simp[zX,k4]
  have hmC:zN x=0:=by simp[zN,k4]
  simp only[zr,k4]at h1⊢
  simp at h1⊢
  by_cases hv:(s.held.length:Int)+1<x.size
  .simp only[hv,if_true]at h1⊢
   refine⟨⟨zx.2 ⟨hg,?_⟩,by simp[outK,k4],by simp⟩,he,fun j=>by simp[zac,k4]⟩
   simp only[ssB,k4,hmH,hmC]at hs⊢
   simp[he]at hs⊢
   exact⟨⟨f1,by omega,by omega⟩,f4,hnn⟩
  .simp only[hv,if_false]at h1⊢
   by_cases hw:(sumB (s.held++[n]) 0).2=0
   .simp only[hw,if_true]at h1⊢
    refine⟨⟨zx.2 ⟨hg,?_⟩,by simp[outK,k4],?_⟩,he,fun j=>by simp[zac,k4]⟩
    .simp only[ssB,k4,hmH,hmC]at hs⊢
     simp[he]at hs⊢
     have:zC x.kind=1:=by simp[zC,k4]
     omega
    .simpa using zmr _ _ (by rfl) hw
   .rw[if_neg hw]at h1;exact absurd h1 hw
 by_cases k5:x.kind=5
 .simp only[zr,k5]at h1⊢
  simp at h1⊢
  refine⟨⟨hne0,by simp[outK,k5],?_⟩,he⟩
  intro l hl m hm
  simp only[List.mem_singleton]at hl
  subst hl
  have:=(List.mem_replicate.1 hm).2
  subst this
  exact hnn
 by_cases k6:x.kind=6
 .have hmC:zN x=x.size:=by simp[zN,k6]
  have hmH:zX x=0:=by simp[zX,k6]
  simp only[zr,k6]at h1⊢
  simp at h1⊢
  by_cases hv:s.count<x.size
  .simp only[hv,if_true]at h1⊢
   refine⟨⟨zx.2 ⟨hg,?_⟩,by simp[outK,k6],by simpa using hnn⟩,he,fun j=>by simp[zac,k6]⟩
   simp only[ssB,k6,hmC,hmH]at hs⊢
   simp at hs⊢
   exact⟨⟨by omega,by omega,hs.1.2.2⟩,hs.2⟩
  .simp only[hv,if_false]at h1⊢
   exact⟨⟨hne0,by simp[outK,k6],by simp⟩,he,fun j=>trivial⟩
 by_cases k7:x.kind=7
 .simp only[zr,k7]at h1⊢
  simp at h1⊢
  by_cases hv:(evX x n 0).2=0
  .simp only[hv,if_true]at h1⊢
   refine⟨⟨hne0,by simp[outK,k7];split<;>rfl,?_⟩,he,fun j=>trivial⟩
   intro l hl m hm
   split at hl<;>simp only[lMc,List.not_mem_nil,or_false]at hl<;>rcases hl with rfl|rfl<;>simp at hm<;>(subst hm;exact hnn)
  .rw[if_neg hv]at h1;exact absurd h1 hv
 by_cases k8:x.kind=8
 .have hi:za8 x s=i:=by
   by_cases h:za8 x s=i
   .exact h
   .exact absurd (.inr (.inr ⟨k1,h⟩)) hst
  have hmC:zN x=1:=by simp[zN,k8]
  have hmH:zX x=2:=by simp[zX,k8]
  have hi2:i=0∨i=1:=by
   unfold za8 at hi
   rw[if_pos k8]at hi
   split at hi<;>omega
  simp only[zr,k8]at h1⊢
  simp at h1⊢
  refine⟨⟨zx.2 ⟨hg,?_⟩,by simp[outK,k8],by simpa using hnn⟩,he,fun j=>by simp[zac,k8]⟩
  simp only[ssB,k8,hmC,hmH]at hs⊢
  simp at hs⊢
  exact⟨⟨⟨by omega,by omega,hs.1.1.2.2⟩,hs.1.2⟩,hs.2⟩
 by_cases k9:x.kind=9
 .have hmC:zN x=3:=by simp[zN,k9]
  have hmH:zX x=1:=by simp[zX,k9]
  simp only[zr,k9]at h1⊢
  simp at h1⊢
  by_cases hi:i=0
  .simp only[hi,if_true]at h1⊢
   by_cases hc:2≤s.count
   .simp only[hc,if_true]at h1⊢
    exact⟨⟨hne0,by simp[outK,k9],by simp⟩,he,fun j=>trivial⟩
   .simp only[hc,if_false]at h1⊢
    refine⟨⟨zx.2 ⟨hg,?_⟩,by simp[outK,k9],by simp⟩,he,fun j=>by simp[zac,k9]⟩
    simp only[ssB,k9,hmC,hmH]at hs⊢
    simp[he]at hs⊢
    exact⟨⟨⟨f1,by omega⟩,hnn⟩,by omega,by omega⟩
  .simp only[hi,if_false]at h1⊢
   cases hh:s.held with
   |nil=>
    simp only
    exact⟨⟨hne0,by simp[outK,k9],by simp⟩,he,fun j=>trivial⟩
   |cons a r=>
    simp only[hh]at h1⊢
    by_cases hv:(evX x a n).2=0
    .simp only[hv,if_true]at h1⊢
     refine⟨⟨zx.2 ⟨hg,?_⟩,by simp[outK,k9],by simpa using zvu hv⟩,he,fun j=>by simp[zac,k9]⟩
     simp only[ssB,k9,hmC,hmH]at hs⊢
     simp[he]at hs⊢
     exact⟨⟨f1,by omega⟩,hs.2.1⟩
    .rw[if_neg hv]at h1;exact absurd h1 hv
 .have k10:x.kind=10:=by omega
  simp only[zr,k10]at h1⊢
  simp at h1⊢
  exact⟨⟨hne0,by simp[outK,k10],by simp⟩,he⟩
theorem zkP {x:Sg} {s:SS} {i:Int} (h0:endE x s i=0) (h1:(endK x s i).2.2=0):
  MvOk x (endK x s i).1 (endK x s i).2.1∧∀j:Nat,j<inK x.kind→zac x (endK x s i).1 j=(zac x s j||decide ((j:Int)=i)):=by
 unfold endE at h0
 split at h0
 .rename_i h;exact absurd h0 h
 rename_i hne
 split at h0
 .cases h0
 rename_i hst
 split at h0
 .cases h0
 rename_i hn
 have hne0:zan x s=0:=by omega
 obtain⟨hg,hs⟩:=zx.1 hne0
 obtain⟨hk1,hk2⟩:=zdO hg
 have hsz:=zbq hg
 have he:s.ended=false:=by
  cases h:s.ended with
  |false=>rfl
  |true=>exact absurd (.inl h) hn
 obtain⟨f1,f2,f3,f4⟩:=zQ hs
 by_cases k4:x.kind=4
 .have hmH:zX x=x.size - 1:=by simp[zX,k4]
  have hmC:zN x=0:=by simp[zN,k4]
  have hsg:zC x.kind=1:=by simp[zC,k4]
  have hi:i=0:=by simp[inK,k4]at hst;omega
  have hin:inK x.kind=1:=by simp[inK,k4]
  simp only[endK,k4]at h1⊢
  simp at h1⊢
  by_cases hv:s.held=[]
  .simp only[hv,if_true]at h1⊢
   refine⟨⟨zx.2 ⟨hg,?_⟩,by simp[outK,k4],by simp⟩,fun j hj2=>?_⟩
   .simp only[ssB,k4,hmH,hmC]at hs⊢
    simp[hv]at hs⊢
    omega
   .simp[zac,k4,he,hi];simp[inK]at hj2;omega
  .simp only[hv,if_false]at h1⊢
   by_cases hw:(sumB s.held 0).2=0
   .simp only[hw,if_true]at h1⊢
    refine⟨⟨zx.2 ⟨hg,?_⟩,by simp[outK,k4],?_⟩,fun j hj2=>?_⟩
    .simp only[ssB,k4,hmH,hmC]at hs⊢
     simp at hs⊢
     omega
    .simpa using zmr _ _ (by rfl) hw
    .simp[zac,k4,he,hi];simp[inK]at hj2;omega
   .rw[if_neg hw]at h1;exact absurd h1 hw
 by_cases k8:x.kind=8
 .have hmC:zN x=1:=by simp[zN,k8]
  have hmH:zX x=2:=by simp[zX,k8]
  have hi:¬(i∈s.held):=by
   intro h
   exact hn (.inr ⟨by omega,by simp[za2,k8,h]⟩)
  have hi2:i=0∨i=1:=by simp[inK,k8]at hst;omega
  simp only[ssB,k8,hmC,hmH]at hs
  simp[he]at hs
  simp only[endK,k8]at h1⊢
  simp at h1⊢
  by_cases hv:s.held=[]
  .simp only[hv,if_true]at h1⊢
   refine⟨⟨zx.2 ⟨hg,?_⟩,by simp[outK,k8],by simp⟩,fun j hj2=>?_⟩
   .simp only[ssB,k8,hmC,hmH]
    simp[he,zag]
    exact⟨⟨by omega,by rcases hi2 with rfl|rfl<;>rfl⟩,hi2⟩
   .simp[zac,k8,hv]
  .simp only[hv,if_false]at h1⊢
   refine⟨⟨zx.2 ⟨hg,?_⟩,by simp[outK,k8],by simp⟩,fun j hj2=>?_⟩
   .simp only[ssB,k8,hmC,hmH]
    simp[zag]
    exact⟨by omega,rfl,rfl⟩
   .match hq:s.held,hv with
    | [a],_=>
     rw[hq]at hs hi
     simp[zag]at hs hi
     simp[zac,k8,hq]
     simp[inK]at hj2
     have hs2:=hs.2
     have hj3:j=0∨j=1:=by omega
     rcases hs2 with rfl|rfl<;>rcases hi2 with rfl|rfl<;>rcases hj3 with rfl|rfl<;>simp at *
    |a::b::r,_=>
     rw[hq]at hs
     simp at hs
     exfalso
     have h2:=hs.1.1.2.2
     exact hs.2.2 (List.length_eq_zero_iff.1 (by omega))
 by_cases k9:x.kind=9
 .have hmC:zN x=3:=by simp[zN,k9]
  have hmH:zX x=1:=by simp[zX,k9]
  have hi2:i=0∨i=1:=by simp[inK,k9]at hst;omega
  have hi:¬(s.count=3∨s.count=i+1):=by
   intro h
   exact hn (.inr ⟨by omega,by simp[za2,k9,h]⟩)
  simp only[ssB,k9,hmC,hmH]at hs
  simp[he]at hs
  simp only[endK,k9]at h1⊢
  simp at h1⊢
  refine⟨⟨zx.2 ⟨hg,?_⟩,by simp[outK,k9],by simp⟩,fun j hj2=>?_⟩
  .simp only[ssB,k9,hmC,hmH]
   by_cases hi1:i=1
   .simp[hi1];omega
   .have hi0:i=0:=by omega
    simp[hi0]
    refine⟨⟨⟨by omega,by omega,by omega⟩,hs.1.2⟩,?_⟩
    have h2:=hs.2.2
    rcases h2 with h2|h2
    .by_cases hc:s.count=1
     .omega
     .left;omega
    .right;exact h2
  .simp[inK,k9]at hj2
   simp only[zac,k9]
   have hj3:j=0∨j=1:=by omega
   rcases hj3 with rfl|rfl<;>rcases hi2 with rfl|rfl<;>(rw[Bool.eq_iff_iff];simp)<;>omega
 .have hi:inK x.kind=1→i=0:=by
   intro h
   have:x.kind≠1:=by intro e;rw[e]at h;simp[inK]at h
   rw[h]at hst
   omega
  have hin:inK x.kind=0∨inK x.kind=1:=by unfold inK;split;simp;split;omega;simp
  have hb:∀(y:SS),y.ended=true→y.count=s.count→y.held=s.held→ssB x y=true:=by
   intro y h1 h2 h3
   simp only[ssB]at hs⊢
   simp only[if_neg k4,if_neg k8,if_neg k9]at hs⊢
   rw[h2,h3];exact hs
  have hq:endK x s i=({s with ended:=true},List.replicate (outK x.kind) [],0):=by simp only[endK,if_neg k4,if_neg k8,if_neg k9]
  rw[hq]
  refine⟨⟨zx.2 ⟨hg,hb _ rfl rfl rfl⟩,by simp,?_⟩,fun j hj2=>?_⟩
  .intro l hl n hn'
   have:=(List.mem_replicate.1 hl).2
   subst this
   cases hn'
  .simp only[zac,if_neg k8,if_neg k9,he]
   rcases hin with h|h
   .rw[h]at hj2;omega
   .rw[h]at hj2;rw[hi h];simp;omega
theorem za7 {α:Type} [DecidableEq α]:∀{l m:List α},l.Nodup→(∀a∈l,a∈m)→l.length≤m.length
 | [],m,_,_=>by simp
 |a::r,m,h,hs=>by
  have h1:a∈m:=hs a (by simp)
  have h2:=List.nodup_cons.1 h
  have h3:=za7 (l:=r) (m:=m.erase a) h2.2 (fun b hb=>(List.mem_erase_of_ne (by rintro rfl;exact h2.1 hb)).2 (hs b (by simp[hb])))
  rw[List.length_erase_of_mem h1]at h3
  have:0<m.length:=List.length_pos_of_mem h1
  simp only[lLc]
  omega
theorem zhX {α:Type} [DecidableEq α] {l m:List α} (h:l.Nodup) (hs:∀a∈l,a∈m) (hl:m.length≤l.length):∀a∈m,a∈l:=by
 intro a ha
 apply cBc
 intro hn
 have h1:=za7 (l:=a::l) (m:=m) (List.nodup_cons.2 ⟨hn,h⟩) (fun b hb=>by rcases lMc.1 hb with rfl|hb;exact ha;exact hs b hb)
 simp only[lLc]at h1
 omega
def ziA (f:Nat→Nat) (n:Nat):List (Nat×Nat):=(List.range n).flatMap fun i=>(List.range (f i)).map fun k=>(i,k)
theorem zbS {f:Nat→Nat} {n:Nat} {p:Nat×Nat}:p∈ziA f n↔p.1<n∧p.2<f p.1:=by
 obtain⟨a,b⟩:=p
 simp only[ziA,List.mem_flatMap,List.mem_range,List.mem_map,pMi]
 constructor
 .rintro⟨i,h1,k,h2,rfl,rfl⟩;exact⟨h1,h2⟩
 .rintro⟨h1,h2⟩;exact⟨a,h1,b,h2,rfl,rfl⟩
theorem zdp (f:Nat→Nat) (n:Nat):(ziA f n).length=((List.range n).map f).sum:=by
 simp[ziA,List.length_flatMap]
theorem zfk (f:Nat→Nat) (n:Nat):(ziA f n).Nodup:=by
 unfold ziA List.Nodup
 rw[List.pairwise_flatMap]
 refine⟨fun i _=>?_,?_⟩
 .rw[List.pairwise_map]
  exact List.Pairwise.imp (fun h e=>h (Prod.mk.inj e).2) List.nodup_range
 .refine List.Pairwise.imp (fun h x hx y hy e=>?_) (List.nodup_range (n:=n))
  obtain⟨a,_,rfl⟩:=List.mem_map.1 hx
  obtain⟨b,_,rfl⟩:=List.mem_map.1 hy
  exact h (Prod.mk.inj e).1
theorem zh1 {α β:Type} (l:List α) (d:α) (g:α→β):(List.range l.length).map (fun i=>g (l.getD i d))=l.map g:=by
 refine List.ext_getElem (by simp) (fun i h1 h2=>?_)
 simp at h1
 simp[gEd,h1]
theorem zmq {α:Type} (f g:α→Nat):∀l:List α,(l.map fun s=>f s+g s).sum=(l.map f).sum+(l.map g).sum
 | []=>rfl
 |a::r=>by simp only[List.map_cons,List.sum_cons,zmq f g r];omega
theorem zff (p:Pi→Bool):∀(l:List Pi) (k j:Nat) (y:Pi),l[j]?=some y→p y=true→(∀i z,i<j→l[i]?=some z→p z=false)→pidx p l k=(k+j:Nat)
 | [],_,j,y,h,_,_=>by simp at h
 |a::r,k,j,y,h,hp,hn=>by
  cases j with
  |zero=>
   simp at h
   subst h
   simp[pidx,hp]
  |succ j=>
   have h0:=hn 0 a (by omega) rfl
   simp only[pidx,h0,bFt,if_false]
   rw[zff p r (k+1) j y (by simpa using h) hp (fun i z hi hz=>hn (i+1) z (by omega) (by simpa using hz))]
   congr 1;omega
theorem zbR (p:Pi→Bool):∀(l:List Pi) (k:Nat),(pidx p l k= -1∧∀y∈l,p y=false)∨∃j y,pidx p l k=(k+j:Nat)∧l[j]?=some y∧p y=true∧∀i z,i<j→l[i]?=some z→p z=false
 | [],_=> .inl ⟨rfl,by simp⟩
 |a::r,k=>by
  cases hp:p a with
  |true=>exact .inr ⟨0,a,by simp[pidx,hp],rfl,hp,by omega⟩
  |false=>
   rcases zbR p r (k+1) with⟨h1,h2⟩|⟨j,y,h1,h2,h3,h4⟩
   .exact .inl ⟨by simp[pidx,hp,h1],fun y hy=>by rcases lMc.1 hy with rfl|hy;exact hp;exact h2 y hy⟩
   .refine .inr ⟨j+1,y,by simp only[pidx,hp,bFt,if_false,h1];congr 1;omega,by simpa using h2,h3,fun i z hi hz=>?_⟩
    cases i with
    |zero=>simp at hz;subst hz;exact hp
    |succ i=>exact h4 i z (by omega) (by simpa using hz)
theorem zft {α:Type} {f:α→Int}:∀{l:List α},zaV f l=0↔∀a∈l,f a=0
 | []=>by simp[zaV]
 |a::r=>by
  unfold zaV
  by_cases h:f a=0
  .simp[h,zft (l:=r)]
  .simp[h]
theorem zfe {x:Pl}:∀{l:List Pi} {k:Nat},pisI x l k=0↔∀j y,l[j]?=some y→piI x (k+j) y=0
 | [],k=>by simp[pisI]
 |a::r,k=>by
  unfold pisI
  by_cases h:piI x k a=0
  .simp only[h,ne_eq,not_true,if_false,zfe (l:=r)]
   constructor
   .intro h1 j y hj
    cases j with
    |zero=>simp at hj;subst hj;exact h
    |succ j=>have:=h1 j y (by simpa using hj);rw[show k+(j+1)=k+1+j by omega];exact this
   .intro h1 j y hj
    have:=h1 (j+1) y (by simpa using hj)
    rw[show k+1+j=k+(j+1) by omega];exact this
  .simp only[h,ne_eq,not_false_iff,if_true,false_iff]
   intro h1
   exact h (h1 0 a rfl)
structure PiV (x:Pl):Prop where
 sg:∀s∈x.stages.l,sgI s=0
 rng:∀(k:Nat) (y:Pi),x.pipes.l[k]?=some y→0≤y.src∧y.src<x.stages.l.length∧0≤y.dst∧y.dst<x.stages.l.length∧1≤y.capacity∧y.capacity≤100∧
  0≤y.output∧y.output<outK (sgAt x y.src).kind∧0≤y.input∧y.input<inK (sgAt x y.dst).kind∧((sgAt x y.src).kind=5→(sgAt x y.src).size≤y.capacity)
 uo:∀(j k:Nat) (y z:Pi),x.pipes.l[j]?=some y→x.pipes.l[k]?=some z→y.src=z.src→y.output=z.output→j=k
 ui:∀(j k:Nat) (y z:Pi),x.pipes.l[j]?=some y→x.pipes.l[k]?=some z→y.dst=z.dst→y.input=z.input→j=k
theorem zj4 {x:Pl} {i:Int} (h0:0≤i) (h1:i<x.stages.l.length):sgAt x i∈x.stages.l:=by
 unfold sgAt
 have h:i.toNat<x.stages.l.length:=by omega
 rw[gEd,gEg h]
 exact List.getElem_mem h
theorem zrM {x:Pl} (h1:zaV sgI x.stages.l=0) (h2:pisI x x.pipes.l 0=0):PiV x:=by
 have hs:=zft.1 h1
 have hp:∀(k:Nat) (y:Pi),x.pipes.l[k]?=some y→piI x k y=0:=fun k y h=>by simpa using zfe.1 h2 k y h
 have hr:∀(k:Nat) (y:Pi),x.pipes.l[k]?=some y→(0≤y.src∧y.src<x.stages.l.length∧0≤y.dst∧y.dst<x.stages.l.length∧1≤y.capacity∧y.capacity≤100∧
  0≤y.output∧y.output<outK (sgAt x y.src).kind∧0≤y.input∧y.input<inK (sgAt x y.dst).kind∧((sgAt x y.src).kind=5→(sgAt x y.src).size≤y.capacity))∧(k:Int)≤pOut x y.src y.output∧(k:Int)≤pIn x y.dst y.input:=by
  intro k y h
  have:=hp k y h
  unfold piI at this
  split at this
  .cases this
  .rename_i h3
   have e1:outN (sgAt x y.src)=outK (sgAt x y.src).kind:=by
    have:=hs (sgAt x y.src) (zj4 (by omega) (by omega))
    simp[outN,this]
   have e2:inN (sgAt x y.dst)=inK (sgAt x y.dst).kind:=by
    have:=hs (sgAt x y.dst) (zj4 (by omega) (by omega))
    simp[inN,this]
   rw[e1,e2]at this
   split at this
   .cases this
   .split at this
    .cases this
    .split at this
     .cases this
     .rename_i h4 h5 h6
      exact⟨⟨by omega,by omega,by omega,by omega,by omega,by omega,by omega,by omega,by omega,by omega,fun h=>by omega⟩,by omega,by omega⟩
 have lt1:∀(j k:Nat) (y z:Pi),x.pipes.l[j]?=some y→x.pipes.l[k]?=some z→y.src=z.src→y.output=z.output→k≤j:=by
  intro j k y z hj hk e1 e2
  have h3:=(hr k z hk).2.1
  unfold pOut at h3
  apply cBc
  intro hn
  rcases zbR (fun w=>decide (w.src=z.src)&&decide (w.output=z.output)) x.pipes.l 0 with⟨h4,h5⟩|⟨i,w,h4,h5,h6,h7⟩
  .rw[h4]at h3;omega
  .rw[h4]at h3
   have hi:k≤i:=by omega
   have:=h7 j y (by omega) hj
   simp[e1,e2]at this
 have lt2:∀(j k:Nat) (y z:Pi),x.pipes.l[j]?=some y→x.pipes.l[k]?=some z→y.dst=z.dst→y.input=z.input→k≤j:=by
  intro j k y z hj hk e1 e2
  have h3:=(hr k z hk).2.2
  unfold pIn at h3
  apply cBc
  intro hn
  rcases zbR (fun w=>decide (w.dst=z.dst)&&decide (w.input=z.input)) x.pipes.l 0 with⟨h4,h5⟩|⟨i,w,h4,h5,h6,h7⟩
  .rw[h4]at h3;omega
  .rw[h4]at h3
   have hi:k≤i:=by omega
   have:=h7 j y (by omega) hj
   simp[e1,e2]at this
 exact⟨hs,fun k y h=>(hr k y h).1,fun j k y z hj hk e1 e2=>by have:=lt1 j k y z hj hk e1 e2;have:=lt1 k j z y hk hj e1.symm e2.symm;omega,
  fun j k y z hj hk e1 e2=>by have:=lt2 j k y z hj hk e1 e2;have:=lt2 k j z y hk hj e1.symm e2.symm;omega⟩
def zsc (x:Pl):Prop:=∀i n:Nat,i<x.stages.l.length→n<outK (sgAt x i).kind→∃(k:Nat) (y:Pi),x.pipes.l[k]?=some y∧y.src=i∧y.output=n
def zv0 (x:Pl):Prop:=∀i n:Nat,i<x.stages.l.length→n<inK (sgAt x i).kind→∃(k:Nat) (y:Pi),x.pipes.l[k]?=some y∧y.dst=i∧y.input=n
theorem zf6 {l:List Pi} {f:Pi→Nat×Nat} (h:∀(j k:Nat) (y z:Pi),l[j]?=some y→l[k]?=some z→f y=f z→j=k):(l.map f).Nodup:=by
 unfold List.Nodup
 rw[List.pairwise_iff_getElem]
 intro i j hi hj hij he
 simp at hi hj he
 have:=h i j _ _ (gEg hi) (gEg hj) he
 omega
theorem zkO {x:Pl} (h:PiV x):ends x.stages.l=2* x.pipes.l.length↔zsc x∧zv0 x:=by
 have hsum:ends x.stages.l=((List.range x.stages.l.length).map fun (i:Nat)=>inK (sgAt x i).kind).sum+((List.range x.stages.l.length).map fun (i:Nat)=>outK (sgAt x i).kind).sum:=by
  unfold ends
  rw[zmq]
  have e1:x.stages.l.map inN=x.stages.l.map fun s=>inK s.kind:=List.map_congr_left fun s hs=>by simp[inN,h.sg s hs]
  have e2:x.stages.l.map outN=x.stages.l.map fun s=>outK s.kind:=List.map_congr_left fun s hs=>by simp[outN,h.sg s hs]
  rw[e1,e2,←zh1 x.stages.l default fun s=>inK s.kind,←zh1 x.stages.l default fun s=>outK s.kind]
  rfl
 have nO:(x.pipes.l.map fun y=>(y.src.toNat,y.output.toNat)).Nodup:=zf6 fun j k y z hj hk e=>by
  obtain⟨a1,_,_,_,_,_,a7,_⟩:=h.rng j y hj
  obtain⟨b1,_,_,_,_,_,b7,_⟩:=h.rng k z hk
  simp only[pMi]at e
  exact h.uo j k y z hj hk (by omega) (by omega)
 have nI:(x.pipes.l.map fun y=>(y.dst.toNat,y.input.toNat)).Nodup:=zf6 fun j k y z hj hk e=>by
  obtain⟨_,_,a3,_,_,_,_,_,a9,_⟩:=h.rng j y hj
  obtain⟨_,_,b3,_,_,_,_,_,b9,_⟩:=h.rng k z hk
  simp only[pMi]at e
  exact h.ui j k y z hj hk (by omega) (by omega)
 have sO:∀p∈(x.pipes.l.map fun y=>(y.src.toNat,y.output.toNat)),p∈ziA (fun i=>outK (sgAt x i).kind) x.stages.l.length:=by
  intro p hp
  obtain⟨y,hy,rfl⟩:=List.mem_map.1 hp
  obtain⟨k,hk⟩:=List.getElem?_of_mem hy
  obtain⟨a1,a2,a3,a4,a5,a6,a7,a8,a9,a10,_⟩:=h.rng k y hk
  refine zbS.2 ⟨by simp only;omega,?_⟩
  simp only
  rw[show ((y.src.toNat:Nat):Int)=y.src by omega]
  omega
 have sI:∀p∈(x.pipes.l.map fun y=>(y.dst.toNat,y.input.toNat)),p∈ziA (fun i=>inK (sgAt x i).kind) x.stages.l.length:=by
  intro p hp
  obtain⟨y,hy,rfl⟩:=List.mem_map.1 hp
  obtain⟨k,hk⟩:=List.getElem?_of_mem hy
  obtain⟨a1,a2,a3,a4,a5,a6,a7,a8,a9,a10,_⟩:=h.rng k y hk
  refine zbS.2 ⟨by simp only;omega,?_⟩
  simp only
  rw[show ((y.dst.toNat:Nat):Int)=y.dst by omega]
  omega
 have lO:=za7 nO sO
 have lI:=za7 nI sI
 rw[zdp,List.length_map]at lO lI
 constructor
 .intro he
  rw[hsum]at he
  have aO:=zhX nO sO (by rw[zdp,List.length_map];omega)
  have aI:=zhX nI sI (by rw[zdp,List.length_map];omega)
  refine⟨fun i n hi hn=>?_,fun i n hi hn=>?_⟩
  .obtain⟨y,hy,e⟩:=List.mem_map.1 (aO (i,n) (zbS.2 ⟨hi,hn⟩))
   obtain⟨k,hk⟩:=List.getElem?_of_mem hy
   obtain⟨a1,a2,a3,a4,a5,a6,a7,a8,a9,a10,_⟩:=h.rng k y hk
   simp only[pMi]at e
   exact⟨k,y,hk,by omega,by omega⟩
  .obtain⟨y,hy,e⟩:=List.mem_map.1 (aI (i,n) (zbS.2 ⟨hi,hn⟩))
   obtain⟨k,hk⟩:=List.getElem?_of_mem hy
   obtain⟨a1,a2,a3,a4,a5,a6,a7,a8,a9,a10,_⟩:=h.rng k y hk
   simp only[pMi]at e
   exact⟨k,y,hk,by omega,by omega⟩
 .rintro⟨hO,hI⟩
  have l1:=za7 (zfk (fun i=>outK (sgAt x i).kind) x.stages.l.length) (m:=x.pipes.l.map fun y=>(y.src.toNat,y.output.toNat)) (fun p hp=>by
   obtain⟨p1,p2⟩:=zbS.1 hp
   obtain⟨k,y,hk,e1,e2⟩:=hO p.1 p.2 p1 p2
   exact List.mem_map.2 ⟨y,lMg hk,by rw[e1,e2];simp⟩)
  have l2:=za7 (zfk (fun i=>inK (sgAt x i).kind) x.stages.l.length) (m:=x.pipes.l.map fun y=>(y.dst.toNat,y.input.toNat)) (fun p hp=>by
   obtain⟨p1,p2⟩:=zbS.1 hp
   obtain⟨k,y,hk,e1,e2⟩:=hI p.1 p.2 p1 p2
   exact List.mem_map.2 ⟨y,lMg hk,by rw[e1,e2];simp⟩)
  rw[zdp,List.length_map]at l1 l2
  rw[hsum];omega
structure PlV (x:Pl):Prop extends PiV x where
 n1:1≤x.stages.l.length
 n2:x.stages.l.length≤16
 np:x.pipes.l.length≤32
 allOut:zsc x
 allIn:zv0 x
 tree:cyc x=false
theorem zfd {x:Pl} (h:plI x=0):PlV x:=by
 unfold plI at h
 split at h
 .cases h
 .split at h
  .rename_i h1;exact absurd h h1
  .split at h
   .cases h
   .split at h
    .rename_i h1;exact absurd h h1
    .split at h
     .cases h
     .split at h
      .cases h
      .rename_i h1 h2 h3 h4 h5 h6
       have hp:=zrM (x:=x) (by omega) (by omega)
       obtain⟨a,b⟩:=(zkO hp).1 (by omega)
       exact⟨hp,by omega,by omega,by omega,a,b,by simpa using h6⟩
theorem zct {x:Pl} (h:PiV x) {k:Nat} {y:Pi} (hk:x.pipes.l[k]?=some y):pOut x y.src y.output=k:=by
 unfold pOut
 rw[zff _ _ 0 k y hk (by simp) (fun i z hi hz=>by
  apply cBc
  intro hn
  simp at hn
  have:=h.uo i k z y hz hk hn.1 hn.2
  omega)]
 simp
theorem zcK {x:Pl} (h:PiV x) {k:Nat} {y:Pi} (hk:x.pipes.l[k]?=some y):pIn x y.dst y.input=k:=by
 unfold pIn
 rw[zff _ _ 0 k y hk (by simp) (fun i z hi hz=>by
  apply cBc
  intro hn
  simp at hn
  have:=h.ui i k z y hz hk hn.1 hn.2
  omega)]
 simp
theorem zb6 {α β:Type} {f:α→β→Bool}:∀{l:List α} {m:List β},all2 f l m=true↔l.length=m.length∧∀(k:Nat) (a:α) (b:β),l[k]?=some a→m[k]?=some b→f a b=true
 | [],[]=>by simp[all2]
 |a::r,b::s=>by
  simp only[all2,bAt,zb6 (l:=r) (m:=s),lLc]
  constructor
  .rintro⟨h1,h2,h3⟩
   refine⟨by omega,fun k a' b' ha hb=>?_⟩
   cases k with
   |zero=>simp at ha hb;subst ha;subst hb;exact h1
   |succ k=>exact h3 k a' b' (by simpa using ha) (by simpa using hb)
  .rintro⟨h1,h2⟩
   exact⟨h2 0 a b rfl rfl,by omega,fun k a' b' ha hb=>h2 (k+1) a' b' (by simpa using ha) (by simpa using hb)⟩
 | [],b::s=>by simp[all2]
 |a::r,[]=>by simp[all2]
structure CrF (x:Pl) (s:FS) (c:CC) (y:Pi):Prop where
 v:CrV c
 cap:c.cap=y.capacity
 closed:c.closed=(stAt s y.src).ended
 grant:c.closed=true∨c.granted=c.taken+c.cap
 noted:zac (sgAt x y.dst) (stAt s y.dst) y.input=true→c.closed=true∧c.items=[]
theorem zkU {x:Pl} {s:FS} {c:CC} {y:Pi}:crOk x s c y=true↔CrF x s c y:=by
 unfold crOk
 simp only[bAt,dTe,Bool.or_eq_true,Bool.not_eq_true',beq_iff_eq]
 constructor
 .rintro⟨⟨⟨⟨h1,h2⟩,h3⟩,h4⟩,h5⟩
  have hv:=(zaO c).1 h1
  exact⟨hv,h2,h3,h4,fun hn=>by rcases h5 with h5|h5;rw[hn]at h5;cases h5;exact (zeT hv).1 h5⟩
 .rintro⟨h1,h2,h3,h4,h5⟩
  refine⟨⟨⟨⟨(zaO c).2 h1,h2⟩,h3⟩,h4⟩,?_⟩
  cases hn:zac (sgAt x y.dst) (stAt s y.dst) y.input with
  |false=>exact .inl rfl
  |true=>exact .inr ((zeT h1).2 (h5 hn))
structure FsV (x:Pl) (s:FS):Prop where
 ls:s.st.length=x.stages.l.length
 lc:s.cr.length=x.pipes.l.length
 lo:s.out.length=zK x.stages.l
 out:∀l∈s.out,l.length≤200∧∀n∈l,isIt n=true
 st:∀i:Int,0≤i→i<x.stages.l.length→zan (sgAt x i) (stAt s i)=0
 cr:∀(k:Nat) (c:CC) (y:Pi),s.cr[k]?=some c→x.pipes.l[k]?=some y→CrF x s c y
theorem ztB {x:Pl} {s:FS}:fsB x s=true↔FsV x s:=by
 unfold fsB
 simp only[bAt,dTe,lAt,zb6]
 constructor
 .rintro⟨⟨⟨⟨⟨h1,h2⟩,h3⟩,h4⟩,h5,h6⟩,h7,h8⟩
  refine⟨h1,h2,h3,h4,fun i h0 hi=>?_,fun k c y hc hy=>zkU.1 (h8 k c y hc hy)⟩
  have hi1:i.toNat<x.stages.l.length:=by omega
  have hi2:i.toNat<s.st.length:=by omega
  have:=h6 i.toNat _ _ (gEg hi1) (gEg hi2)
  unfold sgAt stAt
  rw[gEd,gEd,gEg hi1,gEg hi2]
  exact this
 .rintro⟨h1,h2,h3,h4,h5,h6⟩
  refine⟨⟨⟨⟨⟨h1,h2⟩,h3⟩,h4⟩,h1.symm,fun k a b ha hb=>?_⟩,h2,fun k a b ha hb=>zkU.2 (h6 k a b ha hb)⟩
  have hk:=(gEs.1 ha).1
  have:=h5 k (by omega) (by omega)
  unfold sgAt stAt at this
  rw[gEd,gEd,show ((k:Int)).toNat=k by omega,ha,hb]at this
  exact this
theorem zeW {x:Pl} {s:FS}:vaI x s=0↔plI x=0∧FsV x s:=by
 unfold vaI
 rw[←ztB]
 split
 .rename_i h;simp[h]
 .rename_i h
  simp only[show (1:Int)≠0 by decide,false_iff]
  exact h
theorem zfn {g g':List Int} {y:Pi} (h:zeu g y=some g'):g'.length=g.length∧g.getD y.src.toNat 0≠g.getD y.dst.toNat 0:=by
 unfold zeu at h
 simp only at h
 split at h
 .cases h
 .rename_i hn
  cases h
  exact⟨by simp,hn⟩
theorem zds:∀{l:List Pi} {g:List Int},(zbI l g).isNone=false→∀y∈l,y.src≠y.dst
 | [],g,_,y,hy=>by cases hy
 |a::r,g,h,y,hy=>by
  unfold zbI at h
  cases hj:zeu g a with
  |none=>rw[hj]at h;cases h
  |some g'=>
   rw[hj]at h
   rcases lMc.1 hy with rfl|hy
   .intro e
    exact (zfn hj).2 (by rw[e])
   .exact zds h y hy
theorem PlV.noself {x:Pl} (h:PlV x) {k:Nat} {y:Pi} (hk:x.pipes.l[k]?=some y):y.src≠y.dst:=
 zds (g:=idsG x.stages.l.length) h.tree y (lMg hk)
def updC (e:Bool) (o:List Int) (c:CC):CC:=if e=true then (zbK (putC o c)).1 else putC o c
theorem zd0 {α:Type} {l:List α} {k:Nat} {a:α} (h:l[k]?=some a) (d:α):l.getD k d=a:=by rw[gEd,h];rfl
theorem zhF {x:Pl} (h:PlV x) {i:Nat} (hi:i<x.stages.l.length) (e:Bool) {k:Nat} {y:Pi} (hk:x.pipes.l[k]?=some y):∀(outs:List (List Int)) (n:Nat) (l:List CC),l.length=x.pipes.l.length→n+outs.length≤outK (sgAt x i).kind→
  (zbr x i e outs n l)[k]?=(l[k]?).map fun c=>if y.src=i∧(n:Int)≤y.output∧y.output<n+outs.length then updC e (outs.getD (y.output.toNat - n) []) c else c
 | [],n,l,_,_=>by
  have:¬(y.src=i∧(n:Int)≤y.output∧y.output<n+([]:List (List Int)).length):=by simp only[List.length_nil];omega
  simp only[zbr,this,if_false]
  simp
 |o::r,n,l,hl,hn=>by
  simp only[lLc]at hn
  obtain⟨k0,y0,hk0,e1,e2⟩:=h.allOut i n hi (by omega)
  have hp:pOut x i n=k0:=by rw[←e1,←e2];exact zct h.toPiV hk0
  simp only[zbr,hp,iTn]
  have hk0l:k0<l.length:=by rw[hl];exact (gEs.1 hk0).1
  have ih:=zhF h hi e hk r (n+1) (l.set k0 (if e=true then (zbK (putC o (l.getD k0 crZ))).1 else putC o (l.getD k0 crZ))) (by simpa using hl) (by omega)
  rw[ih]
  by_cases hkk:k0=k
  .subst hkk
   have hy:y0=y:=by rw[hk0]at hk;exact Option.some.inj hk
   subst hy
   rw[gEt hk0l,gEg hk0l]
   have c1:¬(y0.src=i∧((n+1:Nat):Int)≤y0.output∧y0.output<((n+1:Nat):Int)+r.length):=by omega
   have c2:y0.src=i∧(n:Int)≤y0.output∧y0.output<n+(o::r).length:=by simp only[lLc];omega
   simp only[oMs,if_neg c1,if_pos c2]
   have e3:y0.output.toNat - n=0:=by omega
   rw[e3,zd0 (gEg hk0l)]
   rfl
  .rw[gEn hkk]
   congr 1
   funext c
   by_cases c1:y.src=i∧((n+1:Nat):Int)≤y.output∧y.output<((n+1:Nat):Int)+r.length
   .have c2:y.src=i∧(n:Int)≤y.output∧y.output<n+(o::r).length:=by simp only[lLc];omega
    rw[if_pos c1,if_pos c2]
    have e3:y.output.toNat - n=(y.output.toNat - (n+1))+1:=by omega
    rw[e3];rfl
   .have c2:¬(y.src=i∧(n:Int)≤y.output∧y.output<n+(o::r).length):=by
     simp only[lLc]
     intro c2
     have:y.output≠n:=by
      intro e3
      exact hkk (h.uo k0 k y0 y hk0 hk (by omega) (by omega))
     exact c1 ⟨c2.1,by omega,by omega⟩
    rw[if_neg c1,if_neg c2]
theorem zhE {x:Pl} {i:Int} {e:Bool}:∀(outs:List (List Int)) (n:Nat) (l:List CC),(zbr x i e outs n l).length=l.length
 | [],n,l=>rfl
 |o::r,n,l=>by simp only[zbr];rw[zhE r];simp
theorem zeL {x:Pl} {s:FS} {i:Int}:∀{outs:List (List Int)} {n:Nat},fitO x s i outs n=true↔∀(j:Nat) (o:List Int),outs[j]?=some o→(o.length:Int)≤zfJ (crAt s (pOut x i (n+j:Nat)))
 | [],n=>by simp[fitO]
 |o::r,n=>by
  simp only[fitO,bAt,dTe,zeL (outs:=r)]
  constructor
  .rintro⟨h1,h2⟩ j o' hj
   cases j with
   |zero=>simp at hj;subst hj;exact h1
   |succ j=>have:=h2 j o' (by simpa using hj);rw[show n+(j+1)=n+1+j by omega];exact this
  .intro h
   refine⟨h 0 o rfl,fun j o' hj=>?_⟩
   have:=h (j+1) o' (by simpa using hj)
   rw[show n+1+j=n+(j+1) by omega];exact this
inductive Act1 (x:Pl) (s:FS) (i:Nat) (m:MV):Prop where
 |gen (h1:(sgAt x i).kind=1) (h0:zbW (sgAt x i) (stAt s i) (-1) 0=0) (hm:zr (sgAt x i) (stAt s i) (-1) 0=(m.st,m.out,0)) (hk:m.kind=1)
 |stop (h1:(sgAt x i).kind=1) (h0:endE (sgAt x i) (stAt s i) (-1)=0) (hm:endK (sgAt x i) (stAt s i) (-1)=(m.st,m.out,0)) (hk:m.kind=3)
 |take (k:Nat) (y:Pi) (a:Int) (r:List Int) (c:CC) (h1:(sgAt x i).kind≠1) (hy:x.pipes.l[k]?=some y) (hd:y.dst=i) (hn:y.input=za8 (sgAt x i) (stAt s i)) (hc:s.cr[k]?=some c) (hi:c.items=a::r)
   (h0:zbW (sgAt x i) (stAt s i) y.input a=0) (hm:zr (sgAt x i) (stAt s i) y.input a=(m.st,m.out,0)) (hk:m.kind=2) (hp:m.pipe=k) (ha:m.item=a)
 |last (k:Nat) (y:Pi) (c:CC) (h1:(sgAt x i).kind≠1) (hy:x.pipes.l[k]?=some y) (hd:y.dst=i) (hn:y.input=za8 (sgAt x i) (stAt s i)) (hc:s.cr[k]?=some c) (he:c.closed=true) (hi:c.items=[])
   (h0:endE (sgAt x i) (stAt s i) y.input=0) (hm:endK (sgAt x i) (stAt s i) y.input=(m.st,m.out,0)) (hk:m.kind=3)
theorem zjY {x:Sg} {s:SS} {i n:Int} (h:(zcU x s i n).2.2=0):zbW x s i n=0∧zr x s i n=((zcU x s i n).1,(zcU x s i n).2.1,0):=by
 unfold zcU at *
 by_cases h0:zbW x s i n=0
 .rw[if_neg (by simp[h0])]at h⊢
  refine⟨h0,?_⟩
  rw[←h]
 .rw[if_pos h0]at h;exact absurd h h0
theorem zoc {x:Sg} {s:SS} {i:Int} (h:(endS x s i).2.2=0):endE x s i=0∧endK x s i=((endS x s i).1,(endS x s i).2.1,0):=by
 unfold endS at *
 by_cases h0:endE x s i=0
 .rw[if_neg (by simp[h0])]at h⊢
  refine⟨h0,?_⟩
  rw[←h]
 .rw[if_pos h0]at h;exact absurd h h0
theorem zeH {x:Sg} {s:SS} (h:zan x s=0) (hk:x.kind≠1):0≤za8 x s∧za8 x s<inK x.kind:=by
 obtain⟨hg,hs⟩:=zx.1 h
 have hf:=zQ hs
 unfold za8
 by_cases k8:x.kind=8
 .have:zN x=1:=by simp[zN,k8]
  have hin:inK x.kind=2:=by simp[inK,k8]
  rw[if_pos k8,hin]
  split<;>omega
 .rw[if_neg k8]
  by_cases k9:x.kind=9
  .have hin:inK x.kind=2:=by simp[inK,k9]
   rw[hin]
   split<;>omega
  .have hin:inK x.kind=1:=by simp[inK,hk,k8,k9]
   rw[if_neg (by simp[k9]),hin];omega
theorem zeG {x:Pl} {s:FS} (hx:PlV x) (hs:FsV x s) {i:Nat} (hi:i<x.stages.l.length) (hk:(zad x s i).kind≠0) (he:(zad x s i).e=0):(stAt s i).ended=false∧Act1 x s i (zad x s i):=by
 unfold zad at *
 simp only at *
 by_cases h0:(stAt s i).ended=true
 .rw[if_pos h0]at hk;exact absurd rfl hk
 rw[if_neg h0]at hk he⊢
 refine⟨by simpa using h0,?_⟩
 by_cases h1:(sgAt x i).kind=1
 .rw[if_pos h1]at hk he⊢
  by_cases h2:s.drain=false∧(stAt s i).count<(sgAt x i).items.l.length
  .rw[if_pos h2]at hk he⊢
   obtain⟨a,b⟩:=zjY he
   exact .gen h1 a b rfl
  .rw[if_neg h2]at hk he⊢
   obtain⟨a,b⟩:=zoc he
   exact .stop h1 a b rfl
 .rw[if_neg h1]at hk he⊢
  obtain⟨n0,n1⟩:=zeH (hs.st i (by omega) (by omega)) h1
  obtain⟨k,y,hky,e1,e2⟩:=hx.allIn i (za8 (sgAt x i) (stAt s i)).toNat hi (by omega)
  have e2':y.input=za8 (sgAt x i) (stAt s i):=by omega
  have hp:pIn x i (za8 (sgAt x i) (stAt s i))=k:=by rw[←e2',←e1];exact zcK hx.toPiV hky
  have hkl:k<s.cr.length:=by rw[hs.lc];exact (gEs.1 hky).1
  have hc:=gEg hkl
  have hca:crAt s k=s.cr[k]:=by unfold crAt;rw[iTn,zd0 hc]
  rw[hp,hca]at hk he⊢
  have hv:=(hs.cr k _ y hc hky).v
  cases hit:s.cr[k].items with
  |cons a r=>
   rw[hit]at hk he
   simp only at hk he⊢
   obtain⟨p,q⟩:=zjY he
   exact .take k y a r _ h1 hky e1 e2' hc hit (by rw[e2'];exact p) (by rw[e2'];exact q) rfl rfl rfl
  |nil=>
   rw[hit]at hk he
   simp only at hk he⊢
   by_cases hen:endC s.cr[k]=true
   .rw[if_pos hen]at hk he⊢
    obtain⟨p,q⟩:=zoc he
    exact .last k y _ h1 hky e1 e2' hc ((zeT hv).1 hen).1 hit (by rw[e2'];exact p) (by rw[e2'];exact q) rfl
   .rw[if_neg hen]at hk;exact absurd rfl hk
structure Stp (x:Pl) (s t:FS) (i:Nat) (m:MV):Prop where
 hi:i<x.stages.l.length
 open_:(stAt s i).ended=false
 act:Act1 x s i m
 fit:fitO x s i m.out 0=true
 lim:m.kind=2→(sgAt x i).kind=10→(s.out.getD (zK (x.stages.l.take i)) []).length≠200
 tk:m.kind=2→(zas (crAt s m.pipe)).2=0
 eq:t=⟨s.st.set i m.st,zbr x i m.st.ended m.out 0 (if m.kind=2 then s.cr.set m.pipe.toNat (zas (crAt s m.pipe)).1 else s.cr),
  if m.kind=2∧(sgAt x i).kind=10 then s.out.set (zK (x.stages.l.take i)) (s.out.getD (zK (x.stages.l.take i)) []++[m.item]) else s.out,s.drain⟩
theorem zi0 {x:Pl} {s t:FS} {i:Int} (h:zbp x s i=(t,0)):PlV x∧FsV x s∧0≤i∧Stp x s t i.toNat (zad x s i):=by
 unfold zbp at h
 split at h
 .rename_i h1
  simp only[pMi]at h
  exact absurd h.2 h1
 rename_i h1
 have hv:=zeW.1 (by omega:vaI x s=0)
 have hx:=zfd hv.1
 split at h
 .simp at h
 rename_i h2
 split at h
 .simp at h
 rename_i h3
 simp only at h
 split at h
 .rename_i h4
  simp only[pMi]at h
  exact absurd h.2 h4
 rename_i h4
 split at h
 .simp at h
 rename_i h5
 split at h
 .rename_i h6
  simp only[pMi]at h
  exact absurd h.2 h6.2
 rename_i h6
 have e:((i.toNat:Nat):Int)=i:=by omega
 have hen:enB x s i=true:=by cases hb:enB x s i with|true=>rfl|false=>exact absurd hb h3
 unfold enB at hen
 have h4':(zad x s i).e=0:=by omega
 simp only[h4',decide_true,Bool.not_true,Bool.false_or,bAt,Bool.not_eq_true',decide_eq_false_iff_not]at hen
 have hact:=zeG hx hv.2 (i:=i.toNat) (by omega) (by rw[e];exact hen.1) (by rw[e];exact h4')
 rw[e]at hact
 refine⟨hx,hv.2,by omega,by omega,by rw[e];exact hact.1,hact.2,by rw[e];exact hen.2,fun hk hs=>?_,fun hk=>?_,?_⟩
 .rw[e]at hs
  intro hl
  exact h5 ⟨hk,hs,hl⟩
 .apply cBc
  intro hn
  exact h6 ⟨hk,hn⟩
 .simp only[pMi]at h
  rw[e]
  exact h.1.symm
theorem zo6 {s:List SS} {c:List CC} {o:List (List Int)} {d:Bool} {i:Nat} {u:SS} (hi:i<s.length) (j:Nat):stAt ⟨s.set i u,c,o,d⟩ j=if i=j then u else stAt ⟨s,c,o,d⟩ j:=by
 unfold stAt
 simp only[iTn,gEd,List.getElem?_set]
 by_cases h:i=j
 .subst h;simp[hi]
 .simp[h]
theorem Act1.mv {x:Pl} {s:FS} {i:Nat} {m:MV} (h:Act1 x s i m) (he:(stAt s i).ended=false):MvOk (sgAt x i) m.st m.out:=by
 cases h with
 |gen h1 h0 hm hk=>
  have:=(zdW h0 (by rw[hm])).1
  rw[hm]at this
  exact this
 |stop h1 h0 hm hk=>
  have:=(zkP h0 (by rw[hm])).1
  rw[hm]at this
  exact this
 |take k y a r c h1 hy hd hn hc hi h0 hm hk hp ha=>
  have:=(zdW h0 (by rw[hm])).1
  rw[hm]at this
  exact this
 |last k y c h1 hy hd hn hc hce hi h0 hm hk=>
  have:=(zkP h0 (by rw[hm])).1
  rw[hm]at this
  exact this
def cr1 (x:Pl) (s:FS) (i:Nat) (m:MV) (k:Nat) (y:Pi) (c:CC):CC:=
 if y.src=i then updC m.st.ended (m.out.getD y.output.toNat []) c else if m.kind=2∧m.pipe=k then zbM c else c
theorem za4 {s:FS} {k:Nat} {c:CC} (h:s.cr[k]?=some c):crAt s k=c:=by unfold crAt;rw[iTn,zd0 h]
theorem Act1.pipe {x:Pl} {s:FS} {i:Nat} {m:MV} (h:Act1 x s i m) (hk:m.kind=2):∃(k:Nat) (y:Pi) (a:Int) (r:List Int) (c:CC),(sgAt x i).kind≠1∧x.pipes.l[k]?=some y∧y.dst=i∧y.input=za8 (sgAt x i) (stAt s i)∧s.cr[k]?=some c∧c.items=a::r∧zbW (sgAt x i) (stAt s i) y.input a=0∧zr (sgAt x i) (stAt s i) y.input a=(m.st,m.out,0)∧m.pipe=k∧m.item=a:=by
 cases h with
 |gen h1 h0 hm hk'=>omega
 |stop h1 h0 hm hk'=>omega
 |take k y a r c h1 hy hd hn hc hi h0 hm hk' hp ha=>exact⟨k,y,a,r,c,h1,hy,hd,hn,hc,hi,h0,hm,hp,ha⟩
 |last k y c h1 hy hd hn hc hce hi h0 hm hk'=>omega
theorem Stp.cr {x:Pl} {s t:FS} {i:Nat} {m:MV} (hx:PlV x) (hs:FsV x s) (h:Stp x s t i m) {k:Nat} {y:Pi} {c:CC} (hy:x.pipes.l[k]?=some y) (hc:s.cr[k]?=some c):t.cr[k]?=some (cr1 x s i m k y c):=by
 have hmv:=h.act.mv h.open_
 have ht:t.cr=zbr x i m.st.ended m.out 0 (if m.kind=2 then s.cr.set m.pipe.toNat (zas (crAt s m.pipe)).1 else s.cr):=by rw[h.eq]
 rw[ht,zhF hx h.hi _ hy _ 0 _ (by split<;>simp[hs.lc]) (by rw[hmv.len];omega)]
 have hr:=hx.rng k y hy
 have hcond:(y.src=i∧((0:Nat):Int)≤y.output∧y.output<((0:Nat):Int)+m.out.length)↔y.src=i:=by
  constructor
  .exact fun h=>h.1
  .intro e
   have h1:=hr.2.2.2.2.2.2.2.1
   rw[e]at h1
   rw[hmv.len]
   exact⟨e,by omega,by omega⟩
 by_cases hk2:m.kind=2
 .rw[if_pos hk2]
  obtain⟨k0,y0,a,r,c0,q1,q2,q3,q4,q5,q6,q7,q8,q9,q10⟩:=h.act.pipe hk2
  have hkl:k0<s.cr.length:=(gEs.1 q5).1
  rw[q9,iTn,za4 q5]
  by_cases hkk:k0=k
  .subst hkk
   have ey:y0=y:=by rw[q2]at hy;exact Option.some.inj hy
   have ec:c0=c:=by rw[q5]at hc;exact Option.some.inj hc
   subst ey;subst ec
   have hns:=hx.noself q2
   have hsrc:y0.src≠i:=fun e=>hns (by rw[e,q3])
   rw[gEt hkl]
   simp only[oMs]
   rw[if_neg (fun hh=>hsrc (hcond.1 hh))]
   have htk:=h.tk hk2
   rw[q9,za4 q5]at htk
   have hv:=hs.cr k0 c0 y0 q5 q2
   have e:=zck hv.v q6 hv.grant
   unfold cr1
   rw[if_neg hsrc,if_pos ⟨hk2,q9⟩]
   rw[e]at htk⊢
   split
   .rfl
   .rename_i hh;rw[if_neg hh]at htk;cases htk
  .rw[gEn hkk,hc]
   simp only[oMs,hcond]
   unfold cr1
   by_cases hsrc:y.src=i
   .simp[hsrc]
   .rw[if_neg hsrc,if_neg hsrc,if_neg (fun hh=>hkk (by omega))]
 .rw[if_neg hk2,hc]
  simp only[oMs,hcond]
  unfold cr1
  by_cases hsrc:y.src=i
  .simp[hsrc]
  .rw[if_neg hsrc,if_neg hsrc,if_neg (fun hh=>hk2 hh.1)]
theorem Stp.lens {x:Pl} {s t:FS} {i:Nat} {m:MV} (h:Stp x s t i m):t.st.length=s.st.length∧t.cr.length=s.cr.length∧t.out.length=s.out.length∧t.drain=s.drain:=by
 rw[h.eq]
 refine⟨by simp,?_,?_,rfl⟩
 .simp only[zhE];split<;>simp
 .simp only;split<;>simp
theorem Stp.st {x:Pl} {s t:FS} {i:Nat} {m:MV} (hs:FsV x s) (h:Stp x s t i m) (j:Nat):stAt t j=if i=j then m.st else stAt s j:=by
 rw[h.eq,zo6 (by have:=h.hi;have:=hs.ls;omega)]
 rfl
theorem Stp.room {x:Pl} {s t:FS} {i:Nat} {m:MV} (hx:PlV x) (hs:FsV x s) (h:Stp x s t i m) {k:Nat} {y:Pi} {c:CC} (hy:x.pipes.l[k]?=some y) (hc:s.cr[k]?=some c) (hsrc:y.src=i):
  c.closed=false∧c.sent+(m.out.getD y.output.toNat []).length≤c.granted∧∀n∈m.out.getD y.output.toNat [],isIt n=true:=by
 have hmv:=h.act.mv h.open_
 have hv:=hs.cr k c y hc hy
 have hcl:c.closed=false:=by rw[hv.closed,hsrc];exact h.open_
 have hr:=hx.rng k y hy
 have h1:=hr.2.2.2.2.2.2.2.1
 rw[hsrc,←hmv.len]at h1
 have hlt:y.output.toNat<m.out.length:=by omega
 have hg:=gEg hlt
 have hp:pOut x i (0+y.output.toNat:Nat)=k:=by
  have:=zct hx.toPiV hy
  rw[hsrc]at this
  rw[Nat.zero_add,show ((y.output.toNat:Nat):Int)=y.output by omega]
  exact this
 have hf:=zeL.1 h.fit y.output.toNat _ hg
 rw[hp,za4 hc,zdQ hv.v hcl]at hf
 rw[zd0 hg]
 exact⟨hcl,by omega,hmv.all _ (List.getElem_mem hlt)⟩
theorem zgs {c:CC} {o:List Int} {e:Bool} (h:CrV c) (hc:c.closed=false) (hr:c.sent+o.length≤c.granted) (ho:∀n∈o,isIt n=true):
  updC e o c={c with items:=c.items++o,sent:=c.sent+o.length,closed:=e}∧CrV (updC e o c):=by
 obtain⟨h1,h2⟩:=zmI o h ho hc hr
 unfold updC
 rw[h1]
 cases e with
 |true=>
  rw[if_pos rfl,zog h2 hc]
  exact⟨rfl,zt6 h2⟩
 |false=>
  rw[if_neg (by simp)]
  refine⟨?_,h2⟩
  rw[←hc]
theorem Stp.valid {x:Pl} {s t:FS} {i:Nat} {m:MV} (hx:PlV x) (hs:FsV x s) (h:Stp x s t i m):FsV x t:=by
 have hmv:=h.act.mv h.open_
 obtain⟨l1,l2,l3,l4⟩:=h.lens
 refine⟨by rw[l1];exact hs.ls,by rw[l2];exact hs.lc,by rw[l3];exact hs.lo,?_,fun j h0 hj=>?_,fun k c' y hc' hy=>?_⟩
 .intro l hl
  rw[h.eq]at hl
  simp only at hl
  split at hl
  .rename_i hk
   obtain⟨k0,y0,a,r,c0,q1,q2,q3,q4,q5,q6,q7,q8,q9,q10⟩:=h.act.pipe hk.1
   rcases List.mem_or_eq_of_mem_set hl with hl|rfl
   .exact hs.out l hl
   .have hnl:=h.lim hk.1 hk.2
    have hit:isIt m.item=true:=by
     rw[q10]
     exact (hs.cr k0 c0 y0 q5 q2).v.all a (by rw[q6];simp)
    by_cases hlt:zK (x.stages.l.take i)<s.out.length
    .rw[zd0 (gEg hlt)]at hnl⊢
     obtain⟨o1,o2⟩:=hs.out _ (List.getElem_mem hlt)
     refine⟨by simp only[List.length_append,List.length_singleton];omega,fun n hn=>?_⟩
     rcases List.mem_append.1 hn with hn|hn
     .exact o2 n hn
     .simp only[List.mem_singleton]at hn;subst hn;exact hit
    .have:s.out.getD (zK (x.stages.l.take i)) []=[]:=by rw[gEd,List.getElem?_eq_none (by omega)];rfl
     rw[this]
     refine⟨by simp,fun n hn=>?_⟩
     simp at hn;subst hn;exact hit
  .exact hs.out l hl
 .have e:((j.toNat:Nat):Int)=j:=by omega
  rw[←e,h.st hs]
  by_cases hij:i=j.toNat
  .rw[if_pos hij,←hij];exact hmv.ok
  .rw[if_neg hij,e];exact hs.st j h0 hj
 .have hkl:k<s.cr.length:=by rw[hs.lc];exact (gEs.1 hy).1
  have hc:=gEg hkl
  generalize s.cr[k]=c at hc
  have ht:=h.cr hx hs hy hc
  rw[ht]at hc'
  cases hc'
  have hv:=hs.cr k c y hc hy
  have hr:=hx.rng k y hy
  have hns:=hx.noself hy
  have hsrcN:((y.src.toNat:Nat):Int)=y.src:=by omega
  have hdstN:((y.dst.toNat:Nat):Int)=y.dst:=by omega
  have st1:stAt t y.src=if y.src=i then m.st else stAt s y.src:=by
   rw[←hsrcN,h.st hs]
   by_cases e:i=y.src.toNat
   .rw[if_pos e,if_pos (by omega)]
   .rw[if_neg e,if_neg (by omega)]
  have st2:stAt t y.dst=if y.dst=i then m.st else stAt s y.dst:=by
   rw[←hdstN,h.st hs]
   by_cases e:i=y.dst.toNat
   .rw[if_pos e,if_pos (by omega)]
   .rw[if_neg e,if_neg (by omega)]
  unfold cr1
  by_cases hsrc:y.src=i
  .rw[if_pos hsrc]
   have hdst:y.dst≠i:=fun e=>hns (by rw[hsrc,e])
   obtain⟨r1,r2,r3⟩:=h.room hx hs hy hc hsrc
   obtain⟨u1,u2⟩:=zgs (e:=m.st.ended) hv.v r1 r2 r3
   refine⟨u2,by rw[u1];exact hv.cap,by rw[u1,st1,if_pos hsrc],?_,?_⟩
   .rw[u1]
    right
    exact hv.grant.resolve_left (by rw[r1];simp)
   .rw[st2,if_neg hdst]
    intro hn
    have:=(hv.noted hn).1
    rw[r1]at this;cases this
  .rw[if_neg hsrc]
   rw[if_neg hsrc]at st1
   by_cases hk2:m.kind=2∧m.pipe=k
   .rw[if_pos hk2]
    obtain⟨k0,y0,a,r,c0,q1,q2,q3,q4,q5,q6,q7,q8,q9,q10⟩:=h.act.pipe hk2.1
    have hkk:k0=k:=by have:=hk2.2;omega
    subst hkk
    have ey:y0=y:=by rw[q2]at hy;exact Option.some.inj hy
    have ec:c0=c:=by rw[q5]at hc;exact Option.some.inj hc
    subst ey;subst ec
    have htk:=h.tk hk2.1
    rw[q9,za4 q5,zck hv.v q6 hv.grant]at htk
    have hm:c0.closed=true∨c0.granted+1≤1099511627776:=by
     split at htk
     .rename_i hh;exact hh
     .cases htk
    refine⟨zut hv.v q6 hv.grant hm,hv.cap,by rw[st1];exact hv.closed,?_,?_⟩
    .unfold zbM
     by_cases hcl:c0.closed=true
     .exact .inl hcl
     .right
      have:=hv.grant.resolve_left hcl
      show (if c0.closed=true then c0.granted else c0.granted+1)=c0.taken+1+c0.cap
      rw[if_neg hcl];omega
    .rw[st2,if_pos q3]
     have hmo:=(zdW q7 (by rw[q8])).2.2
     rw[q8]at hmo
     simp only at hmo
     rw[q3,hmo]
     intro hn
     rw[←q3]at hn
     have:=(hv.noted hn).2
     rw[q6]at this;cases this
   .rw[if_neg hk2]
    refine⟨hv.v,hv.cap,by rw[st1];exact hv.closed,hv.grant,?_⟩
    rw[st2]
    by_cases hdst:y.dst=i
    .rw[if_pos hdst]
     cases h.act with
     |gen h1 h0 hm hk=>
      have:=hr.2.2.2.2.2.2.2.2.2.1
      rw[hdst]at this
      simp only[inK,h1,if_true]at this
      omega
     |stop h1 h0 hm hk=>
      have:=hr.2.2.2.2.2.2.2.2.2.1
      rw[hdst]at this
      simp only[inK,h1,if_true]at this
      omega
     |take k0 y0 a r c0 h1 hy0 hd hn hc0 hi h0 hm hk hp ha=>
      have hmo:=(zdW h0 (by rw[hm])).2.2
      rw[hm]at hmo
      simp only at hmo
      rw[hdst,hmo]
      intro hn'
      rw[←hdst]at hn'
      exact hv.noted hn'
     |last k0 y0 c0 h1 hy0 hd hn hc0 hce hi h0 hm hk=>
      have hlt:y.input.toNat<inK (sgAt x i).kind:=by
       have h9:=hr.2.2.2.2.2.2.2.2.2.1
       rw[hdst]at h9;omega
      have hmo:=(zkP h0 (by rw[hm])).2 y.input.toNat hlt
      rw[hm]at hmo
      simp only at hmo
      have hin:((y.input.toNat:Nat):Int)=y.input:=by omega
      rw[hin]at hmo
      rw[hdst,hmo]
      intro hn'
      simp only[Bool.or_eq_true,dTe]at hn'
      rcases hn' with hn'|hn'
      .rw[←hdst]at hn'
       exact hv.noted hn'
      .have hkk:k=k0:=hx.ui k k0 y y0 hy hy0 (by rw[hdst,hd]) hn'
       subst hkk
       rw[hc]at hc0;cases hc0
       exact⟨hce,hi⟩
    .rw[if_neg hdst]
     exact hv.noted
theorem zfp {α:Type} {l:List α} {i j:Nat} {v d:α} (h:i≠j):(l.set i v).getD j d=l.getD j d:=by
 rw[gEd,gEn h,←gEd]
def outP (x:Pl) (s:FS) (i:Nat) (m:MV):List (List Int):=
 if m.kind=2∧(sgAt x i).kind=10 then s.out.set (zK (x.stages.l.take i)) (s.out.getD (zK (x.stages.l.take i)) []++[m.item]) else s.out
def zdn (x:Pl) (s:FS) (i:Nat) (m:MV):FS:=
 ⟨s.st.set i m.st,zbr x i m.st.ended m.out 0 (if m.kind=2 then s.cr.set m.pipe.toNat (zas (crAt s m.pipe)).1 else s.cr),outP x s i m,s.drain⟩
theorem zsi {x:Pl} {s:FS} {i:Nat} (hp:plI x=0) (hs:FsV x s) (hi:i<x.stages.l.length) (hk:(zad x s i).kind≠0) (he:(zad x s i).e=0) (hf:fitO x s i (zad x s i).out 0=true)
  (hl:(zad x s i).kind=2→(sgAt x i).kind=10→(s.out.getD (zK (x.stages.l.take i)) []).length≠200) (ht:(zad x s i).kind=2→(zas (crAt s (zad x s i).pipe)).2=0):
  zbp x s i=(zdn x s i (zad x s i),0):=by
 unfold zbp
 rw[if_neg (by rw[zeW.2 ⟨hp,hs⟩];simp),if_neg (by omega)]
 have hen:enB x s i=true:=by
  unfold enB
  simp[hk,hf]
 rw[if_neg (by rw[hen];simp)]
 simp only[iTn]
 rw[if_neg (by simp[he]),if_neg (fun h=>hl h.1 h.2.1 h.2.2),if_neg (fun h=>h.2 (ht h.1))]
 rfl
theorem Stp.mk' {x:Pl} {s t:FS} {i:Nat} {m:MV} (h:Stp x s t i m):t=zdn x s i m:=h.eq
theorem zri {x:Pl} {s:FS} {i:Nat} {m:MV} (h:Act1 x s i m):m.kind≠0:=by
 cases h with
 |gen h1 h0 hm hk=>omega
 |stop h1 h0 hm hk=>omega
 |take k y a r c h1 hy hd hn hc hi h0 hm hk hp ha=>omega
 |last k y c h1 hy hd hn hc hce hi h0 hm hk=>omega
theorem zeF {x:Pl}:∀{l:List Sg} {i j:Nat},i<j→(∃g,l[i]?=some g∧g.kind=10)→zK (l.take i)<zK (l.take j)
 | [],i,j,_,h=>by obtain⟨g,h1,_⟩:=h;simp at h1
 |a::r,0,j,hij,h=>by
  obtain⟨g,h1,h2⟩:=h
  simp at h1
  subst h1
  obtain⟨j,rfl⟩:∃j',j=j'+1:=⟨j - 1,by omega⟩
  simp[zK,h2]
 |a::r,i+1,j,hij,h=>by
  obtain⟨g,h1,h2⟩:=h
  obtain⟨j,rfl⟩:∃j',j=j'+1:=⟨j - 1,by omega⟩
  have ih:=zeF (x:=x) (l:=r) (i:=i) (j:=j) (by omega) ⟨g,by simpa using h1,h2⟩
  simp only[zK,List.take_succ_cons,List.filter_cons]at ih⊢
  split<;>simp<;>omega
theorem zaK {x:Pl} {i:Nat} (h:i<x.stages.l.length):x.stages.l[i]?=some (sgAt x i):=by
 unfold sgAt
 rw[iTn,zd0 (gEg h)]
 exact gEg h
theorem zj1 {x:Pl} {i j:Nat} (hi:i<x.stages.l.length) (hj:j<x.stages.l.length) (h:i≠j) (h1:(sgAt x i).kind=10) (h2:(sgAt x j).kind=10):zK (x.stages.l.take i)≠zK (x.stages.l.take j):=by
 rcases Nat.lt_or_ge i j with h3|h3
 .have:=zeF (x:=x) h3 ⟨_,zaK hi,h1⟩;omega
 .have:=zeF (x:=x) (i:=j) (j:=i) (by omega) ⟨_,zaK hj,h2⟩;omega
theorem zmT {x:Pl} {s p:FS} {i j:Nat} {m:MV} (hx:PlV x) (hs:FsV x s) (hp:Stp x s p i m) (hij:i≠j) (hj:j<x.stages.l.length) (hk:(zad x s j).kind≠0):zad x p j=zad x s j:=by
 have hst:stAt p j=stAt s j:=by rw[hp.st hs,if_neg hij]
 have hdr:=hp.lens.2.2.2
 unfold zad at hk⊢
 simp only at hk⊢
 rw[hst,hdr]
 by_cases h0:(stAt s j).ended=true
 .rw[if_pos h0]at hk;exact absurd rfl hk
 rw[if_neg h0,if_neg h0]
 rw[if_neg h0]at hk
 by_cases h1:(sgAt x j).kind=1
 .rw[if_pos h1,if_pos h1]
 rw[if_neg h1,if_neg h1]
 rw[if_neg h1]at hk
 obtain⟨n0,n1⟩:=zeH (hs.st j (by omega) (by omega)) h1
 obtain⟨k,y,hky,e1,e2⟩:=hx.allIn j (za8 (sgAt x j) (stAt s j)).toNat hj (by omega)
 have e2':y.input=za8 (sgAt x j) (stAt s j):=by omega
 have hpk:pIn x j (za8 (sgAt x j) (stAt s j))=k:=by rw[←e2',←e1];exact zcK hx.toPiV hky
 obtain⟨c,hc⟩:∃c,s.cr[k]?=some c:=⟨_,gEg (by rw[hs.lc];exact (gEs.1 hky).1)⟩
 have hc':=hp.cr hx hs hky hc
 rw[hpk,za4 hc]at hk
 rw[hpk,za4 hc,za4 hc']
 have hv:=hs.cr k c y hc hky
 unfold cr1
 by_cases hsrc:y.src=i
 .rw[if_pos hsrc]
  obtain⟨r1,r2,r3⟩:=hp.room hx hs hky hc hsrc
  obtain⟨u1,u2⟩:=zgs (e:=m.st.ended) hv.v r1 r2 r3
  cases hit:c.items with
  |nil=>
   rw[hit]at hk
   simp only at hk
   have hen:¬endC c=true:=by
    intro h
    have:=((zeT hv.v).1 h).1
    rw[r1]at this;cases this
   rw[if_neg hen]at hk
   exact absurd rfl hk
  |cons a r=>
   rw[u1]
   simp only[hit,List.cons_append]
 .rw[if_neg hsrc]
  have:¬(m.kind=2∧m.pipe=k):=by
   rintro⟨h2,h3⟩
   obtain⟨k0,y0,a,r,c0,q1,q2,q3,q4,q5,q6,q7,q8,q9,q10⟩:=hp.act.pipe h2
   have:k0=k:=by omega
   subst this
   rw[q2]at hky
   have ey:=Option.some.inj hky
   rw[ey]at q3
   omega
  rw[if_neg this]
theorem zfU {x:Pl} {s p:FS} {i j:Nat} {m:MV} (hpl:plI x=0) (hx:PlV x) (hs:FsV x s) (hp:Stp x s p i m) (hij:i≠j) {q:FS} (hq:Stp x s q j (zad x s j)) (he:(zad x s j).e=0):
  zbp x p j=(zdn x p j (zad x s j),0)∧Stp x p (zdn x p j (zad x s j)) j (zad x s j):=by
 have hk:=zri hq.act
 have hn:=zmT hx hs hp hij hq.hi hk
 have hpv:=hp.valid hx hs
 have hdr:(stAt p j).ended=false:=by rw[hp.st hs,if_neg hij];exact hq.open_
 have hfit:fitO x p j (zad x s j).out 0=true:=by
  rw[zeL]
  intro o l hl
  have hf:=zeL.1 hq.fit o l hl
  have hmv:=hq.act.mv hq.open_
  have hol:o<outK (sgAt x j).kind:=by rw[←hmv.len];exact (gEs.1 hl).1
  obtain⟨k,y,hky,e1,e2⟩:=hx.allOut j o hq.hi hol
  have hpk:pOut x j (0+o:Nat)=k:=by rw[Nat.zero_add,←e2,←e1];exact zct hx.toPiV hky
  obtain⟨c,hc⟩:∃c,s.cr[k]?=some c:=⟨_,gEg (by rw[hs.lc];exact (gEs.1 hky).1)⟩
  have hc':=hp.cr hx hs hky hc
  rw[hpk,za4 hc]at hf
  rw[hpk,za4 hc']
  have hv:=hs.cr k c y hc hky
  have hv':=hpv.cr k _ y hc' hky
  have hcl:c.closed=false:=by rw[hv.closed,e1];exact hq.open_
  rw[zdQ hv.v hcl]at hf
  have hcl':(cr1 x s i m k y c).closed=false:=by rw[hv'.closed,e1];exact hdr
  rw[zdQ hv'.v hcl']
  unfold cr1
  rw[if_neg (by omega)]
  split
  .unfold zbM;simp only[hcl,bFt,if_false];omega
  .exact hf
 have hlim:(zad x s j).kind=2→(sgAt x j).kind=10→(p.out.getD (zK (x.stages.l.take j)) []).length≠200:=by
  intro h1 h2
  have:=hq.lim h1 h2
  rw[hp.mk']
  show ((outP x s i m).getD _ []).length≠200
  unfold outP
  split
  .rename_i h3
   have hne:=zj1 hp.hi hq.hi hij h3.2 h2
   rw[gEd,gEn hne,←gEd]
   exact this
  .exact this
 have htk:(zad x s j).kind=2→(zas (crAt p (zad x s j).pipe)).2=0:=by
  intro h1
  obtain⟨k,y,a,r,c,q1,q2,q3,q4,q5,q6,q7,q8,q9,q10⟩:=hq.act.pipe h1
  have ht:=hq.tk h1
  have hv:=hs.cr k c y q5 q2
  rw[q9,za4 q5,zck hv.v q6 hv.grant]at ht
  have hc':=hp.cr hx hs q2 q5
  have hv':=hpv.cr k _ y hc' q2
  rw[q9,za4 hc']
  unfold cr1 at hv'⊢
  by_cases hsrc:y.src=i
  .rw[if_pos hsrc]at hv'⊢
   obtain⟨r1,r2,r3⟩:=hp.room hx hs q2 q5 hsrc
   obtain⟨u1,u2⟩:=zgs (e:=m.st.ended) hv.v r1 r2 r3
   have hit:(updC m.st.ended (m.out.getD y.output.toNat []) c).items=a::(r++m.out.getD y.output.toNat []):=by rw[u1];simp[q6]
   rw[zck hv'.v hit hv'.grant]
   have hg:c.granted+1≤1099511627776:=by
    split at ht
    .rename_i hh
     rcases hh with hh|hh
     .rw[r1]at hh;cases hh
     .exact hh
    .cases ht
   rw[if_pos (.inr (by rw[u1];exact hg))]
  .rw[if_neg hsrc]at hv'⊢
   have:¬(m.kind=2∧m.pipe=k):=by
    rintro⟨h2,h3⟩
    obtain⟨k0,y0,a0,r0,c0,p1,p2,p3,p4,p5,p6,p7,p8,p9,p10⟩:=hp.act.pipe h2
    have:k0=k:=by omega
    subst this
    rw[p2]at q2
    have ey:=Option.some.inj q2
    rw[ey]at p3
    omega
   rw[if_neg this]
   rw[zck hv.v q6 hv.grant]
   exact ht
 have h1:=zsi (x:=x) (s:=p) (i:=j) hpl hpv hq.hi (by rw[hn];exact hk) (by rw[hn];exact he) (by rw[hn];exact hfit) (by rw[hn];exact hlim) (by rw[hn];exact htk)
 rw[hn]at h1
 refine⟨h1,?_⟩
 have h2:=(zi0 h1).2.2.2
 rw[iTn,hn]at h2
 exact h2
def zhC (c:CC):CC:=if c.closed=true then {c with granted:=c.sent} else c
def zle (s:FS):FS:={s with cr:=s.cr.map zhC}
theorem zhB {c:CC} {e:Bool} {o:List Int} {a:Int} {r:List Int} (hc:c.closed=false) (hi:c.items=a::r):
  zhC (zbM {c with items:=c.items++o,sent:=c.sent+o.length,closed:=e})=zhC {(zbM c) with items:=(zbM c).items++o,sent:=(zbM c).sent+o.length,closed:=e}:=by
 cases e<;>simp[zhC,zbM,hc,hi]
theorem zmt {x:Pl} {s p q:FS} {i j:Int} (hij:i≠j) (h1:zbp x s i=(p,0)) (h2:zbp x s j=(q,0)):
  ∃u v,zbp x p j=(u,0)∧zbp x q i=(v,0)∧zle u=zle v:=by
 have hpl:plI x=0:=by
  unfold zbp at h1
  split at h1
  .rename_i h;simp only[pMi]at h1;exact absurd h1.2 h
  .rename_i h;exact (zeW.1 (show vaI x s=0 by omega)).1
 have err:∀{t:FS} {k:Int},zbp x s k=(t,0)→(zad x s k).e=0:=by
  intro t k h
  unfold zbp at h
  split at h
  .rename_i h3;simp only[pMi]at h;exact absurd h.2 h3
  .split at h
   .simp at h
   .split at h
    .simp at h
    .simp only at h
     split at h
     .rename_i h3;simp only[pMi]at h;exact absurd h.2 h3
     .rename_i h3;omega
 obtain⟨hx,hs,hi0,hp⟩:=zi0 h1
 obtain⟨_,_,hj0,hq⟩:=zi0 h2
 have he1:=err h1
 have he2:=err h2
 obtain⟨i,rfl⟩:∃k:Nat,i=k:=⟨i.toNat,by omega⟩
 obtain⟨j,rfl⟩:∃k:Nat,j=k:=⟨j.toNat,by omega⟩
 simp only[iTn]at hp hq
 have hij':i≠j:=fun e=>hij (by rw[e])
 obtain⟨u1,hu⟩:=zfU hpl hx hs hp hij' hq he2
 obtain⟨v1,hv⟩:=zfU hpl hx hs hq (Ne.symm hij') hp he1
 refine⟨_,_,u1,v1,?_⟩
 generalize hm:zad x s i=m at *
 generalize hn:zad x s j=n at *
 have hpv:=hp.valid hx hs
 have hqv:=hq.valid hx hs
 have ep:=hp.mk'
 have eq':=hq.mk'
 have hst:(zdn x p j n).st=(zdn x q i m).st:=by
  show p.st.set j n.st=q.st.set i m.st
  rw[ep,eq']
  show (s.st.set i m.st).set j n.st=(s.st.set j n.st).set i m.st
  exact List.set_comm _ _ hij'
 have hdr:(zdn x p j n).drain=(zdn x q i m).drain:=by
  show p.drain=q.drain
  rw[ep,eq'];rfl
 have hout:(zdn x p j n).out=(zdn x q i m).out:=by
  show outP x p j n=outP x q i m
  have o1:p.out=outP x s i m:=by rw[ep];rfl
  have o2:q.out=outP x s j n:=by rw[eq'];rfl
  unfold outP
  rw[o1,o2]
  unfold outP
  by_cases a1:m.kind=2∧(sgAt x i).kind=10
  .by_cases a2:n.kind=2∧(sgAt x j).kind=10
   .have hne:=zj1 hp.hi hq.hi hij' a1.2 a2.2
    rw[if_pos a1,if_pos a2,if_pos a1,if_pos a2]
    simp only[zfp hne,zfp (Ne.symm hne)]
    exact List.set_comm _ _ hne
   .simp only[if_pos a1,if_neg a2]
  .by_cases a2:n.kind=2∧(sgAt x j).kind=10
   .simp only[if_neg a1,if_pos a2]
   .simp only[if_neg a1,if_neg a2]
 have hcr:(zdn x p j n).cr.map zhC=(zdn x q i m).cr.map zhC:=by
  have hlen:(zdn x p j n).cr.length=(zdn x q i m).cr.length:=by
   rw[hu.lens.2.1,hv.lens.2.1,hp.lens.2.1,hq.lens.2.1]
  refine List.ext_getElem? (fun k=>?_)
  rw[gEm,gEm]
  rcases Nat.lt_or_ge k s.cr.length with hk|hk
  rotate_left
  .rw[List.getElem?_eq_none (by rw[hu.lens.2.1,hp.lens.2.1];exact hk),List.getElem?_eq_none (by rw[hv.lens.2.1,hq.lens.2.1];exact hk)]
  have hc:=gEg hk
  generalize s.cr[k]=c at hc
  obtain⟨y,hy⟩:∃y,x.pipes.l[k]?=some y:=⟨_,gEg (by rw[←hs.lc];exact hk)⟩
  have c1:=hp.cr hx hs hy hc
  have c2:=hu.cr hx hpv hy c1
  have d1:=hq.cr hx hs hy hc
  have d2:=hv.cr hx hqv hy d1
  rw[c2,d2]
  simp only[oMs,oSi]
  have hcv:=hs.cr k c y hc hy
  have pm:m.kind=2∧m.pipe=k→y.dst=i∧∃a r,c.items=a::r:=by
   rintro⟨b1,b2⟩
   obtain⟨k0,y0,a,r,c0,q1,q2,q3,q4,q5,q6,q7,q8,q9,q10⟩:=hp.act.pipe b1
   have:k0=k:=by omega
   subst this
   rw[q2]at hy;rw[q5]at hc
   rw[←Option.some.inj hy,←Option.some.inj hc]
   exact⟨q3,a,r,q6⟩
  have pn:n.kind=2∧n.pipe=k→y.dst=j∧∃a r,c.items=a::r:=by
   rintro⟨b1,b2⟩
   obtain⟨k0,y0,a,r,c0,q1,q2,q3,q4,q5,q6,q7,q8,q9,q10⟩:=hq.act.pipe b1
   have:k0=k:=by omega
   subst this
   rw[q2]at hy;rw[q5]at hc
   rw[←Option.some.inj hy,←Option.some.inj hc]
   exact⟨q3,a,r,q6⟩
  have upd_items:∀{e:Bool} {o:List Int} {c:CC},CrV c→c.closed=false→c.sent+o.length≤c.granted→(∀n∈o,isIt n=true)→updC e o c={c with items:=c.items++o,sent:=c.sent+o.length,closed:=e}:=fun a b d e=>(zgs a b d e).1
  unfold cr1
  by_cases si:y.src=i
  .have sj:¬y.src=j:=by omega
   rw[if_neg sj,if_pos si,if_pos si,if_neg sj]
   obtain⟨r1,r2,r3⟩:=hp.room hx hs hy hc si
   by_cases tn:n.kind=2∧n.pipe=k
   .rw[if_pos tn,if_pos tn]
    obtain⟨_,a,r,hit⟩:=pn tn
    rw[upd_items hcv.v r1 r2 r3]
    have hqc:=hqv.cr k _ y d1 hy
    have e1:cr1 x s j n k y c=zbM c:=by unfold cr1;rw[if_neg sj,if_pos tn]
    rw[e1]at hqc
    rw[upd_items (c:=zbM c) hqc.v (by unfold zbM;exact r1) (by unfold zbM;simp only[r1,bFt,if_false];omega) r3]
    exact zhB r1 hit
   .rw[if_neg tn,if_neg tn]
  .rw[if_neg si]
   by_cases sj:y.src=j
   .rw[if_pos sj,if_neg si,if_pos sj]
    obtain⟨r1,r2,r3⟩:=hq.room hx hs hy hc sj
    by_cases tm:m.kind=2∧m.pipe=k
    .rw[if_pos tm,if_pos tm]
     obtain⟨_,a,r,hit⟩:=pm tm
     rw[upd_items hcv.v r1 r2 r3]
     have hpc:=hpv.cr k _ y c1 hy
     have e1:cr1 x s i m k y c=zbM c:=by unfold cr1;rw[if_neg si,if_pos tm]
     rw[e1]at hpc
     rw[upd_items (c:=zbM c) hpc.v (by unfold zbM;exact r1) (by unfold zbM;simp only[r1,bFt,if_false];omega) r3]
     exact (zhB r1 hit).symm
    .rw[if_neg tm,if_neg tm]
   .rw[if_neg sj,if_neg si,if_neg sj]
    by_cases tm:m.kind=2∧m.pipe=k
    .have tn:¬(n.kind=2∧n.pipe=k):=fun h=>by have:=(pm tm).1;have:=(pn h).1;omega
     rw[if_pos tm,if_neg tn,if_neg tn,if_pos tm]
    .rw[if_neg tm]
     by_cases tn:n.kind=2∧n.pipe=k
     .rw[if_pos tn,if_neg tm]
     .rw[if_neg tn,if_neg tm]
 unfold zle
 rw[hst,hdr,hout,hcr]
def zdq (S:List Nat) (y:Pi):Bool:=decide (y.src.toNat∈S)&&decide (y.dst.toNat∈S)
def Dis (g:List Int) (S:List Nat) (V:List Int):Prop:=V.Nodup∧∀v∈V,∃i∈S,i<g.length∧g.getD i 0=v
theorem zp6 {g g':List Int} {y:Pi} (h:zeu g y=some g') {i:Nat} (hi:i<g.length):g'.getD i 0=if g.getD i 0=g.getD y.dst.toNat 0 then g.getD y.src.toNat 0 else g.getD i 0:=by
 unfold zeu at h
 simp only at h
 split at h
 .cases h
 .cases h
  simp[gEd,hi]
theorem zp7 {g g':List Int} {y:Pi} (h:zeu g y=some g') {S:List Nat} (hs:y.src.toNat<g.length) (hd:y.dst.toNat<g.length) {V:List Int} (hV:Dis g' S V):∃W,Dis g S W∧V.length+(if zdq S y=true then 1 else 0)≤W.length:=by
 obtain⟨hn,hv⟩:=hV
 obtain⟨hl,hab⟩:=zfn h
 generalize ha:g.getD y.src.toNat 0=a at hab
 generalize hb:g.getD y.dst.toNat 0=b at hab
 have hget:∀i,i<g.length→g'.getD i 0=if g.getD i 0=b then a else g.getD i 0:=fun i hi=>by rw[zp6 h hi,ha,hb]
 have hbV:b∉V:=by
  intro hm
  obtain⟨i,_,hi,e⟩:=hv b hm
  rw[hl]at hi
  rw[hget i hi]at e
  split at e
  .exact hab e
  .rename_i h1;exact h1 e
 have hold:∀v∈V,v≠a→∃i∈S,i<g.length∧g.getD i 0=v:=by
  intro v hm hva
  obtain⟨i,hS,hi,e⟩:=hv v hm
  rw[hl]at hi
  rw[hget i hi]at e
  split at e
  .exact absurd e.symm hva
  .exact⟨i,hS,hi,e⟩
 by_cases hin:zdq S y=true
 .rw[if_pos hin]
  simp only[zdq,bAt,dTe]at hin
  refine⟨b::V,⟨List.nodup_cons.2 ⟨hbV,hn⟩,fun v hm=>?_⟩,by simp⟩
  rcases lMc.1 hm with rfl|hm
  .exact⟨_,hin.2,hd,hb⟩
  .by_cases hva:v=a
   .subst hva;exact⟨_,hin.1,hs,ha⟩
   .exact hold v hm hva
 .rw[if_neg hin]
  by_cases haS:∃i∈S,i<g.length∧g.getD i 0=a
  .refine⟨V,⟨hn,fun v hm=>?_⟩,by simp⟩
   by_cases hva:v=a
   .subst hva;exact haS
   .exact hold v hm hva
  .by_cases haV:a∈V
   .have hbS:∃i∈S,i<g.length∧g.getD i 0=b:=by
     obtain⟨i,hS,hi,e⟩:=hv a haV
     rw[hl]at hi
     rw[hget i hi]at e
     split at e
     .rename_i h1;exact⟨i,hS,hi,h1⟩
     .exact absurd ⟨i,hS,hi,e⟩ haS
    refine⟨b::V.erase a,⟨List.nodup_cons.2 ⟨fun hm=>hbV (List.mem_of_mem_erase hm),hn.erase a⟩,fun v hm=>?_⟩,?_⟩
    .rcases lMc.1 hm with rfl|hm
     .exact hbS
     .have:=(hn.mem_erase_iff).1 hm
      exact hold v this.2 this.1
    .have:=List.length_pos_of_mem haV
     rw[lLc,List.length_erase_of_mem haV];omega
   .refine⟨V,⟨hn,fun v hm=>hold v hm (fun e=>haV (by rw[←e];exact hm))⟩,by simp⟩
theorem zge (S:List Nat):∀(l:List Pi) (g:List Int) (k:Nat),(zbI l g).isNone=false→(∀y∈l,y.src.toNat<g.length∧y.dst.toNat<g.length)→(∀V,Dis g S V→V.length+k≤S.length)→
  (∃i∈S,i<g.length)→k+(l.filter (zdq S)).length+1≤S.length
 | [],g,k,_,_,hV,⟨i,hi,hg⟩=>by
  have:=hV [g.getD i 0] ⟨by simp,fun v hv=>by simp at hv;subst hv;exact⟨i,hi,hg,by simp[gEd]⟩⟩
  simp at this⊢;omega
 |y::r,g,k,h,hr,hV,⟨i,hi,hg⟩=>by
  unfold zbI at h
  cases hj:zeu g y with
  |none=>rw[hj]at h;cases h
  |some g'=>
   rw[hj]at h
   obtain⟨hl,_⟩:=zfn hj
   have hy:=hr y (by simp)
   have ih:=zge S r g' (k+if zdq S y=true then 1 else 0) h (fun z hz=>by rw[hl];exact hr z (by simp[hz])) (fun V hd=>by
    obtain⟨U,h1,h2⟩:=zp7 hj hy.1 hy.2 hd
    have:=hV U h1
    omega) ⟨i,hi,by rw[hl];exact hg⟩
   cases hin:zdq S y with
   |true=>rw[hin]at ih;simp only[if_true]at ih;simp only[List.filter_cons,hin,if_true,lLc];omega
   |false=>rw[hin]at ih;simp only[bFt,if_false]at ih;simp only[List.filter_cons,hin,bFt,if_false];omega
theorem ztv {n i:Nat} (h:i<n):(idsG n).getD i 0=i:=by simp[idsG,gEd,h]
theorem zcx (n:Nat):(idsG n).length=n:=by simp[idsG]
theorem PlV.forest {x:Pl} (h:PlV x) {S:List Nat} (hS:S≠[]) (hb:∀i∈S,i<x.stages.l.length):(x.pipes.l.filter (zdq S)).length+1≤S.length:=by
 obtain⟨i,hi⟩:=List.exists_mem_of_ne_nil S hS
 have:=zge S x.pipes.l (idsG x.stages.l.length) 0 h.tree (fun y hy=>by
  obtain⟨k,hk⟩:=List.getElem?_of_mem hy
  have:=h.rng k y hk
  rw[zcx];omega) (fun V hV=>by
  have:=za7 hV.1 (m:=S.map fun (i:Nat)=>(i:Int)) (fun v hv=>by
   obtain⟨i,h1,h2,h3⟩:=hV.2 v hv
   rw[zcx]at h2
   rw[ztv h2]at h3
   exact List.mem_map.2 ⟨i,h1,h3⟩)
  simpa using this) ⟨i,hi,by rw[zcx];exact hb i hi⟩
 omega
theorem PlV.nodup {x:Pl} (h:PlV x):x.pipes.l.Nodup:=by
 unfold List.Nodup
 rw[List.pairwise_iff_getElem]
 intro i j hi hj hij he
 have:=h.uo i j _ _ (gEg hi) (gEg hj) (by rw[he]) (by rw[he])
 omega
theorem PlV.wait {x:Pl} (h:PlV x) {S:List Nat} (hn:S.Nodup) (hS:S≠[]) (hb:∀i∈S,i<x.stages.l.length) {f:Nat→Pi} (hf:∀i∈S,f i∈x.pipes.l∧zdq S (f i)=true):
  ∃i∈S,∃j∈S,i≠j∧f i=f j:=by
 apply cBc
 intro hno
 have hinj:(S.map f).Nodup:=by
  unfold List.Nodup
  rw[List.pairwise_map]
  refine List.Pairwise.imp_of_mem (fun {i j} hi hj hij e=>?_) hn
  exact hno ⟨i,hi,j,hj,hij,e⟩
 have:=za7 hinj (m:=x.pipes.l.filter (zdq S)) (fun y hy=>by
  obtain⟨i,hi,rfl⟩:=List.mem_map.1 hy
  exact List.mem_filter.2 (hf i hi))
 have:=h.forest hS hb
 simp at *
 omega
abbrev zipA (o r:List (List Int)):List (List Int):=List.zipWith (·++·) o r
section
variable {x:Pl} {σ:Nat→List Int} {s t:FS} {c:Nat→Nat} {i k:Nat} {y:Pi} {b:CC}
end
section
variable {x:Pl} {σ:Nat→List Int} {s t:FS} {c:Nat→Nat} {i k:Nat} {y:Pi} {b:CC} {m:MV}
end
theorem zlp (x:Sg) (t:SS) (i n:Int):∀o∈(zr x t i n).2.1,o.length≤if x.kind=5 then x.size.toNat else 1:=by
 intro o
 by_cases k5:x.kind=5
 .simp[zr,k5]
  rintro rfl
  simp
 .intro ho
  rw[if_neg k5]
  by_cases k1:x.kind=1
  .simp[zr,k1]at ho;subst ho;simp
  by_cases k2:x.kind=2
  .by_cases h:(evX x n 0).2=0<;>simp[zr,k2,h]at ho
   subst ho;simp
  by_cases k3:x.kind=3
  .by_cases h:(evX x n 0).2=0<;>simp[zr,k3,h]at ho
   subst ho;split<;>simp
  by_cases k4:x.kind=4
  .by_cases h:(t.held.length:Int)+1<x.size
   .simp[zr,k4,h]at ho;subst ho;simp
   .by_cases h':(sumB (t.held++[n]) 0).2=0<;>simp[zr,k4,h,h']at ho
    subst ho;simp
  by_cases k6:x.kind=6
  .by_cases h:t.count<x.size<;>simp[zr,k6,h]at ho<;>subst ho<;>simp
  by_cases k7:x.kind=7
  .by_cases h:(evX x n 0).2=0<;>simp[zr,k7,h]at ho
   by_cases h2:(evX x n 0).1=1<;>simp[h2]at ho<;>rcases ho with rfl|rfl<;>simp
  by_cases k8:x.kind=8
  .simp[zr,k8]at ho;subst ho;simp
  by_cases k9:x.kind=9
  .by_cases h:i=0
   .by_cases h2:2≤t.count<;>simp[zr,k9,h,h2]at ho<;>subst ho<;>simp
   .cases hh:t.held with
    |nil=>simp[zr,k9,h,hh]at ho;subst ho;simp
    |cons a r=>
     by_cases h2:(evX x a n).2=0<;>simp[zr,k9,h,hh,h2]at ho
     subst ho;simp
  .simp[zr,k1,k2,k3,k4,k5,k6,k7,k8,k9]at ho
theorem zob (x:Sg) (t:SS) (i:Int):∀o∈(endK x t i).2.1,o.length≤1:=by
 intro o
 unfold endK
 repeat' split
 all_goals (intro ho;simp at ho)
 all_goals first|(subst ho;simp)|(obtain⟨_,rfl⟩:=ho;simp)
section
variable {x:Pl} {σ:Nat→List Int} {s t:FS} {c:Nat→Nat} {i k:Nat} {y:Pi} {b:CC} {m:MV}
end
end Go.Proofs.YtbddckhdbnmamaaGreat
