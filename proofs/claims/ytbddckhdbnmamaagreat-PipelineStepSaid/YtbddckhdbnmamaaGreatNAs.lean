/-
  Buffers and stages, plain (conditions: none). Stages and pipelines, plain (conditions: none). Buffers: what their operations keep (conditions: none). Stages: what items and ends keep (conditions: none). Pipelines: their pipes and ends (conditions: none). A step keeps a state valid (conditions: none). What a step returns is valid (conditions: none). Steps of different stages commute (conditions: none). Pipes form a forest: among some stages there are fewer pipes than stages (conditions: none). A pipeline that runs: what is still to come (conditions: none). A pipeline that runs: a step (conditions: none). A pipeline that runs: until all stages have ended, one can make a step (conditions: none).
-/
import Derived.Test.YtbddckhdbnmamaaGreatAAs
import Derived.Test.YtbddckhdbnmamaaGreatABs
import Derived.Test.YtbddckhdbnmamaaGreatBBs
namespace Go.Proofs.YtbddckhdbnmamaaGreat
open Go Go.RowKit
set_option linter.unusedVariables false
set_option linter.unusedSimpArgs false
set_option maxRecDepth 10000
structure SS where
 held:List Int
 count:Int
 ended:Bool
 deriving DecidableEq
structure CC where
 cap:Int
 granted:Int
 sent:Int
 taken:Int
 items:List Int
 closed:Bool
 deriving DecidableEq
structure FS where
 st:List SS
 cr:List CC
 out:List (List Int)
 drain:Bool
 deriving DecidableEq
def ssZ:SS:=⟨[],0,false⟩
def crZ:CC:=⟨0,0,0,0,[],false⟩
def fsZ:FS:=⟨[],[],[],false⟩
instance:Inhabited SS:=⟨ssZ⟩
instance:Inhabited CC:=⟨crZ⟩
def Ss.pl (s:Ss):SS:=⟨s.held.l,s.count,s.ended⟩
def Cr.pl (c:Cr):CC:=⟨c.cap,c.granted,c.sent,c.taken,c.items.l,c.closed⟩
def Fs.pl (s:Fs):FS:=⟨s.stages.l.map Ss.pl,s.credits.l.map Cr.pl,s.outputs.l.map Sl.l,s.draining⟩
def isIt (n:Int):Bool:=decide (-1099511627776≤n)&&decide (n≤1099511627776)
def crI (c:CC):Int:=
 if c.cap<1∨100<c.cap then 2
 else if c.taken<0∨c.sent<c.taken∨c.granted<c.sent∨1099511627776<c.granted∨c.cap<c.granted - c.taken∨(c.items.length:Int)≠c.sent - c.taken then 1
 else if c.items.all isIt=true then 0 else 1
def reqC (c:CC) (n:Int):CC×Int:=
 if crI c≠0 then (crZ,crI c) else if n<1 then (crZ,2) else if c.closed=true then (crZ,19) else if c.taken+c.cap - c.granted<n then (crZ,18)
 else if 1099511627776<c.granted+n then (crZ,4) else ({c with granted:=c.granted+n},0)
def zbo (c:CC) (n:Int):CC×Int:=
 if crI c≠0 then (crZ,crI c) else if isIt n=false then (crZ,2) else if c.closed=true then (crZ,19) else if c.sent=c.granted then (crZ,18)
 else ({c with items:=c.items++[n],sent:=c.sent+1},0)
def za6 (c:CC):CC×Int×Int:=
 if crI c≠0 then (crZ,0,crI c) else match c.items with
 | []=>if c.closed=true then (crZ,0,19) else (crZ,0,23)
 |a::r=>({c with items:=r,taken:=c.taken+1},a,0)
def za4 (c:CC):CC×Int:=
 if crI c≠0 then (crZ,crI c) else if c.closed=true then (crZ,19) else ({c with closed:=true},0)
def endC (c:CC):Bool:=decide (crI c=0)&&c.closed&&c.items.isEmpty
def zd6 (c:CC):Int:=if crI c≠0∨c.closed=true then 0 else c.granted - c.sent
def zaq (l:List Bnd) (n:List UInt8):Option Bnd:=l.find? fun b=>decide (b.name=n)
def opAr (o:Int):Int:=if o=8∨o=9 then 0 else if o≤13 then 1 else 2
def opRs (o:Int):Int:=if o≤7 then 1 else 2
def zaY (l:List Bnd) (k o:Int) (n:List UInt8) (ts:List Int):Int×Int:=
 if k=1 then (1,0)
 else if k=2 then (match zaq l n with|none=>(0,7)|some b=>(b.type,0))
 else if k=3 then (if ts.getD 0 0≠(if o=2 then 2 else 1) then (0,15) else ((if o=2 then 2 else 1),0))
 else if ts.getD 0 0≠ts.getD 1 0∨(opAr o≠0∧ts.getD 0 0≠opAr o) then (0,15) else (opRs o,0)
mutual
def tyE (l:List Bnd):Ex→Int×Int
 | .mk k o n _ _ _ es=>match tyEs l es with
  | .inl f=>(0,f)
  | .inr ts=>zaY l k o n ts
def tyEs (l:List Bnd):List Ex→Int⊕List Int
 | []=> .inr []
 |x::r=>if (tyE l x).2≠0 then .inl (tyE l x).2 else match tyEs l r with
  | .inl f=> .inl f
  | .inr ts=> .inr ((tyE l x).1::ts)
end
theorem zcA (l:List Bnd) (e:Ex):tyE l e=match tyEs l e.args.l with| .inl f=>(0,f)| .inr ts=>zaY l e.kind e.op e.name ts:=by
 cases e;simp only[tyE,Ex.kind,Ex.op,Ex.name,Ex.args]
def b01 (b:Bool):Int:=if b=true then 1 else 0
def opE (o a b:Int):Int×Int:=
 if o=3 then (a+b,0)
 else if o=4 then (a - b,0)
 else if o=5 then (if 1099511627776<a.natAbs* b.natAbs then (0,14) else (a* b,0))
 else if o=6 then (if b=0 then (0,24) else (a.tdiv b,0))
 else if o=7 then (if b=0 then (0,24) else (a.tmod b,0))
 else if o=8 then (b01 (decide (a=b)),0)
 else if o=9 then (b01 (!decide (a=b)),0)
 else if o=10 then (b01 (decide (a<b)),0)
 else if o=11 then (b01 (decide (a≤b)),0)
 else if o=12 then (b01 (decide (b<a)),0)
 else if o=13 then (b01 (decide (b≤a)),0)
 else if o=14 then (b01 (!decide (a=0)&& !decide (b=0)),0)
 else (b01 (!decide (a=0)|| !decide (b=0)),0)
def fitV (p:Int×Int):Int×Int:=if p.2≠0 then (0,p.2) else if isIt p.1=true then (p.1,0) else (0,14)
def zaO (l:List Bnd) (k o:Int) (n:List UInt8) (v:Int) (vs:List Int):Int×Int:=
 fitV (if k=1 then (v,0)
 else if k=2 then (match zaq l n with|none=>(0,0)|some b=>(b.value,0))
 else if k=3 then (if o=2 then (1 - vs.getD 0 0,0) else (- vs.getD 0 0,0))
 else opE o (vs.getD 0 0) (vs.getD 1 0))
mutual
def vaE (l:List Bnd):Ex→Int×Int
 | .mk k o n v _ _ es=>match vaEs l es with
  | .inl f=>(0,f)
  | .inr vs=>zaO l k o n v vs
def vaEs (l:List Bnd):List Ex→Int⊕List Int
 | []=> .inr []
 |x::r=>if (vaE l x).2≠0 then .inl (vaE l x).2 else match vaEs l r with
  | .inl f=> .inl f
  | .inr vs=> .inr ((vaE l x).1::vs)
end
theorem zdk (l:List Bnd) (e:Ex):vaE l e=match vaEs l e.args.l with| .inl f=>(0,f)| .inr vs=>zaO l e.kind e.op e.name e.value vs:=by
 cases e;simp only[vaE,Ex.kind,Ex.op,Ex.name,Ex.value,Ex.args]
def xN:List UInt8:=[120]
def yN:List UInt8:=[121]
def etyp (k:Int):Int:=if k=2∨k=9 then 1 else if k=3∨k=7 then 2 else 0
def zD (k:Int):Int:=if k=4 then 1 else 0
def zH (k:Int):Int:=if k=4∨k=5 then 100 else if k=6 then 200 else 0
def zd5 (k:Int):List (List UInt8):=if k=9 then [xN,yN] else if k=2∨k=3∨k=7 then [xN] else []
def bnd2 (a b:Int):List Bnd:=[⟨xN,1,a⟩,⟨yN,1,b⟩]
def ckE (k:Int) (e:Ex):Int:=
 if zF e≠0 then zF e
 else if (zch e).all (fun s=>decide (s∈zd5 k))=false then 5
 else if tyE (bnd2 0 0) e=(etyp k,0) then 0 else 15
def sgI (x:Sg):Int:=
 if x.kind<1∨10<x.kind then 8
 else if (zH x.kind=0∧x.size≠0)∨(etyp x.kind=0∧za3 x.expr=false)∨(x.kind≠1∧x.items.l≠[]) then 1
 else if x.size<zD x.kind∨zH x.kind<x.size then 2
 else if 200<x.items.l.length then 4
 else if x.items.l.all isIt=false then 2
 else if etyp x.kind=0 then 0 else ckE x.kind x.expr
def inK (k:Int):Nat:=if k=1 then 0 else if k=8∨k=9 then 2 else 1
def outK (k:Int):Nat:=if k=10 then 0 else if k=7 then 2 else 1
def inN (x:Sg):Nat:=if sgI x≠0 then 0 else inK x.kind
def outN (x:Sg):Nat:=if sgI x≠0 then 0 else outK x.kind
def evX (x:Sg) (a b:Int):Int×Int:=vaE (bnd2 a b) x.expr
def zI (x:Sg):Int:=if x.kind=1 then x.items.l.length else if x.kind=6 then x.size else if x.kind=8 then 1 else if x.kind=9 then 3 else 0
def zT (x:Sg):Int:=if x.kind=8 then 2 else if x.kind=9 then 1 else if x.kind=4 then x.size - 1 else 0
def zap:List Int→Bool
 | []=>true
 | [a]=>decide (a=0)||decide (a=1)
 | [a,b]=>decide (a=0)&&decide (b=1)
 |_=>false
def ssB (x:Sg) (s:SS):Bool:=
 decide (0≤s.count∧s.count≤zI x∧(s.held.length:Int)≤zT x)&&s.held.all isIt&&
 (if x.kind=4 then !s.ended||s.held.isEmpty
 else if x.kind=8 then zap s.held&&(s.ended==decide (s.held.length=2))
 else if x.kind=9 then (s.ended==decide (s.count=3))&&(decide (s.count<2)||s.held.isEmpty)
 else true)
def zaz (x:Sg) (s:SS) (i:Int):Bool:=
 if x.kind=8 then decide (i∈s.held) else if x.kind=9 then decide (s.count=3∨s.count=i+1) else s.ended
def zal (x:Sg) (s:SS):Int:=if sgI x≠0 then sgI x else if ssB x s=true then 0 else 1
def za8 (x:Sg) (s:SS):Int:=
 if x.kind=8 then (if s.count∈s.held then 1 - s.count else s.count)
 else if x.kind=9∧(zaz x s 0=true∨s.held≠[]) then 1 else 0
def zcy (x:Sg) (s:SS):List Int:=if s.ended=true∨x.kind=1 then [] else [za8 x s]
def sumB:List Int→Int→Int×Int
 | [],n=>(n,0)
 |a::r,n=>if isIt (n+a)=true then sumB r (n+a) else (0,14)
def zp (x:Sg) (s:SS) (i n:Int):SS×List (List Int)×Int:=
 if x.kind=1 then ({s with count:=s.count+1},[[x.items.l.getD s.count.toNat 0]],0)
 else if x.kind=2 then (if (evX x n 0).2≠0 then (ssZ,[],(evX x n 0).2) else (s,[[(evX x n 0).1]],0))
 else if x.kind=3 then (if (evX x n 0).2≠0 then (ssZ,[],(evX x n 0).2) else (s,[if (evX x n 0).1=1 then [n] else []],0))
 else if x.kind=4 then
  (if ((s.held.length:Int)+1<x.size) then ({s with held:=s.held++[n]},[[]],0)
  else if (sumB (s.held++[n]) 0).2≠0 then (ssZ,[],(sumB (s.held++[n]) 0).2) else ({s with held:=[]},[[(sumB (s.held++[n]) 0).1]],0))
 else if x.kind=5 then (s,[List.replicate x.size.toNat n],0)
 else if x.kind=6 then (if s.count<x.size then ({s with count:=s.count+1},[[n]],0) else (s,[[]],0))
 else if x.kind=7 then (if (evX x n 0).2≠0 then (ssZ,[],(evX x n 0).2) else (s,if (evX x n 0).1=1 then [[n],[]] else [[],[n]],0))
 else if x.kind=8 then ({s with count:=1 - i},[[n]],0)
 else if x.kind=9 then
  (if i=0 then (if 2≤s.count then (s,[[]],0) else ({s with held:=[n]},[[]],0))
  else match s.held with
   | []=>(s,[[]],0)
   |a::_=>if (evX x a n).2≠0 then (ssZ,[],(evX x a n).2) else ({s with held:=[]},[[(evX x a n).1]],0))
 else (s,[],0)
def zbI (x:Sg) (s:SS) (i n:Int):Int:=
 if zal x s≠0 then zal x s
 else if s.ended=true∨(x.kind=1∧(i≠ -1∨s.count=x.items.l.length))∨(x.kind≠1∧za8 x s≠i) then 17
 else if isIt n=false∨(x.kind=1∧n≠0) then 2 else 0
def zbs (x:Sg) (s:SS) (i n:Int):SS×List (List Int)×Int:=
 if zbI x s i n≠0 then (ssZ,[],zbI x s i n) else zp x s i n
def endE (x:Sg) (s:SS) (i:Int):Int:=
 if zal x s≠0 then zal x s
 else if (x.kind=1∧i≠ -1)∨(x.kind≠1∧(i<0∨(inK x.kind:Int)≤i)) then 2
 else if s.ended=true∨(x.kind≠1∧zaz x s i=true) then 17 else 0
def endK (x:Sg) (s:SS) (i:Int):SS×List (List Int)×Int:=
 if x.kind=4 then
  (if s.held=[] then ({s with ended:=true},[[]],0)
  else if (sumB s.held 0).2≠0 then (ssZ,[],(sumB s.held 0).2) else (⟨[],s.count,true⟩,[[(sumB s.held 0).1]],0))
 else if x.kind=8 then (if s.held=[] then ({s with held:=[i]},[[]],0) else (⟨[0,1],s.count,true⟩,[[]],0))
 else if x.kind=9 then (⟨if i=1 then [] else s.held,s.count+i+1,decide (s.count+i+1=3)⟩,[[]],0)
 else ({s with ended:=true},List.replicate (outK x.kind) [],0)
def endS (x:Sg) (s:SS) (i:Int):SS×List (List Int)×Int:=
 if endE x s i≠0 then (ssZ,[],endE x s i) else endK x s i
def pidx (p:Pi→Bool):List Pi→Nat→Int
 | [],_=> -1
 |a::r,k=>if p a=true then k else pidx p r (k+1)
def pOut (x:Pl) (i n:Int):Int:=pidx (fun y=>decide (y.src=i)&&decide (y.output=n)) x.pipes.l 0
def pIn (x:Pl) (i n:Int):Int:=pidx (fun y=>decide (y.dst=i)&&decide (y.input=n)) x.pipes.l 0
def sgAt (x:Pl) (i:Int):Sg:=x.stages.l.getD i.toNat default
def piI (x:Pl) (k:Nat) (y:Pi):Int:=
 if y.src<0∨(x.stages.l.length:Int)≤y.src∨y.dst<0∨(x.stages.l.length:Int)≤y.dst∨y.capacity<1∨100<y.capacity then 2
 else if y.output<0∨(outN (sgAt x y.src):Int)≤y.output∨y.input<0∨(inN (sgAt x y.dst):Int)≤y.input then 2
 else if pOut x y.src y.output<k∨pIn x y.dst y.input<k then 6
 else if (sgAt x y.src).kind=5∧y.capacity<(sgAt x y.src).size then 2 else 0
def za9 {α:Type} (f:α→Int):List α→Int
 | []=>0
 |a::r=>if f a≠0 then f a else za9 f r
def pisI (x:Pl):List Pi→Nat→Int
 | [],_=>0
 |y::r,k=>if piI x k y≠0 then piI x k y else pisI x r (k+1)
def ends (l:List Sg):Nat:=(l.map fun s=>inN s+outN s).sum
def zfz (g:List Int) (y:Pi):Option (List Int):=
 let a:=g.getD y.src.toNat 0
 let b:=g.getD y.dst.toNat 0
 if a=b then none else some (g.map fun c=>if c=b then a else c)
def zct:List Pi→List Int→Option (List Int)
 | [],g=>some g
 |y::r,g=>match zfz g y with|none=>none|some g'=>zct r g'
def idsG (n:Nat):List Int:=(List.range n).map fun (i:Nat)=>(i:Int)
def cyc (x:Pl):Bool:=(zct x.pipes.l (idsG x.stages.l.length)).isNone
def plI (x:Pl):Int:=
 if x.stages.l.length=0∨16<x.stages.l.length then 4
 else if za9 sgI x.stages.l≠0 then za9 sgI x.stages.l
 else if 32<x.pipes.l.length then 4
 else if pisI x x.pipes.l 0≠0 then pisI x x.pipes.l 0
 else if ends x.stages.l≠2* x.pipes.l.length then 10
 else if cyc x=true then 21 else 0
def zV (l:List Sg):Nat:=(l.filter fun s=>decide (s.kind=10)).length
def zah (x:Sg) (s:SS) (i:Int):Bool:=
 if x.kind=8 then decide (i∈s.held)
 else if x.kind=9 then (if i=0 then decide (s.count=1∨s.count=3) else decide (2≤s.count))
 else s.ended
def stAt (s:FS) (i:Int):SS:=s.st.getD i.toNat ssZ
def crAt (s:FS) (i:Int):CC:=s.cr.getD i.toNat crZ
def crOk (x:Pl) (s:FS) (c:CC) (y:Pi):Bool:=
 decide (crI c=0)&&decide (c.cap=y.capacity)&&(c.closed==(stAt s y.src).ended)&&(c.closed||decide (c.granted=c.taken+c.cap))&&
 (!zah (sgAt x y.dst) (stAt s y.dst) y.input||endC c)
def fsB (x:Pl) (s:FS):Bool:=
 decide (s.st.length=x.stages.l.length)&&decide (s.cr.length=x.pipes.l.length)&&decide (s.out.length=zV x.stages.l)&&
 s.out.all (fun l=>decide (l.length≤200)&&l.all isIt)&&all2 (fun g t=>decide (zal g t=0)) x.stages.l s.st&&all2 (crOk x s) s.cr x.pipes.l
def vaI (x:Pl) (s:FS):Int:=if plI x=0∧fsB x s=true then 0 else 1
structure MV where
 kind:Int
 st:SS
 out:List (List Int)
 pipe:Int
 item:Int
 e:Int
def mvZ:MV:=⟨0,ssZ,[],0,0,0⟩
def zaQ (x:Pl) (s:FS) (i:Int):MV:=
 let y:=sgAt x i
 let t:=stAt s i
 if t.ended=true then mvZ
 else if y.kind=1 then
  (if s.drain=false∧t.count<y.items.l.length then (let r:=zbs y t (-1) 0;⟨1,r.1,r.2.1, -1,0,r.2.2⟩)
  else (let r:=endS y t (-1);⟨3,r.1,r.2.1, -1,0,r.2.2⟩))
 else (let n:=za8 y t;let k:=pIn x i n;let c:=crAt s k
  match c.items with
  |a::_=>(let r:=zbs y t n a;⟨2,r.1,r.2.1,k,a,r.2.2⟩)
  | []=>if endC c=true then (let r:=endS y t n;⟨3,r.1,r.2.1, -1,0,r.2.2⟩) else mvZ)
def fitO (x:Pl) (s:FS) (i:Int):List (List Int)→Nat→Bool
 | [],_=>true
 |l::r,n=>decide ((l.length:Int)≤zd6 (crAt s (pOut x i n)))&&fitO x s i r (n+1)
def enB (x:Pl) (s:FS) (i:Int):Bool:=
 !decide ((zaQ x s i).kind=0)&&(!decide ((zaQ x s i).e=0)||fitO x s i (zaQ x s i).out 0)
def enL (x:Pl) (s:FS):List Int:=(idsG x.stages.l.length).filter (enB x s)
def zai (c:CC):CC×Int:=if (za6 c).1.closed=true then ((za6 c).1,0) else reqC (za6 c).1 1
def putC:List Int→CC→CC
 | [],c=>c
 |n::r,c=>putC r (zbo c n).1
def zbT (x:Pl) (i:Int) (e:Bool):List (List Int)→Nat→List CC→List CC
 | [],_,l=>l
 |o::r,n,l=>
  let k:=(pOut x i n).toNat
  let c:=putC o (l.getD k crZ)
  zbT x i e r (n+1) (l.set k (if e=true then (za4 c).1 else c))
def zdz (x:Pl) (s:FS) (i:Int):FS×Int:=
 if vaI x s≠0 then (fsZ,vaI x s)
 else if i<0∨(x.stages.l.length:Int)≤i then (fsZ,2)
 else if enB x s i=false then (fsZ,25)
 else
  let m:=zaQ x s i
  let k:=zV (x.stages.l.take i.toNat)
  if m.e≠0 then (fsZ,m.e)
  else if m.kind=2∧(sgAt x i).kind=10∧(s.out.getD k []).length=200 then (fsZ,4)
  else
   let out:=if m.kind=2∧(sgAt x i).kind=10 then s.out.set k (s.out.getD k []++[m.item]) else s.out
   let c:=zai (crAt s m.pipe)
   if m.kind=2∧c.2≠0 then (fsZ,c.2)
   else (⟨s.st.set i.toNat m.st,zbT x i m.st.ended m.out 0 (if m.kind=2 then s.cr.set m.pipe.toNat c.1 else s.cr),out,s.drain⟩,0)
theorem zo (n:Int):isIt n=true↔ -1099511627776≤n∧n≤1099511627776:=by simp[isIt]
structure CrV (c:CC):Prop where
 c1:1≤c.cap
 c2:c.cap≤100
 t0:0≤c.taken
 ts:c.taken≤c.sent
 sg:c.sent≤c.granted
 gm:c.granted≤1099511627776
 gc:c.granted - c.taken≤c.cap
 len:(c.items.length:Int)=c.sent - c.taken
 all:∀n∈c.items,isIt n=true
theorem zbb (c:CC):crI c=0↔CrV c:=by
 unfold crI
 constructor
 .intro h
  split at h
  .cases h
  .rename_i h1
   split at h
   .cases h
   .rename_i h2
    split at h
    .rename_i h3
     exact⟨by omega,by omega,by omega,by omega,by omega,by omega,by omega,by omega,by simpa using h3⟩
    .cases h
 .intro h
  obtain⟨a,b,c,d,e,f,g,i,j⟩:=h
  rw[if_neg (by omega),if_neg (by omega),if_pos (by simpa using j)]
theorem zhx {c:CC} (h:CrV c):endC c=true↔c.closed=true∧c.items=[]:=by
 unfold endC
 simp[(zbb c).2 h]
def zx7 (c:CC):CC:=⟨c.cap,if c.closed=true then c.granted else c.granted+1,c.sent,c.taken+1,c.items.tail,c.closed⟩
theorem zb2 {x:Sg} (h:sgI x=0):1≤x.kind∧x.kind≤10:=by
 unfold sgI at h
 split at h
 .cases h
 .omega
theorem zaZ {x:Sg} (h:sgI x=0):zD x.kind≤x.size∧(x.size≤zH x.kind):=by
 unfold sgI at h
 split at h
 .cases h
 .split at h
  .cases h
  .split at h
   .cases h
   .omega
theorem zgO {x:Sg} (h:sgI x=0):x.items.l.length≤200∧∀n∈x.items.l,isIt n=true:=by
 unfold sgI at h
 split at h
 .cases h
 .split at h
  .cases h
  .split at h
   .cases h
   .split at h
    .cases h
    .split at h
     .cases h
     .rename_i h5
      exact⟨by omega,by simpa using h5⟩
theorem zw {x:Sg} {s:SS}:zal x s=0↔sgI x=0∧ssB x s=true:=by
 unfold zal
 by_cases h1:sgI x=0
 .simp[h1]
 .simp[h1]
theorem ztr {p:Int×Int} (h:(fitV p).2=0):isIt (fitV p).1=true:=by
 unfold fitV at *
 split at h
 .rename_i h1;exact absurd h h1
 .rename_i h1
  split at h
  .rename_i h2;rw[if_neg h1,if_pos h2];exact h2
  .cases h
theorem zxq {x:Sg} {a b:Int} (h:(evX x a b).2=0):isIt (evX x a b).1=true:=by
 unfold evX at *
 rw[zdk]at *
 split at h
 .simp only at h;subst h;rfl
 .unfold zaO at *
  exact ztr h
theorem zm0:∀(l:List Int) (n:Int),isIt n=true→(sumB l n).2=0→isIt (sumB l n).1=true
 | [],n,h,_=>h
 |a::r,n,h,h0=>by
  unfold sumB at *
  split at h0
  .rename_i h1;rw[if_pos h1];exact zm0 r _ h1 h0
  .cases h0
structure MvOk (x:Sg) (t:SS) (o:List (List Int)):Prop where
 ok:zal x t=0
 len:o.length=outK x.kind
 all:∀l∈o,∀n∈l,isIt n=true
theorem zK {x:Sg} {s:SS} (h:ssB x s=true):0≤s.count∧s.count≤zI x∧(s.held.length:Int)≤zT x∧∀n∈s.held,isIt n=true:=by
 simp only[ssB,bAt,dTe,lAt]at h
 exact⟨h.1.1.1,h.1.1.2.1,h.1.1.2.2,h.1.2⟩
theorem zcd (k:Int):outK k≤2:=by unfold outK;split;omega;split<;>omega
theorem zg1 {x:Sg} {s:SS} {i n:Int} (h0:zbI x s i n=0) (h1:(zp x s i n).2.2=0):
  MvOk x (zp x s i n).1 (zp x s i n).2.1∧(zp x s i n).1.ended=false∧∀j,zah x (zp x s i n).1 j=zah x s j:=by
 unfold zbI at h0
 split at h0
 .rename_i h;exact absurd h0 h
 rename_i hne
 split at h0
 .cases h0
 rename_i hst
 split at h0
 .cases h0
 rename_i hn
 have hne0:zal x s=0:=by omega
 obtain⟨hg,hs⟩:=zw.1 hne0
 obtain⟨hk1,hk2⟩:=zb2 hg
 have hsz:=zaZ hg
 have hit:=zgO hg
 have hnn:isIt n=true:=by
  cases h:isIt n with
  |true=>rfl
  |false=>exact absurd (.inl h) hn
 have he:s.ended=false:=by
  cases h:s.ended with
  |false=>rfl
  |true=>exact absurd (.inl h) hst
 obtain⟨f1,f2,f3,f4⟩:=zK hs
 by_cases k1:x.kind=1
 .have hc:s.count≠x.items.l.length:=fun e=>hst (.inr (.inl ⟨k1,.inr e⟩))
  have hm:zI x=x.items.l.length:=by simp[zI,k1]
  have hlt:s.count.toNat<x.items.l.length:=by omega
  simp only[zp,k1,if_true]
  refine⟨⟨zw.2 ⟨hg,?_⟩,by simp[outK,k1],?_⟩,he,fun j=>by simp[zah,k1]⟩
  .simp only[ssB,k1]at hs⊢
   simp only[hm,zT,k1]at hs⊢
   simp at hs⊢
   refine⟨⟨by omega,by omega,hs.1.2.2⟩,hs.2⟩
  .intro l hl m hm
   simp only[List.mem_singleton]at hl
   subst hl
   simp only[List.mem_singleton]at hm
   subst hm
   refine hit.2 _ ?_
   rw[gEd,gEg hlt]
   exact List.getElem_mem hlt
 by_cases k2:x.kind=2
 .simp only[zp,k2]at h1⊢
  simp at h1⊢
  by_cases hv:(evX x n 0).2=0
  .simp only[hv,if_true]at h1⊢
   refine⟨⟨hne0,by simp[outK,k2],by simpa using zxq hv⟩,he,fun j=>trivial⟩
  .rw[if_neg hv]at h1;exact absurd h1 hv
 by_cases k3:x.kind=3
 .simp only[zp,k3]at h1⊢
  simp at h1⊢
  by_cases hv:(evX x n 0).2=0
  .simp only[hv,if_true]at h1⊢
   refine⟨⟨hne0,by simp[outK,k3],?_⟩,he,fun j=>trivial⟩
   intro l hl m hm
   simp only[List.mem_singleton]at hl
   subst hl
   split at hm
   .simp at hm;subst hm;exact hnn
   .cases hm
  .rw[if_neg hv]at h1;exact absurd h1 hv
 by_cases k4:x.kind=4
 .have hmH:zT x=x.size - 1:=by simp[zT,k4]
  have hmC:zI x=0:=by simp[zI,k4]
  simp only[zp,k4]at h1⊢
  simp at h1⊢
  by_cases hv:(s.held.length:Int)+1<x.size
  .simp only[hv,if_true]at h1⊢
   refine⟨⟨zw.2 ⟨hg,?_⟩,by simp[outK,k4],by simp⟩,he,fun j=>by simp[zah,k4]⟩
   simp only[ssB,k4,hmH,hmC]at hs⊢
   simp[he]at hs⊢
   exact⟨⟨f1,by omega,by omega⟩,f4,hnn⟩
  .simp only[hv,if_false]at h1⊢
   by_cases hw:(sumB (s.held++[n]) 0).2=0
   .simp only[hw,if_true]at h1⊢
    refine⟨⟨zw.2 ⟨hg,?_⟩,by simp[outK,k4],?_⟩,he,fun j=>by simp[zah,k4]⟩
    .simp only[ssB,k4,hmH,hmC]at hs⊢
     simp[he]at hs⊢
     have:zD x.kind=1:=by simp[zD,k4]
     omega
    .simpa using zm0 _ _ (by rfl) hw
   .rw[if_neg hw]at h1;exact absurd h1 hw
 by_cases k5:x.kind=5
 .simp only[zp,k5]at h1⊢
  simp at h1⊢
  refine⟨⟨hne0,by simp[outK,k5],?_⟩,he⟩
  intro l hl m hm
  simp only[List.mem_singleton]at hl
  subst hl
  have:=(List.mem_replicate.1 hm).2
  subst this
  exact hnn
 by_cases k6:x.kind=6
 .have hmC:zI x=x.size:=by simp[zI,k6]
  have hmH:zT x=0:=by simp[zT,k6]
  simp only[zp,k6]at h1⊢
  simp at h1⊢
  by_cases hv:s.count<x.size
  .simp only[hv,if_true]at h1⊢
   refine⟨⟨zw.2 ⟨hg,?_⟩,by simp[outK,k6],by simpa using hnn⟩,he,fun j=>by simp[zah,k6]⟩
   simp only[ssB,k6,hmC,hmH]at hs⊢
   simp at hs⊢
   exact⟨⟨by omega,by omega,hs.1.2.2⟩,hs.2⟩
  .simp only[hv,if_false]at h1⊢
   exact⟨⟨hne0,by simp[outK,k6],by simp⟩,he,fun j=>trivial⟩
 by_cases k7:x.kind=7
 .simp only[zp,k7]at h1⊢
  simp at h1⊢
  by_cases hv:(evX x n 0).2=0
  .simp only[hv,if_true]at h1⊢
   refine⟨⟨hne0,by simp[outK,k7];split<;>rfl,?_⟩,he,fun j=>trivial⟩
   intro l hl m hm
   split at hl<;>simp only[lMc,List.not_mem_nil,or_false]at hl<;>rcases hl with rfl|rfl<;>simp at hm<;>(subst hm;exact hnn)
  .rw[if_neg hv]at h1;exact absurd h1 hv
 by_cases k8:x.kind=8
 .have hi:za8 x s=i:=by
   by_cases h:za8 x s=i
   .exact h
   .exact absurd (.inr (.inr ⟨k1,h⟩)) hst
  have hmC:zI x=1:=by simp[zI,k8]
  have hmH:zT x=2:=by simp[zT,k8]
  have hi2:i=0∨i=1:=by
   unfold za8 at hi
   rw[if_pos k8]at hi
   split at hi<;>omega
  simp only[zp,k8]at h1⊢
  simp at h1⊢
  refine⟨⟨zw.2 ⟨hg,?_⟩,by simp[outK,k8],by simpa using hnn⟩,he,fun j=>by simp[zah,k8]⟩
  simp only[ssB,k8,hmC,hmH]at hs⊢
  simp at hs⊢
  exact⟨⟨⟨by omega,by omega,hs.1.1.2.2⟩,hs.1.2⟩,hs.2⟩
 by_cases k9:x.kind=9
 .have hmC:zI x=3:=by simp[zI,k9]
  have hmH:zT x=1:=by simp[zT,k9]
  simp only[zp,k9]at h1⊢
  simp at h1⊢
  by_cases hi:i=0
  .simp only[hi,if_true]at h1⊢
   by_cases hc:2≤s.count
   .simp only[hc,if_true]at h1⊢
    exact⟨⟨hne0,by simp[outK,k9],by simp⟩,he,fun j=>trivial⟩
   .simp only[hc,if_false]at h1⊢
    refine⟨⟨zw.2 ⟨hg,?_⟩,by simp[outK,k9],by simp⟩,he,fun j=>by simp[zah,k9]⟩
    simp only[ssB,k9,hmC,hmH]at hs⊢
    simp[he]at hs⊢
    exact⟨⟨⟨f1,by omega⟩,hnn⟩,by omega,by omega⟩
  .simp only[hi,if_false]at h1⊢
   cases hh:s.held with
   |nil=>
    simp only
    exact⟨⟨hne0,by simp[outK,k9],by simp⟩,he,fun j=>trivial⟩
   |cons a r=>
    simp only[hh]at h1⊢
    by_cases hv:(evX x a n).2=0
    .simp only[hv,if_true]at h1⊢
     refine⟨⟨zw.2 ⟨hg,?_⟩,by simp[outK,k9],by simpa using zxq hv⟩,he,fun j=>by simp[zah,k9]⟩
     simp only[ssB,k9,hmC,hmH]at hs⊢
     simp[he]at hs⊢
     exact⟨⟨f1,by omega⟩,hs.2.1⟩
    .rw[if_neg hv]at h1;exact absurd h1 hv
 .have k10:x.kind=10:=by omega
  simp only[zp,k10]at h1⊢
  simp at h1⊢
  exact⟨⟨hne0,by simp[outK,k10],by simp⟩,he⟩
theorem zoZ {x:Sg} {s:SS} {i:Int} (h0:endE x s i=0) (h1:(endK x s i).2.2=0):
  MvOk x (endK x s i).1 (endK x s i).2.1∧∀j:Nat,j<inK x.kind→zah x (endK x s i).1 j=(zah x s j||decide ((j:Int)=i)):=by
 unfold endE at h0
 split at h0
 .rename_i h;exact absurd h0 h
 rename_i hne
 split at h0
 .cases h0
 rename_i hst
 split at h0
 .cases h0
 rename_i hn
 have hne0:zal x s=0:=by omega
 obtain⟨hg,hs⟩:=zw.1 hne0
 obtain⟨hk1,hk2⟩:=zb2 hg
 have hsz:=zaZ hg
 have he:s.ended=false:=by
  cases h:s.ended with
  |false=>rfl
  |true=>exact absurd (.inl h) hn
 obtain⟨f1,f2,f3,f4⟩:=zK hs
 by_cases k4:x.kind=4
 .have hmH:zT x=x.size - 1:=by simp[zT,k4]
  have hmC:zI x=0:=by simp[zI,k4]
  have hsg:zD x.kind=1:=by simp[zD,k4]
  have hi:i=0:=by simp[inK,k4]at hst;omega
  have hin:inK x.kind=1:=by simp[inK,k4]
  simp only[endK,k4]at h1⊢
  simp at h1⊢
  by_cases hv:s.held=[]
  .simp only[hv,if_true]at h1⊢
   refine⟨⟨zw.2 ⟨hg,?_⟩,by simp[outK,k4],by simp⟩,fun j hj2=>?_⟩
   .simp only[ssB,k4,hmH,hmC]at hs⊢
    simp[hv]at hs⊢
    omega
   .simp[zah,k4,he,hi];simp[inK]at hj2;omega
  .simp only[hv,if_false]at h1⊢
   by_cases hw:(sumB s.held 0).2=0
   .simp only[hw,if_true]at h1⊢
    refine⟨⟨zw.2 ⟨hg,?_⟩,by simp[outK,k4],?_⟩,fun j hj2=>?_⟩
    .simp only[ssB,k4,hmH,hmC]at hs⊢
     simp at hs⊢
     omega
    .simpa using zm0 _ _ (by rfl) hw
    .simp[zah,k4,he,hi];simp[inK]at hj2;omega
   .rw[if_neg hw]at h1;exact absurd h1 hw
 by_cases k8:x.kind=8
 .have hmC:zI x=1:=by simp[zI,k8]
  have hmH:zT x=2:=by simp[zT,k8]
  have hi:¬(i∈s.held):=by
   intro h
   exact hn (.inr ⟨by omega,by simp[zaz,k8,h]⟩)
  have hi2:i=0∨i=1:=by simp[inK,k8]at hst;omega
  simp only[ssB,k8,hmC,hmH]at hs
  simp[he]at hs
  simp only[endK,k8]at h1⊢
  simp at h1⊢
  by_cases hv:s.held=[]
  .simp only[hv,if_true]at h1⊢
   refine⟨⟨zw.2 ⟨hg,?_⟩,by simp[outK,k8],by simp⟩,fun j hj2=>?_⟩
   .simp only[ssB,k8,hmC,hmH]
    simp[he,zap]
    exact⟨⟨by omega,by rcases hi2 with rfl|rfl<;>rfl⟩,hi2⟩
   .simp[zah,k8,hv]
  .simp only[hv,if_false]at h1⊢
   refine⟨⟨zw.2 ⟨hg,?_⟩,by simp[outK,k8],by simp⟩,fun j hj2=>?_⟩
   .simp only[ssB,k8,hmC,hmH]
    simp[zap]
    exact⟨by omega,rfl,rfl⟩
   .match hq:s.held,hv with
    | [a],_=>
     rw[hq]at hs hi
     simp[zap]at hs hi
     simp[zah,k8,hq]
     simp[inK]at hj2
     have hs2:=hs.2
     have hj3:j=0∨j=1:=by omega
     rcases hs2 with rfl|rfl<;>rcases hi2 with rfl|rfl<;>rcases hj3 with rfl|rfl<;>simp at *
    |a::b::r,_=>
     rw[hq]at hs
     simp at hs
     exfalso
     have h2:=hs.1.1.2.2
     exact hs.2.2 (List.length_eq_zero_iff.1 (by omega))
 by_cases k9:x.kind=9
 .have hmC:zI x=3:=by simp[zI,k9]
  have hmH:zT x=1:=by simp[zT,k9]
  have hi2:i=0∨i=1:=by simp[inK,k9]at hst;omega
  have hi:¬(s.count=3∨s.count=i+1):=by
   intro h
   exact hn (.inr ⟨by omega,by simp[zaz,k9,h]⟩)
  simp only[ssB,k9,hmC,hmH]at hs
  simp[he]at hs
  simp only[endK,k9]at h1⊢
  simp at h1⊢
  refine⟨⟨zw.2 ⟨hg,?_⟩,by simp[outK,k9],by simp⟩,fun j hj2=>?_⟩
  .simp only[ssB,k9,hmC,hmH]
   by_cases hi1:i=1
   .simp[hi1];omega
   .have hi0:i=0:=by omega
    simp[hi0]
    refine⟨⟨⟨by omega,by omega,by omega⟩,hs.1.2⟩,?_⟩
    have h2:=hs.2.2
    rcases h2 with h2|h2
    .by_cases hc:s.count=1
     .omega
     .left;omega
    .right;exact h2
  .simp[inK,k9]at hj2
   simp only[zah,k9]
   have hj3:j=0∨j=1:=by omega
   rcases hj3 with rfl|rfl<;>rcases hi2 with rfl|rfl<;>(rw[Bool.eq_iff_iff];simp)<;>omega
 .have hi:inK x.kind=1→i=0:=by
   intro h
   have:x.kind≠1:=by intro e;rw[e]at h;simp[inK]at h
   rw[h]at hst
   omega
  have hin:inK x.kind=0∨inK x.kind=1:=by unfold inK;split;simp;split;omega;simp
  have hb:∀(y:SS),y.ended=true→y.count=s.count→y.held=s.held→ssB x y=true:=by
   intro y h1 h2 h3
   simp only[ssB]at hs⊢
   simp only[if_neg k4,if_neg k8,if_neg k9]at hs⊢
   rw[h2,h3];exact hs
  have hq:endK x s i=({s with ended:=true},List.replicate (outK x.kind) [],0):=by simp only[endK,if_neg k4,if_neg k8,if_neg k9]
  rw[hq]
  refine⟨⟨zw.2 ⟨hg,hb _ rfl rfl rfl⟩,by simp,?_⟩,fun j hj2=>?_⟩
  .intro l hl n hn'
   have:=(List.mem_replicate.1 hl).2
   subst this
   cases hn'
  .simp only[zah,if_neg k8,if_neg k9,he]
   rcases hin with h|h
   .rw[h]at hj2;omega
   .rw[h]at hj2;rw[hi h];simp;omega
theorem zbl {α:Type} [DecidableEq α]:∀{l m:List α},l.Nodup→(∀a∈l,a∈m)→l.length≤m.length
 | [],m,_,_=>by simp
 |a::r,m,h,hs=>by
  have h1:a∈m:=hs a (by simp)
  have h2:=List.nodup_cons.1 h
  have h3:=zbl (l:=r) (m:=m.erase a) h2.2 (fun b hb=>(List.mem_erase_of_ne (by rintro rfl;exact h2.1 hb)).2 (hs b (by simp[hb])))
  rw[List.length_erase_of_mem h1]at h3
  have:0<m.length:=List.length_pos_of_mem h1
  simp only[lLc]
  omega
theorem zic {α:Type} [DecidableEq α] {l m:List α} (h:l.Nodup) (hs:∀a∈l,a∈m) (hl:m.length≤l.length):∀a∈m,a∈l:=by
 intro a ha
 apply cBc
 intro hn
 have h1:=zbl (l:=a::l) (m:=m) (List.nodup_cons.2 ⟨hn,h⟩) (fun b hb=>by rcases lMc.1 hb with rfl|hb;exact ha;exact hs b hb)
 simp only[lLc]at h1
 omega
def ziT (f:Nat→Nat) (n:Nat):List (Nat×Nat):=(List.range n).flatMap fun i=>(List.range (f i)).map fun k=>(i,k)
theorem zb7 {f:Nat→Nat} {n:Nat} {p:Nat×Nat}:p∈ziT f n↔p.1<n∧p.2<f p.1:=by
 obtain⟨a,b⟩:=p
 simp only[ziT,List.mem_flatMap,List.mem_range,List.mem_map,pMi]
 constructor
 .rintro⟨i,h1,k,h2,rfl,rfl⟩;exact⟨h1,h2⟩
 .rintro⟨h1,h2⟩;exact⟨a,h1,b,h2,rfl,rfl⟩
theorem zdG (f:Nat→Nat) (n:Nat):(ziT f n).length=((List.range n).map f).sum:=by
 simp[ziT,List.length_flatMap]
theorem zfx (f:Nat→Nat) (n:Nat):(ziT f n).Nodup:=by
 unfold ziT List.Nodup
 rw[List.pairwise_flatMap]
 refine⟨fun i _=>?_,?_⟩
 .rw[List.pairwise_map]
  exact List.Pairwise.imp (fun h e=>h (Prod.mk.inj e).2) List.nodup_range
 .refine List.Pairwise.imp (fun h x hx y hy e=>?_) (List.nodup_range (n:=n))
  obtain⟨a,_,rfl⟩:=List.mem_map.1 hx
  obtain⟨b,_,rfl⟩:=List.mem_map.1 hy
  exact h (Prod.mk.inj e).1
theorem zig {α β:Type} (l:List α) (d:α) (g:α→β):(List.range l.length).map (fun i=>g (l.getD i d))=l.map g:=by
 refine List.ext_getElem (by simp) (fun i h1 h2=>?_)
 simp at h1
 simp[gEd,h1]
theorem zmZ {α:Type} (f g:α→Nat):∀l:List α,(l.map fun s=>f s+g s).sum=(l.map f).sum+(l.map g).sum
 | []=>rfl
 |a::r=>by simp only[List.map_cons,List.sum_cons,zmZ f g r];omega
theorem zfr (p:Pi→Bool):∀(l:List Pi) (k j:Nat) (y:Pi),l[j]?=some y→p y=true→(∀i z,i<j→l[i]?=some z→p z=false)→pidx p l k=(k+j:Nat)
 | [],_,j,y,h,_,_=>by simp at h
 |a::r,k,j,y,h,hp,hn=>by
  cases j with
  |zero=>
   simp at h
   subst h
   simp[pidx,hp]
  |succ j=>
   have h0:=hn 0 a (by omega) rfl
   simp only[pidx,h0,bFt,if_false]
   rw[zfr p r (k+1) j y (by simpa using h) hp (fun i z hi hz=>hn (i+1) z (by omega) (by simpa using hz))]
   congr 1;omega
theorem zb6 (p:Pi→Bool):∀(l:List Pi) (k:Nat),(pidx p l k= -1∧∀y∈l,p y=false)∨∃j y,pidx p l k=(k+j:Nat)∧l[j]?=some y∧p y=true∧∀i z,i<j→l[i]?=some z→p z=false
 | [],_=> .inl ⟨rfl,by simp⟩
 |a::r,k=>by
  cases hp:p a with
  |true=>exact .inr ⟨0,a,by simp[pidx,hp],rfl,hp,by omega⟩
  |false=>
   rcases zb6 p r (k+1) with⟨h1,h2⟩|⟨j,y,h1,h2,h3,h4⟩
   .exact .inl ⟨by simp[pidx,hp,h1],fun y hy=>by rcases lMc.1 hy with rfl|hy;exact hp;exact h2 y hy⟩
   .refine .inr ⟨j+1,y,by simp only[pidx,hp,bFt,if_false,h1];congr 1;omega,by simpa using h2,h3,fun i z hi hz=>?_⟩
    cases i with
    |zero=>simp at hz;subst hz;exact hp
    |succ i=>exact h4 i z (by omega) (by simpa using hz)
theorem zfE {α:Type} {f:α→Int}:∀{l:List α},za9 f l=0↔∀a∈l,f a=0
 | []=>by simp[za9]
 |a::r=>by
  unfold za9
  by_cases h:f a=0
  .simp[h,zfE (l:=r)]
  .simp[h]
theorem zfq {x:Pl}:∀{l:List Pi} {k:Nat},pisI x l k=0↔∀j y,l[j]?=some y→piI x (k+j) y=0
 | [],k=>by simp[pisI]
 |a::r,k=>by
  unfold pisI
  by_cases h:piI x k a=0
  .simp only[h,ne_eq,not_true,if_false,zfq (l:=r)]
   constructor
   .intro h1 j y hj
    cases j with
    |zero=>simp at hj;subst hj;exact h
    |succ j=>have:=h1 j y (by simpa using hj);rw[show k+(j+1)=k+1+j by omega];exact this
   .intro h1 j y hj
    have:=h1 (j+1) y (by simpa using hj)
    rw[show k+1+j=k+(j+1) by omega];exact this
  .simp only[h,ne_eq,not_false_iff,if_true,false_iff]
   intro h1
   exact h (h1 0 a rfl)
structure PiV (x:Pl):Prop where
 sg:∀s∈x.stages.l,sgI s=0
 rng:∀(k:Nat) (y:Pi),x.pipes.l[k]?=some y→0≤y.src∧y.src<x.stages.l.length∧0≤y.dst∧y.dst<x.stages.l.length∧1≤y.capacity∧y.capacity≤100∧
  0≤y.output∧y.output<outK (sgAt x y.src).kind∧0≤y.input∧y.input<inK (sgAt x y.dst).kind∧((sgAt x y.src).kind=5→(sgAt x y.src).size≤y.capacity)
 uo:∀(j k:Nat) (y z:Pi),x.pipes.l[j]?=some y→x.pipes.l[k]?=some z→y.src=z.src→y.output=z.output→j=k
 ui:∀(j k:Nat) (y z:Pi),x.pipes.l[j]?=some y→x.pipes.l[k]?=some z→y.dst=z.dst→y.input=z.input→j=k
theorem zks {x:Pl} {i:Int} (h0:0≤i) (h1:i<x.stages.l.length):sgAt x i∈x.stages.l:=by
 unfold sgAt
 have h:i.toNat<x.stages.l.length:=by omega
 rw[gEd,gEg h]
 exact List.getElem_mem h
theorem zte {x:Pl} (h1:za9 sgI x.stages.l=0) (h2:pisI x x.pipes.l 0=0):PiV x:=by
 have hs:=zfE.1 h1
 have hp:∀(k:Nat) (y:Pi),x.pipes.l[k]?=some y→piI x k y=0:=fun k y h=>by simpa using zfq.1 h2 k y h
 have hr:∀(k:Nat) (y:Pi),x.pipes.l[k]?=some y→(0≤y.src∧y.src<x.stages.l.length∧0≤y.dst∧y.dst<x.stages.l.length∧1≤y.capacity∧y.capacity≤100∧
  0≤y.output∧y.output<outK (sgAt x y.src).kind∧0≤y.input∧y.input<inK (sgAt x y.dst).kind∧((sgAt x y.src).kind=5→(sgAt x y.src).size≤y.capacity))∧(k:Int)≤pOut x y.src y.output∧(k:Int)≤pIn x y.dst y.input:=by
  intro k y h
  have:=hp k y h
  unfold piI at this
  split at this
  .cases this
  .rename_i h3
   have e1:outN (sgAt x y.src)=outK (sgAt x y.src).kind:=by
    have:=hs (sgAt x y.src) (zks (by omega) (by omega))
    simp[outN,this]
   have e2:inN (sgAt x y.dst)=inK (sgAt x y.dst).kind:=by
    have:=hs (sgAt x y.dst) (zks (by omega) (by omega))
    simp[inN,this]
   rw[e1,e2]at this
   split at this
   .cases this
   .split at this
    .cases this
    .split at this
     .cases this
     .rename_i h4 h5 h6
      exact⟨⟨by omega,by omega,by omega,by omega,by omega,by omega,by omega,by omega,by omega,by omega,fun h=>by omega⟩,by omega,by omega⟩
 have lt1:∀(j k:Nat) (y z:Pi),x.pipes.l[j]?=some y→x.pipes.l[k]?=some z→y.src=z.src→y.output=z.output→k≤j:=by
  intro j k y z hj hk e1 e2
  have h3:=(hr k z hk).2.1
  unfold pOut at h3
  apply cBc
  intro hn
  rcases zb6 (fun w=>decide (w.src=z.src)&&decide (w.output=z.output)) x.pipes.l 0 with⟨h4,h5⟩|⟨i,w,h4,h5,h6,h7⟩
  .rw[h4]at h3;omega
  .rw[h4]at h3
   have hi:k≤i:=by omega
   have:=h7 j y (by omega) hj
   simp[e1,e2]at this
 have lt2:∀(j k:Nat) (y z:Pi),x.pipes.l[j]?=some y→x.pipes.l[k]?=some z→y.dst=z.dst→y.input=z.input→k≤j:=by
  intro j k y z hj hk e1 e2
  have h3:=(hr k z hk).2.2
  unfold pIn at h3
  apply cBc
  intro hn
  rcases zb6 (fun w=>decide (w.dst=z.dst)&&decide (w.input=z.input)) x.pipes.l 0 with⟨h4,h5⟩|⟨i,w,h4,h5,h6,h7⟩
  .rw[h4]at h3;omega
  .rw[h4]at h3
   have hi:k≤i:=by omega
   have:=h7 j y (by omega) hj
   simp[e1,e2]at this
 exact⟨hs,fun k y h=>(hr k y h).1,fun j k y z hj hk e1 e2=>by have:=lt1 j k y z hj hk e1 e2;have:=lt1 k j z y hk hj e1.symm e2.symm;omega,
  fun j k y z hj hk e1 e2=>by have:=lt2 j k y z hj hk e1 e2;have:=lt2 k j z y hk hj e1.symm e2.symm;omega⟩
def ztD (x:Pl):Prop:=∀i n:Nat,i<x.stages.l.length→n<outK (sgAt x i).kind→∃(k:Nat) (y:Pi),x.pipes.l[k]?=some y∧y.src=i∧y.output=n
def zx5 (x:Pl):Prop:=∀i n:Nat,i<x.stages.l.length→n<inK (sgAt x i).kind→∃(k:Nat) (y:Pi),x.pipes.l[k]?=some y∧y.dst=i∧y.input=n
theorem zgl {l:List Pi} {f:Pi→Nat×Nat} (h:∀(j k:Nat) (y z:Pi),l[j]?=some y→l[k]?=some z→f y=f z→j=k):(l.map f).Nodup:=by
 unfold List.Nodup
 rw[List.pairwise_iff_getElem]
 intro i j hi hj hij he
 simp at hi hj he
 have:=h i j _ _ (gEg hi) (gEg hj) he
 omega
theorem zlg {x:Pl} (h:PiV x):ends x.stages.l=2* x.pipes.l.length↔ztD x∧zx5 x:=by
 have hsum:ends x.stages.l=((List.range x.stages.l.length).map fun (i:Nat)=>inK (sgAt x i).kind).sum+((List.range x.stages.l.length).map fun (i:Nat)=>outK (sgAt x i).kind).sum:=by
  unfold ends
  rw[zmZ]
  have e1:x.stages.l.map inN=x.stages.l.map fun s=>inK s.kind:=List.map_congr_left fun s hs=>by simp[inN,h.sg s hs]
  have e2:x.stages.l.map outN=x.stages.l.map fun s=>outK s.kind:=List.map_congr_left fun s hs=>by simp[outN,h.sg s hs]
  rw[e1,e2,←zig x.stages.l default fun s=>inK s.kind,←zig x.stages.l default fun s=>outK s.kind]
  rfl
 have nO:(x.pipes.l.map fun y=>(y.src.toNat,y.output.toNat)).Nodup:=zgl fun j k y z hj hk e=>by
  obtain⟨a1,_,_,_,_,_,a7,_⟩:=h.rng j y hj
  obtain⟨b1,_,_,_,_,_,b7,_⟩:=h.rng k z hk
  simp only[pMi]at e
  exact h.uo j k y z hj hk (by omega) (by omega)
 have nI:(x.pipes.l.map fun y=>(y.dst.toNat,y.input.toNat)).Nodup:=zgl fun j k y z hj hk e=>by
  obtain⟨_,_,a3,_,_,_,_,_,a9,_⟩:=h.rng j y hj
  obtain⟨_,_,b3,_,_,_,_,_,b9,_⟩:=h.rng k z hk
  simp only[pMi]at e
  exact h.ui j k y z hj hk (by omega) (by omega)
 have sO:∀p∈(x.pipes.l.map fun y=>(y.src.toNat,y.output.toNat)),p∈ziT (fun i=>outK (sgAt x i).kind) x.stages.l.length:=by
  intro p hp
  obtain⟨y,hy,rfl⟩:=List.mem_map.1 hp
  obtain⟨k,hk⟩:=List.getElem?_of_mem hy
  obtain⟨a1,a2,a3,a4,a5,a6,a7,a8,a9,a10,_⟩:=h.rng k y hk
  refine zb7.2 ⟨by simp only;omega,?_⟩
  simp only
  rw[show ((y.src.toNat:Nat):Int)=y.src by omega]
  omega
 have sI:∀p∈(x.pipes.l.map fun y=>(y.dst.toNat,y.input.toNat)),p∈ziT (fun i=>inK (sgAt x i).kind) x.stages.l.length:=by
  intro p hp
  obtain⟨y,hy,rfl⟩:=List.mem_map.1 hp
  obtain⟨k,hk⟩:=List.getElem?_of_mem hy
  obtain⟨a1,a2,a3,a4,a5,a6,a7,a8,a9,a10,_⟩:=h.rng k y hk
  refine zb7.2 ⟨by simp only;omega,?_⟩
  simp only
  rw[show ((y.dst.toNat:Nat):Int)=y.dst by omega]
  omega
 have lO:=zbl nO sO
 have lI:=zbl nI sI
 rw[zdG,List.length_map]at lO lI
 constructor
 .intro he
  rw[hsum]at he
  have aO:=zic nO sO (by rw[zdG,List.length_map];omega)
  have aI:=zic nI sI (by rw[zdG,List.length_map];omega)
  refine⟨fun i n hi hn=>?_,fun i n hi hn=>?_⟩
  .obtain⟨y,hy,e⟩:=List.mem_map.1 (aO (i,n) (zb7.2 ⟨hi,hn⟩))
   obtain⟨k,hk⟩:=List.getElem?_of_mem hy
   obtain⟨a1,a2,a3,a4,a5,a6,a7,a8,a9,a10,_⟩:=h.rng k y hk
   simp only[pMi]at e
   exact⟨k,y,hk,by omega,by omega⟩
  .obtain⟨y,hy,e⟩:=List.mem_map.1 (aI (i,n) (zb7.2 ⟨hi,hn⟩))
   obtain⟨k,hk⟩:=List.getElem?_of_mem hy
   obtain⟨a1,a2,a3,a4,a5,a6,a7,a8,a9,a10,_⟩:=h.rng k y hk
   simp only[pMi]at e
   exact⟨k,y,hk,by omega,by omega⟩
 .rintro⟨hO,hI⟩
  have l1:=zbl (zfx (fun i=>outK (sgAt x i).kind) x.stages.l.length) (m:=x.pipes.l.map fun y=>(y.src.toNat,y.output.toNat)) (fun p hp=>by
   obtain⟨p1,p2⟩:=zb7.1 hp
   obtain⟨k,y,hk,e1,e2⟩:=hO p.1 p.2 p1 p2
   exact List.mem_map.2 ⟨y,lMg hk,by rw[e1,e2];simp⟩)
  have l2:=zbl (zfx (fun i=>inK (sgAt x i).kind) x.stages.l.length) (m:=x.pipes.l.map fun y=>(y.dst.toNat,y.input.toNat)) (fun p hp=>by
   obtain⟨p1,p2⟩:=zb7.1 hp
   obtain⟨k,y,hk,e1,e2⟩:=hI p.1 p.2 p1 p2
   exact List.mem_map.2 ⟨y,lMg hk,by rw[e1,e2];simp⟩)
  rw[zdG,List.length_map]at l1 l2
  rw[hsum];omega
structure PlV (x:Pl):Prop extends PiV x where
 n1:1≤x.stages.l.length
 n2:x.stages.l.length≤16
 np:x.pipes.l.length≤32
 allOut:ztD x
 allIn:zx5 x
 tree:cyc x=false
theorem zea {x:Pl} (h:plI x=0):PlV x:=by
 unfold plI at h
 split at h
 .cases h
 .split at h
  .rename_i h1;exact absurd h h1
  .split at h
   .cases h
   .split at h
    .rename_i h1;exact absurd h h1
    .split at h
     .cases h
     .split at h
      .cases h
      .rename_i h1 h2 h3 h4 h5 h6
       have hp:=zte (x:=x) (by omega) (by omega)
       obtain⟨a,b⟩:=(zlg hp).1 (by omega)
       exact⟨hp,by omega,by omega,by omega,a,b,by simpa using h6⟩
theorem zft {x:Pl} (h:PiV x) {k:Nat} {y:Pi} (hk:x.pipes.l[k]?=some y):pOut x y.src y.output=k:=by
 unfold pOut
 rw[zfr _ _ 0 k y hk (by simp) (fun i z hi hz=>by
  apply cBc
  intro hn
  simp at hn
  have:=h.uo i k z y hz hk hn.1 hn.2
  omega)]
 simp
theorem zc5 {x:Pl} (h:PiV x) {k:Nat} {y:Pi} (hk:x.pipes.l[k]?=some y):pIn x y.dst y.input=k:=by
 unfold pIn
 rw[zfr _ _ 0 k y hk (by simp) (fun i z hi hz=>by
  apply cBc
  intro hn
  simp at hn
  have:=h.ui i k z y hz hk hn.1 hn.2
  omega)]
 simp
theorem zcm {α β:Type} {f:α→β→Bool}:∀{l:List α} {m:List β},all2 f l m=true↔l.length=m.length∧∀(k:Nat) (a:α) (b:β),l[k]?=some a→m[k]?=some b→f a b=true
 | [],[]=>by simp[all2]
 |a::r,b::s=>by
  simp only[all2,bAt,zcm (l:=r) (m:=s),lLc]
  constructor
  .rintro⟨h1,h2,h3⟩
   refine⟨by omega,fun k a' b' ha hb=>?_⟩
   cases k with
   |zero=>simp at ha hb;subst ha;subst hb;exact h1
   |succ k=>exact h3 k a' b' (by simpa using ha) (by simpa using hb)
  .rintro⟨h1,h2⟩
   exact⟨h2 0 a b rfl rfl,by omega,fun k a' b' ha hb=>h2 (k+1) a' b' (by simpa using ha) (by simpa using hb)⟩
 | [],b::s=>by simp[all2]
 |a::r,[]=>by simp[all2]
structure CrF (x:Pl) (s:FS) (c:CC) (y:Pi):Prop where
 v:CrV c
 cap:c.cap=y.capacity
 closed:c.closed=(stAt s y.src).ended
 grant:c.closed=true∨c.granted=c.taken+c.cap
 noted:zah (sgAt x y.dst) (stAt s y.dst) y.input=true→c.closed=true∧c.items=[]
theorem zll {x:Pl} {s:FS} {c:CC} {y:Pi}:crOk x s c y=true↔CrF x s c y:=by
 unfold crOk
 simp only[bAt,dTe,Bool.or_eq_true,Bool.not_eq_true',beq_iff_eq]
 constructor
 .rintro⟨⟨⟨⟨h1,h2⟩,h3⟩,h4⟩,h5⟩
  have hv:=(zbb c).1 h1
  exact⟨hv,h2,h3,h4,fun hn=>by rcases h5 with h5|h5;rw[hn]at h5;cases h5;exact (zhx hv).1 h5⟩
 .rintro⟨h1,h2,h3,h4,h5⟩
  refine⟨⟨⟨⟨(zbb c).2 h1,h2⟩,h3⟩,h4⟩,?_⟩
  cases hn:zah (sgAt x y.dst) (stAt s y.dst) y.input with
  |false=>exact .inl rfl
  |true=>exact .inr ((zhx h1).2 (h5 hn))
structure FsV (x:Pl) (s:FS):Prop where
 ls:s.st.length=x.stages.l.length
 lc:s.cr.length=x.pipes.l.length
 lo:s.out.length=zV x.stages.l
 out:∀l∈s.out,l.length≤200∧∀n∈l,isIt n=true
 st:∀i:Int,0≤i→i<x.stages.l.length→zal (sgAt x i) (stAt s i)=0
 cr:∀(k:Nat) (c:CC) (y:Pi),s.cr[k]?=some c→x.pipes.l[k]?=some y→CrF x s c y
theorem zvd {x:Pl} {s:FS}:fsB x s=true↔FsV x s:=by
 unfold fsB
 simp only[bAt,dTe,lAt,zcm]
 constructor
 .rintro⟨⟨⟨⟨⟨h1,h2⟩,h3⟩,h4⟩,h5,h6⟩,h7,h8⟩
  refine⟨h1,h2,h3,h4,fun i h0 hi=>?_,fun k c y hc hy=>zll.1 (h8 k c y hc hy)⟩
  have hi1:i.toNat<x.stages.l.length:=by omega
  have hi2:i.toNat<s.st.length:=by omega
  have:=h6 i.toNat _ _ (gEg hi1) (gEg hi2)
  unfold sgAt stAt
  rw[gEd,gEd,gEg hi1,gEg hi2]
  exact this
 .rintro⟨h1,h2,h3,h4,h5,h6⟩
  refine⟨⟨⟨⟨⟨h1,h2⟩,h3⟩,h4⟩,h1.symm,fun k a b ha hb=>?_⟩,h2,fun k a b ha hb=>zll.2 (h6 k a b ha hb)⟩
  have hk:=(gEs.1 ha).1
  have:=h5 k (by omega) (by omega)
  unfold sgAt stAt at this
  rw[gEd,gEd,show ((k:Int)).toNat=k by omega,ha,hb]at this
  exact this
theorem zgJ {x:Pl} {s:FS}:vaI x s=0↔plI x=0∧FsV x s:=by
 unfold vaI
 rw[←zvd]
 split
 .rename_i h;simp[h]
 .rename_i h
  simp only[show (1:Int)≠0 by decide,false_iff]
  exact h
theorem zis {g g':List Int} {y:Pi} (h:zfz g y=some g'):g'.length=g.length∧g.getD y.src.toNat 0≠g.getD y.dst.toNat 0:=by
 unfold zfz at h
 simp only at h
 split at h
 .cases h
 .rename_i hn
  cases h
  exact⟨by simp,hn⟩
def updC (e:Bool) (o:List Int) (c:CC):CC:=if e=true then (za4 (putC o c)).1 else putC o c
theorem zjI {α:Type} {l:List α} {k:Nat} {a:α} (h:l[k]?=some a) (d:α):l.getD k d=a:=by rw[gEd,h];rfl
inductive Act1 (x:Pl) (s:FS) (i:Nat) (m:MV):Prop where
 |gen (h1:(sgAt x i).kind=1) (h0:zbI (sgAt x i) (stAt s i) (-1) 0=0) (hm:zp (sgAt x i) (stAt s i) (-1) 0=(m.st,m.out,0)) (hk:m.kind=1)
 |stop (h1:(sgAt x i).kind=1) (h0:endE (sgAt x i) (stAt s i) (-1)=0) (hm:endK (sgAt x i) (stAt s i) (-1)=(m.st,m.out,0)) (hk:m.kind=3)
 |take (k:Nat) (y:Pi) (a:Int) (r:List Int) (c:CC) (h1:(sgAt x i).kind≠1) (hy:x.pipes.l[k]?=some y) (hd:y.dst=i) (hn:y.input=za8 (sgAt x i) (stAt s i)) (hc:s.cr[k]?=some c) (hi:c.items=a::r)
   (h0:zbI (sgAt x i) (stAt s i) y.input a=0) (hm:zp (sgAt x i) (stAt s i) y.input a=(m.st,m.out,0)) (hk:m.kind=2) (hp:m.pipe=k) (ha:m.item=a)
 |last (k:Nat) (y:Pi) (c:CC) (h1:(sgAt x i).kind≠1) (hy:x.pipes.l[k]?=some y) (hd:y.dst=i) (hn:y.input=za8 (sgAt x i) (stAt s i)) (hc:s.cr[k]?=some c) (he:c.closed=true) (hi:c.items=[])
   (h0:endE (sgAt x i) (stAt s i) y.input=0) (hm:endK (sgAt x i) (stAt s i) y.input=(m.st,m.out,0)) (hk:m.kind=3)
theorem zkm {x:Sg} {s:SS} {i n:Int} (h:(zbs x s i n).2.2=0):zbI x s i n=0∧zp x s i n=((zbs x s i n).1,(zbs x s i n).2.1,0):=by
 unfold zbs at *
 by_cases h0:zbI x s i n=0
 .rw[if_neg (by simp[h0])]at h⊢
  refine⟨h0,?_⟩
  rw[←h]
 .rw[if_pos h0]at h;exact absurd h h0
theorem zo0 {x:Sg} {s:SS} {i:Int} (h:(endS x s i).2.2=0):endE x s i=0∧endK x s i=((endS x s i).1,(endS x s i).2.1,0):=by
 unfold endS at *
 by_cases h0:endE x s i=0
 .rw[if_neg (by simp[h0])]at h⊢
  refine⟨h0,?_⟩
  rw[←h]
 .rw[if_pos h0]at h;exact absurd h h0
theorem zc7 {x:Sg} {s:SS} (h:zal x s=0) (hk:x.kind≠1):0≤za8 x s∧za8 x s<inK x.kind:=by
 obtain⟨hg,hs⟩:=zw.1 h
 have hf:=zK hs
 unfold za8
 by_cases k8:x.kind=8
 .have:zI x=1:=by simp[zI,k8]
  have hin:inK x.kind=2:=by simp[inK,k8]
  rw[if_pos k8,hin]
  split<;>omega
 .rw[if_neg k8]
  by_cases k9:x.kind=9
  .have hin:inK x.kind=2:=by simp[inK,k9]
   rw[hin]
   split<;>omega
  .have hin:inK x.kind=1:=by simp[inK,hk,k8,k9]
   rw[if_neg (by simp[k9]),hin];omega
theorem zc6 {x:Pl} {s:FS} (hx:PlV x) (hs:FsV x s) {i:Nat} (hi:i<x.stages.l.length) (hk:(zaQ x s i).kind≠0) (he:(zaQ x s i).e=0):(stAt s i).ended=false∧Act1 x s i (zaQ x s i):=by
 unfold zaQ at *
 simp only at *
 by_cases h0:(stAt s i).ended=true
 .rw[if_pos h0]at hk;exact absurd rfl hk
 rw[if_neg h0]at hk he⊢
 refine⟨by simpa using h0,?_⟩
 by_cases h1:(sgAt x i).kind=1
 .rw[if_pos h1]at hk he⊢
  by_cases h2:s.drain=false∧(stAt s i).count<(sgAt x i).items.l.length
  .rw[if_pos h2]at hk he⊢
   obtain⟨a,b⟩:=zkm he
   exact .gen h1 a b rfl
  .rw[if_neg h2]at hk he⊢
   obtain⟨a,b⟩:=zo0 he
   exact .stop h1 a b rfl
 .rw[if_neg h1]at hk he⊢
  obtain⟨n0,n1⟩:=zc7 (hs.st i (by omega) (by omega)) h1
  obtain⟨k,y,hky,e1,e2⟩:=hx.allIn i (za8 (sgAt x i) (stAt s i)).toNat hi (by omega)
  have e2':y.input=za8 (sgAt x i) (stAt s i):=by omega
  have hp:pIn x i (za8 (sgAt x i) (stAt s i))=k:=by rw[←e2',←e1];exact zc5 hx.toPiV hky
  have hkl:k<s.cr.length:=by rw[hs.lc];exact (gEs.1 hky).1
  have hc:=gEg hkl
  have hca:crAt s k=s.cr[k]:=by unfold crAt;rw[iTn,zjI hc]
  rw[hp,hca]at hk he⊢
  have hv:=(hs.cr k _ y hc hky).v
  cases hit:s.cr[k].items with
  |cons a r=>
   rw[hit]at hk he
   simp only at hk he⊢
   obtain⟨p,q⟩:=zkm he
   exact .take k y a r _ h1 hky e1 e2' hc hit (by rw[e2'];exact p) (by rw[e2'];exact q) rfl rfl rfl
  |nil=>
   rw[hit]at hk he
   simp only at hk he⊢
   by_cases hen:endC s.cr[k]=true
   .rw[if_pos hen]at hk he⊢
    obtain⟨p,q⟩:=zo0 he
    exact .last k y _ h1 hky e1 e2' hc ((zhx hv).1 hen).1 hit (by rw[e2'];exact p) (by rw[e2'];exact q) rfl
   .rw[if_neg hen]at hk;exact absurd rfl hk
theorem Act1.mv {x:Pl} {s:FS} {i:Nat} {m:MV} (h:Act1 x s i m) (he:(stAt s i).ended=false):MvOk (sgAt x i) m.st m.out:=by
 cases h with
 |gen h1 h0 hm hk=>
  have:=(zg1 h0 (by rw[hm])).1
  rw[hm]at this
  exact this
 |stop h1 h0 hm hk=>
  have:=(zoZ h0 (by rw[hm])).1
  rw[hm]at this
  exact this
 |take k y a r c h1 hy hd hn hc hi h0 hm hk hp ha=>
  have:=(zg1 h0 (by rw[hm])).1
  rw[hm]at this
  exact this
 |last k y c h1 hy hd hn hc hce hi h0 hm hk=>
  have:=(zoZ h0 (by rw[hm])).1
  rw[hm]at this
  exact this
def cr1 (x:Pl) (s:FS) (i:Nat) (m:MV) (k:Nat) (y:Pi) (c:CC):CC:=
 if y.src=i then updC m.st.ended (m.out.getD y.output.toNat []) c else if m.kind=2∧m.pipe=k then zx7 c else c
theorem zo3 {s:FS} {k:Nat} {c:CC} (h:s.cr[k]?=some c):crAt s k=c:=by unfold crAt;rw[iTn,zjI h]
theorem Act1.pipe {x:Pl} {s:FS} {i:Nat} {m:MV} (h:Act1 x s i m) (hk:m.kind=2):∃(k:Nat) (y:Pi) (a:Int) (r:List Int) (c:CC),(sgAt x i).kind≠1∧x.pipes.l[k]?=some y∧y.dst=i∧y.input=za8 (sgAt x i) (stAt s i)∧s.cr[k]?=some c∧c.items=a::r∧zbI (sgAt x i) (stAt s i) y.input a=0∧zp (sgAt x i) (stAt s i) y.input a=(m.st,m.out,0)∧m.pipe=k∧m.item=a:=by
 cases h with
 |gen h1 h0 hm hk'=>omega
 |stop h1 h0 hm hk'=>omega
 |take k y a r c h1 hy hd hn hc hi h0 hm hk' hp ha=>exact⟨k,y,a,r,c,h1,hy,hd,hn,hc,hi,h0,hm,hp,ha⟩
 |last k y c h1 hy hd hn hc hce hi h0 hm hk'=>omega
theorem zkp {x:Pl}:∀{l:List Sg} {i j:Nat},i<j→(∃g,l[i]?=some g∧g.kind=10)→zV (l.take i)<zV (l.take j)
 | [],i,j,_,h=>by obtain⟨g,h1,_⟩:=h;simp at h1
 |a::r,0,j,hij,h=>by
  obtain⟨g,h1,h2⟩:=h
  simp at h1
  subst h1
  obtain⟨j,rfl⟩:∃j',j=j'+1:=⟨j - 1,by omega⟩
  simp[zV,h2]
 |a::r,i+1,j,hij,h=>by
  obtain⟨g,h1,h2⟩:=h
  obtain⟨j,rfl⟩:∃j',j=j'+1:=⟨j - 1,by omega⟩
  have ih:=zkp (x:=x) (l:=r) (i:=i) (j:=j) (by omega) ⟨g,by simpa using h1,h2⟩
  simp only[zV,List.take_succ_cons,List.filter_cons]at ih⊢
  split<;>simp<;>omega
theorem zaV {x:Pl} {i:Nat} (h:i<x.stages.l.length):x.stages.l[i]?=some (sgAt x i):=by
 unfold sgAt
 rw[iTn,zjI (gEg h)]
 exact gEg h
def zdH (S:List Nat) (y:Pi):Bool:=decide (y.src.toNat∈S)&&decide (y.dst.toNat∈S)
def Dis (g:List Int) (S:List Nat) (V:List Int):Prop:=V.Nodup∧∀v∈V,∃i∈S,i<g.length∧g.getD i 0=v
theorem zq1 {g g':List Int} {y:Pi} (h:zfz g y=some g') {i:Nat} (hi:i<g.length):g'.getD i 0=if g.getD i 0=g.getD y.dst.toNat 0 then g.getD y.src.toNat 0 else g.getD i 0:=by
 unfold zfz at h
 simp only at h
 split at h
 .cases h
 .cases h
  simp[gEd,hi]
theorem zq2 {g g':List Int} {y:Pi} (h:zfz g y=some g') {S:List Nat} (hs:y.src.toNat<g.length) (hd:y.dst.toNat<g.length) {V:List Int} (hV:Dis g' S V):∃W,Dis g S W∧V.length+(if zdH S y=true then 1 else 0)≤W.length:=by
 obtain⟨hn,hv⟩:=hV
 obtain⟨hl,hab⟩:=zis h
 generalize ha:g.getD y.src.toNat 0=a at hab
 generalize hb:g.getD y.dst.toNat 0=b at hab
 have hget:∀i,i<g.length→g'.getD i 0=if g.getD i 0=b then a else g.getD i 0:=fun i hi=>by rw[zq1 h hi,ha,hb]
 have hbV:b∉V:=by
  intro hm
  obtain⟨i,_,hi,e⟩:=hv b hm
  rw[hl]at hi
  rw[hget i hi]at e
  split at e
  .exact hab e
  .rename_i h1;exact h1 e
 have hold:∀v∈V,v≠a→∃i∈S,i<g.length∧g.getD i 0=v:=by
  intro v hm hva
  obtain⟨i,hS,hi,e⟩:=hv v hm
  rw[hl]at hi
  rw[hget i hi]at e
  split at e
  .exact absurd e.symm hva
  .exact⟨i,hS,hi,e⟩
 by_cases hin:zdH S y=true
 .rw[if_pos hin]
  simp only[zdH,bAt,dTe]at hin
  refine⟨b::V,⟨List.nodup_cons.2 ⟨hbV,hn⟩,fun v hm=>?_⟩,by simp⟩
  rcases lMc.1 hm with rfl|hm
  .exact⟨_,hin.2,hd,hb⟩
  .by_cases hva:v=a
   .subst hva;exact⟨_,hin.1,hs,ha⟩
   .exact hold v hm hva
 .rw[if_neg hin]
  by_cases haS:∃i∈S,i<g.length∧g.getD i 0=a
  .refine⟨V,⟨hn,fun v hm=>?_⟩,by simp⟩
   by_cases hva:v=a
   .subst hva;exact haS
   .exact hold v hm hva
  .by_cases haV:a∈V
   .have hbS:∃i∈S,i<g.length∧g.getD i 0=b:=by
     obtain⟨i,hS,hi,e⟩:=hv a haV
     rw[hl]at hi
     rw[hget i hi]at e
     split at e
     .rename_i h1;exact⟨i,hS,hi,h1⟩
     .exact absurd ⟨i,hS,hi,e⟩ haS
    refine⟨b::V.erase a,⟨List.nodup_cons.2 ⟨fun hm=>hbV (List.mem_of_mem_erase hm),hn.erase a⟩,fun v hm=>?_⟩,?_⟩
    .rcases lMc.1 hm with rfl|hm
     .exact hbS
     .have:=(hn.mem_erase_iff).1 hm
      exact hold v this.2 this.1
    .have:=List.length_pos_of_mem haV
     rw[lLc,List.length_erase_of_mem haV];omega
   .refine⟨V,⟨hn,fun v hm=>hold v hm (fun e=>haV (by rw[←e];exact hm))⟩,by simp⟩
theorem zgt (S:List Nat):∀(l:List Pi) (g:List Int) (k:Nat),(zct l g).isNone=false→(∀y∈l,y.src.toNat<g.length∧y.dst.toNat<g.length)→(∀V,Dis g S V→V.length+k≤S.length)→
  (∃i∈S,i<g.length)→k+(l.filter (zdH S)).length+1≤S.length
 | [],g,k,_,_,hV,⟨i,hi,hg⟩=>by
  have:=hV [g.getD i 0] ⟨by simp,fun v hv=>by simp at hv;subst hv;exact⟨i,hi,hg,by simp[gEd]⟩⟩
  simp at this⊢;omega
 |y::r,g,k,h,hr,hV,⟨i,hi,hg⟩=>by
  unfold zct at h
  cases hj:zfz g y with
  |none=>rw[hj]at h;cases h
  |some g'=>
   rw[hj]at h
   obtain⟨hl,_⟩:=zis hj
   have hy:=hr y (by simp)
   have ih:=zgt S r g' (k+if zdH S y=true then 1 else 0) h (fun z hz=>by rw[hl];exact hr z (by simp[hz])) (fun V hd=>by
    obtain⟨U,h1,h2⟩:=zq2 hj hy.1 hy.2 hd
    have:=hV U h1
    omega) ⟨i,hi,by rw[hl];exact hg⟩
   cases hin:zdH S y with
   |true=>rw[hin]at ih;simp only[if_true]at ih;simp only[List.filter_cons,hin,if_true,lLc];omega
   |false=>rw[hin]at ih;simp only[bFt,if_false]at ih;simp only[List.filter_cons,hin,bFt,if_false];omega
theorem zu4 {n i:Nat} (h:i<n):(idsG n).getD i 0=i:=by simp[idsG,gEd,h]
theorem zcO (n:Nat):(idsG n).length=n:=by simp[idsG]
theorem PlV.forest {x:Pl} (h:PlV x) {S:List Nat} (hS:S≠[]) (hb:∀i∈S,i<x.stages.l.length):(x.pipes.l.filter (zdH S)).length+1≤S.length:=by
 obtain⟨i,hi⟩:=List.exists_mem_of_ne_nil S hS
 have:=zgt S x.pipes.l (idsG x.stages.l.length) 0 h.tree (fun y hy=>by
  obtain⟨k,hk⟩:=List.getElem?_of_mem hy
  have:=h.rng k y hk
  rw[zcO];omega) (fun V hV=>by
  have:=zbl hV.1 (m:=S.map fun (i:Nat)=>(i:Int)) (fun v hv=>by
   obtain⟨i,h1,h2,h3⟩:=hV.2 v hv
   rw[zcO]at h2
   rw[zu4 h2]at h3
   exact List.mem_map.2 ⟨i,h1,h3⟩)
  simpa using this) ⟨i,hi,by rw[zcO];exact hb i hi⟩
 omega
theorem PlV.nodup {x:Pl} (h:PlV x):x.pipes.l.Nodup:=by
 unfold List.Nodup
 rw[List.pairwise_iff_getElem]
 intro i j hi hj hij he
 have:=h.uo i j _ _ (gEg hi) (gEg hj) (by rw[he]) (by rw[he])
 omega
theorem PlV.wait {x:Pl} (h:PlV x) {S:List Nat} (hn:S.Nodup) (hS:S≠[]) (hb:∀i∈S,i<x.stages.l.length) {f:Nat→Pi} (hf:∀i∈S,f i∈x.pipes.l∧zdH S (f i)=true):
  ∃i∈S,∃j∈S,i≠j∧f i=f j:=by
 apply cBc
 intro hno
 have hinj:(S.map f).Nodup:=by
  unfold List.Nodup
  rw[List.pairwise_map]
  refine List.Pairwise.imp_of_mem (fun {i j} hi hj hij e=>?_) hn
  exact hno ⟨i,hi,j,hj,hij,e⟩
 have:=zbl hinj (m:=x.pipes.l.filter (zdH S)) (fun y hy=>by
  obtain⟨i,hi,rfl⟩:=List.mem_map.1 hy
  exact List.mem_filter.2 (hf i hi))
 have:=h.forest hS hb
 simp at *
 omega
abbrev zipA (o r:List (List Int)):List (List Int):=List.zipWith (·++·) o r
section
variable {x:Pl} {σ:Nat→List Int} {s t:FS} {c:Nat→Nat} {i k:Nat} {y:Pi} {b:CC}
end
section
variable {x:Pl} {σ:Nat→List Int} {s t:FS} {c:Nat→Nat} {i k:Nat} {y:Pi} {b:CC} {m:MV}
end
theorem zlO (x:Sg) (t:SS) (i n:Int):∀o∈(zp x t i n).2.1,o.length≤if x.kind=5 then x.size.toNat else 1:=by
 intro o
 by_cases k5:x.kind=5
 .simp[zp,k5]
  rintro rfl
  simp
 .intro ho
  rw[if_neg k5]
  by_cases k1:x.kind=1
  .simp[zp,k1]at ho;subst ho;simp
  by_cases k2:x.kind=2
  .by_cases h:(evX x n 0).2=0<;>simp[zp,k2,h]at ho
   subst ho;simp
  by_cases k3:x.kind=3
  .by_cases h:(evX x n 0).2=0<;>simp[zp,k3,h]at ho
   subst ho;split<;>simp
  by_cases k4:x.kind=4
  .by_cases h:(t.held.length:Int)+1<x.size
   .simp[zp,k4,h]at ho;subst ho;simp
   .by_cases h':(sumB (t.held++[n]) 0).2=0<;>simp[zp,k4,h,h']at ho
    subst ho;simp
  by_cases k6:x.kind=6
  .by_cases h:t.count<x.size<;>simp[zp,k6,h]at ho<;>subst ho<;>simp
  by_cases k7:x.kind=7
  .by_cases h:(evX x n 0).2=0<;>simp[zp,k7,h]at ho
   by_cases h2:(evX x n 0).1=1<;>simp[h2]at ho<;>rcases ho with rfl|rfl<;>simp
  by_cases k8:x.kind=8
  .simp[zp,k8]at ho;subst ho;simp
  by_cases k9:x.kind=9
  .by_cases h:i=0
   .by_cases h2:2≤t.count<;>simp[zp,k9,h,h2]at ho<;>subst ho<;>simp
   .cases hh:t.held with
    |nil=>simp[zp,k9,h,hh]at ho;subst ho;simp
    |cons a r=>
     by_cases h2:(evX x a n).2=0<;>simp[zp,k9,h,hh,h2]at ho
     subst ho;simp
  .simp[zp,k1,k2,k3,k4,k5,k6,k7,k8,k9]at ho
theorem zoY (x:Sg) (t:SS) (i:Int):∀o∈(endK x t i).2.1,o.length≤1:=by
 intro o
 unfold endK
 repeat' split
 all_goals (intro ho;simp at ho)
 all_goals first|(subst ho;simp)|(obtain⟨_,rfl⟩:=ho;simp)
section
variable {x:Pl} {σ:Nat→List Int} {s t:FS} {c:Nat→Nat} {i k:Nat} {y:Pi} {b:CC} {m:MV}
end
end Go.Proofs.YtbddckhdbnmamaaGreat
