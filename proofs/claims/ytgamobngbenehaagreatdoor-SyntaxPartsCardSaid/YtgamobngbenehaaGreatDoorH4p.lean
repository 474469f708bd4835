/-
  The lines of statements with blocks; what the writer writes (conditions: none).
-/
import Derived.Test.YtgamobngbenehaaGreatDoorBDp
import Derived.Test.YtgamobngbenehaaGreatDoorH3p
namespace Go.Proofs.YtgamobngbenehaaGreatDoor
open Go Go.RowKit
set_option linter.unusedVariables false
set_option linter.unusedSimpArgs false
set_option maxRecDepth 10000
set_option maxHeartbeats 4000000
def scoT (w:List UInt8) (e:Ex):List UInt8:=if zau e=true then [] else w++zbk e
theorem zdJ (w:List UInt8) (e:Ex):(scoT w e).length≤w.length+10000:=by
 have:=zbx e
 unfold scoT
 split
 .simp
 .simp;omega
def dlW:List UInt8:=[32,100,101,97,100,108,105,110,101,32]
def bgW:List UInt8:=[32,98,117,100,103,101,116,32]
def zhl (x:St):List UInt8:=
 if x.kind=14 then [115,99,111,112,101]++scoT dlW (x.exprs.l.getD 0 default)++scoT bgW (x.exprs.l.getD 1 default)++(if x.name=[] then [] else [32,97,115,32]++x.name)
 else if x.kind=15∨x.kind=20 then zeq x.kind
 else zeq x.kind++[32]++exsT x.exprs.l
theorem zgt {x:St} (h:x.sm):(zhl x).length≤1001000:=by
 have n1:=zcS h.exprs
 have n2:=zcD x.kind
 have n3:=zdJ dlW (x.exprs.l.getD 0 default)
 have n4:=zdJ bgW (x.exprs.l.getD 1 default)
 have n5:=h.name
 have e1:dlW.length=10:=rfl
 have e2:bgW.length=8:=rfl
 unfold zhl
 split
 .generalize scoT dlW (x.exprs.l.getD 0 default)=u at *
  generalize scoT bgW (x.exprs.l.getD 1 default)=v at *
  split<;>simp<;>omega
 .split
  .omega
  .simp;omega
theorem zhL {x:St} (h:x.sm):(simT x).length≤1020000:=by
 have n1:=zcS h.exprs
 have n2:=zcD x.kind
 have n3:=zdZ h.names
 have n4:=zjQ x.op
 have n5:=h.name
 unfold simT
 split
 .simp;omega
 .split
  .simp;omega
  .split
   .omega
   .split
    .simp;omega
    .simp only[List.length_append,List.length_cons,List.length_nil]
     split<;>split<;>simp only[List.length_append,List.length_cons,List.length_nil]<;>omega
section
attribute [local irreducible] okC okV
theorem w159 (x:St) (h:x.sm) (h14:x.kind=14→2≤x.exprs.l.length):W.pure 159 [x.av]=some (.str (zhl x)):=by
 rw[zG Φ159 (by simp)]
 have c1:=w192 x.exprs h.exprs
 have n1:=zcS h.exprs
 have n3:=zcD x.kind
 have n5:=h.name
 have hm:∀H n,zcO H 0 false (.str []) wdV (I n)= .str (zeq n):=fun H n=>zdM wdT n H
 have ho:okO wdV=some wdV:=rfl
 unfold zhl
 by_cases hk:x.kind=14
 .rw[if_pos hk]
  obtain⟨a,ha⟩:∃a,x.exprs.l[0]?=some a:=⟨_,gEg (by have:=h14 hk;omega)⟩
  obtain⟨b,hb⟩:∃b,x.exprs.l[1]?=some b:=⟨_,gEg (by have:=h14 hk;omega)⟩
  have ga:x.exprs.l.getD 0 default=a:=by rw[gEd,ha];rfl
  have gb:x.exprs.l.getD 1 default=b:=by rw[gEd,hb];rfl
  rw[ga,gb]
  have za:=e121 a
  have zb:=e121 b
  have ta:=e194 a
  have tb:=e194 b
  have la:=zbx a
  have lb:=zbx b
  have sa:=zdJ dlW a
  have sb:=zdJ bgW b
  have e1:dlW.length=10:=rfl
  have e2:bgW.length=8:=rfl
  have L2:∀s,W.loop [1,4,12,13,14] zgj [(1,.optr 0 0 0 0),(4,.str s),(12,.isl (some false) 1 [.str dlW,.str bgW]),(13,I 2),(14,I 2)] [.arr 0 8 false [x.av]]=some (.exit 1,[(1,.optr 0 0 0 0),(4,.str s),(12,.isl (some false) 1 [.str dlW,.str bgW]),(13,I 2),(14,I 2),(15,.bool false)],[.arr 0 8 false [x.av]]):=by
   intro s
   rw[zp]
   simp[zcW,zem,zd, -getElem?_pos,gEz]
  have w1:IntKind.wrap .i64 (1+1)=2:=rfl
  have w0:IntKind.wrap .i64 1=1:=rfl
  have w2:IntKind.wrap .i64 2=2:=rfl
  have L1:∀s,s.length≤100000→W.loop [1,4,12,13,14] zgj [(1,.optr 0 0 0 0),(4,.str s),(12,.isl (some false) 1 [.str dlW,.str bgW]),(13,I 2),(14,I 1)] [.arr 0 8 false [x.av]]=some (.exit 1,[(1,.optr 0 0 0 0),(4,.str (s++scoT bgW b)),(12,.isl (some false) 1 [.str dlW,.str bgW]),(13,I 2),(14,I 2),(15,.bool false)],[.arr 0 8 false [x.av]]):=by
   intro s hs
   rw[zp]
   unfold scoT at sb⊢
   cases hz:zau b with
   |true=>
    rw[hz]at zb
    simp[zcW,zem,zd,hb,zb,w2,L2, -getElem?_pos,gEz]
   |false=>
    rw[hz]at zb
    simp (disch:=(first|omega|(simp only[List.length_append,List.length_cons,List.length_nil];omega))) [zcW,zem,zd,hb,zb,tb,w2,L2,zac, -getElem?_pos,gEz]
  have L0:∀s,s.length≤10000→W.loop [1,4,12,13,14] zgj [(1,.optr 0 0 0 0),(4,.str s),(12,.isl (some false) 1 [.str dlW,.str bgW]),(13,I 2),(14,I 0)] [.arr 0 8 false [x.av]]=some (.exit 1,[(1,.optr 0 0 0 0),(4,.str (s++scoT dlW a++scoT bgW b)),(12,.isl (some false) 1 [.str dlW,.str bgW]),(13,I 2),(14,I 2),(15,.bool false)],[.arr 0 8 false [x.av]]):=by
   intro s hs
   have L1':=L1 (s++scoT dlW a) (by simp;omega)
   rw[zp]
   unfold scoT at sa L1'⊢
   cases hz:zau a with
   |true=>
    rw[hz]at za L1'
    simp at L1'
    simp[zcW,zem,zd,ha,za,w0,L1', -getElem?_pos,gEz]
   |false=>
    rw[hz]at za L1'
    simp at L1'
    simp (disch:=(first|omega|(simp only[List.length_append,List.length_cons,List.length_nil];omega))) [zcW,zem,zd,ha,za,ta,w0,L1',zac, -getElem?_pos,gEz]
  have L:=L0 [115,99,111,112,101] (by simp)
  generalize scoT dlW a=ua at *
  generalize scoT bgW b=ub at *
  simp only[dlW,bgW]at L
  by_cases hn:x.name=[]
  .simp (disch:=(first|omega|(simp only[List.length_append,List.length_cons,List.length_nil];omega))) [zhn,c159,zi,ze,zd,resV,rvVs,rvV,zdA,ho,hk,hn,L,zeB,zac, -getElem?_pos,gEz]
  .simp (disch:=(first|omega|(simp only[List.length_append,List.length_cons,List.length_nil];omega))) [zhn,c159,zi,ze,zd,resV,rvVs,rvV,zdA,ho,hk,hn,L,zeB,zac, -getElem?_pos,gEz]
 rw[if_neg hk]
 by_cases h2:x.kind=15∨x.kind=20
 .rw[if_pos h2]
  rcases h2 with h2|h2<;>
  simp[zhn,c159,zi,ze,zd,resV,rvVs,rvV,zdA,ho,hm,hk,h2, -getElem?_pos,gEz]
 .rw[if_neg h2]
  have q1:¬x.kind=15:=fun e=>h2 (.inl e)
  have q2:¬x.kind=20:=fun e=>h2 (.inr e)
  simp (disch:=(first|omega|(simp only[List.length_append,List.length_cons,List.length_nil];omega))) [zhn,c159,zi,ze,zd,resV,rvVs,rvV,zdA,ho,hm,hk,q1,q2,c1,zac, -getElem?_pos,gEz]
theorem zmm (d:Int):zfH.contains (102,0,([I d]:List AV).length+2)=true:=rfl
def za7 (d:Nat) (s:List UInt8):List UInt8:=repL [9] d++s++[10]
theorem zhS (d:Nat):(repL [9] d).length=d:=by
 induction d with
 |zero=>rfl
 |succ n ih=>simp only[repL,List.length_append,ih,List.length_cons,List.length_nil];omega
theorem zbv (d:Nat) (s:List UInt8):(za7 d s).length=d+s.length+1:=by
 unfold za7
 simp only[List.length_append,zhS,List.length_cons,List.length_nil]
theorem w108 (d:Nat) (h:d≤1000000):W.pure 108 [.str [9],I d]=some (.str (repL [9] d)):=by
 rw[zpC (by kernel_rfl) rfl (by simp)]
 simp only[zfj]
 rw[if_pos ⟨by omega,by omega,by simp⟩]
 simp
theorem w54 {H:Heap} {id d:Nat} {s:List UInt8} (h:Bld H id 102 [I d] s) (hd:d≤1000000) (x:List UInt8) (hl:s.length+(za7 d x).length≤zE):
  ∃H',W.call (.clo 54 [] []) [.bptr id 0,.str x] H=some (.tuple [],H')∧Bld H' id 102 [I d] (s++za7 d x)∧zS H H':=by
 rw[zbv]at hl
 have hr:=zhS d
 obtain⟨H1,a1,a2,a3⟩:=zbA h (zmm d) (repL [9] d) (by omega)
 obtain⟨H2,b1,b2,b3⟩:=zbA a2 (zmm d) x (by simp;omega)
 obtain⟨H3,c1,c2,c3⟩:=zie b2 (zmm d) 10 (by omega) (by simp;omega)
 refine⟨H3,?_,by simpa[za7]using c2,(a3.trans b3).trans c3⟩
 obtain⟨c0,buf,h1,h2,h3⟩:=h
 rw[zL Φ54]
 simp[fi54,c54,zi,ze,zd,resV,rvVs,rvV,h1,w108 d hd,a1,b1,c1, -getElem?_pos,gEz]
end
end Go.Proofs.YtgamobngbenehaaGreatDoor
