/-
  lexer.Keyword, and syntax.name (conditions: none). combinator.valid: Check of a source with one procedure without parameters and statements (conditions: none). Equality of lists of names and of expressions, in the reference (conditions: none). Loops over two lists at once (conditions: none). Equality of lists of statements, in the reference (conditions: none). Equality of sources, in the reference (conditions: none).
-/
import Derived.Test.YtgamobngbenehaaGreatDoorPrep
import Derived.Test.YtgamobngbenehaaGreatDoorPKp
import Derived.Test.YtgamobngbenehaaGreatDoorAAp
section
namespace Go.Proofs.YtgamobngbenehaaGreatDoor
open Go Go.RowKit
set_option linter.unusedVariables false
set_option linter.unusedSimpArgs false
set_option maxRecDepth 10000
theorem zhf:∀(s:List UInt8) (k:Nat),zbn s k=true→∀c∈s,c≠32:=by
 intro s
 induction s with
 |nil=>intro k _ c hc;cases hc
 |cons b r ih=>
  intro k h c hc
  simp only[zbn,Bool.and_eq_true]at h
  cases hc with
  |head=>
   rintro rfl
   have:=h.1
   by_cases hk:k=0<;>simp[nmI,hk]at this
  |tail _ hc=>exact ih (k+1) h.2 c hc
theorem zgo {s:List UInt8} (h:isNm s=true):∀c∈s,c≠32:=by
 simp only[isNm,Bool.and_eq_true]at h
 exact zhf s 0 h.1.1
theorem zfo:32::zgl zaH=[32,97,99,113,117,105,114,101,32,97,100,100,32,97,110,121,32,97,114,114,105,118,101,32,97,115,32,97,115,115,101,114,116,32,97,116,111,109,105,99,32,97,119,97,105,116,32,98,97,114,114,105,101,114,32,98,101,103,105,110,32,98,114,111,97,100,99,97,115,116,32,98,117,100,103,101,116,32,99,97,108,108,32,99,97,110,99,101,108,32,99,104,97,110,110,101,108,32,99,104,101,99,107,112,111,105,110,116,32,99,108,101,97,110,117,112,32,99,108,111,115,101,32,99,111,109,112,108,101,116,101,32,99,111,110,100,32,100,101,97,100,108,105,110,101,32,100,101,102,97,117,108,116,32,100,101,102,101,114,32,101,108,115,101,32,101,109,105,116,32,101,110,100,32,101,118,101,114,121,32,102,97,105,108,32,102,117,110,99,32,102,117,116,117,114,101,32,105,102,32,108,101,116,32,108,105,109,105,116,101,114,32,108,111,99,107,32,109,97,115,107,32,109,117,116,101,120,32,110,101,120,116,32,111,110,32,112,114,105,111,114,105,116,121,32,112,117,98,108,105,115,104,32,114,101,97,100,108,111,99,107,32,114,101,97,100,117,110,108,111,99,107,32,114,101,99,101,105,118,101,32,114,101,108,101,97,115,101,32,114,101,112,101,97,116,32,114,101,116,117,114,110,32,114,119,108,111,99,107,32,115,99,111,112,101,32,115,101,108,101,99,116,32,115,101,109,97,112,104,111,114,101,32,115,101,110,100,32,115,105,103,110,97,108,32,115,108,101,101,112,32,115,112,97,119,110,32,115,117,98,115,99,114,105,98,101,32,115,119,97,112,32,116,97,107,101,32,116,97,115,107,32,116,111,112,105,99,32,116,114,121,97,99,113,117,105,114,101,32,116,114,121,108,111,99,107,32,117,110,108,111,99,107,32,117,110,115,117,98,115,99,114,105,98,101,32,118,97,114,32,119,97,105,116,32,119,104,105,108,101,32,119,114,105,116,101,108,111,99,107,32,119,114,105,116,101,117,110,108,111,99,107,32,121,105,101,108,100,32]:=by rfl
theorem zkm:∀w∈zaH,∀c∈w,c≠32:=by decide
theorem e154 (s:List UInt8) (hn:isNm s=true):W.pure 147 [.str s]=some (.bool (decide (s∈zaH))):=by
 rw[zG Φ147 rfl]
 have h32:=zgo hn
 have hne:s≠[]:=by rintro rfl;simp[isNm]at hn
 have hl:s.length≤30:=by simp[isNm]at hn;exact hn.2
 have c1:=e164 s [32] (by omega)
 have s1:Lib.contains s [32]=false:=by
  have:=zbQ [] s [] h32
  simpa[zcd]using this
 rw[s1]at c1
 have c2:=e164 (32::zgl zaH) (32::(s++[32])) (by rw[zfo];simp)
 rw[zcY s h32 zaH zkm,zfo]at c2
 have l1:1+s.length≤9223372036854775807:=by omega
 have l2:s.length+1+1≤9223372036854775807:=by omega
 have l3:1+s.length+1≤9223372036854775807:=by omega
 have l4:s.length+1≤9223372036854775807:=by omega
 by_cases hm:s∈zaH<;>simp[zkK,c147,zi,ze,zd,resV,rvVs,rvV,zV,hne,c1,c2,hm,l1,l2,l3,l4]
theorem zgE (s:List UInt8):zaf (.of 2 0 s 0 zaV)=if isNm s=true then 0 else 5:=by
 have h1:(Ex.of 2 0 s 0 zaV).size=1:=rfl
 have h2:(Ex.of 2 0 s 0 zaV).depth=1:=rfl
 have h3:(Ex.of 2 0 s 0 zaV).parts=[Ex.of 2 0 s 0 zaV]:=rfl
 unfold zaf
 rw[h1,h2,h3]
 cases h:isNm s<;>simp[zY,zak,zbs,h]
theorem e110 (s:List UInt8):W.pure 101 [.str s]=some (.bool (zT s)):=by
 rw[zG Φ101 rfl]
 have c1:=e153 (Ex.of 2 0 s 0 zaV)
 rw[zgE,←zti]at c1
 have e1:(Sl.av Ex.av 5 zaV:AV)= .isl (some true) 0 []:=rfl
 rw[e1]at c1
 cases h:isNm s with
 |false=>simp[h]at c1;simp[zkP,c101,zi,ze,zd,resV,rvVs,rvV,c1,zT,h]
 |true=>
  have c2:=e154 s h
  simp[h]at c1
  by_cases hm:s∈zaH<;>simp[hm]at c2<;>simp[zkP,c101,zi,ze,zd,resV,rvVs,rvV,c1,c2,zT,h,hm]
theorem e121 (e:Ex):W.pure 122 [e.av]=some (.bool (zau e)):=by
 rw[zG Φ122 (by simp)]
 by_cases h1:e.kind=0<;>by_cases h2:e.op=0<;>by_cases h3:e.name=[]<;>by_cases h4:e.value=0<;>by_cases h5:e.args.l=[]<;>simp[zmH,c122,zi,ze,zd,resV,rvVs,rvV,zau,zV,h1,h2,h3,h4,h5]
end Go.Proofs.YtgamobngbenehaaGreatDoor
end
section
namespace Go.Proofs.YtgamobngbenehaaGreatDoor
open Go Go.RowKit
set_option linter.unusedVariables false
set_option linter.unusedSimpArgs false
set_option maxRecDepth 10000
abbrev bare (s:List UInt8):Pr:=Pr.mk 2 s zaV 0 zaV
theorem v70 (s:List UInt8):W.pure 28 [(So.mk zaV (ofL 5 [bare s])).av]=some (I 0):=(zah 60).pure _ _ _ (by kernel_rfl)
theorem e78 (x:Sl St) (H:Heap):W.call (.clo 62 [] []) [Sl.av St.av 8 x] H=some (.clo 117 [] [.optr H.length 0 0 0],H++[.arr 0 1 false [Sl.av St.av 8 x]]):=by
 rw[zL Φ62]
 simp[fi62,c62,zi,ze,zd,resV,rvVs,rvV,zg, -getElem?_pos,gEz]
end Go.Proofs.YtgamobngbenehaaGreatDoor
end
section
namespace Go.Proofs.YtgamobngbenehaaGreatDoor
open Go Go.RowKit
set_option linter.unusedVariables false
set_option linter.unusedSimpArgs false
set_option maxRecDepth 10000
end Go.Proofs.YtgamobngbenehaaGreatDoor
end
section
namespace Go.Proofs.YtgamobngbenehaaGreatDoor
open Go Go.RowKit
set_option linter.unusedVariables false
set_option linter.unusedSimpArgs false
def all2 {α β:Type} (p:α→β→Bool):List α→List β→Bool
 | [],[]=>true
 |a::r,b::s=>p a b&&all2 p r s
 |_,_=>false
theorem zik {α β:Type} {p:α→β→Bool}:∀{l:List α} {m:List β},all2 p l m=true→l.length=m.length
 | [],[],_=>rfl
 |a::r,b::s,h=>by simp only[all2,Bool.and_eq_true]at h;simp[zik h.2]
 | [],b::s,h=>by simp[all2]at h
 |a::r,[],h=>by simp[all2]at h
theorem all2_ne {α β:Type} {p:α→β→Bool} {l:List α} {m:List β} (h:l.length≠m.length):all2 p l m=false:=by
 cases e:all2 p l m with
 |true=>exact absurd (zik e) h
 |false=>rfl
theorem zjg {α β:Type} {p q:α→β→Bool}:∀{l:List α} {m:List β},(∀a∈l,∀b,p a b=q a b)→all2 p l m=all2 q l m
 | [],[],_=>rfl
 |a::r,b::s,h=>by
  have h1:=zjg (l:=r) (m:=s) (fun x hx=>h x (List.mem_cons_of_mem _ hx))
  simp only[all2,h a List.mem_cons_self,h1]
 | [],b::s,h=>rfl
 |a::r,[],h=>rfl
end Go.Proofs.YtgamobngbenehaaGreatDoor
end
section
namespace Go.Proofs.YtgamobngbenehaaGreatDoor
open Go Go.RowKit
set_option linter.unusedVariables false
set_option linter.unusedSimpArgs false
set_option maxRecDepth 10000
mutual
def St.big:St→Nat| .mk _ _ _ ns es _ _ bl _ _ el _ _ cl=>1+ns.l.length+Ex.sizes es.l+St.bigs bl+St.bigs el+Cs.bigs cl
def St.bigs:List St→Nat| []=>0|x::r=>x.big+St.bigs r
def Cs.big:Cs→Nat| .mk _ _ e ns _ _ bl=>1+ns.l.length+e.size+St.bigs bl
def Cs.bigs:List Cs→Nat| []=>0|x::r=>x.big+Cs.bigs r
end
theorem St.big_eq (x:St):x.big=1+x.names.l.length+Ex.sizes x.exprs.l+St.bigs x.body.l+St.bigs x.els.l+Cs.bigs x.cs.l:=by cases x;simp only[St.big];rfl
theorem Cs.big_eq (x:Cs):x.big=1+x.names.l.length+x.expr.size+St.bigs x.body.l:=by cases x;simp only[Cs.big];rfl
theorem St.bigs_mem {x:St} {l:List St} (h:x∈l):x.big≤St.bigs l:=by
 induction l with
 |nil=>cases h
 |cons a r ih=>
  simp only[St.bigs]
  cases h with
  |head=>omega
  |tail _ h=>have:=ih h;omega
theorem Cs.bigs_mem {x:Cs} {l:List Cs} (h:x∈l):x.big≤Cs.bigs l:=by
 induction l with
 |nil=>cases h
 |cons a r ih=>
  simp only[Cs.bigs]
  cases h with
  |head=>omega
  |tail _ h=>have:=ih h;omega
theorem zq7 (G:Heap) (B C:Blk):(G++[B,C])[G.length+1]?=some C:=by rw[List.getElem?_append_right (by omega)];simp
theorem zpy (G:Heap) (B C D:Blk):(G++[B,C]).set (G.length+1) D=G++[B,D]:=by rw[List.set_append,if_neg (by omega)];simp
theorem zm6 {G:Heap} {n:Nat} {X:Blk} (h:G[n]?=some X) (B C:Blk):(G++[B,C])[n]?=some X:=by
 have:=(gEs.1 h).1
 rw[gEa this];exact h
@[simp] theorem findHole_nil (t:Nat):zj t []=none:=rfl
@[simp] theorem findHole_loop (t:Nat) (a:LoopState) (b:Option LX) (c:Fr) (d:List Nat) (e f:LC) (r:Heap):zj t (.loop a b c d e f::r)=(zj t r).map (·+1):=rfl
end Go.Proofs.YtgamobngbenehaaGreatDoor
end
section
namespace Go.Proofs.YtgamobngbenehaaGreatDoor
open Go Go.RowKit
set_option linter.unusedVariables false
set_option linter.unusedSimpArgs false
set_option maxRecDepth 10000
end Go.Proofs.YtgamobngbenehaaGreatDoor
end
