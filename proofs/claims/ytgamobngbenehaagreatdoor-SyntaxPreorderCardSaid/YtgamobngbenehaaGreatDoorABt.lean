/-
  lexer.Keyword, and syntax.name (conditions: none). combinator.valid: Check of a source with one procedure without parameters and statements (conditions: none). Equality of lists of names and of expressions, in the reference (conditions: none). Loops over two lists at once (conditions: none). Equality of lists of statements, in the reference (conditions: none). Equality of sources, in the reference (conditions: none).
-/
import Derived.Test.YtgamobngbenehaaGreatDoorPret
import Derived.Test.YtgamobngbenehaaGreatDoorPKt
import Derived.Test.YtgamobngbenehaaGreatDoorAAt
section
namespace Go.Proofs.YtgamobngbenehaaGreatDoor
open Go Go.RowKit
set_option linter.unusedVariables false
set_option linter.unusedSimpArgs false
set_option maxRecDepth 10000
theorem zhA:∀(s:List UInt8) (k:Nat),zay s k=true→∀c∈s,c≠32:=by
 intro s
 induction s with
 |nil=>intro k _ c hc;cases hc
 |cons b r ih=>
  intro k h c hc
  simp only[zay,Bool.and_eq_true]at h
  cases hc with
  |head=>
   rintro rfl
   have:=h.1
   by_cases hk:k=0<;>simp[nmI,hk]at this
  |tail _ hc=>exact ih (k+1) h.2 c hc
theorem zgq {s:List UInt8} (h:isNm s=true):∀c∈s,c≠32:=by
 simp only[isNm,Bool.and_eq_true]at h
 exact zhA s 0 h.1.1
theorem zfi:32::zgo zab=[32,97,99,113,117,105,114,101,32,97,100,100,32,97,110,121,32,97,114,114,105,118,101,32,97,115,32,97,115,115,101,114,116,32,97,116,111,109,105,99,32,97,119,97,105,116,32,98,97,114,114,105,101,114,32,98,101,103,105,110,32,98,114,111,97,100,99,97,115,116,32,98,117,100,103,101,116,32,99,97,108,108,32,99,97,110,99,101,108,32,99,104,97,110,110,101,108,32,99,104,101,99,107,112,111,105,110,116,32,99,108,101,97,110,117,112,32,99,108,111,115,101,32,99,111,109,112,108,101,116,101,32,99,111,110,100,32,100,101,97,100,108,105,110,101,32,100,101,102,97,117,108,116,32,100,101,102,101,114,32,101,108,115,101,32,101,109,105,116,32,101,110,100,32,101,118,101,114,121,32,102,97,105,108,32,102,117,110,99,32,102,117,116,117,114,101,32,105,102,32,108,101,116,32,108,105,109,105,116,101,114,32,108,111,99,107,32,109,97,115,107,32,109,117,116,101,120,32,110,101,120,116,32,111,110,32,112,114,105,111,114,105,116,121,32,112,117,98,108,105,115,104,32,114,101,97,100,108,111,99,107,32,114,101,97,100,117,110,108,111,99,107,32,114,101,99,101,105,118,101,32,114,101,108,101,97,115,101,32,114,101,112,101,97,116,32,114,101,116,117,114,110,32,114,119,108,111,99,107,32,115,99,111,112,101,32,115,101,108,101,99,116,32,115,101,109,97,112,104,111,114,101,32,115,101,110,100,32,115,105,103,110,97,108,32,115,108,101,101,112,32,115,112,97,119,110,32,115,117,98,115,99,114,105,98,101,32,115,119,97,112,32,116,97,107,101,32,116,97,115,107,32,116,111,112,105,99,32,116,114,121,97,99,113,117,105,114,101,32,116,114,121,108,111,99,107,32,117,110,108,111,99,107,32,117,110,115,117,98,115,99,114,105,98,101,32,118,97,114,32,119,97,105,116,32,119,104,105,108,101,32,119,114,105,116,101,108,111,99,107,32,119,114,105,116,101,117,110,108,111,99,107,32,121,105,101,108,100,32]:=by rfl
theorem zkY:∀w∈zab,∀c∈w,c≠32:=by decide
theorem e154 (s:List UInt8) (hn:isNm s=true):W.pure 147 [.str s]=some (.bool (decide (s∈zab))):=by
 rw[zu Φ147 rfl]
 have h32:=zgq hn
 have hne:s≠[]:=by rintro rfl;simp[isNm]at hn
 have hl:s.length≤30:=by simp[isNm]at hn;exact hn.2
 have c1:=e164 s [32] (by omega)
 have s1:Lib.contains s [32]=false:=by
  have:=zbK [] s [] h32
  simpa[zb7]using this
 rw[s1]at c1
 have c2:=e164 (32::zgo zab) (32::(s++[32])) (by rw[zfi];simp)
 rw[zcR s h32 zab zkY,zfi]at c2
 have l1:1+s.length≤9223372036854775807:=by omega
 have l2:s.length+1+1≤9223372036854775807:=by omega
 have l3:1+s.length+1≤9223372036854775807:=by omega
 have l4:s.length+1≤9223372036854775807:=by omega
 by_cases hm:s∈zab<;>simp[zlm,c147,zd,zc,zb,resV,rvVs,rvV,zw,hne,c1,c2,hm,l1,l2,l3,l4]
theorem zgL (s:List UInt8):zM (.of 2 0 s 0 za2)=if isNm s=true then 0 else 5:=by
 have h1:(Ex.of 2 0 s 0 za2).size=1:=rfl
 have h2:(Ex.of 2 0 s 0 za2).depth=1:=rfl
 have h3:(Ex.of 2 0 s 0 za2).parts=[Ex.of 2 0 s 0 za2]:=rfl
 unfold zM
 rw[h1,h2,h3]
 cases h:isNm s<;>simp[zD,zV,zaP,h]
theorem e110 (s:List UInt8):W.pure 101 [.str s]=some (.bool (zX s)):=by
 rw[zu Φ101 rfl]
 have c1:=e153 (Ex.of 2 0 s 0 za2)
 rw[zgL,←zxr]at c1
 have e1:(Sl.av Ex.av 5 za2:AV)= .isl (some true) 0 []:=rfl
 rw[e1]at c1
 cases h:isNm s with
 |false=>simp[h]at c1;simp[zlt,c101,zd,zc,zb,resV,rvVs,rvV,c1,zX,h]
 |true=>
  have c2:=e154 s h
  simp[h]at c1
  by_cases hm:s∈zab<;>simp[hm]at c2<;>simp[zlt,c101,zd,zc,zb,resV,rvVs,rvV,c1,c2,zX,h,hm]
theorem e121 (e:Ex):W.pure 122 [e.av]=some (.bool (zP e)):=by
 rw[zu Φ122 (by simp)]
 by_cases h1:e.kind=0<;>by_cases h2:e.op=0<;>by_cases h3:e.name=[]<;>by_cases h4:e.value=0<;>by_cases h5:e.args.l=[]<;>simp[znP,c122,zd,zc,zb,resV,rvVs,rvV,zP,zw,h1,h2,h3,h4,h5]
end Go.Proofs.YtgamobngbenehaaGreatDoor
end
section
namespace Go.Proofs.YtgamobngbenehaaGreatDoor
open Go Go.RowKit
set_option linter.unusedVariables false
set_option linter.unusedSimpArgs false
set_option maxRecDepth 10000
abbrev bare (s:List UInt8):Pr:=Pr.mk 2 s za2 0 za2
theorem v70 (s:List UInt8):W.pure 28 [(So.mk za2 (ofL 5 [bare s])).av]=some (I 0):=(zn 60).pure _ _ _ (by kernel_rfl)
theorem e78 (x:Sl St) (H:Heap):W.call (.clo 62 [] []) [Sl.av St.av 8 x] H=some (.clo 117 [] [.optr H.length 0 0 0],H++[.arr 0 1 false [Sl.av St.av 8 x]]):=by
 rw[zac Φ62]
 simp[fi62,c62,zd,zc,zb,resV,rvVs,rvV,ze, -getElem?_pos,gEz]
end Go.Proofs.YtgamobngbenehaaGreatDoor
end
section
namespace Go.Proofs.YtgamobngbenehaaGreatDoor
open Go Go.RowKit
set_option linter.unusedVariables false
set_option linter.unusedSimpArgs false
set_option maxRecDepth 10000
theorem ztw (x y:Sl (List UInt8)) (hl:x.l.length≤1000000000) (hxy:x.l.length=y.l.length):∀(r s:List (List UInt8)) (k:Nat),x.l.drop k=r→y.l.drop k=s→k≤x.l.length→∀H:Heap,
  okC (W.loop [0,1,5] zpW [(0,Sl.av AV.str 1 x),(1,Sl.av AV.str 1 y),(5,I k)] H) (fun c F' H'=>if r=s then c= .exit 0 else c= .ret∧F'.get 4= .bool false):=by
 intro r
 induction r with
 |nil=>
  intro s k h1 h1' h2 H
  have hk:=zj h1 h2
  have:s=[]:=by rw[←h1',List.drop_eq_nil_iff];omega
  subst this
  rw[zk]
  simp[zhM,zma,zb,hk]
 |cons a r ih=>
  intro s k h1 h1' h2 H
  obtain⟨hlt,ha,hr⟩:=zq h1
  cases s with
  |nil=>exfalso;rw[List.drop_eq_nil_iff]at h1';omega
  |cons b s=>
   obtain⟨hlt2,hb,hs⟩:=zq h1'
   have hak:x.l[k]=a:=(gEs.1 ha).2
   have hbk:y.l[k]=b:=(gEs.1 hb).2
   have hw:=zo (k:=k) (by omega)
   have hJ:=ih s (k+1) hr hs (by omega)
   simp only[Int.natCast_add,Int.cast_ofNat_Int]at hJ
   rw[zk]
   by_cases hab:a=b
   .subst hab
    simp only[List.cons.injEq,true_and]
    simp[zhM,zma,zb,hlt,hlt2,hak,hbk,zw,hw]
    simpa using hJ H
   .simp[zhM,zma,zb,hlt,hlt2,hak,hbk,zw,hab,hw]
theorem e79 (x y:Sl (List UInt8)) (hl:x.l.length≤1000000000):W.pure 35 [Sl.av AV.str 1 x,Sl.av AV.str 1 y]=some (.bool (decide (x.l=y.l))):=by
 rw[zu Φ35 rfl]
 by_cases h:x.l.length=y.l.length
 .have hL:=ztw x y hl h x.l y.l 0 rfl rfl (by omega) []
  simp only[Int.natCast_zero]at hL
  obtain⟨c,F',H',e1,hx⟩:=zh.1 hL
  by_cases he:x.l=y.l
  .rw[if_pos he]at hx
   subst hx
   simp[fi35,c35,zd,zc,zb,resV,rvVs,rvV,h,e1,he]
  .rw[if_neg he]at hx
   obtain⟨rfl,p⟩:=hx
   simp[fi35,c35,zd,zc,zb,resV,rvVs,rvV,h,e1,he,p]
 .have he:x.l≠y.l:=fun e=>h (by rw[e])
  have h':¬(x.l.length:Int)=y.l.length:=by omega
  simp[fi35,c35,zd,zc,zb,resV,rvVs,rvV,h,h',he]
mutual
def Ex.eqv:Ex→Ex→Bool
 | .mk k o n v _ _ l,y=>decide (k=y.kind)&&decide (o=y.op)&&decide (n=y.name)&&decide (v=y.value)&&Ex.eqvs l y.args.l
def Ex.eqvs:List Ex→List Ex→Bool
 | [],[]=>true
 |a::r,b::s=>a.eqv b&&Ex.eqvs r s
 |_,_=>false
end
theorem Ex.eqv_eq (x y:Ex):x.eqv y=(decide (x.kind=y.kind)&&decide (x.op=y.op)&&decide (x.name=y.name)&&decide (x.value=y.value)&&Ex.eqvs x.args.l y.args.l):=by cases x;simp only[Ex.eqv];rfl
theorem Ex.eqvs_len:∀{l m:List Ex},Ex.eqvs l m=true→l.length=m.length
 | [],[],_=>rfl
 |a::r,b::s,h=>by simp only[Ex.eqvs,Bool.and_eq_true]at h;simp[Ex.eqvs_len h.2]
 | [],b::s,h=>by simp[Ex.eqvs]at h
 |a::r,[],h=>by simp[Ex.eqvs]at h
theorem zpA (x y:Ex) (hs:x.size≤1000000000) (hxy:x.args.l.length=y.args.l.length) (ih:∀a∈x.args.l,∀b,W.pure 169 [a.av,b.av]=some (.bool (a.eqv b))):
  ∀(r s:List Ex) (k:Nat),x.args.l.drop k=r→y.args.l.drop k=s→k≤x.args.l.length→
  okC (W.loop [2,3,5] zkB [(2,.optr 0 0 0 0),(3,.optr 1 0 0 0),(5,I k)] [.arr 0 5 false [x.av],.arr 0 5 false [y.av]]) (fun c F' H'=>if Ex.eqvs r s=true then c= .exit 0 else c= .ret∧F'.get 4= .bool false):=by
 have hlen:x.args.l.length≤1000000000:=by have:=Ex.len_sizes x.args.l;rw[Ex.size_eq]at hs;omega
 intro r
 induction r with
 |nil=>
  intro s k h1 h1' h2
  have hk:=zj h1 h2
  have:s=[]:=by rw[←h1',List.drop_eq_nil_iff];omega
  subst this
  rw[zk]
  simp[zft,zg3,zb,hk,Ex.eqvs]
 |cons a r ihr=>
  intro s k h1 h1' h2
  obtain⟨hlt,ha,hr⟩:=zq h1
  cases s with
  |nil=>exfalso;rw[List.drop_eq_nil_iff]at h1';omega
  |cons b s=>
   obtain⟨hlt2,hb,hsr⟩:=zq h1'
   have hak:x.args.l[k]=a:=(gEs.1 ha).2
   have hbk:y.args.l[k]=b:=(gEs.1 hb).2
   have e1:=ih a (zF h1) b
   have hw:=zo (k:=k) (by omega)
   have hJ:=ihr s (k+1) hr hsr (by omega)
   simp only[Int.natCast_add,Int.cast_ofNat_Int]at hJ
   rw[zk]
   cases hab:a.eqv b with
   |true=>
    rw[hab]at e1
    simp only[Ex.eqvs,hab,Bool.true_and]
    simp[zft,zg3,zb,hlt,hlt2,hak,hbk,e1,hw]
    simpa using hJ
   |false=>
    rw[hab]at e1
    simp[zft,zg3,zb,hlt,hlt2,hak,hbk,e1,hw,Ex.eqvs,hab]
set_option maxHeartbeats 4000000 in
theorem e162:∀(x:Ex),x.size≤1000000000→∀y,W.pure 169 [x.av,y.av]=some (.bool (x.eqv y)):=by
 refine Ex.ind (fun x ih=>?_)
 intro hs y
 rw[zu Φ169 (by simp)]
 rw[Ex.eqv_eq]
 by_cases h:x.args.l.length=y.args.l.length
 .have hL:=zpA x y hs h (fun a ha b=>ih a ha (by have:=Ex.mem_size ha;rw[Ex.size_eq]at hs;omega) b) x.args.l y.args.l 0 rfl rfl (by omega)
  simp only[Int.natCast_zero]at hL
  obtain⟨c,F',H',e1,hx⟩:=zh.1 hL
  cases he:Ex.eqvs x.args.l y.args.l with
  |true=>
   rw[he]at hx
   simp only[if_true]at hx
   subst hx
   by_cases h1:x.kind=y.kind<;>by_cases h2:x.op=y.op<;>by_cases h3:x.name=y.name<;>by_cases h4:x.value=y.value<;>simp[zjg,c169,zd,zc,zb,resV,rvVs,rvV,zw,h,h1,h2,h3,h4,e1]
  |false=>
   rw[he]at hx
   simp only[Bool.false_eq_true,if_false]at hx
   obtain⟨rfl,p⟩:=hx
   by_cases h1:x.kind=y.kind<;>by_cases h2:x.op=y.op<;>by_cases h3:x.name=y.name<;>by_cases h4:x.value=y.value<;>simp[zjg,c169,zd,zc,zb,resV,rvVs,rvV,zw,h,h1,h2,h3,h4,e1,p]
 .have he:Ex.eqvs x.args.l y.args.l=false:=by
   cases he:Ex.eqvs x.args.l y.args.l with
   |true=>exact absurd (Ex.eqvs_len he) h
   |false=>rfl
  have h':¬(x.args.l.length:Int)=y.args.l.length:=by omega
  by_cases h1:x.kind=y.kind<;>by_cases h2:x.op=y.op<;>by_cases h3:x.name=y.name<;>by_cases h4:x.value=y.value<;>simp[zjg,c169,zd,zc,zb,resV,rvVs,rvV,zw,h,h',h1,h2,h3,h4,he]
theorem e117 (e:Ex):W.pure 119 [e.av]=some (.bool (zP e)):=by
 rw[zu Φ119 (by simp)]
 have e1:=e160 e
 simp[zlq,c119,zd,zc,zb,resV,rvVs,rvV,e1]
theorem zgK {e:Ex} (h:zM e=0):e.size≤100:=by
 unfold zM at h
 split at h
 .omega
 .omega
def zcx (x y:Ex):Bool:=decide (zM x=0)&&decide (zM y=0)&&x.eqv y
theorem e118 (x y:Ex):W.pure 120 [x.av,y.av]=some (.bool (zcx x y)):=by
 rw[zu Φ120 (by simp)]
 have c1:=e161 x
 have c2:=e161 y
 by_cases h1:zM x=0
 .by_cases h2:zM y=0
  .have c3:=e162 x (by have:=zgK h1;omega) y
   cases h3:x.eqv y<;>rw[h3]at c3<;>simp[zjk,c120,zd,zc,zb,resV,rvVs,rvV,c1,c2,c3,h1,h2,h3,zcx]
  .simp[zjk,c120,zd,zc,zb,resV,rvVs,rvV,c1,c2,h1,h2,zcx]
 .simp[zjk,c120,zd,zc,zb,resV,rvVs,rvV,c1,h1,zcx]
def zaI (x y:Ex):Bool:=(zP x&&zP y)||zcx x y
theorem e80 (x y:Ex):W.pure 63 [x.av,y.av]=some (.bool (zaI x y)):=by
 rw[zu Φ63 (by simp)]
 have c1:=e117 x
 have c2:=e117 y
 have c3:=e118 x y
 cases h1:zP x<;>cases h2:zP y<;>cases h3:zcx x y<;>rw[h1]at c1<;>rw[h2]at c2<;>rw[h3]at c3<;>simp[fi63,c63,zd,zc,zb,resV,rvVs,rvV,c1,c2,c3,zaI,h1,h2,h3]
end Go.Proofs.YtgamobngbenehaaGreatDoor
end
section
namespace Go.Proofs.YtgamobngbenehaaGreatDoor
open Go Go.RowKit
set_option linter.unusedVariables false
set_option linter.unusedSimpArgs false
def all2 {α β:Type} (p:α→β→Bool):List α→List β→Bool
 | [],[]=>true
 |a::r,b::s=>p a b&&all2 p r s
 |_,_=>false
theorem ziK {α β:Type} {p:α→β→Bool}:∀{l:List α} {m:List β},all2 p l m=true→l.length=m.length
 | [],[],_=>rfl
 |a::r,b::s,h=>by simp only[all2,Bool.and_eq_true]at h;simp[ziK h.2]
 | [],b::s,h=>by simp[all2]at h
 |a::r,[],h=>by simp[all2]at h
theorem zhX {α β:Type} {p:α→β→Bool} {l:List α} {m:List β} (h:l.length≠m.length):all2 p l m=false:=by
 cases e:all2 p l m with
 |true=>exact absurd (ziK e) h
 |false=>rfl
theorem zjD {α β:Type} {p q:α→β→Bool}:∀{l:List α} {m:List β},(∀a∈l,∀b,p a b=q a b)→all2 p l m=all2 q l m
 | [],[],_=>rfl
 |a::r,b::s,h=>by
  have h1:=zjD (l:=r) (m:=s) (fun x hx=>h x (List.mem_cons_of_mem _ hx))
  simp only[all2,h a List.mem_cons_self,h1]
 | [],b::s,h=>rfl
 |a::r,[],h=>rfl
theorem zgy {α β:Type} (p:α→β→Bool):∀(l:List α) (m:List β) (k:Nat),l.length=m.length→
  zco (fun _ (ab:α×β) (_:Unit)=>if p ab.1 ab.2=true then .inl () else (.inr ():Unit⊕Unit)) k (l.zip m) ()=if all2 p l m=true then .inl () else .inr ()
 | [],[],k,_=>rfl
 |a::r,b::s,k,h=>by
  simp only[List.zip_cons_cons,zco,all2]
  by_cases hp:p a b=true
  .simpa[hp]using zgy p r s (k+1) (by simpa using h)
  .simp[hp]
 | [],b::s,_,h=>by simp at h
 |a::r,[],_,h=>by simp at h
theorem zfh {Φ:FuncId→Option FI} {live:List Nat} {L:LC} {α β:Type} (l:List α) (m:List β) (hlm:l.length=m.length) (p:α→β→Bool) (P:Nat→Fr→Heap→Prop) (Q:LX→Fr→Heap→Prop) (E:LX→Fr→Heap→Prop) {F:Fr} {H:Heap} (hp:P 0 F H)
  (hs:∀k a b F H,k<l.length→l[k]?=some a→m[k]?=some b→P k F H→okC (evC (om Φ) L (F.keep live) H) (fun x F' H'=>if p a b=true then x= .normal∧P (k+1) (F'.keep live) H' else x≠.normal∧Q x F' H'))
  (he:∀F H,P l.length F H→okC (evC (om Φ) L (F.keep live) H) (fun x F' H'=>x≠.normal∧E x F' H')):
  okC ((om Φ).loop live L F H) (fun x F' H'=>if all2 p l m=true then E x F' H' else Q x F' H'):=by
 have hz:(l.zip m).length=l.length:=by simp[List.length_zip];omega
 have h:=zai (Φ:=Φ) (live:=live) (L:=L) (l.zip m) (fun _ (ab:α×β) (_:Unit)=>if p ab.1 ab.2=true then .inl () else (.inr ():Unit⊕Unit)) (fun k _ F H=>P k F H) (fun _=>Q) (fun _=>E) (s:=()) hp
  (fun k ab s F H hk hab hP=>by
   obtain⟨a,b⟩:=ab
   rw[List.getElem?_zip_eq_some]at hab
   obtain⟨x,F',H',e1,e2⟩:=zh.1 (hs k a b F H (by omega) hab.1 hab.2 hP)
   rw[e1]
   simp only[zik]
   cases hpab:p a b with
   |true=>rw[hpab]at e2;simpa using e2
   |false=>rw[hpab]at e2;simpa using e2)
  (fun s F H hP=>he F H (by rw[hz]at hP;exact hP))
 rw[zgy p l m 0 hlm]at h
 cases ha:all2 p l m with
 |true=>rw[ha,if_pos rfl]at h;simp only[if_true];exact h
 |false=>rw[ha,if_neg (by simp)]at h;simp only[Bool.false_eq_true,if_false];exact h
end Go.Proofs.YtgamobngbenehaaGreatDoor
end
section
namespace Go.Proofs.YtgamobngbenehaaGreatDoor
open Go Go.RowKit
set_option linter.unusedVariables false
set_option linter.unusedSimpArgs false
set_option maxRecDepth 10000
mutual
def St.big:St→Nat| .mk _ _ _ ns es _ _ bl _ _ el _ _ cl=>1+ns.l.length+Ex.sizes es.l+St.bigs bl+St.bigs el+Cs.bigs cl
def St.bigs:List St→Nat| []=>0|x::r=>x.big+St.bigs r
def Cs.big:Cs→Nat| .mk _ _ e ns _ _ bl=>1+ns.l.length+e.size+St.bigs bl
def Cs.bigs:List Cs→Nat| []=>0|x::r=>x.big+Cs.bigs r
end
theorem St.big_eq (x:St):x.big=1+x.names.l.length+Ex.sizes x.exprs.l+St.bigs x.body.l+St.bigs x.els.l+Cs.bigs x.cs.l:=by cases x;simp only[St.big];rfl
theorem Cs.big_eq (x:Cs):x.big=1+x.names.l.length+x.expr.size+St.bigs x.body.l:=by cases x;simp only[Cs.big];rfl
theorem St.bigs_mem {x:St} {l:List St} (h:x∈l):x.big≤St.bigs l:=by
 induction l with
 |nil=>cases h
 |cons a r ih=>
  simp only[St.bigs]
  cases h with
  |head=>omega
  |tail _ h=>have:=ih h;omega
theorem Cs.bigs_mem {x:Cs} {l:List Cs} (h:x∈l):x.big≤Cs.bigs l:=by
 induction l with
 |nil=>cases h
 |cons a r ih=>
  simp only[Cs.bigs]
  cases h with
  |head=>omega
  |tail _ h=>have:=ih h;omega
theorem St.len_bigs (l:List St):l.length≤St.bigs l:=by
 induction l with
 |nil=>simp
 |cons a r ih=>have:=a.big_eq;simp only[List.length_cons,St.bigs];omega
theorem Cs.len_bigs (l:List Cs):l.length≤Cs.bigs l:=by
 induction l with
 |nil=>simp
 |cons a r ih=>have:=a.big_eq;simp only[List.length_cons,Cs.bigs];omega
mutual
def St.eqv:St→St→Bool
 | .mk k o n ns es _ _ bl _ _ el _ _ cl,y=>decide (k=y.kind)&&decide (o=y.op)&&decide (n=y.name)&&decide (ns.l=y.names.l)&&all2 zaI es.l y.exprs.l&&St.eqvs bl y.body.l&&St.eqvs el y.els.l&&Cs.eqvs cl y.cs.l
def St.eqvs:List St→List St→Bool
 | [],[]=>true
 |a::r,b::s=>a.eqv b&&St.eqvs r s
 |_,_=>false
def Cs.eqv:Cs→Cs→Bool
 | .mk k n e ns _ _ bl,d=>decide (k=d.kind)&&decide (n=d.name)&&zaI e d.expr&&decide (ns.l=d.names.l)&&St.eqvs bl d.body.l
def Cs.eqvs:List Cs→List Cs→Bool
 | [],[]=>true
 |a::r,b::s=>a.eqv b&&Cs.eqvs r s
 |_,_=>false
end
theorem St.eqv_eq (x y:St):x.eqv y=(decide (x.kind=y.kind)&&decide (x.op=y.op)&&decide (x.name=y.name)&&decide (x.names.l=y.names.l)&&all2 zaI x.exprs.l y.exprs.l&&St.eqvs x.body.l y.body.l&&St.eqvs x.els.l y.els.l&&Cs.eqvs x.cs.l y.cs.l):=by cases x;simp only[St.eqv];rfl
theorem Cs.eqv_eq (x y:Cs):x.eqv y=(decide (x.kind=y.kind)&&decide (x.name=y.name)&&zaI x.expr y.expr&&decide (x.names.l=y.names.l)&&St.eqvs x.body.l y.body.l):=by cases x;simp only[Cs.eqv];rfl
theorem St.eqvs_all2:∀(l m:List St),St.eqvs l m=all2 St.eqv l m
 | [],[]=>by simp only[St.eqvs,all2]
 |a::r,b::s=>by simp only[St.eqvs,all2,St.eqvs_all2 r s]
 | [],b::s=>by simp only[St.eqvs,all2]
 |a::r,[]=>by simp only[St.eqvs,all2]
theorem Cs.eqvs_all2:∀(l m:List Cs),Cs.eqvs l m=all2 Cs.eqv l m
 | [],[]=>by simp only[Cs.eqvs,all2]
 |a::r,b::s=>by simp only[Cs.eqvs,all2,Cs.eqvs_all2 r s]
 | [],b::s=>by simp only[Cs.eqvs,all2]
 |a::r,[]=>by simp only[Cs.eqvs,all2]
abbrev bSt (x:St):Blk:= .arr 0 8 false [x.av]
theorem znd (a b:Sl St) (k n m:Nat) (x y:St) (hx:x.exprs.l.length≤1000000000) (hxy:x.exprs.l.length=y.exprs.l.length) (H:Heap) (h1:H[n]?=some (bSt x)) (h2:H[m]?=some (bSt y)):
  okC (W.loop [0,1,5,6,7,8] znq [(0,Sl.av St.av 8 a),(1,Sl.av St.av 8 b),(5,I k),(6,.optr n 0 0 0),(7,.optr m 0 0 0),(8,I 0)] H)
   (fun c F' H'=>if all2 zaI x.exprs.l y.exprs.l=true then c= .exit 2∧F'.keep [0,1,5,6,7]=[(0,Sl.av St.av 8 a),(1,Sl.av St.av 8 b),(5,I k),(6,.optr n 0 0 0),(7,.optr m 0 0 0)]∧H'=H else c= .ret∧F'.get 4= .bool false):=by
 refine zfh (live:=[0,1,5,6,7,8]) (L:=znq) x.exprs.l y.exprs.l hxy zaI (fun j F H'=>H'=H∧F=[(0,Sl.av St.av 8 a),(1,Sl.av St.av 8 b),(5,I k),(6,.optr n 0 0 0),(7,.optr m 0 0 0),(8,I j)]) _ _ ⟨rfl,rfl⟩ ?_ ?_
 .rintro j e f F G hj he hf ⟨rfl,rfl⟩
  have hj2:j<y.exprs.l.length:=by omega
  have hej:x.exprs.l[j]=e:=(gEs.1 he).2
  have hfj:y.exprs.l[j]=f:=(gEs.1 hf).2
  have hw:=zo (k:=j) (by omega)
  have e1:=e80 e f
  cases hs:zaI e f with
  |true=>rw[hs]at e1;simp[zhO,zmc,zb,h1,h2,hj,hj2,hej,hfj,e1,hw]
  |false=>rw[hs]at e1;simp[zhO,zmc,zb,h1,h2,hj,hj2,hej,hfj,e1,hw]
 .rintro F G ⟨rfl,rfl⟩
  simp[zhO,zmc,zb,h1]
theorem zbs (G:Heap) (B C:Blk):(G++[B,C])[G.length]?=some B:=by rw[List.getElem?_append_right (by omega)];simp
theorem zbj (G:Heap) (B C:Blk):(G++[B,C])[G.length+1]?=some C:=by rw[List.getElem?_append_right (by omega)];simp
theorem za4 (G:Heap) (B C D:Blk):(G++[B,C]).set G.length D=G++[D,C]:=by rw[List.set_append,if_neg (by omega)];simp
theorem zaT (G:Heap) (B C D:Blk):(G++[B,C]).set (G.length+1) D=G++[B,D]:=by rw[List.set_append,if_neg (by omega)];simp
theorem zfM {G:Heap} {n:Nat} {X:Blk} (h:G[n]?=some X) (B C:Blk):(G++[B,C])[n]?=some X:=by
 have:=(gEs.1 h).1
 rw[gEa this];exact h
theorem zbQ (G:Heap) (B D:Blk):(G++[B]).set G.length D=G++[D]:=by rw[List.set_append,if_neg (by omega)];simp
@[simp] theorem findHole_nil (t:Nat):zi t []=none:=rfl
@[simp] theorem findHole_loop (t:Nat) (a:LoopState) (b:Option LX) (c:Fr) (d:List Nat) (e f:LC) (r:Heap):zi t (.loop a b c d e f::r)=(zi t r).map (·+1):=rfl
theorem zfl {t:Nat}:∀{G:Heap},zi t G=none→∀l:Heap,zi t (G++l)=(zi t l).map (·+G.length)
 | [],_,l=>by cases h:zi t l<;>simp[h]
 |B::r,h,l=>by
  have key:(zi t r).map (·+1)=none→(zi t (r++l)).map (·+1)=(zi t l).map (·+(B::r).length):=fun h=>by
   have h1:zi t r=none:=by simpa using h
   rw[zfl h1 l]
   cases zi t l<;>simp;omega
  cases B with
  |hole u=>
   simp only[zi,List.cons_append]at h⊢
   split at h
   .cases h
   .rename_i hu;rw[if_neg hu];exact key h
  |_=>simp only[zi,List.cons_append]at h⊢;exact key h
set_option maxHeartbeats 4000000 in
theorem zne (a b:Sl St) (k n m:Nat) (x y:St) (hx:Cs.bigs x.cs.l≤1000000000) (hxy:x.cs.l.length=y.cs.l.length) (ih:∀c∈x.cs.l,∀z:Sl St,W.pure 26 [Sl.av St.av 8 c.body,Sl.av St.av 8 z]=some (.bool (St.eqvs c.body.l z.l))) (H:Heap) (h1:H[n]?=some (bSt x)) (h2:H[m]?=some (bSt y)) (h3:zi 0 H=none):
  okC (W.loop [0,1,5,6,7,9] znr [(0,Sl.av St.av 8 a),(1,Sl.av St.av 8 b),(5,I k),(6,.optr n 0 0 0),(7,.optr m 0 0 0),(9,I 0)] H)
   (fun c F' H'=>if all2 Cs.eqv x.cs.l y.cs.l=true then c= .exit 4∧F'.keep [0,1,5]=[(0,Sl.av St.av 8 a),(1,Sl.av St.av 8 b),(5,I k)]∧zi 0 H'=none else c= .ret∧F'.get 4= .bool false):=by
 have hlen:=Cs.len_bigs x.cs.l
 refine zfh (live:=[0,1,5,6,7,9]) (L:=znr) x.cs.l y.cs.l hxy Cs.eqv (fun j F G=>F=[(0,Sl.av St.av 8 a),(1,Sl.av St.av 8 b),(5,I k),(6,.optr n 0 0 0),(7,.optr m 0 0 0),(9,I j)]∧G[n]?=some (bSt x)∧G[m]?=some (bSt y)∧zi 0 G=none) _ _ ⟨rfl,h1,h2,h3⟩ ?_ ?_
 .rintro j c d F G hj hc hd ⟨rfl,g1,g2,g3⟩
  have hj2:j<y.cs.l.length:=by omega
  have hcj:x.cs.l[j]=c:=(gEs.1 hc).2
  have hdj:y.cs.l[j]=d:=(gEs.1 hd).2
  have hmem:c∈x.cs.l:=List.mem_of_getElem? hc
  have hbig:=Cs.bigs_mem hmem
  rw[Cs.big_eq]at hbig
  have hw:=zo (k:=j) (by omega)
  have e1:=e80 c.expr d.expr
  have e2:=e79 c.names d.names (by omega)
  have e3:=ih c hmem d.body
  have p1:∀B C,(G++[B,C])[n]?=some (bSt x):=zfM g1
  have p2:∀B C,(G++[B,C])[m]?=some (bSt y):=zfM g2
  have p3:∀B,(G++[B])[n]?=some (bSt x):=zt g1
  have p4:∀B,(G++[B])[m]?=some (bSt y):=zt g2
  have g4:=zfl g3
  have x1:apart (.optr G.length 0 0 0) (.optr m 0 0 7)=true:=by
   have:=(gEs.1 g2).1
   simp[apart];omega
  have x2:apart (.optr G.length 0 0 0) (Sl.av Cs.av 9 y.cs)=true:=rfl
  have x3:∀l,apart (.optr G.length 0 0 0) (.eptr l)=true:=fun _=>rfl
  simp only[bSt]at g1 g2 p1 p2 p3 p4⊢
  rw[Cs.eqv_eq]
  by_cases q1:c.kind=d.kind<;>by_cases q2:c.name=d.name<;>by_cases q4:c.names.l=d.names.l<;>cases q3:zaI c.expr d.expr<;>cases q5:St.eqvs c.body.l d.body.l<;>rw[q3]at e1<;>rw[q5]at e3<;>
   simp[zlI,zog,zb,g1,g2,p1,p2,p3,p4,g4,x1,x2,x3,zbQ,hj,hj2,hc,hd,e1,e2,e3,hw,q1,q2,q3,q4,q5,zw,zbs,zbj,za4,zaT, -getElem?_pos,gEz]
 .rintro F G ⟨rfl,g1,g2,g3⟩
  simp only[bSt]at g1 g2
  simp[zlI,zog,zb,g1,g3]
set_option maxHeartbeats 8000000 in
theorem znc (a b:Sl St) (ha:St.bigs a.l≤1000000000) (hab:a.l.length=b.l.length) (ih:∀v:Sl St,St.bigs v.l<St.bigs a.l→∀z:Sl St,W.pure 26 [Sl.av St.av 8 v,Sl.av St.av 8 z]=some (.bool (St.eqvs v.l z.l))):
  okC (W.loop [0,1,5] znp [(0,Sl.av St.av 8 a),(1,Sl.av St.av 8 b),(5,I 0)] [])
   (fun c F' H'=>if all2 St.eqv a.l b.l=true then c= .exit 0 else c= .ret∧F'.get 4= .bool false):=by
 have hlen:=St.len_bigs a.l
 refine zfh (live:=[0,1,5]) (L:=znp) a.l b.l hab St.eqv (fun j F G=>F=[(0,Sl.av St.av 8 a),(1,Sl.av St.av 8 b),(5,I j)]∧zi 0 G=none) _ _ ⟨rfl,rfl⟩ ?_ ?_
 .rintro j x y F G hj hc hd ⟨rfl,g3⟩
  have hj2:j<b.l.length:=by omega
  have hmem:x∈a.l:=List.mem_of_getElem? hc
  have hbig:=St.bigs_mem hmem
  rw[St.big_eq]at hbig
  have hel:=Ex.len_sizes x.exprs.l
  have hcl:=Cs.len_bigs x.cs.l
  have hw:=zo (k:=j) (by omega)
  have e2:=e79 x.names y.names (by omega)
  have e3:=ih x.body (by omega) y.body
  have e4:=ih x.els (by omega) y.els
  have g4:=zfl g3
  have x2:apart (.optr G.length 0 0 0) (Sl.av St.av 8 b)=true:=rfl
  have x3:∀l,apart (.optr G.length 0 0 0) (.eptr l)=true:=fun _=>rfl
  rw[St.eqv_eq]
  by_cases q1:x.kind=y.kind
  rotate_left
  .simp[za3,zcV,zb,g4,x2,x3,zbQ,hj,hj2,hc,hd,e2,e3,e4,hw,zw,zbs,zbj,za4,zaT, -getElem?_pos,gEz,q1]
  by_cases q2:x.op=y.op
  rotate_left
  .simp[za3,zcV,zb,g4,x2,x3,zbQ,hj,hj2,hc,hd,e2,e3,e4,hw,zw,zbs,zbj,za4,zaT, -getElem?_pos,gEz,q1,q2]
  by_cases q3:x.name=y.name
  rotate_left
  .simp[za3,zcV,zb,g4,x2,x3,zbQ,hj,hj2,hc,hd,e2,e3,e4,hw,zw,zbs,zbj,za4,zaT, -getElem?_pos,gEz,q1,q2,q3]
  by_cases q4:x.names.l=y.names.l
  rotate_left
  .simp[za3,zcV,zb,g4,x2,x3,zbQ,hj,hj2,hc,hd,e2,e3,e4,hw,zw,zbs,zbj,za4,zaT, -getElem?_pos,gEz,q1,q2,q3,q4]
  by_cases q5:x.exprs.l.length=y.exprs.l.length
  rotate_left
  .have q5':¬(x.exprs.l.length:Int)=y.exprs.l.length:=by omega
   simp[za3,zcV,zb,g4,x2,x3,zbQ,hj,hj2,hc,hd,e2,e3,e4,hw,zw,zbs,zbj,za4,zaT, -getElem?_pos,gEz,q1,q2,q3,q4,q5,q5',zhX q5]
  by_cases q6:x.cs.l.length=y.cs.l.length
  rotate_left
  .have q6':¬(x.cs.l.length:Int)=y.cs.l.length:=by omega
   have q7:Cs.eqvs x.cs.l y.cs.l=false:=by rw[Cs.eqvs_all2];exact zhX q6
   simp[za3,zcV,zb,g4,x2,x3,zbQ,hj,hj2,hc,hd,e2,e3,e4,hw,zw,zbs,zbj,za4,zaT, -getElem?_pos,gEz,q1,q2,q3,q4,q5,q6,q6',q7]
  cases q7:St.eqvs x.body.l y.body.l with
  |false=>rw[q7]at e3;simp[za3,zcV,zb,g4,x2,x3,zbQ,hj,hj2,hc,hd,e2,e3,e4,hw,zw,zbs,zbj,za4,zaT, -getElem?_pos,gEz,q1,q2,q3,q4,q5,q6,q7]
  |true=>
  rw[q7]at e3
  cases q8:St.eqvs x.els.l y.els.l with
  |false=>rw[q8]at e4;simp[za3,zcV,zb,g4,x2,x3,zbQ,hj,hj2,hc,hd,e2,e3,e4,hw,zw,zbs,zbj,za4,zaT, -getElem?_pos,gEz,q1,q2,q3,q4,q5,q6,q7,q8]
  |true=>
  rw[q8]at e4
  have i1:=znd a b j G.length (G.length+1) x y (by omega) q5 (G++[bSt x,bSt y]) (zbs _ _ _) (zbj _ _ _)
  obtain⟨c1,F1,H1,f1,f2⟩:=zh.1 i1
  simp only[bSt]at f1 f2
  cases q9:all2 zaI x.exprs.l y.exprs.l with
  |false=>
   rw[q9]at f2
   simp only[Bool.false_eq_true,if_false]at f2
   obtain⟨rfl,f3⟩:=f2
   simp[za3,zcV,zb,g4,x2,x3,zbQ,hj,hj2,hc,hd,e2,e3,e4,hw,zw,zbs,zbj,za4,zaT, -getElem?_pos,gEz,q1,q2,q3,q4,q5,q6,q7,q8,q9,f1,f3]
  |true=>
  rw[q9]at f2
  simp only[if_true]at f2
  obtain⟨rfl,f3,rfl⟩:=f2
  have i2:=zne a b j G.length (G.length+1) x y (by omega) q6 (fun c hc z=>ih c.body (by have:=Cs.bigs_mem hc;rw[Cs.big_eq]at this;omega) z) (G++[bSt x,bSt y]) (zbs _ _ _) (zbj _ _ _) (by rw[g4];rfl)
  obtain⟨c2,F2,H2,f4,f5⟩:=zh.1 i2
  simp only[bSt]at f4 f5
  rw[Cs.eqvs_all2]
  cases q10:all2 Cs.eqv x.cs.l y.cs.l with
  |false=>
   rw[q10]at f5
   simp only[Bool.false_eq_true,if_false]at f5
   obtain⟨rfl,f6⟩:=f5
   simp[za3,zcV,zb,g4,x2,x3,zbQ,hj,hj2,hc,hd,e2,e3,e4,hw,zw,zbs,zbj,za4,zaT, -getElem?_pos,gEz,q1,q2,q3,q4,q5,q6,q7,q8,q9,q10,f1,f3,f4,f6]
  |true=>
   rw[q10]at f5
   simp only[if_true]at f5
   obtain⟨rfl,f6,f7⟩:=f5
   simp[za3,zcV,zb,g4,x2,x3,zbQ,hj,hj2,hc,hd,e2,e3,e4,hw,zw,zbs,zbj,za4,zaT, -getElem?_pos,gEz,q1,q2,q3,q4,q5,q6,q7,q8,q9,q10,f1,f3,f4,f6,f7]
 .rintro F G ⟨rfl,g3⟩
  simp[za3,zcV,zb,hab]
theorem e31:∀(n:Nat) (a:Sl St),St.bigs a.l≤n→n≤1000000000→∀b:Sl St,W.pure 26 [Sl.av St.av 8 a,Sl.av St.av 8 b]=some (.bool (St.eqvs a.l b.l)):=by
 intro n
 induction n using Nat.strongRecOn with
 |ind n ihn=>
  intro a ha hn b
  rw[zu Φ26 rfl,St.eqvs_all2]
  by_cases hab:a.l.length=b.l.length
  .have hL:=znc a b (by omega) hab (fun v hv z=>ihn (St.bigs v.l) (by omega) v (by omega) (by omega) z)
   obtain⟨c,F',H',e1,hx⟩:=zh.1 hL
   cases he:all2 St.eqv a.l b.l with
   |true=>
    rw[he]at hx
    simp only[if_true]at hx
    subst hx
    simp[fi26,c26,zd,zc,zb,resV,rvVs,rvV,hab,e1]
   |false=>
    rw[he]at hx
    simp only[Bool.false_eq_true,if_false]at hx
    obtain⟨rfl,p⟩:=hx
    simp[fi26,c26,zd,zc,zb,resV,rvVs,rvV,hab,e1,p]
  .have h':¬(a.l.length:Int)=b.l.length:=by omega
   rw[zhX hab]
   simp[fi26,c26,zd,zc,zb,resV,rvVs,rvV,h']
end Go.Proofs.YtgamobngbenehaaGreatDoor
end
section
namespace Go.Proofs.YtgamobngbenehaaGreatDoor
open Go Go.RowKit
set_option linter.unusedVariables false
set_option linter.unusedSimpArgs false
set_option maxRecDepth 10000
end Go.Proofs.YtgamobngbenehaaGreatDoor
end
