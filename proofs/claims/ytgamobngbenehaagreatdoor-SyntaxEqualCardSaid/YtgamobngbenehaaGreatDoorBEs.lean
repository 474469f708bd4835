/-
  Equal lists, by a function on their elements (conditions: none). expr.Equal, and equal statements (conditions: none). syntax.Equal (conditions: none). What is valid is equal to itself; parts of what is valid are valid (conditions: none). Arguments with statements in them, read (conditions: none).
-/
import Derived.Test.YtgamobngbenehaaGreatDoorABs
import Derived.Test.YtgamobngbenehaaGreatDoorBBs
section
namespace Go.Proofs.YtgamobngbenehaaGreatDoor
open Go Go.RowKit
set_option linter.unusedVariables false
set_option linter.unusedSimpArgs false
set_option maxRecDepth 10000
theorem zoN (x y:Sl Ex) (hl:x.l.length≤9223372036854775807) (f:AV) (hf:okO f=some f) (p:Ex→Ex→Bool) (H0:Heap)
  (hp:∀a∈x.l,∀b∈y.l,∀H,Kept none H0 H→okV (W.call f [a.av,b.av] H) (fun v H'=>v= .bool (p a b)∧Kept none H H')):
  okV (W.call (.clo 128 [] []) [Sl.av Ex.av 5 x,Sl.av Ex.av 5 y,f] H0) (fun v H'=>v= .bool (all2 p x.l y.l)∧Kept none H0 H'):=by
 rw[zQ Φ128]
 by_cases hxy:x.l.length=y.l.length
 .have hL:=zaK (Φ:=Φ) (live:=[1,2,15,16,17]) (L:=zkS) x.l y.l hxy p (fun j F G=>F=[(1,Sl.av Ex.av 5 y),(2,f),(15,Sl.av Ex.av 5 x),(16,I x.l.length),(17,I j)]∧Kept none H0 G)
   (fun c F G=>c= .ret∧F.get 6= .bool false∧Kept none H0 G) (fun c F G=>c= .exit 0∧Kept none H0 G) (F:=[(1,Sl.av Ex.av 5 y),(2,f),(15,Sl.av Ex.av 5 x),(16,I x.l.length),(17,I 0)]) (H:=H0) ⟨rfl,Kept.refl _ _⟩ ?_ ?_
  .obtain⟨c,F',H',e1,hx⟩:=zj.1 hL
   cases he:all2 p x.l y.l with
   |true=>
    rw[he]at hx
    simp only[if_true]at hx
    obtain⟨rfl,hk⟩:=hx
    simp[zjl,c128,zd,zc,za,resV,rvVs,rvV,hf,hxy,e1]
    rw[hxy]at e1
    simp[e1,hk]
   |false=>
    rw[he]at hx
    simp only[Bool.false_eq_true,if_false]at hx
    obtain⟨rfl,hg,hk⟩:=hx
    simp[zjl,c128,zd,zc,za,resV,rvVs,rvV,hf,hxy,e1]
    rw[hxy]at e1
    simp[e1,hk,hg]
  .rintro j a b F G hj ha hb ⟨rfl,hk⟩
   have hj2:j<y.l.length:=by omega
   have hj':(j:Int)<x.l.length:=by omega
   have hw:IntKind.wrap .i64 ((j:Int)+1)=(j:Int)+1:=by rw[zM]<;>omega
   obtain⟨v,H',c1,rfl,c2⟩:=zw.1 (hp a (List.mem_of_getElem? ha) b (List.mem_of_getElem? hb) (G++[.arr 0 5 false [a.av],.arr 0 5 false [b.av]]) (hk.trans (Kept.append _ _ _)))
   have k2:Kept none H0 H':=hk.trans ((Kept.append _ _ _).trans c2)
   cases hpab:p a b with
   |true=>
    rw[hpab]at c1
    simp[zfy,zhb,za,hf,hj,hj2,hj',ha,hb,hw,c1,k2,zaq,zK,zF,zz,zx,zh, -getElem?_pos,gEz]
   |false=>
    rw[hpab]at c1
    simp[zfy,zhb,za,hf,hj,hj2,hj',ha,hb,hw,c1,k2,zaq,zK,zF,zz,zx,zh, -getElem?_pos,gEz]
  .rintro F G ⟨rfl,hk⟩
   simp[zfy,zhb,za,hf,hk]
 .have h':¬(x.l.length:Int)=y.l.length:=by omega
  rw[zbm hxy]
  simp[zjl,c128,zd,zc,za,resV,rvVs,rvV,hf,h',Kept.refl]
theorem zw9 (x y:Sl Pr) (hl:x.l.length≤9223372036854775807) (f:AV) (hf:okO f=some f) (p:Pr→Pr→Bool) (H0:Heap)
  (hp:∀a∈x.l,∀b∈y.l,∀H,Kept none H0 H→okV (W.call f [a.av,b.av] H) (fun v H'=>v= .bool (p a b)∧Kept none H H')):
  okV (W.call (.clo 67 [] []) [Sl.av Pr.av 5 x,Sl.av Pr.av 5 y,f] H0) (fun v H'=>v= .bool (all2 p x.l y.l)∧Kept none H0 H'):=by
 rw[zQ Φ67]
 by_cases hxy:x.l.length=y.l.length
 .have hL:=zaK (Φ:=Φ) (live:=[1,2,15,16,17]) (L:=zpJ) x.l y.l hxy p (fun j F G=>F=[(1,Sl.av Pr.av 5 y),(2,f),(15,Sl.av Pr.av 5 x),(16,I x.l.length),(17,I j)]∧Kept none H0 G)
   (fun c F G=>c= .ret∧F.get 6= .bool false∧Kept none H0 G) (fun c F G=>c= .exit 0∧Kept none H0 G) (F:=[(1,Sl.av Pr.av 5 y),(2,f),(15,Sl.av Pr.av 5 x),(16,I x.l.length),(17,I 0)]) (H:=H0) ⟨rfl,Kept.refl _ _⟩ ?_ ?_
  .obtain⟨c,F',H',e1,hx⟩:=zj.1 hL
   cases he:all2 p x.l y.l with
   |true=>
    rw[he]at hx
    simp only[if_true]at hx
    obtain⟨rfl,hk⟩:=hx
    simp[fi67,c67,zd,zc,za,resV,rvVs,rvV,hf,hxy,e1]
    rw[hxy]at e1
    simp[e1,hk]
   |false=>
    rw[he]at hx
    simp only[Bool.false_eq_true,if_false]at hx
    obtain⟨rfl,hg,hk⟩:=hx
    simp[fi67,c67,zd,zc,za,resV,rvVs,rvV,hf,hxy,e1]
    rw[hxy]at e1
    simp[e1,hk,hg]
  .rintro j a b F G hj ha hb ⟨rfl,hk⟩
   have hj2:j<y.l.length:=by omega
   have hj':(j:Int)<x.l.length:=by omega
   have hw:IntKind.wrap .i64 ((j:Int)+1)=(j:Int)+1:=by rw[zM]<;>omega
   obtain⟨v,H',c1,rfl,c2⟩:=zw.1 (hp a (List.mem_of_getElem? ha) b (List.mem_of_getElem? hb) (G++[.arr 0 5 false [a.av],.arr 0 5 false [b.av]]) (hk.trans (Kept.append _ _ _)))
   have k2:Kept none H0 H':=hk.trans ((Kept.append _ _ _).trans c2)
   cases hpab:p a b with
   |true=>
    rw[hpab]at c1
    simp[zhN,zl8,za,hf,hj,hj2,hj',ha,hb,hw,c1,k2,zaq,zK,zF,zz,zx,zh, -getElem?_pos,gEz]
   |false=>
    rw[hpab]at c1
    simp[zhN,zl8,za,hf,hj,hj2,hj',ha,hb,hw,c1,k2,zaq,zK,zF,zz,zx,zh, -getElem?_pos,gEz]
  .rintro F G ⟨rfl,hk⟩
   simp[zhN,zl8,za,hf,hk]
 .have h':¬(x.l.length:Int)=y.l.length:=by omega
  rw[zbm hxy]
  simp[fi67,c67,zd,zc,za,resV,rvVs,rvV,hf,h',Kept.refl]
theorem zur (x y:Sl St) (hl:x.l.length≤9223372036854775807) (f:AV) (hf:okO f=some f) (p:St→St→Bool) (H0:Heap)
  (hp:∀a∈x.l,∀b∈y.l,∀H,Kept none H0 H→okV (W.call f [a.av,b.av] H) (fun v H'=>v= .bool (p a b)∧Kept none H H')):
  okV (W.call (.clo 126 [] []) [Sl.av St.av 8 x,Sl.av St.av 8 y,f] H0) (fun v H'=>v= .bool (all2 p x.l y.l)∧Kept none H0 H'):=by
 rw[zQ Φ126]
 by_cases hxy:x.l.length=y.l.length
 .have hL:=zaK (Φ:=Φ) (live:=[1,2,15,16,17]) (L:=zkT) x.l y.l hxy p (fun j F G=>F=[(1,Sl.av St.av 8 y),(2,f),(15,Sl.av St.av 8 x),(16,I x.l.length),(17,I j)]∧Kept none H0 G)
   (fun c F G=>c= .ret∧F.get 6= .bool false∧Kept none H0 G) (fun c F G=>c= .exit 0∧Kept none H0 G) (F:=[(1,Sl.av St.av 8 y),(2,f),(15,Sl.av St.av 8 x),(16,I x.l.length),(17,I 0)]) (H:=H0) ⟨rfl,Kept.refl _ _⟩ ?_ ?_
  .obtain⟨c,F',H',e1,hx⟩:=zj.1 hL
   cases he:all2 p x.l y.l with
   |true=>
    rw[he]at hx
    simp only[if_true]at hx
    obtain⟨rfl,hk⟩:=hx
    simp[zjm,c126,zd,zc,za,resV,rvVs,rvV,hf,hxy,e1]
    rw[hxy]at e1
    simp[e1,hk]
   |false=>
    rw[he]at hx
    simp only[Bool.false_eq_true,if_false]at hx
    obtain⟨rfl,hg,hk⟩:=hx
    simp[zjm,c126,zd,zc,za,resV,rvVs,rvV,hf,hxy,e1]
    rw[hxy]at e1
    simp[e1,hk,hg]
  .rintro j a b F G hj ha hb ⟨rfl,hk⟩
   have hj2:j<y.l.length:=by omega
   have hj':(j:Int)<x.l.length:=by omega
   have hw:IntKind.wrap .i64 ((j:Int)+1)=(j:Int)+1:=by rw[zM]<;>omega
   obtain⟨v,H',c1,rfl,c2⟩:=zw.1 (hp a (List.mem_of_getElem? ha) b (List.mem_of_getElem? hb) (G++[.arr 0 8 false [a.av],.arr 0 8 false [b.av]]) (hk.trans (Kept.append _ _ _)))
   have k2:Kept none H0 H':=hk.trans ((Kept.append _ _ _).trans c2)
   cases hpab:p a b with
   |true=>
    rw[hpab]at c1
    simp[zfz,zhc,za,hf,hj,hj2,hj',ha,hb,hw,c1,k2,zaq,zK,zF,zz,zx,zh, -getElem?_pos,gEz]
   |false=>
    rw[hpab]at c1
    simp[zfz,zhc,za,hf,hj,hj2,hj',ha,hb,hw,c1,k2,zaq,zK,zF,zz,zx,zh, -getElem?_pos,gEz]
  .rintro F G ⟨rfl,hk⟩
   simp[zfz,zhc,za,hf,hk]
 .have h':¬(x.l.length:Int)=y.l.length:=by omega
  rw[zbm hxy]
  simp[zjm,c126,zd,zc,za,resV,rvVs,rvV,hf,h',Kept.refl]
theorem zuq (x y:Sl Cs) (hl:x.l.length≤9223372036854775807) (f:AV) (hf:okO f=some f) (p:Cs→Cs→Bool) (H0:Heap)
  (hp:∀a∈x.l,∀b∈y.l,∀H,Kept none H0 H→okV (W.call f [a.av,b.av] H) (fun v H'=>v= .bool (p a b)∧Kept none H H')):
  okV (W.call (.clo 129 [] []) [Sl.av Cs.av 9 x,Sl.av Cs.av 9 y,f] H0) (fun v H'=>v= .bool (all2 p x.l y.l)∧Kept none H0 H'):=by
 rw[zQ Φ129]
 by_cases hxy:x.l.length=y.l.length
 .have hL:=zaK (Φ:=Φ) (live:=[1,2,15,16,17]) (L:=zkR) x.l y.l hxy p (fun j F G=>F=[(1,Sl.av Cs.av 9 y),(2,f),(15,Sl.av Cs.av 9 x),(16,I x.l.length),(17,I j)]∧Kept none H0 G)
   (fun c F G=>c= .ret∧F.get 6= .bool false∧Kept none H0 G) (fun c F G=>c= .exit 0∧Kept none H0 G) (F:=[(1,Sl.av Cs.av 9 y),(2,f),(15,Sl.av Cs.av 9 x),(16,I x.l.length),(17,I 0)]) (H:=H0) ⟨rfl,Kept.refl _ _⟩ ?_ ?_
  .obtain⟨c,F',H',e1,hx⟩:=zj.1 hL
   cases he:all2 p x.l y.l with
   |true=>
    rw[he]at hx
    simp only[if_true]at hx
    obtain⟨rfl,hk⟩:=hx
    simp[zjk,c129,zd,zc,za,resV,rvVs,rvV,hf,hxy,e1]
    rw[hxy]at e1
    simp[e1,hk]
   |false=>
    rw[he]at hx
    simp only[Bool.false_eq_true,if_false]at hx
    obtain⟨rfl,hg,hk⟩:=hx
    simp[zjk,c129,zd,zc,za,resV,rvVs,rvV,hf,hxy,e1]
    rw[hxy]at e1
    simp[e1,hk,hg]
  .rintro j a b F G hj ha hb ⟨rfl,hk⟩
   have hj2:j<y.l.length:=by omega
   have hj':(j:Int)<x.l.length:=by omega
   have hw:IntKind.wrap .i64 ((j:Int)+1)=(j:Int)+1:=by rw[zM]<;>omega
   obtain⟨v,H',c1,rfl,c2⟩:=zw.1 (hp a (List.mem_of_getElem? ha) b (List.mem_of_getElem? hb) (G++[.arr 0 9 false [a.av],.arr 0 9 false [b.av]]) (hk.trans (Kept.append _ _ _)))
   have k2:Kept none H0 H':=hk.trans ((Kept.append _ _ _).trans c2)
   cases hpab:p a b with
   |true=>
    rw[hpab]at c1
    simp[zfx,zha,za,hf,hj,hj2,hj',ha,hb,hw,c1,k2,zaq,zK,zF,zz,zx,zh, -getElem?_pos,gEz]
   |false=>
    rw[hpab]at c1
    simp[zfx,zha,za,hf,hj,hj2,hj',ha,hb,hw,c1,k2,zaq,zK,zF,zz,zx,zh, -getElem?_pos,gEz]
  .rintro F G ⟨rfl,hk⟩
   simp[zfx,zha,za,hf,hk]
 .have h':¬(x.l.length:Int)=y.l.length:=by omega
  rw[zbm hxy]
  simp[zjk,c129,zd,zc,za,resV,rvVs,rvV,hf,h',Kept.refl]
end Go.Proofs.YtgamobngbenehaaGreatDoor
end
section
namespace Go.Proofs.YtgamobngbenehaaGreatDoor
open Go Go.RowKit
set_option linter.unusedVariables false
set_option linter.unusedSimpArgs false
set_option maxRecDepth 10000
theorem ziM {α:Type} [DecidableEq α]:∀(l m:List α),all2 (fun a b=>decide (a=b)) l m=decide (l=m)
 | [],[]=>by simp[all2]
 |a::r,b::s=>by
  simp only[all2,ziM r s,List.cons.injEq]
  by_cases h1:a=b<;>by_cases h2:r=s<;>simp[h1,h2]
 | [],b::s=>by simp[all2]
 |a::r,[]=>by simp[all2]
theorem e86 (x y:Sl (List UInt8)) (hl:x.l.length≤9223372036854775807):W.pure 69 [Sl.av AV.str 1 x,Sl.av AV.str 1 y]=some (.bool (decide (x.l=y.l))):=by
 rw[zq Φ69 rfl,←ziM]
 by_cases hxy:x.l.length=y.l.length
 .have hL:=zaK (Φ:=Φ) (live:=[0,1,12,13]) (L:=zpI) x.l y.l hxy (fun a b=>decide (a=b)) (fun j F G=>F=[(0,Sl.av AV.str 1 x),(1,Sl.av AV.str 1 y),(12,I x.l.length),(13,I j)]∧G=[])
   (fun c F G=>c= .ret∧F.get 4= .bool false) (fun c F G=>c= .exit 0) (F:=[(0,Sl.av AV.str 1 x),(1,Sl.av AV.str 1 y),(12,I x.l.length),(13,I 0)]) (H:=[]) ⟨rfl,rfl⟩ ?_ ?_
  .obtain⟨c,F',H',e1,hx⟩:=zj.1 hL
   rw[hxy]at e1
   cases he:all2 (fun a b=>decide (a=b)) x.l y.l with
   |true=>
    rw[he]at hx
    simp only[if_true]at hx
    subst hx
    simp[fi69,c69,zd,zc,za,resV,rvVs,rvV,hxy,e1]
   |false=>
    rw[he]at hx
    simp only[Bool.false_eq_true,if_false]at hx
    obtain⟨rfl,hg⟩:=hx
    simp[fi69,c69,zd,zc,za,resV,rvVs,rvV,hxy,e1,hg]
  .rintro j a b F G hj ha hb ⟨rfl,rfl⟩
   have hj2:j<y.l.length:=by omega
   have hj':(j:Int)<x.l.length:=by omega
   have hw:IntKind.wrap .i64 ((j:Int)+1)=(j:Int)+1:=by rw[zM]<;>omega
   by_cases hab:a=b<;>simp[zlC,zoc,za,zk,hj,hj2,hj',ha,hb,hw,hab, -getElem?_pos]
  .rintro F G ⟨rfl,rfl⟩
   simp[zlC,zoc,za]
 .have h':¬(x.l.length:Int)=y.l.length:=by omega
  rw[zbm hxy]
  simp[fi69,c69,zd,zc,za,resV,rvVs,rvV,h']
theorem e83 (x y:Sl Dc) (hl:x.l.length≤9223372036854775807):W.pure 66 [Sl.av Dc.av 5 x,Sl.av Dc.av 5 y]=some (.bool (all2 (fun a b:Dc=>decide (a=b)) x.l y.l)):=by
 rw[zq Φ66 rfl]
 by_cases hxy:x.l.length=y.l.length
 .have hL:=zaK (Φ:=Φ) (live:=[0,1,12,13]) (L:=zpK) x.l y.l hxy (fun a b:Dc=>decide (a=b)) (fun j F G=>F=[(0,Sl.av Dc.av 5 x),(1,Sl.av Dc.av 5 y),(12,I x.l.length),(13,I j)]∧G=[])
   (fun c F G=>c= .ret∧F.get 4= .bool false) (fun c F G=>c= .exit 0) (F:=[(0,Sl.av Dc.av 5 x),(1,Sl.av Dc.av 5 y),(12,I x.l.length),(13,I 0)]) (H:=[]) ⟨rfl,rfl⟩ ?_ ?_
  .obtain⟨c,F',H',e1,hx⟩:=zj.1 hL
   rw[hxy]at e1
   cases he:all2 (fun a b:Dc=>decide (a=b)) x.l y.l with
   |true=>
    rw[he]at hx
    simp only[if_true]at hx
    subst hx
    simp[fi66,c66,zd,zc,za,resV,rvVs,rvV,hxy,e1]
   |false=>
    rw[he]at hx
    simp only[Bool.false_eq_true,if_false]at hx
    obtain⟨rfl,hg⟩:=hx
    simp[fi66,c66,zd,zc,za,resV,rvVs,rvV,hxy,e1,hg]
  .rintro j a b F G hj ha hb ⟨rfl,rfl⟩
   have hj2:j<y.l.length:=by omega
   have hj':(j:Int)<x.l.length:=by omega
   have hw:IntKind.wrap .i64 ((j:Int)+1)=(j:Int)+1:=by rw[zM]<;>omega
   by_cases hab:a=b<;>simp[zlD,zod,za,zo4,hj,hj2,hj',ha,hb,hw,hab, -getElem?_pos]
  .rintro F G ⟨rfl,rfl⟩
   simp[zlD,zod,za]
 .have h':¬(x.l.length:Int)=y.l.length:=by omega
  rw[zbm hxy]
  simp[fi66,c66,zd,zc,za,resV,rvVs,rvV,h']
theorem Ex.eqvs_all2:∀(l m:List Ex),Ex.eqvs l m=all2 Ex.eqv l m
 | [],[]=>by simp only[Ex.eqvs,all2]
 |a::r,b::s=>by simp only[Ex.eqvs,all2,Ex.eqvs_all2 r s]
 | [],b::s=>by simp only[Ex.eqvs,all2]
 |a::r,[]=>by simp only[Ex.eqvs,all2]
theorem zsG:∀(x:Ex),x.size≤1000000000→∀y H,okV (W.call (.clo 170 [] []) [x.av,y.av] H) (fun v H'=>v= .bool (x.eqv y)∧Kept none H H'):=by
 refine Ex.ind (fun x ih=>?_)
 intro hs y H
 rw[zQ Φ170,Ex.eqv_eq,Ex.eqvs_all2]
 have hlen:x.args.l.length≤1000000000:=by have:=Ex.len_sizes x.args.l;rw[Ex.size_eq]at hs;omega
 have k0:Kept none H (H++[.arr 0 5 false [x.av],.arr 0 5 false [y.av]]):=Kept.append _ _ _
 obtain⟨v,H',d1,rfl,d2⟩:=zw.1 (zoN x.args y.args (by omega) (.clo 170 [] []) rfl Ex.eqv (H++[.arr 0 5 false [x.av],.arr 0 5 false [y.av]])
  (fun a ha b hb G hk=>ih a ha (by have:=Ex.mem_size ha;rw[Ex.size_eq]at hs;omega) b G))
 have k1:=k0.trans d2
 by_cases q1:x.kind=y.kind
 rotate_left
 .simp[zgC,c170,zd,zc,za,resV,rvVs,rvV,zk,q1,k0,zK,zF,zz,zx, -getElem?_pos,gEz]
 by_cases q2:x.op=y.op
 rotate_left
 .simp[zgC,c170,zd,zc,za,resV,rvVs,rvV,zk,q1,q2,k0,zK,zF,zz,zx, -getElem?_pos,gEz]
 by_cases q3:x.name=y.name
 rotate_left
 .simp[zgC,c170,zd,zc,za,resV,rvVs,rvV,zk,q1,q2,q3,k0,zK,zF,zz,zx, -getElem?_pos,gEz]
 by_cases q4:x.value=y.value
 rotate_left
 .simp[zgC,c170,zd,zc,za,resV,rvVs,rvV,zk,q1,q2,q3,q4,k0,zK,zF,zz,zx, -getElem?_pos,gEz]
 simp[zgC,c170,zd,zc,za,resV,rvVs,rvV,zk,q1,q2,q3,q4,d1,k1,zK,zF,zz,zx, -getElem?_pos,gEz]
theorem e163 (x:Ex) (hs:x.size≤1000000000) (y:Ex):W.pure 170 [x.av,y.av]=some (.bool (x.eqv y)):=by
 obtain⟨v,H',d1,rfl,d2⟩:=zw.1 (zsG x hs y [])
 rw[zQ Φ170]at d1
 rw[zq Φ170 (by simp)]
 simp only[List.nil_append,List.append_nil]at d1
 rw[d1]
 rfl
theorem e122 (x y:Ex):W.pure 124 [x.av,y.av]=some (.bool (zbI x y)):=by
 rw[zq Φ124 (by simp)]
 have c1:=e153 x
 have c2:=e153 y
 unfold zbI
 by_cases h1:zO x=0
 .by_cases h2:zO y=0
  .have c3:=e163 x (by have:=zdq h1;omega) y
   simp[zjn,c124,zd,zc,za,resV,rvVs,rvV,c1,c2,c3,h1,h2]
  .simp[zjn,c124,zd,zc,za,resV,rvVs,rvV,c1,c2,h1,h2]
 .simp[zjn,c124,zd,zc,za,resV,rvVs,rvV,c1,h1]
theorem zlY (x y:Ex) (H:Heap):W.call (.clo 123 [] []) [x.av,y.av] H=some (.bool (zav x y),H++[.arr 0 5 false [x.av],.arr 0 5 false [y.av]]):=by
 rw[zQ Φ123]
 have c1:=e121 x
 have c2:=e121 y
 have c3:=e122 x y
 unfold zav
 cases h1:zZ x<;>cases h2:zZ y<;>rw[h1]at c1<;>rw[h2]at c2<;>simp[znR,c123,zd,zc,za,resV,rvVs,rvV,c1,c2,c3,zK,zF,zz,zx,zh, -getElem?_pos,gEz]
end Go.Proofs.YtgamobngbenehaaGreatDoor
end
section
namespace Go.Proofs.YtgamobngbenehaaGreatDoor
open Go Go.RowKit
set_option linter.unusedVariables false
set_option linter.unusedSimpArgs false
set_option maxRecDepth 10000
def zhl (l:Sl St):Prop:=∀b:Sl St,W.pure 70 [Sl.av St.av 8 l,Sl.av St.av 8 b]=some (.bool (St.eqvs l.l b.l))
theorem zsK (x y:Cs) (hf:x.fine) (ih:zhl x.body) (i:Nat) (H:Heap) (h:H[i]?=some (.arr 0 1 false [.clo 123 [] []])):
  okV (W.call (.clo 125 [] [.optr i 0 0 0]) [x.av,y.av] H) (fun v H'=>v= .bool (x.eqv y)∧Kept none H H'):=by
 rw[zQ Φ125,Cs.eqv_eq]
 rw[Cs.fine_eq]at hf
 have c1:=e86 x.names y.names hf.1
 have c2:=ih y.body
 have p1:∀B C,(H++[B,C])[i]?=some (.arr 0 1 false [.clo 123 [] []]):=zbt h
 have k0:Kept none H (H++[.arr 0 9 false [x.av],.arr 0 9 false [y.av]]):=Kept.append _ _ _
 have k1:Kept none H (H++[.arr 0 9 false [x.av],.arr 0 9 false [y.av],.arr 0 5 false [x.expr.av],.arr 0 5 false [y.expr.av]]):=Kept.append _ _ _
 have d1:=zlY x.expr y.expr (H++[.arr 0 9 false [x.av],.arr 0 9 false [y.av]])
 simp only[List.append_assoc,List.cons_append,List.nil_append]at d1
 have g0:∀B C D E,(H++[B,C,D,E])[H.length]?=some B:=fun B C D E=>by rw[List.getElem?_append_right (by omega)];simp
 have g1:∀B C D E,(H++[B,C,D,E])[H.length+1]?=some C:=fun B C D E=>by rw[List.getElem?_append_right (by omega)];simp
 by_cases q1:x.kind=y.kind
 rotate_left
 .simp[zgF,c125,zd,zc,za,resV,rvVs,rvV,zk,q1,k0,zK,zF,zz,zx, -getElem?_pos,gEz]
 by_cases q2:x.name=y.name
 rotate_left
 .simp[zgF,c125,zd,zc,za,resV,rvVs,rvV,zk,q1,q2,k0,zK,zF,zz,zx, -getElem?_pos,gEz]
 by_cases q3:x.names.l=y.names.l
 rotate_left
 .rw[decide_eq_false q3]at c1
  simp[zgF,c125,zd,zc,za,resV,rvVs,rvV,zk,q1,q2,q3,c1,k0,zK,zF,zz,zx, -getElem?_pos,gEz]
 rw[decide_eq_true q3]at c1
 cases q4:zav x.expr y.expr with
 |false=>
  rw[q4]at d1
  simp[zgF,c125,zd,zc,za,resV,rvVs,rvV,zk,q1,q2,q3,q4,c1,d1,k1,p1,g0,g1,zK,zF,zz,zx, -getElem?_pos,gEz]
 |true=>
  rw[q4]at d1
  simp[zgF,c125,zd,zc,za,resV,rvVs,rvV,zk,q1,q2,q3,q4,c1,c2,d1,k1,p1,g0,g1,zK,zF,zz,zx, -getElem?_pos,gEz]
theorem zsJ (x y:St) (hf:x.fine) (ih1:zhl x.body) (ih2:zhl x.els) (ih3:∀c∈x.cs.l,zhl c.body) (i j:Nat) (H:Heap) (h1:H[i]?=some (.arr 0 1 false [.clo 123 [] []])) (h2:H[j]?=some (.arr 0 1 false [.clo 125 [] [.optr i 0 0 0]])):
  okV (W.call (.clo 127 [] [.optr i 0 0 0,.optr j 0 0 0]) [x.av,y.av] H) (fun v H'=>v= .bool (x.eqv y)∧Kept none H H'):=by
 rw[zQ Φ127,St.eqv_eq,Cs.eqvs_all2]
 rw[St.fine_eq]at hf
 obtain⟨f1,f2,f3,f4,f5,f6,f7,f8⟩:=hf
 have c1:=e86 x.names y.names f2
 have c2:=ih1 y.body
 have c3:=ih2 y.els
 have p1:∀B C,(H++[B,C])[i]?=some (.arr 0 1 false [.clo 123 [] []]):=zbt h1
 have k0:Kept none H (H++[.arr 0 8 false [x.av],.arr 0 8 false [y.av]]):=Kept.append _ _ _
 obtain⟨v,H1,d1,rfl,d2⟩:=zw.1 (zoN x.exprs y.exprs f1 (.clo 123 [] []) rfl zav (H++[.arr 0 8 false [x.av],.arr 0 8 false [y.av]])
  (fun a ha b hb G hk=>by rw[zlY];exact⟨rfl,Kept.append _ _ _⟩))
 have g0:H1[H.length]?=some (.arr 0 8 false [x.av]):=d2.get (by simp) (zK _ _ _)
 have g1:H1[H.length+1]?=some (.arr 0 8 false [y.av]):=d2.get (by simp) (zF _ _ _)
 have g2:H1[i]?=some (.arr 0 1 false [.clo 123 [] []]):=d2.get (by simp) (p1 _ _)
 have g3:H1[j]?=some (.arr 0 1 false [.clo 125 [] [.optr i 0 0 0]]):=d2.get (by simp) (zbt h2 _ _)
 have k1:=k0.trans d2
 obtain⟨v2,H2,m1,rfl,m2⟩:=zw.1 (zuq x.cs y.cs f5 (.clo 125 [] [.optr i 0 0 0]) rfl Cs.eqv H1
  (fun a ha b hb G hk=>zsK a b (Cs.fines_mem f8 ha) (ih3 a ha) i G (hk.get (by simp) g2)))
 have k2:=k1.trans m2
 by_cases q1:x.kind=y.kind
 rotate_left
 .simp[zed,c127,zd,zc,za,resV,rvVs,rvV,zk,q1,k0,zK,zF,zz,zx, -getElem?_pos,gEz]
 by_cases q2:x.op=y.op
 rotate_left
 .simp[zed,c127,zd,zc,za,resV,rvVs,rvV,zk,q1,q2,k0,zK,zF,zz,zx, -getElem?_pos,gEz]
 by_cases q3:x.name=y.name
 rotate_left
 .simp[zed,c127,zd,zc,za,resV,rvVs,rvV,zk,q1,q2,q3,k0,zK,zF,zz,zx, -getElem?_pos,gEz]
 by_cases q4:x.names.l=y.names.l
 rotate_left
 .rw[decide_eq_false q4]at c1
  simp[zed,c127,zd,zc,za,resV,rvVs,rvV,zk,q1,q2,q3,q4,c1,k0,zK,zF,zz,zx, -getElem?_pos,gEz]
 rw[decide_eq_true q4]at c1
 cases q5:all2 zav x.exprs.l y.exprs.l with
 |false=>
  rw[q5]at d1
  simp[zed,c127,zd,zc,za,resV,rvVs,rvV,zk,q1,q2,q3,q4,q5,c1,d1,k1,p1,g0,g1,zK,zF,zz,zx, -getElem?_pos,gEz]
 |true=>
 rw[q5]at d1
 cases q6:St.eqvs x.body.l y.body.l with
 |false=>
  rw[q6]at c2
  simp[zed,c127,zd,zc,za,resV,rvVs,rvV,zk,q1,q2,q3,q4,q5,q6,c1,c2,d1,k1,p1,g0,g1,zK,zF,zz,zx, -getElem?_pos,gEz]
 |true=>
 rw[q6]at c2
 cases q7:St.eqvs x.els.l y.els.l with
 |false=>
  rw[q7]at c3
  simp[zed,c127,zd,zc,za,resV,rvVs,rvV,zk,q1,q2,q3,q4,q5,q6,q7,c1,c2,c3,d1,k1,p1,g0,g1,zK,zF,zz,zx, -getElem?_pos,gEz]
 |true=>
 rw[q7]at c3
 simp[zed,c127,zd,zc,za,resV,rvVs,rvV,zk,q1,q2,q3,q4,q5,q6,q7,c1,c2,c3,d1,k2,p1,g0,g1,g3,m1,zK,zF,zz,zx, -getElem?_pos,gEz]
theorem e87:∀(n:Nat) (a:Sl St),St.bigs a.l≤n→St.fines a.l→a.l.length≤9223372036854775807→zhl a:=by
 intro n
 induction n using Nat.strongRecOn with
 |ind n ihn=>
  intro a ha hf hl b
  rw[zq Φ70 rfl,St.eqvs_all2]
  have n1:AV.nilf.cells=[AV.nilf]:=rfl
  have n2:AV.nilf.cell=true:=rfl
  have n3:∀v:AV,v.cells=[v]→v.cell=true→zt [AV.nilf] 0 0 v=some [v]:=fun v h1 h2=>zdW rfl h1 h2
  have n4:=n3 (.clo 123 [] []) rfl rfl
  have n5:=n3 (.clo 125 [] [.optr 0 0 0 0]) rfl rfl
  obtain⟨v,H',d1,rfl,d2⟩:=zw.1 (zur a b hl (.clo 127 [] [.optr 0 0 0 0,.optr 1 0 0 0]) rfl St.eqv [.arr 0 1 false [.clo 123 [] []],.arr 0 1 false [.clo 125 [] [.optr 0 0 0 0]]]
   (fun x hx y hy G hk=>by
    have hbig:=St.bigs_mem hx
    rw[St.big_eq]at hbig
    have hfx:=St.fines_mem hf hx
    have hfe:=hfx
    rw[St.fine_eq]at hfe
    obtain⟨f1,f2,f3,f4,f5,f6,f7,f8⟩:=hfe
    exact zsJ x y hfx (ihn (St.bigs x.body.l) (by omega) x.body (Nat.le_refl _) f6 f3) (ihn (St.bigs x.els.l) (by omega) x.els (Nat.le_refl _) f7 f4)
     (fun c hc=>by
      have h1:=Cs.bigs_mem hc
      rw[Cs.big_eq]at h1
      have h2:=Cs.fines_mem f8 hc
      rw[Cs.fine_eq]at h2
      exact ihn (St.bigs c.body.l) (by omega) c.body (Nat.le_refl _) h2.2.2 h2.2.1) 0 1 G (hk.get (by simp) rfl) (hk.get (by simp) rfl)))
  simp[fi70,c70,zd,zc,za,resV,rvVs,rvV,n1,n2,n4,n5,d1, -getElem?_pos,gEz]
theorem zuF (p q:Pr) (hf:p.fine) (H:Heap):W.call (.clo 68 [] []) [p.av,q.av] H=some (.bool (prEq p q),H++[.arr 0 5 false [p.av],.arr 0 5 false [q.av]]):=by
 rw[zQ Φ68]
 have c1:=e86 p.params q.params hf.2.2
 have c2:=e87 _ p.body (Nat.le_refl _) hf.1 hf.2.1 q.body
 unfold prEq
 by_cases q1:p.kind=q.kind
 rotate_left
 .simp[fi68,c68,zd,zc,za,resV,rvVs,rvV,zk,q1,zK,zF,zz,zx, -getElem?_pos,gEz]
 by_cases q2:p.name=q.name
 rotate_left
 .simp[fi68,c68,zd,zc,za,resV,rvVs,rvV,zk,q1,q2,zK,zF,zz,zx, -getElem?_pos,gEz]
 by_cases q3:p.params.l=q.params.l
 rotate_left
 .rw[decide_eq_false q3]at c1
  simp[fi68,c68,zd,zc,za,resV,rvVs,rvV,zk,q1,q2,q3,c1,zK,zF,zz,zx, -getElem?_pos,gEz]
 rw[decide_eq_true q3]at c1
 by_cases q4:p.priority=q.priority
 rotate_left
 .simp[fi68,c68,zd,zc,za,resV,rvVs,rvV,zk,q1,q2,q3,q4,c1,zK,zF,zz,zx, -getElem?_pos,gEz]
 simp[fi68,c68,zd,zc,za,resV,rvVs,rvV,zk,q1,q2,q3,q4,c1,c2,zK,zF,zz,zx, -getElem?_pos,gEz]
def soEq (a b:So):Bool:=decide (zau a=0)&&decide (zau b=0)&&all2 (fun x y:Dc=>decide (x=y)) a.decls.l b.decls.l&&all2 prEq a.procs.l b.procs.l
theorem e34 (a b:So) (ha:a.fine) (hb:b.fine):W.pure 29 [a.av,b.av]=some (.bool (soEq a b)):=by
 rw[zq Φ29 (by simp)]
 have c1:=e26 a ha
 have c2:=e26 b hb
 have c3:=e83 a.decls b.decls ha.1
 obtain⟨v,H',d1,rfl,d2⟩:=zw.1 (zw9 a.procs b.procs ha.2.1 (.clo 68 [] []) rfl prEq [.arr 0 2 false [a.av],.arr 0 2 false [b.av]] (fun p hp q hq G hk=>by
  rw[zuF p q (ha.2.2 p hp)];exact⟨rfl,Kept.append _ _ _⟩))
 unfold soEq
 by_cases h1:zau a=0
 rotate_left
 .simp[fi29,c29,zd,zc,za,resV,rvVs,rvV,c1,h1, -getElem?_pos,gEz]
 by_cases h2:zau b=0
 rotate_left
 .simp[fi29,c29,zd,zc,za,resV,rvVs,rvV,c1,c2,h1,h2, -getElem?_pos,gEz]
 cases h3:all2 (fun x y:Dc=>decide (x=y)) a.decls.l b.decls.l with
 |false=>rw[h3]at c3;simp[fi29,c29,zd,zc,za,resV,rvVs,rvV,c1,c2,c3,h1,h2, -getElem?_pos,gEz]
 |true=>rw[h3]at c3;simp[fi29,c29,zd,zc,za,resV,rvVs,rvV,c1,c2,c3,h1,h2,d1, -getElem?_pos,gEz]
end Go.Proofs.YtgamobngbenehaaGreatDoor
end
section
namespace Go.Proofs.YtgamobngbenehaaGreatDoor
open Go Go.RowKit
set_option linter.unusedVariables false
set_option linter.unusedSimpArgs false
set_option maxRecDepth 10000
mutual
theorem Ex.eqv_rf:∀e:Ex,e.eqv e=true
 | .mk k o n v _ _ l=>by simp only[Ex.eqv];simp[Ex.kind,Ex.op,Ex.name,Ex.value,Ex.args,Ex.eqvs_rf l]
theorem Ex.eqvs_rf:∀l:List Ex,Ex.eqvs l l=true
 | []=>by simp only[Ex.eqvs]
 |a::r=>by simp only[Ex.eqvs,Ex.eqv_rf a,Ex.eqvs_rf r,Bool.and_true]
end
theorem ze9 {e:Ex} (h:zZ e=true):zav e e=true:=by simp[zav,h]
theorem zmK {e:Ex} (h:zO e=0):zav e e=true:=by simp[zav,zbI,h,Ex.eqv_rf]
theorem zh9 {e:Ex} (h:exI e=0):zav e e=true:=by
 refine zmK ?_
 unfold exI at h
 split at h
 .assumption
 .rename_i h';exact absurd h h'
theorem zdh {α:Type} {p:α→α→Bool}:∀{l:List α},(∀a∈l,p a a=true)→all2 p l l=true
 | [],_=>rfl
 |a::r,h=>by simp only[all2,h a (by simp),zdh (l:=r) (fun b hb=>h b (by simp[hb])),Bool.and_true]
theorem zo9 {x:St} (h:zR x=0):all2 zav x.exprs.l x.exprs.l=true∧∀c∈x.cs.l,zav c.expr c.expr=true:=by
 unfold zR at h
 split at h
 .cases h
 .rename_i h1
  split at h
  .cases h
  .rename_i h2
   split at h
   .cases h
   .split at h
    .cases h
    .unfold exsI at h
     have e1:zH (stEx x.kind) x.exprs.l=0:=by
      by_cases hz:zH (stEx x.kind) x.exprs.l=0
      .exact hz
      .rw[if_pos (by simpa using hz)]at h;exact h
     rw[if_neg (by simpa using e1)]at h
     have e2:zH csEx x.cs.l=0:=by
      by_cases hz:zH csEx x.cs.l=0
      .exact hz
      .rw[if_pos (by simpa using hz)]at h;exact h
     refine⟨zdh fun e he=>?_,fun c hc=>?_⟩
     .have:=zba.1 e1 e he
      unfold stEx at this
      split at this
      .rename_i h;exact ze9 h.2
      .exact zh9 this
     .have h3:=zba.1 e2 c hc
      unfold csEx at h3
      split at h3
      .exact zh9 h3
      .rename_i hk
       have h4:fldB x (zL x.kind x.op).1=true:=by
        cases hb:fldB x (zL x.kind x.op).1 with
        |true=>rfl
        |false=>exact absurd hb h2
       unfold fldB at h4
       split at h4
       .cases h4
       .split at h4
        .cases h4
        .split at h4
         .have:=of_decide_eq_true h4
          rw[this]at hc;cases hc
         .split at h4
          .have h5:=List.all_eq_true.1 h4 c hc
           unfold casB at h5
           rw[if_neg hk]at h5
           split at h5
           .simp only[Bool.and_eq_true]at h5;exact ze9 h5.1
           .simp only[Bool.and_eq_true]at h5;exact ze9 h5.1.2
          .cases h4
theorem zm5:∀(n:Nat) (l:List St),St.bigs l≤n→(∀x∈St.pres l,zR x=0)→St.eqvs l l=true:=by
 intro n
 induction n using Nat.strongRecOn with
 |ind n ihn=>
  intro l hn h
  rw[St.eqvs_all2]
  refine zdh fun x hx=>?_
  have hbig:=St.bigs_mem hx
  rw[St.big_eq]at hbig
  have hpre:∀y∈x.pre,zR y=0:=by
   intro y hy
   refine h y ?_
   clear h hn hbig ihn
   induction l with
   |nil=>cases hx
   |cons a r ih=>
    simp only[St.pres,List.mem_append]
    cases hx with
    |head=>exact .inl hy
    |tail _ hx=>exact .inr (ih hx)
  rw[St.pre_eq]at hpre
  have h0:=zo9 (hpre x (by simp))
  have h1:=ihn (St.bigs x.body.l) (by omega) x.body.l (Nat.le_refl _) (fun y hy=>hpre y (by simp[hy]))
  have h2:=ihn (St.bigs x.els.l) (by omega) x.els.l (Nat.le_refl _) (fun y hy=>hpre y (by simp[hy]))
  have h3:Cs.eqvs x.cs.l x.cs.l=true:=by
   rw[Cs.eqvs_all2]
   refine zdh fun c hc=>?_
   have hb:=Cs.bigs_mem hc
   rw[Cs.big_eq]at hb
   have h4:=ihn (St.bigs c.body.l) (by omega) c.body.l (Nat.le_refl _) (fun y hy=>by
    refine hpre y ?_
    simp only[List.mem_cons,List.mem_append]
    refine .inr (.inr (.inr ?_))
    generalize x.cs.l=L at hc
    induction L with
    |nil=>cases hc
    |cons a r ih=>
     simp only[Cs.pres,Cs.pre_eq,List.mem_append]
     cases hc with
     |head=>exact .inl hy
     |tail _ hc=>exact .inr (ih hc))
   rw[Cs.eqv_eq]
   simp[h0.2 c hc,h4]
  rw[St.eqv_eq]
  simp[h0.1,h1,h2,h3]
theorem zpj {p:Pr} (h:zao p=0):prEq p p=true:=by
 have h1:zH zR (St.pres p.body.l)=0:=by
  unfold zao at h
  split at h
  .cases h
  .split at h
   .cases h
   .split at h
    .cases h
    .split at h
     .cases h
     .split at h
      .cases h
      .exact h
 have h2:=zm5 _ p.body.l (Nat.le_refl _) (zba.1 h1)
 simp[prEq,h2]
theorem zh4 {s:So} (h:zau s=0):s.decls.l.length≤32∧s.procs.l.length≤32∧(s.procs.l.map Pr.cost).sum≤300∧(∀p∈s.procs.l,St.deps p.body.l≤12)∧zH zI s.decls.l=0∧∀p∈s.procs.l,zao p=0:=by
 unfold zau at h
 split at h
 .cases h
 .rename_i h1
  split at h
  .cases h
  .rename_i h2
   have h3:∀p∈s.procs.l,St.deps p.body.l≤12:=by
    intro p hp
    have h4:¬(12<St.deps p.body.l):=fun h5=>h2 (List.any_eq_true.2 ⟨p,hp,decide_eq_true h5⟩)
    omega
   by_cases h4:zH zI s.decls.l=0
   .rw[if_neg (by simpa using h4)]at h
    exact⟨by omega,by omega,by omega,h3,h4,zba.1 h⟩
   .rw[if_pos (by simpa using h4)]at h;exact absurd h h4
theorem zpb {a b:So} (ha:zau a=0) (hb:zau b=0) (hd:a.decls.l=b.decls.l) (hp:a.procs.l=b.procs.l):soEq a b=true:=by
 obtain⟨_,_,_,_,_,h6⟩:=zh4 ha
 unfold soEq
 rw[←hd,←hp,zdh (p:=fun x y:Dc=>decide (x=y)) (fun d _=>by simp),zdh (fun p hp=>zpj (h6 p hp))]
 simp[ha,hb]
end Go.Proofs.YtgamobngbenehaaGreatDoor
end
section
namespace Go.Proofs.YtgamobngbenehaaGreatDoor
open Go Go.RowKit
set_option linter.unusedVariables false
set_option linter.unusedSimpArgs false
set_option maxRecDepth 10000
structure Rd (s:Sh) (a:AV):Prop where
 int:s= .int .i64→∃n,a=I n
 str:s= .str→∃b,a= .str b
 strs:s= .sl false [.str]→∃x:Sl (List UInt8),a=Sl.av AV.str 1 x∧x.l.length≤maxLen
 exs:s= .rcs 61→∃x:Sl Ex,a=Sl.av Ex.av 5 x∧x.l.length≤maxLen
 sts:s= .rcs 57→∃x:Sl St,a=Sl.av St.av 8 x∧x.l.length≤maxLen∧St.fines x.l
 css:s= .rcs 63→∃x:Sl Cs,a=Sl.av Cs.av 9 x∧x.l.length≤maxLen∧Cs.fines x.l
theorem maxL:maxLen≤9223372036854775807:=by decide
theorem znB {l:List St} (h:∀x∈l,x.fine):St.fines l:=by
 induction l with
 |nil=>trivial
 |cons a r ih=>exact⟨h a (by simp),ih fun x hx=>h x (by simp[hx])⟩
theorem zlV {l:List Cs} (h:∀x∈l,x.fine):Cs.fines l:=by
 induction l with
 |nil=>trivial
 |cons a r ih=>exact⟨h a (by simp),ih fun x hx=>h x (by simp[hx])⟩
theorem zmG {α:Type} (f:α→AV) (n:Nat) (m:List α):(.isl (some false) n (m.map f):AV)=Sl.av f n ⟨some false,n,m⟩:=by cases m<;>rfl
theorem zuV {g:Bool} {l:List Sh} (h:recL 61=some (g,l)):g=true∧l=[.int .i64,.int .i64,.str,.int .i64,.rcs 61]:=by
 have:recL 61=some (true,[.int .i64,.int .i64,.str,.int .i64,.rcs 61]):=by kernel_rfl
 rw[this]at h
 simp only[Option.some.injEq,Prod.mk.injEq]at h
 exact⟨h.1.symm,h.2.symm⟩
theorem zuW {g:Bool} {l:List Sh} (h:recL 57=some (g,l)):g=true∧l=[.int .i64,.int .i64,.str,.sl false [.str],.rcs 61,.rcs 57,.rcs 57,.rcs 63]:=by
 have:recL 57=some (true,[.int .i64,.int .i64,.str,.sl false [.str],.rcs 61,.rcs 57,.rcs 57,.rcs 63]):=by kernel_rfl
 rw[this]at h
 simp only[Option.some.injEq,Prod.mk.injEq]at h
 exact⟨h.1.symm,h.2.symm⟩
theorem zs3 {g:Bool} {l:List Sh} (h:recL 63=some (g,l)):g=true∧l=[.int .i64,.str,.int .i64,.int .i64,.str,.int .i64,.rcs 61,.sl false [.str],.rcs 57]:=by
 have:recL 63=some (true,[.int .i64,.str,.int .i64,.int .i64,.str,.int .i64,.rcs 61,.sl false [.str],.rcs 57]):=by kernel_rfl
 rw[this]at h
 simp only[Option.some.injEq,Prod.mk.injEq]at h
 exact⟨h.1.symm,h.2.symm⟩
theorem zs0 {e:AV} (hr:zem true 5 e) (ih:∀(j:Nat) (c:AV) (s:Sh),(AV.cells e)[j]?=some c→([.int .i64,.int .i64,.str,.int .i64,.rcs 61]:List Sh)[j]?=some s→Rd s c):∃x:Ex,e=x.av∧True:=by
 obtain⟨cs,rfl,hl⟩:=hr.1 rfl
 match cs,hl with
 | [a0,a1,a2,a3,a4],_=>
  obtain⟨n0,rfl⟩:=(ih 0 _ _ rfl rfl).int rfl
  obtain⟨n1,rfl⟩:=(ih 1 _ _ rfl rfl).int rfl
  obtain⟨n2,rfl⟩:=(ih 2 _ _ rfl rfl).str rfl
  obtain⟨n3,rfl⟩:=(ih 3 _ _ rfl rfl).int rfl
  obtain⟨n4,rfl,_⟩:=(ih 4 _ _ rfl rfl).exs rfl
  exact⟨Ex.of n0 n1 n2 n3 n4,by rw[Ex.av_eq];rfl,trivial⟩
theorem zsZ {e:AV} (hr:zem true 8 e) (ih:∀(j:Nat) (c:AV) (s:Sh),(AV.cells e)[j]?=some c→([.int .i64,.int .i64,.str,.sl false [.str],.rcs 61,.rcs 57,.rcs 57,.rcs 63]:List Sh)[j]?=some s→Rd s c):∃x:St,e=x.av∧x.fine:=by
 obtain⟨cs,rfl,hl⟩:=hr.1 rfl
 match cs,hl with
 | [a0,a1,a2,a3,a4,a5,a6,a7],_=>
  obtain⟨n0,rfl⟩:=(ih 0 _ _ rfl rfl).int rfl
  obtain⟨n1,rfl⟩:=(ih 1 _ _ rfl rfl).int rfl
  obtain⟨n2,rfl⟩:=(ih 2 _ _ rfl rfl).str rfl
  obtain⟨n3,rfl,h3⟩:=(ih 3 _ _ rfl rfl).strs rfl
  obtain⟨n4,rfl,h4⟩:=(ih 4 _ _ rfl rfl).exs rfl
  obtain⟨n5,rfl,h5,k5⟩:=(ih 5 _ _ rfl rfl).sts rfl
  obtain⟨n6,rfl,h6,k6⟩:=(ih 6 _ _ rfl rfl).sts rfl
  obtain⟨n7,rfl,h7,k7⟩:=(ih 7 _ _ rfl rfl).css rfl
  have:=maxL
  refine⟨St.of n0 n1 n2 n3 n4 n5 n6 n7,by rw[St.av_eq];rfl,?_⟩
  rw[St.fine_eq]
  exact⟨Nat.le_trans h4 this,Nat.le_trans h3 this,Nat.le_trans h5 this,Nat.le_trans h6 this,Nat.le_trans h7 this,k5,k6,k7⟩
theorem zs1 {e:AV} (hr:zem true 9 e) (ih:∀(j:Nat) (c:AV) (s:Sh),(AV.cells e)[j]?=some c→([.int .i64,.str,.int .i64,.int .i64,.str,.int .i64,.rcs 61,.sl false [.str],.rcs 57]:List Sh)[j]?=some s→Rd s c):∃x:Cs,e=x.av∧x.fine:=by
 obtain⟨cs,rfl,hl⟩:=hr.1 rfl
 match cs,hl with
 | [a0,a1,a2,a3,a4,a5,a6,a7,a8],_=>
  obtain⟨n0,rfl⟩:=(ih 0 _ _ rfl rfl).int rfl
  obtain⟨n1,rfl⟩:=(ih 1 _ _ rfl rfl).str rfl
  obtain⟨n2,rfl⟩:=(ih 2 _ _ rfl rfl).int rfl
  obtain⟨n3,rfl⟩:=(ih 3 _ _ rfl rfl).int rfl
  obtain⟨n4,rfl⟩:=(ih 4 _ _ rfl rfl).str rfl
  obtain⟨n5,rfl⟩:=(ih 5 _ _ rfl rfl).int rfl
  obtain⟨n6,rfl,h6⟩:=(ih 6 _ _ rfl rfl).exs rfl
  obtain⟨n7,rfl,h7⟩:=(ih 7 _ _ rfl rfl).strs rfl
  obtain⟨n8,rfl,h8,k8⟩:=(ih 8 _ _ rfl rfl).sts rfl
  have:=maxL
  refine⟨Cs.of n0 n1 (Ex.of n2 n3 n4 n5 n6) n7 n8,by rw[Cs.av_eq];rfl,?_⟩
  rw[Cs.fine_eq]
  exact⟨Nat.le_trans h7 this,Nat.le_trans h8 this,k8⟩
theorem zjZ {s:Sh} {a:AV} (h:ShOk s a):Rd s a:=by
 induction h with
 |bool b=>exact⟨by rintro⟨⟩,by rintro⟨⟩,by rintro⟨⟩,by rintro⟨⟩,by rintro⟨⟩,by rintro⟨⟩⟩
 |int k n h=>exact⟨by rintro⟨⟩;exact⟨n,rfl⟩,by rintro⟨⟩,by rintro⟨⟩,by rintro⟨⟩,by rintro⟨⟩,by rintro⟨⟩⟩
 |str b h=>exact⟨by rintro⟨⟩,by rintro⟨⟩;exact⟨b,rfl⟩,by rintro⟨⟩,by rintro⟨⟩,by rintro⟨⟩,by rintro⟨⟩⟩
 |nil g l=>exact⟨by rintro⟨⟩,by rintro⟨⟩,by rintro⟨⟩;exact⟨⟨some true,1,[]⟩,rfl,by simp⟩,by rintro⟨⟩,by rintro⟨⟩,by rintro⟨⟩⟩
 |sl g l es hl hr hv ih=>
  refine⟨by rintro⟨⟩,by rintro⟨⟩,?_,by rintro⟨⟩,by rintro⟨⟩,by rintro⟨⟩⟩
  rintro⟨⟩
  obtain⟨m,h1,h2⟩:=zgj (f:=AV.str) (p:=fun _=>True) es (fun e he=>by
   obtain⟨i,hi⟩:=List.getElem?_of_mem he
   have hc:=(hr i e hi).2 rfl
   obtain⟨b,rfl⟩:=(ih i e 0 e .str hi (by rw[hc];rfl) rfl).str rfl
   exact⟨b,rfl,trivial⟩)
  subst h1
  exact⟨⟨some false,1,m⟩,zmG AV.str 1 m,by simpa using hl⟩
 |rnil e g l h=>
  refine⟨by rintro⟨⟩,by rintro⟨⟩,by rintro⟨⟩,?_,?_,?_⟩
  .rintro⟨⟩;exact⟨⟨some true,l.length,[]⟩,rfl,by simp⟩
  .rintro⟨⟩;exact⟨⟨some true,l.length,[]⟩,rfl,by simp,trivial⟩
  .rintro⟨⟩;exact⟨⟨some true,l.length,[]⟩,rfl,by simp,trivial⟩
 |rsl e g l h es hl hr hv ih=>
  refine⟨by rintro⟨⟩,by rintro⟨⟩,by rintro⟨⟩,?_,?_,?_⟩
  .rintro⟨⟩
   obtain⟨rfl,rfl⟩:=zuV h
   obtain⟨m,h1,h2⟩:=zgj (f:=Ex.av) (p:=fun _=>True) es (fun e he=>by
    obtain⟨i,hi⟩:=List.getElem?_of_mem he
    exact zs0 (hr i e hi) (fun j c s hc hs=>ih i e j c s hi hc hs))
   subst h1
   exact⟨⟨some false,5,m⟩,zmG Ex.av 5 m,by simpa using hl⟩
  .rintro⟨⟩
   obtain⟨rfl,rfl⟩:=zuW h
   obtain⟨m,h1,h2⟩:=zgj (f:=St.av) (p:=fun x=>x.fine) es (fun e he=>by
    obtain⟨i,hi⟩:=List.getElem?_of_mem he
    exact zsZ (hr i e hi) (fun j c s hc hs=>ih i e j c s hi hc hs))
   subst h1
   exact⟨⟨some false,8,m⟩,zmG St.av 8 m,by simpa using hl,znB h2⟩
  .rintro⟨⟩
   obtain⟨rfl,rfl⟩:=zs3 h
   obtain⟨m,h1,h2⟩:=zgj (f:=Cs.av) (p:=fun x=>x.fine) es (fun e he=>by
    obtain⟨i,hi⟩:=List.getElem?_of_mem he
    exact zs1 (hr i e hi) (fun j c s hc hs=>ih i e j c s hi hc hs))
   subst h1
   exact⟨⟨some false,9,m⟩,zmG Cs.av 9 m,by simpa using hl,zlV h2⟩
def prSh:List Sh:=[.int .i64,.str,.sl false [.str],.int .i64,.rcs 57]
def soSh:List Sh:=[.sl true dcSh,.sl true prSh]
theorem zxr {e:AV} (hr:zem true 5 e) (hv:∀(j:Nat) (c:AV) (s:Sh),(AV.cells e)[j]?=some c→prSh[j]?=some s→ShOk s c):∃p:Pr,e=p.av∧p.fine:=by
 obtain⟨cs,rfl,hl⟩:=hr.1 rfl
 match cs,hl with
 | [a0,a1,a2,a3,a4],_=>
  obtain⟨n0,rfl⟩:=(zjZ (hv 0 _ _ rfl rfl)).int rfl
  obtain⟨n1,rfl⟩:=(zjZ (hv 1 _ _ rfl rfl)).str rfl
  obtain⟨n2,rfl,h2⟩:=(zjZ (hv 2 _ _ rfl rfl)).strs rfl
  obtain⟨n3,rfl⟩:=(zjZ (hv 3 _ _ rfl rfl)).int rfl
  obtain⟨n4,rfl,h4,k4⟩:=(zjZ (hv 4 _ _ rfl rfl)).sts rfl
  exact⟨⟨n0,n1,n2,n3,n4⟩,rfl,k4,Nat.le_trans h4 maxL,Nat.le_trans h2 maxL⟩
theorem zxq {e:AV} (hr:zem true 2 e) (hv:∀(j:Nat) (c:AV) (s:Sh),(AV.cells e)[j]?=some c→soSh[j]?=some s→ShOk s c):∃s:So,e=s.av∧s.fine:=by
 obtain⟨cs,rfl,hl⟩:=hr.1 rfl
 match cs,hl with
 | [a0,a1],_=>
  obtain⟨n0,h0,w0⟩:=zsX (f:=Dc.av) (p:=fun _=>True) (fun e h1 h2=>by obtain⟨d,h3,_⟩:=zxt h1 h2;exact⟨d,h3,trivial⟩) (hv 0 _ _ rfl rfl)
  obtain⟨n1,h1,w1⟩:=zsX (f:=Pr.av) (p:=fun p=>p.fine) (fun e h1 h2=>zxr h1 h2) (hv 1 _ _ rfl rfl)
  subst h0;subst h1
  exact⟨⟨n0,n1⟩,rfl,Nat.le_trans w0.len maxL,Nat.le_trans w1.len maxL,w1.all⟩
theorem zo3 {a:AV} (h:zsT (true,soSh) a):∃s:So,a=s.av∧s.fine:=by
 obtain⟨cs,rfl,h1,h2⟩:=h.1 rfl
 exact zxq ⟨fun _=>⟨_,rfl,h1⟩,fun h=>by cases h⟩ (fun j c s hc hs=>h2 j c s hc hs)
end Go.Proofs.YtgamobngbenehaaGreatDoor
end
