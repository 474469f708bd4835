/-
  The names of an expression, as the reference collects them (conditions: none). The check of statements as the reference of layer 11 makes it, in plain terms: it is the same check (conditions: none). Operations on objects and shapes of statements, in the reference (conditions: none). Kinds, fields and names of statements, as the reference checks them (conditions: none). Names of statements, as the reference checks them (conditions: none). The reference's check of a statement (conditions: none). Size and depth of statements, in the reference (conditions: none). Size of a source and depth of statements, in the reference (conditions: none). The statements in preorder, in the reference (conditions: none). The reference's check of a source (conditions: none). The size of statements as a sum over all that are listed (conditions: none). The reference's check of a source, whole; equality and greatness (conditions: none). Equality and greatness of sources in the reference; the statement SyntaxEqual (conditions: none). The walk over the statements of a procedure that SyntaxPreorder makes (conditions: none).
-/
import Derived.Test.YtgamobngbenehaaGreatDoorBBp
import Derived.Test.YtgamobngbenehaaGreatDoorACp
import Derived.Test.YtgamobngbenehaaGreatDoorBEp
import Derived.Test.YtgamobngbenehaaGreatDoorBGp
section
namespace Go.Proofs.YtgamobngbenehaaGreatDoor
open Go Go.RowKit
set_option linter.unusedVariables false
set_option linter.unusedSimpArgs false
set_option maxRecDepth 10000
set_option maxHeartbeats 2000000
theorem zkw {α:Type} (f:α→Int):∀(l:List α) (k:Nat),zdz (ρ:=Int) (fun _ a (_:Unit)=>if f a≠0 then .inr (f a) else .inl ()) k l ()=if zY f l≠0 then .inr (zY f l) else .inl ()
 | [],k=>by simp[zdz,zY]
 |a::r,k=>by
  unfold zdz
  simp only[zY]
  by_cases h:f a=0
  .simp only[h,ne_eq,not_true_eq_false,if_false];exact zkw f r (k+1)
  .simp only[h,ne_eq,not_false_eq_true,if_true]
theorem zee {α:Type} (p:α→Bool):∀(l:List α) (k:Nat),zdz (ρ:=Unit) (fun _ a (_:Unit)=>if p a=true then .inr () else .inl ()) k l ()=if l.any p=true then .inr () else .inl ()
 | [],k=>by simp[zdz]
 |a::r,k=>by
  unfold zdz
  rw[List.any_cons]
  cases h:p a with
  |true=>simp
  |false=>simpa using zee p r (k+1)
theorem zjl (l:List (List UInt8)):(l.map AV.str).all (fun e=>e.cells.all AV.still)=true:=by
 rw[List.all_eq_true]
 intro e he
 obtain⟨s,_,rfl⟩:=List.mem_map.1 he
 rfl
section
attribute [local irreducible] okC okV
end
end Go.Proofs.YtgamobngbenehaaGreatDoor
end
section
namespace Go.Proofs.YtgamobngbenehaaGreatDoor
open Go Go.RowKit
set_option linter.unusedVariables false
set_option linter.unusedSimpArgs false
set_option maxRecDepth 10000
def rsh (k op:Int):Shp:=
 if k=1∨k=2 then ⟨1,0,0,1,1,false,false,false,false⟩
 else if k=3 then ⟨0,0,0,1,1,true,true,false,false⟩
 else if k=4∨k=5 then ⟨0,0,0,1,1,true,false,false,false⟩
 else if k=6∨k=7∨k=8∨k=9∨k=10∨k=24 then ⟨0,0,0,1,1,false,false,false,false⟩
 else if k=14 then ⟨2,0,0,2,2,true,false,false,false⟩
 else if k=15 then ⟨0,0,0,0,0,true,false,false,false⟩
 else if k=16∨k=18 then ⟨1,0,0,0,8,false,false,false,false⟩
 else if k=17 then ⟨1,0,1,0,8,false,false,false,false⟩
 else if k=19 then ⟨1,((opOf op).getD opZ).names,((opOf op).getD opZ).names,((opOf op).getD opZ).exprs,((opOf op).getD opZ).exprs,false,false,false,false⟩
 else if k=21 then ⟨1,1,1,1,1,false,false,false,false⟩
 else if k=22 then ⟨1,1,1,2,2,false,false,false,false⟩
 else if k=23 then ⟨0,0,0,2,2,false,false,false,false⟩
 else ⟨0,0,0,0,0,false,false,false,false⟩
theorem znh (k op:Int) (h:1≤k∧k≤24):(zD k op).1={rsh k op with cases:=decide (k=20),op:=decide (k=19)}:=by
 have hk:k=1∨k=2∨k=3∨k=4∨k=5∨k=6∨k=7∨k=8∨k=9∨k=10∨k=11∨k=12∨k=13∨k=14∨k=15∨k=16∨k=17∨k=18∨k=19∨k=20∨k=21∨k=22∨k=23∨k=24:=by omega
 rcases hk with rfl|rfl|rfl|rfl|rfl|rfl|rfl|rfl|rfl|rfl|rfl|rfl|rfl|rfl|rfl|rfl|rfl|rfl|rfl|rfl|rfl|rfl|rfl|rfl<;>rfl
theorem zjr (k op:Int) (h:1≤k∧k≤24):(zD k op).2=false↔k=19∧opOf op=none:=by
 have hk:k=1∨k=2∨k=3∨k=4∨k=5∨k=6∨k=7∨k=8∨k=9∨k=10∨k=11∨k=12∨k=13∨k=14∨k=15∨k=16∨k=17∨k=18∨k=19∨k=20∨k=21∨k=22∨k=23∨k=24:=by omega
 by_cases h19:k=19
 .subst h19
  have:(zD 19 op).2=(opOf op).isSome:=rfl
  rw[this]
  cases opOf op<;>simp
 .have:(zD k op).2=true:=by
   rcases hk with rfl|rfl|rfl|rfl|rfl|rfl|rfl|rfl|rfl|rfl|rfl|rfl|rfl|rfl|rfl|rfl|rfl|rfl|rfl|rfl|rfl|rfl|rfl|rfl<;>first|rfl|exact absurd rfl h19
  rw[this]
  simp[h19]
def zjD (x:St):Int:=
 if x.kind<1∨24<x.kind then 8
 else if x.kind=19∧opOf x.op=none then 8
 else if (x.cs.l.all fun c=>decide (1≤c.kind∧c.kind≤3))=false then 8
 else 0
def rBad (c:Cs):Bool:=(decide (c.kind=3)&& !decide (c.name=[]))||(!decide (c.kind=1)&& !zau c.expr)||(decide (c.kind=2)&& !decide (c.names.l.length=2))||(!decide (c.kind=2)&&decide (0<c.names.l.length))
def zes (x:St):Bool:=
 if ((rsh x.kind x.op).name=0∧¬x.name=[])∨¬((rsh x.kind x.op).n0≤x.names.l.length∧(x.names.l.length:Int)≤(rsh x.kind x.op).n1)∨¬((rsh x.kind x.op).e0≤x.exprs.l.length∧(x.exprs.l.length:Int)≤(rsh x.kind x.op).e1)∨
   ((rsh x.kind x.op).body=false∧0<x.body.l.length)∨((rsh x.kind x.op).others=false∧0<x.els.l.length)∨(¬x.kind=19∧¬x.op=0) then false
 else if ¬x.kind=20 then decide (x.cs.l.length=0)
 else if x.cs.l.any rBad=true then false
 else decide (1≤x.cs.l.length∧x.cs.l.length≤6)
theorem znP {c:Cs} (h:1≤c.kind∧c.kind≤3):rBad c= !casB c:=by
 have hk:c.kind=1∨c.kind=2∨c.kind=3:=by omega
 unfold rBad casB
 rcases hk with hk|hk|hk
 .rw[hk];cases hn:c.names.l<;>simp
 .rw[hk];cases zau c.expr<;>simp
 .rw[hk];cases zau c.expr<;>by_cases h1:c.name=[]<;>cases hn:c.names.l<;>simp[h1]
theorem zpA {l:List Cs} (h:∀c∈l,1≤c.kind∧c.kind≤3):l.any rBad= !l.all casB:=by
 induction l with
 |nil=>rfl
 |cons a r ih=>
  simp only[List.any_cons,List.all_cons,znP (h a (by simp)),ih (fun c hc=>h c (by simp[hc])),Bool.not_and]
theorem zlW (x:St) (h:1≤x.kind∧x.kind≤24) (hc:∀c∈x.cs.l,1≤c.kind∧c.kind≤3):fldB x (zD x.kind x.op).1=zes x:=by
 rw[znh _ _ h]
 have h1:=zpA hc
 unfold fldB zes
 generalize rsh x.kind x.op=s at *
 rw[h1]
 simp only
 by_cases a1:s.name=0∧¬x.name=[]
 .rw[if_pos (.inl (.inl (.inl a1))),if_pos (.inl a1)]
 by_cases a2:¬x.kind=19∧¬x.op=0
 .rw[if_pos (.inl (.inl (.inr ⟨by simpa using a2.1,a2.2⟩))),if_pos (.inr (.inr (.inr (.inr (.inr a2)))))]
 by_cases a3:s.body=false∧0<x.body.l.length
 .rw[if_pos (.inl (.inr a3)),if_pos (.inr (.inr (.inr (.inl a3))))]
 by_cases a4:s.others=false∧0<x.els.l.length
 .rw[if_pos (.inr a4),if_pos (.inr (.inr (.inr (.inr (.inl a4)))))]
 rw[if_neg (by
  rintro (((q|q)|q)|q)
  .exact a1 q
  .exact a2 ⟨by simpa using q.1,q.2⟩
  .exact a3 q
  .exact a4 q)]
 by_cases a5:((x.names.l.length:Int)<s.n0∨s.n1<x.names.l.length)∨(x.exprs.l.length:Int)<s.e0∨s.e1<x.exprs.l.length
 .rw[if_pos a5,if_pos (by
   rcases a5 with (q|q)|(q|q)
   .exact .inr (.inl (by omega))
   .exact .inr (.inl (by omega))
   .exact .inr (.inr (.inl (by omega)))
   .exact .inr (.inr (.inl (by omega))))]
 have nb:¬((s.name=0∧¬x.name=[])∨¬(s.n0≤x.names.l.length∧(x.names.l.length:Int)≤s.n1)∨¬(s.e0≤x.exprs.l.length∧(x.exprs.l.length:Int)≤s.e1)∨(s.body=false∧0<x.body.l.length)∨(s.others=false∧0<x.els.l.length)∨(¬x.kind=19∧¬x.op=0)):=by
  rintro (q|q|q|q|q|q)
  .exact a1 q
  .omega
  .omega
  .exact a3 q
  .exact a4 q
  .exact a2 q
 rw[if_neg a5,if_neg nb]
 clear nb a1 a2 a3 a4 a5 h1
 by_cases a6:x.kind=20
 .simp only[a6,decide_true,Bool.true_eq_false,if_false,not_true_eq_false]
  cases x.cs.l.all casB with
  |true=>
   simp only[Bool.not_true,Bool.false_eq_true,if_false]
   by_cases a7:1≤x.cs.l.length∧x.cs.l.length≤6
   .rw[if_pos (by omega),decide_eq_true a7]
   .rw[if_neg (by omega),decide_eq_false a7]
  |false=>simp
 .simp only[a6,decide_false,if_true,not_false_eq_true]
  cases x.cs.l<;>simp
def zeH (x:St):Int:=
 if ((rsh x.kind x.op).name=1∨(rsh x.kind x.op).name=2∧¬x.name=[])∧zT x.name=false then 5
 else if (x.names.l++x.cs.l.flatMap fun c=>if c.kind=3 then [] else c.name::c.names.l).all zT=false then 5
 else if 1<defs x.cs.l then 6
 else 0
theorem zjC (x:St) (h:1≤x.kind∧x.kind≤24) (hf:zes x=true):zeH x=if namB x (zD x.kind x.op).1=false then 5 else if 1<defs x.cs.l then 6 else 0:=by
 have h3:∀c∈x.cs.l,c.kind=3→c.names.l=[]:=by
  intro c hc hk
  unfold zes at hf
  split at hf
  .cases hf
  .split at hf
   .have:=of_decide_eq_true hf
    rw[List.length_eq_zero_iff.1 this]at hc;cases hc
   .split at hf
    .cases hf
    .rename_i hb
     have h4:rBad c=false:=by
      cases hbc:rBad c with
      |false=>rfl
      |true=>exact absurd (List.any_eq_true.2 ⟨c,hc,hbc⟩) hb
     unfold rBad at h4
     rw[hk]at h4
     cases hn:c.names.l with
     |nil=>rfl
     |cons a r=>rw[hn]at h4;simp at h4
 have h5:(x.names.l++x.cs.l.flatMap fun c=>if c.kind=3 then [] else c.name::c.names.l).all zT=(x.names.l.all zT&&x.cs.l.all fun c=>(decide (c.kind=3)||zT c.name)&&c.names.l.all zT):=by
  rw[List.all_append]
  congr 1
  generalize x.cs.l=l at h3
  induction l with
  |nil=>rfl
  |cons a r ih=>
   simp only[List.flatMap_cons,List.all_append,List.all_cons,ih (fun c hc=>h3 c (by simp[hc]))]
   congr 1
   by_cases hk:a.kind=3
   .simp[hk,h3 a (by simp) hk]
   .simp[hk]
 have h6:(zD x.kind x.op).1.name=(rsh x.kind x.op).name:=by rw[znh _ _ h]
 unfold zeH namB
 rw[h5,h6]
 by_cases a1:((rsh x.kind x.op).name=1∨(rsh x.kind x.op).name=2∧¬x.name=[])∧zT x.name=false
 .rw[if_pos a1,if_pos a1];simp
 .rw[if_neg a1,if_neg a1]
def znO (x:St):Int:=
 if zjD x≠0 then zjD x else if zes x=false then 1 else if zeH x≠0 then zeH x else exsI x
theorem zlV (x:St):znO x=zaF x:=by
 unfold znO zjD zaF
 by_cases h1:x.kind<1∨24<x.kind
 .have:=zjq x.kind x.op h1
  rw[if_pos h1,this]
  simp
 have hk:1≤x.kind∧x.kind≤24:=by omega
 have hs:=zjr x.kind x.op hk
 rw[if_neg h1]
 by_cases h2:x.kind=19∧opOf x.op=none
 .have h3:(zD x.kind x.op).2=false∨(x.cs.l.all fun c=>decide (1≤c.kind∧c.kind≤3))=false:= .inl (hs.2 h2)
  rw[if_pos h2,if_pos h3];simp
 rw[if_neg h2]
 have hs2:¬(zD x.kind x.op).2=false:=fun e=>h2 (hs.1 e)
 cases h3:x.cs.l.all fun c=>decide (1≤c.kind∧c.kind≤3) with
 |false=>simp
 |true=>
 have hc:∀c∈x.cs.l,1≤c.kind∧c.kind≤3:=fun c hc=>of_decide_eq_true (List.all_eq_true.1 h3 c hc)
 have h5:¬((zD x.kind x.op).2=false∨true=false):=by
  rintro (q|q)
  .exact hs2 q
  .cases q
 rw[if_neg h5,zlW x hk hc]
 simp only[Bool.true_eq_false,if_false,ne_eq,not_true_eq_false]
 cases h4:zes x with
 |false=>simp
 |true=>
 simp only[Bool.true_eq_false,if_false]
 rw[zjC x hk h4]
 cases namB x (zD x.kind x.op).1 with
 |false=>simp
 |true=>
 by_cases h5:1<defs x.cs.l
 .simp[h5]
 .simp[h5]
end Go.Proofs.YtgamobngbenehaaGreatDoor
end
section
namespace Go.Proofs.YtgamobngbenehaaGreatDoor
open Go Go.RowKit
set_option linter.unusedVariables false
set_option linter.unusedSimpArgs false
set_option maxRecDepth 10000
def Shp.rv (s:Shp):AV:= .agg [I s.name,I s.n0,I s.n1,I s.e0,I s.e1,.bool s.body,.bool s.others]
end Go.Proofs.YtgamobngbenehaaGreatDoor
end
section
namespace Go.Proofs.YtgamobngbenehaaGreatDoor
open Go Go.RowKit
set_option linter.unusedVariables false
set_option linter.unusedSimpArgs false
set_option maxRecDepth 10000
set_option maxHeartbeats 2000000
section
attribute [local irreducible] okC okV
end
end Go.Proofs.YtgamobngbenehaaGreatDoor
end
section
namespace Go.Proofs.YtgamobngbenehaaGreatDoor
open Go Go.RowKit
set_option linter.unusedVariables false
set_option linter.unusedSimpArgs false
set_option maxRecDepth 10000
set_option maxHeartbeats 2000000
theorem Grow.at {H:Heap} {sz:Nat} {o:Option Nat} {v x:AV} {l:List AV} (h:Grow H sz o v l) {k:Nat} (hx:l[k]?=some x):∃a,zb7 H sz v (.int .i64 k)=a∧Go.Proofs.YtgamobngbenehaaGreatDoor.okO a=some a∧∀g n,zbu H g n a=zk g n x.cells:=by
 have hk:=(gEs.1 hx).1
 cases o with
 |none=>rw[h.2]at hx;cases hx
 |some id=>
  obtain⟨ver,t,rfl,h2⟩:=h
  refine⟨.optr id ver k 0,?_,rfl,fun g n=>?_⟩
  .simp only[zb7,h2]
   rw[if_pos ⟨trivial,trivial,by omega,by simp;omega⟩];simp
  .simp only[zbu,h2,if_true]
   have:(l++t)[k]?=some x:=by
    rw[gEa hk];exact hx
   rw[this];rfl
section
attribute [local irreducible] okC okV
end
end Go.Proofs.YtgamobngbenehaaGreatDoor
end
section
namespace Go.Proofs.YtgamobngbenehaaGreatDoor
open Go Go.RowKit
set_option linter.unusedVariables false
set_option linter.unusedSimpArgs false
set_option maxRecDepth 10000
set_option maxHeartbeats 2000000
theorem zp7:∀o∈opT,o.names≤2∧o.exprs≤8:=by decide
theorem zpL (k op:Int):(rsh k op).n1≤2∧(rsh k op).e1≤8:=by
 have h:((opOf op).getD opZ).names≤2∧((opOf op).getD opZ).exprs≤8:=by
  cases h:opOf op with
  |none=>decide
  |some o=>exact zp7 o (List.mem_of_find?_eq_some h)
 unfold rsh
 repeat' split
 all_goals first|exact h|decide
theorem zlX {c:Cs} (h:rBad c=false):c.names.l.length≤2:=by
 unfold rBad at h
 by_cases h2:c.kind=2
 .simp[h2]at h;omega
 .simp[h2]at h;simp[h.2]
theorem zjE {x:St} (h:zes x=true):x.names.l.length≤2∧x.exprs.l.length≤8∧x.cs.l.length≤6∧∀c∈x.cs.l,c.names.l.length≤2:=by
 have hb:=zpL x.kind x.op
 unfold zes at h
 split at h
 .cases h
 rename_i h1
 have h2:((rsh x.kind x.op).n0≤x.names.l.length∧(x.names.l.length:Int)≤(rsh x.kind x.op).n1):=Decidable.byContradiction fun e=>h1 (.inr (.inl e))
 have h3:((rsh x.kind x.op).e0≤x.exprs.l.length∧(x.exprs.l.length:Int)≤(rsh x.kind x.op).e1):=Decidable.byContradiction fun e=>h1 (.inr (.inr (.inl e)))
 refine⟨by omega,by omega,?_⟩
 split at h
 .have h4:=of_decide_eq_true h
  refine⟨by omega,fun c hc=>?_⟩
  rw[List.length_eq_zero_iff.1 h4]at hc;cases hc
 .split at h
  .cases h
  .rename_i h5
   have h4:=of_decide_eq_true h
   refine⟨by omega,fun c hc=>zlX ?_⟩
   cases hbc:rBad c with
   |false=>rfl
   |true=>exact absurd (List.any_eq_true.2 ⟨c,hc,hbc⟩) h5
section
attribute [local irreducible] okC okV
end
end Go.Proofs.YtgamobngbenehaaGreatDoor
end
section
namespace Go.Proofs.YtgamobngbenehaaGreatDoor
open Go Go.RowKit
set_option linter.unusedVariables false
set_option linter.unusedSimpArgs false
set_option maxRecDepth 10000
set_option maxHeartbeats 2000000
section
attribute [local irreducible] okC okV
end
end Go.Proofs.YtgamobngbenehaaGreatDoor
end
section
namespace Go.Proofs.YtgamobngbenehaaGreatDoor
open Go Go.RowKit
set_option linter.unusedVariables false
set_option linter.unusedSimpArgs false
set_option maxRecDepth 10000
set_option maxHeartbeats 2000000
theorem St.costs_mem {x:St} {l:List St} (h:x∈l):x.cost≤St.costs l:=by
 induction l with
 |nil=>cases h
 |cons a r ih=>
  simp only[St.costs]
  cases h with
  |head=>omega
  |tail _ h=>have:=ih h;omega
theorem Cs.costs_mem {x:Cs} {l:List Cs} (h:x∈l):x.cost≤Cs.costs l:=by
 induction l with
 |nil=>cases h
 |cons a r ih=>
  simp only[Cs.costs]
  cases h with
  |head=>omega
  |tail _ h=>have:=ih h;omega
section
attribute [local irreducible] okC okV
end
end Go.Proofs.YtgamobngbenehaaGreatDoor
end
section
namespace Go.Proofs.YtgamobngbenehaaGreatDoor
open Go Go.RowKit
set_option linter.unusedVariables false
set_option linter.unusedSimpArgs false
set_option maxRecDepth 10000
set_option maxHeartbeats 2000000
section
attribute [local irreducible] okC okV
end
end Go.Proofs.YtgamobngbenehaaGreatDoor
end
section
namespace Go.Proofs.YtgamobngbenehaaGreatDoor
open Go Go.RowKit
set_option linter.unusedVariables false
set_option linter.unusedSimpArgs false
set_option maxRecDepth 10000
set_option maxHeartbeats 2000000
end Go.Proofs.YtgamobngbenehaaGreatDoor
end
section
namespace Go.Proofs.YtgamobngbenehaaGreatDoor
open Go Go.RowKit
set_option linter.unusedVariables false
set_option linter.unusedSimpArgs false
set_option maxRecDepth 10000
def St.own (x:St):Nat:=1+x.cs.l.length+(x.exprs.l.map zaN).sum+(x.cs.l.map fun c=>zaN c.expr).sum
end Go.Proofs.YtgamobngbenehaaGreatDoor
end
section
namespace Go.Proofs.YtgamobngbenehaaGreatDoor
open Go Go.RowKit
set_option linter.unusedVariables false
set_option linter.unusedSimpArgs false
set_option maxRecDepth 10000
set_option maxHeartbeats 2000000
theorem zjT {α:Type} {f:α→Nat} {l:List α} {a:α} (h:a∈l):f a≤(l.map f).sum:=by
 induction l with
 |nil=>cases h
 |cons b r ih=>
  simp only[List.map_cons,List.sum_cons]
  cases h with
  |head=>omega
  |tail _ h=>have:=ih h;omega
section
attribute [local irreducible] okC okV
end
end Go.Proofs.YtgamobngbenehaaGreatDoor
end
section
namespace Go.Proofs.YtgamobngbenehaaGreatDoor
open Go Go.RowKit
set_option linter.unusedVariables false
set_option linter.unusedSimpArgs false
set_option maxRecDepth 10000
set_option maxHeartbeats 2000000
def zg5 (s:So):Bool:=decide (40<s.decls.l.length∨40<s.procs.l.length)||s.procs.l.any fun p=>decide (12<p.params.l.length)
theorem zrx {p:Pr} (h:zav p=0):zY zaF (St.pres p.body.l)=0∧p.params.l.length≤8:=by
 unfold zav at h
 split at h
 .cases h
 .split at h
  .cases h
  .split at h
   .cases h
   .split at h
    .cases h
    .split at h
     .cases h
     .exact⟨h,by omega⟩
section
attribute [local irreducible] okC okV
theorem d20 (s:So):W.pure 20 [s.av]=some (.bool (zg5 s)):=by
 rw[zG Φ20 (by simp)]
 unfold zg5
 by_cases h1:(40:Int)<s.decls.l.length
 .have h1':40<s.decls.l.length:=by omega
  simp[fi20,c20,zi,ze,zd,resV,rvVs,rvV,h1,h1', -getElem?_pos,gEz]
 by_cases h2:(40:Int)<s.procs.l.length
 .have h2':40<s.procs.l.length:=by omega
  simp[fi20,c20,zi,ze,zd,resV,rvVs,rvV,h1,h2,h2', -getElem?_pos,gEz]
 have h1':¬40<s.decls.l.length:=by omega
 have h2':¬40<s.procs.l.length:=by omega
 have hL1:=zfn (Φ:=Φ) (live:=[1,3]) (L:=zom) s.procs.l (σ:=Unit) (ρ:=Unit) (fun _ p _=>if (fun p:Pr=>decide (12<p.params.l.length)) p=true then .inr () else .inl ())
  (fun k _ F G=>F=[(1,.optr 0 0 0 0),(3,I k)]∧G=[.arr 0 2 false [s.av]])
  (fun _ y F G=>y= .ret∧F.get 2= .bool true)
  (fun _ y F G=>y= .exit 0) (s:=()) (F:=[(1,.optr 0 0 0 0),(3,I 0)]) (H:=[.arr 0 2 false [s.av]]) ⟨rfl,rfl⟩ ?_ ?_
 .rw[zee]at hL1
  obtain⟨y1,F1,H1,e1,e2⟩:=zr.1 hL1
  cases h3:s.procs.l.any fun p=>decide (12<p.params.l.length) with
  |true=>
   rw[h3]at e2
   obtain⟨rfl,e2⟩:y1= .ret∧F1.get 2= .bool true:=e2
   simp[fi20,c20,zi,ze,zd,resV,rvVs,rvV,h1,h1',h2,h2',e1,e2, -getElem?_pos,gEz]
  |false=>
   rw[h3]at e2
   have e2:y1= .exit 0:=e2
   subst e2
   simp[fi20,c20,zi,ze,zd,resV,rvVs,rvV,h1,h1',h2,h2',e1, -getElem?_pos,gEz]
 .rintro k p ⟨⟩ F G hk hp ⟨rfl,rfl⟩
  have hw:=zaa (k:=k) (by omega)
  by_cases hz:12<p.params.l.length
  .have hz':(12:Int)<p.params.l.length:=by omega
   rw[if_pos (show (fun p:Pr=>decide (12<p.params.l.length)) p=true from decide_eq_true hz)]
   simp[zhu,zlo,zd,hk,hp,hw,hz', -getElem?_pos,gEz]
  .have hz':¬(12:Int)<p.params.l.length:=by omega
   rw[if_neg (show ¬(fun p:Pr=>decide (12<p.params.l.length)) p=true by simpa using hz)]
   simp[zhu,zlo,zd,hk,hp,hw,hz', -getElem?_pos,gEz]
 .rintro⟨⟩ F G ⟨rfl,rfl⟩
  simp[zhu,zlo,zd, -getElem?_pos,gEz]
end
end Go.Proofs.YtgamobngbenehaaGreatDoor
end
section
namespace Go.Proofs.YtgamobngbenehaaGreatDoor
open Go Go.RowKit
set_option linter.unusedVariables false
set_option linter.unusedSimpArgs false
set_option maxRecDepth 10000
set_option maxHeartbeats 4000000
theorem Kept.own {H0 G G':Heap} {id:Nat} (h:Kept none H0 G) (h':Kept (some id) G G') (hid:H0.length≤id):Kept none H0 G':=
 ⟨Nat.le_trans h.1 h'.1,fun j _ hj=>by rw[h'.2 j (by simp;omega) (by have:=h.1;omega),h.2 j (by simp) hj]⟩
def blk (b:Sl St):AV:=Sl.av St.av 8 b
section
attribute [local irreducible] okC okV
theorem Cs.pres_flat:∀l:List Cs,Cs.pres l=(l.map Cs.body).flatMap fun b=>St.pres b.l
 | []=>rfl
 |c::r=>by simp only[Cs.pres,Cs.pre_eq,Cs.pres_flat r,List.map_cons,List.flatMap_cons]
end
end Go.Proofs.YtgamobngbenehaaGreatDoor
end
