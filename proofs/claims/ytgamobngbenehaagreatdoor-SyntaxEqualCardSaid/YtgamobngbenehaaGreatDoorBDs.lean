/-
  The check of statements as the reference of layer 11 makes it, in plain terms: it is the same check (conditions: none). Operations on objects and shapes of statements, in the reference (conditions: none). The names of an expression, as the reference collects them (conditions: none). Kinds, fields and names of statements, as the reference checks them (conditions: none). Names of statements, as the reference checks them (conditions: none). The reference's check of a statement (conditions: none). Size and depth of statements, in the reference (conditions: none). Size of a source and depth of statements, in the reference (conditions: none). The statements in preorder, in the reference (conditions: none). The reference's check of a source (conditions: none). The size of statements as a sum over all that are listed (conditions: none). The reference's check of a source, whole; equality and greatness (conditions: none). Equality and greatness of sources in the reference; the statement SyntaxEqual (conditions: none).
-/
import Derived.Test.YtgamobngbenehaaGreatDoorBBs
import Derived.Test.YtgamobngbenehaaGreatDoorACs
import Derived.Test.YtgamobngbenehaaGreatDoorBEs
import Derived.Test.YtgamobngbenehaaGreatDoorBGs
section
namespace Go.Proofs.YtgamobngbenehaaGreatDoor
open Go Go.RowKit
set_option linter.unusedVariables false
set_option linter.unusedSimpArgs false
set_option maxRecDepth 10000
def rsh (k op:Int):Shp:=
 if k=1∨k=2 then ⟨1,0,0,1,1,false,false,false,false⟩
 else if k=3 then ⟨0,0,0,1,1,true,true,false,false⟩
 else if k=4∨k=5 then ⟨0,0,0,1,1,true,false,false,false⟩
 else if k=6∨k=7∨k=8∨k=9∨k=10∨k=24 then ⟨0,0,0,1,1,false,false,false,false⟩
 else if k=14 then ⟨2,0,0,2,2,true,false,false,false⟩
 else if k=15 then ⟨0,0,0,0,0,true,false,false,false⟩
 else if k=16∨k=18 then ⟨1,0,0,0,8,false,false,false,false⟩
 else if k=17 then ⟨1,0,1,0,8,false,false,false,false⟩
 else if k=19 then ⟨1,((opOf op).getD opZ).names,((opOf op).getD opZ).names,((opOf op).getD opZ).exprs,((opOf op).getD opZ).exprs,false,false,false,false⟩
 else if k=21 then ⟨1,1,1,1,1,false,false,false,false⟩
 else if k=22 then ⟨1,1,1,2,2,false,false,false,false⟩
 else if k=23 then ⟨0,0,0,2,2,false,false,false,false⟩
 else ⟨0,0,0,0,0,false,false,false,false⟩
theorem zox (k op:Int) (h:1≤k∧k≤24):(zL k op).1={rsh k op with cases:=decide (k=20),op:=decide (k=19)}:=by
 have hk:k=1∨k=2∨k=3∨k=4∨k=5∨k=6∨k=7∨k=8∨k=9∨k=10∨k=11∨k=12∨k=13∨k=14∨k=15∨k=16∨k=17∨k=18∨k=19∨k=20∨k=21∨k=22∨k=23∨k=24:=by omega
 rcases hk with rfl|rfl|rfl|rfl|rfl|rfl|rfl|rfl|rfl|rfl|rfl|rfl|rfl|rfl|rfl|rfl|rfl|rfl|rfl|rfl|rfl|rfl|rfl|rfl<;>rfl
theorem zjT (k op:Int) (h:1≤k∧k≤24):(zL k op).2=false↔k=19∧opOf op=none:=by
 have hk:k=1∨k=2∨k=3∨k=4∨k=5∨k=6∨k=7∨k=8∨k=9∨k=10∨k=11∨k=12∨k=13∨k=14∨k=15∨k=16∨k=17∨k=18∨k=19∨k=20∨k=21∨k=22∨k=23∨k=24:=by omega
 by_cases h19:k=19
 .subst h19
  have:(zL 19 op).2=(opOf op).isSome:=rfl
  rw[this]
  cases opOf op<;>simp
 .have:(zL k op).2=true:=by
   rcases hk with rfl|rfl|rfl|rfl|rfl|rfl|rfl|rfl|rfl|rfl|rfl|rfl|rfl|rfl|rfl|rfl|rfl|rfl|rfl|rfl|rfl|rfl|rfl|rfl<;>first|rfl|exact absurd rfl h19
  rw[this]
  simp[h19]
def zeE (x:St):Int:=
 if x.kind<1∨24<x.kind then 8
 else if x.kind=19∧opOf x.op=none then 8
 else if (x.cs.l.all fun c=>decide (1≤c.kind∧c.kind≤3))=false then 8
 else 0
def rBad (c:Cs):Bool:=(decide (c.kind=3)&& !decide (c.name=[]))||(!decide (c.kind=1)&& !zZ c.expr)||(decide (c.kind=2)&& !decide (c.names.l.length=2))||(!decide (c.kind=2)&&decide (0<c.names.l.length))
def zb1 (x:St):Bool:=
 if ((rsh x.kind x.op).name=0∧¬x.name=[])∨¬((rsh x.kind x.op).n0≤x.names.l.length∧(x.names.l.length:Int)≤(rsh x.kind x.op).n1)∨¬((rsh x.kind x.op).e0≤x.exprs.l.length∧(x.exprs.l.length:Int)≤(rsh x.kind x.op).e1)∨
   ((rsh x.kind x.op).body=false∧0<x.body.l.length)∨((rsh x.kind x.op).others=false∧0<x.els.l.length)∨(¬x.kind=19∧¬x.op=0) then false
 else if ¬x.kind=20 then decide (x.cs.l.length=0)
 else if x.cs.l.any rBad=true then false
 else decide (1≤x.cs.l.length∧x.cs.l.length≤6)
theorem zpe {c:Cs} (h:1≤c.kind∧c.kind≤3):rBad c= !casB c:=by
 have hk:c.kind=1∨c.kind=2∨c.kind=3:=by omega
 unfold rBad casB
 rcases hk with hk|hk|hk
 .rw[hk];cases hn:c.names.l<;>simp
 .rw[hk];cases zZ c.expr<;>simp
 .rw[hk];cases zZ c.expr<;>by_cases h1:c.name=[]<;>cases hn:c.names.l<;>simp[h1]
theorem zsP {l:List Cs} (h:∀c∈l,1≤c.kind∧c.kind≤3):l.any rBad= !l.all casB:=by
 induction l with
 |nil=>rfl
 |cons a r ih=>
  simp only[List.any_cons,List.all_cons,zpe (h a (by simp)),ih (fun c hc=>h c (by simp[hc])),Bool.not_and]
theorem zmU (x:St) (h:1≤x.kind∧x.kind≤24) (hc:∀c∈x.cs.l,1≤c.kind∧c.kind≤3):fldB x (zL x.kind x.op).1=zb1 x:=by
 rw[zox _ _ h]
 have h1:=zsP hc
 unfold fldB zb1
 generalize rsh x.kind x.op=s at *
 rw[h1]
 simp only
 by_cases a1:s.name=0∧¬x.name=[]
 .rw[if_pos (.inl (.inl (.inl a1))),if_pos (.inl a1)]
 by_cases a2:¬x.kind=19∧¬x.op=0
 .rw[if_pos (.inl (.inl (.inr ⟨by simpa using a2.1,a2.2⟩))),if_pos (.inr (.inr (.inr (.inr (.inr a2)))))]
 by_cases a3:s.body=false∧0<x.body.l.length
 .rw[if_pos (.inl (.inr a3)),if_pos (.inr (.inr (.inr (.inl a3))))]
 by_cases a4:s.others=false∧0<x.els.l.length
 .rw[if_pos (.inr a4),if_pos (.inr (.inr (.inr (.inr (.inl a4)))))]
 rw[if_neg (by
  rintro (((q|q)|q)|q)
  .exact a1 q
  .exact a2 ⟨by simpa using q.1,q.2⟩
  .exact a3 q
  .exact a4 q)]
 by_cases a5:((x.names.l.length:Int)<s.n0∨s.n1<x.names.l.length)∨(x.exprs.l.length:Int)<s.e0∨s.e1<x.exprs.l.length
 .rw[if_pos a5,if_pos (by
   rcases a5 with (q|q)|(q|q)
   .exact .inr (.inl (by omega))
   .exact .inr (.inl (by omega))
   .exact .inr (.inr (.inl (by omega)))
   .exact .inr (.inr (.inl (by omega))))]
 have nb:¬((s.name=0∧¬x.name=[])∨¬(s.n0≤x.names.l.length∧(x.names.l.length:Int)≤s.n1)∨¬(s.e0≤x.exprs.l.length∧(x.exprs.l.length:Int)≤s.e1)∨(s.body=false∧0<x.body.l.length)∨(s.others=false∧0<x.els.l.length)∨(¬x.kind=19∧¬x.op=0)):=by
  rintro (q|q|q|q|q|q)
  .exact a1 q
  .omega
  .omega
  .exact a3 q
  .exact a4 q
  .exact a2 q
 rw[if_neg a5,if_neg nb]
 clear nb a1 a2 a3 a4 a5 h1
 by_cases a6:x.kind=20
 .simp only[a6,decide_true,Bool.true_eq_false,if_false,not_true_eq_false]
  cases x.cs.l.all casB with
  |true=>
   simp only[Bool.not_true,Bool.false_eq_true,if_false]
   by_cases a7:1≤x.cs.l.length∧x.cs.l.length≤6
   .rw[if_pos (by omega),decide_eq_true a7]
   .rw[if_neg (by omega),decide_eq_false a7]
  |false=>simp
 .simp only[a6,decide_false,if_true,not_false_eq_true]
  cases x.cs.l<;>simp
def zcH (x:St):Int:=
 if ((rsh x.kind x.op).name=1∨(rsh x.kind x.op).name=2∧¬x.name=[])∧zaa x.name=false then 5
 else if (x.names.l++x.cs.l.flatMap fun c=>if c.kind=3 then [] else c.name::c.names.l).all zaa=false then 5
 else if 1<defs x.cs.l then 6
 else 0
theorem zj2 (x:St) (h:1≤x.kind∧x.kind≤24) (hf:zb1 x=true):zcH x=if namB x (zL x.kind x.op).1=false then 5 else if 1<defs x.cs.l then 6 else 0:=by
 have h3:∀c∈x.cs.l,c.kind=3→c.names.l=[]:=by
  intro c hc hk
  unfold zb1 at hf
  split at hf
  .cases hf
  .split at hf
   .have:=of_decide_eq_true hf
    rw[List.length_eq_zero_iff.1 this]at hc;cases hc
   .split at hf
    .cases hf
    .rename_i hb
     have h4:rBad c=false:=by
      cases hbc:rBad c with
      |false=>rfl
      |true=>exact absurd (List.any_eq_true.2 ⟨c,hc,hbc⟩) hb
     unfold rBad at h4
     rw[hk]at h4
     cases hn:c.names.l with
     |nil=>rfl
     |cons a r=>rw[hn]at h4;simp at h4
 have h5:(x.names.l++x.cs.l.flatMap fun c=>if c.kind=3 then [] else c.name::c.names.l).all zaa=(x.names.l.all zaa&&x.cs.l.all fun c=>(decide (c.kind=3)||zaa c.name)&&c.names.l.all zaa):=by
  rw[List.all_append]
  congr 1
  generalize x.cs.l=l at h3
  induction l with
  |nil=>rfl
  |cons a r ih=>
   simp only[List.flatMap_cons,List.all_append,List.all_cons,ih (fun c hc=>h3 c (by simp[hc]))]
   congr 1
   by_cases hk:a.kind=3
   .simp[hk,h3 a (by simp) hk]
   .simp[hk]
 have h6:(zL x.kind x.op).1.name=(rsh x.kind x.op).name:=by rw[zox _ _ h]
 unfold zcH namB
 rw[h5,h6]
 by_cases a1:((rsh x.kind x.op).name=1∨(rsh x.kind x.op).name=2∧¬x.name=[])∧zaa x.name=false
 .rw[if_pos a1,if_pos a1];simp
 .rw[if_neg a1,if_neg a1]
def zmT (x:St):Int:=
 if zeE x≠0 then zeE x else if zb1 x=false then 1 else if zcH x≠0 then zcH x else exsI x
theorem zie (x:St):zmT x=zR x:=by
 unfold zmT zeE zR
 by_cases h1:x.kind<1∨24<x.kind
 .have:=zjS x.kind x.op h1
  rw[if_pos h1,this]
  simp
 have hk:1≤x.kind∧x.kind≤24:=by omega
 have hs:=zjT x.kind x.op hk
 rw[if_neg h1]
 by_cases h2:x.kind=19∧opOf x.op=none
 .have h3:(zL x.kind x.op).2=false∨(x.cs.l.all fun c=>decide (1≤c.kind∧c.kind≤3))=false:= .inl (hs.2 h2)
  rw[if_pos h2,if_pos h3];simp
 rw[if_neg h2]
 have hs2:¬(zL x.kind x.op).2=false:=fun e=>h2 (hs.1 e)
 cases h3:x.cs.l.all fun c=>decide (1≤c.kind∧c.kind≤3) with
 |false=>simp
 |true=>
 have hc:∀c∈x.cs.l,1≤c.kind∧c.kind≤3:=fun c hc=>of_decide_eq_true (List.all_eq_true.1 h3 c hc)
 have h5:¬((zL x.kind x.op).2=false∨true=false):=by
  rintro (q|q)
  .exact hs2 q
  .cases q
 rw[if_neg h5,zmU x hk hc]
 simp only[Bool.true_eq_false,if_false,ne_eq,not_true_eq_false]
 cases h4:zb1 x with
 |false=>simp
 |true=>
 simp only[Bool.true_eq_false,if_false]
 rw[zj2 x hk h4]
 cases namB x (zL x.kind x.op).1 with
 |false=>simp
 |true=>
 by_cases h5:1<defs x.cs.l
 .simp[h5]
 .simp[h5]
end Go.Proofs.YtgamobngbenehaaGreatDoor
end
section
namespace Go.Proofs.YtgamobngbenehaaGreatDoor
open Go Go.RowKit
set_option linter.unusedVariables false
set_option linter.unusedSimpArgs false
set_option maxRecDepth 10000
def opR (n:Int):AV:= .tuple [.str ((opOf n).getD opZ).word,I ((opOf n).getD opZ).exprs,I ((opOf n).getD opZ).names]
theorem zt3:W.pure 196 [I 0]=some (opR 0):=(zo 60).pure _ _ _ (by kernel_rfl)
theorem zt2:W.pure 196 [I 1]=some (opR 1):=(zo 60).pure _ _ _ (by kernel_rfl)
theorem zt1:W.pure 196 [I 2]=some (opR 2):=(zo 60).pure _ _ _ (by kernel_rfl)
theorem zt0:W.pure 196 [I 3]=some (opR 3):=(zo 60).pure _ _ _ (by kernel_rfl)
theorem ztZ:W.pure 196 [I 4]=some (opR 4):=(zo 60).pure _ _ _ (by kernel_rfl)
theorem ztY:W.pure 196 [I 5]=some (opR 5):=(zo 60).pure _ _ _ (by kernel_rfl)
theorem ztX:W.pure 196 [I 6]=some (opR 6):=(zo 60).pure _ _ _ (by kernel_rfl)
theorem ztW:W.pure 196 [I 7]=some (opR 7):=(zo 60).pure _ _ _ (by kernel_rfl)
theorem ztV:W.pure 196 [I 8]=some (opR 8):=(zo 60).pure _ _ _ (by kernel_rfl)
theorem ztU:W.pure 196 [I 9]=some (opR 9):=(zo 60).pure _ _ _ (by kernel_rfl)
theorem zrh:W.pure 196 [I 10]=some (opR 10):=(zo 60).pure _ _ _ (by kernel_rfl)
theorem zrg:W.pure 196 [I 11]=some (opR 11):=(zo 60).pure _ _ _ (by kernel_rfl)
theorem zrf:W.pure 196 [I 12]=some (opR 12):=(zo 60).pure _ _ _ (by kernel_rfl)
theorem zre:W.pure 196 [I 13]=some (opR 13):=(zo 60).pure _ _ _ (by kernel_rfl)
theorem zrd:W.pure 196 [I 14]=some (opR 14):=(zo 60).pure _ _ _ (by kernel_rfl)
theorem zrc:W.pure 196 [I 15]=some (opR 15):=(zo 60).pure _ _ _ (by kernel_rfl)
theorem zrb:W.pure 196 [I 16]=some (opR 16):=(zo 60).pure _ _ _ (by kernel_rfl)
theorem zra:W.pure 196 [I 17]=some (opR 17):=(zo 60).pure _ _ _ (by kernel_rfl)
theorem zq9:W.pure 196 [I 18]=some (opR 18):=(zo 60).pure _ _ _ (by kernel_rfl)
theorem zq8:W.pure 196 [I 19]=some (opR 19):=(zo 60).pure _ _ _ (by kernel_rfl)
theorem zq7:W.pure 196 [I 20]=some (opR 20):=(zo 60).pure _ _ _ (by kernel_rfl)
theorem zq6:W.pure 196 [I 21]=some (opR 21):=(zo 60).pure _ _ _ (by kernel_rfl)
theorem zq5:W.pure 196 [I 22]=some (opR 22):=(zo 60).pure _ _ _ (by kernel_rfl)
theorem zq4:W.pure 196 [I 23]=some (opR 23):=(zo 60).pure _ _ _ (by kernel_rfl)
theorem zq3:W.pure 196 [I 24]=some (opR 24):=(zo 60).pure _ _ _ (by kernel_rfl)
theorem zq2:W.pure 196 [I 25]=some (opR 25):=(zo 60).pure _ _ _ (by kernel_rfl)
theorem zq1:W.pure 196 [I 26]=some (opR 26):=(zo 60).pure _ _ _ (by kernel_rfl)
theorem zq0:W.pure 196 [I 27]=some (opR 27):=(zo 60).pure _ _ _ (by kernel_rfl)
theorem zqZ:W.pure 196 [I 28]=some (opR 28):=(zo 60).pure _ _ _ (by kernel_rfl)
theorem zqY:W.pure 196 [I 29]=some (opR 29):=(zo 60).pure _ _ _ (by kernel_rfl)
theorem zqX:W.pure 196 [I 30]=some (opR 30):=(zo 60).pure _ _ _ (by kernel_rfl)
theorem zqW:W.pure 196 [I 31]=some (opR 31):=(zo 60).pure _ _ _ (by kernel_rfl)
theorem zqV:W.pure 196 [I 32]=some (opR 32):=(zo 60).pure _ _ _ (by kernel_rfl)
theorem zqU:W.pure 196 [I 33]=some (opR 33):=(zo 60).pure _ _ _ (by kernel_rfl)
theorem zqT:W.pure 196 [I 34]=some (opR 34):=(zo 60).pure _ _ _ (by kernel_rfl)
theorem zqS:W.pure 196 [I 35]=some (opR 35):=(zo 60).pure _ _ _ (by kernel_rfl)
theorem zqR:W.pure 196 [I 36]=some (opR 36):=(zo 60).pure _ _ _ (by kernel_rfl)
theorem zqQ:W.pure 196 [I 37]=some (opR 37):=(zo 60).pure _ _ _ (by kernel_rfl)
theorem zqP:W.pure 196 [I 38]=some (opR 38):=(zo 60).pure _ _ _ (by kernel_rfl)
theorem zqO:W.pure 196 [I 39]=some (opR 39):=(zo 60).pure _ _ _ (by kernel_rfl)
theorem zqN:W.pure 196 [I 40]=some (opR 40):=(zo 60).pure _ _ _ (by kernel_rfl)
theorem zqM:W.pure 196 [I 41]=some (opR 41):=(zo 60).pure _ _ _ (by kernel_rfl)
theorem zqL:W.pure 196 [I 42]=some (opR 42):=(zo 60).pure _ _ _ (by kernel_rfl)
theorem zqK:W.pure 196 [I 43]=some (opR 43):=(zo 60).pure _ _ _ (by kernel_rfl)
theorem zqJ:W.pure 196 [I 44]=some (opR 44):=(zo 60).pure _ _ _ (by kernel_rfl)
theorem zqI:W.pure 196 [I 45]=some (opR 45):=(zo 60).pure _ _ _ (by kernel_rfl)
theorem zqH:W.pure 196 [I 46]=some (opR 46):=(zo 60).pure _ _ _ (by kernel_rfl)
theorem zqG:W.pure 196 [I 47]=some (opR 47):=(zo 60).pure _ _ _ (by kernel_rfl)
theorem zqF:W.pure 196 [I 48]=some (opR 48):=(zo 60).pure _ _ _ (by kernel_rfl)
theorem zqE:W.pure 196 [I 49]=some (opR 49):=(zo 60).pure _ _ _ (by kernel_rfl)
theorem zqD:W.pure 196 [I 50]=some (opR 50):=(zo 60).pure _ _ _ (by kernel_rfl)
theorem zqC:W.pure 196 [I 51]=some (opR 51):=(zo 60).pure _ _ _ (by kernel_rfl)
theorem zqB:W.pure 196 [I 52]=some (opR 52):=(zo 60).pure _ _ _ (by kernel_rfl)
theorem zqA:W.pure 196 [I 53]=some (opR 53):=(zo 60).pure _ _ _ (by kernel_rfl)
theorem zqz:W.pure 196 [I 54]=some (opR 54):=(zo 60).pure _ _ _ (by kernel_rfl)
theorem zqy:W.pure 196 [I 55]=some (opR 55):=(zo 60).pure _ _ _ (by kernel_rfl)
theorem zqx:W.pure 196 [I 56]=some (opR 56):=(zo 60).pure _ _ _ (by kernel_rfl)
theorem zqw:W.pure 196 [I 57]=some (opR 57):=(zo 60).pure _ _ _ (by kernel_rfl)
theorem zqv:W.pure 196 [I 58]=some (opR 58):=(zo 60).pure _ _ _ (by kernel_rfl)
theorem zqu:W.pure 196 [I 59]=some (opR 59):=(zo 60).pure _ _ _ (by kernel_rfl)
theorem zqt:W.pure 196 [I 60]=some (opR 60):=(zo 60).pure _ _ _ (by kernel_rfl)
theorem zqs:W.pure 196 [I 61]=some (opR 61):=(zo 60).pure _ _ _ (by kernel_rfl)
theorem zqr:W.pure 196 [I 62]=some (opR 62):=(zo 60).pure _ _ _ (by kernel_rfl)
theorem zqq:W.pure 196 [I 63]=some (opR 63):=(zo 60).pure _ _ _ (by kernel_rfl)
theorem zqp:W.pure 196 [I 64]=some (opR 64):=(zo 60).pure _ _ _ (by kernel_rfl)
theorem zqo:W.pure 196 [I 65]=some (opR 65):=(zo 60).pure _ _ _ (by kernel_rfl)
theorem zqn:W.pure 196 [I 66]=some (opR 66):=(zo 60).pure _ _ _ (by kernel_rfl)
theorem zqm:W.pure 196 [I 67]=some (opR 67):=(zo 60).pure _ _ _ (by kernel_rfl)
theorem zql:W.pure 196 [I 68]=some (opR 68):=(zo 60).pure _ _ _ (by kernel_rfl)
theorem zqk:W.pure 196 [I 69]=some (opR 69):=(zo 60).pure _ _ _ (by kernel_rfl)
theorem zqj:W.pure 196 [I 70]=some (opR 70):=(zo 60).pure _ _ _ (by kernel_rfl)
theorem zqi:W.pure 196 [I 71]=some (opR 71):=(zo 60).pure _ _ _ (by kernel_rfl)
theorem zqh:W.pure 196 [I 72]=some (opR 72):=(zo 60).pure _ _ _ (by kernel_rfl)
theorem zqg:W.pure 196 [I 73]=some (opR 73):=(zo 60).pure _ _ _ (by kernel_rfl)
theorem zqf:W.pure 196 [I 74]=some (opR 74):=(zo 60).pure _ _ _ (by kernel_rfl)
theorem zgf (n:Int) (h:∀o∈opT,¬o.op=n):opOf n=none:=by
 unfold opOf
 rw[List.find?_eq_none]
 intro o ho
 simp[h o ho]
theorem zoz:∀o∈opT,0≤o.op∧o.op<75:=by decide
theorem ztS (k:Nat):W.pure 196 [I (Int.ofNat (k+75))]=some (.tuple [.str [],I 0,I 0]):=(zo 60).pure _ _ _ (by kernel_rfl)
theorem ztT (k:Nat):W.pure 196 [I (Int.negSucc k)]=some (.tuple [.str [],I 0,I 0]):=(zo 60).pure _ _ _ (by kernel_rfl)
theorem zil {n:Int} (h:opOf n=none):opR n= .tuple [.str [],I 0,I 0]:=by unfold opR;rw[h];rfl
theorem d196 (n:Int):W.pure 196 [I n]=some (opR n):=by
 by_cases h0:n=0
 .subst h0;exact zt3
 by_cases h1:n=1
 .subst h1;exact zt2
 by_cases h2:n=2
 .subst h2;exact zt1
 by_cases h3:n=3
 .subst h3;exact zt0
 by_cases h4:n=4
 .subst h4;exact ztZ
 by_cases h5:n=5
 .subst h5;exact ztY
 by_cases h6:n=6
 .subst h6;exact ztX
 by_cases h7:n=7
 .subst h7;exact ztW
 by_cases h8:n=8
 .subst h8;exact ztV
 by_cases h9:n=9
 .subst h9;exact ztU
 by_cases h10:n=10
 .subst h10;exact zrh
 by_cases h11:n=11
 .subst h11;exact zrg
 by_cases h12:n=12
 .subst h12;exact zrf
 by_cases h13:n=13
 .subst h13;exact zre
 by_cases h14:n=14
 .subst h14;exact zrd
 by_cases h15:n=15
 .subst h15;exact zrc
 by_cases h16:n=16
 .subst h16;exact zrb
 by_cases h17:n=17
 .subst h17;exact zra
 by_cases h18:n=18
 .subst h18;exact zq9
 by_cases h19:n=19
 .subst h19;exact zq8
 by_cases h20:n=20
 .subst h20;exact zq7
 by_cases h21:n=21
 .subst h21;exact zq6
 by_cases h22:n=22
 .subst h22;exact zq5
 by_cases h23:n=23
 .subst h23;exact zq4
 by_cases h24:n=24
 .subst h24;exact zq3
 by_cases h25:n=25
 .subst h25;exact zq2
 by_cases h26:n=26
 .subst h26;exact zq1
 by_cases h27:n=27
 .subst h27;exact zq0
 by_cases h28:n=28
 .subst h28;exact zqZ
 by_cases h29:n=29
 .subst h29;exact zqY
 by_cases h30:n=30
 .subst h30;exact zqX
 by_cases h31:n=31
 .subst h31;exact zqW
 by_cases h32:n=32
 .subst h32;exact zqV
 by_cases h33:n=33
 .subst h33;exact zqU
 by_cases h34:n=34
 .subst h34;exact zqT
 by_cases h35:n=35
 .subst h35;exact zqS
 by_cases h36:n=36
 .subst h36;exact zqR
 by_cases h37:n=37
 .subst h37;exact zqQ
 by_cases h38:n=38
 .subst h38;exact zqP
 by_cases h39:n=39
 .subst h39;exact zqO
 by_cases h40:n=40
 .subst h40;exact zqN
 by_cases h41:n=41
 .subst h41;exact zqM
 by_cases h42:n=42
 .subst h42;exact zqL
 by_cases h43:n=43
 .subst h43;exact zqK
 by_cases h44:n=44
 .subst h44;exact zqJ
 by_cases h45:n=45
 .subst h45;exact zqI
 by_cases h46:n=46
 .subst h46;exact zqH
 by_cases h47:n=47
 .subst h47;exact zqG
 by_cases h48:n=48
 .subst h48;exact zqF
 by_cases h49:n=49
 .subst h49;exact zqE
 by_cases h50:n=50
 .subst h50;exact zqD
 by_cases h51:n=51
 .subst h51;exact zqC
 by_cases h52:n=52
 .subst h52;exact zqB
 by_cases h53:n=53
 .subst h53;exact zqA
 by_cases h54:n=54
 .subst h54;exact zqz
 by_cases h55:n=55
 .subst h55;exact zqy
 by_cases h56:n=56
 .subst h56;exact zqx
 by_cases h57:n=57
 .subst h57;exact zqw
 by_cases h58:n=58
 .subst h58;exact zqv
 by_cases h59:n=59
 .subst h59;exact zqu
 by_cases h60:n=60
 .subst h60;exact zqt
 by_cases h61:n=61
 .subst h61;exact zqs
 by_cases h62:n=62
 .subst h62;exact zqr
 by_cases h63:n=63
 .subst h63;exact zqq
 by_cases h64:n=64
 .subst h64;exact zqp
 by_cases h65:n=65
 .subst h65;exact zqo
 by_cases h66:n=66
 .subst h66;exact zqn
 by_cases h67:n=67
 .subst h67;exact zqm
 by_cases h68:n=68
 .subst h68;exact zql
 by_cases h69:n=69
 .subst h69;exact zqk
 by_cases h70:n=70
 .subst h70;exact zqj
 by_cases h71:n=71
 .subst h71;exact zqi
 by_cases h72:n=72
 .subst h72;exact zqh
 by_cases h73:n=73
 .subst h73;exact zqg
 by_cases h74:n=74
 .subst h74;exact zqf
 rcases n with k|k
 .obtain⟨m,rfl⟩:∃m,k=m+75:=⟨k - 75,by simp at *;omega⟩
  rw[zil (zgf _ (fun o ho e=>by have:=zoz o ho;rw[e]at this;simp at this;omega))]
  exact ztS m
 .rw[zil (zgf _ (fun o ho e=>by have:=zoz o ho;rw[e]at this;simp at this))]
  exact ztT k
theorem zm1:∀o∈opT,¬o.word=[]:=by decide
theorem zge (n:Int):((opOf n).getD opZ).word=[]↔opOf n=none:=by
 cases h:opOf n with
 |none=>simp[opZ]
 |some o=>
  have:=zm1 o (List.mem_of_find?_eq_some h)
  simp[this]
def zmp:List AV→Option AV
 | [.int .i64 n]=>some (opR n)
 |_=>none
theorem zmo:∀a r,zmp a=some r→W.pure 196 a=some r:=by
 intro a r h
 unfold zmp at h
 split at h
 .cases h;exact d196 _
 .cases h
def Shp.rv (s:Shp):AV:= .agg [I s.name,I s.n0,I s.n1,I s.e0,I s.e1,.bool s.body,.bool s.others]
theorem ztR (o:Int) (n:List UInt8) (ns:Sl (List UInt8)) (es:Sl Ex) (b e:Sl St) (c:Sl Cs):W.pure 197 [(St.of 1 o n ns es b e c).av]=some (rsh 1 o).rv:=(zo 60).pure _ _ _ (by kernel_rfl)
theorem ztQ (o:Int) (n:List UInt8) (ns:Sl (List UInt8)) (es:Sl Ex) (b e:Sl St) (c:Sl Cs):W.pure 197 [(St.of 2 o n ns es b e c).av]=some (rsh 2 o).rv:=(zo 60).pure _ _ _ (by kernel_rfl)
theorem ztP (o:Int) (n:List UInt8) (ns:Sl (List UInt8)) (es:Sl Ex) (b e:Sl St) (c:Sl Cs):W.pure 197 [(St.of 3 o n ns es b e c).av]=some (rsh 3 o).rv:=(zo 60).pure _ _ _ (by kernel_rfl)
theorem ztO (o:Int) (n:List UInt8) (ns:Sl (List UInt8)) (es:Sl Ex) (b e:Sl St) (c:Sl Cs):W.pure 197 [(St.of 4 o n ns es b e c).av]=some (rsh 4 o).rv:=(zo 60).pure _ _ _ (by kernel_rfl)
theorem ztN (o:Int) (n:List UInt8) (ns:Sl (List UInt8)) (es:Sl Ex) (b e:Sl St) (c:Sl Cs):W.pure 197 [(St.of 5 o n ns es b e c).av]=some (rsh 5 o).rv:=(zo 60).pure _ _ _ (by kernel_rfl)
theorem ztM (o:Int) (n:List UInt8) (ns:Sl (List UInt8)) (es:Sl Ex) (b e:Sl St) (c:Sl Cs):W.pure 197 [(St.of 6 o n ns es b e c).av]=some (rsh 6 o).rv:=(zo 60).pure _ _ _ (by kernel_rfl)
theorem ztL (o:Int) (n:List UInt8) (ns:Sl (List UInt8)) (es:Sl Ex) (b e:Sl St) (c:Sl Cs):W.pure 197 [(St.of 7 o n ns es b e c).av]=some (rsh 7 o).rv:=(zo 60).pure _ _ _ (by kernel_rfl)
theorem ztK (o:Int) (n:List UInt8) (ns:Sl (List UInt8)) (es:Sl Ex) (b e:Sl St) (c:Sl Cs):W.pure 197 [(St.of 8 o n ns es b e c).av]=some (rsh 8 o).rv:=(zo 60).pure _ _ _ (by kernel_rfl)
theorem ztJ (o:Int) (n:List UInt8) (ns:Sl (List UInt8)) (es:Sl Ex) (b e:Sl St) (c:Sl Cs):W.pure 197 [(St.of 9 o n ns es b e c).av]=some (rsh 9 o).rv:=(zo 60).pure _ _ _ (by kernel_rfl)
theorem zqe (o:Int) (n:List UInt8) (ns:Sl (List UInt8)) (es:Sl Ex) (b e:Sl St) (c:Sl Cs):W.pure 197 [(St.of 10 o n ns es b e c).av]=some (rsh 10 o).rv:=(zo 60).pure _ _ _ (by kernel_rfl)
theorem zqd (o:Int) (n:List UInt8) (ns:Sl (List UInt8)) (es:Sl Ex) (b e:Sl St) (c:Sl Cs):W.pure 197 [(St.of 11 o n ns es b e c).av]=some (rsh 11 o).rv:=(zo 60).pure _ _ _ (by kernel_rfl)
theorem zqc (o:Int) (n:List UInt8) (ns:Sl (List UInt8)) (es:Sl Ex) (b e:Sl St) (c:Sl Cs):W.pure 197 [(St.of 12 o n ns es b e c).av]=some (rsh 12 o).rv:=(zo 60).pure _ _ _ (by kernel_rfl)
theorem zqb (o:Int) (n:List UInt8) (ns:Sl (List UInt8)) (es:Sl Ex) (b e:Sl St) (c:Sl Cs):W.pure 197 [(St.of 13 o n ns es b e c).av]=some (rsh 13 o).rv:=(zo 60).pure _ _ _ (by kernel_rfl)
theorem zqa (o:Int) (n:List UInt8) (ns:Sl (List UInt8)) (es:Sl Ex) (b e:Sl St) (c:Sl Cs):W.pure 197 [(St.of 14 o n ns es b e c).av]=some (rsh 14 o).rv:=(zo 60).pure _ _ _ (by kernel_rfl)
theorem zp9 (o:Int) (n:List UInt8) (ns:Sl (List UInt8)) (es:Sl Ex) (b e:Sl St) (c:Sl Cs):W.pure 197 [(St.of 15 o n ns es b e c).av]=some (rsh 15 o).rv:=(zo 60).pure _ _ _ (by kernel_rfl)
theorem zp8 (o:Int) (n:List UInt8) (ns:Sl (List UInt8)) (es:Sl Ex) (b e:Sl St) (c:Sl Cs):W.pure 197 [(St.of 16 o n ns es b e c).av]=some (rsh 16 o).rv:=(zo 60).pure _ _ _ (by kernel_rfl)
theorem zp7 (o:Int) (n:List UInt8) (ns:Sl (List UInt8)) (es:Sl Ex) (b e:Sl St) (c:Sl Cs):W.pure 197 [(St.of 17 o n ns es b e c).av]=some (rsh 17 o).rv:=(zo 60).pure _ _ _ (by kernel_rfl)
theorem zp6 (o:Int) (n:List UInt8) (ns:Sl (List UInt8)) (es:Sl Ex) (b e:Sl St) (c:Sl Cs):W.pure 197 [(St.of 18 o n ns es b e c).av]=some (rsh 18 o).rv:=(zo 60).pure _ _ _ (by kernel_rfl)
theorem zp4 (o:Int) (n:List UInt8) (ns:Sl (List UInt8)) (es:Sl Ex) (b e:Sl St) (c:Sl Cs):W.pure 197 [(St.of 20 o n ns es b e c).av]=some (rsh 20 o).rv:=(zo 60).pure _ _ _ (by kernel_rfl)
theorem zp3 (o:Int) (n:List UInt8) (ns:Sl (List UInt8)) (es:Sl Ex) (b e:Sl St) (c:Sl Cs):W.pure 197 [(St.of 21 o n ns es b e c).av]=some (rsh 21 o).rv:=(zo 60).pure _ _ _ (by kernel_rfl)
theorem zp2 (o:Int) (n:List UInt8) (ns:Sl (List UInt8)) (es:Sl Ex) (b e:Sl St) (c:Sl Cs):W.pure 197 [(St.of 22 o n ns es b e c).av]=some (rsh 22 o).rv:=(zo 60).pure _ _ _ (by kernel_rfl)
theorem zp1 (o:Int) (n:List UInt8) (ns:Sl (List UInt8)) (es:Sl Ex) (b e:Sl St) (c:Sl Cs):W.pure 197 [(St.of 23 o n ns es b e c).av]=some (rsh 23 o).rv:=(zo 60).pure _ _ _ (by kernel_rfl)
theorem zp0 (o:Int) (n:List UInt8) (ns:Sl (List UInt8)) (es:Sl Ex) (b e:Sl St) (c:Sl Cs):W.pure 197 [(St.of 24 o n ns es b e c).av]=some (rsh 24 o).rv:=(zo 60).pure _ _ _ (by kernel_rfl)
theorem zp5 (o:Int) (n:List UInt8) (ns:Sl (List UInt8)) (es:Sl Ex) (b e:Sl St) (c:Sl Cs):W.pure 197 [(St.of 19 o n ns es b e c).av]=some (rsh 19 o).rv:=
 orc (oneR 196 zmp) (zoA zmo) (by kernel_rfl)
theorem ztH (k:Nat) (o:Int) (n:List UInt8) (ns:Sl (List UInt8)) (es:Sl Ex) (b e:Sl St) (c:Sl Cs):W.pure 197 [(St.of (Int.ofNat (k+25)) o n ns es b e c).av]=some shZ.rv:=(zo 60).pure _ _ _ (by kernel_rfl)
theorem ztI (k:Nat) (o:Int) (n:List UInt8) (ns:Sl (List UInt8)) (es:Sl Ex) (b e:Sl St) (c:Sl Cs):W.pure 197 [(St.of (Int.negSucc k) o n ns es b e c).av]=some shZ.rv:=(zo 60).pure _ _ _ (by kernel_rfl)
theorem ztG (o:Int) (n:List UInt8) (ns:Sl (List UInt8)) (es:Sl Ex) (b e:Sl St) (c:Sl Cs):W.pure 197 [(St.of 0 o n ns es b e c).av]=some shZ.rv:=(zo 60).pure _ _ _ (by kernel_rfl)
theorem zpc (k o:Int) (h:k<1∨24<k):rsh k o=shZ:=by
 unfold rsh
 rw[if_neg (by omega),if_neg (by omega),if_neg (by omega),if_neg (by omega),if_neg (by omega),if_neg (by omega),if_neg (by omega),if_neg (by omega),if_neg (by omega),if_neg (by omega),if_neg (by omega),if_neg (by omega)]
 rfl
theorem k197 (k:Int) (o:Int) (n:List UInt8) (ns:Sl (List UInt8)) (es:Sl Ex) (b e:Sl St) (c:Sl Cs):W.pure 197 [(St.of k o n ns es b e c).av]=some (rsh k o).rv:=by
 by_cases h1:k=1
 .subst h1;exact ztR _ _ _ _ _ _ _
 by_cases h2:k=2
 .subst h2;exact ztQ _ _ _ _ _ _ _
 by_cases h3:k=3
 .subst h3;exact ztP _ _ _ _ _ _ _
 by_cases h4:k=4
 .subst h4;exact ztO _ _ _ _ _ _ _
 by_cases h5:k=5
 .subst h5;exact ztN _ _ _ _ _ _ _
 by_cases h6:k=6
 .subst h6;exact ztM _ _ _ _ _ _ _
 by_cases h7:k=7
 .subst h7;exact ztL _ _ _ _ _ _ _
 by_cases h8:k=8
 .subst h8;exact ztK _ _ _ _ _ _ _
 by_cases h9:k=9
 .subst h9;exact ztJ _ _ _ _ _ _ _
 by_cases h10:k=10
 .subst h10;exact zqe _ _ _ _ _ _ _
 by_cases h11:k=11
 .subst h11;exact zqd _ _ _ _ _ _ _
 by_cases h12:k=12
 .subst h12;exact zqc _ _ _ _ _ _ _
 by_cases h13:k=13
 .subst h13;exact zqb _ _ _ _ _ _ _
 by_cases h14:k=14
 .subst h14;exact zqa _ _ _ _ _ _ _
 by_cases h15:k=15
 .subst h15;exact zp9 _ _ _ _ _ _ _
 by_cases h16:k=16
 .subst h16;exact zp8 _ _ _ _ _ _ _
 by_cases h17:k=17
 .subst h17;exact zp7 _ _ _ _ _ _ _
 by_cases h18:k=18
 .subst h18;exact zp6 _ _ _ _ _ _ _
 by_cases h19:k=19
 .subst h19;exact zp5 _ _ _ _ _ _ _
 by_cases h20:k=20
 .subst h20;exact zp4 _ _ _ _ _ _ _
 by_cases h21:k=21
 .subst h21;exact zp3 _ _ _ _ _ _ _
 by_cases h22:k=22
 .subst h22;exact zp2 _ _ _ _ _ _ _
 by_cases h23:k=23
 .subst h23;exact zp1 _ _ _ _ _ _ _
 by_cases h24:k=24
 .subst h24;exact zp0 _ _ _ _ _ _ _
 rw[zpc k o (by omega)]
 rcases k with k|k
 .rcases k with _|k
  .exact ztG _ _ _ _ _ _ _
  .obtain⟨m,rfl⟩:∃m,k=m+24:=⟨k - 24,by simp at *;omega⟩
   exact ztH m _ _ _ _ _ _ _
 .exact ztI k _ _ _ _ _ _ _
theorem d197 (x:St):W.pure 197 [x.av]=some (rsh x.kind x.op).rv:=by
 have h:=k197 x.kind x.op x.name x.names x.exprs x.body x.els x.cs
 rwa [←St.eta x]at h
end Go.Proofs.YtgamobngbenehaaGreatDoor
end
section
namespace Go.Proofs.YtgamobngbenehaaGreatDoor
open Go Go.RowKit
set_option linter.unusedVariables false
set_option linter.unusedSimpArgs false
set_option maxRecDepth 10000
set_option maxHeartbeats 2000000
theorem zb4 {α:Type} (f:α→Int):∀(l:List α) (k:Nat),zcr (ρ:=Int) (fun _ a (_:Unit)=>if f a≠0 then .inr (f a) else .inl ()) k l ()=if zH f l≠0 then .inr (zH f l) else .inl ()
 | [],k=>by simp[zcr,zH]
 |a::r,k=>by
  unfold zcr
  simp only[zH]
  by_cases h:f a=0
  .simp only[h,ne_eq,not_true_eq_false,if_false];exact zb4 f r (k+1)
  .simp only[h,ne_eq,not_false_eq_true,if_true]
theorem za1 {α:Type} (p:α→Bool):∀(l:List α) (k:Nat),zcr (ρ:=Unit) (fun _ a (_:Unit)=>if p a=true then .inr () else .inl ()) k l ()=if l.any p=true then .inr () else .inl ()
 | [],k=>by simp[zcr]
 |a::r,k=>by
  unfold zcr
  rw[List.any_cons]
  cases h:p a with
  |true=>simp
  |false=>simpa using za1 p r (k+1)
theorem Grow.app1 {H:Heap} {sz:Nat} {o:Option Nat} {v:AV} {l:List AV} (h:Grow H sz o v l) (x:AV) (hx:x.cells.all AV.cell=true) (hr:l.length<zS):
  ∃o' v' H',ex H (.app sz) [v,.isl (some false) sz [x]]=some (v',H')∧Grow H' sz o' v' (l++[x])∧Kept o H H'∧∀i,o'=some i→o=some i∨(o=none∧i=H.length):=by
 obtain⟨o',v',H',a1,a2,a3,a4,a5⟩:=h.app (y:= .isl (some false) sz [x]) (xs:=[x]) (by simp) (by simpa using hx) (by simp;omega)
 refine⟨o',v',H',a1,a2,a3,fun i hi=>?_⟩
 rcases a4 with rfl|⟨h1,h2,_⟩
 .exact .inl hi
 .rw[h2]at hi;cases hi;exact .inr ⟨h1,rfl⟩
theorem Grow.slG {α:Type} {f:α→AV} {H:Heap} {sz n:Nat} {o:Option Nat} {v:AV} {l:List α} (h:Grow H sz o v (l.map f)) (hf:(l.map f).all (fun e=>e.cells.all AV.still)=true):∃s:Sl α,Go.Proofs.YtgamobngbenehaaGreatDoor.frz H (n+1) v=some (Sl.av f sz s)∧s.l=l:=by
 rw[h.frz hf]
 cases o with
 |none=>
  have h2:l=[]:=by simpa using h.2
  exact⟨zbS,by simp[Sl.av],by rw[h2]⟩
 |some id=>exact⟨ofL sz l,by simp;exact zoL l,rfl⟩
theorem zfT (l:List (List UInt8)):(l.map AV.str).all (fun e=>e.cells.all AV.still)=true:=by
 rw[List.all_eq_true]
 intro e he
 obtain⟨s,_,rfl⟩:=List.mem_map.1 he
 rfl
section
attribute [local irreducible] okC okV
theorem d278 (x:Sl (List UInt8)) (s:List UInt8) (hl:x.l.length≤100000):∃y:Sl (List UInt8),W.pure 278 [Sl.av AV.str 1 x,.str s]=some (Sl.av AV.str 1 y)∧(∀t,t∈y.l↔t∈x.l∨t=s)∧y.l.length≤x.l.length+1:=by
 have hL:=zam (Φ:=Φ) (live:=[0,1,5,6,7]) (L:=zkx) x.l (σ:=Unit) (ρ:=Unit) (fun c a _=>if a=s then .inr () else .inl ())
  (fun c _ F G=>∃(o:Option Nat) (v:AV) (d:Bool) (r:List (List UInt8)),F=[(0,Sl.av AV.str 1 x),(1,.str s),(5,v),(6,.bool d),(7,I c)]∧Grow G 1 o v (r.map AV.str)∧(∀t,t∈r↔t∈x.l.take c∨d=true∧t=s)∧r.length=c+(if d then 1 else 0))
  (fun _ y F G=>y= .ret∧F.get 4=Sl.av AV.str 1 x∧s∈x.l)
  (fun _ y F G=>y= .exit 0∧∃(o:Option Nat) (v:AV) (d:Bool) (r:List (List UInt8)),F.keep [1,5,6]=[(1,.str s),(5,v),(6,.bool d)]∧Grow G 1 o v (r.map AV.str)∧(∀t,t∈r↔t∈x.l∨d=true∧t=s)∧r.length=x.l.length+(if d then 1 else 0)) (s:=()) (F:=[(0,Sl.av AV.str 1 x),(1,.str s),(5,.osl 0 0 0 0),(6,.bool false),(7,I 0)]) (H:=[.arr 0 1 false []]) ⟨some 0,_,false,[],rfl,zfj (l:=[]) rfl,by simp,rfl⟩ ?_ ?_
 .obtain⟨y,F',H',e1,e2⟩:=zj.1 hL
  rw[zq Φ278 (by simp)]
  cases hfo:zcr (ρ:=Unit) (fun c a (_:Unit)=>if a=s then .inr () else .inl ()) 0 x.l () with
  |inr q=>
   rw[hfo]at e2
   obtain⟨rfl,e2,e3⟩:=e2
   refine⟨x,?_,fun t=>?_,by omega⟩
   .simp[zje,c278,zd,zc,za,resV,rvVs,rvV,e1,e2]
   .constructor
    .exact .inl
    .rintro (h|rfl)
     .exact h
     .exact e3
  |inl q=>
   rw[hfo]at e2
   obtain⟨rfl,o,v,d,r,e2,e3,e4,e5⟩:=e2
   have hgo:=e3.okO
   have hgc:=e3.cells
   cases d with
   |true=>
    obtain⟨y,f1,f2⟩:=e3.slG (n:=7) (zfT _)
    refine⟨y,?_,fun t=>by rw[f2,e4];simp,by rw[f2,e5];simp⟩
    simp[zje,c278,zd,zc,za,resV,rvVs,rvV,e1,e2,hgo,hgc,f1]
   |false=>
    obtain⟨o',v',G',a1,a2,a3,a4⟩:=e3.app1 (.str s) rfl (by rw[List.length_map,e5];simp[zS];omega)
    have hg2:Grow G' 1 o' v' ((r++[s]).map AV.str):=by rw[List.map_append];exact a2
    obtain⟨y,f1,f2⟩:=hg2.slG (n:=7) (zfT _)
    have ha2o:=a2.okO
    have ha2c:=a2.cells
    refine⟨y,?_,fun t=>by rw[f2,List.mem_append,e4];simp,by rw[f2,List.length_append,e5];simp⟩
    simp[zje,c278,zd,zc,za,resV,rvVs,rvV,e1,e2,hgo,hgc,a1,ha2o,ha2c,f1]
 .rintro c a ⟨⟩ F G hc ha ⟨o,v,d,r,rfl,hg,hm,hlen⟩
  have hw:=zr (k:=c) (by omega)
  have hgo:=hg.okO
  have hgc:=hg.cells
  have hmem:a∈x.l:=List.mem_of_getElem? ha
  by_cases has:a=s
  .subst has
   simp[-getElem?_pos,gEz,zcl,zdu,za,zk,hc,ha,hw,hgo,hgc,hmem]
  .rw[if_neg has]
   have htk:∀t,t∈x.l.take (c+1)↔t∈x.l.take c∨t=a:=fun t=>by rw[List.take_add_one,ha];simp
   by_cases hlt:d=false∧Op.bytesLess s a=true
   .obtain⟨rfl,hlt⟩:=hlt
    obtain⟨o',v',G',a1,a2,a3,a4⟩:=hg.app1 (.str s) rfl (by rw[List.length_map,hlen];simp[zS];omega)
    obtain⟨o2,v2,G2,b1,b2,b3,b4⟩:=a2.app1 (.str a) rfl (by simp[hlen,zS];omega)
    have hg2:Grow G2 1 o2 v2 ((r++[s]++[a]).map AV.str):=by simpa using b2
    have ha2o:=a2.okO
    have ha2c:=a2.cells
    have hb2o:=b2.okO
    have hb2c:=b2.cells
    simp[-getElem?_pos,gEz,zcl,zdu,za,zk,hc,ha,hw,has,hlt,hgo,hgc,a1,ha2o,ha2c,b1,hb2o,hb2c]
    refine⟨o2,_,hg2,fun t=>?_,by simp[hlen]⟩
    rw[htk]
    simp[hm]
    grind
   .obtain⟨o2,v2,G2,b1,b2,b3,b4⟩:=hg.app1 (.str a) rfl (by simp[hlen,zS];split<;>omega)
    have hg2:Grow G2 1 o2 v2 ((r++[a]).map AV.str):=by simpa using b2
    have hb2o:=b2.okO
    have hb2c:=b2.cells
    cases d with
    |true=>
     simp[-getElem?_pos,gEz,zcl,zdu,za,zk,hc,ha,hw,has,hgo,hgc,b1,hb2o,hb2c]
     refine⟨o2,_,hg2,fun t=>?_,by simp[hlen]⟩
     rw[htk]
     simp[hm]
     grind
    |false=>
     have hlt2:Op.bytesLess s a=false:=by simpa using hlt
     simp[-getElem?_pos,gEz,zcl,zdu,za,zk,hc,ha,hw,has,hlt2,hgo,hgc,b1,hb2o,hb2c]
     refine⟨o2,_,hg2,fun t=>?_,by simp[hlen]⟩
     rw[htk]
     simp[hm]
 .rintro⟨⟩ F G ⟨o,v,d,r,rfl,hg,hm,hlen⟩
  have hgo:=hg.okO
  have hgc:=hg.cells
  rw[List.take_length]at hm
  cases d with
  |true=>
   simp[zcl,zdu,za,hgo,hgc]
   exact⟨o,r,hg,by simpa using hm,by simpa using hlen⟩
  |false=>
   simp[zcl,zdu,za,hgo,hgc]
   exact⟨o,r,hg,by simpa using hm,by simpa using hlen⟩
def nmOk (e:Ex):Prop:=∀p∈e.parts,p.kind=2→p.args.l=[]
theorem zm7 {e a:Ex} (h:nmOk e) (ha:a∈e.args.l):nmOk a:=fun p hp=>h p (by
 rw[Ex.parts_eq,List.mem_cons]
 refine .inr ?_
 generalize e.args.l=l at ha
 induction l with
 |nil=>cases ha
 |cons b r ih=>
  simp only[Ex.partss,List.mem_append]
  rcases List.mem_cons.1 ha with rfl|ha
  .exact .inl hp
  .exact .inr (ih ha))
theorem d233:∀(e:Ex),nmOk e→∀(x:Sl (List UInt8)),x.l.length+e.size≤100000→
  ∃y:Sl (List UInt8),W.pure 233 [e.av,Sl.av AV.str 1 x]=some (Sl.av AV.str 1 y)∧(∀t,t∈y.l↔t∈x.l∨∃p∈e.parts,p.kind=2∧p.name=t)∧y.l.length≤x.l.length+e.size:=by
 refine Ex.ind (fun e ih=>?_)
 intro hn x hx
 have hsz:=Ex.size_eq e
 have hll:=Ex.len_sizes e.args.l
 rw[zq Φ233 (by simp)]
 by_cases h2:e.kind=2
 .obtain⟨y,c1,c2,c3⟩:=d278 x e.name (by omega)
  have ha:e.args.l=[]:=hn e (by rw[Ex.parts_eq];simp) h2
  refine⟨y,?_,fun t=>?_,by omega⟩
  .simp[zli,c233,zd,zc,za,resV,rvVs,rvV,h2,c1]
  .rw[c2,Ex.parts_eq,ha]
   simp[Ex.partss,h2,eq_comm]
 have hL:∀(r:List Ex) (k:Nat) (z:Sl (List UInt8)),e.args.l.drop k=r→k≤e.args.l.length→z.l.length+Ex.sizes r≤x.l.length+Ex.sizes e.args.l→
   okC (W.loop [1,2,5] zky [(1,Sl.av AV.str 1 z),(2,.optr 0 0 0 0),(5,I k)] [.arr 0 5 false [e.av]]) (fun y F G=>y= .exit 0∧∃w:Sl (List UInt8),F.get 1=Sl.av AV.str 1 w∧(∀t,t∈w.l↔t∈z.l∨∃p∈Ex.partss r,p.kind=2∧p.name=t)∧w.l.length≤x.l.length+Ex.sizes e.args.l):=by
  intro r
  induction r with
  |nil=>
   intro k z h1 h3 h4
   have hk:=zl h1 h3
   rw[zm]
   simp[ziy,ziE,za,hk,Ex.partss, -getElem?_pos,gEz]
   simp only[Ex.sizes]at h4
   exact⟨z,rfl,by simp,by omega⟩
  |cons a r ihr=>
   intro k z h1 h3 h4
   obtain⟨hlt,ha,hr⟩:=zu h1
   have hmem:=zN h1
   simp only[Ex.sizes]at h4
   have hw:=zr (k:=k) (by omega)
   obtain⟨y,c1,c2,c3⟩:=ih a hmem (zm7 hn hmem) z (by omega)
   have hJ:=ihr (k+1) y hr (by omega) (by omega)
   simp only[Int.natCast_add,Int.cast_ofNat_Int]at hJ
   obtain⟨q,F',H',g1,g2,w,g3,g4,g5⟩:=zj.1 hJ
   rw[zm]
   simp[ziy,ziE,za,hlt,ha,c1,hw,g1,g2,g3, -getElem?_pos,gEz]
   refine⟨w,rfl,fun t=>?_,g5⟩
   rw[g4,c2]
   simp only[Ex.partss,List.mem_append]
   grind
 obtain⟨q,F',H',g1,rfl,w,g3,g4,g5⟩:=zj.1 (hL e.args.l 0 x rfl (by omega) (by omega))
 simp only[Int.natCast_zero]at g1
 refine⟨w,?_,fun t=>?_,by omega⟩
 .simp[zli,c233,zd,zc,za,resV,rvVs,rvV,h2,g1,g3]
 .rw[g4,Ex.parts_eq]
  simp[h2]
theorem d198 (e:Ex) (hz:zO e=0):∃y:Sl (List UInt8),W.pure 198 [e.av]=some (Sl.av AV.str 1 y)∧(∀t,t∈y.l↔t∈zeu e)∧y.l.length≤100:=by
 have hs:=zcQ hz
 have hn:nmOk e:=by
  intro p hp h2
  have h3:zag p=0:=by
   unfold zO at hz
   split at hz
   .cases hz
   .split at hz
    .cases hz
    .exact zba.1 hz p hp
  unfold zag at h3
  rw[if_neg (by omega)]at h3
  split at h3
  .cases h3
  .rename_i h4
   unfold zaU at h4
   simp[h2]at h4
   grind
 have c1:=e161 e
 rw[hz]at c1
 obtain⟨y,c2,c3,c4⟩:=d233 e hn (ofL 1 []) (by simp[ofL];omega)
 refine⟨y,?_,fun t=>by rw[c3,zgI];simp[ofL],by simp[ofL]at c4;omega⟩
 have z:(.isl (some false) 1 []:AV)=Sl.av AV.str 1 (ofL 1 []):=rfl
 rw[zq Φ198 (by simp)]
 simp[znI,c198,zd,zc,za,resV,rvVs,rvV,c1,z,c2]
theorem d166 (e:Ex):W.pure 166 [e.av]=some (I (exI e)):=by
 rw[zq Φ166 (by simp)]
 have c1:=e161 e
 unfold exI
 by_cases hz:zO e=0
 .rw[if_pos hz]
  obtain⟨y,c2,c3,c4⟩:=d198 e hz
  rw[hz]at c1
  rw[zmn (fun t=>(c3 t).symm)]
  have hL:=zam (Φ:=Φ) (live:=[4,5]) (L:=zkF) y.l (σ:=Unit) (ρ:=Unit) (fun _ t _=>if (fun t=>decide (t∈zaf)) t=true then .inr () else .inl ())
   (fun k _ F G=>F=[(4,Sl.av AV.str 1 y),(5,I k)])
   (fun _ q F G=>q= .ret∧F.get 2=I 5)
   (fun _ q F G=>q= .exit 0) (s:=()) (F:=[(4,Sl.av AV.str 1 y),(5,I 0)]) (H:=[.arr 0 5 false [e.av]]) rfl ?_ ?_
  .rw[za1]at hL
   obtain⟨q,F',H',e1,e2⟩:=zj.1 hL
   cases hq:y.l.any (fun t=>decide (t∈zaf)) with
   |true=>
    rw[hq]at e2
    obtain⟨rfl,e3⟩:q= .ret∧F'.get 2=I 5:=e2
    simp[zjj,c166,zd,zc,za,resV,rvVs,rvV,c1,c2,e1,e3]
   |false=>
    rw[hq]at e2
    have e2:q= .exit 0:=e2
    subst e2
    simp[zjj,c166,zd,zc,za,resV,rvVs,rvV,c1,c2,e1]
  .rintro k t ⟨⟩ F G hk ht rfl
   have hw:=zr (k:=k) (by omega)
   have d1:=e148 t
   by_cases hq:t∈zaf
   .rw[decide_eq_true hq]at d1;rw[if_pos (show (fun t=>decide (t∈zaf)) t=true from decide_eq_true hq)]
    simp[zfs,zg4,za,hk,ht,hw,d1, -getElem?_pos,gEz]
   .rw[decide_eq_false hq]at d1;rw[if_neg (show ¬(fun t=>decide (t∈zaf)) t=true by simpa using hq)]
    simp[zfs,zg4,za,hk,ht,hw,d1, -getElem?_pos,gEz]
  .rintro⟨⟩ F G rfl
   simp[zfs,zg4,za, -getElem?_pos,gEz]
 .rw[if_neg hz]
  simp[zjj,c166,zd,zc,za,resV,rvVs,rvV,c1,hz]
end
end Go.Proofs.YtgamobngbenehaaGreatDoor
end
section
namespace Go.Proofs.YtgamobngbenehaaGreatDoor
open Go Go.RowKit
set_option linter.unusedVariables false
set_option linter.unusedSimpArgs false
set_option maxRecDepth 10000
set_option maxHeartbeats 2000000
theorem d112 (a b c:Int):W.pure 112 [I a,I b,I c]=some (.bool (decide (b≤a∧a≤c))):=by
 rw[zq Φ112 rfl]
 by_cases h1:b≤a<;>by_cases h2:a≤c<;>simp[znW,c112,zd,zc,za,resV,rvVs,rvV,h1,h2]
theorem d119 (e:Ex):W.pure 119 [e.av]=some (.bool (zZ e)):=by
 rw[zq Φ119 (by simp)]
 have c1:=e160 e
 simp[zlv,c119,zd,zc,za,resV,rvVs,rvV,c1]
section
attribute [local irreducible] okC okV
theorem d163 (x:St) (hl:x.cs.l.length≤1000000000000):W.pure 163 [x.av]=some (I (zeE x)):=by
 rw[zq Φ163 (by simp)]
 have c1:=d112 x.kind 1 24
 have c2:=d196 x.op
 unfold zeE
 by_cases z1:x.kind<1∨24<x.kind
 .have z1':¬(1≤x.kind∧x.kind≤24):=by omega
  rw[decide_eq_false z1']at c1
  rw[if_pos z1]
  simp[zhK,c163,zd,zc,za,resV,rvVs,rvV,c1]
 have z1':1≤x.kind∧x.kind≤24:=by omega
 rw[decide_eq_true z1']at c1
 rw[if_neg z1]
 clear z1 z1'
 unfold opR at c2
 by_cases z2:x.kind=19∧opOf x.op=none
 .have z3:=(zge x.op).2 z2.2
  rw[if_pos z2]
  rw[z3]at c2
  rw[z2.1]at c1
  simp[zhK,c163,zd,zc,za,resV,rvVs,rvV,zk,c1,c2,z2.1]
 have z3:x.kind=19→¬((opOf x.op).getD opZ).word=[]:=fun h1 h2=>z2 ⟨h1,(zge x.op).1 h2⟩
 rw[if_neg z2]
 generalize ((opOf x.op).getD opZ).word=w at *
 have hL:=zam (Φ:=Φ) (live:=[1,6]) (L:=zkJ) x.cs.l (σ:=Unit) (ρ:=Unit) (fun _ c _=>if (fun c:Cs=> !decide (1≤c.kind∧c.kind≤3)) c=true then .inr () else .inl ())
  (fun k _ F G=>F=[(1,.optr 0 0 0 0),(6,I k)]∧G=[.arr 0 8 false [x.av]])
  (fun _ y F G=>y= .ret∧F.get 2=I 8)
  (fun _ y F G=>y= .exit 0) (s:=()) (F:=[(1,.optr 0 0 0 0),(6,I 0)]) (H:=[.arr 0 8 false [x.av]]) ⟨rfl,rfl⟩ ?_ ?_
 .rw[za1,zcb]at hL
  obtain⟨y,F',H',e1,e2⟩:=zj.1 hL
  have hw:¬x.kind=19∨¬w=[]:=by
   by_cases h:x.kind=19
   .exact .inr (z3 h)
   .exact .inl h
  cases hq:(x.cs.l.all fun c=>decide (1≤c.kind∧c.kind≤3)) with
  |true=>
   rw[hq]at e2
   have e2:y= .exit 0:=e2
   subst e2
   rcases hw with hw|hw<;>simp[zhK,c163,zd,zc,za,resV,rvVs,rvV,zk,c1,c2,hw,e1]
  |false=>
   rw[hq]at e2
   obtain⟨rfl,e2⟩:y= .ret∧F'.get 2=I 8:=e2
   rcases hw with hw|hw<;>simp[zhK,c163,zd,zc,za,resV,rvVs,rvV,zk,c1,c2,hw,e1,e2]
 .rintro k c ⟨⟩ F G hk hc ⟨rfl,rfl⟩
  have hwr:=zr (k:=k) (by omega)
  have d1:=d112 c.kind 1 3
  by_cases hq:1≤c.kind∧c.kind≤3
  .rw[decide_eq_true hq]at d1
   rw[if_neg (show ¬(!decide (1≤c.kind∧c.kind≤3))=true by rw[decide_eq_true hq];simp)]
   simp[zfv,zg7,za,hk,hc,hwr,d1, -getElem?_pos,gEz]
  .rw[decide_eq_false hq]at d1
   rw[if_pos (show (!decide (1≤c.kind∧c.kind≤3))=true by rw[decide_eq_false hq];rfl)]
   simp[zfv,zg7,za,hk,hc,hwr,d1, -getElem?_pos,gEz]
 .rintro⟨⟩ F G ⟨rfl,rfl⟩
  simp[zfv,zg7,za, -getElem?_pos,gEz]
theorem d164 (x:St) (hl:x.cs.l.length≤1000000000000):W.pure 164 [x.av]=some (.bool (zb1 x)):=by
 rw[zq Φ164 (by simp)]
 have c1:=d197 x
 have n1:=d112 x.names.l.length (rsh x.kind x.op).n0 (rsh x.kind x.op).n1
 have n2:=d112 x.exprs.l.length (rsh x.kind x.op).e0 (rsh x.kind x.op).e1
 have n3:=d112 x.cs.l.length 1 6
 have hr:zb1 x=zb1 x:=rfl
 conv at hr=>rhs;unfold zb1
 have hz0:decide (x.cs.l.length=0)=decide (x.cs.l=[]):=by simp
 have hz1:decide (1≤x.cs.l.length∧x.cs.l.length≤6)=(decide (1≤(x.cs.l.length:Int))&&decide ((x.cs.l.length:Int)≤6)):=by
  rw[Bool.decide_and];congr 1<;>exact decide_eq_decide.2 (by omega)
 rw[hz0,hz1]at hr
 generalize rsh x.kind x.op=s at *
 have hL:=fun B=>zam (Φ:=Φ) (live:=[1,4]) (L:=zkI) x.cs.l (σ:=Unit) (ρ:=Unit) (fun _ c _=>if rBad c=true then .inr () else .inl ())
  (fun k _ F G=>F=[(1,.optr 0 0 0 0),(4,I k)]∧G[0]?=some (.arr 0 8 false [x.av]))
  (fun _ y F G=>y= .ret∧F.get 2= .bool false)
  (fun _ y F G=>y= .exit 0∧F.keep [1]=[(1,.optr 0 0 0 0)]∧G[0]?=some (.arr 0 8 false [x.av])) (s:=()) (F:=[(1,.optr 0 0 0 0),(4,I 0)]) (H:=[.arr 0 8 false [x.av],B]) ⟨rfl,rfl⟩ ?_ ?_
 .have hL0:=hL (.arr 0 7 false [s.rv])
  rw[za1]at hL0
  obtain⟨y,F',H',e1,e2⟩:=zj.1 hL0
  clear hL hL0
  unfold Shp.rv at c1 e1
  cases hq:x.cs.l.any rBad with
  |true=>
   rw[hq]at e2
   obtain⟨rfl,e2⟩:y= .ret∧F'.get 2= .bool false:=e2
   simp[zlo,c164,zd,zc,za,resV,rvVs,rvV,zk,c1,n1,n2,n3,e1,e2, -getElem?_pos,gEz]
   rw[hr,hq]
   clear hr e1 e2 c1 n1 n2 n3 hq
   grind
  |false=>
   rw[hq]at e2
   simp only[Bool.false_eq_true,if_false,zmw]at e2
   obtain⟨rfl,e2,e3⟩:=e2
   simp[zlo,c164,zd,zc,za,resV,rvVs,rvV,zk,c1,n1,n2,n3,e1,e2,e3, -getElem?_pos,gEz]
   rw[hr,hq]
   clear hr e1 e2 c1 n1 n2 n3 hq
   grind
 .rintro k c ⟨⟩ F G hk hc ⟨rfl,hg⟩
  have hwr:=zr (k:=k) (by omega)
  have d1:=d119 c.expr
  have hgl:=(gEs.1 hg).1
  have a1:∀B,(G++[B])[0]?=some (.arr 0 8 false [x.av]):=zA hg
  have a2:∀B,(G++[B])[G.length]?=some B:=zh _
  have a3:∀B C,((G++[B]).set G.length C)=G++[C]:=fun B C=>by simp
  simp[ziz,ziF,za,zk,hk,hc,hwr,hg,a1,a2,a3,d1, -getElem?_pos,gEz]
  split
  .rename_i h
   have hb:rBad c=true:=by unfold rBad;grind
   simp[hb]
  .rename_i h
   have hb:rBad c=false:=by unfold rBad;grind
   simp[hb,a1, -getElem?_pos,gEz]
 .rintro⟨⟩ F G ⟨rfl,hg⟩
  simp[ziz,ziF,za,hg, -getElem?_pos,gEz]
end
end Go.Proofs.YtgamobngbenehaaGreatDoor
end
section
namespace Go.Proofs.YtgamobngbenehaaGreatDoor
open Go Go.RowKit
set_option linter.unusedVariables false
set_option linter.unusedSimpArgs false
set_option maxRecDepth 10000
set_option maxHeartbeats 2000000
theorem Grow.at {H:Heap} {sz:Nat} {o:Option Nat} {v x:AV} {l:List AV} (h:Grow H sz o v l) {k:Nat} (hx:l[k]?=some x):∃a,zb3 H sz v (.int .i64 k)=a∧Go.Proofs.YtgamobngbenehaaGreatDoor.okO a=some a∧∀g n,zbx H g n a=zn g n x.cells:=by
 have hk:=(gEs.1 hx).1
 cases o with
 |none=>rw[h.2]at hx;cases hx
 |some id=>
  obtain⟨ver,t,rfl,h2⟩:=h
  refine⟨.optr id ver k 0,?_,rfl,fun g n=>?_⟩
  .simp only[zb3,h2]
   rw[if_pos ⟨trivial,trivial,by omega,by simp;omega⟩];simp
  .simp only[zbx,h2,if_true]
   have:(l++t)[k]?=some x:=by
    rw[gEa hk];exact hx
   rw[this];rfl
def zan (c:Cs):List (List UInt8):=if c.kind=3 then [] else c.name::c.names.l
theorem zeh {l:List Cs} (h:∀c∈l,c.names.l.length≤1000):(l.flatMap zan).length≤1001* l.length:=by
 induction l with
 |nil=>simp
 |cons a r ih=>
  have h1:=ih (fun c hc=>h c (by simp[hc]))
  have h2:=h a (by simp)
  have h3:(zan a).length≤1001:=by unfold zan;split<;>simp;omega
  rw[List.flatMap_cons,List.length_append,List.length_cons];omega
theorem zn6 (l:List Cs) (c:Cs):defs (l++[c])=if c.kind=3 then defs l+1 else defs l:=by
 unfold defs;rw[List.foldl_append];rfl
section
attribute [local irreducible] okC okV
theorem d165 (x:St) (hn:x.names.l.length≤1000) (hl:x.cs.l.length≤1000) (hc:∀c∈x.cs.l,c.names.l.length≤1000):W.pure 165 [x.av]=some (I (zcH x)):=by
 rw[zq Φ165 (by simp)]
 have c1:=d197 x
 have c2:=e104 x.name
 have hr:zcH x=zcH x:=rfl
 conv at hr=>rhs;unfold zcH
 generalize rsh x.kind x.op=s at *
 rw[hr]
 clear hr
 unfold Shp.rv at c1
 by_cases z1:(s.name=1∨s.name=2∧¬x.name=[])∧zaa x.name=false
 .rw[if_pos z1]
  obtain⟨z1,z2⟩:=z1
  rw[z2]at c2
  simp[zgD,c165,zd,zc,za,resV,rvVs,rvV,zk,c1,c2,z1, -getElem?_pos,gEz]
 rw[if_neg z1]
 have z2:(s.name=1∨s.name=2∧¬x.name=[])→zaa x.name=true:=fun h=>by
  cases h2:zaa x.name with
  |true=>rfl
  |false=>exact absurd ⟨h,h2⟩ z1
 clear z1
 have hfl:=zeh hc
 obtain⟨o0,v0,H0,a1,a2,a3,a4,a5⟩:=(zfj (H:=[.arr 0 8 false [x.av],.arr 0 7 false [.agg [I s.name,I s.n0,I s.n1,I s.e0,I s.e1,.bool s.body,.bool s.others]],.arr 0 1 false []]) (sz:=1) (id:=2) (ver:=0) (l:=[]) rfl).app (y:=Sl.av AV.str 1 x.names) (xs:=x.names.l.map AV.str) zcE (by simp) (by simp[zS];omega)
 have ho:o0=some 2:=by
  rcases a4 with rfl|⟨h,_⟩
  .rfl
  .cases h
 subst ho
 simp only[List.length_nil]at a1
 have g0:H0[0]?=some (.arr 0 8 false [x.av]):=a3.get (by simp) rfl
 have hL1:=zam (Φ:=Φ) (live:=[1,4,5,6]) (L:=zkG) x.cs.l (σ:=Unit) (ρ:=Empty) (fun _ c _=> .inl ())
  (fun k _ F G=>∃v,F=[(1,.optr 0 0 0 0),(4,v),(5,I (defs (x.cs.l.take k):Nat)),(6,I k)]∧Grow G 1 (some 2) v ((x.names.l++(x.cs.l.take k).flatMap zan).map AV.str)∧G[0]?=some (.arr 0 8 false [x.av]))
  (fun r _ _ _=>nomatch r)
  (fun _ y F G=>y= .exit 0∧∃v,F.keep [4,5]=[(4,v),(5,I (defs x.cs.l:Nat))]∧Grow G 1 (some 2) v ((x.names.l++x.cs.l.flatMap zan).map AV.str)) (s:=()) (F:=[(1,.optr 0 0 0 0),(4,v0),(5,I 0),(6,I 0)]) (H:=H0) ⟨v0,rfl,by simpa using a2,g0⟩ ?_ ?_
 .have hq:∀(l:List Cs) (k:Nat),zcr (ρ:=Empty) (fun _ (c:Cs) (_:Unit)=> .inl ()) k l ()= .inl ():=by
   intro l
   induction l with
   |nil=>intro k;rfl
   |cons a r ih=>intro k;exact ih _
  rw[hq]at hL1
  obtain⟨y,F1,H1,e1,rfl,v,e2,e3⟩:=zj.1 hL1
  clear hL1 hq
  have hL2:=zam (Φ:=Φ) (live:=[4,5,7]) (L:=zkH) (x.names.l++x.cs.l.flatMap zan) (σ:=Unit) (ρ:=Unit) (fun _ t _=>if (!zaa t)=true then .inr () else .inl ())
   (fun k _ F G=>F=[(4,v),(5,I (defs x.cs.l:Nat)),(7,I k)]∧G=H1)
   (fun _ y F G=>y= .ret∧F.get 2=I 5)
   (fun _ y F G=>y= .exit 2∧F.keep [5]=[(5,I (defs x.cs.l:Nat))]) (s:=()) (F:=[(4,v),(5,I (defs x.cs.l:Nat)),(7,I 0)]) (H:=H1) ⟨rfl,rfl⟩ ?_ ?_
  .rw[za1 (fun t=> !zaa t),zcb]at hL2
   obtain⟨y,F2,H2,f1,f2⟩:=zj.1 hL2
   clear hL2
   have hdl:=zlP x.cs.l
   have hfin:(x.names.l++x.cs.l.flatMap fun c=>if c.kind=3 then [] else c.name::c.names.l)=x.names.l++x.cs.l.flatMap zan:=rfl
   rw[hfin]
   have a2o:=a2.okO
   have a2c:=a2.cells
   by_cases hz:s.name=1∨s.name=2∧¬x.name=[]
   .rw[z2 hz]at c2
    cases hq:(x.names.l++x.cs.l.flatMap zan).all zaa with
    |false=>
     rw[hq]at f2
     obtain⟨rfl,f2⟩:y= .ret∧F2.get 2=I 5:=f2
     simp[zgD,c165,zd,zc,za,resV,rvVs,rvV,zk,c1,c2,hz,a1,a2o,a2c,e1,e2,f1,f2, -getElem?_pos,gEz]
    |true=>
     rw[hq]at f2
     obtain⟨rfl,f2⟩:y= .exit 2∧F2.keep [5]=[(5,I (defs x.cs.l:Nat))]:=f2
     simp[zgD,c165,zd,zc,za,resV,rvVs,rvV,zk,c1,c2,hz,a1,a2o,a2c,e1,e2,f1,f2, -getElem?_pos,gEz]
     split<;>simp<;>omega
   .cases hq:(x.names.l++x.cs.l.flatMap zan).all zaa with
    |false=>
     rw[hq]at f2
     obtain⟨rfl,f2⟩:y= .ret∧F2.get 2=I 5:=f2
     simp[zgD,c165,zd,zc,za,resV,rvVs,rvV,zk,c1,hz,a1,a2o,a2c,e1,e2,f1,f2, -getElem?_pos,gEz]
    |true=>
     rw[hq]at f2
     obtain⟨rfl,f2⟩:y= .exit 2∧F2.keep [5]=[(5,I (defs x.cs.l:Nat))]:=f2
     simp[zgD,c165,zd,zc,za,resV,rvVs,rvV,zk,c1,hz,a1,a2o,a2c,e1,e2,f1,f2, -getElem?_pos,gEz]
     split<;>simp<;>omega
  .rintro k t ⟨⟩ F G hk ht ⟨rfl,rfl⟩
   have hw:=zr (k:=k) (by rw[List.length_append]at hk;omega)
   have d1:=e104 t
   obtain⟨a,b1,b2,b3⟩:=e3.at (k:=k) (x:= .str t) (by rw[List.getElem?_map,ht];rfl)
   have e3o:=e3.okO
   have e3c:=e3.cells
   have e3l:=e3.len
   rw[List.length_map]at e3l
   have hk':(k:Int)<((x.names.l++x.cs.l.flatMap zan).length:Nat):=by omega
   generalize (x.names.l++x.cs.l.flatMap zan).length=n at *
   cases hq:zaa t with
   |true=>
    rw[hq]at d1
    simp[zfu,zg6,za,hk,hk',e3o,e3c,e3l,b1,b2,b3,d1,hw, -getElem?_pos,gEz]
   |false=>
    rw[hq]at d1
    simp[zfu,zg6,za,hk,hk',e3o,e3c,e3l,b1,b2,b3,d1,hw, -getElem?_pos,gEz]
  .rintro⟨⟩ F G ⟨rfl,rfl⟩
   have e3o:=e3.okO
   have e3c:=e3.cells
   have e3l:=e3.len
   rw[List.length_map]at e3l
   simp[zfu,zg6,za,e3o,e3c,e3l, -getElem?_pos,gEz]
 .rintro k c ⟨⟩ F G hk hc2 ⟨v,rfl,hg,g0⟩
  have hw:=zr (k:=k) (by omega)
  have hgo:=hg.okO
  have hgc:=hg.cells
  have htk:x.cs.l.take (k+1)=x.cs.l.take k++[c]:=by rw[List.take_add_one,hc2];rfl
  have hdk:=zn6 (x.cs.l.take k) c
  rw[←htk]at hdk
  have hwd:=zr (k:=defs (x.cs.l.take k)) (by have:=zlP (x.cs.l.take k);rw[List.length_take]at this;omega)
  have hfm:(x.cs.l.take (k+1)).flatMap zan=(x.cs.l.take k).flatMap zan++zan c:=by rw[htk,List.flatMap_append];simp
  have hlen:(x.names.l++(x.cs.l.take k).flatMap zan).length≤2002000:=by
   have:=zeh (l:=x.cs.l.take k) (fun c h=>hc c (List.mem_of_mem_take h))
   rw[List.length_take]at this
   rw[List.length_append];omega
  have hcn:=hc c (List.mem_of_getElem? hc2)
  by_cases h3:c.kind=3
  .rw[if_pos h3]at hdk
   have hcs:zan c=[]:=by unfold zan;rw[if_pos h3]
   rw[hcs,List.append_nil]at hfm
   rw[hdk,hfm]
   simp[zft,zg5,za,hk,hc2,hw,hwd,g0,hgo,hgc,h3, -getElem?_pos,gEz]
   simpa using hg
  .rw[if_neg h3]at hdk
   have hcs:zan c=c.name::c.names.l:=by unfold zan;rw[if_neg h3]
   rw[hcs]at hfm
   rw[hdk,hfm]
   obtain⟨o1,v1,G1,b1,b2,b3,b4,b5⟩:=hg.app (y:= .isl (some false) 1 [.str c.name]) (xs:=[.str c.name]) (by simp) (by simp) (by rw[List.length_map];simp only[zS,List.length_cons,List.length_nil];omega)
   have ho1:o1=some 2:=by
    rcases b4 with rfl|⟨h,_⟩
    .rfl
    .cases h
   subst ho1
   obtain⟨o2,v2,G2,d1,d2,d3,d4,d5⟩:=b2.app (y:=Sl.av AV.str 1 c.names) (xs:=c.names.l.map AV.str) zcE (by simp) (by rw[List.length_append,List.length_map,List.length_map];simp only[zS,List.length_cons,List.length_nil];omega)
   have ho2:o2=some 2:=by
    rcases d4 with rfl|⟨h,_⟩
    .rfl
    .cases h
   subst ho2
   have g1:G1[0]?=some (.arr 0 8 false [x.av]):=b3.get (by simp) g0
   have g2:G2[0]?=some (.arr 0 8 false [x.av]):=d3.get (by simp) g1
   have b2o:=b2.okO
   have b2c:=b2.cells
   have d2o:=d2.okO
   have d2c:=d2.cells
   have hg2:Grow G2 1 (some 2) v2 ((x.names.l++((x.cs.l.take k).flatMap zan++c.name::c.names.l)).map AV.str):=by simpa using d2
   simp[zft,zg5,za,hk,hc2,hw,hwd,g0,hgo,hgc,h3,b1,b2o,b2c,g1,d1,d2o,d2c,g2, -getElem?_pos,gEz]
   simpa using d2
 .rintro⟨⟩ F G ⟨v,rfl,hg,g0⟩
  rw[List.take_length]at hg
  have hgo:=hg.okO
  have hgc:=hg.cells
  simp[zft,zg5,za,g0,hgo,hgc, -getElem?_pos,gEz]
  simpa using hg
end
end Go.Proofs.YtgamobngbenehaaGreatDoor
end
section
namespace Go.Proofs.YtgamobngbenehaaGreatDoor
open Go Go.RowKit
set_option linter.unusedVariables false
set_option linter.unusedSimpArgs false
set_option maxRecDepth 10000
set_option maxHeartbeats 2000000
theorem ztk:∀o∈opT,o.names≤2∧o.exprs≤8:=by decide
theorem zsY (k op:Int):(rsh k op).n1≤2∧(rsh k op).e1≤8:=by
 have h:((opOf op).getD opZ).names≤2∧((opOf op).getD opZ).exprs≤8:=by
  cases h:opOf op with
  |none=>decide
  |some o=>exact ztk o (List.mem_of_find?_eq_some h)
 unfold rsh
 repeat' split
 all_goals first|exact h|decide
theorem zmX {c:Cs} (h:rBad c=false):c.names.l.length≤2:=by
 unfold rBad at h
 by_cases h2:c.kind=2
 .simp[h2]at h;omega
 .simp[h2]at h;simp[h.2]
theorem zf3 {x:St} (h:zb1 x=true):x.names.l.length≤2∧x.exprs.l.length≤8∧x.cs.l.length≤6∧∀c∈x.cs.l,c.names.l.length≤2:=by
 have hb:=zsY x.kind x.op
 unfold zb1 at h
 split at h
 .cases h
 rename_i h1
 have h2:((rsh x.kind x.op).n0≤x.names.l.length∧(x.names.l.length:Int)≤(rsh x.kind x.op).n1):=Decidable.byContradiction fun e=>h1 (.inr (.inl e))
 have h3:((rsh x.kind x.op).e0≤x.exprs.l.length∧(x.exprs.l.length:Int)≤(rsh x.kind x.op).e1):=Decidable.byContradiction fun e=>h1 (.inr (.inr (.inl e)))
 refine⟨by omega,by omega,?_⟩
 split at h
 .have h4:=of_decide_eq_true h
  refine⟨by omega,fun c hc=>?_⟩
  rw[List.length_eq_zero_iff.1 h4]at hc;cases hc
 .split at h
  .cases h
  .rename_i h5
   have h4:=of_decide_eq_true h
   refine⟨by omega,fun c hc=>zmX ?_⟩
   cases hbc:rBad c with
   |false=>rfl
   |true=>exact absurd (List.any_eq_true.2 ⟨c,hc,hbc⟩) h5
theorem zhy {x:St} (h:zb1 x=true) (hk:x.kind=23):∃a r,x.exprs.l=a::r:=by
 cases he:x.exprs.l with
 |cons a r=>exact⟨a,r,rfl⟩
 |nil=>
  exfalso
  unfold zb1 at h
  split at h
  .cases h
  .rename_i h1
   refine h1 (.inr (.inr (.inl ?_)))
   have:(rsh x.kind x.op).e0=2:=by rw[hk];rfl
   rw[this,he]
   simp
section
attribute [local irreducible] okC okV
theorem d115 (x:St) (hl:x.cs.l.length≤1000000000000):W.pure 115 [x.av]=some (I (zR x)):=by
 rw[zq Φ115 (by simp),←zie]
 have c1:=d163 x hl
 have c2:=d164 x hl
 unfold zmT
 by_cases z1:zeE x=0
 rotate_left
 .rw[if_pos (by simpa using z1)]
  simp[zee,c115,zd,zc,za,resV,rvVs,rvV,c1,z1]
 rw[if_neg (by simpa using z1)]
 rw[z1]at c1
 cases z2:zb1 x with
 |false=>
  rw[z2]at c2
  simp[zee,c115,zd,zc,za,resV,rvVs,rvV,c1,c2]
 |true=>
 rw[z2]at c2
 obtain⟨f1,f2,f3,f4⟩:=zf3 z2
 have c3:=d165 x (by omega) (by omega) (fun c hc=>by have:=f4 c hc;omega)
 rw[if_neg (by simp)]
 by_cases z3:zcH x=0
 rotate_left
 .rw[if_pos (by simpa using z3)]
  simp[zee,c115,zd,zc,za,resV,rvVs,rvV,c1,c2,c3,z3]
 rw[if_neg (by simpa using z3)]
 rw[z3]at c3
 have hL1:=zam (Φ:=Φ) (live:=[1,5]) (L:=zkW) x.exprs.l (σ:=Unit) (ρ:=Int) (fun _ e _=>if stEx x.kind e≠0 then .inr (stEx x.kind e) else .inl ())
  (fun k _ F G=>F=[(1,.optr 0 0 0 0),(5,I k)]∧G=[.arr 0 8 false [x.av]])
  (fun r y F G=>y= .ret∧F.get 2=I r)
  (fun _ y F G=>y= .exit 0∧F.keep [1]=[(1,.optr 0 0 0 0)]∧G=[.arr 0 8 false [x.av]]) (s:=()) (F:=[(1,.optr 0 0 0 0),(5,I 0)]) (H:=[.arr 0 8 false [x.av]]) ⟨rfl,rfl⟩ ?_ ?_
 .rw[zb4]at hL1
  obtain⟨y1,F1,H1,e1,e2⟩:=zj.1 hL1
  clear hL1
  have hL2:=zam (Φ:=Φ) (live:=[1,7]) (L:=zkX) x.cs.l (σ:=Unit) (ρ:=Int) (fun _ c _=>if csEx c≠0 then .inr (csEx c) else .inl ())
   (fun k _ F G=>F=[(1,.optr 0 0 0 0),(7,I k)]∧G=[.arr 0 8 false [x.av]])
   (fun r y F G=>y= .ret∧F.get 2=I r)
   (fun _ y F G=>y= .exit 2∧F.keep [1]=[(1,.optr 0 0 0 0)]∧G=[.arr 0 8 false [x.av]]) (s:=()) (F:=[(1,.optr 0 0 0 0),(7,I 0)]) (H:=[.arr 0 8 false [x.av]]) ⟨rfl,rfl⟩ ?_ ?_
  .rw[zb4]at hL2
   obtain⟨y2,F2,H2,e3,e4⟩:=zj.1 hL2
   clear hL2
   unfold exsI
   by_cases z4:zH (stEx x.kind) x.exprs.l=0
   rotate_left
   .rw[if_pos z4]at e2⊢
    obtain⟨rfl,e2⟩:y1= .ret∧F1.get 2=I (zH (stEx x.kind) x.exprs.l):=e2
    simp[zee,c115,zd,zc,za,resV,rvVs,rvV,c1,c2,c3,e1,e2]
   rw[if_neg (by simpa using z4)]at e2⊢
   obtain⟨rfl,e2,rfl⟩:=e2
   by_cases z5:zH csEx x.cs.l=0
   rotate_left
   .rw[if_pos z5]at e4⊢
    obtain⟨rfl,e4⟩:y2= .ret∧F2.get 2=I (zH csEx x.cs.l):=e4
    simp[zee,c115,zd,zc,za,resV,rvVs,rvV,c1,c2,c3,e1,e2,e3,e4]
   rw[if_neg (by simpa using z5)]at e4⊢
   obtain⟨rfl,e4,rfl⟩:=e4
   by_cases h23:x.kind=23
   .obtain⟨a,r,har⟩:=zhy z2 h23
    have hh:x.exprs.l[0]?=some a:=by rw[har];rfl
    have hhd:x.exprs.l.head?=some a:=by rw[har];rfl
    rw[hhd]
    by_cases ha:a.kind=1
    .simp[zee,c115,zd,zc,za,resV,rvVs,rvV,c1,c2,c3,e1,e2,e3,e4,h23,hh,ha, -getElem?_pos,gEz]
    .simp[zee,c115,zd,zc,za,resV,rvVs,rvV,c1,c2,c3,e1,e2,e3,e4,h23,hh,ha, -getElem?_pos,gEz]
   .simp[zee,c115,zd,zc,za,resV,rvVs,rvV,c1,c2,c3,e1,e2,e3,e4,h23, -getElem?_pos,gEz]
  .rintro k c ⟨⟩ F G hk hc ⟨rfl,rfl⟩
   have hw:=zr (k:=k) (by omega)
   have d1:=d166 c.expr
   unfold csEx
   by_cases h1:c.kind=1
   .by_cases h2:exI c.expr=0<;>simp[zfB,zhe,za,hk,hc,hw,d1,h1,h2, -getElem?_pos,gEz]
   .simp[zfB,zhe,za,hk,hc,hw,h1, -getElem?_pos,gEz]
  .rintro⟨⟩ F G ⟨rfl,rfl⟩
   simp[zfB,zhe,za, -getElem?_pos,gEz]
 .rintro k e ⟨⟩ F G hk he ⟨rfl,rfl⟩
  have hw:=zr (k:=k) (by omega)
  have d1:=d166 e
  have d2:=d119 e
  unfold stEx
  by_cases h14:x.kind=14
  .cases h1:zZ e with
   |true=>
    rw[h1]at d2
    simp[zdT,ze2,za,hk,he,hw,d2,h14,h1, -getElem?_pos,gEz]
   |false=>
    rw[h1]at d2
    by_cases h2:exI e=0<;>simp[zdT,ze2,za,hk,he,hw,d1,d2,h14,h1,h2, -getElem?_pos,gEz]
  .by_cases h2:exI e=0<;>simp[zdT,ze2,za,hk,he,hw,d1,h14,h2, -getElem?_pos,gEz]
 .rintro⟨⟩ F G ⟨rfl,rfl⟩
  simp[zdT,ze2,za, -getElem?_pos,gEz]
end
end Go.Proofs.YtgamobngbenehaaGreatDoor
end
section
namespace Go.Proofs.YtgamobngbenehaaGreatDoor
open Go Go.RowKit
set_option linter.unusedVariables false
set_option linter.unusedSimpArgs false
set_option maxRecDepth 10000
set_option maxHeartbeats 2000000
theorem zgK (e:Ex):zU e≤101:=by unfold zU;split<;>omega
theorem d161 (e:Ex):W.pure 161 [e.av]=some (I (zU e:Nat)):=by
 rw[zq Φ161 (by simp)]
 have c1:=d119 e
 have c2:=e191 e
 unfold zU
 cases h:zZ e with
 |true=>rw[h]at c1;simp[zlp,c161,zd,zc,za,resV,rvVs,rvV,c1]
 |false=>
  rw[h]at c1
  generalize min e.size 101=m at *
  simp[zlp,c161,zd,zc,za,resV,rvVs,rvV,c1,c2]
def SzOk (l:Sl St):Prop:=∀n:Nat,n≤1000→W.pure 111 [I n,Sl.av St.av 8 l]=some (I (min (n+St.costs l.l) 301:Nat))
section
attribute [local irreducible] okC okV
theorem zko (l:Sl St) (k:Nat) (x:St) (hx:l.l[k]?=some x) (hl:x.exprs.l.length≤9223372036854775807):∀(r:List Ex) (j n T:Nat),x.exprs.l.drop j=r→j≤x.exprs.l.length→Rb 1000 300 n T→n≤401→
  okC (W.loop [0,1,5,6] zk1 [(0,I n),(1,Sl.av St.av 8 l),(5,I k),(6,I j)] []) (fun y F G=>y= .exit 2∧G=[]∧∃n':Nat,F.keep [0,1,5]=[(0,I n'),(1,Sl.av St.av 8 l),(5,I k)]∧Rb 1000 300 n' (T+(r.map zU).sum)∧n'≤401):=by
 have hkl:=(gEs.1 hx).1
 intro r
 induction r with
 |nil=>
  intro j n T h1 h2 h3 h4
  have hj:=zl h1 h2
  rw[zm]
  simp[zfD,zhg,za,hx,hj, -getElem?_pos,gEz]
  exact⟨n,rfl,h3,h4⟩
 |cons e r ih=>
  intro j n T h1 h2 h3 h4
  obtain⟨hlt,he,hr⟩:=zu h1
  have hlt':(j:Int)<x.exprs.l.length:=by omega
  have hw:IntKind.wrap .i64 ((j:Int)+1)=(j:Int)+1:=by rw[zM]<;>omega
  have hle:=zgK e
  have d1:=d161 e
  rw[zm]
  by_cases hn:n≤300
  .have hn':(n:Int)≤300:=by omega
   have hwa:IntKind.wrap .i64 ((n:Int)+(zU e:Nat))=(n:Int)+(zU e:Nat):=by rw[zM]<;>omega
   have hJ:=ih (j+1) (n+zU e) (T+zU e) hr (by omega) (by unfold Rb at *;omega) (by omega)
   simp only[Int.natCast_add,Int.cast_ofNat_Int]at hJ
   obtain⟨y,F',H',g1,rfl,rfl,n',g2,g3,g4⟩:=zj.1 hJ
   simp[zfD,zhg,za,hx,hlt,he,hw,hn,hn',d1,hwa,g1, -getElem?_pos,gEz]
   refine⟨n',by simpa using g2,by rw[show T+(zU e+(r.map zU).sum)=T+zU e+(r.map zU).sum by omega];exact g3,g4⟩
  .have hn':¬(n:Int)≤300:=by omega
   simp[zfD,zhg,za,hx,hlt,he,hn,hn', -getElem?_pos,gEz]
   exact⟨n,rfl,by unfold Rb at *;omega,h4⟩
theorem zkp (l:Sl St) (k:Nat) (x:St) (hx:l.l[k]?=some x) (hl:x.cs.l.length≤9223372036854775807) (ih0:∀c∈x.cs.l,SzOk c.body):∀(r:List Cs) (j n T:Nat),x.cs.l.drop j=r→j≤x.cs.l.length→Rb 1000 300 n T→n≤401→
  okC (W.loop [0,1,5,7] zk2 [(0,I n),(1,Sl.av St.av 8 l),(5,I k),(7,I j)] []) (fun y F G=>y= .exit 4∧G=[]∧∃n':Nat,F.keep [0,1,5]=[(0,I n'),(1,Sl.av St.av 8 l),(5,I k)]∧Rb 1000 300 n' (T+Cs.costs r)∧n'≤401):=by
 have hkl:=(gEs.1 hx).1
 intro r
 induction r with
 |nil=>
  intro j n T h1 h2 h3 h4
  have hj:=zl h1 h2
  rw[zm]
  simp[zfE,zhh,za,hx,hj,Cs.costs, -getElem?_pos,gEz]
  exact⟨n,rfl,h3,h4⟩
 |cons c r ih=>
  intro j n T h1 h2 h3 h4
  obtain⟨hlt,he,hr⟩:=zu h1
  have hlt':(j:Int)<x.cs.l.length:=by omega
  have hw:IntKind.wrap .i64 ((j:Int)+1)=(j:Int)+1:=by rw[zM]<;>omega
  have hle:=zgK c.expr
  have d1:=d161 c.expr
  have hcc:=Cs.cost_eq c
  simp only[Cs.costs]
  rw[zm]
  by_cases hn:n≤300
  .have hn':(n:Int)≤300:=by omega
   have hw1:IntKind.wrap .i64 ((n:Int)+1)=(n:Int)+1:=by rw[zM]<;>omega
   have hwa:IntKind.wrap .i64 ((n:Int)+1+(zU c.expr:Nat))=(n:Int)+1+(zU c.expr:Nat):=by rw[zM]<;>omega
   have d2:=ih0 c (zN h1) (n+1+zU c.expr) (by omega)
   have hJ:=ih (j+1) (min (n+1+zU c.expr+St.costs c.body.l) 301) (T+c.cost) hr (by omega) (by unfold Rb at *;omega) (by omega)
   generalize min (n+1+zU c.expr+St.costs c.body.l) 301=m at *
   simp only[Int.natCast_add,Int.cast_ofNat_Int]at hJ d2
   obtain⟨y,F',H',g1,rfl,rfl,n',g2,g3,g4⟩:=zj.1 hJ
   simp[zfE,zhh,za,hx,hlt,he,hw,hw1,hn,hn',d1,d2,hwa,g1, -getElem?_pos,gEz]
   refine⟨n',by simpa using g2,by rw[show T+(c.cost+Cs.costs r)=T+c.cost+Cs.costs r by omega];exact g3,g4⟩
  .have hn':¬(n:Int)≤300:=by omega
   simp[zfE,zhh,za,hx,hlt,he,hn,hn', -getElem?_pos,gEz]
   exact⟨n,rfl,by unfold Rb at *;omega,h4⟩
theorem d111:∀(b:Nat) (l:Sl St),St.bigs l.l≤b→St.fines l.l→l.l.length≤9223372036854775807→SzOk l:=by
 intro b
 induction b using Nat.strongRecOn with
 |ind b ihb=>
  intro l hb hf hl n0 hn0
  rw[zq Φ111 (by simp)]
  have hL:∀(r:List St) (k n T:Nat),l.l.drop k=r→k≤l.l.length→Rb 1000 300 n T→n≤1000→
    okC (W.loop [0,1,5] zk0 [(0,I n),(1,Sl.av St.av 8 l),(5,I k)] []) (fun y F G=>y= .exit 0∧G=[]∧∃n':Nat,F.get 0=I n'∧Rb 1000 300 n' (T+St.costs r)):=by
   intro r
   induction r with
   |nil=>
    intro k n T h1 h2 h3 h4
    have hk:=zl h1 h2
    rw[zm]
    simp[zfC,zhf,za,hk,St.costs, -getElem?_pos,gEz]
    exact⟨n,rfl,h3⟩
   |cons x r ih=>
    intro k n T h1 h2 h3 h4
    obtain⟨hlt,he,hr⟩:=zu h1
    have hlt':(k:Int)<l.l.length:=by omega
    have hw:IntKind.wrap .i64 ((k:Int)+1)=(k:Int)+1:=by rw[zM]<;>omega
    have hmem:x∈l.l:=List.mem_of_getElem? he
    have hfx:=St.fines_mem hf hmem
    rw[St.fine_eq]at hfx
    have hbig:=St.bigs_mem hmem
    rw[St.big_eq]at hbig
    have hxc:=St.cost_eq x
    simp only[St.costs]
    rw[zm]
    by_cases hn:n≤300
    .have hn':(n:Int)≤300:=by omega
     have hw1:IntKind.wrap .i64 ((n:Int)+1)=(n:Int)+1:=by rw[zM]<;>omega
     obtain⟨y1,F1,H1,a1,rfl,rfl,n1,a2,a3,a4⟩:=zj.1 (zko l k x he hfx.1 x.exprs.l 0 (n+1) (T+1) rfl (by omega) (by unfold Rb at *;omega) (by omega))
     have b1:=ihb (St.bigs x.body.l) (by omega) x.body (Nat.le_refl _) hfx.2.2.2.2.2.1 hfx.2.2.1 n1 (by omega)
     have b2:=ihb (St.bigs x.els.l) (by omega) x.els (Nat.le_refl _) hfx.2.2.2.2.2.2.1 hfx.2.2.2.1 (min (n1+St.costs x.body.l) 301) (by omega)
     obtain⟨y2,F2,H2,c1,rfl,rfl,n2,c2,c3,c4⟩:=zj.1 (zkp l k x he hfx.2.2.2.2.1 (fun c hc=>by
      have h5:=Cs.bigs_mem hc
      rw[Cs.big_eq]at h5
      have h6:=Cs.fines_mem hfx.2.2.2.2.2.2.2 hc
      rw[Cs.fine_eq]at h6
      exact ihb (St.bigs c.body.l) (by omega) c.body (Nat.le_refl _) h6.2.2 h6.2.1) x.cs.l 0 (min (min (n1+St.costs x.body.l) 301+St.costs x.els.l) 301) (T+1+(x.exprs.l.map zU).sum+St.costs x.body.l+St.costs x.els.l) rfl (by omega) (by unfold Rb at *;omega) (by omega))
     have hJ:=ih (k+1) n2 (T+x.cost) hr (by omega) (by rw[hxc];unfold Rb at *;omega) (by omega)
     generalize min (min (n1+St.costs x.body.l) 301+St.costs x.els.l) 301=m2 at *
     generalize min (n1+St.costs x.body.l) 301=m1 at *
     simp only[Int.natCast_add,Int.cast_ofNat_Int,Int.natCast_zero]at hJ a1 c1
     obtain⟨y,F',H',g1,rfl,rfl,n',g2,g3⟩:=zj.1 hJ
     simp[zfC,zhf,za,hlt,he,hw,hw1,hn,hn',a1,a2,b1,b2,c1,c2,g1, -getElem?_pos,gEz]
     refine⟨n',by simpa using g2,by rw[show T+(x.cost+St.costs r)=T+x.cost+St.costs r by omega];exact g3⟩
    .have hn':¬(n:Int)≤300:=by omega
     simp[zfC,zhf,za,hlt,he,hn,hn', -getElem?_pos,gEz]
     exact⟨n,rfl,by unfold Rb at *;omega⟩
  obtain⟨y,F,H,g1,rfl,rfl,n',g2,g3⟩:=zj.1 (hL l.l 0 n0 n0 rfl (by omega) (by unfold Rb;omega) hn0)
  simp only[Int.natCast_zero]at g1
  have hm:min n' 301=min (n0+St.costs l.l) 301:=by unfold Rb at g3;omega
  rw[←hm]
  simp[znX,c111,zd,zc,za,resV,rvVs,rvV,g1,g2]
  omega
end
end Go.Proofs.YtgamobngbenehaaGreatDoor
end
section
namespace Go.Proofs.YtgamobngbenehaaGreatDoor
open Go Go.RowKit
set_option linter.unusedVariables false
set_option linter.unusedSimpArgs false
set_option maxRecDepth 10000
set_option maxHeartbeats 2000000
mutual
theorem St.dep_cost:∀x:St,x.dep≤x.cost
 | .mk a b c d e f g bl h i el j k cl=>by
  have h1:=St.deps_costs bl
  have h2:=St.deps_costs el
  have h3:=Cs.deps_costs cl
  simp only[St.dep,St.cost]
  omega
theorem St.deps_costs:∀l:List St,St.deps l≤St.costs l
 | []=>by simp[St.deps,St.costs]
 |x::r=>by
  have h1:=St.dep_cost x
  have h2:=St.deps_costs r
  simp only[St.deps,St.costs]
  omega
theorem Cs.dep_cost:∀x:Cs,x.dep≤x.cost
 | .mk a b e ns f g bl=>by
  have h1:=St.deps_costs bl
  simp only[Cs.dep,Cs.cost]
  omega
theorem Cs.deps_costs:∀l:List Cs,Cs.deps l≤Cs.costs l
 | []=>by simp[Cs.deps,Cs.costs]
 |x::r=>by
  have h1:=Cs.dep_cost x
  have h2:=Cs.deps_costs r
  simp only[Cs.deps,Cs.costs]
  omega
end
theorem St.costs_mem {x:St} {l:List St} (h:x∈l):x.cost≤St.costs l:=by
 induction l with
 |nil=>cases h
 |cons a r ih=>
  simp only[St.costs]
  cases h with
  |head=>omega
  |tail _ h=>have:=ih h;omega
theorem Cs.costs_mem {x:Cs} {l:List Cs} (h:x∈l):x.cost≤Cs.costs l:=by
 induction l with
 |nil=>cases h
 |cons a r ih=>
  simp only[Cs.costs]
  cases h with
  |head=>omega
  |tail _ h=>have:=ih h;omega
theorem zke (a b:Nat):mxV (I a) (I (1+(b:Int)))=I (max a (1+b):Nat):=by
 rw[zhD,if_pos rfl]
 congr 1
 split<;>omega
def DpOk (l:Sl St):Prop:=W.pure 58 [Sl.av St.av 8 l]=some (I (St.deps l.l:Nat))
section
attribute [local irreducible] okC okV
theorem d57 (s:So) (hl:s.procs.l.length≤9223372036854775807) (hf:∀p∈s.procs.l,p.fine):W.pure 57 [s.av]=some (I (min (s.procs.l.map Pr.cost).sum 301:Nat)):=by
 rw[zq Φ57 (by simp)]
 have hL:∀(r:List Pr) (k n T:Nat),s.procs.l.drop k=r→k≤s.procs.l.length→n=min T 301→
   okC (W.loop [1,3,4] zpR [(1,.optr 0 0 0 0),(3,I n),(4,I k)] [.arr 0 2 false [s.av]]) (fun y F G=>y= .exit 0∧F.keep [3]=[(3,I (min (T+(r.map Pr.cost).sum) 301:Nat))]):=by
  intro r
  induction r with
  |nil=>
   intro k n T h1 h2 h3
   have hk:=zl h1 h2
   rw[zm]
   simp[zhP,zma,za,hk, -getElem?_pos,gEz,h3]
  |cons p r ih=>
   intro k n T h1 h2 h3
   obtain⟨hlt,he,hr⟩:=zu h1
   have hlt':(k:Int)<s.procs.l.length:=by omega
   have hw:IntKind.wrap .i64 ((k:Int)+1)=(k:Int)+1:=by rw[zM]<;>omega
   have hfp:=hf p (List.mem_of_getElem? he)
   have d1:=d111 (St.bigs p.body.l) p.body (Nat.le_refl _) hfp.1 hfp.2.1 n (by omega)
   have hc:p.cost=St.costs p.body.l:=rfl
   rw[zm]
   simp only[List.map_cons,List.sum_cons]
   by_cases hn:n≤300
   .have hn':(n:Int)≤300:=by omega
    have hJ:=ih (k+1) (min (n+St.costs p.body.l) 301) (T+p.cost) hr (by omega) (by omega)
    rw[show T+p.cost+(r.map Pr.cost).sum=T+(p.cost+(r.map Pr.cost).sum) by omega]at hJ
    generalize min (T+(p.cost+(r.map Pr.cost).sum)) 301=m0 at *
    generalize min (n+St.costs p.body.l) 301=m at *
    simp only[Int.natCast_add,Int.cast_ofNat_Int]at hJ
    obtain⟨y,F',H',g1,rfl,g2⟩:=zj.1 hJ
    simp[zhP,zma,za,hlt,he,hw,hn,hn',d1,g1, -getElem?_pos,gEz]
    simpa using g2
   .have hn':¬(n:Int)≤300:=by omega
    have hm:min (T+(p.cost+(r.map Pr.cost).sum)) 301=n:=by omega
    rw[hm]
    simp[zhP,zma,za,hlt,he,hn,hn', -getElem?_pos,gEz]
 obtain⟨y,F,H,g1,rfl,g2⟩:=zj.1 (hL s.procs.l 0 0 0 rfl (by omega) rfl)
 rw[Nat.zero_add]at g2
 generalize min (s.procs.l.map Pr.cost).sum 301=m at *
 simp only[Int.natCast_zero]at g1
 simp[fi57,c57,zd,zc,za,resV,rvVs,rvV,g1,g2]
theorem znb (l:Sl St) (k:Nat) (x:St) (hx:l.l[k]?=some x) (hl:Cs.costs x.cs.l≤300) (hln:x.cs.l.length≤9223372036854775807) (ih0:∀c∈x.cs.l,DpOk c.body):∀(r:List Cs) (j m:Nat),x.cs.l.drop j=r→j≤x.cs.l.length→1≤m→
  okC (W.loop [0,3,4,5] zpQ [(0,Sl.av St.av 8 l),(3,I m),(4,I k),(5,I j)] []) (fun y F G=>y= .exit 2∧G=[]∧F.keep [0,3,4]=[(0,Sl.av St.av 8 l),(3,I (max m (1+Cs.deps r):Nat)),(4,I k)]):=by
 have hkl:=(gEs.1 hx).1
 intro r
 induction r with
 |nil=>
  intro j m h1 h2 h3
  have hj:=zl h1 h2
  rw[zm]
  have hm:max m (1+Cs.deps [])=m:=by simp only[Cs.deps];omega
  rw[hm]
  simp[zlI,zoi,za,hx,hj, -getElem?_pos,gEz]
 |cons c r ih=>
  intro j m h1 h2 h3
  obtain⟨hlt,he,hr⟩:=zu h1
  have hlt':(j:Int)<x.cs.l.length:=by omega
  have hw:IntKind.wrap .i64 ((j:Int)+1)=(j:Int)+1:=by rw[zM]<;>omega
  have hmem:=zN h1
  have d1:=ih0 c hmem
  unfold DpOk at d1
  have hcc:=Cs.costs_mem hmem
  have hdc:=Cs.dep_cost c
  have hcd:=Cs.dep_eq c
  rw[←hcd]at d1
  have hwd:IntKind.wrap .i64 (1+(c.dep:Int))=1+(c.dep:Int):=by rw[zM]<;>omega
  have hm:max m (1+Cs.deps (c::r))=max (max m (1+c.dep)) (1+Cs.deps r):=by simp only[Cs.deps];omega
  have hJ:=ih (j+1) (max m (1+c.dep)) hr (by omega) (by omega)
  rw[←hm]at hJ
  have hx2:=zke m c.dep
  generalize max m (1+Cs.deps (c::r))=m1 at *
  generalize max m (1+c.dep)=m2 at *
  simp only[Int.natCast_add,Int.cast_ofNat_Int]at hJ
  obtain⟨y,F',H',g1,rfl,rfl,g2⟩:=zj.1 hJ
  rw[zm]
  simp[zlI,zoi,za,hx,hlt,he,hw,d1,hwd,hx2,g1, -zhD, -getElem?_pos,gEz]
  simpa using g2
theorem d58:∀(b:Nat) (l:Sl St),St.bigs l.l≤b→St.fines l.l→l.l.length≤9223372036854775807→St.costs l.l≤300→DpOk l:=by
 intro b
 induction b using Nat.strongRecOn with
 |ind b ihb=>
  intro l hb hf hl hc
  unfold DpOk
  rw[zq Φ58 (by simp)]
  have hL:∀(r:List St) (k m:Nat),l.l.drop k=r→k≤l.l.length→
    okC (W.loop [0,3,4] zpP [(0,Sl.av St.av 8 l),(3,I m),(4,I k)] []) (fun y F G=>y= .exit 0∧G=[]∧F.get 3=I (max m (St.deps r):Nat)):=by
   intro r
   induction r with
   |nil=>
    intro k m h1 h2
    have hk:=zl h1 h2
    rw[zm]
    have hm:max m (St.deps [])=m:=by simp only[St.deps];omega
    rw[hm]
    simp[zlH,zoh,za,hk, -getElem?_pos,gEz]
   |cons x r ih=>
    intro k m h1 h2
    obtain⟨hlt,he,hr⟩:=zu h1
    have hlt':(k:Int)<l.l.length:=by omega
    have hw:IntKind.wrap .i64 ((k:Int)+1)=(k:Int)+1:=by rw[zM]<;>omega
    have hmem:x∈l.l:=List.mem_of_getElem? he
    have hfx:=St.fines_mem hf hmem
    rw[St.fine_eq]at hfx
    have hbig:=St.bigs_mem hmem
    rw[St.big_eq]at hbig
    have hxm:=St.costs_mem hmem
    have hxc:=St.cost_eq x
    have b1:=ihb (St.bigs x.body.l) (by omega) x.body (Nat.le_refl _) hfx.2.2.2.2.2.1 hfx.2.2.1 (by omega)
    have b2:=ihb (St.bigs x.els.l) (by omega) x.els (Nat.le_refl _) hfx.2.2.2.2.2.2.1 hfx.2.2.2.1 (by omega)
    unfold DpOk at b1 b2
    have k1:=St.deps_costs x.body.l
    have k2:=St.deps_costs x.els.l
    have hw1:IntKind.wrap .i64 (1+(St.deps x.body.l:Int))=1+(St.deps x.body.l:Int):=by rw[zM]<;>omega
    have hw2:IntKind.wrap .i64 (1+(St.deps x.els.l:Int))=1+(St.deps x.els.l:Int):=by rw[zM]<;>omega
    obtain⟨y2,F2,H2,c1,rfl,rfl,c2⟩:=zj.1 (znb l k x he (by omega) hfx.2.2.2.2.1 (fun c hc=>by
      have h5:=Cs.bigs_mem hc
      rw[Cs.big_eq]at h5
      have h6:=Cs.fines_mem hfx.2.2.2.2.2.2.2 hc
      rw[Cs.fine_eq]at h6
      have h7:=Cs.costs_mem hc
      rw[Cs.cost_eq]at h7
      exact ihb (St.bigs c.body.l) (by omega) c.body (Nat.le_refl _) h6.2.2 h6.2.1 (by omega)) x.cs.l 0 (max (max m (1+St.deps x.body.l)) (1+St.deps x.els.l)) rfl (by omega) (by omega))
    have hde:=St.dep_eq x
    have hm:max (max (max m (1+St.deps x.body.l)) (1+St.deps x.els.l)) (1+Cs.deps x.cs.l)=max m x.dep:=by omega
    rw[hm]at c2
    have hm2:max m (St.deps (x::r))=max (max m x.dep) (St.deps r):=by simp only[St.deps];omega
    have hJ:=ih (k+1) (max m x.dep) hr (by omega)
    rw[←hm2]at hJ
    have hx1:=zke m (St.deps x.body.l)
    have hx2:=zke (max m (1+St.deps x.body.l)) (St.deps x.els.l)
    generalize max m (St.deps (x::r))=q0 at *
    generalize max m x.dep=q1 at *
    generalize max (max m (1+St.deps x.body.l)) (1+St.deps x.els.l)=q2 at *
    generalize max m (1+St.deps x.body.l)=q3 at *
    simp only[Int.natCast_add,Int.cast_ofNat_Int,Int.natCast_zero]at hJ c1
    obtain⟨y,F',H',g1,rfl,rfl,g2⟩:=zj.1 hJ
    rw[zm]
    simp[zlH,zoh,za,hlt,he,hw,b1,b2,hw1,hw2,hx1,hx2,c1,c2,g1, -zhD, -getElem?_pos,gEz]
    simpa using g2
  obtain⟨y,F,H,g1,rfl,rfl,g2⟩:=zj.1 (hL l.l 0 0 rfl (by omega))
  have hm:max 0 (St.deps l.l)=St.deps l.l:=by omega
  rw[hm]at g2
  simp only[Int.natCast_zero]at g1
  simp[fi58,c58,zd,zc,za,resV,rvVs,rvV,g1,g2]
end
end Go.Proofs.YtgamobngbenehaaGreatDoor
end
section
namespace Go.Proofs.YtgamobngbenehaaGreatDoor
open Go Go.RowKit
set_option linter.unusedVariables false
set_option linter.unusedSimpArgs false
set_option maxRecDepth 10000
set_option maxHeartbeats 2000000
mutual
theorem St.preLe:∀x:St,x.pre.length≤x.cost
 | .mk a b c d e f g bl h i el j k cl=>by
  have h1:=St.presLe bl
  have h2:=St.presLe el
  have h3:=Cs.presLe cl
  simp only[St.pre,St.cost,List.length_cons,List.length_append]
  omega
theorem St.presLe:∀l:List St,(St.pres l).length≤St.costs l
 | []=>by simp[St.pres,St.costs]
 |x::r=>by
  have h1:=St.preLe x
  have h2:=St.presLe r
  simp only[St.pres,St.costs,List.length_append]
  omega
theorem Cs.preLe:∀x:Cs,x.pre.length≤x.cost
 | .mk a b e ns f g bl=>by
  have h1:=St.presLe bl
  simp only[Cs.pre,Cs.cost]
  omega
theorem Cs.presLe:∀l:List Cs,(Cs.pres l).length≤Cs.costs l
 | []=>by simp[Cs.pres,Cs.costs]
 |x::r=>by
  have h1:=Cs.preLe x
  have h2:=Cs.presLe r
  simp only[Cs.pres,Cs.costs,List.length_append]
  omega
end
theorem zmD (l:List St):(l.map St.av).all (fun e=>e.cells.all AV.cell)=true:=by
 rw[List.all_eq_true]
 intro e he
 obtain⟨s,_,rfl⟩:=List.mem_map.1 he
 exact zsS
theorem zjN (l:List St):(l.map St.av).all (fun e=>e.cells.all AV.still)=true:=by
 rw[List.all_eq_true]
 intro e he
 obtain⟨s,_,rfl⟩:=List.mem_map.1 he
 exact ziP
theorem znw {G:Heap} {v:AV} {q:List St} (h:Grow G 8 (some 0) v (q.map St.av)) (y:AV) (m:List St) (hy:zat G 8 y=some (m.map St.av)) (hl:q.length+m.length≤1000):
  ∃v' G',ex G (.app 8) [v,y]=some (v',G')∧Grow G' 8 (some 0) v' ((q++m).map St.av)∧Go.Proofs.YtgamobngbenehaaGreatDoor.okO v'=some v'∧v'.cells=[v']:=by
 obtain⟨o',v',G',a1,a2,a3,a4,a5⟩:=h.app hy (zmD m) (by rw[List.length_map,List.length_map];simp only[zS];omega)
 have:o'=some 0:=by
  rcases a4 with rfl|⟨h,_⟩
  .rfl
  .cases h
 subst this
 exact⟨v',G',a1,by rw[List.map_append];exact a2,a2.okO,a2.cells⟩
def PrOk (l:Sl St):Prop:=∃y:Sl St,W.pure 114 [Sl.av St.av 8 l]=some (Sl.av St.av 8 y)∧y.l=St.pres l.l
section
attribute [local irreducible] okC okV
theorem zkn (l:Sl St) (k:Nat) (x:St) (hx:l.l[k]?=some x) (hln:x.cs.l.length≤9223372036854775807) (ih0:∀c∈x.cs.l,PrOk c.body):∀(r:List Cs) (j:Nat) (q:List St) (v:AV) (G:Heap),x.cs.l.drop j=r→j≤x.cs.l.length→q.length+(Cs.pres r).length≤1000→Grow G 8 (some 0) v (q.map St.av)→
  okC (W.loop [0,3,4,5] zkZ [(0,Sl.av St.av 8 l),(3,v),(4,I k),(5,I j)] G) (fun y F G'=>y= .exit 2∧∃v',F.keep [0,3,4]=[(0,Sl.av St.av 8 l),(3,v'),(4,I k)]∧Grow G' 8 (some 0) v' ((q++Cs.pres r).map St.av)):=by
 have hkl:=(gEs.1 hx).1
 intro r
 induction r with
 |nil=>
  intro j q v G h1 h2 h3 hg
  have hj:=zl h1 h2
  have hgo:=hg.okO
  have hgc:=hg.cells
  rw[zm]
  simp[ziB,ziH,za,hx,hj,hgo,hgc,Cs.pres, -getElem?_pos,gEz]
  exact hg
 |cons c r ih=>
  intro j q v G h1 h2 h3 hg
  obtain⟨hlt,he,hr⟩:=zu h1
  have hlt':(j:Int)<x.cs.l.length:=by omega
  have hw:IntKind.wrap .i64 ((j:Int)+1)=(j:Int)+1:=by rw[zM]<;>omega
  obtain⟨y,d1,d2⟩:=ih0 c (zN h1)
  have hcp:=Cs.pre_eq c
  simp only[Cs.pres,List.length_append,hcp]at h3⊢
  have hgo:=hg.okO
  have hgc:=hg.cells
  obtain⟨v1,G1,a1,a2,a3,a4⟩:=znw hg (Sl.av St.av 8 y) y.l zcE (by rw[d2];omega)
  rw[d2]at a2
  have hJ:=ih (j+1) (q++St.pres c.body.l) v1 G1 hr (by omega) (by rw[List.length_append];omega) a2
  simp only[Int.natCast_add,Int.cast_ofNat_Int]at hJ
  obtain⟨z,F',H',g1,rfl,v2,g2,g3⟩:=zj.1 hJ
  rw[List.append_assoc]at g3
  rw[zm]
  simp[ziB,ziH,za,hx,hlt,he,hw,hgo,hgc,d1,a1,a3,a4,g1, -getElem?_pos,gEz, -List.map_append]
  exact⟨v2,by simpa using g2,g3⟩
theorem d114:∀(b:Nat) (l:Sl St),St.bigs l.l≤b→St.fines l.l→l.l.length≤9223372036854775807→St.costs l.l≤300→PrOk l:=by
 intro b
 induction b using Nat.strongRecOn with
 |ind b ihb=>
  intro l hb hf hl hc
  unfold PrOk
  have hL:∀(r:List St) (k:Nat) (q:List St) (v:AV) (G:Heap),l.l.drop k=r→k≤l.l.length→q.length+(St.pres r).length≤1000→Grow G 8 (some 0) v (q.map St.av)→
    okC (W.loop [0,3,4] zkY [(0,Sl.av St.av 8 l),(3,v),(4,I k)] G) (fun y F G'=>y= .exit 0∧∃v',F.keep [3]=[(3,v')]∧Grow G' 8 (some 0) v' ((q++St.pres r).map St.av)):=by
   intro r
   induction r with
   |nil=>
    intro k q v G h1 h2 h3 hg
    have hk:=zl h1 h2
    have hgo:=hg.okO
    have hgc:=hg.cells
    rw[zm]
    simp[ziA,ziG,za,hk,hgo,hgc,St.pres, -getElem?_pos,gEz]
    exact hg
   |cons x r ih=>
    intro k q v G h1 h2 h3 hg
    obtain⟨hlt,he,hr⟩:=zu h1
    have hlt':(k:Int)<l.l.length:=by omega
    have hw:IntKind.wrap .i64 ((k:Int)+1)=(k:Int)+1:=by rw[zM]<;>omega
    have hmem:x∈l.l:=List.mem_of_getElem? he
    have hfx:=St.fines_mem hf hmem
    rw[St.fine_eq]at hfx
    have hbig:=St.bigs_mem hmem
    rw[St.big_eq]at hbig
    have hxm:=St.costs_mem hmem
    have hxc:=St.cost_eq x
    obtain⟨y1,b1,b2⟩:=ihb (St.bigs x.body.l) (by omega) x.body (Nat.le_refl _) hfx.2.2.2.2.2.1 hfx.2.2.1 (by omega)
    obtain⟨y2,b3,b4⟩:=ihb (St.bigs x.els.l) (by omega) x.els (Nat.le_refl _) hfx.2.2.2.2.2.2.1 hfx.2.2.2.1 (by omega)
    have hxp:=St.pre_eq x
    simp only[St.pres,List.length_append,hxp,List.length_cons]at h3⊢
    have hgo:=hg.okO
    have hgc:=hg.cells
    obtain⟨v1,G1,a1,a2,a3,a4⟩:=znw hg (.isl (some false) 8 [x.av]) [x] (by simp) (by simp;omega)
    obtain⟨v2,G2,c1,c2,c3,c4⟩:=znw a2 (Sl.av St.av 8 y1) y1.l zcE (by rw[b2,List.length_append,List.length_cons,List.length_nil];omega)
    rw[b2]at c2
    obtain⟨v3,G3,d1,d2,d3,d4⟩:=znw c2 (Sl.av St.av 8 y2) y2.l zcE (by rw[b4,List.length_append,List.length_append,List.length_cons,List.length_nil];omega)
    rw[b4]at d2
    obtain⟨z,F3,G4,f1,rfl,v4,f2,f3⟩:=zj.1 (zkn l k x he hfx.2.2.2.2.1 (fun c hc=>by
      have h5:=Cs.bigs_mem hc
      rw[Cs.big_eq]at h5
      have h6:=Cs.fines_mem hfx.2.2.2.2.2.2.2 hc
      rw[Cs.fine_eq]at h6
      have h7:=Cs.costs_mem hc
      rw[Cs.cost_eq]at h7
      exact ihb (St.bigs c.body.l) (by omega) c.body (Nat.le_refl _) h6.2.2 h6.2.1 (by omega)) x.cs.l 0 _ v3 G3 rfl (by omega) (by rw[List.length_append,List.length_append,List.length_append,List.length_cons,List.length_nil];omega) d2)
    have hq:q++[x]++St.pres x.body.l++St.pres x.els.l++Cs.pres x.cs.l=q++x::(St.pres x.body.l++(St.pres x.els.l++Cs.pres x.cs.l)):=by simp
    rw[hq]at f3
    have hJ:=ih (k+1) _ v4 G4 hr (by omega) (by rw[List.length_append,List.length_cons,List.length_append,List.length_append];omega) f3
    simp only[Int.natCast_add,Int.cast_ofNat_Int,Int.natCast_zero]at hJ f1
    obtain⟨z,F',H',g1,rfl,v5,g2,g3⟩:=zj.1 hJ
    rw[List.append_assoc]at g3
    have f3o:=f3.okO
    have f3c:=f3.cells
    rw[zm]
    simp[ziA,ziG,za,hlt,he,hw,hgo,hgc,b1,b3,a1,a3,a4,c1,c3,c4,d1,d3,d4,f1,f2,f3o,f3c,g1, -getElem?_pos,gEz, -List.map_append]
    have g2':F'.get 3=v5:=by simpa using g2
    rw[g2'];simpa only[List.append_assoc,List.cons_append]using g3
  have hpl:=St.presLe l.l
  obtain⟨z,F,H,g1,rfl,v,g2,g3⟩:=zj.1 (hL l.l 0 [] (.osl 0 0 0 0) [.arr 0 8 false []] rfl (by omega) (by simp;omega) (zfj (l:=[]) rfl))
  rw[List.nil_append]at g3
  obtain⟨y,f1,f2⟩:=g3.slG (n:=7) (zjN _)
  have g3o:=g3.okO
  have g3c:=g3.cells
  simp only[Int.natCast_zero]at g1
  refine⟨y,?_,f2⟩
  rw[zq Φ114 (by simp)]
  simp[znU,c114,zd,zc,za,resV,rvVs,rvV,g1,g2,g3o,g3c,f1]
end
end Go.Proofs.YtgamobngbenehaaGreatDoor
end
section
namespace Go.Proofs.YtgamobngbenehaaGreatDoor
open Go Go.RowKit
set_option linter.unusedVariables false
set_option linter.unusedSimpArgs false
set_option maxRecDepth 10000
set_option maxHeartbeats 2000000
def zmW (d:Dc):Int:=
 if ¬(d.kind=101∨d.kind=102)∧¬(1≤d.kind∧d.kind≤9) then 8
 else if (¬((d.kind=101∨d.kind=102)∨(4≤d.kind∧d.kind≤8))∧¬d.a=0)∨((¬d.kind=4∧¬d.kind=8)∧¬d.b=0)∨(¬d.kind=3∧¬d.name2=[]) then 1
 else if zaa d.name=false∨(d.kind=3∧zaa d.name2=false) then 5
 else if ¬((if d.kind=101∨d.kind=102 then (-1099511627776:Int) else 0)≤d.a∧d.a≤1099511627776)∨(d.kind=4∧¬(0≤d.b∧d.b≤1))∨¬(0≤d.b∧d.b≤1099511627776) then 2
 else 0
theorem zmV (d:Dc):zmW d=zI d:=by
 unfold zmW zI
 by_cases h101:d.kind=101
 .have h0:zaV d.kind=some (-1099511627776,1099511627776,0,false):=by rw[h101];rfl
  rw[h0,h101]
  simp
  grind
 by_cases h102:d.kind=102
 .have h0:zaV d.kind=some (-1099511627776,1099511627776,0,false):=by rw[h102];rfl
  rw[h0,h102]
  simp
  grind
 by_cases h1:d.kind=1
 .have h0:zaV d.kind=some (0,0,0,false):=by rw[h1];rfl
  rw[h0,h1]
  simp
  grind
 by_cases h2:d.kind=2
 .have h0:zaV d.kind=some (0,0,0,false):=by rw[h2];rfl
  rw[h0,h2]
  simp
  grind
 by_cases h9:d.kind=9
 .have h0:zaV d.kind=some (0,0,0,false):=by rw[h9];rfl
  rw[h0,h9]
  simp
  grind
 by_cases h3:d.kind=3
 .have h0:zaV d.kind=some (0,0,0,true):=by rw[h3];rfl
  rw[h0,h3]
  simp
  grind
 by_cases h4:d.kind=4
 .have h0:zaV d.kind=some (0,1099511627776,1,false):=by rw[h4];rfl
  rw[h0,h4]
  simp
  grind
 by_cases h5:d.kind=5
 .have h0:zaV d.kind=some (0,1099511627776,0,false):=by rw[h5];rfl
  rw[h0,h5]
  simp
  grind
 by_cases h6:d.kind=6
 .have h0:zaV d.kind=some (0,1099511627776,0,false):=by rw[h6];rfl
  rw[h0,h6]
  simp
  grind
 by_cases h7:d.kind=7
 .have h0:zaV d.kind=some (0,1099511627776,0,false):=by rw[h7];rfl
  rw[h0,h7]
  simp
  grind
 by_cases h8:d.kind=8
 .have h0:zaV d.kind=some (0,1099511627776,1099511627776,false):=by rw[h8];rfl
  rw[h0,h8]
  simp
  grind
 .have h0:zaV d.kind=none:=by
   unfold zaV
   simp[h101,h102,h1,h2,h9,h3,h4,h5,h6,h7,h8]
  rw[h0,if_pos (by omega)]
theorem d59 (d:Dc):W.pure 59 [d.av]=some (I (zmW d)):=by
 rw[zq Φ59 (by simp)]
 have c1:=d112 d.kind 1 9
 have c2:=d112 d.kind 4 8
 have c3:=e104 d.name
 have c4:=e104 d.name2
 have c5:=d112 d.a (-1099511627776) 1099511627776
 have c6:=d112 d.a 0 1099511627776
 have c7:=d112 d.b 0 1
 have c8:=d112 d.b 0 1099511627776
 simp[fi59,c59,zd,zc,za,resV,rvVs,rvV,zk,c1,c2,c3,c4,c5,c6,c7,c8]
 unfold zmW
 clear c1 c2 c3 c4 c5 c6 c7 c8
 by_cases h:d.kind=101∨d.kind=102<;>simp only[h,if_true,if_false]<;>grind
end Go.Proofs.YtgamobngbenehaaGreatDoor
end
section
namespace Go.Proofs.YtgamobngbenehaaGreatDoor
open Go Go.RowKit
set_option linter.unusedVariables false
set_option linter.unusedSimpArgs false
set_option maxRecDepth 10000
def St.own (x:St):Nat:=1+x.cs.l.length+(x.exprs.l.map zU).sum+(x.cs.l.map fun c=>zU c.expr).sum
theorem Cs.costs_split:∀l:List Cs,Cs.costs l=l.length+(l.map fun c=>zU c.expr).sum+(l.map fun c=>St.costs c.body.l).sum
 | []=>by simp[Cs.costs]
 |c::r=>by
  simp only[Cs.costs,Cs.cost_eq,Cs.costs_split r,List.length_cons,List.map_cons,List.sum_cons];omega
mutual
theorem St.own_pre:∀x:St,(x.pre.map St.own).sum=x.cost
 | .mk a b c d e f g bl h i el j k cl=>by
  have h1:=St.own_pres bl
  have h2:=St.own_pres el
  have h3:=Cs.own_pres cl
  have h4:=Cs.costs_split cl
  simp only[St.pre,St.cost,List.map_cons,List.sum_cons,List.map_append,List.sum_append,h1,h2,h3]
  simp only[St.own,St.cs,St.exprs]
  omega
theorem St.own_pres:∀l:List St,((St.pres l).map St.own).sum=St.costs l
 | []=>by simp[St.pres,St.costs]
 |x::r=>by
  simp only[St.pres,St.costs,List.map_append,List.sum_append,St.own_pre x,St.own_pres r]
theorem Cs.own_pre:∀x:Cs,(x.pre.map St.own).sum=St.costs x.body.l
 | .mk a b e ns f g bl=>by
  simp only[Cs.pre,Cs.body,St.own_pres bl]
theorem Cs.own_pres:∀l:List Cs,((Cs.pres l).map St.own).sum=(l.map fun c=>St.costs c.body.l).sum
 | []=>by simp[Cs.pres]
 |x::r=>by
  simp only[Cs.pres,List.map_append,List.sum_append,List.map_cons,List.sum_cons,Cs.own_pre x,Cs.own_pres r]
end
end Go.Proofs.YtgamobngbenehaaGreatDoor
end
section
namespace Go.Proofs.YtgamobngbenehaaGreatDoor
open Go Go.RowKit
set_option linter.unusedVariables false
set_option linter.unusedSimpArgs false
set_option maxRecDepth 10000
set_option maxHeartbeats 2000000
theorem zhE {α:Type} {f:α→Nat} {l:List α} {a:α} (h:a∈l):f a≤(l.map f).sum:=by
 induction l with
 |nil=>cases h
 |cons b r ih=>
  simp only[List.map_cons,List.sum_cons]
  cases h with
  |head=>omega
  |tail _ h=>have:=ih h;omega
theorem zpi {l:List St} {x:St} (h:x∈St.pres l):x.cs.l.length≤St.costs l:=by
 have h1:=zhE (f:=St.own) h
 rw[St.own_pres]at h1
 unfold St.own at h1
 omega
section
attribute [local irreducible] okC okV
theorem d60 (p:Pr) (hf:p.fine) (hc:p.cost≤300):W.pure 60 [p.av]=some (I (zao p)):=by
 rw[zq Φ60 (by simp)]
 obtain⟨f1,f2,f3⟩:=hf
 have c1:=d112 p.kind 1 3
 have c2:=e104 p.name
 have c3:=d112 p.priority 0 9
 obtain⟨w,c4,c5⟩:=d114 (St.bigs p.body.l) p.body (Nat.le_refl _) f1 f2 hc
 have hL1:=zam (Φ:=Φ) (live:=[1,3]) (L:=zpN) p.params.l (σ:=Unit) (ρ:=Unit) (fun _ t _=>if (!zaa t)=true then .inr () else .inl ())
  (fun k _ F G=>F=[(1,.optr 0 0 0 0),(3,I k)]∧G=[.arr 0 5 false [p.av]])
  (fun _ y F G=>y= .ret∧F.get 2=I 5)
  (fun _ y F G=>y= .exit 0∧F.keep [1]=[(1,.optr 0 0 0 0)]∧G=[.arr 0 5 false [p.av]]) (s:=()) (F:=[(1,.optr 0 0 0 0),(3,I 0)]) (H:=[.arr 0 5 false [p.av]]) ⟨rfl,rfl⟩ ?_ ?_
 .rw[za1 (fun t=> !zaa t),zcb]at hL1
  obtain⟨y1,F1,H1,e1,e2⟩:=zj.1 hL1
  clear hL1
  have hL2:=zam (Φ:=Φ) (live:=[4,5]) (L:=zpO) w.l (σ:=Unit) (ρ:=Int) (fun _ x _=>if zR x≠0 then .inr (zR x) else .inl ())
   (fun k _ F G=>F=[(4,Sl.av St.av 8 w),(5,I k)])
   (fun r y F G=>y= .ret∧F.get 2=I r)
   (fun _ y F G=>y= .exit 2) (s:=()) (F:=[(4,Sl.av St.av 8 w),(5,I 0)]) (H:=[.arr 0 5 false [p.av]]) rfl ?_ ?_
  .rw[zb4,c5]at hL2
   obtain⟨y2,F2,H2,e3,e4⟩:=zj.1 hL2
   clear hL2
   unfold zao
   by_cases z1:p.kind<1∨3<p.kind
   .have z1':¬(1≤p.kind∧p.kind≤3):=by omega
    rw[if_pos z1]
    rw[decide_eq_false z1']at c1
    simp[fi60,c60,zd,zc,za,resV,rvVs,rvV,c1]
   rw[if_neg z1]
   have z1':1≤p.kind∧p.kind≤3:=by omega
   rw[decide_eq_true z1']at c1
   cases z2:zaa p.name with
   |false=>
    rw[z2]at c2
    simp[fi60,c60,zd,zc,za,resV,rvVs,rvV,c1,c2]
   |true=>
   rw[z2]at c2
   rw[if_neg (by simp)]
   by_cases z3:8<p.params.l.length
   .have z3':(8:Int)<p.params.l.length:=by omega
    rw[if_pos z3]
    simp[fi60,c60,zd,zc,za,resV,rvVs,rvV,c1,c2,z3']
   have z3':¬(8:Int)<p.params.l.length:=by omega
   rw[if_neg z3]
   cases z4:p.params.l.all zaa with
   |false=>
    rw[z4]at e2
    obtain⟨rfl,e2⟩:y1= .ret∧F1.get 2=I 5:=e2
    simp[fi60,c60,zd,zc,za,resV,rvVs,rvV,c1,c2,z3',e1,e2]
   |true=>
   rw[z4]at e2
   obtain⟨rfl,e2,rfl⟩:y1= .exit 0∧F1.keep [1]=[(1,.optr 0 0 0 0)]∧H1=[.arr 0 5 false [p.av]]:=e2
   rw[if_neg (by simp)]
   by_cases z5:(p.priority<0∨9<p.priority)∨¬p.kind=1∧¬p.priority=0
   .rw[if_pos z5]
    simp[fi60,c60,zd,zc,za,resV,rvVs,rvV,c1,c2,c3,z3',e1,e2,z5]
   rw[if_neg z5]
   by_cases hz:zH zR (St.pres p.body.l)=0
   .rw[if_neg (by simpa using hz)]at e4
    have e4:y2= .exit 2:=e4
    subst e4
    simp[fi60,c60,zd,zc,za,resV,rvVs,rvV,c1,c2,c3,c4,z3',e1,e2,z5,e3,hz]
   .rw[if_pos hz]at e4
    obtain⟨rfl,e4⟩:y2= .ret∧F2.get 2=I (zH zR (St.pres p.body.l)):=e4
    simp[fi60,c60,zd,zc,za,resV,rvVs,rvV,c1,c2,c3,c4,z3',e1,e2,z5,e3,e4]
  .rintro k x ⟨⟩ F G hk hx rfl
   have hwl:w.l.length≤300:=by rw[c5];exact Nat.le_trans (St.presLe _) hc
   have hw:=zr (k:=k) (by omega)
   have d1:=d115 x (by
    have h1:=zpi (l:=p.body.l) (x:=x) (by rw[←c5];exact List.mem_of_getElem? hx)
    have h2:p.cost=St.costs p.body.l:=rfl
    omega)
   by_cases hz:zR x=0<;>simp[zlG,zog,za,hk,hx,hw,d1,hz, -getElem?_pos,gEz]
  .rintro⟨⟩ F G rfl
   simp[zlG,zog,za, -getElem?_pos,gEz]
 .rintro k t ⟨⟩ F G hk ht ⟨rfl,rfl⟩
  have hw:IntKind.wrap .i64 ((k:Int)+1)=(k:Int)+1:=by rw[zM]<;>omega
  have d1:=e104 t
  cases hq:zaa t<;>rw[hq]at d1<;>simp[zlF,zof,za,hk,ht,hw,d1, -getElem?_pos,gEz]
 .rintro⟨⟩ F G ⟨rfl,rfl⟩
  simp[zlF,zof,za, -getElem?_pos,gEz]
theorem d23 (s:So) (hf:s.fine):W.pure 23 [s.av]=some (I (zau s)):=by
 rw[zq Φ23 (by simp)]
 obtain⟨f1,f2,f3⟩:=hf
 have c1:=d57 s f2 f3
 unfold zau
 by_cases z1:(32<s.decls.l.length∨32<s.procs.l.length)∨300<(s.procs.l.map Pr.cost).sum
 .rw[if_pos z1]
  by_cases z2:(32:Int)<s.decls.l.length
  .simp[fi23,c23,zd,zc,za,resV,rvVs,rvV,z2, -getElem?_pos,gEz]
  .by_cases z3:(32:Int)<s.procs.l.length
   .simp[fi23,c23,zd,zc,za,resV,rvVs,rvV,z2,z3, -getElem?_pos,gEz]
   .have hm:min (s.procs.l.map Pr.cost).sum 301=301:=by omega
    rw[hm]at c1
    simp[fi23,c23,zd,zc,za,resV,rvVs,rvV,z2,z3,c1, -getElem?_pos,gEz]
 rw[if_neg z1]
 have z2:¬(32:Int)<s.decls.l.length:=by omega
 have z3:¬(32:Int)<s.procs.l.length:=by omega
 have hm:min (s.procs.l.map Pr.cost).sum 301=(s.procs.l.map Pr.cost).sum:=by omega
 rw[hm]at c1
 have z4:¬(300:Int)<((s.procs.l.map Pr.cost).sum:Nat):=by omega
 have hcp:∀p∈s.procs.l,p.cost≤300:=fun p hp=>by have:=zhE (f:=Pr.cost) hp;omega
 have hl1:s.decls.l.length≤32:=by omega
 have hl2:s.procs.l.length≤32:=by omega
 generalize (s.procs.l.map Pr.cost).sum=T at *
 clear z1 hm
 have hL1:=zam (Φ:=Φ) (live:=[1,3]) (L:=zpU) s.procs.l (σ:=Unit) (ρ:=Unit) (fun _ p _=>if (fun p:Pr=>decide (12<St.deps p.body.l)) p=true then .inr () else .inl ())
  (fun k _ F G=>F=[(1,.optr 0 0 0 0),(3,I k)]∧G=[.arr 0 2 false [s.av]])
  (fun _ y F G=>y= .ret∧F.get 2=I 22)
  (fun _ y F G=>y= .exit 0∧F.keep [1]=[(1,.optr 0 0 0 0)]∧G=[.arr 0 2 false [s.av]]) (s:=()) (F:=[(1,.optr 0 0 0 0),(3,I 0)]) (H:=[.arr 0 2 false [s.av]]) ⟨rfl,rfl⟩ ?_ ?_
 .have hL2:=zam (Φ:=Φ) (live:=[1,4]) (L:=zpV) s.decls.l (σ:=Unit) (ρ:=Int) (fun _ d _=>if zI d≠0 then .inr (zI d) else .inl ())
   (fun k _ F G=>F=[(1,.optr 0 0 0 0),(4,I k)]∧G=[.arr 0 2 false [s.av]])
   (fun r y F G=>y= .ret∧F.get 2=I r)
   (fun _ y F G=>y= .exit 2∧F.keep [1]=[(1,.optr 0 0 0 0)]∧G=[.arr 0 2 false [s.av]]) (s:=()) (F:=[(1,.optr 0 0 0 0),(4,I 0)]) (H:=[.arr 0 2 false [s.av]]) ⟨rfl,rfl⟩ ?_ ?_
  .have hL3:=zam (Φ:=Φ) (live:=[1,6]) (L:=zpW) s.procs.l (σ:=Unit) (ρ:=Int) (fun _ p _=>if zao p≠0 then .inr (zao p) else .inl ())
    (fun k _ F G=>F=[(1,.optr 0 0 0 0),(6,I k)]∧G=[.arr 0 2 false [s.av]])
    (fun r y F G=>y= .ret∧F.get 2=I r)
    (fun _ y F G=>y= .exit 4) (s:=()) (F:=[(1,.optr 0 0 0 0),(6,I 0)]) (H:=[.arr 0 2 false [s.av]]) ⟨rfl,rfl⟩ ?_ ?_
   .rw[za1]at hL1
    rw[zb4]at hL2 hL3
    obtain⟨y1,F1,H1,e1,e2⟩:=zj.1 hL1
    obtain⟨y2,F2,H2,e3,e4⟩:=zj.1 hL2
    obtain⟨y3,F3,H3,e5,e6⟩:=zj.1 hL3
    clear hL1 hL2 hL3
    cases z5:(s.procs.l.any fun p=>decide (12<St.deps p.body.l)) with
    |true=>
     rw[z5]at e2
     obtain⟨rfl,e2⟩:y1= .ret∧F1.get 2=I 22:=e2
     simp[fi23,c23,zd,zc,za,resV,rvVs,rvV,z2,z3,z4,c1,e1,e2, -getElem?_pos,gEz]
    |false=>
    rw[z5]at e2
    obtain⟨rfl,e2,rfl⟩:y1= .exit 0∧F1.keep [1]=[(1,.optr 0 0 0 0)]∧H1=[.arr 0 2 false [s.av]]:=e2
    rw[if_neg (by simp)]
    by_cases z6:zH zI s.decls.l=0
    rotate_left
    .rw[if_pos z6]at e4⊢
     obtain⟨rfl,e4⟩:y2= .ret∧F2.get 2=I (zH zI s.decls.l):=e4
     simp[fi23,c23,zd,zc,za,resV,rvVs,rvV,z2,z3,z4,c1,e1,e2,e3,e4, -getElem?_pos,gEz]
    rw[if_neg (by simpa using z6)]at e4⊢
    obtain⟨rfl,e4,rfl⟩:y2= .exit 2∧F2.keep [1]=[(1,.optr 0 0 0 0)]∧H2=[.arr 0 2 false [s.av]]:=e4
    by_cases z7:zH zao s.procs.l=0
    .rw[if_neg (by simpa using z7)]at e6
     have e6:y3= .exit 4:=e6
     subst e6
     simp[fi23,c23,zd,zc,za,resV,rvVs,rvV,z2,z3,z4,c1,e1,e2,e3,e4,e5,z7, -getElem?_pos,gEz]
    .rw[if_pos z7]at e6
     obtain⟨rfl,e6⟩:y3= .ret∧F3.get 2=I (zH zao s.procs.l):=e6
     simp[fi23,c23,zd,zc,za,resV,rvVs,rvV,z2,z3,z4,c1,e1,e2,e3,e4,e5,e6, -getElem?_pos,gEz]
   .rintro k p ⟨⟩ F G hk hp ⟨rfl,rfl⟩
    have hw:=zr (k:=k) (by omega)
    have hm:=List.mem_of_getElem? hp
    have d1:=d60 p (f3 p hm) (hcp p hm)
    by_cases hz:zao p=0<;>simp[zlL,zol,za,hk,hp,hw,d1,hz, -getElem?_pos,gEz]
   .rintro⟨⟩ F G ⟨rfl,rfl⟩
    simp[zlL,zol,za, -getElem?_pos,gEz]
  .rintro k d ⟨⟩ F G hk hd ⟨rfl,rfl⟩
   have hw:=zr (k:=k) (by omega)
   have d1:=d59 d
   rw[zmV]at d1
   by_cases hz:zI d=0<;>simp[zlK,zok,za,hk,hd,hw,d1,hz, -getElem?_pos,gEz]
  .rintro⟨⟩ F G ⟨rfl,rfl⟩
   simp[zlK,zok,za, -getElem?_pos,gEz]
 .rintro k p ⟨⟩ F G hk hp ⟨rfl,rfl⟩
  have hw:=zr (k:=k) (by omega)
  have hm:=List.mem_of_getElem? hp
  have d1:W.pure 58 [Sl.av St.av 8 p.body]=some (I (St.deps p.body.l:Nat)):=d58 (St.bigs p.body.l) p.body (Nat.le_refl _) (f3 p hm).1 (f3 p hm).2.1 (hcp p hm)
  by_cases hz:12<St.deps p.body.l
  .have hz':(12:Int)<St.deps p.body.l:=by omega
   rw[if_pos (show (fun p:Pr=>decide (12<St.deps p.body.l)) p=true from decide_eq_true hz)]
   simp[zhT,zme,za,hk,hp,hw,d1,hz', -getElem?_pos,gEz]
  .have hz':¬(12:Int)<St.deps p.body.l:=by omega
   rw[if_neg (show ¬(fun p:Pr=>decide (12<St.deps p.body.l)) p=true by simpa using hz)]
   simp[zhT,zme,za,hk,hp,hw,d1,hz', -getElem?_pos,gEz]
 .rintro⟨⟩ F G ⟨rfl,rfl⟩
  simp[zhT,zme,za, -getElem?_pos,gEz]
end
end Go.Proofs.YtgamobngbenehaaGreatDoor
end
section
namespace Go.Proofs.YtgamobngbenehaaGreatDoor
open Go Go.RowKit
set_option linter.unusedVariables false
set_option linter.unusedSimpArgs false
set_option maxRecDepth 10000
set_option maxHeartbeats 2000000
def ze7 (s:So):Bool:=decide (40<s.decls.l.length∨40<s.procs.l.length)||s.procs.l.any fun p=>decide (12<p.params.l.length)
theorem zh6 {n:Nat}:∀{l:List Ex},(∀e∈l,e.size≤n)→Ex.sizes l≤n* l.length
 | [],_=>by simp[Ex.sizes]
 |e::r,h=>by
  have h1:=zh6 (l:=r) (fun x hx=>h x (by simp[hx]))
  have h2:=h e (by simp)
  simp only[Ex.sizes,List.length_cons,Nat.mul_add];omega
theorem zef {e:Ex} (h:zZ e=true):e.size=1:=by
 unfold zZ at h
 simp only[Bool.and_eq_true,decide_eq_true_eq]at h
 rw[Ex.size_eq,h.2]
 simp[Ex.sizes]
theorem ziv {e:Ex} (h:exI e=0):e.size≤100:=by
 unfold exI at h
 split at h
 .rename_i h1;exact zcQ h1
 .rename_i h1;exact absurd h h1
theorem zsV {x:St} (h:zR x=0):x.names.l.length≤2∧Ex.sizes x.exprs.l≤800∧∀c∈x.cs.l,c.names.l.length+c.expr.size≤200:=by
 rw[←zie]at h
 unfold zmT at h
 split at h
 .rename_i h1;exact absurd h h1
 split at h
 .cases h
 rename_i h2
 have h2:zb1 x=true:=by simpa using h2
 split at h
 .rename_i h1;exact absurd h h1
 obtain⟨f1,f2,f3,f4⟩:=zf3 h2
 unfold exsI at h
 split at h
 .rename_i h1;exact absurd h h1
 rename_i h3
 have h3:zH (stEx x.kind) x.exprs.l=0:=by simpa using h3
 split at h
 .rename_i h1;exact absurd h h1
 rename_i h4
 have h4:zH csEx x.cs.l=0:=by simpa using h4
 refine⟨f1,?_,fun c hc=>?_⟩
 .have h5:=zh6 (n:=100) (l:=x.exprs.l) (fun e he=>by
   have h6:=zba.1 h3 e he
   unfold stEx at h6
   split at h6
   .rename_i h7;have:=zef h7.2;omega
   .exact ziv h6)
  omega
 .have h5:=f4 c hc
  have h6:=zba.1 h4 c hc
  unfold csEx at h6
  split at h6
  .have:=ziv h6;omega
  .rename_i h7
   have h8:rBad c=false:=by
    unfold zb1 at h2
    split at h2
    .cases h2
    .split at h2
     .have:=of_decide_eq_true h2
      rw[List.length_eq_zero_iff.1 this]at hc;cases hc
     .split at h2
      .cases h2
      .rename_i hb
       cases hbc:rBad c with
       |false=>rfl
       |true=>exact absurd (List.any_eq_true.2 ⟨c,hc,hbc⟩) hb
   have h9:zZ c.expr=true:=by
    unfold rBad at h8
    cases hz:zZ c.expr with
    |true=>rfl
    |false=>simp[h7,hz]at h8
   have:=zef h9
   omega
mutual
theorem St.big_cost:∀x:St,(∀y∈x.pre,zR y=0)→x.big≤1500* x.cost
 | .mk a b c d e f g bl h i el j k cl,hv=>by
  simp only[St.pre,List.mem_cons,List.mem_append]at hv
  have h1:=St.bigs_cost bl (fun y hy=>hv y (.inr (.inl hy)))
  have h2:=St.bigs_cost el (fun y hy=>hv y (.inr (.inr (.inl hy))))
  have h0:=zsV (hv _ (.inl rfl))
  have h3:=Cs.bigs_cost cl h0.2.2 (fun y hy=>hv y (.inr (.inr (.inr hy))))
  have h4:=h0.1
  have h5:=h0.2.1
  simp only[St.names,St.exprs]at h4 h5
  simp only[St.big,St.cost,Nat.mul_add]
  omega
theorem St.bigs_cost:∀l:List St,(∀y∈St.pres l,zR y=0)→St.bigs l≤1500* St.costs l
 | [],_=>by simp[St.bigs]
 |x::r,hv=>by
  simp only[St.pres,List.mem_append]at hv
  have h1:=St.big_cost x (fun y hy=>hv y (.inl hy))
  have h2:=St.bigs_cost r (fun y hy=>hv y (.inr hy))
  simp only[St.bigs,St.costs,Nat.mul_add]
  omega
theorem Cs.big_cost:∀x:Cs,x.names.l.length+x.expr.size≤200→(∀y∈x.pre,zR y=0)→x.big≤1500* x.cost
 | .mk a b e ns f g bl,hn,hv=>by
  simp only[Cs.pre]at hv
  have h1:=St.bigs_cost bl hv
  simp only[Cs.names,Cs.expr]at hn
  simp only[Cs.big,Cs.cost,Nat.mul_add]
  omega
theorem Cs.bigs_cost:∀l:List Cs,(∀c∈l,c.names.l.length+c.expr.size≤200)→(∀y∈Cs.pres l,zR y=0)→Cs.bigs l≤1500* Cs.costs l
 | [],_,_=>by simp[Cs.bigs]
 |x::r,hn,hv=>by
  simp only[Cs.pres,List.mem_append]at hv
  have h1:=Cs.big_cost x (hn x (by simp)) (fun y hy=>hv y (.inl hy))
  have h2:=Cs.bigs_cost r (fun c hc=>hn c (by simp[hc])) (fun y hy=>hv y (.inr hy))
  simp only[Cs.bigs,Cs.costs,Nat.mul_add]
  omega
end
theorem zva {p:Pr} (h:zao p=0):zH zR (St.pres p.body.l)=0∧p.params.l.length≤8:=by
 unfold zao at h
 split at h
 .cases h
 .split at h
  .cases h
  .split at h
   .cases h
   .split at h
    .cases h
    .split at h
     .cases h
     .exact⟨h,by omega⟩
section
attribute [local irreducible] okC okV
theorem d20 (s:So):W.pure 20 [s.av]=some (.bool (ze7 s)):=by
 rw[zq Φ20 (by simp)]
 unfold ze7
 by_cases h1:(40:Int)<s.decls.l.length
 .have h1':40<s.decls.l.length:=by omega
  simp[fi20,c20,zd,zc,za,resV,rvVs,rvV,h1,h1', -getElem?_pos,gEz]
 by_cases h2:(40:Int)<s.procs.l.length
 .have h2':40<s.procs.l.length:=by omega
  simp[fi20,c20,zd,zc,za,resV,rvVs,rvV,h1,h2,h2', -getElem?_pos,gEz]
 have h1':¬40<s.decls.l.length:=by omega
 have h2':¬40<s.procs.l.length:=by omega
 have hL1:=zam (Φ:=Φ) (live:=[1,3]) (L:=zpZ) s.procs.l (σ:=Unit) (ρ:=Unit) (fun _ p _=>if (fun p:Pr=>decide (12<p.params.l.length)) p=true then .inr () else .inl ())
  (fun k _ F G=>F=[(1,.optr 0 0 0 0),(3,I k)]∧G=[.arr 0 2 false [s.av]])
  (fun _ y F G=>y= .ret∧F.get 2= .bool true)
  (fun _ y F G=>y= .exit 0) (s:=()) (F:=[(1,.optr 0 0 0 0),(3,I 0)]) (H:=[.arr 0 2 false [s.av]]) ⟨rfl,rfl⟩ ?_ ?_
 .rw[za1]at hL1
  obtain⟨y1,F1,H1,e1,e2⟩:=zj.1 hL1
  cases h3:s.procs.l.any fun p=>decide (12<p.params.l.length) with
  |true=>
   rw[h3]at e2
   obtain⟨rfl,e2⟩:y1= .ret∧F1.get 2= .bool true:=e2
   simp[fi20,c20,zd,zc,za,resV,rvVs,rvV,h1,h1',h2,h2',e1,e2, -getElem?_pos,gEz]
  |false=>
   rw[h3]at e2
   have e2:y1= .exit 0:=e2
   subst e2
   simp[fi20,c20,zd,zc,za,resV,rvVs,rvV,h1,h1',h2,h2',e1, -getElem?_pos,gEz]
 .rintro k p ⟨⟩ F G hk hp ⟨rfl,rfl⟩
  have hw:=zr (k:=k) (by omega)
  by_cases hz:12<p.params.l.length
  .have hz':(12:Int)<p.params.l.length:=by omega
   rw[if_pos (show (fun p:Pr=>decide (12<p.params.l.length)) p=true from decide_eq_true hz)]
   simp[zhW,zmh,za,hk,hp,hw,hz', -getElem?_pos,gEz]
  .have hz':¬(12:Int)<p.params.l.length:=by omega
   rw[if_neg (show ¬(fun p:Pr=>decide (12<p.params.l.length)) p=true by simpa using hz)]
   simp[zhW,zmh,za,hk,hp,hw,hz', -getElem?_pos,gEz]
 .rintro⟨⟩ F G ⟨rfl,rfl⟩
  simp[zhW,zmh,za, -getElem?_pos,gEz]
theorem d30 (a b:So) (ha:a.fine) (hb:b.fine):W.pure 30 [a.av,b.av]=some (.bool (soEq a b)):=by
 rw[zq Φ30 (by simp)]
 have c1:=d23 a ha
 have c2:=d23 b hb
 unfold soEq
 by_cases h1:zau a=0
 rotate_left
 .simp[fi30,c30,zd,zc,za,resV,rvVs,rvV,c1,h1, -getElem?_pos,gEz]
 rw[h1]at c1
 by_cases h2:zau b=0
 rotate_left
 .simp[fi30,c30,zd,zc,za,resV,rvVs,rvV,c1,c2,h1,h2, -getElem?_pos,gEz]
 rw[h2]at c2
 obtain⟨g1,g2,g3,g4,g5,g6⟩:=zh4 h1
 have c3:=e55 a b (by omega) (by omega) (fun p hp=>by
  obtain⟨q1,q2⟩:=zva (g6 p hp)
  have q3:=St.bigs_cost p.body.l (zba.1 q1)
  have q4:=zhE (f:=Pr.cost) hp
  have q5:p.cost=St.costs p.body.l:=rfl
  exact⟨by omega,by omega⟩)
 unfold zjQ at c3
 simp[fi30,c30,zd,zc,za,resV,rvVs,rvV,c1,c2,c3,h1,h2, -getElem?_pos,gEz]
theorem law8 (a:So) (ha:a.fine) (b:So) (hb:b.fine):W.pure 8 [a.av,b.av]=some (.bool true):=by
 rw[zq Φ8 (by simp)]
 have g1:=d20 a
 have g2:=d20 b
 have aw:=e11
 have c1:=e34 a b ha hb
 have c2:=d30 a b ha hb
 have c3:=e34 a a ha ha
 have c4:=d23 a ha
 have hs:soEq a a=decide (zau a=0):=by
  by_cases h:zau a=0
  .rw[zpb h h rfl rfl,decide_eq_true h]
  .unfold soEq;simp[h]
 rw[hs]at c3
 cases h1:ze7 a with
 |true=>rw[h1]at g1;simp[fi8,c8,zd,zc,za,resV,rvVs,rvV,g1,aw, -getElem?_pos,gEz]
 |false=>
 rw[h1]at g1
 cases h2:ze7 b with
 |true=>rw[h2]at g2;simp[fi8,c8,zd,zc,za,resV,rvVs,rvV,g1,g2,aw, -getElem?_pos,gEz]
 |false=>
 rw[h2]at g2
 generalize soEq a b=q at *
 by_cases h3:zau a=0
 .rw[decide_eq_true h3]at c3
  simp[fi8,c8,zd,zc,za,resV,rvVs,rvV,g1,g2,aw,c1,c2,c3,c4,h3, -getElem?_pos,gEz]
 .rw[decide_eq_false h3]at c3
  simp[fi8,c8,zd,zc,za,resV,rvVs,rvV,g1,g2,aw,c1,c2,c3,c4,h3, -getElem?_pos,gEz]
end
end Go.Proofs.YtgamobngbenehaaGreatDoor
end
