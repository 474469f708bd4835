/-
  The check of statements as the reference of layer 11 makes it, in plain terms: it is the same check (conditions: none). Operations on objects and shapes of statements, in the reference (conditions: none). The names of an expression, as the reference collects them (conditions: none). Kinds, fields and names of statements, as the reference checks them (conditions: none). Names of statements, as the reference checks them (conditions: none). The reference's check of a statement (conditions: none). Size and depth of statements, in the reference (conditions: none). Size of a source and depth of statements, in the reference (conditions: none). The statements in preorder, in the reference (conditions: none). The reference's check of a source (conditions: none). The size of statements as a sum over all that are listed (conditions: none). The reference's check of a source, whole; equality and greatness (conditions: none). Equality and greatness of sources in the reference; the statement SyntaxEqual (conditions: none). The walk over the statements of a procedure that SyntaxPreorder makes (conditions: none). The statement SyntaxPreorder (conditions: none).
-/
import Derived.Test.YtgamobngbenehaaGreatDoorBBt
import Derived.Test.YtgamobngbenehaaGreatDoorACt
import Derived.Test.YtgamobngbenehaaGreatDoorBEt
import Derived.Test.YtgamobngbenehaaGreatDoorBGt
section
namespace Go.Proofs.YtgamobngbenehaaGreatDoor
open Go Go.RowKit
set_option linter.unusedVariables false
set_option linter.unusedSimpArgs false
set_option maxRecDepth 10000
def rsh (k op:Int):Shp:=
 if k=1∨k=2 then ⟨1,0,0,1,1,false,false,false,false⟩
 else if k=3 then ⟨0,0,0,1,1,true,true,false,false⟩
 else if k=4∨k=5 then ⟨0,0,0,1,1,true,false,false,false⟩
 else if k=6∨k=7∨k=8∨k=9∨k=10∨k=24 then ⟨0,0,0,1,1,false,false,false,false⟩
 else if k=14 then ⟨2,0,0,2,2,true,false,false,false⟩
 else if k=15 then ⟨0,0,0,0,0,true,false,false,false⟩
 else if k=16∨k=18 then ⟨1,0,0,0,8,false,false,false,false⟩
 else if k=17 then ⟨1,0,1,0,8,false,false,false,false⟩
 else if k=19 then ⟨1,((opOf op).getD opZ).names,((opOf op).getD opZ).names,((opOf op).getD opZ).exprs,((opOf op).getD opZ).exprs,false,false,false,false⟩
 else if k=21 then ⟨1,1,1,1,1,false,false,false,false⟩
 else if k=22 then ⟨1,1,1,2,2,false,false,false,false⟩
 else if k=23 then ⟨0,0,0,2,2,false,false,false,false⟩
 else ⟨0,0,0,0,0,false,false,false,false⟩
theorem zoz (k op:Int) (h:1≤k∧k≤24):(zI k op).1={rsh k op with cases:=decide (k=20),op:=decide (k=19)}:=by
 have hk:k=1∨k=2∨k=3∨k=4∨k=5∨k=6∨k=7∨k=8∨k=9∨k=10∨k=11∨k=12∨k=13∨k=14∨k=15∨k=16∨k=17∨k=18∨k=19∨k=20∨k=21∨k=22∨k=23∨k=24:=by omega
 rcases hk with rfl|rfl|rfl|rfl|rfl|rfl|rfl|rfl|rfl|rfl|rfl|rfl|rfl|rfl|rfl|rfl|rfl|rfl|rfl|rfl|rfl|rfl|rfl|rfl<;>rfl
theorem zjQ (k op:Int) (h:1≤k∧k≤24):(zI k op).2=false↔k=19∧opOf op=none:=by
 have hk:k=1∨k=2∨k=3∨k=4∨k=5∨k=6∨k=7∨k=8∨k=9∨k=10∨k=11∨k=12∨k=13∨k=14∨k=15∨k=16∨k=17∨k=18∨k=19∨k=20∨k=21∨k=22∨k=23∨k=24:=by omega
 by_cases h19:k=19
 .subst h19
  have:(zI 19 op).2=(opOf op).isSome:=rfl
  rw[this]
  cases opOf op<;>simp
 .have:(zI k op).2=true:=by
   rcases hk with rfl|rfl|rfl|rfl|rfl|rfl|rfl|rfl|rfl|rfl|rfl|rfl|rfl|rfl|rfl|rfl|rfl|rfl|rfl|rfl|rfl|rfl|rfl|rfl<;>first|rfl|exact absurd rfl h19
  rw[this]
  simp[h19]
def zeC (x:St):Int:=
 if x.kind<1∨24<x.kind then 8
 else if x.kind=19∧opOf x.op=none then 8
 else if (x.cs.l.all fun c=>decide (1≤c.kind∧c.kind≤3))=false then 8
 else 0
def rBad (c:Cs):Bool:=(decide (c.kind=3)&& !decide (c.name=[]))||(!decide (c.kind=1)&& !zP c.expr)||(decide (c.kind=2)&& !decide (c.names.l.length=2))||(!decide (c.kind=2)&&decide (0<c.names.l.length))
def zbv (x:St):Bool:=
 if ((rsh x.kind x.op).name=0∧¬x.name=[])∨¬((rsh x.kind x.op).n0≤x.names.l.length∧(x.names.l.length:Int)≤(rsh x.kind x.op).n1)∨¬((rsh x.kind x.op).e0≤x.exprs.l.length∧(x.exprs.l.length:Int)≤(rsh x.kind x.op).e1)∨
   ((rsh x.kind x.op).body=false∧0<x.body.l.length)∨((rsh x.kind x.op).others=false∧0<x.els.l.length)∨(¬x.kind=19∧¬x.op=0) then false
 else if ¬x.kind=20 then decide (x.cs.l.length=0)
 else if x.cs.l.any rBad=true then false
 else decide (1≤x.cs.l.length∧x.cs.l.length≤6)
theorem zpi {c:Cs} (h:1≤c.kind∧c.kind≤3):rBad c= !casB c:=by
 have hk:c.kind=1∨c.kind=2∨c.kind=3:=by omega
 unfold rBad casB
 rcases hk with hk|hk|hk
 .rw[hk];cases hn:c.names.l<;>simp
 .rw[hk];cases zP c.expr<;>simp
 .rw[hk];cases zP c.expr<;>by_cases h1:c.name=[]<;>cases hn:c.names.l<;>simp[h1]
theorem zsU {l:List Cs} (h:∀c∈l,1≤c.kind∧c.kind≤3):l.any rBad= !l.all casB:=by
 induction l with
 |nil=>rfl
 |cons a r ih=>
  simp only[List.any_cons,List.all_cons,zpi (h a (by simp)),ih (fun c hc=>h c (by simp[hc])),Bool.not_and]
theorem zmU (x:St) (h:1≤x.kind∧x.kind≤24) (hc:∀c∈x.cs.l,1≤c.kind∧c.kind≤3):fldB x (zI x.kind x.op).1=zbv x:=by
 rw[zoz _ _ h]
 have h1:=zsU hc
 unfold fldB zbv
 generalize rsh x.kind x.op=s at *
 rw[h1]
 simp only
 by_cases a1:s.name=0∧¬x.name=[]
 .rw[if_pos (.inl (.inl (.inl a1))),if_pos (.inl a1)]
 by_cases a2:¬x.kind=19∧¬x.op=0
 .rw[if_pos (.inl (.inl (.inr ⟨by simpa using a2.1,a2.2⟩))),if_pos (.inr (.inr (.inr (.inr (.inr a2)))))]
 by_cases a3:s.body=false∧0<x.body.l.length
 .rw[if_pos (.inl (.inr a3)),if_pos (.inr (.inr (.inr (.inl a3))))]
 by_cases a4:s.others=false∧0<x.els.l.length
 .rw[if_pos (.inr a4),if_pos (.inr (.inr (.inr (.inr (.inl a4)))))]
 rw[if_neg (by
  rintro (((q|q)|q)|q)
  .exact a1 q
  .exact a2 ⟨by simpa using q.1,q.2⟩
  .exact a3 q
  .exact a4 q)]
 by_cases a5:((x.names.l.length:Int)<s.n0∨s.n1<x.names.l.length)∨(x.exprs.l.length:Int)<s.e0∨s.e1<x.exprs.l.length
 .rw[if_pos a5,if_pos (by
   rcases a5 with (q|q)|(q|q)
   .exact .inr (.inl (by omega))
   .exact .inr (.inl (by omega))
   .exact .inr (.inr (.inl (by omega)))
   .exact .inr (.inr (.inl (by omega))))]
 have nb:¬((s.name=0∧¬x.name=[])∨¬(s.n0≤x.names.l.length∧(x.names.l.length:Int)≤s.n1)∨¬(s.e0≤x.exprs.l.length∧(x.exprs.l.length:Int)≤s.e1)∨(s.body=false∧0<x.body.l.length)∨(s.others=false∧0<x.els.l.length)∨(¬x.kind=19∧¬x.op=0)):=by
  rintro (q|q|q|q|q|q)
  .exact a1 q
  .omega
  .omega
  .exact a3 q
  .exact a4 q
  .exact a2 q
 rw[if_neg a5,if_neg nb]
 clear nb a1 a2 a3 a4 a5 h1
 by_cases a6:x.kind=20
 .simp only[a6,decide_true,Bool.true_eq_false,if_false,not_true_eq_false]
  cases x.cs.l.all casB with
  |true=>
   simp only[Bool.not_true,Bool.false_eq_true,if_false]
   by_cases a7:1≤x.cs.l.length∧x.cs.l.length≤6
   .rw[if_pos (by omega),decide_eq_true a7]
   .rw[if_neg (by omega),decide_eq_false a7]
  |false=>simp
 .simp only[a6,decide_false,if_true,not_false_eq_true]
  cases x.cs.l<;>simp
def zcF (x:St):Int:=
 if ((rsh x.kind x.op).name=1∨(rsh x.kind x.op).name=2∧¬x.name=[])∧zX x.name=false then 5
 else if (x.names.l++x.cs.l.flatMap fun c=>if c.kind=3 then [] else c.name::c.names.l).all zX=false then 5
 else if 1<defs x.cs.l then 6
 else 0
theorem zjZ (x:St) (h:1≤x.kind∧x.kind≤24) (hf:zbv x=true):zcF x=if namB x (zI x.kind x.op).1=false then 5 else if 1<defs x.cs.l then 6 else 0:=by
 have h3:∀c∈x.cs.l,c.kind=3→c.names.l=[]:=by
  intro c hc hk
  unfold zbv at hf
  split at hf
  .cases hf
  .split at hf
   .have:=of_decide_eq_true hf
    rw[List.length_eq_zero_iff.1 this]at hc;cases hc
   .split at hf
    .cases hf
    .rename_i hb
     have h4:rBad c=false:=by
      cases hbc:rBad c with
      |false=>rfl
      |true=>exact absurd (List.any_eq_true.2 ⟨c,hc,hbc⟩) hb
     unfold rBad at h4
     rw[hk]at h4
     cases hn:c.names.l with
     |nil=>rfl
     |cons a r=>rw[hn]at h4;simp at h4
 have h5:(x.names.l++x.cs.l.flatMap fun c=>if c.kind=3 then [] else c.name::c.names.l).all zX=(x.names.l.all zX&&x.cs.l.all fun c=>(decide (c.kind=3)||zX c.name)&&c.names.l.all zX):=by
  rw[List.all_append]
  congr 1
  generalize x.cs.l=l at h3
  induction l with
  |nil=>rfl
  |cons a r ih=>
   simp only[List.flatMap_cons,List.all_append,List.all_cons,ih (fun c hc=>h3 c (by simp[hc]))]
   congr 1
   by_cases hk:a.kind=3
   .simp[hk,h3 a (by simp) hk]
   .simp[hk]
 have h6:(zI x.kind x.op).1.name=(rsh x.kind x.op).name:=by rw[zoz _ _ h]
 unfold zcF namB
 rw[h5,h6]
 by_cases a1:((rsh x.kind x.op).name=1∨(rsh x.kind x.op).name=2∧¬x.name=[])∧zX x.name=false
 .rw[if_pos a1,if_pos a1];simp
 .rw[if_neg a1,if_neg a1]
def ziY (x:St):Int:=
 if zeC x≠0 then zeC x else if zbv x=false then 1 else if zcF x≠0 then zcF x else exsI x
theorem zdF (x:St):ziY x=zL x:=by
 unfold ziY zeC zL
 by_cases h1:x.kind<1∨24<x.kind
 .have:=zjP x.kind x.op h1
  rw[if_pos h1,this]
  simp
 have hk:1≤x.kind∧x.kind≤24:=by omega
 have hs:=zjQ x.kind x.op hk
 rw[if_neg h1]
 by_cases h2:x.kind=19∧opOf x.op=none
 .have h3:(zI x.kind x.op).2=false∨(x.cs.l.all fun c=>decide (1≤c.kind∧c.kind≤3))=false:= .inl (hs.2 h2)
  rw[if_pos h2,if_pos h3];simp
 rw[if_neg h2]
 have hs2:¬(zI x.kind x.op).2=false:=fun e=>h2 (hs.1 e)
 cases h3:x.cs.l.all fun c=>decide (1≤c.kind∧c.kind≤3) with
 |false=>simp
 |true=>
 have hc:∀c∈x.cs.l,1≤c.kind∧c.kind≤3:=fun c hc=>of_decide_eq_true (List.all_eq_true.1 h3 c hc)
 have h5:¬((zI x.kind x.op).2=false∨true=false):=by
  rintro (q|q)
  .exact hs2 q
  .cases q
 rw[if_neg h5,zmU x hk hc]
 simp only[Bool.true_eq_false,if_false,ne_eq,not_true_eq_false]
 cases h4:zbv x with
 |false=>simp
 |true=>
 simp only[Bool.true_eq_false,if_false]
 rw[zjZ x hk h4]
 cases namB x (zI x.kind x.op).1 with
 |false=>simp
 |true=>
 by_cases h5:1<defs x.cs.l
 .simp[h5]
 .simp[h5]
end Go.Proofs.YtgamobngbenehaaGreatDoor
end
section
namespace Go.Proofs.YtgamobngbenehaaGreatDoor
open Go Go.RowKit
set_option linter.unusedVariables false
set_option linter.unusedSimpArgs false
set_option maxRecDepth 10000
def opR (n:Int):AV:= .tuple [.str ((opOf n).getD opZ).word,I ((opOf n).getD opZ).exprs,I ((opOf n).getD opZ).names]
theorem zua:W.pure 196 [I 0]=some (opR 0):=(zn 60).pure _ _ _ (by kernel_rfl)
theorem zt9:W.pure 196 [I 1]=some (opR 1):=(zn 60).pure _ _ _ (by kernel_rfl)
theorem zt8:W.pure 196 [I 2]=some (opR 2):=(zn 60).pure _ _ _ (by kernel_rfl)
theorem zt7:W.pure 196 [I 3]=some (opR 3):=(zn 60).pure _ _ _ (by kernel_rfl)
theorem zt6:W.pure 196 [I 4]=some (opR 4):=(zn 60).pure _ _ _ (by kernel_rfl)
theorem zt5:W.pure 196 [I 5]=some (opR 5):=(zn 60).pure _ _ _ (by kernel_rfl)
theorem zt4:W.pure 196 [I 6]=some (opR 6):=(zn 60).pure _ _ _ (by kernel_rfl)
theorem zt3:W.pure 196 [I 7]=some (opR 7):=(zn 60).pure _ _ _ (by kernel_rfl)
theorem zt2:W.pure 196 [I 8]=some (opR 8):=(zn 60).pure _ _ _ (by kernel_rfl)
theorem zt1:W.pure 196 [I 9]=some (opR 9):=(zn 60).pure _ _ _ (by kernel_rfl)
theorem zro:W.pure 196 [I 10]=some (opR 10):=(zn 60).pure _ _ _ (by kernel_rfl)
theorem zrn:W.pure 196 [I 11]=some (opR 11):=(zn 60).pure _ _ _ (by kernel_rfl)
theorem zrm:W.pure 196 [I 12]=some (opR 12):=(zn 60).pure _ _ _ (by kernel_rfl)
theorem zrl:W.pure 196 [I 13]=some (opR 13):=(zn 60).pure _ _ _ (by kernel_rfl)
theorem zrk:W.pure 196 [I 14]=some (opR 14):=(zn 60).pure _ _ _ (by kernel_rfl)
theorem zrj:W.pure 196 [I 15]=some (opR 15):=(zn 60).pure _ _ _ (by kernel_rfl)
theorem zri:W.pure 196 [I 16]=some (opR 16):=(zn 60).pure _ _ _ (by kernel_rfl)
theorem zrh:W.pure 196 [I 17]=some (opR 17):=(zn 60).pure _ _ _ (by kernel_rfl)
theorem zrg:W.pure 196 [I 18]=some (opR 18):=(zn 60).pure _ _ _ (by kernel_rfl)
theorem zrf:W.pure 196 [I 19]=some (opR 19):=(zn 60).pure _ _ _ (by kernel_rfl)
theorem zre:W.pure 196 [I 20]=some (opR 20):=(zn 60).pure _ _ _ (by kernel_rfl)
theorem zrd:W.pure 196 [I 21]=some (opR 21):=(zn 60).pure _ _ _ (by kernel_rfl)
theorem zrc:W.pure 196 [I 22]=some (opR 22):=(zn 60).pure _ _ _ (by kernel_rfl)
theorem zrb:W.pure 196 [I 23]=some (opR 23):=(zn 60).pure _ _ _ (by kernel_rfl)
theorem zra:W.pure 196 [I 24]=some (opR 24):=(zn 60).pure _ _ _ (by kernel_rfl)
theorem zq9:W.pure 196 [I 25]=some (opR 25):=(zn 60).pure _ _ _ (by kernel_rfl)
theorem zq8:W.pure 196 [I 26]=some (opR 26):=(zn 60).pure _ _ _ (by kernel_rfl)
theorem zq7:W.pure 196 [I 27]=some (opR 27):=(zn 60).pure _ _ _ (by kernel_rfl)
theorem zq6:W.pure 196 [I 28]=some (opR 28):=(zn 60).pure _ _ _ (by kernel_rfl)
theorem zq5:W.pure 196 [I 29]=some (opR 29):=(zn 60).pure _ _ _ (by kernel_rfl)
theorem zq4:W.pure 196 [I 30]=some (opR 30):=(zn 60).pure _ _ _ (by kernel_rfl)
theorem zq3:W.pure 196 [I 31]=some (opR 31):=(zn 60).pure _ _ _ (by kernel_rfl)
theorem zq2:W.pure 196 [I 32]=some (opR 32):=(zn 60).pure _ _ _ (by kernel_rfl)
theorem zq1:W.pure 196 [I 33]=some (opR 33):=(zn 60).pure _ _ _ (by kernel_rfl)
theorem zq0:W.pure 196 [I 34]=some (opR 34):=(zn 60).pure _ _ _ (by kernel_rfl)
theorem zqZ:W.pure 196 [I 35]=some (opR 35):=(zn 60).pure _ _ _ (by kernel_rfl)
theorem zqY:W.pure 196 [I 36]=some (opR 36):=(zn 60).pure _ _ _ (by kernel_rfl)
theorem zqX:W.pure 196 [I 37]=some (opR 37):=(zn 60).pure _ _ _ (by kernel_rfl)
theorem zqW:W.pure 196 [I 38]=some (opR 38):=(zn 60).pure _ _ _ (by kernel_rfl)
theorem zqV:W.pure 196 [I 39]=some (opR 39):=(zn 60).pure _ _ _ (by kernel_rfl)
theorem zqU:W.pure 196 [I 40]=some (opR 40):=(zn 60).pure _ _ _ (by kernel_rfl)
theorem zqT:W.pure 196 [I 41]=some (opR 41):=(zn 60).pure _ _ _ (by kernel_rfl)
theorem zqS:W.pure 196 [I 42]=some (opR 42):=(zn 60).pure _ _ _ (by kernel_rfl)
theorem zqR:W.pure 196 [I 43]=some (opR 43):=(zn 60).pure _ _ _ (by kernel_rfl)
theorem zqQ:W.pure 196 [I 44]=some (opR 44):=(zn 60).pure _ _ _ (by kernel_rfl)
theorem zqP:W.pure 196 [I 45]=some (opR 45):=(zn 60).pure _ _ _ (by kernel_rfl)
theorem zqO:W.pure 196 [I 46]=some (opR 46):=(zn 60).pure _ _ _ (by kernel_rfl)
theorem zqN:W.pure 196 [I 47]=some (opR 47):=(zn 60).pure _ _ _ (by kernel_rfl)
theorem zqM:W.pure 196 [I 48]=some (opR 48):=(zn 60).pure _ _ _ (by kernel_rfl)
theorem zqL:W.pure 196 [I 49]=some (opR 49):=(zn 60).pure _ _ _ (by kernel_rfl)
theorem zqK:W.pure 196 [I 50]=some (opR 50):=(zn 60).pure _ _ _ (by kernel_rfl)
theorem zqJ:W.pure 196 [I 51]=some (opR 51):=(zn 60).pure _ _ _ (by kernel_rfl)
theorem zqI:W.pure 196 [I 52]=some (opR 52):=(zn 60).pure _ _ _ (by kernel_rfl)
theorem zqH:W.pure 196 [I 53]=some (opR 53):=(zn 60).pure _ _ _ (by kernel_rfl)
theorem zqG:W.pure 196 [I 54]=some (opR 54):=(zn 60).pure _ _ _ (by kernel_rfl)
theorem zqF:W.pure 196 [I 55]=some (opR 55):=(zn 60).pure _ _ _ (by kernel_rfl)
theorem zqE:W.pure 196 [I 56]=some (opR 56):=(zn 60).pure _ _ _ (by kernel_rfl)
theorem zqD:W.pure 196 [I 57]=some (opR 57):=(zn 60).pure _ _ _ (by kernel_rfl)
theorem zqC:W.pure 196 [I 58]=some (opR 58):=(zn 60).pure _ _ _ (by kernel_rfl)
theorem zqB:W.pure 196 [I 59]=some (opR 59):=(zn 60).pure _ _ _ (by kernel_rfl)
theorem zqA:W.pure 196 [I 60]=some (opR 60):=(zn 60).pure _ _ _ (by kernel_rfl)
theorem zqz:W.pure 196 [I 61]=some (opR 61):=(zn 60).pure _ _ _ (by kernel_rfl)
theorem zqy:W.pure 196 [I 62]=some (opR 62):=(zn 60).pure _ _ _ (by kernel_rfl)
theorem zqx:W.pure 196 [I 63]=some (opR 63):=(zn 60).pure _ _ _ (by kernel_rfl)
theorem zqw:W.pure 196 [I 64]=some (opR 64):=(zn 60).pure _ _ _ (by kernel_rfl)
theorem zqv:W.pure 196 [I 65]=some (opR 65):=(zn 60).pure _ _ _ (by kernel_rfl)
theorem zqu:W.pure 196 [I 66]=some (opR 66):=(zn 60).pure _ _ _ (by kernel_rfl)
theorem zqt:W.pure 196 [I 67]=some (opR 67):=(zn 60).pure _ _ _ (by kernel_rfl)
theorem zqs:W.pure 196 [I 68]=some (opR 68):=(zn 60).pure _ _ _ (by kernel_rfl)
theorem zqr:W.pure 196 [I 69]=some (opR 69):=(zn 60).pure _ _ _ (by kernel_rfl)
theorem zqq:W.pure 196 [I 70]=some (opR 70):=(zn 60).pure _ _ _ (by kernel_rfl)
theorem zqp:W.pure 196 [I 71]=some (opR 71):=(zn 60).pure _ _ _ (by kernel_rfl)
theorem zqo:W.pure 196 [I 72]=some (opR 72):=(zn 60).pure _ _ _ (by kernel_rfl)
theorem zqn:W.pure 196 [I 73]=some (opR 73):=(zn 60).pure _ _ _ (by kernel_rfl)
theorem zqm:W.pure 196 [I 74]=some (opR 74):=(zn 60).pure _ _ _ (by kernel_rfl)
theorem zgf (n:Int) (h:∀o∈opT,¬o.op=n):opOf n=none:=by
 unfold opOf
 rw[List.find?_eq_none]
 intro o ho
 simp[h o ho]
theorem zoC:∀o∈opT,0≤o.op∧o.op<75:=by decide
theorem ztZ (k:Nat):W.pure 196 [I (Int.ofNat (k+75))]=some (.tuple [.str [],I 0,I 0]):=(zn 60).pure _ _ _ (by kernel_rfl)
theorem zt0 (k:Nat):W.pure 196 [I (Int.negSucc k)]=some (.tuple [.str [],I 0,I 0]):=(zn 60).pure _ _ _ (by kernel_rfl)
theorem zij {n:Int} (h:opOf n=none):opR n= .tuple [.str [],I 0,I 0]:=by unfold opR;rw[h];rfl
theorem d196 (n:Int):W.pure 196 [I n]=some (opR n):=by
 by_cases h0:n=0
 .subst h0;exact zua
 by_cases h1:n=1
 .subst h1;exact zt9
 by_cases h2:n=2
 .subst h2;exact zt8
 by_cases h3:n=3
 .subst h3;exact zt7
 by_cases h4:n=4
 .subst h4;exact zt6
 by_cases h5:n=5
 .subst h5;exact zt5
 by_cases h6:n=6
 .subst h6;exact zt4
 by_cases h7:n=7
 .subst h7;exact zt3
 by_cases h8:n=8
 .subst h8;exact zt2
 by_cases h9:n=9
 .subst h9;exact zt1
 by_cases h10:n=10
 .subst h10;exact zro
 by_cases h11:n=11
 .subst h11;exact zrn
 by_cases h12:n=12
 .subst h12;exact zrm
 by_cases h13:n=13
 .subst h13;exact zrl
 by_cases h14:n=14
 .subst h14;exact zrk
 by_cases h15:n=15
 .subst h15;exact zrj
 by_cases h16:n=16
 .subst h16;exact zri
 by_cases h17:n=17
 .subst h17;exact zrh
 by_cases h18:n=18
 .subst h18;exact zrg
 by_cases h19:n=19
 .subst h19;exact zrf
 by_cases h20:n=20
 .subst h20;exact zre
 by_cases h21:n=21
 .subst h21;exact zrd
 by_cases h22:n=22
 .subst h22;exact zrc
 by_cases h23:n=23
 .subst h23;exact zrb
 by_cases h24:n=24
 .subst h24;exact zra
 by_cases h25:n=25
 .subst h25;exact zq9
 by_cases h26:n=26
 .subst h26;exact zq8
 by_cases h27:n=27
 .subst h27;exact zq7
 by_cases h28:n=28
 .subst h28;exact zq6
 by_cases h29:n=29
 .subst h29;exact zq5
 by_cases h30:n=30
 .subst h30;exact zq4
 by_cases h31:n=31
 .subst h31;exact zq3
 by_cases h32:n=32
 .subst h32;exact zq2
 by_cases h33:n=33
 .subst h33;exact zq1
 by_cases h34:n=34
 .subst h34;exact zq0
 by_cases h35:n=35
 .subst h35;exact zqZ
 by_cases h36:n=36
 .subst h36;exact zqY
 by_cases h37:n=37
 .subst h37;exact zqX
 by_cases h38:n=38
 .subst h38;exact zqW
 by_cases h39:n=39
 .subst h39;exact zqV
 by_cases h40:n=40
 .subst h40;exact zqU
 by_cases h41:n=41
 .subst h41;exact zqT
 by_cases h42:n=42
 .subst h42;exact zqS
 by_cases h43:n=43
 .subst h43;exact zqR
 by_cases h44:n=44
 .subst h44;exact zqQ
 by_cases h45:n=45
 .subst h45;exact zqP
 by_cases h46:n=46
 .subst h46;exact zqO
 by_cases h47:n=47
 .subst h47;exact zqN
 by_cases h48:n=48
 .subst h48;exact zqM
 by_cases h49:n=49
 .subst h49;exact zqL
 by_cases h50:n=50
 .subst h50;exact zqK
 by_cases h51:n=51
 .subst h51;exact zqJ
 by_cases h52:n=52
 .subst h52;exact zqI
 by_cases h53:n=53
 .subst h53;exact zqH
 by_cases h54:n=54
 .subst h54;exact zqG
 by_cases h55:n=55
 .subst h55;exact zqF
 by_cases h56:n=56
 .subst h56;exact zqE
 by_cases h57:n=57
 .subst h57;exact zqD
 by_cases h58:n=58
 .subst h58;exact zqC
 by_cases h59:n=59
 .subst h59;exact zqB
 by_cases h60:n=60
 .subst h60;exact zqA
 by_cases h61:n=61
 .subst h61;exact zqz
 by_cases h62:n=62
 .subst h62;exact zqy
 by_cases h63:n=63
 .subst h63;exact zqx
 by_cases h64:n=64
 .subst h64;exact zqw
 by_cases h65:n=65
 .subst h65;exact zqv
 by_cases h66:n=66
 .subst h66;exact zqu
 by_cases h67:n=67
 .subst h67;exact zqt
 by_cases h68:n=68
 .subst h68;exact zqs
 by_cases h69:n=69
 .subst h69;exact zqr
 by_cases h70:n=70
 .subst h70;exact zqq
 by_cases h71:n=71
 .subst h71;exact zqp
 by_cases h72:n=72
 .subst h72;exact zqo
 by_cases h73:n=73
 .subst h73;exact zqn
 by_cases h74:n=74
 .subst h74;exact zqm
 rcases n with k|k
 .obtain⟨m,rfl⟩:∃m,k=m+75:=⟨k - 75,by simp at *;omega⟩
  rw[zij (zgf _ (fun o ho e=>by have:=zoC o ho;rw[e]at this;simp at this;omega))]
  exact ztZ m
 .rw[zij (zgf _ (fun o ho e=>by have:=zoC o ho;rw[e]at this;simp at this))]
  exact zt0 k
theorem zm1:∀o∈opT,¬o.word=[]:=by decide
theorem zge (n:Int):((opOf n).getD opZ).word=[]↔opOf n=none:=by
 cases h:opOf n with
 |none=>simp[opZ]
 |some o=>
  have:=zm1 o (List.mem_of_find?_eq_some h)
  simp[this]
def zmo:List AV→Option AV
 | [.int .i64 n]=>some (opR n)
 |_=>none
theorem zmn:∀a r,zmo a=some r→W.pure 196 a=some r:=by
 intro a r h
 unfold zmo at h
 split at h
 .cases h;exact d196 _
 .cases h
def Shp.rv (s:Shp):AV:= .agg [I s.name,I s.n0,I s.n1,I s.e0,I s.e1,.bool s.body,.bool s.others]
theorem ztY (o:Int) (n:List UInt8) (ns:Sl (List UInt8)) (es:Sl Ex) (b e:Sl St) (c:Sl Cs):W.pure 197 [(St.of 1 o n ns es b e c).av]=some (rsh 1 o).rv:=(zn 60).pure _ _ _ (by kernel_rfl)
theorem ztX (o:Int) (n:List UInt8) (ns:Sl (List UInt8)) (es:Sl Ex) (b e:Sl St) (c:Sl Cs):W.pure 197 [(St.of 2 o n ns es b e c).av]=some (rsh 2 o).rv:=(zn 60).pure _ _ _ (by kernel_rfl)
theorem ztW (o:Int) (n:List UInt8) (ns:Sl (List UInt8)) (es:Sl Ex) (b e:Sl St) (c:Sl Cs):W.pure 197 [(St.of 3 o n ns es b e c).av]=some (rsh 3 o).rv:=(zn 60).pure _ _ _ (by kernel_rfl)
theorem ztV (o:Int) (n:List UInt8) (ns:Sl (List UInt8)) (es:Sl Ex) (b e:Sl St) (c:Sl Cs):W.pure 197 [(St.of 4 o n ns es b e c).av]=some (rsh 4 o).rv:=(zn 60).pure _ _ _ (by kernel_rfl)
theorem ztU (o:Int) (n:List UInt8) (ns:Sl (List UInt8)) (es:Sl Ex) (b e:Sl St) (c:Sl Cs):W.pure 197 [(St.of 5 o n ns es b e c).av]=some (rsh 5 o).rv:=(zn 60).pure _ _ _ (by kernel_rfl)
theorem ztT (o:Int) (n:List UInt8) (ns:Sl (List UInt8)) (es:Sl Ex) (b e:Sl St) (c:Sl Cs):W.pure 197 [(St.of 6 o n ns es b e c).av]=some (rsh 6 o).rv:=(zn 60).pure _ _ _ (by kernel_rfl)
theorem ztS (o:Int) (n:List UInt8) (ns:Sl (List UInt8)) (es:Sl Ex) (b e:Sl St) (c:Sl Cs):W.pure 197 [(St.of 7 o n ns es b e c).av]=some (rsh 7 o).rv:=(zn 60).pure _ _ _ (by kernel_rfl)
theorem ztR (o:Int) (n:List UInt8) (ns:Sl (List UInt8)) (es:Sl Ex) (b e:Sl St) (c:Sl Cs):W.pure 197 [(St.of 8 o n ns es b e c).av]=some (rsh 8 o).rv:=(zn 60).pure _ _ _ (by kernel_rfl)
theorem ztQ (o:Int) (n:List UInt8) (ns:Sl (List UInt8)) (es:Sl Ex) (b e:Sl St) (c:Sl Cs):W.pure 197 [(St.of 9 o n ns es b e c).av]=some (rsh 9 o).rv:=(zn 60).pure _ _ _ (by kernel_rfl)
theorem zql (o:Int) (n:List UInt8) (ns:Sl (List UInt8)) (es:Sl Ex) (b e:Sl St) (c:Sl Cs):W.pure 197 [(St.of 10 o n ns es b e c).av]=some (rsh 10 o).rv:=(zn 60).pure _ _ _ (by kernel_rfl)
theorem zqk (o:Int) (n:List UInt8) (ns:Sl (List UInt8)) (es:Sl Ex) (b e:Sl St) (c:Sl Cs):W.pure 197 [(St.of 11 o n ns es b e c).av]=some (rsh 11 o).rv:=(zn 60).pure _ _ _ (by kernel_rfl)
theorem zqj (o:Int) (n:List UInt8) (ns:Sl (List UInt8)) (es:Sl Ex) (b e:Sl St) (c:Sl Cs):W.pure 197 [(St.of 12 o n ns es b e c).av]=some (rsh 12 o).rv:=(zn 60).pure _ _ _ (by kernel_rfl)
theorem zqi (o:Int) (n:List UInt8) (ns:Sl (List UInt8)) (es:Sl Ex) (b e:Sl St) (c:Sl Cs):W.pure 197 [(St.of 13 o n ns es b e c).av]=some (rsh 13 o).rv:=(zn 60).pure _ _ _ (by kernel_rfl)
theorem zqh (o:Int) (n:List UInt8) (ns:Sl (List UInt8)) (es:Sl Ex) (b e:Sl St) (c:Sl Cs):W.pure 197 [(St.of 14 o n ns es b e c).av]=some (rsh 14 o).rv:=(zn 60).pure _ _ _ (by kernel_rfl)
theorem zqg (o:Int) (n:List UInt8) (ns:Sl (List UInt8)) (es:Sl Ex) (b e:Sl St) (c:Sl Cs):W.pure 197 [(St.of 15 o n ns es b e c).av]=some (rsh 15 o).rv:=(zn 60).pure _ _ _ (by kernel_rfl)
theorem zqf (o:Int) (n:List UInt8) (ns:Sl (List UInt8)) (es:Sl Ex) (b e:Sl St) (c:Sl Cs):W.pure 197 [(St.of 16 o n ns es b e c).av]=some (rsh 16 o).rv:=(zn 60).pure _ _ _ (by kernel_rfl)
theorem zqe (o:Int) (n:List UInt8) (ns:Sl (List UInt8)) (es:Sl Ex) (b e:Sl St) (c:Sl Cs):W.pure 197 [(St.of 17 o n ns es b e c).av]=some (rsh 17 o).rv:=(zn 60).pure _ _ _ (by kernel_rfl)
theorem zqd (o:Int) (n:List UInt8) (ns:Sl (List UInt8)) (es:Sl Ex) (b e:Sl St) (c:Sl Cs):W.pure 197 [(St.of 18 o n ns es b e c).av]=some (rsh 18 o).rv:=(zn 60).pure _ _ _ (by kernel_rfl)
theorem zqb (o:Int) (n:List UInt8) (ns:Sl (List UInt8)) (es:Sl Ex) (b e:Sl St) (c:Sl Cs):W.pure 197 [(St.of 20 o n ns es b e c).av]=some (rsh 20 o).rv:=(zn 60).pure _ _ _ (by kernel_rfl)
theorem zqa (o:Int) (n:List UInt8) (ns:Sl (List UInt8)) (es:Sl Ex) (b e:Sl St) (c:Sl Cs):W.pure 197 [(St.of 21 o n ns es b e c).av]=some (rsh 21 o).rv:=(zn 60).pure _ _ _ (by kernel_rfl)
theorem zp9 (o:Int) (n:List UInt8) (ns:Sl (List UInt8)) (es:Sl Ex) (b e:Sl St) (c:Sl Cs):W.pure 197 [(St.of 22 o n ns es b e c).av]=some (rsh 22 o).rv:=(zn 60).pure _ _ _ (by kernel_rfl)
theorem zp8 (o:Int) (n:List UInt8) (ns:Sl (List UInt8)) (es:Sl Ex) (b e:Sl St) (c:Sl Cs):W.pure 197 [(St.of 23 o n ns es b e c).av]=some (rsh 23 o).rv:=(zn 60).pure _ _ _ (by kernel_rfl)
theorem zp7 (o:Int) (n:List UInt8) (ns:Sl (List UInt8)) (es:Sl Ex) (b e:Sl St) (c:Sl Cs):W.pure 197 [(St.of 24 o n ns es b e c).av]=some (rsh 24 o).rv:=(zn 60).pure _ _ _ (by kernel_rfl)
theorem zqc (o:Int) (n:List UInt8) (ns:Sl (List UInt8)) (es:Sl Ex) (b e:Sl St) (c:Sl Cs):W.pure 197 [(St.of 19 o n ns es b e c).av]=some (rsh 19 o).rv:=
 orc (oneR 196 zmo) (zoD zmn) (by kernel_rfl)
theorem ztO (k:Nat) (o:Int) (n:List UInt8) (ns:Sl (List UInt8)) (es:Sl Ex) (b e:Sl St) (c:Sl Cs):W.pure 197 [(St.of (Int.ofNat (k+25)) o n ns es b e c).av]=some shZ.rv:=(zn 60).pure _ _ _ (by kernel_rfl)
theorem ztP (k:Nat) (o:Int) (n:List UInt8) (ns:Sl (List UInt8)) (es:Sl Ex) (b e:Sl St) (c:Sl Cs):W.pure 197 [(St.of (Int.negSucc k) o n ns es b e c).av]=some shZ.rv:=(zn 60).pure _ _ _ (by kernel_rfl)
theorem ztN (o:Int) (n:List UInt8) (ns:Sl (List UInt8)) (es:Sl Ex) (b e:Sl St) (c:Sl Cs):W.pure 197 [(St.of 0 o n ns es b e c).av]=some shZ.rv:=(zn 60).pure _ _ _ (by kernel_rfl)
theorem zpf (k o:Int) (h:k<1∨24<k):rsh k o=shZ:=by
 unfold rsh
 rw[if_neg (by omega),if_neg (by omega),if_neg (by omega),if_neg (by omega),if_neg (by omega),if_neg (by omega),if_neg (by omega),if_neg (by omega),if_neg (by omega),if_neg (by omega),if_neg (by omega),if_neg (by omega)]
 rfl
theorem k197 (k:Int) (o:Int) (n:List UInt8) (ns:Sl (List UInt8)) (es:Sl Ex) (b e:Sl St) (c:Sl Cs):W.pure 197 [(St.of k o n ns es b e c).av]=some (rsh k o).rv:=by
 by_cases h1:k=1
 .subst h1;exact ztY _ _ _ _ _ _ _
 by_cases h2:k=2
 .subst h2;exact ztX _ _ _ _ _ _ _
 by_cases h3:k=3
 .subst h3;exact ztW _ _ _ _ _ _ _
 by_cases h4:k=4
 .subst h4;exact ztV _ _ _ _ _ _ _
 by_cases h5:k=5
 .subst h5;exact ztU _ _ _ _ _ _ _
 by_cases h6:k=6
 .subst h6;exact ztT _ _ _ _ _ _ _
 by_cases h7:k=7
 .subst h7;exact ztS _ _ _ _ _ _ _
 by_cases h8:k=8
 .subst h8;exact ztR _ _ _ _ _ _ _
 by_cases h9:k=9
 .subst h9;exact ztQ _ _ _ _ _ _ _
 by_cases h10:k=10
 .subst h10;exact zql _ _ _ _ _ _ _
 by_cases h11:k=11
 .subst h11;exact zqk _ _ _ _ _ _ _
 by_cases h12:k=12
 .subst h12;exact zqj _ _ _ _ _ _ _
 by_cases h13:k=13
 .subst h13;exact zqi _ _ _ _ _ _ _
 by_cases h14:k=14
 .subst h14;exact zqh _ _ _ _ _ _ _
 by_cases h15:k=15
 .subst h15;exact zqg _ _ _ _ _ _ _
 by_cases h16:k=16
 .subst h16;exact zqf _ _ _ _ _ _ _
 by_cases h17:k=17
 .subst h17;exact zqe _ _ _ _ _ _ _
 by_cases h18:k=18
 .subst h18;exact zqd _ _ _ _ _ _ _
 by_cases h19:k=19
 .subst h19;exact zqc _ _ _ _ _ _ _
 by_cases h20:k=20
 .subst h20;exact zqb _ _ _ _ _ _ _
 by_cases h21:k=21
 .subst h21;exact zqa _ _ _ _ _ _ _
 by_cases h22:k=22
 .subst h22;exact zp9 _ _ _ _ _ _ _
 by_cases h23:k=23
 .subst h23;exact zp8 _ _ _ _ _ _ _
 by_cases h24:k=24
 .subst h24;exact zp7 _ _ _ _ _ _ _
 rw[zpf k o (by omega)]
 rcases k with k|k
 .rcases k with _|k
  .exact ztN _ _ _ _ _ _ _
  .obtain⟨m,rfl⟩:∃m,k=m+24:=⟨k - 24,by simp at *;omega⟩
   exact ztO m _ _ _ _ _ _ _
 .exact ztP k _ _ _ _ _ _ _
theorem d197 (x:St):W.pure 197 [x.av]=some (rsh x.kind x.op).rv:=by
 have h:=k197 x.kind x.op x.name x.names x.exprs x.body x.els x.cs
 rwa [←St.eta x]at h
end Go.Proofs.YtgamobngbenehaaGreatDoor
end
section
namespace Go.Proofs.YtgamobngbenehaaGreatDoor
open Go Go.RowKit
set_option linter.unusedVariables false
set_option linter.unusedSimpArgs false
set_option maxRecDepth 10000
set_option maxHeartbeats 2000000
theorem zb1 {α:Type} (f:α→Int):∀(l:List α) (k:Nat),zco (ρ:=Int) (fun _ a (_:Unit)=>if f a≠0 then .inr (f a) else .inl ()) k l ()=if zD f l≠0 then .inr (zD f l) else .inl ()
 | [],k=>by simp[zco,zD]
 |a::r,k=>by
  unfold zco
  simp only[zD]
  by_cases h:f a=0
  .simp only[h,ne_eq,not_true_eq_false,if_false];exact zb1 f r (k+1)
  .simp only[h,ne_eq,not_false_eq_true,if_true]
theorem zaX {α:Type} (p:α→Bool):∀(l:List α) (k:Nat),zco (ρ:=Unit) (fun _ a (_:Unit)=>if p a=true then .inr () else .inl ()) k l ()=if l.any p=true then .inr () else .inl ()
 | [],k=>by simp[zco]
 |a::r,k=>by
  unfold zco
  rw[List.any_cons]
  cases h:p a with
  |true=>simp
  |false=>simpa using zaX p r (k+1)
theorem Grow.app1 {H:Heap} {sz:Nat} {o:Option Nat} {v:AV} {l:List AV} (h:Grow H sz o v l) (x:AV) (hx:x.cells.all AV.cell=true) (hr:l.length<zN):
  ∃o' v' H',ex H (.app sz) [v,.isl (some false) sz [x]]=some (v',H')∧Grow H' sz o' v' (l++[x])∧Kept o H H'∧∀i,o'=some i→o=some i∨(o=none∧i=H.length):=by
 obtain⟨o',v',H',a1,a2,a3,a4,a5⟩:=h.app (y:= .isl (some false) sz [x]) (xs:=[x]) (by simp) (by simpa using hx) (by simp;omega)
 refine⟨o',v',H',a1,a2,a3,fun i hi=>?_⟩
 rcases a4 with rfl|⟨h1,h2,_⟩
 .exact .inl hi
 .rw[h2]at hi;cases hi;exact .inr ⟨h1,rfl⟩
theorem Grow.slG {α:Type} {f:α→AV} {H:Heap} {sz n:Nat} {o:Option Nat} {v:AV} {l:List α} (h:Grow H sz o v (l.map f)) (hf:(l.map f).all (fun e=>e.cells.all AV.still)=true):∃s:Sl α,Go.Proofs.YtgamobngbenehaaGreatDoor.frz H (n+1) v=some (Sl.av f sz s)∧s.l=l:=by
 rw[h.frz hf]
 cases o with
 |none=>
  have h2:l=[]:=by simpa using h.2
  exact⟨za2,by simp[Sl.av],by rw[h2]⟩
 |some id=>exact⟨ofL sz l,by simp;exact zk0 l,rfl⟩
theorem zfT (l:List (List UInt8)):(l.map AV.str).all (fun e=>e.cells.all AV.still)=true:=by
 rw[List.all_eq_true]
 intro e he
 obtain⟨s,_,rfl⟩:=List.mem_map.1 he
 rfl
section
attribute [local irreducible] okC okV
theorem d278 (x:Sl (List UInt8)) (s:List UInt8) (hl:x.l.length≤100000):∃y:Sl (List UInt8),W.pure 278 [Sl.av AV.str 1 x,.str s]=some (Sl.av AV.str 1 y)∧(∀t,t∈y.l↔t∈x.l∨t=s)∧y.l.length≤x.l.length+1:=by
 have hL:=zai (Φ:=Φ) (live:=[0,1,5,6,7]) (L:=zku) x.l (σ:=Unit) (ρ:=Unit) (fun c a _=>if a=s then .inr () else .inl ())
  (fun c _ F G=>∃(o:Option Nat) (v:AV) (d:Bool) (r:List (List UInt8)),F=[(0,Sl.av AV.str 1 x),(1,.str s),(5,v),(6,.bool d),(7,I c)]∧Grow G 1 o v (r.map AV.str)∧(∀t,t∈r↔t∈x.l.take c∨d=true∧t=s)∧r.length=c+(if d then 1 else 0))
  (fun _ y F G=>y= .ret∧F.get 4=Sl.av AV.str 1 x∧s∈x.l)
  (fun _ y F G=>y= .exit 0∧∃(o:Option Nat) (v:AV) (d:Bool) (r:List (List UInt8)),F.keep [1,5,6]=[(1,.str s),(5,v),(6,.bool d)]∧Grow G 1 o v (r.map AV.str)∧(∀t,t∈r↔t∈x.l∨d=true∧t=s)∧r.length=x.l.length+(if d then 1 else 0)) (s:=()) (F:=[(0,Sl.av AV.str 1 x),(1,.str s),(5,.osl 0 0 0 0),(6,.bool false),(7,I 0)]) (H:=[.arr 0 1 false []]) ⟨some 0,_,false,[],rfl,zd6 (l:=[]) rfl,by simp,rfl⟩ ?_ ?_
 .obtain⟨y,F',H',e1,e2⟩:=zh.1 hL
  rw[zu Φ278 (by simp)]
  cases hfo:zco (ρ:=Unit) (fun c a (_:Unit)=>if a=s then .inr () else .inl ()) 0 x.l () with
  |inr q=>
   rw[hfo]at e2
   obtain⟨rfl,e2,e3⟩:=e2
   refine⟨x,?_,fun t=>?_,by omega⟩
   .simp[zjd,c278,zd,zc,zb,resV,rvVs,rvV,e1,e2]
   .constructor
    .exact .inl
    .rintro (h|rfl)
     .exact h
     .exact e3
  |inl q=>
   rw[hfo]at e2
   obtain⟨rfl,o,v,d,r,e2,e3,e4,e5⟩:=e2
   have hgo:=e3.okO
   have hgc:=e3.cells
   cases d with
   |true=>
    obtain⟨y,f1,f2⟩:=e3.slG (n:=7) (zfT _)
    refine⟨y,?_,fun t=>by rw[f2,e4];simp,by rw[f2,e5];simp⟩
    simp[zjd,c278,zd,zc,zb,resV,rvVs,rvV,e1,e2,hgo,hgc,f1]
   |false=>
    obtain⟨o',v',G',a1,a2,a3,a4⟩:=e3.app1 (.str s) rfl (by rw[List.length_map,e5];simp[zN];omega)
    have hg2:Grow G' 1 o' v' ((r++[s]).map AV.str):=by rw[List.map_append];exact a2
    obtain⟨y,f1,f2⟩:=hg2.slG (n:=7) (zfT _)
    have ha2o:=a2.okO
    have ha2c:=a2.cells
    refine⟨y,?_,fun t=>by rw[f2,List.mem_append,e4];simp,by rw[f2,List.length_append,e5];simp⟩
    simp[zjd,c278,zd,zc,zb,resV,rvVs,rvV,e1,e2,hgo,hgc,a1,ha2o,ha2c,f1]
 .rintro c a ⟨⟩ F G hc ha ⟨o,v,d,r,rfl,hg,hm,hlen⟩
  have hw:=zo (k:=c) (by omega)
  have hgo:=hg.okO
  have hgc:=hg.cells
  have hmem:a∈x.l:=List.mem_of_getElem? ha
  by_cases has:a=s
  .subst has
   simp[-getElem?_pos,gEz,zci,zdq,zb,zw,hc,ha,hw,hgo,hgc,hmem]
  .rw[if_neg has]
   have htk:∀t,t∈x.l.take (c+1)↔t∈x.l.take c∨t=a:=fun t=>by rw[List.take_add_one,ha];simp
   by_cases hlt:d=false∧Op.bytesLess s a=true
   .obtain⟨rfl,hlt⟩:=hlt
    obtain⟨o',v',G',a1,a2,a3,a4⟩:=hg.app1 (.str s) rfl (by rw[List.length_map,hlen];simp[zN];omega)
    obtain⟨o2,v2,G2,b1,b2,b3,b4⟩:=a2.app1 (.str a) rfl (by simp[hlen,zN];omega)
    have hg2:Grow G2 1 o2 v2 ((r++[s]++[a]).map AV.str):=by simpa using b2
    have ha2o:=a2.okO
    have ha2c:=a2.cells
    have hb2o:=b2.okO
    have hb2c:=b2.cells
    simp[-getElem?_pos,gEz,zci,zdq,zb,zw,hc,ha,hw,has,hlt,hgo,hgc,a1,ha2o,ha2c,b1,hb2o,hb2c]
    refine⟨o2,_,hg2,fun t=>?_,by simp[hlen]⟩
    rw[htk]
    simp[hm]
    grind
   .obtain⟨o2,v2,G2,b1,b2,b3,b4⟩:=hg.app1 (.str a) rfl (by simp[hlen,zN];split<;>omega)
    have hg2:Grow G2 1 o2 v2 ((r++[a]).map AV.str):=by simpa using b2
    have hb2o:=b2.okO
    have hb2c:=b2.cells
    cases d with
    |true=>
     simp[-getElem?_pos,gEz,zci,zdq,zb,zw,hc,ha,hw,has,hgo,hgc,b1,hb2o,hb2c]
     refine⟨o2,_,hg2,fun t=>?_,by simp[hlen]⟩
     rw[htk]
     simp[hm]
     grind
    |false=>
     have hlt2:Op.bytesLess s a=false:=by simpa using hlt
     simp[-getElem?_pos,gEz,zci,zdq,zb,zw,hc,ha,hw,has,hlt2,hgo,hgc,b1,hb2o,hb2c]
     refine⟨o2,_,hg2,fun t=>?_,by simp[hlen]⟩
     rw[htk]
     simp[hm]
 .rintro⟨⟩ F G ⟨o,v,d,r,rfl,hg,hm,hlen⟩
  have hgo:=hg.okO
  have hgc:=hg.cells
  rw[List.take_length]at hm
  cases d with
  |true=>
   simp[zci,zdq,zb,hgo,hgc]
   exact⟨o,r,hg,by simpa using hm,by simpa using hlen⟩
  |false=>
   simp[zci,zdq,zb,hgo,hgc]
   exact⟨o,r,hg,by simpa using hm,by simpa using hlen⟩
def nmOk (e:Ex):Prop:=∀p∈e.parts,p.kind=2→p.args.l=[]
theorem zm7 {e a:Ex} (h:nmOk e) (ha:a∈e.args.l):nmOk a:=fun p hp=>h p (by
 rw[Ex.parts_eq,List.mem_cons]
 refine .inr ?_
 generalize e.args.l=l at ha
 induction l with
 |nil=>cases ha
 |cons b r ih=>
  simp only[Ex.partss,List.mem_append]
  rcases List.mem_cons.1 ha with rfl|ha
  .exact .inl hp
  .exact .inr (ih ha))
theorem d233:∀(e:Ex),nmOk e→∀(x:Sl (List UInt8)),x.l.length+e.size≤100000→
  ∃y:Sl (List UInt8),W.pure 233 [e.av,Sl.av AV.str 1 x]=some (Sl.av AV.str 1 y)∧(∀t,t∈y.l↔t∈x.l∨∃p∈e.parts,p.kind=2∧p.name=t)∧y.l.length≤x.l.length+e.size:=by
 refine Ex.ind (fun e ih=>?_)
 intro hn x hx
 have hsz:=Ex.size_eq e
 have hll:=Ex.len_sizes e.args.l
 rw[zu Φ233 (by simp)]
 by_cases h2:e.kind=2
 .obtain⟨y,c1,c2,c3⟩:=d278 x e.name (by omega)
  have ha:e.args.l=[]:=hn e (by rw[Ex.parts_eq];simp) h2
  refine⟨y,?_,fun t=>?_,by omega⟩
  .simp[zld,c233,zd,zc,zb,resV,rvVs,rvV,h2,c1]
  .rw[c2,Ex.parts_eq,ha]
   simp[Ex.partss,h2,eq_comm]
 have hL:∀(r:List Ex) (k:Nat) (z:Sl (List UInt8)),e.args.l.drop k=r→k≤e.args.l.length→z.l.length+Ex.sizes r≤x.l.length+Ex.sizes e.args.l→
   okC (W.loop [1,2,5] zkv [(1,Sl.av AV.str 1 z),(2,.optr 0 0 0 0),(5,I k)] [.arr 0 5 false [e.av]]) (fun y F G=>y= .exit 0∧∃w:Sl (List UInt8),F.get 1=Sl.av AV.str 1 w∧(∀t,t∈w.l↔t∈z.l∨∃p∈Ex.partss r,p.kind=2∧p.name=t)∧w.l.length≤x.l.length+Ex.sizes e.args.l):=by
  intro r
  induction r with
  |nil=>
   intro k z h1 h3 h4
   have hk:=zj h1 h3
   rw[zk]
   simp[zix,ziD,zb,hk,Ex.partss, -getElem?_pos,gEz]
   simp only[Ex.sizes]at h4
   exact⟨z,rfl,by simp,by omega⟩
  |cons a r ihr=>
   intro k z h1 h3 h4
   obtain⟨hlt,ha,hr⟩:=zq h1
   have hmem:=zF h1
   simp only[Ex.sizes]at h4
   have hw:=zo (k:=k) (by omega)
   obtain⟨y,c1,c2,c3⟩:=ih a hmem (zm7 hn hmem) z (by omega)
   have hJ:=ihr (k+1) y hr (by omega) (by omega)
   simp only[Int.natCast_add,Int.cast_ofNat_Int]at hJ
   obtain⟨q,F',H',g1,g2,w,g3,g4,g5⟩:=zh.1 hJ
   rw[zk]
   simp[zix,ziD,zb,hlt,ha,c1,hw,g1,g2,g3, -getElem?_pos,gEz]
   refine⟨w,rfl,fun t=>?_,g5⟩
   rw[g4,c2]
   simp only[Ex.partss,List.mem_append]
   grind
 obtain⟨q,F',H',g1,rfl,w,g3,g4,g5⟩:=zh.1 (hL e.args.l 0 x rfl (by omega) (by omega))
 simp only[Int.natCast_zero]at g1
 refine⟨w,?_,fun t=>?_,by omega⟩
 .simp[zld,c233,zd,zc,zb,resV,rvVs,rvV,h2,g1,g3]
 .rw[g4,Ex.parts_eq]
  simp[h2]
theorem d198 (e:Ex) (hz:zM e=0):∃y:Sl (List UInt8),W.pure 198 [e.av]=some (Sl.av AV.str 1 y)∧(∀t,t∈y.l↔t∈zer e)∧y.l.length≤100:=by
 have hs:=zcO hz
 have hn:nmOk e:=by
  intro p hp h2
  have h3:zV p=0:=by
   unfold zM at hz
   split at hz
   .cases hz
   .split at hz
    .cases hz
    .exact zaC.1 hz p hp
  unfold zV at h3
  rw[if_neg (by omega)]at h3
  split at h3
  .cases h3
  .rename_i h4
   unfold zaP at h4
   simp[h2]at h4
   grind
 have c1:=e161 e
 rw[hz]at c1
 obtain⟨y,c2,c3,c4⟩:=d233 e hn (ofL 1 []) (by simp[ofL];omega)
 refine⟨y,?_,fun t=>by rw[c3,zgH];simp[ofL],by simp[ofL]at c4;omega⟩
 have z:(.isl (some false) 1 []:AV)=Sl.av AV.str 1 (ofL 1 []):=rfl
 rw[zu Φ198 (by simp)]
 simp[znG,c198,zd,zc,zb,resV,rvVs,rvV,c1,z,c2]
theorem d166 (e:Ex):W.pure 166 [e.av]=some (I (exI e)):=by
 rw[zu Φ166 (by simp)]
 have c1:=e161 e
 unfold exI
 by_cases hz:zM e=0
 .rw[if_pos hz]
  obtain⟨y,c2,c3,c4⟩:=d198 e hz
  rw[hz]at c1
  rw[zmm (fun t=>(c3 t).symm)]
  have hL:=zai (Φ:=Φ) (live:=[4,5]) (L:=zkC) y.l (σ:=Unit) (ρ:=Unit) (fun _ t _=>if (fun t=>decide (t∈zab)) t=true then .inr () else .inl ())
   (fun k _ F G=>F=[(4,Sl.av AV.str 1 y),(5,I k)])
   (fun _ q F G=>q= .ret∧F.get 2=I 5)
   (fun _ q F G=>q= .exit 0) (s:=()) (F:=[(4,Sl.av AV.str 1 y),(5,I 0)]) (H:=[.arr 0 5 false [e.av]]) rfl ?_ ?_
  .rw[zaX]at hL
   obtain⟨q,F',H',e1,e2⟩:=zh.1 hL
   cases hq:y.l.any (fun t=>decide (t∈zab)) with
   |true=>
    rw[hq]at e2
    obtain⟨rfl,e3⟩:q= .ret∧F'.get 2=I 5:=e2
    simp[zji,c166,zd,zc,zb,resV,rvVs,rvV,c1,c2,e1,e3]
   |false=>
    rw[hq]at e2
    have e2:q= .exit 0:=e2
    subst e2
    simp[zji,c166,zd,zc,zb,resV,rvVs,rvV,c1,c2,e1]
  .rintro k t ⟨⟩ F G hk ht rfl
   have hw:=zo (k:=k) (by omega)
   have d1:=e148 t
   by_cases hq:t∈zab
   .rw[decide_eq_true hq]at d1;rw[if_pos (show (fun t=>decide (t∈zab)) t=true from decide_eq_true hq)]
    simp[zfu,zg4,zb,hk,ht,hw,d1, -getElem?_pos,gEz]
   .rw[decide_eq_false hq]at d1;rw[if_neg (show ¬(fun t=>decide (t∈zab)) t=true by simpa using hq)]
    simp[zfu,zg4,zb,hk,ht,hw,d1, -getElem?_pos,gEz]
  .rintro⟨⟩ F G rfl
   simp[zfu,zg4,zb, -getElem?_pos,gEz]
 .rw[if_neg hz]
  simp[zji,c166,zd,zc,zb,resV,rvVs,rvV,c1,hz]
end
end Go.Proofs.YtgamobngbenehaaGreatDoor
end
section
namespace Go.Proofs.YtgamobngbenehaaGreatDoor
open Go Go.RowKit
set_option linter.unusedVariables false
set_option linter.unusedSimpArgs false
set_option maxRecDepth 10000
set_option maxHeartbeats 2000000
theorem d112 (a b c:Int):W.pure 112 [I a,I b,I c]=some (.bool (decide (b≤a∧a≤c))):=by
 rw[zu Φ112 rfl]
 by_cases h1:b≤a<;>by_cases h2:a≤c<;>simp[znU,c112,zd,zc,zb,resV,rvVs,rvV,h1,h2]
theorem d119 (e:Ex):W.pure 119 [e.av]=some (.bool (zP e)):=by
 rw[zu Φ119 (by simp)]
 have c1:=e160 e
 simp[zlq,c119,zd,zc,zb,resV,rvVs,rvV,c1]
section
attribute [local irreducible] okC okV
theorem d163 (x:St) (hl:x.cs.l.length≤1000000000000):W.pure 163 [x.av]=some (I (zeC x)):=by
 rw[zu Φ163 (by simp)]
 have c1:=d112 x.kind 1 24
 have c2:=d196 x.op
 unfold zeC
 by_cases z1:x.kind<1∨24<x.kind
 .have z1':¬(1≤x.kind∧x.kind≤24):=by omega
  rw[decide_eq_false z1']at c1
  rw[if_pos z1]
  simp[zhH,c163,zd,zc,zb,resV,rvVs,rvV,c1]
 have z1':1≤x.kind∧x.kind≤24:=by omega
 rw[decide_eq_true z1']at c1
 rw[if_neg z1]
 clear z1 z1'
 unfold opR at c2
 by_cases z2:x.kind=19∧opOf x.op=none
 .have z3:=(zge x.op).2 z2.2
  rw[if_pos z2]
  rw[z3]at c2
  rw[z2.1]at c1
  simp[zhH,c163,zd,zc,zb,resV,rvVs,rvV,zw,c1,c2,z2.1]
 have z3:x.kind=19→¬((opOf x.op).getD opZ).word=[]:=fun h1 h2=>z2 ⟨h1,(zge x.op).1 h2⟩
 rw[if_neg z2]
 generalize ((opOf x.op).getD opZ).word=w at *
 have hL:=zai (Φ:=Φ) (live:=[1,6]) (L:=zkG) x.cs.l (σ:=Unit) (ρ:=Unit) (fun _ c _=>if (fun c:Cs=> !decide (1≤c.kind∧c.kind≤3)) c=true then .inr () else .inl ())
  (fun k _ F G=>F=[(1,.optr 0 0 0 0),(6,I k)]∧G=[.arr 0 8 false [x.av]])
  (fun _ y F G=>y= .ret∧F.get 2=I 8)
  (fun _ y F G=>y= .exit 0) (s:=()) (F:=[(1,.optr 0 0 0 0),(6,I 0)]) (H:=[.arr 0 8 false [x.av]]) ⟨rfl,rfl⟩ ?_ ?_
 .rw[zaX,zb8]at hL
  obtain⟨y,F',H',e1,e2⟩:=zh.1 hL
  have hw:¬x.kind=19∨¬w=[]:=by
   by_cases h:x.kind=19
   .exact .inr (z3 h)
   .exact .inl h
  cases hq:(x.cs.l.all fun c=>decide (1≤c.kind∧c.kind≤3)) with
  |true=>
   rw[hq]at e2
   have e2:y= .exit 0:=e2
   subst e2
   rcases hw with hw|hw<;>simp[zhH,c163,zd,zc,zb,resV,rvVs,rvV,zw,c1,c2,hw,e1]
  |false=>
   rw[hq]at e2
   obtain⟨rfl,e2⟩:y= .ret∧F'.get 2=I 8:=e2
   rcases hw with hw|hw<;>simp[zhH,c163,zd,zc,zb,resV,rvVs,rvV,zw,c1,c2,hw,e1,e2]
 .rintro k c ⟨⟩ F G hk hc ⟨rfl,rfl⟩
  have hwr:=zo (k:=k) (by omega)
  have d1:=d112 c.kind 1 3
  by_cases hq:1≤c.kind∧c.kind≤3
  .rw[decide_eq_true hq]at d1
   rw[if_neg (show ¬(!decide (1≤c.kind∧c.kind≤3))=true by rw[decide_eq_true hq];simp)]
   simp[zfx,zg7,zb,hk,hc,hwr,d1, -getElem?_pos,gEz]
  .rw[decide_eq_false hq]at d1
   rw[if_pos (show (!decide (1≤c.kind∧c.kind≤3))=true by rw[decide_eq_false hq];rfl)]
   simp[zfx,zg7,zb,hk,hc,hwr,d1, -getElem?_pos,gEz]
 .rintro⟨⟩ F G ⟨rfl,rfl⟩
  simp[zfx,zg7,zb, -getElem?_pos,gEz]
theorem d164 (x:St) (hl:x.cs.l.length≤1000000000000):W.pure 164 [x.av]=some (.bool (zbv x)):=by
 rw[zu Φ164 (by simp)]
 have c1:=d197 x
 have n1:=d112 x.names.l.length (rsh x.kind x.op).n0 (rsh x.kind x.op).n1
 have n2:=d112 x.exprs.l.length (rsh x.kind x.op).e0 (rsh x.kind x.op).e1
 have n3:=d112 x.cs.l.length 1 6
 have hr:zbv x=zbv x:=rfl
 conv at hr=>rhs;unfold zbv
 have hz0:decide (x.cs.l.length=0)=decide (x.cs.l=[]):=by simp
 have hz1:decide (1≤x.cs.l.length∧x.cs.l.length≤6)=(decide (1≤(x.cs.l.length:Int))&&decide ((x.cs.l.length:Int)≤6)):=by
  rw[Bool.decide_and];congr 1<;>exact decide_eq_decide.2 (by omega)
 rw[hz0,hz1]at hr
 generalize rsh x.kind x.op=s at *
 have hL:=fun B=>zai (Φ:=Φ) (live:=[1,4]) (L:=zkF) x.cs.l (σ:=Unit) (ρ:=Unit) (fun _ c _=>if rBad c=true then .inr () else .inl ())
  (fun k _ F G=>F=[(1,.optr 0 0 0 0),(4,I k)]∧G[0]?=some (.arr 0 8 false [x.av]))
  (fun _ y F G=>y= .ret∧F.get 2= .bool false)
  (fun _ y F G=>y= .exit 0∧F.keep [1]=[(1,.optr 0 0 0 0)]∧G[0]?=some (.arr 0 8 false [x.av])) (s:=()) (F:=[(1,.optr 0 0 0 0),(4,I 0)]) (H:=[.arr 0 8 false [x.av],B]) ⟨rfl,rfl⟩ ?_ ?_
 .have hL0:=hL (.arr 0 7 false [s.rv])
  rw[zaX]at hL0
  obtain⟨y,F',H',e1,e2⟩:=zh.1 hL0
  clear hL hL0
  unfold Shp.rv at c1 e1
  cases hq:x.cs.l.any rBad with
  |true=>
   rw[hq]at e2
   obtain⟨rfl,e2⟩:y= .ret∧F'.get 2= .bool false:=e2
   simp[zlj,c164,zd,zc,zb,resV,rvVs,rvV,zw,c1,n1,n2,n3,e1,e2, -getElem?_pos,gEz]
   rw[hr,hq]
   clear hr e1 e2 c1 n1 n2 n3 hq
   grind
  |false=>
   rw[hq]at e2
   simp only[Bool.false_eq_true,if_false,zmw]at e2
   obtain⟨rfl,e2,e3⟩:=e2
   simp[zlj,c164,zd,zc,zb,resV,rvVs,rvV,zw,c1,n1,n2,n3,e1,e2,e3, -getElem?_pos,gEz]
   rw[hr,hq]
   clear hr e1 e2 c1 n1 n2 n3 hq
   grind
 .rintro k c ⟨⟩ F G hk hc ⟨rfl,hg⟩
  have hwr:=zo (k:=k) (by omega)
  have d1:=d119 c.expr
  have hgl:=(gEs.1 hg).1
  have a1:∀B,(G++[B])[0]?=some (.arr 0 8 false [x.av]):=zt hg
  have a2:∀B,(G++[B])[G.length]?=some B:=ze _
  have a3:∀B C,((G++[B]).set G.length C)=G++[C]:=fun B C=>by simp
  simp[ziy,ziE,zb,zw,hk,hc,hwr,hg,a1,a2,a3,d1, -getElem?_pos,gEz]
  split
  .rename_i h
   have hb:rBad c=true:=by unfold rBad;grind
   simp[hb]
  .rename_i h
   have hb:rBad c=false:=by unfold rBad;grind
   simp[hb,a1, -getElem?_pos,gEz]
 .rintro⟨⟩ F G ⟨rfl,hg⟩
  simp[ziy,ziE,zb,hg, -getElem?_pos,gEz]
end
end Go.Proofs.YtgamobngbenehaaGreatDoor
end
section
namespace Go.Proofs.YtgamobngbenehaaGreatDoor
open Go Go.RowKit
set_option linter.unusedVariables false
set_option linter.unusedSimpArgs false
set_option maxRecDepth 10000
set_option maxHeartbeats 2000000
theorem Grow.at {H:Heap} {sz:Nat} {o:Option Nat} {v x:AV} {l:List AV} (h:Grow H sz o v l) {k:Nat} (hx:l[k]?=some x):∃a,zb0 H sz v (.int .i64 k)=a∧Go.Proofs.YtgamobngbenehaaGreatDoor.okO a=some a∧∀g n,zbw H g n a=zm g n x.cells:=by
 have hk:=(gEs.1 hx).1
 cases o with
 |none=>rw[h.2]at hx;cases hx
 |some id=>
  obtain⟨ver,t,rfl,h2⟩:=h
  refine⟨.optr id ver k 0,?_,rfl,fun g n=>?_⟩
  .simp only[zb0,h2]
   rw[if_pos ⟨trivial,trivial,by omega,by simp;omega⟩];simp
  .simp only[zbw,h2,if_true]
   have:(l++t)[k]?=some x:=by
    rw[gEa hk];exact hx
   rw[this];rfl
def zak (c:Cs):List (List UInt8):=if c.kind=3 then [] else c.name::c.names.l
theorem zee {l:List Cs} (h:∀c∈l,c.names.l.length≤1000):(l.flatMap zak).length≤1001* l.length:=by
 induction l with
 |nil=>simp
 |cons a r ih=>
  have h1:=ih (fun c hc=>h c (by simp[hc]))
  have h2:=h a (by simp)
  have h3:(zak a).length≤1001:=by unfold zak;split<;>simp;omega
  rw[List.flatMap_cons,List.length_append,List.length_cons];omega
theorem zn5 (l:List Cs) (c:Cs):defs (l++[c])=if c.kind=3 then defs l+1 else defs l:=by
 unfold defs;rw[List.foldl_append];rfl
section
attribute [local irreducible] okC okV
theorem d165 (x:St) (hn:x.names.l.length≤1000) (hl:x.cs.l.length≤1000) (hc:∀c∈x.cs.l,c.names.l.length≤1000):W.pure 165 [x.av]=some (I (zcF x)):=by
 rw[zu Φ165 (by simp)]
 have c1:=d197 x
 have c2:=e104 x.name
 have hr:zcF x=zcF x:=rfl
 conv at hr=>rhs;unfold zcF
 generalize rsh x.kind x.op=s at *
 rw[hr]
 clear hr
 unfold Shp.rv at c1
 by_cases z1:(s.name=1∨s.name=2∧¬x.name=[])∧zX x.name=false
 .rw[if_pos z1]
  obtain⟨z1,z2⟩:=z1
  rw[z2]at c2
  simp[zgC,c165,zd,zc,zb,resV,rvVs,rvV,zw,c1,c2,z1, -getElem?_pos,gEz]
 rw[if_neg z1]
 have z2:(s.name=1∨s.name=2∧¬x.name=[])→zX x.name=true:=fun h=>by
  cases h2:zX x.name with
  |true=>rfl
  |false=>exact absurd ⟨h,h2⟩ z1
 clear z1
 have hfl:=zee hc
 obtain⟨o0,v0,H0,a1,a2,a3,a4,a5⟩:=(zd6 (H:=[.arr 0 8 false [x.av],.arr 0 7 false [.agg [I s.name,I s.n0,I s.n1,I s.e0,I s.e1,.bool s.body,.bool s.others]],.arr 0 1 false []]) (sz:=1) (id:=2) (ver:=0) (l:=[]) rfl).app (y:=Sl.av AV.str 1 x.names) (xs:=x.names.l.map AV.str) zcC (by simp) (by simp[zN];omega)
 have ho:o0=some 2:=by
  rcases a4 with rfl|⟨h,_⟩
  .rfl
  .cases h
 subst ho
 simp only[List.length_nil]at a1
 have g0:H0[0]?=some (.arr 0 8 false [x.av]):=a3.get (by simp) rfl
 have hL1:=zai (Φ:=Φ) (live:=[1,4,5,6]) (L:=zkD) x.cs.l (σ:=Unit) (ρ:=Empty) (fun _ c _=> .inl ())
  (fun k _ F G=>∃v,F=[(1,.optr 0 0 0 0),(4,v),(5,I (defs (x.cs.l.take k):Nat)),(6,I k)]∧Grow G 1 (some 2) v ((x.names.l++(x.cs.l.take k).flatMap zak).map AV.str)∧G[0]?=some (.arr 0 8 false [x.av]))
  (fun r _ _ _=>nomatch r)
  (fun _ y F G=>y= .exit 0∧∃v,F.keep [4,5]=[(4,v),(5,I (defs x.cs.l:Nat))]∧Grow G 1 (some 2) v ((x.names.l++x.cs.l.flatMap zak).map AV.str)) (s:=()) (F:=[(1,.optr 0 0 0 0),(4,v0),(5,I 0),(6,I 0)]) (H:=H0) ⟨v0,rfl,by simpa using a2,g0⟩ ?_ ?_
 .have hq:∀(l:List Cs) (k:Nat),zco (ρ:=Empty) (fun _ (c:Cs) (_:Unit)=> .inl ()) k l ()= .inl ():=by
   intro l
   induction l with
   |nil=>intro k;rfl
   |cons a r ih=>intro k;exact ih _
  rw[hq]at hL1
  obtain⟨y,F1,H1,e1,rfl,v,e2,e3⟩:=zh.1 hL1
  clear hL1 hq
  have hL2:=zai (Φ:=Φ) (live:=[4,5,7]) (L:=zkE) (x.names.l++x.cs.l.flatMap zak) (σ:=Unit) (ρ:=Unit) (fun _ t _=>if (!zX t)=true then .inr () else .inl ())
   (fun k _ F G=>F=[(4,v),(5,I (defs x.cs.l:Nat)),(7,I k)]∧G=H1)
   (fun _ y F G=>y= .ret∧F.get 2=I 5)
   (fun _ y F G=>y= .exit 2∧F.keep [5]=[(5,I (defs x.cs.l:Nat))]) (s:=()) (F:=[(4,v),(5,I (defs x.cs.l:Nat)),(7,I 0)]) (H:=H1) ⟨rfl,rfl⟩ ?_ ?_
  .rw[zaX (fun t=> !zX t),zb8]at hL2
   obtain⟨y,F2,H2,f1,f2⟩:=zh.1 hL2
   clear hL2
   have hdl:=zlQ x.cs.l
   have hfin:(x.names.l++x.cs.l.flatMap fun c=>if c.kind=3 then [] else c.name::c.names.l)=x.names.l++x.cs.l.flatMap zak:=rfl
   rw[hfin]
   have a2o:=a2.okO
   have a2c:=a2.cells
   by_cases hz:s.name=1∨s.name=2∧¬x.name=[]
   .rw[z2 hz]at c2
    cases hq:(x.names.l++x.cs.l.flatMap zak).all zX with
    |false=>
     rw[hq]at f2
     obtain⟨rfl,f2⟩:y= .ret∧F2.get 2=I 5:=f2
     simp[zgC,c165,zd,zc,zb,resV,rvVs,rvV,zw,c1,c2,hz,a1,a2o,a2c,e1,e2,f1,f2, -getElem?_pos,gEz]
    |true=>
     rw[hq]at f2
     obtain⟨rfl,f2⟩:y= .exit 2∧F2.keep [5]=[(5,I (defs x.cs.l:Nat))]:=f2
     simp[zgC,c165,zd,zc,zb,resV,rvVs,rvV,zw,c1,c2,hz,a1,a2o,a2c,e1,e2,f1,f2, -getElem?_pos,gEz]
     split<;>simp<;>omega
   .cases hq:(x.names.l++x.cs.l.flatMap zak).all zX with
    |false=>
     rw[hq]at f2
     obtain⟨rfl,f2⟩:y= .ret∧F2.get 2=I 5:=f2
     simp[zgC,c165,zd,zc,zb,resV,rvVs,rvV,zw,c1,hz,a1,a2o,a2c,e1,e2,f1,f2, -getElem?_pos,gEz]
    |true=>
     rw[hq]at f2
     obtain⟨rfl,f2⟩:y= .exit 2∧F2.keep [5]=[(5,I (defs x.cs.l:Nat))]:=f2
     simp[zgC,c165,zd,zc,zb,resV,rvVs,rvV,zw,c1,hz,a1,a2o,a2c,e1,e2,f1,f2, -getElem?_pos,gEz]
     split<;>simp<;>omega
  .rintro k t ⟨⟩ F G hk ht ⟨rfl,rfl⟩
   have hw:=zo (k:=k) (by rw[List.length_append]at hk;omega)
   have d1:=e104 t
   obtain⟨a,b1,b2,b3⟩:=e3.at (k:=k) (x:= .str t) (by rw[List.getElem?_map,ht];rfl)
   have e3o:=e3.okO
   have e3c:=e3.cells
   have e3l:=e3.len
   rw[List.length_map]at e3l
   have hk':(k:Int)<((x.names.l++x.cs.l.flatMap zak).length:Nat):=by omega
   generalize (x.names.l++x.cs.l.flatMap zak).length=n at *
   cases hq:zX t with
   |true=>
    rw[hq]at d1
    simp[zfw,zg6,zb,hk,hk',e3o,e3c,e3l,b1,b2,b3,d1,hw, -getElem?_pos,gEz]
   |false=>
    rw[hq]at d1
    simp[zfw,zg6,zb,hk,hk',e3o,e3c,e3l,b1,b2,b3,d1,hw, -getElem?_pos,gEz]
  .rintro⟨⟩ F G ⟨rfl,rfl⟩
   have e3o:=e3.okO
   have e3c:=e3.cells
   have e3l:=e3.len
   rw[List.length_map]at e3l
   simp[zfw,zg6,zb,e3o,e3c,e3l, -getElem?_pos,gEz]
 .rintro k c ⟨⟩ F G hk hc2 ⟨v,rfl,hg,g0⟩
  have hw:=zo (k:=k) (by omega)
  have hgo:=hg.okO
  have hgc:=hg.cells
  have htk:x.cs.l.take (k+1)=x.cs.l.take k++[c]:=by rw[List.take_add_one,hc2];rfl
  have hdk:=zn5 (x.cs.l.take k) c
  rw[←htk]at hdk
  have hwd:=zo (k:=defs (x.cs.l.take k)) (by have:=zlQ (x.cs.l.take k);rw[List.length_take]at this;omega)
  have hfm:(x.cs.l.take (k+1)).flatMap zak=(x.cs.l.take k).flatMap zak++zak c:=by rw[htk,List.flatMap_append];simp
  have hlen:(x.names.l++(x.cs.l.take k).flatMap zak).length≤2002000:=by
   have:=zee (l:=x.cs.l.take k) (fun c h=>hc c (List.mem_of_mem_take h))
   rw[List.length_take]at this
   rw[List.length_append];omega
  have hcn:=hc c (List.mem_of_getElem? hc2)
  by_cases h3:c.kind=3
  .rw[if_pos h3]at hdk
   have hcs:zak c=[]:=by unfold zak;rw[if_pos h3]
   rw[hcs,List.append_nil]at hfm
   rw[hdk,hfm]
   simp[zfv,zg5,zb,hk,hc2,hw,hwd,g0,hgo,hgc,h3, -getElem?_pos,gEz]
   simpa using hg
  .rw[if_neg h3]at hdk
   have hcs:zak c=c.name::c.names.l:=by unfold zak;rw[if_neg h3]
   rw[hcs]at hfm
   rw[hdk,hfm]
   obtain⟨o1,v1,G1,b1,b2,b3,b4,b5⟩:=hg.app (y:= .isl (some false) 1 [.str c.name]) (xs:=[.str c.name]) (by simp) (by simp) (by rw[List.length_map];simp only[zN,List.length_cons,List.length_nil];omega)
   have ho1:o1=some 2:=by
    rcases b4 with rfl|⟨h,_⟩
    .rfl
    .cases h
   subst ho1
   obtain⟨o2,v2,G2,d1,d2,d3,d4,d5⟩:=b2.app (y:=Sl.av AV.str 1 c.names) (xs:=c.names.l.map AV.str) zcC (by simp) (by rw[List.length_append,List.length_map,List.length_map];simp only[zN,List.length_cons,List.length_nil];omega)
   have ho2:o2=some 2:=by
    rcases d4 with rfl|⟨h,_⟩
    .rfl
    .cases h
   subst ho2
   have g1:G1[0]?=some (.arr 0 8 false [x.av]):=b3.get (by simp) g0
   have g2:G2[0]?=some (.arr 0 8 false [x.av]):=d3.get (by simp) g1
   have b2o:=b2.okO
   have b2c:=b2.cells
   have d2o:=d2.okO
   have d2c:=d2.cells
   have hg2:Grow G2 1 (some 2) v2 ((x.names.l++((x.cs.l.take k).flatMap zak++c.name::c.names.l)).map AV.str):=by simpa using d2
   simp[zfv,zg5,zb,hk,hc2,hw,hwd,g0,hgo,hgc,h3,b1,b2o,b2c,g1,d1,d2o,d2c,g2, -getElem?_pos,gEz]
   simpa using d2
 .rintro⟨⟩ F G ⟨v,rfl,hg,g0⟩
  rw[List.take_length]at hg
  have hgo:=hg.okO
  have hgc:=hg.cells
  simp[zfv,zg5,zb,g0,hgo,hgc, -getElem?_pos,gEz]
  simpa using hg
end
end Go.Proofs.YtgamobngbenehaaGreatDoor
end
section
namespace Go.Proofs.YtgamobngbenehaaGreatDoor
open Go Go.RowKit
set_option linter.unusedVariables false
set_option linter.unusedSimpArgs false
set_option maxRecDepth 10000
set_option maxHeartbeats 2000000
theorem ztq:∀o∈opT,o.names≤2∧o.exprs≤8:=by decide
theorem zs4 (k op:Int):(rsh k op).n1≤2∧(rsh k op).e1≤8:=by
 have h:((opOf op).getD opZ).names≤2∧((opOf op).getD opZ).exprs≤8:=by
  cases h:opOf op with
  |none=>decide
  |some o=>exact ztq o (List.mem_of_find?_eq_some h)
 unfold rsh
 repeat' split
 all_goals first|exact h|decide
theorem zmX {c:Cs} (h:rBad c=false):c.names.l.length≤2:=by
 unfold rBad at h
 by_cases h2:c.kind=2
 .simp[h2]at h;omega
 .simp[h2]at h;simp[h.2]
theorem zd0 {x:St} (h:zbv x=true):x.names.l.length≤2∧x.exprs.l.length≤8∧x.cs.l.length≤6∧∀c∈x.cs.l,c.names.l.length≤2:=by
 have hb:=zs4 x.kind x.op
 unfold zbv at h
 split at h
 .cases h
 rename_i h1
 have h2:((rsh x.kind x.op).n0≤x.names.l.length∧(x.names.l.length:Int)≤(rsh x.kind x.op).n1):=Decidable.byContradiction fun e=>h1 (.inr (.inl e))
 have h3:((rsh x.kind x.op).e0≤x.exprs.l.length∧(x.exprs.l.length:Int)≤(rsh x.kind x.op).e1):=Decidable.byContradiction fun e=>h1 (.inr (.inr (.inl e)))
 refine⟨by omega,by omega,?_⟩
 split at h
 .have h4:=of_decide_eq_true h
  refine⟨by omega,fun c hc=>?_⟩
  rw[List.length_eq_zero_iff.1 h4]at hc;cases hc
 .split at h
  .cases h
  .rename_i h5
   have h4:=of_decide_eq_true h
   refine⟨by omega,fun c hc=>zmX ?_⟩
   cases hbc:rBad c with
   |false=>rfl
   |true=>exact absurd (List.any_eq_true.2 ⟨c,hc,hbc⟩) h5
theorem zhw {x:St} (h:zbv x=true) (hk:x.kind=23):∃a r,x.exprs.l=a::r:=by
 cases he:x.exprs.l with
 |cons a r=>exact⟨a,r,rfl⟩
 |nil=>
  exfalso
  unfold zbv at h
  split at h
  .cases h
  .rename_i h1
   refine h1 (.inr (.inr (.inl ?_)))
   have:(rsh x.kind x.op).e0=2:=by rw[hk];rfl
   rw[this,he]
   simp
section
attribute [local irreducible] okC okV
theorem d115 (x:St) (hl:x.cs.l.length≤1000000000000):W.pure 115 [x.av]=some (I (zL x)):=by
 rw[zu Φ115 (by simp),←zdF]
 have c1:=d163 x hl
 have c2:=d164 x hl
 unfold ziY
 by_cases z1:zeC x=0
 rotate_left
 .rw[if_pos (by simpa using z1)]
  simp[zeb,c115,zd,zc,zb,resV,rvVs,rvV,c1,z1]
 rw[if_neg (by simpa using z1)]
 rw[z1]at c1
 cases z2:zbv x with
 |false=>
  rw[z2]at c2
  simp[zeb,c115,zd,zc,zb,resV,rvVs,rvV,c1,c2]
 |true=>
 rw[z2]at c2
 obtain⟨f1,f2,f3,f4⟩:=zd0 z2
 have c3:=d165 x (by omega) (by omega) (fun c hc=>by have:=f4 c hc;omega)
 rw[if_neg (by simp)]
 by_cases z3:zcF x=0
 rotate_left
 .rw[if_pos (by simpa using z3)]
  simp[zeb,c115,zd,zc,zb,resV,rvVs,rvV,c1,c2,c3,z3]
 rw[if_neg (by simpa using z3)]
 rw[z3]at c3
 have hL1:=zai (Φ:=Φ) (live:=[1,5]) (L:=zkQ) x.exprs.l (σ:=Unit) (ρ:=Int) (fun _ e _=>if stEx x.kind e≠0 then .inr (stEx x.kind e) else .inl ())
  (fun k _ F G=>F=[(1,.optr 0 0 0 0),(5,I k)]∧G=[.arr 0 8 false [x.av]])
  (fun r y F G=>y= .ret∧F.get 2=I r)
  (fun _ y F G=>y= .exit 0∧F.keep [1]=[(1,.optr 0 0 0 0)]∧G=[.arr 0 8 false [x.av]]) (s:=()) (F:=[(1,.optr 0 0 0 0),(5,I 0)]) (H:=[.arr 0 8 false [x.av]]) ⟨rfl,rfl⟩ ?_ ?_
 .rw[zb1]at hL1
  obtain⟨y1,F1,H1,e1,e2⟩:=zh.1 hL1
  clear hL1
  have hL2:=zai (Φ:=Φ) (live:=[1,7]) (L:=zkR) x.cs.l (σ:=Unit) (ρ:=Int) (fun _ c _=>if csEx c≠0 then .inr (csEx c) else .inl ())
   (fun k _ F G=>F=[(1,.optr 0 0 0 0),(7,I k)]∧G=[.arr 0 8 false [x.av]])
   (fun r y F G=>y= .ret∧F.get 2=I r)
   (fun _ y F G=>y= .exit 2∧F.keep [1]=[(1,.optr 0 0 0 0)]∧G=[.arr 0 8 false [x.av]]) (s:=()) (F:=[(1,.optr 0 0 0 0),(7,I 0)]) (H:=[.arr 0 8 false [x.av]]) ⟨rfl,rfl⟩ ?_ ?_
  .rw[zb1]at hL2
   obtain⟨y2,F2,H2,e3,e4⟩:=zh.1 hL2
   clear hL2
   unfold exsI
   by_cases z4:zD (stEx x.kind) x.exprs.l=0
   rotate_left
   .rw[if_pos z4]at e2⊢
    obtain⟨rfl,e2⟩:y1= .ret∧F1.get 2=I (zD (stEx x.kind) x.exprs.l):=e2
    simp[zeb,c115,zd,zc,zb,resV,rvVs,rvV,c1,c2,c3,e1,e2]
   rw[if_neg (by simpa using z4)]at e2⊢
   obtain⟨rfl,e2,rfl⟩:=e2
   by_cases z5:zD csEx x.cs.l=0
   rotate_left
   .rw[if_pos z5]at e4⊢
    obtain⟨rfl,e4⟩:y2= .ret∧F2.get 2=I (zD csEx x.cs.l):=e4
    simp[zeb,c115,zd,zc,zb,resV,rvVs,rvV,c1,c2,c3,e1,e2,e3,e4]
   rw[if_neg (by simpa using z5)]at e4⊢
   obtain⟨rfl,e4,rfl⟩:=e4
   by_cases h23:x.kind=23
   .obtain⟨a,r,har⟩:=zhw z2 h23
    have hh:x.exprs.l[0]?=some a:=by rw[har];rfl
    have hhd:x.exprs.l.head?=some a:=by rw[har];rfl
    rw[hhd]
    by_cases ha:a.kind=1
    .simp[zeb,c115,zd,zc,zb,resV,rvVs,rvV,c1,c2,c3,e1,e2,e3,e4,h23,hh,ha, -getElem?_pos,gEz]
    .simp[zeb,c115,zd,zc,zb,resV,rvVs,rvV,c1,c2,c3,e1,e2,e3,e4,h23,hh,ha, -getElem?_pos,gEz]
   .simp[zeb,c115,zd,zc,zb,resV,rvVs,rvV,c1,c2,c3,e1,e2,e3,e4,h23, -getElem?_pos,gEz]
  .rintro k c ⟨⟩ F G hk hc ⟨rfl,rfl⟩
   have hw:=zo (k:=k) (by omega)
   have d1:=d166 c.expr
   unfold csEx
   by_cases h1:c.kind=1
   .by_cases h2:exI c.expr=0<;>simp[zfA,zha,zb,hk,hc,hw,d1,h1,h2, -getElem?_pos,gEz]
   .simp[zfA,zha,zb,hk,hc,hw,h1, -getElem?_pos,gEz]
  .rintro⟨⟩ F G ⟨rfl,rfl⟩
   simp[zfA,zha,zb, -getElem?_pos,gEz]
 .rintro k e ⟨⟩ F G hk he ⟨rfl,rfl⟩
  have hw:=zo (k:=k) (by omega)
  have d1:=d166 e
  have d2:=d119 e
  unfold stEx
  by_cases h14:x.kind=14
  .cases h1:zP e with
   |true=>
    rw[h1]at d2
    simp[zdQ,ze1,zb,hk,he,hw,d2,h14,h1, -getElem?_pos,gEz]
   |false=>
    rw[h1]at d2
    by_cases h2:exI e=0<;>simp[zdQ,ze1,zb,hk,he,hw,d1,d2,h14,h1,h2, -getElem?_pos,gEz]
  .by_cases h2:exI e=0<;>simp[zdQ,ze1,zb,hk,he,hw,d1,h14,h2, -getElem?_pos,gEz]
 .rintro⟨⟩ F G ⟨rfl,rfl⟩
  simp[zdQ,ze1,zb, -getElem?_pos,gEz]
end
end Go.Proofs.YtgamobngbenehaaGreatDoor
end
section
namespace Go.Proofs.YtgamobngbenehaaGreatDoor
open Go Go.RowKit
set_option linter.unusedVariables false
set_option linter.unusedSimpArgs false
set_option maxRecDepth 10000
set_option maxHeartbeats 2000000
theorem zgJ (e:Ex):zK e≤101:=by unfold zK;split<;>omega
theorem d161 (e:Ex):W.pure 161 [e.av]=some (I (zK e:Nat)):=by
 rw[zu Φ161 (by simp)]
 have c1:=d119 e
 have c2:=e191 e
 unfold zK
 cases h:zP e with
 |true=>rw[h]at c1;simp[zlk,c161,zd,zc,zb,resV,rvVs,rvV,c1]
 |false=>
  rw[h]at c1
  generalize min e.size 101=m at *
  simp[zlk,c161,zd,zc,zb,resV,rvVs,rvV,c1,c2]
def SzOk (l:Sl St):Prop:=∀n:Nat,n≤1000→W.pure 111 [I n,Sl.av St.av 8 l]=some (I (min (n+St.costs l.l) 301:Nat))
section
attribute [local irreducible] okC okV
theorem zkl (l:Sl St) (k:Nat) (x:St) (hx:l.l[k]?=some x) (hl:x.exprs.l.length≤9223372036854775807):∀(r:List Ex) (j n T:Nat),x.exprs.l.drop j=r→j≤x.exprs.l.length→Rb 1000 300 n T→n≤401→
  okC (W.loop [0,1,5,6] zkV [(0,I n),(1,Sl.av St.av 8 l),(5,I k),(6,I j)] []) (fun y F G=>y= .exit 2∧G=[]∧∃n':Nat,F.keep [0,1,5]=[(0,I n'),(1,Sl.av St.av 8 l),(5,I k)]∧Rb 1000 300 n' (T+(r.map zK).sum)∧n'≤401):=by
 have hkl:=(gEs.1 hx).1
 intro r
 induction r with
 |nil=>
  intro j n T h1 h2 h3 h4
  have hj:=zj h1 h2
  rw[zk]
  simp[zfC,zhc,zb,hx,hj, -getElem?_pos,gEz]
  exact⟨n,rfl,h3,h4⟩
 |cons e r ih=>
  intro j n T h1 h2 h3 h4
  obtain⟨hlt,he,hr⟩:=zq h1
  have hlt':(j:Int)<x.exprs.l.length:=by omega
  have hw:IntKind.wrap .i64 ((j:Int)+1)=(j:Int)+1:=by rw[zJ]<;>omega
  have hle:=zgJ e
  have d1:=d161 e
  rw[zk]
  by_cases hn:n≤300
  .have hn':(n:Int)≤300:=by omega
   have hwa:IntKind.wrap .i64 ((n:Int)+(zK e:Nat))=(n:Int)+(zK e:Nat):=by rw[zJ]<;>omega
   have hJ:=ih (j+1) (n+zK e) (T+zK e) hr (by omega) (by unfold Rb at *;omega) (by omega)
   simp only[Int.natCast_add,Int.cast_ofNat_Int]at hJ
   obtain⟨y,F',H',g1,rfl,rfl,n',g2,g3,g4⟩:=zh.1 hJ
   simp[zfC,zhc,zb,hx,hlt,he,hw,hn,hn',d1,hwa,g1, -getElem?_pos,gEz]
   refine⟨n',by simpa using g2,by rw[show T+(zK e+(r.map zK).sum)=T+zK e+(r.map zK).sum by omega];exact g3,g4⟩
  .have hn':¬(n:Int)≤300:=by omega
   simp[zfC,zhc,zb,hx,hlt,he,hn,hn', -getElem?_pos,gEz]
   exact⟨n,rfl,by unfold Rb at *;omega,h4⟩
theorem zkm (l:Sl St) (k:Nat) (x:St) (hx:l.l[k]?=some x) (hl:x.cs.l.length≤9223372036854775807) (ih0:∀c∈x.cs.l,SzOk c.body):∀(r:List Cs) (j n T:Nat),x.cs.l.drop j=r→j≤x.cs.l.length→Rb 1000 300 n T→n≤401→
  okC (W.loop [0,1,5,7] zkW [(0,I n),(1,Sl.av St.av 8 l),(5,I k),(7,I j)] []) (fun y F G=>y= .exit 4∧G=[]∧∃n':Nat,F.keep [0,1,5]=[(0,I n'),(1,Sl.av St.av 8 l),(5,I k)]∧Rb 1000 300 n' (T+Cs.costs r)∧n'≤401):=by
 have hkl:=(gEs.1 hx).1
 intro r
 induction r with
 |nil=>
  intro j n T h1 h2 h3 h4
  have hj:=zj h1 h2
  rw[zk]
  simp[zfD,zhd,zb,hx,hj,Cs.costs, -getElem?_pos,gEz]
  exact⟨n,rfl,h3,h4⟩
 |cons c r ih=>
  intro j n T h1 h2 h3 h4
  obtain⟨hlt,he,hr⟩:=zq h1
  have hlt':(j:Int)<x.cs.l.length:=by omega
  have hw:IntKind.wrap .i64 ((j:Int)+1)=(j:Int)+1:=by rw[zJ]<;>omega
  have hle:=zgJ c.expr
  have d1:=d161 c.expr
  have hcc:=Cs.cost_eq c
  simp only[Cs.costs]
  rw[zk]
  by_cases hn:n≤300
  .have hn':(n:Int)≤300:=by omega
   have hw1:IntKind.wrap .i64 ((n:Int)+1)=(n:Int)+1:=by rw[zJ]<;>omega
   have hwa:IntKind.wrap .i64 ((n:Int)+1+(zK c.expr:Nat))=(n:Int)+1+(zK c.expr:Nat):=by rw[zJ]<;>omega
   have d2:=ih0 c (zF h1) (n+1+zK c.expr) (by omega)
   have hJ:=ih (j+1) (min (n+1+zK c.expr+St.costs c.body.l) 301) (T+c.cost) hr (by omega) (by unfold Rb at *;omega) (by omega)
   generalize min (n+1+zK c.expr+St.costs c.body.l) 301=m at *
   simp only[Int.natCast_add,Int.cast_ofNat_Int]at hJ d2
   obtain⟨y,F',H',g1,rfl,rfl,n',g2,g3,g4⟩:=zh.1 hJ
   simp[zfD,zhd,zb,hx,hlt,he,hw,hw1,hn,hn',d1,d2,hwa,g1, -getElem?_pos,gEz]
   refine⟨n',by simpa using g2,by rw[show T+(c.cost+Cs.costs r)=T+c.cost+Cs.costs r by omega];exact g3,g4⟩
  .have hn':¬(n:Int)≤300:=by omega
   simp[zfD,zhd,zb,hx,hlt,he,hn,hn', -getElem?_pos,gEz]
   exact⟨n,rfl,by unfold Rb at *;omega,h4⟩
theorem d111:∀(b:Nat) (l:Sl St),St.bigs l.l≤b→St.fines l.l→l.l.length≤9223372036854775807→SzOk l:=by
 intro b
 induction b using Nat.strongRecOn with
 |ind b ihb=>
  intro l hb hf hl n0 hn0
  rw[zu Φ111 (by simp)]
  have hL:∀(r:List St) (k n T:Nat),l.l.drop k=r→k≤l.l.length→Rb 1000 300 n T→n≤1000→
    okC (W.loop [0,1,5] zkU [(0,I n),(1,Sl.av St.av 8 l),(5,I k)] []) (fun y F G=>y= .exit 0∧G=[]∧∃n':Nat,F.get 0=I n'∧Rb 1000 300 n' (T+St.costs r)):=by
   intro r
   induction r with
   |nil=>
    intro k n T h1 h2 h3 h4
    have hk:=zj h1 h2
    rw[zk]
    simp[zfB,zhb,zb,hk,St.costs, -getElem?_pos,gEz]
    exact⟨n,rfl,h3⟩
   |cons x r ih=>
    intro k n T h1 h2 h3 h4
    obtain⟨hlt,he,hr⟩:=zq h1
    have hlt':(k:Int)<l.l.length:=by omega
    have hw:IntKind.wrap .i64 ((k:Int)+1)=(k:Int)+1:=by rw[zJ]<;>omega
    have hmem:x∈l.l:=List.mem_of_getElem? he
    have hfx:=St.fines_mem hf hmem
    rw[St.fine_eq]at hfx
    have hbig:=St.bigs_mem hmem
    rw[St.big_eq]at hbig
    have hxc:=St.cost_eq x
    simp only[St.costs]
    rw[zk]
    by_cases hn:n≤300
    .have hn':(n:Int)≤300:=by omega
     have hw1:IntKind.wrap .i64 ((n:Int)+1)=(n:Int)+1:=by rw[zJ]<;>omega
     obtain⟨y1,F1,H1,a1,rfl,rfl,n1,a2,a3,a4⟩:=zh.1 (zkl l k x he hfx.1 x.exprs.l 0 (n+1) (T+1) rfl (by omega) (by unfold Rb at *;omega) (by omega))
     have b1:=ihb (St.bigs x.body.l) (by omega) x.body (Nat.le_refl _) hfx.2.2.2.2.2.1 hfx.2.2.1 n1 (by omega)
     have b2:=ihb (St.bigs x.els.l) (by omega) x.els (Nat.le_refl _) hfx.2.2.2.2.2.2.1 hfx.2.2.2.1 (min (n1+St.costs x.body.l) 301) (by omega)
     obtain⟨y2,F2,H2,c1,rfl,rfl,n2,c2,c3,c4⟩:=zh.1 (zkm l k x he hfx.2.2.2.2.1 (fun c hc=>by
      have h5:=Cs.bigs_mem hc
      rw[Cs.big_eq]at h5
      have h6:=Cs.fines_mem hfx.2.2.2.2.2.2.2 hc
      rw[Cs.fine_eq]at h6
      exact ihb (St.bigs c.body.l) (by omega) c.body (Nat.le_refl _) h6.2.2 h6.2.1) x.cs.l 0 (min (min (n1+St.costs x.body.l) 301+St.costs x.els.l) 301) (T+1+(x.exprs.l.map zK).sum+St.costs x.body.l+St.costs x.els.l) rfl (by omega) (by unfold Rb at *;omega) (by omega))
     have hJ:=ih (k+1) n2 (T+x.cost) hr (by omega) (by rw[hxc];unfold Rb at *;omega) (by omega)
     generalize min (min (n1+St.costs x.body.l) 301+St.costs x.els.l) 301=m2 at *
     generalize min (n1+St.costs x.body.l) 301=m1 at *
     simp only[Int.natCast_add,Int.cast_ofNat_Int,Int.natCast_zero]at hJ a1 c1
     obtain⟨y,F',H',g1,rfl,rfl,n',g2,g3⟩:=zh.1 hJ
     simp[zfB,zhb,zb,hlt,he,hw,hw1,hn,hn',a1,a2,b1,b2,c1,c2,g1, -getElem?_pos,gEz]
     refine⟨n',by simpa using g2,by rw[show T+(x.cost+St.costs r)=T+x.cost+St.costs r by omega];exact g3⟩
    .have hn':¬(n:Int)≤300:=by omega
     simp[zfB,zhb,zb,hlt,he,hn,hn', -getElem?_pos,gEz]
     exact⟨n,rfl,by unfold Rb at *;omega⟩
  obtain⟨y,F,H,g1,rfl,rfl,n',g2,g3⟩:=zh.1 (hL l.l 0 n0 n0 rfl (by omega) (by unfold Rb;omega) hn0)
  simp only[Int.natCast_zero]at g1
  have hm:min n' 301=min (n0+St.costs l.l) 301:=by unfold Rb at g3;omega
  rw[←hm]
  simp[znV,c111,zd,zc,zb,resV,rvVs,rvV,g1,g2]
  omega
end
end Go.Proofs.YtgamobngbenehaaGreatDoor
end
section
namespace Go.Proofs.YtgamobngbenehaaGreatDoor
open Go Go.RowKit
set_option linter.unusedVariables false
set_option linter.unusedSimpArgs false
set_option maxRecDepth 10000
set_option maxHeartbeats 2000000
mutual
theorem St.dep_cost:∀x:St,x.dep≤x.cost
 | .mk a b c d e f g bl h i el j k cl=>by
  have h1:=St.deps_costs bl
  have h2:=St.deps_costs el
  have h3:=Cs.deps_costs cl
  simp only[St.dep,St.cost]
  omega
theorem St.deps_costs:∀l:List St,St.deps l≤St.costs l
 | []=>by simp[St.deps,St.costs]
 |x::r=>by
  have h1:=St.dep_cost x
  have h2:=St.deps_costs r
  simp only[St.deps,St.costs]
  omega
theorem Cs.dep_cost:∀x:Cs,x.dep≤x.cost
 | .mk a b e ns f g bl=>by
  have h1:=St.deps_costs bl
  simp only[Cs.dep,Cs.cost]
  omega
theorem Cs.deps_costs:∀l:List Cs,Cs.deps l≤Cs.costs l
 | []=>by simp[Cs.deps,Cs.costs]
 |x::r=>by
  have h1:=Cs.dep_cost x
  have h2:=Cs.deps_costs r
  simp only[Cs.deps,Cs.costs]
  omega
end
theorem St.costs_mem {x:St} {l:List St} (h:x∈l):x.cost≤St.costs l:=by
 induction l with
 |nil=>cases h
 |cons a r ih=>
  simp only[St.costs]
  cases h with
  |head=>omega
  |tail _ h=>have:=ih h;omega
theorem Cs.costs_mem {x:Cs} {l:List Cs} (h:x∈l):x.cost≤Cs.costs l:=by
 induction l with
 |nil=>cases h
 |cons a r ih=>
  simp only[Cs.costs]
  cases h with
  |head=>omega
  |tail _ h=>have:=ih h;omega
theorem zkb (a b:Nat):mxV (I a) (I (1+(b:Int)))=I (max a (1+b):Nat):=by
 rw[zhB,if_pos rfl]
 congr 1
 split<;>omega
def DpOk (l:Sl St):Prop:=W.pure 58 [Sl.av St.av 8 l]=some (I (St.deps l.l:Nat))
section
attribute [local irreducible] okC okV
theorem d57 (s:So) (hl:s.procs.l.length≤9223372036854775807) (hf:∀p∈s.procs.l,p.fine):W.pure 57 [s.av]=some (I (min (s.procs.l.map Pr.cost).sum 301:Nat)):=by
 rw[zu Φ57 (by simp)]
 have hL:∀(r:List Pr) (k n T:Nat),s.procs.l.drop k=r→k≤s.procs.l.length→n=min T 301→
   okC (W.loop [1,3,4] zpV [(1,.optr 0 0 0 0),(3,I n),(4,I k)] [.arr 0 2 false [s.av]]) (fun y F G=>y= .exit 0∧F.keep [3]=[(3,I (min (T+(r.map Pr.cost).sum) 301:Nat))]):=by
  intro r
  induction r with
  |nil=>
   intro k n T h1 h2 h3
   have hk:=zj h1 h2
   rw[zk]
   simp[zhL,zl9,zb,hk, -getElem?_pos,gEz,h3]
  |cons p r ih=>
   intro k n T h1 h2 h3
   obtain⟨hlt,he,hr⟩:=zq h1
   have hlt':(k:Int)<s.procs.l.length:=by omega
   have hw:IntKind.wrap .i64 ((k:Int)+1)=(k:Int)+1:=by rw[zJ]<;>omega
   have hfp:=hf p (List.mem_of_getElem? he)
   have d1:=d111 (St.bigs p.body.l) p.body (Nat.le_refl _) hfp.1 hfp.2.1 n (by omega)
   have hc:p.cost=St.costs p.body.l:=rfl
   rw[zk]
   simp only[List.map_cons,List.sum_cons]
   by_cases hn:n≤300
   .have hn':(n:Int)≤300:=by omega
    have hJ:=ih (k+1) (min (n+St.costs p.body.l) 301) (T+p.cost) hr (by omega) (by omega)
    rw[show T+p.cost+(r.map Pr.cost).sum=T+(p.cost+(r.map Pr.cost).sum) by omega]at hJ
    generalize min (T+(p.cost+(r.map Pr.cost).sum)) 301=m0 at *
    generalize min (n+St.costs p.body.l) 301=m at *
    simp only[Int.natCast_add,Int.cast_ofNat_Int]at hJ
    obtain⟨y,F',H',g1,rfl,g2⟩:=zh.1 hJ
    simp[zhL,zl9,zb,hlt,he,hw,hn,hn',d1,g1, -getElem?_pos,gEz]
    simpa using g2
   .have hn':¬(n:Int)≤300:=by omega
    have hm:min (T+(p.cost+(r.map Pr.cost).sum)) 301=n:=by omega
    rw[hm]
    simp[zhL,zl9,zb,hlt,he,hn,hn', -getElem?_pos,gEz]
 obtain⟨y,F,H,g1,rfl,g2⟩:=zh.1 (hL s.procs.l 0 0 0 rfl (by omega) rfl)
 rw[Nat.zero_add]at g2
 generalize min (s.procs.l.map Pr.cost).sum 301=m at *
 simp only[Int.natCast_zero]at g1
 simp[fi57,c57,zd,zc,zb,resV,rvVs,rvV,g1,g2]
theorem znb (l:Sl St) (k:Nat) (x:St) (hx:l.l[k]?=some x) (hl:Cs.costs x.cs.l≤300) (hln:x.cs.l.length≤9223372036854775807) (ih0:∀c∈x.cs.l,DpOk c.body):∀(r:List Cs) (j m:Nat),x.cs.l.drop j=r→j≤x.cs.l.length→1≤m→
  okC (W.loop [0,3,4,5] zpU [(0,Sl.av St.av 8 l),(3,I m),(4,I k),(5,I j)] []) (fun y F G=>y= .exit 2∧G=[]∧F.keep [0,3,4]=[(0,Sl.av St.av 8 l),(3,I (max m (1+Cs.deps r):Nat)),(4,I k)]):=by
 have hkl:=(gEs.1 hx).1
 intro r
 induction r with
 |nil=>
  intro j m h1 h2 h3
  have hj:=zj h1 h2
  rw[zk]
  have hm:max m (1+Cs.deps [])=m:=by simp only[Cs.deps];omega
  rw[hm]
  simp[zlH,zof,zb,hx,hj, -getElem?_pos,gEz]
 |cons c r ih=>
  intro j m h1 h2 h3
  obtain⟨hlt,he,hr⟩:=zq h1
  have hlt':(j:Int)<x.cs.l.length:=by omega
  have hw:IntKind.wrap .i64 ((j:Int)+1)=(j:Int)+1:=by rw[zJ]<;>omega
  have hmem:=zF h1
  have d1:=ih0 c hmem
  unfold DpOk at d1
  have hcc:=Cs.costs_mem hmem
  have hdc:=Cs.dep_cost c
  have hcd:=Cs.dep_eq c
  rw[←hcd]at d1
  have hwd:IntKind.wrap .i64 (1+(c.dep:Int))=1+(c.dep:Int):=by rw[zJ]<;>omega
  have hm:max m (1+Cs.deps (c::r))=max (max m (1+c.dep)) (1+Cs.deps r):=by simp only[Cs.deps];omega
  have hJ:=ih (j+1) (max m (1+c.dep)) hr (by omega) (by omega)
  rw[←hm]at hJ
  have hx2:=zkb m c.dep
  generalize max m (1+Cs.deps (c::r))=m1 at *
  generalize max m (1+c.dep)=m2 at *
  simp only[Int.natCast_add,Int.cast_ofNat_Int]at hJ
  obtain⟨y,F',H',g1,rfl,rfl,g2⟩:=zh.1 hJ
  rw[zk]
  simp[zlH,zof,zb,hx,hlt,he,hw,d1,hwd,hx2,g1, -zhB, -getElem?_pos,gEz]
  simpa using g2
theorem d58:∀(b:Nat) (l:Sl St),St.bigs l.l≤b→St.fines l.l→l.l.length≤9223372036854775807→St.costs l.l≤300→DpOk l:=by
 intro b
 induction b using Nat.strongRecOn with
 |ind b ihb=>
  intro l hb hf hl hc
  unfold DpOk
  rw[zu Φ58 (by simp)]
  have hL:∀(r:List St) (k m:Nat),l.l.drop k=r→k≤l.l.length→
    okC (W.loop [0,3,4] zpT [(0,Sl.av St.av 8 l),(3,I m),(4,I k)] []) (fun y F G=>y= .exit 0∧G=[]∧F.get 3=I (max m (St.deps r):Nat)):=by
   intro r
   induction r with
   |nil=>
    intro k m h1 h2
    have hk:=zj h1 h2
    rw[zk]
    have hm:max m (St.deps [])=m:=by simp only[St.deps];omega
    rw[hm]
    simp[zlG,zoe,zb,hk, -getElem?_pos,gEz]
   |cons x r ih=>
    intro k m h1 h2
    obtain⟨hlt,he,hr⟩:=zq h1
    have hlt':(k:Int)<l.l.length:=by omega
    have hw:IntKind.wrap .i64 ((k:Int)+1)=(k:Int)+1:=by rw[zJ]<;>omega
    have hmem:x∈l.l:=List.mem_of_getElem? he
    have hfx:=St.fines_mem hf hmem
    rw[St.fine_eq]at hfx
    have hbig:=St.bigs_mem hmem
    rw[St.big_eq]at hbig
    have hxm:=St.costs_mem hmem
    have hxc:=St.cost_eq x
    have b1:=ihb (St.bigs x.body.l) (by omega) x.body (Nat.le_refl _) hfx.2.2.2.2.2.1 hfx.2.2.1 (by omega)
    have b2:=ihb (St.bigs x.els.l) (by omega) x.els (Nat.le_refl _) hfx.2.2.2.2.2.2.1 hfx.2.2.2.1 (by omega)
    unfold DpOk at b1 b2
    have k1:=St.deps_costs x.body.l
    have k2:=St.deps_costs x.els.l
    have hw1:IntKind.wrap .i64 (1+(St.deps x.body.l:Int))=1+(St.deps x.body.l:Int):=by rw[zJ]<;>omega
    have hw2:IntKind.wrap .i64 (1+(St.deps x.els.l:Int))=1+(St.deps x.els.l:Int):=by rw[zJ]<;>omega
    obtain⟨y2,F2,H2,c1,rfl,rfl,c2⟩:=zh.1 (znb l k x he (by omega) hfx.2.2.2.2.1 (fun c hc=>by
      have h5:=Cs.bigs_mem hc
      rw[Cs.big_eq]at h5
      have h6:=Cs.fines_mem hfx.2.2.2.2.2.2.2 hc
      rw[Cs.fine_eq]at h6
      have h7:=Cs.costs_mem hc
      rw[Cs.cost_eq]at h7
      exact ihb (St.bigs c.body.l) (by omega) c.body (Nat.le_refl _) h6.2.2 h6.2.1 (by omega)) x.cs.l 0 (max (max m (1+St.deps x.body.l)) (1+St.deps x.els.l)) rfl (by omega) (by omega))
    have hde:=St.dep_eq x
    have hm:max (max (max m (1+St.deps x.body.l)) (1+St.deps x.els.l)) (1+Cs.deps x.cs.l)=max m x.dep:=by omega
    rw[hm]at c2
    have hm2:max m (St.deps (x::r))=max (max m x.dep) (St.deps r):=by simp only[St.deps];omega
    have hJ:=ih (k+1) (max m x.dep) hr (by omega)
    rw[←hm2]at hJ
    have hx1:=zkb m (St.deps x.body.l)
    have hx2:=zkb (max m (1+St.deps x.body.l)) (St.deps x.els.l)
    generalize max m (St.deps (x::r))=q0 at *
    generalize max m x.dep=q1 at *
    generalize max (max m (1+St.deps x.body.l)) (1+St.deps x.els.l)=q2 at *
    generalize max m (1+St.deps x.body.l)=q3 at *
    simp only[Int.natCast_add,Int.cast_ofNat_Int,Int.natCast_zero]at hJ c1
    obtain⟨y,F',H',g1,rfl,rfl,g2⟩:=zh.1 hJ
    rw[zk]
    simp[zlG,zoe,zb,hlt,he,hw,b1,b2,hw1,hw2,hx1,hx2,c1,c2,g1, -zhB, -getElem?_pos,gEz]
    simpa using g2
  obtain⟨y,F,H,g1,rfl,rfl,g2⟩:=zh.1 (hL l.l 0 0 rfl (by omega))
  have hm:max 0 (St.deps l.l)=St.deps l.l:=by omega
  rw[hm]at g2
  simp only[Int.natCast_zero]at g1
  simp[fi58,c58,zd,zc,zb,resV,rvVs,rvV,g1,g2]
end
end Go.Proofs.YtgamobngbenehaaGreatDoor
end
section
namespace Go.Proofs.YtgamobngbenehaaGreatDoor
open Go Go.RowKit
set_option linter.unusedVariables false
set_option linter.unusedSimpArgs false
set_option maxRecDepth 10000
set_option maxHeartbeats 2000000
mutual
theorem St.preLe:∀x:St,x.pre.length≤x.cost
 | .mk a b c d e f g bl h i el j k cl=>by
  have h1:=St.presLe bl
  have h2:=St.presLe el
  have h3:=Cs.presLe cl
  simp only[St.pre,St.cost,List.length_cons,List.length_append]
  omega
theorem St.presLe:∀l:List St,(St.pres l).length≤St.costs l
 | []=>by simp[St.pres,St.costs]
 |x::r=>by
  have h1:=St.preLe x
  have h2:=St.presLe r
  simp only[St.pres,St.costs,List.length_append]
  omega
theorem Cs.preLe:∀x:Cs,x.pre.length≤x.cost
 | .mk a b e ns f g bl=>by
  have h1:=St.presLe bl
  simp only[Cs.pre,Cs.cost]
  omega
theorem Cs.presLe:∀l:List Cs,(Cs.pres l).length≤Cs.costs l
 | []=>by simp[Cs.pres,Cs.costs]
 |x::r=>by
  have h1:=Cs.preLe x
  have h2:=Cs.presLe r
  simp only[Cs.pres,Cs.costs,List.length_append]
  omega
end
theorem zmD (l:List St):(l.map St.av).all (fun e=>e.cells.all AV.cell)=true:=by
 rw[List.all_eq_true]
 intro e he
 obtain⟨s,_,rfl⟩:=List.mem_map.1 he
 exact zsW
theorem zjI (l:List St):(l.map St.av).all (fun e=>e.cells.all AV.still)=true:=by
 rw[List.all_eq_true]
 intro e he
 obtain⟨s,_,rfl⟩:=List.mem_map.1 he
 exact ziN
theorem znu {G:Heap} {v:AV} {q:List St} (h:Grow G 8 (some 0) v (q.map St.av)) (y:AV) (m:List St) (hy:zap G 8 y=some (m.map St.av)) (hl:q.length+m.length≤1000):
  ∃v' G',ex G (.app 8) [v,y]=some (v',G')∧Grow G' 8 (some 0) v' ((q++m).map St.av)∧Go.Proofs.YtgamobngbenehaaGreatDoor.okO v'=some v'∧v'.cells=[v']:=by
 obtain⟨o',v',G',a1,a2,a3,a4,a5⟩:=h.app hy (zmD m) (by rw[List.length_map,List.length_map];simp only[zN];omega)
 have:o'=some 0:=by
  rcases a4 with rfl|⟨h,_⟩
  .rfl
  .cases h
 subst this
 exact⟨v',G',a1,by rw[List.map_append];exact a2,a2.okO,a2.cells⟩
def PrOk (l:Sl St):Prop:=∃y:Sl St,W.pure 114 [Sl.av St.av 8 l]=some (Sl.av St.av 8 y)∧y.l=St.pres l.l
section
attribute [local irreducible] okC okV
theorem zkk (l:Sl St) (k:Nat) (x:St) (hx:l.l[k]?=some x) (hln:x.cs.l.length≤9223372036854775807) (ih0:∀c∈x.cs.l,PrOk c.body):∀(r:List Cs) (j:Nat) (q:List St) (v:AV) (G:Heap),x.cs.l.drop j=r→j≤x.cs.l.length→q.length+(Cs.pres r).length≤1000→Grow G 8 (some 0) v (q.map St.av)→
  okC (W.loop [0,3,4,5] zkT [(0,Sl.av St.av 8 l),(3,v),(4,I k),(5,I j)] G) (fun y F G'=>y= .exit 2∧∃v',F.keep [0,3,4]=[(0,Sl.av St.av 8 l),(3,v'),(4,I k)]∧Grow G' 8 (some 0) v' ((q++Cs.pres r).map St.av)):=by
 have hkl:=(gEs.1 hx).1
 intro r
 induction r with
 |nil=>
  intro j q v G h1 h2 h3 hg
  have hj:=zj h1 h2
  have hgo:=hg.okO
  have hgc:=hg.cells
  rw[zk]
  simp[ziA,ziG,zb,hx,hj,hgo,hgc,Cs.pres, -getElem?_pos,gEz]
  exact hg
 |cons c r ih=>
  intro j q v G h1 h2 h3 hg
  obtain⟨hlt,he,hr⟩:=zq h1
  have hlt':(j:Int)<x.cs.l.length:=by omega
  have hw:IntKind.wrap .i64 ((j:Int)+1)=(j:Int)+1:=by rw[zJ]<;>omega
  obtain⟨y,d1,d2⟩:=ih0 c (zF h1)
  have hcp:=Cs.pre_eq c
  simp only[Cs.pres,List.length_append,hcp]at h3⊢
  have hgo:=hg.okO
  have hgc:=hg.cells
  obtain⟨v1,G1,a1,a2,a3,a4⟩:=znu hg (Sl.av St.av 8 y) y.l zcC (by rw[d2];omega)
  rw[d2]at a2
  have hJ:=ih (j+1) (q++St.pres c.body.l) v1 G1 hr (by omega) (by rw[List.length_append];omega) a2
  simp only[Int.natCast_add,Int.cast_ofNat_Int]at hJ
  obtain⟨z,F',H',g1,rfl,v2,g2,g3⟩:=zh.1 hJ
  rw[List.append_assoc]at g3
  rw[zk]
  simp[ziA,ziG,zb,hx,hlt,he,hw,hgo,hgc,d1,a1,a3,a4,g1, -getElem?_pos,gEz, -List.map_append]
  exact⟨v2,by simpa using g2,g3⟩
theorem d114:∀(b:Nat) (l:Sl St),St.bigs l.l≤b→St.fines l.l→l.l.length≤9223372036854775807→St.costs l.l≤300→PrOk l:=by
 intro b
 induction b using Nat.strongRecOn with
 |ind b ihb=>
  intro l hb hf hl hc
  unfold PrOk
  have hL:∀(r:List St) (k:Nat) (q:List St) (v:AV) (G:Heap),l.l.drop k=r→k≤l.l.length→q.length+(St.pres r).length≤1000→Grow G 8 (some 0) v (q.map St.av)→
    okC (W.loop [0,3,4] zkS [(0,Sl.av St.av 8 l),(3,v),(4,I k)] G) (fun y F G'=>y= .exit 0∧∃v',F.keep [3]=[(3,v')]∧Grow G' 8 (some 0) v' ((q++St.pres r).map St.av)):=by
   intro r
   induction r with
   |nil=>
    intro k q v G h1 h2 h3 hg
    have hk:=zj h1 h2
    have hgo:=hg.okO
    have hgc:=hg.cells
    rw[zk]
    simp[ziz,ziF,zb,hk,hgo,hgc,St.pres, -getElem?_pos,gEz]
    exact hg
   |cons x r ih=>
    intro k q v G h1 h2 h3 hg
    obtain⟨hlt,he,hr⟩:=zq h1
    have hlt':(k:Int)<l.l.length:=by omega
    have hw:IntKind.wrap .i64 ((k:Int)+1)=(k:Int)+1:=by rw[zJ]<;>omega
    have hmem:x∈l.l:=List.mem_of_getElem? he
    have hfx:=St.fines_mem hf hmem
    rw[St.fine_eq]at hfx
    have hbig:=St.bigs_mem hmem
    rw[St.big_eq]at hbig
    have hxm:=St.costs_mem hmem
    have hxc:=St.cost_eq x
    obtain⟨y1,b1,b2⟩:=ihb (St.bigs x.body.l) (by omega) x.body (Nat.le_refl _) hfx.2.2.2.2.2.1 hfx.2.2.1 (by omega)
    obtain⟨y2,b3,b4⟩:=ihb (St.bigs x.els.l) (by omega) x.els (Nat.le_refl _) hfx.2.2.2.2.2.2.1 hfx.2.2.2.1 (by omega)
    have hxp:=St.pre_eq x
    simp only[St.pres,List.length_append,hxp,List.length_cons]at h3⊢
    have hgo:=hg.okO
    have hgc:=hg.cells
    obtain⟨v1,G1,a1,a2,a3,a4⟩:=znu hg (.isl (some false) 8 [x.av]) [x] (by simp) (by simp;omega)
    obtain⟨v2,G2,c1,c2,c3,c4⟩:=znu a2 (Sl.av St.av 8 y1) y1.l zcC (by rw[b2,List.length_append,List.length_cons,List.length_nil];omega)
    rw[b2]at c2
    obtain⟨v3,G3,d1,d2,d3,d4⟩:=znu c2 (Sl.av St.av 8 y2) y2.l zcC (by rw[b4,List.length_append,List.length_append,List.length_cons,List.length_nil];omega)
    rw[b4]at d2
    obtain⟨z,F3,G4,f1,rfl,v4,f2,f3⟩:=zh.1 (zkk l k x he hfx.2.2.2.2.1 (fun c hc=>by
      have h5:=Cs.bigs_mem hc
      rw[Cs.big_eq]at h5
      have h6:=Cs.fines_mem hfx.2.2.2.2.2.2.2 hc
      rw[Cs.fine_eq]at h6
      have h7:=Cs.costs_mem hc
      rw[Cs.cost_eq]at h7
      exact ihb (St.bigs c.body.l) (by omega) c.body (Nat.le_refl _) h6.2.2 h6.2.1 (by omega)) x.cs.l 0 _ v3 G3 rfl (by omega) (by rw[List.length_append,List.length_append,List.length_append,List.length_cons,List.length_nil];omega) d2)
    have hq:q++[x]++St.pres x.body.l++St.pres x.els.l++Cs.pres x.cs.l=q++x::(St.pres x.body.l++(St.pres x.els.l++Cs.pres x.cs.l)):=by simp
    rw[hq]at f3
    have hJ:=ih (k+1) _ v4 G4 hr (by omega) (by rw[List.length_append,List.length_cons,List.length_append,List.length_append];omega) f3
    simp only[Int.natCast_add,Int.cast_ofNat_Int,Int.natCast_zero]at hJ f1
    obtain⟨z,F',H',g1,rfl,v5,g2,g3⟩:=zh.1 hJ
    rw[List.append_assoc]at g3
    have f3o:=f3.okO
    have f3c:=f3.cells
    rw[zk]
    simp[ziz,ziF,zb,hlt,he,hw,hgo,hgc,b1,b3,a1,a3,a4,c1,c3,c4,d1,d3,d4,f1,f2,f3o,f3c,g1, -getElem?_pos,gEz, -List.map_append]
    have g2':F'.get 3=v5:=by simpa using g2
    rw[g2'];simpa only[List.append_assoc,List.cons_append]using g3
  have hpl:=St.presLe l.l
  obtain⟨z,F,H,g1,rfl,v,g2,g3⟩:=zh.1 (hL l.l 0 [] (.osl 0 0 0 0) [.arr 0 8 false []] rfl (by omega) (by simp;omega) (zd6 (l:=[]) rfl))
  rw[List.nil_append]at g3
  obtain⟨y,f1,f2⟩:=g3.slG (n:=7) (zjI _)
  have g3o:=g3.okO
  have g3c:=g3.cells
  simp only[Int.natCast_zero]at g1
  refine⟨y,?_,f2⟩
  rw[zu Φ114 (by simp)]
  simp[znS,c114,zd,zc,zb,resV,rvVs,rvV,g1,g2,g3o,g3c,f1]
end
end Go.Proofs.YtgamobngbenehaaGreatDoor
end
section
namespace Go.Proofs.YtgamobngbenehaaGreatDoor
open Go Go.RowKit
set_option linter.unusedVariables false
set_option linter.unusedSimpArgs false
set_option maxRecDepth 10000
set_option maxHeartbeats 2000000
def zmW (d:Dc):Int:=
 if ¬(d.kind=101∨d.kind=102)∧¬(1≤d.kind∧d.kind≤9) then 8
 else if (¬((d.kind=101∨d.kind=102)∨(4≤d.kind∧d.kind≤8))∧¬d.a=0)∨((¬d.kind=4∧¬d.kind=8)∧¬d.b=0)∨(¬d.kind=3∧¬d.name2=[]) then 1
 else if zX d.name=false∨(d.kind=3∧zX d.name2=false) then 5
 else if ¬((if d.kind=101∨d.kind=102 then (-1099511627776:Int) else 0)≤d.a∧d.a≤1099511627776)∨(d.kind=4∧¬(0≤d.b∧d.b≤1))∨¬(0≤d.b∧d.b≤1099511627776) then 2
 else 0
theorem zmV (d:Dc):zmW d=zE d:=by
 unfold zmW zE
 by_cases h101:d.kind=101
 .have h0:zaQ d.kind=some (-1099511627776,1099511627776,0,false):=by rw[h101];rfl
  rw[h0,h101]
  simp
  grind
 by_cases h102:d.kind=102
 .have h0:zaQ d.kind=some (-1099511627776,1099511627776,0,false):=by rw[h102];rfl
  rw[h0,h102]
  simp
  grind
 by_cases h1:d.kind=1
 .have h0:zaQ d.kind=some (0,0,0,false):=by rw[h1];rfl
  rw[h0,h1]
  simp
  grind
 by_cases h2:d.kind=2
 .have h0:zaQ d.kind=some (0,0,0,false):=by rw[h2];rfl
  rw[h0,h2]
  simp
  grind
 by_cases h9:d.kind=9
 .have h0:zaQ d.kind=some (0,0,0,false):=by rw[h9];rfl
  rw[h0,h9]
  simp
  grind
 by_cases h3:d.kind=3
 .have h0:zaQ d.kind=some (0,0,0,true):=by rw[h3];rfl
  rw[h0,h3]
  simp
  grind
 by_cases h4:d.kind=4
 .have h0:zaQ d.kind=some (0,1099511627776,1,false):=by rw[h4];rfl
  rw[h0,h4]
  simp
  grind
 by_cases h5:d.kind=5
 .have h0:zaQ d.kind=some (0,1099511627776,0,false):=by rw[h5];rfl
  rw[h0,h5]
  simp
  grind
 by_cases h6:d.kind=6
 .have h0:zaQ d.kind=some (0,1099511627776,0,false):=by rw[h6];rfl
  rw[h0,h6]
  simp
  grind
 by_cases h7:d.kind=7
 .have h0:zaQ d.kind=some (0,1099511627776,0,false):=by rw[h7];rfl
  rw[h0,h7]
  simp
  grind
 by_cases h8:d.kind=8
 .have h0:zaQ d.kind=some (0,1099511627776,1099511627776,false):=by rw[h8];rfl
  rw[h0,h8]
  simp
  grind
 .have h0:zaQ d.kind=none:=by
   unfold zaQ
   simp[h101,h102,h1,h2,h9,h3,h4,h5,h6,h7,h8]
  rw[h0,if_pos (by omega)]
theorem d59 (d:Dc):W.pure 59 [d.av]=some (I (zmW d)):=by
 rw[zu Φ59 (by simp)]
 have c1:=d112 d.kind 1 9
 have c2:=d112 d.kind 4 8
 have c3:=e104 d.name
 have c4:=e104 d.name2
 have c5:=d112 d.a (-1099511627776) 1099511627776
 have c6:=d112 d.a 0 1099511627776
 have c7:=d112 d.b 0 1
 have c8:=d112 d.b 0 1099511627776
 simp[fi59,c59,zd,zc,zb,resV,rvVs,rvV,zw,c1,c2,c3,c4,c5,c6,c7,c8]
 unfold zmW
 clear c1 c2 c3 c4 c5 c6 c7 c8
 by_cases h:d.kind=101∨d.kind=102<;>simp only[h,if_true,if_false]<;>grind
end Go.Proofs.YtgamobngbenehaaGreatDoor
end
section
namespace Go.Proofs.YtgamobngbenehaaGreatDoor
open Go Go.RowKit
set_option linter.unusedVariables false
set_option linter.unusedSimpArgs false
set_option maxRecDepth 10000
def St.own (x:St):Nat:=1+x.cs.l.length+(x.exprs.l.map zK).sum+(x.cs.l.map fun c=>zK c.expr).sum
theorem Cs.costs_split:∀l:List Cs,Cs.costs l=l.length+(l.map fun c=>zK c.expr).sum+(l.map fun c=>St.costs c.body.l).sum
 | []=>by simp[Cs.costs]
 |c::r=>by
  simp only[Cs.costs,Cs.cost_eq,Cs.costs_split r,List.length_cons,List.map_cons,List.sum_cons];omega
mutual
theorem St.own_pre:∀x:St,(x.pre.map St.own).sum=x.cost
 | .mk a b c d e f g bl h i el j k cl=>by
  have h1:=St.own_pres bl
  have h2:=St.own_pres el
  have h3:=Cs.own_pres cl
  have h4:=Cs.costs_split cl
  simp only[St.pre,St.cost,List.map_cons,List.sum_cons,List.map_append,List.sum_append,h1,h2,h3]
  simp only[St.own,St.cs,St.exprs]
  omega
theorem St.own_pres:∀l:List St,((St.pres l).map St.own).sum=St.costs l
 | []=>by simp[St.pres,St.costs]
 |x::r=>by
  simp only[St.pres,St.costs,List.map_append,List.sum_append,St.own_pre x,St.own_pres r]
theorem Cs.own_pre:∀x:Cs,(x.pre.map St.own).sum=St.costs x.body.l
 | .mk a b e ns f g bl=>by
  simp only[Cs.pre,Cs.body,St.own_pres bl]
theorem Cs.own_pres:∀l:List Cs,((Cs.pres l).map St.own).sum=(l.map fun c=>St.costs c.body.l).sum
 | []=>by simp[Cs.pres]
 |x::r=>by
  simp only[Cs.pres,List.map_append,List.sum_append,List.map_cons,List.sum_cons,Cs.own_pre x,Cs.own_pres r]
end
end Go.Proofs.YtgamobngbenehaaGreatDoor
end
section
namespace Go.Proofs.YtgamobngbenehaaGreatDoor
open Go Go.RowKit
set_option linter.unusedVariables false
set_option linter.unusedSimpArgs false
set_option maxRecDepth 10000
set_option maxHeartbeats 2000000
theorem zfg {α:Type} {f:α→Nat} {l:List α} {a:α} (h:a∈l):f a≤(l.map f).sum:=by
 induction l with
 |nil=>cases h
 |cons b r ih=>
  simp only[List.map_cons,List.sum_cons]
  cases h with
  |head=>omega
  |tail _ h=>have:=ih h;omega
theorem zpm {l:List St} {x:St} (h:x∈St.pres l):x.cs.l.length≤St.costs l:=by
 have h1:=zfg (f:=St.own) h
 rw[St.own_pres]at h1
 unfold St.own at h1
 omega
section
attribute [local irreducible] okC okV
theorem d60 (p:Pr) (hf:p.fine) (hc:p.cost≤300):W.pure 60 [p.av]=some (I (zan p)):=by
 rw[zu Φ60 (by simp)]
 obtain⟨f1,f2,f3⟩:=hf
 have c1:=d112 p.kind 1 3
 have c2:=e104 p.name
 have c3:=d112 p.priority 0 9
 obtain⟨w,c4,c5⟩:=d114 (St.bigs p.body.l) p.body (Nat.le_refl _) f1 f2 hc
 have hL1:=zai (Φ:=Φ) (live:=[1,3]) (L:=zpR) p.params.l (σ:=Unit) (ρ:=Unit) (fun _ t _=>if (!zX t)=true then .inr () else .inl ())
  (fun k _ F G=>F=[(1,.optr 0 0 0 0),(3,I k)]∧G=[.arr 0 5 false [p.av]])
  (fun _ y F G=>y= .ret∧F.get 2=I 5)
  (fun _ y F G=>y= .exit 0∧F.keep [1]=[(1,.optr 0 0 0 0)]∧G=[.arr 0 5 false [p.av]]) (s:=()) (F:=[(1,.optr 0 0 0 0),(3,I 0)]) (H:=[.arr 0 5 false [p.av]]) ⟨rfl,rfl⟩ ?_ ?_
 .rw[zaX (fun t=> !zX t),zb8]at hL1
  obtain⟨y1,F1,H1,e1,e2⟩:=zh.1 hL1
  clear hL1
  have hL2:=zai (Φ:=Φ) (live:=[4,5]) (L:=zpS) w.l (σ:=Unit) (ρ:=Int) (fun _ x _=>if zL x≠0 then .inr (zL x) else .inl ())
   (fun k _ F G=>F=[(4,Sl.av St.av 8 w),(5,I k)])
   (fun r y F G=>y= .ret∧F.get 2=I r)
   (fun _ y F G=>y= .exit 2) (s:=()) (F:=[(4,Sl.av St.av 8 w),(5,I 0)]) (H:=[.arr 0 5 false [p.av]]) rfl ?_ ?_
  .rw[zb1,c5]at hL2
   obtain⟨y2,F2,H2,e3,e4⟩:=zh.1 hL2
   clear hL2
   unfold zan
   by_cases z1:p.kind<1∨3<p.kind
   .have z1':¬(1≤p.kind∧p.kind≤3):=by omega
    rw[if_pos z1]
    rw[decide_eq_false z1']at c1
    simp[fi60,c60,zd,zc,zb,resV,rvVs,rvV,c1]
   rw[if_neg z1]
   have z1':1≤p.kind∧p.kind≤3:=by omega
   rw[decide_eq_true z1']at c1
   cases z2:zX p.name with
   |false=>
    rw[z2]at c2
    simp[fi60,c60,zd,zc,zb,resV,rvVs,rvV,c1,c2]
   |true=>
   rw[z2]at c2
   rw[if_neg (by simp)]
   by_cases z3:8<p.params.l.length
   .have z3':(8:Int)<p.params.l.length:=by omega
    rw[if_pos z3]
    simp[fi60,c60,zd,zc,zb,resV,rvVs,rvV,c1,c2,z3']
   have z3':¬(8:Int)<p.params.l.length:=by omega
   rw[if_neg z3]
   cases z4:p.params.l.all zX with
   |false=>
    rw[z4]at e2
    obtain⟨rfl,e2⟩:y1= .ret∧F1.get 2=I 5:=e2
    simp[fi60,c60,zd,zc,zb,resV,rvVs,rvV,c1,c2,z3',e1,e2]
   |true=>
   rw[z4]at e2
   obtain⟨rfl,e2,rfl⟩:y1= .exit 0∧F1.keep [1]=[(1,.optr 0 0 0 0)]∧H1=[.arr 0 5 false [p.av]]:=e2
   rw[if_neg (by simp)]
   by_cases z5:(p.priority<0∨9<p.priority)∨¬p.kind=1∧¬p.priority=0
   .rw[if_pos z5]
    simp[fi60,c60,zd,zc,zb,resV,rvVs,rvV,c1,c2,c3,z3',e1,e2,z5]
   rw[if_neg z5]
   by_cases hz:zD zL (St.pres p.body.l)=0
   .rw[if_neg (by simpa using hz)]at e4
    have e4:y2= .exit 2:=e4
    subst e4
    simp[fi60,c60,zd,zc,zb,resV,rvVs,rvV,c1,c2,c3,c4,z3',e1,e2,z5,e3,hz]
   .rw[if_pos hz]at e4
    obtain⟨rfl,e4⟩:y2= .ret∧F2.get 2=I (zD zL (St.pres p.body.l)):=e4
    simp[fi60,c60,zd,zc,zb,resV,rvVs,rvV,c1,c2,c3,c4,z3',e1,e2,z5,e3,e4]
  .rintro k x ⟨⟩ F G hk hx rfl
   have hwl:w.l.length≤300:=by rw[c5];exact Nat.le_trans (St.presLe _) hc
   have hw:=zo (k:=k) (by omega)
   have d1:=d115 x (by
    have h1:=zpm (l:=p.body.l) (x:=x) (by rw[←c5];exact List.mem_of_getElem? hx)
    have h2:p.cost=St.costs p.body.l:=rfl
    omega)
   by_cases hz:zL x=0<;>simp[zlF,zod,zb,hk,hx,hw,d1,hz, -getElem?_pos,gEz]
  .rintro⟨⟩ F G rfl
   simp[zlF,zod,zb, -getElem?_pos,gEz]
 .rintro k t ⟨⟩ F G hk ht ⟨rfl,rfl⟩
  have hw:IntKind.wrap .i64 ((k:Int)+1)=(k:Int)+1:=by rw[zJ]<;>omega
  have d1:=e104 t
  cases hq:zX t<;>rw[hq]at d1<;>simp[zlE,zoc,zb,hk,ht,hw,d1, -getElem?_pos,gEz]
 .rintro⟨⟩ F G ⟨rfl,rfl⟩
  simp[zlE,zoc,zb, -getElem?_pos,gEz]
theorem d23 (s:So) (hf:s.fine):W.pure 23 [s.av]=some (I (zaz s)):=by
 rw[zu Φ23 (by simp)]
 obtain⟨f1,f2,f3⟩:=hf
 have c1:=d57 s f2 f3
 unfold zaz
 by_cases z1:(32<s.decls.l.length∨32<s.procs.l.length)∨300<(s.procs.l.map Pr.cost).sum
 .rw[if_pos z1]
  by_cases z2:(32:Int)<s.decls.l.length
  .simp[fi23,c23,zd,zc,zb,resV,rvVs,rvV,z2, -getElem?_pos,gEz]
  .by_cases z3:(32:Int)<s.procs.l.length
   .simp[fi23,c23,zd,zc,zb,resV,rvVs,rvV,z2,z3, -getElem?_pos,gEz]
   .have hm:min (s.procs.l.map Pr.cost).sum 301=301:=by omega
    rw[hm]at c1
    simp[fi23,c23,zd,zc,zb,resV,rvVs,rvV,z2,z3,c1, -getElem?_pos,gEz]
 rw[if_neg z1]
 have z2:¬(32:Int)<s.decls.l.length:=by omega
 have z3:¬(32:Int)<s.procs.l.length:=by omega
 have hm:min (s.procs.l.map Pr.cost).sum 301=(s.procs.l.map Pr.cost).sum:=by omega
 rw[hm]at c1
 have z4:¬(300:Int)<((s.procs.l.map Pr.cost).sum:Nat):=by omega
 have hcp:∀p∈s.procs.l,p.cost≤300:=fun p hp=>by have:=zfg (f:=Pr.cost) hp;omega
 have hl1:s.decls.l.length≤32:=by omega
 have hl2:s.procs.l.length≤32:=by omega
 generalize (s.procs.l.map Pr.cost).sum=T at *
 clear z1 hm
 have hL1:=zai (Φ:=Φ) (live:=[1,3]) (L:=zp1) s.procs.l (σ:=Unit) (ρ:=Unit) (fun _ p _=>if (fun p:Pr=>decide (12<St.deps p.body.l)) p=true then .inr () else .inl ())
  (fun k _ F G=>F=[(1,.optr 0 0 0 0),(3,I k)]∧G=[.arr 0 2 false [s.av]])
  (fun _ y F G=>y= .ret∧F.get 2=I 22)
  (fun _ y F G=>y= .exit 0∧F.keep [1]=[(1,.optr 0 0 0 0)]∧G=[.arr 0 2 false [s.av]]) (s:=()) (F:=[(1,.optr 0 0 0 0),(3,I 0)]) (H:=[.arr 0 2 false [s.av]]) ⟨rfl,rfl⟩ ?_ ?_
 .have hL2:=zai (Φ:=Φ) (live:=[1,4]) (L:=zp2) s.decls.l (σ:=Unit) (ρ:=Int) (fun _ d _=>if zE d≠0 then .inr (zE d) else .inl ())
   (fun k _ F G=>F=[(1,.optr 0 0 0 0),(4,I k)]∧G=[.arr 0 2 false [s.av]])
   (fun r y F G=>y= .ret∧F.get 2=I r)
   (fun _ y F G=>y= .exit 2∧F.keep [1]=[(1,.optr 0 0 0 0)]∧G=[.arr 0 2 false [s.av]]) (s:=()) (F:=[(1,.optr 0 0 0 0),(4,I 0)]) (H:=[.arr 0 2 false [s.av]]) ⟨rfl,rfl⟩ ?_ ?_
  .have hL3:=zai (Φ:=Φ) (live:=[1,6]) (L:=zp3) s.procs.l (σ:=Unit) (ρ:=Int) (fun _ p _=>if zan p≠0 then .inr (zan p) else .inl ())
    (fun k _ F G=>F=[(1,.optr 0 0 0 0),(6,I k)]∧G=[.arr 0 2 false [s.av]])
    (fun r y F G=>y= .ret∧F.get 2=I r)
    (fun _ y F G=>y= .exit 4) (s:=()) (F:=[(1,.optr 0 0 0 0),(6,I 0)]) (H:=[.arr 0 2 false [s.av]]) ⟨rfl,rfl⟩ ?_ ?_
   .rw[zaX]at hL1
    rw[zb1]at hL2 hL3
    obtain⟨y1,F1,H1,e1,e2⟩:=zh.1 hL1
    obtain⟨y2,F2,H2,e3,e4⟩:=zh.1 hL2
    obtain⟨y3,F3,H3,e5,e6⟩:=zh.1 hL3
    clear hL1 hL2 hL3
    cases z5:(s.procs.l.any fun p=>decide (12<St.deps p.body.l)) with
    |true=>
     rw[z5]at e2
     obtain⟨rfl,e2⟩:y1= .ret∧F1.get 2=I 22:=e2
     simp[fi23,c23,zd,zc,zb,resV,rvVs,rvV,z2,z3,z4,c1,e1,e2, -getElem?_pos,gEz]
    |false=>
    rw[z5]at e2
    obtain⟨rfl,e2,rfl⟩:y1= .exit 0∧F1.keep [1]=[(1,.optr 0 0 0 0)]∧H1=[.arr 0 2 false [s.av]]:=e2
    rw[if_neg (by simp)]
    by_cases z6:zD zE s.decls.l=0
    rotate_left
    .rw[if_pos z6]at e4⊢
     obtain⟨rfl,e4⟩:y2= .ret∧F2.get 2=I (zD zE s.decls.l):=e4
     simp[fi23,c23,zd,zc,zb,resV,rvVs,rvV,z2,z3,z4,c1,e1,e2,e3,e4, -getElem?_pos,gEz]
    rw[if_neg (by simpa using z6)]at e4⊢
    obtain⟨rfl,e4,rfl⟩:y2= .exit 2∧F2.keep [1]=[(1,.optr 0 0 0 0)]∧H2=[.arr 0 2 false [s.av]]:=e4
    by_cases z7:zD zan s.procs.l=0
    .rw[if_neg (by simpa using z7)]at e6
     have e6:y3= .exit 4:=e6
     subst e6
     simp[fi23,c23,zd,zc,zb,resV,rvVs,rvV,z2,z3,z4,c1,e1,e2,e3,e4,e5,z7, -getElem?_pos,gEz]
    .rw[if_pos z7]at e6
     obtain⟨rfl,e6⟩:y3= .ret∧F3.get 2=I (zD zan s.procs.l):=e6
     simp[fi23,c23,zd,zc,zb,resV,rvVs,rvV,z2,z3,z4,c1,e1,e2,e3,e4,e5,e6, -getElem?_pos,gEz]
   .rintro k p ⟨⟩ F G hk hp ⟨rfl,rfl⟩
    have hw:=zo (k:=k) (by omega)
    have hm:=List.mem_of_getElem? hp
    have d1:=d60 p (f3 p hm) (hcp p hm)
    by_cases hz:zan p=0<;>simp[zlN,zol,zb,hk,hp,hw,d1,hz, -getElem?_pos,gEz]
   .rintro⟨⟩ F G ⟨rfl,rfl⟩
    simp[zlN,zol,zb, -getElem?_pos,gEz]
  .rintro k d ⟨⟩ F G hk hd ⟨rfl,rfl⟩
   have hw:=zo (k:=k) (by omega)
   have d1:=d59 d
   rw[zmV]at d1
   by_cases hz:zE d=0<;>simp[zlM,zok,zb,hk,hd,hw,d1,hz, -getElem?_pos,gEz]
  .rintro⟨⟩ F G ⟨rfl,rfl⟩
   simp[zlM,zok,zb, -getElem?_pos,gEz]
 .rintro k p ⟨⟩ F G hk hp ⟨rfl,rfl⟩
  have hw:=zo (k:=k) (by omega)
  have hm:=List.mem_of_getElem? hp
  have d1:W.pure 58 [Sl.av St.av 8 p.body]=some (I (St.deps p.body.l:Nat)):=d58 (St.bigs p.body.l) p.body (Nat.le_refl _) (f3 p hm).1 (f3 p hm).2.1 (hcp p hm)
  by_cases hz:12<St.deps p.body.l
  .have hz':(12:Int)<St.deps p.body.l:=by omega
   rw[if_pos (show (fun p:Pr=>decide (12<St.deps p.body.l)) p=true from decide_eq_true hz)]
   simp[zhP,zmd,zb,hk,hp,hw,d1,hz', -getElem?_pos,gEz]
  .have hz':¬(12:Int)<St.deps p.body.l:=by omega
   rw[if_neg (show ¬(fun p:Pr=>decide (12<St.deps p.body.l)) p=true by simpa using hz)]
   simp[zhP,zmd,zb,hk,hp,hw,d1,hz', -getElem?_pos,gEz]
 .rintro⟨⟩ F G ⟨rfl,rfl⟩
  simp[zhP,zmd,zb, -getElem?_pos,gEz]
end
end Go.Proofs.YtgamobngbenehaaGreatDoor
end
section
namespace Go.Proofs.YtgamobngbenehaaGreatDoor
open Go Go.RowKit
set_option linter.unusedVariables false
set_option linter.unusedSimpArgs false
set_option maxRecDepth 10000
set_option maxHeartbeats 2000000
def zhn (s:So):Bool:=decide (40<s.decls.l.length∨40<s.procs.l.length)||s.procs.l.any fun p=>decide (12<p.params.l.length)
theorem zh3 {n:Nat}:∀{l:List Ex},(∀e∈l,e.size≤n)→Ex.sizes l≤n* l.length
 | [],_=>by simp[Ex.sizes]
 |e::r,h=>by
  have h1:=zh3 (l:=r) (fun x hx=>h x (by simp[hx]))
  have h2:=h e (by simp)
  simp only[Ex.sizes,List.length_cons,Nat.mul_add];omega
theorem zec {e:Ex} (h:zP e=true):e.size=1:=by
 unfold zP at h
 simp only[Bool.and_eq_true,decide_eq_true_eq]at h
 rw[Ex.size_eq,h.2]
 simp[Ex.sizes]
theorem ziu {e:Ex} (h:exI e=0):e.size≤100:=by
 unfold exI at h
 split at h
 .rename_i h1;exact zcO h1
 .rename_i h1;exact absurd h h1
theorem zox {x:St} (h:zL x=0):x.names.l.length≤2∧Ex.sizes x.exprs.l≤800∧∀c∈x.cs.l,c.names.l.length+c.expr.size≤200:=by
 rw[←zdF]at h
 unfold ziY at h
 split at h
 .rename_i h1;exact absurd h h1
 split at h
 .cases h
 rename_i h2
 have h2:zbv x=true:=by simpa using h2
 split at h
 .rename_i h1;exact absurd h h1
 obtain⟨f1,f2,f3,f4⟩:=zd0 h2
 unfold exsI at h
 split at h
 .rename_i h1;exact absurd h h1
 rename_i h3
 have h3:zD (stEx x.kind) x.exprs.l=0:=by simpa using h3
 split at h
 .rename_i h1;exact absurd h h1
 rename_i h4
 have h4:zD csEx x.cs.l=0:=by simpa using h4
 refine⟨f1,?_,fun c hc=>?_⟩
 .have h5:=zh3 (n:=100) (l:=x.exprs.l) (fun e he=>by
   have h6:=zaC.1 h3 e he
   unfold stEx at h6
   split at h6
   .rename_i h7;have:=zec h7.2;omega
   .exact ziu h6)
  omega
 .have h5:=f4 c hc
  have h6:=zaC.1 h4 c hc
  unfold csEx at h6
  split at h6
  .have:=ziu h6;omega
  .rename_i h7
   have h8:rBad c=false:=by
    unfold zbv at h2
    split at h2
    .cases h2
    .split at h2
     .have:=of_decide_eq_true h2
      rw[List.length_eq_zero_iff.1 this]at hc;cases hc
     .split at h2
      .cases h2
      .rename_i hb
       cases hbc:rBad c with
       |false=>rfl
       |true=>exact absurd (List.any_eq_true.2 ⟨c,hc,hbc⟩) hb
   have h9:zP c.expr=true:=by
    unfold rBad at h8
    cases hz:zP c.expr with
    |true=>rfl
    |false=>simp[h7,hz]at h8
   have:=zec h9
   omega
mutual
theorem St.big_cost:∀x:St,(∀y∈x.pre,zL y=0)→x.big≤1500* x.cost
 | .mk a b c d e f g bl h i el j k cl,hv=>by
  simp only[St.pre,List.mem_cons,List.mem_append]at hv
  have h1:=St.bigs_cost bl (fun y hy=>hv y (.inr (.inl hy)))
  have h2:=St.bigs_cost el (fun y hy=>hv y (.inr (.inr (.inl hy))))
  have h0:=zox (hv _ (.inl rfl))
  have h3:=Cs.bigs_cost cl h0.2.2 (fun y hy=>hv y (.inr (.inr (.inr hy))))
  have h4:=h0.1
  have h5:=h0.2.1
  simp only[St.names,St.exprs]at h4 h5
  simp only[St.big,St.cost,Nat.mul_add]
  omega
theorem St.bigs_cost:∀l:List St,(∀y∈St.pres l,zL y=0)→St.bigs l≤1500* St.costs l
 | [],_=>by simp[St.bigs]
 |x::r,hv=>by
  simp only[St.pres,List.mem_append]at hv
  have h1:=St.big_cost x (fun y hy=>hv y (.inl hy))
  have h2:=St.bigs_cost r (fun y hy=>hv y (.inr hy))
  simp only[St.bigs,St.costs,Nat.mul_add]
  omega
theorem Cs.big_cost:∀x:Cs,x.names.l.length+x.expr.size≤200→(∀y∈x.pre,zL y=0)→x.big≤1500* x.cost
 | .mk a b e ns f g bl,hn,hv=>by
  simp only[Cs.pre]at hv
  have h1:=St.bigs_cost bl hv
  simp only[Cs.names,Cs.expr]at hn
  simp only[Cs.big,Cs.cost,Nat.mul_add]
  omega
theorem Cs.bigs_cost:∀l:List Cs,(∀c∈l,c.names.l.length+c.expr.size≤200)→(∀y∈Cs.pres l,zL y=0)→Cs.bigs l≤1500* Cs.costs l
 | [],_,_=>by simp[Cs.bigs]
 |x::r,hn,hv=>by
  simp only[Cs.pres,List.mem_append]at hv
  have h1:=Cs.big_cost x (hn x (by simp)) (fun y hy=>hv y (.inl hy))
  have h2:=Cs.bigs_cost r (fun c hc=>hn c (by simp[hc])) (fun y hy=>hv y (.inr hy))
  simp only[Cs.bigs,Cs.costs,Nat.mul_add]
  omega
end
theorem zvh {p:Pr} (h:zan p=0):zD zL (St.pres p.body.l)=0∧p.params.l.length≤8:=by
 unfold zan at h
 split at h
 .cases h
 .split at h
  .cases h
  .split at h
   .cases h
   .split at h
    .cases h
    .split at h
     .cases h
     .exact⟨h,by omega⟩
section
attribute [local irreducible] okC okV
theorem d20 (s:So):W.pure 20 [s.av]=some (.bool (zhn s)):=by
 rw[zu Φ20 (by simp)]
 unfold zhn
 by_cases h1:(40:Int)<s.decls.l.length
 .have h1':40<s.decls.l.length:=by omega
  simp[fi20,c20,zd,zc,zb,resV,rvVs,rvV,h1,h1', -getElem?_pos,gEz]
 by_cases h2:(40:Int)<s.procs.l.length
 .have h2':40<s.procs.l.length:=by omega
  simp[fi20,c20,zd,zc,zb,resV,rvVs,rvV,h1,h2,h2', -getElem?_pos,gEz]
 have h1':¬40<s.decls.l.length:=by omega
 have h2':¬40<s.procs.l.length:=by omega
 have hL1:=zai (Φ:=Φ) (live:=[1,3]) (L:=zp6) s.procs.l (σ:=Unit) (ρ:=Unit) (fun _ p _=>if (fun p:Pr=>decide (12<p.params.l.length)) p=true then .inr () else .inl ())
  (fun k _ F G=>F=[(1,.optr 0 0 0 0),(3,I k)]∧G=[.arr 0 2 false [s.av]])
  (fun _ y F G=>y= .ret∧F.get 2= .bool true)
  (fun _ y F G=>y= .exit 0) (s:=()) (F:=[(1,.optr 0 0 0 0),(3,I 0)]) (H:=[.arr 0 2 false [s.av]]) ⟨rfl,rfl⟩ ?_ ?_
 .rw[zaX]at hL1
  obtain⟨y1,F1,H1,e1,e2⟩:=zh.1 hL1
  cases h3:s.procs.l.any fun p=>decide (12<p.params.l.length) with
  |true=>
   rw[h3]at e2
   obtain⟨rfl,e2⟩:y1= .ret∧F1.get 2= .bool true:=e2
   simp[fi20,c20,zd,zc,zb,resV,rvVs,rvV,h1,h1',h2,h2',e1,e2, -getElem?_pos,gEz]
  |false=>
   rw[h3]at e2
   have e2:y1= .exit 0:=e2
   subst e2
   simp[fi20,c20,zd,zc,zb,resV,rvVs,rvV,h1,h1',h2,h2',e1, -getElem?_pos,gEz]
 .rintro k p ⟨⟩ F G hk hp ⟨rfl,rfl⟩
  have hw:=zo (k:=k) (by omega)
  by_cases hz:12<p.params.l.length
  .have hz':(12:Int)<p.params.l.length:=by omega
   rw[if_pos (show (fun p:Pr=>decide (12<p.params.l.length)) p=true from decide_eq_true hz)]
   simp[zhS,zmg,zb,hk,hp,hw,hz', -getElem?_pos,gEz]
  .have hz':¬(12:Int)<p.params.l.length:=by omega
   rw[if_neg (show ¬(fun p:Pr=>decide (12<p.params.l.length)) p=true by simpa using hz)]
   simp[zhS,zmg,zb,hk,hp,hw,hz', -getElem?_pos,gEz]
 .rintro⟨⟩ F G ⟨rfl,rfl⟩
  simp[zhS,zmg,zb, -getElem?_pos,gEz]
end
end Go.Proofs.YtgamobngbenehaaGreatDoor
end
section
namespace Go.Proofs.YtgamobngbenehaaGreatDoor
open Go Go.RowKit
set_option linter.unusedVariables false
set_option linter.unusedSimpArgs false
set_option maxRecDepth 10000
set_option maxHeartbeats 4000000
theorem Kept.own {H0 G G':Heap} {id:Nat} (h:Kept none H0 G) (h':Kept (some id) G G') (hid:H0.length≤id):Kept none H0 G':=
 ⟨Nat.le_trans h.1 h'.1,fun j _ hj=>by rw[h'.2 j (by simp;omega) (by have:=h.1;omega),h.2 j (by simp) hj]⟩
def cl25 (c:Nat):AV:= .clo 25 [] [.optr c 0 0 0]
def zmu (body:Sl St):Prop:=∀(l:Sl St) (tail:List St) (c:Nat) (H:Heap),l.l=St.pres body.l++tail→l.l.length≤1000→H[c]?=some (.arr 0 1 false [cl25 c])→
 okV (W.call (cl25 c) [Sl.av St.av 8 l,Sl.av St.av 8 body] H) (fun v H'=>Kept none H H'∧∃l':Sl St,v= .tuple [Sl.av St.av 8 l',.bool true]∧l'.l=tail)
def blk (b:Sl St):AV:=Sl.av St.av 8 b
section
attribute [local irreducible] okC okV
theorem zni (B:Sl St) (k c id:Nat) (v:AV) (H0:Heap) (h0:H0[c]?=some (.arr 0 1 false [cl25 c])) (hid:H0.length≤id) (bs:List (Sl St)) (hbl:bs.length≤1000) (ih:∀b∈bs,zmu b):
  ∀(r:List (Sl St)) (j:Nat) (l:Sl St) (tail:List St) (G:Heap),bs.drop j=r→j≤bs.length→l.l=(r.flatMap fun b=>St.pres b.l)++tail→l.l.length≤1000→Kept none H0 G→Grow G 1 (some id) v (bs.map blk)→
  okC (W.loop [0,2,16,17,18,53,54,55] zp0 [(0,Sl.av St.av 8 l),(2,.optr c 0 0 0),(16,Sl.av St.av 8 B),(17,I B.l.length),(18,I k),(53,v),(54,I bs.length),(55,I j)] G)
   (fun y F G'=>y= .exit 4∧Kept none H0 G'∧∃l':Sl St,F.keep [0,2,16,17,18]=[(0,Sl.av St.av 8 l'),(2,.optr c 0 0 0),(16,Sl.av St.av 8 B),(17,I B.l.length),(18,I k)]∧l'.l=tail):=by
 intro r
 induction r with
 |nil=>
  intro j l tail G h1 h2 h3 h4 h5 h6
  have hj:=zj h1 h2
  have hgo:=h6.okO
  have hgc:=h6.cells
  rw[zk]
  simp[zlL,zoj,zb,hj,hgo,hgc, -getElem?_pos,gEz]
  exact⟨h5,l,rfl,by simpa using h3⟩
 |cons b r ihr=>
  intro j l tail G h1 h2 h3 h4 h5 h6
  obtain⟨hlt,hb,hr⟩:=zq h1
  have hlt':(j:Int)<bs.length:=by omega
  have hw:=zo (k:=j) (by omega)
  have hgo:=h6.okO
  have hgc:=h6.cells
  have hc:=h5.get (by simp) h0
  obtain⟨a,b1,b2,b3⟩:=h6.at (k:=j) (x:=blk b) (by rw[List.getElem?_map,hb];rfl)
  obtain⟨w,G1,c1,c2,l',rfl,c3⟩:=zz.1 (ih b (zF h1) l ((r.flatMap fun b=>St.pres b.l)++tail) c G (by rw[h3,List.flatMap_cons,List.append_assoc]) h4 hc)
  have hll:l'.l.length≤1000:=by
   rw[c3];rw[h3,List.flatMap_cons,List.append_assoc,List.length_append]at h4;omega
  have hJ:=ihr (j+1) l' tail G1 hr (by omega) c3 hll (h5.trans c2) (h6.kept c2 (by simp))
  simp only[Int.natCast_add,Int.cast_ofNat_Int]at hJ
  obtain⟨y,F',H',g1,g2,g3,l2,g4,g5⟩:=zh.1 hJ
  simp only[blk,cl25]at b3 c1 hc
  rw[zk]
  simp[zlL,zoj,zb,hlt,hw,hgo,hgc,b1,b2,b3,hc,c1,g1,g2, -getElem?_pos,gEz]
  exact⟨g3,l2,by simpa using g4,g5⟩
theorem znh (l B:Sl St) (k c id:Nat) (H0:Heap) (hid:H0.length≤id) (x:St) (hcl:x.cs.l.length≤500):
  ∀(r:List Cs) (j:Nat) (v:AV) (G:Heap),x.cs.l.drop j=r→j≤x.cs.l.length→Kept none H0 G→Grow G 1 (some id) v ((x.body::x.els::(x.cs.l.take j).map Cs.body).map blk)→
  okC (W.loop [0,2,9,16,17,18,39,40,41] zpZ [(0,Sl.av St.av 8 l),(2,.optr c 0 0 0),(9,v),(16,Sl.av St.av 8 B),(17,I B.l.length),(18,I k),(39,Sl.av Cs.av 9 x.cs),(40,I x.cs.l.length),(41,I j)] G)
   (fun y F G'=>y= .exit 2∧Kept none H0 G'∧∃v',F.keep [0,2,9,16,17,18]=[(0,Sl.av St.av 8 l),(2,.optr c 0 0 0),(9,v'),(16,Sl.av St.av 8 B),(17,I B.l.length),(18,I k)]∧Grow G' 1 (some id) v' ((x.body::x.els::x.cs.l.map Cs.body).map blk)):=by
 intro r
 induction r with
 |nil=>
  intro j v G h1 h2 h5 h6
  have hj:=zj h1 h2
  have hgo:=h6.okO
  have hgc:=h6.cells
  have ht:x.cs.l.take j=x.cs.l:=by rw[←hj];exact List.take_length
  rw[ht]at h6
  rw[zk]
  simp[zlK,zoi,zb,hj,hgo,hgc, -getElem?_pos,gEz]
  exact⟨h5,by simpa using h6⟩
 |cons b r ihr=>
  intro j v G h1 h2 h5 h6
  obtain⟨hlt,hb,hr⟩:=zq h1
  have hlt':(j:Int)<x.cs.l.length:=by omega
  have hw:=zo (k:=j) (by omega)
  have htk:x.cs.l.take (j+1)=x.cs.l.take j++[b]:=by rw[List.take_add_one,hb];rfl
  have hgl:id<G.length:=by
   obtain⟨ver,t,e1,e2⟩:=h6
   exact (gEs.1 e2).1
  have h6':∀C,Grow (G++[C]) 1 (some id) v ((x.body::x.els::(x.cs.l.take j).map Cs.body).map blk):=fun C=>h6.kept (Kept.append none _ _) (by simp)
  have hlast:∀C,(G++[C])[G.length]?=some C:=ze _
  have hset:∀C D,((G++[C]).set G.length D)=G++[D]:=fun C D=>by simp
  obtain⟨o1,v1,G1,a1,a2,a3,a4,a5⟩:=(h6' (.arr 0 9 false [b.av])).app (y:= .isl (some false) 1 [blk b.body]) (xs:=[blk b.body]) (by simp[blk]) (by simp[blk]) (by simp only[List.length_map,List.length_cons,List.length_take,List.length_nil,zN];omega)
  have ho:o1=some id:=by
   rcases a4 with rfl|⟨h,_⟩
   .rfl
   .cases h
  subst ho
  have hg2:Grow G1 1 (some id) v1 ((x.body::x.els::(x.cs.l.take (j+1)).map Cs.body).map blk):=by
   rw[htk];simpa using a2
  have hk2:Kept none H0 G1:=(h5.trans (Kept.append none _ _)).own a3 hid
  have hJ:=ihr (j+1) v1 G1 hr (by omega) hk2 hg2
  simp only[Int.natCast_add,Int.cast_ofNat_Int]at hJ
  obtain⟨y,F',H',g1,g2,g3,v2,g4,g5⟩:=zh.1 hJ
  have hgo:=h6.okO
  have hgc:=h6.cells
  have a2o:=a2.okO
  have a2c:=a2.cells
  simp only[blk]at a1
  rw[zk]
  simp[zlK,zoi,zb,hlt,hb,hw,hgo,hgc,hlast,hset,a1,a2o,a2c,g1,g2, -getElem?_pos,gEz]
  exact⟨g3,v2,by simpa using g4,by simpa using g5⟩
theorem Cs.pres_flat:∀l:List Cs,Cs.pres l=(l.map Cs.body).flatMap fun b=>St.pres b.l
 | []=>rfl
 |c::r=>by simp only[Cs.pres,Cs.pre_eq,Cs.pres_flat r,List.map_cons,List.flatMap_cons]
theorem zpc (l:Sl St) (h:1≤l.l.length) (H:Heap):slcV H false 8 false true (Sl.av St.av 8 l) [I 1]=Sl.av St.av 8 (l.part 8 0 1):=by
 have hc:(0:Int)≤1∧(1:Int)≤l.l.length:=by omega
 rw[zjN,zpe,if_pos hc,zfX];exact zjO 0 1 h
theorem zjL (l:Sl St) (h:1≤l.l.length) (H:Heap):slcV H false 8 true false (Sl.av St.av 8 l) [I 1]=Sl.av St.av 8 (l.part 8 1 l.l.length):=by
 have hc:(0:Int)≤1∧(1:Int)≤l.l.length:=by omega
 rw[zjN,zpd,if_pos hc,zfX];exact zjO 1 l.l.length (Nat.le_refl _)
theorem zif (x:Sl St):(x.part 8 0 1).l=x.l.take 1:=by simp[Sl.part]
theorem zeH (x:Sl St):(x.part 8 1 x.l.length).l=x.l.drop 1:=by simp[Sl.part]
theorem zph:∀(n:Nat) (body:Sl St),St.bigs body.l≤n→St.fines body.l→body.l.length≤9223372036854775807→(∀y∈St.pres body.l,zL y=0)→St.costs body.l≤300→zmu body:=by
 intro n
 induction n using Nat.strongRecOn with
 |ind n ihn=>
  intro body hn hf hbl hv hcost l0 tail0 c H0 hl0 hll0 h0
  unfold cl25
  rw[zac Φ25]
  have hL:∀(r:List St) (k:Nat) (l:Sl St) (G:Heap),body.l.drop k=r→k≤body.l.length→l.l=St.pres r++tail0→l.l.length≤1000→Kept none H0 G→
    okC (W.loop [0,2,16,17,18] zpY [(0,Sl.av St.av 8 l),(2,.optr c 0 0 0),(16,Sl.av St.av 8 body),(17,I body.l.length),(18,I k)] G)
     (fun y F G'=>y= .exit 0∧Kept none H0 G'∧∃l':Sl St,F.keep [0]=[(0,Sl.av St.av 8 l')]∧l'.l=tail0):=by
   intro r
   induction r with
   |nil=>
    intro k l G h1 h2 h3 h4 h5
    have hj:=zj h1 h2
    rw[zk]
    simp[zlJ,zoh,zb,hj, -getElem?_pos,gEz]
    exact⟨h5,l,rfl,by simpa[St.pres]using h3⟩
   |cons x r ihr=>
    intro k l G h1 h2 h3 h4 h5
    obtain⟨hlt,hx,hr⟩:=zq h1
    have hlt':(k:Int)<body.l.length:=by omega
    have hw:IntKind.wrap .i64 ((k:Int)+1)=(k:Int)+1:=by rw[zJ]<;>omega
    have hmem:x∈body.l:=List.mem_of_getElem? hx
    have hfx:=St.fines_mem hf hmem
    rw[St.fine_eq]at hfx
    have hbig:=St.bigs_mem hmem
    have hxc:=St.costs_mem hmem
    have hvx:∀y∈x.pre,zL y=0:=by
     intro y hy
     refine hv y ?_
     generalize body.l=L at hmem
     induction L with
     |nil=>cases hmem
     |cons a r ih=>
      simp only[St.pres,List.mem_append]
      cases hmem with
      |head=>exact .inl hy
      |tail _ hx=>exact .inr (ih hx)
    have hone:St.eqvs [x] [x]=true:=zm5 _ [x] (Nat.le_refl _) (fun y hy=>hvx y (by simpa[St.pres]using hy))
    have hb1:=St.big_cost x hvx
    have hxe:=St.cost_eq x
    have hcs:=Cs.costs_split x.cs.l
    have hpre:=St.pre_eq x
    have hl3:l.l=x::((St.pres x.body.l++(St.pres x.els.l++Cs.pres x.cs.l))++(St.pres r++tail0)):=by
     rw[h3];simp only[St.pres,hpre];simp
    have hpos:1≤l.l.length:=by rw[hl3];simp
    have hnil:¬l.l=[]:=by rw[hl3];simp
    have c1:=e31 (St.bigs [x]) (l.part 8 0 1) (by rw[zif,hl3];exact Nat.le_refl _) (by simp only[St.bigs];omega) (ofL 8 [x])
    have hlit:Sl.av St.av 8 (ofL 8 [x])= .isl (some false) 8 [x.av]:=rfl
    rw[zif,hl3,show (ofL 8 [x]).l=[x] from rfl,List.take_succ_cons,List.take_zero,hone,hlit]at c1
    have s1:=zpc l hpos
    have s2:=zjL l hpos
    have hbs:∀b∈x.body::x.els::x.cs.l.map Cs.body,zmu b:=by
     intro b hb
     rw[St.big_eq]at hbig
     rw[hpre]at hvx
     rcases List.mem_cons.1 hb with rfl|hb
     .exact ihn (St.bigs x.body.l) (by omega) x.body (Nat.le_refl _) hfx.2.2.2.2.2.1 hfx.2.2.1 (fun y hy=>hvx y (by simp[hy])) (by omega)
     .rcases List.mem_cons.1 hb with rfl|hb
      .exact ihn (St.bigs x.els.l) (by omega) x.els (Nat.le_refl _) hfx.2.2.2.2.2.2.1 hfx.2.2.2.1 (fun y hy=>hvx y (by simp[hy])) (by omega)
      .obtain⟨c',hc',rfl⟩:=List.mem_map.1 hb
       have q1:=Cs.bigs_mem hc'
       rw[Cs.big_eq]at q1
       have q2:=Cs.fines_mem hfx.2.2.2.2.2.2.2 hc'
       rw[Cs.fine_eq]at q2
       have q3:=Cs.costs_mem hc'
       rw[Cs.cost_eq]at q3
       exact ihn (St.bigs c'.body.l) (by omega) c'.body (Nat.le_refl _) q2.2.2 q2.2.1 (fun y hy=>hvx y (by
        simp only[List.mem_cons,List.mem_append]
        refine .inr (.inr (.inr ?_))
        rw[Cs.pres_flat]
        exact List.mem_flatMap.2 ⟨c'.body,List.mem_map.2 ⟨c',hc',rfl⟩,hy⟩)) (by omega)
    have hc:=h5.get (by simp) h0
    have k2:Kept none H0 (G++[Blk.arr 0 8 false [x.av],Blk.arr 0 1 false [blk x.body,blk x.els]]):=h5.trans (Kept.append _ _ _)
    have hgl:=h5.1
    obtain⟨y1,F1,G1,f1,rfl,f2,v1,f3,f4⟩:=zh.1 (znh l body k c (G.length+1) H0 (by omega) x (by omega) x.cs.l 0 (.osl (G.length+1) 0 0 2) _ rfl (by omega) k2 (zd6 (l:=[blk x.body,blk x.els]) (by simp)))
    have hfm:(x.body::x.els::x.cs.l.map Cs.body).flatMap (fun b=>St.pres b.l)=St.pres x.body.l++(St.pres x.els.l++Cs.pres x.cs.l):=by
     simp only[List.flatMap_cons,Cs.pres_flat]
    have hl1:(l.part 8 1 l.l.length).l=((x.body::x.els::x.cs.l.map Cs.body).flatMap fun b=>St.pres b.l)++(St.pres r++tail0):=by
     rw[zeH,hl3,hfm];simp
    obtain⟨y2,F2,G2,f5,rfl,f6,l2,f7,f8⟩:=zh.1 (zni body k c (G.length+1) v1 H0 h0 (by omega) (x.body::x.els::x.cs.l.map Cs.body) (by simp;omega) hbs (x.body::x.els::x.cs.l.map Cs.body) 0 (l.part 8 1 l.l.length) (St.pres r++tail0) G1 rfl (by omega) hl1 (by rw[zeH,List.length_drop];omega) f2 f4)
    have hl2:l2.l.length≤1000:=by
     rw[f8];rw[hl3]at h4;simp only[List.length_cons,List.length_append]at h4⊢;omega
    have hJ:=ihr (k+1) l2 G2 hr (by omega) f8 hl2 f6
    simp only[Int.natCast_add,Int.cast_ofNat_Int]at hJ
    obtain⟨y,F',H',g1,rfl,g2,l3,g3,g4⟩:=zh.1 hJ
    have f4o:=f4.okO
    have f4c:=f4.cells
    have f4l:=f4.len
    rw[List.length_map]at f4l
    simp only[Int.natCast_zero]at f1 f5
    simp only[blk]at f1
    have a1:∀B,(G++[B])[G.length]?=some B:=ze _
    have a2:∀B C,((G++[B]).set G.length C)=G++[C]:=fun B C=>by simp
    have a3:∀B C,(G++[B,C])[G.length]?=some B:=fun B C=>by simp
    generalize hbl2:(x.body::x.els::x.cs.l.map Cs.body).length=nb at *
    rw[zk]
    simp[zlJ,zoh,zb,hlt,hx,hw,hnil,a1,a2,a3,s1,s2,c1,f1,f3,f4o,f4c,f4l,f5,f7,g1, -zjN, -getElem?_pos,gEz]
    exact⟨g2,l3,by simpa using g3,g4⟩
  obtain⟨y,F,G,g1,rfl,g2,l',g3,g4⟩:=zh.1 (hL body.l 0 l0 H0 rfl (by omega) hl0 hll0 (Kept.refl _ _))
  simp only[Int.natCast_zero]at g1
  simp[fi25,c25,zd,zc,zb,resV,rvVs,rvV,g1,g3]
  exact⟨g2,l',rfl,g4⟩
end
end Go.Proofs.YtgamobngbenehaaGreatDoor
end
section
namespace Go.Proofs.YtgamobngbenehaaGreatDoor
open Go Go.RowKit
set_option linter.unusedVariables false
set_option linter.unusedSimpArgs false
set_option maxRecDepth 10000
set_option maxHeartbeats 4000000
def exSz (e:Ex):Nat:=if e.kind=0 then 0 else min e.size 101
theorem zly (e:Ex):exSz e≤101:=by unfold exSz;split<;>omega
theorem zn0 {e:Ex} (h:exI e=0):e.kind≠0∧zP e=false:=by
 have h1:zM e=0:=by
  unfold exI at h
  split at h
  .assumption
  .rename_i h1;exact absurd h h1
 have h2:zV e=0:=by
  unfold zM at h1
  split at h1
  .cases h1
  .split at h1
   .cases h1
   .exact zaC.1 h1 e (by rw[Ex.parts_eq];simp)
 have h3:e.kind≠0:=by
  intro h4
  unfold zV at h2
  rw[if_pos (by omega)]at h2
  cases h2
 refine⟨h3,?_⟩
 cases hz:zP e with
 |false=>rfl
 |true=>
  unfold zP at hz
  simp only[Bool.and_eq_true,decide_eq_true_eq]at hz
  exact absurd hz.1.1.1.1 h3
theorem zgF {e:Ex} (h:zP e=true):exSz e=zK e:=by
 unfold exSz zK
 rw[if_pos h,if_pos]
 unfold zP at h
 simp only[Bool.and_eq_true,decide_eq_true_eq]at h
 exact h.1.1.1.1
theorem zit {e:Ex} (h:exI e=0):exSz e=zK e:=by
 obtain⟨h1,h2⟩:=zn0 h
 unfold exSz zK
 rw[if_neg h1,h2];rfl
theorem zuZ {x:St} (h:zL x=0):(∀e∈x.exprs.l,exSz e=zK e)∧∀c∈x.cs.l,exSz c.expr=zK c.expr:=by
 rw[←zdF]at h
 unfold ziY at h
 split at h
 .rename_i h1;exact absurd h h1
 split at h
 .cases h
 rename_i h2
 have h2:zbv x=true:=by simpa using h2
 split at h
 .rename_i h1;exact absurd h h1
 unfold exsI at h
 split at h
 .rename_i h1;exact absurd h h1
 rename_i h3
 have h3:zD (stEx x.kind) x.exprs.l=0:=by simpa using h3
 split at h
 .rename_i h1;exact absurd h h1
 rename_i h4
 have h4:zD csEx x.cs.l=0:=by simpa using h4
 refine⟨fun e he=>?_,fun c hc=>?_⟩
 .have h6:=zaC.1 h3 e he
  unfold stEx at h6
  split at h6
  .rename_i h7;exact zgF h7.2
  .exact zit h6
 .have h6:=zaC.1 h4 c hc
  unfold csEx at h6
  split at h6
  .exact zit h6
  .rename_i h7
   have h8:rBad c=false:=by
    unfold zbv at h2
    split at h2
    .cases h2
    .split at h2
     .have:=of_decide_eq_true h2
      rw[List.length_eq_zero_iff.1 this]at hc;cases hc
     .split at h2
      .cases h2
      .rename_i hb
       cases hbc:rBad c with
       |false=>rfl
       |true=>exact absurd (List.any_eq_true.2 ⟨c,hc,hbc⟩) hb
   refine zgF ?_
   unfold rBad at h8
   cases hz:zP c.expr with
   |true=>rfl
   |false=>simp[h7,hz]at h8
theorem zlv {x:St} (h:zL x=0):x.exprs.l.length≤8:=by
 rw[←zdF]at h
 unfold ziY at h
 split at h
 .rename_i h1;exact absurd h h1
 split at h
 .cases h
 rename_i h2
 have h2:zbv x=true:=by simpa using h2
 exact (zd0 h2).2.1
def St.seen (x:St):Nat:=1+x.cs.l.length+(x.exprs.l.map exSz).sum+(x.cs.l.map fun c=>exSz c.expr).sum
theorem zbE {α:Type} {f g:α→Nat} {l:List α} (h:∀a∈l,f a=g a):(l.map f).sum=(l.map g).sum:=by
 rw[List.map_congr_left h]
theorem St.seen_own {x:St} (h:zL x=0):x.seen=x.own:=by
 obtain⟨h1,h2⟩:=zuZ h
 unfold St.seen St.own
 rw[zbE h1,zbE h2]
theorem zhZ (c:Cs):zm false 1 (c.av.cells.drop 2)=I c.expr.kind:=by simp only[Cs.av_eq];rfl
section
attribute [local irreducible] okC okV
theorem zpr (x:St) (b:Nat) (a1 a26 a27 a28 a55 a56 a57:AV) (hl:x.exprs.l.length≤100000):∀(r:List Ex) (j n:Nat) (G:Heap),x.exprs.l.drop j=r→j≤x.exprs.l.length→n+(r.map exSz).sum≤1000000→
  okC (W.loop [1,3,12,26,27,28,55,56,57,68,69,70] l7_1 [(1,a1),(3,I n),(12,.optr b 0 0 0),(26,a26),(27,a27),(28,a28),(55,a55),(56,a56),(57,a57),(68,Sl.av Ex.av 5 x.exprs),(69,I x.exprs.l.length),(70,I j)] G)
   (fun y F G'=>y= .exit 4∧Kept none G G'∧F.keep [1,3,12,26,27,28,55,56,57]=[(1,a1),(3,I (n+(r.map exSz).sum:Nat)),(12,.optr b 0 0 0),(26,a26),(27,a27),(28,a28),(55,a55),(56,a56),(57,a57)]):=by
 intro r
 induction r with
 |nil=>
  intro j n G h1 h2 h3
  have hj:=zj h1 h2
  rw[zk]
  simp[zlB,b7_1,zb,hj, -getElem?_pos,gEz]
  exact Kept.refl _ _
 |cons e r ih=>
  intro j n G h1 h2 h3
  obtain⟨hlt,he,hr⟩:=zq h1
  have hlt':(j:Int)<x.exprs.l.length:=by omega
  have hw:=zo (k:=j) (by omega)
  have d1:=e150 e
  have hle:=zly e
  simp only[List.map_cons,List.sum_cons]at h3⊢
  have hlast:∀C,(G++[C])[G.length]?=some C:=ze _
  have hset:∀C D,((G++[C]).set G.length D)=G++[D]:=fun C D=>by simp
  have hJ:=ih (j+1) (n+exSz e) (G++[.arr 0 5 false [e.av]]) hr (by omega) (by omega)
  rw[Nat.add_assoc]at hJ
  have hb0:n+exSz e≤1000000:=by omega
  generalize n+(exSz e+(r.map exSz).sum)=m at *
  by_cases hz:e.kind=0
  .have hz0:exSz e=0:=by unfold exSz;rw[if_pos hz]
   rw[hz0]at hJ
   simp only[Int.natCast_add,Int.cast_ofNat_Int,Nat.add_zero]at hJ
   obtain⟨y,F',H',g1,rfl,g2,g3⟩:=zh.1 hJ
   rw[zk]
   simp[zlB,b7_1,zb,hlt,he,hw,hz,hlast,hset,g1, -getElem?_pos,gEz]
   exact⟨(Kept.append _ _ _).trans g2,by simpa using g3⟩
  .have hz0:exSz e=min e.size 101:=by unfold exSz;rw[if_neg hz]
   rw[hz0]at hJ hb0
   generalize min e.size 101=q at *
   have hwa:IntKind.wrap .i64 ((n:Int)+(q:Int))=(n:Int)+q:=by rw[zJ]<;>omega
   simp only[Int.natCast_add,Int.cast_ofNat_Int]at hJ
   obtain⟨y,F',H',g1,rfl,g2,g3⟩:=zh.1 hJ
   rw[zk]
   simp[zlB,b7_1,zb,hlt,he,hw,hz,hlast,hset,d1,hwa,g1, -getElem?_pos,gEz]
   exact⟨(Kept.append _ _ _).trans g2,by simpa using g3⟩
theorem zps (x:St) (a1 a26 a27 a28 a55 a56 a57:AV) (hl:x.cs.l.length≤100000):∀(r:List Cs) (j n:Nat) (G:Heap),x.cs.l.drop j=r→j≤x.cs.l.length→n+(r.map fun c=>exSz c.expr).sum≤1000000→
  okC (W.loop [1,3,26,27,28,55,56,57,83,84,85] l7_0 [(1,a1),(3,I n),(26,a26),(27,a27),(28,a28),(55,a55),(56,a56),(57,a57),(83,Sl.av Cs.av 9 x.cs),(84,I x.cs.l.length),(85,I j)] G)
   (fun y F G'=>y= .exit 6∧Kept none G G'∧F.keep [1,3,26,27,28,55,56,57]=[(1,a1),(3,I (n+(r.map fun c=>exSz c.expr).sum:Nat)),(26,a26),(27,a27),(28,a28),(55,a55),(56,a56),(57,a57)]):=by
 intro r
 induction r with
 |nil=>
  intro j n G h1 h2 h3
  have hj:=zj h1 h2
  rw[zk]
  simp[zlC,b7_0,zb,hj, -getElem?_pos,gEz]
  exact Kept.refl _ _
 |cons c r ih=>
  intro j n G h1 h2 h3
  obtain⟨hlt,he,hr⟩:=zq h1
  have hlt':(j:Int)<x.cs.l.length:=by omega
  have hw:=zo (k:=j) (by omega)
  have d1:=e150 c.expr
  have hle:=zly c.expr
  simp only[List.map_cons,List.sum_cons]at h3⊢
  have hlast:∀C,(G++[C])[G.length]?=some C:=ze _
  have hset:∀C D,((G++[C]).set G.length D)=G++[D]:=fun C D=>by simp
  have hJ:=ih (j+1) (n+exSz c.expr) (G++[.arr 0 9 false [c.av]]) hr (by omega) (by omega)
  rw[Nat.add_assoc]at hJ
  have hb0:n+exSz c.expr≤1000000:=by omega
  have hck:=zhZ c
  generalize n+(exSz c.expr+(r.map fun c=>exSz c.expr).sum)=m at *
  by_cases hz:c.expr.kind=0
  .have hz0:exSz c.expr=0:=by unfold exSz;rw[if_pos hz]
   rw[hz0]at hJ
   simp only[Int.natCast_add,Int.cast_ofNat_Int,Nat.add_zero]at hJ
   obtain⟨y,F',H',g1,rfl,g2,g3⟩:=zh.1 hJ
   rw[zk]
   simp[zlC,b7_0,zb,hlt,he,hw,hz,hck,hlast,hset,g1, -getElem?_pos,gEz]
   exact⟨(Kept.append _ _ _).trans g2,by simpa using g3⟩
  .have hz0:exSz c.expr=min c.expr.size 101:=by unfold exSz;rw[if_neg hz]
   rw[hz0]at hJ hb0
   generalize min c.expr.size 101=q at *
   have hwa:IntKind.wrap .i64 ((n:Int)+(q:Int))=(n:Int)+q:=by rw[zJ]<;>omega
   simp only[Int.natCast_add,Int.cast_ofNat_Int]at hJ
   obtain⟨y,F',H',g1,rfl,g2,g3⟩:=zh.1 hJ
   rw[zk]
   simp[zlC,b7_0,zb,hlt,he,hw,hz,hck,hlast,hset,d1,hwa,g1, -getElem?_pos,gEz]
   exact⟨(Kept.append _ _ _).trans g2,by simpa using g3⟩
theorem zpq (L:Sl St) (a1 a26 a27 a28:AV) (hL:L.l.length≤100000) (hx:∀x∈L.l,x.exprs.l.length≤100000∧x.cs.l.length≤100000):∀(r:List St) (j n:Nat) (G:Heap),L.l.drop j=r→j≤L.l.length→n+(r.map St.seen).sum≤1000000→
  okC (W.loop [1,3,26,27,28,55,56,57] l7_2 [(1,a1),(3,I n),(26,a26),(27,a27),(28,a28),(55,Sl.av St.av 8 L),(56,I L.l.length),(57,I j)] G)
   (fun y F G'=>y= .exit 2∧Kept none G G'∧F.keep [1,3,26,27,28]=[(1,a1),(3,I (n+(r.map St.seen).sum:Nat)),(26,a26),(27,a27),(28,a28)]):=by
 intro r
 induction r with
 |nil=>
  intro j n G h1 h2 h3
  have hj:=zj h1 h2
  rw[zk]
  simp[zoQ,b7_2,zb,hj, -getElem?_pos,gEz]
  exact Kept.refl _ _
 |cons x r ih=>
  intro j n G h1 h2 h3
  obtain⟨hlt,he,hr⟩:=zq h1
  have hlt':(j:Int)<L.l.length:=by omega
  have hw:=zo (k:=j) (by omega)
  obtain⟨x1,x2⟩:=hx x (zF h1)
  have hseen:x.seen=1+x.cs.l.length+(x.exprs.l.map exSz).sum+(x.cs.l.map fun c=>exSz c.expr).sum:=rfl
  simp only[List.map_cons,List.sum_cons]at h3⊢
  have hlast:∀C,(G++[C])[G.length]?=some C:=ze _
  have hset:∀C D,((G++[C]).set G.length D)=G++[D]:=fun C D=>by simp
  have k0:Kept none G (G++[.arr 0 8 false [x.av]]):=Kept.append _ _ _
  obtain⟨y1,F1,G1,c1,rfl,c2,c3⟩:=zh.1 (zpr x G.length a1 a26 a27 a28 (Sl.av St.av 8 L) (I L.l.length) (I j) x1 x.exprs.l 0 (n+(1+x.cs.l.length)) (G++[.arr 0 8 false [x.av]]) rfl (by omega) (by omega))
  have c4:G1[G.length]?=some (.arr 0 8 false [x.av]):=c2.get (by simp) (hlast _)
  obtain⟨y2,F2,G2,f1,rfl,f2,f3⟩:=zh.1 (zps x a1 a26 a27 a28 (Sl.av St.av 8 L) (I L.l.length) (I j) x2 x.cs.l 0 (n+(1+x.cs.l.length)+(x.exprs.l.map exSz).sum) G1 rfl (by omega) (by omega))
  have hJ:=ih (j+1) (n+(1+x.cs.l.length)+(x.exprs.l.map exSz).sum+(x.cs.l.map fun c=>exSz c.expr).sum) G2 hr (by omega) (by omega)
  rw[show n+(1+x.cs.l.length)+(x.exprs.l.map exSz).sum+(x.cs.l.map fun c=>exSz c.expr).sum+(r.map St.seen).sum=n+(x.seen+(r.map St.seen).sum) by omega]at hJ
  have hw1:IntKind.wrap .i64 (1+(x.cs.l.length:Int))=1+(x.cs.l.length:Int):=by rw[zJ]<;>omega
  have hw2:IntKind.wrap .i64 ((n:Int)+(1+(x.cs.l.length:Int)))=(n:Int)+(1+(x.cs.l.length:Int)):=by rw[zJ]<;>omega
  generalize n+(x.seen+(r.map St.seen).sum)=m at *
  generalize n+(1+x.cs.l.length)+(x.exprs.l.map exSz).sum+(x.cs.l.map fun c=>exSz c.expr).sum=q2 at *
  generalize n+(1+x.cs.l.length)+(x.exprs.l.map exSz).sum=q1 at *
  simp only[Int.natCast_add,Int.cast_ofNat_Int,Int.natCast_zero]at hJ c1 f1
  obtain⟨y,F',H',g1,rfl,g2,g3⟩:=zh.1 hJ
  rw[zk]
  simp[zoQ,b7_2,zb,hlt,he,hw,hw1,hw2,hlast,hset,c1,c3,c4,f1,f3,g1, -getElem?_pos,gEz]
  exact⟨((k0.trans c2).trans f2).trans g2,by simpa using g3⟩
theorem zto {s:So} (h:zaz s=0) {p:Pr} (hp:p∈s.procs.l):smtI p=0∧(∀y∈St.pres p.body.l,zL y=0)∧St.costs p.body.l≤300∧((St.pres p.body.l).map St.seen).sum=p.cost:=by
 obtain⟨g1,g2,g3,g4,g5,g6⟩:=zdE h
 have q4:=zfg (f:=Pr.cost) hp
 have q5:p.cost=St.costs p.body.l:=rfl
 have h1:smtI p=0:=zs1 (t:=⟨za2,ofL 5 [p]⟩) h (.inr rfl) (by
  have:=List.length_pos_of_mem hp
  simp;omega) (by simp;omega) (fun q hq=>by simp at hq;subst hq;exact hp)
 have h2:=zaC.1 (zvh (g6 p hp)).1
 refine⟨h1,h2,by omega,?_⟩
 rw[zbE (g:=St.own) (fun y hy=>St.seen_own (h2 y hy)),St.own_pres]
 exact q5.symm
theorem zpp (s:So) (hf:s.fine) (hs:zaz s=0):∀(r:List Pr) (j n:Nat) (G:Heap),s.procs.l.drop j=r→j≤s.procs.l.length→n+(r.map Pr.cost).sum≤300→Kept none [.arr 0 2 false [s.av]] G→
  okC (W.loop [1,3,26,27,28] l7_3 [(1,.optr 0 0 0 0),(3,I n),(26,Sl.av Pr.av 5 s.procs),(27,I s.procs.l.length),(28,I j)] G)
   (fun y F G'=>y= .exit 0∧Kept none [.arr 0 2 false [s.av]] G'∧F.keep [1,3]=[(1,.optr 0 0 0 0),(3,I (n+(r.map Pr.cost).sum:Nat))]):=by
 obtain⟨p1,p2,p3,p4,p5,p6⟩:=zdE hs
 intro r
 induction r with
 |nil=>
  intro j n G h1 h2 h3 h4
  have hj:=zj h1 h2
  rw[zk]
  simp[zoP,b7_3,zb,hj, -getElem?_pos,gEz]
  exact h4
 |cons p r ih=>
  intro j n G h1 h2 h3 h4
  obtain⟨hlt,he,hr⟩:=zq h1
  have hlt':(j:Int)<s.procs.l.length:=by omega
  have hw:=zo (k:=j) (by omega)
  have hp:=zF h1
  have hfp:=hf.2.2 p hp
  obtain⟨q1,q2,q3,q4⟩:=zto hs hp
  have d1:=e30 p hfp
  rw[q1]at d1
  have hll:(smtL p).l=St.pres p.body.l:=by
   unfold smtL
   by_cases hn:St.pres p.body.l=[]
   .rw[if_neg (fun h=>h.2 hn),hn]
   .rw[if_pos ⟨q1,hn⟩]
  have hpl:=St.pres_cost p.body.l
  simp only[List.map_cons,List.sum_cons]at h3⊢
  have r0:=zph (St.bigs p.body.l) p.body (Nat.le_refl _) hfp.1 hfp.2.1 q2 q3 (smtL p) [] (G.length+1) (G++[.arr 0 5 false [p.av]]++[.arr 0 1 false [cl25 (G.length+1)]]) (by rw[hll];simp) (by rw[hll];omega) (by
   rw[show G.length+1=(G++[Blk.arr 0 5 false [p.av]]).length by simp];exact ze _ _)
  obtain⟨v,G1,r1,r2,l',rfl,r3⟩:=zz.1 r0
  have k0:Kept none [.arr 0 2 false [s.av]] G1:=(h4.trans ((Kept.append _ _ _).trans (Kept.append _ _ _))).trans r2
  have hfs:∀x∈(smtL p).l,x.exprs.l.length≤100000∧x.cs.l.length≤100000:=by
   rw[hll]
   intro x hx
   have z1:=zox (q2 x hx)
   have z2:=St.seen_own (q2 x hx)
   have z3:x.own≤((St.pres p.body.l).map St.own).sum:=zfg (f:=St.own) hx
   rw[St.own_pres]at z3
   have z4:x.own=1+x.cs.l.length+(x.exprs.l.map zK).sum+(x.cs.l.map fun c=>zK c.expr).sum:=rfl
   have z5:=zlv (q2 x hx)
   exact⟨by omega,by omega⟩
  obtain⟨y1,F1,G2,c1,rfl,c2,c3⟩:=zh.1 (zpq (smtL p) (.optr 0 0 0 0) (Sl.av Pr.av 5 s.procs) (I s.procs.l.length) (I j) (by rw[hll];omega) hfs (smtL p).l 0 n G1 rfl (by omega) (by rw[hll,q4];omega))
  rw[hll,q4]at c3
  have hJ:=ih (j+1) (n+p.cost) G2 hr (by omega) (by omega) (k0.trans c2)
  rw[Nat.add_assoc]at hJ
  generalize n+(p.cost+(r.map Pr.cost).sum)=m at *
  generalize n+p.cost=q0 at *
  simp only[Int.natCast_add,Int.cast_ofNat_Int,Int.natCast_zero]at hJ c1
  obtain⟨y,F',H',g1,rfl,g2,g3⟩:=zh.1 hJ
  have a1:∀B,(G++[B])[G.length]?=some B:=ze _
  have a2:∀B C,((G++[B]).set G.length C)=G++[C]:=fun B C=>by simp
  have a3:∀B C,(G++[B]++[C])[G.length+1]?=some C:=fun B C=>by
   rw[show G.length+1=(G++[B]).length by simp];exact ze _ _
  have a4:∀B C,(G++[B]++[C])[G.length]?=some B:=fun B C=>zt (ze _ _) _
  have a5:∀B C D,((G++[B]++[C]).set (G.length+1) D)=G++[B]++[D]:=fun B C D=>by
   rw[List.set_append,if_neg (by simp)];simp
  have n1:AV.nilf.cells=[.nilf]:=rfl
  have n2:AV.cell .nilf=true:=rfl
  have n3:∀a b,zr [.nilf] 0 0 (.clo 25 a b)=some [.clo 25 a b]:=fun a b=>rfl
  simp only[cl25]at r1
  rw[zk]
  simp[zoP,b7_3,zb,hlt,he,hw,n1,n2,n3,a1,a2,a3,a4,a5,d1,r1,r3,c1,c3,g1, -getElem?_pos,gEz, -List.append_assoc]
  exact⟨g2,by simpa using g3⟩
theorem law7 (s:So) (hf:s.fine):W.pure 7 [s.av]=some (.bool true):=by
 rw[zu Φ7 (by simp)]
 have g1:=d20 s
 have aw:=e11
 have c1:=d23 s hf
 have c2:=e70 s hf.2.1 hf.2.2
 cases h1:zhn s with
 |true=>rw[h1]at g1;simp[fi7,c7,zd,zc,zb,resV,rvVs,rvV,g1,aw, -getElem?_pos,gEz]
 |false=>
 rw[h1]at g1
 by_cases h3:zaz s=0
 .obtain⟨p1,p2,p3,p4,p5,p6⟩:=zdE h3
  rw[Nat.min_eq_left (by omega)]at c2
  obtain⟨y,F,G,f1,rfl,f2,f3⟩:=zh.1 (zpp s hf h3 s.procs.l 0 0 [.arr 0 2 false [s.av]] rfl (by omega) (by omega) (Kept.refl _ _))
  rw[Nat.zero_add]at f3
  have f4:G[0]?=some (.arr 0 2 false [s.av]):=f2.get (by simp) rfl
  generalize (s.procs.l.map Pr.cost).sum=m at *
  simp only[Int.natCast_zero]at f1
  rw[h3]at c1
  simp[fi7,c7,zd,zc,zb,resV,rvVs,rvV,g1,aw,c1,c2,f1,f3,f4, -getElem?_pos,gEz]
 .simp[fi7,c7,zd,zc,zb,resV,rvVs,rvV,g1,aw,c1,h3, -getElem?_pos,gEz]
end
end Go.Proofs.YtgamobngbenehaaGreatDoor
end
