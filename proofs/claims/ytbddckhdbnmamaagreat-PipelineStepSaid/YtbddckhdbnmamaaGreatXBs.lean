/-
  A stage that runs, in memory; send (conditions: none). The value of a stage's expression, as a runner computes it (conditions: a valid stage). What an item does to a stage that runs, kind by kind (conditions: a valid stage in a valid state). What an item does to a repeating stage, a batch and a zip that run (conditions: a valid stage in a valid state). What an item does to a batch and to a zip that run (conditions: a valid stage in a valid state). What an item, and the end of an input, do to a stage that runs (conditions: a valid stage in a valid state). Take and End of the program: what a runner yields (conditions: none). Take and End of the program (conditions: lists of at most 1048576). End of the program (conditions: lists of at most 1048576). each of the reference: items one by one (conditions: a valid stage, lists of at most 200 items). Sums of batches: the reference (conditions: sizes of 1 to 1000, lists of at most 1000 items). Take of the reference: pieces (conditions: lists of at most 1048576). Take of the reference (conditions: lists of at most 1048576). End of the reference (conditions: lists of at most 1048576). The pipe of an output, of an input (conditions: at most 1000 stages and pipes). Why a pipe is not valid (conditions: a pipeline that is not too large). Whether the pipes form a cycle (conditions: pipes between stages that there are). Whether the pipes form a cycle: the reference (conditions: pipes between stages that there are). Why a pipeline is not valid: the program (conditions: a pipeline that is not too large). Why a pipeline is not valid: the reference (conditions: a pipeline that is not too large). How many stages are sinks; which ends a stage has noted (conditions: a pipeline that is not too large). Whether the buffers of a state are valid: the program (conditions: a pipeline and a state that are not too large).
-/
import Derived.Test.YtbddckhdbnmamaaGreatNAs
import Derived.Test.YtbddckhdbnmamaaGreatXAs
namespace Go.Proofs.YtbddckhdbnmamaaGreat
open Go Go.RowKit
set_option linter.unusedVariables false
set_option linter.unusedSimpArgs false
set_option maxRecDepth 10000
def rnA (x:Sg) (hv:AV) (c:Int) (e:Bool) (ob n:Nat) (err:Int):AV:= .agg [I x.kind,I x.size,I x.expr.kind,I x.expr.op,.str x.expr.name,I x.expr.value,Sl.av Ex.av 5 x.expr.args,Sl.av I 1 x.items,hv,I c,.bool e,.osl ob 0 0 n,I err,I 0]
section
variable {x:Sg} {hv v:AV} {c c':Int} {e e':Bool} {ob n:Nat} {err err':Int}
@[simp] theorem rn_0:zi false 1 (rnA x hv c e ob n err).cells=I x.kind:=rfl
@[simp] theorem rn_1:zi false 1 (rnA x hv c e ob n err).cells.tail=I x.size:=rfl
@[simp] theorem rn_2:zi true 5 ((rnA x hv c e ob n err).cells.drop 2)=x.expr.av:=by rw[Ex.av_eq];rfl
@[simp] theorem rn_7:zi false 1 ((rnA x hv c e ob n err).cells.drop 7)=Sl.av I 1 x.items:=rfl
@[simp] theorem rn_8:zi false 1 ((rnA x hv c e ob n err).cells.drop 8)=hv:=rfl
@[simp] theorem rn_9:zi false 1 ((rnA x hv c e ob n err).cells.drop 9)=I c:=rfl
@[simp] theorem rn_10:zi false 1 ((rnA x hv c e ob n err).cells.drop 10)= .bool e:=rfl
@[simp] theorem rn_11:zi false 1 ((rnA x hv c e ob n err).cells.drop 11)= .osl ob 0 0 n:=rfl
@[simp] theorem rn_12:zi false 1 ((rnA x hv c e ob n err).cells.drop 12)=I err:=rfl
@[simp] theorem rn_st:zi true 3 ((rnA x hv c e ob n err).cells.drop 8)= .agg [hv,I c,.bool e]:=rfl
@[simp] theorem rn_s9:ze [rnA x hv c e ob n err] 0 9 (I c')=some [rnA x hv c' e ob n err]:=rfl
@[simp] theorem rn_s10:ze [rnA x hv c e ob n err] 0 10 (.bool e')=some [rnA x hv c e' ob n err]:=rfl
@[simp] theorem rn_s12:ze [rnA x hv c e ob n err] 0 12 (I err')=some [rnA x hv c e ob n err']:=rfl
theorem zwC (h:v.cells=[v]):ze [rnA x hv c e ob n err] 0 8 v=some [rnA x v c e ob n err]:=by
 simp only[ze,rnA,gEz]
 rw[h];rfl
@[simp] theorem rn_s8n (b:Option Bool) (z:Nat) (l:List AV):ze [rnA x hv c e ob n err] 0 8 (.isl b z l)=some [rnA x (.isl b z l) c e ob n err]:=zwC rfl
@[simp] theorem rn_s8o (i j k m:Nat):ze [rnA x hv c e ob n err] 0 8 (.osl i j k m)=some [rnA x (.osl i j k m) c e ob n err]:=zwC rfl
end
def zas (H:Heap) (ho:Option Nat) (hv:AV) (l:List Int):Prop:=
 match ho with
 |none=>∃y:Sl Int,hv=Sl.av I 1 y∧y.l=l∧SlN y
 |some id=>∃ver,hv= .osl id ver 0 l.length∧H[id]?=some (.arr ver 1 false (l.map I))∧l≠[]∧l.length≤1048576
def Keep (b:Nat) (H H':Heap):Prop:=H.length≤H'.length∧∀j,j<b→H'[j]?=H[j]?
theorem Keep.refl (b:Nat) (H:Heap):Keep b H H:=⟨Nat.le_refl _,fun _ _=>rfl⟩
theorem Keep.trans {b:Nat} {A B C:Heap} (h:Keep b A B) (h':Keep b B C):Keep b A C:=⟨Nat.le_trans h.1 h'.1,fun j hj=>by rw[h'.2 j hj,h.2 j hj]⟩
theorem zas.okO {H:Heap} {ho:Option Nat} {hv:AV} {l:List Int} (h:zas H ho hv l):okO hv=some hv:=by
 cases ho with
 |none=>obtain⟨y,rfl,_⟩:=h;rfl
 |some id=>obtain⟨ver,rfl,_⟩:=h;rfl
theorem zas.cells {H:Heap} {ho:Option Nat} {hv:AV} {l:List Int} (h:zas H ho hv l):hv.cells=[hv]:=by
 cases ho with
 |none=>obtain⟨y,rfl,_⟩:=h;rfl
 |some id=>obtain⟨ver,rfl,_⟩:=h;rfl
theorem zas.cell {H:Heap} {ho:Option Nat} {hv:AV} {l:List Int} (h:zas H ho hv l):hv.cell=true:=by
 cases ho with
 |none=>obtain⟨y,rfl,_⟩:=h;rfl
 |some id=>obtain⟨ver,rfl,_⟩:=h;rfl
theorem zas.len {H:Heap} {ho:Option Nat} {hv:AV} {l:List Int} (h:zas H ho hv l):lenV false hv=I l.length:=by
 cases ho with
 |none=>obtain⟨y,rfl,rfl,_⟩:=h;exact zwA
 |some id=>obtain⟨ver,rfl,_⟩:=h;rfl
theorem zas.bound {H:Heap} {ho:Option Nat} {hv:AV} {l:List Int} (h:zas H ho hv l):l.length≤1048576:=by
 cases ho with
 |none=>obtain⟨y,rfl,rfl,h⟩:=h;exact h.2
 |some id=>obtain⟨ver,rfl,_,_,h⟩:=h;exact h
theorem zas.elems {H:Heap} {ho:Option Nat} {hv:AV} {l:List Int} (h:zas H ho hv l):zaH H 1 hv=some (l.map I):=by
 cases ho with
 |none=>obtain⟨y,rfl,rfl,_⟩:=h;exact zko
 |some id=>obtain⟨ver,rfl,h,_⟩:=h;simp[zaH,h];exact List.take_of_length_le (by simp)
theorem zas.kept {H H':Heap} {ho p:Option Nat} {hv:AV} {l:List Int} (h:zas H ho hv l) (hk:Kept p H H') (hd:∀id,p=some id→ho≠some id):zas H' ho hv l:=by
 cases ho with
 |none=>exact h
 |some id=>
  obtain⟨ver,h1,h2,h3⟩:=h
  exact⟨ver,h1,hk.get (fun e=>hd id e rfl) h2,h3⟩
theorem zas.lt {H:Heap} {id:Nat} {hv:AV} {l:List Int} (h:zas H (some id) hv l):id<H.length:=by
 obtain⟨ver,_,h2,_⟩:=h;exact (gEs.1 h2).1
theorem zas.at {H:Heap} {ho:Option Nat} {hv:AV} {l:List Int} (h:zas H ho hv l) {k:Nat} {a:Int} (ha:l[k]?=some a):
  ∃p,zdI H 1 hv (I k)=p∧Go.Proofs.YtbddckhdbnmamaaGreat.okO p=some p∧zcM H false 1 p=I a:=by
 have hk:=(gEs.1 ha).1
 cases ho with
 |none=>
  obtain⟨y,rfl,rfl,_⟩:=h
  refine⟨.eptr (I a).cells,?_,rfl,rfl⟩
  rw[ztN,if_pos (by omega),iTn,ha]
 |some id=>
  obtain⟨ver,rfl,h,_⟩:=h
  refine⟨.optr id ver k 0,?_,rfl,?_⟩
  .simp[h,hk]
  .have:l[k]=a:=(gEs.1 ha).2
   simp[h,this,hk]
structure RnD (b:Nat) (H:Heap) (r ob:Nat) (x:Sg) (t:SS) (err:Int) (outs:List (List Int)) (hv:AV) (ho:Option Nat) (vs:List AV) (os:Nat→Option Nat):Prop where
 rb:H[r]?=some (.arr 0 14 false [rnA x hv t.count t.ended ob outs.length err])
 obk:H[ob]?=some (.arr 0 1 false vs)
 ne:r≠ob
 hl:zas H ho hv t.held
 h1:ho≠some r
 h2:ho≠some ob
 len:vs.length=outs.length
 gr:∀(i:Nat) (l:List Int),outs[i]?=some l→∃v,vs[i]?=some v∧Grow H 1 (os i) v (l.map I)
 o1:∀i,os i≠some r∧os i≠some ob
 o2:∀i id,os i=some id→ho≠some id
 o3:∀i j id,i≠j→os i=some id→os j≠some id
 o4:∀i id,os i=some id→id<H.length
 br:b≤r
 bo:b≤ob
 bh:∀id,ho=some id→b≤id
 bs:∀i id,os i=some id→b≤id
section
variable {b:Nat} {H H':Heap} {r ob:Nat} {x:Sg} {t:SS} {err:Int} {outs:List (List Int)} {hv:AV} {ho:Option Nat} {vs:List AV} {os:Nat→Option Nat}
theorem RnD.kept (h:RnD b H r ob x t err outs hv ho vs os) (hk:Kept none H H'):RnD b H' r ob x t err outs hv ho vs os:=
 ⟨hk.get (by simp) h.rb,hk.get (by simp) h.obk,h.ne,h.hl.kept hk (by simp),h.h1,h.h2,h.len,
  fun i l hi=>by obtain⟨v,h1,h2⟩:=h.gr i l hi;exact⟨v,h1,h2.kept hk (by simp)⟩,h.o1,h.o2,h.o3,fun i id hi=>by have:=h.o4 i id hi;have:=hk.1;omega,h.br,h.bo,h.bh,h.bs⟩
theorem RnD.rlt (h:RnD b H r ob x t err outs hv ho vs os):r<H.length:=(gEs.1 h.rb).1
theorem RnD.olt (h:RnD b H r ob x t err outs hv ho vs os):ob<H.length:=(gEs.1 h.obk).1
theorem RnD.blen (h:RnD b H r ob x t err outs hv ho vs os):b≤H.length:=by have:=h.br;have:=h.rlt;omega
theorem RnD.setR (h:RnD b H r ob x t err outs hv ho vs os) {t':SS} {err':Int} (ht:t'.held=t.held):RnD b (H.set r (.arr 0 14 false [rnA x hv t'.count t'.ended ob outs.length err'])) r ob x t' err' outs hv ho vs os:=by
 have hk:Kept (some r) H (H.set r (.arr 0 14 false [rnA x hv t'.count t'.ended ob outs.length err'])):=Kept.set _ _ _
 refine⟨gEt h.rlt,hk.get (by simp;exact h.ne) h.obk,h.ne,?_,h.h1,h.h2,h.len,fun i l hi=>?_,h.o1,h.o2,h.o3,fun i id hi=>by have:=h.o4 i id hi;simpa using this,h.br,h.bo,h.bh,h.bs⟩
 .rw[ht];exact h.hl.kept hk (fun id e=>by cases e;exact h.h1)
 .obtain⟨v,h1,h2⟩:=h.gr i l hi
  exact⟨v,h1,h2.kept hk (fun id e=>by cases e;exact (h.o1 i).1)⟩
theorem zQ (h:RnD b H r ob x t err outs hv ho vs os) (B:Blk):Keep b H (H.set r B):=⟨by simp,fun j hj=>by rw[gEn (by have:=h.br;omega)]⟩
theorem RnD.setH (h:RnD b H r ob x t err outs hv ho vs os) {t':SS} {hv':AV} {ho':Option Nat} (hl:zas H ho' hv' t'.held) (g1:ho'≠some r) (g2:ho'≠some ob) (g3:∀i id,os i=some id→ho'≠some id) (g4:∀id,ho'=some id→b≤id) {err':Int}:
  RnD b (H.set r (.arr 0 14 false [rnA x hv' t'.count t'.ended ob outs.length err'])) r ob x t' err' outs hv' ho' vs os:=by
 have hk:Kept (some r) H (H.set r (.arr 0 14 false [rnA x hv' t'.count t'.ended ob outs.length err'])):=Kept.set _ _ _
 refine⟨gEt h.rlt,hk.get (by simp;exact h.ne) h.obk,h.ne,?_,g1,g2,h.len,fun i l hi=>?_,h.o1,g3,h.o3,fun i id hi=>by have:=h.o4 i id hi;simpa using this,h.br,h.bo,g4,h.bs⟩
 .exact hl.kept hk (fun id e=>by cases e;exact g1)
 .obtain⟨v,h1,h2⟩:=h.gr i l hi
  exact⟨v,h1,h2.kept hk (fun id e=>by cases e;exact (h.o1 i).1)⟩
theorem zha:zas H none (.isl (some true) 0 []) []:=⟨za5,rfl,rfl,zu⟩
theorem zso {H:Heap} {sz off:Nat} {o:Option Nat} {v:AV} {l:List AV} (h:Grow H sz o v l) (hn:o≠some r):apart v (.optr r 0 0 off)=true:=by
 cases o with
 |none=>rw[h.1];rfl
 |some id=>
  obtain⟨ver,t,h1,h2⟩:=h
  rw[h1]
  have:id≠r:=fun e=>hn (by rw[e])
  simp[apart,this]
theorem zes {es:List AV} {k:Nat} {w v:AV} (hk:es[k]?=some w) (hw:w.cell=true) (h:v.cells=[v]) (hc:v.cell=true):ze es k 0 v=some (es.set k v):=by
 simp only[ze,hk]
 cases w<;>first|(simp[h,hc];done)|(cases hw)
theorem zb4 (h:RnD b H r ob x t 0 outs hv ho vs os) {o:Nat} {l:List Int} (hl:outs[o]?=some l) (hb:l.length≤1048576) (n:Int):okV (W.call (.clo 161 [] []) [.optr r 0 0 0,I o,I n] H)
  (fun v H'=>v= .tuple []∧Keep b H H'∧∃vs' os',RnD b H' r ob x t 0 (outs.set o (l++[n])) hv ho vs' os'):=by
 obtain⟨v,hv1,hg⟩:=h.gr o l hl
 have hol:o<outs.length:=(gEs.1 hl).1
 have hov:o<vs.length:=by rw[h.len];exact hol
 have hvo:vs[o]=v:=(gEs.1 hv1).2
 obtain⟨o',v',H',a1,a2,a3,a4,a5⟩:=hg.app (y:= .isl (some false) 1 [I n]) (xs:=[I n]) (by simp) (by simp) (by simp[zaA];omega)
 have g1:H'[ob]?=some (.arr 0 1 false vs):=a3.get (h.o1 o).2 h.obk
 have g2:H'[r]?=some (.arr 0 14 false [rnA x hv t.count t.ended ob outs.length 0]):=a3.get (h.o1 o).1 h.rb
 have ap:=zso (off:=11) hg (h.o1 o).1
 have hse:=zes hv1 hg.cell a2.cells a2.cell
 rw[zj Φ161]
 simp[zox,c161,h.rb,h.obk,hol,hov,hvo,hg.okO,hg.cells,ap,a1,a2.okO,a2.cells,a2.cell,g1,hse]
 have hobl:=(gEs.1 g1).1
 have hk:Kept (some ob) H' (H'.set ob (.arr 0 1 false (vs.set o v'))):=Kept.set _ _ _
 have ho'1:o'≠some r:=by rcases a4 with rfl|⟨_,rfl,_⟩;exact (h.o1 o).1;intro e;have:=h.rlt;cases e;omega
 have ho'2:o'≠some ob:=by rcases a4 with rfl|⟨_,rfl,_⟩;exact (h.o1 o).2;intro e;have:=h.olt;cases e;omega
 refine⟨⟨by simp;exact a3.1,fun j hj=>?_⟩,vs.set o v',fun i=>if i=o then o' else os i,?_⟩
 .rw[gEn (by have:=h.bo;omega),a3.2 j (fun e=>by have:=h.bs o j e;omega) (by have:=h.blen;omega)]
 .refine⟨hk.get (by simp;exact Ne.symm h.ne) (by rw[List.length_set];exact g2),gEt hobl,h.ne,?_,h.h1,h.h2,by simp[h.len],fun i m hi=>?_,fun i=>?_,fun i id hi=>?_,fun i j id hij hi=>?_,fun i id hi=>?_,h.br,h.bo,h.bh,fun i id hi=>?_⟩
  .exact (h.hl.kept a3 (fun id e=>fun e'=>h.o2 o id e e')).kept hk (fun id e=>by cases e;exact h.h2)
  .by_cases hio:i=o
   .subst hio
    rw[gEt hol]at hi
    cases hi
    refine⟨v',gEt hov,?_⟩
    simp only[if_true,List.map_append,List.map_cons,List.map_nil]
    exact a2.kept hk (fun id e=>by cases e;exact ho'2)
   .rw[gEn (fun e=>hio e.symm)]at hi
    obtain⟨w,w1,w2⟩:=h.gr i m hi
    refine⟨w,by rw[gEn (fun e=>hio e.symm)];exact w1,?_⟩
    rw[if_neg hio]
    exact (w2.kept a3 (fun id e=>fun e'=>h.o3 o i id (fun e2=>hio e2.symm) e e')).kept hk (fun id e=>by cases e;exact (h.o1 i).2)
  .split
   .exact⟨ho'1,ho'2⟩
   .exact h.o1 i
  .try simp only at hi
   split at hi
   .rcases a4 with rfl|⟨_,rfl,_⟩
    .exact h.o2 o id hi
    .cases hi
     intro e
     cases ho with
     |none=>cases e
     |some q=>have:=h.hl.lt;cases e;omega
   .exact h.o2 i id hi
  .try simp only at hi⊢
   have new:o'=some id→∀q,q≠o→os q≠some id:=by
    intro e q hq e2
    rcases a4 with rfl|⟨_,rfl,_⟩
    .exact h.o3 o q id (fun e3=>hq e3.symm) e e2
    .cases e;have:=h.o4 q _ e2;omega
   by_cases hio:i=o
   .rw[if_pos hio]at hi
    rw[if_neg (fun e=>hij (by rw[hio,e]))]
    exact new hi j (fun e=>hij (by rw[hio,e]))
   .rw[if_neg hio]at hi
    by_cases hjo:j=o
    .rw[if_pos hjo]
     intro e
     exact new e i hio hi
    .rw[if_neg hjo]
     exact h.o3 i j id hij hi
  .try simp only at hi
   rw[List.length_set]
   split at hi
   .exact a5 id hi
   .have:=h.o4 i id hi;have:=a3.1;omega
  .try simp only at hi
   split at hi
   .rcases a4 with rfl|⟨_,rfl,_⟩
    .exact h.bs o id hi
    .cases hi;exact h.blen
   .exact h.bs i id hi
end
theorem zjn {x:Sg} (h:sgI x=0) (hk:etyp x.kind≠0):zF x.expr=0∧(∀m∈zch x.expr,m∈zd5 x.kind)∧tyE (bnd2 0 0) x.expr=(etyp x.kind,0):=by
 unfold sgI at h
 repeat' (split at h)
 all_goals first|(exfalso;omega)|skip
 all_goals try (rename_i hh;exact absurd hh hk)
 unfold ckE at h
 split at h
 .rename_i h1;exact absurd h h1
 .rename_i h1
  split at h
  .cases h
  .rename_i h2
   split at h
   .rename_i h3
    refine⟨by omega,fun m hm=>?_,h3⟩
    have h2:(zch x.expr).all (fun s=>decide (s∈zd5 x.kind))=true:=by
     cases hb:(zch x.expr).all (fun s=>decide (s∈zd5 x.kind)) with
     |true=>rfl
     |false=>exact absurd hb h2
    simpa using lAt.1 h2 m hm
   .cases h
theorem zlZ (a b:Int) (n:List UInt8):(zaq (bnd2 a b) n).map (·.type)=(zaq (bnd2 0 0) n).map (·.type):=by
 unfold zaq bnd2
 by_cases h1:xN=n
 .simp[h1]
 .by_cases h2:yN=n
  .simp[h1,h2]
  .simp[h1,h2]
theorem zkk (a b:Int):∀e:Ex,tyE (bnd2 a b) e=tyE (bnd2 0 0) e:=by
 refine Ex.ind (fun e ih=>?_)
 rw[zcA,zcA,zdZ fun a' ha=>ih a' ha]
 cases tyEs (bnd2 0 0) e.args.l with
 |inl f=>rfl
 |inr ts=>
  have hf:=zlZ a b e.name
  simp only[zaY]
  cases h1:zaq (bnd2 a b) e.name with
  |none=>
   rw[h1]at hf
   cases h2:zaq (bnd2 0 0) e.name with
   |none=>rfl
   |some c=>rw[h2]at hf;simp at hf
  |some c=>
   rw[h1]at hf
   cases h2:zaq (bnd2 0 0) e.name with
   |none=>rw[h2]at hf;simp at hf
   |some d=>rw[h2]at hf;simp at hf;simp only[hf]
theorem zrZ {x:Sg} (h:sgI x=0) (hk:etyp x.kind≠0) (a b:Int):evR (b2L a b).l x.expr=evX x a b:=by
 obtain⟨h1,h2,h3⟩:=zjn h hk
 unfold evR tyR
 rw[if_neg (show ¬zF x.expr≠0 by simp[h1])]
 have:tyE (b2L a b).l x.expr=(etyp x.kind,0):=by rw[←h3];exact zkk a b x.expr
 rw[this]
 simp only[ne_eq,not_true,if_false]
 rfl
theorem zp8 {x:Sg} (h:sgI x=0) (hk:x.kind=2∨x.kind=3∨x.kind=7):∀y∈x.expr.parts,y.kind=2→y.name=xN:=by
 have he:etyp x.kind≠0:=by rcases hk with hk|hk|hk<;>simp[etyp,hk]
 obtain⟨h1,h2,h3⟩:=zjn h he
 intro y hy hy2
 have:=h2 y.name ((zfI x.expr _).2 ⟨y,hy,hy2,rfl⟩)
 have hn:zd5 x.kind=[xN]:=by unfold zd5;rw[if_neg (by omega),if_pos hk]
 rw[hn]at this
 simpa using this
theorem zAV {x:Sg} (h:sgI x=0) (hk:x.kind=2∨x.kind=3∨x.kind=7) (a:Int):evR (b1L a).l x.expr=evX x a 0:=by
 have he:etyp x.kind≠0:=by rcases hk with hk|hk|hk<;>simp[etyp,hk]
 have hx:=zp8 h hk
 rw[←zrZ h he]
 unfold evR tyR
 rw[zwm a 0 _ hx,zx6 a 0 _ hx]
theorem zAU {x:Sg} (h:sgI x=0) (hk:x.kind=3∨x.kind=7) (a:Int) (h0:(evX x a 0).2=0):(evX x a 0).1=0∨(evX x a 0).1=1:=by
 have he:etyp x.kind=2:=by rcases hk with hk|hk<;>simp[etyp,hk]
 obtain⟨h1,h2,h3⟩:=zjn h (by omega)
 have ht:=zkk a 0 x.expr
 rw[h3,he]at ht
 exact zxM (bnd2 a 0) (by simp[bnd2]) x.expr (.of h1) (by rw[ht]) (by rw[ht]) h0
def snd9 (x:Sg) (q:Int):Int:=if x.kind=9 then q else 0
theorem zA6 (x:Sg) (hg:sgI x=0) (hk:x.kind=2∨x.kind=3∨x.kind=7∨x.kind=9) (p q:Int) (hp:isIt p=true) (hq:isIt q=true):
  ∃l:Sl Bnd,W.pure 168 [Sl.av AV.str 1 (nmK x.kind),.isl (some false) 1 [I p,I q]]=some (bL l)∧W.pure 208 [x.expr.av,bL l]=some (.tuple [I (evX x p (snd9 x q)).1,I (evX x p (snd9 x q)).2]):=by
 by_cases k9:x.kind=9
 .have he:etyp x.kind≠0:=by simp[etyp,k9]
  refine⟨b2L p q,?_,?_⟩
  .have:nmK x.kind=ofL 1 [xN,yN]:=by simp[nmK,k9]
   rw[this];exact ztw p q
  .have:=e208 (b2L p q) (by simp[b2L,ofL]) (ztv p q hp hq) (by intro c hc;simp[b2L,ofL]at hc;rcases hc with rfl|rfl;exact hp;exact hq) x.expr
   rw[zrZ hg he]at this
   simp only[snd9,k9,if_true]
   exact this
 .have hk:x.kind=2∨x.kind=3∨x.kind=7:=by omega
  refine⟨b1L p,?_,?_⟩
  .have:nmK x.kind=ofL 1 [xN]:=by simp[nmK,k9,hk]
   rw[this];exact zlk p q
  .have:=e208 (b1L p) (by simp[b1L,ofL]) (zlj p hp) (by intro c hc;simp[b1L,ofL]at hc;subst hc;exact hp) x.expr
   rw[zAV hg hk]at this
   simp only[snd9,k9,if_false]
   exact this
@[simp] theorem hd_ld5 (k:Int):zi false 1 ((hdK k).cells.drop 5)=Sl.av AV.str 1 (nmK k):=rfl
theorem Keep.of {b:Nat} {H H':Heap} (h:Kept none H H') (hb:b≤H.length):Keep b H H':=⟨h.1,fun j hj=>h.2 j (by simp) (by omega)⟩
section
variable {b:Nat} {H H':Heap} {r ob:Nat} {x:Sg} {t:SS} {err:Int} {outs:List (List Int)} {hv:AV} {ho:Option Nat} {vs:List AV} {os:Nat→Option Nat}
theorem zhB (h:RnD b H r ob x t 0 outs hv ho vs os) (hg:sgI x=0) (hk:x.kind=2∨x.kind=3∨x.kind=7∨x.kind=9) (p q:Int) (hp:isIt p=true) (hq:isIt q=true):
  okV (W.call (.clo 162 [] []) [.optr r 0 0 0,I p,I q] H) (fun v H'=>v=I (evX x p (snd9 x q)).1∧Keep b H H'∧RnD b H' r ob x t (evX x p (snd9 x q)).2 outs hv ho vs os):=by
 obtain⟨l,c1,c2⟩:=zA6 x hg hk p q hp hq
 have c3:=e112 x.kind (by omega)
 have hk1:Kept none H (H++[.arr 0 8 false [hdK x.kind]]):=Kept.append _ _ _
 have h1:=h.kept hk1
 have hr:=h.rlt
 rw[zj Φ162]
 have g0:∀B,(H++[B])[r]?=some (.arr 0 14 false [rnA x hv t.count t.ended ob outs.length 0]):=fun B=>(h.kept (Kept.append _ _ _)).rb
 simp[zrO,c162,h.rb,c1,c2,c3,g0]
 exact⟨(Keep.of hk1 h.blen).trans (zQ h1 _),h1.setR (t':=t) rfl⟩
theorem zdW (h:RnD b H r ob x t err outs hv ho vs os) (he:err≠0) (o n:Int):W.call (.clo 161 [] []) [.optr r 0 0 0,I o,I n] H=some (.tuple [],H):=by
 rw[zj Φ161]
 simp[zox,c161,h.rb,he]
def RnS (b:Nat) (H:Heap) (r ob:Nat) (x:Sg) (t:SS) (err:Int) (outs:List (List Int)):Prop:=∃hv ho vs os,RnD b H r ob x t err outs hv ho vs os
def Did (b:Nat) (H H':Heap) (r ob:Nat) (x:Sg) (m:SS×List (List Int)×Int) (outs:List (List Int)):Prop:=
 Keep b H H'∧∃t' outs',RnS b H' r ob x t' m.2.2 outs'∧outs'.length=outs.length∧(m.2.2=0→t'=m.1∧outs'=zipA outs m.2.1)
end
theorem zdy {x:Sg} {t:SS} {i n:Int} (h:zbI x t i n=0):sgI x=0∧ssB x t=true∧t.ended=false∧isIt n=true∧(x.kind=1→i= -1∧t.count≠x.items.l.length)∧(x.kind≠1→za8 x t=i):=by
 unfold zbI at h
 split at h
 .rename_i h1;exact absurd h h1
 .rename_i h1
  obtain⟨g1,g2⟩:=zw.1 (show zal x t=0 by omega)
  split at h
  .cases h
  .rename_i h2
   split at h
   .cases h
   .rename_i h3
    refine⟨g1,g2,?_,?_,fun k1=>?_,fun k1=>?_⟩
    .cases he:t.ended with|false=>rfl|true=>exact absurd (.inl he) h2
    .cases he:isIt n with|true=>rfl|false=>exact absurd (.inl he) h3
    .exact⟨cBc fun hi=>h2 (.inr (.inl ⟨k1,.inl hi⟩)),fun hc=>h2 (.inr (.inl ⟨k1,.inr hc⟩))⟩
    .exact cBc fun hi=>h2 (.inr (.inr ⟨k1,hi⟩))
theorem zfu {x:Sg} (h7:x.kind≠7) (h10:x.kind≠10):outK x.kind=1:=by simp[outK,h7,h10]
theorem len1 {α:Type} {l:List α} (h:l.length=1):∃a,l=[a]:=by
 match l,h with
 | [a],_=>exact⟨a,rfl⟩
theorem len2 {α:Type} {l:List α} (h:l.length=2):∃a b,l=[a,b]:=by
 match l,h with
 | [a,b],_=>exact⟨a,b,rfl⟩
section
variable {b:Nat} {H H':Heap} {r ob:Nat} {x:Sg} {t:SS} {err:Int} {outs:List (List Int)} {hv:AV} {ho:Option Nat} {vs:List AV} {os:Nat→Option Nat}
theorem zyh (h:RnD b H r ob x t 0 outs hv ho vs os) (hl:outs.length=outK x.kind) (hb:∀l∈outs,l.length≤1000000) {i n:Int} (he:zbI x t i n=0) (k1:x.kind=1):
  okV (W.call (.clo 194 [] []) [.optr r 0 0 0,I i,I n] H) (fun v H'=>Did b H H' r ob x (zp x t i n) outs):=by
 obtain⟨g1,g2,g3,g4,g5,g6⟩:=zdy he
 obtain⟨f1,f2,f3,f4⟩:=zK g2
 have hm:zI x=x.items.l.length:=by simp[zI,k1]
 have hne:=(g5 k1).2
 have hit:=(zgO g1).1
 rw[zfu (by omega) (by omega)]at hl
 obtain⟨l,rfl⟩:=len1 hl
 have hlt:t.count.toNat<x.items.l.length:=by omega
 have ha:=gEg hlt
 obtain⟨v,H',d1,rfl,d2,vs',os',d3⟩:=zz.1 (zb4 h (o:=0) rfl (by have:=hb l (by simp);omega) x.items.l[t.count.toNat])
 have w:IntKind.wrap .i64 (t.count+1)=t.count+1:=zr (by omega) (by omega)
 have hmv:zp x t i n=({t with count:=t.count+1},[[x.items.l[t.count.toNat]]],0):=by simp[zp,k1,gEd,ha]
 rw[hmv,zj Φ194]
 simp at d1
 simp[zrD,c194,h.rb,f1,hlt,d1,d3.rb,w]
 have d4:=d3.setR (t':={t with count:=t.count+1}) (err':=0) rfl
 exact⟨d2.trans (zQ d3 _),_,_,⟨_,_,_,_,d4⟩,rfl,fun _=>⟨rfl,rfl⟩⟩
theorem zyg (h:RnD b H r ob x t 0 outs hv ho vs os) (hl:outs.length=outK x.kind) (hb:∀l∈outs,l.length≤1000000) {i n:Int} (hg:sgI x=0) (hn:isIt n=true) (k2:x.kind=2):
  okV (W.call (.clo 195 [] []) [.optr r 0 0 0,I i,I n] H) (fun v H'=>Did b H H' r ob x (zp x t i n) outs):=by
 rw[zfu (by omega) (by omega)]at hl
 obtain⟨l,rfl⟩:=len1 hl
 obtain⟨v,H1,c1,rfl,c2,c3⟩:=zz.1 (zhB h hg (.inl k2) n 0 hn rfl)
 have e9:snd9 x 0=0:=by unfold snd9;split<;>rfl
 rw[e9]at c1 c3
 have hmv:zp x t i n=if (evX x n 0).2≠0 then (ssZ,[],(evX x n 0).2) else (t,[[(evX x n 0).1]],0):=by simp[zp,k2]
 rw[hmv,zj Φ195]
 by_cases hf:(evX x n 0).2=0
 .rw[if_neg (by simp[hf])]
  rw[hf]at c3
  obtain⟨v,H',d1,rfl,d2,vs',os',d3⟩:=zz.1 (zb4 c3 (o:=0) rfl (by have:=hb l (by simp);omega) (evX x n 0).1)
  simp at d1
  simp[zot,c195,c1,d1]
  exact⟨c2.trans d2,_,_,⟨_,_,_,_,d3⟩,rfl,fun _=>⟨rfl,rfl⟩⟩
 .rw[if_pos hf]
  have d1:=zdW c3 hf 0 (evX x n 0).1
  simp[zot,c195,c1,d1]
  exact⟨c2,_,_,⟨_,_,_,_,c3⟩,rfl,fun h=>absurd h hf⟩
theorem zyf (h:RnD b H r ob x t 0 outs hv ho vs os) (hl:outs.length=outK x.kind) (hb:∀l∈outs,l.length≤1000000) {i n:Int} (hg:sgI x=0) (hn:isIt n=true) (k3:x.kind=3):
  okV (W.call (.clo 196 [] []) [.optr r 0 0 0,I i,I n] H) (fun v H'=>Did b H H' r ob x (zp x t i n) outs):=by
 rw[zfu (by omega) (by omega)]at hl
 obtain⟨l,rfl⟩:=len1 hl
 obtain⟨v,H1,c1,rfl,c2,c3⟩:=zz.1 (zhB h hg (.inr (.inl k3)) n 0 hn rfl)
 have e9:snd9 x 0=0:=by unfold snd9;split<;>rfl
 rw[e9]at c1 c3
 have hmv:zp x t i n=if (evX x n 0).2≠0 then (ssZ,[],(evX x n 0).2) else (t,[if (evX x n 0).1=1 then [n] else []],0):=by simp[zp,k3]
 rw[hmv,zj Φ196]
 by_cases hf:(evX x n 0).2=0
 .rw[if_neg (by simp[hf])]
  rw[hf]at c3
  by_cases h1:(evX x n 0).1=1
  .obtain⟨v,H',d1,rfl,d2,vs',os',d3⟩:=zz.1 (zb4 c3 (o:=0) rfl (by have:=hb l (by simp);omega) n)
   simp at d1
   simp[zjL,c196,c1,eq_true h1,d1]
   exact⟨c2.trans d2,_,_,⟨_,_,_,_,d3⟩,rfl,fun _=>⟨rfl,rfl⟩⟩
  .simp[zjL,c196,c1,h1]
   exact⟨c2,_,_,⟨_,_,_,_,c3⟩,rfl,fun _=>⟨rfl,by simp⟩⟩
 .rw[if_pos hf]
  have d1:=zdW c3 hf 0 n
  by_cases h1:(evX x n 0).1=1
  .simp[zjL,c196,c1,eq_true h1,d1]
   exact⟨c2,_,_,⟨_,_,_,_,c3⟩,rfl,fun h=>absurd h hf⟩
  .simp[zjL,c196,c1,h1]
   exact⟨c2,_,_,⟨_,_,_,_,c3⟩,rfl,fun h=>absurd h hf⟩
theorem zyb (h:RnD b H r ob x t 0 outs hv ho vs os) (hl:outs.length=outK x.kind) (hb:∀l∈outs,l.length≤1000000) {i n:Int} (hg:sgI x=0) (hn:isIt n=true) (k7:x.kind=7):
  okV (W.call (.clo 202 [] []) [.optr r 0 0 0,I i,I n] H) (fun v H'=>Did b H H' r ob x (zp x t i n) outs):=by
 have h2:outK x.kind=2:=by simp[outK,k7]
 rw[h2]at hl
 obtain⟨l,m,rfl⟩:=len2 hl
 obtain⟨v,H1,c1,rfl,c2,c3⟩:=zz.1 (zhB h hg (.inr (.inr (.inl k7))) n 0 hn rfl)
 have e9:snd9 x 0=0:=by unfold snd9;split<;>rfl
 rw[e9]at c1 c3
 have hmv:zp x t i n=if (evX x n 0).2≠0 then (ssZ,[],(evX x n 0).2) else (t,if (evX x n 0).1=1 then [[n],[]] else [[],[n]],0):=by simp[zp,k7]
 have w0:IntKind.wrap .i64 0=0:=zr (by omega) (by omega)
 have w1:IntKind.wrap .i64 1=1:=zr (by omega) (by omega)
 rw[hmv,zj Φ202]
 by_cases hf:(evX x n 0).2=0
 .rw[if_neg (by simp[hf])]
  rw[hf]at c3
  rcases zAU hg (.inr k7) n hf with h1|h1
  .rw[h1]at c1
   obtain⟨v,H',d1,rfl,d2,vs',os',d3⟩:=zz.1 (zb4 c3 (o:=1) rfl (by have:=hb m (by simp);omega) n)
   simp at d1
   simp[zl3,c202,c1,w1,d1]
   refine⟨c2.trans d2,_,_,⟨_,_,_,_,d3⟩,rfl,fun _=>⟨rfl,by simp[h1]⟩⟩
  .rw[h1]at c1
   obtain⟨v,H',d1,rfl,d2,vs',os',d3⟩:=zz.1 (zb4 c3 (o:=0) rfl (by have:=hb l (by simp);omega) n)
   simp at d1
   simp[zl3,c202,c1,w0,d1]
   refine⟨c2.trans d2,_,_,⟨_,_,_,_,d3⟩,rfl,fun _=>⟨rfl,by simp[h1]⟩⟩
 .rw[if_pos hf]
  have d1:=fun o=>zdW c3 hf o n
  simp[zl3,c202,c1,d1]
  exact⟨c2,_,_,⟨_,_,_,_,c3⟩,rfl,fun h=>absurd h hf⟩
theorem zyc (h:RnD b H r ob x t 0 outs hv ho vs os) (hl:outs.length=outK x.kind) (hb:∀l∈outs,l.length≤1000000) {i n:Int} (hg:sgI x=0) (hc:0≤t.count) (k6:x.kind=6):
  okV (W.call (.clo 201 [] []) [.optr r 0 0 0,I i,I n] H) (fun v H'=>Did b H H' r ob x (zp x t i n) outs):=by
 rw[zfu (by omega) (by omega)]at hl
 obtain⟨l,rfl⟩:=len1 hl
 have hs:=zaZ hg
 have hM:zH x.kind=200:=by simp[zH,k6]
 have hmv:zp x t i n=if t.count<x.size then ({t with count:=t.count+1},[[n]],0) else (t,[[]],0):=by simp[zp,k6]
 rw[hmv,zj Φ201]
 by_cases hlt:t.count<x.size
 .have w:IntKind.wrap .i64 (t.count+1)=t.count+1:=zr (by omega) (by omega)
  have c3:=h.setR (t':={t with count:=t.count+1}) (err':=0) rfl
  obtain⟨v,H',d1,rfl,d2,vs',os',d3⟩:=zz.1 (zb4 c3 (o:=0) rfl (by have:=hb l (by simp);omega) n)
  simp at d1
  simp[zop,c201,h.rb,hlt,w,d1]
  exact⟨(zQ h _).trans d2,_,_,⟨_,_,_,_,d3⟩,rfl,fun _=>⟨rfl,rfl⟩⟩
 .simp[zop,c201,h.rb,hlt]
  exact⟨Keep.refl _ _,_,_,⟨_,_,_,_,h⟩,rfl,fun _=>⟨rfl,by simp⟩⟩
theorem zya (h:RnD b H r ob x t 0 outs hv ho vs os) (hl:outs.length=outK x.kind) (hb:∀l∈outs,l.length≤1000000) {i n:Int} (hi:0≤i∧i≤1) (k8:x.kind=8):
  okV (W.call (.clo 204 [] [.eptr [.clo 192 [] []]]) [.optr r 0 0 0,I i,I n] H) (fun v H'=>Did b H H' r ob x (zp x t i n) outs):=by
 rw[zfu (by omega) (by omega)]at hl
 obtain⟨l,rfl⟩:=len1 hl
 have hmv:zp x t i n=({t with count:=1 - i},[[n]],0):=by simp[zp,k8]
 have w:IntKind.wrap .i64 (1 - i)=1 - i:=zr (by omega) (by omega)
 obtain⟨v,H',d1,rfl,d2,vs',os',d3⟩:=zz.1 (zb4 h (o:=0) rfl (by have:=hb l (by simp);omega) n)
 have d0:W.call (.clo 192 [] []) [.optr r 0 0 0,I i,I n] H=some (.tuple [],H'):=by
  rw[zj Φ192]
  simp at d1
  simp[zrF,c192,d1]
 have d4:=d3.setR (t':={t with count:=1 - i}) (err':=0) rfl
 rw[hmv,zj Φ204]
 simp[zrA,c204,d0,d3.rb,w]
 exact⟨d2.trans (zQ d3 _),_,_,⟨_,_,_,_,d4⟩,rfl,fun _=>⟨rfl,rfl⟩⟩
theorem zwo (h:RnD b H r ob x t 0 outs hv ho vs os) (hl:outs.length=outK x.kind) {i n:Int} (k10:x.kind=10):
  okV (W.call (.clo 207 [] []) [.optr r 0 0 0,I i,I n] H) (fun v H'=>Did b H H' r ob x (zp x t i n) outs):=by
 have h2:outK x.kind=0:=by simp[outK,k10]
 rw[h2]at hl
 have:outs=[]:=List.length_eq_zero_iff.1 hl
 subst this
 have hmv:zp x t i n=(t,[],0):=by simp[zp,k10]
 rw[hmv,zj Φ207]
 simp[zrz,c207]
 exact⟨Keep.refl _ _,_,_,⟨_,_,_,_,h⟩,rfl,fun _=>⟨rfl,rfl⟩⟩
end
section
variable {b:Nat} {H H':Heap} {r ob:Nat} {x:Sg} {t:SS} {err:Int} {outs:List (List Int)} {hv:AV} {ho:Option Nat} {vs:List AV} {os:Nat→Option Nat}
theorem znt (N:Nat) (hN:N≤1000) (n:Int):∀(m k:Nat) (H:Heap) (l:List Int) (vs:List AV) (os:Nat→Option Nat),k+m=N→l.length+m≤1048576→RnD b H r ob x t 0 [l] hv ho vs os→
  okC (W.loop [0,2,10,11] znF [(0,.optr r 0 0 0),(2,I n),(10,I N),(11,I k)] H) (fun q F H'=>q= .exit 0∧Keep b H H'∧RnS b H' r ob x t 0 [l++List.replicate m n])
 |0,k,H,l,vs,os,hk,hb,h=>by
  have:k=N:=by omega
  subst this
  rw[zb]
  simp[zld,zlq]
  exact⟨Keep.refl _ _,_,_,_,_,h⟩
 |m+1,k,H,l,vs,os,hk,hb,h=>by
  have hlt:(k:Int)<N:=by omega
  have hlt':k<N:=by omega
  have hw:=zg (k:=k) (by omega)
  obtain⟨v,H1,d1,rfl,d2,vs',os',d3⟩:=zz.1 (zb4 h (o:=0) rfl (by omega) n)
  obtain⟨q,F,H2,e1,rfl,e2,e3⟩:=zc.1 (znt N hN n m (k+1) H1 (l++[n]) vs' os' (by omega) (by simp;omega) d3)
  rw[zb]
  simp at d1
  simp only[iNa,iCo]at e1
  simp[zld,zlq,hlt,hlt',d1,hw,e1]
  refine⟨d2.trans e2,?_⟩
  rw[List.append_assoc]at e3
  exact e3
theorem zyd (h:RnD b H r ob x t 0 outs hv ho vs os) (hl:outs.length=outK x.kind) (hb:∀l∈outs,l.length≤1000000) {i n:Int} (hg:sgI x=0) (k5:x.kind=5):
  okV (W.call (.clo 200 [] []) [.optr r 0 0 0,I i,I n] H) (fun v H'=>Did b H H' r ob x (zp x t i n) outs):=by
 rw[zfu (by omega) (by omega)]at hl
 obtain⟨l,rfl⟩:=len1 hl
 have hs:=zaZ hg
 have hM:zH x.kind=100:=by simp[zH,k5]
 have hL:zD x.kind=0:=by simp[zD,k5]
 have hsz:x.size=(x.size.toNat:Int):=by omega
 have hmv:zp x t i n=(t,[List.replicate x.size.toNat n],0):=by simp[zp,k5]
 obtain⟨q,F,H2,e1,rfl,e2,hv',ho',vs',os',e3⟩:=zc.1 (znt x.size.toNat (by omega) n x.size.toNat 0 H l vs os (by omega) (by have:=hb l (by simp);omega) h)
 rw[←hsz]at e1
 rw[hmv,zj Φ200]
 simp at e1
 simp[zrC,c200,h.rb,e1]
 exact⟨e2,_,_,⟨_,_,_,_,e3⟩,rfl,fun _=>⟨rfl,rfl⟩⟩
def Sum1 (b:Nat) (H H':Heap) (r ob:Nat) (x:Sg) (t:SS) (outs:List (List Int)) (hv:AV) (ho:Option Nat) (vs:List AV) (os:Nat→Option Nat) (rest:List Int) (n err:Int) (F:Fr):Prop:=
 ∃n' err',F.keep [0,2]=[(0,.optr r 0 0 0),(2,I n')]∧Keep b H H'∧RnD b H' r ob x t err' outs hv ho vs os∧(err=0→if (sumB rest n).2=0 then n'=(sumB rest n).1∧err'=0 else err'=14)∧(err≠0→err'=err)
theorem zt6 (hh:∀a∈t.held,isIt a=true):∀(rest:List Int) (k:Nat) (n:Int) (err:Int) (H:Heap),t.held.drop k=rest→k≤t.held.length→ -((k:Int)+1)* 1099511627776≤n∧n≤((k:Int)+1)* 1099511627776→RnD b H r ob x t err outs hv ho vs os→
  okC (W.loop [0,2,9,10,11] znG [(0,.optr r 0 0 0),(2,I n),(9,hv),(10,I t.held.length),(11,I k)] H)
   (fun q F H'=>q= .exit 0∧Sum1 b H H' r ob x t outs hv ho vs os rest n err F):=by
 intro rest
 induction rest with
 |nil=>
  intro k n err H hk hkl hn h
  have hlen:=zf hk hkl
  rw[zb]
  simp[ze2,zgC,hlen,h.hl.okO]
  exact⟨n,err,rfl,Keep.refl _ _,h,fun e=>by simp[sumB,e],fun _=>rfl⟩
 |cons a rest ih=>
  intro k n err H hk hkl hn h
  obtain⟨hlt,ha,hr⟩:=zn hk
  have hlt':(k:Int)<t.held.length:=by omega
  have hbd:=h.hl.bound
  have hw:=zg (k:=k) (by omega)
  obtain⟨p,p1,p2,p3⟩:=h.hl.at ha
  have hia:=(zo a).1 (hh a (lMg ha))
  have wn:IntKind.wrap .i64 (n+a)=n+a:=zr (by omega) (by omega)
  have c1:=e116 (n+a)
  have hn': -(((k+1:Nat):Int)+1)* 1099511627776≤n+a∧n+a≤(((k+1:Nat):Int)+1)* 1099511627776:=by
   constructor<;>(simp only[iNa,iCo];omega)
  rw[zb]
  cases hi:isIt (n+a) with
  |true=>
   rw[hi]at c1
   obtain⟨q,F,H2,e1,rfl,n',err',e2,e3,e4,e5,e6⟩:=zc.1 (ih (k+1) (n+a) err H hr hlt hn' h)
   simp only[iNa,iCo]at e1
   simp[ze2,zgC,hlt,hlt',h.hl.okO,p1,p2,p3,wn,c1,hw,e1]
   refine⟨n',err',e2,e3,e4,fun e=>?_,e6⟩
   .have:sumB (a::rest) n=sumB rest (n+a):=by simp[sumB,hi]
    rw[this];exact e5 e
  |false=>
   rw[hi]at c1
   by_cases he:err=0
   .subst he
    have h2:=h.setR (t':=t) (err':=14) rfl
    obtain⟨q,F,H2,e1,rfl,n',err',e2,e3,e4,e5,e6⟩:=zc.1 (ih (k+1) (n+a) 14 _ hr hlt hn' h2)
    simp only[iNa,iCo]at e1
    simp[ze2,zgC,hlt,hlt',h.hl.okO,p1,p2,p3,wn,c1,hw,e1,h.rb]
    refine⟨n',err',e2,(zQ h _).trans e3,e4,fun _=>?_,fun h=>absurd rfl h⟩
    .have:sumB (a::rest) n=(0,14):=by simp[sumB,hi]
     rw[this,if_neg (by decide)];exact e6 (by decide)
   .obtain⟨q,F,H2,e1,rfl,n',err',e2,e3,e4,e5,e6⟩:=zc.1 (ih (k+1) (n+a) err H hr hlt hn' h)
    simp only[iNa,iCo]at e1
    simp[ze2,zgC,hlt,hlt',h.hl.okO,p1,p2,p3,wn,c1,hw,e1,h.rb,he]
    exact⟨n',err',e2,e3,e4,fun h=>absurd h he,fun _=>e6 he⟩
theorem zo8 (h:RnD b H r ob x t 0 outs hv ho vs os) (hh:∀a∈t.held,isIt a=true) {l:List Int} (hl:outs=[l]) (hb:l.length≤1000000):
  okV (W.call (.clo 199 [] []) [.optr r 0 0 0] H) (fun v H'=>v= .tuple []∧Keep b H H'∧∃outs',RnS b H' r ob x {t with held:=[]} (sumB t.held 0).2 outs'∧outs'.length=1∧((sumB t.held 0).2=0→outs'=[l++[(sumB t.held 0).1]])):=by
 subst hl
 have hE:(sumB t.held 0).2=0∨(sumB t.held 0).2=14:=by
  have key:∀(l:List Int) (n:Int),(sumB l n).2=0∨(sumB l n).2=14:=by
   intro l
   induction l with
   |nil=>intro n;exact .inl rfl
   |cons a r ih=>intro n;unfold sumB;split;exact ih _;exact .inr rfl
  exact key _ _
 obtain⟨q,F,H1,e1,rfl,n',err',e2,e3,e4,e5,_⟩:=zc.1 (zt6 hh t.held 0 0 0 H rfl (by omega) (by omega) h)
 have e5:=e5 rfl
 have hnil:∀{H:Heap} {outs:List (List Int)} {err:Int} {vs:List AV} {os:Nat→Option Nat},RnD b H r ob x t err outs hv ho vs os→RnD b (H.set r (.arr 0 14 false [rnA x (.isl (some true) 0 []) t.count t.ended ob outs.length err])) r ob x {t with held:=[]} err outs (.isl (some true) 0 []) none vs os:=by
  intro H outs err vs os h
  exact h.setH (t':={t with held:=[]}) zha (by simp) (by simp) (by simp) (by simp)
 have e2a:F.get 0= .optr r 0 0 0:=by have:=congrArg (fun l=>l.head?) e2;simpa using this
 have e2b:F.get 2=I n':=by simp at e2;exact e2.2
 rw[zj Φ199]
 simp at e1
 by_cases hz:(sumB t.held 0).2=0
 .rw[if_pos hz]at e5
  obtain⟨rfl,rfl⟩:=e5
  obtain⟨v,H2,d1,rfl,d2,vs',os',d3⟩:=zz.1 (zb4 e4 (o:=0) rfl (by omega) (sumB t.held 0).1)
  simp at d1
  simp[zoq,c199,h.rb,h.hl.okO,h.hl.len,e1,e2a,e2b,d1,d3.rb]
  rw[hz]
  exact⟨(e3.trans d2).trans (zQ d3 _),_,⟨_,_,_,_,hnil d3⟩,rfl,fun _=>rfl⟩
 .rw[if_neg hz]at e5
  subst e5
  have d1:=zdW e4 (by decide) 0 n'
  simp[zoq,c199,h.rb,h.hl.okO,h.hl.len,e1,e2a,e2b,d1,e4.rb]
  rw[hE.resolve_left hz]
  exact⟨e3.trans (zQ e4 _),_,⟨_,_,_,_,hnil e4⟩,rfl,fun h=>absurd h (by decide)⟩
end
theorem zsn {v:AV} {l:List Int} (H:Heap) (hx:l.length≤1048576) (he:zaH (H++[.arr 0 1 false []]) 1 v=some (l.map I)):
  ex (H++[.arr 0 1 false []]) (.app 1) [.osl H.length 0 0 0,v]=some (.osl H.length l.length 0 l.length,H++[.arr l.length 1 false (l.map I)]):=by
 have hall:(l.map I).all (fun e=>e.cells.all AV.cell)=true:=zlu (by simp) l
 have h0:truncH (H++[.arr 0 1 false []]) (.osl H.length 0 0 0)=H++[.arr 0 1 false []]:=by simp[truncH]
 simp only[ex,he,hall,if_true,h0]
 cases l with
 |nil=>simp[zb3]
 |cons a r=>
  simp only[lLc]at hx
  simp[zb3,zaA]
  omega
theorem zlm {H:Heap} {ho:Option Nat} {hv:AV} {l:List Int} (h:zas H ho hv l) (hl:l.length+1≤1048576) (n:Int):∃v' H1 v2 H2 ver,W.call (.clo 44 [] []) [hv] H=some (v',H1)∧okO v'=some v'∧Kept none H H1∧ex H1 (.app 1) [v',.isl (some false) 1 [I n]]=some (v2,H2)∧
  v2= .osl H.length ver 0 (l++[n]).length∧zas H2 (some H.length) v2 (l++[n])∧Kept none H H2:=by
 have own:∀H1,H1=H++[.arr l.length 1 false (l.map I)]→ex H1 (.app 1) [.osl H.length l.length 0 l.length,.isl (some false) 1 [I n]]=some (.osl H.length (l.length+1) 0 (l.length+1),H++[.arr (l.length+1) 1 false ((l++[n]).map I)]):=by
  rintro H1 rfl
  rw[zE (l:=l) (by simp) (by omega) n]
  simp
 have fin:∀ver,zas (H++[.arr ver 1 false ((l++[n]).map I)]) (some H.length) (.osl H.length ver 0 (l++[n]).length) (l++[n]):=fun ver=>⟨ver,rfl,by simp,by simp,by simpa using hl⟩
 cases ho with
 |none=>
  obtain⟨y,rfl,rfl,hy⟩:=h
  have c:=zo7 y hy H
  by_cases hnl:y.nl=some true
  .have hy0:y.l=[]:=by rcases hy.1 with⟨_,h⟩|h;exact h;rw[hnl]at h;cases h
   have e1:zaN I 1 y H=(.isl (some true) 0 [],H):=by unfold zaN;rw[if_pos hnl]
   rw[e1]at c
   refine⟨_,_,_,_,0,c,rfl,Kept.refl _ _,za0 H 0 n,?_,?_,Kept.append _ _ _⟩
   .rw[hy0];rfl
   .have:=fin 0;rw[hy0]at this⊢;exact this
  .have e1:zaN I 1 y H=(.osl H.length y.l.length 0 y.l.length,H++[.arr y.l.length 1 false (y.l.map I)]):=by unfold zaN;rw[if_neg hnl]
   rw[e1]at c
   refine⟨_,_,_,_,y.l.length+1,c,rfl,Kept.append _ _ _,own _ rfl,by simp,?_,Kept.append _ _ _⟩
   have:=fin (y.l.length+1)
   simpa using this
 |some id=>
  have he:=h.kept (Kept.append none H [.arr 0 1 false []]) (by simp)
  have hel:=zsn H (by omega) he.elems
  have ho2:=h.okO
  obtain⟨ver,rfl,h2,h3,h4⟩:=h
  have c:W.call (.clo 44 [] []) [.osl id ver 0 l.length] H=some (.osl H.length l.length 0 l.length,H++[.arr l.length 1 false (l.map I)]):=by
   rw[zj Φ44]
   simp[fi44,c44,hel]
  refine⟨_,_,_,_,l.length+1,c,rfl,Kept.append _ _ _,own _ rfl,by simp,?_,Kept.append _ _ _⟩
  have:=fin (l.length+1)
  simpa using this
section
variable {b:Nat} {H H':Heap} {r ob:Nat} {x:Sg} {t:SS} {err:Int} {outs:List (List Int)} {hv:AV} {ho:Option Nat} {vs:List AV} {os:Nat→Option Nat}
theorem zye (h:RnD b H r ob x t 0 outs hv ho vs os) (hl:outs.length=outK x.kind) (hb:∀l∈outs,l.length≤1000000) {i n:Int} (hg:sgI x=0) (hs:ssB x t=true) (hn:isIt n=true) (k4:x.kind=4):
  okV (W.call (.clo 197 [] []) [.optr r 0 0 0,I i,I n] H) (fun v H'=>Did b H H' r ob x (zp x t i n) outs):=by
 rw[zfu (by omega) (by omega)]at hl
 obtain⟨l,rfl⟩:=len1 hl
 obtain⟨f1,f2,f3,f4⟩:=zK hs
 have hsz:=zaZ hg
 have hM:zH x.kind=100:=by simp[zH,k4]
 have hL:zD x.kind=1:=by simp[zD,k4]
 have hH:zT x=x.size - 1:=by simp[zT,k4]
 obtain⟨v',H1,v2,H2,ver,c1,c2,c3,c4,rfl,c5,c6⟩:=zlm h.hl (by omega) n
 have h1:=h.kept c3
 have h2:=h.kept c6
 have hrlt:=h.rlt;have holt:=h.olt
 have h3:=h2.setH (t':={t with held:=t.held++[n]}) (hv':= .osl H.length ver 0 (t.held++[n]).length) (ho':=some H.length) c5 (by simp;omega) (by simp;omega) (fun i id hi e=>by cases e;have:=h.o4 i _ hi;omega) (fun id e=>by cases e;exact h.blen) (err':=0)
 have hmv:zp x t i n=if ((t.held.length:Int)+1<x.size) then ({t with held:=t.held++[n]},[[]],0)
  else if (sumB (t.held++[n]) 0).2≠0 then (ssZ,[],(sumB (t.held++[n]) 0).2) else ({t with held:=[]},[[(sumB (t.held++[n]) 0).1]],0):=by simp[zp,k4]
 have hk2:Keep b H (H2.set r (.arr 0 14 false [rnA x (.osl H.length ver 0 (t.held++[n]).length) t.count t.ended ob 1 0])):=(Keep.of c6 h.blen).trans (zQ h2 _)
 rw[hmv,zj Φ197]
 by_cases hlt:(t.held.length:Int)+1<x.size
 .rw[if_pos hlt]
  have hne:¬(t.held.length:Int)+1=x.size:=by omega
  simp at c4 h3 hk2
  simp[zos,c197,h.rb,h.hl.okO,c1,c2,c4,h1.rb,h2.rb,hne,h3.rb,gEz, -getElem?_pos]
  exact⟨hk2,_,_,⟨_,_,_,_,h3⟩,rfl,fun _=>⟨rfl,by simp⟩⟩
 .rw[if_neg hlt]
  have he:(t.held.length:Int)+1=x.size:=by omega
  have hall:∀a∈t.held++[n],isIt a=true:=by
   intro a ha
   rcases List.mem_append.1 ha with ha|ha
   .exact f4 a ha
   .simp at ha;subst ha;exact hn
  obtain⟨v,H3,d1,rfl,d2,outs',d3,d4,d5⟩:=zz.1 (zo8 h3 hall (l:=l) rfl (hb l (by simp)))
  simp at c4 h3 hk2 d1 d2
  simp[zos,c197,h.rb,h.hl.okO,c1,c2,c4,h1.rb,h2.rb,he,h3.rb,d1,gEz, -getElem?_pos]
  by_cases hz:(sumB (t.held++[n]) 0).2=0
  .rw[if_pos hz]
   rw[hz]at d3
   exact⟨hk2.trans d2,_,outs',d3,d4,fun _=>⟨rfl,d5 hz⟩⟩
  .rw[if_neg hz]
   exact⟨hk2.trans d2,_,outs',d3,d4,fun h=>absurd h hz⟩
theorem and2 (c:Int) (h0:0≤c) (h3:c≤3):zlp .i64 c 2=if 2≤c then 2 else 0:=by
 have:c=0∨c=1∨c=2∨c=3:=by omega
 rcases this with rfl|rfl|rfl|rfl<;>decide
theorem zx9 (h:RnD b H r ob x t 0 outs hv ho vs os) (hl:outs.length=outK x.kind) (hb:∀l∈outs,l.length≤1000000) {i n:Int} (hg:sgI x=0) (hs:ssB x t=true) (hn:isIt n=true) (k9:x.kind=9):
  okV (W.call (.clo 205 [] []) [.optr r 0 0 0,I i,I n] H) (fun v H'=>Did b H H' r ob x (zp x t i n) outs):=by
 rw[zfu (by omega) (by omega)]at hl
 obtain⟨l,rfl⟩:=len1 hl
 obtain⟨f1,f2,f3,f4⟩:=zK hs
 have hC:zI x=3:=by simp[zI,k9]
 have hH:zT x=1:=by simp[zT,k9]
 rw[zj Φ205]
 by_cases hi:i=0
 .have hmv:zp x t i n=if 2≤t.count then (t,[[]],0) else ({t with held:=[n]},[[]],0):=by simp[zp,k9,hi]
  have ha:=and2 t.count f1 (by omega)
  rw[hmv]
  by_cases h2:2≤t.count
  .rw[if_pos h2]at ha⊢
   simp[ziG,c205,hi,h.rb,ha]
   exact⟨Keep.refl _ _,_,_,⟨_,_,_,_,h⟩,rfl,fun _=>⟨rfl,by simp⟩⟩
  .rw[if_neg h2]at ha⊢
   simp[ziG,c205,hi,h.rb,ha]
   have h3:=h.setH (t':={t with held:=[n]}) (hv':= .isl (some false) 1 [I n]) (ho':=none) ⟨ofL 1 [n],rfl,rfl,zO (by simp)⟩ (by simp) (by simp) (by simp) (by simp) (err':=0)
   exact⟨zQ h _,_,_,⟨_,_,_,_,h3⟩,rfl,fun _=>⟨rfl,by simp⟩⟩
 .cases hh:t.held with
  |nil=>
   have hmv:zp x t i n=(t,[[]],0):=by simp[zp,k9,hi,hh]
   have hlen:=h.hl.len
   rw[hh]at hlen
   rw[hmv]
   simp[ziG,c205,hi,h.rb,h.hl.okO,hlen]
   exact⟨Keep.refl _ _,_,_,⟨_,_,_,_,h⟩,rfl,fun _=>⟨rfl,by simp⟩⟩
  |cons a rest=>
   have hr0:rest=[]:=by
    rw[hh]at f3;simp at f3
    exact List.length_eq_zero_iff.1 (by omega)
   subst hr0
   have hmv:zp x t i n=if (evX x a n).2≠0 then (ssZ,[],(evX x a n).2) else ({t with held:=[]},[[(evX x a n).1]],0):=by simp[zp,k9,hi,hh]
   have hlen:=h.hl.len
   rw[hh]at hlen
   obtain⟨p,p1,p2,p3⟩:=h.hl.at (k:=0) (a:=a) (by rw[hh];rfl)
   have h3:=h.setH (t':={t with held:=[]}) zha (by simp) (by simp) (by simp) (by simp) (err':=0)
   obtain⟨v,H1,c1,rfl,c2,c3⟩:=zz.1 (zhB h3 hg (.inr (.inr (.inr k9))) a n (f4 a (by rw[hh];simp)) hn)
   have e9:snd9 x n=n:=by simp[snd9,k9]
   rw[e9]at c1 c3
   rw[hmv]
   simp at p1 c1
   by_cases hf:(evX x a n).2=0
   .rw[if_neg (by simp[hf])]
    rw[hf]at c3
    obtain⟨v,H',d1,rfl,d2,vs',os',d3⟩:=zz.1 (zb4 c3 (o:=0) rfl (by have:=hb l (by simp);omega) (evX x a n).1)
    simp at d1
    simp[ziG,c205,hi,h.rb,h.hl.okO,hlen,p1,p2,p3,c1,d1]
    exact⟨((zQ h _).trans c2).trans d2,_,_,⟨_,_,_,_,d3⟩,rfl,fun _=>⟨rfl,rfl⟩⟩
   .rw[if_pos hf]
    have d1:=zdW c3 hf 0 (evX x a n).1
    simp[ziG,c205,hi,h.rb,h.hl.okO,hlen,p1,p2,p3,c1,d1]
    exact⟨(zQ h _).trans c2,_,_,⟨_,_,_,_,c3⟩,rfl,fun h=>absurd h hf⟩
end
theorem zhw {x:Sg} {t:SS} {i:Int} (h:endE x t i=0):sgI x=0∧ssB x t=true∧t.ended=false∧(x.kind=1→i= -1)∧(x.kind≠1→0≤i∧i<inK x.kind∧zaz x t i=false):=by
 unfold endE at h
 split at h
 .rename_i h1;exact absurd h h1
 .rename_i h1
  obtain⟨g1,g2⟩:=zw.1 (show zal x t=0 by omega)
  split at h
  .cases h
  .rename_i h2
   split at h
   .cases h
   .rename_i h3
    refine⟨g1,g2,?_,fun k1=>?_,fun k1=>⟨?_,?_,?_⟩⟩
    .cases he:t.ended with|false=>rfl|true=>exact absurd (.inl he) h3
    .exact cBc fun hi=>h2 (.inl ⟨k1,hi⟩)
    .exact cBc fun hi=>h2 (.inr ⟨k1,.inl (by omega)⟩)
    .exact cBc fun hi=>h2 (.inr ⟨k1,.inr (by omega)⟩)
    .cases he:zaz x t i with|false=>rfl|true=>exact absurd (.inr ⟨k1,he⟩) h3
theorem zkj:∀(l:List (List Int)) (n:Nat),l.length=n→zipA l (List.replicate n [])=l
 | [],_,_=>by simp
 |a::r,0,h=>by simp at h
 |a::r,n+1,h=>by
  have:=zkj r n (by simpa using h)
  simp only[List.replicate_succ,List.zipWith_cons_cons,List.append_nil]
  show a::zipA r (List.replicate n [])=_
  rw[this]
theorem zBi (vs:List AV) (H:Heap):W.call (.clo 228 [] []) vs H=zhQ vs H:=by
 have h:Φ 228=none:=by kernel_rfl
 rw[zeb]
 simp[zf3,h,extM]
theorem zgs:∀l:List Int,zey (l.map I)=some l
 | []=>rfl
 |a::r=>by simp[zey,zgs r]
theorem zm3 {H:Heap} {id ver n:Nat} {l:List Int} (h:H[id]?=some (.arr ver 1 false (l.map I))) (hn:n=l.length) (h0:0<l.length) (hl:l.length≤1048576):W.call (.clo 228 [] []) [.osl id ver 0 n] H=some (.tuple [],H.set id (.arr ver 1 false ((zd4 l).map I))):=by
 subst hn
 rw[zBi]
 simp[zhQ,h,zgs,h0,hl]
section
variable {b:Nat} {H H':Heap} {r ob:Nat} {x:Sg} {t:SS} {err:Int} {outs:List (List Int)} {hv:AV} {ho:Option Nat} {vs:List AV} {os:Nat→Option Nat}
theorem zpZ (h:RnD b H r ob x t 0 outs hv ho vs os) (hl:outs.length=outK x.kind) (hb:∀l∈outs,l.length≤1000000) {i n:Int} (he:zbI x t i n=0):
  okV (W.call (tkK x.kind) [.optr r 0 0 0,I i,I n] H) (fun v H'=>Did b H H' r ob x (zp x t i n) outs):=by
 obtain⟨g1,g2,g3,g4,g5,g6⟩:=zdy he
 obtain⟨q1,q2⟩:=zb2 g1
 obtain⟨f1,f2,f3,f4⟩:=zK g2
 unfold tkK
 by_cases k1:x.kind=1
 .rw[if_pos k1];exact zyh h hl hb he k1
 rw[if_neg k1]
 by_cases k2:x.kind=2
 .rw[if_pos k2];exact zyg h hl hb g1 g4 k2
 rw[if_neg k2]
 by_cases k3:x.kind=3
 .rw[if_pos k3];exact zyf h hl hb g1 g4 k3
 rw[if_neg k3]
 by_cases k4:x.kind=4
 .rw[if_pos k4];exact zye h hl hb g1 g2 g4 k4
 rw[if_neg k4]
 by_cases k5:x.kind=5
 .rw[if_pos k5];exact zyd h hl hb g1 k5
 rw[if_neg k5]
 by_cases k6:x.kind=6
 .rw[if_pos k6];exact zyc h hl hb g1 f1 k6
 rw[if_neg k6]
 by_cases k7:x.kind=7
 .rw[if_pos k7];exact zyb h hl hb g1 g4 k7
 rw[if_neg k7]
 by_cases k8:x.kind=8
 .rw[if_pos k8]
  have hi:=zc7 (zw.2 ⟨g1,g2⟩) k1
  rw[g6 k1]at hi
  have h2:inK x.kind=2:=by simp[inK,k8]
  exact zya h hl hb (by omega) k8
 rw[if_neg k8]
 by_cases k9:x.kind=9
 .rw[if_pos k9];exact zx9 h hl hb g1 g2 g4 k9
 rw[if_neg k9]
 exact zwo h hl (by omega)
theorem end0 (h:RnD b H r ob x t 0 outs hv ho vs os) (hl:outs.length=outK x.kind) {i:Int} (k4:x.kind≠4) (k8:x.kind≠8) (k9:x.kind≠9):
  okV (W.call (.clo 193 [] []) [.optr r 0 0 0,I i] H) (fun v H'=>Did b H H' r ob x (endK x t i) outs):=by
 have hmv:endK x t i=({t with ended:=true},List.replicate (outK x.kind) [],0):=by simp[endK,k4,k8,k9]
 have h2:=h.setR (t':={t with ended:=true}) (err':=0) rfl
 rw[hmv,zj Φ193]
 simp[zrE,c193,h.rb]
 exact⟨zQ h _,_,_,⟨_,_,_,_,h2⟩,rfl,fun _=>⟨rfl,(zkj outs _ hl).symm⟩⟩
theorem end4 (h:RnD b H r ob x t 0 outs hv ho vs os) (hl:outs.length=outK x.kind) (hb:∀l∈outs,l.length≤1000000) {i:Int} (hs:ssB x t=true) (k4:x.kind=4):
  okV (W.call (.clo 198 [] []) [.optr r 0 0 0,I i] H) (fun v H'=>Did b H H' r ob x (endK x t i) outs):=by
 rw[zfu (by omega) (by omega)]at hl
 obtain⟨l,rfl⟩:=len1 hl
 obtain⟨f1,f2,f3,f4⟩:=zK hs
 have hmv:endK x t i=if t.held=[] then ({t with ended:=true},[[]],0) else if (sumB t.held 0).2≠0 then (ssZ,[],(sumB t.held 0).2) else (⟨[],t.count,true⟩,[[(sumB t.held 0).1]],0):=by simp[endK,k4]
 rw[hmv,zj Φ198]
 by_cases hh:t.held=[]
 .rw[if_pos hh]
  have hlen:lenV false hv=I 0:=by rw[h.hl.len,hh];rfl
  have h2:=h.setR (t':={t with ended:=true}) (err':=0) rfl
  simp[zor,c198,h.rb,h.hl.okO,hlen]
  exact⟨zQ h _,_,_,⟨_,_,_,_,h2⟩,rfl,fun _=>⟨rfl,by simp⟩⟩
 .rw[if_neg hh]
  have hpos:0<t.held.length:=List.length_pos_iff.2 hh
  have hpos':(0:Int)<t.held.length:=by omega
  obtain⟨v,H3,d1,rfl,d2,outs',d3,d4,d5⟩:=zz.1 (zo8 h f4 (l:=l) rfl (hb l (by simp)))
  obtain⟨hv3,ho3,vs3,os3,d6⟩:=d3
  have h2:=d6.setR (t':=⟨[],t.count,true⟩) (err':=(sumB t.held 0).2) rfl
  simp[zor,c198,h.rb,h.hl.okO,h.hl.len,hpos,hpos',d1,d6.rb]
  by_cases hz:(sumB t.held 0).2=0
  .rw[if_pos hz]
   rw[hz]at h2⊢
   exact⟨d2.trans (zQ d6 _),_,outs',⟨_,_,_,_,h2⟩,d4,fun _=>⟨rfl,d5 hz⟩⟩
  .rw[if_neg hz]
   exact⟨d2.trans (zQ d6 _),_,outs',⟨_,_,_,_,h2⟩,d4,fun h=>absurd h hz⟩
theorem or2 (c i:Int) (h:(i=0∧(c=0∨c=2))∨(i=1∧(c=0∨c=1))):zv5 .i64 c (shlI .i64 1 i)=c+i+1:=by
 rcases h with⟨rfl,rfl|rfl⟩|⟨rfl,rfl|rfl⟩<;>decide
theorem end9 (h:RnD b H r ob x t 0 outs hv ho vs os) (hl:outs.length=outK x.kind) {i:Int} (he:endE x t i=0) (k9:x.kind=9):
  okV (W.call (.clo 206 [] []) [.optr r 0 0 0,I i] H) (fun v H'=>Did b H H' r ob x (endK x t i) outs):=by
 obtain⟨g1,g2,g3,g4,g5⟩:=zhw he
 obtain⟨f1,f2,f3,f4⟩:=zK g2
 have hC:zI x=3:=by simp[zI,k9]
 obtain⟨i0,i1,i2⟩:=g5 (by omega)
 have hin:inK x.kind=2:=by simp[inK,k9]
 rw[zfu (by omega) (by omega)]at hl
 obtain⟨l,rfl⟩:=len1 hl
 have hcase:(i=0∧(t.count=0∨t.count=2))∨(i=1∧(t.count=0∨t.count=1)):=by
  unfold zaz at i2
  rw[if_neg (by omega),if_pos k9]at i2
  have i2:=of_decide_eq_false i2
  omega
 have hor:=or2 t.count i hcase
 have hmv:endK x t i=(⟨if i=1 then [] else t.held,t.count+i+1,decide (t.count+i+1=3)⟩,[[]],0):=by simp[endK,k9]
 have hn:¬i<0:=by omega
 have hs:∀B,(H.set r B)[r]?=some B:=fun B=>gEt h.rlt
 rw[hmv,zj Φ206]
 by_cases hi:i=1
 .have h2:=h.setR (t':={t with count:=t.count+i+1}) (err':=0) rfl
  have h3:=h2.setH (t':={t with held:=[],count:=t.count+i+1}) zha (by simp) (by simp) (by simp) (by simp) (err':=0)
  have h4:=h3.setR (t':=⟨[],t.count+i+1,decide (t.count+i+1=3)⟩) (err':=0) rfl
  simp only[List.set_set]at h4
  simp[zoo,c206,h.rb,hn,hor,eq_true hi,hs]
  exact⟨zQ h _,_,_,⟨_,_,_,_,h4⟩,rfl,fun _=>⟨rfl,by simp⟩⟩
 .have h2:=h.setR (t':={t with count:=t.count+i+1}) (err':=0) rfl
  have h4:=h2.setR (t':=⟨t.held,t.count+i+1,decide (t.count+i+1=3)⟩) (err':=0) rfl
  simp only[List.set_set]at h4
  simp[zoo,c206,h.rb,hn,hor,hi,hs]
  exact⟨zQ h _,_,_,⟨_,_,_,_,h4⟩,rfl,fun _=>⟨rfl,by simp⟩⟩
theorem RnD.resort {id ver:Nat} (h:RnD b H r ob x t err outs (.osl id ver 0 t.held.length) (some id) vs os) {l:List Int} (hl:l.length=t.held.length) (hne:l≠[]) (hb:l.length≤1048576):
  RnD b (H.set id (.arr ver 1 false (l.map I))) r ob x {t with held:=l} err outs (.osl id ver 0 t.held.length) (some id) vs os:=by
 have hk:Kept (some id) H (H.set id (.arr ver 1 false (l.map I))):=Kept.set _ _ _
 refine⟨hk.get h.h1 h.rb,hk.get h.h2 h.obk,h.ne,⟨ver,by rw[hl],gEt h.hl.lt,hne,hb⟩,h.h1,h.h2,h.len,fun i m hi=>?_,h.o1,h.o2,h.o3,fun i j hi=>by have:=h.o4 i j hi;simpa using this,h.br,h.bo,h.bh,h.bs⟩
 obtain⟨v,h1,h2⟩:=h.gr i m hi
 exact⟨v,h1,h2.kept hk (fun j e=>by cases e;exact fun e=>h.o2 i _ e rfl)⟩
theorem end8 (h:RnD b H r ob x t 0 outs hv ho vs os) (hl:outs.length=outK x.kind) {i:Int} (he:endE x t i=0) (k8:x.kind=8):
  okV (W.call (.clo 203 [] []) [.optr r 0 0 0,I i] H) (fun v H'=>Did b H H' r ob x (endK x t i) outs):=by
 obtain⟨g1,g2,g3,g4,g5⟩:=zhw he
 obtain⟨f1,f2,f3,f4⟩:=zK g2
 have hH:zT x=2:=by simp[zT,k8]
 obtain⟨i0,i1,i2⟩:=g5 (by omega)
 have hin:inK x.kind=2:=by simp[inK,k8]
 rw[zfu (by omega) (by omega)]at hl
 obtain⟨l,rfl⟩:=len1 hl
 have hni:i∉t.held:=by
  unfold zaz at i2
  rw[if_pos k8]at i2
  exact of_decide_eq_false i2
 have hmh:zap t.held=true:=by
  rw[zd3 ⟨f1,f2,f3⟩ (by simpa using f4),if_neg (by omega),if_pos k8]at g2
  simp only[bAt]at g2
  exact g2.1
 have hen:t.ended=decide (t.held.length=2):=by
  rw[zd3 ⟨f1,f2,f3⟩ (by simpa using f4),if_neg (by omega),if_pos k8]at g2
  simp only[bAt,beq_iff_eq]at g2
  exact g2.2
 have hcase:t.held=[]∨(t.held=[0]∧i=1)∨(t.held=[1]∧i=0):=by
  match hh:t.held,hmh with
  | [],_=>exact .inl rfl
  | [a],hm=>
   rw[hh]at hni
   simp[zap]at hm hni
   rcases hm with rfl|rfl
   .right;left;exact⟨rfl,by omega⟩
   .right;right;exact⟨rfl,by omega⟩
  | [a,c],hm=>
   rw[hh,g3]at hen
   simp at hen
 have hmv:endK x t i=if t.held=[] then ({t with held:=[i]},[[]],0) else (⟨[0,1],t.count,true⟩,[[]],0):=by simp[endK,k8]
 have hst:zd4 (t.held++[i])=if t.held=[] then [i] else [0,1]:=by
  rcases hcase with h|⟨h,h'⟩|⟨h,h'⟩
  .rw[h];rfl
  .rw[h,h'];rfl
  .rw[h,h'];rfl
 obtain⟨v',H1,v2,H2,ver,c1,c2,c3,c4,rfl,c5,c6⟩:=zlm h.hl (by omega) i
 have h1:=h.kept c3
 have h2:=h.kept c6
 have hrlt:=h.rlt;have holt:=h.olt
 have hne:H.length≠r:=by omega
 have h3:=h2.setH (t':={t with held:=t.held++[i]}) (hv':= .osl H.length ver 0 (t.held++[i]).length) (ho':=some H.length) c5 (by simp;omega) (by simp;omega) (fun j id hi e=>by cases e;have:=h.o4 j _ hi;omega) (fun id e=>by cases e;exact h.blen) (err':=0)
 have hlen3:(zd4 (t.held++[i])).length=(t.held++[i]).length:=by
  rcases hcase with h|⟨h,h'⟩|⟨h,h'⟩
  .rw[h];rfl
  .rw[h,h'];rfl
  .rw[h,h'];rfl
 obtain⟨ver2,w1,w2,w3,w4⟩:=h3.hl
 simp only[AV.osl.injEq,true_and,and_true]at w1
 subst w1
 have c7:=zm3 w2 rfl (by simp) (by simp only[List.length_append,List.length_singleton];omega)
 have h4:=h3.resort (l:=zd4 (t.held++[i])) hlen3 (by intro e;rw[e]at hlen3;simp at hlen3) (by rw[hlen3];simp only[List.length_append,List.length_singleton];omega)
 have h5:=h4.setR (t':=⟨zd4 (t.held++[i]),t.count,decide ((t.held.length:Int)+1=2)⟩) (err':=0) rfl
 have hk5:Keep b H _:=(((Keep.of c6 h.blen).trans (zQ h2 (.arr 0 14 false [rnA x (.osl H.length ver 0 (t.held++[i]).length) t.count t.ended ob 1 0]))).trans ⟨by simp,fun j hj=>by rw[gEn (by have:=h.blen;omega)];rfl⟩).trans (zQ h4 (.arr 0 14 false [rnA x (.osl H.length ver 0 (t.held++[i]).length) t.count (decide ((t.held.length:Int)+1=2)) ob 1 0]))
 have r4:=h4.rb
 have r3:=h3.rb
 rw[hmv,zj Φ203]
 simp at c4 c7 r3 r4
 simp[zrB,c203,h.rb,h.hl.okO,c1,c2,c4,h2.rb,r3,c7,r4,gEz, -getElem?_pos]
 have hla:(t.held++[i]).length=t.held.length+1:=by simp
 simp only[hla]at h5 hk5
 by_cases hh:t.held=[]
 .rw[if_pos hh]at hst⊢
  rw[hst]at h5 hk5⊢
  have e0:decide ((t.held.length:Int)+1=2)=false:=by rw[hh];rfl
  refine⟨hk5,_,[l],⟨_,_,_,_,h5⟩,rfl,fun _=>⟨?_,by simp⟩⟩
  simp only[e0,g3]
 .rw[if_neg hh]at hst⊢
  rw[hst]at h5 hk5⊢
  have e0:decide ((t.held.length:Int)+1=2)=true:=by
   rcases hcase with h|⟨h,h'⟩|⟨h,h'⟩
   .exact absurd h hh
   .rw[h];rfl
   .rw[h];rfl
  refine⟨hk5,_,[l],⟨_,_,_,_,h5⟩,rfl,fun _=>⟨?_,by simp⟩⟩
  simp only[e0]
theorem zvB (h:RnD b H r ob x t 0 outs hv ho vs os) (hl:outs.length=outK x.kind) (hb:∀l∈outs,l.length≤1000000) {i:Int} (he:endE x t i=0):
  okV (W.call (edK x.kind) [.optr r 0 0 0,I i] H) (fun v H'=>Did b H H' r ob x (endK x t i) outs):=by
 unfold edK
 by_cases k4:x.kind=4
 .rw[if_pos k4];exact end4 h hl hb (zhw he).2.1 k4
 rw[if_neg k4]
 by_cases k8:x.kind=8
 .rw[if_pos k8];exact end8 h hl he k8
 rw[if_neg k8]
 by_cases k9:x.kind=9
 .rw[if_pos k9];exact end9 h hl he k9
 rw[if_neg k9]
 exact end0 h hl k4 k8 k9
end
theorem zxN (x:Sg) (s:Ss) (ob n:Nat):bldV [.int .i64 0,.int .i64 0,.int .i64 0,.int .i64 0,.str [],.int .i64 0,.isl (some true) 0 [],.isl (some true) 0 [],.isl (some true) 0 [],.int .i64 0,.bool false,.isl (some true) 0 [],.int .i64 0,.int .i64 0] [(0,8),(8,3),(11,1)] [x.av,s.av,.osl ob 0 0 n]=rnA x (Sl.av I 1 s.held) s.count s.ended ob n 0:=rfl
@[simp] theorem rn_ok {x:Sg} {hv:AV} {c:Int} {e:Bool} {ob n:Nat} {err:Int}:okO (rnA x hv c e ob n err)=some (rnA x hv c e ob n err):=rfl
@[simp] theorem rn_len {x:Sg} {hv:AV} {c:Int} {e:Bool} {ob n:Nat} {err:Int}:(rnA x hv c e ob n err).cells.length=14:=rfl
theorem ztR {x:Sg} {hv:AV} {c:Int} {e:Bool} {ob n:Nat} {err:Int} (h:hv.cell=true):(rnA x hv c e ob n err).cells.all AV.cell=true:=by
 simp only[rnA,AV.cells,List.all_cons,h,List.all_nil]
 rfl
abbrev nilA:AV:= .isl (some true) 0 []
theorem zo9 (x:Sg) (hk:1≤x.kind∧x.kind≤10) (s:Ss) (H:Heap):W.call (.clo 117 [] []) [x.av,s.av] H=some (.optr (H.length+4) 0 0 0,H++[.arr 0 8 false [x.av],.arr 0 3 false [s.av],.arr 0 8 false [hdK x.kind],.arr 0 1 false (List.replicate (outK x.kind) nilA),.arr 0 14 false [rnA x (Sl.av I 1 s.held) s.count s.ended (H.length+3) (outK x.kind) 0]]):=by
 have c1:=e112 x.kind hk
 have h1:=zcd x.kind
 have h2:((outK x.kind:Nat):Int)≤1048576:=by omega
 have h3:outK x.kind≤1048576:=by omega
 have hb:=fun ob=>zxN x s ob (outK x.kind)
 have hc:=fun ob=>ztR (x:=x) (c:=s.count) (e:=s.ended) (ob:=ob) (n:=outK x.kind) (err:=0) (hv:=Sl.av I 1 s.held) rfl
 rw[zj Φ117]
 simp[zrV,c117,c1,h2,h3,hb,hc, -zao]
theorem ztb (x:Sg) (s:Ss) (hs:SlN s.held) (H:Heap):RnD (H.length+3) (H++[.arr 0 8 false [x.av],.arr 0 3 false [s.av],.arr 0 8 false [hdK x.kind],.arr 0 1 false (List.replicate (outK x.kind) nilA),.arr 0 14 false [rnA x (Sl.av I 1 s.held) s.count s.ended (H.length+3) (outK x.kind) 0]])
  (H.length+4) (H.length+3) x s.pl 0 (List.replicate (outK x.kind) []) (Sl.av I 1 s.held) none (List.replicate (outK x.kind) nilA) (fun _=>none):=by
 refine⟨by simp[Ss.pl],by simp,by omega,⟨s.held,rfl,rfl,hs⟩,by simp,by simp,by simp,fun i l hi=>?_,by simp,by simp,by simp,by simp,by omega,by omega,by simp,by simp⟩
 have hlt:=(gEs.1 hi).1
 simp only[List.length_replicate]at hlt
 rw[List.getElem?_replicate,if_pos hlt]at hi
 cases hi
 exact⟨nilA,by rw[List.getElem?_replicate,if_pos hlt],rfl,rfl⟩
theorem zre {H:Heap} {ho:Option Nat} {hv:AV} {l:List Int} (h:zas H ho hv l) (n:Nat):∃y:Sl Int,frz H (n+1) hv=some (Sl.av I 1 y)∧y.l=l∧SlN y:=by
 cases ho with
 |none=>obtain⟨y,rfl,h1,h2⟩:=h;exact⟨y,rfl,h1,h2⟩
 |some id=>obtain⟨ver,rfl,h1,h2,h3⟩:=h;exact⟨ofL 1 l,zaX h1 rfl,rfl,zO h3⟩
theorem ziA {H:Heap} {n:Nat}:∀{vs:List AV} {outs:List (List Int)} {os:Nat→Option Nat} (hl:vs.length=outs.length) (hg:∀(i:Nat) (l:List Int),outs[i]?=some l→∃v,vs[i]?=some v∧Grow H 1 (os i) v (l.map I)) (hb:∀l∈outs,l.length≤1048576),
  ∃ys:List (Sl Int),frzs (frz H (n+1)) vs=some (ys.map (Sl.av I 1))∧ys.map Sl.l=outs∧(∀y∈ys,SlN y)∧(vs.all (fun e=>e.cells.all AV.still)=true→vs=ys.map (Sl.av I 1))
 | [],[],os,_,_,_=>⟨[],rfl,rfl,by simp,fun _=>rfl⟩
 | [],a::r,os,h,_,_=>by simp at h
 |v::vs,[],os,h,_,_=>by simp at h
 |v::vs,l::outs,os,hl,hg,hb=>by
  obtain⟨w,h1,h2⟩:=hg 0 l rfl
  simp at h1;subst h1
  obtain⟨ys,e1,e2,e3,e4⟩:=ziA (H:=H) (n:=n) (vs:=vs) (outs:=outs) (os:=fun i=>os (i+1)) (by simpa using hl) (fun i m hi=>hg (i+1) m (by simpa using hi)) (fun m hm=>hb m (by simp[hm]))
  have hf:=h2.frz (n:=n) (zbn (by simp) l)
  cases ho:os 0 with
  |none=>
   rw[ho]at hf h2
   obtain⟨rfl,hl0⟩:=h2
   have hl0:l=[]:=by simpa using hl0
   subst hl0
   refine⟨za5::ys,?_,by simp[e2],?_,fun hh=>?_⟩
   .simp only[frzs,hf,e1,if_true];rfl
   .intro y hy;rcases lMc.1 hy with rfl|hy;exact zu;exact e3 y hy
   .simp only[List.all_cons,bAt]at hh
    rw[e4 hh.2];rfl
  |some id=>
   rw[ho,if_neg (by simp)]at hf
   rw[zcs]at hf
   refine⟨ofL 1 l::ys,?_,by simp[e2,ofL],?_,fun hh=>?_⟩
   .simp only[frzs,hf,e1];rfl
   .intro y hy;rcases lMc.1 hy with rfl|hy;exact zO (hb l (by simp));exact e3 y hy
   .exfalso
    rw[ho]at h2
    obtain⟨ver,t,rfl,_⟩:=h2
    simp[AV.cells,AV.still]at hh
theorem zrd {b:Nat} {H:Heap} {r ob:Nat} {x:Sg} {t:SS} {err:Int} {outs:List (List Int)} {hv:AV} {ho:Option Nat} {vs:List AV} {os:Nat→Option Nat} (h:RnD b H r ob x t err outs hv ho vs os) (hb:∀l∈outs,l.length≤1048576) (hn:outs.length≤1048576) (n:Nat):
  ∃o:Sl (Sl Int),frz H (n+2) (.osl ob 0 0 outs.length)=some (Sl.av (Sl.av I 1) 1 o)∧o.l.map Sl.l=outs∧SlN o∧∀y∈o.l,SlN y:=by
 obtain⟨ys,e1,e2,e3,e4⟩:=ziA (H:=H) (n:=n) h.len h.gr hb
 have hyl:ys.length=outs.length:=by rw[←e2];simp
 refine⟨ofL 1 ys,?_,e2,zO (by omega),e3⟩
 have et:(vs.drop 0).take outs.length=vs:=by rw[List.drop_zero,←h.len,List.take_length]
 have e0:frz H (n+2) (.osl ob 0 0 outs.length)=(match H[ob]? with
   |some (.arr v sz _ es)=>if v=0∧0+outs.length≤es.length then (if ((es.drop 0).take outs.length).all (fun e=>e.cells.all AV.still) then some (.isl (some false) sz ((es.drop 0).take outs.length)) else (frzs (frz H (n+1)) ((es.drop 0).take outs.length)).map (.isl (some false) sz)) else none
   |_=>none):=rfl
 rw[e0,h.obk]
 show (if 0=0∧0+outs.length≤vs.length then (if ((vs.drop 0).take outs.length).all (fun e=>e.cells.all AV.still) then some (AV.isl (some false) 1 ((vs.drop 0).take outs.length)) else (frzs (frz H (n+1)) ((vs.drop 0).take outs.length)).map (AV.isl (some false) 1)) else none)=_
 rw[if_pos ⟨rfl,by rw[h.len];omega⟩,et]
 by_cases ha:vs.all (fun e=>e.cells.all AV.still)=true
 .rw[if_pos ha,e4 ha,zcs]
 .rw[if_neg ha,e1,oMs,zcs]
def zSs:Ss:=⟨za5,0,false⟩
theorem zN:(.agg [.isl (some true) 0 [],I 0,.bool false]:AV)=zSs.av:=rfl
def MvV (m:SS×List (List Int)×Int) (t:Ss) (o:Sl (Sl Int)):Prop:=t.pl=m.1∧SlN t.held∧o.l.map Sl.l=m.2.1∧SlN o∧∀y∈o.l,SlN y
theorem zkG (e:Int):MvV (ssZ,[],e) zSs za5:=⟨rfl,zu,rfl,zu,by simp⟩
@[simp] theorem hd_ld6 (k:Int):zi false 1 ((hdK k).cells.drop 6)=tkK k:=rfl
@[simp] theorem hd_ld7 (k:Int):zi false 1 ((hdK k).cells.drop 7)=edK k:=rfl
@[simp] theorem tk_ok (k:Int):okO (tkK k)=some (tkK k):=by
 obtain⟨f,b,h,h2⟩:=zkl k
 rw[h]
 rcases h2 with rfl|rfl<;>rfl
@[simp] theorem ed_ok (k:Int):okO (edK k)=some (edK k):=by
 obtain⟨f,h⟩:=zli k
 rw[h];rfl
theorem zji:∀(n:Nat) (o:List (List Int)),o.length=n→zipA (List.replicate n []) o=o
 |0,[],_=>rfl
 |0,a::r,h=>by simp at h
 |n+1,[],h=>by simp at h
 |n+1,a::r,h=>by
  have:=zji n r (by simpa using h)
  simp only[List.replicate_succ,List.zipWith_cons_cons,List.nil_append]
  show a::zipA (List.replicate n []) r=_
  rw[this]
theorem zdF {n:Nat}:∀l∈List.replicate n ([]:List Int),l.length≤1000000:=by
 intro l hl
 rw[(List.mem_replicate.1 hl).2];simp
theorem zqr (x:Sg) (hg:sgI x=0) (t:SS) (i n:Int):∀o∈(zp x t i n).2.1,o.length≤1048576:=by
 intro o ho
 have:=zlO x t i n o ho
 have hs:=zaZ hg
 split at this
 .rename_i k5
  have hM:zH x.kind=100:=by simp[zH,k5]
  omega
 .omega
theorem RnD.low {b:Nat} {H:Heap} {r ob:Nat} {x:Sg} {t:SS} {err:Int} {outs:List (List Int)} {hv:AV} {ho:Option Nat} {vs:List AV} {os:Nat→Option Nat} (h:RnD b H r ob x t err outs hv ho vs os) {j:Nat} (hj:j<b) (B:Blk):RnD b (H.set j B) r ob x t err outs hv ho vs os:=by
 have hk:Kept (some j) H (H.set j B):=Kept.set _ _ _
 have h1:=h.br;have h2:=h.bo
 refine⟨hk.get (by simp;omega) h.rb,hk.get (by simp;omega) h.obk,h.ne,h.hl.kept hk (fun id e e'=>by cases e;have:=h.bh _ e';omega),h.h1,h.h2,h.len,fun i m hi=>?_,h.o1,h.o2,h.o3,fun i id hi=>by have:=h.o4 i id hi;simpa using this,h.br,h.bo,h.bh,h.bs⟩
 obtain⟨v,g1,g2⟩:=h.gr i m hi
 exact⟨v,g1,g2.kept hk (fun id e e'=>by cases e;have:=h.bs i _ e';omega)⟩
abbrev ssB3 (hv:AV) (t:SS):Blk:= .arr 0 3 false [.agg [hv,I t.count,.bool t.ended]]
theorem zcb (hv:AV) (c:Int) (e:Bool):ze [zSs.av] 0 0 (.agg [hv,I c,.bool e])=some [.agg [hv,I c,.bool e]]:=rfl
theorem znb {b:Nat} {H:Heap} {r ob:Nat} {x:Sg} {t:SS} {err:Int} {outs:List (List Int)} {j:Nat} (hj:j<b) (h:RnS b H r ob x t err outs) (hb:∀l∈outs,l.length≤1048576) (hn:outs.length≤2):∃(hv:AV) (t':Ss) (o:Sl (Sl Int)),
  H[r]?=some (.arr 0 14 false [rnA x hv t.count t.ended ob outs.length err])∧okO hv=some hv∧hv.cells=[hv]∧hv.cell=true∧frz (H.set j (ssB3 hv t)) 6 hv=some (Sl.av I 1 t'.held)∧frz (H.set j (ssB3 hv t)) 7 (.osl ob 0 0 outs.length)=some (Sl.av (Sl.av I 1) 1 o)∧t.count=t'.count∧t.ended=t'.ended∧t'.pl=t∧SlN t'.held∧o.l.map Sl.l=outs∧SlN o∧(∀y∈o.l,SlN y):=by
 obtain⟨hv,ho,vs,os,hD⟩:=h
 have hD2:=hD.low hj (ssB3 hv t)
 obtain⟨y,y1,y2,y3⟩:=zre hD2.hl 5
 obtain⟨o,o1,o2,o3,o4⟩:=zrd hD2 hb (by omega) 5
 exact⟨hv,⟨y,t.count,t.ended⟩,o,hD.rb,hD.hl.okO,hD.hl.cells,hD.hl.cell,y1,o1,rfl,rfl,by simp[Ss.pl,y2],y3,o2,o3,o4⟩
theorem zkI (x:Sg) (t:SS) (i n:Int) (h:(zp x t i n).2.2≠0):(zp x t i n).1=ssZ∧(zp x t i n).2.1=[]:=by
 by_cases k1:x.kind=1
 .simp[zp,k1]at h
 by_cases k2:x.kind=2
 .by_cases h1:(evX x n 0).2=0<;>simp[zp,k2,h1]at h⊢
 by_cases k3:x.kind=3
 .by_cases h1:(evX x n 0).2=0<;>simp[zp,k3,h1]at h⊢
 by_cases k4:x.kind=4
 .by_cases h1:(t.held.length:Int)+1<x.size
  .simp[zp,k4,h1]at h
  .by_cases h2:(sumB (t.held++[n]) 0).2=0<;>simp[zp,k4,h1,h2]at h⊢
 by_cases k5:x.kind=5
 .simp[zp,k5]at h
 by_cases k6:x.kind=6
 .by_cases h1:t.count<x.size<;>simp[zp,k6,h1]at h
 by_cases k7:x.kind=7
 .by_cases h1:(evX x n 0).2=0<;>simp[zp,k7,h1]at h⊢
 by_cases k8:x.kind=8
 .simp[zp,k8]at h
 by_cases k9:x.kind=9
 .by_cases h1:i=0
  .by_cases h2:2≤t.count<;>simp[zp,k9,h1,h2]at h
  .cases hh:t.held with
   |nil=>simp[zp,k9,h1,hh]at h
   |cons a r=>by_cases h2:(evX x a n).2=0<;>simp[zp,k9,h1,hh,h2]at h⊢
 .simp[zp,k1,k2,k3,k4,k5,k6,k7,k8,k9]at h
theorem zjj {x:Sg} {t:SS} {i n:Int} (h:zbI x t i n=0) (k1:x.kind=1):n=0:=by
 unfold zbI at h
 split at h
 .rename_i h1;exact absurd h h1
 .split at h
  .cases h
  .split at h
   .cases h
   .rename_i h3
    exact cBc fun hn=>h3 (.inr ⟨k1,hn⟩)
theorem zid (x:Sg) (t:SS):(zcy x t).length≤1:=by unfold zcy;split<;>simp
theorem e135 (x:Sg) (hx:x.items.l.length≤1048576) (s:Ss) (hs:SlN s.held) (i n:Int):
  ∃(t:Ss) (o:Sl (Sl Int)),W.pure 135 [x.av,s.av,I i,I n]=some (.tuple [t.av,Sl.av (Sl.av I 1) 1 o,I (zbs x s.pl i n).2.2])∧MvV (zbs x s.pl i n) t o:=by
 obtain⟨y,c1,c2,c3⟩:=e95 x hx s hs
 have cz:=zN
 by_cases hE:zbI x s.pl i n=0
 rotate_left
 .have hT:zbs x s.pl i n=(ssZ,[],zbI x s.pl i n):=by unfold zbs;rw[if_pos hE]
  rw[hT]
  refine⟨zSs,za5,?_,zkG _⟩
  rw[zd Φ135 (by simp)]
  unfold zbI at hE⊢
  by_cases hN:zal x s.pl=0
  rotate_left
  .rw[if_pos hN]
   simp[zdh,c135,c1,hN]
   exact⟨rfl,rfl⟩
  rw[if_neg (by simp[hN])]at hE⊢
  rw[hN]at c1 c2
  rw[if_pos rfl]at c2
  have c4:=zvL y (by rw[c2];have:=zid x s.pl;omega) i
  rw[c2]at c4
  have c5:=e116 n
  have hp1:s.pl.ended=s.ended:=rfl
  have hp2:s.pl.count=s.count:=rfl
  simp only[hp1,hp2]at hE⊢
  cases he:s.ended with
  |true=>rw[if_pos (.inl rfl)];simp[zdh,c135,c1,he];exact⟨rfl,rfl⟩
  |false=>
  by_cases k1:x.kind=1
  .have hw:(-(1:Int))= -1:=rfl
   by_cases hi:i= -1
   .by_cases hc:s.count=x.items.l.length
    .rw[if_pos (.inr (.inl ⟨k1,.inr hc⟩))];simp[zdh,c135,c1,he,k1,hi,eq_true hc];exact⟨rfl,rfl⟩
    .rw[if_neg (by rintro (h|⟨_,h|h⟩|⟨h,_⟩);exact absurd h (by simp[he]);exact h hi;exact hc h;exact h k1)]at hE⊢
     cases hn:isIt n with
     |false=>rw[if_pos (.inl rfl)];rw[hn]at c5;simp[zdh,c135,c1,he,k1,hi,hc,c5];exact⟨rfl,rfl⟩
     |true=>
      rw[hn]at c5 hE
      have hn0:n≠0:=fun h0=>hE (by rw[if_neg];rintro (h|⟨_,h⟩);cases h;exact h h0)
      rw[if_pos (.inr ⟨k1,hn0⟩)];simp[zdh,c135,c1,he,k1,hi,hc,c5,hn0];exact⟨rfl,rfl⟩
   .rw[if_pos (.inr (.inl ⟨k1,.inl hi⟩))];simp[zdh,c135,c1,he,k1,hi];exact⟨rfl,rfl⟩
  .have hL:zcy x s.pl=[za8 x s.pl]:=by unfold zcy;rw[if_neg];rintro (h|h);rw[hp1,he]at h;cases h;exact k1 h
   rw[hL]at c4
   by_cases hi:za8 x s.pl=i
   .rw[if_neg (by rintro (h|⟨h,_⟩|⟨_,h⟩);exact absurd h (by simp[he]);exact k1 h;exact h hi)]at hE⊢
    have c4':W.pure 171 [Sl.av I 1 y,I i]=some (.bool true):=by rw[c4];simp[hi]
    cases hn:isIt n with
    |false=>rw[if_pos (.inl rfl)];rw[hn]at c5;simp[zdh,c135,c1,he,k1,c4',c5];exact⟨rfl,rfl⟩
    |true=>
     exfalso
     rw[hn]at hE
     exact hE (by rw[if_neg];rintro (h|⟨h,_⟩);cases h;exact k1 h)
   .rw[if_pos (.inr (.inr ⟨k1,hi⟩))]
    have c4':W.pure 171 [Sl.av I 1 y,I i]=some (.bool false):=by rw[c4];simp;exact fun h=>hi h.symm
    simp[zdh,c135,c1,he,k1,c4'];exact⟨rfl,rfl⟩
 .obtain⟨g1,g2,g3,g4,g5,g6⟩:=zdy hE
  have hT:zbs x s.pl i n=zp x s.pl i n:=by unfold zbs;rw[if_neg (by simp[hE])]
  rw[hT]
  have hN:zal x s.pl=0:=zw.2 ⟨g1,g2⟩
  rw[hN]at c1 c2
  rw[if_pos rfl]at c2
  have hk:=zb2 g1
  have c4:=e116 n
  rw[g4]at c4
  have c5:=e112 x.kind hk
  have c6:=zo9 x hk s [.arr 0 8 false [x.av],.arr 0 3 false [s.av],.arr 0 3 false [zSs.av],.arr 0 8 false [hdK x.kind]]
  have hD:=ztb x s hs [.arr 0 8 false [x.av],.arr 0 3 false [s.av],.arr 0 3 false [zSs.av],.arr 0 8 false [hdK x.kind]]
  obtain⟨v,H',d1,d2,t',outs',d3,d4,d5⟩:=zz.1 (zpZ hD (by simp) zdF hE)
  simp only[lLc,List.length_nil,List.length_replicate,Nat.zero_add,Nat.reduceAdd]at d1 d2 d3 d4 d5 c6
  have hD2:=d2.2 2 (by omega)
  have hnE:s.ended=false:=g3
  have key:∀{Q:Prop},(∀(hh:H'[2]?=some (.arr 0 3 false [zSs.av])),Q)→Q:=fun h=>h (by rw[hD2];rfl)
  refine key fun hH2=>?_
  have run:∀(A:Option AV),((zam W zdh [x.av,s.av,I i,I n] []).bind fun p=>frz p.2 8 p.1)=A→W.pure 135 [x.av,s.av,I i,I n]=A:=fun A h=>by rw[zd Φ135 (by simp)];exact h
  have c8:x.kind≠1→W.pure 171 [Sl.av I 1 y,I i]=some (.bool true):=fun k1=>by
   have hL:zcy x s.pl=[za8 x s.pl]:=by unfold zcy;rw[if_neg];rintro (h|h);rw[g3]at h;cases h;exact k1 h
   have c7:=zvL y (by rw[c2];have:=zid x s.pl;omega) i
   rw[c2,hL,g6 k1]at c7
   rw[c7];simp
  simp[zN,hnE]at c6 d1
  by_cases hz:(zp x s.pl i n).2.2=0
  .obtain⟨rfl,rfl⟩:=d5 hz
   have hml:=zg1 hE hz
   rw[zji _ _ hml.1.len]at d3
   obtain⟨hv,t',o,p1,p2,p3,p4,p5,p6,p7,p8,p9,p10,p11,p12,p13⟩:=znb (j:=2) (by omega) d3 (zqr x g1 _ _ _) (by rw[hml.1.len];exact zcd _)
   rw[hz]at p1⊢
   have hl2:2<H'.length:=(gEs.1 hH2).1
   have hs2:∀B,(H'.set 2 B)[2]?=some B:=fun B=>gEt hl2
   have ap:apart (.optr 2 0 0 0) (.optr 8 0 0 11)=true:=rfl
   refine⟨t',o,run _ ?_,p9,p10,p11,p12,p13⟩
   by_cases k1:x.kind=1
   .have hi:=(g5 k1).1
    have hn0:=zjj hE k1
    have hc:¬s.count=x.items.l.length:=(g5 k1).2
    simp[zdh,c135,c1,hnE,eq_true k1,hc,eq_true hi,eq_true hn0,c4,c5,c6,d1,p1,p2,p3,p4,hH2,hs2,ap,zcb,zN,gEz, -getElem?_pos]
    rw[p5,p6,p7,p8];rfl
   .simp[zdh,c135,c1,hnE,k1,c8 k1,c4,c5,c6,d1,p1,p2,p3,p4,hH2,hs2,ap,zcb,zN,gEz, -getElem?_pos]
    rw[p5,p6,p7,p8];rfl
  .have hm:zp x s.pl i n=(ssZ,[],(zp x s.pl i n).2.2):=by
    have:=zkI x s.pl i n hz
    exact Prod.ext this.1 (Prod.ext this.2 rfl)
   obtain⟨hv,ho,vs,os,hD'⟩:=d3
   have p1:=hD'.rb
   generalize (zp x s.pl i n).2.2=E at *
   rw[hm]
   have hl2:2<H'.length:=(gEs.1 hH2).1
   have hs2:∀B,(H'.set 2 B)[2]?=some B:=fun B=>gEt hl2
   have ap:apart (.optr 2 0 0 0) (.optr 8 0 0 12)=true:=rfl
   refine⟨zSs,za5,run _ ?_,zkG _⟩
   by_cases k1:x.kind=1
   .have hi:=(g5 k1).1
    have hn0:=zjj hE k1
    have hc:¬s.count=x.items.l.length:=(g5 k1).2
    simp[zdh,c135,c1,hnE,eq_true k1,hc,eq_true hi,eq_true hn0,c4,c5,c6,d1,p1,hz,hH2,hs2,ap,zcb,zN,gEz, -getElem?_pos]
    rfl
   .simp[zdh,c135,c1,hnE,k1,c8 k1,c4,c5,c6,d1,p1,hz,hH2,hs2,ap,zcb,zN,gEz, -getElem?_pos]
    rfl
theorem zvA (x:Sg) (t:SS) (i:Int) (h:(endK x t i).2.2≠0):(endK x t i).1=ssZ∧(endK x t i).2.1=[]:=by
 by_cases k4:x.kind=4
 .by_cases h1:t.held=[]
  .simp[endK,k4,h1]at h
  .by_cases h2:(sumB t.held 0).2=0<;>simp[endK,k4,h1,h2]at h⊢
 by_cases k8:x.kind=8
 .by_cases h1:t.held=[]<;>simp[endK,k8,h1]at h
 by_cases k9:x.kind=9
 .simp[endK,k9]at h
 .simp[endK,k4,k8,k9]at h
theorem zvz (x:Sg) (t:SS) (i:Int):∀o∈(endK x t i).2.1,o.length≤1048576:=by
 intro o ho
 have:=zoY x t i o ho
 omega
theorem znY (k:Int):inK k≤2:=by unfold inK;split;omega;split<;>omega
theorem zxE (x:Sg) (s:Ss) (hs:SlN s.held) (hb:ssB x s.pl=true) (i:Int) (hi:0≤i∧i<inK x.kind) (hg:sgI x=0):W.pure 144 [x.av,s.av,I i]=some (.bool (zaz x s.pl i)):=by
 obtain⟨f1,f2,f3,f4⟩:=zK hb
 have h3:(s.held.l.length:Int)≤zT x:=f3
 have hsz:=zaZ hg
 refine e144 x s hs ?_ i (fun k9=>?_)
 .have hM:zT x≤100:=by
   unfold zT
   split
   .omega
   .split
    .omega
    .split
     .rename_i k4
      have hL:zH x.kind=100:=by simp[zH,k4]
      omega
     .omega
  omega
 .have hC:zI x=3:=by simp[zI,k9]
  have hin:inK x.kind=2:=by simp[inK,k9]
  have g1:0≤s.count:=f1
  have g2:s.count≤zI x:=f2
  exact⟨by omega,g1,by omega⟩
theorem e134 (x:Sg) (hx:x.items.l.length≤1048576) (s:Ss) (hs:SlN s.held) (i:Int):
  ∃(t:Ss) (o:Sl (Sl Int)),W.pure 134 [x.av,s.av,I i]=some (.tuple [t.av,Sl.av (Sl.av I 1) 1 o,.bool t.ended,I (endS x s.pl i).2.2])∧MvV (endS x s.pl i) t o:=by
 obtain⟨y,c1,c2,c3⟩:=e95 x hx s hs
 have cz:=zN
 have run:∀(A:Option AV),((zam W zdu [x.av,s.av,I i] []).bind fun p=>frz p.2 8 p.1)=A→W.pure 134 [x.av,s.av,I i]=A:=fun A h=>by rw[zd Φ134 (by simp)];exact h
 by_cases hE:endE x s.pl i=0
 rotate_left
 .have hT:endS x s.pl i=(ssZ,[],endE x s.pl i):=by unfold endS;rw[if_pos hE]
  rw[hT]
  refine⟨zSs,za5,run _ ?_,zkG _⟩
  unfold endE at hE⊢
  by_cases hN:zal x s.pl=0
  rotate_left
  .rw[if_pos hN]
   simp[zdu,c134,c1,hN]
   exact⟨rfl,rfl,rfl⟩
  rw[if_neg (by simp[hN])]at hE⊢
  rw[hN]at c1 c2
  obtain⟨g1,g2⟩:=zw.1 hN
  have hk:=zb2 g1
  have c5:=e112 x.kind hk
  have hp1:s.pl.ended=s.ended:=rfl
  simp only[hp1]at hE⊢
  by_cases k1:x.kind=1
  .rw[k1]at c5
   by_cases hi:i= -1
   .rw[if_neg (by rintro (⟨_,h⟩|⟨h,_⟩);exact h hi;exact h k1)]at hE⊢
    have he:s.ended=true:=by
     cases he:s.ended with
     |true=>rfl
     |false=>exact absurd (by rw[if_neg];rintro (h|⟨h,_⟩);rw[he]at h;cases h;exact h k1) hE
    rw[if_pos (.inl he)]
    simp[zdu,c134,c1,c5,k1,hi,he]
    exact⟨rfl,rfl,rfl⟩
   .rw[if_pos (.inl ⟨k1,hi⟩)]
    simp[zdu,c134,c1,c5,k1,hi]
    exact⟨rfl,rfl,rfl⟩
  .by_cases h0:i<0
   .rw[if_pos (.inr ⟨k1,.inl h0⟩)]
    simp[zdu,c134,c1,c5,k1,h0]
    exact⟨rfl,rfl,rfl⟩
   .by_cases h1:(inK x.kind:Int)≤i
    .rw[if_pos (.inr ⟨k1,.inr h1⟩)]
     simp[zdu,c134,c1,c5,k1,h0,h1]
     exact⟨rfl,rfl,rfl⟩
    .rw[if_neg (by rintro (⟨h,_⟩|⟨_,h|h⟩);exact k1 h;exact h0 h;exact h1 h)]at hE⊢
     have c4:=zxE x s hs g2 i (by omega) g1
     by_cases hh:s.ended=true∨zaz x s.pl i=true
     .rw[if_pos (by rcases hh with h|h;exact .inl h;exact .inr ⟨k1,h⟩)]
      cases he:s.ended with
      |true=>simp[zdu,c134,c1,c5,k1,h0,h1,he];exact⟨rfl,rfl,rfl⟩
      |false=>
       have hq:zaz x s.pl i=true:=by rcases hh with h|h;rw[he]at h;cases h;exact h
       rw[hq]at c4
       simp[zdu,c134,c1,c5,k1,h0,h1,he,c4];exact⟨rfl,rfl,rfl⟩
     .exact absurd (by rw[if_neg];rintro (h|⟨_,h⟩);exact hh (.inl h);exact hh (.inr h)) hE
 .obtain⟨g1,g2,g3,g4,g5⟩:=zhw hE
  have hT:endS x s.pl i=endK x s.pl i:=by unfold endS;rw[if_neg (by simp[hE])]
  rw[hT]
  have hN:zal x s.pl=0:=zw.2 ⟨g1,g2⟩
  rw[hN]at c1 c2
  have hk:=zb2 g1
  have c5:=e112 x.kind hk
  have c6:=zo9 x hk s [.arr 0 8 false [x.av],.arr 0 3 false [s.av],.arr 0 3 false [zSs.av],.arr 0 8 false [hdK x.kind]]
  have hD:=ztb x s hs [.arr 0 8 false [x.av],.arr 0 3 false [s.av],.arr 0 3 false [zSs.av],.arr 0 8 false [hdK x.kind]]
  obtain⟨v,H',d1,d2,t',outs',d3,d4,d5⟩:=zz.1 (zvB hD (by simp) zdF hE)
  simp only[lLc,List.length_nil,List.length_replicate,Nat.zero_add,Nat.reduceAdd]at d1 d2 d3 d4 d5 c6
  have hD2:=d2.2 2 (by omega)
  have hnE:s.ended=false:=g3
  have hH2:H'[2]?=some (.arr 0 3 false [zSs.av]):=by rw[hD2];rfl
  have c8:x.kind≠1→W.pure 144 [x.av,s.av,I i]=some (.bool false):=fun k1=>by
   obtain⟨i1,i2,i3⟩:=g5 k1
   rw[zxE x s hs g2 i ⟨i1,i2⟩ g1,i3]
  simp[zN,hnE]at c6 d1
  have hl2:2<H'.length:=(gEs.1 hH2).1
  have hs2:∀B,(H'.set 2 B)[2]?=some B:=fun B=>gEt hl2
  have ap:∀k,apart (.optr 2 0 0 0) (.optr 8 0 0 k)=true:=fun k=>rfl
  by_cases hz:(endK x s.pl i).2.2=0
  .obtain⟨rfl,rfl⟩:=d5 hz
   have hml:=zoZ hE hz
   rw[zji _ _ hml.1.len]at d3
   obtain⟨hv,t',o,p1,p2,p3,p4,p5,p6,p7,p8,p9,p10,p11,p12,p13⟩:=znb (j:=2) (by omega) d3 (zvz x _ _) (by rw[hml.1.len];exact zcd _)
   rw[hz]at p1⊢
   refine⟨t',o,run _ ?_,p9,p10,p11,p12,p13⟩
   by_cases k1:x.kind=1
   .have hi:=g4 k1
    simp[zdu,c134,c1,hnE,eq_true k1,eq_true hi,c5,c6,d1,p1,p2,p3,p4,hH2,hs2,ap,zcb,zN,gEz, -getElem?_pos]
    rw[p5,p6,p7,p8];rfl
   .obtain⟨i1,i2,i3⟩:=g5 k1
    have h0:¬i<0:=by omega
    have h1:¬(inK x.kind:Int)≤i:=by omega
    simp[zdu,c134,c1,hnE,k1,h0,h1,c8 k1,c5,c6,d1,p1,p2,p3,p4,hH2,hs2,ap,zcb,zN,gEz, -getElem?_pos]
    rw[p5,p6,p7,p8];rfl
  .have hm:endK x s.pl i=(ssZ,[],(endK x s.pl i).2.2):=by
    have:=zvA x s.pl i hz
    exact Prod.ext this.1 (Prod.ext this.2 rfl)
   obtain⟨hv,ho,vs,os,hD'⟩:=d3
   have p1:=hD'.rb
   generalize (endK x s.pl i).2.2=E at *
   rw[hm]
   refine⟨zSs,za5,run _ ?_,zkG _⟩
   by_cases k1:x.kind=1
   .have hi:=g4 k1
    simp[zdu,c134,c1,hnE,eq_true k1,eq_true hi,c5,c6,d1,p1,hz,hH2,hs2,ap,zcb,zN,gEz, -getElem?_pos]
    exact⟨rfl,rfl⟩
   .obtain⟨i1,i2,i3⟩:=g5 k1
    have h0:¬i<0:=by omega
    have h1:¬(inK x.kind:Int)≤i:=by omega
    simp[zdu,c134,c1,hnE,k1,h0,h1,c8 k1,c5,c6,d1,p1,hz,hH2,hs2,ap,zcb,zN,gEz, -getElem?_pos]
    exact⟨rfl,rfl⟩
def zbC (x:Sg) (i:Nat) (a v:Int) (s:List Int×List Int):List Int×List Int:=
 if x.kind=2∨x.kind=9 then (s.1++[v],s.2)
 else if x.kind=3 then (if v=1 then (s.1++[a],s.2) else s)
 else if x.kind=7 then (if v=1 then (s.1++[a],s.2) else (s.1,s.2++[a]))
 else if x.kind=5 then (s.1++List.replicate x.size.toNat a,s.2)
 else if x.kind=6 then (if (i:Int)<x.size then (s.1++[a],s.2) else s) else s
def zfM (x:Sg) (b:List Int) (i:Nat):Int:=if x.kind=9 then b.getD i 0 else 0
def zck (x:Sg) (b:List Int):List Int→Nat→List Int×List Int→(List Int×List Int)⊕Int
 | [],_,s=> .inl s
 |a::r,i,s=>if x.kind=9∧b.length≤i then .inl s
  else if etyp x.kind≠0∧(evX x a (zfM x b i)).2≠0 then .inr (evX x a (zfM x b i)).2
  else zck x b r (i+1) (zbC x i a (evX x a (zfM x b i)).1 s)
abbrev zbM (x:Sg) (f s:List Int):Heap:=[.arr 0 8 false [x.av],.arr f.length 1 false (f.map I),.arr s.length 1 false (s.map I)]
abbrev zdK (a b:Sl Int) (f s:List Int) (k:Nat):Fr:=[(1,Sl.av I 1 a),(2,Sl.av I 1 b),(3,.optr 0 0 0 0),(8,.osl 1 f.length 0 f.length),(9,.osl 2 s.length 0 s.length),(10,I k)]
theorem zpJ (x:Sg) (f s:List Int) (hf:f.length≤1000000) (n:Int):ex (zbM x f s) (.app 1) [.osl 1 f.length 0 f.length,.isl (some false) 1 [I n]]=some (.osl 1 (f.length+1) 0 (f.length+1),zbM x (f++[n]) s):=by
 have:=zE (H:=zbM x f s) (id:=1) (ver:=f.length) (l:=f) rfl (by omega) n
 rw[this]
 simp
theorem zv6 (x:Sg) (f s:List Int) (hs:s.length≤1000000) (n:Int):ex (zbM x f s) (.app 1) [.osl 2 s.length 0 s.length,.isl (some false) 1 [I n]]=some (.osl 2 (s.length+1) 0 (s.length+1),zbM x f (s++[n])):=by
 have:=zE (H:=zbM x f s) (id:=2) (ver:=s.length) (l:=s) rfl (by omega) n
 rw[this]
 simp
theorem zkQ (x:Sg) (a b:Sl Int) (s:List Int) (n:Int) (k:Nat) (hka:k<a.l.length) (hkn:a.l[k]=n) (hs:0≤x.size∧x.size≤100):∀(m j:Nat) (f:List Int),j+m=x.size.toNat→f.length+m≤1000000→
  okC (W.loop [1,2,3,8,9,10,15] zkW (zdK a b f s k++[(15,I j)]) (zbM x f s)) (fun q F H=>q= .exit 3∧F.keep [1,2,3,8,9,10]=zdK a b (f++List.replicate m n) s k∧H=zbM x (f++List.replicate m n) s)
 |0,j,f,hj,hf=>by
  have h:¬(j:Int)<x.size:=by omega
  rw[zb]
  simp[zlf,zls,h]
 |m+1,j,f,hj,hf=>by
  have h:(j:Int)<x.size:=by omega
  have hw:=zg (k:=j) (by omega)
  have ih:=zkQ x a b s n k hka hkn hs m (j+1) (f++[n]) (by omega) (by simp;omega)
  have hr:f++[n]++List.replicate m n=f++List.replicate (m+1) n:=by rw[List.append_assoc];rfl
  rw[hr]at ih
  have hka':(k:Int)<a.l.length:=by omega
  have ha:=zpJ x f s (by omega) n
  simp at ha ih
  rw[zb]
  simp[zlf,zls,h,hka,hkn,hw,ha]
  simpa using ih
def zep (x:Sg) (z:(List Int×List Int)⊕Int) (q:LX) (F:Fr) (H:Heap):Prop:=
 match z with
 | .inl p=>q= .exit 0∧F.keep [8,9]=[(8,.osl 1 p.1.length 0 p.1.length),(9,.osl 2 p.2.length 0 p.2.length)]∧H=zbM x p.1 p.2
 | .inr e=>q= .ret∧F.get 6= .isl (some false) 1 []∧F.get 7=I e
theorem zuf (x:Sg) (hg:sgI x=0) (a b:Sl Int) (ha:a.l.length≤1000) (hb:b.l.length≤1000) (hia:∀n∈a.l,isIt n=true) (hib:∀n∈b.l,isIt n=true):∀(r:List Int) (k:Nat) (f s:List Int),a.l.drop k=r→k≤a.l.length→f.length+100* r.length≤500000→s.length+100* r.length≤500000→
  okC (W.loop [1,2,3,8,9,10] ziq (zdK a b f s k) (zbM x f s)) (fun q F H=>zep x (zck x b.l r k (f,s)) q F H):=by
 intro r
 induction r with
 |nil=>
  intro k f s h1 h2 hf hs
  have hk:=zf h1 h2
  rw[zb]
  simp[zaB,zbr,hk,zep,zck]
 |cons n r ih=>
  intro k f s h1 h2 hf hs
  obtain⟨hlt,hak,hr⟩:=zn h1
  have hlt':(k:Int)<a.l.length:=by omega
  have hn:a.l[k]=n:=(gEs.1 hak).2
  have hin:=hia n (lMg hak)
  have hw:=zg (k:=k) (by omega)
  simp only[lLc]at hf hs
  have c2:=e102 x.kind
  obtain⟨q1,q2⟩:=zb2 hg
  have go:∀f' s':List Int,f'.length≤f.length+100→s'.length≤s.length+100→okC (W.loop [1,2,3,8,9,10] ziq (zdK a b f' s' (k+1)) (zbM x f' s')) (fun q F H=>zep x (zck x b.l r (k+1) (f',s')) q F H):=fun f' s' g1 g2=>ih (k+1) f' s' hr (by omega) (by omega) (by omega)
  have af:=zpJ x f s (by omega)
  have as':=zv6 x f s (by omega)
  try simp at af
  try simp at as'
  rw[zb]
  unfold zck
  by_cases k9:x.kind=9
  .have he:etyp x.kind≠0:=by simp[etyp,k9]
   have he1:etyp x.kind=1:=by simp[etyp,k9]
   have k2:¬x.kind=2:=by omega
   rw[he1]at c2
   by_cases hkb:b.l.length≤k
   .have hkb':(b.l.length:Int)≤k:=by omega
    rw[if_pos ⟨k9,hkb⟩]
    simp[zaB,zbr,hlt,hlt',eq_true k9,hkb,hkb',zep]
   .have hkb':¬(b.l.length:Int)≤k:=by omega
    have hbl:k<b.l.length:=by omega
    have hY:zfM x b.l k=b.l[k]:=by simp[zfM,k9,gEd,hbl]
    have c3:=e151 n b.l[k]
    have c4:=e169 n b.l[k] hin (hib _ (List.getElem_mem hbl)) x.expr
    rw[zrZ hg he]at c4
    rw[if_neg (fun h=>hkb h.2),hY]
    by_cases hf0:(evX x n b.l[k]).2=0
    .rw[if_neg (fun h=>h.2 hf0)]
     have hT:zbC x k n (evX x n b.l[k]).1 (f,s)=(f++[(evX x n b.l[k]).1],s):=by simp[zbC,k9]
     rw[hT]
     have g:=go (f++[(evX x n b.l[k]).1]) s (by simp) (by omega)
     rw[hf0]at c4
     generalize (evX x n b.l[k]).1=V at *
     simp[zaB,zbr,hlt,hlt',hn,k2,eq_true k9,hkb,hkb',hbl,c2,c3,c4,af,hw]
     simpa[zdK,zbM]using g
    .rw[if_pos ⟨he,hf0⟩]
     simp[zaB,zbr,hlt,hlt',hn,k2,eq_true k9,hkb,hkb',hbl,c2,c3,c4,hf0,zep]
  have hY:zfM x b.l k=0:=by simp[zfM,k9]
  rw[if_neg (fun h=>k9 h.1),hY]
  by_cases he:etyp x.kind=0
  .rw[if_neg (fun h=>h.1 he)]
   have k2:¬x.kind=2:=fun h=>by simp[etyp,h]at he
   have k3:¬x.kind=3:=fun h=>by simp[etyp,h]at he
   have k7:¬x.kind=7:=fun h=>by simp[etyp,h]at he
   rw[he]at c2
   generalize (evX x n 0).1=V
   by_cases k5:x.kind=5
   .have hT:zbC x k n V (f,s)=(f++List.replicate x.size.toNat n,s):=by simp[zbC,k5]
    rw[hT]
    have hsz:=zaZ hg
    have hM:zH x.kind=100:=by simp[zH,k5]
    have hL:zD x.kind=0:=by simp[zD,k5]
    have g:=go (f++List.replicate x.size.toNat n) s (by simp;omega) (by omega)
    obtain⟨q,F,H,d1,rfl,d2,rfl⟩:=zc.1 (zkQ x a b s n k hlt hn (by omega) x.size.toNat 0 f (by omega) (by omega))
    have d1':W.loop [1,2,3,8,9,10,15] zkW [(1,Sl.av I 1 a),(2,Sl.av I 1 b),(3,.optr 0 0 0 0),(8,.osl 1 f.length 0 f.length),(9,.osl 2 s.length 0 s.length),(10,I k),(15,I 0)] (zbM x f s)=some (.exit 3,F,zbM x (f++List.replicate x.size.toNat n) s):=d1
    simp[zaB,zbr,hlt,hlt',hn,k2,k3,k7,k9,eq_true k5,c2,d1']
    simp at d2
    simp[d2,hw,zbZ]
    simpa[zdK,zbM]using g
   by_cases k6:x.kind=6
   .have hT:zbC x k n V (f,s)=if (k:Int)<x.size then (f++[n],s) else (f,s):=by simp[zbC,k6]
    rw[hT]
    by_cases hs6:(k:Int)<x.size
    .rw[if_pos hs6]
     have g:=go (f++[n]) s (by simp) (by omega)
     simp[zaB,zbr,hlt,hlt',hn,k2,k3,k5,k7,k9,eq_true k6,hs6,c2,af,hw]
     simpa[zdK,zbM]using g
    .rw[if_neg hs6]
     have g:=go f s (by omega) (by omega)
     simp[zaB,zbr,hlt,hlt',hn,k2,k3,k5,k7,k9,eq_true k6,hs6,c2,af,hw]
     simpa[zdK,zbM]using g
   .have hT:zbC x k n V (f,s)=(f,s):=by simp[zbC,k2,k3,k5,k6,k7,k9]
    rw[hT]
    have g:=go f s (by omega) (by omega)
    simp[zaB,zbr,hlt,hlt',hn,k2,k3,k5,k6,k7,k9,c2,af,hw]
    simpa[zdK,zbM]using g
  .have c3:=e151 n 0
   have c4:=e169 n 0 hin rfl x.expr
   rw[zrZ hg he]at c4
   by_cases hf0:(evX x n 0).2=0
   .rw[if_neg (fun h=>h.2 hf0)]
    rw[hf0]at c4
    by_cases k2:x.kind=2
    .have hT:zbC x k n (evX x n 0).1 (f,s)=(f++[(evX x n 0).1],s):=by simp[zbC,k2]
     rw[hT]
     have g:=go (f++[(evX x n 0).1]) s (by simp) (by omega)
     generalize (evX x n 0).1=V at *
     simp[zaB,zbr,hlt,hlt',hn,k9,eq_true k2,he,c2,c3,c4,af,hw]
     simpa[zdK,zbM]using g
    by_cases k3:x.kind=3
    .have hT:zbC x k n (evX x n 0).1 (f,s)=if (evX x n 0).1=1 then (f++[n],s) else (f,s):=by simp[zbC,k3]
     rw[hT]
     generalize (evX x n 0).1=V at *
     by_cases hV:V=1
     .rw[if_pos hV]
      have g:=go (f++[n]) s (by simp) (by omega)
      simp[zaB,zbr,hlt,hlt',hn,k2,k9,eq_true k3,he,c2,c3,c4,eq_true hV,af,hw]
      simpa[zdK,zbM]using g
     .rw[if_neg hV]
      have g:=go f s (by omega) (by omega)
      simp[zaB,zbr,hlt,hlt',hn,k2,k9,eq_true k3,he,c2,c3,c4,hV,af,hw]
      simpa[zdK,zbM]using g
    have k7:x.kind=7:=by
     unfold etyp at he
     split at he
     .omega
     .split at he
      .omega
      .exact absurd rfl he
    have hT:zbC x k n (evX x n 0).1 (f,s)=if (evX x n 0).1=1 then (f++[n],s) else (f,s++[n]):=by simp[zbC,k7]
    rw[hT]
    generalize (evX x n 0).1=V at *
    by_cases hV:V=1
    .rw[if_pos hV]
     have g:=go (f++[n]) s (by simp) (by omega)
     simp[zaB,zbr,hlt,hlt',hn,k2,k3,k9,eq_true k7,he,c2,c3,c4,eq_true hV,af,hw]
     simpa[zdK,zbM]using g
    .rw[if_neg hV]
     have g:=go f (s++[n]) (by omega) (by simp)
     simp[zaB,zbr,hlt,hlt',hn,k2,k3,k9,eq_true k7,he,c2,c3,c4,hV,as',hw]
     simpa[zdK,zbM]using g
   .rw[if_pos ⟨he,hf0⟩]
    simp[zaB,zbr,hlt,hlt',hn,k9,he,c2,c3,c4,hf0,zep]
theorem zo1 (x:Sg) (hg:sgI x=0) (i:Nat) (a v:Int) (s:List Int×List Int):(zbC x i a v s).1.length≤s.1.length+100∧(zbC x i a v s).2.length≤s.2.length+100:=by
 unfold zbC
 split
 .simp
 split
 .split<;>simp
 split
 .split<;>simp
 split
 .rename_i k5
  have hsz:=zaZ hg
  have hM:zH x.kind=100:=by simp[zH,k5]
  simp;omega
 split
 .split<;>simp
 .simp
theorem ziV (x:Sg) (hg:sgI x=0) (b:List Int):∀(r:List Int) (i:Nat) (s p:List Int×List Int),zck x b r i s= .inl p→p.1.length≤s.1.length+100* r.length∧p.2.length≤s.2.length+100* r.length
 | [],i,s,p,h=>by cases h;simp
 |a::r,i,s,p,h=>by
  unfold zck at h
  split at h
  .cases h;simp
  split at h
  .cases h
  .have h1:=ziV x hg b r _ _ p h
   have h2:=zo1 x hg i a (evX x a (zfM x b i)).1 s
   simp only[lLc]
   omega
theorem zve (x:Sg) (f s:List Int):frz [.arr 0 8 false [x.av],.arr f.length 1 false (f.map I),.arr s.length 1 false (s.map I),.arr 0 1 false [.osl 1 f.length 0 f.length,.osl 2 s.length 0 s.length]] 7 (.osl 3 0 0 2)=some (Sl.av (Sl.av I 1) 1 (ofL 1 [ofL 1 f,ofL 1 s])):=by
 generalize hH:([.arr 0 8 false [x.av],.arr f.length 1 false (f.map I),.arr s.length 1 false (s.map I),.arr 0 1 false [.osl 1 f.length 0 f.length,.osl 2 s.length 0 s.length]]:Heap)=H
 have h1:H[1]?=some (.arr f.length 1 false (f.map I)):=by rw[←hH];rfl
 have h2:H[2]?=some (.arr s.length 1 false (s.map I)):=by rw[←hH];rfl
 have h3:H[3]?=some (.arr 0 1 false [.osl 1 f.length 0 f.length,.osl 2 s.length 0 s.length]):=by rw[←hH];rfl
 have e1:=zaX (n:=5) (len:=f.length) h1 rfl
 have e2:=zaX (n:=5) (len:=s.length) h2 rfl
 have e0:frz H 7 (.osl 3 0 0 2)=(match (H[3]?:Option Blk) with
   |some (.arr v sz _ es)=>if v=0∧0+2≤es.length then (if ((es.drop 0).take 2).all (fun e=>e.cells.all AV.still) then some (.isl (some false) sz ((es.drop 0).take 2)) else (frzs (frz H 6) ((es.drop 0).take 2)).map (.isl (some false) sz)) else none
   |_=>none):=rfl
 rw[e0,h3]
 simp[e1,e2]
 rfl
theorem e130 (x:Sg) (hg:sgI x=0) (a b:Sl Int) (ha:a.l.length≤1000) (hb:b.l.length≤1000) (hia:∀n∈a.l,isIt n=true) (hib:∀n∈b.l,isIt n=true):
  ∃(o:Sl (Sl Int)) (e:Int),W.pure 130 [x.av,Sl.av I 1 a,Sl.av I 1 b]=some (.tuple [Sl.av (Sl.av I 1) 1 o,I e])∧SlN o∧(∀y∈o.l,SlN y)∧(match zck x b.l a.l 0 ([],[]) with| .inl p=>o.l.map Sl.l=[p.1,p.2]∧e=0| .inr f=>o.l=[]∧e=f):=by
 obtain⟨q,F,H,d1,d2⟩:=zc.1 (zuf x hg a b ha hb hia hib a.l 0 [] [] rfl (by omega) (by simp;omega) (by simp;omega))
 have d1':W.loop [1,2,3,8,9,10] ziq [(1,Sl.av I 1 a),(2,Sl.av I 1 b),(3,.optr 0 0 0 0),(8,.osl 1 0 0 0),(9,.osl 2 0 0 0),(10,I 0)] [.arr 0 8 false [x.av],.arr 0 1 false [],.arr 0 1 false []]=some (q,F,H):=d1
 cases hz:zck x b.l a.l 0 ([],[]) with
 |inr f=>
  rw[hz]at d2
  obtain⟨rfl,d3,d4⟩:=d2
  refine⟨ofL 1 [],f,?_,zO (by simp),by simp[ofL],rfl,rfl⟩
  rw[zd Φ130 (by simp)]
  simp[zoG,c130,d1',d3,d4]
  rfl
 |inl p=>
  rw[hz]at d2
  obtain⟨rfl,d3,rfl⟩:=d2
  obtain⟨l1,l2⟩:=ziV x hg b.l a.l 0 ([],[]) p hz
  simp only[List.length_nil,Nat.zero_add]at l1 l2
  refine⟨ofL 1 [ofL 1 p.1,ofL 1 p.2],0,?_,zO (by simp),?_,rfl,rfl⟩
  .rw[zd Φ130 (by simp)]
   have hz2:=zve x p.1 p.2
   simp at d3
   simp[zoG,c130,d1',d3,hz2]
  .intro y hy
   simp[ofL]at hy
   rcases hy with rfl|rfl
   .exact zO (by omega)
   .exact zO (by omega)
def zd0 (sz:Nat):Nat→List Int→List Int→List Int⊕Int
 |0,_,acc=> .inl acc
 |m+1,l,acc=>if l=[] then .inl acc else if (sumB (l.take sz) 0).2≠0 then .inr 14 else zd0 sz m (l.drop sz) (acc++[(sumB (l.take sz) 0).1])
abbrev zob (sz:Nat) (l:Sl Int) (m i:Nat):Fr:=[(0,I sz),(1,Sl.av I 1 l),(6,.osl 0 m 0 m),(7,I i)]
theorem zqQ (sz:Nat) (hsz:sz≤1000) (l:Sl Int) (hl:l.l.length≤1000) (hi:∀n∈l.l,isIt n=true) (m i:Nat) (hi2:i≤1000) (H:Heap):∀(c:List Int) (k:Nat) (n:Int),(l.l.drop k).take c.length=c→(k+c.length=l.l.length∨(k+c.length=i+sz∧k+c.length≤l.l.length))→k+c.length≤i+sz→isIt n=true→
  okC (W.loop [0,1,6,7,8,9] znS (zob sz l m i++[(8,I n),(9,I k)]) H) (fun q F H'=>if (sumB c n).2=0 then q= .exit 2∧F.keep [0,1,6,7,8]=zob sz l m i++[(8,I (sumB c n).1)]∧H'=H else q= .ret∧F.get 4= .isl (some false) 1 []∧F.get 5=I 14):=by
 have w:IntKind.wrap .i64 ((i:Int)+sz)=(i:Int)+sz:=zr (by omega) (by omega)
 intro c
 induction c with
 |nil=>
  intro k n h1 h2 h3 hn
  simp only[List.length_nil,Nat.add_zero]at h2 h3
  rw[zb]
  by_cases hk:k<l.l.length
  .have hk':(k:Int)<l.l.length:=by omega
   have hks:¬(k:Int)<(i:Int)+sz:=by omega
   have hks':¬k<i+sz:=by omega
   simp[ze6,zgG,hk,hk',w,hks,hks',sumB]
  .have hk':¬(k:Int)<l.l.length:=by omega
   simp[ze6,zgG,hk,hk',sumB]
 |cons a c ih=>
  intro k n h1 h2 h3 hn
  simp only[lLc]at h1 h2 h3
  have hk:k<l.l.length:=by
   rcases h2 with h2|h2<;>omega
  have hk':(k:Int)<l.l.length:=by omega
  have hks:(k:Int)<(i:Int)+sz:=by omega
  have hks':k<i+sz:=by omega
  have hd:l.l.drop k=l.l[k]::l.l.drop (k+1):=List.drop_eq_getElem_cons hk
  rw[hd,List.take_succ_cons]at h1
  injection h1 with e1 e2
  have hia:=(zo a).1 (hi a (by rw[←e1];exact List.getElem_mem hk))
  have hin:=(zo n).1 hn
  have wn:IntKind.wrap .i64 (n+a)=n+a:=zr (by omega) (by omega)
  have hw:=zg (k:=k) (by omega)
  have c1:=e140 (n+a)
  rw[zb]
  cases hs:isIt (n+a) with
  |true=>
   rw[hs]at c1
   have g:=ih (k+1) (n+a) e2 (by omega) (by omega) hs
   have hsb:sumB (a::c) n=sumB c (n+a):=by simp[sumB,hs]
   rw[hsb]
   simp[ze6,zgG,hk,hk',w,hks,hks',e1,wn,c1,hw]
   simpa using g
  |false=>
   rw[hs]at c1
   have hsb:sumB (a::c) n=(0,14):=by simp[sumB,hs]
   rw[hsb]
   simp[ze6,zgG,hk,hk',w,hks,hks',e1,wn,c1]
theorem zqP (sz:Nat) (hs1:1≤sz) (hsz:sz≤1000) (l:Sl Int) (hl:l.l.length≤1000) (hi:∀n∈l.l,isIt n=true):∀(m:Nat) (i:Nat) (acc:List Int),l.l.length≤i+m→i≤100000→acc.length≤i→
  okC (W.loop [0,1,6,7] zkX (zob sz l acc.length i) [.arr acc.length 1 false (acc.map I)]) (fun q F H=>match zd0 sz m (l.l.drop i) acc with| .inl r=>q= .exit 0∧F.keep [6]=[(6,.osl 0 r.length 0 r.length)]∧H=[.arr r.length 1 false (r.map I)]| .inr e=>q= .ret∧F.get 4= .isl (some false) 1 []∧F.get 5=I e):=by
 intro m
 induction m with
 |zero=>
  intro i acc h1 h2 h3
  have hk:¬i<l.l.length:=by omega
  have hk':¬(i:Int)<l.l.length:=by omega
  rw[zb]
  simp[ze5,zgF,hk,hk',zd0]
 |succ m ih=>
  intro i acc h1 h2 h3
  rw[zb]
  unfold zd0
  by_cases hk:i<l.l.length
  .have hk':(i:Int)<l.l.length:=by omega
   have hne:l.l.drop i≠[]:=by intro e;have:=congrArg List.length e;simp at this;omega
   rw[if_neg hne]
   have hc:((l.l.drop i).take sz).length=min sz (l.l.length - i):=by simp
   obtain⟨q,F,H,d1,d2⟩:=zc.1 (zqQ sz hsz l hl hi acc.length i (by omega) [.arr acc.length 1 false (acc.map I)] ((l.l.drop i).take sz) i 0 (by rw[List.take_eq_take_iff,hc];simp) (by rw[hc];omega) (by rw[hc];omega) rfl)
   simp at d1
   by_cases hz:(sumB ((l.l.drop i).take sz) 0).2=0
   .rw[if_pos hz]at d2
    obtain⟨rfl,d3,rfl⟩:=d2
    rw[if_neg (by simp[hz])]
    have g:=ih (i+sz) (acc++[(sumB ((l.l.drop i).take sz) 0).1]) (by omega) (by omega) (by simp;omega)
    rw[←List.drop_drop]at g
    have ha:=zE (H:=[.arr acc.length 1 false (acc.map I)]) (id:=0) (ver:=acc.length) (l:=acc) rfl (by omega) (sumB ((l.l.drop i).take sz) 0).1
    generalize (sumB ((l.l.drop i).take sz) 0).1=V at *
    have w:IntKind.wrap .i64 ((i:Int)+sz)=(i:Int)+sz:=zr (by omega) (by omega)
    simp at d3 ha
    simp[ze5,zgF,hk,hk',d1,d3,ha,w]
    simpa[zob]using g
   .rw[if_neg hz]at d2
    obtain⟨rfl,d3,d4⟩:=d2
    rw[if_pos hz]
    simp[ze5,zgF,hk,hk',d1,d3,d4]
  .have hk':¬(i:Int)<l.l.length:=by omega
   have hnil:l.l.drop i=[]:=List.drop_eq_nil_of_le (by omega)
   rw[if_pos hnil]
   simp[ze5,zgF,hk,hk']
theorem zhN (sz:Nat):∀(m:Nat) (l acc r:List Int),zd0 sz m l acc= .inl r→r.length≤acc.length+m
 |0,l,acc,r,h=>by simp[zd0]at h;subst h;omega
 |m+1,l,acc,r,h=>by
  unfold zd0 at h
  split at h
  .cases h;omega
  split at h
  .cases h
  .have:=zhN sz m _ _ r h
   simp at this;omega
theorem e128 (sz:Int) (hs1:1≤sz) (hsz:sz≤1000) (l:Sl Int) (hl:l.l.length≤1000) (hi:∀n∈l.l,isIt n=true):∃(o:Sl Int) (e:Int),W.pure 128 [I sz,Sl.av I 1 l]=some (.tuple [Sl.av I 1 o,I e])∧SlN o∧
  (match zd0 sz.toNat l.l.length l.l []with| .inl r=>o.l=r∧e=0| .inr f=>o.l=[]∧e=f):=by
 have e0:sz=(sz.toNat:Int):=by omega
 obtain⟨q,F,H,d1,d2⟩:=zc.1 (zqP sz.toNat (by omega) (by omega) l hl hi l.l.length 0 [] (by omega) (by omega) (by simp))
 simp only[zob]at d1
 rw[←e0]at d1
 have d1':W.loop [0,1,6,7] zkX [(0,I sz),(1,Sl.av I 1 l),(6,.osl 0 0 0 0),(7,I 0)] [.arr 0 1 false []]=some (q,F,H):=d1
 rw[List.drop_zero]at d2
 cases hz:zd0 sz.toNat l.l.length l.l [] with
 |inl r=>
  rw[hz]at d2
  obtain⟨rfl,d3,rfl⟩:=d2
  have hlen:=zhN _ _ _ _ _ hz
  simp at hlen
  have hf:=zaX (H:=[.arr r.length 1 false (r.map I)]) (n:=6) (id:=0) (v:=r.length) (len:=r.length) (l:=r) rfl rfl
  refine⟨ofL 1 r,0,?_,zO (by omega),rfl,rfl⟩
  rw[zd Φ128 (by simp)]
  simp at d3
  simp[zoH,c128,d1',d3,hf]
 |inr f=>
  rw[hz]at d2
  obtain⟨rfl,d3,d4⟩:=d2
  refine⟨ofL 1 [],f,?_,zO (by simp),rfl,rfl⟩
  rw[zd Φ128 (by simp)]
  simp[zoH,c128,d1',d3,d4]
  rfl
theorem zhM {sz:Nat} {l:List Int} (hne:l≠[]) (hl:l.length≤sz):zd0 sz l.length l []=if (sumB l 0).2≠0 then .inr 14 else .inl [(sumB l 0).1]:=by
 cases hm:l.length with
 |zero=>exact absurd (List.length_eq_zero_iff.1 hm) hne
 |succ m=>
  unfold zd0
  have ht:l.take sz=l:=List.take_of_length_le hl
  have hd:l.drop sz=[]:=List.drop_eq_nil_of_le hl
  rw[if_neg hne,ht,hd]
  split
  .rfl
  .cases m with
   |zero=>rfl
   |succ m=>unfold zd0;rw[if_pos rfl];rfl
theorem ztV {x:Sg} {s z:Ss} {ver:Nat} {l:List Int} (sz:Int):zbK [.arr 0 8 false [x.av],.arr 0 3 false [s.av],.arr 0 3 false [z.av],.arr ver 1 false (l.map I)] [I sz,.osl 3 ver 0 l.length]=
  ([I sz,Sl.av I 1 (ofL 1 l)],[.arr 0 8 false [x.av],.arr 0 3 false [s.av],.arr 0 3 false [z.av],.arr ver 1 true (l.map I)]):=by
 have hst:((l.map I).all fun e=>e.cells.all AV.still)=true:=zbn (by simp) l
 have ht:(l.map I).take l.length=l.map I:=List.take_of_length_le (by simp)
 have e1:pubA [.arr 0 8 false [x.av],.arr 0 3 false [s.av],.arr 0 3 false [z.av],.arr ver 1 false (l.map I)] (.osl 3 ver 0 l.length)=(Sl.av I 1 (ofL 1 l),[.arr 0 8 false [x.av],.arr 0 3 false [s.av],.arr 0 3 false [z.av],.arr ver 1 true (l.map I)]):=by
  simp only[pubA,pub1,List.getElem?_cons_succ,gEz,List.drop_zero,ht]
  rw[if_pos ⟨trivial,by simp,hst⟩,←zcs]
  rfl
 have e2:pubA [.arr 0 8 false [x.av],.arr 0 3 false [s.av],.arr 0 3 false [z.av],.arr ver 1 false (l.map I)] (I sz)=(I sz,[.arr 0 8 false [x.av],.arr 0 3 false [s.av],.arr 0 3 false [z.av],.arr ver 1 false (l.map I)]):=rfl
 simp only[zbK,e2,e1]
theorem zaP {x:Sg} (hg:sgI x=0) {y:Sl (Sl Int)} {a b:Sl Int} (hy:y.l=[a,b].take (outN x)):y.l.map Sl.l=[a.l,b.l].take (outK x.kind):=by
 have:outN x=outK x.kind:=by simp[outN,hg]
 rw[hy,this,List.map_take];rfl
theorem zax {x:Sg} {y:Sl (Sl Int)} {a b:Sl Int} (hy:y.l=[a,b].take (outN x)) (ha:SlN a) (hb:SlN b):∀z∈y.l,SlN z:=by
 intro z hz
 rw[hy]at hz
 have:=List.mem_of_mem_take hz
 simp at this
 rcases this with rfl|rfl
 .exact ha
 .exact hb
theorem one1 (n:Int):SlN (ofL 1 [n]):=zO (by simp)
theorem nil1:SlN (ofL 1 ([]:List Int)):=zO (by simp)
theorem e142 (x:Sg) (hx:x.items.l.length≤1048576) (s:Ss) (hs:SlN s.held) (i n:Int) (hE:zbI x s.pl i n=0) (k9:x.kind=9):
  ∃(t:Ss) (o:Sl (Sl Int)),W.pure 142 [x.av,s.av,I i,I n]=some (.tuple [t.av,Sl.av (Sl.av I 1) 1 o,I (zp x s.pl i n).2.2])∧MvV (zp x s.pl i n) t o:=by
 obtain⟨g1,g2,g3,g4,g5,g6⟩:=zdy hE
 obtain⟨f1,f2,f3,f4⟩:=zK g2
 have hC:zI x=3:=by simp[zI,k9]
 have hH:zT x=1:=by simp[zT,k9]
 have hi:=zc7 (zw.2 ⟨g1,g2⟩) (by omega)
 have hin:inK x.kind=2:=by simp[inK,k9]
 rw[g6 (by omega),hin]at hi
 have ho:outK x.kind=1:=by simp[outK,k9]
 have zs:=zN
 obtain⟨y0,d1,d2,d3⟩:=e141 x hx (ofL 1 []) (ofL 1 [])
 have d1':W.pure 141 [x.av,.isl (some false) 1 [],.isl (some false) 1 []]=some (Sl.av (Sl.av I 1) 1 y0):=d1
 have hy0:y0.l.map Sl.l=[[]]:=by rw[zaP g1 d2,ho];rfl
 have run:∀(A:Option AV),((zam W zhd [x.av,s.av,I i,I n] []).bind fun p=>frz p.2 8 p.1)=A→W.pure 142 [x.av,s.av,I i,I n]=A:=fun A h=>by rw[zd Φ142 (by simp)];exact h
 by_cases h0:i=0
 .have c1:=e100 x s hs 1 (by omega) (.inr k9)
  have hie:zaz x s.pl 1=decide (2≤s.count):=by
   have:zaz x s.pl 1=decide (s.count=3∨s.count=1+1):=by unfold zaz;rw[if_neg (by omega),if_pos k9];rfl
   have g3':0≤s.count:=f1
   have g4':s.count≤zI x:=f2
   rw[this];exact decide_eq_decide.2 (by omega)
  rw[hie]at c1
  by_cases h2:2≤s.count
  .have hmv:zp x s.pl i n=(s.pl,[[]],0):=by simp[zp,k9,h0,Ss.pl,h2]
   rw[decide_eq_true h2]at c1
   rw[hmv]
   refine⟨s,y0,run _ ?_,rfl,hs,hy0,d3,zax d2 nil1 nil1⟩
   simp[zhd,c142,h0,c1,d1',zN]
  .have hmv:zp x s.pl i n=({s.pl with held:=[n]},[[]],0):=by simp[zp,k9,h0,Ss.pl,h2]
   rw[decide_eq_false h2]at c1
   rw[hmv]
   refine⟨⟨ofL 1 [n],s.count,s.ended⟩,y0,run _ ?_,rfl,one1 n,hy0,d3,zax d2 nil1 nil1⟩
   have hse:ze [s.av] 0 0 (.isl (some false) 1 [I n])=some [(⟨ofL 1 [n],s.count,s.ended⟩:Ss).av]:=rfl
   simp[zhd,c142,h0,c1,d1',zN,hse]
 .have i1:i=1:=by omega
  cases hh:s.held.l with
  |nil=>
   have hmv:zp x s.pl i n=(s.pl,[[]],0):=by simp[zp,k9,h0,Ss.pl,hh]
   rw[hmv]
   refine⟨s,y0,run _ ?_,rfl,hs,hy0,d3,zax d2 nil1 nil1⟩
   simp[zhd,c142,h0,d1',zN,hh]
  |cons a r=>
   have hr:r=[]:=by
    have f3':(s.held.l.length:Int)≤zT x:=f3
    rw[hh]at f3';simp at f3'
    exact List.length_eq_zero_iff.1 (by omega)
   subst hr
   have hhp:s.pl.held=[a]:=hh
   have hmv:zp x s.pl i n=if (evX x a n).2≠0 then (ssZ,[],(evX x a n).2) else ({s.pl with held:=[]},[[(evX x a n).1]],0):=by simp[zp,k9,h0,hhp]
   have hia:=f4 a (by rw[hhp];simp)
   obtain⟨o,e,c1,c2,c3,c4⟩:=e130 x g1 s.held (ofL 1 [n]) (by rw[hh];simp) (by simp[ofL]) (by rw[hh];simpa using hia) (by simpa[ofL]using g4)
   have c1':W.pure 130 [x.av,Sl.av I 1 s.held,.isl (some false) 1 [I n]]=some (.tuple [Sl.av (Sl.av I 1) 1 o,I e]):=c1
   have he:etyp x.kind≠0:=by simp[etyp,k9]
   have hL:zck x (ofL 1 [n]).l s.held.l 0 ([],[])=if (evX x a n).2≠0 then .inr (evX x a n).2 else .inl ([(evX x a n).1],[]):=by
    rw[hh]
    simp[zck,zfM,zbC,k9,ofL]
    by_cases hf:(evX x a n).2=0
    .simp[hf]
    .simp[hf,etyp]
   rw[hL]at c4
   have hlen:¬((s.held.l.length:Int)=0):=by rw[hh];simp
   have hlen':¬s.held.l.length=0:=by rw[hh];simp
   rw[hmv]
   by_cases hf:(evX x a n).2=0
   .rw[if_neg (by simp[hf])]at c4⊢
    obtain⟨c5,rfl⟩:=c4
    obtain⟨u,v,huv⟩:=len2 (l:=o.l) (by have:=congrArg List.length c5;simpa using this)
    rw[huv]at c5
    simp at c5
    obtain⟨z,p1,p2,p3⟩:=e141 x hx u (ofL 1 [])
    have p1':W.pure 141 [x.av,Sl.av I 1 u,.isl (some false) 1 []]=some (Sl.av (Sl.av I 1) 1 z):=p1
    refine⟨⟨ofL 1 [],s.count,s.ended⟩,z,run _ ?_,rfl,nil1,by rw[zaP g1 p2,ho];simp[c5],p3,zax p2 (c3 u (by rw[huv];simp)) nil1⟩
    have hse:ze [s.av] 0 0 (.isl (some false) 1 [])=some [(⟨ofL 1 [],s.count,s.ended⟩:Ss).av]:=rfl
    have hu0:o.l[0]?=some u:=by rw[huv];rfl
    simp[zhd,c142,h0,zN,hh,c1',huv,hse,p1']
   .rw[if_pos hf]at c4⊢
    obtain⟨c5,rfl⟩:=c4
    refine⟨zSs,ofL 1 [],run _ ?_,rfl,zu,rfl,zO (by simp),by simp[ofL]⟩
    simp[zhd,c142,h0,zN,hh,c1',hf]
    rfl
theorem zdr (e:Int):MvV (ssZ,[],e) zSs (ofL 1 []):=⟨rfl,zu,rfl,zO (by simp),by simp[ofL]⟩
theorem zr2 {x:Sg} (hg:sgI x=0) (k1:x.kind≠1) (k4:x.kind≠4) (k6:x.kind≠6) (k8:x.kind≠8) (k9:x.kind≠9) (t:SS) (i n:Int):
  match zck x [] [n] 0 ([],[]) with| .inl p=>zp x t i n=(t,[p.1,p.2].take (outK x.kind),0)| .inr e=>zp x t i n=(ssZ,[],e)∧e≠0:=by
 have hk:=zb2 hg
 have hY:zfM x [] 0=0:=by simp[zfM,k9]
 unfold zck
 rw[if_neg (fun h=>k9 h.1),hY]
 by_cases he:etyp x.kind=0
 .rw[if_neg (fun h=>h.1 he)]
  have k2:¬x.kind=2:=fun h=>by simp[etyp,h]at he
  have k3:¬x.kind=3:=fun h=>by simp[etyp,h]at he
  have k7:¬x.kind=7:=fun h=>by simp[etyp,h]at he
  by_cases k5:x.kind=5
  .simp[zck,zbC,zp,outK,k5]
  .have k10:x.kind=10:=by omega
   simp[zck,zbC,zp,outK,k10]
 .by_cases hf:(evX x n 0).2=0
  .rw[if_neg (fun h=>h.2 hf)]
   by_cases k2:x.kind=2
   .simp[zck,zbC,zp,outK,k2,hf]
   by_cases k3:x.kind=3
   .by_cases hv:(evX x n 0).1=1<;>simp[zck,zbC,zp,outK,k3,hf,hv]
   by_cases k7:x.kind=7
   .by_cases hv:(evX x n 0).1=1<;>simp[zck,zbC,zp,outK,k7,hf,hv]
   .exfalso;simp[etyp,k2,k3,k7,k9]at he
  .rw[if_pos ⟨he,hf⟩]
   by_cases k2:x.kind=2
   .simp[zp,k2,hf]
   by_cases k3:x.kind=3
   .simp[zp,k3,hf]
   by_cases k7:x.kind=7
   .simp[zp,k7,hf]
   .exfalso;simp[etyp,k2,k3,k7,k9]at he
theorem e91 (x:Sg) (hx:x.items.l.length≤1048576) (s:Ss) (hs:SlN s.held) (i n:Int):
  ∃(t:Ss) (o:Sl (Sl Int)),W.pure 91 [x.av,s.av,I i,I n]=some (.tuple [t.av,Sl.av (Sl.av I 1) 1 o,I (zbs x s.pl i n).2.2])∧MvV (zbs x s.pl i n) t o:=by
 obtain⟨y,c1,c2,c3⟩:=e55 x hx s hs
 have cz:=zN
 have run:∀(A:Option AV),((zam W fi91 [x.av,s.av,I i,I n] []).bind fun p=>frz p.2 8 p.1)=A→W.pure 91 [x.av,s.av,I i,I n]=A:=fun A h=>by rw[zd Φ91 (by simp)];exact h
 by_cases hE:zbI x s.pl i n=0
 rotate_left
 .have hT:zbs x s.pl i n=(ssZ,[],zbI x s.pl i n):=by unfold zbs;rw[if_pos hE]
  rw[hT]
  refine⟨zSs,ofL 1 [],run _ ?_,zdr _⟩
  unfold zbI at hE⊢
  by_cases hN:zal x s.pl=0
  rotate_left
  .rw[if_pos hN]
   simp[fi91,c91,c1,hN]
   exact⟨rfl,rfl⟩
  rw[if_neg (by simp[hN])]at hE⊢
  rw[hN]at c1 c2
  rw[if_pos rfl]at c2
  have c5:=e140 n
  have hp1:s.pl.ended=s.ended:=rfl
  have hp2:s.pl.count=s.count:=rfl
  simp only[hp1,hp2]at hE⊢
  cases he:s.ended with
  |true=>rw[if_pos (.inl rfl)];simp[fi91,c91,c1,he];exact⟨rfl,rfl⟩
  |false=>
  by_cases k1:x.kind=1
  .by_cases hi:i= -1
   .by_cases hc:s.count=x.items.l.length
    .rw[if_pos (.inr (.inl ⟨k1,.inr hc⟩))];simp[fi91,c91,c1,he,k1,hi,eq_true hc];exact⟨rfl,rfl⟩
    .rw[if_neg (by rintro (h|⟨_,h|h⟩|⟨h,_⟩);exact absurd h (by simp[he]);exact h hi;exact hc h;exact h k1)]at hE⊢
     cases hn:isIt n with
     |false=>rw[if_pos (.inl rfl)];rw[hn]at c5;simp[fi91,c91,c1,he,k1,hi,hc,c5];exact⟨rfl,rfl⟩
     |true=>
      rw[hn]at c5 hE
      have hn0:n≠0:=fun h0=>hE (by rw[if_neg];rintro (h|⟨_,h⟩);cases h;exact h h0)
      rw[if_pos (.inr ⟨k1,hn0⟩)];simp[fi91,c91,c1,he,k1,hi,hc,c5,hn0];exact⟨rfl,rfl⟩
   .rw[if_pos (.inr (.inl ⟨k1,.inl hi⟩))];simp[fi91,c91,c1,he,k1,hi];exact⟨rfl,rfl⟩
  .have hL:zcy x s.pl=[za8 x s.pl]:=by unfold zcy;rw[if_neg];rintro (h|h);rw[hp1,he]at h;cases h;exact k1 h
   rw[hL]at c2
   by_cases hi:za8 x s.pl=i
   .rw[if_neg (by rintro (h|⟨h,_⟩|⟨_,h⟩);exact absurd h (by simp[he]);exact k1 h;exact h hi)]at hE⊢
    cases hn:isIt n with
    |false=>rw[if_pos (.inl rfl)];rw[hn]at c5;simp[fi91,c91,c1,he,k1,c2,hi,c5];exact⟨rfl,rfl⟩
    |true=>
     exfalso
     rw[hn]at hE
     exact hE (by rw[if_neg];rintro (h|⟨h,_⟩);cases h;exact k1 h)
   .rw[if_pos (.inr (.inr ⟨k1,hi⟩))]
    simp[fi91,c91,c1,he,k1,c2,hi];exact⟨rfl,rfl⟩
 .obtain⟨g1,g2,g3,g4,g5,g6⟩:=zdy hE
  obtain⟨f1,f2,f3,f4⟩:=zK g2
  have hT:zbs x s.pl i n=zp x s.pl i n:=by unfold zbs;rw[if_neg (by simp[hE])]
  rw[hT]
  have hN:zal x s.pl=0:=zw.2 ⟨g1,g2⟩
  rw[hN]at c1 c2
  rw[if_pos rfl]at c2
  have hk:=zb2 g1
  have hsz:=zaZ g1
  have c4:=e140 n
  rw[g4]at c4
  have he:s.ended=false:=g3
  have f1':0≤s.count:=f1
  have f2':s.count≤zI x:=f2
  have f3':(s.held.l.length:Int)≤zT x:=f3
  obtain⟨y0,d1,d2,d3⟩:=e141 x hx (ofL 1 []) (ofL 1 [])
  have d1':W.pure 141 [x.av,.isl (some false) 1 [],.isl (some false) 1 []]=some (Sl.av (Sl.av I 1) 1 y0):=d1
  have one:∀v:Int,∃z:Sl (Sl Int),W.pure 141 [x.av,.isl (some false) 1 [I v],.isl (some false) 1 []]=some (Sl.av (Sl.av I 1) 1 z)∧z.l=[ofL 1 [v],ofL 1 []].take (outN x)∧SlN z:=fun v=>e141 x hx (ofL 1 [v]) (ofL 1 [])
  by_cases k1:x.kind=1
  .have hi:=(g5 k1).1
   have hn0:=zjj hE k1
   have hc:¬s.count=x.items.l.length:=(g5 k1).2
   have ho:outK x.kind=1:=by simp[outK,k1]
   have hm:zI x=x.items.l.length:=by simp[zI,k1]
   have hit:=(zgO g1).1
   have hlt:s.count.toNat<x.items.l.length:=by omega
   have hmv:zp x s.pl i n=({s.pl with count:=s.count+1},[[x.items.l[s.count.toNat]]],0):=by simp[zp,k1,Ss.pl,gEd,hlt]
   obtain⟨z,p1,p2,p3⟩:=one x.items.l[s.count.toNat]
   have w:IntKind.wrap .i64 (s.count+1)=s.count+1:=zr (by omega) (by omega)
   have w2:IntKind.wrap .i64 (s.count+1 - 1)=s.count:=by rw[zr]<;>omega
   have w0:IntKind.wrap .i64 s.count=s.count:=zr (by omega) (by omega)
   rw[hmv]
   refine⟨⟨s.held,s.count+1,s.ended⟩,z,run _ ?_,rfl,hs,by rw[zaP g1 p2,ho];rfl,p3,zax p2 (one1 _) nil1⟩
   simp[fi91,c91,c1,he,eq_true k1,eq_true hi,hc,eq_true hn0,c4,w,w2,w0,hlt,f1',p1,zN,cz]
  have hnd:zcy x s.pl=[i]:=by
   unfold zcy;rw[if_neg,g6 k1]
   rintro (h|h)
   .rw[g3]at h;cases h
   .exact k1 h
  rw[hnd]at c2
  by_cases k6:x.kind=6
  .have ho:outK x.kind=1:=by simp[outK,k6]
   have hC:zI x=x.size:=by simp[zI,k6]
   have hM:zH x.kind=200:=by simp[zH,k6]
   by_cases hlt:s.count<x.size
   .have hmv:zp x s.pl i n=({s.pl with count:=s.count+1},[[n]],0):=by simp[zp,k6,Ss.pl,hlt]
    obtain⟨z,p1,p2,p3⟩:=one n
    have hne:¬s.count=x.size:=by omega
    have w:IntKind.wrap .i64 (s.count+1)=s.count+1:=zr (by omega) (by omega)
    rw[hmv]
    refine⟨⟨s.held,s.count+1,s.ended⟩,z,run _ ?_,rfl,hs,by rw[zaP g1 p2,ho];rfl,p3,zax p2 (one1 _) nil1⟩
    simp[fi91,c91,c1,c2,he,k1,eq_true k6,hne,c4,w,p1,zN,cz]
   .have hmv:zp x s.pl i n=(s.pl,[[]],0):=by simp[zp,k6,Ss.pl,hlt]
    have hne:s.count=x.size:=by omega
    rw[hmv]
    refine⟨s,y0,run _ ?_,rfl,hs,by rw[zaP g1 d2,ho];rfl,d3,zax d2 nil1 nil1⟩
    simp[fi91,c91,c1,c2,he,k1,eq_true k6,eq_true hne,c4,d1',zN,cz]
  by_cases k4:x.kind=4
  .have ho:outK x.kind=1:=by simp[outK,k4]
   have hM:zH x.kind=100:=by simp[zH,k4]
   have hLs:zD x.kind=1:=by simp[zD,k4]
   have hH:zT x=x.size - 1:=by simp[zT,k4]
   have hmv:zp x s.pl i n=if ((s.held.l.length:Int)+1<x.size) then ({s.pl with held:=s.held.l++[n]},[[]],0)
    else if (sumB (s.held.l++[n]) 0).2≠0 then (ssZ,[],(sumB (s.held.l++[n]) 0).2) else ({s.pl with held:=[]},[[(sumB (s.held.l++[n]) 0).1]],0):=by
    unfold zp
    rw[if_neg k1,if_neg (by omega),if_neg (by omega),if_pos k4]
    rfl
   have a1:=zbR (f:=I) (sz:=1) s.held [.arr 0 8 false [x.av],.arr 0 3 false [s.av],.arr 0 3 false [zSs.av]] hs.2 (by simp)
   have a2:=zE (H:=[.arr 0 8 false [x.av],.arr 0 3 false [s.av],.arr 0 3 false [zSs.av],.arr s.held.l.length 1 false (s.held.l.map I)]) (id:=3) (ver:=s.held.l.length) (l:=s.held.l) rfl (by omega) n
   simp at a1 a2
   rw[hmv]
   by_cases hlt:(s.held.l.length:Int)+1<x.size
   .rw[if_pos hlt]
    refine⟨⟨ofL 1 (s.held.l++[n]),s.count,s.ended⟩,y0,run _ ?_,rfl,zO (by simp;omega),by rw[zaP g1 d2,ho];rfl,d3,zax d2 nil1 nil1⟩
    have hse:∀i j k m,ze [s.av] 0 0 (.osl i j k m)=some [.agg [.osl i j k m,I s.count,.bool s.ended]]:=fun _ _ _ _=>rfl
    have hf:∀H:Heap,H[3]?=some (.arr (s.held.l.length+1) 1 false (s.held.l.map I++[I n]))→frz H 6 (.osl 3 (s.held.l.length+1) 0 (s.held.l.length+1))=some (Sl.av I 1 (ofL 1 (s.held.l++[n]))):=fun H h=>zaX (l:=s.held.l++[n]) (by rw[h];simp) (by simp)
    simp[fi91,c91,c1,c2,he,k1,k6,eq_true k4,c4,a1,a2,hlt,d1',hse,zcb,hf,zN,cz]
    rfl
   .rw[if_neg hlt]
    have hall:∀a∈s.held.l++[n],isIt a=true:=by
     intro a ha
     rcases List.mem_append.1 ha with ha|ha
     .exact f4 a ha
     .simp at ha;subst ha;exact g4
    obtain⟨o,e,p1,p2,p3⟩:=e128 x.size (by omega) (by omega) (ofL 1 (s.held.l++[n])) (by simp[ofL];omega) hall
    rw[show (ofL 1 (s.held.l++[n])).l=s.held.l++[n] from rfl,zhM (by simp) (by simp;omega)]at p3
    have pb:=ztV (x:=x) (s:=s) (z:=zSs) (ver:=s.held.l.length+1) (l:=s.held.l++[n]) x.size
    simp at pb
    by_cases hz:(sumB (s.held.l++[n]) 0).2=0
    .rw[if_neg (by simp[hz])]at p3⊢
     obtain⟨p4,rfl⟩:=p3
     obtain⟨z,q1,q2,q3⟩:=e141 x hx o (ofL 1 [])
     have q1':W.pure 141 [x.av,Sl.av I 1 o,.isl (some false) 1 []]=some (Sl.av (Sl.av I 1) 1 z):=q1
     refine⟨⟨ofL 1 [],s.count,s.ended⟩,z,run _ ?_,rfl,nil1,by rw[zaP g1 q2,ho,p4];rfl,q3,zax q2 p2 nil1⟩
     have hse:ze [s.av] 0 0 (.isl (some false) 1 [])=some [(⟨ofL 1 [],s.count,s.ended⟩:Ss).av]:=rfl
     simp[fi91,c91,c1,c2,he,k1,k6,eq_true k4,c4,a1,a2,hlt,pb,p1,q1',hse,zN,cz]
    .have he14:(sumB (s.held.l++[n]) 0).2=14:=by
      have key:∀(l:List Int) (n:Int),(sumB l n).2=0∨(sumB l n).2=14:=by
       intro l
       induction l with
       |nil=>intro n;exact .inl rfl
       |cons a r ih=>intro n;unfold sumB;split;exact ih _;exact .inr rfl
      exact (key _ _).resolve_left hz
     rw[if_pos hz]at p3⊢
     obtain⟨p4,rfl⟩:=p3
     rw[he14]
     refine⟨zSs,ofL 1 [],run _ ?_,zdr _⟩
     simp[fi91,c91,c1,c2,he,k1,k6,eq_true k4,c4,a1,a2,hlt,pb,p1,zN,cz]
     rfl
  by_cases k8:x.kind=8
  .have ho:outK x.kind=1:=by simp[outK,k8]
   have hi:=zc7 hN k1
   have hin:inK x.kind=2:=by simp[inK,k8]
   rw[g6 k1,hin]at hi
   have hmv:zp x s.pl i n=({s.pl with count:=1 - i},[[n]],0):=by simp[zp,k8]
   obtain⟨z,p1,p2,p3⟩:=one n
   have w:IntKind.wrap .i64 (1 - i)=1 - i:=zr (by omega) (by omega)
   rw[hmv]
   refine⟨⟨s.held,1 - i,s.ended⟩,z,run _ ?_,rfl,hs,by rw[zaP g1 p2,ho];rfl,p3,zax p2 (one1 _) nil1⟩
   simp[fi91,c91,c1,c2,he,k1,k4,k6,eq_true k8,c4,w,p1,zN,cz]
  by_cases k9:x.kind=9
  .obtain⟨t,o,p1,p2⟩:=e142 x hx s hs i n hE k9
   refine⟨t,o,run _ ?_,p2⟩
   simp[fi91,c91,c1,c2,he,k1,k4,k6,k8,eq_true k9,c4,p1,zN,cz]
  .have hone:=zr2 g1 k1 k4 k6 k8 k9 s.pl i n
   obtain⟨o,e,p1,p2,p3,p4⟩:=e130 x g1 (ofL 1 [n]) (ofL 1 []) (by simp[ofL]) (by simp[ofL]) (by simpa[ofL]using g4) (by simp[ofL])
   have p1':W.pure 130 [x.av,.isl (some false) 1 [I n],.isl (some false) 1 []]=some (.tuple [Sl.av (Sl.av I 1) 1 o,I e]):=p1
   simp only[ofL]at p4
   cases hz:zck x [] [n] 0 ([],[]) with
   |inl p=>
    rw[hz]at hone p4
    simp only at hone p4
    obtain⟨p5,rfl⟩:=p4
    obtain⟨u,v,huv⟩:=len2 (l:=o.l) (by have:=congrArg List.length p5;simpa using this)
    rw[huv]at p5
    simp at p5
    obtain⟨z,q1,q2,q3⟩:=e141 x hx u v
    rw[hone]
    refine⟨s,z,run _ ?_,rfl,hs,by rw[zaP g1 q2,p5.1,p5.2],q3,zax q2 (p3 u (by rw[huv];simp)) (p3 v (by rw[huv];simp))⟩
    simp[fi91,c91,c1,c2,he,k1,k4,k6,k8,k9,c4,p1',huv,q1,zN,cz]
   |inr f=>
    rw[hz]at hone p4
    simp only at hone p4
    obtain⟨p5,rfl⟩:=p4
    rw[hone.1]
    refine⟨zSs,ofL 1 [],run _ ?_,zdr _⟩
    simp[fi91,c91,c1,c2,he,k1,k4,k6,k8,k9,c4,p1',hone.2,zN,cz]
    rfl
@[simp] theorem apart_oo (i a b c j d e f:Nat):apart (.optr i a b c) (.optr j d e f)=(i !=j):=rfl
theorem e92 (x:Sg) (hx:x.items.l.length≤1048576) (s:Ss) (hs:SlN s.held) (i:Int):
  ∃(t:Ss) (o:Sl (Sl Int)),W.pure 92 [x.av,s.av,I i]=some (.tuple [t.av,Sl.av (Sl.av I 1) 1 o,.bool t.ended,I (endS x s.pl i).2.2])∧MvV (endS x s.pl i) t o:=by
 have c1:=e99 x hx s hs
 have cz:=zN
 have run:∀(A:Option AV),((zam W fi92 [x.av,s.av,I i] []).bind fun p=>frz p.2 8 p.1)=A→W.pure 92 [x.av,s.av,I i]=A:=fun A h=>by rw[zd Φ92 (by simp)];exact h
 by_cases hN:zal x s.pl=0
 rotate_left
 .have hE:endE x s.pl i=zal x s.pl:=by unfold endE;rw[if_pos hN]
  have hT:endS x s.pl i=(ssZ,[],zal x s.pl):=by unfold endS;rw[hE,if_pos hN]
  rw[hT]
  refine⟨zSs,ofL 1 [],run _ ?_,zdr _⟩
  simp[fi92,c92,c1,hN]
  exact⟨rfl,rfl,rfl⟩
 rw[hN]at c1
 obtain⟨g1,g2⟩:=zw.1 hN
 obtain⟨f1,f2,f3,f4⟩:=zK g2
 have f1':0≤s.count:=f1
 have f2':s.count≤zI x:=f2
 have f3':(s.held.l.length:Int)≤zT x:=f3
 have hk:=zb2 g1
 have hsz:=zaZ g1
 have c2:=e64 x hx
 have hin:inN x=inK x.kind:=by simp[inN,g1]
 have hin2:=znY x.kind
 rw[hin]at c2
 have w:IntKind.wrap .i64 ((inK x.kind:Int) - 1)=(inK x.kind:Int) - 1:=zr (by omega) (by omega)
 have c3:=e101 i 0 ((inK x.kind:Int) - 1)
 by_cases h2:(x.kind=1∧i≠ -1)∨(x.kind≠1∧(i<0∨(inK x.kind:Int)≤i))
 .have hE:endE x s.pl i=2:=by unfold endE;rw[if_neg (by simp[hN]),if_pos h2]
  have hT:endS x s.pl i=(ssZ,[],2):=by unfold endS;rw[hE,if_pos (by decide)]
  rw[hT]
  refine⟨zSs,ofL 1 [],run _ ?_,zdr _⟩
  rcases h2 with⟨k1,hi⟩|⟨k1,hi⟩
  .simp[fi92,c92,c1,eq_true k1,hi]
   exact⟨rfl,rfl,rfl⟩
  .have:(decide (0≤i)&&decide (i≤(inK x.kind:Int) - 1))=false:=by
    rcases hi with hi|hi
    .simp;omega
    .simp;omega
   rw[this]at c3
   simp[fi92,c92,c1,k1,c2,w,c3]
   exact⟨rfl,rfl,rfl⟩
 have hr:x.kind≠1→0≤i∧i<inK x.kind:=fun k1=>⟨cBc fun h=>h2 (.inr ⟨k1,.inl (by omega)⟩),cBc fun h=>h2 (.inr ⟨k1,.inr (by omega)⟩)⟩
 have hr1:x.kind=1→i= -1:=fun k1=>cBc fun h=>h2 (.inl ⟨k1,h⟩)
 have c3t:x.kind≠1→W.pure 101 [I i,I 0,I ((inK x.kind:Int) - 1)]=some (.bool true):=fun k1=>by
  obtain⟨q1,q2⟩:=hr k1
  have:(decide (0≤i)&&decide (i≤(inK x.kind:Int) - 1))=true:=by simp;omega
  rw[c3,this]
 have c4:(x.kind=8∨x.kind=9)→W.pure 100 [x.av,s.av,I i]=some (.bool (zaz x s.pl i)):=fun k=>by
  obtain⟨q1,q2⟩:=hr (by omega)
  exact e100 x s hs i (by omega) k
 by_cases h3:s.ended=true∨(x.kind≠1∧zaz x s.pl i=true)
 .have hE:endE x s.pl i=17:=by unfold endE;rw[if_neg (by simp[hN]),if_neg h2,if_pos (show s.pl.ended=true∨(x.kind≠1∧zaz x s.pl i=true) from h3)]
  have hT:endS x s.pl i=(ssZ,[],17):=by unfold endS;rw[hE,if_pos (by decide)]
  rw[hT]
  refine⟨zSs,ofL 1 [],run _ ?_,zdr _⟩
  by_cases he:s.ended=true
  .by_cases k1:x.kind=1
   .simp[fi92,c92,c1,eq_true k1,eq_true (hr1 k1),he]
    exact⟨rfl,rfl,rfl⟩
   .simp[fi92,c92,c1,k1,c2,w,c3t k1,he]
    exact⟨rfl,rfl,rfl⟩
  .obtain⟨k1,h4⟩:=h3.resolve_left he
   have he0:s.ended=false:=by simpa using he
   have k89:x.kind=8∨x.kind=9:=by
    apply cBc
    intro hn
    unfold zaz at h4
    rw[if_neg (by omega),if_neg (by omega)]at h4
    exact he h4
   have c4:=c4 k89
   rw[h4]at c4
   rcases k89 with k|k
   .have k9:¬x.kind=9:=by omega
    simp[fi92,c92,c1,k1,c2,w,c3t k1,he0,eq_true k,k9,c4]
    exact⟨rfl,rfl,rfl⟩
   .have k8:¬x.kind=8:=by omega
    simp[fi92,c92,c1,k1,c2,w,c3t k1,he0,eq_true k,k8,c4]
    exact⟨rfl,rfl,rfl⟩
 have hE:endE x s.pl i=0:=by unfold endE;rw[if_neg (by simp[hN]),if_neg h2,if_neg (show ¬(s.pl.ended=true∨(x.kind≠1∧zaz x s.pl i=true)) from h3)]
 have hT:endS x s.pl i=endK x s.pl i:=by unfold endS;rw[if_neg (by simp[hE])]
 have he:s.ended=false:=by cases h:s.ended with|false=>rfl|true=>exact absurd (.inl h) h3
 have hnE:x.kind≠1→zaz x s.pl i=false:=fun k1=>by cases h:zaz x s.pl i with|false=>rfl|true=>exact absurd (.inr ⟨k1,h⟩) h3
 rw[hT]
 obtain⟨y0,d1,d2,d3⟩:=e141 x hx (ofL 1 []) (ofL 1 [])
 have d1':W.pure 141 [x.av,.isl (some false) 1 [],.isl (some false) 1 []]=some (Sl.av (Sl.av I 1) 1 y0):=d1
 by_cases k4:x.kind=4
 .have ho:outK x.kind=1:=by simp[outK,k4]
  have k1:¬x.kind=1:=by omega
  have k8:¬x.kind=8:=by omega
  have k9:¬x.kind=9:=by omega
  have hM:zH x.kind=100:=by simp[zH,k4]
  have hLs:zD x.kind=1:=by simp[zD,k4]
  have hH:zT x=x.size - 1:=by simp[zT,k4]
  have hmv:endK x s.pl i=if s.held.l=[] then ({s.pl with ended:=true},[[]],0) else if (sumB s.held.l 0).2≠0 then (ssZ,[],(sumB s.held.l 0).2) else (⟨[],s.count,true⟩,[[(sumB s.held.l 0).1]],0):=by
   unfold endK
   rw[if_pos k4]
   rfl
  obtain⟨o,e,p1,p2,p3⟩:=e128 x.size (by omega) (by omega) s.held (by omega) f4
  have hse:ze [s.av] 0 0 (.isl (some false) 1 [])=some [(⟨ofL 1 [],s.count,s.ended⟩:Ss).av]:=rfl
  rw[hmv]
  by_cases hh:s.held.l=[]
  .rw[if_pos hh]
   have:zd0 x.size.toNat s.held.l.length s.held.l []= .inl []:=by rw[hh];rfl
   rw[this]at p3
   obtain⟨p4,rfl⟩:=p3
   obtain⟨z,q1,q2,q3⟩:=e141 x hx o (ofL 1 [])
   have q1':W.pure 141 [x.av,Sl.av I 1 o,.isl (some false) 1 []]=some (Sl.av (Sl.av I 1) 1 z):=q1
   refine⟨⟨ofL 1 [],s.count,true⟩,z,run _ ?_,by simp[Ss.pl,ofL,hh],nil1,by rw[zaP g1 q2,ho,p4];rfl,q3,zax q2 p2 nil1⟩
   simp[fi92,c92,c1,k1,c2,w,c3t k1,he,k8,k9,eq_true k4,p1,q1',hse,zN,cz]
  .rw[if_neg hh]
   rw[zhM hh (by omega)]at p3
   by_cases hz:(sumB s.held.l 0).2=0
   .rw[if_neg (by simp[hz])]at p3⊢
    obtain⟨p4,rfl⟩:=p3
    obtain⟨z,q1,q2,q3⟩:=e141 x hx o (ofL 1 [])
    have q1':W.pure 141 [x.av,Sl.av I 1 o,.isl (some false) 1 []]=some (Sl.av (Sl.av I 1) 1 z):=q1
    refine⟨⟨ofL 1 [],s.count,true⟩,z,run _ ?_,rfl,nil1,by rw[zaP g1 q2,ho,p4];rfl,q3,zax q2 p2 nil1⟩
    simp[fi92,c92,c1,k1,c2,w,c3t k1,he,k8,k9,eq_true k4,p1,q1',hse,zN,cz]
   .have he14:(sumB s.held.l 0).2=14:=by
     have key:∀(l:List Int) (n:Int),(sumB l n).2=0∨(sumB l n).2=14:=by
      intro l
      induction l with
      |nil=>intro n;exact .inl rfl
      |cons a r ih=>intro n;unfold sumB;split;exact ih _;exact .inr rfl
     exact (key _ _).resolve_left hz
    rw[if_pos hz]at p3⊢
    obtain⟨p4,rfl⟩:=p3
    rw[he14]
    refine⟨zSs,ofL 1 [],run _ ?_,zdr _⟩
    simp[fi92,c92,c1,k1,c2,w,c3t k1,he,k8,k9,eq_true k4,p1,zN,cz]
    exact⟨rfl,rfl⟩
 by_cases k8:x.kind=8
 .have ho:outK x.kind=1:=by simp[outK,k8]
  have k1:¬x.kind=1:=by omega
  have k9:¬x.kind=9:=by omega
  have c4:=c4 (.inl k8)
  rw[hnE k1]at c4
  have hmv:endK x s.pl i=if s.held.l=[] then ({s.pl with held:=[i]},[[]],0) else (⟨[0,1],s.count,true⟩,[[]],0):=by
   unfold endK
   rw[if_neg k4,if_pos k8]
   rfl
  rw[hmv]
  by_cases hh:s.held.l=[]
  .rw[if_pos hh]
   have hse:ze [s.av] 0 0 (.isl (some false) 1 [I i])=some [(⟨ofL 1 [i],s.count,s.ended⟩:Ss).av]:=rfl
   refine⟨⟨ofL 1 [i],s.count,s.ended⟩,y0,run _ ?_,rfl,one1 i,by rw[zaP g1 d2,ho];rfl,d3,zax d2 nil1 nil1⟩
   simp[fi92,c92,c1,k1,c2,w,c3t k1,he,k4,k9,eq_true k8,c4,hh,hse,d1',zN,cz]
  .rw[if_neg hh]
   have hse:ze [s.av] 0 0 (.isl (some false) 1 [I 0,I 1])=some [(⟨ofL 1 [0,1],s.count,s.ended⟩:Ss).av]:=rfl
   refine⟨⟨ofL 1 [0,1],s.count,true⟩,y0,run _ ?_,rfl,zO (by simp),by rw[zaP g1 d2,ho];rfl,d3,zax d2 nil1 nil1⟩
   simp[fi92,c92,c1,k1,c2,w,c3t k1,he,k4,k9,eq_true k8,c4,hh,hse,d1',zN,cz]
 by_cases k9:x.kind=9
 .have ho:outK x.kind=1:=by simp[outK,k9]
  have k1:¬x.kind=1:=by omega
  have hC:zI x=3:=by simp[zI,k9]
  have hinK:inK x.kind=2:=by simp[inK,k9]
  obtain⟨i1,i2⟩:=hr k1
  have c4:=c4 (.inr k9)
  rw[hnE k1]at c4
  have hmv:endK x s.pl i=(⟨if i=1 then [] else s.held.l,s.count+i+1,decide (s.count+i+1=3)⟩,[[]],0):=by
   unfold endK
   rw[if_neg k4,if_neg k8,if_pos k9]
   rfl
  have w1:IntKind.wrap .i64 (s.count+i)=s.count+i:=zr (by omega) (by omega)
  have w2:IntKind.wrap .i64 (s.count+i+1)=s.count+i+1:=zr (by omega) (by omega)
  rw[hmv]
  by_cases h1:i=1
  .have hse:∀(c:Int) (e:Bool),ze [(⟨s.held,c,e⟩:Ss).av] 0 0 (.isl (some false) 1 [])=some [(⟨ofL 1 [],c,e⟩:Ss).av]:=fun _ _=>rfl
   refine⟨⟨ofL 1 [],s.count+i+1,decide (s.count+i+1=3)⟩,y0,run _ ?_,by rw[if_pos h1];rfl,nil1,by rw[zaP g1 d2,ho];rfl,d3,zax d2 nil1 nil1⟩
   simp[fi92,c92,c1,k1,c2,w,c3t k1,he,k4,k8,eq_true k9,c4,w1,w2,eq_true h1,hse,d1',zN,cz]
  .refine⟨⟨s.held,s.count+i+1,decide (s.count+i+1=3)⟩,y0,run _ ?_,by rw[if_neg h1];rfl,hs,by rw[zaP g1 d2,ho];rfl,d3,zax d2 nil1 nil1⟩
   simp[fi92,c92,c1,k1,c2,w,c3t k1,he,k4,k8,eq_true k9,c4,w1,w2,h1,d1',zN,cz]
 .have hmv:endK x s.pl i=({s.pl with ended:=true},List.replicate (outK x.kind) [],0):=by
   unfold endK
   rw[if_neg k4,if_neg k8,if_neg k9]
  have hrep:[([]:List Int),[]].take (outK x.kind)=List.replicate (outK x.kind) []:=by
   have:=zcd x.kind
   have h3:outK x.kind=0∨outK x.kind=1∨outK x.kind=2:=by omega
   rcases h3 with h|h|h<;>rw[h]<;>rfl
  rw[hmv]
  refine⟨⟨s.held,s.count,true⟩,y0,run _ ?_,rfl,hs,by rw[zaP g1 d2];exact hrep,d3,zax d2 nil1 nil1⟩
  by_cases k1:x.kind=1
  .simp[fi92,c92,c1,eq_true k1,eq_true (hr1 k1),he,k4,k8,k9,d1',zN,cz]
  .simp[fi92,c92,c1,k1,c2,w,c3t k1,he,k4,k8,k9,d1',zN,cz]
structure PlN (x:Pl):Prop where
 st:x.stages.l.length≤1000
 pi:x.pipes.l.length≤1000
 it:∀s∈x.stages.l,s.items.l.length≤1048576
theorem zfs (p:Pi→Bool):∀(l:List Pi) (k:Nat),pidx p l k=match fidx p l with|some j=>((k+j:Nat):Int)|none=> -1
 | [],k=>rfl
 |a::r,k=>by
  simp only[pidx,fidx]
  cases hp:p a with
  |true=>simp
  |false=>
   rw[if_neg Bool.false_ne_true,if_neg Bool.false_ne_true,zfs p r (k+1)]
   cases fidx p r with
   |none=>rfl
   |some j=>simp only[oMs];congr 1;omega
theorem zvY (i n:Int) (y:Pi) (H:Heap) (h1:H[1]?=some (.arr 0 1 false [I i])) (h2:H[2]?=some (.arr 0 1 false [I n])):okV (W.call (.clo 121 [] [.optr 1 0 0 0,.optr 2 0 0 0]) [y.av] H) (fun v H'=>v= .bool (decide (y.src=i)&&decide (y.output=n))∧Kept none H H'):=by
 have g1:∀B,(H++[B])[1]?=some (.arr 0 1 false [I i]):=fun B=>zaf h1 B
 have g2:∀B,(H++[B])[2]?=some (.arr 0 1 false [I n]):=fun B=>zaf h2 B
 have g3:∀B,(H++[B])[H.length]?=some B:=fun B=>zL H B
 rw[zj Φ121]
 by_cases h:y.src=i<;>simp[zrU,c121,g1,g2,g3,h,gEz, -getElem?_pos]<;>exact Kept.append _ _ _
theorem zvZ (i n:Int) (y:Pi) (H:Heap) (h1:H[1]?=some (.arr 0 1 false [I i])) (h2:H[2]?=some (.arr 0 1 false [I n])):okV (W.call (.clo 114 [] [.optr 1 0 0 0,.optr 2 0 0 0]) [y.av] H) (fun v H'=>v= .bool (decide (y.dst=i)&&decide (y.input=n))∧Kept none H H'):=by
 have g1:∀B,(H++[B])[1]?=some (.arr 0 1 false [I i]):=fun B=>zaf h1 B
 have g2:∀B,(H++[B])[2]?=some (.arr 0 1 false [I n]):=fun B=>zaf h2 B
 have g3:∀B,(H++[B])[H.length]?=some B:=fun B=>zL H B
 rw[zj Φ114]
 by_cases h:y.dst=i<;>simp[zrW,c114,g1,g2,g3,h,gEz, -getElem?_pos]<;>exact Kept.append _ _ _
theorem e71 (x:Pl) (hx:x.pipes.l.length≤1000) (i n:Int):W.pure 71 [x.av,I i,I n]=some (I (pOut x i n)):=by
 obtain⟨v,H',d1,rfl,d2⟩:=zz.1 (ztp x.pipes (by omega) (.clo 121 [] [.optr 1 0 0 0,.optr 2 0 0 0]) rfl (fun y=>decide (y.src=i)&&decide (y.output=n)) [.arr 0 2 false [x.av],.arr 0 1 false [I i],.arr 0 1 false [I n]]
  (fun y _ H hk=>zvY i n y H (hk.get (by simp) rfl) (hk.get (by simp) rfl)))
 have hp:=zfs (fun y=>decide (y.src=i)&&decide (y.output=n)) x.pipes.l 0
 rw[zd Φ71 (by simp)]
 simp[fi71,c71,zj Φ113,zoI,c113,d1]
 unfold pOut
 rw[hp]
 cases fidx (fun y=>decide (y.src=i)&&decide (y.output=n)) x.pipes.l<;>simp
theorem e69 (x:Pl) (hx:x.pipes.l.length≤1000) (i n:Int):W.pure 69 [x.av,I i,I n]=some (I (pIn x i n)):=by
 obtain⟨v,H',d1,rfl,d2⟩:=zz.1 (ztp x.pipes (by omega) (.clo 114 [] [.optr 1 0 0 0,.optr 2 0 0 0]) rfl (fun y=>decide (y.dst=i)&&decide (y.input=n)) [.arr 0 2 false [x.av],.arr 0 1 false [I i],.arr 0 1 false [I n]]
  (fun y _ H hk=>zvZ i n y H (hk.get (by simp) rfl) (hk.get (by simp) rfl)))
 have hp:=zfs (fun y=>decide (y.dst=i)&&decide (y.input=n)) x.pipes.l 0
 rw[zd Φ69 (by simp)]
 simp[fi69,c69,zj Φ113,zoI,c113,d1]
 unfold pIn
 rw[hp]
 cases fidx (fun y=>decide (y.dst=i)&&decide (y.input=n)) x.pipes.l<;>simp
theorem zw5 (x:Pl) (hx:x.pipes.l.length≤1000) (i n:Int):∀(r:List Pi) (k:Nat),x.pipes.l.drop k=r→k≤x.pipes.l.length→okC (W.loop [1,2,3,7] zuC [(1,I i),(2,I n),(3,.optr 0 0 0 0),(7,I k)] [.arr 0 2 false [x.av]])
  (fun q F H=>if pidx (fun y=>decide (y.src=i)&&decide (y.output=n)) r k= -1 then q= .exit 0 else q= .ret∧F.get 6=I (pidx (fun y=>decide (y.src=i)&&decide (y.output=n)) r k)):=by
 intro r
 induction r with
 |nil=>
  intro k h1 h2
  have hk:=zf h1 h2
  rw[zb]
  simp[zhj,zmn,hk,pidx]
 |cons a r ih=>
  intro k h1 h2
  obtain⟨hlt,ha,hr⟩:=zn h1
  have hlt':(k:Int)<x.pipes.l.length:=by omega
  have hak:x.pipes.l[k]=a:=(gEs.1 ha).2
  have hw:=zg (k:=k) (by omega)
  have g:=ih (k+1) hr (by omega)
  simp only[iNa,iCo]at g
  rw[zb]
  unfold pidx
  by_cases h1:a.src=i
  .by_cases h2:a.output=n
   .have:¬((k:Int)= -1):=by omega
    simp[zhj,zmn,hlt,hak,h1,h2,this]
   .simp[zhj,zmn,hlt,hak,h1,h2,hw]
    simpa[h1,h2]using g
  .simp[zhj,zmn,hlt,hak,h1,hw]
   simpa[h1]using g
theorem e50 (x:Pl) (hx:x.pipes.l.length≤1000) (i n:Int):W.pure 50 [x.av,I i,I n]=some (I (pOut x i n)):=by
 obtain⟨q,F,H,d1,d2⟩:=zc.1 (zw5 x hx i n x.pipes.l 0 rfl (by omega))
 rw[zd Φ50 (by simp)]
 simp at d1
 unfold pOut
 by_cases h:pidx (fun y=>decide (y.src=i)&&decide (y.output=n)) x.pipes.l 0= -1
 .rw[if_pos h]at d2
  subst d2
  rw[h]
  simp[fi50,c50,d1]
 .rw[if_neg h]at d2
  obtain⟨rfl,d3⟩:=d2
  simp[fi50,c50,d1,d3]
theorem zw2 (x:Pl) (hx:x.pipes.l.length≤1000) (i n:Int):∀(r:List Pi) (k:Nat),x.pipes.l.drop k=r→k≤x.pipes.l.length→okC (W.loop [1,2,3,7] zux [(1,I i),(2,I n),(3,.optr 0 0 0 0),(7,I k)] [.arr 0 2 false [x.av]])
  (fun q F H=>if pidx (fun y=>decide (y.dst=i)&&decide (y.input=n)) r k= -1 then q= .exit 0 else q= .ret∧F.get 6=I (pidx (fun y=>decide (y.dst=i)&&decide (y.input=n)) r k)):=by
 intro r
 induction r with
 |nil=>
  intro k h1 h2
  have hk:=zf h1 h2
  rw[zb]
  simp[zhf,zmj,hk,pidx]
 |cons a r ih=>
  intro k h1 h2
  obtain⟨hlt,ha,hr⟩:=zn h1
  have hlt':(k:Int)<x.pipes.l.length:=by omega
  have hak:x.pipes.l[k]=a:=(gEs.1 ha).2
  have hw:=zg (k:=k) (by omega)
  have g:=ih (k+1) hr (by omega)
  simp only[iNa,iCo]at g
  rw[zb]
  unfold pidx
  by_cases h1:a.dst=i
  .by_cases h2:a.input=n
   .have:¬((k:Int)= -1):=by omega
    simp[zhf,zmj,hlt,hak,h1,h2,this]
   .simp[zhf,zmj,hlt,hak,h1,h2,hw]
    simpa[h1,h2]using g
  .simp[zhf,zmj,hlt,hak,h1,hw]
   simpa[h1]using g
theorem e65 (x:Pl) (hx:x.pipes.l.length≤1000) (i n:Int):W.pure 65 [x.av,I i,I n]=some (I (pIn x i n)):=by
 obtain⟨q,F,H,d1,d2⟩:=zc.1 (zw2 x hx i n x.pipes.l 0 rfl (by omega))
 rw[zd Φ65 (by simp)]
 simp at d1
 unfold pIn
 by_cases h:pidx (fun y=>decide (y.dst=i)&&decide (y.input=n)) x.pipes.l 0= -1
 .rw[if_pos h]at d2
  subst d2
  rw[h]
  simp[fi65,c65,d1]
 .rw[if_neg h]at d2
  obtain⟨rfl,d3⟩:=d2
  simp[fi65,c65,d1,d3]
theorem e39 (a l h:Int):W.pure 39 [I a,I l,I h]=some (.bool (decide (l≤a)&&decide (a≤h))):=by
 rw[zd Φ39 rfl]
 by_cases h1:l≤a<;>simp[fi39,c39,h1]
theorem e39t {a l h:Int} (h1:l≤a) (h2:a≤h):W.pure 39 [I a,I l,I h]=some (.bool true):=by rw[e39];simp[h1,h2]
theorem e39f {a l h:Int} (h1:a<l∨h<a):W.pure 39 [I a,I l,I h]=some (.bool false):=by
 rw[e39]
 rcases h1 with h1|h1
 .simp;omega
 .simp;omega
theorem zcF {x:Pl} {i:Int} (h0:0≤i) (h1:i<x.stages.l.length):x.stages.l[i.toNat]?=some (sgAt x i):=by
 unfold sgAt
 rw[gEd,gEg (by omega)];rfl
theorem e74 (x:Pl) (hx:PlN x) (k:Nat) (y:Pi) (hy:x.pipes.l[k]?=some y):W.pure 74 [x.av,I k]=some (I (piI x k y)):=by
 have hk:=(gEs.1 hy).1
 have hky:x.pipes.l[k]=y:=(gEs.1 hy).2
 have hst:=hx.st
 have w1:IntKind.wrap .i64 ((x.stages.l.length:Int) - 1)=(x.stages.l.length:Int) - 1:=zr (by omega) (by omega)
 have run:∀(A:Option AV),((zam W fi74 [x.av,I k] []).bind fun p=>frz p.2 8 p.1)=A→W.pure 74 [x.av,I k]=A:=fun A h=>by rw[zd Φ74 (by simp)];exact h
 unfold piI
 by_cases a1:y.src<0∨(x.stages.l.length:Int)≤y.src
 .rw[if_pos (by omega)]
  have c1:=e39f (a:=y.src) (l:=0) (h:=(x.stages.l.length:Int) - 1) (by omega)
  refine run _ ?_
  simp[fi74,c74,hk,hky,w1,c1]
 have c1:=e39t (a:=y.src) (l:=0) (h:=(x.stages.l.length:Int) - 1) (by omega) (by omega)
 by_cases a2:y.dst<0∨(x.stages.l.length:Int)≤y.dst
 .rw[if_pos (by omega)]
  have c2:=e39f (a:=y.dst) (l:=0) (h:=(x.stages.l.length:Int) - 1) (by omega)
  refine run _ ?_
  simp[fi74,c74,hk,hky,w1,c1,c2]
 have c2:=e39t (a:=y.dst) (l:=0) (h:=(x.stages.l.length:Int) - 1) (by omega) (by omega)
 have hs:=zcF (x:=x) (i:=y.src) (by omega) (by omega)
 have hd:=zcF (x:=x) (i:=y.dst) (by omega) (by omega)
 have s0:0≤y.src:=by omega
 have d0:0≤y.dst:=by omega
 have hsl:y.src.toNat<x.stages.l.length:=by omega
 have hdl:y.dst.toNat<x.stages.l.length:=by omega
 have hsg:x.stages.l[y.src.toNat]=sgAt x y.src:=(gEs.1 hs).2
 have hdg:x.stages.l[y.dst.toNat]=sgAt x y.dst:=(gEs.1 hd).2
 have f1:=e73 (sgAt x y.src) (hx.it _ (lMg hs))
 have f2:=e68 (sgAt x y.dst) (hx.it _ (lMg hd))
 have l1:=zgX (sgAt x y.src)
 have l2:inN (sgAt x y.dst)≤2:=by unfold inN;split;omega;exact znY _
 have w2:IntKind.wrap .i64 ((outN (sgAt x y.src):Int) - 1)=(outN (sgAt x y.src):Int) - 1:=zr (by omega) (by omega)
 have w3:IntKind.wrap .i64 ((inN (sgAt x y.dst):Int) - 1)=(inN (sgAt x y.dst):Int) - 1:=zr (by omega) (by omega)
 by_cases b1:y.output<0∨(outN (sgAt x y.src):Int)≤y.output
 .have:(if y.src<0∨(x.stages.l.length:Int)≤y.src∨y.dst<0∨(x.stages.l.length:Int)≤y.dst∨y.capacity<1∨100<y.capacity then (2:Int)
   else if y.output<0∨(outN (sgAt x y.src):Int)≤y.output∨y.input<0∨(inN (sgAt x y.dst):Int)≤y.input then 2 else if pOut x y.src y.output<k∨pIn x y.dst y.input<k then 6 else if (sgAt x y.src).kind=5∧y.capacity<(sgAt x y.src).size then 2 else 0)=2:=by
   split
   .rfl
   .rw[if_pos (by omega)]
  rw[this]
  have c3:=e39f (a:=y.output) (l:=0) (h:=(outN (sgAt x y.src):Int) - 1) (by omega)
  refine run _ ?_
  simp[fi74,c74,hk,hky,w1,c1,c2,s0,d0,hsl,hdl,hsg,hdg,f1,f2,w2,w3,c3]
 have c3:=e39t (a:=y.output) (l:=0) (h:=(outN (sgAt x y.src):Int) - 1) (by omega) (by omega)
 by_cases b2:y.input<0∨(inN (sgAt x y.dst):Int)≤y.input
 .have:(if y.src<0∨(x.stages.l.length:Int)≤y.src∨y.dst<0∨(x.stages.l.length:Int)≤y.dst∨y.capacity<1∨100<y.capacity then (2:Int)
   else if y.output<0∨(outN (sgAt x y.src):Int)≤y.output∨y.input<0∨(inN (sgAt x y.dst):Int)≤y.input then 2 else if pOut x y.src y.output<k∨pIn x y.dst y.input<k then 6 else if (sgAt x y.src).kind=5∧y.capacity<(sgAt x y.src).size then 2 else 0)=2:=by
   split
   .rfl
   .rw[if_pos (by omega)]
  rw[this]
  have c4:=e39f (a:=y.input) (l:=0) (h:=(inN (sgAt x y.dst):Int) - 1) (by omega)
  refine run _ ?_
  simp[fi74,c74,hk,hky,w1,c1,c2,s0,d0,hsl,hdl,hsg,hdg,f1,f2,w2,w3,c3,c4]
 have c4:=e39t (a:=y.input) (l:=0) (h:=(inN (sgAt x y.dst):Int) - 1) (by omega) (by omega)
 by_cases b3:y.capacity<1∨100<y.capacity
 .rw[if_pos (by omega)]
  have c5:=e39f (a:=y.capacity) (l:=1) (h:=100) (by omega)
  refine run _ ?_
  simp[fi74,c74,hk,hky,w1,c1,c2,s0,d0,hsl,hdl,hsg,hdg,f1,f2,w2,w3,c3,c4,c5]
 have c5:=e39t (a:=y.capacity) (l:=1) (h:=100) (by omega) (by omega)
 rw[if_neg (by omega),if_neg (by omega)]
 have p1:=e71 x hx.pi y.src y.output
 have p2:=e69 x hx.pi y.dst y.input
 by_cases g1:pOut x y.src y.output<k
 .rw[if_pos (.inl g1)]
  refine run _ ?_
  simp[fi74,c74,hk,hky,w1,c1,c2,s0,d0,hsl,hdl,hsg,hdg,f1,f2,w2,w3,c3,c4,c5,p1,p2,g1]
 by_cases g2:pIn x y.dst y.input<k
 .rw[if_pos (.inr g2)]
  refine run _ ?_
  simp[fi74,c74,hk,hky,w1,c1,c2,s0,d0,hsl,hdl,hsg,hdg,f1,f2,w2,w3,c3,c4,c5,p1,p2,g1,g2]
 rw[if_neg (by omega)]
 refine run _ ?_
 by_cases g3:(sgAt x y.src).kind=5
 .by_cases g4:y.capacity<(sgAt x y.src).size
  .simp[fi74,c74,hk,hky,w1,c1,c2,s0,d0,hsl,hdl,hsg,hdg,f1,f2,w2,w3,c3,c4,c5,p1,p2,g1,g2,g3,g4]
  .simp[fi74,c74,hk,hky,w1,c1,c2,s0,d0,hsl,hdl,hsg,hdg,f1,f2,w2,w3,c3,c4,c5,p1,p2,g1,g2,g3,g4]
 .simp[fi74,c74,hk,hky,w1,c1,c2,s0,d0,hsl,hdl,hsg,hdg,f1,f2,w2,w3,c3,c4,c5,p1,p2,g1,g2,g3]
theorem e62 (x:Pl) (hx:PlN x) (k:Nat) (y:Pi) (hy:x.pipes.l[k]?=some y):W.pure 62 [x.av,I k]=some (I (piI x k y)):=by
 have hk:=(gEs.1 hy).1
 have hky:x.pipes.l[k]=y:=(gEs.1 hy).2
 have hst:=hx.st
 have run:∀(A:Option AV),((zam W fi62 [x.av,I k] []).bind fun p=>frz p.2 8 p.1)=A→W.pure 62 [x.av,I k]=A:=fun A h=>by rw[zd Φ62 (by simp)];exact h
 unfold piI
 refine run _ ?_
 by_cases a1:y.src<0
 .rw[if_pos (.inl a1)]
  simp[fi62,c62,hk,hky,a1]
 by_cases a2:(x.stages.l.length:Int)≤y.src
 .rw[if_pos (.inr (.inl a2))]
  simp[fi62,c62,hk,hky,a1,a2]
 by_cases a3:y.dst<0
 .rw[if_pos (.inr (.inr (.inl a3)))]
  simp[fi62,c62,hk,hky,a1,a2,a3]
 by_cases a4:(x.stages.l.length:Int)≤y.dst
 .rw[if_pos (.inr (.inr (.inr (.inl a4))))]
  simp[fi62,c62,hk,hky,a1,a2,a3,a4]
 by_cases a5:y.capacity<1
 .rw[if_pos (.inr (.inr (.inr (.inr (.inl a5)))))]
  simp[fi62,c62,hk,hky,a1,a2,a3,a4,a5]
 by_cases a6:100<y.capacity
 .rw[if_pos (.inr (.inr (.inr (.inr (.inr a6)))))]
  simp[fi62,c62,hk,hky,a1,a2,a3,a4,a5,a6]
 rw[if_neg (by omega)]
 have hs:=zcF (x:=x) (i:=y.src) (by omega) (by omega)
 have hd:=zcF (x:=x) (i:=y.dst) (by omega) (by omega)
 have s0:0≤y.src:=by omega
 have d0:0≤y.dst:=by omega
 have hsl:y.src.toNat<x.stages.l.length:=by omega
 have hdl:y.dst.toNat<x.stages.l.length:=by omega
 have hsg:x.stages.l[y.src.toNat]=sgAt x y.src:=(gEs.1 hs).2
 have hdg:x.stages.l[y.dst.toNat]=sgAt x y.dst:=(gEs.1 hd).2
 have f1:=e63 (sgAt x y.src) (hx.it _ (lMg hs))
 have f2:=e64 (sgAt x y.dst) (hx.it _ (lMg hd))
 by_cases b1:y.output<0
 .rw[if_pos (.inl b1)]
  simp[fi62,c62,hk,hky,a1,a2,a3,a4,a5,a6,b1]
 by_cases b2:(outN (sgAt x y.src):Int)≤y.output
 .rw[if_pos (.inr (.inl b2))]
  simp[fi62,c62,hk,hky,a1,a2,a3,a4,a5,a6,b1,b2,s0,d0,hsl,hdl,hsg,hdg,f1,f2]
 by_cases b3:y.input<0
 .rw[if_pos (.inr (.inr (.inl b3)))]
  simp[fi62,c62,hk,hky,a1,a2,a3,a4,a5,a6,b1,b2,b3,s0,d0,hsl,hdl,hsg,hdg,f1,f2]
 by_cases b4:(inN (sgAt x y.dst):Int)≤y.input
 .rw[if_pos (.inr (.inr (.inr b4)))]
  simp[fi62,c62,hk,hky,a1,a2,a3,a4,a5,a6,b1,b2,b3,b4,s0,d0,hsl,hdl,hsg,hdg,f1,f2]
 rw[if_neg (by omega)]
 have p1:=e50 x hx.pi y.src y.output
 have p2:=e65 x hx.pi y.dst y.input
 by_cases g1:pOut x y.src y.output<k
 .rw[if_pos (.inl g1)]
  simp[fi62,c62,hk,hky,a1,a2,a3,a4,a5,a6,b1,b2,b3,b4,s0,d0,hsl,hdl,hsg,hdg,f1,f2,p1,p2,g1]
 by_cases g2:pIn x y.dst y.input<k
 .rw[if_pos (.inr g2)]
  simp[fi62,c62,hk,hky,a1,a2,a3,a4,a5,a6,b1,b2,b3,b4,s0,d0,hsl,hdl,hsg,hdg,f1,f2,p1,p2,g1,g2]
 rw[if_neg (by omega)]
 by_cases g3:(sgAt x y.src).kind=5
 .by_cases g4:y.capacity<(sgAt x y.src).size
  .simp[fi62,c62,hk,hky,a1,a2,a3,a4,a5,a6,b1,b2,b3,b4,s0,d0,hsl,hdl,hsg,hdg,f1,f2,p1,p2,g1,g2,g3,g4]
  .simp[fi62,c62,hk,hky,a1,a2,a3,a4,a5,a6,b1,b2,b3,b4,s0,d0,hsl,hdl,hsg,hdg,f1,f2,p1,p2,g1,g2,g3,g4]
 .simp[fi62,c62,hk,hky,a1,a2,a3,a4,a5,a6,b1,b2,b3,b4,s0,d0,hsl,hdl,hsg,hdg,f1,f2,p1,p2,g1,g2,g3]
theorem zfe {l:List Int} {k:Nat} (hk:k<l.length) (a:Int):ze (l.map I) k 0 (I a)=some ((l.set k a).map I):=by
 rw[zes (w:=I l[k]) (by simp[hk]) rfl rfl rfl,List.map_set]
def rplG (a b v:Int):Int:=if v=b then a else v
def mixG (a b:Int) (k:Nat) (g:List Int):List Int:=(g.take k).map (rplG a b)++g.drop k
theorem zg2 (a b:Int) (k:Nat) (g:List Int):(mixG a b k g).length=g.length:=by
 simp[mixG];omega
theorem zg3 {a b:Int} {k:Nat} {g:List Int} (hk:k<g.length):(mixG a b k g)[k]?=some g[k]:=by
 unfold mixG
 rw[gEr (by simp;omega)]
 simp[Nat.min_eq_left (Nat.le_of_lt hk)]
theorem zfy {a b:Int} {k:Nat} {g:List Int} (hk:k<g.length):mixG a b (k+1) g=(mixG a b k g).set k (rplG a b g[k]):=by
 apply List.ext_getElem?
 intro i
 unfold mixG
 rw[List.getElem?_set]
 have hl:((g.take k).map (rplG a b)).length=k:=by simp;omega
 have hl':((g.take (k+1)).map (rplG a b)).length=k+1:=by simp;omega
 by_cases h1:i<k
 .rw[if_neg (by omega),gEa (by omega),gEa (by omega)]
  simp[List.getElem?_take,h1,show i<k+1 by omega]
 .by_cases h2:k=i
  .subst h2
   rw[if_pos rfl,if_pos (by simp;omega),gEa (by omega)]
   simp[List.getElem?_take,hk]
  .rw[if_neg h2,gEr (by omega),gEr (by omega),hl,hl']
   simp only[List.getElem?_drop]
   congr 1;omega
theorem zkK {a b:Int} {g:List Int}:mixG a b g.length g=g.map (rplG a b):=by simp[mixG]
theorem zie {a b:Int} {g:List Int}:mixG a b 0 g=g:=by simp[mixG]
theorem zif {a b:Int} {k:Nat} {g:List Int} (hk:k<g.length) (h:g[k]≠b):mixG a b (k+1) g=mixG a b k g:=by
 rw[zfy hk]
 have:rplG a b g[k]=g[k]:=by simp[rplG,h]
 rw[this]
 apply List.ext_getElem?
 intro i
 rw[List.getElem?_set]
 by_cases h2:k=i
 .subst h2;rw[if_pos rfl,if_pos (by rw[zg2];exact hk),zg3 hk]
 .rw[if_neg h2]
theorem zg7 (a b:Int) (g:List Int) (hn:g.length≤1000) (z26 z27 z28:AV) (o1:okO z26=some z26) (o2:okO z27=some z27) (o3:okO z28=some z28):∀(m k:Nat) (H:Heap),k+m=g.length→H[1]?=some (.arr 0 1 false ((mixG a b k g).map I))→
  okC (W.loop [3,7,8,26,27,28,45,46,47] zut [(3,.osl 1 0 0 g.length),(7,I a),(8,I b),(26,z26),(27,z27),(28,z28),(45,.osl 1 0 0 g.length),(46,I g.length),(47,I k)] H)
   (fun q F H'=>q= .exit 4∧F.keep [3,26,27,28]=[(3,.osl 1 0 0 g.length),(26,z26),(27,z27),(28,z28)]∧H'[1]?=some (.arr 0 1 false ((g.map (rplG a b)).map I)))
 |0,k,H,hk,hH=>by
  have:k=g.length:=by omega
  subst this
  rw[zkK]at hH
  rw[zb]
  simp[zjR,zpi,hH,o1,o2,o3, -getElem?_pos, -List.map_map]
 |m+1,k,H,hk,hH=>by
  have hlt:k<g.length:=by omega
  have hlt':(k:Int)<g.length:=by omega
  have hw:=zg (k:=k) (by omega)
  have hl1:1<H.length:=(gEs.1 hH).1
  have hg:((mixG a b k g).map I)[k]?=some (I g[k]):=by rw[gEm,zg3 hlt];rfl
  rw[zb]
  by_cases h:g[k]=b
  .have hse:=zfe (l:=mixG a b k g) (k:=k) (by rw[zg2];exact hlt) a
   have hnext:(mixG a b k g).set k a=mixG a b (k+1) g:=by rw[zfy hlt];simp[rplG,h]
   rw[hnext]at hse
   have ih:=zg7 a b g hn z26 z27 z28 o1 o2 o3 m (k+1) (H.set 1 (.arr 0 1 false ((mixG a b (k+1) g).map I))) (by omega) (gEt hl1)
   simp only[iNa,iCo]at ih
   simp[zjR,zpi,hH,hlt,hlt',hg,h,hse,hw,o1,o2,o3, -getElem?_pos, -List.getElem?_map, -List.map_map]
   simpa using ih
  .have ih:=zg7 a b g hn z26 z27 z28 o1 o2 o3 m (k+1) H (by omega) (by rw[zif hlt h];exact hH)
   simp only[iNa,iCo]at ih
   simp[zjR,zpi,hH,hlt,hlt',hg,h,hw,o1,o2,o3, -getElem?_pos, -List.getElem?_map, -List.map_map]
   simpa using ih
def InR (n:Nat) (l:List Pi):Prop:=∀y∈l,0≤y.src∧y.src<n∧0≤y.dst∧y.dst<n
theorem zgp {g:List Int} {y:Pi} (h:g.getD y.src.toNat 0≠g.getD y.dst.toNat 0):zfz g y=some (g.map (rplG (g.getD y.src.toNat 0) (g.getD y.dst.toNat 0))):=by
 unfold zfz
 simp only
 rw[if_neg h]
 rfl
theorem zgq {g:List Int} {y:Pi} (h:g.getD y.src.toNat 0=g.getD y.dst.toNat 0):zfz g y=none:=by
 unfold zfz
 simp only
 rw[if_pos h]
theorem zqv (x:Sl Pi) (hx:x.l.length≤1000) (n:Nat) (hn:n≤1000) (hr:InR n x.l):∀(rest:List Pi) (j:Nat) (g:List Int) (H:Heap),x.l.drop j=rest→j≤x.l.length→g.length=n→H[1]?=some (.arr 0 1 false (g.map I))→
  okC (W.loop [3,26,27,28] zus [(3,.osl 1 0 0 n),(26,Sl.av Pi.av 5 x),(27,I x.l.length),(28,I j)] H) (fun q F H'=>if (zct rest g).isNone=true then q= .ret∧F.get 2= .bool true else q= .exit 2):=by
 intro rest
 induction rest with
 |nil=>
  intro j g H h1 h2 hg hH
  have hk:=zf h1 h2
  rw[zb]
  simp[zjQ,zph,hk,zct]
 |cons y rest ih=>
  intro j g H h1 h2 hg hH
  obtain⟨hlt,hy,hrr⟩:=zn h1
  have hlt':(j:Int)<x.l.length:=by omega
  have hyj:x.l[j]=y:=(gEs.1 hy).2
  have hw:=zg (k:=j) (by omega)
  obtain⟨r1,r2,r3,r4⟩:=hr y (lMg hy)
  have hl1:1<H.length:=(gEs.1 hH).1
  have g1:∀B,(H++[B])[1]?=some (.arr 0 1 false (g.map I)):=fun B=>zaf hH B
  have g2:∀B,(H++[B])[H.length]?=some B:=fun B=>zL H B
  have hs:(g.map I)[y.src.toNat]?=some (I (g.getD y.src.toNat 0)):=by
   have:y.src.toNat<g.length:=by omega
   simp[gEd,this]
  have hd:(g.map I)[y.dst.toNat]?=some (I (g.getD y.dst.toNat 0)):=by
   have:y.dst.toNat<g.length:=by omega
   simp[gEd,this]
  rw[zb]
  unfold zct
  by_cases hab:g.getD y.src.toNat 0=g.getD y.dst.toNat 0
  .rw[zgq hab]
   rw[hab]at hs
   simp[zjQ,zph,hlt,hlt',hy,g1,g2,r1,r2,r3,r4,hs,hd,gEz, -getElem?_pos, -List.getElem?_map, -List.getD_eq_getElem?_getD]
  .rw[zgp hab]
   generalize g.getD y.src.toNat 0=a at *
   generalize g.getD y.dst.toNat 0=b at *
   obtain⟨q,F,H',d1,rfl,d2,d3⟩:=zc.1 (zg7 a b g (by omega) (Sl.av Pi.av 5 x) (I x.l.length) (I j) rfl rfl rfl g.length 0 (H++[.arr 0 5 false [y.av]]) (by omega) (by rw[zie];exact g1 _))
   have ih:=ih (j+1) (g.map (rplG a b)) H' hrr (by omega) (by rw[List.length_map];exact hg) d3
   simp only[iNa,iCo]at ih
   rw[hg]at d1
   simp at d1 d2
   simp[zjQ,zph,hlt,hlt',hy,g1,g2,r1,r2,r3,r4,hs,hd,hab,d1,d2,hw,hg,gEz, -getElem?_pos, -List.getElem?_map, -List.map_map]
   simpa using ih
def cntG (k n:Nat):List Int:=(List.range k).map (fun (i:Nat)=>(i:Int))++List.replicate (n - k) 0
theorem zr8 {k n:Nat} (h:k≤n):(cntG k n).length=n:=by simp[cntG];omega
theorem zr9 (n:Nat):cntG n n=idsG n:=by simp[cntG,idsG]
theorem zo5 {k n:Nat} (h:k<n):(cntG k n).set k (k:Int)=cntG (k+1) n:=by
 unfold cntG
 rw[List.set_append_right _ _ (by simp)]
 simp only[List.length_map,List.length_range,Nat.sub_self]
 have:n - k=(n - (k+1))+1:=by omega
 rw[this,List.replicate_succ,List.set_cons_zero,List.range_succ,List.map_append,List.append_assoc]
 rfl
theorem zkL (x:Pl) (n:Nat) (hn:n≤1000):∀(m k:Nat),k+m=n→okC (W.loop [1,3,16,17] zur [(1,.optr 0 0 0 0),(3,.osl 1 0 0 n),(16,I n),(17,I k)] [.arr 0 2 false [x.av],.arr 0 1 false ((cntG k n).map I)])
  (fun q F H=>q= .exit 0∧F.keep [1,3]=[(1,.optr 0 0 0 0),(3,.osl 1 0 0 n)]∧H=[.arr 0 2 false [x.av],.arr 0 1 false ((idsG n).map I)])
 |0,k,hk=>by
  have:k=n:=by omega
  subst this
  rw[zb,zr9]
  simp[zoP,zsf]
 |m+1,k,hk=>by
  have hlt:k<n:=by omega
  have hlt':(k:Int)<n:=by omega
  have hw:=zg (k:=k) (by omega)
  have hse:=zfe (l:=cntG k n) (k:=k) (by rw[zr8 (by omega)];exact hlt) (k:Int)
  rw[zo5 hlt]at hse
  have ih:=zkL x n hn m (k+1) (by omega)
  simp only[iNa,iCo]at ih
  rw[zb]
  simp[zoP,zsf,hlt,hlt',hse,hw]
  simpa using ih
theorem e75 (x:Pl) (hx:PlN x) (hr:InR x.stages.l.length x.pipes.l):W.pure 75 [x.av]=some (.bool (cyc x)):=by
 obtain⟨q,F,H,d1,rfl,d2,rfl⟩:=zc.1 (zkL x x.stages.l.length hx.st x.stages.l.length 0 (by omega))
 obtain⟨q2,F2,H2,f1,f2⟩:=zc.1 (zqv x.pipes hx.pi x.stages.l.length hx.st hr x.pipes.l 0 (idsG x.stages.l.length) [.arr 0 2 false [x.av],.arr 0 1 false ((idsG x.stages.l.length).map I)] rfl (by omega) (zcO _) rfl)
 have h0:(cntG 0 x.stages.l.length).map I=List.replicate x.stages.l.length (I 0):=by simp[cntG]
 rw[h0]at d1
 have hb1:x.stages.l.length≤1048576:=by have:=hx.st;omega
 have hb2:(x.stages.l.length:Int)≤1048576:=by omega
 rw[zd Φ75 (by simp)]
 simp at d1 d2
 unfold cyc
 cases hc:(zct x.pipes.l (idsG x.stages.l.length)).isNone with
 |true=>
  rw[hc]at f2
  simp only[if_true]at f2
  obtain⟨rfl,f3⟩:=f2
  simp at f1
  simp[fi75,c75,hb1,hb2,d1,d2,f1,f3]
 |false=>
  rw[hc]at f2
  simp only[bFt,if_false]at f2
  subst f2
  simp at f1
  simp[fi75,c75,hb1,hb2,d1,d2,f1]
abbrev hp66 (x:Pl) (v:Nat) (g:List Int):Heap:=[.arr 0 2 false [x.av],.arr v 1 false (g.map I)]
theorem zkN (x:Pl) (v:Nat) (a b:Int) (g:List Int) (hn:g.length≤1000) (j:Nat):∀(m k:Nat),k+m=g.length→
  okC (W.loop [1,3,5,6,7,8] zuw [(1,.optr 0 0 0 0),(3,.osl 1 v 0 g.length),(5,I j),(6,I a),(7,I b),(8,I k)] (hp66 x v (mixG a b k g)))
   (fun q F H=>q= .exit 4∧F.keep [1,3,5]=[(1,.optr 0 0 0 0),(3,.osl 1 v 0 g.length),(5,I j)]∧H=hp66 x v (g.map (rplG a b)))
 |0,k,hk=>by
  have:k=g.length:=by omega
  subst this
  rw[zb,zkK]
  simp[zjT,zpk, -List.map_map]
 |m+1,k,hk=>by
  have hlt:k<g.length:=by omega
  have hlt':(k:Int)<g.length:=by omega
  have hw:=zg (k:=k) (by omega)
  have hg:((mixG a b k g).map I)[k]?=some (I g[k]):=by rw[gEm,zg3 hlt];rfl
  have ih:=zkN x v a b g hn j m (k+1) (by omega)
  simp only[iNa,iCo]at ih
  rw[zb]
  by_cases h:g[k]=b
  .have hse:=zfe (l:=mixG a b k g) (k:=k) (by rw[zg2];exact hlt) a
   have hnext:(mixG a b k g).set k a=mixG a b (k+1) g:=by rw[zfy hlt];simp[rplG,h]
   rw[hnext]at hse
   simp[zjT,zpk,hlt,hlt',hg,h,hse,hw,gEz,List.getElem?_cons_succ, -getElem?_pos, -List.getElem?_map, -List.map_map]
   simpa using ih
  .rw[zif hlt h]at ih
   simp[zjT,zpk,hlt,hlt',hg,h,hw,gEz,List.getElem?_cons_succ, -getElem?_pos, -List.getElem?_map, -List.map_map]
   simpa using ih
theorem zqw (x:Pl) (v:Nat) (hx:x.pipes.l.length≤1000) (n:Nat) (hn:n≤1000) (hr:InR n x.pipes.l):∀(rest:List Pi) (j:Nat) (g:List Int),x.pipes.l.drop j=rest→j≤x.pipes.l.length→g.length=n→
  okC (W.loop [1,3,5] zuv [(1,.optr 0 0 0 0),(3,.osl 1 v 0 n),(5,I j)] (hp66 x v g)) (fun q F H'=>if (zct rest g).isNone=true then q= .ret∧F.get 2= .bool true else q= .exit 2):=by
 intro rest
 induction rest with
 |nil=>
  intro j g h1 h2 hg
  have hk:=zf h1 h2
  rw[zb]
  simp[zjS,zpj,hk,zct]
 |cons y rest ih=>
  intro j g h1 h2 hg
  obtain⟨hlt,hy,hrr⟩:=zn h1
  have hlt':(j:Int)<x.pipes.l.length:=by omega
  have hw:=zg (k:=j) (by omega)
  obtain⟨r1,r2,r3,r4⟩:=hr y (lMg hy)
  have hs:(g.map I)[y.src.toNat]?=some (I (g.getD y.src.toNat 0)):=by
   have:y.src.toNat<g.length:=by omega
   simp[gEd,this]
  have hd:(g.map I)[y.dst.toNat]?=some (I (g.getD y.dst.toNat 0)):=by
   have:y.dst.toNat<g.length:=by omega
   simp[gEd,this]
  rw[zb]
  unfold zct
  by_cases hab:g.getD y.src.toNat 0=g.getD y.dst.toNat 0
  .rw[zgq hab]
   rw[hab]at hs
   simp[zjS,zpj,hlt,hlt',hy,r1,r2,r3,r4,hs,hd,gEz,List.getElem?_cons_succ, -getElem?_pos, -List.getElem?_map, -List.getD_eq_getElem?_getD]
  .rw[zgp hab]
   generalize g.getD y.src.toNat 0=a at *
   generalize g.getD y.dst.toNat 0=b at *
   obtain⟨q,F,H',d1,rfl,d2,rfl⟩:=zc.1 (zkN x v a b g (by omega) j g.length 0 (by omega))
   have ih:=ih (j+1) (g.map (rplG a b)) hrr (by omega) (by rw[List.length_map];exact hg)
   simp only[iNa,iCo]at ih
   rw[hg,zie]at d1
   simp only[hp66]at d1 ih
   simp[-List.map_map]at d1 d2
   simp[zjS,zpj,hlt,hlt',hy,r1,r2,r3,r4,hs,hd,hab,d1,d2,hw,hg,gEz,List.getElem?_cons_succ, -getElem?_pos, -List.getElem?_map, -List.map_map]
   simpa[-List.map_map]using ih
theorem zkM (x:Pl) (hn:x.stages.l.length≤1000):∀(m k:Nat),k+m=x.stages.l.length→okC (W.loop [1,3,4] zuu [(1,.optr 0 0 0 0),(3,.osl 1 k 0 k),(4,I k)] (hp66 x k (idsG k)))
  (fun q F H=>q= .exit 0∧F.keep [1,3]=[(1,.optr 0 0 0 0),(3,.osl 1 x.stages.l.length 0 x.stages.l.length)]∧H=hp66 x x.stages.l.length (idsG x.stages.l.length))
 |0,k,hk=>by
  have hk':¬k<x.stages.l.length:=by omega
  have e:x.stages.l.length=k:=by omega
  rw[zb,e]
  simp[zoQ,zsg,hk',e]
 |m+1,k,hk=>by
  have hlt:k<x.stages.l.length:=by omega
  have hlt':(k:Int)<x.stages.l.length:=by omega
  have hw:=zg (k:=k) (by omega)
  have ha:=zE (H:=hp66 x k (idsG k)) (id:=1) (ver:=k) (l:=idsG k) rfl (by rw[zcO];omega) (k:Int)
  rw[zcO]at ha
  have hi:idsG k++[(k:Int)]=idsG (k+1):=by simp[idsG,List.range_succ]
  rw[hi]at ha
  have ih:=zkM x hn m (k+1) (by omega)
  simp only[iNa,iCo]at ih
  simp only[hp66,List.set_cons_succ,List.set_cons_zero]at ha ih
  rw[zb]
  simp[zoQ,zsg,hlt,hlt',ha,hw]
  simpa using ih
theorem e66 (x:Pl) (hx:PlN x) (hr:InR x.stages.l.length x.pipes.l):W.pure 66 [x.av]=some (.bool (cyc x)):=by
 obtain⟨q,F,H,d1,rfl,d2,rfl⟩:=zc.1 (zkM x hx.st x.stages.l.length 0 (by omega))
 obtain⟨q2,F2,H2,f1,f2⟩:=zc.1 (zqw x x.stages.l.length hx.pi x.stages.l.length hx.st hr x.pipes.l 0 (idsG x.stages.l.length) rfl (by omega) (zcO _))
 have h0:(idsG 0).map I=[]:=rfl
 simp only[hp66,h0]at d1 f1
 rw[zd Φ66 (by simp)]
 simp at d1 d2
 unfold cyc
 cases hc:(zct x.pipes.l (idsG x.stages.l.length)).isNone with
 |true=>
  rw[hc]at f2
  simp only[if_true]at f2
  obtain⟨rfl,f3⟩:=f2
  simp at f1
  simp[fi66,c66,d1,d2,f1,f3]
 |false=>
  rw[hc]at f2
  simp only[bFt,if_false]at f2
  subst f2
  simp at f1
  simp[fi66,c66,d1,d2,f1]
theorem ztY {x:Pl} {k:Nat} {y:Pi} (h:piI x k y=0):0≤y.src∧y.src<x.stages.l.length∧0≤y.dst∧y.dst<x.stages.l.length:=by
 unfold piI at h
 split at h
 .cases h
 .omega
theorem ztn {x:Pl} (h:pisI x x.pipes.l 0=0):InR x.stages.l.length x.pipes.l:=by
 intro y hy
 obtain⟨k,hk⟩:=List.getElem?_of_mem hy
 have:=zfq.1 h k y hk
 exact ztY this
theorem zto (x:Sg):inN x≤2:=by unfold inN;split;omega;exact znY _
theorem zqD (x:Pl) (hx:PlN x):∀(rest:List Sg) (k:Nat) (acc:Nat) (H:Heap),x.stages.l.drop k=rest→k≤x.stages.l.length→acc≤4* k→H[0]?=some (.arr 0 2 false [x.av])→
  okC (W.loop [1,3,15,16,17] zuJ [(1,.optr 0 0 0 0),(3,I acc),(15,Sl.av Sg.av 8 x.stages),(16,I x.stages.l.length),(17,I k)] H)
   (fun q F H'=>if za9 sgI rest≠0 then q= .ret∧F.get 2=I (za9 sgI rest) else q= .exit 0∧F.keep [1,3]=[(1,.optr 0 0 0 0),(3,I (acc+ends rest:Nat))]∧H'[0]?=some (.arr 0 2 false [x.av])):=by
 have hst:=hx.st
 intro rest
 induction rest with
 |nil=>
  intro k acc H h1 h2 ha hH
  have hk:=zf h1 h2
  rw[zb]
  simp[zj1,zps,hk,za9,ends,hH, -getElem?_pos]
 |cons s rest ih=>
  intro k acc H h1 h2 ha hH
  obtain⟨hlt,hs,hr⟩:=zn h1
  have hlt':(k:Int)<x.stages.l.length:=by omega
  have hw:=zg (k:=k) (by omega)
  have hit:=hx.it s (lMg hs)
  have c1:=e72 s hit
  have c2:=e68 s hit
  have c3:=e73 s hit
  have g2:∀B,(H++[B])[H.length]?=some B:=fun B=>zL H B
  have g1:∀B,(H++[B])[0]?=some (.arr 0 2 false [x.av]):=fun B=>zaf hH B
  have l1:=zto s
  have l2:=zgX s
  rw[zb]
  unfold za9
  by_cases h:sgI s=0
  .rw[h]at c1
   rw[if_neg (show ¬sgI s≠0 by simp[h])]
   have ih:=ih (k+1) (acc+(inN s+outN s)) (H++[.arr 0 8 false [s.av]]) hr (by omega) (by omega) (g1 _)
   have he:acc+(inN s+outN s)+ends rest=acc+ends (s::rest):=by simp[ends];omega
   rw[he]at ih
   have w1:IntKind.wrap .i64 ((inN s:Int)+outN s)=(inN s:Int)+outN s:=zr (by omega) (by omega)
   have w2:IntKind.wrap .i64 ((acc:Int)+((inN s:Int)+outN s))=(acc:Int)+((inN s:Int)+outN s):=zr (by omega) (by omega)
   simp only[iNa,iCo]at ih
   simp[zj1,zps,hlt,hlt',hs,c1,c2,c3,w1,w2,hw,g2,gEz, -getElem?_pos]
   simpa using ih
  .rw[if_pos h]
   simp[zj1,zps,hlt,hlt',hs,c1,h,g2,gEz, -getElem?_pos]
theorem zqE (x:Pl) (hx:PlN x) (acc:Int):∀(rest:List Pi) (k:Nat) (H:Heap),x.pipes.l.drop k=rest→k≤x.pipes.l.length→H[0]?=some (.arr 0 2 false [x.av])→
  okC (W.loop [1,3,40,41] zuK [(1,.optr 0 0 0 0),(3,I acc),(40,I x.pipes.l.length),(41,I k)] H)
   (fun q F H'=>if pisI x rest k≠0 then q= .ret∧F.get 2=I (pisI x rest k) else q= .exit 2∧F.keep [1,3]=[(1,.optr 0 0 0 0),(3,I acc)]∧H'=H):=by
 have hpi:=hx.pi
 intro rest
 induction rest with
 |nil=>
  intro k H h1 h2 hH
  have hk:=zf h1 h2
  rw[zb]
  simp[zj2,zpt,hk,pisI]
 |cons y rest ih=>
  intro k H h1 h2 hH
  obtain⟨hlt,hy,hr⟩:=zn h1
  have hlt':(k:Int)<x.pipes.l.length:=by omega
  have hw:=zg (k:=k) (by omega)
  have c1:=e74 x hx k y hy
  rw[zb]
  unfold pisI
  by_cases h:piI x k y=0
  .rw[h]at c1
   rw[if_neg (show ¬piI x k y≠0 by simp[h])]
   have ih:=ih (k+1) H hr (by omega) hH
   simp only[iNa,iCo]at ih
   simp[zj2,zpt,hlt,hlt',hH,c1,hw,gEz, -getElem?_pos]
   simpa using ih
  .rw[if_pos h]
   simp[zj2,zpt,hlt,hlt',hH,c1,h,gEz, -getElem?_pos]
theorem e24 (x:Pl) (hx:PlN x):W.pure 24 [x.av]=some (I (plI x)):=by
 have hst:=hx.st;have hpi:=hx.pi
 have run:∀(A:Option AV),((zam W fi24 [x.av] []).bind fun p=>frz p.2 8 p.1)=A→W.pure 24 [x.av]=A:=fun A h=>by rw[zd Φ24 (by simp)];exact h
 refine run _ ?_
 unfold plI
 by_cases h0:x.stages.l.length=0∨16<x.stages.l.length
 .rw[if_pos h0]
  have c1:=e39f (a:=(x.stages.l.length:Int)) (l:=1) (h:=16) (by omega)
  simp[fi24,c24,c1]
 rw[if_neg h0]
 have c1:=e39t (a:=(x.stages.l.length:Int)) (l:=1) (h:=16) (by omega) (by omega)
 obtain⟨q,F,H,d1,d2⟩:=zc.1 (zqD x hx x.stages.l 0 0 [.arr 0 2 false [x.av]] rfl (by omega) (by omega) rfl)
 simp at d1
 by_cases h1:za9 sgI x.stages.l=0
 rotate_left
 .rw[if_pos h1]at d2⊢
  obtain⟨rfl,d3⟩:=d2
  simp[fi24,c24,c1,d1,d3]
 rw[if_neg (show ¬za9 sgI x.stages.l≠0 by simp[h1])]at d2⊢
 obtain⟨rfl,d3,d4⟩:=d2
 simp at d3
 by_cases h2:32<x.pipes.l.length
 .have h2':(32:Int)<x.pipes.l.length:=by omega
  rw[if_pos h2]
  simp[fi24,c24,c1,d1,d3,d4,h2,h2',gEz, -getElem?_pos]
 have h2':¬(32:Int)<x.pipes.l.length:=by omega
 rw[if_neg h2]
 obtain⟨q,F2,H2,f1,f2⟩:=zc.1 (zqE x hx (ends x.stages.l) x.pipes.l 0 H rfl (by omega) d4)
 simp at f1
 by_cases h3:pisI x x.pipes.l 0=0
 rotate_left
 .rw[if_pos h3]at f2⊢
  obtain⟨rfl,f3⟩:=f2
  simp[fi24,c24,c1,d1,d3,d4,h2,h2',f1,f3,gEz, -getElem?_pos]
 rw[if_neg (show ¬pisI x x.pipes.l 0≠0 by simp[h3])]at f2⊢
 obtain⟨rfl,f3,rfl⟩:=f2
 simp at f3
 have w:IntKind.wrap .i64 (2* (x.pipes.l.length:Int))=2* (x.pipes.l.length:Int):=zr (by omega) (by omega)
 by_cases h4:ends x.stages.l=2* x.pipes.l.length
 rotate_left
 .have h4':¬(ends x.stages.l:Int)=2* x.pipes.l.length:=by omega
  rw[if_pos h4]
  simp[fi24,c24,c1,d1,d3,d4,h2,h2',f1,f3,w,h4,h4',gEz, -getElem?_pos]
 have h4':((ends x.stages.l:Int)=2* x.pipes.l.length)=True:=eq_true (by omega)
 rw[if_neg (show ¬ends x.stages.l≠2* x.pipes.l.length by simp[h4])]
 have c2:=e75 x hx (ztn h3)
 cases hc:cyc x with
 |true=>rw[hc]at c2;simp[fi24,c24,c1,d1,d3,d4,h2,h2',f1,f3,w,h4',c2,gEz, -getElem?_pos]
 |false=>rw[hc]at c2;simp[fi24,c24,c1,d1,d3,d4,h2,h2',f1,f3,w,h4',c2,gEz, -getElem?_pos]
theorem zqG (x:Pl) (hx:PlN x):∀(rest:List Sg) (k:Nat),x.stages.l.drop k=rest→k≤x.stages.l.length→
  okC (W.loop [1,3] zuL [(1,.optr 0 0 0 0),(3,I k)] [.arr 0 2 false [x.av]])
   (fun q F H=>if za9 sgI rest≠0 then q= .ret∧F.get 2=I (za9 sgI rest) else q= .exit 0∧F.keep [1]=[(1,.optr 0 0 0 0)]∧H=[.arr 0 2 false [x.av]]):=by
 have hst:=hx.st
 intro rest
 induction rest with
 |nil=>
  intro k h1 h2
  have hk:=zf h1 h2
  rw[zb]
  simp[zj3,zpu,hk,za9]
 |cons s rest ih=>
  intro k h1 h2
  obtain⟨hlt,hs,hr⟩:=zn h1
  have hlt':(k:Int)<x.stages.l.length:=by omega
  have hsk:x.stages.l[k]=s:=(gEs.1 hs).2
  have hw:=zg (k:=k) (by omega)
  have c1:=e61 s (hx.it s (lMg hs))
  rw[zb]
  unfold za9
  by_cases h:sgI s=0
  .rw[h]at c1
   rw[if_neg (show ¬sgI s≠0 by simp[h])]
   have ih:=ih (k+1) hr (by omega)
   simp only[iNa,iCo]at ih
   simp[zj3,zpu,hlt,hlt',hsk,c1,hw]
   simpa using ih
  .rw[if_pos h]
   simp[zj3,zpu,hlt,hlt',hsk,c1,h]
theorem zqH (x:Pl) (hx:PlN x):∀(rest:List Pi) (k:Nat),x.pipes.l.drop k=rest→k≤x.pipes.l.length→
  okC (W.loop [1,5] zuM [(1,.optr 0 0 0 0),(5,I k)] [.arr 0 2 false [x.av]])
   (fun q F H=>if pisI x rest k≠0 then q= .ret∧F.get 2=I (pisI x rest k) else q= .exit 2∧F.keep [1]=[(1,.optr 0 0 0 0)]∧H=[.arr 0 2 false [x.av]]):=by
 have hpi:=hx.pi
 intro rest
 induction rest with
 |nil=>
  intro k h1 h2
  have hk:=zf h1 h2
  rw[zb]
  simp[zj4,zpv,hk,pisI]
 |cons y rest ih=>
  intro k h1 h2
  obtain⟨hlt,hy,hr⟩:=zn h1
  have hlt':(k:Int)<x.pipes.l.length:=by omega
  have hw:=zg (k:=k) (by omega)
  have c1:=e62 x hx k y hy
  rw[zb]
  unfold pisI
  by_cases h:piI x k y=0
  .rw[h]at c1
   rw[if_neg (show ¬piI x k y≠0 by simp[h])]
   have ih:=ih (k+1) hr (by omega)
   simp only[iNa,iCo]at ih
   simp[zj4,zpv,hlt,hlt',c1,hw]
   simpa using ih
  .rw[if_pos h]
   simp[zj4,zpv,hlt,hlt',c1,h]
def AllP (f:Nat→Int) (k N e:Nat) (fr:List Nat) (F0:Fr) (H0:Heap) (q:LX) (F:Fr) (H:Heap):Prop:=
 ((∀j:Nat,k≤j→j<N→0≤f j)∧q= .exit e∧F.keep fr=F0∧H=H0)∨((∃j:Nat,k≤j∧j<N∧f j<0)∧q= .ret∧F.get 2=I 10)
theorem zkO (x:Pl) (hx:PlN x) (i:Nat) (hi:i<x.stages.l.length):∀(m k:Nat),k+m=outN x.stages.l[i]→
  okC (W.loop [1,7,8] zuO [(1,.optr 0 0 0 0),(7,I i),(8,I k)] [.arr 0 2 false [x.av]])
   (fun q F H=>AllP (fun j=>pOut x i j) k (outN x.stages.l[i]) 6 [1,7] [(1,.optr 0 0 0 0),(7,I i)] [.arr 0 2 false [x.av]] q F H)
 |0,k,hk=>by
  have c1:=e63 x.stages.l[i] (hx.it _ (List.getElem_mem hi))
  have hi':(i:Int)<x.stages.l.length:=by omega
  have hn:¬k<outN x.stages.l[i]:=by omega
  rw[zb]
  simp[zj5,zpw,hi,hi',c1,hn]
  exact Or.inl ⟨fun j h1 h2=>by omega,rfl,rfl,rfl⟩
 |m+1,k,hk=>by
  have c1:=e63 x.stages.l[i] (hx.it _ (List.getElem_mem hi))
  have hi':(i:Int)<x.stages.l.length:=by omega
  have hn:k<outN x.stages.l[i]:=by omega
  have hw:=zg (k:=k) (by have:=zgX x.stages.l[i];omega)
  have c2:=e50 x hx.pi i k
  rw[zb]
  by_cases h:pOut x i k<0
  .simp[zj5,zpw,hi,hi',c1,hn,c2,h]
   exact Or.inr ⟨⟨k,by omega,hn,h⟩,rfl,rfl⟩
  .obtain⟨q,F,H,d1,d2⟩:=zc.1 (zkO x hx i hi m (k+1) (by omega))
   simp only[iNa,iCo]at d1
   simp[zj5,zpw,hi,hi',c1,hn,c2,h,hw,d1]
   rcases d2 with⟨d3,rfl,d4,rfl⟩|⟨⟨j,d3,d5,d6⟩,rfl,d4⟩
   .refine Or.inl ⟨fun j h1 h2=>?_,rfl,d4,rfl⟩
    by_cases hj:j=k
    .subst hj;show 0≤pOut x i _;omega
    .exact d3 j (by omega) h2
   .exact Or.inr ⟨⟨j,by omega,d5,d6⟩,rfl,d4⟩
theorem zkP (x:Pl) (hx:PlN x) (i:Nat) (hi:i<x.stages.l.length):∀(m k:Nat),k+m=inN x.stages.l[i]→
  okC (W.loop [1,7,9] zuP [(1,.optr 0 0 0 0),(7,I i),(9,I k)] [.arr 0 2 false [x.av]])
   (fun q F H=>AllP (fun j=>pIn x i j) k (inN x.stages.l[i]) 8 [1,7] [(1,.optr 0 0 0 0),(7,I i)] [.arr 0 2 false [x.av]] q F H)
 |0,k,hk=>by
  have c1:=e64 x.stages.l[i] (hx.it _ (List.getElem_mem hi))
  have hi':(i:Int)<x.stages.l.length:=by omega
  have hn:¬k<inN x.stages.l[i]:=by omega
  rw[zb]
  simp[zj6,zpx,hi,hi',c1,hn]
  exact Or.inl ⟨fun j h1 h2=>by omega,rfl,rfl,rfl⟩
 |m+1,k,hk=>by
  have c1:=e64 x.stages.l[i] (hx.it _ (List.getElem_mem hi))
  have hi':(i:Int)<x.stages.l.length:=by omega
  have hn:k<inN x.stages.l[i]:=by omega
  have hw:=zg (k:=k) (by have:=zto x.stages.l[i];omega)
  have c2:=e65 x hx.pi i k
  rw[zb]
  by_cases h:pIn x i k<0
  .simp[zj6,zpx,hi,hi',c1,hn,c2,h]
   exact Or.inr ⟨⟨k,by omega,hn,h⟩,rfl,rfl⟩
  .obtain⟨q,F,H,d1,d2⟩:=zc.1 (zkP x hx i hi m (k+1) (by omega))
   simp only[iNa,iCo]at d1
   simp[zj6,zpx,hi,hi',c1,hn,c2,h,hw,d1]
   rcases d2 with⟨d3,rfl,d4,rfl⟩|⟨⟨j,d3,d5,d6⟩,rfl,d4⟩
   .refine Or.inl ⟨fun j h1 h2=>?_,rfl,d4,rfl⟩
    by_cases hj:j=k
    .subst hj;show 0≤pIn x i _;omega
    .exact d3 j (by omega) h2
   .exact Or.inr ⟨⟨j,by omega,d5,d6⟩,rfl,d4⟩
def Full (x:Pl) (i:Nat) (s:Sg):Prop:=(∀j:Nat,j<outN s→0≤pOut x i j)∧(∀j:Nat,j<inN s→0≤pIn x i j)
def zBn (x:Pl) (k:Nat) (q:LX) (F:Fr) (H:Heap):Prop:=
 ((∀(j:Nat) (s:Sg),k≤j→x.stages.l[j]?=some s→Full x j s)∧q= .exit 4∧F.keep [1]=[(1,.optr 0 0 0 0)]∧H=[.arr 0 2 false [x.av]])∨((∃(j:Nat) (s:Sg),x.stages.l[j]?=some s∧¬Full x j s)∧q= .ret∧F.get 2=I 10)
theorem zqI (x:Pl) (hx:PlN x):∀(rest:List Sg) (k:Nat),x.stages.l.drop k=rest→k≤x.stages.l.length→
  okC (W.loop [1,7] zuN [(1,.optr 0 0 0 0),(7,I k)] [.arr 0 2 false [x.av]])
   (fun q F H=>zBn x k q F H):=by
 have hst:=hx.st
 intro rest
 induction rest with
 |nil=>
  intro k h1 h2
  have hk:=zf h1 h2
  rw[zb]
  simp[zhm,zmo,hk]
  exact Or.inl ⟨fun j s h3 h4=>by have:=(gEs.1 h4).1;omega,rfl,rfl,rfl⟩
 |cons s rest ih=>
  intro k h1 h2
  obtain⟨hlt,hs,hr⟩:=zn h1
  have hlt':(k:Int)<x.stages.l.length:=by omega
  have hsk:x.stages.l[k]=s:=(gEs.1 hs).2
  have hw:=zg (k:=k) (by omega)
  obtain⟨q1,F1,H1,a1,a2⟩:=zc.1 (zkO x hx k hlt (outN x.stages.l[k]) 0 (by omega))
  obtain⟨q2,F2,H2,b1,b2⟩:=zc.1 (zkP x hx k hlt (inN x.stages.l[k]) 0 (by omega))
  rw[hsk]at a2 b2
  simp at a1 b1
  rw[zb]
  rcases a2 with⟨a3,rfl,a4,rfl⟩|⟨⟨j,a3,a5,a6⟩,rfl,a4⟩
  .simp at a4
   rcases b2 with⟨b3,rfl,b4,rfl⟩|⟨⟨j,b3,b5,b6⟩,rfl,b4⟩
   .simp at b4
    obtain⟨q,F,H,d1,d2⟩:=zc.1 (ih (k+1) hr (by omega))
    simp only[iNa,iCo]at d1
    simp[zhm,zmo,hlt,hlt',a1,a4,b1,b4,hw,d1]
    rcases d2 with⟨d3,rfl,d4,rfl⟩|⟨d3,rfl,d4⟩
    .refine Or.inl ⟨fun j s' h3 h4=>?_,rfl,d4,rfl⟩
     by_cases hj:j=k
     .subst hj
      rw[hs]at h4;cases h4
      exact⟨fun j h=>a3 j (by omega) h,fun j h=>b3 j (by omega) h⟩
     .exact d3 j s' (by omega) h4
    .exact Or.inr ⟨d3,rfl,d4⟩
   .simp[zhm,zmo,hlt,hlt',a1,a4,b1,b4]
    refine Or.inr ⟨⟨k,s,hs,fun hf=>?_⟩,rfl,b4⟩
    have h1:=hf.2 j b5
    have h2:pIn x k j<0:=b6
    omega
  .simp[zhm,zmo,hlt,hlt',a1,a4]
   refine Or.inr ⟨⟨k,s,hs,fun hf=>?_⟩,rfl,a4⟩
   have h1:=hf.1 j a5
   have h2:pOut x k j<0:=a6
   omega
theorem znm {x:Pl} {i n:Int}:0≤pOut x i n↔∃(k:Nat) (y:Pi),x.pipes.l[k]?=some y∧y.src=i∧y.output=n:=by
 unfold pOut
 rcases zb6 (fun y=>decide (y.src=i)&&decide (y.output=n)) x.pipes.l 0 with⟨h1,h2⟩|⟨j,y,h1,h2,h3,_⟩
 .rw[h1]
  constructor
  .intro h;omega
  .rintro⟨k,y,hk,e1,e2⟩
   have:=h2 y (lMg hk)
   simp[e1,e2]at this
 .rw[h1]
  simp at h3
  exact⟨fun _=>⟨j,y,h2,h3.1,h3.2⟩,fun _=>by omega⟩
theorem ztf {x:Pl} {i n:Int}:0≤pIn x i n↔∃(k:Nat) (y:Pi),x.pipes.l[k]?=some y∧y.dst=i∧y.input=n:=by
 unfold pIn
 rcases zb6 (fun y=>decide (y.dst=i)&&decide (y.input=n)) x.pipes.l 0 with⟨h1,h2⟩|⟨j,y,h1,h2,h3,_⟩
 .rw[h1]
  constructor
  .intro h;omega
  .rintro⟨k,y,hk,e1,e2⟩
   have:=h2 y (lMg hk)
   simp[e1,e2]at this
 .rw[h1]
  simp at h3
  exact⟨fun _=>⟨j,y,h2,h3.1,h3.2⟩,fun _=>by omega⟩
theorem zk7 {x:Pl} (h:PiV x):(∀(j:Nat) (s:Sg),x.stages.l[j]?=some s→Full x j s)↔ends x.stages.l=2* x.pipes.l.length:=by
 rw[zlg h]
 have hN:∀(i:Nat) (hi:i<x.stages.l.length),x.stages.l[i]?=some (sgAt x i)∧outN (sgAt x i)=outK (sgAt x i).kind∧inN (sgAt x i)=inK (sgAt x i).kind:=by
  intro i hi
  have h1:=zaV hi
  have h2:=h.sg _ (lMg h1)
  exact⟨h1,by simp[outN,h2],by simp[inN,h2]⟩
 constructor
 .intro hf
  refine⟨fun i n hi hn=>?_,fun i n hi hn=>?_⟩
  .obtain⟨e1,e2,e3⟩:=hN i hi
   exact znm.1 ((hf i _ e1).1 n (by rw[e2];exact hn))
  .obtain⟨e1,e2,e3⟩:=hN i hi
   exact ztf.1 ((hf i _ e1).2 n (by rw[e3];exact hn))
 .rintro⟨h1,h2⟩ j s hs
  have hj:=(gEs.1 hs).1
  obtain⟨e1,e2,e3⟩:=hN j hj
  rw[hs]at e1;cases e1
  exact⟨fun n hn=>znm.2 (h1 j n hj (by rw[←e2];exact hn)),fun n hn=>ztf.2 (h2 j n hj (by rw[←e3];exact hn))⟩
theorem e20 (x:Pl) (hx:PlN x):W.pure 20 [x.av]=some (I (plI x)):=by
 have hst:=hx.st;have hpi:=hx.pi
 have run:∀(A:Option AV),((zam W fi20 [x.av] []).bind fun p=>frz p.2 8 p.1)=A→W.pure 20 [x.av]=A:=fun A h=>by rw[zd Φ20 (by simp)];exact h
 refine run _ ?_
 unfold plI
 by_cases h0:x.stages.l.length=0
 .rw[if_pos (.inl h0)]
  have hnil:x.stages.l=[]:=List.length_eq_zero_iff.1 h0
  simp[fi20,c20,hnil]
 have h0':¬((x.stages.l.length:Int)=0):=by omega
 have hne:¬x.stages.l=[]:=fun e=>h0 (by rw[e];rfl)
 by_cases h16:16<x.stages.l.length
 .have h16':(16:Int)<x.stages.l.length:=by omega
  rw[if_pos (.inr h16)]
  simp[fi20,c20,h0',hne,h16']
 have h16':¬(16:Int)<x.stages.l.length:=by omega
 rw[if_neg (by omega)]
 obtain⟨q,F,H,d1,d2⟩:=zc.1 (zqG x hx x.stages.l 0 rfl (by omega))
 simp at d1
 by_cases h1:za9 sgI x.stages.l=0
 rotate_left
 .rw[if_pos h1]at d2⊢
  obtain⟨rfl,d3⟩:=d2
  simp[fi20,c20,h0',hne,h16',d1,d3]
 rw[if_neg (show ¬za9 sgI x.stages.l≠0 by simp[h1])]at d2⊢
 obtain⟨rfl,d3,rfl⟩:=d2
 simp at d3
 by_cases h2:32<x.pipes.l.length
 .have h2':(32:Int)<x.pipes.l.length:=by omega
  rw[if_pos h2]
  simp[fi20,c20,h0',hne,h16',d1,d3,h2,h2']
 have h2':¬(32:Int)<x.pipes.l.length:=by omega
 rw[if_neg h2]
 obtain⟨q,F2,H2,f1,f2⟩:=zc.1 (zqH x hx x.pipes.l 0 rfl (by omega))
 simp at f1
 by_cases h3:pisI x x.pipes.l 0=0
 rotate_left
 .rw[if_pos h3]at f2⊢
  obtain⟨rfl,f3⟩:=f2
  simp[fi20,c20,h0',hne,h16',d1,d3,h2,h2',f1,f3]
 rw[if_neg (show ¬pisI x x.pipes.l 0≠0 by simp[h3])]at f2⊢
 obtain⟨rfl,f3,rfl⟩:=f2
 simp at f3
 have hpv:=zte h1 h3
 obtain⟨q,F3,H3,g1,g2⟩:=zc.1 (zqI x hx x.stages.l 0 rfl (by omega))
 simp at g1
 rcases g2 with⟨g3,rfl,g4,rfl⟩|⟨⟨j,s,g3,g5⟩,rfl,g4⟩
 .have he:=(zk7 hpv).1 (fun j s hs=>g3 j s (by omega) hs)
  simp at g4
  rw[if_neg (show ¬ends x.stages.l≠2* x.pipes.l.length by simp[he])]
  have c2:=e66 x hx (ztn h3)
  cases hc:cyc x with
  |true=>rw[hc]at c2;simp[fi20,c20,h0',hne,h16',d1,d3,h2,h2',f1,f3,g1,g4,c2]
  |false=>rw[hc]at c2;simp[fi20,c20,h0',hne,h16',d1,d3,h2,h2',f1,f3,g1,g4,c2]
 .have he:ends x.stages.l≠2* x.pipes.l.length:=fun e=>g5 ((zk7 hpv).2 e j s g3)
  rw[if_pos he]
  simp[fi20,c20,h0',hne,h16',d1,d3,h2,h2',f1,f3,g1,g4]
theorem zge (s:Sg) (r:List Sg):zV (s::r)=(if s.kind=10 then 1 else 0)+zV r:=by
 unfold zV
 by_cases h:s.kind=10<;>simp[h];omega
theorem zm7 (l:List Sg):zV l≤l.length:=by unfold zV;exact List.length_filter_le _ _
theorem zw6 (x:Sl Sg) (hx:x.l.length≤1000):∀(rest:List Sg) (k acc:Nat) (H:Heap),x.l.drop k=rest→k≤x.l.length→acc≤k→
  okC (W.loop [3,6,7,8] zuG [(3,I acc),(6,Sl.av Sg.av 8 x),(7,I x.l.length),(8,I k)] H) (fun q F H'=>q= .exit 0∧F.keep [3]=[(3,I (acc+zV rest:Nat))]):=by
 intro rest
 induction rest with
 |nil=>
  intro k acc H h1 h2 ha
  have hk:=zf h1 h2
  rw[zb]
  simp[zjZ,zpq,hk,zV]
 |cons s rest ih=>
  intro k acc H h1 h2 ha
  obtain⟨hlt,hs,hr⟩:=zn h1
  have hlt':(k:Int)<x.l.length:=by omega
  have hw:=zg (k:=k) (by omega)
  have hw2:=zg (k:=acc) (by omega)
  have g2:∀B,(H++[B])[H.length]?=some B:=fun B=>zL H B
  rw[zb]
  by_cases h:s.kind=10
  .have ih:=ih (k+1) (acc+1) (H++[.arr 0 8 false [s.av]]) hr (by omega) (by omega)
   have he:acc+1+zV rest=acc+zV (s::rest):=by rw[zge,if_pos h];omega
   rw[he]at ih
   simp only[iNa,iCo]at ih
   simp[zjZ,zpq,hlt,hlt',hs,eq_true h,hw,hw2,g2,gEz, -getElem?_pos]
   simpa using ih
  .have ih:=ih (k+1) acc (H++[.arr 0 8 false [s.av]]) hr (by omega) (by omega)
   have he:acc+zV rest=acc+zV (s::rest):=by rw[zge,if_neg h];omega
   rw[he]at ih
   simp only[iNa,iCo]at ih
   simp[zjZ,zpq,hlt,hlt',hs,h,hw,hw2,g2,gEz, -getElem?_pos]
   simpa using ih
theorem e43 (x:Sl Sg) (hx:x.l.length≤1000):W.pure 43 [Sl.av Sg.av 8 x]=some (I (zV x.l)):=by
 obtain⟨q,F,H,d1,rfl,d2⟩:=zc.1 (zw6 x hx x.l 0 0 [] rfl (by omega) (by omega))
 rw[zd Φ43 (by simp)]
 simp at d1 d2
 simp[fi43,c43,d1,d2]
theorem zfd {l:List Sg} {k:Nat} (h:k<l.length):zV (l.take (k+1))=zV (l.take k)+if l[k].kind=10 then 1 else 0:=by
 rw[List.take_succ_eq_append_getElem h]
 unfold zV
 rw[List.filter_append,List.length_append]
 by_cases h2:l[k].kind=10<;>simp[h2]
theorem ztl (x:Pl) (hx:PlN x) (n:Nat) (hn:n≤x.stages.l.length):∀(m k:Nat),k+m=n→
  okC (W.loop [1,2,5,6] zuD [(1,I n),(2,.optr 0 0 0 0),(5,I (zV (x.stages.l.take k))),(6,I k)] [.arr 0 2 false [x.av]]) (fun q F H'=>q= .exit 0∧F.keep [5]=[(5,I (zV (x.stages.l.take n)))])
 |0,k,hk=>by
  have:k=n:=by omega
  subst this
  rw[zb]
  simp[zjX,zpo]
 |m+1,k,hk=>by
  have hst:=hx.st
  have hkn:k<n:=by omega
  have hkn':(k:Int)<n:=by omega
  have hlt:k<x.stages.l.length:=by omega
  have hw:=zg (k:=k) (by omega)
  have hle:=zm7 (x.stages.l.take k)
  have hw2:=zg (k:=zV (x.stages.l.take k)) (by simp at hle;omega)
  have ih:=ztl x hx n hn m (k+1) (by omega)
  rw[zfd hlt]at ih
  rw[zb]
  by_cases h:x.stages.l[k].kind=10
  .rw[if_pos h]at ih
   simp only[iNa,iCo]at ih
   simp[zjX,zpo,hkn,hkn',hlt,eq_true h,hw,hw2]
   simpa using ih
  .rw[if_neg h]at ih
   simp only[Nat.add_zero,iNa,iCo]at ih
   simp[zjX,zpo,hkn,hkn',hlt,h,hw]
   simpa using ih
theorem e48 (x:Pl) (hx:PlN x) (n:Nat) (hn:n≤x.stages.l.length):W.pure 48 [x.av,I n]=some (I (zV (x.stages.l.take n))):=by
 obtain⟨q,F,H,d1,rfl,d2⟩:=zc.1 (ztl x hx n hn n 0 (by omega))
 have h0:zV (x.stages.l.take 0)=0:=rfl
 rw[h0]at d1
 rw[zd Φ48 (by simp)]
 simp at d1 d2
 simp[fi48,c48,d1,d2]
def zjC (x:Sg) (s:SS):List Int:=
 if x.kind=8 then s.held else if x.kind=9 then (if s.count=1 then [0] else if s.count=2 then [1] else if s.count=3 then [0,1] else []) else if x.kind≠1∧s.ended=true then [0] else []
theorem zg0 {x:Sg} {s:SS} (hg:zal x s=0) (j:Int):j∈zjC x s↔0≤j∧j<inK x.kind∧zah x s j=true:=by
 obtain⟨g1,g2⟩:=zw.1 hg
 obtain⟨f1,f2,f3,f4⟩:=zK g2
 unfold zjC zah
 by_cases k8:x.kind=8
 .rw[if_pos k8,if_pos k8]
  have hin:inK x.kind=2:=by simp[inK,k8]
  rw[hin]
  simp only[dTe]
  constructor
  .intro h
   have hm:zap s.held=true:=by
    rw[zd3 ⟨f1,f2,f3⟩ (by simpa using f4),if_neg (by omega),if_pos k8]at g2
    simp only[bAt]at g2
    exact g2.1
   have hj:j=0∨j=1:=by
    match hh:s.held,hm with
    | [],_=>rw[hh]at h;cases h
    | [a],hm=>rw[hh]at h;simp[zap]at hm h;omega
    | [a,b],hm=>rw[hh]at h;simp[zap]at hm h;omega
   exact⟨by omega,by omega,h⟩
  .exact fun h=>h.2.2
 .rw[if_neg k8,if_neg k8]
  by_cases k9:x.kind=9
  .rw[if_pos k9,if_pos k9]
   have hin:inK x.kind=2:=by simp[inK,k9]
   have hC:zI x=3:=by simp[zI,k9]
   rw[hin]
   have hc:s.count=0∨s.count=1∨s.count=2∨s.count=3:=by omega
   rcases hc with hc|hc|hc|hc<;>rw[hc]<;>by_cases hj:j=0<;>simp[hj]<;>omega
  .rw[if_neg k9,if_neg k9]
   by_cases k1:x.kind=1
   .have hin:inK x.kind=0:=by simp[inK,k1]
    rw[if_neg (fun h=>h.1 k1),hin]
    simp;omega
   .have hin:inK x.kind=1:=by simp[inK,k1,k8,k9]
    rw[hin]
    cases he:s.ended with
    |true=>rw[if_pos ⟨k1,rfl⟩];simp;omega
    |false=>rw[if_neg (fun h=>by cases h.2)];simp
theorem e146 (x:Sg) (s:Ss) (hs:SlN s.held) (h9:x.kind=9→0≤s.count∧s.count≤3):∃y:Sl Int,W.pure 146 [x.av,s.av]=some (Sl.av I 1 y)∧y.l=zjC x s.pl∧SlN y:=by
 unfold zjC
 have run:∀(A:Option AV),((zam W zeM [x.av,s.av] []).bind fun p=>frz p.2 8 p.1)=A→W.pure 146 [x.av,s.av]=A:=fun A h=>by rw[zd Φ146 (by simp)];exact h
 by_cases k8:x.kind=8
 .rw[if_pos k8]
  refine⟨s.held,run _ ?_,rfl,hs⟩
  simp[zeM,c146,k8]
 rw[if_neg k8]
 by_cases k9:x.kind=9
 .rw[if_pos k9]
  obtain⟨h1,h2⟩:=h9 k9
  have hp:s.pl.count=s.count:=rfl
  rw[hp]
  have hc:s.count=0∨s.count=1∨s.count=2∨s.count=3:=by omega
  rcases hc with hc|hc|hc|hc
  .refine⟨za5,run _ ?_,by simp[hc],zu⟩
   simp[zeM,c146,k8,eq_true k9,hc]
   rfl
  .refine⟨ofL 1 [0],run _ ?_,by simp[hc,ofL],one1 0⟩
   simp[zeM,c146,k8,eq_true k9,hc]
   rfl
  .refine⟨ofL 1 [1],run _ ?_,by simp[hc,ofL],one1 1⟩
   simp[zeM,c146,k8,eq_true k9,hc]
   rfl
  .refine⟨ofL 1 [0,1],run _ ?_,by simp[hc,ofL],zO (by simp)⟩
   simp[zeM,c146,k8,eq_true k9,hc]
   rfl
 rw[if_neg k9]
 have hp:s.pl.ended=s.ended:=rfl
 rw[hp]
 by_cases k1:x.kind=1
 .rw[if_neg (fun h=>h.1 k1)]
  refine⟨za5,run _ ?_,rfl,zu⟩
  simp[zeM,c146,k8,k9,eq_true k1]
  rfl
 .cases he:s.ended with
  |true=>
   rw[if_pos ⟨k1,rfl⟩]
   refine⟨ofL 1 [0],run _ ?_,rfl,one1 0⟩
   simp[zeM,c146,k8,k9,k1,he]
   rfl
  |false=>
   rw[if_neg (fun h=>by cases h.2)]
   refine⟨za5,run _ ?_,rfl,zu⟩
   simp[zeM,c146,k8,k9,k1,he]
   rfl
theorem zw3 (x:Sg) (s:Ss) (hs:SlN s.held) (i:Int):okC (W.loop [2,4,7] zqX [(2,I i),(4,.optr 1 0 0 0),(7,I 0)] [.arr 0 8 false [x.av],.arr 0 3 false [s.av]])
  (fun q F G=>if decide (i∈s.held.l)=true then q= .ret∧F.get 6= .bool true else q= .exit 1):=by
 have hL:=zce (Φ:=Φ) (live:=[2,4,7]) (L:=zqX) s.held.l (fun _ a (_:Unit)=>if decide (a=i)=true then (.inr ():Unit⊕Unit) else .inl ())
  (fun k _ F G=>F=[(2,I i),(4,.optr 1 0 0 0),(7,I k)]∧G=[.arr 0 8 false [x.av],.arr 0 3 false [s.av]]) (fun _ q F G=>q= .ret∧F.get 6= .bool true) (fun _ q F G=>q= .exit 1) (s:=())
  (F:=[(2,I i),(4,.optr 1 0 0 0),(7,I 0)]) (H:=[.arr 0 8 false [x.av],.arr 0 3 false [s.av]]) ⟨rfl,rfl⟩ ?_ ?_
 .rw[zfD,zgH]at hL
  cases h:decide (i∈s.held.l) with
  |true=>rw[h]at hL;simp only[if_true]at hL⊢;exact hL
  |false=>rw[h]at hL;simp only[bFt,if_false]at hL⊢;exact hL
 .rintro k a ⟨⟩ F G hk ha ⟨rfl,rfl⟩
  have hka:s.held.l[k]=a:=(gEs.1 ha).2
  have hk':(k:Int)<s.held.l.length:=by omega
  have hw:=zg (k:=k) (by have:=hs.2;omega)
  by_cases h:a=i
  .subst h;simp[zjU,zpl,hk,hk',hka]
  .simp[zjU,zpl,hk,hk',hka,h,hw]
 .rintro⟨⟩ F G ⟨rfl,rfl⟩
  simp[zjU,zpl]
theorem e57 (x:Sg) (s:Ss) (hs:SlN s.held) (i:Int):W.pure 57 [x.av,s.av,I i]=some (.bool (zah x s.pl i)):=by
 unfold zah
 have run:∀(A:Option AV),((zam W fi57 [x.av,s.av,I i] []).bind fun p=>frz p.2 8 p.1)=A→W.pure 57 [x.av,s.av,I i]=A:=fun A h=>by rw[zd Φ57 (by simp)];exact h
 refine run _ ?_
 have hp:s.pl.count=s.count:=rfl
 have hp2:s.pl.ended=s.ended:=rfl
 by_cases k8:x.kind=8
 .obtain⟨q,F,G,d1,d2⟩:=zc.1 (zw3 x s hs i)
  rw[if_pos k8]
  have e:decide (i∈s.pl.held)=decide (i∈s.held.l):=decide_eq_decide.2 Iff.rfl
  rw[e]
  cases h:decide (i∈s.held.l) with
  |true=>
   rw[h]at d2
   simp only[if_true]at d2
   obtain⟨rfl,d3⟩:=d2
   simp[fi57,c57,k8,d1,d3]
  |false=>
   rw[h]at d2
   simp only[bFt,if_false]at d2
   subst d2
   simp[fi57,c57,k8,d1]
 rw[if_neg k8]
 by_cases k9:x.kind=9
 .rw[if_pos k9,hp]
  by_cases hi:i=0
  .rw[if_pos hi]
   by_cases h1:s.count=1
   .simp[fi57,c57,k8,eq_true k9,hi,h1]
   .by_cases h3:s.count=3<;>simp[fi57,c57,k8,eq_true k9,hi,h1,h3]
  .rw[if_neg hi]
   by_cases h2:2≤s.count<;>simp[fi57,c57,k8,eq_true k9,hi,h2]
 .rw[if_neg k9,hp2]
  simp[fi57,c57,k8,k9]
structure FsN (s:Fs):Prop where
 st:s.stages.l.length≤1000
 cr:s.credits.l.length≤1000
 ou:s.outputs.l.length≤1000
 ns:SlN s.stages
 nc:SlN s.credits
 no:SlN s.outputs
 hs:∀t∈s.stages.l,SlN t.held
 hc:∀c∈s.credits.l,SlN c.items
 ho:∀o∈s.outputs.l,SlN o
theorem zcC {s:Fs} {i:Nat} {t:Ss} (h:s.stages.l[i]?=some t):stAt s.pl i=t.pl:=by
 unfold stAt Fs.pl
 simp[gEd,h]
theorem zek {s:Fs} {i:Nat} {t:Cr} (h:s.credits.l[i]?=some t):crAt s.pl i=t.pl:=by
 unfold crAt Fs.pl
 simp[gEd,h]
def cr1B (s:FS) (c:CC) (y:Pi):Bool:=decide (crI c=0)&&decide (c.cap=y.capacity)&&(c.closed==(stAt s y.src).ended)&&(c.closed||decide (c.granted=c.taken+c.cap))
def AllB (p:Nat→Prop) (k e:Nat) (fr:List Nat) (F0:Fr) (rv:Nat) (A B:Blk) (q:LX) (F:Fr) (H:Heap):Prop:=
 ((∀j:Nat,k≤j→p j)∧q= .exit e∧F.keep fr=F0∧H[0]?=some A∧H[1]?=some B)∨((∃j:Nat,¬p j)∧q= .ret∧F.get rv= .bool false)
section
variable {x:Pl} {s:Fs}
theorem app0 {H:Heap} {i:Nat} {A:Blk} (h:H[i]?=some A) (K:Heap):(H++K)[i]?=some A:=by
 rw[gEa (gEs.1 h).1];exact h
theorem two0 (H:Heap) (A B:Blk):(H++[A,B])[H.length]?=some A:=by simp
theorem two1 (H:Heap) (A B:Blk):(H++[A,B])[H.length+1]?=some B:=by
 rw[gEr (by omega)];simp
theorem zqs (hx:PlN x) (hs:FsN s) (hr:InR x.stages.l.length x.pipes.l) (hl:s.credits.l.length=x.pipes.l.length) (hl2:s.stages.l.length=x.stages.l.length):∀(rest:List Cr) (k:Nat) (H:Heap),s.credits.l.drop k=rest→k≤s.credits.l.length→H[0]?=some (.arr 0 2 false [x.av])→H[1]?=some (.arr 0 4 false [s.av])→
  okC (W.loop [2,3,13,14,15] zqW [(2,.optr 0 0 0 0),(3,.optr 1 0 0 0),(13,Sl.av Cr.av 6 s.credits),(14,I s.credits.l.length),(15,I k)] H)
   (fun q F H'=>AllB (fun j=>∀c y,s.credits.l[j]?=some c→x.pipes.l[j]?=some y→cr1B s.pl c.pl y=true) k 0 [2,3] [(2,.optr 0 0 0 0),(3,.optr 1 0 0 0)] 4 (.arr 0 2 false [x.av]) (.arr 0 4 false [s.av]) q F H'):=by
 have hcr:=hs.cr
 intro rest
 induction rest with
 |nil=>
  intro k H h1 h2 hA hB
  have hk:=zf h1 h2
  rw[zb]
  simp[zdv,zhE,hk]
  exact Or.inl ⟨fun j hj c y hc _=>by have:=(gEs.1 hc).1;omega,rfl,rfl,hA,hB⟩
 |cons c rest ih=>
  intro k H h1 h2 hA hB
  obtain⟨hlt,hc,hrr⟩:=zn h1
  have hlt':(k:Int)<s.credits.l.length:=by omega
  have hw:=zg (k:=k) (by omega)
  have hlp:k<x.pipes.l.length:=by omega
  obtain⟨y,hy⟩:∃y,x.pipes.l[k]?=some y:=⟨_,gEg hlp⟩
  obtain⟨r1,r2,r3,r4⟩:=hr y (lMg hy)
  have hsl:y.src.toNat<s.stages.l.length:=by omega
  obtain⟨t,ht⟩:∃t,s.stages.l[y.src.toNat]?=some t:=⟨_,gEg hsl⟩
  have hsc:=hs.hc c (lMg hc)
  have c1:=e137 c hsc.len
  have hst:stAt s.pl y.src=t.pl:=by
   have:=zcC ht
   rwa [show ((y.src.toNat:Nat):Int)=y.src by omega]at this
  have a0:=fun K=>app0 hA K
  have a1:=fun K=>app0 hB K
  have b0:=two0 H
  have b1:=two1 H
  have b2:∀B,(H++[B])[H.length]?=some B:=fun B=>zL H B
  have ih':cr1B s.pl c.pl y=true→okC (W.loop [2,3,13,14,15] zqW [(2,.optr 0 0 0 0),(3,.optr 1 0 0 0),(13,Sl.av Cr.av 6 s.credits),(14,I s.credits.l.length),(15,I ((k:Int)+1))] (H++[.arr 0 6 false [c.av],.arr 0 5 false [y.av]]))
   (fun q F H'=>AllB (fun j=>∀c y,s.credits.l[j]?=some c→x.pipes.l[j]?=some y→cr1B s.pl c.pl y=true) k 0 [2,3] [(2,.optr 0 0 0 0),(3,.optr 1 0 0 0)] 4 (.arr 0 2 false [x.av]) (.arr 0 4 false [s.av]) q F H'):=by
   intro hb
   have:=ih (k+1) (H++[.arr 0 6 false [c.av],.arr 0 5 false [y.av]]) hrr (by omega) (a0 _) (a1 _)
   simp only[iNa,iCo]at this
   obtain⟨q,F,H',d1,d2⟩:=zc.1 this
   rw[d1]
   rcases d2 with⟨d3,d4⟩|d3
   .refine Or.inl ⟨fun j hj=>?_,d4⟩
    by_cases hjk:j=k
    .subst hjk
     intro c' y' hc' hy'
     rw[hc]at hc';cases hc'
     rw[hy]at hy';cases hy'
     exact hb
    .exact d3 j (by omega)
   .exact Or.inr d3
  have bad:cr1B s.pl c.pl y=false→∃j:Nat,¬∀c y,s.credits.l[j]?=some c→x.pipes.l[j]?=some y→cr1B s.pl c.pl y=true:=fun hb=>⟨k,fun h=>by rw[h c y hc hy]at hb;cases hb⟩
  have hB0:cr1B s.pl c.pl y=(decide (crI c.pl=0)&&decide (c.cap=y.capacity)&&(c.closed==t.ended)&&(c.closed||decide (c.granted=c.taken+c.cap))):=by
   unfold cr1B;rw[hst];rfl
  rw[zb]
  by_cases h1:crI c.pl=0
  rotate_left
  .have hb:cr1B s.pl c.pl y=false:=by rw[hB0];simp[h1]
   simp[zdv,zhE,hlt,hlt',hlp,hc,hy,a0,a1,b0,b1,b2,c1,h1,gEz, -getElem?_pos]
   exact Or.inr ⟨bad hb,rfl,rfl⟩
  have hv:=(zbb _).1 h1
  rw[h1]at c1
  have g1:=hv.sg;have g2:=hv.gm;have g3:=hv.t0;have g4:=hv.ts;have g5:=hv.c1;have g6:=hv.c2
  simp only[Cr.pl]at g1 g2 g3 g4 g5 g6
  have w1:IntKind.wrap .i64 (c.taken+c.cap)=c.taken+c.cap:=zr (by omega) (by omega)
  by_cases h2:c.cap=y.capacity
  rotate_left
  .have hb:cr1B s.pl c.pl y=false:=by rw[hB0];simp[h2]
   simp[zdv,zhE,hlt,hlt',hlp,hc,hy,a0,a1,b0,b1,b2,c1,h2,gEz, -getElem?_pos]
   exact Or.inr ⟨bad hb,rfl,rfl⟩
  by_cases h3:c.closed=t.ended
  rotate_left
  .have hb:cr1B s.pl c.pl y=false:=by rw[hB0];simp[h3]
   have h3':(c.closed !=t.ended)=true:=by simp[h3]
   simp[zdv,zhE,hlt,hlt',hlp,hc,hy,a0,a1,b0,b1,b2,c1,eq_true h2,r1,ht,h3',gEz, -getElem?_pos]
   exact Or.inr ⟨bad hb,rfl,rfl⟩
  have h3':(c.closed !=t.ended)=false:=by simp[h3]
  cases h4:c.closed with
  |true=>
   have hb:cr1B s.pl c.pl y=true:=by rw[hB0];simp[h1,h2,←h3,h4]
   rw[h4]at h3'
   simp[zdv,zhE,hlt,hlt',hlp,hc,hy,a0,a1,b0,b1,b2,c1,eq_true h2,r1,ht,h3',h4,hw,gEz, -getElem?_pos]
   exact ih' hb
  |false=>
   rw[h4]at h3'
   by_cases h5:c.granted=c.taken+c.cap
   .have hb:cr1B s.pl c.pl y=true:=by rw[hB0];simp[h1,h2,←h3,h5]
    simp[zdv,zhE,hlt,hlt',hlp,hc,hy,a0,a1,b0,b1,b2,c1,eq_true h2,r1,ht,h3',h4,eq_true h5,w1,hw,gEz, -getElem?_pos]
    exact ih' hb
   .have hb:cr1B s.pl c.pl y=false:=by rw[hB0];simp[h4,h5]
    simp[zdv,zhE,hlt,hlt',hlp,hc,hy,a0,a1,b0,b1,b2,c1,eq_true h2,r1,ht,h3',h4,h5,w1,gEz, -getElem?_pos]
    exact Or.inr ⟨bad hb,rfl,rfl⟩
end
end Go.Proofs.YtbddckhdbnmamaaGreat
