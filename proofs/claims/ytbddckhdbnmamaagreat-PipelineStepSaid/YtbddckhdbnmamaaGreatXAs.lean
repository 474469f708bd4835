/-
  slices.ContainsFunc at the types of this program, printed by a program of mine (conditions: none). Buffers: the program's checks (conditions: none). The operators' values (conditions: none). Buffers: the program's operations (conditions: none). Clones, sending, taking (conditions: none). Sending and taking (conditions: none). Types of expressions: the program (conditions: none). Values of expressions: the program (conditions: none). Type and Eval with the bindings of a stage: the program (conditions: none). Buffers: the reference (conditions: none). Types and values of expressions: the reference (conditions: none). Type and Eval of the reference (conditions: none). The operators of the reference (conditions: none). Values of expressions: the reference (conditions: well typed, bindings of type 1). eval and Eval of the reference (conditions: well typed, bindings of type 1). slices.Index and slices.Contains, plain; the names of a stage's expression (conditions: none). An expression that only names x does not see y; the check of a stage's expression in the program (conditions: none). The check of a stage's expression in the program (conditions: none). The check of a stage's expression: plain facts (conditions: none). The check of a stage's expression in the program, as a call on any memory (conditions: none). The handlers (conditions: none). stage.Check in the program (conditions: none). Cells of a handler and of a stage's expression (conditions: none). stage.Check in the program: its beginning (conditions: none). stage.Check in the program: what a kind does not use (conditions: none). stage.Check in the program: why a stage is not valid (conditions: lists of at most 1048576). How many inputs and outputs a stage has: the program (conditions: lists of at most 1048576). The type of a stage's expression: the reference (conditions: none). The names of an expression: the reference (conditions: lists of at most 1000000). The check of a stage: the reference (conditions: lists of at most 1048576). stage.Check, Inputs, Outputs: the reference (conditions: lists of at most 1048576). States of a stage: the program (conditions: lists of at most 1048576). States of a stage: the reference (conditions: lists of at most 1048576). What a stage needs: the reference (conditions: lists of at most 1048576). Buffers: sending and taking of the reference; a buffer after its item was taken (conditions: none).
-/
import Derived.Test.YtbddckhdbnmamaaGreatNAs
namespace Go.Proofs.YtbddckhdbnmamaaGreat
open Go Go.RowKit
set_option linter.unusedVariables false
set_option linter.unusedSimpArgs false
set_option maxRecDepth 10000
def fidx {α:Type} (p:α→Bool):List α→Option Nat
 | []=>none
 |a::r=>if p a then some 0 else (fidx p r).map (·+1)
theorem zri {α:Type} (p:α→Bool) (l:List α):(fidx p l).isSome=l.any p:=by
 induction l with
 |nil=>rfl
 |cons a r ih=>simp only[fidx,List.any_cons];cases p a<;>simp[ih]
theorem zud (x:Sl Int) (hl:x.l.length≤9223372036854775807) (y:AV) (hy:okO y=some y) (p:Int→Bool) (H0:Heap) (hp:∀a∈x.l,∀H,Kept none H0 H→okV (W.call y [I a] H) (fun v H'=>v= .bool (p a)∧Kept none H H')):
  ∀(r:List Int) (k:Nat) (H:Heap),x.l.drop k=r→k≤x.l.length→Kept none H0 H→
  okC (W.loop [0,1,7,8] znP [(0,Sl.av I 1 x),(1,y),(7,I x.l.length),(8,I k)] H)
   (fun q F' H'=>Kept none H0 H'∧((fidx p r=none∧q= .exit 0)∨∃j,fidx p r=some j∧q= .ret∧F'.get 4=I (k+j:Nat))):=by
 intro r
 induction r with
 |nil=>
  intro k H h1 h2 hk0
  have hk:=zf h1 h2
  rw[zb]
  simp[ze4,zgE,hk,hy,hk0,fidx]
 |cons a r ihr=>
  intro k H h1 h2 hk0
  obtain⟨hlt,ha,hr⟩:=zn h1
  have hlt':(k:Int)<x.l.length:=by omega
  have hak:x.l[k]=a:=(gEs.1 ha).2
  obtain⟨v,H1,c1,rfl,c2⟩:=zz.1 (hp a (zac h1) H hk0)
  have hw:IntKind.wrap .i64 ((k:Int)+1)=(k:Int)+1:=by rw[zhI]<;>omega
  rw[zb]
  cases hpa:p a with
  |true=>
   rw[hpa]at c1
   have hf:fidx p (a::r)=some 0:=by simp[fidx,hpa]
   rw[hf]
   simp[ze4,zgE,hlt,hak,hy,c1]
   exact hk0.trans c2
  |false=>
   rw[hpa]at c1
   have hJ:=ihr (k+1) H1 hr (by omega) (hk0.trans c2)
   simp only[iNa,iCo]at hJ
   obtain⟨q,F',H',g1,g2,g3⟩:=zc.1 hJ
   rcases g3 with⟨g3,rfl⟩|⟨j,g3,rfl,g4⟩
   .have hf:fidx p (a::r)=none:=by simp[fidx,hpa,g3]
    rw[hf]
    simp[ze4,zgE,hlt,hak,hy,c1,hw,g1,g2]
   .have hf:fidx p (a::r)=some (j+1):=by simp[fidx,hpa,g3]
    rw[hf]
    simp[ze4,zgE,hlt,hak,hy,c1,hw,g1,g2,g4]
    omega
theorem zxk (x:Sl Int) (hl:x.l.length≤9223372036854775807) (y:AV) (hy:okO y=some y) (p:Int→Bool) (H0:Heap) (hp:∀a∈x.l,∀H,Kept none H0 H→okV (W.call y [I a] H) (fun v H'=>v= .bool (p a)∧Kept none H H')):
  okV (W.call (.clo 145 [] []) [Sl.av I 1 x,y] H0) (fun v H'=>v=I (match fidx p x.l with|some j=>(j:Int)|none=> -1)∧Kept none H0 H'):=by
 rw[zj Φ145]
 have hL:=zud x hl y hy p H0 hp x.l 0 H0 rfl (by omega) (Kept.refl _ _)
 simp only[Int.natCast_zero,Nat.zero_add]at hL
 obtain⟨q,F',H',g1,g2,g3⟩:=zc.1 hL
 rcases g3 with⟨g3,rfl⟩|⟨j,g3,rfl,g4⟩
 .simp[zoB,c145,hy,g1,g3,g2]
 .simp[zoB,c145,hy,g1,g3,g2,g4]
theorem zsp (x:Sl Int) (hl:x.l.length≤9223372036854775807) (y:AV) (hy:okO y=some y) (p:Int→Bool) (H0:Heap) (hp:∀a∈x.l,∀H,Kept none H0 H→okV (W.call y [I a] H) (fun v H'=>v= .bool (p a)∧Kept none H H')):
  okV (W.call (.clo 96 [] []) [Sl.av I 1 x,y] H0) (fun v H'=>v= .bool (x.l.any p)∧Kept none H0 H'):=by
 rw[zj Φ96]
 obtain⟨v,H',c1,rfl,c2⟩:=zz.1 (zxk x hl y hy p H0 hp)
 rw[←zri]
 cases hf:fidx p x.l with
 |none=>
  rw[hf]at c1
  simp[fi96,c96,hy,c1,c2]
 |some j=>
  rw[hf]at c1
  simp[fi96,c96,hy,c1,c2]
theorem zub (x:Sl Pi) (hl:x.l.length≤9223372036854775807) (y:AV) (hy:okO y=some y) (p:Pi→Bool) (H0:Heap) (hp:∀a∈x.l,∀H,Kept none H0 H→okV (W.call y [Pi.av a] H) (fun v H'=>v= .bool (p a)∧Kept none H H')):
  ∀(r:List Pi) (k:Nat) (H:Heap),x.l.drop k=r→k≤x.l.length→Kept none H0 H→
  okC (W.loop [0,1,7,8] znN [(0,Sl.av Pi.av 5 x),(1,y),(7,I x.l.length),(8,I k)] H)
   (fun q F' H'=>Kept none H0 H'∧((fidx p r=none∧q= .exit 0)∨∃j,fidx p r=some j∧q= .ret∧F'.get 4=I (k+j:Nat))):=by
 intro r
 induction r with
 |nil=>
  intro k H h1 h2 hk0
  have hk:=zf h1 h2
  rw[zb]
  simp[ze3,zgD,hk,hy,hk0,fidx]
 |cons a r ihr=>
  intro k H h1 h2 hk0
  obtain⟨hlt,ha,hr⟩:=zn h1
  have hlt':(k:Int)<x.l.length:=by omega
  have hak:x.l[k]=a:=(gEs.1 ha).2
  obtain⟨v,H1,c1,rfl,c2⟩:=zz.1 (hp a (zac h1) H hk0)
  have hw:IntKind.wrap .i64 ((k:Int)+1)=(k:Int)+1:=by rw[zhI]<;>omega
  rw[zb]
  cases hpa:p a with
  |true=>
   rw[hpa]at c1
   have hf:fidx p (a::r)=some 0:=by simp[fidx,hpa]
   rw[hf]
   simp[ze3,zgD,hlt,hak,hy,c1]
   exact hk0.trans c2
  |false=>
   rw[hpa]at c1
   have hJ:=ihr (k+1) H1 hr (by omega) (hk0.trans c2)
   simp only[iNa,iCo]at hJ
   obtain⟨q,F',H',g1,g2,g3⟩:=zc.1 hJ
   rcases g3 with⟨g3,rfl⟩|⟨j,g3,rfl,g4⟩
   .have hf:fidx p (a::r)=none:=by simp[fidx,hpa,g3]
    rw[hf]
    simp[ze3,zgD,hlt,hak,hy,c1,hw,g1,g2]
   .have hf:fidx p (a::r)=some (j+1):=by simp[fidx,hpa,g3]
    rw[hf]
    simp[ze3,zgD,hlt,hak,hy,c1,hw,g1,g2,g4]
    omega
theorem ztp (x:Sl Pi) (hl:x.l.length≤9223372036854775807) (y:AV) (hy:okO y=some y) (p:Pi→Bool) (H0:Heap) (hp:∀a∈x.l,∀H,Kept none H0 H→okV (W.call y [Pi.av a] H) (fun v H'=>v= .bool (p a)∧Kept none H H')):
  okV (W.call (.clo 159 [] []) [Sl.av Pi.av 5 x,y] H0) (fun v H'=>v=I (match fidx p x.l with|some j=>(j:Int)|none=> -1)∧Kept none H0 H'):=by
 rw[zj Φ159]
 have hL:=zub x hl y hy p H0 hp x.l 0 H0 rfl (by omega) (Kept.refl _ _)
 simp only[Int.natCast_zero,Nat.zero_add]at hL
 obtain⟨q,F',H',g1,g2,g3⟩:=zc.1 hL
 rcases g3 with⟨g3,rfl⟩|⟨j,g3,rfl,g4⟩
 .simp[zoy,c159,hy,g1,g3,g2]
 .simp[zoy,c159,hy,g1,g3,g2,g4]
theorem zt1 (x:Sl Bnd) (hl:x.l.length≤9223372036854775807) (y:AV) (hy:okO y=some y) (p:Bnd→Bool) (H0:Heap) (hp:∀a∈x.l,∀H,Kept none H0 H→okV (W.call y [Bnd.av a] H) (fun v H'=>v= .bool (p a)∧Kept none H H')):
  ∀(r:List Bnd) (k:Nat) (H:Heap),x.l.drop k=r→k≤x.l.length→Kept none H0 H→
  okC (W.loop [0,1,7,8] znA [(0,Sl.av Bnd.av 3 x),(1,y),(7,I x.l.length),(8,I k)] H)
   (fun q F' H'=>Kept none H0 H'∧((fidx p r=none∧q= .exit 0)∨∃j,fidx p r=some j∧q= .ret∧F'.get 4=I (k+j:Nat))):=by
 intro r
 induction r with
 |nil=>
  intro k H h1 h2 hk0
  have hk:=zf h1 h2
  rw[zb]
  simp[ze0,zgA,hk,hy,hk0,fidx]
 |cons a r ihr=>
  intro k H h1 h2 hk0
  obtain⟨hlt,ha,hr⟩:=zn h1
  have hlt':(k:Int)<x.l.length:=by omega
  have hak:x.l[k]=a:=(gEs.1 ha).2
  obtain⟨v,H1,c1,rfl,c2⟩:=zz.1 (hp a (zac h1) H hk0)
  have hw:IntKind.wrap .i64 ((k:Int)+1)=(k:Int)+1:=by rw[zhI]<;>omega
  rw[zb]
  cases hpa:p a with
  |true=>
   rw[hpa]at c1
   have hf:fidx p (a::r)=some 0:=by simp[fidx,hpa]
   rw[hf]
   simp[ze0,zgA,hlt,hak,hy,c1]
   exact hk0.trans c2
  |false=>
   rw[hpa]at c1
   have hJ:=ihr (k+1) H1 hr (by omega) (hk0.trans c2)
   simp only[iNa,iCo]at hJ
   obtain⟨q,F',H',g1,g2,g3⟩:=zc.1 hJ
   rcases g3 with⟨g3,rfl⟩|⟨j,g3,rfl,g4⟩
   .have hf:fidx p (a::r)=none:=by simp[fidx,hpa,g3]
    rw[hf]
    simp[ze0,zgA,hlt,hak,hy,c1,hw,g1,g2]
   .have hf:fidx p (a::r)=some (j+1):=by simp[fidx,hpa,g3]
    rw[hf]
    simp[ze0,zgA,hlt,hak,hy,c1,hw,g1,g2,g4]
    omega
theorem zxj (x:Sl Bnd) (hl:x.l.length≤9223372036854775807) (y:AV) (hy:okO y=some y) (p:Bnd→Bool) (H0:Heap) (hp:∀a∈x.l,∀H,Kept none H0 H→okV (W.call y [Bnd.av a] H) (fun v H'=>v= .bool (p a)∧Kept none H H')):
  okV (W.call (.clo 266 [] []) [Sl.av Bnd.av 3 x,y] H0) (fun v H'=>v=I (match fidx p x.l with|some j=>(j:Int)|none=> -1)∧Kept none H0 H'):=by
 rw[zj Φ266]
 have hL:=zt1 x hl y hy p H0 hp x.l 0 H0 rfl (by omega) (Kept.refl _ _)
 simp only[Int.natCast_zero,Nat.zero_add]at hL
 obtain⟨q,F',H',g1,g2,g3⟩:=zc.1 hL
 rcases g3 with⟨g3,rfl⟩|⟨j,g3,rfl,g4⟩
 .simp[zof,c266,hy,g1,g3,g2]
 .simp[zof,c266,hy,g1,g3,g2,g4]
def SlN {α:Type} (x:Sl α):Prop:=((x.nl=some true∧x.l=[])∨x.nl=some false)∧x.l.length≤1048576
theorem SlN.len {α:Type} {x:Sl α} (h:SlN x):x.l.length≤9223372036854775807:=by have:=h.2;omega
theorem zu {α:Type}:SlN (za5:Sl α):=⟨.inl ⟨rfl,rfl⟩,by simp⟩
theorem zO {α:Type} {n:Nat} {l:List α} (h:l.length≤1048576):SlN (ofL n l):=⟨.inr rfl,h⟩
theorem zr {n:Int} (h: -9223372036854775808≤n) (h':n≤9223372036854775807):IntKind.wrap .i64 n=n:=by rw[zhI]<;>omega
theorem e124 (a l h:Int):W.pure 124 [I a,I l,I h]=some (.bool (decide (l≤a)&&decide (a≤h))):=by
 rw[zd Φ124 rfl]
 by_cases h1:l≤a<;>simp[zrS,c124,h1]
theorem zvW (n:Int) (H:Heap):W.call (.clo 172 [] []) [I n] H=some (.bool (!isIt n),H):=by
 rw[zj Φ172]
 simp[zrJ,c172,e124,isIt]
theorem zxY (x:Sl Int) (hl:x.l.length≤9223372036854775807) (H0:Heap):okV (W.call (.clo 96 [] []) [Sl.av I 1 x,.clo 172 [] []] H0) (fun v H'=>v= .bool (!x.l.all isIt)∧Kept none H0 H'):=by
 have h:=zsp x hl (.clo 172 [] []) rfl (fun n=> !isIt n) H0 (fun a _ H _=>by rw[zvW];exact⟨rfl,Kept.refl _ _⟩)
 rw[←List.not_all_eq_any_not]at h
 exact h
theorem e137 (c:Cr) (hl:c.items.l.length≤9223372036854775807):W.pure 137 [c.av]=some (I (crI c.pl)):=by
 rw[zd Φ137 (by simp)]
 have c1:=e124 c.cap 1 100
 by_cases h0:c.cap<1∨100<c.cap
 .have a1:(decide (1≤c.cap)&&decide (c.cap≤100))=false:=by
   rcases h0 with h0|h0
   .simp;omega
   .simp;omega
  rw[a1]at c1
  simp[zeN,c137,c1,crI,Cr.pl,h0]
 have a1:(decide (1≤c.cap)&&decide (c.cap≤100))=true:=by simp;omega
 rw[a1]at c1
 by_cases h1:c.taken<0
 .simp[zeN,c137,c1,crI,Cr.pl,h0,h1]
 by_cases h2:c.sent<c.taken
 .simp[zeN,c137,c1,crI,Cr.pl,h0,h1,h2]
 by_cases h3:c.granted<c.sent
 .simp[zeN,c137,c1,crI,Cr.pl,h0,h1,h2,h3]
 by_cases h4:1099511627776<c.granted
 .simp[zeN,c137,c1,crI,Cr.pl,h0,h1,h2,h3,h4]
 have w1:IntKind.wrap .i64 (c.granted - c.taken)=c.granted - c.taken:=zr (by omega) (by omega)
 have w2:IntKind.wrap .i64 (c.sent - c.taken)=c.sent - c.taken:=zr (by omega) (by omega)
 by_cases h5:c.cap<c.granted - c.taken
 .simp[zeN,c137,c1,crI,Cr.pl,h0,h1,h2,h3,h4,w1,h5]
 by_cases h6:(c.items.l.length:Int)=c.sent - c.taken
 rotate_left
 .simp[zeN,c137,c1,crI,Cr.pl,h0,h1,h2,h3,h4,w1,w2,h5,h6]
 obtain⟨v,H',d1,rfl,d2⟩:=zz.1 (zxY c.items hl [.arr 0 6 false [c.av]])
 cases ha:c.items.l.all isIt with
 |true=>
  rw[ha]at d1
  simp[zeN,c137,c1,crI,Cr.pl,h0,h1,h2,h3,h4,w1,w2,h5,h6,d1,ha]
 |false=>
  rw[ha]at d1
  simp[zeN,c137,c1,crI,Cr.pl,h0,h1,h2,h3,h4,w1,w2,h5,h6,d1,ha]
theorem e239 (n:Int) (h1: -4611686018427387904≤n) (h2:n≤4611686018427387904):W.pure 239 [I n]=some (I n.natAbs):=by
 rw[zd Φ239 rfl]
 have w:IntKind.wrap .i64 (0 - n)=0 - n:=zr (by omega) (by omega)
 have w':IntKind.wrap .i64 (-n)= -n:=zr (by omega) (by omega)
 by_cases h:0≤n
 .have e:(n.natAbs:Int)=n:=by omega
  rw[e]
  by_cases h0:n=0
  .subst h0
   have w0:IntKind.wrap .i64 0=0:=zr (by omega) (by omega)
   simp[zl1,c239,mxV,w0]
  .have h3:¬n≤ -n:=by omega
   have h4: -n<n:=by omega
   have h5:¬n< -n:=by omega
   simp[zl1,c239,mxV,w,w',h3,h4,h5]
 .have e:(n.natAbs:Int)= -n:=by omega
  rw[e]
  have h3:n≤ -n:=by omega
  have h4:¬ -n<n:=by omega
  have h5:n< -n:=by omega
  simp[zl1,c239,mxV,w,w',h3,h4,h5]
theorem zth {a b:Nat} (h:0<b):1099511627776/b<a↔1099511627776<a* b:=Nat.div_lt_iff_lt_mul h
theorem quoM {b:Nat} (h:0<b):Int.tdiv 1099511627776 (b:Int)=((1099511627776/b:Nat):Int):=by
 rw[Int.tdiv_eq_ediv_of_nonneg (by omega)]
 rfl
theorem zvU (a b:Int) (ha:isIt a=true) (hb:isIt b=true) (H:Heap):W.call (.clo 243 [] []) [I a,I b] H=some (.tuple [I (opE 5 a b).1,I (opE 5 a b).2],H):=by
 rw[zj Φ243]
 have ha':=(zo a).1 ha
 have hb':=(zo b).1 hb
 have e:opE 5 a b=if 1099511627776<a.natAbs* b.natAbs then (0,14) else (a* b,0):=by simp[opE]
 rw[e]
 by_cases h0:b=0
 .subst h0
  have w0:IntKind.wrap .i64 0=0:=zr (by omega) (by omega)
  simp[zl0,c243,w0]
 .have c1:=e239 a (by omega) (by omega)
  have c2:=e239 b (by omega) (by omega)
  have hw:a.natAbs* b.natAbs≤1099511627776→IntKind.wrap .i64 (a* b)=a* b:=fun h=>by
   have:(a* b).natAbs≤1099511627776:=by rw[Int.natAbs_mul];omega
   exact zr (by omega) (by omega)
  have hbp:0<b.natAbs:=by omega
  generalize b.natAbs=B at *
  generalize a.natAbs=A at *
  obtain⟨D,hD1,hD2,hD3⟩:∃D:Nat,Int.tdiv 1099511627776 (B:Int)=(D:Int)∧D≤1099511627776∧(D<A↔1099511627776<A* B):=⟨_,quoM hbp,Nat.div_le_self _ _,zth hbp⟩
  have w:IntKind.wrap .i64 (D:Int)=D:=zr (by omega) (by omega)
  have hB:B≠0:=by omega
  by_cases h:1099511627776<A* B
  .have h2:=hD3.2 h
   simp only[if_pos h]
   simp[zl0,c243,h0,c1,c2,hB,hD1,w,h2]
  .have h2:¬D<A:=fun hh=>h (hD3.1 hh)
   simp only[if_neg h]
   simp[zl0,c243,h0,c1,c2,hB,hD1,w,h2,hw (by omega)]
theorem zsa (o a b:Int) (ho:3≤o∧o≤15) (ha:isIt a=true) (hb:isIt b=true) (H:Heap):W.call (opFn o) [I a,I b] H=some (.tuple [I (opE o a b).1,I (opE o a b).2],H):=by
 have ha':=(zo a).1 ha
 have hb':=(zo b).1 hb
 have w1:IntKind.wrap .i64 (a+b)=a+b:=zr (by omega) (by omega)
 have w2:IntKind.wrap .i64 (a - b)=a - b:=zr (by omega) (by omega)
 have cases13:o=3∨o=4∨o=5∨o=6∨o=7∨o=8∨o=9∨o=10∨o=11∨o=12∨o=13∨o=14∨o=15:=by omega
 rcases cases13 with rfl|rfl|rfl|rfl|rfl|rfl|rfl|rfl|rfl|rfl|rfl|rfl|rfl
 .simp[opFn,zj Φ279,zeg,c279,zj Φ241,zrx,c241,opE,w1]
 .simp[opFn,zj Φ279,zeg,c279,zj Φ242,zrw,c242,opE,w2]
 .exact zvU a b ha hb H
 .by_cases h:b=0
  .simp[opFn,zj Φ280,zjJ,c280,opE,h]
  .have hd:IntKind.wrap .i64 (a.tdiv b)=a.tdiv b:=by
    have:(a.tdiv b).natAbs≤a.natAbs:=by rw[Int.natAbs_tdiv];exact Nat.div_le_self _ _
    exact zr (by omega) (by omega)
   simp[opFn,zj Φ280,zjJ,c280,zj Φ245,zrv,c245,opE,h,hd]
 .by_cases h:b=0
  .simp[opFn,zj Φ280,zjJ,c280,opE,h]
  .simp[opFn,zj Φ280,zjJ,c280,zj Φ246,zru,c246,opE,h]
 .by_cases h:a=b<;>simp[opFn,zj Φ279,zeg,c279,zj Φ281,zfG,c281,zj Φ248,zrt,c248,opE,b01,h]
 .by_cases h:a=b<;>simp[opFn,zj Φ279,zeg,c279,zj Φ281,zfG,c281,zj Φ249,zrs,c249,opE,b01,h]
 .by_cases h:a<b<;>simp[opFn,zj Φ279,zeg,c279,zj Φ281,zfG,c281,zj Φ250,zrr,c250,opE,b01,h]
 .by_cases h:a≤b<;>simp[opFn,zj Φ279,zeg,c279,zj Φ281,zfG,c281,zj Φ251,zrq,c251,opE,b01,h]
 .by_cases h:b<a<;>simp[opFn,zj Φ279,zeg,c279,zj Φ281,zfG,c281,zj Φ252,zrp,c252,opE,b01,h]
 .by_cases h:b≤a<;>simp[opFn,zj Φ279,zeg,c279,zj Φ281,zfG,c281,zj Φ253,zro,c253,opE,b01,h]
 .by_cases h:a=0<;>by_cases h':b=0<;>simp[opFn,zj Φ279,zeg,c279,zj Φ281,zfG,c281,zj Φ254,zrn,c254,opE,b01,h,h']
 .by_cases h:a=0<;>by_cases h':b=0<;>simp[opFn,zj Φ279,zeg,c279,zj Φ281,zfG,c281,zj Φ255,zrm,c255,opE,b01,h,h']
theorem SlN.of {x y:Sl Int} (h:SlN x) (e:y=x∨y=za5):SlN y:=by
 rcases e with rfl|rfl
 .exact h
 .exact zu
def zCr:Cr:=⟨0,0,0,0,za5,false⟩
theorem zak:(.agg [I 0,I 0,I 0,I 0,.isl (some true) 0 [],.bool false]:AV)=zCr.av:=rfl
theorem e133 (c:Cr) (hl:c.items.l.length≤9223372036854775807):W.pure 133 [c.av]=some (.bool (endC c.pl)):=by
 rw[zd Φ133 (by simp)]
 have c1:=e137 c hl
 by_cases h:crI c.pl=0
 .rw[h]at c1
  have e1:endC c.pl=(c.closed&&c.items.l.isEmpty):=by unfold endC;rw[h];simp[Cr.pl]
  rw[e1]
  cases h2:c.closed<;>cases h3:c.items.l<;>simp[zoE,c133,c1,h2,h3]
  omega
 .simp[zoE,c133,c1,endC,h]
theorem e136 (c:Cr) (hl:c.items.l.length≤9223372036854775807):W.pure 136 [c.av]=some (I (zd6 c.pl)):=by
 rw[zd Φ136 (by simp)]
 have c1:=e137 c hl
 by_cases h:crI c.pl=0
 .rw[h]at c1
  have hv:=(zbb _).1 h
  have w1:IntKind.wrap .i64 (c.granted - c.sent)=c.granted - c.sent:=by
   have h1:=hv.sg;have h2:=hv.gm;have h3:=hv.t0;have h4:=hv.ts
   simp only[Cr.pl]at h1 h2 h3 h4
   exact zr (by omega) (by omega)
  have hpl:c.pl.closed=c.closed:=rfl
  cases h2:c.closed<;>simp[zoD,c136,c1,zd6,h,hpl,h2,w1]
  rfl
 .simp[zoD,c136,c1,zd6,h]
theorem Cr.pl_mk (c:Cr):c.pl=⟨c.cap,c.granted,c.sent,c.taken,c.items.l,c.closed⟩:=rfl
theorem e78 (c:Cr) (hl:c.items.l.length≤9223372036854775807) (n:Int):∃c':Cr,W.pure 78 [c.av,I n]=some (.tuple [c'.av,I (reqC c.pl n).2])∧c'.pl=(reqC c.pl n).1∧(c'.items=c.items∨c'.items=za5):=by
 have c1:=e137 c hl
 by_cases h:crI c.pl=0
 rotate_left
 .have hr:reqC c.pl n=(crZ,crI c.pl):=by unfold reqC;rw[if_pos h]
  rw[hr]
  refine⟨zCr,?_,rfl,.inr rfl⟩
  rw[zd Φ78 (by simp)]
  simp[fi78,c78,zj Φ125,zcz,c125,c1,h,←zak]
 rw[h]at c1
 have hv:=(zbb _).1 h
 have g1:=hv.sg;have g2:=hv.gm;have g3:=hv.t0;have g4:=hv.ts;have g5:=hv.c1;have g6:=hv.c2;have g7:=hv.gc
 rw[Cr.pl_mk]at h⊢
 simp only[Cr.pl]at g1 g2 g3 g4 g5 g6 g7
 by_cases h1:n<1
 .have hr:reqC ⟨c.cap,c.granted,c.sent,c.taken,c.items.l,c.closed⟩ n=(crZ,2):=by unfold reqC;rw[if_neg (by simp[h]),if_pos h1]
  rw[hr]
  refine⟨zCr,?_,rfl,.inr rfl⟩
  rw[zd Φ78 (by simp)]
  simp[fi78,c78,zj Φ125,zcz,c125,zj Φ126,ziI,c126,c1,h1,←zak]
 cases h2:c.closed with
 |true=>
  rw[h2]at h
  have hr:reqC ⟨c.cap,c.granted,c.sent,c.taken,c.items.l,true⟩ n=(crZ,19):=by unfold reqC;rw[if_neg (by simp[h]),if_neg h1,if_pos rfl]
  rw[hr]
  refine⟨zCr,?_,rfl,.inr rfl⟩
  rw[zd Φ78 (by simp)]
  simp[fi78,c78,zj Φ125,zcz,c125,zj Φ126,ziI,c126,c1,h1,h2,←zak]
 |false=>
 rw[h2]at h
 have w1:IntKind.wrap .i64 (c.taken+c.cap)=c.taken+c.cap:=zr (by omega) (by omega)
 have w2:IntKind.wrap .i64 (c.taken+c.cap - c.granted)=c.taken+c.cap - c.granted:=zr (by omega) (by omega)
 by_cases h3:c.taken+c.cap - c.granted<n
 .have hr:reqC ⟨c.cap,c.granted,c.sent,c.taken,c.items.l,false⟩ n=(crZ,18):=by unfold reqC;rw[if_neg (by simp[h]),if_neg h1,if_neg (by simp),if_pos h3]
  rw[hr]
  refine⟨zCr,?_,rfl,.inr rfl⟩
  rw[zd Φ78 (by simp)]
  simp[fi78,c78,zj Φ125,zcz,c125,zj Φ126,ziI,c126,c1,h1,h2,w1,w2,h3,←zak]
 have w3:IntKind.wrap .i64 (c.granted+n)=c.granted+n:=zr (by omega) (by omega)
 by_cases h4:1099511627776<c.granted+n
 .have hr:reqC ⟨c.cap,c.granted,c.sent,c.taken,c.items.l,false⟩ n=(crZ,4):=by unfold reqC;rw[if_neg (by simp[h]),if_neg h1,if_neg (by simp),if_neg h3,if_pos h4]
  rw[hr]
  refine⟨zCr,?_,rfl,.inr rfl⟩
  rw[zd Φ78 (by simp)]
  simp[fi78,c78,zj Φ125,zcz,c125,zj Φ126,ziI,c126,c1,h1,h2,w1,w2,h3,w3,h4,←zak]
 .have hr:reqC ⟨c.cap,c.granted,c.sent,c.taken,c.items.l,false⟩ n=(⟨c.cap,c.granted+n,c.sent,c.taken,c.items.l,false⟩,0):=by unfold reqC;rw[if_neg (by simp[h]),if_neg h1,if_neg (by simp),if_neg h3,if_neg h4]
  rw[hr]
  refine⟨{c with granted:=c.granted+n},?_,by simp[Cr.pl,h2],.inl rfl⟩
  rw[zd Φ78 (by simp)]
  simp[fi78,c78,zj Φ125,zcz,c125,zj Φ126,ziI,c126,c1,h1,h2,w1,w2,h3,w3,h4]
theorem e90 (c:Cr) (hl:c.items.l.length≤9223372036854775807):∃c':Cr,W.pure 90 [c.av]=some (.tuple [c'.av,I (za4 c.pl).2])∧c'.pl=(za4 c.pl).1∧(c'.items=c.items∨c'.items=za5):=by
 have c1:=e137 c hl
 by_cases h:crI c.pl=0
 rotate_left
 .have hr:za4 c.pl=(crZ,crI c.pl):=by unfold za4;rw[if_pos h]
  rw[hr]
  refine⟨zCr,?_,rfl,.inr rfl⟩
  rw[zd Φ90 (by simp)]
  simp[fi90,c90,zj Φ125,zcz,c125,c1,h,←zak]
 rw[h]at c1
 rw[Cr.pl_mk]at h⊢
 cases h2:c.closed with
 |true=>
  rw[h2]at h
  have hr:za4 ⟨c.cap,c.granted,c.sent,c.taken,c.items.l,true⟩=(crZ,19):=by unfold za4;rw[if_neg (by simp[h]),if_pos rfl]
  rw[hr]
  refine⟨zCr,?_,rfl,.inr rfl⟩
  rw[zd Φ90 (by simp)]
  simp[fi90,c90,zj Φ125,zcz,c125,zj Φ139,zoC,c139,c1,h2,←zak]
 |false=>
  rw[h2]at h
  have hr:za4 ⟨c.cap,c.granted,c.sent,c.taken,c.items.l,false⟩=(⟨c.cap,c.granted,c.sent,c.taken,c.items.l,true⟩,0):=by unfold za4;rw[if_neg (by simp[h]),if_neg (by simp)]
  rw[hr]
  refine⟨{c with closed:=true},?_,rfl,.inl rfl⟩
  rw[zd Φ90 (by simp)]
  simp[fi90,c90,zj Φ125,zcz,c125,zj Φ139,zoC,c139,c1,h2]
def zaN {α:Type} (f:α→AV) (sz:Nat) (x:Sl α) (H:Heap):AV×Heap:=
 if x.nl=some true then (.isl (some true) 0 [],H) else (.osl H.length x.l.length 0 x.l.length,H++[.arr x.l.length sz false (x.l.map f)])
theorem zbR {α:Type} {f:α→AV} {sz:Nat} (x:Sl α) (H:Heap) (hx:x.l.length≤1048576) (hf:∀a,(f a).cells.all AV.cell=true):
  ex (H++[.arr 0 sz false []]) (.app sz) [.osl H.length 0 0 0,Sl.av f sz x]=some (.osl H.length x.l.length 0 x.l.length,H++[.arr x.l.length sz false (x.l.map f)]):=by
 have hall:(x.l.map f).all (fun e=>e.cells.all AV.cell)=true:=zlu hf x.l
 have h0:truncH (H++[.arr 0 sz false []]) (.osl H.length 0 0 0)=H++[.arr 0 sz false []]:=by simp[truncH]
 simp only[ex,zko,hall,if_true,h0]
 cases hl:x.l with
 |nil=>simp[zb3]
 |cons a r=>
  rw[hl]at hx
  simp only[lLc]at hx
  simp[zb3,zaA]
  omega
theorem zo7 (x:Sl Int) (hx:SlN x) (H:Heap):W.call (.clo 44 [] []) [Sl.av I 1 x] H=some (zaN I 1 x H):=by
 rw[zj Φ44]
 obtain⟨nl,z,l⟩:=x
 rcases hx.1 with⟨h1,h2⟩|h1
 .simp only at h1 h2;subst h1;subst h2
  simp[fi44,c44,zaN]
 .simp only at h1;subst h1
  have:=zbR (f:=I) (sz:=1) ⟨some false,z,l⟩ H hx.2 (by simp)
  simp[fi44,c44,zaN,this]
theorem zxJ (x:Sl (Sl Int)) (hx:SlN x) (H:Heap):W.call (.clo 42 [] []) [Sl.av (Sl.av I 1) 1 x] H=some (zaN (Sl.av I 1) 1 x H):=by
 rw[zj Φ42]
 obtain⟨nl,z,l⟩:=x
 rcases hx.1 with⟨h1,h2⟩|h1
 .simp only at h1 h2;subst h1;subst h2
  simp[fi42,c42,zaN]
 .simp only at h1;subst h1
  have:=zbR (f:=(Sl.av I 1)) (sz:=1) ⟨some false,z,l⟩ H hx.2 (by simp)
  simp[fi42,c42,zaN,this]
theorem zxL (x:Sl Ss) (hx:SlN x) (H:Heap):W.call (.clo 40 [] []) [Sl.av Ss.av 3 x] H=some (zaN Ss.av 3 x H):=by
 rw[zj Φ40]
 obtain⟨nl,z,l⟩:=x
 rcases hx.1 with⟨h1,h2⟩|h1
 .simp only at h1 h2;subst h1;subst h2
  simp[fi40,c40,zaN]
 .simp only at h1;subst h1
  have:=zbR (f:=Ss.av) (sz:=3) ⟨some false,z,l⟩ H hx.2 (by simp)
  simp[fi40,c40,zaN,this]
theorem zxK (x:Sl Cr) (hx:SlN x) (H:Heap):W.call (.clo 41 [] []) [Sl.av Cr.av 6 x] H=some (zaN Cr.av 6 x H):=by
 rw[zj Φ41]
 obtain⟨nl,z,l⟩:=x
 rcases hx.1 with⟨h1,h2⟩|h1
 .simp only at h1 h2;subst h1;subst h2
  simp[fi41,c41,zaN]
 .simp only at h1;subst h1
  have:=zbR (f:=Cr.av) (sz:=6) ⟨some false,z,l⟩ H hx.2 (by simp)
  simp[fi41,c41,zaN,this]
mutual
theorem AV.beq_refl:∀x:AV,AV.beq x x=true
 | .eptr a=>by simp[AV.beq,AV.beqs_refl a]
 | .isl n s e=>by simp[AV.beq,AV.beqs_refl e]
 | .agg a=>by simp[AV.beq,AV.beqs_refl a]
 | .tuple a=>by simp[AV.beq,AV.beqs_refl a]
 | .clo f a b=>by simp[AV.beq,AV.beqs_refl a,AV.beqs_refl b]
 | .imap a b=>by simp[AV.beq,AV.beqs_refl a,AV.beqs_refl b]
 | .bad=>rfl
 | .und=>rfl
 | .bool _=>by simp[AV.beq]
 | .int _ _=>by simp[AV.beq]
 | .str _=>by simp[AV.beq]
 | .nilp=>rfl
 | .nilf=>rfl
 | .optr _ _ _ _=>by simp[AV.beq]
 | .osl _ _ _ _=>by simp[AV.beq]
 | .yld _=>by simp[AV.beq]
 | .omap _=>by simp[AV.beq]
 | .oit _=>by simp[AV.beq]
 | .unk _=>by simp[AV.beq]
 | .nili=>rfl
 | .nilm=>rfl
theorem AV.beqs_refl:∀x:List AV,AV.beqs x x=true
 | []=>rfl
 |x::r=>by simp[AV.beqs,AV.beq_refl x,AV.beqs_refl r]
end
@[simp] theorem beqH_arr (v s:Nat) (h:Bool) (e:List AV) (r t:Heap):beqH (.arr v s h e::r) (.arr v s h e::t)=beqH r t:=by
 simp[beqH,Blk.beq,AV.beqs_refl]
@[simp] theorem beqH_nil:beqH [] []=true:=rfl
theorem za0 (H:Heap) (z:Nat) (n:Int):ex H (.app 1) [.isl (some true) z [],.isl (some false) 1 [.int .i64 n]]=some (.osl H.length 0 0 1,H++[.arr 0 1 false [I n]]):=by
 simp[ex,zb3,truncH,zaA,zaH]
theorem zE {H:Heap} {id ver:Nat} {l:List Int} (h:H[id]?=some (.arr ver 1 false (l.map I))) (hl:l.length≤1048576) (n:Int):
  ex H (.app 1) [.osl id ver 0 l.length,.isl (some false) 1 [.int .i64 n]]=some (.osl id (ver+1) 0 (l.length+1),H.set id (.arr (ver+1) 1 false ((l++[n]).map I))):=by
 have ht:truncH H (.osl id ver 0 l.length)=H:=by simp[truncH,h]
 have hr:l.length+1≤zaA:=by simp[zaA];omega
 simp[ex,zaH,ht,zb3,h,hr]
theorem zaX {H:Heap} {n id v len:Nat} {l:List Int} (hb:H[id]?=some (.arr v 1 false (l.map I))) (hl:len=l.length):frz H (n+1) (.osl id v 0 len)=some (Sl.av I 1 (ofL 1 l)):=by
 rw[zdJ hb (by simp[hl]) (zbn (by simp) l),zcs]
@[simp] theorem crSetO (a b c d:Int) (l:Sl Int) (e:Bool) (i j k n:Nat):ze [(Cr.mk a b c d l e).av] 0 4 (.osl i j k n)=some [.agg [I a,I b,I c,I d,.osl i j k n,.bool e]]:=rfl
@[simp] theorem crSetI (a b c d e f:AV) (k:IntKind) (x:Int):ze [.agg [a,b,c,d,e,f]] 0 2 (.int k x)=some [.agg [a,b,.int k x,d,e,f]]:=rfl
@[simp] theorem crSetT (a b c d e f:AV) (k:IntKind) (x:Int):ze [.agg [a,b,c,d,e,f]] 0 3 (.int k x)=some [.agg [a,b,c,.int k x,e,f]]:=rfl
theorem e89 (c:Cr) (hc:SlN c.items) (n:Int):∃c':Cr,W.pure 89 [c.av,I n]=some (.tuple [c'.av,I (zbo c.pl n).2])∧c'.pl=(zbo c.pl n).1∧SlN c'.items:=by
 have hl:=hc.len
 have c1:=e137 c hl
 by_cases h:crI c.pl=0
 rotate_left
 .have hr:zbo c.pl n=(crZ,crI c.pl):=by unfold zbo;rw[if_pos h]
  rw[hr]
  refine⟨zCr,?_,rfl,zu⟩
  rw[zd Φ89 (by simp)]
  simp[fi89,c89,zj Φ125,zcz,c125,c1,h,←zak]
 rw[h]at c1
 have hv:=(zbb _).1 h
 have g1:=hv.sg;have g2:=hv.gm;have g3:=hv.t0;have g4:=hv.ts;have g5:=hv.c1;have g6:=hv.c2;have g7:=hv.gc;have g8:=hv.len
 rw[Cr.pl_mk]at h⊢
 simp only[Cr.pl]at g1 g2 g3 g4 g5 g6 g7 g8
 have c2:=e124 n (-1099511627776) 1099511627776
 have hn:isIt n=(decide (-1099511627776≤n)&&decide (n≤1099511627776)):=rfl
 rw[←hn]at c2
 cases h1:isIt n with
 |false=>
  rw[h1]at c2
  have hr:zbo ⟨c.cap,c.granted,c.sent,c.taken,c.items.l,c.closed⟩ n=(crZ,2):=by unfold zbo;rw[if_neg (by simp[h]),if_pos h1]
  rw[hr]
  refine⟨zCr,?_,rfl,zu⟩
  rw[zd Φ89 (by simp)]
  simp[fi89,c89,zj Φ125,zcz,c125,zj Φ138,ziH,c138,c1,c2,←zak]
 |true=>
 rw[h1]at c2
 cases h2:c.closed with
 |true=>
  rw[h2]at h
  have hr:zbo ⟨c.cap,c.granted,c.sent,c.taken,c.items.l,true⟩ n=(crZ,19):=by unfold zbo;rw[if_neg (by simp[h]),if_neg (by simp[h1]),if_pos rfl]
  rw[hr]
  refine⟨zCr,?_,rfl,zu⟩
  rw[zd Φ89 (by simp)]
  simp[fi89,c89,zj Φ125,zcz,c125,zj Φ138,ziH,c138,c1,c2,h2,←zak]
 |false=>
 rw[h2]at h
 by_cases h3:c.sent=c.granted
 .have hr:zbo ⟨c.cap,c.granted,c.sent,c.taken,c.items.l,false⟩ n=(crZ,18):=by unfold zbo;rw[if_neg (by simp[h]),if_neg (by simp[h1]),if_neg (by simp),if_pos h3]
  rw[hr]
  refine⟨zCr,?_,rfl,zu⟩
  rw[zd Φ89 (by simp)]
  simp[fi89,c89,zj Φ125,zcz,c125,zj Φ138,ziH,c138,c1,c2,h2,h3,←zak]
 have w1:IntKind.wrap .i64 (c.sent+1)=c.sent+1:=zr (by omega) (by omega)
 have hr:zbo ⟨c.cap,c.granted,c.sent,c.taken,c.items.l,false⟩ n=(⟨c.cap,c.granted,c.sent+1,c.taken,c.items.l++[n],false⟩,0):=by unfold zbo;rw[if_neg (by simp[h]),if_neg (by simp[h1]),if_neg (by simp),if_neg h3]
 rw[hr]
 have hlen:(c.items.l++[n]).length≤1048576:=by simp;omega
 refine⟨⟨c.cap,c.granted,c.sent+1,c.taken,ofL 1 (c.items.l++[n]),false⟩,?_,rfl,zO hlen⟩
 rw[zd Φ89 (by simp)]
 have k1:=zo7 c.items hc
 obtain⟨a1,a2,a3,a4,⟨nl,z,l⟩,a6⟩:=c
 simp only at *
 subst h2
 rcases hc.1 with⟨b1,b2⟩|b1
 .simp only at b1 b2;subst b1;subst b2
  simp[zaN]at k1
  have k3:∀H:Heap,H[7]?=some (.arr 0 1 false [I n])→frz H 6 (.osl 7 0 0 1)=some (Sl.av I 1 (ofL 1 [n])):=fun H h=>zaX (l:=[n]) h rfl
  simp[fi89,c89,zj Φ125,zcz,c125,zj Φ138,ziH,c138,c1,c2,h3,k1,w1,za0,k3]
  rfl
 .simp only at b1;subst b1
  simp[zaN]at k1
  have k2:=fun H h=>zE (H:=H) (id:=7) (ver:=l.length) (l:=l) h hc.2 n
  have k3:∀H:Heap,H[7]?=some (.arr (l.length+1) 1 false (l.map I++[I n]))→frz H 6 (.osl 7 (l.length+1) 0 (l.length+1))=some (Sl.av I 1 (ofL 1 (l++[n]))):=fun H h=>zaX (l:=l++[n]) (by rw[h];simp) (by simp)
  simp[fi89,c89,zj Φ125,zcz,c125,zj Φ138,ziH,c138,c1,c2,h3,k1,w1,k2,k3]
  rfl
theorem zvM {H:Heap} {id:Nat} {l:List Int} (nl:Option Bool) (h:H[id]?=some (.arr 0 1 false (List.replicate l.length (.int .i64 0)))):
  ex H .cpy [.osl id 0 0 l.length,.isl nl 1 (l.map I)]=some (.int .i64 l.length,H.set id (.arr 0 1 false (l.map I))):=by
 simp[ex,h,zaH]
theorem e88 (c:Cr) (hc:SlN c.items):∃c':Cr,W.pure 88 [c.av]=some (.tuple [c'.av,I (za6 c.pl).2.1,I (za6 c.pl).2.2])∧c'.pl=(za6 c.pl).1∧SlN c'.items:=by
 have hl:=hc.len
 have c1:=e137 c hl
 by_cases h:crI c.pl=0
 rotate_left
 .have hr:za6 c.pl=(crZ,0,crI c.pl):=by unfold za6;rw[if_pos h]
  rw[hr]
  refine⟨zCr,?_,rfl,zu⟩
  rw[zd Φ88 (by simp)]
  simp[fi88,c88,c1,h,←zak]
 rw[h]at c1
 have hv:=(zbb _).1 h
 have g1:=hv.sg;have g2:=hv.gm;have g3:=hv.t0;have g4:=hv.ts;have g5:=hv.c1;have g6:=hv.c2;have g7:=hv.gc;have g8:=hv.len
 rw[Cr.pl_mk]at h⊢
 simp only[Cr.pl]at g1 g2 g3 g4 g5 g6 g7 g8
 obtain⟨a1,a2,a3,a4,⟨nl,z,l⟩,a6⟩:=c
 simp only at *
 cases l with
 |nil=>
  cases a6 with
  |true=>
   have hr:za6 ⟨a1,a2,a3,a4,[],true⟩=(crZ,0,19):=by unfold za6;rw[if_neg (by simp[h])];rfl
   rw[hr]
   refine⟨zCr,?_,rfl,zu⟩
   rw[zd Φ88 (by simp)]
   simp[fi88,c88,c1,←zak]
  |false=>
   have hr:za6 ⟨a1,a2,a3,a4,[],false⟩=(crZ,0,23):=by unfold za6;rw[if_neg (by simp[h])];rfl
   rw[hr]
   refine⟨zCr,?_,rfl,zu⟩
   rw[zd Φ88 (by simp)]
   simp[fi88,c88,c1,←zak]
 |cons a r=>
  have hr:za6 ⟨a1,a2,a3,a4,a::r,a6⟩=(⟨a1,a2,a3,a4+1,r,a6⟩,a,0):=by unfold za6;rw[if_neg (by simp[h])]
  rw[hr]
  have hlr:r.length≤1048576:=by have:=hc.2;simp at this;omega
  refine⟨⟨a1,a2,a3,a4+1,ofL 1 r,a6⟩,?_,rfl,zO hlr⟩
  rw[zd Φ88 (by simp)]
  have hne:¬((r.length:Int)+1=0):=by omega
  have w1:IntKind.wrap .i64 (a4+1)=a4+1:=zr (by omega) (by simp only[lLc]at g8;omega)
  have w2:IntKind.wrap .i64 ((r.length:Int)+1 - 1)=r.length:=by rw[zr]<;>omega
  have w3:IntKind.wrap .i64 (r.length:Int)=r.length:=by rw[zr]<;>omega
  have hle:(r.length:Int)≤1048576:=by omega
  have h1:(1:Int)≤r.length+1:=by omega
  have hT:List.take r.length (List.map I r)=r.map I:=List.take_of_length_le (by simp)
  have k1:=fun H h=>zvM (H:=H) (id:=2) (l:=r) nl h
  have k3:∀H:Heap,H[2]?=some (.arr 0 1 false (r.map I))→frz H 6 (.osl 2 0 0 r.length)=some (Sl.av I 1 (ofL 1 r)):=fun H h=>zaX (l:=r) h rfl
  simp[fi88,c88,c1,hne,w1,w2,w3,hle,h1,hT,k1,k3]
  rfl
abbrev bL (l:Sl Bnd):AV:=Sl.av Bnd.av 3 l
def bZ:Bnd:=⟨[],0,0⟩
theorem zsd:(.agg [.str [],I 0,I 0]:AV)=bZ.av:=rfl
theorem zvT (b:Bnd) (n:List UInt8) (id:Nat) (H:Heap) (h:H[id]?=some (.arr 0 1 false [.str n])):W.call (.clo 267 [] [.optr id 0 0 0]) [b.av] H=some (.bool (decide (b.name=n)),H++[.arr 0 3 false [b.av]]):=by
 rw[zj Φ267]
 have p1:∀B,(H++[B])[id]?=some (.arr 0 1 false [.str n]):=zaf h
 by_cases hn:b.name=n<;>simp[zrk,c267,p1,hn,zM,zL, -getElem?_pos,gEz]
theorem ziE {α:Type} (p:α→Bool):∀l:List α,match fidx p l with|some j=>∃a,l[j]?=some a∧l.find? p=some a|none=>l.find? p=none
 | []=>rfl
 |a::r=>by
  have ih:=ziE p r
  cases h:p a with
  |true=>simp[fidx,h]
  |false=>
   cases hf:fidx p r with
   |none=>rw[hf]at ih;simp[fidx,h,hf,ih]
   |some j=>rw[hf]at ih;obtain⟨b,h1,h2⟩:=ih;simp[fidx,h,hf,h1,h2]
theorem e235 (l:Sl Bnd) (hl:l.l.length≤9223372036854775807) (n:List UInt8):W.pure 235 [bL l,.str n]=some (.tuple [((zaq l.l n).getD bZ).av,.bool (zaq l.l n).isSome]):=by
 rw[zd Φ235 rfl]
 obtain⟨v,H',d1,rfl,d2⟩:=zz.1 (zxj l hl (.clo 267 [] [.optr 0 0 0 0]) rfl (fun b=>decide (b.name=n)) [.arr 0 1 false [.str n],.arr 0 3 false [bZ.av]] (fun a _ H hk=>by
  have:H[0]?=some (.arr 0 1 false [.str n]):=hk.get (by simp) rfl
  rw[zvT a n 0 H this]
  exact⟨rfl,Kept.append _ _ _⟩))
 have g1:H'[1]?=some (.arr 0 3 false [bZ.av]):=d2.get (by simp) rfl
 have s1:∀B,(H'.set 1 B)[1]?=some B:=fun B=>gEt (by have:=d2.1;simp at this;omega)
 have hf:=ziE (fun b:Bnd=>decide (b.name=n)) l.l
 unfold zaq
 cases hx:fidx (fun b:Bnd=>decide (b.name=n)) l.l with
 |none=>
  rw[hx]at hf d1
  simp only at hf d1
  rw[hf]
  simp[zog,c235,zsd,d1,g1,s1, -getElem?_pos,gEz]
 |some j=>
  rw[hx]at hf d1
  obtain⟨a,h1,h2⟩:=hf
  simp only at d1
  rw[h2]
  have hj:¬((j:Int)<0):=by omega
  simp[zog,c235,zsd,d1,g1,s1,h1,hj, -getElem?_pos,gEz]
theorem zcU {e:Ex} (h:zU e=0):(e.kind=1∧e.args.l=[])∨(e.kind=2∧e.args.l=[])∨(e.kind=3∧(e.op=1∨e.op=2)∧∃a,e.args.l=[a])∨(e.kind=4∧3≤e.op∧e.op≤15∧∃a b,e.args.l=[a,b]):=by
 unfold zU at h
 split at h
 .cases h
 rename_i h1
 split at h
 .cases h
 rename_i h2
 split at h
 .cases h
 split at h
 .cases h
 split at h
 .cases h
 rename_i h5
 have hs:zaG e=true:=by cases hh:zaG e with|true=>rfl|false=>exact absurd hh h2
 simp only[zaG,bAt,dTe]at hs
 have hl:=hs.2
 have hk:e.kind=1∨e.kind=2∨e.kind=3∨e.kind=4:=by omega
 rcases hk with hk|hk|hk|hk
 .left
  simp only[hk]at hl
  exact⟨hk,List.length_eq_zero_iff.1 (by simpa using hl)⟩
 .right;left
  simp only[hk]at hl
  exact⟨hk,List.length_eq_zero_iff.1 (by simpa using hl)⟩
 .right;right;left
  simp only[hk]at hl
  have hl1:e.args.l.length=1:=by simp at hl;omega
  refine⟨hk,by omega,?_⟩
  match hm:e.args.l,hl1 with
  | [a],_=>exact⟨a,rfl⟩
 .right;right;right
  simp only[hk]at hl
  have hl1:e.args.l.length=2:=by simp at hl;omega
  refine⟨hk,by omega,by omega,?_⟩
  match hm:e.args.l,hl1 with
  | [a,b],_=>exact⟨a,b,rfl⟩
def ExV (e:Ex):Prop:=∀x∈e.parts,zU x=0
theorem ExV.of {e:Ex} (h:zF e=0):ExV e:=by
 unfold zF at h
 split at h
 .cases h
 .split at h
  .cases h
  .exact zr0.1 h
theorem ExV.arg {e:Ex} (h:ExV e) {a:Ex} (ha:a∈e.args.l):ExV a:=by
 intro x hx
 refine h x ?_
 rw[Ex.parts_eq]
 have key:∀l:List Ex,a∈l→x∈Ex.partss l:=by
  intro l
  induction l with
  |nil=>intro h;cases h
  |cons b r ih=>
   intro h
   simp only[Ex.partss,List.mem_append]
   rcases lMc.1 h with rfl|h
   .exact .inl hx
   .exact .inr (ih h)
 exact List.mem_cons_of_mem _ (key _ ha)
theorem ExV.head {e:Ex} (h:ExV e):zU e=0:=h e (by rw[Ex.parts_eq];simp)
theorem zs8 (L:AV) (hL:okO L=some L) (x:Sl Ex) (hx:x.l=[]) (B:Blk):
  okC (W.loop [1,2,6,16,17,18] zim [(1,L),(2,.optr 0 0 0 0),(6,.isl (some true) 0 []),(16,Sl.av Ex.av 5 x),(17,I 0),(18,I 0)] [B])
   (fun q F' H'=>q= .exit 0∧F'.keep [1,2,6]=[(1,L),(2,.optr 0 0 0 0),(6,.isl (some true) 0 [])]∧H'=[B]):=by
 rw[zb]
 simp[zby,zcZ,hL]
theorem zww (L:AV) (hL:okO L=some L) (x:Sl Ex) (a:Ex) (hx:x.l=[a]) (B:Blk) (t f:Int) (h:W.pure 216 [a.av,L]=some (.tuple [I t,I f])):
  okC (W.loop [1,2,6,16,17,18] zim [(1,L),(2,.optr 0 0 0 0),(6,.isl (some true) 0 []),(16,Sl.av Ex.av 5 x),(17,I 1),(18,I 0)] [B])
   (fun q F' H'=>if f=0 then q= .exit 0∧F'.keep [1,2,6]=[(1,L),(2,.optr 0 0 0 0),(6,.osl 2 0 0 1)]∧H'=[B,.arr 0 5 false [a.av],.arr 0 1 false [I t]] else q= .ret∧F'.get 4=I 0∧F'.get 5=I f):=by
 have w:IntKind.wrap .i64 1=1:=zr (by omega) (by omega)
 by_cases hf:f=0
 .subst hf
  rw[zb]
  simp[zby,zcZ,hL,hx,h,za0,w]
  rw[zb]
  simp[zby,zcZ,hL,hx]
 .rw[zb]
  simp[zby,zcZ,hL,hx,h,hf]
theorem zwv (L:AV) (hL:okO L=some L) (x:Sl Ex) (a b:Ex) (hx:x.l=[a,b]) (B:Blk) (t f u g:Int) (h:W.pure 216 [a.av,L]=some (.tuple [I t,I f])) (h':W.pure 216 [b.av,L]=some (.tuple [I u,I g])):
  okC (W.loop [1,2,6,16,17,18] zim [(1,L),(2,.optr 0 0 0 0),(6,.isl (some true) 0 []),(16,Sl.av Ex.av 5 x),(17,I 2),(18,I 0)] [B])
   (fun q F' H'=>if f=0 then (if g=0 then q= .exit 0∧F'.keep [1,2,6]=[(1,L),(2,.optr 0 0 0 0),(6,.osl 2 1 0 2)]∧H'=[B,.arr 0 5 false [a.av],.arr 1 1 false [I t,I u],.arr 0 5 false [b.av]] else q= .ret∧F'.get 4=I 0∧F'.get 5=I g) else q= .ret∧F'.get 4=I 0∧F'.get 5=I f):=by
 have w:IntKind.wrap .i64 1=1:=zr (by omega) (by omega)
 have w2:IntKind.wrap .i64 2=2:=zr (by omega) (by omega)
 by_cases hf:f=0
 .subst hf
  rw[zb]
  simp[zby,zcZ,hL,hx,h,za0,w]
  rw[zb]
  by_cases hg:g=0
  .subst hg
   have k2:=fun H hh=>zE (H:=H) (id:=2) (ver:=0) (l:=[t]) hh (by simp) u
   simp at k2
   simp[zby,zcZ,hL,hx,h',k2,w2]
   rw[zb]
   simp[zby,zcZ,hL,hx]
  .simp[zby,zcZ,hL,hx,h',hg]
 .rw[zb]
  simp[zby,zcZ,hL,hx,h,hf]
theorem zA1 (l:Sl Bnd) (hl:l.l.length≤9223372036854775807):∀e:Ex,ExV e→W.pure 216 [e.av,bL l]=some (.tuple [I (tyE l.l e).1,I (tyE l.l e).2]):=by
 refine Ex.ind (fun e ih=>?_)
 intro he
 rw[zd Φ216 (by simp),zcA]
 have hL:okO (bL l)=some (bL l):=by simp
 rcases zcU he.head with⟨hk,ha⟩|⟨hk,ha⟩|⟨hk,ho,a,ha⟩|⟨hk,ho1,ho2,a,b,ha⟩
 .obtain⟨q,F',H',d1,rfl,d2,rfl⟩:=zc.1 (zs8 (bL l) hL e.args ha (.arr 0 5 false [e.av]))
  simp[zdt,c216,ha,d1,d2,hk,tyEs,zaY]
 .obtain⟨q,F',H',d1,rfl,d2,rfl⟩:=zc.1 (zs8 (bL l) hL e.args ha (.arr 0 5 false [e.av]))
  have c1:=e235 l hl e.name
  cases hf:zaq l.l e.name with
  |none=>rw[hf]at c1;simp at c1;simp[zdt,c216,ha,d1,d2,hk,tyEs,zaY,c1,hf]
  |some b=>rw[hf]at c1;simp at c1;simp[zdt,c216,ha,d1,d2,hk,tyEs,zaY,c1,hf]
 .have h1:=ih a (by rw[ha];simp) (he.arg (by rw[ha];simp))
  obtain⟨q,F',H',d1,d2⟩:=zc.1 (zww (bL l) hL e.args a ha (.arr 0 5 false [e.av]) _ _ h1)
  by_cases hf:(tyE l.l a).2=0
  .rw[if_pos hf]at d2
   obtain⟨rfl,d2,rfl⟩:=d2
   have ets:tyEs l.l e.args.l= .inr [(tyE l.l a).1]:=by rw[ha];simp[tyEs,hf]
   rw[ets]
   generalize (tyE l.l a).1=t at *
   rcases ho with ho|ho
   .by_cases ht:t=1<;>simp[zdt,c216,ha,d1,d2,hk,zaY,ho,ht]
   .by_cases ht:t=2<;>simp[zdt,c216,ha,d1,d2,hk,zaY,ho,ht]
  .rw[if_neg hf]at d2
   obtain⟨rfl,d2,d3⟩:=d2
   have ets:tyEs l.l e.args.l= .inl (tyE l.l a).2:=by rw[ha];simp[tyEs,hf]
   rw[ets]
   simp[zdt,c216,ha,d1,d2,d3]
 .have h1:=ih a (by rw[ha];simp) (he.arg (by rw[ha];simp))
  have h2:=ih b (by rw[ha];simp) (he.arg (by rw[ha];simp))
  obtain⟨q,F',H',d1,d2⟩:=zc.1 (zwv (bL l) hL e.args a b ha (.arr 0 5 false [e.av]) _ _ _ _ h1 h2)
  by_cases hf:(tyE l.l a).2=0
  rotate_left
  .rw[if_neg hf]at d2
   obtain⟨rfl,d2,d3⟩:=d2
   have ets:tyEs l.l e.args.l= .inl (tyE l.l a).2:=by rw[ha];simp[tyEs,hf]
   rw[ets]
   simp[zdt,c216,ha,d1,d2,d3]
  rw[if_pos hf]at d2
  by_cases hg:(tyE l.l b).2=0
  rotate_left
  .rw[if_neg hg]at d2
   obtain⟨rfl,d2,d3⟩:=d2
   have ets:tyEs l.l e.args.l= .inl (tyE l.l b).2:=by rw[ha];simp[tyEs,hf,hg]
   rw[ets]
   simp[zdt,c216,ha,d1,d2,d3]
  rw[if_pos hg]at d2
  obtain⟨rfl,d2,rfl⟩:=d2
  have ets:tyEs l.l e.args.l= .inr [(tyE l.l a).1,(tyE l.l b).1]:=by rw[ha];simp[tyEs,hf,hg]
  rw[ets]
  generalize (tyE l.l a).1=t at *
  generalize (tyE l.l b).1=u at *
  have c1:=e211
  have c2:=zgY e.op
  rw[if_pos ⟨ho1,ho2⟩]at c2
  have a1:zt0 e.op=opAr e.op:=by unfold zt0 opAr;repeat' split<;>omega
  have a2:ztZ e.op=opRs e.op:=by unfold ztZ opRs;repeat' split<;>omega
  unfold opV at c2
  rw[a1,a2]at c2
  have et:zaY l.l e.kind e.op e.name [t,u]=if t≠u∨(opAr e.op≠0∧t≠opAr e.op) then (0,15) else (opRs e.op,0):=by simp[zaY,hk]
  simp only[]
  rw[et]
  generalize opAr e.op=A at *
  generalize opRs e.op=R at *
  obtain⟨fn,hfn⟩:∃v,opFn e.op=v:=⟨_,rfl⟩
  rw[hfn]at c2
  have hfk:=zfv e.op
  rw[hfn]at hfk
  by_cases q1:t=u
  .by_cases q2:A=0
   .rcases hfk with⟨f,b',rfl⟩|rfl<;>simp[zdt,c216,ha,d1,d2,hk,c1,c2,q1,q2]
   .by_cases q3:u=A
    .rcases hfk with⟨f,b',rfl⟩|rfl<;>simp[zdt,c216,ha,d1,d2,hk,c1,c2,q1,q2,q3]
    .rcases hfk with⟨f,b',rfl⟩|rfl<;>simp[zdt,c216,ha,d1,d2,hk,c1,c2,q1,q2,q3]
  .rcases hfk with⟨f,b',rfl⟩|rfl<;>simp[zdt,c216,ha,d1,d2,hk,c1,c2,q1]
theorem zs6 (L:AV) (hL:okO L=some L) (x:Sl Ex) (hx:x.l=[]) (B:Blk):
  okC (W.loop [1,2,6,16,17,18] zik [(1,L),(2,.optr 0 0 0 0),(6,.isl (some true) 0 []),(16,Sl.av Ex.av 5 x),(17,I 0),(18,I 0)] [B])
   (fun q F' H'=>q= .exit 0∧F'.keep [1,2,6]=[(1,L),(2,.optr 0 0 0 0),(6,.isl (some true) 0 [])]∧H'=[B]):=by
 rw[zb]
 simp[zbw,zcX,hL]
theorem zws (L:AV) (hL:okO L=some L) (x:Sl Ex) (a:Ex) (hx:x.l=[a]) (B:Blk) (t f:Int) (h:W.pure 229 [a.av,L]=some (.tuple [I t,I f])):
  okC (W.loop [1,2,6,16,17,18] zik [(1,L),(2,.optr 0 0 0 0),(6,.isl (some true) 0 []),(16,Sl.av Ex.av 5 x),(17,I 1),(18,I 0)] [B])
   (fun q F' H'=>if f=0 then q= .exit 0∧F'.keep [1,2,6]=[(1,L),(2,.optr 0 0 0 0),(6,.osl 2 0 0 1)]∧H'=[B,.arr 0 5 false [a.av],.arr 0 1 false [I t]] else q= .ret∧F'.get 4=I 0∧F'.get 5=I f):=by
 have w:IntKind.wrap .i64 1=1:=zr (by omega) (by omega)
 by_cases hf:f=0
 .subst hf
  rw[zb]
  simp[zbw,zcX,hL,hx,h,za0,w]
  rw[zb]
  simp[zbw,zcX,hL,hx]
 .rw[zb]
  simp[zbw,zcX,hL,hx,h,hf]
theorem zwr (L:AV) (hL:okO L=some L) (x:Sl Ex) (a b:Ex) (hx:x.l=[a,b]) (B:Blk) (t f u g:Int) (h:W.pure 229 [a.av,L]=some (.tuple [I t,I f])) (h':W.pure 229 [b.av,L]=some (.tuple [I u,I g])):
  okC (W.loop [1,2,6,16,17,18] zik [(1,L),(2,.optr 0 0 0 0),(6,.isl (some true) 0 []),(16,Sl.av Ex.av 5 x),(17,I 2),(18,I 0)] [B])
   (fun q F' H'=>if f=0 then (if g=0 then q= .exit 0∧F'.keep [1,2,6]=[(1,L),(2,.optr 0 0 0 0),(6,.osl 2 1 0 2)]∧H'=[B,.arr 0 5 false [a.av],.arr 1 1 false [I t,I u],.arr 0 5 false [b.av]] else q= .ret∧F'.get 4=I 0∧F'.get 5=I g) else q= .ret∧F'.get 4=I 0∧F'.get 5=I f):=by
 have w:IntKind.wrap .i64 1=1:=zr (by omega) (by omega)
 have w2:IntKind.wrap .i64 2=2:=zr (by omega) (by omega)
 by_cases hf:f=0
 .subst hf
  rw[zb]
  simp[zbw,zcX,hL,hx,h,za0,w]
  rw[zb]
  by_cases hg:g=0
  .subst hg
   have k2:=fun H hh=>zE (H:=H) (id:=2) (ver:=0) (l:=[t]) hh (by simp) u
   simp at k2
   simp[zbw,zcX,hL,hx,h',k2,w2]
   rw[zb]
   simp[zbw,zcX,hL,hx]
  .simp[zbw,zcX,hL,hx,h',hg]
 .rw[zb]
  simp[zbw,zcX,hL,hx,h,hf]
theorem zwU {o a b:Int} (ha:isIt a=true) (hb:isIt b=true): -4611686018427387904≤(opE o a b).1∧(opE o a b).1≤4611686018427387904:=by
 have ha':=(zo a).1 ha
 have hb':=(zo b).1 hb
 have hb1:∀c:Bool,0≤b01 c∧b01 c≤1:=fun c=>by cases c<;>simp[b01]
 unfold opE
 by_cases h:o=3
 .rw[if_pos h]
  simp only;omega
 rw[if_neg h];clear h
 by_cases h:o=4
 .rw[if_pos h]
  simp only;omega
 rw[if_neg h];clear h
 by_cases h:o=5
 .rw[if_pos h]
  split
  .simp
  .have:(a* b).natAbs≤1099511627776:=by rw[Int.natAbs_mul];omega
   simp only;omega
 rw[if_neg h];clear h
 by_cases h:o=6
 .rw[if_pos h]
  split
  .simp
  .have:(a.tdiv b).natAbs≤a.natAbs:=by rw[Int.natAbs_tdiv];exact Nat.div_le_self _ _
   simp only;omega
 rw[if_neg h];clear h
 by_cases h:o=7
 .rw[if_pos h]
  split
  .simp
  .have:(a.tmod b).natAbs≤a.natAbs:=by rw[Int.natAbs_tmod];exact Nat.mod_le _ _
   simp only;omega
 rw[if_neg h];clear h
 by_cases h:o=8
 .rw[if_pos h]
  have:=hb1 (decide (a=b));simp only;omega
 rw[if_neg h];clear h
 by_cases h:o=9
 .rw[if_pos h]
  have:=hb1 (!decide (a=b));simp only;omega
 rw[if_neg h];clear h
 by_cases h:o=10
 .rw[if_pos h]
  have:=hb1 (decide (a<b));simp only;omega
 rw[if_neg h];clear h
 by_cases h:o=11
 .rw[if_pos h]
  have:=hb1 (decide (a≤b));simp only;omega
 rw[if_neg h];clear h
 by_cases h:o=12
 .rw[if_pos h]
  have:=hb1 (decide (b<a));simp only;omega
 rw[if_neg h];clear h
 by_cases h:o=13
 .rw[if_pos h]
  have:=hb1 (decide (b≤a));simp only;omega
 rw[if_neg h];clear h
 by_cases h:o=14
 .rw[if_pos h]
  have:=hb1 (!decide (a=0)&& !decide (b=0));simp only;omega
 rw[if_neg h];clear h
 have:=hb1 (!decide (a=0)|| !decide (b=0));simp only;omega
theorem zf6 {l:List Bnd} {e:Ex} (h:(vaE l e).2=0):isIt (vaE l e).1=true:=by
 rw[zdk]at *
 split at h
 .simp only at h;subst h;rfl
 .unfold zaO at *
  exact ztr h
theorem zk2 (n:Int):isIt n= !decide (1099511627776<n.natAbs):=by
 cases h:isIt n with
 |true=>have:=(zo n).1 h;simp;omega
 |false=>
  have:¬(-1099511627776≤n∧n≤1099511627776):=fun hh=>by rw[(zo n).2 hh]at h;cases h
  simp;omega
theorem e229 (l:Sl Bnd) (hl:l.l.length≤9223372036854775807) (hv:∀b∈l.l,isIt b.value=true):∀e:Ex,ExV e→W.pure 229 [e.av,bL l]=some (.tuple [I (vaE l.l e).1,I (vaE l.l e).2]):=by
 refine Ex.ind (fun e ih=>?_)
 intro he
 rw[zd Φ229 (by simp),zdk]
 have hL:okO (bL l)=some (bL l):=by simp
 have hval:0≤e.value∧e.value≤1099511627776:=by
  have:=he.head
  unfold zU at this
  split at this
  .cases this
  split at this
  .cases this
  split at this
  .cases this
  .omega
 have fin:∀n:Int, -4611686018427387904≤n→n≤4611686018427387904→W.pure 239 [I n]=some (I n.natAbs):=e239
 rcases zcU he.head with⟨hk,ha⟩|⟨hk,ha⟩|⟨hk,ho,a,ha⟩|⟨hk,ho1,ho2,a,b,ha⟩
 .obtain⟨q,F',H',d1,rfl,d2,rfl⟩:=zc.1 (zs6 (bL l) hL e.args ha (.arr 0 5 false [e.av]))
  have c3:=fin e.value (by omega) (by omega)
  have hn:isIt e.value=true:=(zo _).2 (by omega)
  have hn2:¬(1099511627776:Int)<(e.value.natAbs:Int):=by omega
  have et:zaO l.l e.kind e.op e.name e.value []=(e.value,0):=by simp[zaO,hk,fitV,hn]
  have ets:vaEs l.l e.args.l= .inr []:=by rw[ha];rfl
  rw[ets];simp only[];rw[et]
  generalize e.value.natAbs=N at *
  simp[zdN,c229,ha,d1,d2,hk,c3,hn2]
 .obtain⟨q,F',H',d1,rfl,d2,rfl⟩:=zc.1 (zs6 (bL l) hL e.args ha (.arr 0 5 false [e.av]))
  have c1:=e235 l hl e.name
  have ets:vaEs l.l e.args.l= .inr []:=by rw[ha];rfl
  rw[ets];simp only[]
  have hb:isIt ((zaq l.l e.name).getD bZ).value=true:=by
   cases hf:zaq l.l e.name with
   |none=>rfl
   |some b=>exact hv b (List.mem_of_find?_eq_some hf)
  have et:zaO l.l e.kind e.op e.name e.value []=(((zaq l.l e.name).getD bZ).value,0):=by
   have:zaO l.l e.kind e.op e.name e.value []=fitV (((zaq l.l e.name).getD bZ).value,0):=by
    simp only[zaO,hk]
    cases zaq l.l e.name<;>rfl
   rw[this];simp[fitV,hb]
  rw[et]
  generalize ((zaq l.l e.name).getD bZ)=bb at *
  have hbb:=(zo _).1 hb
  have c3:=fin bb.value (by omega) (by omega)
  have hn2:¬(1099511627776:Int)<(bb.value.natAbs:Int):=by omega
  generalize bb.value.natAbs=N at *
  simp[zdN,c229,ha,d1,d2,hk,c1,c3,hn2]
 .have h1:=ih a (by rw[ha];simp) (he.arg (by rw[ha];simp))
  obtain⟨q,F',H',d1,d2⟩:=zc.1 (zws (bL l) hL e.args a ha (.arr 0 5 false [e.av]) _ _ h1)
  by_cases hf:(vaE l.l a).2=0
  .rw[if_pos hf]at d2
   obtain⟨rfl,d2,rfl⟩:=d2
   have hit:=(zo _).1 (zf6 hf)
   have ets:vaEs l.l e.args.l= .inr [(vaE l.l a).1]:=by rw[ha];simp[vaEs,hf]
   rw[ets];simp only[]
   generalize (vaE l.l a).1=t at *
   have w1:IntKind.wrap .i64 (0 - t)=0 - t:=zr (by omega) (by omega)
   have w1':IntKind.wrap .i64 (-t)= -t:=zr (by omega) (by omega)
   have w2:IntKind.wrap .i64 (1 - t)=1 - t:=zr (by omega) (by omega)
   rcases ho with ho|ho
   .have c3:=fin (-t) (by omega) (by omega)
    have hn:isIt (-t)=true:=(zo _).2 (by omega)
    have hn2:¬1099511627776<(-t).natAbs:=by omega
    have et:zaO l.l e.kind e.op e.name e.value [t]=(-t,0):=by simp[zaO,hk,ho,fitV,hn]
    rw[et]
    generalize hnn:(-t).natAbs=N at *
    have hn3:¬(1099511627776:Int)<N:=by omega
    simp[zdN,c229,ha,d1,d2,hk,ho,w1,w1',c3,hn3]
    try omega
   .have c3:=fin (1 - t) (by omega) (by omega)
    have ie:=zk2 (1 - t)
    by_cases hn:isIt (1 - t)=true
    .have hn2:¬1099511627776<(1 - t).natAbs:=by rw[ie]at hn;simpa using hn
     have et:zaO l.l e.kind e.op e.name e.value [t]=(1 - t,0):=by simp[zaO,hk,ho,fitV,hn]
     rw[et]
     generalize hnn:(1 - t).natAbs=N at *
     have hn3:¬(1099511627776:Int)<N:=by omega
     simp[zdN,c229,ha,d1,d2,hk,ho,w1,w1',w2,c3,hn3]
     try omega
    .have hn2:1099511627776<(1 - t).natAbs:=by rw[ie]at hn;simpa using hn
     have et:zaO l.l e.kind e.op e.name e.value [t]=(0,14):=by simp[zaO,hk,ho,fitV,hn]
     rw[et]
     generalize hnn:(1 - t).natAbs=N at *
     have hn3:(1099511627776:Int)<N:=by omega
     simp[zdN,c229,ha,d1,d2,hk,ho,w1,w1',w2,c3,hn3]
     try omega
  .rw[if_neg hf]at d2
   obtain⟨rfl,d2,d3⟩:=d2
   have ets:vaEs l.l e.args.l= .inl (vaE l.l a).2:=by rw[ha];simp[vaEs,hf]
   rw[ets]
   simp[zdN,c229,ha,d1,d2,d3]
 .have h1:=ih a (by rw[ha];simp) (he.arg (by rw[ha];simp))
  have h2:=ih b (by rw[ha];simp) (he.arg (by rw[ha];simp))
  obtain⟨q,F',H',d1,d2⟩:=zc.1 (zwr (bL l) hL e.args a b ha (.arr 0 5 false [e.av]) _ _ _ _ h1 h2)
  by_cases hf:(vaE l.l a).2=0
  rotate_left
  .rw[if_neg hf]at d2
   obtain⟨rfl,d2,d3⟩:=d2
   have ets:vaEs l.l e.args.l= .inl (vaE l.l a).2:=by rw[ha];simp[vaEs,hf]
   rw[ets]
   simp[zdN,c229,ha,d1,d2,d3]
  rw[if_pos hf]at d2
  by_cases hg:(vaE l.l b).2=0
  rotate_left
  .rw[if_neg hg]at d2
   obtain⟨rfl,d2,d3⟩:=d2
   have ets:vaEs l.l e.args.l= .inl (vaE l.l b).2:=by rw[ha];simp[vaEs,hf,hg]
   rw[ets]
   simp[zdN,c229,ha,d1,d2,d3]
  rw[if_pos hg]at d2
  obtain⟨rfl,d2,rfl⟩:=d2
  have ets:vaEs l.l e.args.l= .inr [(vaE l.l a).1,(vaE l.l b).1]:=by rw[ha];simp[vaEs,hf,hg]
  rw[ets];simp only[]
  have i1:=zf6 hf
  have i2:=zf6 hg
  generalize (vaE l.l a).1=t at *
  generalize (vaE l.l b).1=u at *
  have c1:=e211
  have c2:=zgY e.op
  rw[if_pos ⟨ho1,ho2⟩]at c2
  have c4:=zsa e.op t u ⟨ho1,ho2⟩ i1 i2
  have bd:=zwU (o:=e.op) i1 i2
  have c3:=fin _ bd.1 bd.2
  have ie:=zk2 (opE e.op t u).1
  have et:zaO l.l e.kind e.op e.name e.value [t,u]=fitV (opE e.op t u):=by simp[zaO,hk]
  rw[et]
  unfold opV at c2
  obtain⟨fn,hfn⟩:∃v,opFn e.op=v:=⟨_,rfl⟩
  have hfk:=zfv e.op
  rw[hfn]at c2 c4 hfk
  unfold fitV
  generalize (opE e.op t u).1=V at *
  generalize (opE e.op t u).2=E at *
  generalize hnn:V.natAbs=N at *
  rcases hfk with⟨f,b',rfl⟩|rfl
  .by_cases hE:E=0
   .cases hn:isIt V with
    |true=>
     have hn3:¬(1099511627776:Int)<N:=by rw[ie]at hn;simp at hn;omega
     simp[zdN,c229,ha,d1,d2,hk,c1,c2,c4,hE,c3,hn3]
     try omega
    |false=>
     have hn3:(1099511627776:Int)<N:=by rw[ie]at hn;simp at hn;omega
     simp[zdN,c229,ha,d1,d2,hk,c1,c2,c4,hE,c3,hn3]
     try omega
   .simp[zdN,c229,ha,d1,d2,hk,c1,c2,c4,hE]
  .exfalso
   have cases13:e.op=3∨e.op=4∨e.op=5∨e.op=6∨e.op=7∨e.op=8∨e.op=9∨e.op=10∨e.op=11∨e.op=12∨e.op=13∨e.op=14∨e.op=15:=by omega
   clear c1 c2 c3 c4 d1 d2 h1 h2
   generalize e.op=o at *
   rcases cases13 with rfl|rfl|rfl|rfl|rfl|rfl|rfl|rfl|rfl|rfl|rfl|rfl|rfl<;>simp[opFn]at hfn
abbrev b1L (a:Int):Sl Bnd:=ofL 3 [⟨xN,1,a⟩]
abbrev b2L (a b:Int):Sl Bnd:=ofL 3 [⟨xN,1,a⟩,⟨yN,1,b⟩]
theorem zlk (a b:Int):W.pure 168 [.isl (some false) 1 [.str [120]],.isl (some false) 1 [I a,I b]]=some (bL (b1L a)):=(zee 60).pure _ _ _ (by kernel_rfl)
theorem ztw (a b:Int):W.pure 168 [.isl (some false) 1 [.str [120],.str [121]],.isl (some false) 1 [I a,I b]]=some (bL (b2L a b)):=(zee 60).pure _ _ _ (by kernel_rfl)
theorem e151 (a b:Int):W.pure 151 [I a,I b]=some (bL (b2L a b)):=(zee 60).pure _ _ _ (by kernel_rfl)
theorem nmX:isNm xN=true:=by kernel_rfl
theorem nmY:isNm yN=true:=by kernel_rfl
theorem ltXY:zM .geq xN yN= .bool false:=by kernel_rfl
theorem zlj (a:Int) (ha:isIt a=true):W.pure 215 [bL (b1L a)]=some (.bool true):=by
 have ha':=(zo a).1 ha
 have c1:=e212 xN
 rw[nmX]at c1
 have h1:¬a< -1099511627776:=by omega
 have h2:¬1099511627776<a:=by omega
 have w:IntKind.wrap .i64 1=1:=zr (by omega) (by omega)
 obtain⟨q,F,H,d1,rfl,d2⟩:=zc.1 (show okC (W.loop [0,7,8,9] zkU [(0,bL (b1L a)),(7,bL (b1L a)),(8,I 1),(9,I 0)] []) (fun q F H=>q= .exit 0∧F.keep [0]=[(0,bL (b1L a))]) by
  rw[zb]
  simp[zdR,zfS,c1,h1,h2,w]
  rw[zb]
  simp[zdR,zfS])
 rw[zd Φ215 rfl]
 simp[zok,c215,d1,d2]
theorem ztv (a b:Int) (ha:isIt a=true) (hb:isIt b=true):W.pure 215 [bL (b2L a b)]=some (.bool true):=by
 have ha':=(zo a).1 ha
 have hb':=(zo b).1 hb
 have c1:=e212 xN
 rw[nmX]at c1
 have c2:=e212 yN
 rw[nmY]at c2
 have h1:¬a< -1099511627776:=by omega
 have h2:¬1099511627776<a:=by omega
 have h3:¬b< -1099511627776:=by omega
 have h4:¬1099511627776<b:=by omega
 have w:IntKind.wrap .i64 1=1:=zr (by omega) (by omega)
 have w2:IntKind.wrap .i64 2=2:=zr (by omega) (by omega)
 have w0:IntKind.wrap .i64 0=0:=zr (by omega) (by omega)
 have l1:=ltXY
 obtain⟨q,F,H,d1,rfl,d2⟩:=zc.1 (show okC (W.loop [0,7,8,9] zkU [(0,bL (b2L a b)),(7,bL (b2L a b)),(8,I 2),(9,I 0)] []) (fun q F H=>q= .exit 0∧F.keep [0]=[(0,bL (b2L a b))]) by
  rw[zb]
  simp[zdR,zfS,c1,h1,h2,w]
  rw[zb]
  simp[zdR,zfS,c2,h3,h4,w2,w0,l1]
  rw[zb]
  simp[zdR,zfS])
 rw[zd Φ215 rfl]
 simp[zok,c215,d1,d2]
def tyR (l:List Bnd) (e:Ex):Int×Int:=if zF e≠0 then (0,zF e) else tyE l e
theorem e167 (l:Sl Bnd) (hl:l.l.length≤9223372036854775807) (hb:W.pure 215 [bL l]=some (.bool true)) (e:Ex):W.pure 167 [e.av,bL l]=some (.tuple [I (tyR l.l e).1,I (tyR l.l e).2]):=by
 rw[zd Φ167 (by simp)]
 have c1:=e153 e
 unfold tyR
 by_cases h:zF e=0
 .rw[h]at c1
  have c2:=zA1 l hl e (.of h)
  simp[zow,c167,c1,hb,c2,h]
 .simp[zow,c167,c1,h]
def evR (l:List Bnd) (e:Ex):Int×Int:=if (tyR l e).2≠0 then (0,(tyR l e).2) else vaE l e
theorem e208 (l:Sl Bnd) (hl:l.l.length≤9223372036854775807) (hb:W.pure 215 [bL l]=some (.bool true)) (hv:∀b∈l.l,isIt b.value=true) (e:Ex):W.pure 208 [e.av,bL l]=some (.tuple [I (evR l.l e).1,I (evR l.l e).2]):=by
 rw[zd Φ208 (by simp)]
 have c1:=e167 l hl hb e
 unfold evR
 by_cases h:(tyR l.l e).2=0
 .rw[h]at c1
  have h0:zF e=0:=by
   apply cBc
   intro hn
   unfold tyR at h
   rw[if_pos hn]at h
   exact hn h
  have c2:=e229 l hl hv e (.of h0)
  simp[zon,c208,c1,c2,h]
 .simp[zon,c208,c1,h]
theorem zcP {α:Type} (p:α→Bool):∀(l:List α) (k:Nat),zeK (fun _ a (_:Unit)=>if p a=true then .inl () else (.inr ():Unit⊕Unit)) k l ()=if l.all p=true then .inl () else .inr ()
 | [],k=>rfl
 |a::r,k=>by
  simp only[zeK,List.all_cons]
  by_cases h:p a=true
  .simpa[h]using zcP p r (k+1)
  .simp[h]
theorem e94 (n:Int):W.pure 94 [I n]=some (.bool (isIt n)):=by
 rw[zd Φ94 rfl]
 unfold isIt
 by_cases h1: -1099511627776≤n<;>simp[fi94,c94,h1]
theorem zw4 (c:Cr) (hc:SlN c.items):okC (W.loop [1,3] zqY [(1,.optr 0 0 0 0),(3,I 0)] [.arr 0 6 false [c.av]])
  (fun x F G=>if c.items.l.all isIt=true then x= .exit 0 else x= .ret∧F.get 2=I 1):=by
 have hL:=zce (Φ:=Φ) (live:=[1,3]) (L:=zqY) c.items.l (fun _ a (_:Unit)=>if isIt a=true then .inl () else (.inr ():Unit⊕Unit))
  (fun k _ F G=>F=[(1,.optr 0 0 0 0),(3,I k)]∧G=[.arr 0 6 false [c.av]]) (fun _ x F G=>x= .ret∧F.get 2=I 1) (fun _ x F G=>x= .exit 0) (s:=())
  (F:=[(1,.optr 0 0 0 0),(3,I 0)]) (H:=[.arr 0 6 false [c.av]]) ⟨rfl,rfl⟩ ?_ ?_
 .rw[zcP]at hL
  cases h:c.items.l.all isIt with
  |true=>rw[h]at hL;simp only[if_true]at hL⊢;exact hL
  |false=>rw[h]at hL;simp only[bFt,if_false]at hL⊢;exact hL
 .rintro k a ⟨⟩ F G hk ha ⟨rfl,rfl⟩
  have hka:c.items.l[k]=a:=(gEs.1 ha).2
  have hk':(k:Int)<c.items.l.length:=by omega
  have hw:=zg (k:=k) (by have:=hc.2;omega)
  have c1:=e94 a
  cases hp:isIt a with
  |true=>rw[hp]at c1;simp[zjV,zpm,hk,hk',hka,c1,hw]
  |false=>rw[hp]at c1;simp[zjV,zpm,hk,hk',hka,c1,hw]
 .rintro⟨⟩ F G ⟨rfl,rfl⟩
  simp[zjV,zpm]
theorem e56 (c:Cr) (hc:SlN c.items):W.pure 56 [c.av]=some (I (crI c.pl)):=by
 rw[zd Φ56 (by simp),Cr.pl_mk]
 by_cases h0:c.cap<1
 .have hr:crI ⟨c.cap,c.granted,c.sent,c.taken,c.items.l,c.closed⟩=2:=by unfold crI;rw[if_pos (.inl h0)]
  rw[hr];simp[fi56,c56,h0]
 by_cases h0':100<c.cap
 .have hr:crI ⟨c.cap,c.granted,c.sent,c.taken,c.items.l,c.closed⟩=2:=by unfold crI;rw[if_pos (.inr h0')]
  rw[hr];simp[fi56,c56,h0,h0']
 by_cases h1:c.taken<0
 .have hr:crI ⟨c.cap,c.granted,c.sent,c.taken,c.items.l,c.closed⟩=1:=by unfold crI;rw[if_neg (by simp only;omega),if_pos (by simp only;omega)]
  rw[hr];simp[fi56,c56,h0,h0',h1]
 by_cases h2:c.sent<c.taken
 .have hr:crI ⟨c.cap,c.granted,c.sent,c.taken,c.items.l,c.closed⟩=1:=by unfold crI;rw[if_neg (by simp only;omega),if_pos (by simp only;omega)]
  rw[hr];simp[fi56,c56,h0,h0',h1,h2]
 by_cases h3:c.granted<c.sent
 .have hr:crI ⟨c.cap,c.granted,c.sent,c.taken,c.items.l,c.closed⟩=1:=by unfold crI;rw[if_neg (by simp only;omega),if_pos (by simp only;omega)]
  rw[hr];simp[fi56,c56,h0,h0',h1,h2,h3]
 by_cases h4:1099511627776<c.granted
 .have hr:crI ⟨c.cap,c.granted,c.sent,c.taken,c.items.l,c.closed⟩=1:=by unfold crI;rw[if_neg (by simp only;omega),if_pos (by simp only;omega)]
  rw[hr];simp[fi56,c56,h0,h0',h1,h2,h3,h4]
 have w1:IntKind.wrap .i64 (c.taken+c.cap)=c.taken+c.cap:=zr (by omega) (by omega)
 have w2:IntKind.wrap .i64 (c.sent - c.taken)=c.sent - c.taken:=zr (by omega) (by omega)
 by_cases h5:c.taken+c.cap<c.granted
 .have hr:crI ⟨c.cap,c.granted,c.sent,c.taken,c.items.l,c.closed⟩=1:=by unfold crI;rw[if_neg (by simp only;omega),if_pos (by simp only;omega)]
  rw[hr];simp[fi56,c56,h0,h0',h1,h2,h3,h4,w1,h5]
 by_cases h6:(c.items.l.length:Int)=c.sent - c.taken
 rotate_left
 .have hr:crI ⟨c.cap,c.granted,c.sent,c.taken,c.items.l,c.closed⟩=1:=by unfold crI;rw[if_neg (by simp only;omega),if_pos (by simp only;omega)]
  rw[hr];simp[fi56,c56,h0,h0',h1,h2,h3,h4,w1,w2,h5,h6]
 obtain⟨x,F,G,d1,d2⟩:=zc.1 (zw4 c hc)
 have hr:crI ⟨c.cap,c.granted,c.sent,c.taken,c.items.l,c.closed⟩=if c.items.l.all isIt=true then 0 else 1:=by
  unfold crI;rw[if_neg (by simp only;omega),if_neg (by simp only;omega)]
 rw[hr]
 cases ha:c.items.l.all isIt with
 |true=>
  rw[ha]at d2
  simp only[if_true]at d2
  subst d2
  simp[fi56,c56,h0,h0',h1,h2,h3,h4,w1,w2,h5,h6,d1]
 |false=>
  rw[ha]at d2
  simp only[bFt,if_false]at d2
  obtain⟨rfl,d3⟩:=d2
  simp[fi56,c56,h0,h0',h1,h2,h3,h4,w1,w2,h5,h6,d1,d3]
theorem e58 (c:Cr) (hc:SlN c.items):W.pure 58 [c.av]=some (.bool (endC c.pl)):=by
 rw[zd Φ58 (by simp)]
 have c1:=e56 c hc
 by_cases h:crI c.pl=0
 .rw[h]at c1
  have e1:endC c.pl=(c.closed&&c.items.l.isEmpty):=by unfold endC;rw[h];simp[Cr.pl]
  rw[e1]
  cases h2:c.closed<;>cases h3:c.items.l<;>simp[fi58,c58,c1,h2,h3]
  omega
 .simp[fi58,c58,c1,endC,h]
theorem e87 (c:Cr) (hc:SlN c.items):W.pure 87 [c.av]=some (I (zd6 c.pl)):=by
 rw[zd Φ87 (by simp)]
 have c1:=e56 c hc
 by_cases h:crI c.pl=0
 .rw[h]at c1
  have hv:=(zbb _).1 h
  have w1:IntKind.wrap .i64 (c.granted - c.sent)=c.granted - c.sent:=by
   have h1:=hv.sg;have h2:=hv.gm;have h3:=hv.t0;have h4:=hv.ts
   simp only[Cr.pl]at h1 h2 h3 h4
   exact zr (by omega) (by omega)
  have hpl:c.pl.closed=c.closed:=rfl
  cases h2:c.closed<;>simp[fi87,c87,c1,zd6,h,hpl,h2,w1]
  rfl
 .simp[fi87,c87,c1,zd6,h]
theorem e83 (c:Cr) (hc:SlN c.items) (n:Int):∃c':Cr,W.pure 83 [c.av,I n]=some (.tuple [c'.av,I (reqC c.pl n).2])∧c'.pl=(reqC c.pl n).1∧SlN c'.items:=by
 have c1:=e56 c hc
 by_cases h:crI c.pl=0
 rotate_left
 .have hr:reqC c.pl n=(crZ,crI c.pl):=by unfold reqC;rw[if_pos h]
  rw[hr]
  refine⟨zCr,?_,rfl,zu⟩
  rw[zd Φ83 (by simp)]
  simp[fi83,c83,c1,h,←zak]
 rw[h]at c1
 have hv:=(zbb _).1 h
 have g1:=hv.sg;have g2:=hv.gm;have g3:=hv.t0;have g4:=hv.ts;have g5:=hv.c1;have g6:=hv.c2;have g7:=hv.gc
 rw[Cr.pl_mk]at h⊢
 simp only[Cr.pl]at g1 g2 g3 g4 g5 g6 g7
 by_cases h1:n<1
 .have hr:reqC ⟨c.cap,c.granted,c.sent,c.taken,c.items.l,c.closed⟩ n=(crZ,2):=by unfold reqC;rw[if_neg (by simp[h]),if_pos h1]
  rw[hr]
  refine⟨zCr,?_,rfl,zu⟩
  rw[zd Φ83 (by simp)]
  simp[fi83,c83,c1,h1,←zak]
 cases h2:c.closed with
 |true=>
  rw[h2]at h
  have hr:reqC ⟨c.cap,c.granted,c.sent,c.taken,c.items.l,true⟩ n=(crZ,19):=by unfold reqC;rw[if_neg (by simp[h]),if_neg h1,if_pos rfl]
  rw[hr]
  refine⟨zCr,?_,rfl,zu⟩
  rw[zd Φ83 (by simp)]
  simp[fi83,c83,c1,h1,h2,←zak]
 |false=>
 rw[h2]at h
 have w1:IntKind.wrap .i64 (c.taken+c.cap)=c.taken+c.cap:=zr (by omega) (by omega)
 have w2:IntKind.wrap .i64 (c.taken+c.cap - c.granted)=c.taken+c.cap - c.granted:=zr (by omega) (by omega)
 by_cases h3:c.taken+c.cap - c.granted<n
 .have hr:reqC ⟨c.cap,c.granted,c.sent,c.taken,c.items.l,false⟩ n=(crZ,18):=by unfold reqC;rw[if_neg (by simp[h]),if_neg h1,if_neg (by simp),if_pos h3]
  rw[hr]
  refine⟨zCr,?_,rfl,zu⟩
  rw[zd Φ83 (by simp)]
  simp[fi83,c83,c1,h1,h2,w1,w2,h3,←zak]
 have w3:IntKind.wrap .i64 (c.granted+n)=c.granted+n:=zr (by omega) (by omega)
 by_cases h4:1099511627776<c.granted+n
 .have hr:reqC ⟨c.cap,c.granted,c.sent,c.taken,c.items.l,false⟩ n=(crZ,4):=by unfold reqC;rw[if_neg (by simp[h]),if_neg h1,if_neg (by simp),if_neg h3,if_pos h4]
  rw[hr]
  refine⟨zCr,?_,rfl,zu⟩
  rw[zd Φ83 (by simp)]
  simp[fi83,c83,c1,h1,h2,w1,w2,h3,w3,h4,←zak]
 .have hr:reqC ⟨c.cap,c.granted,c.sent,c.taken,c.items.l,false⟩ n=(⟨c.cap,c.granted+n,c.sent,c.taken,c.items.l,false⟩,0):=by unfold reqC;rw[if_neg (by simp[h]),if_neg h1,if_neg (by simp),if_neg h3,if_neg h4]
  rw[hr]
  refine⟨{c with granted:=c.granted+n},?_,by simp[Cr.pl,h2],hc⟩
  rw[zd Φ83 (by simp)]
  simp[fi83,c83,c1,h1,h2,w1,w2,h3,w3,h4]
theorem e52 (c:Cr) (hc:SlN c.items):∃c':Cr,W.pure 52 [c.av]=some (.tuple [c'.av,I (za4 c.pl).2])∧c'.pl=(za4 c.pl).1∧SlN c'.items:=by
 have c1:=e56 c hc
 by_cases h:crI c.pl=0
 rotate_left
 .have hr:za4 c.pl=(crZ,crI c.pl):=by unfold za4;rw[if_pos h]
  rw[hr]
  refine⟨zCr,?_,rfl,zu⟩
  rw[zd Φ52 (by simp)]
  simp[fi52,c52,c1,h,←zak]
 rw[h]at c1
 rw[Cr.pl_mk]at h⊢
 cases h2:c.closed with
 |true=>
  rw[h2]at h
  have hr:za4 ⟨c.cap,c.granted,c.sent,c.taken,c.items.l,true⟩=(crZ,19):=by unfold za4;rw[if_neg (by simp[h]),if_pos rfl]
  rw[hr]
  refine⟨zCr,?_,rfl,zu⟩
  rw[zd Φ52 (by simp)]
  simp[fi52,c52,c1,h2,←zak]
 |false=>
  rw[h2]at h
  have hr:za4 ⟨c.cap,c.granted,c.sent,c.taken,c.items.l,false⟩=(⟨c.cap,c.granted,c.sent,c.taken,c.items.l,true⟩,0):=by unfold za4;rw[if_neg (by simp[h]),if_neg (by simp)]
  rw[hr]
  refine⟨{c with closed:=true},?_,rfl,hc⟩
  rw[zd Φ52 (by simp)]
  simp[fi52,c52,c1,h2]
theorem zt2 (l:Sl Bnd) (hl:l.l.length≤1000000) (n:List UInt8):okC (W.loop [0,1,4,6] zkT [(0,bL l),(1,.str n),(4,.optr 0 0 0 0),(6,I 0)] [.arr 0 3 false [bZ.av]])
  (fun q F H=>match zaq l.l n with|some b=>q= .ret∧F.get 4= .optr 0 0 0 0∧F.get 5= .bool true∧H=[.arr 0 3 false [b.av]]|none=>q= .exit 0∧F.get 4= .optr 0 0 0 0∧H=[.arr 0 3 false [bZ.av]]):=by
 have key:∀(r:List Bnd) (k:Nat),l.l.drop k=r→k≤l.l.length→okC (W.loop [0,1,4,6] zkT [(0,bL l),(1,.str n),(4,.optr 0 0 0 0),(6,I k)] [.arr 0 3 false [bZ.av]])
  (fun q F H=>match zaq r n with|some b=>q= .ret∧F.get 4= .optr 0 0 0 0∧F.get 5= .bool true∧H=[.arr 0 3 false [b.av]]|none=>q= .exit 0∧F.get 4= .optr 0 0 0 0∧H=[.arr 0 3 false [bZ.av]]):=by
  intro r
  induction r with
  |nil=>
   intro k h1 h2
   have hk:=zf h1 h2
   rw[zb]
   simp[zhk,zi4,hk,zaq]
  |cons a r ihr=>
   intro k h1 h2
   obtain⟨hlt,ha,hr⟩:=zn h1
   have hlt':(k:Int)<l.l.length:=by omega
   have hak:l.l[k]=a:=(gEs.1 ha).2
   have hw:=zg (k:=k) (by omega)
   rw[zb]
   by_cases hn:a.name=n
   .have hf:zaq (a::r) n=some a:=by simp[zaq,hn]
    rw[hf]
    simp[zhk,zi4,hlt,hak,hn,zM]
   .have hf:zaq (a::r) n=zaq r n:=by simp[zaq,hn]
    rw[hf]
    have hJ:=ihr (k+1) hr (by omega)
    simp only[iNa,iCo]at hJ
    simp[zhk,zi4,hlt,hak,hn,zM,hw]
    exact hJ
 have:=key l.l 0 rfl (by omega)
 exact this
theorem e221 (l:Sl Bnd) (hl:l.l.length≤1000000) (n:List UInt8):W.pure 221 [bL l,.str n]=some (.tuple [((zaq l.l n).getD bZ).av,.bool (zaq l.l n).isSome]):=by
 rw[zd Φ221 rfl]
 obtain⟨q,F,H,d1,d2⟩:=zc.1 (zt2 l hl n)
 cases hf:zaq l.l n with
 |none=>
  rw[hf]at d2
  obtain⟨rfl,d2,rfl⟩:=d2
  simp[zoj,c221,zsd,d1,d2]
 |some b=>
  rw[hf]at d2
  obtain⟨rfl,d2,d3,rfl⟩:=d2
  simp[zoj,c221,zsd,d1,d2,d3]
theorem zs9 (L:AV) (hL:okO L=some L) (e:Ex) (hx:e.args.l=[]):
  okC (W.loop [1,2,6,7] zin [(1,L),(2,.optr 0 0 0 0),(6,.osl 1 0 0 0),(7,I 0)] [.arr 0 5 false [e.av],.arr 0 1 false []])
   (fun q F' H'=>q= .exit 0∧F'.keep [1,2,6]=[(1,L),(2,.optr 0 0 0 0),(6,.osl 1 0 0 0)]∧H'=[.arr 0 5 false [e.av],.arr 0 1 false []]):=by
 rw[zb]
 simp[zbz,zc0,hL,hx]
theorem zwy (L:AV) (hL:okO L=some L) (e a:Ex) (hx:e.args.l=[a]) (t f:Int) (h:W.pure 179 [a.av,L]=some (.tuple [I t,I f])):
  okC (W.loop [1,2,6,7] zin [(1,L),(2,.optr 0 0 0 0),(6,.osl 1 0 0 0),(7,I 0)] [.arr 0 5 false [e.av],.arr 0 1 false []])
   (fun q F' H'=>if f=0 then q= .exit 0∧F'.keep [1,2,6]=[(1,L),(2,.optr 0 0 0 0),(6,.osl 1 1 0 1)]∧H'=[.arr 0 5 false [e.av],.arr 1 1 false [I t]] else q= .ret∧F'.get 4=I 0∧F'.get 5=I f):=by
 have w:IntKind.wrap .i64 1=1:=zr (by omega) (by omega)
 by_cases hf:f=0
 .subst hf
  have k2:=fun H hh=>zE (H:=H) (id:=1) (ver:=0) (l:=[]) hh (by simp) t
  simp at k2
  rw[zb]
  simp[zbz,zc0,hL,hx,h,k2,w]
  rw[zb]
  simp[zbz,zc0,hL,hx]
 .rw[zb]
  simp[zbz,zc0,hL,hx,h,hf]
theorem zwx (L:AV) (hL:okO L=some L) (e a b:Ex) (hx:e.args.l=[a,b]) (t f u g:Int) (h:W.pure 179 [a.av,L]=some (.tuple [I t,I f])) (h':W.pure 179 [b.av,L]=some (.tuple [I u,I g])):
  okC (W.loop [1,2,6,7] zin [(1,L),(2,.optr 0 0 0 0),(6,.osl 1 0 0 0),(7,I 0)] [.arr 0 5 false [e.av],.arr 0 1 false []])
   (fun q F' H'=>if f=0 then (if g=0 then q= .exit 0∧F'.keep [1,2,6]=[(1,L),(2,.optr 0 0 0 0),(6,.osl 1 2 0 2)]∧H'=[.arr 0 5 false [e.av],.arr 2 1 false [I t,I u]] else q= .ret∧F'.get 4=I 0∧F'.get 5=I g) else q= .ret∧F'.get 4=I 0∧F'.get 5=I f):=by
 have w:IntKind.wrap .i64 1=1:=zr (by omega) (by omega)
 have w2:IntKind.wrap .i64 2=2:=zr (by omega) (by omega)
 by_cases hf:f=0
 .subst hf
  have k2:=fun H hh=>zE (H:=H) (id:=1) (ver:=0) (l:=[]) hh (by simp) t
  simp at k2
  rw[zb]
  simp[zbz,zc0,hL,hx,h,k2,w]
  rw[zb]
  by_cases hg:g=0
  .subst hg
   have k3:=fun H hh=>zE (H:=H) (id:=1) (ver:=1) (l:=[t]) hh (by simp) u
   simp at k3
   simp[zbz,zc0,hL,hx,h',k3,w2]
   rw[zb]
   simp[zbz,zc0,hL,hx]
  .simp[zbz,zc0,hL,hx,h',hg]
 .rw[zb]
  simp[zbz,zc0,hL,hx,h,hf]
theorem zs7 (L:AV) (hL:okO L=some L) (e:Ex) (hx:e.args.l=[]):
  okC (W.loop [1,2,6,7] zil [(1,L),(2,.optr 0 0 0 0),(6,.osl 1 0 0 0),(7,I 0)] [.arr 0 5 false [e.av],.arr 0 1 false []])
   (fun q F' H'=>q= .exit 0∧F'.keep [1,2,6]=[(1,L),(2,.optr 0 0 0 0),(6,.osl 1 0 0 0)]∧H'=[.arr 0 5 false [e.av],.arr 0 1 false []]):=by
 rw[zb]
 simp[zbx,zcY,hL,hx]
theorem zwu (L:AV) (hL:okO L=some L) (e a:Ex) (hx:e.args.l=[a]) (t f:Int) (h:W.pure 217 [a.av,L]=some (.tuple [I t,I f])):
  okC (W.loop [1,2,6,7] zil [(1,L),(2,.optr 0 0 0 0),(6,.osl 1 0 0 0),(7,I 0)] [.arr 0 5 false [e.av],.arr 0 1 false []])
   (fun q F' H'=>if f=0 then q= .exit 0∧F'.keep [1,2,6]=[(1,L),(2,.optr 0 0 0 0),(6,.osl 1 1 0 1)]∧H'=[.arr 0 5 false [e.av],.arr 1 1 false [I t]] else q= .ret∧F'.get 4=I 0∧F'.get 5=I f):=by
 have w:IntKind.wrap .i64 1=1:=zr (by omega) (by omega)
 by_cases hf:f=0
 .subst hf
  have k2:=fun H hh=>zE (H:=H) (id:=1) (ver:=0) (l:=[]) hh (by simp) t
  simp at k2
  rw[zb]
  simp[zbx,zcY,hL,hx,h,k2,w]
  rw[zb]
  simp[zbx,zcY,hL,hx]
 .rw[zb]
  simp[zbx,zcY,hL,hx,h,hf]
theorem zwt (L:AV) (hL:okO L=some L) (e a b:Ex) (hx:e.args.l=[a,b]) (t f u g:Int) (h:W.pure 217 [a.av,L]=some (.tuple [I t,I f])) (h':W.pure 217 [b.av,L]=some (.tuple [I u,I g])):
  okC (W.loop [1,2,6,7] zil [(1,L),(2,.optr 0 0 0 0),(6,.osl 1 0 0 0),(7,I 0)] [.arr 0 5 false [e.av],.arr 0 1 false []])
   (fun q F' H'=>if f=0 then (if g=0 then q= .exit 0∧F'.keep [1,2,6]=[(1,L),(2,.optr 0 0 0 0),(6,.osl 1 2 0 2)]∧H'=[.arr 0 5 false [e.av],.arr 2 1 false [I t,I u]] else q= .ret∧F'.get 4=I 0∧F'.get 5=I g) else q= .ret∧F'.get 4=I 0∧F'.get 5=I f):=by
 have w:IntKind.wrap .i64 1=1:=zr (by omega) (by omega)
 have w2:IntKind.wrap .i64 2=2:=zr (by omega) (by omega)
 by_cases hf:f=0
 .subst hf
  have k2:=fun H hh=>zE (H:=H) (id:=1) (ver:=0) (l:=[]) hh (by simp) t
  simp at k2
  rw[zb]
  simp[zbx,zcY,hL,hx,h,k2,w]
  rw[zb]
  by_cases hg:g=0
  .subst hg
   have k3:=fun H hh=>zE (H:=H) (id:=1) (ver:=1) (l:=[t]) hh (by simp) u
   simp at k3
   simp[zbx,zcY,hL,hx,h',k3,w2]
   rw[zb]
   simp[zbx,zcY,hL,hx]
  .simp[zbx,zcY,hL,hx,h',hg]
 .rw[zb]
  simp[zbx,zcY,hL,hx,h,hf]
theorem zmY (w:Int) (ts:List Int) (H:Heap) (id ver:Nat) (h:H[id]?=some (.arr ver 1 false (ts.map I))) (hl:ts.length≤2) (bo:Bool) (z:AV) (hz:okO z=some z):
  okC (W.loop [2,6,12,13,14] znH [(2,z),(6,.osl id ver 0 ts.length),(12,.bool bo),(13,I w),(14,I 0)] H)
   (fun q F' H'=>if ts.all (fun t=>decide (t=w))=true then q= .exit 2∧F'.keep [2,12]=[(2,z),(12,.bool bo)]∧H'=H else q= .ret∧F'.get 4=I 0∧F'.get 5=I 15):=by
 have w1:IntKind.wrap .i64 1=1:=zr (by omega) (by omega)
 have w2:IntKind.wrap .i64 2=2:=zr (by omega) (by omega)
 match ts,hl with
 | [],_=>
  rw[zb]
  simp[zbk,zcv,hz]
 | [t],_=>
  simp at h
  rw[zb]
  by_cases h1:t=w
  .simp[zbk,zcv,hz,h,h1,w1]
   rw[zb]
   simp[zbk,zcv,hz]
  .simp[zbk,zcv,hz,h,h1]
 | [t,u],_=>
  simp at h
  rw[zb]
  by_cases h1:t=w
  .by_cases h2:u=w
   .simp[zbk,zcv,hz,h,h1,h2,w1]
    rw[zb]
    simp[zbk,zcv,hz,h,h1,h2,w2]
    rw[zb]
    simp[zbk,zcv,hz]
   .simp[zbk,zcv,hz,h,h1,h2,w1]
    rw[zb]
    simp[zbk,zcv,hz,h,h1,h2]
  .simp[zbk,zcv,hz,h,h1]
theorem e179 (l:Sl Bnd) (hl:l.l.length≤1000000):∀e:Ex,ExV e→W.pure 179 [e.av,bL l]=some (.tuple [I (tyE l.l e).1,I (tyE l.l e).2]):=by
 refine Ex.ind (fun e ih=>?_)
 intro he
 rw[zd Φ179 (by simp),zcA]
 have hL:okO (bL l)=some (bL l):=by simp
 rcases zcU he.head with⟨hk,ha⟩|⟨hk,ha⟩|⟨hk,ho,a,ha⟩|⟨hk,ho1,ho2,a,b,ha⟩
 .obtain⟨q,F',H',d1,rfl,d2,rfl⟩:=zc.1 (zs9 (bL l) hL e ha)
  simp[zbV,c179,ha,d1,d2,hk,tyEs,zaY]
 .obtain⟨q,F',H',d1,rfl,d2,rfl⟩:=zc.1 (zs9 (bL l) hL e ha)
  have c1:=e221 l hl e.name
  cases hf:zaq l.l e.name with
  |none=>rw[hf]at c1;simp at c1;simp[zbV,c179,ha,d1,d2,hk,tyEs,zaY,c1,hf]
  |some b=>rw[hf]at c1;simp at c1;simp[zbV,c179,ha,d1,d2,hk,tyEs,zaY,c1,hf]
 .have h1:=ih a (by rw[ha];simp) (he.arg (by rw[ha];simp))
  obtain⟨q,F',H',d1,d2⟩:=zc.1 (zwy (bL l) hL e a ha _ _ h1)
  by_cases hf:(tyE l.l a).2=0
  .rw[if_pos hf]at d2
   obtain⟨rfl,d2,rfl⟩:=d2
   have ets:tyEs l.l e.args.l= .inr [(tyE l.l a).1]:=by rw[ha];simp[tyEs,hf]
   rw[ets]
   generalize (tyE l.l a).1=t at *
   rcases ho with ho|ho
   .obtain⟨q2,F2,H2,f1,f2⟩:=zc.1 (zmY 1 [t] [.arr 0 5 false [e.av],.arr 1 1 false [I t]] 1 1 rfl (by simp) false (.optr 0 0 0 0) rfl)
    simp at f1
    by_cases ht:t=1
    .simp[ht]at f2
     obtain⟨rfl,f2,rfl⟩:=f2
     simp[ht]at f1
     simp[zbV,c179,ha,d1,d2,hk,zaY,ho,ht,f1,f2]
    .simp[ht]at f2
     obtain⟨rfl,f2,f3⟩:=f2
     simp[zbV,c179,ha,d1,d2,hk,zaY,ho,ht,f1,f2,f3]
   .obtain⟨q2,F2,H2,f1,f2⟩:=zc.1 (zmY 2 [t] [.arr 0 5 false [e.av],.arr 1 1 false [I t]] 1 1 rfl (by simp) true (.optr 0 0 0 0) rfl)
    simp at f1
    by_cases ht:t=2
    .simp[ht]at f2
     obtain⟨rfl,f2,rfl⟩:=f2
     simp[ht]at f1
     simp[zbV,c179,ha,d1,d2,hk,zaY,ho,ht,f1,f2]
    .simp[ht]at f2
     obtain⟨rfl,f2,f3⟩:=f2
     simp[zbV,c179,ha,d1,d2,hk,zaY,ho,ht,f1,f2,f3]
  .rw[if_neg hf]at d2
   obtain⟨rfl,d2,d3⟩:=d2
   have ets:tyEs l.l e.args.l= .inl (tyE l.l a).2:=by rw[ha];simp[tyEs,hf]
   rw[ets]
   simp[zbV,c179,ha,d1,d2,d3]
 .have h1:=ih a (by rw[ha];simp) (he.arg (by rw[ha];simp))
  have h2:=ih b (by rw[ha];simp) (he.arg (by rw[ha];simp))
  obtain⟨q,F',H',d1,d2⟩:=zc.1 (zwx (bL l) hL e a b ha _ _ _ _ h1 h2)
  by_cases hf:(tyE l.l a).2=0
  rotate_left
  .rw[if_neg hf]at d2
   obtain⟨rfl,d2,d3⟩:=d2
   have ets:tyEs l.l e.args.l= .inl (tyE l.l a).2:=by rw[ha];simp[tyEs,hf]
   rw[ets]
   simp[zbV,c179,ha,d1,d2,d3]
  rw[if_pos hf]at d2
  by_cases hg:(tyE l.l b).2=0
  rotate_left
  .rw[if_neg hg]at d2
   obtain⟨rfl,d2,d3⟩:=d2
   have ets:tyEs l.l e.args.l= .inl (tyE l.l b).2:=by rw[ha];simp[tyEs,hf,hg]
   rw[ets]
   simp[zbV,c179,ha,d1,d2,d3]
  rw[if_pos hg]at d2
  obtain⟨rfl,d2,rfl⟩:=d2
  have ets:tyEs l.l e.args.l= .inr [(tyE l.l a).1,(tyE l.l b).1]:=by rw[ha];simp[tyEs,hf,hg]
  rw[ets]
  generalize (tyE l.l a).1=t at *
  generalize (tyE l.l b).1=u at *
  have et:zaY l.l e.kind e.op e.name [t,u]=if t≠u∨(opAr e.op≠0∧t≠opAr e.op) then (0,15) else (opRs e.op,0):=by simp[zaY,hk]
  simp only[]
  rw[et]
  have hn2:¬e.op=2:=by omega
  by_cases hb:e.op=14∨e.op=15
  .obtain⟨q2,F2,H2,f1,f2⟩:=zc.1 (zmY 2 [t,u] [.arr 0 5 false [e.av],.arr 2 1 false [I t,I u]] 1 2 rfl (by simp) true (.optr 0 0 0 0) rfl)
   simp at f1
   have a1:opAr e.op=2:=by unfold opAr;rw[if_neg (by omega),if_neg (by omega)]
   have a2:opRs e.op=2:=by unfold opRs;rw[if_neg (by omega)]
   have n8:¬e.op=8:=by omega
   have n9:¬e.op=9:=by omega
   rw[a1,a2]
   by_cases ht:t=2
   .by_cases hu:u=2
    .simp[ht,hu]at f2
     obtain⟨rfl,f2,rfl⟩:=f2
     simp[ht,hu]at f1
     rcases hb with hb|hb<;>simp[zbV,c179,ha,d1,d2,hk,hb,ht,hu,f1,f2]
    .simp[ht,hu]at f2
     obtain⟨rfl,f2,f3⟩:=f2
     simp[ht]at f1
     have hu':¬2=u:=fun h=>hu h.symm
     rcases hb with hb|hb<;>simp[zbV,c179,ha,d1,d2,hk,hb,ht,hu,hu',f1,f2,f3]
   .simp[ht]at f2
    obtain⟨rfl,f2,f3⟩:=f2
    rcases hb with hb|hb<;>simp[zbV,c179,ha,d1,d2,hk,hb,ht,f1,f2,f3]
  .have n14:¬e.op=14:=by omega
   have n15:¬e.op=15:=by omega
   by_cases he8:e.op=8∨e.op=9
   .obtain⟨q2,F2,H2,f1,f2⟩:=zc.1 (zmY t [t,u] [.arr 0 5 false [e.av],.arr 2 1 false [I t,I u]] 1 2 rfl (by simp) false (.optr 0 0 0 0) rfl)
    simp at f1
    have a1:opAr e.op=0:=by unfold opAr;rw[if_pos he8]
    have a2:opRs e.op=2:=by unfold opRs;rw[if_neg (by omega)]
    rw[a1,a2]
    by_cases hu:u=t
    .subst hu
     simp at f2
     obtain⟨rfl,f2,rfl⟩:=f2
     rcases he8 with hb|hb<;>simp[zbV,c179,ha,d1,d2,hk,hb,f1,f2]
    .simp[hu]at f2
     obtain⟨rfl,f2,f3⟩:=f2
     have hu':¬t=u:=fun h=>hu h.symm
     rcases he8 with hb|hb<;>simp[zbV,c179,ha,d1,d2,hk,hb,hu,hu',f1,f2,f3]
   .have n8:¬e.op=8:=by omega
    have n9:¬e.op=9:=by omega
    obtain⟨q2,F2,H2,f1,f2⟩:=zc.1 (zmY 1 [t,u] [.arr 0 5 false [e.av],.arr 2 1 false [I t,I u]] 1 2 rfl (by simp) false (.optr 0 0 0 0) rfl)
    simp at f1
    have a1:opAr e.op=1:=by unfold opAr;rw[if_neg (by omega),if_pos (by omega)]
    rw[a1]
    by_cases ht:t=1
    .by_cases hu:u=1
     .simp[ht,hu]at f2
      obtain⟨rfl,f2,rfl⟩:=f2
      simp[ht,hu]at f1
      by_cases h8:8≤e.op
      .have a2:opRs e.op=2:=by unfold opRs;rw[if_neg (by omega)]
       simp[zbV,c179,ha,d1,d2,hk,hn2,n14,n15,n8,n9,ht,hu,f1,f2,h8,a2]
      .have a2:opRs e.op=1:=by unfold opRs;rw[if_pos (by omega)]
       simp[zbV,c179,ha,d1,d2,hk,hn2,n14,n15,n8,n9,ht,hu,f1,f2,h8,a2]
     .simp[ht,hu]at f2
      obtain⟨rfl,f2,f3⟩:=f2
      simp[ht]at f1
      have hu':¬1=u:=fun h=>hu h.symm
      simp[zbV,c179,ha,d1,d2,hk,hn2,n14,n15,n8,n9,ht,hu,hu',f1,f2,f3]
    .simp[ht]at f2
     obtain⟨rfl,f2,f3⟩:=f2
     simp[zbV,c179,ha,d1,d2,hk,hn2,n14,n15,n8,n9,ht,f1,f2,f3]
theorem zxC (a b:Int) (ha:isIt a=true) (hb:isIt b=true):W.pure 178 [bL (b2L a b)]=some (I 0):=by
 have ha':=(zo a).1 ha
 have hb':=(zo b).1 hb
 have c1:=e147 xN
 rw[nmX]at c1
 have c2:=e147 yN
 rw[nmY]at c2
 have h1:¬a< -1099511627776:=by omega
 have h2:¬1099511627776<a:=by omega
 have h3:¬b< -1099511627776:=by omega
 have h4:¬1099511627776<b:=by omega
 have w:IntKind.wrap .i64 1=1:=zr (by omega) (by omega)
 have w2:IntKind.wrap .i64 2=2:=zr (by omega) (by omega)
 have w0:IntKind.wrap .i64 0=0:=zr (by omega) (by omega)
 have l1:=ltXY
 obtain⟨q,F,H,d1,rfl⟩:=zc.1 (show okC (W.loop [0,3] znI [(0,bL (b2L a b)),(3,I 0)] []) (fun q F H=>q= .exit 0) by
  rw[zb]
  simp[zhn,zi6,c1,h1,h2,w]
  rw[zb]
  simp[zhn,zi6,c2,h3,h4,w2,w0,l1]
  rw[zb]
  simp[zhn,zi6])
 rw[zd Φ178 rfl]
 simp[zrG,c178,d1]
theorem zxD (a b:Int) (ha:isIt a=true) (hb:isIt b=true) (e:Ex):W.pure 150 [e.av,bL (b2L a b)]=some (.tuple [I (tyR (b2L a b).l e).1,I (tyR (b2L a b).l e).2]):=by
 rw[zd Φ150 (by simp)]
 have c1:=e161 e
 have c3:=zxC a b ha hb
 unfold tyR
 by_cases h:zF e=0
 .rw[h]at c1
  have c2:=e179 (b2L a b) (by simp) e (.of h)
  simp[zoA,c150,c1,c3,c2,h]
 .simp[zoA,c150,c1,h]
theorem e268 (a b:Int) (ha:isIt a=true) (hb:isIt b=true):W.pure 268 [I a,I b]=some (.tuple [I (opE 5 a b).1,I (opE 5 a b).2]):=by
 rw[zd Φ268 rfl]
 have ha':=(zo a).1 ha
 have hb':=(zo b).1 hb
 have e:opE 5 a b=if 1099511627776<a.natAbs* b.natAbs then (0,14) else (a* b,0):=by simp[opE]
 rw[e]
 have wa:IntKind.wrap .i64 (0 - a)=0 - a:=zr (by omega) (by omega)
 have wa':IntKind.wrap .i64 (-a)= -a:=zr (by omega) (by omega)
 have wb:IntKind.wrap .i64 (0 - b)=0 - b:=zr (by omega) (by omega)
 have wb':IntKind.wrap .i64 (-b)= -b:=zr (by omega) (by omega)
 have hw:a.natAbs* b.natAbs≤1099511627776→IntKind.wrap .i64 (a* b)=a* b:=fun h=>by
  have:(a* b).natAbs≤1099511627776:=by rw[Int.natAbs_mul];omega
  exact zr (by omega) (by omega)
 by_cases h0:a=0
 .subst h0
  have w0:IntKind.wrap .i64 0=0:=zr (by omega) (by omega)
  by_cases s2:b<0<;>simp[zeL,c268,w0,wb,wb',s2]
 have hap:0<a.natAbs:=by omega
 obtain⟨D,hD1,hD2,hD3⟩:∃D:Nat,Int.tdiv 1099511627776 (a.natAbs:Int)=(D:Int)∧D≤1099511627776∧(D<b.natAbs↔1099511627776<b.natAbs* a.natAbs):=⟨_,quoM hap,Nat.div_le_self _ _,zth hap⟩
 rw[Nat.mul_comm b.natAbs]at hD3
 have w:IntKind.wrap .i64 (D:Int)=D:=zr (by omega) (by omega)
 by_cases s1:a<0
 .have ea:(a.natAbs:Int)= -a:=by omega
  rw[ea]at hD1
  have hna:¬ -a=0:=by omega
  by_cases s2:b<0
  .have eb:(b.natAbs:Int)= -b:=by omega
   by_cases h:1099511627776<a.natAbs* b.natAbs
   .have h2:(D:Int)< -b:=by have:=hD3.2 h;omega
    rw[if_pos h]
    simp[zeL,c268,h0,s1,s2,wa,wa',wb,wb',hna,hD1,w,h2]
   .have h2:¬(D:Int)< -b:=by have:¬D<b.natAbs:=fun hh=>h (hD3.1 hh);omega
    rw[if_neg h]
    simp[zeL,c268,h0,s1,s2,wa,wa',wb,wb',hna,hD1,w,h2,hw (by omega)]
  .have eb:(b.natAbs:Int)=b:=by omega
   by_cases h:1099511627776<a.natAbs* b.natAbs
   .have h2:(D:Int)<b:=by have:=hD3.2 h;omega
    rw[if_pos h]
    simp[zeL,c268,h0,s1,s2,wa,wa',wb,wb',hna,hD1,w,h2]
   .have h2:¬(D:Int)<b:=by have:¬D<b.natAbs:=fun hh=>h (hD3.1 hh);omega
    rw[if_neg h]
    simp[zeL,c268,h0,s1,s2,wa,wa',wb,wb',hna,hD1,w,h2,hw (by omega)]
 .have ea:(a.natAbs:Int)=a:=by omega
  rw[ea]at hD1
  by_cases s2:b<0
  .have eb:(b.natAbs:Int)= -b:=by omega
   by_cases h:1099511627776<a.natAbs* b.natAbs
   .have h2:(D:Int)< -b:=by have:=hD3.2 h;omega
    rw[if_pos h]
    simp[zeL,c268,h0,s1,s2,wa,wa',wb,wb',hD1,w,h2]
   .have h2:¬(D:Int)< -b:=by have:¬D<b.natAbs:=fun hh=>h (hD3.1 hh);omega
    rw[if_neg h]
    simp[zeL,c268,h0,s1,s2,wa,wa',wb,wb',hD1,w,h2,hw (by omega)]
  .have eb:(b.natAbs:Int)=b:=by omega
   by_cases h:1099511627776<a.natAbs* b.natAbs
   .have h2:(D:Int)<b:=by have:=hD3.2 h;omega
    rw[if_pos h]
    simp[zeL,c268,h0,s1,s2,wa,wa',wb,wb',hD1,w,h2]
   .have h2:¬(D:Int)<b:=by have:¬D<b.natAbs:=fun hh=>h (hD3.1 hh);omega
    rw[if_neg h]
    simp[zeL,c268,h0,s1,s2,wa,wa',wb,wb',hD1,w,h2,hw (by omega)]
theorem e269 (b:Bool):W.pure 269 [.bool b]=some (I (b01 b)):=by
 rw[zd Φ269 rfl]
 cases b<;>simp[zrj,c269,b01]
theorem znX {n:Int} (h:isIt n=true):¬n< -1099511627776∧¬1099511627776<n:=by have:=(zo n).1 h;omega
def cutC:Nat→LC→LC
 |n+1,.seq a b=> .seq a (cutC n b)
 |0,_=> .skip
 |_+1,x=>x
def zB:Nat→LC→LC
 |n+1,.seq _ b=>zB n b
 |0,x=>x
 |_+1,_=> .skip
theorem zae (R:Rec):∀(n:Nat) (c:LC) (F:Fr) (H:Heap) (F1:Fr) (H1:Heap),evC R (cutC n c) F H=some (.normal,F1,H1)→evC R c F H=evC R (zB n c) F1 H1
 |0,c,F,H,F1,H1,h=>by
  simp only[cutC,zbA,oSi,pMi,true_and]at h
  obtain⟨rfl,rfl⟩:=h
  rfl
 |n+1,.seq a b,F,H,F1,H1,h=>by
  simp only[cutC,zej]at h
  simp only[zB,zej]
  cases ha:evC R a F H with
  |none=>rw[ha]at h;cases h
  |some p=>
   obtain⟨x,F2,H2⟩:=p
   rw[ha]at h
   cases x with
   |normal=>
    simp only[Option.bind_some,zex]at h⊢
    exact zae R n b F2 H2 F1 H1 h
   |ret=>simp at h
   |exit i=>simp at h
 |n+1,.skip,F,H,F1,H1,h=>by simpa[cutC,zB]using h
 |n+1,.ret,F,H,F1,H1,h=>by simp[cutC]at h
 |n+1,.exit i,F,H,F1,H1,h=>by simp[cutC]at h
 |n+1,.reg d i o l,F,H,F1,H1,h=>by simp only[cutC]at h;simp only[zB,zbA];exact h
 |n+1,.cond c a b,F,H,F1,H1,h=>by simp only[cutC]at h;simp only[zB,zbA];exact h
 |n+1,.block i l b,F,H,F1,H1,h=>by simp only[cutC]at h;simp only[zB,zbA];exact h
 |n+1,.loop l b,F,H,F1,H1,h=>by simp only[cutC]at h;simp only[zB,zbA];exact h
 |n+1,.rng f p i a b,F,H,F1,H1,h=>by simp only[cutC]at h;simp only[zB,zbA];exact h
 |n+1,.hol t a,F,H,F1,H1,h=>by simp only[cutC]at h;simp only[zB,zbA];exact h
 |n+1,.any,F,H,F1,H1,h=>by simp only[cutC]at h;simp only[zB,zbA];exact h
 |n+1,.scp b,F,H,F1,H1,h=>by simp only[cutC]at h;simp only[zB,zbA];exact h
def oneR (g:FuncId) (k:List AV→Option AV):Rec:=⟨fun _ _ _=>none,fun f a=>if f=g then k a else none,fun _ _ _ _=>none⟩
theorem zwV {g:FuncId} {k:List AV→Option AV} (h:∀a r,k a=some r→W.pure g a=some r):(oneR g k).le W:=by
 refine⟨fun _ _ _ _ h=>(by cases h),fun f a r h1=>?_,fun _ _ _ _ _ h=>(by cases h)⟩
 simp only[oneR]at h1
 split at h1
 .rename_i e;subst e;exact h _ _ h1
 .cases h1
def zpN:List AV→Option AV
 | [.bool b]=>some (I (b01 b))
 |_=>none
theorem zpM:∀a r,zpN a=some r→W.pure 269 a=some r:=by
 intro a r h
 unfold zpN at h
 split at h
 .cases h;exact e269 _
 .cases h
theorem zat {c:LC} {F:Fr} {H:Heap} {r:LX×Fr×Heap} (h:evC (oneR 269 zpN) c F H=some r):evC W c F H=some r:=(ziy c F H).mono _ _ (zwV zpM) r h
def t236:LC:=(.seq (.seq (.reg false [8] [8,111] [.op (some 106) .mv [.t 8],.op (some 107) (.bin .lss) [.t 106,.c (.int .i64 (-1099511627776))],.op (some 108) .mv [.t 107],.sel 111 108 [] (.c (.bool true)) [.op (some 109) .mv [.t 8],.op (some 110) (.bin .gtr) [.t 109,.c (.int .i64 1099511627776)]] (.t 110)]) (.cond (.t 111) (.seq (.reg false [] [6,7] [.op (some 6) .mv [.c (.int .i64 0)],.op (some 7) .mv [.c (.int .i64 14)]]) .ret) .skip)) (.seq (.reg false [8] [6,7] [.op (some 112) .mv [.t 8],.op (some 6) .mv [.t 112],.op (some 7) .mv [.c (.int .i64 0)]]) .ret))
def r236:LC:=(.seq (.seq (.reg false [0,1,2,8] [1,2,8,21] [.op (some 21) .mv [.t 0]]) (.block 0 [8] (.seq (.reg false [1,2,8,21] [1,2,8,21,22] [.op (some 23) (.bin .eql) [.t 21,.c (.int .i64 3)],.op (some 22) .mv [.t 23]]) (.cond (.t 22) (.reg false [1,2] [8] [.op (some 24) .mv [.t 1],.op (some 25) .mv [.t 2],.op (some 26) (.bin .add) [.t 24,.t 25],.op (some 8) .mv [.t 26]]) (.seq (.reg false [1,2,8,21] [1,2,8,21,27] [.op (some 28) (.bin .eql) [.t 21,.c (.int .i64 4)],.op (some 27) .mv [.t 28]]) (.cond (.t 27) (.reg false [1,2] [8] [.op (some 29) .mv [.t 1],.op (some 30) .mv [.t 2],.op (some 31) (.bin .sub) [.t 29,.t 30],.op (some 8) .mv [.t 31]]) zmv)))))) (.seq (.seq (.reg false [8] [8,111] [.op (some 106) .mv [.t 8],.op (some 107) (.bin .lss) [.t 106,.c (.int .i64 (-1099511627776))],.op (some 108) .mv [.t 107],.sel 111 108 [] (.c (.bool true)) [.op (some 109) .mv [.t 8],.op (some 110) (.bin .gtr) [.t 109,.c (.int .i64 1099511627776)]] (.t 110)]) (.cond (.t 111) (.seq (.reg false [] [6,7] [.op (some 6) .mv [.c (.int .i64 0)],.op (some 7) .mv [.c (.int .i64 14)]]) .ret) .skip)) (.seq (.reg false [8] [6,7] [.op (some 112) .mv [.t 8],.op (some 6) .mv [.t 112],.op (some 7) .mv [.c (.int .i64 0)]]) .ret)))
theorem zcx:zB 4 c236=t236:=rfl
theorem zx8 (V:Int):evC W t236 [(8,I V)] []=some (.ret,if isIt V=true then [(6,I V),(7,I 0)] else [(6,I 0),(7,I 14)],[]):=by
 cases h:isIt V with
 |true=>
  have ht:=znX h
  simp[t236,zbZ,ht.1,ht.2]
 |false=>
  have:¬(-1099511627776≤V∧V≤1099511627776):=fun hh=>by rw[(zo V).2 hh]at h;cases h
  by_cases h2:V< -1099511627776
  .simp[t236,zbZ,h2]
  .have h3:1099511627776<V:=by omega
   simp[t236,zbZ,h2,h3]
theorem zbe {o a b V:Int} (h:evC W c236 [(0,I o),(1,I a),(2,I b)] []=evC W t236 [(8,I V)] []):W.pure 236 [I o,I a,I b]=some (.tuple [I (fitV (V,0)).1,I (fitV (V,0)).2]):=by
 rw[zd Φ236 rfl]
 have e:zam W zf0 [I o,I a,I b] []=(evC W c236 [(0,I o),(1,I a),(2,I b)] []).bind fun p=>match p.1 with
  | .exit _=>none
  |_=>(resV p.2.1 p.2.2 zf0.res).map fun v=>(v,p.2.2):=rfl
 rw[e,h,zx8]
 cases hi:isIt V with
 |true=>simp[fitV,hi,zf0,resV,rvVs,rvV]
 |false=>simp[fitV,hi,zf0,resV,rvVs,rvV]
theorem zu9 (a b:Int):evC W (cutC 4 c236) [(0,I 3),(1,I a),(2,I b)] []=some (.normal,[(8,I (IntKind.wrap .i64 (a+b)))],[]):=zat (by kernel_rfl)
theorem zu8 (a b:Int):evC W (cutC 4 c236) [(0,I 4),(1,I a),(2,I b)] []=some (.normal,[(8,I (IntKind.wrap .i64 (a - b)))],[]):=zat (by kernel_rfl)
theorem zu7 (a b:Int):evC W (cutC 4 c236) [(0,I 8),(1,I a),(2,I b)] []=some (.normal,[(8,I (b01 (decide (a=b))))],[]):=zat (by kernel_rfl)
theorem zu6 (a b:Int):evC W (cutC 4 c236) [(0,I 9),(1,I a),(2,I b)] []=some (.normal,[(8,I (b01 (!decide (a=b))))],[]):=zat (by kernel_rfl)
theorem zra (a b:Int):evC W (cutC 4 c236) [(0,I 10),(1,I a),(2,I b)] []=some (.normal,[(8,I (b01 (decide (a<b))))],[]):=zat (by kernel_rfl)
theorem zq9 (a b:Int):evC W (cutC 4 c236) [(0,I 11),(1,I a),(2,I b)] []=some (.normal,[(8,I (b01 (decide (a≤b))))],[]):=zat (by kernel_rfl)
theorem zq8 (a b:Int):evC W (cutC 4 c236) [(0,I 12),(1,I a),(2,I b)] []=some (.normal,[(8,I (b01 (decide (b<a))))],[]):=zat (by kernel_rfl)
theorem zq7 (a b:Int):evC W (cutC 4 c236) [(0,I 13),(1,I a),(2,I b)] []=some (.normal,[(8,I (b01 (decide (b≤a))))],[]):=zat (by kernel_rfl)
theorem zxB (a b:Int) (ha:isIt a=true) (hb:isIt b=true):W.pure 236 [I 3,I a,I b]=some (.tuple [I (fitV (opE 3 a b)).1,I (fitV (opE 3 a b)).2]):=by
 have ha':=(zo a).1 ha
 have hb':=(zo b).1 hb
 have e:opE 3 a b=(a+b,0):=by simp[opE]
 have h:=zae W 4 c236 _ _ _ _ (zu9 a b)
 rw[zcx]at h
 have h2:=zbe h
 rw[show IntKind.wrap .i64 (a+b)=a+b from zr (by omega) (by omega)]at h2
 rw[e];exact h2
theorem zxA (a b:Int) (ha:isIt a=true) (hb:isIt b=true):W.pure 236 [I 4,I a,I b]=some (.tuple [I (fitV (opE 4 a b)).1,I (fitV (opE 4 a b)).2]):=by
 have ha':=(zo a).1 ha
 have hb':=(zo b).1 hb
 have e:opE 4 a b=(a - b,0):=by simp[opE]
 have h:=zae W 4 c236 _ _ _ _ (zu8 a b)
 rw[zcx]at h
 have h2:=zbe h
 rw[show IntKind.wrap .i64 (a - b)=a - b from zr (by omega) (by omega)]at h2
 rw[e];exact h2
theorem zxw (a b:Int) (ha:isIt a=true) (hb:isIt b=true):W.pure 236 [I 8,I a,I b]=some (.tuple [I (fitV (opE 8 a b)).1,I (fitV (opE 8 a b)).2]):=by
 have ha':=(zo a).1 ha
 have hb':=(zo b).1 hb
 have e:opE 8 a b=(b01 (decide (a=b)),0):=by simp[opE]
 have h:=zae W 4 c236 _ _ _ _ (zu7 a b)
 rw[zcx]at h
 have h2:=zbe h
 rw[e];exact h2
theorem zxv (a b:Int) (ha:isIt a=true) (hb:isIt b=true):W.pure 236 [I 9,I a,I b]=some (.tuple [I (fitV (opE 9 a b)).1,I (fitV (opE 9 a b)).2]):=by
 have ha':=(zo a).1 ha
 have hb':=(zo b).1 hb
 have e:opE 9 a b=(b01 (!decide (a=b)),0):=by simp[opE]
 have h:=zae W 4 c236 _ _ _ _ (zu6 a b)
 rw[zcx]at h
 have h2:=zbe h
 rw[e];exact h2
theorem zvK (a b:Int) (ha:isIt a=true) (hb:isIt b=true):W.pure 236 [I 10,I a,I b]=some (.tuple [I (fitV (opE 10 a b)).1,I (fitV (opE 10 a b)).2]):=by
 have ha':=(zo a).1 ha
 have hb':=(zo b).1 hb
 have e:opE 10 a b=(b01 (decide (a<b)),0):=by simp[opE]
 have h:=zae W 4 c236 _ _ _ _ (zra a b)
 rw[zcx]at h
 have h2:=zbe h
 rw[e];exact h2
theorem zvJ (a b:Int) (ha:isIt a=true) (hb:isIt b=true):W.pure 236 [I 11,I a,I b]=some (.tuple [I (fitV (opE 11 a b)).1,I (fitV (opE 11 a b)).2]):=by
 have ha':=(zo a).1 ha
 have hb':=(zo b).1 hb
 have e:opE 11 a b=(b01 (decide (a≤b)),0):=by simp[opE]
 have h:=zae W 4 c236 _ _ _ _ (zq9 a b)
 rw[zcx]at h
 have h2:=zbe h
 rw[e];exact h2
theorem zvI (a b:Int) (ha:isIt a=true) (hb:isIt b=true):W.pure 236 [I 12,I a,I b]=some (.tuple [I (fitV (opE 12 a b)).1,I (fitV (opE 12 a b)).2]):=by
 have ha':=(zo a).1 ha
 have hb':=(zo b).1 hb
 have e:opE 12 a b=(b01 (decide (b<a)),0):=by simp[opE]
 have h:=zae W 4 c236 _ _ _ _ (zq8 a b)
 rw[zcx]at h
 have h2:=zbe h
 rw[e];exact h2
theorem zvH (a b:Int) (ha:isIt a=true) (hb:isIt b=true):W.pure 236 [I 13,I a,I b]=some (.tuple [I (fitV (opE 13 a b)).1,I (fitV (opE 13 a b)).2]):=by
 have ha':=(zo a).1 ha
 have hb':=(zo b).1 hb
 have e:opE 13 a b=(b01 (decide (b≤a)),0):=by simp[opE]
 have h:=zae W 4 c236 _ _ _ _ (zq7 a b)
 rw[zcx]at h
 have h2:=zbe h
 rw[e];exact h2
theorem zn4 (b:Int):evC W (cutC 4 c236) [(0,I 14),(1,I 0),(2,I b)] []=some (.normal,[(8,I (b01 false))],[]):=zat (by kernel_rfl)
theorem zn5 (b:Int) (n:Nat):evC W (cutC 4 c236) [(0,I 14),(1,I (Int.ofNat (n+1))),(2,I b)] []=some (.normal,[(8,I (b01 (!decide (b=0))))],[]):=zat (by kernel_rfl)
theorem zn6 (b:Int) (n:Nat):evC W (cutC 4 c236) [(0,I 14),(1,I (Int.negSucc n)),(2,I b)] []=some (.normal,[(8,I (b01 (!decide (b=0))))],[]):=zat (by kernel_rfl)
theorem zvG (a b:Int):W.pure 236 [I 14,I a,I b]=some (.tuple [I (fitV (opE 14 a b)).1,I (fitV (opE 14 a b)).2]):=by
 have e:opE 14 a b=(b01 (!decide (a=0)&& !decide (b=0)),0):=by simp[opE]
 rw[e]
 match a with
 |0=>have h:=zae W 4 c236 _ _ _ _ (zn4 b);rw[zcx]at h;have h2:=zbe h;simpa using h2
 |Int.ofNat (n+1)=>have h:=zae W 4 c236 _ _ _ _ (zn5 b n);rw[zcx]at h;have h2:=zbe h;have hn:¬((n:Int)+1=0):=(by omega);simpa[hn]using h2
 |Int.negSucc n=>have h:=zae W 4 c236 _ _ _ _ (zn6 b n);rw[zcx]at h;have h2:=zbe h;have hn:¬(Int.negSucc n=0):=(by intro h;cases h);simpa[hn]using h2
theorem zn1 (b:Int):evC W (cutC 4 c236) [(0,I 15),(1,I 0),(2,I b)] []=some (.normal,[(8,I (b01 (!decide (b=0))))],[]):=zat (by kernel_rfl)
theorem zn2 (b:Int) (n:Nat):evC W (cutC 4 c236) [(0,I 15),(1,I (Int.ofNat (n+1))),(2,I b)] []=some (.normal,[(8,I (b01 true))],[]):=zat (by kernel_rfl)
theorem zn3 (b:Int) (n:Nat):evC W (cutC 4 c236) [(0,I 15),(1,I (Int.negSucc n)),(2,I b)] []=some (.normal,[(8,I (b01 true))],[]):=zat (by kernel_rfl)
theorem zvF (a b:Int):W.pure 236 [I 15,I a,I b]=some (.tuple [I (fitV (opE 15 a b)).1,I (fitV (opE 15 a b)).2]):=by
 have e:opE 15 a b=(b01 (!decide (a=0)|| !decide (b=0)),0):=by simp[opE]
 rw[e]
 match a with
 |0=>have h:=zae W 4 c236 _ _ _ _ (zn1 b);rw[zcx]at h;have h2:=zbe h;simpa using h2
 |Int.ofNat (n+1)=>have h:=zae W 4 c236 _ _ _ _ (zn2 b n);rw[zcx]at h;have h2:=zbe h;have hn:¬((n:Int)+1=0):=(by omega);simpa[hn]using h2
 |Int.negSucc n=>have h:=zae W 4 c236 _ _ _ _ (zn3 b n);rw[zcx]at h;have h2:=zbe h;have hn:¬(Int.negSucc n=0):=(by intro h;cases h);simpa[hn]using h2
theorem zq5 (a:Int) (n:Nat):evC W (cutC 4 c236) [(0,I 6),(1,I a),(2,I (Int.ofNat (n+1)))] []=some (.normal,[(8,I (IntKind.wrap .i64 (a.tdiv (Int.ofNat (n+1)))))],[]):=zat (by kernel_rfl)
theorem zq6 (a:Int) (n:Nat):evC W (cutC 4 c236) [(0,I 6),(1,I a),(2,I (Int.negSucc n))] []=some (.normal,[(8,I (IntKind.wrap .i64 (a.tdiv (Int.negSucc n))))],[]):=zat (by kernel_rfl)
theorem zv8 (a:Int):W.pure 236 [I 6,I a,I 0]=some (.tuple [I 0,I 24]):=(zee 60).pure _ _ _ (by kernel_rfl)
theorem zxy (a b:Int) (ha:isIt a=true) (hb:isIt b=true):W.pure 236 [I 6,I a,I b]=some (.tuple [I (fitV (opE 6 a b)).1,I (fitV (opE 6 a b)).2]):=by
 have ha':=(zo a).1 ha
 have hd0:(a.tdiv b).natAbs≤a.natAbs:=by rw[Int.natAbs_tdiv];exact Nat.div_le_self _ _
 have hw:IntKind.wrap .i64 (a.tdiv b)=a.tdiv b:=zr (by omega) (by omega)
 by_cases h0:b=0
 .subst h0
  have e:opE 6 a 0=(0,24):=by simp[opE]
  rw[e,zv8 a];rfl
 .have e:opE 6 a b=(a.tdiv b,0):=by simp[opE,h0]
  rw[e]
  have key:W.pure 236 [I 6,I a,I b]=some (.tuple [I (fitV (IntKind.wrap .i64 (a.tdiv b),0)).1,I (fitV (IntKind.wrap .i64 (a.tdiv b),0)).2]):=by
   have hb2:(∃n:Nat,b=Int.ofNat (n+1))∨∃n:Nat,b=Int.negSucc n:=by
    clear hb hd0 hw ha ha' e
    cases b with
    |ofNat m=>
     cases m with
     |zero=>exact absurd rfl h0
     |succ m=>exact .inl ⟨m,rfl⟩
    |negSucc m=>exact .inr ⟨m,rfl⟩
   rcases hb2 with⟨n,hn⟩|⟨n,hn⟩
   .have h:=zae W 4 c236 _ _ _ _ (zq5 a n);rw[zcx]at h;have h3:=zbe h;rw[←hn]at h3;exact h3
   .have h:=zae W 4 c236 _ _ _ _ (zq6 a n);rw[zcx]at h;have h3:=zbe h;rw[←hn]at h3;exact h3
  rw[hw]at key;exact key
theorem zq3 (a:Int) (n:Nat):evC W (cutC 4 c236) [(0,I 7),(1,I a),(2,I (Int.ofNat (n+1)))] []=some (.normal,[(8,I (a.tmod (Int.ofNat (n+1))))],[]):=zat (by kernel_rfl)
theorem zq4 (a:Int) (n:Nat):evC W (cutC 4 c236) [(0,I 7),(1,I a),(2,I (Int.negSucc n))] []=some (.normal,[(8,I (a.tmod (Int.negSucc n)))],[]):=zat (by kernel_rfl)
theorem zv7 (a:Int):W.pure 236 [I 7,I a,I 0]=some (.tuple [I 0,I 24]):=(zee 60).pure _ _ _ (by kernel_rfl)
theorem zxx (a b:Int) (ha:isIt a=true) (hb:isIt b=true):W.pure 236 [I 7,I a,I b]=some (.tuple [I (fitV (opE 7 a b)).1,I (fitV (opE 7 a b)).2]):=by
 have ha':=(zo a).1 ha
 have hd0:(a.tmod b).natAbs≤a.natAbs:=by rw[Int.natAbs_tmod];exact Nat.mod_le _ _
 have hw:IntKind.wrap .i64 (a.tmod b)=a.tmod b:=zr (by omega) (by omega)
 by_cases h0:b=0
 .subst h0
  have e:opE 7 a 0=(0,24):=by simp[opE]
  rw[e,zv7 a];rfl
 .have e:opE 7 a b=(a.tmod b,0):=by simp[opE,h0]
  rw[e]
  have key:W.pure 236 [I 7,I a,I b]=some (.tuple [I (fitV (a.tmod b,0)).1,I (fitV (a.tmod b,0)).2]):=by
   have hb2:(∃n:Nat,b=Int.ofNat (n+1))∨∃n:Nat,b=Int.negSucc n:=by
    clear hb hd0 hw ha ha' e
    cases b with
    |ofNat m=>
     cases m with
     |zero=>exact absurd rfl h0
     |succ m=>exact .inl ⟨m,rfl⟩
    |negSucc m=>exact .inr ⟨m,rfl⟩
   rcases hb2 with⟨n,hn⟩|⟨n,hn⟩
   .have h:=zae W 4 c236 _ _ _ _ (zq3 a n);rw[zcx]at h;have h3:=zbe h;rw[←hn]at h3;exact h3
   .have h:=zae W 4 c236 _ _ _ _ (zq4 a n);rw[zcx]at h;have h3:=zbe h;rw[←hn]at h3;exact h3
  exact key
def zng:LC:= .seq (.seq .skip (.block 0 [8] (.seq (.reg false [1,2] [9,10] [.op (some 35) .mv [.t 1],.op (some 36) .mv [.t 2],.op (some 37) (.pcall 268) [.t 35,.t 36],.op (some 34) .mv [.t 37],.op (some 38) (.ext 0) [.t 34],.op (some 39) (.ext 1) [.t 34],.op (some 9) .mv [.t 38],.op (some 10) .mv [.t 39]]) (.seq (.reg false [9,10] [6,7] [.op (some 40) .mv [.t 9],.op (some 41) .mv [.t 10],.op (some 6) .mv [.t 40],.op (some 7) .mv [.t 41]]) .ret)))) t236
theorem zwP (R:Rec) (a b:Int):evC R r236 [(0,I 5),(1,I a),(2,I b),(8,I 0)] []=evC R zng [(1,I a),(2,I b),(8,I 0),(21,I 5),(32,.bool true)] []:=by kernel_rfl
theorem blk5 (a b x y:Int) (c1:W.pure 268 [I a,I b]=some (.tuple [I x,I y])):evC W zng [(1,I a),(2,I b),(8,I 0),(21,I 5),(32,.bool true)] []=some (.ret,[(6,I x),(7,I y)],[]):=by
 simp[zng,c1]
theorem zxz (a b:Int) (ha:isIt a=true) (hb:isIt b=true):W.pure 236 [I 5,I a,I b]=some (.tuple [I (fitV (opE 5 a b)).1,I (fitV (opE 5 a b)).2]):=by
 have e:opE 5 a b=if 1099511627776<a.natAbs* b.natAbs then (0,14) else (a* b,0):=by simp[opE]
 have hf:fitV (opE 5 a b)=opE 5 a b:=by
  rw[e]
  by_cases h:1099511627776<a.natAbs* b.natAbs
  .rw[if_pos h];rfl
  .rw[if_neg h]
   have:(a* b).natAbs≤1099511627776:=by rw[Int.natAbs_mul];omega
   have hi:isIt (a* b)=true:=(zo _).2 (by omega)
   simp[fitV,hi]
 rw[hf]
 have c1:=e268 a b ha hb
 have hd:evC W (cutC 3 c236) [(0,I 5),(1,I a),(2,I b)] []=some (.normal,[(0,I 5),(1,I a),(2,I b),(8,I 0)],[]):=zat (by kernel_rfl)
 have h:=zae W 3 c236 _ _ _ _ hd
 have hr:zB 3 c236=r236:=rfl
 rw[hr]at h
 rw[zd Φ236 rfl]
 have e:zam W zf0 [I 5,I a,I b] []=(evC W c236 [(0,I 5),(1,I a),(2,I b)] []).bind fun p=>match p.1 with
  | .exit _=>none
  |_=>(resV p.2.1 p.2.2 zf0.res).map fun v=>(v,p.2.2):=rfl
 rw[e,h,zwP,blk5 a b _ _ c1]
 simp[zf0,resV,rvVs,rvV]
theorem e236 (o a b:Int) (ho:3≤o∧o≤15) (ha:isIt a=true) (hb:isIt b=true):W.pure 236 [I o,I a,I b]=some (.tuple [I (fitV (opE o a b)).1,I (fitV (opE o a b)).2]):=by
 have cases13:o=3∨o=4∨o=5∨o=6∨o=7∨o=8∨o=9∨o=10∨o=11∨o=12∨o=13∨o=14∨o=15:=by omega
 rcases cases13 with h|h|h|h|h|h|h|h|h|h|h|h|h<;>rw[h]
 .exact zxB a b ha hb
 .exact zxA a b ha hb
 .exact zxz a b ha hb
 .exact zxy a b ha hb
 .exact zxx a b ha hb
 .exact zxw a b ha hb
 .exact zxv a b ha hb
 .exact zvK a b ha hb
 .exact zvJ a b ha hb
 .exact zvI a b ha hb
 .exact zvH a b ha hb
 .exact zvG a b
 .exact zvF a b
theorem ty1 {l:List Bnd} {e a:Ex} (ha:e.args.l=[a]) (h:(tyE l e).2=0):(tyE l a).2=0∧tyE l e=zaY l e.kind e.op e.name [(tyE l a).1]:=by
 rw[zcA,ha]at h
 rw[zcA l e,ha]
 by_cases h1:(tyE l a).2=0
 .simp[tyEs,h1]
 .exfalso;simp[tyEs,h1]at h
theorem ty2 {l:List Bnd} {e a b:Ex} (ha:e.args.l=[a,b]) (h:(tyE l e).2=0):(tyE l a).2=0∧(tyE l b).2=0∧tyE l e=zaY l e.kind e.op e.name [(tyE l a).1,(tyE l b).1]:=by
 rw[zcA,ha]at h
 rw[zcA l e,ha]
 by_cases h1:(tyE l a).2=0
 .by_cases h2:(tyE l b).2=0
  .simp[tyEs,h1,h2]
  .exfalso;simp[tyEs,h1,h2]at h
 .exfalso;simp[tyEs,h1]at h
theorem ty0 {l:List Bnd} {e:Ex} (ha:e.args.l=[]):tyE l e=zaY l e.kind e.op e.name []:=by
 rw[zcA l e,ha];simp[tyEs]
theorem zrg (b:Bool):fitV (b01 b,0)=(b01 b,0):=by cases b<;>rfl
theorem zxM (l:List Bnd) (hb:∀b∈l,b.type=1):∀e:Ex,ExV e→(tyE l e).2=0→(tyE l e).1=2→(vaE l e).2=0→(vaE l e).1=0∨(vaE l e).1=1:=by
 refine Ex.ind (fun e ih=>?_)
 intro he h1 h2 h3
 rcases zcU he.head with⟨hk,ha⟩|⟨hk,ha⟩|⟨hk,ho,a,ha⟩|⟨hk,ho1,ho2,a,b,ha⟩
 .exfalso;rw[ty0 ha]at h2;simp[zaY,hk]at h2
 .exfalso
  rw[ty0 ha]at h1 h2
  cases hf:zaq l e.name with
  |none=>simp[zaY,hk,hf]at h1
  |some b=>
   simp[zaY,hk,hf]at h2
   have:=hb b (List.mem_of_find?_eq_some hf)
   omega
 .obtain⟨t1,t2⟩:=ty1 ha h1
  rw[t2]at h1 h2
  rcases ho with ho|ho
  .exfalso
   simp[zaY,hk,ho]at h2
   split at h2<;>simp at h2
  .have t3:(tyE l a).1=2:=by
    apply cBc
    intro hn
    simp[zaY,hk,ho,hn]at h1
   rw[zdk,ha]at h3
   rw[zdk l e,ha]
   by_cases hv:(vaE l a).2=0
   .have:=ih a (by rw[ha];simp) (he.arg (by rw[ha];simp)) t1 t3 hv
    rcases this with hh|hh
    .right;simp[vaEs,hv,hh,zaO,hk,ho,fitV];decide
    .left;simp[vaEs,hv,hh,zaO,hk,ho,fitV];try decide
   .exfalso;simp[vaEs,hv]at h3
 .obtain⟨t1,t1',t2⟩:=ty2 ha h1
  rw[t2]at h1 h2
  have ho:8≤e.op:=by
   apply cBc
   intro hn
   have a2:opRs e.op=1:=by unfold opRs;rw[if_pos (by omega)]
   simp[zaY,hk,a2]at h2
   split at h2<;>simp at h2
  rw[zdk,ha]at h3
  rw[zdk l e,ha]
  by_cases hv:(vaE l a).2=0
  .by_cases hw:(vaE l b).2=0
   .have key:∀x y:Int,∃q,opE e.op x y=(b01 q,0):=by
     intro x y
     have c8:e.op=8∨e.op=9∨e.op=10∨e.op=11∨e.op=12∨e.op=13∨e.op=14∨e.op=15:=by omega
     rcases c8 with h|h|h|h|h|h|h|h<;>rw[h]<;>exact⟨_,by simp only[opE];rfl⟩
    obtain⟨q,hq⟩:=key (vaE l a).1 (vaE l b).1
    simp[vaEs,hv,hw,zaO,hk,hq,zrg]
    cases q<;>simp[b01]
   .exfalso;simp[vaEs,hv,hw]at h3
  .exfalso;simp[vaEs,hv]at h3
theorem zA0 (l:Sl Bnd) (hl:l.l.length≤1000000) (hv:∀b∈l.l,isIt b.value=true) (hy:∀b∈l.l,b.type=1):∀e:Ex,ExV e→(tyE l.l e).2=0→W.pure 217 [e.av,bL l]=some (.tuple [I (vaE l.l e).1,I (vaE l.l e).2]):=by
 refine Ex.ind (fun e ih=>?_)
 intro he ht
 rw[zd Φ217 (by simp),zdk]
 have hL:okO (bL l)=some (bL l):=by simp
 have hval:0≤e.value∧e.value≤1099511627776:=by
  have:=he.head
  unfold zU at this
  split at this
  .cases this
  split at this
  .cases this
  split at this
  .cases this
  .omega
 rcases zcU he.head with⟨hk,ha⟩|⟨hk,ha⟩|⟨hk,ho,a,ha⟩|⟨hk,ho1,ho2,a,b,ha⟩
 .obtain⟨q,F',H',d1,rfl,d2,rfl⟩:=zc.1 (zs7 (bL l) hL e ha)
  have hn:isIt e.value=true:=(zo _).2 (by omega)
  have et:zaO l.l e.kind e.op e.name e.value []=(e.value,0):=by simp[zaO,hk,fitV,hn]
  have ets:vaEs l.l e.args.l= .inr []:=by rw[ha];rfl
  rw[ets];simp only[];rw[et]
  simp[zfH,c217,ha,d1,d2,hk]
 .obtain⟨q,F',H',d1,rfl,d2,rfl⟩:=zc.1 (zs7 (bL l) hL e ha)
  have c1:=e221 l hl e.name
  have ets:vaEs l.l e.args.l= .inr []:=by rw[ha];rfl
  rw[ets];simp only[]
  have hb:isIt ((zaq l.l e.name).getD bZ).value=true:=by
   cases hf:zaq l.l e.name with
   |none=>rfl
   |some b=>exact hv b (List.mem_of_find?_eq_some hf)
  have et:zaO l.l e.kind e.op e.name e.value []=(((zaq l.l e.name).getD bZ).value,0):=by
   have:zaO l.l e.kind e.op e.name e.value []=fitV (((zaq l.l e.name).getD bZ).value,0):=by
    simp only[zaO,hk]
    cases zaq l.l e.name<;>rfl
   rw[this];simp[fitV,hb]
  rw[et]
  generalize ((zaq l.l e.name).getD bZ)=bb at *
  simp[zfH,c217,ha,d1,d2,hk,c1]
 .obtain⟨t1,t2⟩:=ty1 ha ht
  have h1:=ih a (by rw[ha];simp) (he.arg (by rw[ha];simp)) t1
  obtain⟨q,F',H',d1,d2⟩:=zc.1 (zwu (bL l) hL e a ha _ _ h1)
  by_cases hf:(vaE l.l a).2=0
  .rw[if_pos hf]at d2
   obtain⟨rfl,d2,rfl⟩:=d2
   have hit:=(zo _).1 (zf6 hf)
   have hbo:=zxM l.l hy a (he.arg (by rw[ha];simp)) t1
   have ets:vaEs l.l e.args.l= .inr [(vaE l.l a).1]:=by rw[ha];simp[vaEs,hf]
   rw[ets];simp only[]
   rcases ho with ho|ho
   .generalize (vaE l.l a).1=t at *
    have w1:IntKind.wrap .i64 (0 - t)=0 - t:=zr (by omega) (by omega)
    have w1':IntKind.wrap .i64 (-t)= -t:=zr (by omega) (by omega)
    have hn:isIt (-t)=true:=(zo _).2 (by omega)
    have et:zaO l.l e.kind e.op e.name e.value [t]=(-t,0):=by simp[zaO,hk,ho,fitV,hn]
    rw[et]
    simp[zfH,c217,ha,d1,d2,hk,ho,w1,w1']
    try omega
   .have t3:(tyE l.l a).1=2:=by
     apply cBc
     intro hn
     rw[t2]at ht
     simp[zaY,hk,ho,hn]at ht
    have hbo:=hbo t3 hf
    generalize (vaE l.l a).1=t at *
    have w2:IntKind.wrap .i64 (1 - t)=1 - t:=zr (by omega) (by omega)
    have hn:isIt (1 - t)=true:=(zo _).2 (by omega)
    have et:zaO l.l e.kind e.op e.name e.value [t]=(1 - t,0):=by simp[zaO,hk,ho,fitV,hn]
    rw[et]
    simp[zfH,c217,ha,d1,d2,hk,ho,w2]
    try omega
  .rw[if_neg hf]at d2
   obtain⟨rfl,d2,d3⟩:=d2
   have ets:vaEs l.l e.args.l= .inl (vaE l.l a).2:=by rw[ha];simp[vaEs,hf]
   rw[ets]
   simp[zfH,c217,ha,d1,d2,d3]
 .obtain⟨t1,t1',t2⟩:=ty2 ha ht
  have h1:=ih a (by rw[ha];simp) (he.arg (by rw[ha];simp)) t1
  have h2:=ih b (by rw[ha];simp) (he.arg (by rw[ha];simp)) t1'
  obtain⟨q,F',H',d1,d2⟩:=zc.1 (zwt (bL l) hL e a b ha _ _ _ _ h1 h2)
  by_cases hf:(vaE l.l a).2=0
  rotate_left
  .rw[if_neg hf]at d2
   obtain⟨rfl,d2,d3⟩:=d2
   have ets:vaEs l.l e.args.l= .inl (vaE l.l a).2:=by rw[ha];simp[vaEs,hf]
   rw[ets]
   simp[zfH,c217,ha,d1,d2,d3]
  rw[if_pos hf]at d2
  by_cases hg:(vaE l.l b).2=0
  rotate_left
  .rw[if_neg hg]at d2
   obtain⟨rfl,d2,d3⟩:=d2
   have ets:vaEs l.l e.args.l= .inl (vaE l.l b).2:=by rw[ha];simp[vaEs,hf,hg]
   rw[ets]
   simp[zfH,c217,ha,d1,d2,d3]
  rw[if_pos hg]at d2
  obtain⟨rfl,d2,rfl⟩:=d2
  have ets:vaEs l.l e.args.l= .inr [(vaE l.l a).1,(vaE l.l b).1]:=by rw[ha];simp[vaEs,hf,hg]
  rw[ets];simp only[]
  have i1:=zf6 hf
  have i2:=zf6 hg
  generalize (vaE l.l a).1=t at *
  generalize (vaE l.l b).1=u at *
  have et:zaO l.l e.kind e.op e.name e.value [t,u]=fitV (opE e.op t u):=by simp[zaO,hk]
  rw[et]
  have c1:=e236 e.op t u ⟨ho1,ho2⟩ i1 i2
  generalize (fitV (opE e.op t u)).1=V at *
  generalize (fitV (opE e.op t u)).2=E at *
  simp[zfH,c217,ha,d1,d2,hk,c1]
theorem e169 (a b:Int) (ha:isIt a=true) (hb:isIt b=true) (e:Ex):W.pure 169 [e.av,bL (b2L a b)]=some (.tuple [I (evR (b2L a b).l e).1,I (evR (b2L a b).l e).2]):=by
 rw[zd Φ169 (by simp)]
 have c1:=zxD a b ha hb e
 unfold evR
 by_cases h:(tyR (b2L a b).l e).2=0
 .rw[h]at c1
  have h0:zF e=0:=by
   apply cBc
   intro hn
   unfold tyR at h
   rw[if_pos hn]at h
   exact hn h
  have ht:(tyE (b2L a b).l e).2=0:=by
   unfold tyR at h
   rw[if_neg (by simp[h0])]at h
   exact h
  have hm:∀c∈(b2L a b).l,isIt c.value=true∧c.type=1:=by
   intro c hc
   simp[b2L,ofL]at hc
   rcases hc with rfl|rfl
   .exact⟨ha,rfl⟩
   .exact⟨hb,rfl⟩
  have c2:=zA0 (b2L a b) (by simp[b2L,ofL]) (fun c hc=>(hm c hc).1) (fun c hc=>(hm c hc).2) e (.of h0) ht
  simp[zov,c169,c1,c2,h]
 .simp[zov,c169,c1,h]
theorem zns (x:Sl (List UInt8)) (hl:x.l.length≤1000000) (s:(List UInt8)):∀(r:List (List UInt8)) (k:Nat),x.l.drop k=r→k≤x.l.length→
  okC (W.loop [0,1,7,8] znE [(0,Sl.av AV.str 1 x),(1,AV.str s),(7,I x.l.length),(8,I k)] [])
   (fun q F H=>(q= .exit 0∧s∉r)∨∃j:Nat,q= .ret∧F.get 4=I j∧s∈r)
 | [],k,hk,hb=>by
  have hlen:k=x.l.length:=by have:=congrArg List.length hk;simp at this;omega
  subst hlen
  rw[zb]
  simp[zhl,zi5]
 |a::r,k,hk,hb=>by
  have hlt:k<x.l.length:=by have:=congrArg List.length hk;simp at this;omega
  have hget:x.l[k]=a:=by have:=congrArg List.head? hk;simpa[gEg hlt]using this
  have hk':x.l.drop (k+1)=r:=by rw[←List.drop_drop,hk];rfl
  have w:IntKind.wrap .i64 ((k:Int)+1)=((k+1:Nat):Int):=by rw[zr (by omega) (by omega)];omega
  have hc:(k:Int)<x.l.length:=by omega
  rw[zb]
  by_cases h:s=a
  .simp[zhl,zi5,hc,hlt,hget,h,zM]
   exact⟨k,rfl⟩
  .have ih:=zns x hl s r (k+1) hk' hlt
   obtain⟨q,F,H,g1,g2⟩:=zc.1 ih
   simp at g1
   simp[zhl,zi5,hc,hlt,hget,h,w,g1,zM]
   rcases g2 with⟨g2,g3⟩|⟨j,g2,g3,g4⟩
   .left;exact⟨g2,g3⟩
   .right;exact⟨g2,⟨j,g3⟩,g4⟩
theorem zA2 (x:Sl (List UInt8)) (hl:x.l.length≤1000000) (s:(List UInt8)):W.pure 166 [Sl.av AV.str 1 x,AV.str s]=some (.bool (decide (s∈x.l))):=by
 have c1:∃n:Int,W.pure 214 [Sl.av AV.str 1 x,AV.str s]=some (I n)∧decide (0≤n)=decide (s∈x.l):=by
  rw[zd Φ214 rfl]
  obtain⟨q,F,H,d1,d2⟩:=zc.1 (zns x hl s x.l 0 rfl (by omega))
  simp at d1
  rcases d2 with⟨d2,d3⟩|⟨j,d2,d3,d4⟩
  .refine⟨-1,?_,by simp[d3]⟩
   subst d2
   simp[zol,c214,d1]
  .refine⟨j,?_,by simp[d4]⟩
   subst d2
   simp[zol,c214,d1,d3]
 obtain⟨n,c1,c2⟩:=c1
 rw[zd Φ166 rfl,←c2]
 simp[zrM,c166,c1]
theorem znu (x:Sl Int) (hl:x.l.length≤1000000) (s:Int):∀(r:List Int) (k:Nat),x.l.drop k=r→k≤x.l.length→
  okC (W.loop [0,1,7,8] znO [(0,Sl.av I 1 x),(1,I s),(7,I x.l.length),(8,I k)] [])
   (fun q F H=>(q= .exit 0∧s∉r)∨∃j:Nat,q= .ret∧F.get 4=I j∧s∈r)
 | [],k,hk,hb=>by
  have hlen:k=x.l.length:=by have:=congrArg List.length hk;simp at this;omega
  subst hlen
  rw[zb]
  simp[zhr,zja]
 |a::r,k,hk,hb=>by
  have hlt:k<x.l.length:=by have:=congrArg List.length hk;simp at this;omega
  have hget:x.l[k]=a:=by have:=congrArg List.head? hk;simpa[gEg hlt]using this
  have hk':x.l.drop (k+1)=r:=by rw[←List.drop_drop,hk];rfl
  have w:IntKind.wrap .i64 ((k:Int)+1)=((k+1:Nat):Int):=by rw[zr (by omega) (by omega)];omega
  have hc:(k:Int)<x.l.length:=by omega
  rw[zb]
  by_cases h:s=a
  .simp[zhr,zja,hc,hlt,hget,h,zM]
   exact⟨k,rfl⟩
  .have ih:=znu x hl s r (k+1) hk' hlt
   obtain⟨q,F,H,g1,g2⟩:=zc.1 ih
   simp at g1
   simp[zhr,zja,hc,hlt,hget,h,w,g1,zM]
   rcases g2 with⟨g2,g3⟩|⟨j,g2,g3,g4⟩
   .left;exact⟨g2,g3⟩
   .right;exact⟨g2,⟨j,g3⟩,g4⟩
theorem zvL (x:Sl Int) (hl:x.l.length≤1000000) (s:Int):W.pure 171 [Sl.av I 1 x,I s]=some (.bool (decide (s∈x.l))):=by
 have c1:∃n:Int,W.pure 156 [Sl.av I 1 x,I s]=some (I n)∧decide (0≤n)=decide (s∈x.l):=by
  rw[zd Φ156 rfl]
  obtain⟨q,F,H,d1,d2⟩:=zc.1 (znu x hl s x.l 0 rfl (by omega))
  simp at d1
  rcases d2 with⟨d2,d3⟩|⟨j,d2,d3,d4⟩
  .refine⟨-1,?_,by simp[d3]⟩
   subst d2
   simp[zoz,c156,d1]
  .refine⟨j,?_,by simp[d4]⟩
   subst d2
   simp[zoz,c156,d1,d3]
 obtain⟨n,c1,c2⟩:=c1
 rw[zd Φ171 rfl,←c2]
 simp[zrK,c171,c1]
theorem zdZ {l m:List Bnd}:∀{es:List Ex},(∀e∈es,tyE l e=tyE m e)→tyEs l es=tyEs m es
 | [],h=>rfl
 |e::r,h=>by
  simp only[tyEs,h e (List.mem_cons_self ..),zdZ fun x hx=>h x (List.mem_cons_of_mem _ hx)]
theorem zf5 {l m:List Bnd}:∀{es:List Ex},(∀e∈es,vaE l e=vaE m e)→vaEs l es=vaEs m es
 | [],h=>rfl
 |e::r,h=>by
  simp only[vaEs,h e (List.mem_cons_self ..),zf5 fun x hx=>h x (List.mem_cons_of_mem _ hx)]
theorem Ex.parts_arg {e a x:Ex} (ha:a∈e.args.l) (hx:x∈a.parts):x∈e.parts:=by
 rw[Ex.parts_eq]
 have key:∀l:List Ex,a∈l→x∈Ex.partss l:=by
  intro l
  induction l with
  |nil=>intro h;cases h
  |cons b r ih=>
   intro h
   simp only[Ex.partss,List.mem_append]
   rcases lMc.1 h with rfl|h
   .exact .inl hx
   .exact .inr (ih h)
 exact List.mem_cons_of_mem _ (key _ ha)
theorem zlc (a b:Int):zaq (b1L a).l xN=zaq (b2L a b).l xN:=by simp[zaq,b1L,b2L,ofL]
theorem zwm (a b:Int):∀e:Ex,(∀x∈e.parts,x.kind=2→x.name=xN)→tyE (b1L a).l e=tyE (b2L a b).l e:=by
 refine Ex.ind (fun e ih=>?_)
 intro h
 rw[zcA,zcA,zdZ fun a' ha=>ih a' ha fun x hx=>h x (Ex.parts_arg ha hx)]
 by_cases hk:e.kind=2
 .have hn:=h e (by rw[Ex.parts_eq];simp) hk
  have hf:=zlc a b
  cases tyEs (b2L a b).l e.args.l with
  |inl f=>rfl
  |inr ts=>simp only[zaY,hk,hn,hf]
 .cases tyEs (b2L a b).l e.args.l with
  |inl f=>rfl
  |inr ts=>simp only[zaY,hk,if_false]
theorem zx6 (a b:Int):∀e:Ex,(∀x∈e.parts,x.kind=2→x.name=xN)→vaE (b1L a).l e=vaE (b2L a b).l e:=by
 refine Ex.ind (fun e ih=>?_)
 intro h
 rw[zdk,zdk,zf5 fun a' ha=>ih a' ha fun x hx=>h x (Ex.parts_arg ha hx)]
 by_cases hk:e.kind=2
 .have hn:=h e (by rw[Ex.parts_eq];simp) hk
  have hf:=zlc a b
  cases vaEs (b2L a b).l e.args.l with
  |inl f=>rfl
  |inr ts=>simp only[zaO,hk,hn,hf]
 .cases vaEs (b2L a b).l e.args.l with
  |inl f=>rfl
  |inr ts=>simp only[zaO,hk,if_false]
abbrev hdA (i o le mo t:Int) (ns:List (List UInt8)) (f:Nat) (xs:List AV) (g:Nat):AV:= .agg [I i,I o,I le,I mo,I t,Sl.av AV.str 1 (ofL 1 ns),.clo f [] xs,.clo g [] []]
theorem zoN (e:Ex) (p:List UInt8→Bool):(zag (zcw (zch e))).all p=(zch e).all p:=by
 rw[Bool.eq_iff_iff,lAt,lAt]
 constructor
 .intro h s hs;exact h s ((zfO s _).2 ((zfc s _).2 hs))
 .intro h s hs;exact h s ((zfc s _).1 ((zfO s _).1 hs))
theorem zoM (e:Ex) (hz:zF e=0):(zch e).length≤100:=by
 have hs:=zfJ hz
 have:=zfa e.parts []
 rw[Ex.parts_len]at this
 simp at this
 rw[zeZ];omega
def ckN (ns:List (List UInt8)) (l:List Bnd) (t:Int) (e:Ex):Int:=
 if zF e≠0 then zF e
 else if (zch e).all (fun s=>decide (s∈ns))=false then 5
 else if (tyE l e).2≠0∨(tyE l e).1≠t then 15 else 0
theorem zA5 (e:Ex):ckN [xN,yN] (b2L 0 0).l 1 e=ckE 9 e:=by
 unfold ckN ckE
 have e1:zd5 9=[xN,yN]:=rfl
 have e2:bnd2 0 0=(b2L 0 0).l:=rfl
 have e3:etyp 9=1:=rfl
 rw[e1,e2,e3]
 by_cases h:zF e=0
 .rw[if_neg (show ¬zF e≠0 by simp[h]),if_neg (show ¬zF e≠0 by simp[h])]
  split
  .rfl
  .generalize tyE (b2L 0 0).l e=p
   obtain⟨a,b⟩:=p
   by_cases ha:a=1<;>by_cases hb:b=0<;>simp[ha,hb]
 .rw[if_pos h,if_pos h]
theorem zvP (k t:Int) (hk:k=2∨k=3∨k=7) (ht:etyp k=t) (e:Ex):ckN [xN] (b1L 0).l t e=ckE k e:=by
 unfold ckN ckE
 have e1:zd5 k=[xN]:=by unfold zd5;rw[if_neg (by omega),if_pos hk]
 have e2:bnd2 0 0=(b2L 0 0).l:=rfl
 rw[e1,e2,ht]
 by_cases h:zF e=0
 .rw[if_neg (show ¬zF e≠0 by simp[h]),if_neg (show ¬zF e≠0 by simp[h])]
  cases hn:(zch e).all (fun s=>decide (s∈[xN])) with
  |false=>rfl
  |true=>
   have hp:∀x∈e.parts,x.kind=2→x.name=xN:=by
    intro x hx hk
    have:=lAt.1 hn x.name ((zfI e _).2 ⟨x,hx,hk,rfl⟩)
    simpa using this
   rw[zwm 0 0 e hp]
   simp only[Bool.true_eq_false,if_false]
   generalize tyE (b2L 0 0).l e=p
   obtain⟨a,b⟩:=p
   by_cases ha:a=t<;>by_cases hb:b=0<;>simp[ha,hb]
 .rw[if_pos h,if_pos h]
theorem zkR (H0:Heap) (x:Sl (List UInt8)) (hl:x.l.length≤1000000) (i o le mo t:Int) (ns:List (List UInt8)) (hns:ns.length≤2) (f g:Nat) (xs:List AV) (e:Ex):∀(r:List (List UInt8)) (k:Nat),x.l.drop k=r→k≤x.l.length→
  okC (W.loop [2,3,16,17,18] znT [(2,.optr H0.length 0 0 0),(3,.optr (H0.length+1) 0 0 0),(16,Sl.av AV.str 1 x),(17,I x.l.length),(18,I k)] (H0++[.arr 0 8 false [hdA i o le mo t ns f xs g],.arr 0 5 false [e.av]]))
   (fun q F H=>if r.all (fun s=>decide (s∈ns))=true then q= .exit 0∧F.keep [2,3]=[(2,.optr H0.length 0 0 0),(3,.optr (H0.length+1) 0 0 0)]∧H=(H0++[.arr 0 8 false [hdA i o le mo t ns f xs g],.arr 0 5 false [e.av]]) else q= .ret∧F.get 4=I 5∧H=(H0++[.arr 0 8 false [hdA i o le mo t ns f xs g],.arr 0 5 false [e.av]]))
 | [],k,hk,hb=>by
  have hlen:=zf hk hb
  subst hlen
  rw[zb]
  simp[zht,zjc]
 |a::r,k,hk,hb=>by
  obtain⟨hlt,ha,hr⟩:=zn hk
  have hc:(k:Int)<x.l.length:=by omega
  have hak:x.l[k]=a:=(gEs.1 ha).2
  have hw:=zg (k:=k) (by omega)
  have c1:=zA2 (ofL 1 ns) (by simp[ofL];omega) a
  rw[zb]
  by_cases h:a∈ns
  .have ih:=zkR H0 x hl i o le mo t ns hns f g xs e r (k+1) hr hlt
   simp only[iNa,iCo]at ih
   have hd:((a::r).all fun s=>decide (s∈ns))=r.all fun s=>decide (s∈ns):=by simp[h]
   rw[hd]
   simp only[ofL,h,decide_true]at c1
   simp[zht,zjc,hc,hlt,hak,c1,h,hw, -List.all_eq_true]
   simpa using ih
  .have hd:((a::r).all fun s=>decide (s∈ns))=false:=by simp[h]
   rw[hd]
   simp only[ofL,h,decide_false]at c1
   simp[zht,zjc,hc,hlt,hak,c1,h,hw]
theorem ze8 (H0:Heap) (i o le mo t:Int) (ns:List (List UInt8)) (hns:ns.length≤2) (f g:Nat) (xs:List AV) (hxs:okO (.clo f [] xs)=some (.clo f [] xs)) (e:Ex) (l:Sl Bnd) (hl:l.l.length≤1000000) (hb:W.pure 215 [bL l]=some (.bool true))
  (hB:W.pure 168 [Sl.av AV.str 1 (ofL 1 ns),.isl (some false) 1 [I 0,I 0]]=some (bL l)):
  okV (W.call (.clo 123 [] []) [hdA i o le mo t ns f xs g,e.av] H0) (fun v H'=>v=I (ckN ns l.l t e)∧H'=H0++[.arr 0 8 false [hdA i o le mo t ns f xs g],.arr 0 5 false [e.av]]):=by
 rw[zj Φ123]
 have c1:=e153 e
 unfold ckN
 by_cases h:zF e=0
 .rw[h]at c1
  obtain⟨x,c2,hx⟩:=e216 e h
  have hxl:x.l.length≤1000000:=by
   have h1:=zoM e h
   have h2:=zdT (zcw (zch e))
   rw[zcE]at h2
   rw[hx];omega
  have L:=zkR H0 x hxl i o le mo t ns hns f g xs e x.l 0 rfl (by omega)
  simp only[Int.natCast_zero,Nat.zero_add]at L
  obtain⟨q,F,H,d1,d2⟩:=zc.1 L
  rw[hx,zoN]at d2
  have c3:=e167 l (by omega) hb e
  have hty:tyR l.l e=tyE l.l e:=by unfold tyR;rw[if_neg (by simp[h])]
  rw[hty]at c3
  rw[if_neg (by simp[h])]
  cases hn:(zch e).all (fun s=>decide (s∈ns)) with
  |false=>
   rw[hn]at d2
   simp only[bFt,if_false]at d2
   obtain⟨rfl,d2,rfl⟩:=d2
   simp[ziJ,c123,c1,c2,d1,d2]
  |true=>
   rw[hn]at d2
   simp only[if_true]at d2
   obtain⟨rfl,d2,rfl⟩:=d2
   generalize (tyE l.l e).1=t1 at *
   generalize (tyE l.l e).2=t2 at *
   by_cases h2:t2=0
   .by_cases h1:t1=t
    .simp[ziJ,c123,c1,c2,d1,d2,hB,c3,h1,h2]
    .simp[ziJ,c123,c1,c2,d1,d2,hB,c3,h1,h2]
   .simp[ziJ,c123,c1,c2,d1,d2,hB,c3,h2]
 .simp[ziJ,c123,c1,h]
def tkK (k:Int):AV:=if k=1 then .clo 194 [] [] else if k=2 then .clo 195 [] [] else if k=3 then .clo 196 [] [] else if k=4 then .clo 197 [] [] else if k=5 then .clo 200 [] [] else if k=6 then .clo 201 [] [] else if k=7 then .clo 202 [] [] else if k=8 then .clo 204 [] [.eptr [.clo 192 [] []]] else if k=9 then .clo 205 [] [] else .clo 207 [] []
def edK (k:Int):AV:=if k=4 then .clo 198 [] [] else if k=8 then .clo 203 [] [] else if k=9 then .clo 206 [] [] else .clo 193 [] []
def nmK (k:Int):Sl (List UInt8):=if k=9 then ofL 1 [xN,yN] else if k=2∨k=3∨k=7 then ofL 1 [xN] else ⟨some true,0,[]⟩
def hdK (k:Int):AV:= .agg [I (inK k),I (outK k),I (zD k),I (zH k),I (etyp k),Sl.av AV.str 1 (nmK k),tkK k,edK k]
theorem e112 (k:Int) (h:1≤k∧k≤10):W.pure 112 [I k]=some (.tuple [hdK k,.bool true]):=by
 have c:k=1∨k=2∨k=3∨k=4∨k=5∨k=6∨k=7∨k=8∨k=9∨k=10:=by omega
 rcases c with rfl|rfl|rfl|rfl|rfl|rfl|rfl|rfl|rfl|rfl<;>exact (zee 60).pure _ _ _ (by kernel_rfl)
theorem zA4 (k:Int) (h:k<1∨10<k):W.pure 112 [I k]=some (.tuple [.agg [I 0,I 0,I 0,I 0,I 0,.isl (some true) 0 [],.nilf,.nilf],.bool false]):=by
 rw[zd Φ112 rfl]
 by_cases h1:k<1
 .simp[zoJ,c112,h1]
  rfl
 .have h2:10<k:=by omega
  simp[zoJ,c112,h1,h2]
  rfl
theorem zsb (H0:Heap) (k:Int) (hk:k=2∨k=3∨k=7∨k=9) (e:Ex):okV (W.call (.clo 123 [] []) [hdK k,e.av] H0) (fun v H'=>v=I (ckE k e)∧H'=H0++[.arr 0 8 false [hdK k],.arr 0 5 false [e.av]]):=by
 rcases hk with rfl|rfl|rfl|rfl
 .have:=ze8 H0 1 1 0 0 1 [xN] (by simp) 195 193 [] rfl e (b1L 0) (by simp[b1L,ofL]) (zlj 0 rfl) (zlk 0 0)
  rw[zvP 2 1 (by omega) rfl e]at this
  exact this
 .have:=ze8 H0 1 1 0 0 2 [xN] (by simp) 196 193 [] rfl e (b1L 0) (by simp[b1L,ofL]) (zlj 0 rfl) (zlk 0 0)
  rw[zvP 3 2 (by omega) rfl e]at this
  exact this
 .have:=ze8 H0 1 2 0 0 2 [xN] (by simp) 202 193 [] rfl e (b1L 0) (by simp[b1L,ofL]) (zlj 0 rfl) (zlk 0 0)
  rw[zvP 7 2 (by omega) rfl e]at this
  exact this
 .have:=ze8 H0 2 1 0 0 1 [xN,yN] (by simp) 205 206 [] rfl e (b2L 0 0) (by simp[b2L,ofL]) (ztv 0 0 rfl rfl) (ztw 0 0)
  rw[zA5 e]at this
  exact this
theorem e116 (a:Int):W.pure 116 [I a]=some (.bool (isIt a)):=by
 rw[zd Φ116 rfl]
 have ie:=zo a
 cases h:isIt a with
 |true=>
  have h1:=ie.1 h
  have h2: -1099511627776≤a:=by omega
  have h3:a≤1099511627776:=by omega
  simp[zl8,c116,h2,h3]
 |false=>
  have h1:¬(-1099511627776≤a∧a≤1099511627776):=fun hh=>by rw[ie.2 hh]at h;cases h
  by_cases h2: -1099511627776≤a
  .have h3:¬a≤1099511627776:=by omega
   simp[zl8,c116,h2,h3]
  .simp[zl8,c116,h2]
theorem zvX (a:Int) (H:Heap):okV (W.call (.clo 122 [] []) [I a] H) (fun v H'=>v= .bool (!isIt a)∧Kept none H H'):=by
 rw[zj Φ122]
 have c:=e116 a
 simp[zrT,c122,c,Kept.refl]
theorem zhF (l:List Int):(l.any fun a=> !isIt a)= !l.all isIt:=by
 induction l with
 |nil=>rfl
 |cons a r ih=>simp only[List.any_cons,List.all_cons,ih,Bool.not_and]
theorem zkl (k:Int):∃f b,tkK k= .clo f [] b∧(b=[]∨b=[.eptr [.clo 192 [] []]]):=by
 unfold tkK
 repeat' split
 all_goals exact⟨_,_,rfl,by simp⟩
theorem zli (k:Int):∃f,edK k= .clo f [] []:=by
 unfold edK
 repeat' split
 all_goals exact⟨_,rfl⟩
theorem zk5 (k:Int):∃f b g,hdK k= .agg [I (inK k),I (outK k),I (zD k),I (zH k),I (etyp k),Sl.av AV.str 1 (nmK k),.clo f [] b,.clo g [] []]∧(b=[]∨b=[.eptr [.clo 192 [] []]]):=by
 obtain⟨f,b,h1,h2⟩:=zkl k
 obtain⟨g,h3⟩:=zli k
 exact⟨f,b,g,by unfold hdK;rw[h1,h3],h2⟩
@[simp] theorem hd_len (k:Int):(hdK k).cells.length=8:=rfl
@[simp] theorem hd_cell (k:Int):(hdK k).cells.all AV.cell=true:=by
 obtain⟨f,b,g,h,_⟩:=zk5 k
 rw[h];rfl
@[simp] theorem hd_okO (k:Int):okO (hdK k)=some (hdK k):=by
 obtain⟨f,b,g,h,h2⟩:=zk5 k
 rw[h]
 rcases h2 with rfl|rfl<;>rfl
@[simp] theorem hd_whole (k:Int):zi true 8 (hdK k).cells=hdK k:=rfl
@[simp] theorem hd_fold (k:Int):AV.agg (hdK k).cells=hdK k:=rfl
@[simp] theorem hd_ld2 (k:Int):zi false 1 ((hdK k).cells.drop 2)=I (zD k):=rfl
@[simp] theorem hd_ld3 (k:Int):zi false 1 ((hdK k).cells.drop 3)=I (zH k):=rfl
@[simp] theorem hd_ld4 (k:Int):zi false 1 ((hdK k).cells.drop 4)=I (etyp k):=rfl
@[simp] theorem hd_st (k:Int):ze [.agg [.int .i64 0,.int .i64 0,.int .i64 0,.int .i64 0,.int .i64 0,.isl (some true) 0 [],.nilf,.nilf]] 0 0 (hdK k)=some [hdK k]:=rfl
@[simp] theorem sx_kind (x:Sg):zi false 1 (x.av.cells.drop 2)=I x.expr.kind:=rfl
@[simp] theorem sx_op (x:Sg):zi false 1 (x.av.cells.drop 3)=I x.expr.op:=rfl
@[simp] theorem sx_name (x:Sg):zi false 1 (x.av.cells.drop 4)= .str x.expr.name:=rfl
@[simp] theorem sx_value (x:Sg):zi false 1 (x.av.cells.drop 5)=I x.expr.value:=rfl
@[simp] theorem sx_args (x:Sg):zi false 1 (x.av.cells.drop 6)=Sl.av Ex.av 5 x.expr.args:=rfl
theorem zly (e:Ex):(e.kind=0∧e.op=0∧e.name=[]∧e.value=0∧e.args.l=[]∧za3 e=true)∨(e.kind≠0∧za3 e=false)∨(e.kind=0∧e.op≠0∧za3 e=false)∨(e.kind=0∧e.op=0∧e.name≠[]∧za3 e=false)∨(e.kind=0∧e.op=0∧e.name=[]∧e.value≠0∧za3 e=false)∨(e.kind=0∧e.op=0∧e.name=[]∧e.value=0∧e.args.l≠[]∧za3 e=false):=by
 by_cases h1:e.kind=0<;>by_cases h2:e.op=0<;>by_cases h3:e.name=[]<;>by_cases h4:e.value=0<;>by_cases h5:e.args.l=[]<;>simp[za3,h1,h2,h3,h4,h5]
theorem zxl (x:Sg) (hk:1≤x.kind∧x.kind≤10):evC W (cutC 4 c72) [(0,x.av)] []=some (.normal,[(1,.optr 0 0 0 0),(3,.optr 1 0 0 0),(5,.bool (za3 x.expr))],[.arr 0 8 false [x.av],.arr 0 8 false [hdK x.kind]]):=by
 have c1:=e112 x.kind hk
 rcases zly x.expr with⟨a1,a2,a3,a4,a5,a6⟩|⟨a1,a6⟩|⟨a1,a2,a6⟩|⟨a1,a2,a3,a6⟩|⟨a1,a2,a3,a4,a6⟩|⟨a1,a2,a3,a4,a5,a6⟩
 .simp[fi72,c72,cutC,c1,zM,a1,a2,a3,a4,a5,a6]
 .simp[fi72,c72,cutC,c1,zM,a1,a6]
 .simp[fi72,c72,cutC,c1,zM,a1,a2,a6]
 .simp[fi72,c72,cutC,c1,zM,a1,a2,a3,a6]
 .simp[fi72,c72,cutC,c1,zM,a1,a2,a3,a4,a6]
 .simp[fi72,c72,cutC,c1,zM,a1,a2,a3,a4,a5,a6]
theorem zwY (x:Sg) (k:Int) (z:Bool):evC W (cutC 1 (zB 4 c72)) [(1,.optr 0 0 0 0),(3,.optr 1 0 0 0),(5,.bool z)] [.arr 0 8 false [x.av],.arr 0 8 false [hdK k]]
  =if (zH k=0∧x.size≠0)∨(etyp k=0∧z=false)∨(x.kind≠1∧x.items.l≠[]) then some (.ret,[(2,I 1)],[.arr 0 8 false [x.av],.arr 0 8 false [hdK k]]) else some (.normal,[(1,.optr 0 0 0 0),(3,.optr 1 0 0 0),(70,.bool false)],[.arr 0 8 false [x.av],.arr 0 8 false [hdK k]]):=by
 have p5:(x.items.l=[]∧¬(0:Int)<x.items.l.length)∨(x.items.l≠[]∧(0:Int)<x.items.l.length):=by
  cases x.items.l with
  |nil=>simp
  |cons a r=>right;simp
 generalize hM:zH k=M
 generalize hE:etyp k=E
 by_cases p1:M=0<;>by_cases p2:x.size=0<;>by_cases p3:E=0<;>cases z<;>by_cases p4:x.kind=1<;>rcases p5 with⟨p5,p6⟩|⟨p5,p6⟩<;>simp[fi72,c72,cutC,zB,hM,hE,p1,p2,p3,p4,p5,p6]
theorem zts (R:Rec):∀(n:Nat) (c:LC) (F:Fr) (H:Heap) (F1:Fr) (H1:Heap),evC R (cutC n c) F H=some (.ret,F1,H1)→evC R c F H=some (.ret,F1,H1)
 |0,c,F,H,F1,H1,h=>by simp[cutC]at h
 |n+1,c,F,H,F1,H1,h=>by
  cases c with
  |seq a b=>
   simp only[cutC,zej]at h
   simp only[zej]
   cases ha:evC R a F H with
   |none=>rw[ha]at h;cases h
   |some p=>
    obtain⟨x,F2,H2⟩:=p
    rw[ha]at h
    cases x with
    |normal=>
     simp only[Option.bind_some,zex]at h⊢
     exact zts R n b F2 H2 F1 H1 h
    |ret=>simpa using h
    |exit i=>simp at h
  |_=>simpa only[cutC]using h
theorem zwp (x:Sg) (hx:x.items.l.length≤1048576) (hk:1≤x.kind∧x.kind≤10):okC (evC W (zB 5 c72) [(1,.optr 0 0 0 0),(3,.optr 1 0 0 0),(70,.bool false)] [.arr 0 8 false [x.av],.arr 0 8 false [hdK x.kind]])
  (fun q F H=>q= .ret∧F.get 2=I (if x.size<zD x.kind∨zH x.kind<x.size then 2 else if 200<x.items.l.length then 4 else if x.items.l.all isIt=false then 2 else if etyp x.kind=0 then 0 else ckE x.kind x.expr)):=by
 obtain⟨v,H',c1,rfl,c2⟩:=zz.1 (zsp x.items (by omega) (.clo 122 [] []) rfl (fun a=> !isIt a) [.arr 0 8 false [x.av],.arr 0 8 false [hdK x.kind]] (fun a _ H _=>zvX a H))
 rw[zhF]at c1
 have g0:H'[0]?=some (.arr 0 8 false [x.av]):=c2.get (by simp) rfl
 have g1:H'[1]?=some (.arr 0 8 false [hdK x.kind]):=c2.get (by simp) rfl
 by_cases h1:x.size<zD x.kind
 .simp[fi72,c72,zB,h1]
 by_cases h2:zH x.kind<x.size
 .simp[fi72,c72,zB,h1,h2]
 rw[if_neg (show ¬(x.size<zD x.kind∨zH x.kind<x.size) by omega)]
 by_cases h3:200<x.items.l.length
 .have h3':(200:Int)<x.items.l.length:=by omega
  simp[fi72,c72,zB,h1,h2,h3,h3']
 have h3':¬(200:Int)<x.items.l.length:=by omega
 rw[if_neg h3]
 cases h4:x.items.l.all isIt with
 |false=>
  rw[h4]at c1
  simp[fi72,c72,zB,h1,h2,h3',c1, -List.all_eq_true, -List.all_eq_false]
 |true=>
  rw[h4]at c1
  by_cases h5:etyp x.kind=0
  .simp[fi72,c72,zB,h1,h2,h3',c1,g0,g1,h5]
  .have hk4:x.kind=2∨x.kind=3∨x.kind=7∨x.kind=9:=by
    unfold etyp at h5;split at h5
    .omega
    .split at h5
     .omega
     .exact absurd rfl h5
   obtain⟨v,H2,d1,rfl,rfl⟩:=zz.1 (zsb H' x.kind hk4 x.expr)
   simp[fi72,c72,zB,h1,h2,h3',c1,g0,g1,h5,d1]
theorem e72 (x:Sg) (hx:x.items.l.length≤1048576):W.pure 72 [x.av]=some (I (sgI x)):=by
 rw[zd Φ72 (by simp)]
 unfold sgI
 by_cases hk:x.kind<1∨10<x.kind
 .have c1:=zA4 x.kind hk
  rw[if_pos hk]
  simp[fi72,c72,c1]
 .have hk':1≤x.kind∧x.kind≤10:=by omega
  rw[if_neg hk]
  have e:zam W fi72 [x.av] []=(evC W c72 [(0,x.av)] []).bind fun p=>match p.1 with
   | .exit _=>none
   |_=>(resV p.2.1 p.2.2 fi72.res).map fun v=>(v,p.2.2):=rfl
  rw[e,zae W 4 c72 _ _ _ _ (zxl x hk')]
  by_cases h1:(zH x.kind=0∧x.size≠0)∨(etyp x.kind=0∧za3 x.expr=false)∨(x.kind≠1∧x.items.l≠[])
  .rw[if_pos h1]
   have m:=zwY x x.kind (za3 x.expr)
   rw[if_pos h1]at m
   rw[zts W 1 (zB 4 c72) _ _ _ _ m]
   simp[fi72,resV,rvVs,rvV]
  .rw[if_neg h1]
   have m:=zwY x x.kind (za3 x.expr)
   rw[if_neg h1]at m
   rw[zae W 1 (zB 4 c72) _ _ _ _ m]
   obtain⟨q,F,H,d1,rfl,d2⟩:=zc.1 (zwp x hx hk')
   have hr:zB 1 (zB 4 c72)=zB 5 c72:=rfl
   rw[hr,d1]
   simp[fi72,resV,rvVs,rvV,d2]
theorem zkr {x:Sg} (h:sgI x=0):1≤x.kind∧x.kind≤10:=by
 unfold sgI at h
 split at h
 .cases h
 .omega
@[simp] theorem hd_ld0 (k:Int):zi false 1 (hdK k).cells=I (inK k):=rfl
@[simp] theorem hd_ld1 (k:Int):zi false 1 (hdK k).cells.tail=I (outK k):=rfl
@[simp] theorem hd_ld1' (k:Int):zi false 1 ((hdK k).cells.drop 1)=I (outK k):=rfl
theorem e68 (x:Sg) (hx:x.items.l.length≤1048576):W.pure 68 [x.av]=some (I (inN x)):=by
 rw[zd Φ68 (by simp)]
 have c1:=e72 x hx
 unfold inN
 by_cases h:sgI x=0
 .rw[h]at c1
  have c2:=e112 x.kind (zkr h)
  simp[fi68,c68,c1,c2,h]
 .simp[fi68,c68,c1,h]
theorem e73 (x:Sg) (hx:x.items.l.length≤1048576):W.pure 73 [x.av]=some (I (outN x)):=by
 rw[zd Φ73 (by simp)]
 have c1:=e72 x hx
 unfold outN
 by_cases h:sgI x=0
 .rw[h]at c1
  have c2:=e112 x.kind (zkr h)
  simp[fi73,c73,c1,c2,h]
 .simp[fi73,c73,c1,h]
theorem e102 (k:Int):W.pure 102 [I k]=some (I (etyp k)):=by
 rw[zd Φ102 rfl]
 unfold etyp
 by_cases h2:k=2
 .simp[ziL,c102,h2]
 by_cases h9:k=9
 .simp[ziL,c102,h9]
 rw[if_neg (by omega)]
 by_cases h3:k=3
 .simp[ziL,c102,h3]
 by_cases h7:k=7
 .simp[ziL,c102,h7]
 rw[if_neg (by omega)]
 simp[ziL,c102,h2,h3,h7,h9]
theorem zcl {H:Heap} {id ver:Nat} {l:List (List UInt8)} (h:H[id]?=some (.arr ver 1 false (l.map AV.str))) (hl:l.length≤1048576) (n:List UInt8):
  ex H (.app 1) [.osl id ver 0 l.length,.isl (some false) 1 [.str n]]=some (.osl id (ver+1) 0 (l.length+1),H.set id (.arr (ver+1) 1 false ((l++[n]).map AV.str))):=by
 have ht:truncH H (.osl id ver 0 l.length)=H:=by simp[truncH,h]
 have hr:l.length+1≤zaA:=by simp[zaA];omega
 simp[ex,zaH,ht,zb3,h,hr]
def insB (n a:List UInt8) (p:Bool):Bool:= !p&&Op.bytesLess n a
def zcN (n a:List UInt8) (s:List (List UInt8)×Bool):(List (List UInt8)×Bool)⊕Unit:=
 if a=n then .inr () else .inl (if insB n a s.2=true then (s.1++[n]++[a],true) else (s.1++[a],s.2))
theorem zg9 (n:List UInt8):∀(r:List (List UInt8)) (k:Nat) (s:List (List UInt8)×Bool),match zeK (fun _ a s=>zcN n a s) k r s with
  | .inr ()=>n∈r
  | .inl t=>t.1.length+(if s.2=true then 1 else 0)=s.1.length+r.length+(if t.2=true then 1 else 0)∧(∀m,m∈t.1∨(t.2=false∧m=n)↔m∈s.1∨m∈r∨(s.2=false∧m=n))∧(s.2=true→t.2=true)
 | [],k,s=>by simp[zeK]
 |a::r,k,s=>by
  unfold zeK
  by_cases h:a=n
  .have hst:zcN n a s= .inr ():=by simp[zcN,h]
   rw[hst]
   simp[h]
  .have hst:zcN n a s= .inl (if insB n a s.2=true then (s.1++[n]++[a],true) else (s.1++[a],s.2)):=by simp[zcN,h]
   rw[hst]
   simp only
   cases hb:insB n a s.2 with
   |true=>
    have hs:s.2=false:=by cases h2:s.2 with|false=>rfl|true=>rw[h2]at hb;simp[insB]at hb
    have ih:=zg9 n r (k+1) (s.1++[n]++[a],true)
    rw[if_pos rfl]
    split
    .rename_i u hu
     rw[hu]at ih
     exact List.mem_cons_of_mem _ ih
    .rename_i t ht
     rw[ht]at ih
     simp only at ih
     obtain⟨i1,i2,i3⟩:=ih
     refine⟨by simp[hs,i3]at i1⊢;omega,fun m=>?_,fun _=>i3 trivial⟩
     rw[i2]
     simp only[List.mem_append,lMc,List.not_mem_nil,Bool.true_eq_false,false_and,or_false,hs,true_and]
     constructor
     .rintro (((h|h)|h)|h)
      .exact .inl h
      .exact .inr (.inr h)
      .exact .inr (.inl (.inl h))
      .exact .inr (.inl (.inr h))
     .rintro (h|(h|h)|h)
      .exact .inl (.inl (.inl h))
      .exact .inl (.inr h)
      .exact .inr h
      .exact .inl (.inl (.inr h))
   |false=>
    have ih:=zg9 n r (k+1) (s.1++[a],s.2)
    rw[if_neg Bool.false_ne_true]
    split
    .rename_i u hu
     rw[hu]at ih
     exact List.mem_cons_of_mem _ ih
    .rename_i t ht
     rw[ht]at ih
     simp only at ih
     obtain⟨i1,i2,i3⟩:=ih
     refine⟨by simp at i1⊢;omega,fun m=>?_,i3⟩
     rw[i2]
     simp only[List.mem_append,lMc,List.not_mem_nil,false_or,or_assoc,or_false]
theorem e219 (x:Sl (List UInt8)) (hx:x.l.length≤1000000) (n:List UInt8):∃y:Sl (List UInt8),W.pure 219 [Sl.av AV.str 1 x,.str n]=some (Sl.av AV.str 1 y)∧(∀m,m∈y.l↔m=n∨m∈x.l)∧y.l.length≤x.l.length+1:=by
 have hL:=zce (Φ:=Φ) (live:=[0,1,5,6,7]) (L:=znD) x.l (fun _ a s=>zcN n a s)
  (fun k s F H=>F=[(0,Sl.av AV.str 1 x),(1,.str n),(5,.osl 0 s.1.length 0 s.1.length),(6,.bool s.2),(7,I k)]∧H=[.arr s.1.length 1 false (s.1.map AV.str)]∧s.1.length≤k+if s.2=true then 1 else 0)
  (fun _ q F H=>q= .ret∧F.get 4=Sl.av AV.str 1 x)
  (fun s q F H=>q= .exit 0∧F.keep [1,5,6]=[(1,.str n),(5,.osl 0 s.1.length 0 s.1.length),(6,.bool s.2)]∧H=[.arr s.1.length 1 false (s.1.map AV.str)]∧s.1.length≤1000001)
  (s:=([],false)) (F:=[(0,Sl.av AV.str 1 x),(1,.str n),(5,.osl 0 0 0 0),(6,.bool false),(7,I 0)]) (H:=[.arr 0 1 false []]) ⟨rfl,rfl,by simp⟩ ?_ ?_
 .have hf:=zg9 n x.l 0 ([],false)
  rw[zd Φ219 rfl]
  generalize zeK (fun _ a s=>zcN n a s) 0 x.l ([],false)=z at hL hf
  obtain⟨q,F,H,d1,d2⟩:=zc.1 hL
  cases z with
  |inr u=>
   simp only at hf
   obtain⟨rfl,d3⟩:=d2
   refine⟨x,by simp[zl2,c219,d1,d3],fun m=>?_,by omega⟩
   constructor
   .exact fun h=> .inr h
   .rintro (rfl|h)
    .exact hf
    .exact h
  |inl t=>
   simp only at hf
   obtain⟨i1,i2,i3⟩:=hf
   obtain⟨rfl,d3,rfl,d4⟩:=d2
   obtain⟨l,p⟩:=t
   simp only at i1 i2 d3 d4 d1
   cases p with
   |true=>
    refine⟨ofL 1 l,?_,fun m=>?_,by simp at i1;simp[ofL];omega⟩
    .have hz:=zdJ (H:=[.arr l.length 1 false (l.map AV.str)]) (n:=7) (id:=0) (v:=l.length) (sz:=1) (len:=l.length) (sh:=false) (es:=l.map AV.str) rfl (by simp) (zbn (by simp) l)
     rw[zcs]at hz
     simp[zl2,c219,d1,d3,hz]
    .have:=i2 m
     simp at this
     simp[ofL,this,or_comm]
   |false=>
    have ha:=zcl (H:=[.arr l.length 1 false (l.map AV.str)]) (id:=0) rfl (by omega) n
    refine⟨ofL 1 (l++[n]),?_,fun m=>?_,by simp at i1;simp[ofL];omega⟩
    .have hz:=zdJ (H:=[.arr (l.length+1) 1 false ((l++[n]).map AV.str)]) (n:=7) (id:=0) (v:=l.length+1) (sz:=1) (len:=l.length+1) (sh:=false) (es:=(l++[n]).map AV.str) rfl (by simp) (zbn (by simp) _)
     rw[zcs]at hz
     simp at ha hz
     simp[zl2,c219,d1,d3,ha,hz]
    .have:=i2 m
     simp at this
     simp[ofL]
     rw[this,or_comm]
 .rintro k a ⟨l,p⟩ F H hk ha ⟨rfl,rfl,hl⟩
  have hka:x.l[k]=a:=(gEs.1 ha).2
  have hk':(k:Int)<x.l.length:=by omega
  have hw:=zg (k:=k) (by omega)
  simp only at hl
  have hl':l.length≤k+1:=by split at hl<;>omega
  unfold zcN
  by_cases h:a=n
  .simp[zdQ,zfR,hk,hk',hka,h,zM]
  .rw[if_neg h]
   have ha1:=zcl (H:=[.arr l.length 1 false (l.map AV.str)]) (id:=0) rfl (by omega) a
   have ha2:=zcl (H:=[.arr l.length 1 false (l.map AV.str)]) (id:=0) rfl (by omega) n
   have ha3:=zcl (H:=[.arr (l.length+1) 1 false ((l++[n]).map AV.str)]) (id:=0) (ver:=l.length+1) (l:=l++[n]) (by simp) (by simp;omega) a
   simp at ha1 ha2 ha3
   cases p with
   |true=>
    simp at hl
    simp[zdQ,zfR,hk,hk',hka,h,zM,hw,insB,ha1]
    omega
   |false=>
    simp at hl
    cases hb:Op.bytesLess n a with
    |true=>
     simp[zdQ,zfR,hk,hk',hka,h,zM,hw,insB,hb,ha2,ha3]
     omega
    |false=>
     simp[zdQ,zfR,hk,hk',hka,h,zM,hw,insB,hb,ha1]
     omega
 .rintro⟨l,p⟩ F H ⟨rfl,rfl,hl⟩
  have hl:l.length≤x.l.length+1:=by simp only at hl;split at hl<;>omega
  simp[zdQ,zfR]
  omega
def rNm (e:Ex) (m:List UInt8):Prop:=∃x∈e.parts,x.kind=2∧x.name=m
theorem Ex.partss_mem {x:Ex}:∀{l:List Ex},x∈Ex.partss l↔∃a∈l,x∈a.parts
 | []=>by simp[Ex.partss]
 |a::r=>by simp[Ex.partss,Ex.partss_mem (l:=r)]
theorem ztc {e:Ex} (h:ExV e) (m:List UInt8):rNm e m↔(e.kind=2∧e.name=m)∨∃a∈e.args.l,rNm a m:=by
 unfold rNm
 rw[Ex.parts_eq]
 constructor
 .rintro⟨x,hx,h1,h2⟩
  rcases lMc.1 hx with rfl|hx
  .exact .inl ⟨h1,h2⟩
  .obtain⟨a,ha,hx⟩:=Ex.partss_mem.1 hx
   exact .inr ⟨a,ha,x,hx,h1,h2⟩
 .rintro (⟨h1,h2⟩|⟨a,ha,x,hx,h1,h2⟩)
  .exact⟨e,by simp,h1,h2⟩
  .exact⟨x,List.mem_cons_of_mem _ (Ex.partss_mem.2 ⟨a,ha,hx⟩),h1,h2⟩
theorem ExV.noargs {e:Ex} (h:ExV e) (hk:e.kind=2):e.args.l=[]:=by
 have h0:=h.head
 unfold zU at h0
 split at h0
 .cases h0
 .split at h0
  .cases h0
  .rename_i h1 h2
   have h3:zaG e=true:=by cases hb:zaG e with|true=>rfl|false=>exact absurd hb h2
   unfold zaG at h3
   simp[hk]at h3
   have:=h3.2
   cases hl:e.args.l with
   |nil=>rfl
   |cons a r=>rw[hl]at this;simp at this
theorem zua (e:Ex) (he:e.args.l.length≤1000000) (ih:∀a∈e.args.l,∀(x:Sl (List UInt8)),x.l.length+a.size≤1000000→∃y:Sl (List UInt8),W.pure 177 [a.av,Sl.av AV.str 1 x]=some (Sl.av AV.str 1 y)∧(∀m,m∈y.l↔rNm a m∨m∈x.l)∧y.l.length≤x.l.length+a.size):
  ∀(r:List Ex) (k:Nat) (x:Sl (List UInt8)),e.args.l.drop k=r→k≤e.args.l.length→x.l.length+Ex.sizes r≤1000000→
  okC (W.loop [1,2,5] znJ [(1,Sl.av AV.str 1 x),(2,.optr 0 0 0 0),(5,I k)] [.arr 0 5 false [e.av]])
   (fun q F H=>∃y:Sl (List UInt8),q= .exit 0∧F.get 1=Sl.av AV.str 1 y∧(∀m,m∈y.l↔(∃a∈r,rNm a m)∨m∈x.l)∧y.l.length≤x.l.length+Ex.sizes r):=by
 intro r
 induction r with
 |nil=>
  intro k x h1 h2 hs
  have hk:=zf h1 h2
  rw[zb]
  simp[zle,zlr,hk]
  exact⟨x,rfl,by simp,by omega⟩
 |cons a r ihr=>
  intro k x h1 h2 hs
  obtain⟨hlt,ha,hr⟩:=zn h1
  have hlt':(k:Int)<e.args.l.length:=by omega
  have hak:e.args.l[k]=a:=(gEs.1 ha).2
  have hw:=zg (k:=k) (by omega)
  simp only[Ex.sizes]at hs
  obtain⟨y,c1,c2,c3⟩:=ih a (zac h1) x (by omega)
  have hJ:=ihr (k+1) y hr (by omega) (by omega)
  simp only[iNa,iCo]at hJ
  obtain⟨q,F,H,d1,z,rfl,d2,d3,d4⟩:=zc.1 hJ
  rw[zb]
  simp[zle,zlr,hlt,hak,c1,hw,d1,d2]
  refine⟨z,rfl,fun m=>?_,by simp only[Ex.sizes];omega⟩
  rw[d3,c2]
  constructor
  .rintro (h|h|h)
   .exact .inl (.inr h)
   .exact .inl (.inl h)
   .exact .inr h
  .rintro ((h|h)|h)
   .exact .inr (.inl h)
   .exact .inl h
   .exact .inr (.inr h)
theorem e177:∀(e:Ex),ExV e→∀(x:Sl (List UInt8)),x.l.length+e.size≤1000000→∃y:Sl (List UInt8),W.pure 177 [e.av,Sl.av AV.str 1 x]=some (Sl.av AV.str 1 y)∧(∀m,m∈y.l↔rNm e m∨m∈x.l)∧y.l.length≤x.l.length+e.size:=by
 refine Ex.ind (fun e ih=>?_)
 intro hv x hx
 rw[Ex.size_eq]at hx⊢
 by_cases hk:e.kind=2
 .obtain⟨y,c1,c2,c3⟩:=e219 x (by omega) e.name
  refine⟨y,?_,fun m=>?_,by omega⟩
  .rw[zd Φ177 (by simp)]
   simp[zou,c177,hk,c1]
  .rw[c2,ztc hv,hv.noargs hk]
   simp[hk,eq_comm]
 .have hl:=Ex.len_sizes e.args.l
  obtain⟨q,F,H,d1,z,rfl,d2,d3,d4⟩:=zc.1 (zua e (by omega) (fun a ha=>ih a ha (hv.arg ha)) e.args.l 0 x rfl (by omega) (by omega))
  refine⟨z,?_,fun m=>?_,by omega⟩
  .rw[zd Φ177 (by simp)]
   simp at d1
   simp[zou,c177,hk,d1,d2]
  .rw[d3,ztc hv]
   simp[hk]
theorem e149 (e:Ex) (hz:zF e=0):∃y:Sl (List UInt8),W.pure 149 [e.av]=some (Sl.av AV.str 1 y)∧(∀m,m∈y.l↔m∈zch e)∧y.l.length≤100:=by
 have hs:=zfJ hz
 have c0:=e161 e
 rw[hz]at c0
 obtain⟨y,c1,c2,c3⟩:=e177 e (.of hz) (ofL 1 []) (by simp[ofL];omega)
 simp only[ofL,List.length_nil,List.not_mem_nil,or_false]at c2 c3
 refine⟨y,?_,fun m=>by rw[c2,zfI];rfl,by omega⟩
 rw[zd Φ149 (by simp)]
 have c1':W.pure 177 [e.av,.isl (some false) 1 []]=some (Sl.av AV.str 1 y):=c1
 simp[zrP,c149,c0,c1']
theorem e101 (a l h:Int):W.pure 101 [I a,I l,I h]=some (.bool (decide (l≤a)&&decide (a≤h))):=by
 rw[zd Φ101 rfl]
 by_cases h1:l≤a<;>simp[zrY,c101,h1]
theorem e140 (n:Int):W.pure 140 [I n]=some (.bool (isIt n)):=by
 rw[zd Φ140 rfl]
 have c1:=e101 n (-1099511627776) 1099511627776
 simp[zrR,c140,c1,isIt]
theorem zuh (x:Sl Int) (hx:x.l.length≤1048576):okC (W.loop [0,3] zkZ [(0,Sl.av I 1 x),(3,I 0)] [])
  (fun q F G=>if x.l.all isIt=true then q= .exit 0 else q= .ret∧F.get 2=I 2):=by
 have hL:=zce (Φ:=Φ) (live:=[0,3]) (L:=zkZ) x.l (fun _ a (_:Unit)=>if isIt a=true then .inl () else (.inr ():Unit⊕Unit))
  (fun k _ F G=>F=[(0,Sl.av I 1 x),(3,I k)]∧G=[]) (fun _ q F G=>q= .ret∧F.get 2=I 2) (fun _ q F G=>q= .exit 0) (s:=())
  (F:=[(0,Sl.av I 1 x),(3,I 0)]) (H:=[]) ⟨rfl,rfl⟩ ?_ ?_
 .rw[zcP]at hL
  cases h:x.l.all isIt with
  |true=>rw[h]at hL;simp only[if_true]at hL⊢;exact hL
  |false=>rw[h]at hL;simp only[bFt,if_false]at hL⊢;exact hL
 .rintro k a ⟨⟩ F G hk ha ⟨rfl,rfl⟩
  have hka:x.l[k]=a:=(gEs.1 ha).2
  have hk':(k:Int)<x.l.length:=by omega
  have hw:=zg (k:=k) (by omega)
  have c1:=e140 a
  cases hp:isIt a with
  |true=>rw[hp]at c1;simp[zhu,zjd,hk,hk',hka,c1,hw]
  |false=>rw[hp]at c1;simp[zhu,zjd,hk,hk',hka,c1,hw]
 .rintro⟨⟩ F G ⟨rfl,rfl⟩
  simp[zhu,zjd]
def strI (l:List Int):Int:=if 200<l.length then 4 else if l.all isIt=false then 2 else 0
theorem e104 (x:Sl Int) (hx:x.l.length≤1048576):W.pure 104 [Sl.av I 1 x]=some (I (strI x.l)):=by
 rw[zd Φ104 rfl]
 unfold strI
 by_cases h:200<x.l.length
 .have h':(200:Int)<x.l.length:=by omega
  simp[zl9,c104,h,h']
 have h':¬(200:Int)<x.l.length:=by omega
 obtain⟨q,F,G,d1,d2⟩:=zc.1 (zuh x hx)
 rw[if_neg h]
 cases ha:x.l.all isIt with
 |true=>
  rw[ha]at d2
  simp only[if_true]at d2
  subst d2
  simp[zl9,c104,h',d1]
 |false=>
  rw[ha]at d2
  simp only[bFt,if_false]at d2
  obtain⟨rfl,d3⟩:=d2
  simp[zl9,c104,h',d1,d3]
def okNm (k:Int) (s:List UInt8):Bool:=decide (s=[120])||(decide (s=[121])&&decide (k=9))
theorem zno {k:Int} (hk:etyp k≠0) (s:List UInt8):okNm k s=decide (s∈zd5 k):=by
 unfold okNm zd5
 by_cases h9:k=9
 .simp[h9,xN,yN]
 .have:k=2∨k=3∨k=7:=by
   unfold etyp at hk;split at hk
   .omega
   .split at hk
    .omega
    .exact absurd rfl hk
  rw[if_neg h9,if_pos this]
  simp[h9,xN]
theorem zug (x:Sg) (y:Sl (List UInt8)) (hy:y.l.length≤1000000):okC (W.loop [1,4,5] zkY [(1,.optr 0 0 0 0),(4,Sl.av AV.str 1 y),(5,I 0)] [.arr 0 8 false [x.av]])
  (fun q F G=>if y.l.all (okNm x.kind)=true then q= .exit 0∧F.keep [1]=[(1,.optr 0 0 0 0)]∧G=[.arr 0 8 false [x.av]] else q= .ret∧F.get 2=I 5):=by
 have hL:=zce (Φ:=Φ) (live:=[1,4,5]) (L:=zkY) y.l (fun _ a (_:Unit)=>if okNm x.kind a=true then .inl () else (.inr ():Unit⊕Unit))
  (fun k _ F G=>F=[(1,.optr 0 0 0 0),(4,Sl.av AV.str 1 y),(5,I k)]∧G=[.arr 0 8 false [x.av]]) (fun _ q F G=>q= .ret∧F.get 2=I 5) (fun _ q F G=>q= .exit 0∧F.keep [1]=[(1,.optr 0 0 0 0)]∧G=[.arr 0 8 false [x.av]]) (s:=())
  (F:=[(1,.optr 0 0 0 0),(4,Sl.av AV.str 1 y),(5,I 0)]) (H:=[.arr 0 8 false [x.av]]) ⟨rfl,rfl⟩ ?_ ?_
 .rw[zcP]at hL
  cases h:y.l.all (okNm x.kind) with
  |true=>rw[h]at hL;simp only[if_true]at hL⊢;exact hL
  |false=>rw[h]at hL;simp only[bFt,if_false]at hL⊢;exact hL
 .rintro k a ⟨⟩ F G hk ha ⟨rfl,rfl⟩
  have hka:y.l[k]=a:=(gEs.1 ha).2
  have hk':(k:Int)<y.l.length:=by omega
  have hw:=zg (k:=k) (by omega)
  by_cases h1:a=[120]
  .simp[zdS,zfT,hk,hk',hka,hw,okNm,h1,zM]
  .by_cases h2:a=[121]
   .by_cases h3:x.kind=9
    .simp[zdS,zfT,hk,hk',hka,hw,okNm,h2,h3,zM]
    .simp[zdS,zfT,hk,hk',hka,hw,okNm,h2,h3,zM]
   .simp[zdS,zfT,hk,hk',hka,hw,okNm,h1,h2,zM]
 .rintro⟨⟩ F G ⟨rfl,rfl⟩
  simp[zdS,zfT]
theorem e105 (x:Sg) (hk:etyp x.kind≠0):W.pure 105 [x.av]=some (I (ckE x.kind x.expr)):=by
 rw[zd Φ105 (by simp)]
 unfold ckE
 have c0:=e161 x.expr
 by_cases h:zF x.expr=0
 rotate_left
 .rw[if_pos h]
  simp[ziK,c105,c0,h]
 rw[if_neg (by simp[h])]
 rw[h]at c0
 obtain⟨y,c1,c2,c3⟩:=e149 x.expr h
 obtain⟨q,F,G,d1,d2⟩:=zc.1 (zug x y (by omega))
 have ha:y.l.all (okNm x.kind)=(zch x.expr).all fun s=>decide (s∈zd5 x.kind):=by
  rw[Bool.eq_iff_iff,lAt,lAt]
  constructor
  .intro g s hs;rw[←zno hk];exact g s ((c2 s).2 hs)
  .intro g s hs;rw[zno hk];exact g s ((c2 s).1 hs)
 rw[ha]at d2
 cases hn:(zch x.expr).all fun s=>decide (s∈zd5 x.kind) with
 |false=>
  rw[hn]at d2
  simp only[bFt,if_false]at d2
  obtain⟨rfl,d3⟩:=d2
  simp[ziK,c105,c0,c1,d1,d3]
 |true=>
  rw[hn]at d2
  simp only[if_true]at d2
  obtain⟨rfl,d3,rfl⟩:=d2
  have c4:=e151 0 0
  have c5:=zxD 0 0 rfl rfl x.expr
  have c6:=e102 x.kind
  have e1:tyR (b2L 0 0).l x.expr=tyE (bnd2 0 0) x.expr:=by unfold tyR;rw[if_neg (by simp[h])];rfl
  rw[e1]at c5
  generalize tyE (bnd2 0 0) x.expr=p at c5⊢
  obtain⟨t,f⟩:=p
  simp only at c5
  by_cases hf:f=0
  .subst hf
   by_cases ht:t=etyp x.kind
   .subst ht
    simp[ziK,c105,c0,c1,d1,d3,c4,c5,c6]
   .simp[ziK,c105,c0,c1,d1,d3,c4,c5,c6,ht]
  .simp[ziK,c105,c0,c1,d1,d3,c4,c5,c6,hf]
theorem ztO (x:Sg):sgI x=if x.kind<1∨10<x.kind then 8
 else if (zH x.kind=0∧x.size≠0)∨(etyp x.kind=0∧za3 x.expr=false)∨(x.kind≠1∧x.items.l≠[]) then 1
 else if x.size<zD x.kind∨zH x.kind<x.size then 2
 else if strI x.items.l≠0 then strI x.items.l else if etyp x.kind=0 then 0 else ckE x.kind x.expr:=by
 unfold sgI strI
 by_cases h1:200<x.items.l.length
 .simp[h1]
 .cases h2:x.items.l.all isIt with
  |true=>simp[h1, -List.all_eq_true]
  |false=>simp[h1, -List.all_eq_false]
theorem e61 (x:Sg) (hx:x.items.l.length≤1048576):W.pure 61 [x.av]=some (I (sgI x)):=by
 rw[zd Φ61 (by simp),ztO]
 have c1:=e101 x.kind 1 10
 by_cases hk:x.kind<1∨10<x.kind
 .rw[if_pos hk]
  have:(decide (1≤x.kind)&&decide (x.kind≤10))=false:=by
   rcases hk with h|h
   .simp;omega
   .simp;omega
  rw[this]at c1
  simp[fi61,c61,c1]
 rw[if_neg hk]
 have:(decide (1≤x.kind)&&decide (x.kind≤10))=true:=by simp;omega
 rw[this]at c1
 have c2:=e102 x.kind
 have c3:=e160 x.expr
 have c4:=e104 x.items hx
 have c5:=e105 x
 have c6:=e101 x.size 1 100
 have c7:=e101 x.size 0 100
 have c8:=e101 x.size 0 200
 generalize strI x.items.l=S at c4⊢
 have p5:(x.items.l=[]∧¬(0:Int)<x.items.l.length)∨(x.items.l≠[]∧(0:Int)<x.items.l.length):=by
  cases x.items.l with
  |nil=>simp
  |cons a r=>right;simp
 by_cases k4:x.kind=4
 .have hE:etyp x.kind=0:=by simp[etyp,k4]
  have hM:zH x.kind=100:=by simp[zH,k4]
  have hL:zD x.kind=1:=by simp[zD,k4]
  rw[hE,k4]at c2
  rw[k4]at c1
  rw[hE,hM,hL]
  cases hz:za3 x.expr with
  |false=>rw[hz]at c3;rcases p5 with⟨p5,p6⟩|⟨p5,p6⟩<;>simp[fi61,c61,c1,c2,c3,k4,p5,p6]
  |true=>
   rw[hz]at c3
   rcases p5 with⟨p5,p6⟩|⟨p5,p6⟩
   rotate_left
   .simp[fi61,c61,c1,c2,c3,k4,p5,p6]
   by_cases q1:x.size<1
   .simp[fi61,c61,c1,c2,c3,c6,k4,p5,p6,q1,show ¬1≤x.size by omega]
   by_cases q2:100<x.size
   .simp[fi61,c61,c1,c2,c3,c6,k4,p5,p6,q1,q2,show 1≤x.size by omega,show ¬x.size≤100 by omega]
   by_cases hS:S=0
   .simp[fi61,c61,c1,c2,c3,c4,c6,k4,p5,p6,q1,q2,show 1≤x.size by omega,show x.size≤100 by omega,hS]
   .simp[fi61,c61,c1,c2,c3,c4,c6,k4,p5,p6,q1,q2,show 1≤x.size by omega,show x.size≤100 by omega,hS]
 by_cases k5:x.kind=5
 .have hE:etyp x.kind=0:=by simp[etyp,k5]
  have hM:zH x.kind=100:=by simp[zH,k5]
  have hL:zD x.kind=0:=by simp[zD,k5]
  rw[hE,k5]at c2
  rw[k5]at c1
  rw[hE,hM,hL]
  cases hz:za3 x.expr with
  |false=>rw[hz]at c3;rcases p5 with⟨p5,p6⟩|⟨p5,p6⟩<;>simp[fi61,c61,c1,c2,c3,k5,p5,p6]
  |true=>
   rw[hz]at c3
   rcases p5 with⟨p5,p6⟩|⟨p5,p6⟩
   rotate_left
   .simp[fi61,c61,c1,c2,c3,k5,p5,p6]
   by_cases q1:x.size<0
   .simp[fi61,c61,c1,c2,c3,c7,k5,p5,p6,q1,show ¬0≤x.size by omega]
   by_cases q2:100<x.size
   .simp[fi61,c61,c1,c2,c3,c7,k5,p5,p6,q1,q2,show 0≤x.size by omega,show ¬x.size≤100 by omega]
   by_cases hS:S=0
   .simp[fi61,c61,c1,c2,c3,c4,c7,k5,p5,p6,q1,q2,show 0≤x.size by omega,show x.size≤100 by omega,hS]
   .simp[fi61,c61,c1,c2,c3,c4,c7,k5,p5,p6,q1,q2,show 0≤x.size by omega,show x.size≤100 by omega,hS]
 by_cases k6:x.kind=6
 .have hE:etyp x.kind=0:=by simp[etyp,k6]
  have hM:zH x.kind=200:=by simp[zH,k6]
  have hL:zD x.kind=0:=by simp[zD,k6]
  rw[hE,k6]at c2
  rw[k6]at c1
  rw[hE,hM,hL]
  cases hz:za3 x.expr with
  |false=>rw[hz]at c3;rcases p5 with⟨p5,p6⟩|⟨p5,p6⟩<;>simp[fi61,c61,c1,c2,c3,k6,p5,p6]
  |true=>
   rw[hz]at c3
   rcases p5 with⟨p5,p6⟩|⟨p5,p6⟩
   rotate_left
   .simp[fi61,c61,c1,c2,c3,k6,p5,p6]
   by_cases q1:x.size<0
   .simp[fi61,c61,c1,c2,c3,c8,k6,p5,p6,q1,show ¬0≤x.size by omega]
   by_cases q2:200<x.size
   .simp[fi61,c61,c1,c2,c3,c8,k6,p5,p6,q1,q2,show 0≤x.size by omega,show ¬x.size≤200 by omega]
   by_cases hS:S=0
   .simp[fi61,c61,c1,c2,c3,c4,c8,k6,p5,p6,q1,q2,show 0≤x.size by omega,show x.size≤200 by omega,hS]
   .simp[fi61,c61,c1,c2,c3,c4,c8,k6,p5,p6,q1,q2,show 0≤x.size by omega,show x.size≤200 by omega,hS]
 have hM:zH x.kind=0:=by simp[zH,k4,k5,k6]
 have hL:zD x.kind=0:=by simp[zD,k4]
 rw[hM,hL]
 generalize hE:etyp x.kind=E at c2 c5⊢
 by_cases q1:x.size=0
 rotate_left
 .simp[fi61,c61,c1,k4,k5,k6,q1]
 rcases p5 with⟨p5,p6⟩|⟨p5,p6⟩
 .by_cases hE0:E=0
  .cases hz:za3 x.expr with
   |false=>rw[hz]at c3;simp[fi61,c61,c1,c2,c3,k4,k5,k6,q1,p5,p6,hE0]
   |true=>rw[hz]at c3;by_cases hS:S=0<;>simp[fi61,c61,c1,c2,c3,c4,k4,k5,k6,q1,p5,p6,hE0,hS]
  .have c5:=c5 hE0
   by_cases hS:S=0<;>simp[fi61,c61,c1,c2,c4,c5,k4,k5,k6,q1,p5,p6,hE0,hS]
 .by_cases k1:x.kind=1
  .rw[k1]at c1 c2
   by_cases hE0:E=0
   .cases hz:za3 x.expr with
    |false=>rw[hz]at c3;simp[fi61,c61,c1,c2,c3,k1,q1,p5,p6,hE0]
    |true=>rw[hz]at c3;by_cases hS:S=0<;>simp[fi61,c61,c1,c2,c3,c4,k1,q1,p5,p6,hE0,hS]
   .exfalso;rw[k1]at hE;simp[etyp]at hE;exact hE0 hE.symm
  .simp[fi61,c61,c1,k1,k4,k5,k6,q1,p5,p6]
theorem e63 (x:Sg) (hx:x.items.l.length≤1048576):W.pure 63 [x.av]=some (I (outN x)):=by
 rw[zd Φ63 (by simp)]
 have c1:=e61 x hx
 unfold outN
 by_cases h:sgI x=0
 .rw[h]at c1
  rw[if_neg (by simp[h])]
  unfold outK
  by_cases h10:x.kind=10
  .simp[fi63,c63,c1,h10]
  by_cases h7:x.kind=7
  .simp[fi63,c63,c1,h10,h7]
  .simp[fi63,c63,c1,h10,h7]
 .simp[fi63,c63,c1,h]
theorem e64 (x:Sg) (hx:x.items.l.length≤1048576):W.pure 64 [x.av]=some (I (inN x)):=by
 rw[zd Φ64 (by simp)]
 have c1:=e61 x hx
 unfold inN
 by_cases h:sgI x=0
 .rw[h]at c1
  rw[if_neg (by simp[h])]
  unfold inK
  by_cases h1:x.kind=1
  .simp[fi64,c64,c1,h1]
  by_cases h8:x.kind=8
  .simp[fi64,c64,c1,h1,h8]
  by_cases h9:x.kind=9
  .simp[fi64,c64,c1,h1,h8,h9]
  .simp[fi64,c64,c1,h1,h8,h9]
 .simp[fi64,c64,c1,h]
theorem zgX (x:Sg):outN x≤2:=by unfold outN;split;omega;exact zcd _
theorem e141 (x:Sg) (hx:x.items.l.length≤1048576) (a b:Sl Int):∃y:Sl (Sl Int),W.pure 141 [x.av,Sl.av I 1 a,Sl.av I 1 b]=some (Sl.av (Sl.av I 1) 1 y)∧y.l=[a,b].take (outN x)∧SlN y:=by
 have c1:=e63 x hx
 have h:=zgX x
 have h':((outN x:Nat):Int)≤2:=by omega
 refine⟨⟨some false,1,[a,b].take (outN x)⟩,?_,rfl,.inr rfl,by simp only[List.length_take];simp;omega⟩
 rw[zd Φ141 (by simp)]
 have e1:(AV.isl (some false) 1 [Sl.av I 1 a,Sl.av I 1 b])=Sl.av (Sl.av I 1) 1 (ofL 1 [a,b]):=rfl
 have h3:outN x=0∨outN x=1∨outN x=2:=by omega
 rcases h3 with h3|h3|h3<;>rw[h3]at c1⊢<;>simp[zrQ,c141,c1,e1]<;>rfl
theorem e144 (x:Sg) (s:Ss) (hs:SlN s.held) (hl:s.held.l.length≤1000000) (i:Int) (h9:x.kind=9→(i=0∨i=1)∧0≤s.count∧s.count≤3):W.pure 144 [x.av,s.av,I i]=some (.bool (zaz x s.pl i)):=by
 rw[zd Φ144 (by simp)]
 unfold zaz
 by_cases k8:x.kind=8
 .have c1:=zvL s.held hl i
  simp[zl6,c144,k8,c1,Ss.pl]
  exact decide_eq_decide.2 Iff.rfl
 by_cases k9:x.kind=9
 .obtain⟨hi,h1,h2⟩:=h9 k9
  have hc:s.count=0∨s.count=1∨s.count=2∨s.count=3:=by omega
  rcases hi with rfl|rfl<;>rcases hc with hc|hc|hc|hc<;>simp[zl6,c144,k9,hc,Ss.pl,shrI,zlp]<;>decide
 .simp[zl6,c144,k8,k9,Ss.pl]
theorem e173 (x:Sg) (hg:sgI x=0):W.pure 173 [x.av]=some (.tuple [I (zI x),I (zT x)]):=by
 rw[zd Φ173 (by simp)]
 unfold zI zT
 by_cases k1:x.kind=1
 .simp[zhc,c173,k1]
 by_cases k6:x.kind=6
 .simp[zhc,c173,k1,k6]
 by_cases k8:x.kind=8
 .simp[zhc,c173,k1,k6,k8]
 by_cases k9:x.kind=9
 .simp[zhc,c173,k1,k6,k8,k9]
 by_cases k4:x.kind=4
 .have:=zaZ hg
  have hM:zH x.kind=100:=by simp[zH,k4]
  have hL:zD x.kind=1:=by simp[zD,k4]
  have w:IntKind.wrap .i64 (x.size - 1)=x.size - 1:=zr (by omega) (by omega)
  simp[zhc,c173,k1,k6,k8,k9,k4,w]
 .simp[zhc,c173,k1,k6,k8,k9,k4]
theorem zvV (n:Int) (H:Heap):W.call (.clo 174 [] []) [I n] H=some (.bool (!isIt n),H):=by
 rw[zj Φ174]
 have c1:=e116 n
 simp[zrI,c174,c1]
theorem t143 (H:Heap) (s:Ss) (hl:s.held.l.length≤2) (h1:H[1]?=some (.arr 0 3 false [s.av])):okC (W.loop [3,49,50,51] znQ [(3,.optr 1 0 0 0),(49,Sl.av I 1 s.held),(50,I s.held.l.length),(51,I 0)] H)
  (fun q F H'=>if zap s.held.l=true then q= .exit 1∧F.keep [3]=[(3,.optr 1 0 0 0)]∧H'=H else q= .ret∧F.get 4= .bool false):=by
 have w1:IntKind.wrap .i64 1=1:=zr (by omega) (by omega)
 have w2:IntKind.wrap .i64 2=2:=zr (by omega) (by omega)
 have w0:IntKind.wrap .i64 0=0:=zr (by omega) (by omega)
 match hh:s.held.l,hl with
 | [],_=>
  rw[zb]
  simp[zaM,zbQ,hh,zap]
 | [a],_=>
  rw[zb]
  by_cases a1:a<0
  .simp[zaM,zbQ,hh,zap,a1]
   omega
  by_cases a2:1<a
  .simp[zaM,zbQ,hh,zap,a1,a2]
   omega
  have a3:a=0∨a=1:=by omega
  simp[zaM,zbQ,hh,zap,a1,a2,a3,w1]
  rw[zb]
  simp[zaM,zbQ,hh]
 | [a,b],_=>
  rw[zb]
  by_cases a1:a<0
  .simp[zaM,zbQ,hh,zap,a1]
   omega
  by_cases a2:1<a
  .simp[zaM,zbQ,hh,zap,a1,a2]
   omega
  simp[zaM,zbQ,hh,zap,a1,a2,w1]
  rw[zb]
  by_cases b1:b<0
  .simp[zaM,zbQ,hh,b1]
   omega
  by_cases b2:1<b
  .simp[zaM,zbQ,hh,b1,b2]
   omega
  by_cases b3:b≤a
  .simp[zaM,zbQ,hh,h1,b1,b2,b3,w0]
   omega
  .have e1:a=0:=by omega
   have e2:b=1:=by omega
   simp[zaM,zbQ,hh,h1,b1,b2,b3,w0,w2,e1,e2]
   rw[zb]
   simp[zaM,zbQ,hh]
theorem zfb {x:Sg} {s:SS} (h:¬(0≤s.count∧s.count≤zI x∧(s.held.length:Int)≤zT x)):ssB x s=false:=by
 unfold ssB;rw[decide_eq_false h];rfl
theorem zjl {x:Sg} {s:SS} (h:s.held.all isIt=false):ssB x s=false:=by
 unfold ssB;rw[h,Bool.and_false];rfl
theorem zd3 {x:Sg} {s:SS} (h:0≤s.count∧s.count≤zI x∧(s.held.length:Int)≤zT x) (ha:s.held.all isIt=true):ssB x s=(if x.kind=4 then !s.ended||s.held.isEmpty
 else if x.kind=8 then zap s.held&&(s.ended==decide (s.held.length=2))
 else if x.kind=9 then (s.ended==decide (s.count=3))&&(decide (s.count<2)||s.held.isEmpty)
 else true):=by
 unfold ssB;rw[decide_eq_true h,ha];rfl
theorem zkJ {x:Sg} (hg:sgI x=0):0≤zT x:=by
 unfold zT
 have:=zaZ hg
 split
 .omega
 .split
  .omega
  .split
   .rename_i k4
    have hL:zD x.kind=1:=by simp[zD,k4]
    omega
   .omega
theorem e143 (x:Sg) (hg:sgI x=0) (s:Ss) (hs:SlN s.held):W.pure 143 [x.av,s.av]=some (.bool (ssB x s.pl)):=by
 rw[zd Φ143 (by simp)]
 have c1:=e173 x hg
 have hl2:=hs.2
 by_cases h1:s.count<0
 .rw[zfb (s:=s.pl) (by simp only[Ss.pl];omega)]
  simp[zdO,c143,c1,h1]
 by_cases h2:zI x<s.count
 .rw[zfb (s:=s.pl) (by simp only[Ss.pl];omega)]
  simp[zdO,c143,c1,h1,h2]
 by_cases h3:zT x<s.held.l.length
 .rw[zfb (s:=s.pl) (by simp only[Ss.pl];omega)]
  simp[zdO,c143,c1,h1,h2,h3]
 obtain⟨v,H',d1,rfl,d2⟩:=zz.1 (zsp s.held (by omega) (.clo 174 [] []) rfl (fun a=> !isIt a) [.arr 0 8 false [x.av],.arr 0 3 false [s.av]] (fun a _ H _=>by rw[zvV];exact⟨rfl,Kept.refl _ _⟩))
 rw[zhF]at d1
 have g0:H'[0]?=some (.arr 0 8 false [x.av]):=d2.get (by simp) rfl
 have g1:H'[1]?=some (.arr 0 3 false [s.av]):=d2.get (by simp) rfl
 cases ha:s.held.l.all isIt with
 |false=>
  rw[zjl (s:=s.pl) ha]
  rw[ha]at d1
  simp[zdO,c143,c1,h1,h2,h3,d1]
 |true=>
  rw[ha]at d1
  rw[zd3 (s:=s.pl) (by simp only[Ss.pl];omega) ha]
  simp only[Ss.pl]
  have hm0:=zkJ hg
  have hm1:¬zT x<0:=by omega
  have p5:(s.held.l=[]∧((s.held.l.length:Int)=0)=True)∨(s.held.l≠[]∧((s.held.l.length:Int)=0)=False):=by
   cases s.held.l with
   |nil=>simp
   |cons a r=>right;simp;omega
  by_cases k4:x.kind=4
  .cases he:s.ended<;>rcases p5 with⟨p5,p6⟩|⟨p5,p6⟩<;>simp[zdO,c143,c1,h1,h2,h3,d1,g0,g1,k4,he,p5,p6,hm0,hm1]
  by_cases k8:x.kind=8
  .have hm:zT x=2:=by simp[zT,k8]
   obtain⟨q,F,G,f1,f2⟩:=zc.1 (t143 H' s (by omega) g1)
   cases hb:zap s.held.l with
   |false=>
    rw[hb]at f2
    simp only[bFt,if_false]at f2
    obtain⟨rfl,f3⟩:=f2
    simp[zdO,c143,c1,h1,h2,h3,d1,g0,g1,k4,k8,f1,f3]
   |true=>
    rw[hb]at f2
    simp only[if_true]at f2
    obtain⟨rfl,f3,rfl⟩:=f2
    by_cases h2l:s.held.l.length=2
    .have h2l':=eq_true (show ((s.held.l.length:Int)=2) by omega)
     simp[zdO,c143,c1,h1,h2,h3,d1,g0,g1,k4,k8,f1,f3,eq_true h2l,h2l']
    .have h2l':¬((s.held.l.length:Int)=2):=by omega
     simp[zdO,c143,c1,h1,h2,h3,d1,g0,g1,k4,k8,f1,f3,h2l,h2l']
  by_cases k9:x.kind=9
  .by_cases q1:s.count=3
   .have q2:¬s.count<2:=by omega
    rcases p5 with⟨p5,p6⟩|⟨p5,p6⟩<;>simp[zdO,c143,c1,h1,h2,h3,d1,g0,g1,k4,k8,k9,eq_true q1,q2,p5,p6,hm0,hm1]
   .by_cases q2:s.count<2<;>rcases p5 with⟨p5,p6⟩|⟨p5,p6⟩<;>simp[zdO,c143,c1,h1,h2,h3,d1,g0,g1,k4,k8,k9,q1,q2,p5,p6,hm0,hm1]
  .simp[zdO,c143,c1,h1,h2,h3,d1,g0,g1,k4,k8,k9]
theorem e95 (x:Sg) (hx:x.items.l.length≤1048576) (s:Ss) (hs:SlN s.held):∃y:Sl Int,W.pure 95 [x.av,s.av]=some (.tuple [Sl.av I 1 y,I (zal x s.pl)])∧y.l=(if zal x s.pl=0 then zcy x s.pl else [])∧SlN y:=by
 have c1:=e72 x hx
 unfold zal
 by_cases hg:sgI x=0
 rotate_left
 .rw[if_pos hg]
  refine⟨za5,?_,by rw[if_neg hg],zu⟩
  rw[zd Φ95 (by simp)]
  simp[fi95,c95,c1,hg]
  rfl
 rw[if_neg (by simp[hg])]
 rw[hg]at c1
 have c2:=e143 x hg s hs
 cases hb:ssB x s.pl with
 |false=>
  rw[hb]at c2
  refine⟨za5,?_,by simp,zu⟩
  rw[zd Φ95 (by simp)]
  simp[fi95,c95,c1,c2]
  rfl
 |true=>
  rw[hb]at c2
  obtain⟨f1,f2,f3,f4⟩:=zK hb
  simp only[if_true]
  have hl2:s.held.l.length≤1000000:=by
   have h3:(s.held.l.length:Int)≤zT x:=f3
   have:=zaZ hg
   have hM:zT x≤100:=by
    unfold zT
    split
    .omega
    .split
     .omega
     .split
      .rename_i k4
       have hL:zH x.kind=100:=by simp[zH,k4]
       omega
      .omega
   omega
  have one:∀n:Int,SlN (ofL 1 [n]):=fun n=>zO (by simp)
  unfold zcy za8
  simp only[show s.pl.ended=s.ended from rfl,show s.pl.held=s.held.l from rfl,show s.pl.count=s.count from rfl]
  by_cases h0:s.ended=true∨x.kind=1
  .refine⟨za5,?_,by rw[if_pos h0],zu⟩
   rw[zd Φ95 (by simp)]
   rcases h0 with h0|h0<;>simp[fi95,c95,c1,c2,h0]<;>rfl
  rw[if_neg h0]
  have h0a:s.ended=false:=by cases h:s.ended with|false=>rfl|true=>exact absurd (.inl h) h0
  have k1:¬x.kind=1:=fun h=>h0 (.inr h)
  by_cases k8:x.kind=8
  .rw[if_pos k8]
   have hm:zI x=1:=by simp[zI,k8]
   have c3:=e144 x s hs hl2 s.count (fun h=>by omega)
   have hin:zaz x s.pl s.count=decide (s.count∈s.held.l):=by simp[zaz,k8,Ss.pl];exact decide_eq_decide.2 Iff.rfl
   rw[hin]at c3
   have w:IntKind.wrap .i64 (1 - s.count)=1 - s.count:=by
    have g1:0≤s.count:=f1
    have g2:s.count≤zI x:=f2
    exact zr (by omega) (by omega)
   by_cases hc:s.count∈s.held.l
   .refine⟨ofL 1 [1 - s.count],?_,by simp[Ss.pl,hc,ofL],one _⟩
    rw[zd Φ95 (by simp)]
    simp only[hc,decide_true]at c3
    simp[fi95,c95,c1,c2,h0a,k1,k8,c3,w]
    rfl
   .refine⟨ofL 1 [s.count],?_,by simp[Ss.pl,hc,ofL],one _⟩
    rw[zd Φ95 (by simp)]
    simp only[hc,decide_false]at c3
    simp[fi95,c95,c1,c2,h0a,k1,k8,c3]
    rfl
  rw[if_neg k8]
  by_cases k9:x.kind=9
  .have hm:zI x=3:=by simp[zI,k9]
   have c3:=e144 x s hs hl2 0 (fun h=>⟨.inl rfl,f1,by have g2:s.count≤zI x:=f2;omega⟩)
   have p5:(s.held.l=[]∧¬0<s.held.l.length)∨(s.held.l≠[]∧0<s.held.l.length):=by
    cases s.held.l with
    |nil=>simp
    |cons a r=>right;simp
   by_cases hq:zaz x s.pl 0=true∨s.held.l≠[]
   .refine⟨ofL 1 [1],?_,by rw[if_pos ⟨k9,hq⟩],one _⟩
    rw[zd Φ95 (by simp)]
    cases hi:zaz x s.pl 0 with
    |true=>rw[hi]at c3;simp[fi95,c95,c1,c2,h0a,k1,k8,k9,c3];rfl
    |false=>
     rw[hi]at hq c3
     rcases p5 with⟨p5,p6⟩|⟨p5,p6⟩
     .exact absurd p5 (by simpa using hq)
     .simp[fi95,c95,c1,c2,h0a,k1,k8,k9,c3,p6];rfl
   .refine⟨ofL 1 [0],?_,by rw[if_neg (fun h=>hq h.2)],one _⟩
    rw[zd Φ95 (by simp)]
    have hi:zaz x s.pl 0=false:=by cases hi:zaz x s.pl 0 with|false=>rfl|true=>exact absurd (.inl hi) hq
    rw[hi]at c3
    rcases p5 with⟨p5,p6⟩|⟨p5,p6⟩
    .simp[fi95,c95,c1,c2,h0a,k1,k8,k9,c3,p6];rfl
    .exact absurd (.inr p5) hq
  .refine⟨ofL 1 [0],?_,by rw[if_neg (fun h=>k9 h.1)],one _⟩
   rw[zd Φ95 (by simp)]
   simp[fi95,c95,c1,c2,h0a,k1,k8,k9]
   rfl
theorem zfD {α:Type} (p:α→Bool):∀(l:List α) (k:Nat),zeK (fun _ a (_:Unit)=>if p a=true then (.inr ():Unit⊕Unit) else .inl ()) k l ()=if l.any p=true then .inr () else .inl ()
 | [],k=>rfl
 |a::r,k=>by
  simp only[zeK,List.any_cons]
  by_cases h:p a=true
  .simp[h]
  .simpa[h]using zfD p r (k+1)
theorem zgH (l:List Int) (i:Int):l.any (fun a=>decide (a=i))=decide (i∈l):=by
 induction l with
 |nil=>rfl
 |cons a r ih=>
  rw[List.any_cons,ih,←Bool.decide_or]
  exact decide_eq_decide.2 (by rw[lMc,eq_comm])
theorem zui (x:Sg) (s:Ss) (hs:SlN s.held) (i:Int):okC (W.loop [2,4,7] zk0 [(2,I i),(4,.optr 1 0 0 0),(7,I 0)] [.arr 0 8 false [x.av],.arr 0 3 false [s.av]])
  (fun q F G=>if decide (i∈s.held.l)=true then q= .ret∧F.get 6= .bool true else q= .exit 0):=by
 have hL:=zce (Φ:=Φ) (live:=[2,4,7]) (L:=zk0) s.held.l (fun _ a (_:Unit)=>if decide (a=i)=true then (.inr ():Unit⊕Unit) else .inl ())
  (fun k _ F G=>F=[(2,I i),(4,.optr 1 0 0 0),(7,I k)]∧G=[.arr 0 8 false [x.av],.arr 0 3 false [s.av]]) (fun _ q F G=>q= .ret∧F.get 6= .bool true) (fun _ q F G=>q= .exit 0) (s:=())
  (F:=[(2,I i),(4,.optr 1 0 0 0),(7,I 0)]) (H:=[.arr 0 8 false [x.av],.arr 0 3 false [s.av]]) ⟨rfl,rfl⟩ ?_ ?_
 .rw[zfD,zgH]at hL
  cases h:decide (i∈s.held.l) with
  |true=>rw[h]at hL;simp only[if_true]at hL⊢;exact hL
  |false=>rw[h]at hL;simp only[bFt,if_false]at hL⊢;exact hL
 .rintro k a ⟨⟩ F G hk ha ⟨rfl,rfl⟩
  have hka:s.held.l[k]=a:=(gEs.1 ha).2
  have hk':(k:Int)<s.held.l.length:=by omega
  have hw:=zg (k:=k) (by have:=hs.2;omega)
  by_cases h:a=i
  .subst h;simp[zhv,zje,hk,hk',hka]
  .simp[zhv,zje,hk,hk',hka,h,hw]
 .rintro⟨⟩ F G ⟨rfl,rfl⟩
  simp[zhv,zje]
theorem e100 (x:Sg) (s:Ss) (hs:SlN s.held) (i:Int) (hi: -1000≤i∧i≤1000) (hk:x.kind=8∨x.kind=9):W.pure 100 [x.av,s.av,I i]=some (.bool (zaz x s.pl i)):=by
 rw[zd Φ100 (by simp)]
 unfold zaz
 rcases hk with k8|k9
 .obtain⟨q,F,G,d1,d2⟩:=zc.1 (zui x s hs i)
  rw[if_pos k8]
  have e:decide (i∈s.pl.held)=decide (i∈s.held.l):=decide_eq_decide.2 Iff.rfl
  rw[e]
  cases h:decide (i∈s.held.l) with
  |true=>
   rw[h]at d2
   simp only[if_true]at d2
   obtain⟨rfl,d3⟩:=d2
   simp[zma,c100,k8,d1,d3]
  |false=>
   rw[h]at d2
   simp only[bFt,if_false]at d2
   subst d2
   simp[zma,c100,k8,d1]
 .have w:IntKind.wrap .i64 (i+1)=i+1:=zr (by omega) (by omega)
  simp[zma,c100,k9,w,Ss.pl]
  exact (Bool.decide_or _ _).symm
theorem zyi (x:Sg) (s:Ss) (hs:SlN s.held) (k8:x.kind≠8):okC (W.loop [2,3,7] zio [(2,.optr 0 0 0 0),(3,.optr 1 0 0 0),(7,I 0)] [.arr 0 8 false [x.av],.arr 0 3 false [s.av]])
  (fun q F G=>if s.held.l.all isIt=true then q= .exit 1∧F.keep [2,3]=[(2,.optr 0 0 0 0),(3,.optr 1 0 0 0)]∧G=[.arr 0 8 false [x.av],.arr 0 3 false [s.av]] else q= .ret∧F.get 4= .bool false):=by
 have hL:=zce (Φ:=Φ) (live:=[2,3,7]) (L:=zio) s.held.l (fun _ a (_:Unit)=>if isIt a=true then .inl () else (.inr ():Unit⊕Unit))
  (fun k _ F G=>F=[(2,.optr 0 0 0 0),(3,.optr 1 0 0 0),(7,I k)]∧G=[.arr 0 8 false [x.av],.arr 0 3 false [s.av]]) (fun _ q F G=>q= .ret∧F.get 4= .bool false) (fun _ q F G=>q= .exit 1∧F.keep [2,3]=[(2,.optr 0 0 0 0),(3,.optr 1 0 0 0)]∧G=[.arr 0 8 false [x.av],.arr 0 3 false [s.av]]) (s:=())
  (F:=[(2,.optr 0 0 0 0),(3,.optr 1 0 0 0),(7,I 0)]) (H:=[.arr 0 8 false [x.av],.arr 0 3 false [s.av]]) ⟨rfl,rfl⟩ ?_ ?_
 .rw[zcP]at hL
  cases h:s.held.l.all isIt with
  |true=>rw[h]at hL;simp only[if_true]at hL⊢;exact hL
  |false=>rw[h]at hL;simp only[bFt,if_false]at hL⊢;exact hL
 .rintro k a ⟨⟩ F G hk ha ⟨rfl,rfl⟩
  have hka:s.held.l[k]=a:=(gEs.1 ha).2
  have hk':(k:Int)<s.held.l.length:=by omega
  have hw:=zg (k:=k) (by have:=hs.2;omega)
  have c1:=e140 a
  cases hp:isIt a with
  |true=>rw[hp]at c1;simp[zaa,zaU,hk,hk',hka,c1,hw,k8]
  |false=>rw[hp]at c1;simp[zaa,zaU,hk,hk',hka,c1,hw]
 .rintro⟨⟩ F G ⟨rfl,rfl⟩
  simp[zaa,zaU]
theorem zg6 {l:List Int} (h:zap l=true):l.all isIt=true:=by
 match l,h with
 | [],_=>rfl
 | [a],h=>simp[zap]at h;rcases h with rfl|rfl<;>rfl
 | [a,b],h=>simp[zap]at h;obtain⟨rfl,rfl⟩:=h;rfl
theorem zyj (x:Sg) (s:Ss) (hl:s.held.l.length≤2) (k8:x.kind=8):okC (W.loop [2,3,7] zio [(2,.optr 0 0 0 0),(3,.optr 1 0 0 0),(7,I 0)] [.arr 0 8 false [x.av],.arr 0 3 false [s.av]])
  (fun q F G=>if zap s.held.l=true then q= .exit 1∧F.keep [2,3]=[(2,.optr 0 0 0 0),(3,.optr 1 0 0 0)]∧G=[.arr 0 8 false [x.av],.arr 0 3 false [s.av]] else q= .ret∧F.get 4= .bool false):=by
 have w1:IntKind.wrap .i64 1=1:=zr (by omega) (by omega)
 have w2:IntKind.wrap .i64 2=2:=zr (by omega) (by omega)
 have w0:IntKind.wrap .i64 0=0:=zr (by omega) (by omega)
 match hh:s.held.l,hl with
 | [],_=>
  rw[zb]
  simp[zaa,zaU,hh,zap]
 | [a],_=>
  have c1:=e140 a
  have c2:=e101 a 0 1
  rw[zb]
  cases hp:isIt a with
  |false=>
   rw[hp]at c1
   have:zap [a]=false:=by cases hm:zap [a]with|false=>rfl|true=>have:=zg6 hm;simp[hp]at this
   rw[this]
   simp[zaa,zaU,hh,c1]
  |true=>
   rw[hp]at c1
   by_cases a1:0≤a
   .by_cases a2:a≤1
    .have a3:a=0∨a=1:=by omega
     simp only[a1,a2,decide_true,Bool.and_self]at c2
     simp[zaa,zaU,hh,c1,c2,k8,zap,a3,w1]
     rw[zb]
     simp[zaa,zaU,hh]
    .simp only[a1,a2,decide_true,decide_false,Bool.and_false]at c2
     simp[zaa,zaU,hh,c1,c2,k8,zap]
     omega
   .simp only[a1,decide_false,Bool.false_and]at c2
    simp[zaa,zaU,hh,c1,c2,k8,zap]
    omega
 | [a,b],_=>
  have c1:=e140 a
  have c2:=e101 a 0 1
  have c3:=e140 b
  have c4:=e101 b 0 1
  have hmn:∀{p:Bool},(isIt a=false∨isIt b=false)→zap [a,b]=false:=fun h=>by
   cases hm:zap [a,b] with
   |false=>rfl
   |true=>have:=zg6 hm;simp at this;rcases h with h|h<;>rw[h]at this<;>simp at this
  rw[zb]
  cases hp:isIt a with
  |false=>
   rw[hp]at c1
   rw[hmn (p:=true) (.inl hp)]
   simp[zaa,zaU,hh,c1]
  |true=>
   rw[hp]at c1
   by_cases a1:0≤a
   rotate_left
   .simp only[a1,decide_false,Bool.false_and]at c2
    simp[zaa,zaU,hh,c1,c2,k8,zap]
    omega
   by_cases a2:a≤1
   rotate_left
   .simp only[a1,a2,decide_true,decide_false,Bool.and_false]at c2
    simp[zaa,zaU,hh,c1,c2,k8,zap]
    omega
   simp only[a1,a2,decide_true,Bool.and_self]at c2
   simp[zaa,zaU,hh,c1,c2,k8,w1]
   rw[zb]
   cases hq:isIt b with
   |false=>
    rw[hq]at c3
    rw[hmn (p:=true) (.inr hq)]
    simp[zaa,zaU,hh,c3]
   |true=>
    rw[hq]at c3
    by_cases b1:0≤b
    rotate_left
    .simp only[b1,decide_false,Bool.false_and]at c4
     simp[zaa,zaU,hh,c3,c4,k8,zap]
     omega
    by_cases b2:b≤1
    rotate_left
    .simp only[b1,b2,decide_true,decide_false,Bool.and_false]at c4
     simp[zaa,zaU,hh,c3,c4,k8,zap]
     omega
    simp only[b1,b2,decide_true,Bool.and_self]at c4
    by_cases b3:b≤a
    .simp[zaa,zaU,hh,c3,c4,k8,zap,w0,b3]
     omega
    .have e1:a=0:=by omega
     have e2:b=1:=by omega
     subst e1;subst e2
     simp[zaa,zaU,hh,c3,c4,k8,zap,w0,w2]
     rw[zb]
     simp[zaa,zaU,hh]
theorem zu5 (x:Sg) (hg:sgI x=0) (s:Ss):evC W (cutC 3 c147) [(0,x.av),(1,s.av)] []=some (.normal,[(2,.optr 0 0 0 0),(3,.optr 1 0 0 0),(5,I (zI x)),(6,I (zT x))],[.arr 0 8 false [x.av],.arr 0 3 false [s.av]]):=by
 unfold zI zT
 by_cases k1:x.kind=1
 .simp[zbW,c147,cutC,k1]
 by_cases k6:x.kind=6
 .simp[zbW,c147,cutC,k1,k6]
 by_cases k4:x.kind=4
 .have:=zaZ hg
  have hM:zH x.kind=100:=by simp[zH,k4]
  have hL:zD x.kind=1:=by simp[zD,k4]
  have w:IntKind.wrap .i64 (x.size - 1)=x.size - 1:=zr (by omega) (by omega)
  simp[zbW,c147,cutC,k1,k6,k4,w]
 by_cases k8:x.kind=8
 .simp[zbW,c147,cutC,k1,k6,k4,k8]
 by_cases k9:x.kind=9
 .simp[zbW,c147,cutC,k1,k6,k4,k8,k9]
 .simp[zbW,c147,cutC,k1,k6,k4,k8,k9]
theorem ztI (x:Sg) (hg:sgI x=0) (s:Ss) (hs:SlN s.held):okC (evC W (zB 3 c147) [(2,.optr 0 0 0 0),(3,.optr 1 0 0 0),(5,I (zI x)),(6,I (zT x))] [.arr 0 8 false [x.av],.arr 0 3 false [s.av]])
  (fun q F H=>q= .ret∧F.get 4= .bool (ssB x s.pl)):=by
 have c1:=e101 s.count 0 (zI x)
 by_cases h0:0≤s.count∧s.count≤zI x
 rotate_left
 .rw[zfb (s:=s.pl) (fun h=>h0 ⟨h.1,h.2.1⟩)]
  have:(decide (0≤s.count)&&decide (s.count≤zI x))=false:=by simp;omega
  rw[this]at c1
  simp[zbW,c147,zB,c1]
 have:(decide (0≤s.count)&&decide (s.count≤zI x))=true:=by simp;omega
 rw[this]at c1
 by_cases h3:zT x<s.held.l.length
 .rw[zfb (s:=s.pl) (by simp only[Ss.pl];omega)]
  simp[zbW,c147,zB,c1,h3]
 have hm0:=zkJ hg
 have hm1:¬zT x<0:=by omega
 have p5:(s.held.l=[]∧((s.held.l.length:Int)=0)=True)∨(s.held.l≠[]∧((s.held.l.length:Int)=0)=False):=by
  cases s.held.l with
  |nil=>simp
  |cons a r=>right;simp;omega
 by_cases k8:x.kind=8
 .have hm:zT x=2:=by simp[zT,k8]
  obtain⟨q,F,G,f1,f2⟩:=zc.1 (zyj x s (by omega) k8)
  have hB:ssB x s.pl=(zap s.held.l&&(s.ended==decide (s.held.l.length=2))):=by
   cases ha:s.held.l.all isIt with
   |true=>rw[zd3 (s:=s.pl) (by simp only[Ss.pl];omega) ha,if_neg (by omega),if_pos k8];rfl
   |false=>
    rw[zjl (s:=s.pl) ha]
    cases hb:zap s.held.l with
    |false=>rfl
    |true=>rw[zg6 hb]at ha;cases ha
  rw[hB]
  cases hb:zap s.held.l with
  |false=>
   rw[hb]at f2
   simp only[bFt,if_false]at f2
   obtain⟨rfl,f3⟩:=f2
   simp[zbW,c147,zB,c1,h3,f1,f3]
  |true=>
   rw[hb]at f2
   simp only[if_true]at f2
   obtain⟨rfl,f3,rfl⟩:=f2
   by_cases h2l:s.held.l.length=2
   .have h2l':=eq_true (show ((s.held.l.length:Int)=2) by omega)
    simp[zbW,c147,zB,c1,h3,f1,f3,k8,eq_true h2l,h2l']
   .have h2l':¬((s.held.l.length:Int)=2):=by omega
    simp[zbW,c147,zB,c1,h3,f1,f3,k8,h2l,h2l']
 obtain⟨q,F,G,f1,f2⟩:=zc.1 (zyi x s hs k8)
 cases ha:s.held.l.all isIt with
 |false=>
  rw[ha]at f2
  simp only[bFt,if_false]at f2
  obtain⟨rfl,f3⟩:=f2
  rw[zjl (s:=s.pl) ha]
  simp[zbW,c147,zB,c1,h3,f1,f3]
 |true=>
  rw[ha]at f2
  simp only[if_true]at f2
  obtain⟨rfl,f3,rfl⟩:=f2
  rw[zd3 (s:=s.pl) (by simp only[Ss.pl];omega) ha]
  simp only[Ss.pl]
  by_cases k4:x.kind=4
  .cases he:s.ended<;>rcases p5 with⟨p5,p6⟩|⟨p5,p6⟩<;>simp[zbW,c147,zB,c1,h3,f1,f3,k4,he,p5,p6,hm0,hm1]
  by_cases k9:x.kind=9
  .by_cases q1:s.count=3
   .have q2:¬s.count<2:=by omega
    rcases p5 with⟨p5,p6⟩|⟨p5,p6⟩<;>simp[zbW,c147,zB,c1,h3,f1,f3,k4,k8,k9,eq_true q1,q2,p5,p6,hm0,hm1]
   .by_cases q2:s.count<2<;>rcases p5 with⟨p5,p6⟩|⟨p5,p6⟩<;>simp[zbW,c147,zB,c1,h3,f1,f3,k4,k8,k9,q1,q2,p5,p6,hm0,hm1]
  .simp[zbW,c147,zB,c1,h3,f1,f3,k4,k8,k9]
theorem zA3 (x:Sg) (hg:sgI x=0) (s:Ss) (hs:SlN s.held):W.pure 147 [x.av,s.av]=some (.bool (ssB x s.pl)):=by
 rw[zd Φ147 (by simp)]
 have e:zam W zbW [x.av,s.av] []=(evC W c147 [(0,x.av),(1,s.av)] []).bind fun p=>match p.1 with
  | .exit _=>none
  |_=>(resV p.2.1 p.2.2 zbW.res).map fun v=>(v,p.2.2):=rfl
 rw[e,zae W 3 c147 _ _ _ _ (zu5 x hg s)]
 obtain⟨q,F,H,d1,rfl,d2⟩:=zc.1 (ztI x hg s hs)
 rw[d1]
 simp[zbW,resV,rvVs,rvV,d2]
theorem e99 (x:Sg) (hx:x.items.l.length≤1048576) (s:Ss) (hs:SlN s.held):W.pure 99 [x.av,s.av]=some (I (zal x s.pl)):=by
 rw[zd Φ99 (by simp)]
 have c1:=e61 x hx
 unfold zal
 by_cases hg:sgI x=0
 .rw[hg]at c1
  have c2:=zA3 x hg s hs
  cases hb:ssB x s.pl with
  |false=>rw[hb]at c2;simp[fi99,c99,c1,c2,hg]
  |true=>rw[hb]at c2;simp[fi99,c99,c1,c2,hg]
 .simp[fi99,c99,c1,hg]
theorem e55 (x:Sg) (hx:x.items.l.length≤1048576) (s:Ss) (hs:SlN s.held):∃y:Sl Int,W.pure 55 [x.av,s.av]=some (.tuple [Sl.av I 1 y,I (zal x s.pl)])∧y.l=(if zal x s.pl=0 then zcy x s.pl else [])∧SlN y:=by
 have c1:=e99 x hx s hs
 have nil:SlN (ofL 1 ([]:List Int)):=zO (by simp)
 have one:∀n:Int,SlN (ofL 1 [n]):=fun n=>zO (by simp)
 by_cases hn:zal x s.pl=0
 rotate_left
 .refine⟨ofL 1 [],?_,by rw[if_neg hn],nil⟩
  rw[zd Φ55 (by simp)]
  simp[fi55,c55,c1,hn]
  rfl
 rw[hn]at c1
 rw[hn,if_pos rfl]
 obtain⟨hg,hb⟩:=zw.1 hn
 obtain⟨f1,f2,f3,f4⟩:=zK hb
 unfold zcy za8
 simp only[show s.pl.ended=s.ended from rfl,show s.pl.held=s.held.l from rfl,show s.pl.count=s.count from rfl]at *
 by_cases h0:s.ended=true∨x.kind=1
 .refine⟨ofL 1 [],?_,by rw[if_pos h0],nil⟩
  rw[zd Φ55 (by simp)]
  rcases h0 with h0|h0<;>simp[fi55,c55,c1,h0]<;>rfl
 rw[if_neg h0]
 have h0a:s.ended=false:=by cases h:s.ended with|false=>rfl|true=>exact absurd (.inl h) h0
 have k1:¬x.kind=1:=fun h=>h0 (.inr h)
 by_cases k8:x.kind=8
 .rw[if_pos k8]
  have hm:zI x=1:=by simp[zI,k8]
  have c3:=e100 x s hs s.count (by omega) (.inl k8)
  have hin:zaz x s.pl s.count=decide (s.count∈s.held.l):=by simp[zaz,k8,Ss.pl];exact decide_eq_decide.2 Iff.rfl
  rw[hin]at c3
  have w:IntKind.wrap .i64 (1 - s.count)=1 - s.count:=zr (by omega) (by omega)
  by_cases hc:s.count∈s.held.l
  .refine⟨ofL 1 [1 - s.count],?_,by simp[hc,ofL],one _⟩
   rw[zd Φ55 (by simp)]
   simp only[hc,decide_true]at c3
   simp[fi55,c55,c1,h0a,k1,k8,c3,w]
   rfl
  .refine⟨ofL 1 [s.count],?_,by simp[hc,ofL],one _⟩
   rw[zd Φ55 (by simp)]
   simp only[hc,decide_false]at c3
   simp[fi55,c55,c1,h0a,k1,k8,c3]
   rfl
 rw[if_neg k8]
 by_cases k9:x.kind=9
 .have c3:=e100 x s hs 0 (by omega) (.inr k9)
  have p5:(s.held.l=[]∧¬0<s.held.l.length)∨(s.held.l≠[]∧0<s.held.l.length):=by
   cases s.held.l with
   |nil=>simp
   |cons a r=>right;simp
  by_cases hq:zaz x s.pl 0=true∨s.held.l≠[]
  .refine⟨ofL 1 [1],?_,by rw[if_pos ⟨k9,hq⟩],one _⟩
   rw[zd Φ55 (by simp)]
   cases hi:zaz x s.pl 0 with
   |true=>rw[hi]at c3;simp[fi55,c55,c1,h0a,k1,k8,k9,c3];rfl
   |false=>
    rw[hi]at hq c3
    rcases p5 with⟨p5,p6⟩|⟨p5,p6⟩
    .exact absurd p5 (by simpa using hq)
    .simp[fi55,c55,c1,h0a,k1,k8,k9,c3,p6];rfl
  .refine⟨ofL 1 [0],?_,by rw[if_neg (fun h=>hq h.2)],one _⟩
   rw[zd Φ55 (by simp)]
   have hi:zaz x s.pl 0=false:=by cases hi:zaz x s.pl 0 with|false=>rfl|true=>exact absurd (.inl hi) hq
   rw[hi]at c3
   rcases p5 with⟨p5,p6⟩|⟨p5,p6⟩
   .simp[fi55,c55,c1,h0a,k1,k8,k9,c3,p6];rfl
   .exact absurd (.inr p5) hq
 .refine⟨ofL 1 [0],?_,by rw[if_neg (fun h=>k9 h.1)],one _⟩
  rw[zd Φ55 (by simp)]
  simp[fi55,c55,c1,h0a,k1,k8,k9]
  rfl
theorem e51 (c:Cr) (hc:SlN c.items) (n:Int):∃c':Cr,W.pure 51 [c.av,I n]=some (.tuple [c'.av,I (zbo c.pl n).2])∧c'.pl=(zbo c.pl n).1∧SlN c'.items:=by
 have c1:=e56 c hc
 by_cases h:crI c.pl=0
 rotate_left
 .have hr:zbo c.pl n=(crZ,crI c.pl):=by unfold zbo;rw[if_pos h]
  rw[hr]
  refine⟨zCr,?_,rfl,zu⟩
  rw[zd Φ51 (by simp)]
  simp[fi51,c51,c1,h,←zak]
 rw[h]at c1
 have hv:=(zbb _).1 h
 have g1:=hv.sg;have g2:=hv.gm;have g3:=hv.t0;have g4:=hv.ts;have g5:=hv.c1;have g6:=hv.c2;have g7:=hv.gc;have g8:=hv.len
 rw[Cr.pl_mk]at h⊢
 simp only[Cr.pl]at g1 g2 g3 g4 g5 g6 g7 g8
 have c2:=e94 n
 cases h1:isIt n with
 |false=>
  rw[h1]at c2
  have hr:zbo ⟨c.cap,c.granted,c.sent,c.taken,c.items.l,c.closed⟩ n=(crZ,2):=by unfold zbo;rw[if_neg (by simp[h]),if_pos h1]
  rw[hr]
  refine⟨zCr,?_,rfl,zu⟩
  rw[zd Φ51 (by simp)]
  simp[fi51,c51,c1,c2,←zak]
 |true=>
 rw[h1]at c2
 cases h2:c.closed with
 |true=>
  rw[h2]at h
  have hr:zbo ⟨c.cap,c.granted,c.sent,c.taken,c.items.l,true⟩ n=(crZ,19):=by unfold zbo;rw[if_neg (by simp[h]),if_neg (by simp[h1]),if_pos rfl]
  rw[hr]
  refine⟨zCr,?_,rfl,zu⟩
  rw[zd Φ51 (by simp)]
  simp[fi51,c51,c1,c2,h2,←zak]
 |false=>
 rw[h2]at h
 by_cases h3:c.sent=c.granted
 .have hr:zbo ⟨c.cap,c.granted,c.sent,c.taken,c.items.l,false⟩ n=(crZ,18):=by unfold zbo;rw[if_neg (by simp[h]),if_neg (by simp[h1]),if_neg (by simp),if_pos h3]
  rw[hr]
  refine⟨zCr,?_,rfl,zu⟩
  rw[zd Φ51 (by simp)]
  simp[fi51,c51,c1,c2,h2,h3,←zak]
 have w1:IntKind.wrap .i64 (c.sent+1)=c.sent+1:=zr (by omega) (by omega)
 have hr:zbo ⟨c.cap,c.granted,c.sent,c.taken,c.items.l,false⟩ n=(⟨c.cap,c.granted,c.sent+1,c.taken,c.items.l++[n],false⟩,0):=by unfold zbo;rw[if_neg (by simp[h]),if_neg (by simp[h1]),if_neg (by simp),if_neg h3]
 rw[hr]
 have hlen:(c.items.l++[n]).length≤1048576:=by simp;omega
 refine⟨⟨c.cap,c.granted,c.sent+1,c.taken,ofL 1 (c.items.l++[n]),false⟩,?_,rfl,zO hlen⟩
 rw[zd Φ51 (by simp)]
 obtain⟨a1,a2,a3,a4,x,a6⟩:=c
 simp only at *
 subst h2
 have k1:∀a b,ex [a,b,.arr 0 1 false []] (.app 1) [.osl 2 0 0 0,Sl.av I 1 x]=some (.osl 2 x.l.length 0 x.l.length,[a,b,.arr x.l.length 1 false (x.l.map I)]):=fun a b=>zbR (f:=I) (sz:=1) x [a,b] hc.2 (by simp)
 have k2:=fun H h=>zE (H:=H) (id:=2) (ver:=x.l.length) (l:=x.l) h hc.2 n
 have k3:∀H:Heap,H[2]?=some (.arr (x.l.length+1) 1 false (x.l.map I++[I n]))→frz H 6 (.osl 2 (x.l.length+1) 0 (x.l.length+1))=some (Sl.av I 1 (ofL 1 (x.l++[n]))):=fun H h=>zaX (l:=x.l++[n]) (by rw[h];simp) (by simp)
 simp[fi51,c51,c1,c2,h3,w1,k1,k2,k3]
 rfl
theorem e93 (c:Cr) (hc:SlN c.items):∃c':Cr,W.pure 93 [c.av]=some (.tuple [c'.av,I (za6 c.pl).2.1,I (za6 c.pl).2.2])∧c'.pl=(za6 c.pl).1∧SlN c'.items:=by
 have hl:=hc.len
 have c1:=e56 c hc
 by_cases h:crI c.pl=0
 rotate_left
 .have hr:za6 c.pl=(crZ,0,crI c.pl):=by unfold za6;rw[if_pos h]
  rw[hr]
  refine⟨zCr,?_,rfl,zu⟩
  rw[zd Φ93 (by simp)]
  simp[fi93,c93,c1,h,←zak]
 rw[h]at c1
 have hv:=(zbb _).1 h
 have g1:=hv.sg;have g2:=hv.gm;have g3:=hv.t0;have g4:=hv.ts;have g5:=hv.c1;have g6:=hv.c2;have g7:=hv.gc;have g8:=hv.len
 rw[Cr.pl_mk]at h⊢
 simp only[Cr.pl]at g1 g2 g3 g4 g5 g6 g7 g8
 obtain⟨a1,a2,a3,a4,⟨nl,z,l⟩,a6⟩:=c
 simp only at *
 cases l with
 |nil=>
  cases a6 with
  |true=>
   have hr:za6 ⟨a1,a2,a3,a4,[],true⟩=(crZ,0,19):=by unfold za6;rw[if_neg (by simp[h])];rfl
   rw[hr]
   refine⟨zCr,?_,rfl,zu⟩
   rw[zd Φ93 (by simp)]
   simp[fi93,c93,c1,←zak]
  |false=>
   have hr:za6 ⟨a1,a2,a3,a4,[],false⟩=(crZ,0,23):=by unfold za6;rw[if_neg (by simp[h])];rfl
   rw[hr]
   refine⟨zCr,?_,rfl,zu⟩
   rw[zd Φ93 (by simp)]
   simp[fi93,c93,c1,←zak]
 |cons a r=>
  have hr:za6 ⟨a1,a2,a3,a4,a::r,a6⟩=(⟨a1,a2,a3,a4+1,r,a6⟩,a,0):=by unfold za6;rw[if_neg (by simp[h])]
  rw[hr]
  have hlr:r.length≤1048576:=by have:=hc.2;simp at this;omega
  refine⟨⟨a1,a2,a3,a4+1,ofL 1 r,a6⟩,?_,rfl,zO hlr⟩
  rw[zd Φ93 (by simp)]
  have hne:¬((r.length:Int)+1=0):=by omega
  have w1:IntKind.wrap .i64 (a4+1)=a4+1:=zr (by omega) (by simp only[lLc]at g8;omega)
  have h1:(1:Int)≤r.length+1:=by omega
  have hT:List.take r.length (List.map I r)=r.map I:=List.take_of_length_le (by simp)
  have k1:∀a b,ex [a,b,.arr 0 1 false []] (.app 1) [.osl 2 0 0 0,.isl nl 1 (r.map I)]=some (.osl 2 r.length 0 r.length,[a,b,.arr r.length 1 false (r.map I)]):=fun a b=>by
   have:=zbR (f:=I) (sz:=1) ⟨nl,1,r⟩ [a,b] hlr (by simp)
   have e:(Sl.av I 1 ⟨nl,1,r⟩:AV)= .isl nl 1 (r.map I):=by simp[Sl.av]
   rw[e]at this
   exact this
  have k3:∀H:Heap,H[2]?=some (.arr r.length 1 false (r.map I))→frz H 6 (.osl 2 r.length 0 r.length)=some (Sl.av I 1 (ofL 1 r)):=fun H h=>zaX (l:=r) h rfl
  simp[fi93,c93,c1,hne,w1,h1,hT,k1,k3]
  rfl
theorem e49 (c:Cr) (hc:SlN c.items):∃c':Cr,W.pure 49 [c.av]=some (.tuple [c'.av,I (zai c.pl).2])∧c'.pl=(zai c.pl).1∧SlN c'.items:=by
 obtain⟨b,b1,b2,b3⟩:=e93 c hc
 have hb:(za6 c.pl).1.closed=b.closed:=by rw[←b2];rfl
 unfold zai
 rw[hb]
 cases h:b.closed with
 |true=>
  refine⟨b,?_,b2,b3⟩
  rw[zd Φ49 (by simp)]
  simp[fi49,c49,b1,h]
 |false=>
  obtain⟨d,d1,d2,d3⟩:=e83 b b3 1
  rw[b2]at d1 d2
  refine⟨d,?_,by simpa using d2,d3⟩
  rw[zd Φ49 (by simp)]
  simp[fi49,c49,b1,h,d1]
end Go.Proofs.YtbddckhdbnmamaaGreat
