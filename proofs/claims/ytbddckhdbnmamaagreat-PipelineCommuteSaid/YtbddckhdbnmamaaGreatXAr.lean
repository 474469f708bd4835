/-
  slices.ContainsFunc at the types of this program, printed by a program of mine (conditions: none). Buffers: the program's checks (conditions: none). The operators' values (conditions: none). Buffers: the program's operations (conditions: none). Clones, sending, taking (conditions: none). Sending and taking (conditions: none). Types of expressions: the program (conditions: none). Values of expressions: the program (conditions: none). Type and Eval with the bindings of a stage: the program (conditions: none). Buffers: the reference (conditions: none). Types and values of expressions: the reference (conditions: none). Type and Eval of the reference (conditions: none). The operators of the reference (conditions: none). Values of expressions: the reference (conditions: well typed, bindings of type 1). eval and Eval of the reference (conditions: well typed, bindings of type 1). slices.Index and slices.Contains, plain; the names of a stage's expression (conditions: none). An expression that only names x does not see y; the check of a stage's expression in the program (conditions: none). The check of a stage's expression in the program (conditions: none). The check of a stage's expression: plain facts (conditions: none). The check of a stage's expression in the program, as a call on any memory (conditions: none). The handlers (conditions: none). stage.Check in the program (conditions: none). Cells of a handler and of a stage's expression (conditions: none). stage.Check in the program: its beginning (conditions: none). stage.Check in the program: what a kind does not use (conditions: none). stage.Check in the program: why a stage is not valid (conditions: lists of at most 1048576). How many inputs and outputs a stage has: the program (conditions: lists of at most 1048576). The type of a stage's expression: the reference (conditions: none). The names of an expression: the reference (conditions: lists of at most 1000000). The check of a stage: the reference (conditions: lists of at most 1048576). stage.Check, Inputs, Outputs: the reference (conditions: lists of at most 1048576). States of a stage: the program (conditions: lists of at most 1048576). States of a stage: the reference (conditions: lists of at most 1048576). What a stage needs: the reference (conditions: lists of at most 1048576). A stage that runs, in memory; send (conditions: none). The value of a stage's expression, as a runner computes it (conditions: a valid stage). What an item does to a stage that runs, kind by kind (conditions: a valid stage in a valid state). What an item does to a repeating stage, a batch and a zip that run (conditions: a valid stage in a valid state). Buffers: sending and taking of the reference; a buffer after its item was taken (conditions: none).
-/
import Derived.Test.YtbddckhdbnmamaaGreatNAr
namespace Go.Proofs.YtbddckhdbnmamaaGreat
open Go Go.RowKit
set_option linter.unusedVariables false
set_option linter.unusedSimpArgs false
set_option maxRecDepth 10000
def fidx {α:Type} (p:α→Bool):List α→Option Nat
 | []=>none
 |a::r=>if p a then some 0 else (fidx p r).map (·+1)
theorem zqg {α:Type} (p:α→Bool) (l:List α):(fidx p l).isSome=l.any p:=by
 induction l with
 |nil=>rfl
 |cons a r ih=>simp only[fidx,List.any_cons];cases p a<;>simp[ih]
theorem zsK (x:Sl Int) (hl:x.l.length≤9223372036854775807) (y:AV) (hy:okO y=some y) (p:Int→Bool) (H0:Heap) (hp:∀a∈x.l,∀H,Kept none H0 H→okV (W.call y [I a] H) (fun v H'=>v= .bool (p a)∧Kept none H H')):
  ∀(r:List Int) (k:Nat) (H:Heap),x.l.drop k=r→k≤x.l.length→Kept none H0 H→
  okC (W.loop [0,1,7,8] znh [(0,Sl.av I 1 x),(1,y),(7,I x.l.length),(8,I k)] H)
   (fun q F' H'=>Kept none H0 H'∧((fidx p r=none∧q= .exit 0)∨∃j,fidx p r=some j∧q= .ret∧F'.get 4=I (k+j:Nat))):=by
 intro r
 induction r with
 |nil=>
  intro k H h1 h2 hk0
  have hk:=zf h1 h2
  rw[zb]
  simp[zeS,zgp,hk,hy,hk0,fidx]
 |cons a r ihr=>
  intro k H h1 h2 hk0
  obtain⟨hlt,ha,hr⟩:=zn h1
  have hlt':(k:Int)<x.l.length:=by omega
  have hak:x.l[k]=a:=(gEs.1 ha).2
  obtain⟨v,H1,c1,rfl,c2⟩:=zu.1 (hp a (zZ h1) H hk0)
  have hw:IntKind.wrap .i64 ((k:Int)+1)=(k:Int)+1:=by rw[zhr]<;>omega
  rw[zb]
  cases hpa:p a with
  |true=>
   rw[hpa]at c1
   have hf:fidx p (a::r)=some 0:=by simp[fidx,hpa]
   rw[hf]
   simp[zeS,zgp,hlt,hak,hy,c1]
   exact hk0.trans c2
  |false=>
   rw[hpa]at c1
   have hJ:=ihr (k+1) H1 hr (by omega) (hk0.trans c2)
   simp only[iNa,iCo]at hJ
   obtain⟨q,F',H',g1,g2,g3⟩:=zc.1 hJ
   rcases g3 with⟨g3,rfl⟩|⟨j,g3,rfl,g4⟩
   .have hf:fidx p (a::r)=none:=by simp[fidx,hpa,g3]
    rw[hf]
    simp[zeS,zgp,hlt,hak,hy,c1,hw,g1,g2]
   .have hf:fidx p (a::r)=some (j+1):=by simp[fidx,hpa,g3]
    rw[hf]
    simp[zeS,zgp,hlt,hak,hy,c1,hw,g1,g2,g4]
    omega
theorem zvn (x:Sl Int) (hl:x.l.length≤9223372036854775807) (y:AV) (hy:okO y=some y) (p:Int→Bool) (H0:Heap) (hp:∀a∈x.l,∀H,Kept none H0 H→okV (W.call y [I a] H) (fun v H'=>v= .bool (p a)∧Kept none H H')):
  okV (W.call (.clo 145 [] []) [Sl.av I 1 x,y] H0) (fun v H'=>v=I (match fidx p x.l with|some j=>(j:Int)|none=> -1)∧Kept none H0 H'):=by
 rw[zj Φ145]
 have hL:=zsK x hl y hy p H0 hp x.l 0 H0 rfl (by omega) (Kept.refl _ _)
 simp only[Int.natCast_zero,Nat.zero_add]at hL
 obtain⟨q,F',H',g1,g2,g3⟩:=zc.1 hL
 rcases g3 with⟨g3,rfl⟩|⟨j,g3,rfl,g4⟩
 .simp[znS,c145,hy,g1,g3,g2]
 .simp[znS,c145,hy,g1,g3,g2,g4]
theorem zrh (x:Sl Int) (hl:x.l.length≤9223372036854775807) (y:AV) (hy:okO y=some y) (p:Int→Bool) (H0:Heap) (hp:∀a∈x.l,∀H,Kept none H0 H→okV (W.call y [I a] H) (fun v H'=>v= .bool (p a)∧Kept none H H')):
  okV (W.call (.clo 96 [] []) [Sl.av I 1 x,y] H0) (fun v H'=>v= .bool (x.l.any p)∧Kept none H0 H'):=by
 rw[zj Φ96]
 obtain⟨v,H',c1,rfl,c2⟩:=zu.1 (zvn x hl y hy p H0 hp)
 rw[←zqg]
 cases hf:fidx p x.l with
 |none=>
  rw[hf]at c1
  simp[fi96,c96,hy,c1,c2]
 |some j=>
  rw[hf]at c1
  simp[fi96,c96,hy,c1,c2]
theorem zsI (x:Sl Pi) (hl:x.l.length≤9223372036854775807) (y:AV) (hy:okO y=some y) (p:Pi→Bool) (H0:Heap) (hp:∀a∈x.l,∀H,Kept none H0 H→okV (W.call y [Pi.av a] H) (fun v H'=>v= .bool (p a)∧Kept none H H')):
  ∀(r:List Pi) (k:Nat) (H:Heap),x.l.drop k=r→k≤x.l.length→Kept none H0 H→
  okC (W.loop [0,1,7,8] znf [(0,Sl.av Pi.av 5 x),(1,y),(7,I x.l.length),(8,I k)] H)
   (fun q F' H'=>Kept none H0 H'∧((fidx p r=none∧q= .exit 0)∨∃j,fidx p r=some j∧q= .ret∧F'.get 4=I (k+j:Nat))):=by
 intro r
 induction r with
 |nil=>
  intro k H h1 h2 hk0
  have hk:=zf h1 h2
  rw[zb]
  simp[zeR,zgo,hk,hy,hk0,fidx]
 |cons a r ihr=>
  intro k H h1 h2 hk0
  obtain⟨hlt,ha,hr⟩:=zn h1
  have hlt':(k:Int)<x.l.length:=by omega
  have hak:x.l[k]=a:=(gEs.1 ha).2
  obtain⟨v,H1,c1,rfl,c2⟩:=zu.1 (hp a (zZ h1) H hk0)
  have hw:IntKind.wrap .i64 ((k:Int)+1)=(k:Int)+1:=by rw[zhr]<;>omega
  rw[zb]
  cases hpa:p a with
  |true=>
   rw[hpa]at c1
   have hf:fidx p (a::r)=some 0:=by simp[fidx,hpa]
   rw[hf]
   simp[zeR,zgo,hlt,hak,hy,c1]
   exact hk0.trans c2
  |false=>
   rw[hpa]at c1
   have hJ:=ihr (k+1) H1 hr (by omega) (hk0.trans c2)
   simp only[iNa,iCo]at hJ
   obtain⟨q,F',H',g1,g2,g3⟩:=zc.1 hJ
   rcases g3 with⟨g3,rfl⟩|⟨j,g3,rfl,g4⟩
   .have hf:fidx p (a::r)=none:=by simp[fidx,hpa,g3]
    rw[hf]
    simp[zeR,zgo,hlt,hak,hy,c1,hw,g1,g2]
   .have hf:fidx p (a::r)=some (j+1):=by simp[fidx,hpa,g3]
    rw[hf]
    simp[zeR,zgo,hlt,hak,hy,c1,hw,g1,g2,g4]
    omega
theorem zrW (x:Sl Pi) (hl:x.l.length≤9223372036854775807) (y:AV) (hy:okO y=some y) (p:Pi→Bool) (H0:Heap) (hp:∀a∈x.l,∀H,Kept none H0 H→okV (W.call y [Pi.av a] H) (fun v H'=>v= .bool (p a)∧Kept none H H')):
  okV (W.call (.clo 159 [] []) [Sl.av Pi.av 5 x,y] H0) (fun v H'=>v=I (match fidx p x.l with|some j=>(j:Int)|none=> -1)∧Kept none H0 H'):=by
 rw[zj Φ159]
 have hL:=zsI x hl y hy p H0 hp x.l 0 H0 rfl (by omega) (Kept.refl _ _)
 simp only[Int.natCast_zero,Nat.zero_add]at hL
 obtain⟨q,F',H',g1,g2,g3⟩:=zc.1 hL
 rcases g3 with⟨g3,rfl⟩|⟨j,g3,rfl,g4⟩
 .simp[znP,c159,hy,g1,g3,g2]
 .simp[znP,c159,hy,g1,g3,g2,g4]
theorem zsy (x:Sl Bnd) (hl:x.l.length≤9223372036854775807) (y:AV) (hy:okO y=some y) (p:Bnd→Bool) (H0:Heap) (hp:∀a∈x.l,∀H,Kept none H0 H→okV (W.call y [Bnd.av a] H) (fun v H'=>v= .bool (p a)∧Kept none H H')):
  ∀(r:List Bnd) (k:Nat) (H:Heap),x.l.drop k=r→k≤x.l.length→Kept none H0 H→
  okC (W.loop [0,1,7,8] zm2 [(0,Sl.av Bnd.av 3 x),(1,y),(7,I x.l.length),(8,I k)] H)
   (fun q F' H'=>Kept none H0 H'∧((fidx p r=none∧q= .exit 0)∨∃j,fidx p r=some j∧q= .ret∧F'.get 4=I (k+j:Nat))):=by
 intro r
 induction r with
 |nil=>
  intro k H h1 h2 hk0
  have hk:=zf h1 h2
  rw[zb]
  simp[zeO,zgl,hk,hy,hk0,fidx]
 |cons a r ihr=>
  intro k H h1 h2 hk0
  obtain⟨hlt,ha,hr⟩:=zn h1
  have hlt':(k:Int)<x.l.length:=by omega
  have hak:x.l[k]=a:=(gEs.1 ha).2
  obtain⟨v,H1,c1,rfl,c2⟩:=zu.1 (hp a (zZ h1) H hk0)
  have hw:IntKind.wrap .i64 ((k:Int)+1)=(k:Int)+1:=by rw[zhr]<;>omega
  rw[zb]
  cases hpa:p a with
  |true=>
   rw[hpa]at c1
   have hf:fidx p (a::r)=some 0:=by simp[fidx,hpa]
   rw[hf]
   simp[zeO,zgl,hlt,hak,hy,c1]
   exact hk0.trans c2
  |false=>
   rw[hpa]at c1
   have hJ:=ihr (k+1) H1 hr (by omega) (hk0.trans c2)
   simp only[iNa,iCo]at hJ
   obtain⟨q,F',H',g1,g2,g3⟩:=zc.1 hJ
   rcases g3 with⟨g3,rfl⟩|⟨j,g3,rfl,g4⟩
   .have hf:fidx p (a::r)=none:=by simp[fidx,hpa,g3]
    rw[hf]
    simp[zeO,zgl,hlt,hak,hy,c1,hw,g1,g2]
   .have hf:fidx p (a::r)=some (j+1):=by simp[fidx,hpa,g3]
    rw[hf]
    simp[zeO,zgl,hlt,hak,hy,c1,hw,g1,g2,g4]
    omega
theorem zvm (x:Sl Bnd) (hl:x.l.length≤9223372036854775807) (y:AV) (hy:okO y=some y) (p:Bnd→Bool) (H0:Heap) (hp:∀a∈x.l,∀H,Kept none H0 H→okV (W.call y [Bnd.av a] H) (fun v H'=>v= .bool (p a)∧Kept none H H')):
  okV (W.call (.clo 266 [] []) [Sl.av Bnd.av 3 x,y] H0) (fun v H'=>v=I (match fidx p x.l with|some j=>(j:Int)|none=> -1)∧Kept none H0 H'):=by
 rw[zj Φ266]
 have hL:=zsy x hl y hy p H0 hp x.l 0 H0 rfl (by omega) (Kept.refl _ _)
 simp only[Int.natCast_zero,Nat.zero_add]at hL
 obtain⟨q,F',H',g1,g2,g3⟩:=zc.1 hL
 rcases g3 with⟨g3,rfl⟩|⟨j,g3,rfl,g4⟩
 .simp[znx,c266,hy,g1,g3,g2]
 .simp[znx,c266,hy,g1,g3,g2,g4]
def SlN {α:Type} (x:Sl α):Prop:=((x.nl=some true∧x.l=[])∨x.nl=some false)∧x.l.length≤1048576
theorem SlN.len {α:Type} {x:Sl α} (h:SlN x):x.l.length≤9223372036854775807:=by have:=h.2;omega
theorem zE {α:Type}:SlN (zaM:Sl α):=⟨.inl ⟨rfl,rfl⟩,by simp⟩
theorem zat {α:Type} {n:Nat} {l:List α} (h:l.length≤1048576):SlN (ofL n l):=⟨.inr rfl,h⟩
theorem zz {n:Int} (h: -9223372036854775808≤n) (h':n≤9223372036854775807):IntKind.wrap .i64 n=n:=by rw[zhr]<;>omega
theorem e124 (a l h:Int):W.pure 124 [I a,I l,I h]=some (.bool (decide (l≤a)&&decide (a≤h))):=by
 rw[ze Φ124 rfl]
 by_cases h1:l≤a<;>simp[zqO,c124,h1]
theorem zue (n:Int) (H:Heap):W.call (.clo 172 [] []) [I n] H=some (.bool (!isIt n),H):=by
 rw[zj Φ172]
 simp[zqG,c172,e124,isIt]
theorem zvT (x:Sl Int) (hl:x.l.length≤9223372036854775807) (H0:Heap):okV (W.call (.clo 96 [] []) [Sl.av I 1 x,.clo 172 [] []] H0) (fun v H'=>v= .bool (!x.l.all isIt)∧Kept none H0 H'):=by
 have h:=zrh x hl (.clo 172 [] []) rfl (fun n=> !isIt n) H0 (fun a _ H _=>by rw[zue];exact⟨rfl,Kept.refl _ _⟩)
 rw[←List.not_all_eq_any_not]at h
 exact h
theorem e137 (c:Cr) (hl:c.items.l.length≤9223372036854775807):W.pure 137 [c.av]=some (I (crI c.pl)):=by
 rw[ze Φ137 (by simp)]
 have c1:=e124 c.cap 1 100
 by_cases h0:c.cap<1∨100<c.cap
 .have a1:(decide (1≤c.cap)&&decide (c.cap≤100))=false:=by
   rcases h0 with h0|h0
   .simp;omega
   .simp;omega
  rw[a1]at c1
  simp[zex,c137,c1,crI,Cr.pl,h0]
 have a1:(decide (1≤c.cap)&&decide (c.cap≤100))=true:=by simp;omega
 rw[a1]at c1
 by_cases h1:c.taken<0
 .simp[zex,c137,c1,crI,Cr.pl,h0,h1]
 by_cases h2:c.sent<c.taken
 .simp[zex,c137,c1,crI,Cr.pl,h0,h1,h2]
 by_cases h3:c.granted<c.sent
 .simp[zex,c137,c1,crI,Cr.pl,h0,h1,h2,h3]
 by_cases h4:1099511627776<c.granted
 .simp[zex,c137,c1,crI,Cr.pl,h0,h1,h2,h3,h4]
 have w1:IntKind.wrap .i64 (c.granted - c.taken)=c.granted - c.taken:=zz (by omega) (by omega)
 have w2:IntKind.wrap .i64 (c.sent - c.taken)=c.sent - c.taken:=zz (by omega) (by omega)
 by_cases h5:c.cap<c.granted - c.taken
 .simp[zex,c137,c1,crI,Cr.pl,h0,h1,h2,h3,h4,w1,h5]
 by_cases h6:(c.items.l.length:Int)=c.sent - c.taken
 rotate_left
 .simp[zex,c137,c1,crI,Cr.pl,h0,h1,h2,h3,h4,w1,w2,h5,h6]
 obtain⟨v,H',d1,rfl,d2⟩:=zu.1 (zvT c.items hl [.arr 0 6 false [c.av]])
 cases ha:c.items.l.all isIt with
 |true=>
  rw[ha]at d1
  simp[zex,c137,c1,crI,Cr.pl,h0,h1,h2,h3,h4,w1,w2,h5,h6,d1,ha]
 |false=>
  rw[ha]at d1
  simp[zex,c137,c1,crI,Cr.pl,h0,h1,h2,h3,h4,w1,w2,h5,h6,d1,ha]
theorem e239 (n:Int) (h1: -4611686018427387904≤n) (h2:n≤4611686018427387904):W.pure 239 [I n]=some (I n.natAbs):=by
 rw[ze Φ239 rfl]
 have w:IntKind.wrap .i64 (0 - n)=0 - n:=zz (by omega) (by omega)
 have w':IntKind.wrap .i64 (-n)= -n:=zz (by omega) (by omega)
 by_cases h:0≤n
 .have e:(n.natAbs:Int)=n:=by omega
  rw[e]
  by_cases h0:n=0
  .subst h0
   have w0:IntKind.wrap .i64 0=0:=zz (by omega) (by omega)
   simp[zlC,c239,mxV,w0]
  .have h3:¬n≤ -n:=by omega
   have h4: -n<n:=by omega
   have h5:¬n< -n:=by omega
   simp[zlC,c239,mxV,w,w',h3,h4,h5]
 .have e:(n.natAbs:Int)= -n:=by omega
  rw[e]
  have h3:n≤ -n:=by omega
  have h4:¬ -n<n:=by omega
  have h5:n< -n:=by omega
  simp[zlC,c239,mxV,w,w',h3,h4,h5]
theorem zu1 {a b:Nat} (h:0<b):1099511627776/b<a↔1099511627776<a* b:=Nat.div_lt_iff_lt_mul h
theorem quoM {b:Nat} (h:0<b):Int.tdiv 1099511627776 (b:Int)=((1099511627776/b:Nat):Int):=by
 rw[Int.tdiv_eq_ediv_of_nonneg (by omega)]
 rfl
theorem zuc (a b:Int) (ha:isIt a=true) (hb:isIt b=true) (H:Heap):W.call (.clo 243 [] []) [I a,I b] H=some (.tuple [I (opE 5 a b).1,I (opE 5 a b).2],H):=by
 rw[zj Φ243]
 have ha':=(zO a).1 ha
 have hb':=(zO b).1 hb
 have e:opE 5 a b=if 1099511627776<a.natAbs* b.natAbs then (0,14) else (a* b,0):=by simp[opE]
 rw[e]
 by_cases h0:b=0
 .subst h0
  have w0:IntKind.wrap .i64 0=0:=zz (by omega) (by omega)
  simp[zlB,c243,w0]
 .have c1:=e239 a (by omega) (by omega)
  have c2:=e239 b (by omega) (by omega)
  have hw:a.natAbs* b.natAbs≤1099511627776→IntKind.wrap .i64 (a* b)=a* b:=fun h=>by
   have:(a* b).natAbs≤1099511627776:=by rw[Int.natAbs_mul];omega
   exact zz (by omega) (by omega)
  have hbp:0<b.natAbs:=by omega
  generalize b.natAbs=B at *
  generalize a.natAbs=A at *
  obtain⟨D,hD1,hD2,hD3⟩:∃D:Nat,Int.tdiv 1099511627776 (B:Int)=(D:Int)∧D≤1099511627776∧(D<A↔1099511627776<A* B):=⟨_,quoM hbp,Nat.div_le_self _ _,zu1 hbp⟩
  have w:IntKind.wrap .i64 (D:Int)=D:=zz (by omega) (by omega)
  have hB:B≠0:=by omega
  by_cases h:1099511627776<A* B
  .have h2:=hD3.2 h
   simp only[if_pos h]
   simp[zlB,c243,h0,c1,c2,hB,hD1,w,h2]
  .have h2:¬D<A:=fun hh=>h (hD3.1 hh)
   simp only[if_neg h]
   simp[zlB,c243,h0,c1,c2,hB,hD1,w,h2,hw (by omega)]
theorem zq4 (o a b:Int) (ho:3≤o∧o≤15) (ha:isIt a=true) (hb:isIt b=true) (H:Heap):W.call (opFn o) [I a,I b] H=some (.tuple [I (opE o a b).1,I (opE o a b).2],H):=by
 have ha':=(zO a).1 ha
 have hb':=(zO b).1 hb
 have w1:IntKind.wrap .i64 (a+b)=a+b:=zz (by omega) (by omega)
 have w2:IntKind.wrap .i64 (a - b)=a - b:=zz (by omega) (by omega)
 have cases13:o=3∨o=4∨o=5∨o=6∨o=7∨o=8∨o=9∨o=10∨o=11∨o=12∨o=13∨o=14∨o=15:=by omega
 rcases cases13 with rfl|rfl|rfl|rfl|rfl|rfl|rfl|rfl|rfl|rfl|rfl|rfl|rfl
 .simp[opFn,zj Φ279,zd1,c279,zj Φ241,zqu,c241,opE,w1]
 .simp[opFn,zj Φ279,zd1,c279,zj Φ242,zqt,c242,opE,w2]
 .exact zuc a b ha hb H
 .by_cases h:b=0
  .simp[opFn,zj Φ280,zjp,c280,opE,h]
  .have hd:IntKind.wrap .i64 (a.tdiv b)=a.tdiv b:=by
    have:(a.tdiv b).natAbs≤a.natAbs:=by rw[Int.natAbs_tdiv];exact Nat.div_le_self _ _
    exact zz (by omega) (by omega)
   simp[opFn,zj Φ280,zjp,c280,zj Φ245,zqs,c245,opE,h,hd]
 .by_cases h:b=0
  .simp[opFn,zj Φ280,zjp,c280,opE,h]
  .simp[opFn,zj Φ280,zjp,c280,zj Φ246,zqr,c246,opE,h]
 .by_cases h:a=b<;>simp[opFn,zj Φ279,zd1,c279,zj Φ281,zfv,c281,zj Φ248,zqq,c248,opE,b01,h]
 .by_cases h:a=b<;>simp[opFn,zj Φ279,zd1,c279,zj Φ281,zfv,c281,zj Φ249,zqp,c249,opE,b01,h]
 .by_cases h:a<b<;>simp[opFn,zj Φ279,zd1,c279,zj Φ281,zfv,c281,zj Φ250,zqo,c250,opE,b01,h]
 .by_cases h:a≤b<;>simp[opFn,zj Φ279,zd1,c279,zj Φ281,zfv,c281,zj Φ251,zqn,c251,opE,b01,h]
 .by_cases h:b<a<;>simp[opFn,zj Φ279,zd1,c279,zj Φ281,zfv,c281,zj Φ252,zqm,c252,opE,b01,h]
 .by_cases h:b≤a<;>simp[opFn,zj Φ279,zd1,c279,zj Φ281,zfv,c281,zj Φ253,zql,c253,opE,b01,h]
 .by_cases h:a=0<;>by_cases h':b=0<;>simp[opFn,zj Φ279,zd1,c279,zj Φ281,zfv,c281,zj Φ254,zqk,c254,opE,b01,h,h']
 .by_cases h:a=0<;>by_cases h':b=0<;>simp[opFn,zj Φ279,zd1,c279,zj Φ281,zfv,c281,zj Φ255,zqj,c255,opE,b01,h,h']
theorem SlN.of {x y:Sl Int} (h:SlN x) (e:y=x∨y=zaM):SlN y:=by
 rcases e with rfl|rfl
 .exact h
 .exact zE
def zCr:Cr:=⟨0,0,0,0,zaM,false⟩
theorem zbF:(.agg [I 0,I 0,I 0,I 0,.isl (some true) 0 [],.bool false]:AV)=zCr.av:=rfl
theorem e133 (c:Cr) (hl:c.items.l.length≤9223372036854775807):W.pure 133 [c.av]=some (.bool (endC c.pl)):=by
 rw[ze Φ133 (by simp)]
 have c1:=e137 c hl
 by_cases h:crI c.pl=0
 .rw[h]at c1
  have e1:endC c.pl=(c.closed&&c.items.l.isEmpty):=by unfold endC;rw[h];simp[Cr.pl]
  rw[e1]
  cases h2:c.closed<;>cases h3:c.items.l<;>simp[znV,c133,c1,h2,h3]
  omega
 .simp[znV,c133,c1,endC,h]
theorem e136 (c:Cr) (hl:c.items.l.length≤9223372036854775807):W.pure 136 [c.av]=some (I (zfJ c.pl)):=by
 rw[ze Φ136 (by simp)]
 have c1:=e137 c hl
 by_cases h:crI c.pl=0
 .rw[h]at c1
  have hv:=(zaO _).1 h
  have w1:IntKind.wrap .i64 (c.granted - c.sent)=c.granted - c.sent:=by
   have h1:=hv.sg;have h2:=hv.gm;have h3:=hv.t0;have h4:=hv.ts
   simp only[Cr.pl]at h1 h2 h3 h4
   exact zz (by omega) (by omega)
  have hpl:c.pl.closed=c.closed:=rfl
  cases h2:c.closed<;>simp[znU,c136,c1,zfJ,h,hpl,h2,w1]
  rfl
 .simp[znU,c136,c1,zfJ,h]
theorem Cr.pl_mk (c:Cr):c.pl=⟨c.cap,c.granted,c.sent,c.taken,c.items.l,c.closed⟩:=rfl
theorem e78 (c:Cr) (hl:c.items.l.length≤9223372036854775807) (n:Int):∃c':Cr,W.pure 78 [c.av,I n]=some (.tuple [c'.av,I (reqC c.pl n).2])∧c'.pl=(reqC c.pl n).1∧(c'.items=c.items∨c'.items=zaM):=by
 have c1:=e137 c hl
 by_cases h:crI c.pl=0
 rotate_left
 .have hr:reqC c.pl n=(crZ,crI c.pl):=by unfold reqC;rw[if_pos h]
  rw[hr]
  refine⟨zCr,?_,rfl,.inr rfl⟩
  rw[ze Φ78 (by simp)]
  simp[fi78,c78,zj Φ125,zch,c125,c1,h,←zbF]
 rw[h]at c1
 have hv:=(zaO _).1 h
 have g1:=hv.sg;have g2:=hv.gm;have g3:=hv.t0;have g4:=hv.ts;have g5:=hv.c1;have g6:=hv.c2;have g7:=hv.gc
 rw[Cr.pl_mk]at h⊢
 simp only[Cr.pl]at g1 g2 g3 g4 g5 g6 g7
 by_cases h1:n<1
 .have hr:reqC ⟨c.cap,c.granted,c.sent,c.taken,c.items.l,c.closed⟩ n=(crZ,2):=by unfold reqC;rw[if_neg (by simp[h]),if_pos h1]
  rw[hr]
  refine⟨zCr,?_,rfl,.inr rfl⟩
  rw[ze Φ78 (by simp)]
  simp[fi78,c78,zj Φ125,zch,c125,zj Φ126,zio,c126,c1,h1,←zbF]
 cases h2:c.closed with
 |true=>
  rw[h2]at h
  have hr:reqC ⟨c.cap,c.granted,c.sent,c.taken,c.items.l,true⟩ n=(crZ,19):=by unfold reqC;rw[if_neg (by simp[h]),if_neg h1,if_pos rfl]
  rw[hr]
  refine⟨zCr,?_,rfl,.inr rfl⟩
  rw[ze Φ78 (by simp)]
  simp[fi78,c78,zj Φ125,zch,c125,zj Φ126,zio,c126,c1,h1,h2,←zbF]
 |false=>
 rw[h2]at h
 have w1:IntKind.wrap .i64 (c.taken+c.cap)=c.taken+c.cap:=zz (by omega) (by omega)
 have w2:IntKind.wrap .i64 (c.taken+c.cap - c.granted)=c.taken+c.cap - c.granted:=zz (by omega) (by omega)
 by_cases h3:c.taken+c.cap - c.granted<n
 .have hr:reqC ⟨c.cap,c.granted,c.sent,c.taken,c.items.l,false⟩ n=(crZ,18):=by unfold reqC;rw[if_neg (by simp[h]),if_neg h1,if_neg (by simp),if_pos h3]
  rw[hr]
  refine⟨zCr,?_,rfl,.inr rfl⟩
  rw[ze Φ78 (by simp)]
  simp[fi78,c78,zj Φ125,zch,c125,zj Φ126,zio,c126,c1,h1,h2,w1,w2,h3,←zbF]
 have w3:IntKind.wrap .i64 (c.granted+n)=c.granted+n:=zz (by omega) (by omega)
 by_cases h4:1099511627776<c.granted+n
 .have hr:reqC ⟨c.cap,c.granted,c.sent,c.taken,c.items.l,false⟩ n=(crZ,4):=by unfold reqC;rw[if_neg (by simp[h]),if_neg h1,if_neg (by simp),if_neg h3,if_pos h4]
  rw[hr]
  refine⟨zCr,?_,rfl,.inr rfl⟩
  rw[ze Φ78 (by simp)]
  simp[fi78,c78,zj Φ125,zch,c125,zj Φ126,zio,c126,c1,h1,h2,w1,w2,h3,w3,h4,←zbF]
 .have hr:reqC ⟨c.cap,c.granted,c.sent,c.taken,c.items.l,false⟩ n=(⟨c.cap,c.granted+n,c.sent,c.taken,c.items.l,false⟩,0):=by unfold reqC;rw[if_neg (by simp[h]),if_neg h1,if_neg (by simp),if_neg h3,if_neg h4]
  rw[hr]
  refine⟨{c with granted:=c.granted+n},?_,by simp[Cr.pl,h2],.inl rfl⟩
  rw[ze Φ78 (by simp)]
  simp[fi78,c78,zj Φ125,zch,c125,zj Φ126,zio,c126,c1,h1,h2,w1,w2,h3,w3,h4]
theorem e90 (c:Cr) (hl:c.items.l.length≤9223372036854775807):∃c':Cr,W.pure 90 [c.av]=some (.tuple [c'.av,I (zbK c.pl).2])∧c'.pl=(zbK c.pl).1∧(c'.items=c.items∨c'.items=zaM):=by
 have c1:=e137 c hl
 by_cases h:crI c.pl=0
 rotate_left
 .have hr:zbK c.pl=(crZ,crI c.pl):=by unfold zbK;rw[if_pos h]
  rw[hr]
  refine⟨zCr,?_,rfl,.inr rfl⟩
  rw[ze Φ90 (by simp)]
  simp[fi90,c90,zj Φ125,zch,c125,c1,h,←zbF]
 rw[h]at c1
 rw[Cr.pl_mk]at h⊢
 cases h2:c.closed with
 |true=>
  rw[h2]at h
  have hr:zbK ⟨c.cap,c.granted,c.sent,c.taken,c.items.l,true⟩=(crZ,19):=by unfold zbK;rw[if_neg (by simp[h]),if_pos rfl]
  rw[hr]
  refine⟨zCr,?_,rfl,.inr rfl⟩
  rw[ze Φ90 (by simp)]
  simp[fi90,c90,zj Φ125,zch,c125,zj Φ139,znT,c139,c1,h2,←zbF]
 |false=>
  rw[h2]at h
  have hr:zbK ⟨c.cap,c.granted,c.sent,c.taken,c.items.l,false⟩=(⟨c.cap,c.granted,c.sent,c.taken,c.items.l,true⟩,0):=by unfold zbK;rw[if_neg (by simp[h]),if_neg (by simp)]
  rw[hr]
  refine⟨{c with closed:=true},?_,rfl,.inl rfl⟩
  rw[ze Φ90 (by simp)]
  simp[fi90,c90,zj Φ125,zch,c125,zj Φ139,znT,c139,c1,h2]
def zap {α:Type} (f:α→AV) (sz:Nat) (x:Sl α) (H:Heap):AV×Heap:=
 if x.nl=some true then (.isl (some true) 0 [],H) else (.osl H.length x.l.length 0 x.l.length,H++[.arr x.l.length sz false (x.l.map f)])
theorem zhn {α:Type} {f:α→AV} {sz:Nat} (x:Sl α) (H:Heap) (hx:x.l.length≤1048576) (hf:∀a,(f a).cells.all AV.cell=true):
  ex (H++[.arr 0 sz false []]) (.app sz) [.osl H.length 0 0 0,Sl.av f sz x]=some (.osl H.length x.l.length 0 x.l.length,H++[.arr x.l.length sz false (x.l.map f)]):=by
 have hall:(x.l.map f).all (fun e=>e.cells.all AV.cell)=true:=zk3 hf x.l
 have h0:truncH (H++[.arr 0 sz false []]) (.osl H.length 0 0 0)=H++[.arr 0 sz false []]:=by simp[truncH]
 simp only[ex,zj0,hall,if_true,h0]
 cases hl:x.l with
 |nil=>simp[zbN]
 |cons a r=>
  rw[hl]at hx
  simp only[lLc]at hx
  simp[zbN,zay]
  omega
theorem zoi (x:Sl Int) (hx:SlN x) (H:Heap):W.call (.clo 44 [] []) [Sl.av I 1 x] H=some (zap I 1 x H):=by
 rw[zj Φ44]
 obtain⟨nl,z,l⟩:=x
 rcases hx.1 with⟨h1,h2⟩|h1
 .simp only at h1 h2;subst h1;subst h2
  simp[fi44,c44,zap]
 .simp only at h1;subst h1
  have:=zhn (f:=I) (sz:=1) ⟨some false,z,l⟩ H hx.2 (by simp)
  simp[fi44,c44,zap,this]
theorem zvG (x:Sl (Sl Int)) (hx:SlN x) (H:Heap):W.call (.clo 42 [] []) [Sl.av (Sl.av I 1) 1 x] H=some (zap (Sl.av I 1) 1 x H):=by
 rw[zj Φ42]
 obtain⟨nl,z,l⟩:=x
 rcases hx.1 with⟨h1,h2⟩|h1
 .simp only at h1 h2;subst h1;subst h2
  simp[fi42,c42,zap]
 .simp only at h1;subst h1
  have:=zhn (f:=(Sl.av I 1)) (sz:=1) ⟨some false,z,l⟩ H hx.2 (by simp)
  simp[fi42,c42,zap,this]
theorem zvH (x:Sl Ss) (hx:SlN x) (H:Heap):W.call (.clo 40 [] []) [Sl.av Ss.av 3 x] H=some (zap Ss.av 3 x H):=by
 rw[zj Φ40]
 obtain⟨nl,z,l⟩:=x
 rcases hx.1 with⟨h1,h2⟩|h1
 .simp only at h1 h2;subst h1;subst h2
  simp[fi40,c40,zap]
 .simp only at h1;subst h1
  have:=zhn (f:=Ss.av) (sz:=3) ⟨some false,z,l⟩ H hx.2 (by simp)
  simp[fi40,c40,zap,this]
theorem zr5 (x:Sl Cr) (hx:SlN x) (H:Heap):W.call (.clo 41 [] []) [Sl.av Cr.av 6 x] H=some (zap Cr.av 6 x H):=by
 rw[zj Φ41]
 obtain⟨nl,z,l⟩:=x
 rcases hx.1 with⟨h1,h2⟩|h1
 .simp only at h1 h2;subst h1;subst h2
  simp[fi41,c41,zap]
 .simp only at h1;subst h1
  have:=zhn (f:=Cr.av) (sz:=6) ⟨some false,z,l⟩ H hx.2 (by simp)
  simp[fi41,c41,zap,this]
mutual
theorem AV.beq_refl:∀x:AV,AV.beq x x=true
 | .eptr a=>by simp[AV.beq,AV.beqs_refl a]
 | .isl n s e=>by simp[AV.beq,AV.beqs_refl e]
 | .agg a=>by simp[AV.beq,AV.beqs_refl a]
 | .tuple a=>by simp[AV.beq,AV.beqs_refl a]
 | .clo f a b=>by simp[AV.beq,AV.beqs_refl a,AV.beqs_refl b]
 | .imap a b=>by simp[AV.beq,AV.beqs_refl a,AV.beqs_refl b]
 | .bad=>rfl
 | .und=>rfl
 | .bool _=>by simp[AV.beq]
 | .int _ _=>by simp[AV.beq]
 | .str _=>by simp[AV.beq]
 | .nilp=>rfl
 | .nilf=>rfl
 | .optr _ _ _ _=>by simp[AV.beq]
 | .osl _ _ _ _=>by simp[AV.beq]
 | .yld _=>by simp[AV.beq]
 | .omap _=>by simp[AV.beq]
 | .oit _=>by simp[AV.beq]
 | .unk _=>by simp[AV.beq]
 | .nili=>rfl
 | .nilm=>rfl
theorem AV.beqs_refl:∀x:List AV,AV.beqs x x=true
 | []=>rfl
 |x::r=>by simp[AV.beqs,AV.beq_refl x,AV.beqs_refl r]
end
@[simp] theorem beqH_arr (v s:Nat) (h:Bool) (e:List AV) (r t:Heap):beqH (.arr v s h e::r) (.arr v s h e::t)=beqH r t:=by
 simp[beqH,Blk.beq,AV.beqs_refl]
@[simp] theorem beqH_nil:beqH [] []=true:=rfl
theorem zaP (H:Heap) (z:Nat) (n:Int):ex H (.app 1) [.isl (some true) z [],.isl (some false) 1 [.int .i64 n]]=some (.osl H.length 0 0 1,H++[.arr 0 1 false [I n]]):=by
 simp[ex,zbN,truncH,zay,zax]
theorem zak {H:Heap} {id ver:Nat} {l:List Int} (h:H[id]?=some (.arr ver 1 false (l.map I))) (hl:l.length≤1048576) (n:Int):
  ex H (.app 1) [.osl id ver 0 l.length,.isl (some false) 1 [.int .i64 n]]=some (.osl id (ver+1) 0 (l.length+1),H.set id (.arr (ver+1) 1 false ((l++[n]).map I))):=by
 have ht:truncH H (.osl id ver 0 l.length)=H:=by simp[truncH,h]
 have hr:l.length+1≤zay:=by simp[zay];omega
 simp[ex,zax,ht,zbN,h,hr]
theorem zdt {H:Heap} {n id v len:Nat} {l:List Int} (hb:H[id]?=some (.arr v 1 false (l.map I))) (hl:len=l.length):frz H (n+1) (.osl id v 0 len)=some (Sl.av I 1 (ofL 1 l)):=by
 rw[zcP hb (by simp[hl]) (zba (by simp) l),zcc]
@[simp] theorem crSetO (a b c d:Int) (l:Sl Int) (e:Bool) (i j k n:Nat):zd [(Cr.mk a b c d l e).av] 0 4 (.osl i j k n)=some [.agg [I a,I b,I c,I d,.osl i j k n,.bool e]]:=rfl
@[simp] theorem crSetI (a b c d e f:AV) (k:IntKind) (x:Int):zd [.agg [a,b,c,d,e,f]] 0 2 (.int k x)=some [.agg [a,b,.int k x,d,e,f]]:=rfl
@[simp] theorem crSetT (a b c d e f:AV) (k:IntKind) (x:Int):zd [.agg [a,b,c,d,e,f]] 0 3 (.int k x)=some [.agg [a,b,c,.int k x,e,f]]:=rfl
theorem e89 (c:Cr) (hc:SlN c.items) (n:Int):∃c':Cr,W.pure 89 [c.av,I n]=some (.tuple [c'.av,I (zc9 c.pl n).2])∧c'.pl=(zc9 c.pl n).1∧SlN c'.items:=by
 have hl:=hc.len
 have c1:=e137 c hl
 by_cases h:crI c.pl=0
 rotate_left
 .have hr:zc9 c.pl n=(crZ,crI c.pl):=by unfold zc9;rw[if_pos h]
  rw[hr]
  refine⟨zCr,?_,rfl,zE⟩
  rw[ze Φ89 (by simp)]
  simp[fi89,c89,zj Φ125,zch,c125,c1,h,←zbF]
 rw[h]at c1
 have hv:=(zaO _).1 h
 have g1:=hv.sg;have g2:=hv.gm;have g3:=hv.t0;have g4:=hv.ts;have g5:=hv.c1;have g6:=hv.c2;have g7:=hv.gc;have g8:=hv.len
 rw[Cr.pl_mk]at h⊢
 simp only[Cr.pl]at g1 g2 g3 g4 g5 g6 g7 g8
 have c2:=e124 n (-1099511627776) 1099511627776
 have hn:isIt n=(decide (-1099511627776≤n)&&decide (n≤1099511627776)):=rfl
 rw[←hn]at c2
 cases h1:isIt n with
 |false=>
  rw[h1]at c2
  have hr:zc9 ⟨c.cap,c.granted,c.sent,c.taken,c.items.l,c.closed⟩ n=(crZ,2):=by unfold zc9;rw[if_neg (by simp[h]),if_pos h1]
  rw[hr]
  refine⟨zCr,?_,rfl,zE⟩
  rw[ze Φ89 (by simp)]
  simp[fi89,c89,zj Φ125,zch,c125,zj Φ138,zin,c138,c1,c2,←zbF]
 |true=>
 rw[h1]at c2
 cases h2:c.closed with
 |true=>
  rw[h2]at h
  have hr:zc9 ⟨c.cap,c.granted,c.sent,c.taken,c.items.l,true⟩ n=(crZ,19):=by unfold zc9;rw[if_neg (by simp[h]),if_neg (by simp[h1]),if_pos rfl]
  rw[hr]
  refine⟨zCr,?_,rfl,zE⟩
  rw[ze Φ89 (by simp)]
  simp[fi89,c89,zj Φ125,zch,c125,zj Φ138,zin,c138,c1,c2,h2,←zbF]
 |false=>
 rw[h2]at h
 by_cases h3:c.sent=c.granted
 .have hr:zc9 ⟨c.cap,c.granted,c.sent,c.taken,c.items.l,false⟩ n=(crZ,18):=by unfold zc9;rw[if_neg (by simp[h]),if_neg (by simp[h1]),if_neg (by simp),if_pos h3]
  rw[hr]
  refine⟨zCr,?_,rfl,zE⟩
  rw[ze Φ89 (by simp)]
  simp[fi89,c89,zj Φ125,zch,c125,zj Φ138,zin,c138,c1,c2,h2,h3,←zbF]
 have w1:IntKind.wrap .i64 (c.sent+1)=c.sent+1:=zz (by omega) (by omega)
 have hr:zc9 ⟨c.cap,c.granted,c.sent,c.taken,c.items.l,false⟩ n=(⟨c.cap,c.granted,c.sent+1,c.taken,c.items.l++[n],false⟩,0):=by unfold zc9;rw[if_neg (by simp[h]),if_neg (by simp[h1]),if_neg (by simp),if_neg h3]
 rw[hr]
 have hlen:(c.items.l++[n]).length≤1048576:=by simp;omega
 refine⟨⟨c.cap,c.granted,c.sent+1,c.taken,ofL 1 (c.items.l++[n]),false⟩,?_,rfl,zat hlen⟩
 rw[ze Φ89 (by simp)]
 have k1:=zoi c.items hc
 obtain⟨a1,a2,a3,a4,⟨nl,z,l⟩,a6⟩:=c
 simp only at *
 subst h2
 rcases hc.1 with⟨b1,b2⟩|b1
 .simp only at b1 b2;subst b1;subst b2
  simp[zap]at k1
  have k3:∀H:Heap,H[7]?=some (.arr 0 1 false [I n])→frz H 6 (.osl 7 0 0 1)=some (Sl.av I 1 (ofL 1 [n])):=fun H h=>zdt (l:=[n]) h rfl
  simp[fi89,c89,zj Φ125,zch,c125,zj Φ138,zin,c138,c1,c2,h3,k1,w1,zaP,k3]
  rfl
 .simp only at b1;subst b1
  simp[zap]at k1
  have k2:=fun H h=>zak (H:=H) (id:=7) (ver:=l.length) (l:=l) h hc.2 n
  have k3:∀H:Heap,H[7]?=some (.arr (l.length+1) 1 false (l.map I++[I n]))→frz H 6 (.osl 7 (l.length+1) 0 (l.length+1))=some (Sl.av I 1 (ofL 1 (l++[n]))):=fun H h=>zdt (l:=l++[n]) (by rw[h];simp) (by simp)
  simp[fi89,c89,zj Φ125,zch,c125,zj Φ138,zin,c138,c1,c2,h3,k1,w1,k2,k3]
  rfl
theorem zt3 {H:Heap} {id:Nat} {l:List Int} (nl:Option Bool) (h:H[id]?=some (.arr 0 1 false (List.replicate l.length (.int .i64 0)))):
  ex H .cpy [.osl id 0 0 l.length,.isl nl 1 (l.map I)]=some (.int .i64 l.length,H.set id (.arr 0 1 false (l.map I))):=by
 simp[ex,h,zax]
theorem e88 (c:Cr) (hc:SlN c.items):∃c':Cr,W.pure 88 [c.av]=some (.tuple [c'.av,I (zbX c.pl).2.1,I (zbX c.pl).2.2])∧c'.pl=(zbX c.pl).1∧SlN c'.items:=by
 have hl:=hc.len
 have c1:=e137 c hl
 by_cases h:crI c.pl=0
 rotate_left
 .have hr:zbX c.pl=(crZ,0,crI c.pl):=by unfold zbX;rw[if_pos h]
  rw[hr]
  refine⟨zCr,?_,rfl,zE⟩
  rw[ze Φ88 (by simp)]
  simp[fi88,c88,c1,h,←zbF]
 rw[h]at c1
 have hv:=(zaO _).1 h
 have g1:=hv.sg;have g2:=hv.gm;have g3:=hv.t0;have g4:=hv.ts;have g5:=hv.c1;have g6:=hv.c2;have g7:=hv.gc;have g8:=hv.len
 rw[Cr.pl_mk]at h⊢
 simp only[Cr.pl]at g1 g2 g3 g4 g5 g6 g7 g8
 obtain⟨a1,a2,a3,a4,⟨nl,z,l⟩,a6⟩:=c
 simp only at *
 cases l with
 |nil=>
  cases a6 with
  |true=>
   have hr:zbX ⟨a1,a2,a3,a4,[],true⟩=(crZ,0,19):=by unfold zbX;rw[if_neg (by simp[h])];rfl
   rw[hr]
   refine⟨zCr,?_,rfl,zE⟩
   rw[ze Φ88 (by simp)]
   simp[fi88,c88,c1,←zbF]
  |false=>
   have hr:zbX ⟨a1,a2,a3,a4,[],false⟩=(crZ,0,23):=by unfold zbX;rw[if_neg (by simp[h])];rfl
   rw[hr]
   refine⟨zCr,?_,rfl,zE⟩
   rw[ze Φ88 (by simp)]
   simp[fi88,c88,c1,←zbF]
 |cons a r=>
  have hr:zbX ⟨a1,a2,a3,a4,a::r,a6⟩=(⟨a1,a2,a3,a4+1,r,a6⟩,a,0):=by unfold zbX;rw[if_neg (by simp[h])]
  rw[hr]
  have hlr:r.length≤1048576:=by have:=hc.2;simp at this;omega
  refine⟨⟨a1,a2,a3,a4+1,ofL 1 r,a6⟩,?_,rfl,zat hlr⟩
  rw[ze Φ88 (by simp)]
  have hne:¬((r.length:Int)+1=0):=by omega
  have w1:IntKind.wrap .i64 (a4+1)=a4+1:=zz (by omega) (by simp only[lLc]at g8;omega)
  have w2:IntKind.wrap .i64 ((r.length:Int)+1 - 1)=r.length:=by rw[zz]<;>omega
  have w3:IntKind.wrap .i64 (r.length:Int)=r.length:=by rw[zz]<;>omega
  have hle:(r.length:Int)≤1048576:=by omega
  have h1:(1:Int)≤r.length+1:=by omega
  have hT:List.take r.length (List.map I r)=r.map I:=List.take_of_length_le (by simp)
  have k1:=fun H h=>zt3 (H:=H) (id:=2) (l:=r) nl h
  have k3:∀H:Heap,H[2]?=some (.arr 0 1 false (r.map I))→frz H 6 (.osl 2 0 0 r.length)=some (Sl.av I 1 (ofL 1 r)):=fun H h=>zdt (l:=r) h rfl
  simp[fi88,c88,c1,hne,w1,w2,w3,hle,h1,hT,k1,k3]
  rfl
abbrev bL (l:Sl Bnd):AV:=Sl.av Bnd.av 3 l
def bZ:Bnd:=⟨[],0,0⟩
theorem zq7:(.agg [.str [],I 0,I 0]:AV)=bZ.av:=rfl
theorem zub (b:Bnd) (n:List UInt8) (id:Nat) (H:Heap) (h:H[id]?=some (.arr 0 1 false [.str n])):W.call (.clo 267 [] [.optr id 0 0 0]) [b.av] H=some (.bool (decide (b.name=n)),H++[.arr 0 3 false [b.av]]):=by
 rw[zj Φ267]
 have p1:∀B,(H++[B])[id]?=some (.arr 0 1 false [.str n]):=zaa h
 by_cases hn:b.name=n<;>simp[zqh,c267,p1,hn,zF,zD, -getElem?_pos,gEz]
theorem zik {α:Type} (p:α→Bool):∀l:List α,match fidx p l with|some j=>∃a,l[j]?=some a∧l.find? p=some a|none=>l.find? p=none
 | []=>rfl
 |a::r=>by
  have ih:=zik p r
  cases h:p a with
  |true=>simp[fidx,h]
  |false=>
   cases hf:fidx p r with
   |none=>rw[hf]at ih;simp[fidx,h,hf,ih]
   |some j=>rw[hf]at ih;obtain⟨b,h1,h2⟩:=ih;simp[fidx,h,hf,h1,h2]
theorem e235 (l:Sl Bnd) (hl:l.l.length≤9223372036854775807) (n:List UInt8):W.pure 235 [bL l,.str n]=some (.tuple [((zaD l.l n).getD bZ).av,.bool (zaD l.l n).isSome]):=by
 rw[ze Φ235 rfl]
 obtain⟨v,H',d1,rfl,d2⟩:=zu.1 (zvm l hl (.clo 267 [] [.optr 0 0 0 0]) rfl (fun b=>decide (b.name=n)) [.arr 0 1 false [.str n],.arr 0 3 false [bZ.av]] (fun a _ H hk=>by
  have:H[0]?=some (.arr 0 1 false [.str n]):=hk.get (by simp) rfl
  rw[zub a n 0 H this]
  exact⟨rfl,Kept.append _ _ _⟩))
 have g1:H'[1]?=some (.arr 0 3 false [bZ.av]):=d2.get (by simp) rfl
 have s1:∀B,(H'.set 1 B)[1]?=some B:=fun B=>gEt (by have:=d2.1;simp at this;omega)
 have hf:=zik (fun b:Bnd=>decide (b.name=n)) l.l
 unfold zaD
 cases hx:fidx (fun b:Bnd=>decide (b.name=n)) l.l with
 |none=>
  rw[hx]at hf d1
  simp only at hf d1
  rw[hf]
  simp[zny,c235,zq7,d1,g1,s1, -getElem?_pos,gEz]
 |some j=>
  rw[hx]at hf d1
  obtain⟨a,h1,h2⟩:=hf
  simp only at d1
  rw[h2]
  have hj:¬((j:Int)<0):=by omega
  simp[zny,c235,zq7,d1,g1,s1,h1,hj, -getElem?_pos,gEz]
theorem zdy {e:Ex} (h:zS e=0):(e.kind=1∧e.args.l=[])∨(e.kind=2∧e.args.l=[])∨(e.kind=3∧(e.op=1∨e.op=2)∧∃a,e.args.l=[a])∨(e.kind=4∧3≤e.op∧e.op≤15∧∃a b,e.args.l=[a,b]):=by
 unfold zS at h
 split at h
 .cases h
 rename_i h1
 split at h
 .cases h
 rename_i h2
 split at h
 .cases h
 split at h
 .cases h
 split at h
 .cases h
 rename_i h5
 have hs:zaw e=true:=by cases hh:zaw e with|true=>rfl|false=>exact absurd hh h2
 simp only[zaw,bAt,dTe]at hs
 have hl:=hs.2
 have hk:e.kind=1∨e.kind=2∨e.kind=3∨e.kind=4:=by omega
 rcases hk with hk|hk|hk|hk
 .left
  simp only[hk]at hl
  exact⟨hk,List.length_eq_zero_iff.1 (by simpa using hl)⟩
 .right;left
  simp only[hk]at hl
  exact⟨hk,List.length_eq_zero_iff.1 (by simpa using hl)⟩
 .right;right;left
  simp only[hk]at hl
  have hl1:e.args.l.length=1:=by simp at hl;omega
  refine⟨hk,by omega,?_⟩
  match hm:e.args.l,hl1 with
  | [a],_=>exact⟨a,rfl⟩
 .right;right;right
  simp only[hk]at hl
  have hl1:e.args.l.length=2:=by simp at hl;omega
  refine⟨hk,by omega,by omega,?_⟩
  match hm:e.args.l,hl1 with
  | [a,b],_=>exact⟨a,b,rfl⟩
def ExV (e:Ex):Prop:=∀x∈e.parts,zS x=0
theorem ExV.of {e:Ex} (h:zB e=0):ExV e:=by
 unfold zB at h
 split at h
 .cases h
 .split at h
  .cases h
  .exact zqV.1 h
theorem ExV.arg {e:Ex} (h:ExV e) {a:Ex} (ha:a∈e.args.l):ExV a:=by
 intro x hx
 refine h x ?_
 rw[Ex.parts_eq]
 have key:∀l:List Ex,a∈l→x∈Ex.partss l:=by
  intro l
  induction l with
  |nil=>intro h;cases h
  |cons b r ih=>
   intro h
   simp only[Ex.partss,List.mem_append]
   rcases lMc.1 h with rfl|h
   .exact .inl hx
   .exact .inr (ih h)
 exact List.mem_cons_of_mem _ (key _ ha)
theorem ExV.head {e:Ex} (h:ExV e):zS e=0:=h e (by rw[Ex.parts_eq];simp)
theorem zrF (L:AV) (hL:okO L=some L) (x:Sl Ex) (hx:x.l=[]) (B:Blk):
  okC (W.loop [1,2,6,16,17,18] zh6 [(1,L),(2,.optr 0 0 0 0),(6,.isl (some true) 0 []),(16,Sl.av Ex.av 5 x),(17,I 0),(18,I 0)] [B])
   (fun q F' H'=>q= .exit 0∧F'.keep [1,2,6]=[(1,L),(2,.optr 0 0 0 0),(6,.isl (some true) 0 [])]∧H'=[B]):=by
 rw[zb]
 simp[zbh,zcG,hL]
theorem zuz (L:AV) (hL:okO L=some L) (x:Sl Ex) (a:Ex) (hx:x.l=[a]) (B:Blk) (t f:Int) (h:W.pure 216 [a.av,L]=some (.tuple [I t,I f])):
  okC (W.loop [1,2,6,16,17,18] zh6 [(1,L),(2,.optr 0 0 0 0),(6,.isl (some true) 0 []),(16,Sl.av Ex.av 5 x),(17,I 1),(18,I 0)] [B])
   (fun q F' H'=>if f=0 then q= .exit 0∧F'.keep [1,2,6]=[(1,L),(2,.optr 0 0 0 0),(6,.osl 2 0 0 1)]∧H'=[B,.arr 0 5 false [a.av],.arr 0 1 false [I t]] else q= .ret∧F'.get 4=I 0∧F'.get 5=I f):=by
 have w:IntKind.wrap .i64 1=1:=zz (by omega) (by omega)
 by_cases hf:f=0
 .subst hf
  rw[zb]
  simp[zbh,zcG,hL,hx,h,zaP,w]
  rw[zb]
  simp[zbh,zcG,hL,hx]
 .rw[zb]
  simp[zbh,zcG,hL,hx,h,hf]
theorem zuy (L:AV) (hL:okO L=some L) (x:Sl Ex) (a b:Ex) (hx:x.l=[a,b]) (B:Blk) (t f u g:Int) (h:W.pure 216 [a.av,L]=some (.tuple [I t,I f])) (h':W.pure 216 [b.av,L]=some (.tuple [I u,I g])):
  okC (W.loop [1,2,6,16,17,18] zh6 [(1,L),(2,.optr 0 0 0 0),(6,.isl (some true) 0 []),(16,Sl.av Ex.av 5 x),(17,I 2),(18,I 0)] [B])
   (fun q F' H'=>if f=0 then (if g=0 then q= .exit 0∧F'.keep [1,2,6]=[(1,L),(2,.optr 0 0 0 0),(6,.osl 2 1 0 2)]∧H'=[B,.arr 0 5 false [a.av],.arr 1 1 false [I t,I u],.arr 0 5 false [b.av]] else q= .ret∧F'.get 4=I 0∧F'.get 5=I g) else q= .ret∧F'.get 4=I 0∧F'.get 5=I f):=by
 have w:IntKind.wrap .i64 1=1:=zz (by omega) (by omega)
 have w2:IntKind.wrap .i64 2=2:=zz (by omega) (by omega)
 by_cases hf:f=0
 .subst hf
  rw[zb]
  simp[zbh,zcG,hL,hx,h,zaP,w]
  rw[zb]
  by_cases hg:g=0
  .subst hg
   have k2:=fun H hh=>zak (H:=H) (id:=2) (ver:=0) (l:=[t]) hh (by simp) u
   simp at k2
   simp[zbh,zcG,hL,hx,h',k2,w2]
   rw[zb]
   simp[zbh,zcG,hL,hx]
  .simp[zbh,zcG,hL,hx,h',hg]
 .rw[zb]
  simp[zbh,zcG,hL,hx,h,hf]
theorem zyJ (l:Sl Bnd) (hl:l.l.length≤9223372036854775807):∀e:Ex,ExV e→W.pure 216 [e.av,bL l]=some (.tuple [I (tyE l.l e).1,I (tyE l.l e).2]):=by
 refine Ex.ind (fun e ih=>?_)
 intro he
 rw[ze Φ216 (by simp),zcj]
 have hL:okO (bL l)=some (bL l):=by simp
 rcases zdy he.head with⟨hk,ha⟩|⟨hk,ha⟩|⟨hk,ho,a,ha⟩|⟨hk,ho1,ho2,a,b,ha⟩
 .obtain⟨q,F',H',d1,rfl,d2,rfl⟩:=zc.1 (zrF (bL l) hL e.args ha (.arr 0 5 false [e.av]))
  simp[zdc,c216,ha,d1,d2,hk,tyEs,zaT]
 .obtain⟨q,F',H',d1,rfl,d2,rfl⟩:=zc.1 (zrF (bL l) hL e.args ha (.arr 0 5 false [e.av]))
  have c1:=e235 l hl e.name
  cases hf:zaD l.l e.name with
  |none=>rw[hf]at c1;simp at c1;simp[zdc,c216,ha,d1,d2,hk,tyEs,zaT,c1,hf]
  |some b=>rw[hf]at c1;simp at c1;simp[zdc,c216,ha,d1,d2,hk,tyEs,zaT,c1,hf]
 .have h1:=ih a (by rw[ha];simp) (he.arg (by rw[ha];simp))
  obtain⟨q,F',H',d1,d2⟩:=zc.1 (zuz (bL l) hL e.args a ha (.arr 0 5 false [e.av]) _ _ h1)
  by_cases hf:(tyE l.l a).2=0
  .rw[if_pos hf]at d2
   obtain⟨rfl,d2,rfl⟩:=d2
   have ets:tyEs l.l e.args.l= .inr [(tyE l.l a).1]:=by rw[ha];simp[tyEs,hf]
   rw[ets]
   generalize (tyE l.l a).1=t at *
   rcases ho with ho|ho
   .by_cases ht:t=1<;>simp[zdc,c216,ha,d1,d2,hk,zaT,ho,ht]
   .by_cases ht:t=2<;>simp[zdc,c216,ha,d1,d2,hk,zaT,ho,ht]
  .rw[if_neg hf]at d2
   obtain⟨rfl,d2,d3⟩:=d2
   have ets:tyEs l.l e.args.l= .inl (tyE l.l a).2:=by rw[ha];simp[tyEs,hf]
   rw[ets]
   simp[zdc,c216,ha,d1,d2,d3]
 .have h1:=ih a (by rw[ha];simp) (he.arg (by rw[ha];simp))
  have h2:=ih b (by rw[ha];simp) (he.arg (by rw[ha];simp))
  obtain⟨q,F',H',d1,d2⟩:=zc.1 (zuy (bL l) hL e.args a b ha (.arr 0 5 false [e.av]) _ _ _ _ h1 h2)
  by_cases hf:(tyE l.l a).2=0
  rotate_left
  .rw[if_neg hf]at d2
   obtain⟨rfl,d2,d3⟩:=d2
   have ets:tyEs l.l e.args.l= .inl (tyE l.l a).2:=by rw[ha];simp[tyEs,hf]
   rw[ets]
   simp[zdc,c216,ha,d1,d2,d3]
  rw[if_pos hf]at d2
  by_cases hg:(tyE l.l b).2=0
  rotate_left
  .rw[if_neg hg]at d2
   obtain⟨rfl,d2,d3⟩:=d2
   have ets:tyEs l.l e.args.l= .inl (tyE l.l b).2:=by rw[ha];simp[tyEs,hf,hg]
   rw[ets]
   simp[zdc,c216,ha,d1,d2,d3]
  rw[if_pos hg]at d2
  obtain⟨rfl,d2,rfl⟩:=d2
  have ets:tyEs l.l e.args.l= .inr [(tyE l.l a).1,(tyE l.l b).1]:=by rw[ha];simp[tyEs,hf,hg]
  rw[ets]
  generalize (tyE l.l a).1=t at *
  generalize (tyE l.l b).1=u at *
  have c1:=e211
  have c2:=zgG e.op
  rw[if_pos ⟨ho1,ho2⟩]at c2
  have a1:zsx e.op=opAr e.op:=by unfold zsx opAr;repeat' split<;>omega
  have a2:zsw e.op=opRs e.op:=by unfold zsw opRs;repeat' split<;>omega
  unfold opV at c2
  rw[a1,a2]at c2
  have et:zaT l.l e.kind e.op e.name [t,u]=if t≠u∨(opAr e.op≠0∧t≠opAr e.op) then (0,15) else (opRs e.op,0):=by simp[zaT,hk]
  simp only[]
  rw[et]
  generalize opAr e.op=A at *
  generalize opRs e.op=R at *
  obtain⟨fn,hfn⟩:∃v,opFn e.op=v:=⟨_,rfl⟩
  rw[hfn]at c2
  have hfk:=zfi e.op
  rw[hfn]at hfk
  by_cases q1:t=u
  .by_cases q2:A=0
   .rcases hfk with⟨f,b',rfl⟩|rfl<;>simp[zdc,c216,ha,d1,d2,hk,c1,c2,q1,q2]
   .by_cases q3:u=A
    .rcases hfk with⟨f,b',rfl⟩|rfl<;>simp[zdc,c216,ha,d1,d2,hk,c1,c2,q1,q2,q3]
    .rcases hfk with⟨f,b',rfl⟩|rfl<;>simp[zdc,c216,ha,d1,d2,hk,c1,c2,q1,q2,q3]
  .rcases hfk with⟨f,b',rfl⟩|rfl<;>simp[zdc,c216,ha,d1,d2,hk,c1,c2,q1]
theorem zrE (L:AV) (hL:okO L=some L) (x:Sl Ex) (hx:x.l=[]) (B:Blk):
  okC (W.loop [1,2,6,16,17,18] zh5 [(1,L),(2,.optr 0 0 0 0),(6,.isl (some true) 0 []),(16,Sl.av Ex.av 5 x),(17,I 0),(18,I 0)] [B])
   (fun q F' H'=>q= .exit 0∧F'.keep [1,2,6]=[(1,L),(2,.optr 0 0 0 0),(6,.isl (some true) 0 [])]∧H'=[B]):=by
 rw[zb]
 simp[zbg,zcF,hL]
theorem zux (L:AV) (hL:okO L=some L) (x:Sl Ex) (a:Ex) (hx:x.l=[a]) (B:Blk) (t f:Int) (h:W.pure 229 [a.av,L]=some (.tuple [I t,I f])):
  okC (W.loop [1,2,6,16,17,18] zh5 [(1,L),(2,.optr 0 0 0 0),(6,.isl (some true) 0 []),(16,Sl.av Ex.av 5 x),(17,I 1),(18,I 0)] [B])
   (fun q F' H'=>if f=0 then q= .exit 0∧F'.keep [1,2,6]=[(1,L),(2,.optr 0 0 0 0),(6,.osl 2 0 0 1)]∧H'=[B,.arr 0 5 false [a.av],.arr 0 1 false [I t]] else q= .ret∧F'.get 4=I 0∧F'.get 5=I f):=by
 have w:IntKind.wrap .i64 1=1:=zz (by omega) (by omega)
 by_cases hf:f=0
 .subst hf
  rw[zb]
  simp[zbg,zcF,hL,hx,h,zaP,w]
  rw[zb]
  simp[zbg,zcF,hL,hx]
 .rw[zb]
  simp[zbg,zcF,hL,hx,h,hf]
theorem zuw (L:AV) (hL:okO L=some L) (x:Sl Ex) (a b:Ex) (hx:x.l=[a,b]) (B:Blk) (t f u g:Int) (h:W.pure 229 [a.av,L]=some (.tuple [I t,I f])) (h':W.pure 229 [b.av,L]=some (.tuple [I u,I g])):
  okC (W.loop [1,2,6,16,17,18] zh5 [(1,L),(2,.optr 0 0 0 0),(6,.isl (some true) 0 []),(16,Sl.av Ex.av 5 x),(17,I 2),(18,I 0)] [B])
   (fun q F' H'=>if f=0 then (if g=0 then q= .exit 0∧F'.keep [1,2,6]=[(1,L),(2,.optr 0 0 0 0),(6,.osl 2 1 0 2)]∧H'=[B,.arr 0 5 false [a.av],.arr 1 1 false [I t,I u],.arr 0 5 false [b.av]] else q= .ret∧F'.get 4=I 0∧F'.get 5=I g) else q= .ret∧F'.get 4=I 0∧F'.get 5=I f):=by
 have w:IntKind.wrap .i64 1=1:=zz (by omega) (by omega)
 have w2:IntKind.wrap .i64 2=2:=zz (by omega) (by omega)
 by_cases hf:f=0
 .subst hf
  rw[zb]
  simp[zbg,zcF,hL,hx,h,zaP,w]
  rw[zb]
  by_cases hg:g=0
  .subst hg
   have k2:=fun H hh=>zak (H:=H) (id:=2) (ver:=0) (l:=[t]) hh (by simp) u
   simp at k2
   simp[zbg,zcF,hL,hx,h',k2,w2]
   rw[zb]
   simp[zbg,zcF,hL,hx]
  .simp[zbg,zcF,hL,hx,h',hg]
 .rw[zb]
  simp[zbg,zcF,hL,hx,h,hf]
theorem zuY {o a b:Int} (ha:isIt a=true) (hb:isIt b=true): -4611686018427387904≤(opE o a b).1∧(opE o a b).1≤4611686018427387904:=by
 have ha':=(zO a).1 ha
 have hb':=(zO b).1 hb
 have hb1:∀c:Bool,0≤b01 c∧b01 c≤1:=fun c=>by cases c<;>simp[b01]
 unfold opE
 by_cases h:o=3
 .rw[if_pos h]
  simp only;omega
 rw[if_neg h];clear h
 by_cases h:o=4
 .rw[if_pos h]
  simp only;omega
 rw[if_neg h];clear h
 by_cases h:o=5
 .rw[if_pos h]
  split
  .simp
  .have:(a* b).natAbs≤1099511627776:=by rw[Int.natAbs_mul];omega
   simp only;omega
 rw[if_neg h];clear h
 by_cases h:o=6
 .rw[if_pos h]
  split
  .simp
  .have:(a.tdiv b).natAbs≤a.natAbs:=by rw[Int.natAbs_tdiv];exact Nat.div_le_self _ _
   simp only;omega
 rw[if_neg h];clear h
 by_cases h:o=7
 .rw[if_pos h]
  split
  .simp
  .have:(a.tmod b).natAbs≤a.natAbs:=by rw[Int.natAbs_tmod];exact Nat.mod_le _ _
   simp only;omega
 rw[if_neg h];clear h
 by_cases h:o=8
 .rw[if_pos h]
  have:=hb1 (decide (a=b));simp only;omega
 rw[if_neg h];clear h
 by_cases h:o=9
 .rw[if_pos h]
  have:=hb1 (!decide (a=b));simp only;omega
 rw[if_neg h];clear h
 by_cases h:o=10
 .rw[if_pos h]
  have:=hb1 (decide (a<b));simp only;omega
 rw[if_neg h];clear h
 by_cases h:o=11
 .rw[if_pos h]
  have:=hb1 (decide (a≤b));simp only;omega
 rw[if_neg h];clear h
 by_cases h:o=12
 .rw[if_pos h]
  have:=hb1 (decide (b<a));simp only;omega
 rw[if_neg h];clear h
 by_cases h:o=13
 .rw[if_pos h]
  have:=hb1 (decide (b≤a));simp only;omega
 rw[if_neg h];clear h
 by_cases h:o=14
 .rw[if_pos h]
  have:=hb1 (!decide (a=0)&& !decide (b=0));simp only;omega
 rw[if_neg h];clear h
 have:=hb1 (!decide (a=0)|| !decide (b=0));simp only;omega
theorem zmn {l:List Bnd} {e:Ex} (h:(vaE l e).2=0):isIt (vaE l e).1=true:=by
 rw[zdg]at *
 split at h
 .simp only at h;subst h;rfl
 .unfold zbB at *
  exact zrX h
theorem zkB (n:Int):isIt n= !decide (1099511627776<n.natAbs):=by
 cases h:isIt n with
 |true=>have:=(zO n).1 h;simp;omega
 |false=>
  have:¬(-1099511627776≤n∧n≤1099511627776):=fun hh=>by rw[(zO n).2 hh]at h;cases h
  simp;omega
theorem e229 (l:Sl Bnd) (hl:l.l.length≤9223372036854775807) (hv:∀b∈l.l,isIt b.value=true):∀e:Ex,ExV e→W.pure 229 [e.av,bL l]=some (.tuple [I (vaE l.l e).1,I (vaE l.l e).2]):=by
 refine Ex.ind (fun e ih=>?_)
 intro he
 rw[ze Φ229 (by simp),zdg]
 have hL:okO (bL l)=some (bL l):=by simp
 have hval:0≤e.value∧e.value≤1099511627776:=by
  have:=he.head
  unfold zS at this
  split at this
  .cases this
  split at this
  .cases this
  split at this
  .cases this
  .omega
 have fin:∀n:Int, -4611686018427387904≤n→n≤4611686018427387904→W.pure 239 [I n]=some (I n.natAbs):=e239
 rcases zdy he.head with⟨hk,ha⟩|⟨hk,ha⟩|⟨hk,ho,a,ha⟩|⟨hk,ho1,ho2,a,b,ha⟩
 .obtain⟨q,F',H',d1,rfl,d2,rfl⟩:=zc.1 (zrE (bL l) hL e.args ha (.arr 0 5 false [e.av]))
  have c3:=fin e.value (by omega) (by omega)
  have hn:isIt e.value=true:=(zO _).2 (by omega)
  have hn2:¬(1099511627776:Int)<(e.value.natAbs:Int):=by omega
  have et:zbB l.l e.kind e.op e.name e.value []=(e.value,0):=by simp[zbB,hk,fitV,hn]
  have ets:vaEs l.l e.args.l= .inr []:=by rw[ha];rfl
  rw[ets];simp only[];rw[et]
  generalize e.value.natAbs=N at *
  simp[zdw,c229,ha,d1,d2,hk,c3,hn2]
 .obtain⟨q,F',H',d1,rfl,d2,rfl⟩:=zc.1 (zrE (bL l) hL e.args ha (.arr 0 5 false [e.av]))
  have c1:=e235 l hl e.name
  have ets:vaEs l.l e.args.l= .inr []:=by rw[ha];rfl
  rw[ets];simp only[]
  have hb:isIt ((zaD l.l e.name).getD bZ).value=true:=by
   cases hf:zaD l.l e.name with
   |none=>rfl
   |some b=>exact hv b (List.mem_of_find?_eq_some hf)
  have et:zbB l.l e.kind e.op e.name e.value []=(((zaD l.l e.name).getD bZ).value,0):=by
   have:zbB l.l e.kind e.op e.name e.value []=fitV (((zaD l.l e.name).getD bZ).value,0):=by
    simp only[zbB,hk]
    cases zaD l.l e.name<;>rfl
   rw[this];simp[fitV,hb]
  rw[et]
  generalize ((zaD l.l e.name).getD bZ)=bb at *
  have hbb:=(zO _).1 hb
  have c3:=fin bb.value (by omega) (by omega)
  have hn2:¬(1099511627776:Int)<(bb.value.natAbs:Int):=by omega
  generalize bb.value.natAbs=N at *
  simp[zdw,c229,ha,d1,d2,hk,c1,c3,hn2]
 .have h1:=ih a (by rw[ha];simp) (he.arg (by rw[ha];simp))
  obtain⟨q,F',H',d1,d2⟩:=zc.1 (zux (bL l) hL e.args a ha (.arr 0 5 false [e.av]) _ _ h1)
  by_cases hf:(vaE l.l a).2=0
  .rw[if_pos hf]at d2
   obtain⟨rfl,d2,rfl⟩:=d2
   have hit:=(zO _).1 (zmn hf)
   have ets:vaEs l.l e.args.l= .inr [(vaE l.l a).1]:=by rw[ha];simp[vaEs,hf]
   rw[ets];simp only[]
   generalize (vaE l.l a).1=t at *
   have w1:IntKind.wrap .i64 (0 - t)=0 - t:=zz (by omega) (by omega)
   have w1':IntKind.wrap .i64 (-t)= -t:=zz (by omega) (by omega)
   have w2:IntKind.wrap .i64 (1 - t)=1 - t:=zz (by omega) (by omega)
   rcases ho with ho|ho
   .have c3:=fin (-t) (by omega) (by omega)
    have hn:isIt (-t)=true:=(zO _).2 (by omega)
    have hn2:¬1099511627776<(-t).natAbs:=by omega
    have et:zbB l.l e.kind e.op e.name e.value [t]=(-t,0):=by simp[zbB,hk,ho,fitV,hn]
    rw[et]
    generalize hnn:(-t).natAbs=N at *
    have hn3:¬(1099511627776:Int)<N:=by omega
    simp[zdw,c229,ha,d1,d2,hk,ho,w1,w1',c3,hn3]
    try omega
   .have c3:=fin (1 - t) (by omega) (by omega)
    have ie:=zkB (1 - t)
    by_cases hn:isIt (1 - t)=true
    .have hn2:¬1099511627776<(1 - t).natAbs:=by rw[ie]at hn;simpa using hn
     have et:zbB l.l e.kind e.op e.name e.value [t]=(1 - t,0):=by simp[zbB,hk,ho,fitV,hn]
     rw[et]
     generalize hnn:(1 - t).natAbs=N at *
     have hn3:¬(1099511627776:Int)<N:=by omega
     simp[zdw,c229,ha,d1,d2,hk,ho,w1,w1',w2,c3,hn3]
     try omega
    .have hn2:1099511627776<(1 - t).natAbs:=by rw[ie]at hn;simpa using hn
     have et:zbB l.l e.kind e.op e.name e.value [t]=(0,14):=by simp[zbB,hk,ho,fitV,hn]
     rw[et]
     generalize hnn:(1 - t).natAbs=N at *
     have hn3:(1099511627776:Int)<N:=by omega
     simp[zdw,c229,ha,d1,d2,hk,ho,w1,w1',w2,c3,hn3]
     try omega
  .rw[if_neg hf]at d2
   obtain⟨rfl,d2,d3⟩:=d2
   have ets:vaEs l.l e.args.l= .inl (vaE l.l a).2:=by rw[ha];simp[vaEs,hf]
   rw[ets]
   simp[zdw,c229,ha,d1,d2,d3]
 .have h1:=ih a (by rw[ha];simp) (he.arg (by rw[ha];simp))
  have h2:=ih b (by rw[ha];simp) (he.arg (by rw[ha];simp))
  obtain⟨q,F',H',d1,d2⟩:=zc.1 (zuw (bL l) hL e.args a b ha (.arr 0 5 false [e.av]) _ _ _ _ h1 h2)
  by_cases hf:(vaE l.l a).2=0
  rotate_left
  .rw[if_neg hf]at d2
   obtain⟨rfl,d2,d3⟩:=d2
   have ets:vaEs l.l e.args.l= .inl (vaE l.l a).2:=by rw[ha];simp[vaEs,hf]
   rw[ets]
   simp[zdw,c229,ha,d1,d2,d3]
  rw[if_pos hf]at d2
  by_cases hg:(vaE l.l b).2=0
  rotate_left
  .rw[if_neg hg]at d2
   obtain⟨rfl,d2,d3⟩:=d2
   have ets:vaEs l.l e.args.l= .inl (vaE l.l b).2:=by rw[ha];simp[vaEs,hf,hg]
   rw[ets]
   simp[zdw,c229,ha,d1,d2,d3]
  rw[if_pos hg]at d2
  obtain⟨rfl,d2,rfl⟩:=d2
  have ets:vaEs l.l e.args.l= .inr [(vaE l.l a).1,(vaE l.l b).1]:=by rw[ha];simp[vaEs,hf,hg]
  rw[ets];simp only[]
  have i1:=zmn hf
  have i2:=zmn hg
  generalize (vaE l.l a).1=t at *
  generalize (vaE l.l b).1=u at *
  have c1:=e211
  have c2:=zgG e.op
  rw[if_pos ⟨ho1,ho2⟩]at c2
  have c4:=zq4 e.op t u ⟨ho1,ho2⟩ i1 i2
  have bd:=zuY (o:=e.op) i1 i2
  have c3:=fin _ bd.1 bd.2
  have ie:=zkB (opE e.op t u).1
  have et:zbB l.l e.kind e.op e.name e.value [t,u]=fitV (opE e.op t u):=by simp[zbB,hk]
  rw[et]
  unfold opV at c2
  obtain⟨fn,hfn⟩:∃v,opFn e.op=v:=⟨_,rfl⟩
  have hfk:=zfi e.op
  rw[hfn]at c2 c4 hfk
  unfold fitV
  generalize (opE e.op t u).1=V at *
  generalize (opE e.op t u).2=E at *
  generalize hnn:V.natAbs=N at *
  rcases hfk with⟨f,b',rfl⟩|rfl
  .by_cases hE:E=0
   .cases hn:isIt V with
    |true=>
     have hn3:¬(1099511627776:Int)<N:=by rw[ie]at hn;simp at hn;omega
     simp[zdw,c229,ha,d1,d2,hk,c1,c2,c4,hE,c3,hn3]
     try omega
    |false=>
     have hn3:(1099511627776:Int)<N:=by rw[ie]at hn;simp at hn;omega
     simp[zdw,c229,ha,d1,d2,hk,c1,c2,c4,hE,c3,hn3]
     try omega
   .simp[zdw,c229,ha,d1,d2,hk,c1,c2,c4,hE]
  .exfalso
   have cases13:e.op=3∨e.op=4∨e.op=5∨e.op=6∨e.op=7∨e.op=8∨e.op=9∨e.op=10∨e.op=11∨e.op=12∨e.op=13∨e.op=14∨e.op=15:=by omega
   clear c1 c2 c3 c4 d1 d2 h1 h2
   generalize e.op=o at *
   rcases cases13 with rfl|rfl|rfl|rfl|rfl|rfl|rfl|rfl|rfl|rfl|rfl|rfl|rfl<;>simp[opFn]at hfn
abbrev b1L (a:Int):Sl Bnd:=ofL 3 [⟨xN,1,a⟩]
abbrev b2L (a b:Int):Sl Bnd:=ofL 3 [⟨xN,1,a⟩,⟨yN,1,b⟩]
theorem zkT (a b:Int):W.pure 168 [.isl (some false) 1 [.str [120]],.isl (some false) 1 [I a,I b]]=some (bL (b1L a)):=(zfm 60).pure _ _ _ (by kernel_rfl)
theorem zr3 (a b:Int):W.pure 168 [.isl (some false) 1 [.str [120],.str [121]],.isl (some false) 1 [I a,I b]]=some (bL (b2L a b)):=(zfm 60).pure _ _ _ (by kernel_rfl)
theorem e151 (a b:Int):W.pure 151 [I a,I b]=some (bL (b2L a b)):=(zfm 60).pure _ _ _ (by kernel_rfl)
theorem nmX:isNm xN=true:=by kernel_rfl
theorem nmY:isNm yN=true:=by kernel_rfl
theorem ltXY:zF .geq xN yN= .bool false:=by kernel_rfl
theorem zkS (a:Int) (ha:isIt a=true):W.pure 215 [bL (b1L a)]=some (.bool true):=by
 have ha':=(zO a).1 ha
 have c1:=e212 xN
 rw[nmX]at c1
 have h1:¬a< -1099511627776:=by omega
 have h2:¬1099511627776<a:=by omega
 have w:IntKind.wrap .i64 1=1:=zz (by omega) (by omega)
 obtain⟨q,F,H,d1,rfl,d2⟩:=zc.1 (show okC (W.loop [0,7,8,9] zkv [(0,bL (b1L a)),(7,bL (b1L a)),(8,I 1),(9,I 0)] []) (fun q F H=>q= .exit 0∧F.keep [0]=[(0,bL (b1L a))]) by
  rw[zb]
  simp[zdB,zfF,c1,h1,h2,w]
  rw[zb]
  simp[zdB,zfF])
 rw[ze Φ215 rfl]
 simp[znC,c215,d1,d2]
theorem zr2 (a b:Int) (ha:isIt a=true) (hb:isIt b=true):W.pure 215 [bL (b2L a b)]=some (.bool true):=by
 have ha':=(zO a).1 ha
 have hb':=(zO b).1 hb
 have c1:=e212 xN
 rw[nmX]at c1
 have c2:=e212 yN
 rw[nmY]at c2
 have h1:¬a< -1099511627776:=by omega
 have h2:¬1099511627776<a:=by omega
 have h3:¬b< -1099511627776:=by omega
 have h4:¬1099511627776<b:=by omega
 have w:IntKind.wrap .i64 1=1:=zz (by omega) (by omega)
 have w2:IntKind.wrap .i64 2=2:=zz (by omega) (by omega)
 have w0:IntKind.wrap .i64 0=0:=zz (by omega) (by omega)
 have l1:=ltXY
 obtain⟨q,F,H,d1,rfl,d2⟩:=zc.1 (show okC (W.loop [0,7,8,9] zkv [(0,bL (b2L a b)),(7,bL (b2L a b)),(8,I 2),(9,I 0)] []) (fun q F H=>q= .exit 0∧F.keep [0]=[(0,bL (b2L a b))]) by
  rw[zb]
  simp[zdB,zfF,c1,h1,h2,w]
  rw[zb]
  simp[zdB,zfF,c2,h3,h4,w2,w0,l1]
  rw[zb]
  simp[zdB,zfF])
 rw[ze Φ215 rfl]
 simp[znC,c215,d1,d2]
def tyR (l:List Bnd) (e:Ex):Int×Int:=if zB e≠0 then (0,zB e) else tyE l e
theorem e167 (l:Sl Bnd) (hl:l.l.length≤9223372036854775807) (hb:W.pure 215 [bL l]=some (.bool true)) (e:Ex):W.pure 167 [e.av,bL l]=some (.tuple [I (tyR l.l e).1,I (tyR l.l e).2]):=by
 rw[ze Φ167 (by simp)]
 have c1:=e153 e
 unfold tyR
 by_cases h:zB e=0
 .rw[h]at c1
  have c2:=zyJ l hl e (.of h)
  simp[znN,c167,c1,hb,c2,h]
 .simp[znN,c167,c1,h]
def evR (l:List Bnd) (e:Ex):Int×Int:=if (tyR l e).2≠0 then (0,(tyR l e).2) else vaE l e
theorem e208 (l:Sl Bnd) (hl:l.l.length≤9223372036854775807) (hb:W.pure 215 [bL l]=some (.bool true)) (hv:∀b∈l.l,isIt b.value=true) (e:Ex):W.pure 208 [e.av,bL l]=some (.tuple [I (evR l.l e).1,I (evR l.l e).2]):=by
 rw[ze Φ208 (by simp)]
 have c1:=e167 l hl hb e
 unfold evR
 by_cases h:(tyR l.l e).2=0
 .rw[h]at c1
  have h0:zB e=0:=by
   apply cBc
   intro hn
   unfold tyR at h
   rw[if_pos hn]at h
   exact hn h
  have c2:=e229 l hl hv e (.of h0)
  simp[znF,c208,c1,c2,h]
 .simp[znF,c208,c1,h]
theorem zcy {α:Type} (p:α→Bool):∀(l:List α) (k:Nat),zev (fun _ a (_:Unit)=>if p a=true then .inl () else (.inr ():Unit⊕Unit)) k l ()=if l.all p=true then .inl () else .inr ()
 | [],k=>rfl
 |a::r,k=>by
  simp only[zev,List.all_cons]
  by_cases h:p a=true
  .simpa[h]using zcy p r (k+1)
  .simp[h]
theorem e94 (n:Int):W.pure 94 [I n]=some (.bool (isIt n)):=by
 rw[ze Φ94 rfl]
 unfold isIt
 by_cases h1: -1099511627776≤n<;>simp[fi94,c94,h1]
theorem zu8 (c:Cr) (hc:SlN c.items):okC (W.loop [1,3] zp2 [(1,.optr 0 0 0 0),(3,I 0)] [.arr 0 6 false [c.av]])
  (fun x F G=>if c.items.l.all isIt=true then x= .exit 0 else x= .ret∧F.get 2=I 1):=by
 have hL:=zbZ (Φ:=Φ) (live:=[1,3]) (L:=zp2) c.items.l (fun _ a (_:Unit)=>if isIt a=true then .inl () else (.inr ():Unit⊕Unit))
  (fun k _ F G=>F=[(1,.optr 0 0 0 0),(3,I k)]∧G=[.arr 0 6 false [c.av]]) (fun _ x F G=>x= .ret∧F.get 2=I 1) (fun _ x F G=>x= .exit 0) (s:=())
  (F:=[(1,.optr 0 0 0 0),(3,I 0)]) (H:=[.arr 0 6 false [c.av]]) ⟨rfl,rfl⟩ ?_ ?_
 .rw[zcy]at hL
  cases h:c.items.l.all isIt with
  |true=>rw[h]at hL;simp only[if_true]at hL⊢;exact hL
  |false=>rw[h]at hL;simp only[bFt,if_false]at hL⊢;exact hL
 .rintro k a ⟨⟩ F G hk ha ⟨rfl,rfl⟩
  have hka:c.items.l[k]=a:=(gEs.1 ha).2
  have hk':(k:Int)<c.items.l.length:=by omega
  have hw:=zh (k:=k) (by have:=hc.2;omega)
  have c1:=e94 a
  cases hp:isIt a with
  |true=>rw[hp]at c1;simp[zjB,zox,hk,hk',hka,c1,hw]
  |false=>rw[hp]at c1;simp[zjB,zox,hk,hk',hka,c1,hw]
 .rintro⟨⟩ F G ⟨rfl,rfl⟩
  simp[zjB,zox]
theorem e56 (c:Cr) (hc:SlN c.items):W.pure 56 [c.av]=some (I (crI c.pl)):=by
 rw[ze Φ56 (by simp),Cr.pl_mk]
 by_cases h0:c.cap<1
 .have hr:crI ⟨c.cap,c.granted,c.sent,c.taken,c.items.l,c.closed⟩=2:=by unfold crI;rw[if_pos (.inl h0)]
  rw[hr];simp[fi56,c56,h0]
 by_cases h0':100<c.cap
 .have hr:crI ⟨c.cap,c.granted,c.sent,c.taken,c.items.l,c.closed⟩=2:=by unfold crI;rw[if_pos (.inr h0')]
  rw[hr];simp[fi56,c56,h0,h0']
 by_cases h1:c.taken<0
 .have hr:crI ⟨c.cap,c.granted,c.sent,c.taken,c.items.l,c.closed⟩=1:=by unfold crI;rw[if_neg (by simp only;omega),if_pos (by simp only;omega)]
  rw[hr];simp[fi56,c56,h0,h0',h1]
 by_cases h2:c.sent<c.taken
 .have hr:crI ⟨c.cap,c.granted,c.sent,c.taken,c.items.l,c.closed⟩=1:=by unfold crI;rw[if_neg (by simp only;omega),if_pos (by simp only;omega)]
  rw[hr];simp[fi56,c56,h0,h0',h1,h2]
 by_cases h3:c.granted<c.sent
 .have hr:crI ⟨c.cap,c.granted,c.sent,c.taken,c.items.l,c.closed⟩=1:=by unfold crI;rw[if_neg (by simp only;omega),if_pos (by simp only;omega)]
  rw[hr];simp[fi56,c56,h0,h0',h1,h2,h3]
 by_cases h4:1099511627776<c.granted
 .have hr:crI ⟨c.cap,c.granted,c.sent,c.taken,c.items.l,c.closed⟩=1:=by unfold crI;rw[if_neg (by simp only;omega),if_pos (by simp only;omega)]
  rw[hr];simp[fi56,c56,h0,h0',h1,h2,h3,h4]
 have w1:IntKind.wrap .i64 (c.taken+c.cap)=c.taken+c.cap:=zz (by omega) (by omega)
 have w2:IntKind.wrap .i64 (c.sent - c.taken)=c.sent - c.taken:=zz (by omega) (by omega)
 by_cases h5:c.taken+c.cap<c.granted
 .have hr:crI ⟨c.cap,c.granted,c.sent,c.taken,c.items.l,c.closed⟩=1:=by unfold crI;rw[if_neg (by simp only;omega),if_pos (by simp only;omega)]
  rw[hr];simp[fi56,c56,h0,h0',h1,h2,h3,h4,w1,h5]
 by_cases h6:(c.items.l.length:Int)=c.sent - c.taken
 rotate_left
 .have hr:crI ⟨c.cap,c.granted,c.sent,c.taken,c.items.l,c.closed⟩=1:=by unfold crI;rw[if_neg (by simp only;omega),if_pos (by simp only;omega)]
  rw[hr];simp[fi56,c56,h0,h0',h1,h2,h3,h4,w1,w2,h5,h6]
 obtain⟨x,F,G,d1,d2⟩:=zc.1 (zu8 c hc)
 have hr:crI ⟨c.cap,c.granted,c.sent,c.taken,c.items.l,c.closed⟩=if c.items.l.all isIt=true then 0 else 1:=by
  unfold crI;rw[if_neg (by simp only;omega),if_neg (by simp only;omega)]
 rw[hr]
 cases ha:c.items.l.all isIt with
 |true=>
  rw[ha]at d2
  simp only[if_true]at d2
  subst d2
  simp[fi56,c56,h0,h0',h1,h2,h3,h4,w1,w2,h5,h6,d1]
 |false=>
  rw[ha]at d2
  simp only[bFt,if_false]at d2
  obtain⟨rfl,d3⟩:=d2
  simp[fi56,c56,h0,h0',h1,h2,h3,h4,w1,w2,h5,h6,d1,d3]
theorem e58 (c:Cr) (hc:SlN c.items):W.pure 58 [c.av]=some (.bool (endC c.pl)):=by
 rw[ze Φ58 (by simp)]
 have c1:=e56 c hc
 by_cases h:crI c.pl=0
 .rw[h]at c1
  have e1:endC c.pl=(c.closed&&c.items.l.isEmpty):=by unfold endC;rw[h];simp[Cr.pl]
  rw[e1]
  cases h2:c.closed<;>cases h3:c.items.l<;>simp[fi58,c58,c1,h2,h3]
  omega
 .simp[fi58,c58,c1,endC,h]
theorem zsz (l:Sl Bnd) (hl:l.l.length≤1000000) (n:List UInt8):okC (W.loop [0,1,4,6] zku [(0,bL l),(1,.str n),(4,.optr 0 0 0 0),(6,I 0)] [.arr 0 3 false [bZ.av]])
  (fun q F H=>match zaD l.l n with|some b=>q= .ret∧F.get 4= .optr 0 0 0 0∧F.get 5= .bool true∧H=[.arr 0 3 false [b.av]]|none=>q= .exit 0∧F.get 4= .optr 0 0 0 0∧H=[.arr 0 3 false [bZ.av]]):=by
 have key:∀(r:List Bnd) (k:Nat),l.l.drop k=r→k≤l.l.length→okC (W.loop [0,1,4,6] zku [(0,bL l),(1,.str n),(4,.optr 0 0 0 0),(6,I k)] [.arr 0 3 false [bZ.av]])
  (fun q F H=>match zaD r n with|some b=>q= .ret∧F.get 4= .optr 0 0 0 0∧F.get 5= .bool true∧H=[.arr 0 3 false [b.av]]|none=>q= .exit 0∧F.get 4= .optr 0 0 0 0∧H=[.arr 0 3 false [bZ.av]]):=by
  intro r
  induction r with
  |nil=>
   intro k h1 h2
   have hk:=zf h1 h2
   rw[zb]
   simp[zg2,ziK,hk,zaD]
  |cons a r ihr=>
   intro k h1 h2
   obtain⟨hlt,ha,hr⟩:=zn h1
   have hlt':(k:Int)<l.l.length:=by omega
   have hak:l.l[k]=a:=(gEs.1 ha).2
   have hw:=zh (k:=k) (by omega)
   rw[zb]
   by_cases hn:a.name=n
   .have hf:zaD (a::r) n=some a:=by simp[zaD,hn]
    rw[hf]
    simp[zg2,ziK,hlt,hak,hn,zF]
   .have hf:zaD (a::r) n=zaD r n:=by simp[zaD,hn]
    rw[hf]
    have hJ:=ihr (k+1) hr (by omega)
    simp only[iNa,iCo]at hJ
    simp[zg2,ziK,hlt,hak,hn,zF,hw]
    exact hJ
 have:=key l.l 0 rfl (by omega)
 exact this
theorem e221 (l:Sl Bnd) (hl:l.l.length≤1000000) (n:List UInt8):W.pure 221 [bL l,.str n]=some (.tuple [((zaD l.l n).getD bZ).av,.bool (zaD l.l n).isSome]):=by
 rw[ze Φ221 rfl]
 obtain⟨q,F,H,d1,d2⟩:=zc.1 (zsz l hl n)
 cases hf:zaD l.l n with
 |none=>
  rw[hf]at d2
  obtain⟨rfl,d2,rfl⟩:=d2
  simp[znB,c221,zq7,d1,d2]
 |some b=>
  rw[hf]at d2
  obtain⟨rfl,d2,d3,rfl⟩:=d2
  simp[znB,c221,zq7,d1,d2,d3]
theorem zrG (L:AV) (hL:okO L=some L) (e:Ex) (hx:e.args.l=[]):
  okC (W.loop [1,2,6,7] zh7 [(1,L),(2,.optr 0 0 0 0),(6,.osl 1 0 0 0),(7,I 0)] [.arr 0 5 false [e.av],.arr 0 1 false []])
   (fun q F' H'=>q= .exit 0∧F'.keep [1,2,6]=[(1,L),(2,.optr 0 0 0 0),(6,.osl 1 0 0 0)]∧H'=[.arr 0 5 false [e.av],.arr 0 1 false []]):=by
 rw[zb]
 simp[zbi,zcH,hL,hx]
theorem zuB (L:AV) (hL:okO L=some L) (e a:Ex) (hx:e.args.l=[a]) (t f:Int) (h:W.pure 179 [a.av,L]=some (.tuple [I t,I f])):
  okC (W.loop [1,2,6,7] zh7 [(1,L),(2,.optr 0 0 0 0),(6,.osl 1 0 0 0),(7,I 0)] [.arr 0 5 false [e.av],.arr 0 1 false []])
   (fun q F' H'=>if f=0 then q= .exit 0∧F'.keep [1,2,6]=[(1,L),(2,.optr 0 0 0 0),(6,.osl 1 1 0 1)]∧H'=[.arr 0 5 false [e.av],.arr 1 1 false [I t]] else q= .ret∧F'.get 4=I 0∧F'.get 5=I f):=by
 have w:IntKind.wrap .i64 1=1:=zz (by omega) (by omega)
 by_cases hf:f=0
 .subst hf
  have k2:=fun H hh=>zak (H:=H) (id:=1) (ver:=0) (l:=[]) hh (by simp) t
  simp at k2
  rw[zb]
  simp[zbi,zcH,hL,hx,h,k2,w]
  rw[zb]
  simp[zbi,zcH,hL,hx]
 .rw[zb]
  simp[zbi,zcH,hL,hx,h,hf]
theorem zuA (L:AV) (hL:okO L=some L) (e a b:Ex) (hx:e.args.l=[a,b]) (t f u g:Int) (h:W.pure 179 [a.av,L]=some (.tuple [I t,I f])) (h':W.pure 179 [b.av,L]=some (.tuple [I u,I g])):
  okC (W.loop [1,2,6,7] zh7 [(1,L),(2,.optr 0 0 0 0),(6,.osl 1 0 0 0),(7,I 0)] [.arr 0 5 false [e.av],.arr 0 1 false []])
   (fun q F' H'=>if f=0 then (if g=0 then q= .exit 0∧F'.keep [1,2,6]=[(1,L),(2,.optr 0 0 0 0),(6,.osl 1 2 0 2)]∧H'=[.arr 0 5 false [e.av],.arr 2 1 false [I t,I u]] else q= .ret∧F'.get 4=I 0∧F'.get 5=I g) else q= .ret∧F'.get 4=I 0∧F'.get 5=I f):=by
 have w:IntKind.wrap .i64 1=1:=zz (by omega) (by omega)
 have w2:IntKind.wrap .i64 2=2:=zz (by omega) (by omega)
 by_cases hf:f=0
 .subst hf
  have k2:=fun H hh=>zak (H:=H) (id:=1) (ver:=0) (l:=[]) hh (by simp) t
  simp at k2
  rw[zb]
  simp[zbi,zcH,hL,hx,h,k2,w]
  rw[zb]
  by_cases hg:g=0
  .subst hg
   have k3:=fun H hh=>zak (H:=H) (id:=1) (ver:=1) (l:=[t]) hh (by simp) u
   simp at k3
   simp[zbi,zcH,hL,hx,h',k3,w2]
   rw[zb]
   simp[zbi,zcH,hL,hx]
  .simp[zbi,zcH,hL,hx,h',hg]
 .rw[zb]
  simp[zbi,zcH,hL,hx,h,hf]
theorem zmp (w:Int) (ts:List Int) (H:Heap) (id ver:Nat) (h:H[id]?=some (.arr ver 1 false (ts.map I))) (hl:ts.length≤2) (bo:Bool) (z:AV) (hz:okO z=some z):
  okC (W.loop [2,6,12,13,14] zm9 [(2,z),(6,.osl id ver 0 ts.length),(12,.bool bo),(13,I w),(14,I 0)] H)
   (fun q F' H'=>if ts.all (fun t=>decide (t=w))=true then q= .exit 2∧F'.keep [2,12]=[(2,z),(12,.bool bo)]∧H'=H else q= .ret∧F'.get 4=I 0∧F'.get 5=I 15):=by
 have w1:IntKind.wrap .i64 1=1:=zz (by omega) (by omega)
 have w2:IntKind.wrap .i64 2=2:=zz (by omega) (by omega)
 match ts,hl with
 | [],_=>
  rw[zb]
  simp[za6,zce,hz]
 | [t],_=>
  simp at h
  rw[zb]
  by_cases h1:t=w
  .simp[za6,zce,hz,h,h1,w1]
   rw[zb]
   simp[za6,zce,hz]
  .simp[za6,zce,hz,h,h1]
 | [t,u],_=>
  simp at h
  rw[zb]
  by_cases h1:t=w
  .by_cases h2:u=w
   .simp[za6,zce,hz,h,h1,h2,w1]
    rw[zb]
    simp[za6,zce,hz,h,h1,h2,w2]
    rw[zb]
    simp[za6,zce,hz]
   .simp[za6,zce,hz,h,h1,h2,w1]
    rw[zb]
    simp[za6,zce,hz,h,h1,h2]
  .simp[za6,zce,hz,h,h1]
theorem e179 (l:Sl Bnd) (hl:l.l.length≤1000000):∀e:Ex,ExV e→W.pure 179 [e.av,bL l]=some (.tuple [I (tyE l.l e).1,I (tyE l.l e).2]):=by
 refine Ex.ind (fun e ih=>?_)
 intro he
 rw[ze Φ179 (by simp),zcj]
 have hL:okO (bL l)=some (bL l):=by simp
 rcases zdy he.head with⟨hk,ha⟩|⟨hk,ha⟩|⟨hk,ho,a,ha⟩|⟨hk,ho1,ho2,a,b,ha⟩
 .obtain⟨q,F',H',d1,rfl,d2,rfl⟩:=zc.1 (zrG (bL l) hL e ha)
  simp[zbD,c179,ha,d1,d2,hk,tyEs,zaT]
 .obtain⟨q,F',H',d1,rfl,d2,rfl⟩:=zc.1 (zrG (bL l) hL e ha)
  have c1:=e221 l hl e.name
  cases hf:zaD l.l e.name with
  |none=>rw[hf]at c1;simp at c1;simp[zbD,c179,ha,d1,d2,hk,tyEs,zaT,c1,hf]
  |some b=>rw[hf]at c1;simp at c1;simp[zbD,c179,ha,d1,d2,hk,tyEs,zaT,c1,hf]
 .have h1:=ih a (by rw[ha];simp) (he.arg (by rw[ha];simp))
  obtain⟨q,F',H',d1,d2⟩:=zc.1 (zuB (bL l) hL e a ha _ _ h1)
  by_cases hf:(tyE l.l a).2=0
  .rw[if_pos hf]at d2
   obtain⟨rfl,d2,rfl⟩:=d2
   have ets:tyEs l.l e.args.l= .inr [(tyE l.l a).1]:=by rw[ha];simp[tyEs,hf]
   rw[ets]
   generalize (tyE l.l a).1=t at *
   rcases ho with ho|ho
   .obtain⟨q2,F2,H2,f1,f2⟩:=zc.1 (zmp 1 [t] [.arr 0 5 false [e.av],.arr 1 1 false [I t]] 1 1 rfl (by simp) false (.optr 0 0 0 0) rfl)
    simp at f1
    by_cases ht:t=1
    .simp[ht]at f2
     obtain⟨rfl,f2,rfl⟩:=f2
     simp[ht]at f1
     simp[zbD,c179,ha,d1,d2,hk,zaT,ho,ht,f1,f2]
    .simp[ht]at f2
     obtain⟨rfl,f2,f3⟩:=f2
     simp[zbD,c179,ha,d1,d2,hk,zaT,ho,ht,f1,f2,f3]
   .obtain⟨q2,F2,H2,f1,f2⟩:=zc.1 (zmp 2 [t] [.arr 0 5 false [e.av],.arr 1 1 false [I t]] 1 1 rfl (by simp) true (.optr 0 0 0 0) rfl)
    simp at f1
    by_cases ht:t=2
    .simp[ht]at f2
     obtain⟨rfl,f2,rfl⟩:=f2
     simp[ht]at f1
     simp[zbD,c179,ha,d1,d2,hk,zaT,ho,ht,f1,f2]
    .simp[ht]at f2
     obtain⟨rfl,f2,f3⟩:=f2
     simp[zbD,c179,ha,d1,d2,hk,zaT,ho,ht,f1,f2,f3]
  .rw[if_neg hf]at d2
   obtain⟨rfl,d2,d3⟩:=d2
   have ets:tyEs l.l e.args.l= .inl (tyE l.l a).2:=by rw[ha];simp[tyEs,hf]
   rw[ets]
   simp[zbD,c179,ha,d1,d2,d3]
 .have h1:=ih a (by rw[ha];simp) (he.arg (by rw[ha];simp))
  have h2:=ih b (by rw[ha];simp) (he.arg (by rw[ha];simp))
  obtain⟨q,F',H',d1,d2⟩:=zc.1 (zuA (bL l) hL e a b ha _ _ _ _ h1 h2)
  by_cases hf:(tyE l.l a).2=0
  rotate_left
  .rw[if_neg hf]at d2
   obtain⟨rfl,d2,d3⟩:=d2
   have ets:tyEs l.l e.args.l= .inl (tyE l.l a).2:=by rw[ha];simp[tyEs,hf]
   rw[ets]
   simp[zbD,c179,ha,d1,d2,d3]
  rw[if_pos hf]at d2
  by_cases hg:(tyE l.l b).2=0
  rotate_left
  .rw[if_neg hg]at d2
   obtain⟨rfl,d2,d3⟩:=d2
   have ets:tyEs l.l e.args.l= .inl (tyE l.l b).2:=by rw[ha];simp[tyEs,hf,hg]
   rw[ets]
   simp[zbD,c179,ha,d1,d2,d3]
  rw[if_pos hg]at d2
  obtain⟨rfl,d2,rfl⟩:=d2
  have ets:tyEs l.l e.args.l= .inr [(tyE l.l a).1,(tyE l.l b).1]:=by rw[ha];simp[tyEs,hf,hg]
  rw[ets]
  generalize (tyE l.l a).1=t at *
  generalize (tyE l.l b).1=u at *
  have et:zaT l.l e.kind e.op e.name [t,u]=if t≠u∨(opAr e.op≠0∧t≠opAr e.op) then (0,15) else (opRs e.op,0):=by simp[zaT,hk]
  simp only[]
  rw[et]
  have hn2:¬e.op=2:=by omega
  by_cases hb:e.op=14∨e.op=15
  .obtain⟨q2,F2,H2,f1,f2⟩:=zc.1 (zmp 2 [t,u] [.arr 0 5 false [e.av],.arr 2 1 false [I t,I u]] 1 2 rfl (by simp) true (.optr 0 0 0 0) rfl)
   simp at f1
   have a1:opAr e.op=2:=by unfold opAr;rw[if_neg (by omega),if_neg (by omega)]
   have a2:opRs e.op=2:=by unfold opRs;rw[if_neg (by omega)]
   have n8:¬e.op=8:=by omega
   have n9:¬e.op=9:=by omega
   rw[a1,a2]
   by_cases ht:t=2
   .by_cases hu:u=2
    .simp[ht,hu]at f2
     obtain⟨rfl,f2,rfl⟩:=f2
     simp[ht,hu]at f1
     rcases hb with hb|hb<;>simp[zbD,c179,ha,d1,d2,hk,hb,ht,hu,f1,f2]
    .simp[ht,hu]at f2
     obtain⟨rfl,f2,f3⟩:=f2
     simp[ht]at f1
     have hu':¬2=u:=fun h=>hu h.symm
     rcases hb with hb|hb<;>simp[zbD,c179,ha,d1,d2,hk,hb,ht,hu,hu',f1,f2,f3]
   .simp[ht]at f2
    obtain⟨rfl,f2,f3⟩:=f2
    rcases hb with hb|hb<;>simp[zbD,c179,ha,d1,d2,hk,hb,ht,f1,f2,f3]
  .have n14:¬e.op=14:=by omega
   have n15:¬e.op=15:=by omega
   by_cases he8:e.op=8∨e.op=9
   .obtain⟨q2,F2,H2,f1,f2⟩:=zc.1 (zmp t [t,u] [.arr 0 5 false [e.av],.arr 2 1 false [I t,I u]] 1 2 rfl (by simp) false (.optr 0 0 0 0) rfl)
    simp at f1
    have a1:opAr e.op=0:=by unfold opAr;rw[if_pos he8]
    have a2:opRs e.op=2:=by unfold opRs;rw[if_neg (by omega)]
    rw[a1,a2]
    by_cases hu:u=t
    .subst hu
     simp at f2
     obtain⟨rfl,f2,rfl⟩:=f2
     rcases he8 with hb|hb<;>simp[zbD,c179,ha,d1,d2,hk,hb,f1,f2]
    .simp[hu]at f2
     obtain⟨rfl,f2,f3⟩:=f2
     have hu':¬t=u:=fun h=>hu h.symm
     rcases he8 with hb|hb<;>simp[zbD,c179,ha,d1,d2,hk,hb,hu,hu',f1,f2,f3]
   .have n8:¬e.op=8:=by omega
    have n9:¬e.op=9:=by omega
    obtain⟨q2,F2,H2,f1,f2⟩:=zc.1 (zmp 1 [t,u] [.arr 0 5 false [e.av],.arr 2 1 false [I t,I u]] 1 2 rfl (by simp) false (.optr 0 0 0 0) rfl)
    simp at f1
    have a1:opAr e.op=1:=by unfold opAr;rw[if_neg (by omega),if_pos (by omega)]
    rw[a1]
    by_cases ht:t=1
    .by_cases hu:u=1
     .simp[ht,hu]at f2
      obtain⟨rfl,f2,rfl⟩:=f2
      simp[ht,hu]at f1
      by_cases h8:8≤e.op
      .have a2:opRs e.op=2:=by unfold opRs;rw[if_neg (by omega)]
       simp[zbD,c179,ha,d1,d2,hk,hn2,n14,n15,n8,n9,ht,hu,f1,f2,h8,a2]
      .have a2:opRs e.op=1:=by unfold opRs;rw[if_pos (by omega)]
       simp[zbD,c179,ha,d1,d2,hk,hn2,n14,n15,n8,n9,ht,hu,f1,f2,h8,a2]
     .simp[ht,hu]at f2
      obtain⟨rfl,f2,f3⟩:=f2
      simp[ht]at f1
      have hu':¬1=u:=fun h=>hu h.symm
      simp[zbD,c179,ha,d1,d2,hk,hn2,n14,n15,n8,n9,ht,hu,hu',f1,f2,f3]
    .simp[ht]at f2
     obtain⟨rfl,f2,f3⟩:=f2
     simp[zbD,c179,ha,d1,d2,hk,hn2,n14,n15,n8,n9,ht,f1,f2,f3]
theorem zvA (a b:Int) (ha:isIt a=true) (hb:isIt b=true):W.pure 178 [bL (b2L a b)]=some (I 0):=by
 have ha':=(zO a).1 ha
 have hb':=(zO b).1 hb
 have c1:=e147 xN
 rw[nmX]at c1
 have c2:=e147 yN
 rw[nmY]at c2
 have h1:¬a< -1099511627776:=by omega
 have h2:¬1099511627776<a:=by omega
 have h3:¬b< -1099511627776:=by omega
 have h4:¬1099511627776<b:=by omega
 have w:IntKind.wrap .i64 1=1:=zz (by omega) (by omega)
 have w2:IntKind.wrap .i64 2=2:=zz (by omega) (by omega)
 have w0:IntKind.wrap .i64 0=0:=zz (by omega) (by omega)
 have l1:=ltXY
 obtain⟨q,F,H,d1,rfl⟩:=zc.1 (show okC (W.loop [0,3] zna [(0,bL (b2L a b)),(3,I 0)] []) (fun q F H=>q= .exit 0) by
  rw[zb]
  simp[zg5,ziM,c1,h1,h2,w]
  rw[zb]
  simp[zg5,ziM,c2,h3,h4,w2,w0,l1]
  rw[zb]
  simp[zg5,ziM])
 rw[ze Φ178 rfl]
 simp[zqD,c178,d1]
theorem zyL (a b:Int) (ha:isIt a=true) (hb:isIt b=true) (e:Ex):W.pure 150 [e.av,bL (b2L a b)]=some (.tuple [I (tyR (b2L a b).l e).1,I (tyR (b2L a b).l e).2]):=by
 rw[ze Φ150 (by simp)]
 have c1:=e161 e
 have c3:=zvA a b ha hb
 unfold tyR
 by_cases h:zB e=0
 .rw[h]at c1
  have c2:=e179 (b2L a b) (by simp) e (.of h)
  simp[znR,c150,c1,c3,c2,h]
 .simp[znR,c150,c1,h]
def cutC:Nat→LC→LC
 |n+1,.seq a b=> .seq a (cutC n b)
 |0,_=> .skip
 |_+1,x=>x
def zG:Nat→LC→LC
 |n+1,.seq _ b=>zG n b
 |0,x=>x
 |_+1,_=> .skip
theorem zel (R:Rec):∀(n:Nat) (c:LC) (F:Fr) (H:Heap) (F1:Fr) (H1:Heap),evC R (cutC n c) F H=some (.normal,F1,H1)→evC R c F H=evC R (zG n c) F1 H1
 |0,c,F,H,F1,H1,h=>by
  simp only[cutC,zbj,oSi,pMi,true_and]at h
  obtain⟨rfl,rfl⟩:=h
  rfl
 |n+1,.seq a b,F,H,F1,H1,h=>by
  simp only[cutC,zd3]at h
  simp only[zG,zd3]
  cases ha:evC R a F H with
  |none=>rw[ha]at h;cases h
  |some p=>
   obtain⟨x,F2,H2⟩:=p
   rw[ha]at h
   cases x with
   |normal=>
    simp only[Option.bind_some,zeg]at h⊢
    exact zel R n b F2 H2 F1 H1 h
   |ret=>simp at h
   |exit i=>simp at h
 |n+1,.skip,F,H,F1,H1,h=>by simpa[cutC,zG]using h
 |n+1,.ret,F,H,F1,H1,h=>by simp[cutC]at h
 |n+1,.exit i,F,H,F1,H1,h=>by simp[cutC]at h
 |n+1,.reg d i o l,F,H,F1,H1,h=>by simp only[cutC]at h;simp only[zG,zbj];exact h
 |n+1,.cond c a b,F,H,F1,H1,h=>by simp only[cutC]at h;simp only[zG,zbj];exact h
 |n+1,.block i l b,F,H,F1,H1,h=>by simp only[cutC]at h;simp only[zG,zbj];exact h
 |n+1,.loop l b,F,H,F1,H1,h=>by simp only[cutC]at h;simp only[zG,zbj];exact h
 |n+1,.rng f p i a b,F,H,F1,H1,h=>by simp only[cutC]at h;simp only[zG,zbj];exact h
 |n+1,.hol t a,F,H,F1,H1,h=>by simp only[cutC]at h;simp only[zG,zbj];exact h
 |n+1,.any,F,H,F1,H1,h=>by simp only[cutC]at h;simp only[zG,zbj];exact h
 |n+1,.scp b,F,H,F1,H1,h=>by simp only[cutC]at h;simp only[zG,zbj];exact h
theorem ty1 {l:List Bnd} {e a:Ex} (ha:e.args.l=[a]) (h:(tyE l e).2=0):(tyE l a).2=0∧tyE l e=zaT l e.kind e.op e.name [(tyE l a).1]:=by
 rw[zcj,ha]at h
 rw[zcj l e,ha]
 by_cases h1:(tyE l a).2=0
 .simp[tyEs,h1]
 .exfalso;simp[tyEs,h1]at h
theorem ty2 {l:List Bnd} {e a b:Ex} (ha:e.args.l=[a,b]) (h:(tyE l e).2=0):(tyE l a).2=0∧(tyE l b).2=0∧tyE l e=zaT l e.kind e.op e.name [(tyE l a).1,(tyE l b).1]:=by
 rw[zcj,ha]at h
 rw[zcj l e,ha]
 by_cases h1:(tyE l a).2=0
 .by_cases h2:(tyE l b).2=0
  .simp[tyEs,h1,h2]
  .exfalso;simp[tyEs,h1,h2]at h
 .exfalso;simp[tyEs,h1]at h
theorem ty0 {l:List Bnd} {e:Ex} (ha:e.args.l=[]):tyE l e=zaT l e.kind e.op e.name []:=by
 rw[zcj l e,ha];simp[tyEs]
theorem zqe (b:Bool):fitV (b01 b,0)=(b01 b,0):=by cases b<;>rfl
theorem zyP (l:List Bnd) (hb:∀b∈l,b.type=1):∀e:Ex,ExV e→(tyE l e).2=0→(tyE l e).1=2→(vaE l e).2=0→(vaE l e).1=0∨(vaE l e).1=1:=by
 refine Ex.ind (fun e ih=>?_)
 intro he h1 h2 h3
 rcases zdy he.head with⟨hk,ha⟩|⟨hk,ha⟩|⟨hk,ho,a,ha⟩|⟨hk,ho1,ho2,a,b,ha⟩
 .exfalso;rw[ty0 ha]at h2;simp[zaT,hk]at h2
 .exfalso
  rw[ty0 ha]at h1 h2
  cases hf:zaD l e.name with
  |none=>simp[zaT,hk,hf]at h1
  |some b=>
   simp[zaT,hk,hf]at h2
   have:=hb b (List.mem_of_find?_eq_some hf)
   omega
 .obtain⟨t1,t2⟩:=ty1 ha h1
  rw[t2]at h1 h2
  rcases ho with ho|ho
  .exfalso
   simp[zaT,hk,ho]at h2
   split at h2<;>simp at h2
  .have t3:(tyE l a).1=2:=by
    apply cBc
    intro hn
    simp[zaT,hk,ho,hn]at h1
   rw[zdg,ha]at h3
   rw[zdg l e,ha]
   by_cases hv:(vaE l a).2=0
   .have:=ih a (by rw[ha];simp) (he.arg (by rw[ha];simp)) t1 t3 hv
    rcases this with hh|hh
    .right;simp[vaEs,hv,hh,zbB,hk,ho,fitV];decide
    .left;simp[vaEs,hv,hh,zbB,hk,ho,fitV];try decide
   .exfalso;simp[vaEs,hv]at h3
 .obtain⟨t1,t1',t2⟩:=ty2 ha h1
  rw[t2]at h1 h2
  have ho:8≤e.op:=by
   apply cBc
   intro hn
   have a2:opRs e.op=1:=by unfold opRs;rw[if_pos (by omega)]
   simp[zaT,hk,a2]at h2
   split at h2<;>simp at h2
  rw[zdg,ha]at h3
  rw[zdg l e,ha]
  by_cases hv:(vaE l a).2=0
  .by_cases hw:(vaE l b).2=0
   .have key:∀x y:Int,∃q,opE e.op x y=(b01 q,0):=by
     intro x y
     have c8:e.op=8∨e.op=9∨e.op=10∨e.op=11∨e.op=12∨e.op=13∨e.op=14∨e.op=15:=by omega
     rcases c8 with h|h|h|h|h|h|h|h<;>rw[h]<;>exact⟨_,by simp only[opE];rfl⟩
    obtain⟨q,hq⟩:=key (vaE l a).1 (vaE l b).1
    simp[vaEs,hv,hw,zbB,hk,hq,zqe]
    cases q<;>simp[b01]
   .exfalso;simp[vaEs,hv,hw]at h3
  .exfalso;simp[vaEs,hv]at h3
section
set_option maxRecDepth 10000
end
theorem zmV (x:Sl (List UInt8)) (hl:x.l.length≤1000000) (s:(List UInt8)):∀(r:List (List UInt8)) (k:Nat),x.l.drop k=r→k≤x.l.length→
  okC (W.loop [0,1,7,8] zm6 [(0,Sl.av AV.str 1 x),(1,AV.str s),(7,I x.l.length),(8,I k)] [])
   (fun q F H=>(q= .exit 0∧s∉r)∨∃j:Nat,q= .ret∧F.get 4=I j∧s∈r)
 | [],k,hk,hb=>by
  have hlen:k=x.l.length:=by have:=congrArg List.length hk;simp at this;omega
  subst hlen
  rw[zb]
  simp[zg3,ziL]
 |a::r,k,hk,hb=>by
  have hlt:k<x.l.length:=by have:=congrArg List.length hk;simp at this;omega
  have hget:x.l[k]=a:=by have:=congrArg List.head? hk;simpa[gEg hlt]using this
  have hk':x.l.drop (k+1)=r:=by rw[←List.drop_drop,hk];rfl
  have w:IntKind.wrap .i64 ((k:Int)+1)=((k+1:Nat):Int):=by rw[zz (by omega) (by omega)];omega
  have hc:(k:Int)<x.l.length:=by omega
  rw[zb]
  by_cases h:s=a
  .simp[zg3,ziL,hc,hlt,hget,h,zF]
   exact⟨k,rfl⟩
  .have ih:=zmV x hl s r (k+1) hk' hlt
   obtain⟨q,F,H,g1,g2⟩:=zc.1 ih
   simp at g1
   simp[zg3,ziL,hc,hlt,hget,h,w,g1,zF]
   rcases g2 with⟨g2,g3⟩|⟨j,g2,g3,g4⟩
   .left;exact⟨g2,g3⟩
   .right;exact⟨g2,⟨j,g3⟩,g4⟩
theorem zyK (x:Sl (List UInt8)) (hl:x.l.length≤1000000) (s:(List UInt8)):W.pure 166 [Sl.av AV.str 1 x,AV.str s]=some (.bool (decide (s∈x.l))):=by
 have c1:∃n:Int,W.pure 214 [Sl.av AV.str 1 x,AV.str s]=some (I n)∧decide (0≤n)=decide (s∈x.l):=by
  rw[ze Φ214 rfl]
  obtain⟨q,F,H,d1,d2⟩:=zc.1 (zmV x hl s x.l 0 rfl (by omega))
  simp at d1
  rcases d2 with⟨d2,d3⟩|⟨j,d2,d3,d4⟩
  .refine⟨-1,?_,by simp[d3]⟩
   subst d2
   simp[znD,c214,d1]
  .refine⟨j,?_,by simp[d4]⟩
   subst d2
   simp[znD,c214,d1,d3]
 obtain⟨n,c1,c2⟩:=c1
 rw[ze Φ166 rfl,←c2]
 simp[zqJ,c166,c1]
theorem zmX (x:Sl Int) (hl:x.l.length≤1000000) (s:Int):∀(r:List Int) (k:Nat),x.l.drop k=r→k≤x.l.length→
  okC (W.loop [0,1,7,8] zng [(0,Sl.av I 1 x),(1,I s),(7,I x.l.length),(8,I k)] [])
   (fun q F H=>(q= .exit 0∧s∉r)∨∃j:Nat,q= .ret∧F.get 4=I j∧s∈r)
 | [],k,hk,hb=>by
  have hlen:k=x.l.length:=by have:=congrArg List.length hk;simp at this;omega
  subst hlen
  rw[zb]
  simp[zg9,ziQ]
 |a::r,k,hk,hb=>by
  have hlt:k<x.l.length:=by have:=congrArg List.length hk;simp at this;omega
  have hget:x.l[k]=a:=by have:=congrArg List.head? hk;simpa[gEg hlt]using this
  have hk':x.l.drop (k+1)=r:=by rw[←List.drop_drop,hk];rfl
  have w:IntKind.wrap .i64 ((k:Int)+1)=((k+1:Nat):Int):=by rw[zz (by omega) (by omega)];omega
  have hc:(k:Int)<x.l.length:=by omega
  rw[zb]
  by_cases h:s=a
  .simp[zg9,ziQ,hc,hlt,hget,h,zF]
   exact⟨k,rfl⟩
  .have ih:=zmX x hl s r (k+1) hk' hlt
   obtain⟨q,F,H,g1,g2⟩:=zc.1 ih
   simp at g1
   simp[zg9,ziQ,hc,hlt,hget,h,w,g1,zF]
   rcases g2 with⟨g2,g3⟩|⟨j,g2,g3,g4⟩
   .left;exact⟨g2,g3⟩
   .right;exact⟨g2,⟨j,g3⟩,g4⟩
theorem zt2 (x:Sl Int) (hl:x.l.length≤1000000) (s:Int):W.pure 171 [Sl.av I 1 x,I s]=some (.bool (decide (s∈x.l))):=by
 have c1:∃n:Int,W.pure 156 [Sl.av I 1 x,I s]=some (I n)∧decide (0≤n)=decide (s∈x.l):=by
  rw[ze Φ156 rfl]
  obtain⟨q,F,H,d1,d2⟩:=zc.1 (zmX x hl s x.l 0 rfl (by omega))
  simp at d1
  rcases d2 with⟨d2,d3⟩|⟨j,d2,d3,d4⟩
  .refine⟨-1,?_,by simp[d3]⟩
   subst d2
   simp[znQ,c156,d1]
  .refine⟨j,?_,by simp[d4]⟩
   subst d2
   simp[znQ,c156,d1,d3]
 obtain⟨n,c1,c2⟩:=c1
 rw[ze Φ171 rfl,←c2]
 simp[zqH,c171,c1]
theorem zdJ {l m:List Bnd}:∀{es:List Ex},(∀e∈es,tyE l e=tyE m e)→tyEs l es=tyEs m es
 | [],h=>rfl
 |e::r,h=>by
  simp only[tyEs,h e (List.mem_cons_self ..),zdJ fun x hx=>h x (List.mem_cons_of_mem _ hx)]
theorem zfQ {l m:List Bnd}:∀{es:List Ex},(∀e∈es,vaE l e=vaE m e)→vaEs l es=vaEs m es
 | [],h=>rfl
 |e::r,h=>by
  simp only[vaEs,h e (List.mem_cons_self ..),zfQ fun x hx=>h x (List.mem_cons_of_mem _ hx)]
theorem Ex.parts_arg {e a x:Ex} (ha:a∈e.args.l) (hx:x∈a.parts):x∈e.parts:=by
 rw[Ex.parts_eq]
 have key:∀l:List Ex,a∈l→x∈Ex.partss l:=by
  intro l
  induction l with
  |nil=>intro h;cases h
  |cons b r ih=>
   intro h
   simp only[Ex.partss,List.mem_append]
   rcases lMc.1 h with rfl|h
   .exact .inl hx
   .exact .inr (ih h)
 exact List.mem_cons_of_mem _ (key _ ha)
theorem zkL (a b:Int):zaD (b1L a).l xN=zaD (b2L a b).l xN:=by simp[zaD,b1L,b2L,ofL]
theorem zus (a b:Int):∀e:Ex,(∀x∈e.parts,x.kind=2→x.name=xN)→tyE (b1L a).l e=tyE (b2L a b).l e:=by
 refine Ex.ind (fun e ih=>?_)
 intro h
 rw[zcj,zcj,zdJ fun a' ha=>ih a' ha fun x hx=>h x (Ex.parts_arg ha hx)]
 by_cases hk:e.kind=2
 .have hn:=h e (by rw[Ex.parts_eq];simp) hk
  have hf:=zkL a b
  cases tyEs (b2L a b).l e.args.l with
  |inl f=>rfl
  |inr ts=>simp only[zaT,hk,hn,hf]
 .cases tyEs (b2L a b).l e.args.l with
  |inl f=>rfl
  |inr ts=>simp only[zaT,hk,if_false]
theorem zv1 (a b:Int):∀e:Ex,(∀x∈e.parts,x.kind=2→x.name=xN)→vaE (b1L a).l e=vaE (b2L a b).l e:=by
 refine Ex.ind (fun e ih=>?_)
 intro h
 rw[zdg,zdg,zfQ fun a' ha=>ih a' ha fun x hx=>h x (Ex.parts_arg ha hx)]
 by_cases hk:e.kind=2
 .have hn:=h e (by rw[Ex.parts_eq];simp) hk
  have hf:=zkL a b
  cases vaEs (b2L a b).l e.args.l with
  |inl f=>rfl
  |inr ts=>simp only[zbB,hk,hn,hf]
 .cases vaEs (b2L a b).l e.args.l with
  |inl f=>rfl
  |inr ts=>simp only[zbB,hk,if_false]
abbrev hdA (i o le mo t:Int) (ns:List (List UInt8)) (f:Nat) (xs:List AV) (g:Nat):AV:= .agg [I i,I o,I le,I mo,I t,Sl.av AV.str 1 (ofL 1 ns),.clo f [] xs,.clo g [] []]
theorem zn2 (e:Ex) (p:List UInt8→Bool):(zab (zcf (zb2 e))).all p=(zb2 e).all p:=by
 rw[Bool.eq_iff_iff,lAt,lAt]
 constructor
 .intro h s hs;exact h s ((zfB s _).2 ((zeZ s _).2 hs))
 .intro h s hs;exact h s ((zeZ s _).1 ((zfB s _).1 hs))
theorem zn1 (e:Ex) (hz:zB e=0):(zb2 e).length≤100:=by
 have hs:=zfx hz
 have:=zeX e.parts []
 rw[Ex.parts_len]at this
 simp at this
 rw[zeN];omega
def ckN (ns:List (List UInt8)) (l:List Bnd) (t:Int) (e:Ex):Int:=
 if zB e≠0 then zB e
 else if (zb2 e).all (fun s=>decide (s∈ns))=false then 5
 else if (tyE l e).2≠0∨(tyE l e).1≠t then 15 else 0
theorem zyO (e:Ex):ckN [xN,yN] (b2L 0 0).l 1 e=ckE 9 e:=by
 unfold ckN ckE
 have e1:zdP 9=[xN,yN]:=rfl
 have e2:bnd2 0 0=(b2L 0 0).l:=rfl
 have e3:etyp 9=1:=rfl
 rw[e1,e2,e3]
 by_cases h:zB e=0
 .rw[if_neg (show ¬zB e≠0 by simp[h]),if_neg (show ¬zB e≠0 by simp[h])]
  split
  .rfl
  .generalize tyE (b2L 0 0).l e=p
   obtain⟨a,b⟩:=p
   by_cases ha:a=1<;>by_cases hb:b=0<;>simp[ha,hb]
 .rw[if_pos h,if_pos h]
theorem zt7 (k t:Int) (hk:k=2∨k=3∨k=7) (ht:etyp k=t) (e:Ex):ckN [xN] (b1L 0).l t e=ckE k e:=by
 unfold ckN ckE
 have e1:zdP k=[xN]:=by unfold zdP;rw[if_neg (by omega),if_pos hk]
 have e2:bnd2 0 0=(b2L 0 0).l:=rfl
 rw[e1,e2,ht]
 by_cases h:zB e=0
 .rw[if_neg (show ¬zB e≠0 by simp[h]),if_neg (show ¬zB e≠0 by simp[h])]
  cases hn:(zb2 e).all (fun s=>decide (s∈[xN])) with
  |false=>rfl
  |true=>
   have hp:∀x∈e.parts,x.kind=2→x.name=xN:=by
    intro x hx hk
    have:=lAt.1 hn x.name ((zfw e _).2 ⟨x,hx,hk,rfl⟩)
    simpa using this
   rw[zus 0 0 e hp]
   simp only[Bool.true_eq_false,if_false]
   generalize tyE (b2L 0 0).l e=p
   obtain⟨a,b⟩:=p
   by_cases ha:a=t<;>by_cases hb:b=0<;>simp[ha,hb]
 .rw[if_pos h,if_pos h]
theorem zks (H0:Heap) (x:Sl (List UInt8)) (hl:x.l.length≤1000000) (i o le mo t:Int) (ns:List (List UInt8)) (hns:ns.length≤2) (f g:Nat) (xs:List AV) (e:Ex):∀(r:List (List UInt8)) (k:Nat),x.l.drop k=r→k≤x.l.length→
  okC (W.loop [2,3,16,17,18] znk [(2,.optr H0.length 0 0 0),(3,.optr (H0.length+1) 0 0 0),(16,Sl.av AV.str 1 x),(17,I x.l.length),(18,I k)] (H0++[.arr 0 8 false [hdA i o le mo t ns f xs g],.arr 0 5 false [e.av]]))
   (fun q F H=>if r.all (fun s=>decide (s∈ns))=true then q= .exit 0∧F.keep [2,3]=[(2,.optr H0.length 0 0 0),(3,.optr (H0.length+1) 0 0 0)]∧H=(H0++[.arr 0 8 false [hdA i o le mo t ns f xs g],.arr 0 5 false [e.av]]) else q= .ret∧F.get 4=I 5∧H=(H0++[.arr 0 8 false [hdA i o le mo t ns f xs g],.arr 0 5 false [e.av]]))
 | [],k,hk,hb=>by
  have hlen:=zf hk hb
  subst hlen
  rw[zb]
  simp[zhb,ziS]
 |a::r,k,hk,hb=>by
  obtain⟨hlt,ha,hr⟩:=zn hk
  have hc:(k:Int)<x.l.length:=by omega
  have hak:x.l[k]=a:=(gEs.1 ha).2
  have hw:=zh (k:=k) (by omega)
  have c1:=zyK (ofL 1 ns) (by simp[ofL];omega) a
  rw[zb]
  by_cases h:a∈ns
  .have ih:=zks H0 x hl i o le mo t ns hns f g xs e r (k+1) hr hlt
   simp only[iNa,iCo]at ih
   have hd:((a::r).all fun s=>decide (s∈ns))=r.all fun s=>decide (s∈ns):=by simp[h]
   rw[hd]
   simp only[ofL,h,decide_true]at c1
   simp[zhb,ziS,hc,hlt,hak,c1,h,hw, -List.all_eq_true]
   simpa using ih
  .have hd:((a::r).all fun s=>decide (s∈ns))=false:=by simp[h]
   rw[hd]
   simp only[ofL,h,decide_false]at c1
   simp[zhb,ziS,hc,hlt,hak,c1,h,hw]
theorem zeU (H0:Heap) (i o le mo t:Int) (ns:List (List UInt8)) (hns:ns.length≤2) (f g:Nat) (xs:List AV) (hxs:okO (.clo f [] xs)=some (.clo f [] xs)) (e:Ex) (l:Sl Bnd) (hl:l.l.length≤1000000) (hb:W.pure 215 [bL l]=some (.bool true))
  (hB:W.pure 168 [Sl.av AV.str 1 (ofL 1 ns),.isl (some false) 1 [I 0,I 0]]=some (bL l)):
  okV (W.call (.clo 123 [] []) [hdA i o le mo t ns f xs g,e.av] H0) (fun v H'=>v=I (ckN ns l.l t e)∧H'=H0++[.arr 0 8 false [hdA i o le mo t ns f xs g],.arr 0 5 false [e.av]]):=by
 rw[zj Φ123]
 have c1:=e153 e
 unfold ckN
 by_cases h:zB e=0
 .rw[h]at c1
  obtain⟨x,c2,hx⟩:=e216 e h
  have hxl:x.l.length≤1000000:=by
   have h1:=zn1 e h
   have h2:=zdD (zcf (zb2 e))
   rw[zcn]at h2
   rw[hx];omega
  have L:=zks H0 x hxl i o le mo t ns hns f g xs e x.l 0 rfl (by omega)
  simp only[Int.natCast_zero,Nat.zero_add]at L
  obtain⟨q,F,H,d1,d2⟩:=zc.1 L
  rw[hx,zn2]at d2
  have c3:=e167 l (by omega) hb e
  have hty:tyR l.l e=tyE l.l e:=by unfold tyR;rw[if_neg (by simp[h])]
  rw[hty]at c3
  rw[if_neg (by simp[h])]
  cases hn:(zb2 e).all (fun s=>decide (s∈ns)) with
  |false=>
   rw[hn]at d2
   simp only[bFt,if_false]at d2
   obtain⟨rfl,d2,rfl⟩:=d2
   simp[ziq,c123,c1,c2,d1,d2]
  |true=>
   rw[hn]at d2
   simp only[if_true]at d2
   obtain⟨rfl,d2,rfl⟩:=d2
   generalize (tyE l.l e).1=t1 at *
   generalize (tyE l.l e).2=t2 at *
   by_cases h2:t2=0
   .by_cases h1:t1=t
    .simp[ziq,c123,c1,c2,d1,d2,hB,c3,h1,h2]
    .simp[ziq,c123,c1,c2,d1,d2,hB,c3,h1,h2]
   .simp[ziq,c123,c1,c2,d1,d2,hB,c3,h2]
 .simp[ziq,c123,c1,h]
def tkK (k:Int):AV:=if k=1 then .clo 194 [] [] else if k=2 then .clo 195 [] [] else if k=3 then .clo 196 [] [] else if k=4 then .clo 197 [] [] else if k=5 then .clo 200 [] [] else if k=6 then .clo 201 [] [] else if k=7 then .clo 202 [] [] else if k=8 then .clo 204 [] [.eptr [.clo 192 [] []]] else if k=9 then .clo 205 [] [] else .clo 207 [] []
def edK (k:Int):AV:=if k=4 then .clo 198 [] [] else if k=8 then .clo 203 [] [] else if k=9 then .clo 206 [] [] else .clo 193 [] []
def nmK (k:Int):Sl (List UInt8):=if k=9 then ofL 1 [xN,yN] else if k=2∨k=3∨k=7 then ofL 1 [xN] else ⟨some true,0,[]⟩
def hdK (k:Int):AV:= .agg [I (inK k),I (outK k),I (zC k),I (zL k),I (etyp k),Sl.av AV.str 1 (nmK k),tkK k,edK k]
theorem e112 (k:Int) (h:1≤k∧k≤10):W.pure 112 [I k]=some (.tuple [hdK k,.bool true]):=by
 have c:k=1∨k=2∨k=3∨k=4∨k=5∨k=6∨k=7∨k=8∨k=9∨k=10:=by omega
 rcases c with rfl|rfl|rfl|rfl|rfl|rfl|rfl|rfl|rfl|rfl<;>exact (zfm 60).pure _ _ _ (by kernel_rfl)
theorem zyN (k:Int) (h:k<1∨10<k):W.pure 112 [I k]=some (.tuple [.agg [I 0,I 0,I 0,I 0,I 0,.isl (some true) 0 [],.nilf,.nilf],.bool false]):=by
 rw[ze Φ112 rfl]
 by_cases h1:k<1
 .simp[znY,c112,h1]
  rfl
 .have h2:10<k:=by omega
  simp[znY,c112,h1,h2]
  rfl
theorem zq5 (H0:Heap) (k:Int) (hk:k=2∨k=3∨k=7∨k=9) (e:Ex):okV (W.call (.clo 123 [] []) [hdK k,e.av] H0) (fun v H'=>v=I (ckE k e)∧H'=H0++[.arr 0 8 false [hdK k],.arr 0 5 false [e.av]]):=by
 rcases hk with rfl|rfl|rfl|rfl
 .have:=zeU H0 1 1 0 0 1 [xN] (by simp) 195 193 [] rfl e (b1L 0) (by simp[b1L,ofL]) (zkS 0 rfl) (zkT 0 0)
  rw[zt7 2 1 (by omega) rfl e]at this
  exact this
 .have:=zeU H0 1 1 0 0 2 [xN] (by simp) 196 193 [] rfl e (b1L 0) (by simp[b1L,ofL]) (zkS 0 rfl) (zkT 0 0)
  rw[zt7 3 2 (by omega) rfl e]at this
  exact this
 .have:=zeU H0 1 2 0 0 2 [xN] (by simp) 202 193 [] rfl e (b1L 0) (by simp[b1L,ofL]) (zkS 0 rfl) (zkT 0 0)
  rw[zt7 7 2 (by omega) rfl e]at this
  exact this
 .have:=zeU H0 2 1 0 0 1 [xN,yN] (by simp) 205 206 [] rfl e (b2L 0 0) (by simp[b2L,ofL]) (zr2 0 0 rfl rfl) (zr3 0 0)
  rw[zyO e]at this
  exact this
theorem e116 (a:Int):W.pure 116 [I a]=some (.bool (isIt a)):=by
 rw[ze Φ116 rfl]
 have ie:=zO a
 cases h:isIt a with
 |true=>
  have h1:=ie.1 h
  have h2: -1099511627776≤a:=by omega
  have h3:a≤1099511627776:=by omega
  simp[zlJ,c116,h2,h3]
 |false=>
  have h1:¬(-1099511627776≤a∧a≤1099511627776):=fun hh=>by rw[ie.2 hh]at h;cases h
  by_cases h2: -1099511627776≤a
  .have h3:¬a≤1099511627776:=by omega
   simp[zlJ,c116,h2,h3]
  .simp[zlJ,c116,h2]
theorem zuf (a:Int) (H:Heap):okV (W.call (.clo 122 [] []) [I a] H) (fun v H'=>v= .bool (!isIt a)∧Kept none H H'):=by
 rw[zj Φ122]
 have c:=e116 a
 simp[zqP,c122,c,Kept.refl]
theorem zho (l:List Int):(l.any fun a=> !isIt a)= !l.all isIt:=by
 induction l with
 |nil=>rfl
 |cons a r ih=>simp only[List.any_cons,List.all_cons,ih,Bool.not_and]
theorem zjX (k:Int):∃f b,tkK k= .clo f [] b∧(b=[]∨b=[.eptr [.clo 192 [] []]]):=by
 unfold tkK
 repeat' split
 all_goals exact⟨_,_,rfl,by simp⟩
theorem zkR (k:Int):∃f,edK k= .clo f [] []:=by
 unfold edK
 repeat' split
 all_goals exact⟨_,rfl⟩
theorem zkE (k:Int):∃f b g,hdK k= .agg [I (inK k),I (outK k),I (zC k),I (zL k),I (etyp k),Sl.av AV.str 1 (nmK k),.clo f [] b,.clo g [] []]∧(b=[]∨b=[.eptr [.clo 192 [] []]]):=by
 obtain⟨f,b,h1,h2⟩:=zjX k
 obtain⟨g,h3⟩:=zkR k
 exact⟨f,b,g,by unfold hdK;rw[h1,h3],h2⟩
@[simp] theorem hd_len (k:Int):(hdK k).cells.length=8:=rfl
@[simp] theorem hd_cell (k:Int):(hdK k).cells.all AV.cell=true:=by
 obtain⟨f,b,g,h,_⟩:=zkE k
 rw[h];rfl
@[simp] theorem hd_okO (k:Int):okO (hdK k)=some (hdK k):=by
 obtain⟨f,b,g,h,h2⟩:=zkE k
 rw[h]
 rcases h2 with rfl|rfl<;>rfl
@[simp] theorem hd_whole (k:Int):zg true 8 (hdK k).cells=hdK k:=rfl
@[simp] theorem hd_fold (k:Int):AV.agg (hdK k).cells=hdK k:=rfl
@[simp] theorem hd_ld2 (k:Int):zg false 1 ((hdK k).cells.drop 2)=I (zC k):=rfl
@[simp] theorem hd_ld3 (k:Int):zg false 1 ((hdK k).cells.drop 3)=I (zL k):=rfl
@[simp] theorem hd_ld4 (k:Int):zg false 1 ((hdK k).cells.drop 4)=I (etyp k):=rfl
@[simp] theorem hd_st (k:Int):zd [.agg [.int .i64 0,.int .i64 0,.int .i64 0,.int .i64 0,.int .i64 0,.isl (some true) 0 [],.nilf,.nilf]] 0 0 (hdK k)=some [hdK k]:=rfl
@[simp] theorem sx_kind (x:Sg):zg false 1 (x.av.cells.drop 2)=I x.expr.kind:=rfl
@[simp] theorem sx_op (x:Sg):zg false 1 (x.av.cells.drop 3)=I x.expr.op:=rfl
@[simp] theorem sx_name (x:Sg):zg false 1 (x.av.cells.drop 4)= .str x.expr.name:=rfl
@[simp] theorem sx_value (x:Sg):zg false 1 (x.av.cells.drop 5)=I x.expr.value:=rfl
@[simp] theorem sx_args (x:Sg):zg false 1 (x.av.cells.drop 6)=Sl.av Ex.av 5 x.expr.args:=rfl
theorem zk8 (e:Ex):(e.kind=0∧e.op=0∧e.name=[]∧e.value=0∧e.args.l=[]∧zaS e=true)∨(e.kind≠0∧zaS e=false)∨(e.kind=0∧e.op≠0∧zaS e=false)∨(e.kind=0∧e.op=0∧e.name≠[]∧zaS e=false)∨(e.kind=0∧e.op=0∧e.name=[]∧e.value≠0∧zaS e=false)∨(e.kind=0∧e.op=0∧e.name=[]∧e.value=0∧e.args.l≠[]∧zaS e=false):=by
 by_cases h1:e.kind=0<;>by_cases h2:e.op=0<;>by_cases h3:e.name=[]<;>by_cases h4:e.value=0<;>by_cases h5:e.args.l=[]<;>simp[zaS,h1,h2,h3,h4,h5]
theorem zvo (x:Sg) (hk:1≤x.kind∧x.kind≤10):evC W (cutC 4 c72) [(0,x.av)] []=some (.normal,[(1,.optr 0 0 0 0),(3,.optr 1 0 0 0),(5,.bool (zaS x.expr))],[.arr 0 8 false [x.av],.arr 0 8 false [hdK x.kind]]):=by
 have c1:=e112 x.kind hk
 rcases zk8 x.expr with⟨a1,a2,a3,a4,a5,a6⟩|⟨a1,a6⟩|⟨a1,a2,a6⟩|⟨a1,a2,a3,a6⟩|⟨a1,a2,a3,a4,a6⟩|⟨a1,a2,a3,a4,a5,a6⟩
 .simp[fi72,c72,cutC,c1,zF,a1,a2,a3,a4,a5,a6]
 .simp[fi72,c72,cutC,c1,zF,a1,a6]
 .simp[fi72,c72,cutC,c1,zF,a1,a2,a6]
 .simp[fi72,c72,cutC,c1,zF,a1,a2,a3,a6]
 .simp[fi72,c72,cutC,c1,zF,a1,a2,a3,a4,a6]
 .simp[fi72,c72,cutC,c1,zF,a1,a2,a3,a4,a5,a6]
theorem zu2 (x:Sg) (k:Int) (z:Bool):evC W (cutC 1 (zG 4 c72)) [(1,.optr 0 0 0 0),(3,.optr 1 0 0 0),(5,.bool z)] [.arr 0 8 false [x.av],.arr 0 8 false [hdK k]]
  =if (zL k=0∧x.size≠0)∨(etyp k=0∧z=false)∨(x.kind≠1∧x.items.l≠[]) then some (.ret,[(2,I 1)],[.arr 0 8 false [x.av],.arr 0 8 false [hdK k]]) else some (.normal,[(1,.optr 0 0 0 0),(3,.optr 1 0 0 0),(70,.bool false)],[.arr 0 8 false [x.av],.arr 0 8 false [hdK k]]):=by
 have p5:(x.items.l=[]∧¬(0:Int)<x.items.l.length)∨(x.items.l≠[]∧(0:Int)<x.items.l.length):=by
  cases x.items.l with
  |nil=>simp
  |cons a r=>right;simp
 generalize hM:zL k=M
 generalize hE:etyp k=E
 by_cases p1:M=0<;>by_cases p2:x.size=0<;>by_cases p3:E=0<;>cases z<;>by_cases p4:x.kind=1<;>rcases p5 with⟨p5,p6⟩|⟨p5,p6⟩<;>simp[fi72,c72,cutC,zG,hM,hE,p1,p2,p3,p4,p5,p6]
theorem zrY (R:Rec):∀(n:Nat) (c:LC) (F:Fr) (H:Heap) (F1:Fr) (H1:Heap),evC R (cutC n c) F H=some (.ret,F1,H1)→evC R c F H=some (.ret,F1,H1)
 |0,c,F,H,F1,H1,h=>by simp[cutC]at h
 |n+1,c,F,H,F1,H1,h=>by
  cases c with
  |seq a b=>
   simp only[cutC,zd3]at h
   simp only[zd3]
   cases ha:evC R a F H with
   |none=>rw[ha]at h;cases h
   |some p=>
    obtain⟨x,F2,H2⟩:=p
    rw[ha]at h
    cases x with
    |normal=>
     simp only[Option.bind_some,zeg]at h⊢
     exact zrY R n b F2 H2 F1 H1 h
    |ret=>simpa using h
    |exit i=>simp at h
  |_=>simpa only[cutC]using h
theorem zuv (x:Sg) (hx:x.items.l.length≤1048576) (hk:1≤x.kind∧x.kind≤10):okC (evC W (zG 5 c72) [(1,.optr 0 0 0 0),(3,.optr 1 0 0 0),(70,.bool false)] [.arr 0 8 false [x.av],.arr 0 8 false [hdK x.kind]])
  (fun q F H=>q= .ret∧F.get 2=I (if x.size<zC x.kind∨zL x.kind<x.size then 2 else if 200<x.items.l.length then 4 else if x.items.l.all isIt=false then 2 else if etyp x.kind=0 then 0 else ckE x.kind x.expr)):=by
 obtain⟨v,H',c1,rfl,c2⟩:=zu.1 (zrh x.items (by omega) (.clo 122 [] []) rfl (fun a=> !isIt a) [.arr 0 8 false [x.av],.arr 0 8 false [hdK x.kind]] (fun a _ H _=>zuf a H))
 rw[zho]at c1
 have g0:H'[0]?=some (.arr 0 8 false [x.av]):=c2.get (by simp) rfl
 have g1:H'[1]?=some (.arr 0 8 false [hdK x.kind]):=c2.get (by simp) rfl
 by_cases h1:x.size<zC x.kind
 .simp[fi72,c72,zG,h1]
 by_cases h2:zL x.kind<x.size
 .simp[fi72,c72,zG,h1,h2]
 rw[if_neg (show ¬(x.size<zC x.kind∨zL x.kind<x.size) by omega)]
 by_cases h3:200<x.items.l.length
 .have h3':(200:Int)<x.items.l.length:=by omega
  simp[fi72,c72,zG,h1,h2,h3,h3']
 have h3':¬(200:Int)<x.items.l.length:=by omega
 rw[if_neg h3]
 cases h4:x.items.l.all isIt with
 |false=>
  rw[h4]at c1
  simp[fi72,c72,zG,h1,h2,h3',c1, -List.all_eq_true, -List.all_eq_false]
 |true=>
  rw[h4]at c1
  by_cases h5:etyp x.kind=0
  .simp[fi72,c72,zG,h1,h2,h3',c1,g0,g1,h5]
  .have hk4:x.kind=2∨x.kind=3∨x.kind=7∨x.kind=9:=by
    unfold etyp at h5;split at h5
    .omega
    .split at h5
     .omega
     .exact absurd rfl h5
   obtain⟨v,H2,d1,rfl,rfl⟩:=zu.1 (zq5 H' x.kind hk4 x.expr)
   simp[fi72,c72,zG,h1,h2,h3',c1,g0,g1,h5,d1]
theorem e72 (x:Sg) (hx:x.items.l.length≤1048576):W.pure 72 [x.av]=some (I (sgI x)):=by
 rw[ze Φ72 (by simp)]
 unfold sgI
 by_cases hk:x.kind<1∨10<x.kind
 .have c1:=zyN x.kind hk
  rw[if_pos hk]
  simp[fi72,c72,c1]
 .have hk':1≤x.kind∧x.kind≤10:=by omega
  rw[if_neg hk]
  have e:zaN W fi72 [x.av] []=(evC W c72 [(0,x.av)] []).bind fun p=>match p.1 with
   | .exit _=>none
   |_=>(resV p.2.1 p.2.2 fi72.res).map fun v=>(v,p.2.2):=rfl
  rw[e,zel W 4 c72 _ _ _ _ (zvo x hk')]
  by_cases h1:(zL x.kind=0∧x.size≠0)∨(etyp x.kind=0∧zaS x.expr=false)∨(x.kind≠1∧x.items.l≠[])
  .rw[if_pos h1]
   have m:=zu2 x x.kind (zaS x.expr)
   rw[if_pos h1]at m
   rw[zrY W 1 (zG 4 c72) _ _ _ _ m]
   simp[fi72,resV,rvVs,rvV]
  .rw[if_neg h1]
   have m:=zu2 x x.kind (zaS x.expr)
   rw[if_neg h1]at m
   rw[zel W 1 (zG 4 c72) _ _ _ _ m]
   obtain⟨q,F,H,d1,rfl,d2⟩:=zc.1 (zuv x hx hk')
   have hr:zG 1 (zG 4 c72)=zG 5 c72:=rfl
   rw[hr,d1]
   simp[fi72,resV,rvVs,rvV,d2]
theorem zj3 {x:Sg} (h:sgI x=0):1≤x.kind∧x.kind≤10:=by
 unfold sgI at h
 split at h
 .cases h
 .omega
@[simp] theorem hd_ld0 (k:Int):zg false 1 (hdK k).cells=I (inK k):=rfl
@[simp] theorem hd_ld1 (k:Int):zg false 1 (hdK k).cells.tail=I (outK k):=rfl
@[simp] theorem hd_ld1' (k:Int):zg false 1 ((hdK k).cells.drop 1)=I (outK k):=rfl
theorem e68 (x:Sg) (hx:x.items.l.length≤1048576):W.pure 68 [x.av]=some (I (inN x)):=by
 rw[ze Φ68 (by simp)]
 have c1:=e72 x hx
 unfold inN
 by_cases h:sgI x=0
 .rw[h]at c1
  have c2:=e112 x.kind (zj3 h)
  simp[fi68,c68,c1,c2,h]
 .simp[fi68,c68,c1,h]
theorem e73 (x:Sg) (hx:x.items.l.length≤1048576):W.pure 73 [x.av]=some (I (outN x)):=by
 rw[ze Φ73 (by simp)]
 have c1:=e72 x hx
 unfold outN
 by_cases h:sgI x=0
 .rw[h]at c1
  have c2:=e112 x.kind (zj3 h)
  simp[fi73,c73,c1,c2,h]
 .simp[fi73,c73,c1,h]
theorem e102 (k:Int):W.pure 102 [I k]=some (I (etyp k)):=by
 rw[ze Φ102 rfl]
 unfold etyp
 by_cases h2:k=2
 .simp[zis,c102,h2]
 by_cases h9:k=9
 .simp[zis,c102,h9]
 rw[if_neg (by omega)]
 by_cases h3:k=3
 .simp[zis,c102,h3]
 by_cases h7:k=7
 .simp[zis,c102,h7]
 rw[if_neg (by omega)]
 simp[zis,c102,h2,h3,h7,h9]
theorem zb5 {H:Heap} {id ver:Nat} {l:List (List UInt8)} (h:H[id]?=some (.arr ver 1 false (l.map AV.str))) (hl:l.length≤1048576) (n:List UInt8):
  ex H (.app 1) [.osl id ver 0 l.length,.isl (some false) 1 [.str n]]=some (.osl id (ver+1) 0 (l.length+1),H.set id (.arr (ver+1) 1 false ((l++[n]).map AV.str))):=by
 have ht:truncH H (.osl id ver 0 l.length)=H:=by simp[truncH,h]
 have hr:l.length+1≤zay:=by simp[zay];omega
 simp[ex,zax,ht,zbN,h,hr]
def insB (n a:List UInt8) (p:Bool):Bool:= !p&&Op.bytesLess n a
def zcw (n a:List UInt8) (s:List (List UInt8)×Bool):(List (List UInt8)×Bool)⊕Unit:=
 if a=n then .inr () else .inl (if insB n a s.2=true then (s.1++[n]++[a],true) else (s.1++[a],s.2))
theorem zgQ (n:List UInt8):∀(r:List (List UInt8)) (k:Nat) (s:List (List UInt8)×Bool),match zev (fun _ a s=>zcw n a s) k r s with
  | .inr ()=>n∈r
  | .inl t=>t.1.length+(if s.2=true then 1 else 0)=s.1.length+r.length+(if t.2=true then 1 else 0)∧(∀m,m∈t.1∨(t.2=false∧m=n)↔m∈s.1∨m∈r∨(s.2=false∧m=n))∧(s.2=true→t.2=true)
 | [],k,s=>by simp[zev]
 |a::r,k,s=>by
  unfold zev
  by_cases h:a=n
  .have hst:zcw n a s= .inr ():=by simp[zcw,h]
   rw[hst]
   simp[h]
  .have hst:zcw n a s= .inl (if insB n a s.2=true then (s.1++[n]++[a],true) else (s.1++[a],s.2)):=by simp[zcw,h]
   rw[hst]
   simp only
   cases hb:insB n a s.2 with
   |true=>
    have hs:s.2=false:=by cases h2:s.2 with|false=>rfl|true=>rw[h2]at hb;simp[insB]at hb
    have ih:=zgQ n r (k+1) (s.1++[n]++[a],true)
    rw[if_pos rfl]
    split
    .rename_i u hu
     rw[hu]at ih
     exact List.mem_cons_of_mem _ ih
    .rename_i t ht
     rw[ht]at ih
     simp only at ih
     obtain⟨i1,i2,i3⟩:=ih
     refine⟨by simp[hs,i3]at i1⊢;omega,fun m=>?_,fun _=>i3 trivial⟩
     rw[i2]
     simp only[List.mem_append,lMc,List.not_mem_nil,Bool.true_eq_false,false_and,or_false,hs,true_and]
     constructor
     .rintro (((h|h)|h)|h)
      .exact .inl h
      .exact .inr (.inr h)
      .exact .inr (.inl (.inl h))
      .exact .inr (.inl (.inr h))
     .rintro (h|(h|h)|h)
      .exact .inl (.inl (.inl h))
      .exact .inl (.inr h)
      .exact .inr h
      .exact .inl (.inl (.inr h))
   |false=>
    have ih:=zgQ n r (k+1) (s.1++[a],s.2)
    rw[if_neg Bool.false_ne_true]
    split
    .rename_i u hu
     rw[hu]at ih
     exact List.mem_cons_of_mem _ ih
    .rename_i t ht
     rw[ht]at ih
     simp only at ih
     obtain⟨i1,i2,i3⟩:=ih
     refine⟨by simp at i1⊢;omega,fun m=>?_,i3⟩
     rw[i2]
     simp only[List.mem_append,lMc,List.not_mem_nil,false_or,or_assoc,or_false]
theorem e219 (x:Sl (List UInt8)) (hx:x.l.length≤1000000) (n:List UInt8):∃y:Sl (List UInt8),W.pure 219 [Sl.av AV.str 1 x,.str n]=some (Sl.av AV.str 1 y)∧(∀m,m∈y.l↔m=n∨m∈x.l)∧y.l.length≤x.l.length+1:=by
 have hL:=zbZ (Φ:=Φ) (live:=[0,1,5,6,7]) (L:=zm5) x.l (fun _ a s=>zcw n a s)
  (fun k s F H=>F=[(0,Sl.av AV.str 1 x),(1,.str n),(5,.osl 0 s.1.length 0 s.1.length),(6,.bool s.2),(7,I k)]∧H=[.arr s.1.length 1 false (s.1.map AV.str)]∧s.1.length≤k+if s.2=true then 1 else 0)
  (fun _ q F H=>q= .ret∧F.get 4=Sl.av AV.str 1 x)
  (fun s q F H=>q= .exit 0∧F.keep [1,5,6]=[(1,.str n),(5,.osl 0 s.1.length 0 s.1.length),(6,.bool s.2)]∧H=[.arr s.1.length 1 false (s.1.map AV.str)]∧s.1.length≤1000001)
  (s:=([],false)) (F:=[(0,Sl.av AV.str 1 x),(1,.str n),(5,.osl 0 0 0 0),(6,.bool false),(7,I 0)]) (H:=[.arr 0 1 false []]) ⟨rfl,rfl,by simp⟩ ?_ ?_
 .have hf:=zgQ n x.l 0 ([],false)
  rw[ze Φ219 rfl]
  generalize zev (fun _ a s=>zcw n a s) 0 x.l ([],false)=z at hL hf
  obtain⟨q,F,H,d1,d2⟩:=zc.1 hL
  cases z with
  |inr u=>
   simp only at hf
   obtain⟨rfl,d3⟩:=d2
   refine⟨x,by simp[zlD,c219,d1,d3],fun m=>?_,by omega⟩
   constructor
   .exact fun h=> .inr h
   .rintro (rfl|h)
    .exact hf
    .exact h
  |inl t=>
   simp only at hf
   obtain⟨i1,i2,i3⟩:=hf
   obtain⟨rfl,d3,rfl,d4⟩:=d2
   obtain⟨l,p⟩:=t
   simp only at i1 i2 d3 d4 d1
   cases p with
   |true=>
    refine⟨ofL 1 l,?_,fun m=>?_,by simp at i1;simp[ofL];omega⟩
    .have hz:=zcP (H:=[.arr l.length 1 false (l.map AV.str)]) (n:=7) (id:=0) (v:=l.length) (sz:=1) (len:=l.length) (sh:=false) (es:=l.map AV.str) rfl (by simp) (zba (by simp) l)
     rw[zcc]at hz
     simp[zlD,c219,d1,d3,hz]
    .have:=i2 m
     simp at this
     simp[ofL,this,or_comm]
   |false=>
    have ha:=zb5 (H:=[.arr l.length 1 false (l.map AV.str)]) (id:=0) rfl (by omega) n
    refine⟨ofL 1 (l++[n]),?_,fun m=>?_,by simp at i1;simp[ofL];omega⟩
    .have hz:=zcP (H:=[.arr (l.length+1) 1 false ((l++[n]).map AV.str)]) (n:=7) (id:=0) (v:=l.length+1) (sz:=1) (len:=l.length+1) (sh:=false) (es:=(l++[n]).map AV.str) rfl (by simp) (zba (by simp) _)
     rw[zcc]at hz
     simp at ha hz
     simp[zlD,c219,d1,d3,ha,hz]
    .have:=i2 m
     simp at this
     simp[ofL]
     rw[this,or_comm]
 .rintro k a ⟨l,p⟩ F H hk ha ⟨rfl,rfl,hl⟩
  have hka:x.l[k]=a:=(gEs.1 ha).2
  have hk':(k:Int)<x.l.length:=by omega
  have hw:=zh (k:=k) (by omega)
  simp only at hl
  have hl':l.length≤k+1:=by split at hl<;>omega
  unfold zcw
  by_cases h:a=n
  .simp[zdA,zfE,hk,hk',hka,h,zF]
  .rw[if_neg h]
   have ha1:=zb5 (H:=[.arr l.length 1 false (l.map AV.str)]) (id:=0) rfl (by omega) a
   have ha2:=zb5 (H:=[.arr l.length 1 false (l.map AV.str)]) (id:=0) rfl (by omega) n
   have ha3:=zb5 (H:=[.arr (l.length+1) 1 false ((l++[n]).map AV.str)]) (id:=0) (ver:=l.length+1) (l:=l++[n]) (by simp) (by simp;omega) a
   simp at ha1 ha2 ha3
   cases p with
   |true=>
    simp at hl
    simp[zdA,zfE,hk,hk',hka,h,zF,hw,insB,ha1]
    omega
   |false=>
    simp at hl
    cases hb:Op.bytesLess n a with
    |true=>
     simp[zdA,zfE,hk,hk',hka,h,zF,hw,insB,hb,ha2,ha3]
     omega
    |false=>
     simp[zdA,zfE,hk,hk',hka,h,zF,hw,insB,hb,ha1]
     omega
 .rintro⟨l,p⟩ F H ⟨rfl,rfl,hl⟩
  have hl:l.length≤x.l.length+1:=by simp only at hl;split at hl<;>omega
  simp[zdA,zfE]
  omega
def rNm (e:Ex) (m:List UInt8):Prop:=∃x∈e.parts,x.kind=2∧x.name=m
theorem Ex.partss_mem {x:Ex}:∀{l:List Ex},x∈Ex.partss l↔∃a∈l,x∈a.parts
 | []=>by simp[Ex.partss]
 |a::r=>by simp[Ex.partss,Ex.partss_mem (l:=r)]
theorem zrK {e:Ex} (h:ExV e) (m:List UInt8):rNm e m↔(e.kind=2∧e.name=m)∨∃a∈e.args.l,rNm a m:=by
 unfold rNm
 rw[Ex.parts_eq]
 constructor
 .rintro⟨x,hx,h1,h2⟩
  rcases lMc.1 hx with rfl|hx
  .exact .inl ⟨h1,h2⟩
  .obtain⟨a,ha,hx⟩:=Ex.partss_mem.1 hx
   exact .inr ⟨a,ha,x,hx,h1,h2⟩
 .rintro (⟨h1,h2⟩|⟨a,ha,x,hx,h1,h2⟩)
  .exact⟨e,by simp,h1,h2⟩
  .exact⟨x,List.mem_cons_of_mem _ (Ex.partss_mem.2 ⟨a,ha,hx⟩),h1,h2⟩
theorem ExV.noargs {e:Ex} (h:ExV e) (hk:e.kind=2):e.args.l=[]:=by
 have h0:=h.head
 unfold zS at h0
 split at h0
 .cases h0
 .split at h0
  .cases h0
  .rename_i h1 h2
   have h3:zaw e=true:=by cases hb:zaw e with|true=>rfl|false=>exact absurd hb h2
   unfold zaw at h3
   simp[hk]at h3
   have:=h3.2
   cases hl:e.args.l with
   |nil=>rfl
   |cons a r=>rw[hl]at this;simp at this
theorem zsH (e:Ex) (he:e.args.l.length≤1000000) (ih:∀a∈e.args.l,∀(x:Sl (List UInt8)),x.l.length+a.size≤1000000→∃y:Sl (List UInt8),W.pure 177 [a.av,Sl.av AV.str 1 x]=some (Sl.av AV.str 1 y)∧(∀m,m∈y.l↔rNm a m∨m∈x.l)∧y.l.length≤x.l.length+a.size):
  ∀(r:List Ex) (k:Nat) (x:Sl (List UInt8)),e.args.l.drop k=r→k≤e.args.l.length→x.l.length+Ex.sizes r≤1000000→
  okC (W.loop [1,2,5] znb [(1,Sl.av AV.str 1 x),(2,.optr 0 0 0 0),(5,I k)] [.arr 0 5 false [e.av]])
   (fun q F H=>∃y:Sl (List UInt8),q= .exit 0∧F.get 1=Sl.av AV.str 1 y∧(∀m,m∈y.l↔(∃a∈r,rNm a m)∨m∈x.l)∧y.l.length≤x.l.length+Ex.sizes r):=by
 intro r
 induction r with
 |nil=>
  intro k x h1 h2 hs
  have hk:=zf h1 h2
  rw[zb]
  simp[zkN,zk1,hk]
  exact⟨x,rfl,by simp,by omega⟩
 |cons a r ihr=>
  intro k x h1 h2 hs
  obtain⟨hlt,ha,hr⟩:=zn h1
  have hlt':(k:Int)<e.args.l.length:=by omega
  have hak:e.args.l[k]=a:=(gEs.1 ha).2
  have hw:=zh (k:=k) (by omega)
  simp only[Ex.sizes]at hs
  obtain⟨y,c1,c2,c3⟩:=ih a (zZ h1) x (by omega)
  have hJ:=ihr (k+1) y hr (by omega) (by omega)
  simp only[iNa,iCo]at hJ
  obtain⟨q,F,H,d1,z,rfl,d2,d3,d4⟩:=zc.1 hJ
  rw[zb]
  simp[zkN,zk1,hlt,hak,c1,hw,d1,d2]
  refine⟨z,rfl,fun m=>?_,by simp only[Ex.sizes];omega⟩
  rw[d3,c2]
  constructor
  .rintro (h|h|h)
   .exact .inl (.inr h)
   .exact .inl (.inl h)
   .exact .inr h
  .rintro ((h|h)|h)
   .exact .inr (.inl h)
   .exact .inl h
   .exact .inr (.inr h)
theorem e177:∀(e:Ex),ExV e→∀(x:Sl (List UInt8)),x.l.length+e.size≤1000000→∃y:Sl (List UInt8),W.pure 177 [e.av,Sl.av AV.str 1 x]=some (Sl.av AV.str 1 y)∧(∀m,m∈y.l↔rNm e m∨m∈x.l)∧y.l.length≤x.l.length+e.size:=by
 refine Ex.ind (fun e ih=>?_)
 intro hv x hx
 rw[Ex.size_eq]at hx⊢
 by_cases hk:e.kind=2
 .obtain⟨y,c1,c2,c3⟩:=e219 x (by omega) e.name
  refine⟨y,?_,fun m=>?_,by omega⟩
  .rw[ze Φ177 (by simp)]
   simp[znM,c177,hk,c1]
  .rw[c2,zrK hv,hv.noargs hk]
   simp[hk,eq_comm]
 .have hl:=Ex.len_sizes e.args.l
  obtain⟨q,F,H,d1,z,rfl,d2,d3,d4⟩:=zc.1 (zsH e (by omega) (fun a ha=>ih a ha (hv.arg ha)) e.args.l 0 x rfl (by omega) (by omega))
  refine⟨z,?_,fun m=>?_,by omega⟩
  .rw[ze Φ177 (by simp)]
   simp at d1
   simp[znM,c177,hk,d1,d2]
  .rw[d3,zrK hv]
   simp[hk]
theorem e149 (e:Ex) (hz:zB e=0):∃y:Sl (List UInt8),W.pure 149 [e.av]=some (Sl.av AV.str 1 y)∧(∀m,m∈y.l↔m∈zb2 e)∧y.l.length≤100:=by
 have hs:=zfx hz
 have c0:=e161 e
 rw[hz]at c0
 obtain⟨y,c1,c2,c3⟩:=e177 e (.of hz) (ofL 1 []) (by simp[ofL];omega)
 simp only[ofL,List.length_nil,List.not_mem_nil,or_false]at c2 c3
 refine⟨y,?_,fun m=>by rw[c2,zfw];rfl,by omega⟩
 rw[ze Φ149 (by simp)]
 have c1':W.pure 177 [e.av,.isl (some false) 1 []]=some (Sl.av AV.str 1 y):=c1
 simp[zqM,c149,c0,c1']
theorem e101 (a l h:Int):W.pure 101 [I a,I l,I h]=some (.bool (decide (l≤a)&&decide (a≤h))):=by
 rw[ze Φ101 rfl]
 by_cases h1:l≤a<;>simp[zqU,c101,h1]
theorem e140 (n:Int):W.pure 140 [I n]=some (.bool (isIt n)):=by
 rw[ze Φ140 rfl]
 have c1:=e101 n (-1099511627776) 1099511627776
 simp[zqN,c140,c1,isIt]
theorem zsN (x:Sl Int) (hx:x.l.length≤1048576):okC (W.loop [0,3] zky [(0,Sl.av I 1 x),(3,I 0)] [])
  (fun q F G=>if x.l.all isIt=true then q= .exit 0 else q= .ret∧F.get 2=I 2):=by
 have hL:=zbZ (Φ:=Φ) (live:=[0,3]) (L:=zky) x.l (fun _ a (_:Unit)=>if isIt a=true then .inl () else (.inr ():Unit⊕Unit))
  (fun k _ F G=>F=[(0,Sl.av I 1 x),(3,I k)]∧G=[]) (fun _ q F G=>q= .ret∧F.get 2=I 2) (fun _ q F G=>q= .exit 0) (s:=())
  (F:=[(0,Sl.av I 1 x),(3,I 0)]) (H:=[]) ⟨rfl,rfl⟩ ?_ ?_
 .rw[zcy]at hL
  cases h:x.l.all isIt with
  |true=>rw[h]at hL;simp only[if_true]at hL⊢;exact hL
  |false=>rw[h]at hL;simp only[bFt,if_false]at hL⊢;exact hL
 .rintro k a ⟨⟩ F G hk ha ⟨rfl,rfl⟩
  have hka:x.l[k]=a:=(gEs.1 ha).2
  have hk':(k:Int)<x.l.length:=by omega
  have hw:=zh (k:=k) (by omega)
  have c1:=e140 a
  cases hp:isIt a with
  |true=>rw[hp]at c1;simp[zhc,ziT,hk,hk',hka,c1,hw]
  |false=>rw[hp]at c1;simp[zhc,ziT,hk,hk',hka,c1,hw]
 .rintro⟨⟩ F G ⟨rfl,rfl⟩
  simp[zhc,ziT]
def strI (l:List Int):Int:=if 200<l.length then 4 else if l.all isIt=false then 2 else 0
theorem e104 (x:Sl Int) (hx:x.l.length≤1048576):W.pure 104 [Sl.av I 1 x]=some (I (strI x.l)):=by
 rw[ze Φ104 rfl]
 unfold strI
 by_cases h:200<x.l.length
 .have h':(200:Int)<x.l.length:=by omega
  simp[zlK,c104,h,h']
 have h':¬(200:Int)<x.l.length:=by omega
 obtain⟨q,F,G,d1,d2⟩:=zc.1 (zsN x hx)
 rw[if_neg h]
 cases ha:x.l.all isIt with
 |true=>
  rw[ha]at d2
  simp only[if_true]at d2
  subst d2
  simp[zlK,c104,h',d1]
 |false=>
  rw[ha]at d2
  simp only[bFt,if_false]at d2
  obtain⟨rfl,d3⟩:=d2
  simp[zlK,c104,h',d1,d3]
def okNm (k:Int) (s:List UInt8):Bool:=decide (s=[120])||(decide (s=[121])&&decide (k=9))
theorem zmR {k:Int} (hk:etyp k≠0) (s:List UInt8):okNm k s=decide (s∈zdP k):=by
 unfold okNm zdP
 by_cases h9:k=9
 .simp[h9,xN,yN]
 .have:k=2∨k=3∨k=7:=by
   unfold etyp at hk;split at hk
   .omega
   .split at hk
    .omega
    .exact absurd rfl hk
  rw[if_neg h9,if_pos this]
  simp[h9,xN]
theorem zsM (x:Sg) (y:Sl (List UInt8)) (hy:y.l.length≤1000000):okC (W.loop [1,4,5] zkx [(1,.optr 0 0 0 0),(4,Sl.av AV.str 1 y),(5,I 0)] [.arr 0 8 false [x.av]])
  (fun q F G=>if y.l.all (okNm x.kind)=true then q= .exit 0∧F.keep [1]=[(1,.optr 0 0 0 0)]∧G=[.arr 0 8 false [x.av]] else q= .ret∧F.get 2=I 5):=by
 have hL:=zbZ (Φ:=Φ) (live:=[1,4,5]) (L:=zkx) y.l (fun _ a (_:Unit)=>if okNm x.kind a=true then .inl () else (.inr ():Unit⊕Unit))
  (fun k _ F G=>F=[(1,.optr 0 0 0 0),(4,Sl.av AV.str 1 y),(5,I k)]∧G=[.arr 0 8 false [x.av]]) (fun _ q F G=>q= .ret∧F.get 2=I 5) (fun _ q F G=>q= .exit 0∧F.keep [1]=[(1,.optr 0 0 0 0)]∧G=[.arr 0 8 false [x.av]]) (s:=())
  (F:=[(1,.optr 0 0 0 0),(4,Sl.av AV.str 1 y),(5,I 0)]) (H:=[.arr 0 8 false [x.av]]) ⟨rfl,rfl⟩ ?_ ?_
 .rw[zcy]at hL
  cases h:y.l.all (okNm x.kind) with
  |true=>rw[h]at hL;simp only[if_true]at hL⊢;exact hL
  |false=>rw[h]at hL;simp only[bFt,if_false]at hL⊢;exact hL
 .rintro k a ⟨⟩ F G hk ha ⟨rfl,rfl⟩
  have hka:y.l[k]=a:=(gEs.1 ha).2
  have hk':(k:Int)<y.l.length:=by omega
  have hw:=zh (k:=k) (by omega)
  by_cases h1:a=[120]
  .simp[zdC,zfG,hk,hk',hka,hw,okNm,h1,zF]
  .by_cases h2:a=[121]
   .by_cases h3:x.kind=9
    .simp[zdC,zfG,hk,hk',hka,hw,okNm,h2,h3,zF]
    .simp[zdC,zfG,hk,hk',hka,hw,okNm,h2,h3,zF]
   .simp[zdC,zfG,hk,hk',hka,hw,okNm,h1,h2,zF]
 .rintro⟨⟩ F G ⟨rfl,rfl⟩
  simp[zdC,zfG]
theorem e105 (x:Sg) (hk:etyp x.kind≠0):W.pure 105 [x.av]=some (I (ckE x.kind x.expr)):=by
 rw[ze Φ105 (by simp)]
 unfold ckE
 have c0:=e161 x.expr
 by_cases h:zB x.expr=0
 rotate_left
 .rw[if_pos h]
  simp[zir,c105,c0,h]
 rw[if_neg (by simp[h])]
 rw[h]at c0
 obtain⟨y,c1,c2,c3⟩:=e149 x.expr h
 obtain⟨q,F,G,d1,d2⟩:=zc.1 (zsM x y (by omega))
 have ha:y.l.all (okNm x.kind)=(zb2 x.expr).all fun s=>decide (s∈zdP x.kind):=by
  rw[Bool.eq_iff_iff,lAt,lAt]
  constructor
  .intro g s hs;rw[←zmR hk];exact g s ((c2 s).2 hs)
  .intro g s hs;rw[zmR hk];exact g s ((c2 s).1 hs)
 rw[ha]at d2
 cases hn:(zb2 x.expr).all fun s=>decide (s∈zdP x.kind) with
 |false=>
  rw[hn]at d2
  simp only[bFt,if_false]at d2
  obtain⟨rfl,d3⟩:=d2
  simp[zir,c105,c0,c1,d1,d3]
 |true=>
  rw[hn]at d2
  simp only[if_true]at d2
  obtain⟨rfl,d3,rfl⟩:=d2
  have c4:=e151 0 0
  have c5:=zyL 0 0 rfl rfl x.expr
  have c6:=e102 x.kind
  have e1:tyR (b2L 0 0).l x.expr=tyE (bnd2 0 0) x.expr:=by unfold tyR;rw[if_neg (by simp[h])];rfl
  rw[e1]at c5
  generalize tyE (bnd2 0 0) x.expr=p at c5⊢
  obtain⟨t,f⟩:=p
  simp only at c5
  by_cases hf:f=0
  .subst hf
   by_cases ht:t=etyp x.kind
   .subst ht
    simp[zir,c105,c0,c1,d1,d3,c4,c5,c6]
   .simp[zir,c105,c0,c1,d1,d3,c4,c5,c6,ht]
  .simp[zir,c105,c0,c1,d1,d3,c4,c5,c6,hf]
theorem zsn (x:Sg):sgI x=if x.kind<1∨10<x.kind then 8
 else if (zL x.kind=0∧x.size≠0)∨(etyp x.kind=0∧zaS x.expr=false)∨(x.kind≠1∧x.items.l≠[]) then 1
 else if x.size<zC x.kind∨zL x.kind<x.size then 2
 else if strI x.items.l≠0 then strI x.items.l else if etyp x.kind=0 then 0 else ckE x.kind x.expr:=by
 unfold sgI strI
 by_cases h1:200<x.items.l.length
 .simp[h1]
 .cases h2:x.items.l.all isIt with
  |true=>simp[h1, -List.all_eq_true]
  |false=>simp[h1, -List.all_eq_false]
theorem e61 (x:Sg) (hx:x.items.l.length≤1048576):W.pure 61 [x.av]=some (I (sgI x)):=by
 rw[ze Φ61 (by simp),zsn]
 have c1:=e101 x.kind 1 10
 by_cases hk:x.kind<1∨10<x.kind
 .rw[if_pos hk]
  have:(decide (1≤x.kind)&&decide (x.kind≤10))=false:=by
   rcases hk with h|h
   .simp;omega
   .simp;omega
  rw[this]at c1
  simp[fi61,c61,c1]
 rw[if_neg hk]
 have:(decide (1≤x.kind)&&decide (x.kind≤10))=true:=by simp;omega
 rw[this]at c1
 have c2:=e102 x.kind
 have c3:=e160 x.expr
 have c4:=e104 x.items hx
 have c5:=e105 x
 have c6:=e101 x.size 1 100
 have c7:=e101 x.size 0 100
 have c8:=e101 x.size 0 200
 generalize strI x.items.l=S at c4⊢
 have p5:(x.items.l=[]∧¬(0:Int)<x.items.l.length)∨(x.items.l≠[]∧(0:Int)<x.items.l.length):=by
  cases x.items.l with
  |nil=>simp
  |cons a r=>right;simp
 by_cases k4:x.kind=4
 .have hE:etyp x.kind=0:=by simp[etyp,k4]
  have hM:zL x.kind=100:=by simp[zL,k4]
  have hL:zC x.kind=1:=by simp[zC,k4]
  rw[hE,k4]at c2
  rw[k4]at c1
  rw[hE,hM,hL]
  cases hz:zaS x.expr with
  |false=>rw[hz]at c3;rcases p5 with⟨p5,p6⟩|⟨p5,p6⟩<;>simp[fi61,c61,c1,c2,c3,k4,p5,p6]
  |true=>
   rw[hz]at c3
   rcases p5 with⟨p5,p6⟩|⟨p5,p6⟩
   rotate_left
   .simp[fi61,c61,c1,c2,c3,k4,p5,p6]
   by_cases q1:x.size<1
   .simp[fi61,c61,c1,c2,c3,c6,k4,p5,p6,q1,show ¬1≤x.size by omega]
   by_cases q2:100<x.size
   .simp[fi61,c61,c1,c2,c3,c6,k4,p5,p6,q1,q2,show 1≤x.size by omega,show ¬x.size≤100 by omega]
   by_cases hS:S=0
   .simp[fi61,c61,c1,c2,c3,c4,c6,k4,p5,p6,q1,q2,show 1≤x.size by omega,show x.size≤100 by omega,hS]
   .simp[fi61,c61,c1,c2,c3,c4,c6,k4,p5,p6,q1,q2,show 1≤x.size by omega,show x.size≤100 by omega,hS]
 by_cases k5:x.kind=5
 .have hE:etyp x.kind=0:=by simp[etyp,k5]
  have hM:zL x.kind=100:=by simp[zL,k5]
  have hL:zC x.kind=0:=by simp[zC,k5]
  rw[hE,k5]at c2
  rw[k5]at c1
  rw[hE,hM,hL]
  cases hz:zaS x.expr with
  |false=>rw[hz]at c3;rcases p5 with⟨p5,p6⟩|⟨p5,p6⟩<;>simp[fi61,c61,c1,c2,c3,k5,p5,p6]
  |true=>
   rw[hz]at c3
   rcases p5 with⟨p5,p6⟩|⟨p5,p6⟩
   rotate_left
   .simp[fi61,c61,c1,c2,c3,k5,p5,p6]
   by_cases q1:x.size<0
   .simp[fi61,c61,c1,c2,c3,c7,k5,p5,p6,q1,show ¬0≤x.size by omega]
   by_cases q2:100<x.size
   .simp[fi61,c61,c1,c2,c3,c7,k5,p5,p6,q1,q2,show 0≤x.size by omega,show ¬x.size≤100 by omega]
   by_cases hS:S=0
   .simp[fi61,c61,c1,c2,c3,c4,c7,k5,p5,p6,q1,q2,show 0≤x.size by omega,show x.size≤100 by omega,hS]
   .simp[fi61,c61,c1,c2,c3,c4,c7,k5,p5,p6,q1,q2,show 0≤x.size by omega,show x.size≤100 by omega,hS]
 by_cases k6:x.kind=6
 .have hE:etyp x.kind=0:=by simp[etyp,k6]
  have hM:zL x.kind=200:=by simp[zL,k6]
  have hL:zC x.kind=0:=by simp[zC,k6]
  rw[hE,k6]at c2
  rw[k6]at c1
  rw[hE,hM,hL]
  cases hz:zaS x.expr with
  |false=>rw[hz]at c3;rcases p5 with⟨p5,p6⟩|⟨p5,p6⟩<;>simp[fi61,c61,c1,c2,c3,k6,p5,p6]
  |true=>
   rw[hz]at c3
   rcases p5 with⟨p5,p6⟩|⟨p5,p6⟩
   rotate_left
   .simp[fi61,c61,c1,c2,c3,k6,p5,p6]
   by_cases q1:x.size<0
   .simp[fi61,c61,c1,c2,c3,c8,k6,p5,p6,q1,show ¬0≤x.size by omega]
   by_cases q2:200<x.size
   .simp[fi61,c61,c1,c2,c3,c8,k6,p5,p6,q1,q2,show 0≤x.size by omega,show ¬x.size≤200 by omega]
   by_cases hS:S=0
   .simp[fi61,c61,c1,c2,c3,c4,c8,k6,p5,p6,q1,q2,show 0≤x.size by omega,show x.size≤200 by omega,hS]
   .simp[fi61,c61,c1,c2,c3,c4,c8,k6,p5,p6,q1,q2,show 0≤x.size by omega,show x.size≤200 by omega,hS]
 have hM:zL x.kind=0:=by simp[zL,k4,k5,k6]
 have hL:zC x.kind=0:=by simp[zC,k4]
 rw[hM,hL]
 generalize hE:etyp x.kind=E at c2 c5⊢
 by_cases q1:x.size=0
 rotate_left
 .simp[fi61,c61,c1,k4,k5,k6,q1]
 rcases p5 with⟨p5,p6⟩|⟨p5,p6⟩
 .by_cases hE0:E=0
  .cases hz:zaS x.expr with
   |false=>rw[hz]at c3;simp[fi61,c61,c1,c2,c3,k4,k5,k6,q1,p5,p6,hE0]
   |true=>rw[hz]at c3;by_cases hS:S=0<;>simp[fi61,c61,c1,c2,c3,c4,k4,k5,k6,q1,p5,p6,hE0,hS]
  .have c5:=c5 hE0
   by_cases hS:S=0<;>simp[fi61,c61,c1,c2,c4,c5,k4,k5,k6,q1,p5,p6,hE0,hS]
 .by_cases k1:x.kind=1
  .rw[k1]at c1 c2
   by_cases hE0:E=0
   .cases hz:zaS x.expr with
    |false=>rw[hz]at c3;simp[fi61,c61,c1,c2,c3,k1,q1,p5,p6,hE0]
    |true=>rw[hz]at c3;by_cases hS:S=0<;>simp[fi61,c61,c1,c2,c3,c4,k1,q1,p5,p6,hE0,hS]
   .exfalso;rw[k1]at hE;simp[etyp]at hE;exact hE0 hE.symm
  .simp[fi61,c61,c1,k1,k4,k5,k6,q1,p5,p6]
theorem e63 (x:Sg) (hx:x.items.l.length≤1048576):W.pure 63 [x.av]=some (I (outN x)):=by
 rw[ze Φ63 (by simp)]
 have c1:=e61 x hx
 unfold outN
 by_cases h:sgI x=0
 .rw[h]at c1
  rw[if_neg (by simp[h])]
  unfold outK
  by_cases h10:x.kind=10
  .simp[fi63,c63,c1,h10]
  by_cases h7:x.kind=7
  .simp[fi63,c63,c1,h10,h7]
  .simp[fi63,c63,c1,h10,h7]
 .simp[fi63,c63,c1,h]
theorem e64 (x:Sg) (hx:x.items.l.length≤1048576):W.pure 64 [x.av]=some (I (inN x)):=by
 rw[ze Φ64 (by simp)]
 have c1:=e61 x hx
 unfold inN
 by_cases h:sgI x=0
 .rw[h]at c1
  rw[if_neg (by simp[h])]
  unfold inK
  by_cases h1:x.kind=1
  .simp[fi64,c64,c1,h1]
  by_cases h8:x.kind=8
  .simp[fi64,c64,c1,h1,h8]
  by_cases h9:x.kind=9
  .simp[fi64,c64,c1,h1,h8,h9]
  .simp[fi64,c64,c1,h1,h8,h9]
 .simp[fi64,c64,c1,h]
theorem zjh (x:Sg):outN x≤2:=by unfold outN;split;omega;exact zdU _
theorem e144 (x:Sg) (s:Ss) (hs:SlN s.held) (hl:s.held.l.length≤1000000) (i:Int) (h9:x.kind=9→(i=0∨i=1)∧0≤s.count∧s.count≤3):W.pure 144 [x.av,s.av,I i]=some (.bool (za2 x s.pl i)):=by
 rw[ze Φ144 (by simp)]
 unfold za2
 by_cases k8:x.kind=8
 .have c1:=zt2 s.held hl i
  simp[zlH,c144,k8,c1,Ss.pl]
  exact decide_eq_decide.2 Iff.rfl
 by_cases k9:x.kind=9
 .obtain⟨hi,h1,h2⟩:=h9 k9
  have hc:s.count=0∨s.count=1∨s.count=2∨s.count=3:=by omega
  rcases hi with rfl|rfl<;>rcases hc with hc|hc|hc|hc<;>simp[zlH,c144,k9,hc,Ss.pl,shrI,zkZ]<;>decide
 .simp[zlH,c144,k8,k9,Ss.pl]
theorem e173 (x:Sg) (hg:sgI x=0):W.pure 173 [x.av]=some (.tuple [I (zN x),I (zX x)]):=by
 rw[ze Φ173 (by simp)]
 unfold zN zX
 by_cases k1:x.kind=1
 .simp[zgU,c173,k1]
 by_cases k6:x.kind=6
 .simp[zgU,c173,k1,k6]
 by_cases k8:x.kind=8
 .simp[zgU,c173,k1,k6,k8]
 by_cases k9:x.kind=9
 .simp[zgU,c173,k1,k6,k8,k9]
 by_cases k4:x.kind=4
 .have:=zbq hg
  have hM:zL x.kind=100:=by simp[zL,k4]
  have hL:zC x.kind=1:=by simp[zC,k4]
  have w:IntKind.wrap .i64 (x.size - 1)=x.size - 1:=zz (by omega) (by omega)
  simp[zgU,c173,k1,k6,k8,k9,k4,w]
 .simp[zgU,c173,k1,k6,k8,k9,k4]
theorem zud (n:Int) (H:Heap):W.call (.clo 174 [] []) [I n] H=some (.bool (!isIt n),H):=by
 rw[zj Φ174]
 have c1:=e116 n
 simp[zqF,c174,c1]
theorem t143 (H:Heap) (s:Ss) (hl:s.held.l.length≤2) (h1:H[1]?=some (.arr 0 3 false [s.av])):okC (W.loop [3,49,50,51] zni [(3,.optr 1 0 0 0),(49,Sl.av I 1 s.held),(50,I s.held.l.length),(51,I 0)] H)
  (fun q F H'=>if zag s.held.l=true then q= .exit 1∧F.keep [3]=[(3,.optr 1 0 0 0)]∧H'=H else q= .ret∧F.get 4= .bool false):=by
 have w1:IntKind.wrap .i64 1=1:=zz (by omega) (by omega)
 have w2:IntKind.wrap .i64 2=2:=zz (by omega) (by omega)
 have w0:IntKind.wrap .i64 0=0:=zz (by omega) (by omega)
 match hh:s.held.l,hl with
 | [],_=>
  rw[zb]
  simp[zaE,zby,hh,zag]
 | [a],_=>
  rw[zb]
  by_cases a1:a<0
  .simp[zaE,zby,hh,zag,a1]
   omega
  by_cases a2:1<a
  .simp[zaE,zby,hh,zag,a1,a2]
   omega
  have a3:a=0∨a=1:=by omega
  simp[zaE,zby,hh,zag,a1,a2,a3,w1]
  rw[zb]
  simp[zaE,zby,hh]
 | [a,b],_=>
  rw[zb]
  by_cases a1:a<0
  .simp[zaE,zby,hh,zag,a1]
   omega
  by_cases a2:1<a
  .simp[zaE,zby,hh,zag,a1,a2]
   omega
  simp[zaE,zby,hh,zag,a1,a2,w1]
  rw[zb]
  by_cases b1:b<0
  .simp[zaE,zby,hh,b1]
   omega
  by_cases b2:1<b
  .simp[zaE,zby,hh,b1,b2]
   omega
  by_cases b3:b≤a
  .simp[zaE,zby,hh,h1,b1,b2,b3,w0]
   omega
  .have e1:a=0:=by omega
   have e2:b=1:=by omega
   simp[zaE,zby,hh,h1,b1,b2,b3,w0,w2,e1,e2]
   rw[zb]
   simp[zaE,zby,hh]
theorem zeY {x:Sg} {s:SS} (h:¬(0≤s.count∧s.count≤zN x∧(s.held.length:Int)≤zX x)):ssB x s=false:=by
 unfold ssB;rw[decide_eq_false h];rfl
theorem zi1 {x:Sg} {s:SS} (h:s.held.all isIt=false):ssB x s=false:=by
 unfold ssB;rw[h,Bool.and_false];rfl
theorem zdM {x:Sg} {s:SS} (h:0≤s.count∧s.count≤zN x∧(s.held.length:Int)≤zX x) (ha:s.held.all isIt=true):ssB x s=(if x.kind=4 then !s.ended||s.held.isEmpty
 else if x.kind=8 then zag s.held&&(s.ended==decide (s.held.length=2))
 else if x.kind=9 then (s.ended==decide (s.count=3))&&(decide (s.count<2)||s.held.isEmpty)
 else true):=by
 unfold ssB;rw[decide_eq_true h,ha];rfl
theorem zkl {x:Sg} (hg:sgI x=0):0≤zX x:=by
 unfold zX
 have:=zbq hg
 split
 .omega
 .split
  .omega
  .split
   .rename_i k4
    have hL:zC x.kind=1:=by simp[zC,k4]
    omega
   .omega
theorem e143 (x:Sg) (hg:sgI x=0) (s:Ss) (hs:SlN s.held):W.pure 143 [x.av,s.av]=some (.bool (ssB x s.pl)):=by
 rw[ze Φ143 (by simp)]
 have c1:=e173 x hg
 have hl2:=hs.2
 by_cases h1:s.count<0
 .rw[zeY (s:=s.pl) (by simp only[Ss.pl];omega)]
  simp[zdx,c143,c1,h1]
 by_cases h2:zN x<s.count
 .rw[zeY (s:=s.pl) (by simp only[Ss.pl];omega)]
  simp[zdx,c143,c1,h1,h2]
 by_cases h3:zX x<s.held.l.length
 .rw[zeY (s:=s.pl) (by simp only[Ss.pl];omega)]
  simp[zdx,c143,c1,h1,h2,h3]
 obtain⟨v,H',d1,rfl,d2⟩:=zu.1 (zrh s.held (by omega) (.clo 174 [] []) rfl (fun a=> !isIt a) [.arr 0 8 false [x.av],.arr 0 3 false [s.av]] (fun a _ H _=>by rw[zud];exact⟨rfl,Kept.refl _ _⟩))
 rw[zho]at d1
 have g0:H'[0]?=some (.arr 0 8 false [x.av]):=d2.get (by simp) rfl
 have g1:H'[1]?=some (.arr 0 3 false [s.av]):=d2.get (by simp) rfl
 cases ha:s.held.l.all isIt with
 |false=>
  rw[zi1 (s:=s.pl) ha]
  rw[ha]at d1
  simp[zdx,c143,c1,h1,h2,h3,d1]
 |true=>
  rw[ha]at d1
  rw[zdM (s:=s.pl) (by simp only[Ss.pl];omega) ha]
  simp only[Ss.pl]
  have hm0:=zkl hg
  have hm1:¬zX x<0:=by omega
  have p5:(s.held.l=[]∧((s.held.l.length:Int)=0)=True)∨(s.held.l≠[]∧((s.held.l.length:Int)=0)=False):=by
   cases s.held.l with
   |nil=>simp
   |cons a r=>right;simp;omega
  by_cases k4:x.kind=4
  .cases he:s.ended<;>rcases p5 with⟨p5,p6⟩|⟨p5,p6⟩<;>simp[zdx,c143,c1,h1,h2,h3,d1,g0,g1,k4,he,p5,p6,hm0,hm1]
  by_cases k8:x.kind=8
  .have hm:zX x=2:=by simp[zX,k8]
   obtain⟨q,F,G,f1,f2⟩:=zc.1 (t143 H' s (by omega) g1)
   cases hb:zag s.held.l with
   |false=>
    rw[hb]at f2
    simp only[bFt,if_false]at f2
    obtain⟨rfl,f3⟩:=f2
    simp[zdx,c143,c1,h1,h2,h3,d1,g0,g1,k4,k8,f1,f3]
   |true=>
    rw[hb]at f2
    simp only[if_true]at f2
    obtain⟨rfl,f3,rfl⟩:=f2
    by_cases h2l:s.held.l.length=2
    .have h2l':=eq_true (show ((s.held.l.length:Int)=2) by omega)
     simp[zdx,c143,c1,h1,h2,h3,d1,g0,g1,k4,k8,f1,f3,eq_true h2l,h2l']
    .have h2l':¬((s.held.l.length:Int)=2):=by omega
     simp[zdx,c143,c1,h1,h2,h3,d1,g0,g1,k4,k8,f1,f3,h2l,h2l']
  by_cases k9:x.kind=9
  .by_cases q1:s.count=3
   .have q2:¬s.count<2:=by omega
    rcases p5 with⟨p5,p6⟩|⟨p5,p6⟩<;>simp[zdx,c143,c1,h1,h2,h3,d1,g0,g1,k4,k8,k9,eq_true q1,q2,p5,p6,hm0,hm1]
   .by_cases q2:s.count<2<;>rcases p5 with⟨p5,p6⟩|⟨p5,p6⟩<;>simp[zdx,c143,c1,h1,h2,h3,d1,g0,g1,k4,k8,k9,q1,q2,p5,p6,hm0,hm1]
  .simp[zdx,c143,c1,h1,h2,h3,d1,g0,g1,k4,k8,k9]
theorem e95 (x:Sg) (hx:x.items.l.length≤1048576) (s:Ss) (hs:SlN s.held):∃y:Sl Int,W.pure 95 [x.av,s.av]=some (.tuple [Sl.av I 1 y,I (zan x s.pl)])∧y.l=(if zan x s.pl=0 then zet x s.pl else [])∧SlN y:=by
 have c1:=e72 x hx
 unfold zan
 by_cases hg:sgI x=0
 rotate_left
 .rw[if_pos hg]
  refine⟨zaM,?_,by rw[if_neg hg],zE⟩
  rw[ze Φ95 (by simp)]
  simp[fi95,c95,c1,hg]
  rfl
 rw[if_neg (by simp[hg])]
 rw[hg]at c1
 have c2:=e143 x hg s hs
 cases hb:ssB x s.pl with
 |false=>
  rw[hb]at c2
  refine⟨zaM,?_,by simp,zE⟩
  rw[ze Φ95 (by simp)]
  simp[fi95,c95,c1,c2]
  rfl
 |true=>
  rw[hb]at c2
  obtain⟨f1,f2,f3,f4⟩:=zQ hb
  simp only[if_true]
  have hl2:s.held.l.length≤1000000:=by
   have h3:(s.held.l.length:Int)≤zX x:=f3
   have:=zbq hg
   have hM:zX x≤100:=by
    unfold zX
    split
    .omega
    .split
     .omega
     .split
      .rename_i k4
       have hL:zL x.kind=100:=by simp[zL,k4]
       omega
      .omega
   omega
  have one:∀n:Int,SlN (ofL 1 [n]):=fun n=>zat (by simp)
  unfold zet za8
  simp only[show s.pl.ended=s.ended from rfl,show s.pl.held=s.held.l from rfl,show s.pl.count=s.count from rfl]
  by_cases h0:s.ended=true∨x.kind=1
  .refine⟨zaM,?_,by rw[if_pos h0],zE⟩
   rw[ze Φ95 (by simp)]
   rcases h0 with h0|h0<;>simp[fi95,c95,c1,c2,h0]<;>rfl
  rw[if_neg h0]
  have h0a:s.ended=false:=by cases h:s.ended with|false=>rfl|true=>exact absurd (.inl h) h0
  have k1:¬x.kind=1:=fun h=>h0 (.inr h)
  by_cases k8:x.kind=8
  .rw[if_pos k8]
   have hm:zN x=1:=by simp[zN,k8]
   have c3:=e144 x s hs hl2 s.count (fun h=>by omega)
   have hin:za2 x s.pl s.count=decide (s.count∈s.held.l):=by simp[za2,k8,Ss.pl];exact decide_eq_decide.2 Iff.rfl
   rw[hin]at c3
   have w:IntKind.wrap .i64 (1 - s.count)=1 - s.count:=by
    have g1:0≤s.count:=f1
    have g2:s.count≤zN x:=f2
    exact zz (by omega) (by omega)
   by_cases hc:s.count∈s.held.l
   .refine⟨ofL 1 [1 - s.count],?_,by simp[Ss.pl,hc,ofL],one _⟩
    rw[ze Φ95 (by simp)]
    simp only[hc,decide_true]at c3
    simp[fi95,c95,c1,c2,h0a,k1,k8,c3,w]
    rfl
   .refine⟨ofL 1 [s.count],?_,by simp[Ss.pl,hc,ofL],one _⟩
    rw[ze Φ95 (by simp)]
    simp only[hc,decide_false]at c3
    simp[fi95,c95,c1,c2,h0a,k1,k8,c3]
    rfl
  rw[if_neg k8]
  by_cases k9:x.kind=9
  .have hm:zN x=3:=by simp[zN,k9]
   have c3:=e144 x s hs hl2 0 (fun h=>⟨.inl rfl,f1,by have g2:s.count≤zN x:=f2;omega⟩)
   have p5:(s.held.l=[]∧¬0<s.held.l.length)∨(s.held.l≠[]∧0<s.held.l.length):=by
    cases s.held.l with
    |nil=>simp
    |cons a r=>right;simp
   by_cases hq:za2 x s.pl 0=true∨s.held.l≠[]
   .refine⟨ofL 1 [1],?_,by rw[if_pos ⟨k9,hq⟩],one _⟩
    rw[ze Φ95 (by simp)]
    cases hi:za2 x s.pl 0 with
    |true=>rw[hi]at c3;simp[fi95,c95,c1,c2,h0a,k1,k8,k9,c3];rfl
    |false=>
     rw[hi]at hq c3
     rcases p5 with⟨p5,p6⟩|⟨p5,p6⟩
     .exact absurd p5 (by simpa using hq)
     .simp[fi95,c95,c1,c2,h0a,k1,k8,k9,c3,p6];rfl
   .refine⟨ofL 1 [0],?_,by rw[if_neg (fun h=>hq h.2)],one _⟩
    rw[ze Φ95 (by simp)]
    have hi:za2 x s.pl 0=false:=by cases hi:za2 x s.pl 0 with|false=>rfl|true=>exact absurd (.inl hi) hq
    rw[hi]at c3
    rcases p5 with⟨p5,p6⟩|⟨p5,p6⟩
    .simp[fi95,c95,c1,c2,h0a,k1,k8,k9,c3,p6];rfl
    .exact absurd (.inr p5) hq
  .refine⟨ofL 1 [0],?_,by rw[if_neg (fun h=>k9 h.1)],one _⟩
   rw[ze Φ95 (by simp)]
   simp[fi95,c95,c1,c2,h0a,k1,k8,k9]
   rfl
theorem zfs {α:Type} (p:α→Bool):∀(l:List α) (k:Nat),zev (fun _ a (_:Unit)=>if p a=true then (.inr ():Unit⊕Unit) else .inl ()) k l ()=if l.any p=true then .inr () else .inl ()
 | [],k=>rfl
 |a::r,k=>by
  simp only[zev,List.any_cons]
  by_cases h:p a=true
  .simp[h]
  .simpa[h]using zfs p r (k+1)
theorem zgq (l:List Int) (i:Int):l.any (fun a=>decide (a=i))=decide (i∈l):=by
 induction l with
 |nil=>rfl
 |cons a r ih=>
  rw[List.any_cons,ih,←Bool.decide_or]
  exact decide_eq_decide.2 (by rw[lMc,eq_comm])
theorem zsO (x:Sg) (s:Ss) (hs:SlN s.held) (i:Int):okC (W.loop [2,4,7] zkz [(2,I i),(4,.optr 1 0 0 0),(7,I 0)] [.arr 0 8 false [x.av],.arr 0 3 false [s.av]])
  (fun q F G=>if decide (i∈s.held.l)=true then q= .ret∧F.get 6= .bool true else q= .exit 0):=by
 have hL:=zbZ (Φ:=Φ) (live:=[2,4,7]) (L:=zkz) s.held.l (fun _ a (_:Unit)=>if decide (a=i)=true then (.inr ():Unit⊕Unit) else .inl ())
  (fun k _ F G=>F=[(2,I i),(4,.optr 1 0 0 0),(7,I k)]∧G=[.arr 0 8 false [x.av],.arr 0 3 false [s.av]]) (fun _ q F G=>q= .ret∧F.get 6= .bool true) (fun _ q F G=>q= .exit 0) (s:=())
  (F:=[(2,I i),(4,.optr 1 0 0 0),(7,I 0)]) (H:=[.arr 0 8 false [x.av],.arr 0 3 false [s.av]]) ⟨rfl,rfl⟩ ?_ ?_
 .rw[zfs,zgq]at hL
  cases h:decide (i∈s.held.l) with
  |true=>rw[h]at hL;simp only[if_true]at hL⊢;exact hL
  |false=>rw[h]at hL;simp only[bFt,if_false]at hL⊢;exact hL
 .rintro k a ⟨⟩ F G hk ha ⟨rfl,rfl⟩
  have hka:s.held.l[k]=a:=(gEs.1 ha).2
  have hk':(k:Int)<s.held.l.length:=by omega
  have hw:=zh (k:=k) (by have:=hs.2;omega)
  by_cases h:a=i
  .subst h;simp[zhd,ziU,hk,hk',hka]
  .simp[zhd,ziU,hk,hk',hka,h,hw]
 .rintro⟨⟩ F G ⟨rfl,rfl⟩
  simp[zhd,ziU]
theorem e100 (x:Sg) (s:Ss) (hs:SlN s.held) (i:Int) (hi: -1000≤i∧i≤1000) (hk:x.kind=8∨x.kind=9):W.pure 100 [x.av,s.av,I i]=some (.bool (za2 x s.pl i)):=by
 rw[ze Φ100 (by simp)]
 unfold za2
 rcases hk with k8|k9
 .obtain⟨q,F,G,d1,d2⟩:=zc.1 (zsO x s hs i)
  rw[if_pos k8]
  have e:decide (i∈s.pl.held)=decide (i∈s.held.l):=decide_eq_decide.2 Iff.rfl
  rw[e]
  cases h:decide (i∈s.held.l) with
  |true=>
   rw[h]at d2
   simp only[if_true]at d2
   obtain⟨rfl,d3⟩:=d2
   simp[zlL,c100,k8,d1,d3]
  |false=>
   rw[h]at d2
   simp only[bFt,if_false]at d2
   subst d2
   simp[zlL,c100,k8,d1]
 .have w:IntKind.wrap .i64 (i+1)=i+1:=zz (by omega) (by omega)
  simp[zlL,c100,k9,w,Ss.pl]
  exact (Bool.decide_or _ _).symm
theorem zwb (x:Sg) (s:Ss) (hs:SlN s.held) (k8:x.kind≠8):okC (W.loop [2,3,7] zh8 [(2,.optr 0 0 0 0),(3,.optr 1 0 0 0),(7,I 0)] [.arr 0 8 false [x.av],.arr 0 3 false [s.av]])
  (fun q F G=>if s.held.l.all isIt=true then q= .exit 1∧F.keep [2,3]=[(2,.optr 0 0 0 0),(3,.optr 1 0 0 0)]∧G=[.arr 0 8 false [x.av],.arr 0 3 false [s.av]] else q= .ret∧F.get 4= .bool false):=by
 have hL:=zbZ (Φ:=Φ) (live:=[2,3,7]) (L:=zh8) s.held.l (fun _ a (_:Unit)=>if isIt a=true then .inl () else (.inr ():Unit⊕Unit))
  (fun k _ F G=>F=[(2,.optr 0 0 0 0),(3,.optr 1 0 0 0),(7,I k)]∧G=[.arr 0 8 false [x.av],.arr 0 3 false [s.av]]) (fun _ q F G=>q= .ret∧F.get 4= .bool false) (fun _ q F G=>q= .exit 1∧F.keep [2,3]=[(2,.optr 0 0 0 0),(3,.optr 1 0 0 0)]∧G=[.arr 0 8 false [x.av],.arr 0 3 false [s.av]]) (s:=())
  (F:=[(2,.optr 0 0 0 0),(3,.optr 1 0 0 0),(7,I 0)]) (H:=[.arr 0 8 false [x.av],.arr 0 3 false [s.av]]) ⟨rfl,rfl⟩ ?_ ?_
 .rw[zcy]at hL
  cases h:s.held.l.all isIt with
  |true=>rw[h]at hL;simp only[if_true]at hL⊢;exact hL
  |false=>rw[h]at hL;simp only[bFt,if_false]at hL⊢;exact hL
 .rintro k a ⟨⟩ F G hk ha ⟨rfl,rfl⟩
  have hka:s.held.l[k]=a:=(gEs.1 ha).2
  have hk':(k:Int)<s.held.l.length:=by omega
  have hw:=zh (k:=k) (by have:=hs.2;omega)
  have c1:=e140 a
  cases hp:isIt a with
  |true=>rw[hp]at c1;simp[zW,zaJ,hk,hk',hka,c1,hw,k8]
  |false=>rw[hp]at c1;simp[zW,zaJ,hk,hk',hka,c1,hw]
 .rintro⟨⟩ F G ⟨rfl,rfl⟩
  simp[zW,zaJ]
theorem zgN {l:List Int} (h:zag l=true):l.all isIt=true:=by
 match l,h with
 | [],_=>rfl
 | [a],h=>simp[zag]at h;rcases h with rfl|rfl<;>rfl
 | [a,b],h=>simp[zag]at h;obtain⟨rfl,rfl⟩:=h;rfl
theorem zwc (x:Sg) (s:Ss) (hl:s.held.l.length≤2) (k8:x.kind=8):okC (W.loop [2,3,7] zh8 [(2,.optr 0 0 0 0),(3,.optr 1 0 0 0),(7,I 0)] [.arr 0 8 false [x.av],.arr 0 3 false [s.av]])
  (fun q F G=>if zag s.held.l=true then q= .exit 1∧F.keep [2,3]=[(2,.optr 0 0 0 0),(3,.optr 1 0 0 0)]∧G=[.arr 0 8 false [x.av],.arr 0 3 false [s.av]] else q= .ret∧F.get 4= .bool false):=by
 have w1:IntKind.wrap .i64 1=1:=zz (by omega) (by omega)
 have w2:IntKind.wrap .i64 2=2:=zz (by omega) (by omega)
 have w0:IntKind.wrap .i64 0=0:=zz (by omega) (by omega)
 match hh:s.held.l,hl with
 | [],_=>
  rw[zb]
  simp[zW,zaJ,hh,zag]
 | [a],_=>
  have c1:=e140 a
  have c2:=e101 a 0 1
  rw[zb]
  cases hp:isIt a with
  |false=>
   rw[hp]at c1
   have:zag [a]=false:=by cases hm:zag [a]with|false=>rfl|true=>have:=zgN hm;simp[hp]at this
   rw[this]
   simp[zW,zaJ,hh,c1]
  |true=>
   rw[hp]at c1
   by_cases a1:0≤a
   .by_cases a2:a≤1
    .have a3:a=0∨a=1:=by omega
     simp only[a1,a2,decide_true,Bool.and_self]at c2
     simp[zW,zaJ,hh,c1,c2,k8,zag,a3,w1]
     rw[zb]
     simp[zW,zaJ,hh]
    .simp only[a1,a2,decide_true,decide_false,Bool.and_false]at c2
     simp[zW,zaJ,hh,c1,c2,k8,zag]
     omega
   .simp only[a1,decide_false,Bool.false_and]at c2
    simp[zW,zaJ,hh,c1,c2,k8,zag]
    omega
 | [a,b],_=>
  have c1:=e140 a
  have c2:=e101 a 0 1
  have c3:=e140 b
  have c4:=e101 b 0 1
  have hmn:∀{p:Bool},(isIt a=false∨isIt b=false)→zag [a,b]=false:=fun h=>by
   cases hm:zag [a,b] with
   |false=>rfl
   |true=>have:=zgN hm;simp at this;rcases h with h|h<;>rw[h]at this<;>simp at this
  rw[zb]
  cases hp:isIt a with
  |false=>
   rw[hp]at c1
   rw[hmn (p:=true) (.inl hp)]
   simp[zW,zaJ,hh,c1]
  |true=>
   rw[hp]at c1
   by_cases a1:0≤a
   rotate_left
   .simp only[a1,decide_false,Bool.false_and]at c2
    simp[zW,zaJ,hh,c1,c2,k8,zag]
    omega
   by_cases a2:a≤1
   rotate_left
   .simp only[a1,a2,decide_true,decide_false,Bool.and_false]at c2
    simp[zW,zaJ,hh,c1,c2,k8,zag]
    omega
   simp only[a1,a2,decide_true,Bool.and_self]at c2
   simp[zW,zaJ,hh,c1,c2,k8,w1]
   rw[zb]
   cases hq:isIt b with
   |false=>
    rw[hq]at c3
    rw[hmn (p:=true) (.inr hq)]
    simp[zW,zaJ,hh,c3]
   |true=>
    rw[hq]at c3
    by_cases b1:0≤b
    rotate_left
    .simp only[b1,decide_false,Bool.false_and]at c4
     simp[zW,zaJ,hh,c3,c4,k8,zag]
     omega
    by_cases b2:b≤1
    rotate_left
    .simp only[b1,b2,decide_true,decide_false,Bool.and_false]at c4
     simp[zW,zaJ,hh,c3,c4,k8,zag]
     omega
    simp only[b1,b2,decide_true,Bool.and_self]at c4
    by_cases b3:b≤a
    .simp[zW,zaJ,hh,c3,c4,k8,zag,w0,b3]
     omega
    .have e1:a=0:=by omega
     have e2:b=1:=by omega
     subst e1;subst e2
     simp[zW,zaJ,hh,c3,c4,k8,zag,w0,w2]
     rw[zb]
     simp[zW,zaJ,hh]
theorem ztw (x:Sg) (hg:sgI x=0) (s:Ss):evC W (cutC 3 c147) [(0,x.av),(1,s.av)] []=some (.normal,[(2,.optr 0 0 0 0),(3,.optr 1 0 0 0),(5,I (zN x)),(6,I (zX x))],[.arr 0 8 false [x.av],.arr 0 3 false [s.av]]):=by
 unfold zN zX
 by_cases k1:x.kind=1
 .simp[zbE,c147,cutC,k1]
 by_cases k6:x.kind=6
 .simp[zbE,c147,cutC,k1,k6]
 by_cases k4:x.kind=4
 .have:=zbq hg
  have hM:zL x.kind=100:=by simp[zL,k4]
  have hL:zC x.kind=1:=by simp[zC,k4]
  have w:IntKind.wrap .i64 (x.size - 1)=x.size - 1:=zz (by omega) (by omega)
  simp[zbE,c147,cutC,k1,k6,k4,w]
 by_cases k8:x.kind=8
 .simp[zbE,c147,cutC,k1,k6,k4,k8]
 by_cases k9:x.kind=9
 .simp[zbE,c147,cutC,k1,k6,k4,k8,k9]
 .simp[zbE,c147,cutC,k1,k6,k4,k8,k9]
theorem zsg (x:Sg) (hg:sgI x=0) (s:Ss) (hs:SlN s.held):okC (evC W (zG 3 c147) [(2,.optr 0 0 0 0),(3,.optr 1 0 0 0),(5,I (zN x)),(6,I (zX x))] [.arr 0 8 false [x.av],.arr 0 3 false [s.av]])
  (fun q F H=>q= .ret∧F.get 4= .bool (ssB x s.pl)):=by
 have c1:=e101 s.count 0 (zN x)
 by_cases h0:0≤s.count∧s.count≤zN x
 rotate_left
 .rw[zeY (s:=s.pl) (fun h=>h0 ⟨h.1,h.2.1⟩)]
  have:(decide (0≤s.count)&&decide (s.count≤zN x))=false:=by simp;omega
  rw[this]at c1
  simp[zbE,c147,zG,c1]
 have:(decide (0≤s.count)&&decide (s.count≤zN x))=true:=by simp;omega
 rw[this]at c1
 by_cases h3:zX x<s.held.l.length
 .rw[zeY (s:=s.pl) (by simp only[Ss.pl];omega)]
  simp[zbE,c147,zG,c1,h3]
 have hm0:=zkl hg
 have hm1:¬zX x<0:=by omega
 have p5:(s.held.l=[]∧((s.held.l.length:Int)=0)=True)∨(s.held.l≠[]∧((s.held.l.length:Int)=0)=False):=by
  cases s.held.l with
  |nil=>simp
  |cons a r=>right;simp;omega
 by_cases k8:x.kind=8
 .have hm:zX x=2:=by simp[zX,k8]
  obtain⟨q,F,G,f1,f2⟩:=zc.1 (zwc x s (by omega) k8)
  have hB:ssB x s.pl=(zag s.held.l&&(s.ended==decide (s.held.l.length=2))):=by
   cases ha:s.held.l.all isIt with
   |true=>rw[zdM (s:=s.pl) (by simp only[Ss.pl];omega) ha,if_neg (by omega),if_pos k8];rfl
   |false=>
    rw[zi1 (s:=s.pl) ha]
    cases hb:zag s.held.l with
    |false=>rfl
    |true=>rw[zgN hb]at ha;cases ha
  rw[hB]
  cases hb:zag s.held.l with
  |false=>
   rw[hb]at f2
   simp only[bFt,if_false]at f2
   obtain⟨rfl,f3⟩:=f2
   simp[zbE,c147,zG,c1,h3,f1,f3]
  |true=>
   rw[hb]at f2
   simp only[if_true]at f2
   obtain⟨rfl,f3,rfl⟩:=f2
   by_cases h2l:s.held.l.length=2
   .have h2l':=eq_true (show ((s.held.l.length:Int)=2) by omega)
    simp[zbE,c147,zG,c1,h3,f1,f3,k8,eq_true h2l,h2l']
   .have h2l':¬((s.held.l.length:Int)=2):=by omega
    simp[zbE,c147,zG,c1,h3,f1,f3,k8,h2l,h2l']
 obtain⟨q,F,G,f1,f2⟩:=zc.1 (zwb x s hs k8)
 cases ha:s.held.l.all isIt with
 |false=>
  rw[ha]at f2
  simp only[bFt,if_false]at f2
  obtain⟨rfl,f3⟩:=f2
  rw[zi1 (s:=s.pl) ha]
  simp[zbE,c147,zG,c1,h3,f1,f3]
 |true=>
  rw[ha]at f2
  simp only[if_true]at f2
  obtain⟨rfl,f3,rfl⟩:=f2
  rw[zdM (s:=s.pl) (by simp only[Ss.pl];omega) ha]
  simp only[Ss.pl]
  by_cases k4:x.kind=4
  .cases he:s.ended<;>rcases p5 with⟨p5,p6⟩|⟨p5,p6⟩<;>simp[zbE,c147,zG,c1,h3,f1,f3,k4,he,p5,p6,hm0,hm1]
  by_cases k9:x.kind=9
  .by_cases q1:s.count=3
   .have q2:¬s.count<2:=by omega
    rcases p5 with⟨p5,p6⟩|⟨p5,p6⟩<;>simp[zbE,c147,zG,c1,h3,f1,f3,k4,k8,k9,eq_true q1,q2,p5,p6,hm0,hm1]
   .by_cases q2:s.count<2<;>rcases p5 with⟨p5,p6⟩|⟨p5,p6⟩<;>simp[zbE,c147,zG,c1,h3,f1,f3,k4,k8,k9,q1,q2,p5,p6,hm0,hm1]
  .simp[zbE,c147,zG,c1,h3,f1,f3,k4,k8,k9]
theorem zyM (x:Sg) (hg:sgI x=0) (s:Ss) (hs:SlN s.held):W.pure 147 [x.av,s.av]=some (.bool (ssB x s.pl)):=by
 rw[ze Φ147 (by simp)]
 have e:zaN W zbE [x.av,s.av] []=(evC W c147 [(0,x.av),(1,s.av)] []).bind fun p=>match p.1 with
  | .exit _=>none
  |_=>(resV p.2.1 p.2.2 zbE.res).map fun v=>(v,p.2.2):=rfl
 rw[e,zel W 3 c147 _ _ _ _ (ztw x hg s)]
 obtain⟨q,F,H,d1,rfl,d2⟩:=zc.1 (zsg x hg s hs)
 rw[d1]
 simp[zbE,resV,rvVs,rvV,d2]
theorem e99 (x:Sg) (hx:x.items.l.length≤1048576) (s:Ss) (hs:SlN s.held):W.pure 99 [x.av,s.av]=some (I (zan x s.pl)):=by
 rw[ze Φ99 (by simp)]
 have c1:=e61 x hx
 unfold zan
 by_cases hg:sgI x=0
 .rw[hg]at c1
  have c2:=zyM x hg s hs
  cases hb:ssB x s.pl with
  |false=>rw[hb]at c2;simp[fi99,c99,c1,c2,hg]
  |true=>rw[hb]at c2;simp[fi99,c99,c1,c2,hg]
 .simp[fi99,c99,c1,hg]
theorem e55 (x:Sg) (hx:x.items.l.length≤1048576) (s:Ss) (hs:SlN s.held):∃y:Sl Int,W.pure 55 [x.av,s.av]=some (.tuple [Sl.av I 1 y,I (zan x s.pl)])∧y.l=(if zan x s.pl=0 then zet x s.pl else [])∧SlN y:=by
 have c1:=e99 x hx s hs
 have nil:SlN (ofL 1 ([]:List Int)):=zat (by simp)
 have one:∀n:Int,SlN (ofL 1 [n]):=fun n=>zat (by simp)
 by_cases hn:zan x s.pl=0
 rotate_left
 .refine⟨ofL 1 [],?_,by rw[if_neg hn],nil⟩
  rw[ze Φ55 (by simp)]
  simp[fi55,c55,c1,hn]
  rfl
 rw[hn]at c1
 rw[hn,if_pos rfl]
 obtain⟨hg,hb⟩:=zx.1 hn
 obtain⟨f1,f2,f3,f4⟩:=zQ hb
 unfold zet za8
 simp only[show s.pl.ended=s.ended from rfl,show s.pl.held=s.held.l from rfl,show s.pl.count=s.count from rfl]at *
 by_cases h0:s.ended=true∨x.kind=1
 .refine⟨ofL 1 [],?_,by rw[if_pos h0],nil⟩
  rw[ze Φ55 (by simp)]
  rcases h0 with h0|h0<;>simp[fi55,c55,c1,h0]<;>rfl
 rw[if_neg h0]
 have h0a:s.ended=false:=by cases h:s.ended with|false=>rfl|true=>exact absurd (.inl h) h0
 have k1:¬x.kind=1:=fun h=>h0 (.inr h)
 by_cases k8:x.kind=8
 .rw[if_pos k8]
  have hm:zN x=1:=by simp[zN,k8]
  have c3:=e100 x s hs s.count (by omega) (.inl k8)
  have hin:za2 x s.pl s.count=decide (s.count∈s.held.l):=by simp[za2,k8,Ss.pl];exact decide_eq_decide.2 Iff.rfl
  rw[hin]at c3
  have w:IntKind.wrap .i64 (1 - s.count)=1 - s.count:=zz (by omega) (by omega)
  by_cases hc:s.count∈s.held.l
  .refine⟨ofL 1 [1 - s.count],?_,by simp[hc,ofL],one _⟩
   rw[ze Φ55 (by simp)]
   simp only[hc,decide_true]at c3
   simp[fi55,c55,c1,h0a,k1,k8,c3,w]
   rfl
  .refine⟨ofL 1 [s.count],?_,by simp[hc,ofL],one _⟩
   rw[ze Φ55 (by simp)]
   simp only[hc,decide_false]at c3
   simp[fi55,c55,c1,h0a,k1,k8,c3]
   rfl
 rw[if_neg k8]
 by_cases k9:x.kind=9
 .have c3:=e100 x s hs 0 (by omega) (.inr k9)
  have p5:(s.held.l=[]∧¬0<s.held.l.length)∨(s.held.l≠[]∧0<s.held.l.length):=by
   cases s.held.l with
   |nil=>simp
   |cons a r=>right;simp
  by_cases hq:za2 x s.pl 0=true∨s.held.l≠[]
  .refine⟨ofL 1 [1],?_,by rw[if_pos ⟨k9,hq⟩],one _⟩
   rw[ze Φ55 (by simp)]
   cases hi:za2 x s.pl 0 with
   |true=>rw[hi]at c3;simp[fi55,c55,c1,h0a,k1,k8,k9,c3];rfl
   |false=>
    rw[hi]at hq c3
    rcases p5 with⟨p5,p6⟩|⟨p5,p6⟩
    .exact absurd p5 (by simpa using hq)
    .simp[fi55,c55,c1,h0a,k1,k8,k9,c3,p6];rfl
  .refine⟨ofL 1 [0],?_,by rw[if_neg (fun h=>hq h.2)],one _⟩
   rw[ze Φ55 (by simp)]
   have hi:za2 x s.pl 0=false:=by cases hi:za2 x s.pl 0 with|false=>rfl|true=>exact absurd (.inl hi) hq
   rw[hi]at c3
   rcases p5 with⟨p5,p6⟩|⟨p5,p6⟩
   .simp[fi55,c55,c1,h0a,k1,k8,k9,c3,p6];rfl
   .exact absurd (.inr p5) hq
 .refine⟨ofL 1 [0],?_,by rw[if_neg (fun h=>k9 h.1)],one _⟩
  rw[ze Φ55 (by simp)]
  simp[fi55,c55,c1,h0a,k1,k8,k9]
  rfl
def rnA (x:Sg) (hv:AV) (c:Int) (e:Bool) (ob n:Nat) (err:Int):AV:= .agg [I x.kind,I x.size,I x.expr.kind,I x.expr.op,.str x.expr.name,I x.expr.value,Sl.av Ex.av 5 x.expr.args,Sl.av I 1 x.items,hv,I c,.bool e,.osl ob 0 0 n,I err,I 0]
section
variable {x:Sg} {hv v:AV} {c c':Int} {e e':Bool} {ob n:Nat} {err err':Int}
@[simp] theorem rn_0:zg false 1 (rnA x hv c e ob n err).cells=I x.kind:=rfl
@[simp] theorem rn_1:zg false 1 (rnA x hv c e ob n err).cells.tail=I x.size:=rfl
@[simp] theorem rn_2:zg true 5 ((rnA x hv c e ob n err).cells.drop 2)=x.expr.av:=by rw[Ex.av_eq];rfl
@[simp] theorem rn_7:zg false 1 ((rnA x hv c e ob n err).cells.drop 7)=Sl.av I 1 x.items:=rfl
@[simp] theorem rn_8:zg false 1 ((rnA x hv c e ob n err).cells.drop 8)=hv:=rfl
@[simp] theorem rn_9:zg false 1 ((rnA x hv c e ob n err).cells.drop 9)=I c:=rfl
@[simp] theorem rn_10:zg false 1 ((rnA x hv c e ob n err).cells.drop 10)= .bool e:=rfl
@[simp] theorem rn_11:zg false 1 ((rnA x hv c e ob n err).cells.drop 11)= .osl ob 0 0 n:=rfl
@[simp] theorem rn_12:zg false 1 ((rnA x hv c e ob n err).cells.drop 12)=I err:=rfl
@[simp] theorem rn_st:zg true 3 ((rnA x hv c e ob n err).cells.drop 8)= .agg [hv,I c,.bool e]:=rfl
@[simp] theorem rn_s9:zd [rnA x hv c e ob n err] 0 9 (I c')=some [rnA x hv c' e ob n err]:=rfl
@[simp] theorem rn_s10:zd [rnA x hv c e ob n err] 0 10 (.bool e')=some [rnA x hv c e' ob n err]:=rfl
@[simp] theorem rn_s12:zd [rnA x hv c e ob n err] 0 12 (I err')=some [rnA x hv c e ob n err']:=rfl
theorem zuG (h:v.cells=[v]):zd [rnA x hv c e ob n err] 0 8 v=some [rnA x v c e ob n err]:=by
 simp only[zd,rnA,gEz]
 rw[h];rfl
@[simp] theorem rn_s8n (b:Option Bool) (z:Nat) (l:List AV):zd [rnA x hv c e ob n err] 0 8 (.isl b z l)=some [rnA x (.isl b z l) c e ob n err]:=zuG rfl
@[simp] theorem rn_s8o (i j k m:Nat):zd [rnA x hv c e ob n err] 0 8 (.osl i j k m)=some [rnA x (.osl i j k m) c e ob n err]:=zuG rfl
end
def zai (H:Heap) (ho:Option Nat) (hv:AV) (l:List Int):Prop:=
 match ho with
 |none=>∃y:Sl Int,hv=Sl.av I 1 y∧y.l=l∧SlN y
 |some id=>∃ver,hv= .osl id ver 0 l.length∧H[id]?=some (.arr ver 1 false (l.map I))∧l≠[]∧l.length≤1048576
def Keep (b:Nat) (H H':Heap):Prop:=H.length≤H'.length∧∀j,j<b→H'[j]?=H[j]?
theorem Keep.refl (b:Nat) (H:Heap):Keep b H H:=⟨Nat.le_refl _,fun _ _=>rfl⟩
theorem Keep.trans {b:Nat} {A B C:Heap} (h:Keep b A B) (h':Keep b B C):Keep b A C:=⟨Nat.le_trans h.1 h'.1,fun j hj=>by rw[h'.2 j hj,h.2 j hj]⟩
theorem zai.okO {H:Heap} {ho:Option Nat} {hv:AV} {l:List Int} (h:zai H ho hv l):okO hv=some hv:=by
 cases ho with
 |none=>obtain⟨y,rfl,_⟩:=h;rfl
 |some id=>obtain⟨ver,rfl,_⟩:=h;rfl
theorem zai.cells {H:Heap} {ho:Option Nat} {hv:AV} {l:List Int} (h:zai H ho hv l):hv.cells=[hv]:=by
 cases ho with
 |none=>obtain⟨y,rfl,_⟩:=h;rfl
 |some id=>obtain⟨ver,rfl,_⟩:=h;rfl
theorem zai.cell {H:Heap} {ho:Option Nat} {hv:AV} {l:List Int} (h:zai H ho hv l):hv.cell=true:=by
 cases ho with
 |none=>obtain⟨y,rfl,_⟩:=h;rfl
 |some id=>obtain⟨ver,rfl,_⟩:=h;rfl
theorem zai.len {H:Heap} {ho:Option Nat} {hv:AV} {l:List Int} (h:zai H ho hv l):lenV false hv=I l.length:=by
 cases ho with
 |none=>obtain⟨y,rfl,rfl,_⟩:=h;exact zuD
 |some id=>obtain⟨ver,rfl,_⟩:=h;rfl
theorem zai.bound {H:Heap} {ho:Option Nat} {hv:AV} {l:List Int} (h:zai H ho hv l):l.length≤1048576:=by
 cases ho with
 |none=>obtain⟨y,rfl,rfl,h⟩:=h;exact h.2
 |some id=>obtain⟨ver,rfl,_,_,h⟩:=h;exact h
theorem zai.elems {H:Heap} {ho:Option Nat} {hv:AV} {l:List Int} (h:zai H ho hv l):zax H 1 hv=some (l.map I):=by
 cases ho with
 |none=>obtain⟨y,rfl,rfl,_⟩:=h;exact zj0
 |some id=>obtain⟨ver,rfl,h,_⟩:=h;simp[zax,h];exact List.take_of_length_le (by simp)
theorem zai.kept {H H':Heap} {ho p:Option Nat} {hv:AV} {l:List Int} (h:zai H ho hv l) (hk:Kept p H H') (hd:∀id,p=some id→ho≠some id):zai H' ho hv l:=by
 cases ho with
 |none=>exact h
 |some id=>
  obtain⟨ver,h1,h2,h3⟩:=h
  exact⟨ver,h1,hk.get (fun e=>hd id e rfl) h2,h3⟩
theorem zai.lt {H:Heap} {id:Nat} {hv:AV} {l:List Int} (h:zai H (some id) hv l):id<H.length:=by
 obtain⟨ver,_,h2,_⟩:=h;exact (gEs.1 h2).1
theorem zai.at {H:Heap} {ho:Option Nat} {hv:AV} {l:List Int} (h:zai H ho hv l) {k:Nat} {a:Int} (ha:l[k]?=some a):
  ∃p,zdr H 1 hv (I k)=p∧Go.Proofs.YtbddckhdbnmamaaGreat.okO p=some p∧zcv H false 1 p=I a:=by
 have hk:=(gEs.1 ha).1
 cases ho with
 |none=>
  obtain⟨y,rfl,rfl,_⟩:=h
  refine⟨.eptr (I a).cells,?_,rfl,rfl⟩
  rw[zsm,if_pos (by omega),iTn,ha]
 |some id=>
  obtain⟨ver,rfl,h,_⟩:=h
  refine⟨.optr id ver k 0,?_,rfl,?_⟩
  .simp[h,hk]
  .have:l[k]=a:=(gEs.1 ha).2
   simp[h,this,hk]
structure RnD (b:Nat) (H:Heap) (r ob:Nat) (x:Sg) (t:SS) (err:Int) (outs:List (List Int)) (hv:AV) (ho:Option Nat) (vs:List AV) (os:Nat→Option Nat):Prop where
 rb:H[r]?=some (.arr 0 14 false [rnA x hv t.count t.ended ob outs.length err])
 obk:H[ob]?=some (.arr 0 1 false vs)
 ne:r≠ob
 hl:zai H ho hv t.held
 h1:ho≠some r
 h2:ho≠some ob
 len:vs.length=outs.length
 gr:∀(i:Nat) (l:List Int),outs[i]?=some l→∃v,vs[i]?=some v∧Grow H 1 (os i) v (l.map I)
 o1:∀i,os i≠some r∧os i≠some ob
 o2:∀i id,os i=some id→ho≠some id
 o3:∀i j id,i≠j→os i=some id→os j≠some id
 o4:∀i id,os i=some id→id<H.length
 br:b≤r
 bo:b≤ob
 bh:∀id,ho=some id→b≤id
 bs:∀i id,os i=some id→b≤id
section
variable {b:Nat} {H H':Heap} {r ob:Nat} {x:Sg} {t:SS} {err:Int} {outs:List (List Int)} {hv:AV} {ho:Option Nat} {vs:List AV} {os:Nat→Option Nat}
theorem RnD.kept (h:RnD b H r ob x t err outs hv ho vs os) (hk:Kept none H H'):RnD b H' r ob x t err outs hv ho vs os:=
 ⟨hk.get (by simp) h.rb,hk.get (by simp) h.obk,h.ne,h.hl.kept hk (by simp),h.h1,h.h2,h.len,
  fun i l hi=>by obtain⟨v,h1,h2⟩:=h.gr i l hi;exact⟨v,h1,h2.kept hk (by simp)⟩,h.o1,h.o2,h.o3,fun i id hi=>by have:=h.o4 i id hi;have:=hk.1;omega,h.br,h.bo,h.bh,h.bs⟩
theorem RnD.rlt (h:RnD b H r ob x t err outs hv ho vs os):r<H.length:=(gEs.1 h.rb).1
theorem RnD.olt (h:RnD b H r ob x t err outs hv ho vs os):ob<H.length:=(gEs.1 h.obk).1
theorem RnD.blen (h:RnD b H r ob x t err outs hv ho vs os):b≤H.length:=by have:=h.br;have:=h.rlt;omega
theorem RnD.setR (h:RnD b H r ob x t err outs hv ho vs os) {t':SS} {err':Int} (ht:t'.held=t.held):RnD b (H.set r (.arr 0 14 false [rnA x hv t'.count t'.ended ob outs.length err'])) r ob x t' err' outs hv ho vs os:=by
 have hk:Kept (some r) H (H.set r (.arr 0 14 false [rnA x hv t'.count t'.ended ob outs.length err'])):=Kept.set _ _ _
 refine⟨gEt h.rlt,hk.get (by simp;exact h.ne) h.obk,h.ne,?_,h.h1,h.h2,h.len,fun i l hi=>?_,h.o1,h.o2,h.o3,fun i id hi=>by have:=h.o4 i id hi;simpa using this,h.br,h.bo,h.bh,h.bs⟩
 .rw[ht];exact h.hl.kept hk (fun id e=>by cases e;exact h.h1)
 .obtain⟨v,h1,h2⟩:=h.gr i l hi
  exact⟨v,h1,h2.kept hk (fun id e=>by cases e;exact (h.o1 i).1)⟩
theorem zI (h:RnD b H r ob x t err outs hv ho vs os) (B:Blk):Keep b H (H.set r B):=⟨by simp,fun j hj=>by rw[gEn (by have:=h.br;omega)]⟩
theorem RnD.setH (h:RnD b H r ob x t err outs hv ho vs os) {t':SS} {hv':AV} {ho':Option Nat} (hl:zai H ho' hv' t'.held) (g1:ho'≠some r) (g2:ho'≠some ob) (g3:∀i id,os i=some id→ho'≠some id) (g4:∀id,ho'=some id→b≤id) {err':Int}:
  RnD b (H.set r (.arr 0 14 false [rnA x hv' t'.count t'.ended ob outs.length err'])) r ob x t' err' outs hv' ho' vs os:=by
 have hk:Kept (some r) H (H.set r (.arr 0 14 false [rnA x hv' t'.count t'.ended ob outs.length err'])):=Kept.set _ _ _
 refine⟨gEt h.rlt,hk.get (by simp;exact h.ne) h.obk,h.ne,?_,g1,g2,h.len,fun i l hi=>?_,h.o1,g3,h.o3,fun i id hi=>by have:=h.o4 i id hi;simpa using this,h.br,h.bo,g4,h.bs⟩
 .exact hl.kept hk (fun id e=>by cases e;exact g1)
 .obtain⟨v,h1,h2⟩:=h.gr i l hi
  exact⟨v,h1,h2.kept hk (fun id e=>by cases e;exact (h.o1 i).1)⟩
theorem zgR:zai H none (.isl (some true) 0 []) []:=⟨zaM,rfl,rfl,zE⟩
theorem zrg {H:Heap} {sz off:Nat} {o:Option Nat} {v:AV} {l:List AV} (h:Grow H sz o v l) (hn:o≠some r):apart v (.optr r 0 0 off)=true:=by
 cases o with
 |none=>rw[h.1];rfl
 |some id=>
  obtain⟨ver,t,h1,h2⟩:=h
  rw[h1]
  have:id≠r:=fun e=>hn (by rw[e])
  simp[apart,this]
theorem zea {es:List AV} {k:Nat} {w v:AV} (hk:es[k]?=some w) (hw:w.cell=true) (h:v.cells=[v]) (hc:v.cell=true):zd es k 0 v=some (es.set k v):=by
 simp only[zd,hk]
 cases w<;>first|(simp[h,hc];done)|(cases hw)
theorem zbO (h:RnD b H r ob x t 0 outs hv ho vs os) {o:Nat} {l:List Int} (hl:outs[o]?=some l) (hb:l.length≤1048576) (n:Int):okV (W.call (.clo 161 [] []) [.optr r 0 0 0,I o,I n] H)
  (fun v H'=>v= .tuple []∧Keep b H H'∧∃vs' os',RnD b H' r ob x t 0 (outs.set o (l++[n])) hv ho vs' os'):=by
 obtain⟨v,hv1,hg⟩:=h.gr o l hl
 have hol:o<outs.length:=(gEs.1 hl).1
 have hov:o<vs.length:=by rw[h.len];exact hol
 have hvo:vs[o]=v:=(gEs.1 hv1).2
 obtain⟨o',v',H',a1,a2,a3,a4,a5⟩:=hg.app (y:= .isl (some false) 1 [I n]) (xs:=[I n]) (by simp) (by simp) (by simp[zay];omega)
 have g1:H'[ob]?=some (.arr 0 1 false vs):=a3.get (h.o1 o).2 h.obk
 have g2:H'[r]?=some (.arr 0 14 false [rnA x hv t.count t.ended ob outs.length 0]):=a3.get (h.o1 o).1 h.rb
 have ap:=zrg (off:=11) hg (h.o1 o).1
 have hse:=zea hv1 hg.cell a2.cells a2.cell
 rw[zj Φ161]
 simp[znO,c161,h.rb,h.obk,hol,hov,hvo,hg.okO,hg.cells,ap,a1,a2.okO,a2.cells,a2.cell,g1,hse]
 have hobl:=(gEs.1 g1).1
 have hk:Kept (some ob) H' (H'.set ob (.arr 0 1 false (vs.set o v'))):=Kept.set _ _ _
 have ho'1:o'≠some r:=by rcases a4 with rfl|⟨_,rfl,_⟩;exact (h.o1 o).1;intro e;have:=h.rlt;cases e;omega
 have ho'2:o'≠some ob:=by rcases a4 with rfl|⟨_,rfl,_⟩;exact (h.o1 o).2;intro e;have:=h.olt;cases e;omega
 refine⟨⟨by simp;exact a3.1,fun j hj=>?_⟩,vs.set o v',fun i=>if i=o then o' else os i,?_⟩
 .rw[gEn (by have:=h.bo;omega),a3.2 j (fun e=>by have:=h.bs o j e;omega) (by have:=h.blen;omega)]
 .refine⟨hk.get (by simp;exact Ne.symm h.ne) (by rw[List.length_set];exact g2),gEt hobl,h.ne,?_,h.h1,h.h2,by simp[h.len],fun i m hi=>?_,fun i=>?_,fun i id hi=>?_,fun i j id hij hi=>?_,fun i id hi=>?_,h.br,h.bo,h.bh,fun i id hi=>?_⟩
  .exact (h.hl.kept a3 (fun id e=>fun e'=>h.o2 o id e e')).kept hk (fun id e=>by cases e;exact h.h2)
  .by_cases hio:i=o
   .subst hio
    rw[gEt hol]at hi
    cases hi
    refine⟨v',gEt hov,?_⟩
    simp only[if_true,List.map_append,List.map_cons,List.map_nil]
    exact a2.kept hk (fun id e=>by cases e;exact ho'2)
   .rw[gEn (fun e=>hio e.symm)]at hi
    obtain⟨w,w1,w2⟩:=h.gr i m hi
    refine⟨w,by rw[gEn (fun e=>hio e.symm)];exact w1,?_⟩
    rw[if_neg hio]
    exact (w2.kept a3 (fun id e=>fun e'=>h.o3 o i id (fun e2=>hio e2.symm) e e')).kept hk (fun id e=>by cases e;exact (h.o1 i).2)
  .split
   .exact⟨ho'1,ho'2⟩
   .exact h.o1 i
  .try simp only at hi
   split at hi
   .rcases a4 with rfl|⟨_,rfl,_⟩
    .exact h.o2 o id hi
    .cases hi
     intro e
     cases ho with
     |none=>cases e
     |some q=>have:=h.hl.lt;cases e;omega
   .exact h.o2 i id hi
  .try simp only at hi⊢
   have new:o'=some id→∀q,q≠o→os q≠some id:=by
    intro e q hq e2
    rcases a4 with rfl|⟨_,rfl,_⟩
    .exact h.o3 o q id (fun e3=>hq e3.symm) e e2
    .cases e;have:=h.o4 q _ e2;omega
   by_cases hio:i=o
   .rw[if_pos hio]at hi
    rw[if_neg (fun e=>hij (by rw[hio,e]))]
    exact new hi j (fun e=>hij (by rw[hio,e]))
   .rw[if_neg hio]at hi
    by_cases hjo:j=o
    .rw[if_pos hjo]
     intro e
     exact new e i hio hi
    .rw[if_neg hjo]
     exact h.o3 i j id hij hi
  .try simp only at hi
   rw[List.length_set]
   split at hi
   .exact a5 id hi
   .have:=h.o4 i id hi;have:=a3.1;omega
  .try simp only at hi
   split at hi
   .rcases a4 with rfl|⟨_,rfl,_⟩
    .exact h.bs o id hi
    .cases hi;exact h.blen
   .exact h.bs i id hi
end
theorem zi3 {x:Sg} (h:sgI x=0) (hk:etyp x.kind≠0):zB x.expr=0∧(∀m∈zb2 x.expr,m∈zdP x.kind)∧tyE (bnd2 0 0) x.expr=(etyp x.kind,0):=by
 unfold sgI at h
 repeat' (split at h)
 all_goals first|(exfalso;omega)|skip
 all_goals try (rename_i hh;exact absurd hh hk)
 unfold ckE at h
 split at h
 .rename_i h1;exact absurd h h1
 .rename_i h1
  split at h
  .cases h
  .rename_i h2
   split at h
   .rename_i h3
    refine⟨by omega,fun m hm=>?_,h3⟩
    have h2:(zb2 x.expr).all (fun s=>decide (s∈zdP x.kind))=true:=by
     cases hb:(zb2 x.expr).all (fun s=>decide (s∈zdP x.kind)) with
     |true=>rfl
     |false=>exact absurd hb h2
    simpa using lAt.1 h2 m hm
   .cases h
theorem zlA (a b:Int) (n:List UInt8):(zaD (bnd2 a b) n).map (·.type)=(zaD (bnd2 0 0) n).map (·.type):=by
 unfold zaD bnd2
 by_cases h1:xN=n
 .simp[h1]
 .by_cases h2:yN=n
  .simp[h1,h2]
  .simp[h1,h2]
theorem zjW (a b:Int):∀e:Ex,tyE (bnd2 a b) e=tyE (bnd2 0 0) e:=by
 refine Ex.ind (fun e ih=>?_)
 rw[zcj,zcj,zdJ fun a' ha=>ih a' ha]
 cases tyEs (bnd2 0 0) e.args.l with
 |inl f=>rfl
 |inr ts=>
  have hf:=zlA a b e.name
  simp only[zaT]
  cases h1:zaD (bnd2 a b) e.name with
  |none=>
   rw[h1]at hf
   cases h2:zaD (bnd2 0 0) e.name with
   |none=>rfl
   |some c=>rw[h2]at hf;simp at hf
  |some c=>
   rw[h1]at hf
   cases h2:zaD (bnd2 0 0) e.name with
   |none=>rw[h2]at hf;simp at hf
   |some d=>rw[h2]at hf;simp at hf;simp only[hf]
theorem zvv {x:Sg} (h:sgI x=0) (hk:etyp x.kind≠0) (a b:Int):evR (b2L a b).l x.expr=evX x a b:=by
 obtain⟨h1,h2,h3⟩:=zi3 h hk
 unfold evR tyR
 rw[if_neg (show ¬zB x.expr≠0 by simp[h1])]
 have:tyE (b2L a b).l x.expr=(etyp x.kind,0):=by rw[←h3];exact zjW a b x.expr
 rw[this]
 simp only[ne_eq,not_true,if_false]
 rfl
theorem zpf {x:Sg} (h:sgI x=0) (hk:x.kind=2∨x.kind=3∨x.kind=7):∀y∈x.expr.parts,y.kind=2→y.name=xN:=by
 have he:etyp x.kind≠0:=by rcases hk with hk|hk|hk<;>simp[etyp,hk]
 obtain⟨h1,h2,h3⟩:=zi3 h he
 intro y hy hy2
 have:=h2 y.name ((zfw x.expr _).2 ⟨y,hy,hy2,rfl⟩)
 have hn:zdP x.kind=[xN]:=by unfold zdP;rw[if_neg (by omega),if_pos hk]
 rw[hn]at this
 simpa using this
theorem zyE {x:Sg} (h:sgI x=0) (hk:x.kind=2∨x.kind=3∨x.kind=7) (a:Int):evR (b1L a).l x.expr=evX x a 0:=by
 have he:etyp x.kind≠0:=by rcases hk with hk|hk|hk<;>simp[etyp,hk]
 have hx:=zpf h hk
 rw[←zvv h he]
 unfold evR tyR
 rw[zus a 0 _ hx,zv1 a 0 _ hx]
theorem zyD {x:Sg} (h:sgI x=0) (hk:x.kind=3∨x.kind=7) (a:Int) (h0:(evX x a 0).2=0):(evX x a 0).1=0∨(evX x a 0).1=1:=by
 have he:etyp x.kind=2:=by rcases hk with hk|hk<;>simp[etyp,hk]
 obtain⟨h1,h2,h3⟩:=zi3 h (by omega)
 have ht:=zjW a 0 x.expr
 rw[h3,he]at ht
 exact zyP (bnd2 a 0) (by simp[bnd2]) x.expr (.of h1) (by rw[ht]) (by rw[ht]) h0
def snd9 (x:Sg) (q:Int):Int:=if x.kind=9 then q else 0
theorem zyQ (x:Sg) (hg:sgI x=0) (hk:x.kind=2∨x.kind=3∨x.kind=7∨x.kind=9) (p q:Int) (hp:isIt p=true) (hq:isIt q=true):
  ∃l:Sl Bnd,W.pure 168 [Sl.av AV.str 1 (nmK x.kind),.isl (some false) 1 [I p,I q]]=some (bL l)∧W.pure 208 [x.expr.av,bL l]=some (.tuple [I (evX x p (snd9 x q)).1,I (evX x p (snd9 x q)).2]):=by
 by_cases k9:x.kind=9
 .have he:etyp x.kind≠0:=by simp[etyp,k9]
  refine⟨b2L p q,?_,?_⟩
  .have:nmK x.kind=ofL 1 [xN,yN]:=by simp[nmK,k9]
   rw[this];exact zr3 p q
  .have:=e208 (b2L p q) (by simp[b2L,ofL]) (zr2 p q hp hq) (by intro c hc;simp[b2L,ofL]at hc;rcases hc with rfl|rfl;exact hp;exact hq) x.expr
   rw[zvv hg he]at this
   simp only[snd9,k9,if_true]
   exact this
 .have hk:x.kind=2∨x.kind=3∨x.kind=7:=by omega
  refine⟨b1L p,?_,?_⟩
  .have:nmK x.kind=ofL 1 [xN]:=by simp[nmK,k9,hk]
   rw[this];exact zkT p q
  .have:=e208 (b1L p) (by simp[b1L,ofL]) (zkS p hp) (by intro c hc;simp[b1L,ofL]at hc;subst hc;exact hp) x.expr
   rw[zyE hg hk]at this
   simp only[snd9,k9,if_false]
   exact this
@[simp] theorem hd_ld5 (k:Int):zg false 1 ((hdK k).cells.drop 5)=Sl.av AV.str 1 (nmK k):=rfl
theorem Keep.of {b:Nat} {H H':Heap} (h:Kept none H H') (hb:b≤H.length):Keep b H H':=⟨h.1,fun j hj=>h.2 j (by simp) (by omega)⟩
section
variable {b:Nat} {H H':Heap} {r ob:Nat} {x:Sg} {t:SS} {err:Int} {outs:List (List Int)} {hv:AV} {ho:Option Nat} {vs:List AV} {os:Nat→Option Nat}
theorem zhj (h:RnD b H r ob x t 0 outs hv ho vs os) (hg:sgI x=0) (hk:x.kind=2∨x.kind=3∨x.kind=7∨x.kind=9) (p q:Int) (hp:isIt p=true) (hq:isIt q=true):
  okV (W.call (.clo 162 [] []) [.optr r 0 0 0,I p,I q] H) (fun v H'=>v=I (evX x p (snd9 x q)).1∧Keep b H H'∧RnD b H' r ob x t (evX x p (snd9 x q)).2 outs hv ho vs os):=by
 obtain⟨l,c1,c2⟩:=zyQ x hg hk p q hp hq
 have c3:=e112 x.kind (by omega)
 have hk1:Kept none H (H++[.arr 0 8 false [hdK x.kind]]):=Kept.append _ _ _
 have h1:=h.kept hk1
 have hr:=h.rlt
 rw[zj Φ162]
 have g0:∀B,(H++[B])[r]?=some (.arr 0 14 false [rnA x hv t.count t.ended ob outs.length 0]):=fun B=>(h.kept (Kept.append _ _ _)).rb
 simp[zqL,c162,h.rb,c1,c2,c3,g0]
 exact⟨(Keep.of hk1 h.blen).trans (zI h1 _),h1.setR (t':=t) rfl⟩
theorem zdG (h:RnD b H r ob x t err outs hv ho vs os) (he:err≠0) (o n:Int):W.call (.clo 161 [] []) [.optr r 0 0 0,I o,I n] H=some (.tuple [],H):=by
 rw[zj Φ161]
 simp[znO,c161,h.rb,he]
def RnS (b:Nat) (H:Heap) (r ob:Nat) (x:Sg) (t:SS) (err:Int) (outs:List (List Int)):Prop:=∃hv ho vs os,RnD b H r ob x t err outs hv ho vs os
def Did (b:Nat) (H H':Heap) (r ob:Nat) (x:Sg) (m:SS×List (List Int)×Int) (outs:List (List Int)):Prop:=
 Keep b H H'∧∃t' outs',RnS b H' r ob x t' m.2.2 outs'∧outs'.length=outs.length∧(m.2.2=0→t'=m.1∧outs'=zipA outs m.2.1)
end
theorem zgu {x:Sg} {t:SS} {i n:Int} (h:zbW x t i n=0):sgI x=0∧ssB x t=true∧t.ended=false∧isIt n=true∧(x.kind=1→i= -1∧t.count≠x.items.l.length)∧(x.kind≠1→za8 x t=i):=by
 unfold zbW at h
 split at h
 .rename_i h1;exact absurd h h1
 .rename_i h1
  obtain⟨g1,g2⟩:=zx.1 (show zan x t=0 by omega)
  split at h
  .cases h
  .rename_i h2
   split at h
   .cases h
   .rename_i h3
    refine⟨g1,g2,?_,?_,fun k1=>?_,fun k1=>?_⟩
    .cases he:t.ended with|false=>rfl|true=>exact absurd (.inl he) h2
    .cases he:isIt n with|true=>rfl|false=>exact absurd (.inl he) h3
    .exact⟨cBc fun hi=>h2 (.inr (.inl ⟨k1,.inl hi⟩)),fun hc=>h2 (.inr (.inl ⟨k1,.inr hc⟩))⟩
    .exact cBc fun hi=>h2 (.inr (.inr ⟨k1,hi⟩))
theorem zfh {x:Sg} (h7:x.kind≠7) (h10:x.kind≠10):outK x.kind=1:=by simp[outK,h7,h10]
theorem len1 {α:Type} {l:List α} (h:l.length=1):∃a,l=[a]:=by
 match l,h with
 | [a],_=>exact⟨a,rfl⟩
theorem len2 {α:Type} {l:List α} (h:l.length=2):∃a b,l=[a,b]:=by
 match l,h with
 | [a,b],_=>exact⟨a,b,rfl⟩
section
variable {b:Nat} {H H':Heap} {r ob:Nat} {x:Sg} {t:SS} {err:Int} {outs:List (List Int)} {hv:AV} {ho:Option Nat} {vs:List AV} {os:Nat→Option Nat}
theorem zwa (h:RnD b H r ob x t 0 outs hv ho vs os) (hl:outs.length=outK x.kind) (hb:∀l∈outs,l.length≤1000000) {i n:Int} (he:zbW x t i n=0) (k1:x.kind=1):
  okV (W.call (.clo 194 [] []) [.optr r 0 0 0,I i,I n] H) (fun v H'=>Did b H H' r ob x (zr x t i n) outs):=by
 obtain⟨g1,g2,g3,g4,g5,g6⟩:=zgu he
 obtain⟨f1,f2,f3,f4⟩:=zQ g2
 have hm:zN x=x.items.l.length:=by simp[zN,k1]
 have hne:=(g5 k1).2
 have hit:=(zj2 g1).1
 rw[zfh (by omega) (by omega)]at hl
 obtain⟨l,rfl⟩:=len1 hl
 have hlt:t.count.toNat<x.items.l.length:=by omega
 have ha:=gEg hlt
 obtain⟨v,H',d1,rfl,d2,vs',os',d3⟩:=zu.1 (zbO h (o:=0) rfl (by have:=hb l (by simp);omega) x.items.l[t.count.toNat])
 have w:IntKind.wrap .i64 (t.count+1)=t.count+1:=zz (by omega) (by omega)
 have hmv:zr x t i n=({t with count:=t.count+1},[[x.items.l[t.count.toNat]]],0):=by simp[zr,k1,gEd,ha]
 rw[hmv,zj Φ194]
 simp at d1
 simp[zqA,c194,h.rb,f1,hlt,d1,d3.rb,w]
 have d4:=d3.setR (t':={t with count:=t.count+1}) (err':=0) rfl
 exact⟨d2.trans (zI d3 _),_,_,⟨_,_,_,_,d4⟩,rfl,fun _=>⟨rfl,rfl⟩⟩
theorem zv9 (h:RnD b H r ob x t 0 outs hv ho vs os) (hl:outs.length=outK x.kind) (hb:∀l∈outs,l.length≤1000000) {i n:Int} (hg:sgI x=0) (hn:isIt n=true) (k2:x.kind=2):
  okV (W.call (.clo 195 [] []) [.optr r 0 0 0,I i,I n] H) (fun v H'=>Did b H H' r ob x (zr x t i n) outs):=by
 rw[zfh (by omega) (by omega)]at hl
 obtain⟨l,rfl⟩:=len1 hl
 obtain⟨v,H1,c1,rfl,c2,c3⟩:=zu.1 (zhj h hg (.inl k2) n 0 hn rfl)
 have e9:snd9 x 0=0:=by unfold snd9;split<;>rfl
 rw[e9]at c1 c3
 have hmv:zr x t i n=if (evX x n 0).2≠0 then (ssZ,[],(evX x n 0).2) else (t,[[(evX x n 0).1]],0):=by simp[zr,k2]
 rw[hmv,zj Φ195]
 by_cases hf:(evX x n 0).2=0
 .rw[if_neg (by simp[hf])]
  rw[hf]at c3
  obtain⟨v,H',d1,rfl,d2,vs',os',d3⟩:=zu.1 (zbO c3 (o:=0) rfl (by have:=hb l (by simp);omega) (evX x n 0).1)
  simp at d1
  simp[znL,c195,c1,d1]
  exact⟨c2.trans d2,_,_,⟨_,_,_,_,d3⟩,rfl,fun _=>⟨rfl,rfl⟩⟩
 .rw[if_pos hf]
  have d1:=zdG c3 hf 0 (evX x n 0).1
  simp[znL,c195,c1,d1]
  exact⟨c2,_,_,⟨_,_,_,_,c3⟩,rfl,fun h=>absurd h hf⟩
theorem zv8 (h:RnD b H r ob x t 0 outs hv ho vs os) (hl:outs.length=outK x.kind) (hb:∀l∈outs,l.length≤1000000) {i n:Int} (hg:sgI x=0) (hn:isIt n=true) (k3:x.kind=3):
  okV (W.call (.clo 196 [] []) [.optr r 0 0 0,I i,I n] H) (fun v H'=>Did b H H' r ob x (zr x t i n) outs):=by
 rw[zfh (by omega) (by omega)]at hl
 obtain⟨l,rfl⟩:=len1 hl
 obtain⟨v,H1,c1,rfl,c2,c3⟩:=zu.1 (zhj h hg (.inr (.inl k3)) n 0 hn rfl)
 have e9:snd9 x 0=0:=by unfold snd9;split<;>rfl
 rw[e9]at c1 c3
 have hmv:zr x t i n=if (evX x n 0).2≠0 then (ssZ,[],(evX x n 0).2) else (t,[if (evX x n 0).1=1 then [n] else []],0):=by simp[zr,k3]
 rw[hmv,zj Φ196]
 by_cases hf:(evX x n 0).2=0
 .rw[if_neg (by simp[hf])]
  rw[hf]at c3
  by_cases h1:(evX x n 0).1=1
  .obtain⟨v,H',d1,rfl,d2,vs',os',d3⟩:=zu.1 (zbO c3 (o:=0) rfl (by have:=hb l (by simp);omega) n)
   simp at d1
   simp[zjr,c196,c1,eq_true h1,d1]
   exact⟨c2.trans d2,_,_,⟨_,_,_,_,d3⟩,rfl,fun _=>⟨rfl,rfl⟩⟩
  .simp[zjr,c196,c1,h1]
   exact⟨c2,_,_,⟨_,_,_,_,c3⟩,rfl,fun _=>⟨rfl,by simp⟩⟩
 .rw[if_pos hf]
  have d1:=zdG c3 hf 0 n
  by_cases h1:(evX x n 0).1=1
  .simp[zjr,c196,c1,eq_true h1,d1]
   exact⟨c2,_,_,⟨_,_,_,_,c3⟩,rfl,fun h=>absurd h hf⟩
  .simp[zjr,c196,c1,h1]
   exact⟨c2,_,_,⟨_,_,_,_,c3⟩,rfl,fun h=>absurd h hf⟩
theorem zv4 (h:RnD b H r ob x t 0 outs hv ho vs os) (hl:outs.length=outK x.kind) (hb:∀l∈outs,l.length≤1000000) {i n:Int} (hg:sgI x=0) (hn:isIt n=true) (k7:x.kind=7):
  okV (W.call (.clo 202 [] []) [.optr r 0 0 0,I i,I n] H) (fun v H'=>Did b H H' r ob x (zr x t i n) outs):=by
 have h2:outK x.kind=2:=by simp[outK,k7]
 rw[h2]at hl
 obtain⟨l,m,rfl⟩:=len2 hl
 obtain⟨v,H1,c1,rfl,c2,c3⟩:=zu.1 (zhj h hg (.inr (.inr (.inl k7))) n 0 hn rfl)
 have e9:snd9 x 0=0:=by unfold snd9;split<;>rfl
 rw[e9]at c1 c3
 have hmv:zr x t i n=if (evX x n 0).2≠0 then (ssZ,[],(evX x n 0).2) else (t,if (evX x n 0).1=1 then [[n],[]] else [[],[n]],0):=by simp[zr,k7]
 have w0:IntKind.wrap .i64 0=0:=zz (by omega) (by omega)
 have w1:IntKind.wrap .i64 1=1:=zz (by omega) (by omega)
 rw[hmv,zj Φ202]
 by_cases hf:(evX x n 0).2=0
 .rw[if_neg (by simp[hf])]
  rw[hf]at c3
  rcases zyD hg (.inr k7) n hf with h1|h1
  .rw[h1]at c1
   obtain⟨v,H',d1,rfl,d2,vs',os',d3⟩:=zu.1 (zbO c3 (o:=1) rfl (by have:=hb m (by simp);omega) n)
   simp at d1
   simp[zlE,c202,c1,w1,d1]
   refine⟨c2.trans d2,_,_,⟨_,_,_,_,d3⟩,rfl,fun _=>⟨rfl,by simp[h1]⟩⟩
  .rw[h1]at c1
   obtain⟨v,H',d1,rfl,d2,vs',os',d3⟩:=zu.1 (zbO c3 (o:=0) rfl (by have:=hb l (by simp);omega) n)
   simp at d1
   simp[zlE,c202,c1,w0,d1]
   refine⟨c2.trans d2,_,_,⟨_,_,_,_,d3⟩,rfl,fun _=>⟨rfl,by simp[h1]⟩⟩
 .rw[if_pos hf]
  have d1:=fun o=>zdG c3 hf o n
  simp[zlE,c202,c1,d1]
  exact⟨c2,_,_,⟨_,_,_,_,c3⟩,rfl,fun h=>absurd h hf⟩
theorem zv5 (h:RnD b H r ob x t 0 outs hv ho vs os) (hl:outs.length=outK x.kind) (hb:∀l∈outs,l.length≤1000000) {i n:Int} (hg:sgI x=0) (hc:0≤t.count) (k6:x.kind=6):
  okV (W.call (.clo 201 [] []) [.optr r 0 0 0,I i,I n] H) (fun v H'=>Did b H H' r ob x (zr x t i n) outs):=by
 rw[zfh (by omega) (by omega)]at hl
 obtain⟨l,rfl⟩:=len1 hl
 have hs:=zbq hg
 have hM:zL x.kind=200:=by simp[zL,k6]
 have hmv:zr x t i n=if t.count<x.size then ({t with count:=t.count+1},[[n]],0) else (t,[[]],0):=by simp[zr,k6]
 rw[hmv,zj Φ201]
 by_cases hlt:t.count<x.size
 .have w:IntKind.wrap .i64 (t.count+1)=t.count+1:=zz (by omega) (by omega)
  have c3:=h.setR (t':={t with count:=t.count+1}) (err':=0) rfl
  obtain⟨v,H',d1,rfl,d2,vs',os',d3⟩:=zu.1 (zbO c3 (o:=0) rfl (by have:=hb l (by simp);omega) n)
  simp at d1
  simp[znH,c201,h.rb,hlt,w,d1]
  exact⟨(zI h _).trans d2,_,_,⟨_,_,_,_,d3⟩,rfl,fun _=>⟨rfl,rfl⟩⟩
 .simp[znH,c201,h.rb,hlt]
  exact⟨Keep.refl _ _,_,_,⟨_,_,_,_,h⟩,rfl,fun _=>⟨rfl,by simp⟩⟩
theorem zv3 (h:RnD b H r ob x t 0 outs hv ho vs os) (hl:outs.length=outK x.kind) (hb:∀l∈outs,l.length≤1000000) {i n:Int} (hi:0≤i∧i≤1) (k8:x.kind=8):
  okV (W.call (.clo 204 [] [.eptr [.clo 192 [] []]]) [.optr r 0 0 0,I i,I n] H) (fun v H'=>Did b H H' r ob x (zr x t i n) outs):=by
 rw[zfh (by omega) (by omega)]at hl
 obtain⟨l,rfl⟩:=len1 hl
 have hmv:zr x t i n=({t with count:=1 - i},[[n]],0):=by simp[zr,k8]
 have w:IntKind.wrap .i64 (1 - i)=1 - i:=zz (by omega) (by omega)
 obtain⟨v,H',d1,rfl,d2,vs',os',d3⟩:=zu.1 (zbO h (o:=0) rfl (by have:=hb l (by simp);omega) n)
 have d0:W.call (.clo 192 [] []) [.optr r 0 0 0,I i,I n] H=some (.tuple [],H'):=by
  rw[zj Φ192]
  simp at d1
  simp[zqC,c192,d1]
 have d4:=d3.setR (t':={t with count:=1 - i}) (err':=0) rfl
 rw[hmv,zj Φ204]
 simp[zqx,c204,d0,d3.rb,w]
 exact⟨d2.trans (zI d3 _),_,_,⟨_,_,_,_,d4⟩,rfl,fun _=>⟨rfl,rfl⟩⟩
theorem zuu (h:RnD b H r ob x t 0 outs hv ho vs os) (hl:outs.length=outK x.kind) {i n:Int} (k10:x.kind=10):
  okV (W.call (.clo 207 [] []) [.optr r 0 0 0,I i,I n] H) (fun v H'=>Did b H H' r ob x (zr x t i n) outs):=by
 have h2:outK x.kind=0:=by simp[outK,k10]
 rw[h2]at hl
 have:outs=[]:=List.length_eq_zero_iff.1 hl
 subst this
 have hmv:zr x t i n=(t,[],0):=by simp[zr,k10]
 rw[hmv,zj Φ207]
 simp[zqw,c207]
 exact⟨Keep.refl _ _,_,_,⟨_,_,_,_,h⟩,rfl,fun _=>⟨rfl,rfl⟩⟩
end
section
variable {b:Nat} {H H':Heap} {r ob:Nat} {x:Sg} {t:SS} {err:Int} {outs:List (List Int)} {hv:AV} {ho:Option Nat} {vs:List AV} {os:Nat→Option Nat}
theorem zmW (N:Nat) (hN:N≤1000) (n:Int):∀(m k:Nat) (H:Heap) (l:List Int) (vs:List AV) (os:Nat→Option Nat),k+m=N→l.length+m≤1048576→RnD b H r ob x t 0 [l] hv ho vs os→
  okC (W.loop [0,2,10,11] zm7 [(0,.optr r 0 0 0),(2,I n),(10,I N),(11,I k)] H) (fun q F H'=>q= .exit 0∧Keep b H H'∧RnS b H' r ob x t 0 [l++List.replicate m n])
 |0,k,H,l,vs,os,hk,hb,h=>by
  have:k=N:=by omega
  subst this
  rw[zb]
  simp[zkM,zk0]
  exact⟨Keep.refl _ _,_,_,_,_,h⟩
 |m+1,k,H,l,vs,os,hk,hb,h=>by
  have hlt:(k:Int)<N:=by omega
  have hlt':k<N:=by omega
  have hw:=zh (k:=k) (by omega)
  obtain⟨v,H1,d1,rfl,d2,vs',os',d3⟩:=zu.1 (zbO h (o:=0) rfl (by omega) n)
  obtain⟨q,F,H2,e1,rfl,e2,e3⟩:=zc.1 (zmW N hN n m (k+1) H1 (l++[n]) vs' os' (by omega) (by simp;omega) d3)
  rw[zb]
  simp at d1
  simp only[iNa,iCo]at e1
  simp[zkM,zk0,hlt,hlt',d1,hw,e1]
  refine⟨d2.trans e2,?_⟩
  rw[List.append_assoc]at e3
  exact e3
theorem zv6 (h:RnD b H r ob x t 0 outs hv ho vs os) (hl:outs.length=outK x.kind) (hb:∀l∈outs,l.length≤1000000) {i n:Int} (hg:sgI x=0) (k5:x.kind=5):
  okV (W.call (.clo 200 [] []) [.optr r 0 0 0,I i,I n] H) (fun v H'=>Did b H H' r ob x (zr x t i n) outs):=by
 rw[zfh (by omega) (by omega)]at hl
 obtain⟨l,rfl⟩:=len1 hl
 have hs:=zbq hg
 have hM:zL x.kind=100:=by simp[zL,k5]
 have hL:zC x.kind=0:=by simp[zC,k5]
 have hsz:x.size=(x.size.toNat:Int):=by omega
 have hmv:zr x t i n=(t,[List.replicate x.size.toNat n],0):=by simp[zr,k5]
 obtain⟨q,F,H2,e1,rfl,e2,hv',ho',vs',os',e3⟩:=zc.1 (zmW x.size.toNat (by omega) n x.size.toNat 0 H l vs os (by omega) (by have:=hb l (by simp);omega) h)
 rw[←hsz]at e1
 rw[hmv,zj Φ200]
 simp at e1
 simp[zqz,c200,h.rb,e1]
 exact⟨e2,_,_,⟨_,_,_,_,e3⟩,rfl,fun _=>⟨rfl,rfl⟩⟩
def Sum1 (b:Nat) (H H':Heap) (r ob:Nat) (x:Sg) (t:SS) (outs:List (List Int)) (hv:AV) (ho:Option Nat) (vs:List AV) (os:Nat→Option Nat) (rest:List Int) (n err:Int) (F:Fr):Prop:=
 ∃n' err',F.keep [0,2]=[(0,.optr r 0 0 0),(2,I n')]∧Keep b H H'∧RnD b H' r ob x t err' outs hv ho vs os∧(err=0→if (sumB rest n).2=0 then n'=(sumB rest n).1∧err'=0 else err'=14)∧(err≠0→err'=err)
theorem zsD (hh:∀a∈t.held,isIt a=true):∀(rest:List Int) (k:Nat) (n:Int) (err:Int) (H:Heap),t.held.drop k=rest→k≤t.held.length→ -((k:Int)+1)* 1099511627776≤n∧n≤((k:Int)+1)* 1099511627776→RnD b H r ob x t err outs hv ho vs os→
  okC (W.loop [0,2,9,10,11] zm8 [(0,.optr r 0 0 0),(2,I n),(9,hv),(10,I t.held.length),(11,I k)] H)
   (fun q F H'=>q= .exit 0∧Sum1 b H H' r ob x t outs hv ho vs os rest n err F):=by
 intro rest
 induction rest with
 |nil=>
  intro k n err H hk hkl hn h
  have hlen:=zf hk hkl
  rw[zb]
  simp[zeQ,zgn,hlen,h.hl.okO]
  exact⟨n,err,rfl,Keep.refl _ _,h,fun e=>by simp[sumB,e],fun _=>rfl⟩
 |cons a rest ih=>
  intro k n err H hk hkl hn h
  obtain⟨hlt,ha,hr⟩:=zn hk
  have hlt':(k:Int)<t.held.length:=by omega
  have hbd:=h.hl.bound
  have hw:=zh (k:=k) (by omega)
  obtain⟨p,p1,p2,p3⟩:=h.hl.at ha
  have hia:=(zO a).1 (hh a (lMg ha))
  have wn:IntKind.wrap .i64 (n+a)=n+a:=zz (by omega) (by omega)
  have c1:=e116 (n+a)
  have hn': -(((k+1:Nat):Int)+1)* 1099511627776≤n+a∧n+a≤(((k+1:Nat):Int)+1)* 1099511627776:=by
   constructor<;>(simp only[iNa,iCo];omega)
  rw[zb]
  cases hi:isIt (n+a) with
  |true=>
   rw[hi]at c1
   obtain⟨q,F,H2,e1,rfl,n',err',e2,e3,e4,e5,e6⟩:=zc.1 (ih (k+1) (n+a) err H hr hlt hn' h)
   simp only[iNa,iCo]at e1
   simp[zeQ,zgn,hlt,hlt',h.hl.okO,p1,p2,p3,wn,c1,hw,e1]
   refine⟨n',err',e2,e3,e4,fun e=>?_,e6⟩
   .have:sumB (a::rest) n=sumB rest (n+a):=by simp[sumB,hi]
    rw[this];exact e5 e
  |false=>
   rw[hi]at c1
   by_cases he:err=0
   .subst he
    have h2:=h.setR (t':=t) (err':=14) rfl
    obtain⟨q,F,H2,e1,rfl,n',err',e2,e3,e4,e5,e6⟩:=zc.1 (ih (k+1) (n+a) 14 _ hr hlt hn' h2)
    simp only[iNa,iCo]at e1
    simp[zeQ,zgn,hlt,hlt',h.hl.okO,p1,p2,p3,wn,c1,hw,e1,h.rb]
    refine⟨n',err',e2,(zI h _).trans e3,e4,fun _=>?_,fun h=>absurd rfl h⟩
    .have:sumB (a::rest) n=(0,14):=by simp[sumB,hi]
     rw[this,if_neg (by decide)];exact e6 (by decide)
   .obtain⟨q,F,H2,e1,rfl,n',err',e2,e3,e4,e5,e6⟩:=zc.1 (ih (k+1) (n+a) err H hr hlt hn' h)
    simp only[iNa,iCo]at e1
    simp[zeQ,zgn,hlt,hlt',h.hl.okO,p1,p2,p3,wn,c1,hw,e1,h.rb,he]
    exact⟨n',err',e2,e3,e4,fun h=>absurd h he,fun _=>e6 he⟩
theorem zoj (h:RnD b H r ob x t 0 outs hv ho vs os) (hh:∀a∈t.held,isIt a=true) {l:List Int} (hl:outs=[l]) (hb:l.length≤1000000):
  okV (W.call (.clo 199 [] []) [.optr r 0 0 0] H) (fun v H'=>v= .tuple []∧Keep b H H'∧∃outs',RnS b H' r ob x {t with held:=[]} (sumB t.held 0).2 outs'∧outs'.length=1∧((sumB t.held 0).2=0→outs'=[l++[(sumB t.held 0).1]])):=by
 subst hl
 have hE:(sumB t.held 0).2=0∨(sumB t.held 0).2=14:=by
  have key:∀(l:List Int) (n:Int),(sumB l n).2=0∨(sumB l n).2=14:=by
   intro l
   induction l with
   |nil=>intro n;exact .inl rfl
   |cons a r ih=>intro n;unfold sumB;split;exact ih _;exact .inr rfl
  exact key _ _
 obtain⟨q,F,H1,e1,rfl,n',err',e2,e3,e4,e5,_⟩:=zc.1 (zsD hh t.held 0 0 0 H rfl (by omega) (by omega) h)
 have e5:=e5 rfl
 have hnil:∀{H:Heap} {outs:List (List Int)} {err:Int} {vs:List AV} {os:Nat→Option Nat},RnD b H r ob x t err outs hv ho vs os→RnD b (H.set r (.arr 0 14 false [rnA x (.isl (some true) 0 []) t.count t.ended ob outs.length err])) r ob x {t with held:=[]} err outs (.isl (some true) 0 []) none vs os:=by
  intro H outs err vs os h
  exact h.setH (t':={t with held:=[]}) zgR (by simp) (by simp) (by simp) (by simp)
 have e2a:F.get 0= .optr r 0 0 0:=by have:=congrArg (fun l=>l.head?) e2;simpa using this
 have e2b:F.get 2=I n':=by simp at e2;exact e2.2
 rw[zj Φ199]
 simp at e1
 by_cases hz:(sumB t.held 0).2=0
 .rw[if_pos hz]at e5
  obtain⟨rfl,rfl⟩:=e5
  obtain⟨v,H2,d1,rfl,d2,vs',os',d3⟩:=zu.1 (zbO e4 (o:=0) rfl (by omega) (sumB t.held 0).1)
  simp at d1
  simp[znI,c199,h.rb,h.hl.okO,h.hl.len,e1,e2a,e2b,d1,d3.rb]
  rw[hz]
  exact⟨(e3.trans d2).trans (zI d3 _),_,⟨_,_,_,_,hnil d3⟩,rfl,fun _=>rfl⟩
 .rw[if_neg hz]at e5
  subst e5
  have d1:=zdG e4 (by decide) 0 n'
  simp[znI,c199,h.rb,h.hl.okO,h.hl.len,e1,e2a,e2b,d1,e4.rb]
  rw[hE.resolve_left hz]
  exact⟨e3.trans (zI e4 _),_,⟨_,_,_,_,hnil e4⟩,rfl,fun h=>absurd h (by decide)⟩
end
section
set_option maxRecDepth 10000
end
end Go.Proofs.YtbddckhdbnmamaaGreat
