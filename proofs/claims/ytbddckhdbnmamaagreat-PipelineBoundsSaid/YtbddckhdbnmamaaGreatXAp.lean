/-
  slices.ContainsFunc at the types of this program, printed by a program of mine (conditions: none). Buffers: the program's checks (conditions: none). The operators' values (conditions: none). Buffers: the program's operations (conditions: none). Clones, sending, taking (conditions: none). Sending and taking (conditions: none). Types of expressions: the program (conditions: none). Values of expressions: the program (conditions: none). Type and Eval with the bindings of a stage: the program (conditions: none). Buffers: the reference (conditions: none). Types and values of expressions: the reference (conditions: none). Type and Eval of the reference (conditions: none). The operators of the reference (conditions: none). Values of expressions: the reference (conditions: well typed, bindings of type 1). eval and Eval of the reference (conditions: well typed, bindings of type 1). slices.Index and slices.Contains, plain; the names of a stage's expression (conditions: none). An expression that only names x does not see y; the check of a stage's expression in the program (conditions: none). The check of a stage's expression in the program (conditions: none). The check of a stage's expression: plain facts (conditions: none). The check of a stage's expression in the program, as a call on any memory (conditions: none). The handlers (conditions: none). stage.Check in the program (conditions: none). Cells of a handler and of a stage's expression (conditions: none). stage.Check in the program: its beginning (conditions: none). stage.Check in the program: what a kind does not use (conditions: none). stage.Check in the program: why a stage is not valid (conditions: lists of at most 1048576). How many inputs and outputs a stage has: the program (conditions: lists of at most 1048576). The type of a stage's expression: the reference (conditions: none). The names of an expression: the reference (conditions: lists of at most 1000000). The check of a stage: the reference (conditions: lists of at most 1048576). stage.Check, Inputs, Outputs: the reference (conditions: lists of at most 1048576). States of a stage: the program (conditions: lists of at most 1048576). States of a stage: the reference (conditions: lists of at most 1048576). What a stage needs: the reference (conditions: lists of at most 1048576). A stage that runs, in memory; send (conditions: none). The value of a stage's expression, as a runner computes it (conditions: a valid stage). What an item does to a stage that runs, kind by kind (conditions: a valid stage in a valid state). What an item does to a repeating stage, a batch and a zip that run (conditions: a valid stage in a valid state). What an item does to a batch and to a zip that run (conditions: a valid stage in a valid state). What an item, and the end of an input, do to a stage that runs (conditions: a valid stage in a valid state). Take and End of the program: what a runner yields (conditions: none). Take and End of the program (conditions: lists of at most 1048576). End of the program (conditions: lists of at most 1048576). each of the reference: items one by one (conditions: a valid stage, lists of at most 200 items). Sums of batches: the reference (conditions: sizes of 1 to 1000, lists of at most 1000 items). Take of the reference: pieces (conditions: lists of at most 1048576). Take of the reference (conditions: lists of at most 1048576). End of the reference (conditions: lists of at most 1048576). The pipe of an output, of an input (conditions: at most 1000 stages and pipes). Why a pipe is not valid (conditions: a pipeline that is not too large). Buffers: sending and taking of the reference; a buffer after its item was taken (conditions: none).
-/
import Derived.Test.YtbddckhdbnmamaaGreatNAp
namespace Go.Proofs.YtbddckhdbnmamaaGreat
open Go Go.RowKit
set_option linter.unusedVariables false
set_option linter.unusedSimpArgs false
set_option maxRecDepth 10000
def fidx {α:Type} (p:α→Bool):List α→Option Nat
 | []=>none
 |a::r=>if p a then some 0 else (fidx p r).map (·+1)
theorem znN {α:Type} (p:α→Bool) (l:List α):(fidx p l).isSome=l.any p:=by
 induction l with
 |nil=>rfl
 |cons a r ih=>simp only[fidx,List.any_cons];cases p a<;>simp[ih]
theorem zpR (x:Sl Int) (hl:x.l.length≤9223372036854775807) (y:AV) (hy:okO y=some y) (p:Int→Bool) (H0:Heap) (hp:∀a∈x.l,∀H,Kept none H0 H→okV (W.call y [I a] H) (fun v H'=>v= .bool (p a)∧Kept none H H')):
  ∀(r:List Int) (k:Nat) (H:Heap),x.l.drop k=r→k≤x.l.length→Kept none H0 H→
  okC (W.loop [0,1,7,8] zlg [(0,Sl.av I 1 x),(1,y),(7,I x.l.length),(8,I k)] H)
   (fun q F' H'=>Kept none H0 H'∧((fidx p r=none∧q= .exit 0)∨∃j,fidx p r=some j∧q= .ret∧F'.get 4=I (k+j:Nat))):=by
 intro r
 induction r with
 |nil=>
  intro k H h1 h2 hk0
  have hk:=zk h1 h2
  rw[zc]
  simp[zeg,zfC,hk,hy,hk0,fidx]
 |cons a r ihr=>
  intro k H h1 h2 hk0
  obtain⟨hlt,ha,hr⟩:=zp h1
  have hlt':(k:Int)<x.l.length:=by omega
  have hak:x.l[k]=a:=(gEs.1 ha).2
  obtain⟨v,H1,c1,rfl,c2⟩:=zu.1 (hp a (zal h1) H hk0)
  have hw:IntKind.wrap .i64 ((k:Int)+1)=(k:Int)+1:=by rw[zgs]<;>omega
  rw[zc]
  cases hpa:p a with
  |true=>
   rw[hpa]at c1
   have hf:fidx p (a::r)=some 0:=by simp[fidx,hpa]
   rw[hf]
   simp[zeg,zfC,hlt,hak,hy,c1]
   exact hk0.trans c2
  |false=>
   rw[hpa]at c1
   have hJ:=ihr (k+1) H1 hr (by omega) (hk0.trans c2)
   simp only[iNa,iCo]at hJ
   obtain⟨q,F',H',g1,g2,g3⟩:=zf.1 hJ
   rcases g3 with⟨g3,rfl⟩|⟨j,g3,rfl,g4⟩
   .have hf:fidx p (a::r)=none:=by simp[fidx,hpa,g3]
    rw[hf]
    simp[zeg,zfC,hlt,hak,hy,c1,hw,g1,g2]
   .have hf:fidx p (a::r)=some (j+1):=by simp[fidx,hpa,g3]
    rw[hf]
    simp[zeg,zfC,hlt,hak,hy,c1,hw,g1,g2,g4]
    omega
theorem zr7 (x:Sl Int) (hl:x.l.length≤9223372036854775807) (y:AV) (hy:okO y=some y) (p:Int→Bool) (H0:Heap) (hp:∀a∈x.l,∀H,Kept none H0 H→okV (W.call y [I a] H) (fun v H'=>v= .bool (p a)∧Kept none H H')):
  okV (W.call (.clo 145 [] []) [Sl.av I 1 x,y] H0) (fun v H'=>v=I (match fidx p x.l with|some j=>(j:Int)|none=> -1)∧Kept none H0 H'):=by
 rw[ze Φ145]
 have hL:=zpR x hl y hy p H0 hp x.l 0 H0 rfl (by omega) (Kept.refl _ _)
 simp only[Int.natCast_zero,Nat.zero_add]at hL
 obtain⟨q,F',H',g1,g2,g3⟩:=zf.1 hL
 rcases g3 with⟨g3,rfl⟩|⟨j,g3,rfl,g4⟩
 .simp[zlM,c145,hy,g1,g3,g2]
 .simp[zlM,c145,hy,g1,g3,g2,g4]
theorem zoG (x:Sl Int) (hl:x.l.length≤9223372036854775807) (y:AV) (hy:okO y=some y) (p:Int→Bool) (H0:Heap) (hp:∀a∈x.l,∀H,Kept none H0 H→okV (W.call y [I a] H) (fun v H'=>v= .bool (p a)∧Kept none H H')):
  okV (W.call (.clo 96 [] []) [Sl.av I 1 x,y] H0) (fun v H'=>v= .bool (x.l.any p)∧Kept none H0 H'):=by
 rw[ze Φ96]
 obtain⟨v,H',c1,rfl,c2⟩:=zu.1 (zr7 x hl y hy p H0 hp)
 rw[←znN]
 cases hf:fidx p x.l with
 |none=>
  rw[hf]at c1
  simp[fi96,c96,hy,c1,c2]
 |some j=>
  rw[hf]at c1
  simp[fi96,c96,hy,c1,c2]
theorem zpQ (x:Sl Pi) (hl:x.l.length≤9223372036854775807) (y:AV) (hy:okO y=some y) (p:Pi→Bool) (H0:Heap) (hp:∀a∈x.l,∀H,Kept none H0 H→okV (W.call y [Pi.av a] H) (fun v H'=>v= .bool (p a)∧Kept none H H')):
  ∀(r:List Pi) (k:Nat) (H:Heap),x.l.drop k=r→k≤x.l.length→Kept none H0 H→
  okC (W.loop [0,1,7,8] zle [(0,Sl.av Pi.av 5 x),(1,y),(7,I x.l.length),(8,I k)] H)
   (fun q F' H'=>Kept none H0 H'∧((fidx p r=none∧q= .exit 0)∨∃j,fidx p r=some j∧q= .ret∧F'.get 4=I (k+j:Nat))):=by
 intro r
 induction r with
 |nil=>
  intro k H h1 h2 hk0
  have hk:=zk h1 h2
  rw[zc]
  simp[zef,zfB,hk,hy,hk0,fidx]
 |cons a r ihr=>
  intro k H h1 h2 hk0
  obtain⟨hlt,ha,hr⟩:=zp h1
  have hlt':(k:Int)<x.l.length:=by omega
  have hak:x.l[k]=a:=(gEs.1 ha).2
  obtain⟨v,H1,c1,rfl,c2⟩:=zu.1 (hp a (zal h1) H hk0)
  have hw:IntKind.wrap .i64 ((k:Int)+1)=(k:Int)+1:=by rw[zgs]<;>omega
  rw[zc]
  cases hpa:p a with
  |true=>
   rw[hpa]at c1
   have hf:fidx p (a::r)=some 0:=by simp[fidx,hpa]
   rw[hf]
   simp[zef,zfB,hlt,hak,hy,c1]
   exact hk0.trans c2
  |false=>
   rw[hpa]at c1
   have hJ:=ihr (k+1) H1 hr (by omega) (hk0.trans c2)
   simp only[iNa,iCo]at hJ
   obtain⟨q,F',H',g1,g2,g3⟩:=zf.1 hJ
   rcases g3 with⟨g3,rfl⟩|⟨j,g3,rfl,g4⟩
   .have hf:fidx p (a::r)=none:=by simp[fidx,hpa,g3]
    rw[hf]
    simp[zef,zfB,hlt,hak,hy,c1,hw,g1,g2]
   .have hf:fidx p (a::r)=some (j+1):=by simp[fidx,hpa,g3]
    rw[hf]
    simp[zef,zfB,hlt,hak,hy,c1,hw,g1,g2,g4]
    omega
theorem zo8 (x:Sl Pi) (hl:x.l.length≤9223372036854775807) (y:AV) (hy:okO y=some y) (p:Pi→Bool) (H0:Heap) (hp:∀a∈x.l,∀H,Kept none H0 H→okV (W.call y [Pi.av a] H) (fun v H'=>v= .bool (p a)∧Kept none H H')):
  okV (W.call (.clo 159 [] []) [Sl.av Pi.av 5 x,y] H0) (fun v H'=>v=I (match fidx p x.l with|some j=>(j:Int)|none=> -1)∧Kept none H0 H'):=by
 rw[ze Φ159]
 have hL:=zpQ x hl y hy p H0 hp x.l 0 H0 rfl (by omega) (Kept.refl _ _)
 simp only[Int.natCast_zero,Nat.zero_add]at hL
 obtain⟨q,F',H',g1,g2,g3⟩:=zf.1 hL
 rcases g3 with⟨g3,rfl⟩|⟨j,g3,rfl,g4⟩
 .simp[zlK,c159,hy,g1,g3,g2]
 .simp[zlK,c159,hy,g1,g3,g2,g4]
theorem zpK (x:Sl Bnd) (hl:x.l.length≤9223372036854775807) (y:AV) (hy:okO y=some y) (p:Bnd→Bool) (H0:Heap) (hp:∀a∈x.l,∀H,Kept none H0 H→okV (W.call y [Bnd.av a] H) (fun v H'=>v= .bool (p a)∧Kept none H H')):
  ∀(r:List Bnd) (k:Nat) (H:Heap),x.l.drop k=r→k≤x.l.length→Kept none H0 H→
  okC (W.loop [0,1,7,8] zk8 [(0,Sl.av Bnd.av 3 x),(1,y),(7,I x.l.length),(8,I k)] H)
   (fun q F' H'=>Kept none H0 H'∧((fidx p r=none∧q= .exit 0)∨∃j,fidx p r=some j∧q= .ret∧F'.get 4=I (k+j:Nat))):=by
 intro r
 induction r with
 |nil=>
  intro k H h1 h2 hk0
  have hk:=zk h1 h2
  rw[zc]
  simp[zec,zfy,hk,hy,hk0,fidx]
 |cons a r ihr=>
  intro k H h1 h2 hk0
  obtain⟨hlt,ha,hr⟩:=zp h1
  have hlt':(k:Int)<x.l.length:=by omega
  have hak:x.l[k]=a:=(gEs.1 ha).2
  obtain⟨v,H1,c1,rfl,c2⟩:=zu.1 (hp a (zal h1) H hk0)
  have hw:IntKind.wrap .i64 ((k:Int)+1)=(k:Int)+1:=by rw[zgs]<;>omega
  rw[zc]
  cases hpa:p a with
  |true=>
   rw[hpa]at c1
   have hf:fidx p (a::r)=some 0:=by simp[fidx,hpa]
   rw[hf]
   simp[zec,zfy,hlt,hak,hy,c1]
   exact hk0.trans c2
  |false=>
   rw[hpa]at c1
   have hJ:=ihr (k+1) H1 hr (by omega) (hk0.trans c2)
   simp only[iNa,iCo]at hJ
   obtain⟨q,F',H',g1,g2,g3⟩:=zf.1 hJ
   rcases g3 with⟨g3,rfl⟩|⟨j,g3,rfl,g4⟩
   .have hf:fidx p (a::r)=none:=by simp[fidx,hpa,g3]
    rw[hf]
    simp[zec,zfy,hlt,hak,hy,c1,hw,g1,g2]
   .have hf:fidx p (a::r)=some (j+1):=by simp[fidx,hpa,g3]
    rw[hf]
    simp[zec,zfy,hlt,hak,hy,c1,hw,g1,g2,g4]
    omega
theorem zr6 (x:Sl Bnd) (hl:x.l.length≤9223372036854775807) (y:AV) (hy:okO y=some y) (p:Bnd→Bool) (H0:Heap) (hp:∀a∈x.l,∀H,Kept none H0 H→okV (W.call y [Bnd.av a] H) (fun v H'=>v= .bool (p a)∧Kept none H H')):
  okV (W.call (.clo 266 [] []) [Sl.av Bnd.av 3 x,y] H0) (fun v H'=>v=I (match fidx p x.l with|some j=>(j:Int)|none=> -1)∧Kept none H0 H'):=by
 rw[ze Φ266]
 have hL:=zpK x hl y hy p H0 hp x.l 0 H0 rfl (by omega) (Kept.refl _ _)
 simp only[Int.natCast_zero,Nat.zero_add]at hL
 obtain⟨q,F',H',g1,g2,g3⟩:=zf.1 hL
 rcases g3 with⟨g3,rfl⟩|⟨j,g3,rfl,g4⟩
 .simp[zlu,c266,hy,g1,g3,g2]
 .simp[zlu,c266,hy,g1,g3,g2,g4]
def SlN {α:Type} (x:Sl α):Prop:=((x.nl=some true∧x.l=[])∨x.nl=some false)∧x.l.length≤1048576
theorem SlN.len {α:Type} {x:Sl α} (h:SlN x):x.l.length≤9223372036854775807:=by have:=h.2;omega
theorem zH {α:Type}:SlN (zaM:Sl α):=⟨.inl ⟨rfl,rfl⟩,by simp⟩
theorem zaN {α:Type} {n:Nat} {l:List α} (h:l.length≤1048576):SlN (ofL n l):=⟨.inr rfl,h⟩
theorem zG {n:Int} (h: -9223372036854775808≤n) (h':n≤9223372036854775807):IntKind.wrap .i64 n=n:=by rw[zgs]<;>omega
theorem e124 (a l h:Int):W.pure 124 [I a,I l,I h]=some (.bool (decide (l≤a)&&decide (a≤h))):=by
 rw[zj Φ124 rfl]
 by_cases h1:l≤a<;>simp[zoh,c124,h1]
theorem zq2 (n:Int) (H:Heap):W.call (.clo 172 [] []) [I n] H=some (.bool (!isIt n),H):=by
 rw[ze Φ172]
 simp[zob,c172,e124,isIt]
theorem zsD (x:Sl Int) (hl:x.l.length≤9223372036854775807) (H0:Heap):okV (W.call (.clo 96 [] []) [Sl.av I 1 x,.clo 172 [] []] H0) (fun v H'=>v= .bool (!x.l.all isIt)∧Kept none H0 H'):=by
 have h:=zoG x hl (.clo 172 [] []) rfl (fun n=> !isIt n) H0 (fun a _ H _=>by rw[zq2];exact⟨rfl,Kept.refl _ _⟩)
 rw[←List.not_all_eq_any_not]at h
 exact h
theorem e137 (c:Cr) (hl:c.items.l.length≤9223372036854775807):W.pure 137 [c.av]=some (I (crI c.pl)):=by
 rw[zj Φ137 (by simp)]
 have c1:=e124 c.cap 1 100
 by_cases h0:c.cap<1∨100<c.cap
 .have a1:(decide (1≤c.cap)&&decide (c.cap≤100))=false:=by
   rcases h0 with h0|h0
   .simp;omega
   .simp;omega
  rw[a1]at c1
  simp[zdZ,c137,c1,crI,Cr.pl,h0]
 have a1:(decide (1≤c.cap)&&decide (c.cap≤100))=true:=by simp;omega
 rw[a1]at c1
 by_cases h1:c.taken<0
 .simp[zdZ,c137,c1,crI,Cr.pl,h0,h1]
 by_cases h2:c.sent<c.taken
 .simp[zdZ,c137,c1,crI,Cr.pl,h0,h1,h2]
 by_cases h3:c.granted<c.sent
 .simp[zdZ,c137,c1,crI,Cr.pl,h0,h1,h2,h3]
 by_cases h4:1099511627776<c.granted
 .simp[zdZ,c137,c1,crI,Cr.pl,h0,h1,h2,h3,h4]
 have w1:IntKind.wrap .i64 (c.granted - c.taken)=c.granted - c.taken:=zG (by omega) (by omega)
 have w2:IntKind.wrap .i64 (c.sent - c.taken)=c.sent - c.taken:=zG (by omega) (by omega)
 by_cases h5:c.cap<c.granted - c.taken
 .simp[zdZ,c137,c1,crI,Cr.pl,h0,h1,h2,h3,h4,w1,h5]
 by_cases h6:(c.items.l.length:Int)=c.sent - c.taken
 rotate_left
 .simp[zdZ,c137,c1,crI,Cr.pl,h0,h1,h2,h3,h4,w1,w2,h5,h6]
 obtain⟨v,H',d1,rfl,d2⟩:=zu.1 (zsD c.items hl [.arr 0 6 false [c.av]])
 cases ha:c.items.l.all isIt with
 |true=>
  rw[ha]at d1
  simp[zdZ,c137,c1,crI,Cr.pl,h0,h1,h2,h3,h4,w1,w2,h5,h6,d1,ha]
 |false=>
  rw[ha]at d1
  simp[zdZ,c137,c1,crI,Cr.pl,h0,h1,h2,h3,h4,w1,w2,h5,h6,d1,ha]
theorem e239 (n:Int) (h1: -4611686018427387904≤n) (h2:n≤4611686018427387904):W.pure 239 [I n]=some (I n.natAbs):=by
 rw[zj Φ239 rfl]
 have w:IntKind.wrap .i64 (0 - n)=0 - n:=zG (by omega) (by omega)
 have w':IntKind.wrap .i64 (-n)= -n:=zG (by omega) (by omega)
 by_cases h:0≤n
 .have e:(n.natAbs:Int)=n:=by omega
  rw[e]
  by_cases h0:n=0
  .subst h0
   have w0:IntKind.wrap .i64 0=0:=zG (by omega) (by omega)
   simp[zj4,c239,mxV,w0]
  .have h3:¬n≤ -n:=by omega
   have h4: -n<n:=by omega
   have h5:¬n< -n:=by omega
   simp[zj4,c239,mxV,w,w',h3,h4,h5]
 .have e:(n.natAbs:Int)= -n:=by omega
  rw[e]
  have h3:n≤ -n:=by omega
  have h4:¬ -n<n:=by omega
  have h5:n< -n:=by omega
  simp[zj4,c239,mxV,w,w',h3,h4,h5]
theorem zrO {a b:Nat} (h:0<b):1099511627776/b<a↔1099511627776<a* b:=Nat.div_lt_iff_lt_mul h
theorem quoM {b:Nat} (h:0<b):Int.tdiv 1099511627776 (b:Int)=((1099511627776/b:Nat):Int):=by
 rw[Int.tdiv_eq_ediv_of_nonneg (by omega)]
 rfl
theorem zq0 (a b:Int) (ha:isIt a=true) (hb:isIt b=true) (H:Heap):W.call (.clo 243 [] []) [I a,I b] H=some (.tuple [I (opE 5 a b).1,I (opE 5 a b).2],H):=by
 rw[ze Φ243]
 have ha':=(zV a).1 ha
 have hb':=(zV b).1 hb
 have e:opE 5 a b=if 1099511627776<a.natAbs* b.natAbs then (0,14) else (a* b,0):=by simp[opE]
 rw[e]
 by_cases h0:b=0
 .subst h0
  have w0:IntKind.wrap .i64 0=0:=zG (by omega) (by omega)
  simp[zj3,c243,w0]
 .have c1:=e239 a (by omega) (by omega)
  have c2:=e239 b (by omega) (by omega)
  have hw:a.natAbs* b.natAbs≤1099511627776→IntKind.wrap .i64 (a* b)=a* b:=fun h=>by
   have:(a* b).natAbs≤1099511627776:=by rw[Int.natAbs_mul];omega
   exact zG (by omega) (by omega)
  have hbp:0<b.natAbs:=by omega
  generalize b.natAbs=B at *
  generalize a.natAbs=A at *
  obtain⟨D,hD1,hD2,hD3⟩:∃D:Nat,Int.tdiv 1099511627776 (B:Int)=(D:Int)∧D≤1099511627776∧(D<A↔1099511627776<A* B):=⟨_,quoM hbp,Nat.div_le_self _ _,zrO hbp⟩
  have w:IntKind.wrap .i64 (D:Int)=D:=zG (by omega) (by omega)
  have hB:B≠0:=by omega
  by_cases h:1099511627776<A* B
  .have h2:=hD3.2 h
   simp only[if_pos h]
   simp[zj3,c243,h0,c1,c2,hB,hD1,w,h2]
  .have h2:¬D<A:=fun hh=>h (hD3.1 hh)
   simp only[if_neg h]
   simp[zj3,c243,h0,c1,c2,hB,hD1,w,h2,hw (by omega)]
theorem zov (o a b:Int) (ho:3≤o∧o≤15) (ha:isIt a=true) (hb:isIt b=true) (H:Heap):W.call (opFn o) [I a,I b] H=some (.tuple [I (opE o a b).1,I (opE o a b).2],H):=by
 have ha':=(zV a).1 ha
 have hb':=(zV b).1 hb
 have w1:IntKind.wrap .i64 (a+b)=a+b:=zG (by omega) (by omega)
 have w2:IntKind.wrap .i64 (a - b)=a - b:=zG (by omega) (by omega)
 have cases13:o=3∨o=4∨o=5∨o=6∨o=7∨o=8∨o=9∨o=10∨o=11∨o=12∨o=13∨o=14∨o=15:=by omega
 rcases cases13 with rfl|rfl|rfl|rfl|rfl|rfl|rfl|rfl|rfl|rfl|rfl|rfl|rfl
 .simp[opFn,ze Φ279,zdu,c279,ze Φ241,zn1,c241,opE,w1]
 .simp[opFn,ze Φ279,zdu,c279,ze Φ242,zn0,c242,opE,w2]
 .exact zq0 a b ha hb H
 .by_cases h:b=0
  .simp[opFn,ze Φ280,zid,c280,opE,h]
  .have hd:IntKind.wrap .i64 (a.tdiv b)=a.tdiv b:=by
    have:(a.tdiv b).natAbs≤a.natAbs:=by rw[Int.natAbs_tdiv];exact Nat.div_le_self _ _
    exact zG (by omega) (by omega)
   simp[opFn,ze Φ280,zid,c280,ze Φ245,znZ,c245,opE,h,hd]
 .by_cases h:b=0
  .simp[opFn,ze Φ280,zid,c280,opE,h]
  .simp[opFn,ze Φ280,zid,c280,ze Φ246,znY,c246,opE,h]
 .by_cases h:a=b<;>simp[opFn,ze Φ279,zdu,c279,ze Φ281,zeL,c281,ze Φ248,znX,c248,opE,b01,h]
 .by_cases h:a=b<;>simp[opFn,ze Φ279,zdu,c279,ze Φ281,zeL,c281,ze Φ249,znW,c249,opE,b01,h]
 .by_cases h:a<b<;>simp[opFn,ze Φ279,zdu,c279,ze Φ281,zeL,c281,ze Φ250,znV,c250,opE,b01,h]
 .by_cases h:a≤b<;>simp[opFn,ze Φ279,zdu,c279,ze Φ281,zeL,c281,ze Φ251,znU,c251,opE,b01,h]
 .by_cases h:b<a<;>simp[opFn,ze Φ279,zdu,c279,ze Φ281,zeL,c281,ze Φ252,znT,c252,opE,b01,h]
 .by_cases h:b≤a<;>simp[opFn,ze Φ279,zdu,c279,ze Φ281,zeL,c281,ze Φ253,znS,c253,opE,b01,h]
 .by_cases h:a=0<;>by_cases h':b=0<;>simp[opFn,ze Φ279,zdu,c279,ze Φ281,zeL,c281,ze Φ254,znR,c254,opE,b01,h,h']
 .by_cases h:a=0<;>by_cases h':b=0<;>simp[opFn,ze Φ279,zdu,c279,ze Φ281,zeL,c281,ze Φ255,znQ,c255,opE,b01,h,h']
theorem SlN.of {x y:Sl Int} (h:SlN x) (e:y=x∨y=zaM):SlN y:=by
 rcases e with rfl|rfl
 .exact h
 .exact zH
def zCr:Cr:=⟨0,0,0,0,zaM,false⟩
theorem zbk:(.agg [I 0,I 0,I 0,I 0,.isl (some true) 0 [],.bool false]:AV)=zCr.av:=rfl
theorem e133 (c:Cr) (hl:c.items.l.length≤9223372036854775807):W.pure 133 [c.av]=some (.bool (endC c.pl)):=by
 rw[zj Φ133 (by simp)]
 have c1:=e137 c hl
 by_cases h:crI c.pl=0
 .rw[h]at c1
  have e1:endC c.pl=(c.closed&&c.items.l.isEmpty):=by unfold endC;rw[h];simp[Cr.pl]
  rw[e1]
  cases h2:c.closed<;>cases h3:c.items.l<;>simp[zlP,c133,c1,h2,h3]
  omega
 .simp[zlP,c133,c1,endC,h]
theorem e136 (c:Cr) (hl:c.items.l.length≤9223372036854775807):W.pure 136 [c.av]=some (I (zeW c.pl)):=by
 rw[zj Φ136 (by simp)]
 have c1:=e137 c hl
 by_cases h:crI c.pl=0
 .rw[h]at c1
  have hv:=(zaG _).1 h
  have w1:IntKind.wrap .i64 (c.granted - c.sent)=c.granted - c.sent:=by
   have h1:=hv.sg;have h2:=hv.gm;have h3:=hv.t0;have h4:=hv.ts
   simp only[Cr.pl]at h1 h2 h3 h4
   exact zG (by omega) (by omega)
  have hpl:c.pl.closed=c.closed:=rfl
  cases h2:c.closed<;>simp[zlO,c136,c1,zeW,h,hpl,h2,w1]
  rfl
 .simp[zlO,c136,c1,zeW,h]
theorem Cr.pl_mk (c:Cr):c.pl=⟨c.cap,c.granted,c.sent,c.taken,c.items.l,c.closed⟩:=rfl
theorem e78 (c:Cr) (hl:c.items.l.length≤9223372036854775807) (n:Int):∃c':Cr,W.pure 78 [c.av,I n]=some (.tuple [c'.av,I (reqC c.pl n).2])∧c'.pl=(reqC c.pl n).1∧(c'.items=c.items∨c'.items=zaM):=by
 have c1:=e137 c hl
 by_cases h:crI c.pl=0
 rotate_left
 .have hr:reqC c.pl n=(crZ,crI c.pl):=by unfold reqC;rw[if_pos h]
  rw[hr]
  refine⟨zCr,?_,rfl,.inr rfl⟩
  rw[zj Φ78 (by simp)]
  simp[fi78,c78,ze Φ125,zbX,c125,c1,h,←zbk]
 rw[h]at c1
 have hv:=(zaG _).1 h
 have g1:=hv.sg;have g2:=hv.gm;have g3:=hv.t0;have g4:=hv.ts;have g5:=hv.c1;have g6:=hv.c2;have g7:=hv.gc
 rw[Cr.pl_mk]at h⊢
 simp only[Cr.pl]at g1 g2 g3 g4 g5 g6 g7
 by_cases h1:n<1
 .have hr:reqC ⟨c.cap,c.granted,c.sent,c.taken,c.items.l,c.closed⟩ n=(crZ,2):=by unfold reqC;rw[if_neg (by simp[h]),if_pos h1]
  rw[hr]
  refine⟨zCr,?_,rfl,.inr rfl⟩
  rw[zj Φ78 (by simp)]
  simp[fi78,c78,ze Φ125,zbX,c125,ze Φ126,zhm,c126,c1,h1,←zbk]
 cases h2:c.closed with
 |true=>
  rw[h2]at h
  have hr:reqC ⟨c.cap,c.granted,c.sent,c.taken,c.items.l,true⟩ n=(crZ,19):=by unfold reqC;rw[if_neg (by simp[h]),if_neg h1,if_pos rfl]
  rw[hr]
  refine⟨zCr,?_,rfl,.inr rfl⟩
  rw[zj Φ78 (by simp)]
  simp[fi78,c78,ze Φ125,zbX,c125,ze Φ126,zhm,c126,c1,h1,h2,←zbk]
 |false=>
 rw[h2]at h
 have w1:IntKind.wrap .i64 (c.taken+c.cap)=c.taken+c.cap:=zG (by omega) (by omega)
 have w2:IntKind.wrap .i64 (c.taken+c.cap - c.granted)=c.taken+c.cap - c.granted:=zG (by omega) (by omega)
 by_cases h3:c.taken+c.cap - c.granted<n
 .have hr:reqC ⟨c.cap,c.granted,c.sent,c.taken,c.items.l,false⟩ n=(crZ,18):=by unfold reqC;rw[if_neg (by simp[h]),if_neg h1,if_neg (by simp),if_pos h3]
  rw[hr]
  refine⟨zCr,?_,rfl,.inr rfl⟩
  rw[zj Φ78 (by simp)]
  simp[fi78,c78,ze Φ125,zbX,c125,ze Φ126,zhm,c126,c1,h1,h2,w1,w2,h3,←zbk]
 have w3:IntKind.wrap .i64 (c.granted+n)=c.granted+n:=zG (by omega) (by omega)
 by_cases h4:1099511627776<c.granted+n
 .have hr:reqC ⟨c.cap,c.granted,c.sent,c.taken,c.items.l,false⟩ n=(crZ,4):=by unfold reqC;rw[if_neg (by simp[h]),if_neg h1,if_neg (by simp),if_neg h3,if_pos h4]
  rw[hr]
  refine⟨zCr,?_,rfl,.inr rfl⟩
  rw[zj Φ78 (by simp)]
  simp[fi78,c78,ze Φ125,zbX,c125,ze Φ126,zhm,c126,c1,h1,h2,w1,w2,h3,w3,h4,←zbk]
 .have hr:reqC ⟨c.cap,c.granted,c.sent,c.taken,c.items.l,false⟩ n=(⟨c.cap,c.granted+n,c.sent,c.taken,c.items.l,false⟩,0):=by unfold reqC;rw[if_neg (by simp[h]),if_neg h1,if_neg (by simp),if_neg h3,if_neg h4]
  rw[hr]
  refine⟨{c with granted:=c.granted+n},?_,by simp[Cr.pl,h2],.inl rfl⟩
  rw[zj Φ78 (by simp)]
  simp[fi78,c78,ze Φ125,zbX,c125,ze Φ126,zhm,c126,c1,h1,h2,w1,w2,h3,w3,h4]
theorem e90 (c:Cr) (hl:c.items.l.length≤9223372036854775807):∃c':Cr,W.pure 90 [c.av]=some (.tuple [c'.av,I (zbp c.pl).2])∧c'.pl=(zbp c.pl).1∧(c'.items=c.items∨c'.items=zaM):=by
 have c1:=e137 c hl
 by_cases h:crI c.pl=0
 rotate_left
 .have hr:zbp c.pl=(crZ,crI c.pl):=by unfold zbp;rw[if_pos h]
  rw[hr]
  refine⟨zCr,?_,rfl,.inr rfl⟩
  rw[zj Φ90 (by simp)]
  simp[fi90,c90,ze Φ125,zbX,c125,c1,h,←zbk]
 rw[h]at c1
 rw[Cr.pl_mk]at h⊢
 cases h2:c.closed with
 |true=>
  rw[h2]at h
  have hr:zbp ⟨c.cap,c.granted,c.sent,c.taken,c.items.l,true⟩=(crZ,19):=by unfold zbp;rw[if_neg (by simp[h]),if_pos rfl]
  rw[hr]
  refine⟨zCr,?_,rfl,.inr rfl⟩
  rw[zj Φ90 (by simp)]
  simp[fi90,c90,ze Φ125,zbX,c125,ze Φ139,zlN,c139,c1,h2,←zbk]
 |false=>
  rw[h2]at h
  have hr:zbp ⟨c.cap,c.granted,c.sent,c.taken,c.items.l,false⟩=(⟨c.cap,c.granted,c.sent,c.taken,c.items.l,true⟩,0):=by unfold zbp;rw[if_neg (by simp[h]),if_neg (by simp)]
  rw[hr]
  refine⟨{c with closed:=true},?_,rfl,.inl rfl⟩
  rw[zj Φ90 (by simp)]
  simp[fi90,c90,ze Φ125,zbX,c125,ze Φ139,zlN,c139,c1,h2]
def zas {α:Type} (f:α→AV) (sz:Nat) (x:Sl α) (H:Heap):AV×Heap:=
 if x.nl=some true then (.isl (some true) 0 [],H) else (.osl H.length x.l.length 0 x.l.length,H++[.arr x.l.length sz false (x.l.map f)])
theorem zgo {α:Type} {f:α→AV} {sz:Nat} (x:Sl α) (H:Heap) (hx:x.l.length≤1048576) (hf:∀a,(f a).cells.all AV.cell=true):
  ex (H++[.arr 0 sz false []]) (.app sz) [.osl H.length 0 0 0,Sl.av f sz x]=some (.osl H.length x.l.length 0 x.l.length,H++[.arr x.l.length sz false (x.l.map f)]):=by
 have hall:(x.l.map f).all (fun e=>e.cells.all AV.cell)=true:=zjv hf x.l
 have h0:truncH (H++[.arr 0 sz false []]) (.osl H.length 0 0 0)=H++[.arr 0 sz false []]:=by simp[truncH]
 simp only[ex,ziD,hall,if_true,h0]
 cases hl:x.l with
 |nil=>simp[zbA]
 |cons a r=>
  rw[hl]at hx
  simp only[lLc]at hx
  simp[zbA,zaH]
  omega
theorem zmb (x:Sl Int) (hx:SlN x) (H:Heap):W.call (.clo 44 [] []) [Sl.av I 1 x] H=some (zas I 1 x H):=by
 rw[ze Φ44]
 obtain⟨nl,z,l⟩:=x
 rcases hx.1 with⟨h1,h2⟩|h1
 .simp only at h1 h2;subst h1;subst h2
  simp[fi44,c44,zas]
 .simp only at h1;subst h1
  have:=zgo (f:=I) (sz:=1) ⟨some false,z,l⟩ H hx.2 (by simp)
  simp[fi44,c44,zas,this]
theorem zso (x:Sl (Sl Int)) (hx:SlN x) (H:Heap):W.call (.clo 42 [] []) [Sl.av (Sl.av I 1) 1 x] H=some (zas (Sl.av I 1) 1 x H):=by
 rw[ze Φ42]
 obtain⟨nl,z,l⟩:=x
 rcases hx.1 with⟨h1,h2⟩|h1
 .simp only at h1 h2;subst h1;subst h2
  simp[fi42,c42,zas]
 .simp only at h1;subst h1
  have:=zgo (f:=(Sl.av I 1)) (sz:=1) ⟨some false,z,l⟩ H hx.2 (by simp)
  simp[fi42,c42,zas,this]
theorem zsq (x:Sl Ss) (hx:SlN x) (H:Heap):W.call (.clo 40 [] []) [Sl.av Ss.av 3 x] H=some (zas Ss.av 3 x H):=by
 rw[ze Φ40]
 obtain⟨nl,z,l⟩:=x
 rcases hx.1 with⟨h1,h2⟩|h1
 .simp only at h1 h2;subst h1;subst h2
  simp[fi40,c40,zas]
 .simp only at h1;subst h1
  have:=zgo (f:=Ss.av) (sz:=3) ⟨some false,z,l⟩ H hx.2 (by simp)
  simp[fi40,c40,zas,this]
theorem zsp (x:Sl Cr) (hx:SlN x) (H:Heap):W.call (.clo 41 [] []) [Sl.av Cr.av 6 x] H=some (zas Cr.av 6 x H):=by
 rw[ze Φ41]
 obtain⟨nl,z,l⟩:=x
 rcases hx.1 with⟨h1,h2⟩|h1
 .simp only at h1 h2;subst h1;subst h2
  simp[fi41,c41,zas]
 .simp only at h1;subst h1
  have:=zgo (f:=Cr.av) (sz:=6) ⟨some false,z,l⟩ H hx.2 (by simp)
  simp[fi41,c41,zas,this]
mutual
theorem AV.beq_refl:∀x:AV,AV.beq x x=true
 | .eptr a=>by simp[AV.beq,AV.beqs_refl a]
 | .isl n s e=>by simp[AV.beq,AV.beqs_refl e]
 | .agg a=>by simp[AV.beq,AV.beqs_refl a]
 | .tuple a=>by simp[AV.beq,AV.beqs_refl a]
 | .clo f a b=>by simp[AV.beq,AV.beqs_refl a,AV.beqs_refl b]
 | .imap a b=>by simp[AV.beq,AV.beqs_refl a,AV.beqs_refl b]
 | .bad=>rfl
 | .und=>rfl
 | .bool _=>by simp[AV.beq]
 | .int _ _=>by simp[AV.beq]
 | .str _=>by simp[AV.beq]
 | .nilp=>rfl
 | .nilf=>rfl
 | .optr _ _ _ _=>by simp[AV.beq]
 | .osl _ _ _ _=>by simp[AV.beq]
 | .yld _=>by simp[AV.beq]
 | .omap _=>by simp[AV.beq]
 | .oit _=>by simp[AV.beq]
 | .unk _=>by simp[AV.beq]
 | .nili=>rfl
 | .nilm=>rfl
theorem AV.beqs_refl:∀x:List AV,AV.beqs x x=true
 | []=>rfl
 |x::r=>by simp[AV.beqs,AV.beq_refl x,AV.beqs_refl r]
end
@[simp] theorem beqH_arr (v s:Nat) (h:Bool) (e:List AV) (r t:Heap):beqH (.arr v s h e::r) (.arr v s h e::t)=beqH r t:=by
 simp[beqH,Blk.beq,AV.beqs_refl]
@[simp] theorem beqH_nil:beqH [] []=true:=rfl
theorem zaB (H:Heap) (z:Nat) (n:Int):ex H (.app 1) [.isl (some true) z [],.isl (some false) 1 [.int .i64 n]]=some (.osl H.length 0 0 1,H++[.arr 0 1 false [I n]]):=by
 simp[ex,zbA,truncH,zaH,zat]
theorem zbd {H:Heap} {id ver:Nat} {l:List Int} (h:H[id]?=some (.arr ver 1 false (l.map I))) (hl:l.length≤1048576) (n:Int):
  ex H (.app 1) [.osl id ver 0 l.length,.isl (some false) 1 [.int .i64 n]]=some (.osl id (ver+1) 0 (l.length+1),H.set id (.arr (ver+1) 1 false ((l++[n]).map I))):=by
 have ht:truncH H (.osl id ver 0 l.length)=H:=by simp[truncH,h]
 have hr:l.length+1≤zaH:=by simp[zaH];omega
 simp[ex,zat,ht,zbA,h,hr]
theorem zcY {H:Heap} {n id v len:Nat} {l:List Int} (hb:H[id]?=some (.arr v 1 false (l.map I))) (hl:len=l.length):frz H (n+1) (.osl id v 0 len)=some (Sl.av I 1 (ofL 1 l)):=by
 rw[zf5 hb (by simp[hl]) (zdb (by simp) l),zdK]
@[simp] theorem crSetO (a b c d:Int) (l:Sl Int) (e:Bool) (i j k n:Nat):zb [(Cr.mk a b c d l e).av] 0 4 (.osl i j k n)=some [.agg [I a,I b,I c,I d,.osl i j k n,.bool e]]:=rfl
@[simp] theorem crSetI (a b c d e f:AV) (k:IntKind) (x:Int):zb [.agg [a,b,c,d,e,f]] 0 2 (.int k x)=some [.agg [a,b,.int k x,d,e,f]]:=rfl
@[simp] theorem crSetT (a b c d e f:AV) (k:IntKind) (x:Int):zb [.agg [a,b,c,d,e,f]] 0 3 (.int k x)=some [.agg [a,b,c,.int k x,e,f]]:=rfl
theorem e89 (c:Cr) (hc:SlN c.items) (n:Int):∃c':Cr,W.pure 89 [c.av,I n]=some (.tuple [c'.av,I (zcD c.pl n).2])∧c'.pl=(zcD c.pl n).1∧SlN c'.items:=by
 have hl:=hc.len
 have c1:=e137 c hl
 by_cases h:crI c.pl=0
 rotate_left
 .have hr:zcD c.pl n=(crZ,crI c.pl):=by unfold zcD;rw[if_pos h]
  rw[hr]
  refine⟨zCr,?_,rfl,zH⟩
  rw[zj Φ89 (by simp)]
  simp[fi89,c89,ze Φ125,zbX,c125,c1,h,←zbk]
 rw[h]at c1
 have hv:=(zaG _).1 h
 have g1:=hv.sg;have g2:=hv.gm;have g3:=hv.t0;have g4:=hv.ts;have g5:=hv.c1;have g6:=hv.c2;have g7:=hv.gc;have g8:=hv.len
 rw[Cr.pl_mk]at h⊢
 simp only[Cr.pl]at g1 g2 g3 g4 g5 g6 g7 g8
 have c2:=e124 n (-1099511627776) 1099511627776
 have hn:isIt n=(decide (-1099511627776≤n)&&decide (n≤1099511627776)):=rfl
 rw[←hn]at c2
 cases h1:isIt n with
 |false=>
  rw[h1]at c2
  have hr:zcD ⟨c.cap,c.granted,c.sent,c.taken,c.items.l,c.closed⟩ n=(crZ,2):=by unfold zcD;rw[if_neg (by simp[h]),if_pos h1]
  rw[hr]
  refine⟨zCr,?_,rfl,zH⟩
  rw[zj Φ89 (by simp)]
  simp[fi89,c89,ze Φ125,zbX,c125,ze Φ138,zhl,c138,c1,c2,←zbk]
 |true=>
 rw[h1]at c2
 cases h2:c.closed with
 |true=>
  rw[h2]at h
  have hr:zcD ⟨c.cap,c.granted,c.sent,c.taken,c.items.l,true⟩ n=(crZ,19):=by unfold zcD;rw[if_neg (by simp[h]),if_neg (by simp[h1]),if_pos rfl]
  rw[hr]
  refine⟨zCr,?_,rfl,zH⟩
  rw[zj Φ89 (by simp)]
  simp[fi89,c89,ze Φ125,zbX,c125,ze Φ138,zhl,c138,c1,c2,h2,←zbk]
 |false=>
 rw[h2]at h
 by_cases h3:c.sent=c.granted
 .have hr:zcD ⟨c.cap,c.granted,c.sent,c.taken,c.items.l,false⟩ n=(crZ,18):=by unfold zcD;rw[if_neg (by simp[h]),if_neg (by simp[h1]),if_neg (by simp),if_pos h3]
  rw[hr]
  refine⟨zCr,?_,rfl,zH⟩
  rw[zj Φ89 (by simp)]
  simp[fi89,c89,ze Φ125,zbX,c125,ze Φ138,zhl,c138,c1,c2,h2,h3,←zbk]
 have w1:IntKind.wrap .i64 (c.sent+1)=c.sent+1:=zG (by omega) (by omega)
 have hr:zcD ⟨c.cap,c.granted,c.sent,c.taken,c.items.l,false⟩ n=(⟨c.cap,c.granted,c.sent+1,c.taken,c.items.l++[n],false⟩,0):=by unfold zcD;rw[if_neg (by simp[h]),if_neg (by simp[h1]),if_neg (by simp),if_neg h3]
 rw[hr]
 have hlen:(c.items.l++[n]).length≤1048576:=by simp;omega
 refine⟨⟨c.cap,c.granted,c.sent+1,c.taken,ofL 1 (c.items.l++[n]),false⟩,?_,rfl,zaN hlen⟩
 rw[zj Φ89 (by simp)]
 have k1:=zmb c.items hc
 obtain⟨a1,a2,a3,a4,⟨nl,z,l⟩,a6⟩:=c
 simp only at *
 subst h2
 rcases hc.1 with⟨b1,b2⟩|b1
 .simp only at b1 b2;subst b1;subst b2
  simp[zas]at k1
  have k3:∀H:Heap,H[7]?=some (.arr 0 1 false [I n])→frz H 6 (.osl 7 0 0 1)=some (Sl.av I 1 (ofL 1 [n])):=fun H h=>zcY (l:=[n]) h rfl
  simp[fi89,c89,ze Φ125,zbX,c125,ze Φ138,zhl,c138,c1,c2,h3,k1,w1,zaB,k3]
  rfl
 .simp only at b1;subst b1
  simp[zas]at k1
  have k2:=fun H h=>zbd (H:=H) (id:=7) (ver:=l.length) (l:=l) h hc.2 n
  have k3:∀H:Heap,H[7]?=some (.arr (l.length+1) 1 false (l.map I++[I n]))→frz H 6 (.osl 7 (l.length+1) 0 (l.length+1))=some (Sl.av I 1 (ofL 1 (l++[n]))):=fun H h=>zcY (l:=l++[n]) (by rw[h];simp) (by simp)
  simp[fi89,c89,ze Φ125,zbX,c125,ze Φ138,zhl,c138,c1,c2,h3,k1,w1,k2,k3]
  rfl
theorem zqQ {H:Heap} {id:Nat} {l:List Int} (nl:Option Bool) (h:H[id]?=some (.arr 0 1 false (List.replicate l.length (.int .i64 0)))):
  ex H .cpy [.osl id 0 0 l.length,.isl nl 1 (l.map I)]=some (.int .i64 l.length,H.set id (.arr 0 1 false (l.map I))):=by
 simp[ex,h,zat]
theorem e88 (c:Cr) (hc:SlN c.items):∃c':Cr,W.pure 88 [c.av]=some (.tuple [c'.av,I (zbE c.pl).2.1,I (zbE c.pl).2.2])∧c'.pl=(zbE c.pl).1∧SlN c'.items:=by
 have hl:=hc.len
 have c1:=e137 c hl
 by_cases h:crI c.pl=0
 rotate_left
 .have hr:zbE c.pl=(crZ,0,crI c.pl):=by unfold zbE;rw[if_pos h]
  rw[hr]
  refine⟨zCr,?_,rfl,zH⟩
  rw[zj Φ88 (by simp)]
  simp[fi88,c88,c1,h,←zbk]
 rw[h]at c1
 have hv:=(zaG _).1 h
 have g1:=hv.sg;have g2:=hv.gm;have g3:=hv.t0;have g4:=hv.ts;have g5:=hv.c1;have g6:=hv.c2;have g7:=hv.gc;have g8:=hv.len
 rw[Cr.pl_mk]at h⊢
 simp only[Cr.pl]at g1 g2 g3 g4 g5 g6 g7 g8
 obtain⟨a1,a2,a3,a4,⟨nl,z,l⟩,a6⟩:=c
 simp only at *
 cases l with
 |nil=>
  cases a6 with
  |true=>
   have hr:zbE ⟨a1,a2,a3,a4,[],true⟩=(crZ,0,19):=by unfold zbE;rw[if_neg (by simp[h])];rfl
   rw[hr]
   refine⟨zCr,?_,rfl,zH⟩
   rw[zj Φ88 (by simp)]
   simp[fi88,c88,c1,←zbk]
  |false=>
   have hr:zbE ⟨a1,a2,a3,a4,[],false⟩=(crZ,0,23):=by unfold zbE;rw[if_neg (by simp[h])];rfl
   rw[hr]
   refine⟨zCr,?_,rfl,zH⟩
   rw[zj Φ88 (by simp)]
   simp[fi88,c88,c1,←zbk]
 |cons a r=>
  have hr:zbE ⟨a1,a2,a3,a4,a::r,a6⟩=(⟨a1,a2,a3,a4+1,r,a6⟩,a,0):=by unfold zbE;rw[if_neg (by simp[h])]
  rw[hr]
  have hlr:r.length≤1048576:=by have:=hc.2;simp at this;omega
  refine⟨⟨a1,a2,a3,a4+1,ofL 1 r,a6⟩,?_,rfl,zaN hlr⟩
  rw[zj Φ88 (by simp)]
  have hne:¬((r.length:Int)+1=0):=by omega
  have w1:IntKind.wrap .i64 (a4+1)=a4+1:=zG (by omega) (by simp only[lLc]at g8;omega)
  have w2:IntKind.wrap .i64 ((r.length:Int)+1 - 1)=r.length:=by rw[zG]<;>omega
  have w3:IntKind.wrap .i64 (r.length:Int)=r.length:=by rw[zG]<;>omega
  have hle:(r.length:Int)≤1048576:=by omega
  have h1:(1:Int)≤r.length+1:=by omega
  have hT:List.take r.length (List.map I r)=r.map I:=List.take_of_length_le (by simp)
  have k1:=fun H h=>zqQ (H:=H) (id:=2) (l:=r) nl h
  have k3:∀H:Heap,H[2]?=some (.arr 0 1 false (r.map I))→frz H 6 (.osl 2 0 0 r.length)=some (Sl.av I 1 (ofL 1 r)):=fun H h=>zcY (l:=r) h rfl
  simp[fi88,c88,c1,hne,w1,w2,w3,hle,h1,hT,k1,k3]
  rfl
abbrev bL (l:Sl Bnd):AV:=Sl.av Bnd.av 3 l
def bZ:Bnd:=⟨[],0,0⟩
theorem zss:(.agg [.str [],I 0,I 0]:AV)=bZ.av:=rfl
theorem zqZ (b:Bnd) (n:List UInt8) (id:Nat) (H:Heap) (h:H[id]?=some (.arr 0 1 false [.str n])):W.call (.clo 267 [] [.optr id 0 0 0]) [b.av] H=some (.bool (decide (b.name=n)),H++[.arr 0 3 false [b.av]]):=by
 rw[ze Φ267]
 have p1:∀B,(H++[B])[id]?=some (.arr 0 1 false [.str n]):=zR h
 by_cases hn:b.name=n<;>simp[znO,c267,p1,hn,zav,zF, -getElem?_pos,gEz]
theorem zhj {α:Type} (p:α→Bool):∀l:List α,match fidx p l with|some j=>∃a,l[j]?=some a∧l.find? p=some a|none=>l.find? p=none
 | []=>rfl
 |a::r=>by
  have ih:=zhj p r
  cases h:p a with
  |true=>simp[fidx,h]
  |false=>
   cases hf:fidx p r with
   |none=>rw[hf]at ih;simp[fidx,h,hf,ih]
   |some j=>rw[hf]at ih;obtain⟨b,h1,h2⟩:=ih;simp[fidx,h,hf,h1,h2]
theorem e235 (l:Sl Bnd) (hl:l.l.length≤9223372036854775807) (n:List UInt8):W.pure 235 [bL l,.str n]=some (.tuple [((zbj l.l n).getD bZ).av,.bool (zbj l.l n).isSome]):=by
 rw[zj Φ235 rfl]
 obtain⟨v,H',d1,rfl,d2⟩:=zu.1 (zr6 l hl (.clo 267 [] [.optr 0 0 0 0]) rfl (fun b=>decide (b.name=n)) [.arr 0 1 false [.str n],.arr 0 3 false [bZ.av]] (fun a _ H hk=>by
  have:H[0]?=some (.arr 0 1 false [.str n]):=hk.get (by simp) rfl
  rw[zqZ a n 0 H this]
  exact⟨rfl,Kept.append _ _ _⟩))
 have g1:H'[1]?=some (.arr 0 3 false [bZ.av]):=d2.get (by simp) rfl
 have s1:∀B,(H'.set 1 B)[1]?=some B:=fun B=>gEt (by have:=d2.1;simp at this;omega)
 have hf:=zhj (fun b:Bnd=>decide (b.name=n)) l.l
 unfold zbj
 cases hx:fidx (fun b:Bnd=>decide (b.name=n)) l.l with
 |none=>
  rw[hx]at hf d1
  simp only at hf d1
  rw[hf]
  simp[zlv,c235,zss,d1,g1,s1, -getElem?_pos,gEz]
 |some j=>
  rw[hx]at hf d1
  obtain⟨a,h1,h2⟩:=hf
  simp only at d1
  rw[h2]
  have hj:¬((j:Int)<0):=by omega
  simp[zlv,c235,zss,d1,g1,s1,h1,hj, -getElem?_pos,gEz]
theorem zeM {e:Ex} (h:zaz e=0):(e.kind=1∧e.args.l=[])∨(e.kind=2∧e.args.l=[])∨(e.kind=3∧(e.op=1∨e.op=2)∧∃a,e.args.l=[a])∨(e.kind=4∧3≤e.op∧e.op≤15∧∃a b,e.args.l=[a,b]):=by
 unfold zaz at h
 split at h
 .cases h
 rename_i h1
 split at h
 .cases h
 rename_i h2
 split at h
 .cases h
 split at h
 .cases h
 split at h
 .cases h
 rename_i h5
 have hs:zbu e=true:=by cases hh:zbu e with|true=>rfl|false=>exact absurd hh h2
 simp only[zbu,bAt,dTe]at hs
 have hl:=hs.2
 have hk:e.kind=1∨e.kind=2∨e.kind=3∨e.kind=4:=by omega
 rcases hk with hk|hk|hk|hk
 .left
  simp only[hk]at hl
  exact⟨hk,List.length_eq_zero_iff.1 (by simpa using hl)⟩
 .right;left
  simp only[hk]at hl
  exact⟨hk,List.length_eq_zero_iff.1 (by simpa using hl)⟩
 .right;right;left
  simp only[hk]at hl
  have hl1:e.args.l.length=1:=by simp at hl;omega
  refine⟨hk,by omega,?_⟩
  match hm:e.args.l,hl1 with
  | [a],_=>exact⟨a,rfl⟩
 .right;right;right
  simp only[hk]at hl
  have hl1:e.args.l.length=2:=by simp at hl;omega
  refine⟨hk,by omega,by omega,?_⟩
  match hm:e.args.l,hl1 with
  | [a,b],_=>exact⟨a,b,rfl⟩
def ExV (e:Ex):Prop:=∀x∈e.parts,zaz x=0
theorem ExV.of {e:Ex} (h:zE e=0):ExV e:=by
 unfold zE at h
 split at h
 .cases h
 .split at h
  .cases h
  .exact zom.1 h
theorem ExV.arg {e:Ex} (h:ExV e) {a:Ex} (ha:a∈e.args.l):ExV a:=by
 intro x hx
 refine h x ?_
 rw[Ex.parts_eq]
 have key:∀l:List Ex,a∈l→x∈Ex.partss l:=by
  intro l
  induction l with
  |nil=>intro h;cases h
  |cons b r ih=>
   intro h
   simp only[Ex.partss,List.mem_append]
   rcases lMc.1 h with rfl|h
   .exact .inl hx
   .exact .inr (ih h)
 exact List.mem_cons_of_mem _ (key _ ha)
theorem ExV.head {e:Ex} (h:ExV e):zaz e=0:=h e (by rw[Ex.parts_eq];simp)
theorem zoY (L:AV) (hL:okO L=some L) (x:Sl Ex) (hx:x.l=[]) (B:Blk):
  okC (W.loop [1,2,6,16,17,18] zg7 [(1,L),(2,.optr 0 0 0 0),(6,.isl (some true) 0 []),(16,Sl.av Ex.av 5 x),(17,I 0),(18,I 0)] [B])
   (fun q F' H'=>q= .exit 0∧F'.keep [1,2,6]=[(1,L),(2,.optr 0 0 0 0),(6,.isl (some true) 0 [])]∧H'=[B]):=by
 rw[zc]
 simp[za0,zcf,hL]
theorem zrn (L:AV) (hL:okO L=some L) (x:Sl Ex) (a:Ex) (hx:x.l=[a]) (B:Blk) (t f:Int) (h:W.pure 216 [a.av,L]=some (.tuple [I t,I f])):
  okC (W.loop [1,2,6,16,17,18] zg7 [(1,L),(2,.optr 0 0 0 0),(6,.isl (some true) 0 []),(16,Sl.av Ex.av 5 x),(17,I 1),(18,I 0)] [B])
   (fun q F' H'=>if f=0 then q= .exit 0∧F'.keep [1,2,6]=[(1,L),(2,.optr 0 0 0 0),(6,.osl 2 0 0 1)]∧H'=[B,.arr 0 5 false [a.av],.arr 0 1 false [I t]] else q= .ret∧F'.get 4=I 0∧F'.get 5=I f):=by
 have w:IntKind.wrap .i64 1=1:=zG (by omega) (by omega)
 by_cases hf:f=0
 .subst hf
  rw[zc]
  simp[za0,zcf,hL,hx,h,zaB,w]
  rw[zc]
  simp[za0,zcf,hL,hx]
 .rw[zc]
  simp[za0,zcf,hL,hx,h,hf]
theorem zrm (L:AV) (hL:okO L=some L) (x:Sl Ex) (a b:Ex) (hx:x.l=[a,b]) (B:Blk) (t f u g:Int) (h:W.pure 216 [a.av,L]=some (.tuple [I t,I f])) (h':W.pure 216 [b.av,L]=some (.tuple [I u,I g])):
  okC (W.loop [1,2,6,16,17,18] zg7 [(1,L),(2,.optr 0 0 0 0),(6,.isl (some true) 0 []),(16,Sl.av Ex.av 5 x),(17,I 2),(18,I 0)] [B])
   (fun q F' H'=>if f=0 then (if g=0 then q= .exit 0∧F'.keep [1,2,6]=[(1,L),(2,.optr 0 0 0 0),(6,.osl 2 1 0 2)]∧H'=[B,.arr 0 5 false [a.av],.arr 1 1 false [I t,I u],.arr 0 5 false [b.av]] else q= .ret∧F'.get 4=I 0∧F'.get 5=I g) else q= .ret∧F'.get 4=I 0∧F'.get 5=I f):=by
 have w:IntKind.wrap .i64 1=1:=zG (by omega) (by omega)
 have w2:IntKind.wrap .i64 2=2:=zG (by omega) (by omega)
 by_cases hf:f=0
 .subst hf
  rw[zc]
  simp[za0,zcf,hL,hx,h,zaB,w]
  rw[zc]
  by_cases hg:g=0
  .subst hg
   have k2:=fun H hh=>zbd (H:=H) (id:=2) (ver:=0) (l:=[t]) hh (by simp) u
   simp at k2
   simp[za0,zcf,hL,hx,h',k2,w2]
   rw[zc]
   simp[za0,zcf,hL,hx]
  .simp[za0,zcf,hL,hx,h',hg]
 .rw[zc]
  simp[za0,zcf,hL,hx,h,hf]
theorem zu9 (l:Sl Bnd) (hl:l.l.length≤9223372036854775807):∀e:Ex,ExV e→W.pure 216 [e.av,bL l]=some (.tuple [I (tyE l.l e).1,I (tyE l.l e).2]):=by
 refine Ex.ind (fun e ih=>?_)
 intro he
 rw[zj Φ216 (by simp),zcw]
 have hL:okO (bL l)=some (bL l):=by simp
 rcases zeM he.head with⟨hk,ha⟩|⟨hk,ha⟩|⟨hk,ho,a,ha⟩|⟨hk,ho1,ho2,a,b,ha⟩
 .obtain⟨q,F',H',d1,rfl,d2,rfl⟩:=zf.1 (zoY (bL l) hL e.args ha (.arr 0 5 false [e.av]))
  simp[zcG,c216,ha,d1,d2,hk,tyEs,zbs]
 .obtain⟨q,F',H',d1,rfl,d2,rfl⟩:=zf.1 (zoY (bL l) hL e.args ha (.arr 0 5 false [e.av]))
  have c1:=e235 l hl e.name
  cases hf:zbj l.l e.name with
  |none=>rw[hf]at c1;simp at c1;simp[zcG,c216,ha,d1,d2,hk,tyEs,zbs,c1,hf]
  |some b=>rw[hf]at c1;simp at c1;simp[zcG,c216,ha,d1,d2,hk,tyEs,zbs,c1,hf]
 .have h1:=ih a (by rw[ha];simp) (he.arg (by rw[ha];simp))
  obtain⟨q,F',H',d1,d2⟩:=zf.1 (zrn (bL l) hL e.args a ha (.arr 0 5 false [e.av]) _ _ h1)
  by_cases hf:(tyE l.l a).2=0
  .rw[if_pos hf]at d2
   obtain⟨rfl,d2,rfl⟩:=d2
   have ets:tyEs l.l e.args.l= .inr [(tyE l.l a).1]:=by rw[ha];simp[tyEs,hf]
   rw[ets]
   generalize (tyE l.l a).1=t at *
   rcases ho with ho|ho
   .by_cases ht:t=1<;>simp[zcG,c216,ha,d1,d2,hk,zbs,ho,ht]
   .by_cases ht:t=2<;>simp[zcG,c216,ha,d1,d2,hk,zbs,ho,ht]
  .rw[if_neg hf]at d2
   obtain⟨rfl,d2,d3⟩:=d2
   have ets:tyEs l.l e.args.l= .inl (tyE l.l a).2:=by rw[ha];simp[tyEs,hf]
   rw[ets]
   simp[zcG,c216,ha,d1,d2,d3]
 .have h1:=ih a (by rw[ha];simp) (he.arg (by rw[ha];simp))
  have h2:=ih b (by rw[ha];simp) (he.arg (by rw[ha];simp))
  obtain⟨q,F',H',d1,d2⟩:=zf.1 (zrm (bL l) hL e.args a b ha (.arr 0 5 false [e.av]) _ _ _ _ h1 h2)
  by_cases hf:(tyE l.l a).2=0
  rotate_left
  .rw[if_neg hf]at d2
   obtain⟨rfl,d2,d3⟩:=d2
   have ets:tyEs l.l e.args.l= .inl (tyE l.l a).2:=by rw[ha];simp[tyEs,hf]
   rw[ets]
   simp[zcG,c216,ha,d1,d2,d3]
  rw[if_pos hf]at d2
  by_cases hg:(tyE l.l b).2=0
  rotate_left
  .rw[if_neg hg]at d2
   obtain⟨rfl,d2,d3⟩:=d2
   have ets:tyEs l.l e.args.l= .inl (tyE l.l b).2:=by rw[ha];simp[tyEs,hf,hg]
   rw[ets]
   simp[zcG,c216,ha,d1,d2,d3]
  rw[if_pos hg]at d2
  obtain⟨rfl,d2,rfl⟩:=d2
  have ets:tyEs l.l e.args.l= .inr [(tyE l.l a).1,(tyE l.l b).1]:=by rw[ha];simp[tyEs,hf,hg]
  rw[ets]
  generalize (tyE l.l a).1=t at *
  generalize (tyE l.l b).1=u at *
  have c1:=e211
  have c2:=zfV e.op
  rw[if_pos ⟨ho1,ho2⟩]at c2
  have a1:zpJ e.op=opAr e.op:=by unfold zpJ opAr;repeat' split<;>omega
  have a2:zpI e.op=opRs e.op:=by unfold zpI opRs;repeat' split<;>omega
  unfold opV at c2
  rw[a1,a2]at c2
  have et:zbs l.l e.kind e.op e.name [t,u]=if t≠u∨(opAr e.op≠0∧t≠opAr e.op) then (0,15) else (opRs e.op,0):=by simp[zbs,hk]
  simp only[]
  rw[et]
  generalize opAr e.op=A at *
  generalize opRs e.op=R at *
  obtain⟨fn,hfn⟩:∃v,opFn e.op=v:=⟨_,rfl⟩
  rw[hfn]at c2
  have hfk:=zeC e.op
  rw[hfn]at hfk
  by_cases q1:t=u
  .by_cases q2:A=0
   .rcases hfk with⟨f,b',rfl⟩|rfl<;>simp[zcG,c216,ha,d1,d2,hk,c1,c2,q1,q2]
   .by_cases q3:u=A
    .rcases hfk with⟨f,b',rfl⟩|rfl<;>simp[zcG,c216,ha,d1,d2,hk,c1,c2,q1,q2,q3]
    .rcases hfk with⟨f,b',rfl⟩|rfl<;>simp[zcG,c216,ha,d1,d2,hk,c1,c2,q1,q2,q3]
  .rcases hfk with⟨f,b',rfl⟩|rfl<;>simp[zcG,c216,ha,d1,d2,hk,c1,c2,q1]
theorem zoX (L:AV) (hL:okO L=some L) (x:Sl Ex) (hx:x.l=[]) (B:Blk):
  okC (W.loop [1,2,6,16,17,18] zg6 [(1,L),(2,.optr 0 0 0 0),(6,.isl (some true) 0 []),(16,Sl.av Ex.av 5 x),(17,I 0),(18,I 0)] [B])
   (fun q F' H'=>q= .exit 0∧F'.keep [1,2,6]=[(1,L),(2,.optr 0 0 0 0),(6,.isl (some true) 0 [])]∧H'=[B]):=by
 rw[zc]
 simp[zaZ,zce,hL]
theorem zrl (L:AV) (hL:okO L=some L) (x:Sl Ex) (a:Ex) (hx:x.l=[a]) (B:Blk) (t f:Int) (h:W.pure 229 [a.av,L]=some (.tuple [I t,I f])):
  okC (W.loop [1,2,6,16,17,18] zg6 [(1,L),(2,.optr 0 0 0 0),(6,.isl (some true) 0 []),(16,Sl.av Ex.av 5 x),(17,I 1),(18,I 0)] [B])
   (fun q F' H'=>if f=0 then q= .exit 0∧F'.keep [1,2,6]=[(1,L),(2,.optr 0 0 0 0),(6,.osl 2 0 0 1)]∧H'=[B,.arr 0 5 false [a.av],.arr 0 1 false [I t]] else q= .ret∧F'.get 4=I 0∧F'.get 5=I f):=by
 have w:IntKind.wrap .i64 1=1:=zG (by omega) (by omega)
 by_cases hf:f=0
 .subst hf
  rw[zc]
  simp[zaZ,zce,hL,hx,h,zaB,w]
  rw[zc]
  simp[zaZ,zce,hL,hx]
 .rw[zc]
  simp[zaZ,zce,hL,hx,h,hf]
theorem zrk (L:AV) (hL:okO L=some L) (x:Sl Ex) (a b:Ex) (hx:x.l=[a,b]) (B:Blk) (t f u g:Int) (h:W.pure 229 [a.av,L]=some (.tuple [I t,I f])) (h':W.pure 229 [b.av,L]=some (.tuple [I u,I g])):
  okC (W.loop [1,2,6,16,17,18] zg6 [(1,L),(2,.optr 0 0 0 0),(6,.isl (some true) 0 []),(16,Sl.av Ex.av 5 x),(17,I 2),(18,I 0)] [B])
   (fun q F' H'=>if f=0 then (if g=0 then q= .exit 0∧F'.keep [1,2,6]=[(1,L),(2,.optr 0 0 0 0),(6,.osl 2 1 0 2)]∧H'=[B,.arr 0 5 false [a.av],.arr 1 1 false [I t,I u],.arr 0 5 false [b.av]] else q= .ret∧F'.get 4=I 0∧F'.get 5=I g) else q= .ret∧F'.get 4=I 0∧F'.get 5=I f):=by
 have w:IntKind.wrap .i64 1=1:=zG (by omega) (by omega)
 have w2:IntKind.wrap .i64 2=2:=zG (by omega) (by omega)
 by_cases hf:f=0
 .subst hf
  rw[zc]
  simp[zaZ,zce,hL,hx,h,zaB,w]
  rw[zc]
  by_cases hg:g=0
  .subst hg
   have k2:=fun H hh=>zbd (H:=H) (id:=2) (ver:=0) (l:=[t]) hh (by simp) u
   simp at k2
   simp[zaZ,zce,hL,hx,h',k2,w2]
   rw[zc]
   simp[zaZ,zce,hL,hx]
  .simp[zaZ,zce,hL,hx,h',hg]
 .rw[zc]
  simp[zaZ,zce,hL,hx,h,hf]
theorem zrL {o a b:Int} (ha:isIt a=true) (hb:isIt b=true): -4611686018427387904≤(opE o a b).1∧(opE o a b).1≤4611686018427387904:=by
 have ha':=(zV a).1 ha
 have hb':=(zV b).1 hb
 have hb1:∀c:Bool,0≤b01 c∧b01 c≤1:=fun c=>by cases c<;>simp[b01]
 unfold opE
 by_cases h:o=3
 .rw[if_pos h]
  simp only;omega
 rw[if_neg h];clear h
 by_cases h:o=4
 .rw[if_pos h]
  simp only;omega
 rw[if_neg h];clear h
 by_cases h:o=5
 .rw[if_pos h]
  split
  .simp
  .have:(a* b).natAbs≤1099511627776:=by rw[Int.natAbs_mul];omega
   simp only;omega
 rw[if_neg h];clear h
 by_cases h:o=6
 .rw[if_pos h]
  split
  .simp
  .have:(a.tdiv b).natAbs≤a.natAbs:=by rw[Int.natAbs_tdiv];exact Nat.div_le_self _ _
   simp only;omega
 rw[if_neg h];clear h
 by_cases h:o=7
 .rw[if_pos h]
  split
  .simp
  .have:(a.tmod b).natAbs≤a.natAbs:=by rw[Int.natAbs_tmod];exact Nat.mod_le _ _
   simp only;omega
 rw[if_neg h];clear h
 by_cases h:o=8
 .rw[if_pos h]
  have:=hb1 (decide (a=b));simp only;omega
 rw[if_neg h];clear h
 by_cases h:o=9
 .rw[if_pos h]
  have:=hb1 (!decide (a=b));simp only;omega
 rw[if_neg h];clear h
 by_cases h:o=10
 .rw[if_pos h]
  have:=hb1 (decide (a<b));simp only;omega
 rw[if_neg h];clear h
 by_cases h:o=11
 .rw[if_pos h]
  have:=hb1 (decide (a≤b));simp only;omega
 rw[if_neg h];clear h
 by_cases h:o=12
 .rw[if_pos h]
  have:=hb1 (decide (b<a));simp only;omega
 rw[if_neg h];clear h
 by_cases h:o=13
 .rw[if_pos h]
  have:=hb1 (decide (b≤a));simp only;omega
 rw[if_neg h];clear h
 by_cases h:o=14
 .rw[if_pos h]
  have:=hb1 (!decide (a=0)&& !decide (b=0));simp only;omega
 rw[if_neg h];clear h
 have:=hb1 (!decide (a=0)|| !decide (b=0));simp only;omega
theorem zky {l:List Bnd} {e:Ex} (h:(vaE l e).2=0):isIt (vaE l e).1=true:=by
 rw[zcK]at *
 split at h
 .simp only at h;subst h;rfl
 .unfold zbf at *
  exact zo9 h
theorem zi6 (n:Int):isIt n= !decide (1099511627776<n.natAbs):=by
 cases h:isIt n with
 |true=>have:=(zV n).1 h;simp;omega
 |false=>
  have:¬(-1099511627776≤n∧n≤1099511627776):=fun hh=>by rw[(zV n).2 hh]at h;cases h
  simp;omega
theorem e229 (l:Sl Bnd) (hl:l.l.length≤9223372036854775807) (hv:∀b∈l.l,isIt b.value=true):∀e:Ex,ExV e→W.pure 229 [e.av,bL l]=some (.tuple [I (vaE l.l e).1,I (vaE l.l e).2]):=by
 refine Ex.ind (fun e ih=>?_)
 intro he
 rw[zj Φ229 (by simp),zcK]
 have hL:okO (bL l)=some (bL l):=by simp
 have hval:0≤e.value∧e.value≤1099511627776:=by
  have:=he.head
  unfold zaz at this
  split at this
  .cases this
  split at this
  .cases this
  split at this
  .cases this
  .omega
 have fin:∀n:Int, -4611686018427387904≤n→n≤4611686018427387904→W.pure 239 [I n]=some (I n.natAbs):=e239
 rcases zeM he.head with⟨hk,ha⟩|⟨hk,ha⟩|⟨hk,ho,a,ha⟩|⟨hk,ho1,ho2,a,b,ha⟩
 .obtain⟨q,F',H',d1,rfl,d2,rfl⟩:=zf.1 (zoX (bL l) hL e.args ha (.arr 0 5 false [e.av]))
  have c3:=fin e.value (by omega) (by omega)
  have hn:isIt e.value=true:=(zV _).2 (by omega)
  have hn2:¬(1099511627776:Int)<(e.value.natAbs:Int):=by omega
  have et:zbf l.l e.kind e.op e.name e.value []=(e.value,0):=by simp[zbf,hk,fitV,hn]
  have ets:vaEs l.l e.args.l= .inr []:=by rw[ha];rfl
  rw[ets];simp only[];rw[et]
  generalize e.value.natAbs=N at *
  simp[zc3,c229,ha,d1,d2,hk,c3,hn2]
 .obtain⟨q,F',H',d1,rfl,d2,rfl⟩:=zf.1 (zoX (bL l) hL e.args ha (.arr 0 5 false [e.av]))
  have c1:=e235 l hl e.name
  have ets:vaEs l.l e.args.l= .inr []:=by rw[ha];rfl
  rw[ets];simp only[]
  have hb:isIt ((zbj l.l e.name).getD bZ).value=true:=by
   cases hf:zbj l.l e.name with
   |none=>rfl
   |some b=>exact hv b (List.mem_of_find?_eq_some hf)
  have et:zbf l.l e.kind e.op e.name e.value []=(((zbj l.l e.name).getD bZ).value,0):=by
   have:zbf l.l e.kind e.op e.name e.value []=fitV (((zbj l.l e.name).getD bZ).value,0):=by
    simp only[zbf,hk]
    cases zbj l.l e.name<;>rfl
   rw[this];simp[fitV,hb]
  rw[et]
  generalize ((zbj l.l e.name).getD bZ)=bb at *
  have hbb:=(zV _).1 hb
  have c3:=fin bb.value (by omega) (by omega)
  have hn2:¬(1099511627776:Int)<(bb.value.natAbs:Int):=by omega
  generalize bb.value.natAbs=N at *
  simp[zc3,c229,ha,d1,d2,hk,c1,c3,hn2]
 .have h1:=ih a (by rw[ha];simp) (he.arg (by rw[ha];simp))
  obtain⟨q,F',H',d1,d2⟩:=zf.1 (zrl (bL l) hL e.args a ha (.arr 0 5 false [e.av]) _ _ h1)
  by_cases hf:(vaE l.l a).2=0
  .rw[if_pos hf]at d2
   obtain⟨rfl,d2,rfl⟩:=d2
   have hit:=(zV _).1 (zky hf)
   have ets:vaEs l.l e.args.l= .inr [(vaE l.l a).1]:=by rw[ha];simp[vaEs,hf]
   rw[ets];simp only[]
   generalize (vaE l.l a).1=t at *
   have w1:IntKind.wrap .i64 (0 - t)=0 - t:=zG (by omega) (by omega)
   have w1':IntKind.wrap .i64 (-t)= -t:=zG (by omega) (by omega)
   have w2:IntKind.wrap .i64 (1 - t)=1 - t:=zG (by omega) (by omega)
   rcases ho with ho|ho
   .have c3:=fin (-t) (by omega) (by omega)
    have hn:isIt (-t)=true:=(zV _).2 (by omega)
    have hn2:¬1099511627776<(-t).natAbs:=by omega
    have et:zbf l.l e.kind e.op e.name e.value [t]=(-t,0):=by simp[zbf,hk,ho,fitV,hn]
    rw[et]
    generalize hnn:(-t).natAbs=N at *
    have hn3:¬(1099511627776:Int)<N:=by omega
    simp[zc3,c229,ha,d1,d2,hk,ho,w1,w1',c3,hn3]
    try omega
   .have c3:=fin (1 - t) (by omega) (by omega)
    have ie:=zi6 (1 - t)
    by_cases hn:isIt (1 - t)=true
    .have hn2:¬1099511627776<(1 - t).natAbs:=by rw[ie]at hn;simpa using hn
     have et:zbf l.l e.kind e.op e.name e.value [t]=(1 - t,0):=by simp[zbf,hk,ho,fitV,hn]
     rw[et]
     generalize hnn:(1 - t).natAbs=N at *
     have hn3:¬(1099511627776:Int)<N:=by omega
     simp[zc3,c229,ha,d1,d2,hk,ho,w1,w1',w2,c3,hn3]
     try omega
    .have hn2:1099511627776<(1 - t).natAbs:=by rw[ie]at hn;simpa using hn
     have et:zbf l.l e.kind e.op e.name e.value [t]=(0,14):=by simp[zbf,hk,ho,fitV,hn]
     rw[et]
     generalize hnn:(1 - t).natAbs=N at *
     have hn3:(1099511627776:Int)<N:=by omega
     simp[zc3,c229,ha,d1,d2,hk,ho,w1,w1',w2,c3,hn3]
     try omega
  .rw[if_neg hf]at d2
   obtain⟨rfl,d2,d3⟩:=d2
   have ets:vaEs l.l e.args.l= .inl (vaE l.l a).2:=by rw[ha];simp[vaEs,hf]
   rw[ets]
   simp[zc3,c229,ha,d1,d2,d3]
 .have h1:=ih a (by rw[ha];simp) (he.arg (by rw[ha];simp))
  have h2:=ih b (by rw[ha];simp) (he.arg (by rw[ha];simp))
  obtain⟨q,F',H',d1,d2⟩:=zf.1 (zrk (bL l) hL e.args a b ha (.arr 0 5 false [e.av]) _ _ _ _ h1 h2)
  by_cases hf:(vaE l.l a).2=0
  rotate_left
  .rw[if_neg hf]at d2
   obtain⟨rfl,d2,d3⟩:=d2
   have ets:vaEs l.l e.args.l= .inl (vaE l.l a).2:=by rw[ha];simp[vaEs,hf]
   rw[ets]
   simp[zc3,c229,ha,d1,d2,d3]
  rw[if_pos hf]at d2
  by_cases hg:(vaE l.l b).2=0
  rotate_left
  .rw[if_neg hg]at d2
   obtain⟨rfl,d2,d3⟩:=d2
   have ets:vaEs l.l e.args.l= .inl (vaE l.l b).2:=by rw[ha];simp[vaEs,hf,hg]
   rw[ets]
   simp[zc3,c229,ha,d1,d2,d3]
  rw[if_pos hg]at d2
  obtain⟨rfl,d2,rfl⟩:=d2
  have ets:vaEs l.l e.args.l= .inr [(vaE l.l a).1,(vaE l.l b).1]:=by rw[ha];simp[vaEs,hf,hg]
  rw[ets];simp only[]
  have i1:=zky hf
  have i2:=zky hg
  generalize (vaE l.l a).1=t at *
  generalize (vaE l.l b).1=u at *
  have c1:=e211
  have c2:=zfV e.op
  rw[if_pos ⟨ho1,ho2⟩]at c2
  have c4:=zov e.op t u ⟨ho1,ho2⟩ i1 i2
  have bd:=zrL (o:=e.op) i1 i2
  have c3:=fin _ bd.1 bd.2
  have ie:=zi6 (opE e.op t u).1
  have et:zbf l.l e.kind e.op e.name e.value [t,u]=fitV (opE e.op t u):=by simp[zbf,hk]
  rw[et]
  unfold opV at c2
  obtain⟨fn,hfn⟩:∃v,opFn e.op=v:=⟨_,rfl⟩
  have hfk:=zeC e.op
  rw[hfn]at c2 c4 hfk
  unfold fitV
  generalize (opE e.op t u).1=V at *
  generalize (opE e.op t u).2=E at *
  generalize hnn:V.natAbs=N at *
  rcases hfk with⟨f,b',rfl⟩|rfl
  .by_cases hE:E=0
   .cases hn:isIt V with
    |true=>
     have hn3:¬(1099511627776:Int)<N:=by rw[ie]at hn;simp at hn;omega
     simp[zc3,c229,ha,d1,d2,hk,c1,c2,c4,hE,c3,hn3]
     try omega
    |false=>
     have hn3:(1099511627776:Int)<N:=by rw[ie]at hn;simp at hn;omega
     simp[zc3,c229,ha,d1,d2,hk,c1,c2,c4,hE,c3,hn3]
     try omega
   .simp[zc3,c229,ha,d1,d2,hk,c1,c2,c4,hE]
  .exfalso
   have cases13:e.op=3∨e.op=4∨e.op=5∨e.op=6∨e.op=7∨e.op=8∨e.op=9∨e.op=10∨e.op=11∨e.op=12∨e.op=13∨e.op=14∨e.op=15:=by omega
   clear c1 c2 c3 c4 d1 d2 h1 h2
   generalize e.op=o at *
   rcases cases13 with rfl|rfl|rfl|rfl|rfl|rfl|rfl|rfl|rfl|rfl|rfl|rfl|rfl<;>simp[opFn]at hfn
abbrev b1L (a:Int):Sl Bnd:=ofL 3 [⟨xN,1,a⟩]
abbrev b2L (a b:Int):Sl Bnd:=ofL 3 [⟨xN,1,a⟩,⟨yN,1,b⟩]
theorem zjl (a b:Int):W.pure 168 [.isl (some false) 1 [.str [120]],.isl (some false) 1 [I a,I b]]=some (bL (b1L a)):=(zeY 60).pure _ _ _ (by kernel_rfl)
theorem zpf (a b:Int):W.pure 168 [.isl (some false) 1 [.str [120],.str [121]],.isl (some false) 1 [I a,I b]]=some (bL (b2L a b)):=(zeY 60).pure _ _ _ (by kernel_rfl)
theorem nmX:isNm xN=true:=by kernel_rfl
theorem nmY:isNm yN=true:=by kernel_rfl
theorem ltXY:zav .geq xN yN= .bool false:=by kernel_rfl
theorem zjk (a:Int) (ha:isIt a=true):W.pure 215 [bL (b1L a)]=some (.bool true):=by
 have ha':=(zV a).1 ha
 have c1:=e212 xN
 rw[nmX]at c1
 have h1:¬a< -1099511627776:=by omega
 have h2:¬1099511627776<a:=by omega
 have w:IntKind.wrap .i64 1=1:=zG (by omega) (by omega)
 obtain⟨q,F,H,d1,rfl,d2⟩:=zf.1 (show okC (W.loop [0,7,8,9] zi3 [(0,bL (b1L a)),(7,bL (b1L a)),(8,I 1),(9,I 0)] []) (fun q F H=>q= .exit 0∧F.keep [0]=[(0,bL (b1L a))]) by
  rw[zc]
  simp[zc5,zeT,c1,h1,h2,w]
  rw[zc]
  simp[zc5,zeT])
 rw[zj Φ215 rfl]
 simp[zly,c215,d1,d2]
theorem zpe (a b:Int) (ha:isIt a=true) (hb:isIt b=true):W.pure 215 [bL (b2L a b)]=some (.bool true):=by
 have ha':=(zV a).1 ha
 have hb':=(zV b).1 hb
 have c1:=e212 xN
 rw[nmX]at c1
 have c2:=e212 yN
 rw[nmY]at c2
 have h1:¬a< -1099511627776:=by omega
 have h2:¬1099511627776<a:=by omega
 have h3:¬b< -1099511627776:=by omega
 have h4:¬1099511627776<b:=by omega
 have w:IntKind.wrap .i64 1=1:=zG (by omega) (by omega)
 have w2:IntKind.wrap .i64 2=2:=zG (by omega) (by omega)
 have w0:IntKind.wrap .i64 0=0:=zG (by omega) (by omega)
 have l1:=ltXY
 obtain⟨q,F,H,d1,rfl,d2⟩:=zf.1 (show okC (W.loop [0,7,8,9] zi3 [(0,bL (b2L a b)),(7,bL (b2L a b)),(8,I 2),(9,I 0)] []) (fun q F H=>q= .exit 0∧F.keep [0]=[(0,bL (b2L a b))]) by
  rw[zc]
  simp[zc5,zeT,c1,h1,h2,w]
  rw[zc]
  simp[zc5,zeT,c2,h3,h4,w2,w0,l1]
  rw[zc]
  simp[zc5,zeT])
 rw[zj Φ215 rfl]
 simp[zly,c215,d1,d2]
def tyR (l:List Bnd) (e:Ex):Int×Int:=if zE e≠0 then (0,zE e) else tyE l e
theorem e167 (l:Sl Bnd) (hl:l.l.length≤9223372036854775807) (hb:W.pure 215 [bL l]=some (.bool true)) (e:Ex):W.pure 167 [e.av,bL l]=some (.tuple [I (tyR l.l e).1,I (tyR l.l e).2]):=by
 rw[zj Φ167 (by simp)]
 have c1:=e153 e
 unfold tyR
 by_cases h:zE e=0
 .rw[h]at c1
  have c2:=zu9 l hl e (.of h)
  simp[zlI,c167,c1,hb,c2,h]
 .simp[zlI,c167,c1,h]
def evR (l:List Bnd) (e:Ex):Int×Int:=if (tyR l e).2≠0 then (0,(tyR l e).2) else vaE l e
theorem e208 (l:Sl Bnd) (hl:l.l.length≤9223372036854775807) (hb:W.pure 215 [bL l]=some (.bool true)) (hv:∀b∈l.l,isIt b.value=true) (e:Ex):W.pure 208 [e.av,bL l]=some (.tuple [I (evR l.l e).1,I (evR l.l e).2]):=by
 rw[zj Φ208 (by simp)]
 have c1:=e167 l hl hb e
 unfold evR
 by_cases h:(tyR l.l e).2=0
 .rw[h]at c1
  have h0:zE e=0:=by
   apply cBc
   intro hn
   unfold tyR at h
   rw[if_pos hn]at h
   exact hn h
  have c2:=e229 l hl hv e (.of h0)
  simp[zlB,c208,c1,c2,h]
 .simp[zlB,c208,c1,h]
section
set_option maxRecDepth 10000
end
section
set_option maxRecDepth 10000
end
section
set_option maxRecDepth 10000
end
def cutC:Nat→LC→LC
 |n+1,.seq a b=> .seq a (cutC n b)
 |0,_=> .skip
 |_+1,x=>x
def zN:Nat→LC→LC
 |n+1,.seq _ b=>zN n b
 |0,x=>x
 |_+1,_=> .skip
theorem zeN (R:Rec):∀(n:Nat) (c:LC) (F:Fr) (H:Heap) (F1:Fr) (H1:Heap),evC R (cutC n c) F H=some (.normal,F1,H1)→evC R c F H=evC R (zN n c) F1 H1
 |0,c,F,H,F1,H1,h=>by
  simp only[cutC,za2,oSi,pMi,true_and]at h
  obtain⟨rfl,rfl⟩:=h
  rfl
 |n+1,.seq a b,F,H,F1,H1,h=>by
  simp only[cutC,zdw]at h
  simp only[zN,zdw]
  cases ha:evC R a F H with
  |none=>rw[ha]at h;cases h
  |some p=>
   obtain⟨x,F2,H2⟩:=p
   rw[ha]at h
   cases x with
   |normal=>
    simp only[Option.bind_some,zdJ]at h⊢
    exact zeN R n b F2 H2 F1 H1 h
   |ret=>simp at h
   |exit i=>simp at h
 |n+1,.skip,F,H,F1,H1,h=>by simpa[cutC,zN]using h
 |n+1,.ret,F,H,F1,H1,h=>by simp[cutC]at h
 |n+1,.exit i,F,H,F1,H1,h=>by simp[cutC]at h
 |n+1,.reg d i o l,F,H,F1,H1,h=>by simp only[cutC]at h;simp only[zN,za2];exact h
 |n+1,.cond c a b,F,H,F1,H1,h=>by simp only[cutC]at h;simp only[zN,za2];exact h
 |n+1,.block i l b,F,H,F1,H1,h=>by simp only[cutC]at h;simp only[zN,za2];exact h
 |n+1,.loop l b,F,H,F1,H1,h=>by simp only[cutC]at h;simp only[zN,za2];exact h
 |n+1,.rng f p i a b,F,H,F1,H1,h=>by simp only[cutC]at h;simp only[zN,za2];exact h
 |n+1,.hol t a,F,H,F1,H1,h=>by simp only[cutC]at h;simp only[zN,za2];exact h
 |n+1,.any,F,H,F1,H1,h=>by simp only[cutC]at h;simp only[zN,za2];exact h
 |n+1,.scp b,F,H,F1,H1,h=>by simp only[cutC]at h;simp only[zN,za2];exact h
theorem ty1 {l:List Bnd} {e a:Ex} (ha:e.args.l=[a]) (h:(tyE l e).2=0):(tyE l a).2=0∧tyE l e=zbs l e.kind e.op e.name [(tyE l a).1]:=by
 rw[zcw,ha]at h
 rw[zcw l e,ha]
 by_cases h1:(tyE l a).2=0
 .simp[tyEs,h1]
 .exfalso;simp[tyEs,h1]at h
theorem ty2 {l:List Bnd} {e a b:Ex} (ha:e.args.l=[a,b]) (h:(tyE l e).2=0):(tyE l a).2=0∧(tyE l b).2=0∧tyE l e=zbs l e.kind e.op e.name [(tyE l a).1,(tyE l b).1]:=by
 rw[zcw,ha]at h
 rw[zcw l e,ha]
 by_cases h1:(tyE l a).2=0
 .by_cases h2:(tyE l b).2=0
  .simp[tyEs,h1,h2]
  .exfalso;simp[tyEs,h1,h2]at h
 .exfalso;simp[tyEs,h1]at h
theorem ty0 {l:List Bnd} {e:Ex} (ha:e.args.l=[]):tyE l e=zbs l e.kind e.op e.name []:=by
 rw[zcw l e,ha];simp[tyEs]
theorem znL (b:Bool):fitV (b01 b,0)=(b01 b,0):=by cases b<;>rfl
theorem zvd (l:List Bnd) (hb:∀b∈l,b.type=1):∀e:Ex,ExV e→(tyE l e).2=0→(tyE l e).1=2→(vaE l e).2=0→(vaE l e).1=0∨(vaE l e).1=1:=by
 refine Ex.ind (fun e ih=>?_)
 intro he h1 h2 h3
 rcases zeM he.head with⟨hk,ha⟩|⟨hk,ha⟩|⟨hk,ho,a,ha⟩|⟨hk,ho1,ho2,a,b,ha⟩
 .exfalso;rw[ty0 ha]at h2;simp[zbs,hk]at h2
 .exfalso
  rw[ty0 ha]at h1 h2
  cases hf:zbj l e.name with
  |none=>simp[zbs,hk,hf]at h1
  |some b=>
   simp[zbs,hk,hf]at h2
   have:=hb b (List.mem_of_find?_eq_some hf)
   omega
 .obtain⟨t1,t2⟩:=ty1 ha h1
  rw[t2]at h1 h2
  rcases ho with ho|ho
  .exfalso
   simp[zbs,hk,ho]at h2
   split at h2<;>simp at h2
  .have t3:(tyE l a).1=2:=by
    apply cBc
    intro hn
    simp[zbs,hk,ho,hn]at h1
   rw[zcK,ha]at h3
   rw[zcK l e,ha]
   by_cases hv:(vaE l a).2=0
   .have:=ih a (by rw[ha];simp) (he.arg (by rw[ha];simp)) t1 t3 hv
    rcases this with hh|hh
    .right;simp[vaEs,hv,hh,zbf,hk,ho,fitV];decide
    .left;simp[vaEs,hv,hh,zbf,hk,ho,fitV];try decide
   .exfalso;simp[vaEs,hv]at h3
 .obtain⟨t1,t1',t2⟩:=ty2 ha h1
  rw[t2]at h1 h2
  have ho:8≤e.op:=by
   apply cBc
   intro hn
   have a2:opRs e.op=1:=by unfold opRs;rw[if_pos (by omega)]
   simp[zbs,hk,a2]at h2
   split at h2<;>simp at h2
  rw[zcK,ha]at h3
  rw[zcK l e,ha]
  by_cases hv:(vaE l a).2=0
  .by_cases hw:(vaE l b).2=0
   .have key:∀x y:Int,∃q,opE e.op x y=(b01 q,0):=by
     intro x y
     have c8:e.op=8∨e.op=9∨e.op=10∨e.op=11∨e.op=12∨e.op=13∨e.op=14∨e.op=15:=by omega
     rcases c8 with h|h|h|h|h|h|h|h<;>rw[h]<;>exact⟨_,by simp only[opE];rfl⟩
    obtain⟨q,hq⟩:=key (vaE l a).1 (vaE l b).1
    simp[vaEs,hv,hw,zbf,hk,hq,znL]
    cases q<;>simp[b01]
   .exfalso;simp[vaEs,hv,hw]at h3
  .exfalso;simp[vaEs,hv]at h3
section
set_option maxRecDepth 10000
end
theorem zk2 (x:Sl (List UInt8)) (hl:x.l.length≤1000000) (s:(List UInt8)):∀(r:List (List UInt8)) (k:Nat),x.l.drop k=r→k≤x.l.length→
  okC (W.loop [0,1,7,8] zla [(0,Sl.av AV.str 1 x),(1,AV.str s),(7,I x.l.length),(8,I k)] [])
   (fun q F H=>(q= .exit 0∧s∉r)∨∃j:Nat,q= .ret∧F.get 4=I j∧s∈r)
 | [],k,hk,hb=>by
  have hlen:k=x.l.length:=by have:=congrArg List.length hk;simp at this;omega
  subst hlen
  rw[zc]
  simp[zga,zhG]
 |a::r,k,hk,hb=>by
  have hlt:k<x.l.length:=by have:=congrArg List.length hk;simp at this;omega
  have hget:x.l[k]=a:=by have:=congrArg List.head? hk;simpa[gEg hlt]using this
  have hk':x.l.drop (k+1)=r:=by rw[←List.drop_drop,hk];rfl
  have w:IntKind.wrap .i64 ((k:Int)+1)=((k+1:Nat):Int):=by rw[zG (by omega) (by omega)];omega
  have hc:(k:Int)<x.l.length:=by omega
  rw[zc]
  by_cases h:s=a
  .simp[zga,zhG,hc,hlt,hget,h,zav]
   exact⟨k,rfl⟩
  .have ih:=zk2 x hl s r (k+1) hk' hlt
   obtain⟨q,F,H,g1,g2⟩:=zf.1 ih
   simp at g1
   simp[zga,zhG,hc,hlt,hget,h,w,g1,zav]
   rcases g2 with⟨g2,g3⟩|⟨j,g2,g3,g4⟩
   .left;exact⟨g2,g3⟩
   .right;exact⟨g2,⟨j,g3⟩,g4⟩
theorem zva (x:Sl (List UInt8)) (hl:x.l.length≤1000000) (s:(List UInt8)):W.pure 166 [Sl.av AV.str 1 x,AV.str s]=some (.bool (decide (s∈x.l))):=by
 have c1:∃n:Int,W.pure 214 [Sl.av AV.str 1 x,AV.str s]=some (I n)∧decide (0≤n)=decide (s∈x.l):=by
  rw[zj Φ214 rfl]
  obtain⟨q,F,H,d1,d2⟩:=zf.1 (zk2 x hl s x.l 0 rfl (by omega))
  simp at d1
  rcases d2 with⟨d2,d3⟩|⟨j,d2,d3,d4⟩
  .refine⟨-1,?_,by simp[d3]⟩
   subst d2
   simp[zlz,c214,d1]
  .refine⟨j,?_,by simp[d4]⟩
   subst d2
   simp[zlz,c214,d1,d3]
 obtain⟨n,c1,c2⟩:=c1
 rw[zj Φ166 rfl,←c2]
 simp[zoe,c166,c1]
theorem zk4 (x:Sl Int) (hl:x.l.length≤1000000) (s:Int):∀(r:List Int) (k:Nat),x.l.drop k=r→k≤x.l.length→
  okC (W.loop [0,1,7,8] zlf [(0,Sl.av I 1 x),(1,I s),(7,I x.l.length),(8,I k)] [])
   (fun q F H=>(q= .exit 0∧s∉r)∨∃j:Nat,q= .ret∧F.get 4=I j∧s∈r)
 | [],k,hk,hb=>by
  have hlen:k=x.l.length:=by have:=congrArg List.length hk;simp at this;omega
  subst hlen
  rw[zc]
  simp[zgc,zhI]
 |a::r,k,hk,hb=>by
  have hlt:k<x.l.length:=by have:=congrArg List.length hk;simp at this;omega
  have hget:x.l[k]=a:=by have:=congrArg List.head? hk;simpa[gEg hlt]using this
  have hk':x.l.drop (k+1)=r:=by rw[←List.drop_drop,hk];rfl
  have w:IntKind.wrap .i64 ((k:Int)+1)=((k+1:Nat):Int):=by rw[zG (by omega) (by omega)];omega
  have hc:(k:Int)<x.l.length:=by omega
  rw[zc]
  by_cases h:s=a
  .simp[zgc,zhI,hc,hlt,hget,h,zav]
   exact⟨k,rfl⟩
  .have ih:=zk4 x hl s r (k+1) hk' hlt
   obtain⟨q,F,H,g1,g2⟩:=zf.1 ih
   simp at g1
   simp[zgc,zhI,hc,hlt,hget,h,w,g1,zav]
   rcases g2 with⟨g2,g3⟩|⟨j,g2,g3,g4⟩
   .left;exact⟨g2,g3⟩
   .right;exact⟨g2,⟨j,g3⟩,g4⟩
theorem zqP (x:Sl Int) (hl:x.l.length≤1000000) (s:Int):W.pure 171 [Sl.av I 1 x,I s]=some (.bool (decide (s∈x.l))):=by
 have c1:∃n:Int,W.pure 156 [Sl.av I 1 x,I s]=some (I n)∧decide (0≤n)=decide (s∈x.l):=by
  rw[zj Φ156 rfl]
  obtain⟨q,F,H,d1,d2⟩:=zf.1 (zk4 x hl s x.l 0 rfl (by omega))
  simp at d1
  rcases d2 with⟨d2,d3⟩|⟨j,d2,d3,d4⟩
  .refine⟨-1,?_,by simp[d3]⟩
   subst d2
   simp[zlL,c156,d1]
  .refine⟨j,?_,by simp[d4]⟩
   subst d2
   simp[zlL,c156,d1,d3]
 obtain⟨n,c1,c2⟩:=c1
 rw[zj Φ171 rfl,←c2]
 simp[zoc,c171,c1]
theorem zde {l m:List Bnd}:∀{es:List Ex},(∀e∈es,tyE l e=tyE m e)→tyEs l es=tyEs m es
 | [],h=>rfl
 |e::r,h=>by
  simp only[tyEs,h e (List.mem_cons_self ..),zde fun x hx=>h x (List.mem_cons_of_mem _ hx)]
theorem ze6 {l m:List Bnd}:∀{es:List Ex},(∀e∈es,vaE l e=vaE m e)→vaEs l es=vaEs m es
 | [],h=>rfl
 |e::r,h=>by
  simp only[vaEs,h e (List.mem_cons_self ..),ze6 fun x hx=>h x (List.mem_cons_of_mem _ hx)]
theorem Ex.parts_arg {e a x:Ex} (ha:a∈e.args.l) (hx:x∈a.parts):x∈e.parts:=by
 rw[Ex.parts_eq]
 have key:∀l:List Ex,a∈l→x∈Ex.partss l:=by
  intro l
  induction l with
  |nil=>intro h;cases h
  |cons b r ih=>
   intro h
   simp only[Ex.partss,List.mem_append]
   rcases lMc.1 h with rfl|h
   .exact .inl hx
   .exact .inr (ih h)
 exact List.mem_cons_of_mem _ (key _ ha)
theorem zjg (a b:Int):zbj (b1L a).l xN=zbj (b2L a b).l xN:=by simp[zbj,b1L,b2L,ofL]
theorem zrg (a b:Int):∀e:Ex,(∀x∈e.parts,x.kind=2→x.name=xN)→tyE (b1L a).l e=tyE (b2L a b).l e:=by
 refine Ex.ind (fun e ih=>?_)
 intro h
 rw[zcw,zcw,zde fun a' ha=>ih a' ha fun x hx=>h x (Ex.parts_arg ha hx)]
 by_cases hk:e.kind=2
 .have hn:=h e (by rw[Ex.parts_eq];simp) hk
  have hf:=zjg a b
  cases tyEs (b2L a b).l e.args.l with
  |inl f=>rfl
  |inr ts=>simp only[zbs,hk,hn,hf]
 .cases tyEs (b2L a b).l e.args.l with
  |inl f=>rfl
  |inr ts=>simp only[zbs,hk,if_false]
theorem zsM (a b:Int):∀e:Ex,(∀x∈e.parts,x.kind=2→x.name=xN)→vaE (b1L a).l e=vaE (b2L a b).l e:=by
 refine Ex.ind (fun e ih=>?_)
 intro h
 rw[zcK,zcK,ze6 fun a' ha=>ih a' ha fun x hx=>h x (Ex.parts_arg ha hx)]
 by_cases hk:e.kind=2
 .have hn:=h e (by rw[Ex.parts_eq];simp) hk
  have hf:=zjg a b
  cases vaEs (b2L a b).l e.args.l with
  |inl f=>rfl
  |inr ts=>simp only[zbf,hk,hn,hf]
 .cases vaEs (b2L a b).l e.args.l with
  |inl f=>rfl
  |inr ts=>simp only[zbf,hk,if_false]
abbrev hdA (i o le mo t:Int) (ns:List (List UInt8)) (f:Nat) (xs:List AV) (g:Nat):AV:= .agg [I i,I o,I le,I mo,I t,Sl.av AV.str 1 (ofL 1 ns),.clo f [] xs,.clo g [] []]
theorem zlW (e:Ex) (p:List UInt8→Bool):(zT (zbV (zct e))).all p=(zct e).all p:=by
 rw[Bool.eq_iff_iff,lAt,lAt]
 constructor
 .intro h s hs;exact h s ((zeR s _).2 ((zem s _).2 hs))
 .intro h s hs;exact h s ((zem s _).1 ((zeR s _).1 hs))
theorem zlV (e:Ex) (hz:zE e=0):(zct e).length≤100:=by
 have hs:=zhq hz
 have:=zel e.parts []
 rw[Ex.parts_len]at this
 simp at this
 rw[zeb];omega
def ckN (ns:List (List UInt8)) (l:List Bnd) (t:Int) (e:Ex):Int:=
 if zE e≠0 then zE e
 else if (zct e).all (fun s=>decide (s∈ns))=false then 5
 else if (tyE l e).2≠0∨(tyE l e).1≠t then 15 else 0
theorem zvc (e:Ex):ckN [xN,yN] (b2L 0 0).l 1 e=ckE 9 e:=by
 unfold ckN ckE
 have e1:zfM 9=[xN,yN]:=rfl
 have e2:bnd2 0 0=(b2L 0 0).l:=rfl
 have e3:etyp 9=1:=rfl
 rw[e1,e2,e3]
 by_cases h:zE e=0
 .rw[if_neg (show ¬zE e≠0 by simp[h]),if_neg (show ¬zE e≠0 by simp[h])]
  split
  .rfl
  .generalize tyE (b2L 0 0).l e=p
   obtain⟨a,b⟩:=p
   by_cases ha:a=1<;>by_cases hb:b=0<;>simp[ha,hb]
 .rw[if_pos h,if_pos h]
theorem zqV (k t:Int) (hk:k=2∨k=3∨k=7) (ht:etyp k=t) (e:Ex):ckN [xN] (b1L 0).l t e=ckE k e:=by
 unfold ckN ckE
 have e1:zfM k=[xN]:=by unfold zfM;rw[if_neg (by omega),if_pos hk]
 have e2:bnd2 0 0=(b2L 0 0).l:=rfl
 rw[e1,e2,ht]
 by_cases h:zE e=0
 .rw[if_neg (show ¬zE e≠0 by simp[h]),if_neg (show ¬zE e≠0 by simp[h])]
  cases hn:(zct e).all (fun s=>decide (s∈[xN])) with
  |false=>rfl
  |true=>
   have hp:∀x∈e.parts,x.kind=2→x.name=xN:=by
    intro x hx hk
    have:=lAt.1 hn x.name ((zhp e _).2 ⟨x,hx,hk,rfl⟩)
    simpa using this
   rw[zrg 0 0 e hp]
   simp only[Bool.true_eq_false,if_false]
   generalize tyE (b2L 0 0).l e=p
   obtain⟨a,b⟩:=p
   by_cases ha:a=t<;>by_cases hb:b=0<;>simp[ha,hb]
 .rw[if_pos h,if_pos h]
theorem zi1 (H0:Heap) (x:Sl (List UInt8)) (hl:x.l.length≤1000000) (i o le mo t:Int) (ns:List (List UInt8)) (hns:ns.length≤2) (f g:Nat) (xs:List AV) (e:Ex):∀(r:List (List UInt8)) (k:Nat),x.l.drop k=r→k≤x.l.length→
  okC (W.loop [2,3,16,17,18] zlj [(2,.optr H0.length 0 0 0),(3,.optr (H0.length+1) 0 0 0),(16,Sl.av AV.str 1 x),(17,I x.l.length),(18,I k)] (H0++[.arr 0 8 false [hdA i o le mo t ns f xs g],.arr 0 5 false [e.av]]))
   (fun q F H=>if r.all (fun s=>decide (s∈ns))=true then q= .exit 0∧F.keep [2,3]=[(2,.optr H0.length 0 0 0),(3,.optr (H0.length+1) 0 0 0)]∧H=(H0++[.arr 0 8 false [hdA i o le mo t ns f xs g],.arr 0 5 false [e.av]]) else q= .ret∧F.get 4=I 5∧H=(H0++[.arr 0 8 false [hdA i o le mo t ns f xs g],.arr 0 5 false [e.av]]))
 | [],k,hk,hb=>by
  have hlen:=zk hk hb
  subst hlen
  rw[zc]
  simp[zge,zhK]
 |a::r,k,hk,hb=>by
  obtain⟨hlt,ha,hr⟩:=zp hk
  have hc:(k:Int)<x.l.length:=by omega
  have hak:x.l[k]=a:=(gEs.1 ha).2
  have hw:=zn (k:=k) (by omega)
  have c1:=zva (ofL 1 ns) (by simp[ofL];omega) a
  rw[zc]
  by_cases h:a∈ns
  .have ih:=zi1 H0 x hl i o le mo t ns hns f g xs e r (k+1) hr hlt
   simp only[iNa,iCo]at ih
   have hd:((a::r).all fun s=>decide (s∈ns))=r.all fun s=>decide (s∈ns):=by simp[h]
   rw[hd]
   simp only[ofL,h,decide_true]at c1
   simp[zge,zhK,hc,hlt,hak,c1,h,hw, -List.all_eq_true]
   simpa using ih
  .have hd:((a::r).all fun s=>decide (s∈ns))=false:=by simp[h]
   rw[hd]
   simp only[ofL,h,decide_false]at c1
   simp[zge,zhK,hc,hlt,hak,c1,h,hw]
theorem zeh (H0:Heap) (i o le mo t:Int) (ns:List (List UInt8)) (hns:ns.length≤2) (f g:Nat) (xs:List AV) (hxs:okO (.clo f [] xs)=some (.clo f [] xs)) (e:Ex) (l:Sl Bnd) (hl:l.l.length≤1000000) (hb:W.pure 215 [bL l]=some (.bool true))
  (hB:W.pure 168 [Sl.av AV.str 1 (ofL 1 ns),.isl (some false) 1 [I 0,I 0]]=some (bL l)):
  okV (W.call (.clo 123 [] []) [hdA i o le mo t ns f xs g,e.av] H0) (fun v H'=>v=I (ckN ns l.l t e)∧H'=H0++[.arr 0 8 false [hdA i o le mo t ns f xs g],.arr 0 5 false [e.av]]):=by
 rw[ze Φ123]
 have c1:=e153 e
 unfold ckN
 by_cases h:zE e=0
 .rw[h]at c1
  obtain⟨x,c2,hx⟩:=e216 e h
  have hxl:x.l.length≤1000000:=by
   have h1:=zlV e h
   have h2:=zc6 (zbV (zct e))
   rw[zb1]at h2
   rw[hx];omega
  have L:=zi1 H0 x hxl i o le mo t ns hns f g xs e x.l 0 rfl (by omega)
  simp only[Int.natCast_zero,Nat.zero_add]at L
  obtain⟨q,F,H,d1,d2⟩:=zf.1 L
  rw[hx,zlW]at d2
  have c3:=e167 l (by omega) hb e
  have hty:tyR l.l e=tyE l.l e:=by unfold tyR;rw[if_neg (by simp[h])]
  rw[hty]at c3
  rw[if_neg (by simp[h])]
  cases hn:(zct e).all (fun s=>decide (s∈ns)) with
  |false=>
   rw[hn]at d2
   simp only[bFt,if_false]at d2
   obtain⟨rfl,d2,rfl⟩:=d2
   simp[zhn,c123,c1,c2,d1,d2]
  |true=>
   rw[hn]at d2
   simp only[if_true]at d2
   obtain⟨rfl,d2,rfl⟩:=d2
   generalize (tyE l.l e).1=t1 at *
   generalize (tyE l.l e).2=t2 at *
   by_cases h2:t2=0
   .by_cases h1:t1=t
    .simp[zhn,c123,c1,c2,d1,d2,hB,c3,h1,h2]
    .simp[zhn,c123,c1,c2,d1,d2,hB,c3,h1,h2]
   .simp[zhn,c123,c1,c2,d1,d2,hB,c3,h2]
 .simp[zhn,c123,c1,h]
def tkK (k:Int):AV:=if k=1 then .clo 194 [] [] else if k=2 then .clo 195 [] [] else if k=3 then .clo 196 [] [] else if k=4 then .clo 197 [] [] else if k=5 then .clo 200 [] [] else if k=6 then .clo 201 [] [] else if k=7 then .clo 202 [] [] else if k=8 then .clo 204 [] [.eptr [.clo 192 [] []]] else if k=9 then .clo 205 [] [] else .clo 207 [] []
def edK (k:Int):AV:=if k=4 then .clo 198 [] [] else if k=8 then .clo 203 [] [] else if k=9 then .clo 206 [] [] else .clo 193 [] []
def nmK (k:Int):Sl (List UInt8):=if k=9 then ofL 1 [xN,yN] else if k=2∨k=3∨k=7 then ofL 1 [xN] else ⟨some true,0,[]⟩
def hdK (k:Int):AV:= .agg [I (inK k),I (outK k),I (zX k),I (zZ k),I (etyp k),Sl.av AV.str 1 (nmK k),tkK k,edK k]
theorem e112 (k:Int) (h:1≤k∧k≤10):W.pure 112 [I k]=some (.tuple [hdK k,.bool true]):=by
 have c:k=1∨k=2∨k=3∨k=4∨k=5∨k=6∨k=7∨k=8∨k=9∨k=10:=by omega
 rcases c with rfl|rfl|rfl|rfl|rfl|rfl|rfl|rfl|rfl|rfl<;>exact (zeY 60).pure _ _ _ (by kernel_rfl)
theorem zvb (k:Int) (h:k<1∨10<k):W.pure 112 [I k]=some (.tuple [.agg [I 0,I 0,I 0,I 0,I 0,.isl (some true) 0 [],.nilf,.nilf],.bool false]):=by
 rw[zj Φ112 rfl]
 by_cases h1:k<1
 .simp[zlS,c112,h1]
  rfl
 .have h2:10<k:=by omega
  simp[zlS,c112,h1,h2]
  rfl
theorem zow (H0:Heap) (k:Int) (hk:k=2∨k=3∨k=7∨k=9) (e:Ex):okV (W.call (.clo 123 [] []) [hdK k,e.av] H0) (fun v H'=>v=I (ckE k e)∧H'=H0++[.arr 0 8 false [hdK k],.arr 0 5 false [e.av]]):=by
 rcases hk with rfl|rfl|rfl|rfl
 .have:=zeh H0 1 1 0 0 1 [xN] (by simp) 195 193 [] rfl e (b1L 0) (by simp[b1L,ofL]) (zjk 0 rfl) (zjl 0 0)
  rw[zqV 2 1 (by omega) rfl e]at this
  exact this
 .have:=zeh H0 1 1 0 0 2 [xN] (by simp) 196 193 [] rfl e (b1L 0) (by simp[b1L,ofL]) (zjk 0 rfl) (zjl 0 0)
  rw[zqV 3 2 (by omega) rfl e]at this
  exact this
 .have:=zeh H0 1 2 0 0 2 [xN] (by simp) 202 193 [] rfl e (b1L 0) (by simp[b1L,ofL]) (zjk 0 rfl) (zjl 0 0)
  rw[zqV 7 2 (by omega) rfl e]at this
  exact this
 .have:=zeh H0 2 1 0 0 1 [xN,yN] (by simp) 205 206 [] rfl e (b2L 0 0) (by simp[b2L,ofL]) (zpe 0 0 rfl rfl) (zpf 0 0)
  rw[zvc e]at this
  exact this
theorem e116 (a:Int):W.pure 116 [I a]=some (.bool (isIt a)):=by
 rw[zj Φ116 rfl]
 have ie:=zV a
 cases h:isIt a with
 |true=>
  have h1:=ie.1 h
  have h2: -1099511627776≤a:=by omega
  have h3:a≤1099511627776:=by omega
  simp[zj8,c116,h2,h3]
 |false=>
  have h1:¬(-1099511627776≤a∧a≤1099511627776):=fun hh=>by rw[ie.2 hh]at h;cases h
  by_cases h2: -1099511627776≤a
  .have h3:¬a≤1099511627776:=by omega
   simp[zj8,c116,h2,h3]
  .simp[zj8,c116,h2]
theorem zq3 (a:Int) (H:Heap):okV (W.call (.clo 122 [] []) [I a] H) (fun v H'=>v= .bool (!isIt a)∧Kept none H H'):=by
 rw[ze Φ122]
 have c:=e116 a
 simp[zoi,c122,c,Kept.refl]
theorem zgp (l:List Int):(l.any fun a=> !isIt a)= !l.all isIt:=by
 induction l with
 |nil=>rfl
 |cons a r ih=>simp only[List.any_cons,List.all_cons,ih,Bool.not_and]
theorem ziA (k:Int):∃f b,tkK k= .clo f [] b∧(b=[]∨b=[.eptr [.clo 192 [] []]]):=by
 unfold tkK
 repeat' split
 all_goals exact⟨_,_,rfl,by simp⟩
theorem zjj (k:Int):∃f,edK k= .clo f [] []:=by
 unfold edK
 repeat' split
 all_goals exact⟨_,rfl⟩
theorem zi9 (k:Int):∃f b g,hdK k= .agg [I (inK k),I (outK k),I (zX k),I (zZ k),I (etyp k),Sl.av AV.str 1 (nmK k),.clo f [] b,.clo g [] []]∧(b=[]∨b=[.eptr [.clo 192 [] []]]):=by
 obtain⟨f,b,h1,h2⟩:=ziA k
 obtain⟨g,h3⟩:=zjj k
 exact⟨f,b,g,by unfold hdK;rw[h1,h3],h2⟩
@[simp] theorem hd_len (k:Int):(hdK k).cells.length=8:=rfl
@[simp] theorem hd_cell (k:Int):(hdK k).cells.all AV.cell=true:=by
 obtain⟨f,b,g,h,_⟩:=zi9 k
 rw[h];rfl
@[simp] theorem hd_okO (k:Int):okO (hdK k)=some (hdK k):=by
 obtain⟨f,b,g,h,h2⟩:=zi9 k
 rw[h]
 rcases h2 with rfl|rfl<;>rfl
@[simp] theorem hd_whole (k:Int):zd true 8 (hdK k).cells=hdK k:=rfl
@[simp] theorem hd_fold (k:Int):AV.agg (hdK k).cells=hdK k:=rfl
@[simp] theorem hd_ld2 (k:Int):zd false 1 ((hdK k).cells.drop 2)=I (zX k):=rfl
@[simp] theorem hd_ld3 (k:Int):zd false 1 ((hdK k).cells.drop 3)=I (zZ k):=rfl
@[simp] theorem hd_ld4 (k:Int):zd false 1 ((hdK k).cells.drop 4)=I (etyp k):=rfl
@[simp] theorem hd_st (k:Int):zb [.agg [.int .i64 0,.int .i64 0,.int .i64 0,.int .i64 0,.int .i64 0,.isl (some true) 0 [],.nilf,.nilf]] 0 0 (hdK k)=some [hdK k]:=rfl
@[simp] theorem sx_kind (x:Sg):zd false 1 (x.av.cells.drop 2)=I x.expr.kind:=rfl
@[simp] theorem sx_op (x:Sg):zd false 1 (x.av.cells.drop 3)=I x.expr.op:=rfl
@[simp] theorem sx_name (x:Sg):zd false 1 (x.av.cells.drop 4)= .str x.expr.name:=rfl
@[simp] theorem sx_value (x:Sg):zd false 1 (x.av.cells.drop 5)=I x.expr.value:=rfl
@[simp] theorem sx_args (x:Sg):zd false 1 (x.av.cells.drop 6)=Sl.av Ex.av 5 x.expr.args:=rfl
theorem zjy (e:Ex):(e.kind=0∧e.op=0∧e.name=[]∧e.value=0∧e.args.l=[]∧zbT e=true)∨(e.kind≠0∧zbT e=false)∨(e.kind=0∧e.op≠0∧zbT e=false)∨(e.kind=0∧e.op=0∧e.name≠[]∧zbT e=false)∨(e.kind=0∧e.op=0∧e.name=[]∧e.value≠0∧zbT e=false)∨(e.kind=0∧e.op=0∧e.name=[]∧e.value=0∧e.args.l≠[]∧zbT e=false):=by
 by_cases h1:e.kind=0<;>by_cases h2:e.op=0<;>by_cases h3:e.name=[]<;>by_cases h4:e.value=0<;>by_cases h5:e.args.l=[]<;>simp[zbT,h1,h2,h3,h4,h5]
theorem zr8 (x:Sg) (hk:1≤x.kind∧x.kind≤10):evC W (cutC 4 c72) [(0,x.av)] []=some (.normal,[(1,.optr 0 0 0 0),(3,.optr 1 0 0 0),(5,.bool (zbT x.expr))],[.arr 0 8 false [x.av],.arr 0 8 false [hdK x.kind]]):=by
 have c1:=e112 x.kind hk
 rcases zjy x.expr with⟨a1,a2,a3,a4,a5,a6⟩|⟨a1,a6⟩|⟨a1,a2,a6⟩|⟨a1,a2,a3,a6⟩|⟨a1,a2,a3,a4,a6⟩|⟨a1,a2,a3,a4,a5,a6⟩
 .simp[fi72,c72,cutC,c1,zav,a1,a2,a3,a4,a5,a6]
 .simp[fi72,c72,cutC,c1,zav,a1,a6]
 .simp[fi72,c72,cutC,c1,zav,a1,a2,a6]
 .simp[fi72,c72,cutC,c1,zav,a1,a2,a3,a6]
 .simp[fi72,c72,cutC,c1,zav,a1,a2,a3,a4,a6]
 .simp[fi72,c72,cutC,c1,zav,a1,a2,a3,a4,a5,a6]
theorem zrP (x:Sg) (k:Int) (z:Bool):evC W (cutC 1 (zN 4 c72)) [(1,.optr 0 0 0 0),(3,.optr 1 0 0 0),(5,.bool z)] [.arr 0 8 false [x.av],.arr 0 8 false [hdK k]]
  =if (zZ k=0∧x.size≠0)∨(etyp k=0∧z=false)∨(x.kind≠1∧x.items.l≠[]) then some (.ret,[(2,I 1)],[.arr 0 8 false [x.av],.arr 0 8 false [hdK k]]) else some (.normal,[(1,.optr 0 0 0 0),(3,.optr 1 0 0 0),(70,.bool false)],[.arr 0 8 false [x.av],.arr 0 8 false [hdK k]]):=by
 have p5:(x.items.l=[]∧¬(0:Int)<x.items.l.length)∨(x.items.l≠[]∧(0:Int)<x.items.l.length):=by
  cases x.items.l with
  |nil=>simp
  |cons a r=>right;simp
 generalize hM:zZ k=M
 generalize hE:etyp k=E
 by_cases p1:M=0<;>by_cases p2:x.size=0<;>by_cases p3:E=0<;>cases z<;>by_cases p4:x.kind=1<;>rcases p5 with⟨p5,p6⟩|⟨p5,p6⟩<;>simp[fi72,c72,cutC,zN,hM,hE,p1,p2,p3,p4,p5,p6]
theorem zpb (R:Rec):∀(n:Nat) (c:LC) (F:Fr) (H:Heap) (F1:Fr) (H1:Heap),evC R (cutC n c) F H=some (.ret,F1,H1)→evC R c F H=some (.ret,F1,H1)
 |0,c,F,H,F1,H1,h=>by simp[cutC]at h
 |n+1,c,F,H,F1,H1,h=>by
  cases c with
  |seq a b=>
   simp only[cutC,zdw]at h
   simp only[zdw]
   cases ha:evC R a F H with
   |none=>rw[ha]at h;cases h
   |some p=>
    obtain⟨x,F2,H2⟩:=p
    rw[ha]at h
    cases x with
    |normal=>
     simp only[Option.bind_some,zdJ]at h⊢
     exact zpb R n b F2 H2 F1 H1 h
    |ret=>simpa using h
    |exit i=>simp at h
  |_=>simpa only[cutC]using h
theorem zrj (x:Sg) (hx:x.items.l.length≤1048576) (hk:1≤x.kind∧x.kind≤10):okC (evC W (zN 5 c72) [(1,.optr 0 0 0 0),(3,.optr 1 0 0 0),(70,.bool false)] [.arr 0 8 false [x.av],.arr 0 8 false [hdK x.kind]])
  (fun q F H=>q= .ret∧F.get 2=I (if x.size<zX x.kind∨zZ x.kind<x.size then 2 else if 200<x.items.l.length then 4 else if x.items.l.all isIt=false then 2 else if etyp x.kind=0 then 0 else ckE x.kind x.expr)):=by
 obtain⟨v,H',c1,rfl,c2⟩:=zu.1 (zoG x.items (by omega) (.clo 122 [] []) rfl (fun a=> !isIt a) [.arr 0 8 false [x.av],.arr 0 8 false [hdK x.kind]] (fun a _ H _=>zq3 a H))
 rw[zgp]at c1
 have g0:H'[0]?=some (.arr 0 8 false [x.av]):=c2.get (by simp) rfl
 have g1:H'[1]?=some (.arr 0 8 false [hdK x.kind]):=c2.get (by simp) rfl
 by_cases h1:x.size<zX x.kind
 .simp[fi72,c72,zN,h1]
 by_cases h2:zZ x.kind<x.size
 .simp[fi72,c72,zN,h1,h2]
 rw[if_neg (show ¬(x.size<zX x.kind∨zZ x.kind<x.size) by omega)]
 by_cases h3:200<x.items.l.length
 .have h3':(200:Int)<x.items.l.length:=by omega
  simp[fi72,c72,zN,h1,h2,h3,h3']
 have h3':¬(200:Int)<x.items.l.length:=by omega
 rw[if_neg h3]
 cases h4:x.items.l.all isIt with
 |false=>
  rw[h4]at c1
  simp[fi72,c72,zN,h1,h2,h3',c1, -List.all_eq_true, -List.all_eq_false]
 |true=>
  rw[h4]at c1
  by_cases h5:etyp x.kind=0
  .simp[fi72,c72,zN,h1,h2,h3',c1,g0,g1,h5]
  .have hk4:x.kind=2∨x.kind=3∨x.kind=7∨x.kind=9:=by
    unfold etyp at h5;split at h5
    .omega
    .split at h5
     .omega
     .exact absurd rfl h5
   obtain⟨v,H2,d1,rfl,rfl⟩:=zu.1 (zow H' x.kind hk4 x.expr)
   simp[fi72,c72,zN,h1,h2,h3',c1,g0,g1,h5,d1]
theorem e72 (x:Sg) (hx:x.items.l.length≤1048576):W.pure 72 [x.av]=some (I (sgI x)):=by
 rw[zj Φ72 (by simp)]
 unfold sgI
 by_cases hk:x.kind<1∨10<x.kind
 .have c1:=zvb x.kind hk
  rw[if_pos hk]
  simp[fi72,c72,c1]
 .have hk':1≤x.kind∧x.kind≤10:=by omega
  rw[if_neg hk]
  have e:za1 W fi72 [x.av] []=(evC W c72 [(0,x.av)] []).bind fun p=>match p.1 with
   | .exit _=>none
   |_=>(resV p.2.1 p.2.2 fi72.res).map fun v=>(v,p.2.2):=rfl
  rw[e,zeN W 4 c72 _ _ _ _ (zr8 x hk')]
  by_cases h1:(zZ x.kind=0∧x.size≠0)∨(etyp x.kind=0∧zbT x.expr=false)∨(x.kind≠1∧x.items.l≠[])
  .rw[if_pos h1]
   have m:=zrP x x.kind (zbT x.expr)
   rw[if_pos h1]at m
   rw[zpb W 1 (zN 4 c72) _ _ _ _ m]
   simp[fi72,resV,rvVs,rvV]
  .rw[if_neg h1]
   have m:=zrP x x.kind (zbT x.expr)
   rw[if_neg h1]at m
   rw[zeN W 1 (zN 4 c72) _ _ _ _ m]
   obtain⟨q,F,H,d1,rfl,d2⟩:=zf.1 (zrj x hx hk')
   have hr:zN 1 (zN 4 c72)=zN 5 c72:=rfl
   rw[hr,d1]
   simp[fi72,resV,rvVs,rvV,d2]
theorem ziG {x:Sg} (h:sgI x=0):1≤x.kind∧x.kind≤10:=by
 unfold sgI at h
 split at h
 .cases h
 .omega
@[simp] theorem hd_ld0 (k:Int):zd false 1 (hdK k).cells=I (inK k):=rfl
@[simp] theorem hd_ld1 (k:Int):zd false 1 (hdK k).cells.tail=I (outK k):=rfl
@[simp] theorem hd_ld1' (k:Int):zd false 1 ((hdK k).cells.drop 1)=I (outK k):=rfl
theorem e68 (x:Sg) (hx:x.items.l.length≤1048576):W.pure 68 [x.av]=some (I (inN x)):=by
 rw[zj Φ68 (by simp)]
 have c1:=e72 x hx
 unfold inN
 by_cases h:sgI x=0
 .rw[h]at c1
  have c2:=e112 x.kind (ziG h)
  simp[fi68,c68,c1,c2,h]
 .simp[fi68,c68,c1,h]
theorem e73 (x:Sg) (hx:x.items.l.length≤1048576):W.pure 73 [x.av]=some (I (outN x)):=by
 rw[zj Φ73 (by simp)]
 have c1:=e72 x hx
 unfold outN
 by_cases h:sgI x=0
 .rw[h]at c1
  have c2:=e112 x.kind (ziG h)
  simp[fi73,c73,c1,c2,h]
 .simp[fi73,c73,c1,h]
section
set_option maxRecDepth 10000
end
section
set_option maxRecDepth 10000
end
section
set_option maxRecDepth 10000
end
theorem zkX (x:Sg):outN x≤2:=by unfold outN;split;omega;exact zdn _
theorem e144 (x:Sg) (s:Ss) (hs:SlN s.held) (hl:s.held.l.length≤1000000) (i:Int) (h9:x.kind=9→(i=0∨i=1)∧0≤s.count∧s.count≤3):W.pure 144 [x.av,s.av,I i]=some (.bool (zbI x s.pl i)):=by
 rw[zj Φ144 (by simp)]
 unfold zbI
 by_cases k8:x.kind=8
 .have c1:=zqP s.held hl i
  simp[zj6,c144,k8,c1,Ss.pl]
  exact decide_eq_decide.2 Iff.rfl
 by_cases k9:x.kind=9
 .obtain⟨hi,h1,h2⟩:=h9 k9
  have hc:s.count=0∨s.count=1∨s.count=2∨s.count=3:=by omega
  rcases hi with rfl|rfl<;>rcases hc with hc|hc|hc|hc<;>simp[zj6,c144,k9,hc,Ss.pl,shrI,zjs]<;>decide
 .simp[zj6,c144,k8,k9,Ss.pl]
theorem e173 (x:Sg) (hg:sgI x=0):W.pure 173 [x.av]=some (.tuple [I (zO x),I (zY x)]):=by
 rw[zj Φ173 (by simp)]
 unfold zO zY
 by_cases k1:x.kind=1
 .simp[zf7,c173,k1]
 by_cases k6:x.kind=6
 .simp[zf7,c173,k1,k6]
 by_cases k8:x.kind=8
 .simp[zf7,c173,k1,k6,k8]
 by_cases k9:x.kind=9
 .simp[zf7,c173,k1,k6,k8,k9]
 by_cases k4:x.kind=4
 .have:=zbt hg
  have hM:zZ x.kind=100:=by simp[zZ,k4]
  have hL:zX x.kind=1:=by simp[zX,k4]
  have w:IntKind.wrap .i64 (x.size - 1)=x.size - 1:=zG (by omega) (by omega)
  simp[zf7,c173,k1,k6,k8,k9,k4,w]
 .simp[zf7,c173,k1,k6,k8,k9,k4]
theorem zq1 (n:Int) (H:Heap):W.call (.clo 174 [] []) [I n] H=some (.bool (!isIt n),H):=by
 rw[ze Φ174]
 have c1:=e116 n
 simp[zoa,c174,c1]
theorem t143 (H:Heap) (s:Ss) (hl:s.held.l.length≤2) (h1:H[1]?=some (.arr 0 3 false [s.av])):okC (W.loop [3,49,50,51] zlh [(3,.optr 1 0 0 0),(49,Sl.av I 1 s.held),(50,I s.held.l.length),(51,I 0)] H)
  (fun q F H'=>if zbG s.held.l=true then q= .exit 1∧F.keep [3]=[(3,.optr 1 0 0 0)]∧H'=H else q= .ret∧F.get 4= .bool false):=by
 have w1:IntKind.wrap .i64 1=1:=zG (by omega) (by omega)
 have w2:IntKind.wrap .i64 2=2:=zG (by omega) (by omega)
 have w0:IntKind.wrap .i64 0=0:=zG (by omega) (by omega)
 match hh:s.held.l,hl with
 | [],_=>
  rw[zc]
  simp[zar,zbc,hh,zbG]
 | [a],_=>
  rw[zc]
  by_cases a1:a<0
  .simp[zar,zbc,hh,zbG,a1]
   omega
  by_cases a2:1<a
  .simp[zar,zbc,hh,zbG,a1,a2]
   omega
  have a3:a=0∨a=1:=by omega
  simp[zar,zbc,hh,zbG,a1,a2,a3,w1]
  rw[zc]
  simp[zar,zbc,hh]
 | [a,b],_=>
  rw[zc]
  by_cases a1:a<0
  .simp[zar,zbc,hh,zbG,a1]
   omega
  by_cases a2:1<a
  .simp[zar,zbc,hh,zbG,a1,a2]
   omega
  simp[zar,zbc,hh,zbG,a1,a2,w1]
  rw[zc]
  by_cases b1:b<0
  .simp[zar,zbc,hh,b1]
   omega
  by_cases b2:1<b
  .simp[zar,zbc,hh,b1,b2]
   omega
  by_cases b3:b≤a
  .simp[zar,zbc,hh,h1,b1,b2,b3,w0]
   omega
  .have e1:a=0:=by omega
   have e2:b=1:=by omega
   simp[zar,zbc,hh,h1,b1,b2,b3,w0,w2,e1,e2]
   rw[zc]
   simp[zar,zbc,hh]
theorem zhQ {x:Sg} {s:SS} (h:¬(0≤s.count∧s.count≤zO x∧(s.held.length:Int)≤zY x)):ssB x s=false:=by
 unfold ssB;rw[decide_eq_false h];rfl
theorem zpu {x:Sg} {s:SS} (h:s.held.all isIt=false):ssB x s=false:=by
 unfold ssB;rw[h,Bool.and_false];rfl
theorem zfK {x:Sg} {s:SS} (h:0≤s.count∧s.count≤zO x∧(s.held.length:Int)≤zY x) (ha:s.held.all isIt=true):ssB x s=(if x.kind=4 then !s.ended||s.held.isEmpty
 else if x.kind=8 then zbG s.held&&(s.ended==decide (s.held.length=2))
 else if x.kind=9 then (s.ended==decide (s.count=3))&&(decide (s.count<2)||s.held.isEmpty)
 else true):=by
 unfold ssB;rw[decide_eq_true h,ha];rfl
theorem zni {x:Sg} (hg:sgI x=0):0≤zY x:=by
 unfold zY
 have:=zbt hg
 split
 .omega
 .split
  .omega
  .split
   .rename_i k4
    have hL:zX x.kind=1:=by simp[zX,k4]
    omega
   .omega
theorem e143 (x:Sg) (hg:sgI x=0) (s:Ss) (hs:SlN s.held):W.pure 143 [x.av,s.av]=some (.bool (ssB x s.pl)):=by
 rw[zj Φ143 (by simp)]
 have c1:=e173 x hg
 have hl2:=hs.2
 by_cases h1:s.count<0
 .rw[zhQ (s:=s.pl) (by simp only[Ss.pl];omega)]
  simp[zc4,c143,c1,h1]
 by_cases h2:zO x<s.count
 .rw[zhQ (s:=s.pl) (by simp only[Ss.pl];omega)]
  simp[zc4,c143,c1,h1,h2]
 by_cases h3:zY x<s.held.l.length
 .rw[zhQ (s:=s.pl) (by simp only[Ss.pl];omega)]
  simp[zc4,c143,c1,h1,h2,h3]
 obtain⟨v,H',d1,rfl,d2⟩:=zu.1 (zoG s.held (by omega) (.clo 174 [] []) rfl (fun a=> !isIt a) [.arr 0 8 false [x.av],.arr 0 3 false [s.av]] (fun a _ H _=>by rw[zq1];exact⟨rfl,Kept.refl _ _⟩))
 rw[zgp]at d1
 have g0:H'[0]?=some (.arr 0 8 false [x.av]):=d2.get (by simp) rfl
 have g1:H'[1]?=some (.arr 0 3 false [s.av]):=d2.get (by simp) rfl
 cases ha:s.held.l.all isIt with
 |false=>
  rw[zpu (s:=s.pl) ha]
  rw[ha]at d1
  simp[zc4,c143,c1,h1,h2,h3,d1]
 |true=>
  rw[ha]at d1
  rw[zfK (s:=s.pl) (by simp only[Ss.pl];omega) ha]
  simp only[Ss.pl]
  have hm0:=zni hg
  have hm1:¬zY x<0:=by omega
  have p5:(s.held.l=[]∧((s.held.l.length:Int)=0)=True)∨(s.held.l≠[]∧((s.held.l.length:Int)=0)=False):=by
   cases s.held.l with
   |nil=>simp
   |cons a r=>right;simp;omega
  by_cases k4:x.kind=4
  .cases he:s.ended<;>rcases p5 with⟨p5,p6⟩|⟨p5,p6⟩<;>simp[zc4,c143,c1,h1,h2,h3,d1,g0,g1,k4,he,p5,p6,hm0,hm1]
  by_cases k8:x.kind=8
  .have hm:zY x=2:=by simp[zY,k8]
   obtain⟨q,F,G,f1,f2⟩:=zf.1 (t143 H' s (by omega) g1)
   cases hb:zbG s.held.l with
   |false=>
    rw[hb]at f2
    simp only[bFt,if_false]at f2
    obtain⟨rfl,f3⟩:=f2
    simp[zc4,c143,c1,h1,h2,h3,d1,g0,g1,k4,k8,f1,f3]
   |true=>
    rw[hb]at f2
    simp only[if_true]at f2
    obtain⟨rfl,f3,rfl⟩:=f2
    by_cases h2l:s.held.l.length=2
    .have h2l':=eq_true (show ((s.held.l.length:Int)=2) by omega)
     simp[zc4,c143,c1,h1,h2,h3,d1,g0,g1,k4,k8,f1,f3,eq_true h2l,h2l']
    .have h2l':¬((s.held.l.length:Int)=2):=by omega
     simp[zc4,c143,c1,h1,h2,h3,d1,g0,g1,k4,k8,f1,f3,h2l,h2l']
  by_cases k9:x.kind=9
  .by_cases q1:s.count=3
   .have q2:¬s.count<2:=by omega
    rcases p5 with⟨p5,p6⟩|⟨p5,p6⟩<;>simp[zc4,c143,c1,h1,h2,h3,d1,g0,g1,k4,k8,k9,eq_true q1,q2,p5,p6,hm0,hm1]
   .by_cases q2:s.count<2<;>rcases p5 with⟨p5,p6⟩|⟨p5,p6⟩<;>simp[zc4,c143,c1,h1,h2,h3,d1,g0,g1,k4,k8,k9,q1,q2,p5,p6,hm0,hm1]
  .simp[zc4,c143,c1,h1,h2,h3,d1,g0,g1,k4,k8,k9]
theorem e95 (x:Sg) (hx:x.items.l.length≤1048576) (s:Ss) (hs:SlN s.held):∃y:Sl Int,W.pure 95 [x.av,s.av]=some (.tuple [Sl.av I 1 y,I (zaD x s.pl)])∧y.l=(if zaD x s.pl=0 then zeX x s.pl else [])∧SlN y:=by
 have c1:=e72 x hx
 unfold zaD
 by_cases hg:sgI x=0
 rotate_left
 .rw[if_pos hg]
  refine⟨zaM,?_,by rw[if_neg hg],zH⟩
  rw[zj Φ95 (by simp)]
  simp[fi95,c95,c1,hg]
  rfl
 rw[if_neg (by simp[hg])]
 rw[hg]at c1
 have c2:=e143 x hg s hs
 cases hb:ssB x s.pl with
 |false=>
  rw[hb]at c2
  refine⟨zaM,?_,by simp,zH⟩
  rw[zj Φ95 (by simp)]
  simp[fi95,c95,c1,c2]
  rfl
 |true=>
  rw[hb]at c2
  obtain⟨f1,f2,f3,f4⟩:=zM hb
  simp only[if_true]
  have hl2:s.held.l.length≤1000000:=by
   have h3:(s.held.l.length:Int)≤zY x:=f3
   have:=zbt hg
   have hM:zY x≤100:=by
    unfold zY
    split
    .omega
    .split
     .omega
     .split
      .rename_i k4
       have hL:zZ x.kind=100:=by simp[zZ,k4]
       omega
      .omega
   omega
  have one:∀n:Int,SlN (ofL 1 [n]):=fun n=>zaN (by simp)
  unfold zeX zbh
  simp only[show s.pl.ended=s.ended from rfl,show s.pl.held=s.held.l from rfl,show s.pl.count=s.count from rfl]
  by_cases h0:s.ended=true∨x.kind=1
  .refine⟨zaM,?_,by rw[if_pos h0],zH⟩
   rw[zj Φ95 (by simp)]
   rcases h0 with h0|h0<;>simp[fi95,c95,c1,c2,h0]<;>rfl
  rw[if_neg h0]
  have h0a:s.ended=false:=by cases h:s.ended with|false=>rfl|true=>exact absurd (.inl h) h0
  have k1:¬x.kind=1:=fun h=>h0 (.inr h)
  by_cases k8:x.kind=8
  .rw[if_pos k8]
   have hm:zO x=1:=by simp[zO,k8]
   have c3:=e144 x s hs hl2 s.count (fun h=>by omega)
   have hin:zbI x s.pl s.count=decide (s.count∈s.held.l):=by simp[zbI,k8,Ss.pl];exact decide_eq_decide.2 Iff.rfl
   rw[hin]at c3
   have w:IntKind.wrap .i64 (1 - s.count)=1 - s.count:=by
    have g1:0≤s.count:=f1
    have g2:s.count≤zO x:=f2
    exact zG (by omega) (by omega)
   by_cases hc:s.count∈s.held.l
   .refine⟨ofL 1 [1 - s.count],?_,by simp[Ss.pl,hc,ofL],one _⟩
    rw[zj Φ95 (by simp)]
    simp only[hc,decide_true]at c3
    simp[fi95,c95,c1,c2,h0a,k1,k8,c3,w]
    rfl
   .refine⟨ofL 1 [s.count],?_,by simp[Ss.pl,hc,ofL],one _⟩
    rw[zj Φ95 (by simp)]
    simp only[hc,decide_false]at c3
    simp[fi95,c95,c1,c2,h0a,k1,k8,c3]
    rfl
  rw[if_neg k8]
  by_cases k9:x.kind=9
  .have hm:zO x=3:=by simp[zO,k9]
   have c3:=e144 x s hs hl2 0 (fun h=>⟨.inl rfl,f1,by have g2:s.count≤zO x:=f2;omega⟩)
   have p5:(s.held.l=[]∧¬0<s.held.l.length)∨(s.held.l≠[]∧0<s.held.l.length):=by
    cases s.held.l with
    |nil=>simp
    |cons a r=>right;simp
   by_cases hq:zbI x s.pl 0=true∨s.held.l≠[]
   .refine⟨ofL 1 [1],?_,by rw[if_pos ⟨k9,hq⟩],one _⟩
    rw[zj Φ95 (by simp)]
    cases hi:zbI x s.pl 0 with
    |true=>rw[hi]at c3;simp[fi95,c95,c1,c2,h0a,k1,k8,k9,c3];rfl
    |false=>
     rw[hi]at hq c3
     rcases p5 with⟨p5,p6⟩|⟨p5,p6⟩
     .exact absurd p5 (by simpa using hq)
     .simp[fi95,c95,c1,c2,h0a,k1,k8,k9,c3,p6];rfl
   .refine⟨ofL 1 [0],?_,by rw[if_neg (fun h=>hq h.2)],one _⟩
    rw[zj Φ95 (by simp)]
    have hi:zbI x s.pl 0=false:=by cases hi:zbI x s.pl 0 with|false=>rfl|true=>exact absurd (.inl hi) hq
    rw[hi]at c3
    rcases p5 with⟨p5,p6⟩|⟨p5,p6⟩
    .simp[fi95,c95,c1,c2,h0a,k1,k8,k9,c3,p6];rfl
    .exact absurd (.inr p5) hq
  .refine⟨ofL 1 [0],?_,by rw[if_neg (fun h=>k9 h.1)],one _⟩
   rw[zj Φ95 (by simp)]
   simp[fi95,c95,c1,c2,h0a,k1,k8,k9]
   rfl
section
set_option maxRecDepth 10000
end
section
set_option maxRecDepth 10000
end
def rnA (x:Sg) (hv:AV) (c:Int) (e:Bool) (ob n:Nat) (err:Int):AV:= .agg [I x.kind,I x.size,I x.expr.kind,I x.expr.op,.str x.expr.name,I x.expr.value,Sl.av Ex.av 5 x.expr.args,Sl.av I 1 x.items,hv,I c,.bool e,.osl ob 0 0 n,I err,I 0]
section
variable {x:Sg} {hv v:AV} {c c':Int} {e e':Bool} {ob n:Nat} {err err':Int}
@[simp] theorem rn_0:zd false 1 (rnA x hv c e ob n err).cells=I x.kind:=rfl
@[simp] theorem rn_1:zd false 1 (rnA x hv c e ob n err).cells.tail=I x.size:=rfl
@[simp] theorem rn_2:zd true 5 ((rnA x hv c e ob n err).cells.drop 2)=x.expr.av:=by rw[Ex.av_eq];rfl
@[simp] theorem rn_7:zd false 1 ((rnA x hv c e ob n err).cells.drop 7)=Sl.av I 1 x.items:=rfl
@[simp] theorem rn_8:zd false 1 ((rnA x hv c e ob n err).cells.drop 8)=hv:=rfl
@[simp] theorem rn_9:zd false 1 ((rnA x hv c e ob n err).cells.drop 9)=I c:=rfl
@[simp] theorem rn_10:zd false 1 ((rnA x hv c e ob n err).cells.drop 10)= .bool e:=rfl
@[simp] theorem rn_11:zd false 1 ((rnA x hv c e ob n err).cells.drop 11)= .osl ob 0 0 n:=rfl
@[simp] theorem rn_12:zd false 1 ((rnA x hv c e ob n err).cells.drop 12)=I err:=rfl
@[simp] theorem rn_st:zd true 3 ((rnA x hv c e ob n err).cells.drop 8)= .agg [hv,I c,.bool e]:=rfl
@[simp] theorem rn_s9:zb [rnA x hv c e ob n err] 0 9 (I c')=some [rnA x hv c' e ob n err]:=rfl
@[simp] theorem rn_s10:zb [rnA x hv c e ob n err] 0 10 (.bool e')=some [rnA x hv c e' ob n err]:=rfl
@[simp] theorem rn_s12:zb [rnA x hv c e ob n err] 0 12 (I err')=some [rnA x hv c e ob n err']:=rfl
theorem zrs (h:v.cells=[v]):zb [rnA x hv c e ob n err] 0 8 v=some [rnA x v c e ob n err]:=by
 simp only[zb,rnA,gEz]
 rw[h];rfl
@[simp] theorem rn_s8n (b:Option Bool) (z:Nat) (l:List AV):zb [rnA x hv c e ob n err] 0 8 (.isl b z l)=some [rnA x (.isl b z l) c e ob n err]:=zrs rfl
@[simp] theorem rn_s8o (i j k m:Nat):zb [rnA x hv c e ob n err] 0 8 (.osl i j k m)=some [rnA x (.osl i j k m) c e ob n err]:=zrs rfl
end
def zaa (H:Heap) (ho:Option Nat) (hv:AV) (l:List Int):Prop:=
 match ho with
 |none=>∃y:Sl Int,hv=Sl.av I 1 y∧y.l=l∧SlN y
 |some id=>∃ver,hv= .osl id ver 0 l.length∧H[id]?=some (.arr ver 1 false (l.map I))∧l≠[]∧l.length≤1048576
def Keep (b:Nat) (H H':Heap):Prop:=H.length≤H'.length∧∀j,j<b→H'[j]?=H[j]?
theorem Keep.refl (b:Nat) (H:Heap):Keep b H H:=⟨Nat.le_refl _,fun _ _=>rfl⟩
theorem Keep.trans {b:Nat} {A B C:Heap} (h:Keep b A B) (h':Keep b B C):Keep b A C:=⟨Nat.le_trans h.1 h'.1,fun j hj=>by rw[h'.2 j hj,h.2 j hj]⟩
theorem zaa.okO {H:Heap} {ho:Option Nat} {hv:AV} {l:List Int} (h:zaa H ho hv l):okO hv=some hv:=by
 cases ho with
 |none=>obtain⟨y,rfl,_⟩:=h;rfl
 |some id=>obtain⟨ver,rfl,_⟩:=h;rfl
theorem zaa.cells {H:Heap} {ho:Option Nat} {hv:AV} {l:List Int} (h:zaa H ho hv l):hv.cells=[hv]:=by
 cases ho with
 |none=>obtain⟨y,rfl,_⟩:=h;rfl
 |some id=>obtain⟨ver,rfl,_⟩:=h;rfl
theorem zaa.cell {H:Heap} {ho:Option Nat} {hv:AV} {l:List Int} (h:zaa H ho hv l):hv.cell=true:=by
 cases ho with
 |none=>obtain⟨y,rfl,_⟩:=h;rfl
 |some id=>obtain⟨ver,rfl,_⟩:=h;rfl
theorem zaa.len {H:Heap} {ho:Option Nat} {hv:AV} {l:List Int} (h:zaa H ho hv l):lenV false hv=I l.length:=by
 cases ho with
 |none=>obtain⟨y,rfl,rfl,_⟩:=h;exact zrp
 |some id=>obtain⟨ver,rfl,_⟩:=h;rfl
theorem zaa.bound {H:Heap} {ho:Option Nat} {hv:AV} {l:List Int} (h:zaa H ho hv l):l.length≤1048576:=by
 cases ho with
 |none=>obtain⟨y,rfl,rfl,h⟩:=h;exact h.2
 |some id=>obtain⟨ver,rfl,_,_,h⟩:=h;exact h
theorem zaa.elems {H:Heap} {ho:Option Nat} {hv:AV} {l:List Int} (h:zaa H ho hv l):zat H 1 hv=some (l.map I):=by
 cases ho with
 |none=>obtain⟨y,rfl,rfl,_⟩:=h;exact ziD
 |some id=>obtain⟨ver,rfl,h,_⟩:=h;simp[zat,h];exact List.take_of_length_le (by simp)
theorem zaa.kept {H H':Heap} {ho p:Option Nat} {hv:AV} {l:List Int} (h:zaa H ho hv l) (hk:Kept p H H') (hd:∀id,p=some id→ho≠some id):zaa H' ho hv l:=by
 cases ho with
 |none=>exact h
 |some id=>
  obtain⟨ver,h1,h2,h3⟩:=h
  exact⟨ver,h1,hk.get (fun e=>hd id e rfl) h2,h3⟩
theorem zaa.lt {H:Heap} {id:Nat} {hv:AV} {l:List Int} (h:zaa H (some id) hv l):id<H.length:=by
 obtain⟨ver,_,h2,_⟩:=h;exact (gEs.1 h2).1
theorem zaa.at {H:Heap} {ho:Option Nat} {hv:AV} {l:List Int} (h:zaa H ho hv l) {k:Nat} {a:Int} (ha:l[k]?=some a):
  ∃p,zcW H 1 hv (I k)=p∧Go.Proofs.YtbddckhdbnmamaaGreat.okO p=some p∧zb7 H false 1 p=I a:=by
 have hk:=(gEs.1 ha).1
 cases ho with
 |none=>
  obtain⟨y,rfl,rfl,_⟩:=h
  refine⟨.eptr (I a).cells,?_,rfl,rfl⟩
  rw[zpy,if_pos (by omega),iTn,ha]
 |some id=>
  obtain⟨ver,rfl,h,_⟩:=h
  refine⟨.optr id ver k 0,?_,rfl,?_⟩
  .simp[h,hk]
  .have:l[k]=a:=(gEs.1 ha).2
   simp[h,this,hk]
structure RnD (b:Nat) (H:Heap) (r ob:Nat) (x:Sg) (t:SS) (err:Int) (outs:List (List Int)) (hv:AV) (ho:Option Nat) (vs:List AV) (os:Nat→Option Nat):Prop where
 rb:H[r]?=some (.arr 0 14 false [rnA x hv t.count t.ended ob outs.length err])
 obk:H[ob]?=some (.arr 0 1 false vs)
 ne:r≠ob
 hl:zaa H ho hv t.held
 h1:ho≠some r
 h2:ho≠some ob
 len:vs.length=outs.length
 gr:∀(i:Nat) (l:List Int),outs[i]?=some l→∃v,vs[i]?=some v∧Grow H 1 (os i) v (l.map I)
 o1:∀i,os i≠some r∧os i≠some ob
 o2:∀i id,os i=some id→ho≠some id
 o3:∀i j id,i≠j→os i=some id→os j≠some id
 o4:∀i id,os i=some id→id<H.length
 br:b≤r
 bo:b≤ob
 bh:∀id,ho=some id→b≤id
 bs:∀i id,os i=some id→b≤id
section
variable {b:Nat} {H H':Heap} {r ob:Nat} {x:Sg} {t:SS} {err:Int} {outs:List (List Int)} {hv:AV} {ho:Option Nat} {vs:List AV} {os:Nat→Option Nat}
theorem RnD.kept (h:RnD b H r ob x t err outs hv ho vs os) (hk:Kept none H H'):RnD b H' r ob x t err outs hv ho vs os:=
 ⟨hk.get (by simp) h.rb,hk.get (by simp) h.obk,h.ne,h.hl.kept hk (by simp),h.h1,h.h2,h.len,
  fun i l hi=>by obtain⟨v,h1,h2⟩:=h.gr i l hi;exact⟨v,h1,h2.kept hk (by simp)⟩,h.o1,h.o2,h.o3,fun i id hi=>by have:=h.o4 i id hi;have:=hk.1;omega,h.br,h.bo,h.bh,h.bs⟩
theorem RnD.rlt (h:RnD b H r ob x t err outs hv ho vs os):r<H.length:=(gEs.1 h.rb).1
theorem RnD.olt (h:RnD b H r ob x t err outs hv ho vs os):ob<H.length:=(gEs.1 h.obk).1
theorem RnD.blen (h:RnD b H r ob x t err outs hv ho vs os):b≤H.length:=by have:=h.br;have:=h.rlt;omega
theorem RnD.setR (h:RnD b H r ob x t err outs hv ho vs os) {t':SS} {err':Int} (ht:t'.held=t.held):RnD b (H.set r (.arr 0 14 false [rnA x hv t'.count t'.ended ob outs.length err'])) r ob x t' err' outs hv ho vs os:=by
 have hk:Kept (some r) H (H.set r (.arr 0 14 false [rnA x hv t'.count t'.ended ob outs.length err'])):=Kept.set _ _ _
 refine⟨gEt h.rlt,hk.get (by simp;exact h.ne) h.obk,h.ne,?_,h.h1,h.h2,h.len,fun i l hi=>?_,h.o1,h.o2,h.o3,fun i id hi=>by have:=h.o4 i id hi;simpa using this,h.br,h.bo,h.bh,h.bs⟩
 .rw[ht];exact h.hl.kept hk (fun id e=>by cases e;exact h.h1)
 .obtain⟨v,h1,h2⟩:=h.gr i l hi
  exact⟨v,h1,h2.kept hk (fun id e=>by cases e;exact (h.o1 i).1)⟩
theorem zB (h:RnD b H r ob x t err outs hv ho vs os) (B:Blk):Keep b H (H.set r B):=⟨by simp,fun j hj=>by rw[gEn (by have:=h.br;omega)]⟩
theorem RnD.setH (h:RnD b H r ob x t err outs hv ho vs os) {t':SS} {hv':AV} {ho':Option Nat} (hl:zaa H ho' hv' t'.held) (g1:ho'≠some r) (g2:ho'≠some ob) (g3:∀i id,os i=some id→ho'≠some id) (g4:∀id,ho'=some id→b≤id) {err':Int}:
  RnD b (H.set r (.arr 0 14 false [rnA x hv' t'.count t'.ended ob outs.length err'])) r ob x t' err' outs hv' ho' vs os:=by
 have hk:Kept (some r) H (H.set r (.arr 0 14 false [rnA x hv' t'.count t'.ended ob outs.length err'])):=Kept.set _ _ _
 refine⟨gEt h.rlt,hk.get (by simp;exact h.ne) h.obk,h.ne,?_,g1,g2,h.len,fun i l hi=>?_,h.o1,g3,h.o3,fun i id hi=>by have:=h.o4 i id hi;simpa using this,h.br,h.bo,g4,h.bs⟩
 .exact hl.kept hk (fun id e=>by cases e;exact g1)
 .obtain⟨v,h1,h2⟩:=h.gr i l hi
  exact⟨v,h1,h2.kept hk (fun id e=>by cases e;exact (h.o1 i).1)⟩
theorem zf4:zaa H none (.isl (some true) 0 []) []:=⟨zaM,rfl,rfl,zH⟩
theorem zoF {H:Heap} {sz off:Nat} {o:Option Nat} {v:AV} {l:List AV} (h:Grow H sz o v l) (hn:o≠some r):apart v (.optr r 0 0 off)=true:=by
 cases o with
 |none=>rw[h.1];rfl
 |some id=>
  obtain⟨ver,t,h1,h2⟩:=h
  rw[h1]
  have:id≠r:=fun e=>hn (by rw[e])
  simp[apart,this]
theorem zdD {es:List AV} {k:Nat} {w v:AV} (hk:es[k]?=some w) (hw:w.cell=true) (h:v.cells=[v]) (hc:v.cell=true):zb es k 0 v=some (es.set k v):=by
 simp only[zb,hk]
 cases w<;>first|(simp[h,hc];done)|(cases hw)
theorem zbv (h:RnD b H r ob x t 0 outs hv ho vs os) {o:Nat} {l:List Int} (hl:outs[o]?=some l) (hb:l.length≤1048576) (n:Int):okV (W.call (.clo 161 [] []) [.optr r 0 0 0,I o,I n] H)
  (fun v H'=>v= .tuple []∧Keep b H H'∧∃vs' os',RnD b H' r ob x t 0 (outs.set o (l++[n])) hv ho vs' os'):=by
 obtain⟨v,hv1,hg⟩:=h.gr o l hl
 have hol:o<outs.length:=(gEs.1 hl).1
 have hov:o<vs.length:=by rw[h.len];exact hol
 have hvo:vs[o]=v:=(gEs.1 hv1).2
 obtain⟨o',v',H',a1,a2,a3,a4,a5⟩:=hg.app (y:= .isl (some false) 1 [I n]) (xs:=[I n]) (by simp) (by simp) (by simp[zaH];omega)
 have g1:H'[ob]?=some (.arr 0 1 false vs):=a3.get (h.o1 o).2 h.obk
 have g2:H'[r]?=some (.arr 0 14 false [rnA x hv t.count t.ended ob outs.length 0]):=a3.get (h.o1 o).1 h.rb
 have ap:=zoF (off:=11) hg (h.o1 o).1
 have hse:=zdD hv1 hg.cell a2.cells a2.cell
 rw[ze Φ161]
 simp[zlJ,c161,h.rb,h.obk,hol,hov,hvo,hg.okO,hg.cells,ap,a1,a2.okO,a2.cells,a2.cell,g1,hse]
 have hobl:=(gEs.1 g1).1
 have hk:Kept (some ob) H' (H'.set ob (.arr 0 1 false (vs.set o v'))):=Kept.set _ _ _
 have ho'1:o'≠some r:=by rcases a4 with rfl|⟨_,rfl,_⟩;exact (h.o1 o).1;intro e;have:=h.rlt;cases e;omega
 have ho'2:o'≠some ob:=by rcases a4 with rfl|⟨_,rfl,_⟩;exact (h.o1 o).2;intro e;have:=h.olt;cases e;omega
 refine⟨⟨by simp;exact a3.1,fun j hj=>?_⟩,vs.set o v',fun i=>if i=o then o' else os i,?_⟩
 .rw[gEn (by have:=h.bo;omega),a3.2 j (fun e=>by have:=h.bs o j e;omega) (by have:=h.blen;omega)]
 .refine⟨hk.get (by simp;exact Ne.symm h.ne) (by rw[List.length_set];exact g2),gEt hobl,h.ne,?_,h.h1,h.h2,by simp[h.len],fun i m hi=>?_,fun i=>?_,fun i id hi=>?_,fun i j id hij hi=>?_,fun i id hi=>?_,h.br,h.bo,h.bh,fun i id hi=>?_⟩
  .exact (h.hl.kept a3 (fun id e=>fun e'=>h.o2 o id e e')).kept hk (fun id e=>by cases e;exact h.h2)
  .by_cases hio:i=o
   .subst hio
    rw[gEt hol]at hi
    cases hi
    refine⟨v',gEt hov,?_⟩
    simp only[if_true,List.map_append,List.map_cons,List.map_nil]
    exact a2.kept hk (fun id e=>by cases e;exact ho'2)
   .rw[gEn (fun e=>hio e.symm)]at hi
    obtain⟨w,w1,w2⟩:=h.gr i m hi
    refine⟨w,by rw[gEn (fun e=>hio e.symm)];exact w1,?_⟩
    rw[if_neg hio]
    exact (w2.kept a3 (fun id e=>fun e'=>h.o3 o i id (fun e2=>hio e2.symm) e e')).kept hk (fun id e=>by cases e;exact (h.o1 i).2)
  .split
   .exact⟨ho'1,ho'2⟩
   .exact h.o1 i
  .try simp only at hi
   split at hi
   .rcases a4 with rfl|⟨_,rfl,_⟩
    .exact h.o2 o id hi
    .cases hi
     intro e
     cases ho with
     |none=>cases e
     |some q=>have:=h.hl.lt;cases e;omega
   .exact h.o2 i id hi
  .try simp only at hi⊢
   have new:o'=some id→∀q,q≠o→os q≠some id:=by
    intro e q hq e2
    rcases a4 with rfl|⟨_,rfl,_⟩
    .exact h.o3 o q id (fun e3=>hq e3.symm) e e2
    .cases e;have:=h.o4 q _ e2;omega
   by_cases hio:i=o
   .rw[if_pos hio]at hi
    rw[if_neg (fun e=>hij (by rw[hio,e]))]
    exact new hi j (fun e=>hij (by rw[hio,e]))
   .rw[if_neg hio]at hi
    by_cases hjo:j=o
    .rw[if_pos hjo]
     intro e
     exact new e i hio hi
    .rw[if_neg hjo]
     exact h.o3 i j id hij hi
  .try simp only at hi
   rw[List.length_set]
   split at hi
   .exact a5 id hi
   .have:=h.o4 i id hi;have:=a3.1;omega
  .try simp only at hi
   split at hi
   .rcases a4 with rfl|⟨_,rfl,_⟩
    .exact h.bs o id hi
    .cases hi;exact h.blen
   .exact h.bs i id hi
end
theorem zhS {x:Sg} (h:sgI x=0) (hk:etyp x.kind≠0):zE x.expr=0∧(∀m∈zct x.expr,m∈zfM x.kind)∧tyE (bnd2 0 0) x.expr=(etyp x.kind,0):=by
 unfold sgI at h
 repeat' (split at h)
 all_goals first|(exfalso;omega)|skip
 all_goals try (rename_i hh;exact absurd hh hk)
 unfold ckE at h
 split at h
 .rename_i h1;exact absurd h h1
 .rename_i h1
  split at h
  .cases h
  .rename_i h2
   split at h
   .rename_i h3
    refine⟨by omega,fun m hm=>?_,h3⟩
    have h2:(zct x.expr).all (fun s=>decide (s∈zfM x.kind))=true:=by
     cases hb:(zct x.expr).all (fun s=>decide (s∈zfM x.kind)) with
     |true=>rfl
     |false=>exact absurd hb h2
    simpa using lAt.1 h2 m hm
   .cases h
theorem zj2 (a b:Int) (n:List UInt8):(zbj (bnd2 a b) n).map (·.type)=(zbj (bnd2 0 0) n).map (·.type):=by
 unfold zbj bnd2
 by_cases h1:xN=n
 .simp[h1]
 .by_cases h2:yN=n
  .simp[h1,h2]
  .simp[h1,h2]
theorem ziz (a b:Int):∀e:Ex,tyE (bnd2 a b) e=tyE (bnd2 0 0) e:=by
 refine Ex.ind (fun e ih=>?_)
 rw[zcw,zcw,zde fun a' ha=>ih a' ha]
 cases tyEs (bnd2 0 0) e.args.l with
 |inl f=>rfl
 |inr ts=>
  have hf:=zj2 a b e.name
  simp only[zbs]
  cases h1:zbj (bnd2 a b) e.name with
  |none=>
   rw[h1]at hf
   cases h2:zbj (bnd2 0 0) e.name with
   |none=>rfl
   |some c=>rw[h2]at hf;simp at hf
  |some c=>
   rw[h1]at hf
   cases h2:zbj (bnd2 0 0) e.name with
   |none=>rw[h2]at hf;simp at hf
   |some d=>rw[h2]at hf;simp at hf;simp only[hf]
theorem zse {x:Sg} (h:sgI x=0) (hk:etyp x.kind≠0) (a b:Int):evR (b2L a b).l x.expr=evX x a b:=by
 obtain⟨h1,h2,h3⟩:=zhS h hk
 unfold evR tyR
 rw[if_neg (show ¬zE x.expr≠0 by simp[h1])]
 have:tyE (b2L a b).l x.expr=(etyp x.kind,0):=by rw[←h3];exact ziz a b x.expr
 rw[this]
 simp only[ne_eq,not_true,if_false]
 rfl
theorem zmY {x:Sg} (h:sgI x=0) (hk:x.kind=2∨x.kind=3∨x.kind=7):∀y∈x.expr.parts,y.kind=2→y.name=xN:=by
 have he:etyp x.kind≠0:=by rcases hk with hk|hk|hk<;>simp[etyp,hk]
 obtain⟨h1,h2,h3⟩:=zhS h he
 intro y hy hy2
 have:=h2 y.name ((zhp x.expr _).2 ⟨y,hy,hy2,rfl⟩)
 have hn:zfM x.kind=[xN]:=by unfold zfM;rw[if_neg (by omega),if_pos hk]
 rw[hn]at this
 simpa using this
theorem zu4 {x:Sg} (h:sgI x=0) (hk:x.kind=2∨x.kind=3∨x.kind=7) (a:Int):evR (b1L a).l x.expr=evX x a 0:=by
 have he:etyp x.kind≠0:=by rcases hk with hk|hk|hk<;>simp[etyp,hk]
 have hx:=zmY h hk
 rw[←zse h he]
 unfold evR tyR
 rw[zrg a 0 _ hx,zsM a 0 _ hx]
theorem zu3 {x:Sg} (h:sgI x=0) (hk:x.kind=3∨x.kind=7) (a:Int) (h0:(evX x a 0).2=0):(evX x a 0).1=0∨(evX x a 0).1=1:=by
 have he:etyp x.kind=2:=by rcases hk with hk|hk<;>simp[etyp,hk]
 obtain⟨h1,h2,h3⟩:=zhS h (by omega)
 have ht:=ziz a 0 x.expr
 rw[h3,he]at ht
 exact zvd (bnd2 a 0) (by simp[bnd2]) x.expr (.of h1) (by rw[ht]) (by rw[ht]) h0
def snd9 (x:Sg) (q:Int):Int:=if x.kind=9 then q else 0
theorem zve (x:Sg) (hg:sgI x=0) (hk:x.kind=2∨x.kind=3∨x.kind=7∨x.kind=9) (p q:Int) (hp:isIt p=true) (hq:isIt q=true):
  ∃l:Sl Bnd,W.pure 168 [Sl.av AV.str 1 (nmK x.kind),.isl (some false) 1 [I p,I q]]=some (bL l)∧W.pure 208 [x.expr.av,bL l]=some (.tuple [I (evX x p (snd9 x q)).1,I (evX x p (snd9 x q)).2]):=by
 by_cases k9:x.kind=9
 .have he:etyp x.kind≠0:=by simp[etyp,k9]
  refine⟨b2L p q,?_,?_⟩
  .have:nmK x.kind=ofL 1 [xN,yN]:=by simp[nmK,k9]
   rw[this];exact zpf p q
  .have:=e208 (b2L p q) (by simp[b2L,ofL]) (zpe p q hp hq) (by intro c hc;simp[b2L,ofL]at hc;rcases hc with rfl|rfl;exact hp;exact hq) x.expr
   rw[zse hg he]at this
   simp only[snd9,k9,if_true]
   exact this
 .have hk:x.kind=2∨x.kind=3∨x.kind=7:=by omega
  refine⟨b1L p,?_,?_⟩
  .have:nmK x.kind=ofL 1 [xN]:=by simp[nmK,k9,hk]
   rw[this];exact zjl p q
  .have:=e208 (b1L p) (by simp[b1L,ofL]) (zjk p hp) (by intro c hc;simp[b1L,ofL]at hc;subst hc;exact hp) x.expr
   rw[zu4 hg hk]at this
   simp only[snd9,k9,if_false]
   exact this
@[simp] theorem hd_ld5 (k:Int):zd false 1 ((hdK k).cells.drop 5)=Sl.av AV.str 1 (nmK k):=rfl
theorem Keep.of {b:Nat} {H H':Heap} (h:Kept none H H') (hb:b≤H.length):Keep b H H':=⟨h.1,fun j hj=>h.2 j (by simp) (by omega)⟩
section
variable {b:Nat} {H H':Heap} {r ob:Nat} {x:Sg} {t:SS} {err:Int} {outs:List (List Int)} {hv:AV} {ho:Option Nat} {vs:List AV} {os:Nat→Option Nat}
theorem zgk (h:RnD b H r ob x t 0 outs hv ho vs os) (hg:sgI x=0) (hk:x.kind=2∨x.kind=3∨x.kind=7∨x.kind=9) (p q:Int) (hp:isIt p=true) (hq:isIt q=true):
  okV (W.call (.clo 162 [] []) [.optr r 0 0 0,I p,I q] H) (fun v H'=>v=I (evX x p (snd9 x q)).1∧Keep b H H'∧RnD b H' r ob x t (evX x p (snd9 x q)).2 outs hv ho vs os):=by
 obtain⟨l,c1,c2⟩:=zve x hg hk p q hp hq
 have c3:=e112 x.kind (by omega)
 have hk1:Kept none H (H++[.arr 0 8 false [hdK x.kind]]):=Kept.append _ _ _
 have h1:=h.kept hk1
 have hr:=h.rlt
 rw[ze Φ162]
 have g0:∀B,(H++[B])[r]?=some (.arr 0 14 false [rnA x hv t.count t.ended ob outs.length 0]):=fun B=>(h.kept (Kept.append _ _ _)).rb
 simp[zog,c162,h.rb,c1,c2,c3,g0]
 exact⟨(Keep.of hk1 h.blen).trans (zB h1 _),h1.setR (t':=t) rfl⟩
theorem zc9 (h:RnD b H r ob x t err outs hv ho vs os) (he:err≠0) (o n:Int):W.call (.clo 161 [] []) [.optr r 0 0 0,I o,I n] H=some (.tuple [],H):=by
 rw[ze Φ161]
 simp[zlJ,c161,h.rb,he]
def RnS (b:Nat) (H:Heap) (r ob:Nat) (x:Sg) (t:SS) (err:Int) (outs:List (List Int)):Prop:=∃hv ho vs os,RnD b H r ob x t err outs hv ho vs os
def Did (b:Nat) (H H':Heap) (r ob:Nat) (x:Sg) (m:SS×List (List Int)×Int) (outs:List (List Int)):Prop:=
 Keep b H H'∧∃t' outs',RnS b H' r ob x t' m.2.2 outs'∧outs'.length=outs.length∧(m.2.2=0→t'=m.1∧outs'=zipA outs m.2.1)
end
theorem zfG {x:Sg} {t:SS} {i n:Int} (h:zbD x t i n=0):sgI x=0∧ssB x t=true∧t.ended=false∧isIt n=true∧(x.kind=1→i= -1∧t.count≠x.items.l.length)∧(x.kind≠1→zbh x t=i):=by
 unfold zbD at h
 split at h
 .rename_i h1;exact absurd h h1
 .rename_i h1
  obtain⟨g1,g2⟩:=zx.1 (show zaD x t=0 by omega)
  split at h
  .cases h
  .rename_i h2
   split at h
   .cases h
   .rename_i h3
    refine⟨g1,g2,?_,?_,fun k1=>?_,fun k1=>?_⟩
    .cases he:t.ended with|false=>rfl|true=>exact absurd (.inl he) h2
    .cases he:isIt n with|true=>rfl|false=>exact absurd (.inl he) h3
    .exact⟨cBc fun hi=>h2 (.inr (.inl ⟨k1,.inl hi⟩)),fun hc=>h2 (.inr (.inl ⟨k1,.inr hc⟩))⟩
    .exact cBc fun hi=>h2 (.inr (.inr ⟨k1,hi⟩))
theorem zeB {x:Sg} (h7:x.kind≠7) (h10:x.kind≠10):outK x.kind=1:=by simp[outK,h7,h10]
theorem len1 {α:Type} {l:List α} (h:l.length=1):∃a,l=[a]:=by
 match l,h with
 | [a],_=>exact⟨a,rfl⟩
theorem len2 {α:Type} {l:List α} (h:l.length=2):∃a b,l=[a,b]:=by
 match l,h with
 | [a,b],_=>exact⟨a,b,rfl⟩
section
variable {b:Nat} {H H':Heap} {r ob:Nat} {x:Sg} {t:SS} {err:Int} {outs:List (List Int)} {hv:AV} {ho:Option Nat} {vs:List AV} {os:Nat→Option Nat}
theorem zsV (h:RnD b H r ob x t 0 outs hv ho vs os) (hl:outs.length=outK x.kind) (hb:∀l∈outs,l.length≤1000000) {i n:Int} (he:zbD x t i n=0) (k1:x.kind=1):
  okV (W.call (.clo 194 [] []) [.optr r 0 0 0,I i,I n] H) (fun v H'=>Did b H H' r ob x (zr x t i n) outs):=by
 obtain⟨g1,g2,g3,g4,g5,g6⟩:=zfG he
 obtain⟨f1,f2,f3,f4⟩:=zM g2
 have hm:zO x=x.items.l.length:=by simp[zO,k1]
 have hne:=(g5 k1).2
 have hit:=(ziF g1).1
 rw[zeB (by omega) (by omega)]at hl
 obtain⟨l,rfl⟩:=len1 hl
 have hlt:t.count.toNat<x.items.l.length:=by omega
 have ha:=gEg hlt
 obtain⟨v,H',d1,rfl,d2,vs',os',d3⟩:=zu.1 (zbv h (o:=0) rfl (by have:=hb l (by simp);omega) x.items.l[t.count.toNat])
 have w:IntKind.wrap .i64 (t.count+1)=t.count+1:=zG (by omega) (by omega)
 have hmv:zr x t i n=({t with count:=t.count+1},[[x.items.l[t.count.toNat]]],0):=by simp[zr,k1,gEd,ha]
 rw[hmv,ze Φ194]
 simp at d1
 simp[zn7,c194,h.rb,f1,hlt,d1,d3.rb,w]
 have d4:=d3.setR (t':={t with count:=t.count+1}) (err':=0) rfl
 exact⟨d2.trans (zB d3 _),_,_,⟨_,_,_,_,d4⟩,rfl,fun _=>⟨rfl,rfl⟩⟩
theorem zsU (h:RnD b H r ob x t 0 outs hv ho vs os) (hl:outs.length=outK x.kind) (hb:∀l∈outs,l.length≤1000000) {i n:Int} (hg:sgI x=0) (hn:isIt n=true) (k2:x.kind=2):
  okV (W.call (.clo 195 [] []) [.optr r 0 0 0,I i,I n] H) (fun v H'=>Did b H H' r ob x (zr x t i n) outs):=by
 rw[zeB (by omega) (by omega)]at hl
 obtain⟨l,rfl⟩:=len1 hl
 obtain⟨v,H1,c1,rfl,c2,c3⟩:=zu.1 (zgk h hg (.inl k2) n 0 hn rfl)
 have e9:snd9 x 0=0:=by unfold snd9;split<;>rfl
 rw[e9]at c1 c3
 have hmv:zr x t i n=if (evX x n 0).2≠0 then (ssZ,[],(evX x n 0).2) else (t,[[(evX x n 0).1]],0):=by simp[zr,k2]
 rw[hmv,ze Φ195]
 by_cases hf:(evX x n 0).2=0
 .rw[if_neg (by simp[hf])]
  rw[hf]at c3
  obtain⟨v,H',d1,rfl,d2,vs',os',d3⟩:=zu.1 (zbv c3 (o:=0) rfl (by have:=hb l (by simp);omega) (evX x n 0).1)
  simp at d1
  simp[zlH,c195,c1,d1]
  exact⟨c2.trans d2,_,_,⟨_,_,_,_,d3⟩,rfl,fun _=>⟨rfl,rfl⟩⟩
 .rw[if_pos hf]
  have d1:=zc9 c3 hf 0 (evX x n 0).1
  simp[zlH,c195,c1,d1]
  exact⟨c2,_,_,⟨_,_,_,_,c3⟩,rfl,fun h=>absurd h hf⟩
theorem zsT (h:RnD b H r ob x t 0 outs hv ho vs os) (hl:outs.length=outK x.kind) (hb:∀l∈outs,l.length≤1000000) {i n:Int} (hg:sgI x=0) (hn:isIt n=true) (k3:x.kind=3):
  okV (W.call (.clo 196 [] []) [.optr r 0 0 0,I i,I n] H) (fun v H'=>Did b H H' r ob x (zr x t i n) outs):=by
 rw[zeB (by omega) (by omega)]at hl
 obtain⟨l,rfl⟩:=len1 hl
 obtain⟨v,H1,c1,rfl,c2,c3⟩:=zu.1 (zgk h hg (.inr (.inl k3)) n 0 hn rfl)
 have e9:snd9 x 0=0:=by unfold snd9;split<;>rfl
 rw[e9]at c1 c3
 have hmv:zr x t i n=if (evX x n 0).2≠0 then (ssZ,[],(evX x n 0).2) else (t,[if (evX x n 0).1=1 then [n] else []],0):=by simp[zr,k3]
 rw[hmv,ze Φ196]
 by_cases hf:(evX x n 0).2=0
 .rw[if_neg (by simp[hf])]
  rw[hf]at c3
  by_cases h1:(evX x n 0).1=1
  .obtain⟨v,H',d1,rfl,d2,vs',os',d3⟩:=zu.1 (zbv c3 (o:=0) rfl (by have:=hb l (by simp);omega) n)
   simp at d1
   simp[zie,c196,c1,eq_true h1,d1]
   exact⟨c2.trans d2,_,_,⟨_,_,_,_,d3⟩,rfl,fun _=>⟨rfl,rfl⟩⟩
  .simp[zie,c196,c1,h1]
   exact⟨c2,_,_,⟨_,_,_,_,c3⟩,rfl,fun _=>⟨rfl,by simp⟩⟩
 .rw[if_pos hf]
  have d1:=zc9 c3 hf 0 n
  by_cases h1:(evX x n 0).1=1
  .simp[zie,c196,c1,eq_true h1,d1]
   exact⟨c2,_,_,⟨_,_,_,_,c3⟩,rfl,fun h=>absurd h hf⟩
  .simp[zie,c196,c1,h1]
   exact⟨c2,_,_,⟨_,_,_,_,c3⟩,rfl,fun h=>absurd h hf⟩
theorem zsP (h:RnD b H r ob x t 0 outs hv ho vs os) (hl:outs.length=outK x.kind) (hb:∀l∈outs,l.length≤1000000) {i n:Int} (hg:sgI x=0) (hn:isIt n=true) (k7:x.kind=7):
  okV (W.call (.clo 202 [] []) [.optr r 0 0 0,I i,I n] H) (fun v H'=>Did b H H' r ob x (zr x t i n) outs):=by
 have h2:outK x.kind=2:=by simp[outK,k7]
 rw[h2]at hl
 obtain⟨l,m,rfl⟩:=len2 hl
 obtain⟨v,H1,c1,rfl,c2,c3⟩:=zu.1 (zgk h hg (.inr (.inr (.inl k7))) n 0 hn rfl)
 have e9:snd9 x 0=0:=by unfold snd9;split<;>rfl
 rw[e9]at c1 c3
 have hmv:zr x t i n=if (evX x n 0).2≠0 then (ssZ,[],(evX x n 0).2) else (t,if (evX x n 0).1=1 then [[n],[]] else [[],[n]],0):=by simp[zr,k7]
 have w0:IntKind.wrap .i64 0=0:=zG (by omega) (by omega)
 have w1:IntKind.wrap .i64 1=1:=zG (by omega) (by omega)
 rw[hmv,ze Φ202]
 by_cases hf:(evX x n 0).2=0
 .rw[if_neg (by simp[hf])]
  rw[hf]at c3
  rcases zu3 hg (.inr k7) n hf with h1|h1
  .rw[h1]at c1
   obtain⟨v,H',d1,rfl,d2,vs',os',d3⟩:=zu.1 (zbv c3 (o:=1) rfl (by have:=hb m (by simp);omega) n)
   simp at d1
   simp[zj5,c202,c1,w1,d1]
   refine⟨c2.trans d2,_,_,⟨_,_,_,_,d3⟩,rfl,fun _=>⟨rfl,by simp[h1]⟩⟩
  .rw[h1]at c1
   obtain⟨v,H',d1,rfl,d2,vs',os',d3⟩:=zu.1 (zbv c3 (o:=0) rfl (by have:=hb l (by simp);omega) n)
   simp at d1
   simp[zj5,c202,c1,w0,d1]
   refine⟨c2.trans d2,_,_,⟨_,_,_,_,d3⟩,rfl,fun _=>⟨rfl,by simp[h1]⟩⟩
 .rw[if_pos hf]
  have d1:=fun o=>zc9 c3 hf o n
  simp[zj5,c202,c1,d1]
  exact⟨c2,_,_,⟨_,_,_,_,c3⟩,rfl,fun h=>absurd h hf⟩
theorem zsQ (h:RnD b H r ob x t 0 outs hv ho vs os) (hl:outs.length=outK x.kind) (hb:∀l∈outs,l.length≤1000000) {i n:Int} (hg:sgI x=0) (hc:0≤t.count) (k6:x.kind=6):
  okV (W.call (.clo 201 [] []) [.optr r 0 0 0,I i,I n] H) (fun v H'=>Did b H H' r ob x (zr x t i n) outs):=by
 rw[zeB (by omega) (by omega)]at hl
 obtain⟨l,rfl⟩:=len1 hl
 have hs:=zbt hg
 have hM:zZ x.kind=200:=by simp[zZ,k6]
 have hmv:zr x t i n=if t.count<x.size then ({t with count:=t.count+1},[[n]],0) else (t,[[]],0):=by simp[zr,k6]
 rw[hmv,ze Φ201]
 by_cases hlt:t.count<x.size
 .have w:IntKind.wrap .i64 (t.count+1)=t.count+1:=zG (by omega) (by omega)
  have c3:=h.setR (t':={t with count:=t.count+1}) (err':=0) rfl
  obtain⟨v,H',d1,rfl,d2,vs',os',d3⟩:=zu.1 (zbv c3 (o:=0) rfl (by have:=hb l (by simp);omega) n)
  simp at d1
  simp[zlD,c201,h.rb,hlt,w,d1]
  exact⟨(zB h _).trans d2,_,_,⟨_,_,_,_,d3⟩,rfl,fun _=>⟨rfl,rfl⟩⟩
 .simp[zlD,c201,h.rb,hlt]
  exact⟨Keep.refl _ _,_,_,⟨_,_,_,_,h⟩,rfl,fun _=>⟨rfl,by simp⟩⟩
theorem zsO (h:RnD b H r ob x t 0 outs hv ho vs os) (hl:outs.length=outK x.kind) (hb:∀l∈outs,l.length≤1000000) {i n:Int} (hi:0≤i∧i≤1) (k8:x.kind=8):
  okV (W.call (.clo 204 [] [.eptr [.clo 192 [] []]]) [.optr r 0 0 0,I i,I n] H) (fun v H'=>Did b H H' r ob x (zr x t i n) outs):=by
 rw[zeB (by omega) (by omega)]at hl
 obtain⟨l,rfl⟩:=len1 hl
 have hmv:zr x t i n=({t with count:=1 - i},[[n]],0):=by simp[zr,k8]
 have w:IntKind.wrap .i64 (1 - i)=1 - i:=zG (by omega) (by omega)
 obtain⟨v,H',d1,rfl,d2,vs',os',d3⟩:=zu.1 (zbv h (o:=0) rfl (by have:=hb l (by simp);omega) n)
 have d0:W.call (.clo 192 [] []) [.optr r 0 0 0,I i,I n] H=some (.tuple [],H'):=by
  rw[ze Φ192]
  simp at d1
  simp[zn9,c192,d1]
 have d4:=d3.setR (t':={t with count:=1 - i}) (err':=0) rfl
 rw[hmv,ze Φ204]
 simp[zn4,c204,d0,d3.rb,w]
 exact⟨d2.trans (zB d3 _),_,_,⟨_,_,_,_,d4⟩,rfl,fun _=>⟨rfl,rfl⟩⟩
theorem zri (h:RnD b H r ob x t 0 outs hv ho vs os) (hl:outs.length=outK x.kind) {i n:Int} (k10:x.kind=10):
  okV (W.call (.clo 207 [] []) [.optr r 0 0 0,I i,I n] H) (fun v H'=>Did b H H' r ob x (zr x t i n) outs):=by
 have h2:outK x.kind=0:=by simp[outK,k10]
 rw[h2]at hl
 have:outs=[]:=List.length_eq_zero_iff.1 hl
 subst this
 have hmv:zr x t i n=(t,[],0):=by simp[zr,k10]
 rw[hmv,ze Φ207]
 simp[zn3,c207]
 exact⟨Keep.refl _ _,_,_,⟨_,_,_,_,h⟩,rfl,fun _=>⟨rfl,rfl⟩⟩
end
section
variable {b:Nat} {H H':Heap} {r ob:Nat} {x:Sg} {t:SS} {err:Int} {outs:List (List Int)} {hv:AV} {ho:Option Nat} {vs:List AV} {os:Nat→Option Nat}
theorem zk3 (N:Nat) (hN:N≤1000) (n:Int):∀(m k:Nat) (H:Heap) (l:List Int) (vs:List AV) (os:Nat→Option Nat),k+m=N→l.length+m≤1048576→RnD b H r ob x t 0 [l] hv ho vs os→
  okC (W.loop [0,2,10,11] zlb [(0,.optr r 0 0 0),(2,I n),(10,I N),(11,I k)] H) (fun q F H'=>q= .exit 0∧Keep b H H'∧RnS b H' r ob x t 0 [l++List.replicate m n])
 |0,k,H,l,vs,os,hk,hb,h=>by
  have:k=N:=by omega
  subst this
  rw[zc]
  simp[zjh,zjt]
  exact⟨Keep.refl _ _,_,_,_,_,h⟩
 |m+1,k,H,l,vs,os,hk,hb,h=>by
  have hlt:(k:Int)<N:=by omega
  have hlt':k<N:=by omega
  have hw:=zn (k:=k) (by omega)
  obtain⟨v,H1,d1,rfl,d2,vs',os',d3⟩:=zu.1 (zbv h (o:=0) rfl (by omega) n)
  obtain⟨q,F,H2,e1,rfl,e2,e3⟩:=zf.1 (zk3 N hN n m (k+1) H1 (l++[n]) vs' os' (by omega) (by simp;omega) d3)
  rw[zc]
  simp at d1
  simp only[iNa,iCo]at e1
  simp[zjh,zjt,hlt,hlt',d1,hw,e1]
  refine⟨d2.trans e2,?_⟩
  rw[List.append_assoc]at e3
  exact e3
theorem zsR (h:RnD b H r ob x t 0 outs hv ho vs os) (hl:outs.length=outK x.kind) (hb:∀l∈outs,l.length≤1000000) {i n:Int} (hg:sgI x=0) (k5:x.kind=5):
  okV (W.call (.clo 200 [] []) [.optr r 0 0 0,I i,I n] H) (fun v H'=>Did b H H' r ob x (zr x t i n) outs):=by
 rw[zeB (by omega) (by omega)]at hl
 obtain⟨l,rfl⟩:=len1 hl
 have hs:=zbt hg
 have hM:zZ x.kind=100:=by simp[zZ,k5]
 have hL:zX x.kind=0:=by simp[zX,k5]
 have hsz:x.size=(x.size.toNat:Int):=by omega
 have hmv:zr x t i n=(t,[List.replicate x.size.toNat n],0):=by simp[zr,k5]
 obtain⟨q,F,H2,e1,rfl,e2,hv',ho',vs',os',e3⟩:=zf.1 (zk3 x.size.toNat (by omega) n x.size.toNat 0 H l vs os (by omega) (by have:=hb l (by simp);omega) h)
 rw[←hsz]at e1
 rw[hmv,ze Φ200]
 simp at e1
 simp[zn6,c200,h.rb,e1]
 exact⟨e2,_,_,⟨_,_,_,_,e3⟩,rfl,fun _=>⟨rfl,rfl⟩⟩
def Sum1 (b:Nat) (H H':Heap) (r ob:Nat) (x:Sg) (t:SS) (outs:List (List Int)) (hv:AV) (ho:Option Nat) (vs:List AV) (os:Nat→Option Nat) (rest:List Int) (n err:Int) (F:Fr):Prop:=
 ∃n' err',F.keep [0,2]=[(0,.optr r 0 0 0),(2,I n')]∧Keep b H H'∧RnD b H' r ob x t err' outs hv ho vs os∧(err=0→if (sumB rest n).2=0 then n'=(sumB rest n).1∧err'=0 else err'=14)∧(err≠0→err'=err)
theorem zpO (hh:∀a∈t.held,isIt a=true):∀(rest:List Int) (k:Nat) (n:Int) (err:Int) (H:Heap),t.held.drop k=rest→k≤t.held.length→ -((k:Int)+1)* 1099511627776≤n∧n≤((k:Int)+1)* 1099511627776→RnD b H r ob x t err outs hv ho vs os→
  okC (W.loop [0,2,9,10,11] zlc [(0,.optr r 0 0 0),(2,I n),(9,hv),(10,I t.held.length),(11,I k)] H)
   (fun q F H'=>q= .exit 0∧Sum1 b H H' r ob x t outs hv ho vs os rest n err F):=by
 intro rest
 induction rest with
 |nil=>
  intro k n err H hk hkl hn h
  have hlen:=zk hk hkl
  rw[zc]
  simp[zee,zfA,hlen,h.hl.okO]
  exact⟨n,err,rfl,Keep.refl _ _,h,fun e=>by simp[sumB,e],fun _=>rfl⟩
 |cons a rest ih=>
  intro k n err H hk hkl hn h
  obtain⟨hlt,ha,hr⟩:=zp hk
  have hlt':(k:Int)<t.held.length:=by omega
  have hbd:=h.hl.bound
  have hw:=zn (k:=k) (by omega)
  obtain⟨p,p1,p2,p3⟩:=h.hl.at ha
  have hia:=(zV a).1 (hh a (lMg ha))
  have wn:IntKind.wrap .i64 (n+a)=n+a:=zG (by omega) (by omega)
  have c1:=e116 (n+a)
  have hn': -(((k+1:Nat):Int)+1)* 1099511627776≤n+a∧n+a≤(((k+1:Nat):Int)+1)* 1099511627776:=by
   constructor<;>(simp only[iNa,iCo];omega)
  rw[zc]
  cases hi:isIt (n+a) with
  |true=>
   rw[hi]at c1
   obtain⟨q,F,H2,e1,rfl,n',err',e2,e3,e4,e5,e6⟩:=zf.1 (ih (k+1) (n+a) err H hr hlt hn' h)
   simp only[iNa,iCo]at e1
   simp[zee,zfA,hlt,hlt',h.hl.okO,p1,p2,p3,wn,c1,hw,e1]
   refine⟨n',err',e2,e3,e4,fun e=>?_,e6⟩
   .have:sumB (a::rest) n=sumB rest (n+a):=by simp[sumB,hi]
    rw[this];exact e5 e
  |false=>
   rw[hi]at c1
   by_cases he:err=0
   .subst he
    have h2:=h.setR (t':=t) (err':=14) rfl
    obtain⟨q,F,H2,e1,rfl,n',err',e2,e3,e4,e5,e6⟩:=zf.1 (ih (k+1) (n+a) 14 _ hr hlt hn' h2)
    simp only[iNa,iCo]at e1
    simp[zee,zfA,hlt,hlt',h.hl.okO,p1,p2,p3,wn,c1,hw,e1,h.rb]
    refine⟨n',err',e2,(zB h _).trans e3,e4,fun _=>?_,fun h=>absurd rfl h⟩
    .have:sumB (a::rest) n=(0,14):=by simp[sumB,hi]
     rw[this,if_neg (by decide)];exact e6 (by decide)
   .obtain⟨q,F,H2,e1,rfl,n',err',e2,e3,e4,e5,e6⟩:=zf.1 (ih (k+1) (n+a) err H hr hlt hn' h)
    simp only[iNa,iCo]at e1
    simp[zee,zfA,hlt,hlt',h.hl.okO,p1,p2,p3,wn,c1,hw,e1,h.rb,he]
    exact⟨n',err',e2,e3,e4,fun h=>absurd h he,fun _=>e6 he⟩
theorem zmc (h:RnD b H r ob x t 0 outs hv ho vs os) (hh:∀a∈t.held,isIt a=true) {l:List Int} (hl:outs=[l]) (hb:l.length≤1000000):
  okV (W.call (.clo 199 [] []) [.optr r 0 0 0] H) (fun v H'=>v= .tuple []∧Keep b H H'∧∃outs',RnS b H' r ob x {t with held:=[]} (sumB t.held 0).2 outs'∧outs'.length=1∧((sumB t.held 0).2=0→outs'=[l++[(sumB t.held 0).1]])):=by
 subst hl
 have hE:(sumB t.held 0).2=0∨(sumB t.held 0).2=14:=by
  have key:∀(l:List Int) (n:Int),(sumB l n).2=0∨(sumB l n).2=14:=by
   intro l
   induction l with
   |nil=>intro n;exact .inl rfl
   |cons a r ih=>intro n;unfold sumB;split;exact ih _;exact .inr rfl
  exact key _ _
 obtain⟨q,F,H1,e1,rfl,n',err',e2,e3,e4,e5,_⟩:=zf.1 (zpO hh t.held 0 0 0 H rfl (by omega) (by omega) h)
 have e5:=e5 rfl
 have hnil:∀{H:Heap} {outs:List (List Int)} {err:Int} {vs:List AV} {os:Nat→Option Nat},RnD b H r ob x t err outs hv ho vs os→RnD b (H.set r (.arr 0 14 false [rnA x (.isl (some true) 0 []) t.count t.ended ob outs.length err])) r ob x {t with held:=[]} err outs (.isl (some true) 0 []) none vs os:=by
  intro H outs err vs os h
  exact h.setH (t':={t with held:=[]}) zf4 (by simp) (by simp) (by simp) (by simp)
 have e2a:F.get 0= .optr r 0 0 0:=by have:=congrArg (fun l=>l.head?) e2;simpa using this
 have e2b:F.get 2=I n':=by simp at e2;exact e2.2
 rw[ze Φ199]
 simp at e1
 by_cases hz:(sumB t.held 0).2=0
 .rw[if_pos hz]at e5
  obtain⟨rfl,rfl⟩:=e5
  obtain⟨v,H2,d1,rfl,d2,vs',os',d3⟩:=zu.1 (zbv e4 (o:=0) rfl (by omega) (sumB t.held 0).1)
  simp at d1
  simp[zlE,c199,h.rb,h.hl.okO,h.hl.len,e1,e2a,e2b,d1,d3.rb]
  rw[hz]
  exact⟨(e3.trans d2).trans (zB d3 _),_,⟨_,_,_,_,hnil d3⟩,rfl,fun _=>rfl⟩
 .rw[if_neg hz]at e5
  subst e5
  have d1:=zc9 e4 (by decide) 0 n'
  simp[zlE,c199,h.rb,h.hl.okO,h.hl.len,e1,e2a,e2b,d1,e4.rb]
  rw[hE.resolve_left hz]
  exact⟨e3.trans (zB e4 _),_,⟨_,_,_,_,hnil e4⟩,rfl,fun h=>absurd h (by decide)⟩
end
theorem zoE {v:AV} {l:List Int} (H:Heap) (hx:l.length≤1048576) (he:zat (H++[.arr 0 1 false []]) 1 v=some (l.map I)):
  ex (H++[.arr 0 1 false []]) (.app 1) [.osl H.length 0 0 0,v]=some (.osl H.length l.length 0 l.length,H++[.arr l.length 1 false (l.map I)]):=by
 have hall:(l.map I).all (fun e=>e.cells.all AV.cell)=true:=zjv (by simp) l
 have h0:truncH (H++[.arr 0 1 false []]) (.osl H.length 0 0 0)=H++[.arr 0 1 false []]:=by simp[truncH]
 simp only[ex,he,hall,if_true,h0]
 cases l with
 |nil=>simp[zbA]
 |cons a r=>
  simp only[lLc]at hx
  simp[zbA,zaH]
  omega
theorem zjo {H:Heap} {ho:Option Nat} {hv:AV} {l:List Int} (h:zaa H ho hv l) (hl:l.length+1≤1048576) (n:Int):∃v' H1 v2 H2 ver,W.call (.clo 44 [] []) [hv] H=some (v',H1)∧okO v'=some v'∧Kept none H H1∧ex H1 (.app 1) [v',.isl (some false) 1 [I n]]=some (v2,H2)∧
  v2= .osl H.length ver 0 (l++[n]).length∧zaa H2 (some H.length) v2 (l++[n])∧Kept none H H2:=by
 have own:∀H1,H1=H++[.arr l.length 1 false (l.map I)]→ex H1 (.app 1) [.osl H.length l.length 0 l.length,.isl (some false) 1 [I n]]=some (.osl H.length (l.length+1) 0 (l.length+1),H++[.arr (l.length+1) 1 false ((l++[n]).map I)]):=by
  rintro H1 rfl
  rw[zbd (l:=l) (by simp) (by omega) n]
  simp
 have fin:∀ver,zaa (H++[.arr ver 1 false ((l++[n]).map I)]) (some H.length) (.osl H.length ver 0 (l++[n]).length) (l++[n]):=fun ver=>⟨ver,rfl,by simp,by simp,by simpa using hl⟩
 cases ho with
 |none=>
  obtain⟨y,rfl,rfl,hy⟩:=h
  have c:=zmb y hy H
  by_cases hnl:y.nl=some true
  .have hy0:y.l=[]:=by rcases hy.1 with⟨_,h⟩|h;exact h;rw[hnl]at h;cases h
   have e1:zas I 1 y H=(.isl (some true) 0 [],H):=by unfold zas;rw[if_pos hnl]
   rw[e1]at c
   refine⟨_,_,_,_,0,c,rfl,Kept.refl _ _,zaB H 0 n,?_,?_,Kept.append _ _ _⟩
   .rw[hy0];rfl
   .have:=fin 0;rw[hy0]at this⊢;exact this
  .have e1:zas I 1 y H=(.osl H.length y.l.length 0 y.l.length,H++[.arr y.l.length 1 false (y.l.map I)]):=by unfold zas;rw[if_neg hnl]
   rw[e1]at c
   refine⟨_,_,_,_,y.l.length+1,c,rfl,Kept.append _ _ _,own _ rfl,by simp,?_,Kept.append _ _ _⟩
   have:=fin (y.l.length+1)
   simpa using this
 |some id=>
  have he:=h.kept (Kept.append none H [.arr 0 1 false []]) (by simp)
  have hel:=zoE H (by omega) he.elems
  have ho2:=h.okO
  obtain⟨ver,rfl,h2,h3,h4⟩:=h
  have c:W.call (.clo 44 [] []) [.osl id ver 0 l.length] H=some (.osl H.length l.length 0 l.length,H++[.arr l.length 1 false (l.map I)]):=by
   rw[ze Φ44]
   simp[fi44,c44,hel]
  refine⟨_,_,_,_,l.length+1,c,rfl,Kept.append _ _ _,own _ rfl,by simp,?_,Kept.append _ _ _⟩
  have:=fin (l.length+1)
  simpa using this
section
variable {b:Nat} {H H':Heap} {r ob:Nat} {x:Sg} {t:SS} {err:Int} {outs:List (List Int)} {hv:AV} {ho:Option Nat} {vs:List AV} {os:Nat→Option Nat}
theorem zsS (h:RnD b H r ob x t 0 outs hv ho vs os) (hl:outs.length=outK x.kind) (hb:∀l∈outs,l.length≤1000000) {i n:Int} (hg:sgI x=0) (hs:ssB x t=true) (hn:isIt n=true) (k4:x.kind=4):
  okV (W.call (.clo 197 [] []) [.optr r 0 0 0,I i,I n] H) (fun v H'=>Did b H H' r ob x (zr x t i n) outs):=by
 rw[zeB (by omega) (by omega)]at hl
 obtain⟨l,rfl⟩:=len1 hl
 obtain⟨f1,f2,f3,f4⟩:=zM hs
 have hsz:=zbt hg
 have hM:zZ x.kind=100:=by simp[zZ,k4]
 have hL:zX x.kind=1:=by simp[zX,k4]
 have hH:zY x=x.size - 1:=by simp[zY,k4]
 obtain⟨v',H1,v2,H2,ver,c1,c2,c3,c4,rfl,c5,c6⟩:=zjo h.hl (by omega) n
 have h1:=h.kept c3
 have h2:=h.kept c6
 have hrlt:=h.rlt;have holt:=h.olt
 have h3:=h2.setH (t':={t with held:=t.held++[n]}) (hv':= .osl H.length ver 0 (t.held++[n]).length) (ho':=some H.length) c5 (by simp;omega) (by simp;omega) (fun i id hi e=>by cases e;have:=h.o4 i _ hi;omega) (fun id e=>by cases e;exact h.blen) (err':=0)
 have hmv:zr x t i n=if ((t.held.length:Int)+1<x.size) then ({t with held:=t.held++[n]},[[]],0)
  else if (sumB (t.held++[n]) 0).2≠0 then (ssZ,[],(sumB (t.held++[n]) 0).2) else ({t with held:=[]},[[(sumB (t.held++[n]) 0).1]],0):=by simp[zr,k4]
 have hk2:Keep b H (H2.set r (.arr 0 14 false [rnA x (.osl H.length ver 0 (t.held++[n]).length) t.count t.ended ob 1 0])):=(Keep.of c6 h.blen).trans (zB h2 _)
 rw[hmv,ze Φ197]
 by_cases hlt:(t.held.length:Int)+1<x.size
 .rw[if_pos hlt]
  have hne:¬(t.held.length:Int)+1=x.size:=by omega
  simp at c4 h3 hk2
  simp[zlG,c197,h.rb,h.hl.okO,c1,c2,c4,h1.rb,h2.rb,hne,h3.rb,gEz, -getElem?_pos]
  exact⟨hk2,_,_,⟨_,_,_,_,h3⟩,rfl,fun _=>⟨rfl,by simp⟩⟩
 .rw[if_neg hlt]
  have he:(t.held.length:Int)+1=x.size:=by omega
  have hall:∀a∈t.held++[n],isIt a=true:=by
   intro a ha
   rcases List.mem_append.1 ha with ha|ha
   .exact f4 a ha
   .simp at ha;subst ha;exact hn
  obtain⟨v,H3,d1,rfl,d2,outs',d3,d4,d5⟩:=zu.1 (zmc h3 hall (l:=l) rfl (hb l (by simp)))
  simp at c4 h3 hk2 d1 d2
  simp[zlG,c197,h.rb,h.hl.okO,c1,c2,c4,h1.rb,h2.rb,he,h3.rb,d1,gEz, -getElem?_pos]
  by_cases hz:(sumB (t.held++[n]) 0).2=0
  .rw[if_pos hz]
   rw[hz]at d3
   exact⟨hk2.trans d2,_,outs',d3,d4,fun _=>⟨rfl,d5 hz⟩⟩
  .rw[if_neg hz]
   exact⟨hk2.trans d2,_,outs',d3,d4,fun h=>absurd h hz⟩
theorem and2 (c:Int) (h0:0≤c) (h3:c≤3):zjs .i64 c 2=if 2≤c then 2 else 0:=by
 have:c=0∨c=1∨c=2∨c=3:=by omega
 rcases this with rfl|rfl|rfl|rfl<;>decide
theorem zsN (h:RnD b H r ob x t 0 outs hv ho vs os) (hl:outs.length=outK x.kind) (hb:∀l∈outs,l.length≤1000000) {i n:Int} (hg:sgI x=0) (hs:ssB x t=true) (hn:isIt n=true) (k9:x.kind=9):
  okV (W.call (.clo 205 [] []) [.optr r 0 0 0,I i,I n] H) (fun v H'=>Did b H H' r ob x (zr x t i n) outs):=by
 rw[zeB (by omega) (by omega)]at hl
 obtain⟨l,rfl⟩:=len1 hl
 obtain⟨f1,f2,f3,f4⟩:=zM hs
 have hC:zO x=3:=by simp[zO,k9]
 have hH:zY x=1:=by simp[zY,k9]
 rw[ze Φ205]
 by_cases hi:i=0
 .have hmv:zr x t i n=if 2≤t.count then (t,[[]],0) else ({t with held:=[n]},[[]],0):=by simp[zr,k9,hi]
  have ha:=and2 t.count f1 (by omega)
  rw[hmv]
  by_cases h2:2≤t.count
  .rw[if_pos h2]at ha⊢
   simp[zhk,c205,hi,h.rb,ha]
   exact⟨Keep.refl _ _,_,_,⟨_,_,_,_,h⟩,rfl,fun _=>⟨rfl,by simp⟩⟩
  .rw[if_neg h2]at ha⊢
   simp[zhk,c205,hi,h.rb,ha]
   have h3:=h.setH (t':={t with held:=[n]}) (hv':= .isl (some false) 1 [I n]) (ho':=none) ⟨ofL 1 [n],rfl,rfl,zaN (by simp)⟩ (by simp) (by simp) (by simp) (by simp) (err':=0)
   exact⟨zB h _,_,_,⟨_,_,_,_,h3⟩,rfl,fun _=>⟨rfl,by simp⟩⟩
 .cases hh:t.held with
  |nil=>
   have hmv:zr x t i n=(t,[[]],0):=by simp[zr,k9,hi,hh]
   have hlen:=h.hl.len
   rw[hh]at hlen
   rw[hmv]
   simp[zhk,c205,hi,h.rb,h.hl.okO,hlen]
   exact⟨Keep.refl _ _,_,_,⟨_,_,_,_,h⟩,rfl,fun _=>⟨rfl,by simp⟩⟩
  |cons a rest=>
   have hr0:rest=[]:=by
    rw[hh]at f3;simp at f3
    exact List.length_eq_zero_iff.1 (by omega)
   subst hr0
   have hmv:zr x t i n=if (evX x a n).2≠0 then (ssZ,[],(evX x a n).2) else ({t with held:=[]},[[(evX x a n).1]],0):=by simp[zr,k9,hi,hh]
   have hlen:=h.hl.len
   rw[hh]at hlen
   obtain⟨p,p1,p2,p3⟩:=h.hl.at (k:=0) (a:=a) (by rw[hh];rfl)
   have h3:=h.setH (t':={t with held:=[]}) zf4 (by simp) (by simp) (by simp) (by simp) (err':=0)
   obtain⟨v,H1,c1,rfl,c2,c3⟩:=zu.1 (zgk h3 hg (.inr (.inr (.inr k9))) a n (f4 a (by rw[hh];simp)) hn)
   have e9:snd9 x n=n:=by simp[snd9,k9]
   rw[e9]at c1 c3
   rw[hmv]
   simp at p1 c1
   by_cases hf:(evX x a n).2=0
   .rw[if_neg (by simp[hf])]
    rw[hf]at c3
    obtain⟨v,H',d1,rfl,d2,vs',os',d3⟩:=zu.1 (zbv c3 (o:=0) rfl (by have:=hb l (by simp);omega) (evX x a n).1)
    simp at d1
    simp[zhk,c205,hi,h.rb,h.hl.okO,hlen,p1,p2,p3,c1,d1]
    exact⟨((zB h _).trans c2).trans d2,_,_,⟨_,_,_,_,d3⟩,rfl,fun _=>⟨rfl,rfl⟩⟩
   .rw[if_pos hf]
    have d1:=zc9 c3 hf 0 (evX x a n).1
    simp[zhk,c205,hi,h.rb,h.hl.okO,hlen,p1,p2,p3,c1,d1]
    exact⟨(zB h _).trans c2,_,_,⟨_,_,_,_,c3⟩,rfl,fun h=>absurd h hf⟩
end
theorem zgf {x:Sg} {t:SS} {i:Int} (h:endE x t i=0):sgI x=0∧ssB x t=true∧t.ended=false∧(x.kind=1→i= -1)∧(x.kind≠1→0≤i∧i<inK x.kind∧zbI x t i=false):=by
 unfold endE at h
 split at h
 .rename_i h1;exact absurd h h1
 .rename_i h1
  obtain⟨g1,g2⟩:=zx.1 (show zaD x t=0 by omega)
  split at h
  .cases h
  .rename_i h2
   split at h
   .cases h
   .rename_i h3
    refine⟨g1,g2,?_,fun k1=>?_,fun k1=>⟨?_,?_,?_⟩⟩
    .cases he:t.ended with|false=>rfl|true=>exact absurd (.inl he) h3
    .exact cBc fun hi=>h2 (.inl ⟨k1,hi⟩)
    .exact cBc fun hi=>h2 (.inr ⟨k1,.inl (by omega)⟩)
    .exact cBc fun hi=>h2 (.inr ⟨k1,.inr (by omega)⟩)
    .cases he:zbI x t i with|false=>rfl|true=>exact absurd (.inr ⟨k1,he⟩) h3
theorem ziy:∀(l:List (List Int)) (n:Nat),l.length=n→zipA l (List.replicate n [])=l
 | [],_,_=>by simp
 |a::r,0,h=>by simp at h
 |a::r,n+1,h=>by
  have:=ziy r n (by simpa using h)
  simp only[List.replicate_succ,List.zipWith_cons_cons,List.append_nil]
  show a::zipA r (List.replicate n [])=_
  rw[this]
theorem zvs (vs:List AV) (H:Heap):W.call (.clo 228 [] []) vs H=zgz vs H:=by
 have h:Φ 228=none:=by kernel_rfl
 rw[zdo]
 simp[ze4,h,extM]
theorem zfp:∀l:List Int,zdL (l.map I)=some l
 | []=>rfl
 |a::r=>by simp[zdL,zfp r]
theorem zkF {H:Heap} {id ver n:Nat} {l:List Int} (h:H[id]?=some (.arr ver 1 false (l.map I))) (hn:n=l.length) (h0:0<l.length) (hl:l.length≤1048576):W.call (.clo 228 [] []) [.osl id ver 0 n] H=some (.tuple [],H.set id (.arr ver 1 false ((zdh l).map I))):=by
 subst hn
 rw[zvs]
 simp[zgz,h,zfp,h0,hl]
section
variable {b:Nat} {H H':Heap} {r ob:Nat} {x:Sg} {t:SS} {err:Int} {outs:List (List Int)} {hv:AV} {ho:Option Nat} {vs:List AV} {os:Nat→Option Nat}
theorem zmM (h:RnD b H r ob x t 0 outs hv ho vs os) (hl:outs.length=outK x.kind) (hb:∀l∈outs,l.length≤1000000) {i n:Int} (he:zbD x t i n=0):
  okV (W.call (tkK x.kind) [.optr r 0 0 0,I i,I n] H) (fun v H'=>Did b H H' r ob x (zr x t i n) outs):=by
 obtain⟨g1,g2,g3,g4,g5,g6⟩:=zfG he
 obtain⟨q1,q2⟩:=zdi g1
 obtain⟨f1,f2,f3,f4⟩:=zM g2
 unfold tkK
 by_cases k1:x.kind=1
 .rw[if_pos k1];exact zsV h hl hb he k1
 rw[if_neg k1]
 by_cases k2:x.kind=2
 .rw[if_pos k2];exact zsU h hl hb g1 g4 k2
 rw[if_neg k2]
 by_cases k3:x.kind=3
 .rw[if_pos k3];exact zsT h hl hb g1 g4 k3
 rw[if_neg k3]
 by_cases k4:x.kind=4
 .rw[if_pos k4];exact zsS h hl hb g1 g2 g4 k4
 rw[if_neg k4]
 by_cases k5:x.kind=5
 .rw[if_pos k5];exact zsR h hl hb g1 k5
 rw[if_neg k5]
 by_cases k6:x.kind=6
 .rw[if_pos k6];exact zsQ h hl hb g1 f1 k6
 rw[if_neg k6]
 by_cases k7:x.kind=7
 .rw[if_pos k7];exact zsP h hl hb g1 g4 k7
 rw[if_neg k7]
 by_cases k8:x.kind=8
 .rw[if_pos k8]
  have hi:=zfY (zx.2 ⟨g1,g2⟩) k1
  rw[g6 k1]at hi
  have h2:inK x.kind=2:=by simp[inK,k8]
  exact zsO h hl hb (by omega) k8
 rw[if_neg k8]
 by_cases k9:x.kind=9
 .rw[if_pos k9];exact zsN h hl hb g1 g2 g4 k9
 rw[if_neg k9]
 exact zri h hl (by omega)
theorem end0 (h:RnD b H r ob x t 0 outs hv ho vs os) (hl:outs.length=outK x.kind) {i:Int} (k4:x.kind≠4) (k8:x.kind≠8) (k9:x.kind≠9):
  okV (W.call (.clo 193 [] []) [.optr r 0 0 0,I i] H) (fun v H'=>Did b H H' r ob x (endK x t i) outs):=by
 have hmv:endK x t i=({t with ended:=true},List.replicate (outK x.kind) [],0):=by simp[endK,k4,k8,k9]
 have h2:=h.setR (t':={t with ended:=true}) (err':=0) rfl
 rw[hmv,ze Φ193]
 simp[zn8,c193,h.rb]
 exact⟨zB h _,_,_,⟨_,_,_,_,h2⟩,rfl,fun _=>⟨rfl,(ziy outs _ hl).symm⟩⟩
theorem end4 (h:RnD b H r ob x t 0 outs hv ho vs os) (hl:outs.length=outK x.kind) (hb:∀l∈outs,l.length≤1000000) {i:Int} (hs:ssB x t=true) (k4:x.kind=4):
  okV (W.call (.clo 198 [] []) [.optr r 0 0 0,I i] H) (fun v H'=>Did b H H' r ob x (endK x t i) outs):=by
 rw[zeB (by omega) (by omega)]at hl
 obtain⟨l,rfl⟩:=len1 hl
 obtain⟨f1,f2,f3,f4⟩:=zM hs
 have hmv:endK x t i=if t.held=[] then ({t with ended:=true},[[]],0) else if (sumB t.held 0).2≠0 then (ssZ,[],(sumB t.held 0).2) else (⟨[],t.count,true⟩,[[(sumB t.held 0).1]],0):=by simp[endK,k4]
 rw[hmv,ze Φ198]
 by_cases hh:t.held=[]
 .rw[if_pos hh]
  have hlen:lenV false hv=I 0:=by rw[h.hl.len,hh];rfl
  have h2:=h.setR (t':={t with ended:=true}) (err':=0) rfl
  simp[zlF,c198,h.rb,h.hl.okO,hlen]
  exact⟨zB h _,_,_,⟨_,_,_,_,h2⟩,rfl,fun _=>⟨rfl,by simp⟩⟩
 .rw[if_neg hh]
  have hpos:0<t.held.length:=List.length_pos_iff.2 hh
  have hpos':(0:Int)<t.held.length:=by omega
  obtain⟨v,H3,d1,rfl,d2,outs',d3,d4,d5⟩:=zu.1 (zmc h f4 (l:=l) rfl (hb l (by simp)))
  obtain⟨hv3,ho3,vs3,os3,d6⟩:=d3
  have h2:=d6.setR (t':=⟨[],t.count,true⟩) (err':=(sumB t.held 0).2) rfl
  simp[zlF,c198,h.rb,h.hl.okO,h.hl.len,hpos,hpos',d1,d6.rb]
  by_cases hz:(sumB t.held 0).2=0
  .rw[if_pos hz]
   rw[hz]at h2⊢
   exact⟨d2.trans (zB d6 _),_,outs',⟨_,_,_,_,h2⟩,d4,fun _=>⟨rfl,d5 hz⟩⟩
  .rw[if_neg hz]
   exact⟨d2.trans (zB d6 _),_,outs',⟨_,_,_,_,h2⟩,d4,fun h=>absurd h hz⟩
theorem or2 (c i:Int) (h:(i=0∧(c=0∨c=2))∨(i=1∧(c=0∨c=1))):zq9 .i64 c (shlI .i64 1 i)=c+i+1:=by
 rcases h with⟨rfl,rfl|rfl⟩|⟨rfl,rfl|rfl⟩<;>decide
theorem end9 (h:RnD b H r ob x t 0 outs hv ho vs os) (hl:outs.length=outK x.kind) {i:Int} (he:endE x t i=0) (k9:x.kind=9):
  okV (W.call (.clo 206 [] []) [.optr r 0 0 0,I i] H) (fun v H'=>Did b H H' r ob x (endK x t i) outs):=by
 obtain⟨g1,g2,g3,g4,g5⟩:=zgf he
 obtain⟨f1,f2,f3,f4⟩:=zM g2
 have hC:zO x=3:=by simp[zO,k9]
 obtain⟨i0,i1,i2⟩:=g5 (by omega)
 have hin:inK x.kind=2:=by simp[inK,k9]
 rw[zeB (by omega) (by omega)]at hl
 obtain⟨l,rfl⟩:=len1 hl
 have hcase:(i=0∧(t.count=0∨t.count=2))∨(i=1∧(t.count=0∨t.count=1)):=by
  unfold zbI at i2
  rw[if_neg (by omega),if_pos k9]at i2
  have i2:=of_decide_eq_false i2
  omega
 have hor:=or2 t.count i hcase
 have hmv:endK x t i=(⟨if i=1 then [] else t.held,t.count+i+1,decide (t.count+i+1=3)⟩,[[]],0):=by simp[endK,k9]
 have hn:¬i<0:=by omega
 have hs:∀B,(H.set r B)[r]?=some B:=fun B=>gEt h.rlt
 rw[hmv,ze Φ206]
 by_cases hi:i=1
 .have h2:=h.setR (t':={t with count:=t.count+i+1}) (err':=0) rfl
  have h3:=h2.setH (t':={t with held:=[],count:=t.count+i+1}) zf4 (by simp) (by simp) (by simp) (by simp) (err':=0)
  have h4:=h3.setR (t':=⟨[],t.count+i+1,decide (t.count+i+1=3)⟩) (err':=0) rfl
  simp only[List.set_set]at h4
  simp[zlC,c206,h.rb,hn,hor,eq_true hi,hs]
  exact⟨zB h _,_,_,⟨_,_,_,_,h4⟩,rfl,fun _=>⟨rfl,by simp⟩⟩
 .have h2:=h.setR (t':={t with count:=t.count+i+1}) (err':=0) rfl
  have h4:=h2.setR (t':=⟨t.held,t.count+i+1,decide (t.count+i+1=3)⟩) (err':=0) rfl
  simp only[List.set_set]at h4
  simp[zlC,c206,h.rb,hn,hor,hi,hs]
  exact⟨zB h _,_,_,⟨_,_,_,_,h4⟩,rfl,fun _=>⟨rfl,by simp⟩⟩
theorem RnD.resort {id ver:Nat} (h:RnD b H r ob x t err outs (.osl id ver 0 t.held.length) (some id) vs os) {l:List Int} (hl:l.length=t.held.length) (hne:l≠[]) (hb:l.length≤1048576):
  RnD b (H.set id (.arr ver 1 false (l.map I))) r ob x {t with held:=l} err outs (.osl id ver 0 t.held.length) (some id) vs os:=by
 have hk:Kept (some id) H (H.set id (.arr ver 1 false (l.map I))):=Kept.set _ _ _
 refine⟨hk.get h.h1 h.rb,hk.get h.h2 h.obk,h.ne,⟨ver,by rw[hl],gEt h.hl.lt,hne,hb⟩,h.h1,h.h2,h.len,fun i m hi=>?_,h.o1,h.o2,h.o3,fun i j hi=>by have:=h.o4 i j hi;simpa using this,h.br,h.bo,h.bh,h.bs⟩
 obtain⟨v,h1,h2⟩:=h.gr i m hi
 exact⟨v,h1,h2.kept hk (fun j e=>by cases e;exact fun e=>h.o2 i _ e rfl)⟩
theorem end8 (h:RnD b H r ob x t 0 outs hv ho vs os) (hl:outs.length=outK x.kind) {i:Int} (he:endE x t i=0) (k8:x.kind=8):
  okV (W.call (.clo 203 [] []) [.optr r 0 0 0,I i] H) (fun v H'=>Did b H H' r ob x (endK x t i) outs):=by
 obtain⟨g1,g2,g3,g4,g5⟩:=zgf he
 obtain⟨f1,f2,f3,f4⟩:=zM g2
 have hH:zY x=2:=by simp[zY,k8]
 obtain⟨i0,i1,i2⟩:=g5 (by omega)
 have hin:inK x.kind=2:=by simp[inK,k8]
 rw[zeB (by omega) (by omega)]at hl
 obtain⟨l,rfl⟩:=len1 hl
 have hni:i∉t.held:=by
  unfold zbI at i2
  rw[if_pos k8]at i2
  exact of_decide_eq_false i2
 have hmh:zbG t.held=true:=by
  rw[zfK ⟨f1,f2,f3⟩ (by simpa using f4),if_neg (by omega),if_pos k8]at g2
  simp only[bAt]at g2
  exact g2.1
 have hen:t.ended=decide (t.held.length=2):=by
  rw[zfK ⟨f1,f2,f3⟩ (by simpa using f4),if_neg (by omega),if_pos k8]at g2
  simp only[bAt,beq_iff_eq]at g2
  exact g2.2
 have hcase:t.held=[]∨(t.held=[0]∧i=1)∨(t.held=[1]∧i=0):=by
  match hh:t.held,hmh with
  | [],_=>exact .inl rfl
  | [a],hm=>
   rw[hh]at hni
   simp[zbG]at hm hni
   rcases hm with rfl|rfl
   .right;left;exact⟨rfl,by omega⟩
   .right;right;exact⟨rfl,by omega⟩
  | [a,c],hm=>
   rw[hh,g3]at hen
   simp at hen
 have hmv:endK x t i=if t.held=[] then ({t with held:=[i]},[[]],0) else (⟨[0,1],t.count,true⟩,[[]],0):=by simp[endK,k8]
 have hst:zdh (t.held++[i])=if t.held=[] then [i] else [0,1]:=by
  rcases hcase with h|⟨h,h'⟩|⟨h,h'⟩
  .rw[h];rfl
  .rw[h,h'];rfl
  .rw[h,h'];rfl
 obtain⟨v',H1,v2,H2,ver,c1,c2,c3,c4,rfl,c5,c6⟩:=zjo h.hl (by omega) i
 have h1:=h.kept c3
 have h2:=h.kept c6
 have hrlt:=h.rlt;have holt:=h.olt
 have hne:H.length≠r:=by omega
 have h3:=h2.setH (t':={t with held:=t.held++[i]}) (hv':= .osl H.length ver 0 (t.held++[i]).length) (ho':=some H.length) c5 (by simp;omega) (by simp;omega) (fun j id hi e=>by cases e;have:=h.o4 j _ hi;omega) (fun id e=>by cases e;exact h.blen) (err':=0)
 have hlen3:(zdh (t.held++[i])).length=(t.held++[i]).length:=by
  rcases hcase with h|⟨h,h'⟩|⟨h,h'⟩
  .rw[h];rfl
  .rw[h,h'];rfl
  .rw[h,h'];rfl
 obtain⟨ver2,w1,w2,w3,w4⟩:=h3.hl
 simp only[AV.osl.injEq,true_and,and_true]at w1
 subst w1
 have c7:=zkF w2 rfl (by simp) (by simp only[List.length_append,List.length_singleton];omega)
 have h4:=h3.resort (l:=zdh (t.held++[i])) hlen3 (by intro e;rw[e]at hlen3;simp at hlen3) (by rw[hlen3];simp only[List.length_append,List.length_singleton];omega)
 have h5:=h4.setR (t':=⟨zdh (t.held++[i]),t.count,decide ((t.held.length:Int)+1=2)⟩) (err':=0) rfl
 have hk5:Keep b H _:=(((Keep.of c6 h.blen).trans (zB h2 (.arr 0 14 false [rnA x (.osl H.length ver 0 (t.held++[i]).length) t.count t.ended ob 1 0]))).trans ⟨by simp,fun j hj=>by rw[gEn (by have:=h.blen;omega)];rfl⟩).trans (zB h4 (.arr 0 14 false [rnA x (.osl H.length ver 0 (t.held++[i]).length) t.count (decide ((t.held.length:Int)+1=2)) ob 1 0]))
 have r4:=h4.rb
 have r3:=h3.rb
 rw[hmv,ze Φ203]
 simp at c4 c7 r3 r4
 simp[zn5,c203,h.rb,h.hl.okO,c1,c2,c4,h2.rb,r3,c7,r4,gEz, -getElem?_pos]
 have hla:(t.held++[i]).length=t.held.length+1:=by simp
 simp only[hla]at h5 hk5
 by_cases hh:t.held=[]
 .rw[if_pos hh]at hst⊢
  rw[hst]at h5 hk5⊢
  have e0:decide ((t.held.length:Int)+1=2)=false:=by rw[hh];rfl
  refine⟨hk5,_,[l],⟨_,_,_,_,h5⟩,rfl,fun _=>⟨?_,by simp⟩⟩
  simp only[e0,g3]
 .rw[if_neg hh]at hst⊢
  rw[hst]at h5 hk5⊢
  have e0:decide ((t.held.length:Int)+1=2)=true:=by
   rcases hcase with h|⟨h,h'⟩|⟨h,h'⟩
   .exact absurd h hh
   .rw[h];rfl
   .rw[h];rfl
  refine⟨hk5,_,[l],⟨_,_,_,_,h5⟩,rfl,fun _=>⟨?_,by simp⟩⟩
  simp only[e0]
theorem zqL (h:RnD b H r ob x t 0 outs hv ho vs os) (hl:outs.length=outK x.kind) (hb:∀l∈outs,l.length≤1000000) {i:Int} (he:endE x t i=0):
  okV (W.call (edK x.kind) [.optr r 0 0 0,I i] H) (fun v H'=>Did b H H' r ob x (endK x t i) outs):=by
 unfold edK
 by_cases k4:x.kind=4
 .rw[if_pos k4];exact end4 h hl hb (zgf he).2.1 k4
 rw[if_neg k4]
 by_cases k8:x.kind=8
 .rw[if_pos k8];exact end8 h hl he k8
 rw[if_neg k8]
 by_cases k9:x.kind=9
 .rw[if_pos k9];exact end9 h hl he k9
 rw[if_neg k9]
 exact end0 h hl k4 k8 k9
end
theorem zsr (x:Sg) (s:Ss) (ob n:Nat):bldV [.int .i64 0,.int .i64 0,.int .i64 0,.int .i64 0,.str [],.int .i64 0,.isl (some true) 0 [],.isl (some true) 0 [],.isl (some true) 0 [],.int .i64 0,.bool false,.isl (some true) 0 [],.int .i64 0,.int .i64 0] [(0,8),(8,3),(11,1)] [x.av,s.av,.osl ob 0 0 n]=rnA x (Sl.av I 1 s.held) s.count s.ended ob n 0:=rfl
@[simp] theorem rn_ok {x:Sg} {hv:AV} {c:Int} {e:Bool} {ob n:Nat} {err:Int}:okO (rnA x hv c e ob n err)=some (rnA x hv c e ob n err):=rfl
@[simp] theorem rn_len {x:Sg} {hv:AV} {c:Int} {e:Bool} {ob n:Nat} {err:Int}:(rnA x hv c e ob n err).cells.length=14:=rfl
theorem zpA {x:Sg} {hv:AV} {c:Int} {e:Bool} {ob n:Nat} {err:Int} (h:hv.cell=true):(rnA x hv c e ob n err).cells.all AV.cell=true:=by
 simp only[rnA,AV.cells,List.all_cons,h,List.all_nil]
 rfl
abbrev nilA:AV:= .isl (some true) 0 []
theorem zmd (x:Sg) (hk:1≤x.kind∧x.kind≤10) (s:Ss) (H:Heap):W.call (.clo 117 [] []) [x.av,s.av] H=some (.optr (H.length+4) 0 0 0,H++[.arr 0 8 false [x.av],.arr 0 3 false [s.av],.arr 0 8 false [hdK x.kind],.arr 0 1 false (List.replicate (outK x.kind) nilA),.arr 0 14 false [rnA x (Sl.av I 1 s.held) s.count s.ended (H.length+3) (outK x.kind) 0]]):=by
 have c1:=e112 x.kind hk
 have h1:=zdn x.kind
 have h2:((outK x.kind:Nat):Int)≤1048576:=by omega
 have h3:outK x.kind≤1048576:=by omega
 have hb:=fun ob=>zsr x s ob (outK x.kind)
 have hc:=fun ob=>zpA (x:=x) (c:=s.count) (e:=s.ended) (ob:=ob) (n:=outK x.kind) (err:=0) (hv:=Sl.av I 1 s.held) rfl
 rw[ze Φ117]
 simp[zok,c117,c1,h2,h3,hb,hc, -zbb]
theorem zo1 (x:Sg) (s:Ss) (hs:SlN s.held) (H:Heap):RnD (H.length+3) (H++[.arr 0 8 false [x.av],.arr 0 3 false [s.av],.arr 0 8 false [hdK x.kind],.arr 0 1 false (List.replicate (outK x.kind) nilA),.arr 0 14 false [rnA x (Sl.av I 1 s.held) s.count s.ended (H.length+3) (outK x.kind) 0]])
  (H.length+4) (H.length+3) x s.pl 0 (List.replicate (outK x.kind) []) (Sl.av I 1 s.held) none (List.replicate (outK x.kind) nilA) (fun _=>none):=by
 refine⟨by simp[Ss.pl],by simp,by omega,⟨s.held,rfl,rfl,hs⟩,by simp,by simp,by simp,fun i l hi=>?_,by simp,by simp,by simp,by simp,by omega,by omega,by simp,by simp⟩
 have hlt:=(gEs.1 hi).1
 simp only[List.length_replicate]at hlt
 rw[List.getElem?_replicate,if_pos hlt]at hi
 cases hi
 exact⟨nilA,by rw[List.getElem?_replicate,if_pos hlt],rfl,rfl⟩
theorem znJ {H:Heap} {ho:Option Nat} {hv:AV} {l:List Int} (h:zaa H ho hv l) (n:Nat):∃y:Sl Int,frz H (n+1) hv=some (Sl.av I 1 y)∧y.l=l∧SlN y:=by
 cases ho with
 |none=>obtain⟨y,rfl,h1,h2⟩:=h;exact⟨y,rfl,h1,h2⟩
 |some id=>obtain⟨ver,rfl,h1,h2,h3⟩:=h;exact⟨ofL 1 l,zcY h1 rfl,rfl,zaN h3⟩
theorem zhf {H:Heap} {n:Nat}:∀{vs:List AV} {outs:List (List Int)} {os:Nat→Option Nat} (hl:vs.length=outs.length) (hg:∀(i:Nat) (l:List Int),outs[i]?=some l→∃v,vs[i]?=some v∧Grow H 1 (os i) v (l.map I)) (hb:∀l∈outs,l.length≤1048576),
  ∃ys:List (Sl Int),frzs (frz H (n+1)) vs=some (ys.map (Sl.av I 1))∧ys.map Sl.l=outs∧(∀y∈ys,SlN y)∧(vs.all (fun e=>e.cells.all AV.still)=true→vs=ys.map (Sl.av I 1))
 | [],[],os,_,_,_=>⟨[],rfl,rfl,by simp,fun _=>rfl⟩
 | [],a::r,os,h,_,_=>by simp at h
 |v::vs,[],os,h,_,_=>by simp at h
 |v::vs,l::outs,os,hl,hg,hb=>by
  obtain⟨w,h1,h2⟩:=hg 0 l rfl
  simp at h1;subst h1
  obtain⟨ys,e1,e2,e3,e4⟩:=zhf (H:=H) (n:=n) (vs:=vs) (outs:=outs) (os:=fun i=>os (i+1)) (by simpa using hl) (fun i m hi=>hg (i+1) m (by simpa using hi)) (fun m hm=>hb m (by simp[hm]))
  have hf:=h2.frz (n:=n) (zdb (by simp) l)
  cases ho:os 0 with
  |none=>
   rw[ho]at hf h2
   obtain⟨rfl,hl0⟩:=h2
   have hl0:l=[]:=by simpa using hl0
   subst hl0
   refine⟨zaM::ys,?_,by simp[e2],?_,fun hh=>?_⟩
   .simp only[frzs,hf,e1,if_true];rfl
   .intro y hy;rcases lMc.1 hy with rfl|hy;exact zH;exact e3 y hy
   .simp only[List.all_cons,bAt]at hh
    rw[e4 hh.2];rfl
  |some id=>
   rw[ho,if_neg (by simp)]at hf
   rw[zdK]at hf
   refine⟨ofL 1 l::ys,?_,by simp[e2,ofL],?_,fun hh=>?_⟩
   .simp only[frzs,hf,e1];rfl
   .intro y hy;rcases lMc.1 hy with rfl|hy;exact zaN (hb l (by simp));exact e3 y hy
   .exfalso
    rw[ho]at h2
    obtain⟨ver,t,rfl,_⟩:=h2
    simp[AV.cells,AV.still]at hh
theorem znI {b:Nat} {H:Heap} {r ob:Nat} {x:Sg} {t:SS} {err:Int} {outs:List (List Int)} {hv:AV} {ho:Option Nat} {vs:List AV} {os:Nat→Option Nat} (h:RnD b H r ob x t err outs hv ho vs os) (hb:∀l∈outs,l.length≤1048576) (hn:outs.length≤1048576) (n:Nat):
  ∃o:Sl (Sl Int),frz H (n+2) (.osl ob 0 0 outs.length)=some (Sl.av (Sl.av I 1) 1 o)∧o.l.map Sl.l=outs∧SlN o∧∀y∈o.l,SlN y:=by
 obtain⟨ys,e1,e2,e3,e4⟩:=zhf (H:=H) (n:=n) h.len h.gr hb
 have hyl:ys.length=outs.length:=by rw[←e2];simp
 refine⟨ofL 1 ys,?_,e2,zaN (by omega),e3⟩
 have et:(vs.drop 0).take outs.length=vs:=by rw[List.drop_zero,←h.len,List.take_length]
 have e0:frz H (n+2) (.osl ob 0 0 outs.length)=(match H[ob]? with
   |some (.arr v sz _ es)=>if v=0∧0+outs.length≤es.length then (if ((es.drop 0).take outs.length).all (fun e=>e.cells.all AV.still) then some (.isl (some false) sz ((es.drop 0).take outs.length)) else (frzs (frz H (n+1)) ((es.drop 0).take outs.length)).map (.isl (some false) sz)) else none
   |_=>none):=rfl
 rw[e0,h.obk]
 show (if 0=0∧0+outs.length≤vs.length then (if ((vs.drop 0).take outs.length).all (fun e=>e.cells.all AV.still) then some (AV.isl (some false) 1 ((vs.drop 0).take outs.length)) else (frzs (frz H (n+1)) ((vs.drop 0).take outs.length)).map (AV.isl (some false) 1)) else none)=_
 rw[if_pos ⟨rfl,by rw[h.len];omega⟩,et]
 by_cases ha:vs.all (fun e=>e.cells.all AV.still)=true
 .rw[if_pos ha,e4 ha,zdK]
 .rw[if_neg ha,e1,oMs,zdK]
def zSs:Ss:=⟨zaM,0,false⟩
theorem zbN:(.agg [.isl (some true) 0 [],I 0,.bool false]:AV)=zSs.av:=rfl
def MvV (m:SS×List (List Int)×Int) (t:Ss) (o:Sl (Sl Int)):Prop:=t.pl=m.1∧SlN t.held∧o.l.map Sl.l=m.2.1∧SlN o∧∀y∈o.l,SlN y
theorem ziV (e:Int):MvV (ssZ,[],e) zSs zaM:=⟨rfl,zH,rfl,zH,by simp⟩
@[simp] theorem hd_ld6 (k:Int):zd false 1 ((hdK k).cells.drop 6)=tkK k:=rfl
@[simp] theorem hd_ld7 (k:Int):zd false 1 ((hdK k).cells.drop 7)=edK k:=rfl
@[simp] theorem tk_ok (k:Int):okO (tkK k)=some (tkK k):=by
 obtain⟨f,b,h,h2⟩:=ziA k
 rw[h]
 rcases h2 with rfl|rfl<;>rfl
@[simp] theorem ed_ok (k:Int):okO (edK k)=some (edK k):=by
 obtain⟨f,h⟩:=zjj k
 rw[h];rfl
theorem zhO:∀(n:Nat) (o:List (List Int)),o.length=n→zipA (List.replicate n []) o=o
 |0,[],_=>rfl
 |0,a::r,h=>by simp at h
 |n+1,[],h=>by simp at h
 |n+1,a::r,h=>by
  have:=zhO n r (by simpa using h)
  simp only[List.replicate_succ,List.zipWith_cons_cons,List.nil_append]
  show a::zipA (List.replicate n []) r=_
  rw[this]
theorem zcT {n:Nat}:∀l∈List.replicate n ([]:List Int),l.length≤1000000:=by
 intro l hl
 rw[(List.mem_replicate.1 hl).2];simp
theorem znh (x:Sg) (hg:sgI x=0) (t:SS) (i n:Int):∀o∈(zr x t i n).2.1,o.length≤1048576:=by
 intro o ho
 have:=zjP x t i n o ho
 have hs:=zbt hg
 split at this
 .rename_i k5
  have hM:zZ x.kind=100:=by simp[zZ,k5]
  omega
 .omega
theorem RnD.low {b:Nat} {H:Heap} {r ob:Nat} {x:Sg} {t:SS} {err:Int} {outs:List (List Int)} {hv:AV} {ho:Option Nat} {vs:List AV} {os:Nat→Option Nat} (h:RnD b H r ob x t err outs hv ho vs os) {j:Nat} (hj:j<b) (B:Blk):RnD b (H.set j B) r ob x t err outs hv ho vs os:=by
 have hk:Kept (some j) H (H.set j B):=Kept.set _ _ _
 have h1:=h.br;have h2:=h.bo
 refine⟨hk.get (by simp;omega) h.rb,hk.get (by simp;omega) h.obk,h.ne,h.hl.kept hk (fun id e e'=>by cases e;have:=h.bh _ e';omega),h.h1,h.h2,h.len,fun i m hi=>?_,h.o1,h.o2,h.o3,fun i id hi=>by have:=h.o4 i id hi;simpa using this,h.br,h.bo,h.bh,h.bs⟩
 obtain⟨v,g1,g2⟩:=h.gr i m hi
 exact⟨v,g1,g2.kept hk (fun id e e'=>by cases e;have:=h.bs i _ e';omega)⟩
abbrev ssB3 (hv:AV) (t:SS):Blk:= .arr 0 3 false [.agg [hv,I t.count,.bool t.ended]]
theorem zbY (hv:AV) (c:Int) (e:Bool):zb [zSs.av] 0 0 (.agg [hv,I c,.bool e])=some [.agg [hv,I c,.bool e]]:=rfl
theorem zkL {b:Nat} {H:Heap} {r ob:Nat} {x:Sg} {t:SS} {err:Int} {outs:List (List Int)} {j:Nat} (hj:j<b) (h:RnS b H r ob x t err outs) (hb:∀l∈outs,l.length≤1048576) (hn:outs.length≤2):∃(hv:AV) (t':Ss) (o:Sl (Sl Int)),
  H[r]?=some (.arr 0 14 false [rnA x hv t.count t.ended ob outs.length err])∧okO hv=some hv∧hv.cells=[hv]∧hv.cell=true∧frz (H.set j (ssB3 hv t)) 6 hv=some (Sl.av I 1 t'.held)∧frz (H.set j (ssB3 hv t)) 7 (.osl ob 0 0 outs.length)=some (Sl.av (Sl.av I 1) 1 o)∧t.count=t'.count∧t.ended=t'.ended∧t'.pl=t∧SlN t'.held∧o.l.map Sl.l=outs∧SlN o∧(∀y∈o.l,SlN y):=by
 obtain⟨hv,ho,vs,os,hD⟩:=h
 have hD2:=hD.low hj (ssB3 hv t)
 obtain⟨y,y1,y2,y3⟩:=znJ hD2.hl 5
 obtain⟨o,o1,o2,o3,o4⟩:=znI hD2 hb (by omega) 5
 exact⟨hv,⟨y,t.count,t.ended⟩,o,hD.rb,hD.hl.okO,hD.hl.cells,hD.hl.cell,y1,o1,rfl,rfl,by simp[Ss.pl,y2],y3,o2,o3,o4⟩
theorem ziX (x:Sg) (t:SS) (i n:Int) (h:(zr x t i n).2.2≠0):(zr x t i n).1=ssZ∧(zr x t i n).2.1=[]:=by
 by_cases k1:x.kind=1
 .simp[zr,k1]at h
 by_cases k2:x.kind=2
 .by_cases h1:(evX x n 0).2=0<;>simp[zr,k2,h1]at h⊢
 by_cases k3:x.kind=3
 .by_cases h1:(evX x n 0).2=0<;>simp[zr,k3,h1]at h⊢
 by_cases k4:x.kind=4
 .by_cases h1:(t.held.length:Int)+1<x.size
  .simp[zr,k4,h1]at h
  .by_cases h2:(sumB (t.held++[n]) 0).2=0<;>simp[zr,k4,h1,h2]at h⊢
 by_cases k5:x.kind=5
 .simp[zr,k5]at h
 by_cases k6:x.kind=6
 .by_cases h1:t.count<x.size<;>simp[zr,k6,h1]at h
 by_cases k7:x.kind=7
 .by_cases h1:(evX x n 0).2=0<;>simp[zr,k7,h1]at h⊢
 by_cases k8:x.kind=8
 .simp[zr,k8]at h
 by_cases k9:x.kind=9
 .by_cases h1:i=0
  .by_cases h2:2≤t.count<;>simp[zr,k9,h1,h2]at h
  .cases hh:t.held with
   |nil=>simp[zr,k9,h1,hh]at h
   |cons a r=>by_cases h2:(evX x a n).2=0<;>simp[zr,k9,h1,hh,h2]at h⊢
 .simp[zr,k1,k2,k3,k4,k5,k6,k7,k8,k9]at h
theorem zkA {x:Sg} {t:SS} {i n:Int} (h:zbD x t i n=0) (k1:x.kind=1):n=0:=by
 unfold zbD at h
 split at h
 .rename_i h1;exact absurd h h1
 .split at h
  .cases h
  .split at h
   .cases h
   .rename_i h3
    exact cBc fun hn=>h3 (.inr ⟨k1,hn⟩)
theorem zg0 (x:Sg) (t:SS):(zeX x t).length≤1:=by unfold zeX;split<;>simp
theorem e135 (x:Sg) (hx:x.items.l.length≤1048576) (s:Ss) (hs:SlN s.held) (i n:Int):
  ∃(t:Ss) (o:Sl (Sl Int)),W.pure 135 [x.av,s.av,I i,I n]=some (.tuple [t.av,Sl.av (Sl.av I 1) 1 o,I (zcq x s.pl i n).2.2])∧MvV (zcq x s.pl i n) t o:=by
 obtain⟨y,c1,c2,c3⟩:=e95 x hx s hs
 have cz:=zbN
 by_cases hE:zbD x s.pl i n=0
 rotate_left
 .have hT:zcq x s.pl i n=(ssZ,[],zbD x s.pl i n):=by unfold zcq;rw[if_pos hE]
  rw[hT]
  refine⟨zSs,zaM,?_,ziV _⟩
  rw[zj Φ135 (by simp)]
  unfold zbD at hE⊢
  by_cases hN:zaD x s.pl=0
  rotate_left
  .rw[if_pos hN]
   simp[zcs,c135,c1,hN]
   exact⟨rfl,rfl⟩
  rw[if_neg (by simp[hN])]at hE⊢
  rw[hN]at c1 c2
  rw[if_pos rfl]at c2
  have c4:=zqP y (by rw[c2];have:=zg0 x s.pl;omega) i
  rw[c2]at c4
  have c5:=e116 n
  have hp1:s.pl.ended=s.ended:=rfl
  have hp2:s.pl.count=s.count:=rfl
  simp only[hp1,hp2]at hE⊢
  cases he:s.ended with
  |true=>rw[if_pos (.inl rfl)];simp[zcs,c135,c1,he];exact⟨rfl,rfl⟩
  |false=>
  by_cases k1:x.kind=1
  .have hw:(-(1:Int))= -1:=rfl
   by_cases hi:i= -1
   .by_cases hc:s.count=x.items.l.length
    .rw[if_pos (.inr (.inl ⟨k1,.inr hc⟩))];simp[zcs,c135,c1,he,k1,hi,eq_true hc];exact⟨rfl,rfl⟩
    .rw[if_neg (by rintro (h|⟨_,h|h⟩|⟨h,_⟩);exact absurd h (by simp[he]);exact h hi;exact hc h;exact h k1)]at hE⊢
     cases hn:isIt n with
     |false=>rw[if_pos (.inl rfl)];rw[hn]at c5;simp[zcs,c135,c1,he,k1,hi,hc,c5];exact⟨rfl,rfl⟩
     |true=>
      rw[hn]at c5 hE
      have hn0:n≠0:=fun h0=>hE (by rw[if_neg];rintro (h|⟨_,h⟩);cases h;exact h h0)
      rw[if_pos (.inr ⟨k1,hn0⟩)];simp[zcs,c135,c1,he,k1,hi,hc,c5,hn0];exact⟨rfl,rfl⟩
   .rw[if_pos (.inr (.inl ⟨k1,.inl hi⟩))];simp[zcs,c135,c1,he,k1,hi];exact⟨rfl,rfl⟩
  .have hL:zeX x s.pl=[zbh x s.pl]:=by unfold zeX;rw[if_neg];rintro (h|h);rw[hp1,he]at h;cases h;exact k1 h
   rw[hL]at c4
   by_cases hi:zbh x s.pl=i
   .rw[if_neg (by rintro (h|⟨h,_⟩|⟨_,h⟩);exact absurd h (by simp[he]);exact k1 h;exact h hi)]at hE⊢
    have c4':W.pure 171 [Sl.av I 1 y,I i]=some (.bool true):=by rw[c4];simp[hi]
    cases hn:isIt n with
    |false=>rw[if_pos (.inl rfl)];rw[hn]at c5;simp[zcs,c135,c1,he,k1,c4',c5];exact⟨rfl,rfl⟩
    |true=>
     exfalso
     rw[hn]at hE
     exact hE (by rw[if_neg];rintro (h|⟨h,_⟩);cases h;exact k1 h)
   .rw[if_pos (.inr (.inr ⟨k1,hi⟩))]
    have c4':W.pure 171 [Sl.av I 1 y,I i]=some (.bool false):=by rw[c4];simp;exact fun h=>hi h.symm
    simp[zcs,c135,c1,he,k1,c4'];exact⟨rfl,rfl⟩
 .obtain⟨g1,g2,g3,g4,g5,g6⟩:=zfG hE
  have hT:zcq x s.pl i n=zr x s.pl i n:=by unfold zcq;rw[if_neg (by simp[hE])]
  rw[hT]
  have hN:zaD x s.pl=0:=zx.2 ⟨g1,g2⟩
  rw[hN]at c1 c2
  rw[if_pos rfl]at c2
  have hk:=zdi g1
  have c4:=e116 n
  rw[g4]at c4
  have c5:=e112 x.kind hk
  have c6:=zmd x hk s [.arr 0 8 false [x.av],.arr 0 3 false [s.av],.arr 0 3 false [zSs.av],.arr 0 8 false [hdK x.kind]]
  have hD:=zo1 x s hs [.arr 0 8 false [x.av],.arr 0 3 false [s.av],.arr 0 3 false [zSs.av],.arr 0 8 false [hdK x.kind]]
  obtain⟨v,H',d1,d2,t',outs',d3,d4,d5⟩:=zu.1 (zmM hD (by simp) zcT hE)
  simp only[lLc,List.length_nil,List.length_replicate,Nat.zero_add,Nat.reduceAdd]at d1 d2 d3 d4 d5 c6
  have hD2:=d2.2 2 (by omega)
  have hnE:s.ended=false:=g3
  have key:∀{Q:Prop},(∀(hh:H'[2]?=some (.arr 0 3 false [zSs.av])),Q)→Q:=fun h=>h (by rw[hD2];rfl)
  refine key fun hH2=>?_
  have run:∀(A:Option AV),((za1 W zcs [x.av,s.av,I i,I n] []).bind fun p=>frz p.2 8 p.1)=A→W.pure 135 [x.av,s.av,I i,I n]=A:=fun A h=>by rw[zj Φ135 (by simp)];exact h
  have c8:x.kind≠1→W.pure 171 [Sl.av I 1 y,I i]=some (.bool true):=fun k1=>by
   have hL:zeX x s.pl=[zbh x s.pl]:=by unfold zeX;rw[if_neg];rintro (h|h);rw[g3]at h;cases h;exact k1 h
   have c7:=zqP y (by rw[c2];have:=zg0 x s.pl;omega) i
   rw[c2,hL,g6 k1]at c7
   rw[c7];simp
  simp[zbN,hnE]at c6 d1
  by_cases hz:(zr x s.pl i n).2.2=0
  .obtain⟨rfl,rfl⟩:=d5 hz
   have hml:=zdp hE hz
   rw[zhO _ _ hml.1.len]at d3
   obtain⟨hv,t',o,p1,p2,p3,p4,p5,p6,p7,p8,p9,p10,p11,p12,p13⟩:=zkL (j:=2) (by omega) d3 (znh x g1 _ _ _) (by rw[hml.1.len];exact zdn _)
   rw[hz]at p1⊢
   have hl2:2<H'.length:=(gEs.1 hH2).1
   have hs2:∀B,(H'.set 2 B)[2]?=some B:=fun B=>gEt hl2
   have ap:apart (.optr 2 0 0 0) (.optr 8 0 0 11)=true:=rfl
   refine⟨t',o,run _ ?_,p9,p10,p11,p12,p13⟩
   by_cases k1:x.kind=1
   .have hi:=(g5 k1).1
    have hn0:=zkA hE k1
    have hc:¬s.count=x.items.l.length:=(g5 k1).2
    simp[zcs,c135,c1,hnE,eq_true k1,hc,eq_true hi,eq_true hn0,c4,c5,c6,d1,p1,p2,p3,p4,hH2,hs2,ap,zbY,zbN,gEz, -getElem?_pos]
    rw[p5,p6,p7,p8];rfl
   .simp[zcs,c135,c1,hnE,k1,c8 k1,c4,c5,c6,d1,p1,p2,p3,p4,hH2,hs2,ap,zbY,zbN,gEz, -getElem?_pos]
    rw[p5,p6,p7,p8];rfl
  .have hm:zr x s.pl i n=(ssZ,[],(zr x s.pl i n).2.2):=by
    have:=ziX x s.pl i n hz
    exact Prod.ext this.1 (Prod.ext this.2 rfl)
   obtain⟨hv,ho,vs,os,hD'⟩:=d3
   have p1:=hD'.rb
   generalize (zr x s.pl i n).2.2=E at *
   rw[hm]
   have hl2:2<H'.length:=(gEs.1 hH2).1
   have hs2:∀B,(H'.set 2 B)[2]?=some B:=fun B=>gEt hl2
   have ap:apart (.optr 2 0 0 0) (.optr 8 0 0 12)=true:=rfl
   refine⟨zSs,zaM,run _ ?_,ziV _⟩
   by_cases k1:x.kind=1
   .have hi:=(g5 k1).1
    have hn0:=zkA hE k1
    have hc:¬s.count=x.items.l.length:=(g5 k1).2
    simp[zcs,c135,c1,hnE,eq_true k1,hc,eq_true hi,eq_true hn0,c4,c5,c6,d1,p1,hz,hH2,hs2,ap,zbY,zbN,gEz, -getElem?_pos]
    rfl
   .simp[zcs,c135,c1,hnE,k1,c8 k1,c4,c5,c6,d1,p1,hz,hH2,hs2,ap,zbY,zbN,gEz, -getElem?_pos]
    rfl
theorem zqK (x:Sg) (t:SS) (i:Int) (h:(endK x t i).2.2≠0):(endK x t i).1=ssZ∧(endK x t i).2.1=[]:=by
 by_cases k4:x.kind=4
 .by_cases h1:t.held=[]
  .simp[endK,k4,h1]at h
  .by_cases h2:(sumB t.held 0).2=0<;>simp[endK,k4,h1,h2]at h⊢
 by_cases k8:x.kind=8
 .by_cases h1:t.held=[]<;>simp[endK,k8,h1]at h
 by_cases k9:x.kind=9
 .simp[endK,k9]at h
 .simp[endK,k4,k8,k9]at h
theorem zqJ (x:Sg) (t:SS) (i:Int):∀o∈(endK x t i).2.1,o.length≤1048576:=by
 intro o ho
 have:=zl4 x t i o ho
 omega
theorem zo7 (k:Int):inK k≤2:=by unfold inK;split;omega;split<;>omega
theorem zsj (x:Sg) (s:Ss) (hs:SlN s.held) (hb:ssB x s.pl=true) (i:Int) (hi:0≤i∧i<inK x.kind) (hg:sgI x=0):W.pure 144 [x.av,s.av,I i]=some (.bool (zbI x s.pl i)):=by
 obtain⟨f1,f2,f3,f4⟩:=zM hb
 have h3:(s.held.l.length:Int)≤zY x:=f3
 have hsz:=zbt hg
 refine e144 x s hs ?_ i (fun k9=>?_)
 .have hM:zY x≤100:=by
   unfold zY
   split
   .omega
   .split
    .omega
    .split
     .rename_i k4
      have hL:zZ x.kind=100:=by simp[zZ,k4]
      omega
     .omega
  omega
 .have hC:zO x=3:=by simp[zO,k9]
  have hin:inK x.kind=2:=by simp[inK,k9]
  have g1:0≤s.count:=f1
  have g2:s.count≤zO x:=f2
  exact⟨by omega,g1,by omega⟩
theorem e134 (x:Sg) (hx:x.items.l.length≤1048576) (s:Ss) (hs:SlN s.held) (i:Int):
  ∃(t:Ss) (o:Sl (Sl Int)),W.pure 134 [x.av,s.av,I i]=some (.tuple [t.av,Sl.av (Sl.av I 1) 1 o,.bool t.ended,I (endS x s.pl i).2.2])∧MvV (endS x s.pl i) t o:=by
 obtain⟨y,c1,c2,c3⟩:=e95 x hx s hs
 have cz:=zbN
 have run:∀(A:Option AV),((za1 W zcH [x.av,s.av,I i] []).bind fun p=>frz p.2 8 p.1)=A→W.pure 134 [x.av,s.av,I i]=A:=fun A h=>by rw[zj Φ134 (by simp)];exact h
 by_cases hE:endE x s.pl i=0
 rotate_left
 .have hT:endS x s.pl i=(ssZ,[],endE x s.pl i):=by unfold endS;rw[if_pos hE]
  rw[hT]
  refine⟨zSs,zaM,run _ ?_,ziV _⟩
  unfold endE at hE⊢
  by_cases hN:zaD x s.pl=0
  rotate_left
  .rw[if_pos hN]
   simp[zcH,c134,c1,hN]
   exact⟨rfl,rfl,rfl⟩
  rw[if_neg (by simp[hN])]at hE⊢
  rw[hN]at c1 c2
  obtain⟨g1,g2⟩:=zx.1 hN
  have hk:=zdi g1
  have c5:=e112 x.kind hk
  have hp1:s.pl.ended=s.ended:=rfl
  simp only[hp1]at hE⊢
  by_cases k1:x.kind=1
  .rw[k1]at c5
   by_cases hi:i= -1
   .rw[if_neg (by rintro (⟨_,h⟩|⟨h,_⟩);exact h hi;exact h k1)]at hE⊢
    have he:s.ended=true:=by
     cases he:s.ended with
     |true=>rfl
     |false=>exact absurd (by rw[if_neg];rintro (h|⟨h,_⟩);rw[he]at h;cases h;exact h k1) hE
    rw[if_pos (.inl he)]
    simp[zcH,c134,c1,c5,k1,hi,he]
    exact⟨rfl,rfl,rfl⟩
   .rw[if_pos (.inl ⟨k1,hi⟩)]
    simp[zcH,c134,c1,c5,k1,hi]
    exact⟨rfl,rfl,rfl⟩
  .by_cases h0:i<0
   .rw[if_pos (.inr ⟨k1,.inl h0⟩)]
    simp[zcH,c134,c1,c5,k1,h0]
    exact⟨rfl,rfl,rfl⟩
   .by_cases h1:(inK x.kind:Int)≤i
    .rw[if_pos (.inr ⟨k1,.inr h1⟩)]
     simp[zcH,c134,c1,c5,k1,h0,h1]
     exact⟨rfl,rfl,rfl⟩
    .rw[if_neg (by rintro (⟨h,_⟩|⟨_,h|h⟩);exact k1 h;exact h0 h;exact h1 h)]at hE⊢
     have c4:=zsj x s hs g2 i (by omega) g1
     by_cases hh:s.ended=true∨zbI x s.pl i=true
     .rw[if_pos (by rcases hh with h|h;exact .inl h;exact .inr ⟨k1,h⟩)]
      cases he:s.ended with
      |true=>simp[zcH,c134,c1,c5,k1,h0,h1,he];exact⟨rfl,rfl,rfl⟩
      |false=>
       have hq:zbI x s.pl i=true:=by rcases hh with h|h;rw[he]at h;cases h;exact h
       rw[hq]at c4
       simp[zcH,c134,c1,c5,k1,h0,h1,he,c4];exact⟨rfl,rfl,rfl⟩
     .exact absurd (by rw[if_neg];rintro (h|⟨_,h⟩);exact hh (.inl h);exact hh (.inr h)) hE
 .obtain⟨g1,g2,g3,g4,g5⟩:=zgf hE
  have hT:endS x s.pl i=endK x s.pl i:=by unfold endS;rw[if_neg (by simp[hE])]
  rw[hT]
  have hN:zaD x s.pl=0:=zx.2 ⟨g1,g2⟩
  rw[hN]at c1 c2
  have hk:=zdi g1
  have c5:=e112 x.kind hk
  have c6:=zmd x hk s [.arr 0 8 false [x.av],.arr 0 3 false [s.av],.arr 0 3 false [zSs.av],.arr 0 8 false [hdK x.kind]]
  have hD:=zo1 x s hs [.arr 0 8 false [x.av],.arr 0 3 false [s.av],.arr 0 3 false [zSs.av],.arr 0 8 false [hdK x.kind]]
  obtain⟨v,H',d1,d2,t',outs',d3,d4,d5⟩:=zu.1 (zqL hD (by simp) zcT hE)
  simp only[lLc,List.length_nil,List.length_replicate,Nat.zero_add,Nat.reduceAdd]at d1 d2 d3 d4 d5 c6
  have hD2:=d2.2 2 (by omega)
  have hnE:s.ended=false:=g3
  have hH2:H'[2]?=some (.arr 0 3 false [zSs.av]):=by rw[hD2];rfl
  have c8:x.kind≠1→W.pure 144 [x.av,s.av,I i]=some (.bool false):=fun k1=>by
   obtain⟨i1,i2,i3⟩:=g5 k1
   rw[zsj x s hs g2 i ⟨i1,i2⟩ g1,i3]
  simp[zbN,hnE]at c6 d1
  have hl2:2<H'.length:=(gEs.1 hH2).1
  have hs2:∀B,(H'.set 2 B)[2]?=some B:=fun B=>gEt hl2
  have ap:∀k,apart (.optr 2 0 0 0) (.optr 8 0 0 k)=true:=fun k=>rfl
  by_cases hz:(endK x s.pl i).2.2=0
  .obtain⟨rfl,rfl⟩:=d5 hz
   have hml:=zji hE hz
   rw[zhO _ _ hml.1.len]at d3
   obtain⟨hv,t',o,p1,p2,p3,p4,p5,p6,p7,p8,p9,p10,p11,p12,p13⟩:=zkL (j:=2) (by omega) d3 (zqJ x _ _) (by rw[hml.1.len];exact zdn _)
   rw[hz]at p1⊢
   refine⟨t',o,run _ ?_,p9,p10,p11,p12,p13⟩
   by_cases k1:x.kind=1
   .have hi:=g4 k1
    simp[zcH,c134,c1,hnE,eq_true k1,eq_true hi,c5,c6,d1,p1,p2,p3,p4,hH2,hs2,ap,zbY,zbN,gEz, -getElem?_pos]
    rw[p5,p6,p7,p8];rfl
   .obtain⟨i1,i2,i3⟩:=g5 k1
    have h0:¬i<0:=by omega
    have h1:¬(inK x.kind:Int)≤i:=by omega
    simp[zcH,c134,c1,hnE,k1,h0,h1,c8 k1,c5,c6,d1,p1,p2,p3,p4,hH2,hs2,ap,zbY,zbN,gEz, -getElem?_pos]
    rw[p5,p6,p7,p8];rfl
  .have hm:endK x s.pl i=(ssZ,[],(endK x s.pl i).2.2):=by
    have:=zqK x s.pl i hz
    exact Prod.ext this.1 (Prod.ext this.2 rfl)
   obtain⟨hv,ho,vs,os,hD'⟩:=d3
   have p1:=hD'.rb
   generalize (endK x s.pl i).2.2=E at *
   rw[hm]
   refine⟨zSs,zaM,run _ ?_,ziV _⟩
   by_cases k1:x.kind=1
   .have hi:=g4 k1
    simp[zcH,c134,c1,hnE,eq_true k1,eq_true hi,c5,c6,d1,p1,hz,hH2,hs2,ap,zbY,zbN,gEz, -getElem?_pos]
    exact⟨rfl,rfl⟩
   .obtain⟨i1,i2,i3⟩:=g5 k1
    have h0:¬i<0:=by omega
    have h1:¬(inK x.kind:Int)≤i:=by omega
    simp[zcH,c134,c1,hnE,k1,h0,h1,c8 k1,c5,c6,d1,p1,hz,hH2,hs2,ap,zbY,zbN,gEz, -getElem?_pos]
    exact⟨rfl,rfl⟩
section
set_option maxRecDepth 10000
end
section
set_option maxRecDepth 10000
end
theorem one1 (n:Int):SlN (ofL 1 [n]):=zaN (by simp)
section
set_option maxRecDepth 10000
end
@[simp] theorem apart_oo (i a b c j d e f:Nat):apart (.optr i a b c) (.optr j d e f)=(i !=j):=rfl
structure PlN (x:Pl):Prop where
 st:x.stages.l.length≤1000
 pi:x.pipes.l.length≤1000
 it:∀s∈x.stages.l,s.items.l.length≤1048576
theorem zeA (p:Pi→Bool):∀(l:List Pi) (k:Nat),pidx p l k=match fidx p l with|some j=>((k+j:Nat):Int)|none=> -1
 | [],k=>rfl
 |a::r,k=>by
  simp only[pidx,fidx]
  cases hp:p a with
  |true=>simp
  |false=>
   rw[if_neg Bool.false_ne_true,if_neg Bool.false_ne_true,zeA p r (k+1)]
   cases fidx p r with
   |none=>rfl
   |some j=>simp only[oMs];congr 1;omega
theorem zq4 (i n:Int) (y:Pi) (H:Heap) (h1:H[1]?=some (.arr 0 1 false [I i])) (h2:H[2]?=some (.arr 0 1 false [I n])):okV (W.call (.clo 121 [] [.optr 1 0 0 0,.optr 2 0 0 0]) [y.av] H) (fun v H'=>v= .bool (decide (y.src=i)&&decide (y.output=n))∧Kept none H H'):=by
 have g1:∀B,(H++[B])[1]?=some (.arr 0 1 false [I i]):=fun B=>zR h1 B
 have g2:∀B,(H++[B])[2]?=some (.arr 0 1 false [I n]):=fun B=>zR h2 B
 have g3:∀B,(H++[B])[H.length]?=some B:=fun B=>zF H B
 rw[ze Φ121]
 by_cases h:y.src=i<;>simp[zoj,c121,g1,g2,g3,h,gEz, -getElem?_pos]<;>exact Kept.append _ _ _
theorem zq5 (i n:Int) (y:Pi) (H:Heap) (h1:H[1]?=some (.arr 0 1 false [I i])) (h2:H[2]?=some (.arr 0 1 false [I n])):okV (W.call (.clo 114 [] [.optr 1 0 0 0,.optr 2 0 0 0]) [y.av] H) (fun v H'=>v= .bool (decide (y.dst=i)&&decide (y.input=n))∧Kept none H H'):=by
 have g1:∀B,(H++[B])[1]?=some (.arr 0 1 false [I i]):=fun B=>zR h1 B
 have g2:∀B,(H++[B])[2]?=some (.arr 0 1 false [I n]):=fun B=>zR h2 B
 have g3:∀B,(H++[B])[H.length]?=some B:=fun B=>zF H B
 rw[ze Φ114]
 by_cases h:y.dst=i<;>simp[zol,c114,g1,g2,g3,h,gEz, -getElem?_pos]<;>exact Kept.append _ _ _
theorem e71 (x:Pl) (hx:x.pipes.l.length≤1000) (i n:Int):W.pure 71 [x.av,I i,I n]=some (I (pOut x i n)):=by
 obtain⟨v,H',d1,rfl,d2⟩:=zu.1 (zo8 x.pipes (by omega) (.clo 121 [] [.optr 1 0 0 0,.optr 2 0 0 0]) rfl (fun y=>decide (y.src=i)&&decide (y.output=n)) [.arr 0 2 false [x.av],.arr 0 1 false [I i],.arr 0 1 false [I n]]
  (fun y _ H hk=>zq4 i n y H (hk.get (by simp) rfl) (hk.get (by simp) rfl)))
 have hp:=zeA (fun y=>decide (y.src=i)&&decide (y.output=n)) x.pipes.l 0
 rw[zj Φ71 (by simp)]
 simp[fi71,c71,ze Φ113,zlR,c113,d1]
 unfold pOut
 rw[hp]
 cases fidx (fun y=>decide (y.src=i)&&decide (y.output=n)) x.pipes.l<;>simp
theorem e69 (x:Pl) (hx:x.pipes.l.length≤1000) (i n:Int):W.pure 69 [x.av,I i,I n]=some (I (pIn x i n)):=by
 obtain⟨v,H',d1,rfl,d2⟩:=zu.1 (zo8 x.pipes (by omega) (.clo 114 [] [.optr 1 0 0 0,.optr 2 0 0 0]) rfl (fun y=>decide (y.dst=i)&&decide (y.input=n)) [.arr 0 2 false [x.av],.arr 0 1 false [I i],.arr 0 1 false [I n]]
  (fun y _ H hk=>zq5 i n y H (hk.get (by simp) rfl) (hk.get (by simp) rfl)))
 have hp:=zeA (fun y=>decide (y.dst=i)&&decide (y.input=n)) x.pipes.l 0
 rw[zj Φ69 (by simp)]
 simp[fi69,c69,ze Φ113,zlR,c113,d1]
 unfold pIn
 rw[hp]
 cases fidx (fun y=>decide (y.dst=i)&&decide (y.input=n)) x.pipes.l<;>simp
theorem e39 (a l h:Int):W.pure 39 [I a,I l,I h]=some (.bool (decide (l≤a)&&decide (a≤h))):=by
 rw[zj Φ39 rfl]
 by_cases h1:l≤a<;>simp[fi39,c39,h1]
theorem e39t {a l h:Int} (h1:l≤a) (h2:a≤h):W.pure 39 [I a,I l,I h]=some (.bool true):=by rw[e39];simp[h1,h2]
theorem e39f {a l h:Int} (h1:a<l∨h<a):W.pure 39 [I a,I l,I h]=some (.bool false):=by
 rw[e39]
 rcases h1 with h1|h1
 .simp;omega
 .simp;omega
theorem zgD {x:Pl} {i:Int} (h0:0≤i) (h1:i<x.stages.l.length):x.stages.l[i.toNat]?=some (sgAt x i):=by
 unfold sgAt
 rw[gEd,gEg (by omega)];rfl
theorem e74 (x:Pl) (hx:PlN x) (k:Nat) (y:Pi) (hy:x.pipes.l[k]?=some y):W.pure 74 [x.av,I k]=some (I (piI x k y)):=by
 have hk:=(gEs.1 hy).1
 have hky:x.pipes.l[k]=y:=(gEs.1 hy).2
 have hst:=hx.st
 have w1:IntKind.wrap .i64 ((x.stages.l.length:Int) - 1)=(x.stages.l.length:Int) - 1:=zG (by omega) (by omega)
 have run:∀(A:Option AV),((za1 W fi74 [x.av,I k] []).bind fun p=>frz p.2 8 p.1)=A→W.pure 74 [x.av,I k]=A:=fun A h=>by rw[zj Φ74 (by simp)];exact h
 unfold piI
 by_cases a1:y.src<0∨(x.stages.l.length:Int)≤y.src
 .rw[if_pos (by omega)]
  have c1:=e39f (a:=y.src) (l:=0) (h:=(x.stages.l.length:Int) - 1) (by omega)
  refine run _ ?_
  simp[fi74,c74,hk,hky,w1,c1]
 have c1:=e39t (a:=y.src) (l:=0) (h:=(x.stages.l.length:Int) - 1) (by omega) (by omega)
 by_cases a2:y.dst<0∨(x.stages.l.length:Int)≤y.dst
 .rw[if_pos (by omega)]
  have c2:=e39f (a:=y.dst) (l:=0) (h:=(x.stages.l.length:Int) - 1) (by omega)
  refine run _ ?_
  simp[fi74,c74,hk,hky,w1,c1,c2]
 have c2:=e39t (a:=y.dst) (l:=0) (h:=(x.stages.l.length:Int) - 1) (by omega) (by omega)
 have hs:=zgD (x:=x) (i:=y.src) (by omega) (by omega)
 have hd:=zgD (x:=x) (i:=y.dst) (by omega) (by omega)
 have s0:0≤y.src:=by omega
 have d0:0≤y.dst:=by omega
 have hsl:y.src.toNat<x.stages.l.length:=by omega
 have hdl:y.dst.toNat<x.stages.l.length:=by omega
 have hsg:x.stages.l[y.src.toNat]=sgAt x y.src:=(gEs.1 hs).2
 have hdg:x.stages.l[y.dst.toNat]=sgAt x y.dst:=(gEs.1 hd).2
 have f1:=e73 (sgAt x y.src) (hx.it _ (lMg hs))
 have f2:=e68 (sgAt x y.dst) (hx.it _ (lMg hd))
 have l1:=zkX (sgAt x y.src)
 have l2:inN (sgAt x y.dst)≤2:=by unfold inN;split;omega;exact zo7 _
 have w2:IntKind.wrap .i64 ((outN (sgAt x y.src):Int) - 1)=(outN (sgAt x y.src):Int) - 1:=zG (by omega) (by omega)
 have w3:IntKind.wrap .i64 ((inN (sgAt x y.dst):Int) - 1)=(inN (sgAt x y.dst):Int) - 1:=zG (by omega) (by omega)
 by_cases b1:y.output<0∨(outN (sgAt x y.src):Int)≤y.output
 .have:(if y.src<0∨(x.stages.l.length:Int)≤y.src∨y.dst<0∨(x.stages.l.length:Int)≤y.dst∨y.capacity<1∨100<y.capacity then (2:Int)
   else if y.output<0∨(outN (sgAt x y.src):Int)≤y.output∨y.input<0∨(inN (sgAt x y.dst):Int)≤y.input then 2 else if pOut x y.src y.output<k∨pIn x y.dst y.input<k then 6 else if (sgAt x y.src).kind=5∧y.capacity<(sgAt x y.src).size then 2 else 0)=2:=by
   split
   .rfl
   .rw[if_pos (by omega)]
  rw[this]
  have c3:=e39f (a:=y.output) (l:=0) (h:=(outN (sgAt x y.src):Int) - 1) (by omega)
  refine run _ ?_
  simp[fi74,c74,hk,hky,w1,c1,c2,s0,d0,hsl,hdl,hsg,hdg,f1,f2,w2,w3,c3]
 have c3:=e39t (a:=y.output) (l:=0) (h:=(outN (sgAt x y.src):Int) - 1) (by omega) (by omega)
 by_cases b2:y.input<0∨(inN (sgAt x y.dst):Int)≤y.input
 .have:(if y.src<0∨(x.stages.l.length:Int)≤y.src∨y.dst<0∨(x.stages.l.length:Int)≤y.dst∨y.capacity<1∨100<y.capacity then (2:Int)
   else if y.output<0∨(outN (sgAt x y.src):Int)≤y.output∨y.input<0∨(inN (sgAt x y.dst):Int)≤y.input then 2 else if pOut x y.src y.output<k∨pIn x y.dst y.input<k then 6 else if (sgAt x y.src).kind=5∧y.capacity<(sgAt x y.src).size then 2 else 0)=2:=by
   split
   .rfl
   .rw[if_pos (by omega)]
  rw[this]
  have c4:=e39f (a:=y.input) (l:=0) (h:=(inN (sgAt x y.dst):Int) - 1) (by omega)
  refine run _ ?_
  simp[fi74,c74,hk,hky,w1,c1,c2,s0,d0,hsl,hdl,hsg,hdg,f1,f2,w2,w3,c3,c4]
 have c4:=e39t (a:=y.input) (l:=0) (h:=(inN (sgAt x y.dst):Int) - 1) (by omega) (by omega)
 by_cases b3:y.capacity<1∨100<y.capacity
 .rw[if_pos (by omega)]
  have c5:=e39f (a:=y.capacity) (l:=1) (h:=100) (by omega)
  refine run _ ?_
  simp[fi74,c74,hk,hky,w1,c1,c2,s0,d0,hsl,hdl,hsg,hdg,f1,f2,w2,w3,c3,c4,c5]
 have c5:=e39t (a:=y.capacity) (l:=1) (h:=100) (by omega) (by omega)
 rw[if_neg (by omega),if_neg (by omega)]
 have p1:=e71 x hx.pi y.src y.output
 have p2:=e69 x hx.pi y.dst y.input
 by_cases g1:pOut x y.src y.output<k
 .rw[if_pos (.inl g1)]
  refine run _ ?_
  simp[fi74,c74,hk,hky,w1,c1,c2,s0,d0,hsl,hdl,hsg,hdg,f1,f2,w2,w3,c3,c4,c5,p1,p2,g1]
 by_cases g2:pIn x y.dst y.input<k
 .rw[if_pos (.inr g2)]
  refine run _ ?_
  simp[fi74,c74,hk,hky,w1,c1,c2,s0,d0,hsl,hdl,hsg,hdg,f1,f2,w2,w3,c3,c4,c5,p1,p2,g1,g2]
 rw[if_neg (by omega)]
 refine run _ ?_
 by_cases g3:(sgAt x y.src).kind=5
 .by_cases g4:y.capacity<(sgAt x y.src).size
  .simp[fi74,c74,hk,hky,w1,c1,c2,s0,d0,hsl,hdl,hsg,hdg,f1,f2,w2,w3,c3,c4,c5,p1,p2,g1,g2,g3,g4]
  .simp[fi74,c74,hk,hky,w1,c1,c2,s0,d0,hsl,hdl,hsg,hdg,f1,f2,w2,w3,c3,c4,c5,p1,p2,g1,g2,g3,g4]
 .simp[fi74,c74,hk,hky,w1,c1,c2,s0,d0,hsl,hdl,hsg,hdg,f1,f2,w2,w3,c3,c4,c5,p1,p2,g1,g2,g3]
section
set_option maxRecDepth 10000
end
end Go.Proofs.YtbddckhdbnmamaaGreat
