/-
  Operations that make or change memory, in abstract values (conditions: none, lemmas alone).
-/
import Derived.Laws.AppendOwn
import Derived.Lib.AppendStr
import Derived.Test.YtbddckhdbnmamaaGreatOpss
namespace Go.Proofs.YtbddckhdbnmamaaGreat
open Go Go.RowKit
set_option linter.unusedVariables false
set_option linter.unusedSimpArgs false
section mem
variable {P:Program} {C:zbc} {K:Ctx} {w:World} {M:Mut} {R:Res} {H:Heap}
theorem zY {w w':World} {b o:Nat} (h:w'.heap[b]?=w.heap[b]?):w'.cell? ⟨b,o,none⟩=w.cell? ⟨b,o,none⟩:=by unfold World.cell?;rw[h]
theorem BlkR.keep {w':World} {M':Mut} {R':Res} {id:Nat} {B:Blk} (h:BlkR C w M R id B) (he:Evol R M w R' M' w') (hR:∀v,R' id v=R id v)
  (hw:∀g,R id B.ver=some g→w'.heap[g.blk]?=w.heap[g.blk]?) (hM:∀g,R id B.ver=some g→∀o,M g.blk o→M' g.blk o):BlkR C w' M' R' id B:=by
 cases B with
 |arr ver sz sh es=>
  obtain⟨g,c,t,h1,h2,h3,h4,h5,h6,h7,h8,h9,h10⟩:=h
  refine⟨g,c,t,by rw[hR];exact h1,fun v hv=>by rw[hR];exact h2 v hv,h3,by rw[hw g h1];exact h4,h5,h6,h7,fun i e j x u a b d=>(h8 i e j x u a b d).evol he,fun s o=>hM g h1 o (h9 s o),fun o ho=>hM g h1 o (h10 o ho)⟩
 |loop st pend F ps as bd=>
  obtain⟨g,r,h1,h2,h3,h4,h5,h6,h7,h8,h9,h10⟩:=h
  exact⟨g,r,by rw[hR];exact h1,fun v hv=>by rw[hR];exact h2 v hv,by rw[hw g h1];exact h3,h4,h5,h6,h7,h8,fun i=>(h9 i).evol he,h10⟩
 |mp es=>
  obtain⟨g,es',clock,h1,h2,h3,h4,hM0,h5⟩:=h
  exact⟨g,es',clock,by rw[hR];exact h1,fun v hv=>by rw[hR];exact h2 v hv,by rw[hw g h1];exact h3,h4,hM g h1 0 hM0,h5.1,fun i k v e hi he'=>⟨(h5.2 i k v e hi he').1.evol he,(h5.2 i k v e hi he').2.evol he⟩⟩
 |hole t=>exact fun v=>by rw[hR];exact h v
 |sit s p=>
  obtain⟨g,h1,h2,h3⟩:=h
  exact⟨g,by rw[hR];exact h1,fun v hv=>by rw[hR];exact h2 v hv,by rw[hw g h1];exact h3⟩
 |dead ver=>
  obtain⟨g,c,t,f,h1,h2,h3⟩:=h
  exact⟨g,c,t,f,by rw[hR];exact h1,fun v hv=>by rw[hR];exact h2 v hv,by rw[hw g h1];exact h3⟩
theorem HR.place (hh:HR C w M R H) {id:Nat} {B:Blk} (hb:H[id]?=some B) {g0:Own} (h0:R id B.ver=some g0):∃g,R id B.ver=some g∧g.blk<w.heap.size∧(w.heap[g.blk]?).isSome=true:=by
 have:=hh.blk id B hb
 cases B with
 |arr ver sz sh es=>
  obtain⟨g,c,t,h1,h2,h3,h4,_⟩:=this
  exact⟨g,h1,(aEs.1 h4).1,by rw[h4];rfl⟩
 |loop st pend F ps as bd=>
  obtain⟨g,r,h1,h2,h3,_⟩:=this
  exact⟨g,h1,(aEs.1 h3).1,by rw[h3];rfl⟩
 |mp es=>
  obtain⟨g,es',clock,h1,h2,h3,_⟩:=this
  exact⟨g,h1,(aEs.1 h3).1,by rw[h3];rfl⟩
 |hole t=>rw[this _]at h0;cases h0
 |sit s p=>
  obtain⟨g,h1,h2,h3⟩:=this
  exact⟨g,h1,(aEs.1 h3).1,by rw[h3];rfl⟩
 |dead ver=>
  obtain⟨g,c,t,f,h1,h2,h3⟩:=this
  exact⟨g,h1,(aEs.1 h3).1,by rw[h3];rfl⟩
theorem WR.mark_lt (h:WR C K w M R H) {r:Nat} (hr:r∈K.marks):r<w.heap.size:=(aEs.1 (h.marks r hr).1).1
theorem WR.mark_alloc (h:WR C K w M R H) (o:Obj) {r:Nat} (hr:r∈K.marks):(w.alloc o).heap[r]?=some (.deferred (some []))∧K.base≤r:=
 ⟨(Below.heap_alloc _ _ _ (h.mark_lt hr)).trans (h.marks r hr).1,(h.marks r hr).2⟩
theorem WR.same (h:WR C K w M R H) {w':World} (hheap:w'.heap=w.heap) (hos:w'.os=w.os) (ht:w'.tape=w.tape) (ho:w'.output=w.output):WR C K w' M R H∧Evol R M w R M w':=by
 have he:Evol R M w R M w':=⟨by rw[hheap];exact Nat.le_refl _,fun b o v hc _=>by rw[zY (w:=w) (w':=w') (b:=b) (o:=o) (by rw[hheap])];exact hc,fun _ _ _ h=>h,fun _ _ _ h=>h,fun b es cl hb _=>by rw[hheap];exact hb,fun b im c0 s0 d0 hb _=>by rw[hheap];exact hb⟩
 refine⟨⟨⟨fun id B hb=>(h.heap.blk id B hb).keep he (fun _=>rfl) (fun _ _=>by rw[hheap]) (fun _ _ _ h=>h),h.heap.dom,h.heap.inj⟩,fun p hp=>(h.pins p hp).evol he,?_,h.base,h.sub,by rw[hheap];exact h.le,fun r hr=>by rw[hheap];exact h.marks r hr,h.nodup⟩,he⟩
 exact h.below.trans ⟨hos,ht,ho,by rw[hheap];exact Nat.le_refl _,fun k _=>by rw[hheap]⟩
theorem WR.belowAll (h:WR C K w M R H) {w':World} (hb:Below w.heap.size w w'):WR C K w' M R H∧Evol R M w R M w':=by
 have he:Evol R M w R M w':=⟨hb.size,fun b o v hc _=>by rw[zY (hb.block b (zbq hc))];exact hc,fun _ _ _ h=>h,fun _ _ _ h=>h,fun b es cl h1 _=>(hb.block b (aEs.1 h1).1).trans h1,fun b im c0 s0 d0 h1 _=>(hb.block b (aEs.1 h1).1).trans h1⟩
 refine⟨⟨⟨fun id B hid=>(h.heap.blk id B hid).keep he (fun _=>rfl) (fun g hg=>?_) (fun _ _ _ h=>h),h.heap.dom,h.heap.inj⟩,fun p hp=>(h.pins p hp).evol he,h.below.trans (hb.mono h.le),h.base,h.sub,Nat.le_trans h.le hb.size,fun r hr=>⟨(hb.block r (h.mark_lt hr)).trans (h.marks r hr).1,(h.marks r hr).2⟩,h.nodup⟩,he⟩
 obtain⟨g',h1,h2,_⟩:=h.heap.place hid hg
 rw[hg]at h1;cases h1
 exact hb.block _ h2
def zP (R:Res) (n:Nat) (g:Own):Res:=fun id ver=>if id=n then (if ver=0 then some g else none) else R id ver
def zaj (M:Mut) (b:Nat):Mut:=fun k o=>M k o∨k=b
theorem zhe (h:WR C K w M R H) (o:Obj) (g:Own):Evol R M w (zP R H.length g) (zaj M w.heap.size) (w.alloc o):=by
 refine⟨by show w.heap.size≤(w.heap.push o).size;simp,fun b o' v hc _=>?_,fun id ver g' hg=>?_,fun b o' hb hm=>?_,fun b es cl h1 _=>(Below.heap_alloc _ _ _ (aEs.1 h1).1).trans h1,fun b im c0 s0 d0 h1 _=>(Below.heap_alloc _ _ _ (aEs.1 h1).1).trans h1⟩
 .rw[zY (Below.heap_alloc _ _ _ (zbq hc))];exact hc
 .have:=h.heap.dom id ver g' hg
  unfold zP
  rw[if_neg (by omega)];exact hg
 .rcases hm with hm|hm
  .exact hm
  .omega
theorem zW (w:World) (o:Obj):(w.alloc o).heap[w.heap.size]?=some o:=by
 show (w.heap.push o)[w.heap.size]?=some o
 simp
theorem WR.new (h:WR C K w M R H) (c:Array Value) (t:TypeId) (es:List AV) (sz cap:Nat) (hs:c.size=cap* sz) (hl:es.length≤cap)
  (hes:∀(i:Nat) (e:AV),es[i]?=some e→(AV.cells e).length=sz)
  (hv:∀(i:Nat) (e:AV) (j:Nat) (x:AV) (u:Value),es[i]?=some e→(AV.cells e)[j]?=some x→c[i* sz+j]?=some u→VR w M R x u):
  WR C K (w.alloc (.cells c t)) (zaj M w.heap.size) (zP R H.length ⟨sz,w.heap.size,cap,0⟩) (H++[.arr 0 sz false es])∧
   Evol R M w (zP R H.length ⟨sz,w.heap.size,cap,0⟩) (zaj M w.heap.size) (w.alloc (.cells c t)):=by
 have he:=zhe h (.cells c t) ⟨sz,w.heap.size,cap,0⟩
 refine⟨⟨⟨?_,?_,?_⟩,fun p hp=>(h.pins p hp).evol he,h.below.trans ((Below.refl _ w).alloc h.le _),?_,?_,?_,fun r hr=>h.mark_alloc _ hr,h.nodup⟩,he⟩
 .intro id B hb
  rcases Nat.lt_trichotomy id H.length with hid|hid|hid
  .rw[gEa hid]at hb
   refine (h.heap.blk id B hb).keep he (fun v=>by unfold zP;rw[if_neg (by omega)]) (fun g hg=>?_) (fun g hg o hm=> .inl hm)
   obtain⟨g',h1,h2,_⟩:=h.heap.place hb hg
   rw[hg]at h1;cases h1
   exact Below.heap_alloc _ _ _ h2
  .subst hid
   simp at hb
   subst hb
   exact⟨⟨sz,w.heap.size,cap,0⟩,c,t,by simp[zP],fun v hv=>by unfold zP;rw[if_pos rfl,if_neg (by omega)],rfl,zW w _,(by simpa using hs),hl,hes,
    fun i e j x u a b d=>(hv i e j x u a b (by simpa using d)).evol he,fun _ _=> .inr rfl,fun _ _=> .inr rfl⟩
  .rw[List.getElem?_eq_none (by simp;omega)]at hb;cases hb
 .intro id ver g hg
  unfold zP at hg
  split at hg
  .simp;omega
  .have:=h.heap.dom id ver g hg;simp;omega
 .intro i j Bi Bj gi gj hi hj hgi hgj hb
  have old:∀k B g,(H++[Blk.arr 0 sz false es])[k]?=some B→zP R H.length ⟨sz,w.heap.size,cap,0⟩ k B.ver=some g→(k=H.length∧g.blk=w.heap.size)∨(k<H.length∧H[k]?=some B∧R k B.ver=some g∧g.blk<w.heap.size):=by
   intro k B g hk hg
   rcases Nat.lt_trichotomy k H.length with hid|hid|hid
   .rw[gEa hid]at hk
    unfold zP at hg
    rw[if_neg (by omega)]at hg
    obtain⟨g',h1,h2,_⟩:=h.heap.place hk hg
    rw[hg]at h1;cases h1
    exact .inr ⟨hid,hk,hg,h2⟩
   .subst hid
    unfold zP at hg
    rw[if_pos rfl]at hg
    split at hg
    .cases hg;exact .inl ⟨rfl,rfl⟩
    .cases hg
   .rw[List.getElem?_eq_none (by simp;omega)]at hk;cases hk
  rcases old i Bi gi hi hgi with⟨a1,a2⟩|⟨a1,a2,a3,a4⟩<;>rcases old j Bj gj hj hgj with⟨b1,b2⟩|⟨b1,b2,b3,b4⟩
  .omega
  .omega
  .omega
  .exact h.heap.inj i j Bi Bj gi gj a2 b2 a3 b3 hb
 .intro id ver g hg
  unfold zP at hg
  split at hg
  .split at hg
   .cases hg;exact h.le
   .cases hg
  .exact h.base id ver g hg
 .intro b o hb
  have:=h.le
  exact⟨fun hm=>hm.elim (fun hm=>(h.sub b o hb).1 hm) (fun hm=>absurd hm (by omega)),fun hm=> .inl ((h.sub b o hb).2 hm)⟩
 .have:=h.le
  show K.base≤(w.heap.push _).size
  simp;omega
def zq (R:Res) (id ver:Nat) (g:Own):Res:=fun i v=>if i=id∧v=ver then some g else R i v
theorem zfm (hh:HR C w M R H) {id ver ver' sz:Nat} {sh:Bool} {es:List AV} {g:Own} (hb:H[id]?=some (.arr ver sz sh es)) (hlt:ver<ver'):∀i v g',R i v=some g'→zq R id ver' g i v=some g':=by
 intro i v g' h
 unfold zq
 split
 .rename_i hc
  obtain⟨rfl,rfl⟩:=hc
  obtain⟨_,_,_,_,h2,_⟩:=hh.blk _ _ hb
  rw[h2 _ hlt]at h;cases h
 .exact h
theorem WR.set (h:WR C K w M R H) {id ver ver' sz:Nat} {sh:Bool} {es es':List AV} {g g1:Own} {c c':Array Value} {t:TypeId} (hb:H[id]?=some (.arr ver sz sh es)) (hg:R id ver=some g)
  (hw:w.heap[g.blk]?=some (.cells c t (0,0))) (hsize:c'.size=c.size) (hkeep:∀(o:Nat) (v:Value),c[o]?=some v→¬M g.blk o→c'[o]?=some v)
  (hver:ver<ver'∨(ver=ver'∧g1=g)) (hb1:g1.blk=g.blk) (hz1:g1.sz=sz) (hc1:c.size=g1.bs+g1.cap* sz) (hl:es'.length≤g1.cap) (hlen:g.bs+es.length* sz≤g1.bs+es'.length* sz) (hes':∀(i:Nat) (e:AV),es'[i]?=some e→(AV.cells e).length=sz)
  (hv':∀(i:Nat) (e:AV) (j:Nat) (x:AV) (u:Value),es'[i]?=some e→(AV.cells e)[j]?=some x→c'[g1.bs+(i* sz+j)]?=some u→VR w M R x u):
  WR C K (w.setRow g.blk c') M (zq R id ver' g1) (H.set id (.arr ver' sz sh es'))∧Evol R M w (zq R id ver' g1) M (w.setRow g.blk c'):=by
 have hid:id<H.length:=(gEs.1 hb).1
 have hown:∀i v g',R i v=some g'→zq R id ver' g1 i v=some g':=by
  rcases hver with hlt|⟨heq,hgg⟩
  .exact zfm h.heap hb hlt
  .intro i v g' hi
   unfold zq
   split
   .rename_i hc
    obtain⟨rfl,rfl⟩:=hc
    rw[←heq,hg]at hi;rw[hgg];exact hi
   .exact hi
 have hblk:=h.heap.blk id _ hb
 obtain⟨g0,c0,t0,k1,k2,k3,k4,k5,k6,k7,k8,k9,k10⟩:=hblk
 rw[hg]at k1;cases k1
 rw[hw]at k4;cases k4
 have he:Evol R M w (zq R id ver' g1) M (w.setRow g.blk c'):=by
  refine⟨by simp,fun b o v hc hm=>?_,hown,fun _ _ _ h=>h,fun b es cl h1 _=>(setRow_other w g.blk b c' (fun e=>by subst e;rw[hw]at h1;cases h1)).trans h1,fun b im c0 s0 d0 h1 _=>(setRow_other w g.blk b c' (fun e=>by subst e;rw[hw]at h1;cases h1)).trans h1⟩
  by_cases hbb:b=g.blk
  .subst hbb
   have:c[o]?=some v:=by simpa[World.cell?,hw]using hc
   rw[cell_setRow_same w g.blk o c c' t (0,0) hw]
   exact hkeep o v this hm
  .rw[cell_setRow_other w g.blk c' _ hbb];exact hc
 have hbelow:Below K.base w (w.setRow g.blk c'):=⟨rfl,rfl,rfl,by simp,fun k hk=>setRow_other w g.blk k c' (by have:=h.base id ver g hg;omega)⟩
 refine⟨⟨⟨?_,?_,?_⟩,fun p hp=>(h.pins p hp).evol he,h.below.trans hbelow,?_,h.sub,by simpa using h.le,fun r hr=>⟨(setRow_other w g.blk r c' (fun e=>by subst e;rw[(h.marks _ hr).1]at hw;cases hw)).trans (h.marks r hr).1,(h.marks r hr).2⟩,h.nodup⟩,he⟩
 .intro i B hi
  by_cases hii:i=id
  .subst hii
   rw[gEt hid]at hi
   cases hi
   refine⟨g1,c',t,by simp[zq],fun v hv=>?_,hz1,by rw[hb1];exact setRow_heap w g.blk c c' t (0,0) hw,by rw[hsize];exact hc1,hl,hes',fun a e j x u p q r=>(hv' a e j x u p q r).evol he,by rw[hb1];exact k9,fun o ho=>by rw[hb1];exact k10 o (Nat.le_trans hlen ho)⟩
   unfold zq
   rw[if_neg (by omega)]
   exact k2 v (by rcases hver with h|h<;>omega)
  .rw[gEn (fun e=>hii e.symm)]at hi
   refine (h.heap.blk i B hi).keep he (fun v=>by unfold zq;rw[if_neg (fun hc=>hii hc.1)]) (fun g' hg'=>?_) (fun _ _ _ hm=>hm)
   refine setRow_other w g.blk g'.blk c' (fun e=>hii ?_)
   exact h.heap.inj i id B _ g' g hi hb hg' hg e
 .intro i v g' hi
  unfold zq at hi
  rw[List.length_set]
  split at hi
  .rename_i hc;rw[hc.1];exact hid
  .exact h.heap.dom i v g' hi
 .intro i j Bi Bj gi gj hi hj hgi hgj hbb
  have old:∀k B g',(H.set id (.arr ver' sz sh es'))[k]?=some B→zq R id ver' g1 k B.ver=some g'→∃B' g2,H[k]?=some B'∧R k B'.ver=some g2∧g2.blk=g'.blk:=by
   intro k B g' hk hg'
   by_cases hkk:k=id
   .subst hkk
    rw[gEt hid]at hk
    cases hk
    simp[zq,Blk.ver]at hg'
    subst hg'
    exact⟨_,_,hb,hg,hb1.symm⟩
   .rw[gEn (fun e=>hkk e.symm)]at hk
    unfold zq at hg'
    rw[if_neg (fun hc=>hkk hc.1)]at hg'
    exact⟨B,_,hk,hg',rfl⟩
  obtain⟨Bi',gi',a1,a2,a3⟩:=old i Bi gi hi hgi
  obtain⟨Bj',gj',b1,b2,b3⟩:=old j Bj gj hj hgj
  exact h.heap.inj i j Bi' Bj' gi' gj' a1 b1 a2 b2 (by rw[a3,b3];exact hbb)
 .intro i v g' hi
  unfold zq at hi
  split at hi
  .cases hi;rw[hb1];exact h.base id ver g hg
  .exact h.base i v g' hi
theorem WR.move (h:WR C K w M R H) {id ver ver' sz cap:Nat} {sh:Bool} {es es':List AV} {c:Array Value} {t:TypeId} (hb:H[id]?=some (.arr ver sz sh es)) (hver:ver<ver') (hs:c.size=cap* sz)
  (hl:es'.length≤cap) (hes':∀(i:Nat) (e:AV),es'[i]?=some e→(AV.cells e).length=sz)
  (hv':∀(i:Nat) (e:AV) (j:Nat) (x:AV) (u:Value),es'[i]?=some e→(AV.cells e)[j]?=some x→c[i* sz+j]?=some u→VR w M R x u):
  WR C K (w.alloc (.cells c t)) (zaj M w.heap.size) (zq R id ver' ⟨sz,w.heap.size,cap,0⟩) (H.set id (.arr ver' sz sh es'))∧
   Evol R M w (zq R id ver' ⟨sz,w.heap.size,cap,0⟩) (zaj M w.heap.size) (w.alloc (.cells c t)):=by
 have hid:id<H.length:=(gEs.1 hb).1
 obtain⟨g0,c0,t0,k1,k2,k3,k4,k5,k6,k7,k8,k9,k10⟩:=h.heap.blk id _ hb
 have he:Evol R M w (zq R id ver' ⟨sz,w.heap.size,cap,0⟩) (zaj M w.heap.size) (w.alloc (.cells c t)):=by
  refine⟨by show w.heap.size≤(w.heap.push _).size;simp,fun b o v hc _=>?_,zfm h.heap hb hver,fun b o hlt hm=>?_,fun b es cl h1 _=>(Below.heap_alloc _ _ _ (aEs.1 h1).1).trans h1,fun b im c0 s0 d0 h1 _=>(Below.heap_alloc _ _ _ (aEs.1 h1).1).trans h1⟩
  .rw[zY (Below.heap_alloc _ _ _ (zbq hc))];exact hc
  .rcases hm with hm|hm
   .exact hm
   .omega
 refine⟨⟨⟨?_,?_,?_⟩,fun p hp=>(h.pins p hp).evol he,h.below.trans ((Below.refl _ w).alloc h.le _),?_,?_,?_,fun r hr=>h.mark_alloc _ hr,h.nodup⟩,he⟩
 .intro i B hi
  by_cases hii:i=id
  .subst hii
   rw[gEt hid]at hi
   cases hi
   refine⟨⟨sz,w.heap.size,cap,0⟩,c,t,by simp[zq],fun v hv=>?_,rfl,zW w _,(by simpa using hs),hl,hes',fun a e j x u p q r=>(hv' a e j x u p q (by simpa using r)).evol he,fun _ _=> .inr rfl,fun _ _=> .inr rfl⟩
   unfold zq
   rw[if_neg (by omega)]
   exact k2 v (by omega)
  .rw[gEn (fun e=>hii e.symm)]at hi
   refine (h.heap.blk i B hi).keep he (fun v=>by unfold zq;rw[if_neg (fun hc=>hii hc.1)]) (fun g' hg'=>?_) (fun _ _ _ hm=> .inl hm)
   obtain⟨g'',h1,h2,_⟩:=h.heap.place hi hg'
   rw[hg']at h1;cases h1
   exact Below.heap_alloc _ _ _ h2
 .intro i v g' hi
  unfold zq at hi
  rw[List.length_set]
  split at hi
  .rename_i hc;rw[hc.1];exact hid
  .exact h.heap.dom i v g' hi
 .intro i j Bi Bj gi gj hi hj hgi hgj hbb
  have old:∀k B g',(H.set id (.arr ver' sz sh es'))[k]?=some B→zq R id ver' ⟨sz,w.heap.size,cap,0⟩ k B.ver=some g'→(k=id∧g'.blk=w.heap.size)∨(H[k]?=some B∧R k B.ver=some g'∧g'.blk<w.heap.size):=by
   intro k B g' hk hg'
   by_cases hkk:k=id
   .subst hkk
    rw[gEt hid]at hk
    cases hk
    simp[zq,Blk.ver]at hg'
    subst hg'
    exact .inl ⟨rfl,rfl⟩
   .rw[gEn (fun e=>hkk e.symm)]at hk
    unfold zq at hg'
    rw[if_neg (fun hc=>hkk hc.1)]at hg'
    obtain⟨g'',h1,h2,_⟩:=h.heap.place hk hg'
    rw[hg']at h1;cases h1
    exact .inr ⟨hk,hg',h2⟩
  rcases old i Bi gi hi hgi with⟨a1,a2⟩|⟨a1,a2,a3⟩<;>rcases old j Bj gj hj hgj with⟨b1,b2⟩|⟨b1,b2,b3⟩
  .omega
  .omega
  .omega
  .exact h.heap.inj i j Bi Bj gi gj a1 b1 a2 b2 hbb
 .intro i v g' hi
  unfold zq at hi
  split at hi
  .cases hi;exact h.le
  .exact h.base i v g' hi
 .intro b o hb
  have:=h.le
  exact⟨fun hm=>hm.elim (fun hm=>(h.sub b o hb).1 hm) (fun hm=>absurd hm (by omega)),fun hm=> .inl ((h.sub b o hb).2 hm)⟩
 .have:=h.le
  show K.base≤(w.heap.push _).size
  simp;omega
/-! ### The operations -/
def Eff (C:zbc) (K:Ctx) (P:Program) (w:World) (M:Mut) (R:Res) (z:AV) (H':Heap) {α:Type} (val:α→Value) (s:Sem α):Prop:=
 ∃r w' M' R',s.run P w= .ok r w'∧VR w' M' R' z (val r)∧WR C K w' M' R' H'∧Evol R M w R' M' w'
theorem zln {x:AV} {u:Value} (h:VR w M R x u) (hc:x.cell=true):u.oneCell'=true:=by
 cases h<;>first|rfl|cases hc
theorem zi1 {x:AV} {u:Value} (h:VR w M R x u) (hok:x.ok=true) (hc:x.cells.all AV.cell=true):∀v∈u.cells,v.oneCell'=true:=by
 obtain⟨hs,hv⟩:=h.cr hok
 intro v hmem
 obtain⟨j,hj,rfl⟩:=Array.mem_iff_getElem.1 hmem
 have hj':j<x.cells.length:=by omega
 exact zln (hv j x.cells[j] _ (gEg hj') (Array.getElem?_eq_getElem hj)) (lAt.1 hc _ (List.getElem_mem hj'))
theorem zbL {x:AV} (hc:x.cells.all AV.cell=true):x.ok=true:=by
 cases x<;>first|rfl|(simp[AV.cells,AV.cell]at hc)
theorem zxu (h:WR C K w M R H) {t:TypeId} {sz:Nat} {x z:AV} {u:Value} {H':Heap} (hx:VR w M R x u) (he:ex H (.box sz) [x]=some (z,H')):Eff C K P w M R z H' id (Instr.box t u):=by
 simp only[ex]at he
 split at he
 .rename_i hc
  cases he
  obtain⟨hs,hv⟩:=hx.cr (zbL hc.2)
  obtain⟨h1,h2⟩:=h.new u.cells t [x] sz 1 (by rw[hs,hc.1];omega) (by simp) (fun i e hi=>by
   cases i with
   |zero=>simp at hi;subst hi;exact hc.1
   |succ i=>simp at hi) (fun i e j y v hi hj hu=>by
   cases i with
   |zero=>simp at hi;subst hi;exact hv j y v hj (by simpa using hu)
   |succ i=>simp at hi)
  refine⟨_,_,_,_,rfl,?_,h1,h2⟩
  have:=VR.optr (w:=w.alloc (.cells u.cells t)) (M:=zaj M w.heap.size) (zP R H.length ⟨sz,w.heap.size,1,0⟩) H.length 0 0 0 ⟨sz,w.heap.size,1,0⟩ (by simp[zP])
  simpa using this
 .cases he
theorem zfj (c:List Value) (vs:List Value) (o k:Nat) (h:o+vs.length≤c.length):(c.take o++vs++c.drop (o+vs.length))[k]?=if k<o then c[k]? else if k<o+vs.length then vs[k - o]? else c[k]?:=by
 split
 .rename_i h1
  rw[List.append_assoc,gEa (by simp;omega),List.getElem?_take,if_pos h1]
 .rename_i h1
  split
  .rename_i h2
   rw[gEa (by simp;omega),gEr (by simp;omega)]
   congr 1
   simp;omega
  .rename_i h2
   rw[gEr (by simp;omega),List.getElem?_drop]
   congr 1
   simp;omega
theorem ziw {i idx sz j:Nat} (hj:j<sz) (hne:i≠idx):i* sz+j<idx* sz∨(idx+1)* sz≤i* sz+j:=by
 rcases Nat.lt_or_ge i idx with h|h
 .left
  have:=Nat.mul_le_mul_right sz (show i+1≤idx by omega)
  rw[Nat.add_mul]at this;omega
 .right
  have:=Nat.mul_le_mul_right sz (show idx+1≤i by omega)
  omega
theorem zhU {es es':List AV} {idx off sz n:Nat} {v:AV} (h:ze es idx off v=some es') (hsz:∀(i:Nat) (e:AV),es[i]?=some e→(AV.cells e).length=sz) (hn:v.cells.length=n):
  idx<es.length∧off+n≤sz∧es'.length=es.length∧(∀i,i≠idx→es'[i]?=es[i]?)∧∃e',es'[idx]?=some e'∧e'.cells.length=sz∧
   ∀j,e'.cells[j]?=if j<off then (es[idx]?.bind fun e=>(AV.cells e)[j]?) else if j<off+n then v.cells[j - off]? else (es[idx]?.bind fun e=>(AV.cells e)[j]?):=by
 unfold ze at h
 split at h
 .rename_i cs hcs
  split at h
  .rename_i hl
   cases h
   have hidx:=(gEs.1 hcs).1
   have hc:cs.length=sz:=hsz idx _ hcs
   refine⟨hidx,by omega,by simp,fun i hi=>by rw[gEn (fun e=>hi e.symm)],.agg (splice cs off v.cells),by rw[gEt hidx],?_,?_⟩
   .show (splice cs off v.cells).length=sz
    generalize v.cells=vc at *
    unfold splice
    simp;omega
   .intro j
    show (splice cs off v.cells)[j]?=_
    rw[hcs]
    simp only[Option.bind_some]
    show (splice cs off v.cells)[j]?=if j<off then cs[j]? else if j<off+n then v.cells[j - off]? else cs[j]?
    generalize v.cells=vc at *
    unfold splice
    subst hn
    split
    .rename_i h1
     rw[List.append_assoc,gEa (by simp;omega),List.getElem?_take,if_pos h1]
    .rename_i h1
     split
     .rename_i h2
      rw[gEa (by simp;omega),gEr (by simp;omega)]
      congr 1
      simp;omega
     .rename_i h2
      rw[gEr (by simp;omega),List.getElem?_drop]
      congr 1
      simp;omega
  .cases h
 .rename_i e hnagg he
  split at h
  .rename_i hc
   cases h
   obtain⟨h1,h2,h3⟩:=hc
   have hidx:=(gEs.1 he).1
   have hcs:=hsz idx _ he
   have hone:e.cells=[e]:=by cases e<;>first|rfl|exact absurd rfl (hnagg _)
   rw[hone]at hcs
   simp at hcs
   refine⟨hidx,by omega,by simp,fun i hi=>by rw[gEn (fun e=>hi e.symm)],v,by rw[gEt hidx],by omega,?_⟩
   intro j
   subst h1
   simp only[Nat.not_lt_zero,if_false,Nat.zero_add,Nat.sub_zero]
   split
   .rfl
   .rename_i h4
    rw[he]
    simp only[Option.bind_some]
    rw[List.getElem?_eq_none (by omega),List.getElem?_eq_none (by rw[hone];simp;omega)]
  .cases h
 .cases h
theorem zvC (h:WR C K w M R H) {t:TypeId} {n:Nat} {p x z:AV} {u v:Value} {H':Heap} (hp:VR w M R p u) (hx:VR w M R x v) (he:ex H (.store n) [p,x]=some (z,H')) (hn:szT P t=some n):
  Eff C K P w M R z H' (fun _:Unit=>undef) (Instr.storeAt t u v):=by
 simp only[ex,zba]at he
 split at he
 .rename_i id ver idx off
  split at he
  .rename_i ver' sz es hb
   split at he
   .rename_i hc
    obtain⟨hv0,hn0,hcell⟩:=hc
    subst hv0
    cases hs:ze es idx off x with
    |none=>simp[hs]at he
    |some es'=>
     simp only[hs,oMs,oSi,pMi]at he
     obtain⟨rfl,rfl⟩:=he
     obtain⟨g,c,t',k1,k2,k3,k4,k5,k6,k7,k8,k9,k10⟩:=h.heap.blk id _ hb
     obtain⟨s1,s2,s3,s4,e',s5,s6,s7⟩:=zhU hs k7 hn0
     obtain⟨cr1,cr2⟩:=hx.cr (zbL hcell)
     have hvl:v.cells.toList.length=n:=by simp;omega
     cases hp with
     |optr R _ _ _ _ g' hg'=>
      rw[k1]at hg';cases hg'
      have hcap:g.bs+(idx+1)* sz≤c.size:=by rw[k5];exact Nat.add_le_add_left (Nat.mul_le_mul_right _ (by omega)) _
      rw[Nat.add_mul,Nat.one_mul]at hcap
      have hst:=run_storeCells_at P g.blk (g.bs+(idx* sz+off)) t' v.cells.toList 0 c w k4 (by rw[hvl];omega) (fun y hy=>zi1 hx (zbL hcell) hcell y (by simpa using hy))
      simp only[Nat.add_zero]at hst
      let c':Array Value:=(c.toList.take (g.bs+(idx* sz+off))++v.cells.toList++c.toList.drop (g.bs+(idx* sz+off)+v.cells.toList.length)).toArray
      have hget:∀k,c'[k]?=if k<g.bs+(idx* sz+off) then c[k]? else if k<g.bs+(idx* sz+off)+n then v.cells[k - (g.bs+(idx* sz+off))]? else c[k]?:=by
       intro k
       show ((c.toList.take (g.bs+(idx* sz+off))++v.cells.toList++c.toList.drop (g.bs+(idx* sz+off)+v.cells.toList.length)).toArray)[k]?=_
       rw[List.getElem?_toArray,zfj _ _ _ _ (by rw[hvl];simp;omega),hvl]
       simp only[Array.getElem?_toList]
      have hcs:c'.size=c.size:=by
       show ((c.toList.take (g.bs+(idx* sz+off))++v.cells.toList++c.toList.drop (g.bs+(idx* sz+off)+v.cells.toList.length)).toArray).size=_
       simp[List.size_toArray];omega
      obtain⟨r1,r2⟩:=h.set (c':=c') (es':=es') (ver':=ver) hb k1 k4 hcs (fun o y ho hm=>absurd (k9 rfl o) hm) (.inr ⟨rfl,rfl⟩) rfl k3 k5 (by omega) (by rw[show es'.length=es.length by omega];exact Nat.le_refl _) (fun i e hi=>by
       by_cases hii:i=idx
       .subst hii;rw[s5]at hi;cases hi;exact s6
       .rw[s4 i hii]at hi;exact k7 i e hi) (fun i e j y q hi hj hq=>by
       by_cases hii:i=idx
       .subst hii
        rw[s5]at hi;cases hi
        have hjl:j<sz:=by rw[←s6];exact (gEs.1 hj).1
        have helem:∃e,es[i]?=some e:=⟨es[i],gEg s1⟩
        obtain⟨e,hee⟩:=helem
        rw[s7 j,hee]at hj
        simp only[Option.bind_some]at hj
        rw[hget]at hq
        by_cases c1:j<off
        .rw[if_pos c1]at hj
         rw[if_pos (by omega)]at hq
         exact k8 i e j y q hee hj hq
        .rw[if_neg c1]at hj
         rw[if_neg (by omega)]at hq
         by_cases c2:j<off+n
         .rw[if_pos c2]at hj
          rw[if_pos (by omega)]at hq
          have e1:g.bs+(i* sz+j) - (g.bs+(i* sz+off))=j - off:=by omega
          rw[e1]at hq
          exact cr2 (j - off) y q hj hq
         .rw[if_neg c2]at hj
          rw[if_neg (by omega)]at hq
          exact k8 i e j y q hee hj hq
       .rw[s4 i hii]at hi
        have hjl:j<sz:=by rw[←k7 i e hi];exact (gEs.1 hj).1
        rw[hget]at hq
        have hap:=ziw (idx:=idx) hjl hii
        rw[Nat.add_mul,Nat.one_mul]at hap
        have e1:c[g.bs+(i* sz+j)]?=some q:=by
         rcases hap with hap|hap
         .rw[if_pos (by omega)]at hq;exact hq
         .rw[if_neg (by omega),if_neg (by omega)]at hq;exact hq
        exact k8 i e j y q hi hj e1)
      refine⟨(),_,_,_,?_,.und _,r1,r2⟩
      unfold Instr.storeAt Instr.sureAddr
      simp only[pure_bind]
      unfold storeVar
      rw[zl (za7 hn w)]
      rw[if_neg (by rw[cr1,hn0];simp)]
      rw[k3]
      exact hst
   .cases he
  .cases he
 .cases he
/-! ### Slice literals -/
def ER (w:World) (M:Mut) (R:Res) (sz:Nat) (es:List AV) (c:Array Value):Prop:=
 c.size=es.length* sz∧(∀(i:Nat) (e:AV),es[i]?=some e→(AV.cells e).length=sz)∧
  ∀(i:Nat) (e:AV) (j:Nat) (x:AV) (u:Value),es[i]?=some e→(AV.cells e)[j]?=some x→c[i* sz+j]?=some u→VR w M R x u
theorem ER.step {sz:Nat} {es:List AV} {c:Array Value} (h:ER w M R sz es c) {idx:Nat} {x:AV} {v:Value} (hi:idx<es.length) (hx:VR w M R x v) (hok:x.ok=true) (hl:x.cells.length=sz):
  ER w M R sz (es.set idx x) (v.cells.zipIdx.foldl (fun cs (p:Value×Nat)=>cs.setIfInBounds (idx* sz+p.2) p.1) c):=by
 obtain⟨h1,h2,h3⟩:=h
 obtain⟨cr1,cr2⟩:=hx.cr hok
 have hcap:(idx+1)* sz≤c.size:=by rw[h1];exact Nat.mul_le_mul_right _ (by omega)
 rw[Nat.add_mul,Nat.one_mul]at hcap
 rw[←Array.foldl_toList,Array.toList_zipIdx,zfC]
 have e1:v.cells.toList.take (c.size - (idx* sz+0))=v.cells.toList:=List.take_of_length_le (by simp;omega)
 rw[e1]
 simp only[Nat.add_zero]
 have hvl:v.cells.toList.length=sz:=by simp;omega
 refine⟨by simp;omega,?_,?_⟩
 .intro i e he
  by_cases hii:i=idx
  .subst hii;rw[gEt hi]at he;cases he;exact hl
  .rw[gEn (fun e=>hii e.symm)]at he;exact h2 i e he
 .intro i e j y u he hj hu
  rw[List.getElem?_toArray,zfj _ _ _ _ (by rw[hvl];simp;omega),hvl]at hu
  simp only[Array.getElem?_toList]at hu
  by_cases hii:i=idx
  .subst hii
   rw[gEt hi]at he;cases he
   have hjl:j<sz:=by rw[←hl];exact (gEs.1 hj).1
   rw[if_neg (by omega),if_pos (by omega)]at hu
   have e2:i* sz+j - i* sz=j:=by omega
   rw[e2]at hu
   exact cr2 j y u hj hu
  .rw[gEn (fun e=>hii e.symm)]at he
   have hjl:j<sz:=by rw[←h2 i e he];exact (gEs.1 hj).1
   have hap:=ziw (idx:=idx) hjl hii
   rw[Nat.add_mul,Nat.one_mul]at hap
   have e3:c[i* sz+j]?=some u:=by
    rcases hap with hap|hap
    .rw[if_pos (by omega)]at hu;exact hu
    .rw[if_neg (by omega),if_neg (by omega)]at hu;exact hu
   exact h3 i e j y u he hj e3
theorem zi3 {sz:Nat}:∀(ps:List Nat) (es es':List AV) (c:Array Value) (xs:List AV) (vs:List Value),ER w M R sz es c→VRs w M R xs vs→ps.length=vs.length→bslE sz es ps xs=some es'→
  ∃c',Instr.fill (fun i=>some (i* sz,sz)) c (ps.zip vs)=some c'∧ER w M R sz es' c'
 | [],es,es',c,xs,vs,hc,hv,hl,he=>by
  have hvs:vs=[]:=by simpa using hl.symm
  subst hvs
  have hxs:xs=[]:=by have:=hv.1;simpa using this.symm
  subst hxs
  simp only[bslE,oSi]at he
  subst he
  exact⟨c,rfl,hc⟩
 |i::ps,es,es',c,xs,vs,hc,hv,hl,he=>by
  cases xs with
  |nil=>simp[bslE]at he
  |cons x xs=>
   obtain⟨v,vs,rfl,hxv,hrest⟩:=hv.inv_cons
   simp only[bslE]at he
   split at he
   .rename_i hcond
    obtain⟨h1,h2,h3⟩:=hcond
    have hcs:v.cells.size=sz:=by rw[(hxv.cr h3).1,h2]
    have hcap:(i+1)* sz≤c.size:=by rw[hc.1];exact Nat.mul_le_mul_right _ (by omega)
    rw[Nat.add_mul,Nat.one_mul]at hcap
    obtain⟨c',e1,e2⟩:=zi3 ps _ es' _ xs vs (hc.step h1 hxv h3 h2) hrest (by simpa using hl) he
    refine⟨c',?_,e2⟩
    simp only[List.zip_cons_cons,Instr.fill]
    rw[if_neg (by simp[hcs];omega)]
    exact e1
   .cases he
theorem zlN (v:Value):(ofV1 v).cells=[ofV1 v]:=by unfold ofV1;split<;>rfl
theorem zib (v:Value):CR w M R (ofV v).cells v.cells:=by
 by_cases h:∃cs,v= .agg cs
 .obtain⟨cs,rfl⟩:=h
  have:=VR.ofV w M R (.agg cs)
  cases this with
  |agg R _ _ hs hv=>exact⟨hs,hv⟩
 .have h1:(ofV v).cells=[ofV1 v]∧v.cells=#[v]:=by
   cases v with
   |agg cs=>exact absurd ⟨cs,rfl⟩ h
   |_=>refine⟨?_,rfl⟩;unfold ofV;exact zlN _
  rw[h1.1,h1.2]
  refine⟨rfl,?_⟩
  intro j x u hj hu
  cases j with
  |zero=>simp at hj hu;subst hj;subst hu;exact VR.ofV1 _ _ _ _
  |succ j=>simp at hj
theorem zaI {t:TypeId} {zv:Value} (hz:zdo P t=some zv) (w:World):(zeroValue t).run P w= .ok zv w:=by
 unfold zdo at hz
 cases hi:P.info? t with
 |none=>simp[hi]at hz
 |some i=>
  simp only[hi,Option.bind_some]at hz
  unfold zeroValue
  rw[zl (run_typeInfo (P:=P) (w:=w) hi)]
  simp[hz]
def zkH (M:Mut) (n:Nat):Mut:=fun b o=>M b o∧b<n
theorem WR.allocImm (h:WR C K w M R H) (o:Obj):WR C K (w.alloc o) (zkH M w.heap.size) R H∧Evol R M w R (zkH M w.heap.size) (w.alloc o):=by
 have he:Evol R M w R (zkH M w.heap.size) (w.alloc o):=⟨by show w.heap.size≤(w.heap.push _).size;simp,fun b o' v hc _=>by rw[zY (Below.heap_alloc _ _ _ (zbq hc))];exact hc,fun _ _ _ h=>h,fun _ _ _ hm=>hm.1,fun b es cl h1 _=>(Below.heap_alloc _ _ _ (aEs.1 h1).1).trans h1,fun b im c0 s0 d0 h1 _=>(Below.heap_alloc _ _ _ (aEs.1 h1).1).trans h1⟩
 refine⟨⟨⟨fun id B hb=>(h.heap.blk id B hb).keep he (fun _=>rfl) (fun g hg=>?_) (fun g hg o hm=>⟨hm,?_⟩),h.heap.dom,h.heap.inj⟩,fun p hp=>(h.pins p hp).evol he,h.below.trans ((Below.refl _ w).alloc h.le _),h.base,fun b o hlt=>⟨fun hm=>(h.sub b o hlt).1 hm.1,fun hm=>⟨(h.sub b o hlt).2 hm,Nat.lt_of_lt_of_le hlt h.le⟩⟩,?_,fun r hr=>h.mark_alloc _ hr,h.nodup⟩,he⟩
 .obtain⟨g',h1,h2,_⟩:=h.heap.place hb hg
  rw[hg]at h1;cases h1
  exact Below.heap_alloc _ _ _ h2
 .obtain⟨g',h1,h2,_⟩:=h.heap.place hb hg
  rw[hg]at h1;cases h1
  exact h2
 .have:=h.le
  show K.base≤(w.heap.push _).size
  simp;omega
theorem VR.still {x:AV} {u:Value} {R':Res} (h:VR w M R x u) (hs:x.still=true):VR w M R' x u:=by
 cases h with
 |bool=>exact .bool _ _
 |int=>exact .int _ _ _
 |str=>exact .str _ _
 |nilp=>exact .nilp _
 |nilf=>exact .nilf _
 |unk=>exact .unk _ _ _
 |nili=>exact .nili _
 |nilm=>exact .nilm _
 |imap R ks vs b es cl hb hm hz hl hbn hnd hk hv=>exact .imap _ ks vs b es cl hb hm hz hl hbn hnd hk hv
 |eptr R cs b o u hc hv=>exact .eptr _ cs b o u hc hv
 |isl R nl sz es a cap b o u hnl hn hcap ha hsz hc hv=>exact .isl _ nl sz es a cap b o u hnl hn hcap ha hsz hc hv
 |_=>cases hs
theorem zxt (h:WR C K w M R H) {t e:TypeId} {imm:Bool} {sz len:Nat} {zv:Value} {ps:List Nat} {xs:List AV} {vs:List Value} {z:AV} {H':Heap} (hv:VRs w M R xs vs) (he:ex H (.bsl imm sz len (ofV zv) ps) xs=some (z,H'))
  (ht:P.underlying t=some (.slice e)) (hs:szT P e=some sz) (hz:zdo P e=some zv) (hl:ps.length=vs.length):Eff C K P w M R z H' id (Instr.buildSlice t len (ps.zip vs).toArray):=by
 simp only[ex]at he
 split at he
 .rename_i hc
  obtain⟨hzl,hbig⟩:=hc
  cases hes:bslE sz (List.replicate len (ofV zv)) ps xs with
  |none=>cases imm<;>simp[hes]at he
  |some es=>
   obtain⟨zc1,zc2⟩:=zib (w:=w) (M:=M) (R:=R) zv
   have hz0:zv.cells.size=sz:=by omega
   let zero:Array Value:=if len* sz=0 then #[] else zv.cells
   let c0:Array Value:=(Array.range (len* sz)).map (zero[· % zero.size]!)
   have er0:ER w M R sz (List.replicate len (ofV zv)) c0:=by
    refine⟨by simp[c0],?_,?_⟩
    .intro i e he
     rw[List.getElem?_replicate]at he
     split at he
     .cases he;omega
     .cases he
    .intro i e j x u he hj hu
     rw[List.getElem?_replicate]at he
     split at he
     .rename_i hil
      cases he
      have hjl:j<sz:=by rw[←hzl];exact (gEs.1 hj).1
      have hk:i* sz+j<len* sz:=by
       have:=Nat.mul_le_mul_right sz (show i+1≤len by omega)
       rw[Nat.add_mul]at this;omega
      have hzero:zero=zv.cells:=by simp only[zero];rw[if_neg (by omega)]
      have hmod:(i* sz+j) % zv.cells.size=j:=by rw[hz0,Nat.mul_comm,Nat.mul_add_mod,Nat.mod_eq_of_lt hjl]
      simp only[c0,hzero]at hu
      rw[Array.getElem?_map,Array.getElem?_range,if_pos hk]at hu
      simp only[oMs,oSi,hmod]at hu
      subst hu
      refine zc2 j x _ hj ?_
      rw[getElem!_pos _ _ (by omega),Array.getElem?_eq_getElem]
     .cases he
   obtain⟨c',f1,f2,f3,f4⟩:=zi3 ps _ es c0 xs vs er0 hv hl hes
   have hlen:es.length=len:=by
    have:∀(ps:List Nat) (es es':List AV) (xs:List AV),bslE sz es ps xs=some es'→es'.length=es.length:=by
     intro ps
     induction ps with
     |nil=>intro es es' xs h;cases xs<;>simp[bslE]at h;rw[h]
     |cons i ps ih=>
      intro es es' xs h
      cases xs with
      |nil=>simp[bslE]at h
      |cons x xs=>
       simp only[bslE]at h
       split at h
       .rw[ih _ _ _ h];simp
       .cases h
    rw[this ps _ es xs hes];simp
   have hrun:(Instr.buildSlice t len (ps.zip vs).toArray).run P w= .ok (.slice (some ⟨w.heap.size,0,none⟩) len len) (w.alloc (.cells c' e)):=by
    unfold Instr.buildSlice
    rw[zl (run_underlying ht w)]
    simp only
    rw[zl (za7 hs w)]
    rw[if_neg (by omega)]
    have hfin:(match Instr.fill (fun i=>some (i* sz,sz)) c0 (ps.zip vs) with|some cells=>(do pure (Value.slice (some (←newRow e cells)) len len))|_=>stuck "buildSlice: a part of the wrong size":Sem Value).run P w=
      .ok (.slice (some ⟨w.heap.size,0,none⟩) len len) (w.alloc (.cells c' e)):=by
     rw[f1]
     rfl
    by_cases h0:len* sz=0
    .rw[if_pos h0]
     have e0:zero=#[]:=by simp only[zero];rw[if_pos h0]
     simp only[c0,e0]at hfin
     exact hfin
    .rw[if_neg h0]
     have e0:zero=zv.cells:=by simp only[zero];rw[if_neg h0]
     simp only[bind_assoc,pure_bind]
     rw[zl (zaI hz w)]
     simp only[c0,e0]at hfin
     exact hfin
   cases imm with
   |false=>
    simp only[bFt,if_false,hes,oMs,oSi,pMi]at he
    obtain⟨rfl,rfl⟩:=he
    obtain⟨g1,g2⟩:=h.new c' e es sz len (by rw[f2,hlen]) (by omega) f3 f4
    refine⟨.slice (some ⟨w.heap.size,0,none⟩) len len,_,_,_,hrun,?_,g1,g2⟩
    have key:=VR.osl (w:=w.alloc (.cells c' e)) (M:=zaj M w.heap.size) (zP R H.length ⟨sz,w.heap.size,len,0⟩) H.length 0 0 len ⟨sz,w.heap.size,len,0⟩ ⟨w.heap.size,0,none⟩ (by simp[zP]) (by simp) (by simp)
    simpa using key
   |true=>
    simp only[if_true,hes,Option.bind_some]at he
    split at he
    .rename_i hst
     cases he
     obtain⟨g1,g2⟩:=h.allocImm (.cells c' e)
     refine⟨.slice (some ⟨w.heap.size,0,none⟩) len len,_,_,_,hrun,?_,g1,g2⟩
     have key:=VR.isl (w:=w.alloc (.cells c' e)) (M:=zkH M w.heap.size) R (some false) sz es (some ⟨w.heap.size,0,none⟩) len w.heap.size 0 (fun i j=>c'.getD (i* sz+j) undef) (by simp) (by simp) (by omega) (fun _=>rfl) f3 ?_ ?_
     .rw[hlen]at key;exact key
     .intro i e' j x hi hj
      have hjl:j<sz:=by rw[←f3 i e' hi];exact (gEs.1 hj).1
      have hil:=(gEs.1 hi).1
      have hlt:i* sz+j<c'.size:=by
       have:=Nat.mul_le_mul_right sz (show i+1≤es.length by omega)
       rw[f2]
       rw[Nat.add_mul]at this;omega
      refine⟨?_,fun hm=>by have:=hm.2;omega⟩
      have hh:(w.alloc (.cells c' e)).heap[w.heap.size]?=some (.cells c' e (0,0)):=zW w _
      have e9:c'.getD (i* sz+j) undef=c'[i* sz+j]:=by simp[Array.getD,hlt]
      rw[e9,Nat.zero_add]
      unfold World.cell?
      rw[hh]
      exact Array.getElem?_eq_getElem hlt
     .intro i e' j x hi hj
      have hjl:j<sz:=by rw[←f3 i e' hi];exact (gEs.1 hj).1
      have hil:=(gEs.1 hi).1
      have hlt:i* sz+j<c'.size:=by
       have:=Nat.mul_le_mul_right sz (show i+1≤es.length by omega)
       rw[f2]
       rw[Nat.add_mul]at this;omega
      have hv1:=f4 i e' j x c'[i* sz+j] hi hj (Array.getElem?_eq_getElem hlt)
      have e9:c'.getD (i* sz+j) undef=c'[i* sz+j]:=by simp[Array.getD,hlt]
      rw[e9]
      exact (hv1.evol g2).still (lAt.1 (lAt.1 hst e' (lMg hi)) x (lMg hj))
    .cases he
 .cases he
/-! ### append -/
theorem zgd (hh:HR C w M R H) {sz:Nat} {y:AV} {v:Value} {ys:List AV} (hy:VR w M R y v) (he:zaH H sz y=some ys):
  ∃a cap,v= .slice a ys.length cap∧(∀(i:Nat) (e:AV),ys[i]?=some e→(AV.cells e).length=sz)∧
   (ys≠[]→∃b o,a=some ⟨b,o,none⟩∧∀(i:Nat) (e:AV) (j:Nat) (x:AV),ys[i]?=some e→(AV.cells e)[j]?=some x→∃u,w.cell? ⟨b,o+(i* sz+j),none⟩=some u∧VR w M R x u):=by
 unfold zaH at he
 split at he
 .rename_i nl s es
  split at he
  .rename_i hs
   cases he
   cases hy with
   |isl R nl _ es a cap b o u hnl hna hcap ha hsz hc hv=>
    refine⟨a,cap,rfl,?_,?_⟩
    .intro i e hi
     rcases hs with hs|hs
     .rw[←hs];exact hsz i e hi
     .subst hs;simp at hi
    .intro hne
     have hs':s=sz:=hs.resolve_right hne
     subst hs'
     exact⟨b,o,ha hne,fun i e j x hi hj=>⟨u i j,(hc i e j x hi hj).1,(hv i e j x hi hj).noRes_any rfl⟩⟩
  .cases he
 .rename_i id ver off len
  split at he
  .rename_i ver' s sh es hb
   split at he
   .rename_i hc
    obtain⟨h1,h2,h3⟩:=hc
    cases he
    subst h1;subst h2
    obtain⟨g,c,t,k1,k2,k3,k4,k5,k6,k7,k8,k9,k10⟩:=hh.blk id _ hb
    cases hy with
    |osl R _ _ _ _ g' aa hg' hle haa=>
     rw[k1]at hg';cases hg'
     have hlen:((es.drop off).take len).length=len:=by simp;omega
     refine⟨_,_,by rw[hlen],?_,?_⟩
     .intro i e hi
      rw[List.getElem?_take,List.getElem?_drop]at hi
      split at hi
      .exact k7 _ e hi
      .cases hi
     .intro hne
      have hpos:0<len:=by rw[←hlen];exact List.length_pos_iff.2 hne
      rw[haa (by omega)]
      refine⟨g.blk,g.bs+off* g.sz,rfl,?_⟩
      intro i e j x hi hj
      rw[List.getElem?_take,List.getElem?_drop]at hi
      split at hi
      .have hidx:=(gEs.1 hi).1
       have hjl:j<s:=by rw[←k7 _ e hi];exact (gEs.1 hj).1
       have hlt:g.bs+((off+i)* s+j)<c.size:=by
        have:=Nat.mul_le_mul_right s (show off+i+1≤g.cap by omega)
        rw[k5]
        rw[Nat.add_mul (off+i)]at this
        omega
       have hcj:=Array.getElem?_eq_getElem hlt
       refine⟨c[g.bs+((off+i)* s+j)],?_,k8 _ e j x _ hi hj hcj⟩
       have e1:g.bs+off* g.sz+(i* s+j)=g.bs+((off+i)* s+j):=by rw[k3,Nat.add_mul];omega
       rw[e1]
       simp[World.cell?,k4,hcj]
      .cases hi
   .cases he
  .cases he
 .cases he
def zbp (w:World) (b o n:Nat):List Value:=(List.range n).map fun k=>(w.cell? ⟨b,o+k,none⟩).getD undef
theorem zgx {k n sz:Nat} (h:k<n* sz):k/sz<n∧k % sz<sz∧k/sz* sz+k % sz=k:=by
 have hsz:0<sz:=by
  rcases Nat.eq_zero_or_pos sz with h0|h0
  .subst h0;simp at h
  .exact h0
 refine⟨Nat.div_lt_of_lt_mul (by rwa [Nat.mul_comm]),Nat.mod_lt _ hsz,?_⟩
 have:=Nat.div_add_mod k sz
 rwa [Nat.mul_comm]at this
theorem zcI {b o sz:Nat} {ys:List AV} (hs:∀(i:Nat) (e:AV),ys[i]?=some e→(AV.cells e).length=sz)
  (hc:∀(i:Nat) (e:AV) (j:Nat) (x:AV),ys[i]?=some e→(AV.cells e)[j]?=some x→∃u,w.cell? ⟨b,o+(i* sz+j),none⟩=some u∧VR w M R x u):
  (zbp w b o (ys.length* sz)).length=ys.length* sz∧(∀(k:Nat) (v:Value),(zbp w b o (ys.length* sz))[k]?=some v→w.cell? ((⟨b,o,none⟩:Addr).add k)=some v)∧
  (∀(i:Nat) (e:AV) (j:Nat) (x:AV) (u:Value),ys[i]?=some e→(AV.cells e)[j]?=some x→(zbp w b o (ys.length* sz))[i* sz+j]?=some u→VR w M R x u)∧
  ((∀e∈ys,(AV.cells e).all AV.cell=true)→∀v∈zbp w b o (ys.length* sz),v.oneCell'=true):=by
 have key:∀k,k<ys.length* sz→∃x u,(ys[k/sz]?.bind fun e=>(AV.cells e)[k % sz]?)=some x∧w.cell? ⟨b,o+k,none⟩=some u∧VR w M R x u:=by
  intro k hk
  obtain⟨h1,h2,h3⟩:=zgx hk
  have he:ys[k/sz]?=some ys[k/sz]:=gEg h1
  have hl:=hs _ _ he
  have hx:(AV.cells ys[k/sz])[k % sz]?=some (AV.cells ys[k/sz])[k % sz]:=gEg (by omega)
  obtain⟨u,hu,hv⟩:=hc _ _ _ _ he hx
  rw[h3]at hu
  exact⟨_,u,by rw[he];exact hx,hu,hv⟩
 refine⟨by simp[zbp],?_,?_,?_⟩
 .intro k v hk
  unfold zbp at hk
  rw[gEm]at hk
  by_cases hlt:k<ys.length* sz
  .rw[List.getElem?_range hlt]at hk
   obtain⟨x,u,_,hu,_⟩:=key k hlt
   simp only[oMs,oSi,hu,Option.getD_some]at hk
   rw[zbF,hu,hk]
  .rw[List.getElem?_eq_none (by simp;omega)]at hk;cases hk
 .intro i e j x u hi hj hu
  have hjl:j<sz:=by rw[←hs i e hi];exact (gEs.1 hj).1
  have hil:=(gEs.1 hi).1
  have hlt:i* sz+j<ys.length* sz:=by
   have:=Nat.mul_le_mul_right sz (show i+1≤ys.length by omega)
   rw[Nat.add_mul]at this;omega
  obtain⟨u',hu',hv'⟩:=hc i e j x hi hj
  unfold zbp at hu
  rw[gEm,List.getElem?_range hlt]at hu
  simp only[oMs,oSi,hu',Option.getD_some]at hu
  rw[←hu];exact hv'
 .intro hall v hv
  unfold zbp at hv
  rw[List.mem_map]at hv
  obtain⟨k,hk,rfl⟩:=hv
  obtain⟨x,u,hx,hu,hr⟩:=key k (by simpa using hk)
  rw[hu,Option.getD_some]
  cases he:ys[k/sz]? with
  |none=>simp[he]at hx
  |some e=>
   simp only[he,Option.bind_some]at hx
   exact zln hr (lAt.1 (hall e (lMg he)) x (lMg hx))
theorem zfh {t e ty:TypeId} {i:TypeInfo} (ht:P.underlying t=some (.slice e)) (hi:P.info? e=some i) (a b:Option Addr) (l c c':Nat) (hl:l≤c):
  (Builtin.append_ #[t,t] ty #[.slice a l c,.slice b 0 c']).run P w= .ok (.slice a l c) w:=by
 have hf:(Builtin.firstCells i.size 0 (.slice b 0 c')).run P w= .ok #[] w:=by
  cases b with
  |none=>exact run_firstCells_none w _ _ _ _
  |some b=>
   unfold Builtin.firstCells
   rw[Nat.zero_mul]
   rfl
 cases a with
 |none=>simp[Builtin.append_,run_underlying ht,sizeOf,typeInfo,hi,Builtin.lenOf,hl,hf]
 |some a=>simp[Builtin.append_,run_underlying ht,sizeOf,typeInfo,hi,Builtin.lenOf,hl,hf,storeCells]
structure zx3 (P:Program) (t e:TypeId) (sz:Nat) (i:TypeInfo) (zv:Value):Prop where
 ht:P.underlying t=some (.slice e)
 hi:P.info? e=some i
 hs:i.size=sz
 hz:i.zero=some zv
 hzs:zv.cells.size=sz
 hb:i.bytes≤65536
theorem zeJ {t ty e t':TypeId} {i:TypeInfo} (ht:P.underlying t=some (.slice e)) (hi:P.info? e=some i)
  (g o sLen sCap:Nat) (cur:Array Value) (hg:w.heap[g]?=some (.cells cur t' (0,0)))
  (a:Addr) (m c:Nat) (news:List Value) (hl:news.length=m* i.size) (hnews:∀j u,news[j]?=some u→w.cell? (a.add j)=some u) (h1:∀u∈news,u.oneCell'=true)
  (hroom:sLen+m≤sCap) (hfit:o+sLen* i.size+news.length≤cur.size):
  (Builtin.append_ #[t,t] ty #[.slice (some ⟨g,o,none⟩) sLen sCap,.slice (some a) m c]).run P w=
   .ok (.slice (some ⟨g,o,none⟩) (sLen+m) sCap) (w.setRow g (cur.toList.take (o+sLen* i.size)++news++cur.toList.drop (o+sLen* i.size+news.length)).toArray):=by
 have hf:=run_firstCells_some (P:=P) w i.size m a m c news hl hnews
 have hst:=run_storeCells_at P g (o+sLen* i.size) t' news 0 cur w hg (by simpa using hfit) h1
 simp only[Nat.add_zero]at hst
 simp[Builtin.append_,run_underlying ht,sizeOf,typeInfo,hi,Builtin.lenOf,hroom,hf,Addr.add_lit,hst]
theorem WR.trunc (h:WR C K w M R H) {id ver sz:Nat} {es:List AV} (hb:H[id]?=some (.arr ver sz false es)) (n:Nat):WR C K w M R (H.set id (.arr ver sz false (es.take n))):=by
 have hid:id<H.length:=(gEs.1 hb).1
 have old:∀(k:Nat) (B:Blk),(H.set id (.arr ver sz false (es.take n)))[k]?=some B→∃B':Blk,H[k]?=some B'∧B'.ver=B.ver:=by
  intro k B hk
  by_cases hkk:k=id
  .subst hkk
   rw[gEt hid]at hk
   cases hk
   exact⟨_,hb,rfl⟩
  .rw[gEn (fun e=>hkk e.symm)]at hk
   exact⟨B,hk,rfl⟩
 refine⟨⟨fun k B hk=>?_,fun i v g hi=>?_,fun i j Bi Bj gi gj hi hj hgi hgj hbb=>?_⟩,h.pins,h.below,h.base,h.sub,h.le,h.marks,h.nodup⟩
 .by_cases hkk:k=id
  .subst hkk
   rw[gEt hid]at hk
   cases hk
   obtain⟨g,c,t,h1,h2,h3,h4,h5,h6,h7,h8,h9,h10⟩:=h.heap.blk k _ hb
   have hin:∀(i:Nat) (e:AV),(es.take n)[i]?=some e→es[i]?=some e:=by
    intro i e hi
    rw[List.getElem?_take]at hi
    split at hi
    .exact hi
    .cases hi
   exact⟨g,c,t,h1,h2,h3,h4,h5,by simp;omega,fun i e hi=>h7 i e (hin i e hi),fun i e j x u hi=>h8 i e j x u (hin i e hi),h9,fun o _=>h9 rfl o⟩
  .rw[gEn (fun e=>hkk e.symm)]at hk
   exact h.heap.blk k B hk
 .rw[List.length_set];exact h.heap.dom i v g hi
 .obtain⟨Bi',a1,a2⟩:=old i Bi hi
  obtain⟨Bj',b1,b2⟩:=old j Bj hj
  exact h.heap.inj i j Bi' Bj' gi gj a1 b1 (by rw[a2];exact hgi) (by rw[b2];exact hgj) hbb
theorem WR.truncH (h:WR C K w M R H) (x:AV):WR C K w M R (truncH H x):=by
 unfold Go.Proofs.YtbddckhdbnmamaaGreat.truncH
 split
 .split
  .split
   .exact h.trunc (by assumption) _
   .exact h
  .exact h
 .exact h
structure zx4 (P:Program) (w:World) (t t2 ty e:TypeId) (i:TypeInfo) (zv y:Value) (n:Nat) (V:List Value):Prop where
 zero:n=0→∀(a:Option Addr) (l c:Nat),l≤c→(Builtin.append_ #[t,t2] ty #[.slice a l c,y]).run P w= .ok (.slice a l c) w
 nil:0<n→(n:Int)≤9223372036854775807→n* i.bytes≤281474976710656→(Builtin.append_ #[t,t2] ty #[.slice none 0 0,y]).run P w=
   .ok (.slice (some ⟨w.heap.size,0,none⟩) n (grownCap w n 0 e)) (w.drew.alloc (.cells (V.toArray++Builtin.zeroCells zv.cells (grownCap w n 0 e - n)) e))
 room:∀(g o sLen sCap:Nat) (cur:Array Value) (t':TypeId),0<n→w.heap[g]?=some (.cells cur t' (0,0))→sLen+n≤sCap→o+sLen* i.size+V.length≤cur.size→
  (Builtin.append_ #[t,t2] ty #[.slice (some ⟨g,o,none⟩) sLen sCap,y]).run P w=
   .ok (.slice (some ⟨g,o,none⟩) (sLen+n) sCap) (w.setRow g (cur.toList.take (o+sLen* i.size)++V++cur.toList.drop (o+sLen* i.size+V.length)).toArray)
 grow:∀(b:Addr) (sLen sCap:Nat) (olds:List Value),olds.length=sLen* i.size→(∀(j:Nat) (v:Value),olds[j]?=some v→w.cell? (b.add j)=some v)→
  0<n→sCap<sLen+n→((sLen+n:Nat):Int)≤9223372036854775807→Builtin.nextslicecap (sLen+n) sCap* i.bytes≤281474976710656→
  (Builtin.append_ #[t,t2] ty #[.slice (some b) sLen sCap,y]).run P w=
   .ok (.slice (some ⟨w.heap.size,0,none⟩) (sLen+n) (grownCap w (sLen+n) sCap e))
    (w.drew.alloc (.cells (olds.toArray++V.toArray++Builtin.zeroCells zv.cells (grownCap w (sLen+n) sCap e - (sLen+n))) e))
theorem zo2 (h:WR C K w M R H) {t e ty:TypeId} {sz:Nat} {i:TypeInfo} {zv:Value} (hE:zx3 P t e sz i zv) {x z:AV} {u:Value} {ys:List AV} {t2:TypeId} {y:Value} {H':Heap} (hx:VR w M R x u)
  (hsy:∀(i:Nat) (e:AV),ys[i]?=some e→(AV.cells e).length=sz) {V:List Value} (s1:V.length=ys.length* sz)
  (s3:∀(i:Nat) (e:AV) (j:Nat) (x:AV) (u:Value),ys[i]?=some e→(AV.cells e)[j]?=some x→V[i* sz+j]?=some u→VR w M R x u)
  (hS:zx4 P w t t2 ty e i zv y ys.length V) (he:zb3 H sz x ys=some (z,H')):
  Eff C K P w M R z H' id (Builtin.append_ #[t,t2] ty #[u,y]):=by
 unfold zb3 at he
 split at he
 .rename_i nl sx
  cases hx with
  |isl R _ _ _ a' cap b o uu hnl hna hcap ha hsz hc hv=>
   have hnone:a'=none:=by have:=hnl true rfl;simpa using this
   subst hnone
   obtain⟨_,rfl⟩:=hna rfl
   split at he
   .cases he
    refine⟨_,w,M,R,hS.zero rfl _ _ _ (Nat.le_refl _),?_,h,Evol.refl _ _ _⟩
    exact .isl _ _ _ _ none 0 b o uu hnl hna hcap ha hsz hc hv
   .rename_i hne
    split at he
    .rename_i hroom
     cases he
     have hne':ys≠[]:=by intro h0;exact hne h0
     have hpos:0<ys.length:=List.length_pos_iff.2 hne'
     unfold zaA at hroom
     have h48:ys.length* i.bytes≤281474976710656:=by
      have:=Nat.mul_le_mul hroom hE.hb;omega
     have hrun:=hS.nil hpos (by omega) h48
     obtain⟨d1,d2⟩:=h.same (w':=w.drew) rfl rfl rfl rfl
     have hge:=grownCap_ge w ys.length 0 e
     obtain⟨g1,g2⟩:=d1.new (V.toArray++Builtin.zeroCells zv.cells (grownCap w ys.length 0 e - ys.length)) e ys sz (grownCap w ys.length 0 e)
      (by simp only[Array.size_append,List.size_toArray,size_zeroCells,hE.hzs,s1,←Nat.add_mul];congr 1;omega) hge hsy (fun i e j x u hi hj hu=>by
       have hjl:j<sz:=by rw[←hsy i e hi];exact (gEs.1 hj).1
       have hil:=(gEs.1 hi).1
       have hlt:i* sz+j<ys.length* sz:=by
        have:=Nat.mul_le_mul_right sz (show i+1≤ys.length by omega)
        rw[Nat.add_mul]at this;omega
       rw[Array.getElem?_append_left (by simp[s1];exact hlt),List.getElem?_toArray]at hu
       exact (s3 i e j x u hi hj hu).evol d2)
     refine⟨_,_,_,_,hrun,?_,g1,d2.trans g2⟩
     have key:=VR.osl (w:=w.drew.alloc (.cells (V.toArray++Builtin.zeroCells zv.cells (grownCap w ys.length 0 e - ys.length)) e)) (M:=zaj M w.drew.heap.size) (zP R H.length ⟨sz,w.drew.heap.size,grownCap w ys.length 0 e,0⟩) H.length 0 0 ys.length ⟨sz,w.drew.heap.size,grownCap w ys.length 0 e,0⟩ ⟨w.drew.heap.size,0,none⟩ (by simp[zP]) (by simpa using hge) (by simp)
     simpa using key
    .cases he
 .rename_i id ver off len
  split at he
  .rename_i ver' s sh es hb
   split at he
   .rename_i hcond
    obtain⟨e1,e2,e3⟩:=hcond
    subst e1;subst e2
    obtain⟨g,c,t',k1,k2,k3,k4,k5,k6,k7,k8,k9,k10⟩:=h.heap.blk id _ hb
    cases hx with
    |osl R _ _ _ _ g' aa hg' hle haa=>
     rw[k1]at hg';cases hg'
     split at he
     .cases he
      exact⟨_,w,M,R,hS.zero rfl _ _ _ (by omega),.osl _ _ _ _ _ g aa k1 hle haa,h,Evol.refl _ _ _⟩
     .rename_i hne
      split at he
      .rename_i hroom
       cases he
       have hne':ys≠[]:=by intro h0;exact hne h0
       have hpos:0<ys.length:=List.length_pos_iff.2 hne'
       unfold zaA at hroom
       generalize hds:es.drop off=ds at *
       have hdl:ds.length=len:=by rw[←hds,List.length_drop];omega
       have hdg:∀i:Nat,ds[i]?=es[off+i]?:=by intro i;rw[←hds,List.getElem?_drop]
       have hlen':(ds++ys).length=len+ys.length:=by simp[hdl]
       have hdel:∀(i:Nat) (e:AV),ds[i]?=some e→(AV.cells e).length=s:=by
        intro i e hi;rw[hdg]at hi;exact k7 _ e hi
       have helems:∀(i:Nat) (e:AV),(ds++ys)[i]?=some e→(AV.cells e).length=s:=by
        intro i e hi
        rcases Nat.lt_or_ge i ds.length with h1|h1
        .rw[gEa h1]at hi;exact hdel i e hi
        .rw[gEr h1]at hi;exact hsy _ e hi
       have hel:es.length* s=off* s+len* s:=by rw[←Nat.add_mul,e3]
       by_cases hfit:off+len+ys.length≤g.cap
       .
        have hmul:off* s+len* s+ys.length* s≤g.cap* s:=by
         have:=Nat.mul_le_mul_right s hfit;rw[Nat.add_mul,Nat.add_mul]at this;exact this
        have hcs:g.bs+off* s+len* s+V.length≤c.size:=by
         rw[s1,k5];omega
        have hrun:=hS.room g.blk (g.bs+off* s) len (g.cap - off) c t' hpos k4 (by omega) (by rw[hE.hs];exact hcs)
        rw[hE.hs]at hrun
        let c':Array Value:=(c.toList.take (g.bs+off* s+len* s)++V++c.toList.drop (g.bs+off* s+len* s+V.length)).toArray
        have hget:∀k,c'[k]?=if k<g.bs+off* s+len* s then c[k]? else if k<g.bs+off* s+len* s+ys.length* s then V[k - (g.bs+off* s+len* s)]? else c[k]?:=by
         intro k
         show ((c.toList.take (g.bs+off* s+len* s)++V++c.toList.drop (g.bs+off* s+len* s+V.length)).toArray)[k]?=_
         rw[List.getElem?_toArray,zfj _ _ _ _ (by simpa using hcs),s1]
         simp only[Array.getElem?_toList]
        have hcs':c'.size=c.size:=by
         show ((c.toList.take (g.bs+off* s+len* s)++V++c.toList.drop (g.bs+off* s+len* s+V.length)).toArray).size=_
         simp[List.size_toArray];omega
        have hcapm:g.cap* s=off* s+(g.cap - off)* s:=by rw[←Nat.add_mul];congr 1;omega
        obtain⟨r1,r2⟩:=h.set (c':=c') (es':=ds++ys) (ver':=ver'+ys.length) (g1:=⟨s,g.blk,g.cap - off,g.bs+off* s⟩) hb k1 k4 hcs' (fun o y ho hm=>by
         rw[hget,if_pos]
         .exact ho
         .rcases Nat.lt_or_ge o (g.bs+off* s+len* s) with h1|h1
          .exact h1
          .exact absurd (k10 o (by omega)) hm) (.inl (by omega)) rfl rfl (by show c.size=g.bs+off* s+(g.cap - off)* s;rw[k5];omega) (by show (ds++ys).length≤g.cap - off;omega) (by
          show g.bs+es.length* s≤g.bs+off* s+(ds++ys).length* s
          rw[hlen',hel,Nat.add_mul];omega) helems (fun i e j x q hi hj hq=>by
         have hjl:j<s:=by rw[←helems i e hi];exact (gEs.1 hj).1
         simp only at hq
         rw[hget]at hq
         rcases Nat.lt_or_ge i ds.length with h1|h1
         .rw[gEa h1]at hi
          have hlt:i* s+j<len* s:=by
           have:=Nat.mul_le_mul_right s (show i+1≤len by omega)
           rw[Nat.add_mul]at this;omega
          rw[if_pos (by omega)]at hq
          rw[hdg]at hi
          refine k8 _ e j x q hi hj ?_
          rw[←hq];congr 1
          rw[Nat.add_mul];omega
         .rw[gEr h1]at hi
          have hil:=(gEs.1 hi).1
          have e5:i* s=len* s+(i - ds.length)* s:=by rw[←Nat.add_mul];congr 1;omega
          have hlt:(i - ds.length)* s+j<ys.length* s:=by
           have:=Nat.mul_le_mul_right s (show (i - ds.length)+1≤ys.length by omega)
           rw[Nat.add_mul (i - ds.length)]at this;omega
          rw[if_neg (by omega),if_pos (by omega)]at hq
          have e6:g.bs+off* s+(i* s+j) - (g.bs+off* s+len* s)=(i - ds.length)* s+j:=by omega
          rw[e6]at hq
          exact s3 _ e j x q hi hj hq)
        refine⟨.slice (some ⟨g.blk,g.bs+off* s,none⟩) (len+ys.length) (g.cap - off),_,_,_,?_,?_,r1,r2⟩
        .rw[haa (by omega),k3];exact hrun
        .have key:=VR.osl (w:=w.setRow g.blk c') (M:=M) (zq R id (ver'+ys.length) ⟨s,g.blk,g.cap - off,g.bs+off* s⟩) id (ver'+ys.length) 0 (len+ys.length) ⟨s,g.blk,g.cap - off,g.bs+off* s⟩ ⟨g.blk,g.bs+off* s,none⟩ (by simp[zq]) (by show 0+(len+ys.length)≤g.cap - off;omega) (by simp)
         simpa using key
       .
        have holds:∀(i:Nat) (e:AV) (j:Nat) (x:AV),ds[i]?=some e→(AV.cells e)[j]?=some x→∃u,w.cell? ⟨g.blk,g.bs+off* s+(i* s+j),none⟩=some u∧VR w M R x u:=by
         intro i e j x hi hj
         rw[hdg]at hi
         obtain⟨g2,hg2,_,_,hc2⟩:=zdD h.heap hb hi
         rw[k1]at hg2;cases hg2
         obtain⟨u,hu,hv⟩:=hc2 j x hj
         exact⟨u,by rw[show g.bs+off* s+(i* s+j)=g.bs+(off+i)* s+j by rw[Nat.add_mul];omega];exact hu,hv⟩
        obtain⟨p1,p2,p3,p4⟩:=zcI hdel holds
        rw[hdl]at p1
        have hbytes:(len+ys.length)* i.bytes≤140737488355328:=by
         have:=Nat.mul_le_mul hroom hE.hb;omega
        rw[hdl]at p2 p3
        have p2':∀j u,(zbp w g.blk (g.bs+off* s) (len* s))[j]?=some u→w.cell? (aa.add j)=some u:=by
         rcases Nat.lt_or_ge off g.cap with hoc|hoc
         .rw[haa hoc,k3];exact p2
         .intro j u hj
          have h0:len=0:=by omega
          have hlt:=(gEs.1 hj).1
          rw[p1,h0,Nat.zero_mul]at hlt
          omega
        have hrun:=hS.grow aa len (g.cap - off) _ (by rw[p1,hE.hs]) p2' hpos (by omega) (by omega) (growslice_fits (by omega) hbytes)
        obtain⟨d1,d2⟩:=h.same (w':=w.drew) rfl rfl rfl rfl
        have hge:=grownCap_ge w (len+ys.length) (g.cap - off) e
        obtain⟨r1,r2⟩:=d1.move (ver':=ver'+ys.length) (es':=ds++ys) (cap:=grownCap w (len+ys.length) (g.cap - off) e)
         (c:=(zbp w g.blk (g.bs+off* s) (len* s)).toArray++V.toArray++Builtin.zeroCells zv.cells (grownCap w (len+ys.length) (g.cap - off) e - (len+ys.length))) (t:=e) hb (by omega)
         (by simp only[Array.size_append,List.size_toArray,size_zeroCells,hE.hzs,s1,p1,←Nat.add_mul];congr 1;omega) (by omega) helems (fun i e j x q hi hj hq=>by
          have hjl:j<s:=by rw[←helems i e hi];exact (gEs.1 hj).1
          rcases Nat.lt_or_ge i ds.length with h1|h1
          .rw[gEa h1]at hi
           have hlt:i* s+j<len* s:=by
            have:=Nat.mul_le_mul_right s (show i+1≤len by omega)
            rw[Nat.add_mul]at this;omega
           rw[Array.append_assoc,Array.getElem?_append_left (by simp[p1];exact hlt),List.getElem?_toArray]at hq
           exact (p3 i e j x q hi hj hq).evol d2
          .rw[gEr h1]at hi
           have hil:=(gEs.1 hi).1
           have e5:i* s=len* s+(i - ds.length)* s:=by rw[←Nat.add_mul];congr 1;omega
           have hlt:(i - ds.length)* s+j<ys.length* s:=by
            have:=Nat.mul_le_mul_right s (show (i - ds.length)+1≤ys.length by omega)
            rw[Nat.add_mul (i - ds.length)]at this;omega
           rw[Array.getElem?_append_left (by simp[p1,s1];omega),Array.getElem?_append_right (by simp[p1];omega)]at hq
           simp only[List.size_toArray,p1,List.getElem?_toArray]at hq
           have e6:i* s+j - len* s=(i - ds.length)* s+j:=by omega
           rw[e6]at hq
           exact (s3 _ e j x q hi hj hq).evol d2)
        refine⟨.slice (some ⟨w.heap.size,0,none⟩) (len+ys.length) (grownCap w (len+ys.length) (g.cap - off) e),_,_,_,?_,?_,r1,d2.trans r2⟩
        .exact hrun
        .have key:=VR.osl (w:=w.drew.alloc (.cells ((zbp w g.blk (g.bs+off* s) (len* s)).toArray++V.toArray++Builtin.zeroCells zv.cells (grownCap w (len+ys.length) (g.cap - off) e - (len+ys.length))) e)) (M:=zaj M w.drew.heap.size)
          (zq R id (ver'+ys.length) ⟨s,w.drew.heap.size,grownCap w (len+ys.length) (g.cap - off) e,0⟩) id (ver'+ys.length) 0 (len+ys.length) ⟨s,w.drew.heap.size,grownCap w (len+ys.length) (g.cap - off) e,0⟩ ⟨w.drew.heap.size,0,none⟩ (by simp[zq]) (by simpa using hge) (by simp)
         simpa using key
      .cases he
   .cases he
  .cases he
 .rename_i nl sx es hnot
  split at he
  .cases he
   cases hx with
   |isl R _ _ _ a' cap b o uu hnl hna hcap ha hsz hc hv=>
    exact⟨_,w,M,R,hS.zero rfl _ _ _ hcap,.isl _ nl sx es a' cap b o uu hnl hna hcap ha hsz hc hv,h,Evol.refl _ _ _⟩
  .cases he
 .cases he
theorem zAZ (h:WR C K w M R H) {t e ty:TypeId} {sz:Nat} {i:TypeInfo} {zv:Value} (hE:zx3 P t e sz i zv) {x y z:AV} {u v:Value} {H':Heap} (hx:VR w M R x u) (hy:VR w M R y v) (he:ex H (.app sz) [x,y]=some (z,H')):
  Eff C K P w M R z H' id (Builtin.append_ #[t,t] ty #[u,v]):=by
 simp only[ex]at he
 split at he
 .rename_i ys hys
  obtain⟨a,capy,rfl,hsy,hyc⟩:=zgd h.heap hy hys
  split at he
  .rename_i hall
   by_cases hne:ys=[]
   .subst hne
    exact zo2 (h.truncH x) hE hx hsy (V:=[]) (by simp) (fun i e j x u hi=>by simp at hi) ⟨fun _ a l c hl=>zfh hE.ht hE.hi _ _ _ _ _ hl,fun h0=>absurd h0 (by simp),fun g o sLen sCap cur t' h0=>absurd h0 (by simp),fun b sLen sCap olds _ _ h0=>absurd h0 (by simp)⟩ he
   .obtain⟨b2,o2,rfl,hcells⟩:=hyc hne
    obtain⟨s1,s2,s3,s4⟩:=zcI hsy hcells
    have s4':=s4 (lAt.1 hall)
    exact zo2 (h.truncH x) hE hx hsy s1 s3 ⟨fun h0=>absurd (List.length_eq_zero_iff.1 h0) hne,fun hpos h63 h48=>run_append_nil (P:=P) w t ty e i zv hE.ht hE.hi hE.hz ⟨b2,o2,none⟩ ys.length capy _ (by rw[s1,hE.hs]) s2 hpos h63 h48,
     fun g o sLen sCap cur t' _ hg hr hf=>zeJ (P:=P) (w:=w) (ty:=ty) hE.ht hE.hi g o sLen sCap cur hg ⟨b2,o2,none⟩ ys.length capy _ (by rw[s1,hE.hs]) s2 s4' hr hf,
     fun b sLen sCap olds h1 h2 _ h3 h4 h5=>run_append_grow (P:=P) w t ty e i zv hE.ht hE.hi hE.hz b sLen sCap olds h1 h2 ⟨b2,o2,none⟩ ys.length capy _ (by rw[s1,hE.hs]) s2 h3 h4 h5⟩ he
  .cases he
 .cases he
theorem zqc (c vs:List AV) (o k:Nat) (h:o+vs.length≤c.length):(c.take o++vs++c.drop (o+vs.length))[k]?=if k<o then c[k]? else if k<o+vs.length then vs[k - o]? else c[k]?:=by
 split
 .rename_i h1
  rw[List.append_assoc,gEa (by simp;omega),List.getElem?_take,if_pos h1]
 .rename_i h1
  split
  .rename_i h2
   rw[gEa (by simp;omega),gEr (by simp;omega)]
   congr 1
   simp;omega
  .rename_i h2
   rw[gEr (by simp;omega),List.getElem?_drop]
   congr 1
   simp;omega
end mem
end Go.Proofs.YtbddckhdbnmamaaGreat
