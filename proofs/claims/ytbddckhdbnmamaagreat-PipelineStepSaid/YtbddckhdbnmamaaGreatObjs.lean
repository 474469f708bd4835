/-
  New blocks, and objects that turn (conditions: none).
-/
import Derived.RangeFuncRecord
import Derived.Test.YtbddckhdbnmamaaGreatMems
namespace Go.Proofs.YtbddckhdbnmamaaGreat
open Go Go.RowKit
set_option linter.unusedVariables false
set_option linter.unusedSimpArgs false
section objs
variable {P:Program} {C:zbc} {K:Ctx} {w:World} {M:Mut} {R:Res} {H:Heap}
theorem zke {r:Nat} {o o':Obj} (hr:w.heap[r]?=some o) (ho:∀c t f,o≠.cells c t f) (b i:Nat) {v:Value} (h:w.cell? ⟨b,i,none⟩=some v):(w.putObj r o').cell? ⟨b,i,none⟩=some v:=by
 by_cases hb:b=r
 .subst hb
  unfold World.cell? at h
  rw[hr]at h
  cases o<;>simp at h
  exact absurd rfl (ho _ _ _)
 .rw[zY (World.putObj_heap_other hb)];exact h
theorem zci {r:Nat} {o o':Obj} (hr:w.heap[r]?=some o) (ho:∀c t f,o≠.cells c t f) (hm:((∀es cl,o≠.map es cl)∧∀m c s d,o≠.mapIter m c s d)∨M r 0):Evol R M w R M (w.putObj r o'):=
 ⟨by show w.heap.size≤(w.heap.setIfInBounds r o').size;simp,fun b i v h _=>zke hr ho b i h,fun _ _ _ h=>h,fun _ _ _ h=>h,fun b es cl h1 hM=>(World.putObj_heap_other (fun e=>by
  subst e
  rcases hm with hm|hm
  .rw[hr]at h1;cases h1;exact hm.1 _ _ rfl
  .exact hM hm)).trans h1,fun b im c0 s0 d0 h1 hM=>(World.putObj_heap_other (fun e=>by
  subst e
  rcases hm with hm|hm
  .rw[hr]at h1;cases h1;exact hm.2 _ _ _ _ rfl
  .exact hM hm)).trans h1⟩
theorem zb1 {B r:Nat} (o':Obj) (h:B≤r):Below B w (w.putObj r o'):=
 ⟨rfl,rfl,rfl,by show w.heap.size≤(w.heap.setIfInBounds r o').size;simp,fun k hk=>World.putObj_heap_other (by omega)⟩
theorem WR.newBlk (h:WR C K w M R H) (o:Obj) (B:Blk) (g:Own) (hg:g.blk=w.heap.size) (hv:B.ver=0) (hblk:BlkR C (w.alloc o) (zaj M w.heap.size) (zP R H.length g) H.length B):
  WR C K (w.alloc o) (zaj M w.heap.size) (zP R H.length g) (H++[B])∧Evol R M w (zP R H.length g) (zaj M w.heap.size) (w.alloc o):=by
 have he:=zhe h o g
 refine⟨⟨⟨?_,?_,?_⟩,fun p hp=>(h.pins p hp).evol he,h.below.trans ((Below.refl _ w).alloc h.le _),?_,?_,?_,fun r hr=>h.mark_alloc _ hr,h.nodup⟩,he⟩
 .intro id B' hb
  rcases Nat.lt_trichotomy id H.length with hid|hid|hid
  .rw[gEa hid]at hb
   refine (h.heap.blk id B' hb).keep he (fun v=>by unfold zP;rw[if_neg (by omega)]) (fun g' hg'=>?_) (fun g hg o hm=> .inl hm)
   obtain⟨g'',h1,h2,_⟩:=h.heap.place hb hg'
   rw[hg']at h1;cases h1
   exact Below.heap_alloc _ _ _ h2
  .subst hid
   simp at hb
   subst hb
   exact hblk
  .rw[List.getElem?_eq_none (by simp;omega)]at hb;cases hb
 .intro id ver g' hg'
  unfold zP at hg'
  split at hg'
  .simp;omega
  .have:=h.heap.dom id ver g' hg';simp;omega
 .intro i j Bi Bj gi gj hi hj hgi hgj hb
  have old:∀k B' g',(H++[B])[k]?=some B'→zP R H.length g k B'.ver=some g'→(k=H.length∧g'.blk=w.heap.size)∨(k<H.length∧H[k]?=some B'∧R k B'.ver=some g'∧g'.blk<w.heap.size):=by
   intro k B' g' hk hg'
   rcases Nat.lt_trichotomy k H.length with hid|hid|hid
   .rw[gEa hid]at hk
    unfold zP at hg'
    rw[if_neg (by omega)]at hg'
    obtain⟨g'',h1,h2,_⟩:=h.heap.place hk hg'
    rw[hg']at h1;cases h1
    exact .inr ⟨hid,hk,hg',h2⟩
   .subst hid
    unfold zP at hg'
    rw[if_pos rfl]at hg'
    split at hg'
    .cases hg';exact .inl ⟨rfl,hg⟩
    .cases hg'
   .rw[List.getElem?_eq_none (by simp;omega)]at hk;cases hk
  rcases old i Bi gi hi hgi with⟨a1,a2⟩|⟨a1,a2,a3,a4⟩<;>rcases old j Bj gj hj hgj with⟨b1,b2⟩|⟨b1,b2,b3,b4⟩
  .omega
  .omega
  .omega
  .exact h.heap.inj i j Bi Bj gi gj a2 b2 a3 b3 hb
 .intro id ver g' hg'
  unfold zP at hg'
  split at hg'
  .split at hg'
   .cases hg';rw[hg];exact h.le
   .cases hg'
  .exact h.base id ver g' hg'
 .intro b o hb
  have:=h.le
  exact⟨fun hm=>hm.elim (fun hm=>(h.sub b o hb).1 hm) (fun hm=>absurd hm (by omega)),fun hm=> .inl ((h.sub b o hb).2 hm)⟩
 .have:=h.le
  show K.base≤(w.heap.push _).size
  simp;omega
theorem WR.addHole (h:WR C K w M R H) (t:Nat):WR C K w M R (H++[.hole t]):=by
 have hn:∀v,R H.length v=none:=fun v=>by
  cases hg:R H.length v with
  |none=>rfl
  |some g=>have:=h.heap.dom _ _ _ hg;omega
 have old:∀k B g,(H++[Blk.hole t])[k]?=some B→R k B.ver=some g→H[k]?=some B:=by
  intro k B g hk hg
  rcases Nat.lt_trichotomy k H.length with hid|hid|hid
  .rwa [gEa hid]at hk
  .subst hid;rw[hn]at hg;cases hg
  .rw[List.getElem?_eq_none (by simp;omega)]at hk;cases hk
 refine⟨⟨fun id B hb=>?_,fun id v g hg=>by have:=h.heap.dom id v g hg;simp;omega,fun i j Bi Bj gi gj hi hj hgi hgj hb=>h.heap.inj i j Bi Bj gi gj (old _ _ _ hi hgi) (old _ _ _ hj hgj) hgi hgj hb⟩,h.pins,h.below,h.base,h.sub,h.le,h.marks,h.nodup⟩
 rcases Nat.lt_trichotomy id H.length with hid|hid|hid
 .rw[gEa hid]at hb
  exact h.heap.blk id B hb
 .subst hid
  simp at hb
  subst hb
  exact hn
 .rw[List.getElem?_eq_none (by simp;omega)]at hb;cases hb
theorem WR.addHoles:∀(ts:List Nat) {H:Heap},WR C K w M R H→WR C K w M R (H++ts.map .hole)
 | [],H,h=>by simpa using h
 |t::ts,H,h=>by
  have:=WR.addHoles ts (h.addHole t)
  simpa using this
def zS (R:Res) (n:Nat) (g:Own):Res:=fun id ver=>if id=n then (if ver=0 then some g else none) else R id ver
theorem WR.fillBlk (h:WR C K w M R H) (o:Obj) (B:Blk) (g:Own) {n t:Nat} (hn:H[n]?=some (.hole t)) (hg:g.blk=w.heap.size) (hv:B.ver=0) (hblk:BlkR C (w.alloc o) (zaj M w.heap.size) (zS R n g) n B):
  WR C K (w.alloc o) (zaj M w.heap.size) (zS R n g) (H.set n B)∧Evol R M w (zS R n g) (zaj M w.heap.size) (w.alloc o):=by
 have hno:∀v,R n v=none:=h.heap.blk n _ hn
 have hlt:n<H.length:=(gEs.1 hn).1
 have he:Evol R M w (zS R n g) (zaj M w.heap.size) (w.alloc o):=by
  refine⟨by show w.heap.size≤(w.heap.push o).size;simp,fun b o' v hc _=>?_,fun id ver g' hg=>?_,fun b o' hb hm=>?_,fun b es cl h1 _=>(Below.heap_alloc _ _ _ (aEs.1 h1).1).trans h1,fun b im c0 s0 d0 h1 _=>(Below.heap_alloc _ _ _ (aEs.1 h1).1).trans h1⟩
  .rw[zY (Below.heap_alloc _ _ _ (zbq hc))];exact hc
  .unfold zS
   rw[if_neg (fun e=>by subst e;rw[hno]at hg;cases hg)];exact hg
  .rcases hm with hm|hm
   .exact hm
   .omega
 refine⟨⟨⟨?_,?_,?_⟩,fun p hp=>(h.pins p hp).evol he,h.below.trans ((Below.refl _ w).alloc h.le _),?_,?_,?_,fun r hr=>h.mark_alloc _ hr,h.nodup⟩,he⟩
 .intro id B' hb
  by_cases hid:id=n
  .subst hid
   rw[gEt hlt]at hb
   cases hb
   exact hblk
  .rw[gEn (fun e=>hid e.symm)]at hb
   refine (h.heap.blk id B' hb).keep he (fun v=>by unfold zS;rw[if_neg hid]) (fun g' hg'=>?_) (fun g hg o hm=> .inl hm)
   obtain⟨g'',h1,h2,_⟩:=h.heap.place hb hg'
   rw[hg']at h1;cases h1
   exact Below.heap_alloc _ _ _ h2
 .intro id ver g' hg'
  rw[List.length_set]
  unfold zS at hg'
  split at hg'
  .omega
  .exact h.heap.dom id ver g' hg'
 .intro i j Bi Bj gi gj hi hj hgi hgj hb
  have old:∀k B' g',(H.set n B)[k]?=some B'→zS R n g k B'.ver=some g'→(k=n∧g'.blk=w.heap.size)∨(k≠n∧H[k]?=some B'∧R k B'.ver=some g'∧g'.blk<w.heap.size):=by
   intro k B' g' hk hg'
   by_cases hid:k=n
   .subst hid
    unfold zS at hg'
    rw[if_pos rfl]at hg'
    split at hg'
    .cases hg';exact .inl ⟨rfl,hg⟩
    .cases hg'
   .rw[gEn (fun e=>hid e.symm)]at hk
    unfold zS at hg'
    rw[if_neg hid]at hg'
    obtain⟨g'',h1,h2,_⟩:=h.heap.place hk hg'
    rw[hg']at h1;cases h1
    exact .inr ⟨hid,hk,hg',h2⟩
  rcases old i Bi gi hi hgi with⟨a1,a2⟩|⟨a1,a2,a3,a4⟩<;>rcases old j Bj gj hj hgj with⟨b1,b2⟩|⟨b1,b2,b3,b4⟩
  .omega
  .omega
  .omega
  .exact h.heap.inj i j Bi Bj gi gj a2 b2 a3 b3 hb
 .intro id ver g' hg'
  unfold zS at hg'
  split at hg'
  .split at hg'
   .cases hg';rw[hg];exact h.le
   .cases hg'
  .exact h.base id ver g' hg'
 .intro b o hb
  have:=h.le
  exact⟨fun hm=>hm.elim (fun hm=>(h.sub b o hb).1 hm) (fun hm=>absurd hm (by omega)),fun hm=> .inl ((h.sub b o hb).2 hm)⟩
 .have:=h.le
  show K.base≤(w.heap.push _).size
  simp;omega
theorem zR:∀{H:Heap} {t n:Nat},zk t H=some n→H[n]?=some (.hole t)
 | [],t,n,h=>by simp[zk]at h
 |B::r,t,n,h=>by
  have key:(zk t r).map (·+1)=some n→(B::r)[n]?=some (.hole t):=fun h=>by
   simp only[oMe]at h
   obtain⟨m,h1,rfl⟩:=h
   simpa using zR h1
  cases B with
  |hole u=>
   simp only[zk]at h
   split at h
   .rename_i hu
    cases h;subst hu;rfl
   .exact key h
  |_=>exact key h
end objs
end Go.Proofs.YtbddckhdbnmamaaGreat
