/-
  The evaluation of code and of calls is sound (conditions: what is known of functions by Γ is a hypothesis).
-/
import Derived.RangeFuncLeaves
import Derived.Test.YtbddckhdbnmamaaGreatRegions
import Derived.Test.YtbddckhdbnmamaaGreatCuts
namespace Go.Proofs.YtbddckhdbnmamaaGreat
open Go Go.RowKit
set_option linter.unusedVariables false
set_option linter.unusedSimpArgs false
def zaC:LC→Bool
 | .seq a b=>zaC a&&zaC b
 | .cond _ a b=>zaC a&&zaC b
 | .block _ _ b=>zaC b
 | .loop _ b=>zaC b
 | .hol _ a=>zaC a
 | .scp b=>zaC b
 | .rng _ _ _ _ _=>false
 |_=>true
def zar (P:Program) (N:Nat):LC→Code→Prop
 | .any,_=>True
 | .hol _ a,c=>zar P N a c
 | .skip,.skip=>True
 | .skip,.label _=>True
 | .scp b,.scope b'=>zar P N b b'
 | .ret,.ret=>True
 | .exit i,.exit j=>i=j
 | .reg d inn out l,.region _ ops d'=>d=d'∧zcr P N ops ops.toList=some ((zcQ none l).map LI.erase)∧zo6 inn l=true∧(d=true→zr4 ops (zcQ none l)=true)
 | .seq a b,.seq a' b'=>zar P N a a'∧zar P N b b'
 | .cond c a b,.cond c' a' b'=>zeI c'=some c∧zar P N a a'∧zar P N b b'
 | .block id _ b,.block id' b'=>id=id'∧zar P N b b'
 | .loop _ b,.loop b'=>zar P N b b'
 | .rng f ps _ ac bd,.rangeFunc f' ps' ac' bd'=>zeI f'=some f∧ps'=ps.toArray∧(ps.all fun p=>decide (p<N))=true∧zaC ac=true∧zaC bd=true∧zar P N ac ac'∧zar P N bd bd'
 |_,_=>False
theorem zbg {P:Program} {b:Frame} {a:Act} {k:List Item} {cs:List Frame} {w:World} {c:Code}:step P (lone (b.atR a (.code (.scope c)::k)) cs w)= .next (lone (b.atR a (.code c:: .inScope c::k)) cs w):=
 step_lone_go (by simp[stepG,stepG.exec,Frame.atR])
theorem zgM {P:Program} {b:Frame} {a:Act} {k:List Item} {cs:List Frame} {w:World} {c:Code}:step P (lone (b.atR a (.inScope c::k)) cs w)= .next (lone (b.atR a k) cs w):=
 step_lone_go (by simp[stepG,stepG.exec,Frame.atR])
theorem zlz {F:Fence} {n:Nat} {P:Program} {Q:Exit→Act→World→Prop} {a:Act} {w:World} {c:Code} (h:c.wpIn F n P Q a w) (hg:∀l a w,¬Q (.goto l) a w):(Code.scope c).wpIn F n P Q a w:=by
 intro b k cs hro hb hr
 have h0:(lone (b.atR a (.code (.scope c)::k)) cs w).fenced P F:=fenced_calm hb hr rfl
 obtain⟨e,a₁,w₁,hq,harr⟩:=h b (.inScope c::k) cs hro hb hr
 cases e with
 |normal=>exact⟨.normal,a₁,w₁,hq,.head h0 zbg (StepsIn.trans harr (.one (fenced_calm hb hr rfl) zgM))⟩
 |exit id=>
  have hx:exitTo id (.inScope c::k)=exitTo id k:=by simp[exitTo]
  exact⟨_,a₁,w₁,hq,fun k' hk=> .head h0 zbg (harr.1 k' (by rw[hx];exact hk)),
   fun hr' hk=>let ⟨k₁,h1,h2⟩:=harr.2 hr' (by rw[hx];exact hk);⟨k₁,h1,.head h0 zbg h2⟩⟩
 |goto l=>exact absurd hq (hg _ _ _)
 |ret=>exact⟨_,a₁,w₁,hq,.of_steps (.one h0 zbg) harr⟩
 |panic ch=>exact⟨_,a₁,w₁,hq,.of_steps (.one h0 zbg) harr⟩
 |outgrown=>exact⟨_,a₁,w₁,hq,.of_steps (.one h0 zbg) harr⟩
section objs
variable {P:Program} {C:zbc} {K:Ctx} {w:World} {M:Mut} {R:Res} {H:Heap}
theorem WR.dropMarks {m D:List Nat} (h:WR C {K with marks:=D++m} w M R H):WR C {K with marks:=m} w M R H:=
 ⟨h.heap,h.pins,h.below,h.base,h.sub,h.le,fun r hr=>h.marks r (by simp[hr]),(List.nodup_append.1 h.nodup).2.1⟩
theorem WR.newMark (h:WR C K w M R H):WR C {K with marks:=w.heap.size::K.marks} (w.alloc (.deferred (some []))) M R H∧Evol R M w R M (w.alloc (.deferred (some []))):=by
 have he:Evol R M w R M (w.alloc (.deferred (some []))):=⟨by show w.heap.size≤(w.heap.push _).size;simp,fun b o' v hc _=>by rw[zY (Below.heap_alloc _ _ _ (zbq hc))];exact hc,fun _ _ _ h=>h,fun _ _ _ hm=>hm,fun b es cl h1 _=>(Below.heap_alloc _ _ _ (aEs.1 h1).1).trans h1,fun b im c0 s0 d0 h1 _=>(Below.heap_alloc _ _ _ (aEs.1 h1).1).trans h1⟩
 refine⟨⟨⟨fun id B hb=>(h.heap.blk id B hb).keep he (fun _=>rfl) (fun g hg=>?_) (fun g hg o hm=>hm),h.heap.dom,h.heap.inj⟩,fun p hp=>(h.pins p hp).evol he,h.below.trans ((Below.refl _ w).alloc h.le _),h.base,h.sub,?_,?_,?_⟩,he⟩
 .obtain⟨g',h1,h2,_⟩:=h.heap.place hb hg
  rw[hg]at h1;cases h1
  exact Below.heap_alloc _ _ _ h2
 .have:=h.le
  show K.base≤(w.heap.push _).size
  simp;omega
 .intro r hr
  simp only[lMc]at hr
  rcases hr with rfl|hr
  .exact⟨zW w _,h.le⟩
  .exact h.mark_alloc _ hr
 .refine List.nodup_cons.2 ⟨fun hm=>?_,h.nodup⟩
  have:=h.mark_lt hm;omega
theorem WR.take {r:Nat} {m:List Nat} (h:WR C {K with marks:=r::m} w M R H):WR C {K with marks:=m} (w.putObj r (.deferred none)) M R H∧Evol R M w R M (w.putObj r (.deferred none)):=by
 obtain⟨hr,hb⟩:=h.marks r (by simp)
 have he:Evol R M w R M (w.putObj r (.deferred none)):=zci hr (by intro c t f e;cases e) (.inl ⟨(by intro es cl e;cases e),(by intro m c s d e;cases e)⟩)
 obtain⟨n1,n2⟩:=List.nodup_cons.1 h.nodup
 refine⟨⟨⟨fun id B hid=>(h.heap.blk id B hid).keep he (fun _=>rfl) (fun g hg=>World.putObj_heap_other (fun e=>?_)) (fun g hg o hm=>hm),h.heap.dom,h.heap.inj⟩,fun p hp=>(h.pins p hp).evol he,h.below.trans (zb1 _ hb),h.base,h.sub,Nat.le_trans h.le he.size,fun k hk=>?_,n2⟩,he⟩
 .have hk:=h.heap.blk id B hid
  cases B with
  |arr ver sz sh es=>
   obtain⟨g',c,t,h1,_,_,h4,_⟩:=hk
   have hgg:R id ver=some g:=hg
   rw[h1]at hgg;cases hgg
   rw[e,hr]at h4;cases h4
  |loop st pend F ps ac bd=>
   obtain⟨g',r',h1,_,h3,_⟩:=hk
   have hgg:R id 0=some g:=hg
   rw[h1]at hgg;cases hgg
   rw[e,hr]at h3;cases h3
  |mp es=>
   obtain⟨g',es',clock,h1,_,h3,_,_⟩:=hk
   have hgg:R id 0=some g:=hg
   rw[h1]at hgg;cases hgg
   rw[e,hr]at h3;cases h3
  |hole t=>rw[hk _]at hg;cases hg
  |sit s p=>
   obtain⟨g',h1,_,h3⟩:=hk
   have hgg:R id 0=some g:=hg
   rw[h1]at hgg;cases hgg
   rw[e,hr]at h3;cases h3
  |dead v=>
   obtain⟨g',c,t,f,h1,_,h3⟩:=hk
   have hgg:R id v=some g:=hg
   rw[h1]at hgg;cases hgg
   rw[e,hr]at h3;cases h3
 .obtain⟨k1,k2⟩:=h.marks k (by simp[hk])
  refine⟨?_,k2⟩
  rw[World.putObj_heap_other (fun e=>n1 (by rw[←e];exact hk))]
  exact k1
theorem WR.putLoop (h:WR C K w M R H) {id:Nat} {st st':LoopState} {pend pend':Option LX} {F:Fr} {ps:List Nat} {ac bd:LC} {g:Own} {r r':Loop} (hb:H[id]?=some (.loop st pend F ps ac bd)) (hg:R id 0=some g) (hr:w.heap[g.blk]?=some (.loop r))
  (h1:r'.state=st') (h2:zwR pend' r'.pending) (h3:r'.params=r.params) (h4:r'.assign=r.assign) (h5:r'.body=r.body) (h6:r'.tmps=r.tmps):
  WR C K (w.putObj g.blk (.loop r')) M R (H.set id (.loop st' pend' F ps ac bd))∧Evol R M w R M (w.putObj g.blk (.loop r')):=by
 have he:Evol R M w R M (w.putObj g.blk (.loop r')):=zci hr (by intro c t f e;cases e) (.inl ⟨(by intro es cl e;cases e),(by intro m c s d e;cases e)⟩)
 have hid:id<H.length:=(gEs.1 hb).1
 obtain⟨g0,r0,k1,k2,k3,k4,k5,k6,k7,k8,k9,k10⟩:=h.heap.blk id _ hb
 rw[hg]at k1;cases k1
 rw[hr]at k3;cases k3
 have hlt:g.blk<w.heap.size:=(aEs.1 hr).1
 refine⟨⟨⟨?_,?_,?_⟩,fun p hp=>(h.pins p hp).evol he,h.below.trans (zb1 _ (h.base id 0 g hg)),h.base,h.sub,Nat.le_trans h.le he.size,fun k hk=>?_,h.nodup⟩,he⟩
 .intro i B hi
  by_cases hii:i=id
  .subst hii
   rw[gEt hid]at hi
   cases hi
   exact⟨g,r',hg,k2,World.putObj_heap_same hlt,h1,h2,by rw[h3];exact k6,by rw[h4,h6];exact k7,by rw[h5,h6];exact k8,fun j=>by rw[h6];exact (k9 j).evol he,by rw[h6];exact k10⟩
  .rw[gEn (fun e=>hii e.symm)]at hi
   refine (h.heap.blk i B hi).keep he (fun _=>rfl) (fun g' hg'=>World.putObj_heap_other (fun e=>hii ?_)) (fun _ _ _ hm=>hm)
   exact h.heap.inj i id B _ g' g hi hb hg' hg e
 .intro i v g' hi
  rw[List.length_set];exact h.heap.dom i v g' hi
 .intro i j Bi Bj gi gj hi hj hgi hgj hbb
  have old:∀k B g',(H.set id (.loop st' pend' F ps ac bd))[k]?=some B→R k B.ver=some g'→∃B',H[k]?=some B'∧R k B'.ver=some g':=by
   intro k B g' hk hg'
   by_cases hkk:k=id
   .subst hkk
    rw[gEt hid]at hk
    cases hk
    exact⟨_,hb,hg'⟩
   .rw[gEn (fun e=>hkk e.symm)]at hk
    exact⟨B,hk,hg'⟩
  obtain⟨Bi',a1,a2⟩:=old i Bi gi hi hgi
  obtain⟨Bj',b1,b2⟩:=old j Bj gj hj hgj
  exact h.heap.inj i j Bi' Bj' gi gj a1 b1 a2 b2 hbb
 .obtain⟨q1,q2⟩:=h.marks k hk
  refine⟨?_,q2⟩
  rw[World.putObj_heap_other (fun e=>by subst e;rw[hr]at q1;cases q1)]
  exact q1
end objs
end Go.Proofs.YtbddckhdbnmamaaGreat
