/-
  Giving own memory away for good is sound: own slices become slices of memory that nobody writes (conditions: none, lemmas alone).
-/
import Derived.Test.YtbddckhdbnmamaaGreatMem2s
namespace Go.Proofs.YtbddckhdbnmamaaGreat
open Go Go.RowKit
set_option linter.unusedVariables false
set_option linter.unusedSimpArgs false
def Old (B:Nat) (M:Mut):Mut:=fun b o=>b<B∧M b o
section frz
variable {P:Program} {C:zbc} {K:Ctx} {w:World} {M:Mut} {R:Res} {H:Heap}
theorem VR.old {x:AV} {v:Value} (h:VR w M R x v) (B:Nat):VR w (Old B M) R x v:=h.go (fun _ _ _ h _=>h) (fun _ _ _ hm=>hm.2) (fun _ _ _ h _=>h) (fun _ _ _ h=>h)
theorem VR.oldStill {x:AV} {v:Value} (h:VR w M R x v) (hs:x.still=true) (B:Nat):VR w (Old B M) zaE x v:=(h.still hs).old B
theorem VR.flat {x:AV} {v:Value} {R':Res} (h:VR w M R x v) (hs:x.flat=true):VR w M R' x v:=by
 cases h with
 |agg R cs vs h1 h2=>
  exact .agg _ _ _ h1 fun j c u hc hu=>(h2 j c u hc hu).still (lAt.1 hs c (lMg hc))
 |clo R f xs ys us vs h1 h2 h3 h4=>
  simp only[AV.flat,bAt]at hs
  exact .clo _ f _ _ _ _ h1 h2 (fun j c u hc hu=>(h3 j c u hc hu).still (lAt.1 hs.1 c (lMg hc))) (fun j c u hc hu=>(h4 j c u hc hu).still (lAt.1 hs.2 c (lMg hc)))
 |bool R b=>exact .bool _ _
 |int R k n=>exact .int _ _ _
 |str R l=>exact .str _ _
 |nilp R=>exact .nilp _
 |nilf R=>exact .nilf _
 |eptr R cs b o u hc hv=>exact .eptr _ cs b o u hc hv
 |isl R nl sz es a cap b o u hnl hn hcap ha hsz hc hv=>exact .isl _ nl sz es a cap b o u hnl hn hcap ha hsz hc hv
 |bad R v=>simp[AV.flat,AV.still]at hs
 |und R=>simp[AV.flat,AV.still]at hs
 |optr R id ver idx off g hg=>simp[AV.flat,AV.still]at hs
 |osl R id ver off len g aa hg hle haa=>simp[AV.flat,AV.still]at hs
 |tuple R cs vs h1 h2=>simp[AV.flat,AV.still]at hs
 |yld R id g hg=>simp[AV.flat,AV.still]at hs
 |omap R id g hg=>simp[AV.flat,AV.still]at hs
 |oit R id g hg=>simp[AV.flat,AV.still]at hs
 |unk R k n=>exact .unk _ _ _
 |nili R=>exact .nili _
 |nilm R=>exact .nilm _
 |imap R ks vs b es cl hb hm hz hl hbn hnd hk hv=>exact .imap _ ks vs b es cl hb hm hz hl hbn hnd hk hv
theorem VR.scal1 {w':World} {M':Mut} {R':Res} {x:AV} {v:Value} (h:VR w M R x v) (hs:x.scal1=true):VR w' M' R' x v:=by
 cases h<;>first|(cases hs;done)|exact .bool _ _|exact .int _ _ _|exact .str _ _
theorem VR.scal {w':World} {M':Mut} {R':Res} {x:AV} {v:Value} (h:VR w M R x v) (hs:x.scal=true):VR w' M' R' x v:=by
 cases h with
 |tuple R cs vs h1 h2=>exact .tuple _ _ _ h1 fun j c u hc hu=>(h2 j c u hc hu).scal1 (lAt.1 hs c (lMg hc))
 |_=>first|(cases hs;done)|exact .bool _ _|exact .int _ _ _|exact .str _ _
theorem zaT {f:AV→Option AV}:∀{xs ys:List AV},frzs f xs=some ys→ys.length=xs.length∧∀(j:Nat) (y:AV),ys[j]?=some y→∃x,xs[j]?=some x∧f x=some y:=by
 intro xs
 induction xs with
 |nil=>intro ys h;simp only[frzs,oSi]at h;subst h;simp
 |cons x xs ih=>
  intro ys h
  simp only[frzs]at h
  split at h
  .rename_i y ys' h1 h2
   cases h
   obtain⟨a,b⟩:=ih h2
   refine⟨by simp[a],?_⟩
   intro j z hz
   cases j with
   |zero=>simp at hz;subst hz;exact⟨x,rfl,h1⟩
   |succ j=>simpa using b j z (by simpa using hz)
  .cases h
theorem zoa {n:Nat} {e e':AV} (h:frz H n e=some e'):e'.cells.length=e.cells.length∧∀(j:Nat) (c':AV),e'.cells[j]?=some c'→∃c m,e.cells[j]?=some c∧frz H m c=some c'∧m≤n:=by
 cases n with
 |zero=>simp[frz]at h
 |succ n=>
  by_cases hagg:∃cs,e= .agg cs
  .obtain⟨cs,rfl⟩:=hagg
   simp only[frz,oMe]at h
   obtain⟨cs',h1,rfl⟩:=h
   obtain⟨a,b⟩:=zaT h1
   refine⟨a,fun j c' hc=>?_⟩
   obtain⟨x,h2,h3⟩:=b j c' hc
   exact⟨x,n,h2,h3,by omega⟩
  .have h1:e.cells=[e]:=by cases e<;>first|rfl|exact absurd ⟨_,rfl⟩ hagg
   have h2:e'.cells=[e']:=by
    cases e with
    |agg cs=>exact absurd ⟨_,rfl⟩ hagg
    |tuple cs=>simp only[frz,oMe]at h;obtain⟨_,_,rfl⟩:=h;rfl
    |clo f a b=>
     simp only[frz]at h
     split at h
     .cases h;rfl
     .cases h
    |optr id ver idx off=>
     simp only[frz]at h
     split at h
     .split at h
      .split at h
       .simp only[oMe]at h;obtain⟨_,_,rfl⟩:=h;rfl
       .cases h
      .cases h
     .cases h
    |osl id ver off len=>
     simp only[frz]at h
     split at h
     .split at h
      .split at h
       .cases h;rfl
       .simp only[oMe]at h;obtain⟨_,_,rfl⟩:=h;rfl
      .cases h
     .cases h
    |yld id=>simp[frz]at h
    |omap id=>
     simp only[frz]at h
     split at h
     .split at h
      .cases h;rfl
      .cases h
     .cases h
    |oit id=>simp[frz]at h
    |_=>simp only[frz,oSi]at h;subst h;rfl
   rw[h1,h2]
   refine⟨rfl,fun j c' hc=>?_⟩
   cases j with
   |zero=>simp at hc;subst hc;exact⟨e,n+1,rfl,h,Nat.le_refl _⟩
   |succ j=>simp at hc
theorem ziC (hh:HR C w M R H) {B:Nat} (hB:∀id ver g,R id ver=some g→B≤g.blk):∀(n:Nat) (v v':AV) (u:Value),frz H n v=some v'→VR w M R v u→VR w (Old B M) zaE v' u:=by
 intro n
 induction n using Nat.strongRecOn with
 |ind n ih=>
  intro v v' u h hv
  cases n with
  |zero=>simp[frz]at h
  |succ n=>
  cases v with
  |agg cs=>
   simp only[frz,oMe]at h
   obtain⟨cs',h1,rfl⟩:=h
   obtain⟨a,b⟩:=zaT h1
   cases hv with
   |agg R cs vs h2 h3=>
    exact .agg _ _ _ (by rw[h2,a]) fun j c' u hc hu=>by
     obtain⟨x,k1,k2⟩:=b j c' hc
     exact ih n (by omega) x c' u k2 (h3 j x u k1 hu)
  |tuple cs=>
   simp only[frz,oMe]at h
   obtain⟨cs',h1,rfl⟩:=h
   obtain⟨a,b⟩:=zaT h1
   cases hv with
   |tuple R cs vs h2 h3=>
    exact .tuple _ _ _ (by rw[h2,a]) fun j c' u hc hu=>by
     obtain⟨x,k1,k2⟩:=b j c' hc
     exact ih n (by omega) x c' u k2 (h3 j x u k1 hu)
  |clo f xs ys=>
   simp only[frz]at h
   split at h
   .rename_i xs' ys' h1 h1'
    cases h
    obtain⟨a,b⟩:=zaT h1
    obtain⟨a',b'⟩:=zaT h1'
    cases hv with
    |clo R f xs ys us vs h2 h2' h3 h3'=>
     exact .clo _ f _ _ _ _ (by rw[h2,a]) (by rw[h2',a']) (fun j c' u hc hu=>by
      obtain⟨x,k1,k2⟩:=b j c' hc
      exact ih n (by omega) x c' u k2 (h3 j x u k1 hu)) (fun j c' u hc hu=>by
      obtain⟨x,k1,k2⟩:=b' j c' hc
      exact ih n (by omega) x c' u k2 (h3' j x u k1 hu))
   .cases h
  |optr id ver idx off=>
   simp only[frz]at h
   split at h
   .rename_i v0 sz sh es hb
    split at h
    .rename_i hver
     subst hver
     split at h
     .rename_i e he
      simp only[oMe]at h
      obtain⟨cs',h1,rfl⟩:=h
      obtain⟨a,b⟩:=zaT h1
      obtain⟨g,hg,hsz,hidx,hc⟩:=zdD hh hb he
      cases hv with
      |optr R id ver idx off gg hgg=>
       rw[hg]at hgg;cases hgg
       have key:∀(j:Nat) (c:AV),(cs'.drop off)[j]?=some c→∃u,w.cell? ⟨g.blk,g.bs+(idx* g.sz+off)+j,none⟩=some u∧VR w (Old B M) zaE c u:=by
        intro j c hj
        rw[List.getElem?_drop]at hj
        obtain⟨x,k1,k2⟩:=b _ c hj
        obtain⟨u,m1,m2⟩:=hc _ x k1
        refine⟨u,?_,ih n (by omega) x c u k2 m2⟩
        rw[hsz,show g.bs+(idx* sz+off)+j=g.bs+idx* sz+(off+j) by omega];exact m1
       refine .eptr _ _ _ _ (fun j=>(w.cell? ⟨g.blk,g.bs+(idx* g.sz+off)+j,none⟩).getD undef) (fun j c hj=>?_) (fun j c hj=>?_)
       .obtain⟨u,m1,m2⟩:=key j c hj
        exact⟨by rw[m1];rfl,fun hm=>by have:=hB _ _ _ hg;exact absurd hm.1 (by omega)⟩
       .obtain⟨u,m1,m2⟩:=key j c hj
        rw[m1];exact m2
     .cases h
    .cases h
   .cases h
  |osl id ver off len=>
   simp only[frz]at h
   split at h
   .rename_i v0 sz sh es hb
    split at h
    .rename_i hver
     obtain⟨rfl,hlen⟩:=hver
     have hel:∃es',v'= .isl (some false) sz es'∧es'.length=len∧∀(i:Nat) (e':AV),es'[i]?=some e'→∃e,es[off+i]?=some e∧e'.cells.length=e.cells.length∧∀(j:Nat) (c':AV),e'.cells[j]?=some c'→∃c,e.cells[j]?=some c∧∀u,VR w M R c u→VR w (Old B M) zaE c' u:=by
      have hwin:∀(i:Nat) (e:AV),((es.drop off).take len)[i]?=some e→es[off+i]?=some e:=by
       intro i e he
       rw[List.getElem?_take]at he
       split at he
       .rwa [List.getElem?_drop]at he
       .cases he
      have hwl:((es.drop off).take len).length=len:=by simp;omega
      split at h
      .rename_i hst
       cases h
       refine⟨_,rfl,hwl,fun i e' he'=>⟨e',hwin i e' he',rfl,fun j c' hc'=>⟨c',hc',fun u hu=>?_⟩⟩⟩
       have h1:=lAt.1 hst e' (lMg he')
       exact hu.oldStill (lAt.1 h1 c' (lMg hc')) B
      .simp only[oMe]at h
       obtain⟨es',h1,rfl⟩:=h
       obtain⟨a,b⟩:=zaT h1
       refine⟨es',rfl,by rw[a,hwl],fun i e' he'=>?_⟩
       obtain⟨e,k1,k2⟩:=b i e' he'
       obtain⟨m1,m2⟩:=zoa k2
       refine⟨e,hwin i e k1,m1,fun j c' hc'=>?_⟩
       obtain⟨c,m,q1,q2,q3⟩:=m2 j c' hc'
       exact⟨c,q1,fun u hu=>ih m (by omega) c c' u q2 hu⟩
     obtain⟨es',rfl,hl,hel⟩:=hel
     obtain⟨g,cc,t,p1,p2,p3,p4,p5,p6,p7,p8,_,_⟩:=hh.blk _ _ hb
     cases hv with
     |osl R id ver off len gg aa hgg hle haa=>
      rw[p1]at hgg;cases hgg
      subst hl
      have key:∀(i:Nat) (e:AV) (j:Nat) (c:AV),es'[i]?=some e→e.cells[j]?=some c→∃u,w.cell? ⟨g.blk,g.bs+off* g.sz+(i* sz+j),none⟩=some u∧VR w (Old B M) zaE c u:=by
       intro i e' j c' hi hj
       obtain⟨e,k1,k2,k3⟩:=hel i e' hi
       obtain⟨c,m1,m2⟩:=k3 j c' hj
       obtain⟨g',hg',hsz,hidx,hc⟩:=zdD hh hb k1
       rw[p1]at hg';cases hg'
       obtain⟨u,q1,q2⟩:=hc j c m1
       refine⟨u,?_,m2 u q2⟩
       rw[hsz,show g.bs+off* sz+(i* sz+j)=g.bs+(off+i)* sz+j by rw[Nat.add_mul];omega];exact q1
      refine .isl _ _ _ _ _ _ g.blk (g.bs+off* g.sz) (fun i j=>(w.cell? ⟨g.blk,g.bs+off* g.sz+(i* sz+j),none⟩).getD undef) (fun t ht=>by cases ht;rfl) (fun h=>by cases h) (by omega) (fun hne=>by rw[haa (by have:=List.length_pos_iff.2 hne;omega)]) (fun i e' hi=>?_) (fun i e j c hi hj=>?_) (fun i e j c hi hj=>?_)
      .obtain⟨e,k1,k2,_⟩:=hel i e' hi
       rw[k2];exact p7 _ _ k1
      .obtain⟨u,m1,m2⟩:=key i e j c hi hj
       exact⟨by rw[m1];rfl,fun hm=>by have:=hB _ _ _ p1;exact absurd hm.1 (by omega)⟩
      .obtain⟨u,m1,m2⟩:=key i e j c hi hj
       rw[m1];exact m2
    .cases h
   .cases h
  |yld id=>simp[frz]at h
  |omap id=>
   simp only[frz]at h
   split at h
   .rename_i es hb
    split at h
    .rename_i ks vs h1 h2
     cases h
     obtain⟨a1,a2⟩:=zaT h1
     obtain⟨b1,b2⟩:=zaT h2
     obtain⟨g,es',clock,c1,c2,c3,c4,c5,c5a,c6⟩:=hh.blk id _ hb
     cases hv with
     |omap R _ g' hg'=>
     rw[c1]at hg';cases hg'
     have hget:∀(i:Nat) (e:MapEntry),es'[i]?=some e→∃k v,es[i]?=some (k,v):=by
      intro i e he
      have hi:i<es.length:=by rw[←c4];exact (aEs.1 he).1
      exact⟨es[i].1,es[i].2,by rw[gEg hi]⟩
     refine .imap _ ks vs g.blk es' clock c3 (fun hm=>by have:=hB _ _ _ c1;exact absurd hm.1 (by omega)) (by rw[c4,a1];simp) (by rw[a1,b1];simp) c5a.1 c5a.2 (fun i k e hk he=>?_) (fun i v e hv he=>?_)
     .obtain⟨x,x1,x2⟩:=a2 i k hk
      obtain⟨k0,v0,hkv⟩:=hget i e he
      rw[gEm,hkv]at x1
      cases x1
      exact ih n (by omega) k0 k _ x2 (c6 i k0 v0 e hkv he).1
     .obtain⟨x,x1,x2⟩:=b2 i v hv
      obtain⟨k0,v0,hkv⟩:=hget i e he
      rw[gEm,hkv]at x1
      cases x1
      exact ih n (by omega) v0 v _ x2 (c6 i k0 v0 e hkv he).2
    .cases h
   .cases h
  |oit id=>simp[frz]at h
  |bad=>simp only[frz,oSi]at h;subst h;exact .bad _ _
  |und=>simp only[frz,oSi]at h;subst h;cases hv;exact .und _
  |_=>simp only[frz,oSi]at h;subst h;exact hv.oldStill rfl B
theorem WR.oldM (h:WR C K w M R H) (n:Nat) (hn:∀id B g,H[id]?=some B→R id B.ver=some g→g.blk<n) (hK:K.base≤n):WR C K w (Old n M) R H∧Evol R M w R (Old n M) w:=by
 have he:Evol R M w R (Old n M) w:=⟨Nat.le_refl _,fun _ _ _ h _=>h,fun _ _ _ h=>h,fun _ _ _ hm=>hm.2,fun _ _ _ h _=>h,fun _ _ _ _ _ h _=>h⟩
 exact⟨⟨⟨fun id B hb=>(h.heap.blk id B hb).keep he (fun _=>rfl) (fun g hg=>rfl) (fun g hg o hm=>⟨hn id B g hb hg,hm⟩),h.heap.dom,h.heap.inj⟩,fun p hp=>(h.pins p hp).evol he,h.below,h.base,
  fun b o hb=>⟨fun hm=>(h.sub b o hb).1 hm.2,fun hm=>⟨by omega,(h.sub b o hb).2 hm⟩⟩,h.le,h.marks,h.nodup⟩,he⟩
end frz
end Go.Proofs.YtbddckhdbnmamaaGreat
