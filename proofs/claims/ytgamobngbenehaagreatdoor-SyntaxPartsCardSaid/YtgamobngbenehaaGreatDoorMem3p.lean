/-
  Iterators over maps that nobody writes any more, interfaces that are nil (conditions: none, lemmas alone).
-/
import Derived.Maps.RangeRun
import Derived.Test.YtgamobngbenehaaGreatDoorMem2p
namespace Go.Proofs.YtgamobngbenehaaGreatDoor
open Go Go.RowKit
set_option linter.unusedVariables false
set_option linter.unusedSimpArgs false
section mem3
variable {P:Program} {C:zaT} {K:Ctx} {w:World} {M:Mut} {R:Res} {H:Heap}
theorem zh3 {id:Nat} {B B2:Blk} (h:∀i j Bi Bj gi gj,H[i]?=some Bi→H[j]?=some Bj→R i Bi.ver=some gi→R j Bj.ver=some gj→gi.blk=gj.blk→i=j) (hid:id<H.length) (hb:H[id]?=some B) (hv:B2.ver=B.ver):
  ∀i j Bi Bj gi gj,(H.set id B2)[i]?=some Bi→(H.set id B2)[j]?=some Bj→R i Bi.ver=some gi→R j Bj.ver=some gj→gi.blk=gj.blk→i=j:=by
 intro i j Bi Bj gi gj hi hj hgi hgj hbb
 have old:∀(k:Nat) (B0:Blk) (g':Own),(H.set id B2)[k]?=some B0→R k B0.ver=some g'→∃B':Blk,H[k]?=some B'∧R k B'.ver=some g':=by
  intro k B0 g' hk hg'
  by_cases hkk:k=id
  .subst hkk
   rw[gEt hid]at hk
   cases hk
   exact⟨_,hb,by rw[←hv];exact hg'⟩
  .rw[gEn (fun e=>hkk e.symm)]at hk
   exact⟨B0,hk,hg'⟩
 obtain⟨Bi',b1,b2⟩:=old i Bi gi hi hgi
 obtain⟨Bj',c1,c2⟩:=old j Bj gj hj hgj
 exact h i j Bi' Bj' gi gj b1 c1 b2 c2 hbb
theorem zqK (h:WR C K w M R H) {t kt et:TypeId} {x z:AV} {u:Value} {H':Heap} (hx:VR w M R x u) (he:ex H .rngm [x]=some (z,H')) (ht:P.underlying t=some (.map kt et)):Eff C K P w M R z H' id (Instr.range t u):=by
 cases x<;>simp only[ex]at he<;>try cases he
 rename_i ks vs
 cases hx with
 |imap R _ _ b es cl hb hm hs hl hbn hnd hk hv=>
  have hlt:b<w.heap.size:=(Array.getElem?_eq_some_iff.1 hb).1
  have hev:=zcV h (.mapIter (some b) cl #[] cl) ⟨1,w.heap.size,0,0⟩
  obtain⟨g1,g2⟩:=h.newBlk (.mapIter (some b) cl #[] cl) (.mit 0 .und .und (ks.zip vs)) ⟨1,w.heap.size,0,0⟩ rfl rfl
   ⟨⟨1,w.heap.size,0,0⟩,b,es,cl,#[],by simp[zB],fun v hv=>by simp[zB];omega,zA w _,(Below.heap_alloc _ _ _ hlt).trans hb,fun hm'=>by
     rcases hm' with hm'|hm'
     .exact hm hm'
     .omega,⟨hbn,hnd⟩,by rw[hs,List.length_zip,hl];simp,fun i p e hp he=>by
     obtain⟨h3,h4⟩:=List.getElem?_zip_eq_some.1 (show (ks.zip vs)[i]?=some (p.1,p.2) from hp)
     exact⟨(hk i p.1 e h3 he).go hev.cells hev.mono hev.maps (fun _ _ _ h=>by cases h),(hv i p.2 e h4 he).go hev.cells hev.mono hev.maps (fun _ _ _ h=>by cases h)⟩,fun _=>⟨rfl,fun o=> .inr rfl⟩,fun h=>by cases h⟩
  exact⟨_,_,_,_,run_range_map w t kt et b es cl ht hb,.oit _ _ ⟨1,w.heap.size,0,0⟩ (by simp[zB]),g1,g2⟩
theorem WR.putMit (h:WR C K w M R H) {id st:Nat} {k v:AV} {all:List (AV×AV)} {g:Own} {m clock:Nat} {es':Array MapEntry} {seen:Array Nat} (seen':Array Nat) (hb:H[id]?=some (.mit st k v all)) (hg:R id 0=some g)
  (hr:w.heap[g.blk]?=some (.mapIter (some m) clock seen clock)) (hm:w.heap[m]?=some (.map es' clock)) (hM:M g.blk 0):
  WR C K (w.putObj g.blk (.mapIter (some m) clock seen' clock)) M R (H.set id (.mit 2 .und .und all))∧Evol R M w R M (w.putObj g.blk (.mapIter (some m) clock seen' clock)):=by
 have he:Evol R M w R M (w.putObj g.blk (.mapIter (some m) clock seen' clock)):=zbh hr (by intro c t f e;cases e) (.inr hM)
 have hid:id<H.length:=(gEs.1 hb).1
 obtain⟨g0,m0,es0,c0,s0,a1,a2,a3,a4,a5,a6,a7,a8,a9,a10⟩:=h.heap.blk id _ hb
 rw[hg]at a1;cases a1
 rw[hr]at a3;cases a3
 rw[hm]at a4;cases a4
 have hlt:g.blk<w.heap.size:=(Array.getElem?_eq_some_iff.1 hr).1
 refine⟨⟨⟨?_,?_,?_⟩,fun p hp=>(h.pins p hp).evol he,h.below.trans (za1 _ (h.base id 0 g hg)),h.base,h.sub,Nat.le_trans h.le he.size,fun k hk=>?_,h.nodup⟩,he⟩
 .intro i B hi
  by_cases hii:i=id
  .subst hii
   rw[gEt hid]at hi
   cases hi
   exact⟨g,m,es',clock,seen',hg,a2,World.putObj_heap_same hlt,he.maps m es' clock hm a5,a5,a6,a7,fun i p e a b=>⟨(a8 i p e a b).1.go he.cells he.mono he.maps (fun _ _ _ h=>by cases h),(a8 i p e a b).2.go he.cells he.mono he.maps (fun _ _ _ h=>by cases h)⟩,(fun h=>by cases h),(fun h=>by cases h)⟩
  .rw[gEn (fun e=>hii e.symm)]at hi
   refine (h.heap.blk i B hi).keep he (fun _=>rfl) (fun g' hg'=>World.putObj_heap_other (fun e=>hii ?_)) (fun _ _ _ hm=>hm)
   exact h.heap.inj i id B _ g' g hi hb hg' hg e
 .intro i v g' hi
  rw[List.length_set];exact h.heap.dom i v g' hi
 .exact zh3 h.heap.inj hid hb rfl
 .obtain⟨q1,q2⟩:=h.marks k hk
  refine⟨?_,q2⟩
  rw[World.putObj_heap_other (fun e=>by subst e;rw[hr]at q1;cases q1)]
  exact q1
theorem WR.spent (h:WR C K w M R H) {id st:Nat} {k v:AV} {all:List (AV×AV)} (all':List (AV×AV)) (hall:all'=all) (hb:H[id]?=some (.mit st k v all)):WR C K w M R (H.set id (.mit 2 .und .und all')):=by
 subst hall
 have hid:id<H.length:=(gEs.1 hb).1
 obtain⟨g,m,es',clock,seen,a1,a2,a3,a4,a5,a6,a7,a8,a9,a10⟩:=h.heap.blk id _ hb
 refine⟨⟨?_,?_,?_⟩,h.pins,h.below,h.base,h.sub,h.le,h.marks,h.nodup⟩
 .intro i B hi
  by_cases hii:i=id
  .subst hii
   rw[gEt hid]at hi
   cases hi
   exact⟨g,m,es',clock,seen,a1,a2,a3,a4,a5,a6,a7,a8,(fun h=>by cases h),(fun h=>by cases h)⟩
  .rw[gEn (fun e=>hii e.symm)]at hi
   exact h.heap.blk i B hi
 .intro i v g' hi
  rw[List.length_set];exact h.heap.dom i v g' hi
 .exact zh3 h.heap.inj hid hb rfl
def zjS (M:Mut) (n:Nat):Mut:=fun b o=>M b o∧b≠n
theorem WR.freezeIt (h:WR C K w M R H) {id st:Nat} {k v k' v':AV} {all:List (AV×AV)} {g:Own} {m clock:Nat} {es':Array MapEntry} {seen:Array Nat} (hb:H[id]?=some (.mit st k v all)) (hg:R id 0=some g)
  (hr:w.heap[g.blk]?=some (.mapIter (some m) clock seen clock)) (hm:w.heap[m]?=some (.map es' clock)) (h1:∃(i:Nat) (e:MapEntry) (s0:Array Nat),all[i]?=some (k',v')∧es'[i]?=some e∧seen=s0.push e.born):
  WR C K w (zjS M g.blk) R (H.set id (.mit 1 k' v' all))∧Evol R M w R (zjS M g.blk) w:=by
 have he:Evol R M w R (zjS M g.blk) w:=⟨Nat.le_refl _,fun _ _ _ h _=>h,fun _ _ _ h=>h,fun _ _ _ hm=>hm.1,fun _ _ _ h _=>h,fun _ _ _ _ _ h _=>h⟩
 have hid:id<H.length:=(gEs.1 hb).1
 obtain⟨g0,m0,es0,c0,s0,a1,a2,a3,a4,a5,a6,a7,a8,a9,a10⟩:=h.heap.blk id _ hb
 rw[hg]at a1;cases a1
 rw[hr]at a3;cases a3
 rw[hm]at a4;cases a4
 refine⟨⟨⟨?_,?_,?_⟩,fun p hp=>(h.pins p hp).evol he,h.below,h.base,fun b o hlt=>⟨fun hm=>(h.sub b o hlt).1 hm.1,fun hm=>⟨(h.sub b o hlt).2 hm,fun e=>by subst e;exact absurd (h.base id 0 g hg) (by omega)⟩⟩,h.le,h.marks,h.nodup⟩,he⟩
 .intro i B hi
  by_cases hii:i=id
  .subst hii
   rw[gEt hid]at hi
   cases hi
   exact⟨g,m,es',clock,seen,hg,a2,hr,hm,fun h=>a5 h.1,a6,a7,fun i p e a b=>⟨(a8 i p e a b).1.go he.cells he.mono he.maps (fun _ _ _ h=>by cases h),(a8 i p e a b).2.go he.cells he.mono he.maps (fun _ _ _ h=>by cases h)⟩,(fun h=>by cases h),fun _=>⟨fun h=>h.2 rfl,h1⟩⟩
  .rw[gEn (fun e=>hii e.symm)]at hi
   refine (h.heap.blk i B hi).keep he (fun _=>rfl) (fun _ _=>rfl) (fun g' hg' o hm=>⟨hm,fun e=>hii ?_⟩)
   exact h.heap.inj i id B _ g' g hi hb hg' hg e
 .intro i v g' hi
  rw[List.length_set];exact h.heap.dom i v g' hi
 .exact zh3 h.heap.inj hid hb rfl
def zeP (M:Mut) (n:Nat):Mut:=fun b o=>M b o∨b=n
theorem VR.thaw {n:Nat} {im:Option Nat} {c d:Nat} {s:Array Nat} (hn:w.heap[n]?=some (.mapIter im c s d)) {x:AV} {v:Value} (h:VR w M R x v):VR w (zeP M n) R x v:=by
 have hcell:∀b o (u:Value),w.cell? ⟨b,o,none⟩=some u→b≠n:=by
  intro b o u hc e
  subst e
  unfold World.cell? at hc
  rw[hn]at hc
  simp at hc
 induction h with
 |bad R v=>exact .bad _ _
 |und R=>exact .und _
 |bool R b=>exact .bool _ _
 |int R k n=>exact .int _ _ _
 |str R l=>exact .str _ _
 |nilp R=>exact .nilp _
 |nilf R=>exact .nilf _
 |eptr R cs b o u hc hv ih=>exact .eptr _ cs b o u (fun j c hj=>⟨(hc j c hj).1,fun hm=>hm.elim (hc j c hj).2 (hcell _ _ _ (hc j c hj).1)⟩) (fun j c hj=>ih j c hj)
 |optr R id ver idx off g hg=>exact .optr _ id ver idx off g hg
 |isl R nl sz es a cap b o u hnl hn hcap ha hsz hc hv ih=>
  exact .isl _ nl sz es a cap b o u hnl hn hcap ha hsz (fun i e j c hi hj=>⟨(hc i e j c hi hj).1,fun hm=>hm.elim (hc i e j c hi hj).2 (hcell _ _ _ (hc i e j c hi hj).1)⟩) (fun i e j c hi hj=>ih i e j c hi hj)
 |osl R id ver off len g a hg hle ha=>exact .osl _ id ver off len g a hg hle ha
 |agg R cs vs hs hv ih=>exact .agg _ cs vs hs fun j c u h1 h2=>ih j c u h1 h2
 |tuple R cs vs hs hv ih=>exact .tuple _ cs vs hs fun j c u h1 h2=>ih j c u h1 h2
 |clo R f xs ys us vs hs hs' hu hv ihu ihv=>exact .clo _ f xs ys us vs hs hs' (fun j c u h1 h2=>ihu j c u h1 h2) (fun j c u h1 h2=>ihv j c u h1 h2)
 |yld R id g hg=>exact .yld _ id g hg
 |omap R id g hg=>exact .omap _ id g hg
 |oit R id g hg=>exact .oit _ id g hg
 |bptr R id off g hg=>exact .bptr _ id off g hg
 |nili R=>exact .nili _
 |nilm R=>exact .nilm _
 |emp R a=>exact .emp _ _
 |imap R ks vs b es cl hb hm hs hl hbn hnd hk hv ihk ihv=>
  exact .imap _ ks vs b es cl hb (fun hm'=>hm'.elim hm (fun e=>by subst e;rw[hn]at hb;cases hb)) hs hl hbn hnd (fun i k e h1 h2=>ihk i k e h1 h2) (fun i v e h1 h2=>ihv i v e h1 h2)
 |bys R id ver len g hg hle=>exact .bys _ id ver len g hg hle
 |unk R k n=>exact .unk _ _ _
theorem BlkR.thaw {n:Nat} {im:Option Nat} {c d:Nat} {s:Array Nat} (hn:w.heap[n]?=some (.mapIter im c s d)) {id:Nat} {B:Blk} (h:BlkR C w M R id B) (ho:∀g,R id B.ver=some g→g.blk≠n):BlkR C w (zeP M n) R id B:=by
 cases B with
 |arr ver sz sh es=>
  obtain⟨g,c,t,h1,h2,h3,h4,h5,h6,h7,h8,h9,h10⟩:=h
  exact⟨g,c,t,h1,h2,h3,h4,h5,h6,h7,fun i e j x u a b d=>(h8 i e j x u a b d).thaw hn,fun s o=> .inl (h9 s o),fun o ho=> .inl (h10 o ho)⟩
 |loop st pend F ps as bd=>
  obtain⟨g,r,h1,h2,h3,h4,h5,h6,h7,h8,h9,h10⟩:=h
  exact⟨g,r,h1,h2,h3,h4,h5,h6,h7,h8,fun i=>(h9 i).thaw hn,h10⟩
 |mp es=>
  obtain⟨g,es',clock,h1,h2,h3,h4,hM0,h5⟩:=h
  exact⟨g,es',clock,h1,h2,h3,h4,.inl hM0,h5.1,fun i k v e hi he'=>⟨(h5.2 i k v e hi he').1.thaw hn,(h5.2 i k v e hi he').2.thaw hn⟩⟩
 |mit st k v all=>
  obtain⟨g,m,es',clock,seen,h1,h2,h3,h4,h5,h6,h7,h8,h9,h10⟩:=h
  exact⟨g,m,es',clock,seen,h1,h2,h3,h4,fun hm=>hm.elim h5 (fun e=>by subst e;rw[hn]at h4;cases h4),h6,h7,fun i p e a b=>⟨(h8 i p e a b).1.thaw hn,(h8 i p e a b).2.thaw hn⟩,fun h=>⟨(h9 h).1,fun o=> .inl ((h9 h).2 o)⟩,fun h=>⟨fun hm=>hm.elim (h10 h).1 (ho g h1),(h10 h).2⟩⟩
 |hole t=>exact h
 |sit s p=>exact h
 |bx t cs=>
  obtain⟨g,c,h1,h2,h3,h4,h5,h6⟩:=h
  exact⟨g,c,h1,h2,h3,h4,fun j x u a b=>(h5 j x u a b).thaw hn,fun o=> .inl (h6 o)⟩
 |byt ver l=>
  obtain⟨g,c,h1,h2,h3,h4,h5,h6,h7⟩:=h
  exact⟨g,c,h1,h2,h3,h4,h5,h6,fun o=> .inl (h7 o)⟩
 |dead ver=>exact h
theorem WR.thaw (h:WR C K w M R H) {id:Nat} {k v:AV} {all:List (AV×AV)} {g:Own} {im:Option Nat} {c d:Nat} {s:Array Nat} (hb:H[id]?=some (.mit 1 k v all)) (hg:R id 0=some g) (hn:w.heap[g.blk]?=some (.mapIter im c s d)):
  WR C K w (zeP M g.blk) R (H.set id (.mit 2 .und .und all)):=by
 have hid:id<H.length:=(gEs.1 hb).1
 obtain⟨g0,m,es',clock,seen,a1,a2,a3,a4,a5,a6,a7,a8,a9,a10⟩:=h.heap.blk id _ hb
 rw[hg]at a1;cases a1
 refine⟨⟨?_,?_,?_⟩,fun p hp=>(h.pins p hp).thaw hn,h.below,h.base,fun b o hlt=>⟨fun hm=>hm.elim (h.sub b o hlt).1 (fun e=>by subst e;exact absurd (h.base id 0 g hg) (by omega)),fun hm=> .inl ((h.sub b o hlt).2 hm)⟩,h.le,h.marks,h.nodup⟩
 .intro i B hi
  by_cases hii:i=id
  .subst hii
   rw[gEt hid]at hi
   cases hi
   exact⟨g,m,es',clock,seen,hg,a2,a3,a4,fun hm=>hm.elim a5 (fun e=>by subst e;rw[a3]at a4;cases a4),a6,a7,fun i p e a b=>⟨(a8 i p e a b).1.thaw hn,(a8 i p e a b).2.thaw hn⟩,(fun h=>by cases h),(fun h=>by cases h)⟩
  .rw[gEn (fun e=>hii e.symm)]at hi
   exact (h.heap.blk i B hi).thaw hn (fun g' hg' e=>hii (h.heap.inj i id B _ g' g hi hb hg' hg e))
 .intro i v g' hi
  rw[List.length_set];exact h.heap.dom i v g' hi
 .exact zh3 h.heap.inj hid hb rfl
theorem zrs (hh:HR C w M R H) {x z:AV} {u:Value} (hx:VR w M R x u) (hz:entV H x=z) (hok:z≠.bad):zae P w M R z (Instr.entry u):=by
 unfold entV at hz
 split at hz
 .rename_i id
  split at hz
  .rename_i k v all hb
   obtain⟨g,m,es',clock,seen,a1,a2,a3,a4,a5,a6,a7,a8,a9,a10⟩:=hh.blk id _ hb
   cases hx with
   |oit R _ g' hg'=>
    rw[a1]at hg';cases hg'
    obtain⟨_,i,e,s0,b1,b2,rfl⟩:=a10 rfl
    subst hz
    have hmem:e∈es'.toList:=by
     have:es'.toList[i]?=some e:=by rw[Array.getElem?_toList];exact b2
     exact List.mem_of_getElem? this
    refine⟨_,run_entry_at w g.blk m clock s0 es' clock e a3 a4 hmem a6.2,.tuple _ _ _ rfl fun j c u hc hu=>?_⟩
    obtain⟨c1,c2⟩:=a8 i _ e b1 b2
    match j,hc,hu with
    |0,hc,hu=>simp at hc hu;subst hc;subst hu;exact c1.noRes_any rfl
    |1,hc,hu=>simp at hc hu;subst hc;subst hu;exact c2.noRes_any rfl
    |j+2,hc,hu=>simp at hc
  .exact absurd hz.symm hok
 .exact absurd hz.symm hok
theorem zrq {op:BinOp} {neg:Bool} {t:TypeId} {ox:Operand} {oy:Operand} {x z:AV} {u:Value} {ms:Array (String×TypeId)} (hx:VR w M R x u) (hz:eqiV neg x=z) (hok:z≠.bad) (hop:op=if neg then .neq else .eql)
  (ht:P.underlying t=some (.interface ms)) (hoy:oy= .const .nilIface):
  zae P w M R z (do eqGuard op t ox oy u .nilIface;binOp op t u .nilIface):=by
 unfold eqiV at hz
 split at hz
 .subst hz
  cases hx
  have h0:∀d,(Op.equalIn (d+1) t .nilIface .nilIface).run P w= .ok true w:=fun d=>by
   unfold Op.equalIn
   rw[zh (run_underlying ht w)]
   rfl
  have h1:(Op.equal t .nilIface .nilIface).run P w= .ok true w:=h0 9999
  subst hoy
  rw[eqGuard_nil_constR]
  subst hop
  cases neg
  .refine⟨.bool true,?_,.bool _ _⟩
   simp only[Bool.false_eq_true,if_false]
   show (binOp .eql t .nilIface .nilIface).run P w=_
   unfold binOp
   rw[zh h1];rfl
  .refine⟨.bool false,?_,.bool _ _⟩
   simp only[if_true]
   show (binOp .neq t .nilIface .nilIface).run P w=_
   unfold binOp
   rw[zh h1];rfl
 .exact absurd hz.symm hok
end mem3
end Go.Proofs.YtgamobngbenehaaGreatDoor
