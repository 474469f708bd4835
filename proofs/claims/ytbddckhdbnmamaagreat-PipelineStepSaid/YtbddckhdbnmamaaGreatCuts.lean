/-
  Blocks of the call's own that were laid last, forgotten (conditions: none, lemmas alone).
-/
import Derived.Test.YtbddckhdbnmamaaGreatMem3s
namespace Go.Proofs.YtbddckhdbnmamaaGreat
open Go Go.RowKit
set_option linter.unusedVariables false
set_option linter.unusedSimpArgs false
mutual
def AV.bel (n:Nat):AV→Prop
 | .optr id _ _ _=>id<n
 | .osl id _ _ _=>id<n
 | .yld id=>id<n
 | .omap id=>id<n
 | .oit id=>id<n
 | .agg cs=>AV.bels n cs
 | .tuple cs=>AV.bels n cs
 | .clo _ a b=>AV.bels n a∧AV.bels n b
 |_=>True
def AV.bels (n:Nat):List AV→Prop
 | []=>True
 |x::r=>AV.bel n x∧AV.bels n r
end
theorem zbD {n:Nat}:∀{l:List AV},AV.bels n l↔∀c∈l,AV.bel n c
 | []=>by simp[AV.bels]
 |x::r=>by simp[AV.bels,zbD]
def cutR (n:Nat) (R:Res):Res:=fun id v=>if id<n then R id v else none
theorem zhz {n:Nat} {R:Res} {id v:Nat} {g:Own} (h:cutR n R id v=some g):id<n∧R id v=some g:=by
 unfold cutR at h
 split at h
 .exact⟨by assumption,h⟩
 .cases h
theorem zfN {n:Nat} {R:Res} {id v:Nat} {g:Own} (hn:id<n) (h:R id v=some g):cutR n R id v=some g:=by unfold cutR;rw[if_pos hn];exact h
section cut
variable {P:Program} {C:zbc} {K:Ctx} {w:World} {M:Mut} {R:Res} {H:Heap}
theorem VR.bel {n:Nat} {x:AV} {v:Value} (h:VR w M R x v) (hn:∀id ver g,R id ver=some g→id<n):AV.bel n x:=by
 induction h with
 |optr R id ver idx off g hg=>exact hn _ _ _ hg
 |osl R id ver off len g a hg hle ha=>exact hn _ _ _ hg
 |yld R id g hg=>exact hn _ _ _ hg
 |omap R id g hg=>exact hn _ _ _ hg
 |oit R id g hg=>exact hn _ _ _ hg
 |agg R cs vs hs hv ih=>
  refine zbD.2 fun c hc=>?_
  obtain⟨j,hj⟩:=List.getElem?_of_mem hc
  have hlt:j<vs.size:=by rw[hs];exact (gEs.1 hj).1
  exact ih j c _ hj (Array.getElem?_eq_getElem hlt) hn
 |tuple R cs vs hs hv ih=>
  refine zbD.2 fun c hc=>?_
  obtain⟨j,hj⟩:=List.getElem?_of_mem hc
  have hlt:j<vs.size:=by rw[hs];exact (gEs.1 hj).1
  exact ih j c _ hj (Array.getElem?_eq_getElem hlt) hn
 |clo R f xs ys us vs hs hs' hu hv ihu ihv=>
  refine⟨zbD.2 fun c hc=>?_,zbD.2 fun c hc=>?_⟩
  .obtain⟨j,hj⟩:=List.getElem?_of_mem hc
   have hlt:j<us.size:=by rw[hs];exact (gEs.1 hj).1
   exact ihu j c _ hj (Array.getElem?_eq_getElem hlt) hn
  .obtain⟨j,hj⟩:=List.getElem?_of_mem hc
   have hlt:j<vs.size:=by rw[hs'];exact (gEs.1 hj).1
   exact ihv j c _ hj (Array.getElem?_eq_getElem hlt) hn
 |_=>trivial
theorem VR.cut {n:Nat} {x:AV} {v:Value} (h:VR w M R x v):AV.bel n x→VR w M (cutR n R) x v:=by
 induction h with
 |bad R v=>intro _;exact .bad _ _
 |und R=>intro _;exact .und _
 |bool R b=>intro _;exact .bool _ _
 |int R k n=>intro _;exact .int _ _ _
 |str R l=>intro _;exact .str _ _
 |nilp R=>intro _;exact .nilp _
 |nilf R=>intro _;exact .nilf _
 |eptr R cs b o u hc hv ih=>intro _;exact .eptr _ cs b o u hc hv
 |optr R id ver idx off g hg=>intro hb;exact .optr _ id ver idx off g (zfN hb hg)
 |isl R nl sz es a cap b o u hnl hn hcap ha hsz hc hv ih=>intro _;exact .isl _ nl sz es a cap b o u hnl hn hcap ha hsz hc hv
 |osl R id ver off len g a hg hle ha=>intro hb;exact .osl _ id ver off len g a (zfN hb hg) hle ha
 |agg R cs vs hs hv ih=>intro hb;exact .agg _ cs vs hs fun j c u h1 h2=>ih j c u h1 h2 (zbD.1 hb c (lMg h1))
 |tuple R cs vs hs hv ih=>intro hb;exact .tuple _ cs vs hs fun j c u h1 h2=>ih j c u h1 h2 (zbD.1 hb c (lMg h1))
 |clo R f xs ys us vs hs hs' hu hv ihu ihv=>intro hb;exact .clo _ f xs ys us vs hs hs' (fun j c u h1 h2=>ihu j c u h1 h2 (zbD.1 hb.1 c (lMg h1))) (fun j c u h1 h2=>ihv j c u h1 h2 (zbD.1 hb.2 c (lMg h1)))
 |yld R id g hg=>intro hb;exact .yld _ id g (zfN hb hg)
 |omap R id g hg=>intro hb;exact .omap _ id g (zfN hb hg)
 |oit R id g hg=>intro hb;exact .oit _ id g (zfN hb hg)
 |nili R=>intro _;exact .nili _
 |nilm R=>intro _;exact .nilm _
 |imap R ks vs b es cl hb hm hs hl hbn hnd hk hv ihk ihv=>intro _;exact .imap _ ks vs b es cl hb hm hs hl hbn hnd hk hv
 |unk R k n=>intro _;exact .unk _ _ _
def Blk.bel (n:Nat):Blk→Prop
 | .arr _ _ _ es=>∀(i:Nat) (e:AV) (j:Nat) (x:AV),es[i]?=some e→(AV.cells e)[j]?=some x→AV.bel n x
 | .loop _ _ F _ _ _=>∀i,AV.bel n (F.get i)
 | .mp es=>∀(i:Nat) (k v:AV),es[i]?=some (k,v)→AV.bel n k∧AV.bel n v
 |_=>True
theorem BlkR.bel {n id:Nat} {B:Blk} (h:BlkR C w M R id B) (hn:∀id ver g,R id ver=some g→id<n):B.bel n:=by
 cases B with
 |arr ver sz sh es=>
  obtain⟨g,c,t,h1,h2,h3,h4,h5,h6,h7,h8,h9,h10⟩:=h
  intro i e j x hi hj
  have hs:=h7 i e hi
  have hil:i<es.length:=(gEs.1 hi).1
  have hjl:j<sz:=by rw[←hs];exact (gEs.1 hj).1
  have hlt:g.bs+(i* sz+j)<c.size:=by
   rw[h5]
   have:(i+1)* sz≤g.cap* sz:=Nat.mul_le_mul_right _ (by omega)
   rw[Nat.add_mul]at this
   omega
  exact (h8 i e j x _ hi hj (Array.getElem?_eq_getElem hlt)).bel hn
 |loop st pend F ps as bd=>
  obtain⟨g,r,h1,h2,h3,h4,h5,h6,h7,h8,h9,h10⟩:=h
  exact fun i=>(h9 i).bel hn
 |mp es=>
  obtain⟨g,es',clock,h1,h2,h3,h4,hM0,h5⟩:=h
  intro i k v hi
  have hlt:i<es'.size:=by rw[h4];exact (gEs.1 hi).1
  obtain⟨a,b⟩:=h5.2 i k v _ hi (Array.getElem?_eq_getElem hlt)
  exact⟨a.bel hn,b.bel hn⟩
 |_=>trivial
theorem BlkR.cut {n id:Nat} {B:Blk} (h:BlkR C w M R id B) (hid:id<n) (hb:B.bel n):BlkR C w M (cutR n R) id B:=by
 have hc:∀v,cutR n R id v=R id v:=fun v=>by unfold cutR;rw[if_pos hid]
 cases B with
 |arr ver sz sh es=>
  obtain⟨g,c,t,h1,h2,h3,h4,h5,h6,h7,h8,h9,h10⟩:=h
  exact⟨g,c,t,by rw[hc];exact h1,fun v hv=>by rw[hc];exact h2 v hv,h3,h4,h5,h6,h7,fun i e j x u a b d=>(h8 i e j x u a b d).cut (hb i e j x a b),h9,h10⟩
 |loop st pend F ps as bd=>
  obtain⟨g,r,h1,h2,h3,h4,h5,h6,h7,h8,h9,h10⟩:=h
  exact⟨g,r,by rw[hc];exact h1,fun v hv=>by rw[hc];exact h2 v hv,h3,h4,h5,h6,h7,h8,fun i=>(h9 i).cut (hb i),h10⟩
 |mp es=>
  obtain⟨g,es',clock,h1,h2,h3,h4,hM0,h5⟩:=h
  exact⟨g,es',clock,by rw[hc];exact h1,fun v hv=>by rw[hc];exact h2 v hv,h3,h4,hM0,h5.1,fun i k v e hi he'=>⟨(h5.2 i k v e hi he').1.cut (hb i k v hi).1,(h5.2 i k v e hi he').2.cut (hb i k v hi).2⟩⟩
 |hole t=>exact fun v=>by rw[hc];exact h v
 |sit s p=>
  obtain⟨g,h1,h2,h3⟩:=h
  exact⟨g,by rw[hc];exact h1,fun v hv=>by rw[hc];exact h2 v hv,h3⟩
 |dead ver=>
  obtain⟨g,c,t,f,h1,h2,h3⟩:=h
  exact⟨g,c,t,f,by rw[hc];exact h1,fun v hv=>by rw[hc];exact h2 v hv,h3⟩
theorem WR.cut {w0:World} {M0:Mut} {R0:Res} {J:Heap} {m:List Nat} (h0:WR C K w0 M0 R0 H) (h:WR C {K with marks:=m} w M R (H++J)):WR C {K with marks:=m} w M (cutR H.length R) H:=by
 refine⟨⟨?_,?_,?_⟩,fun p hp=>(h.pins p hp).cut ((h0.pins p hp).bel h0.heap.dom),h.below,fun id ver g hg=>h.base id ver g (zhz hg).2,h.sub,h.le,h.marks,h.nodup⟩
 .intro id B hb
  have hlt:=(gEs.1 hb).1
  exact (h.heap.blk id B (by rw[gEa hlt];exact hb)).cut hlt ((h0.heap.blk id B hb).bel h0.heap.dom)
 .intro id ver g hg;exact (zhz hg).1
 .intro i j Bi Bj gi gj hi hj hgi hgj hbb
  have l1:=(gEs.1 hi).1
  have l2:=(gEs.1 hj).1
  exact h.heap.inj i j Bi Bj gi gj (by rw[gEa l1];exact hi) (by rw[gEa l2];exact hj) (zhz hgi).2 (zhz hgj).2 hbb
end cut
end Go.Proofs.YtbddckhdbnmamaaGreat
