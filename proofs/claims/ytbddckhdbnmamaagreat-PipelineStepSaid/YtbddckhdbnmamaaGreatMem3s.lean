/-
  Iterators over maps that nobody writes any more, interfaces that are nil (conditions: none, lemmas alone).
-/
import Derived.Maps.RangeRun
import Derived.Test.YtbddckhdbnmamaaGreatMem2s
namespace Go.Proofs.YtbddckhdbnmamaaGreat
open Go Go.RowKit
set_option linter.unusedVariables false
set_option linter.unusedSimpArgs false
section mem3
variable {P:Program} {C:zbc} {K:Ctx} {w:World} {M:Mut} {R:Res} {H:Heap}
theorem injSet {id:Nat} {B B2:Blk} (h:∀i j Bi Bj gi gj,H[i]?=some Bi→H[j]?=some Bj→R i Bi.ver=some gi→R j Bj.ver=some gj→gi.blk=gj.blk→i=j) (hid:id<H.length) (hb:H[id]?=some B) (hv:B2.ver=B.ver):
  ∀i j Bi Bj gi gj,(H.set id B2)[i]?=some Bi→(H.set id B2)[j]?=some Bj→R i Bi.ver=some gi→R j Bj.ver=some gj→gi.blk=gj.blk→i=j:=by
 intro i j Bi Bj gi gj hi hj hgi hgj hbb
 have old:∀(k:Nat) (B0:Blk) (g':Own),(H.set id B2)[k]?=some B0→R k B0.ver=some g'→∃B':Blk,H[k]?=some B'∧R k B'.ver=some g':=by
  intro k B0 g' hk hg'
  by_cases hkk:k=id
  .subst hkk
   rw[gEt hid]at hk
   cases hk
   exact⟨_,hb,by rw[←hv];exact hg'⟩
  .rw[gEn (fun e=>hkk e.symm)]at hk
   exact⟨B0,hk,hg'⟩
 obtain⟨Bi',b1,b2⟩:=old i Bi gi hi hgi
 obtain⟨Bj',c1,c2⟩:=old j Bj gj hj hgj
 exact h i j Bi' Bj' gi gj b1 c1 b2 c2 hbb
def mutBut (M:Mut) (n:Nat):Mut:=fun b o=>M b o∧b≠n
def zti (M:Mut) (n:Nat):Mut:=fun b o=>M b o∨b=n
theorem VR.thaw {n:Nat} {im:Option Nat} {c d:Nat} {s:Array Nat} (hn:w.heap[n]?=some (.mapIter im c s d)) {x:AV} {v:Value} (h:VR w M R x v):VR w (zti M n) R x v:=by
 have hcell:∀b o (u:Value),w.cell? ⟨b,o,none⟩=some u→b≠n:=by
  intro b o u hc e
  subst e
  unfold World.cell? at hc
  rw[hn]at hc
  simp at hc
 induction h with
 |bad R v=>exact .bad _ _
 |und R=>exact .und _
 |bool R b=>exact .bool _ _
 |int R k n=>exact .int _ _ _
 |str R l=>exact .str _ _
 |nilp R=>exact .nilp _
 |nilf R=>exact .nilf _
 |eptr R cs b o u hc hv ih=>exact .eptr _ cs b o u (fun j c hj=>⟨(hc j c hj).1,fun hm=>hm.elim (hc j c hj).2 (hcell _ _ _ (hc j c hj).1)⟩) (fun j c hj=>ih j c hj)
 |optr R id ver idx off g hg=>exact .optr _ id ver idx off g hg
 |isl R nl sz es a cap b o u hnl hn hcap ha hsz hc hv ih=>
  exact .isl _ nl sz es a cap b o u hnl hn hcap ha hsz (fun i e j c hi hj=>⟨(hc i e j c hi hj).1,fun hm=>hm.elim (hc i e j c hi hj).2 (hcell _ _ _ (hc i e j c hi hj).1)⟩) (fun i e j c hi hj=>ih i e j c hi hj)
 |osl R id ver off len g a hg hle ha=>exact .osl _ id ver off len g a hg hle ha
 |agg R cs vs hs hv ih=>exact .agg _ cs vs hs fun j c u h1 h2=>ih j c u h1 h2
 |tuple R cs vs hs hv ih=>exact .tuple _ cs vs hs fun j c u h1 h2=>ih j c u h1 h2
 |clo R f xs ys us vs hs hs' hu hv ihu ihv=>exact .clo _ f xs ys us vs hs hs' (fun j c u h1 h2=>ihu j c u h1 h2) (fun j c u h1 h2=>ihv j c u h1 h2)
 |yld R id g hg=>exact .yld _ id g hg
 |omap R id g hg=>exact .omap _ id g hg
 |oit R id g hg=>exact .oit _ id g hg
 |nili R=>exact .nili _
 |nilm R=>exact .nilm _
 |imap R ks vs b es cl hb hm hs hl hbn hnd hk hv ihk ihv=>
  exact .imap _ ks vs b es cl hb (fun hm'=>hm'.elim hm (fun e=>by subst e;rw[hn]at hb;cases hb)) hs hl hbn hnd (fun i k e h1 h2=>ihk i k e h1 h2) (fun i v e h1 h2=>ihv i v e h1 h2)
 |unk R k n=>exact .unk _ _ _
theorem BlkR.thaw {n:Nat} {im:Option Nat} {c d:Nat} {s:Array Nat} (hn:w.heap[n]?=some (.mapIter im c s d)) {id:Nat} {B:Blk} (h:BlkR C w M R id B) (ho:∀g,R id B.ver=some g→g.blk≠n):BlkR C w (zti M n) R id B:=by
 cases B with
 |arr ver sz sh es=>
  obtain⟨g,c,t,h1,h2,h3,h4,h5,h6,h7,h8,h9,h10⟩:=h
  exact⟨g,c,t,h1,h2,h3,h4,h5,h6,h7,fun i e j x u a b d=>(h8 i e j x u a b d).thaw hn,fun s o=> .inl (h9 s o),fun o ho=> .inl (h10 o ho)⟩
 |loop st pend F ps as bd=>
  obtain⟨g,r,h1,h2,h3,h4,h5,h6,h7,h8,h9,h10⟩:=h
  exact⟨g,r,h1,h2,h3,h4,h5,h6,h7,h8,fun i=>(h9 i).thaw hn,h10⟩
 |mp es=>
  obtain⟨g,es',clock,h1,h2,h3,h4,hM0,h5⟩:=h
  exact⟨g,es',clock,h1,h2,h3,h4,.inl hM0,h5.1,fun i k v e hi he'=>⟨(h5.2 i k v e hi he').1.thaw hn,(h5.2 i k v e hi he').2.thaw hn⟩⟩
 |hole t=>exact h
 |sit s p=>exact h
 |dead ver=>exact h
end mem3
end Go.Proofs.YtbddckhdbnmamaaGreat
