/-
  Whether a state is valid: the program (conditions: a pipeline and a state that are not too large). Valid of the program (conditions: a pipeline and a state that are not too large). Valid of the reference (conditions: a pipeline and a state that are not too large). What a stage does next: the program (conditions: a valid pipeline and state that are not too large). What a stage does next: the reference (conditions: a valid pipeline and state that are not too large). Whether a stage is enabled (conditions: a valid pipeline and state that are not too large). Enabled, both (conditions: a pipeline and a state that are not too large). What a step puts into the buffers: the program (conditions: a valid pipeline that is not too large). What a step puts into the buffers: the program, whole (conditions: a valid pipeline that is not too large). What a step takes from a buffer: the program (conditions: a valid pipeline that is not too large; a buffer with items). A step: the program's memory (conditions: none). A step of the program: up to the clones, and a sink's output (conditions: a valid pipeline and state that are not too large). A step of the program: from what it takes to the end (conditions: a valid pipeline and state that are not too large). A step of the program (conditions: a pipeline and a state that are not too large). What a step puts into the buffers: the reference (conditions: a valid pipeline that is not too large). A step of the reference: up to the new state of the stage, and a sink's output (conditions: a valid pipeline and state that are not too large). A step of the reference: a sink's output, and what it takes (conditions: a valid pipeline and state that are not too large). A step of the reference (conditions: a pipeline and a state that are not too large). States that are the same (conditions: not too large). What is too large for the statements (conditions: none). The laws PipelineStep and PipelineBounds (conditions: as the statements have them). The law PipelineCommute (conditions: as the statement has them). The law PipelineCommute, whole (conditions: as the statement has them). Arguments with expressions in them, read; the three laws for what is handed in (conditions: none).
-/
import Derived.Test.YtbddckhdbnmamaaGreatNAs
import Derived.Test.YtbddckhdbnmamaaGreatXAs
import Derived.Test.YtbddckhdbnmamaaGreatXBs
import Derived.Test.YtbddckhdbnmamaaGreatAWs
namespace Go.Proofs.YtbddckhdbnmamaaGreat
open Go Go.RowKit
set_option linter.unusedVariables false
set_option linter.unusedSimpArgs false
set_option maxRecDepth 10000
section
variable {x:Pl} {s:Fs}
def zpT (x:Pl) (s:FS) (i:Nat):Prop:=∀n∈zjC (sgAt x i) (stAt s i),endC (crAt s (pIn x i n))=true
def zBm (x:Pl) (s:FS) (i:Nat) (l:List Int) (F0:Fr) (H0:Heap) (q:LX) (F:Fr) (H:Heap):Prop:=
 ((∀n∈l,endC (crAt s (pIn x i n))=true)∧q= .exit 4∧F.keep [2,3,64,65,66]=F0∧H=H0)∨((∃n∈l,endC (crAt s (pIn x i n))=false)∧q= .ret∧F.get 4= .bool false)
theorem zqu (hx:PlN x) (hv:PlV x) (hs:FsN s) (hl:s.credits.l.length=x.pipes.l.length) (i:Nat) (hi:i<x.stages.l.length) (y:Sl Int) (hy:y.l.length≤1000) (hn:∀n∈y.l,0≤n∧n<inK (sgAt x i).kind) (z64 z65 z66:AV) (o1:okO z64=some z64) (o2:okO z65=some z65) (o3:okO z66=some z66) (H:Heap) (hA:H[0]?=some (.arr 0 2 false [x.av])) (hB:H[1]?=some (.arr 0 4 false [s.av])):∀(rest:List Int) (k:Nat),y.l.drop k=rest→k≤y.l.length→
  okC (W.loop [2,3,8,64,65,66,77,78,79] zuo [(2,.optr 0 0 0 0),(3,.optr 1 0 0 0),(8,I i),(64,z64),(65,z65),(66,z66),(77,Sl.av I 1 y),(78,I y.l.length),(79,I k)] H)
   (fun q F H'=>zBm x s.pl i rest [(2,.optr 0 0 0 0),(3,.optr 1 0 0 0),(64,z64),(65,z65),(66,z66)] H q F H'):=by
 intro rest
 induction rest with
 |nil=>
  intro k h1 h2
  have hk:=zf h1 h2
  rw[zb]
  simp[zjO,zpf,hk,o1,o2,o3]
  exact Or.inl ⟨by simp,rfl,rfl,rfl⟩
 |cons n rest ih=>
  intro k h1 h2
  obtain⟨hlt,hnk,hr⟩:=zn h1
  have hlt':(k:Int)<y.l.length:=by omega
  have hw:=zg (k:=k) (by omega)
  obtain⟨n0,n1⟩:=hn n (lMg hnk)
  obtain⟨j,p,hp,e1,e2⟩:=hv.allIn i n.toNat hi (by omega)
  have hpin:pIn x i n=j:=by
   have:=zc5 hv.toPiV hp
   rwa [e1,e2,show ((n.toNat:Nat):Int)=n by omega]at this
  have c1:=e69 x hx.pi i n
  rw[hpin]at c1
  have hjl:j<s.credits.l.length:=by rw[hl];exact (gEs.1 hp).1
  obtain⟨c,hc⟩:∃c,s.credits.l[j]?=some c:=⟨_,gEg hjl⟩
  have c2:=e133 c (hs.hc c (lMg hc)).len
  have hcp:crAt s.pl (pIn x i n)=c.pl:=by rw[hpin];exact zek hc
  have j0:¬(j:Int)<0:=by omega
  rw[zb]
  cases he:endC c.pl with
  |true=>
   rw[he]at c2
   obtain⟨q,F,H',d1,d2⟩:=zc.1 (ih (k+1) hr (by omega))
   simp only[iNa,iCo]at d1
   simp[zjO,zpf,hlt,hlt',hnk,hA,hB,c1,hc,c2,hw,d1,o1,o2,o3,gEz, -getElem?_pos]
   rcases d2 with⟨d3,d4⟩|⟨⟨m,m1,m2⟩,d4⟩
   .exact Or.inl ⟨fun m hm=>by rcases lMc.1 hm with rfl|hm;rw[hcp];exact he;exact d3 m hm,d4⟩
   .exact Or.inr ⟨⟨m,List.mem_cons_of_mem _ m1,m2⟩,d4⟩
  |false=>
   rw[he]at c2
   simp[zjO,zpf,hlt,hlt',hnk,hA,hB,c1,hc,c2,o1,o2,o3,gEz, -getElem?_pos]
   exact Or.inr ⟨⟨n,by simp,by rw[hcp];exact he⟩,rfl,rfl⟩
theorem znp {g:Sg} {t:SS} (h:zal g t=0):(zjC g t).length≤1000:=by
 obtain⟨g1,g2⟩:=zw.1 h
 obtain⟨f1,f2,f3,f4⟩:=zK g2
 unfold zjC
 split
 .rename_i k8
  have:zT g=2:=by simp[zT,k8]
  omega
 .split
  .split
   .simp
   .split
    .simp
    .split<;>simp
  .split<;>simp
theorem zqt (hx:PlN x) (hv:PlV x) (hs:FsN s) (hl:s.credits.l.length=x.pipes.l.length) (hl2:s.stages.l.length=x.stages.l.length) (hN:∀i:Nat,i<x.stages.l.length→zal (sgAt x i) (stAt s.pl i)=0):∀(rest:List Ss) (k:Nat) (H:Heap),s.stages.l.drop k=rest→k≤s.stages.l.length→H[0]?=some (.arr 0 2 false [x.av])→H[1]?=some (.arr 0 4 false [s.av])→
  okC (W.loop [2,3,64,65,66] zun [(2,.optr 0 0 0 0),(3,.optr 1 0 0 0),(64,Sl.av Ss.av 3 s.stages),(65,I s.stages.l.length),(66,I k)] H)
   (fun q F H'=>AllB (fun i=>i<x.stages.l.length→zpT x s.pl i) k 2 [] [] 4 (.arr 0 2 false [x.av]) (.arr 0 4 false [s.av]) q F H'):=by
 have hst:=hs.st
 intro rest
 induction rest with
 |nil=>
  intro k H h1 h2 hA hB
  have hk:=zf h1 h2
  rw[zb]
  simp[zjN,zpe,hk]
  exact Or.inl ⟨fun j hj hjl=>by omega,rfl,rfl,hA,hB⟩
 |cons t rest ih=>
  intro k H h1 h2 hA hB
  obtain⟨hlt,ht,hrr⟩:=zn h1
  have hlt':(k:Int)<s.stages.l.length:=by omega
  have hw:=zg (k:=k) (by omega)
  have hkx:k<x.stages.l.length:=by omega
  have hg:=zaV hkx
  have hne:=hN k hkx
  have hsp:=zcC ht
  rw[hsp]at hne
  have hsc:=hs.hs t (lMg ht)
  have h9:(sgAt x k).kind=9→0≤t.count∧t.count≤3:=fun k9=>by
   obtain⟨f1,f2,f3,f4⟩:=zK (zw.1 hne).2
   have hC:zI (sgAt x k)=3:=by simp[zI,k9]
   have f1':0≤t.count:=f1
   have f2':t.count≤zI (sgAt x k):=f2
   exact⟨f1',by omega⟩
  obtain⟨y,c1,c2,c3⟩:=e146 (sgAt x k) t hsc h9
  have a0:=fun K=>app0 hA K
  have a1:=fun K=>app0 hB K
  have b2:∀B,(H++[B])[H.length]?=some B:=fun B=>zL H B
  obtain⟨q,F,H',d1,d2⟩:=zc.1 (zqu hx hv hs hl k hkx y (by rw[c2];exact znp hne) (fun n hn=>by rw[c2]at hn;have:=(zg0 hne n).1 hn;exact⟨this.1,this.2.1⟩) (Sl.av Ss.av 3 s.stages) (I s.stages.l.length) (I k) rfl rfl rfl (H++[.arr 0 3 false [t.av]]) (a0 _) (a1 _) y.l 0 rfl (by omega))
  rw[c2]at d2
  simp only[Int.natCast_zero]at d1
  rw[zb]
  rcases d2 with⟨d3,rfl,d4,rfl⟩|⟨⟨m,m1,m2⟩,rfl,d4⟩
  .simp at d4
   have ih:=ih (k+1) (H++[.arr 0 3 false [t.av]]) hrr (by omega) (a0 _) (a1 _)
   simp only[iNa,iCo]at ih
   obtain⟨q,F',H',f1,f2⟩:=zc.1 ih
   simp[zjN,zpe,hlt,hlt',hkx,ht,hg,a0,a1,b2,c1,d1,d4,hw,f1,gEz, -getElem?_pos]
   rcases f2 with⟨f3,f4⟩|f3
   .refine Or.inl ⟨fun j hj hjl=>?_,f4⟩
    by_cases hjk:j=k
    .subst hjk
     unfold zpT
     rw[hsp]
     exact d3
    .exact f3 j (by omega) hjl
   .exact Or.inr f3
  .simp[zjN,zpe,hlt,hlt',hkx,ht,hg,a0,a1,b2,c1,d1,d4,gEz, -getElem?_pos]
   refine Or.inr ⟨⟨k,fun h=>?_⟩,rfl,d4⟩
   have:=h hkx m (by rw[hsp];exact m1)
   rw[this]at m2;cases m2
theorem zqp (hv:PlV x) {s:FS} (hl:s.cr.length=x.pipes.l.length) (hN:∀i:Nat,i<x.stages.l.length→zal (sgAt x i) (stAt s i)=0):
  (∀i:Nat,i<x.stages.l.length→zpT x s i)↔∀(k:Nat) (c:CC) (y:Pi),s.cr[k]?=some c→x.pipes.l[k]?=some y→zah (sgAt x y.dst) (stAt s y.dst) y.input=true→endC c=true:=by
 constructor
 .intro h k c y hc hy hn
  have hr:=hv.rng k y hy
  have hd:((y.dst.toNat:Nat):Int)=y.dst:=by omega
  have:=h y.dst.toNat (by omega) y.input (by
   rw[hd]
   exact (zg0 (by have:=hN y.dst.toNat (by omega);rwa [hd]at this) _).2 ⟨hr.2.2.2.2.2.2.2.2.1,hr.2.2.2.2.2.2.2.2.2.1,hn⟩)
  rw[hd,zc5 hv.toPiV hy,zo3 hc]at this
  exact this
 .intro h i hi n hn
  obtain⟨n0,n1,n2⟩:=(zg0 (hN i hi) n).1 hn
  obtain⟨j,p,hp,e1,e2⟩:=hv.allIn i n.toNat hi (by omega)
  have hpin:pIn x i n=j:=by
   have:=zc5 hv.toPiV hp
   rwa [e1,e2,show ((n.toNat:Nat):Int)=n by omega]at this
  have hjl:j<s.cr.length:=by rw[hl];exact (gEs.1 hp).1
  have hc:=gEg hjl
  rw[hpin,zo3 hc]
  exact h j _ p hc hp (by rw[e1,e2,show ((n.toNat:Nat):Int)=n by omega];exact n2)
theorem zhA (s:FS) (c:CC) (y:Pi):crOk x s c y=(cr1B s c y&&(!zah (sgAt x y.dst) (stAt s y.dst) y.input||endC c)):=rfl
theorem zqj {k:Nat} {c:CC} (h:s.pl.cr[k]?=some c):∃c',s.credits.l[k]?=some c'∧c=c'.pl:=by
 unfold Fs.pl at h
 simp only[gEm]at h
 cases hk:s.credits.l[k]? with
 |none=>rw[hk]at h;cases h
 |some c'=>rw[hk]at h;cases h;exact⟨c',rfl,rfl⟩
theorem e98 (hx:PlN x) (hv:PlV x) (hs:FsN s) (hl:s.credits.l.length=x.pipes.l.length) (hl2:s.stages.l.length=x.stages.l.length) (hN:∀i:Nat,i<x.stages.l.length→zal (sgAt x i) (stAt s.pl i)=0):
  W.pure 98 [x.av,s.av]=some (.bool (all2 (crOk x s.pl) s.pl.cr x.pipes.l)):=by
 have hplc:s.pl.cr.length=x.pipes.l.length:=by simp[Fs.pl,hl]
 have hr:InR x.stages.l.length x.pipes.l:=fun y hy=>by
  obtain⟨k,hk⟩:=List.getElem?_of_mem hy
  have:=hv.rng k y hk
  exact⟨this.1,this.2.1,this.2.2.1,this.2.2.2.1⟩
 have run:∀(A:Option AV),((zam W fi98 [x.av,s.av] []).bind fun p=>frz p.2 8 p.1)=A→W.pure 98 [x.av,s.av]=A:=fun A h=>by rw[zd Φ98 (by simp)];exact h
 have val:∀b:Bool,(b=true↔(∀(k:Nat) (c:CC) (y:Pi),s.pl.cr[k]?=some c→x.pipes.l[k]?=some y→crOk x s.pl c y=true))→all2 (crOk x s.pl) s.pl.cr x.pipes.l=b:=fun b h=>by
  rw[Bool.eq_iff_iff,zcm,h]
  exact⟨fun h=>h.2,fun h=>⟨hplc,h⟩⟩
 have hnt:=zqp hv hplc hN
 obtain⟨q,F,H,d1,d2⟩:=zc.1 (zqs hx hs hr hl hl2 s.credits.l 0 [.arr 0 2 false [x.av],.arr 0 4 false [s.av]] rfl (by omega) rfl rfl)
 simp at d1
 rcases d2 with⟨d3,rfl,d4,dA,dB⟩|⟨⟨j,d3⟩,rfl,d4⟩
 .simp at d4
  obtain⟨q,F',H',f1,f2⟩:=zc.1 (zqt hx hv hs hl hl2 hN s.stages.l 0 H rfl (by omega) dA dB)
  simp at f1
  rcases f2 with⟨f3,rfl,f4,fA,fB⟩|⟨⟨j,f3⟩,rfl,f4⟩
  .rw[val true ?_]
   .refine run _ ?_
    simp[fi98,c98,d1,d4,dA,dB,f1,gEz, -getElem?_pos]
   .simp only[true_iff]
    intro k c y hc hy
    obtain⟨c',hc',rfl⟩:=zqj hc
    rw[zhA,d3 k (by omega) c' y hc' hy,Bool.true_and]
    have:=hnt.1 (fun i hi=>f3 i (by omega) hi) k _ y hc hy
    cases hn:zah (sgAt x y.dst) (stAt s.pl y.dst) y.input with
    |false=>rfl
    |true=>rw[this hn];rfl
  .rw[val false ?_]
   .refine run _ ?_
    simp[fi98,c98,d1,d4,dA,dB,f1,f4,gEz, -getElem?_pos]
   .simp only[bFt,false_iff]
    intro h
    refine f3 fun hj=>hnt.2 (fun k c y hc hy hn=>?_) j hj
    have:=h k c y hc hy
    rw[zhA,hn]at this
    simpa using (Bool.and_eq_true_iff.1 this).2
 .rw[val false ?_]
  .refine run _ ?_
   simp[fi98,c98,d1,d4]
  .simp only[bFt,false_iff]
   intro h
   refine d3 fun c y hc hy=>?_
   have hc':s.pl.cr[j]?=some c.pl:=by simp[Fs.pl,hc]
   have:=h j _ y hc' hy
   rw[zhA]at this
   exact (Bool.and_eq_true_iff.1 this).1
end
theorem zxH (n:Int) (H:Heap):W.call (.clo 97 [] []) [I n] H=some (.bool (!isIt n),H):=by
 have c1:=e39 n (-1099511627776) 1099511627776
 rw[zj Φ97]
 simp[fi97,c97,c1,isIt]
section
variable {x:Pl} {s:Fs}
theorem zqz (hx:PlN x) (hs:FsN s) (hl2:s.stages.l.length=x.stages.l.length):∀(rest:List Ss) (k:Nat) (H:Heap),s.stages.l.drop k=rest→k≤s.stages.l.length→H[0]?=some (.arr 0 2 false [x.av])→H[1]?=some (.arr 0 4 false [s.av])→
  okC (W.loop [2,3,37,38,39] zuA [(2,.optr 0 0 0 0),(3,.optr 1 0 0 0),(37,Sl.av Ss.av 3 s.stages),(38,I s.stages.l.length),(39,I k)] H)
   (fun q F H'=>AllB (fun i=>i<x.stages.l.length→zal (sgAt x i) (stAt s.pl i)=0) k 0 [2,3] [(2,.optr 0 0 0 0),(3,.optr 1 0 0 0)] 4 (.arr 0 2 false [x.av]) (.arr 0 4 false [s.av]) q F H'):=by
 have hst:=hs.st
 intro rest
 induction rest with
 |nil=>
  intro k H h1 h2 hA hB
  have hk:=zf h1 h2
  rw[zb]
  simp[zjW,zpn,hk]
  exact Or.inl ⟨fun j hj hjl=>by omega,rfl,rfl,hA,hB⟩
 |cons t rest ih=>
  intro k H h1 h2 hA hB
  obtain⟨hlt,ht,hrr⟩:=zn h1
  have hlt':(k:Int)<s.stages.l.length:=by omega
  have hw:=zg (k:=k) (by omega)
  have hkx:k<x.stages.l.length:=by omega
  have hg:=zaV hkx
  have hsp:=zcC ht
  obtain⟨y,c1,c2,c3⟩:=e95 (sgAt x k) (hx.it _ (lMg hg)) t (hs.hs t (lMg ht))
  have a0:=fun K=>app0 hA K
  have a1:=fun K=>app0 hB K
  have b2:∀B,(H++[B])[H.length]?=some B:=fun B=>zL H B
  rw[zb]
  by_cases h:zal (sgAt x k) t.pl=0
  .rw[h]at c1
   have ih:=ih (k+1) (H++[.arr 0 3 false [t.av]]) hrr (by omega) (a0 _) (a1 _)
   simp only[iNa,iCo]at ih
   obtain⟨q,F',H',f1,f2⟩:=zc.1 ih
   simp[zjW,zpn,hlt,hlt',hkx,ht,hg,a0,a1,b2,c1,hw,f1,gEz, -getElem?_pos]
   rcases f2 with⟨f3,f4⟩|f3
   .refine Or.inl ⟨fun j hj hjl=>?_,f4⟩
    by_cases hjk:j=k
    .subst hjk
     rw[hsp];exact h
    .exact f3 j (by omega) hjl
   .exact Or.inr f3
  .simp[zjW,zpn,hlt,hlt',hkx,ht,hg,a0,a1,b2,c1,h,gEz, -getElem?_pos]
   exact Or.inr ⟨⟨k,fun hh=>h (by have:=hh hkx;rwa [hsp]at this)⟩,rfl,rfl⟩
def outB (l:List Int):Bool:=decide (l.length≤200)&&l.all isIt
theorem zqA (hs:FsN s) (A B:Blk):∀(rest:List (Sl Int)) (k:Nat) (H:Heap),s.outputs.l.drop k=rest→k≤s.outputs.l.length→H[0]?=some A→H[1]?=some B→
  okC (W.loop [2,3,58,59,60] zuB [(2,.optr 0 0 0 0),(3,.optr 1 0 0 0),(58,Sl.av (Sl.av I 1) 1 s.outputs),(59,I s.outputs.l.length),(60,I k)] H)
   (fun q F H'=>AllB (fun i=>∀o,s.outputs.l[i]?=some o→outB o.l=true) k 2 [2,3] [(2,.optr 0 0 0 0),(3,.optr 1 0 0 0)] 4 A B q F H'):=by
 have hou:=hs.ou
 intro rest
 induction rest with
 |nil=>
  intro k H h1 h2 hA hB
  have hk:=zf h1 h2
  rw[zb]
  simp[zhi,zmm,hk]
  exact Or.inl ⟨fun j hj o ho=>by have:=(gEs.1 ho).1;omega,rfl,rfl,hA,hB⟩
 |cons o rest ih=>
  intro k H h1 h2 hA hB
  obtain⟨hlt,ho,hrr⟩:=zn h1
  have hlt':(k:Int)<s.outputs.l.length:=by omega
  have hw:=zg (k:=k) (by omega)
  have hok:=hs.ho o (lMg ho)
  rw[zb]
  by_cases h2:200<o.l.length
  .have h2':(200:Int)<o.l.length:=by omega
   simp[zhi,zmm,hlt,hlt',ho,h2,h2',gEz, -getElem?_pos]
   exact Or.inr ⟨⟨k,fun hh=>by have:=hh o ho;simp[outB]at this;omega⟩,rfl,rfl⟩
  have h2':¬(200:Int)<o.l.length:=by omega
  obtain⟨v,H',d1,rfl,d2⟩:=zz.1 (zsp o (by omega) (.clo 97 [] []) rfl (fun a=> !isIt a) H (fun a _ H _=>by rw[zxH];exact⟨rfl,Kept.refl _ _⟩))
  rw[zhF]at d1
  cases ha:o.l.all isIt with
  |false=>
   rw[ha]at d1
   simp[zhi,zmm,hlt,hlt',ho,h2,h2',d1,gEz, -getElem?_pos]
   exact Or.inr ⟨⟨k,fun hh=>by have:=hh o ho;unfold outB at this;rw[ha,Bool.and_false]at this;cases this⟩,rfl,rfl⟩
  |true=>
   rw[ha]at d1
   have ih:=ih (k+1) H' hrr (by omega) (d2.get (by simp) hA) (d2.get (by simp) hB)
   simp only[iNa,iCo]at ih
   obtain⟨q,F',H2,f1,f2⟩:=zc.1 ih
   simp[zhi,zmm,hlt,hlt',ho,h2,h2',d1,hw,f1,gEz, -getElem?_pos]
   rcases f2 with⟨f3,f4⟩|f3
   .refine Or.inl ⟨fun j hj o' ho'=>?_,f4⟩
    by_cases hjk:j=k
    .subst hjk
     rw[ho]at ho';cases ho'
     unfold outB
     rw[ha];simp;omega
    .exact f3 j (by omega) o' ho'
   .exact Or.inr f3
theorem zcu (x:Pl) (s:FS):fsB x s=true↔s.st.length=x.stages.l.length∧s.cr.length=x.pipes.l.length∧s.out.length=zV x.stages.l∧(∀l∈s.out,outB l=true)∧(∀i:Nat,i<x.stages.l.length→zal (sgAt x i) (stAt s i)=0)∧all2 (crOk x s) s.cr x.pipes.l=true:=by
 unfold fsB
 simp only[bAt,dTe,lAt,and_assoc]
 constructor
 .rintro⟨h1,h2,h3,h4,h5,h6⟩
  refine⟨h1,h2,h3,fun l hl=>?_,fun i hi=>?_,h6⟩
  .have:=h4 l hl
   unfold outB
   simp only[bAt,dTe,lAt]
   exact this
  .obtain⟨_,h5⟩:=zcm.1 h5
   have hil:i<s.st.length:=by omega
   have:=h5 i _ _ (zaV hi) (gEg hil)
   simp only[dTe]at this
   unfold stAt
   rw[iTn,gEd,gEg hil]
   exact this
 .rintro⟨h1,h2,h3,h4,h5,h6⟩
  refine⟨h1,h2,h3,fun l hl=>?_,zcm.2 ⟨h1.symm,fun k a b ha hb=>?_⟩,h6⟩
  .have:=h4 l hl
   unfold outB at this
   simp only[bAt,dTe,lAt]at this
   exact this
  .have hk:=(gEs.1 ha).1
   have:=h5 k hk
   have e1:=zaV hk
   rw[ha]at e1;cases e1
   unfold stAt at this
   rw[iTn,gEd,hb]at this
   simpa using this
theorem e53 (hx:PlN x) (hv:PlV x) (hs:FsN s):W.pure 53 [x.av,s.av]=some (.bool (fsB x s.pl)):=by
 have run:∀(A:Option AV),((zam W fi53 [x.av,s.av] []).bind fun p=>frz p.2 8 p.1)=A→W.pure 53 [x.av,s.av]=A:=fun A h=>by rw[zd Φ53 (by simp)];exact h
 have p1:s.pl.st.length=s.stages.l.length:=by simp[Fs.pl]
 have p2:s.pl.cr.length=s.credits.l.length:=by simp[Fs.pl]
 have p3:s.pl.out.length=s.outputs.l.length:=by simp[Fs.pl]
 have no:¬(fsB x s.pl=true)→fsB x s.pl=false:=fun h=>by cases hb:fsB x s.pl with|false=>rfl|true=>exact absurd hb h
 have c1:=e43 x.stages hx.st
 by_cases h1:s.stages.l.length=x.stages.l.length
 rotate_left
 .have h1':¬((s.stages.l.length:Int)=x.stages.l.length):=by omega
  rw[no (fun h=>h1 (by rw[←p1];exact ((zcu x s.pl).1 h).1))]
  refine run _ ?_
  simp[fi53,c53,h1,h1']
 by_cases h2:s.credits.l.length=x.pipes.l.length
 rotate_left
 .have h2':¬((s.credits.l.length:Int)=x.pipes.l.length):=by omega
  rw[no (fun h=>h2 (by rw[←p2];exact ((zcu x s.pl).1 h).2.1))]
  refine run _ ?_
  simp[fi53,c53,eq_true h1,h2,h2']
 by_cases h3:s.outputs.l.length=zV x.stages.l
 rotate_left
 .have h3':¬((s.outputs.l.length:Int)=zV x.stages.l):=by omega
  rw[no (fun h=>h3 (by rw[←p3];exact ((zcu x s.pl).1 h).2.2.1))]
  refine run _ ?_
  simp[fi53,c53,eq_true h1,eq_true h2,c1,h3,h3']
 obtain⟨q,F,H,d1,d2⟩:=zc.1 (zqz hx hs h1 s.stages.l 0 [.arr 0 2 false [x.av],.arr 0 4 false [s.av]] rfl (by omega) rfl rfl)
 simp at d1
 rcases d2 with⟨d3,rfl,d4,dA,dB⟩|⟨⟨j,d3⟩,rfl,d4⟩
 rotate_left
 .rw[no (fun h=>d3 fun hj=>((zcu x s.pl).1 h).2.2.2.2.1 j hj)]
  refine run _ ?_
  simp[fi53,c53,eq_true h1,eq_true h2,c1,eq_true h3,d1,d4]
 simp at d4
 have hN:∀i:Nat,i<x.stages.l.length→zal (sgAt x i) (stAt s.pl i)=0:=fun i hi=>d3 i (by omega) hi
 obtain⟨q,F2,H2,f1,f2⟩:=zc.1 (zqA hs _ _ s.outputs.l 0 H rfl (by omega) dA dB)
 simp at f1
 rcases f2 with⟨f3,rfl,f4,fA,fB⟩|⟨⟨j,f3⟩,rfl,f4⟩
 rotate_left
 .rw[no (fun h=>f3 fun o ho=>((zcu x s.pl).1 h).2.2.2.1 o.l (by simp only[Fs.pl];exact List.mem_map.2 ⟨o,lMg ho,rfl⟩))]
  refine run _ ?_
  simp[fi53,c53,eq_true h1,eq_true h2,c1,eq_true h3,d1,d4,dA,dB,f1,f4,gEz, -getElem?_pos]
 simp at f4
 have c2:=e98 hx hv hs h2 h1 hN
 have hfin:fsB x s.pl=all2 (crOk x s.pl) s.pl.cr x.pipes.l:=by
  rw[Bool.eq_iff_iff,zcu]
  constructor
  .exact fun h=>h.2.2.2.2.2
  .intro h
   refine⟨by rw[p1];exact h1,by rw[p2];exact h2,by rw[p3];exact h3,fun l hl=>?_,hN,h⟩
   simp only[Fs.pl]at hl
   obtain⟨o,ho,rfl⟩:=List.mem_map.1 hl
   obtain⟨j,hj⟩:=List.getElem?_of_mem ho
   exact f3 j (by omega) o hj
 rw[hfin]
 refine run _ ?_
 have h1i:=eq_true (show ((s.stages.l.length:Int)=x.stages.l.length) by omega)
 have h2i:=eq_true (show ((s.credits.l.length:Int)=x.pipes.l.length) by omega)
 have h3i:=eq_true (show ((s.outputs.l.length:Int)=zV x.stages.l) by omega)
 simp[fi53,c53,h1i,h2i,h3i,eq_true h1,eq_true h2,c1,eq_true h3,d1,d4,dA,dB,f1,f4,fA,fB,c2,gEz, -getElem?_pos]
theorem e16 (hx:PlN x) (hs:FsN s):W.pure 16 [x.av,s.av]=some (I (vaI x s.pl)):=by
 have run:∀(A:Option AV),((zam W fi16 [x.av,s.av] []).bind fun p=>frz p.2 8 p.1)=A→W.pure 16 [x.av,s.av]=A:=fun A h=>by rw[zd Φ16 (by simp)];exact h
 have c1:=e24 x hx
 refine run _ ?_
 unfold vaI
 by_cases h:plI x=0
 .rw[h]at c1
  have c2:=e53 hx (zea h) hs
  cases hb:fsB x s.pl with
  |true=>rw[hb]at c2;rw[if_pos ⟨h,rfl⟩];simp[fi16,c16,c1,c2]
  |false=>rw[hb]at c2;rw[if_neg (fun h=>by cases h.2)];simp[fi16,c16,c1,c2]
 .rw[if_neg (fun hh=>h hh.1)]
  simp[fi16,c16,c1,h]
end
@[simp] theorem findHole_nil (t:Nat):zk t []=none:=rfl
theorem zeV {t:Nat}:∀{G:Heap},zk t G=none→∀l:Heap,zk t (G++l)=(zk t l).map (·+G.length)
 | [],_,l=>by simp
 |b::r,h,l=>by
  cases b<;>simp only[zk,List.cons_append]at h⊢<;>first
   |(split at h
     .cases h
     .rename_i hh
      rw[if_neg hh]
      simp only[Option.map_eq_none_iff]at h
      rw[zeV h l]
      cases zk t l<;>simp;omega)
   |(simp only[Option.map_eq_none_iff]at h
     rw[zeV h l]
     cases zk t l<;>simp;omega)
section
variable {x:Pl} {s:Fs}
theorem zqy (hs:FsN s) (A:Blk) (i:Nat) (o:Sl Int) (ho:s.outputs.l[i]?=some o):∀(rest:List Int) (k:Nat),o.l.drop k=rest→k≤o.l.length→
  okC (W.loop [3,5,6] zuz [(3,.optr 1 0 0 0),(5,I i),(6,I k)] [A,.arr 0 4 false [s.av]])
   (fun q F H=>if rest.all isIt=true then q= .exit 2∧F.keep [3,5]=[(3,.optr 1 0 0 0),(5,I i)]∧H=[A,.arr 0 4 false [s.av]] else q= .ret∧F.get 4= .bool false):=by
 have hb:=(hs.ho o (lMg ho)).2
 intro rest
 induction rest with
 |nil=>
  intro k h1 h2
  have hk:=zf h1 h2
  rw[zb]
  simp[zhh,zml,ho,hk,gEz,List.getElem?_cons_succ, -getElem?_pos]
 |cons n rest ih=>
  intro k h1 h2
  obtain⟨hlt,hn,hr⟩:=zn h1
  have hlt':(k:Int)<o.l.length:=by omega
  have hw:=zg (k:=k) (by omega)
  have ih:=ih (k+1) hr (by omega)
  simp only[iNa,iCo]at ih
  rw[zb]
  cases hi:isIt n with
  |false=>
   have:(n::rest).all isIt=false:=by simp[hi]
   rw[this]
   have h3:¬(-1099511627776≤n∧n≤1099511627776):=fun h=>by rw[(zo n).2 h]at hi;cases hi
   by_cases h4:n< -1099511627776
   .simp[zhh,zml,hlt,hlt',ho,hn,h4,gEz,List.getElem?_cons_succ, -getElem?_pos]
   .have h5:1099511627776<n:=by omega
    simp[zhh,zml,hlt,hlt',ho,hn,h4,h5,gEz,List.getElem?_cons_succ, -getElem?_pos]
  |true=>
   have:(n::rest).all isIt=rest.all isIt:=by simp[hi]
   rw[this]
   obtain⟨h3,h4⟩:=(zo n).1 hi
   have h5:¬n< -1099511627776:=by omega
   have h6:¬1099511627776<n:=by omega
   simp[zhh,zml,hlt,hlt',ho,hn,h5,h6,hw,gEz,List.getElem?_cons_succ, -getElem?_pos, -List.all_eq_true]
   simpa using ih
theorem zqx (hs:FsN s) (A:Blk):∀(rest:List (Sl Int)) (k:Nat),s.outputs.l.drop k=rest→k≤s.outputs.l.length→
  okC (W.loop [3,5] zuy [(3,.optr 1 0 0 0),(5,I k)] [A,.arr 0 4 false [s.av]])
   (fun q F H=>if rest.all (fun o=>outB o.l)=true then q= .exit 0 else q= .ret∧F.get 4= .bool false):=by
 have hou:=hs.ou
 intro rest
 induction rest with
 |nil=>
  intro k h1 h2
  have hk:=zf h1 h2
  rw[zb]
  simp[zhg,zmk,hk]
 |cons o rest ih=>
  intro k h1 h2
  obtain⟨hlt,ho,hr⟩:=zn h1
  have hlt':(k:Int)<s.outputs.l.length:=by omega
  have hw:=zg (k:=k) (by omega)
  have ih:=ih (k+1) hr (by omega)
  simp only[iNa,iCo]at ih
  rw[zb]
  by_cases h2:200<o.l.length
  .have h2':(200:Int)<o.l.length:=by omega
   have hb:outB o.l=false:=by unfold outB;rw[decide_eq_false (by omega)];rfl
   have:(o::rest).all (fun o=>outB o.l)=false:=by simp[hb]
   rw[this]
   simp[zhg,zmk,hlt,hlt',ho,h2,h2',gEz,List.getElem?_cons_succ, -getElem?_pos]
  have h2':¬(200:Int)<o.l.length:=by omega
  obtain⟨q,F,H,d1,d2⟩:=zc.1 (zqy hs A k o ho o.l 0 rfl (by omega))
  simp only[Int.natCast_zero]at d1
  cases ha:o.l.all isIt with
  |false=>
   rw[ha]at d2
   simp only[bFt,if_false]at d2
   obtain⟨rfl,d3⟩:=d2
   have hb:outB o.l=false:=by unfold outB;rw[ha,Bool.and_false]
   have:(o::rest).all (fun o=>outB o.l)=false:=by simp[hb]
   rw[this]
   simp[zhg,zmk,hlt,hlt',ho,h2,h2',d1,d3,gEz,List.getElem?_cons_succ, -getElem?_pos]
  |true=>
   rw[ha]at d2
   simp only[if_true]at d2
   obtain⟨rfl,d3,rfl⟩:=d2
   simp at d3
   have hb:outB o.l=true:=by unfold outB;rw[ha,decide_eq_true (by omega)];rfl
   have:(o::rest).all (fun o=>outB o.l)=rest.all (fun o=>outB o.l):=by simp[hb]
   rw[this]
   simp[zhg,zmk,hlt,hlt',ho,h2,h2',d1,d3,hw,gEz,List.getElem?_cons_succ, -getElem?_pos, -List.all_eq_true]
   simpa using ih
theorem e54 (hx:PlN x) (hs:FsN s):W.pure 54 [x.av,s.av]=some (.bool (decide (s.outputs.l.length=zV x.stages.l)&&s.outputs.l.all (fun o=>outB o.l))):=by
 have run:∀(A:Option AV),((zam W fi54 [x.av,s.av] []).bind fun p=>frz p.2 8 p.1)=A→W.pure 54 [x.av,s.av]=A:=fun A h=>by rw[zd Φ54 (by simp)];exact h
 have c1:=e48 x hx x.stages.l.length (by omega)
 rw[List.take_length]at c1
 refine run _ ?_
 by_cases h:s.outputs.l.length=zV x.stages.l
 .have hi:=eq_true (show ((s.outputs.l.length:Int)=zV x.stages.l) by omega)
  rw[decide_eq_true h,Bool.true_and]
  obtain⟨q,F,H,d1,d2⟩:=zc.1 (zqx hs (.arr 0 2 false [x.av]) s.outputs.l 0 rfl (by omega))
  simp only[Int.natCast_zero]at d1
  cases ha:s.outputs.l.all (fun o=>outB o.l) with
  |false=>
   rw[ha]at d2
   simp only[bFt,if_false]at d2
   obtain⟨rfl,d3⟩:=d2
   simp[fi54,c54,c1,hi,eq_true h,d1,d3]
  |true=>
   rw[ha]at d2
   simp only[if_true]at d2
   subst d2
   simp[fi54,c54,c1,hi,eq_true h,d1]
 .have hi:¬((s.outputs.l.length:Int)=zV x.stages.l):=by omega
  rw[decide_eq_false h,Bool.false_and]
  simp[fi54,c54,c1,hi,h]
def AllV (p:Nat→Prop) (k e:Nat) (fr:List Nat) (F0:Fr) (rv:Nat) (V:AV) (A B:Blk) (q:LX) (F:Fr) (H:Heap):Prop:=
 ((∀j:Nat,k≤j→p j)∧q= .exit e∧F.keep fr=F0∧H[0]?=some A∧H[1]?=some B∧zk 0 H=none)∨((∃j:Nat,¬p j)∧q= .ret∧F.get rv=V)
theorem zqL (hx:PlN x) (hs:FsN s) (hl2:s.stages.l.length=x.stages.l.length):∀(rest:List Ss) (k:Nat) (H:Heap),s.stages.l.drop k=rest→k≤s.stages.l.length→H[0]?=some (.arr 0 2 false [x.av])→H[1]?=some (.arr 0 4 false [s.av])→zk 0 H=none→
  okC (W.loop [2,3,5] zuT [(2,.optr 0 0 0 0),(3,.optr 1 0 0 0),(5,I k)] H)
   (fun q F H'=>AllV (fun i=>i<x.stages.l.length→zal (sgAt x i) (stAt s.pl i)=0) k 0 [2,3] [(2,.optr 0 0 0 0),(3,.optr 1 0 0 0)] 4 (I 1) (.arr 0 2 false [x.av]) (.arr 0 4 false [s.av]) q F H'):=by
 have hst:=hs.st
 intro rest
 induction rest with
 |nil=>
  intro k H h1 h2 hA hB hH
  have hk:=zf h1 h2
  rw[zb]
  simp[zj7,zpy,hA,hB,hk,gEz, -getElem?_pos]
  exact Or.inl ⟨fun j hj hjl=>by omega,rfl,rfl,hA,hB,hH⟩
 |cons t rest ih=>
  intro k H h1 h2 hA hB hH
  obtain⟨hlt,ht,hrr⟩:=zn h1
  have hlt':(k:Int)<s.stages.l.length:=by omega
  have hw:=zg (k:=k) (by omega)
  have hkx:k<x.stages.l.length:=by omega
  have hg:=zaV hkx
  have hsp:=zcC ht
  obtain⟨y,c1,c2,c3⟩:=e55 (sgAt x k) (hx.it _ (lMg hg)) t (hs.hs t (lMg ht))
  rw[zb]
  by_cases h:zal (sgAt x k) t.pl=0
  .rw[h]at c1
   have ih:=ih (k+1) H hrr (by omega) hA hB hH
   simp only[iNa,iCo]at ih
   obtain⟨q,F',H',f1,f2⟩:=zc.1 ih
   simp[zj7,zpy,hA,hB,hlt,hlt',hkx,ht,hg,c1,hw,f1,gEz, -getElem?_pos]
   rcases f2 with⟨f3,f4⟩|f3
   .refine Or.inl ⟨fun j hj hjl=>?_,f4⟩
    by_cases hjk:j=k
    .subst hjk
     rw[hsp];exact h
    .exact f3 j (by omega) hjl
   .exact Or.inr f3
  .simp[zj7,zpy,hA,hB,hlt,hlt',hkx,ht,hg,c1,h,gEz, -getElem?_pos]
   exact Or.inr ⟨⟨k,fun hh=>h (by have:=hh hkx;rwa [hsp]at this)⟩,rfl,rfl⟩
theorem zqM (hx:PlN x) (hs:FsN s) (hr:InR x.stages.l.length x.pipes.l) (hl:s.credits.l.length=x.pipes.l.length) (hl2:s.stages.l.length=x.stages.l.length):∀(rest:List Cr) (k:Nat) (H:Heap),s.credits.l.drop k=rest→k≤s.credits.l.length→H[0]?=some (.arr 0 2 false [x.av])→H[1]?=some (.arr 0 4 false [s.av])→zk 0 H=none→
  okC (W.loop [2,3,8] zqZ [(2,.optr 0 0 0 0),(3,.optr 1 0 0 0),(8,I k)] H)
   (fun q F H'=>AllV (fun j=>∀c y,s.credits.l[j]?=some c→x.pipes.l[j]?=some y→crOk x s.pl c.pl y=true) k 2 [] [] 4 (I 1) (.arr 0 2 false [x.av]) (.arr 0 4 false [s.av]) q F H'):=by
 have hcr:=hs.cr
 intro rest
 induction rest with
 |nil=>
  intro k H h1 h2 hA hB hH
  have hk:=zf h1 h2
  rw[zb]
  simp[zbP,zen,hA,hB,hk,gEz, -getElem?_pos]
  exact Or.inl ⟨fun j hj c y hc _=>by have:=(gEs.1 hc).1;omega,rfl,rfl,hA,hB,hH⟩
 |cons c rest ih=>
  intro k H h1 h2 hA hB hH
  obtain⟨hlt,hc,hrr⟩:=zn h1
  have hlt':(k:Int)<s.credits.l.length:=by omega
  have hw:=zg (k:=k) (by omega)
  have hlp:k<x.pipes.l.length:=by omega
  obtain⟨y,hy⟩:∃y,x.pipes.l[k]?=some y:=⟨_,gEg hlp⟩
  obtain⟨r1,r2,r3,r4⟩:=hr y (lMg hy)
  have hsl:y.src.toNat<s.stages.l.length:=by omega
  obtain⟨t,ht⟩:∃t,s.stages.l[y.src.toNat]?=some t:=⟨_,gEg hsl⟩
  have hdl:y.dst.toNat<s.stages.l.length:=by omega
  obtain⟨u,hu⟩:∃u,s.stages.l[y.dst.toNat]?=some u:=⟨_,gEg hdl⟩
  have hg:=zcF (x:=x) (i:=y.dst) r3 r4
  have hsc:=hs.hc c (lMg hc)
  have c1:=e56 c hsc
  have c2:=e57 (sgAt x y.dst) u (hs.hs u (lMg hu)) y.input
  have c3:=e58 c hsc
  have hst:stAt s.pl y.src=t.pl:=by
   have:=zcC ht
   rwa [show ((y.src.toNat:Nat):Int)=y.src by omega]at this
  have hsu:stAt s.pl y.dst=u.pl:=by
   have:=zcC hu
   rwa [show ((y.dst.toNat:Nat):Int)=y.dst by omega]at this
  have a0:=fun K=>app0 hA K
  have a1:=fun K=>app0 hB K
  have b0:=two0 H
  have b1:=two1 H
  have b2:∀B,(H++[B])[H.length]?=some B:=fun B=>zL H B
  have hh1:zk 0 (H++[Blk.hole 0])=some H.length:=by rw[zeV hH];simp
  have hh2:∀A B,zk 0 (H++[.arr 0 6 false [A],.arr 0 5 false [B]])=none:=fun A B=>by rw[zeV hH];simp
  have s1:∀B,(H++[Blk.hole 0]).set H.length B=H++[B]:=fun B=>by rw[List.set_append_right _ _ (Nat.le_refl _)];simp
  have ih':crOk x s.pl c.pl y=true→okC (W.loop [2,3,8] zqZ [(2,.optr 0 0 0 0),(3,.optr 1 0 0 0),(8,I ((k:Int)+1))] (H++[.arr 0 6 false [c.av],.arr 0 5 false [y.av]]))
   (fun q F H'=>AllV (fun j=>∀c y,s.credits.l[j]?=some c→x.pipes.l[j]?=some y→crOk x s.pl c.pl y=true) k 2 [] [] 4 (I 1) (.arr 0 2 false [x.av]) (.arr 0 4 false [s.av]) q F H'):=by
   intro hb
   have:=ih (k+1) (H++[.arr 0 6 false [c.av],.arr 0 5 false [y.av]]) hrr (by omega) (a0 _) (a1 _) (hh2 _ _)
   simp only[iNa,iCo]at this
   obtain⟨q,F,H',d1,d2⟩:=zc.1 this
   rw[d1]
   rcases d2 with⟨d3,d4⟩|d3
   .refine Or.inl ⟨fun j hj=>?_,d4⟩
    by_cases hjk:j=k
    .subst hjk
     intro c' y' hc' hy'
     rw[hc]at hc';cases hc'
     rw[hy]at hy';cases hy'
     exact hb
    .exact d3 j (by omega)
   .exact Or.inr d3
  have bad:crOk x s.pl c.pl y=false→∃j:Nat,¬∀c y,s.credits.l[j]?=some c→x.pipes.l[j]?=some y→crOk x s.pl c.pl y=true:=fun hb=>⟨k,fun h=>by rw[h c y hc hy]at hb;cases hb⟩
  have hB0:crOk x s.pl c.pl y=(decide (crI c.pl=0)&&decide (c.cap=y.capacity)&&(c.closed==t.ended)&&(c.closed||decide (c.granted=c.taken+c.cap))&&(!zah (sgAt x y.dst) u.pl y.input||endC c.pl)):=by
   unfold crOk;rw[hst,hsu];rfl
  have hnH:¬H=[]:=fun e=>by rw[e]at hA;cases hA
  have ap1:∀n,apart (.optr n 0 0 0) (Sl.av Pi.av 5 x.pipes)=true:=fun _=>rfl
  have ap2:∀n cs,apart (.optr n 0 0 0) (.eptr cs)=true:=fun _ _=>rfl
  have hole0:([0]:List Nat).map Blk.hole=[Blk.hole 0]:=rfl
  rw[zb]
  by_cases h1:crI c.pl=0
  rotate_left
  .have hb:crOk x s.pl c.pl y=false:=by rw[hB0];simp[h1]
   simp[zbP,zen,hA,hB,hlt,hlt',hlp,hc,hy,a0,a1,b0,b1,b2,hh1,s1,hnH,ap1,ap2,c1,h1,gEz, -getElem?_pos]
   exact Or.inr ⟨bad hb,rfl,rfl⟩
  have hv:=(zbb _).1 h1
  rw[h1]at c1
  have g1:=hv.sg;have g2:=hv.gm;have g3:=hv.t0;have g4:=hv.ts;have g5:=hv.c1;have g6:=hv.c2
  simp only[Cr.pl]at g1 g2 g3 g4 g5 g6
  have w1:IntKind.wrap .i64 (c.taken+c.cap)=c.taken+c.cap:=zr (by omega) (by omega)
  by_cases h2:c.cap=y.capacity
  rotate_left
  .have hb:crOk x s.pl c.pl y=false:=by rw[hB0];simp[h2]
   simp[zbP,zen,hA,hB,hlt,hlt',hlp,hc,hy,a0,a1,b0,b1,b2,hh1,s1,hnH,ap1,ap2,c1,h2,gEz, -getElem?_pos]
   exact Or.inr ⟨bad hb,rfl,rfl⟩
  by_cases h3:c.closed=t.ended
  rotate_left
  .have hb:crOk x s.pl c.pl y=false:=by rw[hB0];simp[h3]
   have h3':(c.closed !=t.ended)=true:=by simp[h3]
   simp[zbP,zen,hA,hB,hlt,hlt',hlp,hc,hy,a0,a1,b0,b1,b2,hh1,s1,hnH,ap1,ap2,c1,eq_true h2,r1,ht,h3',gEz, -getElem?_pos]
   exact Or.inr ⟨bad hb,rfl,rfl⟩
  have h3':(c.closed !=t.ended)=false:=by simp[h3]
  have fin:(c.closed||decide (c.granted=c.taken+c.cap))=true→crOk x s.pl c.pl y=(!zah (sgAt x y.dst) u.pl y.input||endC c.pl):=fun h=>by rw[hB0,h];simp[h1,h2,h3]
  by_cases h4:(c.closed||decide (c.granted=c.taken+c.cap))=true
  .have fin:=fin h4
   have hcond:(c.closed=false∧¬c.granted=c.taken+c.cap)=False:=by
    simp at h4
    apply eq_false
    rintro⟨q1,q2⟩
    rcases h4 with h4|h4
    .rw[q1]at h4;cases h4
    .exact q2 h4
   cases hn:zah (sgAt x y.dst) u.pl y.input with
   |false=>
    rw[hn]at c2 fin
    cases hcl:c.closed with
    |true=>
     rw[hcl]at h3'
     simp[zbP,zen,hA,hB,hlt,hlt',hlp,hc,hy,a0,a1,b0,b1,b2,hh1,s1,hnH,ap1,ap2,c1,eq_true h2,r1,r3,ht,hu,hg,h3',hcl,w1,c2,hw,gEz, -getElem?_pos]
     exact ih' fin
    |false=>
     rw[hcl]at h3' h4
     have h5:c.granted=c.taken+c.cap:=by simpa using h4
     simp[zbP,zen,hA,hB,hlt,hlt',hlp,hc,hy,a0,a1,b0,b1,b2,hh1,s1,hnH,ap1,ap2,c1,eq_true h2,r1,r3,ht,hu,hg,h3',hcl,w1,eq_true h5,c2,hw,gEz, -getElem?_pos]
     exact ih' fin
   |true=>
    rw[hn]at c2 fin
    cases he:endC c.pl with
    |true=>
     rw[he]at c3 fin
     cases hcl:c.closed with
     |true=>
      rw[hcl]at h3'
      simp[zbP,zen,hA,hB,hlt,hlt',hlp,hc,hy,a0,a1,b0,b1,b2,hh1,s1,hnH,ap1,ap2,c1,eq_true h2,r1,r3,ht,hu,hg,h3',hcl,w1,c2,c3,hw,gEz, -getElem?_pos]
      exact ih' fin
     |false=>
      rw[hcl]at h3' h4
      have h5:c.granted=c.taken+c.cap:=by simpa using h4
      simp[zbP,zen,hA,hB,hlt,hlt',hlp,hc,hy,a0,a1,b0,b1,b2,hh1,s1,hnH,ap1,ap2,c1,eq_true h2,r1,r3,ht,hu,hg,h3',hcl,w1,eq_true h5,c2,c3,hw,gEz, -getElem?_pos]
      exact ih' fin
    |false=>
     rw[he]at c3 fin
     cases hcl:c.closed with
     |true=>
      rw[hcl]at h3'
      simp[zbP,zen,hA,hB,hlt,hlt',hlp,hc,hy,a0,a1,b0,b1,b2,hh1,s1,hnH,ap1,ap2,c1,eq_true h2,r1,r3,ht,hu,hg,h3',hcl,w1,c2,c3,gEz, -getElem?_pos]
      exact Or.inr ⟨bad fin,rfl,rfl⟩
     |false=>
      rw[hcl]at h3' h4
      have h5:c.granted=c.taken+c.cap:=by simpa using h4
      simp[zbP,zen,hA,hB,hlt,hlt',hlp,hc,hy,a0,a1,b0,b1,b2,hh1,s1,hnH,ap1,ap2,c1,eq_true h2,r1,r3,ht,hu,hg,h3',hcl,w1,eq_true h5,c2,c3,gEz, -getElem?_pos]
      exact Or.inr ⟨bad fin,rfl,rfl⟩
  .have hb:crOk x s.pl c.pl y=false:=by
    have:(c.closed||decide (c.granted=c.taken+c.cap))=false:=by simpa using h4
    rw[hB0,this];simp
   simp at h4
   rw[h4.1]at h3'
   simp[zbP,zen,hA,hB,hlt,hlt',hlp,hc,hy,a0,a1,b0,b1,b2,hh1,s1,hnH,ap1,ap2,c1,eq_true h2,r1,ht,h3',h4.1,h4.2,w1,gEz, -getElem?_pos]
   exact Or.inr ⟨bad hb,rfl,rfl⟩
theorem e17 (hx:PlN x) (hs:FsN s):W.pure 17 [x.av,s.av]=some (I (vaI x s.pl)):=by
 have run:∀(A:Option AV),((zam W fi17 [x.av,s.av] []).bind fun p=>frz p.2 8 p.1)=A→W.pure 17 [x.av,s.av]=A:=fun A h=>by rw[zd Φ17 (by simp)];exact h
 have c1:=e20 x hx
 have c2:=e54 hx hs
 have p1:s.pl.st.length=s.stages.l.length:=by simp[Fs.pl]
 have p2:s.pl.cr.length=s.credits.l.length:=by simp[Fs.pl]
 have p3:s.pl.out.length=s.outputs.l.length:=by simp[Fs.pl]
 have no:¬(plI x=0∧fsB x s.pl=true)→vaI x s.pl=1:=fun h=>by unfold vaI;rw[if_neg h]
 by_cases h:plI x=0
 rotate_left
 .rw[no (fun hh=>h hh.1)]
  refine run _ ?_
  simp[fi17,c17,c1,h]
 rw[h]at c1
 have hv:=zea h
 have hr:InR x.stages.l.length x.pipes.l:=fun y hy=>by
  obtain⟨k,hk⟩:=List.getElem?_of_mem hy
  have:=hv.rng k y hk
  exact⟨this.1,this.2.1,this.2.2.1,this.2.2.2.1⟩
 by_cases h1:s.stages.l.length=x.stages.l.length
 rotate_left
 .have h1':¬((s.stages.l.length:Int)=x.stages.l.length):=by omega
  rw[no (fun hh=>h1 (by rw[←p1];exact ((zcu x s.pl).1 hh.2).1))]
  refine run _ ?_
  simp[fi17,c17,c1,h1,h1']
 have h1i:=eq_true (show ((s.stages.l.length:Int)=x.stages.l.length) by omega)
 by_cases h2:s.credits.l.length=x.pipes.l.length
 rotate_left
 .have h2':¬((s.credits.l.length:Int)=x.pipes.l.length):=by omega
  rw[no (fun hh=>h2 (by rw[←p2];exact ((zcu x s.pl).1 hh.2).2.1))]
  refine run _ ?_
  simp[fi17,c17,c1,h1i,eq_true h1,h2,h2']
 have h2i:=eq_true (show ((s.credits.l.length:Int)=x.pipes.l.length) by omega)
 cases h3:decide (s.outputs.l.length=zV x.stages.l)&&s.outputs.l.all (fun o=>outB o.l) with
 |false=>
  rw[h3]at c2
  rw[no (fun hh=>by
   obtain⟨q1,q2,q3,q4,_⟩:=(zcu x s.pl).1 hh.2
   have:s.outputs.l.all (fun o=>outB o.l)=true:=lAt.2 fun o ho=>q4 o.l (by simp only[Fs.pl];exact List.mem_map.2 ⟨o,ho,rfl⟩)
   rw[this,←p3,q3]at h3
   simp at h3)]
  refine run _ ?_
  simp[fi17,c17,c1,h1i,eq_true h1,h2i,eq_true h2,c2]
 |true=>
  rw[h3]at c2
  obtain⟨q,F,H,d1,d2⟩:=zc.1 (zqL hx hs h1 s.stages.l 0 [.arr 0 2 false [x.av],.arr 0 4 false [s.av]] rfl (by omega) rfl rfl rfl)
  simp only[Int.natCast_zero]at d1
  rcases d2 with⟨d3,rfl,d4,dA,dB,dH⟩|⟨⟨j,d3⟩,rfl,d4⟩
  rotate_left
  .rw[no (fun hh=>d3 fun hj=>((zcu x s.pl).1 hh.2).2.2.2.2.1 j hj)]
   refine run _ ?_
   simp[fi17,c17,c1,h1i,eq_true h1,h2i,eq_true h2,c2,d1,d4]
  simp at d4
  obtain⟨q,F2,H2,f1,f2⟩:=zc.1 (zqM hx hs hr h2 h1 s.credits.l 0 H rfl (by omega) dA dB dH)
  simp only[Int.natCast_zero]at f1
  rcases f2 with⟨f3,rfl,f4,_⟩|⟨⟨j,f3⟩,rfl,f4⟩
  .have hfs:fsB x s.pl=true:=by
    rw[zcu]
    simp only[bAt,dTe,lAt]at h3
    refine⟨by rw[p1];exact h1,by rw[p2];exact h2,by rw[p3];exact h3.1,fun l hl=>?_,fun i hi=>d3 i (by omega) hi,zcm.2 ⟨by rw[p2];exact h2,fun k c y hc hy=>?_⟩⟩
    .simp only[Fs.pl]at hl
     obtain⟨o,ho,rfl⟩:=List.mem_map.1 hl
     exact h3.2 o ho
    .obtain⟨c',hc',rfl⟩:=zqj hc
     exact f3 k (by omega) c' y hc' hy
   have:vaI x s.pl=0:=by unfold vaI;rw[if_pos ⟨h,hfs⟩]
   rw[this]
   refine run _ ?_
   simp[fi17,c17,c1,h1i,eq_true h1,h2i,eq_true h2,c2,d1,d4,f1]
  .rw[no (fun hh=>f3 fun c y hc hy=>by
    obtain⟨_,q⟩:=zcm.1 ((zcu x s.pl).1 hh.2).2.2.2.2.2
    exact q j c.pl y (by simp[Fs.pl,hc]) hy)]
   refine run _ ?_
   simp[fi17,c17,c1,h1i,eq_true h1,h2i,eq_true h2,c2,d1,d4,f1,f4]
end
@[simp] theorem apart_sl {α:Type} {f:α→AV} {sz:Nat} {x:Sl α} (a b c d:Nat):apart (.optr a b c d) (Sl.av f sz x)=true:=rfl
@[simp] theorem apart_ep (a b c d:Nat) (cs:List AV):apart (.optr a b c d) (.eptr cs)=true:=rfl
def zMv:Mv:=⟨zSs,za5,false,false,0,0,0⟩
def aMv:Mv:=⟨zSs,za5,false,false, -1,0,0⟩
theorem zv0:bldV [.isl (some true) 0 [],.int .i64 0,.bool false,.isl (some true) 0 [],.bool false,.bool false,.int .i64 0,.int .i64 0,.int .i64 0] [(6,1)] [.int .i64 (-1)]=aMv.av:=rfl
theorem zv1:bldV [.isl (some true) 0 [],.int .i64 0,.bool false,.isl (some true) 0 [],.bool false,.bool false,.int .i64 0,.int .i64 0,.int .i64 0] [] []=zMv.av:=rfl
structure MvR (x:Pl) (i:Int) (m:Mv) (v:MV):Prop where
 st:m.state.pl=v.st
 sh:SlN m.state.held
 out:m.sent.l.map Sl.l=v.out
 so:SlN m.sent
 sa:∀y∈m.sent.l,SlN y
 en:m.ended=v.st.ended
 tk:m.takes=decide (v.kind=2)
 pi:v.kind=2→pIn x i m.inp=v.pipe∧m.item=v.item
 e:m.e=v.e
theorem zf8 (g:Sg) (t:SS) (i n:Int):(zbs g t i n).1.ended=false:=by
 unfold zbs
 by_cases h:zbI g t i n=0
 .rw[if_neg (by simp[h])]
  by_cases hz:(zp g t i n).2.2=0
  .exact (zg1 h hz).2.1
  .rw[(zkI g t i n hz).1];rfl
 .rw[if_pos h];rfl
section
variable {x:Pl} {s:Fs}
theorem e85 (hx:PlN x) (hv:PlV x) (hs:FsN s) (hf:FsV x s.pl) (i:Nat) (hi:i<x.stages.l.length):
  ∃m:Mv,W.pure 85 [x.av,s.av,I i]=some (.tuple [m.av,.bool (decide ((zaQ x s.pl i).kind≠0))])∧SlN m.sent∧(∀y∈m.sent.l,SlN y)∧((zaQ x s.pl i).kind≠0→MvR x i m (zaQ x s.pl i)):=by
 have run:∀(A:Option AV),((zam W fi85 [x.av,s.av,I i] []).bind fun p=>frz p.2 8 p.1)=A→W.pure 85 [x.av,s.av,I i]=A:=fun A h=>by rw[zd Φ85 (by simp)];exact h
 have hls:s.stages.l.length=x.stages.l.length:=by have:=hf.ls;simpa[Fs.pl]using this
 have hlc:s.credits.l.length=x.pipes.l.length:=by have:=hf.lc;simpa[Fs.pl]using this
 have hit:i<s.stages.l.length:=by omega
 obtain⟨t,ht⟩:∃t,s.stages.l[i]?=some t:=⟨_,gEg hit⟩
 have hti:s.stages.l[i]=t:=(gEs.1 ht).2
 have hg:=zaV hi
 have hgi:x.stages.l[i]=sgAt x i:=(gEs.1 hg).2
 have hst:=zcC ht
 have hne:=hf.st i (by omega) (by omega)
 rw[hst]at hne
 obtain⟨g1,g2⟩:=zw.1 hne
 obtain⟨f1,f2,f3,f4⟩:=zK g2
 have hgx:=hx.it _ (lMg hg)
 have hth:=hs.hs t (lMg ht)
 have z0:MvR x i zMv mvZ:=⟨rfl,zu,rfl,zu,by simp[zMv],rfl,rfl,fun h=>absurd h (by simp[mvZ]),rfl⟩
 generalize hG:sgAt x i=g at *
 have hb0:=zv1
 have hb1:=zv0
 have hpe:t.pl.ended=t.ended:=rfl
 have hpc:t.pl.count=t.count:=rfl
 unfold zaQ
 rw[hG,hst]
 simp only[hpe,hpc]
 cases he:t.ended with
 |true=>
  rw[if_pos rfl]
  refine⟨zMv,run _ ?_,zu,by simp[zMv],fun h=>absurd rfl h⟩
  simp[fi85,c85,hi,hit,hti,hgi,he,hb0, -zJ]
  rfl
 |false=>
 rw[if_neg Bool.false_ne_true]
 by_cases k1:g.kind=1
 .rw[if_pos k1]
  have hdr:s.pl.drain=s.draining:=rfl
  have hC:zI g=g.items.l.length:=by simp[zI,k1]
  have f2':t.count≤zI g:=f2
  by_cases hd:s.draining=false∧t.count<g.items.l.length
  .rw[hdr,if_pos hd]
   obtain⟨u,o,c1,c2,c3,c4,c5,c6⟩:=e135 g hgx t hth (-1) 0
   have hend:=zf8 g t.pl (-1) 0
   have hcn:¬t.count=g.items.l.length:=by omega
   refine⟨⟨u,o,false,false, -1,0,(zbs g t.pl (-1) 0).2.2⟩,run _ ?_,c5,c6,fun _=>⟨c2,c3,c4,c5,c6,by simp only;exact hend.symm,rfl,fun h=>absurd h (by simp[mvZ]),rfl⟩⟩
   simp[fi85,c85,hi,hit,hti,hgi,he,hb0,hb1,eq_true k1,hd.1,hcn,c1,aMv, -zJ, -zao]
  .rw[hdr,if_neg hd]
   obtain⟨u,o,c1,c2,c3,c4,c5,c6⟩:=e134 g hgx t hth (-1)
   have hcn:s.draining=true∨t.count=g.items.l.length:=by
    cases h:s.draining with
    |true=>exact .inl rfl
    |false=>right;apply cBc;intro h2;exact hd ⟨h,by omega⟩
   refine⟨⟨u,o,u.ended,false, -1,0,(endS g t.pl (-1)).2.2⟩,run _ ?_,c5,c6,fun _=>⟨c2,c3,c4,c5,c6,by simp only;rw[←c2];rfl,rfl,fun h=>absurd h (by simp[mvZ]),rfl⟩⟩
   rcases hcn with h|h
   .simp[fi85,c85,hi,hit,hti,hgi,he,hb0,hb1,eq_true k1,h,c1,aMv, -zJ, -zao]
   .simp[fi85,c85,hi,hit,hti,hgi,he,hb0,hb1,eq_true k1,eq_true h,c1,aMv, -zJ, -zao]
 .rw[if_neg k1]
  obtain⟨n0,n1⟩:=zc7 hne k1
  obtain⟨y,a1,a2,a3⟩:=e95 g hgx t hth
  rw[hne]at a1 a2
  rw[if_pos rfl]at a2
  have hL:zcy g t.pl=[za8 g t.pl]:=by
   unfold zcy;rw[if_neg]
   rintro (h|h)
   .rw[hpe,he]at h;cases h
   .exact k1 h
  rw[hL]at a2
  generalize hn:za8 g t.pl=n at *
  obtain⟨k,p,hp,e1,e2⟩:=hv.allIn i n.toNat hi (by rw[hG];omega)
  have hpin:pIn x i n=k:=by
   have:=zc5 hv.toPiV hp
   rwa [e1,e2,show ((n.toNat:Nat):Int)=n by omega]at this
  have a4:=e69 x hx.pi i n
  rw[hpin]at a4⊢
  have hkl:k<s.credits.l.length:=by rw[hlc];exact (gEs.1 hp).1
  obtain⟨c,hc⟩:∃c,s.credits.l[k]?=some c:=⟨_,gEg hkl⟩
  have hck:s.credits.l[k]=c:=(gEs.1 hc).2
  have hcp:=zek hc
  rw[hcp]
  have hcn:=hs.hc c (lMg hc)
  have a5:=e133 c hcn.len
  have hci:c.pl.items=c.items.l:=rfl
  rw[hci]
  have hy0:y.l[0]?=some n:=by rw[a2];rfl
  cases hit2:c.items.l with
  |cons a r=>
   obtain⟨u,o,c1,c2,c3,c4,c5,c6⟩:=e135 g hgx t hth n a
   have hend:=zf8 g t.pl n a
   refine⟨⟨u,o,false,true,n,a,(zbs g t.pl n a).2.2⟩,run _ ?_,c5,c6,fun _=>⟨c2,c3,c4,c5,c6,by simp only;exact hend.symm,rfl,fun _=>⟨hpin,rfl⟩,rfl⟩⟩
   simp[fi85,c85,hi,hit,hti,hgi,he,hb0,hb1,k1,a1,a2,a4,hkl,hck,hit2,c1,aMv, -zJ, -zao]
  |nil=>
   cases hen:endC c.pl with
   |true=>
    rw[hen]at a5
    rw[if_pos rfl]
    obtain⟨u,o,c1,c2,c3,c4,c5,c6⟩:=e134 g hgx t hth n
    refine⟨⟨u,o,u.ended,false,n,0,(endS g t.pl n).2.2⟩,run _ ?_,c5,c6,fun _=>⟨c2,c3,c4,c5,c6,by simp only;rw[←c2];rfl,rfl,fun h=>absurd h (by simp[mvZ]),rfl⟩⟩
    simp[fi85,c85,hi,hit,hti,hgi,he,hb0,hb1,k1,a1,a2,a4,hkl,hck,hit2,a5,c1,aMv, -zJ, -zao]
   |false=>
    rw[hen]at a5
    rw[if_neg Bool.false_ne_true]
    refine⟨zMv,run _ ?_,zu,by simp[zMv],fun h=>absurd rfl h⟩
    simp[fi85,c85,hi,hit,hti,hgi,he,hb0,hb1,k1,a1,a2,a4,hkl,hck,hit2,a5,aMv, -zJ, -zao]
    rfl
end
structure ActR (a:Act) (v:MV):Prop where
 kd:a.kind=v.kind
 st:a.state.pl=v.st
 sh:SlN a.state.held
 out:a.out.l.map Sl.l=v.out
 so:SlN a.out
 sa:∀y∈a.out.l,SlN y
 pi:a.pipe=v.pipe
 it:a.item=v.item
 e:a.e=v.e
abbrev zAc:List AV:=[.int .i64 0,.isl (some true) 0 [],.int .i64 0,.bool false,.isl (some true) 0 [],.int .i64 0,.int .i64 0,.int .i64 0]
def zAct:Act:=⟨0,zSs,za5,0,0,0⟩
theorem zv4:bldV zAc [] []=zAct.av:=rfl
theorem zv3 (k p e:Int) (u:Ss) (o:Sl (Sl Int)):bldV zAc [(0,1),(1,3),(4,1),(5,1),(7,1)] [.int .i64 k,u.av,Sl.av (Sl.av I 1) 1 o,.int .i64 p,.int .i64 e]=(Act.mk k u o p 0 e).av:=rfl
theorem zv2 (k p a e:Int) (u:Ss) (o:Sl (Sl Int)):bldV zAc [(0,1),(1,3),(4,1),(5,1),(6,1),(7,1)] [.int .i64 k,u.av,Sl.av (Sl.av I 1) 1 o,.int .i64 p,.int .i64 a,.int .i64 e]=(Act.mk k u o p a e).av:=rfl
section
variable {x:Pl} {s:Fs}
theorem e47 (hx:PlN x) (hv:PlV x) (hs:FsN s) (hf:FsV x s.pl) (i:Nat) (hi:i<x.stages.l.length):
  ∃a:Act,W.pure 47 [x.av,s.av,I i]=some a.av∧ActR a (zaQ x s.pl i):=by
 have run:∀(A:Option AV),((zam W fi47 [x.av,s.av,I i] []).bind fun p=>frz p.2 8 p.1)=A→W.pure 47 [x.av,s.av,I i]=A:=fun A h=>by rw[zd Φ47 (by simp)];exact h
 have hls:s.stages.l.length=x.stages.l.length:=by have:=hf.ls;simpa[Fs.pl]using this
 have hlc:s.credits.l.length=x.pipes.l.length:=by have:=hf.lc;simpa[Fs.pl]using this
 have hit:i<s.stages.l.length:=by omega
 obtain⟨t,ht⟩:∃t,s.stages.l[i]?=some t:=⟨_,gEg hit⟩
 have hti:s.stages.l[i]=t:=(gEs.1 ht).2
 have hg:=zaV hi
 have hgi:x.stages.l[i]=sgAt x i:=(gEs.1 hg).2
 have hst:=zcC ht
 have hne:=hf.st i (by omega) (by omega)
 rw[hst]at hne
 obtain⟨g1,g2⟩:=zw.1 hne
 obtain⟨f1,f2,f3,f4⟩:=zK g2
 have hgx:=hx.it _ (lMg hg)
 have hth:=hs.hs t (lMg ht)
 have z0:ActR zAct mvZ:=⟨rfl,rfl,zu,rfl,zu,by simp[zAct],rfl,rfl,rfl⟩
 generalize hG:sgAt x i=g at *
 have hb0:=zv4
 have hb1:=zv3
 have hb2:=zv2
 have hpe:t.pl.ended=t.ended:=rfl
 have hpc:t.pl.count=t.count:=rfl
 unfold zaQ
 rw[hG,hst]
 simp only[hpe,hpc]
 cases he:t.ended with
 |true=>
  rw[if_pos rfl]
  refine⟨zAct,run _ ?_,z0⟩
  simp[fi47,c47,hi,hit,hti,hgi,he,hb0, -zJ]
 |false=>
 rw[if_neg Bool.false_ne_true]
 by_cases k1:g.kind=1
 .rw[if_pos k1]
  have hdr:s.pl.drain=s.draining:=rfl
  have hC:zI g=g.items.l.length:=by simp[zI,k1]
  have f2':t.count≤zI g:=f2
  by_cases hd:s.draining=false∧t.count<g.items.l.length
  .rw[hdr,if_pos hd]
   obtain⟨u,o,c1,c2,c3,c4,c5,c6⟩:=e91 g hgx t hth (-1) 0
   refine⟨⟨1,u,o, -1,0,(zbs g t.pl (-1) 0).2.2⟩,run _ ?_,⟨rfl,c2,c3,c4,c5,c6,rfl,rfl,rfl⟩⟩
   simp[fi47,c47,hi,hit,hti,hgi,he,hb0,hb1,eq_true k1,hd.1,hd.2,c1, -zJ, -zao]
  .rw[hdr,if_neg hd]
   obtain⟨u,o,c1,c2,c3,c4,c5,c6⟩:=e92 g hgx t hth (-1)
   refine⟨⟨3,u,o, -1,0,(endS g t.pl (-1)).2.2⟩,run _ ?_,⟨rfl,c2,c3,c4,c5,c6,rfl,rfl,rfl⟩⟩
   cases h:s.draining with
   |true=>simp[fi47,c47,hi,hit,hti,hgi,he,hb0,hb1,eq_true k1,h,c1, -zJ, -zao]
   |false=>
    have h2:¬t.count<g.items.l.length:=fun h2=>hd ⟨h,h2⟩
    simp[fi47,c47,hi,hit,hti,hgi,he,hb0,hb1,eq_true k1,h,h2,c1, -zJ, -zao]
 .rw[if_neg k1]
  obtain⟨n0,n1⟩:=zc7 hne k1
  obtain⟨y,a1,a2,a3⟩:=e55 g hgx t hth
  rw[hne]at a1 a2
  rw[if_pos rfl]at a2
  have hL:zcy g t.pl=[za8 g t.pl]:=by
   unfold zcy;rw[if_neg]
   rintro (h|h)
   .rw[hpe,he]at h;cases h
   .exact k1 h
  rw[hL]at a2
  generalize hn:za8 g t.pl=n at *
  obtain⟨k,p,hp,e1,e2⟩:=hv.allIn i n.toNat hi (by rw[hG];omega)
  have hpin:pIn x i n=k:=by
   have:=zc5 hv.toPiV hp
   rwa [e1,e2,show ((n.toNat:Nat):Int)=n by omega]at this
  have a4:=e65 x hx.pi i n
  rw[hpin]at a4⊢
  have hkl:k<s.credits.l.length:=by rw[hlc];exact (gEs.1 hp).1
  obtain⟨c,hc⟩:∃c,s.credits.l[k]?=some c:=⟨_,gEg hkl⟩
  have hck:s.credits.l[k]=c:=(gEs.1 hc).2
  have hcp:=zek hc
  rw[hcp]
  have hcn:=hs.hc c (lMg hc)
  have a5:=e58 c hcn
  have hci:c.pl.items=c.items.l:=rfl
  rw[hci]
  cases hit2:c.items.l with
  |cons a r=>
   obtain⟨u,o,c1,c2,c3,c4,c5,c6⟩:=e91 g hgx t hth n a
   refine⟨⟨2,u,o,k,a,(zbs g t.pl n a).2.2⟩,run _ ?_,⟨rfl,c2,c3,c4,c5,c6,rfl,rfl,rfl⟩⟩
   simp[fi47,c47,hi,hit,hti,hgi,he,hb0,hb1,hb2,k1,a1,a2,a4,hkl,hck,hit2,c1, -zJ, -zao]
  |nil=>
   cases hen:endC c.pl with
   |true=>
    rw[hen]at a5
    rw[if_pos rfl]
    obtain⟨u,o,c1,c2,c3,c4,c5,c6⟩:=e92 g hgx t hth n
    refine⟨⟨3,u,o, -1,0,(endS g t.pl n).2.2⟩,run _ ?_,⟨rfl,c2,c3,c4,c5,c6,rfl,rfl,rfl⟩⟩
    simp[fi47,c47,hi,hit,hti,hgi,he,hb0,hb1,k1,a1,a2,a4,hkl,hck,hit2,a5,c1, -zJ, -zao]
   |false=>
    rw[hen]at a5
    rw[if_neg Bool.false_ne_true]
    refine⟨zAct,run _ ?_,z0⟩
    simp[fi47,c47,hi,hit,hti,hgi,he,hb0,hb1,k1,a1,a2,a4,hkl,hck,hit2,a5, -zJ, -zao]
end
section
variable {x:Pl} {s:Fs}
theorem ztg (hx:PlN x) (hv:PlV x) (hs:FsN s) (hf:FsV x s.pl) {i:Nat} (hi:i<x.stages.l.length) {n:Nat} (hn:n<outK (sgAt x i).kind):∃(k:Nat) (c:Cr),pOut x i n=k∧k<s.credits.l.length∧s.credits.l[k]?=some c∧SlN c.items∧crAt s.pl (pOut x i n)=c.pl:=by
 have hlc:s.credits.l.length=x.pipes.l.length:=by have:=hf.lc;simpa[Fs.pl]using this
 obtain⟨k,p,hp,e1,e2⟩:=hv.allOut i n hi hn
 have hpo:pOut x i n=k:=by
  have:=zft hv.toPiV hp
  rwa [e1,e2]at this
 have hkl:k<s.credits.l.length:=by rw[hlc];exact (gEs.1 hp).1
 have hc:=gEg hkl
 exact⟨k,_,hpo,hkl,hc,hs.hc _ (lMg hc),by rw[hpo];exact zek hc⟩
theorem zw0 (hx:PlN x) (hv:PlV x) (hs:FsN s) (hf:FsV x s.pl) (i:Nat) (hi:i<x.stages.l.length) (o:Sl (Sl Int)) (ho:o.l.length≤outK (sgAt x i).kind) (m:Mv):∀(rest:List (Sl Int)) (k:Nat),o.l.drop k=rest→k≤o.l.length→
  okC (W.loop [2,4,5,12,13,14] zup [(2,I i),(4,.optr 0 0 0 0),(5,.optr 1 0 0 0),(12,Sl.av (Sl.av I 1) 1 o),(13,I o.l.length),(14,I k)] [.arr 0 2 false [x.av],.arr 0 4 false [s.av],.arr 0 9 false [m.av]])
   (fun q F H=>if fitO x s.pl i (rest.map Sl.l) k=true then q= .exit 0 else q= .ret∧F.get 8= .bool false):=by
 have h2:=zcd (sgAt x i).kind
 intro rest
 induction rest with
 |nil=>
  intro k h1 h2
  have hk:=zf h1 h2
  rw[zb]
  simp[zjP,zpg,hk,fitO]
 |cons y rest ih=>
  intro k h1 h2
  obtain⟨hlt,hy,hr⟩:=zn h1
  have hlt':(k:Int)<o.l.length:=by omega
  have hw:=zg (k:=k) (by omega)
  have hyk:o.l[k]=y:=(gEs.1 hy).2
  obtain⟨j,c,c1,c2,c3,c4,c5⟩:=ztg hx hv hs hf hi (n:=k) (by omega)
  have hcj:s.credits.l[j]=c:=(gEs.1 c3).2
  have d1:=e71 x hx.pi i k
  have d2:=e136 c c4.len
  rw[c1]at d1
  rw[zb]
  simp only[List.map_cons,fitO]
  rw[c5]
  by_cases h:(y.l.length:Int)≤zd6 c.pl
  .have h':¬zd6 c.pl<(y.l.length:Int):=by omega
   have ih:=ih (k+1) hr (by omega)
   simp only[iNa,iCo]at ih
   rw[decide_eq_true h,Bool.true_and]
   simp[zjP,zpg,hlt,hlt',hyk,d1,c2,hcj,d2,h',hw]
   simpa using ih
  .have h':zd6 c.pl<(y.l.length:Int):=by omega
   rw[decide_eq_false h,Bool.false_and]
   simp[zjP,zpg,hlt,hlt',hyk,d1,c2,hcj,d2,h']
theorem e86 (hx:PlN x) (hv:PlV x) (hs:FsN s) (hf:FsV x s.pl) (i:Nat) (hi:i<x.stages.l.length) (m:Mv) (ho:m.sent.l.length≤outK (sgAt x i).kind):W.pure 86 [x.av,s.av,I i,m.av]=some (.bool (fitO x s.pl i (m.sent.l.map Sl.l) 0)):=by
 obtain⟨q,F,H,d1,d2⟩:=zc.1 (zw0 hx hv hs hf i hi m.sent ho m m.sent.l 0 rfl (by omega))
 rw[zd Φ86 (by simp)]
 simp at d1
 cases h:fitO x s.pl i (m.sent.l.map Sl.l) 0 with
 |true=>
  rw[h]at d2
  simp only[if_true]at d2
  subst d2
  simp[fi86,c86,d1]
 |false=>
  rw[h]at d2
  simp only[bFt,if_false]at d2
  obtain⟨rfl,d3⟩:=d2
  simp[fi86,c86,d1,d3]
theorem e37 (hx:PlN x) (hv:PlV x) (hs:FsN s) (hf:FsV x s.pl) (i:Nat) (hi:i<x.stages.l.length):
  ∃m:Mv,W.pure 37 [x.av,s.av,I i]=some (.tuple [m.av,.bool (enB x s.pl i)])∧((zaQ x s.pl i).kind≠0→MvR x i m (zaQ x s.pl i)):=by
 obtain⟨m,c1,c2,c3,c4⟩:=e85 hx hv hs hf i hi
 have run:∀(A:Option AV),((zam W fi37 [x.av,s.av,I i] []).bind fun p=>frz p.2 8 p.1)=A→W.pure 37 [x.av,s.av,I i]=A:=fun A h=>by rw[zd Φ37 (by simp)];exact h
 refine⟨m,run _ ?_,c4⟩
 unfold enB
 by_cases hk:(zaQ x s.pl i).kind=0
 .simp only[hk,ne_eq,not_true,decide_false]at c1
  simp[fi37,c37,c1,hk]
 .have c4:=c4 hk
  simp only[hk,ne_eq,not_false_iff,decide_true]at c1
  by_cases he:(zaQ x s.pl i).e=0
  .have hme:m.e=0:=by rw[c4.e,he]
   have hmv:=(zc6 hv hf hi hk he).2.mv (zc6 hv hf hi hk he).1
   have hlen:m.sent.l.length=outK (sgAt x i).kind:=by rw[←hmv.len,←c4.out];simp
   have c5:=e86 hx hv hs hf i hi m (by omega)
   rw[c4.out]at c5
   simp[fi37,c37,c1,hk,he,hme,c5]
  .have hme:¬m.e=0:=by rw[c4.e];exact he
   simp[fi37,c37,c1,hk,he,hme]
theorem zw7 (hx:PlN x) (hv:PlV x) (hs:FsN s) (hf:FsV x s.pl) (i:Nat) (hi:i<x.stages.l.length) (a:Act) (ho:a.out.l.length≤outK (sgAt x i).kind):∀(rest:List (Sl Int)) (k:Nat),a.out.l.drop k=rest→k≤a.out.l.length→
  okC (W.loop [2,3,4,7,8] zuH [(2,I i),(3,.optr 0 0 0 0),(4,.optr 1 0 0 0),(7,.optr 2 0 0 0),(8,I k)] [.arr 0 2 false [x.av],.arr 0 4 false [s.av],.arr 0 8 false [a.av]])
   (fun q F H=>if fitO x s.pl i (rest.map Sl.l) k=true then q= .exit 0 else q= .ret∧F.get 6= .bool false):=by
 have h2:=zcd (sgAt x i).kind
 intro rest
 induction rest with
 |nil=>
  intro k h1 h2
  have hk:=zf h1 h2
  rw[zb]
  simp[zj0,zpr,hk,fitO]
 |cons y rest ih=>
  intro k h1 h2
  obtain⟨hlt,hy,hr⟩:=zn h1
  have hlt':(k:Int)<a.out.l.length:=by omega
  have hw:=zg (k:=k) (by omega)
  have hyk:a.out.l[k]=y:=(gEs.1 hy).2
  obtain⟨j,c,c1,c2,c3,c4,c5⟩:=ztg hx hv hs hf hi (n:=k) (by omega)
  have hcj:s.credits.l[j]=c:=(gEs.1 c3).2
  have d1:=e50 x hx.pi i k
  have d2:=e87 c c4
  rw[c1]at d1
  rw[zb]
  simp only[List.map_cons,fitO]
  rw[c5]
  by_cases h:(y.l.length:Int)≤zd6 c.pl
  .have h':¬zd6 c.pl<(y.l.length:Int):=by omega
   have ih:=ih (k+1) hr (by omega)
   simp only[iNa,iCo]at ih
   rw[decide_eq_true h,Bool.true_and]
   simp[zj0,zpr,hlt,hlt',hyk,d1,c2,hcj,d2,h',hw]
   simpa using ih
  .have h':zd6 c.pl<(y.l.length:Int):=by omega
   rw[decide_eq_false h,Bool.false_and]
   simp[zj0,zpr,hlt,hlt',hyk,d1,c2,hcj,d2,h']
theorem e38 (hx:PlN x) (hv:PlV x) (hs:FsN s) (hf:FsV x s.pl) (i:Nat) (hi:i<x.stages.l.length):W.pure 38 [x.av,s.av,I i]=some (.bool (enB x s.pl i)):=by
 obtain⟨a,c1,c2⟩:=e47 hx hv hs hf i hi
 have run:∀(A:Option AV),((zam W fi38 [x.av,s.av,I i] []).bind fun p=>frz p.2 8 p.1)=A→W.pure 38 [x.av,s.av,I i]=A:=fun A h=>by rw[zd Φ38 (by simp)];exact h
 refine run _ ?_
 unfold enB
 by_cases hk:(zaQ x s.pl i).kind=0
 .have hak:a.kind=0:=by rw[c2.kd,hk]
  simp[fi38,c38,c1,hk,hak]
 .have hak:¬a.kind=0:=by rw[c2.kd];exact hk
  by_cases he:(zaQ x s.pl i).e=0
  .have hae:a.e=0:=by rw[c2.e,he]
   have hmv:=(zc6 hv hf hi hk he).2.mv (zc6 hv hf hi hk he).1
   have hlen:a.out.l.length=outK (sgAt x i).kind:=by rw[←hmv.len,←c2.out];simp
   obtain⟨q,F,H,d1,d2⟩:=zc.1 (zw7 hx hv hs hf i hi a (by omega) a.out.l 0 rfl (by omega))
   rw[c2.out]at d2
   simp at d1
   cases h:fitO x s.pl i (zaQ x s.pl i).out 0 with
   |true=>
    rw[h]at d2
    simp only[if_true]at d2
    subst d2
    simp[fi38,c38,c1,hk,he,hak,hae,d1]
   |false=>
    rw[h]at d2
    simp only[bFt,if_false]at d2
    obtain⟨rfl,d3⟩:=d2
    simp[fi38,c38,c1,hk,he,hak,hae,d1,d3]
  .have hae:¬a.e=0:=by rw[c2.e];exact he
   simp[fi38,c38,c1,hk,he,hak,hae]
end
theorem zk9 {H:Heap} {o:Option Nat} {v:AV} {l:List Int} (h:Grow H 1 o v (l.map I)) (hl:l.length≤1048576) (n:Nat):∃y:Sl Int,frz H (n+1) v=some (Sl.av I 1 y)∧y.l=l∧SlN y:=by
 have:=h.frz (n:=n) (zbn (by simp) l)
 cases o with
 |none=>
  have hl0:l=[]:=by simpa using h.2
  subst hl0
  exact⟨za5,this,rfl,zu⟩
 |some id=>
  rw[if_neg (by simp),zcs]at this
  exact⟨ofL 1 l,this,rfl,zO hl⟩
theorem ze7 (x:Pl) (s:FS) (k:Nat):(idsG (k+1)).filter (enB x s)=(idsG k).filter (enB x s)++if enB x s k=true then [(k:Int)] else []:=by
 have:idsG (k+1)=idsG k++[(k:Int)]:=by simp[idsG,List.range_succ]
 rw[this,List.filter_append]
 congr 1
 by_cases h:enB x s k=true<;>simp[h]
theorem zlh (x:Pl) (s:FS) (k:Nat):((idsG k).filter (enB x s)).length≤k:=by
 have:=List.length_filter_le (enB x s) (idsG k)
 rw[zcO]at this
 exact this
def EnP (x:Pl) (s:FS) (w e:Nat) (q:LX) (F:Fr) (H:Heap):Prop:=q= .exit e∧∃o,Grow H 1 o (F.get w) ((enL x s).map I)
section
variable {x:Pl} {s:Fs}
theorem znw (hx:PlN x) (hv:PlV x) (hs:FsN s) (hf:FsV x s.pl):∀(m k:Nat) (H:Heap) (v:AV) (o:Option Nat),k+m=x.stages.l.length→H[0]?=some (.arr 0 2 false [x.av])→H[1]?=some (.arr 0 4 false [s.av])→Grow H 1 o v (((idsG k).filter (enB x s.pl)).map I)→o≠some 0→o≠some 1→
  okC (W.loop [2,3,7,19,20] zuX [(2,.optr 0 0 0 0),(3,.optr 1 0 0 0),(7,v),(19,I x.stages.l.length),(20,I k)] H) (fun q F H'=>EnP x s.pl 7 0 q F H')
 |0,k,H,v,o,hk,hA,hB,hG,n0,n1=>by
  have:k=x.stages.l.length:=by omega
  subst this
  rw[zb]
  simp[zka,zpB,hG.okO]
  exact⟨rfl,o,hG⟩
 |m+1,k,H,v,o,hk,hA,hB,hG,n0,n1=>by
  have hst:=hx.st
  have hlt:k<x.stages.l.length:=by omega
  have hlt':(k:Int)<x.stages.l.length:=by omega
  have hw:=zg (k:=k) (by omega)
  obtain⟨mv,c1,_⟩:=e37 hx hv hs hf k hlt
  have a0:=fun K=>app0 hA K
  have a1:=fun K=>app0 hB K
  have hG1:=hG.kept (Kept.append none H [.arr 0 9 false [mv.av]]) (by simp)
  rw[zb]
  cases hb:enB x s.pl k with
  |false=>
   rw[hb]at c1
   have hG2:Grow (H++[.arr 0 9 false [mv.av]]) 1 o v (((idsG (k+1)).filter (enB x s.pl)).map I):=by rw[ze7,hb];simpa using hG1
   have ih:=znw hx hv hs hf m (k+1) _ v o (by omega) (a0 _) (a1 _) hG2 n0 n1
   simp only[iNa,iCo]at ih
   simp[zka,zpB,hlt,hlt',hA,hB,hG.okO,c1,hw,gEz, -getElem?_pos]
   simp[zbZ,hw,hG.okO]
   simpa using ih
  |true=>
   rw[hb]at c1
   have hle:=zlh x s.pl k
   obtain⟨o',v',H',b1,b2,b3,b4,b5⟩:=hG1.app (y:= .isl (some false) 1 [I k]) (xs:=[I k]) (by simp) (by simp) (by simp[zaA];omega)
   have hG2:Grow H' 1 o' v' (((idsG (k+1)).filter (enB x s.pl)).map I):=by
    rw[ze7,hb];simpa using b2
   have l0:=(gEs.1 hA).1
   have l1:=(gEs.1 hB).1
   have m0:o'≠some 0:=by rcases b4 with rfl|⟨_,rfl,_⟩;exact n0;intro e;have e:=Option.some.inj e;rw[List.length_append,List.length_singleton]at e;omega
   have m1:o'≠some 1:=by rcases b4 with rfl|⟨_,rfl,_⟩;exact n1;intro e;have e:=Option.some.inj e;rw[List.length_append,List.length_singleton]at e;omega
   have ih:=znw hx hv hs hf m (k+1) H' v' o' (by omega) (b3.get n0 (a0 _)) (b3.get n1 (a1 _)) hG2 m0 m1
   simp only[iNa,iCo]at ih
   simp[zka,zpB,hlt,hlt',hA,hB,hG.okO,c1,hw,b1,b2.okO,gEz, -getElem?_pos]
   simp[zbZ,hw,hG.okO,b1,b2.okO]
   simpa using ih
theorem e12 (hx:PlN x) (hs:FsN s):∃y:Sl Int,W.pure 12 [x.av,s.av]=some (.tuple [Sl.av I 1 y,I (vaI x s.pl)])∧y.l=(if vaI x s.pl=0 then enL x s.pl else [])∧SlN y:=by
 have run:∀(A:Option AV),((zam W fi12 [x.av,s.av] []).bind fun p=>frz p.2 8 p.1)=A→W.pure 12 [x.av,s.av]=A:=fun A h=>by rw[zd Φ12 (by simp)];exact h
 have c1:=e16 hx hs
 by_cases h:vaI x s.pl=0
 rotate_left
 .rw[if_neg h]
  refine⟨za5,run _ ?_,rfl,zu⟩
  simp[fi12,c12,c1,h]
  rfl
 rw[if_pos h,h]
 rw[h]at c1
 obtain⟨hp,hf⟩:=zgJ.1 h
 have hv:=zea hp
 obtain⟨q,F,H,d1,rfl,o,d2⟩:=zc.1 (znw hx hv hs hf x.stages.l.length 0 [.arr 0 2 false [x.av],.arr 0 4 false [s.av]] (.isl (some true) 0 []) none (by omega) rfl rfl (zrb _ _) (by simp) (by simp))
 have hle:=zlh x s.pl x.stages.l.length
 have hst:=hx.st
 obtain⟨y,e1,e2,e3⟩:=zk9 d2 (by unfold enL;omega) 6
 refine⟨y,run _ ?_,e2,e3⟩
 simp at d1
 simp[fi12,c12,c1,d1,d2.okO,e1]
theorem znv (hx:PlN x) (hv:PlV x) (hs:FsN s) (hf:FsV x s.pl):∀(m k:Nat) (H:Heap) (v:AV) (o:Option Nat),k+m=x.stages.l.length→H[0]?=some (.arr 0 2 false [x.av])→H[1]?=some (.arr 0 4 false [s.av])→Grow H 1 o v (((idsG k).filter (enB x s.pl)).map I)→o≠some 0→o≠some 1→
  okC (W.loop [2,3,6,7] zuW [(2,.optr 0 0 0 0),(3,.optr 1 0 0 0),(6,v),(7,I k)] H) (fun q F H'=>EnP x s.pl 6 0 q F H')
 |0,k,H,v,o,hk,hA,hB,hG,n0,n1=>by
  have:k=x.stages.l.length:=by omega
  subst this
  rw[zb]
  simp[zj9,zpA,hA,hB,hG.okO,gEz, -getElem?_pos]
  exact⟨rfl,o,hG⟩
 |m+1,k,H,v,o,hk,hA,hB,hG,n0,n1=>by
  have hst:=hx.st
  have hlt:k<x.stages.l.length:=by omega
  have hlt':(k:Int)<x.stages.l.length:=by omega
  have hw:=zg (k:=k) (by omega)
  have c1:=e38 hx hv hs hf k hlt
  rw[zb]
  cases hb:enB x s.pl k with
  |false=>
   rw[hb]at c1
   have hG2:Grow H 1 o v (((idsG (k+1)).filter (enB x s.pl)).map I):=by rw[ze7,hb];simpa using hG
   have ih:=znv hx hv hs hf m (k+1) _ v o (by omega) hA hB hG2 n0 n1
   simp only[iNa,iCo]at ih
   simp[zj9,zpA,hlt,hlt',hA,hB,hG.okO,c1,hw,gEz, -getElem?_pos]
   simpa using ih
  |true=>
   rw[hb]at c1
   have hle:=zlh x s.pl k
   obtain⟨o',v',H',b1,b2,b3,b4,b5⟩:=hG.app (y:= .isl (some false) 1 [I k]) (xs:=[I k]) (by simp) (by simp) (by simp[zaA];omega)
   have hG2:Grow H' 1 o' v' (((idsG (k+1)).filter (enB x s.pl)).map I):=by
    rw[ze7,hb];simpa using b2
   have l0:=(gEs.1 hA).1
   have l1:=(gEs.1 hB).1
   have m0:o'≠some 0:=by rcases b4 with rfl|⟨_,rfl,_⟩;exact n0;intro e;have e:=Option.some.inj e;omega
   have m1:o'≠some 1:=by rcases b4 with rfl|⟨_,rfl,_⟩;exact n1;intro e;have e:=Option.some.inj e;omega
   have ih:=znv hx hv hs hf m (k+1) H' v' o' (by omega) (b3.get n0 hA) (b3.get n1 hB) hG2 m0 m1
   simp only[iNa,iCo]at ih
   simp[zj9,zpA,hlt,hlt',hA,hB,hG.okO,c1,hw,b1,b2.okO,gEz, -getElem?_pos]
   simpa using ih
theorem e13 (hx:PlN x) (hs:FsN s):∃y:Sl Int,W.pure 13 [x.av,s.av]=some (.tuple [Sl.av I 1 y,I (vaI x s.pl)])∧y.l=(if vaI x s.pl=0 then enL x s.pl else [])∧SlN y:=by
 have run:∀(A:Option AV),((zam W fi13 [x.av,s.av] []).bind fun p=>frz p.2 8 p.1)=A→W.pure 13 [x.av,s.av]=A:=fun A h=>by rw[zd Φ13 (by simp)];exact h
 have c1:=e17 hx hs
 by_cases h:vaI x s.pl=0
 rotate_left
 .rw[if_neg h]
  have h1:vaI x s.pl=1:=by
   unfold vaI at h⊢
   split
   .rename_i hh;rw[if_pos hh]at h;exact absurd rfl h
   .rfl
  rw[h1]at c1⊢
  have hf:=zaX (H:=[.arr 0 2 false [x.av],.arr 0 4 false [s.av],.arr 0 1 false []]) (n:=6) (id:=2) (v:=0) (len:=0) (l:=[]) rfl rfl
  refine⟨ofL 1 [],run _ ?_,rfl,nil1⟩
  simp[fi13,c13,c1,hf]
 rw[if_pos h,h]
 rw[h]at c1
 obtain⟨hp,hf⟩:=zgJ.1 h
 have hv:=zea hp
 obtain⟨q,F,H,d1,rfl,o,d2⟩:=zc.1 (znv hx hv hs hf x.stages.l.length 0 [.arr 0 2 false [x.av],.arr 0 4 false [s.av],.arr 0 1 false []] (.osl 2 0 0 0) (some 2) (by omega) rfl rfl (zn7 (l:=[]) rfl) (by simp) (by simp))
 have hle:=zlh x s.pl x.stages.l.length
 have hst:=hx.st
 obtain⟨y,e1,e2,e3⟩:=zk9 d2 (by unfold enL;omega) 6
 refine⟨y,run _ ?_,e2,e3⟩
 simp at d1
 simp[fi13,c13,c1,d1,d2.okO,e1]
end
def CrM (H:Heap) (b vb:Nat) (l:List CC) (cs:List Cr):Prop:=H[b]?=some (.arr vb 6 false (cs.map Cr.av))∧cs.map Cr.pl=l∧∀c∈cs,SlN c.items
abbrev zfY (sv ov dv:AV) (b vb m:Nat):Blk:= .arr 0 4 false [.agg [sv,.osl b vb 0 m,ov,dv]]
theorem CrM.set {H:Heap} {b vb:Nat} {l:List CC} {cs:List Cr} (h:CrM H b vb l cs) {k:Nat} {c:Cr} (hc:SlN c.items):CrM (H.set b (.arr vb 6 false ((cs.set k c).map Cr.av))) b vb (l.set k c.pl) (cs.set k c):=by
 obtain⟨h1,h2,h3⟩:=h
 refine⟨gEt (gEs.1 h1).1,by rw[List.map_set,h2],fun d hd=>?_⟩
 rcases List.mem_or_eq_of_mem_set hd with hd|rfl
 .exact h3 d hd
 .exact hc
theorem CrM.get {H:Heap} {b vb:Nat} {l:List CC} {cs:List Cr} (h:CrM H b vb l cs) {k:Nat} {c:Cr} (hk:cs[k]?=some c):l.getD k crZ=c.pl:=by
 rw[←h.2.1,gEd,gEm,hk];rfl
section
variable {x:Pl} {p b vb:Nat} {sv ov dv:AV} {m:Mv} {i:Nat}
theorem zqC (hpb:p≠b) (q4 q7:Nat) (k N n M:Nat) (y:Sl Int) (hy:y.l.length≤1048576):∀(rest:List Int) (j:Nat) (H:Heap) (l:List CC) (cs:List Cr),y.l.drop j=rest→j≤y.l.length→H[p]?=some (zfY sv ov dv b vb M)→CrM H b vb l cs→M=cs.length→k<cs.length→
  okC (W.loop [1,2,4,7,9,17,18,34,35,36] zuF [(1,.optr p 0 0 0),(2,I i),(4,.optr q4 0 0 0),(7,.optr q7 0 0 0),(9,I k),(17,I N),(18,I n),(34,Sl.av I 1 y),(35,I y.l.length),(36,I j)] H)
   (fun q F H'=>q= .exit 2∧F.keep [1,2,4,7,9,17,18]=[(1,.optr p 0 0 0),(2,I i),(4,.optr q4 0 0 0),(7,.optr q7 0 0 0),(9,I k),(17,I N),(18,I n)]∧Kept (some b) H H'∧∃cs',CrM H' b vb (l.set k (putC rest (l.getD k crZ))) cs'∧cs'.length=cs.length):=by
 intro rest
 induction rest with
 |nil=>
  intro j H l cs h1 h2 hP hC hM hk
  have hj:=zf h1 h2
  rw[zb]
  simp[zoR,zsh,hj]
  refine⟨Kept.refl _ _,cs,?_,rfl⟩
  have hlk:k<l.length:=by rw[←hC.2.1];simpa using hk
  have:l.set k (putC [] (l.getD k crZ))=l:=by
   rw[gEd,gEg hlk]
   simp[putC]
  have hC2:CrM H b vb (l.set k (putC [] (l.getD k crZ))) cs:=this.symm▸hC
  simpa[gEd]using hC2
 |cons a rest ih=>
  intro j H l cs h1 h2 hP hC hM hk
  obtain⟨hlt,ha,hr⟩:=zn h1
  have hlt':(j:Int)<y.l.length:=by omega
  have hw:=zg (k:=j) (by omega)
  have hcg:=gEg hk
  generalize cs[k]=c at hcg
  have hcs:=hC.2.2 c (lMg hcg)
  obtain⟨c',c1,c2,c3⟩:=e89 c hcs a
  have hlc:=hC.get hcg
  have hC2:=hC.set (k:=k) c3
  have hK:Kept (some b) H (H.set b (.arr vb 6 false ((cs.set k c').map Cr.av))):=Kept.set _ _ _
  have hlk:k<l.length:=by rw[←hC.2.1];simpa using hk
  obtain⟨q,F,H',d1,rfl,d2,d3,cs',d4,d5⟩:=zc.1 (ih (j+1) _ _ _ hr (by omega) (hK.get (by simp;exact fun e=>hpb e.symm) hP) hC2 (by simpa using hM) (by simpa using hk))
  simp only[iNa,iCo]at d1
  have hput:(l.set k c'.pl).set k (putC rest ((l.set k c'.pl).getD k crZ))=l.set k (putC (a::rest) (l.getD k crZ)):=by
   rw[List.set_set]
   congr 1
   have:(l.set k c'.pl).getD k crZ=c'.pl:=by rw[gEd,gEt hlk];rfl
   rw[this,c2,hlc]
   rfl
  rw[hput]at d4
  have hkM:(k:Int)<M:=by omega
  have hkM':k<M:=by omega
  have hcav:(cs.map Cr.av)[k]?=some c.av:=by rw[gEm,hcg];rfl
  have hB:=hC.1
  simp at d2
  rw[zb]
  simp[zoR,zsh,hlt,hlt',ha,hP,hB,hkM,hkM',hcg,c1,hw,d1,gEz, -getElem?_pos, -List.map_set]
  refine⟨d2,hK.trans d3,cs',d4,by rw[d5];simp⟩
end
theorem zta {x y:Sl Int} (h:SlN x) (e:y=x∨y=za5):SlN y:=by
 rcases e with rfl|rfl
 .exact h
 .exact zu
section
variable {x:Pl} {p b vb:Nat} {sv ov dv:AV} {m:Mv} {i:Nat}
theorem zqB (hx:PlN x) (hv:PlV x) (hi:i<x.stages.l.length) (hpb:p≠b) (q4 q7 N M:Nat) (hM:M=x.pipes.l.length) (hN:N=outK (sgAt x i).kind) (hm:m.sent.l.length=N) (hms:∀y∈m.sent.l,SlN y) (n4:q4≠b) (n7:q7≠b):∀(rest:List (Sl Int)) (n:Nat) (H:Heap) (l:List CC) (cs:List Cr),m.sent.l.drop n=rest→n≤N→H[p]?=some (zfY sv ov dv b vb M)→H[q4]?=some (.arr 0 2 false [x.av])→H[q7]?=some (.arr 0 9 false [m.av])→CrM H b vb l cs→cs.length=M→
  okC (W.loop [1,2,4,7,17,18] zuE [(1,.optr p 0 0 0),(2,I i),(4,.optr q4 0 0 0),(7,.optr q7 0 0 0),(17,I N),(18,I n)] H)
   (fun q F H'=>q= .exit 0∧Kept (some b) H H'∧∃cs',CrM H' b vb (zbT x i m.ended (rest.map Sl.l) n l) cs'∧cs'.length=M):=by
 have h2:=zcd (sgAt x i).kind
 intro rest
 induction rest with
 |nil=>
  intro n H l cs h1 h2 hP hX hQ hC hl
  have hj:=zf h1 (by omega)
  have hj':¬((n:Int)<N):=by omega
  rw[zb]
  simp[zjY,zpp,hj',hj.symm,hm]
  exact⟨Kept.refl _ _,cs,hC,hl⟩
 |cons y rest ih=>
  intro n H l cs h1 h2' hP hX hQ hC hl
  obtain⟨hlt,ha,hr⟩:=zn h1
  have hlt':(n:Int)<N:=by omega
  have hltm:(n:Int)<m.sent.l.length:=by omega
  have hw:=zg (k:=n) (by omega)
  have hyn:m.sent.l[n]=y:=(gEs.1 ha).2
  have hy:=hms y (lMg ha)
  obtain⟨k,pp,hp,e1,e2⟩:=hv.allOut i n hi (by omega)
  have hpo:pOut x i n=k:=by
   have:=zft hv.toPiV hp
   rwa [e1,e2]at this
  have hk:k<cs.length:=by have:=(gEs.1 hp).1;omega
  have hkl:k<l.length:=by rw[←hC.2.1];simpa using hk
  have a1:=e71 x hx.pi i n
  rw[hpo]at a1
  obtain⟨q,F,H1,d1,rfl,d2,d3,cs1,d4,d5⟩:=zc.1 (zqC (sv:=sv) (ov:=ov) (dv:=dv) (i:=i) hpb q4 q7 k N n M y hy.2 y.l 0 H l cs rfl (by omega) hP hC (by omega) hk)
  simp at d1 d2
  obtain⟨g1,g2,g4,g7,g9,g17,g18⟩:=d2
  have hP1:=d3.get (by simpa using fun e=>hpb e.symm) hP
  have hX1:=d3.get (by simpa using fun e=>n4 e.symm) hX
  have hQ1:=d3.get (by simpa using fun e=>n7 e.symm) hQ
  have hk1:k<cs1.length:=by omega
  have hcg:=gEg hk1
  have hkM:k<M:=by omega
  have hkM':(k:Int)<M:=by omega
  have hc1l:cs1.length=M:=by omega
  have hk0:zbT x i m.ended ((y::rest).map Sl.l) n l=zbT x i m.ended (rest.map Sl.l) (n+1) (l.set k (if m.ended=true then (za4 (putC y.l (l.getD k crZ))).1 else putC y.l (l.getD k crZ))):=by
   simp only[List.map_cons,zbT,hpo,iTn]
  rw[hk0]
  generalize cs1[k]=c1g at hcg
  have hgk:c1g.pl=putC y.l (l.getD k crZ):=by
   have:=d4.get hcg
   rw[gEd,gEt hkl]at this
   exact this.symm
  cases he:m.ended with
  |false=>
   obtain⟨q,F2,H2,f1,rfl,f2,cs2,f3,f4⟩:=zc.1 (ih (n+1) H1 _ cs1 hr (by omega) hP1 hX1 hQ1 d4 hc1l)
   simp only[iNa,iCo]at f1
   rw[zb]
   simp[zjY,zpp,hlt',hltm,hX,hQ,a1,hlt,hyn,ha,d1,g1,g2,g4,g7,g9,g17,g18,hP1,hX1,hQ1,he,hw,f1,gEz, -getElem?_pos]
   rw[he]at f3
   refine⟨d3.trans f2,cs2,by simpa using f3,f4⟩
  |true=>
   have hcs:=d4.2.2 _ (lMg hcg)
   obtain⟨c',c1,c2,c3⟩:=e90 c1g hcs.len
   have c4:=zta hcs c3
   have hC2:=d4.set (k:=k) c4
   have hK:Kept (some b) H1 (H1.set b (.arr vb 6 false ((cs1.set k c').map Cr.av))):=Kept.set _ _ _
   rw[List.set_set]at hC2
   obtain⟨q,F2,H2,f1,rfl,f2,cs2,f3,f4⟩:=zc.1 (ih (n+1) _ _ _ hr (by omega) (hK.get (by simpa using fun e=>hpb e.symm) hP1) (hK.get (by simpa using fun e=>n4 e.symm) hX1) (hK.get (by simpa using fun e=>n7 e.symm) hQ1) hC2 (by simpa using hc1l))
   simp only[iNa,iCo]at f1
   have hB:=d4.1
   rw[zb]
   simp[zjY,zpp,hlt',hltm,hX,hQ,a1,hlt,hyn,ha,d1,g1,g2,g4,g7,g9,g17,g18,hP1,hX1,hQ1,hB,hcg,hkM,hkM',hc1l,c1,he,hw,f1,gEz, -getElem?_pos, -List.map_set]
   rw[he,c2,hgk]at f3
   refine⟨(d3.trans hK).trans f2,cs2,by simpa using f3,f4⟩
theorem zxI (hx:PlN x) (hv:PlV x) (hi:i<x.stages.l.length) (hpb:p≠b) (H:Heap) (l:List CC) (cs:List Cr) (hm:m.sent.l.length=outK (sgAt x i).kind) (hms:∀y∈m.sent.l,SlN y) (hP:H[p]?=some (zfY sv ov dv b vb x.pipes.l.length)) (hC:CrM H b vb l cs) (hl:cs.length=x.pipes.l.length):
  okV (W.call (.clo 46 [] []) [x.av,.optr p 0 0 0,I i,m.av] H) (fun v H'=>v= .tuple []∧Kept (some b) H H'∧∃cs',CrM H' b vb (zbT x i m.ended (m.sent.l.map Sl.l) 0 l) cs'∧cs'.length=x.pipes.l.length):=by
 have hlb:=(gEs.1 hC.1).1
 have hK:Kept (some b) H (H++[.arr 0 2 false [x.av],.arr 0 9 false [m.av]]):=Kept.append _ _ _
 have hC2:CrM (H++[.arr 0 2 false [x.av],.arr 0 9 false [m.av]]) b vb l cs:=⟨app0 hC.1 _,hC.2⟩
 obtain⟨q,F,H1,d1,rfl,d2,d3⟩:=zc.1 (zqB (sv:=sv) (ov:=ov) (dv:=dv) hx hv hi hpb H.length (H.length+1) _ _ rfl rfl hm hms (by omega) (by omega) m.sent.l 0 _ l cs rfl (by omega) (app0 hP _) (two0 _ _ _) (two1 _ _ _) hC2 hl)
 simp at d1
 have hg:=zaV hi
 have hgi:x.stages.l[i]=sgAt x i:=(gEs.1 hg).2
 have hgx:=hx.it _ (lMg hg)
 have a1:=e73 (sgAt x i) hgx
 have ho:outN (sgAt x i)=outK (sgAt x i).kind:=by
  have:=hv.sg _ (lMg hg)
  simp[outN,this]
 rw[ho]at a1
 rw[zj Φ46]
 simp[fi46,c46,hi,hgi,a1,d1]
 exact⟨hK.trans d2,d3⟩
end
theorem zp0 {c:CC} (h:crI c=0) (hi:c.items≠[]):(za6 c).2.2=0:=by
 unfold za6
 rw[if_neg (by simp[h])]
 cases hq:c.items with
 |nil=>exact absurd hq hi
 |cons a r=>rfl
section
variable {x:Pl} {p b vb:Nat} {sv ov dv:AV} {m:Mv} {i:Nat}
theorem zvS (hpb:p≠b) (ht:m.takes=false) (H:Heap) (l:List CC) (cs:List Cr) (hC:CrM H b vb l cs) (a:Int):
  okV (W.call (.clo 45 [] []) [x.av,.optr p 0 0 0,I i,m.av] H) (fun v H'=>v=I 0∧Kept (some b) H H'∧CrM H' b vb l cs):=by
 rw[zj Φ45]
 simp[fi45,c45,ht]
 exact⟨Kept.append _ _ _,app0 hC.1 _,hC.2⟩
theorem two2 (H:Heap) (A B C:Blk):(H++[A,B,C])[H.length+2]?=some C:=by
 rw[gEr (by omega)]
 simp
theorem ztx (hx:PlN x) (hpb:p≠b) (ht:m.takes=true) (H:Heap) (l:List CC) (cs:List Cr) (hP:H[p]?=some (zfY sv ov dv b vb cs.length)) (hC:CrM H b vb l cs) {k:Nat} (hk:pIn x i m.inp=k) {c:Cr} (hc:cs[k]?=some c) (hI:crI c.pl=0) (hne:c.items.l≠[]):
  okV (W.call (.clo 45 [] []) [x.av,.optr p 0 0 0,I i,m.av] H) (fun v H'=>v=I (zai c.pl).2∧Kept (some b) H H'∧∃cs',CrM H' b vb (l.set k (zai c.pl).1) cs'∧cs'.length=cs.length):=by
 have a1:=e69 x hx.pi i m.inp
 rw[hk]at a1
 have hkl:=(gEs.1 hc).1
 have hkl':(k:Int)<cs.length:=by omega
 have hlb:=(gEs.1 hC.1).1
 have hlp:=(gEs.1 hP).1
 have hcn:=hC.2.2 c (lMg hc)
 obtain⟨c',b1,b2,b3⟩:=e88 c hcn
 have b0:=zp0 hI hne
 rw[b0]at b1
 have hcl:(za6 c.pl).1.closed=c'.closed:=by rw[←b2];rfl
 have hB:=hC.1
 have hcav:(cs.map Cr.av)[k]?=some c.av:=by rw[gEm,hc];rfl
 unfold zai
 rw[hcl]
 cases hq:c'.closed with
 |true=>
  rw[if_pos rfl,zj Φ45]
  have hC2:=hC.set (k:=k) b3
  rw[b2]at hC2
  simp[fi45,c45,ht,a1,hP,hB,hkl,hkl',hc,hlb,hlp,b1,hq,two0,two1,two2,app0 hB,app0 hP,gEz, -getElem?_pos, -List.map_set]
  exact⟨(Kept.set _ _ _).trans (Kept.append _ _ _),_,⟨app0 hC2.1 _,hC2.2⟩,by simp⟩
 |false=>
  rw[if_neg Bool.false_ne_true,zj Φ45]
  obtain⟨c2,d1,d2,d3⟩:=e78 c' b3.len 1
  rw[b2]at d1 d2
  have d4:=zta b3 d3
  have hC2:=hC.set (k:=k) d4
  rw[d2]at hC2
  simp[fi45,c45,ht,a1,hP,hB,hkl,hkl',hc,hlb,hlp,b1,d1,hq,two0,two1,two2,app0 hB,app0 hP,gEz, -getElem?_pos, -List.map_set]
  exact⟨(Kept.set _ _ _).trans (Kept.append _ _ _),_,⟨app0 hC2.1 _,hC2.2⟩,by simp⟩
end
def OutM (H:Heap) (ov:AV) (outs:List (List Int)):Prop:=
 (ov= .isl (some true) 0 []∧outs=[])∨∃(bo vv:Nat) (ys:List (Sl Int)) (vs:List AV),6≤bo∧ov= .osl bo vv 0 ys.length∧ys.map Sl.l=outs∧(∀y∈ys,SlN y)∧ys.length≤1048576∧H[bo]?=some (.arr vv 1 false vs)∧
  (vs=ys.map (Sl.av I 1)∨∃(k id ver:Nat) (l:List Int),6≤id∧ys[k]?=some (ofL 1 l)∧vs=(ys.map (Sl.av I 1)).set k (.osl id ver 0 l.length)∧H[id]?=some (.arr ver 1 false (l.map I)))
theorem OutM.kept {H H':Heap} {ov:AV} {outs:List (List Int)} (h:OutM H ov outs) {j:Nat} (hj:j<6) (hk:Kept (some j) H H'):OutM H' ov outs:=by
 rcases h with h|⟨bo,vv,ys,vs,h1,h2,h3,h4,h5,h6,h7⟩
 .exact .inl h
 .refine .inr ⟨bo,vv,ys,vs,h1,h2,h3,h4,h5,hk.get (by simp;omega) h6,?_⟩
  rcases h7 with h7|⟨k,id,ver,l,g1,g2,g3,g4⟩
  .exact .inl h7
  .exact .inr ⟨k,id,ver,l,g1,g2,g3,hk.get (by simp;omega) g4⟩
theorem OutM.okO {H:Heap} {ov:AV} {outs:List (List Int)} (h:OutM H ov outs):okO ov=some ov:=by
 rcases h with⟨rfl,_⟩|⟨bo,vv,ys,vs,h1,rfl,_⟩<;>rfl
theorem zgL {y:Sl Int}:(Sl.av I 1 y).still=true:=by
 simp[Sl.av,AV.still]
theorem ziz {H:Heap} {n:Nat}:∀ys:List (Sl Int),frzs (frz H (n+1)) (ys.map (Sl.av I 1))=some (ys.map (Sl.av I 1))
 | []=>rfl
 |y::ys=>by simp only[List.map_cons,frzs,ziB H n zgL,ziz ys]
theorem zk8 {H:Heap} {n:Nat} {v:AV} {z:Sl Int} (hv:frz H (n+1) v=some (Sl.av I 1 z)):∀(ys:List (Sl Int)) (k:Nat),ys[k]?=some z→frzs (frz H (n+1)) ((ys.map (Sl.av I 1)).set k v)=some (ys.map (Sl.av I 1))
 | [],k,h=>by simp at h
 |y::ys,0,h=>by
  simp at h;subst h
  simp only[List.map_cons,List.set_cons_zero,frzs,hv,ziz ys]
 |y::ys,k+1,h=>by
  simp at h
  simp only[List.map_cons,List.set_cons_succ,frzs,ziB H n zgL,zk8 hv ys k h]
theorem zxZ (ys:List (Sl Int)):(ys.map (Sl.av I 1)).all (fun e=>e.cells.all AV.still)=true:=by
 rw[lAt]
 intro e he
 obtain⟨y,_,rfl⟩:=List.mem_map.1 he
 have:(Sl.av I 1 y).cells=[Sl.av I 1 y]:=rfl
 rw[this]
 simp[zgL]
theorem OutM.frz {H:Heap} {ov:AV} {outs:List (List Int)} (h:OutM H ov outs) (n:Nat):∃o:Sl (Sl Int),frz H (n+2) ov=some (Sl.av (Sl.av I 1) 1 o)∧o.l.map Sl.l=outs∧SlN o∧∀y∈o.l,SlN y:=by
 rcases h with⟨rfl,rfl⟩|⟨bo,vv,ys,vs,h1,rfl,h3,h4,h5,h6,h7⟩
 .exact⟨za5,rfl,rfl,zu,by simp⟩
 .refine⟨ofL 1 ys,?_,h3,zO h5,h4⟩
  have hl:vs.length=ys.length:=by
   rcases h7 with rfl|⟨k,id,ver,l,g1,g2,rfl,g4⟩<;>simp
  have et:(vs.drop 0).take ys.length=vs:=by rw[List.drop_zero,←hl,List.take_length]
  have e0:Go.Proofs.YtbddckhdbnmamaaGreat.frz H (n+2) (.osl bo vv 0 ys.length)=(match H[bo]? with
   |some (.arr v sz _ es)=>if v=vv∧0+ys.length≤es.length then (if ((es.drop 0).take ys.length).all (fun e=>e.cells.all AV.still) then some (.isl (some false) sz ((es.drop 0).take ys.length)) else (frzs (Go.Proofs.YtbddckhdbnmamaaGreat.frz H (n+1)) ((es.drop 0).take ys.length)).map (.isl (some false) sz)) else none
   |_=>none):=rfl
  rw[e0,h6]
  show (if vv=vv∧0+ys.length≤vs.length then (if ((vs.drop 0).take ys.length).all (fun e=>e.cells.all AV.still) then some (AV.isl (some false) 1 ((vs.drop 0).take ys.length)) else (frzs (Go.Proofs.YtbddckhdbnmamaaGreat.frz H (n+1)) ((vs.drop 0).take ys.length)).map (AV.isl (some false) 1)) else none)=_
  rw[if_pos ⟨rfl,by rw[hl];omega⟩,et]
  rcases h7 with rfl|⟨k,id,ver,l,g1,g2,rfl,g4⟩
  .rw[if_pos (zxZ ys),zcs]
  .have hv:=zaX (n:=n) g4 (len:=l.length) rfl
   have hk:=(gEs.1 g2).1
   rw[if_neg,zk8 hv ys k g2,oMs,zcs]
   intro hh
   have:=lAt.1 hh (.osl id ver 0 l.length) (lMg (i:=k) (by rw[gEt (by simpa using hk)]))
   simp[AV.cells,AV.still]at this
abbrev zFs:Fs:=⟨za5,za5,za5,false⟩
theorem zfV:FsN zFs:=⟨by simp,by simp,by simp,zu,zu,zu,by simp,by simp,by simp⟩
theorem zeF:bldV [.isl (some true) 0 [],.isl (some true) 0 [],.isl (some true) 0 [],.bool false] [] []=zFs.av:=rfl
structure M14 (H:Heap) (x:Pl) (m:Mv) (sts:List Ss) (l:List CC) (cs:List Cr) (ov:AV) (outs:List (List Int)) (dr:Bool):Prop where
 h0:H[0]?=some (.arr 0 2 false [x.av])
 h1:H[1]?=some (zfY (.osl 4 sts.length 0 sts.length) ov (.bool dr) 5 cs.length cs.length)
 h2:H[2]?=some (.arr 0 4 false [zFs.av])
 h3:H[3]?=some (.arr 0 9 false [m.av])
 h4:H[4]?=some (.arr sts.length 3 false (sts.map Ss.av))
 h5:CrM H 5 cs.length l cs
 ho:OutM H ov outs
abbrev fr14 (i:Nat):Fr:=[(2,I i),(3,.optr 0 0 0 0),(4,.optr 1 0 0 0),(6,.optr 2 0 0 0),(9,.optr 3 0 0 0)]
section
variable {x:Pl} {s:Fs}
theorem e14a (hx:PlN x) (hs:FsN s) (i:Int) (h:vaI x s.pl≠0∨¬(0≤i∧i<x.stages.l.length)):W.pure 14 [x.av,s.av,I i]=some (.tuple [zFs.av,I (zdz x s.pl i).2])∧(zdz x s.pl i).1=fsZ:=by
 have run:∀(A:Option AV),((zam W fi14 [x.av,s.av,I i] []).bind fun p=>frz p.2 8 p.1)=A→W.pure 14 [x.av,s.av,I i]=A:=fun A h=>by rw[zd Φ14 (by simp)];exact h
 have c1:=e16 hx hs
 have hb:=zeF
 have hst:=hx.st
 have hw:IntKind.wrap .i64 ((x.stages.l.length:Int) - 1)=(x.stages.l.length:Int) - 1:=zr (by omega) (by omega)
 unfold zdz
 by_cases hv:vaI x s.pl=0
 .have h2:i<0∨(x.stages.l.length:Int) - 1<i:=by
   rcases h with h|h
   .exact absurd hv h
   .omega
  have h2':i<0∨(x.stages.l.length:Int)≤i:=by omega
  have c2:=e39f (l:=0) (h:=(x.stages.l.length:Int) - 1) h2
  rw[if_neg (by simp[hv]),if_pos h2']
  refine⟨run _ ?_,rfl⟩
  rw[hv]at c1
  simp[fi14,c14,c1,hw,c2,hb, -zJ]
 .rw[if_pos hv]
  refine⟨run _ ?_,rfl⟩
  simp[fi14,c14,c1,hv,hb, -zJ]
end
@[simp] theorem fsSet0 (s:Fs) (a b c d:Nat):ze [s.av] 0 0 (.osl a b c d)=some [.agg [.osl a b c d,Sl.av Cr.av 6 s.credits,Sl.av (Sl.av I 1) 1 s.outputs,.bool s.draining]]:=rfl
@[simp] theorem fsSet1 (u v w z:AV) (a b c d:Nat):ze [.agg [u,v,w,z]] 0 1 (.osl a b c d)=some [.agg [u,.osl a b c d,w,z]]:=rfl
@[simp] theorem fsSet2 (u v w z:AV) (a b c d:Nat):ze [.agg [u,v,w,z]] 0 2 (.osl a b c d)=some [.agg [u,v,.osl a b c d,z]]:=rfl
@[simp] theorem fsSet2n (u v w z:AV) (a:Option Bool) (n:Nat) (l:List AV):ze [.agg [u,v,w,z]] 0 2 (.isl a n l)=some [.agg [u,v,.isl a n l,z]]:=rfl
theorem zm8 {ys:List (Sl Int)} {k:Nat} {y:Sl Int} (hy:ys[k]?=some y) (a b c d:Nat):ze (ys.map (Sl.av I 1)) k 0 (.osl a b c d)=some ((ys.map (Sl.av I 1)).set k (.osl a b c d)):=by
 unfold ze
 rw[gEm,hy]
 rfl
theorem zpK (a b c d e f:Nat):apart (.osl 7 a b c) (.optr 1 d e f)=true:=rfl
theorem zkf (a:Option Bool) (n:Nat) (l:List AV) (d e f:Nat):apart (.isl a n l) (.optr 1 d e f)=true:=rfl
theorem zjA {H:Heap} {ys:List (Sl Int)} {k:Nat} {y:Sl Int} (hy:ys[k]?=some y) (hn:∀y∈ys,SlN y) (hl:ys.length≤1048576) (l:List Int) (hll:l.length≤1048576) {vv ver len:Nat} (hlen:len=l.length) (h6:H[6]?=some (.arr vv 1 false ((ys.map (Sl.av I 1)).set k (.osl 7 ver 0 len)))) (h7:H[7]?=some (.arr ver 1 false (l.map I))):OutM H (.osl 6 vv 0 ys.length) ((ys.map Sl.l).set k l):=by
 subst hlen
 have hk:=(gEs.1 hy).1
 refine .inr ⟨6,vv,ys.set k (ofL 1 l),_,by omega,by simp,by rw[List.map_set],?_,by simpa using hl,h6,.inr ⟨k,7,ver,l,by omega,by rw[gEt hk],?_,h7⟩⟩
 .intro z hz
  rcases List.mem_or_eq_of_mem_set hz with hz|rfl
  .exact hn z hz
  .exact zO hll
 .rw[List.map_set,List.set_set]
def ovG (s:Fs):AV:=if s.outputs.nl=some true then .isl (some true) 0 [] else .osl 6 s.outputs.l.length 0 s.outputs.l.length
def oG (s:Fs):Heap:=if s.outputs.nl=some true then [] else [.arr s.outputs.l.length 1 false (s.outputs.l.map (Sl.av I 1))]
abbrev hG (x:Pl) (s:Fs) (m:Mv) (ov:AV) (O:Heap):Heap:=[.arr 0 2 false [x.av],zfY (.osl 4 s.stages.l.length 0 s.stages.l.length) ov (.bool s.draining) 5 s.credits.l.length s.credits.l.length,.arr 0 4 false [zFs.av],.arr 0 9 false [m.av],.arr s.stages.l.length 3 false (s.stages.l.map Ss.av),.arr s.credits.l.length 6 false (s.credits.l.map Cr.av)]++O
section
variable {x:Pl} {s:Fs} {i:Nat}
theorem zxn (hx:PlN x) (hs:FsN s) (hv:vaI x s.pl=0) (i:Nat) (hi:i<x.stages.l.length) (hns:s.stages.nl=some false) (hnc:s.credits.nl=some false) {m:Mv} (c3:W.pure 37 [x.av,s.av,I i]=some (.tuple [m.av,.bool true])) (he:m.e=0):
  evC W (cutC 7 c14) [(0,x.av),(1,s.av),(2,I i)] []=some (.normal,fr14 i,hG x s m (ovG s) (oG s)):=by
 have c1:=e16 hx hs
 rw[hv]at c1
 have hst:=hx.st
 have hw:IntKind.wrap .i64 ((x.stages.l.length:Int) - 1)=(x.stages.l.length:Int) - 1:=zr (by omega) (by omega)
 have c2:=e39t (l:=0) (h:=(x.stages.l.length:Int) - 1) (a:=i) (by omega) (by omega)
 have d0:=fun H=>zxL s.stages hs.ns H
 have d1:=fun H=>zxK s.credits hs.nc H
 have d2:=fun H=>zxJ s.outputs hs.no H
 unfold ovG oG
 rcases hs.no.1 with⟨h1,h2⟩|h1
 .rw[if_pos h1,if_pos h1]
  simp[cutC,fi14,c14,c1,hw,c2,c3,he,d0,d1,d2,zaN,hns,hnc,h1]
  rfl
 .have h1':s.outputs.nl≠some true:=by rw[h1];simp
  rw[if_neg h1',if_neg h1']
  simp[cutC,fi14,c14,c1,hw,c2,c3,he,d0,d1,d2,zaN,hns,hnc,h1]
  rfl
theorem zkq (hi:i<x.stages.l.length) (h:(sgAt x i).kind=10):zV (x.stages.l.take i)<zV x.stages.l:=by
 have:=zkp (x:=x) (l:=x.stages.l) hi ⟨sgAt x i,zaV hi,h⟩
 rwa [List.take_length]at this
def skB (x:Pl) (m:Mv) (i:Nat):Bool:=decide ((sgAt x i).kind=10)&&m.takes
theorem zAI (hx:PlN x) (hs:FsN s) (hf:FsV x s.pl) (i:Nat) (hi:i<x.stages.l.length) (m:Mv):
  okC (evC W (cutC 1 (zB 7 c14)) (fr14 i) (hG x s m (ovG s) (oG s)))
   (fun q F H=>if skB x m i=true∧(s.pl.out.getD (zV (x.stages.l.take i)) []).length=200 then q= .ret∧F=[(6,.optr 2 0 0 0),(7,I 4)]∧H[2]?=some (.arr 0 4 false [zFs.av])
    else q= .normal∧(F=fr14 i∨F=fr14 i++[(66,.bool false)])∧∃ov,M14 H x m s.stages.l s.pl.cr s.credits.l ov (if skB x m i=true then s.pl.out.set (zV (x.stages.l.take i)) (s.pl.out.getD (zV (x.stages.l.take i)) []++[m.item]) else s.pl.out) s.draining):=by
 have hg:=zaV hi
 have hgi:x.stages.l[i]=sgAt x i:=(gEs.1 hg).2
 have hm0:∀O ov,OutM (hG x s m ov O) ov s.pl.out→M14 (hG x s m ov O) x m s.stages.l s.pl.cr s.credits.l ov s.pl.out s.draining:=fun O ov h=>⟨rfl,rfl,rfl,rfl,rfl,⟨rfl,rfl,hs.hc⟩,h⟩
 have hlo:s.outputs.l.length=zV x.stages.l:=by have:=hf.lo;simpa[Fs.pl]using this
 have hso:=hs.ou
 cases hsk:skB x m i with
 |false=>
  have h0:OutM (hG x s m (ovG s) (oG s)) (ovG s) s.pl.out:=by
   unfold ovG oG
   rcases hs.no.1 with⟨h1,h2⟩|h1
   .rw[if_pos h1,if_pos h1]
    exact .inl ⟨rfl,by simp[Fs.pl,h2]⟩
   .have h1':s.outputs.nl≠some true:=by rw[h1];simp
    rw[if_neg h1',if_neg h1']
    exact .inr ⟨6,s.outputs.l.length,s.outputs.l,s.outputs.l.map (Sl.av I 1),by omega,rfl,rfl,hs.ho,hs.no.2,rfl,.inl rfl⟩
  simp only[bFt,false_and,if_false]
  have hM:=hm0 _ _ h0
  unfold skB at hsk
  refine zc.2 ⟨.normal,fr14 i++[(66,.bool false)],_,?_,rfl,.inr rfl,_,hM⟩
  by_cases k10:(sgAt x i).kind=10
  .rw[decide_eq_true k10,Bool.true_and]at hsk
   simp[cutC,zB,fi14,c14,hi,hgi,eq_true k10,hsk]
  .simp[cutC,zB,fi14,c14,hi,hgi,k10]
 |true=>
  simp only[true_and,if_true]
  unfold skB at hsk
  rw[bAt,dTe]at hsk
  obtain⟨k10,ht⟩:=hsk
  have hlt:=zkq hi k10
  have hnl:s.outputs.nl=some false:=by
   rcases hs.no.1 with⟨h1,h2⟩|h1
   .rw[h2]at hlo;simp at hlo;omega
   .exact h1
  have hnl':s.outputs.nl≠some true:=by rw[hnl];simp
  have e43:W.pure 43 [.isl x.stages.nl 8 ((x.stages.l.map Sg.av).take i)]=some (I (zV (x.stages.l.take i))):=by
   have hh:=e43 ⟨x.stages.nl,8,x.stages.l.take i⟩ (by simp;have:=hx.st;omega)
   have hz:Sl.av Sg.av 8 ⟨x.stages.nl,8,x.stages.l.take i⟩= .isl x.stages.nl 8 ((x.stages.l.map Sg.av).take i):=by
    unfold Sl.av
    simp[List.map_take]
   rwa [hz]at hh
  generalize hk:zV (x.stages.l.take i)=k at *
  have hko:k<s.outputs.l.length:=by omega
  have hko':(k:Int)<s.outputs.l.length:=by omega
  obtain⟨y,hy⟩:∃y,s.outputs.l[k]?=some y:=⟨_,gEg hko⟩
  have hyn:=hs.ho y (lMg hy)
  have hyk:s.outputs.l[k]=y:=(gEs.1 hy).2
  have hgd:s.pl.out.getD k []=y.l:=by
   rw[gEd];simp[Fs.pl,hy]
  rw[hgd]
  have hne:x.stages.l≠[]:=by intro e;rw[e]at hi;simp at hi
  have hil:(i:Int)≤x.stages.l.length:=by omega
  have hil':i≤x.stages.l.length:=by omega
  have hb:=zeF
  have d3:=fun H=>zo7 y hyn H
  unfold ovG oG
  rw[if_neg hnl',if_neg hnl']
  by_cases h200:y.l.length=200
  .simp only[if_pos h200]
   simp[cutC,zB,fi14,c14,hi,hgi,eq_true k10,ht,hne,hil,hil',e43,hko,hko',hyk,hy,h200,hb, -zJ]
  .simp only[if_neg h200]
   have h200':¬(y.l.length:Int)=200:=by omega
   rcases hyn.1 with⟨n1,n2⟩|n1
   .simp[cutC,zB,fi14,c14,hi,hgi,eq_true k10,ht,hne,hil,hil',e43,hko,hko',hyk,hy,h200,h200',d3,zaN,n1,za0,zpK,zkf,zm8 hy]
    exact⟨_,rfl,rfl,rfl,rfl,rfl,⟨rfl,rfl,hs.hc⟩,zjA hy hs.ho hs.no.2 (y.l++[m.item]) (by simp[n2]) (by simp[n2]) rfl (by simp[n2])⟩
   .have ha:=fun H h=>zE (H:=H) (id:=7) (ver:=y.l.length) (l:=y.l) h hyn.2 m.item
    simp[cutC,zB,fi14,c14,hi,hgi,eq_true k10,ht,hne,hil,hil',e43,hko,hko',hyk,hy,h200,h200',d3,zaN,n1,zpK,zkf,zm8 hy,ha]
    exact⟨_,rfl,rfl,rfl,rfl,rfl,⟨rfl,rfl,hs.hc⟩,zjA hy hs.ho hs.no.2 (y.l++[m.item]) (by simp;have:=(hf.out y.l (by simp[Fs.pl];exact⟨y,lMg hy,rfl⟩)).1;omega) (by simp) rfl (by simp)⟩
end
section
variable {x:Pl} {s:Fs} {i:Nat}
theorem ztq (a b c d:AV):ze [zFs.av] 0 0 (.agg [a,b,c,d])=some [.agg [a,b,c,d]]:=rfl
theorem OutM.cell {H:Heap} {ov:AV} {outs:List (List Int)} (h:OutM H ov outs):ov.cell=true:=by
 rcases h with⟨rfl,_⟩|⟨bo,vv,ys,vs,h1,rfl,_⟩<;>rfl
structure Z14 (H:Heap) (sts:List Ss) (l:List CC) (cs:List Cr) (outs:List (List Int)) (dr:Bool):Prop where
 z:∃ov,H[2]?=some (.arr 0 4 false [.agg [.osl 4 sts.length 0 sts.length,.osl 5 cs.length 0 cs.length,ov,.bool dr]])∧OutM H ov outs
 h4:H[4]?=some (.arr sts.length 3 false (sts.map Ss.av))
 h5:CrM H 5 cs.length l cs
theorem ztj (hx:PlN x) (hv:PlV x) (hi:i<x.stages.l.length) {m:Mv} {sts:List Ss} {l:List CC} {cs:List Cr} {ov:AV} {outs:List (List Int)} {dr:Bool} {H:Heap} (hM:M14 H x m sts l cs ov outs dr) (hls:sts.length=x.stages.l.length) (hlc:cs.length=x.pipes.l.length) (hm:m.sent.l.length=outK (sgAt x i).kind) (hms:∀y∈m.sent.l,SlN y):
  okC (evC W (zB 9 c14) (fr14 i++[(12,I 0),(99,.bool false)]) H) (fun q F H'=>q= .ret∧F=[(6,.optr 2 0 0 0),(7,I 0)]∧∃cs',Z14 H' (sts.set i m.state) (zbT x i m.ended (m.sent.l.map Sl.l) 0 l) cs' outs dr):=by
 obtain⟨h0,h1,h2,h3,h4,h5,ho⟩:=hM
 have his:i<sts.length:=by omega
 have his':(i:Int)<sts.length:=by omega
 have hst:sts[i]?=some sts[i]:=gEg his
 have hK:Kept (some 4) H (H.set 4 (.arr sts.length 3 false ((sts.set i m.state).map Ss.av))):=Kept.set _ _ _
 have g0:=hK.get (by simp) h0
 have g1:=hK.get (by simp) h1
 have g2:=hK.get (by simp) h2
 have g3:=hK.get (by simp) h3
 have g4:(H.set 4 (.arr sts.length 3 false ((sts.set i m.state).map Ss.av)))[4]?=some (.arr sts.length 3 false ((sts.set i m.state).map Ss.av)):=gEt (gEs.1 h4).1
 have g5:CrM (H.set 4 (.arr sts.length 3 false ((sts.set i m.state).map Ss.av))) 5 cs.length l cs:=⟨hK.get (by simp) h5.1,h5.2⟩
 have go:=ho.kept (by omega) hK
 rw[hlc]at g5 g1
 obtain⟨v,H2,d1,rfl,d2,cs',d3,d4⟩:=zz.1 (zxI (p:=1) (i:=i) hx hv hi (by omega) _ l cs hm hms g1 g5 hlc)
 have e0:=d2.get (by simp) g0
 have e1:=d2.get (by simp) g1
 have e2:=d2.get (by simp) g2
 have e4:=d2.get (by simp) g4
 have eo:=go.kept (by omega) d2
 have hlen2:=(gEs.1 e2).1
 have hK3:Kept (some 2) H2 (H2.set 2 (.arr 0 4 false [.agg [.osl 4 sts.length 0 sts.length,.osl 5 x.pipes.l.length 0 x.pipes.l.length,ov,.bool dr]])):=Kept.set _ _ _
 have hZ:Z14 (H2.set 2 (.arr 0 4 false [.agg [.osl 4 sts.length 0 sts.length,.osl 5 x.pipes.l.length 0 x.pipes.l.length,ov,.bool dr]])) (sts.set i m.state) (zbT x i m.ended (m.sent.l.map Sl.l) 0 l) cs' outs dr:=by
  refine⟨⟨ov,?_,eo.kept (by omega) hK3⟩,?_,⟨hK3.get (by simp) ?_,d3.2⟩⟩
  .rw[gEt hlen2,List.length_set,d4]
  .rw[List.length_set];exact hK3.get (by simp) e4
  .rw[d4];exact d3.1
 refine zc.2 ⟨.ret,[(6,.optr 2 0 0 0),(7,I 0)],_,?_,rfl,rfl,cs',hZ⟩
 rw[hlc]at h1
 have hoo:=ho.okO
 have hoc:=ho.cell
 simp[zB,fi14,c14,h0,h1,h3,h4,his,his',hst,d1,e1,e2,hoo,hoc,ztq,hlen2,gEz, -getElem?_pos, -List.map_set]
theorem zs5 (hx:PlN x) (hv:PlV x) (hi:i<x.stages.l.length) {m:Mv} {sts:List Ss} {l:List CC} {cs:List Cr} {ov:AV} {outs:List (List Int)} {dr:Bool} {H:Heap} (hM:M14 H x m sts l cs ov outs dr) (hls:sts.length=x.stages.l.length) (hlc:cs.length=x.pipes.l.length) (hm:m.sent.l.length=outK (sgAt x i).kind) (hms:∀y∈m.sent.l,SlN y)
  (F:Fr) (hF:F=fr14 i∨F=fr14 i++[(66,.bool false)]) (ht:m.takes=true→∃(k:Nat) (c:Cr),pIn x i m.inp=k∧cs[k]?=some c∧crI c.pl=0∧c.items.l≠[]∧(zai c.pl).2=0):
  okC (evC W (zB 8 c14) F H) (fun q F H'=>q= .ret∧F=[(6,.optr 2 0 0 0),(7,I 0)]∧∃cs',Z14 H' (sts.set i m.state) (zbT x i m.ended (m.sent.l.map Sl.l) 0 (if m.takes=true then l.set (pIn x i m.inp).toNat (zai (l.getD (pIn x i m.inp).toNat crZ)).1 else l)) cs' outs dr):=by
 have hM':=hM
 obtain⟨h0,h1,h2,h3,h4,h5,ho⟩:=hM'
 cases hmt:m.takes with
 |false=>
  obtain⟨v,H1,a1,rfl,a2,a3⟩:=zz.1 (zvS (x:=x) (p:=1) (i:=i) (by omega) hmt H l cs h5 0)
  have hM1:M14 H1 x m sts l cs ov outs dr:=⟨a2.get (by simp) h0,a2.get (by simp) h1,a2.get (by simp) h2,a2.get (by simp) h3,a2.get (by simp) h4,a3,ho.kept (by omega) a2⟩
  have ht1:evC W (cutC 1 (zB 8 c14)) F H=some (.normal,fr14 i++[(12,I 0),(99,.bool false)],H1):=by
   rcases hF with rfl|rfl<;>simp[cutC,zB,fi14,c14,h0,h1,h3,a1,gEz, -getElem?_pos]
  rw[zae W 1 (zB 8 c14) _ _ _ _ ht1]
  have:=ztj hx hv hi hM1 hls hlc hm hms
  rw[if_neg Bool.false_ne_true]
  exact this
 |true=>
  obtain⟨k,c,k1,k2,k3,k4,k5⟩:=ht hmt
  obtain⟨v,H1,a1,rfl,a2,cs1,a3,a4⟩:=zz.1 (ztx (p:=1) (i:=i) hx (by omega) hmt H l cs h1 h5 k1 k2 k3 k4)
  rw[k5]at a1
  have hM1:M14 H1 x m sts (l.set k (zai c.pl).1) cs1 ov outs dr:=⟨a2.get (by simp) h0,by rw[a4];exact a2.get (by simp) h1,a2.get (by simp) h2,a2.get (by simp) h3,a2.get (by simp) h4,by rw[a4];exact a3,ho.kept (by omega) a2⟩
  have ht1:evC W (cutC 1 (zB 8 c14)) F H=some (.normal,fr14 i++[(12,I 0),(99,.bool false)],H1):=by
   rcases hF with rfl|rfl<;>simp[cutC,zB,fi14,c14,h0,h1,h3,a1,gEz, -getElem?_pos]
  rw[zae W 1 (zB 8 c14) _ _ _ _ ht1]
  have hlk:=h5.get k2
  have:=ztj hx hv hi hM1 hls (a4.trans hlc) hm hms
  rw[k1,if_pos rfl,iTn,hlk]
  exact this
end
theorem Z14.fs {H:Heap} {sts:List Ss} {l:List CC} {cs:List Cr} {outs:List (List Int)} {dr:Bool} (h:Z14 H sts l cs outs dr) (h1:sts.length≤1000) (h2:cs.length≤1000) (h3:outs.length≤1000) (hh:∀t∈sts,SlN t.held):
  ∃(a:AV) (t:Fs),H[2]?=some (.arr 0 4 false [a])∧a.cells.length=4∧okO a=some a∧zi true 4 a.cells=a∧(∀e:Int,frz H 8 (.tuple [a,I e])=some (.tuple [t.av,I e]))∧t.pl=⟨sts.map Ss.pl,l,outs,dr⟩∧FsN t:=by
 obtain⟨⟨ov,hz,ho⟩,h4,h5⟩:=h
 obtain⟨o,o1,o2,o3,o4⟩:=ho.frz 4
 have hs:=zdJ (n:=5) h4 (len:=sts.length) (by simp) (zbn (fun t=>zsq) sts)
 have hc:=zdJ (n:=5) h5.1 (len:=cs.length) (by simp) (zbn (fun t=>zss) cs)
 rw[zcs]at hs hc
 have hd:frz H 6 (.bool dr)=some (.bool dr):=rfl
 refine⟨_,⟨ofL 3 sts,ofL 6 cs,o,dr⟩,hz,rfl,rfl,rfl,fun e=>?_,?_,⟨h1,h2,by have:=o2▸h3;simpa using this,zO (by omega),zO (by omega),o3,hh,h5.2.2,o4⟩⟩
 .have e0:frz H 8 (.tuple [.agg [.osl 4 sts.length 0 sts.length,.osl 5 cs.length 0 cs.length,ov,.bool dr],I e])=(frzs (frz H 7) [.agg [.osl 4 sts.length 0 sts.length,.osl 5 cs.length 0 cs.length,ov,.bool dr],I e]).map .tuple:=rfl
  have e1:frz H 7 (.agg [.osl 4 sts.length 0 sts.length,.osl 5 cs.length 0 cs.length,ov,.bool dr])=(frzs (frz H 6) [.osl 4 sts.length 0 sts.length,.osl 5 cs.length 0 cs.length,ov,.bool dr]).map .agg:=rfl
  have e2:frz H 7 (I e)=some (I e):=rfl
  rw[e0]
  simp only[frzs,e1,e2,hs,hc,o1,hd]
  rfl
 .show (⟨sts.map Ss.pl,cs.map Cr.pl,o.l.map Sl.l,dr⟩:FS)=_
  rw[h5.2.1,o2]
theorem zcG (x:Pl) (i:Int) (e:Bool):∀(o:List (List Int)) (n:Nat) (l:List CC),(zbT x i e o n l).length=l.length
 | [],_,_=>rfl
 |o::r,n,l=>by
  unfold zbT
  rw[zcG x i e r]
  simp
section
variable {x:Pl} {s:Fs} {i:Nat}
theorem ztH (hx:PlN x) {m:Mv} {sts:List Ss} {l:List CC} {cs:List Cr} {ov:AV} {outs:List (List Int)} {dr:Bool} {H:Heap} (hM:M14 H x m sts l cs ov outs dr)
  (F:Fr) (hF:F=fr14 i∨F=fr14 i++[(66,.bool false)]) (hmt:m.takes=true) {k:Nat} {c:Cr} (k1:pIn x i m.inp=k) (k2:cs[k]?=some c) (k3:crI c.pl=0) (k4:c.items.l≠[]) (k5:(zai c.pl).2≠0):
  okC (evC W (zB 8 c14) F H) (fun q F H'=>q= .ret∧F=[(6,.optr 2 0 0 0),(7,I (zai c.pl).2)]∧H'[2]?=some (.arr 0 4 false [zFs.av])):=by
 obtain⟨h0,h1,h2,h3,h4,h5,ho⟩:=hM
 obtain⟨v,H1,a1,rfl,a2,cs1,a3,a4⟩:=zz.1 (ztx (p:=1) (i:=i) hx (by omega) hmt H l cs h1 h5 k1 k2 k3 k4)
 have g2:=a2.get (by simp) h2
 have hl2:=(gEs.1 g2).1
 have hb:=zeF
 refine zc.2 ⟨.ret,[(6,.optr 2 0 0 0),(7,I (zai c.pl).2)],H1.set 2 (.arr 0 4 false [zFs.av]),?_,rfl,rfl,gEt hl2⟩
 rcases hF with rfl|rfl<;>simp[zB,fi14,c14,h0,h1,h3,a1,k5,g2,hb,gEz, -getElem?_pos, -zJ]
theorem zei {R:Rec} {a b:LC} {F F1:Fr} {H H1:Heap} (h:evC R (cutC 1 (.seq a b)) F H=some (.ret,F1,H1)):evC R (.seq a b) F H=some (.ret,F1,H1):=by
 simp only[cutC,zej]at h
 rw[zej]
 cases ha:evC R a F H with
 |none=>rw[ha]at h;cases h
 |some p=>
  obtain⟨y,F2,H2⟩:=p
  rw[ha]at h
  cases y with
  |normal=>simp at h
  |ret=>simpa using h
  |exit k=>simp at h
theorem ztQ {F:Fr} {H:Heap} {a:AV} {e:Int} (hr:evC W c14 [(0,x.av),(1,s.av),(2,I i)] []=some (.ret,F,H)) (hF:F=[(6,.optr 2 0 0 0),(7,I e)]) (hz:H[2]?=some (.arr 0 4 false [a])) (h4:a.cells.length=4) (hok:okO a=some a) (hld:zi true 4 a.cells=a) {B:AV} (hf:frz H 8 (.tuple [a,I e])=some B):W.pure 14 [x.av,s.av,I i]=some B:=by
 rw[zd Φ14 (by simp)]
 have e:zam W fi14 [x.av,s.av,I i] []=(evC W c14 [(0,x.av),(1,s.av),(2,I i)] []).bind fun p=>match p.1 with
  | .exit _=>none
  |_=>(resV p.2.1 p.2.2 fi14.res).map fun v=>(v,p.2.2):=rfl
 rw[e,hr,hF]
 simp[fi14,resV,rvVs,rvV,hz,h4,hok,hld,hf]
theorem e14 (hx:PlN x) (hs:FsN s) (i:Int):∃t:Fs,W.pure 14 [x.av,s.av,I i]=some (.tuple [t.av,I (zdz x s.pl i).2])∧t.pl=(zdz x s.pl i).1∧FsN t:=by
 have hzp:zFs.pl=fsZ:=rfl
 by_cases hcase:vaI x s.pl≠0∨¬(0≤i∧i<x.stages.l.length)
 .obtain⟨h1,h2⟩:=e14a hx hs i hcase
  exact⟨zFs,h1,by rw[h2,hzp],zfV⟩
 have hva:vaI x s.pl=0:=by
  apply cBc;intro h;exact hcase (.inl h)
 have hir:0≤i∧i<x.stages.l.length:=by
  apply cBc;intro h;exact hcase (.inr h)
 obtain⟨i,rfl⟩:∃n:Nat,i=n:=⟨i.toNat,by omega⟩
 have hi:i<x.stages.l.length:=by omega
 obtain⟨hp,hf⟩:=zgJ.1 hva
 have hv:=zea hp
 have run:∀(A:Option AV),((zam W fi14 [x.av,s.av,I i] []).bind fun p=>frz p.2 8 p.1)=A→W.pure 14 [x.av,s.av,I i]=A:=fun A h=>by rw[zd Φ14 (by simp)];exact h
 have c1:=e16 hx hs
 rw[hva]at c1
 have hst:=hx.st
 have hw:IntKind.wrap .i64 ((x.stages.l.length:Int) - 1)=(x.stages.l.length:Int) - 1:=zr (by omega) (by omega)
 have c2:=e39t (l:=0) (h:=(x.stages.l.length:Int) - 1) (a:=i) (by omega) (by omega)
 have hb:=zeF
 obtain⟨m,c3,c4⟩:=e37 hx hv hs hf i hi
 have hstep:zdz x s.pl i=if enB x s.pl i=false then (fsZ,25) else
  let m:=zaQ x s.pl i
  let k:=zV (x.stages.l.take i)
  if m.e≠0 then (fsZ,m.e)
  else if m.kind=2∧(sgAt x i).kind=10∧(s.pl.out.getD k []).length=200 then (fsZ,4)
  else
   let out:=if m.kind=2∧(sgAt x i).kind=10 then s.pl.out.set k (s.pl.out.getD k []++[m.item]) else s.pl.out
   let c:=zai (crAt s.pl m.pipe)
   if m.kind=2∧c.2≠0 then (fsZ,c.2)
   else (⟨s.pl.st.set i m.st,zbT x i m.st.ended m.out 0 (if m.kind=2 then s.pl.cr.set m.pipe.toNat c.1 else s.pl.cr),out,s.pl.drain⟩,0):=by
  unfold zdz
  rw[if_neg (by simp[hva]),if_neg (by omega)]
  rfl
 rw[hstep]
 cases hen:enB x s.pl i with
 |false=>
  rw[hen]at c3
  refine⟨zFs,run _ ?_,rfl,zfV⟩
  simp[fi14,c14,c1,hw,c2,c3,hb, -zJ]
 |true=>
 rw[hen]at c3
 rw[if_neg (by simp)]
 have hk0:(zaQ x s.pl i).kind≠0:=by
  intro hk;unfold enB at hen;simp[hk]at hen
 have hR:=c4 hk0
 by_cases he:(zaQ x s.pl i).e=0
 rotate_left
 .have hme:m.e≠0:=by rw[hR.e];exact he
  refine⟨zFs,run _ ?_,by simp only[if_pos he];rfl,zfV⟩
  simp only[if_pos he]
  rw[←hR.e]
  simp[fi14,c14,c1,hw,c2,c3,hme,hb, -zJ]
 have hme:m.e=0:=by rw[hR.e,he]
 have hact:=zc6 hv hf hi hk0 he
 have hmv:=hact.2.mv hact.1
 have hlen:m.sent.l.length=outK (sgAt x i).kind:=by rw[←hmv.len,←hR.out];simp
 generalize hgv:zaQ x s.pl i=v at *
 have hls:s.stages.l.length=x.stages.l.length:=by have:=hf.ls;simpa[Fs.pl]using this
 have hlc:s.credits.l.length=x.pipes.l.length:=by have:=hf.lc;simpa[Fs.pl]using this
 have hlo:s.outputs.l.length=zV x.stages.l:=by have:=hf.lo;simpa[Fs.pl]using this
 have hns:s.stages.nl=some false:=by
  rcases hs.ns.1 with⟨h1,h2⟩|h1
  .rw[h2]at hls;simp at hls;omega
  .exact h1
 have hpi:0<x.pipes.l.length:=by
  by_cases k10:(sgAt x i).kind=10
  .obtain⟨k,p,hp,_⟩:=hv.allIn i 0 hi (by rw[k10];simp[inK])
   have:=(gEs.1 hp).1;omega
  .obtain⟨k,p,hp,_⟩:=hv.allOut i 0 hi (by unfold outK;rw[if_neg k10];split<;>omega)
   have:=(gEs.1 hp).1;omega
 have hnc:s.credits.nl=some false:=by
  rcases hs.nc.1 with⟨h1,h2⟩|h1
  .rw[h2]at hlc;simp at hlc;omega
  .exact h1
 have hh:=zxn hx hs hva i hi hns hnc c3 hme
 have hcut:evC W c14 [(0,x.av),(1,s.av),(2,I i)] []=evC W (zB 7 c14) (fr14 i) (hG x s m (ovG s) (oG s)):=zae W 7 c14 _ _ _ _ hh
 obtain⟨q,F1,H1,d1,d2⟩:=zc.1 (zAI hx hs hf i hi m)
 have hsk:skB x m i=true↔v.kind=2∧(sgAt x i).kind=10:=by
  unfold skB;rw[hR.tk];simp[and_comm]
 generalize hkk:zV (x.stages.l.take i)=k at *
 simp only[if_neg (show ¬v.e≠0 by simp[he])]
 by_cases h4:v.kind=2∧(sgAt x i).kind=10∧(s.pl.out.getD k []).length=200
 .have h4':skB x m i=true∧(s.pl.out.getD k []).length=200:=⟨hsk.2 ⟨h4.1,h4.2.1⟩,h4.2.2⟩
  rw[if_pos h4']at d2
  simp only[if_pos h4]
  obtain⟨rfl,hF1,hz⟩:=d2
  have hr:evC W c14 [(0,x.av),(1,s.av),(2,I i)] []=some (.ret,F1,H1):=hcut.trans (zei d1)
  exact⟨zFs,ztQ hr hF1 hz rfl rfl rfl rfl,rfl,zfV⟩
 have h4':¬(skB x m i=true∧(s.pl.out.getD k []).length=200):=fun h=>h4 ⟨(hsk.1 h.1).1,(hsk.1 h.1).2,h.2⟩
 rw[if_neg h4']at d2
 simp only[if_neg h4]
 obtain⟨rfl,hF1,ov,hM⟩:=d2
 have hcut2:evC W (zB 7 c14) (fr14 i) (hG x s m (ovG s) (oG s))=evC W (zB 8 c14) F1 H1:=zae W 1 (zB 7 c14) _ _ _ _ d1
 have hon:(if v.kind=2∧(sgAt x i).kind=10 then s.pl.out.set k (s.pl.out.getD k []++[v.item]) else s.pl.out)=(if skB x m i=true then s.pl.out.set k (s.pl.out.getD k []++[m.item]) else s.pl.out):=by
  by_cases h:v.kind=2∧(sgAt x i).kind=10
  .rw[if_pos h,if_pos (hsk.2 h),(hR.pi h.1).2]
  .rw[if_neg h,if_neg (fun hh=>h (hsk.1 hh))]
 rw[hon]
 have hol:(if skB x m i=true then s.pl.out.set k (s.pl.out.getD k []++[m.item]) else s.pl.out).length≤1000:=by
  have h0:s.pl.out.length≤1000:=by have:=hs.ou;simpa[Fs.pl]using this
  split
  .simpa using h0
  .exact h0
 generalize hoe:(if skB x m i=true then s.pl.out.set k (s.pl.out.getD k []++[m.item]) else s.pl.out)=outs at *
 have hhs:∀t∈s.stages.l.set i m.state,SlN t.held:=by
  intro t ht
  rcases List.mem_or_eq_of_mem_set ht with ht|rfl
  .exact hs.hs t ht
  .exact hR.sh
 have fin:∀(q:LX) (F:Fr) (H:Heap) (l:List CC),l.length≤1000→evC W (zB 8 c14) F1 H1=some (q,F,H)→q= .ret→F=[(6,.optr 2 0 0 0),(7,I 0)]→(∃cs',Z14 H (s.stages.l.set i m.state) (zbT x i m.ended (m.sent.l.map Sl.l) 0 l) cs' outs s.draining)→
   ∃t:Fs,W.pure 14 [x.av,s.av,I i]=some (.tuple [t.av,I 0])∧t.pl=⟨s.pl.st.set i v.st,zbT x i v.st.ended v.out 0 l,outs,s.pl.drain⟩∧FsN t:=by
  rintro q F H l hl0 h1 rfl h2 ⟨cs',hZ⟩
  have hcl:cs'.length≤1000:=by
   have e1:=hZ.h5.2.1
   have e2:=congrArg List.length e1
   rw[List.length_map,zcG]at e2
   omega
  obtain⟨a,t,z1,z2,z3,z4,z5,z6,z7⟩:=hZ.fs (by have:=hs.st;simpa using this) hcl hol hhs
  refine⟨t,ztQ (hcut.trans (hcut2.trans h1)) h2 z1 z2 z3 z4 (z5 0),?_,z7⟩
  rw[z6,hR.out,hR.en]
  have:(s.stages.l.set i m.state).map Ss.pl=s.pl.st.set i v.st:=by
   rw[List.map_set,hR.st];rfl
  rw[this]
  rfl
 have hcrl:s.pl.cr.length≤1000:=by have:=hs.cr;simpa[Fs.pl]using this
 by_cases hk2:v.kind=2
 .have hmt:m.takes=true:=by rw[hR.tk,hk2];rfl
  obtain⟨kp,y,a,r,c,q1,q2,q3,q4,q5,q6,q7,q8,q9,q10⟩:=hact.2.pipe hk2
  obtain⟨c',hc',rfl⟩:=zqj q5
  have hpn:=(hR.pi hk2).1
  rw[q9]at hpn⊢
  have hcI:=(zbb _).2 (hf.cr _ _ _ q5 q2).v
  have hne:c'.items.l≠[]:=by
   have:c'.pl.items=c'.items.l:=rfl
   rw[←this,q6];simp
  have hca:crAt s.pl ((kp:Nat):Int)=c'.pl:=zek hc'
  rw[hca]
  by_cases e0:(zai c'.pl).2=0
  .obtain⟨q,F,H,t1,t2,t3,t4⟩:=zc.1 (zs5 hx hv hi hM hls hlc hlen hR.sa F1 hF1 (fun _=>⟨kp,c',hpn,hc',hcI,hne,e0⟩))
   simp only[if_pos hk2,if_neg (show ¬(v.kind=2∧(zai c'.pl).2≠0) from fun h=>h.2 e0),iTn]
   have hgd:s.pl.cr.getD kp crZ=c'.pl:=by rw[gEd,q5];rfl
   rw[if_pos hmt,hpn,iTn,hgd]at t4
   exact fin q F H _ (by simpa using hcrl) t1 t2 t3 t4
  .obtain⟨q,F,H,t1,rfl,t2,t3⟩:=zc.1 (ztH hx hM F1 hF1 hmt hpn hc' hcI hne e0)
   simp only[if_pos (show v.kind=2∧(zai c'.pl).2≠0 from⟨hk2,e0⟩)]
   exact⟨zFs,ztQ (hcut.trans (hcut2.trans t1)) t2 t3 rfl rfl rfl rfl,rfl,zfV⟩
 .have hmt:m.takes=false:=by rw[hR.tk];simp[hk2]
  obtain⟨q,F,H,t1,t2,t3,t4⟩:=zc.1 (zs5 hx hv hi hM hls hlc hlen hR.sa F1 hF1 (fun h=>by rw[hmt]at h;cases h))
  simp only[if_neg hk2,if_neg (show ¬(v.kind=2∧(zai (crAt s.pl v.pipe)).2≠0) from fun h=>hk2 h.1)]
  rw[if_neg (by simp[hmt])]at t4
  exact fin q F H _ (by simpa using hcrl) t1 t2 t3 t4
end
section
variable {x:Pl} {sv ov dv:AV} {a:Act} {i:Nat}
theorem zqO (k n M:Nat) (y:Sl Int) (hn:a.out.l[n]?=some y) (hy:y.l.length≤1048576):∀(rest:List Int) (j:Nat) (H:Heap) (l:List CC) (cs:List Cr),y.l.drop j=rest→j≤y.l.length→H[1]?=some (zfY sv ov dv 5 M M)→H[3]?=some (.arr 0 8 false [a.av])→CrM H 5 M l cs→M=cs.length→k<cs.length→
  okC (W.loop [2,3,4,6,8,12,13,14] zuV [(2,I i),(3,.optr 0 0 0 0),(4,.optr 1 0 0 0),(6,.optr 2 0 0 0),(8,.optr 3 0 0 0),(12,I n),(13,I k),(14,I j)] H)
   (fun q F H'=>q= .exit 2∧F.keep [2,3,4,6,8,12,13]=[(2,I i),(3,.optr 0 0 0 0),(4,.optr 1 0 0 0),(6,.optr 2 0 0 0),(8,.optr 3 0 0 0),(12,I n),(13,I k)]∧Kept (some 5) H H'∧∃cs',CrM H' 5 M (l.set k (putC rest (l.getD k crZ))) cs'∧cs'.length=cs.length):=by
 have hnl:=(gEs.1 hn).1
 have hnl':(n:Int)<a.out.l.length:=by omega
 have hnk:a.out.l[n]=y:=(gEs.1 hn).2
 intro rest
 induction rest with
 |nil=>
  intro j H l cs h1 h2 hP hA hC hM hk
  have hj:=zf h1 h2
  rw[zb]
  simp[zoW,zsm,hP,hA,hnl,hnl',hn,hnk,hj,gEz, -getElem?_pos]
  refine⟨Kept.refl _ _,cs,?_,rfl⟩
  have hlk:k<l.length:=by rw[←hC.2.1];simpa using hk
  have:l.set k (putC [] (l.getD k crZ))=l:=by
   rw[gEd,gEg hlk]
   simp[putC]
  have hC2:CrM H 5 M (l.set k (putC [] (l.getD k crZ))) cs:=this.symm▸hC
  simpa[gEd]using hC2
 |cons b rest ih=>
  intro j H l cs h1 h2 hP hA hC hM hk
  obtain⟨hlt,hb,hr⟩:=zn h1
  have hlt':(j:Int)<y.l.length:=by omega
  have hw:=zg (k:=j) (by omega)
  have hcg:=gEg hk
  generalize cs[k]=c at hcg
  have hcs:=hC.2.2 c (lMg hcg)
  obtain⟨c',c1,c2,c3⟩:=e51 c hcs b
  have hlc:=hC.get hcg
  have hC2:=hC.set (k:=k) c3
  have hK:Kept (some 5) H (H.set 5 (.arr M 6 false ((cs.set k c').map Cr.av))):=Kept.set _ _ _
  have hlk:k<l.length:=by rw[←hC.2.1];simpa using hk
  obtain⟨q,F,H',d1,rfl,d2,d3,cs',d4,d5⟩:=zc.1 (ih (j+1) _ _ _ hr (by omega) (hK.get (by simp) hP) (hK.get (by simp) hA) hC2 (by simpa using hM) (by simpa using hk))
  simp only[iNa,iCo]at d1
  have hput:(l.set k c'.pl).set k (putC rest ((l.set k c'.pl).getD k crZ))=l.set k (putC (b::rest) (l.getD k crZ)):=by
   rw[List.set_set]
   congr 1
   have:(l.set k c'.pl).getD k crZ=c'.pl:=by rw[gEd,gEt hlk];rfl
   rw[this,c2,hlc]
   rfl
  rw[hput]at d4
  have hkM:(k:Int)<M:=by omega
  have hkM':k<M:=by omega
  have hB:=hC.1
  simp at d2
  rw[zb]
  simp[zoW,zsm,hP,hA,hnl,hnl',hn,hnk,hlt,hlt',hb,hB,hkM,hkM',hcg,c1,hw,d1,gEz, -getElem?_pos, -List.map_set]
  refine⟨d2,hK.trans d3,cs',d4,by rw[d5];simp⟩
theorem zqN (hx:PlN x) (hv:PlV x) (hi:i<x.stages.l.length) (M:Nat) (hM:M=x.pipes.l.length) (hm:a.out.l.length=outK (sgAt x i).kind) (hms:∀y∈a.out.l,SlN y):∀(rest:List (Sl Int)) (n:Nat) (H:Heap) (l:List CC) (cs:List Cr),a.out.l.drop n=rest→n≤a.out.l.length→H[0]?=some (.arr 0 2 false [x.av])→H[1]?=some (zfY sv ov dv 5 M M)→H[3]?=some (.arr 0 8 false [a.av])→CrM H 5 M l cs→cs.length=M→
  okC (W.loop [2,3,4,6,8,12] zuU [(2,I i),(3,.optr 0 0 0 0),(4,.optr 1 0 0 0),(6,.optr 2 0 0 0),(8,.optr 3 0 0 0),(12,I n)] H)
   (fun q F H'=>q= .exit 0∧F.keep [4,6]=[(4,.optr 1 0 0 0),(6,.optr 2 0 0 0)]∧Kept (some 5) H H'∧∃cs',CrM H' 5 M (zbT x i a.state.ended (rest.map Sl.l) n l) cs'∧cs'.length=M):=by
 have h2:=zcd (sgAt x i).kind
 intro rest
 induction rest with
 |nil=>
  intro n H l cs h1 h2 h0 hP hA hC hl
  have hj:=zf h1 h2
  rw[zb]
  simp[zj8,zpz,hA,hj,gEz, -getElem?_pos]
  exact⟨Kept.refl _ _,cs,hC,hl⟩
 |cons y rest ih=>
  intro n H l cs h1 h2' h0 hP hA hC hl
  obtain⟨hlt,ha,hr⟩:=zn h1
  have hlt':(n:Int)<a.out.l.length:=by omega
  have hw:=zg (k:=n) (by omega)
  have hyn:a.out.l[n]=y:=(gEs.1 ha).2
  have hy:=hms y (lMg ha)
  obtain⟨k,pp,hp,e1,e2⟩:=hv.allOut i n hi (by omega)
  have hpo:pOut x i n=k:=by
   have:=zft hv.toPiV hp
   rwa [e1,e2]at this
  have hk:k<cs.length:=by have:=(gEs.1 hp).1;omega
  have hkl:k<l.length:=by rw[←hC.2.1];simpa using hk
  have a1:=e50 x hx.pi i n
  rw[hpo]at a1
  obtain⟨q,F,H1,d1,rfl,d2,d3,cs1,d4,d5⟩:=zc.1 (zqO (sv:=sv) (ov:=ov) (dv:=dv) (i:=i) k n M y ha hy.2 y.l 0 H l cs rfl (by omega) hP hA hC (by omega) hk)
  simp at d1 d2
  obtain⟨g2,g3,g4,g6,g8,g12,g13⟩:=d2
  have h01:=d3.get (by simp) h0
  have hP1:=d3.get (by simp) hP
  have hA1:=d3.get (by simp) hA
  have hk1:k<cs1.length:=by omega
  have hcg:=gEg hk1
  have hkM:k<M:=by omega
  have hkM':(k:Int)<M:=by omega
  have hc1l:cs1.length=M:=by omega
  have hk0:zbT x i a.state.ended ((y::rest).map Sl.l) n l=zbT x i a.state.ended (rest.map Sl.l) (n+1) (l.set k (if a.state.ended=true then (za4 (putC y.l (l.getD k crZ))).1 else putC y.l (l.getD k crZ))):=by
   simp only[List.map_cons,zbT,hpo,iTn]
  rw[hk0]
  generalize cs1[k]=c1g at hcg
  have hgk:c1g.pl=putC y.l (l.getD k crZ):=by
   have:=d4.get hcg
   rw[gEd,gEt hkl]at this
   exact this.symm
  cases he:a.state.ended with
  |false=>
   obtain⟨q,F2,H2,f1,rfl,f0,f2,cs2,f3,f4⟩:=zc.1 (ih (n+1) H1 _ cs1 hr (by omega) h01 hP1 hA1 d4 hc1l)
   simp only[iNa,iCo]at f1
   simp at f0
   rw[zb]
   simp[zj8,zpz,hlt',h0,hA,a1,hlt,hyn,ha,d1,g2,g3,g4,g6,g8,g12,g13,hP1,hA1,he,hw,f1,gEz, -getElem?_pos]
   rw[he]at f3
   refine⟨f0,d3.trans f2,cs2,by simpa using f3,f4⟩
  |true=>
   have hcs:=d4.2.2 _ (lMg hcg)
   obtain⟨c',c1,c2,c4⟩:=e52 c1g hcs
   have hC2:=d4.set (k:=k) c4
   have hK:Kept (some 5) H1 (H1.set 5 (.arr M 6 false ((cs1.set k c').map Cr.av))):=Kept.set _ _ _
   rw[List.set_set]at hC2
   obtain⟨q,F2,H2,f1,rfl,f0,f2,cs2,f3,f4⟩:=zc.1 (ih (n+1) _ _ _ hr (by omega) (hK.get (by simp) h01) (hK.get (by simp) hP1) (hK.get (by simp) hA1) hC2 (by simpa using hc1l))
   simp only[iNa,iCo]at f1
   simp at f0
   have hB:=d4.1
   rw[zb]
   simp[zj8,zpz,hlt',h0,hA,a1,hlt,hyn,ha,d1,g2,g3,g4,g6,g8,g12,g13,hP1,hA1,hB,hcg,hkM,hkM',hc1l,c1,he,hw,f1,gEz, -getElem?_pos, -List.map_set]
   rw[he,c2,hgk]at f3
   refine⟨f0,(d3.trans hK).trans f2,cs2,by simpa using f3,f4⟩
end
structure M15 (H:Heap) (x:Pl) (a:Act) (sts:List Ss) (l:List CC) (cs:List Cr) (ov:AV) (outs:List (List Int)) (dr:Bool):Prop where
 h0:H[0]?=some (.arr 0 2 false [x.av])
 h1:H[1]?=some (zfY (.osl 4 sts.length 0 sts.length) ov (.bool dr) 5 cs.length cs.length)
 h2:H[2]?=some (.arr 0 4 false [zFs.av])
 h3:H[3]?=some (.arr 0 8 false [a.av])
 h4:H[4]?=some (.arr sts.length 3 false (sts.map Ss.av))
 h5:CrM H 5 cs.length l cs
 ho:OutM H ov outs
abbrev fr15 (i:Nat):Fr:=[(2,I i),(3,.optr 0 0 0 0),(4,.optr 1 0 0 0),(6,.optr 2 0 0 0),(8,.optr 3 0 0 0)]
abbrev hR (x:Pl) (s:Fs) (a:Act) (i:Nat):Heap:=[.arr 0 2 false [x.av],zfY (.osl 4 s.stages.l.length 0 s.stages.l.length) (.osl 6 s.outputs.l.length 0 s.outputs.l.length) (.bool s.draining) 5 s.credits.l.length s.credits.l.length,.arr 0 4 false [zFs.av],.arr 0 8 false [a.av],.arr s.stages.l.length 3 false ((s.stages.l.set i a.state).map Ss.av),.arr s.credits.l.length 6 false (s.credits.l.map Cr.av),.arr s.outputs.l.length 1 false (s.outputs.l.map (Sl.av I 1))]
section
variable {x:Pl} {s:Fs}
theorem e15a (hx:PlN x) (hs:FsN s) (i:Int) (h:vaI x s.pl≠0∨¬(0≤i∧i<x.stages.l.length)):W.pure 15 [x.av,s.av,I i]=some (.tuple [zFs.av,I (zdz x s.pl i).2])∧(zdz x s.pl i).1=fsZ:=by
 have run:∀(A:Option AV),((zam W fi15 [x.av,s.av,I i] []).bind fun p=>frz p.2 8 p.1)=A→W.pure 15 [x.av,s.av,I i]=A:=fun A h=>by rw[zd Φ15 (by simp)];exact h
 have c1:=e17 hx hs
 have hb:=zeF
 have hst:=hx.st
 unfold zdz
 by_cases hv:vaI x s.pl=0
 .have h2:i<0∨(x.stages.l.length:Int)≤i:=by
   rcases h with h|h
   .exact absurd hv h
   .omega
  rw[if_neg (by simp[hv]),if_pos h2]
  refine⟨run _ ?_,rfl⟩
  rw[hv]at c1
  by_cases h0:i<0
  .simp[fi15,c15,c1,h0,hb, -zJ]
  .have h1:(x.stages.l.length:Int)≤i:=by omega
   simp[fi15,c15,c1,h0,h1,hb, -zJ]
 .rw[if_pos hv]
  refine⟨run _ ?_,rfl⟩
  have h1:vaI x s.pl=1:=by
   unfold vaI at hv⊢
   split
   .rename_i hh;rw[if_pos hh]at hv;exact absurd rfl hv
   .rfl
  rw[h1]at c1⊢
  simp[fi15,c15,c1,hb, -zJ]
theorem zxm (hx:PlN x) (hs:FsN s) (hv:vaI x s.pl=0) (i:Nat) (hi:i<x.stages.l.length) (hls:s.stages.l.length=x.stages.l.length) {a:Act} (c3:W.pure 38 [x.av,s.av,I i]=some (.bool true)) (c4:W.pure 47 [x.av,s.av,I i]=some a.av) (he:a.e=0):
  evC W (cutC 10 c15) [(0,x.av),(1,s.av),(2,I i)] []=some (.normal,fr15 i,hR x s a i):=by
 have c1:=e17 hx hs
 rw[hv]at c1
 have hi0:¬((i:Int)<0):=by omega
 have hi1:¬((x.stages.l.length:Int)≤i):=by omega
 have his:i<s.stages.l.length:=by omega
 have his':(i:Int)<s.stages.l.length:=by omega
 have hst:s.stages.l[i]?=some s.stages.l[i]:=gEg his
 have l3:∀A B C D,ex [A,B,C,D,.arr 0 3 false []] (.app 3) [.osl 4 0 0 0,Sl.av Ss.av 3 s.stages]=some (.osl 4 s.stages.l.length 0 s.stages.l.length,[A,B,C,D,.arr s.stages.l.length 3 false (s.stages.l.map Ss.av)]):=fun A B C D=>zbR s.stages [A,B,C,D] hs.ns.2 (by simp)
 have l6:∀A B C D E,ex [A,B,C,D,E,.arr 0 6 false []] (.app 6) [.osl 5 0 0 0,Sl.av Cr.av 6 s.credits]=some (.osl 5 s.credits.l.length 0 s.credits.l.length,[A,B,C,D,E,.arr s.credits.l.length 6 false (s.credits.l.map Cr.av)]):=fun A B C D E=>zbR s.credits [A,B,C,D,E] hs.nc.2 (by simp)
 have l1:∀A B C D E F,ex [A,B,C,D,E,F,.arr 0 1 false []] (.app 1) [.osl 6 0 0 0,Sl.av (Sl.av I 1) 1 s.outputs]=some (.osl 6 s.outputs.l.length 0 s.outputs.l.length,[A,B,C,D,E,F,.arr s.outputs.l.length 1 false (s.outputs.l.map (Sl.av I 1))]):=fun A B C D E F=>zbR s.outputs [A,B,C,D,E,F] hs.no.2 (by simp)
 simp[cutC,fi15,c15,c1,hi0,hi1,c3,c4,he,l3,l6,l1,his,his',hst, -List.map_set]
 rfl
end
section
variable {x:Pl} {s:Fs} {i:Nat}
def skA (x:Pl) (a:Act) (i:Nat):Bool:=decide (a.kind=2)&&decide ((sgAt x i).kind=10)
theorem zAH (hx:PlN x) (hs:FsN s) (hf:FsV x s.pl) (i:Nat) (hi:i<x.stages.l.length) (a:Act):
  okC (evC W (cutC 1 (zB 10 c15)) (fr15 i) (hR x s a i))
   (fun q F H=>if skA x a i=true∧(s.pl.out.getD (zV (x.stages.l.take i)) []).length=200 then q= .ret∧F=[(6,.optr 2 0 0 0),(7,I 4)]∧H[2]?=some (.arr 0 4 false [zFs.av])
    else q= .normal∧(F=fr15 i∨F=fr15 i++[(78,.bool false)])∧∃ov,M15 H x a (s.stages.l.set i a.state) s.pl.cr s.credits.l ov (if skA x a i=true then s.pl.out.set (zV (x.stages.l.take i)) (s.pl.out.getD (zV (x.stages.l.take i)) []++[a.item]) else s.pl.out) s.draining):=by
 have hg:=zaV hi
 have hgi:x.stages.l[i]=sgAt x i:=(gEs.1 hg).2
 have hlo:s.outputs.l.length=zV x.stages.l:=by have:=hf.lo;simpa[Fs.pl]using this
 have hso:=hs.ou
 cases hsk:skA x a i with
 |false=>
  simp only[bFt,false_and,if_false]
  have hM:M15 (hR x s a i) x a (s.stages.l.set i a.state) s.pl.cr s.credits.l (.osl 6 s.outputs.l.length 0 s.outputs.l.length) s.pl.out s.draining:=
   ⟨rfl,by simp,rfl,rfl,by simp,⟨rfl,rfl,hs.hc⟩,.inr ⟨6,s.outputs.l.length,s.outputs.l,s.outputs.l.map (Sl.av I 1),by omega,rfl,rfl,hs.ho,hs.no.2,rfl,.inl rfl⟩⟩
  unfold skA at hsk
  refine zc.2 ⟨.normal,fr15 i++[(78,.bool false)],_,?_,rfl,.inr rfl,_,hM⟩
  by_cases k2:a.kind=2
  .rw[decide_eq_true k2,Bool.true_and,decide_eq_false_iff_not]at hsk
   simp[cutC,zB,fi15,c15,hi,hgi,eq_true k2,hsk, -List.map_set]
  .simp[cutC,zB,fi15,c15,hi,hgi,k2, -List.map_set]
 |true=>
  simp only[true_and,if_true]
  unfold skA at hsk
  rw[bAt,dTe,dTe]at hsk
  obtain⟨k2,k10⟩:=hsk
  have hlt:=zkq hi k10
  have e48:=e48 x hx i (by omega)
  generalize hk:zV (x.stages.l.take i)=k at *
  have hko:k<s.outputs.l.length:=by omega
  have hko':(k:Int)<s.outputs.l.length:=by omega
  obtain⟨y,hy⟩:∃y,s.outputs.l[k]?=some y:=⟨_,gEg hko⟩
  have hyn:=hs.ho y (lMg hy)
  have hyk:s.outputs.l[k]=y:=(gEs.1 hy).2
  have hgd:s.pl.out.getD k []=y.l:=by
   rw[gEd];simp[Fs.pl,hy]
  rw[hgd]
  have hb:=zeF
  by_cases h200:y.l.length=200
  .simp only[if_pos h200]
   simp[cutC,zB,fi15,c15,hi,hgi,eq_true k10,eq_true k2,e48,hko,hko',hyk,hy,h200,hb, -zJ, -List.map_set]
  .simp only[if_neg h200]
   have h200':¬(y.l.length:Int)=200:=by omega
   have l1:∀A B C D E F G,ex [A,B,C,D,E,F,G,.arr 0 1 false []] (.app 1) [.osl 7 0 0 0,Sl.av I 1 y]=some (.osl 7 y.l.length 0 y.l.length,[A,B,C,D,E,F,G,.arr y.l.length 1 false (y.l.map I)]):=fun A B C D E F G=>zbR y [A,B,C,D,E,F,G] hyn.2 (by simp)
   have ha:=fun H h=>zE (H:=H) (id:=7) (ver:=y.l.length) (l:=y.l) h hyn.2 a.item
   simp[cutC,zB,fi15,c15,hi,hgi,eq_true k10,eq_true k2,e48,hko,hko',hyk,hy,h200,h200',l1,zpK,zkf,zm8 hy,ha, -List.map_set]
   exact⟨_,rfl,by simp,rfl,rfl,by simp,⟨rfl,rfl,hs.hc⟩,zjA hy hs.ho hs.no.2 (y.l++[a.item]) (by simp;have:=(hf.out y.l (by simp[Fs.pl];exact⟨y,lMg hy,rfl⟩)).1;omega) (by simp) rfl (by simp)⟩
theorem ztG {a:Act} {sts:List Ss} {l:List CC} {cs:List Cr} {ov:AV} {outs:List (List Int)} {dr:Bool} {H:Heap} (hM:M15 H x a sts l cs ov outs dr) (F:Fr) (hF:F=fr15 i∨F=fr15 i++[(78,.bool false)]) (ht:a.pipe<0):
  evC W (cutC 1 (zB 11 c15)) F H=some (.normal,fr15 i++[(107,.bool false)],H):=by
 have h3:=hM.h3
 have ht':¬0≤a.pipe:=by omega
 rcases hF with rfl|rfl<;>simp[cutC,zB,fi15,c15,h3,ht',gEz, -getElem?_pos]
theorem zwn {a:Act} {sts:List Ss} {l:List CC} {cs:List Cr} {ov:AV} {outs:List (List Int)} {dr:Bool} {H:Heap} (hM:M15 H x a sts l cs ov outs dr) (F:Fr) (hF:F=fr15 i∨F=fr15 i++[(78,.bool false)]) {k:Nat} (ht:a.pipe=k) {c:Cr} (hc:cs[k]?=some c):
  ∃(q:LX) (F':Fr) (H':Heap),evC W (cutC 1 (zB 11 c15)) F H=some (q,F',H')∧
   if (zai c.pl).2≠0 then q= .ret∧F'=[(6,.optr 2 0 0 0),(7,I (zai c.pl).2)]∧H'[2]?=some (.arr 0 4 false [zFs.av])
   else q= .normal∧F'=fr15 i∧∃cs',M15 H' x a sts (l.set k (zai c.pl).1) cs' ov outs dr∧cs'.length=cs.length:=by
 obtain⟨h0,h1,h2,h3,h4,h5,ho⟩:=hM
 have hcn:=h5.2.2 c (lMg hc)
 obtain⟨c',b1,b2,b3⟩:=e49 c hcn
 have hkl:=(gEs.1 hc).1
 have hkl':(k:Int)<cs.length:=by omega
 have hB:=h5.1
 have hl2:=(gEs.1 h2).1
 have hb:=zeF
 by_cases he:(zai c.pl).2=0
 .simp only[ne_eq,he,not_true_eq_false,if_false]
  rw[he]at b1
  have hC2:=h5.set (k:=k) b3
  rw[b2]at hC2
  have hK:Kept (some 5) H (H.set 5 (.arr cs.length 6 false ((cs.set k c').map Cr.av))++[.arr 0 6 false [c'.av]]):=(Kept.set _ _ _).trans (Kept.append _ _ _)
  refine⟨.normal,fr15 i,H.set 5 (.arr cs.length 6 false ((cs.set k c').map Cr.av))++[.arr 0 6 false [c'.av]],?_,rfl,rfl,cs.set k c',⟨hK.get (by simp) h0,by rw[List.length_set];exact hK.get (by simp) h1,hK.get (by simp) h2,hK.get (by simp) h3,hK.get (by simp) h4,?_,ho.kept (by omega) hK⟩,by simp⟩
  .have hset:∀A B:Blk,(H++[A]).set 5 B=H.set 5 B++[A]:=fun A B=>List.set_append_left _ _ (gEs.1 hB).1
   rcases hF with rfl|rfl<;>simp[cutC,zB,fi15,c15,h1,h3,hB,ht,hkl,hkl',hc,hset,b1,zL,app0 h1,app0 h3,app0 hB,gEz, -getElem?_pos, -List.map_set]
  .rw[List.length_set];exact⟨app0 hC2.1 _,hC2.2⟩
 .simp only[ne_eq,he,not_false_eq_true,if_true]
  refine⟨.ret,[(6,.optr 2 0 0 0),(7,I (zai c.pl).2)],List.set (H++[Blk.arr 0 6 false [c'.av]]) 2 (.arr 0 4 false [zFs.av]),?_,rfl,rfl,gEt (by simp;omega)⟩
  rcases hF with rfl|rfl<;>simp[cutC,zB,fi15,c15,h1,h3,hB,ht,hkl,hkl',hc,b1,he,zL,app0 h1,app0 h3,app0 hB,app0 h2,hb,gEz, -getElem?_pos, -zJ, -List.map_set]
end
theorem znq (x:Pl) (s:FS) (i:Int) (h0:(zaQ x s i).kind≠0) (h2:(zaQ x s i).kind≠2):(zaQ x s i).pipe= -1:=by
 unfold zaQ at *
 simp only at *
 by_cases e0:(stAt s i).ended=true
 .rw[if_pos e0]at h0;exact absurd rfl h0
 rw[if_neg e0]at h0 h2⊢
 by_cases e1:(sgAt x i).kind=1
 .rw[if_pos e1]
  by_cases e2:s.drain=false∧(stAt s i).count<(sgAt x i).items.l.length
  .rw[if_pos e2]
  .rw[if_neg e2]
 .rw[if_neg e1]at h0 h2⊢
  cases hc:(crAt s (pIn x i (za8 (sgAt x i) (stAt s i)))).items with
  |cons a r=>rw[hc]at h2;exact absurd rfl h2
  |nil=>
   rw[hc]at h0
   simp only at h0⊢
   by_cases e3:endC (crAt s (pIn x i (za8 (sgAt x i) (stAt s i))))=true
   .rw[if_pos e3]
   .rw[if_neg e3]at h0;exact absurd rfl h0
section
variable {x:Pl} {s:Fs} {i:Nat}
theorem ztP {F:Fr} {H:Heap} {a:AV} {e:Int} (hr:evC W c15 [(0,x.av),(1,s.av),(2,I i)] []=some (.ret,F,H)) (hF:F=[(6,.optr 2 0 0 0),(7,I e)]) (hz:H[2]?=some (.arr 0 4 false [a])) (h4:a.cells.length=4) (hok:okO a=some a) (hld:zi true 4 a.cells=a) {B:AV} (hf:frz H 8 (.tuple [a,I e])=some B):W.pure 15 [x.av,s.av,I i]=some B:=by
 rw[zd Φ15 (by simp)]
 have e:zam W fi15 [x.av,s.av,I i] []=(evC W c15 [(0,x.av),(1,s.av),(2,I i)] []).bind fun p=>match p.1 with
  | .exit _=>none
  |_=>(resV p.2.1 p.2.2 fi15.res).map fun v=>(v,p.2.2):=rfl
 rw[e,hr,hF]
 simp[fi15,resV,rvVs,rvV,hz,h4,hok,hld,hf]
theorem zwq (hx:PlN x) (hv:PlV x) (hi:i<x.stages.l.length) {a:Act} {sts:List Ss} {l:List CC} {cs:List Cr} {ov:AV} {outs:List (List Int)} {dr:Bool} {H:Heap} (hM:M15 H x a sts l cs ov outs dr) (hlc:cs.length=x.pipes.l.length) (hm:a.out.l.length=outK (sgAt x i).kind) (hms:∀y∈a.out.l,SlN y)
  (F:Fr) (hF:F=fr15 i∨F=fr15 i++[(107,.bool false)]):
  ∃H',evC W (zB 12 c15) F H=some (.ret,[(6,.optr 2 0 0 0),(7,I 0)],H')∧∃cs',Z14 H' sts (zbT x i a.state.ended (a.out.l.map Sl.l) 0 l) cs' outs dr:=by
 obtain⟨h0,h1,h2,h3,h4,h5,ho⟩:=hM
 rw[hlc]at h1 h5
 obtain⟨q,F2,H2,d1,rfl,d0,d2,cs',d3,d4⟩:=zc.1 (zqN (i:=i) hx hv hi _ rfl hm hms a.out.l 0 H l cs rfl (by omega) h0 h1 h3 h5 hlc)
 simp at d1 d0
 have e1:=d2.get (by simp) h1
 have e2:=d2.get (by simp) h2
 have e4:=d2.get (by simp) h4
 have eo:=ho.kept (by omega) d2
 have hlen2:=(gEs.1 e2).1
 have hK3:Kept (some 2) H2 (H2.set 2 (.arr 0 4 false [.agg [.osl 4 sts.length 0 sts.length,.osl 5 x.pipes.l.length 0 x.pipes.l.length,ov,.bool dr]])):=Kept.set _ _ _
 have hoo:=ho.okO
 have hoc:=ho.cell
 refine⟨H2.set 2 (.arr 0 4 false [.agg [.osl 4 sts.length 0 sts.length,.osl 5 x.pipes.l.length 0 x.pipes.l.length,ov,.bool dr]]),?_,cs',⟨ov,?_,eo.kept (by omega) hK3⟩,hK3.get (by simp) e4,?_⟩
 .obtain⟨g4,g6⟩:=d0
  rcases hF with rfl|rfl<;>simp[zB,fi15,c15,d1,g4,g6,e1,e2,hoo,hoc,ztq,hlen2,gEz, -getElem?_pos, -List.map_set]
 .rw[gEt hlen2,d4]
 .rw[d4];exact⟨hK3.get (by simp) d3.1,d3.2⟩
theorem e15 (hx:PlN x) (hs:FsN s) (i:Int):∃t:Fs,W.pure 15 [x.av,s.av,I i]=some (.tuple [t.av,I (zdz x s.pl i).2])∧t.pl=(zdz x s.pl i).1∧FsN t:=by
 have hzp:zFs.pl=fsZ:=rfl
 by_cases hcase:vaI x s.pl≠0∨¬(0≤i∧i<x.stages.l.length)
 .obtain⟨h1,h2⟩:=e15a hx hs i hcase
  exact⟨zFs,h1,by rw[h2,hzp],zfV⟩
 have hva:vaI x s.pl=0:=by
  apply cBc;intro h;exact hcase (.inl h)
 have hir:0≤i∧i<x.stages.l.length:=by
  apply cBc;intro h;exact hcase (.inr h)
 obtain⟨i,rfl⟩:∃n:Nat,i=n:=⟨i.toNat,by omega⟩
 have hi:i<x.stages.l.length:=by omega
 obtain⟨hp,hf⟩:=zgJ.1 hva
 have hv:=zea hp
 have run:∀(A:Option AV),((zam W fi15 [x.av,s.av,I i] []).bind fun p=>frz p.2 8 p.1)=A→W.pure 15 [x.av,s.av,I i]=A:=fun A h=>by rw[zd Φ15 (by simp)];exact h
 have c1:=e17 hx hs
 rw[hva]at c1
 have hi0:¬((i:Int)<0):=by omega
 have hi1:¬((x.stages.l.length:Int)≤i):=by omega
 have hb:=zeF
 have c3:=e38 hx hv hs hf i hi
 obtain⟨a,c4,hAct⟩:=e47 hx hv hs hf i hi
 have hstep:zdz x s.pl i=if enB x s.pl i=false then (fsZ,25) else
  let m:=zaQ x s.pl i
  let k:=zV (x.stages.l.take i)
  if m.e≠0 then (fsZ,m.e)
  else if m.kind=2∧(sgAt x i).kind=10∧(s.pl.out.getD k []).length=200 then (fsZ,4)
  else
   let out:=if m.kind=2∧(sgAt x i).kind=10 then s.pl.out.set k (s.pl.out.getD k []++[m.item]) else s.pl.out
   let c:=zai (crAt s.pl m.pipe)
   if m.kind=2∧c.2≠0 then (fsZ,c.2)
   else (⟨s.pl.st.set i m.st,zbT x i m.st.ended m.out 0 (if m.kind=2 then s.pl.cr.set m.pipe.toNat c.1 else s.pl.cr),out,s.pl.drain⟩,0):=by
  unfold zdz
  rw[if_neg (by simp[hva]),if_neg (by omega)]
  rfl
 rw[hstep]
 cases hen:enB x s.pl i with
 |false=>
  rw[hen]at c3
  refine⟨zFs,run _ ?_,rfl,zfV⟩
  simp[fi15,c15,c1,hi0,hi1,c3,hb, -zJ]
 |true=>
 rw[hen]at c3
 rw[if_neg (by simp)]
 have hk0:(zaQ x s.pl i).kind≠0:=by
  intro hk;unfold enB at hen;simp[hk]at hen
 by_cases he:(zaQ x s.pl i).e=0
 rotate_left
 .have hme:a.e≠0:=by rw[hAct.e];exact he
  refine⟨zFs,run _ ?_,by simp only[if_pos he];rfl,zfV⟩
  simp only[if_pos he]
  rw[←hAct.e]
  simp[fi15,c15,c1,hi0,hi1,c3,c4,hme,hb, -zJ]
 have hme:a.e=0:=by rw[hAct.e,he]
 have hact:=zc6 hv hf hi hk0 he
 have hmv:=hact.2.mv hact.1
 have hlen:a.out.l.length=outK (sgAt x i).kind:=by rw[←hmv.len,←hAct.out];simp
 have hnp:=znq x s.pl i hk0
 generalize hgv:zaQ x s.pl i=v at *
 have hls:s.stages.l.length=x.stages.l.length:=by have:=hf.ls;simpa[Fs.pl]using this
 have hlc:s.credits.l.length=x.pipes.l.length:=by have:=hf.lc;simpa[Fs.pl]using this
 have hh:=zxm hx hs hva i hi hls c3 c4 hme
 have hcut:evC W c15 [(0,x.av),(1,s.av),(2,I i)] []=evC W (zB 10 c15) (fr15 i) (hR x s a i):=zae W 10 c15 _ _ _ _ hh
 obtain⟨q,F1,H1,d1,d2⟩:=zc.1 (zAH hx hs hf i hi a)
 have hsk:skA x a i=true↔v.kind=2∧(sgAt x i).kind=10:=by
  unfold skA;rw[hAct.kd];simp
 generalize hkk:zV (x.stages.l.take i)=k at *
 simp only[if_neg (show ¬v.e≠0 by simp[he])]
 by_cases h4:v.kind=2∧(sgAt x i).kind=10∧(s.pl.out.getD k []).length=200
 .have h4':skA x a i=true∧(s.pl.out.getD k []).length=200:=⟨hsk.2 ⟨h4.1,h4.2.1⟩,h4.2.2⟩
  rw[if_pos h4']at d2
  simp only[if_pos h4]
  obtain⟨rfl,hF1,hz⟩:=d2
  have hr:evC W c15 [(0,x.av),(1,s.av),(2,I i)] []=some (.ret,F1,H1):=hcut.trans (zei d1)
  exact⟨zFs,ztP hr hF1 hz rfl rfl rfl rfl,rfl,zfV⟩
 have h4':¬(skA x a i=true∧(s.pl.out.getD k []).length=200):=fun h=>h4 ⟨(hsk.1 h.1).1,(hsk.1 h.1).2,h.2⟩
 rw[if_neg h4']at d2
 simp only[if_neg h4]
 obtain⟨rfl,hF1,ov,hM⟩:=d2
 have hcut2:evC W (zB 10 c15) (fr15 i) (hR x s a i)=evC W (zB 11 c15) F1 H1:=zae W 1 (zB 10 c15) _ _ _ _ d1
 have hon:(if v.kind=2∧(sgAt x i).kind=10 then s.pl.out.set k (s.pl.out.getD k []++[v.item]) else s.pl.out)=(if skA x a i=true then s.pl.out.set k (s.pl.out.getD k []++[a.item]) else s.pl.out):=by
  rw[hAct.it]
  by_cases h:v.kind=2∧(sgAt x i).kind=10
  .rw[if_pos h,if_pos (hsk.2 h)]
  .rw[if_neg h,if_neg (fun hh=>h (hsk.1 hh))]
 rw[hon]
 have hol:(if skA x a i=true then s.pl.out.set k (s.pl.out.getD k []++[a.item]) else s.pl.out).length≤1000:=by
  have h0:s.pl.out.length≤1000:=by have:=hs.ou;simpa[Fs.pl]using this
  split
  .simpa using h0
  .exact h0
 generalize hoe:(if skA x a i=true then s.pl.out.set k (s.pl.out.getD k []++[a.item]) else s.pl.out)=outs at *
 have hhs:∀t∈s.stages.l.set i a.state,SlN t.held:=by
  intro t ht
  rcases List.mem_or_eq_of_mem_set ht with ht|rfl
  .exact hs.hs t ht
  .exact hAct.sh
 have fin:∀(F':Fr) (H':Heap) (l:List CC) (cs:List Cr),l.length≤1000→evC W (zB 11 c15) F1 H1=evC W (zB 12 c15) F' H'→(F'=fr15 i∨F'=fr15 i++[(107,.bool false)])→M15 H' x a (s.stages.l.set i a.state) l cs ov outs s.draining→cs.length=x.pipes.l.length→
   ∃t:Fs,W.pure 15 [x.av,s.av,I i]=some (.tuple [t.av,I 0])∧t.pl=⟨s.pl.st.set i v.st,zbT x i v.st.ended v.out 0 l,outs,s.pl.drain⟩∧FsN t:=by
  intro F' H' l cs hl0 h1 hF' hM' hcs
  obtain⟨H3,t1,cs',hZ⟩:=zwq hx hv hi hM' hcs hlen hAct.sa F' hF'
  have hcl:cs'.length≤1000:=by
   have e1:=hZ.h5.2.1
   have e2:=congrArg List.length e1
   rw[List.length_map,zcG]at e2
   omega
  obtain⟨b,t,z1,z2,z3,z4,z5,z6,z7⟩:=hZ.fs (by have:=hs.st;simpa using this) hcl hol hhs
  refine⟨t,ztP (hcut.trans (hcut2.trans (h1.trans t1))) rfl z1 z2 z3 z4 (z5 0),?_,z7⟩
  rw[z6,hAct.out]
  have hen:a.state.ended=v.st.ended:=by rw[←hAct.st];rfl
  have:(s.stages.l.set i a.state).map Ss.pl=s.pl.st.set i v.st:=by
   rw[List.map_set,hAct.st];rfl
  rw[this,hen]
  rfl
 have hcrl:s.pl.cr.length≤1000:=by have:=hs.cr;simpa[Fs.pl]using this
 by_cases hk2:v.kind=2
 .obtain⟨kp,y,a0,r,c,q1,q2,q3,q4,q5,q6,q7,q8,q9,q10⟩:=hact.2.pipe hk2
  obtain⟨c',hc',rfl⟩:=zqj q5
  have hpn:=hAct.pi
  rw[q9]at hpn⊢
  have hca:crAt s.pl ((kp:Nat):Int)=c'.pl:=zek hc'
  rw[hca]
  obtain⟨q,F',H',t1,t2⟩:=zwn hM F1 hF1 hpn hc'
  by_cases e0:(zai c'.pl).2=0
  .rw[if_neg (show ¬(zai c'.pl).2≠0 by simp[e0])]at t2
   obtain⟨rfl,rfl,cs',hM',hcs'⟩:=t2
   simp only[if_pos hk2,if_neg (show ¬(v.kind=2∧(zai c'.pl).2≠0) from fun h=>h.2 e0),iTn]
   exact fin _ _ _ _ (by simpa using hcrl) (zae W 1 (zB 11 c15) _ _ _ _ t1) (.inl rfl) hM' (hcs'.trans hlc)
  .rw[if_pos e0]at t2
   obtain⟨rfl,t2,t3⟩:=t2
   simp only[if_pos (show v.kind=2∧(zai c'.pl).2≠0 from⟨hk2,e0⟩)]
   exact⟨zFs,ztP (hcut.trans (hcut2.trans (zei t1))) t2 t3 rfl rfl rfl rfl,rfl,zfV⟩
 .have hpn:a.pipe<0:=by rw[hAct.pi,hnp hk2];omega
  have t1:=ztG hM F1 hF1 hpn
  simp only[if_neg hk2,if_neg (show ¬(v.kind=2∧(zai (crAt s.pl v.pipe)).2≠0) from fun h=>hk2 h.1)]
  exact fin _ _ _ _ (by simpa using hcrl) (zae W 1 (zB 11 c15) _ _ _ _ t1) (.inr rfl) hM hlc
end
theorem zw1 (a b:Sl Int) (h:a.l=b.l) (hn:a.l.length≤1048576):∀(rest:List Int) (j:Nat) (H:Heap),a.l.drop j=rest→j≤a.l.length→
  okC (W.loop [0,1,5] zuq [(0,Sl.av I 1 a),(1,Sl.av I 1 b),(5,I j)] H) (fun q F H'=>q= .exit 0):=by
 intro rest
 induction rest with
 |nil=>
  intro j H h1 h2
  have hj:=zf h1 h2
  rw[zb]
  simp[zoO,zse,hj]
 |cons n rest ih=>
  intro j H h1 h2
  obtain⟨hlt,ha,hr⟩:=zn h1
  have hlt':(j:Int)<a.l.length:=by omega
  have hw:=zg (k:=j) (by omega)
  have hb:b.l[j]?=some n:=by rw[←h];exact ha
  have hltb:j<b.l.length:=by rw[←h];exact hlt
  have hltb':(j:Int)<b.l.length:=by omega
  have hak:a.l[j]=n:=(gEs.1 ha).2
  have hbk:b.l[j]=n:=(gEs.1 hb).2
  have ih:=ih (j+1) H hr (by omega)
  simp only[iNa,iCo]at ih
  rw[zb]
  simp[zoO,zse,hlt,hlt',hltb,hltb',hak,hbk,hw]
  exact ih
theorem e76 (a b:Sl Int) (h:a.l=b.l) (hn:a.l.length≤1048576):W.pure 76 [Sl.av I 1 a,Sl.av I 1 b]=some (.bool true):=by
 obtain⟨q,F,H,d1,rfl⟩:=zc.1 (zw1 a b h hn a.l 0 [] rfl (by omega))
 simp at d1
 have hl:(a.l.length:Int)=b.l.length:=by rw[h]
 rw[zd Φ76 (by simp)]
 simp[fi76,c76,eq_true hl,d1,h]
theorem zw8 (a b:Sl (Sl Int)) (h:a.l.map Sl.l=b.l.map Sl.l) (hn:a.l.length≤1048576) (hs:∀y∈a.l,SlN y):∀(rest:List (Sl Int)) (j:Nat) (H:Heap),a.l.drop j=rest→j≤a.l.length→
  okC (W.loop [0,1,5] zuI [(0,Sl.av (Sl.av I 1) 1 a),(1,Sl.av (Sl.av I 1) 1 b),(5,I j)] H) (fun q F H'=>q= .exit 0):=by
 have hlab:a.l.length=b.l.length:=by have:=congrArg List.length h;simpa using this
 intro rest
 induction rest with
 |nil=>
  intro j H h1 h2
  have hj:=zf h1 h2
  rw[zb]
  simp[zoS,zsi,hj]
 |cons n rest ih=>
  intro j H h1 h2
  obtain⟨hlt,ha,hr⟩:=zn h1
  have hlt':(j:Int)<a.l.length:=by omega
  have hw:=zg (k:=j) (by omega)
  have hltb:j<b.l.length:=by omega
  have hltb':(j:Int)<b.l.length:=by omega
  obtain⟨n',hb⟩:∃n',b.l[j]?=some n':=⟨_,gEg hltb⟩
  have hak:a.l[j]=n:=(gEs.1 ha).2
  have hbk:b.l[j]=n':=(gEs.1 hb).2
  have e:n.l=n'.l:=by
   have:=congrArg (fun l=>l[j]?) h
   simp[ha,hb]at this
   exact this
  have c1:=e76 n n' e (hs n (lMg ha)).2
  have ih:=ih (j+1) H hr (by omega)
  simp only[iNa,iCo]at ih
  rw[zb]
  simp[zoS,zsi,hlt,hlt',hltb,hltb',hak,hbk,c1,hw]
  exact ih
theorem e25 (a b:Sl (Sl Int)) (h:a.l.map Sl.l=b.l.map Sl.l) (hn:a.l.length≤1048576) (hs:∀y∈a.l,SlN y):W.pure 25 [Sl.av (Sl.av I 1) 1 a,Sl.av (Sl.av I 1) 1 b]=some (.bool true):=by
 obtain⟨q,F,H,d1,rfl⟩:=zc.1 (zw8 a b h hn hs a.l 0 [] rfl (by omega))
 simp at d1
 have hlab:a.l.length=b.l.length:=by have:=congrArg List.length h;simpa using this
 have hl:(a.l.length:Int)=b.l.length:=by omega
 rw[zd Φ25 (by simp)]
 simp[fi25,c25,eq_true hl,eq_true hlab,d1]
theorem e59 (t u:Ss) (h:t.pl=u.pl) (hn:SlN t.held):W.pure 59 [t.av,u.av]=some (.bool true):=by
 simp only[Ss.pl,SS.mk.injEq]at h
 have c1:=e76 t.held u.held h.1 hn.2
 rw[zd Φ59 (by simp)]
 simp[fi59,c59,c1,h.2.1,h.2.2]
theorem e60 (t u:Cr) (h:t.pl=u.pl) (hn:SlN t.items):W.pure 60 [t.av,u.av]=some (.bool true):=by
 simp only[Cr.pl,CC.mk.injEq]at h
 have c1:=e76 t.items u.items h.2.2.2.2.1 hn.2
 rw[zd Φ60 (by simp)]
 simp[fi60,c60,c1,h.1,h.2.1,h.2.2.1,h.2.2.2.1,h.2.2.2.2.2]
section
variable {s t:Fs}
theorem zqJ (hs:FsN s) (h:s.pl=t.pl) (K:Heap):∀(rest:List Ss) (j:Nat),s.stages.l.drop j=rest→j≤s.stages.l.length→
  okC (W.loop [2,3,5] zuQ [(2,.optr 0 0 0 0),(3,.optr 1 0 0 0),(5,I j)] [.arr 0 4 false [s.av],.arr 0 4 false [t.av]]) (fun q F H'=>q= .exit 0∧F.keep [2,3]=[(2,.optr 0 0 0 0),(3,.optr 1 0 0 0)]∧H'=[.arr 0 4 false [s.av],.arr 0 4 false [t.av]]):=by
 have hm:s.stages.l.map Ss.pl=t.stages.l.map Ss.pl:=by have:=congrArg FS.st h;exact this
 have hlab:s.stages.l.length=t.stages.l.length:=by have:=congrArg List.length hm;simpa using this
 have hsz:=hs.st
 intro rest
 induction rest with
 |nil=>
  intro j h1 h2
  have hj:=zf h1 h2
  rw[zb]
  simp[zoT,zsj,hj]
 |cons n rest ih=>
  intro j h1 h2
  obtain⟨hlt,ha,hr⟩:=zn h1
  have hlt':(j:Int)<s.stages.l.length:=by omega
  have hw:=zg (k:=j) (by omega)
  have hltb:j<t.stages.l.length:=by omega
  have hltb':(j:Int)<t.stages.l.length:=by omega
  obtain⟨n',hb⟩:∃n',t.stages.l[j]?=some n':=⟨_,gEg hltb⟩
  have hak:s.stages.l[j]=n:=(gEs.1 ha).2
  have hbk:t.stages.l[j]=n':=(gEs.1 hb).2
  have e:n.pl=n'.pl:=by
   have:=congrArg (fun l=>l[j]?) hm
   simp[ha,hb]at this
   exact this
  have c1:=e59 n n' e (hs.hs n (lMg ha))
  have ih:=ih (j+1) hr (by omega)
  simp only[iNa,iCo]at ih
  rw[zb]
  simp[zoT,zsj,hlt,hlt',hltb,hltb',hak,hbk,c1,hw]
  simpa using ih
theorem zqK (hs:FsN s) (h:s.pl=t.pl):∀(rest:List Cr) (j:Nat),s.credits.l.drop j=rest→j≤s.credits.l.length→
  okC (W.loop [2,3,6] zuR [(2,.optr 0 0 0 0),(3,.optr 1 0 0 0),(6,I j)] [.arr 0 4 false [s.av],.arr 0 4 false [t.av]]) (fun q F H'=>q= .exit 2):=by
 have hm:s.credits.l.map Cr.pl=t.credits.l.map Cr.pl:=by have:=congrArg FS.cr h;exact this
 have hlab:s.credits.l.length=t.credits.l.length:=by have:=congrArg List.length hm;simpa using this
 have hsz:=hs.cr
 intro rest
 induction rest with
 |nil=>
  intro j h1 h2
  have hj:=zf h1 h2
  rw[zb]
  simp[zoU,zsk,hj]
 |cons n rest ih=>
  intro j h1 h2
  obtain⟨hlt,ha,hr⟩:=zn h1
  have hlt':(j:Int)<s.credits.l.length:=by omega
  have hw:=zg (k:=j) (by omega)
  have hltb:j<t.credits.l.length:=by omega
  have hltb':(j:Int)<t.credits.l.length:=by omega
  obtain⟨n',hb⟩:∃n',t.credits.l[j]?=some n':=⟨_,gEg hltb⟩
  have hak:s.credits.l[j]=n:=(gEs.1 ha).2
  have hbk:t.credits.l[j]=n':=(gEs.1 hb).2
  have e:n.pl=n'.pl:=by
   have:=congrArg (fun l=>l[j]?) hm
   simp[ha,hb]at this
   exact this
  have c1:=e60 n n' e (hs.hc n (lMg ha))
  have ih:=ih (j+1) hr (by omega)
  simp only[iNa,iCo]at ih
  rw[zb]
  simp[zoU,zsk,hlt,hlt',hltb,hltb',hak,hbk,c1,hw]
  simpa using ih
theorem e19 (hs:FsN s) (h:s.pl=t.pl):W.pure 19 [s.av,t.av]=some (.bool true):=by
 obtain⟨q,F,H,d1,rfl,d2,rfl⟩:=zc.1 (zqJ hs h [] s.stages.l 0 rfl (by omega))
 obtain⟨q,F3,H3,f1,rfl⟩:=zc.1 (zqK hs h s.credits.l 0 rfl (by omega))
 simp at d1 d2 f1
 have h1:s.stages.l.map Ss.pl=t.stages.l.map Ss.pl:=congrArg FS.st h
 have h2:s.credits.l.map Cr.pl=t.credits.l.map Cr.pl:=congrArg FS.cr h
 have h3:s.outputs.l.map Sl.l=t.outputs.l.map Sl.l:=congrArg FS.out h
 have h4:s.draining=t.draining:=congrArg FS.drain h
 have c1:=e25 s.outputs t.outputs h3 hs.no.2 hs.ho
 have l1:s.stages.l.length=t.stages.l.length:=by have:=congrArg List.length h1;simpa using this
 have l2:s.credits.l.length=t.credits.l.length:=by have:=congrArg List.length h2;simpa using this
 have m1:(s.stages.l.length:Int)=t.stages.l.length:=by omega
 have m2:(s.credits.l.length:Int)=t.credits.l.length:=by omega
 obtain⟨g2,g3⟩:=d2
 rw[zd Φ19 (by simp)]
 simp[fi19,c19,eq_true l1,eq_true l2,eq_true m1,eq_true m2,h4,c1,d1,g2,g3,f1]
end
theorem zw9 (a b:Sl Int) (h:a.l=b.l) (hn:a.l.length≤1048576):∀(rest:List Int) (j:Nat) (H:Heap),a.l.drop j=rest→j≤a.l.length→
  okC (W.loop [0,1,12,13] zuS [(0,Sl.av I 1 a),(1,Sl.av I 1 b),(12,I a.l.length),(13,I j)] H) (fun q F H'=>q= .exit 0):=by
 intro rest
 induction rest with
 |nil=>
  intro j H h1 h2
  have hj:=zf h1 h2
  rw[zb]
  simp[zoV,zsl,hj]
 |cons n rest ih=>
  intro j H h1 h2
  obtain⟨hlt,ha,hr⟩:=zn h1
  have hlt':(j:Int)<a.l.length:=by omega
  have hw:=zg (k:=j) (by omega)
  have hb:b.l[j]?=some n:=by rw[←h];exact ha
  have hltb:j<b.l.length:=by rw[←h];exact hlt
  have hltb':(j:Int)<b.l.length:=by omega
  have hak:a.l[j]=n:=(gEs.1 ha).2
  have hbk:b.l[j]=n:=(gEs.1 hb).2
  have ih:=ih (j+1) H hr (by omega)
  simp only[iNa,iCo]at ih
  rw[zb]
  simp[zoV,zsl,hlt,hlt',hltb,hltb',hak,hbk,hw]
  exact ih
theorem e18 (a b:Sl Int) (h:a.l=b.l) (hn:a.l.length≤1048576):W.pure 18 [Sl.av I 1 a,Sl.av I 1 b]=some (.bool true):=by
 obtain⟨q,F,H,d1,rfl⟩:=zc.1 (zw9 a b h hn a.l 0 [] rfl (by omega))
 simp at d1
 have hl:(a.l.length:Int)=b.l.length:=by rw[h]
 rw[zd Φ18 (by simp)]
 simp[fi18,c18,eq_true hl,d1,h]
 first|done|(rw[h]at d1;simp[d1])
def zpQ (p:Prop) (e rv:Nat) (q:LX) (F:Fr):Prop:=(q= .exit e∧p)∨(q= .ret∧F.get rv= .bool true)
theorem zue (e:Ex) (hl:e.args.l.length≤1000000) (ih:∀x∈e.args.l,∃b,W.pure 132 [x.av]=some (.bool b)):∀(r:List Ex) (k:Nat),e.args.l.drop k=r→k≤e.args.l.length→
  okC (W.loop [1,3] znR [(1,.optr 0 0 0 0),(3,I k)] [.arr 0 5 false [e.av]]) (fun q F H'=>zpQ True 0 2 q F):=by
 intro r
 induction r with
 |nil=>
  intro k h1 h2
  have hk:=zf h1 h2
  rw[zb]
  simp[zhs,zjb,hk]
  exact .inl ⟨rfl,trivial⟩
 |cons a r ihr=>
  intro k h1 h2
  obtain⟨hlt,ha,hr⟩:=zn h1
  have hlt':(k:Int)<e.args.l.length:=by omega
  have hak:e.args.l[k]=a:=(gEs.1 ha).2
  obtain⟨b,e1⟩:=ih a (zac h1)
  have hw:=zg (k:=k) (by omega)
  have hJ:=ihr (k+1) hr (by omega)
  simp only[iNa,iCo]at hJ
  rw[zb]
  cases b with
  |true=>
   simp[zhs,zjb,hlt,hak,e1,hw]
   exact .inr ⟨rfl,rfl⟩
  |false=>
   simp[zhs,zjb,hlt,hak,e1,hw]
   simpa using hJ
theorem e132:∀(e:Ex),e.size≤1000000→∃b,W.pure 132 [e.av]=some (.bool b):=by
 refine Ex.ind (fun e ih=>?_)
 intro hs
 have hll:=Ex.len_sizes e.args.l
 rw[Ex.size_eq]at hs
 obtain⟨q,F,H,d1,d2⟩:=zc.1 (zue e (by omega) (fun x hx=>ih x hx (by have:=Ex.mem_size hx;omega)) e.args.l 0 rfl (by omega))
 simp at d1
 by_cases h40:40<e.name.length
 .have h40':(40:Int)<e.name.length:=by omega
  refine⟨true,?_⟩
  rw[zd Φ132 (by simp)]
  simp[zl7,c132,h40,h40']
 .have h40':¬(40:Int)<e.name.length:=by omega
  rcases d2 with⟨rfl,_⟩|⟨rfl,d2⟩
  .refine⟨false,?_⟩
   rw[zd Φ132 (by simp)]
   simp[zl7,c132,h40,h40',d1]
  .refine⟨true,?_⟩
   rw[zd Φ132 (by simp)]
   simp[zl7,c132,h40,h40',d1,d2]
theorem e84 (e:Ex):∃b,W.pure 84 [e.av]=some (.bool b):=by
 have c1:=e191 e
 by_cases h:e.size≤40
 .obtain⟨b,c2⟩:=e132 e (by omega)
  have hm:min e.size 101=e.size:=by omega
  rw[hm]at c1
  have h1:¬(40:Int)<e.size:=by omega
  have h2:(e.size:Int)≤40:=by omega
  refine⟨b,?_⟩
  rw[zd Φ84 (by simp)]
  have h1':¬40<e.size:=by omega
  simp[fi84,c84,c1,h1,h1',eq_true h2,eq_true h,c2]
 .generalize hm:min e.size 101=m at c1
  have h1:(40:Int)<m:=by omega
  have h1':40<m:=by omega
  have h2:¬(m:Int)≤40:=by omega
  have h2':¬m≤40:=by omega
  refine⟨decide (m≤100),?_⟩
  rw[zd Φ84 (by simp)]
  by_cases h3:m≤100
  .have h3':(m:Int)≤100:=by omega
   simp[fi84,c84,c1,h1,h1',h2,h2',eq_true h3,eq_true h3']
  .have h3':¬(m:Int)≤100:=by omega
   simp[fi84,c84,c1,h1,h1',h2,h2',h3,h3']
theorem e35 (s:Sg):∃b,W.pure 35 [s.av]=some (.bool b)∧(b=false→s.items.l.length≤210):=by
 obtain⟨b,c1⟩:=e84 s.expr
 refine⟨b||(decide (40<s.items.l.length)&&decide (s.items.l.length≤200))||decide (210<s.items.l.length),?_,?_⟩
 .rw[zd Φ35 (by simp)]
  by_cases h1:40<s.items.l.length<;>by_cases h2:s.items.l.length≤200<;>by_cases h3:210<s.items.l.length<;>cases b<;>simp[fi35,c35,c1,h1,h2,h3]<;>omega
 .intro h
  simp only[Bool.or_eq_false_iff,decide_eq_false_iff_not]at h
  omega
section
variable {x:Pl} {s:Fs}
theorem zAJ (hl:x.stages.l.length≤1000):∀(r:List Sg) (k:Nat),x.stages.l.drop k=r→k≤x.stages.l.length→
  okC (W.loop [1,3] l9_0 [(1,.optr 0 0 0 0),(3,I k)] [.arr 0 2 false [x.av]]) (fun q F H'=>zpQ (∀s∈r,s.items.l.length≤210) 0 2 q F):=by
 intro r
 induction r with
 |nil=>
  intro k h1 h2
  have hk:=zf h1 h2
  rw[zb]
  simp[ziR,b9_0,hk]
  exact .inl ⟨rfl,by simp⟩
 |cons a r ihr=>
  intro k h1 h2
  obtain⟨hlt,ha,hr⟩:=zn h1
  have hlt':(k:Int)<x.stages.l.length:=by omega
  have hak:x.stages.l[k]=a:=(gEs.1 ha).2
  obtain⟨b,e1,e2⟩:=e35 a
  have hw:=zg (k:=k) (by omega)
  obtain⟨q,F,H,d1,d2⟩:=zc.1 (ihr (k+1) hr (by omega))
  simp only[iNa,iCo]at d1
  rw[zb]
  by_cases hb:b=true∨(20<a.items.l.length∧a.items.l.length≤200)
  .cases b with
   |true=>simp[ziR,b9_0,hlt,hak,e1,hw];exact .inr ⟨rfl,rfl⟩
   |false=>
    rcases hb with hb|⟨g1,g2⟩
    .cases hb
    .have g1':(20:Int)<a.items.l.length:=by omega
     have g2':(a.items.l.length:Int)≤200:=by omega
     simp[ziR,b9_0,hlt,hak,e1,hw,eq_true g1,eq_true g2,eq_true g1',eq_true g2']
     exact .inr ⟨rfl,rfl⟩
  .have hbf:b=false:=by cases b;rfl;exact absurd (.inl rfl) hb
   subst hbf
   have e2:=e2 rfl
   have fin:zpQ (∀s∈a::r,s.items.l.length≤210) 0 2 q F:=by
    rcases d2 with⟨h,h3⟩|h
    .exact .inl ⟨h,by intro s hs;rcases lMc.1 hs with rfl|hs;exact e2;exact h3 s hs⟩
    .exact .inr h
   by_cases g1:20<a.items.l.length
   .have g2:¬a.items.l.length≤200:=fun h=>hb (.inr ⟨g1,h⟩)
    have g1':(20:Int)<a.items.l.length:=by omega
    have g2':¬(a.items.l.length:Int)≤200:=by omega
    simp[ziR,b9_0,hlt,hak,e1,hw,eq_true g1,g2,eq_true g1',g2',d1]
    simpa using fin
   .have g1':¬(20:Int)<a.items.l.length:=by omega
    simp[ziR,b9_0,hlt,hak,e1,hw,g1,g1',d1]
    simpa using fin
theorem e9 (x:Pl):∃b,W.pure 9 [x.av]=some (.bool b)∧(b=false→PlN x):=by
 by_cases h1:18<x.stages.l.length
 .have h1':(18:Int)<x.stages.l.length:=by omega
  refine⟨true,?_,by simp⟩
  rw[zd Φ9 (by simp)]
  simp[fi9,c9,eq_true h1,eq_true h1']
 .have h1':¬(18:Int)<x.stages.l.length:=by omega
  by_cases h2:36<x.pipes.l.length
  .have h2':(36:Int)<x.pipes.l.length:=by omega
   refine⟨true,?_,by simp⟩
   rw[zd Φ9 (by simp)]
   simp[fi9,c9,h1,h1',eq_true h2,eq_true h2']
  .have h2':¬(36:Int)<x.pipes.l.length:=by omega
   obtain⟨q,F,H,d1,d2⟩:=zc.1 (zAJ (x:=x) (by omega) x.stages.l 0 rfl (by omega))
   simp at d1
   rcases d2 with⟨rfl,d2⟩|⟨rfl,d2⟩
   .refine⟨false,?_,fun _=>⟨by omega,by omega,fun s hs=>by have:=d2 s hs;omega⟩⟩
    rw[zd Φ9 (by simp)]
    simp[fi9,c9,h1,h1',h2,h2',d1]
   .refine⟨true,?_,by simp⟩
    rw[zd Φ9 (by simp)]
    simp[fi9,c9,h1,h1',h2,h2',d1,d2]
def zlw (p:Prop) (e rv:Nat) (H0:Heap) (q:LX) (F:Fr) (H:Heap):Prop:=(q= .exit e∧p∧F.get 1= .optr 0 0 0 0∧H=H0)∨(q= .ret∧F.get rv= .bool true)
theorem zqR (hl:s.stages.l.length≤1000):∀(r:List Ss) (k:Nat),s.stages.l.drop k=r→k≤s.stages.l.length→
  okC (W.loop [1,3] zuY [(1,.optr 0 0 0 0),(3,I k)] [.arr 0 4 false [s.av]]) (fun q F H'=>zlw (∀t∈r,t.held.l.length≤110) 0 2 [.arr 0 4 false [s.av]] q F H'):=by
 intro r
 induction r with
 |nil=>
  intro k h1 h2
  have hk:=zf h1 h2
  rw[zb]
  simp[zkb,zpC,hk]
  exact .inl ⟨rfl,by simp,rfl,rfl⟩
 |cons a r ihr=>
  intro k h1 h2
  obtain⟨hlt,ha,hr⟩:=zn h1
  have hlt':(k:Int)<s.stages.l.length:=by omega
  have hak:s.stages.l[k]=a:=(gEs.1 ha).2
  have hw:=zg (k:=k) (by omega)
  obtain⟨q,F,H,d1,d2⟩:=zc.1 (ihr (k+1) hr (by omega))
  simp only[iNa,iCo]at d1
  rw[zb]
  by_cases g:110<a.held.l.length
  .have g':(110:Int)<a.held.l.length:=by omega
   simp[zkb,zpC,hlt,hak,eq_true g,eq_true g',hw]
   exact .inr ⟨rfl,rfl⟩
  .have g':¬(110:Int)<a.held.l.length:=by omega
   have fin:zlw (∀t∈a::r,t.held.l.length≤110) 0 2 [.arr 0 4 false [s.av]] q F H:=by
    rcases d2 with⟨h,h3,h4⟩|h
    .exact .inl ⟨h,by intro t ht;rcases lMc.1 ht with rfl|ht;omega;exact h3 t ht,h4⟩
    .exact .inr h
   simp[zkb,zpC,hlt,hak,g,g',hw,d1]
   simpa using fin
theorem zqS (hl:s.credits.l.length≤1000):∀(r:List Cr) (k:Nat),s.credits.l.drop k=r→k≤s.credits.l.length→
  okC (W.loop [1,4] zuZ [(1,.optr 0 0 0 0),(4,I k)] [.arr 0 4 false [s.av]]) (fun q F H'=>zlw (∀t∈r,t.items.l.length≤110) 2 2 [.arr 0 4 false [s.av]] q F H'):=by
 intro r
 induction r with
 |nil=>
  intro k h1 h2
  have hk:=zf h1 h2
  rw[zb]
  simp[zkc,zpD,hk]
  exact .inl ⟨rfl,by simp,rfl,rfl⟩
 |cons a r ihr=>
  intro k h1 h2
  obtain⟨hlt,ha,hr⟩:=zn h1
  have hlt':(k:Int)<s.credits.l.length:=by omega
  have hak:s.credits.l[k]=a:=(gEs.1 ha).2
  have hw:=zg (k:=k) (by omega)
  obtain⟨q,F,H,d1,d2⟩:=zc.1 (ihr (k+1) hr (by omega))
  simp only[iNa,iCo]at d1
  rw[zb]
  by_cases g:110<a.items.l.length
  .have g':(110:Int)<a.items.l.length:=by omega
   simp[zkc,zpD,hlt,hak,eq_true g,eq_true g',hw]
   exact .inr ⟨rfl,rfl⟩
  .have g':¬(110:Int)<a.items.l.length:=by omega
   have fin:zlw (∀t∈a::r,t.items.l.length≤110) 2 2 [.arr 0 4 false [s.av]] q F H:=by
    rcases d2 with⟨h,h3,h4⟩|h
    .exact .inl ⟨h,by intro t ht;rcases lMc.1 ht with rfl|ht;omega;exact h3 t ht,h4⟩
    .exact .inr h
   simp[zkc,zpD,hlt,hak,g,g',hw,d1]
   simpa using fin
theorem zqT (hl:s.outputs.l.length≤1000):∀(r:List (Sl Int)) (k:Nat),s.outputs.l.drop k=r→k≤s.outputs.l.length→
  okC (W.loop [1,5] zu0 [(1,.optr 0 0 0 0),(5,I k)] [.arr 0 4 false [s.av]]) (fun q F H'=>zpQ (∀t∈r,t.l.length≤210) 4 2 q F):=by
 intro r
 induction r with
 |nil=>
  intro k h1 h2
  have hk:=zf h1 h2
  rw[zb]
  simp[zkd,zpE,hk]
  exact .inl ⟨rfl,by simp⟩
 |cons a r ihr=>
  intro k h1 h2
  obtain⟨hlt,ha,hr⟩:=zn h1
  have hlt':(k:Int)<s.outputs.l.length:=by omega
  have hak:s.outputs.l[k]=a:=(gEs.1 ha).2
  have hw:=zg (k:=k) (by omega)
  obtain⟨q,F,H,d1,d2⟩:=zc.1 (ihr (k+1) hr (by omega))
  simp only[iNa,iCo]at d1
  rw[zb]
  by_cases g:210<a.l.length
  .have g':(210:Int)<a.l.length:=by omega
   simp[zkd,zpE,hlt,hak,eq_true g,eq_true g',hw]
   exact .inr ⟨rfl,rfl⟩
  .have g':¬(210:Int)<a.l.length:=by omega
   have fin:zpQ (∀t∈a::r,t.l.length≤210) 4 2 q F:=by
    rcases d2 with⟨h,h3⟩|h
    .exact .inl ⟨h,by intro t ht;rcases lMc.1 ht with rfl|ht;omega;exact h3 t ht⟩
    .exact .inr h
   simp[zkd,zpE,hlt,hak,g,g',hw,d1]
   simpa using fin
theorem e10 (s:Fs):∃b,W.pure 10 [s.av]=some (.bool b)∧(b=false→s.stages.l.length≤18∧s.credits.l.length≤36∧s.outputs.l.length≤18∧(∀t∈s.stages.l,t.held.l.length≤110)∧(∀t∈s.credits.l,t.items.l.length≤110)∧∀t∈s.outputs.l,t.l.length≤210):=by
 by_cases h1:18<s.stages.l.length
 .have h1':(18:Int)<s.stages.l.length:=by omega
  refine⟨true,?_,by simp⟩
  rw[zd Φ10 (by simp)]
  simp[fi10,c10,eq_true h1,eq_true h1']
 have h1':¬(18:Int)<s.stages.l.length:=by omega
 by_cases h2:36<s.credits.l.length
 .have h2':(36:Int)<s.credits.l.length:=by omega
  refine⟨true,?_,by simp⟩
  rw[zd Φ10 (by simp)]
  simp[fi10,c10,h1,h1',eq_true h2,eq_true h2']
 have h2':¬(36:Int)<s.credits.l.length:=by omega
 by_cases h3:18<s.outputs.l.length
 .have h3':(18:Int)<s.outputs.l.length:=by omega
  refine⟨true,?_,by simp⟩
  rw[zd Φ10 (by simp)]
  simp[fi10,c10,h1,h1',h2,h2',eq_true h3,eq_true h3']
 have h3':¬(18:Int)<s.outputs.l.length:=by omega
 obtain⟨q,F,H,d1,d2⟩:=zc.1 (zqR (s:=s) (by omega) s.stages.l 0 rfl (by omega))
 obtain⟨q2,F2,H2,f1,f2⟩:=zc.1 (zqS (s:=s) (by omega) s.credits.l 0 rfl (by omega))
 obtain⟨q3,F3,H3,g1,g2⟩:=zc.1 (zqT (s:=s) (by omega) s.outputs.l 0 rfl (by omega))
 simp at d1 f1 g1
 rcases d2 with⟨rfl,d2,d3,rfl⟩|⟨rfl,d2⟩
 rotate_left
 .refine⟨true,?_,by simp⟩
  rw[zd Φ10 (by simp)]
  simp[fi10,c10,h1,h1',h2,h2',h3,h3',d1,d2]
 rcases f2 with⟨rfl,f2,f3,rfl⟩|⟨rfl,f2⟩
 rotate_left
 .refine⟨true,?_,by simp⟩
  rw[zd Φ10 (by simp)]
  simp[fi10,c10,h1,h1',h2,h2',h3,h3',d1,d3,f1,f2]
 rcases g2 with⟨rfl,g2⟩|⟨rfl,g2⟩
 rotate_left
 .refine⟨true,?_,by simp⟩
  rw[zd Φ10 (by simp)]
  simp[fi10,c10,h1,h1',h2,h2',h3,h3',d1,d3,f1,f3,g1,g2]
 .refine⟨false,?_,fun _=>⟨by omega,by omega,by omega,d2,f2,g2⟩⟩
  rw[zd Φ10 (by simp)]
  simp[fi10,c10,h1,h1',h2,h2',h3,h3',d1,d3,f1,f3,g1]
end
structure FsW (s:Fs):Prop where
 ns:(s.stages.nl=some true∧s.stages.l=[])∨s.stages.nl=some false
 nc:(s.credits.nl=some true∧s.credits.l=[])∨s.credits.nl=some false
 no:(s.outputs.nl=some true∧s.outputs.l=[])∨s.outputs.nl=some false
 hs:∀t∈s.stages.l,(t.held.nl=some true∧t.held.l=[])∨t.held.nl=some false
 hc:∀c∈s.credits.l,(c.items.nl=some true∧c.items.l=[])∨c.items.nl=some false
 ho:∀o∈s.outputs.l,(o.nl=some true∧o.l=[])∨o.nl=some false
theorem FsW.n {s:Fs} (h:FsW s) (hb:s.stages.l.length≤18∧s.credits.l.length≤36∧s.outputs.l.length≤18∧(∀t∈s.stages.l,t.held.l.length≤110)∧(∀t∈s.credits.l,t.items.l.length≤110)∧∀t∈s.outputs.l,t.l.length≤210):FsN s:=by
 obtain⟨b1,b2,b3,b4,b5,b6⟩:=hb
 exact⟨by omega,by omega,by omega,⟨h.ns,by omega⟩,⟨h.nc,by omega⟩,⟨h.no,by omega⟩,fun t ht=>⟨h.hs t ht,by have:=b4 t ht;omega⟩,fun t ht=>⟨h.hc t ht,by have:=b5 t ht;omega⟩,fun t ht=>⟨h.ho t ht,by have:=b6 t ht;omega⟩⟩
theorem zAR {x:Pl} {s:Fs} (hw:FsW s):(∃b,W.pure 9 [x.av]=some (.bool b)∧(b=true∨(b=false∧∃c,W.pure 10 [s.av]=some (.bool c)∧(c=true∨(c=false∧PlN x∧FsN s))))):=by
 obtain⟨b,h1,h2⟩:=e9 x
 obtain⟨c,h3,h4⟩:=e10 s
 refine⟨b,h1,?_⟩
 cases b with
 |true=>exact .inl rfl
 |false=>
  refine .inr ⟨rfl,c,h3,?_⟩
  cases c with
  |true=>exact .inl rfl
  |false=>exact .inr ⟨rfl,h2 rfl,hw.n (h4 rfl)⟩
theorem law3 (x:Pl) (s:Fs) (hw:FsW s) (i:Int):W.pure 3 [x.av,s.av,I i]=some (.bool true):=by
 have a1:=e11
 obtain⟨b,h1,rfl|⟨rfl,c,h2,rfl|⟨rfl,hx,hs⟩⟩⟩:=zAR (x:=x) hw
 .rw[zd Φ3 (by simp)];simp[fi3,c3,h1,a1]
 .rw[zd Φ3 (by simp)];simp[fi3,c3,h1,h2,a1]
 .obtain⟨y,v1,y1,y2⟩:=e12 hx hs
  obtain⟨z,v2,z1,z2⟩:=e13 hx hs
  obtain⟨t,v3,t1,t2⟩:=e14 hx hs i
  obtain⟨u,v4,u1,u2⟩:=e15 hx hs i
  have v5:=e16 hx hs
  have v6:=e17 hx hs
  have v7:=e18 y z (by rw[y1,z1]) y2.2
  have v8:=e19 (s:=t) (t:=u) t2 (by rw[t1,u1])
  rw[zd Φ3 (by simp)]
  simp[fi3,c3,h1,h2,a1,v1,v2,v3,v4,v5,v6,v7,v8]
section
variable {x:Pl} {s t:Fs} {i:Int}
end
section
variable {s:Fs} {sv ov dv:AV}
end
@[simp] theorem fsSetC (s:Fs) (a b c d:Nat):ze [s.av] 0 1 (.osl a b c d)=some [.agg [Sl.av Ss.av 3 s.stages,.osl a b c d,Sl.av (Sl.av I 1) 1 s.outputs,.bool s.draining]]:=rfl
@[simp] theorem fsSetCn (s:Fs) (a:Option Bool) (b:Nat) (l:List AV):ze [s.av] 0 1 (.isl a b l)=some [.agg [Sl.av Ss.av 3 s.stages,.isl a b l,Sl.av (Sl.av I 1) 1 s.outputs,.bool s.draining]]:=rfl
section
set_option maxRecDepth 10000
end
structure Rd (s:Sh) (a:AV):Prop where
 int:s= .int .i64→∃n,a=I n
 str:s= .str→∃b,a= .str b
 exs:s= .rcs 48→∃x:Sl Ex,a=Sl.av Ex.av 5 x
theorem zyk {α:Type} (f:α→AV) (n:Nat) (m:List α):(.isl (some false) n (m.map f):AV)=Sl.av f n ⟨some false,n,m⟩:=by cases m<;>rfl
theorem zym {g:Bool} {l:List Sh} (h:recL 48=some (g,l)):g=true∧l=[.int .i64,.int .i64,.str,.int .i64,.rcs 48]:=by
 have:recL 48=some (true,[.int .i64,.int .i64,.str,.int .i64,.rcs 48]):=by kernel_rfl
 rw[this]at h
 simp only[oSi,pMi]at h
 exact⟨h.1.symm,h.2.symm⟩
theorem zwB {e:AV} (hr:zeo true 5 e) (ih:∀(j:Nat) (c:AV) (s:Sh),(AV.cells e)[j]?=some c→([.int .i64,.int .i64,.str,.int .i64,.rcs 48]:List Sh)[j]?=some s→Rd s c):∃x:Ex,e=x.av∧True:=by
 obtain⟨cs,rfl,hl⟩:=hr.1 rfl
 match cs,hl with
 | [a0,a1,a2,a3,a4],_=>
  obtain⟨n0,rfl⟩:=(ih 0 _ _ rfl rfl).int rfl
  obtain⟨n1,rfl⟩:=(ih 1 _ _ rfl rfl).int rfl
  obtain⟨n2,rfl⟩:=(ih 2 _ _ rfl rfl).str rfl
  obtain⟨n3,rfl⟩:=(ih 3 _ _ rfl rfl).int rfl
  obtain⟨n4,rfl⟩:=(ih 4 _ _ rfl rfl).exs rfl
  exact⟨Ex.of n0 n1 n2 n3 n4,by rw[Ex.av_eq];rfl,trivial⟩
theorem zjt {s:Sh} {a:AV} (h:ShOk s a):Rd s a:=by
 induction h with
 |bool b=>exact⟨by rintro⟨⟩,by rintro⟨⟩,by rintro⟨⟩⟩
 |int k n h=>exact⟨by rintro⟨⟩;exact⟨n,rfl⟩,by rintro⟨⟩,by rintro⟨⟩⟩
 |str b h=>exact⟨by rintro⟨⟩,by rintro⟨⟩;exact⟨b,rfl⟩,by rintro⟨⟩⟩
 |nil g l=>exact⟨by rintro⟨⟩,by rintro⟨⟩,by rintro⟨⟩⟩
 |sl g l es hl hr hv ih=>exact⟨by rintro⟨⟩,by rintro⟨⟩,by rintro⟨⟩⟩
 |rnil e g l h=>
  refine⟨by rintro⟨⟩,by rintro⟨⟩,?_⟩
  rintro⟨⟩;exact⟨⟨some true,l.length,[]⟩,rfl⟩
 |rsl e g l h es hl hr hv ih=>
  refine⟨by rintro⟨⟩,by rintro⟨⟩,?_⟩
  rintro⟨⟩
  obtain⟨rfl,rfl⟩:=zym h
  obtain⟨m,h1,h2⟩:=ztk (f:=Ex.av) (p:=fun _=>True) es (fun e he=>by
   obtain⟨i,hi⟩:=List.getElem?_of_mem he
   exact zwB (hr i e hi) (fun j c s hc hs=>ih i e j c s hi hc hs))
  subst h1
  exact⟨⟨some false,5,m⟩,zyk Ex.av 5 m⟩
def sgSh:List Sh:=[.int .i64,.int .i64,.int .i64,.int .i64,.str,.int .i64,.rcs 48,.sl false [.int .i64]]
def plSh:List Sh:=[.sl true sgSh,.sl true piSh]
theorem zBk {e:AV} (hr:zeo true 8 e) (hv:∀(j:Nat) (c:AV) (s:Sh),(AV.cells e)[j]?=some c→sgSh[j]?=some s→ShOk s c):∃p:Sg,e=p.av∧True:=by
 obtain⟨cs,rfl,hl⟩:=hr.1 rfl
 match cs,hl with
 | [a0,a1,a2,a3,a4,a5,a6,a7],_=>
  obtain⟨n0,rfl⟩:=(zjt (hv 0 _ _ rfl rfl)).int rfl
  obtain⟨n1,rfl⟩:=(zjt (hv 1 _ _ rfl rfl)).int rfl
  obtain⟨n2,rfl⟩:=(zjt (hv 2 _ _ rfl rfl)).int rfl
  obtain⟨n3,rfl⟩:=(zjt (hv 3 _ _ rfl rfl)).int rfl
  obtain⟨n4,rfl⟩:=(zjt (hv 4 _ _ rfl rfl)).str rfl
  obtain⟨n5,rfl⟩:=(zjt (hv 5 _ _ rfl rfl)).int rfl
  obtain⟨n6,rfl⟩:=(zjt (hv 6 _ _ rfl rfl)).exs rfl
  obtain⟨n7,h7,w7⟩:=zgN (f:=I) zgT (hv 7 _ _ rfl rfl)
  subst h7
  exact⟨⟨n0,n1,Ex.of n2 n3 n4 n5 n6,n7⟩,rfl,trivial⟩
theorem zx1 {a:AV} (h:zpS (true,plSh) a):∃s:Pl,a=s.av:=by
 obtain⟨cs,rfl,h1,h2⟩:=h.1 rfl
 match cs,h1 with
 | [a0,a1],_=>
  obtain⟨n0,h3,w0⟩:=zgN (f:=Sg.av) (p:=fun _=>True) (fun e h1 h2=>zBk h1 h2) (h2 0 _ _ rfl rfl)
  subst h3
  obtain⟨n1,h4,w1⟩:=zgN (f:=Pi.av) (fun e=>zBl) (h2 1 _ _ rfl rfl)
  subst h4
  exact⟨⟨n0,n1⟩,rfl⟩
theorem Fs.wf.w {s:Fs} (h:s.wf):FsW s:=⟨h.1.1,h.2.1.1,h.2.2.1.1,fun t ht=>(h.1.all t ht).1.1,fun c hc=>(h.2.1.all c hc).2.2.2.2.1.1,fun o ho=>(h.2.2.1.all o ho).1⟩
end Go.Proofs.YtbddckhdbnmamaaGreat
