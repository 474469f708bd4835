/-
  A step of the program: from what it takes to the end (conditions: a valid pipeline and state that are not too large). A step of the program (conditions: a pipeline and a state that are not too large). What a step puts into the buffers: the reference (conditions: a valid pipeline that is not too large). A step of the reference: up to the new state of the stage, and a sink's output (conditions: a valid pipeline and state that are not too large). A step of the reference: a sink's output, and what it takes (conditions: a valid pipeline and state that are not too large). A step of the reference (conditions: a pipeline and a state that are not too large). States that are the same (conditions: not too large). What is too large for the statements (conditions: none). The laws PipelineStep and PipelineBounds (conditions: as the statements have them). The law PipelineCommute (conditions: as the statement has them). The law PipelineCommute, whole (conditions: as the statement has them). Arguments with expressions in them, read; the three laws for what is handed in (conditions: none).
-/
import Derived.Test.YtbddckhdbnmamaaGreatNAr
import Derived.Test.YtbddckhdbnmamaaGreatXAr
import Derived.Test.YtbddckhdbnmamaaGreatXBr
import Derived.Test.YtbddckhdbnmamaaGreatAWr
namespace Go.Proofs.YtbddckhdbnmamaaGreat
open Go Go.RowKit
set_option linter.unusedVariables false
set_option linter.unusedSimpArgs false
set_option maxRecDepth 10000
section
variable {x:Pl} {s:Fs} {i:Nat}
theorem zns (a b c d:AV):zd [zFs.av] 0 0 (.agg [a,b,c,d])=some [.agg [a,b,c,d]]:=rfl
theorem OutM.cell {H:Heap} {ov:AV} {outs:List (List Int)} (h:OutM H ov outs):ov.cell=true:=by
 rcases h with⟨rfl,_⟩|⟨bo,vv,ys,vs,h1,rfl,_⟩<;>rfl
structure Z14 (H:Heap) (sts:List Ss) (l:List CC) (cs:List Cr) (outs:List (List Int)) (dr:Bool):Prop where
 z:∃ov,H[2]?=some (.arr 0 4 false [.agg [.osl 4 sts.length 0 sts.length,.osl 5 cs.length 0 cs.length,ov,.bool dr]])∧OutM H ov outs
 h4:H[4]?=some (.arr sts.length 3 false (sts.map Ss.av))
 h5:CrM H 5 cs.length l cs
theorem zrP (hx:PlN x) (hv:PlV x) (hi:i<x.stages.l.length) {m:Mv} {sts:List Ss} {l:List CC} {cs:List Cr} {ov:AV} {outs:List (List Int)} {dr:Bool} {H:Heap} (hM:M14 H x m sts l cs ov outs dr) (hls:sts.length=x.stages.l.length) (hlc:cs.length=x.pipes.l.length) (hm:m.sent.l.length=outK (sgAt x i).kind) (hms:∀y∈m.sent.l,SlN y):
  okC (evC W (zG 9 c14) (fr14 i++[(12,I 0),(99,.bool false)]) H) (fun q F H'=>q= .ret∧F=[(6,.optr 2 0 0 0),(7,I 0)]∧∃cs',Z14 H' (sts.set i m.state) (zbr x i m.ended (m.sent.l.map Sl.l) 0 l) cs' outs dr):=by
 obtain⟨h0,h1,h2,h3,h4,h5,ho⟩:=hM
 have his:i<sts.length:=by omega
 have his':(i:Int)<sts.length:=by omega
 have hst:sts[i]?=some sts[i]:=gEg his
 have hK:Kept (some 4) H (H.set 4 (.arr sts.length 3 false ((sts.set i m.state).map Ss.av))):=Kept.set _ _ _
 have g0:=hK.get (by simp) h0
 have g1:=hK.get (by simp) h1
 have g2:=hK.get (by simp) h2
 have g3:=hK.get (by simp) h3
 have g4:(H.set 4 (.arr sts.length 3 false ((sts.set i m.state).map Ss.av)))[4]?=some (.arr sts.length 3 false ((sts.set i m.state).map Ss.av)):=gEt (gEs.1 h4).1
 have g5:CrM (H.set 4 (.arr sts.length 3 false ((sts.set i m.state).map Ss.av))) 5 cs.length l cs:=⟨hK.get (by simp) h5.1,h5.2⟩
 have go:=ho.kept (by omega) hK
 rw[hlc]at g5 g1
 obtain⟨v,H2,d1,rfl,d2,cs',d3,d4⟩:=zu.1 (zvF (p:=1) (i:=i) hx hv hi (by omega) _ l cs hm hms g1 g5 hlc)
 have e0:=d2.get (by simp) g0
 have e1:=d2.get (by simp) g1
 have e2:=d2.get (by simp) g2
 have e4:=d2.get (by simp) g4
 have eo:=go.kept (by omega) d2
 have hlen2:=(gEs.1 e2).1
 have hK3:Kept (some 2) H2 (H2.set 2 (.arr 0 4 false [.agg [.osl 4 sts.length 0 sts.length,.osl 5 x.pipes.l.length 0 x.pipes.l.length,ov,.bool dr]])):=Kept.set _ _ _
 have hZ:Z14 (H2.set 2 (.arr 0 4 false [.agg [.osl 4 sts.length 0 sts.length,.osl 5 x.pipes.l.length 0 x.pipes.l.length,ov,.bool dr]])) (sts.set i m.state) (zbr x i m.ended (m.sent.l.map Sl.l) 0 l) cs' outs dr:=by
  refine⟨⟨ov,?_,eo.kept (by omega) hK3⟩,?_,⟨hK3.get (by simp) ?_,d3.2⟩⟩
  .rw[gEt hlen2,List.length_set,d4]
  .rw[List.length_set];exact hK3.get (by simp) e4
  .rw[d4];exact d3.1
 refine zc.2 ⟨.ret,[(6,.optr 2 0 0 0),(7,I 0)],_,?_,rfl,rfl,cs',hZ⟩
 rw[hlc]at h1
 have hoo:=ho.okO
 have hoc:=ho.cell
 simp[zG,fi14,c14,h0,h1,h3,h4,his,his',hst,d1,e1,e2,hoo,hoc,zns,hlen2,gEz, -getElem?_pos, -List.map_set]
theorem zrD (hx:PlN x) (hv:PlV x) (hi:i<x.stages.l.length) {m:Mv} {sts:List Ss} {l:List CC} {cs:List Cr} {ov:AV} {outs:List (List Int)} {dr:Bool} {H:Heap} (hM:M14 H x m sts l cs ov outs dr) (hls:sts.length=x.stages.l.length) (hlc:cs.length=x.pipes.l.length) (hm:m.sent.l.length=outK (sgAt x i).kind) (hms:∀y∈m.sent.l,SlN y)
  (F:Fr) (hF:F=fr14 i∨F=fr14 i++[(66,.bool false)]) (ht:m.takes=true→∃(k:Nat) (c:Cr),pIn x i m.inp=k∧cs[k]?=some c∧crI c.pl=0∧c.items.l≠[]∧(zas c.pl).2=0):
  okC (evC W (zG 8 c14) F H) (fun q F H'=>q= .ret∧F=[(6,.optr 2 0 0 0),(7,I 0)]∧∃cs',Z14 H' (sts.set i m.state) (zbr x i m.ended (m.sent.l.map Sl.l) 0 (if m.takes=true then l.set (pIn x i m.inp).toNat (zas (l.getD (pIn x i m.inp).toNat crZ)).1 else l)) cs' outs dr):=by
 have hM':=hM
 obtain⟨h0,h1,h2,h3,h4,h5,ho⟩:=hM'
 cases hmt:m.takes with
 |false=>
  obtain⟨v,H1,a1,rfl,a2,a3⟩:=zu.1 (zua (x:=x) (p:=1) (i:=i) (by omega) hmt H l cs h5 0)
  have hM1:M14 H1 x m sts l cs ov outs dr:=⟨a2.get (by simp) h0,a2.get (by simp) h1,a2.get (by simp) h2,a2.get (by simp) h3,a2.get (by simp) h4,a3,ho.kept (by omega) a2⟩
  have ht1:evC W (cutC 1 (zG 8 c14)) F H=some (.normal,fr14 i++[(12,I 0),(99,.bool false)],H1):=by
   rcases hF with rfl|rfl<;>simp[cutC,zG,fi14,c14,h0,h1,h3,a1,gEz, -getElem?_pos]
  rw[zel W 1 (zG 8 c14) _ _ _ _ ht1]
  have:=zrP hx hv hi hM1 hls hlc hm hms
  rw[if_neg Bool.false_ne_true]
  exact this
 |true=>
  obtain⟨k,c,k1,k2,k3,k4,k5⟩:=ht hmt
  obtain⟨v,H1,a1,rfl,a2,cs1,a3,a4⟩:=zu.1 (zr4 (p:=1) (i:=i) hx (by omega) hmt H l cs h1 h5 k1 k2 k3 k4)
  rw[k5]at a1
  have hM1:M14 H1 x m sts (l.set k (zas c.pl).1) cs1 ov outs dr:=⟨a2.get (by simp) h0,by rw[a4];exact a2.get (by simp) h1,a2.get (by simp) h2,a2.get (by simp) h3,a2.get (by simp) h4,by rw[a4];exact a3,ho.kept (by omega) a2⟩
  have ht1:evC W (cutC 1 (zG 8 c14)) F H=some (.normal,fr14 i++[(12,I 0),(99,.bool false)],H1):=by
   rcases hF with rfl|rfl<;>simp[cutC,zG,fi14,c14,h0,h1,h3,a1,gEz, -getElem?_pos]
  rw[zel W 1 (zG 8 c14) _ _ _ _ ht1]
  have hlk:=h5.get k2
  have:=zrP hx hv hi hM1 hls (a4.trans hlc) hm hms
  rw[k1,if_pos rfl,iTn,hlk]
  exact this
end
theorem Z14.fs {H:Heap} {sts:List Ss} {l:List CC} {cs:List Cr} {outs:List (List Int)} {dr:Bool} (h:Z14 H sts l cs outs dr) (h1:sts.length≤1000) (h2:cs.length≤1000) (h3:outs.length≤1000) (hh:∀t∈sts,SlN t.held):
  ∃(a:AV) (t:Fs),H[2]?=some (.arr 0 4 false [a])∧a.cells.length=4∧okO a=some a∧zg true 4 a.cells=a∧(∀e:Int,frz H 8 (.tuple [a,I e])=some (.tuple [t.av,I e]))∧t.pl=⟨sts.map Ss.pl,l,outs,dr⟩∧FsN t:=by
 obtain⟨⟨ov,hz,ho⟩,h4,h5⟩:=h
 obtain⟨o,o1,o2,o3,o4⟩:=ho.frz 4
 have hs:=zcP (n:=5) h4 (len:=sts.length) (by simp) (zba (fun t=>zrj) sts)
 have hc:=zcP (n:=5) h5.1 (len:=cs.length) (by simp) (zba (fun t=>zk7) cs)
 rw[zcc]at hs hc
 have hd:frz H 6 (.bool dr)=some (.bool dr):=rfl
 refine⟨_,⟨ofL 3 sts,ofL 6 cs,o,dr⟩,hz,rfl,rfl,rfl,fun e=>?_,?_,⟨h1,h2,by have:=o2▸h3;simpa using this,zat (by omega),zat (by omega),o3,hh,h5.2.2,o4⟩⟩
 .have e0:frz H 8 (.tuple [.agg [.osl 4 sts.length 0 sts.length,.osl 5 cs.length 0 cs.length,ov,.bool dr],I e])=(frzs (frz H 7) [.agg [.osl 4 sts.length 0 sts.length,.osl 5 cs.length 0 cs.length,ov,.bool dr],I e]).map .tuple:=rfl
  have e1:frz H 7 (.agg [.osl 4 sts.length 0 sts.length,.osl 5 cs.length 0 cs.length,ov,.bool dr])=(frzs (frz H 6) [.osl 4 sts.length 0 sts.length,.osl 5 cs.length 0 cs.length,ov,.bool dr]).map .agg:=rfl
  have e2:frz H 7 (I e)=some (I e):=rfl
  rw[e0]
  simp only[frzs,e1,e2,hs,hc,o1,hd]
  rfl
 .show (⟨sts.map Ss.pl,cs.map Cr.pl,o.l.map Sl.l,dr⟩:FS)=_
  rw[h5.2.1,o2]
theorem zeb (x:Pl) (i:Int) (e:Bool):∀(o:List (List Int)) (n:Nat) (l:List CC),(zbr x i e o n l).length=l.length
 | [],_,_=>rfl
 |o::r,n,l=>by
  unfold zbr
  rw[zeb x i e r]
  simp
section
variable {x:Pl} {s:Fs} {i:Nat}
theorem zsf (hx:PlN x) {m:Mv} {sts:List Ss} {l:List CC} {cs:List Cr} {ov:AV} {outs:List (List Int)} {dr:Bool} {H:Heap} (hM:M14 H x m sts l cs ov outs dr)
  (F:Fr) (hF:F=fr14 i∨F=fr14 i++[(66,.bool false)]) (hmt:m.takes=true) {k:Nat} {c:Cr} (k1:pIn x i m.inp=k) (k2:cs[k]?=some c) (k3:crI c.pl=0) (k4:c.items.l≠[]) (k5:(zas c.pl).2≠0):
  okC (evC W (zG 8 c14) F H) (fun q F H'=>q= .ret∧F=[(6,.optr 2 0 0 0),(7,I (zas c.pl).2)]∧H'[2]?=some (.arr 0 4 false [zFs.av])):=by
 obtain⟨h0,h1,h2,h3,h4,h5,ho⟩:=hM
 obtain⟨v,H1,a1,rfl,a2,cs1,a3,a4⟩:=zu.1 (zr4 (p:=1) (i:=i) hx (by omega) hmt H l cs h1 h5 k1 k2 k3 k4)
 have g2:=a2.get (by simp) h2
 have hl2:=(gEs.1 g2).1
 have hb:=zkY
 refine zc.2 ⟨.ret,[(6,.optr 2 0 0 0),(7,I (zas c.pl).2)],H1.set 2 (.arr 0 4 false [zFs.av]),?_,rfl,rfl,gEt hl2⟩
 rcases hF with rfl|rfl<;>simp[zG,fi14,c14,h0,h1,h3,a1,k5,g2,hb,gEz, -getElem?_pos, -zaF]
theorem zlP {R:Rec} {a b:LC} {F F1:Fr} {H H1:Heap} (h:evC R (cutC 1 (.seq a b)) F H=some (.ret,F1,H1)):evC R (.seq a b) F H=some (.ret,F1,H1):=by
 simp only[cutC,zd3]at h
 rw[zd3]
 cases ha:evC R a F H with
 |none=>rw[ha]at h;cases h
 |some p=>
  obtain⟨y,F2,H2⟩:=p
  rw[ha]at h
  cases y with
  |normal=>simp at h
  |ret=>simpa using h
  |exit k=>simp at h
theorem zso {F:Fr} {H:Heap} {a:AV} {e:Int} (hr:evC W c14 [(0,x.av),(1,s.av),(2,I i)] []=some (.ret,F,H)) (hF:F=[(6,.optr 2 0 0 0),(7,I e)]) (hz:H[2]?=some (.arr 0 4 false [a])) (h4:a.cells.length=4) (hok:okO a=some a) (hld:zg true 4 a.cells=a) {B:AV} (hf:frz H 8 (.tuple [a,I e])=some B):W.pure 14 [x.av,s.av,I i]=some B:=by
 rw[ze Φ14 (by simp)]
 have e:zaN W fi14 [x.av,s.av,I i] []=(evC W c14 [(0,x.av),(1,s.av),(2,I i)] []).bind fun p=>match p.1 with
  | .exit _=>none
  |_=>(resV p.2.1 p.2.2 fi14.res).map fun v=>(v,p.2.2):=rfl
 rw[e,hr,hF]
 simp[fi14,resV,rvVs,rvV,hz,h4,hok,hld,hf]
theorem e14 (hx:PlN x) (hs:FsN s) (i:Int):∃t:Fs,W.pure 14 [x.av,s.av,I i]=some (.tuple [t.av,I (zbp x s.pl i).2])∧t.pl=(zbp x s.pl i).1∧FsN t:=by
 have hzp:zFs.pl=fsZ:=rfl
 by_cases hcase:vaI x s.pl≠0∨¬(0≤i∧i<x.stages.l.length)
 .obtain⟨h1,h2⟩:=e14a hx hs i hcase
  exact⟨zFs,h1,by rw[h2,hzp],zl8⟩
 have hva:vaI x s.pl=0:=by
  apply cBc;intro h;exact hcase (.inl h)
 have hir:0≤i∧i<x.stages.l.length:=by
  apply cBc;intro h;exact hcase (.inr h)
 obtain⟨i,rfl⟩:∃n:Nat,i=n:=⟨i.toNat,by omega⟩
 have hi:i<x.stages.l.length:=by omega
 obtain⟨hp,hf⟩:=zeW.1 hva
 have hv:=zfd hp
 have run:∀(A:Option AV),((zaN W fi14 [x.av,s.av,I i] []).bind fun p=>frz p.2 8 p.1)=A→W.pure 14 [x.av,s.av,I i]=A:=fun A h=>by rw[ze Φ14 (by simp)];exact h
 have c1:=e16 hx hs
 rw[hva]at c1
 have hst:=hx.st
 have hw:IntKind.wrap .i64 ((x.stages.l.length:Int) - 1)=(x.stages.l.length:Int) - 1:=zz (by omega) (by omega)
 have c2:=e39t (l:=0) (h:=(x.stages.l.length:Int) - 1) (a:=i) (by omega) (by omega)
 have hb:=zkY
 obtain⟨m,c3,c4⟩:=e37 hx hv hs hf i hi
 have hstep:zbp x s.pl i=if enB x s.pl i=false then (fsZ,25) else
  let m:=zad x s.pl i
  let k:=zK (x.stages.l.take i)
  if m.e≠0 then (fsZ,m.e)
  else if m.kind=2∧(sgAt x i).kind=10∧(s.pl.out.getD k []).length=200 then (fsZ,4)
  else
   let out:=if m.kind=2∧(sgAt x i).kind=10 then s.pl.out.set k (s.pl.out.getD k []++[m.item]) else s.pl.out
   let c:=zas (crAt s.pl m.pipe)
   if m.kind=2∧c.2≠0 then (fsZ,c.2)
   else (⟨s.pl.st.set i m.st,zbr x i m.st.ended m.out 0 (if m.kind=2 then s.pl.cr.set m.pipe.toNat c.1 else s.pl.cr),out,s.pl.drain⟩,0):=by
  unfold zbp
  rw[if_neg (by simp[hva]),if_neg (by omega)]
  rfl
 rw[hstep]
 cases hen:enB x s.pl i with
 |false=>
  rw[hen]at c3
  refine⟨zFs,run _ ?_,rfl,zl8⟩
  simp[fi14,c14,c1,hw,c2,c3,hb, -zaF]
 |true=>
 rw[hen]at c3
 rw[if_neg (by simp)]
 have hk0:(zad x s.pl i).kind≠0:=by
  intro hk;unfold enB at hen;simp[hk]at hen
 have hR:=c4 hk0
 by_cases he:(zad x s.pl i).e=0
 rotate_left
 .have hme:m.e≠0:=by rw[hR.e];exact he
  refine⟨zFs,run _ ?_,by simp only[if_pos he];rfl,zl8⟩
  simp only[if_pos he]
  rw[←hR.e]
  simp[fi14,c14,c1,hw,c2,c3,hme,hb, -zaF]
 have hme:m.e=0:=by rw[hR.e,he]
 have hact:=zeG hv hf hi hk0 he
 have hmv:=hact.2.mv hact.1
 have hlen:m.sent.l.length=outK (sgAt x i).kind:=by rw[←hmv.len,←hR.out];simp
 generalize hgv:zad x s.pl i=v at *
 have hls:s.stages.l.length=x.stages.l.length:=by have:=hf.ls;simpa[Fs.pl]using this
 have hlc:s.credits.l.length=x.pipes.l.length:=by have:=hf.lc;simpa[Fs.pl]using this
 have hlo:s.outputs.l.length=zK x.stages.l:=by have:=hf.lo;simpa[Fs.pl]using this
 have hns:s.stages.nl=some false:=by
  rcases hs.ns.1 with⟨h1,h2⟩|h1
  .rw[h2]at hls;simp at hls;omega
  .exact h1
 have hpi:0<x.pipes.l.length:=by
  by_cases k10:(sgAt x i).kind=10
  .obtain⟨k,p,hp,_⟩:=hv.allIn i 0 hi (by rw[k10];simp[inK])
   have:=(gEs.1 hp).1;omega
  .obtain⟨k,p,hp,_⟩:=hv.allOut i 0 hi (by unfold outK;rw[if_neg k10];split<;>omega)
   have:=(gEs.1 hp).1;omega
 have hnc:s.credits.nl=some false:=by
  rcases hs.nc.1 with⟨h1,h2⟩|h1
  .rw[h2]at hlc;simp at hlc;omega
  .exact h1
 have hh:=zvp hx hs hva i hi hns hnc c3 hme
 have hcut:evC W c14 [(0,x.av),(1,s.av),(2,I i)] []=evC W (zG 7 c14) (fr14 i) (hG x s m (ovG s) (oG s)):=zel W 7 c14 _ _ _ _ hh
 obtain⟨q,F1,H1,d1,d2⟩:=zc.1 (zyq hx hs hf i hi m)
 have hsk:skB x m i=true↔v.kind=2∧(sgAt x i).kind=10:=by
  unfold skB;rw[hR.tk];simp[and_comm]
 generalize hkk:zK (x.stages.l.take i)=k at *
 simp only[if_neg (show ¬v.e≠0 by simp[he])]
 by_cases h4:v.kind=2∧(sgAt x i).kind=10∧(s.pl.out.getD k []).length=200
 .have h4':skB x m i=true∧(s.pl.out.getD k []).length=200:=⟨hsk.2 ⟨h4.1,h4.2.1⟩,h4.2.2⟩
  rw[if_pos h4']at d2
  simp only[if_pos h4]
  obtain⟨rfl,hF1,hz⟩:=d2
  have hr:evC W c14 [(0,x.av),(1,s.av),(2,I i)] []=some (.ret,F1,H1):=hcut.trans (zlP d1)
  exact⟨zFs,zso hr hF1 hz rfl rfl rfl rfl,rfl,zl8⟩
 have h4':¬(skB x m i=true∧(s.pl.out.getD k []).length=200):=fun h=>h4 ⟨(hsk.1 h.1).1,(hsk.1 h.1).2,h.2⟩
 rw[if_neg h4']at d2
 simp only[if_neg h4]
 obtain⟨rfl,hF1,ov,hM⟩:=d2
 have hcut2:evC W (zG 7 c14) (fr14 i) (hG x s m (ovG s) (oG s))=evC W (zG 8 c14) F1 H1:=zel W 1 (zG 7 c14) _ _ _ _ d1
 have hon:(if v.kind=2∧(sgAt x i).kind=10 then s.pl.out.set k (s.pl.out.getD k []++[v.item]) else s.pl.out)=(if skB x m i=true then s.pl.out.set k (s.pl.out.getD k []++[m.item]) else s.pl.out):=by
  by_cases h:v.kind=2∧(sgAt x i).kind=10
  .rw[if_pos h,if_pos (hsk.2 h),(hR.pi h.1).2]
  .rw[if_neg h,if_neg (fun hh=>h (hsk.1 hh))]
 rw[hon]
 have hol:(if skB x m i=true then s.pl.out.set k (s.pl.out.getD k []++[m.item]) else s.pl.out).length≤1000:=by
  have h0:s.pl.out.length≤1000:=by have:=hs.ou;simpa[Fs.pl]using this
  split
  .simpa using h0
  .exact h0
 generalize hoe:(if skB x m i=true then s.pl.out.set k (s.pl.out.getD k []++[m.item]) else s.pl.out)=outs at *
 have hhs:∀t∈s.stages.l.set i m.state,SlN t.held:=by
  intro t ht
  rcases List.mem_or_eq_of_mem_set ht with ht|rfl
  .exact hs.hs t ht
  .exact hR.sh
 have fin:∀(q:LX) (F:Fr) (H:Heap) (l:List CC),l.length≤1000→evC W (zG 8 c14) F1 H1=some (q,F,H)→q= .ret→F=[(6,.optr 2 0 0 0),(7,I 0)]→(∃cs',Z14 H (s.stages.l.set i m.state) (zbr x i m.ended (m.sent.l.map Sl.l) 0 l) cs' outs s.draining)→
   ∃t:Fs,W.pure 14 [x.av,s.av,I i]=some (.tuple [t.av,I 0])∧t.pl=⟨s.pl.st.set i v.st,zbr x i v.st.ended v.out 0 l,outs,s.pl.drain⟩∧FsN t:=by
  rintro q F H l hl0 h1 rfl h2 ⟨cs',hZ⟩
  have hcl:cs'.length≤1000:=by
   have e1:=hZ.h5.2.1
   have e2:=congrArg List.length e1
   rw[List.length_map,zeb]at e2
   omega
  obtain⟨a,t,z1,z2,z3,z4,z5,z6,z7⟩:=hZ.fs (by have:=hs.st;simpa using this) hcl hol hhs
  refine⟨t,zso (hcut.trans (hcut2.trans h1)) h2 z1 z2 z3 z4 (z5 0),?_,z7⟩
  rw[z6,hR.out,hR.en]
  have:(s.stages.l.set i m.state).map Ss.pl=s.pl.st.set i v.st:=by
   rw[List.map_set,hR.st];rfl
  rw[this]
  rfl
 have hcrl:s.pl.cr.length≤1000:=by have:=hs.cr;simpa[Fs.pl]using this
 by_cases hk2:v.kind=2
 .have hmt:m.takes=true:=by rw[hR.tk,hk2];rfl
  obtain⟨kp,y,a,r,c,q1,q2,q3,q4,q5,q6,q7,q8,q9,q10⟩:=hact.2.pipe hk2
  obtain⟨c',hc',rfl⟩:=zsu q5
  have hpn:=(hR.pi hk2).1
  rw[q9]at hpn⊢
  have hcI:=(zaO _).2 (hf.cr _ _ _ q5 q2).v
  have hne:c'.items.l≠[]:=by
   have:c'.pl.items=c'.items.l:=rfl
   rw[←this,q6];simp
  have hca:crAt s.pl ((kp:Nat):Int)=c'.pl:=zhi hc'
  rw[hca]
  by_cases e0:(zas c'.pl).2=0
  .obtain⟨q,F,H,t1,t2,t3,t4⟩:=zc.1 (zrD hx hv hi hM hls hlc hlen hR.sa F1 hF1 (fun _=>⟨kp,c',hpn,hc',hcI,hne,e0⟩))
   simp only[if_pos hk2,if_neg (show ¬(v.kind=2∧(zas c'.pl).2≠0) from fun h=>h.2 e0),iTn]
   have hgd:s.pl.cr.getD kp crZ=c'.pl:=by rw[gEd,q5];rfl
   rw[if_pos hmt,hpn,iTn,hgd]at t4
   exact fin q F H _ (by simpa using hcrl) t1 t2 t3 t4
  .obtain⟨q,F,H,t1,rfl,t2,t3⟩:=zc.1 (zsf hx hM F1 hF1 hmt hpn hc' hcI hne e0)
   simp only[if_pos (show v.kind=2∧(zas c'.pl).2≠0 from⟨hk2,e0⟩)]
   exact⟨zFs,zso (hcut.trans (hcut2.trans t1)) t2 t3 rfl rfl rfl rfl,rfl,zl8⟩
 .have hmt:m.takes=false:=by rw[hR.tk];simp[hk2]
  obtain⟨q,F,H,t1,t2,t3,t4⟩:=zc.1 (zrD hx hv hi hM hls hlc hlen hR.sa F1 hF1 (fun h=>by rw[hmt]at h;cases h))
  simp only[if_neg hk2,if_neg (show ¬(v.kind=2∧(zas (crAt s.pl v.pipe)).2≠0) from fun h=>hk2 h.1)]
  rw[if_neg (by simp[hmt])]at t4
  exact fin q F H _ (by simpa using hcrl) t1 t2 t3 t4
end
section
variable {x:Pl} {sv ov dv:AV} {a:Act} {i:Nat}
end
abbrev hR (x:Pl) (s:Fs) (a:Act) (i:Nat):Heap:=[.arr 0 2 false [x.av],zgS (.osl 4 s.stages.l.length 0 s.stages.l.length) (.osl 6 s.outputs.l.length 0 s.outputs.l.length) (.bool s.draining) 5 s.credits.l.length s.credits.l.length,.arr 0 4 false [zFs.av],.arr 0 8 false [a.av],.arr s.stages.l.length 3 false ((s.stages.l.set i a.state).map Ss.av),.arr s.credits.l.length 6 false (s.credits.l.map Cr.av),.arr s.outputs.l.length 1 false (s.outputs.l.map (Sl.av I 1))]
section
variable {x:Pl} {s:Fs}
end
section
variable {x:Pl} {s:Fs} {i:Nat}
end
section
variable {x:Pl} {s:Fs} {i:Nat}
end
theorem zu5 (a b:Sl Int) (h:a.l=b.l) (hn:a.l.length≤1048576):∀(rest:List Int) (j:Nat) (H:Heap),a.l.drop j=rest→j≤a.l.length→
  okC (W.loop [0,1,5] zsW [(0,Sl.av I 1 a),(1,Sl.av I 1 b),(5,I j)] H) (fun q F H'=>q= .exit 0):=by
 intro rest
 induction rest with
 |nil=>
  intro j H h1 h2
  have hj:=zf h1 h2
  rw[zb]
  simp[zn3,zq8,hj]
 |cons n rest ih=>
  intro j H h1 h2
  obtain⟨hlt,ha,hr⟩:=zn h1
  have hlt':(j:Int)<a.l.length:=by omega
  have hw:=zh (k:=j) (by omega)
  have hb:b.l[j]?=some n:=by rw[←h];exact ha
  have hltb:j<b.l.length:=by rw[←h];exact hlt
  have hltb':(j:Int)<b.l.length:=by omega
  have hak:a.l[j]=n:=(gEs.1 ha).2
  have hbk:b.l[j]=n:=(gEs.1 hb).2
  have ih:=ih (j+1) H hr (by omega)
  simp only[iNa,iCo]at ih
  rw[zb]
  simp[zn3,zq8,hlt,hlt',hltb,hltb',hak,hbk,hw]
  exact ih
theorem e76 (a b:Sl Int) (h:a.l=b.l) (hn:a.l.length≤1048576):W.pure 76 [Sl.av I 1 a,Sl.av I 1 b]=some (.bool true):=by
 obtain⟨q,F,H,d1,rfl⟩:=zc.1 (zu5 a b h hn a.l 0 [] rfl (by omega))
 simp at d1
 have hl:(a.l.length:Int)=b.l.length:=by rw[h]
 rw[ze Φ76 (by simp)]
 simp[fi76,c76,eq_true hl,d1,h]
theorem zvc (a b:Sl (Sl Int)) (h:a.l.map Sl.l=b.l.map Sl.l) (hn:a.l.length≤1048576) (hs:∀y∈a.l,SlN y):∀(rest:List (Sl Int)) (j:Nat) (H:Heap),a.l.drop j=rest→j≤a.l.length→
  okC (W.loop [0,1,5] ztd [(0,Sl.av (Sl.av I 1) 1 a),(1,Sl.av (Sl.av I 1) 1 b),(5,I j)] H) (fun q F H'=>q= .exit 0):=by
 have hlab:a.l.length=b.l.length:=by have:=congrArg List.length h;simpa using this
 intro rest
 induction rest with
 |nil=>
  intro j H h1 h2
  have hj:=zf h1 h2
  rw[zb]
  simp[zn7,zrc,hj]
 |cons n rest ih=>
  intro j H h1 h2
  obtain⟨hlt,ha,hr⟩:=zn h1
  have hlt':(j:Int)<a.l.length:=by omega
  have hw:=zh (k:=j) (by omega)
  have hltb:j<b.l.length:=by omega
  have hltb':(j:Int)<b.l.length:=by omega
  obtain⟨n',hb⟩:∃n',b.l[j]?=some n':=⟨_,gEg hltb⟩
  have hak:a.l[j]=n:=(gEs.1 ha).2
  have hbk:b.l[j]=n':=(gEs.1 hb).2
  have e:n.l=n'.l:=by
   have:=congrArg (fun l=>l[j]?) h
   simp[ha,hb]at this
   exact this
  have c1:=e76 n n' e (hs n (lMg ha)).2
  have ih:=ih (j+1) H hr (by omega)
  simp only[iNa,iCo]at ih
  rw[zb]
  simp[zn7,zrc,hlt,hlt',hltb,hltb',hak,hbk,c1,hw]
  exact ih
theorem e25 (a b:Sl (Sl Int)) (h:a.l.map Sl.l=b.l.map Sl.l) (hn:a.l.length≤1048576) (hs:∀y∈a.l,SlN y):W.pure 25 [Sl.av (Sl.av I 1) 1 a,Sl.av (Sl.av I 1) 1 b]=some (.bool true):=by
 obtain⟨q,F,H,d1,rfl⟩:=zc.1 (zvc a b h hn hs a.l 0 [] rfl (by omega))
 simp at d1
 have hlab:a.l.length=b.l.length:=by have:=congrArg List.length h;simpa using this
 have hl:(a.l.length:Int)=b.l.length:=by omega
 rw[ze Φ25 (by simp)]
 simp[fi25,c25,eq_true hl,eq_true hlab,d1]
theorem e59 (t u:Ss) (h:t.pl=u.pl) (hn:SlN t.held):W.pure 59 [t.av,u.av]=some (.bool true):=by
 simp only[Ss.pl,SS.mk.injEq]at h
 have c1:=e76 t.held u.held h.1 hn.2
 rw[ze Φ59 (by simp)]
 simp[fi59,c59,c1,h.2.1,h.2.2]
theorem e60 (t u:Cr) (h:t.pl=u.pl) (hn:SlN t.items):W.pure 60 [t.av,u.av]=some (.bool true):=by
 simp only[Cr.pl,CC.mk.injEq]at h
 have c1:=e76 t.items u.items h.2.2.2.2.1 hn.2
 rw[ze Φ60 (by simp)]
 simp[fi60,c60,c1,h.1,h.2.1,h.2.2.1,h.2.2.2.1,h.2.2.2.2.2]
section
variable {s t:Fs}
theorem zpR (hs:FsN s) (h:s.pl=t.pl) (K:Heap):∀(rest:List Ss) (j:Nat),s.stages.l.drop j=rest→j≤s.stages.l.length→
  okC (W.loop [2,3,5] ztl [(2,.optr 0 0 0 0),(3,.optr 1 0 0 0),(5,I j)] [.arr 0 4 false [s.av],.arr 0 4 false [t.av]]) (fun q F H'=>q= .exit 0∧F.keep [2,3]=[(2,.optr 0 0 0 0),(3,.optr 1 0 0 0)]∧H'=[.arr 0 4 false [s.av],.arr 0 4 false [t.av]]):=by
 have hm:s.stages.l.map Ss.pl=t.stages.l.map Ss.pl:=by have:=congrArg FS.st h;exact this
 have hlab:s.stages.l.length=t.stages.l.length:=by have:=congrArg List.length hm;simpa using this
 have hsz:=hs.st
 intro rest
 induction rest with
 |nil=>
  intro j h1 h2
  have hj:=zf h1 h2
  rw[zb]
  simp[zn8,zrd,hj]
 |cons n rest ih=>
  intro j h1 h2
  obtain⟨hlt,ha,hr⟩:=zn h1
  have hlt':(j:Int)<s.stages.l.length:=by omega
  have hw:=zh (k:=j) (by omega)
  have hltb:j<t.stages.l.length:=by omega
  have hltb':(j:Int)<t.stages.l.length:=by omega
  obtain⟨n',hb⟩:∃n',t.stages.l[j]?=some n':=⟨_,gEg hltb⟩
  have hak:s.stages.l[j]=n:=(gEs.1 ha).2
  have hbk:t.stages.l[j]=n':=(gEs.1 hb).2
  have e:n.pl=n'.pl:=by
   have:=congrArg (fun l=>l[j]?) hm
   simp[ha,hb]at this
   exact this
  have c1:=e59 n n' e (hs.hs n (lMg ha))
  have ih:=ih (j+1) hr (by omega)
  simp only[iNa,iCo]at ih
  rw[zb]
  simp[zn8,zrd,hlt,hlt',hltb,hltb',hak,hbk,c1,hw]
  simpa using ih
theorem zpS (hs:FsN s) (h:s.pl=t.pl):∀(rest:List Cr) (j:Nat),s.credits.l.drop j=rest→j≤s.credits.l.length→
  okC (W.loop [2,3,6] ztm [(2,.optr 0 0 0 0),(3,.optr 1 0 0 0),(6,I j)] [.arr 0 4 false [s.av],.arr 0 4 false [t.av]]) (fun q F H'=>q= .exit 2):=by
 have hm:s.credits.l.map Cr.pl=t.credits.l.map Cr.pl:=by have:=congrArg FS.cr h;exact this
 have hlab:s.credits.l.length=t.credits.l.length:=by have:=congrArg List.length hm;simpa using this
 have hsz:=hs.cr
 intro rest
 induction rest with
 |nil=>
  intro j h1 h2
  have hj:=zf h1 h2
  rw[zb]
  simp[zn9,zre,hj]
 |cons n rest ih=>
  intro j h1 h2
  obtain⟨hlt,ha,hr⟩:=zn h1
  have hlt':(j:Int)<s.credits.l.length:=by omega
  have hw:=zh (k:=j) (by omega)
  have hltb:j<t.credits.l.length:=by omega
  have hltb':(j:Int)<t.credits.l.length:=by omega
  obtain⟨n',hb⟩:∃n',t.credits.l[j]?=some n':=⟨_,gEg hltb⟩
  have hak:s.credits.l[j]=n:=(gEs.1 ha).2
  have hbk:t.credits.l[j]=n':=(gEs.1 hb).2
  have e:n.pl=n'.pl:=by
   have:=congrArg (fun l=>l[j]?) hm
   simp[ha,hb]at this
   exact this
  have c1:=e60 n n' e (hs.hc n (lMg ha))
  have ih:=ih (j+1) hr (by omega)
  simp only[iNa,iCo]at ih
  rw[zb]
  simp[zn9,zre,hlt,hlt',hltb,hltb',hak,hbk,c1,hw]
  simpa using ih
theorem e19 (hs:FsN s) (h:s.pl=t.pl):W.pure 19 [s.av,t.av]=some (.bool true):=by
 obtain⟨q,F,H,d1,rfl,d2,rfl⟩:=zc.1 (zpR hs h [] s.stages.l 0 rfl (by omega))
 obtain⟨q,F3,H3,f1,rfl⟩:=zc.1 (zpS hs h s.credits.l 0 rfl (by omega))
 simp at d1 d2 f1
 have h1:s.stages.l.map Ss.pl=t.stages.l.map Ss.pl:=congrArg FS.st h
 have h2:s.credits.l.map Cr.pl=t.credits.l.map Cr.pl:=congrArg FS.cr h
 have h3:s.outputs.l.map Sl.l=t.outputs.l.map Sl.l:=congrArg FS.out h
 have h4:s.draining=t.draining:=congrArg FS.drain h
 have c1:=e25 s.outputs t.outputs h3 hs.no.2 hs.ho
 have l1:s.stages.l.length=t.stages.l.length:=by have:=congrArg List.length h1;simpa using this
 have l2:s.credits.l.length=t.credits.l.length:=by have:=congrArg List.length h2;simpa using this
 have m1:(s.stages.l.length:Int)=t.stages.l.length:=by omega
 have m2:(s.credits.l.length:Int)=t.credits.l.length:=by omega
 obtain⟨g2,g3⟩:=d2
 rw[ze Φ19 (by simp)]
 simp[fi19,c19,eq_true l1,eq_true l2,eq_true m1,eq_true m2,h4,c1,d1,g2,g3,f1]
end
def zoV (p:Prop) (e rv:Nat) (q:LX) (F:Fr):Prop:=(q= .exit e∧p)∨(q= .ret∧F.get rv= .bool true)
theorem zsL (e:Ex) (hl:e.args.l.length≤1000000) (ih:∀x∈e.args.l,∃b,W.pure 132 [x.av]=some (.bool b)):∀(r:List Ex) (k:Nat),e.args.l.drop k=r→k≤e.args.l.length→
  okC (W.loop [1,3] znj [(1,.optr 0 0 0 0),(3,I k)] [.arr 0 5 false [e.av]]) (fun q F H'=>zoV True 0 2 q F):=by
 intro r
 induction r with
 |nil=>
  intro k h1 h2
  have hk:=zf h1 h2
  rw[zb]
  simp[zha,ziR,hk]
  exact .inl ⟨rfl,trivial⟩
 |cons a r ihr=>
  intro k h1 h2
  obtain⟨hlt,ha,hr⟩:=zn h1
  have hlt':(k:Int)<e.args.l.length:=by omega
  have hak:e.args.l[k]=a:=(gEs.1 ha).2
  obtain⟨b,e1⟩:=ih a (zZ h1)
  have hw:=zh (k:=k) (by omega)
  have hJ:=ihr (k+1) hr (by omega)
  simp only[iNa,iCo]at hJ
  rw[zb]
  cases b with
  |true=>
   simp[zha,ziR,hlt,hak,e1,hw]
   exact .inr ⟨rfl,rfl⟩
  |false=>
   simp[zha,ziR,hlt,hak,e1,hw]
   simpa using hJ
theorem e132:∀(e:Ex),e.size≤1000000→∃b,W.pure 132 [e.av]=some (.bool b):=by
 refine Ex.ind (fun e ih=>?_)
 intro hs
 have hll:=Ex.len_sizes e.args.l
 rw[Ex.size_eq]at hs
 obtain⟨q,F,H,d1,d2⟩:=zc.1 (zsL e (by omega) (fun x hx=>ih x hx (by have:=Ex.mem_size hx;omega)) e.args.l 0 rfl (by omega))
 simp at d1
 by_cases h40:40<e.name.length
 .have h40':(40:Int)<e.name.length:=by omega
  refine⟨true,?_⟩
  rw[ze Φ132 (by simp)]
  simp[zlI,c132,h40,h40']
 .have h40':¬(40:Int)<e.name.length:=by omega
  rcases d2 with⟨rfl,_⟩|⟨rfl,d2⟩
  .refine⟨false,?_⟩
   rw[ze Φ132 (by simp)]
   simp[zlI,c132,h40,h40',d1]
  .refine⟨true,?_⟩
   rw[ze Φ132 (by simp)]
   simp[zlI,c132,h40,h40',d1,d2]
theorem e84 (e:Ex):∃b,W.pure 84 [e.av]=some (.bool b):=by
 have c1:=e191 e
 by_cases h:e.size≤40
 .obtain⟨b,c2⟩:=e132 e (by omega)
  have hm:min e.size 101=e.size:=by omega
  rw[hm]at c1
  have h1:¬(40:Int)<e.size:=by omega
  have h2:(e.size:Int)≤40:=by omega
  refine⟨b,?_⟩
  rw[ze Φ84 (by simp)]
  have h1':¬40<e.size:=by omega
  simp[fi84,c84,c1,h1,h1',eq_true h2,eq_true h,c2]
 .generalize hm:min e.size 101=m at c1
  have h1:(40:Int)<m:=by omega
  have h1':40<m:=by omega
  have h2:¬(m:Int)≤40:=by omega
  have h2':¬m≤40:=by omega
  refine⟨decide (m≤100),?_⟩
  rw[ze Φ84 (by simp)]
  by_cases h3:m≤100
  .have h3':(m:Int)≤100:=by omega
   simp[fi84,c84,c1,h1,h1',h2,h2',eq_true h3,eq_true h3']
  .have h3':¬(m:Int)≤100:=by omega
   simp[fi84,c84,c1,h1,h1',h2,h2',h3,h3']
theorem e35 (s:Sg):∃b,W.pure 35 [s.av]=some (.bool b)∧(b=false→s.items.l.length≤210):=by
 obtain⟨b,c1⟩:=e84 s.expr
 refine⟨b||(decide (40<s.items.l.length)&&decide (s.items.l.length≤200))||decide (210<s.items.l.length),?_,?_⟩
 .rw[ze Φ35 (by simp)]
  by_cases h1:40<s.items.l.length<;>by_cases h2:s.items.l.length≤200<;>by_cases h3:210<s.items.l.length<;>cases b<;>simp[fi35,c35,c1,h1,h2,h3]<;>omega
 .intro h
  simp only[Bool.or_eq_false_iff,decide_eq_false_iff_not]at h
  omega
section
variable {x:Pl} {s:Fs}
theorem zyr (hl:x.stages.l.length≤1000):∀(r:List Sg) (k:Nat),x.stages.l.drop k=r→k≤x.stages.l.length→
  okC (W.loop [1,3] l9_0 [(1,.optr 0 0 0 0),(3,I k)] [.arr 0 2 false [x.av]]) (fun q F H'=>zoV (∀s∈r,s.items.l.length≤210) 0 2 q F):=by
 intro r
 induction r with
 |nil=>
  intro k h1 h2
  have hk:=zf h1 h2
  rw[zb]
  simp[ziy,b9_0,hk]
  exact .inl ⟨rfl,by simp⟩
 |cons a r ihr=>
  intro k h1 h2
  obtain⟨hlt,ha,hr⟩:=zn h1
  have hlt':(k:Int)<x.stages.l.length:=by omega
  have hak:x.stages.l[k]=a:=(gEs.1 ha).2
  obtain⟨b,e1,e2⟩:=e35 a
  have hw:=zh (k:=k) (by omega)
  obtain⟨q,F,H,d1,d2⟩:=zc.1 (ihr (k+1) hr (by omega))
  simp only[iNa,iCo]at d1
  rw[zb]
  by_cases hb:b=true∨(20<a.items.l.length∧a.items.l.length≤200)
  .cases b with
   |true=>simp[ziy,b9_0,hlt,hak,e1,hw];exact .inr ⟨rfl,rfl⟩
   |false=>
    rcases hb with hb|⟨g1,g2⟩
    .cases hb
    .have g1':(20:Int)<a.items.l.length:=by omega
     have g2':(a.items.l.length:Int)≤200:=by omega
     simp[ziy,b9_0,hlt,hak,e1,hw,eq_true g1,eq_true g2,eq_true g1',eq_true g2']
     exact .inr ⟨rfl,rfl⟩
  .have hbf:b=false:=by cases b;rfl;exact absurd (.inl rfl) hb
   subst hbf
   have e2:=e2 rfl
   have fin:zoV (∀s∈a::r,s.items.l.length≤210) 0 2 q F:=by
    rcases d2 with⟨h,h3⟩|h
    .exact .inl ⟨h,by intro s hs;rcases lMc.1 hs with rfl|hs;exact e2;exact h3 s hs⟩
    .exact .inr h
   by_cases g1:20<a.items.l.length
   .have g2:¬a.items.l.length≤200:=fun h=>hb (.inr ⟨g1,h⟩)
    have g1':(20:Int)<a.items.l.length:=by omega
    have g2':¬(a.items.l.length:Int)≤200:=by omega
    simp[ziy,b9_0,hlt,hak,e1,hw,eq_true g1,g2,eq_true g1',g2',d1]
    simpa using fin
   .have g1':¬(20:Int)<a.items.l.length:=by omega
    simp[ziy,b9_0,hlt,hak,e1,hw,g1,g1',d1]
    simpa using fin
theorem e9 (x:Pl):∃b,W.pure 9 [x.av]=some (.bool b)∧(b=false→PlN x):=by
 by_cases h1:18<x.stages.l.length
 .have h1':(18:Int)<x.stages.l.length:=by omega
  refine⟨true,?_,by simp⟩
  rw[ze Φ9 (by simp)]
  simp[fi9,c9,eq_true h1,eq_true h1']
 .have h1':¬(18:Int)<x.stages.l.length:=by omega
  by_cases h2:36<x.pipes.l.length
  .have h2':(36:Int)<x.pipes.l.length:=by omega
   refine⟨true,?_,by simp⟩
   rw[ze Φ9 (by simp)]
   simp[fi9,c9,h1,h1',eq_true h2,eq_true h2']
  .have h2':¬(36:Int)<x.pipes.l.length:=by omega
   obtain⟨q,F,H,d1,d2⟩:=zc.1 (zyr (x:=x) (by omega) x.stages.l 0 rfl (by omega))
   simp at d1
   rcases d2 with⟨rfl,d2⟩|⟨rfl,d2⟩
   .refine⟨false,?_,fun _=>⟨by omega,by omega,fun s hs=>by have:=d2 s hs;omega⟩⟩
    rw[ze Φ9 (by simp)]
    simp[fi9,c9,h1,h1',h2,h2',d1]
   .refine⟨true,?_,by simp⟩
    rw[ze Φ9 (by simp)]
    simp[fi9,c9,h1,h1',h2,h2',d1,d2]
def zk5 (p:Prop) (e rv:Nat) (H0:Heap) (q:LX) (F:Fr) (H:Heap):Prop:=(q= .exit e∧p∧F.get 1= .optr 0 0 0 0∧H=H0)∨(q= .ret∧F.get rv= .bool true)
theorem zpV (hl:s.stages.l.length≤1000):∀(r:List Ss) (k:Nat),s.stages.l.drop k=r→k≤s.stages.l.length→
  okC (W.loop [1,3] ztp [(1,.optr 0 0 0 0),(3,I k)] [.arr 0 4 false [s.av]]) (fun q F H'=>zk5 (∀t∈r,t.held.l.length≤110) 0 2 [.arr 0 4 false [s.av]] q F H'):=by
 intro r
 induction r with
 |nil=>
  intro k h1 h2
  have hk:=zf h1 h2
  rw[zb]
  simp[zjO,zoK,hk]
  exact .inl ⟨rfl,by simp,rfl,rfl⟩
 |cons a r ihr=>
  intro k h1 h2
  obtain⟨hlt,ha,hr⟩:=zn h1
  have hlt':(k:Int)<s.stages.l.length:=by omega
  have hak:s.stages.l[k]=a:=(gEs.1 ha).2
  have hw:=zh (k:=k) (by omega)
  obtain⟨q,F,H,d1,d2⟩:=zc.1 (ihr (k+1) hr (by omega))
  simp only[iNa,iCo]at d1
  rw[zb]
  by_cases g:110<a.held.l.length
  .have g':(110:Int)<a.held.l.length:=by omega
   simp[zjO,zoK,hlt,hak,eq_true g,eq_true g',hw]
   exact .inr ⟨rfl,rfl⟩
  .have g':¬(110:Int)<a.held.l.length:=by omega
   have fin:zk5 (∀t∈a::r,t.held.l.length≤110) 0 2 [.arr 0 4 false [s.av]] q F H:=by
    rcases d2 with⟨h,h3,h4⟩|h
    .exact .inl ⟨h,by intro t ht;rcases lMc.1 ht with rfl|ht;omega;exact h3 t ht,h4⟩
    .exact .inr h
   simp[zjO,zoK,hlt,hak,g,g',hw,d1]
   simpa using fin
theorem zpW (hl:s.credits.l.length≤1000):∀(r:List Cr) (k:Nat),s.credits.l.drop k=r→k≤s.credits.l.length→
  okC (W.loop [1,4] ztq [(1,.optr 0 0 0 0),(4,I k)] [.arr 0 4 false [s.av]]) (fun q F H'=>zk5 (∀t∈r,t.items.l.length≤110) 2 2 [.arr 0 4 false [s.av]] q F H'):=by
 intro r
 induction r with
 |nil=>
  intro k h1 h2
  have hk:=zf h1 h2
  rw[zb]
  simp[zjP,zoL,hk]
  exact .inl ⟨rfl,by simp,rfl,rfl⟩
 |cons a r ihr=>
  intro k h1 h2
  obtain⟨hlt,ha,hr⟩:=zn h1
  have hlt':(k:Int)<s.credits.l.length:=by omega
  have hak:s.credits.l[k]=a:=(gEs.1 ha).2
  have hw:=zh (k:=k) (by omega)
  obtain⟨q,F,H,d1,d2⟩:=zc.1 (ihr (k+1) hr (by omega))
  simp only[iNa,iCo]at d1
  rw[zb]
  by_cases g:110<a.items.l.length
  .have g':(110:Int)<a.items.l.length:=by omega
   simp[zjP,zoL,hlt,hak,eq_true g,eq_true g',hw]
   exact .inr ⟨rfl,rfl⟩
  .have g':¬(110:Int)<a.items.l.length:=by omega
   have fin:zk5 (∀t∈a::r,t.items.l.length≤110) 2 2 [.arr 0 4 false [s.av]] q F H:=by
    rcases d2 with⟨h,h3,h4⟩|h
    .exact .inl ⟨h,by intro t ht;rcases lMc.1 ht with rfl|ht;omega;exact h3 t ht,h4⟩
    .exact .inr h
   simp[zjP,zoL,hlt,hak,g,g',hw,d1]
   simpa using fin
theorem zpX (hl:s.outputs.l.length≤1000):∀(r:List (Sl Int)) (k:Nat),s.outputs.l.drop k=r→k≤s.outputs.l.length→
  okC (W.loop [1,5] ztr [(1,.optr 0 0 0 0),(5,I k)] [.arr 0 4 false [s.av]]) (fun q F H'=>zoV (∀t∈r,t.l.length≤210) 4 2 q F):=by
 intro r
 induction r with
 |nil=>
  intro k h1 h2
  have hk:=zf h1 h2
  rw[zb]
  simp[zjQ,zoM,hk]
  exact .inl ⟨rfl,by simp⟩
 |cons a r ihr=>
  intro k h1 h2
  obtain⟨hlt,ha,hr⟩:=zn h1
  have hlt':(k:Int)<s.outputs.l.length:=by omega
  have hak:s.outputs.l[k]=a:=(gEs.1 ha).2
  have hw:=zh (k:=k) (by omega)
  obtain⟨q,F,H,d1,d2⟩:=zc.1 (ihr (k+1) hr (by omega))
  simp only[iNa,iCo]at d1
  rw[zb]
  by_cases g:210<a.l.length
  .have g':(210:Int)<a.l.length:=by omega
   simp[zjQ,zoM,hlt,hak,eq_true g,eq_true g',hw]
   exact .inr ⟨rfl,rfl⟩
  .have g':¬(210:Int)<a.l.length:=by omega
   have fin:zoV (∀t∈a::r,t.l.length≤210) 4 2 q F:=by
    rcases d2 with⟨h,h3⟩|h
    .exact .inl ⟨h,by intro t ht;rcases lMc.1 ht with rfl|ht;omega;exact h3 t ht⟩
    .exact .inr h
   simp[zjQ,zoM,hlt,hak,g,g',hw,d1]
   simpa using fin
theorem e10 (s:Fs):∃b,W.pure 10 [s.av]=some (.bool b)∧(b=false→s.stages.l.length≤18∧s.credits.l.length≤36∧s.outputs.l.length≤18∧(∀t∈s.stages.l,t.held.l.length≤110)∧(∀t∈s.credits.l,t.items.l.length≤110)∧∀t∈s.outputs.l,t.l.length≤210):=by
 by_cases h1:18<s.stages.l.length
 .have h1':(18:Int)<s.stages.l.length:=by omega
  refine⟨true,?_,by simp⟩
  rw[ze Φ10 (by simp)]
  simp[fi10,c10,eq_true h1,eq_true h1']
 have h1':¬(18:Int)<s.stages.l.length:=by omega
 by_cases h2:36<s.credits.l.length
 .have h2':(36:Int)<s.credits.l.length:=by omega
  refine⟨true,?_,by simp⟩
  rw[ze Φ10 (by simp)]
  simp[fi10,c10,h1,h1',eq_true h2,eq_true h2']
 have h2':¬(36:Int)<s.credits.l.length:=by omega
 by_cases h3:18<s.outputs.l.length
 .have h3':(18:Int)<s.outputs.l.length:=by omega
  refine⟨true,?_,by simp⟩
  rw[ze Φ10 (by simp)]
  simp[fi10,c10,h1,h1',h2,h2',eq_true h3,eq_true h3']
 have h3':¬(18:Int)<s.outputs.l.length:=by omega
 obtain⟨q,F,H,d1,d2⟩:=zc.1 (zpV (s:=s) (by omega) s.stages.l 0 rfl (by omega))
 obtain⟨q2,F2,H2,f1,f2⟩:=zc.1 (zpW (s:=s) (by omega) s.credits.l 0 rfl (by omega))
 obtain⟨q3,F3,H3,g1,g2⟩:=zc.1 (zpX (s:=s) (by omega) s.outputs.l 0 rfl (by omega))
 simp at d1 f1 g1
 rcases d2 with⟨rfl,d2,d3,rfl⟩|⟨rfl,d2⟩
 rotate_left
 .refine⟨true,?_,by simp⟩
  rw[ze Φ10 (by simp)]
  simp[fi10,c10,h1,h1',h2,h2',h3,h3',d1,d2]
 rcases f2 with⟨rfl,f2,f3,rfl⟩|⟨rfl,f2⟩
 rotate_left
 .refine⟨true,?_,by simp⟩
  rw[ze Φ10 (by simp)]
  simp[fi10,c10,h1,h1',h2,h2',h3,h3',d1,d3,f1,f2]
 rcases g2 with⟨rfl,g2⟩|⟨rfl,g2⟩
 rotate_left
 .refine⟨true,?_,by simp⟩
  rw[ze Φ10 (by simp)]
  simp[fi10,c10,h1,h1',h2,h2',h3,h3',d1,d3,f1,f3,g1,g2]
 .refine⟨false,?_,fun _=>⟨by omega,by omega,by omega,d2,f2,g2⟩⟩
  rw[ze Φ10 (by simp)]
  simp[fi10,c10,h1,h1',h2,h2',h3,h3',d1,d3,f1,f3,g1]
end
structure FsW (s:Fs):Prop where
 ns:(s.stages.nl=some true∧s.stages.l=[])∨s.stages.nl=some false
 nc:(s.credits.nl=some true∧s.credits.l=[])∨s.credits.nl=some false
 no:(s.outputs.nl=some true∧s.outputs.l=[])∨s.outputs.nl=some false
 hs:∀t∈s.stages.l,(t.held.nl=some true∧t.held.l=[])∨t.held.nl=some false
 hc:∀c∈s.credits.l,(c.items.nl=some true∧c.items.l=[])∨c.items.nl=some false
 ho:∀o∈s.outputs.l,(o.nl=some true∧o.l=[])∨o.nl=some false
theorem FsW.n {s:Fs} (h:FsW s) (hb:s.stages.l.length≤18∧s.credits.l.length≤36∧s.outputs.l.length≤18∧(∀t∈s.stages.l,t.held.l.length≤110)∧(∀t∈s.credits.l,t.items.l.length≤110)∧∀t∈s.outputs.l,t.l.length≤210):FsN s:=by
 obtain⟨b1,b2,b3,b4,b5,b6⟩:=hb
 exact⟨by omega,by omega,by omega,⟨h.ns,by omega⟩,⟨h.nc,by omega⟩,⟨h.no,by omega⟩,fun t ht=>⟨h.hs t ht,by have:=b4 t ht;omega⟩,fun t ht=>⟨h.hc t ht,by have:=b5 t ht;omega⟩,fun t ht=>⟨h.ho t ht,by have:=b6 t ht;omega⟩⟩
theorem zyA {x:Pl} {s:Fs} (hw:FsW s):(∃b,W.pure 9 [x.av]=some (.bool b)∧(b=true∨(b=false∧∃c,W.pure 10 [s.av]=some (.bool c)∧(c=true∨(c=false∧PlN x∧FsN s))))):=by
 obtain⟨b,h1,h2⟩:=e9 x
 obtain⟨c,h3,h4⟩:=e10 s
 refine⟨b,h1,?_⟩
 cases b with
 |true=>exact .inl rfl
 |false=>
  refine .inr ⟨rfl,c,h3,?_⟩
  cases c with
  |true=>exact .inl rfl
  |false=>exact .inr ⟨rfl,h2 rfl,hw.n (h4 rfl)⟩
section
variable {x:Pl} {s t:Fs} {i:Int}
end
def zcV (c:Cr):Cr:=if c.closed=true then ⟨c.cap,c.sent,c.sent,c.taken,c.items,c.closed⟩ else c
theorem zpg (c:Cr):(zcV c).pl=zhC c.pl:=by
 unfold zcV zhC
 have:c.pl.closed=c.closed:=rfl
 rw[this]
 split<;>rfl
theorem zi4 (c:Cr):(zcV c).items=c.items:=by unfold zcV;split<;>rfl
section
variable {s:Fs} {sv ov dv:AV}
theorem zvb (n:Nat) (hn:n≤1000):∀(rest:List Cr) (k:Nat) (H:Heap) (cs:List Cr),cs.length=n→cs.drop k=rest→k≤n→H[0]?=some (zgS sv ov dv 2 n n)→H[1]?=some (.arr 0 4 false [zFs.av])→H[2]?=some (.arr n 6 false (cs.map Cr.av))→
  okC (W.loop [1,2,10,11,12] zp3 [(1,.optr 0 0 0 0),(2,.optr 1 0 0 0),(10,.osl 2 n 0 n),(11,I n),(12,I k)] H)
   (fun q F H'=>q= .exit 0∧F.keep [1,2]=[(1,.optr 0 0 0 0),(2,.optr 1 0 0 0)]∧H'[0]?=some (zgS sv ov dv 2 n n)∧H'[1]?=some (.arr 0 4 false [zFs.av])∧H'[2]?=some (.arr n 6 false ((cs.take k++rest.map zcV).map Cr.av))):=by
 intro rest
 induction rest with
 |nil=>
  intro k H cs hl h1 h2 hA hB hC
  have hk:=zf h1 (by omega)
  have hkn:¬((k:Int)<n):=by omega
  have hkn':¬(k<n):=by omega
  rw[zb]
  simp[zg1,zl0,hkn,hkn']
  refine⟨hA,hB,?_⟩
  rw[←List.map_take,List.take_of_length_le (by omega)]
  exact hC
 |cons c rest ih=>
  intro k H cs hl h1 h2 hA hB hC
  obtain⟨hlt,ha,hr⟩:=zn h1
  have hkn:(k:Int)<n:=by omega
  have hkn':k<n:=by omega
  have hw:=zh (k:=k) (by omega)
  rw[zb]
  by_cases hc:c.closed=true
  .have e1:cs.set k (zcV c)=cs.set k ⟨c.cap,c.sent,c.sent,c.taken,c.items,true⟩:=by unfold zcV;rw[if_pos hc,hc]
   have hK:Kept (some 2) (H++[Blk.arr 0 6 false [c.av]]) (List.set (H++[Blk.arr 0 6 false [c.av]]) 2 (.arr n 6 false ((cs.set k (zcV c)).map Cr.av))):=Kept.set _ _ _
   have hl2:=(gEs.1 hC).1
   have hset:∀A B:Blk,(H++[A]).set 2 B=H.set 2 B++[A]:=fun A B=>List.set_append_left _ _ hl2
   have hr2:(cs.set k (zcV c)).drop (k+1)=rest:=by rw[List.drop_set_of_lt (by omega)];exact hr
   obtain⟨q,F,H',d1,rfl,d2,d3,d4,d5⟩:=zc.1 (ih (k+1) _ (cs.set k (zcV c)) (by simpa using hl) hr2 (by omega) (hK.get (by simp) (app0 hA _)) (hK.get (by simp) (app0 hB _)) (gEt (by simp;omega)))
   simp only[iNa,iCo]at d1
   rw[hset,e1]at d1
   have ht:(cs.set k (zcV c)).take (k+1)=cs.take k++[zcV c]:=by
    rw[List.take_add_one,gEt hlt,List.take_set_of_le (by omega)];rfl
   rw[ht,List.append_assoc]at d5
   simp at d2
   simp[zg1,zl0,hkn,hkn',ha,hC,zD,app0 hA,app0 hC,hc,hl,hset,hw,d1,gEz, -getElem?_pos, -List.map_set]
   refine⟨d2,d3,d4,by simpa using d5⟩
  .have hc':c.closed=false:=by simpa using hc
   have e1:zcV c=c:=by unfold zcV;rw[if_neg hc]
   obtain⟨q,F,H',d1,rfl,d2,d3,d4,d5⟩:=zc.1 (ih (k+1) (H++[.arr 0 6 false [c.av]]) cs hl hr (by omega) (app0 hA _) (app0 hB _) (app0 hC _))
   simp only[iNa,iCo]at d1
   have ht:cs.take (k+1)=cs.take k++[zcV c]:=by
    rw[List.take_add_one,ha,e1];rfl
   rw[ht,List.append_assoc]at d5
   simp at d2
   simp[zg1,zl0,hkn,hkn',ha,hC,zD,app0 hA,app0 hC,hc',hl,hw,d1,gEz, -getElem?_pos, -List.map_set]
   refine⟨d2,d3,d4,by simpa using d5⟩
end
@[simp] theorem fsSetC (s:Fs) (a b c d:Nat):zd [s.av] 0 1 (.osl a b c d)=some [.agg [Sl.av Ss.av 3 s.stages,.osl a b c d,Sl.av (Sl.av I 1) 1 s.outputs,.bool s.draining]]:=rfl
@[simp] theorem fsSetCn (s:Fs) (a:Option Bool) (b:Nat) (l:List AV):zd [s.av] 0 1 (.isl a b l)=some [.agg [Sl.av Ss.av 3 s.stages,.isl a b l,Sl.av (Sl.av I 1) 1 s.outputs,.bool s.draining]]:=rfl
theorem zl9:(AV.agg [.isl (some true) 0 [],.isl (some true) 0 [],.isl (some true) 0 [],.bool false])=zFs.av:=rfl
theorem zvq (s:Fs):(.agg [Sl.av Ss.av 3 s.stages,.isl (some true) 0 [],Sl.av (Sl.av I 1) 1 s.outputs,.bool s.draining]:AV)=(Fs.mk s.stages zaM s.outputs s.draining).av:=rfl
theorem zvr {H:Heap} {s:Fs} {n:Nat} {cs:List Cr} (h:H[2]?=some (.arr n 6 false (cs.map Cr.av))) (hn:n=cs.length):frz H 8 (.agg [Sl.av Ss.av 3 s.stages,.osl 2 n 0 n,Sl.av (Sl.av I 1) 1 s.outputs,.bool s.draining])=some (Fs.mk s.stages (ofL 6 cs) s.outputs s.draining).av:=by
 have hc:=zcP (n:=6) h (len:=n) (by simp[hn]) (zba (fun t=>zk7) cs)
 rw[zcc]at hc
 have e1:frz H 8 (.agg [Sl.av Ss.av 3 s.stages,.osl 2 n 0 n,Sl.av (Sl.av I 1) 1 s.outputs,.bool s.draining])=(frzs (frz H 7) [Sl.av Ss.av 3 s.stages,.osl 2 n 0 n,Sl.av (Sl.av I 1) 1 s.outputs,.bool s.draining]).map .agg:=rfl
 have e2:frz H 7 (Sl.av Ss.av 3 s.stages)=some (Sl.av Ss.av 3 s.stages):=rfl
 have e3:frz H 7 (Sl.av (Sl.av I 1) 1 s.outputs)=some (Sl.av (Sl.av I 1) 1 s.outputs):=rfl
 have e4:frz H 7 (.bool s.draining)=some (.bool s.draining):=rfl
 rw[e1]
 simp only[frzs,e2,e3,e4,hc]
 rfl
theorem e30 {s:Fs} (hs:FsN s):∃u:Fs,W.pure 30 [s.av]=some u.av∧u.pl=zle s.pl∧FsN u:=by
 have d:=fun H=>zr5 s.credits hs.nc H
 rcases hs.nc.1 with⟨h1,h2⟩|h1
 .refine⟨⟨s.stages,zaM,s.outputs,s.draining⟩,?_,?_,⟨hs.st,by simp,hs.ou,hs.ns,zE,hs.no,hs.hs,by simp,hs.ho⟩⟩
  .have hfs:=zvq s
   have hloop:W.loop [1,2,10,11,12] zp3 [(1,.optr 0 0 0 0),(2,.optr 1 0 0 0),(10,.isl (some true) 0 []),(11,I 0),(12,I 0)] [.arr 0 4 false [.agg [Sl.av Ss.av 3 s.stages,.isl (some true) 0 [],Sl.av (Sl.av I 1) 1 s.outputs,.bool s.draining]],.arr 0 4 false [zFs.av]]=some (.exit 0,[(1,.optr 0 0 0 0),(2,.optr 1 0 0 0),(10,.isl (some true) 0 []),(11,I 0),(12,I 0),(13,.bool false)],[.arr 0 4 false [.agg [Sl.av Ss.av 3 s.stages,.isl (some true) 0 [],Sl.av (Sl.av I 1) 1 s.outputs,.bool s.draining]],.arr 0 4 false [zFs.av]]):=by
    rw[zb]
    simp[zg1,zl0]
   rw[ze Φ30 (by simp)]
   simp[fi30,c30,d,zap,h1,h2,zl9,hloop,zns]
   exact hfs
  .unfold zle Fs.pl
   simp[h2]
 .have hsz:=hs.cr
  obtain⟨q,F,H,d1,rfl,d2,d3,d4,d5⟩:=zc.1 (zvb (sv:=Sl.av Ss.av 3 s.stages) (ov:=Sl.av (Sl.av I 1) 1 s.outputs) (dv:= .bool s.draining) s.credits.l.length hsz s.credits.l 0 [.arr 0 4 false [.agg [Sl.av Ss.av 3 s.stages,.osl 2 s.credits.l.length 0 s.credits.l.length,Sl.av (Sl.av I 1) 1 s.outputs,.bool s.draining]],.arr 0 4 false [zFs.av],.arr s.credits.l.length 6 false (s.credits.l.map Cr.av)] s.credits.l rfl rfl (by omega) rfl rfl rfl)
  simp at d1 d2
  obtain⟨g1,g2⟩:=d2
  rw[List.take_zero,List.nil_append]at d5
  have hl1:=(gEs.1 d4).1
  have hK:Kept (some 1) H (H.set 1 (.arr 0 4 false [.agg [Sl.av Ss.av 3 s.stages,.osl 2 s.credits.l.length 0 s.credits.l.length,Sl.av (Sl.av I 1) 1 s.outputs,.bool s.draining]])):=Kept.set _ _ _
  have hf:=zvr (s:=s) (hK.get (by simp) d5) (by simp)
  refine⟨⟨s.stages,ofL 6 (s.credits.l.map zcV),s.outputs,s.draining⟩,?_,?_,⟨hs.st,by simpa using hs.cr,hs.ou,hs.ns,zat (by simp;omega),hs.no,hs.hs,?_,hs.ho⟩⟩
  .rw[ze Φ30 (by simp)]
   simp[fi30,c30,d,zap,h1,zl9,d1,g1,g2,d3,d4,zns,hl1,hf,gEz, -getElem?_pos, -List.map_map]
  .unfold zle Fs.pl
   simp[zpg]
  .intro c hc
   obtain⟨c',hc',rfl⟩:=List.mem_map.1 hc
   rw[zi4];exact hs.hc c' hc'
theorem law7 (x:Pl) (s:Fs) (hw:FsW s) (a b:Int) (ha:0≤a∧a≤255) (hb:0≤b∧b≤255):W.pure 7 [x.av,s.av,.int .u8 a,.int .u8 b]=some (.bool true):=by
 have a1:=e11
 obtain⟨g,h1,rfl|⟨rfl,c,h2,rfl|⟨rfl,hx,hs⟩⟩⟩:=zyA (x:=x) hw
 .rw[ze Φ7 (by simp)];simp[fi7,c7,h1,a1]
 .rw[ze Φ7 (by simp)];simp[fi7,c7,h1,h2,a1]
 have v1:=e17 hx hs
 by_cases hva:vaI x s.pl=0
 rotate_left
 .rw[ze Φ7 (by simp)];simp[fi7,c7,h1,h2,v1,hva,a1]
 rw[hva]at v1
 obtain⟨y,v2,y1,y2⟩:=e12 hx hs
 rw[hva]at v2
 rw[if_pos hva]at y1
 by_cases hl:y.l.length<2
 .have hl':(y.l.length:Int)<2:=by omega
  rw[ze Φ7 (by simp)];simp[fi7,c7,h1,h2,v1,v2,eq_true hl,eq_true hl',a1]
 have hl':¬(y.l.length:Int)<2:=by omega
 have wa:IntKind.wrap .i64 a=a:=zz (by omega) (by omega)
 have wb:IntKind.wrap .i64 b=b:=zz (by omega) (by omega)
 have hn0:¬(y.l.length:Int)=0:=by omega
 have hne:y.l≠[]:=by intro e;rw[e]at hl;simp at hl
 obtain⟨m,hm⟩:∃m:Nat,a.tmod y.l.length=m:=⟨(a.tmod y.l.length).toNat,by
  have:=Int.tmod_nonneg (y.l.length:Int) ha.1;omega⟩
 obtain⟨n,hn⟩:∃n:Nat,b.tmod y.l.length=n:=⟨(b.tmod y.l.length).toNat,by
  have:=Int.tmod_nonneg (y.l.length:Int) hb.1;omega⟩
 have hml:m<y.l.length:=by have:=Int.tmod_lt_of_pos a (b:=(y.l.length:Int)) (by omega);omega
 have hnl:n<y.l.length:=by have:=Int.tmod_lt_of_pos b (b:=(y.l.length:Int)) (by omega);omega
 obtain⟨i,hi⟩:∃i,y.l[m]?=some i:=⟨_,gEg hml⟩
 obtain⟨j,hj⟩:∃j,y.l[n]?=some j:=⟨_,gEg hnl⟩
 have hik:y.l[m]=i:=(gEs.1 hi).2
 have hjk:y.l[n]=j:=(gEs.1 hj).2
 by_cases hij:i=j
 .rw[ze Φ7 (by simp)]
  simp[fi7,c7,h1,h2,v1,v2,hl,hl',wa,wb,hn0,hne,hm,hn,hml,hnl,hi,hj,hik,hjk,hij,a1]
 obtain⟨p,v3,p1,p2⟩:=e14 hx hs i
 obtain⟨q,v4,q1,q2⟩:=e14 hx hs j
 by_cases e1:(zbp x s.pl i).2=0
 rotate_left
 .rw[ze Φ7 (by simp)]
  simp[fi7,c7,h1,h2,v1,v2,hl,hl',wa,wb,hn0,hne,hm,hn,hml,hnl,hi,hj,hik,hjk,hij,v3,v4,e1,a1]
 by_cases e2:(zbp x s.pl j).2=0
 rotate_left
 .rw[e1]at v3
  rw[ze Φ7 (by simp)]
  simp[fi7,c7,h1,h2,v1,v2,hl,hl',wa,wb,hn0,hne,hm,hn,hml,hnl,hi,hj,hik,hjk,hij,v3,v4,e2,a1]
 have s1:zbp x s.pl i=(p.pl,0):=by rw[p1,←e1]
 have s2:zbp x s.pl j=(q.pl,0):=by rw[q1,←e2]
 obtain⟨u,w,u1,w1,uw⟩:=zmt hij s1 s2
 obtain⟨u',v5,u2,u3⟩:=e14 hx p2 j
 obtain⟨w',v6,w2,w3⟩:=e14 hx q2 i
 rw[u1]at v5 u2
 rw[w1]at v6 w2
 rw[e1]at v3
 rw[e2]at v4
 obtain⟨u4,v7,u5,u6⟩:=e30 u3
 obtain⟨w4,v8,w5,w6⟩:=e30 w3
 have v9:=e19 (s:=u4) (t:=w4) u6 (by rw[u5,w5,u2,w2];exact uw)
 rw[ze Φ7 (by simp)]
 simp[fi7,c7,h1,h2,v1,v2,hl,hl',wa,wb,hn0,hne,hm,hn,hml,hnl,hi,hj,hik,hjk,hij,v3,v4,v5,v6,v7,v8,v9,a1]
structure Rd (s:Sh) (a:AV):Prop where
 int:s= .int .i64→∃n,a=I n
 str:s= .str→∃b,a= .str b
 exs:s= .rcs 48→∃x:Sl Ex,a=Sl.av Ex.av 5 x
theorem zwd {α:Type} (f:α→AV) (n:Nat) (m:List α):(.isl (some false) n (m.map f):AV)=Sl.av f n ⟨some false,n,m⟩:=by cases m<;>rfl
theorem zwf {g:Bool} {l:List Sh} (h:recL 48=some (g,l)):g=true∧l=[.int .i64,.int .i64,.str,.int .i64,.rcs 48]:=by
 have:recL 48=some (true,[.int .i64,.int .i64,.str,.int .i64,.rcs 48]):=by kernel_rfl
 rw[this]at h
 simp only[oSi,pMi]at h
 exact⟨h.1.symm,h.2.symm⟩
theorem zuF {e:AV} (hr:zd7 true 5 e) (ih:∀(j:Nat) (c:AV) (s:Sh),(AV.cells e)[j]?=some c→([.int .i64,.int .i64,.str,.int .i64,.rcs 48]:List Sh)[j]?=some s→Rd s c):∃x:Ex,e=x.av∧True:=by
 obtain⟨cs,rfl,hl⟩:=hr.1 rfl
 match cs,hl with
 | [a0,a1,a2,a3,a4],_=>
  obtain⟨n0,rfl⟩:=(ih 0 _ _ rfl rfl).int rfl
  obtain⟨n1,rfl⟩:=(ih 1 _ _ rfl rfl).int rfl
  obtain⟨n2,rfl⟩:=(ih 2 _ _ rfl rfl).str rfl
  obtain⟨n3,rfl⟩:=(ih 3 _ _ rfl rfl).int rfl
  obtain⟨n4,rfl⟩:=(ih 4 _ _ rfl rfl).exs rfl
  exact⟨Ex.of n0 n1 n2 n3 n4,by rw[Ex.av_eq];rfl,trivial⟩
theorem zja {s:Sh} {a:AV} (h:ShOk s a):Rd s a:=by
 induction h with
 |bool b=>exact⟨by rintro⟨⟩,by rintro⟨⟩,by rintro⟨⟩⟩
 |int k n h=>exact⟨by rintro⟨⟩;exact⟨n,rfl⟩,by rintro⟨⟩,by rintro⟨⟩⟩
 |str b h=>exact⟨by rintro⟨⟩,by rintro⟨⟩;exact⟨b,rfl⟩,by rintro⟨⟩⟩
 |nil g l=>exact⟨by rintro⟨⟩,by rintro⟨⟩,by rintro⟨⟩⟩
 |sl g l es hl hr hv ih=>exact⟨by rintro⟨⟩,by rintro⟨⟩,by rintro⟨⟩⟩
 |rnil e g l h=>
  refine⟨by rintro⟨⟩,by rintro⟨⟩,?_⟩
  rintro⟨⟩;exact⟨⟨some true,l.length,[]⟩,rfl⟩
 |rsl e g l h es hl hr hv ih=>
  refine⟨by rintro⟨⟩,by rintro⟨⟩,?_⟩
  rintro⟨⟩
  obtain⟨rfl,rfl⟩:=zwf h
  obtain⟨m,h1,h2⟩:=zrQ (f:=Ex.av) (p:=fun _=>True) es (fun e he=>by
   obtain⟨i,hi⟩:=List.getElem?_of_mem he
   exact zuF (hr i e hi) (fun j c s hc hs=>ih i e j c s hi hc hs))
  subst h1
  exact⟨⟨some false,5,m⟩,zwd Ex.av 5 m⟩
def sgSh:List Sh:=[.int .i64,.int .i64,.int .i64,.int .i64,.str,.int .i64,.rcs 48,.sl false [.int .i64]]
def plSh:List Sh:=[.sl true sgSh,.sl true piSh]
theorem zy5 {e:AV} (hr:zd7 true 8 e) (hv:∀(j:Nat) (c:AV) (s:Sh),(AV.cells e)[j]?=some c→sgSh[j]?=some s→ShOk s c):∃p:Sg,e=p.av∧True:=by
 obtain⟨cs,rfl,hl⟩:=hr.1 rfl
 match cs,hl with
 | [a0,a1,a2,a3,a4,a5,a6,a7],_=>
  obtain⟨n0,rfl⟩:=(zja (hv 0 _ _ rfl rfl)).int rfl
  obtain⟨n1,rfl⟩:=(zja (hv 1 _ _ rfl rfl)).int rfl
  obtain⟨n2,rfl⟩:=(zja (hv 2 _ _ rfl rfl)).int rfl
  obtain⟨n3,rfl⟩:=(zja (hv 3 _ _ rfl rfl)).int rfl
  obtain⟨n4,rfl⟩:=(zja (hv 4 _ _ rfl rfl)).str rfl
  obtain⟨n5,rfl⟩:=(zja (hv 5 _ _ rfl rfl)).int rfl
  obtain⟨n6,rfl⟩:=(zja (hv 6 _ _ rfl rfl)).exs rfl
  obtain⟨n7,h7,w7⟩:=zgx (f:=I) zgC (hv 7 _ _ rfl rfl)
  subst h7
  exact⟨⟨n0,n1,Ex.of n2 n3 n4 n5 n6,n7⟩,rfl,trivial⟩
theorem zvW {a:AV} (h:zoX (true,plSh) a):∃s:Pl,a=s.av:=by
 obtain⟨cs,rfl,h1,h2⟩:=h.1 rfl
 match cs,h1 with
 | [a0,a1],_=>
  obtain⟨n0,h3,w0⟩:=zgx (f:=Sg.av) (p:=fun _=>True) (fun e h1 h2=>zy5 h1 h2) (h2 0 _ _ rfl rfl)
  subst h3
  obtain⟨n1,h4,w1⟩:=zgx (f:=Pi.av) (fun e=>zy6) (h2 1 _ _ rfl rfl)
  subst h4
  exact⟨⟨n0,n1⟩,rfl⟩
theorem Fs.wf.w {s:Fs} (h:s.wf):FsW s:=⟨h.1.1,h.2.1.1,h.2.2.1.1,fun t ht=>(h.1.all t ht).1.1,fun c hc=>(h.2.1.all c hc).2.2.2.2.1.1,fun o ho=>(h.2.2.1.all o ho).1⟩
end Go.Proofs.YtbddckhdbnmamaaGreat
