/-
  What an item does to a batch and to a zip that run (conditions: a valid stage in a valid state). What an item, and the end of an input, do to a stage that runs (conditions: a valid stage in a valid state). Take and End of the program: what a runner yields (conditions: none). Take and End of the program (conditions: lists of at most 1048576). End of the program (conditions: lists of at most 1048576). each of the reference: items one by one (conditions: a valid stage, lists of at most 200 items). Sums of batches: the reference (conditions: sizes of 1 to 1000, lists of at most 1000 items). Take of the reference: pieces (conditions: lists of at most 1048576). Take of the reference (conditions: lists of at most 1048576). End of the reference (conditions: lists of at most 1048576). The pipe of an output, of an input (conditions: at most 1000 stages and pipes). Why a pipe is not valid (conditions: a pipeline that is not too large). Whether the pipes form a cycle (conditions: pipes between stages that there are). Whether the pipes form a cycle: the reference (conditions: pipes between stages that there are). Why a pipeline is not valid: the program (conditions: a pipeline that is not too large). Why a pipeline is not valid: the reference (conditions: a pipeline that is not too large). How many stages are sinks; which ends a stage has noted (conditions: a pipeline that is not too large). Whether the buffers of a state are valid: the program (conditions: a pipeline and a state that are not too large). Whether a state is valid: the program (conditions: a pipeline and a state that are not too large). Valid of the program (conditions: a pipeline and a state that are not too large). Valid of the reference (conditions: a pipeline and a state that are not too large). What a stage does next: the program (conditions: a valid pipeline and state that are not too large). What a stage does next: the reference (conditions: a valid pipeline and state that are not too large). Whether a stage is enabled (conditions: a valid pipeline and state that are not too large). Enabled, both (conditions: a pipeline and a state that are not too large). What a step puts into the buffers: the program (conditions: a valid pipeline that is not too large). What a step puts into the buffers: the program, whole (conditions: a valid pipeline that is not too large). What a step takes from a buffer: the program (conditions: a valid pipeline that is not too large; a buffer with items). A step: the program's memory (conditions: none). A step of the program: up to the clones, and a sink's output (conditions: a valid pipeline and state that are not too large).
-/
import Derived.Test.YtbddckhdbnmamaaGreatNAr
import Derived.Test.YtbddckhdbnmamaaGreatXAr
namespace Go.Proofs.YtbddckhdbnmamaaGreat
open Go Go.RowKit
set_option linter.unusedVariables false
set_option linter.unusedSimpArgs false
set_option maxRecDepth 10000
theorem zrf {v:AV} {l:List Int} (H:Heap) (hx:l.length≤1048576) (he:zax (H++[.arr 0 1 false []]) 1 v=some (l.map I)):
  ex (H++[.arr 0 1 false []]) (.app 1) [.osl H.length 0 0 0,v]=some (.osl H.length l.length 0 l.length,H++[.arr l.length 1 false (l.map I)]):=by
 have hall:(l.map I).all (fun e=>e.cells.all AV.cell)=true:=zk3 (by simp) l
 have h0:truncH (H++[.arr 0 1 false []]) (.osl H.length 0 0 0)=H++[.arr 0 1 false []]:=by simp[truncH]
 simp only[ex,he,hall,if_true,h0]
 cases l with
 |nil=>simp[zbN]
 |cons a r=>
  simp only[lLc]at hx
  simp[zbN,zay]
  omega
theorem zkV {H:Heap} {ho:Option Nat} {hv:AV} {l:List Int} (h:zai H ho hv l) (hl:l.length+1≤1048576) (n:Int):∃v' H1 v2 H2 ver,W.call (.clo 44 [] []) [hv] H=some (v',H1)∧okO v'=some v'∧Kept none H H1∧ex H1 (.app 1) [v',.isl (some false) 1 [I n]]=some (v2,H2)∧
  v2= .osl H.length ver 0 (l++[n]).length∧zai H2 (some H.length) v2 (l++[n])∧Kept none H H2:=by
 have own:∀H1,H1=H++[.arr l.length 1 false (l.map I)]→ex H1 (.app 1) [.osl H.length l.length 0 l.length,.isl (some false) 1 [I n]]=some (.osl H.length (l.length+1) 0 (l.length+1),H++[.arr (l.length+1) 1 false ((l++[n]).map I)]):=by
  rintro H1 rfl
  rw[zak (l:=l) (by simp) (by omega) n]
  simp
 have fin:∀ver,zai (H++[.arr ver 1 false ((l++[n]).map I)]) (some H.length) (.osl H.length ver 0 (l++[n]).length) (l++[n]):=fun ver=>⟨ver,rfl,by simp,by simp,by simpa using hl⟩
 cases ho with
 |none=>
  obtain⟨y,rfl,rfl,hy⟩:=h
  have c:=zoi y hy H
  by_cases hnl:y.nl=some true
  .have hy0:y.l=[]:=by rcases hy.1 with⟨_,h⟩|h;exact h;rw[hnl]at h;cases h
   have e1:zap I 1 y H=(.isl (some true) 0 [],H):=by unfold zap;rw[if_pos hnl]
   rw[e1]at c
   refine⟨_,_,_,_,0,c,rfl,Kept.refl _ _,zaP H 0 n,?_,?_,Kept.append _ _ _⟩
   .rw[hy0];rfl
   .have:=fin 0;rw[hy0]at this⊢;exact this
  .have e1:zap I 1 y H=(.osl H.length y.l.length 0 y.l.length,H++[.arr y.l.length 1 false (y.l.map I)]):=by unfold zap;rw[if_neg hnl]
   rw[e1]at c
   refine⟨_,_,_,_,y.l.length+1,c,rfl,Kept.append _ _ _,own _ rfl,by simp,?_,Kept.append _ _ _⟩
   have:=fin (y.l.length+1)
   simpa using this
 |some id=>
  have he:=h.kept (Kept.append none H [.arr 0 1 false []]) (by simp)
  have hel:=zrf H (by omega) he.elems
  have ho2:=h.okO
  obtain⟨ver,rfl,h2,h3,h4⟩:=h
  have c:W.call (.clo 44 [] []) [.osl id ver 0 l.length] H=some (.osl H.length l.length 0 l.length,H++[.arr l.length 1 false (l.map I)]):=by
   rw[zj Φ44]
   simp[fi44,c44,hel]
  refine⟨_,_,_,_,l.length+1,c,rfl,Kept.append _ _ _,own _ rfl,by simp,?_,Kept.append _ _ _⟩
  have:=fin (l.length+1)
  simpa using this
section
variable {b:Nat} {H H':Heap} {r ob:Nat} {x:Sg} {t:SS} {err:Int} {outs:List (List Int)} {hv:AV} {ho:Option Nat} {vs:List AV} {os:Nat→Option Nat}
theorem zv7 (h:RnD b H r ob x t 0 outs hv ho vs os) (hl:outs.length=outK x.kind) (hb:∀l∈outs,l.length≤1000000) {i n:Int} (hg:sgI x=0) (hs:ssB x t=true) (hn:isIt n=true) (k4:x.kind=4):
  okV (W.call (.clo 197 [] []) [.optr r 0 0 0,I i,I n] H) (fun v H'=>Did b H H' r ob x (zr x t i n) outs):=by
 rw[zfh (by omega) (by omega)]at hl
 obtain⟨l,rfl⟩:=len1 hl
 obtain⟨f1,f2,f3,f4⟩:=zQ hs
 have hsz:=zbq hg
 have hM:zL x.kind=100:=by simp[zL,k4]
 have hL:zC x.kind=1:=by simp[zC,k4]
 have hH:zX x=x.size - 1:=by simp[zX,k4]
 obtain⟨v',H1,v2,H2,ver,c1,c2,c3,c4,rfl,c5,c6⟩:=zkV h.hl (by omega) n
 have h1:=h.kept c3
 have h2:=h.kept c6
 have hrlt:=h.rlt;have holt:=h.olt
 have h3:=h2.setH (t':={t with held:=t.held++[n]}) (hv':= .osl H.length ver 0 (t.held++[n]).length) (ho':=some H.length) c5 (by simp;omega) (by simp;omega) (fun i id hi e=>by cases e;have:=h.o4 i _ hi;omega) (fun id e=>by cases e;exact h.blen) (err':=0)
 have hmv:zr x t i n=if ((t.held.length:Int)+1<x.size) then ({t with held:=t.held++[n]},[[]],0)
  else if (sumB (t.held++[n]) 0).2≠0 then (ssZ,[],(sumB (t.held++[n]) 0).2) else ({t with held:=[]},[[(sumB (t.held++[n]) 0).1]],0):=by simp[zr,k4]
 have hk2:Keep b H (H2.set r (.arr 0 14 false [rnA x (.osl H.length ver 0 (t.held++[n]).length) t.count t.ended ob 1 0])):=(Keep.of c6 h.blen).trans (zI h2 _)
 rw[hmv,zj Φ197]
 by_cases hlt:(t.held.length:Int)+1<x.size
 .rw[if_pos hlt]
  have hne:¬(t.held.length:Int)+1=x.size:=by omega
  simp at c4 h3 hk2
  simp[znK,c197,h.rb,h.hl.okO,c1,c2,c4,h1.rb,h2.rb,hne,h3.rb,gEz, -getElem?_pos]
  exact⟨hk2,_,_,⟨_,_,_,_,h3⟩,rfl,fun _=>⟨rfl,by simp⟩⟩
 .rw[if_neg hlt]
  have he:(t.held.length:Int)+1=x.size:=by omega
  have hall:∀a∈t.held++[n],isIt a=true:=by
   intro a ha
   rcases List.mem_append.1 ha with ha|ha
   .exact f4 a ha
   .simp at ha;subst ha;exact hn
  obtain⟨v,H3,d1,rfl,d2,outs',d3,d4,d5⟩:=zu.1 (zoj h3 hall (l:=l) rfl (hb l (by simp)))
  simp at c4 h3 hk2 d1 d2
  simp[znK,c197,h.rb,h.hl.okO,c1,c2,c4,h1.rb,h2.rb,he,h3.rb,d1,gEz, -getElem?_pos]
  by_cases hz:(sumB (t.held++[n]) 0).2=0
  .rw[if_pos hz]
   rw[hz]at d3
   exact⟨hk2.trans d2,_,outs',d3,d4,fun _=>⟨rfl,d5 hz⟩⟩
  .rw[if_neg hz]
   exact⟨hk2.trans d2,_,outs',d3,d4,fun h=>absurd h hz⟩
theorem and2 (c:Int) (h0:0≤c) (h3:c≤3):zkZ .i64 c 2=if 2≤c then 2 else 0:=by
 have:c=0∨c=1∨c=2∨c=3:=by omega
 rcases this with rfl|rfl|rfl|rfl<;>decide
theorem zv2 (h:RnD b H r ob x t 0 outs hv ho vs os) (hl:outs.length=outK x.kind) (hb:∀l∈outs,l.length≤1000000) {i n:Int} (hg:sgI x=0) (hs:ssB x t=true) (hn:isIt n=true) (k9:x.kind=9):
  okV (W.call (.clo 205 [] []) [.optr r 0 0 0,I i,I n] H) (fun v H'=>Did b H H' r ob x (zr x t i n) outs):=by
 rw[zfh (by omega) (by omega)]at hl
 obtain⟨l,rfl⟩:=len1 hl
 obtain⟨f1,f2,f3,f4⟩:=zQ hs
 have hC:zN x=3:=by simp[zN,k9]
 have hH:zX x=1:=by simp[zX,k9]
 rw[zj Φ205]
 by_cases hi:i=0
 .have hmv:zr x t i n=if 2≤t.count then (t,[[]],0) else ({t with held:=[n]},[[]],0):=by simp[zr,k9,hi]
  have ha:=and2 t.count f1 (by omega)
  rw[hmv]
  by_cases h2:2≤t.count
  .rw[if_pos h2]at ha⊢
   simp[zim,c205,hi,h.rb,ha]
   exact⟨Keep.refl _ _,_,_,⟨_,_,_,_,h⟩,rfl,fun _=>⟨rfl,by simp⟩⟩
  .rw[if_neg h2]at ha⊢
   simp[zim,c205,hi,h.rb,ha]
   have h3:=h.setH (t':={t with held:=[n]}) (hv':= .isl (some false) 1 [I n]) (ho':=none) ⟨ofL 1 [n],rfl,rfl,zat (by simp)⟩ (by simp) (by simp) (by simp) (by simp) (err':=0)
   exact⟨zI h _,_,_,⟨_,_,_,_,h3⟩,rfl,fun _=>⟨rfl,by simp⟩⟩
 .cases hh:t.held with
  |nil=>
   have hmv:zr x t i n=(t,[[]],0):=by simp[zr,k9,hi,hh]
   have hlen:=h.hl.len
   rw[hh]at hlen
   rw[hmv]
   simp[zim,c205,hi,h.rb,h.hl.okO,hlen]
   exact⟨Keep.refl _ _,_,_,⟨_,_,_,_,h⟩,rfl,fun _=>⟨rfl,by simp⟩⟩
  |cons a rest=>
   have hr0:rest=[]:=by
    rw[hh]at f3;simp at f3
    exact List.length_eq_zero_iff.1 (by omega)
   subst hr0
   have hmv:zr x t i n=if (evX x a n).2≠0 then (ssZ,[],(evX x a n).2) else ({t with held:=[]},[[(evX x a n).1]],0):=by simp[zr,k9,hi,hh]
   have hlen:=h.hl.len
   rw[hh]at hlen
   obtain⟨p,p1,p2,p3⟩:=h.hl.at (k:=0) (a:=a) (by rw[hh];rfl)
   have h3:=h.setH (t':={t with held:=[]}) zgR (by simp) (by simp) (by simp) (by simp) (err':=0)
   obtain⟨v,H1,c1,rfl,c2,c3⟩:=zu.1 (zhj h3 hg (.inr (.inr (.inr k9))) a n (f4 a (by rw[hh];simp)) hn)
   have e9:snd9 x n=n:=by simp[snd9,k9]
   rw[e9]at c1 c3
   rw[hmv]
   simp at p1 c1
   by_cases hf:(evX x a n).2=0
   .rw[if_neg (by simp[hf])]
    rw[hf]at c3
    obtain⟨v,H',d1,rfl,d2,vs',os',d3⟩:=zu.1 (zbO c3 (o:=0) rfl (by have:=hb l (by simp);omega) (evX x a n).1)
    simp at d1
    simp[zim,c205,hi,h.rb,h.hl.okO,hlen,p1,p2,p3,c1,d1]
    exact⟨((zI h _).trans c2).trans d2,_,_,⟨_,_,_,_,d3⟩,rfl,fun _=>⟨rfl,rfl⟩⟩
   .rw[if_pos hf]
    have d1:=zdG c3 hf 0 (evX x a n).1
    simp[zim,c205,hi,h.rb,h.hl.okO,hlen,p1,p2,p3,c1,d1]
    exact⟨(zI h _).trans c2,_,_,⟨_,_,_,_,c3⟩,rfl,fun h=>absurd h hf⟩
end
theorem zhe {x:Sg} {t:SS} {i:Int} (h:endE x t i=0):sgI x=0∧ssB x t=true∧t.ended=false∧(x.kind=1→i= -1)∧(x.kind≠1→0≤i∧i<inK x.kind∧za2 x t i=false):=by
 unfold endE at h
 split at h
 .rename_i h1;exact absurd h h1
 .rename_i h1
  obtain⟨g1,g2⟩:=zx.1 (show zan x t=0 by omega)
  split at h
  .cases h
  .rename_i h2
   split at h
   .cases h
   .rename_i h3
    refine⟨g1,g2,?_,fun k1=>?_,fun k1=>⟨?_,?_,?_⟩⟩
    .cases he:t.ended with|false=>rfl|true=>exact absurd (.inl he) h3
    .exact cBc fun hi=>h2 (.inl ⟨k1,hi⟩)
    .exact cBc fun hi=>h2 (.inr ⟨k1,.inl (by omega)⟩)
    .exact cBc fun hi=>h2 (.inr ⟨k1,.inr (by omega)⟩)
    .cases he:za2 x t i with|false=>rfl|true=>exact absurd (.inr ⟨k1,he⟩) h3
theorem zjV:∀(l:List (List Int)) (n:Nat),l.length=n→zipA l (List.replicate n [])=l
 | [],_,_=>by simp
 |a::r,0,h=>by simp at h
 |a::r,n+1,h=>by
  have:=zjV r n (by simpa using h)
  simp only[List.replicate_succ,List.zipWith_cons_cons,List.append_nil]
  show a::zipA r (List.replicate n [])=_
  rw[this]
theorem zy3 (vs:List AV) (H:Heap):W.call (.clo 228 [] []) vs H=zhx vs H:=by
 have h:Φ 228=none:=by kernel_rfl
 rw[zdV]
 simp[zfO,h,extM]
theorem zgd:∀l:List Int,zeh (l.map I)=some l
 | []=>rfl
 |a::r=>by simp[zeh,zgd r]
theorem zmv {H:Heap} {id ver n:Nat} {l:List Int} (h:H[id]?=some (.arr ver 1 false (l.map I))) (hn:n=l.length) (h0:0<l.length) (hl:l.length≤1048576):W.call (.clo 228 [] []) [.osl id ver 0 n] H=some (.tuple [],H.set id (.arr ver 1 false ((zdN l).map I))):=by
 subst hn
 rw[zy3]
 simp[zhx,h,zgd,h0,hl]
section
variable {b:Nat} {H H':Heap} {r ob:Nat} {x:Sg} {t:SS} {err:Int} {outs:List (List Int)} {hv:AV} {ho:Option Nat} {vs:List AV} {os:Nat→Option Nat}
theorem zo4 (h:RnD b H r ob x t 0 outs hv ho vs os) (hl:outs.length=outK x.kind) (hb:∀l∈outs,l.length≤1000000) {i n:Int} (he:zbW x t i n=0):
  okV (W.call (tkK x.kind) [.optr r 0 0 0,I i,I n] H) (fun v H'=>Did b H H' r ob x (zr x t i n) outs):=by
 obtain⟨g1,g2,g3,g4,g5,g6⟩:=zgu he
 obtain⟨q1,q2⟩:=zdO g1
 obtain⟨f1,f2,f3,f4⟩:=zQ g2
 unfold tkK
 by_cases k1:x.kind=1
 .rw[if_pos k1];exact zwa h hl hb he k1
 rw[if_neg k1]
 by_cases k2:x.kind=2
 .rw[if_pos k2];exact zv9 h hl hb g1 g4 k2
 rw[if_neg k2]
 by_cases k3:x.kind=3
 .rw[if_pos k3];exact zv8 h hl hb g1 g4 k3
 rw[if_neg k3]
 by_cases k4:x.kind=4
 .rw[if_pos k4];exact zv7 h hl hb g1 g2 g4 k4
 rw[if_neg k4]
 by_cases k5:x.kind=5
 .rw[if_pos k5];exact zv6 h hl hb g1 k5
 rw[if_neg k5]
 by_cases k6:x.kind=6
 .rw[if_pos k6];exact zv5 h hl hb g1 f1 k6
 rw[if_neg k6]
 by_cases k7:x.kind=7
 .rw[if_pos k7];exact zv4 h hl hb g1 g4 k7
 rw[if_neg k7]
 by_cases k8:x.kind=8
 .rw[if_pos k8]
  have hi:=zeH (zx.2 ⟨g1,g2⟩) k1
  rw[g6 k1]at hi
  have h2:inK x.kind=2:=by simp[inK,k8]
  exact zv3 h hl hb (by omega) k8
 rw[if_neg k8]
 by_cases k9:x.kind=9
 .rw[if_pos k9];exact zv2 h hl hb g1 g2 g4 k9
 rw[if_neg k9]
 exact zuu h hl (by omega)
theorem end0 (h:RnD b H r ob x t 0 outs hv ho vs os) (hl:outs.length=outK x.kind) {i:Int} (k4:x.kind≠4) (k8:x.kind≠8) (k9:x.kind≠9):
  okV (W.call (.clo 193 [] []) [.optr r 0 0 0,I i] H) (fun v H'=>Did b H H' r ob x (endK x t i) outs):=by
 have hmv:endK x t i=({t with ended:=true},List.replicate (outK x.kind) [],0):=by simp[endK,k4,k8,k9]
 have h2:=h.setR (t':={t with ended:=true}) (err':=0) rfl
 rw[hmv,zj Φ193]
 simp[zqB,c193,h.rb]
 exact⟨zI h _,_,_,⟨_,_,_,_,h2⟩,rfl,fun _=>⟨rfl,(zjV outs _ hl).symm⟩⟩
theorem end4 (h:RnD b H r ob x t 0 outs hv ho vs os) (hl:outs.length=outK x.kind) (hb:∀l∈outs,l.length≤1000000) {i:Int} (hs:ssB x t=true) (k4:x.kind=4):
  okV (W.call (.clo 198 [] []) [.optr r 0 0 0,I i] H) (fun v H'=>Did b H H' r ob x (endK x t i) outs):=by
 rw[zfh (by omega) (by omega)]at hl
 obtain⟨l,rfl⟩:=len1 hl
 obtain⟨f1,f2,f3,f4⟩:=zQ hs
 have hmv:endK x t i=if t.held=[] then ({t with ended:=true},[[]],0) else if (sumB t.held 0).2≠0 then (ssZ,[],(sumB t.held 0).2) else (⟨[],t.count,true⟩,[[(sumB t.held 0).1]],0):=by simp[endK,k4]
 rw[hmv,zj Φ198]
 by_cases hh:t.held=[]
 .rw[if_pos hh]
  have hlen:lenV false hv=I 0:=by rw[h.hl.len,hh];rfl
  have h2:=h.setR (t':={t with ended:=true}) (err':=0) rfl
  simp[znJ,c198,h.rb,h.hl.okO,hlen]
  exact⟨zI h _,_,_,⟨_,_,_,_,h2⟩,rfl,fun _=>⟨rfl,by simp⟩⟩
 .rw[if_neg hh]
  have hpos:0<t.held.length:=List.length_pos_iff.2 hh
  have hpos':(0:Int)<t.held.length:=by omega
  obtain⟨v,H3,d1,rfl,d2,outs',d3,d4,d5⟩:=zu.1 (zoj h f4 (l:=l) rfl (hb l (by simp)))
  obtain⟨hv3,ho3,vs3,os3,d6⟩:=d3
  have h2:=d6.setR (t':=⟨[],t.count,true⟩) (err':=(sumB t.held 0).2) rfl
  simp[znJ,c198,h.rb,h.hl.okO,h.hl.len,hpos,hpos',d1,d6.rb]
  by_cases hz:(sumB t.held 0).2=0
  .rw[if_pos hz]
   rw[hz]at h2⊢
   exact⟨d2.trans (zI d6 _),_,outs',⟨_,_,_,_,h2⟩,d4,fun _=>⟨rfl,d5 hz⟩⟩
  .rw[if_neg hz]
   exact⟨d2.trans (zI d6 _),_,outs',⟨_,_,_,_,h2⟩,d4,fun h=>absurd h hz⟩
theorem or2 (c i:Int) (h:(i=0∧(c=0∨c=2))∨(i=1∧(c=0∨c=1))):zuk .i64 c (shlI .i64 1 i)=c+i+1:=by
 rcases h with⟨rfl,rfl|rfl⟩|⟨rfl,rfl|rfl⟩<;>decide
theorem end9 (h:RnD b H r ob x t 0 outs hv ho vs os) (hl:outs.length=outK x.kind) {i:Int} (he:endE x t i=0) (k9:x.kind=9):
  okV (W.call (.clo 206 [] []) [.optr r 0 0 0,I i] H) (fun v H'=>Did b H H' r ob x (endK x t i) outs):=by
 obtain⟨g1,g2,g3,g4,g5⟩:=zhe he
 obtain⟨f1,f2,f3,f4⟩:=zQ g2
 have hC:zN x=3:=by simp[zN,k9]
 obtain⟨i0,i1,i2⟩:=g5 (by omega)
 have hin:inK x.kind=2:=by simp[inK,k9]
 rw[zfh (by omega) (by omega)]at hl
 obtain⟨l,rfl⟩:=len1 hl
 have hcase:(i=0∧(t.count=0∨t.count=2))∨(i=1∧(t.count=0∨t.count=1)):=by
  unfold za2 at i2
  rw[if_neg (by omega),if_pos k9]at i2
  have i2:=of_decide_eq_false i2
  omega
 have hor:=or2 t.count i hcase
 have hmv:endK x t i=(⟨if i=1 then [] else t.held,t.count+i+1,decide (t.count+i+1=3)⟩,[[]],0):=by simp[endK,k9]
 have hn:¬i<0:=by omega
 have hs:∀B,(H.set r B)[r]?=some B:=fun B=>gEt h.rlt
 rw[hmv,zj Φ206]
 by_cases hi:i=1
 .have h2:=h.setR (t':={t with count:=t.count+i+1}) (err':=0) rfl
  have h3:=h2.setH (t':={t with held:=[],count:=t.count+i+1}) zgR (by simp) (by simp) (by simp) (by simp) (err':=0)
  have h4:=h3.setR (t':=⟨[],t.count+i+1,decide (t.count+i+1=3)⟩) (err':=0) rfl
  simp only[List.set_set]at h4
  simp[znG,c206,h.rb,hn,hor,eq_true hi,hs]
  exact⟨zI h _,_,_,⟨_,_,_,_,h4⟩,rfl,fun _=>⟨rfl,by simp⟩⟩
 .have h2:=h.setR (t':={t with count:=t.count+i+1}) (err':=0) rfl
  have h4:=h2.setR (t':=⟨t.held,t.count+i+1,decide (t.count+i+1=3)⟩) (err':=0) rfl
  simp only[List.set_set]at h4
  simp[znG,c206,h.rb,hn,hor,hi,hs]
  exact⟨zI h _,_,_,⟨_,_,_,_,h4⟩,rfl,fun _=>⟨rfl,by simp⟩⟩
theorem RnD.resort {id ver:Nat} (h:RnD b H r ob x t err outs (.osl id ver 0 t.held.length) (some id) vs os) {l:List Int} (hl:l.length=t.held.length) (hne:l≠[]) (hb:l.length≤1048576):
  RnD b (H.set id (.arr ver 1 false (l.map I))) r ob x {t with held:=l} err outs (.osl id ver 0 t.held.length) (some id) vs os:=by
 have hk:Kept (some id) H (H.set id (.arr ver 1 false (l.map I))):=Kept.set _ _ _
 refine⟨hk.get h.h1 h.rb,hk.get h.h2 h.obk,h.ne,⟨ver,by rw[hl],gEt h.hl.lt,hne,hb⟩,h.h1,h.h2,h.len,fun i m hi=>?_,h.o1,h.o2,h.o3,fun i j hi=>by have:=h.o4 i j hi;simpa using this,h.br,h.bo,h.bh,h.bs⟩
 obtain⟨v,h1,h2⟩:=h.gr i m hi
 exact⟨v,h1,h2.kept hk (fun j e=>by cases e;exact fun e=>h.o2 i _ e rfl)⟩
theorem end8 (h:RnD b H r ob x t 0 outs hv ho vs os) (hl:outs.length=outK x.kind) {i:Int} (he:endE x t i=0) (k8:x.kind=8):
  okV (W.call (.clo 203 [] []) [.optr r 0 0 0,I i] H) (fun v H'=>Did b H H' r ob x (endK x t i) outs):=by
 obtain⟨g1,g2,g3,g4,g5⟩:=zhe he
 obtain⟨f1,f2,f3,f4⟩:=zQ g2
 have hH:zX x=2:=by simp[zX,k8]
 obtain⟨i0,i1,i2⟩:=g5 (by omega)
 have hin:inK x.kind=2:=by simp[inK,k8]
 rw[zfh (by omega) (by omega)]at hl
 obtain⟨l,rfl⟩:=len1 hl
 have hni:i∉t.held:=by
  unfold za2 at i2
  rw[if_pos k8]at i2
  exact of_decide_eq_false i2
 have hmh:zag t.held=true:=by
  rw[zdM ⟨f1,f2,f3⟩ (by simpa using f4),if_neg (by omega),if_pos k8]at g2
  simp only[bAt]at g2
  exact g2.1
 have hen:t.ended=decide (t.held.length=2):=by
  rw[zdM ⟨f1,f2,f3⟩ (by simpa using f4),if_neg (by omega),if_pos k8]at g2
  simp only[bAt,beq_iff_eq]at g2
  exact g2.2
 have hcase:t.held=[]∨(t.held=[0]∧i=1)∨(t.held=[1]∧i=0):=by
  match hh:t.held,hmh with
  | [],_=>exact .inl rfl
  | [a],hm=>
   rw[hh]at hni
   simp[zag]at hm hni
   rcases hm with rfl|rfl
   .right;left;exact⟨rfl,by omega⟩
   .right;right;exact⟨rfl,by omega⟩
  | [a,c],hm=>
   rw[hh,g3]at hen
   simp at hen
 have hmv:endK x t i=if t.held=[] then ({t with held:=[i]},[[]],0) else (⟨[0,1],t.count,true⟩,[[]],0):=by simp[endK,k8]
 have hst:zdN (t.held++[i])=if t.held=[] then [i] else [0,1]:=by
  rcases hcase with h|⟨h,h'⟩|⟨h,h'⟩
  .rw[h];rfl
  .rw[h,h'];rfl
  .rw[h,h'];rfl
 obtain⟨v',H1,v2,H2,ver,c1,c2,c3,c4,rfl,c5,c6⟩:=zkV h.hl (by omega) i
 have h1:=h.kept c3
 have h2:=h.kept c6
 have hrlt:=h.rlt;have holt:=h.olt
 have hne:H.length≠r:=by omega
 have h3:=h2.setH (t':={t with held:=t.held++[i]}) (hv':= .osl H.length ver 0 (t.held++[i]).length) (ho':=some H.length) c5 (by simp;omega) (by simp;omega) (fun j id hi e=>by cases e;have:=h.o4 j _ hi;omega) (fun id e=>by cases e;exact h.blen) (err':=0)
 have hlen3:(zdN (t.held++[i])).length=(t.held++[i]).length:=by
  rcases hcase with h|⟨h,h'⟩|⟨h,h'⟩
  .rw[h];rfl
  .rw[h,h'];rfl
  .rw[h,h'];rfl
 obtain⟨ver2,w1,w2,w3,w4⟩:=h3.hl
 simp only[AV.osl.injEq,true_and,and_true]at w1
 subst w1
 have c7:=zmv w2 rfl (by simp) (by simp only[List.length_append,List.length_singleton];omega)
 have h4:=h3.resort (l:=zdN (t.held++[i])) hlen3 (by intro e;rw[e]at hlen3;simp at hlen3) (by rw[hlen3];simp only[List.length_append,List.length_singleton];omega)
 have h5:=h4.setR (t':=⟨zdN (t.held++[i]),t.count,decide ((t.held.length:Int)+1=2)⟩) (err':=0) rfl
 have hk5:Keep b H _:=(((Keep.of c6 h.blen).trans (zI h2 (.arr 0 14 false [rnA x (.osl H.length ver 0 (t.held++[i]).length) t.count t.ended ob 1 0]))).trans ⟨by simp,fun j hj=>by rw[gEn (by have:=h.blen;omega)];rfl⟩).trans (zI h4 (.arr 0 14 false [rnA x (.osl H.length ver 0 (t.held++[i]).length) t.count (decide ((t.held.length:Int)+1=2)) ob 1 0]))
 have r4:=h4.rb
 have r3:=h3.rb
 rw[hmv,zj Φ203]
 simp at c4 c7 r3 r4
 simp[zqy,c203,h.rb,h.hl.okO,c1,c2,c4,h2.rb,r3,c7,r4,gEz, -getElem?_pos]
 have hla:(t.held++[i]).length=t.held.length+1:=by simp
 simp only[hla]at h5 hk5
 by_cases hh:t.held=[]
 .rw[if_pos hh]at hst⊢
  rw[hst]at h5 hk5⊢
  have e0:decide ((t.held.length:Int)+1=2)=false:=by rw[hh];rfl
  refine⟨hk5,_,[l],⟨_,_,_,_,h5⟩,rfl,fun _=>⟨?_,by simp⟩⟩
  simp only[e0,g3]
 .rw[if_neg hh]at hst⊢
  rw[hst]at h5 hk5⊢
  have e0:decide ((t.held.length:Int)+1=2)=true:=by
   rcases hcase with h|⟨h,h'⟩|⟨h,h'⟩
   .exact absurd h hh
   .rw[h];rfl
   .rw[h];rfl
  refine⟨hk5,_,[l],⟨_,_,_,_,h5⟩,rfl,fun _=>⟨?_,by simp⟩⟩
  simp only[e0]
theorem ztY (h:RnD b H r ob x t 0 outs hv ho vs os) (hl:outs.length=outK x.kind) (hb:∀l∈outs,l.length≤1000000) {i:Int} (he:endE x t i=0):
  okV (W.call (edK x.kind) [.optr r 0 0 0,I i] H) (fun v H'=>Did b H H' r ob x (endK x t i) outs):=by
 unfold edK
 by_cases k4:x.kind=4
 .rw[if_pos k4];exact end4 h hl hb (zhe he).2.1 k4
 rw[if_neg k4]
 by_cases k8:x.kind=8
 .rw[if_pos k8];exact end8 h hl he k8
 rw[if_neg k8]
 by_cases k9:x.kind=9
 .rw[if_pos k9];exact end9 h hl he k9
 rw[if_neg k9]
 exact end0 h hl k4 k8 k9
end
theorem zvI (x:Sg) (s:Ss) (ob n:Nat):bldV [.int .i64 0,.int .i64 0,.int .i64 0,.int .i64 0,.str [],.int .i64 0,.isl (some true) 0 [],.isl (some true) 0 [],.isl (some true) 0 [],.int .i64 0,.bool false,.isl (some true) 0 [],.int .i64 0,.int .i64 0] [(0,8),(8,3),(11,1)] [x.av,s.av,.osl ob 0 0 n]=rnA x (Sl.av I 1 s.held) s.count s.ended ob n 0:=rfl
@[simp] theorem rn_ok {x:Sg} {hv:AV} {c:Int} {e:Bool} {ob n:Nat} {err:Int}:okO (rnA x hv c e ob n err)=some (rnA x hv c e ob n err):=rfl
@[simp] theorem rn_len {x:Sg} {hv:AV} {c:Int} {e:Bool} {ob n:Nat} {err:Int}:(rnA x hv c e ob n err).cells.length=14:=rfl
theorem zsp {x:Sg} {hv:AV} {c:Int} {e:Bool} {ob n:Nat} {err:Int} (h:hv.cell=true):(rnA x hv c e ob n err).cells.all AV.cell=true:=by
 simp only[rnA,AV.cells,List.all_cons,h,List.all_nil]
 rfl
abbrev nilA:AV:= .isl (some true) 0 []
theorem zok (x:Sg) (hk:1≤x.kind∧x.kind≤10) (s:Ss) (H:Heap):W.call (.clo 117 [] []) [x.av,s.av] H=some (.optr (H.length+4) 0 0 0,H++[.arr 0 8 false [x.av],.arr 0 3 false [s.av],.arr 0 8 false [hdK x.kind],.arr 0 1 false (List.replicate (outK x.kind) nilA),.arr 0 14 false [rnA x (Sl.av I 1 s.held) s.count s.ended (H.length+3) (outK x.kind) 0]]):=by
 have c1:=e112 x.kind hk
 have h1:=zdU x.kind
 have h2:((outK x.kind:Nat):Int)≤1048576:=by omega
 have h3:outK x.kind≤1048576:=by omega
 have hb:=fun ob=>zvI x s ob (outK x.kind)
 have hc:=fun ob=>zsp (x:=x) (c:=s.count) (e:=s.ended) (ob:=ob) (n:=outK x.kind) (err:=0) (hv:=Sl.av I 1 s.held) rfl
 rw[zj Φ117]
 simp[zqR,c117,c1,h2,h3,hb,hc, -zbx]
theorem zrJ (x:Sg) (s:Ss) (hs:SlN s.held) (H:Heap):RnD (H.length+3) (H++[.arr 0 8 false [x.av],.arr 0 3 false [s.av],.arr 0 8 false [hdK x.kind],.arr 0 1 false (List.replicate (outK x.kind) nilA),.arr 0 14 false [rnA x (Sl.av I 1 s.held) s.count s.ended (H.length+3) (outK x.kind) 0]])
  (H.length+4) (H.length+3) x s.pl 0 (List.replicate (outK x.kind) []) (Sl.av I 1 s.held) none (List.replicate (outK x.kind) nilA) (fun _=>none):=by
 refine⟨by simp[Ss.pl],by simp,by omega,⟨s.held,rfl,rfl,hs⟩,by simp,by simp,by simp,fun i l hi=>?_,by simp,by simp,by simp,by simp,by omega,by omega,by simp,by simp⟩
 have hlt:=(gEs.1 hi).1
 simp only[List.length_replicate]at hlt
 rw[List.getElem?_replicate,if_pos hlt]at hi
 cases hi
 exact⟨nilA,by rw[List.getElem?_replicate,if_pos hlt],rfl,rfl⟩
theorem zqb {H:Heap} {ho:Option Nat} {hv:AV} {l:List Int} (h:zai H ho hv l) (n:Nat):∃y:Sl Int,frz H (n+1) hv=some (Sl.av I 1 y)∧y.l=l∧SlN y:=by
 cases ho with
 |none=>obtain⟨y,rfl,h1,h2⟩:=h;exact⟨y,rfl,h1,h2⟩
 |some id=>obtain⟨ver,rfl,h1,h2,h3⟩:=h;exact⟨ofL 1 l,zdt h1 rfl,rfl,zat h3⟩
theorem zig {H:Heap} {n:Nat}:∀{vs:List AV} {outs:List (List Int)} {os:Nat→Option Nat} (hl:vs.length=outs.length) (hg:∀(i:Nat) (l:List Int),outs[i]?=some l→∃v,vs[i]?=some v∧Grow H 1 (os i) v (l.map I)) (hb:∀l∈outs,l.length≤1048576),
  ∃ys:List (Sl Int),frzs (frz H (n+1)) vs=some (ys.map (Sl.av I 1))∧ys.map Sl.l=outs∧(∀y∈ys,SlN y)∧(vs.all (fun e=>e.cells.all AV.still)=true→vs=ys.map (Sl.av I 1))
 | [],[],os,_,_,_=>⟨[],rfl,rfl,by simp,fun _=>rfl⟩
 | [],a::r,os,h,_,_=>by simp at h
 |v::vs,[],os,h,_,_=>by simp at h
 |v::vs,l::outs,os,hl,hg,hb=>by
  obtain⟨w,h1,h2⟩:=hg 0 l rfl
  simp at h1;subst h1
  obtain⟨ys,e1,e2,e3,e4⟩:=zig (H:=H) (n:=n) (vs:=vs) (outs:=outs) (os:=fun i=>os (i+1)) (by simpa using hl) (fun i m hi=>hg (i+1) m (by simpa using hi)) (fun m hm=>hb m (by simp[hm]))
  have hf:=h2.frz (n:=n) (zba (by simp) l)
  cases ho:os 0 with
  |none=>
   rw[ho]at hf h2
   obtain⟨rfl,hl0⟩:=h2
   have hl0:l=[]:=by simpa using hl0
   subst hl0
   refine⟨zaM::ys,?_,by simp[e2],?_,fun hh=>?_⟩
   .simp only[frzs,hf,e1,if_true];rfl
   .intro y hy;rcases lMc.1 hy with rfl|hy;exact zE;exact e3 y hy
   .simp only[List.all_cons,bAt]at hh
    rw[e4 hh.2];rfl
  |some id=>
   rw[ho,if_neg (by simp)]at hf
   rw[zcc]at hf
   refine⟨ofL 1 l::ys,?_,by simp[e2,ofL],?_,fun hh=>?_⟩
   .simp only[frzs,hf,e1];rfl
   .intro y hy;rcases lMc.1 hy with rfl|hy;exact zat (hb l (by simp));exact e3 y hy
   .exfalso
    rw[ho]at h2
    obtain⟨ver,t,rfl,_⟩:=h2
    simp[AV.cells,AV.still]at hh
theorem zqa {b:Nat} {H:Heap} {r ob:Nat} {x:Sg} {t:SS} {err:Int} {outs:List (List Int)} {hv:AV} {ho:Option Nat} {vs:List AV} {os:Nat→Option Nat} (h:RnD b H r ob x t err outs hv ho vs os) (hb:∀l∈outs,l.length≤1048576) (hn:outs.length≤1048576) (n:Nat):
  ∃o:Sl (Sl Int),frz H (n+2) (.osl ob 0 0 outs.length)=some (Sl.av (Sl.av I 1) 1 o)∧o.l.map Sl.l=outs∧SlN o∧∀y∈o.l,SlN y:=by
 obtain⟨ys,e1,e2,e3,e4⟩:=zig (H:=H) (n:=n) h.len h.gr hb
 have hyl:ys.length=outs.length:=by rw[←e2];simp
 refine⟨ofL 1 ys,?_,e2,zat (by omega),e3⟩
 have et:(vs.drop 0).take outs.length=vs:=by rw[List.drop_zero,←h.len,List.take_length]
 have e0:frz H (n+2) (.osl ob 0 0 outs.length)=(match H[ob]? with
   |some (.arr v sz _ es)=>if v=0∧0+outs.length≤es.length then (if ((es.drop 0).take outs.length).all (fun e=>e.cells.all AV.still) then some (.isl (some false) sz ((es.drop 0).take outs.length)) else (frzs (frz H (n+1)) ((es.drop 0).take outs.length)).map (.isl (some false) sz)) else none
   |_=>none):=rfl
 rw[e0,h.obk]
 show (if 0=0∧0+outs.length≤vs.length then (if ((vs.drop 0).take outs.length).all (fun e=>e.cells.all AV.still) then some (AV.isl (some false) 1 ((vs.drop 0).take outs.length)) else (frzs (frz H (n+1)) ((vs.drop 0).take outs.length)).map (AV.isl (some false) 1)) else none)=_
 rw[if_pos ⟨rfl,by rw[h.len];omega⟩,et]
 by_cases ha:vs.all (fun e=>e.cells.all AV.still)=true
 .rw[if_pos ha,e4 ha,zcc]
 .rw[if_neg ha,e1,oMs,zcc]
def zSs:Ss:=⟨zaM,0,false⟩
theorem zb8:(.agg [.isl (some true) 0 [],I 0,.bool false]:AV)=zSs.av:=rfl
def MvV (m:SS×List (List Int)×Int) (t:Ss) (o:Sl (Sl Int)):Prop:=t.pl=m.1∧SlN t.held∧o.l.map Sl.l=m.2.1∧SlN o∧∀y∈o.l,SlN y
theorem zki (e:Int):MvV (ssZ,[],e) zSs zaM:=⟨rfl,zE,rfl,zE,by simp⟩
@[simp] theorem hd_ld6 (k:Int):zg false 1 ((hdK k).cells.drop 6)=tkK k:=rfl
@[simp] theorem hd_ld7 (k:Int):zg false 1 ((hdK k).cells.drop 7)=edK k:=rfl
@[simp] theorem tk_ok (k:Int):okO (tkK k)=some (tkK k):=by
 obtain⟨f,b,h,h2⟩:=zjX k
 rw[h]
 rcases h2 with rfl|rfl<;>rfl
@[simp] theorem ed_ok (k:Int):okO (edK k)=some (edK k):=by
 obtain⟨f,h⟩:=zkR k
 rw[h];rfl
theorem ziY:∀(n:Nat) (o:List (List Int)),o.length=n→zipA (List.replicate n []) o=o
 |0,[],_=>rfl
 |0,a::r,h=>by simp at h
 |n+1,[],h=>by simp at h
 |n+1,a::r,h=>by
  have:=ziY n r (by simpa using h)
  simp only[List.replicate_succ,List.zipWith_cons_cons,List.nil_append]
  show a::zipA (List.replicate n []) r=_
  rw[this]
theorem zdo {n:Nat}:∀l∈List.replicate n ([]:List Int),l.length≤1000000:=by
 intro l hl
 rw[(List.mem_replicate.1 hl).2];simp
theorem zpz (x:Sg) (hg:sgI x=0) (t:SS) (i n:Int):∀o∈(zr x t i n).2.1,o.length≤1048576:=by
 intro o ho
 have:=zlp x t i n o ho
 have hs:=zbq hg
 split at this
 .rename_i k5
  have hM:zL x.kind=100:=by simp[zL,k5]
  omega
 .omega
theorem RnD.low {b:Nat} {H:Heap} {r ob:Nat} {x:Sg} {t:SS} {err:Int} {outs:List (List Int)} {hv:AV} {ho:Option Nat} {vs:List AV} {os:Nat→Option Nat} (h:RnD b H r ob x t err outs hv ho vs os) {j:Nat} (hj:j<b) (B:Blk):RnD b (H.set j B) r ob x t err outs hv ho vs os:=by
 have hk:Kept (some j) H (H.set j B):=Kept.set _ _ _
 have h1:=h.br;have h2:=h.bo
 refine⟨hk.get (by simp;omega) h.rb,hk.get (by simp;omega) h.obk,h.ne,h.hl.kept hk (fun id e e'=>by cases e;have:=h.bh _ e';omega),h.h1,h.h2,h.len,fun i m hi=>?_,h.o1,h.o2,h.o3,fun i id hi=>by have:=h.o4 i id hi;simpa using this,h.br,h.bo,h.bh,h.bs⟩
 obtain⟨v,g1,g2⟩:=h.gr i m hi
 exact⟨v,g1,g2.kept hk (fun id e e'=>by cases e;have:=h.bs i _ e';omega)⟩
abbrev ssB3 (hv:AV) (t:SS):Blk:= .arr 0 3 false [.agg [hv,I t.count,.bool t.ended]]
theorem zci (hv:AV) (c:Int) (e:Bool):zd [zSs.av] 0 0 (.agg [hv,I c,.bool e])=some [.agg [hv,I c,.bool e]]:=rfl
theorem zmC {b:Nat} {H:Heap} {r ob:Nat} {x:Sg} {t:SS} {err:Int} {outs:List (List Int)} {j:Nat} (hj:j<b) (h:RnS b H r ob x t err outs) (hb:∀l∈outs,l.length≤1048576) (hn:outs.length≤2):∃(hv:AV) (t':Ss) (o:Sl (Sl Int)),
  H[r]?=some (.arr 0 14 false [rnA x hv t.count t.ended ob outs.length err])∧okO hv=some hv∧hv.cells=[hv]∧hv.cell=true∧frz (H.set j (ssB3 hv t)) 6 hv=some (Sl.av I 1 t'.held)∧frz (H.set j (ssB3 hv t)) 7 (.osl ob 0 0 outs.length)=some (Sl.av (Sl.av I 1) 1 o)∧t.count=t'.count∧t.ended=t'.ended∧t'.pl=t∧SlN t'.held∧o.l.map Sl.l=outs∧SlN o∧(∀y∈o.l,SlN y):=by
 obtain⟨hv,ho,vs,os,hD⟩:=h
 have hD2:=hD.low hj (ssB3 hv t)
 obtain⟨y,y1,y2,y3⟩:=zqb hD2.hl 5
 obtain⟨o,o1,o2,o3,o4⟩:=zqa hD2 hb (by omega) 5
 exact⟨hv,⟨y,t.count,t.ended⟩,o,hD.rb,hD.hl.okO,hD.hl.cells,hD.hl.cell,y1,o1,rfl,rfl,by simp[Ss.pl,y2],y3,o2,o3,o4⟩
theorem zkk (x:Sg) (t:SS) (i n:Int) (h:(zr x t i n).2.2≠0):(zr x t i n).1=ssZ∧(zr x t i n).2.1=[]:=by
 by_cases k1:x.kind=1
 .simp[zr,k1]at h
 by_cases k2:x.kind=2
 .by_cases h1:(evX x n 0).2=0<;>simp[zr,k2,h1]at h⊢
 by_cases k3:x.kind=3
 .by_cases h1:(evX x n 0).2=0<;>simp[zr,k3,h1]at h⊢
 by_cases k4:x.kind=4
 .by_cases h1:(t.held.length:Int)+1<x.size
  .simp[zr,k4,h1]at h
  .by_cases h2:(sumB (t.held++[n]) 0).2=0<;>simp[zr,k4,h1,h2]at h⊢
 by_cases k5:x.kind=5
 .simp[zr,k5]at h
 by_cases k6:x.kind=6
 .by_cases h1:t.count<x.size<;>simp[zr,k6,h1]at h
 by_cases k7:x.kind=7
 .by_cases h1:(evX x n 0).2=0<;>simp[zr,k7,h1]at h⊢
 by_cases k8:x.kind=8
 .simp[zr,k8]at h
 by_cases k9:x.kind=9
 .by_cases h1:i=0
  .by_cases h2:2≤t.count<;>simp[zr,k9,h1,h2]at h
  .cases hh:t.held with
   |nil=>simp[zr,k9,h1,hh]at h
   |cons a r=>by_cases h2:(evX x a n).2=0<;>simp[zr,k9,h1,hh,h2]at h⊢
 .simp[zr,k1,k2,k3,k4,k5,k6,k7,k8,k9]at h
theorem zmo {x:Sg} {t:SS} {i n:Int} (h:zbW x t i n=0) (k1:x.kind=1):n=0:=by
 unfold zbW at h
 split at h
 .rename_i h1;exact absurd h h1
 .split at h
  .cases h
  .split at h
   .cases h
   .rename_i h3
    exact cBc fun hn=>h3 (.inr ⟨k1,hn⟩)
theorem zhY (x:Sg) (t:SS):(zet x t).length≤1:=by unfold zet;split<;>simp
theorem e135 (x:Sg) (hx:x.items.l.length≤1048576) (s:Ss) (hs:SlN s.held) (i n:Int):
  ∃(t:Ss) (o:Sl (Sl Int)),W.pure 135 [x.av,s.av,I i,I n]=some (.tuple [t.av,Sl.av (Sl.av I 1) 1 o,I (zcU x s.pl i n).2.2])∧MvV (zcU x s.pl i n) t o:=by
 obtain⟨y,c1,c2,c3⟩:=e95 x hx s hs
 have cz:=zb8
 by_cases hE:zbW x s.pl i n=0
 rotate_left
 .have hT:zcU x s.pl i n=(ssZ,[],zbW x s.pl i n):=by unfold zcU;rw[if_pos hE]
  rw[hT]
  refine⟨zSs,zaM,?_,zki _⟩
  rw[ze Φ135 (by simp)]
  unfold zbW at hE⊢
  by_cases hN:zan x s.pl=0
  rotate_left
  .rw[if_pos hN]
   simp[zcX,c135,c1,hN]
   exact⟨rfl,rfl⟩
  rw[if_neg (by simp[hN])]at hE⊢
  rw[hN]at c1 c2
  rw[if_pos rfl]at c2
  have c4:=zt2 y (by rw[c2];have:=zhY x s.pl;omega) i
  rw[c2]at c4
  have c5:=e116 n
  have hp1:s.pl.ended=s.ended:=rfl
  have hp2:s.pl.count=s.count:=rfl
  simp only[hp1,hp2]at hE⊢
  cases he:s.ended with
  |true=>rw[if_pos (.inl rfl)];simp[zcX,c135,c1,he];exact⟨rfl,rfl⟩
  |false=>
  by_cases k1:x.kind=1
  .have hw:(-(1:Int))= -1:=rfl
   by_cases hi:i= -1
   .by_cases hc:s.count=x.items.l.length
    .rw[if_pos (.inr (.inl ⟨k1,.inr hc⟩))];simp[zcX,c135,c1,he,k1,hi,eq_true hc];exact⟨rfl,rfl⟩
    .rw[if_neg (by rintro (h|⟨_,h|h⟩|⟨h,_⟩);exact absurd h (by simp[he]);exact h hi;exact hc h;exact h k1)]at hE⊢
     cases hn:isIt n with
     |false=>rw[if_pos (.inl rfl)];rw[hn]at c5;simp[zcX,c135,c1,he,k1,hi,hc,c5];exact⟨rfl,rfl⟩
     |true=>
      rw[hn]at c5 hE
      have hn0:n≠0:=fun h0=>hE (by rw[if_neg];rintro (h|⟨_,h⟩);cases h;exact h h0)
      rw[if_pos (.inr ⟨k1,hn0⟩)];simp[zcX,c135,c1,he,k1,hi,hc,c5,hn0];exact⟨rfl,rfl⟩
   .rw[if_pos (.inr (.inl ⟨k1,.inl hi⟩))];simp[zcX,c135,c1,he,k1,hi];exact⟨rfl,rfl⟩
  .have hL:zet x s.pl=[za8 x s.pl]:=by unfold zet;rw[if_neg];rintro (h|h);rw[hp1,he]at h;cases h;exact k1 h
   rw[hL]at c4
   by_cases hi:za8 x s.pl=i
   .rw[if_neg (by rintro (h|⟨h,_⟩|⟨_,h⟩);exact absurd h (by simp[he]);exact k1 h;exact h hi)]at hE⊢
    have c4':W.pure 171 [Sl.av I 1 y,I i]=some (.bool true):=by rw[c4];simp[hi]
    cases hn:isIt n with
    |false=>rw[if_pos (.inl rfl)];rw[hn]at c5;simp[zcX,c135,c1,he,k1,c4',c5];exact⟨rfl,rfl⟩
    |true=>
     exfalso
     rw[hn]at hE
     exact hE (by rw[if_neg];rintro (h|⟨h,_⟩);cases h;exact k1 h)
   .rw[if_pos (.inr (.inr ⟨k1,hi⟩))]
    have c4':W.pure 171 [Sl.av I 1 y,I i]=some (.bool false):=by rw[c4];simp;exact fun h=>hi h.symm
    simp[zcX,c135,c1,he,k1,c4'];exact⟨rfl,rfl⟩
 .obtain⟨g1,g2,g3,g4,g5,g6⟩:=zgu hE
  have hT:zcU x s.pl i n=zr x s.pl i n:=by unfold zcU;rw[if_neg (by simp[hE])]
  rw[hT]
  have hN:zan x s.pl=0:=zx.2 ⟨g1,g2⟩
  rw[hN]at c1 c2
  rw[if_pos rfl]at c2
  have hk:=zdO g1
  have c4:=e116 n
  rw[g4]at c4
  have c5:=e112 x.kind hk
  have c6:=zok x hk s [.arr 0 8 false [x.av],.arr 0 3 false [s.av],.arr 0 3 false [zSs.av],.arr 0 8 false [hdK x.kind]]
  have hD:=zrJ x s hs [.arr 0 8 false [x.av],.arr 0 3 false [s.av],.arr 0 3 false [zSs.av],.arr 0 8 false [hdK x.kind]]
  obtain⟨v,H',d1,d2,t',outs',d3,d4,d5⟩:=zu.1 (zo4 hD (by simp) zdo hE)
  simp only[lLc,List.length_nil,List.length_replicate,Nat.zero_add,Nat.reduceAdd]at d1 d2 d3 d4 d5 c6
  have hD2:=d2.2 2 (by omega)
  have hnE:s.ended=false:=g3
  have key:∀{Q:Prop},(∀(hh:H'[2]?=some (.arr 0 3 false [zSs.av])),Q)→Q:=fun h=>h (by rw[hD2];rfl)
  refine key fun hH2=>?_
  have run:∀(A:Option AV),((zaN W zcX [x.av,s.av,I i,I n] []).bind fun p=>frz p.2 8 p.1)=A→W.pure 135 [x.av,s.av,I i,I n]=A:=fun A h=>by rw[ze Φ135 (by simp)];exact h
  have c8:x.kind≠1→W.pure 171 [Sl.av I 1 y,I i]=some (.bool true):=fun k1=>by
   have hL:zet x s.pl=[za8 x s.pl]:=by unfold zet;rw[if_neg];rintro (h|h);rw[g3]at h;cases h;exact k1 h
   have c7:=zt2 y (by rw[c2];have:=zhY x s.pl;omega) i
   rw[c2,hL,g6 k1]at c7
   rw[c7];simp
  simp[zb8,hnE]at c6 d1
  by_cases hz:(zr x s.pl i n).2.2=0
  .obtain⟨rfl,rfl⟩:=d5 hz
   have hml:=zdW hE hz
   rw[ziY _ _ hml.1.len]at d3
   obtain⟨hv,t',o,p1,p2,p3,p4,p5,p6,p7,p8,p9,p10,p11,p12,p13⟩:=zmC (j:=2) (by omega) d3 (zpz x g1 _ _ _) (by rw[hml.1.len];exact zdU _)
   rw[hz]at p1⊢
   have hl2:2<H'.length:=(gEs.1 hH2).1
   have hs2:∀B,(H'.set 2 B)[2]?=some B:=fun B=>gEt hl2
   have ap:apart (.optr 2 0 0 0) (.optr 8 0 0 11)=true:=rfl
   refine⟨t',o,run _ ?_,p9,p10,p11,p12,p13⟩
   by_cases k1:x.kind=1
   .have hi:=(g5 k1).1
    have hn0:=zmo hE k1
    have hc:¬s.count=x.items.l.length:=(g5 k1).2
    simp[zcX,c135,c1,hnE,eq_true k1,hc,eq_true hi,eq_true hn0,c4,c5,c6,d1,p1,p2,p3,p4,hH2,hs2,ap,zci,zb8,gEz, -getElem?_pos]
    rw[p5,p6,p7,p8];rfl
   .simp[zcX,c135,c1,hnE,k1,c8 k1,c4,c5,c6,d1,p1,p2,p3,p4,hH2,hs2,ap,zci,zb8,gEz, -getElem?_pos]
    rw[p5,p6,p7,p8];rfl
  .have hm:zr x s.pl i n=(ssZ,[],(zr x s.pl i n).2.2):=by
    have:=zkk x s.pl i n hz
    exact Prod.ext this.1 (Prod.ext this.2 rfl)
   obtain⟨hv,ho,vs,os,hD'⟩:=d3
   have p1:=hD'.rb
   generalize (zr x s.pl i n).2.2=E at *
   rw[hm]
   have hl2:2<H'.length:=(gEs.1 hH2).1
   have hs2:∀B,(H'.set 2 B)[2]?=some B:=fun B=>gEt hl2
   have ap:apart (.optr 2 0 0 0) (.optr 8 0 0 12)=true:=rfl
   refine⟨zSs,zaM,run _ ?_,zki _⟩
   by_cases k1:x.kind=1
   .have hi:=(g5 k1).1
    have hn0:=zmo hE k1
    have hc:¬s.count=x.items.l.length:=(g5 k1).2
    simp[zcX,c135,c1,hnE,eq_true k1,hc,eq_true hi,eq_true hn0,c4,c5,c6,d1,p1,hz,hH2,hs2,ap,zci,zb8,gEz, -getElem?_pos]
    rfl
   .simp[zcX,c135,c1,hnE,k1,c8 k1,c4,c5,c6,d1,p1,hz,hH2,hs2,ap,zci,zb8,gEz, -getElem?_pos]
    rfl
theorem ztX (x:Sg) (t:SS) (i:Int) (h:(endK x t i).2.2≠0):(endK x t i).1=ssZ∧(endK x t i).2.1=[]:=by
 by_cases k4:x.kind=4
 .by_cases h1:t.held=[]
  .simp[endK,k4,h1]at h
  .by_cases h2:(sumB t.held 0).2=0<;>simp[endK,k4,h1,h2]at h⊢
 by_cases k8:x.kind=8
 .by_cases h1:t.held=[]<;>simp[endK,k8,h1]at h
 by_cases k9:x.kind=9
 .simp[endK,k9]at h
 .simp[endK,k4,k8,k9]at h
theorem ztW (x:Sg) (t:SS) (i:Int):∀o∈(endK x t i).2.1,o.length≤1048576:=by
 intro o ho
 have:=zob x t i o ho
 omega
theorem zrV (k:Int):inK k≤2:=by unfold inK;split;omega;split<;>omega
theorem zvB (x:Sg) (s:Ss) (hs:SlN s.held) (hb:ssB x s.pl=true) (i:Int) (hi:0≤i∧i<inK x.kind) (hg:sgI x=0):W.pure 144 [x.av,s.av,I i]=some (.bool (za2 x s.pl i)):=by
 obtain⟨f1,f2,f3,f4⟩:=zQ hb
 have h3:(s.held.l.length:Int)≤zX x:=f3
 have hsz:=zbq hg
 refine e144 x s hs ?_ i (fun k9=>?_)
 .have hM:zX x≤100:=by
   unfold zX
   split
   .omega
   .split
    .omega
    .split
     .rename_i k4
      have hL:zL x.kind=100:=by simp[zL,k4]
      omega
     .omega
  omega
 .have hC:zN x=3:=by simp[zN,k9]
  have hin:inK x.kind=2:=by simp[inK,k9]
  have g1:0≤s.count:=f1
  have g2:s.count≤zN x:=f2
  exact⟨by omega,g1,by omega⟩
theorem e134 (x:Sg) (hx:x.items.l.length≤1048576) (s:Ss) (hs:SlN s.held) (i:Int):
  ∃(t:Ss) (o:Sl (Sl Int)),W.pure 134 [x.av,s.av,I i]=some (.tuple [t.av,Sl.av (Sl.av I 1) 1 o,.bool t.ended,I (endS x s.pl i).2.2])∧MvV (endS x s.pl i) t o:=by
 obtain⟨y,c1,c2,c3⟩:=e95 x hx s hs
 have cz:=zb8
 have run:∀(A:Option AV),((zaN W zdd [x.av,s.av,I i] []).bind fun p=>frz p.2 8 p.1)=A→W.pure 134 [x.av,s.av,I i]=A:=fun A h=>by rw[ze Φ134 (by simp)];exact h
 by_cases hE:endE x s.pl i=0
 rotate_left
 .have hT:endS x s.pl i=(ssZ,[],endE x s.pl i):=by unfold endS;rw[if_pos hE]
  rw[hT]
  refine⟨zSs,zaM,run _ ?_,zki _⟩
  unfold endE at hE⊢
  by_cases hN:zan x s.pl=0
  rotate_left
  .rw[if_pos hN]
   simp[zdd,c134,c1,hN]
   exact⟨rfl,rfl,rfl⟩
  rw[if_neg (by simp[hN])]at hE⊢
  rw[hN]at c1 c2
  obtain⟨g1,g2⟩:=zx.1 hN
  have hk:=zdO g1
  have c5:=e112 x.kind hk
  have hp1:s.pl.ended=s.ended:=rfl
  simp only[hp1]at hE⊢
  by_cases k1:x.kind=1
  .rw[k1]at c5
   by_cases hi:i= -1
   .rw[if_neg (by rintro (⟨_,h⟩|⟨h,_⟩);exact h hi;exact h k1)]at hE⊢
    have he:s.ended=true:=by
     cases he:s.ended with
     |true=>rfl
     |false=>exact absurd (by rw[if_neg];rintro (h|⟨h,_⟩);rw[he]at h;cases h;exact h k1) hE
    rw[if_pos (.inl he)]
    simp[zdd,c134,c1,c5,k1,hi,he]
    exact⟨rfl,rfl,rfl⟩
   .rw[if_pos (.inl ⟨k1,hi⟩)]
    simp[zdd,c134,c1,c5,k1,hi]
    exact⟨rfl,rfl,rfl⟩
  .by_cases h0:i<0
   .rw[if_pos (.inr ⟨k1,.inl h0⟩)]
    simp[zdd,c134,c1,c5,k1,h0]
    exact⟨rfl,rfl,rfl⟩
   .by_cases h1:(inK x.kind:Int)≤i
    .rw[if_pos (.inr ⟨k1,.inr h1⟩)]
     simp[zdd,c134,c1,c5,k1,h0,h1]
     exact⟨rfl,rfl,rfl⟩
    .rw[if_neg (by rintro (⟨h,_⟩|⟨_,h|h⟩);exact k1 h;exact h0 h;exact h1 h)]at hE⊢
     have c4:=zvB x s hs g2 i (by omega) g1
     by_cases hh:s.ended=true∨za2 x s.pl i=true
     .rw[if_pos (by rcases hh with h|h;exact .inl h;exact .inr ⟨k1,h⟩)]
      cases he:s.ended with
      |true=>simp[zdd,c134,c1,c5,k1,h0,h1,he];exact⟨rfl,rfl,rfl⟩
      |false=>
       have hq:za2 x s.pl i=true:=by rcases hh with h|h;rw[he]at h;cases h;exact h
       rw[hq]at c4
       simp[zdd,c134,c1,c5,k1,h0,h1,he,c4];exact⟨rfl,rfl,rfl⟩
     .exact absurd (by rw[if_neg];rintro (h|⟨_,h⟩);exact hh (.inl h);exact hh (.inr h)) hE
 .obtain⟨g1,g2,g3,g4,g5⟩:=zhe hE
  have hT:endS x s.pl i=endK x s.pl i:=by unfold endS;rw[if_neg (by simp[hE])]
  rw[hT]
  have hN:zan x s.pl=0:=zx.2 ⟨g1,g2⟩
  rw[hN]at c1 c2
  have hk:=zdO g1
  have c5:=e112 x.kind hk
  have c6:=zok x hk s [.arr 0 8 false [x.av],.arr 0 3 false [s.av],.arr 0 3 false [zSs.av],.arr 0 8 false [hdK x.kind]]
  have hD:=zrJ x s hs [.arr 0 8 false [x.av],.arr 0 3 false [s.av],.arr 0 3 false [zSs.av],.arr 0 8 false [hdK x.kind]]
  obtain⟨v,H',d1,d2,t',outs',d3,d4,d5⟩:=zu.1 (ztY hD (by simp) zdo hE)
  simp only[lLc,List.length_nil,List.length_replicate,Nat.zero_add,Nat.reduceAdd]at d1 d2 d3 d4 d5 c6
  have hD2:=d2.2 2 (by omega)
  have hnE:s.ended=false:=g3
  have hH2:H'[2]?=some (.arr 0 3 false [zSs.av]):=by rw[hD2];rfl
  have c8:x.kind≠1→W.pure 144 [x.av,s.av,I i]=some (.bool false):=fun k1=>by
   obtain⟨i1,i2,i3⟩:=g5 k1
   rw[zvB x s hs g2 i ⟨i1,i2⟩ g1,i3]
  simp[zb8,hnE]at c6 d1
  have hl2:2<H'.length:=(gEs.1 hH2).1
  have hs2:∀B,(H'.set 2 B)[2]?=some B:=fun B=>gEt hl2
  have ap:∀k,apart (.optr 2 0 0 0) (.optr 8 0 0 k)=true:=fun k=>rfl
  by_cases hz:(endK x s.pl i).2.2=0
  .obtain⟨rfl,rfl⟩:=d5 hz
   have hml:=zkP hE hz
   rw[ziY _ _ hml.1.len]at d3
   obtain⟨hv,t',o,p1,p2,p3,p4,p5,p6,p7,p8,p9,p10,p11,p12,p13⟩:=zmC (j:=2) (by omega) d3 (ztW x _ _) (by rw[hml.1.len];exact zdU _)
   rw[hz]at p1⊢
   refine⟨t',o,run _ ?_,p9,p10,p11,p12,p13⟩
   by_cases k1:x.kind=1
   .have hi:=g4 k1
    simp[zdd,c134,c1,hnE,eq_true k1,eq_true hi,c5,c6,d1,p1,p2,p3,p4,hH2,hs2,ap,zci,zb8,gEz, -getElem?_pos]
    rw[p5,p6,p7,p8];rfl
   .obtain⟨i1,i2,i3⟩:=g5 k1
    have h0:¬i<0:=by omega
    have h1:¬(inK x.kind:Int)≤i:=by omega
    simp[zdd,c134,c1,hnE,k1,h0,h1,c8 k1,c5,c6,d1,p1,p2,p3,p4,hH2,hs2,ap,zci,zb8,gEz, -getElem?_pos]
    rw[p5,p6,p7,p8];rfl
  .have hm:endK x s.pl i=(ssZ,[],(endK x s.pl i).2.2):=by
    have:=ztX x s.pl i hz
    exact Prod.ext this.1 (Prod.ext this.2 rfl)
   obtain⟨hv,ho,vs,os,hD'⟩:=d3
   have p1:=hD'.rb
   generalize (endK x s.pl i).2.2=E at *
   rw[hm]
   refine⟨zSs,zaM,run _ ?_,zki _⟩
   by_cases k1:x.kind=1
   .have hi:=g4 k1
    simp[zdd,c134,c1,hnE,eq_true k1,eq_true hi,c5,c6,d1,p1,hz,hH2,hs2,ap,zci,zb8,gEz, -getElem?_pos]
    exact⟨rfl,rfl⟩
   .obtain⟨i1,i2,i3⟩:=g5 k1
    have h0:¬i<0:=by omega
    have h1:¬(inK x.kind:Int)≤i:=by omega
    simp[zdd,c134,c1,hnE,k1,h0,h1,c8 k1,c5,c6,d1,p1,hz,hH2,hs2,ap,zci,zb8,gEz, -getElem?_pos]
    exact⟨rfl,rfl⟩
section
set_option maxRecDepth 10000
end
section
set_option maxRecDepth 10000
end
theorem one1 (n:Int):SlN (ofL 1 [n]):=zat (by simp)
section
set_option maxRecDepth 10000
end
@[simp] theorem apart_oo (i a b c j d e f:Nat):apart (.optr i a b c) (.optr j d e f)=(i !=j):=rfl
structure PlN (x:Pl):Prop where
 st:x.stages.l.length≤1000
 pi:x.pipes.l.length≤1000
 it:∀s∈x.stages.l,s.items.l.length≤1048576
theorem zfg (p:Pi→Bool):∀(l:List Pi) (k:Nat),pidx p l k=match fidx p l with|some j=>((k+j:Nat):Int)|none=> -1
 | [],k=>rfl
 |a::r,k=>by
  simp only[pidx,fidx]
  cases hp:p a with
  |true=>simp
  |false=>
   rw[if_neg Bool.false_ne_true,if_neg Bool.false_ne_true,zfg p r (k+1)]
   cases fidx p r with
   |none=>rfl
   |some j=>simp only[oMs];congr 1;omega
theorem zug (i n:Int) (y:Pi) (H:Heap) (h1:H[1]?=some (.arr 0 1 false [I i])) (h2:H[2]?=some (.arr 0 1 false [I n])):okV (W.call (.clo 121 [] [.optr 1 0 0 0,.optr 2 0 0 0]) [y.av] H) (fun v H'=>v= .bool (decide (y.src=i)&&decide (y.output=n))∧Kept none H H'):=by
 have g1:∀B,(H++[B])[1]?=some (.arr 0 1 false [I i]):=fun B=>zaa h1 B
 have g2:∀B,(H++[B])[2]?=some (.arr 0 1 false [I n]):=fun B=>zaa h2 B
 have g3:∀B,(H++[B])[H.length]?=some B:=fun B=>zD H B
 rw[zj Φ121]
 by_cases h:y.src=i<;>simp[zqQ,c121,g1,g2,g3,h,gEz, -getElem?_pos]<;>exact Kept.append _ _ _
theorem zuh (i n:Int) (y:Pi) (H:Heap) (h1:H[1]?=some (.arr 0 1 false [I i])) (h2:H[2]?=some (.arr 0 1 false [I n])):okV (W.call (.clo 114 [] [.optr 1 0 0 0,.optr 2 0 0 0]) [y.av] H) (fun v H'=>v= .bool (decide (y.dst=i)&&decide (y.input=n))∧Kept none H H'):=by
 have g1:∀B,(H++[B])[1]?=some (.arr 0 1 false [I i]):=fun B=>zaa h1 B
 have g2:∀B,(H++[B])[2]?=some (.arr 0 1 false [I n]):=fun B=>zaa h2 B
 have g3:∀B,(H++[B])[H.length]?=some B:=fun B=>zD H B
 rw[zj Φ114]
 by_cases h:y.dst=i<;>simp[zqS,c114,g1,g2,g3,h,gEz, -getElem?_pos]<;>exact Kept.append _ _ _
theorem e71 (x:Pl) (hx:x.pipes.l.length≤1000) (i n:Int):W.pure 71 [x.av,I i,I n]=some (I (pOut x i n)):=by
 obtain⟨v,H',d1,rfl,d2⟩:=zu.1 (zrW x.pipes (by omega) (.clo 121 [] [.optr 1 0 0 0,.optr 2 0 0 0]) rfl (fun y=>decide (y.src=i)&&decide (y.output=n)) [.arr 0 2 false [x.av],.arr 0 1 false [I i],.arr 0 1 false [I n]]
  (fun y _ H hk=>zug i n y H (hk.get (by simp) rfl) (hk.get (by simp) rfl)))
 have hp:=zfg (fun y=>decide (y.src=i)&&decide (y.output=n)) x.pipes.l 0
 rw[ze Φ71 (by simp)]
 simp[fi71,c71,zj Φ113,znX,c113,d1]
 unfold pOut
 rw[hp]
 cases fidx (fun y=>decide (y.src=i)&&decide (y.output=n)) x.pipes.l<;>simp
theorem e69 (x:Pl) (hx:x.pipes.l.length≤1000) (i n:Int):W.pure 69 [x.av,I i,I n]=some (I (pIn x i n)):=by
 obtain⟨v,H',d1,rfl,d2⟩:=zu.1 (zrW x.pipes (by omega) (.clo 114 [] [.optr 1 0 0 0,.optr 2 0 0 0]) rfl (fun y=>decide (y.dst=i)&&decide (y.input=n)) [.arr 0 2 false [x.av],.arr 0 1 false [I i],.arr 0 1 false [I n]]
  (fun y _ H hk=>zuh i n y H (hk.get (by simp) rfl) (hk.get (by simp) rfl)))
 have hp:=zfg (fun y=>decide (y.dst=i)&&decide (y.input=n)) x.pipes.l 0
 rw[ze Φ69 (by simp)]
 simp[fi69,c69,zj Φ113,znX,c113,d1]
 unfold pIn
 rw[hp]
 cases fidx (fun y=>decide (y.dst=i)&&decide (y.input=n)) x.pipes.l<;>simp
theorem zu9 (x:Pl) (hx:x.pipes.l.length≤1000) (i n:Int):∀(r:List Pi) (k:Nat),x.pipes.l.drop k=r→k≤x.pipes.l.length→okC (W.loop [1,2,3,7] zs8 [(1,I i),(2,I n),(3,.optr 0 0 0 0),(7,I k)] [.arr 0 2 false [x.av]])
  (fun q F H=>if pidx (fun y=>decide (y.src=i)&&decide (y.output=n)) r k= -1 then q= .exit 0 else q= .ret∧F.get 6=I (pidx (fun y=>decide (y.src=i)&&decide (y.output=n)) r k)):=by
 intro r
 induction r with
 |nil=>
  intro k h1 h2
  have hk:=zf h1 h2
  rw[zb]
  simp[zg0,zlZ,hk,pidx]
 |cons a r ih=>
  intro k h1 h2
  obtain⟨hlt,ha,hr⟩:=zn h1
  have hlt':(k:Int)<x.pipes.l.length:=by omega
  have hak:x.pipes.l[k]=a:=(gEs.1 ha).2
  have hw:=zh (k:=k) (by omega)
  have g:=ih (k+1) hr (by omega)
  simp only[iNa,iCo]at g
  rw[zb]
  unfold pidx
  by_cases h1:a.src=i
  .by_cases h2:a.output=n
   .have:¬((k:Int)= -1):=by omega
    simp[zg0,zlZ,hlt,hak,h1,h2,this]
   .simp[zg0,zlZ,hlt,hak,h1,h2,hw]
    simpa[h1,h2]using g
  .simp[zg0,zlZ,hlt,hak,h1,hw]
   simpa[h1]using g
theorem e50 (x:Pl) (hx:x.pipes.l.length≤1000) (i n:Int):W.pure 50 [x.av,I i,I n]=some (I (pOut x i n)):=by
 obtain⟨q,F,H,d1,d2⟩:=zc.1 (zu9 x hx i n x.pipes.l 0 rfl (by omega))
 rw[ze Φ50 (by simp)]
 simp at d1
 unfold pOut
 by_cases h:pidx (fun y=>decide (y.src=i)&&decide (y.output=n)) x.pipes.l 0= -1
 .rw[if_pos h]at d2
  subst d2
  rw[h]
  simp[fi50,c50,d1]
 .rw[if_neg h]at d2
  obtain⟨rfl,d3⟩:=d2
  simp[fi50,c50,d1,d3]
theorem zu6 (x:Pl) (hx:x.pipes.l.length≤1000) (i n:Int):∀(r:List Pi) (k:Nat),x.pipes.l.drop k=r→k≤x.pipes.l.length→okC (W.loop [1,2,3,7] zs3 [(1,I i),(2,I n),(3,.optr 0 0 0 0),(7,I k)] [.arr 0 2 false [x.av]])
  (fun q F H=>if pidx (fun y=>decide (y.dst=i)&&decide (y.input=n)) r k= -1 then q= .exit 0 else q= .ret∧F.get 6=I (pidx (fun y=>decide (y.dst=i)&&decide (y.input=n)) r k)):=by
 intro r
 induction r with
 |nil=>
  intro k h1 h2
  have hk:=zf h1 h2
  rw[zb]
  simp[zgW,zlV,hk,pidx]
 |cons a r ih=>
  intro k h1 h2
  obtain⟨hlt,ha,hr⟩:=zn h1
  have hlt':(k:Int)<x.pipes.l.length:=by omega
  have hak:x.pipes.l[k]=a:=(gEs.1 ha).2
  have hw:=zh (k:=k) (by omega)
  have g:=ih (k+1) hr (by omega)
  simp only[iNa,iCo]at g
  rw[zb]
  unfold pidx
  by_cases h1:a.dst=i
  .by_cases h2:a.input=n
   .have:¬((k:Int)= -1):=by omega
    simp[zgW,zlV,hlt,hak,h1,h2,this]
   .simp[zgW,zlV,hlt,hak,h1,h2,hw]
    simpa[h1,h2]using g
  .simp[zgW,zlV,hlt,hak,h1,hw]
   simpa[h1]using g
theorem e65 (x:Pl) (hx:x.pipes.l.length≤1000) (i n:Int):W.pure 65 [x.av,I i,I n]=some (I (pIn x i n)):=by
 obtain⟨q,F,H,d1,d2⟩:=zc.1 (zu6 x hx i n x.pipes.l 0 rfl (by omega))
 rw[ze Φ65 (by simp)]
 simp at d1
 unfold pIn
 by_cases h:pidx (fun y=>decide (y.dst=i)&&decide (y.input=n)) x.pipes.l 0= -1
 .rw[if_pos h]at d2
  subst d2
  rw[h]
  simp[fi65,c65,d1]
 .rw[if_neg h]at d2
  obtain⟨rfl,d3⟩:=d2
  simp[fi65,c65,d1,d3]
theorem e39 (a l h:Int):W.pure 39 [I a,I l,I h]=some (.bool (decide (l≤a)&&decide (a≤h))):=by
 rw[ze Φ39 rfl]
 by_cases h1:l≤a<;>simp[fi39,c39,h1]
theorem e39t {a l h:Int} (h1:l≤a) (h2:a≤h):W.pure 39 [I a,I l,I h]=some (.bool true):=by rw[e39];simp[h1,h2]
theorem e39f {a l h:Int} (h1:a<l∨h<a):W.pure 39 [I a,I l,I h]=some (.bool false):=by
 rw[e39]
 rcases h1 with h1|h1
 .simp;omega
 .simp;omega
theorem zco {x:Pl} {i:Int} (h0:0≤i) (h1:i<x.stages.l.length):x.stages.l[i.toNat]?=some (sgAt x i):=by
 unfold sgAt
 rw[gEd,gEg (by omega)];rfl
theorem e74 (x:Pl) (hx:PlN x) (k:Nat) (y:Pi) (hy:x.pipes.l[k]?=some y):W.pure 74 [x.av,I k]=some (I (piI x k y)):=by
 have hk:=(gEs.1 hy).1
 have hky:x.pipes.l[k]=y:=(gEs.1 hy).2
 have hst:=hx.st
 have w1:IntKind.wrap .i64 ((x.stages.l.length:Int) - 1)=(x.stages.l.length:Int) - 1:=zz (by omega) (by omega)
 have run:∀(A:Option AV),((zaN W fi74 [x.av,I k] []).bind fun p=>frz p.2 8 p.1)=A→W.pure 74 [x.av,I k]=A:=fun A h=>by rw[ze Φ74 (by simp)];exact h
 unfold piI
 by_cases a1:y.src<0∨(x.stages.l.length:Int)≤y.src
 .rw[if_pos (by omega)]
  have c1:=e39f (a:=y.src) (l:=0) (h:=(x.stages.l.length:Int) - 1) (by omega)
  refine run _ ?_
  simp[fi74,c74,hk,hky,w1,c1]
 have c1:=e39t (a:=y.src) (l:=0) (h:=(x.stages.l.length:Int) - 1) (by omega) (by omega)
 by_cases a2:y.dst<0∨(x.stages.l.length:Int)≤y.dst
 .rw[if_pos (by omega)]
  have c2:=e39f (a:=y.dst) (l:=0) (h:=(x.stages.l.length:Int) - 1) (by omega)
  refine run _ ?_
  simp[fi74,c74,hk,hky,w1,c1,c2]
 have c2:=e39t (a:=y.dst) (l:=0) (h:=(x.stages.l.length:Int) - 1) (by omega) (by omega)
 have hs:=zco (x:=x) (i:=y.src) (by omega) (by omega)
 have hd:=zco (x:=x) (i:=y.dst) (by omega) (by omega)
 have s0:0≤y.src:=by omega
 have d0:0≤y.dst:=by omega
 have hsl:y.src.toNat<x.stages.l.length:=by omega
 have hdl:y.dst.toNat<x.stages.l.length:=by omega
 have hsg:x.stages.l[y.src.toNat]=sgAt x y.src:=(gEs.1 hs).2
 have hdg:x.stages.l[y.dst.toNat]=sgAt x y.dst:=(gEs.1 hd).2
 have f1:=e73 (sgAt x y.src) (hx.it _ (lMg hs))
 have f2:=e68 (sgAt x y.dst) (hx.it _ (lMg hd))
 have l1:=zjh (sgAt x y.src)
 have l2:inN (sgAt x y.dst)≤2:=by unfold inN;split;omega;exact zrV _
 have w2:IntKind.wrap .i64 ((outN (sgAt x y.src):Int) - 1)=(outN (sgAt x y.src):Int) - 1:=zz (by omega) (by omega)
 have w3:IntKind.wrap .i64 ((inN (sgAt x y.dst):Int) - 1)=(inN (sgAt x y.dst):Int) - 1:=zz (by omega) (by omega)
 by_cases b1:y.output<0∨(outN (sgAt x y.src):Int)≤y.output
 .have:(if y.src<0∨(x.stages.l.length:Int)≤y.src∨y.dst<0∨(x.stages.l.length:Int)≤y.dst∨y.capacity<1∨100<y.capacity then (2:Int)
   else if y.output<0∨(outN (sgAt x y.src):Int)≤y.output∨y.input<0∨(inN (sgAt x y.dst):Int)≤y.input then 2 else if pOut x y.src y.output<k∨pIn x y.dst y.input<k then 6 else if (sgAt x y.src).kind=5∧y.capacity<(sgAt x y.src).size then 2 else 0)=2:=by
   split
   .rfl
   .rw[if_pos (by omega)]
  rw[this]
  have c3:=e39f (a:=y.output) (l:=0) (h:=(outN (sgAt x y.src):Int) - 1) (by omega)
  refine run _ ?_
  simp[fi74,c74,hk,hky,w1,c1,c2,s0,d0,hsl,hdl,hsg,hdg,f1,f2,w2,w3,c3]
 have c3:=e39t (a:=y.output) (l:=0) (h:=(outN (sgAt x y.src):Int) - 1) (by omega) (by omega)
 by_cases b2:y.input<0∨(inN (sgAt x y.dst):Int)≤y.input
 .have:(if y.src<0∨(x.stages.l.length:Int)≤y.src∨y.dst<0∨(x.stages.l.length:Int)≤y.dst∨y.capacity<1∨100<y.capacity then (2:Int)
   else if y.output<0∨(outN (sgAt x y.src):Int)≤y.output∨y.input<0∨(inN (sgAt x y.dst):Int)≤y.input then 2 else if pOut x y.src y.output<k∨pIn x y.dst y.input<k then 6 else if (sgAt x y.src).kind=5∧y.capacity<(sgAt x y.src).size then 2 else 0)=2:=by
   split
   .rfl
   .rw[if_pos (by omega)]
  rw[this]
  have c4:=e39f (a:=y.input) (l:=0) (h:=(inN (sgAt x y.dst):Int) - 1) (by omega)
  refine run _ ?_
  simp[fi74,c74,hk,hky,w1,c1,c2,s0,d0,hsl,hdl,hsg,hdg,f1,f2,w2,w3,c3,c4]
 have c4:=e39t (a:=y.input) (l:=0) (h:=(inN (sgAt x y.dst):Int) - 1) (by omega) (by omega)
 by_cases b3:y.capacity<1∨100<y.capacity
 .rw[if_pos (by omega)]
  have c5:=e39f (a:=y.capacity) (l:=1) (h:=100) (by omega)
  refine run _ ?_
  simp[fi74,c74,hk,hky,w1,c1,c2,s0,d0,hsl,hdl,hsg,hdg,f1,f2,w2,w3,c3,c4,c5]
 have c5:=e39t (a:=y.capacity) (l:=1) (h:=100) (by omega) (by omega)
 rw[if_neg (by omega),if_neg (by omega)]
 have p1:=e71 x hx.pi y.src y.output
 have p2:=e69 x hx.pi y.dst y.input
 by_cases g1:pOut x y.src y.output<k
 .rw[if_pos (.inl g1)]
  refine run _ ?_
  simp[fi74,c74,hk,hky,w1,c1,c2,s0,d0,hsl,hdl,hsg,hdg,f1,f2,w2,w3,c3,c4,c5,p1,p2,g1]
 by_cases g2:pIn x y.dst y.input<k
 .rw[if_pos (.inr g2)]
  refine run _ ?_
  simp[fi74,c74,hk,hky,w1,c1,c2,s0,d0,hsl,hdl,hsg,hdg,f1,f2,w2,w3,c3,c4,c5,p1,p2,g1,g2]
 rw[if_neg (by omega)]
 refine run _ ?_
 by_cases g3:(sgAt x y.src).kind=5
 .by_cases g4:y.capacity<(sgAt x y.src).size
  .simp[fi74,c74,hk,hky,w1,c1,c2,s0,d0,hsl,hdl,hsg,hdg,f1,f2,w2,w3,c3,c4,c5,p1,p2,g1,g2,g3,g4]
  .simp[fi74,c74,hk,hky,w1,c1,c2,s0,d0,hsl,hdl,hsg,hdg,f1,f2,w2,w3,c3,c4,c5,p1,p2,g1,g2,g3,g4]
 .simp[fi74,c74,hk,hky,w1,c1,c2,s0,d0,hsl,hdl,hsg,hdg,f1,f2,w2,w3,c3,c4,c5,p1,p2,g1,g2,g3]
theorem e62 (x:Pl) (hx:PlN x) (k:Nat) (y:Pi) (hy:x.pipes.l[k]?=some y):W.pure 62 [x.av,I k]=some (I (piI x k y)):=by
 have hk:=(gEs.1 hy).1
 have hky:x.pipes.l[k]=y:=(gEs.1 hy).2
 have hst:=hx.st
 have run:∀(A:Option AV),((zaN W fi62 [x.av,I k] []).bind fun p=>frz p.2 8 p.1)=A→W.pure 62 [x.av,I k]=A:=fun A h=>by rw[ze Φ62 (by simp)];exact h
 unfold piI
 refine run _ ?_
 by_cases a1:y.src<0
 .rw[if_pos (.inl a1)]
  simp[fi62,c62,hk,hky,a1]
 by_cases a2:(x.stages.l.length:Int)≤y.src
 .rw[if_pos (.inr (.inl a2))]
  simp[fi62,c62,hk,hky,a1,a2]
 by_cases a3:y.dst<0
 .rw[if_pos (.inr (.inr (.inl a3)))]
  simp[fi62,c62,hk,hky,a1,a2,a3]
 by_cases a4:(x.stages.l.length:Int)≤y.dst
 .rw[if_pos (.inr (.inr (.inr (.inl a4))))]
  simp[fi62,c62,hk,hky,a1,a2,a3,a4]
 by_cases a5:y.capacity<1
 .rw[if_pos (.inr (.inr (.inr (.inr (.inl a5)))))]
  simp[fi62,c62,hk,hky,a1,a2,a3,a4,a5]
 by_cases a6:100<y.capacity
 .rw[if_pos (.inr (.inr (.inr (.inr (.inr a6)))))]
  simp[fi62,c62,hk,hky,a1,a2,a3,a4,a5,a6]
 rw[if_neg (by omega)]
 have hs:=zco (x:=x) (i:=y.src) (by omega) (by omega)
 have hd:=zco (x:=x) (i:=y.dst) (by omega) (by omega)
 have s0:0≤y.src:=by omega
 have d0:0≤y.dst:=by omega
 have hsl:y.src.toNat<x.stages.l.length:=by omega
 have hdl:y.dst.toNat<x.stages.l.length:=by omega
 have hsg:x.stages.l[y.src.toNat]=sgAt x y.src:=(gEs.1 hs).2
 have hdg:x.stages.l[y.dst.toNat]=sgAt x y.dst:=(gEs.1 hd).2
 have f1:=e63 (sgAt x y.src) (hx.it _ (lMg hs))
 have f2:=e64 (sgAt x y.dst) (hx.it _ (lMg hd))
 by_cases b1:y.output<0
 .rw[if_pos (.inl b1)]
  simp[fi62,c62,hk,hky,a1,a2,a3,a4,a5,a6,b1]
 by_cases b2:(outN (sgAt x y.src):Int)≤y.output
 .rw[if_pos (.inr (.inl b2))]
  simp[fi62,c62,hk,hky,a1,a2,a3,a4,a5,a6,b1,b2,s0,d0,hsl,hdl,hsg,hdg,f1,f2]
 by_cases b3:y.input<0
 .rw[if_pos (.inr (.inr (.inl b3)))]
  simp[fi62,c62,hk,hky,a1,a2,a3,a4,a5,a6,b1,b2,b3,s0,d0,hsl,hdl,hsg,hdg,f1,f2]
 by_cases b4:(inN (sgAt x y.dst):Int)≤y.input
 .rw[if_pos (.inr (.inr (.inr b4)))]
  simp[fi62,c62,hk,hky,a1,a2,a3,a4,a5,a6,b1,b2,b3,b4,s0,d0,hsl,hdl,hsg,hdg,f1,f2]
 rw[if_neg (by omega)]
 have p1:=e50 x hx.pi y.src y.output
 have p2:=e65 x hx.pi y.dst y.input
 by_cases g1:pOut x y.src y.output<k
 .rw[if_pos (.inl g1)]
  simp[fi62,c62,hk,hky,a1,a2,a3,a4,a5,a6,b1,b2,b3,b4,s0,d0,hsl,hdl,hsg,hdg,f1,f2,p1,p2,g1]
 by_cases g2:pIn x y.dst y.input<k
 .rw[if_pos (.inr g2)]
  simp[fi62,c62,hk,hky,a1,a2,a3,a4,a5,a6,b1,b2,b3,b4,s0,d0,hsl,hdl,hsg,hdg,f1,f2,p1,p2,g1,g2]
 rw[if_neg (by omega)]
 by_cases g3:(sgAt x y.src).kind=5
 .by_cases g4:y.capacity<(sgAt x y.src).size
  .simp[fi62,c62,hk,hky,a1,a2,a3,a4,a5,a6,b1,b2,b3,b4,s0,d0,hsl,hdl,hsg,hdg,f1,f2,p1,p2,g1,g2,g3,g4]
  .simp[fi62,c62,hk,hky,a1,a2,a3,a4,a5,a6,b1,b2,b3,b4,s0,d0,hsl,hdl,hsg,hdg,f1,f2,p1,p2,g1,g2,g3,g4]
 .simp[fi62,c62,hk,hky,a1,a2,a3,a4,a5,a6,b1,b2,b3,b4,s0,d0,hsl,hdl,hsg,hdg,f1,f2,p1,p2,g1,g2,g3]
theorem ze1 {l:List Int} {k:Nat} (hk:k<l.length) (a:Int):zd (l.map I) k 0 (I a)=some ((l.set k a).map I):=by
 rw[zea (w:=I l[k]) (by simp[hk]) rfl rfl rfl,List.map_set]
def rplG (a b v:Int):Int:=if v=b then a else v
def mixG (a b:Int) (k:Nat) (g:List Int):List Int:=(g.take k).map (rplG a b)++g.drop k
theorem zgJ (a b:Int) (k:Nat) (g:List Int):(mixG a b k g).length=g.length:=by
 simp[mixG];omega
theorem zgK {a b:Int} {k:Nat} {g:List Int} (hk:k<g.length):(mixG a b k g)[k]?=some g[k]:=by
 unfold mixG
 rw[gEr (by simp;omega)]
 simp[Nat.min_eq_left (Nat.le_of_lt hk)]
theorem zfl {a b:Int} {k:Nat} {g:List Int} (hk:k<g.length):mixG a b (k+1) g=(mixG a b k g).set k (rplG a b g[k]):=by
 apply List.ext_getElem?
 intro i
 unfold mixG
 rw[List.getElem?_set]
 have hl:((g.take k).map (rplG a b)).length=k:=by simp;omega
 have hl':((g.take (k+1)).map (rplG a b)).length=k+1:=by simp;omega
 by_cases h1:i<k
 .rw[if_neg (by omega),gEa (by omega),gEa (by omega)]
  simp[List.getElem?_take,h1,show i<k+1 by omega]
 .by_cases h2:k=i
  .subst h2
   rw[if_pos rfl,if_pos (by simp;omega),gEa (by omega)]
   simp[List.getElem?_take,hk]
  .rw[if_neg h2,gEr (by omega),gEr (by omega),hl,hl']
   simp only[List.getElem?_drop]
   congr 1;omega
theorem zkm {a b:Int} {g:List Int}:mixG a b g.length g=g.map (rplG a b):=by simp[mixG]
theorem zhZ {a b:Int} {g:List Int}:mixG a b 0 g=g:=by simp[mixG]
theorem zh0 {a b:Int} {k:Nat} {g:List Int} (hk:k<g.length) (h:g[k]≠b):mixG a b (k+1) g=mixG a b k g:=by
 rw[zfl hk]
 have:rplG a b g[k]=g[k]:=by simp[rplG,h]
 rw[this]
 apply List.ext_getElem?
 intro i
 rw[List.getElem?_set]
 by_cases h2:k=i
 .subst h2;rw[if_pos rfl,if_pos (by rw[zgJ];exact hk),zgK hk]
 .rw[if_neg h2]
theorem zgO (a b:Int) (g:List Int) (hn:g.length≤1000) (z26 z27 z28:AV) (o1:okO z26=some z26) (o2:okO z27=some z27) (o3:okO z28=some z28):∀(m k:Nat) (H:Heap),k+m=g.length→H[1]?=some (.arr 0 1 false ((mixG a b k g).map I))→
  okC (W.loop [3,7,8,26,27,28,45,46,47] zsZ [(3,.osl 1 0 0 g.length),(7,I a),(8,I b),(26,z26),(27,z27),(28,z28),(45,.osl 1 0 0 g.length),(46,I g.length),(47,I k)] H)
   (fun q F H'=>q= .exit 4∧F.keep [3,26,27,28]=[(3,.osl 1 0 0 g.length),(26,z26),(27,z27),(28,z28)]∧H'[1]?=some (.arr 0 1 false ((g.map (rplG a b)).map I)))
 |0,k,H,hk,hH=>by
  have:k=g.length:=by omega
  subst this
  rw[zkm]at hH
  rw[zb]
  simp[zjx,zot,hH,o1,o2,o3, -getElem?_pos, -List.map_map]
 |m+1,k,H,hk,hH=>by
  have hlt:k<g.length:=by omega
  have hlt':(k:Int)<g.length:=by omega
  have hw:=zh (k:=k) (by omega)
  have hl1:1<H.length:=(gEs.1 hH).1
  have hg:((mixG a b k g).map I)[k]?=some (I g[k]):=by rw[gEm,zgK hlt];rfl
  rw[zb]
  by_cases h:g[k]=b
  .have hse:=ze1 (l:=mixG a b k g) (k:=k) (by rw[zgJ];exact hlt) a
   have hnext:(mixG a b k g).set k a=mixG a b (k+1) g:=by rw[zfl hlt];simp[rplG,h]
   rw[hnext]at hse
   have ih:=zgO a b g hn z26 z27 z28 o1 o2 o3 m (k+1) (H.set 1 (.arr 0 1 false ((mixG a b (k+1) g).map I))) (by omega) (gEt hl1)
   simp only[iNa,iCo]at ih
   simp[zjx,zot,hH,hlt,hlt',hg,h,hse,hw,o1,o2,o3, -getElem?_pos, -List.getElem?_map, -List.map_map]
   simpa using ih
  .have ih:=zgO a b g hn z26 z27 z28 o1 o2 o3 m (k+1) H (by omega) (by rw[zh0 hlt h];exact hH)
   simp only[iNa,iCo]at ih
   simp[zjx,zot,hH,hlt,hlt',hg,h,hw,o1,o2,o3, -getElem?_pos, -List.getElem?_map, -List.map_map]
   simpa using ih
def InR (n:Nat) (l:List Pi):Prop:=∀y∈l,0≤y.src∧y.src<n∧0≤y.dst∧y.dst<n
theorem zga {g:List Int} {y:Pi} (h:g.getD y.src.toNat 0≠g.getD y.dst.toNat 0):zeu g y=some (g.map (rplG (g.getD y.src.toNat 0) (g.getD y.dst.toNat 0))):=by
 unfold zeu
 simp only
 rw[if_neg h]
 rfl
theorem zgb {g:List Int} {y:Pi} (h:g.getD y.src.toNat 0=g.getD y.dst.toNat 0):zeu g y=none:=by
 unfold zeu
 simp only
 rw[if_pos h]
theorem zpD (x:Sl Pi) (hx:x.l.length≤1000) (n:Nat) (hn:n≤1000) (hr:InR n x.l):∀(rest:List Pi) (j:Nat) (g:List Int) (H:Heap),x.l.drop j=rest→j≤x.l.length→g.length=n→H[1]?=some (.arr 0 1 false (g.map I))→
  okC (W.loop [3,26,27,28] zsY [(3,.osl 1 0 0 n),(26,Sl.av Pi.av 5 x),(27,I x.l.length),(28,I j)] H) (fun q F H'=>if (zbI rest g).isNone=true then q= .ret∧F.get 2= .bool true else q= .exit 2):=by
 intro rest
 induction rest with
 |nil=>
  intro j g H h1 h2 hg hH
  have hk:=zf h1 h2
  rw[zb]
  simp[zjw,zos,hk,zbI]
 |cons y rest ih=>
  intro j g H h1 h2 hg hH
  obtain⟨hlt,hy,hrr⟩:=zn h1
  have hlt':(j:Int)<x.l.length:=by omega
  have hyj:x.l[j]=y:=(gEs.1 hy).2
  have hw:=zh (k:=j) (by omega)
  obtain⟨r1,r2,r3,r4⟩:=hr y (lMg hy)
  have hl1:1<H.length:=(gEs.1 hH).1
  have g1:∀B,(H++[B])[1]?=some (.arr 0 1 false (g.map I)):=fun B=>zaa hH B
  have g2:∀B,(H++[B])[H.length]?=some B:=fun B=>zD H B
  have hs:(g.map I)[y.src.toNat]?=some (I (g.getD y.src.toNat 0)):=by
   have:y.src.toNat<g.length:=by omega
   simp[gEd,this]
  have hd:(g.map I)[y.dst.toNat]?=some (I (g.getD y.dst.toNat 0)):=by
   have:y.dst.toNat<g.length:=by omega
   simp[gEd,this]
  rw[zb]
  unfold zbI
  by_cases hab:g.getD y.src.toNat 0=g.getD y.dst.toNat 0
  .rw[zgb hab]
   rw[hab]at hs
   simp[zjw,zos,hlt,hlt',hy,g1,g2,r1,r2,r3,r4,hs,hd,gEz, -getElem?_pos, -List.getElem?_map, -List.getD_eq_getElem?_getD]
  .rw[zga hab]
   generalize g.getD y.src.toNat 0=a at *
   generalize g.getD y.dst.toNat 0=b at *
   obtain⟨q,F,H',d1,rfl,d2,d3⟩:=zc.1 (zgO a b g (by omega) (Sl.av Pi.av 5 x) (I x.l.length) (I j) rfl rfl rfl g.length 0 (H++[.arr 0 5 false [y.av]]) (by omega) (by rw[zhZ];exact g1 _))
   have ih:=ih (j+1) (g.map (rplG a b)) H' hrr (by omega) (by rw[List.length_map];exact hg) d3
   simp only[iNa,iCo]at ih
   rw[hg]at d1
   simp at d1 d2
   simp[zjw,zos,hlt,hlt',hy,g1,g2,r1,r2,r3,r4,hs,hd,hab,d1,d2,hw,hg,gEz, -getElem?_pos, -List.getElem?_map, -List.map_map]
   simpa using ih
def cntG (k n:Nat):List Int:=(List.range k).map (fun (i:Nat)=>(i:Int))++List.replicate (n - k) 0
theorem zq2 {k n:Nat} (h:k≤n):(cntG k n).length=n:=by simp[cntG];omega
theorem zq3 (n:Nat):cntG n n=idsG n:=by simp[cntG,idsG]
theorem zof {k n:Nat} (h:k<n):(cntG k n).set k (k:Int)=cntG (k+1) n:=by
 unfold cntG
 rw[List.set_append_right _ _ (by simp)]
 simp only[List.length_map,List.length_range,Nat.sub_self]
 have:n - k=(n - (k+1))+1:=by omega
 rw[this,List.replicate_succ,List.set_cons_zero,List.range_succ,List.map_append,List.append_assoc]
 rfl
theorem zkn (x:Pl) (n:Nat) (hn:n≤1000):∀(m k:Nat),k+m=n→okC (W.loop [1,3,16,17] zsX [(1,.optr 0 0 0 0),(3,.osl 1 0 0 n),(16,I n),(17,I k)] [.arr 0 2 false [x.av],.arr 0 1 false ((cntG k n).map I)])
  (fun q F H=>q= .exit 0∧F.keep [1,3]=[(1,.optr 0 0 0 0),(3,.osl 1 0 0 n)]∧H=[.arr 0 2 false [x.av],.arr 0 1 false ((idsG n).map I)])
 |0,k,hk=>by
  have:k=n:=by omega
  subst this
  rw[zb,zq3]
  simp[zn4,zq9]
 |m+1,k,hk=>by
  have hlt:k<n:=by omega
  have hlt':(k:Int)<n:=by omega
  have hw:=zh (k:=k) (by omega)
  have hse:=ze1 (l:=cntG k n) (k:=k) (by rw[zq2 (by omega)];exact hlt) (k:Int)
  rw[zof hlt]at hse
  have ih:=zkn x n hn m (k+1) (by omega)
  simp only[iNa,iCo]at ih
  rw[zb]
  simp[zn4,zq9,hlt,hlt',hse,hw]
  simpa using ih
theorem e75 (x:Pl) (hx:PlN x) (hr:InR x.stages.l.length x.pipes.l):W.pure 75 [x.av]=some (.bool (cyc x)):=by
 obtain⟨q,F,H,d1,rfl,d2,rfl⟩:=zc.1 (zkn x x.stages.l.length hx.st x.stages.l.length 0 (by omega))
 obtain⟨q2,F2,H2,f1,f2⟩:=zc.1 (zpD x.pipes hx.pi x.stages.l.length hx.st hr x.pipes.l 0 (idsG x.stages.l.length) [.arr 0 2 false [x.av],.arr 0 1 false ((idsG x.stages.l.length).map I)] rfl (by omega) (zcx _) rfl)
 have h0:(cntG 0 x.stages.l.length).map I=List.replicate x.stages.l.length (I 0):=by simp[cntG]
 rw[h0]at d1
 have hb1:x.stages.l.length≤1048576:=by have:=hx.st;omega
 have hb2:(x.stages.l.length:Int)≤1048576:=by omega
 rw[ze Φ75 (by simp)]
 simp at d1 d2
 unfold cyc
 cases hc:(zbI x.pipes.l (idsG x.stages.l.length)).isNone with
 |true=>
  rw[hc]at f2
  simp only[if_true]at f2
  obtain⟨rfl,f3⟩:=f2
  simp at f1
  simp[fi75,c75,hb1,hb2,d1,d2,f1,f3]
 |false=>
  rw[hc]at f2
  simp only[bFt,if_false]at f2
  subst f2
  simp at f1
  simp[fi75,c75,hb1,hb2,d1,d2,f1]
abbrev hp66 (x:Pl) (v:Nat) (g:List Int):Heap:=[.arr 0 2 false [x.av],.arr v 1 false (g.map I)]
theorem zkp (x:Pl) (v:Nat) (a b:Int) (g:List Int) (hn:g.length≤1000) (j:Nat):∀(m k:Nat),k+m=g.length→
  okC (W.loop [1,3,5,6,7,8] zs2 [(1,.optr 0 0 0 0),(3,.osl 1 v 0 g.length),(5,I j),(6,I a),(7,I b),(8,I k)] (hp66 x v (mixG a b k g)))
   (fun q F H=>q= .exit 4∧F.keep [1,3,5]=[(1,.optr 0 0 0 0),(3,.osl 1 v 0 g.length),(5,I j)]∧H=hp66 x v (g.map (rplG a b)))
 |0,k,hk=>by
  have:k=g.length:=by omega
  subst this
  rw[zb,zkm]
  simp[zjz,zov, -List.map_map]
 |m+1,k,hk=>by
  have hlt:k<g.length:=by omega
  have hlt':(k:Int)<g.length:=by omega
  have hw:=zh (k:=k) (by omega)
  have hg:((mixG a b k g).map I)[k]?=some (I g[k]):=by rw[gEm,zgK hlt];rfl
  have ih:=zkp x v a b g hn j m (k+1) (by omega)
  simp only[iNa,iCo]at ih
  rw[zb]
  by_cases h:g[k]=b
  .have hse:=ze1 (l:=mixG a b k g) (k:=k) (by rw[zgJ];exact hlt) a
   have hnext:(mixG a b k g).set k a=mixG a b (k+1) g:=by rw[zfl hlt];simp[rplG,h]
   rw[hnext]at hse
   simp[zjz,zov,hlt,hlt',hg,h,hse,hw,gEz,List.getElem?_cons_succ, -getElem?_pos, -List.getElem?_map, -List.map_map]
   simpa using ih
  .rw[zh0 hlt h]at ih
   simp[zjz,zov,hlt,hlt',hg,h,hw,gEz,List.getElem?_cons_succ, -getElem?_pos, -List.getElem?_map, -List.map_map]
   simpa using ih
theorem zpE (x:Pl) (v:Nat) (hx:x.pipes.l.length≤1000) (n:Nat) (hn:n≤1000) (hr:InR n x.pipes.l):∀(rest:List Pi) (j:Nat) (g:List Int),x.pipes.l.drop j=rest→j≤x.pipes.l.length→g.length=n→
  okC (W.loop [1,3,5] zs1 [(1,.optr 0 0 0 0),(3,.osl 1 v 0 n),(5,I j)] (hp66 x v g)) (fun q F H'=>if (zbI rest g).isNone=true then q= .ret∧F.get 2= .bool true else q= .exit 2):=by
 intro rest
 induction rest with
 |nil=>
  intro j g h1 h2 hg
  have hk:=zf h1 h2
  rw[zb]
  simp[zjy,zou,hk,zbI]
 |cons y rest ih=>
  intro j g h1 h2 hg
  obtain⟨hlt,hy,hrr⟩:=zn h1
  have hlt':(j:Int)<x.pipes.l.length:=by omega
  have hw:=zh (k:=j) (by omega)
  obtain⟨r1,r2,r3,r4⟩:=hr y (lMg hy)
  have hs:(g.map I)[y.src.toNat]?=some (I (g.getD y.src.toNat 0)):=by
   have:y.src.toNat<g.length:=by omega
   simp[gEd,this]
  have hd:(g.map I)[y.dst.toNat]?=some (I (g.getD y.dst.toNat 0)):=by
   have:y.dst.toNat<g.length:=by omega
   simp[gEd,this]
  rw[zb]
  unfold zbI
  by_cases hab:g.getD y.src.toNat 0=g.getD y.dst.toNat 0
  .rw[zgb hab]
   rw[hab]at hs
   simp[zjy,zou,hlt,hlt',hy,r1,r2,r3,r4,hs,hd,gEz,List.getElem?_cons_succ, -getElem?_pos, -List.getElem?_map, -List.getD_eq_getElem?_getD]
  .rw[zga hab]
   generalize g.getD y.src.toNat 0=a at *
   generalize g.getD y.dst.toNat 0=b at *
   obtain⟨q,F,H',d1,rfl,d2,rfl⟩:=zc.1 (zkp x v a b g (by omega) j g.length 0 (by omega))
   have ih:=ih (j+1) (g.map (rplG a b)) hrr (by omega) (by rw[List.length_map];exact hg)
   simp only[iNa,iCo]at ih
   rw[hg,zhZ]at d1
   simp only[hp66]at d1 ih
   simp[-List.map_map]at d1 d2
   simp[zjy,zou,hlt,hlt',hy,r1,r2,r3,r4,hs,hd,hab,d1,d2,hw,hg,gEz,List.getElem?_cons_succ, -getElem?_pos, -List.getElem?_map, -List.map_map]
   simpa[-List.map_map]using ih
theorem zko (x:Pl) (hn:x.stages.l.length≤1000):∀(m k:Nat),k+m=x.stages.l.length→okC (W.loop [1,3,4] zs0 [(1,.optr 0 0 0 0),(3,.osl 1 k 0 k),(4,I k)] (hp66 x k (idsG k)))
  (fun q F H=>q= .exit 0∧F.keep [1,3]=[(1,.optr 0 0 0 0),(3,.osl 1 x.stages.l.length 0 x.stages.l.length)]∧H=hp66 x x.stages.l.length (idsG x.stages.l.length))
 |0,k,hk=>by
  have hk':¬k<x.stages.l.length:=by omega
  have e:x.stages.l.length=k:=by omega
  rw[zb,e]
  simp[zn5,zra,hk',e]
 |m+1,k,hk=>by
  have hlt:k<x.stages.l.length:=by omega
  have hlt':(k:Int)<x.stages.l.length:=by omega
  have hw:=zh (k:=k) (by omega)
  have ha:=zak (H:=hp66 x k (idsG k)) (id:=1) (ver:=k) (l:=idsG k) rfl (by rw[zcx];omega) (k:Int)
  rw[zcx]at ha
  have hi:idsG k++[(k:Int)]=idsG (k+1):=by simp[idsG,List.range_succ]
  rw[hi]at ha
  have ih:=zko x hn m (k+1) (by omega)
  simp only[iNa,iCo]at ih
  simp only[hp66,List.set_cons_succ,List.set_cons_zero]at ha ih
  rw[zb]
  simp[zn5,zra,hlt,hlt',ha,hw]
  simpa using ih
theorem e66 (x:Pl) (hx:PlN x) (hr:InR x.stages.l.length x.pipes.l):W.pure 66 [x.av]=some (.bool (cyc x)):=by
 obtain⟨q,F,H,d1,rfl,d2,rfl⟩:=zc.1 (zko x hx.st x.stages.l.length 0 (by omega))
 obtain⟨q2,F2,H2,f1,f2⟩:=zc.1 (zpE x x.stages.l.length hx.pi x.stages.l.length hx.st hr x.pipes.l 0 (idsG x.stages.l.length) rfl (by omega) (zcx _))
 have h0:(idsG 0).map I=[]:=rfl
 simp only[hp66,h0]at d1 f1
 rw[ze Φ66 (by simp)]
 simp at d1 d2
 unfold cyc
 cases hc:(zbI x.pipes.l (idsG x.stages.l.length)).isNone with
 |true=>
  rw[hc]at f2
  simp only[if_true]at f2
  obtain⟨rfl,f3⟩:=f2
  simp at f1
  simp[fi66,c66,d1,d2,f1,f3]
 |false=>
  rw[hc]at f2
  simp only[bFt,if_false]at f2
  subst f2
  simp at f1
  simp[fi66,c66,d1,d2,f1]
theorem zsv {x:Pl} {k:Nat} {y:Pi} (h:piI x k y=0):0≤y.src∧y.src<x.stages.l.length∧0≤y.dst∧y.dst<x.stages.l.length:=by
 unfold piI at h
 split at h
 .cases h
 .omega
theorem zrT {x:Pl} (h:pisI x x.pipes.l 0=0):InR x.stages.l.length x.pipes.l:=by
 intro y hy
 obtain⟨k,hk⟩:=List.getElem?_of_mem hy
 have:=zfe.1 h k y hk
 exact zsv this
theorem zrU (x:Sg):inN x≤2:=by unfold inN;split;omega;exact zrV _
theorem zpL (x:Pl) (hx:PlN x):∀(rest:List Sg) (k:Nat) (acc:Nat) (H:Heap),x.stages.l.drop k=rest→k≤x.stages.l.length→acc≤4* k→H[0]?=some (.arr 0 2 false [x.av])→
  okC (W.loop [1,3,15,16,17] zte [(1,.optr 0 0 0 0),(3,I acc),(15,Sl.av Sg.av 8 x.stages),(16,I x.stages.l.length),(17,I k)] H)
   (fun q F H'=>if zaV sgI rest≠0 then q= .ret∧F.get 2=I (zaV sgI rest) else q= .exit 0∧F.keep [1,3]=[(1,.optr 0 0 0 0),(3,I (acc+ends rest:Nat))]∧H'[0]?=some (.arr 0 2 false [x.av])):=by
 have hst:=hx.st
 intro rest
 induction rest with
 |nil=>
  intro k acc H h1 h2 ha hH
  have hk:=zf h1 h2
  rw[zb]
  simp[zjG,zoC,hk,zaV,ends,hH, -getElem?_pos]
 |cons s rest ih=>
  intro k acc H h1 h2 ha hH
  obtain⟨hlt,hs,hr⟩:=zn h1
  have hlt':(k:Int)<x.stages.l.length:=by omega
  have hw:=zh (k:=k) (by omega)
  have hit:=hx.it s (lMg hs)
  have c1:=e72 s hit
  have c2:=e68 s hit
  have c3:=e73 s hit
  have g2:∀B,(H++[B])[H.length]?=some B:=fun B=>zD H B
  have g1:∀B,(H++[B])[0]?=some (.arr 0 2 false [x.av]):=fun B=>zaa hH B
  have l1:=zrU s
  have l2:=zjh s
  rw[zb]
  unfold zaV
  by_cases h:sgI s=0
  .rw[h]at c1
   rw[if_neg (show ¬sgI s≠0 by simp[h])]
   have ih:=ih (k+1) (acc+(inN s+outN s)) (H++[.arr 0 8 false [s.av]]) hr (by omega) (by omega) (g1 _)
   have he:acc+(inN s+outN s)+ends rest=acc+ends (s::rest):=by simp[ends];omega
   rw[he]at ih
   have w1:IntKind.wrap .i64 ((inN s:Int)+outN s)=(inN s:Int)+outN s:=zz (by omega) (by omega)
   have w2:IntKind.wrap .i64 ((acc:Int)+((inN s:Int)+outN s))=(acc:Int)+((inN s:Int)+outN s):=zz (by omega) (by omega)
   simp only[iNa,iCo]at ih
   simp[zjG,zoC,hlt,hlt',hs,c1,c2,c3,w1,w2,hw,g2,gEz, -getElem?_pos]
   simpa using ih
  .rw[if_pos h]
   simp[zjG,zoC,hlt,hlt',hs,c1,h,g2,gEz, -getElem?_pos]
theorem zpM (x:Pl) (hx:PlN x) (acc:Int):∀(rest:List Pi) (k:Nat) (H:Heap),x.pipes.l.drop k=rest→k≤x.pipes.l.length→H[0]?=some (.arr 0 2 false [x.av])→
  okC (W.loop [1,3,40,41] ztf [(1,.optr 0 0 0 0),(3,I acc),(40,I x.pipes.l.length),(41,I k)] H)
   (fun q F H'=>if pisI x rest k≠0 then q= .ret∧F.get 2=I (pisI x rest k) else q= .exit 2∧F.keep [1,3]=[(1,.optr 0 0 0 0),(3,I acc)]∧H'=H):=by
 have hpi:=hx.pi
 intro rest
 induction rest with
 |nil=>
  intro k H h1 h2 hH
  have hk:=zf h1 h2
  rw[zb]
  simp[zjH,zoD,hk,pisI]
 |cons y rest ih=>
  intro k H h1 h2 hH
  obtain⟨hlt,hy,hr⟩:=zn h1
  have hlt':(k:Int)<x.pipes.l.length:=by omega
  have hw:=zh (k:=k) (by omega)
  have c1:=e74 x hx k y hy
  rw[zb]
  unfold pisI
  by_cases h:piI x k y=0
  .rw[h]at c1
   rw[if_neg (show ¬piI x k y≠0 by simp[h])]
   have ih:=ih (k+1) H hr (by omega) hH
   simp only[iNa,iCo]at ih
   simp[zjH,zoD,hlt,hlt',hH,c1,hw,gEz, -getElem?_pos]
   simpa using ih
  .rw[if_pos h]
   simp[zjH,zoD,hlt,hlt',hH,c1,h,gEz, -getElem?_pos]
theorem e24 (x:Pl) (hx:PlN x):W.pure 24 [x.av]=some (I (plI x)):=by
 have hst:=hx.st;have hpi:=hx.pi
 have run:∀(A:Option AV),((zaN W fi24 [x.av] []).bind fun p=>frz p.2 8 p.1)=A→W.pure 24 [x.av]=A:=fun A h=>by rw[ze Φ24 (by simp)];exact h
 refine run _ ?_
 unfold plI
 by_cases h0:x.stages.l.length=0∨16<x.stages.l.length
 .rw[if_pos h0]
  have c1:=e39f (a:=(x.stages.l.length:Int)) (l:=1) (h:=16) (by omega)
  simp[fi24,c24,c1]
 rw[if_neg h0]
 have c1:=e39t (a:=(x.stages.l.length:Int)) (l:=1) (h:=16) (by omega) (by omega)
 obtain⟨q,F,H,d1,d2⟩:=zc.1 (zpL x hx x.stages.l 0 0 [.arr 0 2 false [x.av]] rfl (by omega) (by omega) rfl)
 simp at d1
 by_cases h1:zaV sgI x.stages.l=0
 rotate_left
 .rw[if_pos h1]at d2⊢
  obtain⟨rfl,d3⟩:=d2
  simp[fi24,c24,c1,d1,d3]
 rw[if_neg (show ¬zaV sgI x.stages.l≠0 by simp[h1])]at d2⊢
 obtain⟨rfl,d3,d4⟩:=d2
 simp at d3
 by_cases h2:32<x.pipes.l.length
 .have h2':(32:Int)<x.pipes.l.length:=by omega
  rw[if_pos h2]
  simp[fi24,c24,c1,d1,d3,d4,h2,h2',gEz, -getElem?_pos]
 have h2':¬(32:Int)<x.pipes.l.length:=by omega
 rw[if_neg h2]
 obtain⟨q,F2,H2,f1,f2⟩:=zc.1 (zpM x hx (ends x.stages.l) x.pipes.l 0 H rfl (by omega) d4)
 simp at f1
 by_cases h3:pisI x x.pipes.l 0=0
 rotate_left
 .rw[if_pos h3]at f2⊢
  obtain⟨rfl,f3⟩:=f2
  simp[fi24,c24,c1,d1,d3,d4,h2,h2',f1,f3,gEz, -getElem?_pos]
 rw[if_neg (show ¬pisI x x.pipes.l 0≠0 by simp[h3])]at f2⊢
 obtain⟨rfl,f3,rfl⟩:=f2
 simp at f3
 have w:IntKind.wrap .i64 (2* (x.pipes.l.length:Int))=2* (x.pipes.l.length:Int):=zz (by omega) (by omega)
 by_cases h4:ends x.stages.l=2* x.pipes.l.length
 rotate_left
 .have h4':¬(ends x.stages.l:Int)=2* x.pipes.l.length:=by omega
  rw[if_pos h4]
  simp[fi24,c24,c1,d1,d3,d4,h2,h2',f1,f3,w,h4,h4',gEz, -getElem?_pos]
 have h4':((ends x.stages.l:Int)=2* x.pipes.l.length)=True:=eq_true (by omega)
 rw[if_neg (show ¬ends x.stages.l≠2* x.pipes.l.length by simp[h4])]
 have c2:=e75 x hx (zrT h3)
 cases hc:cyc x with
 |true=>rw[hc]at c2;simp[fi24,c24,c1,d1,d3,d4,h2,h2',f1,f3,w,h4',c2,gEz, -getElem?_pos]
 |false=>rw[hc]at c2;simp[fi24,c24,c1,d1,d3,d4,h2,h2',f1,f3,w,h4',c2,gEz, -getElem?_pos]
theorem zpO (x:Pl) (hx:PlN x):∀(rest:List Sg) (k:Nat),x.stages.l.drop k=rest→k≤x.stages.l.length→
  okC (W.loop [1,3] ztg [(1,.optr 0 0 0 0),(3,I k)] [.arr 0 2 false [x.av]])
   (fun q F H=>if zaV sgI rest≠0 then q= .ret∧F.get 2=I (zaV sgI rest) else q= .exit 0∧F.keep [1]=[(1,.optr 0 0 0 0)]∧H=[.arr 0 2 false [x.av]]):=by
 have hst:=hx.st
 intro rest
 induction rest with
 |nil=>
  intro k h1 h2
  have hk:=zf h1 h2
  rw[zb]
  simp[zjI,zoE,hk,zaV]
 |cons s rest ih=>
  intro k h1 h2
  obtain⟨hlt,hs,hr⟩:=zn h1
  have hlt':(k:Int)<x.stages.l.length:=by omega
  have hsk:x.stages.l[k]=s:=(gEs.1 hs).2
  have hw:=zh (k:=k) (by omega)
  have c1:=e61 s (hx.it s (lMg hs))
  rw[zb]
  unfold zaV
  by_cases h:sgI s=0
  .rw[h]at c1
   rw[if_neg (show ¬sgI s≠0 by simp[h])]
   have ih:=ih (k+1) hr (by omega)
   simp only[iNa,iCo]at ih
   simp[zjI,zoE,hlt,hlt',hsk,c1,hw]
   simpa using ih
  .rw[if_pos h]
   simp[zjI,zoE,hlt,hlt',hsk,c1,h]
theorem zpP (x:Pl) (hx:PlN x):∀(rest:List Pi) (k:Nat),x.pipes.l.drop k=rest→k≤x.pipes.l.length→
  okC (W.loop [1,5] zth [(1,.optr 0 0 0 0),(5,I k)] [.arr 0 2 false [x.av]])
   (fun q F H=>if pisI x rest k≠0 then q= .ret∧F.get 2=I (pisI x rest k) else q= .exit 2∧F.keep [1]=[(1,.optr 0 0 0 0)]∧H=[.arr 0 2 false [x.av]]):=by
 have hpi:=hx.pi
 intro rest
 induction rest with
 |nil=>
  intro k h1 h2
  have hk:=zf h1 h2
  rw[zb]
  simp[zjJ,zoF,hk,pisI]
 |cons y rest ih=>
  intro k h1 h2
  obtain⟨hlt,hy,hr⟩:=zn h1
  have hlt':(k:Int)<x.pipes.l.length:=by omega
  have hw:=zh (k:=k) (by omega)
  have c1:=e62 x hx k y hy
  rw[zb]
  unfold pisI
  by_cases h:piI x k y=0
  .rw[h]at c1
   rw[if_neg (show ¬piI x k y≠0 by simp[h])]
   have ih:=ih (k+1) hr (by omega)
   simp only[iNa,iCo]at ih
   simp[zjJ,zoF,hlt,hlt',c1,hw]
   simpa using ih
  .rw[if_pos h]
   simp[zjJ,zoF,hlt,hlt',c1,h]
def AllP (f:Nat→Int) (k N e:Nat) (fr:List Nat) (F0:Fr) (H0:Heap) (q:LX) (F:Fr) (H:Heap):Prop:=
 ((∀j:Nat,k≤j→j<N→0≤f j)∧q= .exit e∧F.keep fr=F0∧H=H0)∨((∃j:Nat,k≤j∧j<N∧f j<0)∧q= .ret∧F.get 2=I 10)
theorem zkq (x:Pl) (hx:PlN x) (i:Nat) (hi:i<x.stages.l.length):∀(m k:Nat),k+m=outN x.stages.l[i]→
  okC (W.loop [1,7,8] ztj [(1,.optr 0 0 0 0),(7,I i),(8,I k)] [.arr 0 2 false [x.av]])
   (fun q F H=>AllP (fun j=>pOut x i j) k (outN x.stages.l[i]) 6 [1,7] [(1,.optr 0 0 0 0),(7,I i)] [.arr 0 2 false [x.av]] q F H)
 |0,k,hk=>by
  have c1:=e63 x.stages.l[i] (hx.it _ (List.getElem_mem hi))
  have hi':(i:Int)<x.stages.l.length:=by omega
  have hn:¬k<outN x.stages.l[i]:=by omega
  rw[zb]
  simp[zjK,zoG,hi,hi',c1,hn]
  exact Or.inl ⟨fun j h1 h2=>by omega,rfl,rfl,rfl⟩
 |m+1,k,hk=>by
  have c1:=e63 x.stages.l[i] (hx.it _ (List.getElem_mem hi))
  have hi':(i:Int)<x.stages.l.length:=by omega
  have hn:k<outN x.stages.l[i]:=by omega
  have hw:=zh (k:=k) (by have:=zjh x.stages.l[i];omega)
  have c2:=e50 x hx.pi i k
  rw[zb]
  by_cases h:pOut x i k<0
  .simp[zjK,zoG,hi,hi',c1,hn,c2,h]
   exact Or.inr ⟨⟨k,by omega,hn,h⟩,rfl,rfl⟩
  .obtain⟨q,F,H,d1,d2⟩:=zc.1 (zkq x hx i hi m (k+1) (by omega))
   simp only[iNa,iCo]at d1
   simp[zjK,zoG,hi,hi',c1,hn,c2,h,hw,d1]
   rcases d2 with⟨d3,rfl,d4,rfl⟩|⟨⟨j,d3,d5,d6⟩,rfl,d4⟩
   .refine Or.inl ⟨fun j h1 h2=>?_,rfl,d4,rfl⟩
    by_cases hj:j=k
    .subst hj;show 0≤pOut x i _;omega
    .exact d3 j (by omega) h2
   .exact Or.inr ⟨⟨j,by omega,d5,d6⟩,rfl,d4⟩
theorem zkr (x:Pl) (hx:PlN x) (i:Nat) (hi:i<x.stages.l.length):∀(m k:Nat),k+m=inN x.stages.l[i]→
  okC (W.loop [1,7,9] ztk [(1,.optr 0 0 0 0),(7,I i),(9,I k)] [.arr 0 2 false [x.av]])
   (fun q F H=>AllP (fun j=>pIn x i j) k (inN x.stages.l[i]) 8 [1,7] [(1,.optr 0 0 0 0),(7,I i)] [.arr 0 2 false [x.av]] q F H)
 |0,k,hk=>by
  have c1:=e64 x.stages.l[i] (hx.it _ (List.getElem_mem hi))
  have hi':(i:Int)<x.stages.l.length:=by omega
  have hn:¬k<inN x.stages.l[i]:=by omega
  rw[zb]
  simp[zjL,zoH,hi,hi',c1,hn]
  exact Or.inl ⟨fun j h1 h2=>by omega,rfl,rfl,rfl⟩
 |m+1,k,hk=>by
  have c1:=e64 x.stages.l[i] (hx.it _ (List.getElem_mem hi))
  have hi':(i:Int)<x.stages.l.length:=by omega
  have hn:k<inN x.stages.l[i]:=by omega
  have hw:=zh (k:=k) (by have:=zrU x.stages.l[i];omega)
  have c2:=e65 x hx.pi i k
  rw[zb]
  by_cases h:pIn x i k<0
  .simp[zjL,zoH,hi,hi',c1,hn,c2,h]
   exact Or.inr ⟨⟨k,by omega,hn,h⟩,rfl,rfl⟩
  .obtain⟨q,F,H,d1,d2⟩:=zc.1 (zkr x hx i hi m (k+1) (by omega))
   simp only[iNa,iCo]at d1
   simp[zjL,zoH,hi,hi',c1,hn,c2,h,hw,d1]
   rcases d2 with⟨d3,rfl,d4,rfl⟩|⟨⟨j,d3,d5,d6⟩,rfl,d4⟩
   .refine Or.inl ⟨fun j h1 h2=>?_,rfl,d4,rfl⟩
    by_cases hj:j=k
    .subst hj;show 0≤pIn x i _;omega
    .exact d3 j (by omega) h2
   .exact Or.inr ⟨⟨j,by omega,d5,d6⟩,rfl,d4⟩
def Full (x:Pl) (i:Nat) (s:Sg):Prop:=(∀j:Nat,j<outN s→0≤pOut x i j)∧(∀j:Nat,j<inN s→0≤pIn x i j)
def zy8 (x:Pl) (k:Nat) (q:LX) (F:Fr) (H:Heap):Prop:=
 ((∀(j:Nat) (s:Sg),k≤j→x.stages.l[j]?=some s→Full x j s)∧q= .exit 4∧F.keep [1]=[(1,.optr 0 0 0 0)]∧H=[.arr 0 2 false [x.av]])∨((∃(j:Nat) (s:Sg),x.stages.l[j]?=some s∧¬Full x j s)∧q= .ret∧F.get 2=I 10)
theorem zpQ (x:Pl) (hx:PlN x):∀(rest:List Sg) (k:Nat),x.stages.l.drop k=rest→k≤x.stages.l.length→
  okC (W.loop [1,7] zti [(1,.optr 0 0 0 0),(7,I k)] [.arr 0 2 false [x.av]])
   (fun q F H=>zy8 x k q F H):=by
 have hst:=hx.st
 intro rest
 induction rest with
 |nil=>
  intro k h1 h2
  have hk:=zf h1 h2
  rw[zb]
  simp[zg4,zl1,hk]
  exact Or.inl ⟨fun j s h3 h4=>by have:=(gEs.1 h4).1;omega,rfl,rfl,rfl⟩
 |cons s rest ih=>
  intro k h1 h2
  obtain⟨hlt,hs,hr⟩:=zn h1
  have hlt':(k:Int)<x.stages.l.length:=by omega
  have hsk:x.stages.l[k]=s:=(gEs.1 hs).2
  have hw:=zh (k:=k) (by omega)
  obtain⟨q1,F1,H1,a1,a2⟩:=zc.1 (zkq x hx k hlt (outN x.stages.l[k]) 0 (by omega))
  obtain⟨q2,F2,H2,b1,b2⟩:=zc.1 (zkr x hx k hlt (inN x.stages.l[k]) 0 (by omega))
  rw[hsk]at a2 b2
  simp at a1 b1
  rw[zb]
  rcases a2 with⟨a3,rfl,a4,rfl⟩|⟨⟨j,a3,a5,a6⟩,rfl,a4⟩
  .simp at a4
   rcases b2 with⟨b3,rfl,b4,rfl⟩|⟨⟨j,b3,b5,b6⟩,rfl,b4⟩
   .simp at b4
    obtain⟨q,F,H,d1,d2⟩:=zc.1 (ih (k+1) hr (by omega))
    simp only[iNa,iCo]at d1
    simp[zg4,zl1,hlt,hlt',a1,a4,b1,b4,hw,d1]
    rcases d2 with⟨d3,rfl,d4,rfl⟩|⟨d3,rfl,d4⟩
    .refine Or.inl ⟨fun j s' h3 h4=>?_,rfl,d4,rfl⟩
     by_cases hj:j=k
     .subst hj
      rw[hs]at h4;cases h4
      exact⟨fun j h=>a3 j (by omega) h,fun j h=>b3 j (by omega) h⟩
     .exact d3 j s' (by omega) h4
    .exact Or.inr ⟨d3,rfl,d4⟩
   .simp[zg4,zl1,hlt,hlt',a1,a4,b1,b4]
    refine Or.inr ⟨⟨k,s,hs,fun hf=>?_⟩,rfl,b4⟩
    have h1:=hf.2 j b5
    have h2:pIn x k j<0:=b6
    omega
  .simp[zg4,zl1,hlt,hlt',a1,a4]
   refine Or.inr ⟨⟨k,s,hs,fun hf=>?_⟩,rfl,a4⟩
   have h1:=hf.1 j a5
   have h2:pOut x k j<0:=a6
   omega
theorem zmO {x:Pl} {i n:Int}:0≤pOut x i n↔∃(k:Nat) (y:Pi),x.pipes.l[k]?=some y∧y.src=i∧y.output=n:=by
 unfold pOut
 rcases zbR (fun y=>decide (y.src=i)&&decide (y.output=n)) x.pipes.l 0 with⟨h1,h2⟩|⟨j,y,h1,h2,h3,_⟩
 .rw[h1]
  constructor
  .intro h;omega
  .rintro⟨k,y,hk,e1,e2⟩
   have:=h2 y (lMg hk)
   simp[e1,e2]at this
 .rw[h1]
  simp at h3
  exact⟨fun _=>⟨j,y,h2,h3.1,h3.2⟩,fun _=>by omega⟩
theorem zrN {x:Pl} {i n:Int}:0≤pIn x i n↔∃(k:Nat) (y:Pi),x.pipes.l[k]?=some y∧y.dst=i∧y.input=n:=by
 unfold pIn
 rcases zbR (fun y=>decide (y.dst=i)&&decide (y.input=n)) x.pipes.l 0 with⟨h1,h2⟩|⟨j,y,h1,h2,h3,_⟩
 .rw[h1]
  constructor
  .intro h;omega
  .rintro⟨k,y,hk,e1,e2⟩
   have:=h2 y (lMg hk)
   simp[e1,e2]at this
 .rw[h1]
  simp at h3
  exact⟨fun _=>⟨j,y,h2,h3.1,h3.2⟩,fun _=>by omega⟩
theorem zkH {x:Pl} (h:PiV x):(∀(j:Nat) (s:Sg),x.stages.l[j]?=some s→Full x j s)↔ends x.stages.l=2* x.pipes.l.length:=by
 rw[zkO h]
 have hN:∀(i:Nat) (hi:i<x.stages.l.length),x.stages.l[i]?=some (sgAt x i)∧outN (sgAt x i)=outK (sgAt x i).kind∧inN (sgAt x i)=inK (sgAt x i).kind:=by
  intro i hi
  have h1:=zaK hi
  have h2:=h.sg _ (lMg h1)
  exact⟨h1,by simp[outN,h2],by simp[inN,h2]⟩
 constructor
 .intro hf
  refine⟨fun i n hi hn=>?_,fun i n hi hn=>?_⟩
  .obtain⟨e1,e2,e3⟩:=hN i hi
   exact zmO.1 ((hf i _ e1).1 n (by rw[e2];exact hn))
  .obtain⟨e1,e2,e3⟩:=hN i hi
   exact zrN.1 ((hf i _ e1).2 n (by rw[e3];exact hn))
 .rintro⟨h1,h2⟩ j s hs
  have hj:=(gEs.1 hs).1
  obtain⟨e1,e2,e3⟩:=hN j hj
  rw[hs]at e1;cases e1
  exact⟨fun n hn=>zmO.2 (h1 j n hj (by rw[←e2];exact hn)),fun n hn=>zrN.2 (h2 j n hj (by rw[←e3];exact hn))⟩
theorem e20 (x:Pl) (hx:PlN x):W.pure 20 [x.av]=some (I (plI x)):=by
 have hst:=hx.st;have hpi:=hx.pi
 have run:∀(A:Option AV),((zaN W fi20 [x.av] []).bind fun p=>frz p.2 8 p.1)=A→W.pure 20 [x.av]=A:=fun A h=>by rw[ze Φ20 (by simp)];exact h
 refine run _ ?_
 unfold plI
 by_cases h0:x.stages.l.length=0
 .rw[if_pos (.inl h0)]
  have hnil:x.stages.l=[]:=List.length_eq_zero_iff.1 h0
  simp[fi20,c20,hnil]
 have h0':¬((x.stages.l.length:Int)=0):=by omega
 have hne:¬x.stages.l=[]:=fun e=>h0 (by rw[e];rfl)
 by_cases h16:16<x.stages.l.length
 .have h16':(16:Int)<x.stages.l.length:=by omega
  rw[if_pos (.inr h16)]
  simp[fi20,c20,h0',hne,h16']
 have h16':¬(16:Int)<x.stages.l.length:=by omega
 rw[if_neg (by omega)]
 obtain⟨q,F,H,d1,d2⟩:=zc.1 (zpO x hx x.stages.l 0 rfl (by omega))
 simp at d1
 by_cases h1:zaV sgI x.stages.l=0
 rotate_left
 .rw[if_pos h1]at d2⊢
  obtain⟨rfl,d3⟩:=d2
  simp[fi20,c20,h0',hne,h16',d1,d3]
 rw[if_neg (show ¬zaV sgI x.stages.l≠0 by simp[h1])]at d2⊢
 obtain⟨rfl,d3,rfl⟩:=d2
 simp at d3
 by_cases h2:32<x.pipes.l.length
 .have h2':(32:Int)<x.pipes.l.length:=by omega
  rw[if_pos h2]
  simp[fi20,c20,h0',hne,h16',d1,d3,h2,h2']
 have h2':¬(32:Int)<x.pipes.l.length:=by omega
 rw[if_neg h2]
 obtain⟨q,F2,H2,f1,f2⟩:=zc.1 (zpP x hx x.pipes.l 0 rfl (by omega))
 simp at f1
 by_cases h3:pisI x x.pipes.l 0=0
 rotate_left
 .rw[if_pos h3]at f2⊢
  obtain⟨rfl,f3⟩:=f2
  simp[fi20,c20,h0',hne,h16',d1,d3,h2,h2',f1,f3]
 rw[if_neg (show ¬pisI x x.pipes.l 0≠0 by simp[h3])]at f2⊢
 obtain⟨rfl,f3,rfl⟩:=f2
 simp at f3
 have hpv:=zrM h1 h3
 obtain⟨q,F3,H3,g1,g2⟩:=zc.1 (zpQ x hx x.stages.l 0 rfl (by omega))
 simp at g1
 rcases g2 with⟨g3,rfl,g4,rfl⟩|⟨⟨j,s,g3,g5⟩,rfl,g4⟩
 .have he:=(zkH hpv).1 (fun j s hs=>g3 j s (by omega) hs)
  simp at g4
  rw[if_neg (show ¬ends x.stages.l≠2* x.pipes.l.length by simp[he])]
  have c2:=e66 x hx (zrT h3)
  cases hc:cyc x with
  |true=>rw[hc]at c2;simp[fi20,c20,h0',hne,h16',d1,d3,h2,h2',f1,f3,g1,g4,c2]
  |false=>rw[hc]at c2;simp[fi20,c20,h0',hne,h16',d1,d3,h2,h2',f1,f3,g1,g4,c2]
 .have he:ends x.stages.l≠2* x.pipes.l.length:=fun e=>g5 ((zkH hpv).2 e j s g3)
  rw[if_pos he]
  simp[fi20,c20,h0',hne,h16',d1,d3,h2,h2',f1,f3,g1,g4]
theorem zfZ (s:Sg) (r:List Sg):zK (s::r)=(if s.kind=10 then 1 else 0)+zK r:=by
 unfold zK
 by_cases h:s.kind=10<;>simp[h];omega
theorem zmz (l:List Sg):zK l≤l.length:=by unfold zK;exact List.length_filter_le _ _
theorem zva (x:Sl Sg) (hx:x.l.length≤1000):∀(rest:List Sg) (k acc:Nat) (H:Heap),x.l.drop k=rest→k≤x.l.length→acc≤k→
  okC (W.loop [3,6,7,8] ztc [(3,I acc),(6,Sl.av Sg.av 8 x),(7,I x.l.length),(8,I k)] H) (fun q F H'=>q= .exit 0∧F.keep [3]=[(3,I (acc+zK rest:Nat))]):=by
 intro rest
 induction rest with
 |nil=>
  intro k acc H h1 h2 ha
  have hk:=zf h1 h2
  rw[zb]
  simp[zjF,zoB,hk,zK]
 |cons s rest ih=>
  intro k acc H h1 h2 ha
  obtain⟨hlt,hs,hr⟩:=zn h1
  have hlt':(k:Int)<x.l.length:=by omega
  have hw:=zh (k:=k) (by omega)
  have hw2:=zh (k:=acc) (by omega)
  have g2:∀B,(H++[B])[H.length]?=some B:=fun B=>zD H B
  rw[zb]
  by_cases h:s.kind=10
  .have ih:=ih (k+1) (acc+1) (H++[.arr 0 8 false [s.av]]) hr (by omega) (by omega)
   have he:acc+1+zK rest=acc+zK (s::rest):=by rw[zfZ,if_pos h];omega
   rw[he]at ih
   simp only[iNa,iCo]at ih
   simp[zjF,zoB,hlt,hlt',hs,eq_true h,hw,hw2,g2,gEz, -getElem?_pos]
   simpa using ih
  .have ih:=ih (k+1) acc (H++[.arr 0 8 false [s.av]]) hr (by omega) (by omega)
   have he:acc+zK rest=acc+zK (s::rest):=by rw[zfZ,if_neg h];omega
   rw[he]at ih
   simp only[iNa,iCo]at ih
   simp[zjF,zoB,hlt,hlt',hs,h,hw,hw2,g2,gEz, -getElem?_pos]
   simpa using ih
theorem e43 (x:Sl Sg) (hx:x.l.length≤1000):W.pure 43 [Sl.av Sg.av 8 x]=some (I (zK x.l)):=by
 obtain⟨q,F,H,d1,rfl,d2⟩:=zc.1 (zva x hx x.l 0 0 [] rfl (by omega) (by omega))
 rw[ze Φ43 (by simp)]
 simp at d1 d2
 simp[fi43,c43,d1,d2]
theorem ze0 {l:List Sg} {k:Nat} (h:k<l.length):zK (l.take (k+1))=zK (l.take k)+if l[k].kind=10 then 1 else 0:=by
 rw[List.take_succ_eq_append_getElem h]
 unfold zK
 rw[List.filter_append,List.length_append]
 by_cases h2:l[k].kind=10<;>simp[h2]
theorem zrR (x:Pl) (hx:PlN x) (n:Nat) (hn:n≤x.stages.l.length):∀(m k:Nat),k+m=n→
  okC (W.loop [1,2,5,6] zs9 [(1,I n),(2,.optr 0 0 0 0),(5,I (zK (x.stages.l.take k))),(6,I k)] [.arr 0 2 false [x.av]]) (fun q F H'=>q= .exit 0∧F.keep [5]=[(5,I (zK (x.stages.l.take n)))])
 |0,k,hk=>by
  have:k=n:=by omega
  subst this
  rw[zb]
  simp[zjD,zoz]
 |m+1,k,hk=>by
  have hst:=hx.st
  have hkn:k<n:=by omega
  have hkn':(k:Int)<n:=by omega
  have hlt:k<x.stages.l.length:=by omega
  have hw:=zh (k:=k) (by omega)
  have hle:=zmz (x.stages.l.take k)
  have hw2:=zh (k:=zK (x.stages.l.take k)) (by simp at hle;omega)
  have ih:=zrR x hx n hn m (k+1) (by omega)
  rw[ze0 hlt]at ih
  rw[zb]
  by_cases h:x.stages.l[k].kind=10
  .rw[if_pos h]at ih
   simp only[iNa,iCo]at ih
   simp[zjD,zoz,hkn,hkn',hlt,eq_true h,hw,hw2]
   simpa using ih
  .rw[if_neg h]at ih
   simp only[Nat.add_zero,iNa,iCo]at ih
   simp[zjD,zoz,hkn,hkn',hlt,h,hw]
   simpa using ih
theorem e48 (x:Pl) (hx:PlN x) (n:Nat) (hn:n≤x.stages.l.length):W.pure 48 [x.av,I n]=some (I (zK (x.stages.l.take n))):=by
 obtain⟨q,F,H,d1,rfl,d2⟩:=zc.1 (zrR x hx n hn n 0 (by omega))
 have h0:zK (x.stages.l.take 0)=0:=rfl
 rw[h0]at d1
 rw[ze Φ48 (by simp)]
 simp at d1 d2
 simp[fi48,c48,d1,d2]
def zjj (x:Sg) (s:SS):List Int:=
 if x.kind=8 then s.held else if x.kind=9 then (if s.count=1 then [0] else if s.count=2 then [1] else if s.count=3 then [0,1] else []) else if x.kind≠1∧s.ended=true then [0] else []
theorem zgI {x:Sg} {s:SS} (hg:zan x s=0) (j:Int):j∈zjj x s↔0≤j∧j<inK x.kind∧zac x s j=true:=by
 obtain⟨g1,g2⟩:=zx.1 hg
 obtain⟨f1,f2,f3,f4⟩:=zQ g2
 unfold zjj zac
 by_cases k8:x.kind=8
 .rw[if_pos k8,if_pos k8]
  have hin:inK x.kind=2:=by simp[inK,k8]
  rw[hin]
  simp only[dTe]
  constructor
  .intro h
   have hm:zag s.held=true:=by
    rw[zdM ⟨f1,f2,f3⟩ (by simpa using f4),if_neg (by omega),if_pos k8]at g2
    simp only[bAt]at g2
    exact g2.1
   have hj:j=0∨j=1:=by
    match hh:s.held,hm with
    | [],_=>rw[hh]at h;cases h
    | [a],hm=>rw[hh]at h;simp[zag]at hm h;omega
    | [a,b],hm=>rw[hh]at h;simp[zag]at hm h;omega
   exact⟨by omega,by omega,h⟩
  .exact fun h=>h.2.2
 .rw[if_neg k8,if_neg k8]
  by_cases k9:x.kind=9
  .rw[if_pos k9,if_pos k9]
   have hin:inK x.kind=2:=by simp[inK,k9]
   have hC:zN x=3:=by simp[zN,k9]
   rw[hin]
   have hc:s.count=0∨s.count=1∨s.count=2∨s.count=3:=by omega
   rcases hc with hc|hc|hc|hc<;>rw[hc]<;>by_cases hj:j=0<;>simp[hj]<;>omega
  .rw[if_neg k9,if_neg k9]
   by_cases k1:x.kind=1
   .have hin:inK x.kind=0:=by simp[inK,k1]
    rw[if_neg (fun h=>h.1 k1),hin]
    simp;omega
   .have hin:inK x.kind=1:=by simp[inK,k1,k8,k9]
    rw[hin]
    cases he:s.ended with
    |true=>rw[if_pos ⟨k1,rfl⟩];simp;omega
    |false=>rw[if_neg (fun h=>by cases h.2)];simp
theorem e146 (x:Sg) (s:Ss) (hs:SlN s.held) (h9:x.kind=9→0≤s.count∧s.count≤3):∃y:Sl Int,W.pure 146 [x.av,s.av]=some (Sl.av I 1 y)∧y.l=zjj x s.pl∧SlN y:=by
 unfold zjj
 have run:∀(A:Option AV),((zaN W zew [x.av,s.av] []).bind fun p=>frz p.2 8 p.1)=A→W.pure 146 [x.av,s.av]=A:=fun A h=>by rw[ze Φ146 (by simp)];exact h
 by_cases k8:x.kind=8
 .rw[if_pos k8]
  refine⟨s.held,run _ ?_,rfl,hs⟩
  simp[zew,c146,k8]
 rw[if_neg k8]
 by_cases k9:x.kind=9
 .rw[if_pos k9]
  obtain⟨h1,h2⟩:=h9 k9
  have hp:s.pl.count=s.count:=rfl
  rw[hp]
  have hc:s.count=0∨s.count=1∨s.count=2∨s.count=3:=by omega
  rcases hc with hc|hc|hc|hc
  .refine⟨zaM,run _ ?_,by simp[hc],zE⟩
   simp[zew,c146,k8,eq_true k9,hc]
   rfl
  .refine⟨ofL 1 [0],run _ ?_,by simp[hc,ofL],one1 0⟩
   simp[zew,c146,k8,eq_true k9,hc]
   rfl
  .refine⟨ofL 1 [1],run _ ?_,by simp[hc,ofL],one1 1⟩
   simp[zew,c146,k8,eq_true k9,hc]
   rfl
  .refine⟨ofL 1 [0,1],run _ ?_,by simp[hc,ofL],zat (by simp)⟩
   simp[zew,c146,k8,eq_true k9,hc]
   rfl
 rw[if_neg k9]
 have hp:s.pl.ended=s.ended:=rfl
 rw[hp]
 by_cases k1:x.kind=1
 .rw[if_neg (fun h=>h.1 k1)]
  refine⟨zaM,run _ ?_,rfl,zE⟩
  simp[zew,c146,k8,k9,eq_true k1]
  rfl
 .cases he:s.ended with
  |true=>
   rw[if_pos ⟨k1,rfl⟩]
   refine⟨ofL 1 [0],run _ ?_,rfl,one1 0⟩
   simp[zew,c146,k8,k9,k1,he]
   rfl
  |false=>
   rw[if_neg (fun h=>by cases h.2)]
   refine⟨zaM,run _ ?_,rfl,zE⟩
   simp[zew,c146,k8,k9,k1,he]
   rfl
theorem zu7 (x:Sg) (s:Ss) (hs:SlN s.held) (i:Int):okC (W.loop [2,4,7] zp1 [(2,I i),(4,.optr 1 0 0 0),(7,I 0)] [.arr 0 8 false [x.av],.arr 0 3 false [s.av]])
  (fun q F G=>if decide (i∈s.held.l)=true then q= .ret∧F.get 6= .bool true else q= .exit 1):=by
 have hL:=zbZ (Φ:=Φ) (live:=[2,4,7]) (L:=zp1) s.held.l (fun _ a (_:Unit)=>if decide (a=i)=true then (.inr ():Unit⊕Unit) else .inl ())
  (fun k _ F G=>F=[(2,I i),(4,.optr 1 0 0 0),(7,I k)]∧G=[.arr 0 8 false [x.av],.arr 0 3 false [s.av]]) (fun _ q F G=>q= .ret∧F.get 6= .bool true) (fun _ q F G=>q= .exit 1) (s:=())
  (F:=[(2,I i),(4,.optr 1 0 0 0),(7,I 0)]) (H:=[.arr 0 8 false [x.av],.arr 0 3 false [s.av]]) ⟨rfl,rfl⟩ ?_ ?_
 .rw[zfs,zgq]at hL
  cases h:decide (i∈s.held.l) with
  |true=>rw[h]at hL;simp only[if_true]at hL⊢;exact hL
  |false=>rw[h]at hL;simp only[bFt,if_false]at hL⊢;exact hL
 .rintro k a ⟨⟩ F G hk ha ⟨rfl,rfl⟩
  have hka:s.held.l[k]=a:=(gEs.1 ha).2
  have hk':(k:Int)<s.held.l.length:=by omega
  have hw:=zh (k:=k) (by have:=hs.2;omega)
  by_cases h:a=i
  .subst h;simp[zjA,zow,hk,hk',hka]
  .simp[zjA,zow,hk,hk',hka,h,hw]
 .rintro⟨⟩ F G ⟨rfl,rfl⟩
  simp[zjA,zow]
theorem e57 (x:Sg) (s:Ss) (hs:SlN s.held) (i:Int):W.pure 57 [x.av,s.av,I i]=some (.bool (zac x s.pl i)):=by
 unfold zac
 have run:∀(A:Option AV),((zaN W fi57 [x.av,s.av,I i] []).bind fun p=>frz p.2 8 p.1)=A→W.pure 57 [x.av,s.av,I i]=A:=fun A h=>by rw[ze Φ57 (by simp)];exact h
 refine run _ ?_
 have hp:s.pl.count=s.count:=rfl
 have hp2:s.pl.ended=s.ended:=rfl
 by_cases k8:x.kind=8
 .obtain⟨q,F,G,d1,d2⟩:=zc.1 (zu7 x s hs i)
  rw[if_pos k8]
  have e:decide (i∈s.pl.held)=decide (i∈s.held.l):=decide_eq_decide.2 Iff.rfl
  rw[e]
  cases h:decide (i∈s.held.l) with
  |true=>
   rw[h]at d2
   simp only[if_true]at d2
   obtain⟨rfl,d3⟩:=d2
   simp[fi57,c57,k8,d1,d3]
  |false=>
   rw[h]at d2
   simp only[bFt,if_false]at d2
   subst d2
   simp[fi57,c57,k8,d1]
 rw[if_neg k8]
 by_cases k9:x.kind=9
 .rw[if_pos k9,hp]
  by_cases hi:i=0
  .rw[if_pos hi]
   by_cases h1:s.count=1
   .simp[fi57,c57,k8,eq_true k9,hi,h1]
   .by_cases h3:s.count=3<;>simp[fi57,c57,k8,eq_true k9,hi,h1,h3]
  .rw[if_neg hi]
   by_cases h2:2≤s.count<;>simp[fi57,c57,k8,eq_true k9,hi,h2]
 .rw[if_neg k9,hp2]
  simp[fi57,c57,k8,k9]
structure FsN (s:Fs):Prop where
 st:s.stages.l.length≤1000
 cr:s.credits.l.length≤1000
 ou:s.outputs.l.length≤1000
 ns:SlN s.stages
 nc:SlN s.credits
 no:SlN s.outputs
 hs:∀t∈s.stages.l,SlN t.held
 hc:∀c∈s.credits.l,SlN c.items
 ho:∀o∈s.outputs.l,SlN o
theorem zc8 {s:Fs} {i:Nat} {t:Ss} (h:s.stages.l[i]?=some t):stAt s.pl i=t.pl:=by
 unfold stAt Fs.pl
 simp[gEd,h]
theorem zhi {s:Fs} {i:Nat} {t:Cr} (h:s.credits.l[i]?=some t):crAt s.pl i=t.pl:=by
 unfold crAt Fs.pl
 simp[gEd,h]
def cr1B (s:FS) (c:CC) (y:Pi):Bool:=decide (crI c=0)&&decide (c.cap=y.capacity)&&(c.closed==(stAt s y.src).ended)&&(c.closed||decide (c.granted=c.taken+c.cap))
def AllB (p:Nat→Prop) (k e:Nat) (fr:List Nat) (F0:Fr) (rv:Nat) (A B:Blk) (q:LX) (F:Fr) (H:Heap):Prop:=
 ((∀j:Nat,k≤j→p j)∧q= .exit e∧F.keep fr=F0∧H[0]?=some A∧H[1]?=some B)∨((∃j:Nat,¬p j)∧q= .ret∧F.get rv= .bool false)
section
variable {x:Pl} {s:Fs}
theorem app0 {H:Heap} {i:Nat} {A:Blk} (h:H[i]?=some A) (K:Heap):(H++K)[i]?=some A:=by
 rw[gEa (gEs.1 h).1];exact h
theorem two0 (H:Heap) (A B:Blk):(H++[A,B])[H.length]?=some A:=by simp
theorem two1 (H:Heap) (A B:Blk):(H++[A,B])[H.length+1]?=some B:=by
 rw[gEr (by omega)];simp
theorem zpA (hx:PlN x) (hs:FsN s) (hr:InR x.stages.l.length x.pipes.l) (hl:s.credits.l.length=x.pipes.l.length) (hl2:s.stages.l.length=x.stages.l.length):∀(rest:List Cr) (k:Nat) (H:Heap),s.credits.l.drop k=rest→k≤s.credits.l.length→H[0]?=some (.arr 0 2 false [x.av])→H[1]?=some (.arr 0 4 false [s.av])→
  okC (W.loop [2,3,13,14,15] zp0 [(2,.optr 0 0 0 0),(3,.optr 1 0 0 0),(13,Sl.av Cr.av 6 s.credits),(14,I s.credits.l.length),(15,I k)] H)
   (fun q F H'=>AllB (fun j=>∀c y,s.credits.l[j]?=some c→x.pipes.l[j]?=some y→cr1B s.pl c.pl y=true) k 0 [2,3] [(2,.optr 0 0 0 0),(3,.optr 1 0 0 0)] 4 (.arr 0 2 false [x.av]) (.arr 0 4 false [s.av]) q F H'):=by
 have hcr:=hs.cr
 intro rest
 induction rest with
 |nil=>
  intro k H h1 h2 hA hB
  have hk:=zf h1 h2
  rw[zb]
  simp[zde,zhm,hk]
  exact Or.inl ⟨fun j hj c y hc _=>by have:=(gEs.1 hc).1;omega,rfl,rfl,hA,hB⟩
 |cons c rest ih=>
  intro k H h1 h2 hA hB
  obtain⟨hlt,hc,hrr⟩:=zn h1
  have hlt':(k:Int)<s.credits.l.length:=by omega
  have hw:=zh (k:=k) (by omega)
  have hlp:k<x.pipes.l.length:=by omega
  obtain⟨y,hy⟩:∃y,x.pipes.l[k]?=some y:=⟨_,gEg hlp⟩
  obtain⟨r1,r2,r3,r4⟩:=hr y (lMg hy)
  have hsl:y.src.toNat<s.stages.l.length:=by omega
  obtain⟨t,ht⟩:∃t,s.stages.l[y.src.toNat]?=some t:=⟨_,gEg hsl⟩
  have hsc:=hs.hc c (lMg hc)
  have c1:=e137 c hsc.len
  have hst:stAt s.pl y.src=t.pl:=by
   have:=zc8 ht
   rwa [show ((y.src.toNat:Nat):Int)=y.src by omega]at this
  have a0:=fun K=>app0 hA K
  have a1:=fun K=>app0 hB K
  have b0:=two0 H
  have b1:=two1 H
  have b2:∀B,(H++[B])[H.length]?=some B:=fun B=>zD H B
  have ih':cr1B s.pl c.pl y=true→okC (W.loop [2,3,13,14,15] zp0 [(2,.optr 0 0 0 0),(3,.optr 1 0 0 0),(13,Sl.av Cr.av 6 s.credits),(14,I s.credits.l.length),(15,I ((k:Int)+1))] (H++[.arr 0 6 false [c.av],.arr 0 5 false [y.av]]))
   (fun q F H'=>AllB (fun j=>∀c y,s.credits.l[j]?=some c→x.pipes.l[j]?=some y→cr1B s.pl c.pl y=true) k 0 [2,3] [(2,.optr 0 0 0 0),(3,.optr 1 0 0 0)] 4 (.arr 0 2 false [x.av]) (.arr 0 4 false [s.av]) q F H'):=by
   intro hb
   have:=ih (k+1) (H++[.arr 0 6 false [c.av],.arr 0 5 false [y.av]]) hrr (by omega) (a0 _) (a1 _)
   simp only[iNa,iCo]at this
   obtain⟨q,F,H',d1,d2⟩:=zc.1 this
   rw[d1]
   rcases d2 with⟨d3,d4⟩|d3
   .refine Or.inl ⟨fun j hj=>?_,d4⟩
    by_cases hjk:j=k
    .subst hjk
     intro c' y' hc' hy'
     rw[hc]at hc';cases hc'
     rw[hy]at hy';cases hy'
     exact hb
    .exact d3 j (by omega)
   .exact Or.inr d3
  have bad:cr1B s.pl c.pl y=false→∃j:Nat,¬∀c y,s.credits.l[j]?=some c→x.pipes.l[j]?=some y→cr1B s.pl c.pl y=true:=fun hb=>⟨k,fun h=>by rw[h c y hc hy]at hb;cases hb⟩
  have hB0:cr1B s.pl c.pl y=(decide (crI c.pl=0)&&decide (c.cap=y.capacity)&&(c.closed==t.ended)&&(c.closed||decide (c.granted=c.taken+c.cap))):=by
   unfold cr1B;rw[hst];rfl
  rw[zb]
  by_cases h1:crI c.pl=0
  rotate_left
  .have hb:cr1B s.pl c.pl y=false:=by rw[hB0];simp[h1]
   simp[zde,zhm,hlt,hlt',hlp,hc,hy,a0,a1,b0,b1,b2,c1,h1,gEz, -getElem?_pos]
   exact Or.inr ⟨bad hb,rfl,rfl⟩
  have hv:=(zaO _).1 h1
  rw[h1]at c1
  have g1:=hv.sg;have g2:=hv.gm;have g3:=hv.t0;have g4:=hv.ts;have g5:=hv.c1;have g6:=hv.c2
  simp only[Cr.pl]at g1 g2 g3 g4 g5 g6
  have w1:IntKind.wrap .i64 (c.taken+c.cap)=c.taken+c.cap:=zz (by omega) (by omega)
  by_cases h2:c.cap=y.capacity
  rotate_left
  .have hb:cr1B s.pl c.pl y=false:=by rw[hB0];simp[h2]
   simp[zde,zhm,hlt,hlt',hlp,hc,hy,a0,a1,b0,b1,b2,c1,h2,gEz, -getElem?_pos]
   exact Or.inr ⟨bad hb,rfl,rfl⟩
  by_cases h3:c.closed=t.ended
  rotate_left
  .have hb:cr1B s.pl c.pl y=false:=by rw[hB0];simp[h3]
   have h3':(c.closed !=t.ended)=true:=by simp[h3]
   simp[zde,zhm,hlt,hlt',hlp,hc,hy,a0,a1,b0,b1,b2,c1,eq_true h2,r1,ht,h3',gEz, -getElem?_pos]
   exact Or.inr ⟨bad hb,rfl,rfl⟩
  have h3':(c.closed !=t.ended)=false:=by simp[h3]
  cases h4:c.closed with
  |true=>
   have hb:cr1B s.pl c.pl y=true:=by rw[hB0];simp[h1,h2,←h3,h4]
   rw[h4]at h3'
   simp[zde,zhm,hlt,hlt',hlp,hc,hy,a0,a1,b0,b1,b2,c1,eq_true h2,r1,ht,h3',h4,hw,gEz, -getElem?_pos]
   exact ih' hb
  |false=>
   rw[h4]at h3'
   by_cases h5:c.granted=c.taken+c.cap
   .have hb:cr1B s.pl c.pl y=true:=by rw[hB0];simp[h1,h2,←h3,h5]
    simp[zde,zhm,hlt,hlt',hlp,hc,hy,a0,a1,b0,b1,b2,c1,eq_true h2,r1,ht,h3',h4,eq_true h5,w1,hw,gEz, -getElem?_pos]
    exact ih' hb
   .have hb:cr1B s.pl c.pl y=false:=by rw[hB0];simp[h4,h5]
    simp[zde,zhm,hlt,hlt',hlp,hc,hy,a0,a1,b0,b1,b2,c1,eq_true h2,r1,ht,h3',h4,h5,w1,gEz, -getElem?_pos]
    exact Or.inr ⟨bad hb,rfl,rfl⟩
end
section
variable {x:Pl} {s:Fs}
def zoY (x:Pl) (s:FS) (i:Nat):Prop:=∀n∈zjj (sgAt x i) (stAt s i),endC (crAt s (pIn x i n))=true
def zy7 (x:Pl) (s:FS) (i:Nat) (l:List Int) (F0:Fr) (H0:Heap) (q:LX) (F:Fr) (H:Heap):Prop:=
 ((∀n∈l,endC (crAt s (pIn x i n))=true)∧q= .exit 4∧F.keep [2,3,64,65,66]=F0∧H=H0)∨((∃n∈l,endC (crAt s (pIn x i n))=false)∧q= .ret∧F.get 4= .bool false)
theorem zpC (hx:PlN x) (hv:PlV x) (hs:FsN s) (hl:s.credits.l.length=x.pipes.l.length) (i:Nat) (hi:i<x.stages.l.length) (y:Sl Int) (hy:y.l.length≤1000) (hn:∀n∈y.l,0≤n∧n<inK (sgAt x i).kind) (z64 z65 z66:AV) (o1:okO z64=some z64) (o2:okO z65=some z65) (o3:okO z66=some z66) (H:Heap) (hA:H[0]?=some (.arr 0 2 false [x.av])) (hB:H[1]?=some (.arr 0 4 false [s.av])):∀(rest:List Int) (k:Nat),y.l.drop k=rest→k≤y.l.length→
  okC (W.loop [2,3,8,64,65,66,77,78,79] zsU [(2,.optr 0 0 0 0),(3,.optr 1 0 0 0),(8,I i),(64,z64),(65,z65),(66,z66),(77,Sl.av I 1 y),(78,I y.l.length),(79,I k)] H)
   (fun q F H'=>zy7 x s.pl i rest [(2,.optr 0 0 0 0),(3,.optr 1 0 0 0),(64,z64),(65,z65),(66,z66)] H q F H'):=by
 intro rest
 induction rest with
 |nil=>
  intro k h1 h2
  have hk:=zf h1 h2
  rw[zb]
  simp[zju,zoq,hk,o1,o2,o3]
  exact Or.inl ⟨by simp,rfl,rfl,rfl⟩
 |cons n rest ih=>
  intro k h1 h2
  obtain⟨hlt,hnk,hr⟩:=zn h1
  have hlt':(k:Int)<y.l.length:=by omega
  have hw:=zh (k:=k) (by omega)
  obtain⟨n0,n1⟩:=hn n (lMg hnk)
  obtain⟨j,p,hp,e1,e2⟩:=hv.allIn i n.toNat hi (by omega)
  have hpin:pIn x i n=j:=by
   have:=zcK hv.toPiV hp
   rwa [e1,e2,show ((n.toNat:Nat):Int)=n by omega]at this
  have c1:=e69 x hx.pi i n
  rw[hpin]at c1
  have hjl:j<s.credits.l.length:=by rw[hl];exact (gEs.1 hp).1
  obtain⟨c,hc⟩:∃c,s.credits.l[j]?=some c:=⟨_,gEg hjl⟩
  have c2:=e133 c (hs.hc c (lMg hc)).len
  have hcp:crAt s.pl (pIn x i n)=c.pl:=by rw[hpin];exact zhi hc
  have j0:¬(j:Int)<0:=by omega
  rw[zb]
  cases he:endC c.pl with
  |true=>
   rw[he]at c2
   obtain⟨q,F,H',d1,d2⟩:=zc.1 (ih (k+1) hr (by omega))
   simp only[iNa,iCo]at d1
   simp[zju,zoq,hlt,hlt',hnk,hA,hB,c1,hc,c2,hw,d1,o1,o2,o3,gEz, -getElem?_pos]
   rcases d2 with⟨d3,d4⟩|⟨⟨m,m1,m2⟩,d4⟩
   .exact Or.inl ⟨fun m hm=>by rcases lMc.1 hm with rfl|hm;rw[hcp];exact he;exact d3 m hm,d4⟩
   .exact Or.inr ⟨⟨m,List.mem_cons_of_mem _ m1,m2⟩,d4⟩
  |false=>
   rw[he]at c2
   simp[zju,zoq,hlt,hlt',hnk,hA,hB,c1,hc,c2,o1,o2,o3,gEz, -getElem?_pos]
   exact Or.inr ⟨⟨n,by simp,by rw[hcp];exact he⟩,rfl,rfl⟩
theorem zmS {g:Sg} {t:SS} (h:zan g t=0):(zjj g t).length≤1000:=by
 obtain⟨g1,g2⟩:=zx.1 h
 obtain⟨f1,f2,f3,f4⟩:=zQ g2
 unfold zjj
 split
 .rename_i k8
  have:zX g=2:=by simp[zX,k8]
  omega
 .split
  .split
   .simp
   .split
    .simp
    .split<;>simp
  .split<;>simp
theorem zpB (hx:PlN x) (hv:PlV x) (hs:FsN s) (hl:s.credits.l.length=x.pipes.l.length) (hl2:s.stages.l.length=x.stages.l.length) (hN:∀i:Nat,i<x.stages.l.length→zan (sgAt x i) (stAt s.pl i)=0):∀(rest:List Ss) (k:Nat) (H:Heap),s.stages.l.drop k=rest→k≤s.stages.l.length→H[0]?=some (.arr 0 2 false [x.av])→H[1]?=some (.arr 0 4 false [s.av])→
  okC (W.loop [2,3,64,65,66] zsT [(2,.optr 0 0 0 0),(3,.optr 1 0 0 0),(64,Sl.av Ss.av 3 s.stages),(65,I s.stages.l.length),(66,I k)] H)
   (fun q F H'=>AllB (fun i=>i<x.stages.l.length→zoY x s.pl i) k 2 [] [] 4 (.arr 0 2 false [x.av]) (.arr 0 4 false [s.av]) q F H'):=by
 have hst:=hs.st
 intro rest
 induction rest with
 |nil=>
  intro k H h1 h2 hA hB
  have hk:=zf h1 h2
  rw[zb]
  simp[zjt,zop,hk]
  exact Or.inl ⟨fun j hj hjl=>by omega,rfl,rfl,hA,hB⟩
 |cons t rest ih=>
  intro k H h1 h2 hA hB
  obtain⟨hlt,ht,hrr⟩:=zn h1
  have hlt':(k:Int)<s.stages.l.length:=by omega
  have hw:=zh (k:=k) (by omega)
  have hkx:k<x.stages.l.length:=by omega
  have hg:=zaK hkx
  have hne:=hN k hkx
  have hsp:=zc8 ht
  rw[hsp]at hne
  have hsc:=hs.hs t (lMg ht)
  have h9:(sgAt x k).kind=9→0≤t.count∧t.count≤3:=fun k9=>by
   obtain⟨f1,f2,f3,f4⟩:=zQ (zx.1 hne).2
   have hC:zN (sgAt x k)=3:=by simp[zN,k9]
   have f1':0≤t.count:=f1
   have f2':t.count≤zN (sgAt x k):=f2
   exact⟨f1',by omega⟩
  obtain⟨y,c1,c2,c3⟩:=e146 (sgAt x k) t hsc h9
  have a0:=fun K=>app0 hA K
  have a1:=fun K=>app0 hB K
  have b2:∀B,(H++[B])[H.length]?=some B:=fun B=>zD H B
  obtain⟨q,F,H',d1,d2⟩:=zc.1 (zpC hx hv hs hl k hkx y (by rw[c2];exact zmS hne) (fun n hn=>by rw[c2]at hn;have:=(zgI hne n).1 hn;exact⟨this.1,this.2.1⟩) (Sl.av Ss.av 3 s.stages) (I s.stages.l.length) (I k) rfl rfl rfl (H++[.arr 0 3 false [t.av]]) (a0 _) (a1 _) y.l 0 rfl (by omega))
  rw[c2]at d2
  simp only[Int.natCast_zero]at d1
  rw[zb]
  rcases d2 with⟨d3,rfl,d4,rfl⟩|⟨⟨m,m1,m2⟩,rfl,d4⟩
  .simp at d4
   have ih:=ih (k+1) (H++[.arr 0 3 false [t.av]]) hrr (by omega) (a0 _) (a1 _)
   simp only[iNa,iCo]at ih
   obtain⟨q,F',H',f1,f2⟩:=zc.1 ih
   simp[zjt,zop,hlt,hlt',hkx,ht,hg,a0,a1,b2,c1,d1,d4,hw,f1,gEz, -getElem?_pos]
   rcases f2 with⟨f3,f4⟩|f3
   .refine Or.inl ⟨fun j hj hjl=>?_,f4⟩
    by_cases hjk:j=k
    .subst hjk
     unfold zoY
     rw[hsp]
     exact d3
    .exact f3 j (by omega) hjl
   .exact Or.inr f3
  .simp[zjt,zop,hlt,hlt',hkx,ht,hg,a0,a1,b2,c1,d1,d4,gEz, -getElem?_pos]
   refine Or.inr ⟨⟨k,fun h=>?_⟩,rfl,d4⟩
   have:=h hkx m (by rw[hsp];exact m1)
   rw[this]at m2;cases m2
theorem zpx (hv:PlV x) {s:FS} (hl:s.cr.length=x.pipes.l.length) (hN:∀i:Nat,i<x.stages.l.length→zan (sgAt x i) (stAt s i)=0):
  (∀i:Nat,i<x.stages.l.length→zoY x s i)↔∀(k:Nat) (c:CC) (y:Pi),s.cr[k]?=some c→x.pipes.l[k]?=some y→zac (sgAt x y.dst) (stAt s y.dst) y.input=true→endC c=true:=by
 constructor
 .intro h k c y hc hy hn
  have hr:=hv.rng k y hy
  have hd:((y.dst.toNat:Nat):Int)=y.dst:=by omega
  have:=h y.dst.toNat (by omega) y.input (by
   rw[hd]
   exact (zgI (by have:=hN y.dst.toNat (by omega);rwa [hd]at this) _).2 ⟨hr.2.2.2.2.2.2.2.2.1,hr.2.2.2.2.2.2.2.2.2.1,hn⟩)
  rw[hd,zcK hv.toPiV hy,za4 hc]at this
  exact this
 .intro h i hi n hn
  obtain⟨n0,n1,n2⟩:=(zgI (hN i hi) n).1 hn
  obtain⟨j,p,hp,e1,e2⟩:=hv.allIn i n.toNat hi (by omega)
  have hpin:pIn x i n=j:=by
   have:=zcK hv.toPiV hp
   rwa [e1,e2,show ((n.toNat:Nat):Int)=n by omega]at this
  have hjl:j<s.cr.length:=by rw[hl];exact (gEs.1 hp).1
  have hc:=gEg hjl
  rw[hpin,za4 hc]
  exact h j _ p hc hp (by rw[e1,e2,show ((n.toNat:Nat):Int)=n by omega];exact n2)
theorem zhh (s:FS) (c:CC) (y:Pi):crOk x s c y=(cr1B s c y&&(!zac (sgAt x y.dst) (stAt s y.dst) y.input||endC c)):=rfl
theorem zsu {k:Nat} {c:CC} (h:s.pl.cr[k]?=some c):∃c',s.credits.l[k]?=some c'∧c=c'.pl:=by
 unfold Fs.pl at h
 simp only[gEm]at h
 cases hk:s.credits.l[k]? with
 |none=>rw[hk]at h;cases h
 |some c'=>rw[hk]at h;cases h;exact⟨c',rfl,rfl⟩
theorem e98 (hx:PlN x) (hv:PlV x) (hs:FsN s) (hl:s.credits.l.length=x.pipes.l.length) (hl2:s.stages.l.length=x.stages.l.length) (hN:∀i:Nat,i<x.stages.l.length→zan (sgAt x i) (stAt s.pl i)=0):
  W.pure 98 [x.av,s.av]=some (.bool (all2 (crOk x s.pl) s.pl.cr x.pipes.l)):=by
 have hplc:s.pl.cr.length=x.pipes.l.length:=by simp[Fs.pl,hl]
 have hr:InR x.stages.l.length x.pipes.l:=fun y hy=>by
  obtain⟨k,hk⟩:=List.getElem?_of_mem hy
  have:=hv.rng k y hk
  exact⟨this.1,this.2.1,this.2.2.1,this.2.2.2.1⟩
 have run:∀(A:Option AV),((zaN W fi98 [x.av,s.av] []).bind fun p=>frz p.2 8 p.1)=A→W.pure 98 [x.av,s.av]=A:=fun A h=>by rw[ze Φ98 (by simp)];exact h
 have val:∀b:Bool,(b=true↔(∀(k:Nat) (c:CC) (y:Pi),s.pl.cr[k]?=some c→x.pipes.l[k]?=some y→crOk x s.pl c y=true))→all2 (crOk x s.pl) s.pl.cr x.pipes.l=b:=fun b h=>by
  rw[Bool.eq_iff_iff,zb6,h]
  exact⟨fun h=>h.2,fun h=>⟨hplc,h⟩⟩
 have hnt:=zpx hv hplc hN
 obtain⟨q,F,H,d1,d2⟩:=zc.1 (zpA hx hs hr hl hl2 s.credits.l 0 [.arr 0 2 false [x.av],.arr 0 4 false [s.av]] rfl (by omega) rfl rfl)
 simp at d1
 rcases d2 with⟨d3,rfl,d4,dA,dB⟩|⟨⟨j,d3⟩,rfl,d4⟩
 .simp at d4
  obtain⟨q,F',H',f1,f2⟩:=zc.1 (zpB hx hv hs hl hl2 hN s.stages.l 0 H rfl (by omega) dA dB)
  simp at f1
  rcases f2 with⟨f3,rfl,f4,fA,fB⟩|⟨⟨j,f3⟩,rfl,f4⟩
  .rw[val true ?_]
   .refine run _ ?_
    simp[fi98,c98,d1,d4,dA,dB,f1,gEz, -getElem?_pos]
   .simp only[true_iff]
    intro k c y hc hy
    obtain⟨c',hc',rfl⟩:=zsu hc
    rw[zhh,d3 k (by omega) c' y hc' hy,Bool.true_and]
    have:=hnt.1 (fun i hi=>f3 i (by omega) hi) k _ y hc hy
    cases hn:zac (sgAt x y.dst) (stAt s.pl y.dst) y.input with
    |false=>rfl
    |true=>rw[this hn];rfl
  .rw[val false ?_]
   .refine run _ ?_
    simp[fi98,c98,d1,d4,dA,dB,f1,f4,gEz, -getElem?_pos]
   .simp only[bFt,false_iff]
    intro h
    refine f3 fun hj=>hnt.2 (fun k c y hc hy hn=>?_) j hj
    have:=h k c y hc hy
    rw[zhh,hn]at this
    simpa using (Bool.and_eq_true_iff.1 this).2
 .rw[val false ?_]
  .refine run _ ?_
   simp[fi98,c98,d1,d4]
  .simp only[bFt,false_iff]
   intro h
   refine d3 fun c y hc hy=>?_
   have hc':s.pl.cr[j]?=some c.pl:=by simp[Fs.pl,hc]
   have:=h j _ y hc' hy
   rw[zhh]at this
   exact (Bool.and_eq_true_iff.1 this).1
end
theorem zvE (n:Int) (H:Heap):W.call (.clo 97 [] []) [I n] H=some (.bool (!isIt n),H):=by
 have c1:=e39 n (-1099511627776) 1099511627776
 rw[zj Φ97]
 simp[fi97,c97,c1,isIt]
section
variable {x:Pl} {s:Fs}
theorem zpH (hx:PlN x) (hs:FsN s) (hl2:s.stages.l.length=x.stages.l.length):∀(rest:List Ss) (k:Nat) (H:Heap),s.stages.l.drop k=rest→k≤s.stages.l.length→H[0]?=some (.arr 0 2 false [x.av])→H[1]?=some (.arr 0 4 false [s.av])→
  okC (W.loop [2,3,37,38,39] zs6 [(2,.optr 0 0 0 0),(3,.optr 1 0 0 0),(37,Sl.av Ss.av 3 s.stages),(38,I s.stages.l.length),(39,I k)] H)
   (fun q F H'=>AllB (fun i=>i<x.stages.l.length→zan (sgAt x i) (stAt s.pl i)=0) k 0 [2,3] [(2,.optr 0 0 0 0),(3,.optr 1 0 0 0)] 4 (.arr 0 2 false [x.av]) (.arr 0 4 false [s.av]) q F H'):=by
 have hst:=hs.st
 intro rest
 induction rest with
 |nil=>
  intro k H h1 h2 hA hB
  have hk:=zf h1 h2
  rw[zb]
  simp[zjC,zoy,hk]
  exact Or.inl ⟨fun j hj hjl=>by omega,rfl,rfl,hA,hB⟩
 |cons t rest ih=>
  intro k H h1 h2 hA hB
  obtain⟨hlt,ht,hrr⟩:=zn h1
  have hlt':(k:Int)<s.stages.l.length:=by omega
  have hw:=zh (k:=k) (by omega)
  have hkx:k<x.stages.l.length:=by omega
  have hg:=zaK hkx
  have hsp:=zc8 ht
  obtain⟨y,c1,c2,c3⟩:=e95 (sgAt x k) (hx.it _ (lMg hg)) t (hs.hs t (lMg ht))
  have a0:=fun K=>app0 hA K
  have a1:=fun K=>app0 hB K
  have b2:∀B,(H++[B])[H.length]?=some B:=fun B=>zD H B
  rw[zb]
  by_cases h:zan (sgAt x k) t.pl=0
  .rw[h]at c1
   have ih:=ih (k+1) (H++[.arr 0 3 false [t.av]]) hrr (by omega) (a0 _) (a1 _)
   simp only[iNa,iCo]at ih
   obtain⟨q,F',H',f1,f2⟩:=zc.1 ih
   simp[zjC,zoy,hlt,hlt',hkx,ht,hg,a0,a1,b2,c1,hw,f1,gEz, -getElem?_pos]
   rcases f2 with⟨f3,f4⟩|f3
   .refine Or.inl ⟨fun j hj hjl=>?_,f4⟩
    by_cases hjk:j=k
    .subst hjk
     rw[hsp];exact h
    .exact f3 j (by omega) hjl
   .exact Or.inr f3
  .simp[zjC,zoy,hlt,hlt',hkx,ht,hg,a0,a1,b2,c1,h,gEz, -getElem?_pos]
   exact Or.inr ⟨⟨k,fun hh=>h (by have:=hh hkx;rwa [hsp]at this)⟩,rfl,rfl⟩
def outB (l:List Int):Bool:=decide (l.length≤200)&&l.all isIt
theorem zpI (hs:FsN s) (A B:Blk):∀(rest:List (Sl Int)) (k:Nat) (H:Heap),s.outputs.l.drop k=rest→k≤s.outputs.l.length→H[0]?=some A→H[1]?=some B→
  okC (W.loop [2,3,58,59,60] zs7 [(2,.optr 0 0 0 0),(3,.optr 1 0 0 0),(58,Sl.av (Sl.av I 1) 1 s.outputs),(59,I s.outputs.l.length),(60,I k)] H)
   (fun q F H'=>AllB (fun i=>∀o,s.outputs.l[i]?=some o→outB o.l=true) k 2 [2,3] [(2,.optr 0 0 0 0),(3,.optr 1 0 0 0)] 4 A B q F H'):=by
 have hou:=hs.ou
 intro rest
 induction rest with
 |nil=>
  intro k H h1 h2 hA hB
  have hk:=zf h1 h2
  rw[zb]
  simp[zgZ,zlY,hk]
  exact Or.inl ⟨fun j hj o ho=>by have:=(gEs.1 ho).1;omega,rfl,rfl,hA,hB⟩
 |cons o rest ih=>
  intro k H h1 h2 hA hB
  obtain⟨hlt,ho,hrr⟩:=zn h1
  have hlt':(k:Int)<s.outputs.l.length:=by omega
  have hw:=zh (k:=k) (by omega)
  have hok:=hs.ho o (lMg ho)
  rw[zb]
  by_cases h2:200<o.l.length
  .have h2':(200:Int)<o.l.length:=by omega
   simp[zgZ,zlY,hlt,hlt',ho,h2,h2',gEz, -getElem?_pos]
   exact Or.inr ⟨⟨k,fun hh=>by have:=hh o ho;simp[outB]at this;omega⟩,rfl,rfl⟩
  have h2':¬(200:Int)<o.l.length:=by omega
  obtain⟨v,H',d1,rfl,d2⟩:=zu.1 (zrh o (by omega) (.clo 97 [] []) rfl (fun a=> !isIt a) H (fun a _ H _=>by rw[zvE];exact⟨rfl,Kept.refl _ _⟩))
  rw[zho]at d1
  cases ha:o.l.all isIt with
  |false=>
   rw[ha]at d1
   simp[zgZ,zlY,hlt,hlt',ho,h2,h2',d1,gEz, -getElem?_pos]
   exact Or.inr ⟨⟨k,fun hh=>by have:=hh o ho;unfold outB at this;rw[ha,Bool.and_false]at this;cases this⟩,rfl,rfl⟩
  |true=>
   rw[ha]at d1
   have ih:=ih (k+1) H' hrr (by omega) (d2.get (by simp) hA) (d2.get (by simp) hB)
   simp only[iNa,iCo]at ih
   obtain⟨q,F',H2,f1,f2⟩:=zc.1 ih
   simp[zgZ,zlY,hlt,hlt',ho,h2,h2',d1,hw,f1,gEz, -getElem?_pos]
   rcases f2 with⟨f3,f4⟩|f3
   .refine Or.inl ⟨fun j hj o' ho'=>?_,f4⟩
    by_cases hjk:j=k
    .subst hjk
     rw[ho]at ho';cases ho'
     unfold outB
     rw[ha];simp;omega
    .exact f3 j (by omega) o' ho'
   .exact Or.inr f3
theorem zcd (x:Pl) (s:FS):fsB x s=true↔s.st.length=x.stages.l.length∧s.cr.length=x.pipes.l.length∧s.out.length=zK x.stages.l∧(∀l∈s.out,outB l=true)∧(∀i:Nat,i<x.stages.l.length→zan (sgAt x i) (stAt s i)=0)∧all2 (crOk x s) s.cr x.pipes.l=true:=by
 unfold fsB
 simp only[bAt,dTe,lAt,and_assoc]
 constructor
 .rintro⟨h1,h2,h3,h4,h5,h6⟩
  refine⟨h1,h2,h3,fun l hl=>?_,fun i hi=>?_,h6⟩
  .have:=h4 l hl
   unfold outB
   simp only[bAt,dTe,lAt]
   exact this
  .obtain⟨_,h5⟩:=zb6.1 h5
   have hil:i<s.st.length:=by omega
   have:=h5 i _ _ (zaK hi) (gEg hil)
   simp only[dTe]at this
   unfold stAt
   rw[iTn,gEd,gEg hil]
   exact this
 .rintro⟨h1,h2,h3,h4,h5,h6⟩
  refine⟨h1,h2,h3,fun l hl=>?_,zb6.2 ⟨h1.symm,fun k a b ha hb=>?_⟩,h6⟩
  .have:=h4 l hl
   unfold outB at this
   simp only[bAt,dTe,lAt]at this
   exact this
  .have hk:=(gEs.1 ha).1
   have:=h5 k hk
   have e1:=zaK hk
   rw[ha]at e1;cases e1
   unfold stAt at this
   rw[iTn,gEd,hb]at this
   simpa using this
theorem e53 (hx:PlN x) (hv:PlV x) (hs:FsN s):W.pure 53 [x.av,s.av]=some (.bool (fsB x s.pl)):=by
 have run:∀(A:Option AV),((zaN W fi53 [x.av,s.av] []).bind fun p=>frz p.2 8 p.1)=A→W.pure 53 [x.av,s.av]=A:=fun A h=>by rw[ze Φ53 (by simp)];exact h
 have p1:s.pl.st.length=s.stages.l.length:=by simp[Fs.pl]
 have p2:s.pl.cr.length=s.credits.l.length:=by simp[Fs.pl]
 have p3:s.pl.out.length=s.outputs.l.length:=by simp[Fs.pl]
 have no:¬(fsB x s.pl=true)→fsB x s.pl=false:=fun h=>by cases hb:fsB x s.pl with|false=>rfl|true=>exact absurd hb h
 have c1:=e43 x.stages hx.st
 by_cases h1:s.stages.l.length=x.stages.l.length
 rotate_left
 .have h1':¬((s.stages.l.length:Int)=x.stages.l.length):=by omega
  rw[no (fun h=>h1 (by rw[←p1];exact ((zcd x s.pl).1 h).1))]
  refine run _ ?_
  simp[fi53,c53,h1,h1']
 by_cases h2:s.credits.l.length=x.pipes.l.length
 rotate_left
 .have h2':¬((s.credits.l.length:Int)=x.pipes.l.length):=by omega
  rw[no (fun h=>h2 (by rw[←p2];exact ((zcd x s.pl).1 h).2.1))]
  refine run _ ?_
  simp[fi53,c53,eq_true h1,h2,h2']
 by_cases h3:s.outputs.l.length=zK x.stages.l
 rotate_left
 .have h3':¬((s.outputs.l.length:Int)=zK x.stages.l):=by omega
  rw[no (fun h=>h3 (by rw[←p3];exact ((zcd x s.pl).1 h).2.2.1))]
  refine run _ ?_
  simp[fi53,c53,eq_true h1,eq_true h2,c1,h3,h3']
 obtain⟨q,F,H,d1,d2⟩:=zc.1 (zpH hx hs h1 s.stages.l 0 [.arr 0 2 false [x.av],.arr 0 4 false [s.av]] rfl (by omega) rfl rfl)
 simp at d1
 rcases d2 with⟨d3,rfl,d4,dA,dB⟩|⟨⟨j,d3⟩,rfl,d4⟩
 rotate_left
 .rw[no (fun h=>d3 fun hj=>((zcd x s.pl).1 h).2.2.2.2.1 j hj)]
  refine run _ ?_
  simp[fi53,c53,eq_true h1,eq_true h2,c1,eq_true h3,d1,d4]
 simp at d4
 have hN:∀i:Nat,i<x.stages.l.length→zan (sgAt x i) (stAt s.pl i)=0:=fun i hi=>d3 i (by omega) hi
 obtain⟨q,F2,H2,f1,f2⟩:=zc.1 (zpI hs _ _ s.outputs.l 0 H rfl (by omega) dA dB)
 simp at f1
 rcases f2 with⟨f3,rfl,f4,fA,fB⟩|⟨⟨j,f3⟩,rfl,f4⟩
 rotate_left
 .rw[no (fun h=>f3 fun o ho=>((zcd x s.pl).1 h).2.2.2.1 o.l (by simp only[Fs.pl];exact List.mem_map.2 ⟨o,lMg ho,rfl⟩))]
  refine run _ ?_
  simp[fi53,c53,eq_true h1,eq_true h2,c1,eq_true h3,d1,d4,dA,dB,f1,f4,gEz, -getElem?_pos]
 simp at f4
 have c2:=e98 hx hv hs h2 h1 hN
 have hfin:fsB x s.pl=all2 (crOk x s.pl) s.pl.cr x.pipes.l:=by
  rw[Bool.eq_iff_iff,zcd]
  constructor
  .exact fun h=>h.2.2.2.2.2
  .intro h
   refine⟨by rw[p1];exact h1,by rw[p2];exact h2,by rw[p3];exact h3,fun l hl=>?_,hN,h⟩
   simp only[Fs.pl]at hl
   obtain⟨o,ho,rfl⟩:=List.mem_map.1 hl
   obtain⟨j,hj⟩:=List.getElem?_of_mem ho
   exact f3 j (by omega) o hj
 rw[hfin]
 refine run _ ?_
 have h1i:=eq_true (show ((s.stages.l.length:Int)=x.stages.l.length) by omega)
 have h2i:=eq_true (show ((s.credits.l.length:Int)=x.pipes.l.length) by omega)
 have h3i:=eq_true (show ((s.outputs.l.length:Int)=zK x.stages.l) by omega)
 simp[fi53,c53,h1i,h2i,h3i,eq_true h1,eq_true h2,c1,eq_true h3,d1,d4,dA,dB,f1,f4,fA,fB,c2,gEz, -getElem?_pos]
theorem e16 (hx:PlN x) (hs:FsN s):W.pure 16 [x.av,s.av]=some (I (vaI x s.pl)):=by
 have run:∀(A:Option AV),((zaN W fi16 [x.av,s.av] []).bind fun p=>frz p.2 8 p.1)=A→W.pure 16 [x.av,s.av]=A:=fun A h=>by rw[ze Φ16 (by simp)];exact h
 have c1:=e24 x hx
 refine run _ ?_
 unfold vaI
 by_cases h:plI x=0
 .rw[h]at c1
  have c2:=e53 hx (zfd h) hs
  cases hb:fsB x s.pl with
  |true=>rw[hb]at c2;rw[if_pos ⟨h,rfl⟩];simp[fi16,c16,c1,c2]
  |false=>rw[hb]at c2;rw[if_neg (fun h=>by cases h.2)];simp[fi16,c16,c1,c2]
 .rw[if_neg (fun hh=>h hh.1)]
  simp[fi16,c16,c1,h]
end
@[simp] theorem findHole_nil (t:Nat):zk t []=none:=rfl
theorem zeI {t:Nat}:∀{G:Heap},zk t G=none→∀l:Heap,zk t (G++l)=(zk t l).map (·+G.length)
 | [],_,l=>by simp
 |b::r,h,l=>by
  cases b<;>simp only[zk,List.cons_append]at h⊢<;>first
   |(split at h
     .cases h
     .rename_i hh
      rw[if_neg hh]
      simp only[Option.map_eq_none_iff]at h
      rw[zeI h l]
      cases zk t l<;>simp;omega)
   |(simp only[Option.map_eq_none_iff]at h
     rw[zeI h l]
     cases zk t l<;>simp;omega)
section
variable {x:Pl} {s:Fs}
theorem zpG (hs:FsN s) (A:Blk) (i:Nat) (o:Sl Int) (ho:s.outputs.l[i]?=some o):∀(rest:List Int) (k:Nat),o.l.drop k=rest→k≤o.l.length→
  okC (W.loop [3,5,6] zs5 [(3,.optr 1 0 0 0),(5,I i),(6,I k)] [A,.arr 0 4 false [s.av]])
   (fun q F H=>if rest.all isIt=true then q= .exit 2∧F.keep [3,5]=[(3,.optr 1 0 0 0),(5,I i)]∧H=[A,.arr 0 4 false [s.av]] else q= .ret∧F.get 4= .bool false):=by
 have hb:=(hs.ho o (lMg ho)).2
 intro rest
 induction rest with
 |nil=>
  intro k h1 h2
  have hk:=zf h1 h2
  rw[zb]
  simp[zgY,zlX,ho,hk,gEz,List.getElem?_cons_succ, -getElem?_pos]
 |cons n rest ih=>
  intro k h1 h2
  obtain⟨hlt,hn,hr⟩:=zn h1
  have hlt':(k:Int)<o.l.length:=by omega
  have hw:=zh (k:=k) (by omega)
  have ih:=ih (k+1) hr (by omega)
  simp only[iNa,iCo]at ih
  rw[zb]
  cases hi:isIt n with
  |false=>
   have:(n::rest).all isIt=false:=by simp[hi]
   rw[this]
   have h3:¬(-1099511627776≤n∧n≤1099511627776):=fun h=>by rw[(zO n).2 h]at hi;cases hi
   by_cases h4:n< -1099511627776
   .simp[zgY,zlX,hlt,hlt',ho,hn,h4,gEz,List.getElem?_cons_succ, -getElem?_pos]
   .have h5:1099511627776<n:=by omega
    simp[zgY,zlX,hlt,hlt',ho,hn,h4,h5,gEz,List.getElem?_cons_succ, -getElem?_pos]
  |true=>
   have:(n::rest).all isIt=rest.all isIt:=by simp[hi]
   rw[this]
   obtain⟨h3,h4⟩:=(zO n).1 hi
   have h5:¬n< -1099511627776:=by omega
   have h6:¬1099511627776<n:=by omega
   simp[zgY,zlX,hlt,hlt',ho,hn,h5,h6,hw,gEz,List.getElem?_cons_succ, -getElem?_pos, -List.all_eq_true]
   simpa using ih
theorem zpF (hs:FsN s) (A:Blk):∀(rest:List (Sl Int)) (k:Nat),s.outputs.l.drop k=rest→k≤s.outputs.l.length→
  okC (W.loop [3,5] zs4 [(3,.optr 1 0 0 0),(5,I k)] [A,.arr 0 4 false [s.av]])
   (fun q F H=>if rest.all (fun o=>outB o.l)=true then q= .exit 0 else q= .ret∧F.get 4= .bool false):=by
 have hou:=hs.ou
 intro rest
 induction rest with
 |nil=>
  intro k h1 h2
  have hk:=zf h1 h2
  rw[zb]
  simp[zgX,zlW,hk]
 |cons o rest ih=>
  intro k h1 h2
  obtain⟨hlt,ho,hr⟩:=zn h1
  have hlt':(k:Int)<s.outputs.l.length:=by omega
  have hw:=zh (k:=k) (by omega)
  have ih:=ih (k+1) hr (by omega)
  simp only[iNa,iCo]at ih
  rw[zb]
  by_cases h2:200<o.l.length
  .have h2':(200:Int)<o.l.length:=by omega
   have hb:outB o.l=false:=by unfold outB;rw[decide_eq_false (by omega)];rfl
   have:(o::rest).all (fun o=>outB o.l)=false:=by simp[hb]
   rw[this]
   simp[zgX,zlW,hlt,hlt',ho,h2,h2',gEz,List.getElem?_cons_succ, -getElem?_pos]
  have h2':¬(200:Int)<o.l.length:=by omega
  obtain⟨q,F,H,d1,d2⟩:=zc.1 (zpG hs A k o ho o.l 0 rfl (by omega))
  simp only[Int.natCast_zero]at d1
  cases ha:o.l.all isIt with
  |false=>
   rw[ha]at d2
   simp only[bFt,if_false]at d2
   obtain⟨rfl,d3⟩:=d2
   have hb:outB o.l=false:=by unfold outB;rw[ha,Bool.and_false]
   have:(o::rest).all (fun o=>outB o.l)=false:=by simp[hb]
   rw[this]
   simp[zgX,zlW,hlt,hlt',ho,h2,h2',d1,d3,gEz,List.getElem?_cons_succ, -getElem?_pos]
  |true=>
   rw[ha]at d2
   simp only[if_true]at d2
   obtain⟨rfl,d3,rfl⟩:=d2
   simp at d3
   have hb:outB o.l=true:=by unfold outB;rw[ha,decide_eq_true (by omega)];rfl
   have:(o::rest).all (fun o=>outB o.l)=rest.all (fun o=>outB o.l):=by simp[hb]
   rw[this]
   simp[zgX,zlW,hlt,hlt',ho,h2,h2',d1,d3,hw,gEz,List.getElem?_cons_succ, -getElem?_pos, -List.all_eq_true]
   simpa using ih
theorem e54 (hx:PlN x) (hs:FsN s):W.pure 54 [x.av,s.av]=some (.bool (decide (s.outputs.l.length=zK x.stages.l)&&s.outputs.l.all (fun o=>outB o.l))):=by
 have run:∀(A:Option AV),((zaN W fi54 [x.av,s.av] []).bind fun p=>frz p.2 8 p.1)=A→W.pure 54 [x.av,s.av]=A:=fun A h=>by rw[ze Φ54 (by simp)];exact h
 have c1:=e48 x hx x.stages.l.length (by omega)
 rw[List.take_length]at c1
 refine run _ ?_
 by_cases h:s.outputs.l.length=zK x.stages.l
 .have hi:=eq_true (show ((s.outputs.l.length:Int)=zK x.stages.l) by omega)
  rw[decide_eq_true h,Bool.true_and]
  obtain⟨q,F,H,d1,d2⟩:=zc.1 (zpF hs (.arr 0 2 false [x.av]) s.outputs.l 0 rfl (by omega))
  simp only[Int.natCast_zero]at d1
  cases ha:s.outputs.l.all (fun o=>outB o.l) with
  |false=>
   rw[ha]at d2
   simp only[bFt,if_false]at d2
   obtain⟨rfl,d3⟩:=d2
   simp[fi54,c54,c1,hi,eq_true h,d1,d3]
  |true=>
   rw[ha]at d2
   simp only[if_true]at d2
   subst d2
   simp[fi54,c54,c1,hi,eq_true h,d1]
 .have hi:¬((s.outputs.l.length:Int)=zK x.stages.l):=by omega
  rw[decide_eq_false h,Bool.false_and]
  simp[fi54,c54,c1,hi,h]
def AllV (p:Nat→Prop) (k e:Nat) (fr:List Nat) (F0:Fr) (rv:Nat) (V:AV) (A B:Blk) (q:LX) (F:Fr) (H:Heap):Prop:=
 ((∀j:Nat,k≤j→p j)∧q= .exit e∧F.keep fr=F0∧H[0]?=some A∧H[1]?=some B∧zk 0 H=none)∨((∃j:Nat,¬p j)∧q= .ret∧F.get rv=V)
theorem zpT (hx:PlN x) (hs:FsN s) (hl2:s.stages.l.length=x.stages.l.length):∀(rest:List Ss) (k:Nat) (H:Heap),s.stages.l.drop k=rest→k≤s.stages.l.length→H[0]?=some (.arr 0 2 false [x.av])→H[1]?=some (.arr 0 4 false [s.av])→zk 0 H=none→
  okC (W.loop [2,3,5] ztn [(2,.optr 0 0 0 0),(3,.optr 1 0 0 0),(5,I k)] H)
   (fun q F H'=>AllV (fun i=>i<x.stages.l.length→zan (sgAt x i) (stAt s.pl i)=0) k 0 [2,3] [(2,.optr 0 0 0 0),(3,.optr 1 0 0 0)] 4 (I 1) (.arr 0 2 false [x.av]) (.arr 0 4 false [s.av]) q F H'):=by
 have hst:=hs.st
 intro rest
 induction rest with
 |nil=>
  intro k H h1 h2 hA hB hH
  have hk:=zf h1 h2
  rw[zb]
  simp[zjM,zoI,hA,hB,hk,gEz, -getElem?_pos]
  exact Or.inl ⟨fun j hj hjl=>by omega,rfl,rfl,hA,hB,hH⟩
 |cons t rest ih=>
  intro k H h1 h2 hA hB hH
  obtain⟨hlt,ht,hrr⟩:=zn h1
  have hlt':(k:Int)<s.stages.l.length:=by omega
  have hw:=zh (k:=k) (by omega)
  have hkx:k<x.stages.l.length:=by omega
  have hg:=zaK hkx
  have hsp:=zc8 ht
  obtain⟨y,c1,c2,c3⟩:=e55 (sgAt x k) (hx.it _ (lMg hg)) t (hs.hs t (lMg ht))
  rw[zb]
  by_cases h:zan (sgAt x k) t.pl=0
  .rw[h]at c1
   have ih:=ih (k+1) H hrr (by omega) hA hB hH
   simp only[iNa,iCo]at ih
   obtain⟨q,F',H',f1,f2⟩:=zc.1 ih
   simp[zjM,zoI,hA,hB,hlt,hlt',hkx,ht,hg,c1,hw,f1,gEz, -getElem?_pos]
   rcases f2 with⟨f3,f4⟩|f3
   .refine Or.inl ⟨fun j hj hjl=>?_,f4⟩
    by_cases hjk:j=k
    .subst hjk
     rw[hsp];exact h
    .exact f3 j (by omega) hjl
   .exact Or.inr f3
  .simp[zjM,zoI,hA,hB,hlt,hlt',hkx,ht,hg,c1,h,gEz, -getElem?_pos]
   exact Or.inr ⟨⟨k,fun hh=>h (by have:=hh hkx;rwa [hsp]at this)⟩,rfl,rfl⟩
theorem zpU (hx:PlN x) (hs:FsN s) (hr:InR x.stages.l.length x.pipes.l) (hl:s.credits.l.length=x.pipes.l.length) (hl2:s.stages.l.length=x.stages.l.length):∀(rest:List Cr) (k:Nat) (H:Heap),s.credits.l.drop k=rest→k≤s.credits.l.length→H[0]?=some (.arr 0 2 false [x.av])→H[1]?=some (.arr 0 4 false [s.av])→zk 0 H=none→
  okC (W.loop [2,3,8] zp4 [(2,.optr 0 0 0 0),(3,.optr 1 0 0 0),(8,I k)] H)
   (fun q F H'=>AllV (fun j=>∀c y,s.credits.l[j]?=some c→x.pipes.l[j]?=some y→crOk x s.pl c.pl y=true) k 2 [] [] 4 (I 1) (.arr 0 2 false [x.av]) (.arr 0 4 false [s.av]) q F H'):=by
 have hcr:=hs.cr
 intro rest
 induction rest with
 |nil=>
  intro k H h1 h2 hA hB hH
  have hk:=zf h1 h2
  rw[zb]
  simp[zbw,zd6,hA,hB,hk,gEz, -getElem?_pos]
  exact Or.inl ⟨fun j hj c y hc _=>by have:=(gEs.1 hc).1;omega,rfl,rfl,hA,hB,hH⟩
 |cons c rest ih=>
  intro k H h1 h2 hA hB hH
  obtain⟨hlt,hc,hrr⟩:=zn h1
  have hlt':(k:Int)<s.credits.l.length:=by omega
  have hw:=zh (k:=k) (by omega)
  have hlp:k<x.pipes.l.length:=by omega
  obtain⟨y,hy⟩:∃y,x.pipes.l[k]?=some y:=⟨_,gEg hlp⟩
  obtain⟨r1,r2,r3,r4⟩:=hr y (lMg hy)
  have hsl:y.src.toNat<s.stages.l.length:=by omega
  obtain⟨t,ht⟩:∃t,s.stages.l[y.src.toNat]?=some t:=⟨_,gEg hsl⟩
  have hdl:y.dst.toNat<s.stages.l.length:=by omega
  obtain⟨u,hu⟩:∃u,s.stages.l[y.dst.toNat]?=some u:=⟨_,gEg hdl⟩
  have hg:=zco (x:=x) (i:=y.dst) r3 r4
  have hsc:=hs.hc c (lMg hc)
  have c1:=e56 c hsc
  have c2:=e57 (sgAt x y.dst) u (hs.hs u (lMg hu)) y.input
  have c3:=e58 c hsc
  have hst:stAt s.pl y.src=t.pl:=by
   have:=zc8 ht
   rwa [show ((y.src.toNat:Nat):Int)=y.src by omega]at this
  have hsu:stAt s.pl y.dst=u.pl:=by
   have:=zc8 hu
   rwa [show ((y.dst.toNat:Nat):Int)=y.dst by omega]at this
  have a0:=fun K=>app0 hA K
  have a1:=fun K=>app0 hB K
  have b0:=two0 H
  have b1:=two1 H
  have b2:∀B,(H++[B])[H.length]?=some B:=fun B=>zD H B
  have hh1:zk 0 (H++[Blk.hole 0])=some H.length:=by rw[zeI hH];simp
  have hh2:∀A B,zk 0 (H++[.arr 0 6 false [A],.arr 0 5 false [B]])=none:=fun A B=>by rw[zeI hH];simp
  have s1:∀B,(H++[Blk.hole 0]).set H.length B=H++[B]:=fun B=>by rw[List.set_append_right _ _ (Nat.le_refl _)];simp
  have ih':crOk x s.pl c.pl y=true→okC (W.loop [2,3,8] zp4 [(2,.optr 0 0 0 0),(3,.optr 1 0 0 0),(8,I ((k:Int)+1))] (H++[.arr 0 6 false [c.av],.arr 0 5 false [y.av]]))
   (fun q F H'=>AllV (fun j=>∀c y,s.credits.l[j]?=some c→x.pipes.l[j]?=some y→crOk x s.pl c.pl y=true) k 2 [] [] 4 (I 1) (.arr 0 2 false [x.av]) (.arr 0 4 false [s.av]) q F H'):=by
   intro hb
   have:=ih (k+1) (H++[.arr 0 6 false [c.av],.arr 0 5 false [y.av]]) hrr (by omega) (a0 _) (a1 _) (hh2 _ _)
   simp only[iNa,iCo]at this
   obtain⟨q,F,H',d1,d2⟩:=zc.1 this
   rw[d1]
   rcases d2 with⟨d3,d4⟩|d3
   .refine Or.inl ⟨fun j hj=>?_,d4⟩
    by_cases hjk:j=k
    .subst hjk
     intro c' y' hc' hy'
     rw[hc]at hc';cases hc'
     rw[hy]at hy';cases hy'
     exact hb
    .exact d3 j (by omega)
   .exact Or.inr d3
  have bad:crOk x s.pl c.pl y=false→∃j:Nat,¬∀c y,s.credits.l[j]?=some c→x.pipes.l[j]?=some y→crOk x s.pl c.pl y=true:=fun hb=>⟨k,fun h=>by rw[h c y hc hy]at hb;cases hb⟩
  have hB0:crOk x s.pl c.pl y=(decide (crI c.pl=0)&&decide (c.cap=y.capacity)&&(c.closed==t.ended)&&(c.closed||decide (c.granted=c.taken+c.cap))&&(!zac (sgAt x y.dst) u.pl y.input||endC c.pl)):=by
   unfold crOk;rw[hst,hsu];rfl
  have hnH:¬H=[]:=fun e=>by rw[e]at hA;cases hA
  have ap1:∀n,apart (.optr n 0 0 0) (Sl.av Pi.av 5 x.pipes)=true:=fun _=>rfl
  have ap2:∀n cs,apart (.optr n 0 0 0) (.eptr cs)=true:=fun _ _=>rfl
  have hole0:([0]:List Nat).map Blk.hole=[Blk.hole 0]:=rfl
  rw[zb]
  by_cases h1:crI c.pl=0
  rotate_left
  .have hb:crOk x s.pl c.pl y=false:=by rw[hB0];simp[h1]
   simp[zbw,zd6,hA,hB,hlt,hlt',hlp,hc,hy,a0,a1,b0,b1,b2,hh1,s1,hnH,ap1,ap2,c1,h1,gEz, -getElem?_pos]
   exact Or.inr ⟨bad hb,rfl,rfl⟩
  have hv:=(zaO _).1 h1
  rw[h1]at c1
  have g1:=hv.sg;have g2:=hv.gm;have g3:=hv.t0;have g4:=hv.ts;have g5:=hv.c1;have g6:=hv.c2
  simp only[Cr.pl]at g1 g2 g3 g4 g5 g6
  have w1:IntKind.wrap .i64 (c.taken+c.cap)=c.taken+c.cap:=zz (by omega) (by omega)
  by_cases h2:c.cap=y.capacity
  rotate_left
  .have hb:crOk x s.pl c.pl y=false:=by rw[hB0];simp[h2]
   simp[zbw,zd6,hA,hB,hlt,hlt',hlp,hc,hy,a0,a1,b0,b1,b2,hh1,s1,hnH,ap1,ap2,c1,h2,gEz, -getElem?_pos]
   exact Or.inr ⟨bad hb,rfl,rfl⟩
  by_cases h3:c.closed=t.ended
  rotate_left
  .have hb:crOk x s.pl c.pl y=false:=by rw[hB0];simp[h3]
   have h3':(c.closed !=t.ended)=true:=by simp[h3]
   simp[zbw,zd6,hA,hB,hlt,hlt',hlp,hc,hy,a0,a1,b0,b1,b2,hh1,s1,hnH,ap1,ap2,c1,eq_true h2,r1,ht,h3',gEz, -getElem?_pos]
   exact Or.inr ⟨bad hb,rfl,rfl⟩
  have h3':(c.closed !=t.ended)=false:=by simp[h3]
  have fin:(c.closed||decide (c.granted=c.taken+c.cap))=true→crOk x s.pl c.pl y=(!zac (sgAt x y.dst) u.pl y.input||endC c.pl):=fun h=>by rw[hB0,h];simp[h1,h2,h3]
  by_cases h4:(c.closed||decide (c.granted=c.taken+c.cap))=true
  .have fin:=fin h4
   have hcond:(c.closed=false∧¬c.granted=c.taken+c.cap)=False:=by
    simp at h4
    apply eq_false
    rintro⟨q1,q2⟩
    rcases h4 with h4|h4
    .rw[q1]at h4;cases h4
    .exact q2 h4
   cases hn:zac (sgAt x y.dst) u.pl y.input with
   |false=>
    rw[hn]at c2 fin
    cases hcl:c.closed with
    |true=>
     rw[hcl]at h3'
     simp[zbw,zd6,hA,hB,hlt,hlt',hlp,hc,hy,a0,a1,b0,b1,b2,hh1,s1,hnH,ap1,ap2,c1,eq_true h2,r1,r3,ht,hu,hg,h3',hcl,w1,c2,hw,gEz, -getElem?_pos]
     exact ih' fin
    |false=>
     rw[hcl]at h3' h4
     have h5:c.granted=c.taken+c.cap:=by simpa using h4
     simp[zbw,zd6,hA,hB,hlt,hlt',hlp,hc,hy,a0,a1,b0,b1,b2,hh1,s1,hnH,ap1,ap2,c1,eq_true h2,r1,r3,ht,hu,hg,h3',hcl,w1,eq_true h5,c2,hw,gEz, -getElem?_pos]
     exact ih' fin
   |true=>
    rw[hn]at c2 fin
    cases he:endC c.pl with
    |true=>
     rw[he]at c3 fin
     cases hcl:c.closed with
     |true=>
      rw[hcl]at h3'
      simp[zbw,zd6,hA,hB,hlt,hlt',hlp,hc,hy,a0,a1,b0,b1,b2,hh1,s1,hnH,ap1,ap2,c1,eq_true h2,r1,r3,ht,hu,hg,h3',hcl,w1,c2,c3,hw,gEz, -getElem?_pos]
      exact ih' fin
     |false=>
      rw[hcl]at h3' h4
      have h5:c.granted=c.taken+c.cap:=by simpa using h4
      simp[zbw,zd6,hA,hB,hlt,hlt',hlp,hc,hy,a0,a1,b0,b1,b2,hh1,s1,hnH,ap1,ap2,c1,eq_true h2,r1,r3,ht,hu,hg,h3',hcl,w1,eq_true h5,c2,c3,hw,gEz, -getElem?_pos]
      exact ih' fin
    |false=>
     rw[he]at c3 fin
     cases hcl:c.closed with
     |true=>
      rw[hcl]at h3'
      simp[zbw,zd6,hA,hB,hlt,hlt',hlp,hc,hy,a0,a1,b0,b1,b2,hh1,s1,hnH,ap1,ap2,c1,eq_true h2,r1,r3,ht,hu,hg,h3',hcl,w1,c2,c3,gEz, -getElem?_pos]
      exact Or.inr ⟨bad fin,rfl,rfl⟩
     |false=>
      rw[hcl]at h3' h4
      have h5:c.granted=c.taken+c.cap:=by simpa using h4
      simp[zbw,zd6,hA,hB,hlt,hlt',hlp,hc,hy,a0,a1,b0,b1,b2,hh1,s1,hnH,ap1,ap2,c1,eq_true h2,r1,r3,ht,hu,hg,h3',hcl,w1,eq_true h5,c2,c3,gEz, -getElem?_pos]
      exact Or.inr ⟨bad fin,rfl,rfl⟩
  .have hb:crOk x s.pl c.pl y=false:=by
    have:(c.closed||decide (c.granted=c.taken+c.cap))=false:=by simpa using h4
    rw[hB0,this];simp
   simp at h4
   rw[h4.1]at h3'
   simp[zbw,zd6,hA,hB,hlt,hlt',hlp,hc,hy,a0,a1,b0,b1,b2,hh1,s1,hnH,ap1,ap2,c1,eq_true h2,r1,ht,h3',h4.1,h4.2,w1,gEz, -getElem?_pos]
   exact Or.inr ⟨bad hb,rfl,rfl⟩
theorem e17 (hx:PlN x) (hs:FsN s):W.pure 17 [x.av,s.av]=some (I (vaI x s.pl)):=by
 have run:∀(A:Option AV),((zaN W fi17 [x.av,s.av] []).bind fun p=>frz p.2 8 p.1)=A→W.pure 17 [x.av,s.av]=A:=fun A h=>by rw[ze Φ17 (by simp)];exact h
 have c1:=e20 x hx
 have c2:=e54 hx hs
 have p1:s.pl.st.length=s.stages.l.length:=by simp[Fs.pl]
 have p2:s.pl.cr.length=s.credits.l.length:=by simp[Fs.pl]
 have p3:s.pl.out.length=s.outputs.l.length:=by simp[Fs.pl]
 have no:¬(plI x=0∧fsB x s.pl=true)→vaI x s.pl=1:=fun h=>by unfold vaI;rw[if_neg h]
 by_cases h:plI x=0
 rotate_left
 .rw[no (fun hh=>h hh.1)]
  refine run _ ?_
  simp[fi17,c17,c1,h]
 rw[h]at c1
 have hv:=zfd h
 have hr:InR x.stages.l.length x.pipes.l:=fun y hy=>by
  obtain⟨k,hk⟩:=List.getElem?_of_mem hy
  have:=hv.rng k y hk
  exact⟨this.1,this.2.1,this.2.2.1,this.2.2.2.1⟩
 by_cases h1:s.stages.l.length=x.stages.l.length
 rotate_left
 .have h1':¬((s.stages.l.length:Int)=x.stages.l.length):=by omega
  rw[no (fun hh=>h1 (by rw[←p1];exact ((zcd x s.pl).1 hh.2).1))]
  refine run _ ?_
  simp[fi17,c17,c1,h1,h1']
 have h1i:=eq_true (show ((s.stages.l.length:Int)=x.stages.l.length) by omega)
 by_cases h2:s.credits.l.length=x.pipes.l.length
 rotate_left
 .have h2':¬((s.credits.l.length:Int)=x.pipes.l.length):=by omega
  rw[no (fun hh=>h2 (by rw[←p2];exact ((zcd x s.pl).1 hh.2).2.1))]
  refine run _ ?_
  simp[fi17,c17,c1,h1i,eq_true h1,h2,h2']
 have h2i:=eq_true (show ((s.credits.l.length:Int)=x.pipes.l.length) by omega)
 cases h3:decide (s.outputs.l.length=zK x.stages.l)&&s.outputs.l.all (fun o=>outB o.l) with
 |false=>
  rw[h3]at c2
  rw[no (fun hh=>by
   obtain⟨q1,q2,q3,q4,_⟩:=(zcd x s.pl).1 hh.2
   have:s.outputs.l.all (fun o=>outB o.l)=true:=lAt.2 fun o ho=>q4 o.l (by simp only[Fs.pl];exact List.mem_map.2 ⟨o,ho,rfl⟩)
   rw[this,←p3,q3]at h3
   simp at h3)]
  refine run _ ?_
  simp[fi17,c17,c1,h1i,eq_true h1,h2i,eq_true h2,c2]
 |true=>
  rw[h3]at c2
  obtain⟨q,F,H,d1,d2⟩:=zc.1 (zpT hx hs h1 s.stages.l 0 [.arr 0 2 false [x.av],.arr 0 4 false [s.av]] rfl (by omega) rfl rfl rfl)
  simp only[Int.natCast_zero]at d1
  rcases d2 with⟨d3,rfl,d4,dA,dB,dH⟩|⟨⟨j,d3⟩,rfl,d4⟩
  rotate_left
  .rw[no (fun hh=>d3 fun hj=>((zcd x s.pl).1 hh.2).2.2.2.2.1 j hj)]
   refine run _ ?_
   simp[fi17,c17,c1,h1i,eq_true h1,h2i,eq_true h2,c2,d1,d4]
  simp at d4
  obtain⟨q,F2,H2,f1,f2⟩:=zc.1 (zpU hx hs hr h2 h1 s.credits.l 0 H rfl (by omega) dA dB dH)
  simp only[Int.natCast_zero]at f1
  rcases f2 with⟨f3,rfl,f4,_⟩|⟨⟨j,f3⟩,rfl,f4⟩
  .have hfs:fsB x s.pl=true:=by
    rw[zcd]
    simp only[bAt,dTe,lAt]at h3
    refine⟨by rw[p1];exact h1,by rw[p2];exact h2,by rw[p3];exact h3.1,fun l hl=>?_,fun i hi=>d3 i (by omega) hi,zb6.2 ⟨by rw[p2];exact h2,fun k c y hc hy=>?_⟩⟩
    .simp only[Fs.pl]at hl
     obtain⟨o,ho,rfl⟩:=List.mem_map.1 hl
     exact h3.2 o ho
    .obtain⟨c',hc',rfl⟩:=zsu hc
     exact f3 k (by omega) c' y hc' hy
   have:vaI x s.pl=0:=by unfold vaI;rw[if_pos ⟨h,hfs⟩]
   rw[this]
   refine run _ ?_
   simp[fi17,c17,c1,h1i,eq_true h1,h2i,eq_true h2,c2,d1,d4,f1]
  .rw[no (fun hh=>f3 fun c y hc hy=>by
    obtain⟨_,q⟩:=zb6.1 ((zcd x s.pl).1 hh.2).2.2.2.2.2
    exact q j c.pl y (by simp[Fs.pl,hc]) hy)]
   refine run _ ?_
   simp[fi17,c17,c1,h1i,eq_true h1,h2i,eq_true h2,c2,d1,d4,f1,f4]
end
@[simp] theorem apart_sl {α:Type} {f:α→AV} {sz:Nat} {x:Sl α} (a b c d:Nat):apart (.optr a b c d) (Sl.av f sz x)=true:=rfl
@[simp] theorem apart_ep (a b c d:Nat) (cs:List AV):apart (.optr a b c d) (.eptr cs)=true:=rfl
def zMv:Mv:=⟨zSs,zaM,false,false,0,0,0⟩
def aMv:Mv:=⟨zSs,zaM,false,false, -1,0,0⟩
theorem zui:bldV [.isl (some true) 0 [],.int .i64 0,.bool false,.isl (some true) 0 [],.bool false,.bool false,.int .i64 0,.int .i64 0,.int .i64 0] [(6,1)] [.int .i64 (-1)]=aMv.av:=rfl
theorem zuj:bldV [.isl (some true) 0 [],.int .i64 0,.bool false,.isl (some true) 0 [],.bool false,.bool false,.int .i64 0,.int .i64 0,.int .i64 0] [] []=zMv.av:=rfl
structure MvR (x:Pl) (i:Int) (m:Mv) (v:MV):Prop where
 st:m.state.pl=v.st
 sh:SlN m.state.held
 out:m.sent.l.map Sl.l=v.out
 so:SlN m.sent
 sa:∀y∈m.sent.l,SlN y
 en:m.ended=v.st.ended
 tk:m.takes=decide (v.kind=2)
 pi:v.kind=2→pIn x i m.inp=v.pipe∧m.item=v.item
 e:m.e=v.e
theorem zfS (g:Sg) (t:SS) (i n:Int):(zcU g t i n).1.ended=false:=by
 unfold zcU
 by_cases h:zbW g t i n=0
 .rw[if_neg (by simp[h])]
  by_cases hz:(zr g t i n).2.2=0
  .exact (zdW h hz).2.1
  .rw[(zkk g t i n hz).1];rfl
 .rw[if_pos h];rfl
section
variable {x:Pl} {s:Fs}
theorem e85 (hx:PlN x) (hv:PlV x) (hs:FsN s) (hf:FsV x s.pl) (i:Nat) (hi:i<x.stages.l.length):
  ∃m:Mv,W.pure 85 [x.av,s.av,I i]=some (.tuple [m.av,.bool (decide ((zad x s.pl i).kind≠0))])∧SlN m.sent∧(∀y∈m.sent.l,SlN y)∧((zad x s.pl i).kind≠0→MvR x i m (zad x s.pl i)):=by
 have run:∀(A:Option AV),((zaN W fi85 [x.av,s.av,I i] []).bind fun p=>frz p.2 8 p.1)=A→W.pure 85 [x.av,s.av,I i]=A:=fun A h=>by rw[ze Φ85 (by simp)];exact h
 have hls:s.stages.l.length=x.stages.l.length:=by have:=hf.ls;simpa[Fs.pl]using this
 have hlc:s.credits.l.length=x.pipes.l.length:=by have:=hf.lc;simpa[Fs.pl]using this
 have hit:i<s.stages.l.length:=by omega
 obtain⟨t,ht⟩:∃t,s.stages.l[i]?=some t:=⟨_,gEg hit⟩
 have hti:s.stages.l[i]=t:=(gEs.1 ht).2
 have hg:=zaK hi
 have hgi:x.stages.l[i]=sgAt x i:=(gEs.1 hg).2
 have hst:=zc8 ht
 have hne:=hf.st i (by omega) (by omega)
 rw[hst]at hne
 obtain⟨g1,g2⟩:=zx.1 hne
 obtain⟨f1,f2,f3,f4⟩:=zQ g2
 have hgx:=hx.it _ (lMg hg)
 have hth:=hs.hs t (lMg ht)
 have z0:MvR x i zMv mvZ:=⟨rfl,zE,rfl,zE,by simp[zMv],rfl,rfl,fun h=>absurd h (by simp[mvZ]),rfl⟩
 generalize hG:sgAt x i=g at *
 have hb0:=zuj
 have hb1:=zui
 have hpe:t.pl.ended=t.ended:=rfl
 have hpc:t.pl.count=t.count:=rfl
 unfold zad
 rw[hG,hst]
 simp only[hpe,hpc]
 cases he:t.ended with
 |true=>
  rw[if_pos rfl]
  refine⟨zMv,run _ ?_,zE,by simp[zMv],fun h=>absurd rfl h⟩
  simp[fi85,c85,hi,hit,hti,hgi,he,hb0, -zaF]
  rfl
 |false=>
 rw[if_neg Bool.false_ne_true]
 by_cases k1:g.kind=1
 .rw[if_pos k1]
  have hdr:s.pl.drain=s.draining:=rfl
  have hC:zN g=g.items.l.length:=by simp[zN,k1]
  have f2':t.count≤zN g:=f2
  by_cases hd:s.draining=false∧t.count<g.items.l.length
  .rw[hdr,if_pos hd]
   obtain⟨u,o,c1,c2,c3,c4,c5,c6⟩:=e135 g hgx t hth (-1) 0
   have hend:=zfS g t.pl (-1) 0
   have hcn:¬t.count=g.items.l.length:=by omega
   refine⟨⟨u,o,false,false, -1,0,(zcU g t.pl (-1) 0).2.2⟩,run _ ?_,c5,c6,fun _=>⟨c2,c3,c4,c5,c6,by simp only;exact hend.symm,rfl,fun h=>absurd h (by simp[mvZ]),rfl⟩⟩
   simp[fi85,c85,hi,hit,hti,hgi,he,hb0,hb1,eq_true k1,hd.1,hcn,c1,aMv, -zaF, -zbx]
  .rw[hdr,if_neg hd]
   obtain⟨u,o,c1,c2,c3,c4,c5,c6⟩:=e134 g hgx t hth (-1)
   have hcn:s.draining=true∨t.count=g.items.l.length:=by
    cases h:s.draining with
    |true=>exact .inl rfl
    |false=>right;apply cBc;intro h2;exact hd ⟨h,by omega⟩
   refine⟨⟨u,o,u.ended,false, -1,0,(endS g t.pl (-1)).2.2⟩,run _ ?_,c5,c6,fun _=>⟨c2,c3,c4,c5,c6,by simp only;rw[←c2];rfl,rfl,fun h=>absurd h (by simp[mvZ]),rfl⟩⟩
   rcases hcn with h|h
   .simp[fi85,c85,hi,hit,hti,hgi,he,hb0,hb1,eq_true k1,h,c1,aMv, -zaF, -zbx]
   .simp[fi85,c85,hi,hit,hti,hgi,he,hb0,hb1,eq_true k1,eq_true h,c1,aMv, -zaF, -zbx]
 .rw[if_neg k1]
  obtain⟨n0,n1⟩:=zeH hne k1
  obtain⟨y,a1,a2,a3⟩:=e95 g hgx t hth
  rw[hne]at a1 a2
  rw[if_pos rfl]at a2
  have hL:zet g t.pl=[za8 g t.pl]:=by
   unfold zet;rw[if_neg]
   rintro (h|h)
   .rw[hpe,he]at h;cases h
   .exact k1 h
  rw[hL]at a2
  generalize hn:za8 g t.pl=n at *
  obtain⟨k,p,hp,e1,e2⟩:=hv.allIn i n.toNat hi (by rw[hG];omega)
  have hpin:pIn x i n=k:=by
   have:=zcK hv.toPiV hp
   rwa [e1,e2,show ((n.toNat:Nat):Int)=n by omega]at this
  have a4:=e69 x hx.pi i n
  rw[hpin]at a4⊢
  have hkl:k<s.credits.l.length:=by rw[hlc];exact (gEs.1 hp).1
  obtain⟨c,hc⟩:∃c,s.credits.l[k]?=some c:=⟨_,gEg hkl⟩
  have hck:s.credits.l[k]=c:=(gEs.1 hc).2
  have hcp:=zhi hc
  rw[hcp]
  have hcn:=hs.hc c (lMg hc)
  have a5:=e133 c hcn.len
  have hci:c.pl.items=c.items.l:=rfl
  rw[hci]
  have hy0:y.l[0]?=some n:=by rw[a2];rfl
  cases hit2:c.items.l with
  |cons a r=>
   obtain⟨u,o,c1,c2,c3,c4,c5,c6⟩:=e135 g hgx t hth n a
   have hend:=zfS g t.pl n a
   refine⟨⟨u,o,false,true,n,a,(zcU g t.pl n a).2.2⟩,run _ ?_,c5,c6,fun _=>⟨c2,c3,c4,c5,c6,by simp only;exact hend.symm,rfl,fun _=>⟨hpin,rfl⟩,rfl⟩⟩
   simp[fi85,c85,hi,hit,hti,hgi,he,hb0,hb1,k1,a1,a2,a4,hkl,hck,hit2,c1,aMv, -zaF, -zbx]
  |nil=>
   cases hen:endC c.pl with
   |true=>
    rw[hen]at a5
    rw[if_pos rfl]
    obtain⟨u,o,c1,c2,c3,c4,c5,c6⟩:=e134 g hgx t hth n
    refine⟨⟨u,o,u.ended,false,n,0,(endS g t.pl n).2.2⟩,run _ ?_,c5,c6,fun _=>⟨c2,c3,c4,c5,c6,by simp only;rw[←c2];rfl,rfl,fun h=>absurd h (by simp[mvZ]),rfl⟩⟩
    simp[fi85,c85,hi,hit,hti,hgi,he,hb0,hb1,k1,a1,a2,a4,hkl,hck,hit2,a5,c1,aMv, -zaF, -zbx]
   |false=>
    rw[hen]at a5
    rw[if_neg Bool.false_ne_true]
    refine⟨zMv,run _ ?_,zE,by simp[zMv],fun h=>absurd rfl h⟩
    simp[fi85,c85,hi,hit,hti,hgi,he,hb0,hb1,k1,a1,a2,a4,hkl,hck,hit2,a5,aMv, -zaF, -zbx]
    rfl
end
section
variable {x:Pl} {s:Fs}
end
section
variable {x:Pl} {s:Fs}
theorem zuV (hx:PlN x) (hv:PlV x) (hs:FsN s) (hf:FsV x s.pl) {i:Nat} (hi:i<x.stages.l.length) {n:Nat} (hn:n<outK (sgAt x i).kind):∃(k:Nat) (c:Cr),pOut x i n=k∧k<s.credits.l.length∧s.credits.l[k]?=some c∧SlN c.items∧crAt s.pl (pOut x i n)=c.pl:=by
 have hlc:s.credits.l.length=x.pipes.l.length:=by have:=hf.lc;simpa[Fs.pl]using this
 obtain⟨k,p,hp,e1,e2⟩:=hv.allOut i n hi hn
 have hpo:pOut x i n=k:=by
  have:=zct hv.toPiV hp
  rwa [e1,e2]at this
 have hkl:k<s.credits.l.length:=by rw[hlc];exact (gEs.1 hp).1
 have hc:=gEg hkl
 exact⟨k,_,hpo,hkl,hc,hs.hc _ (lMg hc),by rw[hpo];exact zhi hc⟩
theorem zu4 (hx:PlN x) (hv:PlV x) (hs:FsN s) (hf:FsV x s.pl) (i:Nat) (hi:i<x.stages.l.length) (o:Sl (Sl Int)) (ho:o.l.length≤outK (sgAt x i).kind) (m:Mv):∀(rest:List (Sl Int)) (k:Nat),o.l.drop k=rest→k≤o.l.length→
  okC (W.loop [2,4,5,12,13,14] zsV [(2,I i),(4,.optr 0 0 0 0),(5,.optr 1 0 0 0),(12,Sl.av (Sl.av I 1) 1 o),(13,I o.l.length),(14,I k)] [.arr 0 2 false [x.av],.arr 0 4 false [s.av],.arr 0 9 false [m.av]])
   (fun q F H=>if fitO x s.pl i (rest.map Sl.l) k=true then q= .exit 0 else q= .ret∧F.get 8= .bool false):=by
 have h2:=zdU (sgAt x i).kind
 intro rest
 induction rest with
 |nil=>
  intro k h1 h2
  have hk:=zf h1 h2
  rw[zb]
  simp[zjv,zor,hk,fitO]
 |cons y rest ih=>
  intro k h1 h2
  obtain⟨hlt,hy,hr⟩:=zn h1
  have hlt':(k:Int)<o.l.length:=by omega
  have hw:=zh (k:=k) (by omega)
  have hyk:o.l[k]=y:=(gEs.1 hy).2
  obtain⟨j,c,c1,c2,c3,c4,c5⟩:=zuV hx hv hs hf hi (n:=k) (by omega)
  have hcj:s.credits.l[j]=c:=(gEs.1 c3).2
  have d1:=e71 x hx.pi i k
  have d2:=e136 c c4.len
  rw[c1]at d1
  rw[zb]
  simp only[List.map_cons,fitO]
  rw[c5]
  by_cases h:(y.l.length:Int)≤zfJ c.pl
  .have h':¬zfJ c.pl<(y.l.length:Int):=by omega
   have ih:=ih (k+1) hr (by omega)
   simp only[iNa,iCo]at ih
   rw[decide_eq_true h,Bool.true_and]
   simp[zjv,zor,hlt,hlt',hyk,d1,c2,hcj,d2,h',hw]
   simpa using ih
  .have h':zfJ c.pl<(y.l.length:Int):=by omega
   rw[decide_eq_false h,Bool.false_and]
   simp[zjv,zor,hlt,hlt',hyk,d1,c2,hcj,d2,h']
theorem e86 (hx:PlN x) (hv:PlV x) (hs:FsN s) (hf:FsV x s.pl) (i:Nat) (hi:i<x.stages.l.length) (m:Mv) (ho:m.sent.l.length≤outK (sgAt x i).kind):W.pure 86 [x.av,s.av,I i,m.av]=some (.bool (fitO x s.pl i (m.sent.l.map Sl.l) 0)):=by
 obtain⟨q,F,H,d1,d2⟩:=zc.1 (zu4 hx hv hs hf i hi m.sent ho m m.sent.l 0 rfl (by omega))
 rw[ze Φ86 (by simp)]
 simp at d1
 cases h:fitO x s.pl i (m.sent.l.map Sl.l) 0 with
 |true=>
  rw[h]at d2
  simp only[if_true]at d2
  subst d2
  simp[fi86,c86,d1]
 |false=>
  rw[h]at d2
  simp only[bFt,if_false]at d2
  obtain⟨rfl,d3⟩:=d2
  simp[fi86,c86,d1,d3]
theorem e37 (hx:PlN x) (hv:PlV x) (hs:FsN s) (hf:FsV x s.pl) (i:Nat) (hi:i<x.stages.l.length):
  ∃m:Mv,W.pure 37 [x.av,s.av,I i]=some (.tuple [m.av,.bool (enB x s.pl i)])∧((zad x s.pl i).kind≠0→MvR x i m (zad x s.pl i)):=by
 obtain⟨m,c1,c2,c3,c4⟩:=e85 hx hv hs hf i hi
 have run:∀(A:Option AV),((zaN W fi37 [x.av,s.av,I i] []).bind fun p=>frz p.2 8 p.1)=A→W.pure 37 [x.av,s.av,I i]=A:=fun A h=>by rw[ze Φ37 (by simp)];exact h
 refine⟨m,run _ ?_,c4⟩
 unfold enB
 by_cases hk:(zad x s.pl i).kind=0
 .simp only[hk,ne_eq,not_true,decide_false]at c1
  simp[fi37,c37,c1,hk]
 .have c4:=c4 hk
  simp only[hk,ne_eq,not_false_iff,decide_true]at c1
  by_cases he:(zad x s.pl i).e=0
  .have hme:m.e=0:=by rw[c4.e,he]
   have hmv:=(zeG hv hf hi hk he).2.mv (zeG hv hf hi hk he).1
   have hlen:m.sent.l.length=outK (sgAt x i).kind:=by rw[←hmv.len,←c4.out];simp
   have c5:=e86 hx hv hs hf i hi m (by omega)
   rw[c4.out]at c5
   simp[fi37,c37,c1,hk,he,hme,c5]
  .have hme:¬m.e=0:=by rw[c4.e];exact he
   simp[fi37,c37,c1,hk,he,hme]
end
theorem zqc {H:Heap} {o:Option Nat} {v:AV} {l:List Int} (h:Grow H 1 o v (l.map I)) (hl:l.length≤1048576) (n:Nat):∃y:Sl Int,frz H (n+1) v=some (Sl.av I 1 y)∧y.l=l∧SlN y:=by
 have:=h.frz (n:=n) (zba (by simp) l)
 cases o with
 |none=>
  have hl0:l=[]:=by simpa using h.2
  subst hl0
  exact⟨zaM,this,rfl,zE⟩
 |some id=>
  rw[if_neg (by simp),zcc]at this
  exact⟨ofL 1 l,this,rfl,zat hl⟩
theorem zkQ (x:Pl) (s:FS) (k:Nat):(idsG (k+1)).filter (enB x s)=(idsG k).filter (enB x s)++if enB x s k=true then [(k:Int)] else []:=by
 have:idsG (k+1)=idsG k++[(k:Int)]:=by simp[idsG,List.range_succ]
 rw[this,List.filter_append]
 congr 1
 by_cases h:enB x s k=true<;>simp[h]
theorem zrZ (x:Pl) (s:FS) (k:Nat):((idsG k).filter (enB x s)).length≤k:=by
 have:=List.length_filter_le (enB x s) (idsG k)
 rw[zcx]at this
 exact this
def EnP (x:Pl) (s:FS) (w e:Nat) (q:LX) (F:Fr) (H:Heap):Prop:=q= .exit e∧∃o,Grow H 1 o (F.get w) ((enL x s).map I)
section
variable {x:Pl} {s:Fs}
theorem zmY (hx:PlN x) (hv:PlV x) (hs:FsN s) (hf:FsV x s.pl):∀(m k:Nat) (H:Heap) (v:AV) (o:Option Nat),k+m=x.stages.l.length→H[0]?=some (.arr 0 2 false [x.av])→H[1]?=some (.arr 0 4 false [s.av])→Grow H 1 o v (((idsG k).filter (enB x s.pl)).map I)→o≠some 0→o≠some 1→
  okC (W.loop [2,3,7,19,20] zto [(2,.optr 0 0 0 0),(3,.optr 1 0 0 0),(7,v),(19,I x.stages.l.length),(20,I k)] H) (fun q F H'=>EnP x s.pl 7 0 q F H')
 |0,k,H,v,o,hk,hA,hB,hG,n0,n1=>by
  have:k=x.stages.l.length:=by omega
  subst this
  rw[zb]
  simp[zjN,zoJ,hG.okO]
  exact⟨rfl,o,hG⟩
 |m+1,k,H,v,o,hk,hA,hB,hG,n0,n1=>by
  have hst:=hx.st
  have hlt:k<x.stages.l.length:=by omega
  have hlt':(k:Int)<x.stages.l.length:=by omega
  have hw:=zh (k:=k) (by omega)
  obtain⟨mv,c1,_⟩:=e37 hx hv hs hf k hlt
  have a0:=fun K=>app0 hA K
  have a1:=fun K=>app0 hB K
  have hG1:=hG.kept (Kept.append none H [.arr 0 9 false [mv.av]]) (by simp)
  rw[zb]
  cases hb:enB x s.pl k with
  |false=>
   rw[hb]at c1
   have hG2:Grow (H++[.arr 0 9 false [mv.av]]) 1 o v (((idsG (k+1)).filter (enB x s.pl)).map I):=by rw[zkQ,hb];simpa using hG1
   have ih:=zmY hx hv hs hf m (k+1) _ v o (by omega) (a0 _) (a1 _) hG2 n0 n1
   simp only[iNa,iCo]at ih
   simp[zjN,zoJ,hlt,hlt',hA,hB,hG.okO,c1,hw,gEz, -getElem?_pos]
   simp[zc4,hw,hG.okO]
   simpa using ih
  |true=>
   rw[hb]at c1
   have hle:=zrZ x s.pl k
   obtain⟨o',v',H',b1,b2,b3,b4,b5⟩:=hG1.app (y:= .isl (some false) 1 [I k]) (xs:=[I k]) (by simp) (by simp) (by simp[zay];omega)
   have hG2:Grow H' 1 o' v' (((idsG (k+1)).filter (enB x s.pl)).map I):=by
    rw[zkQ,hb];simpa using b2
   have l0:=(gEs.1 hA).1
   have l1:=(gEs.1 hB).1
   have m0:o'≠some 0:=by rcases b4 with rfl|⟨_,rfl,_⟩;exact n0;intro e;have e:=Option.some.inj e;rw[List.length_append,List.length_singleton]at e;omega
   have m1:o'≠some 1:=by rcases b4 with rfl|⟨_,rfl,_⟩;exact n1;intro e;have e:=Option.some.inj e;rw[List.length_append,List.length_singleton]at e;omega
   have ih:=zmY hx hv hs hf m (k+1) H' v' o' (by omega) (b3.get n0 (a0 _)) (b3.get n1 (a1 _)) hG2 m0 m1
   simp only[iNa,iCo]at ih
   simp[zjN,zoJ,hlt,hlt',hA,hB,hG.okO,c1,hw,b1,b2.okO,gEz, -getElem?_pos]
   simp[zc4,hw,hG.okO,b1,b2.okO]
   simpa using ih
theorem e12 (hx:PlN x) (hs:FsN s):∃y:Sl Int,W.pure 12 [x.av,s.av]=some (.tuple [Sl.av I 1 y,I (vaI x s.pl)])∧y.l=(if vaI x s.pl=0 then enL x s.pl else [])∧SlN y:=by
 have run:∀(A:Option AV),((zaN W fi12 [x.av,s.av] []).bind fun p=>frz p.2 8 p.1)=A→W.pure 12 [x.av,s.av]=A:=fun A h=>by rw[ze Φ12 (by simp)];exact h
 have c1:=e16 hx hs
 by_cases h:vaI x s.pl=0
 rotate_left
 .rw[if_neg h]
  refine⟨zaM,run _ ?_,rfl,zE⟩
  simp[fi12,c12,c1,h]
  rfl
 rw[if_pos h,h]
 rw[h]at c1
 obtain⟨hp,hf⟩:=zeW.1 h
 have hv:=zfd hp
 obtain⟨q,F,H,d1,rfl,o,d2⟩:=zc.1 (zmY hx hv hs hf x.stages.l.length 0 [.arr 0 2 false [x.av],.arr 0 4 false [s.av]] (.isl (some true) 0 []) none (by omega) rfl rfl (zp8 _ _) (by simp) (by simp))
 have hle:=zrZ x s.pl x.stages.l.length
 have hst:=hx.st
 obtain⟨y,e1,e2,e3⟩:=zqc d2 (by unfold enL;omega) 6
 refine⟨y,run _ ?_,e2,e3⟩
 simp at d1
 simp[fi12,c12,c1,d1,d2.okO,e1]
end
def CrM (H:Heap) (b vb:Nat) (l:List CC) (cs:List Cr):Prop:=H[b]?=some (.arr vb 6 false (cs.map Cr.av))∧cs.map Cr.pl=l∧∀c∈cs,SlN c.items
abbrev zgS (sv ov dv:AV) (b vb m:Nat):Blk:= .arr 0 4 false [.agg [sv,.osl b vb 0 m,ov,dv]]
theorem CrM.set {H:Heap} {b vb:Nat} {l:List CC} {cs:List Cr} (h:CrM H b vb l cs) {k:Nat} {c:Cr} (hc:SlN c.items):CrM (H.set b (.arr vb 6 false ((cs.set k c).map Cr.av))) b vb (l.set k c.pl) (cs.set k c):=by
 obtain⟨h1,h2,h3⟩:=h
 refine⟨gEt (gEs.1 h1).1,by rw[List.map_set,h2],fun d hd=>?_⟩
 rcases List.mem_or_eq_of_mem_set hd with hd|rfl
 .exact h3 d hd
 .exact hc
theorem CrM.get {H:Heap} {b vb:Nat} {l:List CC} {cs:List Cr} (h:CrM H b vb l cs) {k:Nat} {c:Cr} (hk:cs[k]?=some c):l.getD k crZ=c.pl:=by
 rw[←h.2.1,gEd,gEm,hk];rfl
section
variable {x:Pl} {p b vb:Nat} {sv ov dv:AV} {m:Mv} {i:Nat}
theorem zpK (hpb:p≠b) (q4 q7:Nat) (k N n M:Nat) (y:Sl Int) (hy:y.l.length≤1048576):∀(rest:List Int) (j:Nat) (H:Heap) (l:List CC) (cs:List Cr),y.l.drop j=rest→j≤y.l.length→H[p]?=some (zgS sv ov dv b vb M)→CrM H b vb l cs→M=cs.length→k<cs.length→
  okC (W.loop [1,2,4,7,9,17,18,34,35,36] ztb [(1,.optr p 0 0 0),(2,I i),(4,.optr q4 0 0 0),(7,.optr q7 0 0 0),(9,I k),(17,I N),(18,I n),(34,Sl.av I 1 y),(35,I y.l.length),(36,I j)] H)
   (fun q F H'=>q= .exit 2∧F.keep [1,2,4,7,9,17,18]=[(1,.optr p 0 0 0),(2,I i),(4,.optr q4 0 0 0),(7,.optr q7 0 0 0),(9,I k),(17,I N),(18,I n)]∧Kept (some b) H H'∧∃cs',CrM H' b vb (l.set k (putC rest (l.getD k crZ))) cs'∧cs'.length=cs.length):=by
 intro rest
 induction rest with
 |nil=>
  intro j H l cs h1 h2 hP hC hM hk
  have hj:=zf h1 h2
  rw[zb]
  simp[zn6,zrb,hj]
  refine⟨Kept.refl _ _,cs,?_,rfl⟩
  have hlk:k<l.length:=by rw[←hC.2.1];simpa using hk
  have:l.set k (putC [] (l.getD k crZ))=l:=by
   rw[gEd,gEg hlk]
   simp[putC]
  have hC2:CrM H b vb (l.set k (putC [] (l.getD k crZ))) cs:=this.symm▸hC
  simpa[gEd]using hC2
 |cons a rest ih=>
  intro j H l cs h1 h2 hP hC hM hk
  obtain⟨hlt,ha,hr⟩:=zn h1
  have hlt':(j:Int)<y.l.length:=by omega
  have hw:=zh (k:=j) (by omega)
  have hcg:=gEg hk
  generalize cs[k]=c at hcg
  have hcs:=hC.2.2 c (lMg hcg)
  obtain⟨c',c1,c2,c3⟩:=e89 c hcs a
  have hlc:=hC.get hcg
  have hC2:=hC.set (k:=k) c3
  have hK:Kept (some b) H (H.set b (.arr vb 6 false ((cs.set k c').map Cr.av))):=Kept.set _ _ _
  have hlk:k<l.length:=by rw[←hC.2.1];simpa using hk
  obtain⟨q,F,H',d1,rfl,d2,d3,cs',d4,d5⟩:=zc.1 (ih (j+1) _ _ _ hr (by omega) (hK.get (by simp;exact fun e=>hpb e.symm) hP) hC2 (by simpa using hM) (by simpa using hk))
  simp only[iNa,iCo]at d1
  have hput:(l.set k c'.pl).set k (putC rest ((l.set k c'.pl).getD k crZ))=l.set k (putC (a::rest) (l.getD k crZ)):=by
   rw[List.set_set]
   congr 1
   have:(l.set k c'.pl).getD k crZ=c'.pl:=by rw[gEd,gEt hlk];rfl
   rw[this,c2,hlc]
   rfl
  rw[hput]at d4
  have hkM:(k:Int)<M:=by omega
  have hkM':k<M:=by omega
  have hcav:(cs.map Cr.av)[k]?=some c.av:=by rw[gEm,hcg];rfl
  have hB:=hC.1
  simp at d2
  rw[zb]
  simp[zn6,zrb,hlt,hlt',ha,hP,hB,hkM,hkM',hcg,c1,hw,d1,gEz, -getElem?_pos, -List.map_set]
  refine⟨d2,hK.trans d3,cs',d4,by rw[d5];simp⟩
end
theorem zrH {x y:Sl Int} (h:SlN x) (e:y=x∨y=zaM):SlN y:=by
 rcases e with rfl|rfl
 .exact h
 .exact zE
section
variable {x:Pl} {p b vb:Nat} {sv ov dv:AV} {m:Mv} {i:Nat}
theorem zpJ (hx:PlN x) (hv:PlV x) (hi:i<x.stages.l.length) (hpb:p≠b) (q4 q7 N M:Nat) (hM:M=x.pipes.l.length) (hN:N=outK (sgAt x i).kind) (hm:m.sent.l.length=N) (hms:∀y∈m.sent.l,SlN y) (n4:q4≠b) (n7:q7≠b):∀(rest:List (Sl Int)) (n:Nat) (H:Heap) (l:List CC) (cs:List Cr),m.sent.l.drop n=rest→n≤N→H[p]?=some (zgS sv ov dv b vb M)→H[q4]?=some (.arr 0 2 false [x.av])→H[q7]?=some (.arr 0 9 false [m.av])→CrM H b vb l cs→cs.length=M→
  okC (W.loop [1,2,4,7,17,18] zta [(1,.optr p 0 0 0),(2,I i),(4,.optr q4 0 0 0),(7,.optr q7 0 0 0),(17,I N),(18,I n)] H)
   (fun q F H'=>q= .exit 0∧Kept (some b) H H'∧∃cs',CrM H' b vb (zbr x i m.ended (rest.map Sl.l) n l) cs'∧cs'.length=M):=by
 have h2:=zdU (sgAt x i).kind
 intro rest
 induction rest with
 |nil=>
  intro n H l cs h1 h2 hP hX hQ hC hl
  have hj:=zf h1 (by omega)
  have hj':¬((n:Int)<N):=by omega
  rw[zb]
  simp[zjE,zoA,hj',hj.symm,hm]
  exact⟨Kept.refl _ _,cs,hC,hl⟩
 |cons y rest ih=>
  intro n H l cs h1 h2' hP hX hQ hC hl
  obtain⟨hlt,ha,hr⟩:=zn h1
  have hlt':(n:Int)<N:=by omega
  have hltm:(n:Int)<m.sent.l.length:=by omega
  have hw:=zh (k:=n) (by omega)
  have hyn:m.sent.l[n]=y:=(gEs.1 ha).2
  have hy:=hms y (lMg ha)
  obtain⟨k,pp,hp,e1,e2⟩:=hv.allOut i n hi (by omega)
  have hpo:pOut x i n=k:=by
   have:=zct hv.toPiV hp
   rwa [e1,e2]at this
  have hk:k<cs.length:=by have:=(gEs.1 hp).1;omega
  have hkl:k<l.length:=by rw[←hC.2.1];simpa using hk
  have a1:=e71 x hx.pi i n
  rw[hpo]at a1
  obtain⟨q,F,H1,d1,rfl,d2,d3,cs1,d4,d5⟩:=zc.1 (zpK (sv:=sv) (ov:=ov) (dv:=dv) (i:=i) hpb q4 q7 k N n M y hy.2 y.l 0 H l cs rfl (by omega) hP hC (by omega) hk)
  simp at d1 d2
  obtain⟨g1,g2,g4,g7,g9,g17,g18⟩:=d2
  have hP1:=d3.get (by simpa using fun e=>hpb e.symm) hP
  have hX1:=d3.get (by simpa using fun e=>n4 e.symm) hX
  have hQ1:=d3.get (by simpa using fun e=>n7 e.symm) hQ
  have hk1:k<cs1.length:=by omega
  have hcg:=gEg hk1
  have hkM:k<M:=by omega
  have hkM':(k:Int)<M:=by omega
  have hc1l:cs1.length=M:=by omega
  have hk0:zbr x i m.ended ((y::rest).map Sl.l) n l=zbr x i m.ended (rest.map Sl.l) (n+1) (l.set k (if m.ended=true then (zbK (putC y.l (l.getD k crZ))).1 else putC y.l (l.getD k crZ))):=by
   simp only[List.map_cons,zbr,hpo,iTn]
  rw[hk0]
  generalize cs1[k]=c1g at hcg
  have hgk:c1g.pl=putC y.l (l.getD k crZ):=by
   have:=d4.get hcg
   rw[gEd,gEt hkl]at this
   exact this.symm
  cases he:m.ended with
  |false=>
   obtain⟨q,F2,H2,f1,rfl,f2,cs2,f3,f4⟩:=zc.1 (ih (n+1) H1 _ cs1 hr (by omega) hP1 hX1 hQ1 d4 hc1l)
   simp only[iNa,iCo]at f1
   rw[zb]
   simp[zjE,zoA,hlt',hltm,hX,hQ,a1,hlt,hyn,ha,d1,g1,g2,g4,g7,g9,g17,g18,hP1,hX1,hQ1,he,hw,f1,gEz, -getElem?_pos]
   rw[he]at f3
   refine⟨d3.trans f2,cs2,by simpa using f3,f4⟩
  |true=>
   have hcs:=d4.2.2 _ (lMg hcg)
   obtain⟨c',c1,c2,c3⟩:=e90 c1g hcs.len
   have c4:=zrH hcs c3
   have hC2:=d4.set (k:=k) c4
   have hK:Kept (some b) H1 (H1.set b (.arr vb 6 false ((cs1.set k c').map Cr.av))):=Kept.set _ _ _
   rw[List.set_set]at hC2
   obtain⟨q,F2,H2,f1,rfl,f2,cs2,f3,f4⟩:=zc.1 (ih (n+1) _ _ _ hr (by omega) (hK.get (by simpa using fun e=>hpb e.symm) hP1) (hK.get (by simpa using fun e=>n4 e.symm) hX1) (hK.get (by simpa using fun e=>n7 e.symm) hQ1) hC2 (by simpa using hc1l))
   simp only[iNa,iCo]at f1
   have hB:=d4.1
   rw[zb]
   simp[zjE,zoA,hlt',hltm,hX,hQ,a1,hlt,hyn,ha,d1,g1,g2,g4,g7,g9,g17,g18,hP1,hX1,hQ1,hB,hcg,hkM,hkM',hc1l,c1,he,hw,f1,gEz, -getElem?_pos, -List.map_set]
   rw[he,c2,hgk]at f3
   refine⟨(d3.trans hK).trans f2,cs2,by simpa using f3,f4⟩
theorem zvF (hx:PlN x) (hv:PlV x) (hi:i<x.stages.l.length) (hpb:p≠b) (H:Heap) (l:List CC) (cs:List Cr) (hm:m.sent.l.length=outK (sgAt x i).kind) (hms:∀y∈m.sent.l,SlN y) (hP:H[p]?=some (zgS sv ov dv b vb x.pipes.l.length)) (hC:CrM H b vb l cs) (hl:cs.length=x.pipes.l.length):
  okV (W.call (.clo 46 [] []) [x.av,.optr p 0 0 0,I i,m.av] H) (fun v H'=>v= .tuple []∧Kept (some b) H H'∧∃cs',CrM H' b vb (zbr x i m.ended (m.sent.l.map Sl.l) 0 l) cs'∧cs'.length=x.pipes.l.length):=by
 have hlb:=(gEs.1 hC.1).1
 have hK:Kept (some b) H (H++[.arr 0 2 false [x.av],.arr 0 9 false [m.av]]):=Kept.append _ _ _
 have hC2:CrM (H++[.arr 0 2 false [x.av],.arr 0 9 false [m.av]]) b vb l cs:=⟨app0 hC.1 _,hC.2⟩
 obtain⟨q,F,H1,d1,rfl,d2,d3⟩:=zc.1 (zpJ (sv:=sv) (ov:=ov) (dv:=dv) hx hv hi hpb H.length (H.length+1) _ _ rfl rfl hm hms (by omega) (by omega) m.sent.l 0 _ l cs rfl (by omega) (app0 hP _) (two0 _ _ _) (two1 _ _ _) hC2 hl)
 simp at d1
 have hg:=zaK hi
 have hgi:x.stages.l[i]=sgAt x i:=(gEs.1 hg).2
 have hgx:=hx.it _ (lMg hg)
 have a1:=e73 (sgAt x i) hgx
 have ho:outN (sgAt x i)=outK (sgAt x i).kind:=by
  have:=hv.sg _ (lMg hg)
  simp[outN,this]
 rw[ho]at a1
 rw[zj Φ46]
 simp[fi46,c46,hi,hgi,a1,d1]
 exact⟨hK.trans d2,d3⟩
end
theorem zo5 {c:CC} (h:crI c=0) (hi:c.items≠[]):(zbX c).2.2=0:=by
 unfold zbX
 rw[if_neg (by simp[h])]
 cases hq:c.items with
 |nil=>exact absurd hq hi
 |cons a r=>rfl
section
variable {x:Pl} {p b vb:Nat} {sv ov dv:AV} {m:Mv} {i:Nat}
theorem zua (hpb:p≠b) (ht:m.takes=false) (H:Heap) (l:List CC) (cs:List Cr) (hC:CrM H b vb l cs) (a:Int):
  okV (W.call (.clo 45 [] []) [x.av,.optr p 0 0 0,I i,m.av] H) (fun v H'=>v=I 0∧Kept (some b) H H'∧CrM H' b vb l cs):=by
 rw[zj Φ45]
 simp[fi45,c45,ht]
 exact⟨Kept.append _ _ _,app0 hC.1 _,hC.2⟩
theorem two2 (H:Heap) (A B C:Blk):(H++[A,B,C])[H.length+2]?=some C:=by
 rw[gEr (by omega)]
 simp
theorem zr4 (hx:PlN x) (hpb:p≠b) (ht:m.takes=true) (H:Heap) (l:List CC) (cs:List Cr) (hP:H[p]?=some (zgS sv ov dv b vb cs.length)) (hC:CrM H b vb l cs) {k:Nat} (hk:pIn x i m.inp=k) {c:Cr} (hc:cs[k]?=some c) (hI:crI c.pl=0) (hne:c.items.l≠[]):
  okV (W.call (.clo 45 [] []) [x.av,.optr p 0 0 0,I i,m.av] H) (fun v H'=>v=I (zas c.pl).2∧Kept (some b) H H'∧∃cs',CrM H' b vb (l.set k (zas c.pl).1) cs'∧cs'.length=cs.length):=by
 have a1:=e69 x hx.pi i m.inp
 rw[hk]at a1
 have hkl:=(gEs.1 hc).1
 have hkl':(k:Int)<cs.length:=by omega
 have hlb:=(gEs.1 hC.1).1
 have hlp:=(gEs.1 hP).1
 have hcn:=hC.2.2 c (lMg hc)
 obtain⟨c',b1,b2,b3⟩:=e88 c hcn
 have b0:=zo5 hI hne
 rw[b0]at b1
 have hcl:(zbX c.pl).1.closed=c'.closed:=by rw[←b2];rfl
 have hB:=hC.1
 have hcav:(cs.map Cr.av)[k]?=some c.av:=by rw[gEm,hc];rfl
 unfold zas
 rw[hcl]
 cases hq:c'.closed with
 |true=>
  rw[if_pos rfl,zj Φ45]
  have hC2:=hC.set (k:=k) b3
  rw[b2]at hC2
  simp[fi45,c45,ht,a1,hP,hB,hkl,hkl',hc,hlb,hlp,b1,hq,two0,two1,two2,app0 hB,app0 hP,gEz, -getElem?_pos, -List.map_set]
  exact⟨(Kept.set _ _ _).trans (Kept.append _ _ _),_,⟨app0 hC2.1 _,hC2.2⟩,by simp⟩
 |false=>
  rw[if_neg Bool.false_ne_true,zj Φ45]
  obtain⟨c2,d1,d2,d3⟩:=e78 c' b3.len 1
  rw[b2]at d1 d2
  have d4:=zrH b3 d3
  have hC2:=hC.set (k:=k) d4
  rw[d2]at hC2
  simp[fi45,c45,ht,a1,hP,hB,hkl,hkl',hc,hlb,hlp,b1,d1,hq,two0,two1,two2,app0 hB,app0 hP,gEz, -getElem?_pos, -List.map_set]
  exact⟨(Kept.set _ _ _).trans (Kept.append _ _ _),_,⟨app0 hC2.1 _,hC2.2⟩,by simp⟩
end
def OutM (H:Heap) (ov:AV) (outs:List (List Int)):Prop:=
 (ov= .isl (some true) 0 []∧outs=[])∨∃(bo vv:Nat) (ys:List (Sl Int)) (vs:List AV),6≤bo∧ov= .osl bo vv 0 ys.length∧ys.map Sl.l=outs∧(∀y∈ys,SlN y)∧ys.length≤1048576∧H[bo]?=some (.arr vv 1 false vs)∧
  (vs=ys.map (Sl.av I 1)∨∃(k id ver:Nat) (l:List Int),6≤id∧ys[k]?=some (ofL 1 l)∧vs=(ys.map (Sl.av I 1)).set k (.osl id ver 0 l.length)∧H[id]?=some (.arr ver 1 false (l.map I)))
theorem OutM.kept {H H':Heap} {ov:AV} {outs:List (List Int)} (h:OutM H ov outs) {j:Nat} (hj:j<6) (hk:Kept (some j) H H'):OutM H' ov outs:=by
 rcases h with h|⟨bo,vv,ys,vs,h1,h2,h3,h4,h5,h6,h7⟩
 .exact .inl h
 .refine .inr ⟨bo,vv,ys,vs,h1,h2,h3,h4,h5,hk.get (by simp;omega) h6,?_⟩
  rcases h7 with h7|⟨k,id,ver,l,g1,g2,g3,g4⟩
  .exact .inl h7
  .exact .inr ⟨k,id,ver,l,g1,g2,g3,hk.get (by simp;omega) g4⟩
theorem OutM.okO {H:Heap} {ov:AV} {outs:List (List Int)} (h:OutM H ov outs):okO ov=some ov:=by
 rcases h with⟨rfl,_⟩|⟨bo,vv,ys,vs,h1,rfl,_⟩<;>rfl
theorem zgv {y:Sl Int}:(Sl.av I 1 y).still=true:=by
 simp[Sl.av,AV.still]
theorem zif {H:Heap} {n:Nat}:∀ys:List (Sl Int),frzs (frz H (n+1)) (ys.map (Sl.av I 1))=some (ys.map (Sl.av I 1))
 | []=>rfl
 |y::ys=>by simp only[List.map_cons,frzs,zih H n zgv,zif ys]
theorem zkI {H:Heap} {n:Nat} {v:AV} {z:Sl Int} (hv:frz H (n+1) v=some (Sl.av I 1 z)):∀(ys:List (Sl Int)) (k:Nat),ys[k]?=some z→frzs (frz H (n+1)) ((ys.map (Sl.av I 1)).set k v)=some (ys.map (Sl.av I 1))
 | [],k,h=>by simp at h
 |y::ys,0,h=>by
  simp at h;subst h
  simp only[List.map_cons,List.set_cons_zero,frzs,hv,zif ys]
 |y::ys,k+1,h=>by
  simp at h
  simp only[List.map_cons,List.set_cons_succ,frzs,zih H n zgv,zkI hv ys k h]
theorem zvU (ys:List (Sl Int)):(ys.map (Sl.av I 1)).all (fun e=>e.cells.all AV.still)=true:=by
 rw[lAt]
 intro e he
 obtain⟨y,_,rfl⟩:=List.mem_map.1 he
 have:(Sl.av I 1 y).cells=[Sl.av I 1 y]:=rfl
 rw[this]
 simp[zgv]
theorem OutM.frz {H:Heap} {ov:AV} {outs:List (List Int)} (h:OutM H ov outs) (n:Nat):∃o:Sl (Sl Int),frz H (n+2) ov=some (Sl.av (Sl.av I 1) 1 o)∧o.l.map Sl.l=outs∧SlN o∧∀y∈o.l,SlN y:=by
 rcases h with⟨rfl,rfl⟩|⟨bo,vv,ys,vs,h1,rfl,h3,h4,h5,h6,h7⟩
 .exact⟨zaM,rfl,rfl,zE,by simp⟩
 .refine⟨ofL 1 ys,?_,h3,zat h5,h4⟩
  have hl:vs.length=ys.length:=by
   rcases h7 with rfl|⟨k,id,ver,l,g1,g2,rfl,g4⟩<;>simp
  have et:(vs.drop 0).take ys.length=vs:=by rw[List.drop_zero,←hl,List.take_length]
  have e0:Go.Proofs.YtbddckhdbnmamaaGreat.frz H (n+2) (.osl bo vv 0 ys.length)=(match H[bo]? with
   |some (.arr v sz _ es)=>if v=vv∧0+ys.length≤es.length then (if ((es.drop 0).take ys.length).all (fun e=>e.cells.all AV.still) then some (.isl (some false) sz ((es.drop 0).take ys.length)) else (frzs (Go.Proofs.YtbddckhdbnmamaaGreat.frz H (n+1)) ((es.drop 0).take ys.length)).map (.isl (some false) sz)) else none
   |_=>none):=rfl
  rw[e0,h6]
  show (if vv=vv∧0+ys.length≤vs.length then (if ((vs.drop 0).take ys.length).all (fun e=>e.cells.all AV.still) then some (AV.isl (some false) 1 ((vs.drop 0).take ys.length)) else (frzs (Go.Proofs.YtbddckhdbnmamaaGreat.frz H (n+1)) ((vs.drop 0).take ys.length)).map (AV.isl (some false) 1)) else none)=_
  rw[if_pos ⟨rfl,by rw[hl];omega⟩,et]
  rcases h7 with rfl|⟨k,id,ver,l,g1,g2,rfl,g4⟩
  .rw[if_pos (zvU ys),zcc]
  .have hv:=zdt (n:=n) g4 (len:=l.length) rfl
   have hk:=(gEs.1 g2).1
   rw[if_neg,zkI hv ys k g2,oMs,zcc]
   intro hh
   have:=lAt.1 hh (.osl id ver 0 l.length) (lMg (i:=k) (by rw[gEt (by simpa using hk)]))
   simp[AV.cells,AV.still]at this
abbrev zFs:Fs:=⟨zaM,zaM,zaM,false⟩
theorem zl8:FsN zFs:=⟨by simp,by simp,by simp,zE,zE,zE,by simp,by simp,by simp⟩
theorem zkY:bldV [.isl (some true) 0 [],.isl (some true) 0 [],.isl (some true) 0 [],.bool false] [] []=zFs.av:=rfl
structure M14 (H:Heap) (x:Pl) (m:Mv) (sts:List Ss) (l:List CC) (cs:List Cr) (ov:AV) (outs:List (List Int)) (dr:Bool):Prop where
 h0:H[0]?=some (.arr 0 2 false [x.av])
 h1:H[1]?=some (zgS (.osl 4 sts.length 0 sts.length) ov (.bool dr) 5 cs.length cs.length)
 h2:H[2]?=some (.arr 0 4 false [zFs.av])
 h3:H[3]?=some (.arr 0 9 false [m.av])
 h4:H[4]?=some (.arr sts.length 3 false (sts.map Ss.av))
 h5:CrM H 5 cs.length l cs
 ho:OutM H ov outs
abbrev fr14 (i:Nat):Fr:=[(2,I i),(3,.optr 0 0 0 0),(4,.optr 1 0 0 0),(6,.optr 2 0 0 0),(9,.optr 3 0 0 0)]
section
variable {x:Pl} {s:Fs}
theorem e14a (hx:PlN x) (hs:FsN s) (i:Int) (h:vaI x s.pl≠0∨¬(0≤i∧i<x.stages.l.length)):W.pure 14 [x.av,s.av,I i]=some (.tuple [zFs.av,I (zbp x s.pl i).2])∧(zbp x s.pl i).1=fsZ:=by
 have run:∀(A:Option AV),((zaN W fi14 [x.av,s.av,I i] []).bind fun p=>frz p.2 8 p.1)=A→W.pure 14 [x.av,s.av,I i]=A:=fun A h=>by rw[ze Φ14 (by simp)];exact h
 have c1:=e16 hx hs
 have hb:=zkY
 have hst:=hx.st
 have hw:IntKind.wrap .i64 ((x.stages.l.length:Int) - 1)=(x.stages.l.length:Int) - 1:=zz (by omega) (by omega)
 unfold zbp
 by_cases hv:vaI x s.pl=0
 .have h2:i<0∨(x.stages.l.length:Int) - 1<i:=by
   rcases h with h|h
   .exact absurd hv h
   .omega
  have h2':i<0∨(x.stages.l.length:Int)≤i:=by omega
  have c2:=e39f (l:=0) (h:=(x.stages.l.length:Int) - 1) h2
  rw[if_neg (by simp[hv]),if_pos h2']
  refine⟨run _ ?_,rfl⟩
  rw[hv]at c1
  simp[fi14,c14,c1,hw,c2,hb, -zaF]
 .rw[if_pos hv]
  refine⟨run _ ?_,rfl⟩
  simp[fi14,c14,c1,hv,hb, -zaF]
end
@[simp] theorem fsSet0 (s:Fs) (a b c d:Nat):zd [s.av] 0 0 (.osl a b c d)=some [.agg [.osl a b c d,Sl.av Cr.av 6 s.credits,Sl.av (Sl.av I 1) 1 s.outputs,.bool s.draining]]:=rfl
@[simp] theorem fsSet1 (u v w z:AV) (a b c d:Nat):zd [.agg [u,v,w,z]] 0 1 (.osl a b c d)=some [.agg [u,.osl a b c d,w,z]]:=rfl
@[simp] theorem fsSet2 (u v w z:AV) (a b c d:Nat):zd [.agg [u,v,w,z]] 0 2 (.osl a b c d)=some [.agg [u,v,.osl a b c d,z]]:=rfl
@[simp] theorem fsSet2n (u v w z:AV) (a:Option Bool) (n:Nat) (l:List AV):zd [.agg [u,v,w,z]] 0 2 (.isl a n l)=some [.agg [u,v,.isl a n l,z]]:=rfl
theorem zrI {ys:List (Sl Int)} {k:Nat} {y:Sl Int} (hy:ys[k]?=some y) (a b c d:Nat):zd (ys.map (Sl.av I 1)) k 0 (.osl a b c d)=some ((ys.map (Sl.av I 1)).set k (.osl a b c d)):=by
 unfold zd
 rw[gEm,hy]
 rfl
theorem zsb (a b c d e f:Nat):apart (.osl 7 a b c) (.optr 1 d e f)=true:=rfl
theorem zoR (a:Option Bool) (n:Nat) (l:List AV) (d e f:Nat):apart (.isl a n l) (.optr 1 d e f)=true:=rfl
theorem zmP {H:Heap} {ys:List (Sl Int)} {k:Nat} {y:Sl Int} (hy:ys[k]?=some y) (hn:∀y∈ys,SlN y) (hl:ys.length≤1048576) (l:List Int) (hll:l.length≤1048576) {vv ver len:Nat} (hlen:len=l.length) (h6:H[6]?=some (.arr vv 1 false ((ys.map (Sl.av I 1)).set k (.osl 7 ver 0 len)))) (h7:H[7]?=some (.arr ver 1 false (l.map I))):OutM H (.osl 6 vv 0 ys.length) ((ys.map Sl.l).set k l):=by
 subst hlen
 have hk:=(gEs.1 hy).1
 refine .inr ⟨6,vv,ys.set k (ofL 1 l),_,by omega,by simp,by rw[List.map_set],?_,by simpa using hl,h6,.inr ⟨k,7,ver,l,by omega,by rw[gEt hk],?_,h7⟩⟩
 .intro z hz
  rcases List.mem_or_eq_of_mem_set hz with hz|rfl
  .exact hn z hz
  .exact zat hll
 .rw[List.map_set,List.set_set]
def ovG (s:Fs):AV:=if s.outputs.nl=some true then .isl (some true) 0 [] else .osl 6 s.outputs.l.length 0 s.outputs.l.length
def oG (s:Fs):Heap:=if s.outputs.nl=some true then [] else [.arr s.outputs.l.length 1 false (s.outputs.l.map (Sl.av I 1))]
abbrev hG (x:Pl) (s:Fs) (m:Mv) (ov:AV) (O:Heap):Heap:=[.arr 0 2 false [x.av],zgS (.osl 4 s.stages.l.length 0 s.stages.l.length) ov (.bool s.draining) 5 s.credits.l.length s.credits.l.length,.arr 0 4 false [zFs.av],.arr 0 9 false [m.av],.arr s.stages.l.length 3 false (s.stages.l.map Ss.av),.arr s.credits.l.length 6 false (s.credits.l.map Cr.av)]++O
section
variable {x:Pl} {s:Fs} {i:Nat}
theorem zvp (hx:PlN x) (hs:FsN s) (hv:vaI x s.pl=0) (i:Nat) (hi:i<x.stages.l.length) (hns:s.stages.nl=some false) (hnc:s.credits.nl=some false) {m:Mv} (c3:W.pure 37 [x.av,s.av,I i]=some (.tuple [m.av,.bool true])) (he:m.e=0):
  evC W (cutC 7 c14) [(0,x.av),(1,s.av),(2,I i)] []=some (.normal,fr14 i,hG x s m (ovG s) (oG s)):=by
 have c1:=e16 hx hs
 rw[hv]at c1
 have hst:=hx.st
 have hw:IntKind.wrap .i64 ((x.stages.l.length:Int) - 1)=(x.stages.l.length:Int) - 1:=zz (by omega) (by omega)
 have c2:=e39t (l:=0) (h:=(x.stages.l.length:Int) - 1) (a:=i) (by omega) (by omega)
 have d0:=fun H=>zvH s.stages hs.ns H
 have d1:=fun H=>zr5 s.credits hs.nc H
 have d2:=fun H=>zvG s.outputs hs.no H
 unfold ovG oG
 rcases hs.no.1 with⟨h1,h2⟩|h1
 .rw[if_pos h1,if_pos h1]
  simp[cutC,fi14,c14,c1,hw,c2,c3,he,d0,d1,d2,zap,hns,hnc,h1]
  rfl
 .have h1':s.outputs.nl≠some true:=by rw[h1];simp
  rw[if_neg h1',if_neg h1']
  simp[cutC,fi14,c14,c1,hw,c2,c3,he,d0,d1,d2,zap,hns,hnc,h1]
  rfl
theorem zpb (hi:i<x.stages.l.length) (h:(sgAt x i).kind=10):zK (x.stages.l.take i)<zK x.stages.l:=by
 have:=zeF (x:=x) (l:=x.stages.l) hi ⟨sgAt x i,zaK hi,h⟩
 rwa [List.take_length]at this
def skB (x:Pl) (m:Mv) (i:Nat):Bool:=decide ((sgAt x i).kind=10)&&m.takes
theorem zyq (hx:PlN x) (hs:FsN s) (hf:FsV x s.pl) (i:Nat) (hi:i<x.stages.l.length) (m:Mv):
  okC (evC W (cutC 1 (zG 7 c14)) (fr14 i) (hG x s m (ovG s) (oG s)))
   (fun q F H=>if skB x m i=true∧(s.pl.out.getD (zK (x.stages.l.take i)) []).length=200 then q= .ret∧F=[(6,.optr 2 0 0 0),(7,I 4)]∧H[2]?=some (.arr 0 4 false [zFs.av])
    else q= .normal∧(F=fr14 i∨F=fr14 i++[(66,.bool false)])∧∃ov,M14 H x m s.stages.l s.pl.cr s.credits.l ov (if skB x m i=true then s.pl.out.set (zK (x.stages.l.take i)) (s.pl.out.getD (zK (x.stages.l.take i)) []++[m.item]) else s.pl.out) s.draining):=by
 have hg:=zaK hi
 have hgi:x.stages.l[i]=sgAt x i:=(gEs.1 hg).2
 have hm0:∀O ov,OutM (hG x s m ov O) ov s.pl.out→M14 (hG x s m ov O) x m s.stages.l s.pl.cr s.credits.l ov s.pl.out s.draining:=fun O ov h=>⟨rfl,rfl,rfl,rfl,rfl,⟨rfl,rfl,hs.hc⟩,h⟩
 have hlo:s.outputs.l.length=zK x.stages.l:=by have:=hf.lo;simpa[Fs.pl]using this
 have hso:=hs.ou
 cases hsk:skB x m i with
 |false=>
  have h0:OutM (hG x s m (ovG s) (oG s)) (ovG s) s.pl.out:=by
   unfold ovG oG
   rcases hs.no.1 with⟨h1,h2⟩|h1
   .rw[if_pos h1,if_pos h1]
    exact .inl ⟨rfl,by simp[Fs.pl,h2]⟩
   .have h1':s.outputs.nl≠some true:=by rw[h1];simp
    rw[if_neg h1',if_neg h1']
    exact .inr ⟨6,s.outputs.l.length,s.outputs.l,s.outputs.l.map (Sl.av I 1),by omega,rfl,rfl,hs.ho,hs.no.2,rfl,.inl rfl⟩
  simp only[bFt,false_and,if_false]
  have hM:=hm0 _ _ h0
  unfold skB at hsk
  refine zc.2 ⟨.normal,fr14 i++[(66,.bool false)],_,?_,rfl,.inr rfl,_,hM⟩
  by_cases k10:(sgAt x i).kind=10
  .rw[decide_eq_true k10,Bool.true_and]at hsk
   simp[cutC,zG,fi14,c14,hi,hgi,eq_true k10,hsk]
  .simp[cutC,zG,fi14,c14,hi,hgi,k10]
 |true=>
  simp only[true_and,if_true]
  unfold skB at hsk
  rw[bAt,dTe]at hsk
  obtain⟨k10,ht⟩:=hsk
  have hlt:=zpb hi k10
  have hnl:s.outputs.nl=some false:=by
   rcases hs.no.1 with⟨h1,h2⟩|h1
   .rw[h2]at hlo;simp at hlo;omega
   .exact h1
  have hnl':s.outputs.nl≠some true:=by rw[hnl];simp
  have e43:W.pure 43 [.isl x.stages.nl 8 ((x.stages.l.map Sg.av).take i)]=some (I (zK (x.stages.l.take i))):=by
   have hh:=e43 ⟨x.stages.nl,8,x.stages.l.take i⟩ (by simp;have:=hx.st;omega)
   have hz:Sl.av Sg.av 8 ⟨x.stages.nl,8,x.stages.l.take i⟩= .isl x.stages.nl 8 ((x.stages.l.map Sg.av).take i):=by
    unfold Sl.av
    simp[List.map_take]
   rwa [hz]at hh
  generalize hk:zK (x.stages.l.take i)=k at *
  have hko:k<s.outputs.l.length:=by omega
  have hko':(k:Int)<s.outputs.l.length:=by omega
  obtain⟨y,hy⟩:∃y,s.outputs.l[k]?=some y:=⟨_,gEg hko⟩
  have hyn:=hs.ho y (lMg hy)
  have hyk:s.outputs.l[k]=y:=(gEs.1 hy).2
  have hgd:s.pl.out.getD k []=y.l:=by
   rw[gEd];simp[Fs.pl,hy]
  rw[hgd]
  have hne:x.stages.l≠[]:=by intro e;rw[e]at hi;simp at hi
  have hil:(i:Int)≤x.stages.l.length:=by omega
  have hil':i≤x.stages.l.length:=by omega
  have hb:=zkY
  have d3:=fun H=>zoi y hyn H
  unfold ovG oG
  rw[if_neg hnl',if_neg hnl']
  by_cases h200:y.l.length=200
  .simp only[if_pos h200]
   simp[cutC,zG,fi14,c14,hi,hgi,eq_true k10,ht,hne,hil,hil',e43,hko,hko',hyk,hy,h200,hb, -zaF]
  .simp only[if_neg h200]
   have h200':¬(y.l.length:Int)=200:=by omega
   rcases hyn.1 with⟨n1,n2⟩|n1
   .simp[cutC,zG,fi14,c14,hi,hgi,eq_true k10,ht,hne,hil,hil',e43,hko,hko',hyk,hy,h200,h200',d3,zap,n1,zaP,zsb,zoR,zrI hy]
    exact⟨_,rfl,rfl,rfl,rfl,rfl,⟨rfl,rfl,hs.hc⟩,zmP hy hs.ho hs.no.2 (y.l++[m.item]) (by simp[n2]) (by simp[n2]) rfl (by simp[n2])⟩
   .have ha:=fun H h=>zak (H:=H) (id:=7) (ver:=y.l.length) (l:=y.l) h hyn.2 m.item
    simp[cutC,zG,fi14,c14,hi,hgi,eq_true k10,ht,hne,hil,hil',e43,hko,hko',hyk,hy,h200,h200',d3,zap,n1,zsb,zoR,zrI hy,ha]
    exact⟨_,rfl,rfl,rfl,rfl,rfl,⟨rfl,rfl,hs.hc⟩,zmP hy hs.ho hs.no.2 (y.l++[m.item]) (by simp;have:=(hf.out y.l (by simp[Fs.pl];exact⟨y,lMg hy,rfl⟩)).1;omega) (by simp) rfl (by simp)⟩
end
end Go.Proofs.YtbddckhdbnmamaaGreat
