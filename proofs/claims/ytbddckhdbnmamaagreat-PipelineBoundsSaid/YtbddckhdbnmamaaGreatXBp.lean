/-
  Whether the pipes form a cycle (conditions: pipes between stages that there are). Whether the pipes form a cycle: the reference (conditions: pipes between stages that there are). Why a pipeline is not valid: the program (conditions: a pipeline that is not too large). Why a pipeline is not valid: the reference (conditions: a pipeline that is not too large). How many stages are sinks; which ends a stage has noted (conditions: a pipeline that is not too large). Whether the buffers of a state are valid: the program (conditions: a pipeline and a state that are not too large). Whether a state is valid: the program (conditions: a pipeline and a state that are not too large). Valid of the program (conditions: a pipeline and a state that are not too large). Valid of the reference (conditions: a pipeline and a state that are not too large). What a stage does next: the program (conditions: a valid pipeline and state that are not too large). What a stage does next: the reference (conditions: a valid pipeline and state that are not too large). Whether a stage is enabled (conditions: a valid pipeline and state that are not too large). Enabled, both (conditions: a pipeline and a state that are not too large). What a step puts into the buffers: the program (conditions: a valid pipeline that is not too large). What a step puts into the buffers: the program, whole (conditions: a valid pipeline that is not too large). What a step takes from a buffer: the program (conditions: a valid pipeline that is not too large; a buffer with items). A step: the program's memory (conditions: none). A step of the program: up to the clones, and a sink's output (conditions: a valid pipeline and state that are not too large). A step of the program: from what it takes to the end (conditions: a valid pipeline and state that are not too large). A step of the program (conditions: a pipeline and a state that are not too large). What a step puts into the buffers: the reference (conditions: a valid pipeline that is not too large). A step of the reference: up to the new state of the stage, and a sink's output (conditions: a valid pipeline and state that are not too large). A step of the reference: a sink's output, and what it takes (conditions: a valid pipeline and state that are not too large). A step of the reference (conditions: a pipeline and a state that are not too large). States that are the same (conditions: not too large). What is too large for the statements (conditions: none). The laws PipelineStep and PipelineBounds (conditions: as the statements have them). The law PipelineCommute (conditions: as the statement has them). The law PipelineCommute, whole (conditions: as the statement has them). Arguments with expressions in them, read; the three laws for what is handed in (conditions: none).
-/
import Derived.Test.YtbddckhdbnmamaaGreatNAp
import Derived.Test.YtbddckhdbnmamaaGreatXAp
import Derived.Test.YtbddckhdbnmamaaGreatAWp
namespace Go.Proofs.YtbddckhdbnmamaaGreat
open Go Go.RowKit
set_option linter.unusedVariables false
set_option linter.unusedSimpArgs false
set_option maxRecDepth 10000
theorem zgF {l:List Int} {k:Nat} (hk:k<l.length) (a:Int):zb (l.map I) k 0 (I a)=some ((l.set k a).map I):=by
 rw[zdD (w:=I l[k]) (by simp[hk]) rfl rfl rfl,List.map_set]
def rplG (a b v:Int):Int:=if v=b then a else v
def mixG (a b:Int) (k:Nat) (g:List Int):List Int:=(g.take k).map (rplG a b)++g.drop k
theorem ziY (a b:Int) (k:Nat) (g:List Int):(mixG a b k g).length=g.length:=by
 simp[mixG];omega
theorem ziZ {a b:Int} {k:Nat} {g:List Int} (hk:k<g.length):(mixG a b k g)[k]?=some g[k]:=by
 unfold mixG
 rw[gEr (by simp;omega)]
 simp[Nat.min_eq_left (Nat.le_of_lt hk)]
theorem zg1 {a b:Int} {k:Nat} {g:List Int} (hk:k<g.length):mixG a b (k+1) g=(mixG a b k g).set k (rplG a b g[k]):=by
 apply List.ext_getElem?
 intro i
 unfold mixG
 rw[List.getElem?_set]
 have hl:((g.take k).map (rplG a b)).length=k:=by simp;omega
 have hl':((g.take (k+1)).map (rplG a b)).length=k+1:=by simp;omega
 by_cases h1:i<k
 .rw[if_neg (by omega),gEa (by omega),gEa (by omega)]
  simp[List.getElem?_take,h1,show i<k+1 by omega]
 .by_cases h2:k=i
  .subst h2
   rw[if_pos rfl,if_pos (by simp;omega),gEa (by omega)]
   simp[List.getElem?_take,hk]
  .rw[if_neg h2,gEr (by omega),gEr (by omega),hl,hl']
   simp only[List.getElem?_drop]
   congr 1;omega
theorem znj {a b:Int} {g:List Int}:mixG a b g.length g=g.map (rplG a b):=by simp[mixG]
theorem zk0 {a b:Int} {g:List Int}:mixG a b 0 g=g:=by simp[mixG]
theorem zk1 {a b:Int} {k:Nat} {g:List Int} (hk:k<g.length) (h:g[k]≠b):mixG a b (k+1) g=mixG a b k g:=by
 rw[zg1 hk]
 have:rplG a b g[k]=g[k]:=by simp[rplG,h]
 rw[this]
 apply List.ext_getElem?
 intro i
 rw[List.getElem?_set]
 by_cases h2:k=i
 .subst h2;rw[if_pos rfl,if_pos (by rw[ziY];exact hk),ziZ hk]
 .rw[if_neg h2]
theorem zf1 (a b:Int) (g:List Int) (hn:g.length≤1000) (z26 z27 z28:AV) (o1:okO z26=some z26) (o2:okO z27=some z27) (o3:okO z28=some z28):∀(m k:Nat) (H:Heap),k+m=g.length→H[1]?=some (.arr 0 1 false ((mixG a b k g).map I))→
  okC (W.loop [3,7,8,26,27,28,45,46,47] zp3 [(3,.osl 1 0 0 g.length),(7,I a),(8,I b),(26,z26),(27,z27),(28,z28),(45,.osl 1 0 0 g.length),(46,I g.length),(47,I k)] H)
   (fun q F H'=>q= .exit 4∧F.keep [3,26,27,28]=[(3,.osl 1 0 0 g.length),(26,z26),(27,z27),(28,z28)]∧H'[1]?=some (.arr 0 1 false ((g.map (rplG a b)).map I)))
 |0,k,H,hk,hH=>by
  have:k=g.length:=by omega
  subst this
  rw[znj]at hH
  rw[zc]
  simp[zik,zmm,hH,o1,o2,o3, -getElem?_pos, -List.map_map]
 |m+1,k,H,hk,hH=>by
  have hlt:k<g.length:=by omega
  have hlt':(k:Int)<g.length:=by omega
  have hw:=zn (k:=k) (by omega)
  have hl1:1<H.length:=(gEs.1 hH).1
  have hg:((mixG a b k g).map I)[k]?=some (I g[k]):=by rw[gEm,ziZ hlt];rfl
  rw[zc]
  by_cases h:g[k]=b
  .have hse:=zgF (l:=mixG a b k g) (k:=k) (by rw[ziY];exact hlt) a
   have hnext:(mixG a b k g).set k a=mixG a b (k+1) g:=by rw[zg1 hlt];simp[rplG,h]
   rw[hnext]at hse
   have ih:=zf1 a b g hn z26 z27 z28 o1 o2 o3 m (k+1) (H.set 1 (.arr 0 1 false ((mixG a b (k+1) g).map I))) (by omega) (gEt hl1)
   simp only[iNa,iCo]at ih
   simp[zik,zmm,hH,hlt,hlt',hg,h,hse,hw,o1,o2,o3, -getElem?_pos, -List.getElem?_map, -List.map_map]
   simpa using ih
  .have ih:=zf1 a b g hn z26 z27 z28 o1 o2 o3 m (k+1) H (by omega) (by rw[zk1 hlt h];exact hH)
   simp only[iNa,iCo]at ih
   simp[zik,zmm,hH,hlt,hlt',hg,h,hw,o1,o2,o3, -getElem?_pos, -List.getElem?_map, -List.map_map]
   simpa using ih
def InR (n:Nat) (l:List Pi):Prop:=∀y∈l,0≤y.src∧y.src<n∧0≤y.dst∧y.dst<n
theorem zjV {g:List Int} {y:Pi} (h:g.getD y.src.toNat 0≠g.getD y.dst.toNat 0):zdX g y=some (g.map (rplG (g.getD y.src.toNat 0) (g.getD y.dst.toNat 0))):=by
 unfold zdX
 simp only
 rw[if_neg h]
 rfl
theorem zjW {g:List Int} {y:Pi} (h:g.getD y.src.toNat 0=g.getD y.dst.toNat 0):zdX g y=none:=by
 unfold zdX
 simp only
 rw[if_pos h]
theorem znn (x:Sl Pi) (hx:x.l.length≤1000) (n:Nat) (hn:n≤1000) (hr:InR n x.l):∀(rest:List Pi) (j:Nat) (g:List Int) (H:Heap),x.l.drop j=rest→j≤x.l.length→g.length=n→H[1]?=some (.arr 0 1 false (g.map I))→
  okC (W.loop [3,26,27,28] zp2 [(3,.osl 1 0 0 n),(26,Sl.av Pi.av 5 x),(27,I x.l.length),(28,I j)] H) (fun q F H'=>if (zcz rest g).isNone=true then q= .ret∧F.get 2= .bool true else q= .exit 2):=by
 intro rest
 induction rest with
 |nil=>
  intro j g H h1 h2 hg hH
  have hk:=zk h1 h2
  rw[zc]
  simp[zij,zml,hk,zcz]
 |cons y rest ih=>
  intro j g H h1 h2 hg hH
  obtain⟨hlt,hy,hrr⟩:=zp h1
  have hlt':(j:Int)<x.l.length:=by omega
  have hyj:x.l[j]=y:=(gEs.1 hy).2
  have hw:=zn (k:=j) (by omega)
  obtain⟨r1,r2,r3,r4⟩:=hr y (lMg hy)
  have hl1:1<H.length:=(gEs.1 hH).1
  have g1:∀B,(H++[B])[1]?=some (.arr 0 1 false (g.map I)):=fun B=>zR hH B
  have g2:∀B,(H++[B])[H.length]?=some B:=fun B=>zF H B
  have hs:(g.map I)[y.src.toNat]?=some (I (g.getD y.src.toNat 0)):=by
   have:y.src.toNat<g.length:=by omega
   simp[gEd,this]
  have hd:(g.map I)[y.dst.toNat]?=some (I (g.getD y.dst.toNat 0)):=by
   have:y.dst.toNat<g.length:=by omega
   simp[gEd,this]
  rw[zc]
  unfold zcz
  by_cases hab:g.getD y.src.toNat 0=g.getD y.dst.toNat 0
  .rw[zjW hab]
   rw[hab]at hs
   simp[zij,zml,hlt,hlt',hy,g1,g2,r1,r2,r3,r4,hs,hd,gEz, -getElem?_pos, -List.getElem?_map, -List.getD_eq_getElem?_getD]
  .rw[zjV hab]
   generalize g.getD y.src.toNat 0=a at *
   generalize g.getD y.dst.toNat 0=b at *
   obtain⟨q,F,H',d1,rfl,d2,d3⟩:=zf.1 (zf1 a b g (by omega) (Sl.av Pi.av 5 x) (I x.l.length) (I j) rfl rfl rfl g.length 0 (H++[.arr 0 5 false [y.av]]) (by omega) (by rw[zk0];exact g1 _))
   have ih:=ih (j+1) (g.map (rplG a b)) H' hrr (by omega) (by rw[List.length_map];exact hg) d3
   simp only[iNa,iCo]at ih
   rw[hg]at d1
   simp at d1 d2
   simp[zij,zml,hlt,hlt',hy,g1,g2,r1,r2,r3,r4,hs,hd,hab,d1,d2,hw,hg,gEz, -getElem?_pos, -List.getElem?_map, -List.map_map]
   simpa using ih
def cntG (k n:Nat):List Int:=(List.range k).map (fun (i:Nat)=>(i:Int))++List.replicate (n - k) 0
theorem zot {k n:Nat} (h:k≤n):(cntG k n).length=n:=by simp[cntG];omega
theorem zou (n:Nat):cntG n n=idsG n:=by simp[cntG,idsG]
theorem zl8 {k n:Nat} (h:k<n):(cntG k n).set k (k:Int)=cntG (k+1) n:=by
 unfold cntG
 rw[List.set_append_right _ _ (by simp)]
 simp only[List.length_map,List.length_range,Nat.sub_self]
 have:n - k=(n - (k+1))+1:=by omega
 rw[this,List.replicate_succ,List.set_cons_zero,List.range_succ,List.map_append,List.append_assoc]
 rfl
theorem zi0 (x:Pl) (n:Nat) (hn:n≤1000):∀(m k:Nat),k+m=n→okC (W.loop [1,3,16,17] zp1 [(1,.optr 0 0 0 0),(3,.osl 1 0 0 n),(16,I n),(17,I k)] [.arr 0 2 false [x.av],.arr 0 1 false ((cntG k n).map I)])
  (fun q F H=>q= .exit 0∧F.keep [1,3]=[(1,.optr 0 0 0 0),(3,.osl 1 0 0 n)]∧H=[.arr 0 2 false [x.av],.arr 0 1 false ((idsG n).map I)])
 |0,k,hk=>by
  have:k=n:=by omega
  subst this
  rw[zc,zou]
  simp[zlY,zoz]
 |m+1,k,hk=>by
  have hlt:k<n:=by omega
  have hlt':(k:Int)<n:=by omega
  have hw:=zn (k:=k) (by omega)
  have hse:=zgF (l:=cntG k n) (k:=k) (by rw[zot (by omega)];exact hlt) (k:Int)
  rw[zl8 hlt]at hse
  have ih:=zi0 x n hn m (k+1) (by omega)
  simp only[iNa,iCo]at ih
  rw[zc]
  simp[zlY,zoz,hlt,hlt',hse,hw]
  simpa using ih
theorem e75 (x:Pl) (hx:PlN x) (hr:InR x.stages.l.length x.pipes.l):W.pure 75 [x.av]=some (.bool (cyc x)):=by
 obtain⟨q,F,H,d1,rfl,d2,rfl⟩:=zf.1 (zi0 x x.stages.l.length hx.st x.stages.l.length 0 (by omega))
 obtain⟨q2,F2,H2,f1,f2⟩:=zf.1 (znn x.pipes hx.pi x.stages.l.length hx.st hr x.pipes.l 0 (idsG x.stages.l.length) [.arr 0 2 false [x.av],.arr 0 1 false ((idsG x.stages.l.length).map I)] rfl (by omega) (zf3 _) rfl)
 have h0:(cntG 0 x.stages.l.length).map I=List.replicate x.stages.l.length (I 0):=by simp[cntG]
 rw[h0]at d1
 have hb1:x.stages.l.length≤1048576:=by have:=hx.st;omega
 have hb2:(x.stages.l.length:Int)≤1048576:=by omega
 rw[zj Φ75 (by simp)]
 simp at d1 d2
 unfold cyc
 cases hc:(zcz x.pipes.l (idsG x.stages.l.length)).isNone with
 |true=>
  rw[hc]at f2
  simp only[if_true]at f2
  obtain⟨rfl,f3⟩:=f2
  simp at f1
  simp[fi75,c75,hb1,hb2,d1,d2,f1,f3]
 |false=>
  rw[hc]at f2
  simp only[bFt,if_false]at f2
  subst f2
  simp at f1
  simp[fi75,c75,hb1,hb2,d1,d2,f1]
section
set_option maxRecDepth 10000
end
theorem zpH {x:Pl} {k:Nat} {y:Pi} (h:piI x k y=0):0≤y.src∧y.src<x.stages.l.length∧0≤y.dst∧y.dst<x.stages.l.length:=by
 unfold piI at h
 split at h
 .cases h
 .omega
theorem zr4 {x:Pl} (h:pisI x x.pipes.l 0=0):InR x.stages.l.length x.pipes.l:=by
 intro y hy
 obtain⟨k,hk⟩:=List.getElem?_of_mem hy
 have:=zey.1 h k y hk
 exact zpH this
theorem zr5 (x:Sg):inN x≤2:=by unfold inN;split;omega;exact zo7 _
theorem zns (x:Pl) (hx:PlN x):∀(rest:List Sg) (k:Nat) (acc:Nat) (H:Heap),x.stages.l.drop k=rest→k≤x.stages.l.length→acc≤4* k→H[0]?=some (.arr 0 2 false [x.av])→
  okC (W.loop [1,3,15,16,17] zqa [(1,.optr 0 0 0 0),(3,I acc),(15,Sl.av Sg.av 8 x.stages),(16,I x.stages.l.length),(17,I k)] H)
   (fun q F H'=>if zbz sgI rest≠0 then q= .ret∧F.get 2=I (zbz sgI rest) else q= .exit 0∧F.keep [1,3]=[(1,.optr 0 0 0 0),(3,I (acc+ends rest:Nat))]∧H'[0]?=some (.arr 0 2 false [x.av])):=by
 have hst:=hx.st
 intro rest
 induction rest with
 |nil=>
  intro k acc H h1 h2 ha hH
  have hk:=zk h1 h2
  rw[zc]
  simp[zio,zmq,hk,zbz,ends,hH, -getElem?_pos]
 |cons s rest ih=>
  intro k acc H h1 h2 ha hH
  obtain⟨hlt,hs,hr⟩:=zp h1
  have hlt':(k:Int)<x.stages.l.length:=by omega
  have hw:=zn (k:=k) (by omega)
  have hit:=hx.it s (lMg hs)
  have c1:=e72 s hit
  have c2:=e68 s hit
  have c3:=e73 s hit
  have g2:∀B,(H++[B])[H.length]?=some B:=fun B=>zF H B
  have g1:∀B,(H++[B])[0]?=some (.arr 0 2 false [x.av]):=fun B=>zR hH B
  have l1:=zr5 s
  have l2:=zkX s
  rw[zc]
  unfold zbz
  by_cases h:sgI s=0
  .rw[h]at c1
   rw[if_neg (show ¬sgI s≠0 by simp[h])]
   have ih:=ih (k+1) (acc+(inN s+outN s)) (H++[.arr 0 8 false [s.av]]) hr (by omega) (by omega) (g1 _)
   have he:acc+(inN s+outN s)+ends rest=acc+ends (s::rest):=by simp[ends];omega
   rw[he]at ih
   have w1:IntKind.wrap .i64 ((inN s:Int)+outN s)=(inN s:Int)+outN s:=zG (by omega) (by omega)
   have w2:IntKind.wrap .i64 ((acc:Int)+((inN s:Int)+outN s))=(acc:Int)+((inN s:Int)+outN s):=zG (by omega) (by omega)
   simp only[iNa,iCo]at ih
   simp[zio,zmq,hlt,hlt',hs,c1,c2,c3,w1,w2,hw,g2,gEz, -getElem?_pos]
   simpa using ih
  .rw[if_pos h]
   simp[zio,zmq,hlt,hlt',hs,c1,h,g2,gEz, -getElem?_pos]
theorem znt (x:Pl) (hx:PlN x) (acc:Int):∀(rest:List Pi) (k:Nat) (H:Heap),x.pipes.l.drop k=rest→k≤x.pipes.l.length→H[0]?=some (.arr 0 2 false [x.av])→
  okC (W.loop [1,3,40,41] zqb [(1,.optr 0 0 0 0),(3,I acc),(40,I x.pipes.l.length),(41,I k)] H)
   (fun q F H'=>if pisI x rest k≠0 then q= .ret∧F.get 2=I (pisI x rest k) else q= .exit 2∧F.keep [1,3]=[(1,.optr 0 0 0 0),(3,I acc)]∧H'=H):=by
 have hpi:=hx.pi
 intro rest
 induction rest with
 |nil=>
  intro k H h1 h2 hH
  have hk:=zk h1 h2
  rw[zc]
  simp[ziq,zmr,hk,pisI]
 |cons y rest ih=>
  intro k H h1 h2 hH
  obtain⟨hlt,hy,hr⟩:=zp h1
  have hlt':(k:Int)<x.pipes.l.length:=by omega
  have hw:=zn (k:=k) (by omega)
  have c1:=e74 x hx k y hy
  rw[zc]
  unfold pisI
  by_cases h:piI x k y=0
  .rw[h]at c1
   rw[if_neg (show ¬piI x k y≠0 by simp[h])]
   have ih:=ih (k+1) H hr (by omega) hH
   simp only[iNa,iCo]at ih
   simp[ziq,zmr,hlt,hlt',hH,c1,hw,gEz, -getElem?_pos]
   simpa using ih
  .rw[if_pos h]
   simp[ziq,zmr,hlt,hlt',hH,c1,h,gEz, -getElem?_pos]
theorem e24 (x:Pl) (hx:PlN x):W.pure 24 [x.av]=some (I (plI x)):=by
 have hst:=hx.st;have hpi:=hx.pi
 have run:∀(A:Option AV),((za1 W fi24 [x.av] []).bind fun p=>frz p.2 8 p.1)=A→W.pure 24 [x.av]=A:=fun A h=>by rw[zj Φ24 (by simp)];exact h
 refine run _ ?_
 unfold plI
 by_cases h0:x.stages.l.length=0∨16<x.stages.l.length
 .rw[if_pos h0]
  have c1:=e39f (a:=(x.stages.l.length:Int)) (l:=1) (h:=16) (by omega)
  simp[fi24,c24,c1]
 rw[if_neg h0]
 have c1:=e39t (a:=(x.stages.l.length:Int)) (l:=1) (h:=16) (by omega) (by omega)
 obtain⟨q,F,H,d1,d2⟩:=zf.1 (zns x hx x.stages.l 0 0 [.arr 0 2 false [x.av]] rfl (by omega) (by omega) rfl)
 simp at d1
 by_cases h1:zbz sgI x.stages.l=0
 rotate_left
 .rw[if_pos h1]at d2⊢
  obtain⟨rfl,d3⟩:=d2
  simp[fi24,c24,c1,d1,d3]
 rw[if_neg (show ¬zbz sgI x.stages.l≠0 by simp[h1])]at d2⊢
 obtain⟨rfl,d3,d4⟩:=d2
 simp at d3
 by_cases h2:32<x.pipes.l.length
 .have h2':(32:Int)<x.pipes.l.length:=by omega
  rw[if_pos h2]
  simp[fi24,c24,c1,d1,d3,d4,h2,h2',gEz, -getElem?_pos]
 have h2':¬(32:Int)<x.pipes.l.length:=by omega
 rw[if_neg h2]
 obtain⟨q,F2,H2,f1,f2⟩:=zf.1 (znt x hx (ends x.stages.l) x.pipes.l 0 H rfl (by omega) d4)
 simp at f1
 by_cases h3:pisI x x.pipes.l 0=0
 rotate_left
 .rw[if_pos h3]at f2⊢
  obtain⟨rfl,f3⟩:=f2
  simp[fi24,c24,c1,d1,d3,d4,h2,h2',f1,f3,gEz, -getElem?_pos]
 rw[if_neg (show ¬pisI x x.pipes.l 0≠0 by simp[h3])]at f2⊢
 obtain⟨rfl,f3,rfl⟩:=f2
 simp at f3
 have w:IntKind.wrap .i64 (2* (x.pipes.l.length:Int))=2* (x.pipes.l.length:Int):=zG (by omega) (by omega)
 by_cases h4:ends x.stages.l=2* x.pipes.l.length
 rotate_left
 .have h4':¬(ends x.stages.l:Int)=2* x.pipes.l.length:=by omega
  rw[if_pos h4]
  simp[fi24,c24,c1,d1,d3,d4,h2,h2',f1,f3,w,h4,h4',gEz, -getElem?_pos]
 have h4':((ends x.stages.l:Int)=2* x.pipes.l.length)=True:=eq_true (by omega)
 rw[if_neg (show ¬ends x.stages.l≠2* x.pipes.l.length by simp[h4])]
 have c2:=e75 x hx (zr4 h3)
 cases hc:cyc x with
 |true=>rw[hc]at c2;simp[fi24,c24,c1,d1,d3,d4,h2,h2',f1,f3,w,h4',c2,gEz, -getElem?_pos]
 |false=>rw[hc]at c2;simp[fi24,c24,c1,d1,d3,d4,h2,h2',f1,f3,w,h4',c2,gEz, -getElem?_pos]
section
set_option maxRecDepth 10000
end
theorem zfe (s:Sg) (r:List Sg):zad (s::r)=(if s.kind=10 then 1 else 0)+zad r:=by
 unfold zad
 by_cases h:s.kind=10<;>simp[h];omega
theorem zrT (x:Sl Sg) (hx:x.l.length≤1000):∀(rest:List Sg) (k acc:Nat) (H:Heap),x.l.drop k=rest→k≤x.l.length→acc≤k→
  okC (W.loop [3,6,7,8] zp8 [(3,I acc),(6,Sl.av Sg.av 8 x),(7,I x.l.length),(8,I k)] H) (fun q F H'=>q= .exit 0∧F.keep [3]=[(3,I (acc+zad rest:Nat))]):=by
 intro rest
 induction rest with
 |nil=>
  intro k acc H h1 h2 ha
  have hk:=zk h1 h2
  rw[zc]
  simp[zin,zmp,hk,zad]
 |cons s rest ih=>
  intro k acc H h1 h2 ha
  obtain⟨hlt,hs,hr⟩:=zp h1
  have hlt':(k:Int)<x.l.length:=by omega
  have hw:=zn (k:=k) (by omega)
  have hw2:=zn (k:=acc) (by omega)
  have g2:∀B,(H++[B])[H.length]?=some B:=fun B=>zF H B
  rw[zc]
  by_cases h:s.kind=10
  .have ih:=ih (k+1) (acc+1) (H++[.arr 0 8 false [s.av]]) hr (by omega) (by omega)
   have he:acc+1+zad rest=acc+zad (s::rest):=by rw[zfe,if_pos h];omega
   rw[he]at ih
   simp only[iNa,iCo]at ih
   simp[zin,zmp,hlt,hlt',hs,eq_true h,hw,hw2,g2,gEz, -getElem?_pos]
   simpa using ih
  .have ih:=ih (k+1) acc (H++[.arr 0 8 false [s.av]]) hr (by omega) (by omega)
   have he:acc+zad rest=acc+zad (s::rest):=by rw[zfe,if_neg h];omega
   rw[he]at ih
   simp only[iNa,iCo]at ih
   simp[zin,zmp,hlt,hlt',hs,h,hw,hw2,g2,gEz, -getElem?_pos]
   simpa using ih
theorem e43 (x:Sl Sg) (hx:x.l.length≤1000):W.pure 43 [Sl.av Sg.av 8 x]=some (I (zad x.l)):=by
 obtain⟨q,F,H,d1,rfl,d2⟩:=zf.1 (zrT x hx x.l 0 0 [] rfl (by omega) (by omega))
 rw[zj Φ43 (by simp)]
 simp at d1 d2
 simp[fi43,c43,d1,d2]
def zh7 (x:Sg) (s:SS):List Int:=
 if x.kind=8 then s.held else if x.kind=9 then (if s.count=1 then [0] else if s.count=2 then [1] else if s.count=3 then [0,1] else []) else if x.kind≠1∧s.ended=true then [0] else []
theorem zfX {x:Sg} {s:SS} (hg:zaD x s=0) (j:Int):j∈zh7 x s↔0≤j∧j<inK x.kind∧zae x s j=true:=by
 obtain⟨g1,g2⟩:=zx.1 hg
 obtain⟨f1,f2,f3,f4⟩:=zM g2
 unfold zh7 zae
 by_cases k8:x.kind=8
 .rw[if_pos k8,if_pos k8]
  have hin:inK x.kind=2:=by simp[inK,k8]
  rw[hin]
  simp only[dTe]
  constructor
  .intro h
   have hm:zbG s.held=true:=by
    rw[zfK ⟨f1,f2,f3⟩ (by simpa using f4),if_neg (by omega),if_pos k8]at g2
    simp only[bAt]at g2
    exact g2.1
   have hj:j=0∨j=1:=by
    match hh:s.held,hm with
    | [],_=>rw[hh]at h;cases h
    | [a],hm=>rw[hh]at h;simp[zbG]at hm h;omega
    | [a,b],hm=>rw[hh]at h;simp[zbG]at hm h;omega
   exact⟨by omega,by omega,h⟩
  .exact fun h=>h.2.2
 .rw[if_neg k8,if_neg k8]
  by_cases k9:x.kind=9
  .rw[if_pos k9,if_pos k9]
   have hin:inK x.kind=2:=by simp[inK,k9]
   have hC:zO x=3:=by simp[zO,k9]
   rw[hin]
   have hc:s.count=0∨s.count=1∨s.count=2∨s.count=3:=by omega
   rcases hc with hc|hc|hc|hc<;>rw[hc]<;>by_cases hj:j=0<;>simp[hj]<;>omega
  .rw[if_neg k9,if_neg k9]
   by_cases k1:x.kind=1
   .have hin:inK x.kind=0:=by simp[inK,k1]
    rw[if_neg (fun h=>h.1 k1),hin]
    simp;omega
   .have hin:inK x.kind=1:=by simp[inK,k1,k8,k9]
    rw[hin]
    cases he:s.ended with
    |true=>rw[if_pos ⟨k1,rfl⟩];simp;omega
    |false=>rw[if_neg (fun h=>by cases h.2)];simp
theorem e146 (x:Sg) (s:Ss) (hs:SlN s.held) (h9:x.kind=9→0≤s.count∧s.count≤3):∃y:Sl Int,W.pure 146 [x.av,s.av]=some (Sl.av I 1 y)∧y.l=zh7 x s.pl∧SlN y:=by
 unfold zh7
 have run:∀(A:Option AV),((za1 W zdY [x.av,s.av] []).bind fun p=>frz p.2 8 p.1)=A→W.pure 146 [x.av,s.av]=A:=fun A h=>by rw[zj Φ146 (by simp)];exact h
 by_cases k8:x.kind=8
 .rw[if_pos k8]
  refine⟨s.held,run _ ?_,rfl,hs⟩
  simp[zdY,c146,k8]
 rw[if_neg k8]
 by_cases k9:x.kind=9
 .rw[if_pos k9]
  obtain⟨h1,h2⟩:=h9 k9
  have hp:s.pl.count=s.count:=rfl
  rw[hp]
  have hc:s.count=0∨s.count=1∨s.count=2∨s.count=3:=by omega
  rcases hc with hc|hc|hc|hc
  .refine⟨zaM,run _ ?_,by simp[hc],zH⟩
   simp[zdY,c146,k8,eq_true k9,hc]
   rfl
  .refine⟨ofL 1 [0],run _ ?_,by simp[hc,ofL],one1 0⟩
   simp[zdY,c146,k8,eq_true k9,hc]
   rfl
  .refine⟨ofL 1 [1],run _ ?_,by simp[hc,ofL],one1 1⟩
   simp[zdY,c146,k8,eq_true k9,hc]
   rfl
  .refine⟨ofL 1 [0,1],run _ ?_,by simp[hc,ofL],zaN (by simp)⟩
   simp[zdY,c146,k8,eq_true k9,hc]
   rfl
 rw[if_neg k9]
 have hp:s.pl.ended=s.ended:=rfl
 rw[hp]
 by_cases k1:x.kind=1
 .rw[if_neg (fun h=>h.1 k1)]
  refine⟨zaM,run _ ?_,rfl,zH⟩
  simp[zdY,c146,k8,k9,eq_true k1]
  rfl
 .cases he:s.ended with
  |true=>
   rw[if_pos ⟨k1,rfl⟩]
   refine⟨ofL 1 [0],run _ ?_,rfl,one1 0⟩
   simp[zdY,c146,k8,k9,k1,he]
   rfl
  |false=>
   rw[if_neg (fun h=>by cases h.2)]
   refine⟨zaM,run _ ?_,rfl,zH⟩
   simp[zdY,c146,k8,k9,k1,he]
   rfl
structure FsN (s:Fs):Prop where
 st:s.stages.l.length≤1000
 cr:s.credits.l.length≤1000
 ou:s.outputs.l.length≤1000
 ns:SlN s.stages
 nc:SlN s.credits
 no:SlN s.outputs
 hs:∀t∈s.stages.l,SlN t.held
 hc:∀c∈s.credits.l,SlN c.items
 ho:∀o∈s.outputs.l,SlN o
theorem zfJ {s:Fs} {i:Nat} {t:Ss} (h:s.stages.l[i]?=some t):stAt s.pl i=t.pl:=by
 unfold stAt Fs.pl
 simp[gEd,h]
theorem zgj {s:Fs} {i:Nat} {t:Cr} (h:s.credits.l[i]?=some t):crAt s.pl i=t.pl:=by
 unfold crAt Fs.pl
 simp[gEd,h]
def cr1B (s:FS) (c:CC) (y:Pi):Bool:=decide (crI c=0)&&decide (c.cap=y.capacity)&&(c.closed==(stAt s y.src).ended)&&(c.closed||decide (c.granted=c.taken+c.cap))
def AllB (p:Nat→Prop) (k e:Nat) (fr:List Nat) (F0:Fr) (rv:Nat) (A B:Blk) (q:LX) (F:Fr) (H:Heap):Prop:=
 ((∀j:Nat,k≤j→p j)∧q= .exit e∧F.keep fr=F0∧H[0]?=some A∧H[1]?=some B)∨((∃j:Nat,¬p j)∧q= .ret∧F.get rv= .bool false)
section
variable {x:Pl} {s:Fs}
theorem app0 {H:Heap} {i:Nat} {A:Blk} (h:H[i]?=some A) (K:Heap):(H++K)[i]?=some A:=by
 rw[gEa (gEs.1 h).1];exact h
theorem two0 (H:Heap) (A B:Blk):(H++[A,B])[H.length]?=some A:=by simp
theorem two1 (H:Heap) (A B:Blk):(H++[A,B])[H.length+1]?=some B:=by
 rw[gEr (by omega)];simp
theorem znk (hx:PlN x) (hs:FsN s) (hr:InR x.stages.l.length x.pipes.l) (hl:s.credits.l.length=x.pipes.l.length) (hl2:s.stages.l.length=x.stages.l.length):∀(rest:List Cr) (k:Nat) (H:Heap),s.credits.l.drop k=rest→k≤s.credits.l.length→H[0]?=some (.arr 0 2 false [x.av])→H[1]?=some (.arr 0 4 false [s.av])→
  okC (W.loop [2,3,13,14,15] znC [(2,.optr 0 0 0 0),(3,.optr 1 0 0 0),(13,Sl.av Cr.av 6 s.credits),(14,I s.credits.l.length),(15,I k)] H)
   (fun q F H'=>AllB (fun j=>∀c y,s.credits.l[j]?=some c→x.pipes.l[j]?=some y→cr1B s.pl c.pl y=true) k 0 [2,3] [(2,.optr 0 0 0 0),(3,.optr 1 0 0 0)] 4 (.arr 0 2 false [x.av]) (.arr 0 4 false [s.av]) q F H'):=by
 have hcr:=hs.cr
 intro rest
 induction rest with
 |nil=>
  intro k H h1 h2 hA hB
  have hk:=zk h1 h2
  rw[zc]
  simp[zcI,zgn,hk]
  exact Or.inl ⟨fun j hj c y hc _=>by have:=(gEs.1 hc).1;omega,rfl,rfl,hA,hB⟩
 |cons c rest ih=>
  intro k H h1 h2 hA hB
  obtain⟨hlt,hc,hrr⟩:=zp h1
  have hlt':(k:Int)<s.credits.l.length:=by omega
  have hw:=zn (k:=k) (by omega)
  have hlp:k<x.pipes.l.length:=by omega
  obtain⟨y,hy⟩:∃y,x.pipes.l[k]?=some y:=⟨_,gEg hlp⟩
  obtain⟨r1,r2,r3,r4⟩:=hr y (lMg hy)
  have hsl:y.src.toNat<s.stages.l.length:=by omega
  obtain⟨t,ht⟩:∃t,s.stages.l[y.src.toNat]?=some t:=⟨_,gEg hsl⟩
  have hsc:=hs.hc c (lMg hc)
  have c1:=e137 c hsc.len
  have hst:stAt s.pl y.src=t.pl:=by
   have:=zfJ ht
   rwa [show ((y.src.toNat:Nat):Int)=y.src by omega]at this
  have a0:=fun K=>app0 hA K
  have a1:=fun K=>app0 hB K
  have b0:=two0 H
  have b1:=two1 H
  have b2:∀B,(H++[B])[H.length]?=some B:=fun B=>zF H B
  have ih':cr1B s.pl c.pl y=true→okC (W.loop [2,3,13,14,15] znC [(2,.optr 0 0 0 0),(3,.optr 1 0 0 0),(13,Sl.av Cr.av 6 s.credits),(14,I s.credits.l.length),(15,I ((k:Int)+1))] (H++[.arr 0 6 false [c.av],.arr 0 5 false [y.av]]))
   (fun q F H'=>AllB (fun j=>∀c y,s.credits.l[j]?=some c→x.pipes.l[j]?=some y→cr1B s.pl c.pl y=true) k 0 [2,3] [(2,.optr 0 0 0 0),(3,.optr 1 0 0 0)] 4 (.arr 0 2 false [x.av]) (.arr 0 4 false [s.av]) q F H'):=by
   intro hb
   have:=ih (k+1) (H++[.arr 0 6 false [c.av],.arr 0 5 false [y.av]]) hrr (by omega) (a0 _) (a1 _)
   simp only[iNa,iCo]at this
   obtain⟨q,F,H',d1,d2⟩:=zf.1 this
   rw[d1]
   rcases d2 with⟨d3,d4⟩|d3
   .refine Or.inl ⟨fun j hj=>?_,d4⟩
    by_cases hjk:j=k
    .subst hjk
     intro c' y' hc' hy'
     rw[hc]at hc';cases hc'
     rw[hy]at hy';cases hy'
     exact hb
    .exact d3 j (by omega)
   .exact Or.inr d3
  have bad:cr1B s.pl c.pl y=false→∃j:Nat,¬∀c y,s.credits.l[j]?=some c→x.pipes.l[j]?=some y→cr1B s.pl c.pl y=true:=fun hb=>⟨k,fun h=>by rw[h c y hc hy]at hb;cases hb⟩
  have hB0:cr1B s.pl c.pl y=(decide (crI c.pl=0)&&decide (c.cap=y.capacity)&&(c.closed==t.ended)&&(c.closed||decide (c.granted=c.taken+c.cap))):=by
   unfold cr1B;rw[hst];rfl
  rw[zc]
  by_cases h1:crI c.pl=0
  rotate_left
  .have hb:cr1B s.pl c.pl y=false:=by rw[hB0];simp[h1]
   simp[zcI,zgn,hlt,hlt',hlp,hc,hy,a0,a1,b0,b1,b2,c1,h1,gEz, -getElem?_pos]
   exact Or.inr ⟨bad hb,rfl,rfl⟩
  have hv:=(zaG _).1 h1
  rw[h1]at c1
  have g1:=hv.sg;have g2:=hv.gm;have g3:=hv.t0;have g4:=hv.ts;have g5:=hv.c1;have g6:=hv.c2
  simp only[Cr.pl]at g1 g2 g3 g4 g5 g6
  have w1:IntKind.wrap .i64 (c.taken+c.cap)=c.taken+c.cap:=zG (by omega) (by omega)
  by_cases h2:c.cap=y.capacity
  rotate_left
  .have hb:cr1B s.pl c.pl y=false:=by rw[hB0];simp[h2]
   simp[zcI,zgn,hlt,hlt',hlp,hc,hy,a0,a1,b0,b1,b2,c1,h2,gEz, -getElem?_pos]
   exact Or.inr ⟨bad hb,rfl,rfl⟩
  by_cases h3:c.closed=t.ended
  rotate_left
  .have hb:cr1B s.pl c.pl y=false:=by rw[hB0];simp[h3]
   have h3':(c.closed !=t.ended)=true:=by simp[h3]
   simp[zcI,zgn,hlt,hlt',hlp,hc,hy,a0,a1,b0,b1,b2,c1,eq_true h2,r1,ht,h3',gEz, -getElem?_pos]
   exact Or.inr ⟨bad hb,rfl,rfl⟩
  have h3':(c.closed !=t.ended)=false:=by simp[h3]
  cases h4:c.closed with
  |true=>
   have hb:cr1B s.pl c.pl y=true:=by rw[hB0];simp[h1,h2,←h3,h4]
   rw[h4]at h3'
   simp[zcI,zgn,hlt,hlt',hlp,hc,hy,a0,a1,b0,b1,b2,c1,eq_true h2,r1,ht,h3',h4,hw,gEz, -getElem?_pos]
   exact ih' hb
  |false=>
   rw[h4]at h3'
   by_cases h5:c.granted=c.taken+c.cap
   .have hb:cr1B s.pl c.pl y=true:=by rw[hB0];simp[h1,h2,←h3,h5]
    simp[zcI,zgn,hlt,hlt',hlp,hc,hy,a0,a1,b0,b1,b2,c1,eq_true h2,r1,ht,h3',h4,eq_true h5,w1,hw,gEz, -getElem?_pos]
    exact ih' hb
   .have hb:cr1B s.pl c.pl y=false:=by rw[hB0];simp[h4,h5]
    simp[zcI,zgn,hlt,hlt',hlp,hc,hy,a0,a1,b0,b1,b2,c1,eq_true h2,r1,ht,h3',h4,h5,w1,gEz, -getElem?_pos]
    exact Or.inr ⟨bad hb,rfl,rfl⟩
end
section
variable {x:Pl} {s:Fs}
def zmG (x:Pl) (s:FS) (i:Nat):Prop:=∀n∈zh7 (sgAt x i) (stAt s i),endC (crAt s (pIn x i n))=true
def zvw (x:Pl) (s:FS) (i:Nat) (l:List Int) (F0:Fr) (H0:Heap) (q:LX) (F:Fr) (H:Heap):Prop:=
 ((∀n∈l,endC (crAt s (pIn x i n))=true)∧q= .exit 4∧F.keep [2,3,64,65,66]=F0∧H=H0)∨((∃n∈l,endC (crAt s (pIn x i n))=false)∧q= .ret∧F.get 4= .bool false)
theorem znm (hx:PlN x) (hv:PlV x) (hs:FsN s) (hl:s.credits.l.length=x.pipes.l.length) (i:Nat) (hi:i<x.stages.l.length) (y:Sl Int) (hy:y.l.length≤1000) (hn:∀n∈y.l,0≤n∧n<inK (sgAt x i).kind) (z64 z65 z66:AV) (o1:okO z64=some z64) (o2:okO z65=some z65) (o3:okO z66=some z66) (H:Heap) (hA:H[0]?=some (.arr 0 2 false [x.av])) (hB:H[1]?=some (.arr 0 4 false [s.av])):∀(rest:List Int) (k:Nat),y.l.drop k=rest→k≤y.l.length→
  okC (W.loop [2,3,8,64,65,66,77,78,79] zpY [(2,.optr 0 0 0 0),(3,.optr 1 0 0 0),(8,I i),(64,z64),(65,z65),(66,z66),(77,Sl.av I 1 y),(78,I y.l.length),(79,I k)] H)
   (fun q F H'=>zvw x s.pl i rest [(2,.optr 0 0 0 0),(3,.optr 1 0 0 0),(64,z64),(65,z65),(66,z66)] H q F H'):=by
 intro rest
 induction rest with
 |nil=>
  intro k h1 h2
  have hk:=zk h1 h2
  rw[zc]
  simp[zih,zmj,hk,o1,o2,o3]
  exact Or.inl ⟨by simp,rfl,rfl,rfl⟩
 |cons n rest ih=>
  intro k h1 h2
  obtain⟨hlt,hnk,hr⟩:=zp h1
  have hlt':(k:Int)<y.l.length:=by omega
  have hw:=zn (k:=k) (by omega)
  obtain⟨n0,n1⟩:=hn n (lMg hnk)
  obtain⟨j,p,hp,e1,e2⟩:=hv.allIn i n.toNat hi (by omega)
  have hpin:pIn x i n=j:=by
   have:=zcQ hv.toPiV hp
   rwa [e1,e2,show ((n.toNat:Nat):Int)=n by omega]at this
  have c1:=e69 x hx.pi i n
  rw[hpin]at c1
  have hjl:j<s.credits.l.length:=by rw[hl];exact (gEs.1 hp).1
  obtain⟨c,hc⟩:∃c,s.credits.l[j]?=some c:=⟨_,gEg hjl⟩
  have c2:=e133 c (hs.hc c (lMg hc)).len
  have hcp:crAt s.pl (pIn x i n)=c.pl:=by rw[hpin];exact zgj hc
  have j0:¬(j:Int)<0:=by omega
  rw[zc]
  cases he:endC c.pl with
  |true=>
   rw[he]at c2
   obtain⟨q,F,H',d1,d2⟩:=zf.1 (ih (k+1) hr (by omega))
   simp only[iNa,iCo]at d1
   simp[zih,zmj,hlt,hlt',hnk,hA,hB,c1,hc,c2,hw,d1,o1,o2,o3,gEz, -getElem?_pos]
   rcases d2 with⟨d3,d4⟩|⟨⟨m,m1,m2⟩,d4⟩
   .exact Or.inl ⟨fun m hm=>by rcases lMc.1 hm with rfl|hm;rw[hcp];exact he;exact d3 m hm,d4⟩
   .exact Or.inr ⟨⟨m,List.mem_cons_of_mem _ m1,m2⟩,d4⟩
  |false=>
   rw[he]at c2
   simp[zih,zmj,hlt,hlt',hnk,hA,hB,c1,hc,c2,o1,o2,o3,gEz, -getElem?_pos]
   exact Or.inr ⟨⟨n,by simp,by rw[hcp];exact he⟩,rfl,rfl⟩
theorem zkZ {g:Sg} {t:SS} (h:zaD g t=0):(zh7 g t).length≤1000:=by
 obtain⟨g1,g2⟩:=zx.1 h
 obtain⟨f1,f2,f3,f4⟩:=zM g2
 unfold zh7
 split
 .rename_i k8
  have:zY g=2:=by simp[zY,k8]
  omega
 .split
  .split
   .simp
   .split
    .simp
    .split<;>simp
  .split<;>simp
theorem znl (hx:PlN x) (hv:PlV x) (hs:FsN s) (hl:s.credits.l.length=x.pipes.l.length) (hl2:s.stages.l.length=x.stages.l.length) (hN:∀i:Nat,i<x.stages.l.length→zaD (sgAt x i) (stAt s.pl i)=0):∀(rest:List Ss) (k:Nat) (H:Heap),s.stages.l.drop k=rest→k≤s.stages.l.length→H[0]?=some (.arr 0 2 false [x.av])→H[1]?=some (.arr 0 4 false [s.av])→
  okC (W.loop [2,3,64,65,66] zpX [(2,.optr 0 0 0 0),(3,.optr 1 0 0 0),(64,Sl.av Ss.av 3 s.stages),(65,I s.stages.l.length),(66,I k)] H)
   (fun q F H'=>AllB (fun i=>i<x.stages.l.length→zmG x s.pl i) k 2 [] [] 4 (.arr 0 2 false [x.av]) (.arr 0 4 false [s.av]) q F H'):=by
 have hst:=hs.st
 intro rest
 induction rest with
 |nil=>
  intro k H h1 h2 hA hB
  have hk:=zk h1 h2
  rw[zc]
  simp[zig,zmi,hk]
  exact Or.inl ⟨fun j hj hjl=>by omega,rfl,rfl,hA,hB⟩
 |cons t rest ih=>
  intro k H h1 h2 hA hB
  obtain⟨hlt,ht,hrr⟩:=zp h1
  have hlt':(k:Int)<s.stages.l.length:=by omega
  have hw:=zn (k:=k) (by omega)
  have hkx:k<x.stages.l.length:=by omega
  have hg:=zbl hkx
  have hne:=hN k hkx
  have hsp:=zfJ ht
  rw[hsp]at hne
  have hsc:=hs.hs t (lMg ht)
  have h9:(sgAt x k).kind=9→0≤t.count∧t.count≤3:=fun k9=>by
   obtain⟨f1,f2,f3,f4⟩:=zM (zx.1 hne).2
   have hC:zO (sgAt x k)=3:=by simp[zO,k9]
   have f1':0≤t.count:=f1
   have f2':t.count≤zO (sgAt x k):=f2
   exact⟨f1',by omega⟩
  obtain⟨y,c1,c2,c3⟩:=e146 (sgAt x k) t hsc h9
  have a0:=fun K=>app0 hA K
  have a1:=fun K=>app0 hB K
  have b2:∀B,(H++[B])[H.length]?=some B:=fun B=>zF H B
  obtain⟨q,F,H',d1,d2⟩:=zf.1 (znm hx hv hs hl k hkx y (by rw[c2];exact zkZ hne) (fun n hn=>by rw[c2]at hn;have:=(zfX hne n).1 hn;exact⟨this.1,this.2.1⟩) (Sl.av Ss.av 3 s.stages) (I s.stages.l.length) (I k) rfl rfl rfl (H++[.arr 0 3 false [t.av]]) (a0 _) (a1 _) y.l 0 rfl (by omega))
  rw[c2]at d2
  simp only[Int.natCast_zero]at d1
  rw[zc]
  rcases d2 with⟨d3,rfl,d4,rfl⟩|⟨⟨m,m1,m2⟩,rfl,d4⟩
  .simp at d4
   have ih:=ih (k+1) (H++[.arr 0 3 false [t.av]]) hrr (by omega) (a0 _) (a1 _)
   simp only[iNa,iCo]at ih
   obtain⟨q,F',H',f1,f2⟩:=zf.1 ih
   simp[zig,zmi,hlt,hlt',hkx,ht,hg,a0,a1,b2,c1,d1,d4,hw,f1,gEz, -getElem?_pos]
   rcases f2 with⟨f3,f4⟩|f3
   .refine Or.inl ⟨fun j hj hjl=>?_,f4⟩
    by_cases hjk:j=k
    .subst hjk
     unfold zmG
     rw[hsp]
     exact d3
    .exact f3 j (by omega) hjl
   .exact Or.inr f3
  .simp[zig,zmi,hlt,hlt',hkx,ht,hg,a0,a1,b2,c1,d1,d4,gEz, -getElem?_pos]
   refine Or.inr ⟨⟨k,fun h=>?_⟩,rfl,d4⟩
   have:=h hkx m (by rw[hsp];exact m1)
   rw[this]at m2;cases m2
theorem znf (hv:PlV x) {s:FS} (hl:s.cr.length=x.pipes.l.length) (hN:∀i:Nat,i<x.stages.l.length→zaD (sgAt x i) (stAt s i)=0):
  (∀i:Nat,i<x.stages.l.length→zmG x s i)↔∀(k:Nat) (c:CC) (y:Pi),s.cr[k]?=some c→x.pipes.l[k]?=some y→zae (sgAt x y.dst) (stAt s y.dst) y.input=true→endC c=true:=by
 constructor
 .intro h k c y hc hy hn
  have hr:=hv.rng k y hy
  have hd:((y.dst.toNat:Nat):Int)=y.dst:=by omega
  have:=h y.dst.toNat (by omega) y.input (by
   rw[hd]
   exact (zfX (by have:=hN y.dst.toNat (by omega);rwa [hd]at this) _).2 ⟨hr.2.2.2.2.2.2.2.2.1,hr.2.2.2.2.2.2.2.2.2.1,hn⟩)
  rw[hd,zcQ hv.toPiV hy,zdx hc]at this
  exact this
 .intro h i hi n hn
  obtain⟨n0,n1,n2⟩:=(zfX (hN i hi) n).1 hn
  obtain⟨j,p,hp,e1,e2⟩:=hv.allIn i n.toNat hi (by omega)
  have hpin:pIn x i n=j:=by
   have:=zcQ hv.toPiV hp
   rwa [e1,e2,show ((n.toNat:Nat):Int)=n by omega]at this
  have hjl:j<s.cr.length:=by rw[hl];exact (gEs.1 hp).1
  have hc:=gEg hjl
  rw[hpin,zdx hc]
  exact h j _ p hc hp (by rw[e1,e2,show ((n.toNat:Nat):Int)=n by omega];exact n2)
theorem zgi (s:FS) (c:CC) (y:Pi):crOk x s c y=(cr1B s c y&&(!zae (sgAt x y.dst) (stAt s y.dst) y.input||endC c)):=rfl
theorem zpG {k:Nat} {c:CC} (h:s.pl.cr[k]?=some c):∃c',s.credits.l[k]?=some c'∧c=c'.pl:=by
 unfold Fs.pl at h
 simp only[gEm]at h
 cases hk:s.credits.l[k]? with
 |none=>rw[hk]at h;cases h
 |some c'=>rw[hk]at h;cases h;exact⟨c',rfl,rfl⟩
theorem e98 (hx:PlN x) (hv:PlV x) (hs:FsN s) (hl:s.credits.l.length=x.pipes.l.length) (hl2:s.stages.l.length=x.stages.l.length) (hN:∀i:Nat,i<x.stages.l.length→zaD (sgAt x i) (stAt s.pl i)=0):
  W.pure 98 [x.av,s.av]=some (.bool (all2 (crOk x s.pl) s.pl.cr x.pipes.l)):=by
 have hplc:s.pl.cr.length=x.pipes.l.length:=by simp[Fs.pl,hl]
 have hr:InR x.stages.l.length x.pipes.l:=fun y hy=>by
  obtain⟨k,hk⟩:=List.getElem?_of_mem hy
  have:=hv.rng k y hk
  exact⟨this.1,this.2.1,this.2.2.1,this.2.2.2.1⟩
 have run:∀(A:Option AV),((za1 W fi98 [x.av,s.av] []).bind fun p=>frz p.2 8 p.1)=A→W.pure 98 [x.av,s.av]=A:=fun A h=>by rw[zj Φ98 (by simp)];exact h
 have val:∀b:Bool,(b=true↔(∀(k:Nat) (c:CC) (y:Pi),s.pl.cr[k]?=some c→x.pipes.l[k]?=some y→crOk x s.pl c y=true))→all2 (crOk x s.pl) s.pl.cr x.pipes.l=b:=fun b h=>by
  rw[Bool.eq_iff_iff,zdc,h]
  exact⟨fun h=>h.2,fun h=>⟨hplc,h⟩⟩
 have hnt:=znf hv hplc hN
 obtain⟨q,F,H,d1,d2⟩:=zf.1 (znk hx hs hr hl hl2 s.credits.l 0 [.arr 0 2 false [x.av],.arr 0 4 false [s.av]] rfl (by omega) rfl rfl)
 simp at d1
 rcases d2 with⟨d3,rfl,d4,dA,dB⟩|⟨⟨j,d3⟩,rfl,d4⟩
 .simp at d4
  obtain⟨q,F',H',f1,f2⟩:=zf.1 (znl hx hv hs hl hl2 hN s.stages.l 0 H rfl (by omega) dA dB)
  simp at f1
  rcases f2 with⟨f3,rfl,f4,fA,fB⟩|⟨⟨j,f3⟩,rfl,f4⟩
  .rw[val true ?_]
   .refine run _ ?_
    simp[fi98,c98,d1,d4,dA,dB,f1,gEz, -getElem?_pos]
   .simp only[true_iff]
    intro k c y hc hy
    obtain⟨c',hc',rfl⟩:=zpG hc
    rw[zgi,d3 k (by omega) c' y hc' hy,Bool.true_and]
    have:=hnt.1 (fun i hi=>f3 i (by omega) hi) k _ y hc hy
    cases hn:zae (sgAt x y.dst) (stAt s.pl y.dst) y.input with
    |false=>rfl
    |true=>rw[this hn];rfl
  .rw[val false ?_]
   .refine run _ ?_
    simp[fi98,c98,d1,d4,dA,dB,f1,f4,gEz, -getElem?_pos]
   .simp only[bFt,false_iff]
    intro h
    refine f3 fun hj=>hnt.2 (fun k c y hc hy hn=>?_) j hj
    have:=h k c y hc hy
    rw[zgi,hn]at this
    simpa using (Bool.and_eq_true_iff.1 this).2
 .rw[val false ?_]
  .refine run _ ?_
   simp[fi98,c98,d1,d4]
  .simp only[bFt,false_iff]
   intro h
   refine d3 fun c y hc hy=>?_
   have hc':s.pl.cr[j]?=some c.pl:=by simp[Fs.pl,hc]
   have:=h j _ y hc' hy
   rw[zgi]at this
   exact (Bool.and_eq_true_iff.1 this).1
end
theorem zsm (n:Int) (H:Heap):W.call (.clo 97 [] []) [I n] H=some (.bool (!isIt n),H):=by
 have c1:=e39 n (-1099511627776) 1099511627776
 rw[ze Φ97]
 simp[fi97,c97,c1,isIt]
section
variable {x:Pl} {s:Fs}
theorem zno (hx:PlN x) (hs:FsN s) (hl2:s.stages.l.length=x.stages.l.length):∀(rest:List Ss) (k:Nat) (H:Heap),s.stages.l.drop k=rest→k≤s.stages.l.length→H[0]?=some (.arr 0 2 false [x.av])→H[1]?=some (.arr 0 4 false [s.av])→
  okC (W.loop [2,3,37,38,39] zp4 [(2,.optr 0 0 0 0),(3,.optr 1 0 0 0),(37,Sl.av Ss.av 3 s.stages),(38,I s.stages.l.length),(39,I k)] H)
   (fun q F H'=>AllB (fun i=>i<x.stages.l.length→zaD (sgAt x i) (stAt s.pl i)=0) k 0 [2,3] [(2,.optr 0 0 0 0),(3,.optr 1 0 0 0)] 4 (.arr 0 2 false [x.av]) (.arr 0 4 false [s.av]) q F H'):=by
 have hst:=hs.st
 intro rest
 induction rest with
 |nil=>
  intro k H h1 h2 hA hB
  have hk:=zk h1 h2
  rw[zc]
  simp[zil,zmn,hk]
  exact Or.inl ⟨fun j hj hjl=>by omega,rfl,rfl,hA,hB⟩
 |cons t rest ih=>
  intro k H h1 h2 hA hB
  obtain⟨hlt,ht,hrr⟩:=zp h1
  have hlt':(k:Int)<s.stages.l.length:=by omega
  have hw:=zn (k:=k) (by omega)
  have hkx:k<x.stages.l.length:=by omega
  have hg:=zbl hkx
  have hsp:=zfJ ht
  obtain⟨y,c1,c2,c3⟩:=e95 (sgAt x k) (hx.it _ (lMg hg)) t (hs.hs t (lMg ht))
  have a0:=fun K=>app0 hA K
  have a1:=fun K=>app0 hB K
  have b2:∀B,(H++[B])[H.length]?=some B:=fun B=>zF H B
  rw[zc]
  by_cases h:zaD (sgAt x k) t.pl=0
  .rw[h]at c1
   have ih:=ih (k+1) (H++[.arr 0 3 false [t.av]]) hrr (by omega) (a0 _) (a1 _)
   simp only[iNa,iCo]at ih
   obtain⟨q,F',H',f1,f2⟩:=zf.1 ih
   simp[zil,zmn,hlt,hlt',hkx,ht,hg,a0,a1,b2,c1,hw,f1,gEz, -getElem?_pos]
   rcases f2 with⟨f3,f4⟩|f3
   .refine Or.inl ⟨fun j hj hjl=>?_,f4⟩
    by_cases hjk:j=k
    .subst hjk
     rw[hsp];exact h
    .exact f3 j (by omega) hjl
   .exact Or.inr f3
  .simp[zil,zmn,hlt,hlt',hkx,ht,hg,a0,a1,b2,c1,h,gEz, -getElem?_pos]
   exact Or.inr ⟨⟨k,fun hh=>h (by have:=hh hkx;rwa [hsp]at this)⟩,rfl,rfl⟩
def outB (l:List Int):Bool:=decide (l.length≤200)&&l.all isIt
theorem znp (hs:FsN s) (A B:Blk):∀(rest:List (Sl Int)) (k:Nat) (H:Heap),s.outputs.l.drop k=rest→k≤s.outputs.l.length→H[0]?=some A→H[1]?=some B→
  okC (W.loop [2,3,58,59,60] zp5 [(2,.optr 0 0 0 0),(3,.optr 1 0 0 0),(58,Sl.av (Sl.av I 1) 1 s.outputs),(59,I s.outputs.l.length),(60,I k)] H)
   (fun q F H'=>AllB (fun i=>∀o,s.outputs.l[i]?=some o→outB o.l=true) k 2 [2,3] [(2,.optr 0 0 0 0),(3,.optr 1 0 0 0)] 4 A B q F H'):=by
 have hou:=hs.ou
 intro rest
 induction rest with
 |nil=>
  intro k H h1 h2 hA hB
  have hk:=zk h1 h2
  rw[zc]
  simp[zf9,zkh,hk]
  exact Or.inl ⟨fun j hj o ho=>by have:=(gEs.1 ho).1;omega,rfl,rfl,hA,hB⟩
 |cons o rest ih=>
  intro k H h1 h2 hA hB
  obtain⟨hlt,ho,hrr⟩:=zp h1
  have hlt':(k:Int)<s.outputs.l.length:=by omega
  have hw:=zn (k:=k) (by omega)
  have hok:=hs.ho o (lMg ho)
  rw[zc]
  by_cases h2:200<o.l.length
  .have h2':(200:Int)<o.l.length:=by omega
   simp[zf9,zkh,hlt,hlt',ho,h2,h2',gEz, -getElem?_pos]
   exact Or.inr ⟨⟨k,fun hh=>by have:=hh o ho;simp[outB]at this;omega⟩,rfl,rfl⟩
  have h2':¬(200:Int)<o.l.length:=by omega
  obtain⟨v,H',d1,rfl,d2⟩:=zu.1 (zoG o (by omega) (.clo 97 [] []) rfl (fun a=> !isIt a) H (fun a _ H _=>by rw[zsm];exact⟨rfl,Kept.refl _ _⟩))
  rw[zgp]at d1
  cases ha:o.l.all isIt with
  |false=>
   rw[ha]at d1
   simp[zf9,zkh,hlt,hlt',ho,h2,h2',d1,gEz, -getElem?_pos]
   exact Or.inr ⟨⟨k,fun hh=>by have:=hh o ho;unfold outB at this;rw[ha,Bool.and_false]at this;cases this⟩,rfl,rfl⟩
  |true=>
   rw[ha]at d1
   have ih:=ih (k+1) H' hrr (by omega) (d2.get (by simp) hA) (d2.get (by simp) hB)
   simp only[iNa,iCo]at ih
   obtain⟨q,F',H2,f1,f2⟩:=zf.1 ih
   simp[zf9,zkh,hlt,hlt',ho,h2,h2',d1,hw,f1,gEz, -getElem?_pos]
   rcases f2 with⟨f3,f4⟩|f3
   .refine Or.inl ⟨fun j hj o' ho'=>?_,f4⟩
    by_cases hjk:j=k
    .subst hjk
     rw[ho]at ho';cases ho'
     unfold outB
     rw[ha];simp;omega
    .exact f3 j (by omega) o' ho'
   .exact Or.inr f3
theorem zfs (x:Pl) (s:FS):fsB x s=true↔s.st.length=x.stages.l.length∧s.cr.length=x.pipes.l.length∧s.out.length=zad x.stages.l∧(∀l∈s.out,outB l=true)∧(∀i:Nat,i<x.stages.l.length→zaD (sgAt x i) (stAt s i)=0)∧all2 (crOk x s) s.cr x.pipes.l=true:=by
 unfold fsB
 simp only[bAt,dTe,lAt,and_assoc]
 constructor
 .rintro⟨h1,h2,h3,h4,h5,h6⟩
  refine⟨h1,h2,h3,fun l hl=>?_,fun i hi=>?_,h6⟩
  .have:=h4 l hl
   unfold outB
   simp only[bAt,dTe,lAt]
   exact this
  .obtain⟨_,h5⟩:=zdc.1 h5
   have hil:i<s.st.length:=by omega
   have:=h5 i _ _ (zbl hi) (gEg hil)
   simp only[dTe]at this
   unfold stAt
   rw[iTn,gEd,gEg hil]
   exact this
 .rintro⟨h1,h2,h3,h4,h5,h6⟩
  refine⟨h1,h2,h3,fun l hl=>?_,zdc.2 ⟨h1.symm,fun k a b ha hb=>?_⟩,h6⟩
  .have:=h4 l hl
   unfold outB at this
   simp only[bAt,dTe,lAt]at this
   exact this
  .have hk:=(gEs.1 ha).1
   have:=h5 k hk
   have e1:=zbl hk
   rw[ha]at e1;cases e1
   unfold stAt at this
   rw[iTn,gEd,hb]at this
   simpa using this
theorem e53 (hx:PlN x) (hv:PlV x) (hs:FsN s):W.pure 53 [x.av,s.av]=some (.bool (fsB x s.pl)):=by
 have run:∀(A:Option AV),((za1 W fi53 [x.av,s.av] []).bind fun p=>frz p.2 8 p.1)=A→W.pure 53 [x.av,s.av]=A:=fun A h=>by rw[zj Φ53 (by simp)];exact h
 have p1:s.pl.st.length=s.stages.l.length:=by simp[Fs.pl]
 have p2:s.pl.cr.length=s.credits.l.length:=by simp[Fs.pl]
 have p3:s.pl.out.length=s.outputs.l.length:=by simp[Fs.pl]
 have no:¬(fsB x s.pl=true)→fsB x s.pl=false:=fun h=>by cases hb:fsB x s.pl with|false=>rfl|true=>exact absurd hb h
 have c1:=e43 x.stages hx.st
 by_cases h1:s.stages.l.length=x.stages.l.length
 rotate_left
 .have h1':¬((s.stages.l.length:Int)=x.stages.l.length):=by omega
  rw[no (fun h=>h1 (by rw[←p1];exact ((zfs x s.pl).1 h).1))]
  refine run _ ?_
  simp[fi53,c53,h1,h1']
 by_cases h2:s.credits.l.length=x.pipes.l.length
 rotate_left
 .have h2':¬((s.credits.l.length:Int)=x.pipes.l.length):=by omega
  rw[no (fun h=>h2 (by rw[←p2];exact ((zfs x s.pl).1 h).2.1))]
  refine run _ ?_
  simp[fi53,c53,eq_true h1,h2,h2']
 by_cases h3:s.outputs.l.length=zad x.stages.l
 rotate_left
 .have h3':¬((s.outputs.l.length:Int)=zad x.stages.l):=by omega
  rw[no (fun h=>h3 (by rw[←p3];exact ((zfs x s.pl).1 h).2.2.1))]
  refine run _ ?_
  simp[fi53,c53,eq_true h1,eq_true h2,c1,h3,h3']
 obtain⟨q,F,H,d1,d2⟩:=zf.1 (zno hx hs h1 s.stages.l 0 [.arr 0 2 false [x.av],.arr 0 4 false [s.av]] rfl (by omega) rfl rfl)
 simp at d1
 rcases d2 with⟨d3,rfl,d4,dA,dB⟩|⟨⟨j,d3⟩,rfl,d4⟩
 rotate_left
 .rw[no (fun h=>d3 fun hj=>((zfs x s.pl).1 h).2.2.2.2.1 j hj)]
  refine run _ ?_
  simp[fi53,c53,eq_true h1,eq_true h2,c1,eq_true h3,d1,d4]
 simp at d4
 have hN:∀i:Nat,i<x.stages.l.length→zaD (sgAt x i) (stAt s.pl i)=0:=fun i hi=>d3 i (by omega) hi
 obtain⟨q,F2,H2,f1,f2⟩:=zf.1 (znp hs _ _ s.outputs.l 0 H rfl (by omega) dA dB)
 simp at f1
 rcases f2 with⟨f3,rfl,f4,fA,fB⟩|⟨⟨j,f3⟩,rfl,f4⟩
 rotate_left
 .rw[no (fun h=>f3 fun o ho=>((zfs x s.pl).1 h).2.2.2.1 o.l (by simp only[Fs.pl];exact List.mem_map.2 ⟨o,lMg ho,rfl⟩))]
  refine run _ ?_
  simp[fi53,c53,eq_true h1,eq_true h2,c1,eq_true h3,d1,d4,dA,dB,f1,f4,gEz, -getElem?_pos]
 simp at f4
 have c2:=e98 hx hv hs h2 h1 hN
 have hfin:fsB x s.pl=all2 (crOk x s.pl) s.pl.cr x.pipes.l:=by
  rw[Bool.eq_iff_iff,zfs]
  constructor
  .exact fun h=>h.2.2.2.2.2
  .intro h
   refine⟨by rw[p1];exact h1,by rw[p2];exact h2,by rw[p3];exact h3,fun l hl=>?_,hN,h⟩
   simp only[Fs.pl]at hl
   obtain⟨o,ho,rfl⟩:=List.mem_map.1 hl
   obtain⟨j,hj⟩:=List.getElem?_of_mem ho
   exact f3 j (by omega) o hj
 rw[hfin]
 refine run _ ?_
 have h1i:=eq_true (show ((s.stages.l.length:Int)=x.stages.l.length) by omega)
 have h2i:=eq_true (show ((s.credits.l.length:Int)=x.pipes.l.length) by omega)
 have h3i:=eq_true (show ((s.outputs.l.length:Int)=zad x.stages.l) by omega)
 simp[fi53,c53,h1i,h2i,h3i,eq_true h1,eq_true h2,c1,eq_true h3,d1,d4,dA,dB,f1,f4,fA,fB,c2,gEz, -getElem?_pos]
theorem e16 (hx:PlN x) (hs:FsN s):W.pure 16 [x.av,s.av]=some (I (vaI x s.pl)):=by
 have run:∀(A:Option AV),((za1 W fi16 [x.av,s.av] []).bind fun p=>frz p.2 8 p.1)=A→W.pure 16 [x.av,s.av]=A:=fun A h=>by rw[zj Φ16 (by simp)];exact h
 have c1:=e24 x hx
 refine run _ ?_
 unfold vaI
 by_cases h:plI x=0
 .rw[h]at c1
  have c2:=e53 hx (zh5 h) hs
  cases hb:fsB x s.pl with
  |true=>rw[hb]at c2;rw[if_pos ⟨h,rfl⟩];simp[fi16,c16,c1,c2]
  |false=>rw[hb]at c2;rw[if_neg (fun h=>by cases h.2)];simp[fi16,c16,c1,c2]
 .rw[if_neg (fun hh=>h hh.1)]
  simp[fi16,c16,c1,h]
end
@[simp] theorem findHole_nil (t:Nat):zl t []=none:=rfl
section
variable {x:Pl} {s:Fs}
end
@[simp] theorem apart_sl {α:Type} {f:α→AV} {sz:Nat} {x:Sl α} (a b c d:Nat):apart (.optr a b c d) (Sl.av f sz x)=true:=rfl
@[simp] theorem apart_ep (a b c d:Nat) (cs:List AV):apart (.optr a b c d) (.eptr cs)=true:=rfl
def zMv:Mv:=⟨zSs,zaM,false,false,0,0,0⟩
def aMv:Mv:=⟨zSs,zaM,false,false, -1,0,0⟩
theorem zq6:bldV [.isl (some true) 0 [],.int .i64 0,.bool false,.isl (some true) 0 [],.bool false,.bool false,.int .i64 0,.int .i64 0,.int .i64 0] [(6,1)] [.int .i64 (-1)]=aMv.av:=rfl
theorem zq7:bldV [.isl (some true) 0 [],.int .i64 0,.bool false,.isl (some true) 0 [],.bool false,.bool false,.int .i64 0,.int .i64 0,.int .i64 0] [] []=zMv.av:=rfl
structure MvR (x:Pl) (i:Int) (m:Mv) (v:MV):Prop where
 st:m.state.pl=v.st
 sh:SlN m.state.held
 out:m.sent.l.map Sl.l=v.out
 so:SlN m.sent
 sa:∀y∈m.sent.l,SlN y
 en:m.ended=v.st.ended
 tk:m.takes=decide (v.kind=2)
 pi:v.kind=2→pIn x i m.inp=v.pipe∧m.item=v.item
 e:m.e=v.e
theorem ze8 (g:Sg) (t:SS) (i n:Int):(zcq g t i n).1.ended=false:=by
 unfold zcq
 by_cases h:zbD g t i n=0
 .rw[if_neg (by simp[h])]
  by_cases hz:(zr g t i n).2.2=0
  .exact (zdp h hz).2.1
  .rw[(ziX g t i n hz).1];rfl
 .rw[if_pos h];rfl
section
variable {x:Pl} {s:Fs}
theorem e85 (hx:PlN x) (hv:PlV x) (hs:FsN s) (hf:FsV x s.pl) (i:Nat) (hi:i<x.stages.l.length):
  ∃m:Mv,W.pure 85 [x.av,s.av,I i]=some (.tuple [m.av,.bool (decide ((zaP x s.pl i).kind≠0))])∧SlN m.sent∧(∀y∈m.sent.l,SlN y)∧((zaP x s.pl i).kind≠0→MvR x i m (zaP x s.pl i)):=by
 have run:∀(A:Option AV),((za1 W fi85 [x.av,s.av,I i] []).bind fun p=>frz p.2 8 p.1)=A→W.pure 85 [x.av,s.av,I i]=A:=fun A h=>by rw[zj Φ85 (by simp)];exact h
 have hls:s.stages.l.length=x.stages.l.length:=by have:=hf.ls;simpa[Fs.pl]using this
 have hlc:s.credits.l.length=x.pipes.l.length:=by have:=hf.lc;simpa[Fs.pl]using this
 have hit:i<s.stages.l.length:=by omega
 obtain⟨t,ht⟩:∃t,s.stages.l[i]?=some t:=⟨_,gEg hit⟩
 have hti:s.stages.l[i]=t:=(gEs.1 ht).2
 have hg:=zbl hi
 have hgi:x.stages.l[i]=sgAt x i:=(gEs.1 hg).2
 have hst:=zfJ ht
 have hne:=hf.st i (by omega) (by omega)
 rw[hst]at hne
 obtain⟨g1,g2⟩:=zx.1 hne
 obtain⟨f1,f2,f3,f4⟩:=zM g2
 have hgx:=hx.it _ (lMg hg)
 have hth:=hs.hs t (lMg ht)
 have z0:MvR x i zMv mvZ:=⟨rfl,zH,rfl,zH,by simp[zMv],rfl,rfl,fun h=>absurd h (by simp[mvZ]),rfl⟩
 generalize hG:sgAt x i=g at *
 have hb0:=zq7
 have hb1:=zq6
 have hpe:t.pl.ended=t.ended:=rfl
 have hpc:t.pl.count=t.count:=rfl
 unfold zaP
 rw[hG,hst]
 simp only[hpe,hpc]
 cases he:t.ended with
 |true=>
  rw[if_pos rfl]
  refine⟨zMv,run _ ?_,zH,by simp[zMv],fun h=>absurd rfl h⟩
  simp[fi85,c85,hi,hit,hti,hgi,he,hb0, -zah]
  rfl
 |false=>
 rw[if_neg Bool.false_ne_true]
 by_cases k1:g.kind=1
 .rw[if_pos k1]
  have hdr:s.pl.drain=s.draining:=rfl
  have hC:zO g=g.items.l.length:=by simp[zO,k1]
  have f2':t.count≤zO g:=f2
  by_cases hd:s.draining=false∧t.count<g.items.l.length
  .rw[hdr,if_pos hd]
   obtain⟨u,o,c1,c2,c3,c4,c5,c6⟩:=e135 g hgx t hth (-1) 0
   have hend:=ze8 g t.pl (-1) 0
   have hcn:¬t.count=g.items.l.length:=by omega
   refine⟨⟨u,o,false,false, -1,0,(zcq g t.pl (-1) 0).2.2⟩,run _ ?_,c5,c6,fun _=>⟨c2,c3,c4,c5,c6,by simp only;exact hend.symm,rfl,fun h=>absurd h (by simp[mvZ]),rfl⟩⟩
   simp[fi85,c85,hi,hit,hti,hgi,he,hb0,hb1,eq_true k1,hd.1,hcn,c1,aMv, -zah, -zbb]
  .rw[hdr,if_neg hd]
   obtain⟨u,o,c1,c2,c3,c4,c5,c6⟩:=e134 g hgx t hth (-1)
   have hcn:s.draining=true∨t.count=g.items.l.length:=by
    cases h:s.draining with
    |true=>exact .inl rfl
    |false=>right;apply cBc;intro h2;exact hd ⟨h,by omega⟩
   refine⟨⟨u,o,u.ended,false, -1,0,(endS g t.pl (-1)).2.2⟩,run _ ?_,c5,c6,fun _=>⟨c2,c3,c4,c5,c6,by simp only;rw[←c2];rfl,rfl,fun h=>absurd h (by simp[mvZ]),rfl⟩⟩
   rcases hcn with h|h
   .simp[fi85,c85,hi,hit,hti,hgi,he,hb0,hb1,eq_true k1,h,c1,aMv, -zah, -zbb]
   .simp[fi85,c85,hi,hit,hti,hgi,he,hb0,hb1,eq_true k1,eq_true h,c1,aMv, -zah, -zbb]
 .rw[if_neg k1]
  obtain⟨n0,n1⟩:=zfY hne k1
  obtain⟨y,a1,a2,a3⟩:=e95 g hgx t hth
  rw[hne]at a1 a2
  rw[if_pos rfl]at a2
  have hL:zeX g t.pl=[zbh g t.pl]:=by
   unfold zeX;rw[if_neg]
   rintro (h|h)
   .rw[hpe,he]at h;cases h
   .exact k1 h
  rw[hL]at a2
  generalize hn:zbh g t.pl=n at *
  obtain⟨k,p,hp,e1,e2⟩:=hv.allIn i n.toNat hi (by rw[hG];omega)
  have hpin:pIn x i n=k:=by
   have:=zcQ hv.toPiV hp
   rwa [e1,e2,show ((n.toNat:Nat):Int)=n by omega]at this
  have a4:=e69 x hx.pi i n
  rw[hpin]at a4⊢
  have hkl:k<s.credits.l.length:=by rw[hlc];exact (gEs.1 hp).1
  obtain⟨c,hc⟩:∃c,s.credits.l[k]?=some c:=⟨_,gEg hkl⟩
  have hck:s.credits.l[k]=c:=(gEs.1 hc).2
  have hcp:=zgj hc
  rw[hcp]
  have hcn:=hs.hc c (lMg hc)
  have a5:=e133 c hcn.len
  have hci:c.pl.items=c.items.l:=rfl
  rw[hci]
  have hy0:y.l[0]?=some n:=by rw[a2];rfl
  cases hit2:c.items.l with
  |cons a r=>
   obtain⟨u,o,c1,c2,c3,c4,c5,c6⟩:=e135 g hgx t hth n a
   have hend:=ze8 g t.pl n a
   refine⟨⟨u,o,false,true,n,a,(zcq g t.pl n a).2.2⟩,run _ ?_,c5,c6,fun _=>⟨c2,c3,c4,c5,c6,by simp only;exact hend.symm,rfl,fun _=>⟨hpin,rfl⟩,rfl⟩⟩
   simp[fi85,c85,hi,hit,hti,hgi,he,hb0,hb1,k1,a1,a2,a4,hkl,hck,hit2,c1,aMv, -zah, -zbb]
  |nil=>
   cases hen:endC c.pl with
   |true=>
    rw[hen]at a5
    rw[if_pos rfl]
    obtain⟨u,o,c1,c2,c3,c4,c5,c6⟩:=e134 g hgx t hth n
    refine⟨⟨u,o,u.ended,false,n,0,(endS g t.pl n).2.2⟩,run _ ?_,c5,c6,fun _=>⟨c2,c3,c4,c5,c6,by simp only;rw[←c2];rfl,rfl,fun h=>absurd h (by simp[mvZ]),rfl⟩⟩
    simp[fi85,c85,hi,hit,hti,hgi,he,hb0,hb1,k1,a1,a2,a4,hkl,hck,hit2,a5,c1,aMv, -zah, -zbb]
   |false=>
    rw[hen]at a5
    rw[if_neg Bool.false_ne_true]
    refine⟨zMv,run _ ?_,zH,by simp[zMv],fun h=>absurd rfl h⟩
    simp[fi85,c85,hi,hit,hti,hgi,he,hb0,hb1,k1,a1,a2,a4,hkl,hck,hit2,a5,aMv, -zah, -zbb]
    rfl
end
section
variable {x:Pl} {s:Fs}
end
section
variable {x:Pl} {s:Fs}
theorem zrI (hx:PlN x) (hv:PlV x) (hs:FsN s) (hf:FsV x s.pl) {i:Nat} (hi:i<x.stages.l.length) {n:Nat} (hn:n<outK (sgAt x i).kind):∃(k:Nat) (c:Cr),pOut x i n=k∧k<s.credits.l.length∧s.credits.l[k]?=some c∧SlN c.items∧crAt s.pl (pOut x i n)=c.pl:=by
 have hlc:s.credits.l.length=x.pipes.l.length:=by have:=hf.lc;simpa[Fs.pl]using this
 obtain⟨k,p,hp,e1,e2⟩:=hv.allOut i n hi hn
 have hpo:pOut x i n=k:=by
  have:=zcP hv.toPiV hp
  rwa [e1,e2]at this
 have hkl:k<s.credits.l.length:=by rw[hlc];exact (gEs.1 hp).1
 have hc:=gEg hkl
 exact⟨k,_,hpo,hkl,hc,hs.hc _ (lMg hc),by rw[hpo];exact zgj hc⟩
theorem zrR (hx:PlN x) (hv:PlV x) (hs:FsN s) (hf:FsV x s.pl) (i:Nat) (hi:i<x.stages.l.length) (o:Sl (Sl Int)) (ho:o.l.length≤outK (sgAt x i).kind) (m:Mv):∀(rest:List (Sl Int)) (k:Nat),o.l.drop k=rest→k≤o.l.length→
  okC (W.loop [2,4,5,12,13,14] zpZ [(2,I i),(4,.optr 0 0 0 0),(5,.optr 1 0 0 0),(12,Sl.av (Sl.av I 1) 1 o),(13,I o.l.length),(14,I k)] [.arr 0 2 false [x.av],.arr 0 4 false [s.av],.arr 0 9 false [m.av]])
   (fun q F H=>if fitO x s.pl i (rest.map Sl.l) k=true then q= .exit 0 else q= .ret∧F.get 8= .bool false):=by
 have h2:=zdn (sgAt x i).kind
 intro rest
 induction rest with
 |nil=>
  intro k h1 h2
  have hk:=zk h1 h2
  rw[zc]
  simp[zii,zmk,hk,fitO]
 |cons y rest ih=>
  intro k h1 h2
  obtain⟨hlt,hy,hr⟩:=zp h1
  have hlt':(k:Int)<o.l.length:=by omega
  have hw:=zn (k:=k) (by omega)
  have hyk:o.l[k]=y:=(gEs.1 hy).2
  obtain⟨j,c,c1,c2,c3,c4,c5⟩:=zrI hx hv hs hf hi (n:=k) (by omega)
  have hcj:s.credits.l[j]=c:=(gEs.1 c3).2
  have d1:=e71 x hx.pi i k
  have d2:=e136 c c4.len
  rw[c1]at d1
  rw[zc]
  simp only[List.map_cons,fitO]
  rw[c5]
  by_cases h:(y.l.length:Int)≤zeW c.pl
  .have h':¬zeW c.pl<(y.l.length:Int):=by omega
   have ih:=ih (k+1) hr (by omega)
   simp only[iNa,iCo]at ih
   rw[decide_eq_true h,Bool.true_and]
   simp[zii,zmk,hlt,hlt',hyk,d1,c2,hcj,d2,h',hw]
   simpa using ih
  .have h':zeW c.pl<(y.l.length:Int):=by omega
   rw[decide_eq_false h,Bool.false_and]
   simp[zii,zmk,hlt,hlt',hyk,d1,c2,hcj,d2,h']
theorem e86 (hx:PlN x) (hv:PlV x) (hs:FsN s) (hf:FsV x s.pl) (i:Nat) (hi:i<x.stages.l.length) (m:Mv) (ho:m.sent.l.length≤outK (sgAt x i).kind):W.pure 86 [x.av,s.av,I i,m.av]=some (.bool (fitO x s.pl i (m.sent.l.map Sl.l) 0)):=by
 obtain⟨q,F,H,d1,d2⟩:=zf.1 (zrR hx hv hs hf i hi m.sent ho m m.sent.l 0 rfl (by omega))
 rw[zj Φ86 (by simp)]
 simp at d1
 cases h:fitO x s.pl i (m.sent.l.map Sl.l) 0 with
 |true=>
  rw[h]at d2
  simp only[if_true]at d2
  subst d2
  simp[fi86,c86,d1]
 |false=>
  rw[h]at d2
  simp only[bFt,if_false]at d2
  obtain⟨rfl,d3⟩:=d2
  simp[fi86,c86,d1,d3]
theorem e37 (hx:PlN x) (hv:PlV x) (hs:FsN s) (hf:FsV x s.pl) (i:Nat) (hi:i<x.stages.l.length):
  ∃m:Mv,W.pure 37 [x.av,s.av,I i]=some (.tuple [m.av,.bool (enB x s.pl i)])∧((zaP x s.pl i).kind≠0→MvR x i m (zaP x s.pl i)):=by
 obtain⟨m,c1,c2,c3,c4⟩:=e85 hx hv hs hf i hi
 have run:∀(A:Option AV),((za1 W fi37 [x.av,s.av,I i] []).bind fun p=>frz p.2 8 p.1)=A→W.pure 37 [x.av,s.av,I i]=A:=fun A h=>by rw[zj Φ37 (by simp)];exact h
 refine⟨m,run _ ?_,c4⟩
 unfold enB
 by_cases hk:(zaP x s.pl i).kind=0
 .simp only[hk,ne_eq,not_true,decide_false]at c1
  simp[fi37,c37,c1,hk]
 .have c4:=c4 hk
  simp only[hk,ne_eq,not_false_iff,decide_true]at c1
  by_cases he:(zaP x s.pl i).e=0
  .have hme:m.e=0:=by rw[c4.e,he]
   have hmv:=(zd7 hv hf hi hk he).2.mv (zd7 hv hf hi hk he).1
   have hlen:m.sent.l.length=outK (sgAt x i).kind:=by rw[←hmv.len,←c4.out];simp
   have c5:=e86 hx hv hs hf i hi m (by omega)
   rw[c4.out]at c5
   simp[fi37,c37,c1,hk,he,hme,c5]
  .have hme:¬m.e=0:=by rw[c4.e];exact he
   simp[fi37,c37,c1,hk,he,hme]
end
section
variable {x:Pl} {s:Fs}
end
def CrM (H:Heap) (b vb:Nat) (l:List CC) (cs:List Cr):Prop:=H[b]?=some (.arr vb 6 false (cs.map Cr.av))∧cs.map Cr.pl=l∧∀c∈cs,SlN c.items
abbrev zic (sv ov dv:AV) (b vb m:Nat):Blk:= .arr 0 4 false [.agg [sv,.osl b vb 0 m,ov,dv]]
theorem CrM.set {H:Heap} {b vb:Nat} {l:List CC} {cs:List Cr} (h:CrM H b vb l cs) {k:Nat} {c:Cr} (hc:SlN c.items):CrM (H.set b (.arr vb 6 false ((cs.set k c).map Cr.av))) b vb (l.set k c.pl) (cs.set k c):=by
 obtain⟨h1,h2,h3⟩:=h
 refine⟨gEt (gEs.1 h1).1,by rw[List.map_set,h2],fun d hd=>?_⟩
 rcases List.mem_or_eq_of_mem_set hd with hd|rfl
 .exact h3 d hd
 .exact hc
theorem CrM.get {H:Heap} {b vb:Nat} {l:List CC} {cs:List Cr} (h:CrM H b vb l cs) {k:Nat} {c:Cr} (hk:cs[k]?=some c):l.getD k crZ=c.pl:=by
 rw[←h.2.1,gEd,gEm,hk];rfl
section
variable {x:Pl} {p b vb:Nat} {sv ov dv:AV} {m:Mv} {i:Nat}
theorem znr (hpb:p≠b) (q4 q7:Nat) (k N n M:Nat) (y:Sl Int) (hy:y.l.length≤1048576):∀(rest:List Int) (j:Nat) (H:Heap) (l:List CC) (cs:List Cr),y.l.drop j=rest→j≤y.l.length→H[p]?=some (zic sv ov dv b vb M)→CrM H b vb l cs→M=cs.length→k<cs.length→
  okC (W.loop [1,2,4,7,9,17,18,34,35,36] zp7 [(1,.optr p 0 0 0),(2,I i),(4,.optr q4 0 0 0),(7,.optr q7 0 0 0),(9,I k),(17,I N),(18,I n),(34,Sl.av I 1 y),(35,I y.l.length),(36,I j)] H)
   (fun q F H'=>q= .exit 2∧F.keep [1,2,4,7,9,17,18]=[(1,.optr p 0 0 0),(2,I i),(4,.optr q4 0 0 0),(7,.optr q7 0 0 0),(9,I k),(17,I N),(18,I n)]∧Kept (some b) H H'∧∃cs',CrM H' b vb (l.set k (putC rest (l.getD k crZ))) cs'∧cs'.length=cs.length):=by
 intro rest
 induction rest with
 |nil=>
  intro j H l cs h1 h2 hP hC hM hk
  have hj:=zk h1 h2
  rw[zc]
  simp[zlZ,zoA,hj]
  refine⟨Kept.refl _ _,cs,?_,rfl⟩
  have hlk:k<l.length:=by rw[←hC.2.1];simpa using hk
  have:l.set k (putC [] (l.getD k crZ))=l:=by
   rw[gEd,gEg hlk]
   simp[putC]
  have hC2:CrM H b vb (l.set k (putC [] (l.getD k crZ))) cs:=this.symm▸hC
  simpa[gEd]using hC2
 |cons a rest ih=>
  intro j H l cs h1 h2 hP hC hM hk
  obtain⟨hlt,ha,hr⟩:=zp h1
  have hlt':(j:Int)<y.l.length:=by omega
  have hw:=zn (k:=j) (by omega)
  have hcg:=gEg hk
  generalize cs[k]=c at hcg
  have hcs:=hC.2.2 c (lMg hcg)
  obtain⟨c',c1,c2,c3⟩:=e89 c hcs a
  have hlc:=hC.get hcg
  have hC2:=hC.set (k:=k) c3
  have hK:Kept (some b) H (H.set b (.arr vb 6 false ((cs.set k c').map Cr.av))):=Kept.set _ _ _
  have hlk:k<l.length:=by rw[←hC.2.1];simpa using hk
  obtain⟨q,F,H',d1,rfl,d2,d3,cs',d4,d5⟩:=zf.1 (ih (j+1) _ _ _ hr (by omega) (hK.get (by simp;exact fun e=>hpb e.symm) hP) hC2 (by simpa using hM) (by simpa using hk))
  simp only[iNa,iCo]at d1
  have hput:(l.set k c'.pl).set k (putC rest ((l.set k c'.pl).getD k crZ))=l.set k (putC (a::rest) (l.getD k crZ)):=by
   rw[List.set_set]
   congr 1
   have:(l.set k c'.pl).getD k crZ=c'.pl:=by rw[gEd,gEt hlk];rfl
   rw[this,c2,hlc]
   rfl
  rw[hput]at d4
  have hkM:(k:Int)<M:=by omega
  have hkM':k<M:=by omega
  have hcav:(cs.map Cr.av)[k]?=some c.av:=by rw[gEm,hcg];rfl
  have hB:=hC.1
  simp at d2
  rw[zc]
  simp[zlZ,zoA,hlt,hlt',ha,hP,hB,hkM,hkM',hcg,c1,hw,d1,gEz, -getElem?_pos, -List.map_set]
  refine⟨d2,hK.trans d3,cs',d4,by rw[d5];simp⟩
end
theorem zoZ {x y:Sl Int} (h:SlN x) (e:y=x∨y=zaM):SlN y:=by
 rcases e with rfl|rfl
 .exact h
 .exact zH
section
variable {x:Pl} {p b vb:Nat} {sv ov dv:AV} {m:Mv} {i:Nat}
theorem znq (hx:PlN x) (hv:PlV x) (hi:i<x.stages.l.length) (hpb:p≠b) (q4 q7 N M:Nat) (hM:M=x.pipes.l.length) (hN:N=outK (sgAt x i).kind) (hm:m.sent.l.length=N) (hms:∀y∈m.sent.l,SlN y) (n4:q4≠b) (n7:q7≠b):∀(rest:List (Sl Int)) (n:Nat) (H:Heap) (l:List CC) (cs:List Cr),m.sent.l.drop n=rest→n≤N→H[p]?=some (zic sv ov dv b vb M)→H[q4]?=some (.arr 0 2 false [x.av])→H[q7]?=some (.arr 0 9 false [m.av])→CrM H b vb l cs→cs.length=M→
  okC (W.loop [1,2,4,7,17,18] zp6 [(1,.optr p 0 0 0),(2,I i),(4,.optr q4 0 0 0),(7,.optr q7 0 0 0),(17,I N),(18,I n)] H)
   (fun q F H'=>q= .exit 0∧Kept (some b) H H'∧∃cs',CrM H' b vb (zbg x i m.ended (rest.map Sl.l) n l) cs'∧cs'.length=M):=by
 have h2:=zdn (sgAt x i).kind
 intro rest
 induction rest with
 |nil=>
  intro n H l cs h1 h2 hP hX hQ hC hl
  have hj:=zk h1 (by omega)
  have hj':¬((n:Int)<N):=by omega
  rw[zc]
  simp[zim,zmo,hj',hj.symm,hm]
  exact⟨Kept.refl _ _,cs,hC,hl⟩
 |cons y rest ih=>
  intro n H l cs h1 h2' hP hX hQ hC hl
  obtain⟨hlt,ha,hr⟩:=zp h1
  have hlt':(n:Int)<N:=by omega
  have hltm:(n:Int)<m.sent.l.length:=by omega
  have hw:=zn (k:=n) (by omega)
  have hyn:m.sent.l[n]=y:=(gEs.1 ha).2
  have hy:=hms y (lMg ha)
  obtain⟨k,pp,hp,e1,e2⟩:=hv.allOut i n hi (by omega)
  have hpo:pOut x i n=k:=by
   have:=zcP hv.toPiV hp
   rwa [e1,e2]at this
  have hk:k<cs.length:=by have:=(gEs.1 hp).1;omega
  have hkl:k<l.length:=by rw[←hC.2.1];simpa using hk
  have a1:=e71 x hx.pi i n
  rw[hpo]at a1
  obtain⟨q,F,H1,d1,rfl,d2,d3,cs1,d4,d5⟩:=zf.1 (znr (sv:=sv) (ov:=ov) (dv:=dv) (i:=i) hpb q4 q7 k N n M y hy.2 y.l 0 H l cs rfl (by omega) hP hC (by omega) hk)
  simp at d1 d2
  obtain⟨g1,g2,g4,g7,g9,g17,g18⟩:=d2
  have hP1:=d3.get (by simpa using fun e=>hpb e.symm) hP
  have hX1:=d3.get (by simpa using fun e=>n4 e.symm) hX
  have hQ1:=d3.get (by simpa using fun e=>n7 e.symm) hQ
  have hk1:k<cs1.length:=by omega
  have hcg:=gEg hk1
  have hkM:k<M:=by omega
  have hkM':(k:Int)<M:=by omega
  have hc1l:cs1.length=M:=by omega
  have hk0:zbg x i m.ended ((y::rest).map Sl.l) n l=zbg x i m.ended (rest.map Sl.l) (n+1) (l.set k (if m.ended=true then (zbp (putC y.l (l.getD k crZ))).1 else putC y.l (l.getD k crZ))):=by
   simp only[List.map_cons,zbg,hpo,iTn]
  rw[hk0]
  generalize cs1[k]=c1g at hcg
  have hgk:c1g.pl=putC y.l (l.getD k crZ):=by
   have:=d4.get hcg
   rw[gEd,gEt hkl]at this
   exact this.symm
  cases he:m.ended with
  |false=>
   obtain⟨q,F2,H2,f1,rfl,f2,cs2,f3,f4⟩:=zf.1 (ih (n+1) H1 _ cs1 hr (by omega) hP1 hX1 hQ1 d4 hc1l)
   simp only[iNa,iCo]at f1
   rw[zc]
   simp[zim,zmo,hlt',hltm,hX,hQ,a1,hlt,hyn,ha,d1,g1,g2,g4,g7,g9,g17,g18,hP1,hX1,hQ1,he,hw,f1,gEz, -getElem?_pos]
   rw[he]at f3
   refine⟨d3.trans f2,cs2,by simpa using f3,f4⟩
  |true=>
   have hcs:=d4.2.2 _ (lMg hcg)
   obtain⟨c',c1,c2,c3⟩:=e90 c1g hcs.len
   have c4:=zoZ hcs c3
   have hC2:=d4.set (k:=k) c4
   have hK:Kept (some b) H1 (H1.set b (.arr vb 6 false ((cs1.set k c').map Cr.av))):=Kept.set _ _ _
   rw[List.set_set]at hC2
   obtain⟨q,F2,H2,f1,rfl,f2,cs2,f3,f4⟩:=zf.1 (ih (n+1) _ _ _ hr (by omega) (hK.get (by simpa using fun e=>hpb e.symm) hP1) (hK.get (by simpa using fun e=>n4 e.symm) hX1) (hK.get (by simpa using fun e=>n7 e.symm) hQ1) hC2 (by simpa using hc1l))
   simp only[iNa,iCo]at f1
   have hB:=d4.1
   rw[zc]
   simp[zim,zmo,hlt',hltm,hX,hQ,a1,hlt,hyn,ha,d1,g1,g2,g4,g7,g9,g17,g18,hP1,hX1,hQ1,hB,hcg,hkM,hkM',hc1l,c1,he,hw,f1,gEz, -getElem?_pos, -List.map_set]
   rw[he,c2,hgk]at f3
   refine⟨(d3.trans hK).trans f2,cs2,by simpa using f3,f4⟩
theorem zsn (hx:PlN x) (hv:PlV x) (hi:i<x.stages.l.length) (hpb:p≠b) (H:Heap) (l:List CC) (cs:List Cr) (hm:m.sent.l.length=outK (sgAt x i).kind) (hms:∀y∈m.sent.l,SlN y) (hP:H[p]?=some (zic sv ov dv b vb x.pipes.l.length)) (hC:CrM H b vb l cs) (hl:cs.length=x.pipes.l.length):
  okV (W.call (.clo 46 [] []) [x.av,.optr p 0 0 0,I i,m.av] H) (fun v H'=>v= .tuple []∧Kept (some b) H H'∧∃cs',CrM H' b vb (zbg x i m.ended (m.sent.l.map Sl.l) 0 l) cs'∧cs'.length=x.pipes.l.length):=by
 have hlb:=(gEs.1 hC.1).1
 have hK:Kept (some b) H (H++[.arr 0 2 false [x.av],.arr 0 9 false [m.av]]):=Kept.append _ _ _
 have hC2:CrM (H++[.arr 0 2 false [x.av],.arr 0 9 false [m.av]]) b vb l cs:=⟨app0 hC.1 _,hC.2⟩
 obtain⟨q,F,H1,d1,rfl,d2,d3⟩:=zf.1 (znq (sv:=sv) (ov:=ov) (dv:=dv) hx hv hi hpb H.length (H.length+1) _ _ rfl rfl hm hms (by omega) (by omega) m.sent.l 0 _ l cs rfl (by omega) (app0 hP _) (two0 _ _ _) (two1 _ _ _) hC2 hl)
 simp at d1
 have hg:=zbl hi
 have hgi:x.stages.l[i]=sgAt x i:=(gEs.1 hg).2
 have hgx:=hx.it _ (lMg hg)
 have a1:=e73 (sgAt x i) hgx
 have ho:outN (sgAt x i)=outK (sgAt x i).kind:=by
  have:=hv.sg _ (lMg hg)
  simp[outN,this]
 rw[ho]at a1
 rw[ze Φ46]
 simp[fi46,c46,hi,hgi,a1,d1]
 exact⟨hK.trans d2,d3⟩
end
theorem zmN {c:CC} (h:crI c=0) (hi:c.items≠[]):(zbE c).2.2=0:=by
 unfold zbE
 rw[if_neg (by simp[h])]
 cases hq:c.items with
 |nil=>exact absurd hq hi
 |cons a r=>rfl
section
variable {x:Pl} {p b vb:Nat} {sv ov dv:AV} {m:Mv} {i:Nat}
theorem zqY (hpb:p≠b) (ht:m.takes=false) (H:Heap) (l:List CC) (cs:List Cr) (hC:CrM H b vb l cs) (a:Int):
  okV (W.call (.clo 45 [] []) [x.av,.optr p 0 0 0,I i,m.av] H) (fun v H'=>v=I 0∧Kept (some b) H H'∧CrM H' b vb l cs):=by
 rw[ze Φ45]
 simp[fi45,c45,ht]
 exact⟨Kept.append _ _ _,app0 hC.1 _,hC.2⟩
theorem two2 (H:Heap) (A B C:Blk):(H++[A,B,C])[H.length+2]?=some C:=by
 rw[gEr (by omega)]
 simp
theorem zpg (hx:PlN x) (hpb:p≠b) (ht:m.takes=true) (H:Heap) (l:List CC) (cs:List Cr) (hP:H[p]?=some (zic sv ov dv b vb cs.length)) (hC:CrM H b vb l cs) {k:Nat} (hk:pIn x i m.inp=k) {c:Cr} (hc:cs[k]?=some c) (hI:crI c.pl=0) (hne:c.items.l≠[]):
  okV (W.call (.clo 45 [] []) [x.av,.optr p 0 0 0,I i,m.av] H) (fun v H'=>v=I (zau c.pl).2∧Kept (some b) H H'∧∃cs',CrM H' b vb (l.set k (zau c.pl).1) cs'∧cs'.length=cs.length):=by
 have a1:=e69 x hx.pi i m.inp
 rw[hk]at a1
 have hkl:=(gEs.1 hc).1
 have hkl':(k:Int)<cs.length:=by omega
 have hlb:=(gEs.1 hC.1).1
 have hlp:=(gEs.1 hP).1
 have hcn:=hC.2.2 c (lMg hc)
 obtain⟨c',b1,b2,b3⟩:=e88 c hcn
 have b0:=zmN hI hne
 rw[b0]at b1
 have hcl:(zbE c.pl).1.closed=c'.closed:=by rw[←b2];rfl
 have hB:=hC.1
 have hcav:(cs.map Cr.av)[k]?=some c.av:=by rw[gEm,hc];rfl
 unfold zau
 rw[hcl]
 cases hq:c'.closed with
 |true=>
  rw[if_pos rfl,ze Φ45]
  have hC2:=hC.set (k:=k) b3
  rw[b2]at hC2
  simp[fi45,c45,ht,a1,hP,hB,hkl,hkl',hc,hlb,hlp,b1,hq,two0,two1,two2,app0 hB,app0 hP,gEz, -getElem?_pos, -List.map_set]
  exact⟨(Kept.set _ _ _).trans (Kept.append _ _ _),_,⟨app0 hC2.1 _,hC2.2⟩,by simp⟩
 |false=>
  rw[if_neg Bool.false_ne_true,ze Φ45]
  obtain⟨c2,d1,d2,d3⟩:=e78 c' b3.len 1
  rw[b2]at d1 d2
  have d4:=zoZ b3 d3
  have hC2:=hC.set (k:=k) d4
  rw[d2]at hC2
  simp[fi45,c45,ht,a1,hP,hB,hkl,hkl',hc,hlb,hlp,b1,d1,hq,two0,two1,two2,app0 hB,app0 hP,gEz, -getElem?_pos, -List.map_set]
  exact⟨(Kept.set _ _ _).trans (Kept.append _ _ _),_,⟨app0 hC2.1 _,hC2.2⟩,by simp⟩
end
def OutM (H:Heap) (ov:AV) (outs:List (List Int)):Prop:=
 (ov= .isl (some true) 0 []∧outs=[])∨∃(bo vv:Nat) (ys:List (Sl Int)) (vs:List AV),6≤bo∧ov= .osl bo vv 0 ys.length∧ys.map Sl.l=outs∧(∀y∈ys,SlN y)∧ys.length≤1048576∧H[bo]?=some (.arr vv 1 false vs)∧
  (vs=ys.map (Sl.av I 1)∨∃(k id ver:Nat) (l:List Int),6≤id∧ys[k]?=some (ofL 1 l)∧vs=(ys.map (Sl.av I 1)).set k (.osl id ver 0 l.length)∧H[id]?=some (.arr ver 1 false (l.map I)))
theorem OutM.kept {H H':Heap} {ov:AV} {outs:List (List Int)} (h:OutM H ov outs) {j:Nat} (hj:j<6) (hk:Kept (some j) H H'):OutM H' ov outs:=by
 rcases h with h|⟨bo,vv,ys,vs,h1,h2,h3,h4,h5,h6,h7⟩
 .exact .inl h
 .refine .inr ⟨bo,vv,ys,vs,h1,h2,h3,h4,h5,hk.get (by simp;omega) h6,?_⟩
  rcases h7 with h7|⟨k,id,ver,l,g1,g2,g3,g4⟩
  .exact .inl h7
  .exact .inr ⟨k,id,ver,l,g1,g2,g3,hk.get (by simp;omega) g4⟩
theorem OutM.okO {H:Heap} {ov:AV} {outs:List (List Int)} (h:OutM H ov outs):okO ov=some ov:=by
 rcases h with⟨rfl,_⟩|⟨bo,vv,ys,vs,h1,rfl,_⟩<;>rfl
theorem zfH {y:Sl Int}:(Sl.av I 1 y).still=true:=by
 simp[Sl.av,AV.still]
theorem zhe {H:Heap} {n:Nat}:∀ys:List (Sl Int),frzs (frz H (n+1)) (ys.map (Sl.av I 1))=some (ys.map (Sl.av I 1))
 | []=>rfl
 |y::ys=>by simp only[List.map_cons,frzs,zhg H n zfH,zhe ys]
theorem zjc {H:Heap} {n:Nat} {v:AV} {z:Sl Int} (hv:frz H (n+1) v=some (Sl.av I 1 z)):∀(ys:List (Sl Int)) (k:Nat),ys[k]?=some z→frzs (frz H (n+1)) ((ys.map (Sl.av I 1)).set k v)=some (ys.map (Sl.av I 1))
 | [],k,h=>by simp at h
 |y::ys,0,h=>by
  simp at h;subst h
  simp only[List.map_cons,List.set_cons_zero,frzs,hv,zhe ys]
 |y::ys,k+1,h=>by
  simp at h
  simp only[List.map_cons,List.set_cons_succ,frzs,zhg H n zfH,zjc hv ys k h]
theorem zsE (ys:List (Sl Int)):(ys.map (Sl.av I 1)).all (fun e=>e.cells.all AV.still)=true:=by
 rw[lAt]
 intro e he
 obtain⟨y,_,rfl⟩:=List.mem_map.1 he
 have:(Sl.av I 1 y).cells=[Sl.av I 1 y]:=rfl
 rw[this]
 simp[zfH]
theorem OutM.frz {H:Heap} {ov:AV} {outs:List (List Int)} (h:OutM H ov outs) (n:Nat):∃o:Sl (Sl Int),frz H (n+2) ov=some (Sl.av (Sl.av I 1) 1 o)∧o.l.map Sl.l=outs∧SlN o∧∀y∈o.l,SlN y:=by
 rcases h with⟨rfl,rfl⟩|⟨bo,vv,ys,vs,h1,rfl,h3,h4,h5,h6,h7⟩
 .exact⟨zaM,rfl,rfl,zH,by simp⟩
 .refine⟨ofL 1 ys,?_,h3,zaN h5,h4⟩
  have hl:vs.length=ys.length:=by
   rcases h7 with rfl|⟨k,id,ver,l,g1,g2,rfl,g4⟩<;>simp
  have et:(vs.drop 0).take ys.length=vs:=by rw[List.drop_zero,←hl,List.take_length]
  have e0:Go.Proofs.YtbddckhdbnmamaaGreat.frz H (n+2) (.osl bo vv 0 ys.length)=(match H[bo]? with
   |some (.arr v sz _ es)=>if v=vv∧0+ys.length≤es.length then (if ((es.drop 0).take ys.length).all (fun e=>e.cells.all AV.still) then some (.isl (some false) sz ((es.drop 0).take ys.length)) else (frzs (Go.Proofs.YtbddckhdbnmamaaGreat.frz H (n+1)) ((es.drop 0).take ys.length)).map (.isl (some false) sz)) else none
   |_=>none):=rfl
  rw[e0,h6]
  show (if vv=vv∧0+ys.length≤vs.length then (if ((vs.drop 0).take ys.length).all (fun e=>e.cells.all AV.still) then some (AV.isl (some false) 1 ((vs.drop 0).take ys.length)) else (frzs (Go.Proofs.YtbddckhdbnmamaaGreat.frz H (n+1)) ((vs.drop 0).take ys.length)).map (AV.isl (some false) 1)) else none)=_
  rw[if_pos ⟨rfl,by rw[hl];omega⟩,et]
  rcases h7 with rfl|⟨k,id,ver,l,g1,g2,rfl,g4⟩
  .rw[if_pos (zsE ys),zdK]
  .have hv:=zcY (n:=n) g4 (len:=l.length) rfl
   have hk:=(gEs.1 g2).1
   rw[if_neg,zjc hv ys k g2,oMs,zdK]
   intro hh
   have:=lAt.1 hh (.osl id ver 0 l.length) (lMg (i:=k) (by rw[gEt (by simpa using hk)]))
   simp[AV.cells,AV.still]at this
abbrev zFs:Fs:=⟨zaM,zaM,zaM,false⟩
theorem zko:FsN zFs:=⟨by simp,by simp,by simp,zH,zH,zH,by simp,by simp,by simp⟩
theorem zjr:bldV [.isl (some true) 0 [],.isl (some true) 0 [],.isl (some true) 0 [],.bool false] [] []=zFs.av:=rfl
structure M14 (H:Heap) (x:Pl) (m:Mv) (sts:List Ss) (l:List CC) (cs:List Cr) (ov:AV) (outs:List (List Int)) (dr:Bool):Prop where
 h0:H[0]?=some (.arr 0 2 false [x.av])
 h1:H[1]?=some (zic (.osl 4 sts.length 0 sts.length) ov (.bool dr) 5 cs.length cs.length)
 h2:H[2]?=some (.arr 0 4 false [zFs.av])
 h3:H[3]?=some (.arr 0 9 false [m.av])
 h4:H[4]?=some (.arr sts.length 3 false (sts.map Ss.av))
 h5:CrM H 5 cs.length l cs
 ho:OutM H ov outs
abbrev fr14 (i:Nat):Fr:=[(2,I i),(3,.optr 0 0 0 0),(4,.optr 1 0 0 0),(6,.optr 2 0 0 0),(9,.optr 3 0 0 0)]
section
variable {x:Pl} {s:Fs}
theorem e14a (hx:PlN x) (hs:FsN s) (i:Int) (h:vaI x s.pl≠0∨¬(0≤i∧i<x.stages.l.length)):W.pure 14 [x.av,s.av,I i]=some (.tuple [zFs.av,I (zbU x s.pl i).2])∧(zbU x s.pl i).1=fsZ:=by
 have run:∀(A:Option AV),((za1 W fi14 [x.av,s.av,I i] []).bind fun p=>frz p.2 8 p.1)=A→W.pure 14 [x.av,s.av,I i]=A:=fun A h=>by rw[zj Φ14 (by simp)];exact h
 have c1:=e16 hx hs
 have hb:=zjr
 have hst:=hx.st
 have hw:IntKind.wrap .i64 ((x.stages.l.length:Int) - 1)=(x.stages.l.length:Int) - 1:=zG (by omega) (by omega)
 unfold zbU
 by_cases hv:vaI x s.pl=0
 .have h2:i<0∨(x.stages.l.length:Int) - 1<i:=by
   rcases h with h|h
   .exact absurd hv h
   .omega
  have h2':i<0∨(x.stages.l.length:Int)≤i:=by omega
  have c2:=e39f (l:=0) (h:=(x.stages.l.length:Int) - 1) h2
  rw[if_neg (by simp[hv]),if_pos h2']
  refine⟨run _ ?_,rfl⟩
  rw[hv]at c1
  simp[fi14,c14,c1,hw,c2,hb, -zah]
 .rw[if_pos hv]
  refine⟨run _ ?_,rfl⟩
  simp[fi14,c14,c1,hv,hb, -zah]
end
@[simp] theorem fsSet0 (s:Fs) (a b c d:Nat):zb [s.av] 0 0 (.osl a b c d)=some [.agg [.osl a b c d,Sl.av Cr.av 6 s.credits,Sl.av (Sl.av I 1) 1 s.outputs,.bool s.draining]]:=rfl
@[simp] theorem fsSet1 (u v w z:AV) (a b c d:Nat):zb [.agg [u,v,w,z]] 0 1 (.osl a b c d)=some [.agg [u,.osl a b c d,w,z]]:=rfl
@[simp] theorem fsSet2 (u v w z:AV) (a b c d:Nat):zb [.agg [u,v,w,z]] 0 2 (.osl a b c d)=some [.agg [u,v,.osl a b c d,z]]:=rfl
@[simp] theorem fsSet2n (u v w z:AV) (a:Option Bool) (n:Nat) (l:List AV):zb [.agg [u,v,w,z]] 0 2 (.isl a n l)=some [.agg [u,v,.isl a n l,z]]:=rfl
theorem zo0 {ys:List (Sl Int)} {k:Nat} {y:Sl Int} (hy:ys[k]?=some y) (a b c d:Nat):zb (ys.map (Sl.av I 1)) k 0 (.osl a b c d)=some ((ys.map (Sl.av I 1)).set k (.osl a b c d)):=by
 unfold zb
 rw[gEm,hy]
 rfl
theorem zpm (a b c d e f:Nat):apart (.osl 7 a b c) (.optr 1 d e f)=true:=rfl
theorem zmz (a:Option Bool) (n:Nat) (l:List AV) (d e f:Nat):apart (.isl a n l) (.optr 1 d e f)=true:=rfl
theorem zkW {H:Heap} {ys:List (Sl Int)} {k:Nat} {y:Sl Int} (hy:ys[k]?=some y) (hn:∀y∈ys,SlN y) (hl:ys.length≤1048576) (l:List Int) (hll:l.length≤1048576) {vv ver len:Nat} (hlen:len=l.length) (h6:H[6]?=some (.arr vv 1 false ((ys.map (Sl.av I 1)).set k (.osl 7 ver 0 len)))) (h7:H[7]?=some (.arr ver 1 false (l.map I))):OutM H (.osl 6 vv 0 ys.length) ((ys.map Sl.l).set k l):=by
 subst hlen
 have hk:=(gEs.1 hy).1
 refine .inr ⟨6,vv,ys.set k (ofL 1 l),_,by omega,by simp,by rw[List.map_set],?_,by simpa using hl,h6,.inr ⟨k,7,ver,l,by omega,by rw[gEt hk],?_,h7⟩⟩
 .intro z hz
  rcases List.mem_or_eq_of_mem_set hz with hz|rfl
  .exact hn z hz
  .exact zaN hll
 .rw[List.map_set,List.set_set]
def ovG (s:Fs):AV:=if s.outputs.nl=some true then .isl (some true) 0 [] else .osl 6 s.outputs.l.length 0 s.outputs.l.length
def oG (s:Fs):Heap:=if s.outputs.nl=some true then [] else [.arr s.outputs.l.length 1 false (s.outputs.l.map (Sl.av I 1))]
abbrev hG (x:Pl) (s:Fs) (m:Mv) (ov:AV) (O:Heap):Heap:=[.arr 0 2 false [x.av],zic (.osl 4 s.stages.l.length 0 s.stages.l.length) ov (.bool s.draining) 5 s.credits.l.length s.credits.l.length,.arr 0 4 false [zFs.av],.arr 0 9 false [m.av],.arr s.stages.l.length 3 false (s.stages.l.map Ss.av),.arr s.credits.l.length 6 false (s.credits.l.map Cr.av)]++O
section
variable {x:Pl} {s:Fs} {i:Nat}
theorem zr9 (hx:PlN x) (hs:FsN s) (hv:vaI x s.pl=0) (i:Nat) (hi:i<x.stages.l.length) (hns:s.stages.nl=some false) (hnc:s.credits.nl=some false) {m:Mv} (c3:W.pure 37 [x.av,s.av,I i]=some (.tuple [m.av,.bool true])) (he:m.e=0):
  evC W (cutC 7 c14) [(0,x.av),(1,s.av),(2,I i)] []=some (.normal,fr14 i,hG x s m (ovG s) (oG s)):=by
 have c1:=e16 hx hs
 rw[hv]at c1
 have hst:=hx.st
 have hw:IntKind.wrap .i64 ((x.stages.l.length:Int) - 1)=(x.stages.l.length:Int) - 1:=zG (by omega) (by omega)
 have c2:=e39t (l:=0) (h:=(x.stages.l.length:Int) - 1) (a:=i) (by omega) (by omega)
 have d0:=fun H=>zsq s.stages hs.ns H
 have d1:=fun H=>zsp s.credits hs.nc H
 have d2:=fun H=>zso s.outputs hs.no H
 unfold ovG oG
 rcases hs.no.1 with⟨h1,h2⟩|h1
 .rw[if_pos h1,if_pos h1]
  simp[cutC,fi14,c14,c1,hw,c2,c3,he,d0,d1,d2,zas,hns,hnc,h1]
  rfl
 .have h1':s.outputs.nl≠some true:=by rw[h1];simp
  rw[if_neg h1',if_neg h1']
  simp[cutC,fi14,c14,c1,hw,c2,c3,he,d0,d1,d2,zas,hns,hnc,h1]
  rfl
theorem zmU (hi:i<x.stages.l.length) (h:(sgAt x i).kind=10):zad (x.stages.l.take i)<zad x.stages.l:=by
 have:=ziE (x:=x) (l:=x.stages.l) hi ⟨sgAt x i,zbl hi,h⟩
 rwa [List.take_length]at this
def skB (x:Pl) (m:Mv) (i:Nat):Bool:=decide ((sgAt x i).kind=10)&&m.takes
theorem zuO (hx:PlN x) (hs:FsN s) (hf:FsV x s.pl) (i:Nat) (hi:i<x.stages.l.length) (m:Mv):
  okC (evC W (cutC 1 (zN 7 c14)) (fr14 i) (hG x s m (ovG s) (oG s)))
   (fun q F H=>if skB x m i=true∧(s.pl.out.getD (zad (x.stages.l.take i)) []).length=200 then q= .ret∧F=[(6,.optr 2 0 0 0),(7,I 4)]∧H[2]?=some (.arr 0 4 false [zFs.av])
    else q= .normal∧(F=fr14 i∨F=fr14 i++[(66,.bool false)])∧∃ov,M14 H x m s.stages.l s.pl.cr s.credits.l ov (if skB x m i=true then s.pl.out.set (zad (x.stages.l.take i)) (s.pl.out.getD (zad (x.stages.l.take i)) []++[m.item]) else s.pl.out) s.draining):=by
 have hg:=zbl hi
 have hgi:x.stages.l[i]=sgAt x i:=(gEs.1 hg).2
 have hm0:∀O ov,OutM (hG x s m ov O) ov s.pl.out→M14 (hG x s m ov O) x m s.stages.l s.pl.cr s.credits.l ov s.pl.out s.draining:=fun O ov h=>⟨rfl,rfl,rfl,rfl,rfl,⟨rfl,rfl,hs.hc⟩,h⟩
 have hlo:s.outputs.l.length=zad x.stages.l:=by have:=hf.lo;simpa[Fs.pl]using this
 have hso:=hs.ou
 cases hsk:skB x m i with
 |false=>
  have h0:OutM (hG x s m (ovG s) (oG s)) (ovG s) s.pl.out:=by
   unfold ovG oG
   rcases hs.no.1 with⟨h1,h2⟩|h1
   .rw[if_pos h1,if_pos h1]
    exact .inl ⟨rfl,by simp[Fs.pl,h2]⟩
   .have h1':s.outputs.nl≠some true:=by rw[h1];simp
    rw[if_neg h1',if_neg h1']
    exact .inr ⟨6,s.outputs.l.length,s.outputs.l,s.outputs.l.map (Sl.av I 1),by omega,rfl,rfl,hs.ho,hs.no.2,rfl,.inl rfl⟩
  simp only[bFt,false_and,if_false]
  have hM:=hm0 _ _ h0
  unfold skB at hsk
  refine zf.2 ⟨.normal,fr14 i++[(66,.bool false)],_,?_,rfl,.inr rfl,_,hM⟩
  by_cases k10:(sgAt x i).kind=10
  .rw[decide_eq_true k10,Bool.true_and]at hsk
   simp[cutC,zN,fi14,c14,hi,hgi,eq_true k10,hsk]
  .simp[cutC,zN,fi14,c14,hi,hgi,k10]
 |true=>
  simp only[true_and,if_true]
  unfold skB at hsk
  rw[bAt,dTe]at hsk
  obtain⟨k10,ht⟩:=hsk
  have hlt:=zmU hi k10
  have hnl:s.outputs.nl=some false:=by
   rcases hs.no.1 with⟨h1,h2⟩|h1
   .rw[h2]at hlo;simp at hlo;omega
   .exact h1
  have hnl':s.outputs.nl≠some true:=by rw[hnl];simp
  have e43:W.pure 43 [.isl x.stages.nl 8 ((x.stages.l.map Sg.av).take i)]=some (I (zad (x.stages.l.take i))):=by
   have hh:=e43 ⟨x.stages.nl,8,x.stages.l.take i⟩ (by simp;have:=hx.st;omega)
   have hz:Sl.av Sg.av 8 ⟨x.stages.nl,8,x.stages.l.take i⟩= .isl x.stages.nl 8 ((x.stages.l.map Sg.av).take i):=by
    unfold Sl.av
    simp[List.map_take]
   rwa [hz]at hh
  generalize hk:zad (x.stages.l.take i)=k at *
  have hko:k<s.outputs.l.length:=by omega
  have hko':(k:Int)<s.outputs.l.length:=by omega
  obtain⟨y,hy⟩:∃y,s.outputs.l[k]?=some y:=⟨_,gEg hko⟩
  have hyn:=hs.ho y (lMg hy)
  have hyk:s.outputs.l[k]=y:=(gEs.1 hy).2
  have hgd:s.pl.out.getD k []=y.l:=by
   rw[gEd];simp[Fs.pl,hy]
  rw[hgd]
  have hne:x.stages.l≠[]:=by intro e;rw[e]at hi;simp at hi
  have hil:(i:Int)≤x.stages.l.length:=by omega
  have hil':i≤x.stages.l.length:=by omega
  have hb:=zjr
  have d3:=fun H=>zmb y hyn H
  unfold ovG oG
  rw[if_neg hnl',if_neg hnl']
  by_cases h200:y.l.length=200
  .simp only[if_pos h200]
   simp[cutC,zN,fi14,c14,hi,hgi,eq_true k10,ht,hne,hil,hil',e43,hko,hko',hyk,hy,h200,hb, -zah]
  .simp only[if_neg h200]
   have h200':¬(y.l.length:Int)=200:=by omega
   rcases hyn.1 with⟨n1,n2⟩|n1
   .simp[cutC,zN,fi14,c14,hi,hgi,eq_true k10,ht,hne,hil,hil',e43,hko,hko',hyk,hy,h200,h200',d3,zas,n1,zaB,zpm,zmz,zo0 hy]
    exact⟨_,rfl,rfl,rfl,rfl,rfl,⟨rfl,rfl,hs.hc⟩,zkW hy hs.ho hs.no.2 (y.l++[m.item]) (by simp[n2]) (by simp[n2]) rfl (by simp[n2])⟩
   .have ha:=fun H h=>zbd (H:=H) (id:=7) (ver:=y.l.length) (l:=y.l) h hyn.2 m.item
    simp[cutC,zN,fi14,c14,hi,hgi,eq_true k10,ht,hne,hil,hil',e43,hko,hko',hyk,hy,h200,h200',d3,zas,n1,zpm,zmz,zo0 hy,ha]
    exact⟨_,rfl,rfl,rfl,rfl,rfl,⟨rfl,rfl,hs.hc⟩,zkW hy hs.ho hs.no.2 (y.l++[m.item]) (by simp;have:=(hf.out y.l (by simp[Fs.pl];exact⟨y,lMg hy,rfl⟩)).1;omega) (by simp) rfl (by simp)⟩
end
section
variable {x:Pl} {s:Fs} {i:Nat}
theorem zsa (a b c d:AV):zb [zFs.av] 0 0 (.agg [a,b,c,d])=some [.agg [a,b,c,d]]:=rfl
theorem OutM.cell {H:Heap} {ov:AV} {outs:List (List Int)} (h:OutM H ov outs):ov.cell=true:=by
 rcases h with⟨rfl,_⟩|⟨bo,vv,ys,vs,h1,rfl,_⟩<;>rfl
structure Z14 (H:Heap) (sts:List Ss) (l:List CC) (cs:List Cr) (outs:List (List Int)) (dr:Bool):Prop where
 z:∃ov,H[2]?=some (.arr 0 4 false [.agg [.osl 4 sts.length 0 sts.length,.osl 5 cs.length 0 cs.length,ov,.bool dr]])∧OutM H ov outs
 h4:H[4]?=some (.arr sts.length 3 false (sts.map Ss.av))
 h5:CrM H 5 cs.length l cs
theorem zo4 (hx:PlN x) (hv:PlV x) (hi:i<x.stages.l.length) {m:Mv} {sts:List Ss} {l:List CC} {cs:List Cr} {ov:AV} {outs:List (List Int)} {dr:Bool} {H:Heap} (hM:M14 H x m sts l cs ov outs dr) (hls:sts.length=x.stages.l.length) (hlc:cs.length=x.pipes.l.length) (hm:m.sent.l.length=outK (sgAt x i).kind) (hms:∀y∈m.sent.l,SlN y):
  okC (evC W (zN 9 c14) (fr14 i++[(12,I 0),(99,.bool false)]) H) (fun q F H'=>q= .ret∧F=[(6,.optr 2 0 0 0),(7,I 0)]∧∃cs',Z14 H' (sts.set i m.state) (zbg x i m.ended (m.sent.l.map Sl.l) 0 l) cs' outs dr):=by
 obtain⟨h0,h1,h2,h3,h4,h5,ho⟩:=hM
 have his:i<sts.length:=by omega
 have his':(i:Int)<sts.length:=by omega
 have hst:sts[i]?=some sts[i]:=gEg his
 have hK:Kept (some 4) H (H.set 4 (.arr sts.length 3 false ((sts.set i m.state).map Ss.av))):=Kept.set _ _ _
 have g0:=hK.get (by simp) h0
 have g1:=hK.get (by simp) h1
 have g2:=hK.get (by simp) h2
 have g3:=hK.get (by simp) h3
 have g4:(H.set 4 (.arr sts.length 3 false ((sts.set i m.state).map Ss.av)))[4]?=some (.arr sts.length 3 false ((sts.set i m.state).map Ss.av)):=gEt (gEs.1 h4).1
 have g5:CrM (H.set 4 (.arr sts.length 3 false ((sts.set i m.state).map Ss.av))) 5 cs.length l cs:=⟨hK.get (by simp) h5.1,h5.2⟩
 have go:=ho.kept (by omega) hK
 rw[hlc]at g5 g1
 obtain⟨v,H2,d1,rfl,d2,cs',d3,d4⟩:=zu.1 (zsn (p:=1) (i:=i) hx hv hi (by omega) _ l cs hm hms g1 g5 hlc)
 have e0:=d2.get (by simp) g0
 have e1:=d2.get (by simp) g1
 have e2:=d2.get (by simp) g2
 have e4:=d2.get (by simp) g4
 have eo:=go.kept (by omega) d2
 have hlen2:=(gEs.1 e2).1
 have hK3:Kept (some 2) H2 (H2.set 2 (.arr 0 4 false [.agg [.osl 4 sts.length 0 sts.length,.osl 5 x.pipes.l.length 0 x.pipes.l.length,ov,.bool dr]])):=Kept.set _ _ _
 have hZ:Z14 (H2.set 2 (.arr 0 4 false [.agg [.osl 4 sts.length 0 sts.length,.osl 5 x.pipes.l.length 0 x.pipes.l.length,ov,.bool dr]])) (sts.set i m.state) (zbg x i m.ended (m.sent.l.map Sl.l) 0 l) cs' outs dr:=by
  refine⟨⟨ov,?_,eo.kept (by omega) hK3⟩,?_,⟨hK3.get (by simp) ?_,d3.2⟩⟩
  .rw[gEt hlen2,List.length_set,d4]
  .rw[List.length_set];exact hK3.get (by simp) e4
  .rw[d4];exact d3.1
 refine zf.2 ⟨.ret,[(6,.optr 2 0 0 0),(7,I 0)],_,?_,rfl,rfl,cs',hZ⟩
 rw[hlc]at h1
 have hoo:=ho.okO
 have hoc:=ho.cell
 simp[zN,fi14,c14,h0,h1,h3,h4,his,his',hst,d1,e1,e2,hoo,hoc,zsa,hlen2,gEz, -getElem?_pos, -List.map_set]
theorem zoW (hx:PlN x) (hv:PlV x) (hi:i<x.stages.l.length) {m:Mv} {sts:List Ss} {l:List CC} {cs:List Cr} {ov:AV} {outs:List (List Int)} {dr:Bool} {H:Heap} (hM:M14 H x m sts l cs ov outs dr) (hls:sts.length=x.stages.l.length) (hlc:cs.length=x.pipes.l.length) (hm:m.sent.l.length=outK (sgAt x i).kind) (hms:∀y∈m.sent.l,SlN y)
  (F:Fr) (hF:F=fr14 i∨F=fr14 i++[(66,.bool false)]) (ht:m.takes=true→∃(k:Nat) (c:Cr),pIn x i m.inp=k∧cs[k]?=some c∧crI c.pl=0∧c.items.l≠[]∧(zau c.pl).2=0):
  okC (evC W (zN 8 c14) F H) (fun q F H'=>q= .ret∧F=[(6,.optr 2 0 0 0),(7,I 0)]∧∃cs',Z14 H' (sts.set i m.state) (zbg x i m.ended (m.sent.l.map Sl.l) 0 (if m.takes=true then l.set (pIn x i m.inp).toNat (zau (l.getD (pIn x i m.inp).toNat crZ)).1 else l)) cs' outs dr):=by
 have hM':=hM
 obtain⟨h0,h1,h2,h3,h4,h5,ho⟩:=hM'
 cases hmt:m.takes with
 |false=>
  obtain⟨v,H1,a1,rfl,a2,a3⟩:=zu.1 (zqY (x:=x) (p:=1) (i:=i) (by omega) hmt H l cs h5 0)
  have hM1:M14 H1 x m sts l cs ov outs dr:=⟨a2.get (by simp) h0,a2.get (by simp) h1,a2.get (by simp) h2,a2.get (by simp) h3,a2.get (by simp) h4,a3,ho.kept (by omega) a2⟩
  have ht1:evC W (cutC 1 (zN 8 c14)) F H=some (.normal,fr14 i++[(12,I 0),(99,.bool false)],H1):=by
   rcases hF with rfl|rfl<;>simp[cutC,zN,fi14,c14,h0,h1,h3,a1,gEz, -getElem?_pos]
  rw[zeN W 1 (zN 8 c14) _ _ _ _ ht1]
  have:=zo4 hx hv hi hM1 hls hlc hm hms
  rw[if_neg Bool.false_ne_true]
  exact this
 |true=>
  obtain⟨k,c,k1,k2,k3,k4,k5⟩:=ht hmt
  obtain⟨v,H1,a1,rfl,a2,cs1,a3,a4⟩:=zu.1 (zpg (p:=1) (i:=i) hx (by omega) hmt H l cs h1 h5 k1 k2 k3 k4)
  rw[k5]at a1
  have hM1:M14 H1 x m sts (l.set k (zau c.pl).1) cs1 ov outs dr:=⟨a2.get (by simp) h0,by rw[a4];exact a2.get (by simp) h1,a2.get (by simp) h2,a2.get (by simp) h3,a2.get (by simp) h4,by rw[a4];exact a3,ho.kept (by omega) a2⟩
  have ht1:evC W (cutC 1 (zN 8 c14)) F H=some (.normal,fr14 i++[(12,I 0),(99,.bool false)],H1):=by
   rcases hF with rfl|rfl<;>simp[cutC,zN,fi14,c14,h0,h1,h3,a1,gEz, -getElem?_pos]
  rw[zeN W 1 (zN 8 c14) _ _ _ _ ht1]
  have hlk:=h5.get k2
  have:=zo4 hx hv hi hM1 hls (a4.trans hlc) hm hms
  rw[k1,if_pos rfl,iTn,hlk]
  exact this
end
theorem Z14.fs {H:Heap} {sts:List Ss} {l:List CC} {cs:List Cr} {outs:List (List Int)} {dr:Bool} (h:Z14 H sts l cs outs dr) (h1:sts.length≤1000) (h2:cs.length≤1000) (h3:outs.length≤1000) (hh:∀t∈sts,SlN t.held):
  ∃(a:AV) (t:Fs),H[2]?=some (.arr 0 4 false [a])∧a.cells.length=4∧okO a=some a∧zd true 4 a.cells=a∧(∀e:Int,frz H 8 (.tuple [a,I e])=some (.tuple [t.av,I e]))∧t.pl=⟨sts.map Ss.pl,l,outs,dr⟩∧FsN t:=by
 obtain⟨⟨ov,hz,ho⟩,h4,h5⟩:=h
 obtain⟨o,o1,o2,o3,o4⟩:=ho.frz 4
 have hs:=zf5 (n:=5) h4 (len:=sts.length) (by simp) (zdb (fun t=>zoH) sts)
 have hc:=zf5 (n:=5) h5.1 (len:=cs.length) (by simp) (zdb (fun t=>zoI) cs)
 rw[zdK]at hs hc
 have hd:frz H 6 (.bool dr)=some (.bool dr):=rfl
 refine⟨_,⟨ofL 3 sts,ofL 6 cs,o,dr⟩,hz,rfl,rfl,rfl,fun e=>?_,?_,⟨h1,h2,by have:=o2▸h3;simpa using this,zaN (by omega),zaN (by omega),o3,hh,h5.2.2,o4⟩⟩
 .have e0:frz H 8 (.tuple [.agg [.osl 4 sts.length 0 sts.length,.osl 5 cs.length 0 cs.length,ov,.bool dr],I e])=(frzs (frz H 7) [.agg [.osl 4 sts.length 0 sts.length,.osl 5 cs.length 0 cs.length,ov,.bool dr],I e]).map .tuple:=rfl
  have e1:frz H 7 (.agg [.osl 4 sts.length 0 sts.length,.osl 5 cs.length 0 cs.length,ov,.bool dr])=(frzs (frz H 6) [.osl 4 sts.length 0 sts.length,.osl 5 cs.length 0 cs.length,ov,.bool dr]).map .agg:=rfl
  have e2:frz H 7 (I e)=some (I e):=rfl
  rw[e0]
  simp only[frzs,e1,e2,hs,hc,o1,hd]
  rfl
 .show (⟨sts.map Ss.pl,cs.map Cr.pl,o.l.map Sl.l,dr⟩:FS)=_
  rw[h5.2.1,o2]
theorem zdE (x:Pl) (i:Int) (e:Bool):∀(o:List (List Int)) (n:Nat) (l:List CC),(zbg x i e o n l).length=l.length
 | [],_,_=>rfl
 |o::r,n,l=>by
  unfold zbg
  rw[zdE x i e r]
  simp
section
variable {x:Pl} {s:Fs} {i:Nat}
theorem zpr (hx:PlN x) {m:Mv} {sts:List Ss} {l:List CC} {cs:List Cr} {ov:AV} {outs:List (List Int)} {dr:Bool} {H:Heap} (hM:M14 H x m sts l cs ov outs dr)
  (F:Fr) (hF:F=fr14 i∨F=fr14 i++[(66,.bool false)]) (hmt:m.takes=true) {k:Nat} {c:Cr} (k1:pIn x i m.inp=k) (k2:cs[k]?=some c) (k3:crI c.pl=0) (k4:c.items.l≠[]) (k5:(zau c.pl).2≠0):
  okC (evC W (zN 8 c14) F H) (fun q F H'=>q= .ret∧F=[(6,.optr 2 0 0 0),(7,I (zau c.pl).2)]∧H'[2]?=some (.arr 0 4 false [zFs.av])):=by
 obtain⟨h0,h1,h2,h3,h4,h5,ho⟩:=hM
 obtain⟨v,H1,a1,rfl,a2,cs1,a3,a4⟩:=zu.1 (zpg (p:=1) (i:=i) hx (by omega) hmt H l cs h1 h5 k1 k2 k3 k4)
 have g2:=a2.get (by simp) h2
 have hl2:=(gEs.1 g2).1
 have hb:=zjr
 refine zf.2 ⟨.ret,[(6,.optr 2 0 0 0),(7,I (zau c.pl).2)],H1.set 2 (.arr 0 4 false [zFs.av]),?_,rfl,rfl,gEt hl2⟩
 rcases hF with rfl|rfl<;>simp[zN,fi14,c14,h0,h1,h3,a1,k5,g2,hb,gEz, -getElem?_pos, -zah]
theorem zkc {R:Rec} {a b:LC} {F F1:Fr} {H H1:Heap} (h:evC R (cutC 1 (.seq a b)) F H=some (.ret,F1,H1)):evC R (.seq a b) F H=some (.ret,F1,H1):=by
 simp only[cutC,zdw]at h
 rw[zdw]
 cases ha:evC R a F H with
 |none=>rw[ha]at h;cases h
 |some p=>
  obtain⟨y,F2,H2⟩:=p
  rw[ha]at h
  cases y with
  |normal=>simp at h
  |ret=>simpa using h
  |exit k=>simp at h
theorem zpz {F:Fr} {H:Heap} {a:AV} {e:Int} (hr:evC W c14 [(0,x.av),(1,s.av),(2,I i)] []=some (.ret,F,H)) (hF:F=[(6,.optr 2 0 0 0),(7,I e)]) (hz:H[2]?=some (.arr 0 4 false [a])) (h4:a.cells.length=4) (hok:okO a=some a) (hld:zd true 4 a.cells=a) {B:AV} (hf:frz H 8 (.tuple [a,I e])=some B):W.pure 14 [x.av,s.av,I i]=some B:=by
 rw[zj Φ14 (by simp)]
 have e:za1 W fi14 [x.av,s.av,I i] []=(evC W c14 [(0,x.av),(1,s.av),(2,I i)] []).bind fun p=>match p.1 with
  | .exit _=>none
  |_=>(resV p.2.1 p.2.2 fi14.res).map fun v=>(v,p.2.2):=rfl
 rw[e,hr,hF]
 simp[fi14,resV,rvVs,rvV,hz,h4,hok,hld,hf]
theorem e14 (hx:PlN x) (hs:FsN s) (i:Int):∃t:Fs,W.pure 14 [x.av,s.av,I i]=some (.tuple [t.av,I (zbU x s.pl i).2])∧t.pl=(zbU x s.pl i).1∧FsN t:=by
 have hzp:zFs.pl=fsZ:=rfl
 by_cases hcase:vaI x s.pl≠0∨¬(0≤i∧i<x.stages.l.length)
 .obtain⟨h1,h2⟩:=e14a hx hs i hcase
  exact⟨zFs,h1,by rw[h2,hzp],zko⟩
 have hva:vaI x s.pl=0:=by
  apply cBc;intro h;exact hcase (.inl h)
 have hir:0≤i∧i<x.stages.l.length:=by
  apply cBc;intro h;exact hcase (.inr h)
 obtain⟨i,rfl⟩:∃n:Nat,i=n:=⟨i.toNat,by omega⟩
 have hi:i<x.stages.l.length:=by omega
 obtain⟨hp,hf⟩:=zej.1 hva
 have hv:=zh5 hp
 have run:∀(A:Option AV),((za1 W fi14 [x.av,s.av,I i] []).bind fun p=>frz p.2 8 p.1)=A→W.pure 14 [x.av,s.av,I i]=A:=fun A h=>by rw[zj Φ14 (by simp)];exact h
 have c1:=e16 hx hs
 rw[hva]at c1
 have hst:=hx.st
 have hw:IntKind.wrap .i64 ((x.stages.l.length:Int) - 1)=(x.stages.l.length:Int) - 1:=zG (by omega) (by omega)
 have c2:=e39t (l:=0) (h:=(x.stages.l.length:Int) - 1) (a:=i) (by omega) (by omega)
 have hb:=zjr
 obtain⟨m,c3,c4⟩:=e37 hx hv hs hf i hi
 have hstep:zbU x s.pl i=if enB x s.pl i=false then (fsZ,25) else
  let m:=zaP x s.pl i
  let k:=zad (x.stages.l.take i)
  if m.e≠0 then (fsZ,m.e)
  else if m.kind=2∧(sgAt x i).kind=10∧(s.pl.out.getD k []).length=200 then (fsZ,4)
  else
   let out:=if m.kind=2∧(sgAt x i).kind=10 then s.pl.out.set k (s.pl.out.getD k []++[m.item]) else s.pl.out
   let c:=zau (crAt s.pl m.pipe)
   if m.kind=2∧c.2≠0 then (fsZ,c.2)
   else (⟨s.pl.st.set i m.st,zbg x i m.st.ended m.out 0 (if m.kind=2 then s.pl.cr.set m.pipe.toNat c.1 else s.pl.cr),out,s.pl.drain⟩,0):=by
  unfold zbU
  rw[if_neg (by simp[hva]),if_neg (by omega)]
  rfl
 rw[hstep]
 cases hen:enB x s.pl i with
 |false=>
  rw[hen]at c3
  refine⟨zFs,run _ ?_,rfl,zko⟩
  simp[fi14,c14,c1,hw,c2,c3,hb, -zah]
 |true=>
 rw[hen]at c3
 rw[if_neg (by simp)]
 have hk0:(zaP x s.pl i).kind≠0:=by
  intro hk;unfold enB at hen;simp[hk]at hen
 have hR:=c4 hk0
 by_cases he:(zaP x s.pl i).e=0
 rotate_left
 .have hme:m.e≠0:=by rw[hR.e];exact he
  refine⟨zFs,run _ ?_,by simp only[if_pos he];rfl,zko⟩
  simp only[if_pos he]
  rw[←hR.e]
  simp[fi14,c14,c1,hw,c2,c3,hme,hb, -zah]
 have hme:m.e=0:=by rw[hR.e,he]
 have hact:=zd7 hv hf hi hk0 he
 have hmv:=hact.2.mv hact.1
 have hlen:m.sent.l.length=outK (sgAt x i).kind:=by rw[←hmv.len,←hR.out];simp
 generalize hgv:zaP x s.pl i=v at *
 have hls:s.stages.l.length=x.stages.l.length:=by have:=hf.ls;simpa[Fs.pl]using this
 have hlc:s.credits.l.length=x.pipes.l.length:=by have:=hf.lc;simpa[Fs.pl]using this
 have hlo:s.outputs.l.length=zad x.stages.l:=by have:=hf.lo;simpa[Fs.pl]using this
 have hns:s.stages.nl=some false:=by
  rcases hs.ns.1 with⟨h1,h2⟩|h1
  .rw[h2]at hls;simp at hls;omega
  .exact h1
 have hpi:0<x.pipes.l.length:=by
  by_cases k10:(sgAt x i).kind=10
  .obtain⟨k,p,hp,_⟩:=hv.allIn i 0 hi (by rw[k10];simp[inK])
   have:=(gEs.1 hp).1;omega
  .obtain⟨k,p,hp,_⟩:=hv.allOut i 0 hi (by unfold outK;rw[if_neg k10];split<;>omega)
   have:=(gEs.1 hp).1;omega
 have hnc:s.credits.nl=some false:=by
  rcases hs.nc.1 with⟨h1,h2⟩|h1
  .rw[h2]at hlc;simp at hlc;omega
  .exact h1
 have hh:=zr9 hx hs hva i hi hns hnc c3 hme
 have hcut:evC W c14 [(0,x.av),(1,s.av),(2,I i)] []=evC W (zN 7 c14) (fr14 i) (hG x s m (ovG s) (oG s)):=zeN W 7 c14 _ _ _ _ hh
 obtain⟨q,F1,H1,d1,d2⟩:=zf.1 (zuO hx hs hf i hi m)
 have hsk:skB x m i=true↔v.kind=2∧(sgAt x i).kind=10:=by
  unfold skB;rw[hR.tk];simp[and_comm]
 generalize hkk:zad (x.stages.l.take i)=k at *
 simp only[if_neg (show ¬v.e≠0 by simp[he])]
 by_cases h4:v.kind=2∧(sgAt x i).kind=10∧(s.pl.out.getD k []).length=200
 .have h4':skB x m i=true∧(s.pl.out.getD k []).length=200:=⟨hsk.2 ⟨h4.1,h4.2.1⟩,h4.2.2⟩
  rw[if_pos h4']at d2
  simp only[if_pos h4]
  obtain⟨rfl,hF1,hz⟩:=d2
  have hr:evC W c14 [(0,x.av),(1,s.av),(2,I i)] []=some (.ret,F1,H1):=hcut.trans (zkc d1)
  exact⟨zFs,zpz hr hF1 hz rfl rfl rfl rfl,rfl,zko⟩
 have h4':¬(skB x m i=true∧(s.pl.out.getD k []).length=200):=fun h=>h4 ⟨(hsk.1 h.1).1,(hsk.1 h.1).2,h.2⟩
 rw[if_neg h4']at d2
 simp only[if_neg h4]
 obtain⟨rfl,hF1,ov,hM⟩:=d2
 have hcut2:evC W (zN 7 c14) (fr14 i) (hG x s m (ovG s) (oG s))=evC W (zN 8 c14) F1 H1:=zeN W 1 (zN 7 c14) _ _ _ _ d1
 have hon:(if v.kind=2∧(sgAt x i).kind=10 then s.pl.out.set k (s.pl.out.getD k []++[v.item]) else s.pl.out)=(if skB x m i=true then s.pl.out.set k (s.pl.out.getD k []++[m.item]) else s.pl.out):=by
  by_cases h:v.kind=2∧(sgAt x i).kind=10
  .rw[if_pos h,if_pos (hsk.2 h),(hR.pi h.1).2]
  .rw[if_neg h,if_neg (fun hh=>h (hsk.1 hh))]
 rw[hon]
 have hol:(if skB x m i=true then s.pl.out.set k (s.pl.out.getD k []++[m.item]) else s.pl.out).length≤1000:=by
  have h0:s.pl.out.length≤1000:=by have:=hs.ou;simpa[Fs.pl]using this
  split
  .simpa using h0
  .exact h0
 generalize hoe:(if skB x m i=true then s.pl.out.set k (s.pl.out.getD k []++[m.item]) else s.pl.out)=outs at *
 have hhs:∀t∈s.stages.l.set i m.state,SlN t.held:=by
  intro t ht
  rcases List.mem_or_eq_of_mem_set ht with ht|rfl
  .exact hs.hs t ht
  .exact hR.sh
 have fin:∀(q:LX) (F:Fr) (H:Heap) (l:List CC),l.length≤1000→evC W (zN 8 c14) F1 H1=some (q,F,H)→q= .ret→F=[(6,.optr 2 0 0 0),(7,I 0)]→(∃cs',Z14 H (s.stages.l.set i m.state) (zbg x i m.ended (m.sent.l.map Sl.l) 0 l) cs' outs s.draining)→
   ∃t:Fs,W.pure 14 [x.av,s.av,I i]=some (.tuple [t.av,I 0])∧t.pl=⟨s.pl.st.set i v.st,zbg x i v.st.ended v.out 0 l,outs,s.pl.drain⟩∧FsN t:=by
  rintro q F H l hl0 h1 rfl h2 ⟨cs',hZ⟩
  have hcl:cs'.length≤1000:=by
   have e1:=hZ.h5.2.1
   have e2:=congrArg List.length e1
   rw[List.length_map,zdE]at e2
   omega
  obtain⟨a,t,z1,z2,z3,z4,z5,z6,z7⟩:=hZ.fs (by have:=hs.st;simpa using this) hcl hol hhs
  refine⟨t,zpz (hcut.trans (hcut2.trans h1)) h2 z1 z2 z3 z4 (z5 0),?_,z7⟩
  rw[z6,hR.out,hR.en]
  have:(s.stages.l.set i m.state).map Ss.pl=s.pl.st.set i v.st:=by
   rw[List.map_set,hR.st];rfl
  rw[this]
  rfl
 have hcrl:s.pl.cr.length≤1000:=by have:=hs.cr;simpa[Fs.pl]using this
 by_cases hk2:v.kind=2
 .have hmt:m.takes=true:=by rw[hR.tk,hk2];rfl
  obtain⟨kp,y,a,r,c,q1,q2,q3,q4,q5,q6,q7,q8,q9,q10⟩:=hact.2.pipe hk2
  obtain⟨c',hc',rfl⟩:=zpG q5
  have hpn:=(hR.pi hk2).1
  rw[q9]at hpn⊢
  have hcI:=(zaG _).2 (hf.cr _ _ _ q5 q2).v
  have hne:c'.items.l≠[]:=by
   have:c'.pl.items=c'.items.l:=rfl
   rw[←this,q6];simp
  have hca:crAt s.pl ((kp:Nat):Int)=c'.pl:=zgj hc'
  rw[hca]
  by_cases e0:(zau c'.pl).2=0
  .obtain⟨q,F,H,t1,t2,t3,t4⟩:=zf.1 (zoW hx hv hi hM hls hlc hlen hR.sa F1 hF1 (fun _=>⟨kp,c',hpn,hc',hcI,hne,e0⟩))
   simp only[if_pos hk2,if_neg (show ¬(v.kind=2∧(zau c'.pl).2≠0) from fun h=>h.2 e0),iTn]
   have hgd:s.pl.cr.getD kp crZ=c'.pl:=by rw[gEd,q5];rfl
   rw[if_pos hmt,hpn,iTn,hgd]at t4
   exact fin q F H _ (by simpa using hcrl) t1 t2 t3 t4
  .obtain⟨q,F,H,t1,rfl,t2,t3⟩:=zf.1 (zpr hx hM F1 hF1 hmt hpn hc' hcI hne e0)
   simp only[if_pos (show v.kind=2∧(zau c'.pl).2≠0 from⟨hk2,e0⟩)]
   exact⟨zFs,zpz (hcut.trans (hcut2.trans t1)) t2 t3 rfl rfl rfl rfl,rfl,zko⟩
 .have hmt:m.takes=false:=by rw[hR.tk];simp[hk2]
  obtain⟨q,F,H,t1,t2,t3,t4⟩:=zf.1 (zoW hx hv hi hM hls hlc hlen hR.sa F1 hF1 (fun h=>by rw[hmt]at h;cases h))
  simp only[if_neg hk2,if_neg (show ¬(v.kind=2∧(zau (crAt s.pl v.pipe)).2≠0) from fun h=>hk2 h.1)]
  rw[if_neg (by simp[hmt])]at t4
  exact fin q F H _ (by simpa using hcrl) t1 t2 t3 t4
end
section
variable {x:Pl} {sv ov dv:AV} {a:Act} {i:Nat}
end
abbrev hR (x:Pl) (s:Fs) (a:Act) (i:Nat):Heap:=[.arr 0 2 false [x.av],zic (.osl 4 s.stages.l.length 0 s.stages.l.length) (.osl 6 s.outputs.l.length 0 s.outputs.l.length) (.bool s.draining) 5 s.credits.l.length s.credits.l.length,.arr 0 4 false [zFs.av],.arr 0 8 false [a.av],.arr s.stages.l.length 3 false ((s.stages.l.set i a.state).map Ss.av),.arr s.credits.l.length 6 false (s.credits.l.map Cr.av),.arr s.outputs.l.length 1 false (s.outputs.l.map (Sl.av I 1))]
section
variable {x:Pl} {s:Fs}
end
section
variable {x:Pl} {s:Fs} {i:Nat}
end
section
variable {x:Pl} {s:Fs} {i:Nat}
end
theorem zrS (a b:Sl Int) (h:a.l=b.l) (hn:a.l.length≤1048576):∀(rest:List Int) (j:Nat) (H:Heap),a.l.drop j=rest→j≤a.l.length→
  okC (W.loop [0,1,5] zp0 [(0,Sl.av I 1 a),(1,Sl.av I 1 b),(5,I j)] H) (fun q F H'=>q= .exit 0):=by
 intro rest
 induction rest with
 |nil=>
  intro j H h1 h2
  have hj:=zk h1 h2
  rw[zc]
  simp[zlX,zoy,hj]
 |cons n rest ih=>
  intro j H h1 h2
  obtain⟨hlt,ha,hr⟩:=zp h1
  have hlt':(j:Int)<a.l.length:=by omega
  have hw:=zn (k:=j) (by omega)
  have hb:b.l[j]?=some n:=by rw[←h];exact ha
  have hltb:j<b.l.length:=by rw[←h];exact hlt
  have hltb':(j:Int)<b.l.length:=by omega
  have hak:a.l[j]=n:=(gEs.1 ha).2
  have hbk:b.l[j]=n:=(gEs.1 hb).2
  have ih:=ih (j+1) H hr (by omega)
  simp only[iNa,iCo]at ih
  rw[zc]
  simp[zlX,zoy,hlt,hlt',hltb,hltb',hak,hbk,hw]
  exact ih
theorem e76 (a b:Sl Int) (h:a.l=b.l) (hn:a.l.length≤1048576):W.pure 76 [Sl.av I 1 a,Sl.av I 1 b]=some (.bool true):=by
 obtain⟨q,F,H,d1,rfl⟩:=zf.1 (zrS a b h hn a.l 0 [] rfl (by omega))
 simp at d1
 have hl:(a.l.length:Int)=b.l.length:=by rw[h]
 rw[zj Φ76 (by simp)]
 simp[fi76,c76,eq_true hl,d1,h]
theorem zrU (a b:Sl (Sl Int)) (h:a.l.map Sl.l=b.l.map Sl.l) (hn:a.l.length≤1048576) (hs:∀y∈a.l,SlN y):∀(rest:List (Sl Int)) (j:Nat) (H:Heap),a.l.drop j=rest→j≤a.l.length→
  okC (W.loop [0,1,5] zp9 [(0,Sl.av (Sl.av I 1) 1 a),(1,Sl.av (Sl.av I 1) 1 b),(5,I j)] H) (fun q F H'=>q= .exit 0):=by
 have hlab:a.l.length=b.l.length:=by have:=congrArg List.length h;simpa using this
 intro rest
 induction rest with
 |nil=>
  intro j H h1 h2
  have hj:=zk h1 h2
  rw[zc]
  simp[zl0,zoB,hj]
 |cons n rest ih=>
  intro j H h1 h2
  obtain⟨hlt,ha,hr⟩:=zp h1
  have hlt':(j:Int)<a.l.length:=by omega
  have hw:=zn (k:=j) (by omega)
  have hltb:j<b.l.length:=by omega
  have hltb':(j:Int)<b.l.length:=by omega
  obtain⟨n',hb⟩:∃n',b.l[j]?=some n':=⟨_,gEg hltb⟩
  have hak:a.l[j]=n:=(gEs.1 ha).2
  have hbk:b.l[j]=n':=(gEs.1 hb).2
  have e:n.l=n'.l:=by
   have:=congrArg (fun l=>l[j]?) h
   simp[ha,hb]at this
   exact this
  have c1:=e76 n n' e (hs n (lMg ha)).2
  have ih:=ih (j+1) H hr (by omega)
  simp only[iNa,iCo]at ih
  rw[zc]
  simp[zl0,zoB,hlt,hlt',hltb,hltb',hak,hbk,c1,hw]
  exact ih
theorem e25 (a b:Sl (Sl Int)) (h:a.l.map Sl.l=b.l.map Sl.l) (hn:a.l.length≤1048576) (hs:∀y∈a.l,SlN y):W.pure 25 [Sl.av (Sl.av I 1) 1 a,Sl.av (Sl.av I 1) 1 b]=some (.bool true):=by
 obtain⟨q,F,H,d1,rfl⟩:=zf.1 (zrU a b h hn hs a.l 0 [] rfl (by omega))
 simp at d1
 have hlab:a.l.length=b.l.length:=by have:=congrArg List.length h;simpa using this
 have hl:(a.l.length:Int)=b.l.length:=by omega
 rw[zj Φ25 (by simp)]
 simp[fi25,c25,eq_true hl,eq_true hlab,d1]
theorem e59 (t u:Ss) (h:t.pl=u.pl) (hn:SlN t.held):W.pure 59 [t.av,u.av]=some (.bool true):=by
 simp only[Ss.pl,SS.mk.injEq]at h
 have c1:=e76 t.held u.held h.1 hn.2
 rw[zj Φ59 (by simp)]
 simp[fi59,c59,c1,h.2.1,h.2.2]
theorem e60 (t u:Cr) (h:t.pl=u.pl) (hn:SlN t.items):W.pure 60 [t.av,u.av]=some (.bool true):=by
 simp only[Cr.pl,CC.mk.injEq]at h
 have c1:=e76 t.items u.items h.2.2.2.2.1 hn.2
 rw[zj Φ60 (by simp)]
 simp[fi60,c60,c1,h.1,h.2.1,h.2.2.1,h.2.2.2.1,h.2.2.2.2.2]
section
variable {s t:Fs}
theorem znv (hs:FsN s) (h:s.pl=t.pl) (K:Heap):∀(rest:List Ss) (j:Nat),s.stages.l.drop j=rest→j≤s.stages.l.length→
  okC (W.loop [2,3,5] zqc [(2,.optr 0 0 0 0),(3,.optr 1 0 0 0),(5,I j)] [.arr 0 4 false [s.av],.arr 0 4 false [t.av]]) (fun q F H'=>q= .exit 0∧F.keep [2,3]=[(2,.optr 0 0 0 0),(3,.optr 1 0 0 0)]∧H'=[.arr 0 4 false [s.av],.arr 0 4 false [t.av]]):=by
 have hm:s.stages.l.map Ss.pl=t.stages.l.map Ss.pl:=by have:=congrArg FS.st h;exact this
 have hlab:s.stages.l.length=t.stages.l.length:=by have:=congrArg List.length hm;simpa using this
 have hsz:=hs.st
 intro rest
 induction rest with
 |nil=>
  intro j h1 h2
  have hj:=zk h1 h2
  rw[zc]
  simp[zl1,zoC,hj]
 |cons n rest ih=>
  intro j h1 h2
  obtain⟨hlt,ha,hr⟩:=zp h1
  have hlt':(j:Int)<s.stages.l.length:=by omega
  have hw:=zn (k:=j) (by omega)
  have hltb:j<t.stages.l.length:=by omega
  have hltb':(j:Int)<t.stages.l.length:=by omega
  obtain⟨n',hb⟩:∃n',t.stages.l[j]?=some n':=⟨_,gEg hltb⟩
  have hak:s.stages.l[j]=n:=(gEs.1 ha).2
  have hbk:t.stages.l[j]=n':=(gEs.1 hb).2
  have e:n.pl=n'.pl:=by
   have:=congrArg (fun l=>l[j]?) hm
   simp[ha,hb]at this
   exact this
  have c1:=e59 n n' e (hs.hs n (lMg ha))
  have ih:=ih (j+1) hr (by omega)
  simp only[iNa,iCo]at ih
  rw[zc]
  simp[zl1,zoC,hlt,hlt',hltb,hltb',hak,hbk,c1,hw]
  simpa using ih
theorem znw (hs:FsN s) (h:s.pl=t.pl):∀(rest:List Cr) (j:Nat),s.credits.l.drop j=rest→j≤s.credits.l.length→
  okC (W.loop [2,3,6] zqd [(2,.optr 0 0 0 0),(3,.optr 1 0 0 0),(6,I j)] [.arr 0 4 false [s.av],.arr 0 4 false [t.av]]) (fun q F H'=>q= .exit 2):=by
 have hm:s.credits.l.map Cr.pl=t.credits.l.map Cr.pl:=by have:=congrArg FS.cr h;exact this
 have hlab:s.credits.l.length=t.credits.l.length:=by have:=congrArg List.length hm;simpa using this
 have hsz:=hs.cr
 intro rest
 induction rest with
 |nil=>
  intro j h1 h2
  have hj:=zk h1 h2
  rw[zc]
  simp[zl2,zoD,hj]
 |cons n rest ih=>
  intro j h1 h2
  obtain⟨hlt,ha,hr⟩:=zp h1
  have hlt':(j:Int)<s.credits.l.length:=by omega
  have hw:=zn (k:=j) (by omega)
  have hltb:j<t.credits.l.length:=by omega
  have hltb':(j:Int)<t.credits.l.length:=by omega
  obtain⟨n',hb⟩:∃n',t.credits.l[j]?=some n':=⟨_,gEg hltb⟩
  have hak:s.credits.l[j]=n:=(gEs.1 ha).2
  have hbk:t.credits.l[j]=n':=(gEs.1 hb).2
  have e:n.pl=n'.pl:=by
   have:=congrArg (fun l=>l[j]?) hm
   simp[ha,hb]at this
   exact this
  have c1:=e60 n n' e (hs.hc n (lMg ha))
  have ih:=ih (j+1) hr (by omega)
  simp only[iNa,iCo]at ih
  rw[zc]
  simp[zl2,zoD,hlt,hlt',hltb,hltb',hak,hbk,c1,hw]
  simpa using ih
theorem e19 (hs:FsN s) (h:s.pl=t.pl):W.pure 19 [s.av,t.av]=some (.bool true):=by
 obtain⟨q,F,H,d1,rfl,d2,rfl⟩:=zf.1 (znv hs h [] s.stages.l 0 rfl (by omega))
 obtain⟨q,F3,H3,f1,rfl⟩:=zf.1 (znw hs h s.credits.l 0 rfl (by omega))
 simp at d1 d2 f1
 have h1:s.stages.l.map Ss.pl=t.stages.l.map Ss.pl:=congrArg FS.st h
 have h2:s.credits.l.map Cr.pl=t.credits.l.map Cr.pl:=congrArg FS.cr h
 have h3:s.outputs.l.map Sl.l=t.outputs.l.map Sl.l:=congrArg FS.out h
 have h4:s.draining=t.draining:=congrArg FS.drain h
 have c1:=e25 s.outputs t.outputs h3 hs.no.2 hs.ho
 have l1:s.stages.l.length=t.stages.l.length:=by have:=congrArg List.length h1;simpa using this
 have l2:s.credits.l.length=t.credits.l.length:=by have:=congrArg List.length h2;simpa using this
 have m1:(s.stages.l.length:Int)=t.stages.l.length:=by omega
 have m2:(s.credits.l.length:Int)=t.credits.l.length:=by omega
 obtain⟨g2,g3⟩:=d2
 rw[zj Φ19 (by simp)]
 simp[fi19,c19,eq_true l1,eq_true l2,eq_true m1,eq_true m2,h4,c1,d1,g2,g3,f1]
end
def zmD (p:Prop) (e rv:Nat) (q:LX) (F:Fr):Prop:=(q= .exit e∧p)∨(q= .ret∧F.get rv= .bool true)
theorem zpS (e:Ex) (hl:e.args.l.length≤1000000) (ih:∀x∈e.args.l,∃b,W.pure 132 [x.av]=some (.bool b)):∀(r:List Ex) (k:Nat),e.args.l.drop k=r→k≤e.args.l.length→
  okC (W.loop [1,3] zli [(1,.optr 0 0 0 0),(3,I k)] [.arr 0 5 false [e.av]]) (fun q F H'=>zmD True 0 2 q F):=by
 intro r
 induction r with
 |nil=>
  intro k h1 h2
  have hk:=zk h1 h2
  rw[zc]
  simp[zgd,zhJ,hk]
  exact .inl ⟨rfl,trivial⟩
 |cons a r ihr=>
  intro k h1 h2
  obtain⟨hlt,ha,hr⟩:=zp h1
  have hlt':(k:Int)<e.args.l.length:=by omega
  have hak:e.args.l[k]=a:=(gEs.1 ha).2
  obtain⟨b,e1⟩:=ih a (zal h1)
  have hw:=zn (k:=k) (by omega)
  have hJ:=ihr (k+1) hr (by omega)
  simp only[iNa,iCo]at hJ
  rw[zc]
  cases b with
  |true=>
   simp[zgd,zhJ,hlt,hak,e1,hw]
   exact .inr ⟨rfl,rfl⟩
  |false=>
   simp[zgd,zhJ,hlt,hak,e1,hw]
   simpa using hJ
theorem e132:∀(e:Ex),e.size≤1000000→∃b,W.pure 132 [e.av]=some (.bool b):=by
 refine Ex.ind (fun e ih=>?_)
 intro hs
 have hll:=Ex.len_sizes e.args.l
 rw[Ex.size_eq]at hs
 obtain⟨q,F,H,d1,d2⟩:=zf.1 (zpS e (by omega) (fun x hx=>ih x hx (by have:=Ex.mem_size hx;omega)) e.args.l 0 rfl (by omega))
 simp at d1
 by_cases h40:40<e.name.length
 .have h40':(40:Int)<e.name.length:=by omega
  refine⟨true,?_⟩
  rw[zj Φ132 (by simp)]
  simp[zj7,c132,h40,h40']
 .have h40':¬(40:Int)<e.name.length:=by omega
  rcases d2 with⟨rfl,_⟩|⟨rfl,d2⟩
  .refine⟨false,?_⟩
   rw[zj Φ132 (by simp)]
   simp[zj7,c132,h40,h40',d1]
  .refine⟨true,?_⟩
   rw[zj Φ132 (by simp)]
   simp[zj7,c132,h40,h40',d1,d2]
theorem e84 (e:Ex):∃b,W.pure 84 [e.av]=some (.bool b):=by
 have c1:=e191 e
 by_cases h:e.size≤40
 .obtain⟨b,c2⟩:=e132 e (by omega)
  have hm:min e.size 101=e.size:=by omega
  rw[hm]at c1
  have h1:¬(40:Int)<e.size:=by omega
  have h2:(e.size:Int)≤40:=by omega
  refine⟨b,?_⟩
  rw[zj Φ84 (by simp)]
  have h1':¬40<e.size:=by omega
  simp[fi84,c84,c1,h1,h1',eq_true h2,eq_true h,c2]
 .generalize hm:min e.size 101=m at c1
  have h1:(40:Int)<m:=by omega
  have h1':40<m:=by omega
  have h2:¬(m:Int)≤40:=by omega
  have h2':¬m≤40:=by omega
  refine⟨decide (m≤100),?_⟩
  rw[zj Φ84 (by simp)]
  by_cases h3:m≤100
  .have h3':(m:Int)≤100:=by omega
   simp[fi84,c84,c1,h1,h1',h2,h2',eq_true h3,eq_true h3']
  .have h3':¬(m:Int)≤100:=by omega
   simp[fi84,c84,c1,h1,h1',h2,h2',h3,h3']
theorem e35 (s:Sg):∃b,W.pure 35 [s.av]=some (.bool b)∧(b=false→s.items.l.length≤210):=by
 obtain⟨b,c1⟩:=e84 s.expr
 refine⟨b||(decide (40<s.items.l.length)&&decide (s.items.l.length≤200))||decide (210<s.items.l.length),?_,?_⟩
 .rw[zj Φ35 (by simp)]
  by_cases h1:40<s.items.l.length<;>by_cases h2:s.items.l.length≤200<;>by_cases h3:210<s.items.l.length<;>cases b<;>simp[fi35,c35,c1,h1,h2,h3]<;>omega
 .intro h
  simp only[Bool.or_eq_false_iff,decide_eq_false_iff_not]at h
  omega
section
variable {x:Pl} {s:Fs}
theorem zuP (hl:x.stages.l.length≤1000):∀(r:List Sg) (k:Nat),x.stages.l.drop k=r→k≤x.stages.l.length→
  okC (W.loop [1,3] l9_0 [(1,.optr 0 0 0 0),(3,I k)] [.arr 0 2 false [x.av]]) (fun q F H'=>zmD (∀s∈r,s.items.l.length≤210) 0 2 q F):=by
 intro r
 induction r with
 |nil=>
  intro k h1 h2
  have hk:=zk h1 h2
  rw[zc]
  simp[zhv,b9_0,hk]
  exact .inl ⟨rfl,by simp⟩
 |cons a r ihr=>
  intro k h1 h2
  obtain⟨hlt,ha,hr⟩:=zp h1
  have hlt':(k:Int)<x.stages.l.length:=by omega
  have hak:x.stages.l[k]=a:=(gEs.1 ha).2
  obtain⟨b,e1,e2⟩:=e35 a
  have hw:=zn (k:=k) (by omega)
  obtain⟨q,F,H,d1,d2⟩:=zf.1 (ihr (k+1) hr (by omega))
  simp only[iNa,iCo]at d1
  rw[zc]
  by_cases hb:b=true∨(20<a.items.l.length∧a.items.l.length≤200)
  .cases b with
   |true=>simp[zhv,b9_0,hlt,hak,e1,hw];exact .inr ⟨rfl,rfl⟩
   |false=>
    rcases hb with hb|⟨g1,g2⟩
    .cases hb
    .have g1':(20:Int)<a.items.l.length:=by omega
     have g2':(a.items.l.length:Int)≤200:=by omega
     simp[zhv,b9_0,hlt,hak,e1,hw,eq_true g1,eq_true g2,eq_true g1',eq_true g2']
     exact .inr ⟨rfl,rfl⟩
  .have hbf:b=false:=by cases b;rfl;exact absurd (.inl rfl) hb
   subst hbf
   have e2:=e2 rfl
   have fin:zmD (∀s∈a::r,s.items.l.length≤210) 0 2 q F:=by
    rcases d2 with⟨h,h3⟩|h
    .exact .inl ⟨h,by intro s hs;rcases lMc.1 hs with rfl|hs;exact e2;exact h3 s hs⟩
    .exact .inr h
   by_cases g1:20<a.items.l.length
   .have g2:¬a.items.l.length≤200:=fun h=>hb (.inr ⟨g1,h⟩)
    have g1':(20:Int)<a.items.l.length:=by omega
    have g2':¬(a.items.l.length:Int)≤200:=by omega
    simp[zhv,b9_0,hlt,hak,e1,hw,eq_true g1,g2,eq_true g1',g2',d1]
    simpa using fin
   .have g1':¬(20:Int)<a.items.l.length:=by omega
    simp[zhv,b9_0,hlt,hak,e1,hw,g1,g1',d1]
    simpa using fin
theorem e9 (x:Pl):∃b,W.pure 9 [x.av]=some (.bool b)∧(b=false→PlN x):=by
 by_cases h1:18<x.stages.l.length
 .have h1':(18:Int)<x.stages.l.length:=by omega
  refine⟨true,?_,by simp⟩
  rw[zj Φ9 (by simp)]
  simp[fi9,c9,eq_true h1,eq_true h1']
 .have h1':¬(18:Int)<x.stages.l.length:=by omega
  by_cases h2:36<x.pipes.l.length
  .have h2':(36:Int)<x.pipes.l.length:=by omega
   refine⟨true,?_,by simp⟩
   rw[zj Φ9 (by simp)]
   simp[fi9,c9,h1,h1',eq_true h2,eq_true h2']
  .have h2':¬(36:Int)<x.pipes.l.length:=by omega
   obtain⟨q,F,H,d1,d2⟩:=zf.1 (zuP (x:=x) (by omega) x.stages.l 0 rfl (by omega))
   simp at d1
   rcases d2 with⟨rfl,d2⟩|⟨rfl,d2⟩
   .refine⟨false,?_,fun _=>⟨by omega,by omega,fun s hs=>by have:=d2 s hs;omega⟩⟩
    rw[zj Φ9 (by simp)]
    simp[fi9,c9,h1,h1',h2,h2',d1]
   .refine⟨true,?_,by simp⟩
    rw[zj Φ9 (by simp)]
    simp[fi9,c9,h1,h1',h2,h2',d1,d2]
def zjx (p:Prop) (e rv:Nat) (H0:Heap) (q:LX) (F:Fr) (H:Heap):Prop:=(q= .exit e∧p∧F.get 1= .optr 0 0 0 0∧H=H0)∨(q= .ret∧F.get rv= .bool true)
theorem znx (hl:s.stages.l.length≤1000):∀(r:List Ss) (k:Nat),s.stages.l.drop k=r→k≤s.stages.l.length→
  okC (W.loop [1,3] zqe [(1,.optr 0 0 0 0),(3,I k)] [.arr 0 4 false [s.av]]) (fun q F H'=>zjx (∀t∈r,t.held.l.length≤110) 0 2 [.arr 0 4 false [s.av]] q F H'):=by
 intro r
 induction r with
 |nil=>
  intro k h1 h2
  have hk:=zk h1 h2
  rw[zc]
  simp[zir,zms,hk]
  exact .inl ⟨rfl,by simp,rfl,rfl⟩
 |cons a r ihr=>
  intro k h1 h2
  obtain⟨hlt,ha,hr⟩:=zp h1
  have hlt':(k:Int)<s.stages.l.length:=by omega
  have hak:s.stages.l[k]=a:=(gEs.1 ha).2
  have hw:=zn (k:=k) (by omega)
  obtain⟨q,F,H,d1,d2⟩:=zf.1 (ihr (k+1) hr (by omega))
  simp only[iNa,iCo]at d1
  rw[zc]
  by_cases g:110<a.held.l.length
  .have g':(110:Int)<a.held.l.length:=by omega
   simp[zir,zms,hlt,hak,eq_true g,eq_true g',hw]
   exact .inr ⟨rfl,rfl⟩
  .have g':¬(110:Int)<a.held.l.length:=by omega
   have fin:zjx (∀t∈a::r,t.held.l.length≤110) 0 2 [.arr 0 4 false [s.av]] q F H:=by
    rcases d2 with⟨h,h3,h4⟩|h
    .exact .inl ⟨h,by intro t ht;rcases lMc.1 ht with rfl|ht;omega;exact h3 t ht,h4⟩
    .exact .inr h
   simp[zir,zms,hlt,hak,g,g',hw,d1]
   simpa using fin
theorem zny (hl:s.credits.l.length≤1000):∀(r:List Cr) (k:Nat),s.credits.l.drop k=r→k≤s.credits.l.length→
  okC (W.loop [1,4] zqf [(1,.optr 0 0 0 0),(4,I k)] [.arr 0 4 false [s.av]]) (fun q F H'=>zjx (∀t∈r,t.items.l.length≤110) 2 2 [.arr 0 4 false [s.av]] q F H'):=by
 intro r
 induction r with
 |nil=>
  intro k h1 h2
  have hk:=zk h1 h2
  rw[zc]
  simp[zis,zmt,hk]
  exact .inl ⟨rfl,by simp,rfl,rfl⟩
 |cons a r ihr=>
  intro k h1 h2
  obtain⟨hlt,ha,hr⟩:=zp h1
  have hlt':(k:Int)<s.credits.l.length:=by omega
  have hak:s.credits.l[k]=a:=(gEs.1 ha).2
  have hw:=zn (k:=k) (by omega)
  obtain⟨q,F,H,d1,d2⟩:=zf.1 (ihr (k+1) hr (by omega))
  simp only[iNa,iCo]at d1
  rw[zc]
  by_cases g:110<a.items.l.length
  .have g':(110:Int)<a.items.l.length:=by omega
   simp[zis,zmt,hlt,hak,eq_true g,eq_true g',hw]
   exact .inr ⟨rfl,rfl⟩
  .have g':¬(110:Int)<a.items.l.length:=by omega
   have fin:zjx (∀t∈a::r,t.items.l.length≤110) 2 2 [.arr 0 4 false [s.av]] q F H:=by
    rcases d2 with⟨h,h3,h4⟩|h
    .exact .inl ⟨h,by intro t ht;rcases lMc.1 ht with rfl|ht;omega;exact h3 t ht,h4⟩
    .exact .inr h
   simp[zis,zmt,hlt,hak,g,g',hw,d1]
   simpa using fin
theorem znz (hl:s.outputs.l.length≤1000):∀(r:List (Sl Int)) (k:Nat),s.outputs.l.drop k=r→k≤s.outputs.l.length→
  okC (W.loop [1,5] zqg [(1,.optr 0 0 0 0),(5,I k)] [.arr 0 4 false [s.av]]) (fun q F H'=>zmD (∀t∈r,t.l.length≤210) 4 2 q F):=by
 intro r
 induction r with
 |nil=>
  intro k h1 h2
  have hk:=zk h1 h2
  rw[zc]
  simp[zit,zmu,hk]
  exact .inl ⟨rfl,by simp⟩
 |cons a r ihr=>
  intro k h1 h2
  obtain⟨hlt,ha,hr⟩:=zp h1
  have hlt':(k:Int)<s.outputs.l.length:=by omega
  have hak:s.outputs.l[k]=a:=(gEs.1 ha).2
  have hw:=zn (k:=k) (by omega)
  obtain⟨q,F,H,d1,d2⟩:=zf.1 (ihr (k+1) hr (by omega))
  simp only[iNa,iCo]at d1
  rw[zc]
  by_cases g:210<a.l.length
  .have g':(210:Int)<a.l.length:=by omega
   simp[zit,zmu,hlt,hak,eq_true g,eq_true g',hw]
   exact .inr ⟨rfl,rfl⟩
  .have g':¬(210:Int)<a.l.length:=by omega
   have fin:zmD (∀t∈a::r,t.l.length≤210) 4 2 q F:=by
    rcases d2 with⟨h,h3⟩|h
    .exact .inl ⟨h,by intro t ht;rcases lMc.1 ht with rfl|ht;omega;exact h3 t ht⟩
    .exact .inr h
   simp[zit,zmu,hlt,hak,g,g',hw,d1]
   simpa using fin
theorem e10 (s:Fs):∃b,W.pure 10 [s.av]=some (.bool b)∧(b=false→s.stages.l.length≤18∧s.credits.l.length≤36∧s.outputs.l.length≤18∧(∀t∈s.stages.l,t.held.l.length≤110)∧(∀t∈s.credits.l,t.items.l.length≤110)∧∀t∈s.outputs.l,t.l.length≤210):=by
 by_cases h1:18<s.stages.l.length
 .have h1':(18:Int)<s.stages.l.length:=by omega
  refine⟨true,?_,by simp⟩
  rw[zj Φ10 (by simp)]
  simp[fi10,c10,eq_true h1,eq_true h1']
 have h1':¬(18:Int)<s.stages.l.length:=by omega
 by_cases h2:36<s.credits.l.length
 .have h2':(36:Int)<s.credits.l.length:=by omega
  refine⟨true,?_,by simp⟩
  rw[zj Φ10 (by simp)]
  simp[fi10,c10,h1,h1',eq_true h2,eq_true h2']
 have h2':¬(36:Int)<s.credits.l.length:=by omega
 by_cases h3:18<s.outputs.l.length
 .have h3':(18:Int)<s.outputs.l.length:=by omega
  refine⟨true,?_,by simp⟩
  rw[zj Φ10 (by simp)]
  simp[fi10,c10,h1,h1',h2,h2',eq_true h3,eq_true h3']
 have h3':¬(18:Int)<s.outputs.l.length:=by omega
 obtain⟨q,F,H,d1,d2⟩:=zf.1 (znx (s:=s) (by omega) s.stages.l 0 rfl (by omega))
 obtain⟨q2,F2,H2,f1,f2⟩:=zf.1 (zny (s:=s) (by omega) s.credits.l 0 rfl (by omega))
 obtain⟨q3,F3,H3,g1,g2⟩:=zf.1 (znz (s:=s) (by omega) s.outputs.l 0 rfl (by omega))
 simp at d1 f1 g1
 rcases d2 with⟨rfl,d2,d3,rfl⟩|⟨rfl,d2⟩
 rotate_left
 .refine⟨true,?_,by simp⟩
  rw[zj Φ10 (by simp)]
  simp[fi10,c10,h1,h1',h2,h2',h3,h3',d1,d2]
 rcases f2 with⟨rfl,f2,f3,rfl⟩|⟨rfl,f2⟩
 rotate_left
 .refine⟨true,?_,by simp⟩
  rw[zj Φ10 (by simp)]
  simp[fi10,c10,h1,h1',h2,h2',h3,h3',d1,d3,f1,f2]
 rcases g2 with⟨rfl,g2⟩|⟨rfl,g2⟩
 rotate_left
 .refine⟨true,?_,by simp⟩
  rw[zj Φ10 (by simp)]
  simp[fi10,c10,h1,h1',h2,h2',h3,h3',d1,d3,f1,f3,g1,g2]
 .refine⟨false,?_,fun _=>⟨by omega,by omega,by omega,d2,f2,g2⟩⟩
  rw[zj Φ10 (by simp)]
  simp[fi10,c10,h1,h1',h2,h2',h3,h3',d1,d3,f1,f3,g1]
end
structure FsW (s:Fs):Prop where
 ns:(s.stages.nl=some true∧s.stages.l=[])∨s.stages.nl=some false
 nc:(s.credits.nl=some true∧s.credits.l=[])∨s.credits.nl=some false
 no:(s.outputs.nl=some true∧s.outputs.l=[])∨s.outputs.nl=some false
 hs:∀t∈s.stages.l,(t.held.nl=some true∧t.held.l=[])∨t.held.nl=some false
 hc:∀c∈s.credits.l,(c.items.nl=some true∧c.items.l=[])∨c.items.nl=some false
 ho:∀o∈s.outputs.l,(o.nl=some true∧o.l=[])∨o.nl=some false
theorem FsW.n {s:Fs} (h:FsW s) (hb:s.stages.l.length≤18∧s.credits.l.length≤36∧s.outputs.l.length≤18∧(∀t∈s.stages.l,t.held.l.length≤110)∧(∀t∈s.credits.l,t.items.l.length≤110)∧∀t∈s.outputs.l,t.l.length≤210):FsN s:=by
 obtain⟨b1,b2,b3,b4,b5,b6⟩:=hb
 exact⟨by omega,by omega,by omega,⟨h.ns,by omega⟩,⟨h.nc,by omega⟩,⟨h.no,by omega⟩,fun t ht=>⟨h.hs t ht,by have:=b4 t ht;omega⟩,fun t ht=>⟨h.hc t ht,by have:=b5 t ht;omega⟩,fun t ht=>⟨h.ho t ht,by have:=b6 t ht;omega⟩⟩
theorem zu0 {x:Pl} {s:Fs} (hw:FsW s):(∃b,W.pure 9 [x.av]=some (.bool b)∧(b=true∨(b=false∧∃c,W.pure 10 [s.av]=some (.bool c)∧(c=true∨(c=false∧PlN x∧FsN s))))):=by
 obtain⟨b,h1,h2⟩:=e9 x
 obtain⟨c,h3,h4⟩:=e10 s
 refine⟨b,h1,?_⟩
 cases b with
 |true=>exact .inl rfl
 |false=>
  refine .inr ⟨rfl,c,h3,?_⟩
  cases c with
  |true=>exact .inl rfl
  |false=>exact .inr ⟨rfl,h2 rfl,hw.n (h4 rfl)⟩
theorem zq8:bldV [.isl (some true) 0 [],.isl (some true) 0 [],.isl (some true) 0 [],.bool false] [] []=zFs.av:=rfl
theorem zmO {x:Pl} {s:FS} {i:Int} (he:(zbU x s i).2≠0):(zbU x s i).1=fsZ:=by
 unfold zbU at he⊢
 by_cases h1:vaI x s≠0
 .rw[if_pos h1]
 rw[if_neg h1]at he⊢
 by_cases h2:i<0∨(x.stages.l.length:Int)≤i
 .rw[if_pos h2]
 rw[if_neg h2]at he⊢
 by_cases h3:enB x s i=false
 .rw[if_pos h3]
 rw[if_neg h3]at he⊢
 simp only at he⊢
 by_cases h4:(zaP x s i).e≠0
 .rw[if_pos h4]
 rw[if_neg h4]at he⊢
 by_cases h5:(zaP x s i).kind=2∧(sgAt x i).kind=10∧(s.out.getD (zad (x.stages.l.take i.toNat)) []).length=200
 .rw[if_pos h5]
 rw[if_neg h5]at he⊢
 by_cases h6:(zaP x s i).kind=2∧(zau (crAt s (zaP x s i).pipe)).2≠0
 .rw[if_pos h6]
 rw[if_neg h6]at he
 exact absurd rfl he
section
variable {x:Pl} {s t:Fs} {i:Int}
theorem zuQ (hx:PlN x) (hs:FsN s) (ht:FsN t) (hst:zbU x s.pl i=(t.pl,0)):∀(r:List Cr) (k:Nat) (H:Heap),t.credits.l.drop k=r→k≤t.credits.l.length→H[0]?=some (.arr 0 2 false [x.av])→H[1]?=some (.arr 0 4 false [s.av])→H[2]?=some (.arr 0 4 false [t.av])→
  okC (W.loop [3,4,7,34,35,36] l6_0 [(3,.optr 0 0 0 0),(4,.optr 1 0 0 0),(7,.optr 2 0 0 0),(34,Sl.av Cr.av 6 t.credits),(35,I t.credits.l.length),(36,I k)] H)
   (fun q F H'=>q= .exit 0∧F.keep [3,4,7]=[(3,.optr 0 0 0 0),(4,.optr 1 0 0 0),(7,.optr 2 0 0 0)]∧H'[0]?=some (.arr 0 2 false [x.av])∧H'[1]?=some (.arr 0 4 false [s.av])∧H'[2]?=some (.arr 0 4 false [t.av])):=by
 obtain⟨q1,q2,q3,q4⟩:=zek hst
 have hcr:=ht.cr
 intro r
 induction r with
 |nil=>
  intro k H h1 h2 hA hB hC
  have hk:=zk h1 h2
  rw[zc]
  simp[zpa,b6_0,hk]
  exact⟨hA,hB,hC⟩
 |cons c r ihr=>
  intro k H h1 h2 hA hB hC
  obtain⟨hlt,ha,hr⟩:=zp h1
  have hlt':(k:Int)<t.credits.l.length:=by omega
  have hak:t.credits.l[k]=c:=(gEs.1 ha).2
  have hw:=zn (k:=k) (by omega)
  have hcp:t.pl.cr[k]?=some c.pl:=by simp[Fs.pl,ha]
  obtain⟨y,b,r1,r2,r3,r4,r5,r6⟩:=q4 k c.pl hcp
  obtain⟨b',hb',rfl⟩:=zpG r2
  have e1:c.pl.items.length=c.items.l.length:=rfl
  have e2:c.pl.sent=c.sent:=rfl
  have e3:c.pl.taken=c.taken:=rfl
  have e4:b'.pl.sent=b'.sent:=rfl
  have e5:b'.pl.taken=b'.taken:=rfl
  rw[e1]at r3 r4
  rw[e2,e3]at r4
  rw[e4,e2]at r5
  rw[e5,e3]at r6
  have hyl:=(gEs.1 r1).1
  have hyk:x.pipes.l[k]=y:=(gEs.1 r1).2
  have hyl':(k:Int)<x.pipes.l.length:=by omega
  have hyn:¬(x.pipes.l.length:Int)≤k:=by omega
  have hyn':¬x.pipes.l.length≤k:=by omega
  have hbl:=(gEs.1 hb').1
  have hbl':(k:Int)<s.credits.l.length:=by omega
  have hbk:s.credits.l[k]=b':=(gEs.1 hb').2
  have g1:¬y.capacity<(c.items.l.length:Int):=by omega
  have hws:IntKind.wrap .i64 (c.sent - c.taken)=c.sent - c.taken:=by
   have:=(ht.hc c (lMg ha)).2
   exact zG (by omega) (by omega)
  have g3:¬c.sent<b'.sent:=by omega
  have g4:¬c.taken<b'.taken:=by omega
  obtain⟨q,F,H',d1,rfl,d2⟩:=zf.1 (ihr (k+1) _ hr (by omega) (app0 hA [.arr 0 6 false [c.av]]) (app0 hB _) (app0 hC _))
  simp only[iNa,iCo]at d1
  simp at d2
  rw[zc]
  simp[zpa,b6_0,hlt,hlt',ha,hak,zF,app0 hA,app0 hB,app0 hC,hyl,hyl',hyn,hyn',r1,hyk,hbl,hbl',hb',hbk,g1,hws,eq_true r4,g3,g4,hw,d1,gEz, -getElem?_pos]
  exact d2
end
theorem law6 (x:Pl) (s:Fs) (hw:FsW s) (i:Int):W.pure 6 [x.av,s.av,I i]=some (.bool true):=by
 have a1:=e11
 have hb:=zq8
 obtain⟨b,h1,rfl|⟨rfl,c,h2,rfl|⟨rfl,hx,hs⟩⟩⟩:=zu0 (x:=x) hw
 .rw[zj Φ6 (by simp)];simp[fi6,c6,h1,a1]
 .rw[zj Φ6 (by simp)];simp[fi6,c6,h1,h2,a1]
 .obtain⟨t,v1,t1,t2⟩:=e14 hx hs i
  by_cases he:(zbU x s.pl i).2=0
  .have hst:zbU x s.pl i=(t.pl,0):=by rw[t1,←he]
   obtain⟨q1,q2,q3,q4⟩:=zek hst
   rw[he]at v1
   have v2:=e16 hx hs
   rw[q2]at v2
   have v3:=e16 hx t2
   rw[q1]at v3
   have q3':t.credits.l.length=x.pipes.l.length:=by simpa[Fs.pl]using q3
   have q3i:(t.credits.l.length:Int)=x.pipes.l.length:=by omega
   obtain⟨q,F,H,d1,rfl,d2,d3,d4,d5⟩:=zf.1 (zuQ hx hs t2 hst t.credits.l 0 [.arr 0 2 false [x.av],.arr 0 4 false [s.av],.arr 0 4 false [t.av]] rfl (by omega) rfl rfl rfl)
   simp at d1 d2
   obtain⟨g3,g4,g7⟩:=d2
   rw[zj Φ6 (by simp)]
   simp[fi6,c6,h1,h2,a1,v1,d1,g3,g4,g7,d3,d4,d5,v2,v3,eq_true q3',eq_true q3i,gEz, -getElem?_pos]
  .have hz:(zbU x s.pl i).1=fsZ:=zmO he
   have v2:=e19 (s:=t) (t:=zFs) t2 (by rw[t1,hz];rfl)
   rw[zj Φ6 (by simp)]
   simp[fi6,c6,h1,h2,a1,v1,he,hb,v2, -zah]
section
variable {s:Fs} {sv ov dv:AV}
end
@[simp] theorem fsSetC (s:Fs) (a b c d:Nat):zb [s.av] 0 1 (.osl a b c d)=some [.agg [Sl.av Ss.av 3 s.stages,.osl a b c d,Sl.av (Sl.av I 1) 1 s.outputs,.bool s.draining]]:=rfl
@[simp] theorem fsSetCn (s:Fs) (a:Option Bool) (b:Nat) (l:List AV):zb [s.av] 0 1 (.isl a b l)=some [.agg [Sl.av Ss.av 3 s.stages,.isl a b l,Sl.av (Sl.av I 1) 1 s.outputs,.bool s.draining]]:=rfl
section
set_option maxRecDepth 10000
end
structure Rd (s:Sh) (a:AV):Prop where
 int:s= .int .i64→∃n,a=I n
 str:s= .str→∃b,a= .str b
 exs:s= .rcs 48→∃x:Sl Ex,a=Sl.av Ex.av 5 x
theorem zsW {α:Type} (f:α→AV) (n:Nat) (m:List α):(.isl (some false) n (m.map f):AV)=Sl.av f n ⟨some false,n,m⟩:=by cases m<;>rfl
theorem zsY {g:Bool} {l:List Sh} (h:recL 48=some (g,l)):g=true∧l=[.int .i64,.int .i64,.str,.int .i64,.rcs 48]:=by
 have:recL 48=some (true,[.int .i64,.int .i64,.str,.int .i64,.rcs 48]):=by kernel_rfl
 rw[this]at h
 simp only[oSi,pMi]at h
 exact⟨h.1.symm,h.2.symm⟩
theorem zrr {e:AV} (hr:zdA true 5 e) (ih:∀(j:Nat) (c:AV) (s:Sh),(AV.cells e)[j]?=some c→([.int .i64,.int .i64,.str,.int .i64,.rcs 48]:List Sh)[j]?=some s→Rd s c):∃x:Ex,e=x.av∧True:=by
 obtain⟨cs,rfl,hl⟩:=hr.1 rfl
 match cs,hl with
 | [a0,a1,a2,a3,a4],_=>
  obtain⟨n0,rfl⟩:=(ih 0 _ _ rfl rfl).int rfl
  obtain⟨n1,rfl⟩:=(ih 1 _ _ rfl rfl).int rfl
  obtain⟨n2,rfl⟩:=(ih 2 _ _ rfl rfl).str rfl
  obtain⟨n3,rfl⟩:=(ih 3 _ _ rfl rfl).int rfl
  obtain⟨n4,rfl⟩:=(ih 4 _ _ rfl rfl).exs rfl
  exact⟨Ex.of n0 n1 n2 n3 n4,by rw[Ex.av_eq];rfl,trivial⟩
theorem zhY {s:Sh} {a:AV} (h:ShOk s a):Rd s a:=by
 induction h with
 |bool b=>exact⟨by rintro⟨⟩,by rintro⟨⟩,by rintro⟨⟩⟩
 |int k n h=>exact⟨by rintro⟨⟩;exact⟨n,rfl⟩,by rintro⟨⟩,by rintro⟨⟩⟩
 |str b h=>exact⟨by rintro⟨⟩,by rintro⟨⟩;exact⟨b,rfl⟩,by rintro⟨⟩⟩
 |nil g l=>exact⟨by rintro⟨⟩,by rintro⟨⟩,by rintro⟨⟩⟩
 |sl g l es hl hr hv ih=>exact⟨by rintro⟨⟩,by rintro⟨⟩,by rintro⟨⟩⟩
 |rnil e g l h=>
  refine⟨by rintro⟨⟩,by rintro⟨⟩,?_⟩
  rintro⟨⟩;exact⟨⟨some true,l.length,[]⟩,rfl⟩
 |rsl e g l h es hl hr hv ih=>
  refine⟨by rintro⟨⟩,by rintro⟨⟩,?_⟩
  rintro⟨⟩
  obtain⟨rfl,rfl⟩:=zsY h
  obtain⟨m,h1,h2⟩:=zo5 (f:=Ex.av) (p:=fun _=>True) es (fun e he=>by
   obtain⟨i,hi⟩:=List.getElem?_of_mem he
   exact zrr (hr i e hi) (fun j c s hc hs=>ih i e j c s hi hc hs))
  subst h1
  exact⟨⟨some false,5,m⟩,zsW Ex.av 5 m⟩
def sgSh:List Sh:=[.int .i64,.int .i64,.int .i64,.int .i64,.str,.int .i64,.rcs 48,.sl false [.int .i64]]
def plSh:List Sh:=[.sl true sgSh,.sl true piSh]
theorem zvu {e:AV} (hr:zdA true 8 e) (hv:∀(j:Nat) (c:AV) (s:Sh),(AV.cells e)[j]?=some c→sgSh[j]?=some s→ShOk s c):∃p:Sg,e=p.av∧True:=by
 obtain⟨cs,rfl,hl⟩:=hr.1 rfl
 match cs,hl with
 | [a0,a1,a2,a3,a4,a5,a6,a7],_=>
  obtain⟨n0,rfl⟩:=(zhY (hv 0 _ _ rfl rfl)).int rfl
  obtain⟨n1,rfl⟩:=(zhY (hv 1 _ _ rfl rfl)).int rfl
  obtain⟨n2,rfl⟩:=(zhY (hv 2 _ _ rfl rfl)).int rfl
  obtain⟨n3,rfl⟩:=(zhY (hv 3 _ _ rfl rfl)).int rfl
  obtain⟨n4,rfl⟩:=(zhY (hv 4 _ _ rfl rfl)).str rfl
  obtain⟨n5,rfl⟩:=(zhY (hv 5 _ _ rfl rfl)).int rfl
  obtain⟨n6,rfl⟩:=(zhY (hv 6 _ _ rfl rfl)).exs rfl
  obtain⟨n7,h7,w7⟩:=zfL (f:=I) zfR (hv 7 _ _ rfl rfl)
  subst h7
  exact⟨⟨n0,n1,Ex.of n2 n3 n4 n5 n6,n7⟩,rfl,trivial⟩
theorem zsG {a:AV} (h:zmF (true,plSh) a):∃s:Pl,a=s.av:=by
 obtain⟨cs,rfl,h1,h2⟩:=h.1 rfl
 match cs,h1 with
 | [a0,a1],_=>
  obtain⟨n0,h3,w0⟩:=zfL (f:=Sg.av) (p:=fun _=>True) (fun e h1 h2=>zvu h1 h2) (h2 0 _ _ rfl rfl)
  subst h3
  obtain⟨n1,h4,w1⟩:=zfL (f:=Pi.av) (fun e=>zvv) (h2 1 _ _ rfl rfl)
  subst h4
  exact⟨⟨n0,n1⟩,rfl⟩
theorem Fs.wf.w {s:Fs} (h:s.wf):FsW s:=⟨h.1.1,h.2.1.1,h.2.2.1.1,fun t ht=>(h.1.all t ht).1.1,fun c hc=>(h.2.1.all c hc).2.2.2.2.1.1,fun o ho=>(h.2.2.1.all o ho).1⟩
end Go.Proofs.YtbddckhdbnmamaaGreat
