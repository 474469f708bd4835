/-
  syntax.Print; the statement SyntaxParts (conditions: none).
-/
import Derived.Test.YtgamobngbenehaaGreatDoorH6p
namespace Go.Proofs.YtgamobngbenehaaGreatDoor
open Go Go.RowKit
set_option linter.unusedVariables false
set_option linter.unusedSimpArgs false
set_option maxRecDepth 10000
set_option maxHeartbeats 4000000
def pwT (k:Int):List UInt8:=if k=1 then [116,97,115,107] else if k=2 then [102,117,110,99] else [99,108,101,97,110,117,112]
def priW:List UInt8:=[32,112,114,105,111,114,105,116,121,32]
def zbq (p:Pr):List UInt8:=za7 0 (pwT p.kind++[32]++p.name++[40]++comT p.params.l++[41]++(if 0<p.priority then priW++zcr p.priority else [])++[32,123])++St.wts p.body.l 1++za7 0 [125]
def dlT (d:Dc):List UInt8:=za7 0 (zhy d++[59])
def zbC (s:So):List UInt8:=s.decls.l.flatMap dlT++s.procs.l.flatMap zbq
theorem e51w:W.pure 51 []=some (.isl (some false) 1 [.str [],.str [116,97,115,107],.str [102,117,110,99],.str [99,108,101,97,110,117,112]]):=(zah 60).pure _ _ _ (by kernel_rfl)
theorem znj {p:Pr} (h:zav p=0):(p.kind=1∨p.kind=2∨p.kind=3)∧p.name.length≤30∧ziH p.params.l∧(0≤p.priority∧p.priority≤9)∧∀y∈St.pres p.body.l,y.wok:=by
 obtain⟨h1,h2⟩:=zrx h
 unfold zav at h
 split at h
 .cases h
 split at h
 .cases h
 rename_i n1
 split at h
 .cases h
 split at h
 .cases h
 rename_i n2
 split at h
 .cases h
 have hn:zT p.name=true:=by
  cases hb:zT p.name with
  |true=>rfl
  |false=>exact absurd hb n1
 have hp:p.params.l.all zT=true:=by
  cases hb:p.params.l.all zT with
  |true=>rfl
  |false=>exact absurd hb n2
 rw[List.all_eq_true]at hp
 exact⟨by omega,zaX hn,⟨by omega,fun s hs=>by have:=zaX (hp s hs);omega⟩,by omega,fun y hy=>zpI (zbO.1 h1 y hy)⟩
theorem zjK {p:Pr} (h:zav p=0) (hc:p.cost≤300):(zbq p).length≤12000+1400000* p.cost:=by
 obtain⟨h1,h2,h3,h4,h5⟩:=znj h
 have hpc:p.cost=St.costs p.body.l:=rfl
 have n1:=zdX h3
 have n2:=zbd p.priority (by omega)
 have n3:=St.wts_len p.body.l 1 h5 (by omega)
 have n4:(pwT p.kind).length≤7:=by
  unfold pwT
  repeat' split
  all_goals simp
 have n5:priW.length=10:=rfl
 rw[hpc]
 unfold zbq
 simp only[List.length_append,zbv,List.length_cons,List.length_nil]
 split<;>simp only[List.length_append,List.length_cons,List.length_nil]<;>omega
theorem zkx {α:Type} (f:α→List UInt8) (g:α→Nat):∀l:List α,(∀a∈l,(f a).length≤g a)→(l.flatMap f).length≤(l.map g).sum
 | [],_=>by simp
 |a::r,h=>by
  have h1:=h a (by simp)
  have h2:=zkx f g r (fun b hb=>h b (by simp[hb]))
  simp only[List.flatMap_cons,List.length_append,List.map_cons,List.sum_cons];omega
theorem zjk (k:Nat):∀l:List Pr,(l.map fun p=>12000+k* p.cost).sum=12000* l.length+k* (l.map Pr.cost).sum
 | []=>by simp
 |p::r=>by simp only[List.map_cons,List.sum_cons,List.length_cons,zjk k r,Nat.mul_add];omega
theorem zpH (k:Nat):∀l:List Dc,(l.map fun _=>k).sum=k* l.length
 | []=>by simp
 |p::r=>by simp only[List.map_cons,List.sum_cons,List.length_cons,zpH k r,Nat.mul_add];omega
section
attribute [local irreducible] okC okV
theorem w56 {H:Heap} {id t:Nat} {rest:List AV} {s:List UInt8} (h:Bld H id t rest s):W.call (.clo 56 [] []) [.bptr id 0] H=some (I s.length,H):=by
 obtain⟨c0,buf,h1,h2,h3⟩:=h
 rw[zL Φ56]
 simp[fi56,c56,zi,ze,zd,resV,rvVs,rvV,h1,h3.okO,h3.len, -getElem?_pos,gEz]
theorem zma {s:So} (hz:zY zC s.decls.l=0) (hdl:s.decls.l.length≤32):∀(r:List Dc) (j:Nat) (q:List UInt8) (G:Heap),s.decls.l.drop j=r→j≤s.decls.l.length→Bld G 1 102 [I 0] q→q.length+(r.flatMap dlT).length≤zE→
  okC (W.loop [1,5,19,20,21] zoi [(1,.optr 0 0 0 0),(5,.bptr 1 0),(19,Sl.av Dc.av 5 s.decls),(20,I s.decls.l.length),(21,I j)] G)
   (fun y F G'=>y= .exit 0∧F.keep [1,5]=[(1,.optr 0 0 0 0),(5,.bptr 1 0)]∧Bld G' 1 102 [I 0] (q++r.flatMap dlT)∧zS G G'):=by
 intro r
 induction r with
 |nil=>
  intro j q G h1 h2 h3 h4
  have hj:=zn h1 h2
  rw[zp]
  simp[zkW,zm0,zd,hj, -getElem?_pos,gEz]
  exact⟨h3,zS.refl _⟩
 |cons d r ih=>
  intro j q G h1 h2 h3 h4
  obtain⟨hlt,hx,hr⟩:=zF h1
  have hlt':(j:Int)<s.decls.l.length:=by omega
  have hwr:=zaa (k:=j) (by omega)
  have hlast:∀C,(G++[C])[G.length]?=some C:=zg _
  have hset:∀C D,((G++[C]).set G.length D)=G++[D]:=fun C D=>by simp
  simp only[List.flatMap_cons,List.length_append]at h4⊢
  obtain⟨G1,a1,a2,a3⟩:=w50 (zbO.1 hz d (zH h1)) (h3.app [.arr 0 5 false [d.av]]) (by unfold dlT at h4;omega)
  obtain⟨y,F',G2,g1,rfl,g2,g3,g4⟩:=zr.1 (ih (j+1) _ G1 hr (by omega) a2 (by simp only[List.length_append];unfold dlT at h4⊢;omega))
  simp only[Int.natCast_add,Int.cast_ofNat_Int]at g1
  rw[zp]
  simp[zkW,zm0,zd,hlt,hx,hwr,hlast,hset,a1,g1, -getElem?_pos,gEz]
  exact⟨by simpa using g2,by simpa[dlT]using g3,((zS.app _ _).trans a3).trans g4⟩
theorem zmb {s:So} (hf:s.fine) (hp:∀p∈s.procs.l,zav p=0∧p.cost≤300) (hpl:s.procs.l.length≤32):∀(r:List Pr) (j:Nat) (q:List UInt8) (G:Heap),s.procs.l.drop j=r→j≤s.procs.l.length→Bld G 1 102 [I 0] q→q.length+(r.flatMap zbq).length≤zE→
  okC (W.loop [5,30,31,32] zoj [(5,.bptr 1 0),(30,Sl.av Pr.av 5 s.procs),(31,I s.procs.l.length),(32,I j)] G)
   (fun y F G'=>y= .exit 2∧F.keep [5]=[(5,.bptr 1 0)]∧Bld G' 1 102 [I 0] (q++r.flatMap zbq)):=by
 intro r
 induction r with
 |nil=>
  intro j q G h1 h2 h3 h4
  have hj:=zn h1 h2
  rw[zp]
  simp[zhr,zll,zd,hj, -getElem?_pos,gEz]
  exact h3
 |cons p r ih=>
  intro j q G h1 h2 h3 h4
  obtain⟨hlt,hx,hr⟩:=zF h1
  have hlt':(j:Int)<s.procs.l.length:=by omega
  have hwr:=zaa (k:=j) (by omega)
  have hlast:∀C,(G++[C])[G.length]?=some C:=zg _
  have hset:∀C D,((G++[C]).set G.length D)=G++[D]:=fun C D=>by simp
  simp only[List.flatMap_cons,List.length_append]at h4⊢
  obtain⟨hpz,hpc⟩:=hp p (zH h1)
  have hfp:=hf.2.2 p (zH h1)
  obtain⟨o1,o2,o3,o4,o5⟩:=znj hpz
  have hcc:p.cost=St.costs p.body.l:=rfl
  have n1:=zdX o3
  have n2:=zbd p.priority (by omega)
  have hj2:=w52s p.params [44,32] (by unfold comT at n1;have:=o3.1;omega)
  have hcm:zbw [44,32] p.params.l=comT p.params.l:=rfl
  rw[hcm]at hj2
  have p1:=e53 p.priority (by omega)
  have hlp:(zbq p).length=(za7 0 (pwT p.kind++[32]++p.name++[40]++comT p.params.l++[41]++(if 0<p.priority then priW++zcr p.priority else [])++[32,123])).length+(St.wts p.body.l 1).length+(za7 0 [125]).length:=by
   unfold zbq;simp only[List.length_append]
  obtain⟨G1,a1,a2,a3⟩:=w54 (d:=0) (h3.app [.arr 0 5 false [p.av]]) (by omega) (pwT p.kind++[32]++p.name++[40]++comT p.params.l++[41]++(if 0<p.priority then priW++zcr p.priority else [])++[32,123]) (by omega)
  have a4:=a3.2 _ _ _ _ _ (hlast _)
  obtain⟨G2,b1,b2,b3⟩:=zrc (St.bigs p.body.l) p.body (Nat.le_refl _) hfp.1 hfp.2.1 o5 G1 1 0 _ a2 (by omega) (by simp only[List.length_append,Nat.zero_add]at hlp⊢;omega)
  obtain⟨G3,c1,c2,c3⟩:=w54 (d:=0) b2 (by omega) [125] (by simp only[List.length_append,Nat.zero_add]at hlp⊢;omega)
  obtain⟨y,F',G4,g1,rfl,g2,g3⟩:=zr.1 (ih (j+1) (q++zbq p) G3 hr (by omega) (by unfold zbq;simpa using c2) (by simp only[List.length_append];omega))
  simp only[Int.natCast_add,Int.cast_ofNat_Int]at g1
  have hfin:F'.get 5= .bptr 1 0∧Bld G4 1 102 [I 0] (q++(zbq p++r.flatMap zbq)):=⟨by simpa using g2,by simpa using g3⟩
  clear c2 b2 a2 g3 hlp h4 ih
  generalize comT p.params.l=tc at *
  rw[zp]
  by_cases hq:0<p.priority
  .rw[if_pos hq]at a1
   simp only[priW]at a1
   rcases o1 with k|k|k<;>rw[k]at a1<;>simp[pwT]at a1<;>
   simp (disch:=(first|omega|(simp only[List.length_append,List.length_cons,List.length_nil];omega))) [zhr,zll,zd,zac,e51w,hj2,p1,k,hq,hlt,hx,hwr,hlast,hset,a1,a4,b1,c1,g1, -getElem?_pos,gEz]<;>
   exact hfin
  .rw[if_neg hq]at a1
   rcases o1 with k|k|k<;>rw[k]at a1<;>simp[pwT]at a1<;>
   simp (disch:=(first|omega|(simp only[List.length_append,List.length_cons,List.length_nil];omega))) [zhr,zll,zd,zac,e51w,hj2,k,hq,hlt,hx,hwr,hlast,hset,a1,a4,b1,c1,g1, -getElem?_pos,gEz]<;>
   exact hfin
def prtT (s:So):List UInt8:=if zaA s=0∧(zbC s).length≤4000 then zbC s else []
def prtE (s:So):Int:=if zaA s=0 then (if (zbC s).length≤4000 then 0 else 4) else zaA s
theorem w22 (s:So) (hf:s.fine):W.pure 22 [s.av]=some (.tuple [.str (prtT s),I (prtE s)]):=by
 rw[zG Φ22 (by simp)]
 have c1:=e26 s hf
 unfold prtT prtE
 by_cases hz:zaA s=0
 .rw[hz]at c1
  obtain⟨p1,p2,p3,p4,p5,p6⟩:=zff hz
  have hpc:∀p∈s.procs.l,zav p=0∧p.cost≤300:=fun p hp=>⟨p6 p hp,by have:=zjT (f:=Pr.cost) hp;omega⟩
  have l1:=zkx dlT (fun _=>252) s.decls.l (fun d hd=>by
   have:=zk1 (zbO.1 p5 d hd)
   unfold dlT
   simp only[zbv,List.length_append,List.length_cons,List.length_nil];omega)
  have l2:=zkx zbq (fun p=>12000+1400000* p.cost) s.procs.l (fun p hp=>zjK (hpc p hp).1 (hpc p hp).2)
  rw[zpH]at l1
  rw[zjk]at l2
  have hroom:zE=1073741824:=rfl
  have hb0:Bld [.arr 0 2 false [s.av],.bx 102 [.nilp,.isl (some true) 0 [],I 0]] 1 102 [I 0] []:=⟨_,_,rfl,.inl rfl,.inl ⟨rfl,rfl⟩⟩
  obtain⟨y1,F1,G1,a1,rfl,a2,a3,a4⟩:=zr.1 (zma p5 p1 s.decls.l 0 [] _ rfl (by omega) hb0 (by simp only[List.length_nil];omega))
  have a5:=a4.2 0 0 2 false [s.av] rfl
  rw[List.nil_append]at a3
  obtain⟨y2,F2,G2,b1,rfl,b2,b3⟩:=zr.1 (zmb hf hpc p2 s.procs.l 0 _ G1 rfl (by omega) a3 (by omega))
  have ht:s.decls.l.flatMap dlT++s.procs.l.flatMap zbq=zbC s:=rfl
  rw[ht]at b3
  have d1:=w56 b3
  simp only[Int.natCast_zero]at a1 b1
  by_cases hl:(zbC s).length≤4000
  .obtain⟨G3,e1⟩:=zlb b3 (zmm 0) (by omega)
   rw[if_pos ⟨hz,hl⟩,if_pos hz,if_pos hl]
   have hl':¬(4000:Int)<(zbC s).length:=by omega
   have hl2:¬4000<(zbC s).length:=by omega
   simp[fi22,c22,zi,ze,zd,resV,rvVs,rvV,c1,a1,a2,a5,b1,b2,d1,hl',hl2,e1, -getElem?_pos,gEz]
  .rw[if_neg (fun h=>hl h.2),if_pos hz,if_neg hl]
   have hl':(4000:Int)<(zbC s).length:=by omega
   have hl2:4000<(zbC s).length:=by omega
   simp[fi22,c22,zi,ze,zd,resV,rvVs,rvV,c1,a1,a2,a5,b1,b2,d1,hl',hl2, -getElem?_pos,gEz]
 .rw[if_neg (fun h=>hz h.1),if_neg hz]
  simp[fi22,c22,zi,ze,zd,resV,rvVs,rvV,c1,hz, -getElem?_pos,gEz]
theorem law6 (s:So) (hf:s.fine):W.pure 6 [s.av]=some (.bool true):=by
 rw[zG Φ6 (by simp)]
 have g1:=d20 s
 have aw:=e11
 have c1:=e26 s hf
 have c2:=w22 s hf
 cases h1:zg5 s with
 |true=>rw[h1]at g1;simp[fi6,c6,zi,ze,zd,resV,rvVs,rvV,g1,aw, -getElem?_pos,gEz]
 |false=>
 rw[h1]at g1
 by_cases hz:zaA s=0
 rotate_left
 .simp[fi6,c6,zi,ze,zd,resV,rvVs,rvV,g1,aw,c1,hz, -getElem?_pos,gEz]
 rw[hz]at c1
 unfold prtT prtE at c2
 rw[if_pos hz]at c2
 by_cases hl:(zbC s).length≤4000
 rotate_left
 .rw[if_neg (fun h=>hl h.2),if_neg hl]at c2
  simp[fi6,c6,zi,ze,zd,resV,rvVs,rvV,g1,aw,c1,c2, -getElem?_pos,gEz]
 rw[if_pos ⟨hz,hl⟩,if_pos hl]at c2
 obtain⟨p1,p2,p3,p4,p5,p6⟩:=zff hz
 have hlen:(zbC s).length=(s.decls.l.flatMap dlT).length+(s.procs.l.flatMap zbq).length:=by unfold zbC;rw[List.length_append]
 have dz:zaA ⟨s.decls,zaV⟩=0:=znf (t:=⟨s.decls,zaV⟩) hz (.inl rfl) (by simp) (by simp) (fun q hq=>by simp at hq)
 have d1:=w22 ⟨s.decls,zaV⟩ ⟨hf.1,by simp,fun q hq=>by simp at hq⟩
 have dt:zbC ⟨s.decls,zaV⟩=s.decls.l.flatMap dlT:=by unfold zbC;simp
 unfold prtT prtE at d1
 rw[if_pos ⟨dz,by rw[dt];omega⟩,if_pos dz,if_pos (by rw[dt];omega),dt]at d1
 have hso:(.agg [Sl.av Dc.av 5 s.decls,.isl (some true) 0 []]:AV)=(⟨s.decls,zaV⟩:So).av:=rfl
 have hpr:∀p∈s.procs.l,(zbq p).length≤4000→W.pure 22 [.agg [.isl (some true) 0 [],.isl (some false) 5 [p.av]]]=some (.tuple [.str (zbq p),I 0]):=by
  intro p hp hpl
  have pz:zaA ⟨zaV,ofL 5 [p]⟩=0:=znf (t:=⟨zaV,ofL 5 [p]⟩) hz (.inr rfl) (by
   have:=List.length_pos_of_mem hp
   simp;omega) (by simp;exact zjT (f:=Pr.cost) hp) (fun q hq=>by simp at hq;subst hq;exact hp)
  have:=w22 ⟨zaV,ofL 5 [p]⟩ ⟨by simp,by simp,fun q hq=>by simp at hq;subst hq;exact hf.2.2 _ hp⟩
  have pt:zbC ⟨zaV,ofL 5 [p]⟩=zbq p:=by unfold zbC;simp
  unfold prtT prtE at this
  rw[if_pos ⟨pz,by rw[pt];omega⟩,if_pos pz,if_pos (by rw[pt];omega),pt]at this
  exact this
 have hL:∀(r:List Pr) (j:Nat) (q:List UInt8) (G:Heap),s.procs.l.drop j=r→j≤s.procs.l.length→q.length+(r.flatMap zbq).length≤4000→
   okC (W.loop [3,5,41,42,43] l6_0 [(3,.str (zbC s)),(5,.str q),(41,Sl.av Pr.av 5 s.procs),(42,I s.procs.l.length),(43,I j)] G)
    (fun y F G'=>y= .exit 0∧F.keep [3,5]=[(3,.str (zbC s)),(5,.str (q++r.flatMap zbq))]):=by
  intro r
  induction r with
  |nil=>
   intro j q G h1 h2 h4
   have hj:=zn h1 h2
   rw[zp]
   simp[znu,b6_0,zd,hj, -getElem?_pos,gEz]
  |cons p r ih=>
   intro j q G h1 h2 h4
   obtain⟨hlt,hx,hr⟩:=zF h1
   have hlt':(j:Int)<s.procs.l.length:=by omega
   have hwr:=zaa (k:=j) (by omega)
   have hlast:∀C,(G++[C])[G.length]?=some C:=zg _
   have hset:∀C D,((G++[C]).set G.length D)=G++[D]:=fun C D=>by simp
   simp only[List.flatMap_cons,List.length_append]at h4⊢
   have k1:=hpr p (zH h1) (by omega)
   obtain⟨y,F',G2,g1,rfl,g2⟩:=zr.1 (ih (j+1) (q++zbq p) (G++[.arr 0 5 false [p.av]]) hr (by omega) (by simp only[List.length_append];omega))
   simp only[Int.natCast_add,Int.cast_ofNat_Int]at g1
   rw[zp]
   simp (disch:=omega) [znu,b6_0,zd,zac,hlt,hx,hwr,hlast,hset,k1,g1, -getElem?_pos,gEz]
   simpa using g2
 obtain⟨y,F,G,f1,rfl,f2⟩:=zr.1 (hL s.procs.l 0 (s.decls.l.flatMap dlT) [.arr 0 2 false [s.av]] rfl (by omega) (by omega))
 have ht:s.decls.l.flatMap dlT++s.procs.l.flatMap zbq=zbC s:=rfl
 rw[ht]at f2
 simp only[Int.natCast_zero]at f1
 rw[←hso]at d1
 have hb:∀a:List UInt8,zV .eql a a= .bool true:=fun a=>by simp[zV]
 simp[fi6,c6,zi,ze,zd,resV,rvVs,rvV,g1,aw,c1,c2,d1,f1,f2,hb, -getElem?_pos,gEz]
end
end Go.Proofs.YtgamobngbenehaaGreatDoor
