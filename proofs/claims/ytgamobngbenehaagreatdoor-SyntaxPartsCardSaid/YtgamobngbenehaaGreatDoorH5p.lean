/-
  What the writer writes of statements (conditions: none).
-/
import Derived.Test.YtgamobngbenehaaGreatDoorH4p
namespace Go.Proofs.YtgamobngbenehaaGreatDoor
open Go Go.RowKit
set_option linter.unusedVariables false
set_option linter.unusedSimpArgs false
set_option maxRecDepth 10000
set_option maxHeartbeats 4000000
def blkK (k:Int):Bool:=decide (k=3)||decide (k=4)||decide (k=5)||decide (k=14)||decide (k=15)||decide (k=20)
def casT (c:Cs):List UInt8:=
 if c.kind=1 then [115,101,110,100,32]++c.name++[44,32]++zbk c.expr
 else if c.kind=2 then [114,101,99,101,105,118,101,32]++c.name++behT c.names.l
 else [100,101,102,97,117,108,116]
def elsW:List UInt8:=[125,32,101,108,115,101,32,123]
mutual
def St.wt:St→Nat→List UInt8
 | .mk a b c ns e f g bl h i el j k cl,d=>
  if blkK a=true then za7 d (zhl (.mk a b c ns e f g bl h i el j k cl)++[32,123])++St.wts bl (d+1)++Cs.wts cl (d+1)++(if el.isEmpty then [] else za7 d elsW++St.wts el (d+1))++za7 d [125]
  else za7 d (simT (.mk a b c ns e f g bl h i el j k cl)++[59])
def St.wts:List St→Nat→List UInt8
 | [],_=> []
 |x::r,d=>St.wt x d++St.wts r d
def Cs.wt:Cs→Nat→List UInt8
 | .mk a b e ns f g bl,d=>za7 d (casT (.mk a b e ns f g bl)++[32,123])++St.wts bl (d+1)++za7 d [125]
def Cs.wts:List Cs→Nat→List UInt8
 | [],_=> []
 |x::r,d=>Cs.wt x d++Cs.wts r d
end
theorem St.wt_eq (x:St) (d:Nat):x.wt d=if blkK x.kind=true then za7 d (zhl x++[32,123])++St.wts x.body.l (d+1)++Cs.wts x.cs.l (d+1)++(if x.els.l.isEmpty then [] else za7 d elsW++St.wts x.els.l (d+1))++za7 d [125]
  else za7 d (simT x++[59]):=by cases x;simp only[St.wt];rfl
theorem Cs.wt_eq (c:Cs) (d:Nat):c.wt d=za7 d (casT c++[32,123])++St.wts c.body.l (d+1)++za7 d [125]:=by cases c;simp only[Cs.wt];rfl
def Cs.sm (c:Cs):Prop:=c.name.length≤100∧ziH c.names.l
structure St.wok (x:St):Prop where
 sm:x.sm
 sc:x.kind=14→2≤x.exprs.l.length
 cs:∀c∈x.cs.l,c.sm
theorem zmV {c:Cs} (h:c.sm):(casT c).length≤20500:=by
 have n1:=zbx c.expr
 have n2:=zdZ h.2
 have n3:=h.1
 unfold casT
 split
 .simp;omega
 .split
  .simp;omega
  .simp
def WnOk (l:Sl St):Prop:=∀(H:Heap) (id d:Nat) (s:List UInt8),Bld H id 102 [I d] s→d+St.costs l.l≤100000→s.length+(St.wts l.l (d+1)).length≤zE→
 ∃H',W.call (.clo 55 [] []) [.bptr id 0,Sl.av St.av 8 l] H=some (.tuple [],H')∧Bld H' id 102 [I d] (s++St.wts l.l (d+1))∧zS H H'
def WsOk (x:St):Prop:=∀(H:Heap) (id d:Nat) (s:List UInt8),Bld H id 102 [I d] s→d+x.cost≤100001→s.length+(x.wt d).length≤zE→
 ∃H',W.call (.clo 110 [] []) [.bptr id 0,x.av] H=some (.tuple [],H')∧Bld H' id 102 [I d] (s++x.wt d)∧zS H H'
def WcOk (c:Cs):Prop:=∀(H:Heap) (id d:Nat) (s:List UInt8),Bld H id 102 [I d] s→d+c.cost≤100001→s.length+(c.wt d).length≤zE→
 ∃H',W.call (.clo 160 [] []) [.bptr id 0,c.av] H=some (.tuple [],H')∧Bld H' id 102 [I d] (s++c.wt d)∧zS H H'
theorem zdY {H:Heap} {id t:Nat} {r r':List AV} {s:List UInt8} (h:Bld H id t r s):∃c0 buf,H[id]?=some (.bx t (c0::buf::r))∧Bld (H.set id (.bx t (c0::buf::r'))) id t r' s∧zS H (H.set id (.bx t (c0::buf::r'))):=by
 obtain⟨c0,buf,h1,h2,h3⟩:=h
 have hid:=(gEs.1 h1).1
 exact⟨c0,buf,h1,⟨c0,buf,gEt hid,h2,h3.set _⟩,zS.setN h1 (by simp)⟩
section
attribute [local irreducible] okC okV
theorem zrd {l:Sl St} (hl:l.l.length≤9223372036854775807) (hw:∀x∈l.l,WsOk x):WnOk l:=by
 intro H id d s hb hd hs
 obtain⟨c0,buf,b1,b2,b3⟩:=zdY (r':=[I ((d:Int)+1)]) hb
 rw[zL Φ55]
 have hL:∀(r:List St) (j:Nat) (s:List UInt8) (G:Heap),l.l.drop j=r→j≤l.l.length→Bld G id 102 [I ((d+1:Nat):Int)] s→s.length+(St.wts r (d+1)).length≤zE→
   okC (W.loop [0,13,14,15] zog [(0,.bptr id 0),(13,Sl.av St.av 8 l),(14,I l.l.length),(15,I j)] G)
    (fun y F G'=>y= .exit 0∧F.keep [0]=[(0,.bptr id 0)]∧Bld G' id 102 [I ((d+1:Nat):Int)] (s++St.wts r (d+1))∧zS G G'):=by
  intro r
  induction r with
  |nil=>
   intro j s G h1 h2 h3 h4
   have hj:=zn h1 h2
   rw[zp]
   simp[zkV,zmZ,zd,hj, -getElem?_pos,gEz]
   simp only[St.wts,List.append_nil]
   exact⟨h3,zS.refl _⟩
  |cons x r ih=>
   intro j s G h1 h2 h3 h4
   obtain⟨hlt,hx,hr⟩:=zF h1
   have hlt':(j:Int)<l.l.length:=by omega
   have hwr:IntKind.wrap .i64 ((j:Int)+1)=(j:Int)+1:=by rw[zQ]<;>omega
   have hlast:∀C,(G++[C])[G.length]?=some C:=zg _
   have hset:∀C D,((G++[C]).set G.length D)=G++[D]:=fun C D=>by simp
   simp only[St.wts,List.length_append]at h4⊢
   have hxm:=St.costs_mem (zH h1)
   have hxc:=St.cost_eq x
   obtain⟨G1,a1,a2,a3⟩:=hw x (zH h1) (G++[.arr 0 8 false [x.av]]) id (d+1) s (h3.app _) (by omega) (by omega)
   obtain⟨y,F',G2,g1,rfl,g2,g3,g4⟩:=zr.1 (ih (j+1) _ G1 hr (by omega) a2 (by simp;omega))
   simp only[Int.natCast_add,Int.cast_ofNat_Int]at g1
   rw[zp]
   simp[zkV,zmZ,zd,hlt,hx,hwr,hlast,hset,a1,g1, -getElem?_pos,gEz]
   exact⟨by simpa using g2,by simpa using g3,((zS.app _ _).trans a3).trans g4⟩
 obtain⟨y,F,G,g1,rfl,g2,g3,g4⟩:=zr.1 (hL l.l 0 s _ rfl (by omega) (by simpa using b2) hs)
 obtain⟨c1,buf1,e1,e2,e3⟩:=zdY (r':=[I (d:Int)]) g3
 refine⟨_,?_,e2,(b3.trans g4).trans e3⟩
 have hw1:IntKind.wrap .i64 ((d:Int)+1)=(d:Int)+1:=by rw[zQ]<;>omega
 have hw2:IntKind.wrap .i64 ((d:Int))=(d:Int):=by rw[zQ]<;>omega
 have hw3:IntKind.wrap .i64 ((d:Int)+1 - 1)=(d:Int):=by rw[zQ]<;>omega
 simp only[Int.natCast_zero,Int.natCast_add,Int.cast_ofNat_Int]at g1 e1
 simp[fi55,c55,zi,ze,zd,resV,rvVs,rvV,splice,b1,hw1,hw2,hw3,g1,g2,e1, -getElem?_pos,gEz]
theorem w190 (x:Sl Int) (k:Int) (hl:x.l.length≤1000):∃n:Int,W.pure 190 [Sl.av I 1 x,I k]=some (I n)∧decide (0≤n)=x.l.any fun a=>decide (k=a):=by
 rw[zG Φ190 (by simp)]
 have hL1:=zfn (Φ:=Φ) (live:=[0,1,7,8]) (L:=zkc) x.l (σ:=Unit) (ρ:=Unit) (fun _ a _=>if (fun a:Int=>decide (k=a)) a=true then .inr () else .inl ())
  (fun c _ F G=>F=[(0,Sl.av I 1 x),(1,I k),(7,I x.l.length),(8,I c)]∧G=[])
  (fun _ y F G=>y= .ret∧G=[]∧∃n:Nat,F.get 4=I n)
  (fun _ y F G=>y= .exit 0∧G=[]) (s:=()) (F:=[(0,Sl.av I 1 x),(1,I k),(7,I x.l.length),(8,I 0)]) (H:=[]) ⟨rfl,rfl⟩ ?_ ?_
 .rw[zee]at hL1
  obtain⟨y1,F1,H1,e1,e2⟩:=zr.1 hL1
  cases h3:x.l.any fun a=>decide (k=a) with
  |true=>
   rw[h3]at e2
   obtain⟨rfl,rfl,n,e2⟩:y1= .ret∧H1=[]∧∃n:Nat,F1.get 4=I n:=e2
   refine⟨n,?_,by simp⟩
   simp[zkH,c190,zi,ze,zd,resV,rvVs,rvV,e1,e2, -getElem?_pos,gEz]
  |false=>
   rw[h3]at e2
   obtain⟨rfl,rfl⟩:y1= .exit 0∧H1=[]:=e2
   refine⟨-1,?_,by simp⟩
   simp[zkH,c190,zi,ze,zd,resV,rvVs,rvV,e1, -getElem?_pos,gEz]
 .rintro c a ⟨⟩ F G hk hp ⟨rfl,rfl⟩
  have hw:=zaa (k:=c) (by omega)
  by_cases hz:k=a
  .rw[if_pos (show (fun a:Int=>decide (k=a)) a=true from decide_eq_true hz)]
   simp[zfx,zgT,zd,hk,hp,hw,hz, -getElem?_pos,gEz]
   exact⟨c,rfl⟩
  .rw[if_neg (show ¬(fun a:Int=>decide (k=a)) a=true by simpa using hz)]
   simp[zfx,zgT,zd,hk,hp,hw,hz, -getElem?_pos,gEz]
 .rintro⟨⟩ F G ⟨rfl,rfl⟩
  simp[zfx,zgT,zd, -getElem?_pos,gEz]
theorem ztc (k:Int):W.pure 157 [.isl (some false) 1 [I 3,I 4,I 5,I 14,I 15,I 20],I k]=some (.bool (blkK k)):=by
 obtain⟨n,h1,h2⟩:=w190 (ofL 1 [3,4,5,14,15,20]) k (by simp)
 have e:(Sl.av I 1 (ofL 1 [3,4,5,14,15,20]):AV)= .isl (some false) 1 [I 3,I 4,I 5,I 14,I 15,I 20]:=rfl
 rw[e]at h1
 have hb:blkK k=decide (0≤n):=by
  rw[h2]
  simp only[blkK,ofL,List.any_cons,List.any_nil,Bool.or_false,Bool.or_assoc]
 rw[zG Φ157 (by simp),hb]
 simp[zmD,c157,zi,ze,zd,resV,rvVs,rvV,h1, -getElem?_pos,gEz]
theorem zre {c:Cs} (hs:c.sm) (hw:WnOk c.body):WcOk c:=by
 intro H id d s hb hd hl
 have hce:=Cs.cost_eq c
 rw[c.wt_eq]at hl⊢
 simp only[List.length_append]at hl
 have n1:=zbx c.expr
 have n2:=zdZ hs.2
 have n3:=hs.1
 have t1:=e194 c.expr
 have t2:=w193 c.names hs.2
 have hlast:∀C,(H++[C])[H.length]?=some C:=zg _
 obtain⟨H1,a1,a2,a3⟩:=w54 (hb.app [.arr 0 9 false [c.av]]) (by omega) (casT c++[32,123]) (by omega)
 have a4:H1[H.length]?=some (.arr 0 9 false [c.av]):=a3.2 _ _ _ _ _ (hlast _)
 obtain⟨H2,b1,b2,b3⟩:=hw H1 id d _ a2 (by omega) (by simp only[List.length_append];omega)
 obtain⟨H3,c1,c2,c3⟩:=w54 b2 (by omega) [125] (by simp only[List.length_append];omega)
 refine⟨H3,?_,by simpa using c2,(((zS.app _ _).trans a3).trans b3).trans c3⟩
 rw[zL Φ160]
 unfold casT at a1
 by_cases h1:c.kind=1
 .rw[if_pos h1]at a1
  simp at a1
  simp (disch:=(first|omega|(simp only[List.length_append,List.length_cons,List.length_nil];omega))) [ziU,c160,zi,ze,zd,resV,rvVs,rvV,hlast,h1,zac,t1,a1,a4,b1,c1, -getElem?_pos,gEz]
 rw[if_neg h1]at a1
 by_cases h2:c.kind=2
 .rw[if_pos h2]at a1
  simp at a1
  simp (disch:=(first|omega|(simp only[List.length_append,List.length_cons,List.length_nil];omega))) [ziU,c160,zi,ze,zd,resV,rvVs,rvV,hlast,h1,h2,zac,t2,a1,a4,b1,c1, -getElem?_pos,gEz]
 .rw[if_neg h2]at a1
  simp at a1
  simp (disch:=(first|omega|(simp only[List.length_append,List.length_cons,List.length_nil];omega))) [ziU,c160,zi,ze,zd,resV,rvVs,rvV,hlast,h1,h2,zac,a1,a4,b1,c1, -getElem?_pos,gEz]
theorem zn3 {x:St} (hxl:x.cs.l.length≤9223372036854775807) (hc:∀c∈x.cs.l,WcOk c) (id d b:Nat) (hd:d+x.cost≤100001):∀(r:List Cs) (j:Nat) (s:List UInt8) (G:Heap),x.cs.l.drop j=r→j≤x.cs.l.length→Bld G id 102 [I ((d+1:Nat):Int)] s→s.length+(Cs.wts r (d+1)).length≤zE→
  okC (W.loop [0,3,35,36,37] zkk [(0,.bptr id 0),(3,.optr b 0 0 0),(35,Sl.av Cs.av 9 x.cs),(36,I x.cs.l.length),(37,I j)] G)
   (fun y F G'=>y= .exit 0∧F.keep [0,3]=[(0,.bptr id 0),(3,.optr b 0 0 0)]∧Bld G' id 102 [I ((d+1:Nat):Int)] (s++Cs.wts r (d+1))∧zS G G'):=by
 have hxc:=St.cost_eq x
 intro r
 induction r with
 |nil=>
  intro j s G h1 h2 h3 h4
  have hj:=zn h1 h2
  rw[zp]
  simp[zh8,zig,zd,hj, -getElem?_pos,gEz]
  simp only[Cs.wts,List.append_nil]
  exact⟨h3,zS.refl _⟩
 |cons c r ih=>
  intro j s G h1 h2 h3 h4
  obtain⟨hlt,hx,hr⟩:=zF h1
  have hlt':(j:Int)<x.cs.l.length:=by omega
  have hwr:IntKind.wrap .i64 ((j:Int)+1)=(j:Int)+1:=by rw[zQ]<;>omega
  have hlast:∀C,(G++[C])[G.length]?=some C:=zg _
  have hset:∀C D,((G++[C]).set G.length D)=G++[D]:=fun C D=>by simp
  simp only[Cs.wts,List.length_append]at h4⊢
  have hcm:=Cs.costs_mem (zH h1)
  obtain⟨G1,a1,a2,a3⟩:=hc c (zH h1) (G++[.arr 0 9 false [c.av]]) id (d+1) s (h3.app _) (by omega) (by omega)
  obtain⟨y,F',G2,g1,rfl,g2,g3,g4⟩:=zr.1 (ih (j+1) _ G1 hr (by omega) a2 (by simp;omega))
  simp only[Int.natCast_add,Int.cast_ofNat_Int]at g1
  rw[zp]
  simp[zh8,zig,zd,hlt,hx,hwr,hlast,hset,a1,g1, -getElem?_pos,gEz]
  exact⟨by simpa using g2,by simpa using g3,((zS.app _ _).trans a3).trans g4⟩
theorem zra {x:St} (hx:x.wok) (hxl:x.cs.l.length≤9223372036854775807) (hb:WnOk x.body) (he:WnOk x.els) (hc:∀c∈x.cs.l,WcOk c):WsOk x:=by
 intro H id d s hB hd hl
 have hxc:=St.cost_eq x
 have hlast:∀C,(H++[C])[H.length]?=some C:=zg _
 have hk:=ztc x.kind
 rw[x.wt_eq]at hl⊢
 rw[zL Φ110]
 by_cases hbk:blkK x.kind=true
 .rw[if_pos hbk]at hl⊢
  rw[hbk]at hk
  simp only[List.length_append]at hl
  have n1:=zgt hx.sm
  have c1:=w159 x hx.sm hx.sc
  have hnc:=hx.cs
  obtain⟨H1,a1,a2,a3⟩:=w54 (hB.app [.arr 0 8 false [x.av]]) (by omega) (zhl x++[32,123]) (by omega)
  have a4:H1[H.length]?=some (.arr 0 8 false [x.av]):=a3.2 _ _ _ _ _ (hlast _)
  obtain⟨H2,b1,b2,b3⟩:=hb H1 id d _ a2 (by omega) (by simp only[List.length_append];omega)
  have b4:H2[H.length]?=some (.arr 0 8 false [x.av]):=b3.2 _ _ _ _ _ a4
  obtain⟨c0,buf,d1,d2,d3⟩:=zdY (r':=[I ((d:Int)+1)]) b2
  obtain⟨y,F,H3,g1,rfl,g2,g3,g4⟩:=zr.1 (zn3 hxl hc id d H.length hd x.cs.l 0 _ _ rfl (by omega) (by simpa using d2) (by simp only[List.length_append];omega))
  have g5:=(d3.trans g4).2 _ _ _ _ _ b4
  have d4:=d3.2 _ _ _ _ _ b4
  obtain⟨c2,buf2,f1,f2,f3⟩:=zdY (r':=[I (d:Int)]) g3
  have f4:=f3.2 _ _ _ _ _ g5
  have hw1:IntKind.wrap .i64 ((d:Int)+1)=(d:Int)+1:=by rw[zQ]<;>omega
  have hw2:IntKind.wrap .i64 ((d:Int))=(d:Int):=by rw[zQ]<;>omega
  have hw3:IntKind.wrap .i64 ((d:Int)+1 - 1)=(d:Int):=by rw[zQ]<;>omega
  simp only[Int.natCast_zero,Int.natCast_add,Int.cast_ofNat_Int]at g1 f1
  have hle:0<x.els.l.length↔¬x.els.l=[]:=List.length_pos_iff
  by_cases hel:x.els.l=[]
  .have e0:x.els.l.isEmpty=true:=by rw[hel];rfl
   rw[e0]at hl⊢
   simp only[if_true,List.append_nil]at hl⊢
   obtain⟨H5,k1,k2,k3⟩:=w54 f2 (by omega) [125] (by simp only[List.length_append];omega)
   refine⟨H5,?_,by simpa using k2,((((((zS.app _ _).trans a3).trans b3).trans d3).trans g4).trans f3).trans k3⟩
   simp (disch:=(first|omega|(simp only[List.length_append,List.length_cons,List.length_nil];omega))) [ziW,c110,zi,ze,zd,resV,rvVs,rvV,splice,hlast,hk,c1,zac,a1,a4,b1,b4,d1,d4,hw1,hw2,hw3,g1,g2,g5,f1,f4,hel,k1, -getElem?_pos,gEz]
  .have e0:x.els.l.isEmpty=false:=by
    cases hx:x.els.l with
    |nil=>exact absurd hx hel
    |cons _ _=>rfl
   rw[e0]at hl⊢
   simp only[Bool.false_eq_true,if_false,List.length_append]at hl⊢
   obtain⟨H5,k1,k2,k3⟩:=w54 f2 (by omega) elsW (by simp only[List.length_append];omega)
   have k4:=k3.2 _ _ _ _ _ f4
   obtain⟨H6,m1,m2,m3⟩:=he H5 id d _ k2 (by omega) (by simp only[List.length_append];omega)
   obtain⟨H7,o1,o2,o3⟩:=w54 m2 (by omega) [125] (by simp only[List.length_append];omega)
   refine⟨H7,?_,by simpa using o2,((((((((zS.app _ _).trans a3).trans b3).trans d3).trans g4).trans f3).trans k3).trans m3).trans o3⟩
   simp only[elsW]at k1
   simp (disch:=(first|omega|(simp only[List.length_append,List.length_cons,List.length_nil];omega))) [ziW,c110,zi,ze,zd,resV,rvVs,rvV,splice,hlast,hk,c1,zac,a1,a4,b1,b4,d1,d4,hw1,hw2,hw3,g1,g2,g5,f1,f4,hel,k1,k4,m1,o1, -getElem?_pos,gEz]
 .rw[if_neg hbk]at hl⊢
  have hbk:blkK x.kind=false:=by simpa using hbk
  rw[hbk]at hk
  have n1:=zhL hx.sm
  have c1:=w158 x hx.sm
  obtain⟨H1,a1,a2,a3⟩:=w54 (hB.app [.arr 0 8 false [x.av]]) (by omega) (simT x++[59]) hl
  refine⟨H1,?_,a2,(zS.app _ _).trans a3⟩
  simp (disch:=(first|omega|(simp only[List.length_append,List.length_cons,List.length_nil];omega))) [ziW,c110,zi,ze,zd,resV,rvVs,rvV,hlast,hk,c1,zac,a1, -getElem?_pos,gEz]
end
end Go.Proofs.YtgamobngbenehaaGreatDoor
