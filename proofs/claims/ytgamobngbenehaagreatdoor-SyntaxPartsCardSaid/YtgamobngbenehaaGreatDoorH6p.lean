/-
  The text of a source: syntax.Print (conditions: none).
-/
import Derived.Test.YtgamobngbenehaaGreatDoorBDp
import Derived.Test.YtgamobngbenehaaGreatDoorH5p
namespace Go.Proofs.YtgamobngbenehaaGreatDoor
open Go Go.RowKit
set_option linter.unusedVariables false
set_option linter.unusedSimpArgs false
set_option maxRecDepth 10000
set_option maxHeartbeats 4000000
theorem zaX {s:List UInt8} (h:zT s=true):s.length≤30:=by
 unfold zT at h
 rw[Bool.and_eq_true]at h
 exact zh0 h.1
theorem zlP (k op:Int):(rsh k op).name=0∨(rsh k op).name=1∨(rsh k op).name=2:=by
 unfold rsh
 repeat' split
 all_goals first|exact .inl rfl|exact .inr (.inl rfl)|exact .inr (.inr rfl)
theorem zpI {x:St} (h:zaF x=0):x.wok:=by
 rw[←zlV]at h
 unfold znO at h
 split at h
 .rename_i h1;exact absurd h h1
 split at h
 .cases h
 rename_i h2
 have h2:zes x=true:=by simpa using h2
 split at h
 .rename_i h1;exact absurd h h1
 rename_i h3
 have h3:zeH x=0:=by simpa using h3
 obtain⟨f1,f2,f3,f4⟩:=zjE h2
 have h2':=h2
 unfold zes at h2
 split at h2
 .cases h2
 rename_i g1
 unfold zeH at h3
 split at h3
 .cases h3
 rename_i n1
 split at h3
 .cases h3
 rename_i n2
 have n2:(x.names.l++x.cs.l.flatMap fun c=>if c.kind=3 then [] else c.name::c.names.l).all zT=true:=by
  cases hb:(x.names.l++x.cs.l.flatMap fun c=>if c.kind=3 then [] else c.name::c.names.l).all zT with
  |true=>rfl
  |false=>exact absurd hb n2
 rw[List.all_eq_true]at n2
 have hnm:x.name.length≤100:=by
  have key:x.name=[]∨zT x.name=true:=by
   cases hb:zT x.name with
   |true=>exact .inr rfl
   |false=>
    refine .inl ?_
    cases hn:x.name with
    |nil=>rfl
    |cons a r=>
     exfalso
     have hne:¬x.name=[]:=by rw[hn];simp
     rcases zlP x.kind x.op with e|e|e
     .exact g1 (.inl ⟨e,hne⟩)
     .exact n1 ⟨.inl e,hb⟩
     .exact n1 ⟨.inr ⟨e,hne⟩,hb⟩
  rcases key with e|e
  .rw[e];simp
  .have:=zaX e;omega
 refine⟨⟨hnm,by omega,by omega,fun s hs=>?_⟩,fun hk=>?_,fun c hc=>?_⟩
 .have:=zaX (n2 s (by simp[hs]));omega
 .have e3:((rsh x.kind x.op).e0≤x.exprs.l.length∧(x.exprs.l.length:Int)≤(rsh x.kind x.op).e1):=Decidable.byContradiction fun e=>g1 (.inr (.inr (.inl e)))
  have:(rsh x.kind x.op).e0=2:=by rw[hk];rfl
  omega
 .have f4c:=f4 c hc
  by_cases hk:c.kind=3
  .have hb:rBad c=false:=by
    split at h2
    .have:=of_decide_eq_true h2
     rw[List.length_eq_zero_iff.1 this]at hc;cases hc
    .split at h2
     .cases h2
     .rename_i hb
      cases hbc:rBad c with
      |false=>rfl
      |true=>exact absurd (List.any_eq_true.2 ⟨c,hc,hbc⟩) hb
   have hn:c.name=[]∧c.names.l.length=0:=by
    unfold rBad at hb
    simp[hk]at hb
    exact⟨hb.1.1,by simp[hb.2]⟩
   refine⟨by rw[hn.1];simp,by omega,fun s hs=>?_⟩
   rw[List.length_eq_zero_iff.1 hn.2]at hs;cases hs
  .have hall:∀s∈c.name::c.names.l,zT s=true:=fun s hs=>n2 s (by
    rw[List.mem_append]
    refine .inr (List.mem_flatMap.2 ⟨c,hc,?_⟩)
    rw[if_neg hk];exact hs)
   refine⟨by have:=zaX (hall c.name (by simp));omega,by omega,fun s hs=>by have:=zaX (hall s (by simp[hs]));omega⟩
theorem zrc:∀(n:Nat) (l:Sl St),St.bigs l.l≤n→St.fines l.l→l.l.length≤9223372036854775807→(∀y∈St.pres l.l,y.wok)→WnOk l:=by
 intro n
 induction n using Nat.strongRecOn with
 |ind n ihn=>
  intro l hn hf hl hv
  refine zrd hl fun x hx=>?_
  have hfx:=St.fines_mem hf hx
  rw[St.fine_eq]at hfx
  have hbig:=St.bigs_mem hx
  rw[St.big_eq]at hbig
  have hvx:∀y∈x.pre,y.wok:=by
   intro y hy
   refine hv y ?_
   generalize l.l=L at hx
   induction L with
   |nil=>cases hx
   |cons a r ih=>
    simp only[St.pres,List.mem_append]
    cases hx with
    |head=>exact .inl hy
    |tail _ hx=>exact .inr (ih hx)
  rw[St.pre_eq]at hvx
  refine zra (hvx x (by simp)) hfx.2.2.2.2.1 (ihn (St.bigs x.body.l) (by omega) x.body (Nat.le_refl _) hfx.2.2.2.2.2.1 hfx.2.2.1 (fun y hy=>hvx y (by simp[hy])))
   (ihn (St.bigs x.els.l) (by omega) x.els (Nat.le_refl _) hfx.2.2.2.2.2.2.1 hfx.2.2.2.1 (fun y hy=>hvx y (by simp[hy]))) fun c hc=>?_
  have q1:=Cs.bigs_mem hc
  rw[Cs.big_eq]at q1
  have q2:=Cs.fines_mem hfx.2.2.2.2.2.2.2 hc
  rw[Cs.fine_eq]at q2
  refine zre ((hvx x (by simp)).cs c hc) (ihn (St.bigs c.body.l) (by omega) c.body (Nat.le_refl _) q2.2.2 q2.2.1 (fun y hy=>hvx y (by
   simp only[List.mem_cons,List.mem_append]
   refine .inr (.inr (.inr ?_))
   rw[Cs.pres_flat]
   exact List.mem_flatMap.2 ⟨c.body,List.mem_map.2 ⟨c,hc,rfl⟩,hy⟩)))
mutual
theorem St.wt_len:∀(x:St) (d:Nat),(∀y∈x.pre,y.wok)→d+x.cost≤1001→(x.wt d).length≤1400000* x.cost
 | .mk a b c ns e f g bl h i el j k cl,d,hv,hd=>by
  have h0:=hv _ (by simp only[St.pre];exact List.mem_cons_self)
  simp only[St.pre,List.mem_cons,List.mem_append]at hv
  simp only[St.cost]at hd⊢
  have h1:=St.wts_len bl (d+1) (fun y hy=>hv y (.inr (.inl hy))) (by omega)
  have h2:=St.wts_len el (d+1) (fun y hy=>hv y (.inr (.inr (.inl hy)))) (by omega)
  have h3:=Cs.wts_len cl (d+1) h0.cs (fun y hy=>hv y (.inr (.inr (.inr hy)))) (by omega)
  have n1:=zgt h0.sm
  have n2:=zhL h0.sm
  simp only[St.wt,Nat.mul_add]
  split
  .have e8:elsW.length=8:=rfl
   split<;>simp only[List.length_append,zbv,List.length_cons,List.length_nil]<;>omega
  .simp only[List.length_append,zbv,List.length_cons,List.length_nil];omega
theorem St.wts_len:∀(l:List St) (d:Nat),(∀y∈St.pres l,y.wok)→d+St.costs l≤1001→(St.wts l d).length≤1400000* St.costs l
 | [],d,_,_=>by simp[St.wts]
 |x::r,d,hv,hd=>by
  simp only[St.pres,List.mem_append]at hv
  simp only[St.costs]at hd⊢
  have h1:=St.wt_len x d (fun y hy=>hv y (.inl hy)) (by omega)
  have h2:=St.wts_len r d (fun y hy=>hv y (.inr hy)) (by omega)
  simp only[St.wts,List.length_append,Nat.mul_add]
  omega
theorem Cs.wt_len:∀(x:Cs) (d:Nat),x.sm→(∀y∈x.pre,y.wok)→d+x.cost≤1001→(x.wt d).length≤1400000* x.cost
 | .mk a b e ns f g bl,d,hs,hv,hd=>by
  simp only[Cs.pre]at hv
  simp only[Cs.cost]at hd⊢
  have h1:=St.wts_len bl (d+1) hv (by omega)
  have n1:=zmV hs
  simp only[Cs.wt,List.length_append,zbv,List.length_cons,List.length_nil,Nat.mul_add]
  omega
theorem Cs.wts_len:∀(l:List Cs) (d:Nat),(∀c∈l,c.sm)→(∀y∈Cs.pres l,y.wok)→d+Cs.costs l≤1001→(Cs.wts l d).length≤1400000* Cs.costs l
 | [],d,_,_,_=>by simp[Cs.wts]
 |x::r,d,hs,hv,hd=>by
  simp only[Cs.pres,List.mem_append]at hv
  simp only[Cs.costs]at hd⊢
  have h1:=Cs.wt_len x d (hs x (by simp)) (fun y hy=>hv y (.inl hy)) (by omega)
  have h2:=Cs.wts_len r d (fun c hc=>hs c (by simp[hc])) (fun y hy=>hv y (.inr hy)) (by omega)
  simp only[Cs.wts,List.length_append,Nat.mul_add]
  omega
end
def zhy (d:Dc):List UInt8:=
 zh9 d.kind++[32]++d.name++
  (if d.kind=101∨d.kind=102 then [32,61,32]++zcr d.a
   else if d.kind=3 then [32,111,110,32]++d.name2
   else if d.kind=4 then [32]++zcr d.a++(if d.b=1 then [32,97,110,121] else [])
   else if d.kind=5∨d.kind=6∨d.kind=7 then [32]++zcr d.a
   else if d.kind=8 then [32]++zcr d.a++[32,101,118,101,114,121,32]++zcr d.b
   else [])
theorem zqU {d:Dc} (h:zC d=0):d.name.length≤30∧d.name2.length≤30∧(-1099511627776≤d.a∧d.a≤1099511627776)∧(0≤d.b∧d.b≤1099511627776):=by
 unfold zC at h
 split at h
 .cases h
 rename_i lo hi b two hlim
 have hr:(-1099511627776≤lo∧hi≤1099511627776)∧b≤1099511627776:=by
  unfold zcB at hlim
  repeat' split at hlim
  all_goals first
   |(simp only[Option.some.injEq,Prod.mk.injEq]at hlim;omega)
   |cases hlim
 split at h
 .cases h
 rename_i h1
 split at h
 .cases h
 rename_i h2
 split at h
 .cases h
 rename_i h3
 have hn:zT d.name=true:=by
  cases hb:zT d.name with
  |true=>rfl
  |false=>exact absurd (.inl hb) h2
 refine⟨zaX hn,?_,by omega,by omega⟩
 cases two with
 |false=>
  have:d.name2=[]:=Decidable.byContradiction fun e=>h1 (.inr ⟨rfl,e⟩)
  rw[this];simp
 |true=>
  have hn:zT d.name2=true:=by
   cases hb:zT d.name2 with
   |true=>rfl
   |false=>exact absurd (.inr ⟨rfl,hb⟩) h2
  exact zaX hn
theorem zk1 {d:Dc} (h:zC d=0):(zhy d).length≤250:=by
 obtain⟨h1,h2,h3,h4⟩:=zqU h
 have n1:=ze0 d.kind
 have n2:=zbd d.a h3
 have n3:=zbd d.b (by omega)
 unfold zhy
 simp only[List.length_append,List.length_cons,List.length_nil]
 repeat' split
 all_goals simp only[List.length_append,List.length_cons,List.length_nil]
 all_goals (try split)
 all_goals (try simp only[List.length_append,List.length_cons,List.length_nil])
 all_goals omega
section
attribute [local irreducible] okC okV
theorem w50 {d:Dc} (hz:zC d=0) {H:Heap} {id:Nat} {s:List UInt8} (hb:Bld H id 102 [I 0] s) (hl:s.length+(za7 0 (zhy d++[59])).length≤zE):
  ∃H',W.call (.clo 50 [] []) [.bptr id 0,d.av] H=some (.tuple [],H')∧Bld H' id 102 [I 0] (s++za7 0 (zhy d++[59]))∧zS H H':=by
 obtain⟨h1,h2,h3,h4⟩:=zqU hz
 have n1:=ze0 d.kind
 have n2:=zbd d.a h3
 have n3:=zbd d.b (by omega)
 have p1:=e53 d.a (by omega)
 have p2:=e53 d.b (by omega)
 have hm:∀H,zcO H 0 false (.str []) dwV (I d.kind)= .str (zh9 d.kind):=fun H=>zdM dwT d.kind H
 have ho:okO dwV=some dwV:=rfl
 have hlast:∀C,(H++[C])[H.length]?=some C:=zg _
 obtain⟨H1,a1,a2,a3⟩:=w54 (d:=0) (hb.app [.arr 0 5 false [d.av]]) (by omega) (zhy d++[59]) hl
 refine⟨H1,?_,a2,(zS.app _ _).trans a3⟩
 clear a2 a3 hl
 unfold zhy at a1
 generalize zh9 d.kind=tw at *
 rw[zL Φ50]
 by_cases k1:d.kind=101∨d.kind=102
 .rw[if_pos k1]at a1
  simp at a1
  rcases k1 with k1|k1<;>rw[k1]at hm<;>
  simp (disch:=(first|omega|(simp only[List.length_append,List.length_cons,List.length_nil];omega))) [fi50,c50,zi,ze,zd,resV,rvVs,rvV,zac,e71w,ho,hm,hlast,k1,p1,a1, -getElem?_pos,gEz]
 rw[if_neg k1]at a1
 have q1:¬d.kind=101:=fun e=>k1 (.inl e)
 have q2:¬d.kind=102:=fun e=>k1 (.inr e)
 by_cases k3:d.kind=3
 .rw[if_pos k3]at a1
  simp at a1
  rw[k3]at hm
  simp (disch:=(first|omega|(simp only[List.length_append,List.length_cons,List.length_nil];omega))) [fi50,c50,zi,ze,zd,resV,rvVs,rvV,zac,e71w,ho,hm,hlast,k3,a1, -getElem?_pos,gEz]
 rw[if_neg k3]at a1
 by_cases k4:d.kind=4
 .rw[if_pos k4]at a1
  rw[k4]at hm
  by_cases kb:d.b=1
  .rw[if_pos kb]at a1
   simp at a1
   simp (disch:=(first|omega|(simp only[List.length_append,List.length_cons,List.length_nil];omega))) [fi50,c50,zi,ze,zd,resV,rvVs,rvV,zac,e71w,ho,hm,hlast,k4,kb,p1,a1, -getElem?_pos,gEz]
  .rw[if_neg kb]at a1
   simp at a1
   simp (disch:=(first|omega|(simp only[List.length_append,List.length_cons,List.length_nil];omega))) [fi50,c50,zi,ze,zd,resV,rvVs,rvV,zac,e71w,ho,hm,hlast,k4,kb,p1,a1, -getElem?_pos,gEz]
 rw[if_neg k4]at a1
 by_cases k5:d.kind=5∨d.kind=6∨d.kind=7
 .rw[if_pos k5]at a1
  simp at a1
  rcases k5 with k5|k5|k5<;>rw[k5]at hm<;>
  simp (disch:=(first|omega|(simp only[List.length_append,List.length_cons,List.length_nil];omega))) [fi50,c50,zi,ze,zd,resV,rvVs,rvV,zac,e71w,ho,hm,hlast,k5,p1,a1, -getElem?_pos,gEz]
 rw[if_neg k5]at a1
 have q5:¬d.kind=5:=fun e=>k5 (.inl e)
 have q6:¬d.kind=6:=fun e=>k5 (.inr (.inl e))
 have q7:¬d.kind=7:=fun e=>k5 (.inr (.inr e))
 by_cases k8:d.kind=8
 .rw[if_pos k8]at a1
  simp at a1
  rw[k8]at hm
  simp (disch:=(first|omega|(simp only[List.length_append,List.length_cons,List.length_nil];omega))) [fi50,c50,zi,ze,zd,resV,rvVs,rvV,zac,e71w,ho,hm,hlast,k8,p1,p2,a1, -getElem?_pos,gEz]
 .rw[if_neg k8]at a1
  simp at a1
  simp (disch:=(first|omega|(simp only[List.length_append,List.length_cons,List.length_nil];omega))) [fi50,c50,zi,ze,zd,resV,rvVs,rvV,zac,e71w,ho,hm,hlast,q1,q2,k3,k4,q5,q6,q7,k8,a1, -getElem?_pos,gEz]
end
end Go.Proofs.YtgamobngbenehaaGreatDoor
