/-
  slices.Collect of the statements, and syntax.Statements (conditions: none).
-/
import Derived.Test.YtgamobngbenehaaGreatDoorBBt
namespace Go.Proofs.YtgamobngbenehaaGreatDoor
open Go Go.RowKit
set_option linter.unusedVariables false
set_option linter.unusedSimpArgs false
set_option maxRecDepth 10000
def OwnT (H:Heap) (v:AV) (l:List St) (n:Nat):Prop:=
 (v= .isl (some true) 0 []∧l=[])∨∃id ver,n≤id∧v= .osl id ver 0 l.length∧l≠[]∧H[id]?=some (.arr ver 8 false (l.map St.av))
theorem OwnT.okO {H:Heap} {v:AV} {l:List St} {n:Nat} (h:OwnT H v l n):okO v=some v:=by
 rcases h with⟨rfl,_⟩|⟨id,ver,_,rfl,_⟩<;>rfl
theorem OwnT.cells {H:Heap} {v:AV} {l:List St} {n:Nat} (h:OwnT H v l n):v.cells=[v]:=by
 rcases h with⟨rfl,_⟩|⟨id,ver,_,rfl,_⟩<;>rfl
theorem OwnT.len {H:Heap} {v:AV} {l:List St} {n:Nat} (h:OwnT H v l n):lenV false v=I l.length:=by
 rcases h with⟨rfl,rfl⟩|⟨id,ver,_,rfl,_⟩<;>rfl
theorem OwnT.kept {H H':Heap} {v:AV} {l:List St} {n:Nat} (h:OwnT H v l n) (hk:∀(j:Nat) (B:Blk),n≤j→H[j]?=some B→H'[j]?=some B):OwnT H' v l n:=by
 rcases h with⟨rfl,h2⟩|⟨id,ver,h1,h2,h3,h4⟩
 .exact .inl ⟨rfl,h2⟩
 .exact .inr ⟨id,ver,h1,h2,h3,hk _ _ h1 h4⟩
def stZ:St:=St.of 0 0 [] za2 za2 za2 za2 za2
theorem OwnT.push {H:Heap} {v:AV} {l:List St} {n:Nat} (h:OwnT H v l n) (hn:n≤H.length) (hr:l.length<zN):
  ∃id ver H',ex H (.app 8) [v,.isl (some false) 8 [stZ.av]]=some (.osl id ver 0 (l.length+1),H')∧n≤id∧H'[id]?=some (.arr ver 8 false ((l++[stZ]).map St.av))∧H.length≤H'.length∧
   (∀j,j≠id→j<H.length→H'[j]?=H[j]?)∧((v= .isl (some true) 0 []∧id=H.length)∨∃ver len,v= .osl id ver 0 len):=by
 have e0:ex H (.app 8) [v,.isl (some false) 8 [stZ.av]]=zbx (truncH H v) 8 v [stZ.av]:=by simp[ex]
 rw[e0]
 rcases h with⟨rfl,rfl⟩|⟨id,ver,h1,rfl,h3,h4⟩
 .refine⟨H.length,0,H++[.arr 0 8 false [stZ.av]],?_,hn,by simp,by simp,fun j _ hj=>by rw[gEa (by omega)],.inl ⟨rfl,rfl⟩⟩
  simp[zbx,truncH,zN]
 .have hid:=(gEs.1 h4).1
  have ht:truncH H (.osl id ver 0 l.length)=H:=by simp[truncH,h4]
  rw[ht]
  refine⟨id,ver+1,H.set id (.arr (ver+1) 8 false (l.map St.av++[stZ.av])),?_,h1,?_,by simp,fun j hj _=>by rw[gEn (by omega)],.inr ⟨_,_,rfl⟩⟩
  .simp only[zbx,h4]
   rw[if_pos (by simp),if_pos (by simp;omega)]
   simp
  .rw[gEt hid];simp
def ownT (jb:Nat) (H:Heap):Option Nat:=match H[jb]? with|some (.arr 0 1 false [.osl i _ _ _])=>some i|_=>none
def zsY (jb:Nat) (H H':Heap):Prop:=H.length≤H'.length∧∀(j:Nat) (es:List AV),ownT jb H≠some j→H[j]?=some (.arr 0 8 false es)→H'[j]?=some (.arr 0 8 false es)∧ownT jb H'≠some j
def K114 (jb:Nat) (st:LoopState) (pe:Option LX):Blk:= .loop st pe [(2,.optr jb 0 0 0),(4,.isl (some true) 0 [])] [7] zhv zht
def P114 (jb id:Nat) (s:List St) (H:Heap):Prop:=H[id]?=some (K114 jb .ready none)∧∃v,H[jb]?=some (.arr 0 1 false [v])∧OwnT H v s (id+1)
theorem zig {jb:Nat} {H:Heap} {v:AV} (h:H[jb]?=some (.arr 0 1 false [v])) (B:Blk):ownT jb (H++[B])=ownT jb H:=by
 unfold ownT;rw[zt h B,h]
theorem ztM (jb id:Nat):KOk (P114 jb id) (zsY jb) where
 refl:=fun H=>⟨Nat.le_refl _,fun j es h1 h2=>⟨h2,h1⟩⟩
 trans:=fun A B C h1 h2=>⟨Nat.le_trans h1.1 h2.1,fun j es h3 h4=>by
  obtain⟨h5,h6⟩:=h1.2 j es h3 h4
  exact h2.2 j es h6 h5⟩
 app:=fun s H B hp=>by
  obtain⟨h1,v,h2,h3⟩:=hp
  exact⟨by simp,fun j es h4 h5=>⟨zt h5 B,by rw[zig h2];exact h4⟩⟩
 box:=fun s H H' es hp hk=>by
  obtain⟨h1,v,h2,h3⟩:=hp
  refine (hk.2 H.length es ?_ (ze _ _)).1
  rw[zig h2]
  unfold ownT
  rw[h2]
  rcases h3 with⟨rfl,_⟩|⟨i,ver,_,rfl,_,h4⟩
  .simp
  .have:=(gEs.1 h4).1
   simp only[ne_eq,Option.some.injEq]
   omega
theorem zmR (jb id:Nat) (hj:jb<id) (x:St) (s:List St) (H:Heap) (hg:s.length<1000000) (hp:P114 jb id s H):
  okV (W.call (.yld id) [x.av] H) (fun v H'=>zeu (zsY jb) (P114 jb id) (fun (_:Unit) _=>False) (.inl (s++[x])) H v H'∧∀(k:Nat) (es:List AV),id+1≤k→H[k]?=some (.arr 0 1 false es)→H'[k]?=some (.arr 0 1 false es)):=by
 obtain⟨h1,v,h2,h3⟩:=hp
 have hl:=(gEs.1 h1).1
 rw[zos,zbr h1 rfl]
 have a1:(H++[Blk.arr 0 8 false [x.av]])[id]?=some (K114 jb .ready none):=zt h1 _
 have a2:(H++[Blk.arr 0 8 false [x.av]])[H.length]?=some (.arr 0 8 false [x.av]):=ze _ _
 have a3:(H++[Blk.arr 0 8 false [x.av]])[jb]?=some (.arr 0 1 false [v]):=zt h2 _
 have b1:∀B,((H++[Blk.arr 0 8 false [x.av]]).set id B)[id]?=some B:=fun B=>gEt (by simp;omega)
 have b2:∀B,((H++[Blk.arr 0 8 false [x.av]]).set id B)[H.length]?=some (.arr 0 8 false [x.av]):=fun B=>by rw[gEn (by omega)];exact a2
 have b3:∀B,((H++[Blk.arr 0 8 false [x.av]]).set id B)[jb]?=some (.arr 0 1 false [v]):=fun B=>by rw[gEn (by omega)];exact a3
 have hlen:∀B,((H++[Blk.arr 0 8 false [x.av]]).set id B).length=H.length+1:=fun B=>by simp
 have o0:∀B,OwnT ((H++[Blk.arr 0 8 false [x.av]]).set id B) v s (id+1):=fun B=>h3.kept (fun j C hj hC=>by rw[gEn (by omega)];exact zt hC _)
 obtain⟨i,ver,H',e1,e2,e3,e4,e5,e6⟩:=(o0 (K114 jb .busy none)).push (by rw[hlen];omega) (by simp[zN];omega)
 rw[hlen]at e4 e5
 have hile:i≤H.length+1∧i≠H.length:=by
  constructor
  .rcases e6 with⟨_,h⟩|⟨u,w,h⟩
   .rw[h,hlen];exact Nat.le_refl _
   .rcases h3 with⟨h7,_⟩|⟨i',ver',_,h7,_,h8⟩
    .rw[h7]at h;cases h
    .rw[h7]at h;cases h
     have:=(gEs.1 h8).1;omega
  .rcases e6 with⟨_,h⟩|⟨u,w,h⟩
   .rw[hlen]at h;omega
   .rcases h3 with⟨h7,_⟩|⟨i',ver',_,h7,_,h8⟩
    .rw[h7]at h;cases h
    .rw[h7]at h;cases h
     have:=(gEs.1 h8).1;omega
 have g1:H'[jb]?=some (.arr 0 1 false [v]):=by rw[e5 jb (by omega) (by omega)];exact b3 _
 have g2:H'[H.length]?=some (.arr 0 8 false [x.av]):=by rw[e5 H.length (by omega) (by omega)];exact b2 _
 have g3:H'[id]?=some (K114 jb .busy none):=by rw[e5 id (by omega) (by omega)];exact b1 _
 have hii:=(gEs.1 e3).1
 have hsz:s.length<(s++[stZ]).length:=by simp
 have hset:((s++[stZ])[s.length]?)=some stZ:=by simp
 have hset2:(s++[stZ]).set s.length x=s++[x]:=by rw[List.set_append,if_neg (by omega)];simp
 have u1:∀B,(H'.set i B)[jb]?=some (.arr 0 1 false [v]):=fun B=>by rw[gEn (by omega)];exact g1
 have u2:∀B,(H'.set i B)[id]?=some (K114 jb .busy none):=fun B=>by rw[gEn (by omega)];exact g3
 have u3:∀B C,((H'.set i B).set jb C)[id]?=some (K114 jb .busy none):=fun B C=>by rw[gEn (by omega)];exact u2 B
 have s1:=zdT h3.cells (v:= .osl i ver 0 (s.length+1)) rfl rfl
 have hz:(.agg [I 0,I 0,.str [],.isl (some true) 0 [],.isl (some true) 0 [],.isl (some true) 0 [],.isl (some true) 0 [],.isl (some true) 0 []]:AV)=stZ.av:=by rw[St.av_eq];rfl
 have hlt:(s.length:Int)<(s.length:Int)+1:=by omega
 have x1:apart (.optr jb 0 0 0) (.osl i ver 0 (s.length+1))=true:=by simp[apart];omega
 have x2:apart (.optr jb 0 0 0) (.optr i ver s.length 0)=true:=by simp[apart];omega
 simp only[K114]at *
 simp[zbo,zlA,ze6,zlz,ze4,zb,hlt,x1,x2,a1,a2,b1,b2,b3,hz,h3.okO,h3.cells,h3.len,e1,e3,g1,g2,g3,hset,hset2,u1,u2,u3,s1,ze, -getElem?_pos,gEz, -List.append_assoc, -List.map_append]
 have hjl:=(gEs.1 h2).1
 have hF:∀(X Y Z:Blk) (j:Nat),j≠i→j≠jb→j≠id→(((H'.set i X).set jb Y).set id Z)[j]?=H'[j]?:=fun X Y Z j q1 q2 q3=>by
  rw[gEn (fun e=>q3 e.symm),gEn (fun e=>q2 e.symm),gEn (fun e=>q1 e.symm)]
 have hB:∀(j:Nat) (B:Blk),j≠i→j≠id→H[j]?=some B→H'[j]?=some B:=fun j B q1 q3 q4=>by
  have:=(gEs.1 q4).1
  rw[e5 j q1 (by omega),gEn (fun e=>q3 e.symm)]
  exact zt q4 _
 have hJ:∀(X Y Z:Blk),(((H'.set i X).set jb Y).set id Z)[jb]?=some Y:=fun X Y Z=>by
  rw[gEn (by omega),gEt (by simp;omega)]
 have hI:∀(X Y Z:Blk),(((H'.set i X).set jb Y).set id Z)[i]?=some X:=fun X Y Z=>by
  rw[gEn (by omega),gEn (by omega),gEt hii]
 have hD:∀(X Y Z:Blk),(((H'.set i X).set jb Y).set id Z)[id]?=some Z:=fun X Y Z=>by
  rw[gEt (by simp;omega)]
 refine⟨⟨⟨by simp;omega,fun j es h7 h8=>?_⟩,rfl,hD _ _ _,_,hJ _ _ _,.inr ⟨i,ver,e2,by simp,by simp,hI _ _ _⟩⟩,fun k es hk h8=>?_⟩
 .have hj8:=(gEs.1 h8).1
  have q1:j≠i:=by
   rintro rfl
   rcases e6 with⟨_,h⟩|⟨u,w,h⟩
   .rw[hlen]at h;omega
   .refine h7 ?_
    unfold ownT
    rw[h2,h]
    rfl
  have q2:j≠jb:=by
   rintro rfl
   rw[h2]at h8
   injection h8 with h9
   injection h9 with _ h10
   omega
  have q3:j≠id:=by
   rintro rfl
   rw[h1]at h8
   cases h8
  refine⟨by rw[hF _ _ _ j q1 q2 q3];exact hB j _ q1 q3 h8,?_⟩
  unfold ownT
  rw[hJ]
  simp only[ne_eq,Option.some.injEq]
  exact fun e=>q1 e.symm
 .have hk8:=(gEs.1 h8).1
  have q1:k≠i:=by
   rintro rfl
   rcases e6 with⟨_,h⟩|⟨u,w,h⟩
   .rw[hlen]at h;omega
   .rcases h3 with⟨h7,_⟩|⟨i',ver',_,h7,_,h9⟩
    .rw[h7]at h;cases h
    .rw[h7]at h
     cases h
     rw[h9]at h8
     injection h8 with h10
     injection h10 with _ h11
     omega
  rw[hF _ _ _ k q1 (by omega) (by omega)]
  exact hB k _ q1 (by omega) h8
theorem runT (l:List St) (s:List St):runS (ρ:=Unit) (fun x s=> .inl (s++[x])) l s= .inl (s++l):=by
 induction l generalizing s with
 |nil=>simp[runS]
 |cons a r ih=>simp only[runS,ih,List.append_assoc,List.cons_append,List.nil_append]
theorem zs3:∀(l s:List St),s.length+l.length<1000000→runG (ρ:=Unit) (fun s:List St=>s.length<1000000) (fun x s=> .inl (s++[x])) l s
 | [],s,h=>trivial
 |x::r,s,h=>by
  simp only[List.length_cons]at h
  exact⟨by omega,zs3 r _ (by simp;omega)⟩
theorem zsP (l:Sl St) (hf:St.fines l.l) (hl:l.l.length≤9223372036854775807) (hn:(St.pres l.l).length<1000000) (b:Nat) (H:Heap) (hb:H[b]?=some (.arr 0 1 false [Sl.av St.av 8 l])):
  okV (W.call (.clo 116 [] []) [.isl (some true) 0 [],.clo 117 [] [.optr b 0 0 0]] H) (fun v H'=>OwnT H' v (St.pres l.l) 0):=by
 rw[zac Φ116]
 have q0:(H++[Blk.arr 0 1 false [.isl (some true) 0 []]]++[K114 H.length .ready none])[b]?=some (.arr 0 1 false [Sl.av St.av 8 l]):=zt (zt hb _) _
 have q1:(H++[Blk.arr 0 1 false [.isl (some true) 0 []]]++[K114 H.length .ready none])[H.length+1]?=some (K114 H.length .ready none):=by
  rw[List.append_assoc,List.getElem?_append_right (by omega)];simp
 have q2:(H++[Blk.arr 0 1 false [.isl (some true) 0 []]]++[K114 H.length .ready none])[H.length]?=some (.arr 0 1 false [.isl (some true) 0 []]):=by
  rw[List.append_assoc,List.getElem?_append_right (by omega)];simp
 have hp:=zoB (.yld (H.length+1)) rfl rfl rfl (P114 H.length (H.length+1)) (fun (_:Unit) _=>False) (fun s=>s.length<1000000) (zsY H.length) (fun x s=> .inl (s++[x]))
  (by rintro s G B ⟨h1,v,h2,h3⟩;exact⟨zt h1 B,v,zt h2 B,h3.kept (fun j C _ hC=>zt hC B)⟩) (ztM _ _) (H.length+2)
  (fun x s G _ hg h=>zmR H.length (H.length+1) (by omega) x s G hg h) l hf hl b [] _ q0 (by simp) (zs3 _ _ (by simpa using hn)) ⟨q1,_,q2,.inl ⟨rfl,rfl⟩⟩
 obtain⟨v,H',e1,rfl,e2,e3⟩:=zz.1 hp
 rw[runT]at e3
 simp only[List.nil_append]at e3
 obtain⟨e3,w,e4,e5⟩:=e3
 have hl':=(gEs.1 e3).1
 simp only[K114]at e1 e3
 have s1:∀B,(H'.set (H.length+1) B)[H.length]?=some (.arr 0 1 false [w]):=fun B=>by rw[gEn (by omega)];exact e4
 have o1:∀B,OwnT (H'.set (H.length+1) B) w (St.pres l.l) 0:=fun B=>by
  rcases e5 with⟨h1,h2⟩|⟨i,ver,h1,h2,h3,h4⟩
  .exact .inl ⟨h1,h2⟩
  .exact .inr ⟨i,ver,by omega,h2,h3,by rw[gEn (by omega)];exact h4⟩
 simp[znR,c116,zd,zc,zb,resV,rvVs,rvV,e1,e3,zdg,s1,e5.okO,e5.cells,o1,ze, -getElem?_pos,gEz, -List.append_assoc]
theorem zuK (l:Sl St) (hf:St.fines l.l) (hl:l.l.length≤9223372036854775807) (hn:(St.pres l.l).length<1000000) (b:Nat) (H:Heap) (hb:H[b]?=some (.arr 0 1 false [Sl.av St.av 8 l])):
  okV (W.call (.clo 61 [] []) [.clo 117 [] [.optr b 0 0 0]] H) (fun v H'=>OwnT H' v (St.pres l.l) 0):=by
 rw[zac Φ61]
 obtain⟨v,H',e1,e2⟩:=zz.1 (zsP l hf hl hn b H hb)
 simp[fi61,c61,zd,zc,zb,resV,rvVs,rvV,e1,e2.okO,e2]
mutual
theorem St.pre_cost:∀x:St,x.pre.length≤x.cost
 | .mk a b c d e f g bl h i el j k cl=>by
  have h1:=St.pres_cost bl
  have h2:=St.pres_cost el
  have h3:=Cs.pres_cost cl
  simp only[St.pre,St.cost,List.length_cons,List.length_append];omega
theorem St.pres_cost:∀l:List St,(St.pres l).length≤St.costs l
 | []=>by simp[St.pres,St.costs]
 |x::r=>by
  have h1:=St.pre_cost x
  have h2:=St.pres_cost r
  simp only[St.pres,St.costs,List.length_append];omega
theorem Cs.pre_cost:∀x:Cs,x.pre.length≤x.cost
 | .mk a b e ns f g bl=>by
  have h1:=St.pres_cost bl
  simp only[Cs.pre,Cs.cost];omega
theorem Cs.pres_cost:∀l:List Cs,(Cs.pres l).length≤Cs.costs l
 | []=>by simp[Cs.pres,Cs.costs]
 |x::r=>by
  have h1:=Cs.pre_cost x
  have h2:=Cs.pres_cost r
  simp only[Cs.pres,Cs.costs,List.length_append];omega
end
def smtI (p:Pr):Int:=zaz ⟨za2,ofL 5 [p]⟩
def smtL (p:Pr):Sl St:=if smtI p=0∧St.pres p.body.l≠[] then ofL 8 (St.pres p.body.l) else za2
theorem e30 (p:Pr) (hf:p.fine):W.pure 24 [p.av]=some (.tuple [Sl.av St.av 8 (smtL p),I (smtI p)]):=by
 rw[zu Φ24 (by simp)]
 have c1:=e26 ⟨za2,ofL 5 [p]⟩ ⟨by simp,by simp,fun q hq=>by simp at hq;subst hq;exact hf⟩
 have hso:(.agg [.isl (some true) 0 [],.isl (some false) 5 [p.av]]:AV)=(⟨za2,ofL 5 [p]⟩:So).av:=rfl
 have hdef:zaz ⟨za2,ofL 5 [p]⟩=smtI p:=rfl
 rw[hdef]at c1
 unfold smtL
 by_cases hz:smtI p=0
 .rw[hz]at c1
  have hcost:St.costs p.body.l≤300:=by
   unfold smtI zaz at hz
   split at hz
   .cases hz
   .rename_i h
    simp[Pr.cost]at h
    omega
  have hpl:=St.pres_cost p.body.l
  have p1:=e78 p.body [.arr 0 5 false [p.av]]
  obtain⟨v,H',d1,d2⟩:=zz.1 (zuK p.body hf.1 hf.2.1 (by omega) 1 [.arr 0 5 false [p.av],.arr 0 1 false [Sl.av St.av 8 p.body]] rfl)
  have hfz:frz H' 7 v=some (Sl.av St.av 8 (if St.pres p.body.l=[] then za2 else ofL 8 (St.pres p.body.l))):=by
   rcases d2 with⟨rfl,h2⟩|⟨i,ver,_,rfl,h3,h4⟩
   .rw[if_pos h2];rfl
   .rw[if_neg h3]
    have hg:Grow H' 8 (some i) (.osl i ver 0 (St.pres p.body.l).length) ((St.pres p.body.l).map St.av):=⟨ver,[],by simp,by simpa using h4⟩
    rw[hg.frz (n:=6) (by
     rw[List.all_eq_true]
     intro e he
     obtain⟨q,_,rfl⟩:=List.mem_map.1 he
     simp)]
    simp[zk0]
  rw[hz]
  simp[fi24,c24,zd,zc,zb,resV,rvVs,rvV,hso,c1,p1,d1,d2.okO, -getElem?_pos,gEz]
  rw[hfz];rfl
 .simp[fi24,c24,zd,zc,zb,resV,rvVs,rvV,hso,c1,hz, -getElem?_pos,gEz]
  rfl
end Go.Proofs.YtgamobngbenehaaGreatDoor
