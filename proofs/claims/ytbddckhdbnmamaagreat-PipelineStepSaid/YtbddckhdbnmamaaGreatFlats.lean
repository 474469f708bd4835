/-
  Structured operations and the flat, guarded ones that the model has (conditions: none).
-/
import Derived.Test.YtbddckhdbnmamaaGreatCodes
namespace Go.Proofs.YtbddckhdbnmamaaGreat
open Go Go.RowKit
set_option linter.unusedVariables false
set_option linter.unusedSimpArgs false
inductive LK where
 |op (k:OpK) (xs:List Src)
 |pick (c:Nat) (a b:Src)
structure LI where
 dst:Option Nat
 k:LK
 g:Option (Nat×Bool)
mutual
def ziD (g:Option (Nat×Bool)):SI→List LI
 | .op d k xs=> [⟨d,.op k xs,g⟩]
 | .sel d c bt a bf b=>zcQ (some (c,true)) bt++(zcQ (some (c,false)) bf++[⟨some d,.pick c a b,g⟩])
def zcQ (g:Option (Nat×Bool)):List SI→List LI
 | []=> []
 |i::r=>ziD g i++zcQ g r
end
mutual
def dsI:SI→List Nat
 | .op d _ _=>d.toList
 | .sel d _ bt _ bf _=>dsIs bt++(dsIs bf++[d])
def dsIs:List SI→List Nat
 | []=> []
 |i::r=>dsI i++dsIs r
end
def zmh:SI→List Nat
 | .op _ _ _=> []
 | .sel _ _ bt _ bf _=>dsIs bt++dsIs bf
def topI:SI→List Nat
 | .op d _ _=>d.toList
 | .sel d _ _ _ _ _=> [d]
def zb9 (l:List SI):List Nat:=l.flatMap zmh
def zhK (l:List SI):List Nat:=l.flatMap topI
mutual
def zvQ (U:List Nat):SI→Bool
 | .op _ _ _=>true
 | .sel _ c bt _ bf _=>U.contains c&&zfP U bt&&zfP U bf
def zfP (U:List Nat):List SI→Bool
 | []=>true
 |i::r=>zvQ U i&&zfP (dsI i++U) r
end
def ztK (l:List Nat):Src→Bool| .t i=>l.contains i| .c _=>false
mutual
def chkI:SI→Bool
 | .op _ _ _=>true
 | .sel d c bt a bf b=> !(dsIs bt).contains c&& !(dsIs bf).contains c&&zi0 bt&&zi0 bf&&zfP [] bt&&zfP [] bf&& !ztK (dsIs bf) a&& !ztK (dsIs bt) b&&
   (zhK bt).all (fun i=> !(zb9 bt).contains i)&&(zhK bf).all (fun i=> !(zb9 bf).contains i)
def zi0:List SI→Bool
 | []=>true
 |i::r=>chkI i&&zi0 r
end
def zo6 (inn:List Nat) (l:List SI):Bool:=zi0 l&&(zhK l).all (fun i=> !(zb9 l).contains i)&&inn.all (fun i=> !(zb9 l).contains i)
abbrev Env:=Nat→AV
def putE (E:Env):Option Nat→AV→Env|none,_=>E|some d,v=>fun i=>if i=d then v else E i
def zbv (R:Rec) (i:LI) (E:Env) (H:Heap):Option (Env×Heap):=
 match i.k with
 | .op k xs=>match vals E xs with
  |some vs=>(exec R H k vs).map fun p=>(putE E i.dst p.1,p.2)
  |none=>none
 | .pick c a b=>match E c with
  | .bool t=>(okO (evS E (if t then a else b))).map fun v=>(putE E i.dst v,H)
  |_=>none
def gval (E:Env):Option (Nat×Bool)→Option Bool
 |none=>some true
 |some (t,want)=>match E t with
  | .bool b=>some (b==want)
  | .und=>some false
  |_=>none
def zt (R:Rec) (i:LI) (E:Env) (H:Heap):Option (Env×Heap):=
 match gval E i.g with
 |some true=>zbv R i E H
 |some false=>some (putE E i.dst .und,H)
 |none=>none
def frun (R:Rec):List LI→Env→Heap→Option (Env×Heap)
 | [],E,H=>some (E,H)
 |i::r,E,H=>(zt R i E H).bind fun p=>frun R r p.1 p.2
theorem zbN (R:Rec) (l l':List LI) (E:Env) (H:Heap):frun R (l++l') E H=(frun R l E H).bind fun p=>frun R l' p.1 p.2:=by
 induction l generalizing E H with
 |nil=>rfl
 |cons i r ih=>
  simp only[List.cons_append,frun]
  cases zt R i E H with
  |none=>rfl
  |some p=>simp[ih]
def Sub (F:Fr) (E:Env):Prop:=∀i,F.get i= .bad∨F.get i=E i
theorem Sub.evS {F:Fr} {E:Env} (h:Sub F E) {s:Src} {v:AV} (hv:okO (evS F.get s)=some v):okO (evS E s)=some v:=by
 cases s with
 |c x=>exact hv
 |t i=>
  simp only[Go.Proofs.YtbddckhdbnmamaaGreat.evS]at *
  rcases h i with h|h
  .rw[h]at hv;cases hv
  .rw[←h];exact hv
theorem Sub.vals {F:Fr} {E:Env} (h:Sub F E):∀{xs:List Src} {vs:List AV},vals F.get xs=some vs→vals E xs=some vs
 | [],vs,hv=>hv
 |x::xs,vs,hv=>by
  simp only[Go.Proofs.YtbddckhdbnmamaaGreat.vals]at *
  split at hv
  .rename_i v vs' h1 h2
   rw[h.evS h1,h.vals h2]
   exact hv
  .cases hv
theorem zef (F:Fr) (d:Option Nat) (v:AV) (i:Nat):(F.put d v).get i=if d=some i then v else F.get i:=by
 cases d with
 |none=>simp[Fr.put]
 |some d=>
  simp only[Fr.put,Fr.get,oSi]
  by_cases h:i=d
  .subst h;simp
  .rw[if_neg h,if_neg (fun e=>h e.symm)]
theorem zA (E:Env) (d:Option Nat) (v:AV) (i:Nat):putE E d v i=if d=some i then v else E i:=by
 cases d with
 |none=>simp[putE]
 |some d=>
  simp only[putE,oSi]
  by_cases h:i=d
  .subst h;simp
  .rw[if_neg h,if_neg (fun e=>h e.symm)]
theorem Sub.put {F:Fr} {E:Env} (h:Sub F E) (d:Option Nat) (v:AV):Sub (F.put d v) (putE E d v):=by
 intro i
 rw[zef,zA]
 split
 .exact .inr rfl
 .exact h i
theorem zbi {E E':Env} {g:Option (Nat×Bool)} (h:∀t want,g=some (t,want)→E' t=E t):gval E' g=gval E g:=by
 cases g with
 |none=>rfl
 |some p=>obtain⟨t,want⟩:=p;simp only[gval];rw[h t want rfl]
/-! ### A guard that does not hold:everything is passed over -/
mutual
theorem zyl (R:Rec):∀(i:SI) (U:List Nat) (t:Nat) (want:Bool) (E:Env) (H:Heap),chkI i=true→zvQ U i=true→(∀j∈U,E j= .und)→gval E (some (t,want))=some false→t∉dsI i→
  ∃E',frun R (ziD (some (t,want)) i) E H=some (E',H)∧(∀j,j∉dsI i→E' j=E j)∧(∀j,j∈dsI i→E' j= .und)
 | .op d k xs,U,t,want,E,H,hc,hu,hU,hg,ht=>by
  refine⟨putE E d .und,?_,?_,?_⟩
  .simp only[ziD,frun,zt,hg,Option.bind_some]
  .intro j hj
   rw[zA,if_neg]
   intro e;apply hj;simp[dsI,e]
  .intro j hj
   rw[zA,if_pos]
   simpa[dsI]using hj
 | .sel d c bt a bf b,U,t,want,E,H,hc,hu,hU,hg,ht=>by
  simp only[chkI,bAt,Bool.not_eq_true']at hc
  obtain⟨⟨⟨⟨⟨⟨⟨⟨⟨h1,h2⟩,h3⟩,h4⟩,h5⟩,h6⟩,h7⟩,h8⟩,h9⟩,h10⟩:=hc
  simp only[zvQ,bAt]at hu
  obtain⟨⟨u1,u2⟩,u3⟩:=hu
  have hcU:c∈U:=by simpa using u1
  have c1:c∉dsIs bt:=by simpa using h1
  have c2:c∉dsIs bf:=by simpa using h2
  simp only[dsI,List.mem_append,List.mem_singleton,not_or]at ht
  obtain⟨t1,t2,t3⟩:=ht
  have hEc:E c= .und:=hU c hcU
  obtain⟨E1,e1,k1,m1⟩:=zhT R bt U c true E H h3 u2 hU (by simp[gval,hEc]) c1
  have hE1c:E1 c= .und:=by rw[k1 c c1];exact hEc
  have hU1:∀j∈U,E1 j= .und:=by
   intro j hj
   by_cases hm:j∈dsIs bt
   .exact m1 j hm
   .rw[k1 j hm];exact hU j hj
  obtain⟨E2,e2,k2,m2⟩:=zhT R bf U c false E1 H h4 u3 hU1 (by simp[gval,hE1c]) c2
  have hg2:gval E2 (some (t,want))=some false:=by
   rw[zbi (E:=E) (fun t' want' e=>by cases e;rw[k2 t t2,k1 t t1])];exact hg
  refine⟨putE E2 (some d) .und,?_,?_,?_⟩
  .simp only[ziD,zbN,e1,Option.bind_some,e2,frun,zt,hg2]
  .intro j hj
   simp only[dsI,List.mem_append,List.mem_singleton,not_or]at hj
   rw[zA,if_neg (by intro e;exact hj.2.2 (Option.some.inj e).symm),k2 j hj.2.1,k1 j hj.1]
  .intro j hj
   rw[zA]
   split
   .rfl
   .rename_i hne
    simp only[dsI,List.mem_append,List.mem_singleton]at hj
    rcases hj with hj|hj|hj
    .by_cases hm:j∈dsIs bf
     .exact m2 j hm
     .rw[k2 j hm];exact m1 j hj
    .exact m2 j hj
    .exact absurd (by rw[hj]) hne
theorem zhT (R:Rec):∀(l:List SI) (U:List Nat) (t:Nat) (want:Bool) (E:Env) (H:Heap),zi0 l=true→zfP U l=true→(∀j∈U,E j= .und)→gval E (some (t,want))=some false→t∉dsIs l→
  ∃E',frun R (zcQ (some (t,want)) l) E H=some (E',H)∧(∀j,j∉dsIs l→E' j=E j)∧(∀j,j∈dsIs l→E' j= .und)
 | [],U,t,want,E,H,hc,hu,hU,hg,ht=>⟨E,rfl,fun _ _=>rfl,fun j hj=>by simp[dsIs]at hj⟩
 |i::r,U,t,want,E,H,hc,hu,hU,hg,ht=>by
  simp only[zi0,bAt]at hc
  simp only[zfP,bAt]at hu
  simp only[dsIs,List.mem_append,not_or]at ht
  obtain⟨E1,e1,k1,m1⟩:=zyl R i U t want E H hc.1 hu.1 hU hg ht.1
  have hg1:gval E1 (some (t,want))=some false:=by
   rw[zbi (E:=E) (fun t' want' e=>by cases e;exact k1 t ht.1)];exact hg
  obtain⟨E2,e2,k2,m2⟩:=zhT R r (dsI i++U) t want E1 H hc.2 hu.2 (fun j hj=>by
   by_cases hm:j∈dsI i
   .exact m1 j hm
   .rw[k1 j hm]
    exact hU j (by simpa[hm]using hj)) hg1 ht.2
  refine⟨E2,?_,?_,?_⟩
  .simp only[zcQ,zbN,e1,Option.bind_some,e2]
  .intro j hj
   simp only[dsIs,List.mem_append,not_or]at hj
   rw[k2 j hj.2,k1 j hj.1]
  .intro j hj
   simp only[dsIs,List.mem_append]at hj
   by_cases hm:j∈dsIs r
   .exact m2 j hm
   .rw[k2 j hm];exact m1 j (hj.resolve_right hm)
end
theorem zhC:∀{l:List SI} {j:Nat},j∈zb9 l→j∈dsIs l
 | [],j,h=>by simp[zb9]at h
 |i::r,j,h=>by
  simp only[zb9,List.flatMap_cons,List.mem_append]at h
  simp only[dsIs,List.mem_append]
  rcases h with h|h
  .left
   cases i with
   |op d k xs=>simp[zmh]at h
   |sel d c bt a bf b=>
    simp only[zmh,dsI,List.mem_append]at h⊢
    rcases h with h|h
    .exact .inl h
    .exact .inr (.inl h)
  .exact .inr (zhC h)
/-! ### A guard that holds -/
mutual
theorem simI (R:Rec):∀(i:SI) (g:Option (Nat×Bool)) (F:Fr) (E:Env) (H:Heap) (F':Fr) (H':Heap),chkI i=true→(∀j∈zmh i,F.get j= .bad)→Sub F E→gval E g=some true→(∀t want,g=some (t,want)→t∉dsI i)→
  evSI R i F H=some (F',H')→∃E',frun R (ziD g i) E H=some (E',H')∧Sub F' E'∧(∀j,j∉dsI i→E' j=E j)∧(∀j,j∉topI i→F'.get j=F.get j)
 | .op d k xs,g,F,E,H,F',H',hc,hb,hs,hg,ht,he=>by
  simp only[evSI]at he
  split at he
  .rename_i vs hvs
   cases hx:exec R H k vs with
   |none=>simp[hx]at he
   |some p=>
    simp only[hx,oMs,oSi,pMi]at he
    obtain⟨rfl,rfl⟩:=he
    refine⟨putE E d p.1,?_,hs.put d p.1,?_,?_⟩
    .simp only[ziD,frun,zt,hg,zbv,hs.vals hvs,hx,oMs,Option.bind_some]
    .intro j hj
     rw[zA,if_neg]
     intro e;apply hj;simp[dsI,e]
    .intro j hj
     rw[zef,if_neg]
     intro e;apply hj;simp[topI,e]
  .cases he
 | .sel d c bt a bf b,g,F,E,H,F',H',hc,hb,hs,hg,ht,he=>by
  simp only[chkI,bAt,Bool.not_eq_true']at hc
  obtain⟨⟨⟨⟨⟨⟨⟨⟨⟨h1,h2⟩,h3⟩,h4⟩,h5⟩,h6⟩,h7⟩,h8⟩,h9⟩,h10⟩:=hc
  have c1:c∉dsIs bt:=by simpa using h1
  have c2:c∉dsIs bf:=by simpa using h2
  have hbt:∀j∈dsIs bt,F.get j= .bad:=fun j hj=>hb j (by simp[zmh,hj])
  have hbf:∀j∈dsIs bf,F.get j= .bad:=fun j hj=>hb j (by simp[zmh,hj])
  have t1:∀t want,g=some (t,want)→t∉dsIs bt:=fun t want e hm=>ht t want e (by simp[dsI,hm])
  have t2:∀t want,g=some (t,want)→t∉dsIs bf:=fun t want e hm=>ht t want e (by simp[dsI,hm])
  simp only[evSI]at he
  split at he
  .rename_i t hFc
   have hEc:E c= .bool t:=by
    rcases hs c with h|h
    .rw[hFc]at h;cases h
    .rw[←h,hFc]
   cases t with
   |true=>
    simp only[if_true]at he
    cases hev:zbm R bt F H with
    |none=>simp[hev]at he
    |some p=>
     obtain⟨F1,H1⟩:=p
     simp only[hev,Option.bind_some]at he
     cases hok:okO (evS F1.get a) with
     |none=>simp[hok]at he
     |some v=>
      simp only[hok,oMs,oSi,pMi]at he
      obtain⟨rfl,rfl⟩:=he
      obtain⟨E1,e1,s1,k1,f1⟩:=zp5 R bt (some (c,true)) F E H F1 H1 h3 (zb9 bt) (fun j hj=>hj) (by simpa using h9) (fun j hj=>hbt j (zhC hj)) hs (by simp[gval,hEc]) (fun t' want' e=>by cases e;exact c1) hev
      have hE1c:E1 c= .bool true:=by rw[k1 c c1,hEc]
      obtain⟨E2,e2,k2,m2⟩:=zhT R bf [] c false E1 H1 h4 h6 (by simp) (by simp[gval,hE1c]) c2
      have hg2:gval E2 g=some true:=by
       rw[zbi (E:=E) (fun t' want' e=>by rw[k2 _ (t2 _ _ e),k1 _ (t1 _ _ e)])];exact hg
      have hE2c:E2 c= .bool true:=by rw[k2 c c2,hE1c]
      have hav:okO (evS E2 a)=some v:=by
       have:=s1.evS hok
       cases a with
       |c x=>exact this
       |t i=>
        simp only[evS]at *
        have hi:i∉dsIs bf:=by simpa[ztK]using h7
        rw[k2 i hi];exact this
      refine⟨putE E2 (some d) v,?_,?_,?_,?_⟩
      .simp only[ziD,zbN,e1,Option.bind_some,e2,frun,zt,hg2,zbv,hE2c,if_true,hav,oMs]
      .intro j
       rw[zef,zA]
       split
       .exact .inr rfl
       .by_cases m1:j∈dsIs bt
        .exact .inl (hbt j m1)
        .by_cases m3:j∈dsIs bf
         .exact .inl (hbf j m3)
         .rw[k2 j m3,k1 j m1];exact hs j
      .intro j hj
       simp only[dsI,List.mem_append,List.mem_singleton,not_or]at hj
       rw[zA,if_neg (by intro e;exact hj.2.2 (Option.some.inj e).symm),k2 j hj.2.1,k1 j hj.1]
      .intro j hj
       rw[zef,if_neg]
       intro e;apply hj;simp[topI];exact (Option.some.inj e).symm
   |false=>
    simp only[bFt,if_false]at he
    cases hev:zbm R bf F H with
    |none=>simp[hev]at he
    |some p=>
     obtain⟨F1,H1⟩:=p
     simp only[hev,Option.bind_some]at he
     cases hok:okO (evS F1.get b) with
     |none=>simp[hok]at he
     |some v=>
      simp only[hok,oMs,oSi,pMi]at he
      obtain⟨rfl,rfl⟩:=he
      obtain⟨E1,e1,k1,m1⟩:=zhT R bt [] c true E H h3 h5 (by simp) (by simp[gval,hEc]) c1
      have hE1c:E1 c= .bool false:=by rw[k1 c c1,hEc]
      have hs1:Sub F E1:=by
       intro j
       by_cases hm:j∈dsIs bt
       .exact .inl (hbt j hm)
       .rw[k1 j hm];exact hs j
      obtain⟨E2,e2,s2,k2,f2⟩:=zp5 R bf (some (c,false)) F E1 H F1 H1 h4 (zb9 bf) (fun j hj=>hj) (by simpa using h10) (fun j hj=>hbf j (zhC hj)) hs1 (by simp[gval,hE1c]) (fun t' want' e=>by cases e;exact c2) hev
      have hg2:gval E2 g=some true:=by
       rw[zbi (E:=E) (fun t' want' e=>by rw[k2 _ (t2 _ _ e),k1 _ (t1 _ _ e)])];exact hg
      have hE2c:E2 c= .bool false:=by rw[k2 c c2,hE1c]
      have hbv:okO (evS E2 b)=some v:=s2.evS hok
      refine⟨putE E2 (some d) v,?_,?_,?_,?_⟩
      .simp only[ziD,zbN,e1,Option.bind_some,e2,frun,zt,hg2,zbv,hE2c,bFt,if_false,hbv,oMs]
      .intro j
       rw[zef,zA]
       split
       .exact .inr rfl
       .by_cases m1':j∈dsIs bt
        .exact .inl (hbt j m1')
        .by_cases m3:j∈dsIs bf
         .exact .inl (hbf j m3)
         .rw[k2 j m3,k1 j m1'];exact hs j
      .intro j hj
       simp only[dsI,List.mem_append,List.mem_singleton,not_or]at hj
       rw[zA,if_neg (by intro e;exact hj.2.2 (Option.some.inj e).symm),k2 j hj.2.1,k1 j hj.1]
      .intro j hj
       rw[zef,if_neg]
       intro e;apply hj;simp[topI];exact (Option.some.inj e).symm
  .cases he
theorem zp5 (R:Rec):∀(l:List SI) (g:Option (Nat×Bool)) (F:Fr) (E:Env) (H:Heap) (F':Fr) (H':Heap),zi0 l=true→∀(B:List Nat),(∀j∈zb9 l,j∈B)→(∀j∈zhK l,j∉B)→(∀j∈B,F.get j= .bad)→Sub F E→gval E g=some true→(∀t want,g=some (t,want)→t∉dsIs l)→
  zbm R l F H=some (F',H')→∃E',frun R (zcQ g l) E H=some (E',H')∧Sub F' E'∧(∀j,j∉dsIs l→E' j=E j)∧(∀j,j∉zhK l→F'.get j=F.get j)
 | [],g,F,E,H,F',H',hc,B,hB,hT,hb,hs,hg,ht,he=>by
  simp only[zbm,oSi,pMi]at he
  obtain⟨rfl,rfl⟩:=he
  exact⟨E,rfl,hs,fun _ _=>rfl,fun _ _=>rfl⟩
 |i::r,g,F,E,H,F',H',hc,B,hB,hT,hb,hs,hg,ht,he=>by
  simp only[zi0,bAt]at hc
  simp only[zbm]at he
  cases hev:evSI R i F H with
  |none=>simp[hev]at he
  |some p=>
   obtain⟨F1,H1⟩:=p
   simp only[hev,Option.bind_some]at he
   have ht1:∀t want,g=some (t,want)→t∉dsI i:=fun t want e hm=>ht t want e (by simp[dsIs,hm])
   have ht2:∀t want,g=some (t,want)→t∉dsIs r:=fun t want e hm=>ht t want e (by simp[dsIs,hm])
   obtain⟨E1,e1,s1,k1,f1⟩:=simI R i g F E H F1 H1 hc.1 (fun j hj=>hb j (hB j (by simp[zb9];exact .inl hj))) hs hg ht1 hev
   have hg1:gval E1 g=some true:=by
    rw[zbi (E:=E) (fun t' want' e=>k1 _ (ht1 _ _ e))];exact hg
   obtain⟨E2,e2,s2,k2,f2⟩:=zp5 R r g F1 E1 H1 F' H' hc.2 B (fun j hj=>hB j (by simp only[zb9,List.flatMap_cons,List.mem_append];exact .inr hj)) (fun j hj=>hT j (by simp only[zhK,List.flatMap_cons,List.mem_append];exact .inr hj))
    (fun j hj=>by
     rw[f1 j (fun hm=>hT j (by simp only[zhK,List.flatMap_cons,List.mem_append];exact .inl hm) hj)];exact hb j hj) s1 hg1 ht2 he
   refine⟨E2,?_,s2,?_,?_⟩
   .simp only[zcQ,zbN,e1,Option.bind_some,e2]
   .intro j hj
    simp only[dsIs,List.mem_append,not_or]at hj
    rw[k2 j hj.2,k1 j hj.1]
   .intro j hj
    simp only[zhK,List.flatMap_cons,List.mem_append,not_or]at hj
    rw[f2 j hj.2,f1 j hj.1]
end
end Go.Proofs.YtbddckhdbnmamaaGreat
