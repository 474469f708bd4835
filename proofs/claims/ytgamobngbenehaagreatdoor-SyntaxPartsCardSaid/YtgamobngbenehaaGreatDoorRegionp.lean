/-
  Regions: in the order of the text, and in whatever order (conditions: none).
-/
import Derived.Test.YtgamobngbenehaaGreatDoorSoundp
namespace Go.Proofs.YtgamobngbenehaaGreatDoor
open Go Go.RowKit
set_option linter.unusedVariables false
set_option linter.unusedSimpArgs false
def kH:LK→Nat
 | .pick _ _ _=>0
 | .op k _=>match k with
  | .load imm _ _=>if imm then 0 else 1
  | .idxa imm _=>if imm then 0 else 1
  | .slc imm _ _ _ _=>if imm then 0 else 1
  | .bsl imm _ _ _ _=>if imm then 0 else 2
  | .call _=>2
  | .callv=>2
  | .pubcall _=>2
  | .fcall _=>1
  | .box _=>2
  | .store _=>2
  | .storeA _=>2
  | .appA _=>2
  | .app _=>2
  | .mksl _ _=>2
  | .mkslH _ _ _=>2
  | .appz _ _=>2
  | .clr _ _=>2
  | .mkmap=>2
  | .mput _=>2
  | .mget _ _ _=>1
  | .s2b=>2
  | .rngs=>2
  | .nxt=>2
  | .b2s=>1
  | .lenm=>1
  | .loadB _ _=>1
  | .boxT _ _=>2
  | .storeB _=>2
  | .apps=>2
  | .appB=>2
  | .boxH _ _=>2
  | .appH _ _=>2
  | .rngm=>2
  | .ent=>1
  | .callA _ _=>2
  |_=>0
def zb0:Src→List Nat| .t i=> [i]| .c _=> []
def zd6:LK→List Nat
 | .op _ xs=>xs.flatMap zb0
 | .pick c x y=>c::(zb0 x++zb0 y)
def zW (i:LI):List Nat:=(match i.g with|some (t,_)=> [t]|none=> [])++zd6 i.k
def zeu (i j:LI):Bool:=
 i.dst.all (fun d=> !(zW j).contains d&& !(j.dst.toList).contains d)&&j.dst.all (fun d=> !(zW i).contains d)&&(kH i.k==0||kH j.k==0||(decide (kH i.k≤1)&&decide (kH j.k≤1)))
/-! ### Operations that can be told apart by where they go -/
def zaj:LK→Bool
 | .op (.box _) _=>true
 | .op (.bsl false _ _ _ _) _=>true
 | .op .mkmap _=>true
 | .op (.mksl _ _) _=>true
 | .op (.boxT _ _) _=>true
 |_=>false
def zkq:LK→Bool
 | .op (.store _) _=>true
 | .op (.pubcall _) _=>true
 | .op (.load _ _ _) _=>true
 | .op (.idxa _ _) _=>true
 | .op (.slc _ _ _ _ _) _=>true
 | .op (.mget _ _ _) _=>true
 |_=>false
def zX:LK→Option Nat
 | .op (.load _ _ _) (.t a::_)=>some a
 | .op (.idxa _ _) (.t a::_)=>some a
 | .op (.slc _ _ _ _ _) (.t a::_)=>some a
 |_=>none
def zbo:LK→List Nat
 | .op k (_::_::ax)=>if (za9 k).isSome then ax.flatMap zb0 else []
 |_=> []
def dstB (i j:LI):Bool:=i.dst.all (fun d=> !(zW j).contains d&& !(j.dst.toList).contains d)&&j.dst.all (fun d=> !(zW i).contains d)
def zjL:LK→LK| .op (.storeA n) xs=> .op (.store n) (xs.take 2)| .op (.appA n) xs=> .op (.app n) (xs.take 2)| .op (.callA f n) xs=> .op (.call f) (xs.take n)|k=>k
theorem zaQ {k k0:OpK} {xs:List Src} (h:za9 k=some k0):zjL (.op k xs)= .op k0 (xs.take 2):=by
 cases k<;>simp only[za9,reduceCtorEq,Option.some.injEq]at h<;>subst h<;>rfl
theorem zhe {k:OpK} {xs:List Src} (h:za9 k=none) (hc:∀f n,k≠.callA f n):zjL (.op k xs)= .op k xs:=by
 cases k<;>first|rfl|exact absurd rfl (hc _ _)|(cases h;done)
def plain (i:LI):LI:=⟨i.dst,zjL i.k,i.g⟩
def soft (p i:LI):Bool:=dstB p i&&(zaj i.k&&zkq p.k)
def away (p i:LI) (r:List LI):Bool:=dstB p (plain i)&&(match zX p.k with|some a=>(zbo i.k).contains a&&(p::r).all (fun q=>decide (q.dst≠some a))|none=>false)
def storeAt:LK→Option Nat| .op (.store _) [.t a,_]=>some a|_=>none
def zkp:LK→Bool| .op (.storeA _) _=>true|_=>false
def zdD (p i:LI) (r:List LI):Bool:=dstB p (plain i)&&(zkp i.k&&(match storeAt p.k with|some a=>(zbo i.k).contains a&&(p::r).all (fun q=>decide (q.dst≠some a))|none=>false))
def zoC:LK→Bool| .op (.app _) _=>true|_=>false
def back (p i:LI):Bool:=dstB p i&&((zoC p.k||zaj p.k)&&((zX i.k).isSome&&decide (kH i.k=1)))
def za3:LK→Option Nat| .op (.mkslH t _ _) _=>some t| .op (.boxH t _) _=>some t| .op (.appH t _) _=>some t|_=>none
def zev (p i:LI):Bool:=dstB p i&&(match za3 p.k,za3 i.k with|some a,some b=>decide (a≠b)|some _,none=>zaj i.k|none,some _=>zaj p.k||(zX p.k).isSome|none,none=>false)
def zbr:LK→List Nat| .op (.callA _ n) xs=>(xs.drop n).flatMap zb0|_=> []
def zdC (p i:LI) (r:List LI):Bool:=dstB p (plain i)&&(match zX p.k with|some a=>(zbr i.k).contains a&&(p::r).all (fun q=>decide (q.dst≠some a))|none=>false)
def zfI (p i:LI):Bool:=dstB p i&&(match zX i.k with|some a=>decide (kH i.k=1)&&(zbr p.k).contains a|none=>false)
def anc (ops:Array Oper):Nat→Nat→Nat→Bool
 |0,_,_=>false
 |n+1,k,p=>match ops[k]? with|some o=>o.after.toList.any (fun e=>Region.binds .any e&&(e.on==p||anc ops n e.on p))|none=>false
def zmQ (ops:Array Oper) (lis:List LI):Bool:=
 (List.range ops.size).all fun k=>match ops[k]?,lis[k]? with
  |some o,some li=>(o.after.toList.all fun e=> !Region.binds .any e||decide (e.on<k))&&
    ((List.range k).all fun p=>(o.after.toList.any fun e=>Region.binds .any e&&e.on==p)||(match lis[p]? with|some lp=>zeu lp (plain li)||soft lp (plain li)||away lp li ((lis.take k).drop (p+1))||back lp (plain li)||zev lp (plain li)||zdD lp li ((lis.take k).drop (p+1))||zdC lp li ((lis.take k).drop (p+1))||zfI lp (plain li)|none=>false)||anc ops ops.size k p)
  |_,_=>false
section region
variable {P:Program} {C:zaT} {K:Ctx} {ρ:Option Nat}
theorem zez {E E':Env}:∀{xs:List Src},(∀s∈xs.flatMap zb0,E' s=E s)→vals E' xs=vals E xs
 | [],_=>rfl
 |x::xs,h=>by
  have h1:evS E' x=evS E x:=by
   cases x with
   |t i=>exact h i (by simp[zb0])
   |c v=>rfl
  have h2:vals E' xs=vals E xs:=zez (fun s hs=>h s (by simp only[List.flatMap_cons,List.mem_append];exact .inr hs))
  simp only[vals,h1,h2]
theorem zx {R:Rec} {i:LI} {E E1:Env} {H H1:Heap} (h:zt R i E H=some (E1,H1)):
  ∃v,E1=putE E i.dst v∧∀E',(∀s∈zW i,E' s=E s)→zt R i E' H=some (putE E' i.dst v,H1):=by
 obtain⟨d,k,g⟩:=i
 have hg:∀E',(∀s∈zW ⟨d,k,g⟩,E' s=E s)→gval E' g=gval E g:=by
  intro E' hE
  refine zaR (fun t want e=>hE t ?_)
  simp[zW,e]
 unfold zt at h
 simp only at h
 split at h
 .rename_i hgt
  cases k with
  |op k xs=>
   simp only[zbf]at h
   split at h
   .rename_i vs hvs
    cases hx:exec R H k vs with
    |none=>simp[hx]at h
    |some p=>
     simp only[hx,Option.map_some,Option.some.injEq,Prod.mk.injEq]at h
     obtain⟨rfl,rfl⟩:=h
     refine⟨p.1,rfl,?_⟩
     intro E' hE
     have hv:vals E' xs=some vs:=by
      rw[zez (E:=E) (fun s hs=>hE s (by simp only[zW,zd6,List.mem_append];exact .inr hs))];exact hvs
     simp only[zt,hg E' hE,hgt,zbf,hv,hx,Option.map_some]
   .cases h
  |pick c x y=>
   simp only[zbf]at h
   split at h
   .rename_i t hEc
    cases hok:okO (evS E (if t then x else y)) with
    |none=>simp[hok]at h
    |some v=>
     simp only[hok,Option.map_some,Option.some.injEq,Prod.mk.injEq]at h
     obtain⟨rfl,rfl⟩:=h
     refine⟨v,rfl,?_⟩
     intro E' hE
     have hc:E' c= .bool t:=by rw[hE c (by simp[zW,zd6])];exact hEc
     have hs:evS E' (if t then x else y)=evS E (if t then x else y):=by
      cases t
      .simp only[Bool.false_eq_true,if_false]
       cases y with
       |t i=>exact hE i (by simp[zW,zd6,zb0])
       |c v=>rfl
      .simp only[if_true]
       cases x with
       |t i=>exact hE i (by simp[zW,zd6,zb0])
       |c v=>rfl
     simp only[zt,hg E' hE,hgt,zbf,hc,hs,hok,Option.map_some]
   .cases h
 .rename_i hgf
  cases h
  refine⟨.und,rfl,?_⟩
  intro E' hE
  simp only[zt,hg E' hE,hgf]
 .cases h
theorem zdP {R:Rec} {k:OpK} {xs:List Src} {vs:List AV} {H:Heap} {r:AV×Heap} (hk:kH (.op k xs)≤1) (h:exec R H k vs=some r):r.2=H:=by
 obtain⟨v,H1⟩:=r
 by_cases hp:(∃f,k= .pcall f)∨∃f,k= .fcall f
 .rcases hp with⟨f,rfl⟩|⟨f,rfl⟩
  .simp only[exec]at h
   cases hq:R.pure f vs with
   |none=>simp[hq]at h
   |some x=>simp only[hq,Option.map_some,Option.some.injEq,Prod.mk.injEq]at h;exact h.2.symm
  .simp only[exec,Option.bind_eq_some_iff]at h
   obtain⟨as',_,x,_,h⟩:=h
   split at h
   .cases h;rfl
   .cases h
 .by_cases hq:k.quiet=true
  .have hx:zao H k vs=some (v,H1):=by cases k<;>first|exact h|cases hq
   exact (zu hq hx).2.2
  .cases k<;>first|exact absurd rfl hq|(simp[kH]at hk;done)|exact absurd (.inl ⟨_,rfl⟩) hp|exact absurd (.inr ⟨_,rfl⟩) hp|skip
   rename_i imm sz n z ps
   cases imm with
   |false=>simp[kH]at hk
   |true=>
    have hx:ex H (.bsl true sz n z ps) vs=some (v,H1):=zP rfl h
    simp only[ex]at hx
    split at hx
    .simp only[if_true]at hx
     cases hb:bslE sz (List.replicate n z) ps vs with
     |none=>simp[hb]at hx
     |some es=>
      simp only[hb,Option.bind_some]at hx
      split at hx
      .cases hx;rfl
      .cases hx
    .cases hx
theorem zkR {R:Rec} {k:OpK} {xs:List Src} {vs:List AV} {H:Heap} {r:AV×Heap} (hk:kH (.op k xs)=0) (h:exec R H k vs=some r) (H2:Heap):exec R H2 k vs=some (r.1,H2):=by
 obtain⟨v,H1⟩:=r
 by_cases hp:∃f,k= .pcall f
 .obtain⟨f,rfl⟩:=hp
  simp only[exec]at h⊢
  cases hq:R.pure f vs with
  |none=>simp[hq]at h
  |some x=>simp only[hq,Option.map_some,Option.some.injEq,Prod.mk.injEq]at h⊢;exact⟨h.1,trivial⟩
 .by_cases hq:k.quiet=true
  .have hx:zao H k vs=some (v,H1):=by cases k<;>first|exact h|cases hq
   obtain⟨e1,e2,e3⟩:=zu hq hx
   have e4:qx H2 k vs=v:=by
    have hnb:∀(imm:Bool) (x:AV) (y:AV),(if imm&& !x.imm then AV.bad else y)=v→imm=true→x.imm=true∧y=v:=by
     intro imm x y hh hi
     subst hi
     cases hxi:x.imm with
     |false=>simp[hxi]at hh;exact absurd hh.symm e2
     |true=>simp[hxi]at hh;exact⟨rfl,hh⟩
    cases k with
    |load imm g n=>
     have himm:imm=true:=by cases imm<;>simp[kH]at hk⊢
     match vs,e1 with
     | [x],e1=>
      obtain⟨h1,h2⟩:=hnb _ _ _ e1 himm
      simp only[qx,h1,Bool.not_true,Bool.and_false,Bool.false_eq_true,if_false]
      cases x<;>first|exact h2|cases h1
     | [],e1=>exact e1
     |_::_::_,e1=>exact e1
    |idxa imm sz=>
     have himm:imm=true:=by cases imm<;>simp[kH]at hk⊢
     match vs,e1 with
     | [x,y],e1=>
      obtain⟨h1,h2⟩:=hnb _ _ _ e1 himm
      simp only[qx,h1,Bool.not_true,Bool.and_false,Bool.false_eq_true,if_false]
      cases x<;>first|(cases y<;>exact h2)|cases h1
     | [],e1=>exact e1
     | [_],e1=>exact e1
     |_::_::_::_,e1=>exact e1
    |slc imm str sz lo hi=>
     have himm:imm=true:=by cases imm<;>simp[kH]at hk⊢
     match vs,e1 with
     |x::bs,e1=>
      obtain⟨h1,h2⟩:=hnb _ _ _ e1 himm
      simp only[qx,h1,Bool.not_true,Bool.and_false,Bool.false_eq_true,if_false]
      cases x<;>first|(cases str<;>exact h2)|cases h1
     | [],e1=>exact e1
    |mget q o z=>simp[kH]at hk
    |b2s=>simp[kH]at hk
    |lenm=>simp[kH]at hk
    |ent=>simp[kH]at hk
    |loadB g n=>simp[kH]at hk
    |_=>rcases vs with _|⟨x,_|⟨y,_|⟨z,_|⟨u,r⟩⟩⟩⟩<;>exact e1
   have hx2:zao H2 k vs=some (v,H2):=zcl hq e4 e2
   cases k<;>first|exact hx2|cases hq
  .cases k<;>first|exact absurd rfl hq|(simp[kH]at hk;done)|exact absurd ⟨_,rfl⟩ hp|skip
   rename_i imm sz n z ps
   cases imm with
   |false=>simp[kH]at hk
   |true=>
    have hx:ex H (.bsl true sz n z ps) vs=some (v,H1):=zP rfl h
    show zao H2 (.bsl true sz n z ps) vs=_
    unfold zao
    rw[if_neg (by simp[OpK.quiet])]
    simp only[ex]at hx⊢
    split at hx
    .rename_i hc
     rw[if_pos hc]
     simp only[if_true]at hx⊢
     cases hb:bslE sz (List.replicate n z) ps vs with
     |none=>simp[hb]at hx
     |some es=>
      simp only[hb,Option.bind_some]at hx⊢
      split at hx
      .rename_i hs;rw[if_pos hs];cases hx;rfl
      .cases hx
    .cases hx
theorem zaI {R:Rec} {i:LI} {E E1:Env} {H H1:Heap} (hk:kH i.k≤1) (h:zt R i E H=some (E1,H1)):H1=H:=by
 obtain⟨d,k,g⟩:=i
 unfold zt at h
 simp only at h
 split at h
 .cases k with
  |op k xs=>
   simp only[zbf]at h
   split at h
   .rename_i vs hvs
    cases hx:exec R H k vs with
    |none=>simp[hx]at h
    |some p=>
     simp only[hx,Option.map_some,Option.some.injEq,Prod.mk.injEq]at h
     rw[←h.2];exact zdP hk hx
   .cases h
  |pick c x y=>
   simp only[zbf]at h
   split at h
   .rename_i t hEc
    cases hok:okO (evS E (if t then x else y)) with
    |none=>simp[hok]at h
    |some v=>simp only[hok,Option.map_some,Option.some.injEq,Prod.mk.injEq]at h;exact h.2.symm
   .cases h
 .cases h;rfl
 .cases h
theorem zeV {R:Rec} {i:LI} {E E1:Env} {H H1:Heap} (hk:kH i.k=0) (h:zt R i E H=some (E1,H1)) (H2:Heap):zt R i E H2=some (E1,H2):=by
 obtain⟨d,k,g⟩:=i
 unfold zt at h⊢
 simp only at h⊢
 split at h
 .cases k with
  |op k xs=>
   simp only[zbf]at h⊢
   split at h
   .rename_i vs hvs
    cases hx:exec R H k vs with
    |none=>simp[hx]at h
    |some p=>
     simp only[hx,Option.map_some,Option.some.injEq,Prod.mk.injEq]at h
     rw[zkR hk hx H2]
     simp[h.1]
   .cases h
  |pick c x y=>
   simp only[zbf]at h⊢
   split at h
   .rename_i t hEc
    cases hok:okO (evS E (if t then x else y)) with
    |none=>simp[hok]at h
    |some v=>simp only[hok,Option.map_some,Option.some.injEq,Prod.mk.injEq]at h⊢;exact⟨h.1,trivial⟩
   .cases h
 .cases h;rfl
 .cases h
theorem zax {E:Env} {d d':Option Nat} {v v':AV} (h:∀x,d=some x→d'≠some x):putE (putE E d v) d' v'=putE (putE E d' v') d v:=by
 funext i
 simp only[zy]
 by_cases h1:d=some i
 .rw[if_neg (h i h1),if_pos h1,if_pos h1]
 .rw[if_neg h1,if_neg h1]
theorem zpn {R:Rec} {i j:LI} {E E1 E2:Env} {H H1 H2:Heap} (hi:zeu i j=true) (h1:zt R i E H=some (E1,H1)) (h2:zt R j E1 H1=some (E2,H2)):
  ∃E' H',zt R j E H=some (E',H')∧zt R i E' H'=some (E2,H2):=by
 simp only[zeu,Bool.and_eq_true,Bool.or_eq_true,beq_iff_eq,decide_eq_true_eq]at hi
 obtain⟨⟨s1,s2⟩,s3⟩:=hi
 obtain⟨vi,rfl,ci⟩:=zx h1
 obtain⟨vj,rfl,cj⟩:=zx h2
 have rj:∀s∈zW j,E s=(putE E i.dst vi) s:=by
  intro s hs
  rw[zy]
  split
  .rename_i hd
   rw[hd]at s1
   simp at s1
   exact absurd hs s1.1
  .rfl
 have ri:∀s∈zW i,(putE E j.dst vj) s=E s:=by
  intro s hs
  rw[zy]
  split
  .rename_i hd
   rw[hd]at s2
   simp at s2
   exact absurd hs s2
  .rfl
 have hne:∀x,i.dst=some x→j.dst≠some x:=by
  intro x hx hj
  rw[hx,hj]at s1
  simp at s1
 have hj0:=cj E rj
 have hi0:=ci _ ri
 rcases s3 with (s3|s3)|⟨s3,s4⟩
 .have e1:H1=H:=zaI (by omega) h1
  subst e1
  refine⟨_,_,hj0,?_⟩
  rw[zeV s3 hi0 H2,zax (d:=j.dst) (fun x hx hi=>hne x hi hx)]
 .have e1:H2=H1:=zaI (by omega) h2
  subst e1
  refine⟨_,_,zeV s3 hj0 H,?_⟩
  rw[hi0,zax (d:=j.dst) (fun x hx hi=>hne x hi hx)]
 .have e1:H1=H:=zaI s3 h1
  subst e1
  have e2:H2=H1:=zaI s4 h2
  subst e2
  refine⟨_,_,hj0,?_⟩
  rw[hi0,zax (d:=j.dst) (fun x hx hi=>hne x hi hx)]
theorem zck {R:Rec} {k:OpK} {xs:List Src} {vs:List AV} {v:AV} {H H2:Heap} (hk:zaj (.op k xs)=true) (h:exec R H k vs=some (v,H2)):∃b,H2=H++[b]∧∀G:Heap,G.length=H.length→exec R G k vs=some (v,G++[b]):=by
 cases k<;>simp only[zaj,Bool.false_eq_true]at hk
 .rename_i sz
  have hx:ex H (.box sz) vs=some (v,H2):=h
  match vs,hx with
  | [],hx=>simp[ex]at hx
  | [x],hx=>
   simp only[ex]at hx
   split at hx
   .rename_i hc
    simp only[Option.some.injEq,Prod.mk.injEq]at hx
    obtain⟨rfl,rfl⟩:=hx
    refine⟨_,rfl,fun G hG=>?_⟩
    show ex G (.box sz) [x]=_
    simp only[ex,if_pos hc,hG]
   .cases hx
  |_::_::_,hx=>simp[ex]at hx
 .rename_i imm sz len z ps
  cases imm with
  |true=>simp at hk
  |false=>
   have hx:ex H (.bsl false sz len z ps) vs=some (v,H2):=h
   simp only[ex,Bool.false_eq_true,if_false]at hx
   split at hx
   .rename_i hc
    simp only[Option.map_eq_some_iff,Prod.mk.injEq]at hx
    obtain⟨es,he,rfl,rfl⟩:=hx
    refine⟨_,rfl,fun G hG=>?_⟩
    show ex G (.bsl false sz len z ps) vs=_
    simp only[ex,Bool.false_eq_true,if_false,if_pos hc,he,Option.map_some,hG]
   .cases hx
 .rename_i sz z
  have hx:ex H (.mksl sz z) vs=some (v,H2):=h
  rcases vs with _|⟨a,_|⟨b,_|⟨c,r⟩⟩⟩<;>simp only[ex]at hx<;>try cases hx
  .cases a<;>cases b<;>simp only[ex]at hx<;>try cases hx
   rename_i k1 n1 k2 n2
   split at hx
   .rename_i hc
    simp only[Option.some.injEq,Prod.mk.injEq]at hx
    obtain⟨rfl,rfl⟩:=hx
    refine⟨_,rfl,fun G hG=>?_⟩
    show ex G (.mksl sz z) [.int k1 n1,.int k2 n2]=_
    simp only[ex,if_pos hc,hG]
   .cases hx
 .have hx:ex H .mkmap vs=some (v,H2):=h
  match vs,hx with
  | [],hx=>
   simp only[ex,Option.some.injEq,Prod.mk.injEq]at hx
   obtain⟨rfl,rfl⟩:=hx
   refine⟨_,rfl,fun G hG=>?_⟩
   show ex G .mkmap []=_
   simp only[ex,hG]
  |_::_,hx=>simp[ex]at hx
 .rename_i ty sz
  have hx:ex H (.boxT ty sz) vs=some (v,H2):=h
  match vs,hx with
  | [],hx=>simp[ex]at hx
  | [x],hx=>
   simp only[ex]at hx
   split at hx
   .rename_i hc
    simp only[Option.some.injEq,Prod.mk.injEq]at hx
    obtain⟨rfl,rfl⟩:=hx
    refine⟨_,rfl,fun G hG=>?_⟩
    show ex G (.boxT ty sz) [x]=_
    simp only[ex,if_pos hc,hG]
   .cases hx
  |_::_::_,hx=>simp[ex]at hx
theorem zcj {H:Heap} {id:Nat} {B:Blk} (h:H[id]?=some B) (b:Blk):(H++[b])[id]?=some B:=by
 rw[gEa (gEs.1 h).1];exact h
theorem zhM {H:Heap} {id:Nat} {B:Blk} (h:H[id]?=some B) (B' b:Blk):(H++[b]).set id B'=H.set id B'++[b]:=by
 rw[List.set_append_left _ _ (gEs.1 h).1]
theorem ziM {H:Heap} {g:Bool} {n:Nat} {x:AV} (b:Blk) (h:zbu H g n x≠.bad):zbu (H++[b]) g n x=zbu H g n x:=by
 cases x<;>try rfl
 rename_i id ver idx off
 simp only[zbu]at h⊢
 cases hb:H[id]? with
 |none=>simp[hb]at h
 |some B=>rw[zcj hb]
theorem ziP {H:Heap} {sz:Nat} {x y:AV} (b:Blk) (h:zb7 H sz x y≠.bad):zb7 (H++[b]) sz x y=zb7 H sz x y:=by
 cases x<;>cases y<;>try rfl
 rename_i id ver off len k n
 simp only[zb7]at h⊢
 cases hb:H[id]? with
 |none=>simp[hb]at h
 |some B=>rw[zcj hb]
theorem zjp {H:Heap} {str:Bool} {sz:Nat} {lo hi:Bool} {x:AV} {bs:List AV} (b:Blk) (h:slcV H str sz lo hi x bs≠.bad):slcV (H++[b]) str sz lo hi x bs=slcV H str sz lo hi x bs:=by
 cases str<;>cases x<;>try rfl
 rename_i id ver off len
 simp only[slcV]at h⊢
 cases hb:H[id]? with
 |none=>simp[hb]at h
 |some B=>rw[zcj hb]
theorem ziK {H:Heap} {m:AV} {es:List (AV×AV)} (b:Blk) (h:zet H m=some es):zet (H++[b]) m=some es:=by
 cases m<;>simp only[zet]at h⊢<;>try cases h
 .cases hb:H[‹Nat›]? with
  |none=>simp[hb]at h
  |some B=>rw[zcj hb];rw[hb]at h;exact h
 .rfl
theorem ziI {H:Heap} {q:Nat} {ok:Bool} {z m k:AV} (b:Blk) (h:zcO H q ok z m k≠.bad):zcO (H++[b]) q ok z m k=zcO H q ok z m k:=by
 unfold zcO at h⊢
 cases hm:zet H m with
 |none=>simp[hm]at h
 |some es=>rw[ziK b hm]
theorem zbZ {H:Heap} {x:AV} (b:Blk) (h:(pub1 H x).1.still=true):pub1 (H++[b]) x=((pub1 H x).1,(pub1 H x).2++[b]):=by
 cases x<;>try rfl
 rename_i id ver off len
 simp only[pub1]at h⊢
 cases hb:H[id]? with
 |none=>simp only[hb]at h;cases h
 |some B=>
  rw[zcj hb]
  cases B with
  |arr v' s sh es=>
   simp only[hb]at h⊢
   split at h
   .rename_i hc;simp only[if_pos hc,zhM hb]
   .cases h
  |_=>simp only[hb]at h;cases h
theorem zeI:∀{xs:List AV} {H:Heap} (b:Blk),(zda H xs).1.all AV.still=true→zda (H++[b]) xs=((zda H xs).1,(zda H xs).2++[b])
 | [],H,b,_=>rfl
 |x::xs,H,b,h=>by
  simp only[zda,List.all_cons,Bool.and_eq_true]at h⊢
  rw[zbZ b h.1]
  simp only
  rw[zeI b h.2]
theorem zf4 {H:Heap} {x:AV} (h:∀id ver off len,x≠.osl id ver off len):pub1 H x=(x,H):=by
 cases x<;>first|rfl|exact absurd rfl (h _ _ _ _)
theorem zjI {H:Heap} {x:AV} (b:Blk) (h:(pubA H x).1.flat=true):pubA (H++[b]) x=((pubA H x).1,(pubA H x).2++[b]):=by
 by_cases ha:∃cs,x= .agg cs
 .obtain⟨cs,rfl⟩:=ha
  simp only[pubA]at h⊢
  rw[zeI b h]
 .have e:∀G,pubA G x=pub1 G x:=by intro G;cases x<;>first|rfl|exact absurd ⟨_,rfl⟩ ha
  rw[e]at h
  rw[e,e]
  by_cases ho:∃id ver off len,x= .osl id ver off len
  .refine zbZ b ?_
   obtain⟨id,ver,off,len,rfl⟩:=ho
   simp only[pub1]at h⊢
   split at h
   .split at h
    .rename_i hc;simp only[if_pos hc];rfl
    .cases h
   .cases h
  .have hn:∀id ver off len,x≠.osl id ver off len:=fun a b c d e=>ho ⟨a,b,c,d,e⟩
   rw[zf4 hn,zf4 hn]
theorem zeJ:∀{xs:List AV} {H:Heap} (b:Blk),(zbW H xs).1.all AV.flat=true→zbW (H++[b]) xs=((zbW H xs).1,(zbW H xs).2++[b])
 | [],H,b,_=>rfl
 |x::xs,H,b,h=>by
  simp only[zbW,List.all_cons,Bool.and_eq_true]at h⊢
  rw[zjI b h.1]
  simp only
  rw[zeJ b h.2]
theorem zhW (H:Heap) (x:AV):(pub1 H x).2.length=H.length:=by
 unfold pub1
 split
 .split
  .split
   .simp
   .rfl
  .rfl
 .rfl
theorem zf2:∀(xs:List AV) (H:Heap),(zda H xs).2.length=H.length
 | [],H=>rfl
 |x::xs,H=>by simp only[zda];rw[zf2 xs,zhW]
theorem zlZ (H:Heap) (x:AV):(pubA H x).2.length=H.length:=by
 unfold pubA
 split
 .exact zf2 _ _
 .exact zhW _ _
theorem zf3:∀(xs:List AV) (H:Heap),(zbW H xs).2.length=H.length
 | [],H=>rfl
 |x::xs,H=>by simp only[zbW];rw[zf3 xs,zlZ]
theorem zcg {R:Rec} {k:OpK} {vs:List AV} {v:AV} {H H1:Heap} (hq:k.quiet=true) (hc:k.isCall=false) (h:exec R H k vs=some (v,H1)) (b:Blk) (hp:qx H k vs≠.bad→qx (H++[b]) k vs=qx H k vs):H1.length=H.length∧exec R (H++[b]) k vs=some (v,H1++[b]):=by
 have hx:zao H k vs=some (v,H1):=by cases k<;>first|exact h|cases hq
 obtain⟨e1,e2,rfl⟩:=zu hq hx
 refine⟨rfl,?_⟩
 have:zao (H1++[b]) k vs=some (v,H1++[b]):=zcl hq (by rw[hp (by rw[e1];exact e2)];exact e1) e2
 cases k<;>first|exact this|cases hq
theorem zkS {R:Rec} {k:OpK} {xs:List Src} {vs:List AV} {v:AV} {H H1:Heap} (hk:zkq (.op k xs)=true) (h:exec R H k vs=some (v,H1)) (b:Blk):H1.length=H.length∧exec R (H++[b]) k vs=some (v,H1++[b]):=by
 cases k<;>simp only[zkq,Bool.false_eq_true]at hk
 .rename_i imm g n
  refine zcg rfl rfl h b fun hb=>?_
  rcases vs with _|⟨x,_|⟨y,r⟩⟩<;>try rfl
  simp only[qx]at hb⊢
  split at hb
  .exact absurd rfl hb
  .rename_i hc;rw[if_neg hc,if_neg hc];exact ziM b hb
 .rename_i imm sz
  refine zcg rfl rfl h b fun hb=>?_
  rcases vs with _|⟨x,_|⟨y,_|⟨z,r⟩⟩⟩<;>try rfl
  simp only[qx]at hb⊢
  split at hb
  .exact absurd rfl hb
  .rename_i hc;rw[if_neg hc,if_neg hc];exact ziP b hb
 .rename_i imm str sz lo hi
  refine zcg rfl rfl h b fun hb=>?_
  rcases vs with _|⟨x,bs⟩<;>try rfl
  simp only[qx]at hb⊢
  split at hb
  .exact absurd rfl hb
  .rename_i hc;rw[if_neg hc,if_neg hc];exact zjp b hb
 .rename_i f
  simp only[exec]at h⊢
  split at h
  .rename_i hf
   simp only[Option.map_eq_some_iff,Prod.mk.injEq]at h
   obtain⟨r,h1,rfl,rfl⟩:=h
   rw[zeJ b hf]
   simp only[if_pos hf,h1,Option.map_some]
   exact⟨zf3 _ _,trivial⟩
  .cases h
 .rename_i n
  have hx:ex H (.store n) vs=some (v,H1):=h
  rcases vs with _|⟨p,_|⟨x,_|⟨z,r⟩⟩⟩<;>simp only[ex]at hx<;>try cases hx
  show _∧zaJ (H++[b]) n p x=_
  unfold zaJ at hx⊢
  cases p<;>simp only at hx⊢<;>try cases hx
  rename_i id ver idx off
  cases hb:H[id]? with
  |none=>simp[hb]at hx
  |some B=>
   rw[zcj hb]
   simp only[hb]at hx⊢
   cases B with
   |arr v' sz sh es=>
    cases sh with
    |true=>simp at hx
    |false=>
     simp only at hx⊢
     split at hx
     .rename_i hc
      rw[if_pos hc]
      simp only[Option.map_eq_some_iff,Prod.mk.injEq]at hx
      obtain⟨es',h1,rfl,rfl⟩:=hx
      refine⟨by simp,?_⟩
      simp only[h1,Option.map_some,zhM hb]
     .cases hx
   |_=>simp at hx
 .rename_i q ok z
  refine zcg rfl rfl h b fun hb=>?_
  rcases vs with _|⟨x,_|⟨y,_|⟨w,r⟩⟩⟩<;>try rfl
  exact ziI b hb
theorem ziZ {H H2:Heap} {n:Nat} {p x u:AV} (h:zaJ H n p x=some (u,H2)):∃id ver idx off B,p= .optr id ver idx off∧H2=H.set id B:=by
 unfold zaJ at h
 split at h
 .rename_i id ver idx off
  split at h
  .split at h
   .simp only[Option.map_eq_some_iff,Prod.mk.injEq]at h
    obtain⟨es',_,_,rfl⟩:=h
    exact⟨_,_,_,_,_,rfl,rfl⟩
   .cases h
  .cases h
 .cases h
def zb5:AV→Option (Nat×Nat)| .optr id ver _ _=>some (id,ver)| .osl id ver _ _=>some (id,ver)|_=>none
theorem zd7 {R:Rec} {k:OpK} {xs:List Src} {a:Nat} {y:AV} {ys:List AV} {v:AV} {H H1 H2:Heap} (hk:zX (.op k xs)=some a) (h:exec R H1 k (y::ys)=some (v,H2))
  (look:∀id ver,zb5 y=some (id,ver)→∀(sz:Nat) (sh:Bool) (es:List AV),H1[id]?=some (.arr ver sz sh es)→∃sh' es',H[id]?=some (.arr ver sz sh' es')∧∀(i:Nat) (e:AV),es[i]?=some e→es'[i]?=some e):exec R H k (y::ys)=some (v,H):=by
 have fin:k.quiet=true→(∀u,qx H1 k (y::ys)=u→u≠.bad→qx H k (y::ys)=u)→exec R H k (y::ys)=some (v,H):=by
  intro hq he
  have hx:zao H1 k (y::ys)=some (v,H2):=by cases k<;>first|exact h|cases hq
  obtain⟨e1,e2,rfl⟩:=zu hq hx
  have:zao H k (y::ys)=some (v,H):=zcl hq (he _ e1 e2) e2
  cases k<;>first|exact this|cases hq
 cases k<;>simp only[zX]at hk<;>try cases hk
 .refine fin rfl ?_
  rename_i imm g n
  rcases ys with _|⟨y2,r⟩<;>try (intro u h1 h2;exact h1)
  intro u h1 h2
  simp only[qx]at h1⊢
  split at h1
  .exact absurd h1.symm h2
  .rename_i hc
   rw[if_neg hc]
   cases y<;>try exact h1
   rename_i id ver idx off
   simp only[zbu]at h1
   split at h1
   .rename_i v0 s0 sh0 es0 hb
    split at h1
    .rename_i hv
     subst hv
     obtain⟨sh',es',g1,g2⟩:=look id _ rfl _ _ _ hb
     split at h1
     .rename_i e he
      simp only[zbu,g1,if_true,g2 _ _ he]
      exact h1
     .exact absurd h1.symm h2
    .exact absurd h1.symm h2
   .exact absurd h1.symm h2
 .refine fin rfl ?_
  rename_i imm n
  rcases ys with _|⟨y2,_|⟨y3,r⟩⟩<;>try (intro u h1 h2;exact h1)
  intro u h1 h2
  simp only[qx]at h1⊢
  split at h1
  .exact absurd h1.symm h2
  .rename_i hc
   rw[if_neg hc]
   cases y<;>cases y2<;>try exact h1
   rename_i id ver off len _ _
   simp only[zb7]at h1
   split at h1
   .rename_i v0 s0 sh0 es0 hb
    split at h1
    .rename_i hv
     obtain⟨hv1,hv2⟩:=hv
     subst hv1
     obtain⟨sh',es',g1,g2⟩:=look id _ rfl _ _ _ hb
     simp only[zb7,g1]
     rw[if_pos ⟨trivial,hv2⟩]
     exact h1
    .exact absurd h1.symm h2
   .exact absurd h1.symm h2
 .refine fin rfl ?_
  rename_i imm str sz lo hi
  intro u h1 h2
  simp only[qx]at h1⊢
  split at h1
  .exact absurd h1.symm h2
  .rename_i hc
   rw[if_neg hc]
   cases y<;>cases str<;>try exact h1
   rename_i id ver off len
   simp only[slcV]at h1
   split at h1
   .rename_i v0 s0 sh0 es0 hb
    split at h1
    .rename_i hv
     obtain⟨hv1,hv2⟩:=hv
     subst hv1
     obtain⟨sh',es',g1,g2⟩:=look id _ rfl _ _ _ hb
     simp only[slcV,g1]
     rw[if_pos ⟨trivial,hv2⟩]
     exact h1
    .exact absurd h1.symm h2
   .exact absurd h1.symm h2
theorem zba {k:OpK} {xs:List Src} {a:Nat} (hr:zX (.op k xs)=some a):kH (.op k xs)≤1:=by
 cases k<;>simp only[zX]at hr<;>try cases hr
 all_goals (simp only[kH];split<;>omega)
theorem zeY {R:Rec} {k:OpK} {xs:List Src} {a:Nat} {y:AV} {ys:List AV} {v:AV} {H H1 H2:Heap} (hk:zX (.op k xs)=some a) (h:exec R H k (y::ys)=some (v,H1)) (keep:∀id ver,zb5 y=some (id,ver)→∀b,H[id]?=some b→H2[id]?=some b):H1=H∧exec R H2 k (y::ys)=some (v,H2):=by
 have hH:H1=H:=zdP (zba hk) h
 refine⟨hH,zd7 hk h (fun id ver hp sz sh es hb=>⟨sh,es,keep id ver hp _ hb,fun _ _ h=>h⟩)⟩
theorem ziq {H:Heap} {id ver off len j:Nat} (hj:id≠j):(truncH H (.osl id ver off len))[j]?=H[j]?:=by
 unfold truncH
 simp only
 split
 .split
  .exact gEn hj
  .rfl
 .rfl
theorem zi8 {H H2:Heap} {k k0:OpK} {p x u y:AV} (hb:za9 k=some k0) (hs:zao H k0 [p,x]=some (u,H2)) (ha:apart p y=true):∀id ver,zb5 y=some (id,ver)→∀b,H[id]?=some b→H2[id]?=some b:=by
 intro id ver hp b hB
 have hlt:=(gEs.1 hB).1
 cases k<;>simp only[za9,reduceCtorEq,Option.some.injEq]at hb
 .subst hb
  obtain⟨id',ver',idx,off,B,rfl,rfl⟩:=ziZ hs
  have hne:id'≠id:=by
   cases y<;>simp only[zb5,reduceCtorEq,Option.some.injEq,Prod.mk.injEq]at hp
   all_goals
    obtain⟨rfl,rfl⟩:=hp
    simpa[apart]using ha
  rw[gEn hne];exact hB
 .subst hb
  rename_i sz
  have hx:ex H (.app sz) [p,x]=some (u,H2):=hs
  simp only[ex]at hx
  split at hx
  .split at hx
   .unfold zby at hx
    split at hx
    .have ht:truncH H (.isl (some true) ‹Nat› [])=H:=rfl
     rw[ht]at hx
     split at hx
     .cases hx;exact hB
     .split at hx
      .cases hx;rw[gEa hlt];exact hB
      .cases hx
    .rename_i id' ver' off' len'
     have hne:id'≠id:=by
      cases y<;>simp only[zb5,reduceCtorEq,Option.some.injEq,Prod.mk.injEq]at hp
      all_goals
       obtain⟨rfl,rfl⟩:=hp
       simpa[apart]using ha
     have hT:=ziq (H:=H) (ver:=ver') (off:=off') (len:=len') hne
     split at hx
     .split at hx
      .split at hx
       .cases hx;rw[hT];exact hB
       .split at hx
        .cases hx;rw[gEn hne,hT];exact hB
        .cases hx
      .cases hx
     .cases hx
    .split at hx
     .cases hx;exact hB
     .cases hx
    .have ht:truncH H .emp=H:=rfl
     rw[ht]at hx
     split at hx
     .cases hx
     .split at hx
      .cases hx;rw[gEa hlt];exact hB
      .cases hx
    .cases hx
   .cases hx
  .cases hx
theorem zc5 {E:Nat→AV}:∀{xs:List Src} {vs:List AV} {a:Nat},vals E xs=some vs→a∈xs.flatMap zb0→E a∈vs
 | [],vs,a,h,ha=>by simp at ha
 |x::xs,vs,a,h,ha=>by
  simp only[vals]at h
  split at h
  .rename_i v vs' h1 h2
   cases h
   simp only[List.flatMap_cons,List.mem_append]at ha
   rcases ha with ha|ha
   .cases x with
    |c w=>simp[zb0]at ha
    |t i=>
     simp[zb0]at ha
     subst ha
     obtain⟨e,_⟩:=zar h1
     have:E a=v:=e
     rw[this];simp
   .exact List.mem_cons_of_mem _ (zc5 h2 ha)
  .cases h
theorem zas {R:Rec} {i:LI} {E E1:Env} {H H1:Heap} (h:zt R i E H=some (E1,H1)):(H1=H∧∀H2,zt R i E H2=some (E1,H2))∨∃k xs vs v,i.k= .op k xs∧vals E xs=some vs∧exec R H k vs=some (v,H1)∧∀H2 H3,exec R H2 k vs=some (v,H3)→zt R i E H2=some (E1,H3):=by
 obtain⟨d,k,g⟩:=i
 unfold zt at h
 simp only at h
 split at h
 .rename_i hg
  cases k with
  |op k xs=>
   simp only[zbf]at h
   split at h
   .rename_i vs hvs
    cases hx:exec R H k vs with
    |none=>simp[hx]at h
    |some p=>
     simp only[hx,Option.map_some,Option.some.injEq,Prod.mk.injEq]at h
     obtain⟨rfl,rfl⟩:=h
     refine .inr ⟨k,xs,vs,p.1,rfl,hvs,hx,fun H2 H3 h3=>?_⟩
     unfold zt
     simp only[hg,zbf,hvs,h3,Option.map_some]
   .cases h
  |pick c x y=>
   simp only[zbf]at h
   split at h
   .rename_i t hEc
    cases hok:okO (evS E (if t then x else y)) with
    |none=>simp[hok]at h
    |some v=>
     simp only[hok,Option.map_some,Option.some.injEq,Prod.mk.injEq]at h
     obtain⟨rfl,rfl⟩:=h
     refine .inl ⟨rfl,fun H2=>?_⟩
     unfold zt
     simp only[hg,zbf,hEc,hok,Option.map_some]
   .cases h
 .rename_i hg
  cases h
  refine .inl ⟨rfl,fun H2=>?_⟩
  unfold zt
  simp only[hg]
 .cases h
theorem zgL {R:Rec} {p i:LI} {E E1 E2:Env} {H H1 H2:Heap} (hi:soft p i=true) (h1:zt R p E H=some (E1,H1)) (h2:zt R i E1 H1=some (E2,H2)):
  ∃E' H',zt R i E H=some (E',H')∧zt R p E' H'=some (E2,H2):=by
 simp only[soft,dstB,Bool.and_eq_true]at hi
 obtain⟨⟨s1,s2⟩,s3⟩:=hi
 obtain⟨vi,rfl,ci⟩:=zx h1
 obtain⟨vj,rfl,cj⟩:=zx h2
 have rj:∀s∈zW i,E s=(putE E p.dst vi) s:=by
  intro s hs
  rw[zy]
  split
  .rename_i hd
   rw[hd]at s1
   simp at s1
   exact absurd hs s1.1
  .rfl
 have ri:∀s∈zW p,(putE E i.dst vj) s=E s:=by
  intro s hs
  rw[zy]
  split
  .rename_i hd
   rw[hd]at s2
   simp at s2
   exact absurd hs s2
  .rfl
 have hne:∀x,p.dst=some x→i.dst≠some x:=by
  intro x hx hj
  rw[hx,hj]at s1
  simp at s1
 have hi0:=cj E rj
 have comm:putE (putE E i.dst vj) p.dst vi=putE (putE E p.dst vi) i.dst vj:=zax (d:=i.dst) (fun x hx hi=>hne x hi hx)
 have move:∀G G2,zt R p E G=some (putE E p.dst vi,G2)→zt R p (putE E i.dst vj) G=some (putE (putE E p.dst vi) i.dst vj,G2):=by
  intro G G2 hg
  obtain⟨v,e1,c⟩:=zx hg
  have:=c (putE E i.dst vj) ri
  rw[this]
  by_cases hd:p.dst=none
  .rw[hd];simp only[putE]
  .obtain⟨d,hd⟩:=Option.ne_none_iff_exists'.1 hd
   have hv:v=vi:=by
    have:=congrFun e1 d
    rw[zy,zy,if_pos hd,if_pos hd]at this
    exact this.symm
   rw[hv,comm]
 rcases zas hi0 with⟨e,all⟩|⟨ki,xi,wi,ui,k1,k2,k3,k4⟩
 .subst e
  exact⟨_,_,all H,move _ _ h1⟩
 .rcases zas h1 with⟨e,all⟩|⟨kp,xp,wp,up,q1,q2,q3,q4⟩
  .subst e
   exact⟨_,_,hi0,move _ _ (all H2)⟩
  .rw[k1,q1]at s3
   obtain⟨s3,s4⟩:=s3
   obtain⟨b,rfl,ha⟩:=zck s3 k3
   obtain⟨g1,g2⟩:=zkS s4 q3 b
   exact⟨_,_,k4 _ _ (ha H g1.symm),move _ _ (q4 _ _ g2)⟩
theorem zij {k:LK} (h:zaj k=true):kH k=2:=by
 cases k with
 |pick c x y=>simp[zaj]at h
 |op k xs=>
  cases k<;>first|rfl|(simp[zaj]at h;done)|skip
  rename_i imm _ _ _ _
  cases imm<;>first|rfl|(simp[zaj]at h;done)
theorem zcT {R:Rec} {k:OpK} {xs:List Src} {vs:List AV} {v:AV} {H H2:Heap} {t:Nat} (hk:za3 (.op k xs)=some t) (h:exec R H k vs=some (v,H2)):∃id b,zj t H=some id∧H2=H.set id b∧(∀u,b≠.hole u)∧∀G:Heap,zj t G=some id→exec R G k vs=some (v,G.set id b):=by
 cases k<;>simp only[za3,reduceCtorEq,Option.some.injEq]at hk
 .rename_i t' sz z
  subst hk
  have hx:ex H (.mkslH t' sz z) vs=some (v,H2):=h
  rcases vs with _|⟨a,_|⟨b,_|⟨c,r⟩⟩⟩<;>simp only[ex]at hx<;>try cases hx
  cases a<;>cases b<;>simp only[ex]at hx<;>try cases hx
  rename_i k1 n1 k2 n2
  split at hx
  .rename_i id hf
   split at hx
   .rename_i hc
    simp only[Option.some.injEq,Prod.mk.injEq]at hx
    obtain⟨rfl,rfl⟩:=hx
    refine⟨id,_,hf,rfl,fun u e=>(by cases e),fun G hG=>?_⟩
    show ex G (.mkslH t' sz z) [.int k1 n1,.int k2 n2]=_
    simp only[ex,hG,if_pos hc]
   .cases hx
  .cases hx
 .rename_i t' sz
  subst hk
  have hx:ex H (.boxH t' sz) vs=some (v,H2):=h
  rcases vs with _|⟨a,_|⟨b,r⟩⟩<;>simp only[ex]at hx<;>try cases hx
  split at hx
  .rename_i id hf
   split at hx
   .rename_i hc
    simp only[Option.some.injEq,Prod.mk.injEq]at hx
    obtain⟨rfl,rfl⟩:=hx
    refine⟨id,_,hf,rfl,fun u e=>(by cases e),fun G hG=>?_⟩
    show ex G (.boxH t' sz) [a]=_
    simp only[ex,hG,if_pos hc]
   .cases hx
  .cases hx
 .rename_i t' sz
  subst hk
  have hx:ex H (.appH t' sz) vs=some (v,H2):=h
  rcases vs with _|⟨a,_|⟨b,_|⟨c,r⟩⟩⟩<;>simp only[ex]at hx<;>try cases hx
  cases a<;>cases b<;>simp only[ex]at hx<;>try cases hx
  rename_i nl s ys
  split at hx
  .rename_i id hf
   split at hx
   .rename_i hc
    simp only[Option.some.injEq,Prod.mk.injEq]at hx
    obtain⟨rfl,rfl⟩:=hx
    refine⟨id,_,hf,rfl,fun u e=>(by cases e),fun G hG=>?_⟩
    show ex G (.appH t' sz) [.emp,.isl nl s ys]=_
    simp only[ex,hG,if_pos hc]
   .cases hx
  .cases hx
theorem zef {t:Nat} {H:Heap} {id:Nat} (h:zj t H=some id):id<H.length:=(gEs.1 (zO h)).1
theorem zdq:∀{H:Heap} {t t' id id':Nat} {b:Blk},t≠t'→zj t H=some id→zj t' H=some id'→(∀u,b≠.hole u)→zj t' (H.set id b)=some id'
 | [],t,t',id,id',b,hne,h,h',hb=>by simp[zj]at h
 |B::r,t,t',id,id',b,hne,h,h',hb=>by
  cases id with
  |zero=>
   have hB:B= .hole t:=by have:=zO h;simpa using this
   subst hB
   simp only[zj,if_neg hne]at h'
   rw[List.set_cons_zero]
   cases b with
   |hole u=>exact absurd rfl (hb u)
   |_=>exact h'
  |succ id=>
   rw[List.set_cons_succ]
   have down:∀{u n:Nat},zj u (B::r)=some (n+1)→zj u r=some n:=by
    intro u n hh
    have key:(zj u r).map (·+1)=some (n+1)→zj u r=some n:=fun h=>by
     simp only[Option.map_eq_some_iff]at h
     obtain⟨m,h1,h2⟩:=h
     have:m=n:=by omega
     rw[h1,this]
    cases B with
    |hole w=>
     simp only[zj]at hh
     split at hh
     .cases hh
     .exact key hh
    |_=>exact key hh
   have hd:=down h
   cases id' with
   |zero=>
    have hB:B= .hole t':=by have:=zO h';simpa using this
    subst hB
    simp[zj]
   |succ id'=>
    have ih:=zdq hne hd (down h') hb
    cases B with
    |hole w=>
     simp only[zj]at h'⊢
     split at h'
     .cases h'
     .rename_i hw;rw[if_neg hw,ih];rfl
    |_=>simp only[zj,ih];rfl
theorem zcQ:∀{H:Heap} {t id:Nat} (b:Blk),zj t H=some id→zj t (H++[b])=some id
 | [],t,id,b,h=>by simp[zj]at h
 |B::r,t,id,b,h=>by
  have key:(zj t r).map (·+1)=some id→(zj t (r++[b])).map (·+1)=some id:=fun h=>by
   simp only[Option.map_eq_some_iff]at h
   obtain⟨m,h1,h2⟩:=h
   rw[zcQ b h1];simp[h2]
  rw[List.cons_append]
  cases B with
  |hole w=>
   simp only[zj]at h⊢
   split at h
   .rename_i hw;rw[if_pos hw];exact h
   .rename_i hw;rw[if_neg hw];exact key h
  |_=>exact key h
theorem zcR:∀{H:Heap} {t id:Nat} {b:Blk},(∀u,b≠.hole u)→zj t (H++[b])=some id→zj t H=some id
 | [],t,id,b,hb,h=>by
  rw[List.nil_append]at h
  cases b with
  |hole u=>exact absurd rfl (hb u)
  |_=>simp[zj]at h
 |B::r,t,id,b,hb,h=>by
  have key:(zj t (r++[b])).map (·+1)=some id→(zj t r).map (·+1)=some id:=fun h=>by
   simp only[Option.map_eq_some_iff]at h
   obtain⟨m,h1,h2⟩:=h
   rw[zcR hb h1];simp[h2]
  rw[List.cons_append]at h
  cases B with
  |hole w=>
   simp only[zj]at h⊢
   split at h
   .rename_i hw;rw[if_pos hw];exact h
   .rename_i hw;rw[if_neg hw];exact key h
  |_=>exact key h
theorem zcv:∀{H:Heap} {t t' id id':Nat} {b:Blk},t≠t'→zj t H=some id→(∀u,b≠.hole u)→zj t' (H.set id b)=some id'→zj t' H=some id'
 | [],t,t',id,id',b,hne,h,hb,h'=>by simp[zj]at h
 |B::r,t,t',id,id',b,hne,h,hb,h'=>by
  cases id with
  |zero=>
   have hB:B= .hole t:=by have:=zO h;simpa using this
   subst hB
   rw[List.set_cons_zero]at h'
   simp only[zj,if_neg hne]
   cases b with
   |hole u=>exact absurd rfl (hb u)
   |_=>exact h'
  |succ id=>
   rw[List.set_cons_succ]at h'
   have hd:zj t r=some id:=by
    have key:(zj t r).map (·+1)=some (id+1)→zj t r=some id:=fun h=>by
     simp only[Option.map_eq_some_iff]at h
     obtain⟨m,h1,h2⟩:=h
     have:m=id:=by omega
     rw[h1,this]
    cases B with
    |hole w=>
     simp only[zj]at h
     split at h
     .cases h
     .exact key h
    |_=>exact key h
   have key:(zj t' (r.set id b)).map (·+1)=some id'→(zj t' r).map (·+1)=some id':=fun h=>by
    simp only[Option.map_eq_some_iff]at h
    obtain⟨m,h1,h2⟩:=h
    rw[zcv hne hd hb h1];simp[h2]
   cases B with
   |hole w=>
    simp only[zj]at h'⊢
    split at h'
    .rename_i hw;rw[if_pos hw];exact h'
    .rename_i hw;rw[if_neg hw];exact key h'
   |_=>exact key h'
theorem zgW {R:Rec} {k:OpK} {xs:List Src} {vs:List AV} {v:AV} {H:Heap} {b:Blk} (hk:zaj (.op k xs)=true) (h:exec R H k vs=some (v,H++[b])):∀u,b≠.hole u:=by
 intro u e
 subst e
 cases k<;>simp only[zaj,Bool.false_eq_true]at hk
 .rename_i sz
  have hx:ex H (.box sz) vs=some (v,H++[.hole u]):=h
  match vs,hx with
  | [],hx=>simp[ex]at hx
  | [x],hx=>simp[ex]at hx
  |_::_::_,hx=>simp[ex]at hx
 .rename_i imm sz len z ps
  cases imm with
  |true=>simp at hk
  |false=>
   have hx:ex H (.bsl false sz len z ps) vs=some (v,H++[.hole u]):=h
   simp[ex]at hx
 .rename_i sz z
  have hx:ex H (.mksl sz z) vs=some (v,H++[.hole u]):=h
  rcases vs with _|⟨a,_|⟨b,_|⟨c,r⟩⟩⟩<;>simp only[ex]at hx<;>try cases hx
  cases a<;>cases b<;>simp[ex]at hx
 .have hx:ex H .mkmap vs=some (v,H++[.hole u]):=h
  match vs,hx with
  | [],hx=>simp[ex]at hx
  |_::_,hx=>simp[ex]at hx
 .rename_i ty sz
  have hx:ex H (.boxT ty sz) vs=some (v,H++[.hole u]):=h
  match vs,hx with
  | [],hx=>simp[ex]at hx
  | [x],hx=>simp[ex]at hx
  |_::_::_,hx=>simp[ex]at hx
theorem zkA {R:Rec} {kp ki:OpK} {xp xi:List Src} {wp wi:List AV} {up ui:AV} {H H1 H2:Heap} (hf:(match za3 (.op kp xp),za3 (.op ki xi) with|some a,some b=>decide (a≠b)|some _,none=>zaj (.op ki xi)|none,some _=>zaj (.op kp xp)||(zX (.op kp xp)).isSome|none,none=>false)=true)
  (hp:exec R H kp wp=some (up,H1)) (hi:exec R H1 ki wi=some (ui,H2)):∃G,exec R H ki wi=some (ui,G)∧exec R G kp wp=some (up,H2):=by
 cases hfp:za3 (.op kp xp) with
 |some a=>
  obtain⟨id,b,p1,rfl,p3,p4⟩:=zcT hfp hp
  cases hfi:za3 (.op ki xi) with
  |some c=>
   rw[hfp,hfi]at hf
   have hne:a≠c:=of_decide_eq_true hf
   obtain⟨id',b',r1,rfl,r3,r4⟩:=zcT hfi hi
   have f1:=zcv hne p1 p3 r1
   have hids:id≠id':=fun e=>by
    subst e
    have h1:=zO p1
    have h2:=zO f1
    rw[h1]at h2;cases h2
    exact hne rfl
   refine⟨_,r4 H f1,?_⟩
   rw[p4 _ (zdq (fun e=>hne e.symm) f1 p1 r3),List.set_comm _ _ hids.symm]
  |none=>
   rw[hfp,hfi]at hf
   obtain⟨b',e,ha⟩:=zck hf hi
   subst e
   refine⟨_,ha H (by simp),?_⟩
   rw[p4 _ (zcQ b' p1),List.set_append_left _ _ (zef p1)]
 |none=>
  cases hfi:za3 (.op ki xi) with
  |some c=>
   rw[hfp,hfi]at hf
   simp only[Bool.or_eq_true]at hf
   rcases hf with hf|hf
   .obtain⟨b,e,ha⟩:=zck hf hp
    subst e
    obtain⟨id',b',r1,rfl,r3,r4⟩:=zcT hfi hi
    have f1:=zcR (zgW hf hp) r1
    refine⟨_,r4 H f1,?_⟩
    rw[ha _ (by simp),List.set_append_left _ _ (zef f1)]
   .obtain⟨a,hr⟩:=Option.isSome_iff_exists.1 hf
    have hH:H1=H:=zdP (zba hr) hp
    subst hH
    obtain⟨id',b',r1,rfl,r3,r4⟩:=zcT hfi hi
    refine⟨_,hi,?_⟩
    cases wp with
    |nil=>cases kp<;>first|(cases hr;done)|(simp[exec,zao,OpK.quiet,qx,okO]at hp;done)
    |cons y ys=>
     refine zd7 hr hp (fun id ver hpl sz sh es hb=>⟨sh,es,?_,fun _ _ h=>h⟩)
     rw[gEn (fun e=>?_)]
     .exact hb
     .subst e
      have:=zO r1
      rw[this]at hb;cases hb
  |none=>rw[hfp,hfi]at hf;cases hf
theorem zmt {p i:LI} (h:(match za3 p.k,za3 i.k with|some a,some b=>decide (a≠b)|some _,none=>zaj i.k|none,some _=>zaj p.k||(zX p.k).isSome|none,none=>false)=true):kH i.k=2:=by
 cases hi:za3 i.k with
 |some b=>
  generalize i.k=k at hi
  cases k with
  |op k xs=>cases k<;>simp only[za3,reduceCtorEq,Option.some.injEq]at hi<;>rfl
  |pick c x y=>cases hi
 |none=>
  rw[hi]at h
  cases hp:za3 p.k with
  |some a=>rw[hp]at h;exact zij h
  |none=>rw[hp]at h;cases h
theorem zgM {R:Rec} {p i:LI} {E E1 E2:Env} {H H1 H2:Heap} (hi:zev p i=true) (h1:zt R p E H=some (E1,H1)) (h2:zt R i E1 H1=some (E2,H2)):
  ∃E' H',zt R i E H=some (E',H')∧zt R p E' H'=some (E2,H2):=by
 simp only[zev,dstB,Bool.and_eq_true]at hi
 obtain⟨⟨s1,s2⟩,s3⟩:=hi
 obtain⟨vi,rfl,ci⟩:=zx h1
 obtain⟨vj,rfl,cj⟩:=zx h2
 have rj:∀s∈zW i,E s=(putE E p.dst vi) s:=by
  intro s hs
  rw[zy]
  split
  .rename_i hd
   rw[hd]at s1
   simp at s1
   exact absurd hs s1.1
  .rfl
 have ri:∀s∈zW p,(putE E i.dst vj) s=E s:=by
  intro s hs
  rw[zy]
  split
  .rename_i hd
   rw[hd]at s2
   simp at s2
   exact absurd hs s2
  .rfl
 have hne:∀x,p.dst=some x→i.dst≠some x:=by
  intro x hx hj
  rw[hx,hj]at s1
  simp at s1
 have hi0:=cj E rj
 have comm:putE (putE E i.dst vj) p.dst vi=putE (putE E p.dst vi) i.dst vj:=zax (d:=i.dst) (fun x hx hi=>hne x hi hx)
 have move:∀G G2,zt R p E G=some (putE E p.dst vi,G2)→zt R p (putE E i.dst vj) G=some (putE (putE E p.dst vi) i.dst vj,G2):=by
  intro G G2 hg
  obtain⟨v,e1,c⟩:=zx hg
  have:=c (putE E i.dst vj) ri
  rw[this]
  by_cases hd:p.dst=none
  .rw[hd];simp only[putE]
  .obtain⟨d,hd⟩:=Option.ne_none_iff_exists'.1 hd
   have hv:v=vi:=by
    have:=congrFun e1 d
    rw[zy,zy,if_pos hd,if_pos hd]at this
    exact this.symm
   rw[hv,comm]
 rcases zas hi0 with⟨e,all⟩|⟨ki,xi,wi,ui,k1,k2,k3,k4⟩
 .subst e
  exact⟨_,_,all H,move _ _ h1⟩
 .rcases zas h1 with⟨e,all⟩|⟨kp,xp,wp,up,q1,q2,q3,q4⟩
  .subst e
   exact⟨_,_,hi0,move _ _ (all H2)⟩
  .rw[k1,q1]at s3
   obtain⟨G1,m1,m2⟩:=zkA s3 q3 k3
   exact⟨_,_,k4 _ _ m1,move _ _ (q4 _ _ m2)⟩
def Seen (i:LI) (E:Env) (a:Nat):Prop:=∀k k0 x1 x2 ax,i.k= .op k (x1::x2::ax)→za9 k=some k0→gval E i.g=some true→apart (evS E x1) (E a)=true
theorem zbg {k:LK} {a:Nat} (h:a∈zbo k):∃k1 k0 x1 x2 ax,k= .op k1 (x1::x2::ax)∧za9 k1=some k0∧a∈ax.flatMap zb0:=by
 cases k with
 |pick c x y=>simp[zbo]at h
 |op k xs=>
  match xs,h with
  | [],h=>simp[zbo]at h
  | [_],h=>simp[zbo]at h
  |x1::x2::ax,h=>
   simp only[zbo]at h
   cases hb:za9 k with
   |none=>simp[hb]at h
   |some k0=>simp only[hb,Option.isSome_some,if_true]at h;exact⟨k,k0,x1,x2,ax,rfl,hb,h⟩
theorem zeK {R:Rec} {i:LI} {E E1:Env} {H H1:Heap} (h:zt R i E H=some (E1,H1)):zt R (plain i) E H=some (E1,H1)∧∀a∈zbo i.k,Seen i E a:=by
 obtain⟨d,k,g⟩:=i
 by_cases hs:∃k1 k0 xs,k= .op k1 xs∧za9 k1=some k0
 .obtain⟨k1,k0,xs,rfl,hb⟩:=hs
  unfold zt at h⊢
  simp only[plain,zaQ hb]at h⊢
  cases hg:gval E g with
  |none=>simp[hg]at h
  |some t=>
   cases t with
   |false=>
    simp only[hg]at h⊢
    exact⟨h,fun a _ k' k0' x1 x2 ax _ _ hg'=>by simp only at hg';rw[hg]at hg';cases hg'⟩
   |true=>
    simp only[hg,zbf]at h⊢
    cases hv:vals E xs with
    |none=>simp[hv]at h
    |some vs=>
     simp only[hv]at h
     have hv2:=zcE 2 hv
     simp only[hv2]
     cases hx:exec R H k1 vs with
     |none=>simp[hx]at h
     |some p=>
      simp only[hx]at h
      obtain⟨v1,v2,vr,rfl,hap,hx2⟩:=zgB hb hx
      have hx3:exec R H k0 [v1,v2]=some p:=by
       cases k1<;>simp only[za9,reduceCtorEq,Option.some.injEq]at hb<;>subst hb<;>exact hx2
      refine⟨?_,fun a ha k' k0' x1 x2 ax hk _ _=>?_⟩
      .simp only[List.take_succ_cons,List.take_zero,hx3];exact h
      .simp only[LK.op.injEq]at hk
       obtain⟨rfl,rfl⟩:=hk
       simp only[vals]at hv
       split at hv
       .rename_i w1 ws o1 o2
        split at o2
        .rename_i w2 ws2 o3 o4
         cases o2;cases hv
         simp only[zbo,hb,Option.isSome_some,if_true]at ha
         have hm:=zc5 o4 ha
         have:=List.all_eq_true.1 hap _ hm
         rw[(zar o1).1];exact this
        .cases o2
       .cases hv
 by_cases hcc:∃f n xs,k= .op (.callA f n) xs
 .obtain⟨f,n,xs,rfl⟩:=hcc
  refine⟨zdp h,fun a ha=>?_⟩
  obtain⟨k1,k0,x1,x2,ax,e,hb,_⟩:=zbg ha
  exact absurd ⟨k1,k0,_,e,hb⟩ hs
 .have hp:plain ⟨d,k,g⟩=⟨d,k,g⟩:=by
   unfold plain
   cases k with
   |pick c x y=>rfl
   |op k xs=>
    have hc:∀f n,k≠.callA f n:=fun f n e=>hcc ⟨f,n,xs,by rw[e]⟩
    cases hb:za9 k with
    |none=>simp only[zhe hb hc]
    |some k0=>exact absurd ⟨k,k0,xs,rfl,hb⟩ hs
  rw[hp]
  refine⟨h,fun a ha=>?_⟩
  obtain⟨k1,k0,x1,x2,ax,e,hb,_⟩:=zbg ha
  exact absurd ⟨k1,k0,_,e,hb⟩ hs
theorem zgO {R:Rec} {p i:LI} {E E1 E2:Env} {H H1 H2:Heap} {a:Nat} (hd:dstB p (plain i)=true) (hr:zX p.k=some a) (ha:a∈zbo i.k) (hseen:Seen i E a) (h1:zt R p E H=some (E1,H1)) (h2:zt R (plain i) E1 H1=some (E2,H2)):
  ∃E' H',zt R (plain i) E H=some (E',H')∧zt R p E' H'=some (E2,H2):=by
 simp only[dstB,Bool.and_eq_true]at hd
 obtain⟨s1,s2⟩:=hd
 obtain⟨vi,rfl,ci⟩:=zx h1
 obtain⟨vj,rfl,cj⟩:=zx h2
 have rj:∀s∈zW (plain i),E s=(putE E p.dst vi) s:=by
  intro s hs
  rw[zy]
  split
  .rename_i hd
   rw[hd]at s1
   simp at s1
   exact absurd hs s1.1
  .rfl
 have ri:∀s∈zW p,(putE E (plain i).dst vj) s=E s:=by
  intro s hs
  rw[zy]
  split
  .rename_i hd
   rw[hd]at s2
   simp at s2
   exact absurd hs s2
  .rfl
 have hne:∀x,p.dst=some x→(plain i).dst≠some x:=by
  intro x hx hj
  rw[hx,hj]at s1
  simp at s1
 have hi0:=cj E rj
 have comm:putE (putE E (plain i).dst vj) p.dst vi=putE (putE E p.dst vi) (plain i).dst vj:=zax (d:=(plain i).dst) (fun x hx hi=>hne x hi hx)
 have move:∀G G2,zt R p E G=some (putE E p.dst vi,G2)→zt R p (putE E (plain i).dst vj) G=some (putE (putE E p.dst vi) (plain i).dst vj,G2):=by
  intro G G2 hg
  obtain⟨v,e1,c⟩:=zx hg
  have:=c (putE E (plain i).dst vj) ri
  rw[this]
  by_cases hd:p.dst=none
  .rw[hd];simp only[putE]
  .obtain⟨d,hd⟩:=Option.ne_none_iff_exists'.1 hd
   have hv:v=vi:=by
    have:=congrFun e1 d
    rw[zy,zy,if_pos hd,if_pos hd]at this
    exact this.symm
   rw[hv,comm]
 obtain⟨k1,k0,x1,x2,ax,hk,hbs,_⟩:=zbg ha
 rcases zas h1 with⟨e,all⟩|⟨kp,xp,wp,up,q1,q2,q3,q4⟩
 .subst e
  exact⟨_,_,hi0,move _ _ (all H2)⟩
 .rw[q1]at hr
  have hxp:∃r,xp= .t a::r:=by
   cases xp with
   |nil=>cases kp<;>simp[zX]at hr
   |cons y r=>cases y<;>cases kp<;>simp[zX]at hr<;>exact⟨r,by rw[hr]⟩
  obtain⟨r,rfl⟩:=hxp
  have hH:H1=H:=zdP (zba hr) q3
  subst hH
  simp only[vals]at q2
  split at q2
  .rename_i y ys o5 o6
   cases q2
   have hy:E a=y:=(zar o5).1
   have hi1:=hi0
   unfold zt at hi1
   simp only[plain,hk,zaQ hbs]at hi1
   cases hg:gval E i.g with
   |none=>simp[hg]at hi1
   |some t=>
    cases t with
    |false=>
     simp only[hg,Option.some.injEq,Prod.mk.injEq]at hi1
     obtain⟨_,rfl⟩:=hi1
     exact⟨_,_,hi0,move _ _ h1⟩
    |true=>
     simp only[hg,zbf,List.take_succ_cons,List.take_zero]at hi1
     have hap:=hseen k1 k0 x1 x2 ax hk hbs hg
     rw[hy]at hap
     cases hv:vals E [x1,x2] with
     |none=>simp[hv]at hi1
     |some vs=>
      simp only[hv]at hi1
      simp only[vals]at hv
      split at hv
      .rename_i w1 ws o1 o2
       split at o2
       .rename_i w2 ws2 o3 o4
        cases o4;cases o2;cases hv
        rw[(zar o1).1]at hap
        cases hx:exec R H1 k0 [w1,w2] with
        |none=>simp[hx]at hi1
        |some q=>
         obtain⟨u,Hq⟩:=q
         simp only[hx,Option.map_some,Option.some.injEq,Prod.mk.injEq]at hi1
         obtain⟨_,rfl⟩:=hi1
         have hst:zao H1 k0 [w1,w2]=some (u,Hq):=by
          cases k1<;>simp only[za9,reduceCtorEq,Option.some.injEq]at hbs<;>subst hbs<;>exact hx
         obtain⟨_,g2⟩:=zeY hr q3 (zi8 hbs hst hap)
         exact⟨_,_,hi0,move _ _ (q4 _ _ g2)⟩
       .cases o2
      .cases hv
  .cases q2
/-! ### Readers before what makes memory grow -/
theorem zdr {H H1:Heap} {n:Nat} {p x u:AV} (h:zaJ H n p x=some (u,H1)):∃id B,(∃ver idx off,p= .optr id ver idx off)∧H1=H.set id B∧∀G:Heap,G[id]?=H[id]?→zaJ G n p x=some (u,G.set id B):=by
 unfold zaJ at h
 split at h
 .rename_i id ver idx off
  split at h
  .rename_i v sz es hb
   split at h
   .rename_i hc
    simp only[Option.map_eq_some_iff,Prod.mk.injEq]at h
    obtain⟨es',he,rfl,rfl⟩:=h
    refine⟨id,_,⟨_,_,_,rfl⟩,rfl,fun G hG=>?_⟩
    simp only[zaJ,hG,hb,if_pos hc,he,Option.map_some]
   .cases h
  .cases h
 .cases h
theorem zex {R:Rec} {p i:LI} {E E1 E2:Env} {H H1 H2:Heap} {a:Nat} (hd:dstB p (plain i)=true) (hsa:zkp i.k=true) (hr:storeAt p.k=some a) (ha:a∈zbo i.k) (hseen:Seen i E a) (h1:zt R p E H=some (E1,H1)) (h2:zt R (plain i) E1 H1=some (E2,H2)):
  ∃E' H',zt R (plain i) E H=some (E',H')∧zt R p E' H'=some (E2,H2):=by
 simp only[dstB,Bool.and_eq_true]at hd
 obtain⟨s1,s2⟩:=hd
 obtain⟨vi,rfl,ci⟩:=zx h1
 obtain⟨vj,rfl,cj⟩:=zx h2
 have rj:∀s∈zW (plain i),E s=(putE E p.dst vi) s:=by
  intro s hs
  rw[zy]
  split
  .rename_i hd
   rw[hd]at s1
   simp at s1
   exact absurd hs s1.1
  .rfl
 have ri:∀s∈zW p,(putE E (plain i).dst vj) s=E s:=by
  intro s hs
  rw[zy]
  split
  .rename_i hd
   rw[hd]at s2
   simp at s2
   exact absurd hs s2
  .rfl
 have hne:∀x,p.dst=some x→(plain i).dst≠some x:=by
  intro x hx hj
  rw[hx,hj]at s1
  simp at s1
 have hi0:=cj E rj
 have comm:putE (putE E (plain i).dst vj) p.dst vi=putE (putE E p.dst vi) (plain i).dst vj:=zax (d:=(plain i).dst) (fun x hx hi=>hne x hi hx)
 have move:∀G G2,zt R p E G=some (putE E p.dst vi,G2)→zt R p (putE E (plain i).dst vj) G=some (putE (putE E p.dst vi) (plain i).dst vj,G2):=by
  intro G G2 hg
  obtain⟨v,e1,c⟩:=zx hg
  have:=c (putE E (plain i).dst vj) ri
  rw[this]
  by_cases hd:p.dst=none
  .rw[hd];simp only[putE]
  .obtain⟨d,hd⟩:=Option.ne_none_iff_exists'.1 hd
   have hv:v=vi:=by
    have:=congrFun e1 d
    rw[zy,zy,if_pos hd,if_pos hd]at this
    exact this.symm
   rw[hv,comm]
 obtain⟨k1,k0,x1,x2,ax,hk,hbs,_⟩:=zbg ha
 have hk1:∃n,k1= .storeA n∧k0= .store n:=by
  rw[hk]at hsa
  cases k1<;>simp only[zkp,Bool.false_eq_true]at hsa
  simp only[za9,Option.some.injEq]at hbs
  exact⟨_,rfl,hbs.symm⟩
 obtain⟨n1,rfl,rfl⟩:=hk1
 rcases zas h1 with⟨e,all⟩|⟨kp,xp,wp,up,q1,q2,q3,q4⟩
 .subst e
  exact⟨_,_,hi0,move _ _ (all H2)⟩
 .rw[q1]at hr
  have hxp:∃n y,kp= .store n∧xp=[.t a,y]:=by
   cases kp<;>simp only[storeAt,reduceCtorEq]at hr
   rename_i n
   match xp,hr with
   | [.t b,y],hr=>simp at hr;subst hr;exact⟨n,y,rfl,rfl⟩
  obtain⟨np,yp,rfl,rfl⟩:=hxp
  simp only[vals]at q2
  split at q2
  .rename_i y ys o5 o6
   cases q2
   have hy:E a=y:=(zar o5).1
   have hi1:=hi0
   unfold zt at hi1
   simp only[plain,hk,zaQ hbs]at hi1
   cases hg:gval E i.g with
   |none=>simp[hg]at hi1
   |some t=>
    cases t with
    |false=>
     have hall:∀G,zt R (plain i) E G=some (putE E (plain i).dst vj,G):=by
      intro G
      simp only[hg,Option.some.injEq,Prod.mk.injEq]at hi1
      unfold zt
      simp only[plain,hk,zaQ hbs,hg,Option.some.injEq,Prod.mk.injEq,and_true]
      exact hi1.1
     have h2':=hall H
     simp only[hg,Option.some.injEq,Prod.mk.injEq]at hi1
     obtain⟨_,rfl⟩:=hi1
     exact⟨_,_,h2',move _ _ h1⟩
    |true=>
     have hi2:=hi0
     simp only[hg,zbf,List.take_succ_cons,List.take_zero]at hi1
     have hap:=hseen _ _ x1 x2 ax hk hbs hg
     rw[hy]at hap
     cases hv:vals E [x1,x2] with
     |none=>simp[hv]at hi1
     |some vs=>
      simp only[hv]at hi1
      have hv0:=hv
      simp only[vals]at hv
      split at hv
      .rename_i w1 ws o1 o2
       split at o2
       .rename_i w2 ws2 o3 o4
        cases o4;cases o2;cases hv
        rw[(zar o1).1]at hap
        cases hx:exec R H1 (.store n1) [w1,w2] with
        |none=>simp[hx]at hi1
        |some q=>
         obtain⟨u,Hq⟩:=q
         simp only[hx,Option.map_some,Option.some.injEq,Prod.mk.injEq]at hi1
         obtain⟨hvj,rfl⟩:=hi1
         match ys,q3 with
         | [z2],q3=>
         have hp3:zaJ H np y z2=some (up,H1):=q3
         have hx3:zaJ H1 n1 w1 w2=some (u,Hq):=hx
         obtain⟨id1,B1,⟨v1,x1',o1',e1⟩,rfl,m1⟩:=zdr hp3
         obtain⟨id2,B2,⟨v2,x2',o2',e2⟩,rfl,m2⟩:=zdr hx3
         subst e1;subst e2
         have hne12:id2≠id1:=by simpa[apart]using hap
         have g1:=m2 H (by rw[gEn (fun e=>hne12 e.symm)])
         have g2:=m1 (H.set id2 B2) (by rw[gEn hne12])
         refine⟨putE E (plain i).dst vj,H.set id2 B2,?_,?_⟩
         .unfold zt
          simp only[plain,hk,zaQ hbs,hg,zbf,List.take_succ_cons,List.take_zero,hv0]
          have g1':exec R H (.store n1) [.optr id2 v2 x2' o2',w2]=some (u,H.set id2 B2):=g1
          rw[g1']
          simp only[Option.map_some,Option.some.injEq,Prod.mk.injEq,and_true]
          exact hvj
         .refine move _ _ (q4 _ _ ?_)
          have g2':exec R (H.set id2 B2) (.store np) [.optr id1 v1 x1' o1',z2]=some (up,(H.set id2 B2).set id1 B1):=g2
          rw[g2',List.set_comm _ _ hne12]
         | [],q3=>simp[exec,zao,OpK.quiet,ex]at q3
         |_::_::_,q3=>simp[exec,zao,OpK.quiet,ex]at q3
       .cases o2
      .cases hv
  .cases q2
def zdi (H:Heap) (y:AV):Prop:=
 match y with
 | .optr id ver _ _=>∃B,H[id]?=some B∧ver≤B.ver
 | .osl id ver _ _=>∃B,H[id]?=some B∧ver≤B.ver
 |_=>True
structure zbS (H H1:Heap):Prop where
 back:∀(id:Nat) (B:Blk),H[id]?=some B→∀(ver sz:Nat) (sh:Bool) (es:List AV),ver≤B.ver→H1[id]?=some (.arr ver sz sh es)→∃sh' es',H[id]?=some (.arr ver sz sh' es')∧∀(i:Nat) (e:AV),es[i]?=some e→es'[i]?=some e
 on:∀(id:Nat) (B:Blk),H[id]?=some B→∃B':Blk,H1[id]?=some B'∧B.ver≤B'.ver
theorem zbS.refl (H:Heap):zbS H H:=⟨fun id B hb ver sz sh es hv h1=>⟨sh,es,h1,fun _ _ h=>h⟩,fun id B hb=>⟨B,hb,Nat.le_refl _⟩⟩
theorem zbS.append (H:Heap) (b:Blk):zbS H (H++[b]):=by
 have key:∀id B,H[id]?=some B→(H++[b])[id]?=some B:=fun id B hb=>by
  rw[gEa (gEs.1 hb).1];exact hb
 refine⟨fun id B hb ver sz sh es hv h1=>?_,fun id B hb=>⟨B,key id B hb,Nat.le_refl _⟩⟩
 rw[key id B hb]at h1
 cases h1
 exact⟨sh,es,hb,fun _ _ h=>h⟩
theorem zbS.set {H:Heap} {id v sz n:Nat} {sh:Bool} {es es1:List AV} (h0:H[id]?=some (.arr v sz sh es)) (hn:n=0→∀(i:Nat) (e:AV),es1[i]?=some e→es[i]?=some e):zbS H (H.set id (.arr (v+n) sz sh es1)):=by
 have hid:=(gEs.1 h0).1
 refine⟨fun j B hb ver sz' sh' es' hv h1=>?_,fun j B hb=>?_⟩
 .by_cases hj:id=j
  .subst hj
   rw[h0]at hb;cases hb
   rw[gEt hid]at h1
   cases h1
   have hv':v+n≤v:=hv
   have:n=0:=by omega
   subst this
   exact⟨sh,es,h0,hn rfl⟩
  .rw[gEn hj]at h1
   exact⟨sh',es',h1,fun _ _ h=>h⟩
 .by_cases hj:id=j
  .subst hj
   rw[h0]at hb;cases hb
   exact⟨_,gEt hid,Nat.le_add_right _ _⟩
  .exact⟨B,by rw[gEn hj];exact hb,Nat.le_refl _⟩
theorem zls {H H1:Heap} {sz:Nat} {x v:AV} {ys:List AV} (h:zby (truncH H x) sz x ys=some (v,H1)):zbS H H1:=by
 unfold zby at h
 split at h
 .have ht:truncH H (.isl (some true) ‹Nat› [])=H:=rfl
  rw[ht]at h
  split at h
  .cases h;exact zbS.refl _
  .split at h
   .cases h;exact zbS.append _ _
   .cases h
 .rename_i id ver off len
  split at h
  .rename_i v0 s sh es hb
   split at h
   .rename_i hc
    obtain⟨rfl,rfl,hlen⟩:=hc
    obtain⟨es0,g1,g2,g3⟩:∃es0,H[id]?=some (.arr v0 s sh es0)∧(∀(i:Nat) (e:AV),es[i]?=some e→es0[i]?=some e)∧((truncH H (.osl id v0 off len)=H∧es=es0)∨truncH H (.osl id v0 off len)=H.set id (.arr v0 s sh es)):=by
     simp only[truncH]at hb⊢
     split at hb
     .rename_i v1 s1 es1 h1
      split at hb
      .rename_i hc1
       have hid:=(gEs.1 h1).1
       rw[gEt hid]at hb
       simp only[Option.some.injEq,Blk.arr.injEq]at hb
       obtain⟨rfl,rfl,rfl,hb⟩:=hb
       refine⟨es1,h1,fun i e he=>?_,.inr ?_⟩
       .rw[←hb,List.getElem?_take]at he
        split at he
        .exact he
        .cases he
       .simp only[h1]
        rw[if_pos ⟨trivial,hc1.2⟩,hb]
      .rename_i hc1
       rw[h1]at hb
       cases hb
       exact⟨es,h1,fun _ _ h=>h,.inl ⟨by simp only[h1];exact if_neg (fun hh=>hc1 ⟨rfl,hh.2⟩),rfl⟩⟩
     .rename_i hn
      refine⟨es,hb,fun _ _ h=>h,.inl ⟨?_,rfl⟩⟩
      first|rfl|(split<;>first|rfl|(rename_i h2;exact absurd h2 (hn _ _ _)))
    have hid:=(gEs.1 g1).1
    split at h
    .cases h
     rcases g3 with⟨g3,_⟩|g3
     .rw[g3];exact zbS.refl _
     .rw[g3];exact zbS.set (n:=0) g1 (fun _=>g2)
    .rename_i hys
     split at h
     .cases h
      have hset:∀B,(truncH H (.osl id v0 off len)).set id B=H.set id B:=fun B=>by
       rcases g3 with⟨g3,_⟩|g3<;>rw[g3]
       rw[List.set_set]
      rw[hset]
      refine zbS.set g1 (fun h0=>?_)
      exact absurd (List.eq_nil_of_length_eq_zero h0) (by intro e;exact hys e)
     .cases h
   .cases h
  .cases h
 .split at h
  .cases h;exact zbS.refl _
  .cases h
 .have ht:truncH H .emp=H:=rfl
  rw[ht]at h
  split at h
  .cases h
  .split at h
   .cases h;exact zbS.append _ _
   .cases h
 .cases h
theorem zec {R:Rec} {p:LI} {E E1:Env} {H H1:Heap} (hp:(zoC p.k||zaj p.k)=true) (h:zt R p E H=some (E1,H1)):zbS H H1:=by
 rcases zas h with⟨rfl,_⟩|⟨k,xs,vs,v,k1,k2,k3,k4⟩
 .exact zbS.refl _
 .rw[k1]at hp
  simp only[Bool.or_eq_true]at hp
  rcases hp with hp|hp
  .cases k<;>simp only[zoC,Bool.false_eq_true]at hp
   rename_i sz
   have hx:ex H (.app sz) vs=some (v,H1):=k3
   match vs,hx with
   | [x,y],hx=>
    simp only[ex]at hx
    split at hx
    .split at hx
     .exact zls hx
     .cases hx
    .cases hx
   | [],hx=>simp[ex]at hx
   | [_],hx=>simp[ex]at hx
   |_::_::_::_,hx=>simp[ex]at hx
  .obtain⟨b,rfl,_⟩:=zck hp k3
   exact zbS.append _ _
theorem zdi.on {H H1:Heap} (hg:zbS H H1) {y:AV} (h:zdi H y):zdi H1 y:=by
 cases y<;>simp only[zdi]at h⊢
 all_goals
  obtain⟨B,h1,h2⟩:=h
  obtain⟨B',h3,h4⟩:=hg.on _ B h1
  exact⟨B',h3,Nat.le_trans h2 h4⟩
theorem zg9 {R:Rec} {k:OpK} {xs:List Src} {a:Nat} {y:AV} {ys:List AV} {v:AV} {H H1 H2:Heap} (hk:zX (.op k xs)=some a) (h:exec R H1 k (y::ys)=some (v,H2)) (hg:zbS H H1) (hy:zdi H y):exec R H k (y::ys)=some (v,H):=by
 refine zd7 hk h (fun id ver hp sz sh es hb=>?_)
 cases y<;>simp only[zb5,reduceCtorEq,Option.some.injEq,Prod.mk.injEq]at hp
 all_goals
  obtain⟨rfl,rfl⟩:=hp
  obtain⟨B,h1,h2⟩:=hy
  exact hg.back _ B h1 _ sz sh es h2 hb
theorem zgN {R:Rec} {p i:LI} {E E1 E2:Env} {H H1 H2:Heap} (hb:back p i=true) (hok:∀a,zX i.k=some a→zdi H (E a)) (h1:zt R p E H=some (E1,H1)) (h2:zt R i E1 H1=some (E2,H2)):
  ∃E' H',zt R i E H=some (E',H')∧zt R p E' H'=some (E2,H2):=by
 simp only[back,dstB,Bool.and_eq_true,decide_eq_true_eq]at hb
 obtain⟨⟨s1,s2⟩,s3,s4,s5⟩:=hb
 have hgr:=zec s3 h1
 have hH2:H2=H1:=zaI (by omega) h2
 subst hH2
 obtain⟨vi,rfl,ci⟩:=zx h1
 obtain⟨vj,rfl,cj⟩:=zx h2
 have rj:∀s∈zW i,E s=(putE E p.dst vi) s:=by
  intro s hs
  rw[zy]
  split
  .rename_i hd
   rw[hd]at s1
   simp at s1
   exact absurd hs s1.1
  .rfl
 have ri:∀s∈zW p,(putE E i.dst vj) s=E s:=by
  intro s hs
  rw[zy]
  split
  .rename_i hd
   rw[hd]at s2
   simp at s2
   exact absurd hs s2
  .rfl
 have hne:∀x,p.dst=some x→i.dst≠some x:=by
  intro x hx hj
  rw[hx,hj]at s1
  simp at s1
 have hi0:=cj E rj
 have comm:putE (putE E i.dst vj) p.dst vi=putE (putE E p.dst vi) i.dst vj:=zax (d:=i.dst) (fun x hx hi=>hne x hi hx)
 have hp2:zt R p (putE E i.dst vj) H=some (putE (putE E p.dst vi) i.dst vj,H2):=by rw[ci (putE E i.dst vj) ri,comm]
 rcases zas hi0 with⟨e,all⟩|⟨ki,xi,wi,ui,k1,k2,k3,k4⟩
 .exact⟨_,_,all H,hp2⟩
 .rw[k1]at s4
  obtain⟨a,ha⟩:=Option.isSome_iff_exists.1 s4
  have hxp:∃r,xi= .t a::r:=by
   cases xi with
   |nil=>cases ki<;>simp[zX]at ha
   |cons y r=>cases y<;>cases ki<;>simp[zX]at ha<;>exact⟨r,by rw[ha]⟩
  obtain⟨r,rfl⟩:=hxp
  have hka:=hok a (by rw[k1];exact ha)
  simp only[vals]at k2
  split at k2
  .rename_i y ys o5 o6
   cases k2
   have hy:E a=y:=(zar o5).1
   rw[hy]at hka
   exact⟨_,_,k4 _ _ (zg9 ha k3 hgr hka),hp2⟩
  .cases k2
theorem zmi (i:LI):kH (plain i).k=kH i.k:=by
 obtain⟨d,k,g⟩:=i
 cases k with
 |pick c x y=>rfl
 |op k xs=>cases k<;>rfl
theorem zdl {i:LI} (h:kH i.k=1):plain i=i:=by
 obtain⟨d,k,g⟩:=i
 cases k with
 |pick c x y=>rfl
 |op k xs=>cases k<;>first|rfl|(simp[kH]at h;done)
theorem zdk {i:LI} {a:Nat} (h:zX i.k=some a):a∈zW i:=by
 obtain⟨d,k,g⟩:=i
 simp only at h
 simp only[zW,List.mem_append]
 right
 cases k with
 |pick c x y=>simp[zX]at h
 |op k xs=>
  cases xs with
  |nil=>cases k<;>simp[zX]at h
  |cons y r=>cases y<;>cases k<;>simp[zX]at h<;>(subst h;simp[zd6,zb0])
def zgX (R:Rec) (i:LI) (E:Env) (H:Heap) (a:Nat):Prop:=∀r,zt R (plain i) E H=some r→r.2=H∨zeE H r.2 (E a)=true
theorem zfL {E:Nat→AV}:∀{xs:List Src} {vs:List AV} (n:Nat),vals E xs=some vs→vals E (xs.drop n)=some (vs.drop n)
 | [],vs,n,h=>by simp only[vals,Option.some.injEq]at h;subst h;simp[vals]
 |x::xs,vs,0,h=>by simpa using h
 |x::xs,vs,n+1,h=>by
  simp only[vals]at h
  split at h
  .rename_i v vs' h1 h2
   cases h
   simpa using zfL n h2
  .cases h
theorem zbL {R:Rec} {i:LI} {E E1:Env} {H H1:Heap} (h:zt R i E H=some (E1,H1)):zt R (plain i) E H=some (E1,H1):=(zeK h).1
theorem zb9 {k:LK} {a:Nat} (h:a∈zbr k):∃f n xs,k= .op (.callA f n) xs∧a∈(xs.drop n).flatMap zb0:=by
 cases k with
 |pick c x y=>simp[zbr]at h
 |op k xs=>cases k<;>first|(simp[zbr]at h;done)|exact⟨_,_,_,rfl,h⟩
theorem ziX {k:LK} {a:Nat} (h:a∈zbr k):kH k=2:=by
 obtain⟨f,n,xs,rfl,_⟩:=zb9 h;rfl
theorem zfg {R:Rec} {i:LI} {E E1:Env} {H H1:Heap} {a:Nat} (h:zt R i E H=some (E1,H1)) (ha:a∈zbr i.k):zgX R i E H a:=by
 intro r hr
 rw[zbL h]at hr
 cases hr
 obtain⟨d,k,g⟩:=i
 obtain⟨f,n,xs,hk,hm⟩:=zb9 ha
 simp only at hk
 subst hk
 unfold zt at h
 simp only at h
 split at h
 .simp only[zbf]at h
  split at h
  .rename_i vs hvs
   cases hx:exec R H (.callA f n) vs with
   |none=>simp[hx]at h
   |some q=>
    simp only[hx,Option.map_some,Option.some.injEq,Prod.mk.injEq]at h
    obtain⟨_,rfl⟩:=h
    exact .inr ((zeW hx).2 _ (zc5 (zfL n hvs) hm))
  .cases h
 .cases h;exact .inl rfl
 .cases h
theorem zcy {H H':Heap} {y:AV} (h:zeE H H' y=true) {id ver:Nat} (hp:zb5 y=some (id,ver)):H'[id]?=H[id]?:=by
 cases y<;>simp only[zb5,reduceCtorEq,Option.some.injEq,Prod.mk.injEq]at hp
 all_goals
  obtain⟨rfl,rfl⟩:=hp
  simp only[zeE]at h
  split at h
  .rename_i a b h1 h2
   rw[h1,h2,Blk.beq_eq h]
  .cases h
theorem ziN {R:Rec} {p:LI} {E E1:Env} {H H1:Heap} {a:Nat} (hs:zgX R p E H a) (h:zt R (plain p) E H=some (E1,H1)) (hk:zdi H (E a)):zdi H1 (E a):=by
 rcases hs _ h with e|e
 .simp only at e;rw[e];exact hk
 .have key:=fun id ver hp=>zcy e (id:=id) (ver:=ver) hp
  generalize E a=y at hk key
  cases y<;>simp only[zdi]at hk⊢
  all_goals
   rw[key _ _ rfl];exact hk
theorem ziy {R:Rec} {i p:LI} {E:Env} {H:Heap} {v:AV} {a:Nat} (hd:∀d,p.dst=some d→d∉zW (plain i)) (hpa:p.dst≠some a) (h:zgX R i (putE E p.dst v) H a):zgX R i E H a:=by
 intro r hr
 obtain⟨E1,H1⟩:=r
 obtain⟨u,_,hu⟩:=zx hr
 have h1:=hu (putE E p.dst v) (fun s hs=>by
  rw[zy]
  split
  .rename_i hd';exact absurd hs (hd s hd')
  .rfl)
 have:=h _ h1
 rw[zy,if_neg hpa]at this
 exact this
theorem zjM {i p:LI} {r:List LI} {a:Nat} (ha:a∈zbr i.k) (h:zeu p (plain i)=true∨soft p (plain i)=true∨away p i r=true∨back p (plain i)=true∨zev p (plain i)=true∨zdD p i r=true∨zdC p i r=true∨zfI p (plain i)=true):kH p.k≤1:=by
 obtain⟨d,k,g⟩:=i
 obtain⟨f,n,xs,hk,hm⟩:=zb9 ha
 simp only at hk
 subst hk
 have hk2:kH (plain ⟨d,.op (.callA f n) xs,g⟩).k=2:=rfl
 have hex:zbo (LK.op (.callA f n) xs)=[]:=by
  cases xs with
  |nil=>rfl
  |cons x r=>cases r<;>rfl
 have hal:zaj (plain ⟨d,.op (.callA f n) xs,g⟩).k=false:=rfl
 have hfi:za3 (plain ⟨d,.op (.callA f n) xs,g⟩).k=none:=rfl
 have hrd:zX (plain ⟨d,.op (.callA f n) xs,g⟩).k=none:=rfl
 rcases h with h|h|h|h|h|h|h|h
 .simp only[zeu,Bool.and_eq_true]at h
  have h3:=h.2
  rw[hk2]at h3
  simp at h3
  omega
 .simp only[soft,hal,Bool.false_and,Bool.and_false,Bool.false_eq_true]at h
 .simp only[away,Bool.and_eq_true]at h
  have h2:=h.2
  split at h2
  .simp[hex]at h2
  .cases h2
 .simp[back,hk2]at h
 .simp only[zev,Bool.and_eq_true]at h
  have h2:=h.2
  rw[hfi]at h2
  cases hpf:za3 p.k with
  |none=>rw[hpf]at h2;cases h2
  |some u=>
   rw[hpf]at h2
   simp only at h2
   rw[hal]at h2
   cases h2
 .simp[zdD,zkp]at h
 .simp only[zdC,Bool.and_eq_true]at h
  have h2:=h.2
  split at h2
  .rename_i b hb
   obtain⟨dp,kp,gp⟩:=p
   cases kp with
   |pick c x y=>simp[zX]at hb
   |op kp xp=>exact zba hb
  .cases h2
 .simp[zfI,hrd]at h
theorem ze1 {p i:LI} (h:dstB p i=true):(∀d,p.dst=some d→d∉zW i)∧(∀d,i.dst=some d→d∉zW p)∧(∀x,p.dst=some x→i.dst≠some x):=by
 simp only[dstB,Bool.and_eq_true]at h
 obtain⟨h1,h2⟩:=h
 refine⟨fun d hd hm=>?_,fun d hd hm=>?_,fun x hx hi=>?_⟩
 .rw[hd]at h1;simp at h1;exact h1.1 hm
 .rw[hd]at h2;simp at h2;exact h2 hm
 .rw[hx]at h1;simp at h1;exact h1.2 hi
theorem zfZ {R:Rec} {p:LI} {E E1:Env} {H H1 H2:Heap} {a:Nat} (hr:zX p.k=some a) (h:zt R p E H=some (E1,H1)) (keep:∀id ver,zb5 (E a)=some (id,ver)→∀b,H[id]?=some b→H2[id]?=some b):zt R p E H2=some (E1,H2):=by
 rcases zas h with⟨rfl,h2⟩|⟨k,xs,vs,v,k1,k2,k3,k4⟩
 .exact h2 H2
 .rw[k1]at hr
  have hx:∃r,xs= .t a::r:=by
   cases xs with
   |nil=>cases k<;>simp[zX]at hr
   |cons s r=>cases s<;>cases k<;>simp[zX]at hr<;>(subst hr;exact⟨r,rfl⟩)
  obtain⟨r,rfl⟩:=hx
  simp only[vals]at k2
  split at k2
  .rename_i y ys o5 o6
   cases k2
   have hy:E a=y:=(zar o5).1
   rw[hy]at keep
   exact k4 _ _ (zeY hr k3 keep).2
  .cases k2
theorem zfE {R:Rec} {p i:LI} {E E1 E2:Env} {H H1 H2:Heap} {a:Nat} (hd:dstB p (plain i)=true) (hr:zX p.k=some a) (hseen:zgX R i E H a) (h1:zt R p E H=some (E1,H1)) (h2:zt R (plain i) E1 H1=some (E2,H2)):
  ∃E' H',zt R (plain i) E H=some (E',H')∧zt R p E' H'=some (E2,H2):=by
 obtain⟨d1,d2,d3⟩:=ze1 hd
 have hle:kH p.k≤1:=by
  obtain⟨dp,kp,gp⟩:=p
  cases kp with
  |pick c x y=>simp[zX]at hr
  |op kp xp=>exact zba hr
 have hH:H1=H:=zaI hle h1
 subst hH
 obtain⟨vp,rfl,sp⟩:=zx h1
 obtain⟨vi,rfl,si⟩:=zx h2
 have e1:=si E (fun s hs=>by
  rw[zy]
  split
  .rename_i hd';exact absurd hs (d1 s hd')
  .rfl)
 refine⟨_,_,e1,?_⟩
 have keep:∀id ver,zb5 (E a)=some (id,ver)→∀b,H1[id]?=some b→H2[id]?=some b:=by
  intro id ver hp b hb
  rcases hseen _ e1 with e|e
  .simp only at e;rw[e];exact hb
  .rw[zcy e hp];exact hb
 have e2:=zfZ hr h1 keep
 obtain⟨vp',hvp,sp'⟩:=zx e2
 have e3:=sp' (putE E (plain i).dst vi) (fun s hs=>by
  rw[zy]
  split
  .rename_i hd';exact absurd hs (d2 s hd')
  .rfl)
 rw[e3,hvp]
 rw[zax (E:=E) (d:=(plain i).dst) (d':=p.dst) (fun x hx hy=>d3 x hy hx)]
theorem zfD {R:Rec} {p i:LI} {E E1 E2:Env} {H H1 H2:Heap} {a:Nat} (hd:dstB p i=true) (hr:zX i.k=some a) (hseen:zgX R p E H a) (hp:zt R (plain p) E H=some (E1,H1)) (h1:zt R p E H=some (E1,H1)) (h2:zt R i E1 H1=some (E2,H2)):
  ∃E' H',zt R i E H=some (E',H')∧zt R p E' H'=some (E2,H2):=by
 obtain⟨d1,d2,d3⟩:=ze1 hd
 have hle:kH i.k≤1:=by
  obtain⟨dp,kp,gp⟩:=i
  cases kp with
  |pick c x y=>simp[zX]at hr
  |op kp xp=>exact zba hr
 have hH:H2=H1:=zaI hle h2
 subst hH
 obtain⟨vp,rfl,sp⟩:=zx h1
 have hEa:(putE E p.dst vp) a=E a:=by
  rw[zy,if_neg (fun h=>d1 a h (zdk hr))]
 have keep:∀id ver,zb5 ((putE E p.dst vp) a)=some (id,ver)→∀b,H2[id]?=some b→H[id]?=some b:=by
  intro id ver hpl b hb
  rw[hEa]at hpl
  rcases hseen _ hp with e|e
  .simp only at e;rw[←e];exact hb
  .rw[←zcy e hpl];exact hb
 have e1:=zfZ hr h2 keep
 obtain⟨vi,rfl,si⟩:=zx e1
 have e2:=si E (fun s hs=>by
  rw[zy]
  split
  .rename_i hd';exact absurd hs (d1 s hd')
  .rfl)
 refine⟨_,_,e2,?_⟩
 have e3:=sp (putE E i.dst vi) (fun s hs=>by
  rw[zy]
  split
  .rename_i hd';exact absurd hs (d2 s hd')
  .rfl)
 rw[e3]
 rw[zax (E:=E) (d:=i.dst) (d':=p.dst) (fun x hx hy=>d3 x hy hx)]
def zlz (i:LI):List LI→Prop
 | []=>True
 |p::r=>(zeu p (plain i)=true∨soft p (plain i)=true∨away p i r=true∨back p (plain i)=true∨zev p (plain i)=true∨zdD p i r=true∨zdC p i r=true∨zfI p (plain i)=true)∧zlz i r
theorem zju {i p:LI} {E:Env} {v:AV} {a:Nat} (hd:∀d,p.dst=some d→d∉zW (plain i)) (hpa:p.dst≠some a) (h:Seen i (putE E p.dst v) a):Seen i E a:=by
 intro k k0 x1 x2 ax hk hb hg
 have hsame:∀s∈zW (plain i),(putE E p.dst v) s=E s:=by
  intro s hs
  rw[zy]
  split
  .rename_i hd';exact absurd hs (hd s hd')
  .rfl
 have hreads:zW (plain i)=(match i.g with|some (t,_)=> [t]|none=> [])++([x1,x2].flatMap zb0):=by
  simp only[zW,plain,hk,zaQ hb,zd6,List.take_succ_cons,List.take_zero]
 have hg':gval (putE E p.dst v) i.g=some true:=by
  rw[←hg]
  refine zaR (fun t want e=>hsame t ?_)
  rw[hreads,e];simp
 have:=h k k0 x1 x2 ax hk hb hg'
 have e1:evS (putE E p.dst v) x1=evS E x1:=by
  cases x1 with
  |c w=>rfl
  |t s=>exact hsame s (by rw[hreads];simp[zb0])
 have e2:(putE E p.dst v) a=E a:=by rw[zy,if_neg hpa]
 rw[e1,e2]at this
 exact this
theorem zny {R:Rec} {i:LI}:∀(pre post:List LI) {E E':Env} {H H':Heap},zlz i pre→(kH i.k=1→∀a,zX i.k=some a→zdi H (E a))→frun R (pre++i::post) E H=some (E',H')→
  ∃E1 H1,zt R (plain i) E H=some (E1,H1)∧frun R (pre++post) E1 H1=some (E',H')∧(∀a∈zbo i.k,(∀q∈pre,q.dst≠some a)→Seen i E a)∧(∀a∈zbr i.k,(∀q∈pre,q.dst≠some a)→zgX R i E H a)
 | [],post,E,E',H,H',hp,hkn,h=>by
  simp only[List.nil_append,frun]at h
  cases hs:zt R i E H with
  |none=>simp[hs]at h
  |some p=>
   simp only[hs,Option.bind_some]at h
   obtain⟨g1,g2⟩:=zeK hs
   exact⟨p.1,p.2,g1,h,fun a ha _=>g2 a ha,fun a ha _=>zfg hs ha⟩
 |p::pre,post,E,E',H,H',hp,hkn,h=>by
  simp only[List.cons_append,frun]at h
  cases hs:zt R p E H with
  |none=>simp[hs]at h
  |some q=>
   obtain⟨Ep,Hp⟩:=q
   simp only[hs,Option.bind_some]at h
   have hdr:∀d,p.dst=some d→d∉zW (plain i):=by
    intro d hd hm
    have key:(p.dst.all fun d=> !(zW (plain i)).contains d&& !((plain i).dst.toList).contains d)=true:=by
     rcases hp.1 with h|h|h|h|h|h|h|h
     rotate_left 6
     .simp only[zdC,dstB,Bool.and_eq_true]at h;exact h.1.1
     .simp only[zfI,dstB,Bool.and_eq_true]at h;exact h.1.1
     rotate_right
     .simp only[zdD,dstB,Bool.and_eq_true]at h;exact h.1.1
     .simp only[zeu,Bool.and_eq_true]at h;exact h.1.1
     .simp only[soft,dstB,Bool.and_eq_true]at h;exact h.1.1
     .simp only[away,dstB,Bool.and_eq_true]at h;exact h.1.1
     .simp only[Go.Proofs.YtgamobngbenehaaGreatDoor.back,dstB,Bool.and_eq_true]at h;exact h.1.1
     .simp only[zev,dstB,Bool.and_eq_true]at h;exact h.1.1
    rw[hd]at key
    simp at key
    exact key.1 hm
   have hkn2:kH i.k=1→∀a,zX i.k=some a→zdi Hp (Ep a):=by
    intro hk a ha
    have h0:=hkn hk a ha
    have hpl:=zdl hk
    have hEa:Ep a=E a:=by
     obtain⟨v,hv,_⟩:=zx hs
     rw[hv,zy,if_neg (fun hd=>hdr a hd (by rw[hpl];exact zdk ha))]
    rw[hEa]
    rcases hp.1 with hi|hi|hi|hi|hi|hi|hi|hi
    rotate_left 6
    .simp only[zdC,Bool.and_eq_true]at hi
     obtain⟨_,i2⟩:=hi
     split at i2
     .simp only[Bool.and_eq_true,List.contains_iff_mem]at i2
      have:=ziX i2.1
      omega
     .cases i2
    .rw[hpl]at hi
     simp only[zfI,Bool.and_eq_true]at hi
     rw[ha]at hi
     simp only[Bool.and_eq_true,List.contains_iff_mem]at hi
     exact ziN (zfg hs hi.2.2) (zbL hs) h0
    rotate_right
    .simp only[zdD,Bool.and_eq_true]at hi
     have h2:=hi.2.1
     cases hik:i.k with
     |pick c x y=>rw[hik]at h2;cases h2
     |op k xs=>
      rw[hik]at h2 hk
      cases k<;>simp only[zkp,Bool.false_eq_true]at h2
      simp[kH]at hk
    .rw[hpl]at hi
     simp only[zeu,hk,Bool.and_eq_true,Bool.or_eq_true,beq_iff_eq,decide_eq_true_eq]at hi
     have hle:kH p.k≤1:=by omega
     rw[zaI hle hs];exact h0
    .rw[hpl]at hi
     simp only[soft,Bool.and_eq_true]at hi
     have:=zij hi.2.1
     omega
    .simp only[away,Bool.and_eq_true]at hi
     obtain⟨_,i2⟩:=hi
     split at i2
     .simp only[Bool.and_eq_true,List.contains_iff_mem]at i2
      obtain⟨k1,k0,x1,x2,ax,e,hb,_⟩:=zbg i2.1
      rw[e]at hk
      cases k1<;>simp only[za9,reduceCtorEq,Option.some.injEq]at hb<;>simp[kH]at hk
     .cases i2
    .simp only[Go.Proofs.YtgamobngbenehaaGreatDoor.back,Bool.and_eq_true]at hi
     exact h0.on (zec hi.2.1 hs)
    .rw[hpl]at hi
     simp only[zev,Bool.and_eq_true]at hi
     have:=zmt hi.2
     omega
   obtain⟨E1,H1,h1,h2,h3,h3C⟩:=zny pre post hp.2 hkn2 h
   obtain⟨vp,hEp,_⟩:=zx hs
   have back:∀a∈zbo i.k,(∀q∈p::pre,q.dst≠some a)→Seen i E a:=by
    intro a ha hq
    have:=h3 a ha (fun q hq'=>hq q (by simp[hq']))
    rw[hEp]at this
    exact zju hdr (hq p (by simp)) this
   have backC':∀a∈zbr i.k,(∀q∈p::pre,q.dst≠some a)→zgX R i E H a:=by
    intro a ha hq
    have h0:=h3C a ha (fun q hq'=>hq q (by simp[hq']))
    have hle:kH p.k≤1:=zjM ha hp.1
    have hHp:Hp=H:=zaI hle hs
    subst hHp
    rw[hEp]at h0
    exact ziy hdr (hq p (by simp)) h0
   have key:∃Ei Hi,zt R (plain i) E H=some (Ei,Hi)∧zt R p Ei Hi=some (E1,H1):=by
    rcases hp.1 with hi|hi|hi|hi|hi|hi|hi|hi
    rotate_left 6
    .simp only[zdC,Bool.and_eq_true]at hi
     obtain⟨i1,i2⟩:=hi
     split at i2
     .rename_i a hr
      simp only[Bool.and_eq_true,List.contains_iff_mem]at i2
      obtain⟨i3,i4⟩:=i2
      exact zfE i1 hr (backC' a i3 (fun q hq=>by have:=List.all_eq_true.1 i4 q hq;simpa using this)) hs h1
     .cases i2
    .simp only[zfI,Bool.and_eq_true]at hi
     obtain⟨i1,i2⟩:=hi
     split at i2
     .rename_i a hr
      simp only[Bool.and_eq_true,List.contains_iff_mem]at i2
      exact zfD i1 hr (zfg hs i2.2) (zbL hs) hs h1
     .cases i2
    rotate_right
    .simp only[zdD,Bool.and_eq_true]at hi
     obtain⟨i1,i0,i2⟩:=hi
     split at i2
     .rename_i a hr
      simp only[Bool.and_eq_true,List.contains_iff_mem]at i2
      obtain⟨i3,i4⟩:=i2
      exact zex i1 i0 hr i3 (back a i3 (fun q hq=>by have:=List.all_eq_true.1 i4 q hq;simpa using this)) hs h1
     .cases i2
    .exact zpn hi hs h1
    .exact zgL hi hs h1
    rotate_left 2
    .exact zgM hi hs h1
    rotate_left
    .refine zgN hi (fun a ha=>?_) hs h1
     have hk:kH i.k=1:=by
      simp only[Go.Proofs.YtgamobngbenehaaGreatDoor.back,Bool.and_eq_true,decide_eq_true_eq]at hi
      rw[←zmi];exact hi.2.2.2
     rw[zdl hk]at ha
     exact hkn hk a ha
    .simp only[away,Bool.and_eq_true]at hi
     obtain⟨i1,i2⟩:=hi
     split at i2
     .rename_i a hr
      simp only[Bool.and_eq_true,List.contains_iff_mem]at i2
      obtain⟨i3,i4⟩:=i2
      exact zgO i1 hr i3 (back a i3 (fun q hq=>by have:=List.all_eq_true.1 i4 q hq;simpa using this)) hs h1
     .cases i2
   obtain⟨Ei,Hi,k1,k2⟩:=key
   refine⟨Ei,Hi,k1,?_,back,backC'⟩
   simp only[List.cons_append,frun,k2,Option.bind_some]
   exact h2
def zfa (C:zaT) (K:Ctx) (w:World) (M:Mut) (R:Res) (E':Env) (H':Heap) (a:Act) (Q:Exit→Act→World→Prop):Prop:=
 ∀w' M' R' a',WR C K w' M' R' H'→Evol R M w R' M' w'→EnvR w' M' R' E' a'→a'.tmps.size=a.tmps.size→a'.defers=a.defers→Q .normal a' w'
theorem zfa.step {w w':World} {M M':Mut} {R R':Res} {E':Env} {H':Heap} {a a':Act} {Q:Exit→Act→World→Prop} (h:zfa C K w M R E' H' a Q) (he:Evol R M w R' M' w') (h1:a'.tmps.size=a.tmps.size) (h2:a'.defers=a.defers):zfa C K w' M' R' E' H' a' Q:=
 fun w'' M'' R'' a'' k1 k2 k3 k4 k5=>h w'' M'' R'' a'' k1 (he.trans k2) k3 (k4.trans h1) (k5.trans h2)
theorem zeA {Rr:Rec} (hR:zbB P C Rr) (hP:zbi P C Rr) {N n:Nat} {ops:Array Oper} {Q:Exit→Act→World→Prop} {E':Env} {H':Heap}:∀(l:List Oper) (lis:List LI) (k:Nat) (E:Env) (H:Heap) (w:World) (M:Mut) (R:Res) (a:Act),
  (∀j,l[j]?=ops[k+j]?)→zbV P N ops l=some (lis.map LI.erase)→frun Rr lis E H=some (E',H')→WR C K w M R H→EnvR w M R E a→a.tmps.size=N→zfa C K w M R E' H' a Q→
  wpOpsIn (Wf ρ) n P ops Q (List.range' k l.length) a w
 | [],lis,k,E,H,w,M,R,a,hl,hli,hf,hw,he,hN,hQ=>by
  simp only[zbV,Option.some.injEq]at hli
  have:lis=[]:=by simpa using hli.symm
  subst this
  simp only[frun,Option.some.injEq,Prod.mk.injEq]at hf
  obtain⟨rfl,rfl⟩:=hf
  exact hQ w M R a hw (Evol.refl _ _ _) he rfl rfl
 |o::l,lis,k,E,H,w,M,R,a,hl,hli,hf,hw,he,hN,hQ=>by
  simp only[zbV]at hli
  split at hli
  .rename_i i is h1 h2
   cases lis with
   |nil=>simp at hli
   |cons li lis=>
    simp only[List.map_cons,Option.some.injEq,List.cons.injEq]at hli
    obtain⟨rfl,rfl⟩:=hli
    simp only[frun]at hf
    cases hs:zt Rr li E H with
    |none=>simp[hs]at hf
    |some p=>
     obtain⟨E1,H1⟩:=p
     simp only[hs,Option.bind_some]at hf
     have h0:ops[k]?=some o:=by simpa using (hl 0).symm
     simp only[List.length_cons,List.range'_succ,wpOpsIn,h0]
     refine zeC hR hP h1 hs hw he hN ?_
     intro w' M' R' a' k1 k2 k3 k4 k5
     exact zeA hR hP l lis (k+1) E1 H1 w' M' R' a' (fun j=>by have:=hl (j+1);simpa[Nat.add_assoc,Nat.add_comm 1 j]using this) h2 hf k1 k3 k4 (hQ.step k2 (by rw[k4,hN]) k5)
  .cases hli
theorem zdd {N:Nat} {ops:Array Oper}:∀{l:List Oper} {is:List LI},zbV P N ops l=some is→is.length=l.length∧∀(k:Nat) (o:Oper) (i:LI),l[k]?=some o→is[k]?=some i→zhi P N ops o=some i
 | [],is,h=>by simp[zbV]at h;subst h;simp
 |o::l,is,h=>by
  simp only[zbV]at h
  split at h
  .rename_i i is' h1 h2
   cases h
   obtain⟨k1,k2⟩:=zdd h2
   refine⟨by simp[k1],?_⟩
   intro k o' i' ho hi
   cases k with
   |zero=>simp at ho hi;subst ho;subst hi;exact h1
   |succ k=>simp at ho hi;exact k2 k o' i' ho hi
  .cases h
def left (n:Nat) (listed:Array Bool):List Nat:=(List.range n).filter fun k=> !listed.getD k true
theorem zeS {n:Nat} {listed:Array Bool} {i:Nat} (hi:i<n) (hl:listed.getD i true=false) (hsz:listed.size=n):
  ∃pre post,left n listed=pre++i::post∧left n (listed.setIfInBounds i true)=pre++post∧∀p∈pre,p<i∧listed.getD p true=false:=by
 refine⟨(List.range i).filter (fun k=> !listed.getD k true),((List.range' (i+1) (n - (i+1))).filter fun k=> !listed.getD k true),?_,?_,?_⟩
 .unfold left
  have e:List.range n=List.range i++i::List.range' (i+1) (n - (i+1)):=by
   rw[List.range_eq_range',List.range_eq_range',show i::List.range' (i+1) (n - (i+1))=List.range' i (n - i) from by
    rw[show n - i=(n - (i+1))+1 by omega,List.range'_succ]]
   have:=List.range'_append (s:=0) (m:=i) (n:=n - i) (step:=1)
   simp only[Nat.one_mul,Nat.zero_add]at this
   rw[this];congr 1;omega
  rw[e,List.filter_append,List.filter_cons]
  simp[hl]
 .unfold left
  have e:List.range n=List.range i++i::List.range' (i+1) (n - (i+1)):=by
   rw[List.range_eq_range',List.range_eq_range',show i::List.range' (i+1) (n - (i+1))=List.range' i (n - i) from by
    rw[show n - i=(n - (i+1))+1 by omega,List.range'_succ]]
   have:=List.range'_append (s:=0) (m:=i) (n:=n - i) (step:=1)
   simp only[Nat.one_mul,Nat.zero_add]at this
   rw[this];congr 1;omega
  have hself:(listed.setIfInBounds i true).getD i true=true:=by
   rw[Array.getD_eq_getD_getElem?,Array.getElem?_setIfInBounds]
   simp[hsz,hi]
  have hoth:∀k,k≠i→(listed.setIfInBounds i true).getD k true=listed.getD k true:=by
   intro k hk
   rw[Array.getD_eq_getD_getElem?,Array.getD_eq_getD_getElem?,Array.getElem?_setIfInBounds_ne (fun e=>hk e.symm)]
  rw[e,List.filter_append,List.filter_cons,hself]
  simp only[Bool.not_true,Bool.false_eq_true,if_false]
  congr 1
  .apply List.filter_congr
   intro k hk
   rw[hoth k (by have:=List.mem_range.1 hk;omega)]
  .apply List.filter_congr
   intro k hk
   rw[hoth k (by have:=List.mem_range'_1.1 hk;omega)]
 .intro p hp
  rw[List.mem_filter,List.mem_range]at hp
  exact⟨hp.1,by simpa using hp.2⟩
theorem zhd (i:LI):(plain i).erase=i.erase:=by
 obtain⟨d,k,g⟩:=i
 cases k with
 |pick c x y=>rfl
 |op k xs=>cases k<;>rfl
theorem zlp {p i:LI} {r r':List LI} (h:∀q∈r',q∈r) (ha:away p i r=true):away p i r'=true:=by
 simp only[away,Bool.and_eq_true]at ha⊢
 refine⟨ha.1,?_⟩
 have h2:=ha.2
 split at h2
 .simp only[Bool.and_eq_true]at h2⊢
  refine⟨h2.1,List.all_eq_true.2 fun q hq=>?_⟩
  rcases List.mem_cons.1 hq with rfl|hq
  .exact List.all_eq_true.1 h2.2 _ (by simp)
  .exact List.all_eq_true.1 h2.2 q (List.mem_cons_of_mem _ (h q hq))
 .cases h2
theorem zjc {p i:LI} {r r':List LI} (h:∀q∈r',q∈r) (ha:zdD p i r=true):zdD p i r'=true:=by
 simp only[zdD,Bool.and_eq_true]at ha⊢
 refine⟨ha.1,ha.2.1,?_⟩
 have h2:=ha.2.2
 split at h2
 .simp only[Bool.and_eq_true]at h2⊢
  refine⟨h2.1,List.all_eq_true.2 fun q hq=>?_⟩
  rcases List.mem_cons.1 hq with rfl|hq
  .exact List.all_eq_true.1 h2.2 _ (by simp)
  .exact List.all_eq_true.1 h2.2 q (List.mem_cons_of_mem _ (h q hq))
 .cases h2
theorem zjb {p i:LI} {r r':List LI} (h:∀q∈r',q∈r) (ha:zdC p i r=true):zdC p i r'=true:=by
 simp only[zdC,Bool.and_eq_true]at ha⊢
 refine⟨ha.1,?_⟩
 have h2:=ha.2
 split at h2
 .rename_i a hr
  simp only[Bool.and_eq_true]at h2⊢
  refine⟨h2.1,?_⟩
  rw[List.all_eq_true]at h2⊢
  intro q hq
  rcases List.mem_cons.1 hq with rfl|hq
  .exact h2.2 _ (by simp)
  .exact h2.2 q (by simp[h q hq])
 .cases h2
theorem zf8 {lis:List LI} {i:Nat} {li:LI}:∀(pre:List Nat),pre.Pairwise (·<·)→(∀p∈pre,p<i)→(∀p∈pre,∀lp,lis[p]?=some lp→zeu lp (plain li)=true∨soft lp (plain li)=true∨away lp li ((lis.take i).drop (p+1))=true∨back lp (plain li)=true∨zev lp (plain li)=true∨zdD lp li ((lis.take i).drop (p+1))=true∨zdC lp li ((lis.take i).drop (p+1))=true∨zfI lp (plain li)=true)→zlz li (pre.filterMap fun k=>lis[k]?)
 | [],_,_,_=>trivial
 |p::r,hs,hlt,h=>by
  have hs':=List.pairwise_cons.1 hs
  have ih:=zf8 r hs'.2 (fun q hq=>hlt q (by simp[hq])) (fun q hq=>h q (by simp[hq]))
  rw[List.filterMap_cons]
  cases hp:lis[p]? with
  |none=>exact ih
  |some lp=>
   refine⟨?_,ih⟩
   rcases h p (by simp) lp hp with h1|h1|h1|h1|h1|h1|h1|h1
   rotate_right
   .exact .inr (.inr (.inr (.inr (.inr (.inr (.inr h1))))))
   rotate_right
   .refine .inr (.inr (.inr (.inr (.inr (.inr (.inl (zjb (fun q hq=>?_) h1)))))))
    obtain⟨k,hk,hq⟩:=List.mem_filterMap.1 hq
    have h1:=hs'.1 k hk
    have h2:=hlt k (by simp[hk])
    refine List.mem_of_getElem? (i:=k - (p+1)) ?_
    rw[List.getElem?_drop,List.getElem?_take,if_pos (by omega),show p+1+(k - (p+1))=k by omega]
    exact hq
   .exact .inl h1
   .exact .inr (.inl h1)
   rotate_left
   .exact .inr (.inr (.inr (.inl h1)))
   .exact .inr (.inr (.inr (.inr (.inl h1))))
   rotate_left
   .refine .inr (.inr (.inl (zlp (fun q hq=>?_) h1)))
    obtain⟨k,hk,hq⟩:=List.mem_filterMap.1 hq
    have h1:=hs'.1 k hk
    have h2:=hlt k (by simp[hk])
    refine List.mem_of_getElem? (i:=k - (p+1)) ?_
    rw[List.getElem?_drop,List.getElem?_take,if_pos (by omega),show p+1+(k - (p+1))=k by omega]
    exact hq
   .refine .inr (.inr (.inr (.inr (.inr (.inl (zjc (fun q hq=>?_) h1))))))
    obtain⟨k,hk,hq⟩:=List.mem_filterMap.1 hq
    have h1:=hs'.1 k hk
    have h2:=hlt k (by simp[hk])
    refine List.mem_of_getElem? (i:=k - (p+1)) ?_
    rw[List.getElem?_drop,List.getElem?_take,if_pos (by omega),show p+1+(k - (p+1))=k by omega]
    exact hq
def zhG (ops:Array Oper) (listed:Array Bool):Prop:=∀k o,ops[k]?=some o→listed.getD k false=true→∀e∈o.after,Region.binds .any e=true→listed.getD e.on false=true
theorem zje {ops:Array Oper} {listed:Array Bool} (hcl:zhG ops listed) {p:Nat}:∀(n k:Nat) (o:Oper),ops[k]?=some o→(∀e∈o.after,Region.binds .any e=true→listed.getD e.on false=true)→anc ops n k p=true→listed.getD p false=true:=by
 intro n
 induction n with
 |zero=>intro k o _ _ h;simp[anc]at h
 |succ n ih=>
  intro k o ho hk h
  simp only[anc,ho]at h
  obtain⟨e,he,h1⟩:=List.any_eq_true.1 h
  simp only[Bool.and_eq_true,Bool.or_eq_true,beq_iff_eq]at h1
  obtain⟨hb,h2⟩:=h1
  have hl:=hk e (by simpa using he) hb
  rcases h2 with h2|h2
  .rw[←h2];exact hl
  .cases hq:ops[e.on]? with
   |none=>
    cases n with
    |zero=>simp[anc]at h2
    |succ n=>simp[anc,hq]at h2
   |some o'=>exact ih e.on o' hq (hcl e.on o' hq hl) h2
theorem zmh {w:World} {M:Mut} {R:Res} {H:Heap} (hw:WR C K w M R H) {y:AV} {u:Value} (h:VR w M R y u):zdi H y:=by
 have key:∀id ver g,R id ver=some g→∃B,H[id]?=some B∧ver≤B.ver:=by
  intro id ver g hg
  have hlt:=hw.heap.dom id ver g hg
  refine⟨H[id],gEg hlt,?_⟩
  have hb:=hw.heap.blk id _ (gEg hlt)
  rcases Nat.lt_or_ge (H[id]).ver ver with h1|h1
  .exfalso
   generalize H[id]=B at hb h1
   have hn:R id ver=none:=by
    cases B with
    |arr v sz sh es=>obtain⟨_,_,_,_,h2,_⟩:=hb;exact h2 ver h1
    |loop st pend F ps ac bd=>obtain⟨_,_,_,h2,_⟩:=hb;exact h2 ver (by have:(0:Nat)<ver:=h1;exact this)
    |mp es=>obtain⟨_,_,_,_,h2,_⟩:=hb;exact h2 ver (by have:(0:Nat)<ver:=h1;exact this)
    |hole t=>exact hb ver
    |sit s p=>obtain⟨_,_,h2,_⟩:=hb;exact h2 ver (by have:(0:Nat)<ver:=h1;exact this)
    |mit st k v all=>obtain⟨_,_,_,_,_,_,h2,_⟩:=hb;exact h2 ver (by have:(0:Nat)<ver:=h1;exact this)
    |bx t cs=>obtain⟨_,_,_,h2,_⟩:=hb;exact h2 ver (by have:(0:Nat)<ver:=h1;exact this)
    |dead v=>obtain⟨_,_,_,_,_,h2,_⟩:=hb;exact h2 ver h1
    |byt v l=>obtain⟨_,_,_,h2,_⟩:=hb;exact h2 ver h1
   rw[hn]at hg;cases hg
  .exact h1
 cases h<;>simp only[zdi]
 .exact key _ _ _ (by assumption)
 .exact key _ _ _ (by assumption)
theorem zlt {Rr:Rec} (hR:zbB P C Rr) (hP:zbi P C Rr) {N n:Nat} {ops:Array Oper} {lis:List LI} (hli:zbV P N ops ops.toList=some (lis.map LI.erase)) (hd:zmQ ops lis=true) {Q:Exit→Act→World→Prop} {E':Env} {H':Heap}:
  ∀(fuel:Nat) (listed:Array Bool) (E:Env) (H:Heap) (w:World) (M:Mut) (R:Res) (a:Act),zhG ops listed→listed.size=ops.size→(left ops.size listed).length=fuel→frun Rr ((left ops.size listed).filterMap fun k=>lis[k]?) E H=some (E',H')→
   WR C K w M R H→EnvR w M R E a→a.tmps.size=N→zfa C K w M R E' H' a Q→wpAnyIn (Wf ρ) n P .any ops Q fuel listed a w:=by
 obtain⟨hlen,hget⟩:=zdd hli
 have hlen':lis.length=ops.size:=by simpa using hlen
 intro fuel
 induction fuel with
 |zero=>
  intro listed E H w M R a hcl hsz hfuel hf hw he hN hQ
  have hnil:left ops.size listed=[]:=List.eq_nil_of_length_eq_zero hfuel
  rw[hnil]at hf
  simp only[List.filterMap_nil,frun,Option.some.injEq,Prod.mk.injEq]at hf
  obtain⟨rfl,rfl⟩:=hf
  refine⟨?_,hQ w M R a hw (Evol.refl _ _ _) he rfl rfl⟩
  cases hr:Region.ready .any ops listed with
  |nil=>rfl
  |cons i r=>
   exfalso
   obtain⟨h1,o,h2,h3⟩:=mem_ready.1 (show i∈Region.ready .any ops listed by rw[hr];simp)
   have:i∈left ops.size listed:=by
    unfold left
    rw[List.mem_filter,List.mem_range]
    exact⟨(Array.getElem?_eq_some_iff.1 h2).1,by simpa using h1⟩
   rw[hnil]at this;cases this
 |succ fuel ih=>
  intro listed E H w M R a hcl hsz hfuel hf hw he hN hQ
  have hdk:∀(k:Nat) (o:Oper) (li:LI),ops[k]?=some o→lis[k]?=some li→(∀e∈o.after,Region.binds .any e=true→e.on<k)∧∀(p:Nat) (lp:LI),p<k→lis[p]?=some lp→(∃e∈o.after,Region.binds .any e=true∧e.on=p)∨(zeu lp (plain li)=true∨soft lp (plain li)=true∨away lp li ((lis.take k).drop (p+1))=true∨back lp (plain li)=true∨zev lp (plain li)=true∨zdD lp li ((lis.take k).drop (p+1))=true∨zdC lp li ((lis.take k).drop (p+1))=true∨zfI lp (plain li)=true)∨anc ops ops.size k p=true:=by
   intro k o li ho hl
   have hk:k<ops.size:=(Array.getElem?_eq_some_iff.1 ho).1
   have:=List.all_eq_true.1 hd k (List.mem_range.2 hk)
   rw[ho,hl]at this
   simp only[Bool.and_eq_true]at this
   obtain⟨t1,t2⟩:=this
   refine⟨?_,?_⟩
   .intro e hee hb
    have:=List.all_eq_true.1 t1 e (by simpa using hee)
    simpa[hb]using this
   .intro p lp hp hlp
    have:=List.all_eq_true.1 t2 p (List.mem_range.2 hp)
    rw[hlp]at this
    simp only[Bool.or_eq_true,List.any_eq_true,Bool.and_eq_true,beq_iff_eq]at this
    rcases this with (⟨e,h1,h2,h3⟩|h)|h
    .exact .inl ⟨e,by simpa using h1,h2,h3⟩
    .exact .inr (.inl (by rcases h with ((((((h|h)|h)|h)|h)|h)|h)|h;exact .inl h;exact .inr (.inl h);exact .inr (.inr (.inl h));exact .inr (.inr (.inr (.inl h)));exact .inr (.inr (.inr (.inr (.inl h))));exact .inr (.inr (.inr (.inr (.inr (.inl h)))));exact .inr (.inr (.inr (.inr (.inr (.inr (.inl h))))));exact .inr (.inr (.inr (.inr (.inr (.inr (.inr h))))))))
    .exact .inr (.inr h)
  refine⟨?_,?_⟩
  .intro hr
   exfalso
   cases hl:left ops.size listed with
   |nil=>rw[hl]at hfuel;simp at hfuel
   |cons k rest=>
    have hk:k∈left ops.size listed:=by rw[hl];simp
    unfold left at hk
    rw[List.mem_filter,List.mem_range]at hk
    have hkl:listed.getD k true=false:=by simpa using hk.2
    have ho:=Array.getElem?_eq_getElem hk.1
    have hli':lis[k]?=some lis[k]:=gEg (by omega)
    have hready:k∈Region.ready .any ops listed:=by
     refine mem_ready.2 ⟨hkl,_,ho,?_⟩
     intro e hee hb
     have hlt:=(hdk k _ _ ho hli').1 e hee hb
     obtain⟨pre,post,e1,e2,e3⟩:=zeS hk.1 hkl hsz
     have hpre:pre=[]:=by
      cases pre with
      |nil=>rfl
      |cons q pre=>
       rw[hl]at e1
       simp only[List.cons_append,List.cons.injEq]at e1
       have:=(e3 q (by simp)).1
       omega
     cases hlis:listed.getD e.on false with
     |true=>rfl
     |false=>
      exfalso
      have hlt2:e.on<listed.size:=by omega
      have hf2:listed.getD e.on true=false:=by
       rw[Array.getD_eq_getD_getElem?]at hlis⊢
       rw[Array.getElem?_eq_getElem hlt2]at hlis⊢
       simpa using hlis
      have hmem:e.on∈left ops.size listed:=by
       unfold left
       rw[List.mem_filter,List.mem_range]
       exact⟨by omega,by simpa using hf2⟩
      rw[e1,hpre]at hmem
      simp only[List.nil_append,List.mem_cons]at hmem
      rcases hmem with hm|hm
      .omega
      .
       have:∀q∈post,k<q:=by
        intro q hq
        have hs:(left ops.size listed).Pairwise (·<·):=by
         unfold left
         exact List.Pairwise.filter _ List.pairwise_lt_range
        rw[e1,hpre]at hs
        exact (List.pairwise_cons.1 hs).1 q hq
       have:=this _ hm
       omega
    rw[hr]at hready;cases hready
  .intro i hi
   obtain⟨h1,o,h2,h3⟩:=mem_ready.1 hi
   have hilt:i<ops.size:=(Array.getElem?_eq_some_iff.1 h2).1
   obtain⟨pre,post,e1,e2,e3⟩:=zeS hilt h1 hsz
   have hli':lis[i]?=some lis[i]:=gEg (by omega)
   rw[e1]at hf
   simp only[List.filterMap_append,List.filterMap_cons,hli']at hf
   have hsorted:pre.Pairwise (·<·):=by
    have hs:(left ops.size listed).Pairwise (·<·):=by
     unfold left
     exact List.Pairwise.filter _ List.pairwise_lt_range
    rw[e1]at hs
    exact (List.pairwise_append.1 hs).1
   obtain⟨E1,H1,f1,f2,_⟩:=zny (pre.filterMap fun k=>lis[k]?) (post.filterMap fun k=>lis[k]?) (zf8 pre hsorted (fun p hp=>(e3 p hp).1) (fun p hp lp hlp=>by
    obtain⟨q1,q2⟩:=e3 p hp
    have absurdL:listed.getD p false=true→False:=by
     intro this
     rw[Array.getD_eq_getD_getElem?]at this q2
     cases hq:listed[p]? with
     |none=>rw[hq]at this;simp at this
     |some b=>rw[hq]at this q2;simp at this q2;rw[this]at q2;cases q2
    rcases (hdk i o _ h2 hli').2 p lp q1 hlp with⟨e,hee,hb,hon⟩|h|h
    rotate_left 2
    .exact (absurdL (zje hcl _ i o h2 h3 h)).elim
    .exfalso
     have:=h3 e hee hb
     rw[hon]at this
     rw[Array.getD_eq_getD_getElem?]at this q2
     cases hq:listed[p]? with
     |none=>rw[hq]at this;simp at this
     |some b=>rw[hq]at this q2;simp at this q2;rw[this]at q2;cases q2
    .exact h)) (fun _ a _=>zmh hw (he a)) hf
   unfold wpOpIn
   rw[h2]
   have hlo:zhi P N ops o=some (plain lis[i]).erase:=by
    rw[zhd]
    refine hget i o _ (by rw[Array.getElem?_toList];exact h2) ?_
    rw[List.getElem?_map,hli'];rfl
   refine zeC hR hP hlo f1 hw he hN ?_
   intro w' M' R' a' k1 k2 k3 k4 k5
   have hcl':zhG ops (listed.setIfInBounds i true):=by
    intro k ok hok hkl e hee hb
    have grow:listed.getD e.on false=true→(listed.setIfInBounds i true).getD e.on false=true:=by
     intro h
     rw[Array.getD_eq_getD_getElem?]at h⊢
     by_cases he2:i=e.on
     .subst he2
      rw[Array.getElem?_setIfInBounds_self]
      split
      .rfl
      .rename_i hn;rw[Array.getElem?_eq_none (by omega)]at h;simp at h
     .rw[Array.getElem?_setIfInBounds_ne he2];exact h
    by_cases hik:i=k
    .subst hik
     rw[h2]at hok;cases hok
     exact grow (h3 e hee hb)
    .refine grow (hcl k ok hok ?_ e hee hb)
     rw[Array.getD_eq_getD_getElem?]at hkl⊢
     rw[Array.getElem?_setIfInBounds_ne hik]at hkl
     exact hkl
   refine ih _ E1 H1 w' M' R' a' hcl' (by simpa using hsz) ?_ ?_ k1 k3 k4 (hQ.step k2 (by rw[k4,hN]) k5)
   .rw[e2]
    rw[e1]at hfuel
    simp at hfuel⊢;omega
   .rw[e2,List.filterMap_append];exact f2
theorem WR.drew {w:World} {M:Mut} {R:Res} {H:Heap} (h:WR C K w M R H):WR C K {w with drawn:=w.drawn+1} M R H∧Evol R M w R M {w with drawn:=w.drawn+1}:=h.same rfl rfl rfl rfl
theorem zfX {Rr:Rec} (hR:zbB P C Rr) (hP:zbi P C Rr) (hm:P.follows .mixedOrders=true) {N n id:Nat} {draw:Bool} {ops:Array Oper} {lis:List LI} (hli:zbV P N ops ops.toList=some (lis.map LI.erase)) (hd:draw=true→zmQ ops lis=true)
  {Q:Exit→Act→World→Prop} {E E':Env} {H H':Heap} {w:World} {M:Mut} {R:Res} {a:Act} (hf:frun Rr lis E H=some (E',H')) (hw:WR C K w M R H) (he:EnvR w M R E a) (hN:a.tmps.size=N) (hQ:zfa C K w M R E' H' a Q):
  (Code.region id ops draw).wpIn (Wf ρ) n P Q a w:=by
 cases draw with
 |false=>
  refine wpIn_region ?_
  have:=zeA (ρ:=ρ) (n:=n) hR hP ops.toList lis 0 E H w M R a (fun j=>by simp) hli hf hw he hN hQ
  rw[List.range_eq_range']
  simpa using this
 |true=>
  refine wpIn_region_any hm ?_
  obtain⟨d1,d2⟩:=hw.drew
  have hlen':lis.length=ops.size:=by simpa using (zdd hli).1
  have hleft:left ops.size (Array.replicate ops.size false)=List.range ops.size:=by
   unfold left
   rw[List.filter_eq_self]
   intro k hk
   have:=List.mem_range.1 hk
   simp[Array.getD,this]
  have hall:(List.range ops.size).filterMap (fun k=>lis[k]?)=lis:=by
   rw[←hlen']
   clear hli hf hd hleft hlen'
   induction lis with
   |nil=>rfl
   |cons x l ih=>
    rw[List.length_cons,List.range_succ_eq_map,List.filterMap_cons]
    simp only[gEz,List.filterMap_map]
    congr 1
  exact zlt (ρ:=ρ) (n:=n) hR hP hli (hd rfl) ops.size _ E H _ M R a (by intro k o _ hk;simp[Array.getD]at hk) (by simp) (by rw[hleft];simp) (by rw[hleft,hall];exact hf) d1 (he.evol d2) hN (hQ.step d2 rfl rfl)
end region
end Go.Proofs.YtgamobngbenehaaGreatDoor
