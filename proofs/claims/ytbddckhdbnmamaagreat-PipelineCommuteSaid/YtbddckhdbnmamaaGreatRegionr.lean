/-
  Regions: in the order of the text, and in whatever order (conditions: none).
-/
import Derived.Test.YtbddckhdbnmamaaGreatSoundr
namespace Go.Proofs.YtbddckhdbnmamaaGreat
open Go Go.RowKit
set_option linter.unusedVariables false
set_option linter.unusedSimpArgs false
def kH:LK→Nat
 | .pick _ _ _=>0
 | .op k _=>match k with
  | .load imm _ _=>if imm then 0 else 1
  | .idxa imm _=>if imm then 0 else 1
  | .slc imm _ _ _ _=>if imm then 0 else 1
  | .bsl imm _ _ _ _=>if imm then 0 else 2
  | .call _=>2
  | .callv=>2
  | .pubcall _=>2
  | .fcall _=>1
  | .box _=>2
  | .store _=>2
  | .storeA _=>2
  | .appA _=>2
  | .app _=>2
  | .mksl _ _=>2
  | .mkslH _ _ _=>2
  | .clr _ _=>2
  | .cpy=>2
  | .mkmap=>2
  | .mput _=>2
  | .mget _ _ _=>1
  | .rngs=>2
  | .nxt=>2
  | .boxH _ _=>2
  | .callA _ _=>2
  |_=>0
def zcm:Src→List Nat| .t i=> [i]| .c _=> []
def zfa:LK→List Nat
 | .op _ xs=>xs.flatMap zcm
 | .pick c x y=>c::(zcm x++zcm y)
def zR (i:LI):List Nat:=(match i.g with|some (t,_)=> [t]|none=> [])++zfa i.k
def zfK (i j:LI):Bool:=
 i.dst.all (fun d=> !(zR j).contains d&& !(j.dst.toList).contains d)&&j.dst.all (fun d=> !(zR i).contains d)&&(kH i.k==0||kH j.k==0||(decide (kH i.k≤1)&&decide (kH j.k≤1)))
/-! ### Operations that can be told apart by where they go -/
def zao:LK→Bool
 | .op (.box _) _=>true
 | .op (.bsl false _ _ _ _) _=>true
 | .op .mkmap _=>true
 | .op (.mksl _ _) _=>true
 |_=>false
def znn:LK→Bool
 | .op (.store _) _=>true
 | .op (.pubcall _) _=>true
 | .op (.load _ _ _) _=>true
 | .op (.idxa _ _) _=>true
 | .op (.slc _ _ _ _ _) _=>true
 | .op (.mget _ _ _) _=>true
 |_=>false
def zU:LK→Option Nat
 | .op (.load _ _ _) (.t a::_)=>some a
 | .op (.idxa _ _) (.t a::_)=>some a
 | .op (.slc _ _ _ _ _) (.t a::_)=>some a
 |_=>none
def zbJ:LK→List Nat
 | .op k (_::_::ax)=>if (zbm k).isSome then ax.flatMap zcm else []
 |_=> []
def dstB (i j:LI):Bool:=i.dst.all (fun d=> !(zR j).contains d&& !(j.dst.toList).contains d)&&j.dst.all (fun d=> !(zR i).contains d)
def zmM:LK→LK| .op (.storeA n) xs=> .op (.store n) (xs.take 2)| .op (.appA n) xs=> .op (.app n) (xs.take 2)| .op (.callA f n) xs=> .op (.call f) (xs.take n)|k=>k
theorem za1 {k k0:OpK} {xs:List Src} (h:zbm k=some k0):zmM (.op k xs)= .op k0 (xs.take 2):=by
 cases k<;>simp only[zbm,reduceCtorEq,oSi]at h<;>subst h<;>rfl
theorem zjg {k:OpK} {xs:List Src} (h:zbm k=none) (hc:∀f n,k≠.callA f n):zmM (.op k xs)= .op k xs:=by
 cases k<;>first|rfl|exact absurd rfl (hc _ _)|(cases h;done)
def zq (i:LI):LI:=⟨i.dst,zmM i.k,i.g⟩
def soft (p i:LI):Bool:=dstB p i&&(zao i.k&&znn p.k)
def away (p i:LI) (r:List LI):Bool:=dstB p (zq i)&&(match zU p.k with|some a=>(zbJ i.k).contains a&&(p::r).all (fun q=>decide (q.dst≠some a))|none=>false)
def storeAt:LK→Option Nat| .op (.store _) [.t a,_]=>some a|_=>none
def znm:LK→Bool| .op (.storeA _) _=>true|_=>false
def zez (p i:LI) (r:List LI):Bool:=dstB p (zq i)&&(znm i.k&&(match storeAt p.k with|some a=>(zbJ i.k).contains a&&(p::r).all (fun q=>decide (q.dst≠some a))|none=>false))
def zaY:LK→Option Nat| .op (.mkslH t _ _) _=>some t| .op (.boxH t _) _=>some t|_=>none
def zts:LK→Bool| .op (.app _) _=>true| .op (.appA _) _=>true|_=>false
def back (p i:LI):Bool:=dstB p i&&((zts p.k||zao p.k||(zaY p.k).isSome)&&((zU i.k).isSome&&decide (kH i.k=1)))
def zfL (p i:LI):Bool:=dstB p i&&(match zaY p.k,zaY i.k with|some a,some b=>decide (a≠b)|some _,none=>zao i.k|none,some _=>zao p.k||(zU p.k).isSome|none,none=>false)
def zb1:LK→List Nat| .op (.callA _ n) xs=>(xs.drop n).flatMap zcm|_=> []
def isN:LK→Bool| .op (.callA _ n) _=>decide (1000≤n)|_=>false
def zey (p i:LI) (r:List LI):Bool:=dstB p (zq i)&&(match zU p.k with|some a=>isN i.k||((zb1 i.k).contains a&&(p::r).all (fun q=>decide (q.dst≠some a)))|none=>false)
def zhl (p i:LI):Bool:=dstB p i&&(match zU i.k with|some a=>decide (kH i.k=1)&&(isN p.k||(zb1 p.k).contains a)|none=>false)
def anc (ops:Array Oper):Nat→Nat→Nat→Bool
 |0,_,_=>false
 |n+1,k,p=>match ops[k]? with|some o=>o.after.toList.any (fun e=>Region.binds .any e&&(e.on==p||anc ops n e.on p))|none=>false
def zqY (ops:Array Oper) (lis:List LI):Bool:=
 (List.range ops.size).all fun k=>match ops[k]?,lis[k]? with
  |some o,some li=>(o.after.toList.all fun e=> !Region.binds .any e||decide (e.on<k))&&
    ((List.range k).all fun p=>(o.after.toList.any fun e=>Region.binds .any e&&e.on==p)||(match lis[p]? with|some lp=>zfK lp (zq li)||soft lp (zq li)||away lp li ((lis.take k).drop (p+1))||back lp (zq li)||zfL lp (zq li)||zez lp li ((lis.take k).drop (p+1))||zey lp li ((lis.take k).drop (p+1))||zhl lp (zq li)|none=>false)||anc ops ops.size k p)
  |_,_=>false
section region
variable {P:Program} {C:zaX} {K:Ctx} {ρ:Option Nat}
theorem zfP {E E':Env}:∀{xs:List Src},(∀s∈xs.flatMap zcm,E' s=E s)→vals E' xs=vals E xs
 | [],_=>rfl
 |x::xs,h=>by
  have h1:evS E' x=evS E x:=by
   cases x with
   |t i=>exact h i (by simp[zcm])
   |c v=>rfl
  have h2:vals E' xs=vals E xs:=zfP (fun s hs=>h s (by simp only[List.flatMap_cons,List.mem_append];exact .inr hs))
  simp only[vals,h1,h2]
theorem zt {R:Rec} {i:LI} {E E1:Env} {H H1:Heap} (h:zp R i E H=some (E1,H1)):
  ∃v,E1=putE E i.dst v∧∀E',(∀s∈zR i,E' s=E s)→zp R i E' H=some (putE E' i.dst v,H1):=by
 obtain⟨d,k,g⟩:=i
 have hg:∀E',(∀s∈zR ⟨d,k,g⟩,E' s=E s)→gval E' g=gval E g:=by
  intro E' hE
  refine za3 (fun t want e=>hE t ?_)
  simp[zR,e]
 unfold zp at h
 simp only at h
 split at h
 .rename_i hgt
  cases k with
  |op k xs=>
   simp only[zbf]at h
   split at h
   .rename_i vs hvs
    cases hx:exec R H k vs with
    |none=>simp[hx]at h
    |some p=>
     simp only[hx,oMs,oSi,pMi]at h
     obtain⟨rfl,rfl⟩:=h
     refine⟨p.1,rfl,?_⟩
     intro E' hE
     have hv:vals E' xs=some vs:=by
      rw[zfP (E:=E) (fun s hs=>hE s (by simp only[zR,zfa,List.mem_append];exact .inr hs))];exact hvs
     simp only[zp,hg E' hE,hgt,zbf,hv,hx,oMs]
   .cases h
  |pick c x y=>
   simp only[zbf]at h
   split at h
   .rename_i t hEc
    cases hok:okO (evS E (if t then x else y)) with
    |none=>simp[hok]at h
    |some v=>
     simp only[hok,oMs,oSi,pMi]at h
     obtain⟨rfl,rfl⟩:=h
     refine⟨v,rfl,?_⟩
     intro E' hE
     have hc:E' c= .bool t:=by rw[hE c (by simp[zR,zfa])];exact hEc
     have hs:evS E' (if t then x else y)=evS E (if t then x else y):=by
      cases t
      .simp only[bFt,if_false]
       cases y with
       |t i=>exact hE i (by simp[zR,zfa,zcm])
       |c v=>rfl
      .simp only[if_true]
       cases x with
       |t i=>exact hE i (by simp[zR,zfa,zcm])
       |c v=>rfl
     simp only[zp,hg E' hE,hgt,zbf,hc,hs,hok,oMs]
   .cases h
 .rename_i hgf
  cases h
  refine⟨.und,rfl,?_⟩
  intro E' hE
  simp only[zp,hg E' hE,hgf]
 .cases h
theorem zeM {R:Rec} {k:OpK} {xs:List Src} {vs:List AV} {H:Heap} {r:AV×Heap} (hk:kH (.op k xs)≤1) (h:exec R H k vs=some r):r.2=H:=by
 obtain⟨v,H1⟩:=r
 by_cases hp:(∃f,k= .pcall f)∨∃f,k= .fcall f
 .rcases hp with⟨f,rfl⟩|⟨f,rfl⟩
  .simp only[exec]at h
   cases hq:R.pure f vs with
   |none=>simp[hq]at h
   |some x=>simp only[hq,oMs,oSi,pMi]at h;exact h.2.symm
  .simp only[exec,oBs]at h
   obtain⟨as',_,x,_,h⟩:=h
   split at h
   .cases h;rfl
   .cases h
 .by_cases hq:k.quiet=true
  .have hx:zav H k vs=some (v,H1):=by cases k<;>first|exact h|cases hq
   exact (zy hq hx).2.2
  .cases k<;>first|exact absurd rfl hq|(simp[kH]at hk;done)|exact absurd (.inl ⟨_,rfl⟩) hp|exact absurd (.inr ⟨_,rfl⟩) hp|skip
   rename_i imm sz n z ps
   cases imm with
   |false=>simp[kH]at hk
   |true=>
    have hx:ex H (.bsl true sz n z ps) vs=some (v,H1):=zaj rfl h
    simp only[ex]at hx
    split at hx
    .simp only[if_true]at hx
     cases hb:bslE sz (List.replicate n z) ps vs with
     |none=>simp[hb]at hx
     |some es=>
      simp only[hb,Option.bind_some]at hx
      split at hx
      .cases hx;rfl
      .cases hx
    .cases hx
theorem znZ {R:Rec} {k:OpK} {xs:List Src} {vs:List AV} {H:Heap} {r:AV×Heap} (hk:kH (.op k xs)=0) (h:exec R H k vs=some r) (H2:Heap):exec R H2 k vs=some (r.1,H2):=by
 obtain⟨v,H1⟩:=r
 by_cases hp:∃f,k= .pcall f
 .obtain⟨f,rfl⟩:=hp
  simp only[exec]at h⊢
  cases hq:R.pure f vs with
  |none=>simp[hq]at h
  |some x=>simp only[hq,oMs,oSi,pMi]at h⊢;exact⟨h.1,trivial⟩
 .by_cases hq:k.quiet=true
  .have hx:zav H k vs=some (v,H1):=by cases k<;>first|exact h|cases hq
   obtain⟨e1,e2,e3⟩:=zy hq hx
   have e4:qx H2 k vs=v:=by
    have hnb:∀(imm:Bool) (x:AV) (y:AV),(if imm&& !x.imm then AV.bad else y)=v→imm=true→x.imm=true∧y=v:=by
     intro imm x y hh hi
     subst hi
     cases hxi:x.imm with
     |false=>simp[hxi]at hh;exact absurd hh.symm e2
     |true=>simp[hxi]at hh;exact⟨rfl,hh⟩
    cases k with
    |load imm g n=>
     have himm:imm=true:=by cases imm<;>simp[kH]at hk⊢
     match vs,e1 with
     | [x],e1=>
      obtain⟨h1,h2⟩:=hnb _ _ _ e1 himm
      simp only[qx,h1,Bool.not_true,Bool.and_false,bFt,if_false]
      cases x<;>first|exact h2|cases h1
     | [],e1=>exact e1
     |_::_::_,e1=>exact e1
    |idxa imm sz=>
     have himm:imm=true:=by cases imm<;>simp[kH]at hk⊢
     match vs,e1 with
     | [x,y],e1=>
      obtain⟨h1,h2⟩:=hnb _ _ _ e1 himm
      simp only[qx,h1,Bool.not_true,Bool.and_false,bFt,if_false]
      cases x<;>first|(cases y<;>exact h2)|cases h1
     | [],e1=>exact e1
     | [_],e1=>exact e1
     |_::_::_::_,e1=>exact e1
    |slc imm str sz lo hi=>
     have himm:imm=true:=by cases imm<;>simp[kH]at hk⊢
     match vs,e1 with
     |x::bs,e1=>
      obtain⟨h1,h2⟩:=hnb _ _ _ e1 himm
      simp only[qx,h1,Bool.not_true,Bool.and_false,bFt,if_false]
      cases x<;>first|(cases str<;>exact h2)|cases h1
     | [],e1=>exact e1
    |mget q o z=>simp[kH]at hk
    |_=>rcases vs with _|⟨x,_|⟨y,_|⟨z,_|⟨u,r⟩⟩⟩⟩<;>exact e1
   have hx2:zav H2 k vs=some (v,H2):=zcR hq e4 e2
   cases k<;>first|exact hx2|cases hq
  .cases k<;>first|exact absurd rfl hq|(simp[kH]at hk;done)|exact absurd ⟨_,rfl⟩ hp|skip
   rename_i imm sz n z ps
   cases imm with
   |false=>simp[kH]at hk
   |true=>
    have hx:ex H (.bsl true sz n z ps) vs=some (v,H1):=zaj rfl h
    show zav H2 (.bsl true sz n z ps) vs=_
    unfold zav
    rw[if_neg (by simp[OpK.quiet])]
    simp only[ex]at hx⊢
    split at hx
    .rename_i hc
     rw[if_pos hc]
     simp only[if_true]at hx⊢
     cases hb:bslE sz (List.replicate n z) ps vs with
     |none=>simp[hb]at hx
     |some es=>
      simp only[hb,Option.bind_some]at hx⊢
      split at hx
      .rename_i hs;rw[if_pos hs];cases hx;rfl
      .cases hx
    .cases hx
theorem zaH {R:Rec} {i:LI} {E E1:Env} {H H1:Heap} (hk:kH i.k≤1) (h:zp R i E H=some (E1,H1)):H1=H:=by
 obtain⟨d,k,g⟩:=i
 unfold zp at h
 simp only at h
 split at h
 .cases k with
  |op k xs=>
   simp only[zbf]at h
   split at h
   .rename_i vs hvs
    cases hx:exec R H k vs with
    |none=>simp[hx]at h
    |some p=>
     simp only[hx,oMs,oSi,pMi]at h
     rw[←h.2];exact zeM hk hx
   .cases h
  |pick c x y=>
   simp only[zbf]at h
   split at h
   .rename_i t hEc
    cases hok:okO (evS E (if t then x else y)) with
    |none=>simp[hok]at h
    |some v=>simp only[hok,oMs,oSi,pMi]at h;exact h.2.symm
   .cases h
 .cases h;rfl
 .cases h
theorem zgf {R:Rec} {i:LI} {E E1:Env} {H H1:Heap} (hk:kH i.k=0) (h:zp R i E H=some (E1,H1)) (H2:Heap):zp R i E H2=some (E1,H2):=by
 obtain⟨d,k,g⟩:=i
 unfold zp at h⊢
 simp only at h⊢
 split at h
 .cases k with
  |op k xs=>
   simp only[zbf]at h⊢
   split at h
   .rename_i vs hvs
    cases hx:exec R H k vs with
    |none=>simp[hx]at h
    |some p=>
     simp only[hx,oMs,oSi,pMi]at h
     rw[znZ hk hx H2]
     simp[h.1]
   .cases h
  |pick c x y=>
   simp only[zbf]at h⊢
   split at h
   .rename_i t hEc
    cases hok:okO (evS E (if t then x else y)) with
    |none=>simp[hok]at h
    |some v=>simp only[hok,oMs,oSi,pMi]at h⊢;exact⟨h.1,trivial⟩
   .cases h
 .cases h;rfl
 .cases h
theorem zaG {E:Env} {d d':Option Nat} {v v':AV} (h:∀x,d=some x→d'≠some x):putE (putE E d v) d' v'=putE (putE E d' v') d v:=by
 funext i
 simp only[zw]
 by_cases h1:d=some i
 .rw[if_neg (h i h1),if_pos h1,if_pos h1]
 .rw[if_neg h1,if_neg h1]
theorem zt5 {R:Rec} {i j:LI} {E E1 E2:Env} {H H1 H2:Heap} (hi:zfK i j=true) (h1:zp R i E H=some (E1,H1)) (h2:zp R j E1 H1=some (E2,H2)):
  ∃E' H',zp R j E H=some (E',H')∧zp R i E' H'=some (E2,H2):=by
 simp only[zfK,bAt,Bool.or_eq_true,beq_iff_eq,dTe]at hi
 obtain⟨⟨s1,s2⟩,s3⟩:=hi
 obtain⟨vi,rfl,ci⟩:=zt h1
 obtain⟨vj,rfl,cj⟩:=zt h2
 have rj:∀s∈zR j,E s=(putE E i.dst vi) s:=by
  intro s hs
  rw[zw]
  split
  .rename_i hd
   rw[hd]at s1
   simp at s1
   exact absurd hs s1.1
  .rfl
 have ri:∀s∈zR i,(putE E j.dst vj) s=E s:=by
  intro s hs
  rw[zw]
  split
  .rename_i hd
   rw[hd]at s2
   simp at s2
   exact absurd hs s2
  .rfl
 have hne:∀x,i.dst=some x→j.dst≠some x:=by
  intro x hx hj
  rw[hx,hj]at s1
  simp at s1
 have hj0:=cj E rj
 have hi0:=ci _ ri
 rcases s3 with (s3|s3)|⟨s3,s4⟩
 .have e1:H1=H:=zaH (by omega) h1
  subst e1
  refine⟨_,_,hj0,?_⟩
  rw[zgf s3 hi0 H2,zaG (d:=j.dst) (fun x hx hi=>hne x hi hx)]
 .have e1:H2=H1:=zaH (by omega) h2
  subst e1
  refine⟨_,_,zgf s3 hj0 H,?_⟩
  rw[hi0,zaG (d:=j.dst) (fun x hx hi=>hne x hi hx)]
 .have e1:H1=H:=zaH s3 h1
  subst e1
  have e2:H2=H1:=zaH s4 h2
  subst e2
  refine⟨_,_,hj0,?_⟩
  rw[hi0,zaG (d:=j.dst) (fun x hx hi=>hne x hi hx)]
theorem zcQ {R:Rec} {k:OpK} {xs:List Src} {vs:List AV} {v:AV} {H H2:Heap} (hk:zao (.op k xs)=true) (h:exec R H k vs=some (v,H2)):∃b,H2=H++[b]∧∀G:Heap,G.length=H.length→exec R G k vs=some (v,G++[b]):=by
 cases k<;>simp only[zao,bFt]at hk
 .rename_i sz
  have hx:ex H (.box sz) vs=some (v,H2):=h
  match vs,hx with
  | [],hx=>simp[ex]at hx
  | [x],hx=>
   simp only[ex]at hx
   split at hx
   .rename_i hc
    simp only[oSi,pMi]at hx
    obtain⟨rfl,rfl⟩:=hx
    refine⟨_,rfl,fun G hG=>?_⟩
    show ex G (.box sz) [x]=_
    simp only[ex,if_pos hc,hG]
   .cases hx
  |_::_::_,hx=>simp[ex]at hx
 .rename_i imm sz len z ps
  cases imm with
  |true=>simp at hk
  |false=>
   have hx:ex H (.bsl false sz len z ps) vs=some (v,H2):=h
   simp only[ex,bFt,if_false]at hx
   split at hx
   .rename_i hc
    simp only[oMe,pMi]at hx
    obtain⟨es,he,rfl,rfl⟩:=hx
    refine⟨_,rfl,fun G hG=>?_⟩
    show ex G (.bsl false sz len z ps) vs=_
    simp only[ex,bFt,if_false,if_pos hc,he,oMs,hG]
   .cases hx
 .rename_i sz z
  have hx:ex H (.mksl sz z) vs=some (v,H2):=h
  rcases vs with _|⟨a,_|⟨b,_|⟨c,r⟩⟩⟩<;>simp only[ex]at hx<;>try cases hx
  .cases a<;>cases b<;>simp only[ex]at hx<;>try cases hx
   rename_i k1 n1 k2 n2
   split at hx
   .rename_i hc
    simp only[oSi,pMi]at hx
    obtain⟨rfl,rfl⟩:=hx
    refine⟨_,rfl,fun G hG=>?_⟩
    show ex G (.mksl sz z) [.int k1 n1,.int k2 n2]=_
    simp only[ex,if_pos hc,hG]
   .cases hx
 .have hx:ex H .mkmap vs=some (v,H2):=h
  match vs,hx with
  | [],hx=>
   simp only[ex,oSi,pMi]at hx
   obtain⟨rfl,rfl⟩:=hx
   refine⟨_,rfl,fun G hG=>?_⟩
   show ex G .mkmap []=_
   simp only[ex,hG]
  |_::_,hx=>simp[ex]at hx
theorem zcN {H:Heap} {id:Nat} {B:Blk} (h:H[id]?=some B) (b:Blk):(H++[b])[id]?=some B:=by
 rw[gEa (gEs.1 h).1];exact h
theorem zj5 {H:Heap} {id:Nat} {B:Blk} (h:H[id]?=some B) (B' b:Blk):(H++[b]).set id B'=H.set id B'++[b]:=by
 rw[List.set_append_left _ _ (gEs.1 h).1]
theorem zlu {H:Heap} {g:Bool} {n:Nat} {x:AV} (b:Blk) (h:zcv H g n x≠.bad):zcv (H++[b]) g n x=zcv H g n x:=by
 cases x<;>try rfl
 rename_i id ver idx off
 simp only[zcv]at h⊢
 cases hb:H[id]? with
 |none=>simp[hb]at h
 |some B=>rw[zcN hb]
theorem zlv {H:Heap} {sz:Nat} {x y:AV} (b:Blk) (h:zdr H sz x y≠.bad):zdr (H++[b]) sz x y=zdr H sz x y:=by
 cases x<;>cases y<;>try rfl
 rename_i id ver off len k n
 simp only[zdr]at h⊢
 cases hb:H[id]? with
 |none=>simp[hb]at h
 |some B=>rw[zcN hb]
theorem zmy {H:Heap} {str:Bool} {sz:Nat} {lo hi:Bool} {x:AV} {bs:List AV} (b:Blk) (h:slcV H str sz lo hi x bs≠.bad):slcV (H++[b]) str sz lo hi x bs=slcV H str sz lo hi x bs:=by
 cases str<;>cases x<;>try rfl
 rename_i id ver off len
 simp only[slcV]at h⊢
 cases hb:H[id]? with
 |none=>simp[hb]at h
 |some B=>rw[zcN hb]
theorem zls {H:Heap} {m:AV} {es:List (AV×AV)} (b:Blk) (h:zgM H m=some es):zgM (H++[b]) m=some es:=by
 cases m<;>simp only[zgM]at h⊢<;>try cases h
 .cases hb:H[‹Nat›]? with
  |none=>simp[hb]at h
  |some B=>rw[zcN hb];rw[hb]at h;exact h
 .rfl
theorem zlq {H:Heap} {q:Nat} {ok:Bool} {z m k:AV} (b:Blk) (h:zgL H q ok z m k≠.bad):zgL (H++[b]) q ok z m k=zgL H q ok z m k:=by
 unfold zgL at h⊢
 cases hm:zgM H m with
 |none=>simp[hm]at h
 |some es=>rw[zls b hm]
theorem zcl {H:Heap} {x:AV} (b:Blk) (h:(pub1 H x).1.still=true):pub1 (H++[b]) x=((pub1 H x).1,(pub1 H x).2++[b]):=by
 cases x<;>try rfl
 rename_i id ver off len
 simp only[pub1]at h⊢
 cases hb:H[id]? with
 |none=>simp only[hb]at h;cases h
 |some B=>
  rw[zcN hb]
  cases B with
  |arr v' s sh es=>
   simp only[hb]at h⊢
   split at h
   .rename_i hc;simp only[if_pos hc,zj5 hb]
   .cases h
  |_=>simp only[hb]at h;cases h
theorem zf2:∀{xs:List AV} {H:Heap} (b:Blk),(zdT H xs).1.all AV.still=true→zdT (H++[b]) xs=((zdT H xs).1,(zdT H xs).2++[b])
 | [],H,b,_=>rfl
 |x::xs,H,b,h=>by
  simp only[zdT,List.all_cons,bAt]at h⊢
  rw[zcl b h.1]
  simp only
  rw[zf2 b h.2]
theorem zhO {H:Heap} {x:AV} (h:∀id ver off len,x≠.osl id ver off len):pub1 H x=(x,H):=by
 cases x<;>first|rfl|exact absurd rfl (h _ _ _ _)
theorem zmJ {H:Heap} {x:AV} (b:Blk) (h:(pubA H x).1.flat=true):pubA (H++[b]) x=((pubA H x).1,(pubA H x).2++[b]):=by
 by_cases ha:∃cs,x= .agg cs
 .obtain⟨cs,rfl⟩:=ha
  simp only[pubA]at h⊢
  rw[zf2 b h]
 .have e:∀G,pubA G x=pub1 G x:=by intro G;cases x<;>first|rfl|exact absurd ⟨_,rfl⟩ ha
  rw[e]at h
  rw[e,e]
  by_cases ho:∃id ver off len,x= .osl id ver off len
  .refine zcl b ?_
   obtain⟨id,ver,off,len,rfl⟩:=ho
   simp only[pub1]at h⊢
   split at h
   .split at h
    .rename_i hc;simp only[if_pos hc];rfl
    .cases h
   .cases h
  .have hn:∀id ver off len,x≠.osl id ver off len:=fun a b c d e=>ho ⟨a,b,c,d,e⟩
   rw[zhO hn,zhO hn]
theorem zf3:∀{xs:List AV} {H:Heap} (b:Blk),(zcg H xs).1.all AV.flat=true→zcg (H++[b]) xs=((zcg H xs).1,(zcg H xs).2++[b])
 | [],H,b,_=>rfl
 |x::xs,H,b,h=>by
  simp only[zcg,List.all_cons,bAt]at h⊢
  rw[zmJ b h.1]
  simp only
  rw[zf3 b h.2]
theorem zkd (H:Heap) (x:AV):(pub1 H x).2.length=H.length:=by
 unfold pub1
 split
 .split
  .split
   .simp
   .rfl
  .rfl
 .rfl
theorem zhM:∀(xs:List AV) (H:Heap),(zdT H xs).2.length=H.length
 | [],H=>rfl
 |x::xs,H=>by simp only[zdT];rw[zhM xs,zkd]
theorem zpr (H:Heap) (x:AV):(pubA H x).2.length=H.length:=by
 unfold pubA
 split
 .exact zhM _ _
 .exact zkd _ _
theorem zhN:∀(xs:List AV) (H:Heap),(zcg H xs).2.length=H.length
 | [],H=>rfl
 |x::xs,H=>by simp only[zcg];rw[zhN xs,zpr]
theorem zcJ {R:Rec} {k:OpK} {vs:List AV} {v:AV} {H H1:Heap} (hq:k.quiet=true) (hc:k.isCall=false) (h:exec R H k vs=some (v,H1)) (b:Blk) (hp:qx H k vs≠.bad→qx (H++[b]) k vs=qx H k vs):H1.length=H.length∧exec R (H++[b]) k vs=some (v,H1++[b]):=by
 have hx:zav H k vs=some (v,H1):=by cases k<;>first|exact h|cases hq
 obtain⟨e1,e2,rfl⟩:=zy hq hx
 refine⟨rfl,?_⟩
 have:zav (H1++[b]) k vs=some (v,H1++[b]):=zcR hq (by rw[hp (by rw[e1];exact e2)];exact e1) e2
 cases k<;>first|exact this|cases hq
theorem zn0 {R:Rec} {k:OpK} {xs:List Src} {vs:List AV} {v:AV} {H H1:Heap} (hk:znn (.op k xs)=true) (h:exec R H k vs=some (v,H1)) (b:Blk):H1.length=H.length∧exec R (H++[b]) k vs=some (v,H1++[b]):=by
 cases k<;>simp only[znn,bFt]at hk
 .rename_i imm g n
  refine zcJ rfl rfl h b fun hb=>?_
  rcases vs with _|⟨x,_|⟨y,r⟩⟩<;>try rfl
  simp only[qx]at hb⊢
  split at hb
  .exact absurd rfl hb
  .rename_i hc;rw[if_neg hc,if_neg hc];exact zlu b hb
 .rename_i imm sz
  refine zcJ rfl rfl h b fun hb=>?_
  rcases vs with _|⟨x,_|⟨y,_|⟨z,r⟩⟩⟩<;>try rfl
  simp only[qx]at hb⊢
  split at hb
  .exact absurd rfl hb
  .rename_i hc;rw[if_neg hc,if_neg hc];exact zlv b hb
 .rename_i imm str sz lo hi
  refine zcJ rfl rfl h b fun hb=>?_
  rcases vs with _|⟨x,bs⟩<;>try rfl
  simp only[qx]at hb⊢
  split at hb
  .exact absurd rfl hb
  .rename_i hc;rw[if_neg hc,if_neg hc];exact zmy b hb
 .rename_i f
  simp only[exec]at h⊢
  split at h
  .rename_i hf
   simp only[oMe,pMi]at h
   obtain⟨r,h1,rfl,rfl⟩:=h
   rw[zf3 b hf]
   simp only[if_pos hf,h1,oMs]
   exact⟨zhN _ _,trivial⟩
  .cases h
 .rename_i n
  have hx:ex H (.store n) vs=some (v,H1):=h
  rcases vs with _|⟨p,_|⟨x,_|⟨z,r⟩⟩⟩<;>simp only[ex]at hx<;>try cases hx
  show _∧zaW (H++[b]) n p x=_
  unfold zaW at hx⊢
  cases p<;>simp only at hx⊢<;>try cases hx
  rename_i id ver idx off
  cases hb:H[id]? with
  |none=>simp[hb]at hx
  |some B=>
   rw[zcN hb]
   simp only[hb]at hx⊢
   cases B with
   |arr v' sz sh es=>
    cases sh with
    |true=>simp at hx
    |false=>
     simp only at hx⊢
     split at hx
     .rename_i hc
      rw[if_pos hc]
      simp only[oMe,pMi]at hx
      obtain⟨es',h1,rfl,rfl⟩:=hx
      refine⟨by simp,?_⟩
      simp only[h1,oMs,zj5 hb]
     .cases hx
   |_=>simp at hx
 .rename_i q ok z
  refine zcJ rfl rfl h b fun hb=>?_
  rcases vs with _|⟨x,_|⟨y,_|⟨w,r⟩⟩⟩<;>try rfl
  exact zlq b hb
theorem zlO {H H2:Heap} {n:Nat} {p x u:AV} (h:zaW H n p x=some (u,H2)):∃id ver idx off B,p= .optr id ver idx off∧H2=H.set id B:=by
 unfold zaW at h
 split at h
 .rename_i id ver idx off
  split at h
  .split at h
   .simp only[oMe,pMi]at h
    obtain⟨es',_,_,rfl⟩:=h
    exact⟨_,_,_,_,_,rfl,rfl⟩
   .cases h
  .cases h
 .cases h
def zca:AV→Option (Nat×Nat)| .optr id ver _ _=>some (id,ver)| .osl id ver _ _=>some (id,ver)|_=>none
theorem zfb {R:Rec} {k:OpK} {xs:List Src} {a:Nat} {y:AV} {ys:List AV} {v:AV} {H H1 H2:Heap} (hk:zU (.op k xs)=some a) (h:exec R H1 k (y::ys)=some (v,H2))
  (look:∀id ver,zca y=some (id,ver)→∀(sz:Nat) (sh:Bool) (es:List AV),H1[id]?=some (.arr ver sz sh es)→∃sh' es',H[id]?=some (.arr ver sz sh' es')∧∀(i:Nat) (e:AV),es[i]?=some e→es'[i]?=some e):exec R H k (y::ys)=some (v,H):=by
 have fin:k.quiet=true→(∀u,qx H1 k (y::ys)=u→u≠.bad→qx H k (y::ys)=u)→exec R H k (y::ys)=some (v,H):=by
  intro hq he
  have hx:zav H1 k (y::ys)=some (v,H2):=by cases k<;>first|exact h|cases hq
  obtain⟨e1,e2,rfl⟩:=zy hq hx
  have:zav H k (y::ys)=some (v,H):=zcR hq (he _ e1 e2) e2
  cases k<;>first|exact this|cases hq
 cases k<;>simp only[zU]at hk<;>try cases hk
 .refine fin rfl ?_
  rename_i imm g n
  rcases ys with _|⟨y2,r⟩<;>try (intro u h1 h2;exact h1)
  intro u h1 h2
  simp only[qx]at h1⊢
  split at h1
  .exact absurd h1.symm h2
  .rename_i hc
   rw[if_neg hc]
   cases y<;>try exact h1
   rename_i id ver idx off
   simp only[zcv]at h1
   split at h1
   .rename_i v0 s0 sh0 es0 hb
    split at h1
    .rename_i hv
     subst hv
     obtain⟨sh',es',g1,g2⟩:=look id _ rfl _ _ _ hb
     split at h1
     .rename_i e he
      simp only[zcv,g1,if_true,g2 _ _ he]
      exact h1
     .exact absurd h1.symm h2
    .exact absurd h1.symm h2
   .exact absurd h1.symm h2
 .refine fin rfl ?_
  rename_i imm n
  rcases ys with _|⟨y2,_|⟨y3,r⟩⟩<;>try (intro u h1 h2;exact h1)
  intro u h1 h2
  simp only[qx]at h1⊢
  split at h1
  .exact absurd h1.symm h2
  .rename_i hc
   rw[if_neg hc]
   cases y<;>cases y2<;>try exact h1
   rename_i id ver off len _ _
   simp only[zdr]at h1
   split at h1
   .rename_i v0 s0 sh0 es0 hb
    split at h1
    .rename_i hv
     obtain⟨hv1,hv2⟩:=hv
     subst hv1
     obtain⟨sh',es',g1,g2⟩:=look id _ rfl _ _ _ hb
     simp only[zdr,g1]
     rw[if_pos ⟨trivial,hv2⟩]
     exact h1
    .exact absurd h1.symm h2
   .exact absurd h1.symm h2
 .refine fin rfl ?_
  rename_i imm str sz lo hi
  intro u h1 h2
  simp only[qx]at h1⊢
  split at h1
  .exact absurd h1.symm h2
  .rename_i hc
   rw[if_neg hc]
   cases y<;>cases str<;>try exact h1
   rename_i id ver off len
   simp only[slcV]at h1
   split at h1
   .rename_i v0 s0 sh0 es0 hb
    split at h1
    .rename_i hv
     obtain⟨hv1,hv2⟩:=hv
     subst hv1
     obtain⟨sh',es',g1,g2⟩:=look id _ rfl _ _ _ hb
     simp only[slcV,g1]
     rw[if_pos ⟨trivial,hv2⟩]
     exact h1
    .exact absurd h1.symm h2
   .exact absurd h1.symm h2
theorem zbo {k:OpK} {xs:List Src} {a:Nat} (hr:zU (.op k xs)=some a):kH (.op k xs)≤1:=by
 cases k<;>simp only[zU]at hr<;>try cases hr
 all_goals (simp only[kH];split<;>omega)
theorem zgg {R:Rec} {k:OpK} {xs:List Src} {a:Nat} {y:AV} {ys:List AV} {v:AV} {H H1 H2:Heap} (hk:zU (.op k xs)=some a) (h:exec R H k (y::ys)=some (v,H1)) (keep:∀id ver,zca y=some (id,ver)→∀b,H[id]?=some b→H2[id]?=some b):H1=H∧exec R H2 k (y::ys)=some (v,H2):=by
 have hH:H1=H:=zeM (zbo hk) h
 refine⟨hH,zfb hk h (fun id ver hp sz sh es hb=>⟨sh,es,keep id ver hp _ hb,fun _ _ h=>h⟩)⟩
theorem zla {H:Heap} {id ver off len j:Nat} (hj:id≠j):(truncH H (.osl id ver off len))[j]?=H[j]?:=by
 unfold truncH
 simp only
 split
 .split
  .exact gEn hj
  .rfl
 .rfl
theorem zlU {H H2:Heap} {k k0:OpK} {p x u y:AV} (hb:zbm k=some k0) (hs:zav H k0 [p,x]=some (u,H2)) (ha:apart p y=true):∀id ver,zca y=some (id,ver)→∀b,H[id]?=some b→H2[id]?=some b:=by
 intro id ver hp b hB
 have hlt:=(gEs.1 hB).1
 cases k<;>simp only[zbm,reduceCtorEq,oSi]at hb
 .subst hb
  obtain⟨id',ver',idx,off,B,rfl,rfl⟩:=zlO hs
  have hne:id'≠id:=by
   cases y<;>simp only[zca,reduceCtorEq,oSi,pMi]at hp
   all_goals
    obtain⟨rfl,rfl⟩:=hp
    simpa[apart]using ha
  rw[gEn hne];exact hB
 .subst hb
  rename_i sz
  have hx:ex H (.app sz) [p,x]=some (u,H2):=hs
  simp only[ex]at hx
  split at hx
  .split at hx
   .unfold zbN at hx
    split at hx
    .have ht:truncH H (.isl (some true) ‹Nat› [])=H:=rfl
     rw[ht]at hx
     split at hx
     .cases hx;exact hB
     .split at hx
      .cases hx;rw[gEa hlt];exact hB
      .cases hx
    .rename_i id' ver' off' len'
     have hne:id'≠id:=by
      cases y<;>simp only[zca,reduceCtorEq,oSi,pMi]at hp
      all_goals
       obtain⟨rfl,rfl⟩:=hp
       simpa[apart]using ha
     have hT:=zla (H:=H) (ver:=ver') (off:=off') (len:=len') hne
     split at hx
     .split at hx
      .split at hx
       .cases hx;rw[hT];exact hB
       .split at hx
        .cases hx;rw[gEn hne,hT];exact hB
        .cases hx
      .cases hx
     .cases hx
    .split at hx
     .cases hx;exact hB
     .cases hx
    .cases hx
   .cases hx
  .cases hx
theorem zdI {E:Nat→AV}:∀{xs:List Src} {vs:List AV} {a:Nat},vals E xs=some vs→a∈xs.flatMap zcm→E a∈vs
 | [],vs,a,h,ha=>by simp at ha
 |x::xs,vs,a,h,ha=>by
  simp only[vals]at h
  split at h
  .rename_i v vs' h1 h2
   cases h
   simp only[List.flatMap_cons,List.mem_append]at ha
   rcases ha with ha|ha
   .cases x with
    |c w=>simp[zcm]at ha
    |t i=>
     simp[zcm]at ha
     subst ha
     obtain⟨e,_⟩:=zaL h1
     have:E a=v:=e
     rw[this];simp
   .exact List.mem_cons_of_mem _ (zdI h2 ha)
  .cases h
theorem zaC {R:Rec} {i:LI} {E E1:Env} {H H1:Heap} (h:zp R i E H=some (E1,H1)):(H1=H∧∀H2,zp R i E H2=some (E1,H2))∨∃k xs vs v,i.k= .op k xs∧vals E xs=some vs∧exec R H k vs=some (v,H1)∧∀H2 H3,exec R H2 k vs=some (v,H3)→zp R i E H2=some (E1,H3):=by
 obtain⟨d,k,g⟩:=i
 unfold zp at h
 simp only at h
 split at h
 .rename_i hg
  cases k with
  |op k xs=>
   simp only[zbf]at h
   split at h
   .rename_i vs hvs
    cases hx:exec R H k vs with
    |none=>simp[hx]at h
    |some p=>
     simp only[hx,oMs,oSi,pMi]at h
     obtain⟨rfl,rfl⟩:=h
     refine .inr ⟨k,xs,vs,p.1,rfl,hvs,hx,fun H2 H3 h3=>?_⟩
     unfold zp
     simp only[hg,zbf,hvs,h3,oMs]
   .cases h
  |pick c x y=>
   simp only[zbf]at h
   split at h
   .rename_i t hEc
    cases hok:okO (evS E (if t then x else y)) with
    |none=>simp[hok]at h
    |some v=>
     simp only[hok,oMs,oSi,pMi]at h
     obtain⟨rfl,rfl⟩:=h
     refine .inl ⟨rfl,fun H2=>?_⟩
     unfold zp
     simp only[hg,zbf,hEc,hok,oMs]
   .cases h
 .rename_i hg
  cases h
  refine .inl ⟨rfl,fun H2=>?_⟩
  unfold zp
  simp only[hg]
 .cases h
theorem ziC {R:Rec} {p i:LI} {E E1 E2:Env} {H H1 H2:Heap} (hi:soft p i=true) (h1:zp R p E H=some (E1,H1)) (h2:zp R i E1 H1=some (E2,H2)):
  ∃E' H',zp R i E H=some (E',H')∧zp R p E' H'=some (E2,H2):=by
 simp only[soft,dstB,bAt]at hi
 obtain⟨⟨s1,s2⟩,s3⟩:=hi
 obtain⟨vi,rfl,ci⟩:=zt h1
 obtain⟨vj,rfl,cj⟩:=zt h2
 have rj:∀s∈zR i,E s=(putE E p.dst vi) s:=by
  intro s hs
  rw[zw]
  split
  .rename_i hd
   rw[hd]at s1
   simp at s1
   exact absurd hs s1.1
  .rfl
 have ri:∀s∈zR p,(putE E i.dst vj) s=E s:=by
  intro s hs
  rw[zw]
  split
  .rename_i hd
   rw[hd]at s2
   simp at s2
   exact absurd hs s2
  .rfl
 have hne:∀x,p.dst=some x→i.dst≠some x:=by
  intro x hx hj
  rw[hx,hj]at s1
  simp at s1
 have hi0:=cj E rj
 have comm:putE (putE E i.dst vj) p.dst vi=putE (putE E p.dst vi) i.dst vj:=zaG (d:=i.dst) (fun x hx hi=>hne x hi hx)
 have move:∀G G2,zp R p E G=some (putE E p.dst vi,G2)→zp R p (putE E i.dst vj) G=some (putE (putE E p.dst vi) i.dst vj,G2):=by
  intro G G2 hg
  obtain⟨v,e1,c⟩:=zt hg
  have:=c (putE E i.dst vj) ri
  rw[this]
  by_cases hd:p.dst=none
  .rw[hd];simp only[putE]
  .obtain⟨d,hd⟩:=Option.ne_none_iff_exists'.1 hd
   have hv:v=vi:=by
    have:=congrFun e1 d
    rw[zw,zw,if_pos hd,if_pos hd]at this
    exact this.symm
   rw[hv,comm]
 rcases zaC hi0 with⟨e,all⟩|⟨ki,xi,wi,ui,k1,k2,k3,k4⟩
 .subst e
  exact⟨_,_,all H,move _ _ h1⟩
 .rcases zaC h1 with⟨e,all⟩|⟨kp,xp,wp,up,q1,q2,q3,q4⟩
  .subst e
   exact⟨_,_,hi0,move _ _ (all H2)⟩
  .rw[k1,q1]at s3
   obtain⟨s3,s4⟩:=s3
   obtain⟨b,rfl,ha⟩:=zcQ s3 k3
   obtain⟨g1,g2⟩:=zn0 s4 q3 b
   exact⟨_,_,k4 _ _ (ha H g1.symm),move _ _ (q4 _ _ g2)⟩
theorem zk2 {k:LK} (h:zao k=true):kH k=2:=by
 cases k with
 |pick c x y=>simp[zao]at h
 |op k xs=>
  cases k<;>first|rfl|(simp[zao]at h;done)|skip
  rename_i imm _ _ _ _
  cases imm<;>first|rfl|(simp[zao]at h;done)
theorem zcC {R:Rec} {k:OpK} {xs:List Src} {vs:List AV} {v:AV} {H H2:Heap} {t:Nat} (hk:zaY (.op k xs)=some t) (h:exec R H k vs=some (v,H2)):∃id b,zk t H=some id∧H2=H.set id b∧(∀u,b≠.hole u)∧∀G:Heap,zk t G=some id→exec R G k vs=some (v,G.set id b):=by
 cases k<;>simp only[zaY,reduceCtorEq,oSi]at hk
 .rename_i t' sz z
  subst hk
  have hx:ex H (.mkslH t' sz z) vs=some (v,H2):=h
  rcases vs with _|⟨a,_|⟨b,_|⟨c,r⟩⟩⟩<;>simp only[ex]at hx<;>try cases hx
  cases a<;>cases b<;>simp only[ex]at hx<;>try cases hx
  rename_i k1 n1 k2 n2
  split at hx
  .rename_i id hf
   split at hx
   .rename_i hc
    simp only[oSi,pMi]at hx
    obtain⟨rfl,rfl⟩:=hx
    refine⟨id,_,hf,rfl,fun u e=>(by cases e),fun G hG=>?_⟩
    show ex G (.mkslH t' sz z) [.int k1 n1,.int k2 n2]=_
    simp only[ex,hG,if_pos hc]
   .cases hx
  .cases hx
 .rename_i t' sz
  subst hk
  have hx:ex H (.boxH t' sz) vs=some (v,H2):=h
  rcases vs with _|⟨a,_|⟨b,r⟩⟩<;>simp only[ex]at hx<;>try cases hx
  split at hx
  .rename_i id hf
   split at hx
   .rename_i hc
    simp only[oSi,pMi]at hx
    obtain⟨rfl,rfl⟩:=hx
    refine⟨id,_,hf,rfl,fun u e=>(by cases e),fun G hG=>?_⟩
    show ex G (.boxH t' sz) [a]=_
    simp only[ex,hG,if_pos hc]
   .cases hx
  .cases hx
theorem zfu {t:Nat} {H:Heap} {id:Nat} (h:zk t H=some id):id<H.length:=(gEs.1 (zJ h)).1
theorem zej:∀{H:Heap} {t t' id id':Nat} {b:Blk},t≠t'→zk t H=some id→zk t' H=some id'→(∀u,b≠.hole u)→zk t' (H.set id b)=some id'
 | [],t,t',id,id',b,hne,h,h',hb=>by simp[zk]at h
 |B::r,t,t',id,id',b,hne,h,h',hb=>by
  cases id with
  |zero=>
   have hB:B= .hole t:=by have:=zJ h;simpa using this
   subst hB
   simp only[zk,if_neg hne]at h'
   rw[List.set_cons_zero]
   cases b with
   |hole u=>exact absurd rfl (hb u)
   |_=>exact h'
  |succ id=>
   rw[List.set_cons_succ]
   have down:∀{u n:Nat},zk u (B::r)=some (n+1)→zk u r=some n:=by
    intro u n hh
    have key:(zk u r).map (·+1)=some (n+1)→zk u r=some n:=fun h=>by
     simp only[oMe]at h
     obtain⟨m,h1,h2⟩:=h
     have:m=n:=by omega
     rw[h1,this]
    cases B with
    |hole w=>
     simp only[zk]at hh
     split at hh
     .cases hh
     .exact key hh
    |_=>exact key hh
   have hd:=down h
   cases id' with
   |zero=>
    have hB:B= .hole t':=by have:=zJ h';simpa using this
    subst hB
    simp[zk]
   |succ id'=>
    have ih:=zej hne hd (down h') hb
    cases B with
    |hole w=>
     simp only[zk]at h'⊢
     split at h'
     .cases h'
     .rename_i hw;rw[if_neg hw,ih];rfl
    |_=>simp only[zk,ih];rfl
theorem zdu:∀{H:Heap} {t id:Nat} (b:Blk),zk t H=some id→zk t (H++[b])=some id
 | [],t,id,b,h=>by simp[zk]at h
 |B::r,t,id,b,h=>by
  have key:(zk t r).map (·+1)=some id→(zk t (r++[b])).map (·+1)=some id:=fun h=>by
   simp only[oMe]at h
   obtain⟨m,h1,h2⟩:=h
   rw[zdu b h1];simp[h2]
  rw[List.cons_append]
  cases B with
  |hole w=>
   simp only[zk]at h⊢
   split at h
   .rename_i hw;rw[if_pos hw];exact h
   .rename_i hw;rw[if_neg hw];exact key h
  |_=>exact key h
theorem zdv:∀{H:Heap} {t id:Nat} {b:Blk},(∀u,b≠.hole u)→zk t (H++[b])=some id→zk t H=some id
 | [],t,id,b,hb,h=>by
  rw[List.nil_append]at h
  cases b with
  |hole u=>exact absurd rfl (hb u)
  |_=>simp[zk]at h
 |B::r,t,id,b,hb,h=>by
  have key:(zk t (r++[b])).map (·+1)=some id→(zk t r).map (·+1)=some id:=fun h=>by
   simp only[oMe]at h
   obtain⟨m,h1,h2⟩:=h
   rw[zdv hb h1];simp[h2]
  rw[List.cons_append]at h
  cases B with
  |hole w=>
   simp only[zk]at h⊢
   split at h
   .rename_i hw;rw[if_pos hw];exact h
   .rename_i hw;rw[if_neg hw];exact key h
  |_=>exact key h
theorem zc5:∀{H:Heap} {t t' id id':Nat} {b:Blk},t≠t'→zk t H=some id→(∀u,b≠.hole u)→zk t' (H.set id b)=some id'→zk t' H=some id'
 | [],t,t',id,id',b,hne,h,hb,h'=>by simp[zk]at h
 |B::r,t,t',id,id',b,hne,h,hb,h'=>by
  cases id with
  |zero=>
   have hB:B= .hole t:=by have:=zJ h;simpa using this
   subst hB
   rw[List.set_cons_zero]at h'
   simp only[zk,if_neg hne]
   cases b with
   |hole u=>exact absurd rfl (hb u)
   |_=>exact h'
  |succ id=>
   rw[List.set_cons_succ]at h'
   have hd:zk t r=some id:=by
    have key:(zk t r).map (·+1)=some (id+1)→zk t r=some id:=fun h=>by
     simp only[oMe]at h
     obtain⟨m,h1,h2⟩:=h
     have:m=id:=by omega
     rw[h1,this]
    cases B with
    |hole w=>
     simp only[zk]at h
     split at h
     .cases h
     .exact key h
    |_=>exact key h
   have key:(zk t' (r.set id b)).map (·+1)=some id'→(zk t' r).map (·+1)=some id':=fun h=>by
    simp only[oMe]at h
    obtain⟨m,h1,h2⟩:=h
    rw[zc5 hne hd hb h1];simp[h2]
   cases B with
   |hole w=>
    simp only[zk]at h'⊢
    split at h'
    .rename_i hw;rw[if_pos hw];exact h'
    .rename_i hw;rw[if_neg hw];exact key h'
   |_=>exact key h'
theorem ziW {R:Rec} {k:OpK} {xs:List Src} {vs:List AV} {v:AV} {H:Heap} {b:Blk} (hk:zao (.op k xs)=true) (h:exec R H k vs=some (v,H++[b])):∀u,b≠.hole u:=by
 intro u e
 subst e
 cases k<;>simp only[zao,bFt]at hk
 .rename_i sz
  have hx:ex H (.box sz) vs=some (v,H++[.hole u]):=h
  match vs,hx with
  | [],hx=>simp[ex]at hx
  | [x],hx=>simp[ex]at hx
  |_::_::_,hx=>simp[ex]at hx
 .rename_i imm sz len z ps
  cases imm with
  |true=>simp at hk
  |false=>
   have hx:ex H (.bsl false sz len z ps) vs=some (v,H++[.hole u]):=h
   simp[ex]at hx
 .rename_i sz z
  have hx:ex H (.mksl sz z) vs=some (v,H++[.hole u]):=h
  rcases vs with _|⟨a,_|⟨b,_|⟨c,r⟩⟩⟩<;>simp only[ex]at hx<;>try cases hx
  cases a<;>cases b<;>simp[ex]at hx
 .have hx:ex H .mkmap vs=some (v,H++[.hole u]):=h
  match vs,hx with
  | [],hx=>simp[ex]at hx
  |_::_,hx=>simp[ex]at hx
theorem znw {R:Rec} {kp ki:OpK} {xp xi:List Src} {wp wi:List AV} {up ui:AV} {H H1 H2:Heap} (hf:(match zaY (.op kp xp),zaY (.op ki xi) with|some a,some b=>decide (a≠b)|some _,none=>zao (.op ki xi)|none,some _=>zao (.op kp xp)||(zU (.op kp xp)).isSome|none,none=>false)=true)
  (hp:exec R H kp wp=some (up,H1)) (hi:exec R H1 ki wi=some (ui,H2)):∃G,exec R H ki wi=some (ui,G)∧exec R G kp wp=some (up,H2):=by
 cases hfp:zaY (.op kp xp) with
 |some a=>
  obtain⟨id,b,p1,rfl,p3,p4⟩:=zcC hfp hp
  cases hfi:zaY (.op ki xi) with
  |some c=>
   rw[hfp,hfi]at hf
   have hne:a≠c:=of_decide_eq_true hf
   obtain⟨id',b',r1,rfl,r3,r4⟩:=zcC hfi hi
   have f1:=zc5 hne p1 p3 r1
   have hids:id≠id':=fun e=>by
    subst e
    have h1:=zJ p1
    have h2:=zJ f1
    rw[h1]at h2;cases h2
    exact hne rfl
   refine⟨_,r4 H f1,?_⟩
   rw[p4 _ (zej (fun e=>hne e.symm) f1 p1 r3),List.set_comm _ _ hids.symm]
  |none=>
   rw[hfp,hfi]at hf
   obtain⟨b',e,ha⟩:=zcQ hf hi
   subst e
   refine⟨_,ha H (by simp),?_⟩
   rw[p4 _ (zdu b' p1),List.set_append_left _ _ (zfu p1)]
 |none=>
  cases hfi:zaY (.op ki xi) with
  |some c=>
   rw[hfp,hfi]at hf
   simp only[Bool.or_eq_true]at hf
   rcases hf with hf|hf
   .obtain⟨b,e,ha⟩:=zcQ hf hp
    subst e
    obtain⟨id',b',r1,rfl,r3,r4⟩:=zcC hfi hi
    have f1:=zdv (ziW hf hp) r1
    refine⟨_,r4 H f1,?_⟩
    rw[ha _ (by simp),List.set_append_left _ _ (zfu f1)]
   .obtain⟨a,hr⟩:=Option.isSome_iff_exists.1 hf
    have hH:H1=H:=zeM (zbo hr) hp
    subst hH
    obtain⟨id',b',r1,rfl,r3,r4⟩:=zcC hfi hi
    refine⟨_,hi,?_⟩
    cases wp with
    |nil=>cases kp<;>first|(cases hr;done)|(simp[exec,zav,OpK.quiet,qx,okO]at hp;done)
    |cons y ys=>
     refine zfb hr hp (fun id ver hpl sz sh es hb=>⟨sh,es,?_,fun _ _ h=>h⟩)
     rw[gEn (fun e=>?_)]
     .exact hb
     .subst e
      have:=zJ r1
      rw[this]at hb;cases hb
  |none=>rw[hfp,hfi]at hf;cases hf
theorem zqf {p i:LI} (h:(match zaY p.k,zaY i.k with|some a,some b=>decide (a≠b)|some _,none=>zao i.k|none,some _=>zao p.k||(zU p.k).isSome|none,none=>false)=true):kH i.k=2:=by
 cases hi:zaY i.k with
 |some b=>
  generalize i.k=k at hi
  cases k with
  |op k xs=>cases k<;>simp only[zaY,reduceCtorEq,oSi]at hi<;>rfl
  |pick c x y=>cases hi
 |none=>
  rw[hi]at h
  cases hp:zaY p.k with
  |some a=>rw[hp]at h;exact zk2 h
  |none=>rw[hp]at h;cases h
theorem ziD {R:Rec} {p i:LI} {E E1 E2:Env} {H H1 H2:Heap} (hi:zfL p i=true) (h1:zp R p E H=some (E1,H1)) (h2:zp R i E1 H1=some (E2,H2)):
  ∃E' H',zp R i E H=some (E',H')∧zp R p E' H'=some (E2,H2):=by
 simp only[zfL,dstB,bAt]at hi
 obtain⟨⟨s1,s2⟩,s3⟩:=hi
 obtain⟨vi,rfl,ci⟩:=zt h1
 obtain⟨vj,rfl,cj⟩:=zt h2
 have rj:∀s∈zR i,E s=(putE E p.dst vi) s:=by
  intro s hs
  rw[zw]
  split
  .rename_i hd
   rw[hd]at s1
   simp at s1
   exact absurd hs s1.1
  .rfl
 have ri:∀s∈zR p,(putE E i.dst vj) s=E s:=by
  intro s hs
  rw[zw]
  split
  .rename_i hd
   rw[hd]at s2
   simp at s2
   exact absurd hs s2
  .rfl
 have hne:∀x,p.dst=some x→i.dst≠some x:=by
  intro x hx hj
  rw[hx,hj]at s1
  simp at s1
 have hi0:=cj E rj
 have comm:putE (putE E i.dst vj) p.dst vi=putE (putE E p.dst vi) i.dst vj:=zaG (d:=i.dst) (fun x hx hi=>hne x hi hx)
 have move:∀G G2,zp R p E G=some (putE E p.dst vi,G2)→zp R p (putE E i.dst vj) G=some (putE (putE E p.dst vi) i.dst vj,G2):=by
  intro G G2 hg
  obtain⟨v,e1,c⟩:=zt hg
  have:=c (putE E i.dst vj) ri
  rw[this]
  by_cases hd:p.dst=none
  .rw[hd];simp only[putE]
  .obtain⟨d,hd⟩:=Option.ne_none_iff_exists'.1 hd
   have hv:v=vi:=by
    have:=congrFun e1 d
    rw[zw,zw,if_pos hd,if_pos hd]at this
    exact this.symm
   rw[hv,comm]
 rcases zaC hi0 with⟨e,all⟩|⟨ki,xi,wi,ui,k1,k2,k3,k4⟩
 .subst e
  exact⟨_,_,all H,move _ _ h1⟩
 .rcases zaC h1 with⟨e,all⟩|⟨kp,xp,wp,up,q1,q2,q3,q4⟩
  .subst e
   exact⟨_,_,hi0,move _ _ (all H2)⟩
  .rw[k1,q1]at s3
   obtain⟨G1,m1,m2⟩:=znw s3 q3 k3
   exact⟨_,_,k4 _ _ m1,move _ _ (q4 _ _ m2)⟩
def Seen (i:LI) (E:Env) (a:Nat):Prop:=∀k k0 x1 x2 ax,i.k= .op k (x1::x2::ax)→zbm k=some k0→gval E i.g=some true→apart (evS E x1) (E a)=true
theorem zbv {k:LK} {a:Nat} (h:a∈zbJ k):∃k1 k0 x1 x2 ax,k= .op k1 (x1::x2::ax)∧zbm k1=some k0∧a∈ax.flatMap zcm:=by
 cases k with
 |pick c x y=>simp[zbJ]at h
 |op k xs=>
  match xs,h with
  | [],h=>simp[zbJ]at h
  | [_],h=>simp[zbJ]at h
  |x1::x2::ax,h=>
   simp only[zbJ]at h
   cases hb:zbm k with
   |none=>simp[hb]at h
   |some k0=>simp only[hb,Option.isSome_some,if_true]at h;exact⟨k,k0,x1,x2,ax,rfl,hb,h⟩
theorem zf4 {R:Rec} {i:LI} {E E1:Env} {H H1:Heap} (h:zp R i E H=some (E1,H1)):zp R (zq i) E H=some (E1,H1)∧∀a∈zbJ i.k,Seen i E a:=by
 obtain⟨d,k,g⟩:=i
 by_cases hs:∃k1 k0 xs,k= .op k1 xs∧zbm k1=some k0
 .obtain⟨k1,k0,xs,rfl,hb⟩:=hs
  unfold zp at h⊢
  simp only[zq,za1 hb]at h⊢
  cases hg:gval E g with
  |none=>simp[hg]at h
  |some t=>
   cases t with
   |false=>
    simp only[hg]at h⊢
    exact⟨h,fun a _ k' k0' x1 x2 ax _ _ hg'=>by simp only at hg';rw[hg]at hg';cases hg'⟩
   |true=>
    simp only[hg,zbf]at h⊢
    cases hv:vals E xs with
    |none=>simp[hv]at h
    |some vs=>
     simp only[hv]at h
     have hv2:=zdf 2 hv
     simp only[hv2]
     cases hx:exec R H k1 vs with
     |none=>simp[hx]at h
     |some p=>
      simp only[hx]at h
      obtain⟨v1,v2,vr,rfl,hap,hx2⟩:=zit hb hx
      have hx3:exec R H k0 [v1,v2]=some p:=by
       cases k1<;>simp only[zbm,reduceCtorEq,oSi]at hb<;>subst hb<;>exact hx2
      refine⟨?_,fun a ha k' k0' x1 x2 ax hk _ _=>?_⟩
      .simp only[List.take_succ_cons,List.take_zero,hx3];exact h
      .simp only[LK.op.injEq]at hk
       obtain⟨rfl,rfl⟩:=hk
       simp only[vals]at hv
       split at hv
       .rename_i w1 ws o1 o2
        split at o2
        .rename_i w2 ws2 o3 o4
         cases o2;cases hv
         simp only[zbJ,hb,Option.isSome_some,if_true]at ha
         have hm:=zdI o4 ha
         have:=lAt.1 hap _ hm
         rw[(zaL o1).1];exact this
        .cases o2
       .cases hv
 by_cases hcc:∃f n xs,k= .op (.callA f n) xs
 .obtain⟨f,n,xs,rfl⟩:=hcc
  refine⟨zei h,fun a ha=>?_⟩
  obtain⟨k1,k0,x1,x2,ax,e,hb,_⟩:=zbv ha
  exact absurd ⟨k1,k0,_,e,hb⟩ hs
 .have hp:zq ⟨d,k,g⟩=⟨d,k,g⟩:=by
   unfold zq
   cases k with
   |pick c x y=>rfl
   |op k xs=>
    have hc:∀f n,k≠.callA f n:=fun f n e=>hcc ⟨f,n,xs,by rw[e]⟩
    cases hb:zbm k with
    |none=>simp only[zjg hb hc]
    |some k0=>exact absurd ⟨k,k0,xs,rfl,hb⟩ hs
  rw[hp]
  refine⟨h,fun a ha=>?_⟩
  obtain⟨k1,k0,x1,x2,ax,e,hb,_⟩:=zbv ha
  exact absurd ⟨k1,k0,_,e,hb⟩ hs
theorem ziF {R:Rec} {p i:LI} {E E1 E2:Env} {H H1 H2:Heap} {a:Nat} (hd:dstB p (zq i)=true) (hr:zU p.k=some a) (ha:a∈zbJ i.k) (hseen:Seen i E a) (h1:zp R p E H=some (E1,H1)) (h2:zp R (zq i) E1 H1=some (E2,H2)):
  ∃E' H',zp R (zq i) E H=some (E',H')∧zp R p E' H'=some (E2,H2):=by
 simp only[dstB,bAt]at hd
 obtain⟨s1,s2⟩:=hd
 obtain⟨vi,rfl,ci⟩:=zt h1
 obtain⟨vj,rfl,cj⟩:=zt h2
 have rj:∀s∈zR (zq i),E s=(putE E p.dst vi) s:=by
  intro s hs
  rw[zw]
  split
  .rename_i hd
   rw[hd]at s1
   simp at s1
   exact absurd hs s1.1
  .rfl
 have ri:∀s∈zR p,(putE E (zq i).dst vj) s=E s:=by
  intro s hs
  rw[zw]
  split
  .rename_i hd
   rw[hd]at s2
   simp at s2
   exact absurd hs s2
  .rfl
 have hne:∀x,p.dst=some x→(zq i).dst≠some x:=by
  intro x hx hj
  rw[hx,hj]at s1
  simp at s1
 have hi0:=cj E rj
 have comm:putE (putE E (zq i).dst vj) p.dst vi=putE (putE E p.dst vi) (zq i).dst vj:=zaG (d:=(zq i).dst) (fun x hx hi=>hne x hi hx)
 have move:∀G G2,zp R p E G=some (putE E p.dst vi,G2)→zp R p (putE E (zq i).dst vj) G=some (putE (putE E p.dst vi) (zq i).dst vj,G2):=by
  intro G G2 hg
  obtain⟨v,e1,c⟩:=zt hg
  have:=c (putE E (zq i).dst vj) ri
  rw[this]
  by_cases hd:p.dst=none
  .rw[hd];simp only[putE]
  .obtain⟨d,hd⟩:=Option.ne_none_iff_exists'.1 hd
   have hv:v=vi:=by
    have:=congrFun e1 d
    rw[zw,zw,if_pos hd,if_pos hd]at this
    exact this.symm
   rw[hv,comm]
 obtain⟨k1,k0,x1,x2,ax,hk,hbs,_⟩:=zbv ha
 rcases zaC h1 with⟨e,all⟩|⟨kp,xp,wp,up,q1,q2,q3,q4⟩
 .subst e
  exact⟨_,_,hi0,move _ _ (all H2)⟩
 .rw[q1]at hr
  have hxp:∃r,xp= .t a::r:=by
   cases xp with
   |nil=>cases kp<;>simp[zU]at hr
   |cons y r=>cases y<;>cases kp<;>simp[zU]at hr<;>exact⟨r,by rw[hr]⟩
  obtain⟨r,rfl⟩:=hxp
  have hH:H1=H:=zeM (zbo hr) q3
  subst hH
  simp only[vals]at q2
  split at q2
  .rename_i y ys o5 o6
   cases q2
   have hy:E a=y:=(zaL o5).1
   have hi1:=hi0
   unfold zp at hi1
   simp only[zq,hk,za1 hbs]at hi1
   cases hg:gval E i.g with
   |none=>simp[hg]at hi1
   |some t=>
    cases t with
    |false=>
     simp only[hg,oSi,pMi]at hi1
     obtain⟨_,rfl⟩:=hi1
     exact⟨_,_,hi0,move _ _ h1⟩
    |true=>
     simp only[hg,zbf,List.take_succ_cons,List.take_zero]at hi1
     have hap:=hseen k1 k0 x1 x2 ax hk hbs hg
     rw[hy]at hap
     cases hv:vals E [x1,x2] with
     |none=>simp[hv]at hi1
     |some vs=>
      simp only[hv]at hi1
      simp only[vals]at hv
      split at hv
      .rename_i w1 ws o1 o2
       split at o2
       .rename_i w2 ws2 o3 o4
        cases o4;cases o2;cases hv
        rw[(zaL o1).1]at hap
        cases hx:exec R H1 k0 [w1,w2] with
        |none=>simp[hx]at hi1
        |some q=>
         obtain⟨u,Hq⟩:=q
         simp only[hx,oMs,oSi,pMi]at hi1
         obtain⟨_,rfl⟩:=hi1
         have hst:zav H1 k0 [w1,w2]=some (u,Hq):=by
          cases k1<;>simp only[zbm,reduceCtorEq,oSi]at hbs<;>subst hbs<;>exact hx
         obtain⟨_,g2⟩:=zgg hr q3 (zlU hbs hst hap)
         exact⟨_,_,hi0,move _ _ (q4 _ _ g2)⟩
       .cases o2
      .cases hv
  .cases q2
/-! ### Readers before what makes memory grow -/
theorem zek {H H1:Heap} {n:Nat} {p x u:AV} (h:zaW H n p x=some (u,H1)):∃id B,(∃ver idx off,p= .optr id ver idx off)∧H1=H.set id B∧∀G:Heap,G[id]?=H[id]?→zaW G n p x=some (u,G.set id B):=by
 unfold zaW at h
 split at h
 .rename_i id ver idx off
  split at h
  .rename_i v sz es hb
   split at h
   .rename_i hc
    simp only[oMe,pMi]at h
    obtain⟨es',he,rfl,rfl⟩:=h
    refine⟨id,_,⟨_,_,_,rfl⟩,rfl,fun G hG=>?_⟩
    simp only[zaW,hG,hb,if_pos hc,he,oMs]
   .cases h
  .cases h
 .cases h
theorem zfN {R:Rec} {p i:LI} {E E1 E2:Env} {H H1 H2:Heap} {a:Nat} (hd:dstB p (zq i)=true) (hsa:znm i.k=true) (hr:storeAt p.k=some a) (ha:a∈zbJ i.k) (hseen:Seen i E a) (h1:zp R p E H=some (E1,H1)) (h2:zp R (zq i) E1 H1=some (E2,H2)):
  ∃E' H',zp R (zq i) E H=some (E',H')∧zp R p E' H'=some (E2,H2):=by
 simp only[dstB,bAt]at hd
 obtain⟨s1,s2⟩:=hd
 obtain⟨vi,rfl,ci⟩:=zt h1
 obtain⟨vj,rfl,cj⟩:=zt h2
 have rj:∀s∈zR (zq i),E s=(putE E p.dst vi) s:=by
  intro s hs
  rw[zw]
  split
  .rename_i hd
   rw[hd]at s1
   simp at s1
   exact absurd hs s1.1
  .rfl
 have ri:∀s∈zR p,(putE E (zq i).dst vj) s=E s:=by
  intro s hs
  rw[zw]
  split
  .rename_i hd
   rw[hd]at s2
   simp at s2
   exact absurd hs s2
  .rfl
 have hne:∀x,p.dst=some x→(zq i).dst≠some x:=by
  intro x hx hj
  rw[hx,hj]at s1
  simp at s1
 have hi0:=cj E rj
 have comm:putE (putE E (zq i).dst vj) p.dst vi=putE (putE E p.dst vi) (zq i).dst vj:=zaG (d:=(zq i).dst) (fun x hx hi=>hne x hi hx)
 have move:∀G G2,zp R p E G=some (putE E p.dst vi,G2)→zp R p (putE E (zq i).dst vj) G=some (putE (putE E p.dst vi) (zq i).dst vj,G2):=by
  intro G G2 hg
  obtain⟨v,e1,c⟩:=zt hg
  have:=c (putE E (zq i).dst vj) ri
  rw[this]
  by_cases hd:p.dst=none
  .rw[hd];simp only[putE]
  .obtain⟨d,hd⟩:=Option.ne_none_iff_exists'.1 hd
   have hv:v=vi:=by
    have:=congrFun e1 d
    rw[zw,zw,if_pos hd,if_pos hd]at this
    exact this.symm
   rw[hv,comm]
 obtain⟨k1,k0,x1,x2,ax,hk,hbs,_⟩:=zbv ha
 have hk1:∃n,k1= .storeA n∧k0= .store n:=by
  rw[hk]at hsa
  cases k1<;>simp only[znm,bFt]at hsa
  simp only[zbm,oSi]at hbs
  exact⟨_,rfl,hbs.symm⟩
 obtain⟨n1,rfl,rfl⟩:=hk1
 rcases zaC h1 with⟨e,all⟩|⟨kp,xp,wp,up,q1,q2,q3,q4⟩
 .subst e
  exact⟨_,_,hi0,move _ _ (all H2)⟩
 .rw[q1]at hr
  have hxp:∃n y,kp= .store n∧xp=[.t a,y]:=by
   cases kp<;>simp only[storeAt,reduceCtorEq]at hr
   rename_i n
   match xp,hr with
   | [.t b,y],hr=>simp at hr;subst hr;exact⟨n,y,rfl,rfl⟩
  obtain⟨np,yp,rfl,rfl⟩:=hxp
  simp only[vals]at q2
  split at q2
  .rename_i y ys o5 o6
   cases q2
   have hy:E a=y:=(zaL o5).1
   have hi1:=hi0
   unfold zp at hi1
   simp only[zq,hk,za1 hbs]at hi1
   cases hg:gval E i.g with
   |none=>simp[hg]at hi1
   |some t=>
    cases t with
    |false=>
     have hall:∀G,zp R (zq i) E G=some (putE E (zq i).dst vj,G):=by
      intro G
      simp only[hg,oSi,pMi]at hi1
      unfold zp
      simp only[zq,hk,za1 hbs,hg,oSi,pMi,and_true]
      exact hi1.1
     have h2':=hall H
     simp only[hg,oSi,pMi]at hi1
     obtain⟨_,rfl⟩:=hi1
     exact⟨_,_,h2',move _ _ h1⟩
    |true=>
     have hi2:=hi0
     simp only[hg,zbf,List.take_succ_cons,List.take_zero]at hi1
     have hap:=hseen _ _ x1 x2 ax hk hbs hg
     rw[hy]at hap
     cases hv:vals E [x1,x2] with
     |none=>simp[hv]at hi1
     |some vs=>
      simp only[hv]at hi1
      have hv0:=hv
      simp only[vals]at hv
      split at hv
      .rename_i w1 ws o1 o2
       split at o2
       .rename_i w2 ws2 o3 o4
        cases o4;cases o2;cases hv
        rw[(zaL o1).1]at hap
        cases hx:exec R H1 (.store n1) [w1,w2] with
        |none=>simp[hx]at hi1
        |some q=>
         obtain⟨u,Hq⟩:=q
         simp only[hx,oMs,oSi,pMi]at hi1
         obtain⟨hvj,rfl⟩:=hi1
         match ys,q3 with
         | [z2],q3=>
         have hp3:zaW H np y z2=some (up,H1):=q3
         have hx3:zaW H1 n1 w1 w2=some (u,Hq):=hx
         obtain⟨id1,B1,⟨v1,x1',o1',e1⟩,rfl,m1⟩:=zek hp3
         obtain⟨id2,B2,⟨v2,x2',o2',e2⟩,rfl,m2⟩:=zek hx3
         subst e1;subst e2
         have hne12:id2≠id1:=by simpa[apart]using hap
         have g1:=m2 H (by rw[gEn (fun e=>hne12 e.symm)])
         have g2:=m1 (H.set id2 B2) (by rw[gEn hne12])
         refine⟨putE E (zq i).dst vj,H.set id2 B2,?_,?_⟩
         .unfold zp
          simp only[zq,hk,za1 hbs,hg,zbf,List.take_succ_cons,List.take_zero,hv0]
          have g1':exec R H (.store n1) [.optr id2 v2 x2' o2',w2]=some (u,H.set id2 B2):=g1
          rw[g1']
          simp only[oMs,oSi,pMi,and_true]
          exact hvj
         .refine move _ _ (q4 _ _ ?_)
          have g2':exec R (H.set id2 B2) (.store np) [.optr id1 v1 x1' o1',z2]=some (up,(H.set id2 B2).set id1 B1):=g2
          rw[g2',List.set_comm _ _ hne12]
         | [],q3=>simp[exec,zav,OpK.quiet,ex]at q3
         |_::_::_,q3=>simp[exec,zav,OpK.quiet,ex]at q3
       .cases o2
      .cases hv
  .cases q2
def Blk.isHole:Blk→Bool| .hole _=>true|_=>false
def zcY (H:Heap) (y:AV):Prop:=
 match y with
 | .optr id ver _ _=>∃B,H[id]?=some B∧ver≤B.ver∧B.isHole=false
 | .osl id ver _ _=>∃B,H[id]?=some B∧ver≤B.ver∧B.isHole=false
 |_=>True
structure zbP (H H1:Heap):Prop where
 back:∀(id:Nat) (B:Blk),H[id]?=some B→B.isHole=false→∀(ver sz:Nat) (sh:Bool) (es:List AV),ver≤B.ver→H1[id]?=some (.arr ver sz sh es)→∃sh' es',H[id]?=some (.arr ver sz sh' es')∧∀(i:Nat) (e:AV),es[i]?=some e→es'[i]?=some e
 on:∀(id:Nat) (B:Blk),H[id]?=some B→B.isHole=false→∃B':Blk,H1[id]?=some B'∧B.ver≤B'.ver∧B'.isHole=false
theorem zbP.refl (H:Heap):zbP H H:=⟨fun id B hb hq ver sz sh es hv h1=>⟨sh,es,h1,fun _ _ h=>h⟩,fun id B hb hq=>⟨B,hb,Nat.le_refl _,hq⟩⟩
theorem zbP.append (H:Heap) (b:Blk):zbP H (H++[b]):=by
 have key:∀id B,H[id]?=some B→(H++[b])[id]?=some B:=fun id B hb=>by
  rw[gEa (gEs.1 hb).1];exact hb
 refine⟨fun id B hb hq ver sz sh es hv h1=>?_,fun id B hb hq=>⟨B,key id B hb,Nat.le_refl _,hq⟩⟩
 rw[key id B hb]at h1
 cases h1
 exact⟨sh,es,hb,fun _ _ h=>h⟩
theorem zbP.set {H:Heap} {id v sz n:Nat} {sh:Bool} {es es1:List AV} (h0:H[id]?=some (.arr v sz sh es)) (hn:n=0→∀(i:Nat) (e:AV),es1[i]?=some e→es[i]?=some e):zbP H (H.set id (.arr (v+n) sz sh es1)):=by
 have hid:=(gEs.1 h0).1
 refine⟨fun j B hb hq ver sz' sh' es' hv h1=>?_,fun j B hb hq=>?_⟩
 .by_cases hj:id=j
  .subst hj
   rw[h0]at hb;cases hb
   rw[gEt hid]at h1
   cases h1
   have hv':v+n≤v:=hv
   have:n=0:=by omega
   subst this
   exact⟨sh,es,h0,hn rfl⟩
  .rw[gEn hj]at h1
   exact⟨sh',es',h1,fun _ _ h=>h⟩
 .by_cases hj:id=j
  .subst hj
   rw[h0]at hb;cases hb
   exact⟨_,gEt hid,Nat.le_add_right _ _,rfl⟩
  .exact⟨B,by rw[gEn hj];exact hb,Nat.le_refl _,hq⟩
theorem zbP.fill {H:Heap} {id t:Nat} (b:Blk) (h0:H[id]?=some (.hole t)):zbP H (H.set id b):=by
 refine⟨fun j B hb hq ver sz' sh' es' hv h1=>?_,fun j B hb hq=>?_⟩
 .by_cases hj:id=j
  .subst hj
   rw[h0]at hb;cases hb;cases hq
  .rw[gEn hj]at h1
   exact⟨sh',es',h1,fun _ _ h=>h⟩
 .by_cases hj:id=j
  .subst hj
   rw[h0]at hb;cases hb;cases hq
  .exact⟨B,by rw[gEn hj];exact hb,Nat.le_refl _,hq⟩
theorem zoQ {H H1:Heap} {sz:Nat} {x v:AV} {ys:List AV} (h:zbN (truncH H x) sz x ys=some (v,H1)):zbP H H1:=by
 unfold zbN at h
 split at h
 .have ht:truncH H (.isl (some true) ‹Nat› [])=H:=rfl
  rw[ht]at h
  split at h
  .cases h;exact zbP.refl _
  .split at h
   .cases h;exact zbP.append _ _
   .cases h
 .rename_i id ver off len
  split at h
  .rename_i v0 s sh es hb
   split at h
   .rename_i hc
    obtain⟨rfl,rfl,hlen⟩:=hc
    obtain⟨es0,g1,g2,g3⟩:∃es0,H[id]?=some (.arr v0 s sh es0)∧(∀(i:Nat) (e:AV),es[i]?=some e→es0[i]?=some e)∧((truncH H (.osl id v0 off len)=H∧es=es0)∨truncH H (.osl id v0 off len)=H.set id (.arr v0 s sh es)):=by
     simp only[truncH]at hb⊢
     split at hb
     .rename_i v1 s1 es1 h1
      split at hb
      .rename_i hc1
       have hid:=(gEs.1 h1).1
       rw[gEt hid]at hb
       simp only[oSi,Blk.arr.injEq]at hb
       obtain⟨rfl,rfl,rfl,hb⟩:=hb
       refine⟨es1,h1,fun i e he=>?_,.inr ?_⟩
       .rw[←hb,List.getElem?_take]at he
        split at he
        .exact he
        .cases he
       .simp only[h1]
        rw[if_pos ⟨trivial,hc1.2⟩,hb]
      .rename_i hc1
       rw[h1]at hb
       cases hb
       exact⟨es,h1,fun _ _ h=>h,.inl ⟨by simp only[h1];exact if_neg (fun hh=>hc1 ⟨rfl,hh.2⟩),rfl⟩⟩
     .rename_i hn
      refine⟨es,hb,fun _ _ h=>h,.inl ⟨?_,rfl⟩⟩
      first|rfl|(split<;>first|rfl|(rename_i h2;exact absurd h2 (hn _ _ _)))
    have hid:=(gEs.1 g1).1
    split at h
    .cases h
     rcases g3 with⟨g3,_⟩|g3
     .rw[g3];exact zbP.refl _
     .rw[g3];exact zbP.set (n:=0) g1 (fun _=>g2)
    .rename_i hys
     split at h
     .cases h
      have hset:∀B,(truncH H (.osl id v0 off len)).set id B=H.set id B:=fun B=>by
       rcases g3 with⟨g3,_⟩|g3<;>rw[g3]
       rw[List.set_set]
      rw[hset]
      refine zbP.set g1 (fun h0=>?_)
      exact absurd (List.eq_nil_of_length_eq_zero h0) (by intro e;exact hys e)
     .cases h
   .cases h
  .cases h
 .split at h
  .cases h;exact zbP.refl _
  .cases h
 .cases h
theorem zfq {R:Rec} {p:LI} {E E1:Env} {H H1:Heap} (hp:(zts p.k||zao p.k||(zaY p.k).isSome)=true) (h:zp R p E H=some (E1,H1)):zbP H H1:=by
 rcases zaC h with⟨rfl,_⟩|⟨k,xs,vs,v,k1,k2,k3,k4⟩
 .exact zbP.refl _
 .rw[k1]at hp
  simp only[Bool.or_eq_true]at hp
  rcases hp with (hp|hp)|hp
  .have hx:∃sz ws,ex H (.app sz) ws=some (v,H1):=by
    cases k<;>simp only[zts,bFt]at hp
    .rename_i sz
     match vs,k3 with
     |x::y::as',k3=>
      have k3':(if as'.all (apart x) then ex H (.app sz) [x,y] else none)=some (v,H1):=k3
      split at k3'
      .exact⟨sz,_,k3'⟩
      .cases k3'
     | [],k3=>cases k3
     | [_],k3=>cases k3
    .exact⟨_,vs,k3⟩
   obtain⟨sz,vs,hx⟩:=hx
   match vs,hx with
   | [x,y],hx=>
    simp only[ex]at hx
    split at hx
    .split at hx
     .exact zoQ hx
     .cases hx
    .cases hx
   | [],hx=>simp[ex]at hx
   | [_],hx=>simp[ex]at hx
   |_::_::_::_,hx=>simp[ex]at hx
  .obtain⟨b,rfl,_⟩:=zcQ hp k3
   exact zbP.append _ _
  .obtain⟨t,ht⟩:=Option.isSome_iff_exists.1 hp
   obtain⟨id,b,f1,rfl,_⟩:=zcC ht k3
   exact zbP.fill b (zJ f1)
theorem zcY.on {H H1:Heap} (hg:zbP H H1) {y:AV} (h:zcY H y):zcY H1 y:=by
 cases y<;>simp only[zcY]at h⊢
 all_goals
  obtain⟨B,h1,h2,hq⟩:=h
  obtain⟨B',h3,h4,h5⟩:=hg.on _ B h1 hq
  exact⟨B',h3,Nat.le_trans h2 h4,h5⟩
theorem zi9 {R:Rec} {k:OpK} {xs:List Src} {a:Nat} {y:AV} {ys:List AV} {v:AV} {H H1 H2:Heap} (hk:zU (.op k xs)=some a) (h:exec R H1 k (y::ys)=some (v,H2)) (hg:zbP H H1) (hy:zcY H y):exec R H k (y::ys)=some (v,H):=by
 refine zfb hk h (fun id ver hp sz sh es hb=>?_)
 cases y<;>simp only[zca,reduceCtorEq,oSi,pMi]at hp
 all_goals
  obtain⟨rfl,rfl⟩:=hp
  obtain⟨B,h1,h2,hq⟩:=hy
  exact hg.back _ B h1 hq _ sz sh es h2 hb
theorem ziE {R:Rec} {p i:LI} {E E1 E2:Env} {H H1 H2:Heap} (hb:back p i=true) (hok:∀a,zU i.k=some a→zcY H (E a)) (h1:zp R p E H=some (E1,H1)) (h2:zp R i E1 H1=some (E2,H2)):
  ∃E' H',zp R i E H=some (E',H')∧zp R p E' H'=some (E2,H2):=by
 simp only[back,dstB,bAt,dTe]at hb
 obtain⟨⟨s1,s2⟩,s3,s4,s5⟩:=hb
 have hgr:=zfq s3 h1
 have hH2:H2=H1:=zaH (by omega) h2
 subst hH2
 obtain⟨vi,rfl,ci⟩:=zt h1
 obtain⟨vj,rfl,cj⟩:=zt h2
 have rj:∀s∈zR i,E s=(putE E p.dst vi) s:=by
  intro s hs
  rw[zw]
  split
  .rename_i hd
   rw[hd]at s1
   simp at s1
   exact absurd hs s1.1
  .rfl
 have ri:∀s∈zR p,(putE E i.dst vj) s=E s:=by
  intro s hs
  rw[zw]
  split
  .rename_i hd
   rw[hd]at s2
   simp at s2
   exact absurd hs s2
  .rfl
 have hne:∀x,p.dst=some x→i.dst≠some x:=by
  intro x hx hj
  rw[hx,hj]at s1
  simp at s1
 have hi0:=cj E rj
 have comm:putE (putE E i.dst vj) p.dst vi=putE (putE E p.dst vi) i.dst vj:=zaG (d:=i.dst) (fun x hx hi=>hne x hi hx)
 have hp2:zp R p (putE E i.dst vj) H=some (putE (putE E p.dst vi) i.dst vj,H2):=by rw[ci (putE E i.dst vj) ri,comm]
 rcases zaC hi0 with⟨e,all⟩|⟨ki,xi,wi,ui,k1,k2,k3,k4⟩
 .exact⟨_,_,all H,hp2⟩
 .rw[k1]at s4
  obtain⟨a,ha⟩:=Option.isSome_iff_exists.1 s4
  have hxp:∃r,xi= .t a::r:=by
   cases xi with
   |nil=>cases ki<;>simp[zU]at ha
   |cons y r=>cases y<;>cases ki<;>simp[zU]at ha<;>exact⟨r,by rw[ha]⟩
  obtain⟨r,rfl⟩:=hxp
  have hka:=hok a (by rw[k1];exact ha)
  simp only[vals]at k2
  split at k2
  .rename_i y ys o5 o6
   cases k2
   have hy:E a=y:=(zaL o5).1
   rw[hy]at hka
   exact⟨_,_,k4 _ _ (zi9 ha k3 hgr hka),hp2⟩
  .cases k2
theorem zkA (i:LI):kH (zq i).k=kH i.k:=by
 obtain⟨d,k,g⟩:=i
 cases k with
 |pick c x y=>rfl
 |op k xs=>cases k<;>rfl
theorem zcs {i:LI} (h:kH i.k=1):zq i=i:=by
 obtain⟨d,k,g⟩:=i
 cases k with
 |pick c x y=>rfl
 |op k xs=>cases k<;>first|rfl|(simp[kH]at h;done)
theorem zee {i:LI} {a:Nat} (h:zU i.k=some a):a∈zR i:=by
 obtain⟨d,k,g⟩:=i
 simp only at h
 simp only[zR,List.mem_append]
 right
 cases k with
 |pick c x y=>simp[zU]at h
 |op k xs=>
  cases xs with
  |nil=>cases k<;>simp[zU]at h
  |cons y r=>cases y<;>cases k<;>simp[zU]at h<;>(subst h;simp[zfa,zcm])
def zhq (R:Rec) (i:LI) (E:Env) (H:Heap) (a:Nat):Prop:=∀r,zp R (zq i) E H=some r→r.2=H∨zf0 H r.2 (E a)=true∨r.2.take H.length=H
def zjT (R:Rec) (i:LI) (E:Env) (H:Heap):Prop:=∀r,zp R (zq i) E H=some r→r.2=H∨r.2.take H.length=H
theorem zjT.c {R:Rec} {i:LI} {E:Env} {H:Heap} (h:zjT R i E H) (a:Nat):zhq R i E H a:=fun r hr=>by
 rcases h r hr with e|e
 .exact .inl e
 .exact .inr (.inr e)
theorem zgt {H H':Heap} (h:H'.take H.length=H) {id:Nat} {b:Blk} (hb:H[id]?=some b):H'[id]?=some b:=by
 have hl:=(gEs.1 hb).1
 rw[←h,List.getElem?_take,if_pos hl]at hb
 exact hb
theorem zgP {k:LK} (h:isN k=true):∃f n xs,k= .op (.callA f n) xs∧1000≤n:=by
 cases k with
 |pick c x y=>cases h
 |op k xs=>cases k<;>first|(cases h;done)|exact⟨_,_,_,rfl,by simpa[isN]using h⟩
theorem zhs {E:Nat→AV}:∀{xs:List Src} {vs:List AV} (n:Nat),vals E xs=some vs→vals E (xs.drop n)=some (vs.drop n)
 | [],vs,n,h=>by simp only[vals,oSi]at h;subst h;simp[vals]
 |x::xs,vs,0,h=>by simpa using h
 |x::xs,vs,n+1,h=>by
  simp only[vals]at h
  split at h
  .rename_i v vs' h1 h2
   cases h
   simpa using zhs n h2
  .cases h
theorem zaB {R:Rec} {i:LI} {E E1:Env} {H H1:Heap} (h:zp R i E H=some (E1,H1)):zp R (zq i) E H=some (E1,H1):=(zf4 h).1
theorem zcB {k:LK} {a:Nat} (h:a∈zb1 k):∃f n xs,k= .op (.callA f n) xs∧a∈(xs.drop n).flatMap zcm:=by
 cases k with
 |pick c x y=>simp[zb1]at h
 |op k xs=>cases k<;>first|(simp[zb1]at h;done)|exact⟨_,_,_,rfl,h⟩
theorem zlM {k:LK} {a:Nat} (h:a∈zb1 k):kH k=2:=by
 obtain⟨f,n,xs,rfl,_⟩:=zcB h;rfl
theorem zgz {R:Rec} {i:LI} {E E1:Env} {H H1:Heap} {a:Nat} (h:zp R i E H=some (E1,H1)) (ha:a∈zb1 i.k):zhq R i E H a:=by
 intro r hr
 rw[zaB h]at hr
 cases hr
 obtain⟨d,k,g⟩:=i
 obtain⟨f,n,xs,hk,hm⟩:=zcB ha
 simp only at hk
 subst hk
 unfold zp at h
 simp only at h
 split at h
 .simp only[zbf]at h
  split at h
  .rename_i vs hvs
   cases hx:exec R H (.callA f n) vs with
   |none=>simp[hx]at h
   |some q=>
    simp only[hx,oMs,oSi,pMi]at h
    obtain⟨_,rfl⟩:=h
    exact .inr (.inl ((zd2 hx).2.1 _ (zdI (zhs n hvs) hm)))
  .cases h
 .cases h;exact .inl rfl
 .cases h
theorem zgy {R:Rec} {i:LI} {E E1:Env} {H H1:Heap} (h:zp R i E H=some (E1,H1)) (ha:isN i.k=true):zjT R i E H:=by
 intro r hr
 rw[zaB h]at hr
 cases hr
 obtain⟨d,k,g⟩:=i
 obtain⟨f,n,xs,hk,hn⟩:=zgP ha
 simp only at hk
 subst hk
 unfold zp at h
 simp only at h
 split at h
 .simp only[zbf]at h
  split at h
  .rename_i vs hvs
   cases hx:exec R H (.callA f n) vs with
   |none=>simp[hx]at h
   |some q=>
    simp only[hx,oMs,oSi,pMi]at h
    obtain⟨_,rfl⟩:=h
    exact .inr ((zd2 hx).2.2 hn)
  .cases h
 .cases h;exact .inl rfl
 .cases h
theorem zda {H H':Heap} {y:AV} (h:zf0 H H' y=true) {id ver:Nat} (hp:zca y=some (id,ver)):H'[id]?=H[id]?:=by
 cases y<;>simp only[zca,reduceCtorEq,oSi,pMi]at hp
 all_goals
  obtain⟨rfl,rfl⟩:=hp
  simp only[zf0]at h
  split at h
  .rename_i a b h1 h2
   rw[h1,h2,Blk.beq_eq h]
  .cases h
theorem zf9 {R:Rec} {p:LI} {E E1:Env} {H H1:Heap} {a:Nat} (hs:zhq R p E H a) (h:zp R (zq p) E H=some (E1,H1)) (hk:zcY H (E a)):zcY H1 (E a):=by
 rcases hs _ h with e|e|e
 .simp only at e;rw[e];exact hk
 .have key:=fun id ver hp=>zda e (id:=id) (ver:=ver) hp
  generalize E a=y at hk key
  cases y<;>simp only[zcY]at hk⊢
  all_goals
   rw[key _ _ rfl];exact hk
 .generalize E a=y at hk
  cases y<;>simp only[zcY]at hk⊢
  all_goals
   obtain⟨B,b1,b2⟩:=hk
   exact⟨B,zgt e b1,b2⟩
theorem zlh {R:Rec} {i p:LI} {E:Env} {H:Heap} {v:AV} {a:Nat} (hd:∀d,p.dst=some d→d∉zR (zq i)) (hpa:p.dst≠some a) (h:zhq R i (putE E p.dst v) H a):zhq R i E H a:=by
 intro r hr
 obtain⟨E1,H1⟩:=r
 obtain⟨u,_,hu⟩:=zt hr
 have h1:=hu (putE E p.dst v) (fun s hs=>by
  rw[zw]
  split
  .rename_i hd';exact absurd hs (hd s hd')
  .rfl)
 have:=h _ h1
 rw[zw,if_neg hpa]at this
 exact this
theorem zlg {R:Rec} {i p:LI} {E:Env} {H:Heap} {v:AV} (hd:∀d,p.dst=some d→d∉zR (zq i)) (h:zjT R i (putE E p.dst v) H):zjT R i E H:=by
 intro r hr
 obtain⟨E1,H1⟩:=r
 obtain⟨u,_,hu⟩:=zt hr
 have h1:=hu (putE E p.dst v) (fun s hs=>by
  rw[zw]
  split
  .rename_i hd';exact absurd hs (hd s hd')
  .rfl)
 have h2:=h _ h1
 exact h2
theorem zhT {i p:LI} {r:List LI} (ha:∃f n xs,i.k= .op (.callA f n) xs) (h:zfK p (zq i)=true∨soft p (zq i)=true∨away p i r=true∨back p (zq i)=true∨zfL p (zq i)=true∨zez p i r=true∨zey p i r=true∨zhl p (zq i)=true):kH p.k≤1:=by
 obtain⟨d,k,g⟩:=i
 obtain⟨f,n,xs,hk⟩:=ha
 simp only at hk
 subst hk
 have hk2:kH (zq ⟨d,.op (.callA f n) xs,g⟩).k=2:=rfl
 have hex:zbJ (LK.op (.callA f n) xs)=[]:=by
  cases xs with
  |nil=>rfl
  |cons x r=>cases r<;>rfl
 have hal:zao (zq ⟨d,.op (.callA f n) xs,g⟩).k=false:=rfl
 have hfi:zaY (zq ⟨d,.op (.callA f n) xs,g⟩).k=none:=rfl
 have hrd:zU (zq ⟨d,.op (.callA f n) xs,g⟩).k=none:=rfl
 rcases h with h|h|h|h|h|h|h|h
 .simp only[zfK,bAt]at h
  have h3:=h.2
  rw[hk2]at h3
  simp at h3
  omega
 .simp only[soft,hal,Bool.false_and,Bool.and_false,bFt]at h
 .simp only[away,bAt]at h
  have h2:=h.2
  split at h2
  .simp[hex]at h2
  .cases h2
 .simp[back,hk2]at h
 .simp only[zfL,bAt]at h
  have h2:=h.2
  rw[hfi]at h2
  cases hpf:zaY p.k with
  |none=>rw[hpf]at h2;cases h2
  |some u=>
   rw[hpf]at h2
   simp only at h2
   rw[hal]at h2
   cases h2
 .simp[zez,znm]at h
 .simp only[zey,bAt]at h
  have h2:=h.2
  split at h2
  .rename_i b hb
   obtain⟨dp,kp,gp⟩:=p
   cases kp with
   |pick c x y=>simp[zU]at hb
   |op kp xp=>exact zbo hb
  .cases h2
 .simp[zhl,hrd]at h
theorem zgh {p i:LI} (h:dstB p i=true):(∀d,p.dst=some d→d∉zR i)∧(∀d,i.dst=some d→d∉zR p)∧(∀x,p.dst=some x→i.dst≠some x):=by
 simp only[dstB,bAt]at h
 obtain⟨h1,h2⟩:=h
 refine⟨fun d hd hm=>?_,fun d hd hm=>?_,fun x hx hi=>?_⟩
 .rw[hd]at h1;simp at h1;exact h1.1 hm
 .rw[hd]at h2;simp at h2;exact h2 hm
 .rw[hx]at h1;simp at h1;exact h1.2 hi
theorem zhJ {R:Rec} {p:LI} {E E1:Env} {H H1 H2:Heap} {a:Nat} (hr:zU p.k=some a) (h:zp R p E H=some (E1,H1)) (keep:∀id ver,zca (E a)=some (id,ver)→∀b,H[id]?=some b→H2[id]?=some b):zp R p E H2=some (E1,H2):=by
 rcases zaC h with⟨rfl,h2⟩|⟨k,xs,vs,v,k1,k2,k3,k4⟩
 .exact h2 H2
 .rw[k1]at hr
  have hx:∃r,xs= .t a::r:=by
   cases xs with
   |nil=>cases k<;>simp[zU]at hr
   |cons s r=>cases s<;>cases k<;>simp[zU]at hr<;>(subst hr;exact⟨r,rfl⟩)
  obtain⟨r,rfl⟩:=hx
  simp only[vals]at k2
  split at k2
  .rename_i y ys o5 o6
   cases k2
   have hy:E a=y:=(zaL o5).1
   rw[hy]at keep
   exact k4 _ _ (zgg hr k3 keep).2
  .cases k2
theorem zdF {R:Rec} {p i:LI} {E E1 E2:Env} {H H1 H2:Heap} {a:Nat} (hd:dstB p (zq i)=true) (hr:zU p.k=some a) (hseen:zhq R i E H a) (h1:zp R p E H=some (E1,H1)) (h2:zp R (zq i) E1 H1=some (E2,H2)):
  ∃E' H',zp R (zq i) E H=some (E',H')∧zp R p E' H'=some (E2,H2):=by
 obtain⟨d1,d2,d3⟩:=zgh hd
 have hle:kH p.k≤1:=by
  obtain⟨dp,kp,gp⟩:=p
  cases kp with
  |pick c x y=>simp[zU]at hr
  |op kp xp=>exact zbo hr
 have hH:H1=H:=zaH hle h1
 subst hH
 obtain⟨vp,rfl,sp⟩:=zt h1
 obtain⟨vi,rfl,si⟩:=zt h2
 have e1:=si E (fun s hs=>by
  rw[zw]
  split
  .rename_i hd';exact absurd hs (d1 s hd')
  .rfl)
 refine⟨_,_,e1,?_⟩
 have keep:∀id ver,zca (E a)=some (id,ver)→∀b,H1[id]?=some b→H2[id]?=some b:=by
  intro id ver hp b hb
  rcases hseen _ e1 with e|e|e
  .simp only at e;rw[e];exact hb
  .rw[zda e hp];exact hb
  .exact zgt e hb
 have e2:=zhJ hr h1 keep
 obtain⟨vp',hvp,sp'⟩:=zt e2
 have e3:=sp' (putE E (zq i).dst vi) (fun s hs=>by
  rw[zw]
  split
  .rename_i hd';exact absurd hs (d2 s hd')
  .rfl)
 rw[e3,hvp]
 rw[zaG (E:=E) (d:=(zq i).dst) (d':=p.dst) (fun x hx hy=>d3 x hy hx)]
theorem zdE {R:Rec} {p i:LI} {E E1 E2:Env} {H H1 H2:Heap} {a:Nat} (hd:dstB p i=true) (hr:zU i.k=some a) (hkn:zcY H (E a)) (hseen:zhq R p E H a) (hp:zp R (zq p) E H=some (E1,H1)) (h1:zp R p E H=some (E1,H1)) (h2:zp R i E1 H1=some (E2,H2)):
  ∃E' H',zp R i E H=some (E',H')∧zp R p E' H'=some (E2,H2):=by
 obtain⟨d1,d2,d3⟩:=zgh hd
 have hle:kH i.k≤1:=by
  obtain⟨dp,kp,gp⟩:=i
  cases kp with
  |pick c x y=>simp[zU]at hr
  |op kp xp=>exact zbo hr
 have hH:H2=H1:=zaH hle h2
 subst hH
 obtain⟨vp,rfl,sp⟩:=zt h1
 have hEa:(putE E p.dst vp) a=E a:=by
  rw[zw,if_neg (fun h=>d1 a h (zee hr))]
 have keep:∀id ver,zca ((putE E p.dst vp) a)=some (id,ver)→∀b,H2[id]?=some b→H[id]?=some b:=by
  intro id ver hpl b hb
  rw[hEa]at hpl
  rcases hseen _ hp with e|e|e
  .simp only at e;rw[←e];exact hb
  .rw[←zda e hpl];exact hb
  .obtain⟨B,hB⟩:∃B,H[id]?=some B:=by
    generalize E a=y at hpl hkn
    cases y<;>simp only[zca,reduceCtorEq,oSi,pMi]at hpl
    all_goals
     obtain⟨rfl,rfl⟩:=hpl
     obtain⟨B,b1,_⟩:=hkn
     exact⟨B,b1⟩
   have:=zgt e hB
   simp only at this
   rw[hb]at this
   rw[hB,this]
 have e1:=zhJ hr h2 keep
 obtain⟨vi,rfl,si⟩:=zt e1
 have e2:=si E (fun s hs=>by
  rw[zw]
  split
  .rename_i hd';exact absurd hs (d1 s hd')
  .rfl)
 refine⟨_,_,e2,?_⟩
 have e3:=sp (putE E i.dst vi) (fun s hs=>by
  rw[zw]
  split
  .rename_i hd';exact absurd hs (d2 s hd')
  .rfl)
 rw[e3]
 rw[zaG (E:=E) (d:=i.dst) (d':=p.dst) (fun x hx hy=>d3 x hy hx)]
def zoW (i:LI):List LI→Prop
 | []=>True
 |p::r=>(zfK p (zq i)=true∨soft p (zq i)=true∨away p i r=true∨back p (zq i)=true∨zfL p (zq i)=true∨zez p i r=true∨zey p i r=true∨zhl p (zq i)=true)∧zoW i r
theorem zmA {i p:LI} {E:Env} {v:AV} {a:Nat} (hd:∀d,p.dst=some d→d∉zR (zq i)) (hpa:p.dst≠some a) (h:Seen i (putE E p.dst v) a):Seen i E a:=by
 intro k k0 x1 x2 ax hk hb hg
 have hsame:∀s∈zR (zq i),(putE E p.dst v) s=E s:=by
  intro s hs
  rw[zw]
  split
  .rename_i hd';exact absurd hs (hd s hd')
  .rfl
 have hreads:zR (zq i)=(match i.g with|some (t,_)=> [t]|none=> [])++([x1,x2].flatMap zcm):=by
  simp only[zR,zq,hk,za1 hb,zfa,List.take_succ_cons,List.take_zero]
 have hg':gval (putE E p.dst v) i.g=some true:=by
  rw[←hg]
  refine za3 (fun t want e=>hsame t ?_)
  rw[hreads,e];simp
 have:=h k k0 x1 x2 ax hk hb hg'
 have e1:evS (putE E p.dst v) x1=evS E x1:=by
  cases x1 with
  |c w=>rfl
  |t s=>exact hsame s (by rw[hreads];simp[zcm])
 have e2:(putE E p.dst v) a=E a:=by rw[zw,if_neg hpa]
 rw[e1,e2]at this
 exact this
theorem zr6 {R:Rec} {i:LI}:∀(pre post:List LI) {E E':Env} {H H':Heap},zoW i pre→(kH i.k=1→∀a,zU i.k=some a→zcY H (E a))→frun R (pre++i::post) E H=some (E',H')→
  ∃E1 H1,zp R (zq i) E H=some (E1,H1)∧frun R (pre++post) E1 H1=some (E',H')∧(∀a∈zbJ i.k,(∀q∈pre,q.dst≠some a)→Seen i E a)∧(∀a∈zb1 i.k,(∀q∈pre,q.dst≠some a)→zhq R i E H a)∧(isN i.k=true→zjT R i E H)
 | [],post,E,E',H,H',hp,hkn,h=>by
  simp only[List.nil_append,frun]at h
  cases hs:zp R i E H with
  |none=>simp[hs]at h
  |some p=>
   simp only[hs,Option.bind_some]at h
   obtain⟨g1,g2⟩:=zf4 hs
   exact⟨p.1,p.2,g1,h,fun a ha _=>g2 a ha,fun a ha _=>zgz hs ha,fun ha=>zgy hs ha⟩
 |p::pre,post,E,E',H,H',hp,hkn,h=>by
  simp only[List.cons_append,frun]at h
  cases hs:zp R p E H with
  |none=>simp[hs]at h
  |some q=>
   obtain⟨Ep,Hp⟩:=q
   simp only[hs,Option.bind_some]at h
   have hdr:∀d,p.dst=some d→d∉zR (zq i):=by
    intro d hd hm
    have key:(p.dst.all fun d=> !(zR (zq i)).contains d&& !((zq i).dst.toList).contains d)=true:=by
     rcases hp.1 with h|h|h|h|h|h|h|h
     rotate_left 6
     .simp only[zey,dstB,bAt]at h;exact h.1.1
     .simp only[zhl,dstB,bAt]at h;exact h.1.1
     rotate_right
     .simp only[zez,dstB,bAt]at h;exact h.1.1
     .simp only[zfK,bAt]at h;exact h.1.1
     .simp only[soft,dstB,bAt]at h;exact h.1.1
     .simp only[away,dstB,bAt]at h;exact h.1.1
     .simp only[Go.Proofs.YtbddckhdbnmamaaGreat.back,dstB,bAt]at h;exact h.1.1
     .simp only[zfL,dstB,bAt]at h;exact h.1.1
    rw[hd]at key
    simp at key
    exact key.1 hm
   have hkn2:kH i.k=1→∀a,zU i.k=some a→zcY Hp (Ep a):=by
    intro hk a ha
    have h0:=hkn hk a ha
    have hpl:=zcs hk
    have hEa:Ep a=E a:=by
     obtain⟨v,hv,_⟩:=zt hs
     rw[hv,zw,if_neg (fun hd=>hdr a hd (by rw[hpl];exact zee ha))]
    rw[hEa]
    rcases hp.1 with hi|hi|hi|hi|hi|hi|hi|hi
    rotate_left 6
    .simp only[zey,bAt]at hi
     obtain⟨_,i2⟩:=hi
     split at i2
     .simp only[Bool.or_eq_true,bAt,List.contains_iff_mem]at i2
      rcases i2 with i2|i2
      .obtain⟨f,n,xs,e,_⟩:=zgP i2
       rw[e]at hk;cases hk
      .have:=zlM i2.1
       omega
     .cases i2
    .rw[hpl]at hi
     simp only[zhl,bAt]at hi
     rw[ha]at hi
     simp only[bAt,Bool.or_eq_true,List.contains_iff_mem]at hi
     rcases hi.2.2 with hi|hi
     .exact zf9 ((zgy hs hi).c _) (zaB hs) h0
     .exact zf9 (zgz hs hi) (zaB hs) h0
    rotate_right
    .simp only[zez,bAt]at hi
     have h2:=hi.2.1
     cases hik:i.k with
     |pick c x y=>rw[hik]at h2;cases h2
     |op k xs=>
      rw[hik]at h2 hk
      cases k<;>simp only[znm,bFt]at h2
      simp[kH]at hk
    .rw[hpl]at hi
     simp only[zfK,hk,bAt,Bool.or_eq_true,beq_iff_eq,dTe]at hi
     have hle:kH p.k≤1:=by omega
     rw[zaH hle hs];exact h0
    .rw[hpl]at hi
     simp only[soft,bAt]at hi
     have:=zk2 hi.2.1
     omega
    .simp only[away,bAt]at hi
     obtain⟨_,i2⟩:=hi
     split at i2
     .simp only[bAt,List.contains_iff_mem]at i2
      obtain⟨k1,k0,x1,x2,ax,e,hb,_⟩:=zbv i2.1
      rw[e]at hk
      cases k1<;>simp only[zbm,reduceCtorEq,oSi]at hb<;>simp[kH]at hk
     .cases i2
    .simp only[Go.Proofs.YtbddckhdbnmamaaGreat.back,bAt]at hi
     exact h0.on (zfq hi.2.1 hs)
    .rw[hpl]at hi
     simp only[zfL,bAt]at hi
     have:=zqf hi.2
     omega
   obtain⟨E1,H1,h1,h2,h3,h3C,h3N⟩:=zr6 pre post hp.2 hkn2 h
   obtain⟨vp,hEp,_⟩:=zt hs
   have back:∀a∈zbJ i.k,(∀q∈p::pre,q.dst≠some a)→Seen i E a:=by
    intro a ha hq
    have:=h3 a ha (fun q hq'=>hq q (by simp[hq']))
    rw[hEp]at this
    exact zmA hdr (hq p (by simp)) this
   have backC':∀a∈zb1 i.k,(∀q∈p::pre,q.dst≠some a)→zhq R i E H a:=by
    intro a ha hq
    have h0:=h3C a ha (fun q hq'=>hq q (by simp[hq']))
    have hle:kH p.k≤1:=zhT (by obtain⟨f,n,xs,e,_⟩:=zcB ha;exact⟨f,n,xs,e⟩) hp.1
    have hHp:Hp=H:=zaH hle hs
    subst hHp
    rw[hEp]at h0
    exact zlh hdr (hq p (by simp)) h0
   have backN':isN i.k=true→zjT R i E H:=by
    intro ha
    have h0:=h3N ha
    have hle:kH p.k≤1:=zhT (by obtain⟨f,n,xs,e,_⟩:=zgP ha;exact⟨f,n,xs,e⟩) hp.1
    have hHp:Hp=H:=zaH hle hs
    subst hHp
    rw[hEp]at h0
    exact zlg hdr h0
   have key:∃Ei Hi,zp R (zq i) E H=some (Ei,Hi)∧zp R p Ei Hi=some (E1,H1):=by
    rcases hp.1 with hi|hi|hi|hi|hi|hi|hi|hi
    rotate_left 6
    .simp only[zey,bAt]at hi
     obtain⟨i1,i2⟩:=hi
     split at i2
     .rename_i a hr
      simp only[Bool.or_eq_true,bAt,List.contains_iff_mem]at i2
      rcases i2 with i2|⟨i3,i4⟩
      .exact zdF i1 hr ((backN' i2).c _) hs h1
      .exact zdF i1 hr (backC' a i3 (fun q hq=>by have:=lAt.1 i4 q hq;simpa using this)) hs h1
     .cases i2
    .simp only[zhl,bAt]at hi
     obtain⟨i1,i2⟩:=hi
     split at i2
     .rename_i a hr
      simp only[bAt,Bool.or_eq_true,List.contains_iff_mem,dTe]at i2
      have hk:kH i.k=1:=by rw[←zkA];exact i2.1
      have hka:zcY H (E a):=hkn hk a (by rw[←zcs hk];exact hr)
      rcases i2.2 with i3|i3
      .exact zdE i1 hr hka ((zgy hs i3).c _) (zaB hs) hs h1
      .exact zdE i1 hr hka (zgz hs i3) (zaB hs) hs h1
     .cases i2
    rotate_right
    .simp only[zez,bAt]at hi
     obtain⟨i1,i0,i2⟩:=hi
     split at i2
     .rename_i a hr
      simp only[bAt,List.contains_iff_mem]at i2
      obtain⟨i3,i4⟩:=i2
      exact zfN i1 i0 hr i3 (back a i3 (fun q hq=>by have:=lAt.1 i4 q hq;simpa using this)) hs h1
     .cases i2
    .exact zt5 hi hs h1
    .exact ziC hi hs h1
    rotate_left 2
    .exact ziD hi hs h1
    rotate_left
    .refine ziE hi (fun a ha=>?_) hs h1
     have hk:kH i.k=1:=by
      simp only[Go.Proofs.YtbddckhdbnmamaaGreat.back,bAt,dTe]at hi
      rw[←zkA];exact hi.2.2.2
     rw[zcs hk]at ha
     exact hkn hk a ha
    .simp only[away,bAt]at hi
     obtain⟨i1,i2⟩:=hi
     split at i2
     .rename_i a hr
      simp only[bAt,List.contains_iff_mem]at i2
      obtain⟨i3,i4⟩:=i2
      exact ziF i1 hr i3 (back a i3 (fun q hq=>by have:=lAt.1 i4 q hq;simpa using this)) hs h1
     .cases i2
   obtain⟨Ei,Hi,k1,k2⟩:=key
   refine⟨Ei,Hi,k1,?_,back,backC',backN'⟩
   simp only[List.cons_append,frun,k2,Option.bind_some]
   exact h2
def zgr (C:zaX) (K:Ctx) (w:World) (M:Mut) (R:Res) (E':Env) (H':Heap) (a:Act) (Q:Exit→Act→World→Prop):Prop:=
 ∀w' M' R' a',WR C K w' M' R' H'→Evol R M w R' M' w'→EnvR w' M' R' E' a'→a'.tmps.size=a.tmps.size→a'.defers=a.defers→Q .normal a' w'
theorem zgr.step {w w':World} {M M':Mut} {R R':Res} {E':Env} {H':Heap} {a a':Act} {Q:Exit→Act→World→Prop} (h:zgr C K w M R E' H' a Q) (he:Evol R M w R' M' w') (h1:a'.tmps.size=a.tmps.size) (h2:a'.defers=a.defers):zgr C K w' M' R' E' H' a' Q:=
 fun w'' M'' R'' a'' k1 k2 k3 k4 k5=>h w'' M'' R'' a'' k1 (he.trans k2) k3 (k4.trans h1) (k5.trans h2)
theorem zfR {Rr:Rec} (hR:zbV P C Rr) (hP:zbz P C Rr) {N n:Nat} {ops:Array Oper} {Q:Exit→Act→World→Prop} {E':Env} {H':Heap}:∀(l:List Oper) (lis:List LI) (k:Nat) (E:Env) (H:Heap) (w:World) (M:Mut) (R:Res) (a:Act),
  (∀j,l[j]?=ops[k+j]?)→zcb P N ops l=some (lis.map LI.erase)→frun Rr lis E H=some (E',H')→WR C K w M R H→EnvR w M R E a→a.tmps.size=N→zgr C K w M R E' H' a Q→
  wpOpsIn (Wf ρ) n P ops Q (List.range' k l.length) a w
 | [],lis,k,E,H,w,M,R,a,hl,hli,hf,hw,he,hN,hQ=>by
  simp only[zcb,oSi]at hli
  have:lis=[]:=by simpa using hli.symm
  subst this
  simp only[frun,oSi,pMi]at hf
  obtain⟨rfl,rfl⟩:=hf
  exact hQ w M R a hw (Evol.refl _ _ _) he rfl rfl
 |o::l,lis,k,E,H,w,M,R,a,hl,hli,hf,hw,he,hN,hQ=>by
  simp only[zcb]at hli
  split at hli
  .rename_i i is h1 h2
   cases lis with
   |nil=>simp at hli
   |cons li lis=>
    simp only[List.map_cons,oSi,List.cons.injEq]at hli
    obtain⟨rfl,rfl⟩:=hli
    simp only[frun]at hf
    cases hs:zp Rr li E H with
    |none=>simp[hs]at hf
    |some p=>
     obtain⟨E1,H1⟩:=p
     simp only[hs,Option.bind_some]at hf
     have h0:ops[k]?=some o:=by simpa using (hl 0).symm
     simp only[lLc,List.range'_succ,wpOpsIn,h0]
     refine zfT hR hP h1 hs hw he hN ?_
     intro w' M' R' a' k1 k2 k3 k4 k5
     exact zfR hR hP l lis (k+1) E1 H1 w' M' R' a' (fun j=>by have:=hl (j+1);simpa[Nat.add_assoc,Nat.add_comm 1 j]using this) h2 hf k1 k3 k4 (hQ.step k2 (by rw[k4,hN]) k5)
  .cases hli
theorem zdX {N:Nat} {ops:Array Oper}:∀{l:List Oper} {is:List LI},zcb P N ops l=some is→is.length=l.length∧∀(k:Nat) (o:Oper) (i:LI),l[k]?=some o→is[k]?=some i→zjl P N ops o=some i
 | [],is,h=>by simp[zcb]at h;subst h;simp
 |o::l,is,h=>by
  simp only[zcb]at h
  split at h
  .rename_i i is' h1 h2
   cases h
   obtain⟨k1,k2⟩:=zdX h2
   refine⟨by simp[k1],?_⟩
   intro k o' i' ho hi
   cases k with
   |zero=>simp at ho hi;subst ho;subst hi;exact h1
   |succ k=>simp at ho hi;exact k2 k o' i' ho hi
  .cases h
def left (n:Nat) (listed:Array Bool):List Nat:=(List.range n).filter fun k=> !listed.getD k true
theorem zf8 {n:Nat} {listed:Array Bool} {i:Nat} (hi:i<n) (hl:listed.getD i true=false) (hsz:listed.size=n):
  ∃pre post,left n listed=pre++i::post∧left n (listed.setIfInBounds i true)=pre++post∧∀p∈pre,p<i∧listed.getD p true=false:=by
 refine⟨(List.range i).filter (fun k=> !listed.getD k true),((List.range' (i+1) (n - (i+1))).filter fun k=> !listed.getD k true),?_,?_,?_⟩
 .unfold left
  have e:List.range n=List.range i++i::List.range' (i+1) (n - (i+1)):=by
   rw[List.range_eq_range',List.range_eq_range',show i::List.range' (i+1) (n - (i+1))=List.range' i (n - i) from by
    rw[show n - i=(n - (i+1))+1 by omega,List.range'_succ]]
   have:=List.range'_append (s:=0) (m:=i) (n:=n - i) (step:=1)
   simp only[Nat.one_mul,Nat.zero_add]at this
   rw[this];congr 1;omega
  rw[e,List.filter_append,List.filter_cons]
  simp[hl]
 .unfold left
  have e:List.range n=List.range i++i::List.range' (i+1) (n - (i+1)):=by
   rw[List.range_eq_range',List.range_eq_range',show i::List.range' (i+1) (n - (i+1))=List.range' i (n - i) from by
    rw[show n - i=(n - (i+1))+1 by omega,List.range'_succ]]
   have:=List.range'_append (s:=0) (m:=i) (n:=n - i) (step:=1)
   simp only[Nat.one_mul,Nat.zero_add]at this
   rw[this];congr 1;omega
  have hself:(listed.setIfInBounds i true).getD i true=true:=by
   rw[Array.getD_eq_getD_getElem?,Array.getElem?_setIfInBounds]
   simp[hsz,hi]
  have hoth:∀k,k≠i→(listed.setIfInBounds i true).getD k true=listed.getD k true:=by
   intro k hk
   rw[Array.getD_eq_getD_getElem?,Array.getD_eq_getD_getElem?,Array.getElem?_setIfInBounds_ne (fun e=>hk e.symm)]
  rw[e,List.filter_append,List.filter_cons,hself]
  simp only[Bool.not_true,bFt,if_false]
  congr 1
  .apply List.filter_congr
   intro k hk
   rw[hoth k (by have:=List.mem_range.1 hk;omega)]
  .apply List.filter_congr
   intro k hk
   rw[hoth k (by have:=List.mem_range'_1.1 hk;omega)]
 .intro p hp
  rw[List.mem_filter,List.mem_range]at hp
  exact⟨hp.1,by simpa using hp.2⟩
theorem zjf (i:LI):(zq i).erase=i.erase:=by
 obtain⟨d,k,g⟩:=i
 cases k with
 |pick c x y=>rfl
 |op k xs=>cases k<;>rfl
theorem zoN {p i:LI} {r r':List LI} (h:∀q∈r',q∈r) (ha:away p i r=true):away p i r'=true:=by
 simp only[away,bAt]at ha⊢
 refine⟨ha.1,?_⟩
 have h2:=ha.2
 split at h2
 .simp only[bAt]at h2⊢
  refine⟨h2.1,lAt.2 fun q hq=>?_⟩
  rcases lMc.1 hq with rfl|hq
  .exact lAt.1 h2.2 _ (by simp)
  .exact lAt.1 h2.2 q (List.mem_cons_of_mem _ (h q hq))
 .cases h2
theorem zl3 {p i:LI} {r r':List LI} (h:∀q∈r',q∈r) (ha:zez p i r=true):zez p i r'=true:=by
 simp only[zez,bAt]at ha⊢
 refine⟨ha.1,ha.2.1,?_⟩
 have h2:=ha.2.2
 split at h2
 .simp only[bAt]at h2⊢
  refine⟨h2.1,lAt.2 fun q hq=>?_⟩
  rcases lMc.1 hq with rfl|hq
  .exact lAt.1 h2.2 _ (by simp)
  .exact lAt.1 h2.2 q (List.mem_cons_of_mem _ (h q hq))
 .cases h2
theorem zl2 {p i:LI} {r r':List LI} (h:∀q∈r',q∈r) (ha:zey p i r=true):zey p i r'=true:=by
 simp only[zey,bAt]at ha⊢
 refine⟨ha.1,?_⟩
 have h2:=ha.2
 split at h2
 .rename_i a hr
  simp only[Bool.or_eq_true,bAt]at h2⊢
  rcases h2 with h2|h2
  .exact .inl h2
  .refine .inr ⟨h2.1,?_⟩
   rw[lAt]at h2⊢
   intro q hq
   rcases lMc.1 hq with rfl|hq
   .exact h2.2 _ (by simp)
   .exact h2.2 q (by simp[h q hq])
 .cases h2
theorem zhS {lis:List LI} {i:Nat} {li:LI}:∀(pre:List Nat),pre.Pairwise (·<·)→(∀p∈pre,p<i)→(∀p∈pre,∀lp,lis[p]?=some lp→zfK lp (zq li)=true∨soft lp (zq li)=true∨away lp li ((lis.take i).drop (p+1))=true∨back lp (zq li)=true∨zfL lp (zq li)=true∨zez lp li ((lis.take i).drop (p+1))=true∨zey lp li ((lis.take i).drop (p+1))=true∨zhl lp (zq li)=true)→zoW li (pre.filterMap fun k=>lis[k]?)
 | [],_,_,_=>trivial
 |p::r,hs,hlt,h=>by
  have hs':=List.pairwise_cons.1 hs
  have ih:=zhS r hs'.2 (fun q hq=>hlt q (by simp[hq])) (fun q hq=>h q (by simp[hq]))
  rw[List.filterMap_cons]
  cases hp:lis[p]? with
  |none=>exact ih
  |some lp=>
   refine⟨?_,ih⟩
   rcases h p (by simp) lp hp with h1|h1|h1|h1|h1|h1|h1|h1
   rotate_right
   .exact .inr (.inr (.inr (.inr (.inr (.inr (.inr h1))))))
   rotate_right
   .refine .inr (.inr (.inr (.inr (.inr (.inr (.inl (zl2 (fun q hq=>?_) h1)))))))
    obtain⟨k,hk,hq⟩:=List.mem_filterMap.1 hq
    have h1:=hs'.1 k hk
    have h2:=hlt k (by simp[hk])
    refine lMg (i:=k - (p+1)) ?_
    rw[List.getElem?_drop,List.getElem?_take,if_pos (by omega),show p+1+(k - (p+1))=k by omega]
    exact hq
   .exact .inl h1
   .exact .inr (.inl h1)
   rotate_left
   .exact .inr (.inr (.inr (.inl h1)))
   .exact .inr (.inr (.inr (.inr (.inl h1))))
   rotate_left
   .refine .inr (.inr (.inl (zoN (fun q hq=>?_) h1)))
    obtain⟨k,hk,hq⟩:=List.mem_filterMap.1 hq
    have h1:=hs'.1 k hk
    have h2:=hlt k (by simp[hk])
    refine lMg (i:=k - (p+1)) ?_
    rw[List.getElem?_drop,List.getElem?_take,if_pos (by omega),show p+1+(k - (p+1))=k by omega]
    exact hq
   .refine .inr (.inr (.inr (.inr (.inr (.inl (zl3 (fun q hq=>?_) h1))))))
    obtain⟨k,hk,hq⟩:=List.mem_filterMap.1 hq
    have h1:=hs'.1 k hk
    have h2:=hlt k (by simp[hk])
    refine lMg (i:=k - (p+1)) ?_
    rw[List.getElem?_drop,List.getElem?_take,if_pos (by omega),show p+1+(k - (p+1))=k by omega]
    exact hq
def zjU (ops:Array Oper) (listed:Array Bool):Prop:=∀k o,ops[k]?=some o→listed.getD k false=true→∀e∈o.after,Region.binds .any e=true→listed.getD e.on false=true
theorem zl5 {ops:Array Oper} {listed:Array Bool} (hcl:zjU ops listed) {p:Nat}:∀(n k:Nat) (o:Oper),ops[k]?=some o→(∀e∈o.after,Region.binds .any e=true→listed.getD e.on false=true)→anc ops n k p=true→listed.getD p false=true:=by
 intro n
 induction n with
 |zero=>intro k o _ _ h;simp[anc]at h
 |succ n ih=>
  intro k o ho hk h
  simp only[anc,ho]at h
  obtain⟨e,he,h1⟩:=List.any_eq_true.1 h
  simp only[bAt,Bool.or_eq_true,beq_iff_eq]at h1
  obtain⟨hb,h2⟩:=h1
  have hl:=hk e (by simpa using he) hb
  rcases h2 with h2|h2
  .rw[←h2];exact hl
  .cases hq:ops[e.on]? with
   |none=>
    cases n with
    |zero=>simp[anc]at h2
    |succ n=>simp[anc,hq]at h2
   |some o'=>exact ih e.on o' hq (hcl e.on o' hq hl) h2
theorem zp5 {w:World} {M:Mut} {R:Res} {H:Heap} (hw:WR C K w M R H) {y:AV} {u:Value} (h:VR w M R y u):zcY H y:=by
 have key:∀id ver g,R id ver=some g→∃B,H[id]?=some B∧ver≤B.ver∧B.isHole=false:=by
  intro id ver g hg
  have hlt:=hw.heap.dom id ver g hg
  have hb:=hw.heap.blk id _ (gEg hlt)
  have hnh:(H[id]).isHole=false:=by
   generalize H[id]=B at hb
   cases B with
   |hole t=>have h1:R id ver=none:=hb ver;rw[h1]at hg;cases hg
   |_=>rfl
  refine⟨H[id],gEg hlt,?_,hnh⟩
  rcases Nat.lt_or_ge (H[id]).ver ver with h1|h1
  .exfalso
   generalize H[id]=B at hb h1
   have hn:R id ver=none:=by
    cases B with
    |arr v sz sh es=>obtain⟨_,_,_,_,h2,_⟩:=hb;exact h2 ver h1
    |loop st pend F ps ac bd=>obtain⟨_,_,_,h2,_⟩:=hb;exact h2 ver (by have:(0:Nat)<ver:=h1;exact this)
    |mp es=>obtain⟨_,_,_,_,h2,_⟩:=hb;exact h2 ver (by have:(0:Nat)<ver:=h1;exact this)
    |hole t=>exact hb ver
    |sit s p=>obtain⟨_,_,h2,_⟩:=hb;exact h2 ver (by have:(0:Nat)<ver:=h1;exact this)
    |dead v=>obtain⟨_,_,_,_,_,h2,_⟩:=hb;exact h2 ver h1
   rw[hn]at hg;cases hg
  .exact h1
 cases h<;>simp only[zcY]
 .exact key _ _ _ (by assumption)
 .exact key _ _ _ (by assumption)
theorem zoS {Rr:Rec} (hR:zbV P C Rr) (hP:zbz P C Rr) {N n:Nat} {ops:Array Oper} {lis:List LI} (hli:zcb P N ops ops.toList=some (lis.map LI.erase)) (hd:zqY ops lis=true) {Q:Exit→Act→World→Prop} {E':Env} {H':Heap}:
  ∀(fuel:Nat) (listed:Array Bool) (E:Env) (H:Heap) (w:World) (M:Mut) (R:Res) (a:Act),zjU ops listed→listed.size=ops.size→(left ops.size listed).length=fuel→frun Rr ((left ops.size listed).filterMap fun k=>lis[k]?) E H=some (E',H')→
   WR C K w M R H→EnvR w M R E a→a.tmps.size=N→zgr C K w M R E' H' a Q→wpAnyIn (Wf ρ) n P .any ops Q fuel listed a w:=by
 obtain⟨hlen,hget⟩:=zdX hli
 have hlen':lis.length=ops.size:=by simpa using hlen
 intro fuel
 induction fuel with
 |zero=>
  intro listed E H w M R a hcl hsz hfuel hf hw he hN hQ
  have hnil:left ops.size listed=[]:=List.eq_nil_of_length_eq_zero hfuel
  rw[hnil]at hf
  simp only[List.filterMap_nil,frun,oSi,pMi]at hf
  obtain⟨rfl,rfl⟩:=hf
  refine⟨?_,hQ w M R a hw (Evol.refl _ _ _) he rfl rfl⟩
  cases hr:Region.ready .any ops listed with
  |nil=>rfl
  |cons i r=>
   exfalso
   obtain⟨h1,o,h2,h3⟩:=mem_ready.1 (show i∈Region.ready .any ops listed by rw[hr];simp)
   have:i∈left ops.size listed:=by
    unfold left
    rw[List.mem_filter,List.mem_range]
    exact⟨(aEs.1 h2).1,by simpa using h1⟩
   rw[hnil]at this;cases this
 |succ fuel ih=>
  intro listed E H w M R a hcl hsz hfuel hf hw he hN hQ
  have hdk:∀(k:Nat) (o:Oper) (li:LI),ops[k]?=some o→lis[k]?=some li→(∀e∈o.after,Region.binds .any e=true→e.on<k)∧∀(p:Nat) (lp:LI),p<k→lis[p]?=some lp→(∃e∈o.after,Region.binds .any e=true∧e.on=p)∨(zfK lp (zq li)=true∨soft lp (zq li)=true∨away lp li ((lis.take k).drop (p+1))=true∨back lp (zq li)=true∨zfL lp (zq li)=true∨zez lp li ((lis.take k).drop (p+1))=true∨zey lp li ((lis.take k).drop (p+1))=true∨zhl lp (zq li)=true)∨anc ops ops.size k p=true:=by
   intro k o li ho hl
   have hk:k<ops.size:=(aEs.1 ho).1
   have:=lAt.1 hd k (List.mem_range.2 hk)
   rw[ho,hl]at this
   simp only[bAt]at this
   obtain⟨t1,t2⟩:=this
   refine⟨?_,?_⟩
   .intro e hee hb
    have:=lAt.1 t1 e (by simpa using hee)
    simpa[hb]using this
   .intro p lp hp hlp
    have:=lAt.1 t2 p (List.mem_range.2 hp)
    rw[hlp]at this
    simp only[Bool.or_eq_true,List.any_eq_true,bAt,beq_iff_eq]at this
    rcases this with (⟨e,h1,h2,h3⟩|h)|h
    .exact .inl ⟨e,by simpa using h1,h2,h3⟩
    .exact .inr (.inl (by rcases h with ((((((h|h)|h)|h)|h)|h)|h)|h;exact .inl h;exact .inr (.inl h);exact .inr (.inr (.inl h));exact .inr (.inr (.inr (.inl h)));exact .inr (.inr (.inr (.inr (.inl h))));exact .inr (.inr (.inr (.inr (.inr (.inl h)))));exact .inr (.inr (.inr (.inr (.inr (.inr (.inl h))))));exact .inr (.inr (.inr (.inr (.inr (.inr (.inr h))))))))
    .exact .inr (.inr h)
  refine⟨?_,?_⟩
  .intro hr
   exfalso
   cases hl:left ops.size listed with
   |nil=>rw[hl]at hfuel;simp at hfuel
   |cons k rest=>
    have hk:k∈left ops.size listed:=by rw[hl];simp
    unfold left at hk
    rw[List.mem_filter,List.mem_range]at hk
    have hkl:listed.getD k true=false:=by simpa using hk.2
    have ho:=Array.getElem?_eq_getElem hk.1
    have hli':lis[k]?=some lis[k]:=gEg (by omega)
    have hready:k∈Region.ready .any ops listed:=by
     refine mem_ready.2 ⟨hkl,_,ho,?_⟩
     intro e hee hb
     have hlt:=(hdk k _ _ ho hli').1 e hee hb
     obtain⟨pre,post,e1,e2,e3⟩:=zf8 hk.1 hkl hsz
     have hpre:pre=[]:=by
      cases pre with
      |nil=>rfl
      |cons q pre=>
       rw[hl]at e1
       simp only[List.cons_append,List.cons.injEq]at e1
       have:=(e3 q (by simp)).1
       omega
     cases hlis:listed.getD e.on false with
     |true=>rfl
     |false=>
      exfalso
      have hlt2:e.on<listed.size:=by omega
      have hf2:listed.getD e.on true=false:=by
       rw[Array.getD_eq_getD_getElem?]at hlis⊢
       rw[Array.getElem?_eq_getElem hlt2]at hlis⊢
       simpa using hlis
      have hmem:e.on∈left ops.size listed:=by
       unfold left
       rw[List.mem_filter,List.mem_range]
       exact⟨by omega,by simpa using hf2⟩
      rw[e1,hpre]at hmem
      simp only[List.nil_append,lMc]at hmem
      rcases hmem with hm|hm
      .omega
      .
       have:∀q∈post,k<q:=by
        intro q hq
        have hs:(left ops.size listed).Pairwise (·<·):=by
         unfold left
         exact List.Pairwise.filter _ List.pairwise_lt_range
        rw[e1,hpre]at hs
        exact (List.pairwise_cons.1 hs).1 q hq
       have:=this _ hm
       omega
    rw[hr]at hready;cases hready
  .intro i hi
   obtain⟨h1,o,h2,h3⟩:=mem_ready.1 hi
   have hilt:i<ops.size:=(aEs.1 h2).1
   obtain⟨pre,post,e1,e2,e3⟩:=zf8 hilt h1 hsz
   have hli':lis[i]?=some lis[i]:=gEg (by omega)
   rw[e1]at hf
   simp only[List.filterMap_append,List.filterMap_cons,hli']at hf
   have hsorted:pre.Pairwise (·<·):=by
    have hs:(left ops.size listed).Pairwise (·<·):=by
     unfold left
     exact List.Pairwise.filter _ List.pairwise_lt_range
    rw[e1]at hs
    exact (List.pairwise_append.1 hs).1
   obtain⟨E1,H1,f1,f2,_⟩:=zr6 (pre.filterMap fun k=>lis[k]?) (post.filterMap fun k=>lis[k]?) (zhS pre hsorted (fun p hp=>(e3 p hp).1) (fun p hp lp hlp=>by
    obtain⟨q1,q2⟩:=e3 p hp
    have absurdL:listed.getD p false=true→False:=by
     intro this
     rw[Array.getD_eq_getD_getElem?]at this q2
     cases hq:listed[p]? with
     |none=>rw[hq]at this;simp at this
     |some b=>rw[hq]at this q2;simp at this q2;rw[this]at q2;cases q2
    rcases (hdk i o _ h2 hli').2 p lp q1 hlp with⟨e,hee,hb,hon⟩|h|h
    rotate_left 2
    .exact (absurdL (zl5 hcl _ i o h2 h3 h)).elim
    .exfalso
     have:=h3 e hee hb
     rw[hon]at this
     rw[Array.getD_eq_getD_getElem?]at this q2
     cases hq:listed[p]? with
     |none=>rw[hq]at this;simp at this
     |some b=>rw[hq]at this q2;simp at this q2;rw[this]at q2;cases q2
    .exact h)) (fun _ a _=>zp5 hw (he a)) hf
   unfold wpOpIn
   rw[h2]
   have hlo:zjl P N ops o=some (zq lis[i]).erase:=by
    rw[zjf]
    refine hget i o _ (by rw[Array.getElem?_toList];exact h2) ?_
    rw[gEm,hli'];rfl
   refine zfT hR hP hlo f1 hw he hN ?_
   intro w' M' R' a' k1 k2 k3 k4 k5
   have hcl':zjU ops (listed.setIfInBounds i true):=by
    intro k ok hok hkl e hee hb
    have grow:listed.getD e.on false=true→(listed.setIfInBounds i true).getD e.on false=true:=by
     intro h
     rw[Array.getD_eq_getD_getElem?]at h⊢
     by_cases he2:i=e.on
     .subst he2
      rw[Array.getElem?_setIfInBounds_self]
      split
      .rfl
      .rename_i hn;rw[Array.getElem?_eq_none (by omega)]at h;simp at h
     .rw[Array.getElem?_setIfInBounds_ne he2];exact h
    by_cases hik:i=k
    .subst hik
     rw[h2]at hok;cases hok
     exact grow (h3 e hee hb)
    .refine grow (hcl k ok hok ?_ e hee hb)
     rw[Array.getD_eq_getD_getElem?]at hkl⊢
     rw[Array.getElem?_setIfInBounds_ne hik]at hkl
     exact hkl
   refine ih _ E1 H1 w' M' R' a' hcl' (by simpa using hsz) ?_ ?_ k1 k3 k4 (hQ.step k2 (by rw[k4,hN]) k5)
   .rw[e2]
    rw[e1]at hfuel
    simp at hfuel⊢;omega
   .rw[e2,List.filterMap_append];exact f2
theorem WR.drew {w:World} {M:Mut} {R:Res} {H:Heap} (h:WR C K w M R H):WR C K {w with drawn:=w.drawn+1} M R H∧Evol R M w R M {w with drawn:=w.drawn+1}:=h.same rfl rfl rfl rfl
theorem zhH {Rr:Rec} (hR:zbV P C Rr) (hP:zbz P C Rr) (hm:P.follows .mixedOrders=true) {N n id:Nat} {draw:Bool} {ops:Array Oper} {lis:List LI} (hli:zcb P N ops ops.toList=some (lis.map LI.erase)) (hd:draw=true→zqY ops lis=true)
  {Q:Exit→Act→World→Prop} {E E':Env} {H H':Heap} {w:World} {M:Mut} {R:Res} {a:Act} (hf:frun Rr lis E H=some (E',H')) (hw:WR C K w M R H) (he:EnvR w M R E a) (hN:a.tmps.size=N) (hQ:zgr C K w M R E' H' a Q):
  (Code.region id ops draw).wpIn (Wf ρ) n P Q a w:=by
 cases draw with
 |false=>
  refine wpIn_region ?_
  have:=zfR (ρ:=ρ) (n:=n) hR hP ops.toList lis 0 E H w M R a (fun j=>by simp) hli hf hw he hN hQ
  rw[List.range_eq_range']
  simpa using this
 |true=>
  refine wpIn_region_any hm ?_
  obtain⟨d1,d2⟩:=hw.drew
  have hlen':lis.length=ops.size:=by simpa using (zdX hli).1
  have hleft:left ops.size (Array.replicate ops.size false)=List.range ops.size:=by
   unfold left
   rw[List.filter_eq_self]
   intro k hk
   have:=List.mem_range.1 hk
   simp[Array.getD,this]
  have hall:(List.range ops.size).filterMap (fun k=>lis[k]?)=lis:=by
   rw[←hlen']
   clear hli hf hd hleft hlen'
   induction lis with
   |nil=>rfl
   |cons x l ih=>
    rw[lLc,List.range_succ_eq_map,List.filterMap_cons]
    simp only[gEz,List.filterMap_map]
    congr 1
  exact zoS (ρ:=ρ) (n:=n) hR hP hli (hd rfl) ops.size _ E H _ M R a (by intro k o _ hk;simp[Array.getD]at hk) (by simp) (by rw[hleft];simp) (by rw[hleft,hall];exact hf) d1 (he.evol d2) hN (hQ.step d2 rfl rfl)
end region
end Go.Proofs.YtbddckhdbnmamaaGreat
