/-
  Regions: in the order of the text, and in whatever order (conditions: none).
-/
import Derived.Test.YtbddckhdbnmamaaGreatSounds
namespace Go.Proofs.YtbddckhdbnmamaaGreat
open Go Go.RowKit
set_option linter.unusedVariables false
set_option linter.unusedSimpArgs false
def kH:LK→Nat
 | .pick _ _ _=>0
 | .op k _=>match k with
  | .load imm _ _=>if imm then 0 else 1
  | .idxa imm _=>if imm then 0 else 1
  | .slc imm _ _ _ _=>if imm then 0 else 1
  | .bsl imm _ _ _ _=>if imm then 0 else 2
  | .call _=>2
  | .callv=>2
  | .pubcall _=>2
  | .fcall _=>1
  | .box _=>2
  | .store _=>2
  | .storeA _=>2
  | .appA _=>2
  | .app _=>2
  | .mksl _ _=>2
  | .mkslH _ _ _=>2
  | .clr _ _=>2
  | .cpy=>2
  | .mkmap=>2
  | .mput _=>2
  | .mget _ _ _=>1
  | .rngs=>2
  | .nxt=>2
  | .boxH _ _=>2
  | .callA _ _=>2
  |_=>0
def zcD:Src→List Nat| .t i=> [i]| .c _=> []
def zfn:LK→List Nat
 | .op _ xs=>xs.flatMap zcD
 | .pick c x y=>c::(zcD x++zcD y)
def zX (i:LI):List Nat:=(match i.g with|some (t,_)=> [t]|none=> [])++zfn i.k
def zfX (i j:LI):Bool:=
 i.dst.all (fun d=> !(zX j).contains d&& !(j.dst.toList).contains d)&&j.dst.all (fun d=> !(zX i).contains d)&&(kH i.k==0||kH j.k==0||(decide (kH i.k≤1)&&decide (kH j.k≤1)))
/-! ### Operations that can be told apart by where they go -/
def zay:LK→Bool
 | .op (.box _) _=>true
 | .op (.bsl false _ _ _ _) _=>true
 | .op .mkmap _=>true
 | .op (.mksl _ _) _=>true
 |_=>false
def znW:LK→Bool
 | .op (.store _) _=>true
 | .op (.pubcall _) _=>true
 | .op (.load _ _ _) _=>true
 | .op (.idxa _ _) _=>true
 | .op (.slc _ _ _ _ _) _=>true
 | .op (.mget _ _ _) _=>true
 |_=>false
def z8:LK→Option Nat
 | .op (.load _ _ _) (.t a::_)=>some a
 | .op (.idxa _ _) (.t a::_)=>some a
 | .op (.slc _ _ _ _ _) (.t a::_)=>some a
 |_=>none
def zb0:LK→List Nat
 | .op k (_::_::ax)=>if (zbE k).isSome then ax.flatMap zcD else []
 |_=> []
def dstB (i j:LI):Bool:=i.dst.all (fun d=> !(zX j).contains d&& !(j.dst.toList).contains d)&&j.dst.all (fun d=> !(zX i).contains d)
def znk:LK→LK| .op (.storeA n) xs=> .op (.store n) (xs.take 2)| .op (.appA n) xs=> .op (.app n) (xs.take 2)| .op (.callA f n) xs=> .op (.call f) (xs.take n)|k=>k
theorem zbh {k k0:OpK} {xs:List Src} (h:zbE k=some k0):znk (.op k xs)= .op k0 (xs.take 2):=by
 cases k<;>simp only[zbE,reduceCtorEq,oSi]at h<;>subst h<;>rfl
theorem zjz {k:OpK} {xs:List Src} (h:zbE k=none) (hc:∀f n,k≠.callA f n):znk (.op k xs)= .op k xs:=by
 cases k<;>first|rfl|exact absurd rfl (hc _ _)|(cases h;done)
def zx (i:LI):LI:=⟨i.dst,znk i.k,i.g⟩
def soft (p i:LI):Bool:=dstB p i&&(zay i.k&&znW p.k)
def away (p i:LI) (r:List LI):Bool:=dstB p (zx i)&&(match z8 p.k with|some a=>(zb0 i.k).contains a&&(p::r).all (fun q=>decide (q.dst≠some a))|none=>false)
def storeAt:LK→Option Nat| .op (.store _) [.t a,_]=>some a|_=>none
def znV:LK→Bool| .op (.storeA _) _=>true|_=>false
def zeP (p i:LI) (r:List LI):Bool:=dstB p (zx i)&&(znV i.k&&(match storeAt p.k with|some a=>(zb0 i.k).contains a&&(p::r).all (fun q=>decide (q.dst≠some a))|none=>false))
def zbd:LK→Option Nat| .op (.mkslH t _ _) _=>some t| .op (.boxH t _) _=>some t|_=>none
def zu1:LK→Bool| .op (.app _) _=>true| .op (.appA _) _=>true|_=>false
def back (p i:LI):Bool:=dstB p i&&((zu1 p.k||zay p.k||(zbd p.k).isSome)&&((z8 i.k).isSome&&decide (kH i.k=1)))
def zfZ (p i:LI):Bool:=dstB p i&&(match zbd p.k,zbd i.k with|some a,some b=>decide (a≠b)|some _,none=>zay i.k|none,some _=>zay p.k||(z8 p.k).isSome|none,none=>false)
def zcg:LK→List Nat| .op (.callA _ n) xs=>(xs.drop n).flatMap zcD|_=> []
def isN:LK→Bool| .op (.callA _ n) _=>decide (1000≤n)|_=>false
def zeO (p i:LI) (r:List LI):Bool:=dstB p (zx i)&&(match z8 p.k with|some a=>isN i.k||((zcg i.k).contains a&&(p::r).all (fun q=>decide (q.dst≠some a)))|none=>false)
def zhD (p i:LI):Bool:=dstB p i&&(match z8 i.k with|some a=>decide (kH i.k=1)&&(isN p.k||(zcg p.k).contains a)|none=>false)
def anc (ops:Array Oper):Nat→Nat→Nat→Bool
 |0,_,_=>false
 |n+1,k,p=>match ops[k]? with|some o=>o.after.toList.any (fun e=>Region.binds .any e&&(e.on==p||anc ops n e.on p))|none=>false
def zr4 (ops:Array Oper) (lis:List LI):Bool:=
 (List.range ops.size).all fun k=>match ops[k]?,lis[k]? with
  |some o,some li=>(o.after.toList.all fun e=> !Region.binds .any e||decide (e.on<k))&&
    ((List.range k).all fun p=>(o.after.toList.any fun e=>Region.binds .any e&&e.on==p)||(match lis[p]? with|some lp=>zfX lp (zx li)||soft lp (zx li)||away lp li ((lis.take k).drop (p+1))||back lp (zx li)||zfZ lp (zx li)||zeP lp li ((lis.take k).drop (p+1))||zeO lp li ((lis.take k).drop (p+1))||zhD lp (zx li)|none=>false)||anc ops ops.size k p)
  |_,_=>false
section region
variable {P:Program} {C:zbc} {K:Ctx} {ρ:Option Nat}
theorem zf4 {E E':Env}:∀{xs:List Src},(∀s∈xs.flatMap zcD,E' s=E s)→vals E' xs=vals E xs
 | [],_=>rfl
 |x::xs,h=>by
  have h1:evS E' x=evS E x:=by
   cases x with
   |t i=>exact h i (by simp[zcD])
   |c v=>rfl
  have h2:vals E' xs=vals E xs:=zf4 (fun s hs=>h s (by simp only[List.flatMap_cons,List.mem_append];exact .inr hs))
  simp only[vals,h1,h2]
theorem zy {R:Rec} {i:LI} {E E1:Env} {H H1:Heap} (h:zt R i E H=some (E1,H1)):
  ∃v,E1=putE E i.dst v∧∀E',(∀s∈zX i,E' s=E s)→zt R i E' H=some (putE E' i.dst v,H1):=by
 obtain⟨d,k,g⟩:=i
 have hg:∀E',(∀s∈zX ⟨d,k,g⟩,E' s=E s)→gval E' g=gval E g:=by
  intro E' hE
  refine zbi (fun t want e=>hE t ?_)
  simp[zX,e]
 unfold zt at h
 simp only at h
 split at h
 .rename_i hgt
  cases k with
  |op k xs=>
   simp only[zbv]at h
   split at h
   .rename_i vs hvs
    cases hx:exec R H k vs with
    |none=>simp[hx]at h
    |some p=>
     simp only[hx,oMs,oSi,pMi]at h
     obtain⟨rfl,rfl⟩:=h
     refine⟨p.1,rfl,?_⟩
     intro E' hE
     have hv:vals E' xs=some vs:=by
      rw[zf4 (E:=E) (fun s hs=>hE s (by simp only[zX,zfn,List.mem_append];exact .inr hs))];exact hvs
     simp only[zt,hg E' hE,hgt,zbv,hv,hx,oMs]
   .cases h
  |pick c x y=>
   simp only[zbv]at h
   split at h
   .rename_i t hEc
    cases hok:okO (evS E (if t then x else y)) with
    |none=>simp[hok]at h
    |some v=>
     simp only[hok,oMs,oSi,pMi]at h
     obtain⟨rfl,rfl⟩:=h
     refine⟨v,rfl,?_⟩
     intro E' hE
     have hc:E' c= .bool t:=by rw[hE c (by simp[zX,zfn])];exact hEc
     have hs:evS E' (if t then x else y)=evS E (if t then x else y):=by
      cases t
      .simp only[bFt,if_false]
       cases y with
       |t i=>exact hE i (by simp[zX,zfn,zcD])
       |c v=>rfl
      .simp only[if_true]
       cases x with
       |t i=>exact hE i (by simp[zX,zfn,zcD])
       |c v=>rfl
     simp only[zt,hg E' hE,hgt,zbv,hc,hs,hok,oMs]
   .cases h
 .rename_i hgf
  cases h
  refine⟨.und,rfl,?_⟩
  intro E' hE
  simp only[zt,hg E' hE,hgf]
 .cases h
theorem zeY {R:Rec} {k:OpK} {xs:List Src} {vs:List AV} {H:Heap} {r:AV×Heap} (hk:kH (.op k xs)≤1) (h:exec R H k vs=some r):r.2=H:=by
 obtain⟨v,H1⟩:=r
 by_cases hp:(∃f,k= .pcall f)∨∃f,k= .fcall f
 .rcases hp with⟨f,rfl⟩|⟨f,rfl⟩
  .simp only[exec]at h
   cases hq:R.pure f vs with
   |none=>simp[hq]at h
   |some x=>simp only[hq,oMs,oSi,pMi]at h;exact h.2.symm
  .simp only[exec,oBs]at h
   obtain⟨as',_,x,_,h⟩:=h
   split at h
   .cases h;rfl
   .cases h
 .by_cases hq:k.quiet=true
  .have hx:zaF H k vs=some (v,H1):=by cases k<;>first|exact h|cases hq
   exact (zC hq hx).2.2
  .cases k<;>first|exact absurd rfl hq|(simp[kH]at hk;done)|exact absurd (.inl ⟨_,rfl⟩) hp|exact absurd (.inr ⟨_,rfl⟩) hp|skip
   rename_i imm sz n z ps
   cases imm with
   |false=>simp[kH]at hk
   |true=>
    have hx:ex H (.bsl true sz n z ps) vs=some (v,H1):=zau rfl h
    simp only[ex]at hx
    split at hx
    .simp only[if_true]at hx
     cases hb:bslE sz (List.replicate n z) ps vs with
     |none=>simp[hb]at hx
     |some es=>
      simp only[hb,Option.bind_some]at hx
      split at hx
      .cases hx;rfl
      .cases hx
    .cases hx
theorem zoK {R:Rec} {k:OpK} {xs:List Src} {vs:List AV} {H:Heap} {r:AV×Heap} (hk:kH (.op k xs)=0) (h:exec R H k vs=some r) (H2:Heap):exec R H2 k vs=some (r.1,H2):=by
 obtain⟨v,H1⟩:=r
 by_cases hp:∃f,k= .pcall f
 .obtain⟨f,rfl⟩:=hp
  simp only[exec]at h⊢
  cases hq:R.pure f vs with
  |none=>simp[hq]at h
  |some x=>simp only[hq,oMs,oSi,pMi]at h⊢;exact⟨h.1,trivial⟩
 .by_cases hq:k.quiet=true
  .have hx:zaF H k vs=some (v,H1):=by cases k<;>first|exact h|cases hq
   obtain⟨e1,e2,e3⟩:=zC hq hx
   have e4:qx H2 k vs=v:=by
    have hnb:∀(imm:Bool) (x:AV) (y:AV),(if imm&& !x.imm then AV.bad else y)=v→imm=true→x.imm=true∧y=v:=by
     intro imm x y hh hi
     subst hi
     cases hxi:x.imm with
     |false=>simp[hxi]at hh;exact absurd hh.symm e2
     |true=>simp[hxi]at hh;exact⟨rfl,hh⟩
    cases k with
    |load imm g n=>
     have himm:imm=true:=by cases imm<;>simp[kH]at hk⊢
     match vs,e1 with
     | [x],e1=>
      obtain⟨h1,h2⟩:=hnb _ _ _ e1 himm
      simp only[qx,h1,Bool.not_true,Bool.and_false,bFt,if_false]
      cases x<;>first|exact h2|cases h1
     | [],e1=>exact e1
     |_::_::_,e1=>exact e1
    |idxa imm sz=>
     have himm:imm=true:=by cases imm<;>simp[kH]at hk⊢
     match vs,e1 with
     | [x,y],e1=>
      obtain⟨h1,h2⟩:=hnb _ _ _ e1 himm
      simp only[qx,h1,Bool.not_true,Bool.and_false,bFt,if_false]
      cases x<;>first|(cases y<;>exact h2)|cases h1
     | [],e1=>exact e1
     | [_],e1=>exact e1
     |_::_::_::_,e1=>exact e1
    |slc imm str sz lo hi=>
     have himm:imm=true:=by cases imm<;>simp[kH]at hk⊢
     match vs,e1 with
     |x::bs,e1=>
      obtain⟨h1,h2⟩:=hnb _ _ _ e1 himm
      simp only[qx,h1,Bool.not_true,Bool.and_false,bFt,if_false]
      cases x<;>first|(cases str<;>exact h2)|cases h1
     | [],e1=>exact e1
    |mget q o z=>simp[kH]at hk
    |_=>rcases vs with _|⟨x,_|⟨y,_|⟨z,_|⟨u,r⟩⟩⟩⟩<;>exact e1
   have hx2:zaF H2 k vs=some (v,H2):=zdd hq e4 e2
   cases k<;>first|exact hx2|cases hq
  .cases k<;>first|exact absurd rfl hq|(simp[kH]at hk;done)|exact absurd ⟨_,rfl⟩ hp|skip
   rename_i imm sz n z ps
   cases imm with
   |false=>simp[kH]at hk
   |true=>
    have hx:ex H (.bsl true sz n z ps) vs=some (v,H1):=zau rfl h
    show zaF H2 (.bsl true sz n z ps) vs=_
    unfold zaF
    rw[if_neg (by simp[OpK.quiet])]
    simp only[ex]at hx⊢
    split at hx
    .rename_i hc
     rw[if_pos hc]
     simp only[if_true]at hx⊢
     cases hb:bslE sz (List.replicate n z) ps vs with
     |none=>simp[hb]at hx
     |some es=>
      simp only[hb,Option.bind_some]at hx⊢
      split at hx
      .rename_i hs;rw[if_pos hs];cases hx;rfl
      .cases hx
    .cases hx
theorem zaS {R:Rec} {i:LI} {E E1:Env} {H H1:Heap} (hk:kH i.k≤1) (h:zt R i E H=some (E1,H1)):H1=H:=by
 obtain⟨d,k,g⟩:=i
 unfold zt at h
 simp only at h
 split at h
 .cases k with
  |op k xs=>
   simp only[zbv]at h
   split at h
   .rename_i vs hvs
    cases hx:exec R H k vs with
    |none=>simp[hx]at h
    |some p=>
     simp only[hx,oMs,oSi,pMi]at h
     rw[←h.2];exact zeY hk hx
   .cases h
  |pick c x y=>
   simp only[zbv]at h
   split at h
   .rename_i t hEc
    cases hok:okO (evS E (if t then x else y)) with
    |none=>simp[hok]at h
    |some v=>simp only[hok,oMs,oSi,pMi]at h;exact h.2.symm
   .cases h
 .cases h;rfl
 .cases h
theorem zgu {R:Rec} {i:LI} {E E1:Env} {H H1:Heap} (hk:kH i.k=0) (h:zt R i E H=some (E1,H1)) (H2:Heap):zt R i E H2=some (E1,H2):=by
 obtain⟨d,k,g⟩:=i
 unfold zt at h⊢
 simp only at h⊢
 split at h
 .cases k with
  |op k xs=>
   simp only[zbv]at h⊢
   split at h
   .rename_i vs hvs
    cases hx:exec R H k vs with
    |none=>simp[hx]at h
    |some p=>
     simp only[hx,oMs,oSi,pMi]at h
     rw[zoK hk hx H2]
     simp[h.1]
   .cases h
  |pick c x y=>
   simp only[zbv]at h⊢
   split at h
   .rename_i t hEc
    cases hok:okO (evS E (if t then x else y)) with
    |none=>simp[hok]at h
    |some v=>simp only[hok,oMs,oSi,pMi]at h⊢;exact⟨h.1,trivial⟩
   .cases h
 .cases h;rfl
 .cases h
theorem zaR {E:Env} {d d':Option Nat} {v v':AV} (h:∀x,d=some x→d'≠some x):putE (putE E d v) d' v'=putE (putE E d' v') d v:=by
 funext i
 simp only[zA]
 by_cases h1:d=some i
 .rw[if_neg (h i h1),if_pos h1,if_pos h1]
 .rw[if_neg h1,if_neg h1]
theorem zvO {R:Rec} {i j:LI} {E E1 E2:Env} {H H1 H2:Heap} (hi:zfX i j=true) (h1:zt R i E H=some (E1,H1)) (h2:zt R j E1 H1=some (E2,H2)):
  ∃E' H',zt R j E H=some (E',H')∧zt R i E' H'=some (E2,H2):=by
 simp only[zfX,bAt,Bool.or_eq_true,beq_iff_eq,dTe]at hi
 obtain⟨⟨s1,s2⟩,s3⟩:=hi
 obtain⟨vi,rfl,ci⟩:=zy h1
 obtain⟨vj,rfl,cj⟩:=zy h2
 have rj:∀s∈zX j,E s=(putE E i.dst vi) s:=by
  intro s hs
  rw[zA]
  split
  .rename_i hd
   rw[hd]at s1
   simp at s1
   exact absurd hs s1.1
  .rfl
 have ri:∀s∈zX i,(putE E j.dst vj) s=E s:=by
  intro s hs
  rw[zA]
  split
  .rename_i hd
   rw[hd]at s2
   simp at s2
   exact absurd hs s2
  .rfl
 have hne:∀x,i.dst=some x→j.dst≠some x:=by
  intro x hx hj
  rw[hx,hj]at s1
  simp at s1
 have hj0:=cj E rj
 have hi0:=ci _ ri
 rcases s3 with (s3|s3)|⟨s3,s4⟩
 .have e1:H1=H:=zaS (by omega) h1
  subst e1
  refine⟨_,_,hj0,?_⟩
  rw[zgu s3 hi0 H2,zaR (d:=j.dst) (fun x hx hi=>hne x hi hx)]
 .have e1:H2=H1:=zaS (by omega) h2
  subst e1
  refine⟨_,_,zgu s3 hj0 H,?_⟩
  rw[hi0,zaR (d:=j.dst) (fun x hx hi=>hne x hi hx)]
 .have e1:H1=H:=zaS s3 h1
  subst e1
  have e2:H2=H1:=zaS s4 h2
  subst e2
  refine⟨_,_,hj0,?_⟩
  rw[hi0,zaR (d:=j.dst) (fun x hx hi=>hne x hi hx)]
theorem zdc {R:Rec} {k:OpK} {xs:List Src} {vs:List AV} {v:AV} {H H2:Heap} (hk:zay (.op k xs)=true) (h:exec R H k vs=some (v,H2)):∃b,H2=H++[b]∧∀G:Heap,G.length=H.length→exec R G k vs=some (v,G++[b]):=by
 cases k<;>simp only[zay,bFt]at hk
 .rename_i sz
  have hx:ex H (.box sz) vs=some (v,H2):=h
  match vs,hx with
  | [],hx=>simp[ex]at hx
  | [x],hx=>
   simp only[ex]at hx
   split at hx
   .rename_i hc
    simp only[oSi,pMi]at hx
    obtain⟨rfl,rfl⟩:=hx
    refine⟨_,rfl,fun G hG=>?_⟩
    show ex G (.box sz) [x]=_
    simp only[ex,if_pos hc,hG]
   .cases hx
  |_::_::_,hx=>simp[ex]at hx
 .rename_i imm sz len z ps
  cases imm with
  |true=>simp at hk
  |false=>
   have hx:ex H (.bsl false sz len z ps) vs=some (v,H2):=h
   simp only[ex,bFt,if_false]at hx
   split at hx
   .rename_i hc
    simp only[oMe,pMi]at hx
    obtain⟨es,he,rfl,rfl⟩:=hx
    refine⟨_,rfl,fun G hG=>?_⟩
    show ex G (.bsl false sz len z ps) vs=_
    simp only[ex,bFt,if_false,if_pos hc,he,oMs,hG]
   .cases hx
 .rename_i sz z
  have hx:ex H (.mksl sz z) vs=some (v,H2):=h
  rcases vs with _|⟨a,_|⟨b,_|⟨c,r⟩⟩⟩<;>simp only[ex]at hx<;>try cases hx
  .cases a<;>cases b<;>simp only[ex]at hx<;>try cases hx
   rename_i k1 n1 k2 n2
   split at hx
   .rename_i hc
    simp only[oSi,pMi]at hx
    obtain⟨rfl,rfl⟩:=hx
    refine⟨_,rfl,fun G hG=>?_⟩
    show ex G (.mksl sz z) [.int k1 n1,.int k2 n2]=_
    simp only[ex,if_pos hc,hG]
   .cases hx
 .have hx:ex H .mkmap vs=some (v,H2):=h
  match vs,hx with
  | [],hx=>
   simp only[ex,oSi,pMi]at hx
   obtain⟨rfl,rfl⟩:=hx
   refine⟨_,rfl,fun G hG=>?_⟩
   show ex G .mkmap []=_
   simp only[ex,hG]
  |_::_,hx=>simp[ex]at hx
theorem zda {H:Heap} {id:Nat} {B:Blk} (h:H[id]?=some B) (b:Blk):(H++[b])[id]?=some B:=by
 rw[gEa (gEs.1 h).1];exact h
theorem zkt {H:Heap} {id:Nat} {B:Blk} (h:H[id]?=some B) (B' b:Blk):(H++[b]).set id B'=H.set id B'++[b]:=by
 rw[List.set_append_left _ _ (gEs.1 h).1]
theorem zlT {H:Heap} {g:Bool} {n:Nat} {x:AV} (b:Blk) (h:zcM H g n x≠.bad):zcM (H++[b]) g n x=zcM H g n x:=by
 cases x<;>try rfl
 rename_i id ver idx off
 simp only[zcM]at h⊢
 cases hb:H[id]? with
 |none=>simp[hb]at h
 |some B=>rw[zda hb]
theorem zlU {H:Heap} {sz:Nat} {x y:AV} (b:Blk) (h:zdI H sz x y≠.bad):zdI (H++[b]) sz x y=zdI H sz x y:=by
 cases x<;>cases y<;>try rfl
 rename_i id ver off len k n
 simp only[zdI]at h⊢
 cases hb:H[id]? with
 |none=>simp[hb]at h
 |some B=>rw[zda hb]
theorem zm6 {H:Heap} {str:Bool} {sz:Nat} {lo hi:Bool} {x:AV} {bs:List AV} (b:Blk) (h:slcV H str sz lo hi x bs≠.bad):slcV (H++[b]) str sz lo hi x bs=slcV H str sz lo hi x bs:=by
 cases str<;>cases x<;>try rfl
 rename_i id ver off len
 simp only[slcV]at h⊢
 cases hb:H[id]? with
 |none=>simp[hb]at h
 |some B=>rw[zda hb]
theorem zlR {H:Heap} {m:AV} {es:List (AV×AV)} (b:Blk) (h:zg5 H m=some es):zg5 (H++[b]) m=some es:=by
 cases m<;>simp only[zg5]at h⊢<;>try cases h
 .cases hb:H[‹Nat›]? with
  |none=>simp[hb]at h
  |some B=>rw[zda hb];rw[hb]at h;exact h
 .rfl
theorem zlP {H:Heap} {q:Nat} {ok:Bool} {z m k:AV} (b:Blk) (h:zg4 H q ok z m k≠.bad):zg4 (H++[b]) q ok z m k=zg4 H q ok z m k:=by
 unfold zg4 at h⊢
 cases hm:zg5 H m with
 |none=>simp[hm]at h
 |some es=>rw[zlR b hm]
theorem zcB {H:Heap} {x:AV} (b:Blk) (h:(pub1 H x).1.still=true):pub1 (H++[b]) x=((pub1 H x).1,(pub1 H x).2++[b]):=by
 cases x<;>try rfl
 rename_i id ver off len
 simp only[pub1]at h⊢
 cases hb:H[id]? with
 |none=>simp only[hb]at h;cases h
 |some B=>
  rw[zda hb]
  cases B with
  |arr v' s sh es=>
   simp only[hb]at h⊢
   split at h
   .rename_i hc;simp only[if_pos hc,zkt hb]
   .cases h
  |_=>simp only[hb]at h;cases h
theorem zgh:∀{xs:List AV} {H:Heap} (b:Blk),(zd9 H xs).1.all AV.still=true→zd9 (H++[b]) xs=((zd9 H xs).1,(zd9 H xs).2++[b])
 | [],H,b,_=>rfl
 |x::xs,H,b,h=>by
  simp only[zd9,List.all_cons,bAt]at h⊢
  rw[zcB b h.1]
  simp only
  rw[zgh b h.2]
theorem zh3 {H:Heap} {x:AV} (h:∀id ver off len,x≠.osl id ver off len):pub1 H x=(x,H):=by
 cases x<;>first|rfl|exact absurd rfl (h _ _ _ _)
theorem zni {H:Heap} {x:AV} (b:Blk) (h:(pubA H x).1.flat=true):pubA (H++[b]) x=((pubA H x).1,(pubA H x).2++[b]):=by
 by_cases ha:∃cs,x= .agg cs
 .obtain⟨cs,rfl⟩:=ha
  simp only[pubA]at h⊢
  rw[zgh b h]
 .have e:∀G,pubA G x=pub1 G x:=by intro G;cases x<;>first|rfl|exact absurd ⟨_,rfl⟩ ha
  rw[e]at h
  rw[e,e]
  by_cases ho:∃id ver off len,x= .osl id ver off len
  .refine zcB b ?_
   obtain⟨id,ver,off,len,rfl⟩:=ho
   simp only[pub1]at h⊢
   split at h
   .split at h
    .rename_i hc;simp only[if_pos hc];rfl
    .cases h
   .cases h
  .have hn:∀id ver off len,x≠.osl id ver off len:=fun a b c d e=>ho ⟨a,b,c,d,e⟩
   rw[zh3 hn,zh3 hn]
theorem zgi:∀{xs:List AV} {H:Heap} (b:Blk),(zbK H xs).1.all AV.flat=true→zbK (H++[b]) xs=((zbK H xs).1,(zbK H xs).2++[b])
 | [],H,b,_=>rfl
 |x::xs,H,b,h=>by
  simp only[zbK,List.all_cons,bAt]at h⊢
  rw[zni b h.1]
  simp only
  rw[zgi b h.2]
theorem zkB (H:Heap) (x:AV):(pub1 H x).2.length=H.length:=by
 unfold pub1
 split
 .split
  .split
   .simp
   .rfl
  .rfl
 .rfl
theorem zh1:∀(xs:List AV) (H:Heap),(zd9 H xs).2.length=H.length
 | [],H=>rfl
 |x::xs,H=>by simp only[zd9];rw[zh1 xs,zkB]
theorem zqi (H:Heap) (x:AV):(pubA H x).2.length=H.length:=by
 unfold pubA
 split
 .exact zh1 _ _
 .exact zkB _ _
theorem zh2:∀(xs:List AV) (H:Heap),(zbK H xs).2.length=H.length
 | [],H=>rfl
 |x::xs,H=>by simp only[zbK];rw[zh2 xs,zqi]
theorem zc4 {R:Rec} {k:OpK} {vs:List AV} {v:AV} {H H1:Heap} (hq:k.quiet=true) (hc:k.isCall=false) (h:exec R H k vs=some (v,H1)) (b:Blk) (hp:qx H k vs≠.bad→qx (H++[b]) k vs=qx H k vs):H1.length=H.length∧exec R (H++[b]) k vs=some (v,H1++[b]):=by
 have hx:zaF H k vs=some (v,H1):=by cases k<;>first|exact h|cases hq
 obtain⟨e1,e2,rfl⟩:=zC hq hx
 refine⟨rfl,?_⟩
 have:zaF (H1++[b]) k vs=some (v,H1++[b]):=zdd hq (by rw[hp (by rw[e1];exact e2)];exact e1) e2
 cases k<;>first|exact this|cases hq
theorem zoL {R:Rec} {k:OpK} {xs:List Src} {vs:List AV} {v:AV} {H H1:Heap} (hk:znW (.op k xs)=true) (h:exec R H k vs=some (v,H1)) (b:Blk):H1.length=H.length∧exec R (H++[b]) k vs=some (v,H1++[b]):=by
 cases k<;>simp only[znW,bFt]at hk
 .rename_i imm g n
  refine zc4 rfl rfl h b fun hb=>?_
  rcases vs with _|⟨x,_|⟨y,r⟩⟩<;>try rfl
  simp only[qx]at hb⊢
  split at hb
  .exact absurd rfl hb
  .rename_i hc;rw[if_neg hc,if_neg hc];exact zlT b hb
 .rename_i imm sz
  refine zc4 rfl rfl h b fun hb=>?_
  rcases vs with _|⟨x,_|⟨y,_|⟨z,r⟩⟩⟩<;>try rfl
  simp only[qx]at hb⊢
  split at hb
  .exact absurd rfl hb
  .rename_i hc;rw[if_neg hc,if_neg hc];exact zlU b hb
 .rename_i imm str sz lo hi
  refine zc4 rfl rfl h b fun hb=>?_
  rcases vs with _|⟨x,bs⟩<;>try rfl
  simp only[qx]at hb⊢
  split at hb
  .exact absurd rfl hb
  .rename_i hc;rw[if_neg hc,if_neg hc];exact zm6 b hb
 .rename_i f
  simp only[exec]at h⊢
  split at h
  .rename_i hf
   simp only[oMe,pMi]at h
   obtain⟨r,h1,rfl,rfl⟩:=h
   rw[zgi b hf]
   simp only[if_pos hf,h1,oMs]
   exact⟨zh2 _ _,trivial⟩
  .cases h
 .rename_i n
  have hx:ex H (.store n) vs=some (v,H1):=h
  rcases vs with _|⟨p,_|⟨x,_|⟨z,r⟩⟩⟩<;>simp only[ex]at hx<;>try cases hx
  show _∧zba (H++[b]) n p x=_
  unfold zba at hx⊢
  cases p<;>simp only at hx⊢<;>try cases hx
  rename_i id ver idx off
  cases hb:H[id]? with
  |none=>simp[hb]at hx
  |some B=>
   rw[zda hb]
   simp only[hb]at hx⊢
   cases B with
   |arr v' sz sh es=>
    cases sh with
    |true=>simp at hx
    |false=>
     simp only at hx⊢
     split at hx
     .rename_i hc
      rw[if_pos hc]
      simp only[oMe,pMi]at hx
      obtain⟨es',h1,rfl,rfl⟩:=hx
      refine⟨by simp,?_⟩
      simp only[h1,oMs,zkt hb]
     .cases hx
   |_=>simp at hx
 .rename_i q ok z
  refine zc4 rfl rfl h b fun hb=>?_
  rcases vs with _|⟨x,_|⟨y,_|⟨w,r⟩⟩⟩<;>try rfl
  exact zlP b hb
theorem zmd {H H2:Heap} {n:Nat} {p x u:AV} (h:zba H n p x=some (u,H2)):∃id ver idx off B,p= .optr id ver idx off∧H2=H.set id B:=by
 unfold zba at h
 split at h
 .rename_i id ver idx off
  split at h
  .split at h
   .simp only[oMe,pMi]at h
    obtain⟨es',_,_,rfl⟩:=h
    exact⟨_,_,_,_,_,rfl,rfl⟩
   .cases h
  .cases h
 .cases h
def zcq:AV→Option (Nat×Nat)| .optr id ver _ _=>some (id,ver)| .osl id ver _ _=>some (id,ver)|_=>none
theorem zfo {R:Rec} {k:OpK} {xs:List Src} {a:Nat} {y:AV} {ys:List AV} {v:AV} {H H1 H2:Heap} (hk:z8 (.op k xs)=some a) (h:exec R H1 k (y::ys)=some (v,H2))
  (look:∀id ver,zcq y=some (id,ver)→∀(sz:Nat) (sh:Bool) (es:List AV),H1[id]?=some (.arr ver sz sh es)→∃sh' es',H[id]?=some (.arr ver sz sh' es')∧∀(i:Nat) (e:AV),es[i]?=some e→es'[i]?=some e):exec R H k (y::ys)=some (v,H):=by
 have fin:k.quiet=true→(∀u,qx H1 k (y::ys)=u→u≠.bad→qx H k (y::ys)=u)→exec R H k (y::ys)=some (v,H):=by
  intro hq he
  have hx:zaF H1 k (y::ys)=some (v,H2):=by cases k<;>first|exact h|cases hq
  obtain⟨e1,e2,rfl⟩:=zC hq hx
  have:zaF H k (y::ys)=some (v,H):=zdd hq (he _ e1 e2) e2
  cases k<;>first|exact this|cases hq
 cases k<;>simp only[z8]at hk<;>try cases hk
 .refine fin rfl ?_
  rename_i imm g n
  rcases ys with _|⟨y2,r⟩<;>try (intro u h1 h2;exact h1)
  intro u h1 h2
  simp only[qx]at h1⊢
  split at h1
  .exact absurd h1.symm h2
  .rename_i hc
   rw[if_neg hc]
   cases y<;>try exact h1
   rename_i id ver idx off
   simp only[zcM]at h1
   split at h1
   .rename_i v0 s0 sh0 es0 hb
    split at h1
    .rename_i hv
     subst hv
     obtain⟨sh',es',g1,g2⟩:=look id _ rfl _ _ _ hb
     split at h1
     .rename_i e he
      simp only[zcM,g1,if_true,g2 _ _ he]
      exact h1
     .exact absurd h1.symm h2
    .exact absurd h1.symm h2
   .exact absurd h1.symm h2
 .refine fin rfl ?_
  rename_i imm n
  rcases ys with _|⟨y2,_|⟨y3,r⟩⟩<;>try (intro u h1 h2;exact h1)
  intro u h1 h2
  simp only[qx]at h1⊢
  split at h1
  .exact absurd h1.symm h2
  .rename_i hc
   rw[if_neg hc]
   cases y<;>cases y2<;>try exact h1
   rename_i id ver off len _ _
   simp only[zdI]at h1
   split at h1
   .rename_i v0 s0 sh0 es0 hb
    split at h1
    .rename_i hv
     obtain⟨hv1,hv2⟩:=hv
     subst hv1
     obtain⟨sh',es',g1,g2⟩:=look id _ rfl _ _ _ hb
     simp only[zdI,g1]
     rw[if_pos ⟨trivial,hv2⟩]
     exact h1
    .exact absurd h1.symm h2
   .exact absurd h1.symm h2
 .refine fin rfl ?_
  rename_i imm str sz lo hi
  intro u h1 h2
  simp only[qx]at h1⊢
  split at h1
  .exact absurd h1.symm h2
  .rename_i hc
   rw[if_neg hc]
   cases y<;>cases str<;>try exact h1
   rename_i id ver off len
   simp only[slcV]at h1
   split at h1
   .rename_i v0 s0 sh0 es0 hb
    split at h1
    .rename_i hv
     obtain⟨hv1,hv2⟩:=hv
     subst hv1
     obtain⟨sh',es',g1,g2⟩:=look id _ rfl _ _ _ hb
     simp only[slcV,g1]
     rw[if_pos ⟨trivial,hv2⟩]
     exact h1
    .exact absurd h1.symm h2
   .exact absurd h1.symm h2
theorem zbG {k:OpK} {xs:List Src} {a:Nat} (hr:z8 (.op k xs)=some a):kH (.op k xs)≤1:=by
 cases k<;>simp only[z8]at hr<;>try cases hr
 all_goals (simp only[kH];split<;>omega)
theorem zgv {R:Rec} {k:OpK} {xs:List Src} {a:Nat} {y:AV} {ys:List AV} {v:AV} {H H1 H2:Heap} (hk:z8 (.op k xs)=some a) (h:exec R H k (y::ys)=some (v,H1)) (keep:∀id ver,zcq y=some (id,ver)→∀b,H[id]?=some b→H2[id]?=some b):H1=H∧exec R H2 k (y::ys)=some (v,H2):=by
 have hH:H1=H:=zeY (zbG hk) h
 refine⟨hH,zfo hk h (fun id ver hp sz sh es hb=>⟨sh,es,keep id ver hp _ hb,fun _ _ h=>h⟩)⟩
theorem zlA {H:Heap} {id ver off len j:Nat} (hj:id≠j):(truncH H (.osl id ver off len))[j]?=H[j]?:=by
 unfold truncH
 simp only
 split
 .split
  .exact gEn hj
  .rfl
 .rfl
theorem zmi {H H2:Heap} {k k0:OpK} {p x u y:AV} (hb:zbE k=some k0) (hs:zaF H k0 [p,x]=some (u,H2)) (ha:apart p y=true):∀id ver,zcq y=some (id,ver)→∀b,H[id]?=some b→H2[id]?=some b:=by
 intro id ver hp b hB
 have hlt:=(gEs.1 hB).1
 cases k<;>simp only[zbE,reduceCtorEq,oSi]at hb
 .subst hb
  obtain⟨id',ver',idx,off,B,rfl,rfl⟩:=zmd hs
  have hne:id'≠id:=by
   cases y<;>simp only[zcq,reduceCtorEq,oSi,pMi]at hp
   all_goals
    obtain⟨rfl,rfl⟩:=hp
    simpa[apart]using ha
  rw[gEn hne];exact hB
 .subst hb
  rename_i sz
  have hx:ex H (.app sz) [p,x]=some (u,H2):=hs
  simp only[ex]at hx
  split at hx
  .split at hx
   .unfold zb3 at hx
    split at hx
    .have ht:truncH H (.isl (some true) ‹Nat› [])=H:=rfl
     rw[ht]at hx
     split at hx
     .cases hx;exact hB
     .split at hx
      .cases hx;rw[gEa hlt];exact hB
      .cases hx
    .rename_i id' ver' off' len'
     have hne:id'≠id:=by
      cases y<;>simp only[zcq,reduceCtorEq,oSi,pMi]at hp
      all_goals
       obtain⟨rfl,rfl⟩:=hp
       simpa[apart]using ha
     have hT:=zlA (H:=H) (ver:=ver') (off:=off') (len:=len') hne
     split at hx
     .split at hx
      .split at hx
       .cases hx;rw[hT];exact hB
       .split at hx
        .cases hx;rw[gEn hne,hT];exact hB
        .cases hx
      .cases hx
     .cases hx
    .split at hx
     .cases hx;exact hB
     .cases hx
    .cases hx
   .cases hx
  .cases hx
theorem zdY {E:Nat→AV}:∀{xs:List Src} {vs:List AV} {a:Nat},vals E xs=some vs→a∈xs.flatMap zcD→E a∈vs
 | [],vs,a,h,ha=>by simp at ha
 |x::xs,vs,a,h,ha=>by
  simp only[vals]at h
  split at h
  .rename_i v vs' h1 h2
   cases h
   simp only[List.flatMap_cons,List.mem_append]at ha
   rcases ha with ha|ha
   .cases x with
    |c w=>simp[zcD]at ha
    |t i=>
     simp[zcD]at ha
     subst ha
     obtain⟨e,_⟩:=zaW h1
     have:E a=v:=e
     rw[this];simp
   .exact List.mem_cons_of_mem _ (zdY h2 ha)
  .cases h
theorem zaL {R:Rec} {i:LI} {E E1:Env} {H H1:Heap} (h:zt R i E H=some (E1,H1)):(H1=H∧∀H2,zt R i E H2=some (E1,H2))∨∃k xs vs v,i.k= .op k xs∧vals E xs=some vs∧exec R H k vs=some (v,H1)∧∀H2 H3,exec R H2 k vs=some (v,H3)→zt R i E H2=some (E1,H3):=by
 obtain⟨d,k,g⟩:=i
 unfold zt at h
 simp only at h
 split at h
 .rename_i hg
  cases k with
  |op k xs=>
   simp only[zbv]at h
   split at h
   .rename_i vs hvs
    cases hx:exec R H k vs with
    |none=>simp[hx]at h
    |some p=>
     simp only[hx,oMs,oSi,pMi]at h
     obtain⟨rfl,rfl⟩:=h
     refine .inr ⟨k,xs,vs,p.1,rfl,hvs,hx,fun H2 H3 h3=>?_⟩
     unfold zt
     simp only[hg,zbv,hvs,h3,oMs]
   .cases h
  |pick c x y=>
   simp only[zbv]at h
   split at h
   .rename_i t hEc
    cases hok:okO (evS E (if t then x else y)) with
    |none=>simp[hok]at h
    |some v=>
     simp only[hok,oMs,oSi,pMi]at h
     obtain⟨rfl,rfl⟩:=h
     refine .inl ⟨rfl,fun H2=>?_⟩
     unfold zt
     simp only[hg,zbv,hEc,hok,oMs]
   .cases h
 .rename_i hg
  cases h
  refine .inl ⟨rfl,fun H2=>?_⟩
  unfold zt
  simp only[hg]
 .cases h
theorem ziW {R:Rec} {p i:LI} {E E1 E2:Env} {H H1 H2:Heap} (hi:soft p i=true) (h1:zt R p E H=some (E1,H1)) (h2:zt R i E1 H1=some (E2,H2)):
  ∃E' H',zt R i E H=some (E',H')∧zt R p E' H'=some (E2,H2):=by
 simp only[soft,dstB,bAt]at hi
 obtain⟨⟨s1,s2⟩,s3⟩:=hi
 obtain⟨vi,rfl,ci⟩:=zy h1
 obtain⟨vj,rfl,cj⟩:=zy h2
 have rj:∀s∈zX i,E s=(putE E p.dst vi) s:=by
  intro s hs
  rw[zA]
  split
  .rename_i hd
   rw[hd]at s1
   simp at s1
   exact absurd hs s1.1
  .rfl
 have ri:∀s∈zX p,(putE E i.dst vj) s=E s:=by
  intro s hs
  rw[zA]
  split
  .rename_i hd
   rw[hd]at s2
   simp at s2
   exact absurd hs s2
  .rfl
 have hne:∀x,p.dst=some x→i.dst≠some x:=by
  intro x hx hj
  rw[hx,hj]at s1
  simp at s1
 have hi0:=cj E rj
 have comm:putE (putE E i.dst vj) p.dst vi=putE (putE E p.dst vi) i.dst vj:=zaR (d:=i.dst) (fun x hx hi=>hne x hi hx)
 have move:∀G G2,zt R p E G=some (putE E p.dst vi,G2)→zt R p (putE E i.dst vj) G=some (putE (putE E p.dst vi) i.dst vj,G2):=by
  intro G G2 hg
  obtain⟨v,e1,c⟩:=zy hg
  have:=c (putE E i.dst vj) ri
  rw[this]
  by_cases hd:p.dst=none
  .rw[hd];simp only[putE]
  .obtain⟨d,hd⟩:=Option.ne_none_iff_exists'.1 hd
   have hv:v=vi:=by
    have:=congrFun e1 d
    rw[zA,zA,if_pos hd,if_pos hd]at this
    exact this.symm
   rw[hv,comm]
 rcases zaL hi0 with⟨e,all⟩|⟨ki,xi,wi,ui,k1,k2,k3,k4⟩
 .subst e
  exact⟨_,_,all H,move _ _ h1⟩
 .rcases zaL h1 with⟨e,all⟩|⟨kp,xp,wp,up,q1,q2,q3,q4⟩
  .subst e
   exact⟨_,_,hi0,move _ _ (all H2)⟩
  .rw[k1,q1]at s3
   obtain⟨s3,s4⟩:=s3
   obtain⟨b,rfl,ha⟩:=zdc s3 k3
   obtain⟨g1,g2⟩:=zoL s4 q3 b
   exact⟨_,_,k4 _ _ (ha H g1.symm),move _ _ (q4 _ _ g2)⟩
theorem zlt {k:LK} (h:zay k=true):kH k=2:=by
 cases k with
 |pick c x y=>simp[zay]at h
 |op k xs=>
  cases k<;>first|rfl|(simp[zay]at h;done)|skip
  rename_i imm _ _ _ _
  cases imm<;>first|rfl|(simp[zay]at h;done)
theorem zcT {R:Rec} {k:OpK} {xs:List Src} {vs:List AV} {v:AV} {H H2:Heap} {t:Nat} (hk:zbd (.op k xs)=some t) (h:exec R H k vs=some (v,H2)):∃id b,zk t H=some id∧H2=H.set id b∧(∀u,b≠.hole u)∧∀G:Heap,zk t G=some id→exec R G k vs=some (v,G.set id b):=by
 cases k<;>simp only[zbd,reduceCtorEq,oSi]at hk
 .rename_i t' sz z
  subst hk
  have hx:ex H (.mkslH t' sz z) vs=some (v,H2):=h
  rcases vs with _|⟨a,_|⟨b,_|⟨c,r⟩⟩⟩<;>simp only[ex]at hx<;>try cases hx
  cases a<;>cases b<;>simp only[ex]at hx<;>try cases hx
  rename_i k1 n1 k2 n2
  split at hx
  .rename_i id hf
   split at hx
   .rename_i hc
    simp only[oSi,pMi]at hx
    obtain⟨rfl,rfl⟩:=hx
    refine⟨id,_,hf,rfl,fun u e=>(by cases e),fun G hG=>?_⟩
    show ex G (.mkslH t' sz z) [.int k1 n1,.int k2 n2]=_
    simp only[ex,hG,if_pos hc]
   .cases hx
  .cases hx
 .rename_i t' sz
  subst hk
  have hx:ex H (.boxH t' sz) vs=some (v,H2):=h
  rcases vs with _|⟨a,_|⟨b,r⟩⟩<;>simp only[ex]at hx<;>try cases hx
  split at hx
  .rename_i id hf
   split at hx
   .rename_i hc
    simp only[oSi,pMi]at hx
    obtain⟨rfl,rfl⟩:=hx
    refine⟨id,_,hf,rfl,fun u e=>(by cases e),fun G hG=>?_⟩
    show ex G (.boxH t' sz) [a]=_
    simp only[ex,hG,if_pos hc]
   .cases hx
  .cases hx
theorem zfF {t:Nat} {H:Heap} {id:Nat} (h:zk t H=some id):id<H.length:=(gEs.1 (zR h)).1
theorem zeA:∀{H:Heap} {t t' id id':Nat} {b:Blk},t≠t'→zk t H=some id→zk t' H=some id'→(∀u,b≠.hole u)→zk t' (H.set id b)=some id'
 | [],t,t',id,id',b,hne,h,h',hb=>by simp[zk]at h
 |B::r,t,t',id,id',b,hne,h,h',hb=>by
  cases id with
  |zero=>
   have hB:B= .hole t:=by have:=zR h;simpa using this
   subst hB
   simp only[zk,if_neg hne]at h'
   rw[List.set_cons_zero]
   cases b with
   |hole u=>exact absurd rfl (hb u)
   |_=>exact h'
  |succ id=>
   rw[List.set_cons_succ]
   have down:∀{u n:Nat},zk u (B::r)=some (n+1)→zk u r=some n:=by
    intro u n hh
    have key:(zk u r).map (·+1)=some (n+1)→zk u r=some n:=fun h=>by
     simp only[oMe]at h
     obtain⟨m,h1,h2⟩:=h
     have:m=n:=by omega
     rw[h1,this]
    cases B with
    |hole w=>
     simp only[zk]at hh
     split at hh
     .cases hh
     .exact key hh
    |_=>exact key hh
   have hd:=down h
   cases id' with
   |zero=>
    have hB:B= .hole t':=by have:=zR h';simpa using this
    subst hB
    simp[zk]
   |succ id'=>
    have ih:=zeA hne hd (down h') hb
    cases B with
    |hole w=>
     simp only[zk]at h'⊢
     split at h'
     .cases h'
     .rename_i hw;rw[if_neg hw,ih];rfl
    |_=>simp only[zk,ih];rfl
theorem zdL:∀{H:Heap} {t id:Nat} (b:Blk),zk t H=some id→zk t (H++[b])=some id
 | [],t,id,b,h=>by simp[zk]at h
 |B::r,t,id,b,h=>by
  have key:(zk t r).map (·+1)=some id→(zk t (r++[b])).map (·+1)=some id:=fun h=>by
   simp only[oMe]at h
   obtain⟨m,h1,h2⟩:=h
   rw[zdL b h1];simp[h2]
  rw[List.cons_append]
  cases B with
  |hole w=>
   simp only[zk]at h⊢
   split at h
   .rename_i hw;rw[if_pos hw];exact h
   .rename_i hw;rw[if_neg hw];exact key h
  |_=>exact key h
theorem zdM:∀{H:Heap} {t id:Nat} {b:Blk},(∀u,b≠.hole u)→zk t (H++[b])=some id→zk t H=some id
 | [],t,id,b,hb,h=>by
  rw[List.nil_append]at h
  cases b with
  |hole u=>exact absurd rfl (hb u)
  |_=>simp[zk]at h
 |B::r,t,id,b,hb,h=>by
  have key:(zk t (r++[b])).map (·+1)=some id→(zk t r).map (·+1)=some id:=fun h=>by
   simp only[oMe]at h
   obtain⟨m,h1,h2⟩:=h
   rw[zdM hb h1];simp[h2]
  rw[List.cons_append]at h
  cases B with
  |hole w=>
   simp only[zk]at h⊢
   split at h
   .rename_i hw;rw[if_pos hw];exact h
   .rename_i hw;rw[if_neg hw];exact key h
  |_=>exact key h
theorem zdn:∀{H:Heap} {t t' id id':Nat} {b:Blk},t≠t'→zk t H=some id→(∀u,b≠.hole u)→zk t' (H.set id b)=some id'→zk t' H=some id'
 | [],t,t',id,id',b,hne,h,hb,h'=>by simp[zk]at h
 |B::r,t,t',id,id',b,hne,h,hb,h'=>by
  cases id with
  |zero=>
   have hB:B= .hole t:=by have:=zR h;simpa using this
   subst hB
   rw[List.set_cons_zero]at h'
   simp only[zk,if_neg hne]
   cases b with
   |hole u=>exact absurd rfl (hb u)
   |_=>exact h'
  |succ id=>
   rw[List.set_cons_succ]at h'
   have hd:zk t r=some id:=by
    have key:(zk t r).map (·+1)=some (id+1)→zk t r=some id:=fun h=>by
     simp only[oMe]at h
     obtain⟨m,h1,h2⟩:=h
     have:m=id:=by omega
     rw[h1,this]
    cases B with
    |hole w=>
     simp only[zk]at h
     split at h
     .cases h
     .exact key h
    |_=>exact key h
   have key:(zk t' (r.set id b)).map (·+1)=some id'→(zk t' r).map (·+1)=some id':=fun h=>by
    simp only[oMe]at h
    obtain⟨m,h1,h2⟩:=h
    rw[zdn hne hd hb h1];simp[h2]
   cases B with
   |hole w=>
    simp only[zk]at h'⊢
    split at h'
    .rename_i hw;rw[if_pos hw];exact h'
    .rename_i hw;rw[if_neg hw];exact key h'
   |_=>exact key h'
theorem zjg {R:Rec} {k:OpK} {xs:List Src} {vs:List AV} {v:AV} {H:Heap} {b:Blk} (hk:zay (.op k xs)=true) (h:exec R H k vs=some (v,H++[b])):∀u,b≠.hole u:=by
 intro u e
 subst e
 cases k<;>simp only[zay,bFt]at hk
 .rename_i sz
  have hx:ex H (.box sz) vs=some (v,H++[.hole u]):=h
  match vs,hx with
  | [],hx=>simp[ex]at hx
  | [x],hx=>simp[ex]at hx
  |_::_::_,hx=>simp[ex]at hx
 .rename_i imm sz len z ps
  cases imm with
  |true=>simp at hk
  |false=>
   have hx:ex H (.bsl false sz len z ps) vs=some (v,H++[.hole u]):=h
   simp[ex]at hx
 .rename_i sz z
  have hx:ex H (.mksl sz z) vs=some (v,H++[.hole u]):=h
  rcases vs with _|⟨a,_|⟨b,_|⟨c,r⟩⟩⟩<;>simp only[ex]at hx<;>try cases hx
  cases a<;>cases b<;>simp[ex]at hx
 .have hx:ex H .mkmap vs=some (v,H++[.hole u]):=h
  match vs,hx with
  | [],hx=>simp[ex]at hx
  |_::_,hx=>simp[ex]at hx
theorem zoe {R:Rec} {kp ki:OpK} {xp xi:List Src} {wp wi:List AV} {up ui:AV} {H H1 H2:Heap} (hf:(match zbd (.op kp xp),zbd (.op ki xi) with|some a,some b=>decide (a≠b)|some _,none=>zay (.op ki xi)|none,some _=>zay (.op kp xp)||(z8 (.op kp xp)).isSome|none,none=>false)=true)
  (hp:exec R H kp wp=some (up,H1)) (hi:exec R H1 ki wi=some (ui,H2)):∃G,exec R H ki wi=some (ui,G)∧exec R G kp wp=some (up,H2):=by
 cases hfp:zbd (.op kp xp) with
 |some a=>
  obtain⟨id,b,p1,rfl,p3,p4⟩:=zcT hfp hp
  cases hfi:zbd (.op ki xi) with
  |some c=>
   rw[hfp,hfi]at hf
   have hne:a≠c:=of_decide_eq_true hf
   obtain⟨id',b',r1,rfl,r3,r4⟩:=zcT hfi hi
   have f1:=zdn hne p1 p3 r1
   have hids:id≠id':=fun e=>by
    subst e
    have h1:=zR p1
    have h2:=zR f1
    rw[h1]at h2;cases h2
    exact hne rfl
   refine⟨_,r4 H f1,?_⟩
   rw[p4 _ (zeA (fun e=>hne e.symm) f1 p1 r3),List.set_comm _ _ hids.symm]
  |none=>
   rw[hfp,hfi]at hf
   obtain⟨b',e,ha⟩:=zdc hf hi
   subst e
   refine⟨_,ha H (by simp),?_⟩
   rw[p4 _ (zdL b' p1),List.set_append_left _ _ (zfF p1)]
 |none=>
  cases hfi:zbd (.op ki xi) with
  |some c=>
   rw[hfp,hfi]at hf
   simp only[Bool.or_eq_true]at hf
   rcases hf with hf|hf
   .obtain⟨b,e,ha⟩:=zdc hf hp
    subst e
    obtain⟨id',b',r1,rfl,r3,r4⟩:=zcT hfi hi
    have f1:=zdM (zjg hf hp) r1
    refine⟨_,r4 H f1,?_⟩
    rw[ha _ (by simp),List.set_append_left _ _ (zfF f1)]
   .obtain⟨a,hr⟩:=Option.isSome_iff_exists.1 hf
    have hH:H1=H:=zeY (zbG hr) hp
    subst hH
    obtain⟨id',b',r1,rfl,r3,r4⟩:=zcT hfi hi
    refine⟨_,hi,?_⟩
    cases wp with
    |nil=>cases kp<;>first|(cases hr;done)|(simp[exec,zaF,OpK.quiet,qx,okO]at hp;done)
    |cons y ys=>
     refine zfo hr hp (fun id ver hpl sz sh es hb=>⟨sh,es,?_,fun _ _ h=>h⟩)
     rw[gEn (fun e=>?_)]
     .exact hb
     .subst e
      have:=zR r1
      rw[this]at hb;cases hb
  |none=>rw[hfp,hfi]at hf;cases hf
theorem zrh {p i:LI} (h:(match zbd p.k,zbd i.k with|some a,some b=>decide (a≠b)|some _,none=>zay i.k|none,some _=>zay p.k||(z8 p.k).isSome|none,none=>false)=true):kH i.k=2:=by
 cases hi:zbd i.k with
 |some b=>
  generalize i.k=k at hi
  cases k with
  |op k xs=>cases k<;>simp only[zbd,reduceCtorEq,oSi]at hi<;>rfl
  |pick c x y=>cases hi
 |none=>
  rw[hi]at h
  cases hp:zbd p.k with
  |some a=>rw[hp]at h;exact zlt h
  |none=>rw[hp]at h;cases h
theorem ziX {R:Rec} {p i:LI} {E E1 E2:Env} {H H1 H2:Heap} (hi:zfZ p i=true) (h1:zt R p E H=some (E1,H1)) (h2:zt R i E1 H1=some (E2,H2)):
  ∃E' H',zt R i E H=some (E',H')∧zt R p E' H'=some (E2,H2):=by
 simp only[zfZ,dstB,bAt]at hi
 obtain⟨⟨s1,s2⟩,s3⟩:=hi
 obtain⟨vi,rfl,ci⟩:=zy h1
 obtain⟨vj,rfl,cj⟩:=zy h2
 have rj:∀s∈zX i,E s=(putE E p.dst vi) s:=by
  intro s hs
  rw[zA]
  split
  .rename_i hd
   rw[hd]at s1
   simp at s1
   exact absurd hs s1.1
  .rfl
 have ri:∀s∈zX p,(putE E i.dst vj) s=E s:=by
  intro s hs
  rw[zA]
  split
  .rename_i hd
   rw[hd]at s2
   simp at s2
   exact absurd hs s2
  .rfl
 have hne:∀x,p.dst=some x→i.dst≠some x:=by
  intro x hx hj
  rw[hx,hj]at s1
  simp at s1
 have hi0:=cj E rj
 have comm:putE (putE E i.dst vj) p.dst vi=putE (putE E p.dst vi) i.dst vj:=zaR (d:=i.dst) (fun x hx hi=>hne x hi hx)
 have move:∀G G2,zt R p E G=some (putE E p.dst vi,G2)→zt R p (putE E i.dst vj) G=some (putE (putE E p.dst vi) i.dst vj,G2):=by
  intro G G2 hg
  obtain⟨v,e1,c⟩:=zy hg
  have:=c (putE E i.dst vj) ri
  rw[this]
  by_cases hd:p.dst=none
  .rw[hd];simp only[putE]
  .obtain⟨d,hd⟩:=Option.ne_none_iff_exists'.1 hd
   have hv:v=vi:=by
    have:=congrFun e1 d
    rw[zA,zA,if_pos hd,if_pos hd]at this
    exact this.symm
   rw[hv,comm]
 rcases zaL hi0 with⟨e,all⟩|⟨ki,xi,wi,ui,k1,k2,k3,k4⟩
 .subst e
  exact⟨_,_,all H,move _ _ h1⟩
 .rcases zaL h1 with⟨e,all⟩|⟨kp,xp,wp,up,q1,q2,q3,q4⟩
  .subst e
   exact⟨_,_,hi0,move _ _ (all H2)⟩
  .rw[k1,q1]at s3
   obtain⟨G1,m1,m2⟩:=zoe s3 q3 k3
   exact⟨_,_,k4 _ _ m1,move _ _ (q4 _ _ m2)⟩
def Seen (i:LI) (E:Env) (a:Nat):Prop:=∀k k0 x1 x2 ax,i.k= .op k (x1::x2::ax)→zbE k=some k0→gval E i.g=some true→apart (evS E x1) (E a)=true
theorem zbO {k:LK} {a:Nat} (h:a∈zb0 k):∃k1 k0 x1 x2 ax,k= .op k1 (x1::x2::ax)∧zbE k1=some k0∧a∈ax.flatMap zcD:=by
 cases k with
 |pick c x y=>simp[zb0]at h
 |op k xs=>
  match xs,h with
  | [],h=>simp[zb0]at h
  | [_],h=>simp[zb0]at h
  |x1::x2::ax,h=>
   simp only[zb0]at h
   cases hb:zbE k with
   |none=>simp[hb]at h
   |some k0=>simp only[hb,Option.isSome_some,if_true]at h;exact⟨k,k0,x1,x2,ax,rfl,hb,h⟩
theorem zgj {R:Rec} {i:LI} {E E1:Env} {H H1:Heap} (h:zt R i E H=some (E1,H1)):zt R (zx i) E H=some (E1,H1)∧∀a∈zb0 i.k,Seen i E a:=by
 obtain⟨d,k,g⟩:=i
 by_cases hs:∃k1 k0 xs,k= .op k1 xs∧zbE k1=some k0
 .obtain⟨k1,k0,xs,rfl,hb⟩:=hs
  unfold zt at h⊢
  simp only[zx,zbh hb]at h⊢
  cases hg:gval E g with
  |none=>simp[hg]at h
  |some t=>
   cases t with
   |false=>
    simp only[hg]at h⊢
    exact⟨h,fun a _ k' k0' x1 x2 ax _ _ hg'=>by simp only at hg';rw[hg]at hg';cases hg'⟩
   |true=>
    simp only[hg,zbv]at h⊢
    cases hv:vals E xs with
    |none=>simp[hv]at h
    |some vs=>
     simp only[hv]at h
     have hv2:=zdw 2 hv
     simp only[hv2]
     cases hx:exec R H k1 vs with
     |none=>simp[hx]at h
     |some p=>
      simp only[hx]at h
      obtain⟨v1,v2,vr,rfl,hap,hx2⟩:=ziM hb hx
      have hx3:exec R H k0 [v1,v2]=some p:=by
       cases k1<;>simp only[zbE,reduceCtorEq,oSi]at hb<;>subst hb<;>exact hx2
      refine⟨?_,fun a ha k' k0' x1 x2 ax hk _ _=>?_⟩
      .simp only[List.take_succ_cons,List.take_zero,hx3];exact h
      .simp only[LK.op.injEq]at hk
       obtain⟨rfl,rfl⟩:=hk
       simp only[vals]at hv
       split at hv
       .rename_i w1 ws o1 o2
        split at o2
        .rename_i w2 ws2 o3 o4
         cases o2;cases hv
         simp only[zb0,hb,Option.isSome_some,if_true]at ha
         have hm:=zdY o4 ha
         have:=lAt.1 hap _ hm
         rw[(zaW o1).1];exact this
        .cases o2
       .cases hv
 by_cases hcc:∃f n xs,k= .op (.callA f n) xs
 .obtain⟨f,n,xs,rfl⟩:=hcc
  refine⟨zez h,fun a ha=>?_⟩
  obtain⟨k1,k0,x1,x2,ax,e,hb,_⟩:=zbO ha
  exact absurd ⟨k1,k0,_,e,hb⟩ hs
 .have hp:zx ⟨d,k,g⟩=⟨d,k,g⟩:=by
   unfold zx
   cases k with
   |pick c x y=>rfl
   |op k xs=>
    have hc:∀f n,k≠.callA f n:=fun f n e=>hcc ⟨f,n,xs,by rw[e]⟩
    cases hb:zbE k with
    |none=>simp only[zjz hb hc]
    |some k0=>exact absurd ⟨k,k0,xs,rfl,hb⟩ hs
  rw[hp]
  refine⟨h,fun a ha=>?_⟩
  obtain⟨k1,k0,x1,x2,ax,e,hb,_⟩:=zbO ha
  exact absurd ⟨k1,k0,_,e,hb⟩ hs
theorem ziZ {R:Rec} {p i:LI} {E E1 E2:Env} {H H1 H2:Heap} {a:Nat} (hd:dstB p (zx i)=true) (hr:z8 p.k=some a) (ha:a∈zb0 i.k) (hseen:Seen i E a) (h1:zt R p E H=some (E1,H1)) (h2:zt R (zx i) E1 H1=some (E2,H2)):
  ∃E' H',zt R (zx i) E H=some (E',H')∧zt R p E' H'=some (E2,H2):=by
 simp only[dstB,bAt]at hd
 obtain⟨s1,s2⟩:=hd
 obtain⟨vi,rfl,ci⟩:=zy h1
 obtain⟨vj,rfl,cj⟩:=zy h2
 have rj:∀s∈zX (zx i),E s=(putE E p.dst vi) s:=by
  intro s hs
  rw[zA]
  split
  .rename_i hd
   rw[hd]at s1
   simp at s1
   exact absurd hs s1.1
  .rfl
 have ri:∀s∈zX p,(putE E (zx i).dst vj) s=E s:=by
  intro s hs
  rw[zA]
  split
  .rename_i hd
   rw[hd]at s2
   simp at s2
   exact absurd hs s2
  .rfl
 have hne:∀x,p.dst=some x→(zx i).dst≠some x:=by
  intro x hx hj
  rw[hx,hj]at s1
  simp at s1
 have hi0:=cj E rj
 have comm:putE (putE E (zx i).dst vj) p.dst vi=putE (putE E p.dst vi) (zx i).dst vj:=zaR (d:=(zx i).dst) (fun x hx hi=>hne x hi hx)
 have move:∀G G2,zt R p E G=some (putE E p.dst vi,G2)→zt R p (putE E (zx i).dst vj) G=some (putE (putE E p.dst vi) (zx i).dst vj,G2):=by
  intro G G2 hg
  obtain⟨v,e1,c⟩:=zy hg
  have:=c (putE E (zx i).dst vj) ri
  rw[this]
  by_cases hd:p.dst=none
  .rw[hd];simp only[putE]
  .obtain⟨d,hd⟩:=Option.ne_none_iff_exists'.1 hd
   have hv:v=vi:=by
    have:=congrFun e1 d
    rw[zA,zA,if_pos hd,if_pos hd]at this
    exact this.symm
   rw[hv,comm]
 obtain⟨k1,k0,x1,x2,ax,hk,hbs,_⟩:=zbO ha
 rcases zaL h1 with⟨e,all⟩|⟨kp,xp,wp,up,q1,q2,q3,q4⟩
 .subst e
  exact⟨_,_,hi0,move _ _ (all H2)⟩
 .rw[q1]at hr
  have hxp:∃r,xp= .t a::r:=by
   cases xp with
   |nil=>cases kp<;>simp[z8]at hr
   |cons y r=>cases y<;>cases kp<;>simp[z8]at hr<;>exact⟨r,by rw[hr]⟩
  obtain⟨r,rfl⟩:=hxp
  have hH:H1=H:=zeY (zbG hr) q3
  subst hH
  simp only[vals]at q2
  split at q2
  .rename_i y ys o5 o6
   cases q2
   have hy:E a=y:=(zaW o5).1
   have hi1:=hi0
   unfold zt at hi1
   simp only[zx,hk,zbh hbs]at hi1
   cases hg:gval E i.g with
   |none=>simp[hg]at hi1
   |some t=>
    cases t with
    |false=>
     simp only[hg,oSi,pMi]at hi1
     obtain⟨_,rfl⟩:=hi1
     exact⟨_,_,hi0,move _ _ h1⟩
    |true=>
     simp only[hg,zbv,List.take_succ_cons,List.take_zero]at hi1
     have hap:=hseen k1 k0 x1 x2 ax hk hbs hg
     rw[hy]at hap
     cases hv:vals E [x1,x2] with
     |none=>simp[hv]at hi1
     |some vs=>
      simp only[hv]at hi1
      simp only[vals]at hv
      split at hv
      .rename_i w1 ws o1 o2
       split at o2
       .rename_i w2 ws2 o3 o4
        cases o4;cases o2;cases hv
        rw[(zaW o1).1]at hap
        cases hx:exec R H1 k0 [w1,w2] with
        |none=>simp[hx]at hi1
        |some q=>
         obtain⟨u,Hq⟩:=q
         simp only[hx,oMs,oSi,pMi]at hi1
         obtain⟨_,rfl⟩:=hi1
         have hst:zaF H1 k0 [w1,w2]=some (u,Hq):=by
          cases k1<;>simp only[zbE,reduceCtorEq,oSi]at hbs<;>subst hbs<;>exact hx
         obtain⟨_,g2⟩:=zgv hr q3 (zmi hbs hst hap)
         exact⟨_,_,hi0,move _ _ (q4 _ _ g2)⟩
       .cases o2
      .cases hv
  .cases q2
/-! ### Readers before what makes memory grow -/
theorem zeB {H H1:Heap} {n:Nat} {p x u:AV} (h:zba H n p x=some (u,H1)):∃id B,(∃ver idx off,p= .optr id ver idx off)∧H1=H.set id B∧∀G:Heap,G[id]?=H[id]?→zba G n p x=some (u,G.set id B):=by
 unfold zba at h
 split at h
 .rename_i id ver idx off
  split at h
  .rename_i v sz es hb
   split at h
   .rename_i hc
    simp only[oMe,pMi]at h
    obtain⟨es',he,rfl,rfl⟩:=h
    refine⟨id,_,⟨_,_,_,rfl⟩,rfl,fun G hG=>?_⟩
    simp only[zba,hG,hb,if_pos hc,he,oMs]
   .cases h
  .cases h
 .cases h
theorem zf2 {R:Rec} {p i:LI} {E E1 E2:Env} {H H1 H2:Heap} {a:Nat} (hd:dstB p (zx i)=true) (hsa:znV i.k=true) (hr:storeAt p.k=some a) (ha:a∈zb0 i.k) (hseen:Seen i E a) (h1:zt R p E H=some (E1,H1)) (h2:zt R (zx i) E1 H1=some (E2,H2)):
  ∃E' H',zt R (zx i) E H=some (E',H')∧zt R p E' H'=some (E2,H2):=by
 simp only[dstB,bAt]at hd
 obtain⟨s1,s2⟩:=hd
 obtain⟨vi,rfl,ci⟩:=zy h1
 obtain⟨vj,rfl,cj⟩:=zy h2
 have rj:∀s∈zX (zx i),E s=(putE E p.dst vi) s:=by
  intro s hs
  rw[zA]
  split
  .rename_i hd
   rw[hd]at s1
   simp at s1
   exact absurd hs s1.1
  .rfl
 have ri:∀s∈zX p,(putE E (zx i).dst vj) s=E s:=by
  intro s hs
  rw[zA]
  split
  .rename_i hd
   rw[hd]at s2
   simp at s2
   exact absurd hs s2
  .rfl
 have hne:∀x,p.dst=some x→(zx i).dst≠some x:=by
  intro x hx hj
  rw[hx,hj]at s1
  simp at s1
 have hi0:=cj E rj
 have comm:putE (putE E (zx i).dst vj) p.dst vi=putE (putE E p.dst vi) (zx i).dst vj:=zaR (d:=(zx i).dst) (fun x hx hi=>hne x hi hx)
 have move:∀G G2,zt R p E G=some (putE E p.dst vi,G2)→zt R p (putE E (zx i).dst vj) G=some (putE (putE E p.dst vi) (zx i).dst vj,G2):=by
  intro G G2 hg
  obtain⟨v,e1,c⟩:=zy hg
  have:=c (putE E (zx i).dst vj) ri
  rw[this]
  by_cases hd:p.dst=none
  .rw[hd];simp only[putE]
  .obtain⟨d,hd⟩:=Option.ne_none_iff_exists'.1 hd
   have hv:v=vi:=by
    have:=congrFun e1 d
    rw[zA,zA,if_pos hd,if_pos hd]at this
    exact this.symm
   rw[hv,comm]
 obtain⟨k1,k0,x1,x2,ax,hk,hbs,_⟩:=zbO ha
 have hk1:∃n,k1= .storeA n∧k0= .store n:=by
  rw[hk]at hsa
  cases k1<;>simp only[znV,bFt]at hsa
  simp only[zbE,oSi]at hbs
  exact⟨_,rfl,hbs.symm⟩
 obtain⟨n1,rfl,rfl⟩:=hk1
 rcases zaL h1 with⟨e,all⟩|⟨kp,xp,wp,up,q1,q2,q3,q4⟩
 .subst e
  exact⟨_,_,hi0,move _ _ (all H2)⟩
 .rw[q1]at hr
  have hxp:∃n y,kp= .store n∧xp=[.t a,y]:=by
   cases kp<;>simp only[storeAt,reduceCtorEq]at hr
   rename_i n
   match xp,hr with
   | [.t b,y],hr=>simp at hr;subst hr;exact⟨n,y,rfl,rfl⟩
  obtain⟨np,yp,rfl,rfl⟩:=hxp
  simp only[vals]at q2
  split at q2
  .rename_i y ys o5 o6
   cases q2
   have hy:E a=y:=(zaW o5).1
   have hi1:=hi0
   unfold zt at hi1
   simp only[zx,hk,zbh hbs]at hi1
   cases hg:gval E i.g with
   |none=>simp[hg]at hi1
   |some t=>
    cases t with
    |false=>
     have hall:∀G,zt R (zx i) E G=some (putE E (zx i).dst vj,G):=by
      intro G
      simp only[hg,oSi,pMi]at hi1
      unfold zt
      simp only[zx,hk,zbh hbs,hg,oSi,pMi,and_true]
      exact hi1.1
     have h2':=hall H
     simp only[hg,oSi,pMi]at hi1
     obtain⟨_,rfl⟩:=hi1
     exact⟨_,_,h2',move _ _ h1⟩
    |true=>
     have hi2:=hi0
     simp only[hg,zbv,List.take_succ_cons,List.take_zero]at hi1
     have hap:=hseen _ _ x1 x2 ax hk hbs hg
     rw[hy]at hap
     cases hv:vals E [x1,x2] with
     |none=>simp[hv]at hi1
     |some vs=>
      simp only[hv]at hi1
      have hv0:=hv
      simp only[vals]at hv
      split at hv
      .rename_i w1 ws o1 o2
       split at o2
       .rename_i w2 ws2 o3 o4
        cases o4;cases o2;cases hv
        rw[(zaW o1).1]at hap
        cases hx:exec R H1 (.store n1) [w1,w2] with
        |none=>simp[hx]at hi1
        |some q=>
         obtain⟨u,Hq⟩:=q
         simp only[hx,oMs,oSi,pMi]at hi1
         obtain⟨hvj,rfl⟩:=hi1
         match ys,q3 with
         | [z2],q3=>
         have hp3:zba H np y z2=some (up,H1):=q3
         have hx3:zba H1 n1 w1 w2=some (u,Hq):=hx
         obtain⟨id1,B1,⟨v1,x1',o1',e1⟩,rfl,m1⟩:=zeB hp3
         obtain⟨id2,B2,⟨v2,x2',o2',e2⟩,rfl,m2⟩:=zeB hx3
         subst e1;subst e2
         have hne12:id2≠id1:=by simpa[apart]using hap
         have g1:=m2 H (by rw[gEn (fun e=>hne12 e.symm)])
         have g2:=m1 (H.set id2 B2) (by rw[gEn hne12])
         refine⟨putE E (zx i).dst vj,H.set id2 B2,?_,?_⟩
         .unfold zt
          simp only[zx,hk,zbh hbs,hg,zbv,List.take_succ_cons,List.take_zero,hv0]
          have g1':exec R H (.store n1) [.optr id2 v2 x2' o2',w2]=some (u,H.set id2 B2):=g1
          rw[g1']
          simp only[oMs,oSi,pMi,and_true]
          exact hvj
         .refine move _ _ (q4 _ _ ?_)
          have g2':exec R (H.set id2 B2) (.store np) [.optr id1 v1 x1' o1',z2]=some (up,(H.set id2 B2).set id1 B1):=g2
          rw[g2',List.set_comm _ _ hne12]
         | [],q3=>simp[exec,zaF,OpK.quiet,ex]at q3
         |_::_::_,q3=>simp[exec,zaF,OpK.quiet,ex]at q3
       .cases o2
      .cases hv
  .cases q2
def Blk.isHole:Blk→Bool| .hole _=>true|_=>false
def zdi (H:Heap) (y:AV):Prop:=
 match y with
 | .optr id ver _ _=>∃B,H[id]?=some B∧ver≤B.ver∧B.isHole=false
 | .osl id ver _ _=>∃B,H[id]?=some B∧ver≤B.ver∧B.isHole=false
 |_=>True
structure zb5 (H H1:Heap):Prop where
 back:∀(id:Nat) (B:Blk),H[id]?=some B→B.isHole=false→∀(ver sz:Nat) (sh:Bool) (es:List AV),ver≤B.ver→H1[id]?=some (.arr ver sz sh es)→∃sh' es',H[id]?=some (.arr ver sz sh' es')∧∀(i:Nat) (e:AV),es[i]?=some e→es'[i]?=some e
 on:∀(id:Nat) (B:Blk),H[id]?=some B→B.isHole=false→∃B':Blk,H1[id]?=some B'∧B.ver≤B'.ver∧B'.isHole=false
theorem zb5.refl (H:Heap):zb5 H H:=⟨fun id B hb hq ver sz sh es hv h1=>⟨sh,es,h1,fun _ _ h=>h⟩,fun id B hb hq=>⟨B,hb,Nat.le_refl _,hq⟩⟩
theorem zb5.append (H:Heap) (b:Blk):zb5 H (H++[b]):=by
 have key:∀id B,H[id]?=some B→(H++[b])[id]?=some B:=fun id B hb=>by
  rw[gEa (gEs.1 hb).1];exact hb
 refine⟨fun id B hb hq ver sz sh es hv h1=>?_,fun id B hb hq=>⟨B,key id B hb,Nat.le_refl _,hq⟩⟩
 rw[key id B hb]at h1
 cases h1
 exact⟨sh,es,hb,fun _ _ h=>h⟩
theorem zb5.set {H:Heap} {id v sz n:Nat} {sh:Bool} {es es1:List AV} (h0:H[id]?=some (.arr v sz sh es)) (hn:n=0→∀(i:Nat) (e:AV),es1[i]?=some e→es[i]?=some e):zb5 H (H.set id (.arr (v+n) sz sh es1)):=by
 have hid:=(gEs.1 h0).1
 refine⟨fun j B hb hq ver sz' sh' es' hv h1=>?_,fun j B hb hq=>?_⟩
 .by_cases hj:id=j
  .subst hj
   rw[h0]at hb;cases hb
   rw[gEt hid]at h1
   cases h1
   have hv':v+n≤v:=hv
   have:n=0:=by omega
   subst this
   exact⟨sh,es,h0,hn rfl⟩
  .rw[gEn hj]at h1
   exact⟨sh',es',h1,fun _ _ h=>h⟩
 .by_cases hj:id=j
  .subst hj
   rw[h0]at hb;cases hb
   exact⟨_,gEt hid,Nat.le_add_right _ _,rfl⟩
  .exact⟨B,by rw[gEn hj];exact hb,Nat.le_refl _,hq⟩
theorem zb5.fill {H:Heap} {id t:Nat} (b:Blk) (h0:H[id]?=some (.hole t)):zb5 H (H.set id b):=by
 refine⟨fun j B hb hq ver sz' sh' es' hv h1=>?_,fun j B hb hq=>?_⟩
 .by_cases hj:id=j
  .subst hj
   rw[h0]at hb;cases hb;cases hq
  .rw[gEn hj]at h1
   exact⟨sh',es',h1,fun _ _ h=>h⟩
 .by_cases hj:id=j
  .subst hj
   rw[h0]at hb;cases hb;cases hq
  .exact⟨B,by rw[gEn hj];exact hb,Nat.le_refl _,hq⟩
theorem zpI {H H1:Heap} {sz:Nat} {x v:AV} {ys:List AV} (h:zb3 (truncH H x) sz x ys=some (v,H1)):zb5 H H1:=by
 unfold zb3 at h
 split at h
 .have ht:truncH H (.isl (some true) ‹Nat› [])=H:=rfl
  rw[ht]at h
  split at h
  .cases h;exact zb5.refl _
  .split at h
   .cases h;exact zb5.append _ _
   .cases h
 .rename_i id ver off len
  split at h
  .rename_i v0 s sh es hb
   split at h
   .rename_i hc
    obtain⟨rfl,rfl,hlen⟩:=hc
    obtain⟨es0,g1,g2,g3⟩:∃es0,H[id]?=some (.arr v0 s sh es0)∧(∀(i:Nat) (e:AV),es[i]?=some e→es0[i]?=some e)∧((truncH H (.osl id v0 off len)=H∧es=es0)∨truncH H (.osl id v0 off len)=H.set id (.arr v0 s sh es)):=by
     simp only[truncH]at hb⊢
     split at hb
     .rename_i v1 s1 es1 h1
      split at hb
      .rename_i hc1
       have hid:=(gEs.1 h1).1
       rw[gEt hid]at hb
       simp only[oSi,Blk.arr.injEq]at hb
       obtain⟨rfl,rfl,rfl,hb⟩:=hb
       refine⟨es1,h1,fun i e he=>?_,.inr ?_⟩
       .rw[←hb,List.getElem?_take]at he
        split at he
        .exact he
        .cases he
       .simp only[h1]
        rw[if_pos ⟨trivial,hc1.2⟩,hb]
      .rename_i hc1
       rw[h1]at hb
       cases hb
       exact⟨es,h1,fun _ _ h=>h,.inl ⟨by simp only[h1];exact if_neg (fun hh=>hc1 ⟨rfl,hh.2⟩),rfl⟩⟩
     .rename_i hn
      refine⟨es,hb,fun _ _ h=>h,.inl ⟨?_,rfl⟩⟩
      first|rfl|(split<;>first|rfl|(rename_i h2;exact absurd h2 (hn _ _ _)))
    have hid:=(gEs.1 g1).1
    split at h
    .cases h
     rcases g3 with⟨g3,_⟩|g3
     .rw[g3];exact zb5.refl _
     .rw[g3];exact zb5.set (n:=0) g1 (fun _=>g2)
    .rename_i hys
     split at h
     .cases h
      have hset:∀B,(truncH H (.osl id v0 off len)).set id B=H.set id B:=fun B=>by
       rcases g3 with⟨g3,_⟩|g3<;>rw[g3]
       rw[List.set_set]
      rw[hset]
      refine zb5.set g1 (fun h0=>?_)
      exact absurd (List.eq_nil_of_length_eq_zero h0) (by intro e;exact hys e)
     .cases h
   .cases h
  .cases h
 .split at h
  .cases h;exact zb5.refl _
  .cases h
 .cases h
theorem zfB {R:Rec} {p:LI} {E E1:Env} {H H1:Heap} (hp:(zu1 p.k||zay p.k||(zbd p.k).isSome)=true) (h:zt R p E H=some (E1,H1)):zb5 H H1:=by
 rcases zaL h with⟨rfl,_⟩|⟨k,xs,vs,v,k1,k2,k3,k4⟩
 .exact zb5.refl _
 .rw[k1]at hp
  simp only[Bool.or_eq_true]at hp
  rcases hp with (hp|hp)|hp
  .have hx:∃sz ws,ex H (.app sz) ws=some (v,H1):=by
    cases k<;>simp only[zu1,bFt]at hp
    .rename_i sz
     match vs,k3 with
     |x::y::as',k3=>
      have k3':(if as'.all (apart x) then ex H (.app sz) [x,y] else none)=some (v,H1):=k3
      split at k3'
      .exact⟨sz,_,k3'⟩
      .cases k3'
     | [],k3=>cases k3
     | [_],k3=>cases k3
    .exact⟨_,vs,k3⟩
   obtain⟨sz,vs,hx⟩:=hx
   match vs,hx with
   | [x,y],hx=>
    simp only[ex]at hx
    split at hx
    .split at hx
     .exact zpI hx
     .cases hx
    .cases hx
   | [],hx=>simp[ex]at hx
   | [_],hx=>simp[ex]at hx
   |_::_::_::_,hx=>simp[ex]at hx
  .obtain⟨b,rfl,_⟩:=zdc hp k3
   exact zb5.append _ _
  .obtain⟨t,ht⟩:=Option.isSome_iff_exists.1 hp
   obtain⟨id,b,f1,rfl,_⟩:=zcT ht k3
   exact zb5.fill b (zR f1)
theorem zdi.on {H H1:Heap} (hg:zb5 H H1) {y:AV} (h:zdi H y):zdi H1 y:=by
 cases y<;>simp only[zdi]at h⊢
 all_goals
  obtain⟨B,h1,h2,hq⟩:=h
  obtain⟨B',h3,h4,h5⟩:=hg.on _ B h1 hq
  exact⟨B',h3,Nat.le_trans h2 h4,h5⟩
theorem zjs {R:Rec} {k:OpK} {xs:List Src} {a:Nat} {y:AV} {ys:List AV} {v:AV} {H H1 H2:Heap} (hk:z8 (.op k xs)=some a) (h:exec R H1 k (y::ys)=some (v,H2)) (hg:zb5 H H1) (hy:zdi H y):exec R H k (y::ys)=some (v,H):=by
 refine zfo hk h (fun id ver hp sz sh es hb=>?_)
 cases y<;>simp only[zcq,reduceCtorEq,oSi,pMi]at hp
 all_goals
  obtain⟨rfl,rfl⟩:=hp
  obtain⟨B,h1,h2,hq⟩:=hy
  exact hg.back _ B h1 hq _ sz sh es h2 hb
theorem ziY {R:Rec} {p i:LI} {E E1 E2:Env} {H H1 H2:Heap} (hb:back p i=true) (hok:∀a,z8 i.k=some a→zdi H (E a)) (h1:zt R p E H=some (E1,H1)) (h2:zt R i E1 H1=some (E2,H2)):
  ∃E' H',zt R i E H=some (E',H')∧zt R p E' H'=some (E2,H2):=by
 simp only[back,dstB,bAt,dTe]at hb
 obtain⟨⟨s1,s2⟩,s3,s4,s5⟩:=hb
 have hgr:=zfB s3 h1
 have hH2:H2=H1:=zaS (by omega) h2
 subst hH2
 obtain⟨vi,rfl,ci⟩:=zy h1
 obtain⟨vj,rfl,cj⟩:=zy h2
 have rj:∀s∈zX i,E s=(putE E p.dst vi) s:=by
  intro s hs
  rw[zA]
  split
  .rename_i hd
   rw[hd]at s1
   simp at s1
   exact absurd hs s1.1
  .rfl
 have ri:∀s∈zX p,(putE E i.dst vj) s=E s:=by
  intro s hs
  rw[zA]
  split
  .rename_i hd
   rw[hd]at s2
   simp at s2
   exact absurd hs s2
  .rfl
 have hne:∀x,p.dst=some x→i.dst≠some x:=by
  intro x hx hj
  rw[hx,hj]at s1
  simp at s1
 have hi0:=cj E rj
 have comm:putE (putE E i.dst vj) p.dst vi=putE (putE E p.dst vi) i.dst vj:=zaR (d:=i.dst) (fun x hx hi=>hne x hi hx)
 have hp2:zt R p (putE E i.dst vj) H=some (putE (putE E p.dst vi) i.dst vj,H2):=by rw[ci (putE E i.dst vj) ri,comm]
 rcases zaL hi0 with⟨e,all⟩|⟨ki,xi,wi,ui,k1,k2,k3,k4⟩
 .exact⟨_,_,all H,hp2⟩
 .rw[k1]at s4
  obtain⟨a,ha⟩:=Option.isSome_iff_exists.1 s4
  have hxp:∃r,xi= .t a::r:=by
   cases xi with
   |nil=>cases ki<;>simp[z8]at ha
   |cons y r=>cases y<;>cases ki<;>simp[z8]at ha<;>exact⟨r,by rw[ha]⟩
  obtain⟨r,rfl⟩:=hxp
  have hka:=hok a (by rw[k1];exact ha)
  simp only[vals]at k2
  split at k2
  .rename_i y ys o5 o6
   cases k2
   have hy:E a=y:=(zaW o5).1
   rw[hy]at hka
   exact⟨_,_,k4 _ _ (zjs ha k3 hgr hka),hp2⟩
  .cases k2
theorem zk1 (i:LI):kH (zx i).k=kH i.k:=by
 obtain⟨d,k,g⟩:=i
 cases k with
 |pick c x y=>rfl
 |op k xs=>cases k<;>rfl
theorem zcK {i:LI} (h:kH i.k=1):zx i=i:=by
 obtain⟨d,k,g⟩:=i
 cases k with
 |pick c x y=>rfl
 |op k xs=>cases k<;>first|rfl|(simp[kH]at h;done)
theorem zev {i:LI} {a:Nat} (h:z8 i.k=some a):a∈zX i:=by
 obtain⟨d,k,g⟩:=i
 simp only at h
 simp only[zX,List.mem_append]
 right
 cases k with
 |pick c x y=>simp[z8]at h
 |op k xs=>
  cases xs with
  |nil=>cases k<;>simp[z8]at h
  |cons y r=>cases y<;>cases k<;>simp[z8]at h<;>(subst h;simp[zfn,zcD])
def zhH (R:Rec) (i:LI) (E:Env) (H:Heap) (a:Nat):Prop:=∀r,zt R (zx i) E H=some r→r.2=H∨zgf H r.2 (E a)=true∨r.2.take H.length=H
def zkh (R:Rec) (i:LI) (E:Env) (H:Heap):Prop:=∀r,zt R (zx i) E H=some r→r.2=H∨r.2.take H.length=H
theorem zkh.c {R:Rec} {i:LI} {E:Env} {H:Heap} (h:zkh R i E H) (a:Nat):zhH R i E H a:=fun r hr=>by
 rcases h r hr with e|e
 .exact .inl e
 .exact .inr (.inr e)
theorem zgK {H H':Heap} (h:H'.take H.length=H) {id:Nat} {b:Blk} (hb:H[id]?=some b):H'[id]?=some b:=by
 have hl:=(gEs.1 hb).1
 rw[←h,List.getElem?_take,if_pos hl]at hb
 exact hb
theorem zg8 {k:LK} (h:isN k=true):∃f n xs,k= .op (.callA f n) xs∧1000≤n:=by
 cases k with
 |pick c x y=>cases h
 |op k xs=>cases k<;>first|(cases h;done)|exact⟨_,_,_,rfl,by simpa[isN]using h⟩
theorem zhJ {E:Nat→AV}:∀{xs:List Src} {vs:List AV} (n:Nat),vals E xs=some vs→vals E (xs.drop n)=some (vs.drop n)
 | [],vs,n,h=>by simp only[vals,oSi]at h;subst h;simp[vals]
 |x::xs,vs,0,h=>by simpa using h
 |x::xs,vs,n+1,h=>by
  simp only[vals]at h
  split at h
  .rename_i v vs' h1 h2
   cases h
   simpa using zhJ n h2
  .cases h
theorem zaK {R:Rec} {i:LI} {E E1:Env} {H H1:Heap} (h:zt R i E H=some (E1,H1)):zt R (zx i) E H=some (E1,H1):=(zgj h).1
theorem zcS {k:LK} {a:Nat} (h:a∈zcg k):∃f n xs,k= .op (.callA f n) xs∧a∈(xs.drop n).flatMap zcD:=by
 cases k with
 |pick c x y=>simp[zcg]at h
 |op k xs=>cases k<;>first|(simp[zcg]at h;done)|exact⟨_,_,_,rfl,h⟩
theorem zmb {k:LK} {a:Nat} (h:a∈zcg k):kH k=2:=by
 obtain⟨f,n,xs,rfl,_⟩:=zcS h;rfl
theorem zgQ {R:Rec} {i:LI} {E E1:Env} {H H1:Heap} {a:Nat} (h:zt R i E H=some (E1,H1)) (ha:a∈zcg i.k):zhH R i E H a:=by
 intro r hr
 rw[zaK h]at hr
 cases hr
 obtain⟨d,k,g⟩:=i
 obtain⟨f,n,xs,hk,hm⟩:=zcS ha
 simp only at hk
 subst hk
 unfold zt at h
 simp only at h
 split at h
 .simp only[zbv]at h
  split at h
  .rename_i vs hvs
   cases hx:exec R H (.callA f n) vs with
   |none=>simp[hx]at h
   |some q=>
    simp only[hx,oMs,oSi,pMi]at h
    obtain⟨_,rfl⟩:=h
    exact .inr (.inl ((zeh hx).2.1 _ (zdY (zhJ n hvs) hm)))
  .cases h
 .cases h;exact .inl rfl
 .cases h
theorem zgP {R:Rec} {i:LI} {E E1:Env} {H H1:Heap} (h:zt R i E H=some (E1,H1)) (ha:isN i.k=true):zkh R i E H:=by
 intro r hr
 rw[zaK h]at hr
 cases hr
 obtain⟨d,k,g⟩:=i
 obtain⟨f,n,xs,hk,hn⟩:=zg8 ha
 simp only at hk
 subst hk
 unfold zt at h
 simp only at h
 split at h
 .simp only[zbv]at h
  split at h
  .rename_i vs hvs
   cases hx:exec R H (.callA f n) vs with
   |none=>simp[hx]at h
   |some q=>
    simp only[hx,oMs,oSi,pMi]at h
    obtain⟨_,rfl⟩:=h
    exact .inr ((zeh hx).2.2 hn)
  .cases h
 .cases h;exact .inl rfl
 .cases h
theorem zdq {H H':Heap} {y:AV} (h:zgf H H' y=true) {id ver:Nat} (hp:zcq y=some (id,ver)):H'[id]?=H[id]?:=by
 cases y<;>simp only[zcq,reduceCtorEq,oSi,pMi]at hp
 all_goals
  obtain⟨rfl,rfl⟩:=hp
  simp only[zgf]at h
  split at h
  .rename_i a b h1 h2
   rw[h1,h2,Blk.beq_eq h]
  .cases h
theorem zgo {R:Rec} {p:LI} {E E1:Env} {H H1:Heap} {a:Nat} (hs:zhH R p E H a) (h:zt R (zx p) E H=some (E1,H1)) (hk:zdi H (E a)):zdi H1 (E a):=by
 rcases hs _ h with e|e|e
 .simp only at e;rw[e];exact hk
 .have key:=fun id ver hp=>zdq e (id:=id) (ver:=ver) hp
  generalize E a=y at hk key
  cases y<;>simp only[zdi]at hk⊢
  all_goals
   rw[key _ _ rfl];exact hk
 .generalize E a=y at hk
  cases y<;>simp only[zdi]at hk⊢
  all_goals
   obtain⟨B,b1,b2⟩:=hk
   exact⟨B,zgK e b1,b2⟩
theorem zlG {R:Rec} {i p:LI} {E:Env} {H:Heap} {v:AV} {a:Nat} (hd:∀d,p.dst=some d→d∉zX (zx i)) (hpa:p.dst≠some a) (h:zhH R i (putE E p.dst v) H a):zhH R i E H a:=by
 intro r hr
 obtain⟨E1,H1⟩:=r
 obtain⟨u,_,hu⟩:=zy hr
 have h1:=hu (putE E p.dst v) (fun s hs=>by
  rw[zA]
  split
  .rename_i hd';exact absurd hs (hd s hd')
  .rfl)
 have:=h _ h1
 rw[zA,if_neg hpa]at this
 exact this
theorem zlF {R:Rec} {i p:LI} {E:Env} {H:Heap} {v:AV} (hd:∀d,p.dst=some d→d∉zX (zx i)) (h:zkh R i (putE E p.dst v) H):zkh R i E H:=by
 intro r hr
 obtain⟨E1,H1⟩:=r
 obtain⟨u,_,hu⟩:=zy hr
 have h1:=hu (putE E p.dst v) (fun s hs=>by
  rw[zA]
  split
  .rename_i hd';exact absurd hs (hd s hd')
  .rfl)
 have h2:=h _ h1
 exact h2
theorem zh8 {i p:LI} {r:List LI} (ha:∃f n xs,i.k= .op (.callA f n) xs) (h:zfX p (zx i)=true∨soft p (zx i)=true∨away p i r=true∨back p (zx i)=true∨zfZ p (zx i)=true∨zeP p i r=true∨zeO p i r=true∨zhD p (zx i)=true):kH p.k≤1:=by
 obtain⟨d,k,g⟩:=i
 obtain⟨f,n,xs,hk⟩:=ha
 simp only at hk
 subst hk
 have hk2:kH (zx ⟨d,.op (.callA f n) xs,g⟩).k=2:=rfl
 have hex:zb0 (LK.op (.callA f n) xs)=[]:=by
  cases xs with
  |nil=>rfl
  |cons x r=>cases r<;>rfl
 have hal:zay (zx ⟨d,.op (.callA f n) xs,g⟩).k=false:=rfl
 have hfi:zbd (zx ⟨d,.op (.callA f n) xs,g⟩).k=none:=rfl
 have hrd:z8 (zx ⟨d,.op (.callA f n) xs,g⟩).k=none:=rfl
 rcases h with h|h|h|h|h|h|h|h
 .simp only[zfX,bAt]at h
  have h3:=h.2
  rw[hk2]at h3
  simp at h3
  omega
 .simp only[soft,hal,Bool.false_and,Bool.and_false,bFt]at h
 .simp only[away,bAt]at h
  have h2:=h.2
  split at h2
  .simp[hex]at h2
  .cases h2
 .simp[back,hk2]at h
 .simp only[zfZ,bAt]at h
  have h2:=h.2
  rw[hfi]at h2
  cases hpf:zbd p.k with
  |none=>rw[hpf]at h2;cases h2
  |some u=>
   rw[hpf]at h2
   simp only at h2
   rw[hal]at h2
   cases h2
 .simp[zeP,znV]at h
 .simp only[zeO,bAt]at h
  have h2:=h.2
  split at h2
  .rename_i b hb
   obtain⟨dp,kp,gp⟩:=p
   cases kp with
   |pick c x y=>simp[z8]at hb
   |op kp xp=>exact zbG hb
  .cases h2
 .simp[zhD,hrd]at h
theorem zgw {p i:LI} (h:dstB p i=true):(∀d,p.dst=some d→d∉zX i)∧(∀d,i.dst=some d→d∉zX p)∧(∀x,p.dst=some x→i.dst≠some x):=by
 simp only[dstB,bAt]at h
 obtain⟨h1,h2⟩:=h
 refine⟨fun d hd hm=>?_,fun d hd hm=>?_,fun x hx hi=>?_⟩
 .rw[hd]at h1;simp at h1;exact h1.1 hm
 .rw[hd]at h2;simp at h2;exact h2 hm
 .rw[hx]at h1;simp at h1;exact h1.2 hi
theorem zhY {R:Rec} {p:LI} {E E1:Env} {H H1 H2:Heap} {a:Nat} (hr:z8 p.k=some a) (h:zt R p E H=some (E1,H1)) (keep:∀id ver,zcq (E a)=some (id,ver)→∀b,H[id]?=some b→H2[id]?=some b):zt R p E H2=some (E1,H2):=by
 rcases zaL h with⟨rfl,h2⟩|⟨k,xs,vs,v,k1,k2,k3,k4⟩
 .exact h2 H2
 .rw[k1]at hr
  have hx:∃r,xs= .t a::r:=by
   cases xs with
   |nil=>cases k<;>simp[z8]at hr
   |cons s r=>cases s<;>cases k<;>simp[z8]at hr<;>(subst hr;exact⟨r,rfl⟩)
  obtain⟨r,rfl⟩:=hx
  simp only[vals]at k2
  split at k2
  .rename_i y ys o5 o6
   cases k2
   have hy:E a=y:=(zaW o5).1
   rw[hy]at keep
   exact k4 _ _ (zgv hr k3 keep).2
  .cases k2
theorem zdV {R:Rec} {p i:LI} {E E1 E2:Env} {H H1 H2:Heap} {a:Nat} (hd:dstB p (zx i)=true) (hr:z8 p.k=some a) (hseen:zhH R i E H a) (h1:zt R p E H=some (E1,H1)) (h2:zt R (zx i) E1 H1=some (E2,H2)):
  ∃E' H',zt R (zx i) E H=some (E',H')∧zt R p E' H'=some (E2,H2):=by
 obtain⟨d1,d2,d3⟩:=zgw hd
 have hle:kH p.k≤1:=by
  obtain⟨dp,kp,gp⟩:=p
  cases kp with
  |pick c x y=>simp[z8]at hr
  |op kp xp=>exact zbG hr
 have hH:H1=H:=zaS hle h1
 subst hH
 obtain⟨vp,rfl,sp⟩:=zy h1
 obtain⟨vi,rfl,si⟩:=zy h2
 have e1:=si E (fun s hs=>by
  rw[zA]
  split
  .rename_i hd';exact absurd hs (d1 s hd')
  .rfl)
 refine⟨_,_,e1,?_⟩
 have keep:∀id ver,zcq (E a)=some (id,ver)→∀b,H1[id]?=some b→H2[id]?=some b:=by
  intro id ver hp b hb
  rcases hseen _ e1 with e|e|e
  .simp only at e;rw[e];exact hb
  .rw[zdq e hp];exact hb
  .exact zgK e hb
 have e2:=zhY hr h1 keep
 obtain⟨vp',hvp,sp'⟩:=zy e2
 have e3:=sp' (putE E (zx i).dst vi) (fun s hs=>by
  rw[zA]
  split
  .rename_i hd';exact absurd hs (d2 s hd')
  .rfl)
 rw[e3,hvp]
 rw[zaR (E:=E) (d:=(zx i).dst) (d':=p.dst) (fun x hx hy=>d3 x hy hx)]
theorem zdU {R:Rec} {p i:LI} {E E1 E2:Env} {H H1 H2:Heap} {a:Nat} (hd:dstB p i=true) (hr:z8 i.k=some a) (hkn:zdi H (E a)) (hseen:zhH R p E H a) (hp:zt R (zx p) E H=some (E1,H1)) (h1:zt R p E H=some (E1,H1)) (h2:zt R i E1 H1=some (E2,H2)):
  ∃E' H',zt R i E H=some (E',H')∧zt R p E' H'=some (E2,H2):=by
 obtain⟨d1,d2,d3⟩:=zgw hd
 have hle:kH i.k≤1:=by
  obtain⟨dp,kp,gp⟩:=i
  cases kp with
  |pick c x y=>simp[z8]at hr
  |op kp xp=>exact zbG hr
 have hH:H2=H1:=zaS hle h2
 subst hH
 obtain⟨vp,rfl,sp⟩:=zy h1
 have hEa:(putE E p.dst vp) a=E a:=by
  rw[zA,if_neg (fun h=>d1 a h (zev hr))]
 have keep:∀id ver,zcq ((putE E p.dst vp) a)=some (id,ver)→∀b,H2[id]?=some b→H[id]?=some b:=by
  intro id ver hpl b hb
  rw[hEa]at hpl
  rcases hseen _ hp with e|e|e
  .simp only at e;rw[←e];exact hb
  .rw[←zdq e hpl];exact hb
  .obtain⟨B,hB⟩:∃B,H[id]?=some B:=by
    generalize E a=y at hpl hkn
    cases y<;>simp only[zcq,reduceCtorEq,oSi,pMi]at hpl
    all_goals
     obtain⟨rfl,rfl⟩:=hpl
     obtain⟨B,b1,_⟩:=hkn
     exact⟨B,b1⟩
   have:=zgK e hB
   simp only at this
   rw[hb]at this
   rw[hB,this]
 have e1:=zhY hr h2 keep
 obtain⟨vi,rfl,si⟩:=zy e1
 have e2:=si E (fun s hs=>by
  rw[zA]
  split
  .rename_i hd';exact absurd hs (d1 s hd')
  .rfl)
 refine⟨_,_,e2,?_⟩
 have e3:=sp (putE E i.dst vi) (fun s hs=>by
  rw[zA]
  split
  .rename_i hd';exact absurd hs (d2 s hd')
  .rfl)
 rw[e3]
 rw[zaR (E:=E) (d:=i.dst) (d':=p.dst) (fun x hx hy=>d3 x hy hx)]
def zpR (i:LI):List LI→Prop
 | []=>True
 |p::r=>(zfX p (zx i)=true∨soft p (zx i)=true∨away p i r=true∨back p (zx i)=true∨zfZ p (zx i)=true∨zeP p i r=true∨zeO p i r=true∨zhD p (zx i)=true)∧zpR i r
theorem zm9 {i p:LI} {E:Env} {v:AV} {a:Nat} (hd:∀d,p.dst=some d→d∉zX (zx i)) (hpa:p.dst≠some a) (h:Seen i (putE E p.dst v) a):Seen i E a:=by
 intro k k0 x1 x2 ax hk hb hg
 have hsame:∀s∈zX (zx i),(putE E p.dst v) s=E s:=by
  intro s hs
  rw[zA]
  split
  .rename_i hd';exact absurd hs (hd s hd')
  .rfl
 have hreads:zX (zx i)=(match i.g with|some (t,_)=> [t]|none=> [])++([x1,x2].flatMap zcD):=by
  simp only[zX,zx,hk,zbh hb,zfn,List.take_succ_cons,List.take_zero]
 have hg':gval (putE E p.dst v) i.g=some true:=by
  rw[←hg]
  refine zbi (fun t want e=>hsame t ?_)
  rw[hreads,e];simp
 have:=h k k0 x1 x2 ax hk hb hg'
 have e1:evS (putE E p.dst v) x1=evS E x1:=by
  cases x1 with
  |c w=>rfl
  |t s=>exact hsame s (by rw[hreads];simp[zcD])
 have e2:(putE E p.dst v) a=E a:=by rw[zA,if_neg hpa]
 rw[e1,e2]at this
 exact this
theorem zty {R:Rec} {i:LI}:∀(pre post:List LI) {E E':Env} {H H':Heap},zpR i pre→(kH i.k=1→∀a,z8 i.k=some a→zdi H (E a))→frun R (pre++i::post) E H=some (E',H')→
  ∃E1 H1,zt R (zx i) E H=some (E1,H1)∧frun R (pre++post) E1 H1=some (E',H')∧(∀a∈zb0 i.k,(∀q∈pre,q.dst≠some a)→Seen i E a)∧(∀a∈zcg i.k,(∀q∈pre,q.dst≠some a)→zhH R i E H a)∧(isN i.k=true→zkh R i E H)
 | [],post,E,E',H,H',hp,hkn,h=>by
  simp only[List.nil_append,frun]at h
  cases hs:zt R i E H with
  |none=>simp[hs]at h
  |some p=>
   simp only[hs,Option.bind_some]at h
   obtain⟨g1,g2⟩:=zgj hs
   exact⟨p.1,p.2,g1,h,fun a ha _=>g2 a ha,fun a ha _=>zgQ hs ha,fun ha=>zgP hs ha⟩
 |p::pre,post,E,E',H,H',hp,hkn,h=>by
  simp only[List.cons_append,frun]at h
  cases hs:zt R p E H with
  |none=>simp[hs]at h
  |some q=>
   obtain⟨Ep,Hp⟩:=q
   simp only[hs,Option.bind_some]at h
   have hdr:∀d,p.dst=some d→d∉zX (zx i):=by
    intro d hd hm
    have key:(p.dst.all fun d=> !(zX (zx i)).contains d&& !((zx i).dst.toList).contains d)=true:=by
     rcases hp.1 with h|h|h|h|h|h|h|h
     rotate_left 6
     .simp only[zeO,dstB,bAt]at h;exact h.1.1
     .simp only[zhD,dstB,bAt]at h;exact h.1.1
     rotate_right
     .simp only[zeP,dstB,bAt]at h;exact h.1.1
     .simp only[zfX,bAt]at h;exact h.1.1
     .simp only[soft,dstB,bAt]at h;exact h.1.1
     .simp only[away,dstB,bAt]at h;exact h.1.1
     .simp only[Go.Proofs.YtbddckhdbnmamaaGreat.back,dstB,bAt]at h;exact h.1.1
     .simp only[zfZ,dstB,bAt]at h;exact h.1.1
    rw[hd]at key
    simp at key
    exact key.1 hm
   have hkn2:kH i.k=1→∀a,z8 i.k=some a→zdi Hp (Ep a):=by
    intro hk a ha
    have h0:=hkn hk a ha
    have hpl:=zcK hk
    have hEa:Ep a=E a:=by
     obtain⟨v,hv,_⟩:=zy hs
     rw[hv,zA,if_neg (fun hd=>hdr a hd (by rw[hpl];exact zev ha))]
    rw[hEa]
    rcases hp.1 with hi|hi|hi|hi|hi|hi|hi|hi
    rotate_left 6
    .simp only[zeO,bAt]at hi
     obtain⟨_,i2⟩:=hi
     split at i2
     .simp only[Bool.or_eq_true,bAt,List.contains_iff_mem]at i2
      rcases i2 with i2|i2
      .obtain⟨f,n,xs,e,_⟩:=zg8 i2
       rw[e]at hk;cases hk
      .have:=zmb i2.1
       omega
     .cases i2
    .rw[hpl]at hi
     simp only[zhD,bAt]at hi
     rw[ha]at hi
     simp only[bAt,Bool.or_eq_true,List.contains_iff_mem]at hi
     rcases hi.2.2 with hi|hi
     .exact zgo ((zgP hs hi).c _) (zaK hs) h0
     .exact zgo (zgQ hs hi) (zaK hs) h0
    rotate_right
    .simp only[zeP,bAt]at hi
     have h2:=hi.2.1
     cases hik:i.k with
     |pick c x y=>rw[hik]at h2;cases h2
     |op k xs=>
      rw[hik]at h2 hk
      cases k<;>simp only[znV,bFt]at h2
      simp[kH]at hk
    .rw[hpl]at hi
     simp only[zfX,hk,bAt,Bool.or_eq_true,beq_iff_eq,dTe]at hi
     have hle:kH p.k≤1:=by omega
     rw[zaS hle hs];exact h0
    .rw[hpl]at hi
     simp only[soft,bAt]at hi
     have:=zlt hi.2.1
     omega
    .simp only[away,bAt]at hi
     obtain⟨_,i2⟩:=hi
     split at i2
     .simp only[bAt,List.contains_iff_mem]at i2
      obtain⟨k1,k0,x1,x2,ax,e,hb,_⟩:=zbO i2.1
      rw[e]at hk
      cases k1<;>simp only[zbE,reduceCtorEq,oSi]at hb<;>simp[kH]at hk
     .cases i2
    .simp only[Go.Proofs.YtbddckhdbnmamaaGreat.back,bAt]at hi
     exact h0.on (zfB hi.2.1 hs)
    .rw[hpl]at hi
     simp only[zfZ,bAt]at hi
     have:=zrh hi.2
     omega
   obtain⟨E1,H1,h1,h2,h3,h3C,h3N⟩:=zty pre post hp.2 hkn2 h
   obtain⟨vp,hEp,_⟩:=zy hs
   have back:∀a∈zb0 i.k,(∀q∈p::pre,q.dst≠some a)→Seen i E a:=by
    intro a ha hq
    have:=h3 a ha (fun q hq'=>hq q (by simp[hq']))
    rw[hEp]at this
    exact zm9 hdr (hq p (by simp)) this
   have backC':∀a∈zcg i.k,(∀q∈p::pre,q.dst≠some a)→zhH R i E H a:=by
    intro a ha hq
    have h0:=h3C a ha (fun q hq'=>hq q (by simp[hq']))
    have hle:kH p.k≤1:=zh8 (by obtain⟨f,n,xs,e,_⟩:=zcS ha;exact⟨f,n,xs,e⟩) hp.1
    have hHp:Hp=H:=zaS hle hs
    subst hHp
    rw[hEp]at h0
    exact zlG hdr (hq p (by simp)) h0
   have backN':isN i.k=true→zkh R i E H:=by
    intro ha
    have h0:=h3N ha
    have hle:kH p.k≤1:=zh8 (by obtain⟨f,n,xs,e,_⟩:=zg8 ha;exact⟨f,n,xs,e⟩) hp.1
    have hHp:Hp=H:=zaS hle hs
    subst hHp
    rw[hEp]at h0
    exact zlF hdr h0
   have key:∃Ei Hi,zt R (zx i) E H=some (Ei,Hi)∧zt R p Ei Hi=some (E1,H1):=by
    rcases hp.1 with hi|hi|hi|hi|hi|hi|hi|hi
    rotate_left 6
    .simp only[zeO,bAt]at hi
     obtain⟨i1,i2⟩:=hi
     split at i2
     .rename_i a hr
      simp only[Bool.or_eq_true,bAt,List.contains_iff_mem]at i2
      rcases i2 with i2|⟨i3,i4⟩
      .exact zdV i1 hr ((backN' i2).c _) hs h1
      .exact zdV i1 hr (backC' a i3 (fun q hq=>by have:=lAt.1 i4 q hq;simpa using this)) hs h1
     .cases i2
    .simp only[zhD,bAt]at hi
     obtain⟨i1,i2⟩:=hi
     split at i2
     .rename_i a hr
      simp only[bAt,Bool.or_eq_true,List.contains_iff_mem,dTe]at i2
      have hk:kH i.k=1:=by rw[←zk1];exact i2.1
      have hka:zdi H (E a):=hkn hk a (by rw[←zcK hk];exact hr)
      rcases i2.2 with i3|i3
      .exact zdU i1 hr hka ((zgP hs i3).c _) (zaK hs) hs h1
      .exact zdU i1 hr hka (zgQ hs i3) (zaK hs) hs h1
     .cases i2
    rotate_right
    .simp only[zeP,bAt]at hi
     obtain⟨i1,i0,i2⟩:=hi
     split at i2
     .rename_i a hr
      simp only[bAt,List.contains_iff_mem]at i2
      obtain⟨i3,i4⟩:=i2
      exact zf2 i1 i0 hr i3 (back a i3 (fun q hq=>by have:=lAt.1 i4 q hq;simpa using this)) hs h1
     .cases i2
    .exact zvO hi hs h1
    .exact ziW hi hs h1
    rotate_left 2
    .exact ziX hi hs h1
    rotate_left
    .refine ziY hi (fun a ha=>?_) hs h1
     have hk:kH i.k=1:=by
      simp only[Go.Proofs.YtbddckhdbnmamaaGreat.back,bAt,dTe]at hi
      rw[←zk1];exact hi.2.2.2
     rw[zcK hk]at ha
     exact hkn hk a ha
    .simp only[away,bAt]at hi
     obtain⟨i1,i2⟩:=hi
     split at i2
     .rename_i a hr
      simp only[bAt,List.contains_iff_mem]at i2
      obtain⟨i3,i4⟩:=i2
      exact ziZ i1 hr i3 (back a i3 (fun q hq=>by have:=lAt.1 i4 q hq;simpa using this)) hs h1
     .cases i2
   obtain⟨Ei,Hi,k1,k2⟩:=key
   refine⟨Ei,Hi,k1,?_,back,backC',backN'⟩
   simp only[List.cons_append,frun,k2,Option.bind_some]
   exact h2
def zgI (C:zbc) (K:Ctx) (w:World) (M:Mut) (R:Res) (E':Env) (H':Heap) (a:Act) (Q:Exit→Act→World→Prop):Prop:=
 ∀w' M' R' a',WR C K w' M' R' H'→Evol R M w R' M' w'→EnvR w' M' R' E' a'→a'.tmps.size=a.tmps.size→a'.defers=a.defers→Q .normal a' w'
theorem zgI.step {w w':World} {M M':Mut} {R R':Res} {E':Env} {H':Heap} {a a':Act} {Q:Exit→Act→World→Prop} (h:zgI C K w M R E' H' a Q) (he:Evol R M w R' M' w') (h1:a'.tmps.size=a.tmps.size) (h2:a'.defers=a.defers):zgI C K w' M' R' E' H' a' Q:=
 fun w'' M'' R'' a'' k1 k2 k3 k4 k5=>h w'' M'' R'' a'' k1 (he.trans k2) k3 (k4.trans h1) (k5.trans h2)
theorem zf7 {Rr:Rec} (hR:zca P C Rr) (hP:zbS P C Rr) {N n:Nat} {ops:Array Oper} {Q:Exit→Act→World→Prop} {E':Env} {H':Heap}:∀(l:List Oper) (lis:List LI) (k:Nat) (E:Env) (H:Heap) (w:World) (M:Mut) (R:Res) (a:Act),
  (∀j,l[j]?=ops[k+j]?)→zcr P N ops l=some (lis.map LI.erase)→frun Rr lis E H=some (E',H')→WR C K w M R H→EnvR w M R E a→a.tmps.size=N→zgI C K w M R E' H' a Q→
  wpOpsIn (Wf ρ) n P ops Q (List.range' k l.length) a w
 | [],lis,k,E,H,w,M,R,a,hl,hli,hf,hw,he,hN,hQ=>by
  simp only[zcr,oSi]at hli
  have:lis=[]:=by simpa using hli.symm
  subst this
  simp only[frun,oSi,pMi]at hf
  obtain⟨rfl,rfl⟩:=hf
  exact hQ w M R a hw (Evol.refl _ _ _) he rfl rfl
 |o::l,lis,k,E,H,w,M,R,a,hl,hli,hf,hw,he,hN,hQ=>by
  simp only[zcr]at hli
  split at hli
  .rename_i i is h1 h2
   cases lis with
   |nil=>simp at hli
   |cons li lis=>
    simp only[List.map_cons,oSi,List.cons.injEq]at hli
    obtain⟨rfl,rfl⟩:=hli
    simp only[frun]at hf
    cases hs:zt Rr li E H with
    |none=>simp[hs]at hf
    |some p=>
     obtain⟨E1,H1⟩:=p
     simp only[hs,Option.bind_some]at hf
     have h0:ops[k]?=some o:=by simpa using (hl 0).symm
     simp only[lLc,List.range'_succ,wpOpsIn,h0]
     refine zf9 hR hP h1 hs hw he hN ?_
     intro w' M' R' a' k1 k2 k3 k4 k5
     exact zf7 hR hP l lis (k+1) E1 H1 w' M' R' a' (fun j=>by have:=hl (j+1);simpa[Nat.add_assoc,Nat.add_comm 1 j]using this) h2 hf k1 k3 k4 (hQ.step k2 (by rw[k4,hN]) k5)
  .cases hli
theorem zec {N:Nat} {ops:Array Oper}:∀{l:List Oper} {is:List LI},zcr P N ops l=some is→is.length=l.length∧∀(k:Nat) (o:Oper) (i:LI),l[k]?=some o→is[k]?=some i→zjE P N ops o=some i
 | [],is,h=>by simp[zcr]at h;subst h;simp
 |o::l,is,h=>by
  simp only[zcr]at h
  split at h
  .rename_i i is' h1 h2
   cases h
   obtain⟨k1,k2⟩:=zec h2
   refine⟨by simp[k1],?_⟩
   intro k o' i' ho hi
   cases k with
   |zero=>simp at ho hi;subst ho;subst hi;exact h1
   |succ k=>simp at ho hi;exact k2 k o' i' ho hi
  .cases h
def left (n:Nat) (listed:Array Bool):List Nat:=(List.range n).filter fun k=> !listed.getD k true
theorem zgn {n:Nat} {listed:Array Bool} {i:Nat} (hi:i<n) (hl:listed.getD i true=false) (hsz:listed.size=n):
  ∃pre post,left n listed=pre++i::post∧left n (listed.setIfInBounds i true)=pre++post∧∀p∈pre,p<i∧listed.getD p true=false:=by
 refine⟨(List.range i).filter (fun k=> !listed.getD k true),((List.range' (i+1) (n - (i+1))).filter fun k=> !listed.getD k true),?_,?_,?_⟩
 .unfold left
  have e:List.range n=List.range i++i::List.range' (i+1) (n - (i+1)):=by
   rw[List.range_eq_range',List.range_eq_range',show i::List.range' (i+1) (n - (i+1))=List.range' i (n - i) from by
    rw[show n - i=(n - (i+1))+1 by omega,List.range'_succ]]
   have:=List.range'_append (s:=0) (m:=i) (n:=n - i) (step:=1)
   simp only[Nat.one_mul,Nat.zero_add]at this
   rw[this];congr 1;omega
  rw[e,List.filter_append,List.filter_cons]
  simp[hl]
 .unfold left
  have e:List.range n=List.range i++i::List.range' (i+1) (n - (i+1)):=by
   rw[List.range_eq_range',List.range_eq_range',show i::List.range' (i+1) (n - (i+1))=List.range' i (n - i) from by
    rw[show n - i=(n - (i+1))+1 by omega,List.range'_succ]]
   have:=List.range'_append (s:=0) (m:=i) (n:=n - i) (step:=1)
   simp only[Nat.one_mul,Nat.zero_add]at this
   rw[this];congr 1;omega
  have hself:(listed.setIfInBounds i true).getD i true=true:=by
   rw[Array.getD_eq_getD_getElem?,Array.getElem?_setIfInBounds]
   simp[hsz,hi]
  have hoth:∀k,k≠i→(listed.setIfInBounds i true).getD k true=listed.getD k true:=by
   intro k hk
   rw[Array.getD_eq_getD_getElem?,Array.getD_eq_getD_getElem?,Array.getElem?_setIfInBounds_ne (fun e=>hk e.symm)]
  rw[e,List.filter_append,List.filter_cons,hself]
  simp only[Bool.not_true,bFt,if_false]
  congr 1
  .apply List.filter_congr
   intro k hk
   rw[hoth k (by have:=List.mem_range.1 hk;omega)]
  .apply List.filter_congr
   intro k hk
   rw[hoth k (by have:=List.mem_range'_1.1 hk;omega)]
 .intro p hp
  rw[List.mem_filter,List.mem_range]at hp
  exact⟨hp.1,by simpa using hp.2⟩
theorem zjy (i:LI):(zx i).erase=i.erase:=by
 obtain⟨d,k,g⟩:=i
 cases k with
 |pick c x y=>rfl
 |op k xs=>cases k<;>rfl
theorem zpF {p i:LI} {r r':List LI} (h:∀q∈r',q∈r) (ha:away p i r=true):away p i r'=true:=by
 simp only[away,bAt]at ha⊢
 refine⟨ha.1,?_⟩
 have h2:=ha.2
 split at h2
 .simp only[bAt]at h2⊢
  refine⟨h2.1,lAt.2 fun q hq=>?_⟩
  rcases lMc.1 hq with rfl|hq
  .exact lAt.1 h2.2 _ (by simp)
  .exact lAt.1 h2.2 q (List.mem_cons_of_mem _ (h q hq))
 .cases h2
theorem zmq {p i:LI} {r r':List LI} (h:∀q∈r',q∈r) (ha:zeP p i r=true):zeP p i r'=true:=by
 simp only[zeP,bAt]at ha⊢
 refine⟨ha.1,ha.2.1,?_⟩
 have h2:=ha.2.2
 split at h2
 .simp only[bAt]at h2⊢
  refine⟨h2.1,lAt.2 fun q hq=>?_⟩
  rcases lMc.1 hq with rfl|hq
  .exact lAt.1 h2.2 _ (by simp)
  .exact lAt.1 h2.2 q (List.mem_cons_of_mem _ (h q hq))
 .cases h2
theorem zmp {p i:LI} {r r':List LI} (h:∀q∈r',q∈r) (ha:zeO p i r=true):zeO p i r'=true:=by
 simp only[zeO,bAt]at ha⊢
 refine⟨ha.1,?_⟩
 have h2:=ha.2
 split at h2
 .rename_i a hr
  simp only[Bool.or_eq_true,bAt]at h2⊢
  rcases h2 with h2|h2
  .exact .inl h2
  .refine .inr ⟨h2.1,?_⟩
   rw[lAt]at h2⊢
   intro q hq
   rcases lMc.1 hq with rfl|hq
   .exact h2.2 _ (by simp)
   .exact h2.2 q (by simp[h q hq])
 .cases h2
theorem zh7 {lis:List LI} {i:Nat} {li:LI}:∀(pre:List Nat),pre.Pairwise (·<·)→(∀p∈pre,p<i)→(∀p∈pre,∀lp,lis[p]?=some lp→zfX lp (zx li)=true∨soft lp (zx li)=true∨away lp li ((lis.take i).drop (p+1))=true∨back lp (zx li)=true∨zfZ lp (zx li)=true∨zeP lp li ((lis.take i).drop (p+1))=true∨zeO lp li ((lis.take i).drop (p+1))=true∨zhD lp (zx li)=true)→zpR li (pre.filterMap fun k=>lis[k]?)
 | [],_,_,_=>trivial
 |p::r,hs,hlt,h=>by
  have hs':=List.pairwise_cons.1 hs
  have ih:=zh7 r hs'.2 (fun q hq=>hlt q (by simp[hq])) (fun q hq=>h q (by simp[hq]))
  rw[List.filterMap_cons]
  cases hp:lis[p]? with
  |none=>exact ih
  |some lp=>
   refine⟨?_,ih⟩
   rcases h p (by simp) lp hp with h1|h1|h1|h1|h1|h1|h1|h1
   rotate_right
   .exact .inr (.inr (.inr (.inr (.inr (.inr (.inr h1))))))
   rotate_right
   .refine .inr (.inr (.inr (.inr (.inr (.inr (.inl (zmp (fun q hq=>?_) h1)))))))
    obtain⟨k,hk,hq⟩:=List.mem_filterMap.1 hq
    have h1:=hs'.1 k hk
    have h2:=hlt k (by simp[hk])
    refine lMg (i:=k - (p+1)) ?_
    rw[List.getElem?_drop,List.getElem?_take,if_pos (by omega),show p+1+(k - (p+1))=k by omega]
    exact hq
   .exact .inl h1
   .exact .inr (.inl h1)
   rotate_left
   .exact .inr (.inr (.inr (.inl h1)))
   .exact .inr (.inr (.inr (.inr (.inl h1))))
   rotate_left
   .refine .inr (.inr (.inl (zpF (fun q hq=>?_) h1)))
    obtain⟨k,hk,hq⟩:=List.mem_filterMap.1 hq
    have h1:=hs'.1 k hk
    have h2:=hlt k (by simp[hk])
    refine lMg (i:=k - (p+1)) ?_
    rw[List.getElem?_drop,List.getElem?_take,if_pos (by omega),show p+1+(k - (p+1))=k by omega]
    exact hq
   .refine .inr (.inr (.inr (.inr (.inr (.inl (zmq (fun q hq=>?_) h1))))))
    obtain⟨k,hk,hq⟩:=List.mem_filterMap.1 hq
    have h1:=hs'.1 k hk
    have h2:=hlt k (by simp[hk])
    refine lMg (i:=k - (p+1)) ?_
    rw[List.getElem?_drop,List.getElem?_take,if_pos (by omega),show p+1+(k - (p+1))=k by omega]
    exact hq
def zki (ops:Array Oper) (listed:Array Bool):Prop:=∀k o,ops[k]?=some o→listed.getD k false=true→∀e∈o.after,Region.binds .any e=true→listed.getD e.on false=true
theorem zms {ops:Array Oper} {listed:Array Bool} (hcl:zki ops listed) {p:Nat}:∀(n k:Nat) (o:Oper),ops[k]?=some o→(∀e∈o.after,Region.binds .any e=true→listed.getD e.on false=true)→anc ops n k p=true→listed.getD p false=true:=by
 intro n
 induction n with
 |zero=>intro k o _ _ h;simp[anc]at h
 |succ n ih=>
  intro k o ho hk h
  simp only[anc,ho]at h
  obtain⟨e,he,h1⟩:=List.any_eq_true.1 h
  simp only[bAt,Bool.or_eq_true,beq_iff_eq]at h1
  obtain⟨hb,h2⟩:=h1
  have hl:=hk e (by simpa using he) hb
  rcases h2 with h2|h2
  .rw[←h2];exact hl
  .cases hq:ops[e.on]? with
   |none=>
    cases n with
    |zero=>simp[anc]at h2
    |succ n=>simp[anc,hq]at h2
   |some o'=>exact ih e.on o' hq (hcl e.on o' hq hl) h2
theorem zq0 {w:World} {M:Mut} {R:Res} {H:Heap} (hw:WR C K w M R H) {y:AV} {u:Value} (h:VR w M R y u):zdi H y:=by
 have key:∀id ver g,R id ver=some g→∃B,H[id]?=some B∧ver≤B.ver∧B.isHole=false:=by
  intro id ver g hg
  have hlt:=hw.heap.dom id ver g hg
  have hb:=hw.heap.blk id _ (gEg hlt)
  have hnh:(H[id]).isHole=false:=by
   generalize H[id]=B at hb
   cases B with
   |hole t=>have h1:R id ver=none:=hb ver;rw[h1]at hg;cases hg
   |_=>rfl
  refine⟨H[id],gEg hlt,?_,hnh⟩
  rcases Nat.lt_or_ge (H[id]).ver ver with h1|h1
  .exfalso
   generalize H[id]=B at hb h1
   have hn:R id ver=none:=by
    cases B with
    |arr v sz sh es=>obtain⟨_,_,_,_,h2,_⟩:=hb;exact h2 ver h1
    |loop st pend F ps ac bd=>obtain⟨_,_,_,h2,_⟩:=hb;exact h2 ver (by have:(0:Nat)<ver:=h1;exact this)
    |mp es=>obtain⟨_,_,_,_,h2,_⟩:=hb;exact h2 ver (by have:(0:Nat)<ver:=h1;exact this)
    |hole t=>exact hb ver
    |sit s p=>obtain⟨_,_,h2,_⟩:=hb;exact h2 ver (by have:(0:Nat)<ver:=h1;exact this)
    |dead v=>obtain⟨_,_,_,_,_,h2,_⟩:=hb;exact h2 ver h1
   rw[hn]at hg;cases hg
  .exact h1
 cases h<;>simp only[zdi]
 .exact key _ _ _ (by assumption)
 .exact key _ _ _ (by assumption)
theorem zpL {Rr:Rec} (hR:zca P C Rr) (hP:zbS P C Rr) {N n:Nat} {ops:Array Oper} {lis:List LI} (hli:zcr P N ops ops.toList=some (lis.map LI.erase)) (hd:zr4 ops lis=true) {Q:Exit→Act→World→Prop} {E':Env} {H':Heap}:
  ∀(fuel:Nat) (listed:Array Bool) (E:Env) (H:Heap) (w:World) (M:Mut) (R:Res) (a:Act),zki ops listed→listed.size=ops.size→(left ops.size listed).length=fuel→frun Rr ((left ops.size listed).filterMap fun k=>lis[k]?) E H=some (E',H')→
   WR C K w M R H→EnvR w M R E a→a.tmps.size=N→zgI C K w M R E' H' a Q→wpAnyIn (Wf ρ) n P .any ops Q fuel listed a w:=by
 obtain⟨hlen,hget⟩:=zec hli
 have hlen':lis.length=ops.size:=by simpa using hlen
 intro fuel
 induction fuel with
 |zero=>
  intro listed E H w M R a hcl hsz hfuel hf hw he hN hQ
  have hnil:left ops.size listed=[]:=List.eq_nil_of_length_eq_zero hfuel
  rw[hnil]at hf
  simp only[List.filterMap_nil,frun,oSi,pMi]at hf
  obtain⟨rfl,rfl⟩:=hf
  refine⟨?_,hQ w M R a hw (Evol.refl _ _ _) he rfl rfl⟩
  cases hr:Region.ready .any ops listed with
  |nil=>rfl
  |cons i r=>
   exfalso
   obtain⟨h1,o,h2,h3⟩:=mem_ready.1 (show i∈Region.ready .any ops listed by rw[hr];simp)
   have:i∈left ops.size listed:=by
    unfold left
    rw[List.mem_filter,List.mem_range]
    exact⟨(aEs.1 h2).1,by simpa using h1⟩
   rw[hnil]at this;cases this
 |succ fuel ih=>
  intro listed E H w M R a hcl hsz hfuel hf hw he hN hQ
  have hdk:∀(k:Nat) (o:Oper) (li:LI),ops[k]?=some o→lis[k]?=some li→(∀e∈o.after,Region.binds .any e=true→e.on<k)∧∀(p:Nat) (lp:LI),p<k→lis[p]?=some lp→(∃e∈o.after,Region.binds .any e=true∧e.on=p)∨(zfX lp (zx li)=true∨soft lp (zx li)=true∨away lp li ((lis.take k).drop (p+1))=true∨back lp (zx li)=true∨zfZ lp (zx li)=true∨zeP lp li ((lis.take k).drop (p+1))=true∨zeO lp li ((lis.take k).drop (p+1))=true∨zhD lp (zx li)=true)∨anc ops ops.size k p=true:=by
   intro k o li ho hl
   have hk:k<ops.size:=(aEs.1 ho).1
   have:=lAt.1 hd k (List.mem_range.2 hk)
   rw[ho,hl]at this
   simp only[bAt]at this
   obtain⟨t1,t2⟩:=this
   refine⟨?_,?_⟩
   .intro e hee hb
    have:=lAt.1 t1 e (by simpa using hee)
    simpa[hb]using this
   .intro p lp hp hlp
    have:=lAt.1 t2 p (List.mem_range.2 hp)
    rw[hlp]at this
    simp only[Bool.or_eq_true,List.any_eq_true,bAt,beq_iff_eq]at this
    rcases this with (⟨e,h1,h2,h3⟩|h)|h
    .exact .inl ⟨e,by simpa using h1,h2,h3⟩
    .exact .inr (.inl (by rcases h with ((((((h|h)|h)|h)|h)|h)|h)|h;exact .inl h;exact .inr (.inl h);exact .inr (.inr (.inl h));exact .inr (.inr (.inr (.inl h)));exact .inr (.inr (.inr (.inr (.inl h))));exact .inr (.inr (.inr (.inr (.inr (.inl h)))));exact .inr (.inr (.inr (.inr (.inr (.inr (.inl h))))));exact .inr (.inr (.inr (.inr (.inr (.inr (.inr h))))))))
    .exact .inr (.inr h)
  refine⟨?_,?_⟩
  .intro hr
   exfalso
   cases hl:left ops.size listed with
   |nil=>rw[hl]at hfuel;simp at hfuel
   |cons k rest=>
    have hk:k∈left ops.size listed:=by rw[hl];simp
    unfold left at hk
    rw[List.mem_filter,List.mem_range]at hk
    have hkl:listed.getD k true=false:=by simpa using hk.2
    have ho:=Array.getElem?_eq_getElem hk.1
    have hli':lis[k]?=some lis[k]:=gEg (by omega)
    have hready:k∈Region.ready .any ops listed:=by
     refine mem_ready.2 ⟨hkl,_,ho,?_⟩
     intro e hee hb
     have hlt:=(hdk k _ _ ho hli').1 e hee hb
     obtain⟨pre,post,e1,e2,e3⟩:=zgn hk.1 hkl hsz
     have hpre:pre=[]:=by
      cases pre with
      |nil=>rfl
      |cons q pre=>
       rw[hl]at e1
       simp only[List.cons_append,List.cons.injEq]at e1
       have:=(e3 q (by simp)).1
       omega
     cases hlis:listed.getD e.on false with
     |true=>rfl
     |false=>
      exfalso
      have hlt2:e.on<listed.size:=by omega
      have hf2:listed.getD e.on true=false:=by
       rw[Array.getD_eq_getD_getElem?]at hlis⊢
       rw[Array.getElem?_eq_getElem hlt2]at hlis⊢
       simpa using hlis
      have hmem:e.on∈left ops.size listed:=by
       unfold left
       rw[List.mem_filter,List.mem_range]
       exact⟨by omega,by simpa using hf2⟩
      rw[e1,hpre]at hmem
      simp only[List.nil_append,lMc]at hmem
      rcases hmem with hm|hm
      .omega
      .
       have:∀q∈post,k<q:=by
        intro q hq
        have hs:(left ops.size listed).Pairwise (·<·):=by
         unfold left
         exact List.Pairwise.filter _ List.pairwise_lt_range
        rw[e1,hpre]at hs
        exact (List.pairwise_cons.1 hs).1 q hq
       have:=this _ hm
       omega
    rw[hr]at hready;cases hready
  .intro i hi
   obtain⟨h1,o,h2,h3⟩:=mem_ready.1 hi
   have hilt:i<ops.size:=(aEs.1 h2).1
   obtain⟨pre,post,e1,e2,e3⟩:=zgn hilt h1 hsz
   have hli':lis[i]?=some lis[i]:=gEg (by omega)
   rw[e1]at hf
   simp only[List.filterMap_append,List.filterMap_cons,hli']at hf
   have hsorted:pre.Pairwise (·<·):=by
    have hs:(left ops.size listed).Pairwise (·<·):=by
     unfold left
     exact List.Pairwise.filter _ List.pairwise_lt_range
    rw[e1]at hs
    exact (List.pairwise_append.1 hs).1
   obtain⟨E1,H1,f1,f2,_⟩:=zty (pre.filterMap fun k=>lis[k]?) (post.filterMap fun k=>lis[k]?) (zh7 pre hsorted (fun p hp=>(e3 p hp).1) (fun p hp lp hlp=>by
    obtain⟨q1,q2⟩:=e3 p hp
    have absurdL:listed.getD p false=true→False:=by
     intro this
     rw[Array.getD_eq_getD_getElem?]at this q2
     cases hq:listed[p]? with
     |none=>rw[hq]at this;simp at this
     |some b=>rw[hq]at this q2;simp at this q2;rw[this]at q2;cases q2
    rcases (hdk i o _ h2 hli').2 p lp q1 hlp with⟨e,hee,hb,hon⟩|h|h
    rotate_left 2
    .exact (absurdL (zms hcl _ i o h2 h3 h)).elim
    .exfalso
     have:=h3 e hee hb
     rw[hon]at this
     rw[Array.getD_eq_getD_getElem?]at this q2
     cases hq:listed[p]? with
     |none=>rw[hq]at this;simp at this
     |some b=>rw[hq]at this q2;simp at this q2;rw[this]at q2;cases q2
    .exact h)) (fun _ a _=>zq0 hw (he a)) hf
   unfold wpOpIn
   rw[h2]
   have hlo:zjE P N ops o=some (zx lis[i]).erase:=by
    rw[zjy]
    refine hget i o _ (by rw[Array.getElem?_toList];exact h2) ?_
    rw[gEm,hli'];rfl
   refine zf9 hR hP hlo f1 hw he hN ?_
   intro w' M' R' a' k1 k2 k3 k4 k5
   have hcl':zki ops (listed.setIfInBounds i true):=by
    intro k ok hok hkl e hee hb
    have grow:listed.getD e.on false=true→(listed.setIfInBounds i true).getD e.on false=true:=by
     intro h
     rw[Array.getD_eq_getD_getElem?]at h⊢
     by_cases he2:i=e.on
     .subst he2
      rw[Array.getElem?_setIfInBounds_self]
      split
      .rfl
      .rename_i hn;rw[Array.getElem?_eq_none (by omega)]at h;simp at h
     .rw[Array.getElem?_setIfInBounds_ne he2];exact h
    by_cases hik:i=k
    .subst hik
     rw[h2]at hok;cases hok
     exact grow (h3 e hee hb)
    .refine grow (hcl k ok hok ?_ e hee hb)
     rw[Array.getD_eq_getD_getElem?]at hkl⊢
     rw[Array.getElem?_setIfInBounds_ne hik]at hkl
     exact hkl
   refine ih _ E1 H1 w' M' R' a' hcl' (by simpa using hsz) ?_ ?_ k1 k3 k4 (hQ.step k2 (by rw[k4,hN]) k5)
   .rw[e2]
    rw[e1]at hfuel
    simp at hfuel⊢;omega
   .rw[e2,List.filterMap_append];exact f2
theorem WR.drew {w:World} {M:Mut} {R:Res} {H:Heap} (h:WR C K w M R H):WR C K {w with drawn:=w.drawn+1} M R H∧Evol R M w R M {w with drawn:=w.drawn+1}:=h.same rfl rfl rfl rfl
theorem zhW {Rr:Rec} (hR:zca P C Rr) (hP:zbS P C Rr) (hm:P.follows .mixedOrders=true) {N n id:Nat} {draw:Bool} {ops:Array Oper} {lis:List LI} (hli:zcr P N ops ops.toList=some (lis.map LI.erase)) (hd:draw=true→zr4 ops lis=true)
  {Q:Exit→Act→World→Prop} {E E':Env} {H H':Heap} {w:World} {M:Mut} {R:Res} {a:Act} (hf:frun Rr lis E H=some (E',H')) (hw:WR C K w M R H) (he:EnvR w M R E a) (hN:a.tmps.size=N) (hQ:zgI C K w M R E' H' a Q):
  (Code.region id ops draw).wpIn (Wf ρ) n P Q a w:=by
 cases draw with
 |false=>
  refine wpIn_region ?_
  have:=zf7 (ρ:=ρ) (n:=n) hR hP ops.toList lis 0 E H w M R a (fun j=>by simp) hli hf hw he hN hQ
  rw[List.range_eq_range']
  simpa using this
 |true=>
  refine wpIn_region_any hm ?_
  obtain⟨d1,d2⟩:=hw.drew
  have hlen':lis.length=ops.size:=by simpa using (zec hli).1
  have hleft:left ops.size (Array.replicate ops.size false)=List.range ops.size:=by
   unfold left
   rw[List.filter_eq_self]
   intro k hk
   have:=List.mem_range.1 hk
   simp[Array.getD,this]
  have hall:(List.range ops.size).filterMap (fun k=>lis[k]?)=lis:=by
   rw[←hlen']
   clear hli hf hd hleft hlen'
   induction lis with
   |nil=>rfl
   |cons x l ih=>
    rw[lLc,List.range_succ_eq_map,List.filterMap_cons]
    simp only[gEz,List.filterMap_map]
    congr 1
  exact zpL (ρ:=ρ) (n:=n) hR hP hli (hd rfl) ops.size _ E H _ M R a (by intro k o _ hk;simp[Array.getD]at hk) (by simp) (by rw[hleft];simp) (by rw[hleft,hall];exact hf) d1 (he.evol d2) hN (hQ.step d2 rfl rfl)
end region
end Go.Proofs.YtbddckhdbnmamaaGreat
