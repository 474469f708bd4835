/-
  From a law's evaluation to what its statement asks (conditions: none).
-/
import Derived.ProofKit
import Derived.Test.YtbddckhdbnmamaaGreatArgs
namespace Go.Proofs.YtbddckhdbnmamaaGreat
open Go Go.RowKit Go.ChangeShapes Go.WideShapes Go.ChangeAt
set_option linter.unusedVariables false
set_option linter.unusedSimpArgs false
def shPs (P:Program):List TypeId→Option (List (Bool×List Sh))
 | []=>some []
 |t::r=>match shT P 12 t,shPs P r with|some p,some ps=>some (p::ps)|_,_=>none
def zpS (p:Bool×List Sh) (a:AV):Prop:=
 (p.1=true→∃cs,a= .agg cs∧cs.length=p.2.length∧∀(j:Nat) (c:AV) (s:Sh),cs[j]?=some c→p.2[j]?=some s→ShOk s c)∧(p.1=false→∃s,p.2=[s]∧ShOk s a)
inductive PShs:List (Bool×List Sh)→List AV→Prop
 |nil:PShs [] []
 |cons {p:Bool×List Sh} {a:AV} {ps:List (Bool×List Sh)} {as':List AV} (h:zpS p a) (h':PShs ps as'):PShs (p::ps) (a::as')
section law
variable {H:Type} {enc:TypeId×Value→H} {P:Program} {W W':World}
theorem zp7 {n:Nat} {t:TypeId} {g:Bool} {l:List Sh} (h:shT P n t=some (g,l)) {r:Reach} {base:Nat} {v:Value} (hv:Value.okWide P W r base t v):(g=true→∃cs,v= .agg cs)∧(g=false→v.cells=#[v]∧∃s,l=[s]):=by
 cases n with
 |zero=>simp[shT]at h
 |succ n=>
  simp only[shT]at h
  split at h
  .rename_i ht;cases h
   obtain⟨b,rfl⟩:=okWide_bool ht hv
   exact⟨fun h=>(by cases h),fun _=>⟨rfl,_,rfl⟩⟩
  .rename_i k ht;cases h
   obtain⟨b,rfl⟩:=okWide_int ht hv
   exact⟨fun h=>(by cases h),fun _=>⟨rfl,_,rfl⟩⟩
  .rename_i ht;cases h
   obtain⟨b,rfl⟩:=okWide_string ht hv
   exact⟨fun h=>(by cases h),fun _=>⟨rfl,_,rfl⟩⟩
  .rename_i e ht
   obtain⟨a,b,c,rfl⟩:=okWide_slice ht hv
   split at h
   .cases h;exact⟨fun h=>(by cases h),fun _=>⟨rfl,_,rfl⟩⟩
   split at h
   .split at h
    .cases h;exact⟨fun h=>(by cases h),fun _=>⟨rfl,_,rfl⟩⟩
    .cases h
   .cases h
  .rename_i fs ht
   obtain⟨cs,rfl,_⟩:=okWide_struct ht hv
   split at h
   .split at h
    .cases h;exact⟨fun _=>⟨_,rfl⟩,fun h=>(by cases h)⟩
    .cases h
   .cases h
  .cases h
theorem zpH (hrec:zjh P) {n:Nat} {t:TypeId} {p:Bool×List Sh} (h:shT P n t=some p) {r:Reach} {base:Nat} {v:Value} {d:DataW H} {ps:List MemPlace} (hv:Value.okWide P W r base t v) (hd:DataW.Trod enc P W 0 (fun _=>true) true t v d ps):
  ∃a,zpS p a∧VR W (fun _ _=>False) zaE a v:=by
 obtain⟨g,l⟩:=p
 obtain⟨h1,h2⟩:=zp7 h hv
 obtain⟨fuel,hf⟩:=hd
 have hr:=zp6 hrec fuel n t g l h _ _ hf
 cases g with
 |false=>
  obtain⟨hc,s,rfl⟩:=h2 rfl
  rw[hc]at hr
  obtain⟨a,q1,q2⟩:=hr.2 0 s v rfl rfl
  exact⟨a,⟨fun h=>(by cases h),fun _=>⟨s,rfl,q1⟩⟩,q2⟩
 |true=>
  obtain⟨cs,rfl⟩:=h1 rfl
  have hcs:(Value.agg cs).cells.toList=cs.toList:=rfl
  rw[hcs]at hr
  have each:∀j:Nat,∃c:AV,j<l.length→∃s u,l[j]?=some s∧cs.toList[j]?=some u∧ShOk s c∧VR W (fun _ _=>False) zaE c u:=by
   intro j
   by_cases hj:j<l.length
   .have hcj:cs.toList[j]?=some (cs.toList[j]'(by rw[hr.1];exact hj)):=gEg _
    have hlj:l[j]?=some l[j]:=gEg hj
    obtain⟨c,r1,r2⟩:=hr.2 j _ _ hlj hcj
    exact⟨c,fun _=>⟨_,_,hlj,hcj,r1,r2⟩⟩
   .exact⟨.bad,fun h=>absurd h hj⟩
  obtain⟨f,hf⟩:=Classical.axiomOfChoice each
  have hget:∀(j:Nat) (c:AV),((List.range l.length).map f)[j]?=some c→j<l.length∧c=f j:=by
   intro j c hc
   have hj:j<l.length:=by simpa using (gEs.1 hc).1
   exact⟨hj,by simpa[hj]using hc.symm⟩
  refine⟨.agg ((List.range l.length).map f),⟨fun _=>⟨_,rfl,by simp,fun j c s hc hs=>?_⟩,fun h=>(by cases h)⟩,.agg _ _ _ (by have:=hr.1;simp at this;simp[this]) fun j c u hc hu=>?_⟩
  .obtain⟨hj,rfl⟩:=hget j c hc
   obtain⟨s',u,k1,_,k3,_⟩:=hf j hj
   rw[hs]at k1;cases k1
   exact k3
  .obtain⟨hj,rfl⟩:=hget j c hc
   obtain⟨s',u',_,k2,_,k4⟩:=hf j hj
   have:u'=u:=by
    have hu':cs.toList[j]?=some u:=by simpa using hu
    rw[hu']at k2;cases k2;rfl
   rw[←this];exact k4
theorem zmr (hrec:zjh P) {r:Reach} {base:Nat}:∀(ts:List TypeId) (vs:List Value) (ds:List (DataW H)) (p:List MemPlace) (shs:List (Bool×List Sh)),DataW.TrodAll enc P W 0 (fun _=>true) true ts vs ds p→(∀(j:Nat) (t:TypeId) (v:Value),ts[j]?=some t→vs[j]?=some v→Value.okWide P W r base t v)→shPs P ts=some shs→
  ds.length=ts.length∧∃l,PShs shs l∧VRs W (fun _ _=>False) zaE l vs:=by
 intro ts
 induction ts with
 |nil=>
  intro vs ds p shs h _ hs
  simp only[shPs,oSi]at hs
  subst hs
  cases vs with
  |nil=>cases ds with
   |nil=>exact⟨rfl,[],.nil,VRs.nil⟩
   |cons d ds=>exact h.elim
  |cons v vs=>exact h.elim
 |cons t ts ih=>
  intro vs ds p shs h hval hs
  cases vs with
  |nil=>exact h.elim
  |cons v vs=>cases ds with
   |nil=>exact h.elim
   |cons d ds=>
    obtain⟨p1,q1,h1,h2,rfl⟩:=h
    simp only[shPs]at hs
    split at hs
    .rename_i sp sps e1 e2
     cases hs
     obtain⟨a,a1,a2⟩:=zpH hrec e1 (hval 0 t v rfl rfl) h1
     obtain⟨hl,l,l1,l2⟩:=ih vs ds q1 sps h2 (fun j t' v' ht hv=>hval (j+1) t' v' (by simpa using ht) (by simpa using hv)) e2
     exact⟨by simp[hl],a::l,.cons a1 l1,VRs.cons a2 l2⟩
    .cases hs
theorem zpG (hl:laidOutB P=true) (hb:Below W.heap.size W W') {sp:Nat→Bool}:∀(ts:List TypeId) (vs:List Value) (ds:List (DataW H)) (p:List MemPlace),DataW.TrodAll enc P W 0 (fun _=>true) true ts vs ds p→(∀t∈ts,P.readableRec t=true∧t<P.types.size)→(∀x∈p,x.block<W.heap.size)→(∀x∈p,sp x.block=true)→
  DataW.TrodAll enc P W' 0 sp true ts vs ds p:=by
 intro ts
 induction ts with
 |nil=>
  intro vs ds p h _ _ _
  cases vs<;>cases ds<;>first|exact h|exact h.elim
 |cons t ts ih=>
  intro vs ds p h hr hp hsp
  cases vs with
  |nil=>exact h.elim
  |cons v vs=>cases ds with
   |nil=>exact h.elim
   |cons d ds=>
    obtain⟨p1,q1,h1,h2,rfl⟩:=h
    obtain⟨r1,r2⟩:=hr t (by simp)
    exact⟨p1,q1,WideElems.Trod_stays hl r1 r2 h1 (fun x hx=>hb.same (hp x (by simp[hx]))) (fun x hx=>hsp x (by simp[hx])),ih vs ds q1 h2 (fun t' ht=>hr t' (by simp[ht])) (fun x hx=>hp x (by simp[hx])) (fun x hx=>hsp x (by simp[hx])),rfl⟩
theorem zij (hl:laidOutB P=true) (hm:P.follows .mixedOrders=true) {Φ:FuncId→Option FI} (hΦ:∀f fi,Φ f=some fi→FnOK P f fi) (hX:∀f g,ext f=some g→zmu P f g) (hY:∀f g,extM f=some g→zeH P f g) (hrec:zjh P) (hgl:GOk W (fun _ _=>False) zaE) {f:FuncId} {fn:Func} {shs:List (Bool×List Sh)} (hps:shPs P fn.params.toList=some shs)
  (hread:fn.params.toList.all (fun t=>P.readableRec t&&decide (t<P.types.size))=true) {tb:TypeId} (hres:fn.resultTypes=#[tb]) (htb:P.underlying tb=some .bool) {spec:ChangeSpec} (hvars:spec.vars=[])
  (hfn:∀(H:Type) (ds:List (DataW H)),ds.length=fn.params.toList.length→spec.fn H ds={results:=[.lit (.bool true)],args:=ds}) (hlaw:∀l,PShs shs l→(om Φ).pure f l=some (.bool true))
  {base:Nat} {args:Array Value} {ds gs:List (DataW H)} {before:List MemPlace} (hval:∀(j:Nat) t v,fn.params[j]?=some t→args[j]?=some v→Value.okWide P W .any base t v)
  (hW:DataW.Whole enc P fn.params.toList spec.vars false W args.toList ds gs before):Calls P f args W fun e W'=>∃v,e= .returned v∧spec.post enc P fn false true false false W args v W':=by
 have hW':=hW
 obtain⟨p,q,hA,hV,rfl,hfz,hnd⟩:=hW
 rw[hvars]at hV
 obtain⟨rfl,rfl⟩:=trodVars_none hV
 obtain⟨hlen,l,hl1,hl2⟩:=zmr hrec _ _ _ _ shs hA (fun j t v ht hv=>hval j t v (by simpa using ht) (by simpa using hv)) hps
 have hc:=zqn hm hΦ hX hY (hlaw l hl1) hgl hl2
 rw[show args.toList.toArray=args by simp]at hc
 refine (CallsIn.calls hc (fun k=>by simp[Wf,Fence.room])).mono ?_
 rintro e W' ⟨u,rfl,hb,hu⟩
 cases hu
 have hsp:=hfn H (ds++[]) (by simpa using hlen)
 refine⟨_,rfl,ds,[],p++[],[],p,[],hW',?_,?_,?_,hb.frame _,fun h=>(by cases h)⟩
 .rw[hsp,hres]
  exact trodAll_mk1 (shut_bool htb _)
 .rw[hsp]
  simp only[List.append_nil]
  refine zpG hl hb _ _ _ _ hA (fun t ht=>by simpa using lAt.1 hread t ht) ?_ ?_
  .intro x hx;exact hW'.lt x (by simp[hx])
  .intro x hx;simpa using hW'.lt x (by simp[hx])
 .rw[hsp,hvars]
  exact rfl
end law
end Go.Proofs.YtbddckhdbnmamaaGreat
