/-
  Functions and rounds, evaluated: sound; all calls, to any depth (conditions: that the light functions stand for the program's is a hypothesis).
-/
import Derived.RecoverIn
import Derived.Test.YtgamobngbenehaaGreatDoorFrzp
import Derived.Test.YtgamobngbenehaaGreatDoorRunp
namespace Go.Proofs.YtgamobngbenehaaGreatDoor
open Go Go.RowKit
set_option linter.unusedVariables false
set_option linter.unusedSimpArgs false
def zlT (P:Program):RV→ResultVar→Prop
 | .tmp t,.tmp t'=>t=t'
 | .cell t g n,.cell a ty=>t=a∧aggT P ty=some g∧szT P ty=some n
 |_,_=>False
def zcJ (P:Program):List RV→List ResultVar→Prop
 | [],[]=>True
 |a::l,b::bs=>zlT P a b∧zcJ P l bs
 |_,_=>False
def zqB:Operand→Option Nat| .tmp i=>some i|_=>none
def zeb (t:Nat) (f:FuncId) (caps:List Nat) (ops:Array Oper):Bool:=match ops.toList with
 | [o0,o1]=>(match o0.op with| .makeFunc (.func g) fs cs=>decide (g=f)&&decide (fs.toList.length=0)&&decide (cs.toList.map zqB=caps.map some)|_=>false)&&decide (o0.dst=some t)&&decide (o0.guard=none)&&
   (match o1.op with| .defer c=>(match c.callee with| .value (.tmp i)=>decide (i=t)|_=>false)&&decide (c.args.toList.length=0)|_=>false)&&decide (o1.dst=none)&&decide (o1.guard=none)
 |_=>false
def zfq (r d:Nat) (ops:Array Oper):Bool:=match ops.toList with
 | [o0,o1]=>(match o0.op with| .call c=>(match c.callee with| .builtin .recover=>true|_=>false)|_=>false)&&decide (o0.dst=some r)&&decide (o0.guard=none)&&
   (match o1.op with| .assign (.tmp i)=>decide (i=r)|_=>false)&&decide (o1.dst=some d)&&decide (o1.guard=none)
 |_=>false
def znb (P:Program) (f:FuncId) (ncap r d:Nat) (dc:LC):Prop:=
 ∃fn rid dops cr,P.funcs[f]?=some fn∧fn.body=some (.seq (.region rid dops false) cr)∧(fn.name== "runtime.NumGoroutine")=false∧zfq r d dops=true∧r<fn.ntmps∧d<fn.ntmps∧ncap≤fn.ntmps∧z8 dc=true∧zJ P fn.ntmps dc cr∧fn.results=#[]
def zlA (t s:Nat) (f:FuncId) (xs:List Src) (ops:Array Oper):Prop:=∃(o0 o1:Oper) (c:Call),ops=#[o0,o1]∧o0.op= .move (.tmp s)∧o0.dst=some t∧o0.guard=none∧o1.op= .defer c∧c.callee= .value (.func f)∧srcs c.args.toList=some xs∧o1.dst=none∧o1.guard=none
def znc (P:Program) (f:FuncId) (n:Nat) (dc:LC):Prop:=
 ∃(fn:Func) (code:Code) (ts:List Nat),P.funcs[f]?=some fn∧fn.body=some code∧(fn.name== "runtime.NumGoroutine")=false∧n≤fn.ntmps∧z8 dc=true∧zJ P fn.ntmps dc code∧zcJ P (ts.map RV.tmp) fn.results.toList
def zad (P:Program) (N:Nat):LC→List Code→Prop
 | .asc a,.seq x y::r=>zad P N a (x::y::r)
 | .dfr t f caps _ r d dc rest,.region _ ops false::cs=>zeb t f caps ops=true∧t<N∧znb P f caps.length r d dc∧zad P N rest cs
 | .dcl t s f xs _ dc rest,.region _ ops false::cs=>zlA t s f xs ops∧t<N∧znc P f xs.length dc∧zad P N rest cs
 | .dcnd c a b,.cond c' ca cb::cs=>zcH c'=some c∧zad P N a (ca::cs)∧zad P N b (cb::cs)
 | .seq a b,c::c'::cs=>zJ P N a c∧zad P N b (c'::cs)
 | .skip,[]=>True
 |lc,[c]=>zJ P N lc c
 |_,_=>False
def zhF (P:Program) (N:Nat) (lc:LC) (c:Code):Prop:=match lc with| .body b=>zad P N b [c]|lc=>zJ P N lc c
def FnOK (P:Program) (f:FuncId) (fi:FI):Prop:=
 ∃fn code,P.funcs[f]?=some fn∧fn.body=some code∧(fn.name== "runtime.NumGoroutine")=false∧fn.ntmps=fi.ntmps∧fi.np≤fi.ntmps∧zhF P fi.ntmps fi.lc code∧zcJ P fi.res fn.results.toList
section calls
variable {P:Program} {Rr:Rec}
theorem ziE {w:World} {M:Mut} {R:Res} {F:Fr} {H:Heap} {a:Act} (hh:HR (zq P) w M R H) (he:EnvR w M R F.get a) {rv:RV} {r:ResultVar} {v:AV} (h1:rvV F H rv=some v) (h2:zlT P rv r):
  ∃u,(match r with| .tmp t=>pure (a.tmps.getD t undef)| .cell x t=>do loadVar t (←asAddr (a.tmps.getD x undef)):Sem Value).run P w= .ok u w∧VR w M R v u:=by
 cases rv with
 |tmp t=>
  cases r<;>simp only[zlT]at h2
  subst h2
  simp only[rvV,Option.some.injEq]at h1
  subst h1
  exact⟨_,rfl,he t⟩
 |cell t g n=>
  cases r<;>simp only[zlT]at h2
  rename_i x ty
  obtain⟨rfl,h3,h4⟩:=h2
  simp only[rvV]at h1
  have hne:zbu H g n (F.get t)=v∧v≠.bad:=by
   cases hq:zbu H g n (F.get t)<;>rw[hq]at h1<;>simp[okO]at h1<;>subst h1<;>simp
  obtain⟨u,k1,k2⟩:=zni hh (he t) hne.1 hne.2 h3 h4
  refine⟨u,?_,k2⟩
  rw[←k1]
  have hp:∃ad,a.tmps.getD t undef= .pointer (some ad):=by
   have hx:=he t
   have hv:=hne.2
   rw[←hne.1]at hv
   generalize F.get t=y at hx hv
   generalize a.tmps.getD t undef=u at hx
   cases hx<;>first|exact⟨_,rfl⟩|simp[zbu]at hv
  obtain⟨ad,hp⟩:=hp
  simp only[hp]
  rfl
theorem zhE {w:World} {M:Mut} {R:Res} {F:Fr} {H:Heap} {a:Act} (hh:HR (zq P) w M R H) (he:EnvR w M R F.get a):∀{l:List RV} {rs:List ResultVar} {vs:List AV},rvVs F H l=some vs→zcJ P l rs→
  ∃us,(rs.mapM (fun r=>(match r with| .tmp t=>pure (a.tmps.getD t undef)| .cell x t=>do loadVar t (←asAddr (a.tmps.getD x undef)):Sem Value))).run P w= .ok us w∧VRs w M R vs us:=by
 intro l
 induction l with
 |nil=>
  intro rs vs h1 h2
  cases rs<;>simp only[zcJ]at h2
  simp only[rvVs,Option.some.injEq]at h1
  subst h1
  exact⟨[],rfl,VRs.nil⟩
 |cons x l ih=>
  intro rs vs h1 h2
  cases rs<;>simp only[zcJ]at h2
  rename_i r rs
  simp only[rvVs]at h1
  split at h1
  .rename_i v vs' hv hvs
   cases h1
   obtain⟨u,a1,a2⟩:=ziE hh he hv h2.1
   obtain⟨us,b1,b2⟩:=ih hvs h2.2
   refine⟨u::us,?_,VRs.cons a2 b2⟩
   rw[List.mapM_cons,zh a1,zh b1]
   rfl
  .cases h1
theorem zbG {w:World} {M:Mut} {R:Res} {F:Fr} {H:Heap} {a:Act} {fn:Func} {l:List RV} {res:AV} (hh:HR (zq P) w M R H) (he:EnvR w M R F.get a) (h1:resV F H l=some res) (h2:zcJ P l fn.results.toList):
  ∃u,(results fn a.tmps).run P w= .ok u w∧VR w M R res u:=by
 unfold resV at h1
 cases hv:rvVs F H l with
 |none=>simp[hv]at h1
 |some vs=>
  simp only[hv,Option.map_some,Option.some.injEq]at h1
  obtain⟨us,a1,a2⟩:=zhE hh he hv h2
  refine⟨if h:us.toArray.size=1 then us.toArray[0] else .tuple us.toArray,?_,?_⟩
  .unfold results
   rw[Array.mapM_eq_mapM_toList]
   rw[zh (x:=us.toArray) (w':=w) (by rw[map_eq_pure_bind];exact (zh a1).trans rfl)]
   rfl
  .have htup:VR w M R (.tuple vs) (.tuple us.toArray):= .tuple _ _ _ (by simpa using a2.1) (fun j c u hj hu=>a2.2 j c u hj (by simpa using hu))
   have hl:=a2.1
   match vs,us,hl,a2,h1,htup with
   | [],[],_,_,h1,ht=>simp at h1⊢;subst h1;exact ht
   | [v],[u],_,a2,h1,ht=>simp at h1⊢;subst h1;exact a2.2 0 _ _ rfl rfl
   |v::v'::r,u::u'::s,_,_,h1,ht=>simp at h1⊢;subst h1;exact ht
theorem zgh {K:Ctx} {H:Heap} {fn:Func} {tmps:Array Value} {Rp:Ending→World→Prop} {M:Mut} {R:Res}:∀(D:List Nat) (w:World),WR (zq P) {K with marks:=D++K.marks} w M R H→
  (∀w',WR (zq P) K w' M R H→Evol R M w R M w'→∃v,(results fn tmps).run P w'= .ok v w'∧Rp (.returned v) w')→LeavesInM (Wf none) 0 P fn tmps Rp (D.map zea) .returning w:=by
 intro D
 induction D with
 |nil=>
  intro w hw h
  exact h w hw (Evol.refl _ _ _)
 |cons r D ih=>
  intro w hw h
  obtain⟨h1,h2⟩:=WR.take (K:=K) (m:=D++K.marks) hw
  refine⟨by simp,.inl ⟨r,_,rfl,run_takeDeferred (hw.marks r (by simp)).1,?_⟩⟩
  exact ih _ h1 (fun w' k1 k2=>h w' k1 (h2.trans k2))
theorem zoH:∀(l:List AV) (k i:Nat),Fr.get ((l.zipIdx k).map fun p=>(p.2,p.1)) i=if k≤i then l.getD (i - k) .bad else .bad:=by
 intro l
 induction l with
 |nil=>intro k i;simp[Fr.get]
 |cons x l ih=>
  intro k i
  simp only[List.zipIdx_cons,List.map_cons,Fr.get,ih]
  by_cases h:i=k
  .subst h;simp
  .by_cases h2:k≤i
   .rw[if_neg h,if_pos (by omega),if_pos h2]
    rw[show i - k=(i - (k+1))+1 by omega]
    simp
   .rw[if_neg h,if_neg (by omega),if_neg h2]
theorem zcX {w:World} {M:Mut} {R:Res} {args:List AV} {avs:List Value} (hv:VRs w M R args avs) (n:Nat):EnvR w M R (ze args).get {tmps:=avs.toArray++Array.replicate n undef,defers:=[]}:=by
 intro i
 unfold ze
 rw[zoH]
 simp only[Nat.zero_le,if_true,Nat.sub_zero]
 by_cases hi:i<args.length
 .have hi':i<avs.length:=by rw[hv.1];exact hi
  have h1:args.getD i .bad=args[i]:=by simp[List.getD,hi]
  have h2:(avs.toArray++Array.replicate n undef).getD i undef=avs[i]:=by
   rw[Array.getD_eq_getD_getElem?,Array.getElem?_append_left (by simpa using hi')]
   simp[hi']
  rw[h1]
  show VR w M R _ ((avs.toArray++Array.replicate n undef).getD i undef)
  rw[h2]
  exact hv.2 i _ _ (gEg hi) (gEg hi')
 .have h1:args.getD i .bad= .bad:=by simp[List.getD,List.getElem?_eq_none (by omega:args.length≤i)]
  rw[h1]
  exact .bad _ _
def Fine (P:Program) (K:Ctx) (R:Res) (M:Mut) (w:World) (res:AV) (H':Heap):Value→World→Prop:=fun u w'=>∃M' R',WR (zq P) K w' M' R' H'∧Evol R M w R' M' w'∧VR w' M' R' res u
theorem zmq (hm:P.follows .mixedOrders=true) (hR:zaL P Rr) {f:FuncId} {fi:FI} (hf:FnOK P f fi) (hbod:fi.bod=none) {args:List AV} {H H':Heap} {res:AV} (he:zi Rr fi args H=some (res,H'))
  {K:Ctx} {w:World} {M:Mut} {R:Res} {avs:List Value} (hw:WR (zq P) K w M R H) (hv:VRs w M R args avs):
  CallsIn (Wf none) 0 P f avs.toArray w (fun e w'=>∃u,e= .returned u∧Fine P K R M w res H' u w'):=by
 obtain⟨fn,code,f1,f2,f3,f4,f5,f6',f7⟩:=hf
 have f6:zJ P fi.ntmps fi.lc code:=by
  unfold FI.bod at hbod
  unfold zhF at f6'
  split at f6'
  .rename_i b hb;rw[hb]at hbod;cases hbod
  .exact f6'
 unfold zi at he
 split at he
 .rename_i hlen
  cases hev:evC Rr fi.lc (ze args) H with
  |none=>simp[hev]at he
  |some p=>
   obtain⟨x,F1,H1⟩:=p
   simp only[hev,Option.bind_some]at he
   have hal:avs.length=fi.np:=by rw[hv.1,hlen]
   refine callsIn_of_wp_marks f1 f2 trivial ?_
   refine wpIn_mono (zaD hm hR fi.lc _ H x F1 H1 hev fi.ntmps code f6 K w M R _ none (fun h=>absurd rfl h) hw (zcX hv _) (by simp;omega)) ?_
   intro e a' w' hp
   have hx:resV F1 H1 fi.res=some res∧H1=H'∧(x= .normal∨x= .ret):=by
    cases x with
    |exit i=>simp at he
    |normal=>
     simp only[Option.map_eq_some_iff,Prod.mk.injEq]at he
     obtain⟨v,h1,rfl,rfl⟩:=he
     exact⟨h1,rfl,.inl rfl⟩
    |ret=>
     simp only[Option.map_eq_some_iff,Prod.mk.injEq]at he
     obtain⟨v,h1,rfl,rfl⟩:=he
     exact⟨h1,rfl,.inr rfl⟩
   obtain⟨hres,rfl,hxx⟩:=hx
   obtain⟨rfl,D,M1,R1,k1,k2,k3,k4,k5,k6⟩:=hp
   have hl:LeavesInM (Wf none) 0 P fn a'.tmps (fun e w'=>∃u,e= .returned u∧Fine P K R M w res H1 u w') a'.defers .returning w':=by
    rw[k5,List.append_nil]
    refine zgh D w' k1 ?_
    intro w'' q1 q2
    obtain⟨u,r1,r2⟩:=zbG q1.heap (k3.evol q2) hres f7
    exact⟨u,r1,u,rfl,M1,R1,q1,k2.trans q2,r2⟩
   rcases hxx with rfl|rfl<;>exact hl
 .cases he
/-! ### Deferred calls -/
theorem zgp {t:Nat} {f:FuncId} {caps:List Nat} {ops:Array Oper} (h:zeb t f caps ops=true):∃(o0 o1:Oper) (cs:Array Operand) (c:Call),ops=#[o0,o1]∧o0.op= .makeFunc (.func f) #[] cs∧o0.dst=some t∧o0.guard=none∧o1.op= .defer c∧c.callee= .value (.tmp t)∧c.args=#[]∧o1.dst=none∧o1.guard=none∧cs.toList=caps.map Operand.tmp:=by
 unfold zeb at h
 split at h
 .rename_i o0 o1 ho
  simp only[Bool.and_eq_true,decide_eq_true_eq]at h
  obtain⟨⟨⟨⟨⟨h1,h2⟩,h3⟩,h4⟩,h5⟩,h6⟩:=h
  split at h1
  .rename_i g fs cs hop
   split at h4
   .rename_i c hop1
    simp only[Bool.and_eq_true,decide_eq_true_eq]at h1 h4
    obtain⟨⟨rfl,h7⟩,h8⟩:=h1
    obtain⟨h9,h10⟩:=h4
    split at h9
    .rename_i i hc
     have:=of_decide_eq_true h9
     subst this
     refine⟨o0,o1,cs,c,by apply Array.ext';simpa using ho,?_,h2,h3,hop1,hc,?_,h5,h6,?_⟩
     .rw[hop]
      congr 1
      apply Array.ext'
      simpa using List.length_eq_zero_iff.1 h7
     .apply Array.ext'
      simpa using List.length_eq_zero_iff.1 h10
     .clear hop
      generalize cs.toList=l at h8
      clear h2 h9 hc
      induction l generalizing caps with
      |nil=>cases caps with
       |nil=>rfl
       |cons x r=>simp at h8
      |cons y l ih=>cases caps with
       |nil=>simp at h8
       |cons x r=>
        simp only[List.map_cons,List.cons.injEq]at h8
        cases y<;>simp only[zqB,Option.some.injEq,reduceCtorEq,false_and]at h8
        rw[List.map_cons,←ih h8.2,h8.1]
    .cases h9
   .cases h4
  .cases h1
 .cases h
theorem zgn {r d:Nat} {ops:Array Oper} (h:zfq r d ops=true):∃(o0 o1:Oper) (c:Call),ops=#[o0,o1]∧o0.op= .call c∧c.callee= .builtin .recover∧o0.dst=some r∧o0.guard=none∧o1.op= .assign (.tmp r)∧o1.dst=some d∧o1.guard=none:=by
 unfold zfq at h
 split at h
 .rename_i o0 o1 ho
  simp only[Bool.and_eq_true,decide_eq_true_eq]at h
  obtain⟨⟨⟨⟨⟨h1,h2⟩,h3⟩,h4⟩,h5⟩,h6⟩:=h
  split at h1
  .rename_i c hop
   split at h1
   .rename_i hc
    split at h4
    .rename_i i hop1
     have:=of_decide_eq_true h4
     subst this
     exact⟨o0,o1,c,by apply Array.ext';simpa using ho,hop,hc,h2,h3,hop1,h5,h6⟩
    .cases h4
   .cases h1
  .cases h1
 .cases h
theorem EnvR.cons {w:World} {M:Mut} {R:Res} {F:Fr} {a:Act} (h:EnvR w M R F.get a) {d:Nat} {v:AV} {u:Value} (hv:VR w M R v u) (hd:d<a.tmps.size):EnvR w M R (Fr.get ((d,v)::F)) (a.put (some d) u):=by
 have h1:=h.put (d:=some d) hv (fun i hi=>by cases hi;exact hd)
 have e:Fr.get ((d,v)::F)=putE F.get (some d) v:=by
  funext i
  simp only[Fr.get,putE]
 rw[e];exact h1
theorem zhz (hm:P.follows .mixedOrders=true) (hR:zaL P Rr) {f:FuncId} {r d:Nat} {dc:LC} {vs:List AV} (hd:znb P f vs.length r d dc) {H H':Heap} {x:LX} {F':Fr} (he:evC Rr dc ((d,.nili)::(r,.nili)::ze vs) H=some (x,F',H')) (hx:∀i,x≠.exit i)
  {K:Ctx} {w:World} {M:Mut} {R:Res} {cvs:List Value} (hw:WR (zq P) K w M R H) (hv:VRs w M R vs cvs):
  CallsDIn (Wf none) 0 P f cvs.toArray .returning w (fun e u' w'=>∃v,e= .returned v∧u'= .returning∧∃M' R',WR (zq P) K w' M' R' H'∧Evol R M w R' M' w'):=by
 obtain⟨fn,rid,dops,cr,f1,f2,f3,f4,f5,f6,f7,f8,f9,f10⟩:=hd
 obtain⟨o0,o1,c,rfl,q1,q2,q3,q4,q5,q6,q7⟩:=zgn f4
 refine callsDIn_of_wpSIn f1 f2 trivial ?_
 intro c₀ cs hu
 refine wpSIn_seq (wpSIn_region ?_)
 show wpOpsSIn (Wf none) 0 P #[o0,o1] _ [0,1] _ _ w
 have z0:(#[o0,o1]:Array Oper)[0]?=some o0:=rfl
 have z1:(#[o0,o1]:Array Oper)[1]?=some o1:=rfl
 have hlen:cvs.length=vs.length:=hv.1
 have hE0:=zcX hv (fn.ntmps - cvs.toArray.size)
 have hsz:(cvs.toArray++Array.replicate (fn.ntmps - cvs.toArray.size) undef).size=fn.ntmps:=by simp;omega
 generalize hact:({tmps:=cvs.toArray++Array.replicate (fn.ntmps - cvs.toArray.size) undef,defers:=[]}:Act)=a at *
 have hat:a.tmps.size=fn.ntmps:=by rw[←hact];exact hsz
 have had:a.defers=[]:=by rw[←hact]
 have hx0:(execOp a.eval o0).run P w= .ok .recover w:=by
  unfold execOp
  rw[q1]
  simp only[resolve,q2]
  rfl
 have hrec:recoverD (c₀::cs)=none:=by simp[recoverD,hu]
 have hx1:(execOp (a.put (some r) .nilIface).eval o1).run P w= .ok (.value .nilIface) w:=by
  unfold execOp
  rw[q5]
  show (pure (.value ((a.put (some r) .nilIface).eval (.tmp r))):Sem Next).run P w=_
  rw[zf0 (by rw[hat];exact f5)]
  rfl
 simp only[wpOpsSIn,z0,z1,zal q4,zal q7,if_true]
 refine⟨fun _ _=>trivial,?_⟩
 rw[hx0]
 simp only[hrec]
 rw[q3]
 refine⟨fun _ _=>trivial,?_⟩
 rw[hx1]
 simp only
 rw[q6]
 show cr.wpSIn (Wf none) 0 P _ _ _ w
 refine wpSIn_of_wpIn rfl ?_
 have hE1:=(hE0.cons (d:=r) (.nili R) (by rw[hat];exact f5)).cons (d:=d) (v:= .nili) (.nili R) (by rw[zZ,hat];exact f6)
 refine wpIn_mono (zaD hm hR dc _ H x F' H' he fn.ntmps cr f9 K w M R _ none (fun h=>absurd rfl h) hw hE1 (by rw[zZ,zZ,hat])) ?_
 intro e a' w' hp
 obtain⟨rfl,D,M1,R1,k1,k2,k3,k4,k5,k6⟩:=hp
 have hD:D=[]:=k6 f8
 subst hD
 have hdef:a'.defers=[]:=by rw[k5,zM,zM,had];rfl
 have hc0:c₀::cs={c₀ with mode:= .returning}::cs:=by rw[←hu]
 have hres:(results fn a'.tmps).run P w'= .ok (.tuple #[]) w':=by
  unfold results
  rw[f10,Array.mapM_eq_mapM_toList]
  rw[zh (x:=#[]) (w':=w') (by rfl)]
  rfl
 cases x with
 |exit i=>exact absurd rfl (hx i)
 |normal=>exact⟨hdef,.returning,hc0,_,hres,_,rfl,rfl,M1,R1,k1,k2⟩
 |ret=>exact⟨hdef,.returning,hc0,_,hres,_,rfl,rfl,M1,R1,k1,k2⟩
theorem zbJ {K:Ctx} {H:Heap} {fn:Func} {tmps:Array Value} {Rp:Ending→World→Prop} {M:Mut} {R:Res} {Ds:List Deferred}:∀(D:List Nat) (w:World),WR (zq P) {K with marks:=D++K.marks} w M R H→
  (∀w',WR (zq P) K w' M R H→Evol R M w R M w'→LeavesInM (Wf none) 0 P fn tmps Rp Ds .returning w')→LeavesInM (Wf none) 0 P fn tmps Rp (D.map zea++Ds) .returning w:=by
 intro D
 induction D with
 |nil=>intro w hw h;exact h w hw (Evol.refl _ _ _)
 |cons r D ih=>
  intro w hw h
  obtain⟨h1,h2⟩:=WR.take (K:=K) (m:=D++K.marks) hw
  refine⟨by simp,.inl ⟨r,_,rfl,run_takeDeferred (hw.marks r (by simp)).1,?_⟩⟩
  exact ih _ h1 (fun w' k1 k2=>h w' k1 (h2.trans k2))
theorem zkt (F:Fr) (t i:Nat):Fr.get (F.filter fun p=>p.1 !=t) i=if i=t then .bad else F.get i:=by
 induction F with
 |nil=>simp[Fr.get]
 |cons p F ih=>
  obtain⟨j,v⟩:=p
  by_cases hj:j=t
  .subst hj
   simp only[List.filter_cons,bne_self_eq_false,Bool.false_eq_true,if_false,ih,Fr.get]
   by_cases hi:i=j<;>simp[hi]
  .have:(j !=t)=true:=by simpa using hj
   simp only[List.filter_cons,this,if_true,Fr.get,ih]
   by_cases hi:i=j
   .subst hi;simp[hj]
   .simp[hi]
def KOK {ρ:Type} (P:Program) (fn:Func) (Rp:Ending→World→Prop) (N:Nat) (k:LX→Fr→Heap→Option ρ) (res:ρ) (K:Ctx) (w:World) (M:Mut) (R:Res) (Ds:List Deferred):Prop:=
 ∀x F1 H1,k x F1 H1=some res→(∀i,x≠.exit i)∧∀(w1:World) (M1:Mut) (R1:Res) (a1:Act) (D:List Nat),WR (zq P) {K with marks:=D++K.marks} w1 M1 R1 H1→Evol R M w R1 M1 w1→EnvR w1 M1 R1 F1.get a1→a1.tmps.size=N→LeavesInM (Wf none) 0 P fn a1.tmps Rp (D.map zea++Ds) .returning w1
theorem KOK.on {ρ:Type} {fn:Func} {Rp:Ending→World→Prop} {N:Nat} {k:LX→Fr→Heap→Option ρ} {res:ρ} {K:Ctx} {w w1:World} {M M1:Mut} {R R1:Res} {Ds:List Deferred} (h:KOK P fn Rp N k res K w M R Ds) (D:List Nat) (he:Evol R M w R1 M1 w1):
  KOK P fn Rp N k res {K with marks:=D++K.marks} w1 M1 R1 (D.map zea++Ds):=by
 intro x F1 H1 hk
 obtain⟨h1,h2⟩:=h x F1 H1 hk
 refine⟨h1,fun w2 M2 R2 a2 D2 k1 k2 k3 k4=>?_⟩
 have:=h2 w2 M2 R2 a2 (D2++D) (by rw[List.append_assoc];exact k1) (he.trans k2) k3 k4
 rw[List.map_append,List.append_assoc]at this
 exact this
theorem zbp {ρ:Type} {fn:Func} {Rp:Ending→World→Prop} {N:Nat} {nr:Bool} {k:LX→Fr→Heap→Option ρ} {res:ρ} {K:Ctx} {w:World} {M:Mut} {R:Res} {Ds:List Deferred} {a:Act} (ha:a.defers=Ds) (hk:KOK P fn Rp N k res K w M R Ds) {x:LX} {F1:Fr} {H1:Heap} (he:k x F1 H1=some res) {e:Exit} {a':Act} {w':World}
  (hp:Post (zq P) K nr N x F1 H1 a w M R e a' w'):bodyPostM (Wf none) 0 P fn Rp e a' w':=by
 obtain⟨rfl,D,M1,R1,k1,k2,k3,k4,k5,k6⟩:=hp
 obtain⟨h1,h2⟩:=hk x F1 H1 he
 have:=h2 w' M1 R1 a' D k1 k2 k3 k4
 rw[←ha,←k5]at this
 cases x with
 |exit i=>exact absurd rfl (h1 i)
 |normal=>exact this
 |ret=>exact this
theorem zit {N:Nat} {t:Nat} {f:FuncId} {caps inn:List Nat} {r d:Nat} {dc rest:LC} {cs:List Code} (h:zad P N (.dfr t f caps inn r d dc rest) cs):∃rid ops cr,cs= .region rid ops false::cr∧zeb t f caps ops=true∧t<N∧znb P f caps.length r d dc∧zad P N rest cr:=by
 cases cs with
 |nil=>exact (show False from h).elim
 |cons c cr=>cases c with
  |region rid ops dr=>cases dr with
   |false=>exact⟨rid,ops,cr,rfl,h⟩
   |true=>cases cr with
    |nil=>exact (show False from h).elim
    |cons _ _=>exact (show False from h).elim
  |_=>cases cr with
   |nil=>exact (show False from h).elim
   |cons _ _=>exact (show False from h).elim
theorem ziu {N:Nat} {t s:Nat} {f:FuncId} {xs:List Src} {inn:List Nat} {dc rest:LC} {cs:List Code} (h:zad P N (.dcl t s f xs inn dc rest) cs):∃rid ops cr,cs= .region rid ops false::cr∧zlA t s f xs ops∧t<N∧znc P f xs.length dc∧zad P N rest cr:=by
 cases cs with
 |nil=>exact (show False from h).elim
 |cons c cr=>cases c with
  |region rid ops dr=>cases dr with
   |false=>exact⟨rid,ops,cr,rfl,h⟩
   |true=>cases cr with
    |nil=>exact (show False from h).elim
    |cons _ _=>exact (show False from h).elim
  |_=>cases cr with
   |nil=>exact (show False from h).elim
   |cons _ _=>exact (show False from h).elim
theorem zg2 {N:Nat} {x:Src} {a b:LC} {cs:List Code} (h:zad P N (.dcnd x a b) cs):∃c' ca cb cr,cs= .cond c' ca cb::cr∧zcH c'=some x∧zad P N a (ca::cr)∧zad P N b (cb::cr):=by
 cases cs with
 |nil=>exact (show False from h).elim
 |cons c cr=>cases c with
  |cond c' ca cb=>exact⟨c',ca,cb,cr,rfl,h⟩
  |_=>cases cr with
   |nil=>exact (show False from h).elim
   |cons _ _=>exact (show False from h).elim
theorem ziv {N:Nat} {a:LC} {cs:List Code} (h:zad P N (.asc a) cs):∃x y cr,cs= .seq x y::cr∧zad P N a (x::y::cr):=by
 cases cs with
 |nil=>exact (show False from h).elim
 |cons c cr=>cases c with
  |seq x y=>exact⟨x,y,cr,rfl,h⟩
  |_=>cases cr with
   |nil=>exact (show False from h).elim
   |cons _ _=>exact (show False from h).elim
theorem zg1 {N:Nat} {b1 b2:LC} {cs:List Code} (h:zad P N (.seq b1 b2) cs):(∃c1 cr,cs=c1::cr∧zJ P N b1 c1∧zad P N b2 cr)∨∃c,cs=[c]∧zJ P N (.seq b1 b2) c:=by
 cases cs with
 |nil=>exact (show False from h).elim
 |cons c cr=>cases cr with
  |nil=>exact .inr ⟨c,rfl,h⟩
  |cons c' cr=>exact .inl ⟨c,c'::cr,rfl,h⟩
def wpL (F:Fence) (n:Nat) (P:Program):List Code→(Exit→Act→World→Prop)→Act→World→Prop
 | [],Q,a,w=>Q .normal a w
 |c::cs,Q,a,w=>c.wpIn F n P (Exit.then (wpL F n P cs Q) Q) a w
theorem znK {nxt:Act→World→Prop} {Q:Exit→Act→World→Prop} {e:Exit} {a:Act} {w:World} (h:Q e a w) (hn:e= .normal→nxt a w):Exit.then nxt Q e a w:=by
 cases e<;>first|exact hn rfl|exact h
theorem znH {F:Fence} {n:Nat} {x y:Code} {cs:List Code} {Q:Exit→Act→World→Prop} {a:Act} {w:World} (h:wpL F n P (x::y::cs) Q a w):wpL F n P (.seq x y::cs) Q a w:=by
 show (Code.seq x y).wpIn F n P _ a w
 refine wpIn_seq (wpIn_mono h ?_)
 intro e a' w' hq
 cases e<;>exact hq
theorem zfM {w:World} {M:Mut} {R:Res} {F:Fr} {a:Act} (he:EnvR w M R F.get a):∀{caps:List Nat} {vs:List AV},vals F.get (caps.map .t)=some vs→VRs w M R vs ((caps.map Operand.tmp).map a.eval)
 | [],vs,h=>by
  simp only[List.map_nil,vals,Option.some.injEq]at h
  subst h
  exact VRs.nil
 |c::l,vs,h=>by
  simp only[List.map_cons,vals]at h
  split at h
  .rename_i v vs' h1 h2
   cases h
   obtain⟨e,_⟩:=zar h1
   refine VRs.cons ?_ (zfM he h2)
   have:=he c
   rw[show F.get c=v from e]at this
   exact this
  .cases h
theorem zhH {E:Nat→AV}:∀{xs:List Src} {vs:List AV},vals E xs=some vs→vs.length=xs.length
 | [],vs,h=>by simp only[vals,Option.some.injEq]at h;subst h;rfl
 |x::r,vs,h=>by
  simp only[vals]at h
  split at h
  .rename_i v vs' h1 h2
   cases h
   simp only[List.length_cons,zhH h2]
  .cases h
theorem zjw (F:Fr) (H:Heap) (ts:List Nat):∃v,resV F H (ts.map RV.tmp)=some v:=by
 have h:rvVs F H (ts.map RV.tmp)=some (ts.map F.get):=by
  induction ts with
  |nil=>rfl
  |cons t r ih=>simp only[List.map_cons,rvVs,rvV,ih]
 exact⟨_,by unfold resV;rw[h];rfl⟩
theorem zfB (hm:P.follows .mixedOrders=true) (hR:zaL P Rr) {f:FuncId} {dc:LC} {vs:List AV} (hd:znc P f vs.length dc) {H H':Heap} {x:LX} {F':Fr} (he:evC Rr dc (ze vs) H=some (x,F',H')) (hx:∀i,x≠.exit i)
  {K:Ctx} {w:World} {M:Mut} {R:Res} {cvs:List Value} (hw:WR (zq P) K w M R H) (hv:VRs w M R vs cvs):
  CallsDIn (Wf none) 0 P f cvs.toArray .returning w (fun e u' w'=>∃v,e= .returned v∧u'= .returning∧∃M' R',WR (zq P) K w' M' R' H'∧Evol R M w R' M' w'):=by
 obtain⟨fn,code,ts,f1,f2,f3,f4,f5,f6,f7⟩:=hd
 refine callsDIn_of_wpSIn f1 f2 trivial ?_
 intro c₀ cs hu
 have hlen:cvs.length=vs.length:=hv.1
 have hE0:=zcX hv (fn.ntmps - cvs.toArray.size)
 have hsz:(cvs.toArray++Array.replicate (fn.ntmps - cvs.toArray.size) undef).size=fn.ntmps:=by simp;omega
 refine wpSIn_of_wpIn rfl ?_
 refine wpIn_mono (zaD hm hR dc _ H x F' H' he fn.ntmps code f6 K w M R _ none (fun h=>absurd rfl h) hw hE0 hsz) ?_
 intro e a' w' hp
 obtain⟨rfl,D,M1,R1,k1,k2,k3,k4,k5,k6⟩:=hp
 have hD:D=[]:=k6 f5
 subst hD
 have hdef:a'.defers=[]:=by rw[k5];rfl
 have hc0:c₀::cs={c₀ with mode:= .returning}::cs:=by rw[←hu]
 obtain⟨v,hv1⟩:=zjw F' H' ts
 obtain⟨u,r1,r2⟩:=zbG k1.heap k3 hv1 f7
 cases x with
 |exit i=>exact absurd rfl (hx i)
 |normal=>exact⟨hdef,.returning,hc0,_,r1,_,rfl,rfl,M1,R1,k1,k2⟩
 |ret=>exact⟨hdef,.returning,hc0,_,r1,_,rfl,rfl,M1,R1,k1,k2⟩
def zhX:LC→Bool| .asc _=>false| .dfr .. =>false| .dcl .. =>false| .dcnd .. =>false| .seq _ b=>zhX b|_=>true
theorem zjt {N:Nat} {b1 b2:LC} {c:Code} (h:zJ P N (.seq b1 b2) c):zhX b2=true:=by
 have key:∀(b:LC) (c:Code),zJ P N b c→zhX b=true:=by
  intro b
  induction b with
  |seq a b iha ihb=>
   intro c h
   cases c<;>first|exact (show False from h).elim|exact ihb _ h.2
  |asc a ih=>intro c h;cases c<;>exact (show False from h).elim
  |dfr t f caps inn r d dc rest ih1 ih2=>intro c h;cases c<;>exact (show False from h).elim
  |dcl t s f xs inn dc rest ih1 ih2=>intro c h;cases c<;>exact (show False from h).elim
  |dcnd x a b ih1 ih2=>intro c h;cases c<;>exact (show False from h).elim
  |_=>intro c h;rfl
 cases c<;>first|exact (show False from h).elim|exact key _ _ h.2
theorem zkX {ρ:Type} {R:Rec}:∀(b:LC) {F:Fr} {H:Heap} {k:LX→Fr→Heap→Option ρ} {res:ρ},zhX b=true→evB R b F H k=some res→((evC R b F H).bind fun p=>k p.1 p.2.1 p.2.2)=some res:=by
 intro b
 induction b with
 |seq a b iha ihb=>
  intro F H k res hp h
  simp only[evB]at h
  obtain⟨⟨x,F1,H1⟩,h1,h2⟩:=Option.bind_eq_some_iff.1 h
  simp only[evC,h1,Option.bind_some]
  cases x with
  |normal=>exact ihb hp h2
  |ret=>exact h2
  |exit i=>exact h2
 |asc a ih=>intro F H k res hp;cases hp
 |dfr t f caps inn r d dc rest ih1 ih2=>intro F H k res hp;cases hp
 |dcl t s f xs inn dc rest ih1 ih2=>intro F H k res hp;cases hp
 |dcnd x a b ih1 ih2=>intro F H k res hp;cases hp
 |_=>intro F H k res hp h;exact h
theorem zi6 (hm:P.follows .mixedOrders=true) (hR:zaL P Rr) {ρ:Type} {fn:Func} {Rp:Ending→World→Prop} {res:ρ}:∀(lc:LC) (F:Fr) (H:Heap) (k:LX→Fr→Heap→Option ρ),evB Rr lc F H k=some res→∀(N:Nat) (cs:List Code),zad P N lc cs→∀(K:Ctx) (w:World) (M:Mut) (R:Res) (a:Act) (Ds:List Deferred),
  WR (zq P) K w M R H→EnvR w M R F.get a→a.tmps.size=N→a.defers=Ds→KOK P fn Rp N k res K w M R Ds→wpL (Wf none) 0 P cs (bodyPostM (Wf none) 0 P fn Rp) a w:=by
 intro lc
 have other:∀lc:LC,∀(F:Fr) (H:Heap) (k:LX→Fr→Heap→Option ρ),((evC Rr lc F H).bind fun p=>k p.1 p.2.1 p.2.2)=some res→∀(N:Nat) (code:Code),zJ P N lc code→∀(K:Ctx) (w:World) (M:Mut) (R:Res) (a:Act) (Ds:List Deferred),
  WR (zq P) K w M R H→EnvR w M R F.get a→a.tmps.size=N→a.defers=Ds→KOK P fn Rp N k res K w M R Ds→wpL (Wf none) 0 P [code] (bodyPostM (Wf none) 0 P fn Rp) a w:=by
  intro lc F H k he N code hs K w M R a Ds hw hE hN hd hk
  obtain⟨⟨x,F1,H1⟩,h1,h2⟩:=Option.bind_eq_some_iff.1 he
  exact wpIn_mono (zaD hm hR lc F H x F1 H1 h1 N code hs K w M R a none (fun h=>absurd rfl h) hw hE hN) (fun e a' w' hp=>znK (zbp hd hk h2 hp) (fun he=>by subst he;exact zbp hd hk h2 hp))
 induction lc with
 |seq b1 b2 ih1 ih2=>
  intro F H k he N cs hs K w M R a Ds hw hE hN hd hk
  rcases zg1 hs with⟨c1,c2,rfl,s1,s2⟩|⟨c,rfl,s1⟩
  rotate_left
  .refine other (.seq b1 b2) F H k ?_ N c s1 K w M R a Ds hw hE hN hd hk
   simp only[evB]at he
   obtain⟨⟨x,F1,H1⟩,h1,h2⟩:=Option.bind_eq_some_iff.1 he
   simp only[evC,h1,Option.bind_some]
   cases x with
   |normal=>exact zkX b2 (zjt s1) h2
   |ret=>exact h2
   |exit i=>exact h2
  simp only[evB]at he
  obtain⟨⟨x,F1,H1⟩,h1,h2⟩:=Option.bind_eq_some_iff.1 he
  simp only at h2
  refine wpIn_mono (zaD hm hR b1 F H x F1 H1 h1 N c1 s1 K w M R a none (fun h=>absurd rfl h) hw hE hN) ?_
  intro e a' w' hp
  cases x with
  |normal=>
   obtain⟨rfl,D,M1,R1,k1,k2,k3,k4,k5,k6⟩:=hp
   exact ih2 F1 H1 k h2 N c2 s2 _ w' M1 R1 a' _ k1 k3 k4 (by rw[k5,hd]) (hk.on D k2)
  |ret=>
   have:=zbp hd hk h2 hp
   obtain⟨rfl,_⟩:=hp
   exact this
  |exit i=>exact absurd rfl ((hk _ _ _ h2).1 i)
 |asc b ih=>
  intro F H k he N cs hs K w M R a Ds hw hE hN hd hk
  obtain⟨x,y,cr,rfl,s1⟩:=ziv hs
  simp only[evB]at he
  exact znH (ih F H k he N _ s1 K w M R a Ds hw hE hN hd hk)
 |dcnd x b1 b2 ih1 ih2=>
  intro F H k he N cs hs K w M R a Ds hw hE hN hd hk
  obtain⟨c',ca,cb,cr,rfl,s1,s2,s3⟩:=zg2 hs
  simp only[evB]at he
  split at he
  rotate_left
  .cases he
  rename_i t ht
  have hc:=VR.src hw.glob hE s1
  rw[ht]at hc
  have hcv:a.eval c'= .bool t:=by cases hq:a.eval c'<;>rw[hq]at hc<;>cases hc;rfl
  refine wpIn_cond hcv ?_
  cases t with
  |true=>simp only[if_true]at he⊢;exact ih1 F H k he N _ s2 K w M R a Ds hw hE hN hd hk
  |false=>simp only[Bool.false_eq_true,if_false]at he⊢;exact ih2 F H k he N _ s3 K w M R a Ds hw hE hN hd hk
 |dcl t s f xs inn dc rest ih1 ih2=>
  intro F H k he N cs0 hs K w M R a Ds hw hE hN hd hk
  obtain⟨rid,ops,cr,rfl,s1,s2,s3,s4⟩:=ziu hs
  obtain⟨o0,o1,c,rfl,q1,q2,q3,q4,q5,q6,q7,q8⟩:=s1
  simp only[evB]at he
  split at he
  rotate_left
  .cases he
  rename_i vs hvs
  have hE1:EnvR w M R (Fr.get ((t,F.get s)::F)) (a.put (some t) (a.eval (.tmp s))):=hE.cons (hE s) (by rw[hN];exact s2)
  have hcv:=zf hw.glob hE1 q6 hvs
  refine wpIn_region ?_
  show wpOpsIn (Wf none) 0 P #[o0,o1] _ [0,1] a w
  have z0:(#[o0,o1]:Array Oper)[0]?=some o0:=rfl
  have z1:(#[o0,o1]:Array Oper)[1]?=some o1:=rfl
  have hx0:(execOp a.eval o0).run P w= .ok (.value (a.eval (.tmp s))) w:=by
   unfold execOp
   rw[q1]
   rfl
  generalize hA:c.args.map (a.put (some t) (a.eval (.tmp s))).eval=A at *
  have hcv:VRs w M R vs A.toList:=by
   rw[←hA,Array.toList_map];exact hcv
  have hx1:(execOp (a.put (some t) (a.eval (.tmp s))).eval o1).run P w= .ok (.defer {target:= .fn (.func f) #[],args:=A}) w:=by
   unfold execOp
   rw[q4]
   simp only[resolve,q5,hA]
   show (do pure (.defer (←Deferred.ofValue (.func (.func f) #[] #[]) A)):Sem Next).run P w=_
   unfold Deferred.ofValue
   simp only[Array.empty_append]
   rfl
  simp only[wpOpsIn,z0,z1,zal q3,zal q8,if_true]
  refine zbX (ρ:=none) rfl ?_
  rw[hx0]
  simp only[Oper.uponIn_value]
  refine zbX (ρ:=none) rfl ?_
  rw[q2,hx1]
  simp only[Oper.uponIn_defer]
  rw[q7]
  show wpL (Wf none) 0 P cr _ _ w
  have hlen:vs.length=xs.length:=by
   have:=hcv.1
   have h2:=zhH hvs
   omega
  rw[←hlen]at s3
  have ⟨fn1,code1,ts1,f1,f2,f3,_⟩:=s3
  refine ih2 _ H _ he N cr s4 K w M R _ ({target:= .fn (.func f) #[],args:=A}::Ds) hw ?_ ((zZ a (some t) _).trans hN) (by rw[←hd];rfl) ?_
  .intro i
   rw[zkt]
   split
   .exact .bad _ _
   .rename_i hi
    have h1:=(hE.sub (za4 F inn)) i
    have e:(Act.put {a.put (some t) (a.eval (.tmp s)) with defers:={target:= .fn (.func f) #[],args:=A}::(a.put (some t) (a.eval (.tmp s))).defers} none undef).tmps.getD i undef=a.tmps.getD i undef:=by
     show (a.tmps.setIfInBounds t _).getD i undef=_
     simp only[Array.getD_eq_getD_getElem?]
     rw[Array.getElem?_setIfInBounds_ne (fun e=>hi e.symm)]
    rw[e];exact h1
  .intro x F1 H1 hk1
   have key:∀y:LX,x=y→(∀i,y≠.exit i)→((evC Rr dc (ze vs) H1).bind fun p=>match p.1 with| .exit _=>none|_=>k y F1 p.2.2)=some res→(∀i,x≠.exit i)∧∀(w1:World) (M1:Mut) (R1:Res) (a1:Act) (D:List Nat),WR (zq P) {K with marks:=D++K.marks} w1 M1 R1 H1→Evol R M w R1 M1 w1→EnvR w1 M1 R1 F1.get a1→a1.tmps.size=N→LeavesInM (Wf none) 0 P fn a1.tmps Rp (D.map zea++({target:= .fn (.func f) #[],args:=A}::Ds)) .returning w1:=by
    intro y hxy hy hh
    subst hxy
    refine⟨hy,fun w1 M1 R1 a1 D g1 g2 g3 g4=>?_⟩
    obtain⟨⟨z,F2,H2⟩,v1,v2⟩:=Option.bind_eq_some_iff.1 hh
    have hz:(∀i,z≠.exit i)∧k x F1 H2=some res:=by
     cases z with
     |exit i=>cases v2
     |normal=>exact⟨(by intro i h;cases h),v2⟩
     |ret=>exact⟨(by intro i h;cases h),v2⟩
    refine zbJ D w1 g1 ?_
    intro w2 j1 j2
    have hcv2:VRs w2 M1 R1 vs A.toList:=(hcv.evol g2).evol j2
    have hD:=zfB hm hR s3 v1 hz.1 j1 hcv2
    rw[Array.toArray_toList]at hD
    refine⟨by simp,.inr ⟨(fun h=>by cases h),.func f,#[],f,A,rfl,?_,fun _ _=>trivial,?_⟩⟩
    .have:=enters_of f1 f3 f2 A w2
     show (callFunc f (A++#[])).run P w2=_
     rw[Array.append_empty]
     exact this
    .refine CallsDIn.mono (n:=0 - 1) hD ?_
     rintro e u' w3 ⟨v,rfl,rfl,M3,R3,l1,l2⟩
     show LeavesInM (Wf none) 0 P fn a1.tmps Rp Ds (settle .returning) w3
     have:=(hk x F1 H2 hz.2).2 w3 M3 R3 a1 [] l1 ((g2.trans j2).trans l2) ((g3.evol j2).evol l2) g4
     exact this
   cases x with
   |exit i=>cases hk1
   |normal=>exact key .normal rfl (by intro i h;cases h) hk1
   |ret=>exact key .ret rfl (by intro i h;cases h) hk1
 |dfr t f caps inn r d dc rest ih1 ih2=>
  intro F H k he N cs0 hs K w M R a Ds hw hE hN hd hk
  obtain⟨rid,ops,cr,rfl,s1,s2,s3,s4⟩:=zit hs
  obtain⟨o0,o1,cs,c,rfl,q1,q2,q3,q4,q5,q6,q7,q8,q9⟩:=zgp s1
  simp only[evB]at he
  split at he
  rotate_left
  .cases he
  rename_i vs hvs
  have hcv:=zfM hE hvs
  rw[←q9]at hcv
  refine wpIn_region ?_
  show wpOpsIn (Wf none) 0 P #[o0,o1] _ [0,1] a w
  have z0:(#[o0,o1]:Array Oper)[0]?=some o0:=rfl
  have z1:(#[o0,o1]:Array Oper)[1]?=some o1:=rfl
  have hx0:(execOp a.eval o0).run P w= .ok (.value (.func (.func f) #[] (cs.map a.eval))) w:=by
   unfold execOp
   rw[q1]
   show (do pure (.value (←Instr.makeFunc (.func f) ((#[]:Array Operand).map a.eval) (cs.map a.eval))):Sem Next).run P w=_
   rw[show (#[]:Array Operand).map a.eval=#[] by simp]
   rfl
  have hx1:(execOp (a.put (some t) (.func (.func f) #[] (cs.map a.eval))).eval o1).run P w= .ok (.defer {target:= .fn (.func f) (cs.map a.eval),args:=#[]}) w:=by
   unfold execOp
   rw[q4]
   simp only[resolve,q5,q6]
   rw[zf0 (by rw[hN];exact s2),Array.map_empty]
   rfl
  simp only[wpOpsIn,z0,z1,zal q3,zal q8,if_true]
  refine zbX (ρ:=none) rfl ?_
  rw[hx0]
  simp only[Oper.uponIn_value]
  refine zbX (ρ:=none) rfl ?_
  rw[q2,hx1]
  simp only[Oper.uponIn_defer]
  rw[q7]
  show wpL (Wf none) 0 P cr _ _ w
  have hlen:vs.length=caps.length:=by
   have:=hcv.1
   rw[q9]at this
   simpa using this.symm
  rw[←hlen]at s3
  have ⟨fn1,rid1,dops1,cr1,f1,f2,f3,_⟩:=s3
  refine ih2 _ H _ he N cr s4 K w M R _ ({target:= .fn (.func f) (cs.map a.eval),args:=#[]}::Ds) hw ?_ ((zZ a (some t) _).trans hN) (by rw[←hd];rfl) ?_
  .intro i
   rw[zkt]
   split
   .exact .bad _ _
   .rename_i hi
    have h1:=(hE.sub (za4 F inn)) i
    have e:(Act.put {a.put (some t) (.func (.func f) #[] (cs.map a.eval)) with defers:={target:= .fn (.func f) (cs.map a.eval),args:=#[]}::(a.put (some t) (.func (.func f) #[] (cs.map a.eval))).defers} none undef).tmps.getD i undef=a.tmps.getD i undef:=by
     show (a.tmps.setIfInBounds t _).getD i undef=_
     simp only[Array.getD_eq_getD_getElem?]
     rw[Array.getElem?_setIfInBounds_ne (fun e=>hi e.symm)]
    rw[e];exact h1
  .intro x F1 H1 hk1
   have key:∀y:LX,x=y→(∀i,y≠.exit i)→((evC Rr dc ((d,.nili)::(r,.nili)::ze vs) H1).bind fun p=>match p.1 with| .exit _=>none|_=>k y F1 p.2.2)=some res→(∀i,x≠.exit i)∧∀(w1:World) (M1:Mut) (R1:Res) (a1:Act) (D:List Nat),WR (zq P) {K with marks:=D++K.marks} w1 M1 R1 H1→Evol R M w R1 M1 w1→EnvR w1 M1 R1 F1.get a1→a1.tmps.size=N→LeavesInM (Wf none) 0 P fn a1.tmps Rp (D.map zea++({target:= .fn (.func f) (cs.map a.eval),args:=#[]}::Ds)) .returning w1:=by
    intro y hxy hy hh
    subst hxy
    refine⟨hy,fun w1 M1 R1 a1 D g1 g2 g3 g4=>?_⟩
    obtain⟨⟨z,F2,H2⟩,v1,v2⟩:=Option.bind_eq_some_iff.1 hh
    have hz:(∀i,z≠.exit i)∧k x F1 H2=some res:=by
     cases z with
     |exit i=>cases v2
     |normal=>exact⟨(by intro i h;cases h),v2⟩
     |ret=>exact⟨(by intro i h;cases h),v2⟩
    refine zbJ D w1 g1 ?_
    intro w2 j1 j2
    have hcv2:VRs w2 M1 R1 vs (cs.toList.map a.eval):=(hcv.evol g2).evol j2
    have hD:=zhz hm hR s3 v1 hz.1 j1 hcv2
    have e2:(cs.toList.map a.eval).toArray=cs.map a.eval:=by apply Array.ext';simp
    rw[e2]at hD
    refine⟨by simp,.inr ⟨(fun h=>by cases h),.func f,cs.map a.eval,f,cs.map a.eval,rfl,?_,fun _ _=>trivial,?_⟩⟩
    .have:=enters_of f1 f3 f2 (#[]++cs.map a.eval) w2
     rw[show (#[]++cs.map a.eval:Array Value)=cs.map a.eval by simp]at this
     show (callFunc f (#[]++cs.map a.eval)).run P w2=_
     rw[show (#[]++cs.map a.eval:Array Value)=cs.map a.eval by simp]
     exact this
    .refine CallsDIn.mono (n:=0 - 1) hD ?_
     rintro e u' w3 ⟨v,rfl,rfl,M3,R3,l1,l2⟩
     show LeavesInM (Wf none) 0 P fn a1.tmps Rp Ds (settle .returning) w3
     have:=(hk x F1 H2 hz.2).2 w3 M3 R3 a1 [] l1 ((g2.trans j2).trans l2) ((g3.evol j2).evol l2) g4
     exact this
   cases x with
   |exit i=>cases hk1
   |normal=>exact key .normal rfl (by intro i h;cases h) hk1
   |ret=>exact key .ret rfl (by intro i h;cases h) hk1
 |skip=>
  intro F H k he N cs hs K w M R a Ds hw hE hN hd hk
  cases cs with
  |nil=>exact zbp hd hk he (nr:=true) ⟨rfl,[],M,R,hw,Evol.refl _ _ _,hE,hN,rfl,fun _=>rfl⟩
  |cons c cr=>cases cr with
   |nil=>exact other .skip F H k he N c hs K w M R a Ds hw hE hN hd hk
   |cons _ _=>exact (show False from hs).elim
 |body b ih=>
  intro F H k he N cs hs
  simp only[evB,evC,Option.bind_none]at he
  cases he
 |_=>
  intro F H k he N cs hs K w M R a Ds hw hE hN hd hk
  cases cs with
  |nil=>exact (show False from hs).elim
  |cons c cr=>cases cr with
   |nil=>exact other _ F H k he N c hs K w M R a Ds hw hE hN hd hk
   |cons _ _=>exact (show False from hs).elim
theorem zeF (hm:P.follows .mixedOrders=true) (hR:zaL P Rr) {f:FuncId} {fi:FI} (hf:FnOK P f fi) {args:List AV} {H H':Heap} {res:AV} (he:runF Rr fi args H=some (res,H'))
  {K:Ctx} {w:World} {M:Mut} {R:Res} {avs:List Value} (hw:WR (zq P) K w M R H) (hv:VRs w M R args avs):
  CallsIn (Wf none) 0 P f avs.toArray w (fun e w'=>∃u,e= .returned u∧Fine P K R M w res H' u w'):=by
 unfold runF at he
 split at he
 rotate_left
 .rename_i hb;exact zmq hm hR hf hb he hw hv
 .rename_i b hb
  obtain⟨fn,code,f1,f2,f3,f4,f5,f6,f7⟩:=hf
  have hlc:fi.lc= .body b:=by
   unfold FI.bod at hb
   split at hb
   .rename_i h;cases hb;exact h
   .cases hb
  rw[hlc]at f6
  have f6:zad P fi.ntmps b [code]:=f6
  unfold zeZ at he
  split at he
  .rename_i hlen
   have hal:avs.length=fi.np:=by rw[hv.1,hlen]
   refine callsIn_of_wp_marks f1 f2 trivial ?_
   suffices hL:wpL (Wf none) 0 P [code] (bodyPostM (Wf none) 0 P fn (fun e w'=>∃u,e= .returned u∧Fine P K R M w res H' u w')) {tmps:=avs.toArray++Array.replicate (fn.ntmps - avs.toArray.size) undef,defers:=[]} w by
    refine wpIn_mono hL ?_
    intro e a' w' hq
    cases e<;>exact hq
   refine zi6 hm hR b _ H _ he fi.ntmps [code] f6 K w M R _ [] hw (zcX hv _) (by simp;omega) rfl ?_
   intro x F1 H1 hk
   have hx:(∀i,x≠.exit i)∧resV F1 H1 fi.res=some res∧H1=H':=by
    cases x with
    |exit i=>cases hk
    |normal=>
     obtain⟨v,h1,h2⟩:=Option.map_eq_some_iff.1 hk
     cases h2
     exact⟨(by intro i h;cases h),h1,rfl⟩
    |ret=>
     obtain⟨v,h1,h2⟩:=Option.map_eq_some_iff.1 hk
     cases h2
     exact⟨(by intro i h;cases h),h1,rfl⟩
   obtain⟨hx1,hx2,rfl⟩:=hx
   refine⟨hx1,fun w1 M1 R1 a1 D g1 g2 g3 g4=>?_⟩
   refine zbJ D w1 g1 ?_
   intro w2 j1 j2
   obtain⟨u,r1,r2⟩:=zbG j1.heap (g3.evol j2) hx2 f7
   exact⟨u,r1,u,rfl,M1,R1,j1,g2.trans j2,r2⟩
  .cases he
theorem znR {w:World} {M:Mut} {R:Res}:∀(ps:List Nat) (args:List AV) (avs:List Value) (F:Fr) (tmps:Array Value),(∀i,VR w M R (F.get i) (tmps.getD i undef))→(∀i∈ps,i<tmps.size)→VRs w M R args avs→args.length=ps.length→
  (∀i,VR w M R ((zbt F ps args).get i) (((ps.zip avs).foldl (fun t p=>t.setIfInBounds p.1 p.2) tmps).getD i undef))∧((ps.zip avs).foldl (fun t p=>t.setIfInBounds p.1 p.2) tmps).size=tmps.size:=by
 intro ps
 induction ps with
 |nil=>
  intro args avs F tmps h1 h2 h3 h4
  cases args with
  |nil=>simpa[zbt]using h1
  |cons x xs=>simp at h4
 |cons p ps ih=>
  intro args avs F tmps h1 h2 h3 h4
  cases args with
  |nil=>simp at h4
  |cons x xs=>
   obtain⟨v,vs,rfl,a1,a2⟩:=h3.inv_cons
   have:=ih xs vs ((p,x)::F) (tmps.setIfInBounds p v) (fun i=>by
    simp only[Fr.get]
    have hp:=h2 p (by simp)
    by_cases hi:i=p
    .subst hi
     rw[if_pos rfl]
     have:(tmps.setIfInBounds i v).getD i undef=v:=by simp[Array.getD,hp]
     rw[this];exact a1
    .rw[if_neg hi]
     have:(tmps.setIfInBounds p v).getD i undef=tmps.getD i undef:=by
      simp only[Array.getD_eq_getD_getElem?]
      rw[Array.getElem?_setIfInBounds_ne (fun e=>hi e.symm)]
     rw[this];exact h1 i) (fun i hi=>by simpa using h2 i (by simp[hi])) a2 (by simpa using h4)
   simpa[zbt]using this
theorem zg8 (hm:P.follows .mixedOrders=true) (hR:zaL P Rr) {id:Nat} {args:List AV} {H H':Heap} {res:AV} (he:zcb Rr id args H=some (res,H'))
  {K:Ctx} {w:World} {M:Mut} {R:Res} {fv:Value} {avs:List Value} (hw:WR (zq P) K w M R H) (hf:VR w M R (.yld id) fv) (hv:VRs w M R args avs):zlC P fv avs w (Fine P K R M w res H'):=by
 cases hf with
 |yld R id g hg=>
 unfold zcb at he
 split at he
 .rename_i pend F ps ac bd hb
  split at he
  .rename_i hlen
   obtain⟨g0,r,b1,b2,b3,b4,b5,b6,b7,b8,b9,b10⟩:=hw.heap.blk _ _ hb
   rw[hg]at b1;cases b1
   cases hev:evC Rr ac (zbt F ps args) H with
   |none=>simp[hev]at he
   |some p=>
    obtain⟨x1,F1,H1⟩:=p
    simp only[hev,Option.bind_some]at he
    obtain⟨henv,hsz⟩:=znR ps args avs F r.tmps b9 b10 hv hlen
    have hfold:((r.params.zip avs.toArray).foldl (fun tmps (t,a)=>tmps.setIfInBounds t a) r.tmps)=((ps.zip avs).foldl (fun t p=>t.setIfInBounds p.1 p.2) r.tmps):=by
     rw[b6];simp
    refine .inr ⟨g.blk,r.fn,_,r.assign,r.body,rfl,run_yield b3 (by rw[b6];simp[hv.1,hlen]),roundIn_of_wpIn trivial ?_⟩
    rw[hfold]
    have h1:=zaD hm hR ac _ H x1 F1 H1 hev r.tmps.size r.assign b7.1 K w M R {tmps:=((ps.zip avs).foldl (fun t p=>t.setIfInBounds p.1 p.2) r.tmps),defers:=[]} (some g.blk) (fun _=>b7.2) hw henv hsz
    refine wpIn_mono h1 ?_
    intro e a1 w1 hp
    obtain⟨rfl,D1,M1,R1,k1,k2,k3,k4,k5,k6⟩:=hp
    cases x1 with
    |ret=>simp at he
    |exit i=>simp at he
    |normal=>
    split at he
    .rename_i pend2 F2 ps2 ac2 bd2 heq hb2
     cases heq
     have k1':=k1.dropMarks (K:=K)
     obtain⟨g1,r1,c1,c2,c3,c4,c5,c6,c7,c8,c9,c10⟩:=k1'.heap.blk _ _ hb2
     have hg1:=k2.own _ _ _ hg
     rw[hg1]at c1;cases c1
     obtain⟨q1,q2⟩:=k1'.putLoop (st':= .busy) (pend':=pend2) (r':={r1 with state:= .busy}) hb2 hg1 c3 rfl c5 rfl rfl rfl rfl
     refine⟨_,run_beginRound c3 c4,?_⟩
     cases hev2:evC Rr bd F1 (H1.set id (.loop .busy pend2 F2 ps2 ac2 bd2)) with
     |none=>simp[hev2]at he
     |some p2=>
      obtain⟨x2,F3,H3⟩:=p2
      simp only[hev2,Option.bind_some]at he
      have h2:=zaD hm hR bd _ _ x2 F3 H3 hev2 r.tmps.size r.body b8.1 K _ M1 R1 a1 (some g.blk) (fun _=>b8.2) q1 (k3.evol q2) k4
      refine wpIn_mono h2 ?_
      intro e2 a2 w3 hp2
      obtain⟨rfl,D3,M3,R3,m1,m2,m3,m4,m5,m6⟩:=hp2
      have m1':=m1.dropMarks (K:=K)
      split at he
      .rename_i st3 pend3 F4 ps3 ac3 bd3 hb3
       obtain⟨g3,r3,d1,d2,d3,d4,d5,d6,d7,d8,d9,d10⟩:=m1'.heap.blk _ _ hb3
       have hg3:=m2.own _ _ _ hg1
       rw[hg3]at d1;cases d1
       have hev3:=(k2.trans q2).trans m2
       cases x2 with
       |normal=>
        simp only[Option.some.injEq,Prod.mk.injEq]at he
        obtain⟨rfl,rfl⟩:=he
        obtain⟨z1,z2⟩:=m1'.putLoop (st':= .ready) (pend':=none) (r':={r3 with state:= .ready,pending:=none}) hb3 hg3 d3 rfl trivial rfl rfl rfl rfl
        exact⟨_,_,run_endRound none d3,_,rfl,M3,R3,z1,hev3.trans z2,.bool _ _⟩
       |ret=>
        simp only[Option.some.injEq,Prod.mk.injEq]at he
        obtain⟨rfl,rfl⟩:=he
        obtain⟨z1,z2⟩:=m1'.putLoop (st':= .done) (pend':=some .ret) (r':={r3 with state:= .done,pending:=some .ret}) hb3 hg3 d3 rfl rfl rfl rfl rfl rfl
        exact⟨_,_,run_endRound (some .ret) d3,_,rfl,M3,R3,z1,hev3.trans z2,.bool _ _⟩
       |exit i=>
        simp only[Option.some.injEq,Prod.mk.injEq]at he
        obtain⟨rfl,rfl⟩:=he
        obtain⟨z1,z2⟩:=m1'.putLoop (st':= .done) (pend':=some (.exit i)) (r':={r3 with state:= .done,pending:=some (.exit i)}) hb3 hg3 d3 rfl rfl rfl rfl rfl rfl
        exact⟨_,_,run_endRound (some (.exit i)) d3,_,rfl,M3,R3,z1,hev3.trans z2,.bool _ _⟩
      .cases he
    .cases he
  .cases he
 .cases he
theorem zfJ {w:World} {M:Mut} {R:Res} {xs:List AV} {us:Array Value} (hs:us.size=xs.length) (hu:∀(j:Nat) (c:AV) (u:Value),xs[j]?=some c→us[j]?=some u→VR w M R c u):VRs w M R xs us.toList:=
 ⟨by simpa using hs,fun j c u hj huj=>hu j c u hj (by simpa using huj)⟩
def zey (P:Program) (f:FuncId) (g:List AV→Option AV):Prop:=
 Enters P f∧∀(w:World) (M:Mut) (args:List AV) (avs:List Value) (v:AV),GOk w M zag→VRs w M zag args avs→g args=some v→CallsIn (Wf none) 0 P f avs.toArray w (fun e w'=>∃u,e= .returned u∧Below w.heap.size w w'∧VR w' (Old w.heap.size M) zag v u)
def zdy (P:Program) (f:FuncId) (g:List AV→Heap→Option (AV×Heap)):Prop:=
 Enters P f∧∀(K:Ctx) (w:World) (M:Mut) (R:Res) (H H':Heap) (args:List AV) (avs:List Value) (v:AV),WR (zq P) K w M R H→VRs w M R args avs→g args H=some (v,H')→
  CallsIn (Wf none) 0 P f avs.toArray w (fun e w'=>∃u,e= .returned u∧Fine P K R M w v H' u w')
theorem zcK (hm:P.follows .mixedOrders=true) (hR:zaL P Rr) {Φ:FuncId→Option FI} (hΦ:∀f fi,Φ f=some fi→FnOK P f fi) (hX:∀f g,ext f=some g→zey P f g) {f:FuncId} {args:List AV} {v:AV} (h:zcL Rr Φ f args=some v)
  {w:World} {M:Mut} {avs:List Value} (hgl:GOk w M zag) (hv:VRs w M zag args avs):
  Enters P f∧CallsIn (Wf none) 0 P f avs.toArray w (fun e w'=>∃u,e= .returned u∧Below w.heap.size w w'∧VR w' (Old w.heap.size M) zag v u):=by
 unfold zcL at h
 split at h
 .split at h
  .rename_i fi hfi
   cases hev:runF Rr fi args [] with
   |none=>simp[hev]at h
   |some p=>
    obtain⟨res,H'⟩:=p
    simp only[hev,Option.bind_some]at h
    have ⟨fn,code,f1,f2,f3,_⟩:=hΦ f fi hfi
    have hw0:WR (zq P) ⟨w.heap.size,w,M,[],[],hgl.2⟩ w M zag []:=⟨⟨fun id B hb=>(by simp at hb),fun id ver g hg=>(by cases hg),fun i j Bi Bj gi gj hi=>(by simp at hi)⟩,fun p hp=>hgl.1 p (by simpa using hp),Below.refl _ w,fun id ver g hg=>(by cases hg),fun _ _ _=>Iff.rfl,Nat.le_refl _,fun r hr=>(by simp at hr),List.nodup_nil⟩
    refine⟨enters_of f1 f3 f2,CallsIn.mono (zeF hm hR (hΦ f fi hfi) hev hw0 hv) ?_⟩
    rintro e w' ⟨u,rfl,M',R',k1,k2,k3⟩
    refine⟨u,rfl,k1.below,?_⟩
    have:=zgw k1.heap k1.base 8 _ _ _ h k3
    refine this.go (fun _ _ _ h _=>h) (fun b o _ hm=>⟨hm.1,?_⟩) (fun _ _ _ h _=>h) (fun _ _ _ h=>h)
    exact (k1.sub b o hm.1).2 hm.2
  .split at h
   .rename_i g hg
    obtain⟨x1,x2⟩:=hX f g hg
    exact⟨x1,x2 w M args avs v hgl hv h⟩
   .cases h
 .cases h
theorem ziC (hm:P.follows .mixedOrders=true) (hR:zaL P Rr) {Φ:FuncId→Option FI} (hΦ:∀f fi,Φ f=some fi→FnOK P f fi) (hX:∀f g,ext f=some g→zey P f g) {R1:Rec} (h1:R1.pure=zcL Rr Φ):zbi P (zq P) R1:=by
 intro f args v h K w M Rs H avs hw hv
 rw[h1]at h
 have hfl:args.all AV.flat=true:=by
  unfold zcL at h
  split at h
  .assumption
  .cases h
 have hv':VRs w M zag args avs:=⟨hv.1,fun j x v hx hv1=>(hv.2 j x v hx hv1).flat (List.all_eq_true.1 hfl x (List.mem_of_getElem? hx))⟩
 obtain⟨a,b⟩:=zcK hm hR hΦ hX h hw.glob.flat hv'
 refine .inl ⟨f,#[],#[],rfl,a,?_⟩
 rw[show (#[]++avs.toArray++#[]:Array Value)=avs.toArray by simp]
 refine CallsIn.mono b ?_
 rintro e w' ⟨u,rfl,k1,k2⟩
 obtain⟨m1,m2⟩:=hw.belowAll k1
 obtain⟨q1,q2⟩:=m1.oldM w.heap.size (fun id B g hb hg=>by
  obtain⟨g',p1,p2,_⟩:=hw.heap.place hb hg
  rw[hg]at p1;cases p1
  exact p2) hw.le
 exact⟨u,rfl,_,_,q1,m2.trans q2,k2.noRes_any rfl⟩
theorem zfY (hm:P.follows .mixedOrders=true) {Φ:FuncId→Option FI} (hΦ:∀f fi,Φ f=some fi→FnOK P f fi) (hX:∀f g,ext f=some g→zey P f g) (hY:∀f g,extM f=some g→zdy P f g):∀n,zaL P (zbj Φ n)
 |0=>⟨fun v args H res H' h=>by simp[zbj]at h,fun f args v h=>by simp[zbj]at h,0,fun live b F H x F' H' h=>by simp[zbj]at h⟩
 |n+1=>by
  have ih:=zfY hm hΦ hX hY n
  refine⟨?_,ziC hm ih hΦ hX rfl,?_⟩
  .intro v args H res H' h K w M R fv avs hw hf hv
   simp only[zbj,zdB]at h
   split at h
   .rename_i f fs cs
    split at h
    .rename_i fi hfi
     cases hf with
     |clo R f xs ys us vs hs hs' hu hv'=>
     have ⟨fn,code,f1,f2,f3,_⟩:=hΦ f fi hfi
     refine .inl ⟨f,us,vs,rfl,enters_of f1 f3 f2,?_⟩
     have:=zeF hm ih (hΦ f fi hfi) h hw (((zfJ hs hu).append hv).append (zfJ hs' hv'))
     have e:(us.toList++avs++vs.toList).toArray=us++avs.toArray++vs:=by
      apply Array.ext'
      simp
     rw[e]at this
     exact this
    .split at h
     .rename_i g hg
      cases hf with
      |clo R f xs ys us vs hs hs' hu hv'=>
      obtain⟨y1,y2⟩:=hY _ g hg
      refine .inl ⟨f,us,vs,rfl,y1,?_⟩
      have:=y2 K w M R H H' _ _ _ hw (((zfJ hs hu).append hv).append (zfJ hs' hv')) h
      have e:(us.toList++avs++vs.toList).toArray=us++avs.toArray++vs:=by
       apply Array.ext'
       simp
      rw[e]at this
      exact this
     .cases h
   .exact zg8 hm ih h hw hf hv
   .cases h
  .obtain⟨m,hl⟩:=ih.loop
   exact⟨m+1,ziL hm ih hl (fun live b F H=>rfl)⟩
end calls
end Go.Proofs.YtgamobngbenehaaGreatDoor
