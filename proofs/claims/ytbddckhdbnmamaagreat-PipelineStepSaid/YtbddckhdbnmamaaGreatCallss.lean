/-
  Functions and rounds, evaluated: sound; all calls, to any depth (conditions: that the light functions stand for the program's is a hypothesis).
-/
import Derived.RecoverIn
import Derived.Test.YtbddckhdbnmamaaGreatFrzs
import Derived.Test.YtbddckhdbnmamaaGreatRuns
namespace Go.Proofs.YtbddckhdbnmamaaGreat
open Go Go.RowKit
set_option linter.unusedVariables false
set_option linter.unusedSimpArgs false
def zqf (P:Program):RV→ResultVar→Prop
 | .tmp t,.tmp t'=>t=t'
 | .cell t g n,.cell a ty=>t=a∧aggT P ty=some g∧szT P ty=some n
 |_,_=>False
def zfl (P:Program):List RV→List ResultVar→Prop
 | [],[]=>True
 |a::l,b::bs=>zqf P a b∧zfl P l bs
 |_,_=>False
def isTmp:Operand→Option Nat| .tmp i=>some i|_=>none
def FnOK (P:Program) (f:FuncId) (fi:FI):Prop:=
 ∃fn code,P.funcs[f]?=some fn∧fn.body=some code∧(fn.name== "runtime.NumGoroutine")=false∧fn.ntmps=fi.ntmps∧fi.np≤fi.ntmps∧zar P fi.ntmps fi.lc code∧zfl P fi.res fn.results.toList
section calls
variable {P:Program} {Rr:Rec}
theorem zlM {w:World} {M:Mut} {R:Res} {F:Fr} {H:Heap} {a:Act} (hh:HR (zG P) w M R H) (he:EnvR w M R F.get a) {rv:RV} {r:ResultVar} {v:AV} (h1:rvV F H rv=some v) (h2:zqf P rv r):
  ∃u,(match r with| .tmp t=>pure (a.tmps.getD t undef)| .cell x t=>do loadVar t (←asAddr (a.tmps.getD x undef)):Sem Value).run P w= .ok u w∧VR w M R v u:=by
 cases rv with
 |tmp t=>
  cases r<;>simp only[zqf]at h2
  subst h2
  simp only[rvV,oSi]at h1
  subst h1
  exact⟨_,rfl,he t⟩
 |cell t g n=>
  cases r<;>simp only[zqf]at h2
  rename_i x ty
  obtain⟨rfl,h3,h4⟩:=h2
  simp only[rvV]at h1
  have hne:zcM H g n (F.get t)=v∧v≠.bad:=by
   cases hq:zcM H g n (F.get t)<;>rw[hq]at h1<;>simp[okO]at h1<;>subst h1<;>simp
  obtain⟨u,k1,k2⟩:=ztd hh (he t) hne.1 hne.2 h3 h4
  refine⟨u,?_,k2⟩
  rw[←k1]
  have hp:∃ad,a.tmps.getD t undef= .pointer (some ad):=by
   have hx:=he t
   have hv:=hne.2
   rw[←hne.1]at hv
   generalize F.get t=y at hx hv
   generalize a.tmps.getD t undef=u at hx
   cases hx<;>first|exact⟨_,rfl⟩|simp[zcM]at hv
  obtain⟨ad,hp⟩:=hp
  simp only[hp]
  rfl
theorem zkg {w:World} {M:Mut} {R:Res} {F:Fr} {H:Heap} {a:Act} (hh:HR (zG P) w M R H) (he:EnvR w M R F.get a):∀{l:List RV} {rs:List ResultVar} {vs:List AV},rvVs F H l=some vs→zfl P l rs→
  ∃us,(rs.mapM (fun r=>(match r with| .tmp t=>pure (a.tmps.getD t undef)| .cell x t=>do loadVar t (←asAddr (a.tmps.getD x undef)):Sem Value))).run P w= .ok us w∧VRs w M R vs us:=by
 intro l
 induction l with
 |nil=>
  intro rs vs h1 h2
  cases rs<;>simp only[zfl]at h2
  simp only[rvVs,oSi]at h1
  subst h1
  exact⟨[],rfl,VRs.nil⟩
 |cons x l ih=>
  intro rs vs h1 h2
  cases rs<;>simp only[zfl]at h2
  rename_i r rs
  simp only[rvVs]at h1
  split at h1
  .rename_i v vs' hv hvs
   cases h1
   obtain⟨u,a1,a2⟩:=zlM hh he hv h2.1
   obtain⟨us,b1,b2⟩:=ih hvs h2.2
   refine⟨u::us,?_,VRs.cons a2 b2⟩
   rw[List.mapM_cons,zl a1,zl b1]
   rfl
  .cases h1
theorem zgU {w:World} {M:Mut} {R:Res} {F:Fr} {H:Heap} {a:Act} {fn:Func} {l:List RV} {res:AV} (hh:HR (zG P) w M R H) (he:EnvR w M R F.get a) (h1:resV F H l=some res) (h2:zfl P l fn.results.toList):
  ∃u,(results fn a.tmps).run P w= .ok u w∧VR w M R res u:=by
 unfold resV at h1
 cases hv:rvVs F H l with
 |none=>simp[hv]at h1
 |some vs=>
  simp only[hv,oMs,oSi]at h1
  obtain⟨us,a1,a2⟩:=zkg hh he hv h2
  refine⟨if h:us.toArray.size=1 then us.toArray[0] else .tuple us.toArray,?_,?_⟩
  .unfold results
   rw[Array.mapM_eq_mapM_toList]
   rw[zl (x:=us.toArray) (w':=w) (by rw[map_eq_pure_bind];exact (zl a1).trans rfl)]
   rfl
  .have htup:VR w M R (.tuple vs) (.tuple us.toArray):= .tuple _ _ _ (by simpa using a2.1) (fun j c u hj hu=>a2.2 j c u hj (by simpa using hu))
   have hl:=a2.1
   match vs,us,hl,a2,h1,htup with
   | [],[],_,_,h1,ht=>simp at h1⊢;subst h1;exact ht
   | [v],[u],_,a2,h1,ht=>simp at h1⊢;subst h1;exact a2.2 0 _ _ rfl rfl
   |v::v'::r,u::u'::s,_,_,h1,ht=>simp at h1⊢;subst h1;exact ht
theorem zii {K:Ctx} {H:Heap} {fn:Func} {tmps:Array Value} {Rp:Ending→World→Prop} {M:Mut} {R:Res}:∀(D:List Nat) (w:World),WR (zG P) {K with marks:=D++K.marks} w M R H→
  (∀w',WR (zG P) K w' M R H→Evol R M w R M w'→∃v,(results fn tmps).run P w'= .ok v w'∧Rp (.returned v) w')→LeavesInM (Wf none) 0 P fn tmps Rp (D.map zlQ) .returning w:=by
 intro D
 induction D with
 |nil=>
  intro w hw h
  exact h w hw (Evol.refl _ _ _)
 |cons r D ih=>
  intro w hw h
  obtain⟨h1,h2⟩:=WR.take (K:=K) (m:=D++K.marks) hw
  refine⟨by simp,.inl ⟨r,_,rfl,run_takeDeferred (hw.marks r (by simp)).1,?_⟩⟩
  exact ih _ h1 (fun w' k1 k2=>h w' k1 (h2.trans k2))
theorem zvc:∀(l:List AV) (k i:Nat),Fr.get ((l.zipIdx k).map fun p=>(p.2,p.1)) i=if k≤i then l.getD (i - k) .bad else .bad:=by
 intro l
 induction l with
 |nil=>intro k i;simp[Fr.get]
 |cons x l ih=>
  intro k i
  simp only[List.zipIdx_cons,List.map_cons,Fr.get,ih]
  by_cases h:i=k
  .subst h;simp
  .by_cases h2:k≤i
   .rw[if_neg h,if_pos (by omega),if_pos h2]
    rw[show i - k=(i - (k+1))+1 by omega]
    simp
   .rw[if_neg h,if_neg (by omega),if_neg h2]
theorem zoX {w:World} {M:Mut} {R:Res} {args:List AV} {avs:List Value} (hv:VRs w M R args avs) (n:Nat):EnvR w M R (zfK args).get {tmps:=avs.toArray++Array.replicate n undef,defers:=[]}:=by
 intro i
 unfold zfK
 rw[zvc]
 simp only[Nat.zero_le,if_true,Nat.sub_zero]
 by_cases hi:i<args.length
 .have hi':i<avs.length:=by rw[hv.1];exact hi
  have h1:args.getD i .bad=args[i]:=by simp[List.getD,hi]
  have h2:(avs.toArray++Array.replicate n undef).getD i undef=avs[i]:=by
   rw[Array.getD_eq_getD_getElem?,Array.getElem?_append_left (by simpa using hi')]
   simp[hi']
  rw[h1]
  show VR w M R _ ((avs.toArray++Array.replicate n undef).getD i undef)
  rw[h2]
  exact hv.2 i _ _ (gEg hi) (gEg hi')
 .have h1:args.getD i .bad= .bad:=by simp[List.getD,List.getElem?_eq_none (by omega:args.length≤i)]
  rw[h1]
  exact .bad _ _
def Fine (P:Program) (K:Ctx) (R:Res) (M:Mut) (w:World) (res:AV) (H':Heap):Value→World→Prop:=fun u w'=>∃M' R',WR (zG P) K w' M' R' H'∧Evol R M w R' M' w'∧VR w' M' R' res u
theorem zla (hm:P.follows .mixedOrders=true) (hR:zcn P Rr) {f:FuncId} {fi:FI} (hf:FnOK P f fi) {args:List AV} {H H':Heap} {res:AV} (he:zam Rr fi args H=some (res,H'))
  {K:Ctx} {w:World} {M:Mut} {R:Res} {avs:List Value} (hw:WR (zG P) K w M R H) (hv:VRs w M R args avs):
  CallsIn (Wf none) 0 P f avs.toArray w (fun e w'=>∃u,e= .returned u∧Fine P K R M w res H' u w'):=by
 obtain⟨fn,code,f1,f2,f3,f4,f5,f6,f7⟩:=hf
 unfold zam at he
 split at he
 .rename_i hlen
  cases hev:evC Rr fi.lc (zfK args) H with
  |none=>simp[hev]at he
  |some p=>
   obtain⟨x,F1,H1⟩:=p
   simp only[hev,Option.bind_some]at he
   have hal:avs.length=fi.np:=by rw[hv.1,hlen]
   refine callsIn_of_wp_marks f1 f2 trivial ?_
   refine wpIn_mono (zdf hm hR fi.lc _ H x F1 H1 hev fi.ntmps code f6 K w M R _ none (fun h=>absurd rfl h) hw (zoX hv _) (by simp;omega)) ?_
   intro e a' w' hp
   have hx:resV F1 H1 fi.res=some res∧H1=H'∧(x= .normal∨x= .ret):=by
    cases x with
    |exit i=>simp at he
    |normal=>
     simp only[oMe,pMi]at he
     obtain⟨v,h1,rfl,rfl⟩:=he
     exact⟨h1,rfl,.inl rfl⟩
    |ret=>
     simp only[oMe,pMi]at he
     obtain⟨v,h1,rfl,rfl⟩:=he
     exact⟨h1,rfl,.inr rfl⟩
   obtain⟨hres,rfl,hxx⟩:=hx
   obtain⟨rfl,D,M1,R1,k1,k2,k3,k4,k5,k6⟩:=hp
   have hl:LeavesInM (Wf none) 0 P fn a'.tmps (fun e w'=>∃u,e= .returned u∧Fine P K R M w res H1 u w') a'.defers .returning w':=by
    rw[k5,List.append_nil]
    refine zii D w' k1 ?_
    intro w'' q1 q2
    obtain⟨u,r1,r2⟩:=zgU q1.heap (k3.evol q2) hres f7
    exact⟨u,r1,u,rfl,M1,R1,q1,k2.trans q2,r2⟩
   rcases hxx with rfl|rfl<;>exact hl
 .cases he
/-! ### Deferred calls -/
theorem EnvR.cons {w:World} {M:Mut} {R:Res} {F:Fr} {a:Act} (h:EnvR w M R F.get a) {d:Nat} {v:AV} {u:Value} (hv:VR w M R v u) (hd:d<a.tmps.size):EnvR w M R (Fr.get ((d,v)::F)) (a.put (some d) u):=by
 have h1:=h.put (d:=some d) hv (fun i hi=>by cases hi;exact hd)
 have e:Fr.get ((d,v)::F)=putE F.get (some d) v:=by
  funext i
  simp only[Fr.get,putE]
 rw[e];exact h1
theorem ztU {w:World} {M:Mut} {R:Res}:∀(ps:List Nat) (args:List AV) (avs:List Value) (F:Fr) (tmps:Array Value),(∀i,VR w M R (F.get i) (tmps.getD i undef))→(∀i∈ps,i<tmps.size)→VRs w M R args avs→args.length=ps.length→
  (∀i,VR w M R ((zcJ F ps args).get i) (((ps.zip avs).foldl (fun t p=>t.setIfInBounds p.1 p.2) tmps).getD i undef))∧((ps.zip avs).foldl (fun t p=>t.setIfInBounds p.1 p.2) tmps).size=tmps.size:=by
 intro ps
 induction ps with
 |nil=>
  intro args avs F tmps h1 h2 h3 h4
  cases args with
  |nil=>simpa[zcJ]using h1
  |cons x xs=>simp at h4
 |cons p ps ih=>
  intro args avs F tmps h1 h2 h3 h4
  cases args with
  |nil=>simp at h4
  |cons x xs=>
   obtain⟨v,vs,rfl,a1,a2⟩:=h3.inv_cons
   have:=ih xs vs ((p,x)::F) (tmps.setIfInBounds p v) (fun i=>by
    simp only[Fr.get]
    have hp:=h2 p (by simp)
    by_cases hi:i=p
    .subst hi
     rw[if_pos rfl]
     have:(tmps.setIfInBounds i v).getD i undef=v:=by simp[Array.getD,hp]
     rw[this];exact a1
    .rw[if_neg hi]
     have:(tmps.setIfInBounds p v).getD i undef=tmps.getD i undef:=by
      simp only[Array.getD_eq_getD_getElem?]
      rw[Array.getElem?_setIfInBounds_ne (fun e=>hi e.symm)]
     rw[this];exact h1 i) (fun i hi=>by simpa using h2 i (by simp[hi])) a2 (by simpa using h4)
   simpa[zcJ]using this
theorem zjq (hm:P.follows .mixedOrders=true) (hR:zcn P Rr) {id:Nat} {args:List AV} {H H':Heap} {res:AV} (he:zcV Rr id args H=some (res,H'))
  {K:Ctx} {w:World} {M:Mut} {R:Res} {fv:Value} {avs:List Value} (hw:WR (zG P) K w M R H) (hf:VR w M R (.yld id) fv) (hv:VRs w M R args avs):zpV P fv avs w (Fine P K R M w res H'):=by
 cases hf with
 |yld R id g hg=>
 unfold zcV at he
 split at he
 .rename_i pend F ps ac bd hb
  split at he
  .rename_i hlen
   obtain⟨g0,r,b1,b2,b3,b4,b5,b6,b7,b8,b9,b10⟩:=hw.heap.blk _ _ hb
   rw[hg]at b1;cases b1
   cases hev:evC Rr ac (zcJ F ps args) H with
   |none=>simp[hev]at he
   |some p=>
    obtain⟨x1,F1,H1⟩:=p
    simp only[hev,Option.bind_some]at he
    obtain⟨henv,hsz⟩:=ztU ps args avs F r.tmps b9 b10 hv hlen
    have hfold:((r.params.zip avs.toArray).foldl (fun tmps (t,a)=>tmps.setIfInBounds t a) r.tmps)=((ps.zip avs).foldl (fun t p=>t.setIfInBounds p.1 p.2) r.tmps):=by
     rw[b6];simp
    refine .inr ⟨g.blk,r.fn,_,r.assign,r.body,rfl,run_yield b3 (by rw[b6];simp[hv.1,hlen]),roundIn_of_wpIn trivial ?_⟩
    rw[hfold]
    have h1:=zdf hm hR ac _ H x1 F1 H1 hev r.tmps.size r.assign b7.1 K w M R {tmps:=((ps.zip avs).foldl (fun t p=>t.setIfInBounds p.1 p.2) r.tmps),defers:=[]} (some g.blk) (fun _=>b7.2) hw henv hsz
    refine wpIn_mono h1 ?_
    intro e a1 w1 hp
    obtain⟨rfl,D1,M1,R1,k1,k2,k3,k4,k5,k6⟩:=hp
    cases x1 with
    |ret=>simp at he
    |exit i=>simp at he
    |normal=>
    split at he
    .rename_i pend2 F2 ps2 ac2 bd2 heq hb2
     cases heq
     have k1':=k1.dropMarks (K:=K)
     obtain⟨g1,r1,c1,c2,c3,c4,c5,c6,c7,c8,c9,c10⟩:=k1'.heap.blk _ _ hb2
     have hg1:=k2.own _ _ _ hg
     rw[hg1]at c1;cases c1
     obtain⟨q1,q2⟩:=k1'.putLoop (st':= .busy) (pend':=pend2) (r':={r1 with state:= .busy}) hb2 hg1 c3 rfl c5 rfl rfl rfl rfl
     refine⟨_,run_beginRound c3 c4,?_⟩
     cases hev2:evC Rr bd F1 (H1.set id (.loop .busy pend2 F2 ps2 ac2 bd2)) with
     |none=>simp[hev2]at he
     |some p2=>
      obtain⟨x2,F3,H3⟩:=p2
      simp only[hev2,Option.bind_some]at he
      have h2:=zdf hm hR bd _ _ x2 F3 H3 hev2 r.tmps.size r.body b8.1 K _ M1 R1 a1 (some g.blk) (fun _=>b8.2) q1 (k3.evol q2) k4
      refine wpIn_mono h2 ?_
      intro e2 a2 w3 hp2
      obtain⟨rfl,D3,M3,R3,m1,m2,m3,m4,m5,m6⟩:=hp2
      have m1':=m1.dropMarks (K:=K)
      split at he
      .rename_i st3 pend3 F4 ps3 ac3 bd3 hb3
       obtain⟨g3,r3,d1,d2,d3,d4,d5,d6,d7,d8,d9,d10⟩:=m1'.heap.blk _ _ hb3
       have hg3:=m2.own _ _ _ hg1
       rw[hg3]at d1;cases d1
       have hev3:=(k2.trans q2).trans m2
       cases x2 with
       |normal=>
        simp only[oSi,pMi]at he
        obtain⟨rfl,rfl⟩:=he
        obtain⟨z1,z2⟩:=m1'.putLoop (st':= .ready) (pend':=none) (r':={r3 with state:= .ready,pending:=none}) hb3 hg3 d3 rfl trivial rfl rfl rfl rfl
        exact⟨_,_,run_endRound none d3,_,rfl,M3,R3,z1,hev3.trans z2,.bool _ _⟩
       |ret=>
        simp only[oSi,pMi]at he
        obtain⟨rfl,rfl⟩:=he
        obtain⟨z1,z2⟩:=m1'.putLoop (st':= .done) (pend':=some .ret) (r':={r3 with state:= .done,pending:=some .ret}) hb3 hg3 d3 rfl rfl rfl rfl rfl rfl
        exact⟨_,_,run_endRound (some .ret) d3,_,rfl,M3,R3,z1,hev3.trans z2,.bool _ _⟩
       |exit i=>
        simp only[oSi,pMi]at he
        obtain⟨rfl,rfl⟩:=he
        obtain⟨z1,z2⟩:=m1'.putLoop (st':= .done) (pend':=some (.exit i)) (r':={r3 with state:= .done,pending:=some (.exit i)}) hb3 hg3 d3 rfl rfl rfl rfl rfl rfl
        exact⟨_,_,run_endRound (some (.exit i)) d3,_,rfl,M3,R3,z1,hev3.trans z2,.bool _ _⟩
      .cases he
    .cases he
  .cases he
 .cases he
theorem zhG {w:World} {M:Mut} {R:Res} {xs:List AV} {us:Array Value} (hs:us.size=xs.length) (hu:∀(j:Nat) (c:AV) (u:Value),xs[j]?=some c→us[j]?=some u→VR w M R c u):VRs w M R xs us.toList:=
 ⟨by simpa using hs,fun j c u hj huj=>hu j c u hj (by simpa using huj)⟩
def zmu (P:Program) (f:FuncId) (g:List AV→Option AV):Prop:=
 Enters P f∧∀(w:World) (M:Mut) (args:List AV) (avs:List Value) (v:AV),GOk w M zaE→VRs w M zaE args avs→g args=some v→CallsIn (Wf none) 0 P f avs.toArray w (fun e w'=>∃u,e= .returned u∧Below w.heap.size w w'∧VR w' (Old w.heap.size M) zaE v u)
def zeH (P:Program) (f:FuncId) (g:List AV→Heap→Option (AV×Heap)):Prop:=
 Enters P f∧∀(K:Ctx) (w:World) (M:Mut) (R:Res) (H H':Heap) (args:List AV) (avs:List Value) (v:AV),WR (zG P) K w M R H→VRs w M R args avs→g args H=some (v,H')→
  CallsIn (Wf none) 0 P f avs.toArray w (fun e w'=>∃u,e= .returned u∧Fine P K R M w v H' u w')
theorem zdC (hm:P.follows .mixedOrders=true) (hR:zcn P Rr) {Φ:FuncId→Option FI} (hΦ:∀f fi,Φ f=some fi→FnOK P f fi) (hX:∀f g,ext f=some g→zmu P f g) {f:FuncId} {args:List AV} {v:AV} (h:zfp Rr Φ f args=some v)
  {w:World} {M:Mut} {avs:List Value} (hgl:GOk w M zaE) (hv:VRs w M zaE args avs):
  Enters P f∧CallsIn (Wf none) 0 P f avs.toArray w (fun e w'=>∃u,e= .returned u∧Below w.heap.size w w'∧VR w' (Old w.heap.size M) zaE v u):=by
 unfold zfp at h
 split at h
 .split at h
  .rename_i fi hfi
   cases hev:zam Rr fi args [] with
   |none=>simp[hev]at h
   |some p=>
    obtain⟨res,H'⟩:=p
    simp only[hev,Option.bind_some]at h
    have ⟨fn,code,f1,f2,f3,_⟩:=hΦ f fi hfi
    have hw0:WR (zG P) ⟨w.heap.size,w,M,[],[],hgl.2⟩ w M zaE []:=⟨⟨fun id B hb=>(by simp at hb),fun id ver g hg=>(by cases hg),fun i j Bi Bj gi gj hi=>(by simp at hi)⟩,fun p hp=>hgl.1 p (by simpa using hp),Below.refl _ w,fun id ver g hg=>(by cases hg),fun _ _ _=>Iff.rfl,Nat.le_refl _,fun r hr=>(by simp at hr),List.nodup_nil⟩
    refine⟨enters_of f1 f3 f2,CallsIn.mono (zla hm hR (hΦ f fi hfi) hev hw0 hv) ?_⟩
    rintro e w' ⟨u,rfl,M',R',k1,k2,k3⟩
    refine⟨u,rfl,k1.below,?_⟩
    have:=ziC k1.heap k1.base 8 _ _ _ h k3
    refine this.go (fun _ _ _ h _=>h) (fun b o _ hm=>⟨hm.1,?_⟩) (fun _ _ _ h _=>h) (fun _ _ _ h=>h)
    exact (k1.sub b o hm.1).2 hm.2
  .split at h
   .rename_i g hg
    obtain⟨x1,x2⟩:=hX f g hg
    exact⟨x1,x2 w M args avs v hgl hv h⟩
   .cases h
 .cases h
theorem zlK (hm:P.follows .mixedOrders=true) (hR:zcn P Rr) {Φ:FuncId→Option FI} (hΦ:∀f fi,Φ f=some fi→FnOK P f fi) (hX:∀f g,ext f=some g→zmu P f g) {R1:Rec} (h1:R1.pure=zfp Rr Φ):zbS P (zG P) R1:=by
 intro f args v h K w M Rs H avs hw hv
 rw[h1]at h
 have hfl:args.all AV.flat=true:=by
  unfold zfp at h
  split at h
  .assumption
  .cases h
 have hv':VRs w M zaE args avs:=⟨hv.1,fun j x v hx hv1=>(hv.2 j x v hx hv1).flat (lAt.1 hfl x (lMg hx))⟩
 obtain⟨a,b⟩:=zdC hm hR hΦ hX h hw.glob.flat hv'
 refine .inl ⟨f,#[],#[],rfl,a,?_⟩
 rw[show (#[]++avs.toArray++#[]:Array Value)=avs.toArray by simp]
 refine CallsIn.mono b ?_
 rintro e w' ⟨u,rfl,k1,k2⟩
 obtain⟨m1,m2⟩:=hw.belowAll k1
 obtain⟨q1,q2⟩:=m1.oldM w.heap.size (fun id B g hb hg=>by
  obtain⟨g',p1,p2,_⟩:=hw.heap.place hb hg
  rw[hg]at p1;cases p1
  exact p2) hw.le
 exact⟨u,rfl,_,_,q1,m2.trans q2,k2.noRes_any rfl⟩
theorem zhX (hm:P.follows .mixedOrders=true) {Φ:FuncId→Option FI} (hΦ:∀f fi,Φ f=some fi→FnOK P f fi) (hX:∀f g,ext f=some g→zmu P f g) (hY:∀f g,extM f=some g→zeH P f g):∀n,zcn P (zbU Φ n)
 |0=>⟨fun v args H res H' h=>by simp[zbU]at h,fun f args v h=>by simp[zbU]at h,0,fun live b F H x F' H' h=>by simp[zbU]at h⟩
 |n+1=>by
  have ih:=zhX hm hΦ hX hY n
  refine⟨?_,zlK hm ih hΦ hX rfl,?_⟩
  .intro v args H res H' h K w M R fv avs hw hf hv
   simp only[zbU,zf3]at h
   split at h
   .rename_i f fs cs
    split at h
    .rename_i fi hfi
     cases hf with
     |clo R f xs ys us vs hs hs' hu hv'=>
     have ⟨fn,code,f1,f2,f3,_⟩:=hΦ f fi hfi
     refine .inl ⟨f,us,vs,rfl,enters_of f1 f3 f2,?_⟩
     have:=zla hm ih (hΦ f fi hfi) h hw (((zhG hs hu).append hv).append (zhG hs' hv'))
     have e:(us.toList++avs++vs.toList).toArray=us++avs.toArray++vs:=by
      apply Array.ext'
      simp
     rw[e]at this
     exact this
    .split at h
     .rename_i g hg
      cases hf with
      |clo R f xs ys us vs hs hs' hu hv'=>
      obtain⟨y1,y2⟩:=hY _ g hg
      refine .inl ⟨f,us,vs,rfl,y1,?_⟩
      have:=y2 K w M R H H' _ _ _ hw (((zhG hs hu).append hv).append (zhG hs' hv')) h
      have e:(us.toList++avs++vs.toList).toArray=us++avs.toArray++vs:=by
       apply Array.ext'
       simp
      rw[e]at this
      exact this
     .cases h
   .exact zjq hm ih h hw hf hv
   .cases h
  .obtain⟨m,hl⟩:=ih.loop
   exact⟨m+1,zlS hm ih hl (fun live b F H=>rfl)⟩
end calls
end Go.Proofs.YtbddckhdbnmamaaGreat
