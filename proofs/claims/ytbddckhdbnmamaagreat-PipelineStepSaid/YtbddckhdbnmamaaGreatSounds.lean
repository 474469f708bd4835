/-
  The evaluation of light code is sound for the model's walk (conditions: what is asked of calls is a hypothesis here).
-/
import Derived.Shelf.Abstract
import Derived.Test.YtbddckhdbnmamaaGreatFlats
namespace Go.Proofs.YtbddckhdbnmamaaGreat
open Go Go.RowKit
set_option linter.unusedVariables false
set_option linter.unusedSimpArgs false
def Wf (ρ:Option Nat):Fence:={fn:=fun _=>True,depth:=none,alive:=false,round:=ρ}
def zul (ops:Array Oper):Option (Nat×Bool)→Option (Option (Nat×Bool))
 |none=>some none
 |some (j,want)=>match (ops[j]?).bind (·.dst) with|some t=>some (some (t,want))|none=>none
def zqV (P:Program) (o:Oper):Option LK:=
 match o.op with
 | .pick (.tmp c) x y=>match zeI x,zeI y with|some sx,some sy=>some (.pick c sx sy)|_,_=>none
 |_=>(lite P o).map fun p=> .op p.1 p.2
def zjE (P:Program) (N:Nat) (ops:Array Oper) (o:Oper):Option LI:=
 match zul ops o.guard,zqV P o with
 |some g,some k=>if o.dst.all (fun d=>decide (d<N)) then some ⟨o.dst,k,g⟩ else none
 |_,_=>none
def zcr (P:Program) (N:Nat) (ops:Array Oper):List Oper→Option (List LI)
 | []=>some []
 |o::r=>match zjE P N ops o,zcr P N ops r with|some i,some is=>some (i::is)|_,_=>none
def zpV (P:Program) (fv:Value) (avs:List Value) (w:World) (Post:Value→World→Prop):Prop:=
 (∃f fs cs,fv= .func (.func f) fs cs∧Enters P f∧CallsIn (Wf none) 0 P f (fs++avs.toArray++cs) w (fun e w'=>∃u,e= .returned u∧Post u w'))∨
 (∃l fn tmps ac bd,fv= .func (.yield l) #[] #[]∧(Instr.yield l avs.toArray).run P w= .ok (.round l fn tmps ac bd) w∧RoundIn (Wf none) 0 P l fn tmps ac bd w (fun e w'=>∃u,e= .returned u∧Post u w'))
def LK.erase:LK→LK
 | .op (.storeA n) xs=> .op (.store n) (xs.take 2)
 | .op (.appA n) xs=> .op (.app n) (xs.take 2)
 | .op (.callA f n) xs=> .op (.call f) (xs.take n)
 | .op k xs=> .op k.erase xs
 |p=>p
theorem ziM {R:Rec} {k k0:OpK} {vs:List AV} {H:Heap} {r:AV×Heap} (hb:zbE k=some k0) (h:exec R H k vs=some r):∃p x as',vs=p::x::as'∧as'.all (apart p)=true∧zaF H k0 [p,x]=some r:=by
 cases k<;>simp only[zbE,reduceCtorEq,oSi]at hb
 .subst hb
  rename_i n
  match vs,h with
  | [],hx=>exact absurd hx (by simp[exec,zaF,OpK.quiet,ex])
  | [_],hx=>exact absurd hx (by simp[exec,zaF,OpK.quiet,ex])
  |p::x::as',hx=>
   have h1:(if as'.all (apart p) then zba H n p x else none)=some r:=hx
   split at h1
   .exact⟨p,x,as',rfl,by assumption,h1⟩
   .cases h1
 .subst hb
  rename_i n
  match vs,h with
  | [],hx=>exact absurd hx (by simp[exec,zaF,OpK.quiet,ex])
  | [_],hx=>exact absurd hx (by simp[exec,zaF,OpK.quiet,ex])
  |p::x::as',hx=>
   have h1:(if as'.all (apart p) then ex H (.app n) [p,x] else none)=some r:=hx
   split at h1
   .exact⟨p,x,as',rfl,by assumption,h1⟩
   .cases h1
def LI.erase (i:LI):LI:=⟨i.dst,i.k.erase,i.g⟩
def zbS (P:Program) (C:zbc) (R:Rec):Prop:=
 ∀f args v,R.pure f args=some v→∀K w M Rs H avs,WR C K w M Rs H→VRs w M Rs args avs→
  zpV P (.func (.func f) #[] #[]) avs w fun u w'=>∃M' R',WR C K w' M' R' H∧Evol Rs M w R' M' w'∧VR w' M' R' v u
def zca (P:Program) (C:zbc) (R:Rec):Prop:=
 ∀v args H res H',R.call v args H=some (res,H')→∀K w M Rs fv avs,WR C K w M Rs H→VR w M Rs v fv→VRs w M Rs args avs→
  zpV P fv avs w fun u w'=>∃M' R',WR C K w' M' R' H'∧Evol Rs M w R' M' w'∧VR w' M' R' res u
def EnvR (w:World) (M:Mut) (R:Res) (E:Env) (a:Act):Prop:=∀i,VR w M R (E i) (a.tmps.getD i undef)
section sound
variable {P:Program} {C:zbc} {K:Ctx} {w:World} {M:Mut} {R:Res} {H:Heap} {E:Env} {a:Act} {ρ:Option Nat}
theorem EnvR.evol {w':World} {M':Mut} {R':Res} (h:EnvR w M R E a) (he:Evol R M w R' M' w'):EnvR w' M' R' E a:=fun i=>(h i).evol he
theorem EnvR.put (h:EnvR w M R E a) {d:Option Nat} {v:AV} {u:Value} (hv:VR w M R v u) (hd:∀i,d=some i→i<a.tmps.size):EnvR w M R (putE E d v) (a.put d u):=by
 intro i
 rw[zA]
 cases d with
 |none=>simpa[Act.put]using h i
 |some d=>
  have hlt:=hd d rfl
  simp only[Act.put]
  by_cases hi:d=i
  .subst hi
   rw[if_pos rfl]
   simp[Array.getD,hlt]
   exact hv
  .rw[if_neg (by simpa using hi)]
   have:=h i
   have e:(a.tmps.setIfInBounds d u).getD i undef=a.tmps.getD i undef:=by
    simp only[Array.getD_eq_getD_getElem?]
    rw[Array.getElem?_setIfInBounds_ne (by omega)]
   rw[e];exact this
theorem zbX (a:Act) (d:Option Nat) (u:Value):(a.put d u).tmps.size=a.tmps.size:=by cases d<;>simp[Act.put]
theorem za1 (a:Act) (d:Option Nat) (u:Value):(a.put d u).defers=a.defers:=by cases d<;>rfl
theorem zlE (o:Oper) (x:LK) (h:zqV P o=some x):Oper.semAt ρ a.eval o=execOp a.eval o:=by
 refine Oper.semAt_eq _ _ _ ?_
 intro c hc
 unfold zqV at h
 rw[hc]at h
 simp only[lite,hc]at h
 cases h
theorem ze9 {ops:Array Oper} {o:Oper} {g:Option (Nat×Bool)} (he:EnvR w M R E a) (hg:zul ops o.guard=some g) {b:Bool} (hb:gval E g=some b):Region.wanted o (yielded ops a.tmps)=b:=by
 unfold Region.wanted
 unfold zul at hg
 split at hg
 .rename_i hn
  cases hg
  simp only[gval,oSi]at hb
  rw[hn];exact hb
 .rename_i j want hs
  split at hg
  .rename_i t ht
   cases hg
   rw[hs]
   simp only[gval]at hb
   have hr:=he t
   have hy:yielded ops a.tmps j=match a.tmps[t]? with|some (.bool b)=>some b|_=>none:=by
    unfold yielded
    rw[ht]
    rfl
   split at hb
   .rename_i b' hE
    cases hb
    rw[hE]at hr
    have hv:a.tmps[t]?=some (.bool b'):=by
     rw[Array.getD_eq_getD_getElem?]at hr
     cases hq:a.tmps[t]? with
     |none=>rw[hq]at hr;cases hr
     |some x=>rw[hq]at hr;simp only[Option.getD_some]at hr;cases hr;rfl
    simp only[hy,hv]
    cases b'<;>cases want<;>rfl
   .rename_i hE
    cases hb
    rw[hE]at hr
    have hv:a.tmps[t]?=none∨a.tmps[t]?=some undef:=by
     rw[Array.getD_eq_getD_getElem?]at hr
     cases hq:a.tmps[t]? with
     |none=>exact .inl rfl
     |some x=>rw[hq]at hr;simp only[Option.getD_some]at hr;right;cases hr;rfl
    rcases hv with hv|hv<;>simp only[hy,hv]<;>cases want<;>rfl
   .cases hb
  .cases hg
theorem ztE {n:Nat} {o:Oper} {next:Act→World→Prop} {Q:Exit→Act→World→Prop} (hs:Oper.semAt ρ a.eval o=execOp a.eval o) (h:o.uponIn (Wf ρ) n P a next Q ((execOp a.eval o).run P w)):o.wpIn (Wf ρ) n P a w next Q:=by
 refine⟨fun _ _=>trivial,?_⟩
 show o.uponIn (Wf ρ) n P a next Q ((Oper.semAt ρ a.eval o).run P w)
 rw[hs];exact h
theorem zvR {n:Nat} {o:Oper} {c:Call} (ho:o.op= .call c) {fo:Operand} (hc:c.callee= .value fo) {fv:Value} (hfv:a.eval fo=fv) {next:Act→World→Prop} {Q:Exit→Act→World→Prop}
  (h:zpV P fv (c.args.toList.map a.eval) w fun u w'=>next (a.put o.dst u) w'):o.uponIn (Wf ρ) n P a next Q ((execOp a.eval o).run P w):=by
 have hargs:(c.args.toList.map a.eval).toArray=c.args.map a.eval:=by apply Array.ext';simp
 rcases h with⟨f,fs,cs,rfl,hent,hcall⟩|⟨l,fn,tmps,ac,bd,rfl,hy,hround⟩
 .rw[hargs]at hcall
  have hrun:(execOp a.eval o).run P w= .ok (.enter f (fs++c.args.map a.eval++cs)) w:=by
   unfold execOp
   rw[ho]
   simp only[resolve,hc,hfv,Deferred.ofValue]
   exact hent _ w
  rw[hrun]
  refine⟨(fun hh=>by cases hh),CallsIn.mono (n:=n - 1) (CallsIn.more (n':=n - 1) hcall (by omega)) ?_⟩
  rintro e w' ⟨u,rfl,hp⟩
  exact hp
 .rw[hargs]at hy
  have hrun:(execOp a.eval o).run P w= .ok (.round l fn tmps ac bd) w:=by
   unfold execOp
   rw[ho]
   simp only[resolve,hc,hfv,Deferred.ofValue]
   show (Instr.yield l (#[]++c.args.map a.eval)).run P w=_
   rw[Array.empty_append];exact hy
  rw[hrun]
  refine⟨(fun hh=>by cases hh),RoundIn.mono ?_ ?_ (R:=fun e w'=>∃u,e= .returned u∧next (a.put o.dst u) w')⟩
  .exact⟨trivial,fun c' cs' _=>hround.2 c' cs' (fun d hd=>by cases hd)⟩
  .rintro e w' ⟨u,rfl,hp⟩
   exact hp
theorem zny {o:Oper} {kk:OpK} {xs:List Src} (hlt:lite P o=some (kk,xs)) (hcall:kk.isCall=true):
  ∃c fo,o.op= .call c∧c.callee= .value fo∧((∃f,fo= .func f∧kk= .call f∧srcs c.args.toList=some xs)∨(kk= .callv∧srcs (fo::c.args.toList)=some xs)):=by
 obtain⟨dst,op,ty,pos,aft,gd⟩:=o
 have no:kk.isCall=false→False:=fun h=>by rw[h]at hcall;cases hcall
 cases op with
 |call c=>
  obtain⟨callee,args,ts⟩:=c
  cases callee with
  |value fo=>
   refine⟨_,fo,rfl,rfl,?_⟩
   cases fo with
   |func f=>exact .inl ⟨f,rfl,(za hlt).2,(za hlt).1⟩
   |tmp i=>exact .inr ⟨(za hlt).2,(za hlt).1⟩
   |const v=>exact .inr ⟨(za hlt).2,(za hlt).1⟩
   |global g=>simp only[lite]at hlt;exact .inr ⟨(za hlt).2,(za hlt).1⟩
  |invoke r m=>simp only[lite]at hlt;cases hlt
  |builtin b=>
   exfalso
   apply no
   cases b<;>simp only[lite]at hlt
   case max=>
    repeat' split at hlt
    all_goals first
     |(rw[(za hlt).2];rfl)
     |cases hlt
   case min=>
    repeat' split at hlt
    all_goals first
     |(rw[(za hlt).2];rfl)
     |cases hlt
   case cap=>
    repeat' split at hlt
    all_goals first
     |(rw[(za hlt).2];rfl)
     |cases hlt
   case clear=>
    repeat' split at hlt
    all_goals first
     |(obtain⟨_,_,hlt⟩:=bind_some hlt;obtain⟨_,_,hlt⟩:=bind_some hlt;rw[(za hlt).2];rfl)
     |cases hlt
   case copy=>
    repeat' split at hlt
    all_goals first
     |(rw[(za hlt).2];rfl)
     |cases hlt
   case len=>
    repeat' split at hlt
    all_goals first
     |(rw[(za hlt).2];rfl)
     |cases hlt
   case append=>
    repeat' split at hlt
    all_goals first
     |(rw[(za hlt).2];rfl)
     |cases hlt
   all_goals cases hlt
 |binOp op t x y yt=>exact (no (zgz hlt).2).elim
 |alloc t=>
  exfalso
  apply no
  simp only[lite]at hlt
  split at hlt
  .cases hlt;rfl
  .cases hlt
 |unOp op t x=>
  exfalso
  apply no
  cases op<;>simp only[lite]at hlt<;>first
   |(rw[(za hlt).2];rfl)
   |cases hlt
 |makeFunc fn fs cs=>
  exfalso
  apply no
  cases fn<;>simp only[lite]at hlt<;>first
   |(rw[(za hlt).2];rfl)
   |cases hlt
 |slice t x lo hi mx=>
  exfalso
  apply no
  cases mx<;>simp only[lite]at hlt
  .repeat' split at hlt
   all_goals first
    |(rw[(za hlt).2];rfl)
    |cases hlt
  .cases hlt
 |makeSlice t x y=>
  exfalso
  apply no
  simp only[lite]at hlt
  split at hlt
  .obtain⟨_,_,hlt⟩:=bind_some hlt
   obtain⟨_,_,hlt⟩:=bind_some hlt
   split at hlt
   .rw[(za hlt).2];rfl
   .cases hlt
  .cases hlt
 |makeMap t r=>
  exfalso
  apply no
  cases r with
  |some r=>simp only[lite]at hlt;cases hlt
  |none=>simp only[lite]at hlt;rw[(za hlt).2];rfl
 |insert t m k x=>
  exfalso
  apply no
  simp only[lite]at hlt
  split at hlt
  .obtain⟨_,_,hlt⟩:=bind_some hlt
   obtain⟨_,_,hlt⟩:=bind_some hlt
   rw[(za hlt).2];rfl
  .cases hlt
 |mapUpdate t m k x=>
  exfalso
  apply no
  simp only[lite]at hlt
  split at hlt
  .obtain⟨_,_,hlt⟩:=bind_some hlt
   obtain⟨_,_,hlt⟩:=bind_some hlt
   rw[(za hlt).2];rfl
  .cases hlt
 |lookup t m k ok=>
  exfalso
  apply no
  simp only[lite]at hlt
  split at hlt
  .obtain⟨_,_,hlt⟩:=bind_some hlt
   obtain⟨_,_,hlt⟩:=bind_some hlt
   obtain⟨_,_,hlt⟩:=bind_some hlt
   rw[(za hlt).2];rfl
  .cases hlt
 |build t parts=>
  exfalso
  apply no
  simp only[lite]at hlt
  repeat' split at hlt
  all_goals first
   |(rw[(za hlt).2];rfl)
   |(obtain⟨_,_,hlt⟩:=bind_some hlt;rw[(za hlt).2];rfl)
   |cases hlt
 |next x b=>
  exfalso
  apply no
  cases b<;>simp only[lite]at hlt
  .cases hlt
  .rw[(za hlt).2];rfl
 |_=>
  exfalso
  apply no
  simp only[lite]at hlt
  repeat' split at hlt
  all_goals first
   |(rw[(za hlt).2];rfl)
   |cases hlt
theorem GOk.flat {w:World} {M:Mut} {R:Res} (h:GOk w M R):GOk w M zaE:=by
 refine⟨fun p hp=>?_,h.2⟩
 have h1:=h.1 p hp
 obtain⟨q,hq,rfl⟩:=List.mem_map.1 hp
 exact h1.flat (lAt.1 zrc q hq)
theorem zjk {Rr:Rec} (hR:zca P C Rr) (hP:zbS P C Rr) {N n:Nat} {ops:Array Oper} {o:Oper} {li:LI} (hl:zjE P N ops o=some li.erase) {E':Env} {H':Heap} (hf:zt Rr li E H=some (E',H')) (hnc:∀f m xs,li.k≠.op (.callA f m) xs)
  (hw:WR C K w M R H) (he:EnvR w M R E a) (hN:a.tmps.size=N) {next:Act→World→Prop} {Q:Exit→Act→World→Prop}
  (hnext:∀w' M' R' a',WR C K w' M' R' H'→Evol R M w R' M' w'→EnvR w' M' R' E' a'→a'.tmps.size=N→a'.defers=a.defers→next a' w'):
  if Region.wanted o (yielded ops a.tmps) then o.wpIn (Wf ρ) n P a w next Q else (∀f,o.about P w a.eval=some f→(Wf ρ).fn f)∧next (a.put o.dst undef) w:=by
 obtain⟨ld,lk,lg⟩:=li
 unfold zjE at hl
 split at hl
 .rename_i g k hg hk
  split at hl
  .rename_i hd
   simp only[LI.erase,oSi,LI.mk.injEq]at hl
   obtain⟨rfl,hk1,rfl⟩:=hl
   have hdst:∀i,o.dst=some i→i<a.tmps.size:=by
    intro i hi
    rw[hi]at hd
    rw[hN]
    simpa using hd
   unfold zt at hf
   split at hf
   .rename_i hgv
    rw[ze9 he hg hgv]
    simp only[if_true]
    refine ztE (zlE o k hk) ?_
    rw[hk1]at hk
    unfold zbv at hf
    simp only at hf
    unfold zqV at hk
    split at hk
    .
     rename_i c x y hop
     split at hk
     .rename_i sx sy hsx hsy
      have hlk:lk= .pick c sx sy:=by
       cases lk with
       |op k xs=>cases k<;>simp[LK.erase]at hk
       |pick c' x' y'=>simp only[LK.erase,oSi]at hk;exact hk.symm
      subst hlk
      simp only at hf
      split at hf
      .rename_i t hEc
       have hc:=he c
       rw[hEc]at hc
       have hcv:a.tmps.getD c undef= .bool t:=by cases hq:a.tmps.getD c undef<;>rw[hq]at hc<;>cases hc;rfl
       cases hok:okO (evS E (if t then sx else sy)) with
       |none=>simp[hok]at hf
       |some v=>
        simp only[hok,oMs,oSi,pMi]at hf
        obtain⟨rfl,rfl⟩:=hf
        obtain⟨hv1,_⟩:=zaW hok
        have hval:VR w M R v (if t then a.eval x else a.eval y):=by
         rw[←hv1]
         cases t
         .exact VR.src hw.glob he hsy
         .exact VR.src hw.glob he hsx
        have hrun:(execOp a.eval o).run P w= .ok (.value (if t then a.eval x else a.eval y)) w:=by
         unfold execOp
         rw[hop]
         show (do pure (.value (if ←asBool (a.tmps.getD c undef) then a.eval x else a.eval y)):Sem Next).run P w=_
         rw[hcv]
         cases t<;>rfl
        rw[hrun]
        exact hnext _ _ _ _ hw (Evol.refl _ _ _) (he.put hval hdst) (by rw[zbX];exact hN) (za1 _ _ _)
      .cases hf
     .cases hk
    .cases hlt:lite P o with
     |none=>simp[hlt]at hk
     |some p=>
      obtain⟨kk,xs⟩:=p
      simp only[hlt,oMs,oSi]at hk
      have hlk:(∃k0,lk= .op k0 xs∧kk=k0.erase∧zbE k0=none)∨∃k1 k0 xs0,lk= .op k1 xs0∧zbE k1=some k0∧kk=k0∧xs=xs0.take 2:=by
       cases lk with
       |op k0 xs0=>
        cases hsa:zbE k0 with
        |some k1=>
         refine .inr ⟨k0,k1,xs0,rfl,hsa,?_⟩
         cases k0<;>simp only[zbE,reduceCtorEq,oSi]at hsa
         all_goals
          subst hsa
          simp only[LK.erase,LK.op.injEq]at hk
          exact hk
        |none=>
         have:LK.erase (.op k0 xs0)= .op k0.erase xs0:=by cases k0<;>first|rfl|exact absurd rfl (hnc _ _ _)|(cases hsa;done)
         rw[this]at hk
         simp only[LK.op.injEq]at hk
         exact .inl ⟨k0,by rw[hk.2],hk.1,hsa⟩
       |pick c' x' y'=>simp[LK.erase]at hk
      rcases hlk with⟨k0,rfl,rfl,hsa⟩|⟨k1,k0,xs0,rfl,hb1,rfl,rfl⟩
      rotate_left
      .simp only at hf
       split at hf
       .rename_i vs hvs
        cases hx:exec Rr H k1 vs with
        |none=>simp[hx]at hf
        |some p=>
         obtain⟨v,H1⟩:=p
         simp only[hx,oMs,oSi,pMi]at hf
         obtain⟨rfl,rfl⟩:=hf
         obtain⟨p,x,as',rfl,hap,hx2⟩:=ziM hb1 hx
         .have hv2:=zdw 2 hvs
          simp only[List.take_succ_cons,List.take_zero]at hv2
          obtain⟨nx,u,w',M',R',r1,r2,r3,r4,r5⟩:=zkD hw he hlt (by cases k1<;>simp only[zbE,reduceCtorEq,oSi]at hb1<;>subst hb1<;>rfl) hv2 hx2
          rw[r1]
          rcases r2 with rfl|⟨rfl,rfl⟩
          .exact hnext _ _ _ _ r4 r5 ((he.evol r5).put r3 hdst) (by rw[zbX];exact hN) (za1 _ _ _)
          .exact hnext _ _ _ _ r4 r5 ((he.evol r5).put r3 hdst) (by rw[zbX];exact hN) (za1 _ _ _)
       .cases hf
      simp only at hf
      split at hf
      .rename_i vs hvs
       cases hx:exec Rr H k0 vs with
       |none=>simp[hx]at hf
       |some p=>
        obtain⟨v,H1⟩:=p
        simp only[hx,oMs,oSi,pMi]at hf
        obtain⟨rfl,rfl⟩:=hf
        by_cases hcall:k0.isCall=true
        .
         have hcallE:k0.erase.isCall=true:=by cases k0<;>first|rfl|cases hcall
         have hcv:∃c fo,o.op= .call c∧c.callee= .value fo∧zpV P (a.eval fo) (c.args.toList.map a.eval) w fun u w'=>∃M' R',WR C K w' M' R' H1∧Evol R M w R' M' w'∧VR w' M' R' v u:=by
          obtain⟨c,fo,q1,q2,q3⟩:=zny hlt hcallE
          refine⟨c,fo,q1,q2,?_⟩
          rcases q3 with⟨f,rfl,e0,q4⟩|⟨e0,q4⟩
          .cases k0<;>simp only[OpK.erase]at e0<;>try cases e0
           .exact hR _ _ _ _ _ hx K w M R _ _ hw (.clo _ _ _ _ _ _ rfl rfl (by simp) (by simp)) (zm hw.glob he q4 hvs)
           .cases hp:Rr.pure f vs with
            |none=>simp[exec,hp]at hx
            |some v0=>
             simp only[exec,hp,oMs,oSi,pMi]at hx
             obtain⟨rfl,rfl⟩:=hx
             exact hP _ _ _ hp K w M R _ _ hw (zm hw.glob he q4 hvs)
           .obtain⟨M1,a1,a2,a3⟩:=zkA hw (zm hw.glob he q4 hvs)
            cases hp:Rr.pure f (zbK H vs).1 with
            |none=>simp[exec,hp]at hx
            |some v0=>
             simp only[exec,hp,oMs]at hx
             split at hx
             rotate_left
             .cases hx
             simp only[oSi,pMi]at hx
             obtain⟨rfl,rfl⟩:=hx
             have post:∀(u:Value) (w':World),(∃M' R',WR C K w' M' R' (zbK H vs).2∧Evol R M1 w R' M' w'∧VR w' M' R' v0 u)→∃M' R',WR C K w' M' R' (zbK H vs).2∧Evol R M w R' M' w'∧VR w' M' R' v0 u:=by
              rintro u w' ⟨M',R',k1,k2,k3⟩
              exact⟨M',R',k1,a2.trans k2,k3⟩
             rcases hP _ _ _ hp K w M1 R _ _ a1 a3 with⟨f0,fs,cs,e1,e2,e3⟩|⟨l,fn,tmps,ac,bd,e1,e2,e3⟩
             .exact .inl ⟨f0,fs,cs,e1,e2,CallsIn.mono e3 (by rintro e w' ⟨u,rfl,hu⟩;exact⟨u,rfl,post u w' hu⟩)⟩
             .exact .inr ⟨l,fn,tmps,ac,bd,e1,e2,RoundIn.mono e3 (by rintro e w' ⟨u,rfl,hu⟩;exact⟨u,rfl,post u w' hu⟩)⟩
           .simp only[exec,oBs]at hx
            obtain⟨as',hfz,v0,hp,hx⟩:=hx
            split at hx
            rotate_left
            .cases hx
            rename_i hsc
            cases hx
            have hvv:=zm hw.glob he q4 hvs
            obtain⟨z1,z2⟩:=zaT hfz
            have hv0:VRs w (Old K.base M) zaE as' (c.args.toList.map a.eval):=⟨by rw[z1];exact hvv.1,fun j x u hx hu=>by
             obtain⟨y,y1,y2⟩:=z2 j x hx
             exact ziC hw.heap hw.base 8 _ _ _ y2 (hvv.2 j y u y1 hu)⟩
            have hw0:WR C ⟨w.heap.size,w,Old K.base M,[],[],hw.glob.2⟩ w (Old K.base M) zaE []:=⟨⟨fun id B hb=>(by simp at hb),fun id ver g hg=>(by cases hg),fun i j Bi Bj gi gj hi=>(by simp at hi)⟩,fun p hp=>(hw.glob.flat.1 p (by simpa using hp)).go (fun _ _ _ h _=>h) (fun b o _ hm=>hm.2) (fun _ _ _ h _=>h) (fun _ _ _ h=>h),Below.refl _ w,fun id ver g hg=>(by cases hg),fun _ _ _=>Iff.rfl,Nat.le_refl _,fun r hr=>(by simp at hr),List.nodup_nil⟩
            have post:∀(u:Value) (w':World),(∃M' R',WR C ⟨w.heap.size,w,Old K.base M,[],[],hw.glob.2⟩ w' M' R' []∧Evol zaE (Old K.base M) w R' M' w'∧VR w' M' R' v u)→∃M' R',WR C K w' M' R' H∧Evol R M w R' M' w'∧VR w' M' R' v u:=by
             rintro u w' ⟨M',R',k1,k2,k3⟩
             obtain⟨b1,b2⟩:=hw.belowAll k1.below
             exact⟨M,R,b1,b2,k3.scal hsc⟩
            rcases hP _ _ _ hp _ w _ _ _ _ hw0 hv0 with⟨f0,fs,cs,e1,e2,e3⟩|⟨l,fn,tmps,ac,bd,e1,e2,e3⟩
            .exact .inl ⟨f0,fs,cs,e1,e2,CallsIn.mono e3 (by rintro e w' ⟨u,rfl,hu⟩;exact⟨u,rfl,post u w' hu⟩)⟩
            .exact .inr ⟨l,fn,tmps,ac,bd,e1,e2,RoundIn.mono e3 (by rintro e w' ⟨u,rfl,hu⟩;exact⟨u,rfl,post u w' hu⟩)⟩
          .cases k0<;>simp only[OpK.erase]at e0<;>try cases e0
           have hvv:=zm hw.glob he q4 hvs
           cases vs with
           |nil=>simp[VRs]at hvv
           |cons fv args'=>
            obtain⟨u,us,e1,e2,e3⟩:=hvv.inv_cons
            simp only[List.map_cons,List.cons.injEq]at e1
            obtain⟨rfl,rfl⟩:=e1
            exact hR _ _ _ _ _ hx K w M R _ _ hw e2 e3
         obtain⟨c,fo,h1,h2,hcv⟩:=hcv
         refine zvR h1 h2 rfl ?_
         rcases hcv with⟨f,fs,cs,e1,e2,e3⟩|⟨l,fn,tmps,ac,bd,e1,e2,e3⟩
         .refine .inl ⟨f,fs,cs,e1,e2,CallsIn.mono e3 ?_⟩
          rintro e w' ⟨u,rfl,M',R',k1,k2,k3⟩
          exact⟨u,rfl,hnext _ _ _ _ k1 k2 ((he.evol k2).put k3 hdst) (by rw[zbX];exact hN) (za1 _ _ _)⟩
         .refine .inr ⟨l,fn,tmps,ac,bd,e1,e2,RoundIn.mono e3 ?_⟩
          rintro e w' ⟨u,rfl,M',R',k1,k2,k3⟩
          exact⟨u,rfl,hnext _ _ _ _ k1 k2 ((he.evol k2).put k3 hdst) (by rw[zbX];exact hN) (za1 _ _ _)⟩
        .have hcall0:k0.isCall=false:=by simpa using hcall
         have hx':zaF H k0 vs=some (v,H1):=by
          cases k0<;>first|exact hx|cases hcall0
         obtain⟨nx,u,w',M',R',r1,r2,r3,r4,r5⟩:=znn hw he hsa hlt hcall0 hvs hx'
         rw[r1]
         rcases r2 with rfl|⟨rfl,rfl⟩
         .exact hnext _ _ _ _ r4 r5 ((he.evol r5).put r3 hdst) (by rw[zbX];exact hN) (za1 _ _ _)
         .exact hnext _ _ _ _ r4 r5 ((he.evol r5).put r3 hdst) (by rw[zbX];exact hN) (za1 _ _ _)
      .cases hf
   .rename_i hgv
    rw[ze9 he hg hgv]
    simp only[bFt,if_false]
    cases hf
    exact⟨fun _ _=>trivial,hnext _ _ _ _ hw (Evol.refl _ _ _) (he.put (.und _) hdst) (by rw[zbX];exact hN) (za1 _ _ _)⟩
   .cases hf
  .cases hl
 .cases hl
def zh5 (i:LI):LI:=match i.k with| .op (.callA f n) xs=>⟨i.dst,.op (.call f) (xs.take n),i.g⟩|_=>i
theorem zh4 (i:LI):(zh5 i).erase=i.erase:=by
 obtain⟨d,k,g⟩:=i
 cases k with
 |pick c a b=>rfl
 |op k xs=>cases k<;>rfl
theorem zlL (i:LI):∀f m xs,(zh5 i).k≠.op (.callA f m) xs:=by
 obtain⟨d,k,g⟩:=i
 cases k with
 |pick c a b=>intro f m xs h;cases h
 |op k xs=>cases k<;>intro f m ys h<;>cases h
theorem zeh {Rr:Rec} {f:FuncId} {n:Nat} {vs:List AV} {H:Heap} {r:AV×Heap} (h:exec Rr H (.callA f n) vs=some r):exec Rr H (.call f) (vs.take n)=some r∧(∀x∈vs.drop n,zgf H r.2 x=true)∧(1000≤n→r.2.take H.length=H):=by
 simp only[exec,oBs]at h
 obtain⟨p,h1,h2⟩:=h
 split at h2
 .rename_i hs
  cases h2
  simp only[bAt,Bool.or_eq_true,dTe]at hs
  exact⟨h1,lAt.1 hs.1,fun hn=>by rcases hs.2 with h|h;exact absurd h (by omega);exact zpd h⟩
 .cases h2
theorem zez {Rr:Rec} {i:LI} {E:Env} {H:Heap} {r:Env×Heap} (h:zt Rr i E H=some r):zt Rr (zh5 i) E H=some r:=by
 obtain⟨d,k,g⟩:=i
 cases k with
 |pick c a b=>exact h
 |op k xs=>
  cases k<;>try exact h
  rename_i f n
  have e:zh5 ⟨d,.op (.callA f n) xs,g⟩=⟨d,.op (.call f) (xs.take n),g⟩:=rfl
  rw[e]
  unfold zt at h⊢
  simp only at h⊢
  cases hg:gval E g with
  |none=>rw[hg]at h;cases h
  |some b=>
   rw[hg]at h
   cases b with
   |false=>exact h
   |true=>
    simp only[zbv]at h⊢
    split at h
    .rename_i vs hvs
     rw[zdw n hvs]
     simp only
     cases hx:exec Rr H (.callA f n) vs with
     |none=>simp[hx]at h
     |some q=>rw[(zeh hx).1];rw[hx]at h;exact h
    .cases h
theorem zf9 {Rr:Rec} (hR:zca P C Rr) (hP:zbS P C Rr) {N n:Nat} {ops:Array Oper} {o:Oper} {li:LI} (hl:zjE P N ops o=some li.erase) {E':Env} {H':Heap} (hf:zt Rr li E H=some (E',H'))
  (hw:WR C K w M R H) (he:EnvR w M R E a) (hN:a.tmps.size=N) {next:Act→World→Prop} {Q:Exit→Act→World→Prop}
  (hnext:∀w' M' R' a',WR C K w' M' R' H'→Evol R M w R' M' w'→EnvR w' M' R' E' a'→a'.tmps.size=N→a'.defers=a.defers→next a' w'):
  if Region.wanted o (yielded ops a.tmps) then o.wpIn (Wf ρ) n P a w next Q else (∀f,o.about P w a.eval=some f→(Wf ρ).fn f)∧next (a.put o.dst undef) w:=
 zjk hR hP (li:=zh5 li) (by rw[zh4];exact hl) (zez hf) (zlL li) hw he hN hnext
end sound
end Go.Proofs.YtbddckhdbnmamaaGreat
