/-
  The evaluation of code, of calls and of rounds is sound (conditions: what Γ says of functions is a hypothesis).
-/
import Derived.Test.YtbddckhdbnmamaaGreatExecs
namespace Go.Proofs.YtbddckhdbnmamaaGreat
open Go Go.RowKit
set_option linter.unusedVariables false
set_option linter.unusedSimpArgs false
def zG (P:Program):zbc:=fun N lc c=>zar P N lc c∧zaC lc=true
def zlQ (r:Nat):Deferred:={target:= .collected r,args:=#[]}
def zhL:LX→Exit| .normal=> .normal| .ret=> .ret| .exit i=> .exit i
def Post (C:zbc) (K:Ctx) (nr:Bool) (N:Nat) (x:LX) (F':Fr) (H':Heap) (a:Act) (w:World) (M:Mut) (R:Res):Exit→Act→World→Prop:=fun e a' w'=>
 e=zhL x∧∃D M' R',WR C {K with marks:=D++K.marks} w' M' R' H'∧Evol R M w R' M' w'∧EnvR w' M' R' F'.get a'∧a'.tmps.size=N∧a'.defers=D.map zlQ++a.defers∧(nr=true→D=[])
def zpU (P:Program) (Rr:Rec) (lc:LC):Prop:=∀F H x F' H',evC Rr lc F H=some (x,F',H')→∀N code,zar P N lc code→∀K w M R a ρ,(ρ≠none→zaC lc=true)→
 WR (zG P) K w M R H→EnvR w M R F.get a→a.tmps.size=N→code.wpIn (Wf ρ) 0 P (Post (zG P) K (zaC lc) N x F' H' a w M R) a w
def zfU (P:Program) (Rr:Rec) (m:Nat):Prop:=∀live b F H x F' H',Rr.loop live b F H=some (x,F',H')→∀N code,zar P N b code→∀K w M R a ρ,(ρ≠none→zaC b=true)→
 WR (zG P) K w M R H→EnvR w M R F.get a→a.tmps.size=N→Code.roundsIn (Wf ρ) 0 P code (Post (zG P) K (zaC b) N x F' H' a w M R) m a w
structure zcn (P:Program) (Rr:Rec):Prop where
 call:zca P (zG P) Rr
 pure:zbS P (zG P) Rr
 loop:∃m,zfU P Rr m
section run
variable {P:Program} {Rr:Rec}
theorem Post.here {K:Ctx} {nr:Bool} {N:Nat} {x:LX} {F:Fr} {H:Heap} {a:Act} {w:World} {M:Mut} {R:Res} (hw:WR (zG P) K w M R H) (he:EnvR w M R F.get a) (hN:a.tmps.size=N):Post (zG P) K nr N x F H a w M R (zhL x) a w:=
 ⟨rfl,[],M,R,hw,Evol.refl _ _ _,he,hN,rfl,fun _=>rfl⟩
theorem Post.weak {K:Ctx} {nr nr':Bool} {N:Nat} {x:LX} {F:Fr} {H:Heap} {a:Act} {w:World} {M:Mut} {R:Res} {e:Exit} {a':Act} {w':World} (h:Post (zG P) K nr N x F H a w M R e a' w') (hi:nr'=true→nr=true):Post (zG P) K nr' N x F H a w M R e a' w':=by
 obtain⟨h1,D,M',R',h2,h3,h4,h5,h6,h7⟩:=h
 exact⟨h1,D,M',R',h2,h3,h4,h5,h6,fun h=>h7 (hi h)⟩
theorem EnvR.sub {w:World} {M:Mut} {R:Res} {E:Env} {F:Fr} {a:Act} (h:EnvR w M R E a) (hs:Sub F E):EnvR w M R F.get a:=by
 intro i
 rcases hs i with h1|h1
 .rw[h1];exact .bad _ _
 .rw[h1];exact h i
theorem zdb (F:Fr) (l:List Nat) (i:Nat):(F.keep l).get i=if i∈l then F.get i else .bad:=by
 unfold Fr.keep
 induction l with
 |nil=>simp[Fr.get]
 |cons j l ih=>
  simp only[List.map_cons,Fr.get,ih,lMc]
  by_cases h:i=j
  .subst h;simp
  .simp[h]
theorem zc3 (F:Fr) (l:List Nat):Sub (F.keep l) F.get:=by
 intro i
 rw[zdb]
 split
 .exact .inr rfl
 .exact .inl rfl
theorem Sub.trans_keep {F:Fr} {E:Env} (h:Sub F E) (l:List Nat):Sub (F.keep l) E:=by
 intro i
 rw[zdb]
 split
 .exact h i
 .exact .inl rfl
theorem Post.chain {K:Ctx} {nr nr2:Bool} {N:Nat} {x:LX} {F':Fr} {H':Heap} {a a1:Act} {w w1:World} {M M1:Mut} {R R1:Res} {D:List Nat} (hev:Evol R M w R1 M1 w1) (hd:a1.defers=D.map zlQ++a.defers∧(nr=true→D=[])) {e:Exit} {a':Act} {w':World}
  (h:Post (zG P) {K with marks:=D++K.marks} nr2 N x F' H' a1 w1 M1 R1 e a' w') (hn:nr=true→nr2=true):Post (zG P) K nr N x F' H' a w M R e a' w':=by
 obtain⟨h1,D2,M',R',h2,h3,h4,h5,h6,h7⟩:=h
 refine⟨h1,D2++D,M',R',?_,hev.trans h3,h4,h5,?_,fun h=>by rw[h7 (hn h),hd.2 h];rfl⟩
 .rw[List.append_assoc];exact h2
 .rw[h6,hd.1];simp
theorem zfk {ρ:Option Nat} {n:Nat} {c:Code} {Q Q':Exit→Act→World→Prop} (hq:∀e a w,Q e a w→Q' e a w):∀(m:Nat) (a:Act) (w:World),Code.roundsIn (Wf ρ) n P c Q m a w→Code.roundsIn (Wf ρ) n P c Q' m a w
 |0,a,w,h=>h
 |m+1,a,w,h=>by
  rw[roundsIn_succ]at h⊢
  refine wpIn_mono h ?_
  intro e a' w' h'
  cases e<;>first|exact zfk hq m _ _ h'|exact hq _ _ _ h'
theorem zdx {K:Ctx} {nr nr':Bool} (hi:nr'=true→nr=true) {N:Nat} {x:LX} {F1:Fr} {H1:Heap} {a:Act} {w:World} {M:Mut} {R:Res} {nxt:Act→World→Prop} {Q:Exit→Act→World→Prop} (hx:x≠.normal) (hq:∀a' w',Post (zG P) K nr' N x F1 H1 a w M R (zhL x) a' w'→Q (zhL x) a' w') {e:Exit} {a':Act} {w':World}
  (h0:Post (zG P) K nr N x F1 H1 a w M R e a' w'):Exit.then nxt Q e a' w':=by
 have h:=h0.weak hi
 have he:=h.1
 subst he
 cases x with
 |normal=>exact absurd rfl hx
 |ret=>exact hq _ _ h
 |exit i=>exact hq _ _ h
theorem wanted_none {o:Oper} {y:Nat→Option Bool} (h:o.guard=none):Region.wanted o y=true:=by
 unfold Region.wanted;rw[h]
theorem drewWR {K:Ctx} {w:World} {M:Mut} {R:Res} {H:Heap} (h:WR (zG P) K w M R H) {w1:World} (hw:w1=w∨w1=w.drew):WR (zG P) K w1 M R H∧Evol R M w R M w1:=by
 rcases hw with rfl|rfl
 .exact⟨h,Evol.refl _ _ _⟩
 .exact h.same rfl rfl rfl rfl
theorem take_split {α:Type} {l p:List α} (h:l.take p.length=p):∃J,l=p++J:=⟨l.drop p.length,by
 have:=List.take_append_drop p.length l
 rw[h]at this
 exact this.symm⟩
theorem EnvR.putFree {w:World} {M:Mut} {R:Res} {F:Fr} {live:List Nat} {a:Act} (h:EnvR w M R (F.keep live).get a) {r:Nat} (hr:r∉live) (u:Value):EnvR w M R (F.keep live).get (a.put (some r) u):=by
 intro i
 by_cases hi:i=r
 .subst hi
  rw[zdb,if_neg hr]
  exact .bad _ _
 .have:=h i
  have e:(a.put (some r) u).tmps.getD i undef=a.tmps.getD i undef:=by
   simp only[Act.put,Array.getD_eq_getD_getElem?]
   rw[Array.getElem?_setIfInBounds_ne (fun e=>hi e.symm)]
  rw[e];exact this
theorem put_at {a:Act} {r:Nat} (hr:r<a.tmps.size) (u:Value):(a.put (some r) u).eval (.tmp r)=u:=by
 show (a.tmps.setIfInBounds r u).getD r undef=u
 simp[Array.getD,hr]
theorem map_keep {F1 F:Fr} {live:List Nat} (h:live.map F1.get=live.map F.get):∀i,(F.keep live).get i= .bad∨(F.keep live).get i=F1.get i:=by
 intro i
 rw[zdb]
 split
 .rename_i hi
  right
  induction live with
  |nil=>cases hi
  |cons j l ih=>
   simp only[List.map_cons,List.cons.injEq]at h
   rcases lMc.1 hi with rfl|hi
   .exact h.1.symm
   .exact ih h.2 hi
 .exact .inl rfl
theorem run_ext0 {u:Value} {vs:Array Value} (h:vs[0]?=some u) (w:World):(Instr.extract (.tuple vs) 0).run P w= .ok u w:=by
 unfold Instr.extract
 simp only[h]
 rfl
theorem zdf (hm:P.follows .mixedOrders=true) (hR:zcn P Rr):∀lc,zpU P Rr lc:=by
 intro lc
 induction lc with
 |any=>
  intro F H x F' H' he N code hs K w M R a ρ hρ hw hE hN
  simp only[evC]at he
  cases he
 |scp b ih=>
  intro F H x F' H' he N code hs K w M R a ρ hρ hw hE hN
  simp only[evC]at he
  cases code<;>simp only[zar]at hs
  refine zlz (ih F H x F' H' he N _ hs K w M R a ρ (fun h=>by have:=hρ h;simpa only[zaC]using this) hw hE hN) ?_
  intro l a1 w1 hp
  have:=hp.1
  cases x<;>cases this
 |hol ts b ih=>
  intro F H x F' H' he N code hs K w M R a ρ hρ hw hE hN
  simp only[evC]at he
  exact ih F _ x F' H' he N code hs K w M R a ρ (fun h=>by have:=hρ h;simpa only[zaC]using this) (hw.addHoles ts) hE hN
 |skip=>
  intro F H x F' H' he N code hs K w M R a ρ hρ hw hE hN
  simp only[evC,oSi,pMi]at he
  obtain⟨rfl,rfl,rfl⟩:=he
  cases code<;>simp only[zar]at hs
  .exact wpIn_skip (Post.here hw hE hN)
  .exact wpIn_label (Post.here hw hE hN)
 |ret=>
  intro F H x F' H' he N code hs K w M R a ρ hρ hw hE hN
  simp only[evC,oSi,pMi]at he
  obtain⟨rfl,rfl,rfl⟩:=he
  cases code<;>simp only[zar]at hs
  exact wpIn_ret (Post.here hw hE hN)
 |exit i=>
  intro F H x F' H' he N code hs K w M R a ρ hρ hw hE hN
  simp only[evC,oSi,pMi]at he
  obtain⟨rfl,rfl,rfl⟩:=he
  cases code<;>simp only[zar]at hs
  subst hs
  exact wpIn_exit (Post.here hw hE hN)
 |reg d inn out l=>
  intro F H x F' H' he N code hs K w M R a ρ hρ hw hE hN
  simp only[evC]at he
  cases hev:zbm Rr l (F.keep inn) H with
  |none=>simp[hev]at he
  |some p=>
   obtain⟨F2,H2⟩:=p
   simp only[hev,oMs,oSi,pMi]at he
   obtain⟨rfl,rfl,rfl⟩:=he
   cases code<;>simp only[zar]at hs
   rename_i id ops d'
   obtain⟨rfl,h1,h2,h3⟩:=hs
   simp only[zo6,bAt]at h2
   obtain⟨⟨c1,c2⟩,c3⟩:=h2
   obtain⟨E',f1,f2,_,_⟩:=zp5 Rr l none (F.keep inn) F.get H F2 H2 c1 (zb9 l) (fun j hj=>hj) (by simpa using c2) (fun j hj=>by
    rw[zdb,if_neg]
    intro hmem
    have:=lAt.1 c3 j hmem
    simp at this
    exact this hj) (zc3 F inn) rfl (by simp) hev
   refine zhW (ρ:=ρ) (n:=0) hR.call hR.pure hm h1 h3 f1 hw hE hN ?_
   intro w' M' R' a' k1 k2 k3 k4 k5
   exact⟨rfl,[],M',R',k1,k2,k3.sub (f2.trans_keep out),by rw[k4,hN],by simpa using k5,fun _=>rfl⟩
 |seq x y ihx ihy=>
  intro F H x' F' H' he N code hs K w M R a ρ hρ hw hE hN
  simp only[evC]at he
  cases hev:evC Rr x F H with
  |none=>simp[hev]at he
  |some p=>
   obtain⟨x1,F1,H1⟩:=p
   simp only[hev,Option.bind_some]at he
   cases code<;>simp only[zar]at hs
   rename_i cx cy
   have hρ1:ρ≠none→zaC x=true:=fun h=>by have:=hρ h;simp only[zaC,bAt]at this;exact this.1
   have hρ2:ρ≠none→zaC y=true:=fun h=>by have:=hρ h;simp only[zaC,bAt]at this;exact this.2
   have h1:=ihx F H x1 F1 H1 hev N cx hs.1 K w M R a ρ hρ1 hw hE hN
   refine wpIn_seq (wpIn_mono h1 ?_)
   intro e a1 w1 hp
   cases x1 with
   |normal=>
    obtain⟨rfl,D,M1,R1,k1,k2,k3,k4,k5⟩:=hp
    simp only at he
    have h2:=ihy F1 H1 x' F' H' he N cy hs.2 _ w1 M1 R1 a1 ρ hρ2 k1 k3 k4
    exact wpIn_mono h2 (fun e a' w' hq=>hq.chain k2 ⟨k5.1,fun h=>k5.2 (by simp only[zaC,bAt]at h;exact h.1)⟩ (fun h=>by simp only[zaC,bAt]at h;exact h.2))
   |ret=>
    simp only[oSi,pMi]at he
    obtain⟨rfl,rfl,rfl⟩:=he
    exact zdx (fun h=>by simp only[zaC,bAt]at h;exact h.1) (by simp) (fun _ _ h=>h) hp
   |exit i=>
    simp only[oSi,pMi]at he
    obtain⟨rfl,rfl,rfl⟩:=he
    exact zdx (fun h=>by simp only[zaC,bAt]at h;exact h.1) (by simp) (fun _ _ h=>h) hp
 |cond c x y ihx ihy=>
  intro F H x' F' H' he N code hs K w M R a ρ hρ hw hE hN
  simp only[evC]at he
  cases code<;>simp only[zar]at hs
  rename_i c' cx cy
  have hρ1:ρ≠none→zaC x=true:=fun h=>by have:=hρ h;simp only[zaC,bAt]at this;exact this.1
  have hρ2:ρ≠none→zaC y=true:=fun h=>by have:=hρ h;simp only[zaC,bAt]at this;exact this.2
  split at he
  .rename_i t ht
   have hc:=VR.src hw.glob hE hs.1
   rw[ht]at hc
   have hcv:a.eval c'= .bool t:=by cases hq:a.eval c'<;>rw[hq]at hc<;>cases hc;rfl
   refine wpIn_cond hcv ?_
   cases t with
   |true=>simp only[if_true]at he⊢;exact wpIn_mono (ihx F H x' F' H' he N cx hs.2.1 K w M R a ρ hρ1 hw hE hN) (fun e a' w' h=>h.weak (fun h=>by simp only[zaC,bAt]at h;exact h.1))
   |false=>simp only[bFt,if_false]at he⊢;exact wpIn_mono (ihy F H x' F' H' he N cy hs.2.2 K w M R a ρ hρ2 hw hE hN) (fun e a' w' h=>h.weak (fun h=>by simp only[zaC,bAt]at h;exact h.2))
  .cases he
 |block id live b ih=>
  intro F H x' F' H' he N code hs K w M R a ρ hρ hw hE hN
  simp only[evC]at he
  cases hev:evC Rr b F H with
  |none=>simp[hev]at he
  |some p=>
   obtain⟨x1,F1,H1⟩:=p
   simp only[hev,oMs,oSi]at he
   cases code<;>simp only[zar]at hs
   rename_i id' cb
   obtain⟨rfl,hs⟩:=hs
   have h1:=ih F H x1 F1 H1 hev N cb hs K w M R a ρ (fun h=>by have:=hρ h;simpa only[zaC]using this) hw hE hN
   refine wpIn_block (wpIn_mono h1 ?_)
   intro e a1 w1 hp
   obtain⟨rfl,D,M1,R1,k1,k2,k3,k4,k5⟩:=hp
   cases x1 with
   |normal=>
    simp only[pMi]at he
    obtain⟨rfl,rfl,rfl⟩:=he
    exact⟨rfl,D,M1,R1,k1,k2,k3.sub (zc3 F1 live),k4,k5⟩
   |ret=>
    simp only[pMi]at he
    obtain⟨rfl,rfl,rfl⟩:=he
    exact⟨rfl,D,M1,R1,k1,k2,k3,k4,k5⟩
   |exit i=>
    simp only at he
    show (if i=id then _ else _)
    by_cases hi:i=id
    .rw[if_pos hi]at he⊢
     simp only[pMi]at he
     obtain⟨rfl,rfl,rfl⟩:=he
     exact⟨rfl,D,M1,R1,k1,k2,k3.sub (zc3 F1 live),k4,k5⟩
    .rw[if_neg hi]at he⊢
     simp only[pMi]at he
     obtain⟨rfl,rfl,rfl⟩:=he
     exact⟨rfl,D,M1,R1,k1,k2,k3,k4,k5⟩
 |loop live b ih=>
  intro F H x' F' H' he N code hs K w M R a ρ hρ hw hE hN
  simp only[evC]at he
  cases code<;>simp only[zar]at hs
  rename_i cb
  obtain⟨m,hl⟩:=hR.loop
  exact wpIn_loop_rounds m (hl live b F H x' F' H' he N cb hs K w M R a ρ (fun h=>by have:=hρ h;simpa only[zaC]using this) hw hE hN)
 |rng f ps inn ac bd ih1 ih2=>
  intro F H x' F' H' he N code hs K w M R a ρ hρ hw hE hN
  have hρ0:ρ=none:=by
   cases ρ with
   |none=>rfl
   |some l=>have:=hρ (by simp);simp[zaC]at this
  subst hρ0
  simp only[evC]at he
  split at he
  .rename_i g fs cs hf
   cases hc:Rr.call (.clo g fs cs) [.yld H.length] (H++[.loop .ready none (F.keep inn) ps ac bd]) with
   |none=>simp[hc]at he
   |some p=>
    obtain⟨res,H2⟩:=p
    simp only[hc,Option.bind_some]at he
    cases code<;>simp only[zar]at hs
    rename_i f' ps' ac' bd'
    obtain⟨s1,rfl,s3,s4,s5,s6,s7⟩:=hs
    refine wpIn_rangeFunc ?_
    intro fn _
    have hfv:=VR.src hw.glob hE s1
    rw[hf]at hfv
    obtain⟨d1,d2⟩:=hw.newMark
    let rec0:Loop:={state:= .ready,pending:=none,fn:=fn,tmps:=a.tmps,params:=ps.toArray,assign:=ac',body:=bd',defers:=w.heap.size}
    let w1:=(w.alloc (.deferred (some []))).alloc (.loop rec0)
    let gl:Own:=⟨0,(w.alloc (.deferred (some []))).heap.size,0,0⟩
    have hsz1:(w.alloc (.deferred (some []))).heap.size=w.heap.size+1:=by
     show (w.heap.push _).size=_
     simp
    have hev0:=zhe d1 (.loop rec0) gl
    obtain⟨n1,n2⟩:=d1.newBlk (.loop rec0) (.loop .ready none (F.keep inn) ps ac bd) gl rfl rfl
     ⟨gl,rec0,by simp[zP],fun v hv=>by unfold zP;rw[if_pos rfl,if_neg (by omega)],zW _ _,rfl,trivial,rfl,by rw[show rec0.tmps.size=N from hN];exact⟨s6,s4⟩,by rw[show rec0.tmps.size=N from hN];exact⟨s7,s5⟩,
      fun i=>((hE.evol d2).evol hev0).sub (zc3 F inn) i,fun i hi=>by
       have:=lAt.1 s3 i hi
       have h2:rec0.tmps.size=N:=hN
       rw[h2];simpa using this⟩
    have hcv:=hR.call _ _ _ _ _ hc _ w1 _ _ (a.eval f') [.func (.yield gl.blk) #[] #[]] n1 ((hfv.evol d2).evol n2) (VRs.cons (.yld _ _ gl (by simp[zP])) VRs.nil)
    rcases hcv with⟨f0,fs0,cs0,e1,e2,e3⟩|⟨l,fn',tmps,ac0,bd0,e1,_,_⟩
    .refine⟨gl.blk,[zlQ w.heap.size],w1,({target:= .fn (.func f0) cs0,args:=fs0++#[.func (.yield gl.blk) #[] #[]]}:Deferred),w1,f0,fs0++#[.func (.yield gl.blk) #[] #[]]++cs0,w1,?_,?_,fun _ _=>trivial,?_,(fun hh=>by cases hh),?_⟩
     .rw[show gl.blk=w.heap.size+1 from hsz1]
      exact run_enterLoop_outer fn a.tmps ps.toArray ac' bd'
     .unfold resolve rangeCall
      have hmm:Array.map a.eval #[Operand.const (Value.func (Fn.yield gl.blk) #[] #[])]=#[Value.func (.yield gl.blk) #[] #[]]:=by simp[Act.eval]
      simp only[e1,Deferred.ofValue]
      rw[hmm]
      rfl
     .exact e2 _ w1
     .refine CallsIn.mono (n:=0 - 1) e3 ?_
      rintro e w2 ⟨u,rfl,M2,R2,k1,k2,k3⟩
      split at he
      .rename_i st pend Fl pl al bl hb
       obtain⟨g2,r2,b1,b2,b3,b4,b5,b6,b7,b8,b9,b10⟩:=k1.heap.blk _ _ hb
       have hgl:R2 H.length 0=some gl:=k2.own _ _ _ (by simp[zP])
       rw[hgl]at b1;cases b1
       have hst:st≠.busy:=by
        intro h;subst h;simp at he
       have hend:=run_endLoop (P:=P) b3 (by rw[b4];exact hst)
       obtain⟨q1,q2⟩:=k1.putLoop (st':= .exhausted) (pend':=pend) (r':={r2 with state:= .exhausted}) hb hgl b3 rfl b5 rfl rfl rfl rfl
       have henv:EnvR (w2.putObj gl.blk (.loop {r2 with state:= .exhausted})) M2 R2 (F.keep inn).get {a with defers:=[zlQ w.heap.size]++a.defers}:=by
        intro i
        exact (((((hE.evol d2).evol n2).evol k2).evol q2).sub (zc3 F inn)) i
       have hevs:Evol R M w R2 M2 (w2.putObj gl.blk (.loop {r2 with state:= .exhausted})):=((d2.trans n2).trans k2).trans q2
       refine⟨r2.pending,_,hend,?_⟩
       have he2:(match pend with|none=>LX.normal|some x=>x)=x'∧F.keep inn=F'∧H2.set H.length (.loop .exhausted pend Fl pl al bl)=H':=by
        cases st
        case busy=>exact absurd rfl hst
        all_goals (simp only[oSi,pMi]at he;cases pend<;>exact he)
       obtain⟨h1,rfl,rfl⟩:=he2
       have hpost:Post (zG P) K false N x' (F.keep inn) (H2.set H.length (.loop .exhausted pend Fl pl al bl)) a w M R (zhL x') {a with defers:=[zlQ w.heap.size]++a.defers} (w2.putObj gl.blk (.loop {r2 with state:= .exhausted})):=
        ⟨rfl,[w.heap.size],M2,R2,q1,hevs,henv,hN,rfl,fun h=>by cases h⟩
       cases pend with
       |none=>
        simp only at h1
        subst h1
        cases hp:r2.pending with
        |none=>rw[hp]at hpost;exact hpost
        |some c=>rw[hp]at b5;exact b5.elim
       |some x0=>
        simp only at h1
        subst h1
        cases hp:r2.pending with
        |none=>rw[hp]at b5;cases x0<;>exact b5.elim
        |some c=>
         rw[hp]at b5 hpost
         simp only
         cases x0 with
         |normal=>exact b5.elim
         |ret=>
          have hc:c= .ret:=b5
          subst hc
          exact wpIn_ret hpost
         |exit i=>
          have hc:c= .exit i:=b5
          subst hc
          exact wpIn_exit hpost
      .cases he
    .exfalso
     rw[e1]at hfv
     cases hfv
  .cases he
theorem zlS (hm:P.follows .mixedOrders=true) {R0:Rec} (hR:zcn P R0) {m:Nat} (hl:zfU P R0 m) {R1:Rec}
  (h:∀live b F H,R1.loop live b F H=match evC R0 b (F.keep live) H with|some (.normal,F1,H1)=>R0.loop live b F1 H1|r=>r):zfU P R1 (m+1):=by
 intro live b F H x F' H' he N code hs K w M R a ρ hρ hw hE hN
 rw[h]at he
 rw[roundsIn_succ]
 cases hev:evC R0 b (F.keep live) H with
 |none=>simp[hev]at he
 |some p=>
  obtain⟨x1,F1,H1⟩:=p
  rw[hev]at he
  have h1:=zdf hm hR b _ H x1 F1 H1 hev N code hs K w M R a ρ hρ hw (hE.sub (zc3 F live)) hN
  refine wpIn_mono h1 ?_
  intro e a1 w1 hp
  cases x1 with
  |normal=>
   obtain⟨rfl,D,M1,R1',k1,k2,k3,k4,k5⟩:=hp
   simp only at he
   have h2:=hl live b F1 H1 x F' H' he N code hs _ w1 M1 R1' a1 ρ hρ k1 k3 k4
   exact zfk (fun e a' w' hq=>hq.chain k2 k5 id) m _ _ h2
  |ret=>
   simp only[oSi,pMi]at he
   obtain⟨rfl,rfl,rfl⟩:=he
   exact zdx id (by simp) (fun _ _ h=>h) hp
  |exit i=>
   simp only[oSi,pMi]at he
   obtain⟨rfl,rfl,rfl⟩:=he
   exact zdx id (by simp) (fun _ _ h=>h) hp
end run
end Go.Proofs.YtbddckhdbnmamaaGreat
