/-
  The evaluation of code, of calls and of rounds is sound (conditions: what Γ says of functions is a hypothesis).
-/
import Derived.Test.YtgamobngbenehaaGreatDoorExecp
namespace Go.Proofs.YtgamobngbenehaaGreatDoor
open Go Go.RowKit
set_option linter.unusedVariables false
set_option linter.unusedSimpArgs false
def zq (P:Program):zaT:=fun N lc c=>zJ P N lc c∧z8 lc=true
def zea (r:Nat):Deferred:={target:= .collected r,args:=#[]}
def zfO:LX→Exit| .normal=> .normal| .ret=> .ret| .exit i=> .exit i
def Post (C:zaT) (K:Ctx) (nr:Bool) (N:Nat) (x:LX) (F':Fr) (H':Heap) (a:Act) (w:World) (M:Mut) (R:Res):Exit→Act→World→Prop:=fun e a' w'=>
 e=zfO x∧∃D M' R',WR C {K with marks:=D++K.marks} w' M' R' H'∧Evol R M w R' M' w'∧EnvR w' M' R' F'.get a'∧a'.tmps.size=N∧a'.defers=D.map zea++a.defers∧(nr=true→D=[])
def zgZ (P:Program) (Rr:Rec) (lc:LC):Prop:=∀F H x F' H',evC Rr lc F H=some (x,F',H')→∀N code,zJ P N lc code→∀K w M R a ρ,(ρ≠none→z8 lc=true)→
 WR (zq P) K w M R H→EnvR w M R F.get a→a.tmps.size=N→code.wpIn (Wf ρ) 0 P (Post (zq P) K (z8 lc) N x F' H' a w M R) a w
def zep (P:Program) (Rr:Rec) (m:Nat):Prop:=∀live b F H x F' H',Rr.loop live b F H=some (x,F',H')→∀N code,zJ P N b code→∀K w M R a ρ,(ρ≠none→z8 b=true)→
 WR (zq P) K w M R H→EnvR w M R F.get a→a.tmps.size=N→Code.roundsIn (Wf ρ) 0 P code (Post (zq P) K (z8 b) N x F' H' a w M R) m a w
structure zaL (P:Program) (Rr:Rec):Prop where
 call:zbB P (zq P) Rr
 pure:zbi P (zq P) Rr
 loop:∃m,zep P Rr m
section run
variable {P:Program} {Rr:Rec}
theorem Post.here {K:Ctx} {nr:Bool} {N:Nat} {x:LX} {F:Fr} {H:Heap} {a:Act} {w:World} {M:Mut} {R:Res} (hw:WR (zq P) K w M R H) (he:EnvR w M R F.get a) (hN:a.tmps.size=N):Post (zq P) K nr N x F H a w M R (zfO x) a w:=
 ⟨rfl,[],M,R,hw,Evol.refl _ _ _,he,hN,rfl,fun _=>rfl⟩
theorem Post.weak {K:Ctx} {nr nr':Bool} {N:Nat} {x:LX} {F:Fr} {H:Heap} {a:Act} {w:World} {M:Mut} {R:Res} {e:Exit} {a':Act} {w':World} (h:Post (zq P) K nr N x F H a w M R e a' w') (hi:nr'=true→nr=true):Post (zq P) K nr' N x F H a w M R e a' w':=by
 obtain⟨h1,D,M',R',h2,h3,h4,h5,h6,h7⟩:=h
 exact⟨h1,D,M',R',h2,h3,h4,h5,h6,fun h=>h7 (hi h)⟩
theorem EnvR.sub {w:World} {M:Mut} {R:Res} {E:Env} {F:Fr} {a:Act} (h:EnvR w M R E a) (hs:Sub F E):EnvR w M R F.get a:=by
 intro i
 rcases hs i with h1|h1
 .rw[h1];exact .bad _ _
 .rw[h1];exact h i
theorem zbK (F:Fr) (l:List Nat) (i:Nat):(F.keep l).get i=if i∈l then F.get i else .bad:=by
 unfold Fr.keep
 induction l with
 |nil=>simp[Fr.get]
 |cons j l ih=>
  simp only[List.map_cons,Fr.get,ih,List.mem_cons]
  by_cases h:i=j
  .subst h;simp
  .simp[h]
theorem za4 (F:Fr) (l:List Nat):Sub (F.keep l) F.get:=by
 intro i
 rw[zbK]
 split
 .exact .inr rfl
 .exact .inl rfl
theorem Sub.trans_keep {F:Fr} {E:Env} (h:Sub F E) (l:List Nat):Sub (F.keep l) E:=by
 intro i
 rw[zbK]
 split
 .exact h i
 .exact .inl rfl
theorem Post.chain {K:Ctx} {nr nr2:Bool} {N:Nat} {x:LX} {F':Fr} {H':Heap} {a a1:Act} {w w1:World} {M M1:Mut} {R R1:Res} {D:List Nat} (hev:Evol R M w R1 M1 w1) (hd:a1.defers=D.map zea++a.defers∧(nr=true→D=[])) {e:Exit} {a':Act} {w':World}
  (h:Post (zq P) {K with marks:=D++K.marks} nr2 N x F' H' a1 w1 M1 R1 e a' w') (hn:nr=true→nr2=true):Post (zq P) K nr N x F' H' a w M R e a' w':=by
 obtain⟨h1,D2,M',R',h2,h3,h4,h5,h6,h7⟩:=h
 refine⟨h1,D2++D,M',R',?_,hev.trans h3,h4,h5,?_,fun h=>by rw[h7 (hn h),hd.2 h];rfl⟩
 .rw[List.append_assoc];exact h2
 .rw[h6,hd.1];simp
theorem zcA {ρ:Option Nat} {n:Nat} {c:Code} {Q Q':Exit→Act→World→Prop} (hq:∀e a w,Q e a w→Q' e a w):∀(m:Nat) (a:Act) (w:World),Code.roundsIn (Wf ρ) n P c Q m a w→Code.roundsIn (Wf ρ) n P c Q' m a w
 |0,a,w,h=>h
 |m+1,a,w,h=>by
  rw[roundsIn_succ]at h⊢
  refine wpIn_mono h ?_
  intro e a' w' h'
  cases e<;>first|exact zcA hq m _ _ h'|exact hq _ _ _ h'
theorem zbY {K:Ctx} {nr nr':Bool} (hi:nr'=true→nr=true) {N:Nat} {x:LX} {F1:Fr} {H1:Heap} {a:Act} {w:World} {M:Mut} {R:Res} {nxt:Act→World→Prop} {Q:Exit→Act→World→Prop} (hx:x≠.normal) (hq:∀a' w',Post (zq P) K nr' N x F1 H1 a w M R (zfO x) a' w'→Q (zfO x) a' w') {e:Exit} {a':Act} {w':World}
  (h0:Post (zq P) K nr N x F1 H1 a w M R e a' w'):Exit.then nxt Q e a' w':=by
 have h:=h0.weak hi
 have he:=h.1
 subst he
 cases x with
 |normal=>exact absurd rfl hx
 |ret=>exact hq _ _ h
 |exit i=>exact hq _ _ h
theorem zeQ {Hof:AV×AV→Heap} {Fk:List AV} {live:List Nat}:∀{l:List ((AV×AV)×Option (LX×Fr×Heap))} {res:Option (LX×Fr×Heap)},zdc Hof Fk live l=some res→
  (∀p∈l,∃x F1 H1,p.2=some (x,F1,H1)∧((x= .normal∧live.map F1.get=Fk∧H1.take (Hof p.1).length=Hof p.1)∨(x≠.normal∧res=some (x,F1,H1))))∧(∀out,res=some out→out.1≠.normal∧∃p∈l,p.2=some out)
 | [],res,h=>by
  simp only[zdc,Option.some.injEq]at h
  subst h
  exact⟨fun p hp=>(by simp at hp),fun out h=>by cases h⟩
 |(e,o)::r,res,h=>by
  simp only[zdc]at h
  cases o with
  |none=>cases h
  |some q0=>
  obtain⟨x,F1,H1⟩:=q0
  cases h2:zdc Hof Fk live r with
  |none=>rw[h2]at h;cases h
  |some rest=>
   rw[h2]at h
   simp only at h
   obtain⟨g1,g2⟩:=zeQ h2
   have leave:x≠.normal→rest=none→res=some (x,F1,H1)→(∀p∈(e,some (x,F1,H1))::r,∃x' F1' H1',p.2=some (x',F1',H1')∧((x'= .normal∧live.map F1'.get=Fk∧H1'.take (Hof p.1).length=Hof p.1)∨(x'≠.normal∧res=some (x',F1',H1'))))∧(∀out,res=some out→out.1≠.normal∧∃p∈(e,some (x,F1,H1))::r,p.2=some out):=by
    intro hy hr hh
    subst hh
    subst hr
    refine⟨fun p hp=>?_,fun out hout=>?_⟩
    .rcases List.mem_cons.1 hp with rfl|hp
     .exact⟨x,F1,H1,rfl,.inr ⟨hy,rfl⟩⟩
     .obtain⟨x2,F2,H2,q1,q2⟩:=g1 p hp
      rcases q2 with q2|⟨_,q2⟩
      .exact⟨x2,F2,H2,q1,.inl q2⟩
      .cases q2
    .cases hout
     exact⟨hy,_,List.mem_cons_self,rfl⟩
   have stay:x= .normal→rest=res→live.map F1.get=Fk→H1.take (Hof e).length=Hof e→(∀p∈(e,some (x,F1,H1))::r,∃x' F1' H1',p.2=some (x',F1',H1')∧((x'= .normal∧live.map F1'.get=Fk∧H1'.take (Hof p.1).length=Hof p.1)∨(x'≠.normal∧res=some (x',F1',H1'))))∧(∀out,res=some out→out.1≠.normal∧∃p∈(e,some (x,F1,H1))::r,p.2=some out):=by
    intro hx hr hf hh
    subst hr
    refine⟨fun p hp=>?_,fun out hout=>?_⟩
    .rcases List.mem_cons.1 hp with rfl|hp
     .exact⟨x,F1,H1,rfl,.inl ⟨hx,hf,hh⟩⟩
     .exact g1 p hp
    .obtain⟨a1,p,a2,a3⟩:=g2 out hout
     exact⟨a1,p,List.mem_cons_of_mem _ a2,a3⟩
   clear g1 g2 h2
   cases x with
   |normal=>
    simp only at h
    split at h
    .rename_i hq
     simp only[Bool.and_eq_true]at hq
     exact stay rfl (Option.some.inj h) (AV.beqs_eq hq.1) (zli hq.2)
    .cases h
   |ret=>
    cases rest with
    |none=>exact leave (by simp) rfl (Option.some.inj h).symm
    |some q=>cases h
   |exit i=>
    cases rest with
    |none=>exact leave (by simp) rfl (Option.some.inj h).symm
    |some q=>cases h
theorem zhj {it r ok:Nat} {ops:Array Oper} (h:zeT it r ok ops=true):∃o0 o1:Oper,ops=#[o0,o1]∧o0.op= .next (.tmp it) false∧o0.dst=some r∧o0.guard=none∧o1.op= .extract (.tmp r) 0∧o1.dst=some ok∧o1.guard=none:=by
 unfold zeT at h
 split at h
 .rename_i o0 o1 ho
  simp only[Bool.and_eq_true,decide_eq_true_eq]at h
  obtain⟨⟨⟨⟨⟨h1,h2⟩,h3⟩,h4⟩,h5⟩,h6⟩:=h
  split at h1
  .rename_i i hi
   split at h4
   .rename_i j hj
    have e1:=of_decide_eq_true h1
    have e2:=of_decide_eq_true h4
    subst e1;subst e2
    refine⟨o0,o1,?_,hi,h2,h3,hj,h5,h6⟩
    apply Array.ext'
    simpa using ho
   .cases h4
  .cases h1
 .cases h
theorem zal {o:Oper} {y:Nat→Option Bool} (h:o.guard=none):Region.wanted o y=true:=by
 unfold Region.wanted;rw[h]
theorem zqS {K:Ctx} {w:World} {M:Mut} {R:Res} {H:Heap} (h:WR (zq P) K w M R H) {w1:World} (hw:w1=w∨w1=w.drew):WR (zq P) K w1 M R H∧Evol R M w R M w1:=by
 rcases hw with rfl|rfl
 .exact⟨h,Evol.refl _ _ _⟩
 .exact h.same rfl rfl rfl rfl
theorem zis {α:Type} {l p:List α} (h:l.take p.length=p):∃J,l=p++J:=⟨l.drop p.length,by
 have:=List.take_append_drop p.length l
 rw[h]at this
 exact this.symm⟩
theorem EnvR.putFree {w:World} {M:Mut} {R:Res} {F:Fr} {live:List Nat} {a:Act} (h:EnvR w M R (F.keep live).get a) {r:Nat} (hr:r∉live) (u:Value):EnvR w M R (F.keep live).get (a.put (some r) u):=by
 intro i
 by_cases hi:i=r
 .subst hi
  rw[zbK,if_neg hr]
  exact .bad _ _
 .have:=h i
  have e:(a.put (some r) u).tmps.getD i undef=a.tmps.getD i undef:=by
   simp only[Act.put,Array.getD_eq_getD_getElem?]
   rw[Array.getElem?_setIfInBounds_ne (fun e=>hi e.symm)]
  rw[e];exact this
theorem zf0 {a:Act} {r:Nat} (hr:r<a.tmps.size) (u:Value):(a.put (some r) u).eval (.tmp r)=u:=by
 show (a.tmps.setIfInBounds r u).getD r undef=u
 simp[Array.getD,hr]
theorem zl7 {F1 F:Fr} {live:List Nat} (h:live.map F1.get=live.map F.get):∀i,(F.keep live).get i= .bad∨(F.keep live).get i=F1.get i:=by
 intro i
 rw[zbK]
 split
 .rename_i hi
  right
  induction live with
  |nil=>cases hi
  |cons j l ih=>
   simp only[List.map_cons,List.cons.injEq]at h
   rcases List.mem_cons.1 hi with rfl|hi
   .exact h.1.symm
   .exact ih h.2 hi
 .exact .inl rfl
theorem zlN {u:Value} {vs:Array Value} (h:vs[0]?=some u) (w:World):(Instr.extract (.tuple vs) 0).run P w= .ok u w:=by
 unfold Instr.extract
 simp only[h]
 rfl
theorem zgd {it r ok bk:Nat} {live:List Nat} {b:LC} (hb:zgZ P Rr b) {F:Fr} {H:Heap} {id:Nat} {all:List (AV×AV)} (hit:F.get it= .oit id) (hid:id<H.length) {res:Option (LX×Fr×Heap)}
  (hpick:zdc (fun e=>H.set id (.mit 1 e.1 e.2 all)) (live.map F.get) live (all.map fun e=>(e,evC Rr b (F.keep live) (H.set id (.mit 1 e.1 e.2 all))))=some res)
  {x:LX} {F':Fr} {H':Heap} (hend:mEnd id bk (F.keep live) H all res=some (x,F',H')) {N rid:Nat} {ops:Array Oper} {cb:Code} (hn:zeT it r ok ops=true) (hsl:r<N∧ok<N∧r≠ok∧it∈live∧r∉live∧ok∉live)
  (hs:zJ P N b cb) {ρ:Option Nat} (hρ:ρ≠none→z8 b=true):
  ∀(n:Nat) (K:Ctx) (w:World) (M:Mut) (R:Res) (a:Act) (g:Own) (m clock:Nat) (es':Array MapEntry) (seen:Array Nat),
   WR (zq P) K w M R (H.set id (.mit 2 .und .und all))→EnvR w M R (F.keep live).get a→a.tmps.size=N→R id 0=some g→(∀o,M g.blk o)→w.heap[g.blk]?=some (.mapIter (some m) clock seen clock)→w.heap[m]?=some (.map es' clock)→
   (∀(i:Nat) (e:MapEntry) (p:AV×AV),es'[i]?=some e→all[i]?=some p→seen.contains e.born=true→∃F1 H1,evC Rr b (F.keep live) (H.set id (.mit 1 p.1 p.2 all))=some (.normal,F1,H1))→
   (leftOf es' seen).size≤n→Code.roundsIn (Wf ρ) 0 P (.seq (.region rid ops false) (.seq (.cond (.tmp ok) .skip (.exit bk)) cb)) (Post (zq P) K (z8 b) N x F' H' a w M R) (n+1) a w:=by
 obtain⟨hr,hok,hne,hli,hlr,hlo⟩:=hsl
 obtain⟨o0,o1,rfl,p1,p2,p3,p4,p5,p6⟩:=zhj hn
 obtain⟨sp1,sp2⟩:=zeQ hpick
 have step:∀(n:Nat) (K:Ctx) (w:World) (M:Mut) (R:Res) (a:Act) (g:Own) (m clock:Nat) (es':Array MapEntry) (seen:Array Nat),
   (∀n',n=n'+1→∀(K:Ctx) (w:World) (M:Mut) (R:Res) (a:Act) (g:Own) (m clock:Nat) (es':Array MapEntry) (seen:Array Nat),
   WR (zq P) K w M R (H.set id (.mit 2 .und .und all))→EnvR w M R (F.keep live).get a→a.tmps.size=N→R id 0=some g→(∀o,M g.blk o)→w.heap[g.blk]?=some (.mapIter (some m) clock seen clock)→w.heap[m]?=some (.map es' clock)→
   (∀(i:Nat) (e:MapEntry) (p:AV×AV),es'[i]?=some e→all[i]?=some p→seen.contains e.born=true→∃F1 H1,evC Rr b (F.keep live) (H.set id (.mit 1 p.1 p.2 all))=some (.normal,F1,H1))→
   (leftOf es' seen).size≤n'→Code.roundsIn (Wf ρ) 0 P (.seq (.region rid #[o0,o1] false) (.seq (.cond (.tmp ok) .skip (.exit bk)) cb)) (Post (zq P) K (z8 b) N x F' H' a w M R) (n'+1) a w)→
   WR (zq P) K w M R (H.set id (.mit 2 .und .und all))→EnvR w M R (F.keep live).get a→a.tmps.size=N→R id 0=some g→(∀o,M g.blk o)→w.heap[g.blk]?=some (.mapIter (some m) clock seen clock)→w.heap[m]?=some (.map es' clock)→
   (∀(i:Nat) (e:MapEntry) (p:AV×AV),es'[i]?=some e→all[i]?=some p→seen.contains e.born=true→∃F1 H1,evC Rr b (F.keep live) (H.set id (.mit 1 p.1 p.2 all))=some (.normal,F1,H1))→
   (leftOf es' seen).size≤n→Code.roundsIn (Wf ρ) 0 P (.seq (.region rid #[o0,o1] false) (.seq (.cond (.tmp ok) .skip (.exit bk)) cb)) (Post (zq P) K (z8 b) N x F' H' a w M R) (n+1) a w:=by
  intro n K w M R a g m clock es' seen ih hw hE hN hg hM hi hmp hq hl
  rw[roundsIn_succ]
  refine wpIn_seq (wpIn_region ?_)
  show wpOpsIn (Wf ρ) 0 P #[o0,o1] _ [0,1] a w
  have hself:(H.set id (.mit 2 .und .und all))[id]?=some (.mit 2 .und .und all):=gEt hid
  obtain⟨g0,m0,es0,c0,s0,a1,a2,a3,a4,a5,a6,a7,a8,a9,a10⟩:=hw.heap.blk id _ hself
  rw[hg]at a1;cases a1
  rw[hi]at a3;cases a3
  rw[hmp]at a4;cases a4
  have e0:a.eval (.tmp it)= .pointer (some ⟨g.blk,0,none⟩):=by
   have:=hE it
   rw[zbK,if_pos hli,hit]at this
   show a.tmps.getD it undef=_
   generalize a.tmps.getD it undef=u at this
   cases this with
   |oit R _ g' hg'=>rw[hg]at hg';cases hg';rfl
  have hnx:=run_next_at (P:=P) w o0.type g.blk m clock clock seen es' clock hi hmp a6.1 (Nat.le_refl _)
  have hx1:∀(u:Value) (vs:Array Value) (w2:World),vs[0]?=some u→(execOp (a.put (some r) (.tuple vs)).eval o1).run P w2= .ok (.value u) w2:=by
   intro u vs w2 hu
   unfold execOp
   rw[p4]
   show (do pure (.value (←Instr.extract ((a.put (some r) (.tuple vs)).eval (.tmp r)) 0)):Sem Next).run P w2=_
   rw[zf0 (by rw[hN];exact hr),zh (zlN hu w2)]
   rfl
  have hs0:Oper.semAt ρ a.eval o0=execOp a.eval o0:=Oper.semAt_eq _ _ _ (by intro c hc;rw[p1]at hc;cases hc)
  have hs1:∀a1:Act,Oper.semAt ρ a1.eval o1=execOp a1.eval o1:=fun a1=>Oper.semAt_eq _ _ _ (by intro c hc;rw[p4]at hc;cases hc)
  have q0:(#[o0,o1]:Array Oper)[0]?=some o0:=rfl
  have q1:(#[o0,o1]:Array Oper)[1]?=some o1:=rfl
  simp only[wpOpsIn,q0,q1,zal p3,zal p6,if_true]
  refine zbX hs0 ?_
  rcases hnx with⟨h0,hrun⟩|⟨e,he,w1,hw1,hrun⟩
  .
   have hx0:(execOp a.eval o0).run P w= .ok (.value (.tuple #[.bool false])) w:=by
    unfold execOp
    rw[p1]
    show (do pure (.value (←Instr.next (a.eval (.tmp it)) false o0.type)):Sem Next).run P w=_
    rw[e0,zh hrun]
    rfl
   rw[hx0]
   simp only[Oper.uponIn_value]
   refine zbX (hs1 _) ?_
   rw[p2,hx1 (.bool false) _ w rfl]
   simp only[Oper.uponIn_value]
   rw[p5]
   refine wpIn_seq (wpIn_cond (t:=false) (zf0 (by rw[zZ,hN];exact hok) _) ?_)
   simp only[Bool.false_eq_true,if_false]
   refine wpIn_exit ?_
   show Post (zq P) K (z8 b) N x F' H' a w M R (.exit bk) _ w
   have hres:res=none:=by
    cases res with
    |none=>rfl
    |some out=>
     exfalso
     obtain⟨c1,p,c2,c3⟩:=sp2 out rfl
     obtain⟨en,c4,rfl⟩:=List.mem_map.1 c2
     obtain⟨i,c5⟩:=List.getElem?_of_mem c4
     have hi2:i<es'.size:=by rw[a7];exact (gEs.1 c5).1
     have hes:es'[i]?=some es'[i]:=Array.getElem?_eq_getElem hi2
     have hsn:seen.contains es'[i].born=true:=by
      cases hc:seen.contains es'[i].born with
      |true=>rfl
      |false=>
       exfalso
       have hmem:es'[i]∈leftOf es' seen:=Array.mem_filter.2 ⟨Array.getElem_mem hi2,by rw[hc];rfl⟩
       have:leftOf es' seen=#[]:=Array.eq_empty_of_size_eq_zero h0
       rw[this]at hmem
       simp at hmem
     obtain⟨F1,H1,c6⟩:=hq i _ _ hes c5 hsn
     simp only at c3
     rw[c6]at c3
     cases c3
     exact c1 rfl
   subst hres
   simp only[mEnd,Option.some.injEq,Prod.mk.injEq]at hend
   obtain⟨rfl,rfl,rfl⟩:=hend
   exact⟨rfl,[],M,R,hw,Evol.refl _ _ _,(hE.putFree hlr _).putFree hlo _,by rw[zZ,zZ,hN],by rw[zM,zM];rfl,fun _=>rfl⟩
  .
   obtain⟨b1,b2⟩:=mem_left he
   obtain⟨i,b3⟩:=List.getElem?_of_mem b1
   have b4:es'[i]?=some e:=by rw[←Array.getElem?_toList];exact b3
   have hi2:i<all.length:=by rw[←a7];exact (Array.getElem?_eq_some_iff.1 b4).1
   obtain⟨pk,hpk⟩:∃p,all[i]?=some p:=⟨_,gEg hi2⟩
   obtain⟨d1,d2⟩:=zqS hw hw1
   have hi1:w1.heap[g.blk]?=some (.mapIter (some m) clock seen clock):=by rcases hw1 with rfl|rfl<;>exact hi
   have hm1:w1.heap[m]?=some (.map es' clock):=by rcases hw1 with rfl|rfl<;>exact hmp
   obtain⟨f1,f2⟩:=d1.putMit (seen.push e.born) hself hg hi1 hm1 (hM 0)
   rw[List.set_set]at f1
   have hlt:g.blk<w1.heap.size:=(Array.getElem?_eq_some_iff.1 hi1).1
   have hi3:(w1.putObj g.blk (.mapIter (some m) clock (seen.push e.born) clock)).heap[g.blk]?=some (.mapIter (some m) clock (seen.push e.born) clock):=World.putObj_heap_same hlt
   have hm3:(w1.putObj g.blk (.mapIter (some m) clock (seen.push e.born) clock)).heap[m]?=some (.map es' clock):=by
    rw[World.putObj_heap_other (fun e=>by subst e;rw[hi1]at hm1;cases hm1)];exact hm1
   obtain⟨f3,f4⟩:=f1.freezeIt (k':=pk.1) (v':=pk.2) hself hg hi3 hm3 ⟨i,e,seen,hpk,b4,rfl⟩
   rw[List.set_set]at f3
   have hx0:(execOp a.eval o0).run P w= .ok (.value (.tuple #[.bool true,e.key,e.val])) (w1.putObj g.blk (.mapIter (some m) clock (seen.push e.born) clock)):=by
    unfold execOp
    rw[p1]
    show (do pure (.value (←Instr.next (a.eval (.tmp it)) false o0.type)):Sem Next).run P w=_
    rw[e0,zh hrun]
    rfl
   rw[hx0]
   simp only[Oper.uponIn_value]
   refine zbX (hs1 _) ?_
   rw[p2,hx1 (.bool true) _ _ rfl]
   simp only[Oper.uponIn_value]
   rw[p5]
   refine wpIn_seq (wpIn_cond (t:=true) (zf0 (by rw[zZ,hN];exact hok) _) ?_)
   simp only[if_true]
   refine wpIn_skip ?_
   generalize w1.putObj g.blk (.mapIter (some m) clock (seen.push e.born) clock)=w2 at *
   have hev0:Evol R M w R M w2:=d2.trans f2
   obtain⟨x1,F1,H1,ho,hx⟩:=sp1 (pk,evC Rr b (F.keep live) (H.set id (.mit 1 pk.1 pk.2 all))) (List.mem_map.2 ⟨pk,List.mem_of_getElem? hpk,rfl⟩)
   simp only at ho
   have hE2:=((((hE.putFree hlr (.tuple #[.bool true,e.key,e.val])).putFree hlo (.bool true)).evol hev0).evol f4)
   have hbody:=hb (F.keep live) _ x1 F1 H1 ho N cb hs K w2 _ R ((a.put (some r) (.tuple #[.bool true,e.key,e.val])).put (some ok) (.bool true)) ρ hρ f3 hE2 (by rw[zZ,zZ,hN])
   show cb.wpIn (Wf ρ) 0 P _ _ w2
   refine wpIn_mono hbody ?_
   intro ex a3 w3 hp
   rcases hx with⟨rfl,hx1',hx2⟩|⟨hxn,hres⟩
   .
    obtain⟨rfl,D,M1,R1,k1,k2,k3,k4,k5,k6⟩:=hp
    simp only at hx2
    have hg1:R1 id 0=some g:=k2.own _ _ _ hg
    have hi4:w3.heap[g.blk]?=some (.mapIter (some m) clock (seen.push e.born) clock):=k2.its _ _ _ _ _ hi3 (fun h=>h.2 rfl)
    have hm4:w3.heap[m]?=some (.map es' clock):=k2.maps _ _ _ hm3 (fun h=>a5 h.1)
    obtain⟨J,hJ⟩:=zis hx2
    subst hJ
    have kc:=f3.cut k1
    have hlen:(H.set id (.mit 1 pk.1 pk.2 all)).length=H.length:=List.length_set
    rw[hlen]at kc
    have hg2:cutR H.length R1 id 0=some g:=zbP hid hg1
    have hself1:(H.set id (.mit 1 pk.1 pk.2 all))[id]?=some (.mit 1 pk.1 pk.2 all):=gEt hid
    have k1':=kc.thaw hself1 hg2 hi4
    rw[List.set_set]at k1'
    have hdom:∀id0 v g0,R id0 v=some g0→id0<H.length:=fun id0 v g0 h=>by
     have:=hw.heap.dom id0 v g0 h
     rwa [List.length_set]at this
    have hev:Evol R M w (cutR H.length R1) (zeP M1 g.blk) w3:=by
     refine⟨Nat.le_trans hev0.size k2.size,fun b0 o u hc hm=>k2.cells b0 o u (hev0.cells b0 o u hc hm) (fun h=>hm h.1),fun id0 v g0 h=>zbP (hdom id0 v g0 h) (k2.own id0 v g0 h),?_,fun b0 es1 cl h hm=>k2.maps b0 es1 cl (hev0.maps b0 es1 cl h hm) (fun h=>hm h.1),fun b0 c1 c2 c3 c4 h hm=>k2.its b0 c1 c2 c3 c4 (hev0.its b0 c1 c2 c3 c4 h hm) (fun h=>hm h.1)⟩
     intro b0 o hb0 hm
     rcases hm with hm|rfl
     .exact (k2.mono b0 o (Nat.lt_of_lt_of_le hb0 hev0.size) hm).1
     .exact hM o
    have hE3:EnvR w3 (zeP M1 g.blk) (cutR H.length R1) (F.keep live).get a3:=by
     intro i0
     have hbel:AV.bel H.length ((F.keep live).get i0):=(hE i0).bel hdom
     rcases zl7 hx1' i0 with h|h
     .rw[h];exact .bad _ _
     .rw[h]at hbel⊢
      exact ((k3 i0).cut hbel).thaw hi4
    have hlt2:=left_shrinks es' seen e he
    obtain⟨n',rfl⟩:∃n',n=n'+1:=⟨n - 1,by omega⟩
    have h2:=ih n' rfl {K with marks:=D++K.marks} w3 (zeP M1 g.blk) (cutR H.length R1) a3 g m clock es' (seen.push e.born) k1' hE3 k4 hg2 (fun o=> .inr rfl) hi4 hm4 (fun j e1 p1' j1 j2 j3=>by
     rw[contains_push,Bool.or_eq_true]at j3
     rcases j3 with j3|j3
     .exact hq j e1 p1' j1 j2 j3
     .have hbe:e1.born=e.born:=beq_iff_eq.1 j3
      have hj:j=i:=by
       have l1:(es'.toList.map (·.born))[j]?=some e1.born:=by rw[List.getElem?_map,Array.getElem?_toList,j1];rfl
       have l2:(es'.toList.map (·.born))[i]?=some e.born:=by rw[List.getElem?_map,Array.getElem?_toList,b4];rfl
       rw[hbe]at l1
       exact (List.getElem?_inj (by rw[List.length_map];have:=(Array.getElem?_eq_some_iff.1 j1).1;simpa using this) a6.2).1 (l1.trans l2.symm)
      subst hj
      rw[hpk]at j2
      cases j2
      exact⟨F1,_,ho⟩) (by omega)
    show Code.roundsIn (Wf ρ) 0 P _ _ (n'+1) a3 w3
    refine zcA (fun e a' w' hq=>hq.chain hev ⟨by rw[k5,zM,zM],k6⟩ (fun h=>h)) _ _ _ h2
   .
    subst hres
    simp only[mEnd]at hend
    split at hend
    .rename_i st0 k0 v0 al hH1
     cases hend
     have hp':Post (zq P) K (z8 b) N x F' (H1.set id (.mit 2 .und .und al)) a w M R ex a3 w3:=by
      obtain⟨h1,D,M1,R1,k1,k2,k3,k4,k5,k6⟩:=hp
      exact⟨h1,D,M1,R1,k1.spent al rfl hH1,(hev0.trans f4).trans k2,k3,k4,by rw[k5,zM,zM],k6⟩
     exact zbY (fun h=>h) hxn (fun _ _ h=>h) hp'
    .cases hend
 intro n
 induction n with
 |zero=>intro K w M R a g m clock es' seen;exact step 0 K w M R a g m clock es' seen (fun n' h=>by omega)
 |succ n ih=>intro K w M R a g m clock es' seen;exact step (n+1) K w M R a g m clock es' seen (fun n' h=>by cases h;exact ih)
theorem zfR {N:Nat} {it r ok bk:Nat} {live:List Nat} {b:LC} {code:Code} (h:zJ P N (.mloop it r ok bk live b) code):∃rid ops cb,code= .loop (.seq (.region rid ops false) (.seq (.cond (.tmp ok) .skip (.exit bk)) cb))∧
  zeT it r ok ops=true∧(r<N∧ok<N∧r≠ok∧it∈live∧r∉live∧ok∉live)∧zJ P N b cb:=by
 cases code with
 |loop cl=>cases cl with
  |seq c1 c2=>cases c1 with
   |region rid ops dr=>cases dr with
    |false=>cases c2 with
     |seq c3 cb=>cases c3 with
      |cond co ca cbb=>cases co with
       |tmp ok'=>cases ca with
        |skip=>cases cbb with
         |exit bk'=>
          obtain⟨h1,h2,h3,h4,h5⟩:=h
          subst h2;subst h3
          exact⟨rid,ops,cb,rfl,h1,h4,h5⟩
         |_=>exact (show False from h).elim
        |_=>exact (show False from h).elim
       |_=>exact (show False from h).elim
      |_=>exact (show False from h).elim
     |_=>exact (show False from h).elim
    |true=>exact (show False from h).elim
   |_=>exact (show False from h).elim
  |_=>exact (show False from h).elim
 |_=>exact (show False from h).elim
theorem zaD (hm:P.follows .mixedOrders=true) (hR:zaL P Rr):∀lc,zgZ P Rr lc:=by
 intro lc
 induction lc with
 |any=>
  intro F H x F' H' he N code hs K w M R a ρ hρ hw hE hN
  simp only[evC]at he
  cases he
 |scp b ih=>
  intro F H x F' H' he N code hs K w M R a ρ hρ hw hE hN
  simp only[evC]at he
  cases code<;>simp only[zJ]at hs
  refine zio (ih F H x F' H' he N _ hs K w M R a ρ (fun h=>by have:=hρ h;simpa only[z8]using this) hw hE hN) ?_
  intro l a1 w1 hp
  have:=hp.1
  cases x<;>cases this
 |body b ih=>
  intro F H x F' H' he N code hs K w M R a ρ hρ hw hE hN
  simp only[evC]at he
  cases he
 |dfr t f caps inn r d dc rest ih1 ih2=>
  intro F H x F' H' he N code hs K w M R a ρ hρ hw hE hN
  simp only[evC]at he
  cases he
 |dcl t s f xs inn dc rest ih1 ih2=>
  intro F H x F' H' he N code hs K w M R a ρ hρ hw hE hN
  simp only[evC]at he
  cases he
 |dcnd c b1 b2 ih1 ih2=>
  intro F H x F' H' he N code hs K w M R a ρ hρ hw hE hN
  simp only[evC]at he
  cases he
 |asc b ih=>
  intro F H x F' H' he N code hs K w M R a ρ hρ hw hE hN
  simp only[evC]at he
  cases he
 |mloop it r ok bk live b ih=>
  intro F H x F' H' he N code hs K w M R a ρ hρ hw hE hN
  simp only[evC]at he
  split at he
  .rename_i id hit
   split at he
   .rename_i k0 v0 all hb0
    obtain⟨res,hpick,hend⟩:=Option.bind_eq_some_iff.1 he
    have hid:id<H.length:=(gEs.1 hb0).1
    obtain⟨g,m,es',clock,seen,a1,a2,a3,a4,a5,a6,a7,a8,a9,a10⟩:=hw.heap.blk id _ hb0
    obtain⟨rfl,hM⟩:=a9 rfl
    obtain⟨rid,ops,cb,rfl,s1,s2,s3⟩:=zfR hs
    refine wpIn_loop_rounds ((leftOf es' #[]).size+1) ?_
    have:=zgd (rid:=rid) ih hit hid hpick hend s1 s2 s3 (ρ:=ρ) (fun h=>by have:=hρ h;simpa only[z8]using this) (leftOf es' #[]).size K w M R a g m clock es' #[] (hw.spent all rfl hb0) (hE.sub (za4 F live)) hN a1 hM a3 a4 (fun i e p _ _ h=>by simp at h) (Nat.le_refl _)
    exact this
   .cases he
  .cases he
 |hol ts b ih=>
  intro F H x F' H' he N code hs K w M R a ρ hρ hw hE hN
  simp only[evC]at he
  exact ih F _ x F' H' he N code hs K w M R a ρ (fun h=>by have:=hρ h;simpa only[z8]using this) (hw.addHoles ts) hE hN
 |skip=>
  intro F H x F' H' he N code hs K w M R a ρ hρ hw hE hN
  simp only[evC,Option.some.injEq,Prod.mk.injEq]at he
  obtain⟨rfl,rfl,rfl⟩:=he
  cases code<;>simp only[zJ]at hs
  .exact wpIn_skip (Post.here hw hE hN)
  .exact wpIn_label (Post.here hw hE hN)
 |ret=>
  intro F H x F' H' he N code hs K w M R a ρ hρ hw hE hN
  simp only[evC,Option.some.injEq,Prod.mk.injEq]at he
  obtain⟨rfl,rfl,rfl⟩:=he
  cases code<;>simp only[zJ]at hs
  exact wpIn_ret (Post.here hw hE hN)
 |exit i=>
  intro F H x F' H' he N code hs K w M R a ρ hρ hw hE hN
  simp only[evC,Option.some.injEq,Prod.mk.injEq]at he
  obtain⟨rfl,rfl,rfl⟩:=he
  cases code<;>simp only[zJ]at hs
  subst hs
  exact wpIn_exit (Post.here hw hE hN)
 |reg d inn out l=>
  intro F H x F' H' he N code hs K w M R a ρ hρ hw hE hN
  simp only[evC]at he
  cases hev:zaY Rr l (F.keep inn) H with
  |none=>simp[hev]at he
  |some p=>
   obtain⟨F2,H2⟩:=p
   simp only[hev,Option.map_some,Option.some.injEq,Prod.mk.injEq]at he
   obtain⟨rfl,rfl,rfl⟩:=he
   cases code<;>simp only[zJ]at hs
   rename_i id ops d'
   obtain⟨rfl,h1,h2,h3⟩:=hs
   simp only[zk6,Bool.and_eq_true]at h2
   obtain⟨⟨c1,c2⟩,c3⟩:=h2
   obtain⟨E',f1,f2,_,_⟩:=zlJ Rr l none (F.keep inn) F.get H F2 H2 c1 (zbz l) (fun j hj=>hj) (by simpa using c2) (fun j hj=>by
    rw[zbK,if_neg]
    intro hmem
    have:=List.all_eq_true.1 c3 j hmem
    simp at this
    exact this hj) (za4 F inn) rfl (by simp) hev
   refine zfX (ρ:=ρ) (n:=0) hR.call hR.pure hm h1 h3 f1 hw hE hN ?_
   intro w' M' R' a' k1 k2 k3 k4 k5
   exact⟨rfl,[],M',R',k1,k2,k3.sub (f2.trans_keep out),by rw[k4,hN],by simpa using k5,fun _=>rfl⟩
 |seq x y ihx ihy=>
  intro F H x' F' H' he N code hs K w M R a ρ hρ hw hE hN
  simp only[evC]at he
  cases hev:evC Rr x F H with
  |none=>simp[hev]at he
  |some p=>
   obtain⟨x1,F1,H1⟩:=p
   simp only[hev,Option.bind_some]at he
   cases code<;>simp only[zJ]at hs
   rename_i cx cy
   have hρ1:ρ≠none→z8 x=true:=fun h=>by have:=hρ h;simp only[z8,Bool.and_eq_true]at this;exact this.1
   have hρ2:ρ≠none→z8 y=true:=fun h=>by have:=hρ h;simp only[z8,Bool.and_eq_true]at this;exact this.2
   have h1:=ihx F H x1 F1 H1 hev N cx hs.1 K w M R a ρ hρ1 hw hE hN
   refine wpIn_seq (wpIn_mono h1 ?_)
   intro e a1 w1 hp
   cases x1 with
   |normal=>
    obtain⟨rfl,D,M1,R1,k1,k2,k3,k4,k5⟩:=hp
    simp only at he
    have h2:=ihy F1 H1 x' F' H' he N cy hs.2 _ w1 M1 R1 a1 ρ hρ2 k1 k3 k4
    exact wpIn_mono h2 (fun e a' w' hq=>hq.chain k2 ⟨k5.1,fun h=>k5.2 (by simp only[z8,Bool.and_eq_true]at h;exact h.1)⟩ (fun h=>by simp only[z8,Bool.and_eq_true]at h;exact h.2))
   |ret=>
    simp only[Option.some.injEq,Prod.mk.injEq]at he
    obtain⟨rfl,rfl,rfl⟩:=he
    exact zbY (fun h=>by simp only[z8,Bool.and_eq_true]at h;exact h.1) (by simp) (fun _ _ h=>h) hp
   |exit i=>
    simp only[Option.some.injEq,Prod.mk.injEq]at he
    obtain⟨rfl,rfl,rfl⟩:=he
    exact zbY (fun h=>by simp only[z8,Bool.and_eq_true]at h;exact h.1) (by simp) (fun _ _ h=>h) hp
 |cond c x y ihx ihy=>
  intro F H x' F' H' he N code hs K w M R a ρ hρ hw hE hN
  simp only[evC]at he
  cases code<;>simp only[zJ]at hs
  rename_i c' cx cy
  have hρ1:ρ≠none→z8 x=true:=fun h=>by have:=hρ h;simp only[z8,Bool.and_eq_true]at this;exact this.1
  have hρ2:ρ≠none→z8 y=true:=fun h=>by have:=hρ h;simp only[z8,Bool.and_eq_true]at this;exact this.2
  split at he
  .rename_i t ht
   have hc:=VR.src hw.glob hE hs.1
   rw[ht]at hc
   have hcv:a.eval c'= .bool t:=by cases hq:a.eval c'<;>rw[hq]at hc<;>cases hc;rfl
   refine wpIn_cond hcv ?_
   cases t with
   |true=>simp only[if_true]at he⊢;exact wpIn_mono (ihx F H x' F' H' he N cx hs.2.1 K w M R a ρ hρ1 hw hE hN) (fun e a' w' h=>h.weak (fun h=>by simp only[z8,Bool.and_eq_true]at h;exact h.1))
   |false=>simp only[Bool.false_eq_true,if_false]at he⊢;exact wpIn_mono (ihy F H x' F' H' he N cy hs.2.2 K w M R a ρ hρ2 hw hE hN) (fun e a' w' h=>h.weak (fun h=>by simp only[z8,Bool.and_eq_true]at h;exact h.2))
  .cases he
 |block id live b ih=>
  intro F H x' F' H' he N code hs K w M R a ρ hρ hw hE hN
  simp only[evC]at he
  cases hev:evC Rr b F H with
  |none=>simp[hev]at he
  |some p=>
   obtain⟨x1,F1,H1⟩:=p
   simp only[hev,Option.map_some,Option.some.injEq]at he
   cases code<;>simp only[zJ]at hs
   rename_i id' cb
   obtain⟨rfl,hs⟩:=hs
   have h1:=ih F H x1 F1 H1 hev N cb hs K w M R a ρ (fun h=>by have:=hρ h;simpa only[z8]using this) hw hE hN
   refine wpIn_block (wpIn_mono h1 ?_)
   intro e a1 w1 hp
   obtain⟨rfl,D,M1,R1,k1,k2,k3,k4,k5⟩:=hp
   cases x1 with
   |normal=>
    simp only[Prod.mk.injEq]at he
    obtain⟨rfl,rfl,rfl⟩:=he
    exact⟨rfl,D,M1,R1,k1,k2,k3.sub (za4 F1 live),k4,k5⟩
   |ret=>
    simp only[Prod.mk.injEq]at he
    obtain⟨rfl,rfl,rfl⟩:=he
    exact⟨rfl,D,M1,R1,k1,k2,k3,k4,k5⟩
   |exit i=>
    simp only at he
    show (if i=id then _ else _)
    by_cases hi:i=id
    .rw[if_pos hi]at he⊢
     simp only[Prod.mk.injEq]at he
     obtain⟨rfl,rfl,rfl⟩:=he
     exact⟨rfl,D,M1,R1,k1,k2,k3.sub (za4 F1 live),k4,k5⟩
    .rw[if_neg hi]at he⊢
     simp only[Prod.mk.injEq]at he
     obtain⟨rfl,rfl,rfl⟩:=he
     exact⟨rfl,D,M1,R1,k1,k2,k3,k4,k5⟩
 |loop live b ih=>
  intro F H x' F' H' he N code hs K w M R a ρ hρ hw hE hN
  simp only[evC]at he
  cases code<;>simp only[zJ]at hs
  rename_i cb
  obtain⟨m,hl⟩:=hR.loop
  exact wpIn_loop_rounds m (hl live b F H x' F' H' he N cb hs K w M R a ρ (fun h=>by have:=hρ h;simpa only[z8]using this) hw hE hN)
 |rng f ps inn ac bd ih1 ih2=>
  intro F H x' F' H' he N code hs K w M R a ρ hρ hw hE hN
  have hρ0:ρ=none:=by
   cases ρ with
   |none=>rfl
   |some l=>have:=hρ (by simp);simp[z8]at this
  subst hρ0
  simp only[evC]at he
  split at he
  .rename_i g fs cs hf
   cases hc:Rr.call (.clo g fs cs) [.yld H.length] (H++[.loop .ready none (F.keep inn) ps ac bd]) with
   |none=>simp[hc]at he
   |some p=>
    obtain⟨res,H2⟩:=p
    simp only[hc,Option.bind_some]at he
    cases code<;>simp only[zJ]at hs
    rename_i f' ps' ac' bd'
    obtain⟨s1,rfl,s3,s4,s5,s6,s7⟩:=hs
    refine wpIn_rangeFunc ?_
    intro fn _
    have hfv:=VR.src hw.glob hE s1
    rw[hf]at hfv
    obtain⟨d1,d2⟩:=hw.newMark
    let rec0:Loop:={state:= .ready,pending:=none,fn:=fn,tmps:=a.tmps,params:=ps.toArray,assign:=ac',body:=bd',defers:=w.heap.size}
    let w1:=(w.alloc (.deferred (some []))).alloc (.loop rec0)
    let gl:Own:=⟨0,(w.alloc (.deferred (some []))).heap.size,0,0⟩
    have hsz1:(w.alloc (.deferred (some []))).heap.size=w.heap.size+1:=by
     show (w.heap.push _).size=_
     simp
    have hev0:=zcV d1 (.loop rec0) gl
    obtain⟨n1,n2⟩:=d1.newBlk (.loop rec0) (.loop .ready none (F.keep inn) ps ac bd) gl rfl rfl
     ⟨gl,rec0,by simp[zB],fun v hv=>by unfold zB;rw[if_pos rfl,if_neg (by omega)],zA _ _,rfl,trivial,rfl,by rw[show rec0.tmps.size=N from hN];exact⟨s6,s4⟩,by rw[show rec0.tmps.size=N from hN];exact⟨s7,s5⟩,
      fun i=>((hE.evol d2).evol hev0).sub (za4 F inn) i,fun i hi=>by
       have:=List.all_eq_true.1 s3 i hi
       have h2:rec0.tmps.size=N:=hN
       rw[h2];simpa using this⟩
    have hcv:=hR.call _ _ _ _ _ hc _ w1 _ _ (a.eval f') [.func (.yield gl.blk) #[] #[]] n1 ((hfv.evol d2).evol n2) (VRs.cons (.yld _ _ gl (by simp[zB])) VRs.nil)
    rcases hcv with⟨f0,fs0,cs0,e1,e2,e3⟩|⟨l,fn',tmps,ac0,bd0,e1,_,_⟩
    .refine⟨gl.blk,[zea w.heap.size],w1,({target:= .fn (.func f0) cs0,args:=fs0++#[.func (.yield gl.blk) #[] #[]]}:Deferred),w1,f0,fs0++#[.func (.yield gl.blk) #[] #[]]++cs0,w1,?_,?_,fun _ _=>trivial,?_,(fun hh=>by cases hh),?_⟩
     .rw[show gl.blk=w.heap.size+1 from hsz1]
      exact run_enterLoop_outer fn a.tmps ps.toArray ac' bd'
     .unfold resolve rangeCall
      have hmm:Array.map a.eval #[Operand.const (Value.func (Fn.yield gl.blk) #[] #[])]=#[Value.func (.yield gl.blk) #[] #[]]:=by simp[Act.eval]
      simp only[e1,Deferred.ofValue]
      rw[hmm]
      rfl
     .exact e2 _ w1
     .refine CallsIn.mono (n:=0 - 1) e3 ?_
      rintro e w2 ⟨u,rfl,M2,R2,k1,k2,k3⟩
      split at he
      .rename_i st pend Fl pl al bl hb
       obtain⟨g2,r2,b1,b2,b3,b4,b5,b6,b7,b8,b9,b10⟩:=k1.heap.blk _ _ hb
       have hgl:R2 H.length 0=some gl:=k2.own _ _ _ (by simp[zB])
       rw[hgl]at b1;cases b1
       have hst:st≠.busy:=by
        intro h;subst h;simp at he
       have hend:=run_endLoop (P:=P) b3 (by rw[b4];exact hst)
       obtain⟨q1,q2⟩:=k1.putLoop (st':= .exhausted) (pend':=pend) (r':={r2 with state:= .exhausted}) hb hgl b3 rfl b5 rfl rfl rfl rfl
       have henv:EnvR (w2.putObj gl.blk (.loop {r2 with state:= .exhausted})) M2 R2 (F.keep inn).get {a with defers:=[zea w.heap.size]++a.defers}:=by
        intro i
        exact (((((hE.evol d2).evol n2).evol k2).evol q2).sub (za4 F inn)) i
       have hevs:Evol R M w R2 M2 (w2.putObj gl.blk (.loop {r2 with state:= .exhausted})):=((d2.trans n2).trans k2).trans q2
       refine⟨r2.pending,_,hend,?_⟩
       have he2:(match pend with|none=>LX.normal|some x=>x)=x'∧F.keep inn=F'∧H2.set H.length (.loop .exhausted pend Fl pl al bl)=H':=by
        cases st
        case busy=>exact absurd rfl hst
        all_goals (simp only[Option.some.injEq,Prod.mk.injEq]at he;cases pend<;>exact he)
       obtain⟨h1,rfl,rfl⟩:=he2
       have hpost:Post (zq P) K false N x' (F.keep inn) (H2.set H.length (.loop .exhausted pend Fl pl al bl)) a w M R (zfO x') {a with defers:=[zea w.heap.size]++a.defers} (w2.putObj gl.blk (.loop {r2 with state:= .exhausted})):=
        ⟨rfl,[w.heap.size],M2,R2,q1,hevs,henv,hN,rfl,fun h=>by cases h⟩
       cases pend with
       |none=>
        simp only at h1
        subst h1
        cases hp:r2.pending with
        |none=>rw[hp]at hpost;exact hpost
        |some c=>rw[hp]at b5;exact b5.elim
       |some x0=>
        simp only at h1
        subst h1
        cases hp:r2.pending with
        |none=>rw[hp]at b5;cases x0<;>exact b5.elim
        |some c=>
         rw[hp]at b5 hpost
         simp only
         cases x0 with
         |normal=>exact b5.elim
         |ret=>
          have hc:c= .ret:=b5
          subst hc
          exact wpIn_ret hpost
         |exit i=>
          have hc:c= .exit i:=b5
          subst hc
          exact wpIn_exit hpost
      .cases he
    .exfalso
     rw[e1]at hfv
     cases hfv
  .cases he
theorem ziL (hm:P.follows .mixedOrders=true) {R0:Rec} (hR:zaL P R0) {m:Nat} (hl:zep P R0 m) {R1:Rec}
  (h:∀live b F H,R1.loop live b F H=match evC R0 b (F.keep live) H with|some (.normal,F1,H1)=>R0.loop live b F1 H1|r=>r):zep P R1 (m+1):=by
 intro live b F H x F' H' he N code hs K w M R a ρ hρ hw hE hN
 rw[h]at he
 rw[roundsIn_succ]
 cases hev:evC R0 b (F.keep live) H with
 |none=>simp[hev]at he
 |some p=>
  obtain⟨x1,F1,H1⟩:=p
  rw[hev]at he
  have h1:=zaD hm hR b _ H x1 F1 H1 hev N code hs K w M R a ρ hρ hw (hE.sub (za4 F live)) hN
  refine wpIn_mono h1 ?_
  intro e a1 w1 hp
  cases x1 with
  |normal=>
   obtain⟨rfl,D,M1,R1',k1,k2,k3,k4,k5⟩:=hp
   simp only at he
   have h2:=hl live b F1 H1 x F' H' he N code hs _ w1 M1 R1' a1 ρ hρ k1 k3 k4
   exact zcA (fun e a' w' hq=>hq.chain k2 k5 id) m _ _ h2
  |ret=>
   simp only[Option.some.injEq,Prod.mk.injEq]at he
   obtain⟨rfl,rfl,rfl⟩:=he
   exact zbY id (by simp) (fun _ _ h=>h) hp
  |exit i=>
   simp only[Option.some.injEq,Prod.mk.injEq]at he
   obtain⟨rfl,rfl,rfl⟩:=he
   exact zbY id (by simp) (fun _ _ h=>h) hp
end run
end Go.Proofs.YtgamobngbenehaaGreatDoor
