/-
  The calls, to any depth: the limit of the depths, its equations, and what it says of the program (conditions: that the light functions stand for the program's is a hypothesis).
-/
import Derived.Test.YtgamobngbenehaaGreatDoorCallsp
namespace Go.Proofs.YtgamobngbenehaaGreatDoor
open Go Go.RowKit
set_option linter.unusedVariables false
set_option linter.unusedSimpArgs false
structure Rec.le (A B:Rec):Prop where
 call:∀v a H r,A.call v a H=some r→B.call v a H=some r
 pure:∀f a r,A.pure f a=some r→B.pure f a=some r
 loop:∀l b F H r,A.loop l b F H=some r→B.loop l b F H=some r
structure Lim (S:Nat→Rec) (L:Rec):Prop where
 chain:∀n,(S n).le (S (n+1))
 call:∀v a H r,L.call v a H=some r→∃n,(S n).call v a H=some r
 pure:∀f a r,L.pure f a=some r→∃n,(S n).pure f a=some r
 loop:∀l b F H r,L.loop l b F H=some r→∃n,(S n).loop l b F H=some r
theorem Rec.le.refl (A:Rec):A.le A:=⟨fun _ _ _ _ h=>h,fun _ _ _ h=>h,fun _ _ _ _ _ h=>h⟩
theorem Rec.le.trans {A B C:Rec} (h:A.le B) (h':B.le C):A.le C:=⟨fun _ _ _ _ k=>h'.call _ _ _ _ (h.call _ _ _ _ k),fun _ _ _ k=>h'.pure _ _ _ (h.pure _ _ _ k),fun _ _ _ _ _ k=>h'.loop _ _ _ _ _ (h.loop _ _ _ _ _ k)⟩
theorem Lim.le {S:Nat→Rec} {L:Rec} (h:Lim S L) (n k:Nat):(S n).le (S (n+k)):=by
 induction k with
 |zero=>exact Rec.le.refl _
 |succ k ih=>exact ih.trans (h.chain _)
structure Good {α:Type} (g:Rec→Option α):Prop where
 mono:∀A B:Rec,A.le B→∀r,g A=some r→g B=some r
 cont:∀(S:Nat→Rec) (L:Rec),Lim S L→∀r,g L=some r→∃n,g (S n)=some r
theorem Good.const {α:Type} (x:Option α):Good fun _=>x:=⟨fun _ _ _ _ h=>h,fun _ _ _ _ h=>⟨0,h⟩⟩
theorem Good.call (v:AV) (a:List AV) (H:Heap):Good fun R=>R.call v a H:=⟨fun _ _ h _ k=>h.call _ _ _ _ k,fun _ _ h _ k=>h.call _ _ _ _ k⟩
theorem Good.pure (f:FuncId) (a:List AV):Good fun R=>R.pure f a:=⟨fun _ _ h _ k=>h.pure _ _ _ k,fun _ _ h _ k=>h.pure _ _ _ k⟩
theorem Good.loop (l:List Nat) (b:LC) (F:Fr) (H:Heap):Good fun R=>R.loop l b F H:=⟨fun _ _ h _ k=>h.loop _ _ _ _ _ k,fun _ _ h _ k=>h.loop _ _ _ _ _ k⟩
theorem Good.bind {α β:Type} {g:Rec→Option α} {h:α→Rec→Option β} (hg:Good g) (hh:∀x,Good (h x)):Good fun R=>(g R).bind fun x=>h x R:=by
 refine⟨fun A B hab r hr=>?_,fun S L hl r hr=>?_⟩
 .obtain⟨x,h1,h2⟩:=Option.bind_eq_some_iff.1 hr
  exact Option.bind_eq_some_iff.2 ⟨x,hg.mono A B hab x h1,(hh x).mono A B hab r h2⟩
 .obtain⟨x,h1,h2⟩:=Option.bind_eq_some_iff.1 hr
  obtain⟨n,k1⟩:=hg.cont S L hl x h1
  obtain⟨m,k2⟩:=(hh x).cont S L hl r h2
  refine⟨n+m,Option.bind_eq_some_iff.2 ⟨x,hg.mono _ _ (hl.le n m) x k1,(hh x).mono _ _ ?_ r k2⟩⟩
  rw[Nat.add_comm];exact hl.le m n
theorem Good.map {α β:Type} {g:Rec→Option α} {h:α→β} (hg:Good g):Good fun R=>(g R).map h:=by
 refine⟨fun A B hab r hr=>?_,fun S L hl r hr=>?_⟩
 .obtain⟨x,h1,h2⟩:=Option.map_eq_some_iff.1 hr
  exact Option.map_eq_some_iff.2 ⟨x,hg.mono A B hab x h1,h2⟩
 .obtain⟨x,h1,h2⟩:=Option.map_eq_some_iff.1 hr
  obtain⟨n,k1⟩:=hg.cont S L hl x h1
  exact⟨n,Option.map_eq_some_iff.2 ⟨x,k1,h2⟩⟩
theorem zks (H:Heap) (k:OpK) (vs:List AV):Good fun R=>exec R H k vs:=by
 cases k with
 |call f=>exact Good.call _ _ _
 |pcall f=>exact (Good.pure _ _).map
 |fcall f=>exact (Good.const _).bind fun as'=>(Good.pure f as').bind fun v=>Good.const _
 |pubcall f=>
  simp only[exec]
  by_cases h:(zbW H vs).1.all AV.flat=true
  .simp only[if_pos h];exact (Good.pure _ _).map
  .simp only[if_neg h];exact Good.const _
 |callv=>cases vs with
  |nil=>exact Good.const _
  |cons f args=>exact Good.call _ _ _
 |callA f n=>exact (Good.call _ _ _).bind fun p=>Good.const _
 |_=>exact Good.const _
mutual
theorem zoG:∀(i:SI) (F:Fr) (H:Heap),Good fun R=>evSI R i F H
 | .op d k xs,F,H=>by
  simp only[evSI]
  cases vals F.get xs with
  |none=>exact Good.const _
  |some vs=>exact (zks H k vs).map
 | .sel d c bt a bf b,F,H=>by
  simp only[evSI]
  generalize F.get c=x
  cases x with
  |bool t=>
   cases t with
   |true=>exact ((zdN bt F H).bind fun p=>Good.const _).map
   |false=>exact ((zdN bf F H).bind fun p=>Good.const _).map
  |_=>exact Good.const _
theorem zdN:∀(l:List SI) (F:Fr) (H:Heap),Good fun R=>zaY R l F H
 | [],F,H=>by simp only[zaY];exact Good.const _
 |i::r,F,H=>by
  simp only[zaY]
  exact (zoG i F H).bind fun p=>zdN r p.1 p.2
end
theorem zgv (Hof:AV×AV→Heap) (Fk:List AV) (live:List Nat) {g:Rec→AV×AV→Option (LX×Fr×Heap)} (hg:∀e,Good fun R=>g R e):∀l:List (AV×AV),Good fun R=>zdc Hof Fk live (l.map fun e=>(e,g R e))
 | []=>Good.const _
 |e::r=>by
  have ih:=zgv Hof Fk live hg r
  have h:=(hg e).bind (h:=fun q R=>(zdc Hof Fk live (r.map fun e=>(e,g R e))).bind fun rest=>match q.1 with
   | .normal=>if AV.beqs (live.map q.2.1.get) Fk&&beqH (q.2.2.take (Hof e).length) (Hof e) then some rest else none
   |x=>match rest with|none=>some (some (x,q.2.1,q.2.2))|some _=>none) (fun q=>ih.bind fun rest=>Good.const _)
  have e1:(fun R=>zdc Hof Fk live ((e::r).map fun e=>(e,g R e)))=fun R=>(g R e).bind fun q=>(zdc Hof Fk live (r.map fun e=>(e,g R e))).bind fun rest=>match q.1 with
   | .normal=>if AV.beqs (live.map q.2.1.get) Fk&&beqH (q.2.2.take (Hof e).length) (Hof e) then some rest else none
   |x=>match rest with|none=>some (some (x,q.2.1,q.2.2))|some _=>none:=by
   funext R
   simp only[List.map_cons,zdc]
   cases g R e with
   |none=>rfl
   |some q=>
    obtain⟨x,F1,H1⟩:=q
    cases zdc Hof Fk live (r.map fun e=>(e,g R e)) with
    |none=>rfl
    |some rest=>cases x<;>rfl
  rw[e1];exact h
theorem zdo:∀(c:LC) (F:Fr) (H:Heap),Good fun R=>evC R c F H:=by
 intro c
 induction c with
 |skip=>intro F H;exact Good.const _
 |ret=>intro F H;exact Good.const _
 |any=>intro F H;exact Good.const _
 |hol ts b ih=>intro F H;simp only[evC];exact ih F _
 |exit i=>intro F H;exact Good.const _
 |reg d inn out l=>intro F H;simp only[evC];exact (zdN l _ H).map
 |seq a b iha ihb=>
  intro F H
  simp only[evC]
  refine (iha F H).bind fun p=>?_
  obtain⟨x,F1,H1⟩:=p
  cases x with
  |normal=>exact ihb F1 H1
  |_=>exact Good.const _
 |cond c a b iha ihb=>
  intro F H
  simp only[evC]
  generalize evS F.get c=x
  cases x with
  |bool t=>cases t with
   |true=>exact iha F H
   |false=>exact ihb F H
  |_=>exact Good.const _
 |block id live b ih=>intro F H;simp only[evC];exact (ih F H).map
 |loop live b ih=>intro F H;simp only[evC];exact Good.loop _ _ _ _
 |body b ih=>intro F H;exact Good.const _
 |scp b ih=>intro F H;simp only[evC];exact ih F H
 |dfr t f caps inn r d dc rest ih1 ih2=>intro F H;exact Good.const _
 |dcl t s f xs inn dc rest ih1 ih2=>intro F H;exact Good.const _
 |dcnd c a b ih1 ih2=>intro F H;exact Good.const _
 |asc a ih=>intro F H;exact Good.const _
 |mloop it r ok bk live b ih=>
  intro F H
  simp only[evC]
  generalize F.get it=x
  cases x with
  |oit id=>
   simp only
   generalize hB:H[id]?=B
   split
   .rename_i k0 v0 all
    exact (zgv _ _ _ (g:=fun R e=>evC R b (F.keep live) (H.set id (.mit 1 e.1 e.2 all))) (fun e=>ih _ _) all).bind fun p=>Good.const _
   .exact Good.const _
  |_=>exact Good.const _
 |rng f ps inn ac bd iha ihb=>
  intro F H
  simp only[evC]
  generalize evS F.get f=x
  cases x with
  |clo g fs cs=>exact (Good.call _ _ _).bind fun p=>Good.const _
  |_=>exact Good.const _
theorem zmo (fi:FI) (args:List AV) (H:Heap):Good fun R=>zi R fi args H:=by
 unfold zi
 by_cases h:args.length=fi.np
 .simp only[if_pos h]
  refine (zdo _ _ _).bind fun p=>?_
  obtain⟨x,F1,H1⟩:=p
  cases x<;>exact Good.const _
 .simp only[if_neg h];exact Good.const _
theorem zqG {ρ:Type}:∀(c:LC) (F:Fr) (H:Heap) (k:Rec→LX→Fr→Heap→Option ρ),(∀x F H,Good fun R=>k R x F H)→Good fun R=>evB R c F H (k R):=by
 intro c
 induction c with
 |seq a b iha ihb=>
  intro F H k hk
  simp only[evB]
  refine (zdo a F H).bind (h:=fun p R=>match p.1 with| .normal=>evB R b p.2.1 p.2.2 (k R)|x=>k R x p.2.1 p.2.2) fun p=>?_
  obtain⟨x,F1,H1⟩:=p
  cases x with
  |normal=>exact ihb F1 H1 k hk
  |ret=>exact hk _ _ _
  |exit i=>exact hk _ _ _
 |dfr t f caps inn r d dc rest ih1 ih2=>
  intro F H k hk
  simp only[evB]
  cases vals F.get (caps.map .t) with
  |none=>exact Good.const _
  |some vs=>
   refine ih2 _ H (fun R x F2 H2=>match x with
    | .exit _=>none
    |x=>(evC R dc ((d,.nili)::(r,.nili)::ze vs) H2).bind fun p=>match p.1 with| .exit _=>none|_=>k R x F2 p.2.2) ?_
   intro x F2 H2
   have key:∀y:LX,Good fun R=>(evC R dc ((d,.nili)::(r,.nili)::ze vs) H2).bind fun p=>match p.1 with| .exit _=>none|_=>k R y F2 p.2.2:=by
    intro y
    refine (zdo dc _ H2).bind (h:=fun p R=>match p.1 with| .exit _=>none|_=>k R y F2 p.2.2) fun p=>?_
    obtain⟨z,F3,H3⟩:=p
    cases z with
    |exit i=>exact Good.const _
    |normal=>exact hk _ _ _
    |ret=>exact hk _ _ _
   cases x with
   |exit i=>exact Good.const _
   |normal=>exact key .normal
   |ret=>exact key .ret
 |dcl t s f xs inn dc rest ih1 ih2=>
  intro F H k hk
  simp only[evB]
  cases vals (Fr.get ((t,F.get s)::F)) xs with
  |none=>exact Good.const _
  |some vs=>
   refine ih2 _ H (fun R x F2 H2=>match x with
    | .exit _=>none
    |x=>(evC R dc (ze vs) H2).bind fun p=>match p.1 with| .exit _=>none|_=>k R x F2 p.2.2) ?_
   intro x F2 H2
   have key:∀y:LX,Good fun R=>(evC R dc (ze vs) H2).bind fun p=>match p.1 with| .exit _=>none|_=>k R y F2 p.2.2:=by
    intro y
    refine (zdo dc _ H2).bind (h:=fun p R=>match p.1 with| .exit _=>none|_=>k R y F2 p.2.2) fun p=>?_
    obtain⟨z,F3,H3⟩:=p
    cases z with
    |exit i=>exact Good.const _
    |normal=>exact hk _ _ _
    |ret=>exact hk _ _ _
   cases x with
   |exit i=>exact Good.const _
   |normal=>exact key .normal
   |ret=>exact key .ret
 |dcnd c a b ih1 ih2=>
  intro F H k hk
  simp only[evB]
  cases evS F.get c with
  |bool t=>
   cases t with
   |true=>exact ih1 F H k hk
   |false=>exact ih2 F H k hk
  |_=>exact Good.const _
 |asc a ih=>
  intro F H k hk
  simp only[evB]
  exact ih F H k hk
 |_=>
  intro F H k hk
  exact (zdo _ F H).bind (h:=fun p R=>k R p.1 p.2.1 p.2.2) fun p=>hk _ _ _
theorem zgu (fi:FI) (args:List AV) (H:Heap):Good fun R=>runF R fi args H:=by
 unfold runF
 cases fi.bod with
 |none=>exact zmo _ _ _
 |some b=>
  simp only
  unfold zeZ
  by_cases h:args.length=fi.np
  .simp only[if_pos h]
   refine zqG b _ H (fun R x F H=>match x with| .exit _=>none|_=>(resV F H fi.res).map fun v=>(v,H)) fun x F H=>?_
   cases x<;>exact Good.const _
  .simp only[if_neg h];exact Good.const _
theorem ziQ (id:Nat) (args:List AV) (H:Heap):Good fun R=>zcb R id args H:=by
 unfold zcb
 split
 .rename_i pend F ps ac bd hb
  by_cases h:args.length=ps.length
  .simp only[if_pos h]
   refine (zdo _ _ _).bind fun p=>?_
   obtain⟨x,F1,H1⟩:=p
   cases x with
   |normal=>
    simp only
    split
    .exact (zdo _ _ _).bind fun q=>Good.const _
    .exact Good.const _
   |_=>exact Good.const _
  .simp only[if_neg h];exact Good.const _
 .exact Good.const _
theorem zci (Φ:FuncId→Option FI) (v:AV) (args:List AV) (H:Heap):Good fun R=>zdB R Φ v args H:=by
 unfold zdB
 cases v with
 |clo f fs cs=>
  simp only
  cases Φ f with
  |none=>exact Good.const _
  |some fi=>exact zgu _ _ _
 |yld id=>exact ziQ _ _ _
 |_=>exact Good.const _
theorem zbb (Φ:FuncId→Option FI) (f:FuncId) (args:List AV):Good fun R=>zcL R Φ f args:=by
 unfold zcL
 by_cases h:args.all AV.flat=true
 .simp only[if_pos h]
  cases Φ f with
  |none=>exact Good.const _
  |some fi=>exact (zgu _ _ _).bind fun p=>Good.const _
 .simp only[if_neg h];exact Good.const _
theorem zch (live:List Nat) (b:LC) (F:Fr) (H:Heap):Good fun R=>zgf R live b F H:=by
 have:=(zdo b (F.keep live) H).bind (h:=fun p R=>match p with|(.normal,F1,H1)=>R.loop live b F1 H1|r=>some r) (fun p=>by
  obtain⟨x,F1,H1⟩:=p
  cases x with
  |normal=>exact Good.loop _ _ _ _
  |_=>exact Good.const _)
 have e:(fun R=>zgf R live b F H)=fun R=>(evC R b (F.keep live) H).bind fun p=>match p with|(.normal,F1,H1)=>R.loop live b F1 H1|r=>some r:=by
  funext R
  unfold zgf
  cases evC R b (F.keep live) H with
  |none=>rfl
  |some p=>obtain⟨x,F1,H1⟩:=p;cases x<;>rfl
 rw[e];exact this
theorem zaU (Φ:FuncId→Option FI):∀n,(zbj Φ n).le (zbj Φ (n+1))
 |0=>⟨fun v a H r h=>by simp[zbj]at h,fun f a r h=>by simp[zbj]at h,fun l b F H r h=>by simp[zbj]at h⟩
 |n+1=>⟨fun v a H r h=>(zci Φ v a H).mono _ _ (zaU Φ n) r h,fun f a r h=>(zbb Φ f a).mono _ _ (zaU Φ n) r h,fun l b F H r h=>(zch l b F H).mono _ _ (zaU Φ n) r h⟩
open Classical in
noncomputable def lim {α:Type} (f:Nat→Option α):Option α:=if h:∃n r,f n=some r then some h.choose_spec.choose else none
theorem zde {α:Type} {f:Nat→Option α} (hf:∀n r,f n=some r→f (n+1)=some r) (r:α):lim f=some r↔∃n,f n=some r:=by
 have up:∀k n r,f n=some r→f (n+k)=some r:=by
  intro k
  induction k with
  |zero=>intro n r h;exact h
  |succ k ih=>intro n r h;exact hf _ _ (ih n r h)
 unfold lim
 by_cases h:∃n r,f n=some r
 .rw[dif_pos h]
  have h1:=h.choose_spec.choose_spec
  constructor
  .intro e
   cases e
   exact⟨_,h1⟩
  .rintro⟨n,hn⟩
   have a:=up n _ _ h1
   have b:=up h.choose n r hn
   rw[Nat.add_comm]at b
   rw[a]at b
   exact b
 .rw[dif_neg h]
  constructor
  .intro e;cases e
  .rintro⟨n,hn⟩;exact absurd ⟨n,r,hn⟩ h
noncomputable def om (Φ:FuncId→Option FI):Rec:=⟨fun v a H=>lim fun n=>(zbj Φ n).call v a H,fun f a=>lim fun n=>(zbj Φ n).pure f a,fun l b F H=>lim fun n=>(zbj Φ n).loop l b F H⟩
section om
variable {Φ:FuncId→Option FI}
theorem zd9:Lim (zbj Φ) (om Φ):=⟨zaU Φ,fun v a H r h=>(zde (fun n r h=>(zaU Φ n).call _ _ _ _ h) r).1 h,fun f a r h=>(zde (fun n r h=>(zaU Φ n).pure _ _ _ h) r).1 h,fun l b F H r h=>(zde (fun n r h=>(zaU Φ n).loop _ _ _ _ _ h) r).1 h⟩
theorem zah (n:Nat):(zbj Φ n).le (om Φ):=⟨fun v a H r h=>(zde (fun n r h=>(zaU Φ n).call _ _ _ _ h) r).2 ⟨n,h⟩,fun f a r h=>(zde (fun n r h=>(zaU Φ n).pure _ _ _ h) r).2 ⟨n,h⟩,fun l b F H r h=>(zde (fun n r h=>(zaU Φ n).loop _ _ _ _ _ h) r).2 ⟨n,h⟩⟩
theorem zb6 (v:AV) (a:List AV) (H:Heap):(om Φ).call v a H=zdB (om Φ) Φ v a H:=by
 apply Option.ext
 intro r
 constructor
 .intro h
  obtain⟨n,hn⟩:=zd9.call _ _ _ _ h
  cases n with
  |zero=>simp[zbj]at hn
  |succ n=>exact (zci Φ v a H).mono _ _ (zah n) r hn
 .intro h
  obtain⟨n,hn⟩:=(zci Φ v a H).cont _ _ zd9 r h
  exact (zah (n+1)).call _ _ _ _ hn
theorem zdb (f:FuncId) (a:List AV):(om Φ).pure f a=zcL (om Φ) Φ f a:=by
 apply Option.ext
 intro r
 constructor
 .intro h
  obtain⟨n,hn⟩:=zd9.pure _ _ _ h
  cases n with
  |zero=>simp[zbj]at hn
  |succ n=>exact (zbb Φ f a).mono _ _ (zah n) r hn
 .intro h
  obtain⟨n,hn⟩:=(zbb Φ f a).cont _ _ zd9 r h
  exact (zah (n+1)).pure _ _ _ hn
theorem zfm (l:List Nat) (b:LC) (F:Fr) (H:Heap):(om Φ).loop l b F H=zgf (om Φ) l b F H:=by
 apply Option.ext
 intro r
 constructor
 .intro h
  obtain⟨n,hn⟩:=zd9.loop _ _ _ _ _ h
  cases n with
  |zero=>simp[zbj]at hn
  |succ n=>exact (zch l b F H).mono _ _ (zah n) r hn
 .intro h
  obtain⟨n,hn⟩:=(zch l b F H).cont _ _ zd9 r h
  exact (zah (n+1)).loop _ _ _ _ _ hn
theorem zkn (F:Fr) (l:List Nat):(F.keep l).keep l=F.keep l:=by
 unfold Fr.keep
 apply List.map_congr_left
 intro i hi
 have:=zbK F l i
 unfold Fr.keep at this
 rw[this,if_pos hi]
theorem zdn (l:List Nat) (b:LC) (F:Fr) (H:Heap):(om Φ).loop l b (F.keep l) H=(om Φ).loop l b F H:=by
 rw[zfm,zfm]
 unfold zgf
 rw[zkn]
theorem zl3 {P:Program} (hm:P.follows .mixedOrders=true) (hΦ:∀f fi,Φ f=some fi→FnOK P f fi) (hX:∀f g,ext f=some g→zey P f g) (hY:∀f g,extM f=some g→zdy P f g) {f:FuncId} {args:List AV} {v:AV} (h:(om Φ).pure f args=some v) {w:World} {M:Mut} {avs:List Value} (hgl:GOk w M zag) (hv:VRs w M zag args avs):
  CallsIn (Wf none) 0 P f avs.toArray w (fun e w'=>∃u,e= .returned u∧Below w.heap.size w w'∧VR w' (Old w.heap.size M) zag v u):=by
 obtain⟨n,hn⟩:=zd9.pure _ _ _ h
 cases n with
 |zero=>simp[zbj]at hn
 |succ n=>exact (zcK hm (zfY hm hΦ hX hY n) hΦ hX hn hgl hv).2
end om
end Go.Proofs.YtgamobngbenehaaGreatDoor
