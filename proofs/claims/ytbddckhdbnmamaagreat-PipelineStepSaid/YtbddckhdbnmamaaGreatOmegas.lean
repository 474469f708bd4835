/-
  The calls, to any depth: the limit of the depths, its equations, and what it says of the program (conditions: that the light functions stand for the program's is a hypothesis).
-/
import Derived.Test.YtbddckhdbnmamaaGreatCallss
namespace Go.Proofs.YtbddckhdbnmamaaGreat
open Go Go.RowKit
set_option linter.unusedVariables false
set_option linter.unusedSimpArgs false
structure Rec.le (A B:Rec):Prop where
 call:∀v a H r,A.call v a H=some r→B.call v a H=some r
 pure:∀f a r,A.pure f a=some r→B.pure f a=some r
 loop:∀l b F H r,A.loop l b F H=some r→B.loop l b F H=some r
structure Lim (S:Nat→Rec) (L:Rec):Prop where
 chain:∀n,(S n).le (S (n+1))
 call:∀v a H r,L.call v a H=some r→∃n,(S n).call v a H=some r
 pure:∀f a r,L.pure f a=some r→∃n,(S n).pure f a=some r
 loop:∀l b F H r,L.loop l b F H=some r→∃n,(S n).loop l b F H=some r
theorem Rec.le.refl (A:Rec):A.le A:=⟨fun _ _ _ _ h=>h,fun _ _ _ h=>h,fun _ _ _ _ _ h=>h⟩
theorem Rec.le.trans {A B C:Rec} (h:A.le B) (h':B.le C):A.le C:=⟨fun _ _ _ _ k=>h'.call _ _ _ _ (h.call _ _ _ _ k),fun _ _ _ k=>h'.pure _ _ _ (h.pure _ _ _ k),fun _ _ _ _ _ k=>h'.loop _ _ _ _ _ (h.loop _ _ _ _ _ k)⟩
theorem Lim.le {S:Nat→Rec} {L:Rec} (h:Lim S L) (n k:Nat):(S n).le (S (n+k)):=by
 induction k with
 |zero=>exact Rec.le.refl _
 |succ k ih=>exact ih.trans (h.chain _)
structure Good {α:Type} (g:Rec→Option α):Prop where
 mono:∀A B:Rec,A.le B→∀r,g A=some r→g B=some r
 cont:∀(S:Nat→Rec) (L:Rec),Lim S L→∀r,g L=some r→∃n,g (S n)=some r
theorem Good.const {α:Type} (x:Option α):Good fun _=>x:=⟨fun _ _ _ _ h=>h,fun _ _ _ _ h=>⟨0,h⟩⟩
theorem Good.call (v:AV) (a:List AV) (H:Heap):Good fun R=>R.call v a H:=⟨fun _ _ h _ k=>h.call _ _ _ _ k,fun _ _ h _ k=>h.call _ _ _ _ k⟩
theorem Good.pure (f:FuncId) (a:List AV):Good fun R=>R.pure f a:=⟨fun _ _ h _ k=>h.pure _ _ _ k,fun _ _ h _ k=>h.pure _ _ _ k⟩
theorem Good.loop (l:List Nat) (b:LC) (F:Fr) (H:Heap):Good fun R=>R.loop l b F H:=⟨fun _ _ h _ k=>h.loop _ _ _ _ _ k,fun _ _ h _ k=>h.loop _ _ _ _ _ k⟩
theorem Good.bind {α β:Type} {g:Rec→Option α} {h:α→Rec→Option β} (hg:Good g) (hh:∀x,Good (h x)):Good fun R=>(g R).bind fun x=>h x R:=by
 refine⟨fun A B hab r hr=>?_,fun S L hl r hr=>?_⟩
 .obtain⟨x,h1,h2⟩:=oBs.1 hr
  exact oBs.2 ⟨x,hg.mono A B hab x h1,(hh x).mono A B hab r h2⟩
 .obtain⟨x,h1,h2⟩:=oBs.1 hr
  obtain⟨n,k1⟩:=hg.cont S L hl x h1
  obtain⟨m,k2⟩:=(hh x).cont S L hl r h2
  refine⟨n+m,oBs.2 ⟨x,hg.mono _ _ (hl.le n m) x k1,(hh x).mono _ _ ?_ r k2⟩⟩
  rw[Nat.add_comm];exact hl.le m n
theorem Good.map {α β:Type} {g:Rec→Option α} {h:α→β} (hg:Good g):Good fun R=>(g R).map h:=by
 refine⟨fun A B hab r hr=>?_,fun S L hl r hr=>?_⟩
 .obtain⟨x,h1,h2⟩:=oMe.1 hr
  exact oMe.2 ⟨x,hg.mono A B hab x h1,h2⟩
 .obtain⟨x,h1,h2⟩:=oMe.1 hr
  obtain⟨n,k1⟩:=hg.cont S L hl x h1
  exact⟨n,oMe.2 ⟨x,k1,h2⟩⟩
theorem zn8 (H:Heap) (k:OpK) (vs:List AV):Good fun R=>exec R H k vs:=by
 cases k with
 |call f=>exact Good.call _ _ _
 |pcall f=>exact (Good.pure _ _).map
 |fcall f=>exact (Good.const _).bind fun as'=>(Good.pure f as').bind fun v=>Good.const _
 |pubcall f=>
  simp only[exec]
  by_cases h:(zbK H vs).1.all AV.flat=true
  .simp only[if_pos h];exact (Good.pure _ _).map
  .simp only[if_neg h];exact Good.const _
 |callv=>cases vs with
  |nil=>exact Good.const _
  |cons f args=>exact Good.call _ _ _
 |callA f n=>exact (Good.call _ _ _).bind fun p=>Good.const _
 |_=>exact Good.const _
mutual
theorem zvb:∀(i:SI) (F:Fr) (H:Heap),Good fun R=>evSI R i F H
 | .op d k xs,F,H=>by
  simp only[evSI]
  cases vals F.get xs with
  |none=>exact Good.const _
  |some vs=>exact (zn8 H k vs).map
 | .sel d c bt a bf b,F,H=>by
  simp only[evSI]
  generalize F.get c=x
  cases x with
  |bool t=>
   cases t with
   |true=>exact ((zeW bt F H).bind fun p=>Good.const _).map
   |false=>exact ((zeW bf F H).bind fun p=>Good.const _).map
  |_=>exact Good.const _
theorem zeW:∀(l:List SI) (F:Fr) (H:Heap),Good fun R=>zbm R l F H
 | [],F,H=>by simp only[zbm];exact Good.const _
 |i::r,F,H=>by
  simp only[zbm]
  exact (zvb i F H).bind fun p=>zeW r p.1 p.2
end
theorem ziy:∀(c:LC) (F:Fr) (H:Heap),Good fun R=>evC R c F H:=by
 intro c
 induction c with
 |skip=>intro F H;exact Good.const _
 |ret=>intro F H;exact Good.const _
 |any=>intro F H;exact Good.const _
 |hol ts b ih=>intro F H;simp only[evC];exact ih F _
 |exit i=>intro F H;exact Good.const _
 |reg d inn out l=>intro F H;simp only[evC];exact (zeW l _ H).map
 |seq a b iha ihb=>
  intro F H
  simp only[evC]
  refine (iha F H).bind fun p=>?_
  obtain⟨x,F1,H1⟩:=p
  cases x with
  |normal=>exact ihb F1 H1
  |_=>exact Good.const _
 |cond c a b iha ihb=>
  intro F H
  simp only[evC]
  generalize evS F.get c=x
  cases x with
  |bool t=>cases t with
   |true=>exact iha F H
   |false=>exact ihb F H
  |_=>exact Good.const _
 |block id live b ih=>intro F H;simp only[evC];exact (ih F H).map
 |loop live b ih=>intro F H;simp only[evC];exact Good.loop _ _ _ _
 |scp b ih=>intro F H;simp only[evC];exact ih F H
 |rng f ps inn ac bd iha ihb=>
  intro F H
  simp only[evC]
  generalize evS F.get f=x
  cases x with
  |clo g fs cs=>exact (Good.call _ _ _).bind fun p=>Good.const _
  |_=>exact Good.const _
theorem zk6 (fi:FI) (args:List AV) (H:Heap):Good fun R=>zam R fi args H:=by
 unfold zam
 by_cases h:args.length=fi.np
 .simp only[if_pos h]
  refine (ziy _ _ _).bind fun p=>?_
  obtain⟨x,F1,H1⟩:=p
  cases x<;>exact Good.const _
 .simp only[if_neg h];exact Good.const _
theorem zlX (id:Nat) (args:List AV) (H:Heap):Good fun R=>zcV R id args H:=by
 unfold zcV
 split
 .rename_i pend F ps ac bd hb
  by_cases h:args.length=ps.length
  .simp only[if_pos h]
   refine (ziy _ _ _).bind fun p=>?_
   obtain⟨x,F1,H1⟩:=p
   cases x with
   |normal=>
    simp only
    split
    .exact (ziy _ _ _).bind fun q=>Good.const _
    .exact Good.const _
   |_=>exact Good.const _
  .simp only[if_neg h];exact Good.const _
 .exact Good.const _
theorem zc9 (Φ:FuncId→Option FI) (v:AV) (args:List AV) (H:Heap):Good fun R=>zf3 R Φ v args H:=by
 unfold zf3
 cases v with
 |clo f fs cs=>
  simp only
  cases Φ f with
  |none=>exact Good.const _
  |some fi=>exact zk6 _ _ _
 |yld id=>exact zlX _ _ _
 |_=>exact Good.const _
theorem zb8 (Φ:FuncId→Option FI) (f:FuncId) (args:List AV):Good fun R=>zfp R Φ f args:=by
 unfold zfp
 by_cases h:args.all AV.flat=true
 .simp only[if_pos h]
  cases Φ f with
  |none=>exact Good.const _
  |some fi=>exact (zk6 _ _ _).bind fun p=>Good.const _
 .simp only[if_neg h];exact Good.const _
theorem zc8 (live:List Nat) (b:LC) (F:Fr) (H:Heap):Good fun R=>zih R live b F H:=by
 have:=(ziy b (F.keep live) H).bind (h:=fun p R=>match p with|(.normal,F1,H1)=>R.loop live b F1 H1|r=>some r) (fun p=>by
  obtain⟨x,F1,H1⟩:=p
  cases x with
  |normal=>exact Good.loop _ _ _ _
  |_=>exact Good.const _)
 have e:(fun R=>zih R live b F H)=fun R=>(evC R b (F.keep live) H).bind fun p=>match p with|(.normal,F1,H1)=>R.loop live b F1 H1|r=>some r:=by
  funext R
  unfold zih
  cases evC R b (F.keep live) H with
  |none=>rfl
  |some p=>obtain⟨x,F1,H1⟩:=p;cases x<;>rfl
 rw[e];exact this
theorem zbj (Φ:FuncId→Option FI):∀n,(zbU Φ n).le (zbU Φ (n+1))
 |0=>⟨fun v a H r h=>by simp[zbU]at h,fun f a r h=>by simp[zbU]at h,fun l b F H r h=>by simp[zbU]at h⟩
 |n+1=>⟨fun v a H r h=>(zc9 Φ v a H).mono _ _ (zbj Φ n) r h,fun f a r h=>(zb8 Φ f a).mono _ _ (zbj Φ n) r h,fun l b F H r h=>(zc8 l b F H).mono _ _ (zbj Φ n) r h⟩
open Classical in
noncomputable def lim {α:Type} (f:Nat→Option α):Option α:=if h:∃n r,f n=some r then some h.choose_spec.choose else none
theorem zed {α:Type} {f:Nat→Option α} (hf:∀n r,f n=some r→f (n+1)=some r) (r:α):lim f=some r↔∃n,f n=some r:=by
 have up:∀k n r,f n=some r→f (n+k)=some r:=by
  intro k
  induction k with
  |zero=>intro n r h;exact h
  |succ k ih=>intro n r h;exact hf _ _ (ih n r h)
 unfold lim
 by_cases h:∃n r,f n=some r
 .rw[dif_pos h]
  have h1:=h.choose_spec.choose_spec
  constructor
  .intro e
   cases e
   exact⟨_,h1⟩
  .rintro⟨n,hn⟩
   have a:=up n _ _ h1
   have b:=up h.choose n r hn
   rw[Nat.add_comm]at b
   rw[a]at b
   exact b
 .rw[dif_neg h]
  constructor
  .intro e;cases e
  .rintro⟨n,hn⟩;exact absurd ⟨n,r,hn⟩ h
noncomputable def om (Φ:FuncId→Option FI):Rec:=⟨fun v a H=>lim fun n=>(zbU Φ n).call v a H,fun f a=>lim fun n=>(zbU Φ n).pure f a,fun l b F H=>lim fun n=>(zbU Φ n).loop l b F H⟩
section om
variable {Φ:FuncId→Option FI}
theorem zfw:Lim (zbU Φ) (om Φ):=⟨zbj Φ,fun v a H r h=>(zed (fun n r h=>(zbj Φ n).call _ _ _ _ h) r).1 h,fun f a r h=>(zed (fun n r h=>(zbj Φ n).pure _ _ _ h) r).1 h,fun l b F H r h=>(zed (fun n r h=>(zbj Φ n).loop _ _ _ _ _ h) r).1 h⟩
theorem zee (n:Nat):(zbU Φ n).le (om Φ):=⟨fun v a H r h=>(zed (fun n r h=>(zbj Φ n).call _ _ _ _ h) r).2 ⟨n,h⟩,fun f a r h=>(zed (fun n r h=>(zbj Φ n).pure _ _ _ h) r).2 ⟨n,h⟩,fun l b F H r h=>(zed (fun n r h=>(zbj Φ n).loop _ _ _ _ _ h) r).2 ⟨n,h⟩⟩
theorem zeb (v:AV) (a:List AV) (H:Heap):(om Φ).call v a H=zf3 (om Φ) Φ v a H:=by
 apply Option.ext
 intro r
 constructor
 .intro h
  obtain⟨n,hn⟩:=zfw.call _ _ _ _ h
  cases n with
  |zero=>simp[zbU]at hn
  |succ n=>exact (zc9 Φ v a H).mono _ _ (zee n) r hn
 .intro h
  obtain⟨n,hn⟩:=(zc9 Φ v a H).cont _ _ zfw r h
  exact (zee (n+1)).call _ _ _ _ hn
theorem zjB (f:FuncId) (a:List AV):(om Φ).pure f a=zfp (om Φ) Φ f a:=by
 apply Option.ext
 intro r
 constructor
 .intro h
  obtain⟨n,hn⟩:=zfw.pure _ _ _ h
  cases n with
  |zero=>simp[zbU]at hn
  |succ n=>exact (zb8 Φ f a).mono _ _ (zee n) r hn
 .intro h
  obtain⟨n,hn⟩:=(zb8 Φ f a).cont _ _ zfw r h
  exact (zee (n+1)).pure _ _ _ hn
theorem zgZ (l:List Nat) (b:LC) (F:Fr) (H:Heap):(om Φ).loop l b F H=zih (om Φ) l b F H:=by
 apply Option.ext
 intro r
 constructor
 .intro h
  obtain⟨n,hn⟩:=zfw.loop _ _ _ _ _ h
  cases n with
  |zero=>simp[zbU]at hn
  |succ n=>exact (zc8 l b F H).mono _ _ (zee n) r hn
 .intro h
  obtain⟨n,hn⟩:=(zc8 l b F H).cont _ _ zfw r h
  exact (zee (n+1)).loop _ _ _ _ _ hn
theorem znU (F:Fr) (l:List Nat):(F.keep l).keep l=F.keep l:=by
 unfold Fr.keep
 apply List.map_congr_left
 intro i hi
 have:=zdb F l i
 unfold Fr.keep at this
 rw[this,if_pos hi]
theorem zew (l:List Nat) (b:LC) (F:Fr) (H:Heap):(om Φ).loop l b (F.keep l) H=(om Φ).loop l b F H:=by
 rw[zgZ,zgZ]
 unfold zih
 rw[znU]
theorem zqn {P:Program} (hm:P.follows .mixedOrders=true) (hΦ:∀f fi,Φ f=some fi→FnOK P f fi) (hX:∀f g,ext f=some g→zmu P f g) (hY:∀f g,extM f=some g→zeH P f g) {f:FuncId} {args:List AV} {v:AV} (h:(om Φ).pure f args=some v) {w:World} {M:Mut} {avs:List Value} (hgl:GOk w M zaE) (hv:VRs w M zaE args avs):
  CallsIn (Wf none) 0 P f avs.toArray w (fun e w'=>∃u,e= .returned u∧Below w.heap.size w w'∧VR w' (Old w.heap.size M) zaE v u):=by
 obtain⟨n,hn⟩:=zfw.pure _ _ _ h
 cases n with
 |zero=>simp[zbU]at hn
 |succ n=>exact (zdC hm (zhX hm hΦ hX hY n) hΦ hX hn hgl hv).2
end om
end Go.Proofs.YtbddckhdbnmamaaGreat
