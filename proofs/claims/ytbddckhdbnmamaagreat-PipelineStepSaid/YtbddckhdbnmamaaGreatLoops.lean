/-
  Rules for loops: a relation between a plain state and the frame and memory, kept by each turn (conditions: none).
-/
import Derived.Test.YtbddckhdbnmamaaGreatEv2s
namespace Go.Proofs.YtbddckhdbnmamaaGreat
open Go Go.RowKit
set_option linter.unusedVariables false
set_option linter.unusedSimpArgs false
def zeK {α σ ρ:Type} (step:Nat→α→σ→σ⊕ρ):Nat→List α→σ→σ⊕ρ
 |_,[],s=> .inl s
 |k,a::r,s=>match step k a s with| .inl s'=>zeK step (k+1) r s'| .inr x=> .inr x
def zlx {σ ρ:Type} (P:σ→Fr→Heap→Prop) (Q:ρ→LX→Fr→Heap→Prop) (y:σ⊕ρ) (x:LX) (F:Fr) (H:Heap):Prop:=
 match y with| .inl s=>x= .normal∧P s F H| .inr r=>x≠.normal∧Q r x F H
@[simp] theorem TurnOk_inl {σ ρ:Type} (P:σ→Fr→Heap→Prop) (Q:ρ→LX→Fr→Heap→Prop) (s:σ) (x:LX) (F:Fr) (H:Heap):zlx P Q (.inl s) x F H↔(x= .normal∧P s F H):=Iff.rfl
@[simp] theorem TurnOk_inr {σ ρ:Type} (P:σ→Fr→Heap→Prop) (Q:ρ→LX→Fr→Heap→Prop) (r:ρ) (x:LX) (F:Fr) (H:Heap):zlx P Q (.inr r) x F H↔(x≠.normal∧Q r x F H):=Iff.rfl
def zsr {σ ρ:Type} (E:σ→LX→Fr→Heap→Prop) (Q:ρ→LX→Fr→Heap→Prop) (y:σ⊕ρ) (x:LX) (F:Fr) (H:Heap):Prop:=
 match y with| .inl s=>E s x F H| .inr r=>Q r x F H
@[simp] theorem EndOk_inl {σ ρ:Type} (E:σ→LX→Fr→Heap→Prop) (Q:ρ→LX→Fr→Heap→Prop) (s:σ) (x:LX) (F:Fr) (H:Heap):zsr E Q (.inl s) x F H↔E s x F H:=Iff.rfl
@[simp] theorem EndOk_inr {σ ρ:Type} (E:σ→LX→Fr→Heap→Prop) (Q:ρ→LX→Fr→Heap→Prop) (r:ρ) (x:LX) (F:Fr) (H:Heap):zsr E Q (.inr r) x F H↔Q r x F H:=Iff.rfl
def okC (o:Option (LX×Fr×Heap)) (Q:LX→Fr→Heap→Prop):Prop:=match o with|some p=>Q p.1 p.2.1 p.2.2|none=>False
@[simp] theorem okC_some (x:LX) (F:Fr) (H:Heap) (Q:LX→Fr→Heap→Prop):okC (some (x,F,H)) Q↔Q x F H:=Iff.rfl
@[simp] theorem okC_none (Q:LX→Fr→Heap→Prop):okC none Q↔False:=Iff.rfl
theorem zc {o:Option (LX×Fr×Heap)} {Q:LX→Fr→Heap→Prop}:okC o Q↔∃x F H,o=some (x,F,H)∧Q x F H:=by
 cases o with
 |none=>simp[okC]
 |some p=>
  obtain⟨x,F,H⟩:=p
  simp only[okC,oSi,pMi]
  constructor
  .intro h;exact⟨x,F,H,⟨rfl,rfl,rfl⟩,h⟩
  .rintro⟨x',F',H',⟨rfl,rfl,rfl⟩,h⟩;exact h
def okV (o:Option (AV×Heap)) (Q:AV→Heap→Prop):Prop:=match o with|some p=>Q p.1 p.2|none=>False
@[simp] theorem okV_some (v:AV) (H:Heap) (Q:AV→Heap→Prop):okV (some (v,H)) Q↔Q v H:=Iff.rfl
@[simp] theorem okV_none (Q:AV→Heap→Prop):okV none Q↔False:=Iff.rfl
theorem zz {o:Option (AV×Heap)} {Q:AV→Heap→Prop}:okV o Q↔∃v H,o=some (v,H)∧Q v H:=by
 cases o with
 |none=>simp[okV]
 |some p=>
  obtain⟨v,H⟩:=p
  simp only[okV,oSi,pMi]
  constructor
  .intro h;exact⟨v,H,⟨rfl,rfl⟩,h⟩
  .rintro⟨v',H',⟨rfl,rfl⟩,h⟩;exact h
section loops
variable {Φ:FuncId→Option FI} {live:List Nat} {L:LC}
theorem zjD {F F':Fr} {H H':Heap} (h:evC (om Φ) L (F.keep live) H=some (.normal,F',H')):(om Φ).loop live L F H=(om Φ).loop live L (F'.keep live) H':=by
 rw[zb,h];rfl
theorem zgm {F F':Fr} {H H':Heap} {x:LX} (h:evC (om Φ) L (F.keep live) H=some (x,F',H')) (hx:x≠.normal):(om Φ).loop live L F H=some (x,F',H'):=by
 rw[zb,h]
 cases x with
 |normal=>exact absurd rfl hx
 |ret=>rfl
 |exit i=>rfl
theorem znr {α σ ρ:Type} (l:List α) (step:Nat→α→σ→σ⊕ρ) (P:Nat→σ→Fr→Heap→Prop) (Q:ρ→LX→Fr→Heap→Prop) (E:σ→LX→Fr→Heap→Prop)
  (hs:∀k a s F H,k<l.length→l[k]?=some a→P k s F H→okC (evC (om Φ) L (F.keep live) H) (zlx (fun s' F' H'=>P (k+1) s' (F'.keep live) H') Q (step k a s)))
  (he:∀s F H,P l.length s F H→okC (evC (om Φ) L (F.keep live) H) (fun x F' H'=>x≠.normal∧E s x F' H')):
  ∀(r:List α) (k:Nat) (s:σ) (F:Fr) (H:Heap),l.drop k=r→k≤l.length→P k s F H→okC ((om Φ).loop live L F H) (zsr E Q (zeK step k r s)):=by
 intro r
 induction r with
 |nil=>
  intro k s F H h1 h2 hp
  have:=zr3 h1 h2
  subst this
  obtain⟨x,F',H',e1,e2,e3⟩:=zc.1 (he s F H hp)
  rw[zgm e1 e2]
  exact e3
 |cons a r ih=>
  intro k s F H h1 h2 hp
  obtain⟨hlt,hx,hr⟩:=zhy h1
  obtain⟨x,F',H',e1,e2⟩:=zc.1 (hs k a s F H hlt (by rw[gEg hlt,hx]) hp)
  unfold zeK
  cases hy:step k a s with
  |inl s'=>
   rw[hy]at e2
   obtain⟨rfl,e3⟩:=e2
   rw[zjD e1]
   exact ih (k+1) s' (F'.keep live) H' hr (by omega) e3
  |inr y=>
   rw[hy]at e2
   rw[zgm e1 e2.1]
   exact e2.2
theorem zce {α σ ρ:Type} (l:List α) (step:Nat→α→σ→σ⊕ρ) (P:Nat→σ→Fr→Heap→Prop) (Q:ρ→LX→Fr→Heap→Prop) (E:σ→LX→Fr→Heap→Prop) {s:σ} {F:Fr} {H:Heap} (hp:P 0 s F H)
  (hs:∀k a s F H,k<l.length→l[k]?=some a→P k s F H→okC (evC (om Φ) L (F.keep live) H) (zlx (fun s' F' H'=>P (k+1) s' (F'.keep live) H') Q (step k a s)))
  (he:∀s F H,P l.length s F H→okC (evC (om Φ) L (F.keep live) H) (fun x F' H'=>x≠.normal∧E s x F' H')):
  okC ((om Φ).loop live L F H) (zsr E Q (zeK step 0 l s)):=
 znr l step P Q E hs he l 0 s F H rfl (by omega) hp
end loops
theorem zeC {R:Rec} {y:Nat} {args:List AV} {G:Heap} {pe:Option LX} {F:Fr} {ps:List Nat} {ac bd:LC} (h:G[y]?=some (.loop .ready pe F ps ac bd)) (hl:args.length=ps.length):
  zcV R y args G=(evC R ac (zcJ F ps args) G).bind fun p=>match p.1,p.2.2[y]? with
   | .normal,some (.loop .ready pend2 F2 ps2 ac2 bd2)=>
     (evC R bd p.2.1 (p.2.2.set y (.loop .busy pend2 F2 ps2 ac2 bd2))).bind fun q=>match q.2.2[y]? with
      |some (.loop _ _ F3 ps3 ac3 bd3)=>match q.1 with
       | .normal=>some (.bool true,q.2.2.set y (.loop .ready none F3 ps3 ac3 bd3))
       |x=>some (.bool false,q.2.2.set y (.loop .done (some x) F3 ps3 ac3 bd3))
      |_=>none
   |_,_=>none:=by
 simp only[zcV,h,hl,if_true]
 rfl
theorem zg {k:Nat} (h:k≤1000000000000):IntKind.wrap .i64 ((k:Int)+1)=(k:Int)+1:=by rw[zhI]<;>omega
end Go.Proofs.YtbddckhdbnmamaaGreat
