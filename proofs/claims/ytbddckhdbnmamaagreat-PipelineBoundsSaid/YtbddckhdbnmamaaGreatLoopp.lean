/-
  Rules for loops: a relation between a plain state and the frame and memory, kept by each turn (conditions: none).
-/
import Derived.Test.YtbddckhdbnmamaaGreatEv2p
namespace Go.Proofs.YtbddckhdbnmamaaGreat
open Go Go.RowKit
set_option linter.unusedVariables false
set_option linter.unusedSimpArgs false
def zpn {σ ρ:Type} (P:σ→Fr→Heap→Prop) (Q:ρ→LX→Fr→Heap→Prop) (y:σ⊕ρ) (x:LX) (F:Fr) (H:Heap):Prop:=
 match y with| .inl s=>x= .normal∧P s F H| .inr r=>x≠.normal∧Q r x F H
@[simp] theorem TurnOk_inl {σ ρ:Type} (P:σ→Fr→Heap→Prop) (Q:ρ→LX→Fr→Heap→Prop) (s:σ) (x:LX) (F:Fr) (H:Heap):zpn P Q (.inl s) x F H↔(x= .normal∧P s F H):=Iff.rfl
@[simp] theorem TurnOk_inr {σ ρ:Type} (P:σ→Fr→Heap→Prop) (Q:ρ→LX→Fr→Heap→Prop) (r:ρ) (x:LX) (F:Fr) (H:Heap):zpn P Q (.inr r) x F H↔(x≠.normal∧Q r x F H):=Iff.rfl
def zsI {σ ρ:Type} (E:σ→LX→Fr→Heap→Prop) (Q:ρ→LX→Fr→Heap→Prop) (y:σ⊕ρ) (x:LX) (F:Fr) (H:Heap):Prop:=
 match y with| .inl s=>E s x F H| .inr r=>Q r x F H
@[simp] theorem EndOk_inl {σ ρ:Type} (E:σ→LX→Fr→Heap→Prop) (Q:ρ→LX→Fr→Heap→Prop) (s:σ) (x:LX) (F:Fr) (H:Heap):zsI E Q (.inl s) x F H↔E s x F H:=Iff.rfl
@[simp] theorem EndOk_inr {σ ρ:Type} (E:σ→LX→Fr→Heap→Prop) (Q:ρ→LX→Fr→Heap→Prop) (r:ρ) (x:LX) (F:Fr) (H:Heap):zsI E Q (.inr r) x F H↔Q r x F H:=Iff.rfl
def okC (o:Option (LX×Fr×Heap)) (Q:LX→Fr→Heap→Prop):Prop:=match o with|some p=>Q p.1 p.2.1 p.2.2|none=>False
@[simp] theorem okC_some (x:LX) (F:Fr) (H:Heap) (Q:LX→Fr→Heap→Prop):okC (some (x,F,H)) Q↔Q x F H:=Iff.rfl
@[simp] theorem okC_none (Q:LX→Fr→Heap→Prop):okC none Q↔False:=Iff.rfl
theorem zf {o:Option (LX×Fr×Heap)} {Q:LX→Fr→Heap→Prop}:okC o Q↔∃x F H,o=some (x,F,H)∧Q x F H:=by
 cases o with
 |none=>simp[okC]
 |some p=>
  obtain⟨x,F,H⟩:=p
  simp only[okC,oSi,pMi]
  constructor
  .intro h;exact⟨x,F,H,⟨rfl,rfl,rfl⟩,h⟩
  .rintro⟨x',F',H',⟨rfl,rfl,rfl⟩,h⟩;exact h
def okV (o:Option (AV×Heap)) (Q:AV→Heap→Prop):Prop:=match o with|some p=>Q p.1 p.2|none=>False
@[simp] theorem okV_some (v:AV) (H:Heap) (Q:AV→Heap→Prop):okV (some (v,H)) Q↔Q v H:=Iff.rfl
@[simp] theorem okV_none (Q:AV→Heap→Prop):okV none Q↔False:=Iff.rfl
theorem zu {o:Option (AV×Heap)} {Q:AV→Heap→Prop}:okV o Q↔∃v H,o=some (v,H)∧Q v H:=by
 cases o with
 |none=>simp[okV]
 |some p=>
  obtain⟨v,H⟩:=p
  simp only[okV,oSi,pMi]
  constructor
  .intro h;exact⟨v,H,⟨rfl,rfl⟩,h⟩
  .rintro⟨v',H',⟨rfl,rfl⟩,h⟩;exact h
section loops
variable {Φ:FuncId→Option FI} {live:List Nat} {L:LC}
end loops
theorem zdQ {R:Rec} {y:Nat} {args:List AV} {G:Heap} {pe:Option LX} {F:Fr} {ps:List Nat} {ac bd:LC} (h:G[y]?=some (.loop .ready pe F ps ac bd)) (hl:args.length=ps.length):
  zcc R y args G=(evC R ac (zb4 F ps args) G).bind fun p=>match p.1,p.2.2[y]? with
   | .normal,some (.loop .ready pend2 F2 ps2 ac2 bd2)=>
     (evC R bd p.2.1 (p.2.2.set y (.loop .busy pend2 F2 ps2 ac2 bd2))).bind fun q=>match q.2.2[y]? with
      |some (.loop _ _ F3 ps3 ac3 bd3)=>match q.1 with
       | .normal=>some (.bool true,q.2.2.set y (.loop .ready none F3 ps3 ac3 bd3))
       |x=>some (.bool false,q.2.2.set y (.loop .done (some x) F3 ps3 ac3 bd3))
      |_=>none
   |_,_=>none:=by
 simp only[zcc,h,hl,if_true]
 rfl
theorem zn {k:Nat} (h:k≤1000000000000):IntKind.wrap .i64 ((k:Int)+1)=(k:Int)+1:=by rw[zgs]<;>omega
end Go.Proofs.YtbddckhdbnmamaaGreat
