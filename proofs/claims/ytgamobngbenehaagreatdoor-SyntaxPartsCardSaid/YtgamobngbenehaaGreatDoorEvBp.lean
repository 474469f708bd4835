/-
  Rules for functions that defer calls, where nothing panics (conditions: none).
-/
import Derived.Test.YtgamobngbenehaaGreatDoorEv2p
namespace Go.Proofs.YtgamobngbenehaaGreatDoor
open Go Go.RowKit
set_option linter.unusedVariables false
set_option linter.unusedSimpArgs false
section evb
variable {ρ:Type} {R:Rec} {F:Fr} {H:Heap} {k:LX→Fr→Heap→Option ρ}
def znU (R:Rec) (b:LC) (k:LX→Fr→Heap→Option ρ) (p:LX×Fr×Heap):Option ρ:=match p.1 with| .normal=>evB R b p.2.1 p.2.2 k|x=>k x p.2.1 p.2.2
@[simp] theorem evB_seq (a b:LC):evB R (.seq a b) F H k=(evC R a F H).bind (znU R b k):=rfl
@[simp] theorem nextB_normal (b:LC):znU R b k (.normal,F,H)=evB R b F H k:=rfl
@[simp] theorem nextB_ret (b:LC):znU R b k (.ret,F,H)=k .ret F H:=rfl
@[simp] theorem evB_asc (a:LC):evB R (.asc a) F H k=evB R a F H k:=rfl
def zqT (R:Rec) (v:AV) (a b:LC) (F:Fr) (H:Heap) (k:LX→Fr→Heap→Option ρ):Option ρ:=match v with| .bool t=>if t then evB R a F H k else evB R b F H k|_=>none
@[simp] theorem evB_dcnd (c:Src) (a b:LC):evB R (.dcnd c a b) F H k=zqT R (evS F.get c) a b F H k:=rfl
@[simp] theorem dcndB_bool (t:Bool) (a b:LC):zqT R (.bool t) a b F H k=if t then evB R a F H k else evB R b F H k:=rfl
def zim (k:LX→Fr→Heap→Option ρ) (x:LX) (F2:Fr) (p:LX×Fr×Heap):Option ρ:=match p.1 with| .exit _=>none|_=>k x F2 p.2.2
@[simp] theorem afterK_normal (x:LX) (F2:Fr):zim k x F2 (.normal,F,H)=k x F2 H:=rfl
@[simp] theorem afterK_ret (x:LX) (F2:Fr):zim k x F2 (.ret,F,H)=k x F2 H:=rfl
def dclK (R:Rec) (dc:LC) (vs:List AV) (k:LX→Fr→Heap→Option ρ):LX→Fr→Heap→Option ρ:=fun x F2 H2=>match x with
 | .exit _=>none
 |x=>(evC R dc (ze vs) H2).bind fun p=>match p.1 with| .exit _=>none|_=>k x F2 p.2.2
@[simp] theorem dclK_normal (dc:LC) (vs:List AV):dclK R dc vs k .normal F H=(evC R dc (ze vs) H).bind (zim k .normal F):=rfl
@[simp] theorem dclK_ret (dc:LC) (vs:List AV):dclK R dc vs k .ret F H=(evC R dc (ze vs) H).bind (zim k .ret F):=rfl
def zhw (t:Nat) (F:Fr):Fr:=F.filter fun p=>p.1 !=t
@[simp] theorem dropF_nil (t:Nat):zhw t []=[]:=rfl
@[simp] theorem dropF_cons (t j:Nat) (v:AV):zhw t ((j,v)::F)=if j=t then zhw t F else (j,v)::zhw t F:=by
 unfold zhw
 by_cases h:j=t
 .subst h;simp
 .simp[h]
def dclB (R:Rec) (t:Nat) (inn:List Nat) (dc rest:LC) (F:Fr) (H:Heap) (k:LX→Fr→Heap→Option ρ):Option (List AV)→Option ρ
 |some vs=>evB R rest (zhw t (F.keep inn)) H (dclK R dc vs k)
 |none=>none
@[simp] theorem evB_dcl (t s:Nat) (f:FuncId) (xs:List Src) (inn:List Nat) (dc rest:LC):evB R (.dcl t s f xs inn dc rest) F H k=dclB R t inn dc rest F H k (vals (Fr.get ((t,F.get s)::F)) xs):=by
 simp only[evB]
 cases vals (Fr.get ((t,F.get s)::F)) xs<;>rfl
@[simp] theorem dclB_some (t:Nat) (inn:List Nat) (dc rest:LC) (vs:List AV):dclB R t inn dc rest F H k (some vs)=evB R rest (zhw t (F.keep inn)) H (dclK R dc vs k):=rfl
def zob (k:LX→Fr→Heap→Option ρ) (p:LX×Fr×Heap):Option ρ:=k p.1 p.2.1 p.2.2
@[simp] theorem leafK_mk (x:LX):zob k (x,F,H)=k x F H:=rfl
@[simp] theorem evB_reg (d:Bool) (i o:List Nat) (l:List SI):evB R (.reg d i o l) F H k=(evC R (.reg d i o l) F H).bind (zob k):=rfl
@[simp] theorem evB_cond (c:Src) (a b:LC):evB R (.cond c a b) F H k=(evC R (.cond c a b) F H).bind (zob k):=rfl
@[simp] theorem evB_skip:evB R .skip F H k=k .normal F H:=rfl
@[simp] theorem evB_ret:evB R .ret F H k=k .ret F H:=rfl
def endB (res:List RV) (x:LX) (F:Fr) (H:Heap):Option (AV×Heap):=match x with
 | .exit _=>none
 |_=>za2 H (resV F H res)
@[simp] theorem endB_normal (res:List RV):endB res .normal F H=za2 H (resV F H res):=rfl
@[simp] theorem endB_ret (res:List RV):endB res .ret F H=za2 H (resV F H res):=rfl
theorem zgJ (b:LC) (np:Nat) (res:List RV) (args:List AV):zeZ R b np res args H=if args.length=np then evB R b (ze args) H (endB res) else none:=by
 unfold zeZ
 congr 1
 have e:(fun (x:LX) (F:Fr) (H:Heap)=>match x with
  | .exit _=>none
  |_=>(resV F H res).map fun v=>(v,H))=endB res:=by
  funext x F H
  cases x<;>simp only[endB,zU]
 rw[←e]
 rfl
end evb
end Go.Proofs.YtgamobngbenehaaGreatDoor
