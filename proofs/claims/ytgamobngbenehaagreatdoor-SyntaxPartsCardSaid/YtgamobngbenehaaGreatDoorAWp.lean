/-
  Evaluation by the kernel where answers of some calls are known (conditions: none, lemmas alone).
-/
import Derived.Test.YtgamobngbenehaaGreatDoorABp
namespace Go.Proofs.YtgamobngbenehaaGreatDoor
open Go Go.RowKit
set_option linter.unusedVariables false
set_option linter.unusedSimpArgs false
def zp4 (R:Rec) (O:FuncId→List AV→Option AV) (f:FuncId) (a:List AV):Option AV:=match O f a with|some v=>some v|none=>zcL R Φ f a
def recO (O:FuncId→List AV→Option AV):Nat→Rec
 |0=>⟨fun _ _ _=>none,fun _ _=>none,fun _ _ _ _=>none⟩
 |n+1=>⟨zdB (recO O n) Φ,zp4 (recO O n) O,zgf (recO O n)⟩
theorem zjy {O:FuncId→List AV→Option AV} (hO:∀f a r,O f a=some r→W.pure f a=some r):∀n,(recO O n).le W
 |0=>⟨fun v a H r h=>(by cases h),fun f a r h=>(by cases h),fun l b F H r h=>(by cases h)⟩
 |n+1=>by
  have ih:=zjy hO n
  refine⟨fun v a H r h=>?_,fun f a r h=>?_,fun l b F H r h=>?_⟩
  .rw[zb6];exact (zci Φ v a H).mono _ _ ih r h
  .simp only[recO,zp4]at h
   split at h
   .rename_i v hv;cases h;exact hO f a _ hv
   .rw[zdb];exact (zbb Φ f a).mono _ _ ih r h
  .rw[zfm];exact (zch l b F H).mono _ _ ih r h
def kwO (tab:List (FuncId×List AV×AV)) (f:FuncId) (a:List AV):Option AV:=
 if f=147 then (match a with| [.str s]=>if isNm s then some (.bool (decide (s∈zaH))) else none|_=>none)
 else (tab.find? fun p=>p.1==f&&AV.beqs p.2.1 a).map (·.2.2)
theorem zql {tab:List (FuncId×List AV×AV)} (ht:∀p∈tab,W.pure p.1 p.2.1=some p.2.2):∀f a r,kwO tab f a=some r→W.pure f a=some r:=by
 intro f a r h
 unfold kwO at h
 split at h
 .rename_i hf
  subst hf
  split at h
  .split at h
   .rename_i hn;cases h;exact e154 _ hn
   .cases h
  .cases h
 .obtain⟨p,h1,h2⟩:=Option.map_eq_some_iff.1 h
  have h3:=List.find?_some h1
  have h4:=List.mem_of_find?_eq_some h1
  simp only[Bool.and_eq_true,beq_iff_eq]at h3
  have:=ht p h4
  rw[h3.1,AV.beqs_eq h3.2]at this
  rw[this,h2]
theorem orcT (tab:List (FuncId×List AV×AV)) (ht:∀p∈tab,W.pure p.1 p.2.1=some p.2.2) (n:Nat) {f:FuncId} {a:List AV} {r:AV} (h:zcL (recO (kwO tab) n) Φ f a=some r):W.pure f a=some r:=by
 rw[zdb];exact (zbb Φ f a).mono _ _ (zjy (zql ht) n) r h
end Go.Proofs.YtgamobngbenehaaGreatDoor
