/-
  Evaluation by the kernel where answers of some calls are known (conditions: none, lemmas alone). The example (conditions: none), printed by a program of mine, in steps.
-/
import Derived.Test.YtbddckhdbnmamaaGreatPres
namespace Go.Proofs.YtbddckhdbnmamaaGreat
open Go Go.RowKit
set_option linter.unusedVariables false
set_option linter.unusedSimpArgs false
set_option maxRecDepth 100000
def zwQ (R:Rec) (O:FuncId→List AV→Option AV) (f:FuncId) (a:List AV):Option AV:=match O f a with|some v=>some v|none=>zfp R Φ f a
def recO (O:FuncId→List AV→Option AV):Nat→Rec
 |0=>⟨fun _ _ _=>none,fun _ _=>none,fun _ _ _ _=>none⟩
 |n+1=>⟨zf3 (recO O n) Φ,zwQ (recO O n) O,zih (recO O n)⟩
theorem znc {O:FuncId→List AV→Option AV} (hO:∀f a r,O f a=some r→W.pure f a=some r):∀n,(recO O n).le W
 |0=>⟨fun v a H r h=>(by cases h),fun f a r h=>(by cases h),fun l b F H r h=>(by cases h)⟩
 |n+1=>by
  have ih:=znc hO n
  refine⟨fun v a H r h=>?_,fun f a r h=>?_,fun l b F H r h=>?_⟩
  .rw[zeb];exact (zc9 Φ v a H).mono _ _ ih r h
  .simp only[recO,zwQ]at h
   split at h
   .rename_i v hv;cases h;exact hO f a _ hv
   .rw[zjB];exact (zb8 Φ f a).mono _ _ ih r h
  .rw[zgZ];exact (zc8 l b F H).mono _ _ ih r h
def tabO (tab:List (FuncId×List AV×AV)) (f:FuncId) (a:List AV):Option AV:=(tab.find? fun p=>p.1==f&&AV.beqs p.2.1 a).map (·.2.2)
theorem ztJ {tab:List (FuncId×List AV×AV)} (ht:∀p∈tab,W.pure p.1 p.2.1=some p.2.2):∀f a r,tabO tab f a=some r→W.pure f a=some r:=by
 intro f a r h
 unfold tabO at h
 obtain⟨p,h1,h2⟩:=oMe.1 h
 have h3:=List.find?_some h1
 have h4:=List.mem_of_find?_eq_some h1
 simp only[bAt,beq_iff_eq]at h3
 have:=ht p h4
 rw[h3.1,AV.beqs_eq h3.2]at this
 rw[this,h2]
theorem orcT (tab:List (FuncId×List AV×AV)) (ht:∀p∈tab,W.pure p.1 p.2.1=some p.2.2) (n:Nat) {f:FuncId} {a:List AV} {r:AV} (h:zfp (recO (tabO tab) n) Φ f a=some r):W.pure f a=some r:=by
 rw[zjB];exact (zb8 Φ f a).mono _ _ (znc (ztJ ht) n) r h
def awX:AV:= .agg [.isl (some false) 8 [.agg [.int .i64 1,.int .i64 0,.int .i64 0,.int .i64 0,.str [],.int .i64 0,.isl (some true) 0 [],.isl (some false) 1 [.int .i64 1,.int .i64 2,.int .i64 3,.int .i64 4]],.agg [.int .i64 3,.int .i64 0,.int .i64 4,.int .i64 8,.str [],.int .i64 0,.isl (some false) 5 [.agg [.int .i64 4,.int .i64 7,.str [],.int .i64 0,.isl (some false) 5 [.agg [.int .i64 2,.int .i64 0,.str [120],.int .i64 0,.isl (some true) 0 []],.agg [.int .i64 1,.int .i64 0,.str [],.int .i64 2,.isl (some true) 0 []]]],.agg [.int .i64 1,.int .i64 0,.str [],.int .i64 0,.isl (some true) 0 []]],.isl (some true) 0 []],.agg [.int .i64 10,.int .i64 0,.int .i64 0,.int .i64 0,.str [],.int .i64 0,.isl (some true) 0 [],.isl (some true) 0 []]],.isl (some false) 5 [.agg [.int .i64 0,.int .i64 0,.int .i64 1,.int .i64 0,.int .i64 1],.agg [.int .i64 1,.int .i64 0,.int .i64 2,.int .i64 0,.int .i64 1]]]
def awS0:AV:= .agg [.int .i64 1,.int .i64 0,.int .i64 0,.int .i64 0,.str [],.int .i64 0,.isl (some true) 0 [],.isl (some false) 1 [.int .i64 1,.int .i64 2,.int .i64 3,.int .i64 4]]
def awS1:AV:= .agg [.int .i64 3,.int .i64 0,.int .i64 4,.int .i64 8,.str [],.int .i64 0,.isl (some false) 5 [.agg [.int .i64 4,.int .i64 7,.str [],.int .i64 0,.isl (some false) 5 [.agg [.int .i64 2,.int .i64 0,.str [120],.int .i64 0,.isl (some true) 0 []],.agg [.int .i64 1,.int .i64 0,.str [],.int .i64 2,.isl (some true) 0 []]]],.agg [.int .i64 1,.int .i64 0,.str [],.int .i64 0,.isl (some true) 0 []]],.isl (some true) 0 []]
def awS2:AV:= .agg [.int .i64 10,.int .i64 0,.int .i64 0,.int .i64 0,.str [],.int .i64 0,.isl (some true) 0 [],.isl (some true) 0 []]
def awT0:AV:= .agg [.isl (some false) 3 [.agg [.isl (some true) 0 [],.int .i64 0,.bool false],.agg [.isl (some true) 0 [],.int .i64 0,.bool false],.agg [.isl (some true) 0 [],.int .i64 0,.bool false]],.isl (some false) 6 [.agg [.int .i64 1,.int .i64 1,.int .i64 0,.int .i64 0,.isl (some true) 0 [],.bool false],.agg [.int .i64 1,.int .i64 1,.int .i64 0,.int .i64 0,.isl (some true) 0 [],.bool false]],.isl (some false) 1 [.isl (some true) 0 []],.bool false]
def awT1:AV:= .agg [.isl (some false) 3 [.agg [.isl (some true) 0 [],.int .i64 1,.bool false],.agg [.isl (some true) 0 [],.int .i64 0,.bool false],.agg [.isl (some true) 0 [],.int .i64 0,.bool false]],.isl (some false) 6 [.agg [.int .i64 1,.int .i64 1,.int .i64 1,.int .i64 0,.isl (some false) 1 [.int .i64 1],.bool false],.agg [.int .i64 1,.int .i64 1,.int .i64 0,.int .i64 0,.isl (some true) 0 [],.bool false]],.isl (some false) 1 [.isl (some true) 0 []],.bool false]
theorem ztC:W.pure 72 [awS0]=some (.int .i64 0):=orcT [] (fun p hp=>by cases hp) 300 (by kernel_rfl)
theorem ztB:W.pure 72 [awS1]=some (.int .i64 0):=orcT [] (fun p hp=>by cases hp) 300 (by kernel_rfl)
theorem ztA:W.pure 72 [awS2]=some (.int .i64 0):=orcT [] (fun p hp=>by cases hp) 300 (by kernel_rfl)
def awA:List (FuncId×List AV×AV):=[(72,[awS0],.int .i64 0),(72,[awS1],.int .i64 0),(72,[awS2],.int .i64 0)]
theorem zxX:∀p∈awA,W.pure p.1 p.2.1=some p.2.2:=by
 intro p hp
 unfold awA at hp
 simp only[lMc,List.not_mem_nil,or_false]at hp
 rcases hp with rfl|rfl|rfl
 .exact ztC
 .exact ztB
 .exact ztA
theorem aw24:W.pure 24 [awX]=some (.int .i64 0):=orcT awA zxX 300 (by kernel_rfl)
def awB:List (FuncId×List AV×AV):=[(72,[awS0],.int .i64 0),(72,[awS1],.int .i64 0),(72,[awS2],.int .i64 0),(24,[awX],.int .i64 0)]
theorem zjf:∀p∈awB,W.pure p.1 p.2.1=some p.2.2:=by
 intro p hp
 unfold awB at hp
 simp only[lMc,List.not_mem_nil,or_false]at hp
 rcases hp with rfl|rfl|rfl|rfl
 .exact ztC
 .exact ztB
 .exact ztA
 .exact aw24
theorem aw23:W.pure 23 [awX]=some (.tuple [.isl (some false) 1 [.isl (some false) 1 [.int .i64 2,.int .i64 4]],.int .i64 0]):=orcT awB zjf 300 (by kernel_rfl)
theorem aw26:W.pure 26 [awX]=some (.tuple [.agg [.isl (some false) 3 [.agg [.isl (some true) 0 [],.int .i64 0,.bool false],.agg [.isl (some true) 0 [],.int .i64 0,.bool false],.agg [.isl (some true) 0 [],.int .i64 0,.bool false]],.isl (some false) 6 [.agg [.int .i64 1,.int .i64 1,.int .i64 0,.int .i64 0,.isl (some true) 0 [],.bool false],.agg [.int .i64 1,.int .i64 1,.int .i64 0,.int .i64 0,.isl (some true) 0 [],.bool false]],.isl (some false) 1 [.isl (some true) 0 []],.bool false],.int .i64 0]):=orcT awB zjf 300 (by kernel_rfl)
theorem zBf:W.pure 12 [awX,awT0]=some (.tuple [.isl (some false) 1 [.int .i64 0],.int .i64 0]):=orcT awB zjf 300 (by kernel_rfl)
theorem aw14:W.pure 14 [awX,awT0,.int .i64 0]=some (.tuple [.agg [.isl (some false) 3 [.agg [.isl (some true) 0 [],.int .i64 1,.bool false],.agg [.isl (some true) 0 [],.int .i64 0,.bool false],.agg [.isl (some true) 0 [],.int .i64 0,.bool false]],.isl (some false) 6 [.agg [.int .i64 1,.int .i64 1,.int .i64 1,.int .i64 0,.isl (some false) 1 [.int .i64 1],.bool false],.agg [.int .i64 1,.int .i64 1,.int .i64 0,.int .i64 0,.isl (some true) 0 [],.bool false]],.isl (some false) 1 [.isl (some true) 0 []],.bool false],.int .i64 0]):=orcT awB zjf 300 (by kernel_rfl)
theorem zBe:W.pure 12 [awX,awT1]=some (.tuple [.isl (some false) 1 [.int .i64 1],.int .i64 0]):=orcT awB zjf 300 (by kernel_rfl)
def awC:List (FuncId×List AV×AV):=[(23,[awX],.tuple [.isl (some false) 1 [.isl (some false) 1 [.int .i64 2,.int .i64 4]],.int .i64 0]),(26,[awX],.tuple [.agg [.isl (some false) 3 [.agg [.isl (some true) 0 [],.int .i64 0,.bool false],.agg [.isl (some true) 0 [],.int .i64 0,.bool false],.agg [.isl (some true) 0 [],.int .i64 0,.bool false]],.isl (some false) 6 [.agg [.int .i64 1,.int .i64 1,.int .i64 0,.int .i64 0,.isl (some true) 0 [],.bool false],.agg [.int .i64 1,.int .i64 1,.int .i64 0,.int .i64 0,.isl (some true) 0 [],.bool false]],.isl (some false) 1 [.isl (some true) 0 []],.bool false],.int .i64 0]),(12,[awX,awT0],.tuple [.isl (some false) 1 [.int .i64 0],.int .i64 0]),(14,[awX,awT0,.int .i64 0],.tuple [.agg [.isl (some false) 3 [.agg [.isl (some true) 0 [],.int .i64 1,.bool false],.agg [.isl (some true) 0 [],.int .i64 0,.bool false],.agg [.isl (some true) 0 [],.int .i64 0,.bool false]],.isl (some false) 6 [.agg [.int .i64 1,.int .i64 1,.int .i64 1,.int .i64 0,.isl (some false) 1 [.int .i64 1],.bool false],.agg [.int .i64 1,.int .i64 1,.int .i64 0,.int .i64 0,.isl (some true) 0 [],.bool false]],.isl (some false) 1 [.isl (some true) 0 []],.bool false],.int .i64 0]),(12,[awX,awT1],.tuple [.isl (some false) 1 [.int .i64 1],.int .i64 0])]
theorem zxW:∀p∈awC,W.pure p.1 p.2.1=some p.2.2:=by
 intro p hp
 unfold awC at hp
 simp only[lMc,List.not_mem_nil,or_false]at hp
 rcases hp with rfl|rfl|rfl|rfl|rfl
 .exact aw23
 .exact aw26
 .exact zBf
 .exact aw14
 .exact zBe
theorem e11:W.pure 11 []=some (.bool true):=orcT awC zxW 300 (by kernel_rfl)
end Go.Proofs.YtbddckhdbnmamaaGreat
