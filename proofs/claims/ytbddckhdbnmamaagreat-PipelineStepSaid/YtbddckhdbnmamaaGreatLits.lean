/-
  The calls of light code, to any depth (conditions: none).
-/
import Derived.Test.YtbddckhdbnmamaaGreatGlbs
namespace Go.Proofs.YtbddckhdbnmamaaGreat
open Go Go.RowKit
set_option linter.unusedVariables false
set_option linter.unusedSimpArgs false
def zfp (R:Rec) (Φ:FuncId→Option FI) (f:FuncId) (args:List AV):Option AV:=
 if args.all AV.flat then match Φ f with|some fi=>(zam R fi args []).bind fun p=>frz p.2 8 p.1|none=>(match ext f with|some g=>g args|none=>none) else none
def zf3 (R:Rec) (Φ:FuncId→Option FI) (v:AV) (args:List AV) (H:Heap):Option (AV×Heap):=
 match v with
 | .clo f fs cs=>match Φ f with|some fi=>zam R fi (fs++args++cs) H|none=>(match extM f with|some g=>g (fs++args++cs) H|none=>none)
 | .yld id=>zcV R id args H
 |_=>none
def zih (R:Rec) (live:List Nat) (b:LC) (F:Fr) (H:Heap):Option (LX×Fr×Heap):=
 match evC R b (F.keep live) H with
 |some (.normal,F1,H1)=>R.loop live b F1 H1
 |r=>r
def zbU (Φ:FuncId→Option FI):Nat→Rec
 |0=>⟨fun _ _ _=>none,fun _ _=>none,fun _ _ _ _=>none⟩
 |n+1=>⟨zf3 (zbU Φ n) Φ,zfp (zbU Φ n) Φ,zih (zbU Φ n)⟩
end Go.Proofs.YtbddckhdbnmamaaGreat
