/-
  The program's functions, evaluated: beginnings (conditions: none).
-/
import Derived.Test.YtgamobngbenehaaGreatDoorCode11p
import Derived.Test.YtgamobngbenehaaGreatDoorTypesp
namespace Go.Proofs.YtgamobngbenehaaGreatDoor
open Go Go.RowKit
set_option linter.unusedVariables false
set_option linter.unusedSimpArgs false
noncomputable abbrev W:Rec:=om Φ
theorem zG {f:FuncId} {fi:FI} (h:Φ f=some fi) {args:List AV} (ha:args.all AV.flat=true) (hb:fi.bod=none:=by rfl):W.pure f args=(zi W fi args []).bind fun p=>frz p.2 8 p.1:=by
 rw[zdb];unfold zcL;rw[if_pos ha,h];simp only[runF,hb]
theorem zL {f:FuncId} {fi:FI} (h:Φ f=some fi) (fs args cs:List AV) (H:Heap) (hb:fi.bod=none:=by rfl):W.call (.clo f fs cs) args H=zi W fi (fs++args++cs) H:=by
 rw[zb6];unfold zdB;simp only[h,runF,hb]
theorem zpB (id:Nat) (args:List AV) (H:Heap):W.call (.yld id) args H=zcb W id args H:=by
 rw[zb6];rfl
@[simp] theorem frz_bool (H:Heap) (n:Nat) (b:Bool):frz H (n+1) (.bool b)=some (.bool b):=rfl
@[simp] theorem frz_int (H:Heap) (n:Nat) (k:IntKind) (b:Int):frz H (n+1) (.int k b)=some (.int k b):=rfl
@[simp] theorem frz_isl (H:Heap) (n:Nat) (a:Option Bool) (b:Nat) (c:List AV):frz H (n+1) (.isl a b c)=some (.isl a b c):=rfl
@[simp] theorem frz_str (H:Heap) (n:Nat) (b:List UInt8):frz H (n+1) (.str b)=some (.str b):=rfl
@[simp] theorem frz_tuple (H:Heap) (n:Nat) (c:List AV):frz H (n+1) (.tuple c)=(frzs (frz H n) c).map .tuple:=rfl
@[simp] theorem frz_agg (H:Heap) (n:Nat) (c:List AV):frz H (n+1) (.agg c)=(frzs (frz H n) c).map .agg:=rfl
@[simp] theorem frzs_nil (f:AV→Option AV):frzs f []=some []:=rfl
@[simp] theorem frzs_cons (f:AV→Option AV) (x:AV) (l:List AV):frzs f (x::l)=zmS (f x) (frzs f l):=by
 simp only[frzs]
 cases f x<;>cases frzs f l<;>rfl
end Go.Proofs.YtgamobngbenehaaGreatDoor
