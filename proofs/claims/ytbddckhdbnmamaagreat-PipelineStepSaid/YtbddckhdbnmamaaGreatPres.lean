/-
  The program's functions, evaluated: beginnings (conditions: none).
-/
import Derived.Test.YtbddckhdbnmamaaGreatCode53s
import Derived.Test.YtbddckhdbnmamaaGreatTypess
namespace Go.Proofs.YtbddckhdbnmamaaGreat
open Go Go.RowKit
set_option linter.unusedVariables false
set_option linter.unusedSimpArgs false
noncomputable abbrev W:Rec:=om Φ
theorem zd {f:FuncId} {fi:FI} (h:Φ f=some fi) {args:List AV} (ha:args.all AV.flat=true):W.pure f args=(zam W fi args []).bind fun p=>frz p.2 8 p.1:=by
 rw[zjB];unfold zfp;rw[if_pos ha,h]
theorem zj {f:FuncId} {fi:FI} (h:Φ f=some fi) (fs args cs:List AV) (H:Heap):W.call (.clo f fs cs) args H=zam W fi (fs++args++cs) H:=by
 rw[zeb];unfold zf3;simp only[h]
theorem zx0 (id:Nat) (args:List AV) (H:Heap):W.call (.yld id) args H=zcV W id args H:=by
 rw[zeb];rfl
@[simp] theorem frz_bool (H:Heap) (n:Nat) (b:Bool):frz H (n+1) (.bool b)=some (.bool b):=rfl
@[simp] theorem frz_int (H:Heap) (n:Nat) (k:IntKind) (b:Int):frz H (n+1) (.int k b)=some (.int k b):=rfl
@[simp] theorem frz_isl (H:Heap) (n:Nat) (a:Option Bool) (b:Nat) (c:List AV):frz H (n+1) (.isl a b c)=some (.isl a b c):=rfl
@[simp] theorem frz_str (H:Heap) (n:Nat) (b:List UInt8):frz H (n+1) (.str b)=some (.str b):=rfl
@[simp] theorem frz_tuple (H:Heap) (n:Nat) (c:List AV):frz H (n+1) (.tuple c)=(frzs (frz H n) c).map .tuple:=rfl
@[simp] theorem frz_agg (H:Heap) (n:Nat) (c:List AV):frz H (n+1) (.agg c)=(frzs (frz H n) c).map .agg:=rfl
@[simp] theorem frzs_nil (f:AV→Option AV):frzs f []=some []:=rfl
@[simp] theorem frzs_cons (f:AV→Option AV) (x:AV) (l:List AV):frzs f (x::l)=zr5 (f x) (frzs f l):=by
 simp only[frzs]
 cases f x<;>cases frzs f l<;>rfl
theorem zdJ {H:Heap} {n id v sz len:Nat} {sh:Bool} {es:List AV} (hb:H[id]?=some (.arr v sz sh es)) (hl:len=es.length) (hf:es.all (fun e=>e.cells.all AV.still)=true):frz H (n+1) (.osl id v 0 len)=some (.isl (some false) sz es):=by
 subst hl
 have e:(es.drop 0).take es.length=es:=by simp
 simp only[frz,hb]
 rw[if_pos ⟨trivial,by omega⟩,e,if_pos hf]
theorem zbn {α:Type} {f:α→AV} (h:∀x,(f x).cells.all AV.still=true) (l:List α):(l.map f).all (fun e=>e.cells.all AV.still)=true:=by
 rw[lAt];intro x hx;obtain⟨y,_,rfl⟩:=List.mem_map.1 hx;exact h y
theorem zlu {α:Type} {f:α→AV} (h:∀x,(f x).cells.all AV.cell=true) (l:List α):(l.map f).all (fun e=>e.cells.all AV.cell)=true:=by
 rw[lAt];intro x hx;obtain⟨y,_,rfl⟩:=List.mem_map.1 hx;exact h y
attribute [simp] zam zfK zbZ resV rvVs rvV
end Go.Proofs.YtbddckhdbnmamaaGreat
