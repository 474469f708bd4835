/-
  How light code is evaluated, as rules for the simplifier (conditions: none).
-/
import Derived.Test.YtbddckhdbnmamaaGreatOmegas
namespace Go.Proofs.YtbddckhdbnmamaaGreat
open Go Go.RowKit
set_option linter.unusedVariables false
set_option linter.unusedSimpArgs false
section ev
variable {R:Rec} {F:Fr} {H:Heap}
def zbH (H:Heap):Option AV→Option (AV×Heap)|some v=>some (v,H)|none=>none
@[simp] theorem withH_some (v:AV):zbH H (some v)=some (v,H):=rfl
@[simp] theorem withH_none:zbH H none=none:=rfl
theorem zZ (H:Heap) (x:Option AV):zbH H x=x.map fun v=>(v,H):=by cases x<;>rfl
def putO (F:Fr) (d:Option Nat):Option (AV×Heap)→Option (Fr×Heap)|some p=>some (F.put d p.1,p.2)|none=>none
@[simp] theorem putO_some (d:Option Nat) (v:AV):putO F d (some (v,H))=some (F.put d v,H):=rfl
@[simp] theorem putO_none (d:Option Nat):putO F d none=none:=rfl
@[simp] theorem putO_ite (d:Option Nat) (c:Prop) [Decidable c] (a b:Option (AV×Heap)):putO F d (if c then a else b)=if c then putO F d a else putO F d b:=by split<;>rfl
def zmg (R:Rec) (r:List SI):Option (Fr×Heap)→Option (Fr×Heap)|some p=>zbm R r p.1 p.2|none=>none
@[simp] theorem contS_some (r:List SI):zmg R r (some (F,H))=zbm R r F H:=rfl
@[simp] theorem contS_none (r:List SI):zmg R r none=none:=rfl
@[simp] theorem contS_ite (r:List SI) (c:Prop) [Decidable c] (a b:Option (Fr×Heap)):zmg R r (if c then a else b)=if c then zmg R r a else zmg R r b:=by split<;>rfl
def outC (out:List Nat):Option (Fr×Heap)→Option (LX×Fr×Heap)|some p=>some (.normal,p.1.keep out,p.2)|none=>none
@[simp] theorem outC_some (out:List Nat):outC out (some (F,H))=some (.normal,F.keep out,H):=rfl
@[simp] theorem outC_none (out:List Nat):outC out none=none:=rfl
@[simp] theorem outC_ite (out:List Nat) (c:Prop) [Decidable c] (a b:Option (Fr×Heap)):outC out (if c then a else b)=if c then outC out a else outC out b:=by split<;>rfl
def zeD (a:Src):Option (Fr×Heap)→Option (AV×Heap)|some p=>zbH p.2 (okO (evS p.1.get a))|none=>none
@[simp] theorem endSel_some (a:Src):zeD a (some (F,H))=zbH H (okO (evS F.get a)):=rfl
@[simp] theorem endSel_none (a:Src):zeD a none=none:=rfl
@[simp] theorem zbA:evC R .skip F H=some (.normal,F,H):=rfl
@[simp] theorem evC_ret:evC R .ret F H=some (.ret,F,H):=rfl
@[simp] theorem evC_exit (i:Nat):evC R (.exit i) F H=some (.exit i,F,H):=rfl
@[simp] theorem evC_reg (d:Bool) (inn out:List Nat) (l:List SI):evC R (.reg d inn out l) F H=outC out (zbm R l (F.keep inn) H):=by
 simp only[evC]
 cases zbm R l (F.keep inn) H<;>rfl
def zqq (R:Rec) (b:LC) (p:LX×Fr×Heap):Option (LX×Fr×Heap):=match p.1 with| .normal=>evC R b p.2.1 p.2.2|x=>some (x,p.2)
@[simp] theorem zej (a b:LC):evC R (.seq a b) F H=(evC R a F H).bind (zqq R b):=rfl
@[simp] theorem zex (b:LC):zqq R b (.normal,F,H)=evC R b F H:=rfl
@[simp] theorem nextC_ret (b:LC):zqq R b (.ret,F,H)=some (.ret,F,H):=rfl
@[simp] theorem nextC_exit (b:LC) (i:Nat):zqq R b (.exit i,F,H)=some (.exit i,F,H):=rfl
def zxF (R:Rec) (v:AV) (a b:LC) (F:Fr) (H:Heap):Option (LX×Fr×Heap):=match v with| .bool t=>if t then evC R a F H else evC R b F H|_=>none
@[simp] theorem evC_cond (c:Src) (a b:LC):evC R (.cond c a b) F H=zxF R (evS F.get c) a b F H:=rfl
@[simp] theorem condC_bool (t:Bool) (a b:LC):zxF R (.bool t) a b F H=if t then evC R a F H else evC R b F H:=rfl
def zlo (id:Nat) (live:List Nat) (p:LX×Fr×Heap):LX×Fr×Heap:=match p.1 with| .exit i=>if i=id then (.normal,p.2.1.keep live,p.2.2) else (.exit i,p.2)| .normal=>(.normal,p.2.1.keep live,p.2.2)|x=>(x,p.2)
@[simp] theorem evC_block (id:Nat) (live:List Nat) (b:LC):evC R (.block id live b) F H=(evC R b F H).map (zlo id live):=rfl
@[simp] theorem blockC_normal (id:Nat) (live:List Nat):zlo id live (.normal,F,H)=(.normal,F.keep live,H):=rfl
@[simp] theorem blockC_ret (id:Nat) (live:List Nat):zlo id live (.ret,F,H)=(.ret,F,H):=rfl
@[simp] theorem blockC_exit (id i:Nat) (live:List Nat):zlo id live (.exit i,F,H)=if i=id then (.normal,F.keep live,H) else (.exit i,F,H):=rfl
def zhV (id:Nat) (F:Fr) (p:AV×Heap):Option (LX×Fr×Heap):=
 match p.2[id]? with
 |some (.loop st pend F' ps ac bd)=>match st with
  | .busy=>none
  |_=>some (match pend with|none=> .normal|some x=>x,F,p.2.set id (.loop .exhausted pend F' ps ac bd))
 |_=>none
def rngV (R:Rec) (v:AV) (ps inn:List Nat) (ac bd:LC) (F:Fr) (H:Heap):Option (LX×Fr×Heap):=
 match v with
 | .clo g fs cs=>(R.call (.clo g fs cs) [.yld H.length] (H++[.loop .ready none (F.keep inn) ps ac bd])).bind (zhV H.length (F.keep inn))
 |_=>none
@[simp] theorem evC_rng (f:Src) (ps inn:List Nat) (ac bd:LC):evC R (.rng f ps inn ac bd) F H=rngV R (evS F.get f) ps inn ac bd F H:=by
 simp only[evC,rngV]
 cases evS F.get f<;>rfl
@[simp] theorem rngV_clo (g:FuncId) (fs cs:List AV) (ps inn:List Nat) (ac bd:LC):rngV R (.clo g fs cs) ps inn ac bd F H=(R.call (.clo g fs cs) [.yld H.length] (H++[.loop .ready none (F.keep inn) ps ac bd])).bind (zhV H.length (F.keep inn)):=rfl
@[simp] theorem keep_nil:F.keep []=[]:=rfl
@[simp] theorem keep_cons (i:Nat) (l:List Nat):F.keep (i::l)=(i,F.get i)::F.keep l:=rfl
@[simp] theorem get_cons (j i:Nat) (v:AV):Fr.get ((j,v)::F) i=if i=j then v else F.get i:=rfl
@[simp] theorem put_none (v:AV):F.put none v=F:=rfl
@[simp] theorem put_some (d:Nat) (v:AV):F.put (some d) v=(d,v)::F:=rfl
@[simp] theorem evSIs_nil:zbm R [] F H=some (F,H):=rfl
@[simp] theorem evSIs_cons (i:SI) (r:List SI):zbm R (i::r) F H=zmg R r (evSI R i F H):=by
 simp only[zbm]
 cases evSI R i F H<;>rfl
def zxp (R:Rec) (H:Heap) (k:OpK):Option (List AV)→Option (AV×Heap)|some vs=>exec R H k vs|none=>none
@[simp] theorem zmc (k:OpK) (vs:List AV):zxp R H k (some vs)=exec R H k vs:=rfl
@[simp] theorem evSI_op (d:Option Nat) (k:OpK) (xs:List Src):evSI R (.op d k xs) F H=putO F d (zxp R H k (vals F.get xs)):=by
 simp only[evSI]
 cases vals F.get xs with
 |none=>rfl
 |some vs=>simp only[zmc];cases exec R H k vs<;>rfl
def selO (R:Rec) (v:AV) (bt:List SI) (a:Src) (bf:List SI) (b:Src) (F:Fr) (H:Heap):Option (AV×Heap):=
 match v with
 | .bool t=>if t then zeD a (zbm R bt F H) else zeD b (zbm R bf F H)
 |_=>none
@[simp] theorem evSI_sel (d c:Nat) (bt:List SI) (a:Src) (bf:List SI) (b:Src):evSI R (.sel d c bt a bf b) F H=putO F (some d) (selO R (F.get c) bt a bf b F H):=by
 simp only[evSI]
 cases F.get c with
 |bool t=>
  cases t with
  |true=>
   simp only[selO,if_true]
   cases zbm R bt F H with
   |none=>rfl
   |some p=>simp only[Option.bind_some,zeD,zZ];cases okO (evS p.1.get a)<;>rfl
  |false=>
   simp only[selO,bFt,if_false]
   cases zbm R bf F H with
   |none=>rfl
   |some p=>simp only[Option.bind_some,zeD,zZ];cases okO (evS p.1.get b)<;>rfl
 |_=>rfl
@[simp] theorem selO_bool (t:Bool) (bt:List SI) (a:Src) (bf:List SI) (b:Src):selO R (.bool t) bt a bf b F H=if t then zeD a (zbm R bt F H) else zeD b (zbm R bf F H):=rfl
@[simp] theorem evS_t (E:Nat→AV) (i:Nat):evS E (.t i)=E i:=rfl
@[simp] theorem evS_c (E:Nat→AV) (v:AV):evS E (.c v)=v:=rfl
def zr5:Option AV→Option (List AV)→Option (List AV)|some v,some vs=>some (v::vs)|_,_=>none
@[simp] theorem consO_some (v:AV) (vs:List AV):zr5 (some v) (some vs)=some (v::vs):=rfl
theorem zmX (E:Nat→AV) (x:Src) (l:List Src):vals E (x::l)=zr5 (okO (evS E x)) (vals E l):=by
 simp only[vals]
 cases okO (evS E x)<;>cases vals E l<;>rfl
@[simp] theorem vals_0 (E:Nat→AV):vals E []=some []:=rfl
@[simp] theorem vals_1 (E:Nat→AV) (x:Src) (l:List Src):vals E (x::l)=zr5 (okO (evS E x)) (vals E l):=zmX E x l
@[simp] theorem okO_bool (b:Bool):okO (.bool b)=some (.bool b):=rfl
@[simp] theorem okO_int (k:IntKind) (n:Int):okO (.int k n)=some (.int k n):=rfl
@[simp] theorem okO_str (s:List UInt8):okO (.str s)=some (.str s):=rfl
@[simp] theorem okO_nilp:okO .nilp=some .nilp:=rfl
@[simp] theorem okO_nilf:okO .nilf=some .nilf:=rfl
@[simp] theorem okO_und:okO .und=some .und:=rfl
@[simp] theorem okO_eptr (c:List AV):okO (.eptr c)=some (.eptr c):=rfl
@[simp] theorem okO_optr (a b c d:Nat):okO (.optr a b c d)=some (.optr a b c d):=rfl
@[simp] theorem okO_isl (a:Option Bool) (b:Nat) (c:List AV):okO (.isl a b c)=some (.isl a b c):=rfl
@[simp] theorem okO_osl (a b c d:Nat):okO (.osl a b c d)=some (.osl a b c d):=rfl
@[simp] theorem okO_agg (c:List AV):okO (.agg c)=some (.agg c):=rfl
@[simp] theorem okO_tuple (c:List AV):okO (.tuple c)=some (.tuple c):=rfl
@[simp] theorem okO_clo (f:FuncId) (a b:List AV):okO (.clo f a b)=some (.clo f a b):=rfl
@[simp] theorem okO_yld (i:Nat):okO (.yld i)=some (.yld i):=rfl
@[simp] theorem okO_bad:okO .bad=none:=rfl
@[simp] theorem exec_call (f:FuncId) (vs:List AV):exec R H (.call f) vs=R.call (.clo f [] []) vs H:=rfl
@[simp] theorem exec_pcall (f:FuncId) (vs:List AV):exec R H (.pcall f) vs=zbH H (R.pure f vs):=(zZ _ _).symm
@[simp] theorem exec_pubcall (f:FuncId) (vs:List AV):exec R H (.pubcall f) vs=if (zbK H vs).1.all AV.flat then zbH (zbK H vs).2 (R.pure f (zbK H vs).1) else none:=by
 simp only[zZ];rfl
def scO (H:Heap):Option AV→Option (AV×Heap)|some v=>if v.scal then some (v,H) else none|none=>none
@[simp] theorem scO_some (v:AV):scO H (some v)=if v.scal then some (v,H) else none:=rfl
def fcO (R:Rec) (H:Heap) (f:FuncId):Option (List AV)→Option (AV×Heap)|some vs=>scO H (R.pure f vs)|none=>none
@[simp] theorem fcO_some (f:FuncId) (vs:List AV):fcO R H f (some vs)=scO H (R.pure f vs):=rfl
@[simp] theorem scal_int (k:IntKind) (n:Int):AV.scal (.int k n)=true:=rfl
@[simp] theorem scal_bool (b:Bool):AV.scal (.bool b)=true:=rfl
@[simp] theorem scal_str (b:List UInt8):AV.scal (.str b)=true:=rfl
@[simp] theorem exec_storeA (n:Nat) (p x:AV) (as':List AV):exec R H (.storeA n) (p::x::as')=if as'.all (apart p) then ex H (.store n) [p,x] else none:=rfl
@[simp] theorem exec_appA (n:Nat) (p x:AV) (as':List AV):exec R H (.appA n) (p::x::as')=if as'.all (apart p) then ex H (.app n) [p,x] else none:=rfl
@[simp] theorem exec_callv (f:AV) (vs:List AV):exec R H .callv (f::vs)=R.call f vs H:=rfl
@[simp] theorem exec_mv (x:AV):exec R H .mv [x]=zbH H (okO x):=(zZ _ _).symm
@[simp] theorem exec_bin (op:BinOp) (k k':IntKind) (a b:Int):exec R H (.bin op) [.int k a,.int k' b]=zbH H (okO (if k=k' then zbZ op k a b else .bad)):=(zZ _ _).symm
@[simp] theorem exec_bins (op:BinOp) (a b:List UInt8):exec R H (.bin op) [.str a,.str b]=zbH H (okO (zM op a b)):=(zZ _ _).symm
@[simp] theorem exec_eqn (p n:Bool) (x:AV):exec R H (.eqn p n) [x]=zbH H (okO (eqnV p n x)):=(zZ _ _).symm
@[simp] theorem exec_eqb (n:Bool) (a b:Bool):exec R H (.eqb n) [.bool a,.bool b]=some (.bool (if n then a !=b else a==b),H):=rfl
@[simp] theorem exec_not (b:Bool):exec R H .not [.bool b]=some (.bool (!b),H):=rfl
@[simp] theorem exec_neg (k:IntKind) (n:Int):exec R H .neg [.int k n]=some (.int k (k.wrap (0 - n)),H):=rfl
@[simp] theorem exec_conv (k k':IntKind) (n:Int):exec R H (.conv k) [.int k' n]=some (.int k (k.wrap n),H):=rfl
@[simp] theorem exec_load (i g:Bool) (n:Nat) (x:AV):exec R H (.load i g n) [x]=zbH H (okO (if i&& !x.imm then .bad else zcM H g n x)):=(zZ _ _).symm
@[simp] theorem exec_fld (o:Nat) (x:AV):exec R H (.fld o) [x]=zbH H (okO (fldV o x)):=(zZ _ _).symm
@[simp] theorem exec_fldv (g:Bool) (n o:Nat) (x:AV):exec R H (.fldv g n o) [x]=zbH H (okO (zad g n o x)):=(zZ _ _).symm
@[simp] theorem exec_idxa (i:Bool) (sz:Nat) (x y:AV):exec R H (.idxa i sz) [x,y]=zbH H (okO (if i&& !x.imm then .bad else zdI H sz x y)):=(zZ _ _).symm
@[simp] theorem exec_idxs (x y:AV):exec R H .idxs [x,y]=zbH H (okO (znZ x y)):=(zZ _ _).symm
@[simp] theorem exec_len (s:Bool) (x:AV):exec R H (.len s) [x]=zbH H (okO (lenV s x)):=(zZ _ _).symm
@[simp] theorem exec_ext (i:Nat) (vs:List AV):exec R H (.ext i) [.tuple vs]=zbH H (okO (vs.getD i .bad)):=(zZ _ _).symm
@[simp] theorem exec_nilchk (x:AV):exec R H .nilchk [x]=zbH H (okO (zcL x)):=(zZ _ _).symm
@[simp] theorem exec_bld (z:List AV) (ps:List (Nat×Nat)) (vs:List AV):exec R H (.bld z ps) vs=zbH H (okO (bldV z ps vs)):=(zZ _ _).symm
@[simp] theorem exec_clo (f:FuncId) (n:Nat) (vs:List AV):exec R H (.clo f n) vs=some (.clo f (vs.take n) (vs.drop n),H):=rfl
@[simp] theorem exec_slc (i s:Bool) (sz:Nat) (lo hi:Bool) (x:AV) (bs:List AV):exec R H (.slc i s sz lo hi) (x::bs)=zbH H (okO (if i&& !x.imm then .bad else slcV H s sz lo hi x bs)):=(zZ _ _).symm
@[simp] theorem exec_box (sz:Nat) (x:AV):exec R H (.box sz) [x]=if x.cells.length=sz∧x.cells.all AV.cell then some (.optr H.length 0 0 0,H++[.arr 0 sz false [x]]) else none:=rfl
@[simp] theorem exec_store (n:Nat) (p x:AV):exec R H (.store n) [p,x]=ex H (.store n) [p,x]:=rfl
@[simp] theorem exec_bsl (i:Bool) (sz n:Nat) (z:AV) (ps:List Nat) (vs:List AV):exec R H (.bsl i sz n z ps) vs=ex H (.bsl i sz n z ps) vs:=rfl
@[simp] theorem exec_app (sz:Nat) (x y:AV):exec R H (.app sz) [x,y]=ex H (.app sz) [x,y]:=rfl
@[simp] theorem cells_agg (c:List AV):(AV.agg c).cells=c:=rfl
@[simp] theorem cells_int (k:IntKind) (n:Int):(AV.int k n).cells=[.int k n]:=rfl
@[simp] theorem cells_bool (b:Bool):(AV.bool b).cells=[.bool b]:=rfl
@[simp] theorem cells_str (s:List UInt8):(AV.str s).cells=[.str s]:=rfl
@[simp] theorem cells_isl (a:Option Bool) (b:Nat) (c:List AV):(AV.isl a b c).cells=[.isl a b c]:=rfl
@[simp] theorem cells_osl (a b c d:Nat):(AV.osl a b c d).cells=[.osl a b c d]:=rfl
@[simp] theorem cells_optr (a b c d:Nat):(AV.optr a b c d).cells=[.optr a b c d]:=rfl
@[simp] theorem cells_clo (f:FuncId) (a b:List AV):(AV.clo f a b).cells=[.clo f a b]:=rfl
@[simp] theorem cells_yld (i:Nat):(AV.yld i).cells=[.yld i]:=rfl
@[simp] theorem cell_int (k:IntKind) (n:Int):AV.cell (.int k n)=true:=rfl
@[simp] theorem aok_int (k:IntKind) (n:Int):AV.ok (.int k n)=true:=rfl
@[simp] theorem still_int (k:IntKind) (n:Int):AV.still (.int k n)=true:=rfl
@[simp] theorem cell_bool (b:Bool):AV.cell (.bool b)=true:=rfl
@[simp] theorem aok_bool (b:Bool):AV.ok (.bool b)=true:=rfl
@[simp] theorem still_bool (b:Bool):AV.still (.bool b)=true:=rfl
@[simp] theorem cell_str (s:List UInt8):AV.cell (.str s)=true:=rfl
@[simp] theorem aok_str (s:List UInt8):AV.ok (.str s)=true:=rfl
@[simp] theorem still_str (s:List UInt8):AV.still (.str s)=true:=rfl
@[simp] theorem cell_nilp:AV.cell (.nilp)=true:=rfl
@[simp] theorem aok_nilp:AV.ok (.nilp)=true:=rfl
@[simp] theorem still_nilp:AV.still (.nilp)=true:=rfl
@[simp] theorem cell_nilf:AV.cell (.nilf)=true:=rfl
@[simp] theorem aok_nilf:AV.ok (.nilf)=true:=rfl
@[simp] theorem still_nilf:AV.still (.nilf)=true:=rfl
@[simp] theorem cell_eptr (c:List AV):AV.cell (.eptr c)=true:=rfl
@[simp] theorem aok_eptr (c:List AV):AV.ok (.eptr c)=true:=rfl
@[simp] theorem still_eptr (c:List AV):AV.still (.eptr c)=true:=rfl
@[simp] theorem cell_isl (a:Option Bool) (b:Nat) (c:List AV):AV.cell (.isl a b c)=true:=rfl
@[simp] theorem aok_isl (a:Option Bool) (b:Nat) (c:List AV):AV.ok (.isl a b c)=true:=rfl
@[simp] theorem still_isl (a:Option Bool) (b:Nat) (c:List AV):AV.still (.isl a b c)=true:=rfl
@[simp] theorem cell_optr (a b c d:Nat):AV.cell (.optr a b c d)=true:=rfl
@[simp] theorem aok_optr (a b c d:Nat):AV.ok (.optr a b c d)=true:=rfl
@[simp] theorem cell_osl (a b c d:Nat):AV.cell (.osl a b c d)=true:=rfl
@[simp] theorem aok_osl (a b c d:Nat):AV.ok (.osl a b c d)=true:=rfl
@[simp] theorem cell_clo (f:FuncId) (a b:List AV):AV.cell (.clo f a b)=true:=rfl
@[simp] theorem aok_clo (f:FuncId) (a b:List AV):AV.ok (.clo f a b)=true:=rfl
@[simp] theorem cell_yld (i:Nat):AV.cell (.yld i)=true:=rfl
@[simp] theorem aok_yld (i:Nat):AV.ok (.yld i)=true:=rfl
@[simp] theorem aok_agg (c:List AV):AV.ok (.agg c)=true:=rfl
@[simp] theorem opt_ite_bind {α β:Type} (c:Prop) [Decidable c] (a b:Option α) (f:α→Option β):(if c then a else b).bind f=if c then a.bind f else b.bind f:=by split<;>rfl
@[simp] theorem ite_av (c:Prop) [Decidable c] (a b:AV) (H:Heap):(if c then some (a,H) else some (b,H))=some (if c then a else b,H):=by split<;>rfl
@[simp] theorem ite_avb (c:Prop) [Decidable c] (a b:Bool):(if c then AV.bool a else AV.bool b)=AV.bool (if c then a else b):=by split<;>rfl
@[simp] theorem ite_avi (c:Prop) [Decidable c] (k:IntKind) (a b:Int):(if c then AV.int k a else AV.int k b)=AV.int k (if c then a else b):=by split<;>rfl
end ev
def zlv (R:Rec) (live:List Nat) (b:LC) (p:LX×Fr×Heap):Option (LX×Fr×Heap):=match p.1 with| .normal=>R.loop live b (p.2.1.keep live) p.2.2|x=>some (x,p.2)
@[simp] theorem againC_normal (R:Rec) (live:List Nat) (b:LC) (F:Fr) (H:Heap):zlv R live b (.normal,F,H)=R.loop live b (F.keep live) H:=rfl
@[simp] theorem againC_ret (R:Rec) (live:List Nat) (b:LC) (F:Fr) (H:Heap):zlv R live b (.ret,F,H)=some (.ret,F,H):=rfl
@[simp] theorem againC_exit (R:Rec) (live:List Nat) (b:LC) (F:Fr) (H:Heap) (i:Nat):zlv R live b (.exit i,F,H)=some (.exit i,F,H):=rfl
@[simp] theorem evC_loop_om {Φ:FuncId→Option FI} (live:List Nat) (b:LC) (F:Fr) (H:Heap):evC (om Φ) (.loop live b) F H=(om Φ).loop live b (F.keep live) H:=(zew live b F H).symm
theorem zb {Φ:FuncId→Option FI} (live:List Nat) (b:LC) (F:Fr) (H:Heap):(om Φ).loop live b F H=(evC (om Φ) b (F.keep live) H).bind (zlv (om Φ) live b):=by
 rw[zgZ]
 unfold zih
 cases evC (om Φ) b (F.keep live) H with
 |none=>rfl
 |some p=>
  obtain⟨x,F1,H1⟩:=p
  cases x with
  |normal=>exact (zew live b F1 H1).symm
  |_=>rfl
def noH (x:Option (LX×Fr×Heap)):Option (LX×Fr):=x.map fun p=>(p.1,p.2.1)
@[simp] theorem noH_some (x:LX) (F:Fr) (H:Heap):noH (some (x,F,H))=some (x,F):=rfl
theorem zhy {α:Type} {l r:List α} {x:α} {k:Nat} (h:l.drop k=x::r):∃h:k<l.length,l[k]=x∧l.drop (k+1)=r:=by
 have h1:=congrArg (fun y=>y[0]?) h
 simp at h1
 obtain⟨h2,h3⟩:=gEs.1 h1
 refine⟨h2,h3,?_⟩
 have:=congrArg (List.drop 1) h
 simpa[Nat.add_comm]using this
theorem zr3 {α:Type} {l:List α} {k:Nat} (h:l.drop k=[]) (hk:k≤l.length):k=l.length:=by
 have:=congrArg List.length h
 simp at this;omega
theorem zhI {n:Int} (h1: -9223372036854775808≤n) (h2:n≤9223372036854775807):IntKind.wrap .i64 n=n:=by
 simp[IntKind.wrap,IntKind.signed,IntKind.bits]
 omega
end Go.Proofs.YtbddckhdbnmamaaGreat
