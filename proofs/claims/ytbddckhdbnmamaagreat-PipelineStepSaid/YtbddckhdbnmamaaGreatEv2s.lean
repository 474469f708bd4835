/-
  Operations on values of known form, as rules for the simplifier (conditions: none).
-/
import Derived.Test.YtbddckhdbnmamaaGreatEvs
namespace Go.Proofs.YtbddckhdbnmamaaGreat
open Go Go.RowKit
set_option linter.unusedVariables false
set_option linter.unusedSimpArgs false
section ev2
variable {H:Heap}
@[simp] theorem lenV_isl (a:Option Bool) (z:Nat) (es:List AV):lenV false (.isl a z es)= .int .i64 es.length:=rfl
@[simp] theorem lenV_osl (a b c d:Nat):lenV false (.osl a b c d)= .int .i64 d:=rfl
@[simp] theorem lenV_str (s:List UInt8):lenV true (.str s)= .int .i64 s.length:=rfl
@[simp] theorem zn0 (sz s:Nat) (nl:Option Bool) (es:List AV) (k:IntKind) (n:Int):zdI H sz (.isl nl s es) (.int k n)=if s=sz then (if 0≤n then match es[n.toNat]? with|some e=> .eptr e.cells|none=> .bad else .bad) else .bad:=rfl
@[simp] theorem idxaV_osl (sz id ver off len:Nat) (k:IntKind) (n:Int):zdI H sz (.osl id ver off len) (.int k n)=(match H[id]? with
  |some (.arr v s _ _)=>if v=ver∧s=sz∧0≤n∧n<len then .optr id ver (off+n.toNat) 0 else .bad
  |_=> .bad):=rfl
@[simp] theorem idxsV_str (s:List UInt8) (k:IntKind) (n:Int):znZ (.str s) (.int k n)=if 0≤n then match s[n.toNat]? with|some b=> .int .u8 b.toNat|none=> .bad else .bad:=rfl
@[simp] theorem imm_eptr (cs:List AV):(AV.eptr cs).imm=true:=rfl
@[simp] theorem imm_isl (a:Option Bool) (z:Nat) (es:List AV):(AV.isl a z es).imm=true:=rfl
@[simp] theorem imm_str (s:List UInt8):(AV.str s).imm=true:=rfl
@[simp] theorem loadV_eptr (g:Bool) (n:Nat) (cs:List AV):zcM H g n (.eptr cs)=zi g n cs:=rfl
@[simp] theorem loadV_optr (g:Bool) (n id ver idx off:Nat):zcM H g n (.optr id ver idx off)=(match H[id]? with
  |some (.arr v _ _ es)=>if ver=v then match es[idx]? with|some e=>zi g n (e.cells.drop off)|none=> .bad else .bad
  |_=> .bad):=rfl
@[simp] theorem ldCells_one (n:Nat) (x:AV) (l:List AV):zi false n (x::l)=x:=rfl
@[simp] theorem ldCells_agg (n:Nat) (x:AV) (l:List AV):zi true n (x::l)=if n≤(x::l).length then .agg ((x::l).take n) else .bad:=rfl
@[simp] theorem fldV_eptr (o:Nat) (cs:List AV):fldV o (.eptr cs)= .eptr (cs.drop o):=rfl
@[simp] theorem fldV_optr (o id ver idx off:Nat):fldV o (.optr id ver idx off)= .optr id ver idx (off+o):=rfl
@[simp] theorem fldvV_agg (g:Bool) (n off:Nat) (cs:List AV):zad g n off (.agg cs)=zi g n (cs.drop off):=rfl
@[simp] theorem nilchkV_eptr (cs:List AV):zcL (.eptr cs)= .eptr cs:=rfl
@[simp] theorem nilchkV_optr (a b c d:Nat):zcL (.optr a b c d)= .optr a b c d:=rfl
@[simp] theorem nilchkV_clo (f:FuncId) (a b:List AV):zcL (.clo f a b)= .clo f a b:=rfl
@[simp] theorem nilchkV_yld (i:Nat):zcL (.yld i)= .yld i:=rfl
@[simp] theorem flat_int (k:IntKind) (n:Int):AV.flat (.int k n)=true:=rfl
@[simp] theorem flat_bool (b:Bool):AV.flat (.bool b)=true:=rfl
@[simp] theorem flat_str (b:List UInt8):AV.flat (.str b)=true:=rfl
@[simp] theorem flat_isl (a:Option Bool) (z:Nat) (es:List AV):AV.flat (.isl a z es)=true:=rfl
@[simp] theorem flat_agg (cs:List AV):AV.flat (.agg cs)=cs.all AV.still:=rfl
@[simp] theorem eqnV_nil (n:Bool) (b:Bool) (z:Nat) (es:List AV):eqnV false n (.isl (some b) z es)= .bool (if n then !b else b):=rfl
@[simp] theorem eqnV_osl (n:Bool) (a b c d:Nat):eqnV false n (.osl a b c d)= .bool n:=rfl
@[simp] theorem eqnV_nilp (n:Bool):eqnV true n .nilp= .bool (!n):=rfl
@[simp] theorem eqnV_optr (n:Bool) (a b c d:Nat):eqnV true n (.optr a b c d)= .bool n:=rfl
@[simp] theorem exS (H:Heap) (n id ver idx off:Nat) (x:AV):ex H (.store n) [.optr id ver idx off,x]=(match H[id]? with
   |some (.arr v sz false es)=>if ver=v∧x.cells.length=n∧x.cells.all AV.cell then (ze es idx off x).map fun es'=>(.und,H.set id (.arr v sz false es')) else none
   |_=>none):=rfl
@[simp] theorem exB (H:Heap) (imm:Bool) (sz len:Nat) (zero:AV) (ps:List Nat) (vs:List AV):ex H (.bsl imm sz len zero ps) vs=(if zero.cells.length=sz∧len* sz≤16777216 then
   (if imm then (bslE sz (List.replicate len zero) ps vs).bind fun es=>if es.all (fun e=>e.cells.all AV.still) then some (.isl (some false) sz es,H) else none
    else (bslE sz (List.replicate len zero) ps vs).map fun es=>(.osl H.length 0 0 len,H++[.arr 0 sz false es])) else none):=by
 cases vs<;>rfl
@[simp] theorem bslE_nil (sz:Nat) (es:List AV):bslE sz es [] []=some es:=rfl
@[simp] theorem bslE_cons (sz:Nat) (es:List AV) (i:Nat) (ps:List Nat) (v:AV) (vs:List AV):bslE sz es (i::ps) (v::vs)=if i<es.length∧v.cells.length=sz∧v.ok then bslE sz (es.set i v) ps vs else none:=rfl
@[simp] theorem zJ (z:List AV):bldV z [] []= .agg z:=rfl
@[simp] theorem zao (z:List AV) (off n:Nat) (ps:List (Nat×Nat)) (v:AV) (vs:List AV):bldV z ((off,n)::ps) (v::vs)=if v.cells.length=n∧off+n≤z.length∧v.ok then bldV (splice z off v.cells) ps vs else .bad:=rfl
@[simp] theorem setElem_lit (x:AV) (l:List AV) (off:Nat) (v:AV):ze [.agg (x::l)] 0 off v=if off+v.cells.length≤(x::l).length then some [.agg (splice (x::l) off v.cells)] else none:=rfl
@[simp] theorem setElem_int (k:IntKind) (n:Int) (v:AV):ze [.int k n] 0 0 v=if v.cells.length=1∧v.cell then some [v] else none:=by simp[ze]
@[simp] theorem splice_lit (x:AV) (l:List AV) (off:Nat) (vs:List AV):splice (x::l) off vs=(x::l).take off++vs++(x::l).drop (off+vs.length):=rfl
@[simp] theorem zlB (a:Option Bool) (z:Nat) (es:List AV):truncH H (.isl a z es)=H:=rfl
@[simp] theorem mxV_int (k k':IntKind) (a b:Int):mxV (.int k a) (.int k' b)=if k=k' then .int k (if a<b then b else a) else .bad:=rfl
@[simp] theorem exec_mx {R:Rec} (x y:AV):exec R H .mx [x,y]=zbH H (okO (mxV x y)):=(zZ _ _).symm
@[simp] theorem mnV_int (k k':IntKind) (a b:Int):mnV (.int k a) (.int k' b)=if k=k' then .int k (if b<a then b else a) else .bad:=rfl
@[simp] theorem mapOf_omap (id:Nat):zg5 H (.omap id)=(match H[id]? with|some (.mp es)=>some es|_=>none):=rfl
@[simp] theorem mapOf_imap (ks vs:List AV):zg5 H (.imap ks vs)=some (ks.zip vs):=rfl
@[simp] theorem exec_mget {R:Rec} (q:Nat) (o:Bool) (z m k:AV):exec R H (.mget q o z) [m,k]=zbH H (okO (zg4 H q o z m k)):=(zZ _ _).symm
@[simp] theorem evC_hol {R:Rec} {F:Fr} (ts:List Nat) (a:LC):evC R (.hol ts a) F H=evC R a F (H++ts.map .hole):=rfl
def zAS (H:Heap) (sz:Nat) (zero:AV) (n m:Int):Option Nat→Option (AV×Heap)
 |some id=>if 0≤n∧n=m∧n≤1048576∧zero.cells.length=sz then some (.osl id 0 0 n.toNat,H.set id (.arr 0 sz false (List.replicate n.toNat zero))) else none
 |none=>none
@[simp] theorem fillO_some (sz:Nat) (zero:AV) (n m:Int) (id:Nat):zAS H sz zero n m (some id)=if 0≤n∧n=m∧n≤1048576∧zero.cells.length=sz then some (.osl id 0 0 n.toNat,H.set id (.arr 0 sz false (List.replicate n.toNat zero))) else none:=rfl
@[simp] theorem exec_boxH {R:Rec} (t sz:Nat) (x:AV):exec R H (.boxH t sz) [x]=(match zk t H with
  |some id=>if x.cells.length=sz∧x.cells.all AV.cell then some (.optr id 0 0 0,H.set id (.arr 0 sz false [x])) else none
  |none=>none):=rfl
@[simp] theorem findHole_hole (t u:Nat) (r:Heap):zk t (.hole u::r)=if u=t then some 0 else (zk t r).map (·+1):=rfl
@[simp] theorem findHole_arr (t a b:Nat) (c:Bool) (d:List AV) (r:Heap):zk t (.arr a b c d::r)=(zk t r).map (·+1):=rfl
@[simp] theorem exec_callAs {R:Rec} (f:FuncId) (n:Nat) (vs:List AV):exec R H (.callA f n) vs=(R.call (.clo f [] []) (vs.take n) H).bind fun p=>if (vs.drop n).all (zgf H p.2)&&(decide (n<1000)||beqH (p.2.take H.length) H) then some p else none:=rfl
@[simp] theorem exec_rngs {R:Rec} (s:List UInt8):exec R H .rngs [.str s]=some (.oit H.length,H++[.sit s 0]):=rfl
@[simp] theorem exec_nxt {R:Rec} (id:Nat):exec R H .nxt [.oit id]=(match H[id]? with
  |some (.sit s p)=>if p<s.length then some (.tuple [.bool true,.int .i64 p,.int .i32 (zdl s p).1],H.set id (.sit s (p+(zdl s p).2))) else some (.tuple [.bool false],H)
  |_=>none):=rfl
@[simp] theorem okO_oit (i:Nat):okO (.oit i)=some (.oit i):=rfl
@[simp] theorem exec_mkmap {R:Rec}:exec R H .mkmap []=some (.omap H.length,H++[.mp []]):=rfl
@[simp] theorem exec_mput {R:Rec} (q:Nat) (vs:List AV):exec R H (.mput q) vs=ex H (.mput q) vs:=rfl
@[simp] theorem exec_cpy {R:Rec} (vs:List AV):exec R H .cpy vs=ex H .cpy vs:=rfl
@[simp] theorem exec_clr {R:Rec} (sz:Nat) (z:AV) (vs:List AV):exec R H (.clr sz z) vs=ex H (.clr sz z) vs:=rfl
@[simp] theorem exec_mksl {R:Rec} (sz:Nat) (z:AV) (vs:List AV):exec R H (.mksl sz z) vs=ex H (.mksl sz z) vs:=rfl
@[simp] theorem ex_mksl (sz:Nat) (z:AV) (k k':IntKind) (n m:Int):ex H (.mksl sz z) [.int k n,.int k' m]=if 0≤n∧n=m∧n≤1048576∧z.cells.length=sz then some (.osl H.length 0 0 n.toNat,H++[.arr 0 sz false (List.replicate n.toNat z)]) else none:=rfl
@[simp] theorem okO_omap (i:Nat):okO (.omap i)=some (.omap i):=rfl
@[simp] theorem ex_mput (q id:Nat) (k v:AV):ex H (.mput q) [.omap id,k,v]=(match H[id]? with
   |some (.mp es)=>if zgr q k then (match zcR q k es 0 with
    |some (some p)=>some (.und,H.set id (.mp (es.set p.1 (k,v))))
    |some none=>some (.und,H.set id (.mp (es++[(k,v)])))
    |none=>none) else none
   |_=>none):=rfl
@[simp] theorem mgetV_imap (q:Nat) (o:Bool) (z k:AV) (ks vs:List AV):zg4 H q o z (.imap ks vs) k=(if zgr q k then (match zcR q k (ks.zip vs) 0 with|some (some p)=>if o then .tuple [p.2,.bool true] else p.2|some none=>if o then .tuple [z,.bool false] else z|none=> .bad) else .bad):=rfl
@[simp] theorem flat_imap (ks vs:List AV):AV.flat (.imap ks vs)=true:=rfl
@[simp] theorem okO_imap (ks vs:List AV):okO (.imap ks vs)=some (.imap ks vs):=rfl
@[simp] theorem isKeyV_int (k:IntKind) (n:Int):zgr 0 (.int k n)=true:=by simp[zgr,zbf]
@[simp] theorem okO_nili:okO .nili=some .nili:=rfl
@[simp] theorem okO_nilm:okO .nilm=some .nilm:=rfl
@[simp] theorem cells_nilm:AV.nilm.cells=[.nilm]:=rfl
@[simp] theorem cell_nilm:AV.cell .nilm=true:=rfl
@[simp] theorem still_nilm:AV.still .nilm=true:=rfl
@[simp] theorem aok_nilm:AV.ok .nilm=true:=rfl
@[simp] theorem cells_nili:AV.nili.cells=[.nili]:=rfl
@[simp] theorem cell_nili:AV.cell .nili=true:=rfl
@[simp] theorem still_nili:AV.still .nili=true:=rfl
@[simp] theorem aok_nili:AV.ok .nili=true:=rfl
end ev2
end Go.Proofs.YtbddckhdbnmamaaGreat
