/-
  Abstract values, light code, and their evaluation (a layer over the kit's wpIn; conditions: none, definitions alone).
-/
import Derived.CallsIn
import Derived.RangeFuncIn
import Derived.OrdersIn
import Derived.LoopNIn
import Derived.Below
namespace Go.Proofs.YtbddckhdbnmamaaGreat
open Go
set_option linter.unusedVariables false
set_option linter.unusedSimpArgs false
inductive AV where
 |bad
 |und
 |bool (b:Bool)
 |int (k:IntKind) (n:Int)
 |str (s:List UInt8)
 |nilp
 |nilf
 |eptr (cs:List AV)
 |optr (id ver idx off:Nat)
 |isl (nl:Option Bool) (sz:Nat) (es:List AV)
 |osl (id ver off len:Nat)
 |agg (cs:List AV)
 |tuple (vs:List AV)
 |clo (f:FuncId) (first captured:List AV)
 |yld (id:Nat)
 |omap (id:Nat)
 |oit (id:Nat)
 |unk (k:IntKind)
 |nili
 |imap (ks vs:List AV)
 |nilm
 deriving Inhabited
def AV.imm:AV→Bool| .eptr _=>true| .isl _ _ _=>true| .str _=>true|_=>false
def AV.cells:AV→List AV| .agg cs=>cs|x=> [x]
def AV.ok:AV→Bool| .bad=>false|_=>true
def AV.still:AV→Bool| .bool _=>true| .int _ _=>true| .str _=>true| .nilp=>true| .nilf=>true| .eptr _=>true| .isl _ _ _=>true| .unk _=>true| .nili=>true| .nilm=>true| .imap _ _=>true|_=>false
def AV.cell:AV→Bool| .bad=>false| .und=>false| .agg _=>false| .tuple _=>false|_=>true
inductive Src where
 |t (i:Nat)
 |c (v:AV)
inductive OpK where
 |mv
 |bin (op:BinOp)
 |eqs (neg:Bool) (ks:List Nat)
 |eqn (ptr neg:Bool)
 |eqb (neg:Bool)
 |not
 |neg
 |conv (k:IntKind)
 |load (imm agg:Bool) (n:Nat)
 |fld (off:Nat)
 |fldv (agg:Bool) (n off:Nat)
 |idxa (imm:Bool) (sz:Nat)
 |idxs
 |len (str:Bool)
 |ext (i:Nat)
 |nilchk
 |bld (zero:List AV) (parts:List (Nat×Nat))
 |clo (f:FuncId) (nfirst:Nat)
 |slc (imm str:Bool) (sz:Nat) (lo hi:Bool)
 |call (f:FuncId)
 |pcall (f:FuncId)
 |pubcall (f:FuncId)
 |fcall (f:FuncId)
 |callv
 |box (sz:Nat)
 |store (n:Nat)
 |storeA (n:Nat)
 |appA (sz:Nat)
 |bsl (imm:Bool) (sz len:Nat) (zero:AV) (parts:List Nat)
 |mksl (sz:Nat) (zero:AV)
 |mkslH (t sz:Nat) (zero:AV)
 |app (sz:Nat)
 |mn
 |clr (sz:Nat) (zero:AV)
 |mkmap
 |mput (q:Nat)
 |mget (q:Nat) (ok:Bool) (zero:AV)
 |rngs
 |nxt
 |mx
 |idxp (n sz:Nat)
 |boxH (t sz:Nat)
 |callA (f:FuncId) (n:Nat)
 |cpy
 deriving Inhabited
def zbE:OpK→Option OpK| .storeA n=>some (.store n)| .appA n=>some (.app n)|_=>none
inductive SI where
 |op (d:Option Nat) (k:OpK) (xs:List Src)
 |sel (d c:Nat) (bt:List SI) (a:Src) (bf:List SI) (b:Src)
inductive LC where
 |skip
 |ret
 |exit (id:Nat)
 |reg (draw:Bool) (inn out:List Nat) (l:List SI)
 |seq (a b:LC)
 |cond (c:Src) (a b:LC)
 |block (id:Nat) (live:List Nat) (b:LC)
 |loop (live:List Nat) (b:LC)
 |rng (f:Src) (params:List Nat) (inn:List Nat) (assign body:LC)
 |any
 |hol (ts:List Nat) (a:LC)
 |scp (b:LC)
inductive LX where
 |normal
 |ret
 |exit (id:Nat)
 deriving DecidableEq
abbrev Fr:=List (Nat×AV)
def Fr.get:Fr→Nat→AV| [],_=> .bad|(j,v)::r,i=>if i=j then v else Fr.get r i
def evS (E:Nat→AV):Src→AV| .t i=>E i| .c v=>v
def Fr.put (F:Fr):Option Nat→AV→Fr|none,_=>F|some d,v=>(d,v)::F
def Fr.keep (F:Fr) (l:List Nat):Fr:=l.map fun i=>(i,F.get i)
inductive Blk where
 |arr (ver sz:Nat) (shared:Bool) (es:List AV)
 |loop (st:LoopState) (pend:Option LX) (F:Fr) (params:List Nat) (assign body:LC)
 |mp (es:List (AV×AV))
 |hole (t:Nat)
 |sit (s:List UInt8) (pos:Nat)
 |dead (ver:Nat)
 deriving Inhabited
abbrev Heap:=List Blk
mutual
def AV.beq:AV→AV→Bool
 | .bad,.bad=>true
 | .und,.und=>true
 | .bool a,.bool b=>decide (a=b)
 | .int k n,.int k' n'=>decide (k=k')&&decide (n=n')
 | .str s,.str s'=>decide (s=s')
 | .nilp,.nilp=>true
 | .nilf,.nilf=>true
 | .eptr a,.eptr b=>AV.beqs a b
 | .optr a b c d,.optr a' b' c' d'=>decide (a=a')&&decide (b=b')&&decide (c=c')&&decide (d=d')
 | .isl n s e,.isl n' s' e'=>decide (n=n')&&decide (s=s')&&AV.beqs e e'
 | .osl a b c d,.osl a' b' c' d'=>decide (a=a')&&decide (b=b')&&decide (c=c')&&decide (d=d')
 | .agg a,.agg b=>AV.beqs a b
 | .tuple a,.tuple b=>AV.beqs a b
 | .clo f a b,.clo f' a' b'=>decide (f=f')&&AV.beqs a a'&&AV.beqs b b'
 | .yld a,.yld b=>decide (a=b)
 | .omap a,.omap b=>decide (a=b)
 | .oit a,.oit b=>decide (a=b)
 | .unk a,.unk b=>decide (a=b)
 | .nili,.nili=>true
 | .imap a b,.imap a' b'=>AV.beqs a a'&&AV.beqs b b'
 | .nilm,.nilm=>true
 |_,_=>false
def AV.beqs:List AV→List AV→Bool
 | [],[]=>true
 |x::r,y::s=>AV.beq x y&&AV.beqs r s
 |_,_=>false
end
def Blk.beq:Blk→Blk→Bool
 | .arr v s h e,.arr v' s' h' e'=>decide (v=v')&&decide (s=s')&&decide (h=h')&&AV.beqs e e'
 | .mp e,.mp e'=>AV.beqs (e.map (·.1)) (e'.map (·.1))&&AV.beqs (e.map (·.2)) (e'.map (·.2))
 | .hole t,.hole t'=>decide (t=t')
 | .sit s p,.sit s' p'=>decide (s=s')&&decide (p=p')
 | .dead v,.dead v'=>decide (v=v')
 |_,_=>false
def beqH:Heap→Heap→Bool
 | [],[]=>true
 |x::r,y::s=>Blk.beq x y&&beqH r s
 |_,_=>false
mutual
theorem AV.beq_eq:∀{x y:AV},AV.beq x y=true→x=y
 | .eptr a,y,h=>by cases y<;>simp only[AV.beq,reduceCtorEq]at h;rw[AV.beqs_eq h]
 | .isl n s e,y,h=>by cases y<;>simp only[AV.beq,reduceCtorEq,Bool.and_eq_true,decide_eq_true_eq]at h;rw[h.1.1,h.1.2,AV.beqs_eq h.2]
 | .agg a,y,h=>by cases y<;>simp only[AV.beq,reduceCtorEq]at h;rw[AV.beqs_eq h]
 | .tuple a,y,h=>by cases y<;>simp only[AV.beq,reduceCtorEq]at h;rw[AV.beqs_eq h]
 | .clo f a b,y,h=>by cases y<;>simp only[AV.beq,reduceCtorEq,Bool.and_eq_true,decide_eq_true_eq]at h;rw[h.1.1,AV.beqs_eq h.1.2,AV.beqs_eq h.2]
 | .imap a b,y,h=>by cases y<;>simp only[AV.beq,reduceCtorEq,Bool.and_eq_true]at h;rw[AV.beqs_eq h.1,AV.beqs_eq h.2]
 | .bad,y,h=>by cases y<;>simp_all [AV.beq]
 | .und,y,h=>by cases y<;>simp_all [AV.beq]
 | .bool _,y,h=>by cases y<;>simp_all [AV.beq]
 | .int _ _,y,h=>by cases y<;>simp_all [AV.beq]
 | .str _,y,h=>by cases y<;>simp_all [AV.beq]
 | .nilp,y,h=>by cases y<;>simp_all [AV.beq]
 | .nilf,y,h=>by cases y<;>simp_all [AV.beq]
 | .optr _ _ _ _,y,h=>by cases y<;>simp_all [AV.beq]
 | .osl _ _ _ _,y,h=>by cases y<;>simp_all [AV.beq]
 | .yld _,y,h=>by cases y<;>simp_all [AV.beq]
 | .omap _,y,h=>by cases y<;>simp_all [AV.beq]
 | .oit _,y,h=>by cases y<;>simp_all [AV.beq]
 | .unk _,y,h=>by cases y<;>simp_all [AV.beq]
 | .nili,y,h=>by cases y<;>simp_all [AV.beq]
 | .nilm,y,h=>by cases y<;>simp_all [AV.beq]
theorem AV.beqs_eq:∀{x y:List AV},AV.beqs x y=true→x=y
 | [],y,h=>by cases y<;>simp_all [AV.beqs]
 |x::r,y,h=>by
  cases y with
  |nil=>simp[AV.beqs]at h
  |cons z s=>
   simp only[AV.beqs,Bool.and_eq_true]at h
   rw[AV.beq_eq h.1,AV.beqs_eq h.2]
end
theorem zkC {α β:Type}:∀{a b:List (α×β)},a.map (·.1)=b.map (·.1)→a.map (·.2)=b.map (·.2)→a=b
 | [],[],_,_=>rfl
 | [],_::_,h,_=>by simp at h
 |_::_,[],h,_=>by simp at h
 |x::r,y::s,h,h'=>by
  simp only[List.map_cons,List.cons.injEq]at h h'
  rw[zkC h.2 h'.2]
  congr 1
  exact Prod.ext h.1 h'.1
theorem Blk.beq_eq {x y:Blk} (h:Blk.beq x y=true):x=y:=by
 cases x<;>cases y<;>simp only[Blk.beq,reduceCtorEq,Bool.and_eq_true,decide_eq_true_eq]at h
 .rw[h.1.1.1,h.1.1.2,h.1.2,AV.beqs_eq h.2]
 .rw[zkC (AV.beqs_eq h.1) (AV.beqs_eq h.2)]
 .rw[h]
 .rw[h.1,h.2]
 .rw[h]
theorem zpd:∀{x y:Heap},beqH x y=true→x=y
 | [],[],_=>rfl
 | [],_::_,h=>by simp[beqH]at h
 |_::_,[],h=>by simp[beqH]at h
 |x::r,y::s,h=>by
  simp only[beqH,Bool.and_eq_true]at h
  rw[Blk.beq_eq h.1,zpd h.2]
def zgf (H H':Heap):AV→Bool
 | .optr id _ _ _=>match H[id]?,H'[id]? with|some a,some b=>Blk.beq a b|_,_=>false
 | .osl id _ _ _=>match H[id]?,H'[id]? with|some a,some b=>Blk.beq a b|_,_=>false
 | .eptr _=>true
 | .isl _ _ _=>true
 |_=>false
def zk (t:Nat):Heap→Option Nat
 | []=>none
 |B::r=>match B with
  | .hole u=>if u=t then some 0 else (zk t r).map (·+1)
  |_=>(zk t r).map (·+1)
def okO (v:AV):Option AV:=match v with| .bad=>none|v=>some v
def zlp (k:IntKind) (a b:Int):Int:=k.wrap ((BitVec.ofInt k.bits a&&&BitVec.ofInt k.bits b).toNat:Int)
def zv5 (k:IntKind) (a b:Int):Int:=k.wrap ((BitVec.ofInt k.bits a|||BitVec.ofInt k.bits b).toNat:Int)
def shlI (k:IntKind) (a b:Int):Int:=k.wrap (a* 2 ^ (min b.toNat k.bits))
def shrI (k:IntKind) (a b:Int):Int:=a.fdiv (2 ^ (min b.toNat k.bits))
def zbZ (op:BinOp) (k:IntKind) (a b:Int):AV:=
 match op with
 | .and=> .int k (zlp k a b)| .or=> .int k (zv5 k a b)
 | .shl=>if b<0 then .bad else .int k (shlI k a b)| .shr=>if b<0 then .bad else .int k (shrI k a b)
 | .add=> .int k (k.wrap (a+b))| .sub=> .int k (k.wrap (a - b))| .mul=> .int k (k.wrap (a* b))
 | .quo=>if b=0 then .bad else .int k (k.wrap (a.tdiv b))| .rem=>if b=0 then .bad else .int k (a.tmod b)
 | .eql=> .bool (decide (a=b))| .neq=> .bool (!decide (a=b))| .lss=> .bool (decide (a<b))| .leq=> .bool (decide (a≤b))
 | .gtr=> .bool (decide (b<a))| .geq=> .bool (decide (b≤a))|_=> .bad
def zM (op:BinOp) (a b:List UInt8):AV:=
 match op with
 | .add=>if a.length+b.length≤9223372036854775807 then .str (a++b) else .bad
 | .eql=> .bool (decide (a=b))| .neq=> .bool (!decide (a=b))| .lss=> .bool (Op.bytesLess a b)| .leq=> .bool (Op.bytesLess a b||decide (a=b))
 | .gtr=> .bool (!(Op.bytesLess a b||decide (a=b)))| .geq=> .bool (!Op.bytesLess a b)|_=> .bad
def binV (op:BinOp) (x y:AV):AV:=
 match x,y with
 | .int k a,.int k' b=>if k=k' then zbZ op k a b else .bad
 | .str a,.str b=>zM op a b
 |_,_=> .bad
def zbf (q:Nat) (x y:AV):Option Bool:=
 match q,x,y with
 |0,.int k a,.int k' b=>if k=k' then some (decide (a=b)) else none
 |1,.bool a,.bool b=>some (a==b)
 |2,.str a,.str b=>some (decide (a=b))
 |_,_,_=>none
def zcW:List Nat→List AV→List AV→Option Bool
 | [],[],[]=>some true
 |q::qs,x::xs,y::ys=>match zbf q x y,zcW qs xs ys with|some a,some b=>some (a&&b)|_,_=>none
 |_,_,_=>none
def eqsV (neg:Bool) (ks:List Nat) (x y:AV):AV:=
 match x,y with
 | .agg a,.agg b=>match zcW ks a b with|some t=> .bool (if neg then !t else t)|none=> .bad
 |_,_=> .bad
def eqbV (neg:Bool) (x y:AV):AV:=match x,y with| .bool a,.bool b=> .bool (if neg then a !=b else a==b)|_,_=> .bad
def eqnV (ptr neg:Bool) (x:AV):AV:=
 match ptr,x with
 |false,.isl (some b) _ _=> .bool (if neg then !b else b)
 |false,.isl none _ (_::_)=> .bool neg
 |false,.osl _ _ _ _=> .bool neg
 |true,.nilp=> .bool (!neg)
 |true,.optr _ _ _ _=> .bool neg
 |true,.eptr _=> .bool neg
 |_,_=> .bad
def notV (x:AV):AV:=match x with| .bool b=> .bool (!b)|_=> .bad
def negV (x:AV):AV:=match x with| .int k n=> .int k (k.wrap (0 - n))|_=> .bad
def zvN (k:IntKind) (x:AV):AV:=match x with| .int _ n=> .int k (k.wrap n)|_=> .bad
def zi (agg:Bool) (n:Nat) (cs:List AV):AV:=
 if agg then (if n≤cs.length then .agg (cs.take n) else .bad) else match cs with|x::_=>x| []=> .bad
def zcM (H:Heap) (agg:Bool) (n:Nat) (x:AV):AV:=
 match x with
 | .eptr cs=>zi agg n cs
 | .optr id ver idx off=>match H[id]? with
  |some (.arr v _ _ es)=>if ver=v then match es[idx]? with|some e=>zi agg n (e.cells.drop off)|none=> .bad else .bad
  |_=> .bad
 |_=> .bad
def fldV (off:Nat) (x:AV):AV:=match x with| .eptr cs=> .eptr (cs.drop off)| .optr id ver idx o=> .optr id ver idx (o+off)|_=> .bad
def zad (agg:Bool) (n off:Nat) (x:AV):AV:=match x with| .agg cs=>zi agg n (cs.drop off)|_=> .bad
def zdI (H:Heap) (sz:Nat) (x i:AV):AV:=
 match x,i with
 | .isl _ s es,.int _ n=>if s=sz then (if 0≤n then match es[n.toNat]? with|some e=> .eptr e.cells|none=> .bad else .bad) else .bad
 | .osl id ver off len,.int _ n=>match H[id]? with
  |some (.arr v s _ _)=>if v=ver∧s=sz∧0≤n∧n<len then .optr id ver (off+n.toNat) 0 else .bad
  |_=> .bad
 |_,_=> .bad
def zu3 (n sz:Nat) (x i:AV):AV:=match i with| .int _ k=>if 0≤k∧k<n then fldV (k.toNat* sz) x else .bad|_=> .bad
def znZ (x i:AV):AV:=
 match x,i with
 | .str s,.int _ n=>if 0≤n then match s[n.toNat]? with|some b=> .int .u8 b.toNat|none=> .bad else .bad
 |_,_=> .bad
def lenV (str:Bool) (x:AV):AV:=match str,x with|false,.isl _ _ es=> .int .i64 es.length|true,.str s=> .int .i64 s.length|false,.osl _ _ _ n=> .int .i64 n|_,_=> .bad
def extV (i:Nat) (x:AV):AV:=match x with| .tuple vs=>vs.getD i .bad|_=> .bad
def zcL (x:AV):AV:=match x with| .eptr cs=> .eptr cs| .optr a b c d=> .optr a b c d| .clo f a b=> .clo f a b| .yld i=> .yld i|_=> .bad
def splice (cs:List AV) (off:Nat) (vs:List AV):List AV:=cs.take off++vs++cs.drop (off+vs.length)
def bldV:List AV→List (Nat×Nat)→List AV→AV
 |z,[],[]=> .agg z
 |z,(off,n)::ps,v::vs=>if v.cells.length=n∧off+n≤z.length∧v.ok then bldV (splice z off v.cells) ps vs else .bad
 |_,_,_=> .bad
def zav (len:Nat) (lo hi:Bool) (xs:List AV):Option (Nat×Nat):=
 match lo,hi,xs with
 |false,false,[]=>some (0,len)
 |true,false,[.int _ l]=>if 0≤l∧l≤len then some (l.toNat,len) else none
 |false,true,[.int _ h]=>if 0≤h∧h≤len then some (0,h.toNat) else none
 |true,true,[.int _ l,.int _ h]=>if 0≤l∧l≤h∧h≤len then some (l.toNat,h.toNat) else none
 |_,_,_=>none
def slcV (H:Heap) (str:Bool) (sz:Nat) (lo hi:Bool) (x:AV) (bs:List AV):AV:=
 match str,x with
 |false,.isl nl s es=>if s=sz∨es=[] then match zav es.length lo hi bs with|some (l,h)=> .isl nl s ((es.take h).drop l)|none=> .bad else .bad
 |false,.osl id ver off len=>match H[id]? with
  |some (.arr v s _ _)=>if v=ver∧s=sz then (match zav len lo hi bs with|some (l,h)=> .osl id ver (off+l) (h - l)|none=> .bad) else .bad
  |_=> .bad
 |true,.str s=>match zav s.length lo hi bs with|some (l,h)=> .str ((s.take h).drop l)|none=> .bad
 |_,_=> .bad
def mxV (x y:AV):AV:=match x,y with| .int k a,.int k' b=>if k=k' then .int k (if a<b then b else a) else .bad|_,_=> .bad
def mnV (x y:AV):AV:=match x,y with| .int k a,.int k' b=>if k=k' then .int k (if b<a then b else a) else .bad|_,_=> .bad
def zcR (q:Nat) (k:AV):List (AV×AV)→Nat→Option (Option (Nat×AV))
 | [],_=>some none
 |e::r,i=>match zbf q k e.1 with|some true=>some (some (i,e.2))|some false=>zcR q k r (i+1)|none=>none
def zgr (q:Nat) (k:AV):Bool:=(zbf q k k).isSome
def zg5 (H:Heap) (m:AV):Option (List (AV×AV)):=
 match m with
 | .omap id=>match H[id]? with|some (.mp es)=>some es|_=>none
 | .imap ks vs=>some (ks.zip vs)
 |_=>none
def zg4 (H:Heap) (q:Nat) (ok:Bool) (zero:AV) (m k:AV):AV:=
 match zg5 H m with
 |some es=>if zgr q k then (match zcR q k es 0 with|some (some p)=>if ok then .tuple [p.2,.bool true] else p.2|some none=>if ok then .tuple [zero,.bool false] else zero|none=> .bad) else .bad
 |none=> .bad
def zaH (H:Heap) (sz:Nat):AV→Option (List AV)
 | .isl _ s es=>if s=sz∨es=[] then some es else none
 | .osl id ver off len=>match H[id]? with
  |some (.arr v s _ es)=>if v=ver∧s=sz∧off+len≤es.length then some ((es.drop off).take len) else none
  |_=>none
 |_=>none
def qx (H:Heap):OpK→List AV→AV
 | .mv,[x]=>x
 | .bin op,[x,y]=>binV op x y
 | .eqs neg ks,[x,y]=>eqsV neg ks x y
 | .eqn ptr neg,[x]=>eqnV ptr neg x
 | .eqb neg,[x,y]=>eqbV neg x y
 | .not,[x]=>notV x
 | .neg,[x]=>negV x
 | .conv k,[x]=>zvN k x
 | .load imm agg n,[x]=>if imm&& !x.imm then .bad else zcM H agg n x
 | .fld off,[x]=>fldV off x
 | .fldv agg n off,[x]=>zad agg n off x
 | .idxa imm sz,[x,i]=>if imm&& !x.imm then .bad else zdI H sz x i
 | .idxs,[x,i]=>znZ x i
 | .len str,[x]=>lenV str x
 | .ext i,[x]=>extV i x
 | .nilchk,[x]=>zcL x
 | .bld z ps,vs=>bldV z ps vs
 | .clo f n,vs=> .clo f (vs.take n) (vs.drop n)
 | .slc imm str sz lo hi,x::bs=>if imm&& !x.imm then .bad else slcV H str sz lo hi x bs
 | .mn,[x,y]=>mnV x y
 | .mx,[x,y]=>mxV x y
 | .mx,[x,y,z]=>mxV (mxV x y) z
 | .idxp n sz,[x,i]=>zu3 n sz x i
 | .mget q ok z,[m,k]=>zg4 H q ok z m k
 |_,_=> .bad
def OpK.quiet:OpK→Bool
 | .call _| .callv| .pcall _| .pubcall _| .fcall _| .box _| .store _| .storeA _| .appA _| .bsl .. | .mksl .. | .mkslH .. | .app _| .clr .. | .mkmap| .mput _| .rngs| .nxt| .boxH .. | .callA .. | .cpy=>false
 |_=>true
def ze (es:List AV) (idx off:Nat) (v:AV):Option (List AV):=
 match es[idx]? with
 |some (.agg cs)=>if off+v.cells.length≤cs.length then some (es.set idx (.agg (splice cs off v.cells))) else none
 |some _=>if off=0∧v.cells.length=1∧v.cell then some (es.set idx v) else none
 |none=>none
def bslE (sz:Nat):List AV→List Nat→List AV→Option (List AV)
 |es,[],[]=>some es
 |es,i::ps,v::vs=>if i<es.length∧v.cells.length=sz∧v.ok then bslE sz (es.set i v) ps vs else none
 |_,_,_=>none
def zaA:Nat:=1073741824
def apart (p v:AV):Bool:=
 match p,v with
 | .optr id _ _ _,.optr id' _ _ _=>id !=id'
 | .optr id _ _ _,.osl id' _ _ _=>id !=id'
 | .optr _ _ _ _,.eptr _=>true
 | .optr _ _ _ _,.isl _ _ _=>true
 | .osl id _ _ _,.optr id' _ _ _=>id !=id'
 | .osl id _ _ _,.osl id' _ _ _=>id !=id'
 | .osl _ _ _ _,.eptr _=>true
 | .osl _ _ _ _,.isl _ _ _=>true
 | .isl _ _ _,.optr _ _ _ _=>true
 | .isl _ _ _,.osl _ _ _ _=>true
 | .isl _ _ _,.eptr _=>true
 | .isl _ _ _,.isl _ _ _=>true
 |_,_=>false
def zba (H:Heap) (n:Nat) (p x:AV):Option (AV×Heap):=
 match p with
  | .optr id ver idx off=>match H[id]? with
   |some (.arr v sz false es)=>if ver=v∧x.cells.length=n∧x.cells.all AV.cell then (ze es idx off x).map fun es'=>(.und,H.set id (.arr v sz false es')) else none
   |_=>none
  |_=>none
def truncH (H:Heap):AV→Heap
 | .osl id ver off len=>match H[id]? with
  |some (.arr v s false es)=>if v=ver∧off+len<es.length then H.set id (.arr v s false (es.take (off+len))) else H
  |_=>H
 |_=>H
def zb3 (H:Heap) (sz:Nat) (x:AV) (ys:List AV):Option (AV×Heap):=
 match x with
 | .isl (some true) _ []=>match ys with
  | []=>some (x,H)
  |_=>if ys.length≤zaA then some (.osl H.length 0 0 ys.length,H++[.arr 0 sz false ys]) else none
 | .osl id ver off len=>match H[id]? with
  |some (.arr v s sh es)=>if v=ver∧s=sz∧off+len=es.length then
    (match ys with
    | []=>some (x,H)
    |_=>if len+ys.length≤zaA then some (.osl id (ver+ys.length) 0 (len+ys.length),H.set id (.arr (ver+ys.length) s sh (es.drop off++ys))) else none)
   else none
  |_=>none
 | .isl _ _ _=>(match ys with
  | []=>some (x,H)
  |_=>none)
 |_=>none
def zdl (s:List UInt8) (p:Nat):Nat×Nat:=Utf8.decode ⟨s.toArray⟩ p
def ex (H:Heap):OpK→List AV→Option (AV×Heap)
 | .box sz,[x]=>if x.cells.length=sz∧x.cells.all AV.cell then some (.optr H.length 0 0 0,H++[.arr 0 sz false [x]]) else none
 | .boxH t sz,[x]=>match zk t H with
  |some id=>if x.cells.length=sz∧x.cells.all AV.cell then some (.optr id 0 0 0,H.set id (.arr 0 sz false [x])) else none
  |none=>none
 | .store n,[p,x]=>zba H n p x
 | .storeA n,p::x::as=>if as.all (apart p) then zba H n p x else none
 | .bsl imm sz len zero ps,vs=>if zero.cells.length=sz∧len* sz≤16777216 then
   (if imm then (bslE sz (List.replicate len zero) ps vs).bind fun es=>if es.all (fun e=>e.cells.all AV.still) then some (.isl (some false) sz es,H) else none
    else (bslE sz (List.replicate len zero) ps vs).map fun es=>(.osl H.length 0 0 len,H++[.arr 0 sz false es])) else none
 | .app sz,[x,y]=>match zaH H sz y with
  |some ys=>if ys.all (fun e=>e.cells.all AV.cell) then zb3 (truncH H x) sz x ys else none
  |none=>none
 | .appA sz,x::y::as=>if as.all (apart x) then (match zaH H sz y with
  |some ys=>if ys.all (fun e=>e.cells.all AV.cell) then zb3 (truncH H x) sz x ys else none
  |none=>none) else none
 | .mksl sz zero,[.int _ n,.int _ m]=>if 0≤n∧n=m∧n≤1048576∧zero.cells.length=sz then some (.osl H.length 0 0 n.toNat,H++[.arr 0 sz false (List.replicate n.toNat zero)]) else none
 | .mkslH t sz zero,[.int _ n,.int _ m]=>match zk t H with
  |some id=>if 0≤n∧n=m∧n≤1048576∧zero.cells.length=sz then some (.osl id 0 0 n.toNat,H.set id (.arr 0 sz false (List.replicate n.toNat zero))) else none
  |none=>none
 | .clr sz zero,[x]=>match x with
  | .osl id ver off len=>match H[id]? with
   |some (.arr v s false es)=>if v=ver∧s=sz∧0<len∧off+len≤es.length∧zero.cells.length=sz∧zero.cells.all AV.cell then some (.tuple [],H.set id (.arr v s false (es.take off++List.replicate len zero++es.drop (off+len)))) else none
   |_=>none
  |_=>none
 | .cpy,[x,y]=>match x with
  | .osl id ver off len=>match H[id]?,zaH H 1 y with
   |some (.arr v s false es),some ys=>if v=ver∧s=1∧off+len≤es.length∧ys.length=len∧ys.all (fun e=>e.cells.all AV.cell)=true then some (.int .i64 len,H.set id (.arr v s false (es.take off++ys++es.drop (off+len)))) else none
   |_,_=>none
  |_=>none
 | .mkmap,[]=>some (.omap H.length,H++[.mp []])
 | .rngs,[.str s]=>some (.oit H.length,H++[.sit s 0])
 | .nxt,[.oit id]=>match H[id]? with
  |some (.sit s p)=>if p<s.length then some (.tuple [.bool true,.int .i64 p,.int .i32 (zdl s p).1],H.set id (.sit s (p+(zdl s p).2))) else some (.tuple [.bool false],H)
  |_=>none
 | .mput q,[m,k,v]=>match m with
  | .omap id=>match H[id]? with
   |some (.mp es)=>if zgr q k then (match zcR q k es 0 with
    |some (some p)=>some (.und,H.set id (.mp (es.set p.1 (k,v))))
    |some none=>some (.und,H.set id (.mp (es++[(k,v)])))
    |none=>none) else none
   |_=>none
  |_=>none
 |_,_=>none
structure Rec where
 call:AV→List AV→Heap→Option (AV×Heap)
 pure:FuncId→List AV→Option AV
 loop:List Nat→LC→Fr→Heap→Option (LX×Fr×Heap)
def vals (E:Nat→AV):List Src→Option (List AV)
 | []=>some []
 |x::xs=>match okO (evS E x),vals E xs with|some v,some vs=>some (v::vs)|_,_=>none
def AV.flat:AV→Bool| .agg cs=>cs.all AV.still| .clo _ a b=>a.all AV.still&&b.all AV.still|x=>x.still
def pub1 (H:Heap) (v:AV):AV×Heap:=
 match v with
 | .osl id ver off len=>match H[id]? with
  |some (.arr v' s sh es)=>if v'=ver∧off+len≤es.length∧((es.drop off).take len).all (fun e=>e.cells.all AV.still) then (.isl (some false) s ((es.drop off).take len),H.set id (.arr v' s true es)) else (v,H)
  |_=>(v,H)
 |v=>(v,H)
def zd9 (H:Heap):List AV→List AV×Heap
 | []=>([],H)
 |x::r=>((pub1 H x).1::(zd9 (pub1 H x).2 r).1,(zd9 (pub1 H x).2 r).2)
def pubA (H:Heap) (v:AV):AV×Heap:=match v with| .agg cs=>(.agg (zd9 H cs).1,(zd9 H cs).2)|v=>pub1 H v
def zbK (H:Heap):List AV→List AV×Heap
 | []=>([],H)
 |x::r=>((pubA H x).1::(zbK (pubA H x).2 r).1,(zbK (pubA H x).2 r).2)
def frzs (f:AV→Option AV):List AV→Option (List AV)
 | []=>some []
 |x::xs=>match f x,frzs f xs with|some y,some ys=>some (y::ys)|_,_=>none
def frz (H:Heap):Nat→AV→Option AV
 |0,_=>none
 |n+1,v=>match v with
  | .agg cs=>(frzs (frz H n) cs).map .agg
  | .tuple cs=>(frzs (frz H n) cs).map .tuple
  | .clo f a b=>match frzs (frz H n) a,frzs (frz H n) b with|some a',some b'=>some (.clo f a' b')|_,_=>none
  | .optr id ver idx off=>match H[id]? with
   |some (.arr v _ _ es)=>if v=ver then match es[idx]? with|some e=>(frzs (frz H n) e.cells).map fun cs=> .eptr (cs.drop off)|none=>none else none
   |_=>none
  | .osl id ver off len=>match H[id]? with
   |some (.arr v sz _ es)=>if v=ver∧off+len≤es.length then (if ((es.drop off).take len).all (fun e=>e.cells.all AV.still) then some (.isl (some false) sz ((es.drop off).take len)) else (frzs (frz H n) ((es.drop off).take len)).map (.isl (some false) sz)) else none
   |_=>none
  | .yld _=>none
  | .omap id=>match H[id]? with
   |some (.mp es)=>match frzs (frz H n) (es.map (·.1)),frzs (frz H n) (es.map (·.2)) with|some ks,some vs=>some (.imap ks vs)|_,_=>none
   |_=>none
  | .oit _=>none
  |v=>some v
def AV.scal1:AV→Bool| .bool _=>true| .int _ _=>true| .str _=>true|_=>false
def AV.scal:AV→Bool| .tuple vs=>vs.all AV.scal1|v=>v.scal1
def zaF (H:Heap) (k:OpK) (vs:List AV):Option (AV×Heap):=
 if k.quiet then (okO (qx H k vs)).map fun v=>(v,H) else ex H k vs
def exec (R:Rec) (H:Heap) (k:OpK) (vs:List AV):Option (AV×Heap):=
 match k with
 | .call f=>R.call (.clo f [] []) vs H
 | .pcall f=>(R.pure f vs).map fun v=>(v,H)
 | .pubcall f=>if (zbK H vs).1.all AV.flat then (R.pure f (zbK H vs).1).map fun v=>(v,(zbK H vs).2) else none
 | .fcall f=>(frzs (frz H 8) vs).bind fun as'=>(R.pure f as').bind fun v=>if v.scal then some (v,H) else none
 | .callv=>match vs with|f::args=>R.call f args H| []=>none
 | .callA f n=>(R.call (.clo f [] []) (vs.take n) H).bind fun p=>if (vs.drop n).all (zgf H p.2)&&(decide (n<1000)||beqH (p.2.take H.length) H) then some p else none
 |k=>zaF H k vs
mutual
def evSI (R:Rec):SI→Fr→Heap→Option (Fr×Heap)
 | .op d k xs,F,H=>match vals F.get xs with
  |some vs=>(exec R H k vs).map fun p=>(F.put d p.1,p.2)
  |none=>none
 | .sel d c bt a bf b,F,H=>match F.get c with
  | .bool t=>(if t then (zbm R bt F H).bind fun p=>(okO (evS p.1.get a)).map fun v=>(v,p.2) else (zbm R bf F H).bind fun p=>(okO (evS p.1.get b)).map fun v=>(v,p.2)).map fun p=>(F.put (some d) p.1,p.2)
  |_=>none
def zbm (R:Rec):List SI→Fr→Heap→Option (Fr×Heap)
 | [],F,H=>some (F,H)
 |i::r,F,H=>(evSI R i F H).bind fun p=>zbm R r p.1 p.2
end
def zcJ:Fr→List Nat→List AV→Fr
 |F,i::is,v::vs=>zcJ ((i,v)::F) is vs
 |F,_,_=>F
def evC (R:Rec):LC→Fr→Heap→Option (LX×Fr×Heap)
 | .skip,F,H=>some (.normal,F,H)
 | .ret,F,H=>some (.ret,F,H)
 | .any,_,_=>none
 | .hol ts a,F,H=>evC R a F (H++ts.map .hole)
 | .exit id,F,H=>some (.exit id,F,H)
 | .reg _ inn out l,F,H=>(zbm R l (F.keep inn) H).map fun p=>(.normal,p.1.keep out,p.2)
 | .seq a b,F,H=>(evC R a F H).bind fun p=>match p.1 with| .normal=>evC R b p.2.1 p.2.2|x=>some (x,p.2)
 | .cond c a b,F,H=>match evS F.get c with| .bool t=>if t then evC R a F H else evC R b F H|_=>none
 | .block id live b,F,H=>(evC R b F H).map fun p=>(match p.1 with| .exit i=>if i=id then (.normal,p.2.1.keep live,p.2.2) else (.exit i,p.2)| .normal=>(.normal,p.2.1.keep live,p.2.2)|x=>(x,p.2))
 | .loop live b,F,H=>R.loop live b F H
 | .scp b,F,H=>evC R b F H
 | .rng f params inn assign body,F,H=>match evS F.get f with
  | .clo g fs cs=>
   (R.call (.clo g fs cs) [.yld H.length] (H++[.loop .ready none (F.keep inn) params assign body])).bind fun p=>
    match p.2[H.length]? with
    |some (.loop st pend F' ps ac bd)=>match st with
     | .busy=>none
     |_=>some (match pend with|none=> .normal|some x=>x,F.keep inn,p.2.set H.length (.loop .exhausted pend F' ps ac bd))
    |_=>none
  |_=>none
inductive RV where
 |tmp (t:Nat)
 |cell (t:Nat) (agg:Bool) (n:Nat)
structure FI where
 np:Nat
 ntmps:Nat
 lc:LC
 res:List RV
def rvV (F:Fr) (H:Heap):RV→Option AV
 | .tmp t=>some (F.get t)
 | .cell t agg n=>okO (zcM H agg n (F.get t))
def rvVs (F:Fr) (H:Heap):List RV→Option (List AV)
 | []=>some []
 |r::l=>match rvV F H r,rvVs F H l with|some v,some vs=>some (v::vs)|_,_=>none
def resV (F:Fr) (H:Heap) (l:List RV):Option AV:=(rvVs F H l).map fun vs=>match vs with| [v]=>v|vs=> .tuple vs
def zfK (args:List AV):Fr:=(args.zipIdx).map fun p=>(p.2,p.1)
def zam (R:Rec) (fi:FI) (args:List AV) (H:Heap):Option (AV×Heap):=
 if args.length=fi.np then (evC R fi.lc (zfK args) H).bind fun p=>match p.1 with
  | .exit _=>none
  |_=>(resV p.2.1 p.2.2 fi.res).map fun v=>(v,p.2.2)
 else none
def zcV (R:Rec) (id:Nat) (args:List AV) (H:Heap):Option (AV×Heap):=
 match H[id]? with
 |some (.loop .ready pend F ps ac bd)=>
  if args.length=ps.length then (evC R ac (zcJ F ps args) H).bind fun p=>match p.1,p.2.2[id]? with
   | .normal,some (.loop .ready pend2 F2 ps2 ac2 bd2)=>
     (evC R bd p.2.1 (p.2.2.set id (.loop .busy pend2 F2 ps2 ac2 bd2))).bind fun q=>match q.2.2[id]? with
      |some (.loop _ _ F3 ps3 ac3 bd3)=>match q.1 with
       | .normal=>some (.bool true,q.2.2.set id (.loop .ready none F3 ps3 ac3 bd3))
       |x=>some (.bool false,q.2.2.set id (.loop .done (some x) F3 ps3 ac3 bd3))
      |_=>none
   |_,_=>none
  else none
 |_=>none
inductive Sh where
 |bool
 |int (k:IntKind)
 |str
 |sl (g:Bool) (l:List Sh)
 |rcs (e:Nat)
 deriving Inhabited
theorem gEs {α:Type} {l:List α} {i:Nat} {a:α}:l[i]?=some a↔∃h:i<l.length,l[i]=a:=List.getElem?_eq_some_iff
theorem gEg {α:Type} {l:List α} {i:Nat} (h:i<l.length):l[i]?=some l[i]:=List.getElem?_eq_getElem h
theorem gEz {α:Type} {a:α} {l:List α}:(a::l)[0]?=some a:=List.getElem?_cons_zero
theorem gEn {α:Type} {l:List α} {i j:Nat} (h:i≠j) {a:α}:(l.set i a)[j]?=l[j]?:=List.getElem?_set_ne h
theorem gEt {α:Type} {l:List α} {i:Nat} {a:α} (h:i<l.length):(l.set i a)[i]?=some a:=List.getElem?_set_self h
theorem gEa {α:Type} {l m:List α} {i:Nat} (h:i<l.length):(l++m)[i]?=l[i]?:=List.getElem?_append_left h
theorem gEd {α:Type} {l:List α} {i:Nat} {a:α}:l.getD i a=l[i]?.getD a:=List.getD_eq_getElem?_getD
theorem bAt (a b:Bool):((a&&b)=true)=(a=true∧b=true):=Bool.and_eq_true a b
theorem oBs {α β:Type} {o:Option α} {f:α→Option β} {b:β}:o.bind f=some b↔∃a,o=some a∧f a=some b:=Option.bind_eq_some_iff
theorem oSi {α:Type} (a b:α):(some a=some b)=(a=b):=Option.some.injEq a b
theorem lMg {α:Type} {l:List α} {i:Nat} {a:α} (h:l[i]?=some a):a∈l:=List.mem_of_getElem? h
theorem bFt:(false=true)=False:=Bool.false_eq_true
theorem aEs {α:Type} {l:Array α} {i:Nat} {a:α}:l[i]?=some a↔∃h:i<l.size,l[i]=a:=Array.getElem?_eq_some_iff
theorem iCo {n:Nat}:(Nat.cast (no_index (OfNat.ofNat n)):Int)=OfNat.ofNat n:=Int.cast_ofNat_Int
theorem iNa (a b:Nat):((a+b:Nat):Int)=(a:Int)+b:=Int.natCast_add a b
theorem pMi {α β:Type} (a:α) (b:β) (c:α) (d:β):((a,b)=(c,d))=(a=c∧b=d):=Prod.mk.injEq a b c d
theorem dTe {p:Prop} [Decidable p]:(decide p=true)=p:=decide_eq_true_eq
theorem lAt {α:Type} {p:α→Bool} {l:List α}:l.all p=true↔∀x,x∈l→p x=true:=List.all_eq_true
theorem oMs {α β:Type} (a:α) (f:α→β):(some a).map f=some (f a):=Option.map_some ..
theorem gEr {α:Type} {l m:List α} {i:Nat} (h:l.length≤i):(l++m)[i]?=m[i - l.length]?:=List.getElem?_append_right h
theorem cBc {p:Prop} (h:¬p→False):p:=Classical.byContradiction h
theorem gEm {α β:Type} {f:α→β} {l:List α} {i:Nat}:(l.map f)[i]?=l[i]?.map f:=List.getElem?_map
theorem oMe {α β:Type} {b:β} {x:Option α} {f:α→β}:x.map f=some b↔∃a,x=some a∧f a=b:=Option.map_eq_some_iff
theorem lLc {α:Type} {a:α} {l:List α}:(a::l).length=l.length+1:=List.length_cons
theorem lMc {α:Type} {a b:α} {l:List α}:a∈b::l↔a=b∨a∈l:=List.mem_cons
theorem iTn (n:Nat):(n:Int).toNat=n:=Int.toNat_natCast n
end Go.Proofs.YtbddckhdbnmamaaGreat
