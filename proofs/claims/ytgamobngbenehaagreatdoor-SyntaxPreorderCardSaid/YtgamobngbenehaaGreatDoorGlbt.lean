/-
  The package variables that are read, and functions whose answers or effects are known (conditions: none).
-/
import Derived.Lib.IndexMore
import Derived.Test.YtgamobngbenehaaGreatDoorAvt
namespace Go.Proofs.YtgamobngbenehaaGreatDoor
open Go Go.RowKit
set_option linter.unusedVariables false
set_option linter.unusedSimpArgs false
def glb:List (Nat×List AV):=[(0,[.unk .i64])]
theorem znw:glb.all (fun p=>(AV.eptr p.2).flat)=true:=rfl
def zcS:List AV→Option AV
 | [.str s,.str t]=>if s.length<4294967281 then some (.bool (Lib.contains s t)) else none
 |_=>none
def dec2 (n:Nat):List UInt8:=if n<10 then [UInt8.ofNat (48+n)] else [UInt8.ofNat (48+n/10),UInt8.ofNat (48+n % 10)]
def zrF:List AV→Option AV
 | [.int .i64 n]=>if 0≤n∧n<100 then some (.str (dec2 n.toNat)) else none
 |_=>none
def repL (s:List UInt8):Nat→List UInt8
 |0=> []
 |n+1=>s++repL s n
def zhq:List AV→Option AV
 | [.str s,.int .i64 n]=>if 0≤n∧n≤1048576∧s.length≤1048576 then some (.str (repL s n.toNat)) else none
 |_=>none
def zcA:List AV→Option (List (List UInt8))
 | []=>some []
 | .str s::r=>(zcA r).map (s::·)
 |_::_=>none
def zi9 (sep:List UInt8):List (List UInt8)→List UInt8
 | []=> []
 | [x]=>x
 |x::r=>x++sep++zi9 sep r
def zrE:List AV→Option AV
 | [.isl _ _ es,.str sep]=>match zcA es with
  |some l=>if (zi9 sep l).length≤1073741824∧l.length≤1073741824 then some (.str (zi9 sep l)) else none
  |none=>none
 |_=>none
def ext (f:FuncId):Option (List AV→Option AV):=if f=93 then some zcS else if f=53 then some zrF else if f=108 then some zhq else if f=52 then some zrE else none
def zsT:List (Nat×Nat×Nat):=[(87,0,2),(102,0,3)]
def zsF (vs:List AV) (H:Heap):Option (AV×Heap):=
 match vs with
 | [.bptr id off]=>match H[id]? with
  |some (.bx t cs)=>if zsT.contains (t,off,cs.length) then (match cs[off]? with
   |some .nilp=>some (.tuple [],H.set id (.bx t (cs.set off (.bptr id off))))
   |some (.bptr id' off')=>if id'=id∧off'=off then some (.tuple [],H) else none
   |_=>none) else none
  |_=>none
 |_=>none
def strM (vs:List AV) (H:Heap):Option (AV×Heap):=
 match vs with
 | [.bptr id off]=>match H[id]? with
  |some (.bx t cs)=>if zsT.contains (t,off,cs.length) then (match cs[off+1]? with
   |some (.isl (some true) _ [])=>some (.str [],H)
   |some (.bys b ver len)=>match H[b]? with
    |some (.byt v l)=>if v=ver∧len=l.length∧0<len∧len≤1073741824 then some (.str l,H.set b (.dead v)) else none
    |_=>none
   |_=>none) else none
  |_=>none
 |_=>none
def insS (x:List UInt8):List (List UInt8)→List (List UInt8)
 | []=> [x]
 |y::r=>if x≤y then x::y::r else y::insS x r
def zcm:List (List UInt8)→List (List UInt8)
 | []=> []
 |x::r=>insS x (zcm r)
def zjK (vs:List AV) (H:Heap):Option (AV×Heap):=
 match vs with
 | [.isl (some true) _ []]=>some (.tuple [],H)
 | [.osl id ver 0 len]=>match H[id]? with
  |some (.arr v 1 false es)=>if v=ver∧len=es.length∧0<len then (match zcA es with
   |some l=>if l.length≤1048576 then some (.tuple [],H.set id (.arr v 1 false ((zcm l).map .str))) else none
   |none=>none) else none
  |_=>none
 |_=>none
def zag:List (List UInt8)→List (List UInt8)
 | []=> []
 | [x]=> [x]
 |x::y::r=>if x=y then zag (y::r) else x::zag (y::r)
def zlU (vs:List AV) (H:Heap):Option (AV×Heap):=
 match vs with
 | [.isl (some true) s []]=>some (.isl (some true) s [],H)
 | [.osl id ver 0 len]=>match H[id]? with
  |some (.arr v 1 false es)=>if v=ver∧len=es.length∧0<len then (match zcA es with
   |some l=>if l.length≤1048576 then some (.osl id ver 0 (zag l).length,H.set id (.arr v 1 false ((zag l++List.replicate (l.length - (zag l).length) []).map .str))) else none
   |none=>none) else none
  |_=>none
 |_=>none
def extM (f:FuncId):Option (List AV→Heap→Option (AV×Heap)):=if f=91 then some zsF else if f=38 then some strM else if f=273 then some zjK else if f=274 then some zlU else none
def zaZ:Nat:=5
def bxT:List Nat:=[87,102]
def recs:List (Nat×(Bool×List Sh)):=[(61,(true,[.int .i64,.int .i64,.str,.int .i64,.rcs 61])),
 (57,(true,[.int .i64,.int .i64,.str,.sl false [.str],.rcs 61,.rcs 57,.rcs 57,.rcs 63])),
 (63,(true,[.int .i64,.str,.int .i64,.int .i64,.str,.int .i64,.rcs 61,.sl false [.str],.rcs 57]))]
def recL (e:Nat):Option (Bool×List Sh):=(recs.find? (fun p=>p.1==e)).map (·.2)
end Go.Proofs.YtgamobngbenehaaGreatDoor
