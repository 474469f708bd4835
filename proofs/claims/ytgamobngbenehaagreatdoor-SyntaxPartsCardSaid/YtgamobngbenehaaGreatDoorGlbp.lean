/-
  The package variables that are read, and functions whose answers or effects are known (conditions: none).
-/
import Derived.Lib.IndexMore
import Derived.Lib.ItoaNum
import Derived.Test.YtgamobngbenehaaGreatDoorAvp
namespace Go.Proofs.YtgamobngbenehaaGreatDoor
open Go Go.RowKit
set_option linter.unusedVariables false
set_option linter.unusedSimpArgs false
def glb:List (Nat×List AV):=[(0,[.unk .i64])]
def glbO:List (Nat×List Value):=[(1,Lib.pow10Tab.map fun z=> .int .u64 z)]
theorem zmp:glb.all (fun p=>(AV.eptr p.2).flat)=true:=rfl
def zcZ:List AV→Option AV
 | [.str s,.str t]=>if s.length<4294967281 then some (.bool (Lib.contains s t)) else none
 |_=>none
def dec2 (n:Nat):List UInt8:=if n<10 then [UInt8.ofNat (48+n)] else [UInt8.ofNat (48+n/10),UInt8.ofNat (48+n % 10)]
def zcr (n:Int):List UInt8:=if 0≤n∧n<100 then dec2 n.toNat else Lib.itoa n
def zml:List AV→Option AV
 | [.int .i64 n]=>if -9223372036854775808≤n∧n≤9223372036854775807 then some (.str (zcr n)) else none
 |_=>none
def repL (s:List UInt8):Nat→List UInt8
 |0=> []
 |n+1=>s++repL s n
def zfj:List AV→Option AV
 | [.str s,.int .i64 n]=>if 0≤n∧n≤1048576∧s.length≤1048576 then some (.str (repL s n.toNat)) else none
 |_=>none
def zcF:List AV→Option (List (List UInt8))
 | []=>some []
 | .str s::r=>(zcF r).map (s::·)
 |_::_=>none
def zbw (sep:List UInt8):List (List UInt8)→List UInt8
 | []=> []
 | [x]=>x
 |x::r=>x++sep++zbw sep r
def zmj:List AV→Option AV
 | [.isl _ _ es,.str sep]=>match zcF es with
  |some l=>if (zbw sep l).length≤1073741824∧l.length≤1073741824 then some (.str (zbw sep l)) else none
  |none=>none
 |_=>none
def ext (f:FuncId):Option (List AV→Option AV):=if f=93 then some zcZ else if f=53 then some zml else if f=108 then some zfj else if f=52 then some zmj else none
def zfH:List (Nat×Nat×Nat):=[(87,0,2),(102,0,3)]
def zhA (vs:List AV) (H:Heap):Option (AV×Heap):=
 match vs with
 | [.bptr id off]=>match H[id]? with
  |some (.bx t cs)=>if zfH.contains (t,off,cs.length) then (match cs[off]? with
   |some .nilp=>some (.tuple [],H.set id (.bx t (cs.set off (.bptr id off))))
   |some (.bptr id' off')=>if id'=id∧off'=off then some (.tuple [],H) else none
   |_=>none) else none
  |_=>none
 |_=>none
def strM (vs:List AV) (H:Heap):Option (AV×Heap):=
 match vs with
 | [.bptr id off]=>match H[id]? with
  |some (.bx t cs)=>if zfH.contains (t,off,cs.length) then (match cs[off+1]? with
   |some (.isl (some true) _ [])=>some (.str [],H)
   |some (.bys b ver len)=>match H[b]? with
    |some (.byt v l)=>if v=ver∧len=l.length∧0<len∧len≤1073741824 then some (.str l,H.set b (.dead v)) else none
    |_=>none
   |_=>none) else none
  |_=>none
 |_=>none
def insS (x:List UInt8):List (List UInt8)→List (List UInt8)
 | []=> [x]
 |y::r=>if x≤y then x::y::r else y::insS x r
def zcp:List (List UInt8)→List (List UInt8)
 | []=> []
 |x::r=>insS x (zcp r)
def zjo (vs:List AV) (H:Heap):Option (AV×Heap):=
 match vs with
 | [.isl (some true) _ []]=>some (.tuple [],H)
 | [.osl id ver 0 len]=>match H[id]? with
  |some (.arr v 1 false es)=>if v=ver∧len=es.length∧0<len then (match zcF es with
   |some l=>if l.length≤1048576 then some (.tuple [],H.set id (.arr v 1 false ((zcp l).map .str))) else none
   |none=>none) else none
  |_=>none
 |_=>none
def zab:List (List UInt8)→List (List UInt8)
 | []=> []
 | [x]=> [x]
 |x::y::r=>if x=y then zab (y::r) else x::zab (y::r)
def zk5 (vs:List AV) (H:Heap):Option (AV×Heap):=
 match vs with
 | [.isl (some true) s []]=>some (.isl (some true) s [],H)
 | [.osl id ver 0 len]=>match H[id]? with
  |some (.arr v 1 false es)=>if v=ver∧len=es.length∧0<len then (match zcF es with
   |some l=>if l.length≤1048576 then some (.osl id ver 0 (zab l).length,H.set id (.arr v 1 false ((zab l++List.replicate (l.length - (zab l).length) []).map .str))) else none
   |none=>none) else none
  |_=>none
 |_=>none
def extM (f:FuncId):Option (List AV→Heap→Option (AV×Heap)):=if f=91 then some zhA else if f=38 then some strM else if f=273 then some zjo else if f=274 then some zk5 else none
def zaZ:Nat:=5
def bxT:List Nat:=[87,102]
def recs:List (Nat×(Bool×List Sh)):=[(61,(true,[.int .i64,.int .i64,.str,.int .i64,.rcs 61])),
 (57,(true,[.int .i64,.int .i64,.str,.sl false [.str],.rcs 61,.rcs 57,.rcs 57,.rcs 63])),
 (63,(true,[.int .i64,.str,.int .i64,.int .i64,.str,.int .i64,.rcs 61,.sl false [.str],.rcs 57]))]
def recL (e:Nat):Option (Bool×List Sh):=(recs.find? (fun p=>p.1==e)).map (·.2)
end Go.Proofs.YtgamobngbenehaaGreatDoor
