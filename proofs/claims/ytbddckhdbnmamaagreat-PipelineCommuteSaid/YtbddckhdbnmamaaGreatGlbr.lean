/-
  The package variables that are read (none), and functions whose effects are known (conditions: none).
-/
import Derived.Test.YtbddckhdbnmamaaGreatAvr
namespace Go.Proofs.YtbddckhdbnmamaaGreat
open Go Go.RowKit
set_option linter.unusedVariables false
set_option linter.unusedSimpArgs false
def glb:List (Nat×List AV):=[]
def glbO:List (Nat×List Value):=[]
theorem zp9:glb.all (fun p=>(AV.eptr p.2).flat)=true:=rfl
def zd9:List AV→Option (List (List UInt8))
 | []=>some []
 | .str s::r=>(zd9 r).map (s::·)
 |_::_=>none
def ext (f:FuncId):Option (List AV→Option AV):=none
def insS (x:List UInt8):List (List UInt8)→List (List UInt8)
 | []=> [x]
 |y::r=>if x≤y then x::y::r else y::insS x r
def zcf:List (List UInt8)→List (List UInt8)
 | []=> []
 |x::r=>insS x (zcf r)
def zmw (vs:List AV) (H:Heap):Option (AV×Heap):=
 match vs with
 | [.isl (some true) _ []]=>some (.tuple [],H)
 | [.osl id ver 0 len]=>match H[id]? with
  |some (.arr v 1 false es)=>if v=ver∧len=es.length∧0<len then (match zd9 es with
   |some l=>if l.length≤1048576 then some (.tuple [],H.set id (.arr v 1 false ((zcf l).map .str))) else none
   |none=>none) else none
  |_=>none
 |_=>none
def zab:List (List UInt8)→List (List UInt8)
 | []=> []
 | [x]=> [x]
 |x::y::r=>if x=y then zab (y::r) else x::zab (y::r)
def zoe (vs:List AV) (H:Heap):Option (AV×Heap):=
 match vs with
 | [.isl (some true) s []]=>some (.isl (some true) s [],H)
 | [.osl id ver 0 len]=>match H[id]? with
  |some (.arr v 1 false es)=>if v=ver∧len=es.length∧0<len then (match zd9 es with
   |some l=>if l.length≤1048576 then some (.osl id ver 0 (zab l).length,H.set id (.arr v 1 false ((zab l++List.replicate (l.length - (zab l).length) []).map .str))) else none
   |none=>none) else none
  |_=>none
 |_=>none
def zeh:List AV→Option (List Int)
 | []=>some []
 | .int .i64 a::r=>(zeh r).map (a::·)
 |_::_=>none
def insI (x:Int):List Int→List Int
 | []=> [x]
 |y::r=>if x≤y then x::y::r else y::insI x r
def zdN:List Int→List Int
 | []=> []
 |x::r=>insI x (zdN r)
def zhx (vs:List AV) (H:Heap):Option (AV×Heap):=
 match vs with
 | [.isl (some true) _ []]=>some (.tuple [],H)
 | [.osl id ver 0 len]=>match H[id]? with
  |some (.arr v 1 false es)=>if v=ver∧len=es.length∧0<len then (match zeh es with
   |some l=>if l.length≤1048576 then some (.tuple [],H.set id (.arr v 1 false ((zdN l).map (.int .i64)))) else none
   |none=>none) else none
  |_=>none
 |_=>none
def zfz:List AV→Option (List (Int×Int))
 | []=>some []
 | .agg [.int .i64 a,.int .i64 b]::r=>(zfz r).map ((a,b)::·)
 |_::_=>none
abbrev ziB (p:Int×Int):AV:= .agg [.int .i64 p.1,.int .i64 p.2]
def leE (p q:Int×Int):Bool:=decide (p.1<q.1)||(decide (p.1=q.1)&&decide (p.2≤q.2))
def insE (x:Int×Int):List (Int×Int)→List (Int×Int)
 | []=> [x]
 |y::r=>if leE x y=true then x::y::r else y::insE x r
def zhz:List (Int×Int)→List (Int×Int)
 | []=> []
 |x::r=>insE x (zhz r)
def zmx (vs:List AV) (H:Heap):Option (AV×Heap):=
 match vs with
 | [.isl (some true) _ [],.clo 107 [] []]=>some (.tuple [],H)
 | [.osl id ver 0 len,.clo 107 [] []]=>match H[id]? with
  |some (.arr v 2 false es)=>if v=ver∧len=es.length∧0<len then (match zfz es with
   |some l=>if l.length≤1048576 then some (.tuple [],H.set id (.arr v 2 false ((zhz l).map ziB))) else none
   |none=>none) else none
  |_=>none
 |_=>none
def extM (f:FuncId):Option (List AV→Heap→Option (AV×Heap)):=if f=212 then some zmw else if f=213 then some zoe else if f=106 then some zmx else if f=228 then some zhx else none
def byteT:Nat:=5
def bxT:List Nat:=[]
def recs:List (Nat×(Bool×List Sh)):=[(48,(true,[.int .i64,.int .i64,.str,.int .i64,.rcs 48]))]
def recL (e:Nat):Option (Bool×List Sh):=(recs.find? (fun p=>p.1==e)).map (·.2)
end Go.Proofs.YtbddckhdbnmamaaGreat
