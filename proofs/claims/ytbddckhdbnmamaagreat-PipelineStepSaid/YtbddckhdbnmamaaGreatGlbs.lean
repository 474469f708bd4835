/-
  The package variables that are read (none), and functions whose effects are known (conditions: none).
-/
import Derived.Test.YtbddckhdbnmamaaGreatAvs
namespace Go.Proofs.YtbddckhdbnmamaaGreat
open Go Go.RowKit
set_option linter.unusedVariables false
set_option linter.unusedSimpArgs false
def glb:List (Nat×List AV):=[]
def glbO:List (Nat×List Value):=[]
theorem zrc:glb.all (fun p=>(AV.eptr p.2).flat)=true:=rfl
def zer:List AV→Option (List (List UInt8))
 | []=>some []
 | .str s::r=>(zer r).map (s::·)
 |_::_=>none
def ext (f:FuncId):Option (List AV→Option AV):=none
def insS (x:List UInt8):List (List UInt8)→List (List UInt8)
 | []=> [x]
 |y::r=>if x≤y then x::y::r else y::insS x r
def zcw:List (List UInt8)→List (List UInt8)
 | []=> []
 |x::r=>insS x (zcw r)
def zm4 (vs:List AV) (H:Heap):Option (AV×Heap):=
 match vs with
 | [.isl (some true) _ []]=>some (.tuple [],H)
 | [.osl id ver 0 len]=>match H[id]? with
  |some (.arr v 1 false es)=>if v=ver∧len=es.length∧0<len then (match zer es with
   |some l=>if l.length≤1048576 then some (.tuple [],H.set id (.arr v 1 false ((zcw l).map .str))) else none
   |none=>none) else none
  |_=>none
 |_=>none
def zag:List (List UInt8)→List (List UInt8)
 | []=> []
 | [x]=> [x]
 |x::y::r=>if x=y then zag (y::r) else x::zag (y::r)
def zo4 (vs:List AV) (H:Heap):Option (AV×Heap):=
 match vs with
 | [.isl (some true) s []]=>some (.isl (some true) s [],H)
 | [.osl id ver 0 len]=>match H[id]? with
  |some (.arr v 1 false es)=>if v=ver∧len=es.length∧0<len then (match zer es with
   |some l=>if l.length≤1048576 then some (.osl id ver 0 (zag l).length,H.set id (.arr v 1 false ((zag l++List.replicate (l.length - (zag l).length) []).map .str))) else none
   |none=>none) else none
  |_=>none
 |_=>none
def zey:List AV→Option (List Int)
 | []=>some []
 | .int .i64 a::r=>(zey r).map (a::·)
 |_::_=>none
def insI (x:Int):List Int→List Int
 | []=> [x]
 |y::r=>if x≤y then x::y::r else y::insI x r
def zd4:List Int→List Int
 | []=> []
 |x::r=>insI x (zd4 r)
def zhQ (vs:List AV) (H:Heap):Option (AV×Heap):=
 match vs with
 | [.isl (some true) _ []]=>some (.tuple [],H)
 | [.osl id ver 0 len]=>match H[id]? with
  |some (.arr v 1 false es)=>if v=ver∧len=es.length∧0<len then (match zey es with
   |some l=>if l.length≤1048576 then some (.tuple [],H.set id (.arr v 1 false ((zd4 l).map (.int .i64)))) else none
   |none=>none) else none
  |_=>none
 |_=>none
def zfL:List AV→Option (List (Int×Int))
 | []=>some []
 | .agg [.int .i64 a,.int .i64 b]::r=>(zfL r).map ((a,b)::·)
 |_::_=>none
abbrev ziU (p:Int×Int):AV:= .agg [.int .i64 p.1,.int .i64 p.2]
def leE (p q:Int×Int):Bool:=decide (p.1<q.1)||(decide (p.1=q.1)&&decide (p.2≤q.2))
def insE (x:Int×Int):List (Int×Int)→List (Int×Int)
 | []=> [x]
 |y::r=>if leE x y=true then x::y::r else y::insE x r
def zhS:List (Int×Int)→List (Int×Int)
 | []=> []
 |x::r=>insE x (zhS r)
def zm5 (vs:List AV) (H:Heap):Option (AV×Heap):=
 match vs with
 | [.isl (some true) _ [],.clo 107 [] []]=>some (.tuple [],H)
 | [.osl id ver 0 len,.clo 107 [] []]=>match H[id]? with
  |some (.arr v 2 false es)=>if v=ver∧len=es.length∧0<len then (match zfL es with
   |some l=>if l.length≤1048576 then some (.tuple [],H.set id (.arr v 2 false ((zhS l).map ziU))) else none
   |none=>none) else none
  |_=>none
 |_=>none
def extM (f:FuncId):Option (List AV→Heap→Option (AV×Heap)):=if f=212 then some zm4 else if f=213 then some zo4 else if f=106 then some zm5 else if f=228 then some zhQ else none
def byteT:Nat:=5
def bxT:List Nat:=[]
def recs:List (Nat×(Bool×List Sh)):=[(48,(true,[.int .i64,.int .i64,.str,.int .i64,.rcs 48]))]
def recL (e:Nat):Option (Bool×List Sh):=(recs.find? (fun p=>p.1==e)).map (·.2)
end Go.Proofs.YtbddckhdbnmamaaGreat
