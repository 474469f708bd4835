/-
  The package variables that are read, and functions whose answers or effects are known (conditions: none).
-/
import Derived.Lib.IndexMore
import Derived.Test.YtddpboiceemihaaGreatDoorAvs
namespace Go.Proofs.YtddpboiceemihaaGreatDoor
open Go Go.RowKit
set_option linter.unusedVariables false
set_option linter.unusedSimpArgs false
def glb : List (Nat × List AV) := [(0, [.unk .i64])]
theorem glb_flat : glb.all (fun p => (AV.eptr p.2).flat) = true := rfl
def containsA : List AV → Option AV
 | [.str s, .str t] => if s.length < 4294967281 then some (.bool (Lib.contains s t)) else none
 | _ => none
def dec2 (n : Nat) : List UInt8 := if n < 10 then [UInt8.ofNat (48 + n)] else [UInt8.ofNat (48 + n / 10), UInt8.ofNat (48 + n % 10)]
def itoaA : List AV → Option AV
 | [.int .i64 n] => if 0 ≤ n ∧ n < 100 then some (.str (dec2 n.toNat)) else none
 | _ => none
def repL (s : List UInt8) : Nat → List UInt8
 | 0 => []
 | n + 1 => s ++ repL s n
def repeatA : List AV → Option AV
 | [.str s, .int .i64 n] => if 0 ≤ n ∧ n ≤ 1048576 ∧ s.length ≤ 1048576 then some (.str (repL s n.toNat)) else none
 | _ => none
def strsOf : List AV → Option (List (List UInt8))
 | [] => some []
 | .str s :: r => (strsOf r).map (s :: ·)
 | _ :: _ => none
def joinL (sep : List UInt8) : List (List UInt8) → List UInt8
 | [] => []
 | [x] => x
 | x :: r => x ++ sep ++ joinL sep r
def joinA : List AV → Option AV
 | [.isl _ _ es, .str sep] => match strsOf es with
  | some l => if (joinL sep l).length ≤ 1073741824 ∧ l.length ≤ 1073741824 then some (.str (joinL sep l)) else none
  | none => none
 | _ => none
def ext (f : FuncId) : Option (List AV → Option AV) := if f = 164 then some containsA else if f = 97 then some itoaA else if f = 144 then some repeatA else if f = 96 then some joinA else none
def bldAt : List (Nat × Nat × Nat) := [(129, 0, 2), (131, 0, 3)]
def copyM (vs : List AV) (H : Heap) : Option (AV × Heap) :=
 match vs with
 | [.bptr id off] => match H[id]? with
  | some (.bx t cs) => if bldAt.contains (t, off, cs.length) then (match cs[off]? with
   | some .nilp => some (.tuple [], H.set id (.bx t (cs.set off (.bptr id off))))
   | some (.bptr id' off') => if id' = id ∧ off' = off then some (.tuple [], H) else none
   | _ => none) else none
  | _ => none
 | _ => none
def strM (vs : List AV) (H : Heap) : Option (AV × Heap) :=
 match vs with
 | [.bptr id off] => match H[id]? with
  | some (.bx t cs) => if bldAt.contains (t, off, cs.length) then (match cs[off + 1]? with
   | some (.isl (some true) _ []) => some (.str [], H)
   | some (.bys b ver len) => match H[b]? with
    | some (.byt v l) => if v = ver ∧ len = l.length ∧ 0 < len ∧ len ≤ 1073741824 then some (.str l, H.set b (.dead v)) else none
    | _ => none
   | _ => none) else none
  | _ => none
 | _ => none
def insS (x : List UInt8) : List (List UInt8) → List (List UInt8)
 | [] => [x]
 | y :: r => if x ≤ y then x :: y :: r else y :: insS x r
def sortS : List (List UInt8) → List (List UInt8)
 | [] => []
 | x :: r => insS x (sortS r)
def sortM (vs : List AV) (H : Heap) : Option (AV × Heap) :=
 match vs with
 | [.isl (some true) _ []] => some (.tuple [], H)
 | [.osl id ver 0 len] => match H[id]? with
  | some (.arr v 1 false es) => if v = ver ∧ len = es.length ∧ 0 < len then (match strsOf es with
   | some l => if l.length ≤ 1048576 then some (.tuple [], H.set id (.arr v 1 false ((sortS l).map .str))) else none
   | none => none) else none
  | _ => none
 | _ => none
def compS : List (List UInt8) → List (List UInt8)
 | [] => []
 | [x] => [x]
 | x :: y :: r => if x = y then compS (y :: r) else x :: compS (y :: r)
def compM (vs : List AV) (H : Heap) : Option (AV × Heap) :=
 match vs with
 | [.isl (some true) s []] => some (.isl (some true) s [], H)
 | [.osl id ver 0 len] => match H[id]? with
  | some (.arr v 1 false es) => if v = ver ∧ len = es.length ∧ 0 < len then (match strsOf es with
   | some l => if l.length ≤ 1048576 then some (.osl id ver 0 (compS l).length, H.set id (.arr v 1 false ((compS l ++ List.replicate (l.length - (compS l).length) []).map .str))) else none
   | none => none) else none
  | _ => none
 | _ => none
def extM (f : FuncId) : Option (List AV → Heap → Option (AV × Heap)) := if f = 174 then some copyM else if f = 101 then some strM else if f = 246 then some sortM else if f = 247 then some compM else none
def byteT : Nat := 5
def bxT : List Nat := [129, 131]
def recs : List (Nat × (Bool × List Sh)) := [(73, (true, [.int .i64, .int .i64, .str, .int .i64, .rcs 73])),
 (52, (true, [.int .i64, .int .i64, .str, .sl false [.str], .rcs 73, .rcs 52, .rcs 52, .rcs 105])),
 (105, (true, [.int .i64, .str, .int .i64, .int .i64, .str, .int .i64, .rcs 73, .sl false [.str], .rcs 52]))]
def recL (e : Nat) : Option (Bool × List Sh) := (recs.find? (fun p => p.1 == e)).map (·.2)
end Go.Proofs.YtddpboiceemihaaGreatDoor
