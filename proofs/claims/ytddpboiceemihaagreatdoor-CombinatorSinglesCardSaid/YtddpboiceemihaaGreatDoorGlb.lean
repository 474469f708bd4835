/-
  The package variables that are read, and functions whose answers or effects are known (conditions: none).
-/
import Derived.Test.YtddpboiceemihaaGreatDoorAv
import Derived.Lib.IndexMore
namespace Go.Proofs.YtddpboiceemihaaGreatDoor
open Go Go.RowKit
set_option linter.unusedVariables false

/-- Numbers of package variables, and their cells: internal/bytealg.MaxLen, some number. -/
def glb : List (Nat × List AV) := [(0, [.unk .i64])]
theorem glb_flat : glb.all (fun p => (AV.eptr p.2).flat) = true := rfl
/-- strings.Contains. -/
def containsA : List AV → Option AV
  | [.str s, .str t] => if s.length < 4294967281 then some (.bool (Lib.contains s t)) else none
  | _ => none
/-- A number below 100 in decimal. -/
def dec2 (n : Nat) : List UInt8 := if n < 10 then [UInt8.ofNat (48 + n)] else [UInt8.ofNat (48 + n / 10), UInt8.ofNat (48 + n % 10)]
/-- strconv.Itoa, of small numbers. -/
def itoaA : List AV → Option AV
  | [.int .i64 n] => if 0 ≤ n ∧ n < 100 then some (.str (dec2 n.toNat)) else none
  | _ => none
def repL (s : List UInt8) : Nat → List UInt8
  | 0 => []
  | n + 1 => s ++ repL s n
/-- strings.Repeat. -/
def repeatA : List AV → Option AV
  | [.str s, .int .i64 n] => if 0 ≤ n ∧ n ≤ 1048576 ∧ s.length ≤ 1048576 then some (.str (repL s n.toNat)) else none
  | _ => none
/-- Strings out of values. -/
def strsOf : List AV → Option (List (List UInt8))
  | [] => some []
  | .str s :: r => (strsOf r).map (s :: ·)
  | _ :: _ => none
def joinL (sep : List UInt8) : List (List UInt8) → List UInt8
  | [] => []
  | [x] => x
  | x :: r => x ++ sep ++ joinL sep r
/-- strings.Join. -/
def joinA : List AV → Option AV
  | [.isl _ _ es, .str sep] => match strsOf es with
    | some l => if (joinL sep l).length ≤ 1073741824 ∧ l.length ≤ 1073741824 then some (.str (joinL sep l)) else none
    | none => none
  | _ => none
/-- Functions whose answers are known: what they answer. -/
def ext (f : FuncId) : Option (List AV → Option AV) := if f = 164 then some containsA else if f = 97 then some itoaA else if f = 144 then some repeatA else if f = 96 then some joinA else none
/-- The types of variables that hold a strings.Builder, and where. -/
def bldAt : List (Nat × Nat × Nat) := [(129, 0, 2), (131, 0, 3)]
/-- (*strings.Builder).copyCheck. -/
def copyM (vs : List AV) (H : Heap) : Option (AV × Heap) :=
  match vs with
  | [.bptr id off] => match H[id]? with
    | some (.bx t cs) => if bldAt.contains (t, off, cs.length) then (match cs[off]? with
      | some .nilp => some (.tuple [], H.set id (.bx t (cs.set off (.bptr id off))))
      | some (.bptr id' off') => if id' = id ∧ off' = off then some (.tuple [], H) else none
      | _ => none) else none
    | _ => none
  | _ => none
/-- (*strings.Builder).String. -/
def strM (vs : List AV) (H : Heap) : Option (AV × Heap) :=
  match vs with
  | [.bptr id off] => match H[id]? with
    | some (.bx t cs) => if bldAt.contains (t, off, cs.length) then (match cs[off + 1]? with
      | some (.isl (some true) _ []) => some (.str [], H)
      | some (.bys b ver len) => match H[b]? with
        | some (.byt v l) => if v = ver ∧ len = l.length ∧ 0 < len ∧ len ≤ 1073741824 then some (.str l, H.set b (.dead v)) else none
        | _ => none
      | _ => none) else none
    | _ => none
  | _ => none
def insS (x : List UInt8) : List (List UInt8) → List (List UInt8)
  | [] => [x]
  | y :: r => if x ≤ y then x :: y :: r else y :: insS x r
/-- Strings in order. -/
def sortS : List (List UInt8) → List (List UInt8)
  | [] => []
  | x :: r => insS x (sortS r)
/-- slices.Sort of strings. -/
def sortM (vs : List AV) (H : Heap) : Option (AV × Heap) :=
  match vs with
  | [.isl (some true) _ []] => some (.tuple [], H)
  | [.osl id ver 0 len] => match H[id]? with
    | some (.arr v 1 false es) => if v = ver ∧ len = es.length ∧ 0 < len then (match strsOf es with
      | some l => if l.length ≤ 1048576 then some (.tuple [], H.set id (.arr v 1 false ((sortS l).map .str))) else none
      | none => none) else none
    | _ => none
  | _ => none
/-- Without repetitions that stand side by side. -/
def compS : List (List UInt8) → List (List UInt8)
  | [] => []
  | [x] => [x]
  | x :: y :: r => if x = y then compS (y :: r) else x :: compS (y :: r)
/-- slices.Compact of strings. -/
def compM (vs : List AV) (H : Heap) : Option (AV × Heap) :=
  match vs with
  | [.isl (some true) s []] => some (.isl (some true) s [], H)
  | [.osl id ver 0 len] => match H[id]? with
    | some (.arr v 1 false es) => if v = ver ∧ len = es.length ∧ 0 < len then (match strsOf es with
      | some l => if l.length ≤ 1048576 then some (.osl id ver 0 (compS l).length, H.set id (.arr v 1 false ((compS l ++ List.replicate (l.length - (compS l).length) []).map .str))) else none
      | none => none) else none
    | _ => none
  | _ => none
/-- Functions on the call's own memory whose effect is known: what they answer, and the memory behind them. -/
def extM (f : FuncId) : Option (List AV → Heap → Option (AV × Heap)) := if f = 174 then some copyM else if f = 101 then some strM else if f = 246 then some sortM else if f = 247 then some compM else none
/-- The type of bytes. -/
def byteT : Nat := 5
/-- Types of variables of which the type is kept. -/
def bxT : List Nat := [129, 131]
/-- The shapes of the elements of slices within which there may be such slices again, by the elements' types. -/
def recs : List (Nat × (Bool × List Sh)) := [(73, (true, [.int .i64, .int .i64, .str, .int .i64, .rcs 73])),
  (52, (true, [.int .i64, .int .i64, .str, .sl false [.str], .rcs 73, .rcs 52, .rcs 52, .rcs 105])),
  (105, (true, [.int .i64, .str, .int .i64, .int .i64, .str, .int .i64, .rcs 73, .sl false [.str], .rcs 52]))]
def recL (e : Nat) : Option (Bool × List Sh) := (recs.find? (fun p => p.1 == e)).map (·.2)
end Go.Proofs.YtddpboiceemihaaGreatDoor
