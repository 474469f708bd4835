/-
  Timeout and Each of both sides (conditions: none). Retry of both sides (conditions: none). Limited of both sides (conditions: none). Limited of the reference; CombinatorSingles, as a law of plain values (conditions: none).
-/
import Derived.Test.YtddpboiceemihaaGreatDoorAC
namespace Go.Proofs.YtddpboiceemihaaGreatDoor
section
open Go Go.RowKit
set_option linter.unusedVariables false
set_option linter.unusedSimpArgs false
set_option maxRecDepth 10000

theorem e44g (s : List UInt8) (d : Ex) (b : Sl St) : W.pure 44 [.str s, d.av, Sl.av St.av 8 b] = some (stS 14 s (ofL 5 [d, zeroE]) b).av := by
  have := e44 s d.kind d.op d.value d.name d.args b
  rwa [← Ex.eta d] at this
theorem e50g (s : List UInt8) (d : Ex) (b : Sl St) : W.pure 50 [d.av, .str s, Sl.av St.av 8 b] = some (stS 14 s (ofL 5 [d, zeroE]) b).av := by
  have := e50 s d.kind d.op d.value d.name d.args b
  rwa [← Ex.eta d] at this
theorem zE : (.agg [I 0, I 0, .str [], I 0, .isl (some true) 0 []] : AV) = zeroE.av := rfl
theorem zE1 (a : Ex) : (.isl (some false) 5 [a.av] : AV) = Sl.av Ex.av 5 (ofL 5 [a]) := rfl
theorem zE2 (a b : Ex) : (.isl (some false) 5 [a.av, b.av] : AV) = Sl.av Ex.av 5 (ofL 5 [a, b]) := rfl
theorem zS1 (a : St) : (.isl (some false) 8 [a.av] : AV) = Sl.av St.av 8 (ofL 8 [a]) := rfl
theorem zS2 (a b : St) : (.isl (some false) 8 [a.av, b.av] : AV) = Sl.av St.av 8 (ofL 8 [a, b]) := rfl
theorem zS3 (a b c : St) : (.isl (some false) 8 [a.av, b.av, c.av] : AV) = Sl.av St.av 8 (ofL 8 [a, b, c]) := rfl
theorem zS4 (a b c d : St) : (.isl (some false) 8 [a.av, b.av, c.av, d.av] : AV) = Sl.av St.av 8 (ofL 8 [a, b, c, d]) := rfl
theorem zP1 (a : Pr) : (.isl (some false) 5 [a.av] : AV) = Sl.av Pr.av 5 (ofL 5 [a]) := rfl
theorem zP3 (a b c : Pr) : (.isl (some false) 5 [a.av, b.av, c.av] : AV) = Sl.av Pr.av 5 (ofL 5 [a, b, c]) := rfl
theorem e58 (a b c : Int) : W.pure 58 [I a, I b, I c] = some (.bool (decide (b ≤ a ∧ a ≤ c))) := by
  rw [W_pure Φ58 rfl]
  by_cases h1 : b ≤ a <;> by_cases h2 : a ≤ c <;> simp [fi58, c58, evFun, enterFr, intBin, resV, rvVs, rvV, h1, h2]
def leaveS : St := stS 6 [] (ofL 5 [nmE rS]) slNil
def tmoPr (es : Sl Ex) (ps : Sl (List UInt8)) (name proc : List UInt8) (n : Int) : Pr := prT name ps (ofL 8 [stS 14 rS (ofL 5 [numE n, zeroE]) (ofL 8 [stS 16 proc es slNil]), leaveS])
/-- Why a name, a task and a number cannot be combined. -/
def oneI (name proc : List UInt8) (lo hi n : Int) : Int := if (nameB name && nameB proc) = true then (if lo ≤ n ∧ n ≤ hi then 0 else 2) else 5
set_option maxHeartbeats 2000000 in
theorem e17 (name proc : List UInt8) (n : Int) : W.pure 17 [.str name, .str proc, I n] = some (.tuple [Sl.av Pr.av 5 (if oneI name proc 0 1099511627776 n = 0 then ofL 5 [tmoPr slNil slNil name proc n] else slNil), I (oneI name proc 0 1099511627776 n)]) := by
  rw [W_pure Φ17 rfl]
  have c1 := e40 name 0 (by omega)
  have c2 := e56 proc
  have hnb : namedB name 0 = nameB name := by simp [namedB]
  rw [hnb] at c1
  simp only [Int.natCast_zero, Int.cast_ofNat_Int] at c1
  unfold oneI
  cases h1 : nameB name with
  | false => rw [h1] at c1; simp [fi17, c17, evFun, enterFr, intBin, resV, rvVs, rvV, c1]; rfl
  | true =>
  rw [h1] at c1
  cases h2 : nameB proc with
  | false => rw [h2] at c2; simp [fi17, c17, evFun, enterFr, intBin, resV, rvVs, rvV, c1, c2]; rfl
  | true =>
  rw [h2] at c2
  by_cases h3 : n < 0
  · have h3' : ¬ (0 ≤ n ∧ n ≤ 1099511627776) := by omega
    simp [fi17, c17, evFun, enterFr, intBin, resV, rvVs, rvV, c1, c2, h3, h3']; rfl
  by_cases h4 : 1099511627776 < n
  · have h3' : ¬ (0 ≤ n ∧ n ≤ 1099511627776) := by omega
    simp [fi17, c17, evFun, enterFr, intBin, resV, rvVs, rvV, c1, c2, h3, h4, h3']; rfl
  have h3' : 0 ≤ n ∧ n ≤ 1099511627776 := by omega
  have d1 := call43 name []
  have d2 := e57 n
  have d3 := e42 proc slNil
  have d4 := e44g rS (numE n) (ofL 8 [stS 16 proc slNil slNil])
  have d5 := e45
  have d6 := call103 name (by have := nameB_len h1; omega) 0 (by omega) slNil (ofL 8 [stS 14 rS (ofL 5 [numE n, zeroE]) (ofL 8 [stS 16 proc slNil slNil]), leaveS]) 0 [.arr 0 1 false [.str name]] rfl
  have z0 : (Sl.av Ex.av 5 slNil : AV) = .isl (some true) 0 [] := rfl
  have z2 : (Sl.av AV.str 1 slNil : AV) = .isl (some true) 0 [] := rfl
  rw [z0] at d3
  rw [z2] at d6
  have hl : stS 6 [] (ofL 5 [nmE rS]) slNil = leaveS := rfl
  rw [hl] at d5
  unfold rS at d4 d6
  simp only [Int.natCast_zero, if_true, Int.cast_ofNat_Int] at d6
  simp [fi17, c17, evFun, enterFr, intBin, resV, rvVs, rvV, c1, c2, h3, h4, h3', d1, d2, d3, d4, d5, d6, zS1, zS2, zP1, tmoPr, rS]
set_option maxHeartbeats 2000000 in
theorem e18 (name proc : List UInt8) (n : Int) : W.pure 18 [.str name, .str proc, I n] = some (.tuple [Sl.av Pr.av 5 (if oneI name proc 0 1099511627776 n = 0 then ofL 5 [tmoPr (ofL 5 []) (ofL 1 []) name proc n] else ofL 5 []), I (oneI name proc 0 1099511627776 n)]) := by
  rw [W_pure Φ18 rfl]
  have c1 := e46 (ofL 1 [name, proc]) (by simp)
  have c2 := e58 n 0 1099511627776
  have z3 : (Sl.av AV.str 1 (ofL 1 [name, proc]) : AV) = .isl (some false) 1 [.str name, .str proc] := rfl
  rw [z3] at c1
  have c3 : (ofL 1 [name, proc]).l.all nameB = (nameB name && nameB proc) := by simp
  rw [c3] at c1
  unfold oneI
  cases h1 : nameB name && nameB proc with
  | false => rw [h1] at c1; simp at c1; simp [fi18, c18, evFun, enterFr, intBin, resV, rvVs, rvV, c1]; rfl
  | true =>
  rw [h1] at c1
  simp at c1
  by_cases h3 : 0 ≤ n ∧ n ≤ 1099511627776
  rotate_left
  · simp [h3] at c2; simp [fi18, c18, evFun, enterFr, intBin, resV, rvVs, rvV, c1, c2, h3]; rfl
  have d2 := e59 n
  have d3 := e48 proc (ofL 5 [])
  have d4 := e50g rS (numE n) (ofL 8 [stS 16 proc (ofL 5 []) slNil])
  have d5 := e51
  have d6 := e49 name (ofL 1 []) (ofL 8 [stS 14 rS (ofL 5 [numE n, zeroE]) (ofL 8 [stS 16 proc (ofL 5 []) slNil]), leaveS])
  have z0 : (Sl.av Ex.av 5 (ofL 5 []) : AV) = .isl (some false) 5 [] := rfl
  have z2 : (Sl.av AV.str 1 (ofL 1 []) : AV) = .isl (some false) 1 [] := rfl
  rw [z0] at d3
  rw [z2] at d6
  have hl : stS 6 [] (ofL 5 [nmE rS]) slNil = leaveS := rfl
  rw [hl] at d5
  unfold rS at d4 d6
  simp [h3] at c2
  simp [fi18, c18, evFun, enterFr, intBin, resV, rvVs, rvV, c1, c2, h3, d2, d3, d4, d5, d6, zS1, zS2, zP1, tmoPr, rS]
def cntSt (proc : List UInt8) (n : Int) : St := stS 14 rS (ofL 5 [zeroE, zeroE]) (ofL 8 [stS 1 iS (ofL 5 [numE 0]) slNil, stS 5 [] (ofL 5 [numE n]) (ofL 8 [stS 16 proc (ofL 5 [nmE iS]) slNil, stS 2 iS (ofL 5 [binE 3 (ofL 5 [nmE iS, numE 1])]) slNil])])
theorem e67 (proc : List UInt8) (n : Int) : W.pure 67 [.str proc, I n] = some (cntSt proc n).av := (le_om 60).pure _ _ _ (by kernel_rfl)
def eachPr (ps : Sl (List UInt8)) (name proc : List UInt8) (n : Int) : Pr := prT name ps (ofL 8 [cntSt proc n, leaveS])
theorem e68 (name proc : List UInt8) (n : Int) : W.pure 68 [.str name, .str proc, I n] = some (eachPr (ofL 1 []) name proc n).av := (le_om 60).pure _ _ _ (by kernel_rfl)
set_option maxHeartbeats 2000000 in
theorem e21 (name proc : List UInt8) (n : Int) : W.pure 21 [.str name, .str proc, I n] = some (.tuple [Sl.av Pr.av 5 (if oneI name proc 0 15 n = 0 then ofL 5 [eachPr slNil name proc n] else slNil), I (oneI name proc 0 15 n)]) := by
  rw [W_pure Φ21 rfl]
  have c1 := e40 name 0 (by omega)
  have c2 := e56 proc
  have hnb : namedB name 0 = nameB name := by simp [namedB]
  rw [hnb] at c1
  simp only [Int.natCast_zero, Int.cast_ofNat_Int] at c1
  unfold oneI
  cases h1 : nameB name with
  | false => rw [h1] at c1; simp [fi21, c21, evFun, enterFr, intBin, resV, rvVs, rvV, c1]; rfl
  | true =>
  rw [h1] at c1
  cases h2 : nameB proc with
  | false => rw [h2] at c2; simp [fi21, c21, evFun, enterFr, intBin, resV, rvVs, rvV, c1, c2]; rfl
  | true =>
  rw [h2] at c2
  by_cases h3 : n < 0
  · have h3' : ¬ (0 ≤ n ∧ n ≤ 15) := by omega
    simp [fi21, c21, evFun, enterFr, intBin, resV, rvVs, rvV, c1, c2, h3, h3']; rfl
  by_cases h4 : 16 ≤ n
  · have h3' : ¬ (0 ≤ n ∧ n ≤ 15) := by omega
    simp [fi21, c21, evFun, enterFr, intBin, resV, rvVs, rvV, c1, c2, h3, h4, h3']; rfl
  have h3' : 0 ≤ n ∧ n ≤ 15 := by omega
  have d1 := call43 name []
  have d4 := e67 proc n
  have d5 := e45
  have d6 := call103 name (by have := nameB_len h1; omega) 0 (by omega) slNil (ofL 8 [cntSt proc n, leaveS]) 0 [.arr 0 1 false [.str name]] rfl
  have z2 : (Sl.av AV.str 1 slNil : AV) = .isl (some true) 0 [] := rfl
  rw [z2] at d6
  have hl : stS 6 [] (ofL 5 [nmE rS]) slNil = leaveS := rfl
  rw [hl] at d5
  simp only [Int.natCast_zero, if_true, Int.cast_ofNat_Int] at d6
  simp [fi21, c21, evFun, enterFr, intBin, resV, rvVs, rvV, c1, c2, h3, h4, h3', d1, d4, d5, d6, zS1, zS2, zP1, eachPr]
set_option maxHeartbeats 2000000 in
theorem e22 (name proc : List UInt8) (n : Int) : W.pure 22 [.str name, .str proc, I n] = some (.tuple [Sl.av Pr.av 5 (if oneI name proc 0 15 n = 0 then ofL 5 [eachPr (ofL 1 []) name proc n] else ofL 5 []), I (oneI name proc 0 15 n)]) := by
  rw [W_pure Φ22 rfl]
  have c1 := e46 (ofL 1 [name, proc]) (by simp)
  have c2 := e58 n 0 15
  have z3 : (Sl.av AV.str 1 (ofL 1 [name, proc]) : AV) = .isl (some false) 1 [.str name, .str proc] := rfl
  rw [z3] at c1
  have c3 : (ofL 1 [name, proc]).l.all nameB = (nameB name && nameB proc) := by simp
  rw [c3] at c1
  unfold oneI
  cases h1 : nameB name && nameB proc with
  | false => rw [h1] at c1; simp at c1; simp [fi22, c22, evFun, enterFr, intBin, resV, rvVs, rvV, c1]; rfl
  | true =>
  rw [h1] at c1
  simp at c1
  by_cases h3 : 0 ≤ n ∧ n ≤ 15
  rotate_left
  · simp [h3] at c2; simp [fi22, c22, evFun, enterFr, intBin, resV, rvVs, rvV, c1, c2, h3]; rfl
  have d6 := e68 name proc n
  simp [h3] at c2
  simp [fi22, c22, evFun, enterFr, intBin, resV, rvVs, rvV, c1, c2, h3, d6, zP1]
end
section
open Go Go.RowKit
set_option linter.unusedVariables false
set_option linter.unusedSimpArgs false
set_option maxRecDepth 10000

theorem e65g (op : Int) (a b : Ex) : W.pure 65 [I op, a.av, b.av] = some (binE op (ofL 5 [a, b])).av := by
  have := e65 op a.kind a.op a.value b.kind b.op b.value a.name b.name a.args b.args
  rwa [← Ex.eta a, ← Ex.eta b] at this
theorem e66g (k : Int) (s : List UInt8) (a : Ex) : W.pure 66 [I k, .str s, a.av] = some (stS k s (ofL 5 [a]) slNil).av := by
  have := e66 k s a.kind a.op a.value a.name a.args
  rwa [← Ex.eta a] at this
theorem zB0 (k : Int) (es : Sl Ex) : (.agg [I k, I 0, .str [], .isl (some true) 0 [], Sl.av Ex.av 5 es, .isl (some true) 0 [], .isl (some true) 0 [], .isl (some true) 0 []] : AV) = (stS k [] es slNil).av := by
  unfold stS; rw [St.av_eq]; rfl
theorem zB1 (k : Int) (es : Sl Ex) (b : Sl St) : (.agg [I k, I 0, .str [], .isl (some true) 0 [], Sl.av Ex.av 5 es, Sl.av St.av 8 b, .isl (some true) 0 [], .isl (some true) 0 []] : AV) = (stS k [] es b).av := by
  unfold stS; rw [St.av_eq]; rfl
def againE (n : Int) : Ex := binE 14 (ofL 5 [binE 10 (ofL 5 [nmE nS, numE n]), binE 9 (ofL 5 [nmE rS, numE 0])])
def posE : Ex := binE 12 (ofL 5 [nmE nS, numE 0])
def sleepS (p : Int) : St := stS 10 [] (ofL 5 [numE p]) slNil
def waitS (p : Int) : St := stS 3 [] (ofL 5 [posE]) (ofL 8 [sleepS p])
def incS (s : List UInt8) : St := stS 2 s (ofL 5 [binE 3 (ofL 5 [nmE s, numE 1])]) slNil
def tryS (es : Sl Ex) (proc : List UInt8) : St := stS 14 rS (ofL 5 [zeroE, zeroE]) (ofL 8 [stS 16 proc es slNil])
def loopS (es : Sl Ex) (proc : List UInt8) (n p : Int) : St := stS 4 [] (ofL 5 [againE n]) (ofL 8 [waitS p, tryS es proc, incS nS])
def retPr (es : Sl Ex) (ps : Sl (List UInt8)) (name proc : List UInt8) (n p : Int) : Pr := prT name ps (ofL 8 [stS 1 nS (ofL 5 [numE 0]) slNil, stS 1 rS (ofL 5 [numE 1]) slNil, loopS es proc n p, leaveS])
def retI (name proc : List UInt8) (n p : Int) : Int := if (nameB name && nameB proc) = true then (if 1 ≤ n ∧ n ≤ 100 ∧ 0 ≤ p ∧ p ≤ 1099511627776 then 0 else 2) else 5
set_option maxHeartbeats 4000000 in
theorem e19 (name proc : List UInt8) (n p : Int) : W.pure 19 [.str name, .str proc, I n, I p] = some (.tuple [Sl.av Pr.av 5 (if retI name proc n p = 0 then ofL 5 [retPr slNil slNil name proc n p] else slNil), I (retI name proc n p)]) := by
  rw [W_pure Φ19 rfl]
  have c1 := e40 name 0 (by omega)
  have c2 := e56 proc
  have hnb : namedB name 0 = nameB name := by simp [namedB]
  rw [hnb] at c1
  simp only [Int.natCast_zero, Int.cast_ofNat_Int] at c1
  unfold retI
  cases h1 : nameB name with
  | false => rw [h1] at c1; simp [fi19, c19, evFun, enterFr, intBin, resV, rvVs, rvV, c1]; rfl
  | true =>
  rw [h1] at c1
  cases h2 : nameB proc with
  | false => rw [h2] at c2; simp [fi19, c19, evFun, enterFr, intBin, resV, rvVs, rvV, c1, c2]; rfl
  | true =>
  rw [h2] at c2
  by_cases h3 : n < 1
  · have h' : ¬ (1 ≤ n ∧ n ≤ 100 ∧ 0 ≤ p ∧ p ≤ 1099511627776) := by omega
    simp [fi19, c19, evFun, enterFr, intBin, resV, rvVs, rvV, c1, c2, h3, h']; rfl
  by_cases h4 : 100 < n
  · have h' : ¬ (1 ≤ n ∧ n ≤ 100 ∧ 0 ≤ p ∧ p ≤ 1099511627776) := by omega
    simp [fi19, c19, evFun, enterFr, intBin, resV, rvVs, rvV, c1, c2, h3, h4, h']; rfl
  by_cases h5 : p < 0
  · have h' : ¬ (1 ≤ n ∧ n ≤ 100 ∧ 0 ≤ p ∧ p ≤ 1099511627776) := by omega
    simp [fi19, c19, evFun, enterFr, intBin, resV, rvVs, rvV, c1, c2, h3, h4, h5, h']; rfl
  by_cases h6 : 1099511627776 < p
  · have h' : ¬ (1 ≤ n ∧ n ≤ 100 ∧ 0 ≤ p ∧ p ≤ 1099511627776) := by omega
    simp [fi19, c19, evFun, enterFr, intBin, resV, rvVs, rvV, c1, c2, h3, h4, h5, h6, h']; rfl
  have h' : 1 ≤ n ∧ n ≤ 100 ∧ 0 ≤ p ∧ p ≤ 1099511627776 := by omega
  have d1 := e60 nS
  have d2 := e60 rS
  have d3 := e57 n
  have d4 := e61 10 (ofL 5 [nmE nS, numE n])
  have d5 := e57 0
  have d6 := e61 9 (ofL 5 [nmE rS, numE 0])
  have d7 := e61 14 (ofL 5 [binE 10 (ofL 5 [nmE nS, numE n]), binE 9 (ofL 5 [nmE rS, numE 0])])
  have d8 := e61 12 (ofL 5 [nmE nS, numE 0])
  have d9 := e53 3 [] (ofL 5 [posE])
  have d10 := e57 p
  have d11 := e53 10 [] (ofL 5 [numE p])
  have d12 := e62 3 [] (ofL 5 [posE]) (ofL 8 [sleepS p])
  have d13 := e53 4 [] (ofL 5 [againE n])
  have d14 := e42 proc slNil
  have d15 := e44g rS zeroE (ofL 8 [stS 16 proc slNil slNil])
  have d16 := e63 nS
  have d17 := e62 4 [] (ofL 5 [againE n]) (ofL 8 [waitS p, tryS slNil proc, incS nS])
  have d18 := e57 1
  have d19 := e53 1 nS (ofL 5 [numE 0])
  have d20 := e53 1 rS (ofL 5 [numE 1])
  have d21 := e45
  have b1 : binE 14 (ofL 5 [binE 10 (ofL 5 [nmE nS, numE n]), binE 9 (ofL 5 [nmE rS, numE 0])]) = againE n := rfl
  have b2 : binE 12 (ofL 5 [nmE nS, numE 0]) = posE := rfl
  have b3 : stS 10 [] (ofL 5 [numE p]) slNil = sleepS p := rfl
  have b4 : stS 3 [] (ofL 5 [posE]) (ofL 8 [sleepS p]) = waitS p := rfl
  have b5 : stS 14 rS (ofL 5 [zeroE, zeroE]) (ofL 8 [stS 16 proc slNil slNil]) = tryS slNil proc := rfl
  have b6 : stS 2 nS (ofL 5 [binE 3 (ofL 5 [nmE nS, numE 1])]) slNil = incS nS := rfl
  have b7 : stS 4 [] (ofL 5 [againE n]) (ofL 8 [waitS p, tryS slNil proc, incS nS]) = loopS slNil proc n p := rfl
  have b8 : stS 6 [] (ofL 5 [nmE rS]) slNil = leaveS := rfl
  rw [b1] at d7
  rw [b2] at d8
  rw [b3] at d11
  rw [b4] at d12
  rw [b5] at d15
  rw [b6] at d16
  rw [b7] at d17
  rw [b8] at d21
  have k1 := call43 name [.arr 0 5 false [(nmE nS).av], .arr 0 5 false [(nmE rS).av], .arr 0 5 false [(againE n).av], .arr 0 8 false [(waitS p).av], .arr 0 8 false [(loopS slNil proc n p).av]]
  have k2 := call103 name (by have := nameB_len h1; omega) 0 (by omega) slNil (ofL 8 [stS 1 nS (ofL 5 [numE 0]) slNil, stS 1 rS (ofL 5 [numE 1]) slNil, loopS slNil proc n p, leaveS]) 5 [.arr 0 5 false [(nmE nS).av], .arr 0 5 false [(nmE rS).av], .arr 0 5 false [(againE n).av], .arr 0 8 false [(waitS p).av], .arr 0 8 false [(loopS slNil proc n p).av], .arr 0 1 false [.str name]] rfl
  have z0 : (Sl.av Ex.av 5 slNil : AV) = .isl (some true) 0 [] := rfl
  have z2 : (Sl.av AV.str 1 slNil : AV) = .isl (some true) 0 [] := rfl
  rw [z0] at d14
  rw [z2] at k2
  have n1 : ([110, 95] : List UInt8) = nS := rfl
  have n2 : ([114, 95] : List UInt8) = rS := rfl
  simp only [Int.natCast_zero, if_true, Int.cast_ofNat_Int] at k2
  simp at k1
  simp [fi19, c19, evFun, enterFr, intBin, resV, rvVs, rvV, c1, c2, h3, h4, h5, h6, h', n1, n2, d1, d2, d3, d4, d5, d6, d7, d8, d9, d10, d11, d12, d13, d14, zE, d15, d16, d17, d18, d19, d20, d21, k1, k2, zE1, zE2, zS1, zS3, zS4, zP1, retPr]
set_option maxHeartbeats 4000000 in
theorem e20 (name proc : List UInt8) (n p : Int) : W.pure 20 [.str name, .str proc, I n, I p] = some (.tuple [Sl.av Pr.av 5 (if retI name proc n p = 0 then ofL 5 [retPr (ofL 5 []) (ofL 1 []) name proc n p] else ofL 5 []), I (retI name proc n p)]) := by
  rw [W_pure Φ20 rfl]
  have c1 := e46 (ofL 1 [name, proc]) (by simp)
  have c2 := e58 n 1 100
  have c3 := e58 p 0 1099511627776
  have z3 : (Sl.av AV.str 1 (ofL 1 [name, proc]) : AV) = .isl (some false) 1 [.str name, .str proc] := rfl
  rw [z3] at c1
  have c4 : (ofL 1 [name, proc]).l.all nameB = (nameB name && nameB proc) := by simp
  rw [c4] at c1
  unfold retI
  cases h1 : nameB name && nameB proc with
  | false => rw [h1] at c1; simp at c1; simp [fi20, c20, evFun, enterFr, intBin, resV, rvVs, rvV, c1]; rfl
  | true =>
  rw [h1] at c1
  simp at c1
  by_cases h2 : 1 ≤ n ∧ n ≤ 100
  rotate_left
  · have h' : ¬ (1 ≤ n ∧ n ≤ 100 ∧ 0 ≤ p ∧ p ≤ 1099511627776) := by omega
    simp [h2] at c2; simp [fi20, c20, evFun, enterFr, intBin, resV, rvVs, rvV, c1, c2, h']; rfl
  by_cases h3 : 0 ≤ p ∧ p ≤ 1099511627776
  rotate_left
  · have h' : ¬ (1 ≤ n ∧ n ≤ 100 ∧ 0 ≤ p ∧ p ≤ 1099511627776) := by omega
    simp [h2] at c2; simp [h3] at c3; simp [fi20, c20, evFun, enterFr, intBin, resV, rvVs, rvV, c1, c2, c3, h']; rfl
  have h' : 1 ≤ n ∧ n ≤ 100 ∧ 0 ≤ p ∧ p ≤ 1099511627776 := by omega
  simp [h2] at c2
  simp [h3] at c3
  have d1 := e64 nS
  have d2 := e64 rS
  have d3 := e59 n
  have d4 := e65g 10 (nmE nS) (numE n)
  have d5 := e59 0
  have d6 := e65g 9 (nmE rS) (numE 0)
  have d7 := e65g 14 (binE 10 (ofL 5 [nmE nS, numE n])) (binE 9 (ofL 5 [nmE rS, numE 0]))
  have d8 := e65g 12 (nmE nS) (numE 0)
  have d10 := e59 p
  have d14 := e48 proc (ofL 5 [])
  have d15 := e50g rS zeroE (ofL 8 [stS 16 proc (ofL 5 []) slNil])
  have d16 := e65g 3 (nmE nS) (numE 1)
  have d17 := e66g 2 nS (binE 3 (ofL 5 [nmE nS, numE 1]))
  have d18 := e59 1
  have d19 := e66g 1 nS (numE 0)
  have d20 := e66g 1 rS (numE 1)
  have d21 := e51
  have k2 := e49 name (ofL 1 []) (ofL 8 [stS 1 nS (ofL 5 [numE 0]) slNil, stS 1 rS (ofL 5 [numE 1]) slNil, loopS (ofL 5 []) proc n p, leaveS])
  have b1 : binE 14 (ofL 5 [binE 10 (ofL 5 [nmE nS, numE n]), binE 9 (ofL 5 [nmE rS, numE 0])]) = againE n := rfl
  have b2 : binE 12 (ofL 5 [nmE nS, numE 0]) = posE := rfl
  have b3 : stS 10 [] (ofL 5 [numE p]) slNil = sleepS p := rfl
  have b4 : stS 3 [] (ofL 5 [posE]) (ofL 8 [sleepS p]) = waitS p := rfl
  have b5 : stS 14 rS (ofL 5 [zeroE, zeroE]) (ofL 8 [stS 16 proc (ofL 5 []) slNil]) = tryS (ofL 5 []) proc := rfl
  have b6 : stS 2 nS (ofL 5 [binE 3 (ofL 5 [nmE nS, numE 1])]) slNil = incS nS := rfl
  have b7 : stS 4 [] (ofL 5 [againE n]) (ofL 8 [waitS p, tryS (ofL 5 []) proc, incS nS]) = loopS (ofL 5 []) proc n p := rfl
  have b8 : stS 6 [] (ofL 5 [nmE rS]) slNil = leaveS := rfl
  rw [b1] at d7
  rw [b2] at d8
  rw [b5] at d15
  rw [b6] at d17
  rw [b8] at d21
  have z0 : (Sl.av Ex.av 5 (ofL 5 []) : AV) = .isl (some false) 5 [] := rfl
  have z2 : (Sl.av AV.str 1 (ofL 1 []) : AV) = .isl (some false) 1 [] := rfl
  rw [z0] at d14
  rw [z2] at k2
  have n1 : ([110, 95] : List UInt8) = nS := rfl
  have n2 : ([114, 95] : List UInt8) = rS := rfl
  simp [fi20, c20, evFun, enterFr, intBin, resV, rvVs, rvV, c1, c2, c3, h', n1, n2, d1, d2, d3, d4, d5, d6, d7, d8, d10, d14, zE, d15, d16, d17, d18, d19, d20, d21, k2, zE1, zE2, zS1, zS3, zS4, zP1, zB0, zB1, b3, b4, b7, retPr]
end
section
open Go Go.RowKit
set_option linter.unusedVariables false
set_option linter.unusedSimpArgs false
set_option maxRecDepth 10000

def getS (op : Int) (sem : List UInt8) : St := stO 19 op sem (ofL 5 [numE 1])
theorem zO (k op : Int) (s : List UInt8) (es : Sl Ex) : (.agg [I k, I op, .str s, .isl (some true) 0 [], Sl.av Ex.av 5 es, .isl (some true) 0 [], .isl (some true) 0 [], .isl (some true) 0 []] : AV) = (stO k op s es).av := by
  unfold stO; rw [St.av_eq]; rfl
theorem call69 (op : Int) (sem : List UInt8) (id : Nat) (H : Heap) (h : H[id]? = some (.arr 0 1 false [.str sem])) : W.call (.clo 69 [] [.optr id 0 0 0]) [I op] H = some ((getS op sem).av, H ++ [.arr 0 8 false [(getS op sem).av]]) := by
  rw [W_call Φ69]
  have d1 := e57 1
  have p1 : ∀ B, (H ++ [B])[id]? = some (.arr 0 1 false [.str sem]) := app_get h
  simp [fi69, c69, evFun, enterFr, intBin, resV, rvVs, rvV, d1, zE1, zO, h, p1, app_last, getS, -getElem?_pos, List.getElem?_cons_zero]
def workPr (name proc sem : List UInt8) : Pr := prT (hS name 1) (ofL 1 [iS]) (ofL 8 [getS 60 sem, stS 18 (hS name 2) slNil slNil, stS 14 [] (ofL 5 [zeroE, zeroE]) (ofL 8 [stS 16 proc (ofL 5 [nmE iS]) slNil])])
def freePr (name sem : List UInt8) : Pr := Pr.mk 3 (hS name 2) slNil 0 (ofL 8 [getS 62 sem])
def limPrs (ps : Sl (List UInt8)) (name proc sem : List UInt8) (n : Int) : List Pr := [eachPr ps name (hS name 1) n, workPr name proc sem, freePr name sem]
def limI (name proc sem : List UInt8) (n : Int) : Int := if (namedB name 2 && nameB proc && nameB sem) = true then (if 0 ≤ n ∧ n ≤ 15 then 0 else 2) else 5
set_option maxHeartbeats 4000000 in
theorem e23 (name proc sem : List UInt8) (n : Int) : W.pure 23 [.str name, .str proc, .str sem, I n] = some (.tuple [Sl.av Pr.av 5 (if limI name proc sem n = 0 then ofL 5 (limPrs slNil name proc sem n) else slNil), I (limI name proc sem n)]) := by
  rw [W_pure Φ23 rfl]
  have c1 := e40 name 2 (by omega)
  have c2 := e56 proc
  have c3 := e56 sem
  simp only [Int.cast_ofNat_Int] at c1
  unfold limI
  cases h1 : namedB name 2 with
  | false => rw [h1] at c1; simp [fi23, c23, evFun, enterFr, intBin, resV, rvVs, rvV, c1]; rfl
  | true =>
  rw [h1] at c1
  cases h2 : nameB proc with
  | false => rw [h2] at c2; simp [fi23, c23, evFun, enterFr, intBin, resV, rvVs, rvV, c1, c2]; rfl
  | true =>
  rw [h2] at c2
  cases h3 : nameB sem with
  | false => rw [h3] at c3; simp [fi23, c23, evFun, enterFr, intBin, resV, rvVs, rvV, c1, c2, c3]; rfl
  | true =>
  rw [h3] at c3
  by_cases h4 : n < 0
  · have h' : ¬ (0 ≤ n ∧ n ≤ 15) := by omega
    simp [fi23, c23, evFun, enterFr, intBin, resV, rvVs, rvV, c1, c2, c3, h4, h']; rfl
  by_cases h5 : 16 ≤ n
  · have h' : ¬ (0 ≤ n ∧ n ≤ 15) := by omega
    simp [fi23, c23, evFun, enterFr, intBin, resV, rvVs, rvV, c1, c2, c3, h4, h5, h']; rfl
  have h' : 0 ≤ n ∧ n ≤ 15 := by omega
  have hnb : nameB name = true := by simp [namedB] at h1; exact h1.1
  have hn : name.length ≤ 1000 := by have := nameB_len hnb; omega
  have k1 := call43 name [.arr 0 1 false [.str sem]]
  have d1 := e52 name hn 1 (by omega)
  have d2 := e52 name hn 2 (by omega)
  have d3 := e67 (hS name 1) n
  have d4 := e45
  have k2 := call103 name hn 0 (by omega) slNil (ofL 8 [cntSt (hS name 1) n, leaveS]) 1 [.arr 0 1 false [.str sem], .arr 0 1 false [.str name]] rfl
  have b8 : stS 6 [] (ofL 5 [nmE rS]) slNil = leaveS := rfl
  rw [b8] at d4
  simp only [Int.natCast_zero, if_true, Int.cast_ofNat_Int] at k2
  have b1 : prT name slNil (ofL 8 [cntSt (hS name 1) n, leaveS]) = eachPr slNil name (hS name 1) n := rfl
  rw [b1] at k2
  generalize hP1 : Blk.arr 0 5 false [(eachPr slNil name (hS name 1) n).av] = P1 at k2
  have k3 := call69 60 sem 0 [.arr 0 1 false [.str sem], .arr 0 1 false [.str name], P1, P1, P1] rfl
  have d5 := e53 18 (hS name 2) slNil
  have d6 := e60 iS
  have d7 := e42 proc (ofL 5 [nmE iS])
  have d8 := e44g [] zeroE (ofL 8 [stS 16 proc (ofL 5 [nmE iS]) slNil])
  have k4 := call103 name hn 1 (by omega) (ofL 1 [iS]) (ofL 8 [getS 60 sem, stS 18 (hS name 2) slNil slNil, stS 14 [] (ofL 5 [zeroE, zeroE]) (ofL 8 [stS 16 proc (ofL 5 [nmE iS]) slNil])]) 1 [.arr 0 1 false [.str sem], .arr 0 1 false [.str name], P1, P1, P1, .arr 0 8 false [(getS 60 sem).av]] rfl
  rw [if_neg (by omega)] at k4
  have b2 : prT (hS name 1) (ofL 1 [iS]) (ofL 8 [getS 60 sem, stS 18 (hS name 2) slNil slNil, stS 14 [] (ofL 5 [zeroE, zeroE]) (ofL 8 [stS 16 proc (ofL 5 [nmE iS]) slNil])]) = workPr name proc sem := rfl
  rw [b2] at k4
  generalize hP2 : Blk.arr 0 5 false [(workPr name proc sem).av] = P2 at k4
  have k5 := call69 62 sem 0 [.arr 0 1 false [.str sem], .arr 0 1 false [.str name], P1, P1, P1, .arr 0 8 false [(getS 60 sem).av], P2, P2, P2] rfl
  have k6 := call103 name hn 2 (by omega) slNil (ofL 8 [getS 62 sem]) 1 [.arr 0 1 false [.str sem], .arr 0 1 false [.str name], P1, P1, P1, .arr 0 8 false [(getS 60 sem).av], P2, P2, P2, .arr 0 8 false [(getS 62 sem).av]] rfl
  rw [if_neg (by omega)] at k6
  subst hP1
  subst hP2
  have z0 : (Sl.av Ex.av 5 slNil : AV) = .isl (some true) 0 [] := rfl
  have z2 : (Sl.av AV.str 1 slNil : AV) = .isl (some true) 0 [] := rfl
  have z3 : (.isl (some false) 1 [.str iS] : AV) = Sl.av AV.str 1 (ofL 1 [iS]) := rfl
  rw [z0] at d5
  rw [z2] at k2 k6
  have n3 : ([105, 95] : List UInt8) = iS := rfl
  simp only [Int.cast_ofNat_Int] at d1 d2 k4 k6
  simp at k1 k2 k3 k4 k5 k6
  simp [fi23, c23, evFun, enterFr, intBin, resV, rvVs, rvV, c1, c2, c3, h4, h5, h', n3, z3, k1, d1, d3, d4, zS2, k2, k3, d2, d5, d6, zE1, d7, zS1, zE, d8, zS3, k4, k5, k6, zP3, limPrs, freePr]
  rfl
end
section
open Go Go.RowKit
set_option linter.unusedVariables false
set_option linter.unusedSimpArgs false
set_option maxRecDepth 10000

theorem zN (k : Int) (s : List UInt8) : (.agg [I k, I 0, .str s, .isl (some true) 0 [], .isl (some true) 0 [], .isl (some true) 0 [], .isl (some true) 0 [], .isl (some true) 0 []] : AV) = (stS k s slNil slNil).av := by
  unfold stS; rw [St.av_eq]; rfl
theorem zF (k : Int) (s : List UInt8) (b : Sl St) : (.agg [I k, .str s, .isl (some true) 0 [], I 0, Sl.av St.av 8 b] : AV) = (Pr.mk k s slNil 0 b).av := rfl
set_option maxHeartbeats 4000000 in
theorem e24 (name proc sem : List UInt8) (hn : name.length ≤ 1000) (n : Int) : W.pure 24 [.str name, .str proc, .str sem, I n] = some (.tuple [Sl.av Pr.av 5 (if limI name proc sem n = 0 then ofL 5 (limPrs (ofL 1 []) name proc sem n) else ofL 5 []), I (limI name proc sem n)]) := by
  rw [W_pure Φ24 rfl]
  have d1 := e54 name hn 1 (by omega)
  have d2 := e54 name hn 2 (by omega)
  have c1 := e46 (ofL 1 [name, hS name 1, hS name 2, proc, sem]) (by simp)
  have c2 := e58 n 0 15
  have z3 : (Sl.av AV.str 1 (ofL 1 [name, hS name 1, hS name 2, proc, sem]) : AV) = .isl (some false) 1 [.str name, .str (hS name 1), .str (hS name 2), .str proc, .str sem] := rfl
  rw [z3] at c1
  have c3 : (ofL 1 [name, hS name 1, hS name 2, proc, sem]).l.all nameB = (namedB name 2 && nameB proc && nameB sem) := by
    simp [namedB, List.range_succ, Bool.and_assoc]
  rw [c3] at c1
  simp only [Int.cast_ofNat_Int] at d1 d2
  unfold limI
  cases h1 : namedB name 2 && nameB proc && nameB sem with
  | false => rw [h1] at c1; simp at c1 d1 d2; simp [fi24, c24, evFun, enterFr, intBin, resV, rvVs, rvV, d1, d2, c1]; rfl
  | true =>
  rw [h1] at c1
  simp at c1 d1 d2
  by_cases h2 : 0 ≤ n ∧ n ≤ 15
  rotate_left
  · simp [h2] at c2; simp [fi24, c24, evFun, enterFr, intBin, resV, rvVs, rvV, d1, d2, c1, c2, h2]; rfl
  simp [h2] at c2
  have d3 := e59 1
  have d4 := e64 iS
  have d5 := e48 proc (ofL 5 [nmE iS])
  have d6 := e50g [] zeroE (ofL 8 [stS 16 proc (ofL 5 [nmE iS]) slNil])
  have d7 := e68 name (hS name 1) n
  have d8 := e49 (hS name 1) (ofL 1 [iS]) (ofL 8 [getS 60 sem, stS 18 (hS name 2) slNil slNil, stS 14 [] (ofL 5 [zeroE, zeroE]) (ofL 8 [stS 16 proc (ofL 5 [nmE iS]) slNil])])
  have b1 : ∀ op, stO 19 op sem (ofL 5 [numE 1]) = getS op sem := fun op => rfl
  have b2 : prT (hS name 1) (ofL 1 [iS]) (ofL 8 [getS 60 sem, stS 18 (hS name 2) slNil slNil, stS 14 [] (ofL 5 [zeroE, zeroE]) (ofL 8 [stS 16 proc (ofL 5 [nmE iS]) slNil])]) = workPr name proc sem := rfl
  rw [b2] at d8
  have z4 : (.isl (some false) 1 [.str iS] : AV) = Sl.av AV.str 1 (ofL 1 [iS]) := rfl
  have n3 : ([105, 95] : List UInt8) = iS := rfl
  simp [fi24, c24, evFun, enterFr, intBin, resV, rvVs, rvV, d1, d2, c1, c2, h2, d3, zE1, zO, b1, zN, n3, d4, d5, zS1, zE, d6, d7, z4, zS3, d8, zF, zP3, limPrs, freePr]
def firstS (l : List (List UInt8)) : List UInt8 := match l with | [] => [] | a :: _ => a
theorem e16 (o : Or) : W.pure 16 [o.av] = some (.str (firstS o.procs.l)) := by
  rw [W_pure Φ16 rfl]
  cases h : o.procs.l with
  | nil => simp [fi16, c16, evFun, enterFr, intBin, resV, rvVs, rvV, h, firstS]
  | cons a r =>
    have h1 : ¬ ((r.length : Int) + 1 = 0) := by omega
    simp [fi16, c16, evFun, enterFr, intBin, resV, rvVs, rvV, h, h1, firstS]
theorem leave_same : leaveS.eqv leaveS = true := eqv_stS _ _ _ _ _ _ (by simp [all2, sameEx_nm rS_nm]) (by simp [St.eqvs])
theorem num_same (k : Int) (s : List UInt8) {n : Int} (h : 0 ≤ n ∧ n ≤ 1099511627776) : (stS k s (ofL 5 [numE n]) slNil).eqv (stS k s (ofL 5 [numE n]) slNil) = true := eqv_stS _ _ _ _ _ _ (by simp [all2, sameEx_num h]) (by simp [St.eqvs])
theorem tmo_same (name proc : List UInt8) {n : Int} (h : 0 ≤ n ∧ n ≤ 1099511627776) : prEq (tmoPr slNil slNil name proc n) (tmoPr (ofL 5 []) (ofL 1 []) name proc n) = true := by
  have h1 := eqv_stS 16 proc slNil (ofL 5 []) slNil slNil (by simp [all2]) (by simp [St.eqvs])
  have h2 := eqv_stS 14 rS (ofL 5 [numE n, zeroE]) (ofL 5 [numE n, zeroE]) (ofL 8 [stS 16 proc slNil slNil]) (ofL 8 [stS 16 proc (ofL 5 []) slNil]) (by simp [all2, sameEx_num h, sameEx_zero]) (by simp [St.eqvs, h1])
  simp [prEq, tmoPr, prT, St.eqvs, h2, leave_same]
theorem inc_same (s : List UInt8) (h : sameEx (binE 3 (ofL 5 [nmE s, numE 1])) (binE 3 (ofL 5 [nmE s, numE 1])) = true) : (incS s).eqv (incS s) = true := eqv_stS _ _ _ _ _ _ (by simp [all2, h]) (by simp [St.eqvs])
theorem inc_i : sameEx (binE 3 (ofL 5 [nmE iS, numE 1])) (binE 3 (ofL 5 [nmE iS, numE 1])) = true := by decide +kernel
theorem inc_n : sameEx (binE 3 (ofL 5 [nmE nS, numE 1])) (binE 3 (ofL 5 [nmE nS, numE 1])) = true := by decide +kernel
theorem pos_same : sameEx posE posE = true := by decide +kernel
theorem cnt_same (proc : List UInt8) {n : Int} (h : 0 ≤ n ∧ n ≤ 15) : (cntSt proc n).eqv (cntSt proc n) = true := by
  have h1 := eqv_stS 16 proc (ofL 5 [nmE iS]) (ofL 5 [nmE iS]) slNil slNil (by simp [all2, sameEx_nm iS_nm]) (by simp [St.eqvs])
  have h2 := inc_same iS inc_i
  have h3 := eqv_stS 5 [] (ofL 5 [numE n]) (ofL 5 [numE n]) (ofL 8 [stS 16 proc (ofL 5 [nmE iS]) slNil, incS iS]) (ofL 8 [stS 16 proc (ofL 5 [nmE iS]) slNil, incS iS]) (by simp [all2, sameEx_num (n := n) ⟨h.1, by omega⟩]) (by simp [St.eqvs, h1, h2])
  have h4 := num_same 1 iS (n := 0) (by omega)
  exact eqv_stS 14 rS (ofL 5 [zeroE, zeroE]) (ofL 5 [zeroE, zeroE]) _ _ (by simp [all2, sameEx_zero]) (by simp only [St.eqvs, h4, Bool.true_and]; simp only [incS] at h3; simp [h3])
theorem each_same (name proc : List UInt8) {n : Int} (h : 0 ≤ n ∧ n ≤ 15) : prEq (eachPr slNil name proc n) (eachPr (ofL 1 []) name proc n) = true := by
  simp [prEq, eachPr, prT, St.eqvs, cnt_same proc h, leave_same]
theorem again_same {n : Int} (h : 1 ≤ n ∧ n ≤ 100) : sameEx (againE n) (againE n) = true := by
  refine sameEx_self ?_ (Ex.eqv_refl _)
  have h1 : (againE n).size = 7 := rfl
  have h2 : (againE n).depth = 3 := rfl
  have h3 : (againE n).parts = [againE n, binE 10 (ofL 5 [nmE nS, numE n]), nmE nS, numE n, binE 9 (ofL 5 [nmE rS, numE 0]), nmE rS, numE 0] := rfl
  have h4 : ¬ (n < 0 ∨ 1099511627776 < n) := by omega
  unfold exCheck
  rw [h1, h2, h3]
  simp [errOf, exPart, exShape, numE, againE, binE, nmE, h4, rS_nm, nS_nm]
theorem ret_same (name proc : List UInt8) {n p : Int} (h : 1 ≤ n ∧ n ≤ 100 ∧ 0 ≤ p ∧ p ≤ 1099511627776) : prEq (retPr slNil slNil name proc n p) (retPr (ofL 5 []) (ofL 1 []) name proc n p) = true := by
  have h1 := eqv_stS 16 proc slNil (ofL 5 []) slNil slNil (by simp [all2]) (by simp [St.eqvs])
  have h2 : (tryS slNil proc).eqv (tryS (ofL 5 []) proc) = true := eqv_stS 14 rS (ofL 5 [zeroE, zeroE]) (ofL 5 [zeroE, zeroE]) _ _ (by simp [all2, sameEx_zero]) (by simp [St.eqvs, h1])
  have h3 : (sleepS p).eqv (sleepS p) = true := num_same 10 [] h.2.2
  have h4 : (waitS p).eqv (waitS p) = true := eqv_stS 3 [] (ofL 5 [posE]) (ofL 5 [posE]) _ _ (by simp [all2, pos_same]) (by simp [St.eqvs, h3])
  have h5 := inc_same nS inc_n
  have h6 : (loopS slNil proc n p).eqv (loopS (ofL 5 []) proc n p) = true := eqv_stS 4 [] (ofL 5 [againE n]) (ofL 5 [againE n]) _ _ (by simp [all2, again_same ⟨h.1, h.2.1⟩]) (by simp [St.eqvs, h2, h4, h5])
  have h7 := num_same 1 nS (n := 0) (by omega)
  have h8 := num_same 1 rS (n := 1) (by omega)
  simp [prEq, retPr, prT, St.eqvs, h6, h7, h8, leave_same]
theorem get_same (op : Int) (sem : List UInt8) : (getS op sem).eqv (getS op sem) = true := by
  have h := sameEx_num (n := 1) (by omega)
  rw [St.eqv_eq]
  simp [getS, stO, all2, h, St.eqvs, Cs.eqvs]
theorem lim_same (name proc sem : List UInt8) {n : Int} (h : 0 ≤ n ∧ n ≤ 15) : all2 prEq (limPrs slNil name proc sem n) (limPrs (ofL 1 []) name proc sem n) = true := by
  have h1 := each_same name (hS name 1) h
  have h2 := eqv_stS 16 proc (ofL 5 [nmE iS]) (ofL 5 [nmE iS]) slNil slNil (by simp [all2, sameEx_nm iS_nm]) (by simp [St.eqvs])
  have h3 := eqv_stS 14 [] (ofL 5 [zeroE, zeroE]) (ofL 5 [zeroE, zeroE]) (ofL 8 [stS 16 proc (ofL 5 [nmE iS]) slNil]) (ofL 8 [stS 16 proc (ofL 5 [nmE iS]) slNil]) (by simp [all2, sameEx_zero]) (by simp [St.eqvs, h2])
  have h4 := eqv_stS 18 (hS name 2) slNil slNil slNil slNil (by simp [all2]) (by simp [St.eqvs])
  have h5 : prEq (workPr name proc sem) (workPr name proc sem) = true := by simp [prEq, workPr, prT, St.eqvs, h3, h4, get_same]
  have h6 : prEq (freePr name sem) (freePr name sem) = true := by simp [prEq, freePr, St.eqvs, get_same]
  simp [limPrs, all2, h1, h5, h6]
/-- Both sides make the same: what Same says of it. -/
theorem same_ok {P Q : List Pr} {e : Int} {z z' : Nat} (h : e = 0 → all2 prEq P Q = true ∧ P.length ≤ 1000000000 ∧ ∀ p ∈ P, St.bigs p.body.l ≤ 1000000000 ∧ p.params.l.length ≤ 1000000000) :
    W.pure 15 [Sl.av Pr.av 5 (if e = 0 then ofL 5 P else slNil), Sl.av Pr.av 5 (if e = 0 then ofL 5 Q else ofL 5 [])] = some (.bool true) := by
  by_cases hz : e = 0
  · obtain ⟨h1, h2, h3⟩ := h hz
    rw [if_pos hz, if_pos hz, e15 _ _ h2 h3, h1]
  · rw [if_neg hz, if_neg hz, e15 _ _ (by simp) (fun p hp => by simp at hp)]
    rfl
set_option maxHeartbeats 4000000 in
theorem law4 (o : Or) : W.pure 4 [o.av] = some (.bool true) := by
  rw [W_pure Φ4 rfl]
  have c1 := e9 o
  have c2 := e10
  cases h : orGreat o with
  | true => rw [h] at c1; simp [fi4, c4, evFun, enterFr, intBin, resV, rvVs, rvV, c1, c2]
  | false =>
  rw [h] at c1
  have hn : o.name.length ≤ 40 := by simp [orGreat] at h; exact h.1.1.1.2
  have c3 := e16 o
  generalize firstS o.procs.l = f at c3
  have d1 := e17 o.name f o.n
  have d2 := e18 o.name f o.n
  have d3 := e19 o.name f o.n o.pause
  have d4 := e20 o.name f o.n o.pause
  have d5 := e21 o.name f o.n
  have d6 := e22 o.name f o.n
  have d7 := e23 o.name f o.sem o.n
  have d8 := e24 o.name f o.sem (by omega) o.n
  have s1 := same_ok (P := [tmoPr slNil slNil o.name f o.n]) (Q := [tmoPr (ofL 5 []) (ofL 1 []) o.name f o.n]) (e := oneI o.name f 0 1099511627776 o.n) (z := 0) (z' := 0) (fun he => by
    have hb : 0 ≤ o.n ∧ o.n ≤ 1099511627776 := by
      unfold oneI at he
      split at he
      · split at he
        · assumption
        · omega
      · omega
    refine ⟨by simp [all2, tmo_same o.name f hb], by simp, fun p hp => ?_⟩
    simp at hp
    subst hp
    exact ⟨of_decide_eq_true (by kernel_rfl), of_decide_eq_true (by kernel_rfl)⟩)
  have s2 := same_ok (P := [retPr slNil slNil o.name f o.n o.pause]) (Q := [retPr (ofL 5 []) (ofL 1 []) o.name f o.n o.pause]) (e := retI o.name f o.n o.pause) (z := 0) (z' := 0) (fun he => by
    have hb : 1 ≤ o.n ∧ o.n ≤ 100 ∧ 0 ≤ o.pause ∧ o.pause ≤ 1099511627776 := by
      unfold retI at he
      split at he
      · split at he
        · assumption
        · omega
      · omega
    refine ⟨by simp [all2, ret_same o.name f hb], by simp, fun p hp => ?_⟩
    simp at hp
    subst hp
    exact ⟨of_decide_eq_true (by kernel_rfl), of_decide_eq_true (by kernel_rfl)⟩)
  have s3 := same_ok (P := [eachPr slNil o.name f o.n]) (Q := [eachPr (ofL 1 []) o.name f o.n]) (e := oneI o.name f 0 15 o.n) (z := 0) (z' := 0) (fun he => by
    have hb : 0 ≤ o.n ∧ o.n ≤ 15 := by
      unfold oneI at he
      split at he
      · split at he
        · assumption
        · omega
      · omega
    refine ⟨by simp [all2, each_same o.name f hb], by simp, fun p hp => ?_⟩
    simp at hp
    subst hp
    exact ⟨of_decide_eq_true (by kernel_rfl), of_decide_eq_true (by kernel_rfl)⟩)
  have s4 := same_ok (P := limPrs slNil o.name f o.sem o.n) (Q := limPrs (ofL 1 []) o.name f o.sem o.n) (e := limI o.name f o.sem o.n) (z := 0) (z' := 0) (fun he => by
    have hb : 0 ≤ o.n ∧ o.n ≤ 15 := by
      unfold limI at he
      split at he
      · split at he
        · assumption
        · omega
      · omega
    refine ⟨lim_same o.name f o.sem hb, by simp [limPrs], fun p hp => ?_⟩
    simp only [limPrs, List.mem_cons, List.not_mem_nil, or_false] at hp
    rcases hp with rfl | rfl | rfl
    · exact ⟨of_decide_eq_true (by kernel_rfl), of_decide_eq_true (by kernel_rfl)⟩
    · exact ⟨of_decide_eq_true (by kernel_rfl), of_decide_eq_true (by kernel_rfl)⟩
    · exact ⟨of_decide_eq_true (by kernel_rfl), of_decide_eq_true (by kernel_rfl)⟩)
  simp [fi4, c4, evFun, enterFr, intBin, resV, rvVs, rvV, c1, c2, c3, d1, d2, d3, d4, d5, d6, d7, d8, s1, s2, s3, s4]
end
end Go.Proofs.YtddpboiceemihaaGreatDoor
