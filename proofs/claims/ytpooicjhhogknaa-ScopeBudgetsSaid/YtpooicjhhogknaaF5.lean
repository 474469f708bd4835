/-
  Plain functions for the program's, part 5: the example of the chapter (conditions: none).
-/
import Derived.Test.YtpooicjhhogknaaF4
namespace Go.Proofs.Ytpooicjhhogknaa
open Go Go.RowKit
set_option linter.unusedVariables false
set_option linter.unusedSimpArgs false
set_option maxRecDepth 10000

def sR : Sc := ⟨-1, -1, 0, 0, 0, -1, false⟩
def sA : Sc := ⟨0, 0, 0, 0, 0, -1, false⟩
def sB : Sc := ⟨1, 1, 0, 0, 9, 3, false⟩
def sA1 : Sc := ⟨0, 0, 0, 1, 0, -1, false⟩
def sR8 : Sc := ⟨-1, -1, 0, 8, 0, -1, false⟩
theorem ev_equal (a : Option Bool) (x y : List Int) (hy : y ≠ []) (hl : x.length ≤ 1000000) : W.pure 16 [ints x, .isl a 1 (y.map I)] = some (.bool (decide (x = y))) := by
  cases x with
  | nil => exact e16 (some true) a 0 1 [] y (fun h => absurd rfl h) (fun _ => rfl) hl
  | cons u r => exact e16 (some false) a 1 1 (u :: r) y (fun _ => rfl) (fun _ => rfl) hl
@[simp] theorem okO_ints (x : List Int) : okO (ints x) = some (ints x) := by cases x <;> rfl
theorem ck1 : check [sR] = 0 := by simp [check, checkFrom, numbersB, limitsB, reasonB, pclosed, sR]
theorem ck2 : check [sR, sA] = 0 := by simp [check, checkFrom, numbersB, limitsB, reasonB, pclosed, sR, sA]
theorem ck3 : check [sR, sA, sB] = 0 := by simp [check, checkFrom, numbersB, limitsB, reasonB, pclosed, sR, sA, sB]
theorem ck4 : check [sR, sA1, sB] = 0 := by simp [check, checkFrom, numbersB, limitsB, reasonB, pclosed, sR, sA1, sB]
theorem ck5 : check [sR8, sA1, sB] = 0 := by simp [check, checkFrom, numbersB, limitsB, reasonB, pclosed, sR8, sA1, sB]
theorem o1 : W.pure 22 [scs (some false) [sR], I 0, I 0, I 0, I (-1)] = some (.tuple [scs (some false) [sR, sA], I 1, I 0]) := by
  rw [e22 false _ (fun h => by cases h)]
  simp [openV, ck1, limitsB]
  simp [sR, sA]
theorem o2 : W.pure 22 [scs (some false) [sR, sA], I 1, I 1, I 9, I 3] = some (.tuple [scs (some false) [sR, sA, sB], I 2, I 0]) := by
  rw [e22 false _ (fun h => by cases h)]
  simp [openV, ck2, limitsB]
  simp [sR, sA, sB]
theorem c1 : W.pure 18 [scs (some false) [sR, sA, sB], I 1, I 1] = some (.tuple [scs (some false) [sR, sA1, sB], .bool true, I 0]) := by
  rw [e18 false _ (fun h => by cases h)]
  simp [cancelV, locate, ck3, reasonB]
  simp [sA, sA1]
theorem c2 : W.pure 18 [scs (some false) [sR, sA1, sB], I 0, I 8] = some (.tuple [scs (some false) [sR8, sA1, sB], .bool true, I 0]) := by
  rw [e18 false _ (fun h => by cases h)]
  simp [cancelV, locate, ck4, reasonB]
  simp [sR, sR8]
theorem ch : W.pure 15 [scs (some false) [sR, sA, sB], I 2] = some (ints [2, 1, 0]) := by
  rw [e15 _ _ _ (by simp)]
  simp [chainL, locate, ck3, up, par]
  simp [sR, sA, sB]
theorem eqi : W.pure 16 [ints [2, 1, 0], .isl (some false) 1 [I 2, I 1, I 0]] = some (.bool true) := by
  have := ev_equal (some false) [2, 1, 0] [2, 1, 0] (by simp) (by simp)
  simpa using this
theorem u1 : W.pure 21 [scs (some false) [sR, sA1, sB], I 2] = some (I 1) := by
  rw [e21]
  simp [cause, chainL, locate, ck4, up, par]
  simp [sR, sA1, sB, cauNx, reasonAt]
theorem u2 : W.pure 21 [scs (some false) [sR, sA1, sB], I 0] = some (I (-1)) := by
  rw [e21]
  simp [cause, chainL, locate, ck4, up, par]
  simp [sR, sA1, sB, cauNx, reasonAt]
theorem u3 : W.pure 21 [scs (some false) [sR8, sA1, sB], I 2] = some (I 0) := by
  rw [e21]
  simp [cause, chainL, locate, ck5, up, par]
  simp [sR8, sA1, sB, cauNx, reasonAt]
theorem a14 (R : Rec) (v0 v1 v2 v3 v4 v5 : AV) (k0 : okO v0 = some v0) (k1 : okO v1 = some v1) (k2 : okO v2 = some v2) (k3 : okO v3 = some v3) (k4 : okO v4 = some v4) (k5 : okO v5 = some v5)
    (h29 : R.pure 29 [] = some v0) (o1 : R.pure 22 [v0, I 0, I 0, I 0, I (-1)] = some (.tuple [v1, I 1, I 0])) (o2 : R.pure 22 [v1, I 1, I 1, I 9, I 3] = some (.tuple [v2, I 2, I 0]))
    (c1 : R.pure 18 [v2, I 1, I 1] = some (.tuple [v3, .bool true, I 0])) (c2 : R.pure 18 [v3, I 0, I 8] = some (.tuple [v4, .bool true, I 0])) (ch : R.pure 15 [v2, I 2] = some v5)
    (eqi : R.pure 16 [v5, .isl (some false) 1 [I 2, I 1, I 0]] = some (.bool true)) (u1 : R.pure 21 [v3, I 2] = some (I 1)) (u2 : R.pure 21 [v3, I 0] = some (I (-1))) (u3 : R.pure 21 [v4, I 2] = some (I 0)) :
    ((evFun R fi14 [] []).bind fun p => frz p.2 8 p.1) = some (.bool true) := by
  simp [fi14, c14, evFun, enterFr, resV, rvVs, rvV, k0, k1, k2, k3, k4, k5, h29, o1, o2, c1, c2, ch, eqi, u1, u2, u3, intBin, ex, exApp, truncH, bslE]
theorem e14 : W.pure 14 [] = some (.bool true) := by
  rw [W_pure Φ14 rfl]
  exact a14 W _ _ _ _ _ _ (okO_scs _ _) (okO_scs _ _) (okO_scs _ _) (okO_scs _ _) (okO_scs _ _) (okO_ints _) e29 o1 o2 c1 c2 ch eqi u1 u2 u3
end Go.Proofs.Ytpooicjhhogknaa
