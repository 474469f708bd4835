/-
  Concat of two lists of scopes; what spending from one scope changes (conditions: none).
-/
import Derived.Test.YtpooicjhhogknaaV1
namespace Go.Proofs.Ytpooicjhhogknaa
open Go Go.RowKit
set_option linter.unusedVariables false
set_option linter.unusedSimpArgs false
set_option maxRecDepth 10000

theorem w64_1 : IntKind.wrap .i64 1 = 1 := by decide
theorem w64_2 : IntKind.wrap .i64 2 = 2 := by decide
def two (a b : Option Bool) (A B : List AV) : AV := .isl (some false) 1 [.isl a 7 A, .isl b 7 B]
def catV (l : List AV) : AV := if l = [] then .isl (some true) 0 [] else .isl (some false) 7 l
theorem loop40_1 (a b : Option Bool) (A B : List AV) (hl : A.length + B.length ≤ 1000) (H : Heap) :
    okC (W.loop [0, 3, 9, 10, 11] l40_1 [(0, two a b A B), (3, I 0), (9, two a b A B), (10, I 2), (11, I 0)] H) (fun x F' H' => x = .exit 0 ∧ F'.get 0 = two a b A B ∧ F'.get 3 = I ((A.length + B.length : Nat) : Int) ∧ H' = H) := by
  have hA : IntKind.wrap .i64 (A.length : Int) = A.length := by rw [wrap64] <;> omega
  have hB : IntKind.wrap .i64 ((A.length : Int) + B.length) = (A.length : Int) + B.length := by rw [wrap64] <;> omega
  have n1 : ¬ (A.length : Int) < 0 := by omega
  have n2 : ¬ (A.length : Int) + B.length < 0 := by omega
  rw [om_turn]
  simp [evl40_1, b40_1, intBin, two, hA, n1, w64_1]
  rw [om_turn]
  simp [evl40_1, b40_1, intBin, hB, n2, w64_2]
  rw [om_turn]
  simp [evl40_1, b40_1, intBin]
def zSc : AV := .agg [I 0, I 0, I 0, I 0, I 0, I 0, .bool false]
theorem e58z (H : Heap) : W.call (.clo 58 [] []) [.isl (some true) 0 [], I 0] H = some (.isl (some true) 0 [], H) := by
  rw [W_call Φ58]
  have h0 : IntKind.wrap .i64 0 = 0 := by decide
  simp [fi58, c58, evFun, enterFr, intBin, resV, rvVs, rvV, intBin, h0]
theorem e58p (n : Nat) (hp : 0 < n) (hn : n ≤ 1000) (H : Heap) : W.call (.clo 58 [] []) [.isl (some true) 0 [], I n] H = some (.osl H.length 0 0 0, H ++ [.arr 0 7 false (List.replicate n zSc)]) := by
  rw [W_call Φ58]
  have n1 : ¬ (n : Int) < 0 := by omega
  have hw : IntKind.wrap .i64 (n : Int) = n := by rw [wrap64] <;> omega
  have h0 : IntKind.wrap .i64 0 = 0 := by decide
  have hp' : (0 : Int) < n := by omega
  have h1 : (1 : Int) ≤ n := by omega
  have h2 : (n : Int) ≤ 1048576 := by omega
  have hz : ¬ n = 0 := by omega
  simp [fi58, c58, evFun, enterFr, intBin, resV, rvVs, rvV, intBin, h0, n1, hw, hp', h1, h2, slcV, slcBounds, zSc, hz]
theorem loop40_0 (a b : Option Bool) (A B : List AV) (hA : A.all (fun e => e.cells.all AV.cell) = true) (hB : B.all (fun e => e.cells.all AV.cell) = true) (hl : A.length + B.length ≤ 1000) {o : Option Nat} {v : AV} {H : Heap} (hg : Grow H 7 o v []) :
    okC (W.loop [6, 25, 26, 27] l40_0 [(6, v), (25, two a b A B), (26, I 2), (27, I 0)] H) (fun x F' H' => x = .exit 2 ∧ ∃ o', Grow H' 7 o' (F'.get 6) (A ++ B) ∧ (o ≠ none → o' ≠ none)) := by
  obtain ⟨o1, v1, H1, a1, g1, k1, d1, _⟩ := hg.app (y := .isl a 7 A) (xs := A) (by simp) hA (by simp [appRoom]; omega)
  obtain ⟨o2, v2, H2, a2, g2, k2, d2, _⟩ := g1.app (y := .isl b 7 B) (xs := B) (by simp) hB (by simp [appRoom]; omega)
  have r0 := hg.okO
  have r1 := g1.okO
  have r2 := g2.okO
  rw [om_turn]
  simp [evl40_0, b40_0, intBin, two, r0, a1, r1, w64_1]
  rw [om_turn]
  simp [evl40_0, b40_0, intBin, r1, a2, r2, w64_2]
  rw [om_turn]
  simp [evl40_0, b40_0, intBin, r2]
  refine ⟨o2, by simpa using g2, fun h => ?_⟩
  have h1 : o1 ≠ none := by
    rcases d1 with h' | ⟨h', _⟩
    · rw [h']; exact h
    · exact absurd h' h
  rcases d2 with h' | ⟨h', _⟩
  · rw [h']; exact h1
  · exact absurd h' h1
theorem e40 (a b : Option Bool) (A B : List AV) (hA : A.all (fun e => e.cells.all AV.cell) = true) (hB : B.all (fun e => e.cells.all AV.cell) = true) (sA : A.all (fun e => e.cells.all AV.still) = true) (sB : B.all (fun e => e.cells.all AV.still) = true) (hl : A.length + B.length ≤ 1000) :
    W.pure 40 [two a b A B] = some (catV (A ++ B)) := by
  rw [W_pure Φ40 rfl]
  obtain ⟨x1, F1, H1, e1, rfl, p1, p2, rfl⟩ := okC_iff.1 (loop40_1 a b A B hl [])
  have hz : okO (two a b A B) = some (two a b A B) := rfl
  have hln : lenV false (two a b A B) = I 2 := by simp [two]
  by_cases h0 : A.length + B.length = 0
  · have hA0 : A = [] := List.eq_nil_of_length_eq_zero (by omega)
    have hB0 : B = [] := List.eq_nil_of_length_eq_zero (by omega)
    subst hA0; subst hB0
    have e2' : okC (W.loop [6, 25, 26, 27] l40_0 [(6, .isl (some true) 0 []), (25, two a b [] []), (26, I 2), (27, I 0)] []) (fun x F' H' => x = .exit 2 ∧ F'.get 6 = .isl (some true) 0 [] ∧ H' = []) := by
      rw [om_turn]
      simp [evl40_0, b40_0, intBin, two, exApp, truncH, ex, w64_1]
      rw [om_turn]
      simp [evl40_0, b40_0, intBin, exApp, truncH, ex, w64_2]
      rw [om_turn]
      simp [evl40_0, b40_0, intBin]
    obtain ⟨x2, F2, H2, e2, rfl, p3, rfl⟩ := okC_iff.1 e2'
    have h58 := e58z []
    simp at p2
    simp [fi40, c40, evFun, enterFr, intBin, resV, rvVs, rvV, hz, hln, e1, p1, p2, h58, e2, p3, catV]
  · obtain ⟨x2, F2, H2, e2, rfl, o, g, ho⟩ := okC_iff.1 (loop40_0 a b A B hA hB hl (o := some 0) (v := .osl 0 0 0 0) (H := [.arr 0 7 false (List.replicate (A.length + B.length) zSc)]) ⟨0, List.replicate (A.length + B.length) zSc, rfl, by simp⟩)
    have h58 := e58p (A.length + B.length) (by omega) hl []
    have hne : ¬ A ++ B = [] := by
      intro h
      have := congrArg List.length h
      rw [List.length_append, List.length_nil] at this
      omega
    have hf := g.frz (n := 7) (by rw [List.all_append, sA, sB]; rfl)
    rw [if_neg (ho (by simp))] at hf
    simp only [List.nil_append, List.length_nil] at h58
    simp [fi40, c40, evFun, enterFr, intBin, resV, rvVs, rvV, hz, hln, e1, p1, p2, e2, g.okO, hf, catV, hne, -Int.natCast_add, -List.append_eq_nil_iff, h58]
end Go.Proofs.Ytpooicjhhogknaa
