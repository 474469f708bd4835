/-
  The law ScopeEnds, evaluated: true (conditions: none).
-/
import Derived.Test.YtpooicjhhogknaaR6
import Derived.Test.YtpooicjhhogknaaL5
namespace Go.Proofs.Ytpooicjhhogknaa
open Go Go.RowKit
set_option linter.unusedVariables false
set_option linter.unusedSimpArgs false
set_option maxRecDepth 10000

theorem cancel_alike (b : Bool) (l : List Sc) (hl : l.length ≤ 40) (i w : Int) : ∃ a c t e, cancelZ nilS b l i w = .tuple [a, .bool t, I e] ∧ cancelZ noS b l i w = .tuple [c, .bool t, I e] ∧ Alike a c := by
  unfold cancelZ
  by_cases h1 : locate l i = 0
  · simp only [if_neg (show ¬ (locate l i ≠ 0) by simpa using h1)]
    by_cases hr : reasonB w = false
    · simp only [if_pos hr]; exact ⟨_, _, _, _, rfl, rfl, alike_no⟩
    · simp only [if_neg hr]
      obtain ⟨h2, h3, h4⟩ := locate_ok h1
      have hk : i.toNat < l.length := by omega
      rw [List.getElem?_eq_getElem hk]
      simp only
      by_cases hd : l[i.toNat].reason ≠ 0 ∨ l[i.toNat].closed = true
      · simp only [if_pos hd]
        exact ⟨_, _, _, _, rfl, rfl, rfl, rfl, by rw [e20 _ _ _ _ (by omega)]; simp⟩
      · simp only [if_neg hd]; exact ⟨_, _, _, _, rfl, rfl, alike_scs _ (by simp; omega)⟩
  · simp only [if_pos h1]; exact ⟨_, _, _, _, rfl, rfl, alike_no⟩
theorem close_alike (l : List Sc) (hl : l.length ≤ 40) (i : Int) : ∃ a c e, closeV nilS l i = .tuple [a, I e] ∧ closeV noS l i = .tuple [c, I e] ∧ Alike a c := by
  unfold closeV
  by_cases h1 : locate l i = 0
  · simp only [if_neg (show ¬ (locate l i ≠ 0) by simpa using h1)]
    obtain ⟨h2, h3, h4⟩ := locate_ok h1
    have hk : i.toNat < l.length := by omega
    rw [List.getElem?_eq_getElem hk]
    simp only
    by_cases hd : l[i.toNat].closed = true ∨ 0 < l[i.toNat].children ∨ l.any (openP i) = true
    · simp only [if_pos hd]; exact ⟨_, _, _, rfl, rfl, alike_no⟩
    · simp only [if_neg hd]; exact ⟨_, _, _, rfl, rfl, alike_scs _ (by simp; omega)⟩
  · simp only [if_pos h1]; exact ⟨_, _, _, rfl, rfl, alike_no⟩
theorem a6 (R : Rec) (v a b c d : AV) (i w e g : Int) (t : Bool) (kv : okO v = some v) (ka : okO a = some a) (kb : okO b = some b) (kc : okO c = some c) (kd : okO d = some d)
    (h12 : R.pure 12 [v] = some (.bool false)) (h18 : R.pure 18 [v, I i, I w] = some (.tuple [a, .bool t, I e])) (h31 : R.pure 31 [v, I i, I w] = some (.tuple [b, .bool t, I e]))
    (h32 : R.pure 32 [v, I i] = some (.tuple [c, I g])) (h33 : R.pure 33 [v, I i] = some (.tuple [d, I g])) (s1 : R.pure 20 [a, b] = some (.bool true)) (s2 : R.pure 20 [c, d] = some (.bool true)) (h14 : R.pure 14 [] = some (.bool true)) :
    ((evFun R fi6 [v, I i, I w] []).bind fun p => frz p.2 8 p.1) = some (.bool true) := by
  cases t <;> simp [fi6, c6, evFun, enterFr, resV, rvVs, rvV, kv, ka, kb, kc, kd, h12, h18, h31, h32, h33, s1, s2, h14, intBin]
theorem b6 (R : Rec) (v : AV) (i w : Int) (kv : okO v = some v) (h12 : R.pure 12 [v] = some (.bool true)) (h14 : R.pure 14 [] = some (.bool true)) :
    ((evFun R fi6 [v, I i, I w] []).bind fun p => frz p.2 8 p.1) = some (.bool true) := by
  simp [fi6, c6, evFun, enterFr, resV, rvVs, rvV, kv, h12, h14]
theorem e6 (b : Bool) (l : List Sc) (hb : b = true → l = []) (i w : Int) : W.pure 6 [scs (some b) l, I i, I w] = some (.bool true) := by
  rw [W_pure Φ6 rfl]
  have h12 := e12 (some b) l
  cases hg : great l with
  | true => rw [hg] at h12; exact b6 W _ i w rfl h12 e14
  | false =>
    rw [hg] at h12
    have hl : l.length ≤ 40 := by simp [great] at hg; omega
    obtain ⟨a, a', t, e, p1, p2, p3, p4, p5⟩ := cancel_alike b l hl i w
    obtain ⟨c, c', g, q1, q2, q3, q4, q5⟩ := close_alike l hl i
    have h18 := e18 b l hb i w
    rw [cancelV_eq, p1] at h18
    have h31 := e31 b l hb (by omega) i w
    rw [p2] at h31
    have h32 := e32 b l hb i
    rw [q1] at h32
    have h33 := e33 b l hb (by omega) i
    rw [q2] at h33
    exact a6 W _ _ _ _ _ i w e g t rfl p3 p4 q3 q4 h12 h18 h31 h32 h33 p5 q5 e14
end Go.Proofs.Ytpooicjhhogknaa
