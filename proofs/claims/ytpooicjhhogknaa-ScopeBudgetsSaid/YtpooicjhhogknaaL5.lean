/-
  The law ScopeTree, evaluated: true (conditions: none).
-/
import Derived.Test.YtpooicjhhogknaaR4
namespace Go.Proofs.Ytpooicjhhogknaa
open Go Go.RowKit
set_option linter.unusedVariables false
set_option linter.unusedSimpArgs false
set_option maxRecDepth 10000

@[simp] theorem okO_nilS : okO nilS = some nilS := rfl
/-- Two results that the law takes for the same. -/
def Alike (a b : AV) : Prop := okO a = some a ∧ okO b = some b ∧ W.pure 20 [a, b] = some (.bool true)
theorem alike_no : Alike nilS noS := ⟨rfl, rfl, e20n _⟩
theorem alike_scs (l : List Sc) (hl : l.length ≤ 1000000) : Alike (scs (some false) l) (scs (some false) l) := ⟨rfl, rfl, by rw [e20 _ _ _ _ hl]; simp⟩
theorem open_alike (l : List Sc) (hl : l.length ≤ 40) (p o d u : Int) : ∃ a b n e, openZ nilS l p o d u = .tuple [a, I n, I e] ∧ openZ noS l p o d u = .tuple [b, I n, I e] ∧ Alike a b := by
  unfold openZ
  by_cases h1 : check l = 0
  · simp only [if_neg (show ¬ (check l ≠ 0) by simpa using h1)]
    by_cases hr : p < 0 ∨ (l.length : Int) ≤ p ∨ o < 0 ∨ 16 ≤ o ∨ limitsB d u = false
    · simp only [if_pos hr]; exact ⟨_, _, _, _, rfl, rfl, alike_no⟩
    · simp only [if_neg hr]
      have hk : p.toNat < l.length := by omega
      rw [List.getElem?_eq_getElem hk]
      simp only
      by_cases hc : l[p.toNat].closed = true
      · simp only [if_pos hc]; exact ⟨_, _, _, _, rfl, rfl, alike_no⟩
      · simp only [if_neg hc]
        by_cases hd : (l.length : Int) = 32
        · simp only [if_pos hd]; exact ⟨_, _, _, _, rfl, rfl, alike_no⟩
        · simp only [if_neg hd]; exact ⟨_, _, _, _, rfl, rfl, alike_scs _ (by simp; omega)⟩
  · simp only [if_pos h1]; exact ⟨_, _, _, _, rfl, rfl, alike_no⟩
theorem enter_alike (l : List Sc) (hl : l.length ≤ 40) (i : Int) : ∃ a b e, enterV nilS l i = .tuple [a, I e] ∧ enterV noS l i = .tuple [b, I e] ∧ Alike a b := by
  unfold enterV
  by_cases h1 : locate l i = 0
  · simp only [if_neg (show ¬ (locate l i ≠ 0) by simpa using h1)]
    obtain ⟨h2, h3, h4⟩ := locate_ok h1
    have hk : i.toNat < l.length := by omega
    rw [List.getElem?_eq_getElem hk]
    simp only
    by_cases hc : l[i.toNat].closed = true
    · simp only [if_pos hc]; exact ⟨_, _, _, rfl, rfl, alike_no⟩
    · simp only [if_neg hc]
      by_cases hd : l[i.toNat].children = 16
      · simp only [if_pos hd]; exact ⟨_, _, _, rfl, rfl, alike_no⟩
      · simp only [if_neg hd]; exact ⟨_, _, _, rfl, rfl, alike_scs _ (by simp; omega)⟩
  · simp only [if_pos h1]; exact ⟨_, _, _, rfl, rfl, alike_no⟩
theorem leave_alike (l : List Sc) (hl : l.length ≤ 40) (i : Int) : ∃ a b e, leaveV nilS l i = .tuple [a, I e] ∧ leaveV noS l i = .tuple [b, I e] ∧ Alike a b := by
  unfold leaveV
  by_cases h1 : locate l i = 0
  · simp only [if_neg (show ¬ (locate l i ≠ 0) by simpa using h1)]
    obtain ⟨h2, h3, h4⟩ := locate_ok h1
    have hk : i.toNat < l.length := by omega
    rw [List.getElem?_eq_getElem hk]
    simp only
    by_cases hd : l[i.toNat].children = 0
    · simp only [if_pos hd]; exact ⟨_, _, _, rfl, rfl, alike_no⟩
    · simp only [if_neg hd]; exact ⟨_, _, _, rfl, rfl, alike_scs _ (by simp; omega)⟩
  · simp only [if_pos h1]; exact ⟨_, _, _, rfl, rfl, alike_no⟩

theorem a5 (R : Rec) (v r a b c d x y : AV) (i o t u n e g j q : Int) (kv : okO v = some v) (kr : okO r = some r) (ka : okO a = some a) (kb : okO b = some b) (kc : okO c = some c) (kd : okO d = some d) (kx : okO x = some x) (ky : okO y = some y)
    (h12 : R.pure 12 [v] = some (.bool false)) (h22 : R.pure 22 [v, I i, I o, I t, I u] = some (.tuple [a, I n, I e])) (h23 : R.pure 23 [v, I i, I o, I t, I u] = some (.tuple [b, I n, I e]))
    (h24 : R.pure 24 [v, I i] = some (.tuple [c, I g])) (h25 : R.pure 25 [v, I i] = some (.tuple [d, I g])) (h26 : R.pure 26 [v, I i] = some (.tuple [x, I j])) (h27 : R.pure 27 [v, I i] = some (.tuple [y, I j]))
    (h13 : R.pure 13 [v] = some (I q)) (h28 : R.pure 28 [v] = some (I q)) (h29 : R.pure 29 [] = some r) (h30 : R.pure 30 [] = some r)
    (s0 : R.pure 20 [r, r] = some (.bool true)) (s1 : R.pure 20 [a, b] = some (.bool true)) (s2 : R.pure 20 [c, d] = some (.bool true)) (s3 : R.pure 20 [x, y] = some (.bool true)) (h14 : R.pure 14 [] = some (.bool true)) :
    ((evFun R fi5 [v, I i, I o, I t, I u] []).bind fun p => frz p.2 8 p.1) = some (.bool true) := by
  simp [fi5, c5, evFun, enterFr, resV, rvVs, rvV, kv, kr, ka, kb, kc, kd, kx, ky, h12, h22, h23, h24, h25, h26, h27, h13, h28, h29, h30, s0, s1, s2, s3, h14, intBin]
theorem b5 (R : Rec) (v : AV) (i o t u : Int) (kv : okO v = some v) (h12 : R.pure 12 [v] = some (.bool true)) (h14 : R.pure 14 [] = some (.bool true)) :
    ((evFun R fi5 [v, I i, I o, I t, I u] []).bind fun p => frz p.2 8 p.1) = some (.bool true) := by
  simp [fi5, c5, evFun, enterFr, resV, rvVs, rvV, kv, h12, h14]
theorem e5 (b : Bool) (l : List Sc) (hb : b = true → l = []) (i o t u : Int) : W.pure 5 [scs (some b) l, I i, I o, I t, I u] = some (.bool true) := by
  rw [W_pure Φ5 rfl]
  have h12 := e12 (some b) l
  cases hg : great l with
  | true => rw [hg] at h12; exact b5 W _ i o t u rfl h12 e14
  | false =>
    rw [hg] at h12
    have hl : l.length ≤ 40 := by simp [great] at hg; omega
    obtain ⟨a, a', n, e, p1, p2, p3, p4, p5⟩ := open_alike l hl i o t u
    obtain ⟨c, c', g, q1, q2, q3, q4, q5⟩ := enter_alike l hl i
    obtain ⟨x, x', j, r1, r2, r3, r4, r5⟩ := leave_alike l hl i
    have h22 := e22 b l hb i o t u
    rw [openV_eq, p1] at h22
    have h23 := e23 b l hb i o t u
    rw [p2] at h23
    have h24 := e24 b l hb i
    rw [q1] at h24
    have h25 := e25 b l hb (by omega) i
    rw [q2] at h25
    have h26 := e26 b l hb i
    rw [r1] at h26
    have h27 := e27 b l hb (by omega) i
    rw [r2] at h27
    exact a5 W _ _ _ _ _ _ _ _ i o t u n e g j (check l) rfl rfl p3 p4 q3 q4 r3 r4 h12 h22 h23 h24 h25 h26 h27 (e13 _ l) (e28 _ l) e29 e30 (alike_scs _ (by simp)).2.2 p5 q5 r5 e14
end Go.Proofs.Ytpooicjhhogknaa
