/-
  ScopeBudgets, evaluated: true (conditions: none).
-/
import Derived.Test.YtpooicjhhogknaaB2
namespace Go.Proofs.Ytpooicjhhogknaa
open Go Go.RowKit
set_option linter.unusedVariables false
set_option linter.unusedSimpArgs false
set_option maxRecDepth 10000

theorem loop9 {l : List Sc} {n : Nat} {s : Sc} (hc : check l = 0) (hs : l[n]? = some s) (h8 : s.budget ≤ 8) : ∀ (d k : Nat) (H : Heap), k + d = s.budget.toNat →
    okC (W.loop [0, 1, 5, 6] l9_0 [(0, scs (some false) l), (1, I n), (5, scs (some false) (mk l n s k)), (6, I ((k : Int) + 1))] H) (fun x F' H' => x = .exit 0 ∧ F'.get 1 = I n ∧ F'.get 5 = scs (some false) (mk l n s s.budget.toNat)) := by
  have hn : n < l.length := (List.getElem?_eq_some_iff.1 hs).1
  have hlen := check_len hc
  obtain ⟨D, hD⟩ : ∃ D, s.budget.toNat = D := ⟨_, rfl⟩
  rw [hD]
  intro d
  induction d with
  | zero =>
    intro k H hk
    have hk' : k = D := by omega
    subst hk'
    have hle : ¬ ((k : Int) + 1 ≤ s.budget) := by omega
    rw [om_turn]
    simp [evl9_0, b9_0, intBin, hs, hle]
  | succ d ih =>
    intro k H hk
    have hkb : (k : Int) < s.budget := by omega
    have hle : (k : Int) + 1 ≤ s.budget := by omega
    have hcc : ∀ j : Nat, j < l.length → ((j : Int) ∈ [(n : Int), -1, n, 99] ↔ j = n) := by
      intro j hj
      simp
      omega
    obtain ⟨u1, u2⟩ := mk_spend hs hcc hkb
    have hck := mk_check hc hs (show k ≤ s.budget.toNat by omega)
    obtain ⟨nl, z, h34, hz⟩ := e34 false (mk l n s k) (by simp) (some false) [(n : Int), -1, n, 99] (by simp) hck
    rw [u1, u2] at h34
    rw [u2] at hz
    have h39 := e39w (mk l n s (k + 1)) (by rw [mk_len]; omega)
    have hml := mk_len l n s (k + 1)
    have hmg := mk_get hs (k + 1)
    have ih' := fun H => ih (k + 1) H (by omega)
    have hw1 : IntKind.wrap .i64 ((n : Int) + 1) = (n : Int) + 1 := wrap_succ (by omega)
    have hw2 : IntKind.wrap .i64 ((k : Int) + 1 + 1) = (k : Int) + 1 + 1 := by rw [wrap64] <;> omega
    have hw3 : IntKind.wrap .i64 (s.budget - ((k : Int) + 1)) = s.budget - ((k : Int) + 1) := by rw [wrap64] <;> omega
    obtain ⟨m', hm'⟩ : ∃ m', mk l n s (k + 1) = m' := ⟨_, rfl⟩
    have hA : (m'.map Sc.av).take n = (l.map Sc.av).take n := by
      rw [← hm']; unfold mk
      rw [← List.map_take, ← List.map_take, List.take_set_of_le (Nat.le_refl _)]
    have hB : (m'.map Sc.av).drop (n + 1) = (l.map Sc.av).drop (n + 1) := by
      rw [← hm']; unfold mk
      rw [← List.map_drop, ← List.map_drop, List.drop_set_of_lt (by omega)]
    have hX : (l.map Sc.av).take n ++ (l.map Sc.av).drop (n + 1) = (l.take n ++ l.drop (n + 1)).map Sc.av := by
      rw [List.map_append, List.map_take, List.map_drop]
    have c1 : ((l.map Sc.av).take n).all (fun e => e.cells.all AV.cell) = true := by rw [← List.map_take]; exact cell_av _
    have c2 : ((l.map Sc.av).drop (n + 1)).all (fun e => e.cells.all AV.cell) = true := by rw [← List.map_drop]; exact cell_av _
    have d1 : ((l.map Sc.av).take n).all (fun e => e.cells.all AV.still) = true := by rw [← List.map_take]; exact still_av _
    have d2 : ((l.map Sc.av).drop (n + 1)).all (fun e => e.cells.all AV.still) = true := by rw [← List.map_drop]; exact still_av _
    have h40 := e40 (some false) (some false) _ _ c1 c2 d1 d2 (by simp; omega)
    have h20 := e20c (l.take n ++ l.drop (n + 1)) (by simp; omega)
    rw [hX] at h40
    have kC : okO (catV ((l.take n ++ l.drop (n + 1)).map Sc.av)) = some (catV ((l.take n ++ l.drop (n + 1)).map Sc.av)) := by unfold catV; split <;> rfl
    have hl1 : n ≤ l.length := by omega
    have hl2 : (n : Int) + 1 ≤ l.length := by omega
    have hl3 : (n : Int) ≤ l.length := by omega
    have t0 : (0 : Int) ≤ (n : Int) + 1 := by omega
    have t1 : ((n : Int) + 1).toNat = n + 1 := by omega
    rw [hm'] at h34 h39 hml hmg ih'
    have s1 : ∀ H, slcV H false 7 false true (scs (some false) m') [I n] = .isl (some false) 7 ((l.map Sc.av).take n) := by
      intro H; simp [slcV, scs, slcBounds, hml, hl3, hl1, hA]
    have s2 : ∀ H, slcV H false 7 true false (scs (some false) m') [I ((n : Int) + 1)] = .isl (some false) 7 ((l.map Sc.av).drop (n + 1)) := by
      intro H; simp [slcV, scs, slcBounds, hml, hl2, t0, t1, ← hB, ← List.map_drop, List.take_of_length_le]
    have s3 : ∀ H, slcV H false 7 false true (scs (some false) l) [I n] = .isl (some false) 7 ((l.map Sc.av).take n) := by
      intro H; simp [slcV, scs, slcBounds, hl3, hl1]
    have s4 : ∀ H, slcV H false 7 true false (scs (some false) l) [I ((n : Int) + 1)] = .isl (some false) 7 ((l.map Sc.av).drop (n + 1)) := by
      intro H; simp [slcV, scs, slcBounds, hl2, t0, t1, ← List.map_drop, List.take_of_length_le]
    have hml' : (m'.length : Int) = l.length := by omega
    simp only [two] at h40
    simp only [Int.natCast_add, Int.cast_ofNat_Int, Int.natCast_one] at hmg ih'
    generalize (l.map Sc.av).take n = A at *
    generalize (l.map Sc.av).drop (n + 1) = B at *
    generalize catV ((l.take n ++ l.drop (n + 1)).map Sc.av) = C at *
    obtain ⟨U, hU⟩ : ∃ U : List Int, (if s.budget = (k : Int) + 1 then [(n : Int)] else []) = U := ⟨_, rfl⟩
    rw [hU] at h34 hz
    have hE : (if s.budget = (k : Int) + 1 then AV.isl (some false) 1 [I n] else .isl (some false) 1 []) = .isl (some false) 1 (U.map I) := by
      rw [← hU]; split <;> rfl
    have h16 := e16 nl (some false) z 1 U U hz (fun _ => rfl) (by rw [← hU]; split <;> simp)
    have hm2 : m'[n]? = some { s with budget := s.budget - ((k : Int) + 1) } := hmg
    rw [om_turn]
    by_cases hb : s.budget = (k : Int) + 1
    · have hb' : decide ((k : Int) + 1 = s.budget) = true := by simpa using hb.symm
      rw [if_pos hb] at hU
      subst hU
      simp at h16 h34
      simp [evl9_0, b9_0, intBin, hs, hle, h34, hb', h16, hml', hm2, hw1, hw2, hw3, h39, s1, s2, s3, s4, h40, h20, kC, eqsV, eqCells, eqCell, splice]
      exact ih' _
    · have hb' : decide ((k : Int) + 1 = s.budget) = false := by simpa using fun h => hb h.symm
      rw [if_neg hb] at hU
      subst hU
      simp at h16 h34
      simp [evl9_0, b9_0, intBin, hs, hle, h34, hb', h16, hml', hm2, hw1, hw2, hw3, h39, s1, s2, s3, s4, h40, h20, kC, eqsV, eqCells, eqCell, splice]
      exact ih' _
theorem e9 (b : Bool) (l : List Sc) (hb : b = true → l = []) (i : Int) : W.pure 9 [scs (some b) l, I i] = some (.bool true) := by
  rw [W_pure Φ9 rfl]
  have h12 := e12 (some b) l
  have h13 := e13 (some b) l
  have h14 := e14
  by_cases hg : great l = true
  · rw [hg] at h12
    simp [fi9, c9, evFun, enterFr, intBin, resV, rvVs, rvV, h12, h14]
  · rw [show great l = false by simpa using hg] at h12
    by_cases h0 : check l = 0
    · rw [h0] at h13
      by_cases hr : i < 0 ∨ (l.length : Int) ≤ i
      · rcases hr with h | h
        · simp [fi9, c9, evFun, enterFr, intBin, resV, rvVs, rvV, h12, h13, h14, h]
        · have h' : ¬ i < 0 := by omega
          simp [fi9, c9, evFun, enterFr, intBin, resV, rvVs, rvV, h12, h13, h14, h, h']
      · obtain ⟨n, rfl⟩ : ∃ n : Nat, i = n := ⟨i.toNat, by omega⟩
        have hn : n < l.length := by omega
        have hn1 : ¬ (l.length : Int) ≤ n := by omega
        have hn2 : ¬ (n : Int) < 0 := by omega
        obtain ⟨s, hs⟩ : ∃ s, l[n]? = some s := ⟨l[n], List.getElem?_eq_getElem hn⟩
        by_cases h8 : 8 < s.budget
        · simp [fi9, c9, evFun, enterFr, intBin, resV, rvVs, rvV, h12, h13, h14, hn1, hn2, hs, h8]
        · have hlen := check_len h0
          have hbf : b = false := by
            cases b with
            | false => rfl
            | true => exact absurd (hb rfl) (nonempty_of_check h0)
          subst hbf
          have hL := loop9 h0 hs (by omega) s.budget.toNat 0 [] (by omega)
          rw [mk_zero hs] at hL
          obtain ⟨x, F', H', e1, rfl, p1, p2⟩ := okC_iff.1 hL
          obtain ⟨u1, u2⟩ := mk_done hs (c := [(n : Int)]) (fun j hj => by simp; omega)
          obtain ⟨nl, z, h34, hz⟩ := e34 false (mk l n s s.budget.toNat) (by simp) (some false) [(n : Int)] (by simp) (mk_check h0 hs (Nat.le_refl _))
          rw [u1, u2] at h34
          have h20 := e20 (some false) (some false) (mk l n s s.budget.toNat) (mk l n s s.budget.toNat) (by rw [mk_len]; omega)
          obtain ⟨m, hm⟩ : ∃ m, mk l n s s.budget.toNat = m := ⟨_, rfl⟩
          rw [hm] at h34 h20 p2
          simp only [Int.natCast_zero, Int.zero_add] at e1
          simp at h34 h20
          simp [fi9, c9, evFun, enterFr, intBin, resV, rvVs, rvV, h12, h13, h14, hn1, hn2, hs, h8, e1, p1, p2, h34, h20]
    · simp [fi9, c9, evFun, enterFr, intBin, resV, rvVs, rvV, h12, h13, h14, h0]
end Go.Proofs.Ytpooicjhhogknaa
