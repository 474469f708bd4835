/-
  The law ScopeNested, evaluated: true (conditions: none).
-/
import Derived.Test.YtpooicjhhogknaaF6
namespace Go.Proofs.Ytpooicjhhogknaa
open Go Go.RowKit
set_option linter.unusedVariables false
set_option linter.unusedSimpArgs false
set_option maxRecDepth 10000

theorem idxa_isl (H : Heap) (sz s : Nat) (nl : Option Bool) (es : List AV) (k : IntKind) (n : Int) : idxaV H sz (.isl nl s es) (.int k n) = if s = sz then (if 0 ≤ n then match es[n.toNat]? with | some e => .eptr e.cells | none => .bad else .bad) else .bad := rfl
/-- The law where its premises hold, whatever the calls answer. -/
theorem a3 (R : Rec) (v c d s1 s2 : AV) (i j k : Int) (w1 w2 w3 w4 : Bool) (okv : okO v = some v) (okd : okO d = some d) (cv : v.cells = [v]) (lv : AV.cell v = true)
    (n : Nat) (x : Sc) (es : List AV) (hes : es.length = n) (hlast : (I i :: es)[n]? = some (I 0)) (hn : n ≤ 1000000)
    (h12 : R.pure 12 [v] = some (.bool false)) (h13 : R.pure 13 [v] = some (I 0)) (h11 : ∀ m, m = i ∨ m = j ∨ m = k → R.call (.clo 11 [] [.optr 0 0 0 0]) [I m] [.arr 0 1 false [v]] = some (.bool false, [.arr 0 1 false [v]]))
    (h15 : R.pure 15 [v, I i] = some (.isl (some false) 1 (I i :: es))) (hix : ∀ H : Heap, idxaV H 7 v (I i) = .eptr x.av.cells) (h15' : R.pure 15 [v, I x.parent] = some d) (h16 : R.pure 16 [.isl (some false) 1 es, d] = some (.bool true))
    (h1 : R.pure 17 [v, I i, I j] = some (.bool w1)) (h2 : R.pure 17 [v, I j, I k] = some (.bool w2)) (h3 : R.pure 17 [v, I i, I k] = some (.bool w3)) (h4 : R.pure 17 [v, I j, I i] = some (.bool w4)) (h5 : R.pure 17 [v, I i, I i] = some (.bool true)) (h6 : R.pure 17 [v, I i, I 0] = some (.bool true)) (h14 : R.pure 14 [] = some (.bool true))
    (t1 : w1 = true → w2 = true → w3 = true) (t2 : i ≠ j → w1 = true → w4 = false) :
    ((evFun R fi3 [v, I i, I j, I k] []).bind fun p => frz p.2 8 p.1) = some (.bool true) := by
  have hi := h11 i (.inl rfl)
  have hj := h11 j (.inr (.inl rfl))
  have hk := h11 k (.inr (.inr rfl))
  have hw : IntKind.wrap .i64 ((n : Int) + 1 - 1) = n := by rw [wrap64] <;> omega
  have hw2 : IntKind.wrap .i64 (n : Int) = n := by rw [wrap64] <;> omega
  have hn0 : ¬ ((n : Int) + 1 = 0) := by omega
  have hn1 : (1 : Int) ≤ (n : Int) + 1 := by omega
  have htk : es.take n = es := List.take_of_length_le (by omega)
  have hlt : n < (I i :: es).length := by simp; omega
  have hl' : (I i :: es)[n] = I 0 := (List.getElem?_eq_some_iff.1 hlast).2
  simp [hn0, hn1, hl', fi3, c3, evFun, enterFr, resV, rvVs, rvV, okv, okd, cv, lv, h12, h13, hi, hj, hk, h15, hix, h15', h16, h1, h2, h3, h4, h5, h6, h14, intBin, loadV, ldCells, fldV, lenV, idxa_isl, htk, slcV, slcBounds, hes, hlast, hw, hw2]
  refine ⟨?_, ?_⟩
  · cases w1
    · exact .inl (.inl rfl)
    · cases w2
      · exact .inl (.inr rfl)
      · exact .inr (t1 rfl rfl)
  · by_cases hij : i = j
    · exact .inl (.inl hij)
    · cases w1
      · exact .inl (.inr rfl)
      · exact .inr (t2 hij rfl)
/-- The law where its premises do not hold. -/
theorem b3 (R : Rec) (v : AV) (i j k : Int) (g1 g2 g3 g4 : Bool) (e : Int) (okv : okO v = some v) (cv : v.cells = [v]) (lv : AV.cell v = true)
    (h12 : R.pure 12 [v] = some (.bool g1)) (h13 : R.pure 13 [v] = some (I e)) (hi : R.call (.clo 11 [] [.optr 0 0 0 0]) [I i] [.arr 0 1 false [v]] = some (.bool g2, [.arr 0 1 false [v]]))
    (hj : R.call (.clo 11 [] [.optr 0 0 0 0]) [I j] [.arr 0 1 false [v]] = some (.bool g3, [.arr 0 1 false [v]])) (hk : R.call (.clo 11 [] [.optr 0 0 0 0]) [I k] [.arr 0 1 false [v]] = some (.bool g4, [.arr 0 1 false [v]]))
    (h14 : R.pure 14 [] = some (.bool true)) (hor : g1 = true ∨ e ≠ 0 ∨ g2 = true ∨ g3 = true ∨ g4 = true) :
    ((evFun R fi3 [v, I i, I j, I k] []).bind fun p => frz p.2 8 p.1) = some (.bool true) := by
  cases g1 with
  | true => simp [fi3, c3, evFun, enterFr, resV, rvVs, rvV, okv, cv, lv, h12, h14, intBin, loadV, ldCells]
  | false =>
    by_cases he : e = 0
    · subst he
      cases g2 with
      | true => simp [fi3, c3, evFun, enterFr, resV, rvVs, rvV, okv, cv, lv, h12, h13, hi, h14, intBin, loadV, ldCells]
      | false =>
        cases g3 with
        | true => simp [fi3, c3, evFun, enterFr, resV, rvVs, rvV, okv, cv, lv, h12, h13, hi, hj, h14, intBin, loadV, ldCells]
        | false =>
          cases g4 with
          | true => simp [fi3, c3, evFun, enterFr, resV, rvVs, rvV, okv, cv, lv, h12, h13, hi, hj, hk, h14, intBin, loadV, ldCells]
          | false => simp at hor
    · simp [fi3, c3, evFun, enterFr, resV, rvVs, rvV, okv, cv, lv, h12, h13, h14, intBin, loadV, ldCells, he]

theorem ints_cons (a : Int) (r : List Int) : ints (a :: r) = .isl (some false) 1 (I a :: r.map I) := rfl
theorem eq_ints (r : List Int) (hl : r.length ≤ 1000000) : W.pure 16 [.isl (some false) 1 (r.map I), ints r] = some (.bool true) := by
  cases r with
  | nil => have := e16 (some false) (some true) 1 0 [] [] (fun h => absurd rfl h) (fun h => absurd rfl h) hl; simpa [ints] using this
  | cons a r => have := e16 (some false) (some false) 1 1 (a :: r) (a :: r) (fun _ => rfl) (fun _ => rfl) hl; simpa [ints] using this
theorem e3 (b : Bool) (l : List Sc) (hb : b = true → l = []) (i j k : Int) : W.pure 3 [scs (some b) l, I i, I j, I k] = some (.bool true) := by
  rw [W_pure Φ3 rfl]
  have h12 := e12 (some b) l
  have h13 := e13 (some b) l
  by_cases hor : great l = true ∨ check l ≠ 0 ∨ (decide (i < 0) || decide ((l.length : Int) ≤ i)) = true ∨ (decide (j < 0) || decide ((l.length : Int) ≤ j)) = true ∨ (decide (k < 0) || decide ((l.length : Int) ≤ k)) = true
  · exact b3 W _ i j k _ _ _ _ _ (okO_scs _ _) rfl rfl h12 h13 (e11 _ l i) (e11 _ l j) (e11 _ l k) e14 hor
  · have hg : great l = false := by
      cases h : great l with
      | false => rfl
      | true => exact absurd (.inl h) hor
    have hc : check l = 0 := by
      by_cases h : check l = 0
      · exact h
      · exact absurd (.inr (.inl h)) hor
    have hi : 0 ≤ i ∧ i < l.length := by
      refine Decidable.byContradiction fun h => hor (.inr (.inr (.inl ?_)))
      simp; omega
    have hj : 0 ≤ j ∧ j < l.length := by
      refine Decidable.byContradiction fun h => hor (.inr (.inr (.inr (.inl ?_))))
      simp; omega
    have hk : 0 ≤ k ∧ k < l.length := by
      refine Decidable.byContradiction fun h => hor (.inr (.inr (.inr (.inr ?_))))
      simp; omega
    have hb' : b = false := by
      cases b with
      | false => rfl
      | true => exact absurd (hb rfl) (nonempty_of_check hc)
    subst hb'
    have hlen := check_len hc
    rw [hg] at h12
    rw [hc] at h13
    have h11 : ∀ m : Int, 0 ≤ m → m < l.length → W.call (.clo 11 [] [.optr 0 0 0 0]) [I m] [.arr 0 1 false [scs (some false) l]] = some (.bool false, [.arr 0 1 false [scs (some false) l]]) := by
      intro m h1 h2
      have := e11 (some false) l m
      rw [show (decide (m < 0) || decide ((l.length : Int) ≤ m)) = false by simp; omega] at this
      exact this
    obtain ⟨q, rfl⟩ : ∃ q : Nat, i = q := ⟨i.toNat, by omega⟩
    have hq : q < l.length := by omega
    have hpar : par l q = l[q].parent := by simp [par, hq]
    have hch := chainL_par hc hi.1 hi.2
    have h15 := e15 (some false) l q (by omega)
    rw [hch, ints_cons] at h15
    have h15' := e15 (some false) l (par l q) (by omega)
    have hcl := chainL_len l (par l q)
    have hlast := anc_zero hc hi.1 hi.2
    rw [← chainL_in hc hi.1 hi.2, hch] at hlast
    have hin : ∀ m : Int, 0 ≤ m → m < l.length → chainL l m = ancS l m := fun m h1 h2 => chainL_in hc h1 h2
    refine a3 W _ .bad (ints (chainL l (par l q))) .bad .bad q j k (within l q j) (within l j k) (within l q k) (within l j q) (okO_scs _ _) (okO_ints _) rfl rfl (chainL l (par l q)).length l[q] _ (by simp) ?_ (by omega) h12 h13 ?_ h15 ?_ (by rw [← hpar]; exact h15') (eq_ints _ (by omega)) (e17 _ _ _ _) (e17 _ _ _ _) (e17 _ _ _ _) (e17 _ _ _ _) ?_ ?_ e14 ?_ ?_
    · have h1 : ((q : Int) :: chainL l (par l q))[(chainL l (par l q)).length]? = some 0 := by
        rw [List.getLast?_eq_getElem?] at hlast
        simpa using hlast
      have h2 := congrArg (Option.map I) h1
      rw [← List.getElem?_map] at h2
      simpa using h2
    · intro m hm
      rcases hm with rfl | rfl | rfl
      · exact h11 _ hi.1 hi.2
      · exact h11 _ hj.1 hj.2
      · exact h11 _ hk.1 hk.2
    · intro H
      rw [idxa_scs]
      simp [hq]
    · have := e17 (some false) l q q
      rw [show within l q q = true by unfold within; rw [hch]; simp] at this
      exact this
    · have := e17 (some false) l q 0
      rw [show within l q 0 = true by unfold within; rw [hin _ hi.1 hi.2]; simpa using anc_mem_zero hc hi.1 hi.2] at this
      exact this
    · intro w1 w2
      unfold within at w1 w2 ⊢
      rw [hin _ hi.1 hi.2] at w1 ⊢
      rw [hin _ hj.1 hj.2] at w2
      simp only [decide_eq_true_eq] at w1 w2 ⊢
      exact anc_trans hc (by omega) hi.2 j w1 k w2
    · intro hne w1
      unfold within at w1 ⊢
      rw [hin _ hi.1 hi.2] at w1
      rw [hin _ hj.1 hj.2]
      simp only [decide_eq_true_eq, decide_eq_false_iff_not] at w1 ⊢
      intro w4
      have h1 := anc_le hc (by omega) hi.2 j w1
      have h2 := anc_le hc (by omega) hj.2 q w4
      exact hne (by omega)
end Go.Proofs.Ytpooicjhhogknaa
