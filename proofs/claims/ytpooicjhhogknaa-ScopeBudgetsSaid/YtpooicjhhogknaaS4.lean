/-
  Spend, as the reference has it; the law ScopeChains (conditions: none).
-/
import Derived.Test.YtpooicjhhogknaaS3
namespace Go.Proofs.Ytpooicjhhogknaa
open Go Go.RowKit
set_option linter.unusedVariables false
set_option linter.unusedSimpArgs false
set_option maxRecDepth 10000

/-- The inner loop: is i among c? -/
theorem loop35_0 (a : Option Bool) (c : List Int) (hc : c.length ≤ 1000000) (i : Int) (v0 v6 v7 v9 : AV) (k0 : okO v0 = some v0) {H : Heap} :
    okC (W.loop [0, 1, 6, 7, 8, 9, 10, 11] l35_0 [(0, v0), (1, .isl a 1 (c.map I)), (6, v6), (7, v7), (8, I i), (9, v9), (10, .bool false), (11, I 0)] H) (fun x F' H' => x = .exit 2 ∧ F'.keep [0, 1, 6, 7, 8, 9, 10] = [(0, v0), (1, .isl a 1 (c.map I)), (6, v6), (7, v7), (8, I i), (9, v9), (10, .bool (decide (i ∈ c)))] ∧ H' = H) := by
  have hL := loop_fold (Φ := Φ) (live := [0, 1, 6, 7, 8, 9, 10, 11]) (L := l35_0) c (fun _ x (s : Bool) => s || decide (x = i)) (fun k s F G => F = [(0, v0), (1, .isl a 1 (c.map I)), (6, v6), (7, v7), (8, I i), (9, v9), (10, .bool s), (11, I k)] ∧ G = H) (fun s x F' G => x = .exit 2 ∧ F'.keep [0, 1, 6, 7, 8, 9, 10] = [(0, v0), (1, .isl a 1 (c.map I)), (6, v6), (7, v7), (8, I i), (9, v9), (10, .bool s)] ∧ G = H) (s := false) (H := H) ⟨rfl, rfl⟩ ?_ ?_
  · have key : ∀ (r : List Int) (k : Nat) (s : Bool), (r.zipIdx k).foldl (fun s p => s || decide (p.1 = i)) s = (s || decide (i ∈ r)) := by
      intro r
      induction r with
      | nil => intro k s; simp
      | cons x r ih =>
        intro k s
        simp only [List.zipIdx_cons, List.foldl_cons, ih]
        by_cases h : x = i
        · subst h; simp
        · have h' : ¬ i = x := fun e => h e.symm
          simp [h, h']
    rw [key] at hL
    simpa using hL
  · rintro k x s F G hk hx ⟨rfl, rfl⟩
    have hw := wrap_succ (k := k) (by omega)
    have hkx : c[k] = x := (List.getElem?_eq_some_iff.1 hx).2
    cases s <;> simp [evl35_0, b35_0, intBin, hk, hkx, hw]
  · rintro s F G ⟨rfl, rfl⟩
    simp [evl35_0, b35_0, intBin]
/-- The scopes, as the loop lays them out. -/
def r35Step (c : List Int) (k : Nat) (s : Sc) (x : List Sc × List Int) : List Sc × List Int := (x.1 ++ [spendS c k s], if takes c k s = true ∧ s.budget = 1 then x.2 ++ [(k : Int)] else x.2)
theorem r35Fold (c : List Int) : ∀ (r : List Sc) (k : Nat) (p : List Sc) (u : List Int), (r.zipIdx k).foldl (fun x a => r35Step c a.2 a.1 x) (p, u) = (p ++ spendL c r k, u ++ usedL c r k) := by
  intro r
  induction r with
  | nil => intro k p u; simp [spendL, usedL]
  | cons s r ih =>
    intro k p u
    have e : r35Step c k s (p, u) = (p ++ [spendS c k s], if takes c k s = true ∧ s.budget = 1 then u ++ [(k : Int)] else u) := rfl
    rw [List.zipIdx_cons, List.foldl_cons, e, ih]
    simp only [spendL, usedL]
    split <;> simp
def r35P (a : Option Bool) (c : List Int) (nl : Option Bool) (l : List Sc) (k : Nat) (x : List Sc × List Int) (F : Fr) (H : Heap) : Prop :=
  ∃ v u, F = [(0, scs nl l), (1, .isl a 1 (c.map I)), (6, v), (7, u), (8, I k)] ∧ Grow H 7 (some 0) v (x.1.map Sc.av) ∧ Grow H 1 (some 1) u (x.2.map I) ∧ x.1.length = k ∧ x.2.length ≤ k
theorem loop35_1 (a : Option Bool) (c : List Int) (hc : c.length ≤ 1000000) (nl : Option Bool) (l : List Sc) (hl : l.length ≤ 1000) (hb : ∀ s ∈ l, s.budget ≤ 1099511627776) {F : Fr} {H : Heap} (h0 : r35P a c nl l 0 ([], []) F H) :
    okC (W.loop [0, 1, 6, 7, 8] l35_1 F H) (fun x F' H' => x = .exit 0 ∧ Grow H' 7 (some 0) (F'.get 6) ((spendL c l 0).map Sc.av) ∧ Grow H' 1 (some 1) (F'.get 7) ((usedL c l 0).map I)) := by
  have hf := r35Fold c l 0 [] []
  simp only [List.nil_append] at hf
  have := loop_fold (Φ := Φ) (live := [0, 1, 6, 7, 8]) (L := l35_1) l (r35Step c) (r35P a c nl l) (fun x y F' H' => y = .exit 0 ∧ Grow H' 7 (some 0) (F'.get 6) (x.1.map Sc.av) ∧ Grow H' 1 (some 1) (F'.get 7) (x.2.map I)) h0 ?_ ?_
  · rw [hf] at this; exact this
  · rintro k s ⟨out, us⟩ F H hk hs ⟨v, u, rfl, h1, h2, h3, h4⟩
    simp only at h1 h2 h3 h4
    have hw := wrap_succ (k := k) (by omega)
    have hks : l[k] = s := (List.getElem?_eq_some_iff.1 hs).2
    have hbm := hb s (List.mem_of_getElem? hs)
    have h0 : 0 < H.length := by obtain ⟨ver, _, _, h⟩ := h1; exact (List.getElem?_eq_some_iff.1 h).1
    have h0' : 1 < H.length := by obtain ⟨ver, _, _, h⟩ := h2; exact (List.getElem?_eq_some_iff.1 h).1
    obtain ⟨x0, F0, H0, i1, rfl, i2, rfl⟩ := okC_iff.1 (loop35_0 a c hc k (scs nl l) v u (.optr H.length 0 0 0) rfl (H := H ++ [.arr 0 7 false [s.av]]))
    have hlast : (H ++ [Blk.arr 0 7 false [s.av]])[List.length H]? = some (.arr 0 7 false [s.av]) := by simp
    simp only [Sc.av] at i1 hlast
    -- the scope that is laid down
    have fin : ∀ (t : Sc) (G : Heap) (us' : List Int) (u' : AV), t = spendS c k s → G[List.length H]? = some (.arr 0 7 false [t.av]) → Grow G 7 (some 0) v (out.map Sc.av) → Grow G 1 (some 1) u' (us'.map I) → us'.length ≤ k + 1 → us' = (r35Step c k s (out, us)).2 →
        okV (ex G (.app 7) [v, .isl (some false) 7 [t.av]]) (fun v' G' => r35P a c nl l (k + 1) (r35Step c k s (out, us)) [(0, scs nl l), (1, .isl a 1 (c.map I)), (6, v'), (7, u'), (8, I ((k : Int) + 1))] G' ∧ okO v' = some v') := by
      intro t G us' u' ht hG g1 g2 hu hus
      obtain ⟨o', v', G', a1, a2, a3, a4, a5⟩ := g1.app (y := .isl (some false) 7 [t.av]) (xs := [t.av]) (by simp) (by simp) (by simp [appRoom]; omega)
      have ho : o' = some 0 := by
        rcases a4 with h | ⟨h, _⟩
        · exact h
        · cases h
      subst ho
      rw [a1]
      refine ⟨⟨v', u', by simp, ?_, ?_, by simp [r35Step, h3], ?_⟩, a2.okO⟩
      · simpa [r35Step, ht] using a2
      · rw [← hus]; exact g2.kept a3 (fun id hid => by cases hid; simp)
      · rw [← hus]; exact hu
    have hg1 := h1.kept (Kept.append none H [.arr 0 7 false [s.av]]) (by simp)
    have hg2 := h2.kept (Kept.append none H [.arr 0 7 false [s.av]]) (by simp)
    by_cases ht : takes c k s = true
    · have ht' := ht
      simp only [takes, Bool.and_eq_true, decide_eq_true_eq] at ht'
      obtain ⟨hb0, hm⟩ := ht'
      have hwb : IntKind.wrap .i64 (s.budget - 1) = s.budget - 1 := by rw [wrap64] <;> omega
      have hsp : spendS c k s = { s with budget := s.budget - 1 } := by simp [spendS, ht]
      have hset : ((H ++ [Blk.arr 0 7 false [s.av]]).set (List.length H) (.arr 0 7 false [({ s with budget := s.budget - 1 } : Sc).av])) = H ++ [.arr 0 7 false [({ s with budget := s.budget - 1 } : Sc).av]] := by simp
      have hg1 := h1.kept (Kept.append none H [.arr 0 7 false [({ s with budget := s.budget - 1 } : Sc).av]]) (by simp)
      have hg2 := h2.kept (Kept.append none H [.arr 0 7 false [({ s with budget := s.budget - 1 } : Sc).av]]) (by simp)
      rw [show decide ((k : Int) ∈ c) = true by simpa using hm] at i2
      have hlast2 : (H ++ [Blk.arr 0 7 false [({ s with budget := s.budget - 1 } : Sc).av]])[List.length H]? = some (.arr 0 7 false [({ s with budget := s.budget - 1 } : Sc).av]) := by simp
      by_cases h1b : s.budget = 1
      · have hd : decide (s.budget = 1) = true := by simpa using h1b
        have hd2 : decide (s.budget - 1 = 0) = true := by simp; omega
        obtain ⟨o2, u2, H2, a1, a2, a3, a4, a5⟩ := hg2.app (y := .isl (some false) 1 [I k]) (xs := [I k]) (by simp) (by simp) (by simp [appRoom]; omega)
        have ho : o2 = some 1 := by
          rcases a4 with h | ⟨h, _⟩
          · exact h
          · cases h
        subst ho
        have hl2 := a3.get (j := H.length) (by simp; omega) hlast2
        have hfin := fin { s with budget := s.budget - 1 } H2 (us ++ [(k : Int)]) u2 hsp.symm hl2 (hg1.kept a3 (fun id hid => by cases hid; simp)) (by simpa using a2) (by simp; omega) (by simp [r35Step, ht, h1b])
        obtain ⟨v', G', f1, f2, f3⟩ := okV_iff.1 hfin
        simp only [Sc.av] at f1 a1 hlast2 hl2
        simp [evl35_1, b35_1, intBin, hk, hks, splice, setElem, i1, i2, hw, hlast, hlast2, hl2, h1.okO, h2.okO, f1, f2, f3, hb0, hwb, hd, hd2, a1, a2.okO]
      · have hd : decide (s.budget = 1) = false := by simpa using h1b
        have hd2 : decide (s.budget - 1 = 0) = false := by simp; omega
        have hfin := fin { s with budget := s.budget - 1 } _ us u hsp.symm hlast2 hg1 hg2 (by omega) (by simp [r35Step, ht, h1b])
        obtain ⟨v', G', f1, f2, f3⟩ := okV_iff.1 hfin
        simp only [Sc.av] at f1 hlast2
        simp [evl35_1, b35_1, intBin, hk, hks, splice, setElem, i1, i2, hw, hlast, hlast2, h1.okO, h2.okO, f1, f2, f3, hb0, hwb, hd, hd2]
    · have ht' : takes c k s = false := by simpa using ht
      have hsp : s = spendS c k s := by simp [spendS, ht']
      have hfin := fin s _ us u hsp (by simp) hg1 hg2 (by omega) (by simp [r35Step, ht'])
      obtain ⟨v', G', f1, f2, f3⟩ := okV_iff.1 hfin
      simp only [Sc.av] at f1
      have hcond : (decide ((k : Int) ∈ c)) = false ∨ (decide ((k : Int) ∈ c)) = true ∧ s.budget ≤ 0 := by
        simp [takes] at ht'
        by_cases hm : (k : Int) ∈ c
        · refine .inr ⟨by simpa using hm, ?_⟩
          by_cases h : 0 < s.budget
          · exact absurd hm (ht' h)
          · omega
        · exact .inl (by simpa using hm)
      rcases hcond with hm | ⟨hm, hb0⟩
      · rw [hm] at i2
        simp [evl35_1, b35_1, intBin, hk, hks, splice, setElem, i1, i2, hw, hlast, h1.okO, f1, f2, f3]
      · rw [hm] at i2
        simp [evl35_1, b35_1, intBin, hk, hks, splice, setElem, i1, i2, hw, hlast, h1.okO, f1, f2, f3, show ¬ 0 < s.budget by omega]
  · rintro ⟨out, us⟩ F H ⟨v, u, rfl, h1, h2, h3, h4⟩
    simp [evl35_1, b35_1, intBin]
    exact ⟨h1, h2⟩
theorem e35 (nl : Option Bool) (l : List Sc) (a : Option Bool) (c : List Int) (hc : c.length ≤ 1000000) :
    W.pure 35 [scs nl l, .isl a 1 (c.map I)] = some (if check l = 0 then .tuple [scs (some false) (spendL c l 0), intsE (usedL c l 0)] else .tuple [scs (some false) [], intsE []]) := by
  rw [W_pure Φ35 rfl]
  have h28 := e28 nl l
  by_cases h0 : check l = 0
  · have hlen := check_len h0
    rw [h0] at h28
    obtain ⟨x, F', H', e1, rfl, g1, g2⟩ := okC_iff.1 (loop35_1 a c hc nl l (by omega) (check_budget h0) (F := [(0, scs nl l), (1, .isl a 1 (c.map I)), (6, .osl 0 0 0 0), (7, .osl 1 0 0 0), (8, I 0)]) (H := [.arr 0 7 false [], .arr 0 1 false []])
      ⟨_, _, rfl, grow_mk (l := []) rfl, grow_mk (l := []) rfl, rfl, by simp⟩)
    have f1 : frz H' 7 (F'.get 6) = some (scs (some false) (spendL c l 0)) := g1.frz (n := 6) (still_av _)
    have f2 : frz H' 7 (F'.get 7) = some (intsE (usedL c l 0)) := g2.frz (n := 6) (by simp)
    simp [fi35, c35, evFun, enterFr, intBin, resV, rvVs, rvV, h28, e1, g1.okO, g2.okO, f1, f2, h0]
  · have f1 : frz [.arr 0 7 false [], .arr 0 1 false []] 7 (.osl 0 0 0 0) = some (scs (some false) []) := frz_osl0 rfl rfl
    have f2 : frz [.arr 0 7 false [], .arr 0 1 false []] 7 (.osl 1 0 0 0) = some (intsE []) := frz_osl1 rfl rfl
    simp [fi35, c35, evFun, enterFr, intBin, resV, rvVs, rvV, h28, h0, f1, f2]

theorem a7 (R : Rec) (v w x1 y1 x2 y2 x3 y3 : AV) (i j n m : Int) (t : Bool) (kv : okO v = some v) (kw : okO w = some w) (cw : lenV false w = I m) (hm : ¬ 12 < m) (k1 : okO x1 = some x1) (k2 : okO y1 = some y1) (k3 : okO x2 = some x2) (k4 : okO y2 = some y2) (k5 : okO x3 = some x3) (k6 : okO y3 = some y3)
    (h12 : R.pure 12 [v] = some (.bool false)) (h34 : R.pure 34 [v, w] = some (.tuple [x1, x2])) (h35 : R.pure 35 [v, w] = some (.tuple [y1, y2])) (h15 : R.pure 15 [v, I i] = some x3) (h36 : R.pure 36 [v, I i] = some y3)
    (h17 : R.pure 17 [v, I i, I j] = some (.bool t)) (h37 : R.pure 37 [v, I i, I j] = some (.bool t)) (h21 : R.pure 21 [v, I i] = some (I n)) (h38 : R.pure 38 [v, I i] = some (I n))
    (s1 : R.pure 16 [x3, y3] = some (.bool true)) (s2 : R.pure 20 [x1, y1] = some (.bool true)) (s3 : R.pure 16 [x2, y2] = some (.bool true)) (h14 : R.pure 14 [] = some (.bool true)) :
    ((evFun R fi7 [v, I i, I j, w] []).bind fun p => frz p.2 8 p.1) = some (.bool true) := by
  cases t <;> simp [fi7, c7, evFun, enterFr, intBin, resV, rvVs, rvV, kv, kw, cw, hm, k1, k2, k3, k4, k5, k6, h12, h34, h35, h15, h36, h17, h37, h21, h38, s1, s2, s3, h14]
theorem b7 (R : Rec) (v w : AV) (i j m : Int) (g : Bool) (kv : okO v = some v) (kw : okO w = some w) (cw : lenV false w = I m) (h12 : R.pure 12 [v] = some (.bool g)) (hg : g = true ∨ 12 < m) (h14 : R.pure 14 [] = some (.bool true)) :
    ((evFun R fi7 [v, I i, I j, w] []).bind fun p => frz p.2 8 p.1) = some (.bool true) := by
  cases g with
  | true => simp [fi7, c7, evFun, enterFr, intBin, resV, rvVs, rvV, kv, kw, cw, h12, h14]
  | false =>
    have hm : 12 < m := by simpa using hg
    simp [fi7, c7, evFun, enterFr, intBin, resV, rvVs, rvV, kv, kw, cw, h12, h14, hm]
theorem e7 (b : Bool) (l : List Sc) (hb : b = true → l = []) (i j : Int) (b2 : Bool) (c : List Int) (hb2 : b2 = true → c = []) : W.pure 7 [scs (some b) l, I i, I j, .isl (some b2) 1 (c.map I)] = some (.bool true) := by
  rw [W_pure Φ7 rfl]
  have h12 := e12 (some b) l
  by_cases hg : great l = true ∨ 12 < (c.length : Int)
  · exact b7 W _ _ i j c.length _ rfl rfl (by simp) h12 hg e14
  · have hg1 : great l = false := by
      cases h : great l with
      | true => exact absurd (.inl h) hg
      | false => rfl
    rw [hg1] at h12
    have hl : l.length ≤ 40 := by simp [great] at hg1; omega
    have hc : c.length ≤ 12 := by omega
    have h15 := e15 (some b) l i hl
    have h36 := e36 (some b) l i hl
    have hcl := chainL_len l i
    have s1 : W.pure 16 [ints (chainL l i), intsE (chainL l i)] = some (.bool true) := by
      cases hx : chainL l i with
      | nil => have := e16 (some true) (some false) 0 1 [] [] (by simp) (by simp) (by simp); simpa [ints, intsE] using this
      | cons x r => have := e16 (some false) (some false) 1 1 (x :: r) (x :: r) (fun _ => rfl) (fun _ => rfl) (by rw [hx] at hcl; omega); simpa [ints, intsE] using this
    have h35 := e35 (some b) l (some b2) c (by omega)
    have kk : okO (ints (chainL l i)) = some (ints (chainL l i)) := by cases chainL l i <;> rfl
    by_cases h0 : check l = 0
    · rw [if_pos h0] at h35
      obtain ⟨nl, z, h34, hz⟩ := e34 b l hb (some b2) c (by omega) h0
      have hu := usedL_len c l 0
      have hsl : (spendL c l 0).length ≤ 1000000 := by
        have : ∀ (l : List Sc) (k : Nat), (spendL c l k).length = l.length := by
          intro l
          induction l with
          | nil => intro k; rfl
          | cons s r ih => intro k; simp [spendL, ih]
        rw [this]; omega
      exact a7 W _ _ _ _ _ _ _ _ i j (cause l i) c.length (within l i j) rfl rfl (by simp) (by omega) (okO_scs _ _) (okO_scs _ _) rfl rfl kk rfl h12 h34 h35 h15 h36 (e17 _ _ _ _) (e37 _ _ _ _ hl) (e21 _ _ _) (e38 _ _ _ hl) s1 (by rw [e20 _ _ _ _ hsl]; simp) (by
        have := e16 nl (some false) z 1 (usedL c l 0) (usedL c l 0) hz (fun _ => rfl) (by omega)
        simpa [intsE] using this) e14
    · rw [if_neg h0] at h35
      have h34 := e34n (some b) l (.isl (some b2) 1 (c.map I)) rfl rfl h0
      exact a7 W _ _ _ _ _ _ _ _ i j (cause l i) c.length (within l i j) rfl rfl (by simp) (by omega) rfl (okO_scs _ _) rfl rfl kk rfl h12 h34 h35 h15 h36 (e17 _ _ _ _) (e37 _ _ _ _ hl) (e21 _ _ _) (e38 _ _ _ hl) s1 (e20n _) (by
        have := e16 (some true) (some false) 0 1 [] [] (by simp) (by simp) (by simp)
        simpa [intsE, nilS] using this) e14
end Go.Proofs.Ytpooicjhhogknaa
