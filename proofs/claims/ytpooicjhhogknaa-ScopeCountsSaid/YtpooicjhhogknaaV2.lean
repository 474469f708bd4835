/-
  The law ScopeValid, evaluated: true (conditions: none).
-/
import Derived.Test.YtpooicjhhogknaaV1
namespace Go.Proofs.Ytpooicjhhogknaa
open Go Go.RowKit
set_option linter.unusedVariables false
set_option linter.unusedSimpArgs false
set_option maxRecDepth 10000

/-- A tree and no error, or an error and nothing. -/
def FineA (x : AV) (e : Int) : Prop := okO x = some x ∧ x.cells = [x] ∧ x.cell = true ∧ x.ok = true ∧ x.still = true ∧ ∃ c n, W.pure 13 [x] = some (I c) ∧ lenV false x = I n ∧ (e = 0 → c = 0) ∧ (e ≠ 0 → n ≤ 0)
theorem e13n : W.pure 13 [nilS] = some (I 4) := by
  rw [W_pure Φ13 rfl]
  simp [fi13, c13, evFun, enterFr, intBin, resV, rvVs, rvV, nilS]
theorem fine_no {e : Int} (h : e ≠ 0) : FineA nilS e := ⟨rfl, rfl, rfl, rfl, rfl, _, 0, e13n, rfl, fun h' => absurd h' h, fun _ => Int.le_refl _⟩
theorem fine_yes (b : Bool) {l : List Sc} (h : check l = 0) : FineA (scs (some b) l) 0 := ⟨rfl, rfl, rfl, rfl, rfl, _, _, e13 (some b) l, len_scs _ _, fun _ => h, fun h' => absurd rfl h'⟩
theorem fine_open (b : Bool) (l : List Sc) (hb : b = true → l = []) (p : Int) : ∃ x n e, W.pure 22 [scs (some b) l, I p, I 3, I 5, I 7] = some (.tuple [x, I n, I e]) ∧ FineA x e := by
  rw [e22 b l hb, openV_eq]
  unfold openZ
  by_cases h1 : check l = 0
  · rw [if_neg (by simpa using h1)]
    by_cases hr : p < 0 ∨ (l.length : Int) ≤ p ∨ (3 : Int) < 0 ∨ (16 : Int) ≤ 3 ∨ limitsB 5 7 = false
    · rw [if_pos hr]; exact ⟨_, _, _, rfl, fine_no (by decide)⟩
    · rw [if_neg hr]
      have hk : p.toNat < l.length := by omega
      rw [List.getElem?_eq_getElem hk]
      simp only
      by_cases hc : l[p.toNat].closed = true
      · rw [if_pos hc]; exact ⟨_, _, _, rfl, fine_no (by decide)⟩
      · rw [if_neg hc]
        by_cases hd : (l.length : Int) = 32
        · rw [if_pos hd]; exact ⟨_, _, _, rfl, fine_no (by decide)⟩
        · rw [if_neg hd]
          exact ⟨_, _, _, rfl, fine_yes _ (check_open h1 (by omega) (by omega) (by simp [limitsB]) (by omega) (fun s hs => by
            rw [List.getElem?_eq_getElem hk] at hs; cases hs; simpa using hc))⟩
  · rw [if_pos h1]; exact ⟨_, _, _, rfl, fine_no (by decide)⟩
theorem locate_no {l : List Sc} {i : Int} : locate l i = 0 ∨ locate l i ≠ 0 := by omega
theorem check_children {l : List Sc} (h : check l = 0) {k : Nat} {s : Sc} (hs : l[k]? = some s) (n : Int) (h0 : 0 ≤ n ∧ n ≤ 16) (hc : s.closed = true → n ≤ 0) : check (l.set k { s with children := n }) = 0 := by
  have hg := check_good h hs
  refine check_set h hs rfl ?_ rfl (fun ⟨a, b⟩ => by have := hc a; simp only at b; omega)
  have := hg.1
  simp [numbersB] at this ⊢
  refine ⟨this.1, this.2.1, ⟨by omega, this.2.2.1.2⟩, this.2.2.2⟩
theorem fine_enter (b : Bool) (l : List Sc) (hb : b = true → l = []) (i : Int) : ∃ x e, W.pure 24 [scs (some b) l, I i] = some (.tuple [x, I e]) ∧ FineA x e := by
  rw [e24 b l hb]
  unfold enterV
  rcases locate_no (l := l) (i := i) with h1 | h1
  · rw [if_neg (by simpa using h1)]
    obtain ⟨h2, h3, h4⟩ := locate_ok h1
    have hk : i.toNat < l.length := by omega
    have hs := List.getElem?_eq_getElem hk
    have hw := children_wf h2 hs
    rw [hs]
    simp only
    by_cases hc : l[i.toNat].closed = true
    · rw [if_pos hc]; exact ⟨_, _, rfl, fine_no (by decide)⟩
    · rw [if_neg hc]
      by_cases hd : l[i.toNat].children = 16
      · rw [if_pos hd]; exact ⟨_, _, rfl, fine_no (by decide)⟩
      · rw [if_neg hd]; exact ⟨_, _, rfl, fine_yes _ (check_children h2 hs _ (by omega) (fun h => absurd h hc))⟩
  · rw [if_pos h1]; exact ⟨_, _, rfl, fine_no h1⟩
theorem fine_leave (b : Bool) (l : List Sc) (hb : b = true → l = []) (i : Int) : ∃ x e, W.pure 26 [scs (some b) l, I i] = some (.tuple [x, I e]) ∧ FineA x e := by
  rw [e26 b l hb]
  unfold leaveV
  rcases locate_no (l := l) (i := i) with h1 | h1
  · rw [if_neg (by simpa using h1)]
    obtain ⟨h2, h3, h4⟩ := locate_ok h1
    have hk : i.toNat < l.length := by omega
    have hs := List.getElem?_eq_getElem hk
    have hw := children_wf h2 hs
    have hg := (check_good h2 hs).2.1
    rw [hs]
    simp only
    by_cases hd : l[i.toNat].children = 0
    · rw [if_pos hd]; exact ⟨_, _, rfl, fine_no (by decide)⟩
    · rw [if_neg hd]; exact ⟨_, _, rfl, fine_yes _ (check_children h2 hs _ (by omega) (fun h => absurd ⟨h, by omega⟩ hg))⟩
  · rw [if_pos h1]; exact ⟨_, _, rfl, fine_no h1⟩
theorem check_reason {l : List Sc} (h : check l = 0) {k : Nat} {s : Sc} (hs : l[k]? = some s) {w : Int} (hw : reasonB w = true) : check (l.set k { s with reason := w }) = 0 := by
  have hg := check_good h hs
  refine check_set h hs rfl ?_ rfl hg.2.1
  have := hg.1
  simp [numbersB] at this ⊢
  exact ⟨this.1, this.2.1, ⟨this.2.2.1.1, .inr hw⟩, this.2.2.2⟩
theorem fine_cancel (b : Bool) (l : List Sc) (hb : b = true → l = []) (i w : Int) : ∃ x t e, W.pure 18 [scs (some b) l, I i, I w] = some (.tuple [x, .bool t, I e]) ∧ FineA x e := by
  rw [e18 b l hb, cancelV_eq]
  unfold cancelZ
  rcases locate_no (l := l) (i := i) with h1 | h1
  · rw [if_neg (by simpa using h1)]
    by_cases hr : reasonB w = false
    · rw [if_pos hr]; exact ⟨_, _, _, rfl, fine_no (by decide)⟩
    · rw [if_neg hr]
      obtain ⟨h2, h3, h4⟩ := locate_ok h1
      have hk : i.toNat < l.length := by omega
      have hs := List.getElem?_eq_getElem hk
      rw [hs]
      simp only
      by_cases hd : l[i.toNat].reason ≠ 0 ∨ l[i.toNat].closed = true
      · rw [if_pos hd]; exact ⟨_, _, _, rfl, fine_yes _ h2⟩
      · rw [if_neg hd]; exact ⟨_, _, _, rfl, fine_yes _ (check_reason h2 hs (by simpa using hr))⟩
  · rw [if_pos h1]; exact ⟨_, _, _, rfl, fine_no h1⟩
theorem fine_close (b : Bool) (l : List Sc) (hb : b = true → l = []) (i : Int) : ∃ x e, W.pure 32 [scs (some b) l, I i] = some (.tuple [x, I e]) ∧ FineA x e := by
  rw [e32 b l hb]
  unfold closeV
  rcases locate_no (l := l) (i := i) with h1 | h1
  · rw [if_neg (by simpa using h1)]
    obtain ⟨h2, h3, h4⟩ := locate_ok h1
    have hk : i.toNat < l.length := by omega
    have hs := List.getElem?_eq_getElem hk
    rw [hs]
    simp only
    by_cases hd : l[i.toNat].closed = true ∨ 0 < l[i.toNat].children ∨ l.any (openP i) = true
    · rw [if_pos hd]; exact ⟨_, _, rfl, fine_no (by decide)⟩
    · rw [if_neg hd]
      refine ⟨_, _, rfl, fine_yes _ (check_close h2 hs (by omega) ?_)⟩
      have : (i.toNat : Int) = i := by omega
      rw [this]
      cases hx : l.any (openP i) with
      | false => rfl
      | true => exact absurd (.inr (.inr hx)) hd
  · rw [if_pos h1]; exact ⟨_, _, rfl, fine_no h1⟩
theorem fine_spend (b : Bool) (l : List Sc) (hb : b = true → l = []) (a : Option Bool) (c : List Int) (hc : c.length ≤ 1000000) : ∃ x y, W.pure 34 [scs (some b) l, .isl a 1 (c.map I)] = some (.tuple [x, y]) ∧ okO y = some y ∧ FineA x (check l) := by
  by_cases h0 : check l = 0
  · obtain ⟨nl, z, h, hz⟩ := e34 b l hb a c hc h0
    rw [h0]
    exact ⟨_, _, h, rfl, fine_yes _ (check_spend h0 c)⟩
  · exact ⟨_, _, e34n _ l (.isl a 1 (c.map I)) rfl rfl h0, rfl, fine_no h0⟩
theorem loop10 (ps : List (AV × Int)) (hl : ps.length ≤ 1000) (h : ∀ p ∈ ps, FineA p.1 p.2) (H : Heap) : okC (W.loop [23, 87, 88, 89] l10_0 [(23, .isl (some false) 1 (ps.map fun p => I p.2)), (87, .isl (some false) 1 (ps.map Prod.fst)), (88, I ps.length), (89, I 0)] H) (fun x F H => x = .exit 0) := by
  have := loop_fold (Φ := Φ) (live := [23, 87, 88, 89]) (L := l10_0) ps (σ := Unit) (fun _ _ s => s) (fun k _ F H => F = [(23, .isl (some false) 1 (ps.map fun p => I p.2)), (87, .isl (some false) 1 (ps.map Prod.fst)), (88, I ps.length), (89, I k)]) (fun _ x F H => x = .exit 0) (s := ()) (H := H) rfl ?_ ?_
  · exact this
  · rintro k ⟨x, e⟩ ⟨⟩ F H hk hp rfl
    obtain ⟨a1, a2, a3, a4, a5, c, n, a6, a7, a8, a9⟩ := h _ (List.mem_of_getElem? hp)
    simp only at a1 a2 a3 a4 a5 a6 a7 a8 a9
    have hw := wrap_succ (k := k) (by omega)
    have hpk : ps[k] = (x, e) := (List.getElem?_eq_some_iff.1 hp).2
    by_cases he : e = 0
    · simp [evl10_0, b10_0, intBin, hk, hpk, hw, he, a1, a2, a6, a7, a8]
    · have := a9 he
      simp [evl10_0, b10_0, intBin, hk, hpk, hw, he, a1, a2, a6, a7, show ¬ 0 < n by omega]
  · rintro ⟨⟩ F H rfl
    simp [evl10_0, b10_0, intBin]
theorem e10 (b : Bool) (l : List Sc) (hb : b = true → l = []) (i w : Int) (b2 : Bool) (c : List Int) (hb2 : b2 = true → c = []) : W.pure 10 [scs (some b) l, I i, I w, .isl (some b2) 1 (c.map I)] = some (.bool true) := by
  rw [W_pure Φ10 rfl]
  have h12 := e12 (some b) l
  have h14 := e14
  by_cases hg : great l = true
  · rw [hg] at h12
    simp [fi10, c10, evFun, enterFr, intBin, resV, rvVs, rvV, h12, h14]
  · rw [show great l = false by simpa using hg] at h12
    by_cases hc : 12 < (c.length : Int)
    · simp [fi10, c10, evFun, enterFr, intBin, resV, rvVs, rvV, h12, h14, hc]
    · have hc' : ¬ 12 < (c.length : Int) := hc
      obtain ⟨x1, n1, e1, p1, f1⟩ := fine_open b l hb i
      obtain ⟨x2, e2, p2, f2⟩ := fine_enter b l hb i
      obtain ⟨x3, e3, p3, f3⟩ := fine_leave b l hb i
      obtain ⟨x4, t4, e4, p4, f4⟩ := fine_cancel b l hb i w
      obtain ⟨x5, e5, p5, f5⟩ := fine_close b l hb i
      obtain ⟨x6, y6, p6, k6, f6⟩ := fine_spend b l hb (some b2) c (by omega)
      have h13 := e13 (some b) l
      have hL := loop10 [(x1, e1), (x2, e2), (x3, e3), (x4, e4), (x5, e5), (x6, check l)] (by simp) (by
        intro p hp
        simp at hp
        rcases hp with rfl | rfl | rfl | rfl | rfl | rfl <;> assumption) []
      obtain ⟨x, F', H', q1, rfl⟩ := okC_iff.1 hL
      simp only [List.map_cons, List.map_nil, List.length_cons, List.length_nil, Nat.reduceAdd, Nat.zero_add, Int.cast_ofNat_Int] at q1
      have hroot := e29
      have hroot13 := e13 (some false) [⟨-1, -1, 0, 0, 0, -1, false⟩]
      rw [show check [⟨-1, -1, 0, 0, 0, -1, false⟩] = 0 from ck1] at hroot13
      obtain ⟨a1, b1, c1, d1, g1, _⟩ := f1
      obtain ⟨a2, b2', c2, d2, g2, _⟩ := f2
      obtain ⟨a3, b3, c3, d3, g3, _⟩ := f3
      obtain ⟨a4, b4, c4, d4, g4, _⟩ := f4
      obtain ⟨a5, b5, c5, d5, g5, _⟩ := f5
      obtain ⟨a6, b6, c6, d6, g6, _⟩ := f6
      simp [fi10, c10, evFun, enterFr, intBin, resV, rvVs, rvV, h12, h13, h14, hc', p1, p2, p3, p4, p5, p6, a1, a2, a3, a4, a5, a6, b1, b2', b3, b4, b5, b6, d1, d2, d3, d4, d5, d6, g1, g2, g3, g4, g5, g6, k6, q1, hroot, hroot13]
end Go.Proofs.Ytpooicjhhogknaa
