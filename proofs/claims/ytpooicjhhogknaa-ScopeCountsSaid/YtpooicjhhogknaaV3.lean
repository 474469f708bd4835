/-
  Causes: the outermost cancelled scope of a chain; the law ScopeCauses (conditions: none).
-/
import Derived.Test.YtpooicjhhogknaaV2
namespace Go.Proofs.Ytpooicjhhogknaa
open Go Go.RowKit
set_option linter.unusedVariables false
set_option linter.unusedSimpArgs false
set_option maxRecDepth 10000

/-- The last of a chain that is cancelled. -/
def outer (m : List Sc) : List Int → Int
  | [] => -1
  | a :: r => if outer m r ≠ -1 then outer m r else if reasonAt m a ≠ 0 then a else -1
theorem foldl_outer (m : List Sc) : ∀ (c : List Int) (s : Int), (∀ a ∈ c, 0 ≤ a) → c.foldl (cauNx m) s = if outer m c = -1 then s else outer m c := by
  intro c
  induction c with
  | nil => intro s _; simp [outer]
  | cons a r ih =>
    intro s h
    have ha := h a (by simp)
    rw [List.foldl_cons, ih _ (fun x hx => h x (by simp [hx]))]
    simp only [outer, cauNx]
    by_cases h1 : outer m r = -1
    · by_cases h2 : reasonAt m a = 0
      · simp [h1, h2]
      · simp [h1, h2]; omega
    · simp [h1]
theorem cause_outer (m : List Sc) (i : Int) : cause m i = outer m (chainL m i) := by
  unfold cause
  rw [foldl_outer m _ _ (fun a ha => (chainL_mem ha).1)]
  split
  · rename_i h; exact h.symm
  · rfl
theorem cause_anc {m : List Sc} (hc : check m = 0) {i : Int} (h1 : i < m.length) : cause m i = outer m (anc m i) := by
  rw [cause_outer]
  by_cases h : i < 0
  · rw [chainL_neg h, anc_neg m h]
  · rw [chainL_in hc (by omega) h1]
theorem outer_facts {m : List Sc} (hc : check m = 0) {k : Int} (h0 : -1 ≤ k) (h1 : k < m.length) : outer m (anc m k) = -1 ∨ (0 ≤ outer m (anc m k) ∧ outer m (anc m k) < m.length ∧ outer m (anc m k) ∈ anc m k ∧ reasonAt m (outer m (anc m k)) ≠ 0 ∧ outer m (anc m (par m (outer m (anc m k)))) = -1) := by
  refine anc_induct hc (p := fun k => outer m (anc m k) = -1 ∨ (0 ≤ outer m (anc m k) ∧ outer m (anc m k) < m.length ∧ outer m (anc m k) ∈ anc m k ∧ reasonAt m (outer m (anc m k)) ≠ 0 ∧ outer m (anc m (par m (outer m (anc m k)))) = -1)) ?_ ?_ m.length k h0 h1 (Nat.le_refl _)
  · left; rw [anc_neg m (by omega)]; rfl
  · intro i h0 h1 ih
    rw [anc_cons hc h0 h1]
    simp only [outer]
    by_cases h2 : outer m (anc m (par m i)) = -1
    · by_cases h3 : reasonAt m i = 0
      · left; simp [h2, h3]
      · right; simp [h2, h3]; omega
    · rcases ih with ih | ⟨a, b, c, d, e⟩
      · exact absurd ih h2
      · right; simp only [h2, ne_eq, not_false_eq_true, if_true]
        exact ⟨a, b, List.mem_cons_of_mem _ c, d, e⟩
theorem outer_mem {m : List Sc} (hc : check m = 0) {i : Int} (hr : reasonAt m i ≠ 0) {k : Int} (h0 : -1 ≤ k) (h1 : k < m.length) : i ∈ anc m k → outer m (anc m k) ≠ -1 ∧ outer m (anc m k) ∈ anc m i := by
  refine anc_induct hc (p := fun k => i ∈ anc m k → outer m (anc m k) ≠ -1 ∧ outer m (anc m k) ∈ anc m i) ?_ ?_ m.length k h0 h1 (Nat.le_refl _)
  · rw [anc_neg m (by omega)]; intro h; simp at h
  · intro j h0 h1 ih hi
    by_cases hij : i = j
    · subst hij
      have hf := outer_facts hc (by omega : -1 ≤ i) h1
      have hne : outer m (anc m i) ≠ -1 := by
        rw [anc_cons hc h0 h1]
        simp only [outer]
        by_cases h2 : outer m (anc m (par m i)) = -1
        · simp [h2, hr]; omega
        · simp [h2]
      rcases hf with hf | hf
      · exact absurd hf hne
      · exact ⟨hne, hf.2.2.1⟩
    · rw [anc_cons hc h0 h1] at hi ⊢
      rcases List.mem_cons.1 hi with h | h
      · exact absurd h hij
      · obtain ⟨a, b⟩ := ih h
        simp only [outer, a, ne_eq, not_false_eq_true, if_true]
        exact ⟨trivial, b⟩
/-- The chains of two lists that differ in no parent. -/
theorem up_par {l m : List Sc} (h : ∀ i, par m i = par l i) : ∀ (n : Nat) (i : Int), up m n i = up l n i := by
  intro n
  induction n with
  | zero => intro i; rfl
  | succ n ih => intro i; simp only [up, h, ih]
theorem outer_same {l m : List Sc} : ∀ (c : List Int), (∀ a ∈ c, reasonAt m a = reasonAt l a) → outer m c = outer l c := by
  intro c
  induction c with
  | nil => intro _; rfl
  | cons a r ih =>
    intro h
    simp only [outer, ih (fun x hx => h x (by simp [hx])), h a (by simp)]
/-- What the law asks of scope k after the cancelling. -/
structure CauseOk (l m : List Sc) (i : Int) (is : Bool) (k : Int) (x : Sc) : Prop where
  h1 : is = true → within m k i = true → 0 ≤ cause m k ∧ within m i (cause m k) = true
  h2 : within m k i = false → cause m k = cause l k
  h3 : x.reason ≠ 0 → 0 ≤ cause m k
  h4 : cause m k < m.length
  h5 : 0 ≤ cause m k → ∃ y, m[(cause m k).toNat]? = some y ∧ y.reason ≠ 0 ∧ within m k (cause m k) = true ∧ (0 ≤ y.parent → cause m y.parent < 0)
theorem loop4 (nb : Option Bool) (l m : List Sc) (hm : m.length ≤ 100) (i : Int) (is : Bool) (h : ∀ (k : Nat) (x : Sc), m[k]? = some x → CauseOk l m i is k x) (H : Heap) :
    okC (W.loop [0, 1, 9, 10, 60, 61, 62] l4_0 [(0, scs nb l), (1, I i), (9, scs (some false) m), (10, .bool is), (60, scs (some false) m), (61, I m.length), (62, I 0)] H) (fun x F' H' => x = .exit 0 ∧ F'.get 0 = scs nb l ∧ F'.get 9 = scs (some false) m ∧ F'.get 10 = .bool is) := by
  have := loop_fold (Φ := Φ) (live := [0, 1, 9, 10, 60, 61, 62]) (L := l4_0) m (σ := Unit) (fun _ _ s => s) (fun k _ F H => F = [(0, scs nb l), (1, I i), (9, scs (some false) m), (10, .bool is), (60, scs (some false) m), (61, I m.length), (62, I k)]) (fun _ x F H => x = .exit 0 ∧ F.get 0 = scs nb l ∧ F.get 9 = scs (some false) m ∧ F.get 10 = .bool is) (s := ()) (H := H) rfl ?_ ?_
  · exact this
  · rintro k x ⟨⟩ F H hk hx rfl
    obtain ⟨h1, h2, h3, h4, h5⟩ := h k x hx
    have hw := wrap_succ (k := k) (by omega)
    have hkx : m[k] = x := (List.getElem?_eq_some_iff.1 hx).2
    have c1 := e21 (some false) m k
    have c2 := e17 (some false) m k i
    have c3 := e17 (some false) m i (cause m k)
    have c4 := e21 nb l k
    have c5 := e17 (some false) m k (cause m k)
    generalize within m k i = ins at *
    generalize within m i (cause m k) = w1 at *
    have h2' : ins = false → decide (cause m k = cause l k) = true := fun h => by simp [h2 h]
    have hlast : ∀ G : Heap, (G ++ [Blk.arr 0 7 false [x.av]])[List.length G]? = some (.arr 0 7 false [x.av]) := fun G => by simp
    by_cases hc : cause m k < 0
    · have hr : x.reason = 0 := by
        by_cases h : x.reason = 0
        · exact h
        · have := h3 h; omega
      have hlen : ¬ (m.length : Int) ≤ cause m k := by omega
      have hge : ¬ 0 ≤ cause m k := by omega
      have hii : (is && ins) = false := by
        cases hi : is
        · rfl
        · cases hn : ins
          · rfl
          · exact absurd (h1 hi hn).1 hge
      cases hn : ins
      · have h2'' := h2 hn
        rw [hn] at c2
        rw [← h2''] at c4
        cases is <;> simp [evl4_0, b4_0, intBin, hk, hkx, hw, splice, setElem, c1, c2, c4, hc, hr, hlen, hge]
      · have hi : is = false := by rw [hn] at hii; simpa using hii
        rw [hn] at c2
        subst hi
        simp [evl4_0, b4_0, intBin, hk, hkx, hw, splice, setElem, c1, c2, c4, hc, hr, hlen, hge]
    · obtain ⟨y, y1, y2, y3, y4⟩ := h5 (by omega)
      have hlen : ¬ (m.length : Int) ≤ cause m k := by omega
      have hge : 0 ≤ cause m k := by omega
      rw [y3] at c5
      have c6 := e21 (some false) m y.parent
      have hy : (m[(cause m k).toNat]? = some y) := y1
      have hcl : (cause m k).toNat < m.length := (List.getElem?_eq_some_iff.1 y1).1
      have hcy : m[(cause m k).toNat] = y := (List.getElem?_eq_some_iff.1 y1).2
      have hfin : ¬ (0 ≤ y.parent ∧ 0 ≤ cause m y.parent) := by
        rintro ⟨a, b⟩; have := y4 a; omega
      cases hn : ins
      · have h2'' := h2 hn
        rw [hn] at c2
        rw [← h2''] at c4
        by_cases hp : 0 ≤ y.parent
        · have hq : ¬ 0 ≤ cause m y.parent := by have := y4 hp; omega
          cases is <;> simp [evl4_0, b4_0, intBin, hk, hkx, hw, splice, setElem, c1, c2, c4, c5, c6, hc, hlen, hge, hcl, hcy, y2, hp, hq]
        · cases is <;> simp [evl4_0, b4_0, intBin, hk, hkx, hw, splice, setElem, c1, c2, c4, c5, c6, hc, hlen, hge, hcl, hcy, y2, hp]
      · rw [hn] at c2
        have hw1 : is = true → w1 = true := fun h => (h1 h hn).2
        by_cases hp : 0 ≤ y.parent
        · have hq : ¬ 0 ≤ cause m y.parent := by have := y4 hp; omega
          cases hi : is
          · simp [evl4_0, b4_0, intBin, hk, hkx, hw, splice, setElem, c1, c2, c5, c6, hc, hlen, hge, hcl, hcy, y2, hp, hq]
          · rw [hw1 hi] at c3
            simp [evl4_0, b4_0, intBin, hk, hkx, hw, splice, setElem, c1, c2, c3, c5, c6, hc, hlen, hge, hcl, hcy, y2, hp, hq]
        · cases hi : is
          · simp [evl4_0, b4_0, intBin, hk, hkx, hw, splice, setElem, c1, c2, c5, c6, hc, hlen, hge, hcl, hcy, y2, hp]
          · rw [hw1 hi] at c3
            simp [evl4_0, b4_0, intBin, hk, hkx, hw, splice, setElem, c1, c2, c3, c5, c6, hc, hlen, hge, hcl, hcy, y2, hp]
  · rintro ⟨⟩ F H rfl
    simp [evl4_0, b4_0, intBin]
end Go.Proofs.Ytpooicjhhogknaa
