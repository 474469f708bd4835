/-
  Trees of scopes, and what keeps them trees (conditions: none).
-/
import Derived.Test.YtpooicjhhogknaaS4
namespace Go.Proofs.Ytpooicjhhogknaa
open Go Go.RowKit
set_option linter.unusedVariables false
set_option linter.unusedSimpArgs false
set_option maxRecDepth 10000

/-- What a tree asks of scope k. -/
def good (l : List Sc) (k : Nat) (s : Sc) : Prop := numbersB k s = true ∧ ¬ (s.closed = true ∧ 0 < s.children) ∧ ¬ (s.closed = false ∧ 0 < k ∧ pclosed l s = true)
theorem checkFrom_iff (l : List Sc) : ∀ (r : List Sc) (k : Nat), checkFrom l r k = 0 ↔ ∀ (j : Nat) (s : Sc), r[j]? = some s → good l (k + j) s := by
  intro r
  induction r with
  | nil => intro k; simp [checkFrom]
  | cons x r ih =>
    intro k
    have e : (∀ (j : Nat) (s : Sc), (x :: r)[j]? = some s → good l (k + j) s) ↔ good l k x ∧ ∀ (j : Nat) (s : Sc), r[j]? = some s → good l (k + 1 + j) s := by
      constructor
      · intro h
        refine ⟨by simpa using h 0 x rfl, fun j s hj => ?_⟩
        have := h (j + 1) s (by simpa using hj)
        rw [show k + 1 + j = k + (j + 1) by omega]; exact this
      · rintro ⟨h1, h2⟩ j s hj
        cases j with
        | zero => simp at hj; subst hj; simpa using h1
        | succ j =>
          have := h2 j s (by simpa using hj)
          rw [show k + (j + 1) = k + 1 + j by omega]; exact this
    rw [e, ← ih]
    simp only [checkFrom, good]
    by_cases hn : numbersB k x = true
    · rw [if_neg (by simp [hn])]
      by_cases hd : x.closed = true ∧ 0 < x.children ∨ x.closed = false ∧ 0 < k ∧ pclosed l x = true
      · rw [if_pos hd]
        constructor
        · intro h; exact absurd h (by decide)
        · rintro ⟨⟨_, h2, h3⟩, _⟩
          rcases hd with h | h
          · exact absurd h h2
          · exact absurd h h3
      · rw [if_neg hd]
        constructor
        · intro h; exact ⟨⟨hn, fun h' => hd (.inl h'), fun h' => hd (.inr h')⟩, h⟩
        · intro h; exact h.2
    · rw [if_pos (by simpa using hn)]
      constructor
      · intro h; exact absurd h (by decide)
      · rintro ⟨⟨h1, _⟩, _⟩; exact absurd h1 hn
theorem check_iff (l : List Sc) : check l = 0 ↔ (1 ≤ l.length ∧ l.length ≤ 32) ∧ ∀ (j : Nat) (s : Sc), l[j]? = some s → good l j s := by
  unfold check
  by_cases h : (l.length : Int) < 1 ∨ 32 < (l.length : Int)
  · rw [if_pos h]
    constructor
    · intro h; exact absurd h (by decide)
    · intro h'; omega
  · rw [if_neg h, checkFrom_iff]
    simp only [Nat.zero_add]
    constructor
    · intro h'; exact ⟨by omega, h'⟩
    · intro h'; exact h'.2
/-- A list like l: as long, the same parents, and no scope that is closed now and was open before has an open child. -/
theorem check_like {l m : List Sc} (h : check l = 0) (hlen : m.length = l.length) (hg : ∀ (k : Nat) (s t : Sc), l[k]? = some s → m[k]? = some t → t.parent = s.parent ∧ numbersB k t = true ∧ ¬ (t.closed = true ∧ 0 < t.children) ∧ (t.closed = false → s.closed = false) ∧ (t.closed = false → 0 < k → pclosed m t = true → pclosed l s = true)) : check m = 0 := by
  rw [check_iff] at h ⊢
  refine ⟨by omega, fun j t ht => ?_⟩
  have hj : j < l.length := by rw [← hlen]; exact (List.getElem?_eq_some_iff.1 ht).1
  obtain ⟨h1, h2, h3, h4, h5⟩ := hg j l[j] t (List.getElem?_eq_getElem hj) ht
  have := h.2 j l[j] (List.getElem?_eq_getElem hj)
  exact ⟨h2, h3, fun ⟨a, b, c⟩ => this.2.2 ⟨h4 a, b, h5 a b c⟩⟩
/-- One scope changed, but not its parent or closed. -/
theorem check_set {l : List Sc} (h : check l = 0) {k : Nat} {s t : Sc} (hs : l[k]? = some s) (hp : t.parent = s.parent) (hn : numbersB k t = true) (hc : t.closed = s.closed) (hd : ¬ (t.closed = true ∧ 0 < t.children)) : check (l.set k t) = 0 := by
  have hk : k < l.length := (List.getElem?_eq_some_iff.1 hs).1
  have hpc : ∀ x y : Sc, x.parent = y.parent → pclosed (l.set k t) x = pclosed l y := by
    intro x y hxy
    unfold pclosed
    rw [hxy]
    by_cases he : k = y.parent.toNat
    · rw [← he, List.getElem?_set_self hk, hs]; exact hc
    · rw [List.getElem?_set_ne he]
  refine check_like h (by simp) fun j x y hx hy => ?_
  by_cases he : k = j
  · subst he
    rw [List.getElem?_set_self hk] at hy
    rw [hs] at hx
    cases hx; cases hy
    exact ⟨hp, hn, hd, fun h => by rw [← hc]; exact h, fun _ _ h => by rw [hpc _ _ hp] at h; exact h⟩
  · rw [List.getElem?_set_ne he, hx] at hy
    cases hy
    rw [check_iff] at h
    have := h.2 j x hx
    exact ⟨rfl, this.1, this.2.1, fun h => h, fun _ _ h => by rw [hpc x x rfl] at h; exact h⟩
theorem check_good {l : List Sc} (h : check l = 0) {k : Nat} {s : Sc} (hs : l[k]? = some s) : good l k s := ((check_iff l).1 h).2 k s hs
/-- Closing a scope that nobody is in, and that has no open child. -/
theorem check_close {l : List Sc} (h : check l = 0) {k : Nat} {s : Sc} (hs : l[k]? = some s) (hc : s.children ≤ 0) (ho : l.any (openP k) = false) : check (l.set k { s with closed := true }) = 0 := by
  have hk : k < l.length := (List.getElem?_eq_some_iff.1 hs).1
  have hno : ∀ x ∈ l, x.parent = k → x.closed = true := by
    intro x hx hp
    have := List.any_eq_false.1 ho x hx
    simpa [openP, hp] using this
  refine check_like h (by simp) fun j x y hx hy => ?_
  have hg := check_good h hx
  have hpc : ∀ y : Sc, y.parent = x.parent → y.closed = false → x.closed = false → pclosed (l.set k { s with closed := true }) y = true → pclosed l x = true ∨ x.parent = k ∧ 0 ≤ x.parent ∨ j = 0 := by
    intro y hxy hyc hxc hp
    unfold pclosed at hp ⊢
    rw [hxy] at hp
    by_cases he : k = x.parent.toNat
    · by_cases h0 : 0 ≤ x.parent
      · exact .inr (.inl ⟨by omega, h0⟩)
      · have := check_par h hx
        exact .inr (.inr (by omega))
    · rw [List.getElem?_set_ne he] at hp; exact .inl hp
  by_cases he : k = j
  · subst he
    rw [List.getElem?_set_self hk] at hy
    rw [hs] at hx
    cases hx; cases hy
    refine ⟨rfl, ?_, fun h => by have := h.2; simp only at this; omega, fun h => by simp at h, fun h => by simp at h⟩
    have := hg.1
    simpa [numbersB] using this
  · rw [List.getElem?_set_ne he, hx] at hy
    cases hy
    refine ⟨rfl, hg.1, hg.2.1, fun h => h, fun hxc h0 hp => ?_⟩
    rcases hpc x rfl hxc hxc hp with h1 | ⟨h1, _⟩ | h1
    · exact h1
    · have := hno x (List.mem_of_getElem? hx) h1
      rw [hxc] at this; cases this
    · omega
/-- Opening one more. -/
theorem check_open {l : List Sc} (h : check l = 0) {p o d u : Int} (hp : 0 ≤ p ∧ p < l.length) (ho : 0 ≤ o ∧ o < 16) (hl : limitsB d u = true) (h32 : l.length ≠ 32) (hc : ∀ s, l[p.toNat]? = some s → s.closed = false) : check (l ++ [⟨p, o, 0, 0, d, u, false⟩]) = 0 := by
  have h' := (check_iff l).1 h
  rw [check_iff]
  refine ⟨by simp; omega, fun j s hj => ?_⟩
  have hpc : ∀ x : Sc, x.parent < l.length → 0 ≤ x.parent → pclosed (l ++ [(⟨p, o, 0, 0, d, u, false⟩ : Sc)]) x = pclosed l x := by
    intro x h1 h2
    unfold pclosed
    rw [List.getElem?_append_left (by omega)]
  by_cases hjl : j < l.length
  · rw [List.getElem?_append_left hjl] at hj
    have hg := h'.2 j s hj
    have hpar := check_par h hj
    refine ⟨hg.1, hg.2.1, fun ⟨a, b, c⟩ => hg.2.2 ⟨a, b, ?_⟩⟩
    rw [hpc s (by omega) (by omega)] at c
    exact c
  · rw [List.getElem?_append_right (by omega)] at hj
    have hj0 : j - l.length = 0 := by
      have := (List.getElem?_eq_some_iff.1 hj).1
      simp at this; omega
    rw [hj0] at hj
    simp at hj
    subst hj
    have hjl' : j = l.length := by omega
    refine ⟨?_, by simp, fun ⟨_, _, c⟩ => ?_⟩
    · simp [numbersB, hl, reasonB]; omega
    · rw [hpc _ hp.2 hp.1] at c
      unfold pclosed at c
      simp only at c
      have : p.toNat < l.length := by omega
      rw [List.getElem?_eq_getElem this] at c
      simp only at c
      rw [hc _ (List.getElem?_eq_getElem this)] at c
      cases c
theorem spendL_get (c : List Int) : ∀ (l : List Sc) (k j : Nat), (spendL c l k)[j]? = l[j]?.map (spendS c ((k + j : Nat) : Int)) := by
  intro l
  induction l with
  | nil => intro k j; simp [spendL]
  | cons s r ih =>
    intro k j
    cases j with
    | zero => simp [spendL]
    | succ j =>
      simp only [spendL, List.getElem?_cons_succ]
      rw [ih (k + 1) j, show k + 1 + j = k + (j + 1) by omega]
theorem spendL_len (c : List Int) : ∀ (l : List Sc) (k : Nat), (spendL c l k).length = l.length := by
  intro l
  induction l with
  | nil => intro k; rfl
  | cons s r ih => intro k; simp [spendL, ih]
theorem check_spend {l : List Sc} (h : check l = 0) (c : List Int) : check (spendL c l 0) = 0 := by
  have hsp : ∀ (q : Int) (s : Sc), (spendS c q s).parent = s.parent ∧ (spendS c q s).closed = s.closed ∧ (spendS c q s).children = s.children := by
    intro q s; unfold spendS; split <;> simp
  have hpc : ∀ x y : Sc, x.parent = y.parent → pclosed (spendL c l 0) x = pclosed l y := by
    intro x y hxy
    unfold pclosed
    rw [hxy, spendL_get]
    cases l[y.parent.toNat]? with
    | none => rfl
    | some z => exact (hsp _ z).2.1
  refine check_like h (spendL_len c l 0) fun j x y hx hy => ?_
  rw [spendL_get, hx] at hy
  simp only [Option.map_some, Option.some.injEq] at hy
  have hg := check_good h hx
  obtain ⟨a1, a2, a3⟩ := hsp ((0 + j : Nat) : Int) x
  rw [hy] at a1 a2 a3
  refine ⟨a1, ?_, by rw [a2, a3]; exact hg.2.1, fun h => by rw [← a2]; exact h, fun _ _ h => by rw [hpc _ _ a1] at h; exact h⟩
  rw [← hy]
  unfold spendS
  split
  · rename_i ht
    simp [takes] at ht
    have := hg.1
    simp [numbersB, limitsB] at this ⊢
    refine ⟨this.1, this.2.1, this.2.2.1, ?_, ?_⟩ <;> omega
  · exact hg.1
end Go.Proofs.Ytpooicjhhogknaa
