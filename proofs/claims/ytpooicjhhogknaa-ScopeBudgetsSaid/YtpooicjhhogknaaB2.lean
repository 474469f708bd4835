/-
  What spending from one scope changes; ScopeBudgets, evaluated: true (conditions: none).
-/
import Derived.Test.YtpooicjhhogknaaB1
namespace Go.Proofs.Ytpooicjhhogknaa
open Go Go.RowKit
set_option linter.unusedVariables false
set_option linter.unusedSimpArgs false
set_option maxRecDepth 10000

theorem usedL_gen (c : List Int) (n : Nat) : ∀ (l : List Sc) (k : Nat), (∀ j : Nat, j < l.length → (((k + j : Nat) : Int) ∈ c ↔ k + j = n)) → usedL c l k = if k ≤ n then (match l[n - k]? with | some s => if s.budget = 1 then [(n : Int)] else [] | none => []) else [] := by
  intro l
  induction l with
  | nil => intro k h; simp [usedL]
  | cons s r ih =>
    intro k h
    have h0 := h 0 (by simp)
    simp only [Nat.add_zero] at h0
    have hr := ih (k + 1) (fun j hj => by
      have := h (j + 1) (by simp; omega)
      rw [show k + 1 + j = k + (j + 1) by omega]; exact this)
    unfold usedL
    rw [hr]
    by_cases hk : k = n
    · subst hk
      have hm : (k : Int) ∈ c := h0.2 rfl
      have hlt : ¬ k + 1 ≤ k := by omega
      by_cases hb : s.budget = 1
      · simp [takes, hm, hb, hlt]
      · simp [hb, hlt]
    · have hm : ¬ (k : Int) ∈ c := fun h => hk (h0.1 h)
      have ht : takes c k s = false := by simp [takes, hm]
      simp only [ht, Bool.false_eq_true, false_and, if_false]
      by_cases hle : k ≤ n
      · have h1 : k + 1 ≤ n := by omega
        rw [if_pos hle, if_pos h1]
        obtain ⟨q, hq⟩ : ∃ q, n - k = q + 1 := ⟨n - k - 1, by omega⟩
        rw [hq, show n - (k + 1) = q by omega]
        simp
      · have h1 : ¬ k + 1 ≤ n := by omega
        rw [if_neg hle, if_neg h1]
theorem spend_one {l : List Sc} {n : Nat} {s : Sc} {c : List Int} (hs : l[n]? = some s) (hc : ∀ j : Nat, j < l.length → ((j : Int) ∈ c ↔ j = n)) : spendL c l 0 = l.set n (if 0 < s.budget then { s with budget := s.budget - 1 } else s) := by
  have hn : n < l.length := (List.getElem?_eq_some_iff.1 hs).1
  apply List.ext_getElem?
  intro j
  rw [spendL_get, Nat.zero_add]
  by_cases hj : n = j
  · subst hj
    rw [List.getElem?_set_self hn, hs]
    have hm := (hc n hn).2 rfl
    by_cases hb : 0 < s.budget
    · simp [spendS, takes, hm, hb]
    · simp [spendS, takes, hb]
  · rw [List.getElem?_set_ne hj]
    cases hx : l[j]? with
    | none => rfl
    | some x =>
      have hjl := (List.getElem?_eq_some_iff.1 hx).1
      have hm : ¬ (j : Int) ∈ c := fun h => hj ((hc j hjl).1 h).symm
      simp [spendS, takes, hm]
theorem used_one {l : List Sc} {n : Nat} {s : Sc} {c : List Int} (hs : l[n]? = some s) (hc : ∀ j : Nat, j < l.length → ((j : Int) ∈ c ↔ j = n)) : usedL c l 0 = if s.budget = 1 then [(n : Int)] else [] := by
  rw [usedL_gen c n l 0 (fun j hj => by rw [Nat.zero_add]; exact hc j hj)]
  simp [hs]
/-- k steps have been spent from scope n. -/
def mk (l : List Sc) (n : Nat) (s : Sc) (k : Nat) : List Sc := l.set n { s with budget := s.budget - k }
theorem mk_len (l : List Sc) (n : Nat) (s : Sc) (k : Nat) : (mk l n s k).length = l.length := by simp [mk]
theorem mk_get {l : List Sc} {n : Nat} {s : Sc} (hs : l[n]? = some s) (k : Nat) : (mk l n s k)[n]? = some { s with budget := s.budget - k } := by
  unfold mk; rw [List.getElem?_set_self (List.getElem?_eq_some_iff.1 hs).1]
theorem mk_zero {l : List Sc} {n : Nat} {s : Sc} (hs : l[n]? = some s) : mk l n s 0 = l := by
  unfold mk
  have : ({ s with budget := s.budget - ((0 : Nat) : Int) } : Sc) = s := by cases s; simp
  rw [this]; exact set_same hs
theorem mk_check {l : List Sc} (h : check l = 0) {n : Nat} {s : Sc} (hs : l[n]? = some s) {k : Nat} (hk : k ≤ s.budget.toNat) : check (mk l n s k) = 0 := by
  have hg := check_good h hs
  refine check_set h hs rfl ?_ rfl hg.2.1
  have := hg.1
  simp [numbersB, limitsB] at this ⊢
  by_cases hb : 0 ≤ s.budget
  · obtain ⟨t1, t2, t3, t4, t5⟩ := this
    obtain ⟨⟨t6, t7⟩, t8⟩ := t4
    exact ⟨t1, t2, t3, ⟨⟨t6, t7⟩, by omega⟩, by omega⟩
  · have h0 : k = 0 := by omega
    subst h0
    simpa using this
theorem mk_spend {l : List Sc} {n : Nat} {s : Sc} (hs : l[n]? = some s) {c : List Int} (hc : ∀ j : Nat, j < l.length → ((j : Int) ∈ c ↔ j = n)) {k : Nat} (hk : (k : Int) < s.budget) : spendL c (mk l n s k) 0 = mk l n s (k + 1) ∧ usedL c (mk l n s k) 0 = if s.budget = (k : Int) + 1 then [(n : Int)] else [] := by
  have hg := mk_get hs k
  have hc' : ∀ j : Nat, j < (mk l n s k).length → ((j : Int) ∈ c ↔ j = n) := fun j hj => hc j (by rw [mk_len] at hj; exact hj)
  constructor
  · rw [spend_one hg hc']
    simp only
    rw [if_pos (by omega)]
    unfold mk
    rw [List.set_set]
    congr 2
    omega
  · rw [used_one hg hc']
    simp only
    by_cases hb : s.budget = (k : Int) + 1
    · rw [if_pos (by omega), if_pos hb]
    · rw [if_neg (by omega), if_neg hb]
theorem mk_done {l : List Sc} {n : Nat} {s : Sc} (hs : l[n]? = some s) {c : List Int} (hc : ∀ j : Nat, j < l.length → ((j : Int) ∈ c ↔ j = n)) : spendL c (mk l n s s.budget.toNat) 0 = mk l n s s.budget.toNat ∧ usedL c (mk l n s s.budget.toNat) 0 = [] := by
  have hg := mk_get hs s.budget.toNat
  have hc' : ∀ j : Nat, j < (mk l n s s.budget.toNat).length → ((j : Int) ∈ c ↔ j = n) := fun j hj => hc j (by rw [mk_len] at hj; exact hj)
  constructor
  · rw [spend_one hg hc']
    simp only
    rw [if_neg (by omega)]
    exact set_same hg
  · rw [used_one hg hc']
    simp only
    rw [if_neg (by omega)]
theorem e39w (l : List Sc) (hl : l.length ≤ 1000000) : W.pure 39 [scs (some false) l] = some (scs (some false) l) := by
  have h := e39 l hl []
  rw [W_call Φ39] at h
  rw [W_pure Φ39 rfl]
  simp only [List.nil_append, List.append_nil, List.length_nil] at h
  rw [h]
  show frz [.arr l.length 7 false (l.map Sc.av)] 8 (.osl 0 l.length 0 l.length) = _
  exact frz_osl0 (by simp) (still_av l)
theorem e20c (l : List Sc) (hl : l.length ≤ 1000000) : W.pure 20 [catV (l.map Sc.av), catV (l.map Sc.av)] = some (.bool true) := by
  unfold catV
  by_cases h : l = []
  · subst h
    have h0 : (if ([] : List Sc).map Sc.av = [] then AV.isl (some true) 0 [] else AV.isl (some false) 7 (([] : List Sc).map Sc.av)) = nilS := rfl
    rw [h0, W_pure Φ20 rfl]
    simp [fi20, c20, evFun, enterFr, intBin, resV, rvVs, rvV, nilS, len_isl, om_turn, evl20_0, b20_0]
  · rw [if_neg (by simpa using h)]
    have := e20 (some false) (some false) l l hl
    simpa [scs] using this
end Go.Proofs.Ytpooicjhhogknaa
