/-
  Chains of scopes: plain laws (conditions: none).
-/
import Derived.Test.YtpooicjhhogknaaF5
import Derived.Test.YtpooicjhhogknaaLaw
namespace Go.Proofs.Ytpooicjhhogknaa
open Go Go.RowKit
set_option linter.unusedVariables false
set_option linter.unusedSimpArgs false

theorem par_spec {l : List Sc} (hc : check l = 0) {i : Int} (h0 : 0 ≤ i) (h1 : i < l.length) : -1 ≤ par l i ∧ par l i < i ∧ (i = 0 → par l i = -1) ∧ (0 < i → 0 ≤ par l i) := by
  obtain ⟨k, rfl⟩ : ∃ k : Nat, i = k := ⟨i.toNat, by omega⟩
  have hk : k < l.length := by omega
  have hx : l[k]? = some l[k] := List.getElem?_eq_getElem hk
  have hp : par l k = l[k].parent := by simp [par, hk]
  have := check_par hc hx
  rw [hp]; omega
theorem up_fuel {l : List Sc} (hc : check l = 0) : ∀ (n : Nat) (m : Nat) (i : Int), i < n → i < m → n ≤ l.length → m ≤ l.length → up l n i = up l m i := by
  intro n
  induction n with
  | zero =>
    intro m i h1 h2 h3 h4
    cases m with
    | zero => rfl
    | succ m => simp only [up]; rw [if_pos (by omega)]
  | succ n ih =>
    intro m i h1 h2 h3 h4
    cases m with
    | zero => simp only [up]; rw [if_pos (by omega)]
    | succ m =>
      simp only [up]
      by_cases hi : i < 0
      · rw [if_pos hi, if_pos hi]
      · rw [if_neg hi, if_neg hi]
        have := par_spec hc (by omega : 0 ≤ i) (by omega)
        rw [ih m (par l i) (by omega) (by omega) (by omega) (by omega)]
/-- The chain of scope i. -/
def ancS (l : List Sc) (i : Int) : List Int := up l l.length i
theorem anc_neg (l : List Sc) {i : Int} (h : i < 0) : ancS l i = [] := by
  unfold ancS
  cases l.length with
  | zero => rfl
  | succ n => simp only [up]; rw [if_pos h]
theorem anc_cons {l : List Sc} (hc : check l = 0) {i : Int} (h0 : 0 ≤ i) (h1 : i < l.length) : ancS l i = i :: ancS l (par l i) := by
  have hs := par_spec hc h0 h1
  have hlen := check_len hc
  obtain ⟨n, hn⟩ : ∃ n, l.length = n + 1 := ⟨l.length - 1, by omega⟩
  have e : ancS l i = up l (n + 1) i := by unfold ancS; rw [hn]
  rw [e]
  simp only [up]
  rw [if_neg (by omega)]
  unfold ancS
  rw [up_fuel hc n l.length (par l i) (by omega) (by omega) (by omega) (by omega)]
theorem anc_induct {l : List Sc} (hc : check l = 0) {p : Int → Prop} (hn : p (-1)) (hs : ∀ i : Int, 0 ≤ i → i < l.length → p (par l i) → p i) : ∀ (n : Nat) (i : Int), -1 ≤ i → i < n → n ≤ l.length → p i := by
  intro n
  induction n with
  | zero =>
    intro i h1 h2 h3
    have : i = -1 := by omega
    subst this; exact hn
  | succ n ih =>
    intro i h1 h2 h3
    by_cases hi : i = -1
    · subst hi; exact hn
    · have := par_spec hc (by omega : 0 ≤ i) (by omega)
      exact hs i (by omega) (by omega) (ih _ (by omega) (by omega) (by omega))
theorem anc_le {l : List Sc} (hc : check l = 0) {i : Int} (h0 : -1 ≤ i) (h1 : i < l.length) : ∀ j ∈ ancS l i, 0 ≤ j ∧ j ≤ i := by
  refine anc_induct hc (p := fun i => ∀ j ∈ ancS l i, 0 ≤ j ∧ j ≤ i) ?_ ?_ l.length i h0 h1 (Nat.le_refl _)
  · rw [anc_neg l (by omega)]; simp
  · intro i h0 h1 ih j hj
    have hs := par_spec hc h0 h1
    rw [anc_cons hc h0 h1] at hj
    rcases List.mem_cons.1 hj with rfl | hj
    · omega
    · have := ih j hj; omega
theorem anc_trans {l : List Sc} (hc : check l = 0) {i : Int} (h0 : -1 ≤ i) (h1 : i < l.length) : ∀ j ∈ ancS l i, ∀ k ∈ ancS l j, k ∈ ancS l i := by
  refine anc_induct hc (p := fun i => ∀ j ∈ ancS l i, ∀ k ∈ ancS l j, k ∈ ancS l i) ?_ ?_ l.length i h0 h1 (Nat.le_refl _)
  · rw [anc_neg l (by omega)]; simp
  · intro i h0 h1 ih j hj k hk
    rw [anc_cons hc h0 h1] at hj
    rcases List.mem_cons.1 hj with rfl | hj
    · exact hk
    · rw [anc_cons hc h0 h1]; exact List.mem_cons_of_mem _ (ih j hj k hk)
theorem anc_zero {l : List Sc} (hc : check l = 0) {i : Int} (h0 : 0 ≤ i) (h1 : i < l.length) : (ancS l i).getLast? = some 0 := by
  have := anc_induct hc (p := fun i => 0 ≤ i → (ancS l i).getLast? = some 0) (fun h => by omega) ?_ l.length i (by omega) h1 (Nat.le_refl _)
  · exact this h0
  · intro i h0 h1 ih _
    have hs := par_spec hc h0 h1
    rw [anc_cons hc h0 h1]
    by_cases hi : i = 0
    · rw [hs.2.2.1 hi, anc_neg l (by omega), hi]; rfl
    · have := ih (hs.2.2.2 (by omega))
      rw [List.getLast?_cons, this]; rfl
theorem anc_mem_zero {l : List Sc} (hc : check l = 0) {i : Int} (h0 : 0 ≤ i) (h1 : i < l.length) : (0 : Int) ∈ ancS l i := List.mem_of_getLast? (anc_zero hc h0 h1)
theorem chainL_in {l : List Sc} (hc : check l = 0) {i : Int} (h0 : 0 ≤ i) (h1 : i < l.length) : chainL l i = ancS l i := by
  have : locate l i = 0 := by unfold locate; rw [if_neg (by simpa using hc), if_neg (by omega)]
  unfold chainL; rw [if_pos this]; rfl
theorem chainL_neg {l : List Sc} {i : Int} (h : i < 0) : chainL l i = [] := by
  unfold chainL
  rw [if_neg]
  intro e
  have := locate_ok e
  omega
theorem chainL_par {l : List Sc} (hc : check l = 0) {i : Int} (h0 : 0 ≤ i) (h1 : i < l.length) : chainL l i = i :: chainL l (par l i) := by
  have hs := par_spec hc h0 h1
  rw [chainL_in hc h0 h1, anc_cons hc h0 h1]
  by_cases hp : par l i < 0
  · rw [chainL_neg hp, anc_neg l hp]
  · rw [chainL_in hc (by omega) (by omega)]

/-- What a reading of scopes says. -/
def scSh : List Sh := [.int .i64, .int .i64, .int .i64, .int .i64, .int .i64, .int .i64, .bool]
theorem sh_int {k : IntKind} {a : AV} (h : ShOk (.int k) a) : ∃ n, a = .int k n ∧ (Lit.int k n).wf = true := by cases h with | int k n h => exact ⟨n, rfl, h⟩
theorem sh_bool {a : AV} (h : ShOk .bool a) : ∃ b, a = .bool b := by cases h with | bool b => exact ⟨b, rfl⟩
theorem map_of {α β : Type} {f : α → β} {p : α → Prop} : ∀ (l : List β), (∀ x ∈ l, ∃ y, x = f y ∧ p y) → ∃ m : List α, l = m.map f ∧ ∀ y ∈ m, p y := by
  intro l
  induction l with
  | nil => intro _; exact ⟨[], rfl, by simp⟩
  | cons x l ih =>
    intro h
    obtain ⟨y, h1, h2⟩ := h x (by simp)
    obtain ⟨m, h3, h4⟩ := ih (fun z hz => h z (by simp [hz]))
    refine ⟨y :: m, by simp [h1, h3], ?_⟩
    intro z hz
    rcases List.mem_cons.1 hz with rfl | hz
    · exact h2
    · exact h4 z hz
/-- All its numbers are in range. -/
def Sc.wf (s : Sc) : Prop := (Lit.int .i64 s.parent).wf = true ∧ (Lit.int .i64 s.owner).wf = true ∧ (Lit.int .i64 s.children).wf = true ∧ (Lit.int .i64 s.reason).wf = true ∧ (Lit.int .i64 s.deadline).wf = true ∧ (Lit.int .i64 s.budget).wf = true
theorem sc_row {e : AV} (hr : RowOk true 7 e) (hv : ∀ (j : Nat) (c : AV) (s : Sh), (AV.cells e)[j]? = some c → scSh[j]? = some s → ShOk s c) : ∃ s : Sc, e = s.av ∧ s.wf := by
  obtain ⟨cs, rfl, hl⟩ := hr.1 rfl
  match cs, hl with
  | [a0, a1, a2, a3, a4, a5, a6], _ =>
    obtain ⟨n0, rfl, w0⟩ := sh_int (hv 0 _ _ rfl rfl)
    obtain ⟨n1, rfl, w1⟩ := sh_int (hv 1 _ _ rfl rfl)
    obtain ⟨n2, rfl, w2⟩ := sh_int (hv 2 _ _ rfl rfl)
    obtain ⟨n3, rfl, w3⟩ := sh_int (hv 3 _ _ rfl rfl)
    obtain ⟨n4, rfl, w4⟩ := sh_int (hv 4 _ _ rfl rfl)
    obtain ⟨n5, rfl, w5⟩ := sh_int (hv 5 _ _ rfl rfl)
    obtain ⟨n6, rfl⟩ := sh_bool (hv 6 _ _ rfl rfl)
    exact ⟨⟨n0, n1, n2, n3, n4, n5, n6⟩, rfl, w0, w1, w2, w3, w4, w5⟩
theorem sc_of {a : AV} (h : ShOk (.sl true scSh) a) : ∃ b l, a = scs (some b) l ∧ (b = true → l = []) ∧ ∀ s ∈ l, s.wf := by
  cases h with
  | nil g l => exact ⟨true, [], rfl, fun _ => rfl, by simp⟩
  | sl g l es hl hr hv =>
    obtain ⟨m, h1, h2⟩ := map_of (f := Sc.av) (p := Sc.wf) es (fun e he => by
      obtain ⟨i, hi⟩ := List.getElem?_of_mem he
      exact sc_row (hr i e hi) (fun j c s hc hs => hv i e j c s hi hc hs))
    exact ⟨false, m, by simp [scs, h1, scSh], (fun h => by cases h), h2⟩
theorem psh_one {s : Sh} {a : AV} (h : PShOk (false, [s]) a) : ShOk s a := by
  obtain ⟨s', h1, h2⟩ := h.2 rfl
  cases h1; exact h2
end Go.Proofs.Ytpooicjhhogknaa
