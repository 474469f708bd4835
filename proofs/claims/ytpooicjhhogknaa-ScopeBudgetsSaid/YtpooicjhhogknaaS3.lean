/-
  Spend of the program; Chain, Within, Cause of the reference (conditions: none).
-/
import Derived.Test.YtpooicjhhogknaaS2
namespace Go.Proofs.Ytpooicjhhogknaa
open Go Go.RowKit
set_option linter.unusedVariables false
set_option linter.unusedSimpArgs false
set_option maxRecDepth 10000

theorem check_budget {l : List Sc} (h : check l = 0) : ∀ s ∈ l, s.budget ≤ 1099511627776 := by
  intro s hs
  obtain ⟨j, hj⟩ := List.getElem?_of_mem hs
  have := check_num h hj
  simp [numbersB, limitsB] at this
  omega
theorem usedL_len (c : List Int) : ∀ (l : List Sc) (k : Nat), (usedL c l k).length ≤ l.length := by
  intro l
  induction l with
  | nil => intro k; simp [usedL]
  | cons s r ih => intro k; have := ih (k + 1); unfold usedL; split <;> simp <;> omega
theorem e34 (b : Bool) (l : List Sc) (hb : b = true → l = []) (a : Option Bool) (c : List Int) (hc : c.length ≤ 1000000) (h0 : check l = 0) :
    ∃ nl z, W.pure 34 [scs (some b) l, .isl a 1 (c.map I)] = some (.tuple [scs (some false) (spendL c l 0), .isl nl z ((usedL c l 0).map I)]) ∧ (usedL c l 0 ≠ [] → z = 1) := by
  have hlen := check_len h0
  have hb' : b = false := by
    cases b with
    | false => rfl
    | true => exact absurd (hb rfl) (nonempty_of_check h0)
  subst hb'
  have h13 := e13 (some false) l
  rw [h0] at h13
  have h39 := e39 l (by omega) []
  simp only [List.length_nil, List.nil_append] at h39
  have hL := loop34 a c hc l (by omega) (check_budget h0) (F := [(1, .isl a 1 (c.map I)), (6, .osl 0 l.length 0 l.length), (7, .isl (some true) 0 []), (15, I l.length), (16, I 0)]) (H := [.arr l.length 7 false (l.map Sc.av)])
    ⟨_, none, rfl, rfl, rfl, fun j _ => rfl, grow_nil _ _, by simp, by simp⟩
  obtain ⟨x, F', H', e1, rfl, v, o, f1, f2, h1, h2, h3⟩ := okC_iff.1 hL
  have hu := h2.frz (n := 6) (by simp)
  have hs := still_av (spendL c l 0)
  rw [h3.symm] at f1 h1
  have hf : frz H' 7 (.osl 0 (spendL c l 0).length 0 (spendL c l 0).length) = some (scs (some false) (spendL c l 0)) := frz_full h1 (by simp) hs
  refine ⟨if o = none then some true else some false, if o = none then 0 else 1, ?_, ?_⟩
  · rw [W_pure Φ34 rfl]
    simp [fi34, c34, evFun, enterFr, intBin, resV, rvVs, rvV, h13, h39, intBin, e1, f1, f2, h2.okO, hf, hu]
    cases o with
    | none => simp; simpa using h2.2
    | some id => simp
  · intro hne
    cases o with
    | none => exact absurd (by simpa using h2.2) hne
    | some id => simp
theorem e34n (nl : Option Bool) (l : List Sc) (v : AV) (kv : okO v = some v) (fv : v.flat = true) (h0 : check l ≠ 0) : W.pure 34 [scs nl l, v] = some (.tuple [nilS, nilS]) := by
  rw [W_pure Φ34 (by simp [fv])]
  have h13 := e13 nl l
  simp [fi34, c34, evFun, enterFr, intBin, resV, rvVs, rvV, h13, intBin, h0, kv, nilS]

/-- An own list of numbers, a turn of the chain's walk. -/
theorem loop36 (l : List Sc) (hc : check l = 0) (nl : Option Bool) : ∀ (n : Nat) (i : Int) (acc : List Int) (F : Fr) (H : Heap), -1 ≤ i → i < n → n ≤ l.length → acc.length + n ≤ 100 →
    (∃ v, F = [(0, scs nl l), (1, I i), (5, v)] ∧ Grow H 1 (some 0) v (acc.map I)) → okC (W.loop [0, 1, 5] l36_0 F H) (fun x F' H' => x = .exit 0 ∧ ∃ v, F'.get 5 = v ∧ Grow H' 1 (some 0) v ((acc ++ up l n i).map I)) := by
  intro n
  induction n with
  | zero =>
    rintro i acc F H h1 h2 h3 h4 ⟨v, rfl, hg⟩
    have : i = -1 := by omega
    subst this
    rw [om_turn]
    simp [evl36_0, b36_0, intBin, up, hg]
  | succ n ih =>
    rintro i acc F H h1 h2 h3 h4 ⟨v, rfl, hg⟩
    by_cases hi : i = -1
    · subst hi
      rw [om_turn]
      simp [evl36_0, b36_0, intBin, up, hg]
    · obtain ⟨k, rfl⟩ : ∃ k : Nat, i = k := ⟨i.toNat, by omega⟩
      have hk : k < l.length := by omega
      have hx' : l[k]? = some l[k] := List.getElem?_eq_getElem hk
      obtain ⟨p1, p2, p3, p4⟩ := check_par hc hx'
      have hpar : par l k = l[k].parent := by simp [par, hx']
      obtain ⟨o', v', H', a1, a2, a3, a4, a5⟩ := hg.app (y := .isl (some false) 1 [I k]) (xs := [I k]) (by simp) (by simp) (by simp [appRoom]; omega)
      have ho : o' = some 0 := by
        rcases a4 with h | ⟨h, _⟩
        · exact h
        · cases h
      subst ho
      have := ih l[k].parent (acc ++ [(k : Int)]) [(0, scs nl l), (1, I l[k].parent), (5, v')] H' p1 (by omega) (by omega) (by simp; omega) ⟨v', rfl, by simpa using a2⟩
      have hk0 : ¬ (k : Int) < 0 := by omega
      rw [om_turn]
      simp [evl36_0, b36_0, intBin, hk, exB, bslE, hg.okO, a1, a2.okO, up, hk0, hpar]
      simpa using this
def intsE (l : List Int) : AV := .isl (some false) 1 (l.map I)
theorem chainL_no {l : List Sc} {i : Int} (h : locate l i ≠ 0) : chainL l i = [] := by simp [chainL, h]
theorem e36 (nl : Option Bool) (l : List Sc) (i : Int) (hl : l.length ≤ 40) : W.pure 36 [scs nl l, I i] = some (intsE (chainL l i)) := by
  rw [W_pure Φ36 rfl]
  have h51 := e51 nl l (by omega) i
  by_cases h : locate l i = 0
  · obtain ⟨h1, h2, h3⟩ := locate_ok h
    rw [h] at h51
    have hL := loop36 l h1 nl l.length i [] [(0, scs nl l), (1, I i), (5, .osl 0 0 0 0)] [.arr 0 1 false []] (by omega) h3 (Nat.le_refl _) (by simp; omega) ⟨_, rfl, grow_mk (l := []) rfl⟩
    obtain ⟨x, F', H', e1, rfl, v, rfl, hg⟩ := okC_iff.1 hL
    have hf := hg.frz (n := 7) (by simp)
    have hc : chainL l i = up l l.length i := by simp [chainL, h]
    simp [fi36, c36, evFun, enterFr, intBin, resV, rvVs, rvV, h51, e1, hg.okO, hf, hc, intsE]
  · have hf : frz [.arr 0 1 false []] 8 (.osl 0 0 0 0) = some (.isl (some false) 1 []) := frz_osl0 rfl rfl
    simp [fi36, c36, evFun, enterFr, intBin, resV, rvVs, rvV, h51, h, chainL_no h, intsE, hf]
theorem e37 (nl : Option Bool) (l : List Sc) (i j : Int) (hl : l.length ≤ 40) : W.pure 37 [scs nl l, I i, I j] = some (.bool (within l i j)) := by
  rw [W_pure Φ37 rfl]
  have h36 := e36 nl l i hl
  have hcl := chainL_len l i
  unfold within
  generalize chainL l i = c at *
  have hL := loop_all (Φ := Φ) (live := [2, 7, 8]) (L := l37_0) c (σ := Unit) (ρ := Unit) (fun k a s => if a = j then .inr () else .inl ()) (fun k _ F H => F = [(2, I j), (7, intsE c), (8, I k)]) (fun _ x F H => x = .ret ∧ F.get 6 = .bool true) (fun _ x F H => x = .exit 0) (s := ()) (H := []) rfl ?_ ?_
  · have key : ∀ (r : List Int) (k : Nat), foldE (σ := Unit) (ρ := Unit) (fun k a s => if a = j then .inr () else .inl ()) k r () = if j ∈ r then .inr () else .inl () := by
      intro r
      induction r with
      | nil => intro k; rfl
      | cons a r ih =>
        intro k
        by_cases h : a = j
        · subst h; simp [foldE]
        · have h' : ¬ j = a := fun e => h e.symm
          simp [foldE, h, h', ih]
    rw [key] at hL
    by_cases hj : j ∈ c
    · rw [if_pos hj] at hL
      obtain ⟨x, F', H', e1, rfl, e2⟩ := okC_iff.1 hL
      simp only [Int.natCast_zero] at e1
      have h36' : okO (intsE c) = some (intsE c) := rfl
      simp [fi37, c37, evFun, enterFr, intBin, resV, rvVs, rvV, h36, h36', e1, e2, hj]
    · rw [if_neg hj] at hL
      obtain ⟨x, F', H', e1, rfl⟩ := okC_iff.1 hL
      simp only [Int.natCast_zero] at e1
      have h36' : okO (intsE c) = some (intsE c) := rfl
      simp [fi37, c37, evFun, enterFr, intBin, resV, rvVs, rvV, h36, h36', e1, hj]
  · rintro k a ⟨⟩ F H hk ha rfl
    have hw := wrap_succ (k := k) (by omega)
    have hka : c[k] = a := (List.getElem?_eq_some_iff.1 ha).2
    by_cases h : a = j <;> simp [evl37_0, b37_0, intBin, intsE, hk, hka, h, hw]
  · rintro ⟨⟩ F H rfl
    simp [evl37_0, b37_0, intBin, intsE]
theorem cause_rev (l : List Sc) (c : List Int) : c.foldl (cauNx l) (-1) = (c.reverse.find? (fun i => decide (reasonAt l i ≠ 0))).getD (-1) := by
  rw [← List.foldr_reverse]
  induction c.reverse with
  | nil => rfl
  | cons a r ih =>
    by_cases h : reasonAt l a = 0
    · simp [List.find?_cons, cauNx, h] at ih ⊢; exact ih
    · simp [List.find?_cons, cauNx, h]
theorem chainL_mem {l : List Sc} {i j : Int} (h : j ∈ chainL l i) : 0 ≤ j ∧ j < l.length := by
  by_cases hl : locate l i = 0
  · obtain ⟨h1, h2, h3⟩ := locate_ok hl
    rw [chainL_in h1 h2 h3] at h
    have := anc_le h1 (by omega) h3 j h
    omega
  · rw [chainL_no hl] at h; simp at h
theorem e38 (nl : Option Bool) (l : List Sc) (i : Int) (hl : l.length ≤ 40) : W.pure 38 [scs nl l, I i] = some (I (cause l i)) := by
  rw [W_pure Φ38 rfl]
  have h36 := e36 nl l i hl
  have hcl := chainL_len l i
  have hmem : ∀ j ∈ chainL l i, 0 ≤ j ∧ j < l.length := fun j h => chainL_mem h
  unfold cause
  rw [cause_rev]
  generalize chainL l i = c at *
  have hL := loop_all (Φ := Φ) (live := [0, 5, 6]) (L := l38_0) c.reverse (σ := Unit) (ρ := Int) (fun k a s => if reasonAt l a ≠ 0 then .inr a else .inl ()) (fun k _ F H => F = [(0, scs nl l), (5, intsE c), (6, I ((c.length : Int) - 1 - k))]) (fun a x F H => x = .ret ∧ F.get 4 = I a) (fun _ x F H => x = .exit 0) (s := ()) (H := []) rfl ?_ ?_
  · have key : ∀ (r : List Int) (k : Nat), foldE (σ := Unit) (ρ := Int) (fun k a s => if reasonAt l a ≠ 0 then .inr a else .inl ()) k r () = match r.find? (fun i => decide (reasonAt l i ≠ 0)) with | some a => .inr a | none => .inl () := by
      intro r
      induction r with
      | nil => intro k; rfl
      | cons a r ih =>
        intro k
        by_cases h : reasonAt l a = 0
        · simp only [foldE, List.find?_cons, h]; simpa using ih (k + 1)
        · simp [foldE, List.find?_cons, h]
    rw [key] at hL
    have hw : IntKind.wrap .i64 ((c.length : Int) - 1) = (c.length : Int) - 1 := wrap_pred (by omega)
    cases hf : c.reverse.find? (fun i => decide (reasonAt l i ≠ 0)) with
    | some a =>
      rw [hf] at hL
      obtain ⟨x, F', H', e1, rfl, e2⟩ := okC_iff.1 hL
      simp only [Int.natCast_zero, Int.sub_zero, intsE] at e1
      simp [fi38, c38, evFun, enterFr, intBin, resV, rvVs, rvV, h36, e1, e2, intsE, hw]
    | none =>
      rw [hf] at hL
      obtain ⟨x, F', H', e1, rfl⟩ := okC_iff.1 hL
      simp only [Int.natCast_zero, Int.sub_zero, intsE] at e1
      simp [fi38, c38, evFun, enterFr, intBin, resV, rvVs, rvV, h36, e1, intsE, hw]
  · rintro k a ⟨⟩ F H hk ha rfl
    simp only [List.length_reverse] at hk
    obtain ⟨m, hm⟩ : ∃ m : Nat, (c.length : Int) - 1 - k = m := ⟨c.length - 1 - k, by omega⟩
    have hmk : m = c.length - 1 - k := by omega
    have hmc : m < c.length := by omega
    have hca : c[m] = a := by
      have := (List.getElem?_eq_some_iff.1 ha).2
      rw [List.getElem_reverse] at this
      subst hmk
      exact this
    obtain ⟨a1, a2⟩ := hmem a (by rw [← hca]; exact List.getElem_mem _)
    obtain ⟨q, rfl⟩ : ∃ q : Nat, a = q := ⟨a.toNat, by omega⟩
    have hq : q < l.length := by omega
    have hr : reasonAt l q = l[q].reason := by simp [reasonAt, hq]
    have hw := wrap_pred (k := m) (by omega)
    have hm' : (c.length : Int) - 1 - ((k : Int) + 1) = (m : Int) - 1 := by omega
    rw [hm]
    by_cases h : l[q].reason = 0 <;> simp [evl38_0, b38_0, intBin, intsE, hmc, hca, hq, hr, h, hw, hm']
  · rintro ⟨⟩ F H rfl
    have : (c.length : Int) - 1 - (c.reverse.length : Int) = -1 := by simp; omega
    rw [this]
    simp [evl38_0, b38_0, intBin, intsE]
end Go.Proofs.Ytpooicjhhogknaa
