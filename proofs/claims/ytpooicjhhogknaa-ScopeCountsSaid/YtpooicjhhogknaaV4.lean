/-
  The law ScopeCauses, evaluated: true (conditions: none).
-/
import Derived.Test.YtpooicjhhogknaaV3
namespace Go.Proofs.Ytpooicjhhogknaa
open Go Go.RowKit
set_option linter.unusedVariables false
set_option linter.unusedSimpArgs false
set_option maxRecDepth 10000

theorem within_anc {m : List Sc} (hc : check m = 0) {k : Int} (h0 : 0 ≤ k) (h1 : k < m.length) (i : Int) : within m k i = decide (i ∈ anc m k) := by
  unfold within; rw [chainL_in hc h0 h1]
theorem cause_gen {m : List Sc} (hc : check m = 0) {k : Nat} {x : Sc} (hx : m[k]? = some x) : (x.reason ≠ 0 → 0 ≤ cause m k) ∧ cause m k < m.length ∧ (0 ≤ cause m k → ∃ y, m[(cause m k).toNat]? = some y ∧ y.reason ≠ 0 ∧ within m k (cause m k) = true ∧ (0 ≤ y.parent → cause m y.parent < 0)) := by
  have hk : k < m.length := (List.getElem?_eq_some_iff.1 hx).1
  have hr : reasonAt m k = x.reason := by simp [reasonAt, hx]
  have hlen := check_len hc
  rw [cause_anc hc (by omega)]
  have hf := outer_facts hc (k := k) (by omega) (by omega)
  refine ⟨fun h => ?_, ?_, fun h => ?_⟩
  · have := outer_mem hc (i := k) (by rw [hr]; exact h) (k := k) (by omega) (by omega) (by rw [anc_cons hc (by omega) (by omega)]; simp)
    rcases hf with hf | hf
    · exact absurd hf this.1
    · exact hf.1
  · rcases hf with hf | hf
    · rw [hf]; omega
    · exact hf.2.1
  · rcases hf with hf | ⟨a, b, c, d, e⟩
    · rw [hf] at h; omega
    · generalize hz : outer m (anc m k) = z at *
      have hzl : z.toNat < m.length := by omega
      refine ⟨m[z.toNat], List.getElem?_eq_getElem hzl, ?_, ?_, fun hp => ?_⟩
      · simpa [reasonAt, List.getElem?_eq_getElem hzl] using d
      · rw [within_anc hc (by omega) (by omega)]; simpa using c
      · have hpar : par m z = m[z.toNat].parent := by simp [par, List.getElem?_eq_getElem hzl]
        have := par_spec hc a b
        rw [← hpar, cause_anc hc (by omega), e]; omega
theorem cause_self {l : List Sc} (hc : check l = 0) (i : Int) {k : Nat} {x : Sc} (hx : l[k]? = some x) : CauseOk l l i false k x := by
  obtain ⟨a, b, c⟩ := cause_gen hc hx
  exact ⟨fun h => (by cases h), fun _ => rfl, a, b, c⟩
theorem cause_set {l : List Sc} (hc : check l = 0) {i : Nat} {s : Sc} (hi : l[i]? = some s) {w : Int} (hw : reasonB w = true) {k : Nat} {x : Sc} (hx : (l.set i { s with reason := w })[k]? = some x) : CauseOk l (l.set i { s with reason := w }) i true k x := by
  have hm := check_reason hc hi hw
  have hil : i < l.length := (List.getElem?_eq_some_iff.1 hi).1
  have hpar : ∀ j, par (l.set i { s with reason := w }) j = par l j := by
    intro j
    unfold par
    by_cases he : i = j.toNat
    · rw [← he, List.getElem?_set_self hil, hi]
    · rw [List.getElem?_set_ne he]
  have hlen : (l.set i { s with reason := w }).length = l.length := by simp
  have hanc : ∀ j, anc (l.set i { s with reason := w }) j = anc l j := by
    intro j; unfold anc; rw [hlen]; exact up_par hpar _ _
  have hw0 : w ≠ 0 := by intro e; subst e; simp [reasonB] at hw
  have hri : reasonAt (l.set i { s with reason := w }) i ≠ 0 := by
    simp only [reasonAt, Int.toNat_natCast, List.getElem?_set_self hil]
    exact hw0
  have hrn : ∀ j : Int, 0 ≤ j → j ≠ i → reasonAt (l.set i { s with reason := w }) j = reasonAt l j := by
    intro j h0 hj
    unfold reasonAt
    rw [List.getElem?_set_ne (by omega)]
  obtain ⟨a, b, c⟩ := cause_gen hm hx
  generalize hmm : l.set i { s with reason := w } = m at *
  have hk : k < m.length := (List.getElem?_eq_some_iff.1 hx).1
  refine ⟨fun _ hin => ?_, fun hin => ?_, a, b, c⟩
  · rw [within_anc hm (by omega) (by omega)] at hin
    have := outer_mem hm hri (k := k) (by omega) (by omega) (by simpa using hin)
    have hf := outer_facts hm (k := k) (by omega) (by omega)
    rw [cause_anc hm (by omega), within_anc hm (by omega) (by omega)]
    rcases hf with hf | hf
    · exact absurd hf this.1
    · exact ⟨hf.1, by simpa using this.2⟩
  · rw [within_anc hm (by omega) (by omega)] at hin
    rw [cause_anc hm (by omega), cause_anc hc (by omega), hanc]
    refine outer_same _ fun j hj => ?_
    have hle := anc_le hc (i := (k : Int)) (by omega) (by omega) j hj
    refine hrn j hle.1 fun e => ?_
    rw [hanc] at hin
    rw [e] at hj
    simp [hj] at hin

theorem e4 (b : Bool) (l : List Sc) (hb : b = true → l = []) (i w o : Int) : W.pure 4 [scs (some b) l, I i, I w, I o] = some (.bool true) := by
  rw [W_pure Φ4 rfl]
  have h12 := e12 (some b) l
  have h14 := e14
  have h19 := e19 o
  have h18 := e18 b l hb i w
  rw [cancelV_eq] at h18
  unfold cancelZ at h18
  by_cases hg : great l = true
  · rw [hg] at h12
    simp [fi4, c4, evFun, enterFr, intBin, resV, rvVs, rvV, h12, h14]
  · rw [show great l = false by simpa using hg] at h12
    by_cases h1 : locate l i = 0
    · rw [if_neg (by simpa using h1)] at h18
      by_cases hr : reasonB w = false
      · rw [if_pos hr] at h18
        simp [fi4, c4, evFun, enterFr, intBin, resV, rvVs, rvV, h12, h14, h18, nilS]
      · rw [if_neg hr] at h18
        have hr' : reasonB w = true := by simpa using hr
        obtain ⟨h2, h3, h4⟩ := locate_ok h1
        obtain ⟨k, rfl⟩ : ∃ k : Nat, i = k := ⟨i.toNat, by omega⟩
        have hk : k < l.length := by omega
        have hs : l[k]? = some l[k] := List.getElem?_eq_getElem hk
        have hlen := check_len h2
        have hb' : b = false := by
          cases b with
          | false => rfl
          | true => exact absurd (hb rfl) (nonempty_of_check h2)
        subst hb'
        simp only [Int.toNat_natCast] at h18
        rw [hs] at h18
        simp only at h18
        -- what cancelling a list again says
        have again : ∀ m : List Sc, check m = 0 → m.length = l.length → (∀ x, m[k]? = some x → x.reason ≠ 0 ∨ x.closed = true) → ∃ v t e, W.pure 18 [scs (some false) m, I k, I o] = some (.tuple [v, .bool t, I e]) ∧ okO v = some v ∧ (reasonB o = true → v = scs (some false) m ∧ t = false ∧ e = 0) := by
          intro m hm hml hx
          have hloc : locate m k = 0 := by unfold locate; rw [if_neg (by simpa using hm), if_neg (by omega)]
          rw [e18 false m (fun h => by cases h), cancelV_eq]
          unfold cancelZ
          rw [if_neg (by simpa using hloc)]
          by_cases ho : reasonB o = false
          · rw [if_pos ho]; exact ⟨_, _, _, rfl, rfl, fun h => by rw [ho] at h; cases h⟩
          · rw [if_neg ho]
            simp only [Int.toNat_natCast]
            have hkm : k < m.length := by omega
            rw [List.getElem?_eq_getElem hkm]
            simp only
            rw [if_pos (hx _ (List.getElem?_eq_getElem hkm))]
            exact ⟨_, _, _, rfl, rfl, fun _ => ⟨rfl, rfl, rfl⟩⟩
        have fin : ∀ (m : List Sc) (is : Bool), W.pure 18 [scs (some false) l, I k, I w] = some (.tuple [scs (some false) m, .bool is, I 0]) → check m = 0 → m.length = l.length → (∀ x, m[k]? = some x → x.reason ≠ 0 ∨ x.closed = true) → (∀ (j : Nat) (x : Sc), m[j]? = some x → CauseOk l m k is j x) → (is = false → l = m) → (evFun W fi4 [scs (some false) l, I k, I w, I o] []).bind (fun p => frz p.2 8 p.1) = some (.bool true) := by
          intro m is h18 hm hml hx hco hsame
          obtain ⟨v, t, e, g1, g2, g3⟩ := again m hm hml hx
          obtain ⟨x, F', H', q1, rfl, q2, q3, q4⟩ := okC_iff.1 (loop4 (some false) l m (by omega) k is hco [])
          have s1 := e20 (some false) (some false) m m (by omega)
          have s2 := e20 (some false) (some false) l m (by omega)
          have hd : is = false → decide (l = m) = true := fun h => by simpa using hsame h
          cases ho : reasonB o
          · rw [ho] at h19
            cases his : is
            · have := hsame his
              subst this
              subst his
              simp [fi4, c4, evFun, enterFr, intBin, resV, rvVs, rvV, h12, h14, h18, h19, g1, g2, q1, q2, q3, q4, s1, s2]
            · subst his
              simp [fi4, c4, evFun, enterFr, intBin, resV, rvVs, rvV, h12, h14, h18, h19, g1, g2, q1, q2, q3, q4, s1, s2]
          · rw [ho] at h19
            obtain ⟨rfl, rfl, rfl⟩ := g3 ho
            cases his : is
            · have := hsame his
              subst this
              subst his
              simp [fi4, c4, evFun, enterFr, intBin, resV, rvVs, rvV, h12, h14, h18, h19, g1, g2, q1, q2, q3, q4, s1, s2]
            · subst his
              simp [fi4, c4, evFun, enterFr, intBin, resV, rvVs, rvV, h12, h14, h18, h19, g1, g2, q1, q2, q3, q4, s1, s2]
        by_cases hd : l[k].reason ≠ 0 ∨ l[k].closed = true
        · rw [if_pos hd] at h18
          exact fin l false h18 h2 rfl (fun x hx => by rw [hs] at hx; cases hx; exact hd) (fun j x hx => cause_self h2 _ hx) (fun _ => rfl)
        · rw [if_neg hd] at h18
          refine fin _ true h18 (check_reason h2 hs hr') (by simp) (fun x hx => ?_) (fun j x hx => cause_set h2 hs hr' hx) (fun h => by cases h)
          rw [List.getElem?_set_self hk] at hx
          cases hx
          left
          intro e
          simp only at e
          subst e
          simp [reasonB] at hr'
    · rw [if_pos h1] at h18
      simp [fi4, c4, evFun, enterFr, intBin, resV, rvVs, rvV, h12, h14, h18, h1, nilS]
end Go.Proofs.Ytpooicjhhogknaa
