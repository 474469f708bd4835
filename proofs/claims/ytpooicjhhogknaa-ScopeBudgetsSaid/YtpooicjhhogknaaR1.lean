/-
  Plain functions for the reference's (conditions: none).
-/
import Derived.Test.YtpooicjhhogknaaF6
namespace Go.Proofs.Ytpooicjhhogknaa
open Go Go.RowKit
set_option linter.unusedVariables false
set_option linter.unusedSimpArgs false
set_option maxRecDepth 10000

theorem e48 (n a b : Int) : W.pure 48 [I n, I a, I b] = some (.bool (decide (a ≤ n) && decide (n ≤ b))) := by
  rw [W_pure Φ48 rfl]
  simp [fi48, c48, evFun, enterFr, intBin, resV, rvVs, rvV]
theorem e19 (n : Int) : W.pure 19 [I n] = some (.bool (reasonB n)) := by
  rw [W_pure Φ19 rfl]
  simp [fi19, c19, evFun, enterFr, intBin, resV, rvVs, rvV, e48, reasonB]
theorem sc_eta (s : Sc) : Sc.mk s.parent s.owner s.children s.reason s.deadline s.budget s.closed = s := rfl
/-- Equality of scopes, as the program has it. -/
theorem eqs_sc (n : Bool) (x y : Sc) : eqsV n [0, 0, 0, 0, 0, 0, 1] x.av y.av = .bool (if n then !decide (x = y) else decide (x = y)) := by
  obtain ⟨a, b, c, d, e, f, g⟩ := x
  obtain ⟨a', b', c', d', e', f', g'⟩ := y
  have : (decide (a = a') && (decide (b = b') && (decide (c = c') && (decide (d = d') && (decide (e = e') && (decide (f = f') && ((g == g') && true))))))) = decide (Sc.mk a b c d e f g = Sc.mk a' b' c' d' e' f' g') := by
    rw [Bool.eq_iff_iff]
    simp [Sc.mk.injEq]
  simp only [Sc.av, eqsV, eqCells, eqCell, if_true, this]
theorem loop20 (a b : Option Bool) (x y : List Sc) (hxy : x.length = y.length) (hl : x.length ≤ 1000000) : ∀ (r : List Sc) (k : Nat), x.drop k = r → k ≤ x.length → ∀ H : Heap,
    noH ((W.loop [0, 1, 12, 13] l20_0 [(0, scs a x), (1, scs b y), (12, I x.length), (13, I k)] H).map (blockC 0 [])) = some (if r = y.drop k then (.normal, []) else (.ret, [(4, .bool false)])) := by
  intro r
  induction r with
  | nil =>
    intro k h1 h2 H
    have := drop_end h1 h2
    subst this
    rw [om_turn]
    have : y.drop x.length = [] := by rw [hxy]; simp
    simp [evl20_0, b20_0, intBin, this]
  | cons u r ih =>
    intro k h1 h2 H
    obtain ⟨hk, hu, hr⟩ := drop_get h1
    have hk' : k < y.length := by omega
    obtain ⟨v, hv⟩ : ∃ v, y[k] = v := ⟨_, rfl⟩
    have hyd : y.drop k = v :: y.drop (k + 1) := by rw [← hv]; exact List.drop_eq_getElem_cons hk'
    have hw : IntKind.wrap .i64 ((k : Int) + 1) = (k : Int) + 1 := by rw [wrap64] <;> omega
    have hJ := ih (k + 1) hr (by omega)
    simp only [Int.natCast_add, Int.cast_ofNat_Int] at hJ
    have he := eqs_sc true u v
    simp only [Sc.av, if_true] at he
    rw [om_turn]
    by_cases huv : u = v
    · subst huv
      simp [evl20_0, b20_0, intBin, hk, hk', hu, hv, loadV, ldCells, hw, hyd, he, hJ]
    · simp [evl20_0, b20_0, intBin, hk, hk', hu, hv, loadV, ldCells, hw, hyd, huv, he]
theorem e20 (a b : Option Bool) (x y : List Sc) (hl : x.length ≤ 1000000) : W.pure 20 [scs a x, scs b y] = some (.bool (decide (x = y))) := by
  rw [W_pure Φ20 rfl]
  by_cases hxy : x.length = y.length
  · have hL := loop20 a b x y hxy hl x 0 rfl (by omega) []
    simp only [Int.natCast_zero, List.drop_zero] at hL
    have hxy' : (x.length : Int) = y.length := by omega
    by_cases he : x = y
    · rw [if_pos he] at hL
      obtain ⟨J, hJ⟩ := of_noH hL
      subst he
      simp [fi20, c20, evFun, enterFr, intBin, resV, rvVs, rvV, hJ]
    · rw [if_neg he] at hL
      obtain ⟨J, hJ⟩ := of_noH hL
      rw [hxy'] at hJ
      simp [fi20, c20, evFun, enterFr, intBin, resV, rvVs, rvV, hxy', hJ, he]
  · have he : x ≠ y := fun e => hxy (by rw [e])
    have hxy' : ¬ (x.length : Int) = y.length := by omega
    simp [fi20, c20, evFun, enterFr, intBin, resV, rvVs, rvV, hxy', he]
theorem e53 (nl : Option Bool) (l : List Sc) (k : Nat) (s : Sc) (hk : l[k]? = some s) (hb : k ≤ 1000000) : W.pure 53 [scs nl l, I k] = some (.bool (numbersB k s)) := by
  rw [W_pure Φ53 rfl]
  have hlt : k < l.length := (List.getElem?_eq_some_iff.1 hk).1
  have hs : l[k] = s := (List.getElem?_eq_some_iff.1 hk).2
  have hw : IntKind.wrap .i64 ((k : Int) - 1) = (k : Int) - 1 := by rw [wrap64] <;> omega
  simp [fi53, c53, evFun, enterFr, intBin, resV, rvVs, rvV, hlt, hs, loadV, ldCells, ex, exApp, truncH, setElem, splice, fldV, e48, e19, hw]
  unfold numbersB limitsB
  generalize reasonB s.reason = q
  rw [Bool.eq_iff_iff]
  cases q <;> simp <;> omega

theorem loop28 (nl : Option Bool) (l : List Sc) (hl : l.length ≤ 32) : ∀ (r : List Sc) (k : Nat), l.drop k = r → k ≤ l.length → ∀ H : Heap,
    noH ((W.loop [0, 3] l28_0 [(0, scs nl l), (3, I k)] H).map (blockC 0 [])) = some (if checkFrom l r k = 0 then (.normal, []) else (.ret, [(2, I (checkFrom l r k))])) := by
  intro r
  induction r with
  | nil =>
    intro k h1 h2 H
    have := drop_end h1 h2
    subst this
    rw [om_turn]
    simp [evl28_0, b28_0, intBin, checkFrom]
  | cons s r ih =>
    intro k h1 h2 H
    obtain ⟨hlt, hs, hr⟩ := drop_get h1
    have hk' : l[k]? = some s := by rw [List.getElem?_eq_getElem hlt, hs]
    have hJ := ih (k + 1) hr (by omega)
    simp only [Int.natCast_add, Int.cast_ofNat_Int] at hJ
    have hw : IntKind.wrap .i64 ((k : Int) + 1) = (k : Int) + 1 := by rw [wrap64] <;> omega
    have h53 := e53 nl l k s hk' (by omega)
    rw [om_turn]
    cases hn : numbersB k s with
    | false =>
      rw [hn] at h53
      simp [evl28_0, b28_0, intBin, checkFrom, hlt, h53, hn]
    | true =>
      rw [hn] at h53
      by_cases h0 : 0 < k
      · have hp : ∃ p, l[s.parent.toNat]? = some p ∧ 0 ≤ s.parent := by
          simp [numbersB] at hn
          have : s.parent.toNat < l.length := by omega
          exact ⟨_, List.getElem?_eq_getElem this, by omega⟩
        obtain ⟨p, hp, hp0⟩ := hp
        simp [evl28_0, b28_0, intBin, checkFrom, hlt, hs, loadV, ldCells, h53, hn, fldV, hw, h0, hp, hp0, pclosed, hJ]
        split <;> simp
      · simp [evl28_0, b28_0, intBin, checkFrom, hlt, hs, loadV, ldCells, h53, hn, fldV, hw, h0, pclosed, hJ]
        split <;> simp
theorem e28 (nl : Option Bool) (l : List Sc) : W.pure 28 [scs nl l] = some (I (check l)) := by
  rw [W_pure Φ28 rfl]
  unfold check
  by_cases h : (l.length : Int) < 1 ∨ 32 < (l.length : Int)
  · rw [if_pos h]
    rcases h with h | h <;> simp [fi28, c28, evFun, enterFr, intBin, resV, rvVs, rvV, h]
  · rw [if_neg h]
    have hL := loop28 nl l (by omega) l 0 rfl (by omega) []
    simp only [Int.natCast_zero] at hL
    have h1 : ¬ (l.length : Int) < 1 := by omega
    have h2 : ¬ 32 < (l.length : Int) := by omega
    by_cases he : checkFrom l l 0 = 0
    · rw [if_pos he] at hL
      obtain ⟨J, hJ⟩ := of_noH hL
      simp [fi28, c28, evFun, enterFr, intBin, resV, rvVs, rvV, h1, h2, hJ, he]
    · rw [if_neg he] at hL
      obtain ⟨J, hJ⟩ := of_noH hL
      simp [fi28, c28, evFun, enterFr, intBin, resV, rvVs, rvV, h1, h2, hJ]
theorem e51 (nl : Option Bool) (l : List Sc) (hl : l.length ≤ 1000000) (i : Int) : W.pure 51 [scs nl l, I i] = some (I (locate l i)) := by
  rw [W_pure Φ51 rfl]
  have h28 := e28 nl l
  have hw : IntKind.wrap .i64 ((l.length : Int) - 1) = (l.length : Int) - 1 := by rw [wrap64] <;> omega
  unfold locate
  by_cases hc : check l = 0
  · rw [hc] at h28
    rw [if_neg (by simpa using hc)]
    by_cases hi : i < 0 ∨ (l.length : Int) ≤ i
    · rw [if_pos hi]
      have : (decide (0 ≤ i) && decide (i ≤ (l.length : Int) - 1)) = false := by simp; omega
      simp [fi51, c51, evFun, enterFr, intBin, resV, rvVs, rvV, h28, hw, e48, this]
    · rw [if_neg hi]
      have : (decide (0 ≤ i) && decide (i ≤ (l.length : Int) - 1)) = true := by simp; omega
      simp [fi51, c51, evFun, enterFr, intBin, resV, rvVs, rvV, h28, hw, e48, this]
  · rw [if_pos hc]
    simp [fi51, c51, evFun, enterFr, intBin, resV, rvVs, rvV, h28, hc]
end Go.Proofs.Ytpooicjhhogknaa
