/-
  The reference's Open (conditions: none).
-/
import Derived.Test.YtpooicjhhogknaaR3
namespace Go.Proofs.Ytpooicjhhogknaa
open Go Go.RowKit
set_option linter.unusedVariables false
set_option linter.unusedSimpArgs false
set_option maxRecDepth 10000

def openZ (z : AV) (l : List Sc) (p o d u : Int) : AV :=
  if check l ≠ 0 then .tuple [z, I 0, I 1]
  else if p < 0 ∨ (l.length : Int) ≤ p ∨ o < 0 ∨ 16 ≤ o ∨ limitsB d u = false then .tuple [z, I 0, I 2]
  else match l[p.toNat]? with
    | some s => if s.closed = true then .tuple [z, I 0, I 17] else if (l.length : Int) = 32 then .tuple [z, I 0, I 4] else .tuple [scs (some false) (l ++ [⟨p, o, 0, 0, d, u, false⟩]), I l.length, I 0]
    | none => .bad
theorem openV_eq (b : Bool) (l : List Sc) (p o d u : Int) : openV b l p o d u = openZ nilS l p o d u := rfl
theorem app1 (l : List Sc) (hl : l.length ≤ 1000000) (x : Sc) : ex [.arr l.length 7 false (l.map Sc.av)] (.app 7) [.osl 0 l.length 0 l.length, .isl (some false) 7 [x.av]] = some (.osl 0 (l.length + 1) 0 (l.length + 1), [.arr (l.length + 1) 7 false ((l ++ [x]).map Sc.av)]) := by
  have hroom : l.length + 1 ≤ appRoom := by simp [appRoom]; omega
  simp [ex, exApp, truncH, elemsOf, hroom]
theorem bsl_one (H : Heap) (z x : Sc) : ex H (.bsl true 7 1 z.av [0]) [x.av] = some (.isl (some false) 7 [x.av], H) := by
  simp [ex, exApp, truncH, bslE]
theorem e23 (b : Bool) (l : List Sc) (hb : b = true → l = []) (p o d u : Int) : W.pure 23 [scs (some b) l, I p, I o, I d, I u] = some (openZ noS l p o d u) := by
  rw [W_pure Φ23 rfl]
  have h28 := e28 (some b) l
  unfold openZ
  by_cases h1 : check l = 0
  · have hb' : b = false := by
      cases b with
      | false => rfl
      | true => exact absurd (hb rfl) (nonempty_of_check h1)
    subst hb'
    have hlen := check_len h1
    rw [h1] at h28
    rw [if_neg (by simpa using h1)]
    have hw : IntKind.wrap .i64 ((l.length : Int) - 1) = (l.length : Int) - 1 := by rw [wrap64] <;> omega
    have hq : (p < 0 ∨ (l.length : Int) ≤ p ∨ o < 0 ∨ 16 ≤ o ∨ limitsB d u = false) ↔ ¬ ((((0 ≤ p ∧ p ≤ (l.length : Int) - 1) ∧ (0 ≤ o ∧ o ≤ 15)) ∧ (0 ≤ d ∧ d ≤ 1099511627776)) ∧ (-1 ≤ u ∧ u ≤ 1099511627776)) := by
      simp [limitsB]; omega
    by_cases hr : p < 0 ∨ (l.length : Int) ≤ p ∨ o < 0 ∨ 16 ≤ o ∨ limitsB d u = false
    · rw [if_pos hr]
      have hr' := hq.1 hr
      simp [fi23, c23, evFun, enterFr, resV, rvVs, rvV, h28, e48, hw, intBin, ex_bsl1, noS_eq]
      intro a1 a2 a3 a4 a5 a6 a7 a8
      exfalso; apply hr'; omega
    · rw [if_neg hr]
      have hr' := Decidable.not_not.1 (fun h => hr (hq.2 h))
      obtain ⟨⟨⟨⟨a1, a2⟩, a3, a4⟩, a5, a6⟩, a7, a8⟩ := hr'
      obtain ⟨k, rfl⟩ : ∃ k : Nat, p = k := ⟨p.toNat, by omega⟩
      have hk : k < l.length := by omega
      obtain ⟨s, hs⟩ : ∃ s, l[k] = s := ⟨_, rfl⟩
      have b2 : ¬ ((l.length : Int) - 1 < k) := by omega
      have b3 : ¬ (o < 0) := by omega
      have b4 : ¬ (15 < o) := by omega
      have b5 : ¬ (d < 0) := by omega
      have b6 : ¬ (1099511627776 < d) := by omega
      have b7 : ¬ (u < -1) := by omega
      have b8 : ¬ (1099511627776 < u) := by omega
      cases hcl : s.closed with
      | true => simp [fi23, c23, evFun, enterFr, resV, rvVs, rvV, h28, e48, hw, intBin, ex_bsl1, noS_eq, a2, a3, a4, a5, a6, a7, a8, b2, b3, b4, b5, b6, b7, b8, hk, hs, loadV, ldCells, fldV, hcl]
      | false =>
        by_cases h32 : (l.length : Int) = 32
        · have hw31 : IntKind.wrap .i64 31 = 31 := by rw [wrap64] <;> omega
          have b31 : ¬ (31 : Int) < k := by omega
          simp [fi23, c23, evFun, enterFr, resV, rvVs, rvV, h28, e48, hw, intBin, ex_bsl1, noS_eq, a2, a3, a4, a5, a6, a7, a8, b2, b3, b4, b5, b6, b7, b8, hk, hs, loadV, ldCells, fldV, hcl, h32, hw31, b31]
        · have happ := app0 (some false) l (by omega)
          have hone := bsl_one [.arr l.length 7 false (l.map Sc.av)] ⟨0, 0, 0, 0, 0, 0, false⟩ ⟨k, o, 0, 0, d, u, false⟩
          have hap1 := app1 l (by omega) ⟨k, o, 0, 0, d, u, false⟩
          have hf : frz [.arr (l.length + 1) 7 false ((l ++ [(⟨k, o, 0, 0, d, u, false⟩ : Sc)]).map Sc.av)] 7 (.osl 0 (l.length + 1) 0 (l.length + 1)) = some (scs (some false) (l ++ [(⟨k, o, 0, 0, d, u, false⟩ : Sc)])) := frz_osl0 (by simp) (still_av _)
          simp only [List.map_append, List.map_cons, List.map_nil, Sc.av] at hf hone hap1
          simp [fi23, c23, evFun, enterFr, resV, rvVs, rvV, h28, e48, hw, intBin, ex_bsl0, noS_eq, a2, a3, a4, a5, a6, a7, a8, b2, b3, b4, b5, b6, b7, b8, hk, hs, loadV, ldCells, fldV, hcl, h32, happ, hone, hap1, bldV, splice, hf]
  · rw [if_pos h1]
    simp [fi23, c23, evFun, enterFr, resV, rvVs, rvV, h28, intBin, h1, ex_bsl1, noS_eq]
end Go.Proofs.Ytpooicjhhogknaa
