/-
  Enter, Leave, Open, as the program and the reference have them (conditions: none).
-/
import Derived.Test.YtpooicjhhogknaaR1
namespace Go.Proofs.Ytpooicjhhogknaa
open Go Go.RowKit
set_option linter.unusedVariables false
set_option linter.unusedSimpArgs false
set_option maxRecDepth 10000

theorem e30 : W.pure 30 [] = some (scs (some false) [⟨-1, -1, 0, 0, 0, -1, false⟩]) := by
  rw [W_pure Φ30 rfl]
  simp [fi30, c30, evFun, enterFr, resV, rvVs, rvV, bldV, splice, ex, exApp, truncH, bslE, scs]
theorem len_isl (a : Option Bool) (z : Nat) (es : List AV) : lenV false (.isl a z es) = I es.length := rfl
theorem e20n (b : Option Bool) : W.pure 20 [nilS, scs b []] = some (.bool true) := by
  rw [W_pure Φ20 rfl]
  simp [fi20, c20, evFun, enterFr, intBin, resV, rvVs, rvV, nilS, len_isl, om_turn, evl20_0, b20_0]
theorem children_wf {l : List Sc} (h : check l = 0) {j : Nat} {s : Sc} (hj : l[j]? = some s) : 0 ≤ s.children ∧ s.children ≤ 16 := by
  have := check_num h hj
  simp [numbersB] at this
  omega
theorem e46_50 (l : List Sc) (hl : l.length ≤ 1000000) (k : Nat) (s : Sc) (hk : l[k]? = some s) (hs : 0 ≤ s.children ∧ s.children ≤ 16) : W.pure 46 [scs (some false) l, I k, .clo 50 [] []] = some (scs (some false) (l.set k { s with children := s.children + 1 })) := by
  rw [W_pure Φ46 rfl]
  have h39 := e39 l hl []
  simp only [List.length_nil, List.nil_append] at h39
  have hlt : k < l.length := (List.getElem?_eq_some_iff.1 hk).1
  have hsk : l[k] = s := (List.getElem?_eq_some_iff.1 hk).2
  have hw : IntKind.wrap .i64 (s.children + 1) = s.children + 1 := by rw [wrap64] <;> omega
  have hf : frz [.arr l.length 7 false ((l.set k { s with children := s.children + 1 }).map Sc.av)] 8 (.osl 0 l.length 0 l.length) = some (scs (some false) (l.set k { s with children := s.children + 1 })) := frz_osl0 (by simp) (still_av _)
  simp only [List.map_set, Sc.av] at hf
  simp [fi46, c46, evFun, enterFr, resV, rvVs, rvV, h39, idxaV, hlt, W_call Φ50, fi50, c50, loadV, ldCells, fldV, nilchkV, ex, exApp, truncH, setElem, hsk, splice, List.map_set, intBin, hw, hf]
theorem e46_52 (l : List Sc) (hl : l.length ≤ 1000000) (k : Nat) (s : Sc) (hk : l[k]? = some s) (hs : 0 ≤ s.children ∧ s.children ≤ 16) : W.pure 46 [scs (some false) l, I k, .clo 52 [] []] = some (scs (some false) (l.set k { s with children := s.children - 1 })) := by
  rw [W_pure Φ46 rfl]
  have h39 := e39 l hl []
  simp only [List.length_nil, List.nil_append] at h39
  have hlt : k < l.length := (List.getElem?_eq_some_iff.1 hk).1
  have hsk : l[k] = s := (List.getElem?_eq_some_iff.1 hk).2
  have hw : IntKind.wrap .i64 (s.children - 1) = s.children - 1 := by rw [wrap64] <;> omega
  have hf : frz [.arr l.length 7 false ((l.set k { s with children := s.children - 1 }).map Sc.av)] 8 (.osl 0 l.length 0 l.length) = some (scs (some false) (l.set k { s with children := s.children - 1 })) := frz_osl0 (by simp) (still_av _)
  simp only [List.map_set, Sc.av] at hf
  simp [fi46, c46, evFun, enterFr, resV, rvVs, rvV, h39, idxaV, hlt, W_call Φ52, fi52, c52, loadV, ldCells, fldV, nilchkV, ex, exApp, truncH, setElem, hsk, splice, List.map_set, intBin, hw, hf]
def enterV (z : AV) (l : List Sc) (i : Int) : AV :=
  if locate l i ≠ 0 then .tuple [z, I (locate l i)]
  else match l[i.toNat]? with
    | some s => if s.closed = true then .tuple [z, I 17] else if s.children = 16 then .tuple [z, I 4] else .tuple [scs (some false) (l.set i.toNat { s with children := s.children + 1 }), I 0]
    | none => .bad
def leaveV (z : AV) (l : List Sc) (i : Int) : AV :=
  if locate l i ≠ 0 then .tuple [z, I (locate l i)]
  else match l[i.toNat]? with
    | some s => if s.children = 0 then .tuple [z, I 23] else .tuple [scs (some false) (l.set i.toNat { s with children := s.children - 1 }), I 0]
    | none => .bad
/-- What is known where scope i is in the tree l. -/
theorem located {b : Bool} {l : List Sc} (hb : b = true → l = []) {i : Int} (h : locate l i = 0) : b = false ∧ l.length ≤ 32 ∧ ∃ (k : Nat) (s : Sc), i = k ∧ l[k]? = some s ∧ 0 ≤ s.children ∧ s.children ≤ 16 := by
  obtain ⟨h1, h2, h3⟩ := locate_ok h
  have hlen := check_len h1
  refine ⟨?_, hlen.2, i.toNat, l[i.toNat]'(by omega), by omega, List.getElem?_eq_getElem (by omega), children_wf h1 (List.getElem?_eq_getElem (by omega))⟩
  cases b with
  | false => rfl
  | true => exact absurd (hb rfl) (nonempty_of_check h1)
theorem e24 (b : Bool) (l : List Sc) (hb : b = true → l = []) (i : Int) : W.pure 24 [scs (some b) l, I i] = some (enterV nilS l i) := by
  rw [W_pure Φ24 rfl]
  have h44 := e44 (some b) l i
  unfold enterV
  by_cases hloc : locate l i = 0
  · obtain ⟨rfl, hlen, k, s, rfl, hs, hc1, hc2⟩ := located hb hloc
    rw [hloc] at h44
    rw [if_neg (by simpa using hloc)]
    have h46 := e46_50 l (by omega) k s hs ⟨hc1, hc2⟩
    cases hcl : s.closed with
    | true => simp [fi24, c24, evFun, enterFr, resV, rvVs, rvV, h44, intBin, loadV, ldCells, hs, fldV, hcl, nilS]
    | false =>
      by_cases h16 : s.children = 16
      · simp [fi24, c24, evFun, enterFr, resV, rvVs, rvV, h44, intBin, loadV, ldCells, hs, fldV, hcl, nilS, h16]
      · simp only [hcl] at h46
        simp [fi24, c24, evFun, enterFr, resV, rvVs, rvV, h44, intBin, loadV, ldCells, hs, fldV, hcl, nilS, h16, h46]
  · rw [if_pos hloc]
    simp [fi24, c24, evFun, enterFr, resV, rvVs, rvV, h44, intBin, hloc, nilS]
theorem e26 (b : Bool) (l : List Sc) (hb : b = true → l = []) (i : Int) : W.pure 26 [scs (some b) l, I i] = some (leaveV nilS l i) := by
  rw [W_pure Φ26 rfl]
  have h44 := e44 (some b) l i
  unfold leaveV
  by_cases hloc : locate l i = 0
  · obtain ⟨rfl, hlen, k, s, rfl, hs, hc1, hc2⟩ := located hb hloc
    rw [hloc] at h44
    rw [if_neg (by simpa using hloc)]
    have h46 := e46_52 l (by omega) k s hs ⟨hc1, hc2⟩
    by_cases h0 : s.children = 0
    · simp [fi26, c26, evFun, enterFr, resV, rvVs, rvV, h44, intBin, loadV, ldCells, hs, fldV, nilS, h0]
    · simp [fi26, c26, evFun, enterFr, resV, rvVs, rvV, h44, intBin, loadV, ldCells, hs, fldV, nilS, h0, h46]
  · rw [if_pos hloc]
    simp [fi26, c26, evFun, enterFr, resV, rvVs, rvV, h44, intBin, hloc, nilS]
end Go.Proofs.Ytpooicjhhogknaa
