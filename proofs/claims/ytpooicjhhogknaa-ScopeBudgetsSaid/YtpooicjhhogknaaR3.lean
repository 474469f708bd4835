/-
  The reference's Enter, Leave and Open (conditions: none).
-/
import Derived.Test.YtpooicjhhogknaaR2
namespace Go.Proofs.Ytpooicjhhogknaa
open Go Go.RowKit
set_option linter.unusedVariables false
set_option linter.unusedSimpArgs false
set_option maxRecDepth 10000

theorem ex_bsl0 (H : Heap) (sz : Nat) (z : AV) : ex H (.bsl false sz 0 z []) [] = if z.cells.length = sz then some (.osl H.length 0 0 0, H ++ [.arr 0 sz false []]) else none := by
  simp [ex, exApp, truncH, bslE]
theorem ex_bsl1 (H : Heap) (sz : Nat) (z : AV) : ex H (.bsl true sz 0 z []) [] = if z.cells.length = sz then some (.isl (some false) sz [], H) else none := by
  simp [ex, exApp, truncH, bslE]
theorem ex_store (H : Heap) (n id ver idx off : Nat) (x : AV) : ex H (.store n) [.optr id ver idx off, x] = match H[id]? with
      | some (.arr v sz false es) => if ver = v ∧ x.cells.length = n ∧ x.cells.all AV.cell then (setElem es idx off x).map fun es' => (.und, H.set id (.arr v sz false es')) else none
      | _ => none := rfl
theorem app0 (nl : Option Bool) (l : List Sc) (hl : l.length ≤ 1000000) : ex [.arr 0 7 false []] (.app 7) [.osl 0 0 0 0, scs nl l] = some (.osl 0 l.length 0 l.length, [.arr l.length 7 false (l.map Sc.av)]) := by
  have hr : l.length ≤ appRoom := by simp [appRoom]; omega
  cases l with
  | nil => simp [ex, exApp, truncH, elems_scs]
  | cons s r =>
    have hc := cell_av (s :: r)
    simp only [List.map_cons] at hc
    have hr' : r.length + 1 ≤ appRoom := hr
    simp [ex, exApp, truncH, elems_scs, hr', hc]
theorem idxa_own (v sz off len : Nat) (sh : Bool) (es : List AV) (k : IntKind) (n : Int) : idxaV [.arr v sz sh es] sz (.osl 0 v off len) (.int k n) = if 0 ≤ n ∧ n < len then .optr 0 v (off + n.toNat) 0 else .bad := by
  simp [idxaV]
def noS : AV := scs (some false) []
theorem noS_eq : (.isl (some false) 7 [] : AV) = noS := rfl
@[simp] theorem okO_noS : okO noS = some noS := rfl
@[simp] theorem frz_noS (H : Heap) (n : Nat) : frz H (n + 1) noS = some noS := rfl
theorem e25 (b : Bool) (l : List Sc) (hb : b = true → l = []) (hl : l.length ≤ 1000000) (i : Int) : W.pure 25 [scs (some b) l, I i] = some (enterV noS l i) := by
  rw [W_pure Φ25 rfl]
  have h51 := e51 (some b) l hl i
  unfold enterV
  by_cases hloc : locate l i = 0
  · obtain ⟨rfl, hlen, k, s, rfl, hs, hc1, hc2⟩ := located hb hloc
    rw [hloc] at h51
    rw [if_neg (by simpa using hloc)]
    have hk : k < l.length := (List.getElem?_eq_some_iff.1 hs).1
    have hsk : l[k] = s := (List.getElem?_eq_some_iff.1 hs).2
    have hw : IntKind.wrap .i64 (s.children + 1) = s.children + 1 := by rw [wrap64] <;> omega
    have hf : frz [.arr l.length 7 false ((l.set k { s with children := s.children + 1 }).map Sc.av)] 7 (.osl 0 l.length 0 l.length) = some (scs (some false) (l.set k { s with children := s.children + 1 })) := frz_osl0 (by simp) (still_av _)
    simp only [List.map_set, Sc.av] at hf
    have happ := app0 (some false) l hl
    cases hcl : s.closed with
    | true => simp [fi25, c25, evFun, enterFr, resV, rvVs, rvV, h51, intBin, loadV, ldCells, hk, hsk, fldV, hcl, ex_bsl1, noS_eq]
    | false =>
      by_cases h16 : s.children = 16
      · simp [fi25, c25, evFun, enterFr, resV, rvVs, rvV, h51, intBin, loadV, ldCells, hk, hsk, fldV, hcl, h16, ex_bsl1, noS_eq]
      · simp only [hcl] at hf
        simp [fi25, c25, evFun, enterFr, resV, rvVs, rvV, h51, intBin, loadV, ldCells, hk, hsk, fldV, hcl, h16, ex_bsl0, happ, idxa_own, ex_store, setElem, splice, hw, hf]
  · rw [if_pos hloc]
    simp [fi25, c25, evFun, enterFr, resV, rvVs, rvV, h51, intBin, hloc, ex_bsl1, noS_eq]
theorem e27 (b : Bool) (l : List Sc) (hb : b = true → l = []) (hl : l.length ≤ 1000000) (i : Int) : W.pure 27 [scs (some b) l, I i] = some (leaveV noS l i) := by
  rw [W_pure Φ27 rfl]
  have h51 := e51 (some b) l hl i
  unfold leaveV
  by_cases hloc : locate l i = 0
  · obtain ⟨rfl, hlen, k, s, rfl, hs, hc1, hc2⟩ := located hb hloc
    rw [hloc] at h51
    rw [if_neg (by simpa using hloc)]
    have hk : k < l.length := (List.getElem?_eq_some_iff.1 hs).1
    have hsk : l[k] = s := (List.getElem?_eq_some_iff.1 hs).2
    have hw : IntKind.wrap .i64 (s.children - 1) = s.children - 1 := by rw [wrap64] <;> omega
    have hf : frz [.arr l.length 7 false ((l.set k { s with children := s.children - 1 }).map Sc.av)] 7 (.osl 0 l.length 0 l.length) = some (scs (some false) (l.set k { s with children := s.children - 1 })) := frz_osl0 (by simp) (still_av _)
    simp only [List.map_set, Sc.av] at hf
    have happ := app0 (some false) l hl
    by_cases h0 : s.children = 0
    · simp [fi27, c27, evFun, enterFr, resV, rvVs, rvV, h51, intBin, loadV, ldCells, hk, hsk, fldV, h0, ex_bsl1, noS_eq]
    · simp [fi27, c27, evFun, enterFr, resV, rvVs, rvV, h51, intBin, loadV, ldCells, hk, hsk, fldV, h0, ex_bsl0, happ, idxa_own, ex_store, setElem, splice, hw, hf]
  · rw [if_pos hloc]
    simp [fi27, c27, evFun, enterFr, resV, rvVs, rvV, h51, intBin, hloc, ex_bsl1, noS_eq]
end Go.Proofs.Ytpooicjhhogknaa
