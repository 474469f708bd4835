/-
  Close, as the program and the reference have it (conditions: none).
-/
import Derived.Test.YtpooicjhhogknaaR5
namespace Go.Proofs.Ytpooicjhhogknaa
open Go Go.RowKit
set_option linter.unusedVariables false
set_option linter.unusedSimpArgs false
set_option maxRecDepth 10000

theorem e61 (nl : Option Bool) (l : List Sc) (hl : l.length ≤ 1000000) (i : Int) (J : Heap) : ∃ J', W.call (.clo 61 [] []) [scs nl l, .clo 55 [] [.optr 0 0 0 0]] (.arr 0 1 false [I i] :: J) = some (I (idxP i l 0), .arr 0 1 false [I i] :: J') := by
  have hL := loop61 nl l i hl l 0 rfl (by omega) J
  simp only [Int.natCast_zero] at hL
  by_cases he : idxP i l 0 = -1
  · simp only [if_pos he] at hL
    obtain ⟨J', hJ⟩ := of_topH hL
    refine ⟨J', ?_⟩
    rw [W_call Φ61]
    simp [fi61, c61, evFun, enterFr, intBin, resV, rvVs, rvV, hJ, he]
  · simp only [if_neg he] at hL
    obtain ⟨J', hJ⟩ := of_topH hL
    refine ⟨J', ?_⟩
    rw [W_call Φ61]
    simp [fi61, c61, evFun, enterFr, intBin, resV, rvVs, rvV, hJ]
theorem e54 (nl : Option Bool) (l : List Sc) (hl : l.length ≤ 1000000) (i : Int) (J : Heap) : ∃ J', W.call (.clo 54 [] []) [scs nl l, .clo 55 [] [.optr 0 0 0 0]] (.arr 0 1 false [I i] :: J) = some (.bool (l.any (openP i)), .arr 0 1 false [I i] :: J') := by
  obtain ⟨J', h61⟩ := e61 nl l hl i J
  refine ⟨J', ?_⟩
  rw [W_call Φ54]
  have hd : decide (0 ≤ idxP i l 0) = l.any (openP i) := by
    rcases idxP_any i l 0 with ⟨h1, h2⟩ | ⟨h1, h2⟩
    · rw [h1, h2]; rfl
    · rw [h2]; simpa using h1
  rw [← hd]
  simp [fi54, c54, evFun, enterFr, intBin, resV, rvVs, rvV, h61]
theorem e46_56 (l : List Sc) (hl : l.length ≤ 1000000) (k : Nat) (s : Sc) (hk : l[k]? = some s) : W.pure 46 [scs (some false) l, I k, .clo 56 [] []] = some (scs (some false) (l.set k { s with closed := true })) := by
  rw [W_pure Φ46 rfl]
  have h39 := e39 l hl []
  simp only [List.length_nil, List.nil_append] at h39
  have hlt : k < l.length := (List.getElem?_eq_some_iff.1 hk).1
  have hsk : l[k] = s := (List.getElem?_eq_some_iff.1 hk).2
  have hf : frz [.arr l.length 7 false ((l.set k { s with closed := true }).map Sc.av)] 8 (.osl 0 l.length 0 l.length) = some (scs (some false) (l.set k { s with closed := true })) := frz_osl0 (by simp) (still_av _)
  simp only [List.map_set, Sc.av] at hf
  simp [fi46, c46, evFun, enterFr, resV, rvVs, rvV, h39, idxaV, hlt, W_call Φ56, fi56, c56, loadV, ldCells, fldV, nilchkV, ex, exApp, truncH, setElem, hsk, splice, List.map_set, intBin, hf]
def closeV (z : AV) (l : List Sc) (i : Int) : AV :=
  if locate l i ≠ 0 then .tuple [z, I (locate l i)]
  else match l[i.toNat]? with
    | some s => if s.closed = true ∨ 0 < s.children ∨ l.any (openP i) = true then .tuple [z, I 17] else .tuple [scs (some false) (l.set i.toNat { s with closed := true }), I 0]
    | none => .bad
theorem e32 (b : Bool) (l : List Sc) (hb : b = true → l = []) (i : Int) : W.pure 32 [scs (some b) l, I i] = some (closeV nilS l i) := by
  rw [W_pure Φ32 rfl]
  have h44 := e44 (some b) l i
  unfold closeV
  by_cases hloc : locate l i = 0
  · obtain ⟨rfl, hlen, k, s, rfl, hs, hc1, hc2⟩ := located hb hloc
    rw [hloc] at h44
    rw [if_neg (by simpa using hloc)]
    have hk : k < l.length := (List.getElem?_eq_some_iff.1 hs).1
    have hsk : l[k] = s := (List.getElem?_eq_some_iff.1 hs).2
    have h46 := e46_56 l (by omega) k s hs
    obtain ⟨J', h54⟩ := e54 (some false) l (by omega) k []
    cases hcl : s.closed with
    | true => simp [fi32, c32, evFun, enterFr, resV, rvVs, rvV, h44, intBin, loadV, ldCells, hk, hsk, fldV, hcl, nilS, h54]
    | false =>
      by_cases h0 : 0 < s.children
      · simp [fi32, c32, evFun, enterFr, resV, rvVs, rvV, h44, intBin, loadV, ldCells, hk, hsk, fldV, hcl, nilS, h54, h0]
      · cases ha : l.any (openP (k : Int)) with
        | true =>
          rw [ha] at h54
          simp only [hs, Int.toNat_natCast, h0, false_or, or_true, if_true]
          simp [fi32, c32, evFun, enterFr, resV, rvVs, rvV, h44, intBin, loadV, ldCells, hk, hsk, fldV, hcl, nilS, h54, h0]
        | false =>
          rw [ha] at h54
          simp only [hs, Int.toNat_natCast, h0, hcl, false_or, Bool.false_eq_true, or_self, if_false]
          simp [fi32, c32, evFun, enterFr, resV, rvVs, rvV, h44, intBin, loadV, ldCells, hk, hsk, fldV, hcl, nilS, h54, h0, h46]
  · rw [if_pos hloc]
    simp [fi32, c32, evFun, enterFr, resV, rvVs, rvV, h44, intBin, hloc, nilS, loadV, ldCells]
theorem loop33 (nl : Option Bool) (l : List Sc) (i : Int) (hl : l.length ≤ 1000000) : ∀ (r : List Sc) (k : Nat), l.drop k = r → k ≤ l.length → ∀ H : Heap,
    noH ((W.loop [0, 1, 7] l33_0 [(0, scs nl l), (1, I i), (7, I k)] H).map (blockC 0 [0, 1])) = some (if r.any (openP i) = true then (.ret, [(4, noS), (5, I 17)]) else (.normal, [(0, scs nl l), (1, I i)])) := by
  intro r
  induction r with
  | nil =>
    intro k h1 h2 H
    have := drop_end h1 h2
    subst this
    rw [om_turn]
    simp [evl33_0, b33_0, intBin]
  | cons s r ih =>
    intro k h1 h2 H
    obtain ⟨hlt, hs, hr⟩ := drop_get h1
    have hJ := ih (k + 1) hr (by omega)
    simp only [Int.natCast_add, Int.cast_ofNat_Int] at hJ
    have hw : IntKind.wrap .i64 ((k : Int) + 1) = (k : Int) + 1 := by rw [wrap64] <;> omega
    rw [om_turn]
    by_cases hp : s.parent = i
    · cases hc : s.closed with
      | true =>
        have ho : openP i s = false := by simp [openP, hc]
        rw [List.any_cons, ho, Bool.false_or, ← hJ H]
        simp [evl33_0, b33_0, intBin, hlt, hs, loadV, ldCells, fldV, hp, hc, hw]
      | false =>
        have ho : openP i s = true := by simp [openP, hc, hp]
        rw [List.any_cons, ho]
        simp [evl33_0, b33_0, intBin, hlt, hs, loadV, ldCells, fldV, hp, hc, hw, ex_bsl1, noS_eq]
    · have ho : openP i s = false := by simp [openP, hp]
      rw [List.any_cons, ho, Bool.false_or, ← hJ H]
      simp [evl33_0, b33_0, intBin, hlt, hs, loadV, ldCells, fldV, hp, hw]
theorem loop33H (nl : Option Bool) (l : List Sc) (i : Int) (hl : l.length ≤ 1000000) : ∀ (r : List Sc) (k : Nat), l.drop k = r → k ≤ l.length → r.any (openP i) = false →
    (W.loop [0, 1, 7] l33_0 [(0, scs nl l), (1, I i), (7, I k)] []).map (blockC 0 [0, 1]) = some (.normal, [(0, scs nl l), (1, I i)], []) := by
  intro r
  induction r with
  | nil =>
    intro k h1 h2 _
    have := drop_end h1 h2
    subst this
    rw [om_turn]
    simp [evl33_0, b33_0, intBin]
  | cons s r ih =>
    intro k h1 h2 ha
    obtain ⟨hlt, hs, hr⟩ := drop_get h1
    rw [List.any_cons, Bool.or_eq_false_iff] at ha
    have hJ := ih (k + 1) hr (by omega) ha.2
    simp only [Int.natCast_add, Int.cast_ofNat_Int] at hJ
    have hw : IntKind.wrap .i64 ((k : Int) + 1) = (k : Int) + 1 := by rw [wrap64] <;> omega
    rw [om_turn, ← hJ]
    by_cases hp : s.parent = i
    · cases hc : s.closed with
      | true => simp [evl33_0, b33_0, intBin, hlt, hs, loadV, ldCells, fldV, hp, hc, hw, -Option.map_eq_some_iff]
      | false => simp [openP, hp, hc] at ha
    · simp [evl33_0, b33_0, intBin, hlt, hs, loadV, ldCells, fldV, hp, hw, -Option.map_eq_some_iff]
theorem e33 (b : Bool) (l : List Sc) (hb : b = true → l = []) (hl : l.length ≤ 1000000) (i : Int) : W.pure 33 [scs (some b) l, I i] = some (closeV noS l i) := by
  rw [W_pure Φ33 rfl]
  have h51 := e51 (some b) l hl i
  unfold closeV
  by_cases hloc : locate l i = 0
  · obtain ⟨rfl, hlen, k, s, rfl, hs, hc1, hc2⟩ := located hb hloc
    rw [hloc] at h51
    rw [if_neg (by simpa using hloc)]
    have hk : k < l.length := (List.getElem?_eq_some_iff.1 hs).1
    have hsk : l[k] = s := (List.getElem?_eq_some_iff.1 hs).2
    have hf : frz [.arr l.length 7 false ((l.set k { s with closed := true }).map Sc.av)] 7 (.osl 0 l.length 0 l.length) = some (scs (some false) (l.set k { s with closed := true })) := frz_osl0 (by simp) (still_av _)
    simp only [List.map_set, Sc.av] at hf
    have happ := app0 (some false) l hl
    have hL := loop33 (some false) l k hl l 0 rfl (by omega) []
    simp only [Int.natCast_zero] at hL
    cases hcl : s.closed with
    | true => simp [fi33, c33, evFun, enterFr, resV, rvVs, rvV, h51, intBin, loadV, ldCells, hk, hsk, fldV, hcl, ex_bsl1, noS_eq]
    | false =>
      by_cases h0 : 0 < s.children
      · simp [fi33, c33, evFun, enterFr, resV, rvVs, rvV, h51, intBin, loadV, ldCells, hk, hsk, fldV, hcl, ex_bsl1, noS_eq, h0]
      · cases ha : l.any (openP (k : Int)) with
        | true =>
          rw [ha, if_pos rfl] at hL
          obtain ⟨J, hJ⟩ := of_noH hL
          simp only [hs, Int.toNat_natCast, h0, false_or, or_true, if_true]
          simp [fi33, c33, evFun, enterFr, resV, rvVs, rvV, h51, intBin, loadV, ldCells, hk, hsk, fldV, hcl, noS_eq, h0, hJ]
        | false =>
          rw [ha, if_neg (by simp)] at hL
          have hL2 := loop33H (some false) l k hl
          simp only [hs, Int.toNat_natCast, h0, hcl, false_or, Bool.false_eq_true, or_self, if_false]
          obtain ⟨J, hJ⟩ := of_noH hL
          have hJ' : J = [] := by have := hL2 l 0 rfl (by omega) ha; simp only [Int.natCast_zero] at this; rw [this] at hJ; simpa using hJ.symm
          subst hJ'
          simp [fi33, c33, evFun, enterFr, resV, rvVs, rvV, h51, intBin, loadV, ldCells, hk, hsk, fldV, hcl, noS_eq, h0, hJ, ex_bsl0, happ, idxa_own, ex_store, setElem, splice, hf]
  · rw [if_pos hloc]
    simp [fi33, c33, evFun, enterFr, resV, rvVs, rvV, h51, intBin, hloc, ex_bsl1, noS_eq]
end Go.Proofs.Ytpooicjhhogknaa
