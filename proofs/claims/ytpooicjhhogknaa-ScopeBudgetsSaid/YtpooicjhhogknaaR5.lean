/-
  Cancel and Close, as the program and the reference have them (conditions: none).
-/
import Derived.Test.YtpooicjhhogknaaR4
namespace Go.Proofs.Ytpooicjhhogknaa
open Go Go.RowKit
set_option linter.unusedVariables false
set_option linter.unusedSimpArgs false
set_option maxRecDepth 10000

def cancelZ (z : AV) (b : Bool) (l : List Sc) (i why : Int) : AV :=
  if locate l i ≠ 0 then .tuple [z, .bool false, I (locate l i)]
  else if reasonB why = false then .tuple [z, .bool false, I 2]
  else match l[i.toNat]? with
    | some s => if s.reason ≠ 0 ∨ s.closed = true then .tuple [scs (some b) l, .bool false, I 0] else .tuple [scs (some false) (l.set i.toNat { s with reason := why }), .bool true, I 0]
    | none => .bad
theorem cancelV_eq (b : Bool) (l : List Sc) (i why : Int) : cancelV b l i why = cancelZ nilS b l i why := rfl
theorem e31 (b : Bool) (l : List Sc) (hb : b = true → l = []) (hl : l.length ≤ 1000000) (i why : Int) : W.pure 31 [scs (some b) l, I i, I why] = some (cancelZ noS b l i why) := by
  rw [W_pure Φ31 rfl]
  have h51 := e51 (some b) l hl i
  have h19 := e19 why
  unfold cancelZ
  by_cases hloc : locate l i = 0
  · obtain ⟨rfl, hlen, k, s, rfl, hs, hc1, hc2⟩ := located hb hloc
    rw [hloc] at h51
    rw [if_neg (by simpa using hloc)]
    have hk : k < l.length := (List.getElem?_eq_some_iff.1 hs).1
    have hsk : l[k] = s := (List.getElem?_eq_some_iff.1 hs).2
    cases hw : reasonB why with
    | false =>
      rw [hw] at h19
      simp [fi31, c31, evFun, enterFr, resV, rvVs, rvV, h51, h19, intBin, loadV, ldCells, ex_bsl1, noS_eq]
    | true =>
      rw [hw] at h19
      have hf : frz [.arr l.length 7 false ((l.set k { s with reason := why }).map Sc.av)] 7 (.osl 0 l.length 0 l.length) = some (scs (some false) (l.set k { s with reason := why })) := frz_osl0 (by simp) (still_av _)
      simp only [List.map_set, Sc.av] at hf
      have happ := app0 (some false) l hl
      by_cases h0 : s.reason = 0
      · cases hcl : s.closed with
        | true => simp [fi31, c31, evFun, enterFr, resV, rvVs, rvV, h51, h19, intBin, loadV, ldCells, hk, hsk, fldV, h0, hcl]
        | false =>
          simp only [hcl] at hf
          simp [fi31, c31, evFun, enterFr, resV, rvVs, rvV, h51, h19, intBin, loadV, ldCells, hk, hsk, fldV, h0, hcl, ex_bsl0, happ, idxa_own, ex_store, setElem, splice, hf]
      · simp [fi31, c31, evFun, enterFr, resV, rvVs, rvV, h51, h19, intBin, loadV, ldCells, hk, hsk, fldV, h0]
  · rw [if_pos hloc]
    simp [fi31, c31, evFun, enterFr, resV, rvVs, rvV, h51, intBin, hloc, ex_bsl1, noS_eq]

/-- Is s an open scope in scope i? -/
def openP (i : Int) (s : Sc) : Bool := decide (s.parent = i) && !s.closed
theorem e55 (i : Int) (s : Sc) (J : Heap) : W.call (.clo 55 [] [.optr 0 0 0 0]) [s.av] (.arr 0 1 false [I i] :: J) = some (.bool (openP i s), .arr 0 1 false [I i] :: (J ++ [.arr 0 7 false [s.av]])) := by
  rw [W_call Φ55]
  have hl : (J ++ [.arr 0 7 false [s.av]])[J.length]? = some (.arr 0 7 false [s.av]) := by simp
  simp [fi55, c55, evFun, enterFr, resV, rvVs, rvV, loadV, ldCells, fldV, intBin, openP]
/-- The first block and the rest forgotten. -/
def topH (x : Option (LX × Fr × Heap)) : Option (LX × Fr × Heap) := x.map fun p => (p.1, p.2.1, p.2.2.take 1)
@[simp] theorem topH_some (x : LX) (F : Fr) (b : Blk) (H : Heap) : topH (some (x, F, b :: H)) = some (x, F, [b]) := by simp [topH]
theorem of_topH {x : Option (LX × Fr × Heap)} {y : LX} {F : Fr} {b : Blk} (h : topH x = some (y, F, [b])) : ∃ J, x = some (y, F, b :: J) := by
  cases x with
  | none => cases h
  | some p =>
    obtain ⟨a, c, H⟩ := p
    simp only [topH, Option.map_some, Option.some.injEq, Prod.mk.injEq] at h
    obtain ⟨rfl, rfl, h⟩ := h
    cases H with
    | nil => simp at h
    | cons d J => simp at h; subst h; exact ⟨J, rfl⟩
def idxP (i : Int) : List Sc → Nat → Int
  | [], _ => -1
  | s :: r, k => if openP i s = true then k else idxP i r (k + 1)
theorem idxP_any (i : Int) : ∀ (r : List Sc) (k : Nat), (idxP i r k = -1 ∧ r.any (openP i) = false) ∨ (0 ≤ idxP i r k ∧ r.any (openP i) = true) := by
  intro r
  induction r with
  | nil => intro k; exact .inl ⟨rfl, rfl⟩
  | cons s r ih =>
    intro k
    unfold idxP
    cases h : openP i s with
    | true => exact .inr ⟨by simp, by simp [h]⟩
    | false => simpa [h] using ih (k + 1)
theorem loop61 (nl : Option Bool) (l : List Sc) (i : Int) (hl : l.length ≤ 1000000) : ∀ (r : List Sc) (k : Nat), l.drop k = r → k ≤ l.length → ∀ J : Heap,
    topH ((W.loop [0, 1, 7, 8] l61_0 [(0, scs nl l), (1, .clo 55 [] [.optr 0 0 0 0]), (7, I l.length), (8, I k)] (.arr 0 1 false [I i] :: J)).map (blockC 0 [])) = some (if idxP i r k = -1 then .normal else .ret, if idxP i r k = -1 then [] else [(4, I (idxP i r k))], [.arr 0 1 false [I i]]) := by
  intro r
  induction r with
  | nil =>
    intro k h1 h2 J
    have := drop_end h1 h2
    subst this
    rw [om_turn]
    simp [evl61_0, b61_0, intBin, idxP]
  | cons s r ih =>
    intro k h1 h2 J
    obtain ⟨hlt, hs, hr⟩ := drop_get h1
    have hJ := ih (k + 1) hr (by omega)
    simp only [Int.natCast_add, Int.cast_ofNat_Int] at hJ
    have hw : IntKind.wrap .i64 ((k : Int) + 1) = (k : Int) + 1 := by rw [wrap64] <;> omega
    have h55 := e55 i s J
    simp only [Sc.av] at h55
    have hk1 : ¬ (k : Int) = -1 := by omega
    rw [om_turn]
    cases hp : openP i s with
    | true =>
      rw [hp] at h55
      simp [evl61_0, b61_0, intBin, idxP, hlt, hs, loadV, ldCells, h55, hp, hk1]
    | false =>
      rw [hp] at h55
      simp [evl61_0, b61_0, intBin, idxP, hlt, hs, loadV, ldCells, h55, hp, hw, hJ]
end Go.Proofs.Ytpooicjhhogknaa
