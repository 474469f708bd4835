/-
  Plain functions for the program's, part 4: Equal, Root, Open, Cancel, Cause (conditions: none).
-/
import Derived.Test.YtpooicjhhogknaaF3
namespace Go.Proofs.Ytpooicjhhogknaa
open Go Go.RowKit
set_option linter.unusedVariables false
set_option linter.unusedSimpArgs false
set_option maxRecDepth 10000

theorem e11 (nl : Option Bool) (l : List Sc) (n : Int) : W.call (.clo 11 [] [.optr 0 0 0 0]) [I n] [.arr 0 1 false [scs nl l]] = some (.bool (decide (n < 0) || decide ((l.length : Int) ≤ n)), [.arr 0 1 false [scs nl l]]) := by
  rw [W_call Φ11]
  simp [fi11, c11, evFun, enterFr, intBin, resV, rvVs, rvV, loadV, ldCells]

theorem loop16 (a b : Option Bool) (s t : Nat) (x y : List Int) (hx : x ≠ [] → s = 1) (hy : y ≠ [] → t = 1) (hxy : x.length = y.length) (hl : x.length ≤ 1000000) : ∀ (r : List Int) (k : Nat), x.drop k = r → k ≤ x.length → ∀ H : Heap,
    noH ((W.loop [0, 1, 12, 13] l16_0 [(0, .isl a s (x.map I)), (1, .isl b t (y.map I)), (12, I x.length), (13, I k)] H).map (blockC 0 [])) = some (if r = y.drop k then (.normal, []) else (.ret, [(4, .bool false)])) := by
  intro r
  induction r with
  | nil =>
    intro k h1 h2 H
    have := drop_end h1 h2
    subst this
    rw [om_turn]
    have : y.drop x.length = [] := by rw [hxy]; simp
    simp [evl16_0, b16_0, intBin, this]
  | cons u r ih =>
    intro k h1 h2 H
    obtain ⟨hk, hu, hr⟩ := drop_get h1
    have hk' : k < y.length := by omega
    obtain ⟨v, hv⟩ : ∃ v, y[k] = v := ⟨_, rfl⟩
    have hyd : y.drop k = v :: y.drop (k + 1) := by rw [← hv]; exact List.drop_eq_getElem_cons hk'
    have hs : s = 1 := hx (by intro e; subst e; simp at hk)
    have ht : t = 1 := hy (by intro e; subst e; simp at hk')
    have hw : IntKind.wrap .i64 ((k : Int) + 1) = (k : Int) + 1 := by rw [wrap64] <;> omega
    have hJ := ih (k + 1) hr (by omega)
    simp only [Int.natCast_add, Int.cast_ofNat_Int] at hJ
    rw [om_turn]
    by_cases huv : u = v
    · subst huv
      simp [evl16_0, b16_0, intBin, hk, hk', hu, hv, hs, ht, idxaV, loadV, ldCells, hw, hyd]
      subst hs; subst ht
      rw [hJ]
    · simp [evl16_0, b16_0, intBin, hk, hk', hu, hv, hs, ht, idxaV, loadV, ldCells, hw, hyd, huv]
theorem e16 (a b : Option Bool) (s t : Nat) (x y : List Int) (hx : x ≠ [] → s = 1) (hy : y ≠ [] → t = 1) (hl : x.length ≤ 1000000) : W.pure 16 [.isl a s (x.map I), .isl b t (y.map I)] = some (.bool (decide (x = y))) := by
  rw [W_pure Φ16 rfl]
  by_cases hxy : x.length = y.length
  · have hL := loop16 a b s t x y hx hy hxy hl x 0 rfl (by omega) []
    simp only [Int.natCast_zero, List.drop_zero] at hL
    have hxy' : (x.length : Int) = y.length := by omega
    by_cases he : x = y
    · rw [if_pos he] at hL
      obtain ⟨J, hJ⟩ := of_noH hL
      subst he
      simp [fi16, c16, evFun, enterFr, intBin, resV, rvVs, rvV, lenV, hJ]
    · rw [if_neg he] at hL
      obtain ⟨J, hJ⟩ := of_noH hL
      rw [hxy'] at hJ
      simp [fi16, c16, evFun, enterFr, intBin, resV, rvVs, rvV, lenV, hxy', hJ, he]
  · have he : x ≠ y := fun e => hxy (by rw [e])
    have hxy' : ¬ (x.length : Int) = y.length := by omega
    simp [fi16, c16, evFun, enterFr, intBin, resV, rvVs, rvV, lenV, hxy', he]

theorem frz_osl0 {H : Heap} {n v sz len : Nat} {sh : Bool} {es : List AV} (hl : len = es.length) (hf : es.all (fun e => e.cells.all AV.still) = true) : frz (.arr v sz sh es :: H) (n + 1) (.osl 0 v 0 len) = some (.isl (some false) sz es) := frz_full rfl hl hf
theorem frz_osl1 {b : Blk} {H : Heap} {n v sz len : Nat} {sh : Bool} {es : List AV} (hl : len = es.length) (hf : es.all (fun e => e.cells.all AV.still) = true) : frz (b :: .arr v sz sh es :: H) (n + 1) (.osl 1 v 0 len) = some (.isl (some false) sz es) := frz_full rfl hl hf
@[simp] theorem still_av (l : List Sc) : (l.map Sc.av).all (fun e => e.cells.all AV.still) = true := by
  simp [List.all_eq_true]
@[simp] theorem cell_av (l : List Sc) : (l.map Sc.av).all (fun e => e.cells.all AV.cell) = true := by
  simp [List.all_eq_true]
theorem elems_scs (H : Heap) (nl : Option Bool) (l : List Sc) : elemsOf H 7 (scs nl l) = some (l.map Sc.av) := by simp [elemsOf, scs]
@[simp] theorem set_last {α : Type} (H : List α) (a b : α) : (H ++ [a]).set H.length b = H ++ [b] := by simp

theorem e29 : W.pure 29 [] = some (scs (some false) [⟨-1, -1, 0, 0, 0, -1, false⟩]) := by
  rw [W_pure Φ29 rfl]
  simp [fi29, c29, evFun, enterFr, resV, rvVs, rvV, bldV, splice, ex, exApp, truncH, bslE, scs]
theorem e39 (l : List Sc) (hl : l.length ≤ 1000000) (H : Heap) : W.call (.clo 39 [] []) [scs (some false) l] H = some (.osl H.length l.length 0 l.length, H ++ [.arr l.length 7 false (l.map Sc.av)]) := by
  rw [W_call Φ39]
  have he : eqnV false false (scs (some false) l) = .bool false := rfl
  have hr : l.length ≤ appRoom := by simp [appRoom]; omega
  cases l with
  | nil => simp [fi39, c39, evFun, enterFr, resV, rvVs, rvV, he, ex, exApp, truncH, bslE, elems_scs]
  | cons s r =>
    have hc := cell_av (s :: r)
    simp only [List.map_cons] at hc
    have hr' : r.length + 1 ≤ appRoom := hr
    simp [fi39, c39, evFun, enterFr, resV, rvVs, rvV, he, ex, exApp, truncH, bslE, elems_scs, hr', hc]
theorem e47 (l : List Sc) (why : Int) (k : Nat) (s : Sc) (hk : l[k]? = some s) : W.call (.clo 47 [] [.optr 0 0 0 0]) [.optr 1 l.length k 0] [.arr 0 1 false [I why], .arr l.length 7 false (l.map Sc.av)] =
    some (.tuple [], [.arr 0 1 false [I why], .arr l.length 7 false ((l.set k { s with reason := why }).map Sc.av)]) := by
  rw [W_call Φ47]
  simp [fi47, c47, evFun, enterFr, resV, rvVs, rvV, loadV, ldCells, fldV, nilchkV, ex, exApp, truncH, setElem, hk, splice, List.map_set]

@[simp] theorem clo_ok (f : FuncId) (a b : List AV) : okO (.clo f a b) = some (.clo f a b) := rfl
theorem e46_47 (l : List Sc) (hl : l.length ≤ 1000000) (why : Int) (k : Nat) (s : Sc) (hk : l[k]? = some s) : W.call (.clo 46 [] []) [scs (some false) l, I k, .clo 47 [] [.optr 0 0 0 0]] [.arr 0 1 false [I why]] =
    some (.osl 1 l.length 0 l.length, [.arr 0 1 false [I why], .arr l.length 7 false ((l.set k { s with reason := why }).map Sc.av)]) := by
  rw [W_call Φ46]
  have h39 := e39 l hl [.arr 0 1 false [I why]]
  have h47 := e47 l why k s hk
  simp only [List.length_cons, List.length_nil, List.cons_append, List.nil_append, Nat.zero_add] at h39
  have hlt : k < l.length := (List.getElem?_eq_some_iff.1 hk).1
  simp [fi46, c46, evFun, enterFr, resV, rvVs, rvV, h39, h47, idxaV, hlt]

theorem nonempty_of_check {l : List Sc} (h : check l = 0) : l ≠ [] := by
  intro e; subst e; have := check_len h; simp at this
def nilS : AV := .isl (some true) 0 []
def cancelV (b : Bool) (l : List Sc) (i why : Int) : AV :=
  if locate l i ≠ 0 then .tuple [nilS, .bool false, I (locate l i)]
  else if reasonB why = false then .tuple [nilS, .bool false, I 2]
  else match l[i.toNat]? with
    | some s => if s.reason ≠ 0 ∨ s.closed = true then .tuple [scs (some b) l, .bool false, I 0] else .tuple [scs (some false) (l.set i.toNat { s with reason := why }), .bool true, I 0]
    | none => .bad
theorem e18 (b : Bool) (l : List Sc) (hb : b = true → l = []) (i why : Int) : W.pure 18 [scs (some b) l, I i, I why] = some (cancelV b l i why) := by
  rw [W_pure Φ18 rfl]
  have h44 := e44 (some b) l i
  have h45 := e45 why
  unfold cancelV
  by_cases hloc : locate l i = 0
  · obtain ⟨h1, h2, h3⟩ := locate_ok hloc
    have hb' : b = false := by
      cases b with
      | false => rfl
      | true => exact absurd (hb rfl) (nonempty_of_check h1)
    subst hb'
    have hlen := check_len h1
    obtain ⟨k, rfl⟩ : ∃ k : Nat, i = k := ⟨i.toNat, by omega⟩
    obtain ⟨s, hs⟩ : ∃ s, l[k]? = some s := ⟨_, List.getElem?_eq_getElem (by omega)⟩
    rw [hloc] at h44
    rw [if_neg (by simpa using hloc)]
    cases hw : reasonB why with
    | false =>
      rw [hw] at h45
      simp [fi18, c18, evFun, enterFr, resV, rvVs, rvV, h44, h45, intBin, loadV, ldCells, nilS]
    | true =>
      rw [hw] at h45
      have h46 := e46_47 l (by omega) why k s hs
      have hst := still_av (l.set k { s with reason := why })
      by_cases h0 : s.reason = 0
      · cases hcl : s.closed with
        | true => simp [fi18, c18, evFun, enterFr, resV, rvVs, rvV, h44, h45, intBin, loadV, ldCells, hs, fldV, h0, hcl]
        | false =>
          have hf : frz [.arr 0 1 false [I why], .arr l.length 7 false ((l.set k { s with reason := why }).map Sc.av)] 7 (.osl 1 l.length 0 l.length) = some (scs (some false) (l.set k { s with reason := why })) := frz_osl1 (by simp) hst
          simp only [hcl, List.map_set, Sc.av] at hf h46
          simp [fi18, c18, evFun, enterFr, resV, rvVs, rvV, h44, h45, intBin, loadV, ldCells, hs, fldV, h0, hcl, h46, hf]
      · simp [fi18, c18, evFun, enterFr, resV, rvVs, rvV, h44, h45, intBin, loadV, ldCells, hs, fldV, h0]
  · rw [if_pos hloc]
    simp [fi18, c18, evFun, enterFr, resV, rvVs, rvV, h44, intBin, hloc, nilS]

def openV (b : Bool) (l : List Sc) (p o d u : Int) : AV :=
  if check l ≠ 0 then .tuple [nilS, I 0, I 1]
  else if p < 0 ∨ (l.length : Int) ≤ p ∨ o < 0 ∨ 16 ≤ o ∨ limitsB d u = false then .tuple [nilS, I 0, I 2]
  else match l[p.toNat]? with
    | some s => if s.closed = true then .tuple [nilS, I 0, I 17] else if (l.length : Int) = 32 then .tuple [nilS, I 0, I 4] else .tuple [scs (some false) (l ++ [⟨p, o, 0, 0, d, u, false⟩]), I l.length, I 0]
    | none => .bad
theorem e22 (b : Bool) (l : List Sc) (hb : b = true → l = []) (p o d u : Int) : W.pure 22 [scs (some b) l, I p, I o, I d, I u] = some (openV b l p o d u) := by
  rw [W_pure Φ22 rfl]
  have h13 := e13 (some b) l
  have h49 := e49 d u
  unfold openV
  by_cases h1 : check l = 0
  · have hb' : b = false := by
      cases b with
      | false => rfl
      | true => exact absurd (hb rfl) (nonempty_of_check h1)
    subst hb'
    have hlen := check_len h1
    rw [h1] at h13
    rw [if_neg (by simpa using h1)]
    by_cases hr : p < 0 ∨ (l.length : Int) ≤ p ∨ o < 0 ∨ 16 ≤ o ∨ limitsB d u = false
    · rw [if_pos hr]
      have hcond : (p < 0 ∨ (l.length : Int) ≤ p) ∨ o < 0 ∨ 16 ≤ o ∨ limitsB d u = false := by
        rcases hr with h | h | h
        · exact .inl (.inl h)
        · exact .inl (.inr h)
        · exact .inr h
      simp [fi22, c22, evFun, enterFr, resV, rvVs, rvV, h13, h49, intBin, nilS]
      intro a1 a2 a3 a4 a5
      exfalso
      rcases hr with h | h | h | h | h
      · omega
      · omega
      · omega
      · omega
      · rw [a5] at h; cases h
    · rw [if_neg hr]
      obtain ⟨k, rfl⟩ : ∃ k : Nat, p = k := ⟨p.toNat, by omega⟩
      have hk : k < l.length := by omega
      obtain ⟨s, hs⟩ : ∃ s, l[k] = s := ⟨_, rfl⟩
      have hs' : l[k]? = some s := by rw [List.getElem?_eq_getElem hk, hs]
      have ho1 : ¬ o < 0 := by omega
      have ho2 : ¬ 16 ≤ o := by omega
      have hkk : ¬ l.length ≤ k := by omega
      have hk0 : ¬ (k : Int) < 0 := by omega
      have hk32 : ¬ (32 : Int) ≤ k := by omega
      have hlim : limitsB d u = true := by
        cases h : limitsB d u with
        | true => rfl
        | false => exact absurd (.inr (.inr (.inr (.inr h)))) hr
      cases hcl : s.closed with
      | true => simp [fi22, c22, evFun, enterFr, resV, rvVs, rvV, h13, h49, intBin, nilS, hs, hk, ho1, ho2, hkk, hk0, hk32, hlim, fldV, loadV, ldCells, hcl]
      | false =>
        by_cases h32 : (l.length : Int) = 32
        · simp [fi22, c22, evFun, enterFr, resV, rvVs, rvV, h13, h49, intBin, nilS, hs, hk, ho1, ho2, hkk, hk0, hk32, hlim, fldV, loadV, ldCells, hcl, h32]
        · have h39 := e39 l (by omega) []
          simp only [List.length_nil, List.nil_append] at h39
          have hroom : l.length + 1 ≤ appRoom := by simp [appRoom]; omega
          have hf : frz [.arr (l.length + 1) 7 false ((l ++ [(⟨k, o, 0, 0, d, u, false⟩ : Sc)]).map Sc.av)] 7 (.osl 0 (l.length + 1) 0 (l.length + 1)) = some (scs (some false) (l ++ [(⟨k, o, 0, 0, d, u, false⟩ : Sc)])) := frz_osl0 (by simp) (still_av _)
          simp only [List.map_append, List.map_cons, List.map_nil, Sc.av] at hf
          simp [fi22, c22, evFun, enterFr, resV, rvVs, rvV, h13, h49, intBin, nilS, hs, hk, ho1, ho2, hkk, hk0, hk32, hlim, fldV, loadV, ldCells, hcl, h32, h39, bldV, splice, ex, exApp, truncH, bslE, elemsOf, hroom, hf]
  · rw [if_pos h1]
    simp [fi22, c22, evFun, enterFr, resV, rvVs, rvV, h13, intBin, h1, nilS]
end Go.Proofs.Ytpooicjhhogknaa
