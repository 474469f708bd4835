/-
  Plain functions for the program's, part 1 (conditions: none).
-/
import Derived.Test.YtpooicjhhogknaaCode27
import Derived.Test.YtpooicjhhogknaaEv2
namespace Go.Proofs.Ytpooicjhhogknaa
open Go Go.RowKit
set_option linter.unusedVariables false
set_option linter.unusedSimpArgs false
set_option maxRecDepth 10000

/-- Storing, as it is evaluated. -/
@[simp] theorem exSt (H : Heap) (n id ver idx off : Nat) (x : AV) : exStore H n (.optr id ver idx off) x = (match H[id]? with
      | some (.arr v sz false es) => if ver = v ∧ x.cells.length = n ∧ x.cells.all AV.cell then (setElem es idx off x).map fun es' => (.und, H.set id (.arr v sz false es')) else none
      | _ => none) := rfl
noncomputable abbrev W : Rec := om Φ
abbrev I (n : Int) : AV := .int .i64 n

theorem W_pure {f : FuncId} {fi : FI} (h : Φ f = some fi) {args : List AV} (ha : args.all AV.flat = true) : W.pure f args = (evFun W fi args []).bind fun p => frz p.2 8 p.1 := by
  rw [om_pure]; unfold pureV; rw [if_pos ha, h]
theorem W_call {f : FuncId} {fi : FI} (h : Φ f = some fi) (fs args cs : List AV) (H : Heap) : W.call (.clo f fs cs) args H = evFun W fi (fs ++ args ++ cs) H := by
  rw [om_call]; unfold callV; simp only [h]
@[simp] theorem frz_bool (H : Heap) (n : Nat) (b : Bool) : frz H (n + 1) (.bool b) = some (.bool b) := rfl
@[simp] theorem frz_int (H : Heap) (n : Nat) (k : IntKind) (b : Int) : frz H (n + 1) (.int k b) = some (.int k b) := rfl

@[simp] theorem frz_isl (H : Heap) (n : Nat) (a : Option Bool) (b : Nat) (c : List AV) : frz H (n + 1) (.isl a b c) = some (.isl a b c) := rfl
@[simp] theorem frz_str (H : Heap) (n : Nat) (b : List UInt8) : frz H (n + 1) (.str b) = some (.str b) := rfl
@[simp] theorem frz_tuple (H : Heap) (n : Nat) (c : List AV) : frz H (n + 1) (.tuple c) = (frzs (frz H n) c).map .tuple := rfl
@[simp] theorem frzs_nil (f : AV → Option AV) : frzs f [] = some [] := rfl
@[simp] theorem frzs_cons (f : AV → Option AV) (x : AV) (l : List AV) : frzs f (x :: l) = consO (f x) (frzs f l) := by
  simp only [frzs]
  cases f x <;> cases frzs f l <;> rfl
theorem frz_full {H : Heap} {n id v sz len : Nat} {sh : Bool} {es : List AV} (hb : H[id]? = some (.arr v sz sh es)) (hl : len = es.length) (hf : es.all (fun e => e.cells.all AV.still) = true) : frz H (n + 1) (.osl id v 0 len) = some (.isl (some false) sz es) := by
  subst hl
  have e : (es.drop 0).take es.length = es := by simp
  simp only [frz, hb]
  rw [if_pos ⟨trivial, by omega⟩, e, if_pos hf]

def reasonB (n : Int) : Bool := (decide (1 ≤ n) && decide (n ≤ 9)) || (decide (100 ≤ n) && decide (n ≤ 999))
theorem e45 (n : Int) : W.pure 45 [I n] = some (.bool (reasonB n)) := by
  rw [W_pure Φ45 rfl]
  simp [fi45, c45, evFun, enterFr, intBin, resV, rvVs, rvV, reasonB]
def limitsB (d b : Int) : Bool := decide (0 ≤ d) && decide (d ≤ 1099511627776) && decide (-1 ≤ b) && decide (b ≤ 1099511627776)
theorem e49 (d b : Int) : W.pure 49 [I d, I b] = some (.bool (limitsB d b)) := by
  rw [W_pure Φ49 rfl]
  simp [fi49, c49, evFun, enterFr, intBin, resV, rvVs, rvV, limitsB]

structure Sc where
  parent : Int
  owner : Int
  children : Int
  reason : Int
  deadline : Int
  budget : Int
  closed : Bool
  deriving DecidableEq, Inhabited
@[simp] def Sc.av (s : Sc) : AV := .agg [I s.parent, I s.owner, I s.children, I s.reason, I s.deadline, I s.budget, .bool s.closed]
def scs (nl : Option Bool) (l : List Sc) : AV := .isl nl 7 (l.map Sc.av)

@[simp] theorem cells_scs (nl : Option Bool) (l : List Sc) : (scs nl l).cells = [scs nl l] := rfl
@[simp] theorem okO_scs (nl : Option Bool) (l : List Sc) : okO (scs nl l) = some (scs nl l) := rfl
@[simp] theorem imm_scs (nl : Option Bool) (l : List Sc) : (scs nl l).imm = true := rfl
@[simp] theorem cell_scs (nl : Option Bool) (l : List Sc) : (scs nl l).cell = true := rfl
@[simp] theorem aok_scs (nl : Option Bool) (l : List Sc) : (scs nl l).ok = true := rfl
@[simp] theorem flat_scs (nl : Option Bool) (l : List Sc) : (scs nl l).flat = true := rfl
@[simp] theorem still_scs (nl : Option Bool) (l : List Sc) : (scs nl l).still = true := rfl
@[simp] theorem len_scs (nl : Option Bool) (l : List Sc) : lenV false (scs nl l) = I l.length := by simp [lenV, scs]
@[simp] theorem idxa_scs (H : Heap) (nl : Option Bool) (l : List Sc) (k : IntKind) (n : Int) : idxaV H 7 (scs nl l) (.int k n) = if 0 ≤ n then (match l[n.toNat]? with | some s => .eptr s.av.cells | none => .bad) else .bad := by
  simp only [idxaV, scs, if_true, List.getElem?_map]
  cases l[n.toNat]? <;> rfl
@[simp] theorem frz_scs (H : Heap) (n : Nat) (nl : Option Bool) (l : List Sc) : frz H (n + 1) (scs nl l) = some (scs nl l) := rfl

def numbersB (i : Int) (s : Sc) : Bool :=
  (!decide (i = 0) || decide (s.parent = -1) && decide (s.owner = -1)) &&
      ((!decide (0 < i) ||
          !decide (s.parent < 0) && !decide (i ≤ s.parent) && !decide (s.owner < 0) && !decide (16 ≤ s.owner)) &&
        (!decide (s.children < 0) && !decide (16 < s.children) && (decide (s.reason = 0) || reasonB s.reason) &&
          limitsB s.deadline s.budget))
theorem e41 (i : Int) (s : Sc) : W.pure 41 [I i, s.av] = some (.bool (numbersB i s)) := by
  rw [W_pure Φ41 rfl]
  simp [fi41, c41, evFun, enterFr, intBin, resV, rvVs, rvV, AV.cell, fldV, loadV, ldCells, e45, e49, numbersB]
theorem e41' (i : Int) (s : Sc) : W.pure 41 [I i, .agg [I s.parent, I s.owner, I s.children, I s.reason, I s.deadline, I s.budget, .bool s.closed]] = some (.bool (numbersB i s)) := e41 i s

/-- Is the parent of s closed? -/
def pclosed (l : List Sc) (s : Sc) : Bool := match l[s.parent.toNat]? with | some p => p.closed | none => false
def checkFrom (l : List Sc) : List Sc → Nat → Int
  | [], _ => 0
  | s :: r, k => if numbersB k s = false then 2 else if s.closed = true ∧ 0 < s.children ∨ s.closed = false ∧ 0 < k ∧ pclosed l s = true then 17 else checkFrom l r (k + 1)
def check (l : List Sc) : Int := if (l.length : Int) < 1 ∨ 32 < (l.length : Int) then 4 else checkFrom l l 0

theorem loop13 (nl : Option Bool) (l : List Sc) (hl : l.length ≤ 32) : ∀ (r : List Sc) (k : Nat), l.drop k = r → k ≤ l.length → ∀ H : Heap,
    noH ((W.loop [0, 13, 14, 15] l13_0 [(0, .isl nl 7 (l.map Sc.av)), (13, .isl nl 7 (l.map Sc.av)), (14, I l.length), (15, I k)] H).map (blockC 0 [])) = some (if checkFrom l r k = 0 then (.normal, []) else (.ret, [(2, I (checkFrom l r k))])) := by
  intro r
  induction r with
  | nil =>
    intro k h1 h2 H
    have := drop_end h1 h2
    subst this
    rw [om_turn]
    simp [evl13_0, b13_0, intBin, checkFrom]
  | cons s r ih =>
    intro k h1 h2 H
    obtain ⟨hlt, hs, hr⟩ := drop_get h1
    have hJ := ih (k + 1) hr (by omega)
    simp only [Int.natCast_add, Int.cast_ofNat_Int] at hJ
    have hw : IntKind.wrap .i64 ((k : Int) + 1) = (k : Int) + 1 := by rw [wrap64] <;> omega
    rw [om_turn]
    cases hn : numbersB k s with
    | false => simp [evl13_0, b13_0, intBin, checkFrom, hlt, hs, idxaV, loadV, ldCells, AV.cell, ex, setElem, splice, e41', hn]
    | true =>
      by_cases h0 : 0 < k
      · have hp : ∃ p, l[s.parent.toNat]? = some p ∧ 0 ≤ s.parent := by
          simp [numbersB] at hn
          have : s.parent.toNat < l.length := by omega
          exact ⟨_, List.getElem?_eq_getElem this, by omega⟩
        obtain ⟨p, hp, hp0⟩ := hp
        simp [evl13_0, b13_0, intBin, checkFrom, hlt, hs, idxaV, loadV, ldCells, AV.cell, ex, setElem, splice, e41', hn, fldV, hw, h0, hp, hp0, pclosed, hJ]
        split <;> simp
      · simp [evl13_0, b13_0, intBin, checkFrom, hlt, hs, idxaV, loadV, ldCells, AV.cell, ex, setElem, splice, e41', hn, fldV, hw, h0, pclosed, hJ]
        split <;> simp
theorem e13 (nl : Option Bool) (l : List Sc) : W.pure 13 [scs nl l] = some (I (check l)) := by
  rw [W_pure Φ13 rfl]
  unfold check scs
  by_cases h : (l.length : Int) < 1 ∨ 32 < (l.length : Int)
  · rw [if_pos h]
    rcases h with h | h <;> simp [fi13, c13, evFun, enterFr, intBin, resV, rvVs, rvV, lenV, h]
  · rw [if_neg h]
    have hL := loop13 nl l (by omega) l 0 rfl (by omega) []
    simp only [Int.natCast_zero] at hL
    have h1 : ¬ (l.length : Int) < 1 := by omega
    have h2 : ¬ 32 < (l.length : Int) := by omega
    by_cases he : checkFrom l l 0 = 0
    · rw [if_pos he] at hL
      obtain ⟨J, hJ⟩ := of_noH hL
      simp [fi13, c13, evFun, enterFr, intBin, resV, rvVs, rvV, lenV, h1, h2, hJ, he]
    · rw [if_neg he] at hL
      obtain ⟨J, hJ⟩ := of_noH hL
      simp [fi13, c13, evFun, enterFr, intBin, resV, rvVs, rvV, lenV, h1, h2, hJ]
def locate (l : List Sc) (i : Int) : Int := if check l ≠ 0 then 1 else if i < 0 ∨ (l.length : Int) ≤ i then 2 else 0
theorem e44 (nl : Option Bool) (l : List Sc) (i : Int) : W.pure 44 [scs nl l, I i] = some (I (locate l i)) := by
  rw [W_pure Φ44 rfl]
  have h13 := e13 nl l
  unfold scs at h13 ⊢
  simp [fi44, c44, evFun, enterFr, intBin, resV, rvVs, rvV, lenV, locate, h13]
end Go.Proofs.Ytpooicjhhogknaa
