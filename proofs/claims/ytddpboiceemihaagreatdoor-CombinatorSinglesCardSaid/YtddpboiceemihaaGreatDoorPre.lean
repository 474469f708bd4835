/-
  The program's functions, evaluated: beginnings (conditions: none).
-/
import Derived.Test.YtddpboiceemihaaGreatDoorCode15
import Derived.Test.YtddpboiceemihaaGreatDoorTypes
namespace Go.Proofs.YtddpboiceemihaaGreatDoor
open Go Go.RowKit
set_option linter.unusedVariables false
set_option linter.unusedSimpArgs false

noncomputable abbrev W : Rec := om Φ
theorem W_pure {f : FuncId} {fi : FI} (h : Φ f = some fi) {args : List AV} (ha : args.all AV.flat = true) : W.pure f args = (evFun W fi args []).bind fun p => frz p.2 8 p.1 := by
  rw [om_pure]; unfold pureV; rw [if_pos ha, h]
theorem W_call {f : FuncId} {fi : FI} (h : Φ f = some fi) (fs args cs : List AV) (H : Heap) : W.call (.clo f fs cs) args H = evFun W fi (fs ++ args ++ cs) H := by
  rw [om_call]; unfold callV; simp only [h]
theorem W_yld (id : Nat) (args : List AV) (H : Heap) : W.call (.yld id) args H = evRound W id args H := by
  rw [om_call]; rfl
@[simp] theorem frz_bool (H : Heap) (n : Nat) (b : Bool) : frz H (n + 1) (.bool b) = some (.bool b) := rfl
@[simp] theorem frz_int (H : Heap) (n : Nat) (k : IntKind) (b : Int) : frz H (n + 1) (.int k b) = some (.int k b) := rfl
@[simp] theorem frz_isl (H : Heap) (n : Nat) (a : Option Bool) (b : Nat) (c : List AV) : frz H (n + 1) (.isl a b c) = some (.isl a b c) := rfl
@[simp] theorem frz_str (H : Heap) (n : Nat) (b : List UInt8) : frz H (n + 1) (.str b) = some (.str b) := rfl
@[simp] theorem frz_tuple (H : Heap) (n : Nat) (c : List AV) : frz H (n + 1) (.tuple c) = (frzs (frz H n) c).map .tuple := rfl
@[simp] theorem frz_agg (H : Heap) (n : Nat) (c : List AV) : frz H (n + 1) (.agg c) = (frzs (frz H n) c).map .agg := rfl
@[simp] theorem frzs_nil (f : AV → Option AV) : frzs f [] = some [] := rfl
@[simp] theorem frzs_cons (f : AV → Option AV) (x : AV) (l : List AV) : frzs f (x :: l) = consO (f x) (frzs f l) := by
  simp only [frzs]
  cases f x <;> cases frzs f l <;> rfl
theorem frz_full {H : Heap} {n id v sz len : Nat} {sh : Bool} {es : List AV} (hb : H[id]? = some (.arr v sz sh es)) (hl : len = es.length) (hf : es.all (fun e => e.cells.all AV.still) = true) : frz H (n + 1) (.osl id v 0 len) = some (.isl (some false) sz es) := by
  subst hl
  have e : (es.drop 0).take es.length = es := by simp
  simp only [frz, hb]
  rw [if_pos ⟨trivial, by omega⟩, e, if_pos hf]
/-- A list of structures of plain cells. -/
theorem all_still {α : Type} {f : α → AV} (h : ∀ x, (f x).cells.all AV.still = true) (l : List α) : (l.map f).all (fun e => e.cells.all AV.still) = true := by
  rw [List.all_eq_true]; intro x hx; obtain ⟨y, _, rfl⟩ := List.mem_map.1 hx; exact h y
theorem all_cell {α : Type} {f : α → AV} (h : ∀ x, (f x).cells.all AV.cell = true) (l : List α) : (l.map f).all (fun e => e.cells.all AV.cell) = true := by
  rw [List.all_eq_true]; intro x hx; obtain ⟨y, _, rfl⟩ := List.mem_map.1 hx; exact h y
/-- Does a loop over a list leave? -/
theorem foldE_unit {α ρ : Type} (step : Nat → α → Unit ⊕ ρ) : ∀ (r : List α) (k : Nat), (foldE (fun k a _ => step k a) k r () = .inl () ∧ ∀ j a, r[j]? = some a → step (k + j) a = .inl ()) ∨ ∃ j a y, r[j]? = some a ∧ step (k + j) a = .inr y ∧ foldE (fun k a _ => step k a) k r () = .inr y ∧ ∀ i b, i < j → r[i]? = some b → step (k + i) b = .inl () := by
  intro r
  induction r with
  | nil => intro k; left; exact ⟨rfl, by simp⟩
  | cons a r ih =>
    intro k
    cases hs : step k a with
    | inr y => right; exact ⟨0, a, y, rfl, by simpa using hs, by simp [foldE, hs], by omega⟩
    | inl u =>
      cases u
      rcases ih (k + 1) with ⟨h1, h2⟩ | ⟨j, b, y, h1, h2, h3, h4⟩
      · left
        refine ⟨by simp [foldE, hs, h1], fun j b hj => ?_⟩
        cases j with
        | zero => simp at hj; subst hj; simpa using hs
        | succ j => have := h2 j b (by simpa using hj); rw [show k + (j + 1) = k + 1 + j by omega]; exact this
      · right
        refine ⟨j + 1, b, y, by simpa using h1, by rw [show k + (j + 1) = k + 1 + j by omega]; exact h2, by simp [foldE, hs, h3], fun i c hi hc => ?_⟩
        cases i with
        | zero => simp at hc; subst hc; simpa using hs
        | succ i => have := h4 i c (by omega) (by simpa using hc); rw [show k + (i + 1) = k + 1 + i by omega]; exact this
end Go.Proofs.YtddpboiceemihaaGreatDoor
