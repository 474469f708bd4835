/-
  Lists of numbers: what a reading says, Contains (conditions: none).
-/
import Derived.Test.YtpooicjhhogknaaL6
import Derived.Test.YtpooicjhhogknaaL3
namespace Go.Proofs.Ytpooicjhhogknaa
open Go Go.RowKit
set_option linter.unusedVariables false
set_option linter.unusedSimpArgs false
set_option maxRecDepth 10000

theorem ints_of {a : AV} (h : ShOk (.sl false [.int .i64]) a) : ∃ b m, a = .isl (some b) 1 (m.map I) ∧ (b = true → m = []) ∧ ∀ n ∈ m, (Lit.int .i64 n).wf = true := by
  cases h with
  | nil g l => exact ⟨true, [], rfl, fun _ => rfl, by simp⟩
  | sl g l es hl hr hv =>
    obtain ⟨m, h1, h2⟩ := map_of (f := I) (p := fun n => (Lit.int .i64 n).wf = true) es (fun e he => by
      obtain ⟨i, hi⟩ := List.getElem?_of_mem he
      have hc := (hr i e hi).2 rfl
      exact sh_int (hv i e 0 e (.int .i64) hi (by rw [hc]; rfl) rfl))
    exact ⟨false, m, by simp [h1], (fun h => by cases h), h2⟩
def idxI (v : Int) : List Int → Nat → Int
  | [], _ => -1
  | s :: r, k => if v = s then k else idxI v r (k + 1)
theorem idxI_mem (v : Int) : ∀ (r : List Int) (k : Nat), (idxI v r k = -1 ∧ v ∉ r) ∨ (0 ≤ idxI v r k ∧ v ∈ r) := by
  intro r
  induction r with
  | nil => intro k; exact .inl ⟨rfl, by simp⟩
  | cons s r ih =>
    intro k
    unfold idxI
    by_cases h : v = s
    · exact .inr ⟨by simp [h], by simp [h]⟩
    · simpa [h] using ih (k + 1)
theorem loop62 (nl : Option Bool) (l : List Int) (v : Int) (hl : l.length ≤ 1000000) : ∀ (r : List Int) (k : Nat), l.drop k = r → k ≤ l.length → ∀ H : Heap,
    noH ((W.loop [0, 1, 7, 8] l62_0 [(0, .isl nl 1 (l.map I)), (1, I v), (7, I l.length), (8, I k)] H).map (blockC 0 [])) = some (if idxI v r k = -1 then .normal else .ret, if idxI v r k = -1 then [] else [(4, I (idxI v r k))]) := by
  intro r
  induction r with
  | nil =>
    intro k h1 h2 H
    have := drop_end h1 h2
    subst this
    rw [om_turn]
    simp [evl62_0, b62_0, intBin, idxI]
  | cons s r ih =>
    intro k h1 h2 H
    obtain ⟨hlt, hs, hr⟩ := drop_get h1
    have hJ := ih (k + 1) hr (by omega)
    simp only [Int.natCast_add, Int.cast_ofNat_Int] at hJ
    have hw : IntKind.wrap .i64 ((k : Int) + 1) = (k : Int) + 1 := by rw [wrap64] <;> omega
    have hk1 : ¬ (k : Int) = -1 := by omega
    rw [om_turn]
    by_cases hp : v = s
    · simp [evl62_0, b62_0, intBin, idxI, hlt, hs, idxa_isl, loadV, ldCells, hp, hk1]
    · simp [evl62_0, b62_0, intBin, idxI, hlt, hs, idxa_isl, loadV, ldCells, hp, hw, hJ]
theorem e62 (nl : Option Bool) (l : List Int) (v : Int) (hl : l.length ≤ 1000000) : W.pure 62 [.isl nl 1 (l.map I), I v] = some (I (idxI v l 0)) := by
  rw [W_pure Φ62 rfl]
  have hL := loop62 nl l v hl l 0 rfl (by omega) []
  simp only [Int.natCast_zero] at hL
  by_cases he : idxI v l 0 = -1
  · simp only [if_pos he] at hL
    obtain ⟨J', hJ⟩ := of_noH hL
    simp [fi62, c62, evFun, enterFr, intBin, resV, rvVs, rvV, len_isl, hJ, he]
  · simp only [if_neg he] at hL
    obtain ⟨J', hJ⟩ := of_noH hL
    simp [fi62, c62, evFun, enterFr, intBin, resV, rvVs, rvV, len_isl, hJ]
theorem e57 (nl : Option Bool) (l : List Int) (v : Int) (hl : l.length ≤ 1000000) : W.pure 57 [.isl nl 1 (l.map I), I v] = some (.bool (decide (v ∈ l))) := by
  rw [W_pure Φ57 rfl]
  have h62 := e62 nl l v hl
  have hd : decide (0 ≤ idxI v l 0) = decide (v ∈ l) := by
    rcases idxI_mem v l 0 with ⟨h1, h2⟩ | ⟨h1, h2⟩
    · rw [h1]; simp [h2]
    · simp [h1, h2]
  rw [← hd]
  simp [fi57, c57, evFun, enterFr, intBin, resV, rvVs, rvV, h62]
end Go.Proofs.Ytpooicjhhogknaa
