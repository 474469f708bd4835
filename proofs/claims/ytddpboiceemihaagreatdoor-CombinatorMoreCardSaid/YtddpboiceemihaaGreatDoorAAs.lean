/-
  Expressions: sizes, depths; the reference's functions of them (conditions: none). Sizes and depths of expressions in the reference (conditions: none). slices.ContainsFunc at the types of this program, printed by a program of mine (conditions: none). Check of expressions in the reference (conditions: none). Check of expressions in the reference, whole (conditions: none). expr.measure and expr.Size (conditions: none). expr.Size; visiting the parts of an expression (conditions: none). The operators; check of a part (conditions: none). expr.Check (conditions: none). expr.Check, whole (conditions: none).
-/
import Derived.Test.YtddpboiceemihaaGreatDoorPres
import Derived.Test.YtddpboiceemihaaGreatDoorPKs
section
namespace Go.Proofs.YtddpboiceemihaaGreatDoor
open Go Go.RowKit
set_option linter.unusedVariables false
set_option linter.unusedSimpArgs false
set_option maxRecDepth 10000
mutual
def Ex.size : Ex → Nat | .mk _ _ _ _ _ _ l => 1 + Ex.sizes l
def Ex.sizes : List Ex → Nat | [] => 0 | x :: r => x.size + Ex.sizes r
end
mutual
def Ex.depth : Ex → Nat | .mk _ _ _ _ _ _ l => 1 + Ex.depths l
def Ex.depths : List Ex → Nat | [] => 0 | x :: r => max x.depth (Ex.depths r)
end
theorem Ex.size_eq (e : Ex) : e.size = 1 + Ex.sizes e.args.l := by cases e; simp only [Ex.size, Ex.args]
theorem Ex.depth_eq (e : Ex) : e.depth = 1 + Ex.depths e.args.l := by cases e; simp only [Ex.depth, Ex.args]
theorem Ex.size_pos (e : Ex) : 1 ≤ e.size := by rw [Ex.size_eq]; omega
theorem Ex.depth_size : (∀ e : Ex, e.depth ≤ e.size) := by
 refine Ex.ind (fun e ih => ?_)
 rw [Ex.depth_eq, Ex.size_eq]
 have : ∀ l : List Ex, (∀ x ∈ l, x.depth ≤ x.size) → Ex.depths l ≤ Ex.sizes l := by
  intro l
  induction l with
  | nil => intro _; simp [Ex.depths, Ex.sizes]
  | cons a r ihr =>
   intro h
   have h1 := h a (by simp)
   have h2 := ihr (fun x hx => h x (by simp [hx]))
   simp only [Ex.depths, Ex.sizes]
   omega
 have := this e.args.l ih
 omega
theorem Ex.len_sizes (l : List Ex) : l.length ≤ Ex.sizes l := by
 induction l with
 | nil => simp
 | cons a r ih => have := a.size_pos; simp only [List.length_cons, Ex.sizes]; omega
theorem Ex.mem_size {x : Ex} {l : List Ex} (h : x ∈ l) : x.size ≤ Ex.sizes l := by
 induction l with
 | nil => cases h
 | cons a r ih =>
  simp only [Ex.sizes]
  cases h with
  | head => omega
  | tail _ h => have := ih h; omega
def exZero (e : Ex) : Bool := decide (e.kind = 0) && decide (e.op = 0) && decide (e.name = []) && decide (e.value = 0) && decide (e.args.l = [])
theorem e160 (e : Ex) : W.pure 160 [e.av] = some (.bool (exZero e)) := by
 rw [W_pure Φ160 (by simp)]
 by_cases h1 : e.kind = 0 <;> by_cases h2 : e.op = 0 <;> by_cases h3 : e.name = [] <;> by_cases h4 : e.value = 0 <;> by_cases h5 : e.args.l = [] <;> simp [fi160, c160, evFun, enterFr, intBin, resV, rvVs, rvV, exZero, strBin, h1, h2, h3, h4, h5]
end Go.Proofs.YtddpboiceemihaaGreatDoor
end
section
namespace Go.Proofs.YtddpboiceemihaaGreatDoor
open Go Go.RowKit
set_option linter.unusedVariables false
set_option linter.unusedSimpArgs false
set_option maxRecDepth 10000
theorem drop_cons {α : Type} {l r : List α} {a : α} {k : Nat} (h : l.drop k = a :: r) : k < l.length ∧ l[k]? = some a ∧ l.drop (k + 1) = r := by
 obtain ⟨h1, h2, h3⟩ := drop_get h
 exact ⟨h1, by rw [gEg h1, h2], h3⟩
theorem mem_of_drop {α : Type} {l r : List α} {a : α} {k : Nat} (h : l.drop k = a :: r) : a ∈ l := by
 obtain ⟨h1, h2, _⟩ := drop_get h
 exact h2 ▸ List.getElem_mem h1
theorem drop_nil_len {α : Type} {l : List α} {k : Nat} (h : l.drop k = []) (hk : k ≤ l.length) : l.length = k := by
 have := congrArg List.length h
 simp at this; omega
theorem loop217 (e : Ex) (ih : ∀ x ∈ e.args.l, ∀ n : Nat, n ≤ 100 → W.pure 217 [x.av, I n] = some (I (min (n + x.size) 101 : Nat))) :
  ∀ (r : List Ex) (k n : Nat), e.args.l.drop k = r → k ≤ e.args.l.length → k ≤ n → n ≤ 101 →
  okC (W.loop [1, 2, 5] l217_0 [(1, I n), (2, .optr 0 0 0 0), (5, I k)] [.arr 0 5 false [e.av]]) (fun x F' H' => (x = .exit 0 ∧ F'.get 1 = I (min (n + Ex.sizes r) 101 : Nat)) ∨ (x = .ret ∧ F'.get 4 = I (min (n + Ex.sizes r) 101 : Nat))) := by
 intro r
 induction r with
 | nil =>
  intro k n h1 h2 hkn hn
  have hk := drop_nil_len h1 h2
  rw [om_turn]
  simp [evl217_0, b217_0, intBin, hk, Ex.sizes]
  omega
 | cons a r ihr =>
  intro k n h1 h2 hkn hn
  obtain ⟨hlt, ha, hr⟩ := drop_cons h1
  have hlt' : (k : Int) < e.args.l.length := by omega
  have hak : e.args.l[k] = a := (gEs.1 ha).2
  have hpos := a.size_pos
  rw [om_turn]
  by_cases h100 : 100 < n
  ·have h100' : (100 : Int) < n := by omega
   have hm : n = min (n + Ex.sizes (a :: r)) 101 := by simp only [Ex.sizes]; omega
   simp [evl217_0, b217_0, intBin, hlt, h100, h100']
   omega
  ·have h100' : ¬ (100 : Int) < n := by omega
   have e1 := ih a (mem_of_drop h1) n (by omega)
   have hw := wrap_succ (k := k) (by omega)
   have hJ := ihr (k + 1) (min (n + a.size) 101) hr (by omega) (by omega) (by omega)
   have hmm : min (min (n + a.size) 101 + Ex.sizes r) 101 = min (n + Ex.sizes (a :: r)) 101 := by simp only [Ex.sizes]; omega
   rw [hmm] at hJ
   simp only [Int.natCast_add, Int.cast_ofNat_Int] at hJ e1
   simp [evl217_0, b217_0, intBin, hlt, hak, h100, h100', e1, hw]
   simpa using hJ
theorem e217 : ∀ (e : Ex) (n : Nat), n ≤ 100 → W.pure 217 [e.av, I n] = some (I (min (n + e.size) 101 : Nat)) := by
 refine Ex.ind (fun e ih => ?_)
 intro n hn
 rw [W_pure Φ217 (by simp)]
 have hL := loop217 e ih e.args.l 0 (n + 1) rfl (by omega) (by omega) (by omega)
 have hw := wrap_succ (k := n) (by omega)
 have hs : n + 1 + Ex.sizes e.args.l = n + e.size := by rw [Ex.size_eq]; omega
 rw [hs] at hL
 simp only [Int.natCast_add, Int.cast_ofNat_Int] at hL
 obtain ⟨x, F', H', e1, hx⟩ := okC_iff.1 hL
 rcases hx with ⟨rfl, p⟩ | ⟨rfl, p⟩ <;> simp [fi217, c217, evFun, enterFr, intBin, resV, rvVs, rvV, hw, e1, p]
theorem e191 (e : Ex) : W.pure 191 [e.av] = some (I (min e.size 101 : Nat)) := by
 rw [W_pure Φ191 (by simp)]
 have e1 := e217 e 0 (by omega)
 simp only [Int.natCast_zero, Nat.zero_add] at e1
 by_cases h : 100 < (min e.size 101 : Nat)
 ·have : min e.size 101 = 101 := by omega
  rw [this] at e1 ⊢
  simp [fi191, c191, evFun, enterFr, intBin, resV, rvVs, rvV, e1]
 ·have h' : ¬ (100 : Int) < (min e.size 101 : Nat) := by omega
  generalize min e.size 101 = m at *
  simp [fi191, c191, evFun, enterFr, intBin, resV, rvVs, rvV, e1, h, h']
theorem loop192 (e : Ex) (hs : e.size ≤ 1000000000) (ih : ∀ x ∈ e.args.l, W.pure 192 [x.av] = some (I (x.depth : Nat))) :
  ∀ (r : List Ex) (k d : Nat), e.args.l.drop k = r → k ≤ e.args.l.length →
  okC (W.loop [1, 3, 4] l192_0 [(1, .optr 0 0 0 0), (3, I d), (4, I k)] [.arr 0 5 false [e.av]]) (fun x F' H' => x = .exit 0 ∧ F'.get 3 = I (max d (Ex.depths r) : Nat)) := by
 have hll := Ex.len_sizes e.args.l
 rw [Ex.size_eq] at hs
 intro r
 induction r with
 | nil =>
  intro k d h1 h2
  have hk := drop_nil_len h1 h2
  rw [om_turn]
  simp [evl192_0, b192_0, intBin, hk, Ex.depths]
 | cons a r ihr =>
  intro k d h1 h2
  obtain ⟨hlt, ha, hr⟩ := drop_cons h1
  have hlt' : (k : Int) < e.args.l.length := by omega
  have hak : e.args.l[k] = a := (gEs.1 ha).2
  have e1 := ih a (mem_of_drop h1)
  have hw := wrap_succ (k := k) (by omega)
  have hmm : max (max d a.depth) (Ex.depths r) = max d (Ex.depths (a :: r)) := by simp only [Ex.depths]; omega
  rw [om_turn]
  by_cases hd : d < a.depth
  ·have hd' : (d : Int) < a.depth := by omega
   have hJ := ihr (k + 1) a.depth hr (by omega)
   have h3 : max a.depth (Ex.depths r) = max d (Ex.depths (a :: r)) := by rw [← hmm]; omega
   rw [h3] at hJ
   simp only [Int.natCast_add, Int.cast_ofNat_Int] at hJ
   simp [evl192_0, b192_0, intBin, hlt, hak, e1, hd, hd', hw]
   simpa using hJ
  ·have hd' : ¬ (d : Int) < a.depth := by omega
   have hJ := ihr (k + 1) d hr (by omega)
   have h3 : max d (Ex.depths r) = max d (Ex.depths (a :: r)) := by rw [← hmm]; omega
   rw [h3] at hJ
   simp only [Int.natCast_add, Int.cast_ofNat_Int] at hJ
   simp [evl192_0, b192_0, intBin, hlt, hak, e1, hd, hd', hw]
   simpa using hJ
theorem e192 : ∀ (e : Ex), e.size ≤ 1000000000 → W.pure 192 [e.av] = some (I (e.depth : Nat)) := by
 refine Ex.ind (fun e ih => ?_)
 intro hs
 rw [W_pure Φ192 (by simp)]
 have hd := Ex.depth_size e
 have hL := loop192 e hs (fun x hx => ih x hx (by have := Ex.mem_size hx; rw [Ex.size_eq] at hs; omega)) e.args.l 0 0 rfl (by omega)
 simp only [Int.natCast_zero] at hL
 obtain ⟨x, F', H', e1, rfl, p⟩ := okC_iff.1 hL
 have he : (1 : Nat) + Ex.depths e.args.l = e.depth := by rw [Ex.depth_eq]
 have hz : max 0 (Ex.depths e.args.l) = Ex.depths e.args.l := by omega
 rw [hz] at p
 have hw := wrap_succ (k := Ex.depths e.args.l) (by omega)
 simp [fi192, c192, evFun, enterFr, intBin, resV, rvVs, rvV, e1, p, hw]
 omega
end Go.Proofs.YtddpboiceemihaaGreatDoor
end
section
namespace Go.Proofs.YtddpboiceemihaaGreatDoor
open Go Go.RowKit
set_option linter.unusedVariables false
set_option linter.unusedSimpArgs false
set_option maxRecDepth 10000
def fidx {α : Type} (p : α → Bool) : List α → Option Nat
 | [] => none
 | a :: r => if p a then some 0 else (fidx p r).map (· + 1)
theorem fidx_any {α : Type} (p : α → Bool) (l : List α) : (fidx p l).isSome = l.any p := by
 induction l with
 | nil => rfl
 | cons a r ih => simp only [fidx, List.any_cons]; cases p a <;> simp [ih]
theorem loop93 (x : Sl (List UInt8)) (hl : x.l.length ≤ 9223372036854775807) (y : AV) (hy : okO y = some y) (p : (List UInt8) → Bool) (H0 : Heap) (hp : ∀ a ∈ x.l, ∀ H, Kept none H0 H → okV (W.call y [AV.str a] H) (fun v H' => v = .bool (p a) ∧ Kept none H H')) :
  ∀ (r : List (List UInt8)) (k : Nat) (H : Heap), x.l.drop k = r → k ≤ x.l.length → Kept none H0 H →
  okC (W.loop [0, 1, 7, 8] l93_0 [(0, Sl.av AV.str 1 x), (1, y), (7, I x.l.length), (8, I k)] H)
   (fun q F' H' => Kept none H0 H' ∧ ((fidx p r = none ∧ q = .exit 0) ∨ ∃ j, fidx p r = some j ∧ q = .ret ∧ F'.get 4 = I (k + j : Nat))) := by
 intro r
 induction r with
 | nil =>
  intro k H h1 h2 hk0
  have hk := drop_nil_len h1 h2
  rw [om_turn]
  simp [evl93_0, b93_0, intBin, hk, hy, hk0, fidx]
 | cons a r ihr =>
  intro k H h1 h2 hk0
  obtain ⟨hlt, ha, hr⟩ := drop_cons h1
  have hlt' : (k : Int) < x.l.length := by omega
  have hak : x.l[k] = a := (gEs.1 ha).2
  obtain ⟨v, H1, c1, rfl, c2⟩ := okV_iff.1 (hp a (mem_of_drop h1) H hk0)
  have hw : IntKind.wrap .i64 ((k : Int) + 1) = (k : Int) + 1 := by rw [wrap64] <;> omega
  rw [om_turn]
  cases hpa : p a with
  | true =>
   rw [hpa] at c1
   have hf : fidx p (a :: r) = some 0 := by simp [fidx, hpa]
   rw [hf]
   simp [evl93_0, b93_0, intBin, hlt, hak, hy, c1]
   exact hk0.trans c2
  | false =>
   rw [hpa] at c1
   have hJ := ihr (k + 1) H1 hr (by omega) (hk0.trans c2)
   simp only [Int.natCast_add, Int.cast_ofNat_Int] at hJ
   obtain ⟨q, F', H', g1, g2, g3⟩ := okC_iff.1 hJ
   rcases g3 with ⟨g3, rfl⟩ | ⟨j, g3, rfl, g4⟩
   ·have hf : fidx p (a :: r) = none := by simp [fidx, hpa, g3]
    rw [hf]
    simp [evl93_0, b93_0, intBin, hlt, hak, hy, c1, hw, g1, g2]
   ·have hf : fidx p (a :: r) = some (j + 1) := by simp [fidx, hpa, g3]
    rw [hf]
    simp [evl93_0, b93_0, intBin, hlt, hak, hy, c1, hw, g1, g2, g4]
    omega
theorem idx93 (x : Sl (List UInt8)) (hl : x.l.length ≤ 9223372036854775807) (y : AV) (hy : okO y = some y) (p : (List UInt8) → Bool) (H0 : Heap) (hp : ∀ a ∈ x.l, ∀ H, Kept none H0 H → okV (W.call y [AV.str a] H) (fun v H' => v = .bool (p a) ∧ Kept none H H')) :
  okV (W.call (.clo 93 [] []) [Sl.av AV.str 1 x, y] H0) (fun v H' => v = I (match fidx p x.l with | some j => (j : Int) | none => -1) ∧ Kept none H0 H') := by
 rw [W_call Φ93]
 have hL := loop93 x hl y hy p H0 hp x.l 0 H0 rfl (by omega) (Kept.refl _ _)
 simp only [Int.natCast_zero, Nat.zero_add] at hL
 obtain ⟨q, F', H', g1, g2, g3⟩ := okC_iff.1 hL
 rcases g3 with ⟨g3, rfl⟩ | ⟨j, g3, rfl, g4⟩
 ·simp [fi93, c93, evFun, enterFr, intBin, resV, rvVs, rvV, hy, g1, g3, g2]
 ·simp [fi93, c93, evFun, enterFr, intBin, resV, rvVs, rvV, hy, g1, g3, g2, g4]
theorem any37 (x : Sl (List UInt8)) (hl : x.l.length ≤ 9223372036854775807) (y : AV) (hy : okO y = some y) (p : (List UInt8) → Bool) (H0 : Heap) (hp : ∀ a ∈ x.l, ∀ H, Kept none H0 H → okV (W.call y [AV.str a] H) (fun v H' => v = .bool (p a) ∧ Kept none H H')) :
  okV (W.call (.clo 37 [] []) [Sl.av AV.str 1 x, y] H0) (fun v H' => v = .bool (x.l.any p) ∧ Kept none H0 H') := by
 rw [W_call Φ37]
 obtain ⟨v, H', c1, rfl, c2⟩ := okV_iff.1 (idx93 x hl y hy p H0 hp)
 rw [← fidx_any]
 cases hf : fidx p x.l with
 | none =>
  rw [hf] at c1
  simp [fi37, c37, evFun, enterFr, intBin, resV, rvVs, rvV, hy, c1, c2]
 | some j =>
  rw [hf] at c1
  simp [fi37, c37, evFun, enterFr, intBin, resV, rvVs, rvV, hy, c1, c2]
theorem loop151 (x : Sl St) (hl : x.l.length ≤ 9223372036854775807) (y : AV) (hy : okO y = some y) (p : St → Bool) (H0 : Heap) (hp : ∀ a ∈ x.l, ∀ H, Kept none H0 H → okV (W.call y [St.av a] H) (fun v H' => v = .bool (p a) ∧ Kept none H H')) :
  ∀ (r : List St) (k : Nat) (H : Heap), x.l.drop k = r → k ≤ x.l.length → Kept none H0 H →
  okC (W.loop [0, 1, 7, 8] l151_0 [(0, Sl.av St.av 8 x), (1, y), (7, I x.l.length), (8, I k)] H)
   (fun q F' H' => Kept none H0 H' ∧ ((fidx p r = none ∧ q = .exit 0) ∨ ∃ j, fidx p r = some j ∧ q = .ret ∧ F'.get 4 = I (k + j : Nat))) := by
 intro r
 induction r with
 | nil =>
  intro k H h1 h2 hk0
  have hk := drop_nil_len h1 h2
  rw [om_turn]
  simp [evl151_0, b151_0, intBin, hk, hy, hk0, fidx]
 | cons a r ihr =>
  intro k H h1 h2 hk0
  obtain ⟨hlt, ha, hr⟩ := drop_cons h1
  have hlt' : (k : Int) < x.l.length := by omega
  have hak : x.l[k] = a := (gEs.1 ha).2
  obtain ⟨v, H1, c1, rfl, c2⟩ := okV_iff.1 (hp a (mem_of_drop h1) H hk0)
  have hw : IntKind.wrap .i64 ((k : Int) + 1) = (k : Int) + 1 := by rw [wrap64] <;> omega
  rw [om_turn]
  cases hpa : p a with
  | true =>
   rw [hpa] at c1
   have hf : fidx p (a :: r) = some 0 := by simp [fidx, hpa]
   rw [hf]
   simp [evl151_0, b151_0, intBin, hlt, hak, hy, c1]
   exact hk0.trans c2
  | false =>
   rw [hpa] at c1
   have hJ := ihr (k + 1) H1 hr (by omega) (hk0.trans c2)
   simp only [Int.natCast_add, Int.cast_ofNat_Int] at hJ
   obtain ⟨q, F', H', g1, g2, g3⟩ := okC_iff.1 hJ
   rcases g3 with ⟨g3, rfl⟩ | ⟨j, g3, rfl, g4⟩
   ·have hf : fidx p (a :: r) = none := by simp [fidx, hpa, g3]
    rw [hf]
    simp [evl151_0, b151_0, intBin, hlt, hak, hy, c1, hw, g1, g2]
   ·have hf : fidx p (a :: r) = some (j + 1) := by simp [fidx, hpa, g3]
    rw [hf]
    simp [evl151_0, b151_0, intBin, hlt, hak, hy, c1, hw, g1, g2, g4]
    omega
theorem idx151 (x : Sl St) (hl : x.l.length ≤ 9223372036854775807) (y : AV) (hy : okO y = some y) (p : St → Bool) (H0 : Heap) (hp : ∀ a ∈ x.l, ∀ H, Kept none H0 H → okV (W.call y [St.av a] H) (fun v H' => v = .bool (p a) ∧ Kept none H H')) :
  okV (W.call (.clo 151 [] []) [Sl.av St.av 8 x, y] H0) (fun v H' => v = I (match fidx p x.l with | some j => (j : Int) | none => -1) ∧ Kept none H0 H') := by
 rw [W_call Φ151]
 have hL := loop151 x hl y hy p H0 hp x.l 0 H0 rfl (by omega) (Kept.refl _ _)
 simp only [Int.natCast_zero, Nat.zero_add] at hL
 obtain ⟨q, F', H', g1, g2, g3⟩ := okC_iff.1 hL
 rcases g3 with ⟨g3, rfl⟩ | ⟨j, g3, rfl, g4⟩
 ·simp [fi151, c151, evFun, enterFr, intBin, resV, rvVs, rvV, hy, g1, g3, g2]
 ·simp [fi151, c151, evFun, enterFr, intBin, resV, rvVs, rvV, hy, g1, g3, g2, g4]
theorem any106 (x : Sl St) (hl : x.l.length ≤ 9223372036854775807) (y : AV) (hy : okO y = some y) (p : St → Bool) (H0 : Heap) (hp : ∀ a ∈ x.l, ∀ H, Kept none H0 H → okV (W.call y [St.av a] H) (fun v H' => v = .bool (p a) ∧ Kept none H H')) :
  okV (W.call (.clo 106 [] []) [Sl.av St.av 8 x, y] H0) (fun v H' => v = .bool (x.l.any p) ∧ Kept none H0 H') := by
 rw [W_call Φ106]
 obtain ⟨v, H', c1, rfl, c2⟩ := okV_iff.1 (idx151 x hl y hy p H0 hp)
 rw [← fidx_any]
 cases hf : fidx p x.l with
 | none =>
  rw [hf] at c1
  simp [fi106, c106, evFun, enterFr, intBin, resV, rvVs, rvV, hy, c1, c2]
 | some j =>
  rw [hf] at c1
  simp [fi106, c106, evFun, enterFr, intBin, resV, rvVs, rvV, hy, c1, c2]
theorem loop152 (x : Sl Cs) (hl : x.l.length ≤ 9223372036854775807) (y : AV) (hy : okO y = some y) (p : Cs → Bool) (H0 : Heap) (hp : ∀ a ∈ x.l, ∀ H, Kept none H0 H → okV (W.call y [Cs.av a] H) (fun v H' => v = .bool (p a) ∧ Kept none H H')) :
  ∀ (r : List Cs) (k : Nat) (H : Heap), x.l.drop k = r → k ≤ x.l.length → Kept none H0 H →
  okC (W.loop [0, 1, 7, 8] l152_0 [(0, Sl.av Cs.av 9 x), (1, y), (7, I x.l.length), (8, I k)] H)
   (fun q F' H' => Kept none H0 H' ∧ ((fidx p r = none ∧ q = .exit 0) ∨ ∃ j, fidx p r = some j ∧ q = .ret ∧ F'.get 4 = I (k + j : Nat))) := by
 intro r
 induction r with
 | nil =>
  intro k H h1 h2 hk0
  have hk := drop_nil_len h1 h2
  rw [om_turn]
  simp [evl152_0, b152_0, intBin, hk, hy, hk0, fidx]
 | cons a r ihr =>
  intro k H h1 h2 hk0
  obtain ⟨hlt, ha, hr⟩ := drop_cons h1
  have hlt' : (k : Int) < x.l.length := by omega
  have hak : x.l[k] = a := (gEs.1 ha).2
  obtain ⟨v, H1, c1, rfl, c2⟩ := okV_iff.1 (hp a (mem_of_drop h1) H hk0)
  have hw : IntKind.wrap .i64 ((k : Int) + 1) = (k : Int) + 1 := by rw [wrap64] <;> omega
  rw [om_turn]
  cases hpa : p a with
  | true =>
   rw [hpa] at c1
   have hf : fidx p (a :: r) = some 0 := by simp [fidx, hpa]
   rw [hf]
   simp [evl152_0, b152_0, intBin, hlt, hak, hy, c1]
   exact hk0.trans c2
  | false =>
   rw [hpa] at c1
   have hJ := ihr (k + 1) H1 hr (by omega) (hk0.trans c2)
   simp only [Int.natCast_add, Int.cast_ofNat_Int] at hJ
   obtain ⟨q, F', H', g1, g2, g3⟩ := okC_iff.1 hJ
   rcases g3 with ⟨g3, rfl⟩ | ⟨j, g3, rfl, g4⟩
   ·have hf : fidx p (a :: r) = none := by simp [fidx, hpa, g3]
    rw [hf]
    simp [evl152_0, b152_0, intBin, hlt, hak, hy, c1, hw, g1, g2]
   ·have hf : fidx p (a :: r) = some (j + 1) := by simp [fidx, hpa, g3]
    rw [hf]
    simp [evl152_0, b152_0, intBin, hlt, hak, hy, c1, hw, g1, g2, g4]
    omega
theorem idx152 (x : Sl Cs) (hl : x.l.length ≤ 9223372036854775807) (y : AV) (hy : okO y = some y) (p : Cs → Bool) (H0 : Heap) (hp : ∀ a ∈ x.l, ∀ H, Kept none H0 H → okV (W.call y [Cs.av a] H) (fun v H' => v = .bool (p a) ∧ Kept none H H')) :
  okV (W.call (.clo 152 [] []) [Sl.av Cs.av 9 x, y] H0) (fun v H' => v = I (match fidx p x.l with | some j => (j : Int) | none => -1) ∧ Kept none H0 H') := by
 rw [W_call Φ152]
 have hL := loop152 x hl y hy p H0 hp x.l 0 H0 rfl (by omega) (Kept.refl _ _)
 simp only [Int.natCast_zero, Nat.zero_add] at hL
 obtain ⟨q, F', H', g1, g2, g3⟩ := okC_iff.1 hL
 rcases g3 with ⟨g3, rfl⟩ | ⟨j, g3, rfl, g4⟩
 ·simp [fi152, c152, evFun, enterFr, intBin, resV, rvVs, rvV, hy, g1, g3, g2]
 ·simp [fi152, c152, evFun, enterFr, intBin, resV, rvVs, rvV, hy, g1, g3, g2, g4]
theorem any109 (x : Sl Cs) (hl : x.l.length ≤ 9223372036854775807) (y : AV) (hy : okO y = some y) (p : Cs → Bool) (H0 : Heap) (hp : ∀ a ∈ x.l, ∀ H, Kept none H0 H → okV (W.call y [Cs.av a] H) (fun v H' => v = .bool (p a) ∧ Kept none H H')) :
  okV (W.call (.clo 109 [] []) [Sl.av Cs.av 9 x, y] H0) (fun v H' => v = .bool (x.l.any p) ∧ Kept none H0 H') := by
 rw [W_call Φ109]
 obtain ⟨v, H', c1, rfl, c2⟩ := okV_iff.1 (idx152 x hl y hy p H0 hp)
 rw [← fidx_any]
 cases hf : fidx p x.l with
 | none =>
  rw [hf] at c1
  simp [fi109, c109, evFun, enterFr, intBin, resV, rvVs, rvV, hy, c1, c2]
 | some j =>
  rw [hf] at c1
  simp [fi109, c109, evFun, enterFr, intBin, resV, rvVs, rvV, hy, c1, c2]
theorem loop76 (x : Sl Pr) (hl : x.l.length ≤ 9223372036854775807) (y : AV) (hy : okO y = some y) (p : Pr → Bool) (H0 : Heap) (hp : ∀ a ∈ x.l, ∀ H, Kept none H0 H → okV (W.call y [Pr.av a] H) (fun v H' => v = .bool (p a) ∧ Kept none H H')) :
  ∀ (r : List Pr) (k : Nat) (H : Heap), x.l.drop k = r → k ≤ x.l.length → Kept none H0 H →
  okC (W.loop [0, 1, 7, 8] l76_0 [(0, Sl.av Pr.av 5 x), (1, y), (7, I x.l.length), (8, I k)] H)
   (fun q F' H' => Kept none H0 H' ∧ ((fidx p r = none ∧ q = .exit 0) ∨ ∃ j, fidx p r = some j ∧ q = .ret ∧ F'.get 4 = I (k + j : Nat))) := by
 intro r
 induction r with
 | nil =>
  intro k H h1 h2 hk0
  have hk := drop_nil_len h1 h2
  rw [om_turn]
  simp [evl76_0, b76_0, intBin, hk, hy, hk0, fidx]
 | cons a r ihr =>
  intro k H h1 h2 hk0
  obtain ⟨hlt, ha, hr⟩ := drop_cons h1
  have hlt' : (k : Int) < x.l.length := by omega
  have hak : x.l[k] = a := (gEs.1 ha).2
  obtain ⟨v, H1, c1, rfl, c2⟩ := okV_iff.1 (hp a (mem_of_drop h1) H hk0)
  have hw : IntKind.wrap .i64 ((k : Int) + 1) = (k : Int) + 1 := by rw [wrap64] <;> omega
  rw [om_turn]
  cases hpa : p a with
  | true =>
   rw [hpa] at c1
   have hf : fidx p (a :: r) = some 0 := by simp [fidx, hpa]
   rw [hf]
   simp [evl76_0, b76_0, intBin, hlt, hak, hy, c1]
   exact hk0.trans c2
  | false =>
   rw [hpa] at c1
   have hJ := ihr (k + 1) H1 hr (by omega) (hk0.trans c2)
   simp only [Int.natCast_add, Int.cast_ofNat_Int] at hJ
   obtain ⟨q, F', H', g1, g2, g3⟩ := okC_iff.1 hJ
   rcases g3 with ⟨g3, rfl⟩ | ⟨j, g3, rfl, g4⟩
   ·have hf : fidx p (a :: r) = none := by simp [fidx, hpa, g3]
    rw [hf]
    simp [evl76_0, b76_0, intBin, hlt, hak, hy, c1, hw, g1, g2]
   ·have hf : fidx p (a :: r) = some (j + 1) := by simp [fidx, hpa, g3]
    rw [hf]
    simp [evl76_0, b76_0, intBin, hlt, hak, hy, c1, hw, g1, g2, g4]
    omega
theorem idx76 (x : Sl Pr) (hl : x.l.length ≤ 9223372036854775807) (y : AV) (hy : okO y = some y) (p : Pr → Bool) (H0 : Heap) (hp : ∀ a ∈ x.l, ∀ H, Kept none H0 H → okV (W.call y [Pr.av a] H) (fun v H' => v = .bool (p a) ∧ Kept none H H')) :
  okV (W.call (.clo 76 [] []) [Sl.av Pr.av 5 x, y] H0) (fun v H' => v = I (match fidx p x.l with | some j => (j : Int) | none => -1) ∧ Kept none H0 H') := by
 rw [W_call Φ76]
 have hL := loop76 x hl y hy p H0 hp x.l 0 H0 rfl (by omega) (Kept.refl _ _)
 simp only [Int.natCast_zero, Nat.zero_add] at hL
 obtain ⟨q, F', H', g1, g2, g3⟩ := okC_iff.1 hL
 rcases g3 with ⟨g3, rfl⟩ | ⟨j, g3, rfl, g4⟩
 ·simp [fi76, c76, evFun, enterFr, intBin, resV, rvVs, rvV, hy, g1, g3, g2]
 ·simp [fi76, c76, evFun, enterFr, intBin, resV, rvVs, rvV, hy, g1, g3, g2, g4]
theorem any28 (x : Sl Pr) (hl : x.l.length ≤ 9223372036854775807) (y : AV) (hy : okO y = some y) (p : Pr → Bool) (H0 : Heap) (hp : ∀ a ∈ x.l, ∀ H, Kept none H0 H → okV (W.call y [Pr.av a] H) (fun v H' => v = .bool (p a) ∧ Kept none H H')) :
  okV (W.call (.clo 28 [] []) [Sl.av Pr.av 5 x, y] H0) (fun v H' => v = .bool (x.l.any p) ∧ Kept none H0 H') := by
 rw [W_call Φ28]
 obtain ⟨v, H', c1, rfl, c2⟩ := okV_iff.1 (idx76 x hl y hy p H0 hp)
 rw [← fidx_any]
 cases hf : fidx p x.l with
 | none =>
  rw [hf] at c1
  simp [fi28, c28, evFun, enterFr, intBin, resV, rvVs, rvV, hy, c1, c2]
 | some j =>
  rw [hf] at c1
  simp [fi28, c28, evFun, enterFr, intBin, resV, rvVs, rvV, hy, c1, c2]
end Go.Proofs.YtddpboiceemihaaGreatDoor
end
section
namespace Go.Proofs.YtddpboiceemihaaGreatDoor
open Go Go.RowKit
set_option linter.unusedVariables false
set_option linter.unusedSimpArgs false
set_option maxRecDepth 10000
def errOf {α : Type} (f : α → Int) : List α → Int
 | [] => 0
 | a :: r => if f a ≠ 0 then f a else errOf f r
theorem errOf_append {α : Type} (f : α → Int) (l m : List α) : errOf f (l ++ m) = if errOf f l ≠ 0 then errOf f l else errOf f m := by
 induction l with
 | nil => simp [errOf]
 | cons a r ih =>
  simp only [List.cons_append, errOf, ih]
  by_cases h : f a = 0 <;> simp [h]
theorem errOf_ok {α : Type} {f : α → Int} {l : List α} : errOf f l = 0 ↔ ∀ a ∈ l, f a = 0 := by
 induction l with
 | nil => simp [errOf]
 | cons a r ih =>
  simp only [errOf, List.mem_cons, forall_eq_or_imp]
  by_cases h : f a = 0 <;> simp [h, ih]
def exShape (e : Ex) : Bool := (decide (e.kind = 1) || decide (e.value = 0)) && (decide (e.kind = 2) || decide (e.name = [])) && (!(decide (e.kind = 1) || decide (e.kind = 2)) || decide (e.op = 0)) &&
 decide ((e.args.l.length : Int) = if e.kind = 3 then 1 else if e.kind = 4 then 2 else 0)
def exPart (e : Ex) : Int :=
 if e.kind < 1 ∨ 4 < e.kind then 8
 else if exShape e = false then 1
 else if e.value < 0 ∨ 1099511627776 < e.value then 2
 else if e.kind = 2 ∧ isNm e.name = false then 5
 else if (e.kind = 3 ∧ e.op ≠ 1 ∧ e.op ≠ 2) ∨ (e.kind = 4 ∧ (e.op < 3 ∨ 15 < e.op)) then 8
 else 0
mutual
def Ex.parts : Ex → List Ex | .mk a b c d n z l => .mk a b c d n z l :: Ex.partss l
def Ex.partss : List Ex → List Ex | [] => [] | x :: r => x.parts ++ Ex.partss r
end
theorem Ex.parts_eq (e : Ex) : e.parts = e :: Ex.partss e.args.l := by cases e; simp only [Ex.parts, Ex.args]
set_option maxHeartbeats 4000000 in
theorem e218 (e : Ex) : W.pure 218 [e.av] = some (.int .i64 (exPart e)) := by
 rw [W_pure Φ218 (by simp)]
 by_cases hr : e.kind < 1 ∨ 4 < e.kind
 ·simp [fi218, c218, evFun, enterFr, intBin, resV, rvVs, rvV, exPart, hr]
 ·have hk : e.kind = 1 ∨ e.kind = 2 ∨ e.kind = 3 ∨ e.kind = 4 := by omega
  have n1 := e147 e.name
  rcases hk with hk | hk | hk | hk
  ·by_cases a1 : e.name = [] <;> by_cases a2 : e.op = 0 <;> by_cases a3 : (e.args.l.length : Int) = 0 <;> by_cases a4 : e.value < 0 ∨ 1099511627776 < e.value <;>
    simp [fi218, c218, evFun, enterFr, intBin, resV, rvVs, rvV, exPart, exShape, strBin, hk, a1, a2, a3, a4]
  ·by_cases a1 : e.value = 0 <;> by_cases a2 : e.op = 0 <;> by_cases a3 : (e.args.l.length : Int) = 0 <;> cases a4 : isNm e.name <;>
    simp [fi218, c218, evFun, enterFr, intBin, resV, rvVs, rvV, exPart, exShape, strBin, hk, a1, a2, a3, a4, n1]
  ·by_cases a1 : e.value = 0 <;> by_cases a2 : e.name = [] <;> by_cases a3 : (e.args.l.length : Int) = 1 <;> by_cases a4 : e.op = 1 <;> by_cases a5 : e.op = 2 <;>
    simp [fi218, c218, evFun, enterFr, intBin, resV, rvVs, rvV, exPart, exShape, strBin, hk, a1, a2, a3, a4, a5]
  ·by_cases a1 : e.value = 0 <;> by_cases a2 : e.name = [] <;> by_cases a3 : (e.args.l.length : Int) = 2 <;> by_cases a4 : e.op < 3 ∨ 15 < e.op <;>
    simp [fi218, c218, evFun, enterFr, intBin, resV, rvVs, rvV, exPart, exShape, strBin, hk, a1, a2, a3, a4]
end Go.Proofs.YtddpboiceemihaaGreatDoor
end
section
namespace Go.Proofs.YtddpboiceemihaaGreatDoor
open Go Go.RowKit
set_option linter.unusedVariables false
set_option linter.unusedSimpArgs false
set_option maxRecDepth 10000
def exCheck (e : Ex) : Int := if 100 < e.size then 4 else if 12 < e.depth then 22 else errOf exPart e.parts
theorem loop193 (e : Ex) (hs : e.size ≤ 1000000000) (ih : ∀ x ∈ e.args.l, W.pure 193 [x.av] = some (I (errOf exPart x.parts))) :
  ∀ (r : List Ex) (k : Nat), e.args.l.drop k = r → k ≤ e.args.l.length →
  okC (W.loop [1, 4] l193_0 [(1, .optr 0 0 0 0), (4, I k)] [.arr 0 5 false [e.av]]) (fun x F' H' => (errOf exPart (Ex.partss r) = 0 ∧ x = .exit 0) ∨ (errOf exPart (Ex.partss r) ≠ 0 ∧ x = .ret ∧ F'.get 2 = I (errOf exPart (Ex.partss r)))) := by
 have hll := Ex.len_sizes e.args.l
 rw [Ex.size_eq] at hs
 intro r
 induction r with
 | nil =>
  intro k h1 h2
  have hk := drop_nil_len h1 h2
  rw [om_turn]
  simp [evl193_0, b193_0, intBin, hk, Ex.partss, errOf]
 | cons a r ihr =>
  intro k h1 h2
  obtain ⟨hlt, ha, hr⟩ := drop_cons h1
  have hlt' : (k : Int) < e.args.l.length := by omega
  have hak : e.args.l[k] = a := (gEs.1 ha).2
  have e1 := ih a (mem_of_drop h1)
  have hw := wrap_succ (k := k) (by omega)
  have hJ := ihr (k + 1) hr (by omega)
  simp only [Int.natCast_add, Int.cast_ofNat_Int] at hJ
  simp only [Ex.partss, errOf_append]
  rw [om_turn]
  by_cases hz : errOf exPart a.parts = 0
  ·simp only [hz, ne_eq, not_true_eq_false, if_false]
   simp [evl193_0, b193_0, intBin, hlt, hak, e1, hz, hw]
   simpa using hJ
  ·simp only [hz, ne_eq, not_false_eq_true, if_true]
   simp [evl193_0, b193_0, intBin, hlt, hak, e1, hz, hw]
theorem e193 : ∀ (e : Ex), e.size ≤ 1000000000 → W.pure 193 [e.av] = some (I (errOf exPart e.parts)) := by
 refine Ex.ind (fun e ih => ?_)
 intro hs
 rw [W_pure Φ193 (by simp)]
 have e1 := e218 e
 rw [Ex.parts_eq]
 simp only [errOf]
 by_cases hz : exPart e = 0
 ·have hL := loop193 e hs (fun x hx => ih x hx (by have := Ex.mem_size hx; rw [Ex.size_eq] at hs; omega)) e.args.l 0 rfl (by omega)
  simp only [Int.natCast_zero] at hL
  obtain ⟨x, F', H', e2, hx⟩ := okC_iff.1 hL
  simp only [hz, ne_eq, not_true_eq_false, if_false]
  rcases hx with ⟨p, rfl⟩ | ⟨p, rfl, q⟩
  ·simp [fi193, c193, evFun, enterFr, intBin, resV, rvVs, rvV, e1, e2, hz, p]
  ·simp [fi193, c193, evFun, enterFr, intBin, resV, rvVs, rvV, e1, e2, hz, q]
 ·simp only [hz, ne_eq, not_false_eq_true, if_true]
  simp [fi193, c193, evFun, enterFr, intBin, resV, rvVs, rvV, e1, hz]
theorem e161 (e : Ex) : W.pure 161 [e.av] = some (I (exCheck e)) := by
 rw [W_pure Φ161 (by simp)]
 have e1 := e191 e
 by_cases h1 : 100 < e.size
 ·have : min e.size 101 = 101 := by omega
  rw [this] at e1
  simp [fi161, c161, evFun, enterFr, intBin, resV, rvVs, rvV, e1, exCheck, h1]
 ·have h0 : min e.size 101 = e.size := by omega
  rw [h0] at e1
  have h1' : ¬ (100 : Int) < e.size := by omega
  have e2 := e192 e (by omega)
  have e3 := e193 e (by omega)
  by_cases h2 : 12 < e.depth
  ·have h2' : (12 : Int) < e.depth := by omega
   simp [fi161, c161, evFun, enterFr, intBin, resV, rvVs, rvV, e1, e2, exCheck, h1, h1', h2, h2']
  ·have h2' : ¬ (12 : Int) < e.depth := by omega
   simp [fi161, c161, evFun, enterFr, intBin, resV, rvVs, rvV, e1, e2, e3, exCheck, h1, h1', h2, h2']
end Go.Proofs.YtddpboiceemihaaGreatDoor
end
section
namespace Go.Proofs.YtddpboiceemihaaGreatDoor
open Go Go.RowKit
set_option linter.unusedVariables false
set_option linter.unusedSimpArgs false
set_option maxRecDepth 10000
theorem loop182 (e : Ex) (id ver : Nat) (ih : ∀ x ∈ e.args.l, ∀ (d n : Nat) (H : Heap), n ≤ 100 → d ≤ n + 1 → H[id]? = some (.arr ver 1 false [I n]) →
   okV (W.call (.clo 182 [] []) [x.av, I d, .optr id ver 0 0] H) (fun v H' => H'[id]? = some (.arr ver 1 false [I (min (n + x.size) 101 : Nat)]) ∧ Kept (some id) H H' ∧ ∃ m : Nat, v = I m ∧ m ≤ 1000 ∧ (n + x.size ≤ 100 → m + 1 = d + x.depth))) (d : Nat) (hd : d ≤ 101) :
  ∀ (r : List Ex) (k b n : Nat) (H : Heap), e.args.l.drop k = r → k ≤ e.args.l.length → k ≤ n → n ≤ 101 → d ≤ n → d ≤ b → b ≤ 1000 → H[id]? = some (.arr ver 1 false [I n]) →
  okC (W.loop [1, 2, 7, 26, 27, 28] l182_0 [(1, I d), (2, .optr id ver 0 0), (7, I b), (26, Sl.av Ex.av 5 e.args), (27, I e.args.l.length), (28, I k)] H)
   (fun x F' H' => x = .exit 0 ∧ H'[id]? = some (.arr ver 1 false [I (min (n + Ex.sizes r) 101 : Nat)]) ∧ Kept (some id) H H' ∧ ∃ m : Nat, F'.get 7 = I m ∧ m ≤ 1000 ∧ (n + Ex.sizes r ≤ 100 → m = max b (d + Ex.depths r))) := by
 intro r
 induction r with
 | nil =>
  intro k b n H h1 h2 hkn hn hdn hdb hb hH
  have hk := drop_nil_len h1 h2
  have hm : min n 101 = n := by omega
  rw [om_turn]
  simp [evl182_0, b182_0, intBin, hk, Ex.sizes, Ex.depths, hH, hm]
  exact ⟨Kept.refl _ _, b, rfl, hb, fun _ => by omega⟩
 | cons a r ihr =>
  intro k b n H h1 h2 hkn hn hdn hdb hb hH
  obtain ⟨hlt, ha, hr⟩ := drop_cons h1
  have hlt' : (k : Int) < e.args.l.length := by omega
  have hak : e.args.l[k] = a := (gEs.1 ha).2
  have hpos := a.size_pos
  have hid : id < H.length := (gEs.1 hH).1
  have hne : ¬ H.length = id := by omega
  rw [om_turn]
  have hH1 : ∀ B, (H ++ [B])[id]? = some (.arr ver 1 false [I n]) := fun B => app_get hH B
  have hw := wrap_succ (k := k) (by omega)
  have hwd := wrap_succ (k := d) (by omega)
  by_cases h100 : 100 < n
  ·have h100' : (100 : Int) < n := by omega
   have hm : min (n + Ex.sizes (a :: r)) 101 = n := by simp only [Ex.sizes]; omega
   simp only [hm]
   have hH2 : (H ++ [Blk.arr 0 5 false [a.av]])[id]? = some (.arr ver 1 false [I n]) := hH1 _
   simp [evl182_0, b182_0, intBin, hlt, hak, h100, h100', hH2]
   refine ⟨Kept.append _ _ _, ⟨b, rfl, hb, fun h => ?_⟩⟩
   simp only [Ex.sizes] at h; omega
  ·have h100' : ¬ (100 : Int) < n := by omega
   have hH2 : (H ++ [Blk.arr 0 5 false [a.av]])[id]? = some (.arr ver 1 false [I n]) := hH1 _
   have e1 := ih a (mem_of_drop h1) (d + 1) n (H ++ [.arr 0 5 false [a.av]]) (by omega) (by omega) hH2
   obtain ⟨v, H1, c1, c2, c3, m, rfl, c4, c5⟩ := okV_iff.1 e1
   simp only [Int.natCast_add, Int.cast_ofNat_Int] at c1
   have hmm : min (min (n + a.size) 101 + Ex.sizes r) 101 = min (n + Ex.sizes (a :: r)) 101 := by simp only [Ex.sizes]; omega
   have key : ∀ b' : Nat, b' = max b m → okC (W.loop [1, 2, 7, 26, 27, 28] l182_0 [(1, I d), (2, .optr id ver 0 0), (7, I b'), (26, Sl.av Ex.av 5 e.args), (27, I e.args.l.length), (28, I (k + 1 : Nat))] H1)
     (fun x F' H' => x = .exit 0 ∧ H'[id]? = some (.arr ver 1 false [I (min (n + Ex.sizes (a :: r)) 101 : Nat)]) ∧ Kept (some id) H H' ∧ ∃ m : Nat, F'.get 7 = I m ∧ m ≤ 1000 ∧ (n + Ex.sizes (a :: r) ≤ 100 → m = max b (d + Ex.depths (a :: r)))) := by
    intro b' hb'
    have hJ := ihr (k + 1) b' (min (n + a.size) 101) H1 hr (by omega) (by omega) (by omega) (by omega) (by omega) (by omega) c2
    rw [hmm] at hJ
    obtain ⟨x, F', H', g1, g2, g3, g4, m', g5, g6, g7⟩ := okC_iff.1 hJ
    refine okC_iff.2 ⟨x, F', H', g1, g2, g3, ((Kept.append _ _ _).trans c3).trans g4, m', g5, g6, fun h => ?_⟩
    simp only [Ex.sizes] at h
    have := g7 (by omega)
    have := c5 (by omega)
    simp only [Ex.depths]
    omega
   by_cases hbm : b < m
   ·have hbm' : (b : Int) < m := by omega
    have hk2 := key m (by omega)
    simp only [Int.natCast_add, Int.cast_ofNat_Int] at hk2
    simp [evl182_0, b182_0, intBin, hlt, hak, h100, h100', hH2, hwd, c1, hbm, hbm', hw]
    simpa using hk2
   ·have hbm' : ¬ (b : Int) < m := by omega
    have hk2 := key b (by omega)
    simp only [Int.natCast_add, Int.cast_ofNat_Int] at hk2
    simp [evl182_0, b182_0, intBin, hlt, hak, h100, h100', hH2, hwd, c1, hbm, hbm', hw]
    simpa using hk2
theorem e182 : ∀ (e : Ex) (id ver d n : Nat) (H : Heap), n ≤ 100 → d ≤ n + 1 → H[id]? = some (.arr ver 1 false [I n]) →
   okV (W.call (.clo 182 [] []) [e.av, I d, .optr id ver 0 0] H) (fun v H' => H'[id]? = some (.arr ver 1 false [I (min (n + e.size) 101 : Nat)]) ∧ Kept (some id) H H' ∧ ∃ m : Nat, v = I m ∧ m ≤ 1000 ∧ (n + e.size ≤ 100 → m + 1 = d + e.depth)) := by
 refine Ex.ind (fun e ih => ?_)
 intro id ver d n H hn hd hH
 have hid : id < H.length := (gEs.1 hH).1
 have hne : ¬ H.length = id := by omega
 rw [W_call Φ182]
 have hw := wrap_succ (k := n) (by omega)
 have hH2 : (H ++ [Blk.arr 0 5 false [e.av]])[id]? = some (.arr ver 1 false [I n]) := app_get hH _
 have hH3 : ∀ B, ((H ++ [Blk.arr 0 5 false [e.av]]).set id B)[id]? = some B := fun B => gEt (by simp; omega)
 have hH4 : ∀ B, ((H ++ [Blk.arr 0 5 false [e.av]]).set id B)[H.length]? = some (.arr 0 5 false [e.av]) := fun B => by
  rw [gEn (by omega)]; simp
 by_cases h100 : 100 < n + 1
 ·have h100' : (100 : Int) < n + 1 := by omega
  have hpos := e.size_pos
  have hm : min (n + e.size) 101 = n + 1 := by omega
  simp only [hm]
  simp [fi182, c182, evFun, enterFr, intBin, resV, rvVs, rvV, hH2, hw, hH3, hH4, h100, h100', gEz, -getElem?_pos, -List.append_assoc]
  exact ⟨((Kept.append _ _ _).trans (Kept.set _ _ _)), d, rfl, by omega, fun h => by omega⟩
 ·have h100' : ¬ (100 : Int) < n + 1 := by omega
  have hd' : ¬ (100 : Int) < d := by omega
  have hL := loop182 e id ver (fun x hx d n H a b c => ih x hx id ver d n H a b c) d (by omega) e.args.l 0 d (n + 1) ((H ++ [Blk.arr 0 5 false [e.av]]).set id (Blk.arr ver 1 false [I (n + 1 : Nat)])) rfl (by omega) (by omega) (by omega) (by omega) (by omega) (by omega) (hH3 _)
  simp only [Int.natCast_add, Int.cast_ofNat_Int, Int.natCast_zero] at hL
  obtain ⟨x, F', H', e1, rfl, p1, p2, m, p3, p4, p5⟩ := okC_iff.1 hL
  have hs : n + 1 + Ex.sizes e.args.l = n + e.size := by rw [Ex.size_eq]; omega
  rw [hs] at p1
  simp [fi182, c182, evFun, enterFr, intBin, resV, rvVs, rvV, hH2, hw, hH3, hH4, h100, h100', hd', e1, p3, p1, gEz, -getElem?_pos, -List.append_assoc]
  refine ⟨((Kept.append _ _ _).trans (Kept.set _ _ _)).trans p2, m, rfl, p4, fun h => ?_⟩
  have := p5 (by omega)
  rw [Ex.depth_eq]
  omega
end Go.Proofs.YtddpboiceemihaaGreatDoor
end
section
namespace Go.Proofs.YtddpboiceemihaaGreatDoor
open Go Go.RowKit
set_option linter.unusedVariables false
set_option linter.unusedSimpArgs false
set_option maxRecDepth 10000
theorem e150 (e : Ex) : W.pure 150 [e.av] = some (I (min e.size 101 : Nat)) := by
 rw [W_pure Φ150 (by simp)]
 have e1 := e182 e 1 0 1 0 [.arr 0 5 false [e.av], .arr 0 1 false [I 0]] (by omega) (by omega) rfl
 obtain ⟨v, H1, c1, c2, c3, m, rfl, c4, c5⟩ := okV_iff.1 e1
 simp only [Int.natCast_zero, Int.cast_ofNat_Int, Int.natCast_one, Nat.zero_add] at c1 c2
 have hm : ¬ (101 : Int) < (min e.size 101 : Nat) := by omega
 simp [fi150, c150, evFun, enterFr, intBin, resV, rvVs, rvV, c1, c2, mnV_int, hm]
def runS {α σ ρ : Type} (step : α → σ → σ ⊕ ρ) : List α → σ → σ ⊕ ρ
 | [], s => .inl s
 | a :: r, s => match step a s with | .inl s' => runS step r s' | .inr x => .inr x
theorem runS_append {α σ ρ : Type} (step : α → σ → σ ⊕ ρ) (l m : List α) (s : σ) : runS step (l ++ m) s = match runS step l s with | .inl s' => runS step m s' | .inr x => .inr x := by
 induction l generalizing s with
 | nil => rfl
 | cons a r ih =>
  simp only [List.cons_append, runS]
  cases step a s with
  | inl s' => exact ih s'
  | inr x => rfl
def KeptN (n : Nat) (H H' : Heap) : Prop := H.length ≤ H'.length ∧ ∀ (j : Nat) (es : List AV), H[j]? = some (.arr 0 n false es) → H'[j]? = some (.arr 0 n false es)
theorem KeptN.refl (n : Nat) (H : Heap) : KeptN n H H := ⟨Nat.le_refl _, fun _ _ h => h⟩
theorem KeptN.trans {n : Nat} {A B C : Heap} (h : KeptN n A B) (h' : KeptN n B C) : KeptN n A C := ⟨Nat.le_trans h.1 h'.1, fun j es hj => h'.2 j es (h.2 j es hj)⟩
theorem KeptN.append (n : Nat) (H : Heap) (B : Blk) : KeptN n H (H ++ [B]) := ⟨by simp, fun j es h => app_get h B⟩
theorem KeptN.set {n : Nat} {H : Heap} {i : Nat} {B B' : Blk} (hi : H[i]? = some B) (hb : ∀ es, B ≠ .arr 0 n false es) : KeptN n H (H.set i B') := ⟨by simp, fun j es h => by
 by_cases hj : i = j
 ·subst hj; rw [hi] at h; cases h; exact absurd rfl (hb _)
 ·rw [gEn hj]; exact h⟩
def yieldR {α σ ρ : Type} (n : Nat) (P : σ → Heap → Prop) (Q : ρ → Heap → Prop) (y : σ ⊕ ρ) (H : Heap) (v : AV) (H' : Heap) : Prop :=
 KeptN n H H' ∧ match y with | .inl s => v = .bool true ∧ P s H' | .inr r => v = .bool false ∧ Q r H'
theorem loop210 {σ ρ : Type} (e : Ex) (hs : e.size ≤ 1000000000) (y : AV) (hy : okO y = some y) (P : σ → Heap → Prop) (Q : ρ → Heap → Prop) (step : Ex → σ → σ ⊕ ρ) (hP : ∀ s H B, P s H → P s (H ++ [B]))
  (ih : ∀ x ∈ e.args.l, ∀ s H, P s H → okV (W.call (.clo 210 [] []) [x.av, y] H) (yieldR (α := Ex) 5 P Q (runS step x.parts s) H)) :
  ∀ (r : List Ex) (k : Nat) (s : σ) (H : Heap), e.args.l.drop k = r → k ≤ e.args.l.length → P s H →
  okC (W.loop [1, 12, 13, 14] l210_0 [(1, y), (12, Sl.av Ex.av 5 e.args), (13, I e.args.l.length), (14, I k)] H)
   (fun x F' H' => KeptN 5 H H' ∧ match runS step (Ex.partss r) s with | .inl s' => x = .exit 0 ∧ P s' H' | .inr z => x = .ret ∧ F'.get 4 = .bool false ∧ Q z H') := by
 have hll := Ex.len_sizes e.args.l
 rw [Ex.size_eq] at hs
 intro r
 induction r with
 | nil =>
  intro k s H h1 h2 hp
  have hk := drop_nil_len h1 h2
  rw [om_turn]
  simp [evl210_0, b210_0, intBin, hk, Ex.partss, runS, hp, hy]
  exact KeptN.refl _ _
 | cons a r ihr =>
  intro k s H h1 h2 hp
  obtain ⟨hlt, ha, hr⟩ := drop_cons h1
  have hlt' : (k : Int) < e.args.l.length := by omega
  have hak : e.args.l[k] = a := (gEs.1 ha).2
  have hw := wrap_succ (k := k) (by omega)
  have e1 := ih a (mem_of_drop h1) s (H ++ [.arr 0 5 false [a.av]]) (hP _ _ _ hp)
  obtain ⟨v, H1, c1, c2, c3⟩ := okV_iff.1 e1
  rw [om_turn]
  simp only [Ex.partss, runS_append]
  cases hrun : runS step a.parts s with
  | inr z =>
   rw [hrun] at c3
   obtain ⟨rfl, c4⟩ := c3
   simp [evl210_0, b210_0, intBin, hlt, hak, c1, hy]
   exact ⟨(KeptN.append _ _ _).trans c2, c4⟩
  | inl s' =>
   rw [hrun] at c3
   obtain ⟨rfl, c4⟩ := c3
   have hJ := ihr (k + 1) s' H1 hr (by omega) c4
   simp only [Int.natCast_add, Int.cast_ofNat_Int] at hJ
   obtain ⟨x, F', H', g1, g2, g3⟩ := okC_iff.1 hJ
   simp [evl210_0, b210_0, intBin, hlt, hak, c1, hy, hw, g1]
   refine ⟨((KeptN.append _ _ _).trans c2).trans g2, ?_⟩
   simpa using g3
theorem visit_ok {σ ρ : Type} (y : AV) (hy : okO y = some y) (P : σ → Heap → Prop) (Q : ρ → Heap → Prop) (step : Ex → σ → σ ⊕ ρ) (hP : ∀ s H B, P s H → P s (H ++ [B]))
  (hstep : ∀ x s H, P s H → okV (W.call y [x.av] H) (yieldR (α := Ex) 5 P Q (step x s) H)) :
  ∀ (e : Ex), e.size ≤ 1000000000 → ∀ (s : σ) (H : Heap), P s H → okV (W.call (.clo 210 [] []) [e.av, y] H) (yieldR (α := Ex) 5 P Q (runS step e.parts s) H) := by
 refine Ex.ind (fun e ih => ?_)
 intro hs s H hp
 rw [W_call Φ210, Ex.parts_eq]
 simp only [runS]
 have e1 := hstep e s (H ++ [.arr 0 5 false [e.av]]) (hP _ _ _ hp)
 obtain ⟨v, H1, c1, c2, c3⟩ := okV_iff.1 e1
 have hbox : H1[H.length]? = some (.arr 0 5 false [e.av]) := c2.2 H.length [e.av] (by simp)
 cases hst : step e s with
 | inr z =>
  rw [hst] at c3
  obtain ⟨rfl, c4⟩ := c3
  simp [fi210, c210, evFun, enterFr, intBin, resV, rvVs, rvV, c1, hy]
  exact ⟨(KeptN.append _ _ _).trans c2, rfl, c4⟩
 | inl s' =>
  rw [hst] at c3
  obtain ⟨rfl, c4⟩ := c3
  have hL := loop210 e hs y hy P Q step hP (fun x hx s H hp => ih x hx (by have := Ex.mem_size hx; rw [Ex.size_eq] at hs; omega) s H hp) e.args.l 0 s' H1 rfl (by omega) c4
  simp only [Int.natCast_zero] at hL
  obtain ⟨x, F', H', g1, g2, g3⟩ := okC_iff.1 hL
  have hk := ((KeptN.append 5 H (.arr 0 5 false [e.av])).trans c2).trans g2
  cases hrun : runS step (Ex.partss e.args.l) s' with
  | inl s'' =>
   rw [hrun] at g3
   obtain ⟨rfl, g4⟩ := g3
   simp [fi210, c210, evFun, enterFr, intBin, resV, rvVs, rvV, c1, hy, hbox, g1, app_last, -getElem?_pos, gEz]
   refine ⟨hk, ?_⟩
   rw [hrun]
   exact ⟨rfl, g4⟩
  | inr z =>
   rw [hrun] at g3
   obtain ⟨rfl, g4, g5⟩ := g3
   simp [fi210, c210, evFun, enterFr, intBin, resV, rvVs, rvV, c1, hy, hbox, g1, g4, app_last, -getElem?_pos, gEz]
   refine ⟨hk, ?_⟩
   rw [hrun]
   exact ⟨rfl, g5⟩
end Go.Proofs.YtddpboiceemihaaGreatDoor
end
section
namespace Go.Proofs.YtddpboiceemihaaGreatDoor
open Go Go.RowKit
set_option linter.unusedVariables false
set_option linter.unusedSimpArgs false
set_option maxRecDepth 10000
abbrev opNum (f : Nat) : AV := .clo 272 [] [.eptr [.clo f [] []]]
abbrev opTru (f : Nat) : AV := .clo 272 [] [.eptr [.clo 275 [] [.eptr [.clo f [] []]]]]
abbrev opDvd (f : Nat) : AV := .clo 274 [] [.eptr [.clo f [] []]]
abbrev opCell (s : List UInt8) (p a r : Int) (f : AV) : AV := .agg [.str s, I p, I a, I r, f]
def opKeys : List AV := [I 3, I 4, I 5, I 6, I 7, I 8, I 9, I 10, I 11, I 12, I 13, I 14, I 15]
def opVals : List AV := [opCell [43] 4 1 1 (opNum 230), opCell [45] 4 1 1 (opNum 231), opCell [42] 5 1 1 (.clo 232 [] []), opCell [47] 5 1 1 (opDvd 234), opCell [37] 5 1 1 (opDvd 235),
 opCell [61, 61] 3 0 2 (opTru 237), opCell [33, 61] 3 0 2 (opTru 238), opCell [60] 3 1 2 (opTru 239), opCell [60, 61] 3 1 2 (opTru 240), opCell [62] 3 1 2 (opTru 241), opCell [62, 61] 3 1 2 (opTru 242), opCell [38, 38] 2 2 2 (opTru 243), opCell [124, 124] 1 2 2 (opTru 244)]
theorem e211 : W.pure 211 [] = some (.imap opKeys opVals) := (le_om 60).pure _ _ _ (by kernel_rfl)
def opSign (n : Int) : List UInt8 := if n = 3 then [43] else if n = 4 then [45] else if n = 5 then [42] else if n = 6 then [47] else if n = 7 then [37] else if n = 8 then [61, 61] else if n = 9 then [33, 61] else if n = 10 then [60] else if n = 11 then [60, 61] else if n = 12 then [62] else if n = 13 then [62, 61] else if n = 14 then [38, 38] else if n = 15 then [124, 124] else []
def opPrec (n : Int) : Int := if n = 3 ∨ n = 4 then 4 else if n = 5 ∨ n = 6 ∨ n = 7 then 5 else if 8 ≤ n ∧ n ≤ 13 then 3 else if n = 14 then 2 else if n = 15 then 1 else 0
def opArg (n : Int) : Int := if 3 ≤ n ∧ n ≤ 7 then 1 else if n = 8 ∨ n = 9 then 0 else if 10 ≤ n ∧ n ≤ 13 then 1 else if n = 14 ∨ n = 15 then 2 else 0
def opRes (n : Int) : Int := if 3 ≤ n ∧ n ≤ 7 then 1 else if 8 ≤ n ∧ n ≤ 15 then 2 else 0
def opFn (n : Int) : AV := if n = 3 then opNum 230 else if n = 4 then opNum 231 else if n = 5 then .clo 232 [] [] else if n = 6 then opDvd 234 else if n = 7 then opDvd 235 else if n = 8 then opTru 237 else if n = 9 then opTru 238 else if n = 10 then opTru 239 else if n = 11 then opTru 240 else if n = 12 then opTru 241 else if n = 13 then opTru 242 else if n = 14 then opTru 243 else if n = 15 then opTru 244 else .nilf
def opV (n : Int) : AV := opCell (opSign n) (opPrec n) (opArg n) (opRes n) (opFn n)
theorem findK_int (n m : Int) (v : AV) (r : List (AV × AV)) (i : Nat) : findK 0 (.int .i64 n) ((I m, v) :: r) i = if n = m then some (some (i, v)) else findK 0 (.int .i64 n) r (i + 1) := by
 simp only [findK, eqCell, if_true]
 by_cases h : n = m <;> simp [h]
theorem findK_nil (q : Nat) (k : AV) (i : Nat) : findK q k [] i = some none := rfl
theorem opFn_kind (n : Int) : (∃ f b, opFn n = .clo f [] b) ∨ opFn n = .nilf := by
 unfold opFn
 by_cases h3 : n = 3
 ·exact .inl ⟨_, _, if_pos h3⟩
 rw [if_neg h3]
 by_cases h4 : n = 4
 ·exact .inl ⟨_, _, if_pos h4⟩
 rw [if_neg h4]
 by_cases h5 : n = 5
 ·exact .inl ⟨_, _, if_pos h5⟩
 rw [if_neg h5]
 by_cases h6 : n = 6
 ·exact .inl ⟨_, _, if_pos h6⟩
 rw [if_neg h6]
 by_cases h7 : n = 7
 ·exact .inl ⟨_, _, if_pos h7⟩
 rw [if_neg h7]
 by_cases h8 : n = 8
 ·exact .inl ⟨_, _, if_pos h8⟩
 rw [if_neg h8]
 by_cases h9 : n = 9
 ·exact .inl ⟨_, _, if_pos h9⟩
 rw [if_neg h9]
 by_cases h10 : n = 10
 ·exact .inl ⟨_, _, if_pos h10⟩
 rw [if_neg h10]
 by_cases h11 : n = 11
 ·exact .inl ⟨_, _, if_pos h11⟩
 rw [if_neg h11]
 by_cases h12 : n = 12
 ·exact .inl ⟨_, _, if_pos h12⟩
 rw [if_neg h12]
 by_cases h13 : n = 13
 ·exact .inl ⟨_, _, if_pos h13⟩
 rw [if_neg h13]
 by_cases h14 : n = 14
 ·exact .inl ⟨_, _, if_pos h14⟩
 rw [if_neg h14]
 by_cases h15 : n = 15
 ·exact .inl ⟨_, _, if_pos h15⟩
 rw [if_neg h15]
 exact .inr rfl
@[simp] theorem opFn_cells (n : Int) : (opFn n).cells = [opFn n] := by rcases opFn_kind n with ⟨f, b, h⟩ | h <;> rw [h] <;> rfl
@[simp] theorem opFn_cell (n : Int) : (opFn n).cell = true := by rcases opFn_kind n with ⟨f, b, h⟩ | h <;> rw [h] <;> rfl
@[simp] theorem opFn_ok (n : Int) : okO (opFn n) = some (opFn n) := by rcases opFn_kind n with ⟨f, b, h⟩ | h <;> rw [h] <;> rfl
theorem op_find (n : Int) : findK 0 (.int .i64 n) (opKeys.zip opVals) 0 = if 3 ≤ n ∧ n ≤ 15 then some (some ((n - 3).toNat, opV n)) else some none := by
 simp only [opKeys, opVals, List.zip_cons_cons, List.zip_nil_right, findK_int, findK_nil]
 by_cases h : 3 ≤ n ∧ n ≤ 15
 ·have hn : n = 3 ∨ n = 4 ∨ n = 5 ∨ n = 6 ∨ n = 7 ∨ n = 8 ∨ n = 9 ∨ n = 10 ∨ n = 11 ∨ n = 12 ∨ n = 13 ∨ n = 14 ∨ n = 15 := by omega
  rcases hn with rfl | rfl | rfl | rfl | rfl | rfl | rfl | rfl | rfl | rfl | rfl | rfl | rfl <;> rfl
 ·rw [if_neg h]
  rw [if_neg (by omega)]
  rw [if_neg (by omega)]
  rw [if_neg (by omega)]
  rw [if_neg (by omega)]
  rw [if_neg (by omega)]
  rw [if_neg (by omega)]
  rw [if_neg (by omega)]
  rw [if_neg (by omega)]
  rw [if_neg (by omega)]
  rw [if_neg (by omega)]
  rw [if_neg (by omega)]
  rw [if_neg (by omega)]
  rw [if_neg (by omega)]
theorem opV_none {n : Int} (h : ¬ (3 ≤ n ∧ n ≤ 15)) : findK 0 (.int .i64 n) (opKeys.zip opVals) 0 = some none := by rw [op_find, if_neg h]
theorem opV_some {n : Int} (h : 3 ≤ n ∧ n ≤ 15) : findK 0 (.int .i64 n) (opKeys.zip opVals) 0 = some (some ((n - 3).toNat, opV n)) := by rw [op_find, if_pos h]
set_option maxHeartbeats 4000000 in
theorem e184 (e : Ex) : W.pure 184 [e.av] = some (I (exPart e)) := by
 rw [W_pure Φ184 (by simp)]
 by_cases hr : e.kind < 1 ∨ 4 < e.kind
 ·simp [fi184, c184, evFun, enterFr, intBin, resV, rvVs, rvV, exPart, hr]
 ·have hk : e.kind = 1 ∨ e.kind = 2 ∨ e.kind = 3 ∨ e.kind = 4 := by omega
  have n1 := e212 e.name
  have n2 := e211
  have f0 := opV_none (n := 0) (by omega)
  have f1 := opV_none (n := 1) (by omega)
  have f2 := opV_none (n := 2) (by omega)
  rcases hk with hk | hk | hk | hk
  ·by_cases a1 : e.name = [] <;> by_cases a2 : e.op = 0 <;> by_cases a3 : e.args.l = [] <;> by_cases a4 : e.value < 0 ∨ 1099511627776 < e.value <;>
    simp [fi184, c184, evFun, enterFr, intBin, resV, rvVs, rvV, exPart, exShape, strBin, hk, a1, a2, a3, a4, n2, f0, apart]
  ·by_cases a1 : e.value = 0 <;> by_cases a2 : e.op = 0 <;> by_cases a3 : e.args.l = [] <;> cases a4 : isNm e.name <;>
    simp [fi184, c184, evFun, enterFr, intBin, resV, rvVs, rvV, exPart, exShape, strBin, hk, a1, a2, a3, a4, n1, n2, f0, apart]
  ·by_cases hop : 3 ≤ e.op ∧ e.op ≤ 15
   ·have f3 := opV_some hop
    have a4 : e.op ≠ 1 := by omega
    have a5 : e.op ≠ 2 := by omega
    by_cases a1 : e.value = 0 <;> by_cases a2 : e.name = [] <;> by_cases a3 : (e.args.l.length : Int) = 1 <;>
     simp [fi184, c184, evFun, enterFr, intBin, resV, rvVs, rvV, exPart, exShape, strBin, hk, a1, a2, a3, a4, a5, n2, f3, opV, apart]
   ·have f3 := opV_none hop
    by_cases a1 : e.value = 0 <;> by_cases a2 : e.name = [] <;> by_cases a3 : (e.args.l.length : Int) = 1 <;> by_cases a4 : e.op = 1 <;> by_cases a5 : e.op = 2 <;>
     simp [fi184, c184, evFun, enterFr, intBin, resV, rvVs, rvV, exPart, exShape, strBin, hk, a1, a2, a3, a4, a5, n2, f1, f2, f3, apart]
  ·by_cases hop : 3 ≤ e.op ∧ e.op ≤ 15
   ·have f3 := opV_some hop
    have a4 : ¬ (e.op < 3 ∨ 15 < e.op) := by omega
    by_cases a1 : e.value = 0 <;> by_cases a2 : e.name = [] <;> by_cases a3 : (e.args.l.length : Int) = 2 <;>
     simp [fi184, c184, evFun, enterFr, intBin, resV, rvVs, rvV, exPart, exShape, strBin, hk, a1, a2, a3, a4, n2, f3, opV, apart]
   ·have f3 := opV_none hop
    have a4 : e.op < 3 ∨ 15 < e.op := by omega
    by_cases a1 : e.value = 0 <;> by_cases a2 : e.name = [] <;> by_cases a3 : (e.args.l.length : Int) = 2 <;>
     simp [fi184, c184, evFun, enterFr, intBin, resV, rvVs, rvV, exPart, exShape, strBin, hk, a1, a2, a3, a4, n2, f3, apart]
end Go.Proofs.YtddpboiceemihaaGreatDoor
end
section
namespace Go.Proofs.YtddpboiceemihaaGreatDoor
open Go Go.RowKit
set_option linter.unusedVariables false
set_option linter.unusedSimpArgs false
set_option maxRecDepth 10000
theorem runS_err {α : Type} (f : α → Int) (l : List α) : runS (fun x (_ : Unit) => if f x ≠ 0 then .inr (f x) else .inl ()) l () = if errOf f l = 0 then .inl () else .inr (errOf f l) := by
 induction l with
 | nil => rfl
 | cons a r ih =>
  simp only [runS, errOf]
  by_cases h : f a = 0
  ·simp only [h, ne_eq, not_true_eq_false, if_false]; exact ih
  ·simp [h]
theorem e183 (e : Ex) (H : Heap) : W.call (.clo 183 [] []) [e.av] H = some (.clo 209 [] [.optr H.length 0 0 0], H ++ [.arr 0 5 false [e.av]]) := by
 rw [W_call Φ183]
 simp [fi183, c183, evFun, enterFr, intBin, resV, rvVs, rvV]
theorem parts_ok {σ ρ : Type} (e : Ex) (hs : e.size ≤ 1000000000) (b : Nat) (y : AV) (hy : okO y = some y) (P : σ → Heap → Prop) (Q : ρ → Heap → Prop) (step : Ex → σ → σ ⊕ ρ) (hP : ∀ s H B, P s H → P s (H ++ [B]))
  (hstep : ∀ x s H, P s H → okV (W.call y [x.av] H) (yieldR (α := Ex) 5 P Q (step x s) H)) (s : σ) (H : Heap) (hb : H[b]? = some (.arr 0 5 false [e.av])) (hp : P s H) :
  okV (W.call (.clo 209 [] [.optr b 0 0 0]) [y] H) (fun v H' => v = .tuple [] ∧ KeptN 5 H H' ∧ match runS step e.parts s with | .inl s' => P s' H' | .inr z => Q z H') := by
 rw [W_call Φ209]
 obtain ⟨v, H', c1, c2, c3⟩ := okV_iff.1 (visit_ok y hy P Q step hP hstep e hs s H hp)
 have hv : okO v = some v := by
  cases hrun : runS step e.parts s <;> rw [hrun] at c3 <;> rw [c3.1] <;> rfl
 simp [fi209, c209, evFun, enterFr, intBin, resV, rvVs, rvV, hb, hy, c1, hv, app_last, -getElem?_pos, gEz]
 refine ⟨c2, ?_⟩
 cases hrun : runS step e.parts s with
 | inl s' => rw [hrun] at c3; exact c3.2
 | inr z => rw [hrun] at c3; exact c3.2
def K153 (st : LoopState) (pe : Option LX) : Blk := .loop st pe [(2, .optr 1 0 0 0)] [15] ra153_0 rb153_0
theorem round153 (id : Nat) (hid : 1 < id) (x : Ex) (H : Heap) (h : H[id]? = some (K153 .ready none) ∧ H[1]? = some (.arr 0 1 false [I 0])) :
  okV (W.call (.yld id) [x.av] H) (yieldR (α := Ex) 5 (fun (_ : Unit) H => H[id]? = some (K153 .ready none) ∧ H[1]? = some (.arr 0 1 false [I 0])) (fun (c : Int) H => H[id]? = some (K153 .done (some .ret)) ∧ H[1]? = some (.arr 0 1 false [I c])) (if exPart x ≠ 0 then .inr (exPart x) else .inl ()) H) := by
 obtain ⟨h1, h2⟩ := h
 have hl := (gEs.1 h1).1
 rw [W_yld, evRound_open h1 rfl]
 have e1 := e184 x
 have a1 : (H ++ [Blk.arr 0 5 false [x.av]])[id]? = some (K153 .ready none) := app_get h1 _
 have a2 : (H ++ [Blk.arr 0 5 false [x.av]])[H.length]? = some (.arr 0 5 false [x.av]) := app_last _ _
 have a3 : (H ++ [Blk.arr 0 5 false [x.av]])[1]? = some (.arr 0 1 false [I 0]) := app_get h2 _
 have b1 : ∀ B, ((H ++ [Blk.arr 0 5 false [x.av]]).set id B)[id]? = some B := fun B => gEt (by simp; omega)
 have b2 : ∀ B, ((H ++ [Blk.arr 0 5 false [x.av]]).set id B)[H.length]? = some (.arr 0 5 false [x.av]) := fun B => by rw [gEn (by omega)]; exact a2
 have b3 : ∀ B, ((H ++ [Blk.arr 0 5 false [x.av]]).set id B)[1]? = some (.arr 0 1 false [I 0]) := fun B => by rw [gEn (by omega)]; exact a3
 have c1 : ∀ B C, (((H ++ [Blk.arr 0 5 false [x.av]]).set id B).set 1 C)[id]? = some B := fun B C => by rw [gEn (by omega)]; exact b1 B
 have k0 : KeptN 5 H (H ++ [Blk.arr 0 5 false [x.av]]) := KeptN.append _ _ _
 have kS : ∀ st pe B, KeptN 5 ((H ++ [Blk.arr 0 5 false [x.av]]).set id (K153 st pe)) (((H ++ [Blk.arr 0 5 false [x.av]]).set id (K153 st pe)).set id B) := fun st pe B => KeptN.set (b1 _) (by intro es e; cases e)
 simp only [K153] at *
 by_cases hz : exPart x = 0
 ·simp only [hz, ne_eq, not_true_eq_false, if_false]
  simp [putAll, evra153_0, xra153_0, evrb153_0, xrb153_0, intBin, a1, a2, b1, b2, b3, e1, hz, app_last, -getElem?_pos, gEz, -List.append_assoc]
  refine ⟨k0.trans (KeptN.set a1 (by intro es e; cases e)), rfl, gEt (by simp; omega), ?_⟩
  rw [gEn (by omega)]; exact a3
 ·simp only [hz, ne_eq, not_false_eq_true, if_true]
  simp [putAll, evra153_0, xra153_0, evrb153_0, xrb153_0, intBin, a1, a2, b1, b2, b3, c1, e1, hz, app_last, -getElem?_pos, gEz, -List.append_assoc]
  refine ⟨?_, rfl, gEt (by simp; omega), ?_⟩
  ·refine (k0.trans (KeptN.set a1 (by intro es e; cases e))).trans ((KeptN.set (b3 _) (by intro es e; cases e)).trans (KeptN.set (c1 _ _) (by intro es e; cases e)))
  ·rw [gEn (by omega), gEt (by simp; omega)]
end Go.Proofs.YtddpboiceemihaaGreatDoor
end
section
namespace Go.Proofs.YtddpboiceemihaaGreatDoor
open Go Go.RowKit
set_option linter.unusedVariables false
set_option linter.unusedSimpArgs false
set_option maxRecDepth 10000
theorem e153 (e : Ex) : W.pure 153 [e.av] = some (I (exCheck e)) := by
 rw [W_pure Φ153 (by simp)]
 have e1 := e182 e 2 0 1 0 [.arr 0 5 false [e.av], .arr 0 1 false [I 0], .arr 0 1 false [I 0]] (by omega) (by omega) rfl
 obtain ⟨v, H1, c1, c2, c3, m, rfl, c4, c5⟩ := okV_iff.1 e1
 simp only [Int.natCast_zero, Int.cast_ofNat_Int, Int.natCast_one, Nat.zero_add] at c1 c2
 have g0 : H1[0]? = some (.arr 0 5 false [e.av]) := c3.get (by simp) rfl
 have g1 : H1[1]? = some (.arr 0 1 false [I 0]) := c3.get (by simp) rfl
 have hlen : 3 ≤ H1.length := c3.1
 by_cases h1 : 100 < e.size
 ·have hm : min e.size 101 = 101 := by omega
  rw [hm] at c2
  have s1 : ∀ B, (H1.set 1 B)[1]? = some B := fun B => gEt (by omega)
  simp [fi153, c153, evFun, enterFr, intBin, resV, rvVs, rvV, c1, c2, g0, g1, s1, exCheck, h1, -getElem?_pos, gEz]
 ·have hm : min e.size 101 = e.size := by omega
  rw [hm] at c2
  have h1' : ¬ (100 : Int) < e.size := by omega
  have hmd : m = e.depth := by have := c5 (by omega); omega
  subst hmd
  by_cases h2 : 12 < e.depth
  ·have h2' : (12 : Int) < e.depth := by omega
   have s1 : ∀ B, (H1.set 1 B)[1]? = some B := fun B => gEt (by omega)
   simp [fi153, c153, evFun, enterFr, intBin, resV, rvVs, rvV, c1, c2, g0, g1, s1, exCheck, h1, h1', h2, h2', -getElem?_pos, gEz]
  ·have h2' : ¬ (12 : Int) < e.depth := by omega
   have p1 := e183 e H1
   have q0 : (H1 ++ [Blk.arr 0 5 false [e.av]] ++ [K153 .ready none])[H1.length]? = some (.arr 0 5 false [e.av]) := by
    rw [List.append_assoc, List.getElem?_append_right (by omega)]; simp
   have q1 : (H1 ++ [Blk.arr 0 5 false [e.av]] ++ [K153 .ready none])[H1.length + 1]? = some (K153 .ready none) := by
    rw [List.append_assoc, List.getElem?_append_right (by omega)]; simp
   have q2 : (H1 ++ [Blk.arr 0 5 false [e.av]] ++ [K153 .ready none])[1]? = some (.arr 0 1 false [I 0]) := app_get (app_get g1 _) _
   have hp := parts_ok e (by omega) H1.length (.yld (H1.length + 1)) rfl
    (fun (_ : Unit) H => H[H1.length + 1]? = some (K153 .ready none) ∧ H[1]? = some (.arr 0 1 false [I 0])) (fun (c : Int) H => H[H1.length + 1]? = some (K153 .done (some .ret)) ∧ H[1]? = some (.arr 0 1 false [I c]))
    (fun x (_ : Unit) => if exPart x ≠ 0 then .inr (exPart x) else .inl ()) (by intro s H B h; exact ⟨app_get h.1 B, app_get h.2 B⟩) (fun x s H h => round153 (H1.length + 1) (by omega) x H h) () _ q0 ⟨q1, q2⟩
   obtain ⟨v, H', d1, rfl, d2, d3⟩ := okV_iff.1 hp
   rw [runS_err] at d3
   have hlen' : H1.length + 1 < H'.length := by
    have := d2.1; simp at this; omega
   simp only [K153] at d1 d3
   by_cases hz : errOf exPart e.parts = 0
   ·rw [if_pos hz] at d3
    obtain ⟨d3, d4⟩ := d3
    have s1 : ∀ B, (H'.set (H1.length + 1) B)[1]? = some (.arr 0 1 false [I 0]) := fun B => by rw [gEn (by omega)]; exact d4
    have s2 : ∀ B C, ((H'.set (H1.length + 1) B).set 1 C)[1]? = some C := fun B C => gEt (by simp; omega)
    simp [fi153, c153, evFun, enterFr, intBin, resV, rvVs, rvV, c1, c2, g0, g1, p1, d1, d3, rngEnd, s1, s2, exCheck, h1, h1', h2, h2', hz, -getElem?_pos, gEz, -List.append_assoc]
   ·rw [if_neg hz] at d3
    obtain ⟨d3, d4⟩ := d3
    have s1 : ∀ B, (H'.set (H1.length + 1) B)[1]? = some (.arr 0 1 false [I (errOf exPart e.parts)]) := fun B => by rw [gEn (by omega)]; exact d4
    simp [fi153, c153, evFun, enterFr, intBin, resV, rvVs, rvV, c1, c2, g0, g1, p1, d1, d3, rngEnd, s1, exCheck, h1, h1', h2, h2', hz, -getElem?_pos, gEz, -List.append_assoc]
end Go.Proofs.YtddpboiceemihaaGreatDoor
end
