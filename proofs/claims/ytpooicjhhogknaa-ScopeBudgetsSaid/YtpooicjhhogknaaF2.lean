/-
  Plain functions for the program's, part 2: chains (conditions: none).
-/
import Derived.Test.YtpooicjhhogknaaF1
namespace Go.Proofs.Ytpooicjhhogknaa
open Go Go.RowKit
set_option linter.unusedVariables false
set_option linter.unusedSimpArgs false
set_option maxRecDepth 10000

theorem W_yld (id : Nat) (args : List AV) (H : Heap) : W.call (.yld id) args H = evRound W id args H := by
  rw [om_call]; rfl
def great (l : List Sc) : Bool := decide (40 < (l.length : Int))
theorem e12 (nl : Option Bool) (l : List Sc) : W.pure 12 [scs nl l] = some (.bool (great l)) := by
  rw [W_pure Φ12 rfl]
  simp [fi12, c12, evFun, enterFr, intBin, resV, rvVs, rvV, lenV, scs, great]

theorem checkFrom_mem (l : List Sc) : ∀ (r : List Sc) (k : Nat), checkFrom l r k = 0 → ∀ (j : Nat) (s : Sc), r[j]? = some s → numbersB ((k + j : Nat) : Int) s = true := by
  intro r
  induction r with
  | nil => intro k _ j s h; simp at h
  | cons x r ih =>
    intro k h j s hj
    simp only [checkFrom] at h
    split at h
    · cases h
    · rename_i hn
      split at h
      · cases h
      · cases j with
        | zero => simp at hj; subst hj; simpa using hn
        | succ j =>
          have := ih (k + 1) h j s (by simpa using hj)
          rw [show k + (j + 1) = k + 1 + j by omega]; exact this
theorem check_len {l : List Sc} (h : check l = 0) : 1 ≤ l.length ∧ l.length ≤ 32 := by
  unfold check at h
  split at h
  · cases h
  · omega
theorem check_num {l : List Sc} (h : check l = 0) {j : Nat} {s : Sc} (hj : l[j]? = some s) : numbersB (j : Int) s = true := by
  have h1 := check_len h
  unfold check at h
  rw [if_neg (by omega)] at h
  simpa using checkFrom_mem l l 0 h j s hj
theorem check_par {l : List Sc} (h : check l = 0) {j : Nat} {s : Sc} (hj : l[j]? = some s) : -1 ≤ s.parent ∧ s.parent < j ∧ (j = 0 → s.parent = -1) ∧ (0 < j → 0 ≤ s.parent) := by
  have := check_num h hj
  simp [numbersB] at this
  omega
/-- The parent of scope i. -/
def par (l : List Sc) (i : Int) : Int := match l[i.toNat]? with | some s => s.parent | none => -1
def up (l : List Sc) : Nat → Int → List Int
  | 0, _ => []
  | n + 1, i => if i < 0 then [] else i :: up l n (par l i)
def chainL (l : List Sc) (i : Int) : List Int := if locate l i = 0 then up l l.length i else []

/-- A walk up a chain, as long as the rounds say so. -/
def foldU {σ : Type} (go : σ → Int → Bool) (nx : σ → Int → σ) : List Int → σ → σ × Option Int
  | [], s => (s, none)
  | i :: r, s => if go s i then foldU go nx r (nx s i) else (nx s i, some i)

/-- Memory alone is left. -/
def onlyH (x : Option (LX × Fr × Heap)) : Option (LX × Heap) := x.map fun p => (p.1, p.2.2)
@[simp] theorem onlyH_some (x : LX) (F : Fr) (H : Heap) : onlyH (some (x, F, H)) = some (x, H) := rfl

theorem of_onlyH {x : Option (LX × Fr × Heap)} {y : LX} {H : Heap} (h : onlyH x = some (y, H)) : ∃ F, x = some (y, F, H) := by
  cases x with
  | none => cases h
  | some p =>
    obtain ⟨a, b, c⟩ := p
    simp only [onlyH_some, Option.some.injEq, Prod.mk.injEq] at h
    obtain ⟨rfl, rfl⟩ := h
    exact ⟨b, rfl⟩
/-- Memory when the walk is over. -/
def endU {σ : Type} (st : σ → Int → Heap) (x : σ × Option Int) : Heap := match x with | (s', none) => st s' (-1) | (s', some i') => st s' i'
def endX {σ : Type} (x : σ × Option Int) : LX := match x.2 with | none => .normal | some _ => .ret

/-- What is asked of memory and of the rounds on a walk up a chain. -/
structure Walk {σ : Type} (l : List Sc) (nl : Option Bool) (y p q : Nat) (st : σ → Int → Heap) (go : σ → Int → Bool) (nx : σ → Int → σ) (ok : Nat → σ → Prop) : Prop where
  hp : ∀ s i, (st s i)[p]? = some (.arr 0 1 false [scs nl l])
  hq : ∀ s i, (st s i)[q]? = some (.arr 0 1 false [I i])
  hset : ∀ s i i', (st s i).set q (.arr 0 1 false [I i']) = st s i'
  hok : ∀ n s i, ok (n + 1) s → go s i = true → ok n (nx s i)
  hround : ∀ n s (i : Int), ok (n + 1) s → 0 ≤ i → i < (l.length : Int) → evRound W y [I i] (st s i) = some (.bool (go s i), st (nx s i) i)

theorem loop60 {σ : Type} {l : List Sc} {nl : Option Bool} (hc : check l = 0) {y p q : Nat} {st : σ → Int → Heap} {go : σ → Int → Bool} {nx : σ → Int → σ} {ok : Nat → σ → Prop} (hw : Walk l nl y p q st go nx ok) :
    ∀ (n : Nat) (i : Int) (s : σ), ok n s → -1 ≤ i → i < n → n ≤ l.length → 
      onlyH ((W.loop [0, 1, 2] l60_0 [(0, .yld y), (1, .optr p 0 0 0), (2, .optr q 0 0 0)] (st s i)).map (blockC 0 [])) = some (endX (foldU go nx (up l n i) s), endU st (foldU go nx (up l n i) s)) := by
  have hp := hw.hp
  have hq := hw.hq
  have hset := hw.hset
  intro n
  induction n with
  | zero =>
    intro i s hs h1 h2 h3
    have : i = -1 := by omega
    subst this
    rw [om_turn]
    simp [evl60_0, b60_0, intBin, loadV, ldCells, hq, up, foldU, endX, endU]
  | succ n ih =>
    intro i s hs h1 h2 h3
    by_cases hi : i = -1
    · subst hi
      rw [om_turn]
      simp [evl60_0, b60_0, intBin, loadV, ldCells, hq, up, foldU, endX, endU]
    · obtain ⟨k, rfl⟩ : ∃ k : Nat, i = k := ⟨i.toNat, by omega⟩
      have hk : k < l.length := by omega
      have hk0 : ¬ (k : Int) < 0 := by omega
      obtain ⟨x, hx⟩ : ∃ x, l[k] = x := ⟨_, rfl⟩
      have hx' : l[k]? = some x := by rw [List.getElem?_eq_getElem hk, hx]
      obtain ⟨p1, p2, p3, p4⟩ := check_par hc hx'
      have hpar : par l k = x.parent := by simp [par, hx']
      have hr := hw.hround n s k hs (by omega) (by omega)
      rw [om_turn]
      cases hg : go s k with
      | false =>
        simp [evl60_0, b60_0, intBin, loadV, ldCells, hq, hp, up, foldU, W_yld, hr, hg, hk0, endX, endU]
      | true =>
        have := ih x.parent (nx s k) (hw.hok n s k hs hg) p1 (by omega) (by omega)
        simp [evl60_0, b60_0, intBin, loadV, ldCells, hq, hp, up, foldU, W_yld, hr, hg, scs, idxaV, hx, hk, fldV, ex, setElem, AV.cell, hset, hpar, hk0, this]

theorem locate_ok {l : List Sc} {i : Int} (h : locate l i = 0) : check l = 0 ∧ 0 ≤ i ∧ i < l.length := by
  unfold locate at h
  split at h
  · cases h
  · rename_i hc
    split at h
    · cases h
    · exact ⟨by simpa using hc, by omega⟩
theorem call60 {σ : Type} {l : List Sc} {nl : Option Bool} {y p q : Nat} {st : σ → Int → Heap} {go : σ → Int → Bool} {nx : σ → Int → σ} {ok : Nat → σ → Prop} (hw : Walk l nl y p q st go nx ok) (i : Int) (s : σ) (hs : ok l.length s) :
    W.call (.clo 60 [] [.optr p 0 0 0, .optr q 0 0 0]) [.yld y] (st s i) = some (.tuple [], if locate l i = 0 then endU st (foldU go nx (chainL l i) s) else st s i) := by
  rw [W_call Φ60]
  have hp := hw.hp
  have hq := hw.hq
  have h44 := e44 nl l i
  by_cases h : locate l i = 0
  · obtain ⟨h1, h2, h3⟩ := locate_ok h
    obtain ⟨F, hF⟩ := of_onlyH (loop60 h1 hw l.length i s hs (by omega) h3 (Nat.le_refl _))
    have hcl : chainL l i = up l l.length i := by simp [chainL, h]
    rw [h] at h44
    rw [if_pos h, hcl]
    generalize foldU go nx (up l l.length i) s = z at hF ⊢
    obtain ⟨s', o⟩ := z
    cases o <;> simp only [endX] at hF <;> simp [fi60, c60, evFun, enterFr, intBin, resV, rvVs, rvV, loadV, ldCells, hp, hq, h44, hF]
  · rw [if_neg h]
    simp [fi60, c60, evFun, enterFr, intBin, resV, rvVs, rvV, loadV, ldCells, hp, hq, h44, h]
end Go.Proofs.Ytpooicjhhogknaa
