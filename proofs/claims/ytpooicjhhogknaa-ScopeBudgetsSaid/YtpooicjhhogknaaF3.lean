/-
  Plain functions for the program's, part 3: Chain, Within, Cause (conditions: none).
-/
import Derived.Test.YtpooicjhhogknaaF2
namespace Go.Proofs.Ytpooicjhhogknaa
open Go Go.RowKit
set_option linter.unusedVariables false
set_option linter.unusedSimpArgs false
set_option maxRecDepth 10000

def ints (l : List Int) : AV := match l with | [] => .isl (some true) 0 [] | a :: r => .isl (some false) 1 ((a :: r).map I)
def colL : Blk := .loop .ready none [(2, .optr 2 0 0 0), (4, .isl (some true) 0 [])] [7] ra59_0 rb59_0
def colSt (nl : Option Bool) (l : List Sc) (acc : List Int) (i : Int) : Heap :=
  match acc with
  | [] => [.arr 0 1 false [scs nl l], .arr 0 1 false [I i], .arr 0 1 false [.isl (some true) 0 []], colL]
  | a :: r => [.arr 0 1 false [scs nl l], .arr 0 1 false [I i], .arr 0 1 false [.osl 4 r.length 0 (r.length + 1)], colL, .arr r.length 1 false ((a :: r).map I)]
theorem colWalk (nl : Option Bool) (l : List Sc) : Walk l nl 3 0 1 (colSt nl l) (fun _ _ => true) (fun acc i => acc ++ [i]) (fun n acc => acc.length + n ≤ 40) := by
  refine ⟨?_, ?_, ?_, ?_, ?_⟩
  · intro s i; cases s <;> rfl
  · intro s i; cases s <;> rfl
  · intro s i i'; cases s <;> rfl
  · intro n s i h _; simp; omega
  · intro n s i h hi hi2
    cases s with
    | nil => simp [colSt, colL, evRound, putAll, exApp, truncH, evra59_0, xra59_0, evrb59_0, xrb59_0, loadV, ldCells, ex, bslE, elemsOf, appRoom, setElem]
    | cons a r =>
      have hr : r.length + 1 + 1 ≤ appRoom := by simp at h; simp [appRoom]; omega
      simp [colSt, colL, evRound, putAll, exApp, truncH, evra59_0, xra59_0, evrb59_0, xrb59_0, loadV, ldCells, ex, bslE, elemsOf, setElem, hr]
theorem foldU_true {σ : Type} (nx : σ → Int → σ) : ∀ (l : List Int) (s : σ), foldU (fun _ _ => true) nx l s = (l.foldl nx s, none) := by
  intro l
  induction l with
  | nil => intro s; rfl
  | cons a r ih => intro s; simp [foldU, ih]
theorem foldl_snoc : ∀ (l acc : List Int), l.foldl (fun acc i => acc ++ [i]) acc = acc ++ l := by
  intro l
  induction l with
  | nil => intro acc; simp
  | cons a r ih => intro acc; simp [ih]
theorem up_len (l : List Sc) : ∀ (n : Nat) (i : Int), (up l n i).length ≤ n := by
  intro n
  induction n with
  | zero => intro i; simp [up]
  | succ n ih => intro i; unfold up; split <;> simp; exact ih _
theorem chainL_len (l : List Sc) (i : Int) : (chainL l i).length ≤ l.length := by
  unfold chainL; split
  · exact up_len l _ _
  · simp
theorem e15 (nl : Option Bool) (l : List Sc) (i : Int) (hl : l.length ≤ 40) : W.pure 15 [scs nl l, I i] = some (ints (chainL l i)) := by
  rw [W_pure Φ15 rfl]
  have h := call60 (colWalk nl l) i [] (by simpa using hl)
  rw [foldU_true, foldl_snoc] at h
  simp only [colSt, colL, endU, List.nil_append] at h
  by_cases hc : locate l i = 0
  · rw [if_pos hc] at h
    generalize chainL l i = c at h ⊢
    cases c with
    | nil => 
      simp only [colSt, colL] at h
      simp [fi15, c15, evFun, enterFr, resV, rvVs, rvV, W_call Φ43, W_call Φ42, W_call Φ59, fi43, c43, fi42, c42, fi59, c59, h, rngEnd, loadV, ldCells, ints]
    | cons a r =>
      simp only [colSt, colL] at h
      simp [fi15, c15, evFun, enterFr, resV, rvVs, rvV, W_call Φ43, W_call Φ42, W_call Φ59, fi43, c43, fi42, c42, fi59, c59, h, rngEnd, loadV, ldCells, ints]
      exact frz_full (n := 7) rfl (by simp) (by simp)
  · rw [if_neg hc] at h
    have : chainL l i = [] := by simp [chainL, hc]
    rw [this]
    simp [fi15, c15, evFun, enterFr, resV, rvVs, rvV, W_call Φ43, W_call Φ42, W_call Φ59, fi43, c43, fi42, c42, fi59, c59, h, rngEnd, loadV, ldCells, ints]

def within (l : List Sc) (i j : Int) : Bool := decide (j ∈ chainL l i)
def witL (st : LoopState) (pe : Option LX) : Blk := .loop st pe [(5, .optr 0 0 0 0), (6, .optr 1 0 0 0)] [11] ra17_0 rb17_0
def witSt (nl : Option Bool) (l : List Sc) (j : Int) (f : Bool) (i : Int) : Heap :=
  [.arr 0 1 false [I j], .arr 0 1 false [.bool f], .arr 0 1 false [scs nl l], .arr 0 1 false [I i], if f then witL .done (some .ret) else witL .ready none]
theorem witWalk (nl : Option Bool) (l : List Sc) (j : Int) : Walk l nl 4 2 3 (witSt nl l j) (fun _ i => !decide (i = j)) (fun _ i => decide (i = j)) (fun _ f => f = false) := by
  refine ⟨fun s i => rfl, fun s i => rfl, fun s i i' => rfl, ?_, ?_⟩
  · intro n s i h hg; simpa using hg
  · intro n s i h hi hi2
    subst h
    by_cases hij : i = j <;> simp [witSt, witL, evRound, putAll, exApp, truncH, evra17_0, xra17_0, evrb17_0, xrb17_0, loadV, ldCells, ex, setElem, intBin, hij]
theorem foldU_wit (j : Int) : ∀ (l : List Int), foldU (fun (_ : Bool) i => !decide (i = j)) (fun _ i => decide (i = j)) l false = if j ∈ l then (true, some j) else (false, none) := by
  intro l
  induction l with
  | nil => rfl
  | cons a r ih =>
    by_cases h : a = j
    · subst h; simp [foldU]
    · have : ¬ j = a := fun e => h e.symm
      simp [foldU, h, ih, this]
theorem e17 (nl : Option Bool) (l : List Sc) (i j : Int) : W.pure 17 [scs nl l, I i, I j] = some (.bool (within l i j)) := by
  rw [W_pure Φ17 rfl]
  have h := call60 (witWalk nl l j) i false rfl
  rw [foldU_wit] at h
  have hcl : locate l i ≠ 0 → chainL l i = [] := fun h => by simp [chainL, h]
  have h' : W.call (.clo 60 [] [.optr 2 0 0 0, .optr 3 0 0 0]) [.yld 4] (witSt nl l j false i) = some (.tuple [], if j ∈ chainL l i then witSt nl l j true j else witSt nl l j false (if locate l i = 0 then -1 else i)) := by
    rw [h]
    by_cases hc : locate l i = 0
    · simp only [if_pos hc]
      by_cases hj : j ∈ chainL l i <;> simp [hj, endU]
    · simp [hc, hcl hc]
  simp only [witSt, witL, Bool.false_eq_true, if_false, if_true] at h'
  unfold within
  by_cases hj : j ∈ chainL l i
  · simp only [if_pos hj] at h'
    simp [fi17, c17, evFun, enterFr, resV, rvVs, rvV, W_call Φ43, fi43, c43, h', rngEnd, loadV, ldCells, hj]
  · simp only [if_neg hj] at h'
    simp [fi17, c17, evFun, enterFr, resV, rvVs, rvV, W_call Φ43, fi43, c43, h', rngEnd, loadV, ldCells, hj, ex, setElem]

def reasonAt (l : List Sc) (i : Int) : Int := match l[i.toNat]? with | some s => s.reason | none => 0
def cauNx (l : List Sc) (s i : Int) : Int := if reasonAt l i = 0 then s else i
def cause (l : List Sc) (i : Int) : Int := (chainL l i).foldl (cauNx l) (-1)
def cauL : Blk := .loop .ready none [(2, .optr 0 0 0 0), (4, I 0), (5, .optr 1 0 0 0)] [10] ra21_0 rb21_0
def cauSt (nl : Option Bool) (l : List Sc) (s : Int) (i : Int) : Heap :=
  [.arr 0 1 false [scs nl l], .arr 0 1 false [I s], .arr 0 1 false [scs nl l], .arr 0 1 false [I i], cauL]
theorem cauWalk (nl : Option Bool) (l : List Sc) : Walk l nl 4 2 3 (cauSt nl l) (fun _ _ => true) (cauNx l) (fun _ _ => True) := by
  refine ⟨fun s i => rfl, fun s i => rfl, fun s i i' => rfl, fun _ _ _ _ _ => trivial, ?_⟩
  intro n s i h hi hi2
  obtain ⟨k, rfl⟩ : ∃ k : Nat, i = k := ⟨i.toNat, by omega⟩
  have hk : k < l.length := by omega
  obtain ⟨x, hx⟩ : ∃ x, l[k] = x := ⟨_, rfl⟩
  have hra : reasonAt l k = x.reason := by simp [reasonAt, hk, hx]
  by_cases h0 : x.reason = 0 <;> simp [cauSt, cauL, cauNx, evRound, putAll, exApp, truncH, evra21_0, xra21_0, evrb21_0, xrb21_0, loadV, ldCells, ex, setElem, intBin, hk, hx, hra, h0, fldV]
theorem e21 (nl : Option Bool) (l : List Sc) (i : Int) : W.pure 21 [scs nl l, I i] = some (I (cause l i)) := by
  rw [W_pure Φ21 rfl]
  have h := call60 (cauWalk nl l) i (-1) trivial
  rw [foldU_true] at h
  have hcl : locate l i ≠ 0 → chainL l i = [] := fun h => by simp [chainL, h]
  have h' : W.call (.clo 60 [] [.optr 2 0 0 0, .optr 3 0 0 0]) [.yld 4] (cauSt nl l (-1) i) = some (.tuple [], cauSt nl l (cause l i) (if locate l i = 0 then -1 else i)) := by
    rw [h]
    by_cases hc : locate l i = 0
    · simp only [if_pos hc]; rfl
    · simp [hc, hcl hc, cause]
  simp only [cauSt, cauL] at h'
  generalize cause l i = z at h' ⊢
  simp [fi21, c21, evFun, enterFr, resV, rvVs, rvV, W_call Φ43, fi43, c43, h', rngEnd, loadV, ldCells, ex, setElem]
end Go.Proofs.Ytpooicjhhogknaa
