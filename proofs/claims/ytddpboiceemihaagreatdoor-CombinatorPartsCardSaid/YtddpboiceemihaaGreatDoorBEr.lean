/-
  Equal lists, by a function on their elements (conditions: none). expr.Equal, and equal statements (conditions: none). syntax.Equal (conditions: none). Sources larger than the statements examine; two lists of procedures joined (conditions: none). combinator.Add (conditions: none). What is valid is equal to itself; parts of what is valid are valid (conditions: none). Arguments with statements in them, read (conditions: none). CombinatorParts: the law as a plain fact (conditions: none).
-/
import Derived.Test.YtddpboiceemihaaGreatDoorABr
import Derived.Test.YtddpboiceemihaaGreatDoorBBr
import Derived.Test.YtddpboiceemihaaGreatDoorACr
section
namespace Go.Proofs.YtddpboiceemihaaGreatDoor
open Go Go.RowKit
set_option linter.unusedVariables false
set_option linter.unusedSimpArgs false
set_option maxRecDepth 10000
theorem eqf126 (x y : Sl Ex) (hl : x.l.length ≤ 9223372036854775807) (f : AV) (hf : okO f = some f) (p : Ex → Ex → Bool) (H0 : Heap)
  (hp : ∀ a ∈ x.l, ∀ b ∈ y.l, ∀ H, Kept none H0 H → okV (W.call f [a.av, b.av] H) (fun v H' => v = .bool (p a b) ∧ Kept none H H')) :
  okV (W.call (.clo 126 [] []) [Sl.av Ex.av 5 x, Sl.av Ex.av 5 y, f] H0) (fun v H' => v = .bool (all2 p x.l y.l) ∧ Kept none H0 H') := by
 rw [W_call Φ126]
 by_cases hxy : x.l.length = y.l.length
 ·have hL := loop_zip (Φ := Φ) (live := [1, 2, 15, 16, 17]) (L := l126_0) x.l y.l hxy p (fun j F G => F = [(1, Sl.av Ex.av 5 y), (2, f), (15, Sl.av Ex.av 5 x), (16, I x.l.length), (17, I j)] ∧ Kept none H0 G)
   (fun c F G => c = .ret ∧ F.get 6 = .bool false ∧ Kept none H0 G) (fun c F G => c = .exit 0 ∧ Kept none H0 G) (F := [(1, Sl.av Ex.av 5 y), (2, f), (15, Sl.av Ex.av 5 x), (16, I x.l.length), (17, I 0)]) (H := H0) ⟨rfl, Kept.refl _ _⟩ ?_ ?_
  ·obtain ⟨c, F', H', e1, hx⟩ := okC_iff.1 hL
   cases he : all2 p x.l y.l with
   | true =>
    rw [he] at hx
    simp only [if_true] at hx
    obtain ⟨rfl, hk⟩ := hx
    simp [fi126, c126, evFun, enterFr, intBin, resV, rvVs, rvV, hf, hxy, e1]
    rw [hxy] at e1
    simp [e1, hk]
   | false =>
    rw [he] at hx
    simp only [Bool.false_eq_true, if_false] at hx
    obtain ⟨rfl, hg, hk⟩ := hx
    simp [fi126, c126, evFun, enterFr, intBin, resV, rvVs, rvV, hf, hxy, e1]
    rw [hxy] at e1
    simp [e1, hk, hg]
  ·rintro j a b F G hj ha hb ⟨rfl, hk⟩
   have hj2 : j < y.l.length := by omega
   have hj' : (j : Int) < x.l.length := by omega
   have hw : IntKind.wrap .i64 ((j : Int) + 1) = (j : Int) + 1 := by rw [wrap64] <;> omega
   obtain ⟨v, H', c1, rfl, c2⟩ := okV_iff.1 (hp a (List.mem_of_getElem? ha) b (List.mem_of_getElem? hb) (G ++ [.arr 0 5 false [a.av], .arr 0 5 false [b.av]]) (hk.trans (Kept.append _ _ _)))
   have k2 : Kept none H0 H' := hk.trans ((Kept.append _ _ _).trans c2)
   cases hpab : p a b with
   | true =>
    rw [hpab] at c1
    simp [evl126_0, b126_0, intBin, hf, hj, hj2, hj', ha, hb, hw, c1, k2, app1_s, app2_0, app2_1, app2_s0, app2_s1, app_last, -getElem?_pos, gEz]
   | false =>
    rw [hpab] at c1
    simp [evl126_0, b126_0, intBin, hf, hj, hj2, hj', ha, hb, hw, c1, k2, app1_s, app2_0, app2_1, app2_s0, app2_s1, app_last, -getElem?_pos, gEz]
  ·rintro F G ⟨rfl, hk⟩
   simp [evl126_0, b126_0, intBin, hf, hk]
 ·have h' : ¬ (x.l.length : Int) = y.l.length := by omega
  rw [all2_ne hxy]
  simp [fi126, c126, evFun, enterFr, intBin, resV, rvVs, rvV, hf, h', Kept.refl]
theorem eqf84 (x y : Sl Pr) (hl : x.l.length ≤ 9223372036854775807) (f : AV) (hf : okO f = some f) (p : Pr → Pr → Bool) (H0 : Heap)
  (hp : ∀ a ∈ x.l, ∀ b ∈ y.l, ∀ H, Kept none H0 H → okV (W.call f [a.av, b.av] H) (fun v H' => v = .bool (p a b) ∧ Kept none H H')) :
  okV (W.call (.clo 84 [] []) [Sl.av Pr.av 5 x, Sl.av Pr.av 5 y, f] H0) (fun v H' => v = .bool (all2 p x.l y.l) ∧ Kept none H0 H') := by
 rw [W_call Φ84]
 by_cases hxy : x.l.length = y.l.length
 ·have hL := loop_zip (Φ := Φ) (live := [1, 2, 15, 16, 17]) (L := l84_0) x.l y.l hxy p (fun j F G => F = [(1, Sl.av Pr.av 5 y), (2, f), (15, Sl.av Pr.av 5 x), (16, I x.l.length), (17, I j)] ∧ Kept none H0 G)
   (fun c F G => c = .ret ∧ F.get 6 = .bool false ∧ Kept none H0 G) (fun c F G => c = .exit 0 ∧ Kept none H0 G) (F := [(1, Sl.av Pr.av 5 y), (2, f), (15, Sl.av Pr.av 5 x), (16, I x.l.length), (17, I 0)]) (H := H0) ⟨rfl, Kept.refl _ _⟩ ?_ ?_
  ·obtain ⟨c, F', H', e1, hx⟩ := okC_iff.1 hL
   cases he : all2 p x.l y.l with
   | true =>
    rw [he] at hx
    simp only [if_true] at hx
    obtain ⟨rfl, hk⟩ := hx
    simp [fi84, c84, evFun, enterFr, intBin, resV, rvVs, rvV, hf, hxy, e1]
    rw [hxy] at e1
    simp [e1, hk]
   | false =>
    rw [he] at hx
    simp only [Bool.false_eq_true, if_false] at hx
    obtain ⟨rfl, hg, hk⟩ := hx
    simp [fi84, c84, evFun, enterFr, intBin, resV, rvVs, rvV, hf, hxy, e1]
    rw [hxy] at e1
    simp [e1, hk, hg]
  ·rintro j a b F G hj ha hb ⟨rfl, hk⟩
   have hj2 : j < y.l.length := by omega
   have hj' : (j : Int) < x.l.length := by omega
   have hw : IntKind.wrap .i64 ((j : Int) + 1) = (j : Int) + 1 := by rw [wrap64] <;> omega
   obtain ⟨v, H', c1, rfl, c2⟩ := okV_iff.1 (hp a (List.mem_of_getElem? ha) b (List.mem_of_getElem? hb) (G ++ [.arr 0 5 false [a.av], .arr 0 5 false [b.av]]) (hk.trans (Kept.append _ _ _)))
   have k2 : Kept none H0 H' := hk.trans ((Kept.append _ _ _).trans c2)
   cases hpab : p a b with
   | true =>
    rw [hpab] at c1
    simp [evl84_0, b84_0, intBin, hf, hj, hj2, hj', ha, hb, hw, c1, k2, app1_s, app2_0, app2_1, app2_s0, app2_s1, app_last, -getElem?_pos, gEz]
   | false =>
    rw [hpab] at c1
    simp [evl84_0, b84_0, intBin, hf, hj, hj2, hj', ha, hb, hw, c1, k2, app1_s, app2_0, app2_1, app2_s0, app2_s1, app_last, -getElem?_pos, gEz]
  ·rintro F G ⟨rfl, hk⟩
   simp [evl84_0, b84_0, intBin, hf, hk]
 ·have h' : ¬ (x.l.length : Int) = y.l.length := by omega
  rw [all2_ne hxy]
  simp [fi84, c84, evFun, enterFr, intBin, resV, rvVs, rvV, hf, h', Kept.refl]
theorem eqf124 (x y : Sl St) (hl : x.l.length ≤ 9223372036854775807) (f : AV) (hf : okO f = some f) (p : St → St → Bool) (H0 : Heap)
  (hp : ∀ a ∈ x.l, ∀ b ∈ y.l, ∀ H, Kept none H0 H → okV (W.call f [a.av, b.av] H) (fun v H' => v = .bool (p a b) ∧ Kept none H H')) :
  okV (W.call (.clo 124 [] []) [Sl.av St.av 8 x, Sl.av St.av 8 y, f] H0) (fun v H' => v = .bool (all2 p x.l y.l) ∧ Kept none H0 H') := by
 rw [W_call Φ124]
 by_cases hxy : x.l.length = y.l.length
 ·have hL := loop_zip (Φ := Φ) (live := [1, 2, 15, 16, 17]) (L := l124_0) x.l y.l hxy p (fun j F G => F = [(1, Sl.av St.av 8 y), (2, f), (15, Sl.av St.av 8 x), (16, I x.l.length), (17, I j)] ∧ Kept none H0 G)
   (fun c F G => c = .ret ∧ F.get 6 = .bool false ∧ Kept none H0 G) (fun c F G => c = .exit 0 ∧ Kept none H0 G) (F := [(1, Sl.av St.av 8 y), (2, f), (15, Sl.av St.av 8 x), (16, I x.l.length), (17, I 0)]) (H := H0) ⟨rfl, Kept.refl _ _⟩ ?_ ?_
  ·obtain ⟨c, F', H', e1, hx⟩ := okC_iff.1 hL
   cases he : all2 p x.l y.l with
   | true =>
    rw [he] at hx
    simp only [if_true] at hx
    obtain ⟨rfl, hk⟩ := hx
    simp [fi124, c124, evFun, enterFr, intBin, resV, rvVs, rvV, hf, hxy, e1]
    rw [hxy] at e1
    simp [e1, hk]
   | false =>
    rw [he] at hx
    simp only [Bool.false_eq_true, if_false] at hx
    obtain ⟨rfl, hg, hk⟩ := hx
    simp [fi124, c124, evFun, enterFr, intBin, resV, rvVs, rvV, hf, hxy, e1]
    rw [hxy] at e1
    simp [e1, hk, hg]
  ·rintro j a b F G hj ha hb ⟨rfl, hk⟩
   have hj2 : j < y.l.length := by omega
   have hj' : (j : Int) < x.l.length := by omega
   have hw : IntKind.wrap .i64 ((j : Int) + 1) = (j : Int) + 1 := by rw [wrap64] <;> omega
   obtain ⟨v, H', c1, rfl, c2⟩ := okV_iff.1 (hp a (List.mem_of_getElem? ha) b (List.mem_of_getElem? hb) (G ++ [.arr 0 8 false [a.av], .arr 0 8 false [b.av]]) (hk.trans (Kept.append _ _ _)))
   have k2 : Kept none H0 H' := hk.trans ((Kept.append _ _ _).trans c2)
   cases hpab : p a b with
   | true =>
    rw [hpab] at c1
    simp [evl124_0, b124_0, intBin, hf, hj, hj2, hj', ha, hb, hw, c1, k2, app1_s, app2_0, app2_1, app2_s0, app2_s1, app_last, -getElem?_pos, gEz]
   | false =>
    rw [hpab] at c1
    simp [evl124_0, b124_0, intBin, hf, hj, hj2, hj', ha, hb, hw, c1, k2, app1_s, app2_0, app2_1, app2_s0, app2_s1, app_last, -getElem?_pos, gEz]
  ·rintro F G ⟨rfl, hk⟩
   simp [evl124_0, b124_0, intBin, hf, hk]
 ·have h' : ¬ (x.l.length : Int) = y.l.length := by omega
  rw [all2_ne hxy]
  simp [fi124, c124, evFun, enterFr, intBin, resV, rvVs, rvV, hf, h', Kept.refl]
theorem eqf127 (x y : Sl Cs) (hl : x.l.length ≤ 9223372036854775807) (f : AV) (hf : okO f = some f) (p : Cs → Cs → Bool) (H0 : Heap)
  (hp : ∀ a ∈ x.l, ∀ b ∈ y.l, ∀ H, Kept none H0 H → okV (W.call f [a.av, b.av] H) (fun v H' => v = .bool (p a b) ∧ Kept none H H')) :
  okV (W.call (.clo 127 [] []) [Sl.av Cs.av 9 x, Sl.av Cs.av 9 y, f] H0) (fun v H' => v = .bool (all2 p x.l y.l) ∧ Kept none H0 H') := by
 rw [W_call Φ127]
 by_cases hxy : x.l.length = y.l.length
 ·have hL := loop_zip (Φ := Φ) (live := [1, 2, 15, 16, 17]) (L := l127_0) x.l y.l hxy p (fun j F G => F = [(1, Sl.av Cs.av 9 y), (2, f), (15, Sl.av Cs.av 9 x), (16, I x.l.length), (17, I j)] ∧ Kept none H0 G)
   (fun c F G => c = .ret ∧ F.get 6 = .bool false ∧ Kept none H0 G) (fun c F G => c = .exit 0 ∧ Kept none H0 G) (F := [(1, Sl.av Cs.av 9 y), (2, f), (15, Sl.av Cs.av 9 x), (16, I x.l.length), (17, I 0)]) (H := H0) ⟨rfl, Kept.refl _ _⟩ ?_ ?_
  ·obtain ⟨c, F', H', e1, hx⟩ := okC_iff.1 hL
   cases he : all2 p x.l y.l with
   | true =>
    rw [he] at hx
    simp only [if_true] at hx
    obtain ⟨rfl, hk⟩ := hx
    simp [fi127, c127, evFun, enterFr, intBin, resV, rvVs, rvV, hf, hxy, e1]
    rw [hxy] at e1
    simp [e1, hk]
   | false =>
    rw [he] at hx
    simp only [Bool.false_eq_true, if_false] at hx
    obtain ⟨rfl, hg, hk⟩ := hx
    simp [fi127, c127, evFun, enterFr, intBin, resV, rvVs, rvV, hf, hxy, e1]
    rw [hxy] at e1
    simp [e1, hk, hg]
  ·rintro j a b F G hj ha hb ⟨rfl, hk⟩
   have hj2 : j < y.l.length := by omega
   have hj' : (j : Int) < x.l.length := by omega
   have hw : IntKind.wrap .i64 ((j : Int) + 1) = (j : Int) + 1 := by rw [wrap64] <;> omega
   obtain ⟨v, H', c1, rfl, c2⟩ := okV_iff.1 (hp a (List.mem_of_getElem? ha) b (List.mem_of_getElem? hb) (G ++ [.arr 0 9 false [a.av], .arr 0 9 false [b.av]]) (hk.trans (Kept.append _ _ _)))
   have k2 : Kept none H0 H' := hk.trans ((Kept.append _ _ _).trans c2)
   cases hpab : p a b with
   | true =>
    rw [hpab] at c1
    simp [evl127_0, b127_0, intBin, hf, hj, hj2, hj', ha, hb, hw, c1, k2, app1_s, app2_0, app2_1, app2_s0, app2_s1, app_last, -getElem?_pos, gEz]
   | false =>
    rw [hpab] at c1
    simp [evl127_0, b127_0, intBin, hf, hj, hj2, hj', ha, hb, hw, c1, k2, app1_s, app2_0, app2_1, app2_s0, app2_s1, app_last, -getElem?_pos, gEz]
  ·rintro F G ⟨rfl, hk⟩
   simp [evl127_0, b127_0, intBin, hf, hk]
 ·have h' : ¬ (x.l.length : Int) = y.l.length := by omega
  rw [all2_ne hxy]
  simp [fi127, c127, evFun, enterFr, intBin, resV, rvVs, rvV, hf, h', Kept.refl]
end Go.Proofs.YtddpboiceemihaaGreatDoor
end
section
namespace Go.Proofs.YtddpboiceemihaaGreatDoor
open Go Go.RowKit
set_option linter.unusedVariables false
set_option linter.unusedSimpArgs false
set_option maxRecDepth 10000
theorem all2_dec {α : Type} [DecidableEq α] : ∀ (l m : List α), all2 (fun a b => decide (a = b)) l m = decide (l = m)
 | [], [] => by simp [all2]
 | a :: r, b :: s => by
  simp only [all2, all2_dec r s, List.cons.injEq]
  by_cases h1 : a = b <;> by_cases h2 : r = s <;> simp [h1, h2]
 | [], b :: s => by simp [all2]
 | a :: r, [] => by simp [all2]
theorem e86 (x y : Sl (List UInt8)) (hl : x.l.length ≤ 9223372036854775807) : W.pure 86 [Sl.av AV.str 1 x, Sl.av AV.str 1 y] = some (.bool (decide (x.l = y.l))) := by
 rw [W_pure Φ86 rfl, ← all2_dec]
 by_cases hxy : x.l.length = y.l.length
 ·have hL := loop_zip (Φ := Φ) (live := [0, 1, 12, 13]) (L := l86_0) x.l y.l hxy (fun a b => decide (a = b)) (fun j F G => F = [(0, Sl.av AV.str 1 x), (1, Sl.av AV.str 1 y), (12, I x.l.length), (13, I j)] ∧ G = [])
   (fun c F G => c = .ret ∧ F.get 4 = .bool false) (fun c F G => c = .exit 0) (F := [(0, Sl.av AV.str 1 x), (1, Sl.av AV.str 1 y), (12, I x.l.length), (13, I 0)]) (H := []) ⟨rfl, rfl⟩ ?_ ?_
  ·obtain ⟨c, F', H', e1, hx⟩ := okC_iff.1 hL
   rw [hxy] at e1
   cases he : all2 (fun a b => decide (a = b)) x.l y.l with
   | true =>
    rw [he] at hx
    simp only [if_true] at hx
    subst hx
    simp [fi86, c86, evFun, enterFr, intBin, resV, rvVs, rvV, hxy, e1]
   | false =>
    rw [he] at hx
    simp only [Bool.false_eq_true, if_false] at hx
    obtain ⟨rfl, hg⟩ := hx
    simp [fi86, c86, evFun, enterFr, intBin, resV, rvVs, rvV, hxy, e1, hg]
  ·rintro j a b F G hj ha hb ⟨rfl, rfl⟩
   have hj2 : j < y.l.length := by omega
   have hj' : (j : Int) < x.l.length := by omega
   have hw : IntKind.wrap .i64 ((j : Int) + 1) = (j : Int) + 1 := by rw [wrap64] <;> omega
   by_cases hab : a = b <;> simp [evl86_0, b86_0, intBin, strBin, hj, hj2, hj', ha, hb, hw, hab, -getElem?_pos]
  ·rintro F G ⟨rfl, rfl⟩
   simp [evl86_0, b86_0, intBin]
 ·have h' : ¬ (x.l.length : Int) = y.l.length := by omega
  rw [all2_ne hxy]
  simp [fi86, c86, evFun, enterFr, intBin, resV, rvVs, rvV, h']
theorem e83 (x y : Sl Dc) (hl : x.l.length ≤ 9223372036854775807) : W.pure 83 [Sl.av Dc.av 5 x, Sl.av Dc.av 5 y] = some (.bool (all2 (fun a b : Dc => decide (a = b)) x.l y.l)) := by
 rw [W_pure Φ83 rfl]
 by_cases hxy : x.l.length = y.l.length
 ·have hL := loop_zip (Φ := Φ) (live := [0, 1, 12, 13]) (L := l83_0) x.l y.l hxy (fun a b : Dc => decide (a = b)) (fun j F G => F = [(0, Sl.av Dc.av 5 x), (1, Sl.av Dc.av 5 y), (12, I x.l.length), (13, I j)] ∧ G = [])
   (fun c F G => c = .ret ∧ F.get 4 = .bool false) (fun c F G => c = .exit 0) (F := [(0, Sl.av Dc.av 5 x), (1, Sl.av Dc.av 5 y), (12, I x.l.length), (13, I 0)]) (H := []) ⟨rfl, rfl⟩ ?_ ?_
  ·obtain ⟨c, F', H', e1, hx⟩ := okC_iff.1 hL
   rw [hxy] at e1
   cases he : all2 (fun a b : Dc => decide (a = b)) x.l y.l with
   | true =>
    rw [he] at hx
    simp only [if_true] at hx
    subst hx
    simp [fi83, c83, evFun, enterFr, intBin, resV, rvVs, rvV, hxy, e1]
   | false =>
    rw [he] at hx
    simp only [Bool.false_eq_true, if_false] at hx
    obtain ⟨rfl, hg⟩ := hx
    simp [fi83, c83, evFun, enterFr, intBin, resV, rvVs, rvV, hxy, e1, hg]
  ·rintro j a b F G hj ha hb ⟨rfl, rfl⟩
   have hj2 : j < y.l.length := by omega
   have hj' : (j : Int) < x.l.length := by omega
   have hw : IntKind.wrap .i64 ((j : Int) + 1) = (j : Int) + 1 := by rw [wrap64] <;> omega
   by_cases hab : a = b <;> simp [evl83_0, b83_0, intBin, Dc_eqs, hj, hj2, hj', ha, hb, hw, hab, -getElem?_pos]
  ·rintro F G ⟨rfl, rfl⟩
   simp [evl83_0, b83_0, intBin]
 ·have h' : ¬ (x.l.length : Int) = y.l.length := by omega
  rw [all2_ne hxy]
  simp [fi83, c83, evFun, enterFr, intBin, resV, rvVs, rvV, h']
theorem Ex.eqvs_all2 : ∀ (l m : List Ex), Ex.eqvs l m = all2 Ex.eqv l m
 | [], [] => by simp only [Ex.eqvs, all2]
 | a :: r, b :: s => by simp only [Ex.eqvs, all2, Ex.eqvs_all2 r s]
 | [], b :: s => by simp only [Ex.eqvs, all2]
 | a :: r, [] => by simp only [Ex.eqvs, all2]
theorem call163 : ∀ (x : Ex), x.size ≤ 1000000000 → ∀ y H, okV (W.call (.clo 163 [] []) [x.av, y.av] H) (fun v H' => v = .bool (x.eqv y) ∧ Kept none H H') := by
 refine Ex.ind (fun x ih => ?_)
 intro hs y H
 rw [W_call Φ163, Ex.eqv_eq, Ex.eqvs_all2]
 have hlen : x.args.l.length ≤ 1000000000 := by have := Ex.len_sizes x.args.l; rw [Ex.size_eq] at hs; omega
 have k0 : Kept none H (H ++ [.arr 0 5 false [x.av], .arr 0 5 false [y.av]]) := Kept.append _ _ _
 obtain ⟨v, H', d1, rfl, d2⟩ := okV_iff.1 (eqf126 x.args y.args (by omega) (.clo 163 [] []) rfl Ex.eqv (H ++ [.arr 0 5 false [x.av], .arr 0 5 false [y.av]])
  (fun a ha b hb G hk => ih a ha (by have := Ex.mem_size ha; rw [Ex.size_eq] at hs; omega) b G))
 have k1 := k0.trans d2
 by_cases q1 : x.kind = y.kind
 rotate_left
 ·simp [fi163, c163, evFun, enterFr, intBin, resV, rvVs, rvV, strBin, q1, k0, app2_0, app2_1, app2_s0, app2_s1, -getElem?_pos, gEz]
 by_cases q2 : x.op = y.op
 rotate_left
 ·simp [fi163, c163, evFun, enterFr, intBin, resV, rvVs, rvV, strBin, q1, q2, k0, app2_0, app2_1, app2_s0, app2_s1, -getElem?_pos, gEz]
 by_cases q3 : x.name = y.name
 rotate_left
 ·simp [fi163, c163, evFun, enterFr, intBin, resV, rvVs, rvV, strBin, q1, q2, q3, k0, app2_0, app2_1, app2_s0, app2_s1, -getElem?_pos, gEz]
 by_cases q4 : x.value = y.value
 rotate_left
 ·simp [fi163, c163, evFun, enterFr, intBin, resV, rvVs, rvV, strBin, q1, q2, q3, q4, k0, app2_0, app2_1, app2_s0, app2_s1, -getElem?_pos, gEz]
 simp [fi163, c163, evFun, enterFr, intBin, resV, rvVs, rvV, strBin, q1, q2, q3, q4, d1, k1, app2_0, app2_1, app2_s0, app2_s1, -getElem?_pos, gEz]
theorem e163 (x : Ex) (hs : x.size ≤ 1000000000) (y : Ex) : W.pure 163 [x.av, y.av] = some (.bool (x.eqv y)) := by
 obtain ⟨v, H', d1, rfl, d2⟩ := okV_iff.1 (call163 x hs y [])
 rw [W_call Φ163] at d1
 rw [W_pure Φ163 (by simp)]
 simp only [List.nil_append, List.append_nil] at d1
 rw [d1]
 rfl
theorem e122 (x y : Ex) : W.pure 122 [x.av, y.av] = some (.bool (exEqual x y)) := by
 rw [W_pure Φ122 (by simp)]
 have c1 := e153 x
 have c2 := e153 y
 unfold exEqual
 by_cases h1 : exCheck x = 0
 ·by_cases h2 : exCheck y = 0
  ·have c3 := e163 x (by have := exCheck_size h1; omega) y
   simp [fi122, c122, evFun, enterFr, intBin, resV, rvVs, rvV, c1, c2, c3, h1, h2]
  ·simp [fi122, c122, evFun, enterFr, intBin, resV, rvVs, rvV, c1, c2, h1, h2]
 ·simp [fi122, c122, evFun, enterFr, intBin, resV, rvVs, rvV, c1, h1]
theorem call120 (x y : Ex) (H : Heap) : W.call (.clo 120 [] []) [x.av, y.av] H = some (.bool (sameEx x y), H ++ [.arr 0 5 false [x.av], .arr 0 5 false [y.av]]) := by
 rw [W_call Φ120]
 have c1 := e121 x
 have c2 := e121 y
 have c3 := e122 x y
 unfold sameEx
 cases h1 : exZero x <;> cases h2 : exZero y <;> rw [h1] at c1 <;> rw [h2] at c2 <;> simp [fi120, c120, evFun, enterFr, intBin, resV, rvVs, rvV, c1, c2, c3, app2_0, app2_1, app2_s0, app2_s1, app_last, -getElem?_pos, gEz]
end Go.Proofs.YtddpboiceemihaaGreatDoor
end
section
namespace Go.Proofs.YtddpboiceemihaaGreatDoor
open Go Go.RowKit
set_option linter.unusedVariables false
set_option linter.unusedSimpArgs false
set_option maxRecDepth 10000
def SameOk (l : Sl St) : Prop := ∀ b : Sl St, W.pure 87 [Sl.av St.av 8 l, Sl.av St.av 8 b] = some (.bool (St.eqvs l.l b.l))
theorem call123 (x y : Cs) (hf : x.fine) (ih : SameOk x.body) (i : Nat) (H : Heap) (h : H[i]? = some (.arr 0 1 false [.clo 120 [] []])) :
  okV (W.call (.clo 123 [] [.optr i 0 0 0]) [x.av, y.av] H) (fun v H' => v = .bool (x.eqv y) ∧ Kept none H H') := by
 rw [W_call Φ123, Cs.eqv_eq]
 rw [Cs.fine_eq] at hf
 have c1 := e86 x.names y.names hf.1
 have c2 := ih y.body
 have p1 : ∀ B C, (H ++ [B, C])[i]? = some (.arr 0 1 false [.clo 120 [] []]) := app2_get h
 have k0 : Kept none H (H ++ [.arr 0 9 false [x.av], .arr 0 9 false [y.av]]) := Kept.append _ _ _
 have k1 : Kept none H (H ++ [.arr 0 9 false [x.av], .arr 0 9 false [y.av], .arr 0 5 false [x.expr.av], .arr 0 5 false [y.expr.av]]) := Kept.append _ _ _
 have d1 := call120 x.expr y.expr (H ++ [.arr 0 9 false [x.av], .arr 0 9 false [y.av]])
 simp only [List.append_assoc, List.cons_append, List.nil_append] at d1
 have g0 : ∀ B C D E, (H ++ [B, C, D, E])[H.length]? = some B := fun B C D E => by rw [List.getElem?_append_right (by omega)]; simp
 have g1 : ∀ B C D E, (H ++ [B, C, D, E])[H.length + 1]? = some C := fun B C D E => by rw [List.getElem?_append_right (by omega)]; simp
 by_cases q1 : x.kind = y.kind
 rotate_left
 ·simp [fi123, c123, evFun, enterFr, intBin, resV, rvVs, rvV, strBin, q1, k0, app2_0, app2_1, app2_s0, app2_s1, -getElem?_pos, gEz]
 by_cases q2 : x.name = y.name
 rotate_left
 ·simp [fi123, c123, evFun, enterFr, intBin, resV, rvVs, rvV, strBin, q1, q2, k0, app2_0, app2_1, app2_s0, app2_s1, -getElem?_pos, gEz]
 by_cases q3 : x.names.l = y.names.l
 rotate_left
 ·rw [decide_eq_false q3] at c1
  simp [fi123, c123, evFun, enterFr, intBin, resV, rvVs, rvV, strBin, q1, q2, q3, c1, k0, app2_0, app2_1, app2_s0, app2_s1, -getElem?_pos, gEz]
 rw [decide_eq_true q3] at c1
 cases q4 : sameEx x.expr y.expr with
 | false =>
  rw [q4] at d1
  simp [fi123, c123, evFun, enterFr, intBin, resV, rvVs, rvV, strBin, q1, q2, q3, q4, c1, d1, k1, p1, g0, g1, app2_0, app2_1, app2_s0, app2_s1, -getElem?_pos, gEz]
 | true =>
  rw [q4] at d1
  simp [fi123, c123, evFun, enterFr, intBin, resV, rvVs, rvV, strBin, q1, q2, q3, q4, c1, c2, d1, k1, p1, g0, g1, app2_0, app2_1, app2_s0, app2_s1, -getElem?_pos, gEz]
theorem call125 (x y : St) (hf : x.fine) (ih1 : SameOk x.body) (ih2 : SameOk x.els) (ih3 : ∀ c ∈ x.cs.l, SameOk c.body) (i j : Nat) (H : Heap) (h1 : H[i]? = some (.arr 0 1 false [.clo 120 [] []])) (h2 : H[j]? = some (.arr 0 1 false [.clo 123 [] [.optr i 0 0 0]])) :
  okV (W.call (.clo 125 [] [.optr i 0 0 0, .optr j 0 0 0]) [x.av, y.av] H) (fun v H' => v = .bool (x.eqv y) ∧ Kept none H H') := by
 rw [W_call Φ125, St.eqv_eq, Cs.eqvs_all2]
 rw [St.fine_eq] at hf
 obtain ⟨f1, f2, f3, f4, f5, f6, f7, f8⟩ := hf
 have c1 := e86 x.names y.names f2
 have c2 := ih1 y.body
 have c3 := ih2 y.els
 have p1 : ∀ B C, (H ++ [B, C])[i]? = some (.arr 0 1 false [.clo 120 [] []]) := app2_get h1
 have k0 : Kept none H (H ++ [.arr 0 8 false [x.av], .arr 0 8 false [y.av]]) := Kept.append _ _ _
 obtain ⟨v, H1, d1, rfl, d2⟩ := okV_iff.1 (eqf126 x.exprs y.exprs f1 (.clo 120 [] []) rfl sameEx (H ++ [.arr 0 8 false [x.av], .arr 0 8 false [y.av]])
  (fun a ha b hb G hk => by rw [call120]; exact ⟨rfl, Kept.append _ _ _⟩))
 have g0 : H1[H.length]? = some (.arr 0 8 false [x.av]) := d2.get (by simp) (app2_0 _ _ _)
 have g1 : H1[H.length + 1]? = some (.arr 0 8 false [y.av]) := d2.get (by simp) (app2_1 _ _ _)
 have g2 : H1[i]? = some (.arr 0 1 false [.clo 120 [] []]) := d2.get (by simp) (p1 _ _)
 have g3 : H1[j]? = some (.arr 0 1 false [.clo 123 [] [.optr i 0 0 0]]) := d2.get (by simp) (app2_get h2 _ _)
 have k1 := k0.trans d2
 obtain ⟨v2, H2, m1, rfl, m2⟩ := okV_iff.1 (eqf127 x.cs y.cs f5 (.clo 123 [] [.optr i 0 0 0]) rfl Cs.eqv H1
  (fun a ha b hb G hk => call123 a b (Cs.fines_mem f8 ha) (ih3 a ha) i G (hk.get (by simp) g2)))
 have k2 := k1.trans m2
 by_cases q1 : x.kind = y.kind
 rotate_left
 ·simp [fi125, c125, evFun, enterFr, intBin, resV, rvVs, rvV, strBin, q1, k0, app2_0, app2_1, app2_s0, app2_s1, -getElem?_pos, gEz]
 by_cases q2 : x.op = y.op
 rotate_left
 ·simp [fi125, c125, evFun, enterFr, intBin, resV, rvVs, rvV, strBin, q1, q2, k0, app2_0, app2_1, app2_s0, app2_s1, -getElem?_pos, gEz]
 by_cases q3 : x.name = y.name
 rotate_left
 ·simp [fi125, c125, evFun, enterFr, intBin, resV, rvVs, rvV, strBin, q1, q2, q3, k0, app2_0, app2_1, app2_s0, app2_s1, -getElem?_pos, gEz]
 by_cases q4 : x.names.l = y.names.l
 rotate_left
 ·rw [decide_eq_false q4] at c1
  simp [fi125, c125, evFun, enterFr, intBin, resV, rvVs, rvV, strBin, q1, q2, q3, q4, c1, k0, app2_0, app2_1, app2_s0, app2_s1, -getElem?_pos, gEz]
 rw [decide_eq_true q4] at c1
 cases q5 : all2 sameEx x.exprs.l y.exprs.l with
 | false =>
  rw [q5] at d1
  simp [fi125, c125, evFun, enterFr, intBin, resV, rvVs, rvV, strBin, q1, q2, q3, q4, q5, c1, d1, k1, p1, g0, g1, app2_0, app2_1, app2_s0, app2_s1, -getElem?_pos, gEz]
 | true =>
 rw [q5] at d1
 cases q6 : St.eqvs x.body.l y.body.l with
 | false =>
  rw [q6] at c2
  simp [fi125, c125, evFun, enterFr, intBin, resV, rvVs, rvV, strBin, q1, q2, q3, q4, q5, q6, c1, c2, d1, k1, p1, g0, g1, app2_0, app2_1, app2_s0, app2_s1, -getElem?_pos, gEz]
 | true =>
 rw [q6] at c2
 cases q7 : St.eqvs x.els.l y.els.l with
 | false =>
  rw [q7] at c3
  simp [fi125, c125, evFun, enterFr, intBin, resV, rvVs, rvV, strBin, q1, q2, q3, q4, q5, q6, q7, c1, c2, c3, d1, k1, p1, g0, g1, app2_0, app2_1, app2_s0, app2_s1, -getElem?_pos, gEz]
 | true =>
 rw [q7] at c3
 simp [fi125, c125, evFun, enterFr, intBin, resV, rvVs, rvV, strBin, q1, q2, q3, q4, q5, q6, q7, c1, c2, c3, d1, k2, p1, g0, g1, g3, m1, app2_0, app2_1, app2_s0, app2_s1, -getElem?_pos, gEz]
theorem e87 : ∀ (n : Nat) (a : Sl St), St.bigs a.l ≤ n → St.fines a.l → a.l.length ≤ 9223372036854775807 → SameOk a := by
 intro n
 induction n using Nat.strongRecOn with
 | ind n ihn =>
  intro a ha hf hl b
  rw [W_pure Φ87 rfl, St.eqvs_all2]
  have n1 : AV.nilf.cells = [AV.nilf] := rfl
  have n2 : AV.nilf.cell = true := rfl
  have n3 : ∀ v : AV, v.cells = [v] → v.cell = true → setElem [AV.nilf] 0 0 v = some [v] := fun v h1 h2 => setElem_one rfl h1 h2
  have n4 := n3 (.clo 120 [] []) rfl rfl
  have n5 := n3 (.clo 123 [] [.optr 0 0 0 0]) rfl rfl
  obtain ⟨v, H', d1, rfl, d2⟩ := okV_iff.1 (eqf124 a b hl (.clo 125 [] [.optr 0 0 0 0, .optr 1 0 0 0]) rfl St.eqv [.arr 0 1 false [.clo 120 [] []], .arr 0 1 false [.clo 123 [] [.optr 0 0 0 0]]]
   (fun x hx y hy G hk => by
    have hbig := St.bigs_mem hx
    rw [St.big_eq] at hbig
    have hfx := St.fines_mem hf hx
    have hfe := hfx
    rw [St.fine_eq] at hfe
    obtain ⟨f1, f2, f3, f4, f5, f6, f7, f8⟩ := hfe
    exact call125 x y hfx (ihn (St.bigs x.body.l) (by omega) x.body (Nat.le_refl _) f6 f3) (ihn (St.bigs x.els.l) (by omega) x.els (Nat.le_refl _) f7 f4)
     (fun c hc => by
      have h1 := Cs.bigs_mem hc
      rw [Cs.big_eq] at h1
      have h2 := Cs.fines_mem f8 hc
      rw [Cs.fine_eq] at h2
      exact ihn (St.bigs c.body.l) (by omega) c.body (Nat.le_refl _) h2.2.2 h2.2.1) 0 1 G (hk.get (by simp) rfl) (hk.get (by simp) rfl)))
  simp [fi87, c87, evFun, enterFr, intBin, resV, rvVs, rvV, n1, n2, n4, n5, d1, -getElem?_pos, gEz]
theorem call85 (p q : Pr) (hf : p.fine) (H : Heap) : W.call (.clo 85 [] []) [p.av, q.av] H = some (.bool (prEq p q), H ++ [.arr 0 5 false [p.av], .arr 0 5 false [q.av]]) := by
 rw [W_call Φ85]
 have c1 := e86 p.params q.params hf.2.2
 have c2 := e87 _ p.body (Nat.le_refl _) hf.1 hf.2.1 q.body
 unfold prEq
 by_cases q1 : p.kind = q.kind
 rotate_left
 ·simp [fi85, c85, evFun, enterFr, intBin, resV, rvVs, rvV, strBin, q1, app2_0, app2_1, app2_s0, app2_s1, -getElem?_pos, gEz]
 by_cases q2 : p.name = q.name
 rotate_left
 ·simp [fi85, c85, evFun, enterFr, intBin, resV, rvVs, rvV, strBin, q1, q2, app2_0, app2_1, app2_s0, app2_s1, -getElem?_pos, gEz]
 by_cases q3 : p.params.l = q.params.l
 rotate_left
 ·rw [decide_eq_false q3] at c1
  simp [fi85, c85, evFun, enterFr, intBin, resV, rvVs, rvV, strBin, q1, q2, q3, c1, app2_0, app2_1, app2_s0, app2_s1, -getElem?_pos, gEz]
 rw [decide_eq_true q3] at c1
 by_cases q4 : p.priority = q.priority
 rotate_left
 ·simp [fi85, c85, evFun, enterFr, intBin, resV, rvVs, rvV, strBin, q1, q2, q3, q4, c1, app2_0, app2_1, app2_s0, app2_s1, -getElem?_pos, gEz]
 simp [fi85, c85, evFun, enterFr, intBin, resV, rvVs, rvV, strBin, q1, q2, q3, q4, c1, c2, app2_0, app2_1, app2_s0, app2_s1, -getElem?_pos, gEz]
def soEq (a b : So) : Bool := decide (soCheck a = 0) && decide (soCheck b = 0) && all2 (fun x y : Dc => decide (x = y)) a.decls.l b.decls.l && all2 prEq a.procs.l b.procs.l
theorem e34 (a b : So) (ha : a.fine) (hb : b.fine) : W.pure 34 [a.av, b.av] = some (.bool (soEq a b)) := by
 rw [W_pure Φ34 (by simp)]
 have c1 := e26 a ha
 have c2 := e26 b hb
 have c3 := e83 a.decls b.decls ha.1
 obtain ⟨v, H', d1, rfl, d2⟩ := okV_iff.1 (eqf84 a.procs b.procs ha.2.1 (.clo 85 [] []) rfl prEq [.arr 0 2 false [a.av], .arr 0 2 false [b.av]] (fun p hp q hq G hk => by
  rw [call85 p q (ha.2.2 p hp)]; exact ⟨rfl, Kept.append _ _ _⟩))
 unfold soEq
 by_cases h1 : soCheck a = 0
 rotate_left
 ·simp [fi34, c34, evFun, enterFr, intBin, resV, rvVs, rvV, c1, h1, -getElem?_pos, gEz]
 by_cases h2 : soCheck b = 0
 rotate_left
 ·simp [fi34, c34, evFun, enterFr, intBin, resV, rvVs, rvV, c1, c2, h1, h2, -getElem?_pos, gEz]
 cases h3 : all2 (fun x y : Dc => decide (x = y)) a.decls.l b.decls.l with
 | false => rw [h3] at c3; simp [fi34, c34, evFun, enterFr, intBin, resV, rvVs, rvV, c1, c2, c3, h1, h2, -getElem?_pos, gEz]
 | true => rw [h3] at c3; simp [fi34, c34, evFun, enterFr, intBin, resV, rvVs, rvV, c1, c2, c3, h1, h2, d1, -getElem?_pos, gEz]
end Go.Proofs.YtddpboiceemihaaGreatDoor
end
section
namespace Go.Proofs.YtddpboiceemihaaGreatDoor
open Go Go.RowKit
set_option linter.unusedVariables false
set_option linter.unusedSimpArgs false
set_option maxRecDepth 10000
def soGreat (s : So) : Bool := decide (40 < s.decls.l.length ∨ 40 < s.procs.l.length) || s.procs.l.any fun p => decide (12 < p.params.l.length)
theorem loop32 (s : So) (hl : s.procs.l.length ≤ 40) : ∀ (r : List Pr) (k : Nat), s.procs.l.drop k = r → k ≤ s.procs.l.length →
  okC (W.loop [1, 3] l32_0 [(1, .optr 0 0 0 0), (3, I k)] [.arr 0 2 false [s.av]]) (fun y F' H' => if (r.any fun p => decide (12 < p.params.l.length)) = true then y = .ret ∧ F'.get 2 = .bool true else y = .exit 0) := by
 intro r
 induction r with
 | nil =>
  intro k h1 h2
  have hk := drop_nil_len h1 h2
  rw [om_turn]
  simp [evl32_0, b32_0, intBin, hk]
 | cons a r ihr =>
  intro k h1 h2
  obtain ⟨hlt, ha, hr⟩ := drop_cons h1
  have hlt' : (k : Int) < s.procs.l.length := by omega
  have hak : s.procs.l[k] = a := (gEs.1 ha).2
  have hw : IntKind.wrap .i64 ((k : Int) + 1) = (k : Int) + 1 := by rw [wrap64] <;> omega
  have hJ := ihr (k + 1) hr (by omega)
  simp only [Int.natCast_add, Int.cast_ofNat_Int] at hJ
  rw [om_turn]
  by_cases hz : 12 < a.params.l.length
  ·have hz' : (12 : Int) < a.params.l.length := by omega
   simp [evl32_0, b32_0, intBin, hlt, hak, hw, hz, hz', app_last, -getElem?_pos, gEz, ha]
  ·have hz' : ¬ (12 : Int) < a.params.l.length := by omega
   simp only [List.any_cons, decide_eq_false hz, Bool.false_or]
   simp [evl32_0, b32_0, intBin, hlt, hak, hw, hz, hz', app_last, -getElem?_pos, gEz, ha]
   simpa using hJ
theorem e32 (s : So) : W.pure 32 [s.av] = some (.bool (soGreat s)) := by
 rw [W_pure Φ32 (by simp)]
 unfold soGreat
 by_cases h1 : (40 : Int) < s.decls.l.length
 ·have h1' : 40 < s.decls.l.length := by omega
  simp [fi32, c32, evFun, enterFr, intBin, resV, rvVs, rvV, h1, h1', -getElem?_pos, gEz]
 by_cases h2 : (40 : Int) < s.procs.l.length
 ·have h2' : 40 < s.procs.l.length := by omega
  simp [fi32, c32, evFun, enterFr, intBin, resV, rvVs, rvV, h1, h2, h2', -getElem?_pos, gEz]
 have h1' : ¬ 40 < s.decls.l.length := by omega
 have h2' : ¬ 40 < s.procs.l.length := by omega
 obtain ⟨y, F, H, d1, d2⟩ := okC_iff.1 (loop32 s (by omega) s.procs.l 0 rfl (by omega))
 simp only [Int.natCast_zero] at d1
 cases h3 : s.procs.l.any fun p => decide (12 < p.params.l.length) with
 | true =>
  rw [h3, if_pos rfl] at d2
  obtain ⟨rfl, d3⟩ := d2
  simp [fi32, c32, evFun, enterFr, intBin, resV, rvVs, rvV, h1, h1', h2, h2', d1, d3, -getElem?_pos, gEz]
 | false =>
  rw [h3, if_neg (by simp)] at d2
  subst d2
  simp [fi32, c32, evFun, enterFr, intBin, resV, rvVs, rvV, h1, h1', h2, h2', d1, -getElem?_pos, gEz]
theorem v64_1 : IntKind.wrap .i64 1 = 1 := by decide
theorem v64_2 : IntKind.wrap .i64 2 = 2 := by decide
def two (x y : Sl Pr) : AV := .isl (some false) 1 [Sl.av Pr.av 5 x, Sl.av Pr.av 5 y]
def catS (A B : List Pr) : Sl Pr := if A ++ B = [] then slNil else ofL 5 (A ++ B)
theorem catS_l (A B : List Pr) : (catS A B).l = A ++ B := by
 unfold catS; split
 ·rename_i h; rw [h]
 ·rfl
theorem loop81_1 (x y : Sl Pr) (hl : x.l.length + y.l.length ≤ 1000) (H : Heap) :
  okC (W.loop [0, 3, 9, 10, 11] l81_1 [(0, two x y), (3, I 0), (9, two x y), (10, I 2), (11, I 0)] H) (fun c F' H' => c = .exit 0 ∧ F'.get 0 = two x y ∧ F'.get 3 = I ((x.l.length + y.l.length : Nat) : Int) ∧ H' = H) := by
 have hA : IntKind.wrap .i64 (x.l.length : Int) = x.l.length := by rw [wrap64] <;> omega
 have hB : IntKind.wrap .i64 ((x.l.length : Int) + y.l.length) = (x.l.length : Int) + y.l.length := by rw [wrap64] <;> omega
 have n1 : ¬ (x.l.length : Int) < 0 := by omega
 have n2 : ¬ (x.l.length : Int) + y.l.length < 0 := by omega
 rw [om_turn]
 simp [evl81_1, b81_1, intBin, two, hA, n1, v64_1]
 rw [om_turn]
 simp [evl81_1, b81_1, intBin, hB, n2, v64_2]
 rw [om_turn]
 simp [evl81_1, b81_1, intBin]
def zPr : AV := .agg [I 0, .str [], .isl (some true) 0 [], I 0, .isl (some true) 0 []]
theorem e119z (H : Heap) : W.call (.clo 119 [] []) [.isl (some true) 0 [], I 0] H = some (.isl (some true) 0 [], H) := by
 rw [W_call Φ119]
 have h0 : IntKind.wrap .i64 0 = 0 := by decide
 simp [fi119, c119, evFun, enterFr, intBin, resV, rvVs, rvV, h0]
theorem e119p (n : Nat) (hp : 0 < n) (hn : n ≤ 1000) (H : Heap) : W.call (.clo 119 [] []) [.isl (some true) 0 [], I n] H = some (.osl H.length 0 0 0, H ++ [.arr 0 5 false (List.replicate n zPr)]) := by
 rw [W_call Φ119]
 have n1 : ¬ (n : Int) < 0 := by omega
 have hw : IntKind.wrap .i64 (n : Int) = n := by rw [wrap64] <;> omega
 have h0 : IntKind.wrap .i64 0 = 0 := by decide
 have hp' : (0 : Int) < n := by omega
 have h1 : (1 : Int) ≤ n := by omega
 have h2 : (n : Int) ≤ 1048576 := by omega
 have hz : ¬ n = 0 := by omega
 simp [fi119, c119, evFun, enterFr, intBin, resV, rvVs, rvV, h0, n1, hw, hp', h1, h2, slcV, slcBounds, zPr, hz]
theorem prs_cell (l : List Pr) : (l.map Pr.av).all (fun e => e.cells.all AV.cell) = true := by
 rw [List.all_eq_true]
 intro e he
 obtain ⟨p, _, rfl⟩ := List.mem_map.1 he
 simp
theorem prs_still (l : List Pr) : (l.map Pr.av).all (fun e => e.cells.all AV.still) = true := by
 rw [List.all_eq_true]
 intro e he
 obtain ⟨p, _, rfl⟩ := List.mem_map.1 he
 simp
theorem loop81_0 (x y : Sl Pr) (hl : x.l.length + y.l.length ≤ 1000) {o : Option Nat} {v : AV} {H : Heap} (hg : Grow H 5 o v []) :
  okC (W.loop [6, 25, 26, 27] l81_0 [(6, v), (25, two x y), (26, I 2), (27, I 0)] H) (fun c F' H' => c = .exit 2 ∧ ∃ o', Grow H' 5 o' (F'.get 6) ((x.l ++ y.l).map Pr.av) ∧ (o ≠ none → o' ≠ none)) := by
 obtain ⟨o1, v1, H1, a1, g1, k1, d1, _⟩ := hg.app (y := Sl.av Pr.av 5 x) (xs := x.l.map Pr.av) (by simp) (prs_cell _) (by simp [appRoom]; omega)
 obtain ⟨o2, v2, H2, a2, g2, k2, d2, _⟩ := g1.app (y := Sl.av Pr.av 5 y) (xs := y.l.map Pr.av) (by simp) (prs_cell _) (by simp [appRoom]; omega)
 have r0 := hg.okO
 have r1 := g1.okO
 have r2 := g2.okO
 rw [om_turn]
 simp [evl81_0, b81_0, intBin, two, r0, a1, r1, v64_1]
 rw [om_turn]
 simp [evl81_0, b81_0, intBin, r1, a2, r2, v64_2]
 rw [om_turn]
 simp [evl81_0, b81_0, intBin, r2]
 refine ⟨o2, by simpa using g2, fun h => ?_⟩
 have h1 : o1 ≠ none := by
  rcases d1 with h' | ⟨h', _⟩
  ·rw [h']; exact h
  ·exact absurd h' h
 rcases d2 with h' | ⟨h', _⟩
 ·rw [h']; exact h1
 ·exact absurd h' h1
theorem e81 (x y : Sl Pr) (hl : x.l.length + y.l.length ≤ 1000) : W.pure 81 [two x y] = some (Sl.av Pr.av 5 (catS x.l y.l)) := by
 rw [W_pure Φ81 rfl]
 obtain ⟨x1, F1, H1, e1, rfl, p1, p2, rfl⟩ := okC_iff.1 (loop81_1 x y hl [])
 have hz : okO (two x y) = some (two x y) := rfl
 have hln : lenV false (two x y) = I 2 := by simp [two]
 by_cases h0 : x.l.length + y.l.length = 0
 ·have hA0 : x.l = [] := List.eq_nil_of_length_eq_zero (by omega)
  have hB0 : y.l = [] := List.eq_nil_of_length_eq_zero (by omega)
  have a0 : ∀ z : Sl Pr, z.l = [] → ex [] (.app 5) [.isl (some true) 0 [], Sl.av Pr.av 5 z] = some (.isl (some true) 0 [], []) := fun z hz => by
   have h1 : elemsOf [] 5 (Sl.av Pr.av 5 z) = some [] := by rw [sl_elems, hz]; rfl
   simp [ex, h1, exApp, truncH]
  have e2' : okC (W.loop [6, 25, 26, 27] l81_0 [(6, .isl (some true) 0 []), (25, two x y), (26, I 2), (27, I 0)] []) (fun c F' H' => c = .exit 2 ∧ F'.get 6 = .isl (some true) 0 [] ∧ H' = []) := by
   rw [om_turn]
   simp [evl81_0, b81_0, intBin, two, a0 x hA0, v64_1]
   rw [om_turn]
   simp [evl81_0, b81_0, intBin, a0 y hB0, v64_2]
   rw [om_turn]
   simp [evl81_0, b81_0, intBin]
  obtain ⟨x2, F2, H2, e2, rfl, p3, rfl⟩ := okC_iff.1 e2'
  have h119 := e119z []
  have hc : Sl.av Pr.av 5 (catS x.l y.l) = .isl (some true) 0 [] := by unfold catS; rw [hA0, hB0]; rfl
  rw [hc]
  simp [hA0, hB0] at p2
  simp [fi81, c81, evFun, enterFr, intBin, resV, rvVs, rvV, hz, hln, e1, p1, p2, h119, e2, p3]
 ·obtain ⟨x2, F2, H2, e2, rfl, o, g, ho⟩ := okC_iff.1 (loop81_0 x y hl (o := some 0) (v := .osl 0 0 0 0) (H := [.arr 0 5 false (List.replicate (x.l.length + y.l.length) zPr)]) ⟨0, List.replicate (x.l.length + y.l.length) zPr, rfl, by simp⟩)
  have h119 := e119p (x.l.length + y.l.length) (by omega) hl []
  have hne : ¬ x.l ++ y.l = [] := by
   intro h
   have := congrArg List.length h
   rw [List.length_append, List.length_nil] at this
   omega
  have hf := g.frz (n := 7) (prs_still _)
  rw [if_neg (ho (by simp))] at hf
  have hc : Sl.av Pr.av 5 (catS x.l y.l) = .isl (some false) 5 ((x.l ++ y.l).map Pr.av) := by
   unfold catS; rw [if_neg hne, isl_sl]
  rw [hc]
  simp only [List.nil_append, List.length_nil] at h119
  simp [fi81, c81, evFun, enterFr, intBin, resV, rvVs, rvV, hz, hln, e1, p1, p2, e2, g.okO, hf, -Int.natCast_add, -List.map_append, h119]
end Go.Proofs.YtddpboiceemihaaGreatDoor
end
section
namespace Go.Proofs.YtddpboiceemihaaGreatDoor
open Go Go.RowKit
set_option linter.unusedVariables false
set_option linter.unusedSimpArgs false
set_option maxRecDepth 10000
def dupR : List Pr → List Pr → Bool
 | _, [] => false
 | A, p :: r => (A.any fun q => decide (q.name = p.name)) || dupR (A ++ [p]) r
theorem call82 (x : Sl Pr) (k : Nat) (p q : Pr) (hp : x.l[k]? = some p) (a m : Nat) (H : Heap) (ha : H[a]? = some (.arr 0 1 false [Sl.av Pr.av 5 x])) (hm : H[m]? = some (.arr 0 1 false [I k])) :
  W.call (.clo 82 [] [.optr a 0 0 0, .optr m 0 0 0]) [q.av] H = some (.bool (decide (q.name = p.name)), H ++ [.arr 0 5 false [q.av]]) := by
 rw [W_call Φ82]
 have p1 : ∀ B, (H ++ [B])[a]? = some (.arr 0 1 false [Sl.av Pr.av 5 x]) := app_get ha
 have p2 : ∀ B, (H ++ [B])[m]? = some (.arr 0 1 false [I k]) := app_get hm
 have hk := (gEs.1 hp).1
 simp [fi82, c82, evFun, enterFr, intBin, resV, rvVs, rvV, strBin, p1, p2, hp, hk, app_last, -getElem?_pos, gEz]
theorem loop33 (s : So) (x : Sl Pr) (hl : x.l.length ≤ 1000000000) : ∀ (r : List Pr) (k m : Nat) (H : Heap), x.l.drop k = r → k ≤ x.l.length → 2 < m → H[0]? = some (.arr 0 2 false [s.av]) → H[1]? = some (.arr 0 2 false [(⟨slNil, slNil⟩ : So).av]) → H[2]? = some (.arr 0 1 false [Sl.av Pr.av 5 x]) → H[m]? = some (.arr 0 1 false [I k]) →
  okC (W.loop [2, 4, 7, 8] l33_0 [(2, .optr 0 0 0 0), (4, .optr 1 0 0 0), (7, .optr 2 0 0 0), (8, .optr m 0 0 0)] H)
   (fun y F' H' => if dupR (x.l.take k) r = true then y = .ret ∧ F'.get 4 = .optr 1 0 0 0 ∧ F'.get 5 = I 6 ∧ H'[1]? = some (.arr 0 2 false [(⟨slNil, slNil⟩ : So).av])
    else y = .exit 0 ∧ F'.keep [2, 4, 7] = [(2, .optr 0 0 0 0), (4, .optr 1 0 0 0), (7, .optr 2 0 0 0)] ∧ H'[0]? = some (.arr 0 2 false [s.av]) ∧ H'[1]? = some (.arr 0 2 false [(⟨slNil, slNil⟩ : So).av]) ∧ H'[2]? = some (.arr 0 1 false [Sl.av Pr.av 5 x])) := by
 intro r
 induction r with
 | nil =>
  intro k m H h1 h2 h3 g0 g1 g2 gm
  have hk := drop_nil_len h1 h2
  rw [om_turn]
  simp [evl33_0, b33_0, intBin, g2, gm, hk, dupR, g0, g1]
 | cons a r ihr =>
  intro k m H h1 h2 h3 g0 g1 g2 gm
  obtain ⟨hlt, ha, hr⟩ := drop_cons h1
  have hlt' : (k : Int) < x.l.length := by omega
  have hw : IntKind.wrap .i64 ((k : Int) + 1) = (k : Int) + 1 := by rw [wrap64] <;> omega
  obtain ⟨v, H', d1, rfl, d2⟩ := okV_iff.1 (any28 (x.part 5 0 k) (by simp [Sl.part]; omega) (.clo 82 [] [.optr 2 0 0 0, .optr m 0 0 0]) rfl (fun q => decide (q.name = a.name)) H
   (fun q _ G hk => by rw [call82 x k a q ha 2 m G (hk.get (by simp) g2) (hk.get (by simp) gm)]; exact ⟨rfl, Kept.append _ _ _⟩))
  have hpart : (x.part 5 0 k).l = x.l.take k := by simp [Sl.part]
  rw [hpart] at d1
  have q0 : H'[0]? = some (.arr 0 2 false [s.av]) := d2.get (by simp) g0
  have q1 : H'[1]? = some (.arr 0 2 false [(⟨slNil, slNil⟩ : So).av]) := d2.get (by simp) g1
  have q2 : H'[2]? = some (.arr 0 1 false [Sl.av Pr.av 5 x]) := d2.get (by simp) g2
  have qm : H'[m]? = some (.arr 0 1 false [I k]) := d2.get (by simp) gm
  have hlen : 3 ≤ H'.length := (gEs.1 q2).1
  have hsv : ∀ G, slcV G false 5 false true (Sl.av Pr.av 5 x) [I k] = Sl.av Pr.av 5 (x.part 5 0 k) := fun G => by
   have hc : (0 : Int) ≤ k ∧ (k : Int) ≤ x.l.length := by omega
   rw [sl_slc, slcB_ft, if_pos hc, slcR_some, Int.toNat_natCast]; exact sl_part 0 k (by omega)
  have hJ := ihr (k + 1) H'.length (H' ++ [.arr 0 1 false [I ((k + 1 : Nat) : Int)]]) hr (by omega) (by omega) (app_get q0 _) (app_get q1 _) (app_get q2 _) (app_last _ _)
  have ht : x.l.take (k + 1) = x.l.take k ++ [a] := by rw [List.take_add_one, ha]; rfl
  rw [ht] at hJ
  simp only [Int.natCast_add, Int.cast_ofNat_Int] at hJ
  rw [om_turn]
  by_cases hany : ((x.l.take k).any fun q => decide (q.name = a.name)) = true
  ·rw [hany] at d1
   have hd : dupR (x.l.take k) (a :: r) = true := by simp only [dupR, hany, Bool.true_or]
   simp only [hd, if_true]
   have hz : (.agg [.isl (some true) 0 [], .isl (some true) 0 []] : AV) = (⟨slNil, slNil⟩ : So).av := rfl
   have hs1 : ∀ B, (H'.set 1 B)[1]? = some B := fun B => gEt (by omega)
   simp [evl33_0, b33_0, intBin, g2, gm, hlt, hsv, d1, q1, hz, hs1, -getElem?_pos, gEz, -sl_slc]
  ·have hany := Bool.eq_false_iff.2 hany
   rw [hany] at d1
   have hd : dupR (x.l.take k) (a :: r) = dupR (x.l.take k ++ [a]) r := by simp only [dupR, hany, Bool.false_or]
   simp only [hd]
   simp [evl33_0, b33_0, intBin, g2, gm, hlt, hsv, d1, q0, q1, q2, qm, hw, app1_s, app_last, app_get qm, -getElem?_pos, gEz, -sl_slc]
   simpa using hJ
def addI (s : So) (l : List Pr) : Int :=
 if soCheck s ≠ 0 then soCheck s else if dupR s.procs.l l = true then 6 else soCheck ⟨s.decls, catS s.procs.l l⟩
def addS (s : So) (l : List Pr) : So := if addI s l = 0 then ⟨s.decls, catS s.procs.l l⟩ else ⟨slNil, slNil⟩
theorem e33 (s : So) (hs : s.fine) (x : Sl Pr) (hx : ∀ p ∈ x.l, p.fine) (hl : s.procs.l.length + x.l.length ≤ 1000) :
  W.pure 33 [s.av, Sl.av Pr.av 5 x] = some (.tuple [(addS s x.l).av, I (addI s x.l)]) := by
 rw [W_pure Φ33 (by simp)]
 have c1 := e26 s hs
 have c2 := e81 s.procs x hl
 have hcl := catS_l s.procs.l x.l
 have hfc : So.fine ⟨s.decls, catS s.procs.l x.l⟩ := by
  refine ⟨hs.1, by rw [hcl, List.length_append]; omega, fun p hp => ?_⟩
  rw [hcl, List.mem_append] at hp
  rcases hp with hp | hp
  ·exact hs.2.2 p hp
  ·exact hx p hp
 have c3 := e26 _ hfc
 have hz : (.agg [.isl (some true) 0 [], .isl (some true) 0 []] : AV) = (⟨slNil, slNil⟩ : So).av := rfl
 have hso : (.agg [Sl.av Dc.av 5 s.decls, Sl.av Pr.av 5 (catS s.procs.l x.l)] : AV) = (⟨s.decls, catS s.procs.l x.l⟩ : So).av := rfl
 have htwo : (.isl (some false) 1 [Sl.av Pr.av 5 s.procs, Sl.av Pr.av 5 x] : AV) = two s.procs x := rfl
 have htok : okO (two s.procs x) = some (two s.procs x) := rfl
 have hL := loop33 s (catS s.procs.l x.l) (by rw [hcl, List.length_append]; omega) x.l s.procs.l.length 3 [.arr 0 2 false [s.av], .arr 0 2 false [(⟨slNil, slNil⟩ : So).av], .arr 0 1 false [Sl.av Pr.av 5 (catS s.procs.l x.l)], .arr 0 1 false [I s.procs.l.length]]
  (by rw [hcl]; simp) (by rw [hcl, List.length_append]; omega) (by omega) rfl rfl rfl rfl
 rw [hcl, List.take_left' rfl] at hL
 obtain ⟨y, F, H, d1, d2⟩ := okC_iff.1 hL
 unfold addS addI
 by_cases z1 : soCheck s = 0
 rotate_left
 ·simp [fi33, c33, evFun, enterFr, intBin, resV, rvVs, rvV, c1, z1, hz, -getElem?_pos, gEz]
 cases z2 : dupR s.procs.l x.l with
 | true =>
  rw [z2, if_pos rfl] at d2
  obtain ⟨rfl, d3, d4, d5⟩ := d2
  simp [fi33, c33, evFun, enterFr, intBin, resV, rvVs, rvV, c1, z1, htwo, htok, c2, hz, d1, d3, d4, d5, -getElem?_pos, gEz]
 | false =>
 rw [z2, if_neg (by simp)] at d2
 obtain ⟨rfl, d3, d4, d5, d6⟩ := d2
 have hlen : 3 ≤ H.length := (gEs.1 d6).1
 have a1 : ∀ B, (H ++ [B])[1]? = some (.arr 0 2 false [(⟨slNil, slNil⟩ : So).av]) := app_get d5
 have a2 : ∀ B, (H ++ [B])[2]? = some (.arr 0 1 false [Sl.av Pr.av 5 (catS s.procs.l x.l)]) := app_get d6
 have a0 : ∀ B, (H ++ [B])[0]? = some (.arr 0 2 false [s.av]) := app_get d4
 have s1 : ∀ B C, ((H ++ [B]).set 1 C)[1]? = some C := fun B C => gEt (by simp; omega)
 by_cases z3 : soCheck ⟨s.decls, catS s.procs.l x.l⟩ = 0
 ·simp [fi33, c33, evFun, enterFr, intBin, resV, rvVs, rvV, c1, z1, htwo, htok, c2, hz, hso, d1, d3, d4, d5, d6, a0, a1, a2, s1, c3, z3, app1_s, app_last, -getElem?_pos, gEz]
 ·simp [fi33, c33, evFun, enterFr, intBin, resV, rvVs, rvV, c1, z1, htwo, htok, c2, hz, hso, d1, d3, d4, d5, d6, a0, a1, a2, s1, c3, z3, app1_s, app_last, -getElem?_pos, gEz]
end Go.Proofs.YtddpboiceemihaaGreatDoor
end
section
namespace Go.Proofs.YtddpboiceemihaaGreatDoor
open Go Go.RowKit
set_option linter.unusedVariables false
set_option linter.unusedSimpArgs false
set_option maxRecDepth 10000
mutual
theorem Ex.eqv_rf : ∀ e : Ex, e.eqv e = true
 | .mk k o n v _ _ l => by simp only [Ex.eqv]; simp [Ex.kind, Ex.op, Ex.name, Ex.value, Ex.args, Ex.eqvs_rf l]
theorem Ex.eqvs_rf : ∀ l : List Ex, Ex.eqvs l l = true
 | [] => by simp only [Ex.eqvs]
 | a :: r => by simp only [Ex.eqvs, Ex.eqv_rf a, Ex.eqvs_rf r, Bool.and_true]
end
theorem sameEx_z {e : Ex} (h : exZero e = true) : sameEx e e = true := by simp [sameEx, h]
theorem sameEx_c {e : Ex} (h : exCheck e = 0) : sameEx e e = true := by simp [sameEx, exEqual, h, Ex.eqv_rf]
theorem sameEx_i {e : Ex} (h : exI e = 0) : sameEx e e = true := by
 refine sameEx_c ?_
 unfold exI at h
 split at h
 ·assumption
 ·rename_i h'; exact absurd h h'
theorem all2_rf {α : Type} {p : α → α → Bool} : ∀ {l : List α}, (∀ a ∈ l, p a a = true) → all2 p l l = true
 | [], _ => rfl
 | a :: r, h => by simp only [all2, h a (by simp), all2_rf (l := r) (fun b hb => h b (by simp [hb])), Bool.and_true]
theorem st_same {x : St} (h : stCheck x = 0) : all2 sameEx x.exprs.l x.exprs.l = true ∧ ∀ c ∈ x.cs.l, sameEx c.expr c.expr = true := by
 unfold stCheck at h
 split at h
 ·cases h
 ·rename_i h1
  split at h
  ·cases h
  ·rename_i h2
   split at h
   ·cases h
   ·split at h
    ·cases h
    ·unfold exsI at h
     have e1 : errOf (stEx x.kind) x.exprs.l = 0 := by
      by_cases hz : errOf (stEx x.kind) x.exprs.l = 0
      ·exact hz
      ·rw [if_pos (by simpa using hz)] at h; exact h
     rw [if_neg (by simpa using e1)] at h
     have e2 : errOf csEx x.cs.l = 0 := by
      by_cases hz : errOf csEx x.cs.l = 0
      ·exact hz
      ·rw [if_pos (by simpa using hz)] at h; exact h
     refine ⟨all2_rf fun e he => ?_, fun c hc => ?_⟩
     ·have := errOf_ok.1 e1 e he
      unfold stEx at this
      split at this
      ·rename_i h; exact sameEx_z h.2
      ·exact sameEx_i this
     ·have h3 := errOf_ok.1 e2 c hc
      unfold csEx at h3
      split at h3
      ·exact sameEx_i h3
      ·rename_i hk
       have h4 : fldB x (shpOf x.kind x.op).1 = true := by
        cases hb : fldB x (shpOf x.kind x.op).1 with
        | true => rfl
        | false => exact absurd hb h2
       unfold fldB at h4
       split at h4
       ·cases h4
       ·split at h4
        ·cases h4
        ·split at h4
         ·have := of_decide_eq_true h4
          rw [this] at hc; cases hc
         ·split at h4
          ·have h5 := List.all_eq_true.1 h4 c hc
           unfold casB at h5
           rw [if_neg hk] at h5
           split at h5
           ·simp only [Bool.and_eq_true] at h5; exact sameEx_z h5.1
           ·simp only [Bool.and_eq_true] at h5; exact sameEx_z h5.1.2
          ·cases h4
theorem okL_eqvs : ∀ (n : Nat) (l : List St), St.bigs l ≤ n → (∀ x ∈ St.pres l, stCheck x = 0) → St.eqvs l l = true := by
 intro n
 induction n using Nat.strongRecOn with
 | ind n ihn =>
  intro l hn h
  rw [St.eqvs_all2]
  refine all2_rf fun x hx => ?_
  have hbig := St.bigs_mem hx
  rw [St.big_eq] at hbig
  have hpre : ∀ y ∈ x.pre, stCheck y = 0 := by
   intro y hy
   refine h y ?_
   clear h hn hbig ihn
   induction l with
   | nil => cases hx
   | cons a r ih =>
    simp only [St.pres, List.mem_append]
    cases hx with
    | head => exact .inl hy
    | tail _ hx => exact .inr (ih hx)
  rw [St.pre_eq] at hpre
  have h0 := st_same (hpre x (by simp))
  have h1 := ihn (St.bigs x.body.l) (by omega) x.body.l (Nat.le_refl _) (fun y hy => hpre y (by simp [hy]))
  have h2 := ihn (St.bigs x.els.l) (by omega) x.els.l (Nat.le_refl _) (fun y hy => hpre y (by simp [hy]))
  have h3 : Cs.eqvs x.cs.l x.cs.l = true := by
   rw [Cs.eqvs_all2]
   refine all2_rf fun c hc => ?_
   have hb := Cs.bigs_mem hc
   rw [Cs.big_eq] at hb
   have h4 := ihn (St.bigs c.body.l) (by omega) c.body.l (Nat.le_refl _) (fun y hy => by
    refine hpre y ?_
    simp only [List.mem_cons, List.mem_append]
    refine .inr (.inr (.inr ?_))
    generalize x.cs.l = L at hc
    induction L with
    | nil => cases hc
    | cons a r ih =>
     simp only [Cs.pres, Cs.pre_eq, List.mem_append]
     cases hc with
     | head => exact .inl hy
     | tail _ hc => exact .inr (ih hc))
   rw [Cs.eqv_eq]
   simp [h0.2 c hc, h4]
  rw [St.eqv_eq]
  simp [h0.1, h1, h2, h3]
theorem prEq_rf {p : Pr} (h : prCheck p = 0) : prEq p p = true := by
 have h1 : errOf stCheck (St.pres p.body.l) = 0 := by
  unfold prCheck at h
  split at h
  ·cases h
  ·split at h
   ·cases h
   ·split at h
    ·cases h
    ·split at h
     ·cases h
     ·split at h
      ·cases h
      ·exact h
 have h2 := okL_eqvs _ p.body.l (Nat.le_refl _) (errOf_ok.1 h1)
 simp [prEq, h2]
theorem so_parts {s : So} (h : soCheck s = 0) : s.decls.l.length ≤ 32 ∧ s.procs.l.length ≤ 32 ∧ (s.procs.l.map Pr.cost).sum ≤ 300 ∧ (∀ p ∈ s.procs.l, St.deps p.body.l ≤ 12) ∧ errOf dcCheck s.decls.l = 0 ∧ ∀ p ∈ s.procs.l, prCheck p = 0 := by
 unfold soCheck at h
 split at h
 ·cases h
 ·rename_i h1
  split at h
  ·cases h
  ·rename_i h2
   have h3 : ∀ p ∈ s.procs.l, St.deps p.body.l ≤ 12 := by
    intro p hp
    have h4 : ¬ (12 < St.deps p.body.l) := fun h5 => h2 (List.any_eq_true.2 ⟨p, hp, decide_eq_true h5⟩)
    omega
   by_cases h4 : errOf dcCheck s.decls.l = 0
   ·rw [if_neg (by simpa using h4)] at h
    exact ⟨by omega, by omega, by omega, h3, h4, errOf_ok.1 h⟩
   ·rw [if_pos (by simpa using h4)] at h; exact absurd h h4
theorem so_of {s : So} (h1 : s.decls.l.length ≤ 32) (h2 : s.procs.l.length ≤ 32) (h3 : (s.procs.l.map Pr.cost).sum ≤ 300) (h4 : ∀ p ∈ s.procs.l, St.deps p.body.l ≤ 12) (h5 : errOf dcCheck s.decls.l = 0) (h6 : ∀ p ∈ s.procs.l, prCheck p = 0) : soCheck s = 0 := by
 have h7 : (s.procs.l.any fun p => decide (12 < St.deps p.body.l)) = false := by
  rw [Bool.eq_false_iff]; intro ha
  obtain ⟨p, hp, he⟩ := List.any_eq_true.1 ha
  have := h4 p hp
  have := of_decide_eq_true he
  omega
 unfold soCheck
 rw [if_neg (by omega), h7, if_neg (by simp), if_neg (by simpa using h5)]
 exact errOf_ok.2 h6
theorem so_sub {s t : So} (h : soCheck s = 0) (hd : t.decls.l = s.decls.l ∨ t.decls.l = []) (hl : t.procs.l.length ≤ s.procs.l.length) (hc : (t.procs.l.map Pr.cost).sum ≤ (s.procs.l.map Pr.cost).sum) (hm : ∀ p ∈ t.procs.l, p ∈ s.procs.l) : soCheck t = 0 := by
 obtain ⟨h1, h2, h3, h4, h5, h6⟩ := so_parts h
 refine so_of ?_ (by omega) (by omega) (fun p hp => h4 p (hm p hp)) ?_ (fun p hp => h6 p (hm p hp))
 ·rcases hd with hd | hd <;> rw [hd]
  ·exact h1
  ·simp
 ·rcases hd with hd | hd <;> rw [hd]
  ·exact h5
  ·rfl
theorem soEq_of {a b : So} (ha : soCheck a = 0) (hb : soCheck b = 0) (hd : a.decls.l = b.decls.l) (hp : a.procs.l = b.procs.l) : soEq a b = true := by
 obtain ⟨_, _, _, _, _, h6⟩ := so_parts ha
 unfold soEq
 rw [← hd, ← hp, all2_rf (p := fun x y : Dc => decide (x = y)) (fun d _ => by simp), all2_rf (fun p hp => prEq_rf (h6 p hp))]
 simp [ha, hb]
theorem dupR_append : ∀ (A B C : List Pr), dupR A (B ++ C) = (dupR A B || dupR (A ++ B) C)
 | A, [], C => by simp [dupR]
 | A, p :: r, C => by
  simp only [List.cons_append, dupR, dupR_append (A ++ [p]) r C, List.append_assoc, List.nil_append, Bool.or_assoc]
end Go.Proofs.YtddpboiceemihaaGreatDoor
end
section
namespace Go.Proofs.YtddpboiceemihaaGreatDoor
open Go Go.RowKit
set_option linter.unusedVariables false
set_option linter.unusedSimpArgs false
set_option maxRecDepth 10000
structure Rd (s : Sh) (a : AV) : Prop where
 int : s = .int .i64 → ∃ n, a = I n
 str : s = .str → ∃ b, a = .str b
 strs : s = .sl false [.str] → ∃ x : Sl (List UInt8), a = Sl.av AV.str 1 x ∧ x.l.length ≤ maxLen
 exs : s = .rcs 73 → ∃ x : Sl Ex, a = Sl.av Ex.av 5 x ∧ x.l.length ≤ maxLen
 sts : s = .rcs 52 → ∃ x : Sl St, a = Sl.av St.av 8 x ∧ x.l.length ≤ maxLen ∧ St.fines x.l
 css : s = .rcs 105 → ∃ x : Sl Cs, a = Sl.av Cs.av 9 x ∧ x.l.length ≤ maxLen ∧ Cs.fines x.l
theorem maxL : maxLen ≤ 9223372036854775807 := by decide
theorem fines_of {l : List St} (h : ∀ x ∈ l, x.fine) : St.fines l := by
 induction l with
 | nil => trivial
 | cons a r ih => exact ⟨h a (by simp), ih fun x hx => h x (by simp [hx])⟩
theorem cfines_of {l : List Cs} (h : ∀ x ∈ l, x.fine) : Cs.fines l := by
 induction l with
 | nil => trivial
 | cons a r ih => exact ⟨h a (by simp), ih fun x hx => h x (by simp [hx])⟩
theorem sl_mk {α : Type} (f : α → AV) (n : Nat) (m : List α) : (.isl (some false) n (m.map f) : AV) = Sl.av f n ⟨some false, n, m⟩ := by cases m <;> rfl
theorem rec73 {g : Bool} {l : List Sh} (h : recL 73 = some (g, l)) : g = true ∧ l = [.int .i64, .int .i64, .str, .int .i64, .rcs 73] := by
 have : recL 73 = some (true, [.int .i64, .int .i64, .str, .int .i64, .rcs 73]) := by kernel_rfl
 rw [this] at h
 simp only [Option.some.injEq, Prod.mk.injEq] at h
 exact ⟨h.1.symm, h.2.symm⟩
theorem rec52 {g : Bool} {l : List Sh} (h : recL 52 = some (g, l)) : g = true ∧ l = [.int .i64, .int .i64, .str, .sl false [.str], .rcs 73, .rcs 52, .rcs 52, .rcs 105] := by
 have : recL 52 = some (true, [.int .i64, .int .i64, .str, .sl false [.str], .rcs 73, .rcs 52, .rcs 52, .rcs 105]) := by kernel_rfl
 rw [this] at h
 simp only [Option.some.injEq, Prod.mk.injEq] at h
 exact ⟨h.1.symm, h.2.symm⟩
theorem rec105 {g : Bool} {l : List Sh} (h : recL 105 = some (g, l)) : g = true ∧ l = [.int .i64, .str, .int .i64, .int .i64, .str, .int .i64, .rcs 73, .sl false [.str], .rcs 52] := by
 have : recL 105 = some (true, [.int .i64, .str, .int .i64, .int .i64, .str, .int .i64, .rcs 73, .sl false [.str], .rcs 52]) := by kernel_rfl
 rw [this] at h
 simp only [Option.some.injEq, Prod.mk.injEq] at h
 exact ⟨h.1.symm, h.2.symm⟩
theorem row_ex {e : AV} (hr : RowOk true 5 e) (ih : ∀ (j : Nat) (c : AV) (s : Sh), (AV.cells e)[j]? = some c → ([.int .i64, .int .i64, .str, .int .i64, .rcs 73] : List Sh)[j]? = some s → Rd s c) : ∃ x : Ex, e = x.av ∧ True := by
 obtain ⟨cs, rfl, hl⟩ := hr.1 rfl
 match cs, hl with
 | [a0, a1, a2, a3, a4], _ =>
  obtain ⟨n0, rfl⟩ := (ih 0 _ _ rfl rfl).int rfl
  obtain ⟨n1, rfl⟩ := (ih 1 _ _ rfl rfl).int rfl
  obtain ⟨n2, rfl⟩ := (ih 2 _ _ rfl rfl).str rfl
  obtain ⟨n3, rfl⟩ := (ih 3 _ _ rfl rfl).int rfl
  obtain ⟨n4, rfl, _⟩ := (ih 4 _ _ rfl rfl).exs rfl
  exact ⟨Ex.of n0 n1 n2 n3 n4, by rw [Ex.av_eq]; rfl, trivial⟩
theorem row_st {e : AV} (hr : RowOk true 8 e) (ih : ∀ (j : Nat) (c : AV) (s : Sh), (AV.cells e)[j]? = some c → ([.int .i64, .int .i64, .str, .sl false [.str], .rcs 73, .rcs 52, .rcs 52, .rcs 105] : List Sh)[j]? = some s → Rd s c) : ∃ x : St, e = x.av ∧ x.fine := by
 obtain ⟨cs, rfl, hl⟩ := hr.1 rfl
 match cs, hl with
 | [a0, a1, a2, a3, a4, a5, a6, a7], _ =>
  obtain ⟨n0, rfl⟩ := (ih 0 _ _ rfl rfl).int rfl
  obtain ⟨n1, rfl⟩ := (ih 1 _ _ rfl rfl).int rfl
  obtain ⟨n2, rfl⟩ := (ih 2 _ _ rfl rfl).str rfl
  obtain ⟨n3, rfl, h3⟩ := (ih 3 _ _ rfl rfl).strs rfl
  obtain ⟨n4, rfl, h4⟩ := (ih 4 _ _ rfl rfl).exs rfl
  obtain ⟨n5, rfl, h5, k5⟩ := (ih 5 _ _ rfl rfl).sts rfl
  obtain ⟨n6, rfl, h6, k6⟩ := (ih 6 _ _ rfl rfl).sts rfl
  obtain ⟨n7, rfl, h7, k7⟩ := (ih 7 _ _ rfl rfl).css rfl
  have := maxL
  refine ⟨St.of n0 n1 n2 n3 n4 n5 n6 n7, by rw [St.av_eq]; rfl, ?_⟩
  rw [St.fine_eq]
  exact ⟨Nat.le_trans h4 this, Nat.le_trans h3 this, Nat.le_trans h5 this, Nat.le_trans h6 this, Nat.le_trans h7 this, k5, k6, k7⟩
theorem row_cs {e : AV} (hr : RowOk true 9 e) (ih : ∀ (j : Nat) (c : AV) (s : Sh), (AV.cells e)[j]? = some c → ([.int .i64, .str, .int .i64, .int .i64, .str, .int .i64, .rcs 73, .sl false [.str], .rcs 52] : List Sh)[j]? = some s → Rd s c) : ∃ x : Cs, e = x.av ∧ x.fine := by
 obtain ⟨cs, rfl, hl⟩ := hr.1 rfl
 match cs, hl with
 | [a0, a1, a2, a3, a4, a5, a6, a7, a8], _ =>
  obtain ⟨n0, rfl⟩ := (ih 0 _ _ rfl rfl).int rfl
  obtain ⟨n1, rfl⟩ := (ih 1 _ _ rfl rfl).str rfl
  obtain ⟨n2, rfl⟩ := (ih 2 _ _ rfl rfl).int rfl
  obtain ⟨n3, rfl⟩ := (ih 3 _ _ rfl rfl).int rfl
  obtain ⟨n4, rfl⟩ := (ih 4 _ _ rfl rfl).str rfl
  obtain ⟨n5, rfl⟩ := (ih 5 _ _ rfl rfl).int rfl
  obtain ⟨n6, rfl, h6⟩ := (ih 6 _ _ rfl rfl).exs rfl
  obtain ⟨n7, rfl, h7⟩ := (ih 7 _ _ rfl rfl).strs rfl
  obtain ⟨n8, rfl, h8, k8⟩ := (ih 8 _ _ rfl rfl).sts rfl
  have := maxL
  refine ⟨Cs.of n0 n1 (Ex.of n2 n3 n4 n5 n6) n7 n8, by rw [Cs.av_eq]; rfl, ?_⟩
  rw [Cs.fine_eq]
  exact ⟨Nat.le_trans h7 this, Nat.le_trans h8 this, k8⟩
theorem rd_of {s : Sh} {a : AV} (h : ShOk s a) : Rd s a := by
 induction h with
 | bool b => exact ⟨by rintro ⟨⟩, by rintro ⟨⟩, by rintro ⟨⟩, by rintro ⟨⟩, by rintro ⟨⟩, by rintro ⟨⟩⟩
 | int k n h => exact ⟨by rintro ⟨⟩; exact ⟨n, rfl⟩, by rintro ⟨⟩, by rintro ⟨⟩, by rintro ⟨⟩, by rintro ⟨⟩, by rintro ⟨⟩⟩
 | str b h => exact ⟨by rintro ⟨⟩, by rintro ⟨⟩; exact ⟨b, rfl⟩, by rintro ⟨⟩, by rintro ⟨⟩, by rintro ⟨⟩, by rintro ⟨⟩⟩
 | nil g l => exact ⟨by rintro ⟨⟩, by rintro ⟨⟩, by rintro ⟨⟩; exact ⟨⟨some true, 1, []⟩, rfl, by simp⟩, by rintro ⟨⟩, by rintro ⟨⟩, by rintro ⟨⟩⟩
 | sl g l es hl hr hv ih =>
  refine ⟨by rintro ⟨⟩, by rintro ⟨⟩, ?_, by rintro ⟨⟩, by rintro ⟨⟩, by rintro ⟨⟩⟩
  rintro ⟨⟩
  obtain ⟨m, h1, h2⟩ := map_of (f := AV.str) (p := fun _ => True) es (fun e he => by
   obtain ⟨i, hi⟩ := List.getElem?_of_mem he
   have hc := (hr i e hi).2 rfl
   obtain ⟨b, rfl⟩ := (ih i e 0 e .str hi (by rw [hc]; rfl) rfl).str rfl
   exact ⟨b, rfl, trivial⟩)
  subst h1
  exact ⟨⟨some false, 1, m⟩, sl_mk AV.str 1 m, by simpa using hl⟩
 | rnil e g l h =>
  refine ⟨by rintro ⟨⟩, by rintro ⟨⟩, by rintro ⟨⟩, ?_, ?_, ?_⟩
  ·rintro ⟨⟩; exact ⟨⟨some true, l.length, []⟩, rfl, by simp⟩
  ·rintro ⟨⟩; exact ⟨⟨some true, l.length, []⟩, rfl, by simp, trivial⟩
  ·rintro ⟨⟩; exact ⟨⟨some true, l.length, []⟩, rfl, by simp, trivial⟩
 | rsl e g l h es hl hr hv ih =>
  refine ⟨by rintro ⟨⟩, by rintro ⟨⟩, by rintro ⟨⟩, ?_, ?_, ?_⟩
  ·rintro ⟨⟩
   obtain ⟨rfl, rfl⟩ := rec73 h
   obtain ⟨m, h1, h2⟩ := map_of (f := Ex.av) (p := fun _ => True) es (fun e he => by
    obtain ⟨i, hi⟩ := List.getElem?_of_mem he
    exact row_ex (hr i e hi) (fun j c s hc hs => ih i e j c s hi hc hs))
   subst h1
   exact ⟨⟨some false, 5, m⟩, sl_mk Ex.av 5 m, by simpa using hl⟩
  ·rintro ⟨⟩
   obtain ⟨rfl, rfl⟩ := rec52 h
   obtain ⟨m, h1, h2⟩ := map_of (f := St.av) (p := fun x => x.fine) es (fun e he => by
    obtain ⟨i, hi⟩ := List.getElem?_of_mem he
    exact row_st (hr i e hi) (fun j c s hc hs => ih i e j c s hi hc hs))
   subst h1
   exact ⟨⟨some false, 8, m⟩, sl_mk St.av 8 m, by simpa using hl, fines_of h2⟩
  ·rintro ⟨⟩
   obtain ⟨rfl, rfl⟩ := rec105 h
   obtain ⟨m, h1, h2⟩ := map_of (f := Cs.av) (p := fun x => x.fine) es (fun e he => by
    obtain ⟨i, hi⟩ := List.getElem?_of_mem he
    exact row_cs (hr i e hi) (fun j c s hc hs => ih i e j c s hi hc hs))
   subst h1
   exact ⟨⟨some false, 9, m⟩, sl_mk Cs.av 9 m, by simpa using hl, cfines_of h2⟩
def prSh : List Sh := [.int .i64, .str, .sl false [.str], .int .i64, .rcs 52]
def soSh : List Sh := [.sl true dcSh, .sl true prSh]
theorem Pr_of {e : AV} (hr : RowOk true 5 e) (hv : ∀ (j : Nat) (c : AV) (s : Sh), (AV.cells e)[j]? = some c → prSh[j]? = some s → ShOk s c) : ∃ p : Pr, e = p.av ∧ p.fine := by
 obtain ⟨cs, rfl, hl⟩ := hr.1 rfl
 match cs, hl with
 | [a0, a1, a2, a3, a4], _ =>
  obtain ⟨n0, rfl⟩ := (rd_of (hv 0 _ _ rfl rfl)).int rfl
  obtain ⟨n1, rfl⟩ := (rd_of (hv 1 _ _ rfl rfl)).str rfl
  obtain ⟨n2, rfl, h2⟩ := (rd_of (hv 2 _ _ rfl rfl)).strs rfl
  obtain ⟨n3, rfl⟩ := (rd_of (hv 3 _ _ rfl rfl)).int rfl
  obtain ⟨n4, rfl, h4, k4⟩ := (rd_of (hv 4 _ _ rfl rfl)).sts rfl
  exact ⟨⟨n0, n1, n2, n3, n4⟩, rfl, k4, Nat.le_trans h4 maxL, Nat.le_trans h2 maxL⟩
theorem So_of {e : AV} (hr : RowOk true 2 e) (hv : ∀ (j : Nat) (c : AV) (s : Sh), (AV.cells e)[j]? = some c → soSh[j]? = some s → ShOk s c) : ∃ s : So, e = s.av ∧ s.fine := by
 obtain ⟨cs, rfl, hl⟩ := hr.1 rfl
 match cs, hl with
 | [a0, a1], _ =>
  obtain ⟨n0, h0, w0⟩ := sl_of (f := Dc.av) (p := fun _ => True) (fun e h1 h2 => by obtain ⟨d, h3, _⟩ := Dc_of h1 h2; exact ⟨d, h3, trivial⟩) (hv 0 _ _ rfl rfl)
  obtain ⟨n1, h1, w1⟩ := sl_of (f := Pr.av) (p := fun p => p.fine) (fun e h1 h2 => Pr_of h1 h2) (hv 1 _ _ rfl rfl)
  subst h0; subst h1
  exact ⟨⟨n0, n1⟩, rfl, Nat.le_trans w0.len maxL, Nat.le_trans w1.len maxL, w1.all⟩
theorem So_arg {a : AV} (h : PShOk (true, soSh) a) : ∃ s : So, a = s.av ∧ s.fine := by
 obtain ⟨cs, rfl, h1, h2⟩ := h.1 rfl
 exact So_of ⟨fun _ => ⟨_, rfl, h1⟩, fun h => by cases h⟩ (fun j c s hc hs => h2 j c s hc hs)
theorem Prs_arg {a : AV} (h : PShOk (false, [.sl true prSh]) a) : ∃ x : Sl Pr, a = Sl.av Pr.av 5 x ∧ x.l.length ≤ maxLen ∧ ∀ p ∈ x.l, p.fine := by
 obtain ⟨x, h1, w⟩ := sl_of (f := Pr.av) (p := fun p => p.fine) (fun e h1 h2 => Pr_of h1 h2) (psh_one h)
 exact ⟨x, h1, w.len, w.all⟩
end Go.Proofs.YtddpboiceemihaaGreatDoor
end
section
namespace Go.Proofs.YtddpboiceemihaaGreatDoor
open Go Go.RowKit
set_option linter.unusedVariables false
set_option linter.unusedSimpArgs false
set_option maxRecDepth 10000
theorem add_ok {s : So} {l : List Pr} (h : addI s l = 0) : soCheck s = 0 ∧ dupR s.procs.l l = false ∧ soCheck ⟨s.decls, catS s.procs.l l⟩ = 0 := by
 unfold addI at h
 by_cases h1 : soCheck s = 0
 ·rw [if_neg (by simpa using h1)] at h
  cases h2 : dupR s.procs.l l with
  | true => rw [if_pos h2] at h; cases h
  | false => rw [if_neg (by simp [h2])] at h; exact ⟨h1, rfl, h⟩
 ·rw [if_pos (by simpa using h1)] at h; exact absurd h h1
theorem add_of {s : So} {l : List Pr} (h1 : soCheck s = 0) (h2 : dupR s.procs.l l = false) (h3 : soCheck ⟨s.decls, catS s.procs.l l⟩ = 0) : addI s l = 0 := by
 unfold addI
 rw [if_neg (by simpa using h1), if_neg (by simp [h2])]; exact h3
theorem addS_eq {s : So} {l : List Pr} (h : addI s l = 0) : addS s l = ⟨s.decls, catS s.procs.l l⟩ := by unfold addS; rw [if_pos h]
theorem add_split {s : So} {l : List Pr} (h : addI s l = 0) (k : Nat) :
  addI s (l.take k) = 0 ∧ addI ⟨s.decls, catS s.procs.l (l.take k)⟩ (l.drop k) = 0 ∧ (catS (catS s.procs.l (l.take k)).l (l.drop k)).l = s.procs.l ++ l := by
 obtain ⟨h1, h2, h3⟩ := add_ok h
 have hl : l = l.take k ++ l.drop k := (List.take_append_drop k l).symm
 have h4 : dupR s.procs.l (l.take k) = false ∧ dupR (s.procs.l ++ l.take k) (l.drop k) = false := by
  rw [hl, dupR_append] at h2
  simpa using h2
 have hp : (catS (catS s.procs.l (l.take k)).l (l.drop k)).l = s.procs.l ++ l := by
  rw [catS_l, catS_l, List.append_assoc, ← hl]
 have hp' : s.procs.l ++ l.take k ++ l.drop k = s.procs.l ++ l := by rw [List.append_assoc, ← hl]
 have hsum : (l.map Pr.cost).sum = ((l.take k).map Pr.cost).sum + ((l.drop k).map Pr.cost).sum := by
  conv => lhs; rw [hl]
  rw [List.map_append, List.sum_append]
 have h5 : soCheck ⟨s.decls, catS s.procs.l (l.take k)⟩ = 0 := by
  refine so_sub h3 (.inl rfl) ?_ ?_ ?_
  ·simp only [catS_l, List.length_append, List.length_take]; omega
  ·simp only [catS_l, List.map_append, List.sum_append]; omega
  ·intro p hp
   simp only [catS_l, List.mem_append] at hp ⊢
   rcases hp with hp | hp
   ·exact .inl hp
   ·exact .inr (List.mem_of_mem_take hp)
 refine ⟨add_of h1 h4.1 h5, add_of h5 (by rw [catS_l]; exact h4.2) ?_, hp⟩
 refine so_sub h3 (.inl rfl) ?_ ?_ ?_
 ·simp only [catS_l, hp']; exact Nat.le_refl _
 ·simp only [catS_l, hp']; exact Nat.le_refl _
 ·intro p hq
  simp only [hp] at hq
  simpa only [catS_l] using hq
theorem slc_to (x : Sl Pr) (k : Nat) (hk : k ≤ x.l.length) (G : Heap) : slcV G false 5 false true (Sl.av Pr.av 5 x) [I k] = Sl.av Pr.av 5 (x.part 5 0 k) := by
 have hc : (0 : Int) ≤ k ∧ (k : Int) ≤ x.l.length := by omega
 rw [sl_slc, slcB_ft, if_pos hc, slcR_some, Int.toNat_natCast]; exact sl_part 0 k hk
theorem slc_from (x : Sl Pr) (k : Nat) (hk : k ≤ x.l.length) (G : Heap) : slcV G false 5 true false (Sl.av Pr.av 5 x) [I k] = Sl.av Pr.av 5 (x.part 5 k x.l.length) := by
 have hc : (0 : Int) ≤ k ∧ (k : Int) ≤ x.l.length := by omega
 rw [sl_slc, slcB_tf, if_pos hc, slcR_some, Int.toNat_natCast]; exact sl_part k x.l.length (Nat.le_refl _)
theorem part_to (x : Sl Pr) (k : Nat) : (x.part 5 0 k).l = x.l.take k := by simp [Sl.part]
theorem part_from (x : Sl Pr) (k : Nat) : (x.part 5 k x.l.length).l = x.l.drop k := by simp [Sl.part]
set_option maxHeartbeats 4000000 in
theorem law7 (s : So) (hs : s.fine) (x : Sl Pr) (hx : ∀ p ∈ x.l, p.fine) (n : Int) (hn : (Lit.int .u8 n).wf = true) : W.pure 7 [s.av, Sl.av Pr.av 5 x, .int .u8 n] = some (.bool true) := by
 rw [W_pure Φ7 (by simp)]
 have hn := wf8 hn
 have g1 := e32 s
 have g2 := e32 ⟨slNil, x⟩
 have aw := e10
 have hso : (.agg [.isl (some true) 0 [], Sl.av Pr.av 5 x] : AV) = (⟨slNil, x⟩ : So).av := rfl
 cases h1 : soGreat s with
 | true => rw [h1] at g1; simp [fi7, c7, evFun, enterFr, intBin, resV, rvVs, rvV, g1, aw]
 | false =>
 cases h2 : soGreat ⟨slNil, x⟩ with
 | true => rw [h1] at g1; rw [h2] at g2; simp [fi7, c7, evFun, enterFr, intBin, resV, rvVs, rvV, g1, hso, g2, aw]
 | false =>
 rw [h1] at g1
 rw [h2] at g2
 have b1 : s.procs.l.length ≤ 40 := by
  simp only [soGreat, Bool.or_eq_false_iff, decide_eq_false_iff_not] at h1; omega
 have b2 : x.l.length ≤ 40 := by
  simp only [soGreat, Bool.or_eq_false_iff, decide_eq_false_iff_not] at h2
  have := h2.1
  simp at this; omega
 have c1 := e33 s hs x hx (by omega)
 by_cases hz : addI s x.l = 0
 rotate_left
 ·have hS : addS s x.l = ⟨slNil, slNil⟩ := by unfold addS; rw [if_neg hz]
  rw [hS] at c1
  simp [fi7, c7, evFun, enterFr, intBin, resV, rvVs, rvV, g1, hso, g2, aw, c1, hz]
 rw [addS_eq hz, hz] at c1
 obtain ⟨k, hk, hmod⟩ : ∃ k : Nat, k ≤ x.l.length ∧ n.tmod ((x.l.length : Int) + 1) = (k : Int) := by
  refine ⟨n.toNat % (x.l.length + 1), ?_, ?_⟩
  ·have := Nat.mod_lt n.toNat (Nat.succ_pos x.l.length)
   simp only [Nat.succ_eq_add_one] at this; omega
  ·obtain ⟨m, rfl⟩ : ∃ m : Nat, n = m := ⟨n.toNat, by omega⟩
   have h3 : ((x.l.length : Int) + 1) = ((x.l.length + 1 : Nat) : Int) := by simp
   rw [h3, Int.tmod_eq_emod_of_nonneg (by omega), ← Int.natCast_emod]; simp
 obtain ⟨z1, z2, z3⟩ := add_split hz k
 obtain ⟨y1, y2, y3⟩ := add_ok hz
 have c2 := e33 s hs (x.part 5 0 k) (fun p hp => hx p (by rw [part_to] at hp; exact List.mem_of_mem_take hp)) (by rw [part_to]; simp; omega)
 rw [part_to, addS_eq z1, z1] at c2
 have fa : So.fine ⟨s.decls, catS s.procs.l (x.l.take k)⟩ := by
  refine ⟨hs.1, by simp only [catS_l, List.length_append, List.length_take]; omega, fun p hp => ?_⟩
  simp only [catS_l, List.mem_append] at hp
  rcases hp with hp | hp
  ·exact hs.2.2 p hp
  ·exact hx p (List.mem_of_mem_take hp)
 have c3 := e33 ⟨s.decls, catS s.procs.l (x.l.take k)⟩ fa (x.part 5 k x.l.length) (fun p hp => hx p (by rw [part_from] at hp; exact List.mem_of_mem_drop hp)) (by rw [part_from]; simp only [catS_l, List.length_append, List.length_take, List.length_drop]; omega)
 rw [part_from, addS_eq z2, z2] at c3
 simp only at c3
 have fall : So.fine ⟨s.decls, catS s.procs.l x.l⟩ := by
  refine ⟨hs.1, by simp only [catS_l, List.length_append]; omega, fun p hp => ?_⟩
  simp only [catS_l, List.mem_append] at hp
  rcases hp with hp | hp
  ·exact hs.2.2 p hp
  ·exact hx p hp
 have fb : So.fine ⟨s.decls, catS (catS s.procs.l (x.l.take k)).l (x.l.drop k)⟩ := by
  refine ⟨hs.1, by simp only [z3, List.length_append]; omega, fun p hp => ?_⟩
  simp only [z3] at hp
  exact fall.2.2 p (by simpa only [catS_l] using hp)
 have hlen : (catS s.procs.l x.l).l.length = s.procs.l.length + x.l.length := by rw [catS_l, List.length_append]
 have l1 : ((catS s.procs.l x.l).part 5 0 s.procs.l.length).l = s.procs.l := by rw [part_to, catS_l]; simp
 have l2 : ((catS s.procs.l x.l).part 5 s.procs.l.length (catS s.procs.l x.l).l.length).l = x.l := by rw [part_from, catS_l]; simp
 have q1 : soEq ⟨s.decls, (catS s.procs.l x.l).part 5 0 s.procs.l.length⟩ s = true :=
  soEq_of (so_sub y1 (.inl rfl) (by simp only [l1]; exact Nat.le_refl _) (by simp only [l1]; exact Nat.le_refl _) (fun p hp => by simpa only [l1] using hp)) y1 rfl l1
 have q2 : soEq ⟨s.decls, catS (catS s.procs.l (x.l.take k)).l (x.l.drop k)⟩ ⟨s.decls, catS s.procs.l x.l⟩ = true :=
  soEq_of (add_ok z2).2.2 y3 rfl (z3.trans (catS_l _ _).symm)
 have hx0 : soCheck ⟨slNil, x⟩ = 0 := so_sub y3 (.inr rfl) (by simp only [hlen]; omega) (by simp only [catS_l, List.map_append, List.sum_append]; omega) (fun p hp => by simp only [catS_l, List.mem_append]; exact .inr hp)
 have q3 : soEq ⟨slNil, (catS s.procs.l x.l).part 5 s.procs.l.length (catS s.procs.l x.l).l.length⟩ ⟨slNil, x⟩ = true :=
  soEq_of (so_sub hx0 (.inl rfl) (by simp only [l2]; exact Nat.le_refl _) (by simp only [l2]; exact Nat.le_refl _) (fun p hp => by simpa only [l2] using hp)) hx0 rfl l2
 have d1 := e34 ⟨s.decls, (catS s.procs.l x.l).part 5 0 s.procs.l.length⟩ s ⟨hs.1, by simp only [l1]; omega, fun p hp => hs.2.2 p (by simpa only [l1] using hp)⟩ hs
 have d2 := e34 _ _ fb fall
 have d3 := e34 ⟨slNil, (catS s.procs.l x.l).part 5 s.procs.l.length (catS s.procs.l x.l).l.length⟩ ⟨slNil, x⟩ ⟨by simp, by simp only [l2]; omega, fun p hp => hx p (by simpa only [l2] using hp)⟩ ⟨by simp, by simp only; omega, hx⟩
 rw [q1] at d1
 rw [q2] at d2
 rw [q3] at d3
 have t1 := slc_to x k hk
 have t2 := slc_from x k hk
 have t3 := slc_to (catS s.procs.l x.l) s.procs.l.length (by rw [hlen]; omega)
 have t4 := slc_from (catS s.procs.l x.l) s.procs.l.length (by rw [hlen]; omega)
 have hwn : IntKind.wrap .i64 n = n := by rw [wrap64] <;> omega
 have hwl : IntKind.wrap .i64 ((x.l.length : Int) + 1) = (x.l.length : Int) + 1 := by rw [wrap64] <;> omega
 have hws : IntKind.wrap .i64 ((s.procs.l.length : Int) + x.l.length) = (s.procs.l.length : Int) + x.l.length := by rw [wrap64] <;> omega
 have hne : ¬ (x.l.length : Int) + 1 = 0 := by omega
 have hsz : ∀ (d : Sl Dc) (p : Sl Pr), (.agg [Sl.av Dc.av 5 d, Sl.av Pr.av 5 p] : AV) = (⟨d, p⟩ : So).av := fun _ _ => rfl
 have hsn : ∀ (p : Sl Pr), (.agg [.isl (some true) 0 [], Sl.av Pr.av 5 p] : AV) = (⟨slNil, p⟩ : So).av := fun _ => rfl
 clear hz z1 z2 z3 y1 y2 y3 fa fall fb l1 l2 q1 q2 q3 hx0
 generalize (catS s.procs.l x.l).part 5 0 s.procs.l.length = P1 at *
 generalize (catS s.procs.l x.l).part 5 s.procs.l.length (catS s.procs.l x.l).l.length = P2 at *
 generalize catS (catS s.procs.l (x.l.take k)).l (x.l.drop k) = P3 at *
 generalize catS s.procs.l (x.l.take k) = P4 at *
 generalize catS s.procs.l x.l = P5 at *
 generalize x.part 5 0 k = P6 at *
 generalize x.part 5 k x.l.length = P7 at *
 simp [fi7, c7, evFun, enterFr, intBin, resV, rvVs, rvV, g1, g2, aw, c1, c2, c3, d1, d2, d3, t1, t2, t3, t4, hwn, hwl, hws, hne, hmod, hsz, hsn, hlen, -sl_slc, -getElem?_pos, gEz]
end Go.Proofs.YtddpboiceemihaaGreatDoor
end
