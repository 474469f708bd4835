/-
  lexer.Keyword, and syntax.name (conditions: none). Equality of lists of names and of expressions, in the reference (conditions: none). Loops over two lists at once (conditions: none). Equality of lists of statements, in the reference (conditions: none). Equality of sources, in the reference (conditions: none). combinator.valid: Check of a source with one procedure without parameters and statements (conditions: none).
-/
import Derived.Test.YtddpboiceemihaaGreatDoorPrer
import Derived.Test.YtddpboiceemihaaGreatDoorPKr
import Derived.Test.YtddpboiceemihaaGreatDoorAAr
section
namespace Go.Proofs.YtddpboiceemihaaGreatDoor
open Go Go.RowKit
set_option linter.unusedVariables false
set_option linter.unusedSimpArgs false
set_option maxRecDepth 10000
theorem nmFrom_no32 : ∀ (s : List UInt8) (k : Nat), nmFrom s k = true → ∀ c ∈ s, c ≠ 32 := by
 intro s
 induction s with
 | nil => intro k _ c hc; cases hc
 | cons b r ih =>
  intro k h c hc
  simp only [nmFrom, Bool.and_eq_true] at h
  cases hc with
  | head =>
   rintro rfl
   have := h.1
   by_cases hk : k = 0 <;> simp [nmI, hk] at this
  | tail _ hc => exact ih (k + 1) h.2 c hc
theorem isNm_no32 {s : List UInt8} (h : isNm s = true) : ∀ c ∈ s, c ≠ 32 := by
 simp only [isNm, Bool.and_eq_true] at h
 exact nmFrom_no32 s 0 h.1.1
theorem kw_text : 32 :: joinW kwords = [32, 97, 99, 113, 117, 105, 114, 101, 32, 97, 100, 100, 32, 97, 110, 121, 32, 97, 114, 114, 105, 118, 101, 32, 97, 115, 32, 97, 115, 115, 101, 114, 116, 32, 97, 116, 111, 109, 105, 99, 32, 97, 119, 97, 105, 116, 32, 98, 97, 114, 114, 105, 101, 114, 32, 98, 101, 103, 105, 110, 32, 98, 114, 111, 97, 100, 99, 97, 115, 116, 32, 98, 117, 100, 103, 101, 116, 32, 99, 97, 108, 108, 32, 99, 97, 110, 99, 101, 108, 32, 99, 104, 97, 110, 110, 101, 108, 32, 99, 104, 101, 99, 107, 112, 111, 105, 110, 116, 32, 99, 108, 101, 97, 110, 117, 112, 32, 99, 108, 111, 115, 101, 32, 99, 111, 109, 112, 108, 101, 116, 101, 32, 99, 111, 110, 100, 32, 100, 101, 97, 100, 108, 105, 110, 101, 32, 100, 101, 102, 97, 117, 108, 116, 32, 100, 101, 102, 101, 114, 32, 101, 108, 115, 101, 32, 101, 109, 105, 116, 32, 101, 110, 100, 32, 101, 118, 101, 114, 121, 32, 102, 97, 105, 108, 32, 102, 117, 110, 99, 32, 102, 117, 116, 117, 114, 101, 32, 105, 102, 32, 108, 101, 116, 32, 108, 105, 109, 105, 116, 101, 114, 32, 108, 111, 99, 107, 32, 109, 97, 115, 107, 32, 109, 117, 116, 101, 120, 32, 110, 101, 120, 116, 32, 111, 110, 32, 112, 114, 105, 111, 114, 105, 116, 121, 32, 112, 117, 98, 108, 105, 115, 104, 32, 114, 101, 97, 100, 108, 111, 99, 107, 32, 114, 101, 97, 100, 117, 110, 108, 111, 99, 107, 32, 114, 101, 99, 101, 105, 118, 101, 32, 114, 101, 108, 101, 97, 115, 101, 32, 114, 101, 112, 101, 97, 116, 32, 114, 101, 116, 117, 114, 110, 32, 114, 119, 108, 111, 99, 107, 32, 115, 99, 111, 112, 101, 32, 115, 101, 108, 101, 99, 116, 32, 115, 101, 109, 97, 112, 104, 111, 114, 101, 32, 115, 101, 110, 100, 32, 115, 105, 103, 110, 97, 108, 32, 115, 108, 101, 101, 112, 32, 115, 112, 97, 119, 110, 32, 115, 117, 98, 115, 99, 114, 105, 98, 101, 32, 115, 119, 97, 112, 32, 116, 97, 107, 101, 32, 116, 97, 115, 107, 32, 116, 111, 112, 105, 99, 32, 116, 114, 121, 97, 99, 113, 117, 105, 114, 101, 32, 116, 114, 121, 108, 111, 99, 107, 32, 117, 110, 108, 111, 99, 107, 32, 117, 110, 115, 117, 98, 115, 99, 114, 105, 98, 101, 32, 118, 97, 114, 32, 119, 97, 105, 116, 32, 119, 104, 105, 108, 101, 32, 119, 114, 105, 116, 101, 108, 111, 99, 107, 32, 119, 114, 105, 116, 101, 117, 110, 108, 111, 99, 107, 32, 121, 105, 101, 108, 100, 32] := by rfl
theorem kw_no32 : ∀ w ∈ kwords, ∀ c ∈ w, c ≠ 32 := by decide
theorem e154 (s : List UInt8) (hn : isNm s = true) : W.pure 154 [.str s] = some (.bool (decide (s ∈ kwords))) := by
 rw [W_pure Φ154 rfl]
 have h32 := isNm_no32 hn
 have hne : s ≠ [] := by rintro rfl; simp [isNm] at hn
 have hl : s.length ≤ 30 := by simp [isNm] at hn; exact hn.2
 have c1 := e164 s [32] (by omega)
 have s1 : Lib.contains s [32] = false := by
  have := contains_skip [] s [] h32
  simpa [contains_nil] using this
 rw [s1] at c1
 have c2 := e164 (32 :: joinW kwords) (32 :: (s ++ [32])) (by rw [kw_text]; simp)
 rw [contains_word s h32 kwords kw_no32, kw_text] at c2
 have l1 : 1 + s.length ≤ 9223372036854775807 := by omega
 have l2 : s.length + 1 + 1 ≤ 9223372036854775807 := by omega
 have l3 : 1 + s.length + 1 ≤ 9223372036854775807 := by omega
 have l4 : s.length + 1 ≤ 9223372036854775807 := by omega
 by_cases hm : s ∈ kwords <;> simp [fi154, c154, evFun, enterFr, intBin, resV, rvVs, rvV, strBin, hne, c1, c2, hm, l1, l2, l3, l4]
theorem exCheck_name (s : List UInt8) : exCheck (.of 2 0 s 0 slNil) = if isNm s = true then 0 else 5 := by
 have h1 : (Ex.of 2 0 s 0 slNil).size = 1 := rfl
 have h2 : (Ex.of 2 0 s 0 slNil).depth = 1 := rfl
 have h3 : (Ex.of 2 0 s 0 slNil).parts = [Ex.of 2 0 s 0 slNil] := rfl
 unfold exCheck
 rw [h1, h2, h3]
 cases h : isNm s <;> simp [errOf, exPart, exShape, h]
theorem e110 (s : List UInt8) : W.pure 110 [.str s] = some (.bool (nameB s)) := by
 rw [W_pure Φ110 rfl]
 have c1 := e153 (Ex.of 2 0 s 0 slNil)
 rw [exCheck_name, ← Ex_mk] at c1
 have e1 : (Sl.av Ex.av 5 slNil : AV) = .isl (some true) 0 [] := rfl
 rw [e1] at c1
 cases h : isNm s with
 | false => simp [h] at c1; simp [fi110, c110, evFun, enterFr, intBin, resV, rvVs, rvV, c1, nameB, h]
 | true =>
  have c2 := e154 s h
  simp [h] at c1
  by_cases hm : s ∈ kwords <;> simp [hm] at c2 <;> simp [fi110, c110, evFun, enterFr, intBin, resV, rvVs, rvV, c1, c2, nameB, h, hm]
theorem e121 (e : Ex) : W.pure 121 [e.av] = some (.bool (exZero e)) := by
 rw [W_pure Φ121 (by simp)]
 by_cases h1 : e.kind = 0 <;> by_cases h2 : e.op = 0 <;> by_cases h3 : e.name = [] <;> by_cases h4 : e.value = 0 <;> by_cases h5 : e.args.l = [] <;> simp [fi121, c121, evFun, enterFr, intBin, resV, rvVs, rvV, exZero, strBin, h1, h2, h3, h4, h5]
end Go.Proofs.YtddpboiceemihaaGreatDoor
end
section
namespace Go.Proofs.YtddpboiceemihaaGreatDoor
open Go Go.RowKit
set_option linter.unusedVariables false
set_option linter.unusedSimpArgs false
set_option maxRecDepth 10000
mutual
def Ex.eqv : Ex → Ex → Bool
 | .mk k o n v _ _ l, y => decide (k = y.kind) && decide (o = y.op) && decide (n = y.name) && decide (v = y.value) && Ex.eqvs l y.args.l
def Ex.eqvs : List Ex → List Ex → Bool
 | [], [] => true
 | a :: r, b :: s => a.eqv b && Ex.eqvs r s
 | _, _ => false
end
theorem Ex.eqv_eq (x y : Ex) : x.eqv y = (decide (x.kind = y.kind) && decide (x.op = y.op) && decide (x.name = y.name) && decide (x.value = y.value) && Ex.eqvs x.args.l y.args.l) := by cases x; simp only [Ex.eqv]; rfl
theorem exCheck_size {e : Ex} (h : exCheck e = 0) : e.size ≤ 100 := by
 unfold exCheck at h
 split at h
 ·omega
 ·omega
def exEqual (x y : Ex) : Bool := decide (exCheck x = 0) && decide (exCheck y = 0) && x.eqv y
def sameEx (x y : Ex) : Bool := (exZero x && exZero y) || exEqual x y
end Go.Proofs.YtddpboiceemihaaGreatDoor
end
section
namespace Go.Proofs.YtddpboiceemihaaGreatDoor
open Go Go.RowKit
set_option linter.unusedVariables false
set_option linter.unusedSimpArgs false
def all2 {α β : Type} (p : α → β → Bool) : List α → List β → Bool
 | [], [] => true
 | a :: r, b :: s => p a b && all2 p r s
 | _, _ => false
theorem all2_len {α β : Type} {p : α → β → Bool} : ∀ {l : List α} {m : List β}, all2 p l m = true → l.length = m.length
 | [], [], _ => rfl
 | a :: r, b :: s, h => by simp only [all2, Bool.and_eq_true] at h; simp [all2_len h.2]
 | [], b :: s, h => by simp [all2] at h
 | a :: r, [], h => by simp [all2] at h
theorem all2_ne {α β : Type} {p : α → β → Bool} {l : List α} {m : List β} (h : l.length ≠ m.length) : all2 p l m = false := by
 cases e : all2 p l m with
 | true => exact absurd (all2_len e) h
 | false => rfl
theorem all2_congr {α β : Type} {p q : α → β → Bool} : ∀ {l : List α} {m : List β}, (∀ a ∈ l, ∀ b, p a b = q a b) → all2 p l m = all2 q l m
 | [], [], _ => rfl
 | a :: r, b :: s, h => by
  have h1 := all2_congr (l := r) (m := s) (fun x hx => h x (List.mem_cons_of_mem _ hx))
  simp only [all2, h a List.mem_cons_self, h1]
 | [], b :: s, h => rfl
 | a :: r, [], h => rfl
theorem foldE_zip {α β : Type} (p : α → β → Bool) : ∀ (l : List α) (m : List β) (k : Nat), l.length = m.length →
  foldE (fun _ (ab : α × β) (_ : Unit) => if p ab.1 ab.2 = true then .inl () else (.inr () : Unit ⊕ Unit)) k (l.zip m) () = if all2 p l m = true then .inl () else .inr ()
 | [], [], k, _ => rfl
 | a :: r, b :: s, k, h => by
  simp only [List.zip_cons_cons, foldE, all2]
  by_cases hp : p a b = true
  ·simpa [hp] using foldE_zip p r s (k + 1) (by simpa using h)
  ·simp [hp]
 | [], b :: s, _, h => by simp at h
 | a :: r, [], _, h => by simp at h
theorem loop_zip {Φ : FuncId → Option FI} {live : List Nat} {L : LC} {α β : Type} (l : List α) (m : List β) (hlm : l.length = m.length) (p : α → β → Bool) (P : Nat → Fr → Heap → Prop) (Q : LX → Fr → Heap → Prop) (E : LX → Fr → Heap → Prop) {F : Fr} {H : Heap} (hp : P 0 F H)
  (hs : ∀ k a b F H, k < l.length → l[k]? = some a → m[k]? = some b → P k F H → okC (evC (om Φ) L (F.keep live) H) (fun x F' H' => if p a b = true then x = .normal ∧ P (k + 1) (F'.keep live) H' else x ≠ .normal ∧ Q x F' H'))
  (he : ∀ F H, P l.length F H → okC (evC (om Φ) L (F.keep live) H) (fun x F' H' => x ≠ .normal ∧ E x F' H')) :
  okC ((om Φ).loop live L F H) (fun x F' H' => if all2 p l m = true then E x F' H' else Q x F' H') := by
 have hz : (l.zip m).length = l.length := by simp [List.length_zip]; omega
 have h := loop_all (Φ := Φ) (live := live) (L := L) (l.zip m) (fun _ (ab : α × β) (_ : Unit) => if p ab.1 ab.2 = true then .inl () else (.inr () : Unit ⊕ Unit)) (fun k _ F H => P k F H) (fun _ => Q) (fun _ => E) (s := ()) hp
  (fun k ab s F H hk hab hP => by
   obtain ⟨a, b⟩ := ab
   rw [List.getElem?_zip_eq_some] at hab
   obtain ⟨x, F', H', e1, e2⟩ := okC_iff.1 (hs k a b F H (by omega) hab.1 hab.2 hP)
   rw [e1]
   simp only [okC_some]
   cases hpab : p a b with
   | true => rw [hpab] at e2; simpa using e2
   | false => rw [hpab] at e2; simpa using e2)
  (fun s F H hP => he F H (by rw [hz] at hP; exact hP))
 rw [foldE_zip p l m 0 hlm] at h
 cases ha : all2 p l m with
 | true => rw [ha, if_pos rfl] at h; simp only [if_true]; exact h
 | false => rw [ha, if_neg (by simp)] at h; simp only [Bool.false_eq_true, if_false]; exact h
end Go.Proofs.YtddpboiceemihaaGreatDoor
end
section
namespace Go.Proofs.YtddpboiceemihaaGreatDoor
open Go Go.RowKit
set_option linter.unusedVariables false
set_option linter.unusedSimpArgs false
set_option maxRecDepth 10000
mutual
def St.big : St → Nat | .mk _ _ _ ns es _ _ bl _ _ el _ _ cl => 1 + ns.l.length + Ex.sizes es.l + St.bigs bl + St.bigs el + Cs.bigs cl
def St.bigs : List St → Nat | [] => 0 | x :: r => x.big + St.bigs r
def Cs.big : Cs → Nat | .mk _ _ e ns _ _ bl => 1 + ns.l.length + e.size + St.bigs bl
def Cs.bigs : List Cs → Nat | [] => 0 | x :: r => x.big + Cs.bigs r
end
theorem St.big_eq (x : St) : x.big = 1 + x.names.l.length + Ex.sizes x.exprs.l + St.bigs x.body.l + St.bigs x.els.l + Cs.bigs x.cs.l := by cases x; simp only [St.big]; rfl
theorem Cs.big_eq (x : Cs) : x.big = 1 + x.names.l.length + x.expr.size + St.bigs x.body.l := by cases x; simp only [Cs.big]; rfl
theorem St.bigs_mem {x : St} {l : List St} (h : x ∈ l) : x.big ≤ St.bigs l := by
 induction l with
 | nil => cases h
 | cons a r ih =>
  simp only [St.bigs]
  cases h with
  | head => omega
  | tail _ h => have := ih h; omega
theorem Cs.bigs_mem {x : Cs} {l : List Cs} (h : x ∈ l) : x.big ≤ Cs.bigs l := by
 induction l with
 | nil => cases h
 | cons a r ih =>
  simp only [Cs.bigs]
  cases h with
  | head => omega
  | tail _ h => have := ih h; omega
mutual
def St.eqv : St → St → Bool
 | .mk k o n ns es _ _ bl _ _ el _ _ cl, y => decide (k = y.kind) && decide (o = y.op) && decide (n = y.name) && decide (ns.l = y.names.l) && all2 sameEx es.l y.exprs.l && St.eqvs bl y.body.l && St.eqvs el y.els.l && Cs.eqvs cl y.cs.l
def St.eqvs : List St → List St → Bool
 | [], [] => true
 | a :: r, b :: s => a.eqv b && St.eqvs r s
 | _, _ => false
def Cs.eqv : Cs → Cs → Bool
 | .mk k n e ns _ _ bl, d => decide (k = d.kind) && decide (n = d.name) && sameEx e d.expr && decide (ns.l = d.names.l) && St.eqvs bl d.body.l
def Cs.eqvs : List Cs → List Cs → Bool
 | [], [] => true
 | a :: r, b :: s => a.eqv b && Cs.eqvs r s
 | _, _ => false
end
theorem St.eqv_eq (x y : St) : x.eqv y = (decide (x.kind = y.kind) && decide (x.op = y.op) && decide (x.name = y.name) && decide (x.names.l = y.names.l) && all2 sameEx x.exprs.l y.exprs.l && St.eqvs x.body.l y.body.l && St.eqvs x.els.l y.els.l && Cs.eqvs x.cs.l y.cs.l) := by cases x; simp only [St.eqv]; rfl
theorem Cs.eqv_eq (x y : Cs) : x.eqv y = (decide (x.kind = y.kind) && decide (x.name = y.name) && sameEx x.expr y.expr && decide (x.names.l = y.names.l) && St.eqvs x.body.l y.body.l) := by cases x; simp only [Cs.eqv]; rfl
theorem St.eqvs_all2 : ∀ (l m : List St), St.eqvs l m = all2 St.eqv l m
 | [], [] => by simp only [St.eqvs, all2]
 | a :: r, b :: s => by simp only [St.eqvs, all2, St.eqvs_all2 r s]
 | [], b :: s => by simp only [St.eqvs, all2]
 | a :: r, [] => by simp only [St.eqvs, all2]
theorem Cs.eqvs_all2 : ∀ (l m : List Cs), Cs.eqvs l m = all2 Cs.eqv l m
 | [], [] => by simp only [Cs.eqvs, all2]
 | a :: r, b :: s => by simp only [Cs.eqvs, all2, Cs.eqvs_all2 r s]
 | [], b :: s => by simp only [Cs.eqvs, all2]
 | a :: r, [] => by simp only [Cs.eqvs, all2]
theorem app2_0 (G : Heap) (B C : Blk) : (G ++ [B, C])[G.length]? = some B := by rw [List.getElem?_append_right (by omega)]; simp
theorem app2_1 (G : Heap) (B C : Blk) : (G ++ [B, C])[G.length + 1]? = some C := by rw [List.getElem?_append_right (by omega)]; simp
theorem app2_s0 (G : Heap) (B C D : Blk) : (G ++ [B, C]).set G.length D = G ++ [D, C] := by rw [List.set_append, if_neg (by omega)]; simp
theorem app2_s1 (G : Heap) (B C D : Blk) : (G ++ [B, C]).set (G.length + 1) D = G ++ [B, D] := by rw [List.set_append, if_neg (by omega)]; simp
theorem app2_get {G : Heap} {n : Nat} {X : Blk} (h : G[n]? = some X) (B C : Blk) : (G ++ [B, C])[n]? = some X := by
 have := (gEs.1 h).1
 rw [gEa this]; exact h
theorem app1_s (G : Heap) (B D : Blk) : (G ++ [B]).set G.length D = G ++ [D] := by rw [List.set_append, if_neg (by omega)]; simp
@[simp] theorem findHole_nil (t : Nat) : findHole t [] = none := rfl
@[simp] theorem findHole_loop (t : Nat) (a : LoopState) (b : Option LX) (c : Fr) (d : List Nat) (e f : LC) (r : Heap) : findHole t (.loop a b c d e f :: r) = (findHole t r).map (· + 1) := rfl
end Go.Proofs.YtddpboiceemihaaGreatDoor
end
section
namespace Go.Proofs.YtddpboiceemihaaGreatDoor
open Go Go.RowKit
set_option linter.unusedVariables false
set_option linter.unusedSimpArgs false
set_option maxRecDepth 10000
def prEq (x y : Pr) : Bool := decide (x.kind = y.kind) && decide (x.name = y.name) && decide (x.params.l = y.params.l) && decide (x.priority = y.priority) && St.eqvs x.body.l y.body.l
end Go.Proofs.YtddpboiceemihaaGreatDoor
end
section
namespace Go.Proofs.YtddpboiceemihaaGreatDoor
open Go Go.RowKit
set_option linter.unusedVariables false
set_option linter.unusedSimpArgs false
set_option maxRecDepth 10000
theorem e78 (x : Sl St) (H : Heap) : W.call (.clo 78 [] []) [Sl.av St.av 8 x] H = some (.clo 115 [] [.optr H.length 0 0 0], H ++ [.arr 0 1 false [Sl.av St.av 8 x]]) := by
 rw [W_call Φ78]
 simp [fi78, c78, evFun, enterFr, intBin, resV, rvVs, rvV, app_last, -getElem?_pos, gEz]
end Go.Proofs.YtddpboiceemihaaGreatDoor
end
