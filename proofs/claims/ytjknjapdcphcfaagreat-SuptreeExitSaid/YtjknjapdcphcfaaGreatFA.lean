/-
  Plain functions for the program's: names, checks of specifications (conditions: none). Checks of specifications, as the program and the reference have them (conditions: none). The reference's check of specifications (conditions: none). Equality of lists; what is affected; what is allowed (conditions: none). What is affected; what is allowed (conditions: none). Affected as the reference has it; Allowed; counting (conditions: none). Counting children; which states are valid (conditions: none). Which states are valid (conditions: none). Valid, as the program and the reference have it (conditions: none). New, as the program and the reference have it (conditions: none). New, as it is called (conditions: none). The supervisor that handles an event: what its memory holds (conditions: none).
-/
import Derived.Test.YtjknjapdcphcfaaGreatPre
namespace Go.Proofs.YtjknjapdcphcfaaGreat
open Go Go.RowKit
set_option linter.unusedVariables false
set_option linter.unusedSimpArgs false
set_option maxRecDepth 10000
section
def inR (n a b : Int) : Bool := decide (a ≤ n) && decide (n ≤ b)
theorem e51 (n a b : Int) : W.pure 52 [I n, I a, I b] = some (.bool (inR n a b)) := by
 rw [W_pure Φ52 rfl]; simp [fi52, c52, evFun, enterFr, intBin, resV, rvVs, rvV, inR]
theorem e47 (n a b : Int) : W.pure 66 [I n, I a, I b] = some (.bool (inR n a b)) := by
 rw [W_pure Φ66 rfl]; simp [fi66, c66, evFun, enterFr, intBin, resV, rvVs, rvV, inR]
def lowerB (c : UInt8) : Bool := decide (97 ≤ (c.toNat : Int)) && decide ((c.toNat : Int) ≤ 122)
def otherB (c : UInt8) : Bool := decide (48 ≤ (c.toNat : Int)) && decide ((c.toNat : Int) ≤ 57) || decide ((c.toNat : Int) = 95)
def chB (k : Nat) (c : UInt8) : Bool := lowerB c || (decide (k ≠ 0) && otherB c)
def chStep (k : Nat) (c : UInt8) : Unit ⊕ Unit := if chB k c then .inl () else .inr ()
def charsB (s : List UInt8) : Bool := match foldE (fun k c _ => chStep k c) 0 s () with | .inl _ => true | .inr _ => false
def nameB (s : List UInt8) : Bool := decide (1 ≤ (s.length : Int)) && decide ((s.length : Int) ≤ 30) && charsB s
theorem e54 (s : List UInt8) (hs : s.length ≤ 1000000) : W.pure 53 [.str s] = some (.bool (nameB s)) := by
 rw [W_pure Φ53 rfl]
 have hL := loop_all (Φ := Φ) (live := [0, 7, 8, 9]) (L := l53_0) s (fun k c _ => chStep k c) (fun k _ F H => F = [(0, .str s), (7, .isl (some false) 1 (s.map byteAV)), (8, I s.length), (9, I k)]) (fun _ x F H => x = .ret ∧ F.get 2 = .bool false) (fun _ x F H => x = .exit 0 ∧ F.get 0 = .str s) (s := ()) (H := []) rfl ?_ ?_
 ·simp only [Int.natCast_zero] at hL
  unfold nameB charsB
  cases hf : foldE (fun k c _ => chStep k c) 0 s () with
  | inl u =>
   rw [hf] at hL
   obtain ⟨x, F', H', e1, rfl, e2⟩ := okC_iff.1 hL
   simp [fi53, c53, evFun, enterFr, intBin, resV, rvVs, rvV, e1, e2]
  | inr u =>
   rw [hf] at hL
   obtain ⟨x, F', H', e1, rfl, e2⟩ := okC_iff.1 hL
   simp [fi53, c53, evFun, enterFr, intBin, resV, rvVs, rvV, e1, e2]
 ·rintro k c ⟨⟩ F H hk hc rfl
  have hw := wrap_succ (k := k) (by omega)
  have hkc : s[k] = c := (gEs.1 hc).2
  simp [evl53_0, b53_0, intBin, hk, hkc, byteAV, hw]
  split
  ·rename_i h
   have : chStep k c = .inr () := by unfold chStep; rw [if_neg]; simp [chB, lowerB, otherB]; omega
   simp [this]
  ·rename_i h
   have : chStep k c = .inl () := by unfold chStep; rw [if_pos]; simp [chB, lowerB, otherB]; omega
   simp [this]
 ·rintro ⟨⟩ F H rfl
  simp [evl53_0, b53_0, intBin]
theorem e57 (s : List UInt8) : W.pure 83 [.str s] = some (.bool (nameB s)) := by
 rw [W_pure Φ83 rfl]
 by_cases h0 : s = []
 ·subst h0; simp [fi83, c83, evFun, enterFr, intBin, resV, rvVs, rvV, strBin, nameB]
 ·by_cases h30 : 30 < (s.length : Int)
  ·have : nameB s = false := by simp [nameB]; omega
   simp [fi83, c83, evFun, enterFr, intBin, resV, rvVs, rvV, strBin, h0, h30, this]
  ·have hlen : 0 < s.length := List.length_pos_iff.2 h0
   have hL := loop_all (Φ := Φ) (live := [0, 3]) (L := l83_0) s (fun k c _ => chStep k c) (fun k _ F H => F = [(0, .str s), (3, I k)]) (fun _ x F H => x = .ret ∧ F.get 2 = .bool false) (fun _ x F H => x = .exit 0) (s := ()) (H := []) rfl ?_ ?_
   ·simp only [Int.natCast_zero] at hL
    unfold nameB charsB
    have h1 : decide (1 ≤ (s.length : Int)) = true := by simp; omega
    have h2 : decide ((s.length : Int) ≤ 30) = true := by simp; omega
    cases hf : foldE (fun k c _ => chStep k c) 0 s () with
    | inl u =>
     rw [hf] at hL
     obtain ⟨x, F', H', e1, rfl⟩ := okC_iff.1 hL
     simp only [h1, h2]
     simp [fi83, c83, evFun, enterFr, intBin, resV, rvVs, rvV, strBin, h0, h30, e1]
    | inr u =>
     rw [hf] at hL
     obtain ⟨x, F', H', e1, rfl, e2⟩ := okC_iff.1 hL
     simp [fi83, c83, evFun, enterFr, intBin, resV, rvVs, rvV, strBin, h0, h30, e1, e2]
   ·rintro k c ⟨⟩ F H hk hc rfl
    have hw := wrap_succ (k := k) (by omega)
    have hkc : s[k] = c := (gEs.1 hc).2
    simp [evl83_0, b83_0, intBin, hk, hkc, hw]
    split
    ·rename_i h
     have : chStep k c = .inr () := by unfold chStep; rw [if_neg]; simp [chB, lowerB, otherB]; omega
     simp [this]
    ·rename_i h
     have : chStep k c = .inl () := by unfold chStep; rw [if_pos]; simp [chB, lowerB, otherB]; omega
     simp [this]
   ·rintro ⟨⟩ F H rfl
    simp [evl83_0, b83_0, intBin]
def greatB (x : Spec) : Bool := decide (18 < (x.children.l.length : Int)) || x.children.l.any (fun c => decide (40 < (c.name.length : Int)))
theorem e10 (x : Spec) : W.pure 15 [x.av] = some (.bool (greatB x)) := by
 rw [W_pure Φ15 (by simp)]
 by_cases h18 : 18 < (x.children.l.length : Int)
 ·simp [fi15, c15, evFun, enterFr, intBin, resV, rvVs, rvV, h18, greatB]
 ·have hL := loop_all (Φ := Φ) (live := [1, 3]) (L := l15_0) x.children.l (fun k c _ => if 40 < (c.name.length : Int) then (.inr () : Unit ⊕ Unit) else .inl ()) (fun k _ F H => F = [(1, .optr 0 0 0 0), (3, I k)] ∧ H = [.arr 0 4 false [x.av]]) (fun _ x F H => x = .ret ∧ F.get 2 = .bool true) (fun _ x F H => x = .exit 0) (s := ()) ⟨rfl, rfl⟩ ?_ ?_
  ·simp only [Int.natCast_zero] at hL
   rcases foldE_unit (fun k (c : Child) => if 40 < (c.name.length : Int) then (.inr () : Unit ⊕ Unit) else .inl ()) x.children.l 0 with ⟨h1, h2⟩ | ⟨j, a, y, h1, h2, h3, h4⟩
   ·rw [h1] at hL
    obtain ⟨x0, F', H', e1, rfl⟩ := okC_iff.1 hL
    have : greatB x = false := by
     unfold greatB
     rw [Bool.or_eq_false_iff]
     refine ⟨by simpa using h18, List.any_eq_false.2 fun c hc => ?_⟩
     obtain ⟨j, hj⟩ := List.getElem?_of_mem hc
     have := h2 j c hj
     split at this
     ·cases this
     ·rename_i h; simp; omega
    simp [fi15, c15, evFun, enterFr, intBin, resV, rvVs, rvV, h18, e1, this]
   ·rw [h3] at hL
    obtain ⟨x0, F', H', e1, rfl, e2⟩ := okC_iff.1 hL
    have : greatB x = true := by
     unfold greatB
     rw [Bool.or_eq_true]
     right
     rw [List.any_eq_true]
     refine ⟨a, List.mem_of_getElem? h1, ?_⟩
     split at h2
     ·simpa using ‹_›
     ·cases h2
    simp [fi15, c15, evFun, enterFr, intBin, resV, rvVs, rvV, h18, e1, e2, this]
  ·rintro k c ⟨⟩ F H hk hc ⟨rfl, rfl⟩
   have hw := wrap_succ (k := k) (by omega)
   have hkc : x.children.l[k] = c := (gEs.1 hc).2
   simp [evl15_0, b15_0, intBin, hk, hkc, hw]
   split <;> simp
  ·rintro ⟨⟩ F H ⟨rfl, rfl⟩
   simp [evl15_0, b15_0, intBin]
def greatS (s : State) : Bool := decide (18 < (s.children.l.length : Int)) || decide (110 < (s.restarts.l.length : Int))
theorem e11 (s : State) : W.pure 16 [s.av] = some (.bool (greatS s)) := by
 rw [W_pure Φ16 (by simp)]
 simp [fi16, c16, evFun, enterFr, intBin, resV, rvVs, rvV, greatS]
end
section
def idxP {α : Type} (p : α → Bool) (l : List α) : Int := match foldE (σ := Unit) (ρ := Int) (fun k a _ => if p a then .inr (k : Int) else .inl ()) 0 l () with | .inl _ => -1 | .inr k => k
theorem idxP_any {α : Type} (p : α → Bool) (l : List α) : decide (0 ≤ idxP p l) = l.any p := by
 unfold idxP
 rcases foldE_unit (fun k (a : α) => if p a then (.inr (k : Int) : Unit ⊕ Int) else .inl ()) l 0 with ⟨h1, h2⟩ | ⟨j, a, y, h1, h2, h3, h4⟩
 ·rw [h1]
  symm
  simp only [show decide ((0 : Int) ≤ -1) = false by decide]
  refine List.any_eq_false.2 fun a ha => ?_
  obtain ⟨j, hj⟩ := List.getElem?_of_mem ha
  have := h2 j a hj
  split at this
  ·cases this
  ·assumption
 ·rw [h3]
  split at h2
  ·rename_i hp
   cases h2
   have : l.any p = true := List.any_eq_true.2 ⟨a, List.mem_of_getElem? h1, hp⟩
   rw [this]; simp
  ·cases h2
theorem e70 (f : AV) (kf : okO f = some f) (p : Child → Bool) (Inv : Heap → Prop) (hf : ∀ y H, Inv H → okV (W.call f [y.av] H) (fun v H' => v = .bool (p y) ∧ Inv H')) (a : Option Bool) (z : Nat) (l : List Child) (hz : l ≠ [] → z = 3) (hl : l.length ≤ 1000000) (H : Heap) (h : Inv H) :
  okV (W.call (.clo 74 [] []) [.isl a z (l.map Child.av), f] H) (fun v H' => v = I (idxP p l) ∧ Inv H') := by
 rw [W_call Φ74]
 have hL := loop_all (Φ := Φ) (live := [0, 1, 7, 8]) (L := l74_0) l (fun k c _ => if p c then (.inr (k : Int) : Unit ⊕ Int) else .inl ()) (fun k _ F H => F = [(0, .isl a z (l.map Child.av)), (1, f), (7, I l.length), (8, I k)] ∧ Inv H) (fun k x F H => x = .ret ∧ F.get 4 = I k ∧ Inv H) (fun _ x F H => x = .exit 0 ∧ Inv H) (s := ()) ⟨rfl, h⟩ ?_ ?_
 ·simp only [Int.natCast_zero] at hL
  unfold idxP
  cases hr : foldE (σ := Unit) (ρ := Int) (fun k c _ => if p c then .inr (k : Int) else .inl ()) 0 l () with
  | inl u =>
   rw [hr] at hL
   obtain ⟨x, F', H', e1, rfl, e2⟩ := okC_iff.1 hL
   simp [fi74, c74, evFun, enterFr, intBin, resV, rvVs, rvV, kf, e1, e2]
  | inr k =>
   rw [hr] at hL
   obtain ⟨x, F', H', e1, rfl, e2, e3⟩ := okC_iff.1 hL
   simp [fi74, c74, evFun, enterFr, intBin, resV, rvVs, rvV, kf, e1, e2, e3]
 ·rintro k c ⟨⟩ F H hk hc ⟨rfl, hi⟩
  have hw := wrap_succ (k := k) (by omega)
  have hkc : l[k] = c := (gEs.1 hc).2
  have hz' : z = 3 := hz (by intro e; subst e; simp at hk)
  obtain ⟨v, H', e1, rfl, e2⟩ := okV_iff.1 (hf c H hi)
  subst hz'
  cases hp : p c <;> simp [evl74_0, b74_0, intBin, hk, hkc, hw, kf, e1, hp, e2]
 ·rintro ⟨⟩ F H ⟨rfl, hi⟩
  simp [evl74_0, b74_0, intBin, kf, hi]
theorem e55 (f : AV) (kf : okO f = some f) (p : Child → Bool) (Inv : Heap → Prop) (hf : ∀ y H, Inv H → okV (W.call f [y.av] H) (fun v H' => v = .bool (p y) ∧ Inv H')) (a : Option Bool) (z : Nat) (l : List Child) (hz : l ≠ [] → z = 3) (hl : l.length ≤ 1000000) (H : Heap) (h : Inv H) :
  okV (W.call (.clo 54 [] []) [.isl a z (l.map Child.av), f] H) (fun v H' => v = .bool (l.any p) ∧ Inv H') := by
 rw [W_call Φ54, ← idxP_any]
 obtain ⟨v, H', e1, rfl, e2⟩ := okV_iff.1 (e70 f kf p Inv hf a z l hz hl H h)
 simp [fi54, c54, evFun, enterFr, intBin, resV, rvVs, rvV, kf, e1, e2]
theorem e56 (id : Nat) (c y : Child) (H : Heap) (h : H[id]? = some (.arr 0 3 false [c.av])) : W.call (.clo 55 [] [.optr id 0 0 0]) [y.av] H = some (.bool (decide (y.name = c.name)), H ++ [.arr 0 3 false [y.av]]) := by
 rw [W_call Φ55]
 have hid : id < H.length := (gEs.1 h).1
 have h' : ∀ b : Blk, (H ++ [b])[id]? = some (.arr 0 3 false [c.av]) := fun b => by rw [gEa hid]; exact h
 simp [fi55, c55, evFun, enterFr, intBin, resV, rvVs, rvV, h', strBin]
def chkStep (all : List Child) (k : Nat) (c : Child) : Unit ⊕ Int :=
 if nameB c.name = false then .inr 5 else if (all.take k).any (fun y => decide (y.name = c.name)) = true then .inr 6 else if inR c.policy 1 3 = false then .inr 8 else if inR c.sub (-1) 15 = false then .inr 2 else .inl ()
def chk (x : Spec) : Int :=
 if inR x.strategy 1 3 = false then 8 else if inR x.intensity 0 100 = false ∨ inR x.window 1 1099511627776 = false then 2 else if inR x.children.l.length 1 16 = false then 4
 else match foldE (fun k c _ => chkStep x.children.l k c) 0 x.children.l () with | .inl _ => 0 | .inr e => e
theorem e31 (x : Spec) (hn : ∀ c ∈ x.children.l, c.name.length ≤ 1000000) : W.pure 32 [x.av] = some (I (chk x)) := by
 rw [W_pure Φ32 (by simp)]
 have c1 := e51 x.strategy 1 3
 have c2 := e51 x.intensity 0 100
 have c3 := e51 x.window 1 1099511627776
 have c4 := e51 x.children.l.length 1 16
 unfold chk
 generalize inR x.strategy 1 3 = b1 at *
 generalize inR x.intensity 0 100 = b2 at *
 generalize inR x.window 1 1099511627776 = b3 at *
 cases b1
 ·simp [fi32, c32, evFun, enterFr, intBin, resV, rvVs, rvV, c1]
 cases b2
 ·simp [fi32, c32, evFun, enterFr, intBin, resV, rvVs, rvV, c1, c2]
 cases b3
 ·simp [fi32, c32, evFun, enterFr, intBin, resV, rvVs, rvV, c1, c2, c3]
 cases h4 : inR x.children.l.length 1 16
 ·rw [h4] at c4
  simp [fi32, c32, evFun, enterFr, intBin, resV, rvVs, rvV, c1, c2, c3, c4]
 ·rw [h4] at c4
  have hlen : x.children.l.length ≤ 16 := by simp [inR] at h4; omega
  have hL := loop_all (Φ := Φ) (live := [1, 28, 29, 30]) (L := l32_0) x.children.l (fun k c _ => chkStep x.children.l k c) (fun k _ F H => F = [(1, .optr 0 0 0 0), (28, Sl.av Child.av 3 x.children), (29, I x.children.l.length), (30, I k)] ∧ H[0]? = some (.arr 0 4 false [x.av])) (fun e x F H => x = .ret ∧ F.get 2 = I e) (fun _ x F H => x = .exit 1) (s := ()) (H := [.arr 0 4 false [x.av]]) ⟨rfl, rfl⟩ ?_ ?_
  ·simp only [Int.natCast_zero] at hL
   cases hr : foldE (fun k c _ => chkStep x.children.l k c) 0 x.children.l () with
   | inl u =>
    rw [hr] at hL
    obtain ⟨x0, F', H', e1, rfl⟩ := okC_iff.1 hL
    simp [fi32, c32, evFun, enterFr, intBin, resV, rvVs, rvV, c1, c2, c3, c4, e1]
   | inr k =>
    rw [hr] at hL
    obtain ⟨x0, F', H', e1, rfl, e2⟩ := okC_iff.1 hL
    simp [fi32, c32, evFun, enterFr, intBin, resV, rvVs, rvV, c1, c2, c3, c4, e1, e2]
  ·rintro k c ⟨⟩ F H hk hc ⟨rfl, h0⟩
   have hw := wrap_succ (k := k) (by omega)
   have hkc : x.children.l[k] = c := (gEs.1 hc).2
   have d1 := e54 c.name (hn c (List.mem_of_getElem? hc))
   have d3 := e51 c.policy 1 3
   have d4 := e51 c.sub (-1) 15
   have h0l : 0 < H.length := (gEs.1 h0).1
   have h0' := app_get h0
   have h0'' := app_get' h0
   have hlast : ∀ b : Blk, (H ++ [b])[H.length]? = some b := fun b => by simp
   obtain ⟨v, H', f1, rfl, f2⟩ := okV_iff.1 (e55 (.clo 55 [] [.optr H.length 0 0 0]) rfl (fun y => decide (y.name = c.name)) (fun G => Kept none (H ++ [.arr 0 3 false [c.av]]) G) (fun y G hG => by
    rw [e56 H.length c y G (hG.get (by simp) (hlast _))]
    exact ⟨rfl, hG.trans (Kept.append _ _ _)⟩) x.children.nl (if x.children.l = [] then x.children.z else 3) (x.children.l.take k) (fun h => by
     rw [if_neg]; intro e; rw [e] at h; simp at h) (by simp; omega) (H ++ [.arr 0 3 false [c.av]]) (Kept.refl _ _))
   have h1 := f2.get (j := 0) (by simp) (h0' _)
   have h2 := f2.get (j := H.length) (by simp) (hlast _)
   unfold chkStep
   rw [List.map_take] at f1
   generalize nameB c.name = n1 at *
   generalize inR c.policy 1 3 = n3 at *
   generalize inR c.sub (-1) 15 = n4 at *
   generalize (x.children.l.take k).any (fun y => decide (y.name = c.name)) = n2 at *
   have hkl : k ≤ x.children.l.length := by omega
   have hkl' : (k : Int) ≤ x.children.l.length := by omega
   cases n1
   ·simp [evl32_0, b32_0, intBin, hk, hkc, hw, d1]
   cases n2
   ·cases n3
    ·simp [evl32_0, b32_0, intBin, hk, hkc, hw, d1, d3, h0, h0', h0'', h1, h2, hkl, hkl', f1]
    ·cases n4
     ·simp [evl32_0, b32_0, intBin, hk, hkc, hw, d1, d3, d4, h0, h0', h0'', h1, h2, hkl, hkl', f1]
     ·simp [evl32_0, b32_0, intBin, hk, hkc, hw, d1, d3, d4, h0, h0', h0'', h1, h2, hkl, hkl', f1]
   ·simp [evl32_0, b32_0, intBin, hk, hkc, hw, d1, h0, h0', h0'', hkl, hkl', f1]
  ·rintro ⟨⟩ F H ⟨rfl, h0⟩
   simp [evl32_0, b32_0, intBin]
end
section
theorem loop32_0 (x : Spec) (i : Nat) (hi : i ≤ x.children.l.length) (hi2 : i ≤ 1000000) (c : Child) (id : Nat) (H : Heap) (h0 : H[0]? = some (.arr 0 4 false [x.av])) (h1 : H[id]? = some (.arr 0 3 false [c.av])) :
  okC (W.loop [1, 3, 4, 5] l64_0 [(1, .optr 0 0 0 0), (3, I i), (4, .optr id 0 0 0), (5, I 0)] H) (fun y F' H' => if (x.children.l.take i).any (fun y => decide (y.name = c.name)) = true then y = .ret ∧ F'.get 2 = I 6 else y = .exit 2 ∧ F'.keep [1, 3, 4] = [(1, .optr 0 0 0 0), (3, I i), (4, .optr id 0 0 0)] ∧ H' = H) := by
 have hL := loop_all (Φ := Φ) (live := [1, 3, 4, 5]) (L := l64_0) (x.children.l.take i) (fun k y _ => if y.name = c.name then (.inr () : Unit ⊕ Unit) else .inl ()) (fun k _ F G => F = [(1, .optr 0 0 0 0), (3, I i), (4, .optr id 0 0 0), (5, I k)] ∧ G = H) (fun _ y F G => y = .ret ∧ F.get 2 = I 6) (fun _ y F G => y = .exit 2 ∧ F.keep [1, 3, 4] = [(1, .optr 0 0 0 0), (3, I i), (4, .optr id 0 0 0)] ∧ G = H) (s := ()) ⟨rfl, rfl⟩ ?_ ?_
 ·simp only [Int.natCast_zero] at hL
  rcases foldE_unit (fun k (y : Child) => if y.name = c.name then (.inr () : Unit ⊕ Unit) else .inl ()) (x.children.l.take i) 0 with ⟨g1, g2⟩ | ⟨j, a, y, g1, g2, g3, g4⟩
  ·rw [g1] at hL
   have : ¬ (x.children.l.take i).any (fun y => decide (y.name = c.name)) = true := by
    intro ha
    obtain ⟨y, hy, hy2⟩ := List.any_eq_true.1 ha
    obtain ⟨j, hj⟩ := List.getElem?_of_mem hy
    have := g2 j y hj
    rw [if_pos (by simpa using hy2)] at this
    cases this
   simp only [if_neg this]
   exact hL
  ·rw [g3] at hL
   have : (x.children.l.take i).any (fun y => decide (y.name = c.name)) = true := by
    refine List.any_eq_true.2 ⟨a, List.mem_of_getElem? g1, ?_⟩
    split at g2
    ·simpa using ‹_›
    ·cases g2
   simp only [if_pos this]
   exact hL
 ·rintro k y ⟨⟩ F G hk hy ⟨rfl, rfl⟩
  have hki : k < i := by simp at hk; omega
  have hw := wrap_succ (k := k) (by omega)
  have hky : x.children.l[k]? = some y := by
   rw [List.getElem?_take_of_lt hki] at hy; exact hy
  have hkl : k < x.children.l.length := by omega
  have hky' : x.children.l[k] = y := (gEs.1 hky).2
  by_cases hn : y.name = c.name <;> simp [evl64_0, b64_0, intBin, hki, hkl, hky', hw, h0, h1, strBin, hn]
 ·rintro ⟨⟩ F G ⟨rfl, rfl⟩
  have : (x.children.l.take i).length = i := by simp; omega
  simp only [this]
  simp [evl64_0, b64_0, intBin]
theorem e32 (x : Spec) : W.pure 64 [x.av] = some (I (chk x)) := by
 rw [W_pure Φ64 (by simp)]
 have c1 := e47 x.strategy 1 3
 have c2 := e47 x.intensity 0 100
 have c3 := e47 x.window 1 1099511627776
 have c4 := e47 x.children.l.length 1 16
 unfold chk
 generalize inR x.strategy 1 3 = b1 at *
 generalize inR x.intensity 0 100 = b2 at *
 generalize inR x.window 1 1099511627776 = b3 at *
 cases b1
 ·simp [fi64, c64, evFun, enterFr, intBin, resV, rvVs, rvV, c1]
 cases b2
 ·simp [fi64, c64, evFun, enterFr, intBin, resV, rvVs, rvV, c1, c2]
 cases b3
 ·simp [fi64, c64, evFun, enterFr, intBin, resV, rvVs, rvV, c1, c2, c3]
 cases h4 : inR x.children.l.length 1 16
 ·rw [h4] at c4
  simp [fi64, c64, evFun, enterFr, intBin, resV, rvVs, rvV, c1, c2, c3, c4]
 ·rw [h4] at c4
  have hlen : x.children.l.length ≤ 16 := by simp [inR] at h4; omega
  have hL := loop_all (Φ := Φ) (live := [1, 3]) (L := l64_1) x.children.l (fun k c _ => chkStep x.children.l k c) (fun k _ F H => F = [(1, .optr 0 0 0 0), (3, I k)] ∧ H[0]? = some (.arr 0 4 false [x.av])) (fun e x F H => x = .ret ∧ F.get 2 = I e) (fun _ x F H => x = .exit 0) (s := ()) (H := [.arr 0 4 false [x.av]]) ⟨rfl, rfl⟩ ?_ ?_
  ·simp only [Int.natCast_zero] at hL
   cases hr : foldE (fun k c _ => chkStep x.children.l k c) 0 x.children.l () with
   | inl u =>
    rw [hr] at hL
    obtain ⟨x0, F', H', e1, rfl⟩ := okC_iff.1 hL
    simp [fi64, c64, evFun, enterFr, intBin, resV, rvVs, rvV, c1, c2, c3, c4, e1]
   | inr k =>
    rw [hr] at hL
    obtain ⟨x0, F', H', e1, rfl, e2⟩ := okC_iff.1 hL
    simp [fi64, c64, evFun, enterFr, intBin, resV, rvVs, rvV, c1, c2, c3, c4, e1, e2]
  ·rintro k c ⟨⟩ F H hk hc ⟨rfl, h0⟩
   have hw := wrap_succ (k := k) (by omega)
   have hkc : x.children.l[k] = c := (gEs.1 hc).2
   have d1 := e57 c.name
   have d3 := e47 c.policy 1 3
   have d4 := e47 c.sub (-1) 15
   have h0' := app_get h0
   have h0'' := app_get' h0
   have hI := loop32_0 x k (by omega) (by omega) c H.length (H ++ [.arr 0 3 false [c.av]]) (h0' _) (app_last _ _)
   unfold chkStep
   generalize nameB c.name = n1 at *
   generalize inR c.policy 1 3 = n3 at *
   generalize inR c.sub (-1) 15 = n4 at *
   generalize (x.children.l.take k).any (fun y => decide (y.name = c.name)) = n2 at *
   cases n1
   ·simp [evl64_1, b64_1, intBin, hk, hkc, hw, h0, h0', h0'', d1]
   cases n2
   ·simp only [Bool.false_eq_true, if_false] at hI
    obtain ⟨y, F', H', f1, rfl, f2, rfl⟩ := okC_iff.1 hI
    simp only [keep_cons, keep_nil, List.cons.injEq, Prod.mk.injEq, true_and, and_true] at f2
    obtain ⟨f2, f3, f4⟩ := f2
    cases n3
    ·simp [evl64_1, b64_1, intBin, hk, hkc, hw, h0, h0', h0'', d1, d3, f1, f2, f3, f4]
    ·cases n4
     ·simp [evl64_1, b64_1, intBin, hk, hkc, hw, h0, h0', h0'', d1, d3, d4, f1, f2, f3, f4]
     ·simp [evl64_1, b64_1, intBin, hk, hkc, hw, h0, h0', h0'', d1, d3, d4, f1, f2, f3, f4]
   ·simp only [if_true] at hI
    obtain ⟨y, F', H', f1, rfl, f2⟩ := okC_iff.1 hI
    simp [evl64_1, b64_1, intBin, hk, hkc, hw, h0, h0', h0'', d1, f1, f2]
  ·rintro ⟨⟩ F H ⟨rfl, h0⟩
   simp [evl64_1, b64_1, intBin, h0]
end
section
theorem cmp_lists {α : Type} [DecidableEq α] (x y : List α) (h : x.length = y.length) : (foldE (fun k (a : α) (_ : Unit) => if y[k]? = some a then (.inl () : Unit ⊕ Unit) else .inr ()) 0 x () = .inl () ∧ x = y) ∨ (foldE (fun k (a : α) (_ : Unit) => if y[k]? = some a then (.inl () : Unit ⊕ Unit) else .inr ()) 0 x () = .inr () ∧ x ≠ y) := by
 rcases foldE_unit (fun k (a : α) => if y[k]? = some a then (.inl () : Unit ⊕ Unit) else .inr ()) x 0 with ⟨g1, g2⟩ | ⟨j, a, u, g1, g2, g3, g4⟩
 ·left
  refine ⟨g1, List.ext_getElem? fun i => ?_⟩
  by_cases hi : i < x.length
  ·have := g2 i x[i] (gEg hi)
   split at this
   ·rename_i hy; rw [Nat.zero_add] at hy; rw [hy, gEg hi]
   ·cases this
  ·rw [List.getElem?_eq_none (by omega), List.getElem?_eq_none (by omega)]
 ·right
  refine ⟨g3, fun e => ?_⟩
  subst e
  rw [Nat.zero_add, if_pos g1] at g2
  cases g2
theorem e49 (x y : Sl Int) (hl : x.l.length ≤ 1000000) : W.pure 47 [Sl.ints x, Sl.ints y] = some (.bool (decide (x.l = y.l))) := by
 rw [W_pure Φ47 rfl]
 by_cases hxy : x.l.length = y.l.length
 ·have hL := loop_all (Φ := Φ) (live := [0, 1, 5]) (L := l47_0) x.l (fun k a _ => if y.l[k]? = some a then (.inl () : Unit ⊕ Unit) else .inr ()) (fun k _ F H => F = [(0, Sl.ints x), (1, Sl.ints y), (5, I k)]) (fun _ x F H => x = .ret ∧ F.get 4 = .bool false) (fun _ x F H => x = .exit 0) (s := ()) (H := []) rfl ?_ ?_
  ·simp only [Int.natCast_zero] at hL
   rcases cmp_lists x.l y.l hxy with ⟨h1, h2⟩ | ⟨h1, h2⟩
   ·rw [h1] at hL
    obtain ⟨x0, F', H', e1, rfl⟩ := okC_iff.1 hL
    simp [fi47, c47, evFun, enterFr, intBin, resV, rvVs, rvV, hxy, e1, h2]
   ·rw [h1] at hL
    obtain ⟨x0, F', H', e1, rfl, e2⟩ := okC_iff.1 hL
    simp [fi47, c47, evFun, enterFr, intBin, resV, rvVs, rvV, hxy, e1, e2, h2]
  ·rintro k a ⟨⟩ F H hk ha rfl
   have hw := wrap_succ (k := k) (by omega)
   have hka : x.l[k] = a := (gEs.1 ha).2
   have hky : k < y.l.length := by omega
   have hyk : y.l[k]? = some y.l[k] := gEg hky
   rw [hyk]
   by_cases h : a = y.l[k]
   ·simp [evl47_0, b47_0, intBin, hk, hky, hka, hw, ← h]
   ·simp [evl47_0, b47_0, intBin, hk, hky, hka, hw, h, show ¬ y.l[k] = a from fun e => h e.symm]
  ·rintro ⟨⟩ F H rfl
   simp [evl47_0, b47_0, intBin]
 ·have he : x.l ≠ y.l := fun e => hxy (by rw [e])
  have hxy' : ¬ (x.l.length : Int) = y.l.length := by omega
  simp [fi47, c47, evFun, enterFr, intBin, resV, rvVs, rvV, hxy', he]
theorem e18 (x y : Sl Event) (hl : x.l.length ≤ 1000000) : W.pure 9 [Sl.av Event.av 4 x, Sl.av Event.av 4 y] = some (.bool (decide (x.l = y.l))) := by
 rw [W_pure Φ9 rfl]
 by_cases hxy : x.l.length = y.l.length
 ·have hL := loop_all (Φ := Φ) (live := [0, 1, 5]) (L := l9_0) x.l (fun k a _ => if y.l[k]? = some a then (.inl () : Unit ⊕ Unit) else .inr ()) (fun k _ F H => F = [(0, Sl.av Event.av 4 x), (1, Sl.av Event.av 4 y), (5, I k)]) (fun _ x F H => x = .ret ∧ F.get 4 = .bool false) (fun _ x F H => x = .exit 0) (s := ()) (H := []) rfl ?_ ?_
  ·simp only [Int.natCast_zero] at hL
   rcases cmp_lists x.l y.l hxy with ⟨h1, h2⟩ | ⟨h1, h2⟩
   ·rw [h1] at hL
    obtain ⟨x0, F', H', e1, rfl⟩ := okC_iff.1 hL
    simp [fi9, c9, evFun, enterFr, intBin, resV, rvVs, rvV, hxy, e1, h2]
   ·rw [h1] at hL
    obtain ⟨x0, F', H', e1, rfl, e2⟩ := okC_iff.1 hL
    simp [fi9, c9, evFun, enterFr, intBin, resV, rvVs, rvV, hxy, e1, e2, h2]
  ·rintro k a ⟨⟩ F H hk ha rfl
   have hw := wrap_succ (k := k) (by omega)
   have hka : x.l[k] = a := (gEs.1 ha).2
   have hky : k < y.l.length := by omega
   have hyk : y.l[k]? = some y.l[k] := gEg hky
   rw [hyk]
   by_cases h : a = y.l[k]
   ·simp [evl9_0, b9_0, intBin, hk, hky, hka, hw, ← h]
   ·simp [evl9_0, b9_0, intBin, hk, hky, hka, hw, h, show ¬ y.l[k] = a from fun e => h e.symm]
  ·rintro ⟨⟩ F H rfl
   simp [evl9_0, b9_0, intBin]
 ·have he : x.l ≠ y.l := fun e => hxy (by rw [e])
  have hxy' : ¬ (x.l.length : Int) = y.l.length := by omega
  simp [fi9, c9, evFun, enterFr, intBin, resV, rvVs, rvV, hxy', he]
def sameS (a b : State) : Bool := decide (a.status = b.status) && decide (a.failed = b.failed) && decide (a.restarts.l = b.restarts.l) && decide (a.children.l = b.children.l)
theorem e17 (x y : State) (hl : x.children.l.length ≤ 1000000) (hr : x.restarts.l.length ≤ 1000000) : W.pure 28 [x.av, y.av] = some (.bool (sameS x y)) := by
 rw [W_pure Φ28 (by simp)]
 have h49 := e49 x.restarts y.restarts hr
 unfold sameS
 by_cases h1 : x.status = y.status
 ·by_cases h2 : x.failed = y.failed
  ·by_cases hxy : x.children.l.length = y.children.l.length
   ·by_cases h3 : x.restarts.l = y.restarts.l
    ·have hL := loop_all (Φ := Φ) (live := [2, 3, 5]) (L := l28_0) x.children.l (fun k a _ => if y.children.l[k]? = some a then (.inl () : Unit ⊕ Unit) else .inr ()) (fun k _ F H => F = [(2, .optr 0 0 0 0), (3, .optr 1 0 0 0), (5, I k)] ∧ H = [.arr 0 4 false [x.av], .arr 0 4 false [y.av]]) (fun _ x F H => x = .ret ∧ F.get 4 = .bool false) (fun _ x F H => x = .exit 0) (s := ()) ⟨rfl, rfl⟩ ?_ ?_
     ·simp only [Int.natCast_zero] at hL
      rcases cmp_lists x.children.l y.children.l hxy with ⟨g1, g2⟩ | ⟨g1, g2⟩
      ·rw [g1] at hL
       obtain ⟨x0, F', H', e1, rfl⟩ := okC_iff.1 hL
       simp [fi28, c28, evFun, enterFr, intBin, resV, rvVs, rvV, hxy, e1, h1, h2, h3, h49, g2]
      ·rw [g1] at hL
       obtain ⟨x0, F', H', e1, rfl, e2⟩ := okC_iff.1 hL
       simp [fi28, c28, evFun, enterFr, intBin, resV, rvVs, rvV, hxy, e1, e2, h1, h2, h3, h49, g2]
     ·rintro k a ⟨⟩ F H hk ha ⟨rfl, rfl⟩
      have hw := wrap_succ (k := k) (by omega)
      have hka : x.children.l[k] = a := (gEs.1 ha).2
      have hky : k < y.children.l.length := by omega
      have hyk : y.children.l[k]? = some y.children.l[k] := gEg hky
      rw [hyk]
      by_cases h : a = y.children.l[k]
      ·simp [evl28_0, b28_0, intBin, hk, hky, hka, hw, ← h]
      ·simp [evl28_0, b28_0, intBin, hk, hky, hka, hw, h, show ¬ y.children.l[k] = a from fun e => h e.symm]
     ·rintro ⟨⟩ F H ⟨rfl, rfl⟩
      simp [evl28_0, b28_0, intBin]
    ·simp [fi28, c28, evFun, enterFr, intBin, resV, rvVs, rvV, hxy, h1, h2, h3, h49]
   ·have he : x.children.l ≠ y.children.l := fun e => hxy (by rw [e])
    have hxy' : ¬ (x.children.l.length : Int) = y.children.l.length := by omega
    simp [fi28, c28, evFun, enterFr, intBin, resV, rvVs, rvV, hxy', h1, h2, he]
  ·cases hx : x.failed <;> cases hy : y.failed <;> rw [hx, hy] at h2 <;> simp at h2 <;> simp [fi28, c28, evFun, enterFr, intBin, resV, rvVs, rvV, h1, hx, hy]
 ·simp [fi28, c28, evFun, enterFr, intBin, resV, rvVs, rvV, h1]
end
section
def affP (s child i : Int) : Bool := decide (i = child) || decide (s = 2) || (decide (s = 3) && decide (child < i))
def affF (s child : Int) : Nat → Nat → List Int
 | 0, _ => []
 | n + 1, i => if affP s child i = true then (i : Int) :: affF s child n (i + 1) else affF s child n (i + 1)
def affL (x : Spec) (child : Int) : List Int := affF x.strategy child x.children.l.length 0
theorem affF_len (s child : Int) : ∀ (n i : Nat), (affF s child n i).length ≤ n := by
 intro n
 induction n with
 | zero => intro i; simp [affF]
 | succ n ih => intro i; have := ih (i + 1); unfold affF; split <;> simp <;> omega
theorem affF_none (s child : Int) : ∀ (n i : Nat), (∀ j, i ≤ j → j < i + n → affP s child j = false) → affF s child n i = [] := by
 intro n
 induction n with
 | zero => intro i _; rfl
 | succ n ih =>
  intro i h
  simp only [affF, h i (Nat.le_refl _) (by omega), Bool.false_eq_true, if_false]
  exact ih (i + 1) (fun j h1 h2 => h j (by omega) (by omega))
theorem affF_all (s child : Int) : ∀ (n i : Nat), (∀ j, i ≤ j → j < i + n → affP s child j = true) → affF s child n i = (List.range n).map fun (k : Nat) => (i : Int) + k := by
 intro n
 induction n with
 | zero => intro i _; rfl
 | succ n ih =>
  intro i h
  simp only [affF, h i (Nat.le_refl _) (by omega), if_true]
  rw [ih (i + 1) (fun j h1 h2 => h j (by omega) (by omega)), List.range_succ_eq_map]
  simp only [List.map_cons, List.map_map, Int.natCast_zero, Int.add_zero]
  congr 1
  apply List.map_congr_left
  intro k _
  simp; omega
theorem affF_app (s child : Int) : ∀ (n m i : Nat), affF s child (n + m) i = affF s child n i ++ affF s child m (i + n) := by
 intro n
 induction n with
 | zero => intro m i; simp [affF]
 | succ n ih =>
  intro m i
  rw [show n + 1 + m = (n + m) + 1 by omega]
  simp only [affF, ih]
  rw [show i + 1 + n = i + (n + 1) by omega]
  split <;> simp
theorem affF_mid (s child : Int) {n a b : Nat} (hab : a ≤ b) (hb : b < n) (h : ∀ j : Nat, j < n → (affP s child j = true ↔ a ≤ j ∧ j ≤ b)) : affF s child n 0 = (List.range (b + 1 - a)).map fun (k : Nat) => (a : Int) + k := by
 have e : n = a + ((b + 1 - a) + (n - (b + 1))) := by omega
 have e1 : affF s child a 0 = [] := affF_none s child a 0 fun j h1 h2 => by
  have := h j (by omega)
  cases hp : affP s child j with
  | false => rfl
  | true => rw [hp] at this; have := this.1 rfl; omega
 have e2 : affF s child (n - (b + 1)) (a + (b + 1 - a)) = [] := affF_none s child _ _ fun j h1 h2 => by
  have := h j (by omega)
  cases hp : affP s child j with
  | false => rfl
  | true => rw [hp] at this; have := this.1 rfl; omega
 have e3 := affF_all s child (b + 1 - a) a fun j h1 h2 => (h j (by omega)).2 ⟨by omega, by omega⟩
 rw [show affF s child n 0 = affF s child (a + ((b + 1 - a) + (n - (b + 1)))) 0 by rw [← e], affF_app, affF_app, e1, Nat.zero_add, e2, e3]
 simp
theorem loop52 (a : Nat) (m : Nat) (hm : m ≤ 1000000) (ha : a ≤ 1000000) (H : Heap) : okC (W.loop [6, 7, 8] l97_0 [(6, I ((a : Int) + m - 1)), (7, .isl (some true) 0 []), (8, I a)] H) (fun x F' H' => x = .exit 1 ∧ ∃ o, Grow H' 1 o (F'.get 7) ((List.range m).map fun (k : Nat) => I ((a : Int) + k))) := by
 have := loop_fold (Φ := Φ) (live := [6, 7, 8]) (L := l97_0) (List.range m) (σ := Unit) (fun _ _ s => s) (fun k _ F G => ∃ v o, F = [(6, I ((a : Int) + m - 1)), (7, v), (8, I ((a : Int) + k))] ∧ Grow G 1 o v ((List.range k).map fun (k : Nat) => I ((a : Int) + k))) (fun _ x F' H' => x = .exit 1 ∧ ∃ o, Grow H' 1 o (F'.get 7) ((List.range m).map fun (k : Nat) => I ((a : Int) + k))) (s := ()) (F := [(6, I ((a : Int) + m - 1)), (7, .isl (some true) 0 []), (8, I a)]) (H := H) ⟨_, none, by simp, grow_nil _ _⟩ ?_ ?_
 ·exact this
 ·rintro k x ⟨⟩ F G hk hx ⟨v, o, rfl, hg⟩
  have hkm : k < m := by simpa using hk
  have hw : IntKind.wrap .i64 ((a : Int) + k + 1) = (a : Int) + k + 1 := by rw [wrap64] <;> omega
  have hle : (a : Int) + k ≤ (a : Int) + m - 1 := by omega
  obtain ⟨o', v', G', a1, a2, a3, a4, a5⟩ := hg.app (y := .isl (some false) 1 [I ((a : Int) + k)]) (xs := [I ((a : Int) + k)]) (by simp) (by simp) (by simp [appRoom]; omega)
  simp [evl97_0, b97_0, intBin, hle, hw, hg.okO, a1, a2.okO]
  refine ⟨_, ⟨rfl, by omega⟩, o', ?_⟩
  rw [List.range_succ, List.map_append]
  exact a2
 ·rintro ⟨⟩ F G ⟨v, o, rfl, hg⟩
  have hgt : ¬ (a : Int) + m ≤ (a : Int) + m - 1 := by omega
  simp only [List.length_range] at hg ⊢
  simp [evl97_0, b97_0, intBin, hgt, hg.okO]
  exact ⟨o, hg⟩
theorem Grow.sl {α : Type} {f : α → AV} {H : Heap} {sz n : Nat} {o : Option Nat} {v : AV} {l : List α} (h : Grow H sz o v (l.map f)) (hf : (l.map f).all (fun e => e.cells.all AV.still) = true) : Go.Proofs.YtjknjapdcphcfaaGreat.frz H (n + 1) v = some (Sl.av f sz (if o = none then slNil else ofL sz l)) := by
 rw [h.frz hf]
 cases o with
 | none =>
  have : l = [] := by simpa using h.2
  subst this; rfl
 | some i => simp only [if_neg (show ¬ (some i = none) by simp)]; rw [isl_sl]
@[simp] theorem gsl_l {α : Type} (o : Option Nat) (sz : Nat) (l : List α) (h : o = none → l = []) : (if o = none then slNil else ofL sz l : Sl α).l = l := by
 by_cases ho : o = none
 ·rw [if_pos ho, h ho]
 ·rw [if_neg ho]
theorem e52 (x : Spec) (child : Int) (hs : inR x.strategy 1 3 = true) (hn : x.children.l.length ≤ 1000) (hc : 0 ≤ child ∧ child < x.children.l.length) : ∃ r : Sl Int, W.pure 97 [x.av, I child] = some (Sl.ints r) ∧ r.l = affL x child := by
 obtain ⟨a, rfl⟩ : ∃ a : Nat, child = a := ⟨child.toNat, by omega⟩
 have ha : a < x.children.l.length := by omega
 have hw : IntKind.wrap .i64 ((x.children.l.length : Int) - 1) = (x.children.l.length : Int) - 1 := wrap_pred (by omega)
 have fin : ∀ (lo m : Nat), lo ≤ 1000 → m ≤ 1000 → affL x a = (List.range m).map (fun (k : Nat) => (lo : Int) + k) → ∃ (F' : Fr) (H' : Heap) (r : Sl Int), W.loop [6, 7, 8] l97_0 [(6, I ((lo : Int) + m - 1)), (7, .isl (some true) 0 []), (8, I lo)] [.arr 0 4 false [x.av]] = some (.exit 1, F', H') ∧ okO (F'.get 7) = some (F'.get 7) ∧ frz H' 8 (F'.get 7) = some (Sl.ints r) ∧ r.l = affL x a := by
  intro lo m h1 h2 he
  obtain ⟨y, F', H', e1, rfl, o, hg⟩ := okC_iff.1 (loop52 lo m (by omega) (by omega) [.arr 0 4 false [x.av]])
  have e2 : (List.range m).map (fun (k : Nat) => I ((lo : Int) + k)) = (affL x a).map I := by rw [he, List.map_map]; rfl
  rw [e2] at hg
  have hf := hg.sl (n := 7) (by simp)
  refine ⟨F', H', _, e1, hg.okO, hf, gsl_l _ _ _ fun ho => ?_⟩
  subst ho; simpa using hg.2
 simp [inR] at hs
 have h123 : x.strategy = 1 ∨ x.strategy = 2 ∨ x.strategy = 3 := by omega
 rcases h123 with h | h | h
 ·obtain ⟨F', H', r, e1, e2, e3, e4⟩ := fin a 1 (by omega) (by omega) (by
   unfold affL
   rw [affF_mid _ _ (a := a) (b := a) (Nat.le_refl _) ha (fun j hj => by simp [affP, h]; omega)]
   rw [show a + 1 - a = 1 by omega])
  rw [show (a : Int) + (1 : Nat) - 1 = a by omega] at e1
  refine ⟨r, ?_, e4⟩
  rw [W_pure Φ97 (by simp)]
  simp [fi97, c97, evFun, enterFr, intBin, resV, rvVs, rvV, h, hw, e1, e2, e3]
 ·obtain ⟨F', H', r, e1, e2, e3, e4⟩ := fin 0 x.children.l.length (by omega) (by omega) (by
   unfold affL
   rw [affF_mid _ _ (a := 0) (b := x.children.l.length - 1) (by omega) (by omega) (fun j hj => by simp [affP, h]; omega)]
   rw [show x.children.l.length - 1 + 1 - 0 = x.children.l.length by omega])
  rw [show ((0 : Nat) : Int) + x.children.l.length - 1 = (x.children.l.length : Int) - 1 by omega] at e1
  simp only [Int.natCast_zero] at e1
  refine ⟨r, ?_, e4⟩
  rw [W_pure Φ97 (by simp)]
  simp [fi97, c97, evFun, enterFr, intBin, resV, rvVs, rvV, h, hw, e1, e2, e3]
 ·obtain ⟨F', H', r, e1, e2, e3, e4⟩ := fin a (x.children.l.length - a) (by omega) (by omega) (by
   unfold affL
   rw [affF_mid _ _ (a := a) (b := x.children.l.length - 1) (by omega) (by omega) (fun j hj => by simp [affP, h]; omega)]
   rw [show x.children.l.length - 1 + 1 - a = x.children.l.length - a by omega])
  rw [show (a : Int) + (x.children.l.length - a : Nat) - 1 = (x.children.l.length : Int) - 1 by omega] at e1
  refine ⟨r, ?_, e4⟩
  rw [W_pure Φ97 (by simp)]
  simp [fi97, c97, evFun, enterFr, intBin, resV, rvVs, rvV, h, hw, e1, e2, e3]
def fitB (x : Spec) (child : Int) : Bool := decide (chk x = 0) && inR child 0 ((x.children.l.length : Int) - 1)
theorem chk_ok {x : Spec} (h : chk x = 0) : inR x.strategy 1 3 = true ∧ inR x.intensity 0 100 = true ∧ inR x.window 1 1099511627776 = true ∧ inR x.children.l.length 1 16 = true := by
 unfold chk at h
 split at h
 ·cases h
 ·split at h
  ·cases h
  ·split at h
   ·cases h
   ·rename_i h1 h2 h3
    refine ⟨by simpa using h1, ?_, ?_, by simpa using h3⟩
    ·cases hb : inR x.intensity 0 100
     ·exact absurd (.inl hb) h2
     ·rfl
    ·cases hb : inR x.window 1 1099511627776
     ·exact absurd (.inr hb) h2
     ·rfl
theorem chk_len {x : Spec} (h : chk x = 0) : 1 ≤ x.children.l.length ∧ x.children.l.length ≤ 16 := by
 have := (chk_ok h).2.2.2
 simp [inR] at this; omega
def affAll (x : Spec) (child : Int) : List Int := if fitB x child = true then affL x child else []
end
section
theorem loop34 (x : Spec) (child : Int) (hl : x.children.l.length ≤ 1000) (H : Heap) (h0 : H[0]? = some (.arr 0 4 false [x.av])) (h1 : H[1]? = some (.arr 0 1 false [])) :
  okC (W.loop [1, 2, 5, 6] l89_0 [(1, I child), (2, .optr 0 0 0 0), (5, .osl 1 0 0 0), (6, I 0)] H) (fun y F' H' => y = .exit 0 ∧ Grow H' 1 (some 1) (F'.get 5) ((affL x child).map I)) := by
 have key : ∀ (r : List Child) (k : Nat) (acc : List Int), (r.zipIdx k).foldl (fun s p => if affP x.strategy child p.2 = true then s ++ [(p.2 : Int)] else s) acc = acc ++ affF x.strategy child r.length k := by
  intro r
  induction r with
  | nil => intro k acc; simp [affF]
  | cons c r ih =>
   intro k acc
   rw [List.zipIdx_cons, List.foldl_cons, ih]
   simp only [List.length_cons, affF]
   split <;> simp
 have := loop_fold (Φ := Φ) (live := [1, 2, 5, 6]) (L := l89_0) x.children.l (σ := List Int) (fun k _ s => if affP x.strategy child k = true then s ++ [(k : Int)] else s) (fun k s F G => ∃ v, F = [(1, I child), (2, .optr 0 0 0 0), (5, v), (6, I k)] ∧ G[0]? = some (.arr 0 4 false [x.av]) ∧ Grow G 1 (some 1) v (s.map I) ∧ s.length ≤ k) (fun s y F' H' => y = .exit 0 ∧ Grow H' 1 (some 1) (F'.get 5) (s.map I)) (s := []) (F := [(1, I child), (2, .optr 0 0 0 0), (5, .osl 1 0 0 0), (6, I 0)]) (H := H) ⟨_, rfl, h0, grow_mk (l := []) h1, by simp⟩ ?_ ?_
 ·rw [key] at this; exact this
 ·rintro k c s F G hk hc ⟨v, rfl, g0, hg, hsl⟩
  have hw := wrap_succ (k := k) (by omega)
  by_cases ha : affP x.strategy child k = true
  ·obtain ⟨o', v', G', a1, a2, a3, a4, a5⟩ := hg.app (y := .isl (some false) 1 [I k]) (xs := [I k]) (by simp) (by simp) (by simp [appRoom]; omega)
   have ho : o' = some 1 := by
    rcases a4 with h | ⟨h, _⟩
    ·exact h
    ·cases h
   subst ho
   have hk0 := a3.get (j := 0) (by simp) g0
   simp only [if_pos ha]
   have hP : ((k : Int) = child ∨ x.strategy = 2) ∨ x.strategy = 3 ∧ child < (k : Int) := by simpa [affP] using ha
   simp [evl89_0, b89_0, intBin, hk, hw, g0, hP, hg.okO, a1, a2.okO, hk0]
   exact ⟨by simpa using a2, by omega⟩
  ·simp only [if_neg ha]
   have hP : ¬ (((k : Int) = child ∨ x.strategy = 2) ∨ x.strategy = 3 ∧ child < (k : Int)) := by simpa [affP] using ha
   simp [evl89_0, b89_0, intBin, hk, hw, g0, hP, hg.okO]
   exact ⟨hg, by omega⟩
 ·rintro s F G ⟨v, rfl, g0, hg, hsl⟩
  simp [evl89_0, b89_0, intBin, g0]
  exact hg
theorem e34 (x : Spec) (hl : x.children.l.length ≤ 1000000) (child : Int) : ∃ r : Sl Int, W.pure 89 [x.av, I child] = some (Sl.ints r) ∧ r.l = affAll x child := by
 have h32 := e32 x
 have h47 := e47 child 0 ((x.children.l.length : Int) - 1)
 have hw : IntKind.wrap .i64 ((x.children.l.length : Int) - 1) = (x.children.l.length : Int) - 1 := wrap_pred (by omega)
 have hf0 : frz [.arr 0 4 false [x.av], .arr 0 1 false []] 8 (.osl 1 0 0 0) = some (Sl.ints (ofL 1 [])) := frz_full (id := 1) rfl rfl rfl
 unfold affAll fitB
 by_cases h0 : chk x = 0
 ·cases hr : inR child 0 ((x.children.l.length : Int) - 1)
  ·refine ⟨ofL 1 [], ?_, by simp⟩
   rw [W_pure Φ89 (by simp)]
   rw [hr] at h47
   simp [fi89, c89, evFun, enterFr, intBin, resV, rvVs, rvV, h32, h0, hw, h47, hf0]
  ·have hlen := chk_len h0
   rw [hr] at h47
   obtain ⟨y, F', H', e1, rfl, hg⟩ := okC_iff.1 (loop34 x child (by omega) [.arr 0 4 false [x.av], .arr 0 1 false []] rfl rfl)
   have hf : frz H' 8 (F'.get 5) = some (Sl.ints (ofL 1 (affL x child))) := hg.sl (n := 7) (by simp)
   refine ⟨ofL 1 (affL x child), ?_, by simp [h0]⟩
   rw [W_pure Φ89 (by simp)]
   simp [fi89, c89, evFun, enterFr, intBin, resV, rvVs, rvV, h32, h0, hw, h47, e1, hg.okO, hf]
 ·refine ⟨ofL 1 [], ?_, by simp [h0]⟩
  rw [W_pure Φ89 (by simp)]
  simp [fi89, c89, evFun, enterFr, intBin, resV, rvVs, rvV, h32, h0, hf0]
theorem count_fold {α : Type} (p : α → Bool) : ∀ (r : List α) (k : Nat) (n : Nat), (r.zipIdx k).foldl (fun (s : Nat) a => if p a.1 = true then s + 1 else s) n = n + (r.filter p).length := by
 intro r
 induction r with
 | nil => intro k n; rfl
 | cons a r ih =>
  intro k n
  rw [List.zipIdx_cons, List.foldl_cons, ih]
  by_cases h : p a = true
  ·simp [h]; omega
  ·simp [h]
end
section
def At (H : Heap) (a : AV) (cs : List AV) : Prop := okO a = some a ∧ (∀ g n, ldCells g n cs ≠ .bad → loadV H g n a = ldCells g n cs) ∧ ∀ off, okO (fldV off a) = some (fldV off a) ∧ ∀ g n, ldCells g n (cs.drop off) ≠ .bad → loadV H g n (fldV off a) = ldCells g n (cs.drop off)
structure Rd (H : Heap) (sz : Nat) (v : AV) (l : List AV) : Prop where
 ok : okO v = some v
 len : lenV false v = .int .i64 l.length
 get : ∀ (k : Nat) (e : AV), l[k]? = some e → ∃ a, idxaV H sz v (.int .i64 k) = a ∧ At H a e.cells
theorem At.eptr (H : Heap) (cs : List AV) : At H (.eptr cs) cs := ⟨rfl, fun _ _ _ => rfl, fun _ => ⟨rfl, fun _ _ _ => rfl⟩⟩
theorem At.optr {H : Heap} {id ver sz idx : Nat} {sh : Bool} {es : List AV} {e : AV} (h : H[id]? = some (.arr ver sz sh es)) (he : es[idx]? = some e) : At H (.optr id ver idx 0) e.cells := by
 refine ⟨rfl, fun g n _ => by simp [h, he], fun off => ⟨rfl, fun g n _ => by simp [h, he]⟩⟩
theorem Rd.of_sl {α : Type} (f : α → AV) (H : Heap) (sz : Nat) (x : Sl α) : Rd H sz (Sl.av f sz x) (x.l.map f) := by
 refine ⟨rfl, by simp, fun k e he => ?_⟩
 rw [List.getElem?_map] at he
 cases hk : x.l[k]? with
 | none => simp [hk] at he
 | some y =>
  simp only [hk, Option.map_some, Option.some.injEq] at he
  subst he
  exact ⟨.eptr (f y).cells, by simp [hk], At.eptr _ _⟩
theorem Rd.of_own {H : Heap} {sz id ver : Nat} {l : List AV} {sh : Bool} (h : H[id]? = some (.arr ver sz sh l)) : Rd H sz (.osl id ver 0 l.length) l := by
 refine ⟨rfl, rfl, fun k e he => ?_⟩
 have hk : k < l.length := (gEs.1 he).1
 exact ⟨.optr id ver k 0, by simp [h, hk], At.optr h he⟩
theorem Rd.of_grow {H : Heap} {sz : Nat} {o : Option Nat} {v : AV} {l : List AV} (h : Grow H sz o v l) : Rd H sz v l := by
 cases o with
 | none =>
  obtain ⟨rfl, rfl⟩ := h
  exact ⟨rfl, rfl, by simp⟩
 | some id =>
  obtain ⟨ver, t, rfl, h2⟩ := h
  refine ⟨rfl, rfl, fun k e he => ?_⟩
  have hk : k < l.length := (gEs.1 he).1
  exact ⟨.optr id ver k 0, by simp [h2, hk], At.optr h2 (by rw [gEa hk]; exact he)⟩
theorem loadV_kept {H H' : Heap} (hk : Kept none H H') {g : Bool} {n : Nat} {x : AV} (h : loadV H g n x ≠ .bad) : loadV H' g n x = loadV H g n x := by
 cases x <;> try rfl
 rename_i id ver idx off
 simp only [loadV] at h ⊢
 cases hb : H[id]? with
 | none => simp [hb] at h
 | some B => rw [hk.get (by simp) hb]
theorem idxaV_kept {H H' : Heap} (hk : Kept none H H') {sz : Nat} {x y : AV} (h : idxaV H sz x y ≠ .bad) : idxaV H' sz x y = idxaV H sz x y := by
 cases x <;> cases y <;> try rfl
 rename_i id ver off len k n
 simp only [idxaV] at h ⊢
 cases hb : H[id]? with
 | none => simp [hb] at h
 | some B => rw [hk.get (by simp) hb]
theorem okO_ne {a : AV} (h : okO a = some a) : a ≠ .bad := by rintro rfl; cases h
theorem At.kept {H H' : Heap} {a : AV} {cs : List AV} (h : At H a cs) (hk : Kept none H H') : At H' a cs := by
 obtain ⟨h1, h2, h3⟩ := h
 refine ⟨h1, fun g n hb => ?_, fun off => ⟨(h3 off).1, fun g n hb => ?_⟩⟩
 ·have := h2 g n hb
  rw [loadV_kept hk (by rw [this]; exact hb)]; exact this
 ·have := (h3 off).2 g n hb
  rw [loadV_kept hk (by rw [this]; exact hb)]; exact this
theorem Rd.kept {H H' : Heap} {sz : Nat} {v : AV} {l : List AV} (h : Rd H sz v l) (hk : Kept none H H') : Rd H' sz v l := by
 refine ⟨h.ok, h.len, fun k e he => ?_⟩
 obtain ⟨a, h1, h2⟩ := h.get k e he
 exact ⟨a, by rw [idxaV_kept hk (by rw [h1]; exact okO_ne h2.1)]; exact h1, h2.kept hk⟩
def cnt (l : List ChildState) (st : Int) : Nat := (l.filter fun c => decide (c.status = st)).length
theorem call68 (v : AV) (l : List ChildState) (hl : l.length ≤ 1000000) (st : Int) (H : Heap) (hr : Rd H 2 v (l.map ChildState.av)) : okV (evFun W fi75 [v, I st] H) (fun u H' => u = I (cnt l st) ∧ Kept none H H') := by
 have hlen := hr.len
 rw [List.length_map] at hlen
 have hL := loop_fold (Φ := Φ) (live := [1, 5, 8, 9, 10]) (L := l75_0) l (σ := Nat) (fun _ c s => if decide (c.status = st) = true then s + 1 else s) (fun k s F G => F = [(1, I st), (5, I s), (8, v), (9, I l.length), (10, I k)] ∧ Kept none H G ∧ s ≤ k) (fun s y F' G => y = .exit 0 ∧ F'.get 5 = I s ∧ Kept none H G) (s := 0) (F := [(1, I st), (5, I 0), (8, v), (9, I l.length), (10, I 0)]) (H := H) ⟨rfl, Kept.refl _ _, Nat.le_refl _⟩ ?_ ?_
 ·rw [count_fold (fun c : ChildState => decide (c.status = st))] at hL
  obtain ⟨y, F', H', e1, rfl, e2, e3⟩ := okC_iff.1 hL
  simp [fi75, c75, evFun, enterFr, intBin, resV, rvVs, rvV, hr.ok, hlen, e1, e2]
  exact ⟨by unfold cnt; simp, e3⟩
 ·rintro k c s F G hk hc ⟨rfl, hK, hs⟩
  have hw := wrap_succ (k := k) (by omega)
  have hw2 := wrap_succ (k := s) (by omega)
  obtain ⟨a, a1, a2, a3, _⟩ := (hr.kept hK).get k c.av (by rw [List.getElem?_map, hc]; rfl)
  have a3 := a3 true 2 (by intro h; cases h)
  have hK' := hK.trans (Kept.append none G [.arr 0 2 false [c.av]])
  by_cases ha : c.status = st
  ·simp [evl75_0, b75_0, intBin, hk, hw, hw2, hr.ok, a1, a2, a3, ha]
   exact ⟨hK', by omega⟩
  ·simp [evl75_0, b75_0, intBin, hk, hw, hw2, hr.ok, a1, a2, a3, ha]
   exact ⟨hK', by omega⟩
 ·rintro s F G ⟨rfl, hK, hs⟩
  simp [evl75_0, b75_0, intBin, hK]
theorem e68 (x : Sl ChildState) (hl : x.l.length ≤ 1000000) (st : Int) : W.pure 75 [Sl.av ChildState.av 2 x, I st] = some (I (cnt x.l st)) := by
 rw [W_pure Φ75 rfl]
 obtain ⟨u, H', e1, rfl, _⟩ := okV_iff.1 (call68 _ x.l hl st [] (Rd.of_sl _ _ _ _))
 rw [e1]; rfl
theorem call64 (v r : AV) (a : Int) (f : Bool) (l : List ChildState) (hl : l.length ≤ 1000000) (st : Int) (H : Heap) (hr : Rd H 2 v (l.map ChildState.av)) (hv1 : v.cells = [v]) (hv2 : v.cell = true) (hr0 : okO r = some r) (hr1 : r.cells = [r]) (hr2 : r.cell = true) : okV (evFun W fi84 [.agg [I a, v, r, .bool f], I st] H) (fun u H' => u = I (cnt l st) ∧ Kept none H H') := by
 have hlen := hr.len
 rw [List.length_map] at hlen
 have hK0 := Kept.append none H [.arr 0 4 false [.agg [I a, v, r, .bool f]]]
 have hL := loop_fold (Φ := Φ) (live := [1, 2, 5, 6]) (L := l84_0) l (σ := Nat) (fun _ c s => if decide (c.status = st) = true then s + 1 else s) (fun k s F G => F = [(1, I st), (2, .optr H.length 0 0 0), (5, I s), (6, I k)] ∧ G = H ++ [.arr 0 4 false [.agg [I a, v, r, .bool f]]] ∧ s ≤ k) (fun s y F' G => y = .exit 0 ∧ F'.get 5 = I s ∧ G = H ++ [.arr 0 4 false [.agg [I a, v, r, .bool f]]]) (s := 0) (F := [(1, I st), (2, .optr H.length 0 0 0), (5, I 0), (6, I 0)]) (H := H ++ [.arr 0 4 false [.agg [I a, v, r, .bool f]]]) ⟨rfl, rfl, Nat.le_refl _⟩ ?_ ?_
 ·rw [count_fold (fun c : ChildState => decide (c.status = st))] at hL
  obtain ⟨y, F', H', e1, rfl, e2, rfl⟩ := okC_iff.1 hL
  simp [fi84, c84, evFun, enterFr, intBin, resV, rvVs, rvV, hr.ok, hv2, hr2, e1, e2]
  exact ⟨by unfold cnt; simp, hK0⟩
 ·rintro k c s F G hk hc ⟨rfl, rfl, hs⟩
  have hw := wrap_succ (k := k) (by omega)
  have hw2 := wrap_succ (k := s) (by omega)
  obtain ⟨a', a1, a2, _, a3⟩ := (hr.kept hK0).get k c.av (by rw [List.getElem?_map, hc]; rfl)
  obtain ⟨a4, a5⟩ := a3 0
  have a5 := a5 false 1 (by intro h; cases h)
  by_cases ha : c.status = st
  ·simp [evl84_0, b84_0, intBin, hk, hw, hw2, hr.ok, hlen, a1, a2, a4, a5, ha]
   omega
  ·simp [evl84_0, b84_0, intBin, hk, hw, hw2, hr.ok, hlen, a1, a2, a4, a5, ha]
   omega
 ·rintro s F G ⟨rfl, rfl, hs⟩
  simp [evl84_0, b84_0, intBin, hr.ok, hlen]
end
section
theorem e64 (s : State) (hl : s.children.l.length ≤ 1000000) (st : Int) : W.pure 84 [s.av, I st] = some (I (cnt s.children.l st)) := by
 rw [W_pure Φ84 (by simp)]
 obtain ⟨u, H', e1, rfl, _⟩ := okV_iff.1 (call64 (Sl.av ChildState.av 2 s.children) (Sl.ints s.restarts) s.status s.failed s.children.l hl st [] (Rd.of_sl _ _ _ _) rfl rfl rfl rfl rfl)
 show (evFun W fi84 [.agg [I s.status, Sl.av ChildState.av 2 s.children, Sl.ints s.restarts, .bool s.failed], I st] []).bind _ = _
 rw [e1]; rfl
def badStarts (c : ChildState) : Bool := !inR c.starts 1 1099511627776
theorem e69 (c : ChildState) (H : Heap) : W.call (.clo 77 [] []) [c.av] H = some (.bool (badStarts c), H ++ [.arr 0 2 false [c.av]]) := by
 rw [W_call Φ77]
 have h51 := e51 c.starts 1 1099511627776
 simp [fi77, c77, evFun, enterFr, intBin, resV, rvVs, rvV, h51, badStarts]
theorem e50 (f : AV) (kf : okO f = some f) (p : ChildState → Bool) (Inv : Heap → Prop) (hf : ∀ y H, Inv H → okV (W.call f [y.av] H) (fun v H' => v = .bool (p y) ∧ Inv H')) (x : Sl ChildState) (hl : x.l.length ≤ 1000000) (H : Heap) (h : Inv H) :
  okV (W.call (.clo 92 [] []) [Sl.av ChildState.av 2 x, f] H) (fun v H' => v = I (idxP p x.l) ∧ Inv H') := by
 rw [W_call Φ92]
 have hL := loop_all (Φ := Φ) (live := [0, 1, 7, 8]) (L := l92_0) x.l (fun k c _ => if p c then (.inr (k : Int) : Unit ⊕ Int) else .inl ()) (fun k _ F H => F = [(0, Sl.av ChildState.av 2 x), (1, f), (7, I x.l.length), (8, I k)] ∧ Inv H) (fun k x F H => x = .ret ∧ F.get 4 = I k ∧ Inv H) (fun _ x F H => x = .exit 0 ∧ Inv H) (s := ()) ⟨rfl, h⟩ ?_ ?_
 ·simp only [Int.natCast_zero] at hL
  unfold idxP
  cases hr : foldE (σ := Unit) (ρ := Int) (fun k c _ => if p c then .inr (k : Int) else .inl ()) 0 x.l () with
  | inl u =>
   rw [hr] at hL
   obtain ⟨y, F', H', e1, rfl, e2⟩ := okC_iff.1 hL
   simp [fi92, c92, evFun, enterFr, intBin, resV, rvVs, rvV, kf, e1, e2]
  | inr k =>
   rw [hr] at hL
   obtain ⟨y, F', H', e1, rfl, e2, e3⟩ := okC_iff.1 hL
   simp [fi92, c92, evFun, enterFr, intBin, resV, rvVs, rvV, kf, e1, e2, e3]
 ·rintro k c ⟨⟩ F H hk hc ⟨rfl, hi⟩
  have hw := wrap_succ (k := k) (by omega)
  have hkc : x.l[k] = c := (gEs.1 hc).2
  obtain ⟨v, H', e1, rfl, e2⟩ := okV_iff.1 (hf c H hi)
  cases hp : p c <;> simp [evl92_0, b92_0, intBin, hk, hkc, hw, kf, e1, hp, e2]
 ·rintro ⟨⟩ F H ⟨rfl, hi⟩
  simp [evl92_0, b92_0, intBin, kf, hi]
theorem e23 (g : FuncId) (p : ChildState → Bool) (hf : ∀ y H, okV (W.call (.clo g [] []) [y.av] H) (fun v H' => v = .bool (p y))) (x : Sl ChildState) (hl : x.l.length ≤ 1000000) : W.pure 76 [Sl.av ChildState.av 2 x, .clo g [] []] = some (.bool (x.l.any p)) := by
 have h50 : W.pure 92 [Sl.av ChildState.av 2 x, .clo g [] []] = some (I (idxP p x.l)) := by
  obtain ⟨v, H', e1, rfl, _⟩ := okV_iff.1 (e50 (.clo g [] []) rfl p (fun _ => True) (fun y H _ => by
   obtain ⟨v, H', e1, e2⟩ := okV_iff.1 (hf y H)
   rw [e1]; exact ⟨e2, trivial⟩) x hl [] trivial)
  rw [W_call Φ92] at e1
  simp only [List.nil_append, List.append_nil] at e1
  rw [W_pure Φ92 rfl, e1]; rfl
 rw [W_pure Φ76 rfl, ← idxP_any]
 simp [fi76, c76, evFun, enterFr, intBin, resV, rvVs, rvV, h50]
def fitsB (x : Spec) (s : State) : Bool :=
 let r := cnt s.children.l 1; let p := cnt s.children.l 2; let w := cnt s.children.l 4
 if s.status = 1 then decide (p = 0) && decide (w = 0) else if s.status = 2 then decide (x.strategy ≠ 1) && decide (0 < p) && decide (0 < w) else if s.status = 3 then decide (0 < p) && decide (r = 0) && decide (w = 0)
 else decide (s.status = 4) && decide (r = 0) && decide (p = 0) && decide (w = 0)
def childOk (c : ChildState) : Bool := inR c.status 1 4 && inR c.starts 1 1099511627776
def childrenB (x : Spec) (s : State) : Bool := decide (s.children.l.length = x.children.l.length) && s.children.l.all childOk && fitsB x s
theorem cnt_cons (c : ChildState) (r : List ChildState) (st : Int) : cnt (c :: r) st = cnt r st + (if c.status = st then 1 else 0) := by
 unfold cnt
 rw [List.filter_cons]
 split <;> rename_i h <;> simp at h <;> simp [h]
theorem cnt_all : ∀ (l : List ChildState), cnt l 1 + cnt l 2 + cnt l 3 + cnt l 4 ≤ l.length ∧ (cnt l 1 + cnt l 2 + cnt l 3 + cnt l 4 = l.length ↔ l.all (fun c => inR c.status 1 4) = true) := by
 intro l
 induction l with
 | nil => exact ⟨by simp [cnt], by simp [cnt]⟩
 | cons c r ih =>
  simp only [cnt_cons, List.length_cons, List.all_cons, Bool.and_eq_true]
  obtain ⟨i1, i2⟩ := ih
  rw [← i2]
  by_cases h : inR c.status 1 4 = true
  ·have h' := h
   simp [inR] at h'
   have : c.status = 1 ∨ c.status = 2 ∨ c.status = 3 ∨ c.status = 4 := by omega
   rcases this with e | e | e | e <;> rw [e] <;> simp [inR] <;> omega
  ·have h' : c.status ≠ 1 ∧ c.status ≠ 2 ∧ c.status ≠ 3 ∧ c.status ≠ 4 := by
    refine ⟨?_, ?_, ?_, ?_⟩ <;> intro e <;> rw [e] at h <;> exact h (by decide)
   simp only [if_neg h'.1, if_neg h'.2.1, if_neg h'.2.2.1, if_neg h'.2.2.2]
   refine ⟨by omega, ⟨fun e => by omega, fun e => absurd e.1 h⟩⟩
theorem e45 (x : Spec) (s : State) (hl : s.children.l.length ≤ 1000000) (hx : x.children.l.length ≤ 1000000) : W.pure 56 [x.av, s.av] = some (.bool (childrenB x s)) := by
 rw [W_pure Φ56 (by simp)]
 have c1 := e68 s.children hl 1
 have c2 := e68 s.children hl 2
 have c3 := e68 s.children hl 3
 have c4 := e68 s.children hl 4
 have h23 := e23 77 badStarts (fun y H => by rw [e69]; exact rfl) s.children hl
 obtain ⟨k1, k2⟩ := cnt_all s.children.l
 have hall : s.children.l.all childOk = (s.children.l.all (fun c => inR c.status 1 4) && !s.children.l.any badStarts) := by
  generalize s.children.l = l
  induction l with
  | nil => rfl
  | cons c r ih =>
   simp only [List.all_cons, List.any_cons, ih, childOk, badStarts]
   cases inR c.status 1 4 <;> cases inR c.starts 1 1099511627776 <;> simp
 unfold childrenB fitsB
 rw [hall]
 generalize s.children.l.any badStarts = bs at *
 generalize cnt s.children.l 1 = n1 at *
 generalize cnt s.children.l 2 = n2 at *
 generalize cnt s.children.l 3 = n3 at *
 generalize cnt s.children.l 4 = n4 at *
 have w1 : IntKind.wrap .i64 ((n1 : Int) + n2) = (n1 : Int) + n2 := by rw [wrap64] <;> omega
 have w2 : IntKind.wrap .i64 ((n1 : Int) + n2 + n3) = (n1 : Int) + n2 + n3 := by rw [wrap64] <;> omega
 have w3 : IntKind.wrap .i64 ((n1 : Int) + n2 + n3 + n4) = (n1 : Int) + n2 + n3 + n4 := by rw [wrap64] <;> omega
 have w4 : IntKind.wrap .i64 ((n2 : Int) + n4) = (n2 : Int) + n4 := by rw [wrap64] <;> omega
 have w5 : IntKind.wrap .i64 ((n1 : Int) + n4) = (n1 : Int) + n4 := by rw [wrap64] <;> omega
 by_cases hlen : (s.children.l.length : Int) = x.children.l.length
 ·by_cases hsum : (n1 : Int) + n2 + n3 + n4 = s.children.l.length
  ·have ha := k2.1 (by omega)
   rw [ha]
   cases bs
   ·have hl2 : s.children.l.length = x.children.l.length := by omega
    have hs2 : (n1 : Int) + n2 + n3 + n4 = x.children.l.length := by omega
    have w6 : IntKind.wrap .i64 (x.children.l.length : Int) = x.children.l.length := by rw [wrap64] <;> omega
    by_cases s1 : s.status = 1
    ·simp [fi56, c56, evFun, enterFr, intBin, resV, rvVs, rvV, c1, c2, c3, c4, w1, w2, w3, w4, w5, w6, hlen, hl2, hsum, hs2, h23, s1]
     rw [Bool.eq_iff_iff]; simp; omega
    ·by_cases s2 : s.status = 2
     ·simp [fi56, c56, evFun, enterFr, intBin, resV, rvVs, rvV, c1, c2, c3, c4, w1, w2, w3, w4, w5, w6, hlen, hl2, hsum, hs2, h23, s1, s2]
     ·by_cases s3 : s.status = 3
      ·simp [fi56, c56, evFun, enterFr, intBin, resV, rvVs, rvV, c1, c2, c3, c4, w1, w2, w3, w4, w5, w6, hlen, hl2, hsum, hs2, h23, s1, s2, s3]
       rw [Bool.eq_iff_iff]; simp; omega
      ·by_cases s4 : s.status = 4
       ·simp [fi56, c56, evFun, enterFr, intBin, resV, rvVs, rvV, c1, c2, c3, c4, w1, w2, w3, w4, w5, w6, hlen, hl2, hsum, hs2, h23, s1, s2, s3, s4]
        rw [Bool.eq_iff_iff]; simp; omega
       ·simp [fi56, c56, evFun, enterFr, intBin, resV, rvVs, rvV, c1, c2, c3, c4, w1, w2, w3, w4, w5, w6, hlen, hl2, hsum, hs2, h23, s1, s2, s3, s4]
   ·simp [fi56, c56, evFun, enterFr, intBin, resV, rvVs, rvV, c1, c2, c3, c4, w1, w2, w3, hlen, hsum, h23]
  ·have ha : s.children.l.all (fun c => inR c.status 1 4) = false := by
    cases h : s.children.l.all (fun c => inR c.status 1 4) with
    | false => rfl
    | true => exact absurd (k2.2 h) (by omega)
   rw [ha]
   have hs2 : ¬ (n1 : Int) + n2 + n3 + n4 = x.children.l.length := by omega
   simp [fi56, c56, evFun, enterFr, intBin, resV, rvVs, rvV, c1, c2, c3, c4, w1, w2, w3, hlen, hsum, hs2]
 ·have : ¬ s.children.l.length = x.children.l.length := by omega
  simp [fi56, c56, evFun, enterFr, intBin, resV, rvVs, rvV, c1, c2, c3, c4, w1, w2, w3, hlen, this]
end
section
def lastI (l : List Int) : Int := l.getD (l.length - 1) 0
def badTime (l : List Int) (win : Int) (k : Nat) (t : Int) : Bool := (!inR t 0 1099511627776 || (decide (0 < k) && decide (t < l.getD (k - 1) 0))) || decide (t ≤ IntKind.wrap .i64 (lastI l - win))
def timeStep (l : List Int) (win : Int) (k : Nat) (t : Int) : Unit ⊕ Unit := if badTime l win k t = true then .inr () else .inl ()
def timesB (l : List Int) (win : Int) : Bool := match foldE (fun k t _ => timeStep l win k t) 0 l () with | .inl _ => true | .inr _ => false
theorem e46 (x : Spec) (r : Sl Int) (hr : r.l.length ≤ 1000000) : W.pure 57 [x.av, Sl.ints r] = some (.bool (timesB r.l x.window && decide ((r.l.length : Int) ≤ x.intensity))) := by
 rw [W_pure Φ57 (by simp)]
 have hL := loop_all (Φ := Φ) (live := [1, 2, 7, 8, 9]) (L := l57_0) r.l (fun k t _ => timeStep r.l x.window k t) (fun k _ F G => F = [(1, Sl.ints r), (2, .optr 0 0 0 0), (7, Sl.ints r), (8, I r.l.length), (9, I k)] ∧ G = [.arr 0 4 false [x.av]]) (fun _ y F G => y = .ret ∧ F.get 4 = .bool false) (fun _ y F G => y = .exit 0 ∧ F.get 1 = Sl.ints r ∧ F.get 2 = .optr 0 0 0 0 ∧ G = [.arr 0 4 false [x.av]]) (s := ()) (F := [(1, Sl.ints r), (2, .optr 0 0 0 0), (7, Sl.ints r), (8, I r.l.length), (9, I 0)]) (H := [.arr 0 4 false [x.av]]) ⟨rfl, rfl⟩ ?_ ?_
 ·unfold timesB
  cases hf : foldE (fun k t _ => timeStep r.l x.window k t) 0 r.l () with
  | inl u =>
   rw [hf] at hL
   obtain ⟨y, F', H', e1, rfl, e2, e3, rfl⟩ := okC_iff.1 hL
   simp [fi57, c57, evFun, enterFr, intBin, resV, rvVs, rvV, e1, e2, e3]
  | inr u =>
   rw [hf] at hL
   obtain ⟨y, F', H', e1, rfl, e2⟩ := okC_iff.1 hL
   simp [fi57, c57, evFun, enterFr, intBin, resV, rvVs, rvV, e1, e2]
 ·rintro k t ⟨⟩ F G hk hc ⟨rfl, rfl⟩
  have hw := wrap_succ (k := k) (by omega)
  have hkt : r.l[k] = t := (gEs.1 hc).2
  have h51 := e51 t 0 1099511627776
  obtain ⟨n, hn⟩ : ∃ n, r.l.length = n + 1 := ⟨r.l.length - 1, by omega⟩
  have hwn : IntKind.wrap .i64 ((r.l.length : Int) - 1) = (n : Int) := by rw [wrap_pred (by omega)]; omega
  have hnl : n < r.l.length := by omega
  have hlast : lastI r.l = r.l[n] := by unfold lastI; rw [show r.l.length - 1 = n by omega]; simp [hnl]
  unfold timeStep badTime
  rw [hlast]
  generalize inR t 0 1099511627776 = b1 at *
  cases b1
  ·simp [evl57_0, b57_0, intBin, hk, hkt, hw, h51]
  ·by_cases h0 : 0 < k
   ·obtain ⟨m, hm⟩ : ∃ m, k = m + 1 := ⟨k - 1, by omega⟩
    have hwm : IntKind.wrap .i64 ((k : Int) - 1) = (m : Int) := by rw [wrap_pred (by omega)]; omega
    have hml : m < r.l.length := by omega
    have hg : r.l.getD (k - 1) 0 = r.l[m] := by rw [show k - 1 = m by omega]; simp [hml]
    rw [hg]
    by_cases h1 : t < r.l[m]
    ·simp [evl57_0, b57_0, intBin, hk, hkt, hw, h51, hwm, hml, h0, h1]
    ·by_cases h2 : t ≤ IntKind.wrap .i64 (r.l[n] - x.window)
     ·simp [evl57_0, b57_0, intBin, hk, hkt, hw, h51, hwm, hml, h0, h1, hwn, hnl, h2]
     ·simp [evl57_0, b57_0, intBin, hk, hkt, hw, h51, hwm, hml, h0, h1, hwn, hnl, h2]
   ·have hk0 : k = 0 := by omega
    subst hk0
    have hw1 : IntKind.wrap .i64 (1 : Int) = 1 := rfl
    by_cases h2 : t ≤ IntKind.wrap .i64 (r.l[n] - x.window)
    ·simp [evl57_0, b57_0, intBin, hk, hkt, hw1, h51, hwn, hnl, h2]
    ·simp [evl57_0, b57_0, intBin, hk, hkt, hw1, h51, hwn, hnl, h2]
 ·rintro ⟨⟩ F G ⟨rfl, rfl⟩
  simp [evl57_0, b57_0, intBin]
def endedB (s : State) : Bool := decide (s.status = 3) || decide (s.status = 4)
def validB (x : Spec) (s : State) : Bool := decide (chk x = 0) && childrenB x s && (timesB s.restarts.l x.window && decide ((s.restarts.l.length : Int) ≤ x.intensity)) && (!s.failed || endedB s)
theorem e15 (x : Spec) (hn : ∀ c ∈ x.children.l, c.name.length ≤ 1000000) (hx : x.children.l.length ≤ 1000000) (s : State) (hl : s.children.l.length ≤ 1000000) (hr : s.restarts.l.length ≤ 1000000) : W.pure 33 [x.av, s.av] = some (I (if validB x s = true then 0 else 1)) := by
 rw [W_pure Φ33 (by simp)]
 have h31 := e31 x hn
 have h45 := e45 x s hl hx
 have h46 := e46 x s.restarts hr
 unfold validB endedB
 generalize childrenB x s = b2 at *
 generalize (timesB s.restarts.l x.window && decide ((s.restarts.l.length : Int) ≤ x.intensity)) = b3 at *
 by_cases h0 : chk x = 0
 ·cases b2
  ·by_cases s3 : s.status = 3 <;> simp [fi33, c33, evFun, enterFr, intBin, resV, rvVs, rvV, h31, h0, h45, s3]
  ·cases b3
   ·by_cases s3 : s.status = 3 <;> simp [fi33, c33, evFun, enterFr, intBin, resV, rvVs, rvV, h31, h0, h45, h46, s3]
   ·cases hf : s.failed <;> by_cases s3 : s.status = 3 <;> by_cases s4 : s.status = 4 <;> simp [fi33, c33, evFun, enterFr, intBin, resV, rvVs, rvV, h31, h0, h45, h46, s3, s4, hf]
 ·by_cases s3 : s.status = 3 <;> simp [fi33, c33, evFun, enterFr, intBin, resV, rvVs, rvV, h31, h0, s3]
theorem e48 (x : Spec) (s : State) (hl : s.children.l.length ≤ 1000000) : W.pure 67 [x.av, s.av] = some (.bool (fitsB x s)) := by
 rw [W_pure Φ67 (by simp)]
 have c1 := e64 s hl 1
 have c2 := e64 s hl 2
 have c4 := e64 s hl 4
 unfold fitsB
 generalize cnt s.children.l 1 = n1 at *
 generalize cnt s.children.l 2 = n2 at *
 generalize cnt s.children.l 4 = n4 at *
 by_cases s1 : s.status = 1
 ·simp [fi67, c67, evFun, enterFr, intBin, resV, rvVs, rvV, c1, c2, c4, s1]
 ·by_cases s2 : s.status = 2
  ·simp [fi67, c67, evFun, enterFr, intBin, resV, rvVs, rvV, c1, c2, c4, s1, s2]
  ·by_cases s3 : s.status = 3
   ·simp [fi67, c67, evFun, enterFr, intBin, resV, rvVs, rvV, c1, c2, c4, s1, s2, s3]
   ·by_cases s4 : s.status = 4
    ·simp [fi67, c67, evFun, enterFr, intBin, resV, rvVs, rvV, c1, c2, c4, s1, s2, s3, s4]
    ·simp [fi67, c67, evFun, enterFr, intBin, resV, rvVs, rvV, c1, c2, c4, s1, s2, s3, s4]
theorem loop16_1 (x : Spec) (s : State) (hl : s.children.l.length ≤ 1000000) : okC (W.loop [2, 3, 5] l41_1 [(2, .optr 0 0 0 0), (3, .optr 1 0 0 0), (5, I 0)] [.arr 0 4 false [x.av], .arr 0 4 false [s.av]]) (fun y F' G => if s.children.l.all childOk = true then y = .exit 0 ∧ F'.keep [2, 3] = [(2, .optr 0 0 0 0), (3, .optr 1 0 0 0)] ∧ G = [.arr 0 4 false [x.av], .arr 0 4 false [s.av]] else y = .ret ∧ F'.get 4 = I 1) := by
 have hL := loop_all (Φ := Φ) (live := [2, 3, 5]) (L := l41_1) s.children.l (fun k c _ => if childOk c = true then (.inl () : Unit ⊕ Unit) else .inr ()) (fun k _ F G => F = [(2, .optr 0 0 0 0), (3, .optr 1 0 0 0), (5, I k)] ∧ G = [.arr 0 4 false [x.av], .arr 0 4 false [s.av]]) (fun _ y F G => y = .ret ∧ F.get 4 = I 1) (fun _ y F' G => y = .exit 0 ∧ F'.keep [2, 3] = [(2, .optr 0 0 0 0), (3, .optr 1 0 0 0)] ∧ G = [.arr 0 4 false [x.av], .arr 0 4 false [s.av]]) (s := ()) (F := [(2, .optr 0 0 0 0), (3, .optr 1 0 0 0), (5, I 0)]) (H := [.arr 0 4 false [x.av], .arr 0 4 false [s.av]]) ⟨rfl, rfl⟩ ?_ ?_
 ·rcases foldE_unit (fun k (c : ChildState) => if childOk c = true then (.inl () : Unit ⊕ Unit) else .inr ()) s.children.l 0 with ⟨g1, g2⟩ | ⟨j, a, y, g1, g2, g3, g4⟩
  ·rw [g1] at hL
   have : s.children.l.all childOk = true := by
    refine List.all_eq_true.2 fun c hc => ?_
    obtain ⟨j, hj⟩ := List.getElem?_of_mem hc
    have := g2 j c hj
    split at this
    ·assumption
    ·cases this
   simp only [if_pos this]
   exact hL
  ·rw [g3] at hL
   have : ¬ s.children.l.all childOk = true := by
    intro h
    have := List.all_eq_true.1 h a (List.mem_of_getElem? g1)
    rw [if_pos this] at g2
    cases g2
   simp only [if_neg this]
   exact hL
 ·rintro k c ⟨⟩ F G hk hc ⟨rfl, rfl⟩
  have hw := wrap_succ (k := k) (by omega)
  have hkc : s.children.l[k] = c := (gEs.1 hc).2
  have d1 := e47 c.status 1 4
  have d2 := e47 c.starts 1 1099511627776
  unfold childOk
  generalize inR c.status 1 4 = b1 at *
  generalize inR c.starts 1 1099511627776 = b2 at *
  cases b1
  ·simp [evl41_1, b41_1, intBin, hk, hkc, hw, d1]
  ·cases b2 <;> simp [evl41_1, b41_1, intBin, hk, hkc, hw, d1, d2]
 ·rintro ⟨⟩ F G ⟨rfl, rfl⟩
  simp [evl41_1, b41_1, intBin]
theorem loop16_0 (x : Spec) (s : State) (hr : s.restarts.l.length ≤ 1000000) : okC (W.loop [2, 3, 6, 7] l41_0 [(2, .optr 0 0 0 0), (3, .optr 1 0 0 0), (6, I s.restarts.l.length), (7, I 0)] [.arr 0 4 false [x.av], .arr 0 4 false [s.av]]) (fun y F' G => if timesB s.restarts.l x.window = true then y = .exit 2 else y = .ret ∧ F'.get 4 = I 1) := by
 have hL := loop_all (Φ := Φ) (live := [2, 3, 6, 7]) (L := l41_0) s.restarts.l (fun k t _ => timeStep s.restarts.l x.window k t) (fun k _ F G => F = [(2, .optr 0 0 0 0), (3, .optr 1 0 0 0), (6, I s.restarts.l.length), (7, I k)] ∧ G = [.arr 0 4 false [x.av], .arr 0 4 false [s.av]]) (fun _ y F G => y = .ret ∧ F.get 4 = I 1) (fun _ y F' G => y = .exit 2) (s := ()) (F := [(2, .optr 0 0 0 0), (3, .optr 1 0 0 0), (6, I s.restarts.l.length), (7, I 0)]) (H := [.arr 0 4 false [x.av], .arr 0 4 false [s.av]]) ⟨rfl, rfl⟩ ?_ ?_
 ·unfold timesB
  cases hf : foldE (fun k t _ => timeStep s.restarts.l x.window k t) 0 s.restarts.l () with
  | inl u => rw [hf] at hL; exact hL
  | inr u => rw [hf] at hL; exact hL
 ·rintro k t ⟨⟩ F G hk hc ⟨rfl, rfl⟩
  have hw := wrap_succ (k := k) (by omega)
  have hkt : s.restarts.l[k] = t := (gEs.1 hc).2
  have h47 := e47 t 0 1099511627776
  obtain ⟨n, hn⟩ : ∃ n, s.restarts.l.length = n + 1 := ⟨s.restarts.l.length - 1, by omega⟩
  have hwn : IntKind.wrap .i64 ((s.restarts.l.length : Int) - 1) = (n : Int) := by rw [wrap_pred (by omega)]; omega
  have hnl : n < s.restarts.l.length := by omega
  have hlast : lastI s.restarts.l = s.restarts.l[n] := by unfold lastI; rw [show s.restarts.l.length - 1 = n by omega]; simp [hnl]
  unfold timeStep badTime
  rw [hlast]
  generalize inR t 0 1099511627776 = b1 at *
  cases b1
  ·simp [evl41_0, b41_0, intBin, hk, hkt, hw, h47]
  ·by_cases h0 : 0 < k
   ·obtain ⟨m, hm⟩ : ∃ m, k = m + 1 := ⟨k - 1, by omega⟩
    have hwm : IntKind.wrap .i64 ((k : Int) - 1) = (m : Int) := by rw [wrap_pred (by omega)]; omega
    have hml : m < s.restarts.l.length := by omega
    have hg : s.restarts.l.getD (k - 1) 0 = s.restarts.l[m] := by rw [show k - 1 = m by omega]; simp [hml]
    rw [hg]
    by_cases h1 : t < s.restarts.l[m]
    ·simp [evl41_0, b41_0, intBin, hk, hkt, hw, h47, hwm, hml, h0, h1]
    ·by_cases h2 : t ≤ IntKind.wrap .i64 (s.restarts.l[n] - x.window)
     ·simp [evl41_0, b41_0, intBin, hk, hkt, hw, h47, hwm, hml, h0, h1, hwn, hnl, h2]
     ·simp [evl41_0, b41_0, intBin, hk, hkt, hw, h47, hwm, hml, h0, h1, hwn, hnl, h2]
   ·have hk0 : k = 0 := by omega
    subst hk0
    have hw1 : IntKind.wrap .i64 (1 : Int) = 1 := rfl
    by_cases h2 : t ≤ IntKind.wrap .i64 (s.restarts.l[n] - x.window)
    ·simp [evl41_0, b41_0, intBin, hk, hkt, hw1, h47, hwn, hnl, h2]
    ·simp [evl41_0, b41_0, intBin, hk, hkt, hw1, h47, hwn, hnl, h2]
 ·rintro ⟨⟩ F G ⟨rfl, rfl⟩
  simp [evl41_0, b41_0, intBin]
theorem e16 (x : Spec) (s : State) (hl : s.children.l.length ≤ 1000000) (hr : s.restarts.l.length ≤ 1000000) : W.pure 41 [x.av, s.av] = some (I (if validB x s = true then 0 else 1)) := by
 rw [W_pure Φ41 (by simp)]
 have h32 := e32 x
 have h48 := e48 x s hl
 have h1 := loop16_1 x s hl
 have h0 := loop16_0 x s hr
 unfold validB childrenB endedB
 generalize fitsB x s = b2 at *
 generalize timesB s.restarts.l x.window = b3 at *
 generalize s.children.l.all childOk = b4 at *
 by_cases hc : chk x = 0
 ·by_cases hlen : (s.children.l.length : Int) = x.children.l.length
  ·have hlen' : s.children.l.length = x.children.l.length := by omega
   cases b4
   ·obtain ⟨y, F', G', e1, rfl, e2⟩ := okC_iff.1 h1
    simp [fi41, c41, evFun, enterFr, intBin, resV, rvVs, rvV, h32, hc, hlen, hlen', e1, e2]
   ·obtain ⟨y, F', G', e1, rfl, e2, rfl⟩ := okC_iff.1 h1
    simp only [keep_cons, keep_nil, List.cons.injEq, Prod.mk.injEq, true_and, and_true] at e2
    obtain ⟨e2, e3⟩ := e2
    cases b2
    ·simp [fi41, c41, evFun, enterFr, intBin, resV, rvVs, rvV, h32, hc, hlen, hlen', e1, e2, e3, h48]
    ·by_cases hi : x.intensity < (s.restarts.l.length : Int)
     ·have hi2 : ¬ (s.restarts.l.length : Int) ≤ x.intensity := by omega
      simp [fi41, c41, evFun, enterFr, intBin, resV, rvVs, rvV, h32, hc, hlen, hlen', e1, e2, e3, h48, hi, hi2]
     ·have hi' : (s.restarts.l.length : Int) ≤ x.intensity := by omega
      cases b3
      ·obtain ⟨y, F2, G2, f1, rfl, f2⟩ := okC_iff.1 h0
       cases hf : s.failed <;> by_cases s3 : s.status = 3 <;> by_cases s4 : s.status = 4 <;> simp [fi41, c41, evFun, enterFr, intBin, resV, rvVs, rvV, h32, hc, hlen, hlen', e1, e2, e3, h48, hi, hi', f1, f2, hf, s3, s4]
      ·obtain ⟨y, F2, G2, f1, rfl⟩ := okC_iff.1 h0
       cases hf : s.failed <;> by_cases s3 : s.status = 3 <;> by_cases s4 : s.status = 4 <;> simp [fi41, c41, evFun, enterFr, intBin, resV, rvVs, rvV, h32, hc, hlen, hlen', e1, e2, e3, h48, hi, hi', f1, hf, s3, s4]
  ·have hlen' : ¬ s.children.l.length = x.children.l.length := by omega
   simp [fi41, c41, evFun, enterFr, intBin, resV, rvVs, rvV, h32, hc, hlen, hlen']
 ·simp [fi41, c41, evFun, enterFr, intBin, resV, rvVs, rvV, h32, hc]
end
section
theorem Grow.lt {H : Heap} {sz id : Nat} {v : AV} {l : List AV} (h : Grow H sz (some id) v l) : id < H.length := by
 obtain ⟨ver, t, _, h2⟩ := h
 exact (gEs.1 h2).1
theorem Grow.app1 {H : Heap} {sz : Nat} {o : Option Nat} {v : AV} {l : List AV} (h : Grow H sz o v l) (x : AV) (hx : x.cells.all AV.cell = true) (hr : l.length < appRoom) :
  ∃ o' v' H', ex H (.app sz) [v, .isl (some false) sz [x]] = some (v', H') ∧ Grow H' sz o' v' (l ++ [x]) ∧ Kept o H H' ∧ ∀ i, o' = some i → o = some i ∨ (o = none ∧ i = H.length) := by
 obtain ⟨o', v', H', a1, a2, a3, a4, a5⟩ := h.app (y := .isl (some false) sz [x]) (xs := [x]) (by simp) (by simpa using hx) (by simp; omega)
 refine ⟨o', v', H', a1, a2, a3, fun i hi => ?_⟩
 rcases a4 with rfl | ⟨h1, h2, _⟩
 ·exact .inl hi
 ·rw [h2] at hi; cases hi; exact .inr ⟨h1, rfl⟩
def start1 : ChildState := ⟨1, 1⟩
def startL : Nat → List Event
 | 0 => []
 | n + 1 => startL n ++ [⟨3, n, 0, 0⟩]
theorem startL_len (n : Nat) : (startL n).length = n := by
 induction n with
 | zero => rfl
 | succ n ih => simp [startL, ih]
def newP (H : Heap) (b : Nat) (k : Nat) (v u : AV) (G : Heap) : Prop :=
 ∃ o1 o2, G[b]? = some (.arr 0 4 false [.agg [I 1, v, .isl (some true) 0 [], .bool false]]) ∧ Kept (some b) H G ∧ Grow G 2 o1 v ((List.replicate k start1).map ChildState.av) ∧ Grow G 4 o2 u ((startL k).map Event.av) ∧ (∀ i, o1 = some i → H.length ≤ i) ∧ (∀ i, o2 = some i → H.length ≤ i) ∧ ∀ i, o1 = some i → o2 ≠ some i
theorem newP_step {H : Heap} {b k : Nat} {v u : AV} {G : Heap} (hb : b < H.length) (hk : k < 1000) (h : newP H b k v u G) :
  ∃ v' G1, ex G (.app 2) [v, .isl (some false) 2 [start1.av]] = some (v', G1) ∧ okO v = some v ∧ okO v' = some v' ∧ v'.cells = [v'] ∧ v'.cell = true ∧ G1[b]? = some (.arr 0 4 false [.agg [I 1, v, .isl (some true) 0 [], .bool false]]) ∧
   ∃ u' G3, ex (G1.set b (.arr 0 4 false [.agg [I 1, v', .isl (some true) 0 [], .bool false]])) (.app 4) [u, .isl (some false) 4 [(⟨3, k, 0, 0⟩ : Event).av]] = some (u', G3) ∧ okO u = some u ∧ okO u' = some u' ∧ newP H b (k + 1) v' u' G3 := by
 obtain ⟨o1, o2, h1, h2, h3, h4, h5, h6, h7⟩ := h
 obtain ⟨o1', v', G1, a1, a2, a3, a4⟩ := h3.app1 start1.av (by simp) (by simp [appRoom]; omega)
 have ho1 : o1 ≠ some b := fun e => by have := h5 b e; omega
 have g1 := a3.get ho1 h1
 have hbl : b < G1.length := (gEs.1 g1).1
 have ho1' : ∀ i, o1' = some i → H.length ≤ i := by
  intro i hi
  rcases a4 i hi with h | ⟨_, rfl⟩
  ·exact h5 i h
  ·exact h2.1
 have hset := Kept.set b G1 (.arr 0 4 false [.agg [I 1, v', .isl (some true) 0 [], .bool false]])
 have hget : (G1.set b (.arr 0 4 false [.agg [I 1, v', .isl (some true) 0 [], .bool false]]))[b]? = some (.arr 0 4 false [.agg [I 1, v', .isl (some true) 0 [], .bool false]]) := gEt hbl
 have k4 := (h4.kept a3 (fun id hid => h7 id hid)).kept hset (fun id hid e => by cases hid; have := h6 b e; omega)
 have k3 := a2.kept hset (fun id hid e => by cases hid; have := ho1' b e; omega)
 obtain ⟨o2', u', G3, b1, b2, b3, b4⟩ := k4.app1 (⟨3, k, 0, 0⟩ : Event).av (by simp) (by simp [startL_len, appRoom]; omega)
 have ho2 : o2 ≠ some b := fun e => by have := h6 b e; omega
 have hne : ∀ i, o2 = some i → o1' ≠ some i := by
  intro i hi e
  rcases a4 i e with h | ⟨_, rfl⟩
  ·exact h7 i h hi
  ·subst hi; have := h4.lt; omega
 refine ⟨v', G1, a1, h3.okO, a2.okO, a2.cells, a2.cell, g1, u', G3, b1, h4.okO, b2.okO, o1', o2', b3.get ho2 hget, ?_, ?_, ?_, ho1', ?_, ?_⟩
 ·refine ⟨?_, fun j hj hlt => ?_⟩
  ·have := h2.1; have := a3.1; have := b3.1
   rw [List.length_set] at this
   omega
  ·have hl : j < G.length := by have := h2.1; omega
   have hl1 : j < G1.length := by have := a3.1; omega
   rw [b3.2 j (fun e => by have := h6 j e; omega) (by rw [List.length_set]; omega), hset.2 j hj hl1, a3.2 j (fun e => by have := h5 j e; omega) hl, h2.2 j hj hlt]
 ·rw [List.replicate_succ', List.map_append]
  exact k3.kept b3 (fun id hid => hne id hid) |> fun h => by simpa using h
 ·simpa [startL] using b2
 ·intro i hi
  rcases b4 i hi with h | ⟨_, rfl⟩
  ·exact h6 i h
  ·have := h2.1; have := a3.1; rw [List.length_set]; omega
 ·intro i hi e
  rcases b4 i e with h | ⟨_, rfl⟩
  ·exact hne i h hi
  ·subst hi
   have := a2.lt
   rw [List.length_set] at this
   omega
end
section
def NewOk (x : Spec) (n : Nat) (nv v : AV) (G : Heap) : Prop :=
 if chk x = 0 then ∃ cv ev o1 o2, v = .tuple [.agg [I 1, cv, .isl (some true) 0 [], .bool false], ev, I 0] ∧ Grow G 2 o1 cv ((List.replicate x.children.l.length start1).map ChildState.av) ∧ Grow G 4 o2 ev ((startL x.children.l.length).map Event.av) ∧ (∀ i, o1 = some i → n ≤ i) ∧ (∀ i, o2 = some i → n ≤ i) ∧ (∀ i, o1 = some i → o2 ≠ some i) ∧ okO cv = some cv ∧ okO ev = some ev ∧ cv.cells = [cv] ∧ cv.cell = true
 else v = .tuple [.agg [I 0, .isl (some true) 0 [], .isl (some true) 0 [], .bool false], nv, I 1]
@[simp] theorem start1_mk : (.agg [I 1, I 1] : AV) = start1.av := rfl
theorem pure30 (x : Spec)  : okV (evFun W fi103 [x.av] ([] : Heap)) (fun v G => NewOk x 0 (.isl (some false) 4 []) v G ∧ 0 ≤ G.length) := by
 have hc := e32 x
 unfold NewOk
 by_cases h0 : chk x = 0
 ·have hlen := chk_len h0
  have hL := loop_fold (Φ := Φ) (live := [1, 2, 5, 6, 7]) (L := l103_0) x.children.l (σ := Unit) (fun _ _ s => s) (fun k _ F G => ∃ v u, F = [(1, .optr 0 0 0 0), (2, .optr 1 0 0 0), (5, .optr 2 0 0 0), (6, u), (7, I k)] ∧ newP [.arr 0 4 false [x.av], .arr 0 4 false [.agg [I 0, .isl (some true) 0 [], .isl (some true) 0 [], .bool false]], .arr 0 4 false [.agg [I 1, .isl (some true) 0 [], .isl (some true) 0 [], .bool false]]] 2 k v u G) (fun _ y F G => y = .exit 0 ∧ ∃ v, F.get 2 = .optr 1 0 0 0 ∧ F.get 5 = .optr 2 0 0 0 ∧ newP [.arr 0 4 false [x.av], .arr 0 4 false [.agg [I 0, .isl (some true) 0 [], .isl (some true) 0 [], .bool false]], .arr 0 4 false [.agg [I 1, .isl (some true) 0 [], .isl (some true) 0 [], .bool false]]] 2 x.children.l.length v (F.get 6) G) (s := ()) (F := [(1, .optr 0 0 0 0), (2, .optr 1 0 0 0), (5, .optr 2 0 0 0), (6, .osl 3 0 0 0), (7, I 0)]) (H := [.arr 0 4 false [x.av], .arr 0 4 false [.agg [I 0, .isl (some true) 0 [], .isl (some true) 0 [], .bool false]], .arr 0 4 false [.agg [I 1, .isl (some true) 0 [], .isl (some true) 0 [], .bool false]], .arr 0 4 false []]) ?_ ?_ ?_
  ·obtain ⟨y, F, G, e1, rfl, v, e2, e3, o1, o2, p1, p2, p3, p4, p5, p6, p7⟩ := okC_iff.1 hL
   have q1 := p2.get (j := 1) (by simp) rfl
   have hGl := p2.1
   have hq : 1 ≠ 2 := by decide
   have hGb : 1 < G.length := (gEs.1 q1).1
   have hs1 : (G.set 1 (.arr 0 4 false [.agg [I 1, v, .isl (some true) 0 [], .bool false]]))[1]? = some (.arr 0 4 false [.agg [I 1, v, .isl (some true) 0 [], .bool false]]) := gEt hGb
   have hk := Kept.set 1 G (.arr 0 4 false [.agg [I 1, v, .isl (some true) 0 [], .bool false]])
   have p3 := p3.kept hk (fun id hid e => by cases hid; have := p5 _ e; simp at this)
   have p4 := p4.kept hk (fun id hid e => by cases hid; have := p6 _ e; simp at this)
   simp only [if_pos h0]
   have hfin : okV (evFun W fi103 [x.av] ([] : Heap)) (fun w J => w = .tuple [.agg [I 1, v, .isl (some true) 0 [], .bool false], F.get 6, I 0] ∧ J = G.set 1 (.arr 0 4 false [.agg [I 1, v, .isl (some true) 0 [], .bool false]])) := by
    simp [fi103, c103, evFun, enterFr, intBin, resV, rvVs, rvV, hc, h0, e1, e2, e3, q1, p1, p3.okO, p3.cells, p3.cell, p4.okO, hs1]
   obtain ⟨w, J, f1, rfl, rfl⟩ := okV_iff.1 hfin
   rw [f1]
   refine ⟨⟨v, F.get 6, o1, o2, rfl, p3, p4, (fun i hi => by first | exact Nat.zero_le _ | (have := p5 i hi; simp at this; omega)), (fun i hi => by first | exact Nat.zero_le _ | (have := p6 i hi; simp at this; omega)), p7, p3.okO, p4.okO, p3.cells, p3.cell⟩, by first | exact Nat.zero_le _ | (simp at hGl ⊢; omega)⟩
  ·exact ⟨_, _, rfl, none, some 3, rfl, Kept.append _ [.arr 0 4 false [x.av], .arr 0 4 false [.agg [I 0, .isl (some true) 0 [], .isl (some true) 0 [], .bool false]], .arr 0 4 false [.agg [I 1, .isl (some true) 0 [], .isl (some true) 0 [], .bool false]]] [.arr 0 4 false []], grow_nil _ _, grow_mk (l := []) rfl, by simp, by simp, by simp⟩
  ·rintro k c ⟨⟩ F G hk hkc ⟨v, u, rfl, hp⟩
   have hw := wrap_succ (k := k) (by omega)
   have hx : G[0]? = some (.arr 0 4 false [x.av]) := by
    obtain ⟨o1, o2, p1, p2, _⟩ := hp
    exact p2.get (j := 0) (by simp) rfl
   obtain ⟨v1, G1, a1, a2, a3, a4, a5, a6, u1, G3, b1, b2, b3, b4⟩ := newP_step (by simp) (by omega) hp
   have hp1 : G[2]? = some (.arr 0 4 false [.agg [I 1, v, .isl (some true) 0 [], .bool false]]) := by obtain ⟨o1, o2, p1, _⟩ := hp; exact p1
   have hev : (.agg [I 3, I k, I 0, I 0] : AV) = (⟨3, k, 0, 0⟩ : Event).av := rfl
   simp [evl103_0, b103_0, intBin, hk, hw, hp1, a1, a2, a3, a4, a5, a6, b2, b3, hev, b1, hx]
   exact ⟨v1, b4⟩
  ·rintro ⟨⟩ F G ⟨v, u, rfl, hp⟩
   have hx : G[0]? = some (.arr 0 4 false [x.av]) := by
    obtain ⟨o1, o2, p1, p2, _⟩ := hp
    exact p2.get (j := 0) (by simp) rfl
   have hu : okO u = some u := by obtain ⟨o1, o2, _, _, _, p4, _⟩ := hp; exact p4.okO
   simp [evl103_0, b103_0, intBin, hu, hx]
   exact ⟨v, hp⟩
 ·simp only [if_neg h0]
  simp [fi103, c103, evFun, enterFr, intBin, resV, rvVs, rvV, hc, h0]
end
section
structure RunSt where
 st : Int
 cs : List ChildState
 rs : List Int
 fl : Bool
 out : List Event
def mkP (x : Spec) (tm : Int) (st : Int) (ch rs : AV) (fl : Bool) (out : AV) : AV := .agg [I st, ch, rs, .bool fl, I x.strategy, I x.intensity, I x.window, Sl.av Child.av 3 x.children, I tm, out]
def mkR (x : Spec) (tm : Int) (st : Int) (ch rs : AV) (fl : Bool) (out : AV) : AV := .agg [I x.strategy, I x.intensity, I x.window, Sl.av Child.av 3 x.children, I st, ch, rs, .bool fl, I tm, out]
abbrev Mk := Int → AV → AV → Bool → AV → AV
def OptI (H : Heap) (p c : Nat) (o : Option Nat) (v : AV) (l : List Int) : Prop := (∃ s : Sl Int, v = Sl.ints s ∧ s.l = l) ∨ ∃ q, Grow H 1 (some q) v (l.map I) ∧ q ≠ p ∧ q ≠ c ∧ o ≠ some q
structure RunI (mk : Mk) (H : Heap) (p c cv : Nat) (o : Option Nat) (rv ov : AV) (r : RunSt) : Prop where
 hp : H[p]? = some (.arr 0 10 false [mk r.st (.osl c cv 0 r.cs.length) rv r.fl ov])
 hc : H[c]? = some (.arr cv 2 false (r.cs.map ChildState.av))
 rs : OptI H p c o rv r.rs
 out : Grow H 4 o ov (r.out.map Event.av)
 pc : p ≠ c
 op : o ≠ some p
 oc : o ≠ some c
structure Frame (p c : Nat) (o o' : Option Nat) (H H' : Heap) : Prop where
 len : H.length ≤ H'.length
 keep : ∀ j, j < H.length → j ≠ p → j ≠ c → o ≠ some j → H'[j]? = H[j]?
 new : ∀ i, o' = some i → o = some i ∨ H.length ≤ i
theorem Frame.refl (p c : Nat) (o : Option Nat) (H : Heap) : Frame p c o o H H := ⟨Nat.le_refl _, fun _ _ _ _ _ => rfl, fun _ h => .inl h⟩
theorem Frame.trans {p c : Nat} {o o' o'' : Option Nat} {A B C : Heap} (h : Frame p c o o' A B) (h' : Frame p c o' o'' B C) : Frame p c o o'' A C := by
 refine ⟨Nat.le_trans h.len h'.len, fun j hj h1 h2 h3 => ?_, fun i hi => ?_⟩
 ·rw [h'.keep j (by have := h.len; omega) h1 h2 (fun e => ?_), h.keep j hj h1 h2 h3]
  rcases h.new j e with h4 | h4
  ·exact h3 h4
  ·omega
 ·rcases h'.new i hi with h1 | h1
  ·exact h.new i h1
  ·have := h.len; exact .inr (by omega)
theorem Frame.of_kept {p c : Nat} {o : Option Nat} {H H' : Heap} (h : Kept none H H') : Frame p c o o H H' := ⟨h.1, fun j hj _ _ _ => h.2 j (by simp) hj, fun _ h => .inl h⟩
theorem Frame.get {p c : Nat} {o o' : Option Nat} {H H' : Heap} (h : Frame p c o o' H H') {j : Nat} {b : Blk} (hb : H[j]? = some b) (h1 : j ≠ p) (h2 : j ≠ c) (h3 : o ≠ some j) : H'[j]? = some b := by
 rw [h.keep j (gEs.1 hb).1 h1 h2 h3]; exact hb
theorem OptI.kept {H H' : Heap} {p c : Nat} {o : Option Nat} {v : AV} {l : List Int} (h : OptI H p c o v l) (hk : Kept none H H') : OptI H' p c o v l := by
 rcases h with h | ⟨q, h1, h2⟩
 ·exact .inl h
 ·exact .inr ⟨q, h1.kept hk (by simp), h2⟩
theorem OptI.ok {H : Heap} {p c : Nat} {o : Option Nat} {v : AV} {l : List Int} (h : OptI H p c o v l) : okO v = some v ∧ v.cells = [v] ∧ v.cell = true ∧ lenV false v = I l.length := by
 rcases h with ⟨s, rfl, rfl⟩ | ⟨q, h1, _⟩
 ·exact ⟨rfl, rfl, rfl, by simp⟩
 ·exact ⟨h1.okO, h1.cells, h1.cell, by have := h1.len; simpa using this⟩
theorem OptI.frz {H : Heap} {p c : Nat} {o : Option Nat} {v : AV} {l : List Int} (h : OptI H p c o v l) (n : Nat) : ∃ s : Sl Int, Go.Proofs.YtjknjapdcphcfaaGreat.frz H (n + 1) v = some (Sl.ints s) ∧ s.l = l := by
 rcases h with ⟨s, rfl, rfl⟩ | ⟨q, h1, _⟩
 ·exact ⟨s, rfl, rfl⟩
 ·exact ⟨ofL 1 l, h1.sl (n := n) (by simp), rfl⟩
theorem RunI.kept {mk : Mk} {H H' : Heap} {p c cv : Nat} {o : Option Nat} {rv ov : AV} {r : RunSt} (h : RunI mk H p c cv o rv ov r) (hk : Kept none H H') : RunI mk H' p c cv o rv ov r :=
 ⟨hk.get (by simp) h.hp, hk.get (by simp) h.hc, h.rs.kept hk, h.out.kept hk (by simp), h.pc, h.op, h.oc⟩
theorem RunI.put {mk : Mk} {H : Heap} {p c cv : Nat} {o : Option Nat} {rv ov : AV} {r : RunSt} (h : RunI mk H p c cv o rv ov r) (st : Int) (fl : Bool) : RunI mk (H.set p (.arr 0 10 false [mk st (.osl c cv 0 r.cs.length) rv fl ov])) p c cv o rv ov { r with st := st, fl := fl } ∧ Frame p c o o H (H.set p (.arr 0 10 false [mk st (.osl c cv 0 r.cs.length) rv fl ov])) := by
 have hpl : p < H.length := (gEs.1 h.hp).1
 have hk := Kept.set p H (.arr 0 10 false [mk st (.osl c cv 0 r.cs.length) rv fl ov])
 refine ⟨⟨gEt hpl, hk.get (by simp [h.pc]) h.hc, ?_, h.out.kept hk (fun id hid => by cases hid; exact h.op), h.pc, h.op, h.oc⟩, ⟨by simp, fun j hj h1 _ _ => gEn (fun e => h1 e.symm), fun _ h => .inl h⟩⟩
 rcases h.rs with h1 | ⟨q, h1, h2, h3, h4⟩
 ·exact .inl h1
 ·exact .inr ⟨q, h1.kept hk (fun id hid e => by cases hid; cases e; exact h2 rfl), h2, h3, h4⟩
theorem RunI.setC {mk : Mk} {H : Heap} {p c cv : Nat} {o : Option Nat} {rv ov : AV} {r : RunSt} (h : RunI mk H p c cv o rv ov r) (k : Nat) (s : ChildState) : RunI mk (H.set c (.arr cv 2 false ((r.cs.set k s).map ChildState.av))) p c cv o rv ov { r with cs := r.cs.set k s } ∧ Frame p c o o H (H.set c (.arr cv 2 false ((r.cs.set k s).map ChildState.av))) := by
 have hcl : c < H.length := (gEs.1 h.hc).1
 have hk := Kept.set c H (.arr cv 2 false ((r.cs.set k s).map ChildState.av))
 refine ⟨⟨?_, gEt hcl, ?_, h.out.kept hk (fun id hid => by cases hid; exact h.oc), h.pc, h.op, h.oc⟩, ⟨by simp, fun j hj _ h1 _ => gEn (fun e => h1 e.symm), fun _ h => .inl h⟩⟩
 ·have := hk.get (by simp [h.pc.symm]) h.hp
  simpa using this
 ·rcases h.rs with h1 | ⟨q, h1, h2, h3, h4⟩
  ·exact .inl h1
  ·exact .inr ⟨q, h1.kept hk (fun id hid e => by cases hid; cases e; exact h3 rfl), h2, h3, h4⟩
theorem RunI.grow {mk : Mk} {H H1 : Heap} {p c cv : Nat} {o o' : Option Nat} {rv ov ov' : AV} {r : RunSt} (h : RunI mk H p c cv o rv ov r) (e : Event) (ho : Grow H1 4 o' ov' (r.out.map Event.av ++ [e.av])) (hk : Kept o H H1) (hn : ∀ i, o' = some i → o = some i ∨ (o = none ∧ i = H.length)) :
  RunI mk (H1.set p (.arr 0 10 false [mk r.st (.osl c cv 0 r.cs.length) rv r.fl ov'])) p c cv o' rv ov' { r with out := r.out ++ [e] } ∧ Frame p c o o' H (H1.set p (.arr 0 10 false [mk r.st (.osl c cv 0 r.cs.length) rv r.fl ov'])) ∧ H1[p]? = some (.arr 0 10 false [mk r.st (.osl c cv 0 r.cs.length) rv r.fl ov]) := by
 have hp1 := hk.get h.op h.hp
 have hc1 := hk.get h.oc h.hc
 have hpl : p < H1.length := (gEs.1 hp1).1
 have hpl0 : p < H.length := (gEs.1 h.hp).1
 have hcl0 : c < H.length := (gEs.1 h.hc).1
 have hset := Kept.set p H1 (.arr 0 10 false [mk r.st (.osl c cv 0 r.cs.length) rv r.fl ov'])
 have hop : o' ≠ some p := fun e => by
  rcases hn p e with h1 | ⟨_, h1⟩
  ·exact h.op h1
  ·omega
 have hoc : o' ≠ some c := fun e => by
  rcases hn c e with h1 | ⟨_, h1⟩
  ·exact h.oc h1
  ·omega
 refine ⟨⟨gEt hpl, hset.get (by simp [h.pc]) hc1, ?_, ?_, h.pc, hop, hoc⟩, ⟨?_, fun j hj h1 h2 h3 => ?_, fun i hi => ?_⟩, hp1⟩
 ·rcases h.rs with h1 | ⟨q, h1, h2, h3, h4⟩
  ·exact .inl h1
  ·refine .inr ⟨q, (h1.kept hk (fun id hid e => by cases e; exact h4 hid)).kept hset (fun id hid e => by cases hid; cases e; exact h2 rfl), h2, h3, fun e => ?_⟩
   rcases hn q e with h5 | ⟨_, h5⟩
   ·exact h4 h5
   ·have := h1.lt; omega
 ·have := ho.kept hset (fun id hid => by cases hid; exact hop)
  simpa using this
 ·rw [List.length_set]; exact hk.1
 ·rw [gEn (fun e => h1 e.symm)]; exact hk.2 j h3 hj
 ·rcases hn i hi with h5 | ⟨_, h5⟩
  ·exact .inl h5
  ·exact .inr (by omega)
def RunSt.act (r : RunSt) (tm kd ch : Int) : RunSt := { r with out := r.out ++ [⟨kd, ch, 0, tm⟩] }
def Does (mk : Mk) (p c cv : Nat) (o : Option Nat) (rv : AV) (H : Heap) (r' : RunSt) (v : AV) (H' : Heap) : Prop := v = .tuple [] ∧ ∃ o' ov', RunI mk H' p c cv o' rv ov' r' ∧ Frame p c o o' H H'
theorem e83 (x : Spec) (tm : Int) {H : Heap} {p c cv : Nat} {o : Option Nat} {rv ov : AV} {r : RunSt} (h : RunI (mkP x tm) H p c cv o rv ov r) (hl : r.out.length ≤ 1000000) (kd ch : Int) :
  okV (evFun W fi108 [.optr p 0 0 0, I kd, I ch] H) (Does (mkP x tm) p c cv o rv H (r.act tm kd ch)) := by
 obtain ⟨o', ov', H1, a1, a2, a3, a4⟩ := h.out.app1 (⟨kd, ch, 0, tm⟩ : Event).av (by simp) (by simp [appRoom]; omega)
 obtain ⟨g1, g2, g3⟩ := h.grow ⟨kd, ch, 0, tm⟩ a2 a3 a4
 have hp := h.hp
 have hev : (.agg [I kd, I ch, I 0, I tm] : AV) = (⟨kd, ch, 0, tm⟩ : Event).av := rfl
 simp only [mkP] at hp g3
 simp [fi108, c108, evFun, enterFr, intBin, resV, rvVs, rvV, hp, hev, h.out.okO, a1, a2.okO, a2.cells, a2.cell, g3]
 exact ⟨rfl, o', ov', g1, g2⟩
theorem e78 (x : Spec) (tm : Int) {H : Heap} {p c cv : Nat} {o : Option Nat} {rv ov : AV} {r : RunSt} (h : RunI (mkR x tm) H p c cv o rv ov r) (hl : r.out.length ≤ 1000000) (kd ch : Int) :
  okV (evFun W fi101 [.optr p 0 0 0, I kd, I ch] H) (Does (mkR x tm) p c cv o rv H (r.act tm kd ch)) := by
 obtain ⟨o', ov', H1, a1, a2, a3, a4⟩ := h.out.app1 (⟨kd, ch, 0, tm⟩ : Event).av (by simp) (by simp [appRoom]; omega)
 obtain ⟨g1, g2, g3⟩ := h.grow ⟨kd, ch, 0, tm⟩ a2 a3 a4
 have hp := h.hp
 have hev : (.agg [I kd, I ch, I 0, I tm] : AV) = (⟨kd, ch, 0, tm⟩ : Event).av := rfl
 simp only [mkR] at hp g3
 simp [fi101, c101, evFun, enterFr, intBin, resV, rvVs, rvV, hp, hev, h.out.okO, a1, a2.okO, a2.cells, a2.cell, g3]
 exact ⟨rfl, o', ov', g1, g2⟩
end
end Go.Proofs.YtjknjapdcphcfaaGreat
