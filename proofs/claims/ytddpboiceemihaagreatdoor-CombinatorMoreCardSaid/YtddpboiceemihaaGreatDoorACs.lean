/-
  The small functions that combinations are made of (conditions: none). Names of tasks; All of both sides (conditions: none). All of both sides (conditions: none). combinator.Race (conditions: none). Race of the reference (conditions: none). Race of the reference, whole (conditions: none). What All and Race of both sides make is the same (conditions: none). Plain structures for the program's, printed by a program of mine (conditions: none). The example (conditions: none). CombinatorLists, as a law of plain values (conditions: none). Timeout and Each of both sides (conditions: none). Retry of both sides (conditions: none). Limited of both sides (conditions: none). Limited of the reference; CombinatorSingles, as a law of plain values (conditions: none).
-/
import Derived.Test.YtddpboiceemihaaGreatDoorPres
import Derived.Test.YtddpboiceemihaaGreatDoorABs
section
namespace Go.Proofs.YtddpboiceemihaaGreatDoor
open Go Go.RowKit
set_option linter.unusedVariables false
set_option linter.unusedSimpArgs false
set_option maxRecDepth 10000
def nmE (s : List UInt8) : Ex := Ex.of 2 0 s 0 slNil
def numE (n : Int) : Ex := Ex.of 1 0 [] n slNil
def zeroE : Ex := Ex.of 0 0 [] 0 slNil
def binE (op : Int) (l : Sl Ex) : Ex := Ex.of 4 op [] 0 l
def stS (k : Int) (s : List UInt8) (es : Sl Ex) (b : Sl St) : St := St.of k 0 s slNil es b slNil slNil
def stO (k op : Int) (s : List UInt8) (es : Sl Ex) : St := St.of k op s slNil es slNil slNil slNil
def prT (s : List UInt8) (ps : Sl (List UInt8)) (b : Sl St) : Pr := Pr.mk 1 s ps 0 b
def rS : List UInt8 := [114, 95]
def nS : List UInt8 := [110, 95]
def iS : List UInt8 := [105, 95]
theorem e57 (n : Int) : W.pure 57 [I n] = some (numE n).av := (le_om 60).pure _ _ _ (by kernel_rfl)
theorem e60 (s : List UInt8) : W.pure 60 [.str s] = some (nmE s).av := (le_om 60).pure _ _ _ (by kernel_rfl)
theorem e61 (op : Int) (l : Sl Ex) : W.pure 61 [I op, Sl.av Ex.av 5 l] = some (binE op l).av := by
 rw [Ex.av_eq]
 exact (le_om 60).pure _ _ _ (by kernel_rfl)
theorem e42 (s : List UInt8) (es : Sl Ex) : W.pure 42 [.str s, Sl.av Ex.av 5 es] = some (stS 16 s es slNil).av := (le_om 60).pure _ _ _ (by kernel_rfl)
theorem e53 (k : Int) (s : List UInt8) (es : Sl Ex) : W.pure 53 [I k, .str s, Sl.av Ex.av 5 es] = some (stS k s es slNil).av := (le_om 60).pure _ _ _ (by kernel_rfl)
theorem e62 (k : Int) (s : List UInt8) (es : Sl Ex) (b : Sl St) : W.pure 62 [(stS k s es slNil).av, Sl.av St.av 8 b] = some (stS k s es b).av := by
 rw [St.av_eq (stS k s es b)]
 exact (le_om 60).pure _ _ _ (by kernel_rfl)
theorem e45 : W.pure 45 [] = some (stS 6 [] (ofL 5 [nmE rS]) slNil).av := (le_om 60).pure _ _ _ (by kernel_rfl)
theorem e63 (s : List UInt8) : W.pure 63 [.str s] = some (stS 2 s (ofL 5 [binE 3 (ofL 5 [nmE s, numE 1])]) slNil).av := (le_om 60).pure _ _ _ (by kernel_rfl)
theorem e44 (s : List UInt8) (k o v : Int) (n : List UInt8) (l : Sl Ex) (b : Sl St) : W.pure 44 [.str s, (Ex.of k o n v l).av, Sl.av St.av 8 b] = some (stS 14 s (ofL 5 [Ex.of k o n v l, zeroE]) b).av := by
 rw [St.av_eq]
 exact (le_om 60).pure _ _ _ (by kernel_rfl)
def hS (s : List UInt8) (i : Nat) : List UInt8 := s ++ [95] ++ [UInt8.ofNat (48 + i)]
theorem e97 (i : Nat) (hi : i < 10) : W.pure 97 [I i] = some (.str [UInt8.ofNat (48 + i)]) := by
 have h : Φ 97 = none := by kernel_rfl
 rw [om_pure]
 unfold pureV
 have hf : [AV.int .i64 i].all AV.flat = true := rfl
 rw [if_pos hf, h]
 have h1 : (i : Int) < 100 := by omega
 simp [ext, itoaA, dec2, h1, hi]
theorem e52 (s : List UInt8) (hs : s.length ≤ 1000) (i : Nat) (hi : i < 10) : W.pure 52 [.str s, I i] = some (.str (hS s i)) := by
 rw [W_pure Φ52 rfl]
 have e1 := e97 i hi
 have l1 : s.length + 1 ≤ 9223372036854775807 := by omega
 have l2 : s.length + 1 + 1 ≤ 9223372036854775807 := by omega
 simp [fi52, c52, evFun, enterFr, intBin, resV, rvVs, rvV, e1, hS, strBin, l1, l2]
theorem foldE_bool {α : Type} (p : α → Bool) : ∀ (l : List α) (k : Nat), foldE (fun _ a (_ : Unit) => if p a = true then .inl () else (.inr () : Unit ⊕ Unit)) k l () = if l.all p = true then .inl () else .inr ()
 | [], k => rfl
 | a :: r, k => by
  simp only [foldE, List.all_cons]
  by_cases h : p a = true
  ·simpa [h] using foldE_bool p r (k + 1)
  ·simp [h]
def namedB (s : List UInt8) (n : Nat) : Bool := nameB s && (List.range n).all fun i => nameB (hS s (i + 1))
theorem nameB_len {s : List UInt8} (h : nameB s = true) : s.length ≤ 30 := by simp [nameB, isNm] at h; exact h.1.2
theorem e40 (s : List UInt8) (n : Nat) (hn : n ≤ 8) : W.pure 40 [.str s, I n] = some (.bool (namedB s n)) := by
 rw [W_pure Φ40 rfl]
 have c1 := e56 s
 unfold namedB
 cases h : nameB s with
 | false => rw [h] at c1; simp [fi40, c40, evFun, enterFr, intBin, resV, rvVs, rvV, c1]
 | true =>
  rw [h] at c1
  have hl := nameB_len h
  have hL := loop_all (Φ := Φ) (live := [0, 9, 10]) (L := l40_0) (List.range n) (fun _ i (_ : Unit) => if nameB (hS s (i + 1)) = true then .inl () else (.inr () : Unit ⊕ Unit))
   (fun k _ F G => F = [(0, .str s), (9, I n), (10, I k)]) (fun _ y F G => y = .ret ∧ F.get 4 = .bool false) (fun _ y F G => y = .exit 0) (s := ()) (H := []) rfl ?_ ?_
  ·rw [foldE_bool (fun i => nameB (hS s (i + 1)))] at hL
   obtain ⟨c, F', H', e1, e2⟩ := okC_iff.1 hL
   simp only [Int.natCast_zero] at e1
   cases hb : (List.range n).all fun i => nameB (hS s (i + 1)) with
   | true =>
    rw [hb, if_pos rfl] at e2
    simp only [EndOk_inl] at e2
    subst e2
    simp [fi40, c40, evFun, enterFr, intBin, resV, rvVs, rvV, c1, e1]
   | false =>
    rw [hb, if_neg (by simp)] at e2
    simp only [EndOk_inr] at e2
    obtain ⟨rfl, p⟩ := e2
    simp [fi40, c40, evFun, enterFr, intBin, resV, rvVs, rvV, c1, e1, p]
  ·rintro k i ⟨⟩ F G hk hi rfl
   have hki : i = k := by rw [List.getElem?_range (by simpa using hk)] at hi; cases hi; rfl
   subst hki
   have hk' : i < n := by simpa using hk
   have hw := wrap_succ (k := i) (by omega)
   have e1 := e52 s (by omega) (i + 1) (by omega)
   have e2 := e56 (hS s (i + 1))
   simp only [Int.natCast_add, Int.cast_ofNat_Int] at e1
   cases hb : nameB (hS s (i + 1)) <;> rw [hb] at e2 <;> simp [evl40_0, b40_0, intBin, hk', hw, e1, e2]
  ·rintro ⟨⟩ F G rfl
   simp [evl40_0, b40_0, intBin]
end Go.Proofs.YtddpboiceemihaaGreatDoor
end
section
namespace Go.Proofs.YtddpboiceemihaaGreatDoor
open Go Go.RowKit
set_option linter.unusedVariables false
set_option linter.unusedSimpArgs false
set_option maxRecDepth 10000
def sevI (l : List (List UInt8)) : Int := if l = [] then 23 else if 8 < l.length then 4 else if l.all nameB = true then 0 else 5
theorem call102 (s : List UInt8) (H : Heap) : W.call (.clo 102 [] []) [.str s] H = some (.bool (!nameB s), H) := by
 rw [W_call Φ102]
 have e1 := e56 s
 cases h : nameB s <;> rw [h] at e1 <;> simp [fi102, c102, evFun, enterFr, intBin, resV, rvVs, rvV, e1]
theorem e41 (x : Sl (List UInt8)) : W.pure 41 [Sl.av AV.str 1 x] = some (I (sevI x.l)) := by
 rw [W_pure Φ41 rfl]
 unfold sevI
 by_cases h1 : x.l = []
 ·simp [fi41, c41, evFun, enterFr, intBin, resV, rvVs, rvV, h1]
 by_cases h2 : 8 < x.l.length
 ·have h2' : (8 : Int) < x.l.length := by omega
  simp [fi41, c41, evFun, enterFr, intBin, resV, rvVs, rvV, h1, h2, h2']
 have h2' : ¬ (8 : Int) < x.l.length := by omega
 obtain ⟨v, H', c1, rfl, c2⟩ := okV_iff.1 (any37 x (by omega) (.clo 102 [] []) rfl (fun s => !nameB s) [] (fun a _ H _ => by rw [call102]; exact ⟨rfl, Kept.refl _ _⟩))
 have h3 : x.l.any (fun s => !nameB s) = !x.l.all nameB := by rw [List.any_eq_not_all_not]; simp
 rw [h3] at c1
 cases h4 : x.l.all nameB <;> rw [h4] at c1 <;> simp at c1 <;> simp [fi41, c41, evFun, enterFr, intBin, resV, rvVs, rvV, h1, h2, h2', c1, h4]
theorem Grow.app1 {H : Heap} {sz : Nat} {o : Option Nat} {v : AV} {l : List AV} (h : Grow H sz o v l) (x : AV) (hx : x.cells.all AV.cell = true) (hr : l.length < appRoom) :
  ∃ o' v' H', ex H (.app sz) [v, .isl (some false) sz [x]] = some (v', H') ∧ Grow H' sz o' v' (l ++ [x]) ∧ Kept o H H' ∧ ∀ i, o' = some i → o = some i ∨ (o = none ∧ i = H.length) := by
 obtain ⟨o', v', H', a1, a2, a3, a4, a5⟩ := h.app (y := .isl (some false) sz [x]) (xs := [x]) (by simp) (by simpa using hx) (by simp; omega)
 refine ⟨o', v', H', a1, a2, a3, fun i hi => ?_⟩
 rcases a4 with rfl | ⟨h1, h2, _⟩
 ·exact .inl hi
 ·rw [h2] at hi; cases hi; exact .inr ⟨h1, rfl⟩
def spawns (es : Sl Ex) (l : List (List UInt8)) : List St := l.map fun s => stS 16 s es slNil
theorem Grow.pub {α : Type} {f : α → AV} {H : Heap} {sz : Nat} {o : Option Nat} {v : AV} {l : List α} (h : Grow H sz o v (l.map f)) (hf : ∀ x, (f x).cells.all AV.still = true) (hne : l ≠ []) :
  ∃ G, pub1 H v = (Sl.av f sz (ofL sz l), G) ∧ pubA H v = (Sl.av f sz (ofL sz l), G) ∧ G.length = H.length ∧ ∀ j, o ≠ some j → G[j]? = H[j]? := by
 cases o with
 | none => exact absurd (List.map_eq_nil_iff.1 h.2) hne
 | some id =>
  obtain ⟨ver, t, rfl, h2⟩ := h
  have ht : ((l.map f ++ t).drop 0).take (l.map f).length = l.map f := by
   rw [List.drop_zero, List.take_append_of_le_length (by simp), List.take_of_length_le (by simp)]
  have : pub1 H (.osl id ver 0 (l.map f).length) = (Sl.av f sz (ofL sz l), H.set id (.arr ver sz true (l.map f ++ t))) := by
   simp only [pub1, h2]
   rw [if_pos ⟨trivial, by simp, by rw [ht]; exact all_still hf l⟩, ht, ← isl_sl]
  exact ⟨_, this, this, by simp, fun j hj => gEn (fun e => hj (by rw [e]))⟩
theorem loop11 (name : List UInt8) (x : Sl (List UInt8)) (hx : x.l.length ≤ 8) : okC (W.loop [0, 7, 19, 20, 21] l11_0 [(0, .str name), (7, .isl (some true) 0 []), (19, Sl.av AV.str 1 x), (20, I x.l.length), (21, I 0)] [])
  (fun c F H' => c = .exit 0 ∧ F.get 0 = .str name ∧ ∃ o, Grow H' 8 o (F.get 7) ((spawns slNil x.l).map St.av)) := by
 have hL := loop_fold (Φ := Φ) (live := [0, 7, 19, 20, 21]) (L := l11_0) x.l (σ := Unit) (fun _ _ s => s)
  (fun k _ F G => ∃ v, F = [(0, .str name), (7, v), (19, Sl.av AV.str 1 x), (20, I x.l.length), (21, I k)] ∧ ∃ o, Grow G 8 o v ((spawns slNil (x.l.take k)).map St.av))
  (fun _ c F G => c = .exit 0 ∧ F.get 0 = .str name ∧ ∃ o, Grow G 8 o (F.get 7) ((spawns slNil x.l).map St.av)) (s := ()) (F := [(0, .str name), (7, .isl (some true) 0 []), (19, Sl.av AV.str 1 x), (20, I x.l.length), (21, I 0)]) (H := [])
  ⟨_, rfl, none, grow_nil _ _⟩ ?_ ?_
 ·exact hL
 ·rintro k s ⟨⟩ F G hk hs ⟨v, rfl, o, g1⟩
  have hks : x.l[k] = s := (gEs.1 hs).2
  have hw := wrap_succ (k := k) (by omega)
  have e1 := e42 s slNil
  have hlen : ((spawns slNil (x.l.take k)).map St.av).length = k := by simp [spawns]; omega
  obtain ⟨o', v', G', a1, a2, a3, a4⟩ := g1.app1 (stS 16 s slNil slNil).av (by simp) (by rw [hlen]; simp [appRoom]; omega)
  have e2 : (Sl.av Ex.av 5 slNil : AV) = .isl (some true) 0 [] := rfl
  rw [e2] at e1
  simp [evl11_0, b11_0, intBin, hk, hks, hw, e1, g1.okO, a1, a2.okO]
  refine ⟨o', ?_⟩
  have hsp : spawns slNil (x.l.take (k + 1)) = spawns slNil (x.l.take k) ++ [stS 16 s slNil slNil] := by
   simp [spawns, List.take_add_one, hs]
  rw [hsp, List.map_append]
  exact a2
 ·rintro ⟨⟩ F G ⟨v, rfl, o, g1⟩
  simp [evl11_0, b11_0, intBin]
  rw [List.take_of_length_le (by omega)] at g1
  exact ⟨o, g1⟩
end Go.Proofs.YtddpboiceemihaaGreatDoor
end
section
namespace Go.Proofs.YtddpboiceemihaaGreatDoor
open Go Go.RowKit
set_option linter.unusedVariables false
set_option linter.unusedSimpArgs false
set_option maxRecDepth 10000
theorem call103 (name : List UInt8) (hn : name.length ≤ 1000) (i : Nat) (hi : i < 10) (ps : Sl (List UInt8)) (b : Sl St) (id : Nat) (H : Heap) (h : H[id]? = some (.arr 0 1 false [.str name])) :
  W.call (.clo 103 [] [.optr id 0 0 0]) [I i, Sl.av AV.str 1 ps, Sl.av St.av 8 b] H = some ((prT (if i = 0 then name else hS name i) ps b).av, H ++ [.arr 0 5 false [(prT (if i = 0 then name else hS name i) ps b).av], .arr 0 5 false [(prT (if i = 0 then name else hS name i) ps b).av]]) := by
 rw [W_call Φ103]
 have p1 : ∀ B, (H ++ [B])[id]? = some (.arr 0 1 false [.str name]) := app_get h
 have p2 : ∀ B C, (H ++ [B, C])[id]? = some (.arr 0 1 false [.str name]) := app2_get h
 have m : ∀ s : List UInt8, (.agg [I 1, .str s, Sl.av AV.str 1 ps, I 0, Sl.av St.av 8 b] : AV) = (prT s ps b).av := fun s => rfl
 have st : ∀ s t : List UInt8, setElem [(prT s ps b).av] 0 1 (.str t) = some [(prT t ps b).av] := fun s t => rfl
 by_cases h0 : i = 0
 ·subst h0
  simp [fi103, c103, evFun, enterFr, intBin, resV, rvVs, rvV, h, p1, p2, m, st, app_last, app2_0, app2_1, app2_s0, app2_s1, -getElem?_pos, gEz]
 ·have h0' : (0 : Int) < i := by omega
  have h0'' : 0 < i := by omega
  have e1 := e52 name hn i hi
  simp [fi103, c103, evFun, enterFr, intBin, resV, rvVs, rvV, h, p1, p2, m, st, h0, h0', h0'', e1, app_last, app2_0, app2_1, app2_s0, app2_s1, -getElem?_pos, gEz]
theorem call43 (name : List UInt8) (H : Heap) : W.call (.clo 43 [] []) [.str name] H = some (.clo 103 [] [.optr H.length 0 0 0], H ++ [.arr 0 1 false [.str name]]) := by
 rw [W_call Φ43]
 simp [fi43, c43, evFun, enterFr, intBin, resV, rvVs, rvV, app_last, -getElem?_pos, gEz]
def allPr (es : Sl Ex) (ps : Sl (List UInt8)) (name : List UInt8) (l : List (List UInt8)) : Pr := prT name ps (ofL 8 [stS 14 rS (ofL 5 [zeroE, zeroE]) (ofL 8 (spawns es l)), stS 6 [] (ofL 5 [nmE rS]) slNil])
def allI (name : List UInt8) (l : List (List UInt8)) : Int := if nameB name = true then sevI l else 5
theorem e11 (name : List UInt8) (x : Sl (List UInt8)) : W.pure 11 [.str name, Sl.av AV.str 1 x] = some (.tuple [Sl.av Pr.av 5 (if allI name x.l = 0 then ofL 5 [allPr slNil slNil name x.l] else slNil), I (allI name x.l)]) := by
 rw [W_pure Φ11 rfl]
 have c1 := e40 name 0 (by omega)
 have c2 := e41 x
 have hnb : namedB name 0 = nameB name := by simp [namedB]
 rw [hnb] at c1
 unfold allI
 cases h1 : nameB name with
 | false => rw [h1] at c1; simp at c1; simp [fi11, c11, evFun, enterFr, intBin, resV, rvVs, rvV, c1]; rfl
 | true =>
 rw [h1] at c1
 simp at c1
 simp only [if_true]
 by_cases h2 : sevI x.l = 0
 rotate_left
 ·simp [fi11, c11, evFun, enterFr, intBin, resV, rvVs, rvV, c1, c2, h2]; rfl
 have hx : x.l ≠ [] ∧ x.l.length ≤ 8 := by
  unfold sevI at h2
  split at h2
  ·omega
  ·rename_i hne
   split at h2
   ·omega
   ·exact ⟨hne, by omega⟩
 obtain ⟨c, F, H', d1, rfl, d2, o, d3⟩ := okC_iff.1 (loop11 name x hx.2)
 have hne : spawns slNil x.l ≠ [] := by simpa [spawns] using hx.1
 have d4 : Grow (H' ++ [.arr 0 1 false [.str name]]) 8 o (F.get 7) ((spawns slNil x.l).map St.av) := d3.kept (Kept.append none _ _) (by simp)
 obtain ⟨G, f1, f2, f3, f4⟩ := d4.pub (fun x => by simp) hne
 have ho : o ≠ some H'.length := by
  intro e
  subst e
  obtain ⟨ver, t, _, q⟩ := d3
  have := (gEs.1 q).1
  omega
 have f5 : G[H'.length]? = some (.arr 0 1 false [.str name]) := by rw [f4 _ ho]; exact app_last _ _
 have d5 := call43 name H'
 have d6 := e44 rS 0 0 0 [] slNil (ofL 8 (spawns slNil x.l))
 have d7 := call103 name (by have := nameB_len h1; omega) 0 (by omega) slNil (ofL 8 [stS 14 rS (ofL 5 [zeroE, zeroE]) (ofL 8 (spawns slNil x.l)), stS 6 [] (ofL 5 [nmE rS]) slNil]) H'.length G f5
 have d8 := e45
 have z1 : (.agg [I 0, I 0, .str [], I 0, .isl (some true) 0 []] : AV) = (Ex.of 0 0 [] 0 slNil).av := rfl
 have pb : pubAs (H' ++ [.arr 0 1 false [.str name]]) [.str [114, 95], .agg [I 0, I 0, .str [], I 0, .isl (some true) 0 []], F.get 7] = ([.str [114, 95], .agg [I 0, I 0, .str [], I 0, .isl (some true) 0 []], (pubA (H' ++ [.arr 0 1 false [.str name]]) (F.get 7)).1], (pubA (H' ++ [.arr 0 1 false [.str name]]) (F.get 7)).2) := rfl
 rw [f2] at pb
 rw [← z1] at d6
 unfold rS zeroE at d6 d7
 have z2 : (Sl.av AV.str 1 slNil : AV) = .isl (some true) 0 [] := rfl
 have z3 : ∀ a b : St, (.isl (some false) 8 [a.av, b.av] : AV) = Sl.av St.av 8 (ofL 8 [a, b]) := fun a b => rfl
 have z4 : ∀ p : Pr, (.isl (some false) 5 [p.av] : AV) = Sl.av Pr.av 5 (ofL 5 [p]) := fun p => rfl
 rw [z2] at d7
 simp only [Int.natCast_zero, if_true, Int.cast_ofNat_Int] at d7
 simp [fi11, c11, evFun, enterFr, intBin, resV, rvVs, rvV, c1, c2, h2, d1, d2, d3.okO, d5, pb, d6, d8, z3, d7, z4, rS, zeroE, allPr]
end Go.Proofs.YtddpboiceemihaaGreatDoor
end
section
namespace Go.Proofs.YtddpboiceemihaaGreatDoor
open Go Go.RowKit
set_option linter.unusedVariables false
set_option linter.unusedSimpArgs false
set_option maxRecDepth 10000
theorem Grow.elems {H : Heap} {sz : Nat} {o : Option Nat} {v : AV} {l : List AV} (h : Grow H sz o v l) : elemsOf H sz v = some l := by
 cases o with
 | none => rw [h.1, h.2]; simp [elemsOf]
 | some id =>
  obtain ⟨ver, t, rfl, h2⟩ := h
  simp [elemsOf, h2]
theorem Grow.lt {H : Heap} {sz i : Nat} {v : AV} {l : List AV} (h : Grow H sz (some i) v l) : i < H.length := by
 obtain ⟨_, _, _, q⟩ := h
 exact (gEs.1 q).1
def hL (name : List UInt8) (n : Nat) : List (List UInt8) := (List.range n).map fun i => hS name (i + 1)
theorem hL_succ (name : List UInt8) (n : Nat) : hL name (n + 1) = hL name n ++ [hS name (n + 1)] := by simp [hL, List.range_succ]
theorem hL_len (name : List UInt8) (n : Nat) : (hL name n).length = n := by simp [hL]
def hPr (es : Sl Ex) (ps : Sl (List UInt8)) (name : List UInt8) (i : Nat) (s : List UInt8) : Pr := prT (hS name (i + 1)) ps (ofL 8 [stS 14 [] (ofL 5 [zeroE, zeroE]) (ofL 8 [stS 16 s es slNil]), stS 13 [] slNil slNil])
def hPrs (es : Sl Ex) (ps : Sl (List UInt8)) (name : List UInt8) (l : List (List UInt8)) : List Pr := l.zipIdx.map fun p => hPr es ps name p.2 p.1
theorem hPrs_len (es : Sl Ex) (ps : Sl (List UInt8)) (name : List UInt8) (l : List (List UInt8)) : (hPrs es ps name l).length = l.length := by simp [hPrs]
theorem hPrs_succ (es : Sl Ex) (ps : Sl (List UInt8)) (name : List UInt8) (l : List (List UInt8)) (k : Nat) (s : List UInt8) (h : l[k]? = some s) : hPrs es ps name (l.take (k + 1)) = hPrs es ps name (l.take k) ++ [hPr es ps name k s] := by
 have hk := (gEs.1 h).1
 have : (l.take k).length = k := by simp; omega
 simp [hPrs, List.take_add_one, h, List.zipIdx_append]
 congr 1
 omega
def racePr (es : Sl Ex) (ps : Sl (List UInt8)) (name : List UInt8) (l : List (List UInt8)) : List Pr := prT name ps (ofL 8 [stS 14 [] (ofL 5 [zeroE, zeroE]) (ofL 8 (spawns es (hL name l.length)))]) :: hPrs es ps name l
def raceI (name : List UInt8) (l : List (List UInt8)) : Int := if namedB name (min l.length 8) = true then sevI l else 5
theorem spawns_app (es : Sl Ex) (l m : List (List UInt8)) : spawns es (l ++ m) = spawns es l ++ spawns es m := by simp [spawns]
theorem sev_zero {l : List (List UInt8)} (h : sevI l = 0) : l ≠ [] ∧ l.length ≤ 8 := by
 unfold sevI at h
 split at h
 ·omega
 ·rename_i hne
  split at h
  ·omega
  ·exact ⟨hne, by omega⟩
set_option maxHeartbeats 2000000 in
theorem loop13 (name : List UInt8) (hn : name.length ≤ 1000) (x : Sl (List UInt8)) (hx : x.l.length ≤ 8) : okC (W.loop [0, 7, 8, 9, 25, 26, 27] l13_0 [(0, .str name), (7, .clo 103 [] [.optr 0 0 0 0]), (8, .isl (some true) 0 []), (9, .isl (some true) 0 []), (25, Sl.av AV.str 1 x), (26, I x.l.length), (27, I 0)] [.arr 0 1 false [.str name]])
  (fun c F G => c = .exit 0 ∧ F.keep [7, 8, 9] = [(7, .clo 103 [] [.optr 0 0 0 0]), (8, F.get 8), (9, F.get 9)] ∧ G[0]? = some (.arr 0 1 false [.str name]) ∧ ∃ o p, Grow G 8 o (F.get 8) ((spawns slNil (hL name x.l.length)).map St.av) ∧ Grow G 5 p (F.get 9) ((hPrs slNil slNil name x.l).map Pr.av) ∧ o ≠ some 0 ∧ p ≠ some 0 ∧ ∀ i, o = some i → p ≠ some i) := by
 have hL := loop_fold (Φ := Φ) (live := [0, 7, 8, 9, 25, 26, 27]) (L := l13_0) x.l (σ := Unit) (fun _ _ s => s)
  (fun k _ F G => ∃ v w, F = [(0, .str name), (7, .clo 103 [] [.optr 0 0 0 0]), (8, v), (9, w), (25, Sl.av AV.str 1 x), (26, I x.l.length), (27, I k)] ∧ G[0]? = some (.arr 0 1 false [.str name]) ∧ ∃ o p, Grow G 8 o v ((spawns slNil (hL name k)).map St.av) ∧ Grow G 5 p w ((hPrs slNil slNil name (x.l.take k)).map Pr.av) ∧ o ≠ some 0 ∧ p ≠ some 0 ∧ ∀ i, o = some i → p ≠ some i)
  (fun _ c F G => c = .exit 0 ∧ F.keep [7, 8, 9] = [(7, .clo 103 [] [.optr 0 0 0 0]), (8, F.get 8), (9, F.get 9)] ∧ G[0]? = some (.arr 0 1 false [.str name]) ∧ ∃ o p, Grow G 8 o (F.get 8) ((spawns slNil (hL name x.l.length)).map St.av) ∧ Grow G 5 p (F.get 9) ((hPrs slNil slNil name x.l).map Pr.av) ∧ o ≠ some 0 ∧ p ≠ some 0 ∧ ∀ i, o = some i → p ≠ some i)
  (s := ()) (F := [(0, .str name), (7, .clo 103 [] [.optr 0 0 0 0]), (8, .isl (some true) 0 []), (9, .isl (some true) 0 []), (25, Sl.av AV.str 1 x), (26, I x.l.length), (27, I 0)]) (H := [.arr 0 1 false [.str name]])
  ⟨_, _, rfl, rfl, none, none, grow_nil _ _, grow_nil _ _, by simp, by simp, by simp⟩ ?_ ?_
 ·exact hL
 ·rintro k s ⟨⟩ F G hk hs ⟨v, w, rfl, g0, o, p, g1, g2, g3, g4, g5⟩
  have hks : x.l[k] = s := (gEs.1 hs).2
  have hw := wrap_succ (k := k) (by omega)
  have e1 := e52 name hn (k + 1) (by omega)
  have e2 := e42 (hS name (k + 1)) slNil
  have e3 := e42 s slNil
  have e4 := e44 [] 0 0 0 [] slNil (ofL 8 [stS 16 s slNil slNil])
  have e5 := e53 13 [] slNil
  have hlen : ((spawns slNil (hL name k)).map St.av).length = k := by simp [spawns, hL_len]
  have hlen2 : ((hPrs slNil slNil name (x.l.take k)).map Pr.av).length = k := by simp [hPrs_len]; omega
  obtain ⟨o', v', G', a1, a2, a3, a4⟩ := g1.app1 (stS 16 (hS name (k + 1)) slNil slNil).av (by simp) (by rw [hlen]; simp [appRoom]; omega)
  have g0' : G'[0]? = some (.arr 0 1 false [.str name]) := a3.get g3 g0
  have e6 := call103 name hn (k + 1) (by omega) slNil (ofL 8 [stS 14 [] (ofL 5 [zeroE, zeroE]) (ofL 8 [stS 16 s slNil slNil]), stS 13 [] slNil slNil]) 0 G' g0'
  rw [if_neg (by omega)] at e6
  have hpr : prT (hS name (k + 1)) slNil (ofL 8 [stS 14 [] (ofL 5 [zeroE, zeroE]) (ofL 8 [stS 16 s slNil slNil]), stS 13 [] slNil slNil]) = hPr slNil slNil name k s := rfl
  rw [hpr] at e6
  have g2' : Grow G' 5 p w ((hPrs slNil slNil name (x.l.take k)).map Pr.av) := g2.kept a3 (fun id h1 h2 => g5 id h1 h2)
  generalize hK : G' ++ [Blk.arr 0 5 false [(hPr slNil slNil name k s).av], Blk.arr 0 5 false [(hPr slNil slNil name k s).av]] = K at e6
  have hKk : Kept none G' K := by rw [← hK]; exact Kept.append none _ _
  have g2'' := g2'.kept hKk (by simp)
  obtain ⟨p', w', G2, b1, b2, b3, b4⟩ := g2''.app1 (hPr slNil slNil name k s).av (by simp) (by rw [hlen2]; simp [appRoom]; omega)
  have z0 : (Sl.av Ex.av 5 slNil : AV) = .isl (some true) 0 [] := rfl
  have z1 : (.agg [I 0, I 0, .str [], I 0, .isl (some true) 0 []] : AV) = (Ex.of 0 0 [] 0 slNil).av := rfl
  have z2 : (Sl.av AV.str 1 slNil : AV) = .isl (some true) 0 [] := rfl
  have z3 : ∀ a b : St, (.isl (some false) 8 [a.av, b.av] : AV) = Sl.av St.av 8 (ofL 8 [a, b]) := fun a b => rfl
  have z4 : ∀ a : St, (.isl (some false) 8 [a.av] : AV) = Sl.av St.av 8 (ofL 8 [a]) := fun a => rfl
  have pb : ∀ a : St, pubAs G' [.str [], .agg [I 0, I 0, .str [], I 0, .isl (some true) 0 []], .isl (some false) 8 [a.av]] = ([.str [], .agg [I 0, I 0, .str [], I 0, .isl (some true) 0 []], .isl (some false) 8 [a.av]], G') := fun a => rfl
  rw [z0] at e2 e3 e5
  rw [z2] at e6
  rw [← z1, ← z4] at e4
  unfold zeroE at e4 e6
  simp only [Int.natCast_add, Int.cast_ofNat_Int] at e1 e6
  simp [evl13_0, b13_0, intBin, hk, hks, hw, e1, e2, e3, e4, e5, e6, g1.okO, g2.okO, a1, a2.okO, b1, b2.okO, pb, z3]
  have hGl := (gEs.1 g0).1
  have ho' : ∀ i, o' = some i → p ≠ some i := fun i hi hp => by
   rcases a4 i hi with h | ⟨_, h⟩
   ·exact g5 i h hp
   ·subst hp; have := g2.lt; omega
  refine ⟨v', w', ⟨rfl, rfl⟩, b3.get g4 (hKk.get (by simp) g0'), o', ?_, p', ?_, ?_, ?_, ?_⟩
  ·rw [hL_succ, spawns_app, List.map_append]
   exact (a2.kept hKk (by simp)).kept b3 (fun id h1 h2 => ho' id h2 h1)
  ·rw [hPrs_succ _ _ _ _ _ _ hs, List.map_append]
   exact b2
  ·intro h
   rcases a4 0 h with h | ⟨_, h⟩
   ·exact g3 h
   ·omega
  ·intro h
   have h1 := hKk.1
   have h2 := a3.1
   rcases b4 0 h with h | ⟨_, h⟩
   ·exact g4 h
   ·omega
  ·intro i hi hp
   rcases b4 i hp with h | ⟨_, h⟩
   ·exact ho' i hi h
   ·subst hi
    have h1 := hKk.1
    have h2 := a2.lt
    omega
 ·rintro ⟨⟩ F G ⟨v, w, rfl, g0, o, p, g1, g2, g3, g4, g5⟩
  rw [List.take_of_length_le (by omega)] at g2
  simp [evl13_0, b13_0, intBin]
  exact ⟨g0, o, g1, p, g2, g3, g4, g5⟩
theorem own_pre {K : Heap} {p : Option Nat} {w : AV} {x : Pr} {l : List Pr} (h : Grow K 5 p w (l.map Pr.av)) (hl : l.length + 1 ≤ appRoom) :
  ∃ o' v' H', ex (K ++ [.arr 0 5 false [x.av]]) (.app 5) [.osl K.length 0 0 1, w] = some (v', H') ∧ Grow H' 5 o' v' ((x :: l).map Pr.av) ∧ ∀ n, frz H' (n + 1) v' = some (Sl.av Pr.av 5 (ofL 5 (x :: l))) := by
 have g1 : Grow (K ++ [.arr 0 5 false [x.av]]) 5 (some K.length) (.osl K.length 0 0 1) [x.av] := grow_mk (l := [x.av]) (app_last _ _)
 have g2 : Grow (K ++ [.arr 0 5 false [x.av]]) 5 p w (l.map Pr.av) := h.kept (Kept.append none _ _) (by simp)
 obtain ⟨o', v', H', a1, a2, _⟩ := g1.app g2.elems (all_cell (fun x => by simp) l) (by simp; omega)
 refine ⟨o', v', H', a1, a2, fun n => ?_⟩
 have hz := a2.frz (n := n) (all_still (f := Pr.av) (fun x => by simp) (x :: l))
 have ho : o' ≠ none := by
  rintro rfl
  exact absurd a2.2 (by simp)
 rw [hz, if_neg ho]
 exact congrArg some (isl_sl (f := Pr.av) (x :: l))
theorem e13 (name : List UInt8) (x : Sl (List UInt8)) : W.pure 13 [.str name, Sl.av AV.str 1 x] = some (.tuple [Sl.av Pr.av 5 (if raceI name x.l = 0 then ofL 5 (racePr slNil slNil name x.l) else slNil), I (raceI name x.l)]) := by
 rw [W_pure Φ13 rfl]
 have c1 := e40 name (min x.l.length 8) (by omega)
 have c2 := e41 x
 unfold raceI
 have hm : (if (8 : Int) < (x.l.length : Int) then 8 else (x.l.length : Int)) = ((min x.l.length 8 : Nat) : Int) := by split <;> omega
 have hm2 : min (x.l.length : Int) 8 = ((min x.l.length 8 : Nat) : Int) := by omega
 generalize min x.l.length 8 = m at *
 cases h1 : namedB name m with
 | false => rw [h1] at c1; simp [fi13, c13, evFun, enterFr, intBin, resV, rvVs, rvV, c1, hm, hm2]; rfl
 | true =>
 rw [h1] at c1
 simp only [if_true]
 by_cases h2 : sevI x.l = 0
 rotate_left
 ·simp [fi13, c13, evFun, enterFr, intBin, resV, rvVs, rvV, c1, c2, h2, hm, hm2]; rfl
 have hx := sev_zero h2
 have h3 : nameB name = true := by simp [namedB] at h1; exact h1.1
 have hn := nameB_len h3
 obtain ⟨c, F, G, d1, rfl, d2, d3, o, p, d4, d5, d6, d7, d8⟩ := okC_iff.1 (loop13 name (by omega) x hx.2)
 have hne : spawns slNil (hL name x.l.length) ≠ [] := by
  intro h
  have := congrArg List.length h
  simp [spawns, hL_len] at this
  exact hx.1 this
 have d9 := call43 name []
 obtain ⟨G1, f1, f2, f3, f4⟩ := d4.pub (fun x => by simp) hne
 have f5 : G1[0]? = some (.arr 0 1 false [.str name]) := by rw [f4 0 d6]; exact d3
 have e6 := e44 [] 0 0 0 [] slNil (ofL 8 (spawns slNil (hL name x.l.length)))
 have e7 := call103 name (by omega) 0 (by omega) slNil (ofL 8 [stS 14 [] (ofL 5 [zeroE, zeroE]) (ofL 8 (spawns slNil (hL name x.l.length)))]) 0 G1 f5
 rw [if_pos rfl] at e7
 have hpr : Grow G1 5 p (F.get 9) ((hPrs slNil slNil name x.l).map Pr.av) := by
  cases p with
  | none => exact d5
  | some i =>
   obtain ⟨ver, t, q1, q2⟩ := d5
   exact ⟨ver, t, q1, by rw [f4 i (fun e => d8 i e rfl)]; exact q2⟩
 have z1 : (.agg [I 0, I 0, .str [], I 0, .isl (some true) 0 []] : AV) = (Ex.of 0 0 [] 0 slNil).av := rfl
 have z2 : (Sl.av AV.str 1 slNil : AV) = .isl (some true) 0 [] := rfl
 have z4 : ∀ a : St, (.isl (some false) 8 [a.av] : AV) = Sl.av St.av 8 (ofL 8 [a]) := fun a => rfl
 have pb : pubAs G [.str [], .agg [I 0, I 0, .str [], I 0, .isl (some true) 0 []], F.get 8] = ([.str [], .agg [I 0, I 0, .str [], I 0, .isl (some true) 0 []], (pubA G (F.get 8)).1], (pubA G (F.get 8)).2) := rfl
 rw [f2] at pb
 rw [← z1] at e6
 rw [z2] at e7
 unfold zeroE at e6 e7
 generalize hK : G1 ++ [Blk.arr 0 5 false [(prT name slNil (ofL 8 [stS 14 [] (ofL 5 [Ex.of 0 0 [] 0 slNil, Ex.of 0 0 [] 0 slNil]) (ofL 8 (spawns slNil (hL name x.l.length)))])).av], Blk.arr 0 5 false [(prT name slNil (ofL 8 [stS 14 [] (ofL 5 [Ex.of 0 0 [] 0 slNil, Ex.of 0 0 [] 0 slNil]) (ofL 8 (spawns slNil (hL name x.l.length)))])).av]] = K at e7
 simp only [Int.natCast_zero, Int.cast_ofNat_Int] at e7
 have hKk : Kept none G1 K := by rw [← hK]; exact Kept.append none _ _
 obtain ⟨o', v', H', a1, a2, a3⟩ := own_pre (K := K) (x := prT name slNil (ofL 8 [stS 14 [] (ofL 5 [Ex.of 0 0 [] 0 slNil, Ex.of 0 0 [] 0 slNil]) (ofL 8 (spawns slNil (hL name x.l.length)))])) (hpr.kept hKk (by simp)) (by rw [hPrs_len]; have := hx.2; simp [appRoom]; omega)
 have q1 : okO v' = some v' := a2.okO
 have q2 := a3 5
 have q3 := a3 6
 have q4 := a3 7
 simp only [Nat.reduceAdd] at q2 q3 q4
 simp [fi13, c13, evFun, enterFr, intBin, resV, rvVs, rvV, c1, c2, h2, hm, hm2, d9, d1, d2, d4.okO, d5.okO, pb, e6, z4, e7, a1, q1, q2, q3, q4, racePr, zeroE]
end Go.Proofs.YtddpboiceemihaaGreatDoor
end
section
namespace Go.Proofs.YtddpboiceemihaaGreatDoor
open Go Go.RowKit
set_option linter.unusedVariables false
set_option linter.unusedSimpArgs false
set_option maxRecDepth 10000
end Go.Proofs.YtddpboiceemihaaGreatDoor
end
section
namespace Go.Proofs.YtddpboiceemihaaGreatDoor
open Go Go.RowKit
set_option linter.unusedVariables false
set_option linter.unusedSimpArgs false
set_option maxRecDepth 10000
end Go.Proofs.YtddpboiceemihaaGreatDoor
end
section
namespace Go.Proofs.YtddpboiceemihaaGreatDoor
open Go Go.RowKit
set_option linter.unusedVariables false
set_option linter.unusedSimpArgs false
set_option maxRecDepth 10000
theorem eqv_stS (k : Int) (s : List UInt8) (es es' : Sl Ex) (b b' : Sl St) (he : all2 sameEx es.l es'.l = true) (hb : St.eqvs b.l b'.l = true) : (stS k s es b).eqv (stS k s es' b') = true := by
 rw [St.eqv_eq]
 simp [stS, he, hb, St.eqvs, Cs.eqvs]
theorem sameEx_self {e : Ex} (h : exCheck e = 0) (hr : e.eqv e = true) : sameEx e e = true := by
 simp [sameEx, exEqual, h, hr]
mutual
theorem Ex.eqv_refl : ∀ e : Ex, e.eqv e = true
 | .mk k o n v a b l => by
  have := Ex.eqvs_refl l
  rw [Ex.eqv_eq]
  simp
  exact this
theorem Ex.eqvs_refl : ∀ l : List Ex, Ex.eqvs l l = true
 | [] => by simp only [Ex.eqvs]
 | x :: r => by simp only [Ex.eqvs, Ex.eqv_refl x, Ex.eqvs_refl r, Bool.and_self]
end
theorem sameEx_zero : sameEx zeroE zeroE = true := by decide
theorem sameEx_nm {s : List UInt8} (h : isNm s = true) : sameEx (nmE s) (nmE s) = true := sameEx_self (by unfold nmE; rw [exCheck_name, if_pos h]) (Ex.eqv_refl _)
theorem rS_nm : isNm rS = true := by decide
theorem nS_nm : isNm nS = true := by decide
theorem stS_big (k : Int) (s : List UInt8) (es : Sl Ex) (b : Sl St) : (stS k s es b).big = 1 + Ex.sizes es.l + St.bigs b.l := by
 rw [St.big_eq]
 simp [stS, St.bigs, Cs.bigs]
theorem spawns_big (es : Sl Ex) (l : List (List UInt8)) : St.bigs (spawns es l) = l.length * (1 + Ex.sizes es.l) := by
 induction l with
 | nil => simp [spawns, St.bigs]
 | cons a r ih =>
  simp only [spawns, List.map_cons, St.bigs, List.length_cons] at ih ⊢
  rw [ih, stS_big, Nat.succ_mul]
  simp [St.bigs]
  omega
end Go.Proofs.YtddpboiceemihaaGreatDoor
end
section
namespace Go.Proofs.YtddpboiceemihaaGreatDoor
open Go Go.RowKit
set_option linter.unusedVariables false
set_option linter.unusedSimpArgs false
structure Or where
 kind : Int
 name : (List UInt8)
 procs : (Sl (List UInt8))
 sem : (List UInt8)
 n : Int
 pause : Int
 deriving DecidableEq, Inhabited
def Or.av (s : Or) : AV := .agg [I s.kind, .str s.name, Sl.av AV.str 1 s.procs, .str s.sem, I s.n, I s.pause]
section
variable {s t : Or} {H : Heap} {es : List AV} {k : Nat}
@[simp] theorem Or_okO : okO s.av = some s.av := rfl
@[simp] theorem Or_ok : s.av.ok = true := rfl
@[simp] theorem Or_flat : s.av.flat = true := rfl
@[simp] theorem Or_len : s.av.cells.length = 6 := rfl
@[simp] theorem Or_cell : s.av.cells.all AV.cell = true := rfl
@[simp] theorem Or_still : s.av.cells.all AV.still = true := rfl
@[simp] theorem Or_still2 : (∀ x, x ∈ s.av.cells → AV.still x = true) ↔ True := by simp only [iff_true]; exact List.all_eq_true.1 Or_still
@[simp] theorem Or_cell2 : (∀ x, x ∈ s.av.cells → AV.cell x = true) ↔ True := by simp only [iff_true]; exact List.all_eq_true.1 Or_cell
@[simp] theorem Or_frz (n : Nat) : frz H (n + 2) s.av = some s.av := rfl
@[simp] theorem Or_frz0 (n : Nat) : frzs (frz H (n + 1)) s.av.cells = some s.av.cells := rfl
@[simp] theorem Or_whole : ldCells true 6 s.av.cells = s.av := rfl
@[simp] theorem Or_fold : AV.agg s.av.cells = s.av := rfl
theorem Or_mk (kind : Int) (name : (List UInt8)) (procs : (Sl (List UInt8))) (sem : (List UInt8)) (n : Int) (pause : Int) : (.agg [I kind, .str name, Sl.av AV.str 1 procs, .str sem, I n, I pause] : AV) = (Or.mk kind name procs sem n pause).av := rfl
@[simp] theorem Or_ld_kind : ldCells false 1 s.av.cells = I s.kind := rfl
@[simp] theorem Or_fv_kind : fldvV false 1 0 s.av = I s.kind := rfl
@[simp] theorem Or_st_kind (x : Int) : setElem [s.av] 0 0 (I x) = some [({ s with kind := x } : Or).av] := rfl
@[simp] theorem Or_stm_kind (l : List Or) (x : Int) : setElem (l.map Or.av) k 0 (I x) = l[k]?.map fun s => (l.set k { s with kind := x }).map Or.av := by
 cases h : l[k]? with
 | none => simp [setElem, h]
 | some s => simp only [setElem, List.getElem?_map, h, Option.map_some, List.map_set]; rfl
@[simp] theorem Or_ld_name : ldCells false 1 s.av.cells.tail = .str s.name := rfl
@[simp] theorem Or_fv_name : fldvV false 1 1 s.av = .str s.name := rfl
@[simp] theorem Or_st_name (x : (List UInt8)) : setElem [s.av] 0 1 (.str x) = some [({ s with name := x } : Or).av] := rfl
@[simp] theorem Or_stm_name (l : List Or) (x : (List UInt8)) : setElem (l.map Or.av) k 1 (.str x) = l[k]?.map fun s => (l.set k { s with name := x }).map Or.av := by
 cases h : l[k]? with
 | none => simp [setElem, h]
 | some s => simp only [setElem, List.getElem?_map, h, Option.map_some, List.map_set]; rfl
@[simp] theorem Or_ld_procs : ldCells false 1 (s.av.cells.drop 2) = Sl.av AV.str 1 s.procs := rfl
@[simp] theorem Or_fv_procs : fldvV false 1 2 s.av = Sl.av AV.str 1 s.procs := rfl
@[simp] theorem Or_st_procs (x : (Sl (List UInt8))) : setElem [s.av] 0 2 (Sl.av AV.str 1 x) = some [({ s with procs := x } : Or).av] := rfl
@[simp] theorem Or_stm_procs (l : List Or) (x : (Sl (List UInt8))) : setElem (l.map Or.av) k 2 (Sl.av AV.str 1 x) = l[k]?.map fun s => (l.set k { s with procs := x }).map Or.av := by
 cases h : l[k]? with
 | none => simp [setElem, h]
 | some s => simp only [setElem, List.getElem?_map, h, Option.map_some, List.map_set]; rfl
@[simp] theorem Or_ld_sem : ldCells false 1 (s.av.cells.drop 3) = .str s.sem := rfl
@[simp] theorem Or_fv_sem : fldvV false 1 3 s.av = .str s.sem := rfl
@[simp] theorem Or_st_sem (x : (List UInt8)) : setElem [s.av] 0 3 (.str x) = some [({ s with sem := x } : Or).av] := rfl
@[simp] theorem Or_stm_sem (l : List Or) (x : (List UInt8)) : setElem (l.map Or.av) k 3 (.str x) = l[k]?.map fun s => (l.set k { s with sem := x }).map Or.av := by
 cases h : l[k]? with
 | none => simp [setElem, h]
 | some s => simp only [setElem, List.getElem?_map, h, Option.map_some, List.map_set]; rfl
@[simp] theorem Or_ld_n : ldCells false 1 (s.av.cells.drop 4) = I s.n := rfl
@[simp] theorem Or_fv_n : fldvV false 1 4 s.av = I s.n := rfl
@[simp] theorem Or_st_n (x : Int) : setElem [s.av] 0 4 (I x) = some [({ s with n := x } : Or).av] := rfl
@[simp] theorem Or_stm_n (l : List Or) (x : Int) : setElem (l.map Or.av) k 4 (I x) = l[k]?.map fun s => (l.set k { s with n := x }).map Or.av := by
 cases h : l[k]? with
 | none => simp [setElem, h]
 | some s => simp only [setElem, List.getElem?_map, h, Option.map_some, List.map_set]; rfl
@[simp] theorem Or_ld_pause : ldCells false 1 (s.av.cells.drop 5) = I s.pause := rfl
@[simp] theorem Or_fv_pause : fldvV false 1 5 s.av = I s.pause := rfl
@[simp] theorem Or_st_pause (x : Int) : setElem [s.av] 0 5 (I x) = some [({ s with pause := x } : Or).av] := rfl
@[simp] theorem Or_stm_pause (l : List Or) (x : Int) : setElem (l.map Or.av) k 5 (I x) = l[k]?.map fun s => (l.set k { s with pause := x }).map Or.av := by
 cases h : l[k]? with
 | none => simp [setElem, h]
 | some s => simp only [setElem, List.getElem?_map, h, Option.map_some, List.map_set]; rfl
@[simp] theorem Or_st_all (x : Or) : setElem [s.av] 0 0 x.av = some [x.av] := rfl
@[simp] theorem Or_st_new (x : Or) : setElem [.agg [.int .i64 0, .str [], .isl (some true) 0 [], .str [], .int .i64 0, .int .i64 0]] 0 0 x.av = some [x.av] := rfl
@[simp] theorem Or_stm_all (l : List Or) (x : Or) : setElem (l.map Or.av) k 0 x.av = l[k]?.map fun _ => (l.set k x).map Or.av := by
 cases h : l[k]? with
 | none => simp [setElem, h]
 | some s => simp only [setElem, List.getElem?_map, h, Option.map_some, List.map_set]; rfl
def orSh : List Sh := [.int .i64, .str, .sl false [.str], .str, .int .i64, .int .i64]
def Or.wf (s : Or) : Prop := (Lit.int .i64 s.kind).wf = true ∧ s.name.length ≤ maxLen ∧ SlOk (fun n => n.length ≤ maxLen) s.procs ∧ s.sem.length ≤ maxLen ∧ (Lit.int .i64 s.n).wf = true ∧ (Lit.int .i64 s.pause).wf = true ∧ True
theorem Or_of {e : AV} (hr : RowOk true 6 e) (hv : ∀ (j : Nat) (c : AV) (s : Sh), (AV.cells e)[j]? = some c → orSh[j]? = some s → ShOk s c) : ∃ s : Or, e = s.av ∧ s.wf := by
 obtain ⟨cs, rfl, hl⟩ := hr.1 rfl
 match cs, hl with
 | [a0, a1, a2, a3, a4, a5], _ =>
  obtain ⟨n0, rfl, w0⟩ := sh_int (hv 0 _ _ rfl rfl)
  obtain ⟨n1, rfl, w1⟩ := sh_str (hv 1 _ _ rfl rfl)
  obtain ⟨n2, h2, w2⟩ := sl_of (f := AV.str) row_str (hv 2 _ _ rfl rfl)
  subst h2
  obtain ⟨n3, rfl, w3⟩ := sh_str (hv 3 _ _ rfl rfl)
  obtain ⟨n4, rfl, w4⟩ := sh_int (hv 4 _ _ rfl rfl)
  obtain ⟨n5, rfl, w5⟩ := sh_int (hv 5 _ _ rfl rfl)
  exact ⟨⟨n0, n1, n2, n3, n4, n5⟩, rfl, w0, w1, w2, w3, w4, w5, trivial⟩
theorem Or_arg {a : AV} (h : PShOk (true, orSh) a) : ∃ s : Or, a = s.av ∧ s.wf := by
 obtain ⟨cs, rfl, h1, h2⟩ := h.1 rfl
 exact Or_of ⟨fun _ => ⟨_, rfl, h1⟩, fun h => by cases h⟩ (fun j c s hc hs => h2 j c s hc hs)
end
end Go.Proofs.YtddpboiceemihaaGreatDoor
end
section
namespace Go.Proofs.YtddpboiceemihaaGreatDoor
open Go Go.RowKit
set_option linter.unusedVariables false
set_option linter.unusedSimpArgs false
set_option maxRecDepth 100000
theorem e10 : W.pure 10 [] = some (.bool true) := (le_om 300).pure _ _ _ (by kernel_rfl)
end Go.Proofs.YtddpboiceemihaaGreatDoor
end
section
namespace Go.Proofs.YtddpboiceemihaaGreatDoor
open Go Go.RowKit
set_option linter.unusedVariables false
set_option linter.unusedSimpArgs false
set_option maxRecDepth 10000
theorem call38 (s : List UInt8) (H : Heap) : W.call (.clo 38 [] []) [.str s] H = some (.bool (decide (40 < s.length)), H) := by
 rw [W_call Φ38]
 by_cases h : 40 < s.length
 ·have h' : (40 : Int) < s.length := by omega
  simp [fi38, c38, evFun, enterFr, intBin, resV, rvVs, rvV, h, h']
 ·have h' : ¬ (40 : Int) < s.length := by omega
  simp [fi38, c38, evFun, enterFr, intBin, resV, rvVs, rvV, h, h']
def orGreat (o : Or) : Bool := decide (o.kind < 0) || decide (40 < o.name.length) || decide (40 < o.sem.length) || decide (12 < o.procs.l.length) || o.procs.l.any (fun s => decide (40 < s.length))
theorem e9 (o : Or) : W.pure 9 [o.av] = some (.bool (orGreat o)) := by
 rw [W_pure Φ9 rfl]
 unfold orGreat
 by_cases h1 : o.kind < 0
 ·simp [fi9, c9, evFun, enterFr, intBin, resV, rvVs, rvV, h1]
 by_cases h2 : 40 < o.name.length
 ·have h2' : (40 : Int) < o.name.length := by omega
  simp [fi9, c9, evFun, enterFr, intBin, resV, rvVs, rvV, h1, h2, h2']
 have h2' : ¬ (40 : Int) < o.name.length := by omega
 by_cases h3 : 40 < o.sem.length
 ·have h3' : (40 : Int) < o.sem.length := by omega
  simp [fi9, c9, evFun, enterFr, intBin, resV, rvVs, rvV, h1, h2, h2', h3, h3']
 have h3' : ¬ (40 : Int) < o.sem.length := by omega
 by_cases h4 : 12 < o.procs.l.length
 ·have h4' : (12 : Int) < o.procs.l.length := by omega
  simp [fi9, c9, evFun, enterFr, intBin, resV, rvVs, rvV, h1, h2, h2', h3, h3', h4, h4']
 have h4' : ¬ (12 : Int) < o.procs.l.length := by omega
 obtain ⟨v, H', c1, rfl, c2⟩ := okV_iff.1 (any37 o.procs (by omega) (.clo 38 [] []) rfl (fun s => decide (40 < s.length)) [.arr 0 6 false [o.av]] (fun a _ H _ => by rw [call38]; exact ⟨rfl, Kept.refl _ _⟩))
 cases h5 : o.procs.l.any (fun s => decide (40 < s.length)) <;> rw [h5] at c1 <;> simp [fi9, c9, evFun, enterFr, intBin, resV, rvVs, rvV, h1, h2, h2', h3, h3', h4, h4', c1, h5]
end Go.Proofs.YtddpboiceemihaaGreatDoor
end
section
namespace Go.Proofs.YtddpboiceemihaaGreatDoor
open Go Go.RowKit
set_option linter.unusedVariables false
set_option linter.unusedSimpArgs false
set_option maxRecDepth 10000
theorem e44g (s : List UInt8) (d : Ex) (b : Sl St) : W.pure 44 [.str s, d.av, Sl.av St.av 8 b] = some (stS 14 s (ofL 5 [d, zeroE]) b).av := by
 have := e44 s d.kind d.op d.value d.name d.args b
 rwa [← Ex.eta d] at this
theorem zE : (.agg [I 0, I 0, .str [], I 0, .isl (some true) 0 []] : AV) = zeroE.av := rfl
theorem zE1 (a : Ex) : (.isl (some false) 5 [a.av] : AV) = Sl.av Ex.av 5 (ofL 5 [a]) := rfl
theorem zE2 (a b : Ex) : (.isl (some false) 5 [a.av, b.av] : AV) = Sl.av Ex.av 5 (ofL 5 [a, b]) := rfl
theorem zS1 (a : St) : (.isl (some false) 8 [a.av] : AV) = Sl.av St.av 8 (ofL 8 [a]) := rfl
theorem zS2 (a b : St) : (.isl (some false) 8 [a.av, b.av] : AV) = Sl.av St.av 8 (ofL 8 [a, b]) := rfl
theorem zS3 (a b c : St) : (.isl (some false) 8 [a.av, b.av, c.av] : AV) = Sl.av St.av 8 (ofL 8 [a, b, c]) := rfl
theorem zS4 (a b c d : St) : (.isl (some false) 8 [a.av, b.av, c.av, d.av] : AV) = Sl.av St.av 8 (ofL 8 [a, b, c, d]) := rfl
theorem zP1 (a : Pr) : (.isl (some false) 5 [a.av] : AV) = Sl.av Pr.av 5 (ofL 5 [a]) := rfl
theorem zP3 (a b c : Pr) : (.isl (some false) 5 [a.av, b.av, c.av] : AV) = Sl.av Pr.av 5 (ofL 5 [a, b, c]) := rfl
def leaveS : St := stS 6 [] (ofL 5 [nmE rS]) slNil
def tmoPr (es : Sl Ex) (ps : Sl (List UInt8)) (name proc : List UInt8) (n : Int) : Pr := prT name ps (ofL 8 [stS 14 rS (ofL 5 [numE n, zeroE]) (ofL 8 [stS 16 proc es slNil]), leaveS])
def oneI (name proc : List UInt8) (lo hi n : Int) : Int := if (nameB name && nameB proc) = true then (if lo ≤ n ∧ n ≤ hi then 0 else 2) else 5
set_option maxHeartbeats 2000000 in
theorem e17 (name proc : List UInt8) (n : Int) : W.pure 17 [.str name, .str proc, I n] = some (.tuple [Sl.av Pr.av 5 (if oneI name proc 0 1099511627776 n = 0 then ofL 5 [tmoPr slNil slNil name proc n] else slNil), I (oneI name proc 0 1099511627776 n)]) := by
 rw [W_pure Φ17 rfl]
 have c1 := e40 name 0 (by omega)
 have c2 := e56 proc
 have hnb : namedB name 0 = nameB name := by simp [namedB]
 rw [hnb] at c1
 simp only [Int.natCast_zero, Int.cast_ofNat_Int] at c1
 unfold oneI
 cases h1 : nameB name with
 | false => rw [h1] at c1; simp [fi17, c17, evFun, enterFr, intBin, resV, rvVs, rvV, c1]; rfl
 | true =>
 rw [h1] at c1
 cases h2 : nameB proc with
 | false => rw [h2] at c2; simp [fi17, c17, evFun, enterFr, intBin, resV, rvVs, rvV, c1, c2]; rfl
 | true =>
 rw [h2] at c2
 by_cases h3 : n < 0
 ·have h3' : ¬ (0 ≤ n ∧ n ≤ 1099511627776) := by omega
  simp [fi17, c17, evFun, enterFr, intBin, resV, rvVs, rvV, c1, c2, h3, h3']; rfl
 by_cases h4 : 1099511627776 < n
 ·have h3' : ¬ (0 ≤ n ∧ n ≤ 1099511627776) := by omega
  simp [fi17, c17, evFun, enterFr, intBin, resV, rvVs, rvV, c1, c2, h3, h4, h3']; rfl
 have h3' : 0 ≤ n ∧ n ≤ 1099511627776 := by omega
 have d1 := call43 name []
 have d2 := e57 n
 have d3 := e42 proc slNil
 have d4 := e44g rS (numE n) (ofL 8 [stS 16 proc slNil slNil])
 have d5 := e45
 have d6 := call103 name (by have := nameB_len h1; omega) 0 (by omega) slNil (ofL 8 [stS 14 rS (ofL 5 [numE n, zeroE]) (ofL 8 [stS 16 proc slNil slNil]), leaveS]) 0 [.arr 0 1 false [.str name]] rfl
 have z0 : (Sl.av Ex.av 5 slNil : AV) = .isl (some true) 0 [] := rfl
 have z2 : (Sl.av AV.str 1 slNil : AV) = .isl (some true) 0 [] := rfl
 rw [z0] at d3
 rw [z2] at d6
 have hl : stS 6 [] (ofL 5 [nmE rS]) slNil = leaveS := rfl
 rw [hl] at d5
 unfold rS at d4 d6
 simp only [Int.natCast_zero, if_true, Int.cast_ofNat_Int] at d6
 simp [fi17, c17, evFun, enterFr, intBin, resV, rvVs, rvV, c1, c2, h3, h4, h3', d1, d2, d3, d4, d5, d6, zS1, zS2, zP1, tmoPr, rS]
def cntSt (proc : List UInt8) (n : Int) : St := stS 14 rS (ofL 5 [zeroE, zeroE]) (ofL 8 [stS 1 iS (ofL 5 [numE 0]) slNil, stS 5 [] (ofL 5 [numE n]) (ofL 8 [stS 16 proc (ofL 5 [nmE iS]) slNil, stS 2 iS (ofL 5 [binE 3 (ofL 5 [nmE iS, numE 1])]) slNil])])
theorem e67 (proc : List UInt8) (n : Int) : W.pure 67 [.str proc, I n] = some (cntSt proc n).av := (le_om 60).pure _ _ _ (by kernel_rfl)
def eachPr (ps : Sl (List UInt8)) (name proc : List UInt8) (n : Int) : Pr := prT name ps (ofL 8 [cntSt proc n, leaveS])
set_option maxHeartbeats 2000000 in
theorem e21 (name proc : List UInt8) (n : Int) : W.pure 21 [.str name, .str proc, I n] = some (.tuple [Sl.av Pr.av 5 (if oneI name proc 0 15 n = 0 then ofL 5 [eachPr slNil name proc n] else slNil), I (oneI name proc 0 15 n)]) := by
 rw [W_pure Φ21 rfl]
 have c1 := e40 name 0 (by omega)
 have c2 := e56 proc
 have hnb : namedB name 0 = nameB name := by simp [namedB]
 rw [hnb] at c1
 simp only [Int.natCast_zero, Int.cast_ofNat_Int] at c1
 unfold oneI
 cases h1 : nameB name with
 | false => rw [h1] at c1; simp [fi21, c21, evFun, enterFr, intBin, resV, rvVs, rvV, c1]; rfl
 | true =>
 rw [h1] at c1
 cases h2 : nameB proc with
 | false => rw [h2] at c2; simp [fi21, c21, evFun, enterFr, intBin, resV, rvVs, rvV, c1, c2]; rfl
 | true =>
 rw [h2] at c2
 by_cases h3 : n < 0
 ·have h3' : ¬ (0 ≤ n ∧ n ≤ 15) := by omega
  simp [fi21, c21, evFun, enterFr, intBin, resV, rvVs, rvV, c1, c2, h3, h3']; rfl
 by_cases h4 : 16 ≤ n
 ·have h3' : ¬ (0 ≤ n ∧ n ≤ 15) := by omega
  simp [fi21, c21, evFun, enterFr, intBin, resV, rvVs, rvV, c1, c2, h3, h4, h3']; rfl
 have h3' : 0 ≤ n ∧ n ≤ 15 := by omega
 have d1 := call43 name []
 have d4 := e67 proc n
 have d5 := e45
 have d6 := call103 name (by have := nameB_len h1; omega) 0 (by omega) slNil (ofL 8 [cntSt proc n, leaveS]) 0 [.arr 0 1 false [.str name]] rfl
 have z2 : (Sl.av AV.str 1 slNil : AV) = .isl (some true) 0 [] := rfl
 rw [z2] at d6
 have hl : stS 6 [] (ofL 5 [nmE rS]) slNil = leaveS := rfl
 rw [hl] at d5
 simp only [Int.natCast_zero, if_true, Int.cast_ofNat_Int] at d6
 simp [fi21, c21, evFun, enterFr, intBin, resV, rvVs, rvV, c1, c2, h3, h4, h3', d1, d4, d5, d6, zS1, zS2, zP1, eachPr]
end Go.Proofs.YtddpboiceemihaaGreatDoor
end
section
namespace Go.Proofs.YtddpboiceemihaaGreatDoor
open Go Go.RowKit
set_option linter.unusedVariables false
set_option linter.unusedSimpArgs false
set_option maxRecDepth 10000
def againE (n : Int) : Ex := binE 14 (ofL 5 [binE 10 (ofL 5 [nmE nS, numE n]), binE 9 (ofL 5 [nmE rS, numE 0])])
def posE : Ex := binE 12 (ofL 5 [nmE nS, numE 0])
def sleepS (p : Int) : St := stS 10 [] (ofL 5 [numE p]) slNil
def waitS (p : Int) : St := stS 3 [] (ofL 5 [posE]) (ofL 8 [sleepS p])
def incS (s : List UInt8) : St := stS 2 s (ofL 5 [binE 3 (ofL 5 [nmE s, numE 1])]) slNil
def tryS (es : Sl Ex) (proc : List UInt8) : St := stS 14 rS (ofL 5 [zeroE, zeroE]) (ofL 8 [stS 16 proc es slNil])
def loopS (es : Sl Ex) (proc : List UInt8) (n p : Int) : St := stS 4 [] (ofL 5 [againE n]) (ofL 8 [waitS p, tryS es proc, incS nS])
def retPr (es : Sl Ex) (ps : Sl (List UInt8)) (name proc : List UInt8) (n p : Int) : Pr := prT name ps (ofL 8 [stS 1 nS (ofL 5 [numE 0]) slNil, stS 1 rS (ofL 5 [numE 1]) slNil, loopS es proc n p, leaveS])
def retI (name proc : List UInt8) (n p : Int) : Int := if (nameB name && nameB proc) = true then (if 1 ≤ n ∧ n ≤ 100 ∧ 0 ≤ p ∧ p ≤ 1099511627776 then 0 else 2) else 5
set_option maxHeartbeats 4000000 in
theorem e19 (name proc : List UInt8) (n p : Int) : W.pure 19 [.str name, .str proc, I n, I p] = some (.tuple [Sl.av Pr.av 5 (if retI name proc n p = 0 then ofL 5 [retPr slNil slNil name proc n p] else slNil), I (retI name proc n p)]) := by
 rw [W_pure Φ19 rfl]
 have c1 := e40 name 0 (by omega)
 have c2 := e56 proc
 have hnb : namedB name 0 = nameB name := by simp [namedB]
 rw [hnb] at c1
 simp only [Int.natCast_zero, Int.cast_ofNat_Int] at c1
 unfold retI
 cases h1 : nameB name with
 | false => rw [h1] at c1; simp [fi19, c19, evFun, enterFr, intBin, resV, rvVs, rvV, c1]; rfl
 | true =>
 rw [h1] at c1
 cases h2 : nameB proc with
 | false => rw [h2] at c2; simp [fi19, c19, evFun, enterFr, intBin, resV, rvVs, rvV, c1, c2]; rfl
 | true =>
 rw [h2] at c2
 by_cases h3 : n < 1
 ·have h' : ¬ (1 ≤ n ∧ n ≤ 100 ∧ 0 ≤ p ∧ p ≤ 1099511627776) := by omega
  simp [fi19, c19, evFun, enterFr, intBin, resV, rvVs, rvV, c1, c2, h3, h']; rfl
 by_cases h4 : 100 < n
 ·have h' : ¬ (1 ≤ n ∧ n ≤ 100 ∧ 0 ≤ p ∧ p ≤ 1099511627776) := by omega
  simp [fi19, c19, evFun, enterFr, intBin, resV, rvVs, rvV, c1, c2, h3, h4, h']; rfl
 by_cases h5 : p < 0
 ·have h' : ¬ (1 ≤ n ∧ n ≤ 100 ∧ 0 ≤ p ∧ p ≤ 1099511627776) := by omega
  simp [fi19, c19, evFun, enterFr, intBin, resV, rvVs, rvV, c1, c2, h3, h4, h5, h']; rfl
 by_cases h6 : 1099511627776 < p
 ·have h' : ¬ (1 ≤ n ∧ n ≤ 100 ∧ 0 ≤ p ∧ p ≤ 1099511627776) := by omega
  simp [fi19, c19, evFun, enterFr, intBin, resV, rvVs, rvV, c1, c2, h3, h4, h5, h6, h']; rfl
 have h' : 1 ≤ n ∧ n ≤ 100 ∧ 0 ≤ p ∧ p ≤ 1099511627776 := by omega
 have d1 := e60 nS
 have d2 := e60 rS
 have d3 := e57 n
 have d4 := e61 10 (ofL 5 [nmE nS, numE n])
 have d5 := e57 0
 have d6 := e61 9 (ofL 5 [nmE rS, numE 0])
 have d7 := e61 14 (ofL 5 [binE 10 (ofL 5 [nmE nS, numE n]), binE 9 (ofL 5 [nmE rS, numE 0])])
 have d8 := e61 12 (ofL 5 [nmE nS, numE 0])
 have d9 := e53 3 [] (ofL 5 [posE])
 have d10 := e57 p
 have d11 := e53 10 [] (ofL 5 [numE p])
 have d12 := e62 3 [] (ofL 5 [posE]) (ofL 8 [sleepS p])
 have d13 := e53 4 [] (ofL 5 [againE n])
 have d14 := e42 proc slNil
 have d15 := e44g rS zeroE (ofL 8 [stS 16 proc slNil slNil])
 have d16 := e63 nS
 have d17 := e62 4 [] (ofL 5 [againE n]) (ofL 8 [waitS p, tryS slNil proc, incS nS])
 have d18 := e57 1
 have d19 := e53 1 nS (ofL 5 [numE 0])
 have d20 := e53 1 rS (ofL 5 [numE 1])
 have d21 := e45
 have b1 : binE 14 (ofL 5 [binE 10 (ofL 5 [nmE nS, numE n]), binE 9 (ofL 5 [nmE rS, numE 0])]) = againE n := rfl
 have b2 : binE 12 (ofL 5 [nmE nS, numE 0]) = posE := rfl
 have b3 : stS 10 [] (ofL 5 [numE p]) slNil = sleepS p := rfl
 have b4 : stS 3 [] (ofL 5 [posE]) (ofL 8 [sleepS p]) = waitS p := rfl
 have b5 : stS 14 rS (ofL 5 [zeroE, zeroE]) (ofL 8 [stS 16 proc slNil slNil]) = tryS slNil proc := rfl
 have b6 : stS 2 nS (ofL 5 [binE 3 (ofL 5 [nmE nS, numE 1])]) slNil = incS nS := rfl
 have b7 : stS 4 [] (ofL 5 [againE n]) (ofL 8 [waitS p, tryS slNil proc, incS nS]) = loopS slNil proc n p := rfl
 have b8 : stS 6 [] (ofL 5 [nmE rS]) slNil = leaveS := rfl
 rw [b1] at d7
 rw [b2] at d8
 rw [b3] at d11
 rw [b4] at d12
 rw [b5] at d15
 rw [b6] at d16
 rw [b7] at d17
 rw [b8] at d21
 have k1 := call43 name [.arr 0 5 false [(nmE nS).av], .arr 0 5 false [(nmE rS).av], .arr 0 5 false [(againE n).av], .arr 0 8 false [(waitS p).av], .arr 0 8 false [(loopS slNil proc n p).av]]
 have k2 := call103 name (by have := nameB_len h1; omega) 0 (by omega) slNil (ofL 8 [stS 1 nS (ofL 5 [numE 0]) slNil, stS 1 rS (ofL 5 [numE 1]) slNil, loopS slNil proc n p, leaveS]) 5 [.arr 0 5 false [(nmE nS).av], .arr 0 5 false [(nmE rS).av], .arr 0 5 false [(againE n).av], .arr 0 8 false [(waitS p).av], .arr 0 8 false [(loopS slNil proc n p).av], .arr 0 1 false [.str name]] rfl
 have z0 : (Sl.av Ex.av 5 slNil : AV) = .isl (some true) 0 [] := rfl
 have z2 : (Sl.av AV.str 1 slNil : AV) = .isl (some true) 0 [] := rfl
 rw [z0] at d14
 rw [z2] at k2
 have n1 : ([110, 95] : List UInt8) = nS := rfl
 have n2 : ([114, 95] : List UInt8) = rS := rfl
 simp only [Int.natCast_zero, if_true, Int.cast_ofNat_Int] at k2
 simp at k1
 simp [fi19, c19, evFun, enterFr, intBin, resV, rvVs, rvV, c1, c2, h3, h4, h5, h6, h', n1, n2, d1, d2, d3, d4, d5, d6, d7, d8, d9, d10, d11, d12, d13, d14, zE, d15, d16, d17, d18, d19, d20, d21, k1, k2, zE1, zE2, zS1, zS3, zS4, zP1, retPr]
end Go.Proofs.YtddpboiceemihaaGreatDoor
end
section
namespace Go.Proofs.YtddpboiceemihaaGreatDoor
open Go Go.RowKit
set_option linter.unusedVariables false
set_option linter.unusedSimpArgs false
set_option maxRecDepth 10000
def getS (op : Int) (sem : List UInt8) : St := stO 19 op sem (ofL 5 [numE 1])
theorem zO (k op : Int) (s : List UInt8) (es : Sl Ex) : (.agg [I k, I op, .str s, .isl (some true) 0 [], Sl.av Ex.av 5 es, .isl (some true) 0 [], .isl (some true) 0 [], .isl (some true) 0 []] : AV) = (stO k op s es).av := by
 unfold stO; rw [St.av_eq]; rfl
theorem call69 (op : Int) (sem : List UInt8) (id : Nat) (H : Heap) (h : H[id]? = some (.arr 0 1 false [.str sem])) : W.call (.clo 69 [] [.optr id 0 0 0]) [I op] H = some ((getS op sem).av, H ++ [.arr 0 8 false [(getS op sem).av]]) := by
 rw [W_call Φ69]
 have d1 := e57 1
 have p1 : ∀ B, (H ++ [B])[id]? = some (.arr 0 1 false [.str sem]) := app_get h
 simp [fi69, c69, evFun, enterFr, intBin, resV, rvVs, rvV, d1, zE1, zO, h, p1, app_last, getS, -getElem?_pos, gEz]
def workPr (name proc sem : List UInt8) : Pr := prT (hS name 1) (ofL 1 [iS]) (ofL 8 [getS 60 sem, stS 18 (hS name 2) slNil slNil, stS 14 [] (ofL 5 [zeroE, zeroE]) (ofL 8 [stS 16 proc (ofL 5 [nmE iS]) slNil])])
def freePr (name sem : List UInt8) : Pr := Pr.mk 3 (hS name 2) slNil 0 (ofL 8 [getS 62 sem])
def limPrs (ps : Sl (List UInt8)) (name proc sem : List UInt8) (n : Int) : List Pr := [eachPr ps name (hS name 1) n, workPr name proc sem, freePr name sem]
def limI (name proc sem : List UInt8) (n : Int) : Int := if (namedB name 2 && nameB proc && nameB sem) = true then (if 0 ≤ n ∧ n ≤ 15 then 0 else 2) else 5
set_option maxHeartbeats 4000000 in
theorem e23 (name proc sem : List UInt8) (n : Int) : W.pure 23 [.str name, .str proc, .str sem, I n] = some (.tuple [Sl.av Pr.av 5 (if limI name proc sem n = 0 then ofL 5 (limPrs slNil name proc sem n) else slNil), I (limI name proc sem n)]) := by
 rw [W_pure Φ23 rfl]
 have c1 := e40 name 2 (by omega)
 have c2 := e56 proc
 have c3 := e56 sem
 simp only [Int.cast_ofNat_Int] at c1
 unfold limI
 cases h1 : namedB name 2 with
 | false => rw [h1] at c1; simp [fi23, c23, evFun, enterFr, intBin, resV, rvVs, rvV, c1]; rfl
 | true =>
 rw [h1] at c1
 cases h2 : nameB proc with
 | false => rw [h2] at c2; simp [fi23, c23, evFun, enterFr, intBin, resV, rvVs, rvV, c1, c2]; rfl
 | true =>
 rw [h2] at c2
 cases h3 : nameB sem with
 | false => rw [h3] at c3; simp [fi23, c23, evFun, enterFr, intBin, resV, rvVs, rvV, c1, c2, c3]; rfl
 | true =>
 rw [h3] at c3
 by_cases h4 : n < 0
 ·have h' : ¬ (0 ≤ n ∧ n ≤ 15) := by omega
  simp [fi23, c23, evFun, enterFr, intBin, resV, rvVs, rvV, c1, c2, c3, h4, h']; rfl
 by_cases h5 : 16 ≤ n
 ·have h' : ¬ (0 ≤ n ∧ n ≤ 15) := by omega
  simp [fi23, c23, evFun, enterFr, intBin, resV, rvVs, rvV, c1, c2, c3, h4, h5, h']; rfl
 have h' : 0 ≤ n ∧ n ≤ 15 := by omega
 have hnb : nameB name = true := by simp [namedB] at h1; exact h1.1
 have hn : name.length ≤ 1000 := by have := nameB_len hnb; omega
 have k1 := call43 name [.arr 0 1 false [.str sem]]
 have d1 := e52 name hn 1 (by omega)
 have d2 := e52 name hn 2 (by omega)
 have d3 := e67 (hS name 1) n
 have d4 := e45
 have k2 := call103 name hn 0 (by omega) slNil (ofL 8 [cntSt (hS name 1) n, leaveS]) 1 [.arr 0 1 false [.str sem], .arr 0 1 false [.str name]] rfl
 have b8 : stS 6 [] (ofL 5 [nmE rS]) slNil = leaveS := rfl
 rw [b8] at d4
 simp only [Int.natCast_zero, if_true, Int.cast_ofNat_Int] at k2
 have b1 : prT name slNil (ofL 8 [cntSt (hS name 1) n, leaveS]) = eachPr slNil name (hS name 1) n := rfl
 rw [b1] at k2
 generalize hP1 : Blk.arr 0 5 false [(eachPr slNil name (hS name 1) n).av] = P1 at k2
 have k3 := call69 60 sem 0 [.arr 0 1 false [.str sem], .arr 0 1 false [.str name], P1, P1, P1] rfl
 have d5 := e53 18 (hS name 2) slNil
 have d6 := e60 iS
 have d7 := e42 proc (ofL 5 [nmE iS])
 have d8 := e44g [] zeroE (ofL 8 [stS 16 proc (ofL 5 [nmE iS]) slNil])
 have k4 := call103 name hn 1 (by omega) (ofL 1 [iS]) (ofL 8 [getS 60 sem, stS 18 (hS name 2) slNil slNil, stS 14 [] (ofL 5 [zeroE, zeroE]) (ofL 8 [stS 16 proc (ofL 5 [nmE iS]) slNil])]) 1 [.arr 0 1 false [.str sem], .arr 0 1 false [.str name], P1, P1, P1, .arr 0 8 false [(getS 60 sem).av]] rfl
 rw [if_neg (by omega)] at k4
 have b2 : prT (hS name 1) (ofL 1 [iS]) (ofL 8 [getS 60 sem, stS 18 (hS name 2) slNil slNil, stS 14 [] (ofL 5 [zeroE, zeroE]) (ofL 8 [stS 16 proc (ofL 5 [nmE iS]) slNil])]) = workPr name proc sem := rfl
 rw [b2] at k4
 generalize hP2 : Blk.arr 0 5 false [(workPr name proc sem).av] = P2 at k4
 have k5 := call69 62 sem 0 [.arr 0 1 false [.str sem], .arr 0 1 false [.str name], P1, P1, P1, .arr 0 8 false [(getS 60 sem).av], P2, P2, P2] rfl
 have k6 := call103 name hn 2 (by omega) slNil (ofL 8 [getS 62 sem]) 1 [.arr 0 1 false [.str sem], .arr 0 1 false [.str name], P1, P1, P1, .arr 0 8 false [(getS 60 sem).av], P2, P2, P2, .arr 0 8 false [(getS 62 sem).av]] rfl
 rw [if_neg (by omega)] at k6
 subst hP1
 subst hP2
 have z0 : (Sl.av Ex.av 5 slNil : AV) = .isl (some true) 0 [] := rfl
 have z2 : (Sl.av AV.str 1 slNil : AV) = .isl (some true) 0 [] := rfl
 have z3 : (.isl (some false) 1 [.str iS] : AV) = Sl.av AV.str 1 (ofL 1 [iS]) := rfl
 rw [z0] at d5
 rw [z2] at k2 k6
 have n3 : ([105, 95] : List UInt8) = iS := rfl
 simp only [Int.cast_ofNat_Int] at d1 d2 k4 k6
 simp at k1 k2 k3 k4 k5 k6
 simp [fi23, c23, evFun, enterFr, intBin, resV, rvVs, rvV, c1, c2, c3, h4, h5, h', n3, z3, k1, d1, d3, d4, zS2, k2, k3, d2, d5, d6, zE1, d7, zS1, zE, d8, zS3, k4, k5, k6, zP3, limPrs, freePr]
 rfl
end Go.Proofs.YtddpboiceemihaaGreatDoor
end
section
namespace Go.Proofs.YtddpboiceemihaaGreatDoor
open Go Go.RowKit
set_option linter.unusedVariables false
set_option linter.unusedSimpArgs false
set_option maxRecDepth 10000
theorem zF (k : Int) (s : List UInt8) (b : Sl St) : (.agg [I k, .str s, .isl (some true) 0 [], I 0, Sl.av St.av 8 b] : AV) = (Pr.mk k s slNil 0 b).av := rfl
def firstS (l : List (List UInt8)) : List UInt8 := match l with | [] => [] | a :: _ => a
theorem e16 (o : Or) : W.pure 16 [o.av] = some (.str (firstS o.procs.l)) := by
 rw [W_pure Φ16 rfl]
 cases h : o.procs.l with
 | nil => simp [fi16, c16, evFun, enterFr, intBin, resV, rvVs, rvV, h, firstS]
 | cons a r =>
  have h1 : ¬ ((r.length : Int) + 1 = 0) := by omega
  simp [fi16, c16, evFun, enterFr, intBin, resV, rvVs, rvV, h, h1, firstS]
theorem leave_same : leaveS.eqv leaveS = true := eqv_stS _ _ _ _ _ _ (by simp [all2, sameEx_nm rS_nm]) (by simp [St.eqvs])
end Go.Proofs.YtddpboiceemihaaGreatDoor
end
