/-
  slices.Collect of the statements, and syntax.Statements (conditions: none). CombinatorMore: plain facts (conditions: none). CombinatorMore: the law as a plain fact (conditions: none). CombinatorMore: the law as a plain fact (conditions: none).
-/
import Derived.Test.YtddpboiceemihaaGreatDoorBBs
import Derived.Test.YtddpboiceemihaaGreatDoorACs
import Derived.Test.YtddpboiceemihaaGreatDoorCCs
import Derived.Test.YtddpboiceemihaaGreatDoorBEs
section
namespace Go.Proofs.YtddpboiceemihaaGreatDoor
open Go Go.RowKit
set_option linter.unusedVariables false
set_option linter.unusedSimpArgs false
set_option maxRecDepth 10000
def OwnT (H : Heap) (v : AV) (l : List St) (n : Nat) : Prop :=
 (v = .isl (some true) 0 [] ∧ l = []) ∨ ∃ id ver, n ≤ id ∧ v = .osl id ver 0 l.length ∧ l ≠ [] ∧ H[id]? = some (.arr ver 8 false (l.map St.av))
theorem OwnT.okO {H : Heap} {v : AV} {l : List St} {n : Nat} (h : OwnT H v l n) : okO v = some v := by
 rcases h with ⟨rfl, _⟩ | ⟨id, ver, _, rfl, _⟩ <;> rfl
theorem OwnT.cells {H : Heap} {v : AV} {l : List St} {n : Nat} (h : OwnT H v l n) : v.cells = [v] := by
 rcases h with ⟨rfl, _⟩ | ⟨id, ver, _, rfl, _⟩ <;> rfl
theorem OwnT.len {H : Heap} {v : AV} {l : List St} {n : Nat} (h : OwnT H v l n) : lenV false v = I l.length := by
 rcases h with ⟨rfl, rfl⟩ | ⟨id, ver, _, rfl, _⟩ <;> rfl
theorem OwnT.kept {H H' : Heap} {v : AV} {l : List St} {n : Nat} (h : OwnT H v l n) (hk : ∀ (j : Nat) (B : Blk), n ≤ j → H[j]? = some B → H'[j]? = some B) : OwnT H' v l n := by
 rcases h with ⟨rfl, h2⟩ | ⟨id, ver, h1, h2, h3, h4⟩
 ·exact .inl ⟨rfl, h2⟩
 ·exact .inr ⟨id, ver, h1, h2, h3, hk _ _ h1 h4⟩
def stZ : St := St.of 0 0 [] slNil slNil slNil slNil slNil
theorem OwnT.push {H : Heap} {v : AV} {l : List St} {n : Nat} (h : OwnT H v l n) (hn : n ≤ H.length) (hr : l.length < appRoom) :
  ∃ id ver H', ex H (.app 8) [v, .isl (some false) 8 [stZ.av]] = some (.osl id ver 0 (l.length + 1), H') ∧ n ≤ id ∧ H'[id]? = some (.arr ver 8 false ((l ++ [stZ]).map St.av)) ∧ H.length ≤ H'.length ∧
   (∀ j, j ≠ id → j < H.length → H'[j]? = H[j]?) ∧ ((v = .isl (some true) 0 [] ∧ id = H.length) ∨ ∃ ver len, v = .osl id ver 0 len) := by
 have e0 : ex H (.app 8) [v, .isl (some false) 8 [stZ.av]] = exApp (truncH H v) 8 v [stZ.av] := by simp [ex]
 rw [e0]
 rcases h with ⟨rfl, rfl⟩ | ⟨id, ver, h1, rfl, h3, h4⟩
 ·refine ⟨H.length, 0, H ++ [.arr 0 8 false [stZ.av]], ?_, hn, by simp, by simp, fun j _ hj => by rw [gEa (by omega)], .inl ⟨rfl, rfl⟩⟩
  simp [exApp, truncH, appRoom]
 ·have hid := (gEs.1 h4).1
  have ht : truncH H (.osl id ver 0 l.length) = H := by simp [truncH, h4]
  rw [ht]
  refine ⟨id, ver + 1, H.set id (.arr (ver + 1) 8 false (l.map St.av ++ [stZ.av])), ?_, h1, ?_, by simp, fun j hj _ => by rw [gEn (by omega)], .inr ⟨_, _, rfl⟩⟩
  ·simp only [exApp, h4]
   rw [if_pos (by simp), if_pos (by simp; omega)]
   simp
  ·rw [gEt hid]; simp
def ownT (jb : Nat) (H : Heap) : Option Nat := match H[jb]? with | some (.arr 0 1 false [.osl i _ _ _]) => some i | _ => none
def KeptO (jb : Nat) (H H' : Heap) : Prop := H.length ≤ H'.length ∧ ∀ (j : Nat) (es : List AV), ownT jb H ≠ some j → H[j]? = some (.arr 0 8 false es) → H'[j]? = some (.arr 0 8 false es) ∧ ownT jb H' ≠ some j
def K114 (jb : Nat) (st : LoopState) (pe : Option LX) : Blk := .loop st pe [(2, .optr jb 0 0 0), (4, .isl (some true) 0 [])] [7] ra114_0 rb114_0
def P114 (jb id : Nat) (s : List St) (H : Heap) : Prop := H[id]? = some (K114 jb .ready none) ∧ ∃ v, H[jb]? = some (.arr 0 1 false [v]) ∧ OwnT H v s (id + 1)
theorem ownT_app {jb : Nat} {H : Heap} {v : AV} (h : H[jb]? = some (.arr 0 1 false [v])) (B : Blk) : ownT jb (H ++ [B]) = ownT jb H := by
 unfold ownT; rw [app_get h B, h]
theorem kOk114 (jb id : Nat) : KOk (P114 jb id) (KeptO jb) where
 refl := fun H => ⟨Nat.le_refl _, fun j es h1 h2 => ⟨h2, h1⟩⟩
 trans := fun A B C h1 h2 => ⟨Nat.le_trans h1.1 h2.1, fun j es h3 h4 => by
  obtain ⟨h5, h6⟩ := h1.2 j es h3 h4
  exact h2.2 j es h6 h5⟩
 app := fun s H B hp => by
  obtain ⟨h1, v, h2, h3⟩ := hp
  exact ⟨by simp, fun j es h4 h5 => ⟨app_get h5 B, by rw [ownT_app h2]; exact h4⟩⟩
 box := fun s H H' es hp hk => by
  obtain ⟨h1, v, h2, h3⟩ := hp
  refine (hk.2 H.length es ?_ (app_last _ _)).1
  rw [ownT_app h2]
  unfold ownT
  rw [h2]
  rcases h3 with ⟨rfl, _⟩ | ⟨i, ver, _, rfl, _, h4⟩
  ·simp
  ·have := (gEs.1 h4).1
   simp only [ne_eq, Option.some.injEq]
   omega
theorem round114 (jb id : Nat) (hj : jb < id) (x : St) (s : List St) (H : Heap) (hg : s.length < 1000000) (hp : P114 jb id s H) :
  okV (W.call (.yld id) [x.av] H) (fun v H' => yieldK (KeptO jb) (P114 jb id) (fun (_ : Unit) _ => False) (.inl (s ++ [x])) H v H' ∧ ∀ (k : Nat) (es : List AV), id + 1 ≤ k → H[k]? = some (.arr 0 1 false es) → H'[k]? = some (.arr 0 1 false es)) := by
 obtain ⟨h1, v, h2, h3⟩ := hp
 have hl := (gEs.1 h1).1
 rw [W_yld, evRound_open h1 rfl]
 have a1 : (H ++ [Blk.arr 0 8 false [x.av]])[id]? = some (K114 jb .ready none) := app_get h1 _
 have a2 : (H ++ [Blk.arr 0 8 false [x.av]])[H.length]? = some (.arr 0 8 false [x.av]) := app_last _ _
 have a3 : (H ++ [Blk.arr 0 8 false [x.av]])[jb]? = some (.arr 0 1 false [v]) := app_get h2 _
 have b1 : ∀ B, ((H ++ [Blk.arr 0 8 false [x.av]]).set id B)[id]? = some B := fun B => gEt (by simp; omega)
 have b2 : ∀ B, ((H ++ [Blk.arr 0 8 false [x.av]]).set id B)[H.length]? = some (.arr 0 8 false [x.av]) := fun B => by rw [gEn (by omega)]; exact a2
 have b3 : ∀ B, ((H ++ [Blk.arr 0 8 false [x.av]]).set id B)[jb]? = some (.arr 0 1 false [v]) := fun B => by rw [gEn (by omega)]; exact a3
 have hlen : ∀ B, ((H ++ [Blk.arr 0 8 false [x.av]]).set id B).length = H.length + 1 := fun B => by simp
 have o0 : ∀ B, OwnT ((H ++ [Blk.arr 0 8 false [x.av]]).set id B) v s (id + 1) := fun B => h3.kept (fun j C hj hC => by rw [gEn (by omega)]; exact app_get hC _)
 obtain ⟨i, ver, H', e1, e2, e3, e4, e5, e6⟩ := (o0 (K114 jb .busy none)).push (by rw [hlen]; omega) (by simp [appRoom]; omega)
 rw [hlen] at e4 e5
 have hile : i ≤ H.length + 1 ∧ i ≠ H.length := by
  constructor
  ·rcases e6 with ⟨_, h⟩ | ⟨u, w, h⟩
   ·rw [h, hlen]; exact Nat.le_refl _
   ·rcases h3 with ⟨h7, _⟩ | ⟨i', ver', _, h7, _, h8⟩
    ·rw [h7] at h; cases h
    ·rw [h7] at h; cases h
     have := (gEs.1 h8).1; omega
  ·rcases e6 with ⟨_, h⟩ | ⟨u, w, h⟩
   ·rw [hlen] at h; omega
   ·rcases h3 with ⟨h7, _⟩ | ⟨i', ver', _, h7, _, h8⟩
    ·rw [h7] at h; cases h
    ·rw [h7] at h; cases h
     have := (gEs.1 h8).1; omega
 have g1 : H'[jb]? = some (.arr 0 1 false [v]) := by rw [e5 jb (by omega) (by omega)]; exact b3 _
 have g2 : H'[H.length]? = some (.arr 0 8 false [x.av]) := by rw [e5 H.length (by omega) (by omega)]; exact b2 _
 have g3 : H'[id]? = some (K114 jb .busy none) := by rw [e5 id (by omega) (by omega)]; exact b1 _
 have hii := (gEs.1 e3).1
 have hsz : s.length < (s ++ [stZ]).length := by simp
 have hset : ((s ++ [stZ])[s.length]?) = some stZ := by simp
 have hset2 : (s ++ [stZ]).set s.length x = s ++ [x] := by rw [List.set_append, if_neg (by omega)]; simp
 have u1 : ∀ B, (H'.set i B)[jb]? = some (.arr 0 1 false [v]) := fun B => by rw [gEn (by omega)]; exact g1
 have u2 : ∀ B, (H'.set i B)[id]? = some (K114 jb .busy none) := fun B => by rw [gEn (by omega)]; exact g3
 have u3 : ∀ B C, ((H'.set i B).set jb C)[id]? = some (K114 jb .busy none) := fun B C => by rw [gEn (by omega)]; exact u2 B
 have s1 := setElem_one h3.cells (v := .osl i ver 0 (s.length + 1)) rfl rfl
 have hz : (.agg [I 0, I 0, .str [], .isl (some true) 0 [], .isl (some true) 0 [], .isl (some true) 0 [], .isl (some true) 0 [], .isl (some true) 0 []] : AV) = stZ.av := by rw [St.av_eq]; rfl
 have hlt : (s.length : Int) < (s.length : Int) + 1 := by omega
 have x1 : apart (.optr jb 0 0 0) (.osl i ver 0 (s.length + 1)) = true := by simp [apart]; omega
 have x2 : apart (.optr jb 0 0 0) (.optr i ver s.length 0) = true := by simp [apart]; omega
 simp only [K114] at *
 simp [putAll, evra114_0, xra114_0, evrb114_0, xrb114_0, intBin, hlt, x1, x2, a1, a2, b1, b2, b3, hz, h3.okO, h3.cells, h3.len, e1, e3, g1, g2, g3, hset, hset2, u1, u2, u3, s1, app_last, -getElem?_pos, gEz, -List.append_assoc, -List.map_append]
 have hjl := (gEs.1 h2).1
 have hF : ∀ (X Y Z : Blk) (j : Nat), j ≠ i → j ≠ jb → j ≠ id → (((H'.set i X).set jb Y).set id Z)[j]? = H'[j]? := fun X Y Z j q1 q2 q3 => by
  rw [gEn (fun e => q3 e.symm), gEn (fun e => q2 e.symm), gEn (fun e => q1 e.symm)]
 have hB : ∀ (j : Nat) (B : Blk), j ≠ i → j ≠ id → H[j]? = some B → H'[j]? = some B := fun j B q1 q3 q4 => by
  have := (gEs.1 q4).1
  rw [e5 j q1 (by omega), gEn (fun e => q3 e.symm)]
  exact app_get q4 _
 have hJ : ∀ (X Y Z : Blk), (((H'.set i X).set jb Y).set id Z)[jb]? = some Y := fun X Y Z => by
  rw [gEn (by omega), gEt (by simp; omega)]
 have hI : ∀ (X Y Z : Blk), (((H'.set i X).set jb Y).set id Z)[i]? = some X := fun X Y Z => by
  rw [gEn (by omega), gEn (by omega), gEt hii]
 have hD : ∀ (X Y Z : Blk), (((H'.set i X).set jb Y).set id Z)[id]? = some Z := fun X Y Z => by
  rw [gEt (by simp; omega)]
 refine ⟨⟨⟨by simp; omega, fun j es h7 h8 => ?_⟩, rfl, hD _ _ _, _, hJ _ _ _, .inr ⟨i, ver, e2, by simp, by simp, hI _ _ _⟩⟩, fun k es hk h8 => ?_⟩
 ·have hj8 := (gEs.1 h8).1
  have q1 : j ≠ i := by
   rintro rfl
   rcases e6 with ⟨_, h⟩ | ⟨u, w, h⟩
   ·rw [hlen] at h; omega
   ·refine h7 ?_
    unfold ownT
    rw [h2, h]
    rfl
  have q2 : j ≠ jb := by
   rintro rfl
   rw [h2] at h8
   injection h8 with h9
   injection h9 with _ h10
   omega
  have q3 : j ≠ id := by
   rintro rfl
   rw [h1] at h8
   cases h8
  refine ⟨by rw [hF _ _ _ j q1 q2 q3]; exact hB j _ q1 q3 h8, ?_⟩
  unfold ownT
  rw [hJ]
  simp only [ne_eq, Option.some.injEq]
  exact fun e => q1 e.symm
 ·have hk8 := (gEs.1 h8).1
  have q1 : k ≠ i := by
   rintro rfl
   rcases e6 with ⟨_, h⟩ | ⟨u, w, h⟩
   ·rw [hlen] at h; omega
   ·rcases h3 with ⟨h7, _⟩ | ⟨i', ver', _, h7, _, h9⟩
    ·rw [h7] at h; cases h
    ·rw [h7] at h
     cases h
     rw [h9] at h8
     injection h8 with h10
     injection h10 with _ h11
     omega
  rw [hF _ _ _ k q1 (by omega) (by omega)]
  exact hB k _ q1 (by omega) h8
theorem runT (l : List St) (s : List St) : runS (ρ := Unit) (fun x s => .inl (s ++ [x])) l s = .inl (s ++ l) := by
 induction l generalizing s with
 | nil => simp [runS]
 | cons a r ih => simp only [runS, ih, List.append_assoc, List.cons_append, List.nil_append]
theorem runGT : ∀ (l s : List St), s.length + l.length < 1000000 → runG (ρ := Unit) (fun s : List St => s.length < 1000000) (fun x s => .inl (s ++ [x])) l s
 | [], s, h => trivial
 | x :: r, s, h => by
  simp only [List.length_cons] at h
  exact ⟨by omega, runGT r _ (by simp; omega)⟩
theorem call114 (l : Sl St) (hf : St.fines l.l) (hl : l.l.length ≤ 9223372036854775807) (hn : (St.pres l.l).length < 1000000) (b : Nat) (H : Heap) (hb : H[b]? = some (.arr 0 1 false [Sl.av St.av 8 l])) :
  okV (W.call (.clo 114 [] []) [.isl (some true) 0 [], .clo 115 [] [.optr b 0 0 0]] H) (fun v H' => OwnT H' v (St.pres l.l) 0) := by
 rw [W_call Φ114]
 have q0 : (H ++ [Blk.arr 0 1 false [.isl (some true) 0 []]] ++ [K114 H.length .ready none])[b]? = some (.arr 0 1 false [Sl.av St.av 8 l]) := app_get (app_get hb _) _
 have q1 : (H ++ [Blk.arr 0 1 false [.isl (some true) 0 []]] ++ [K114 H.length .ready none])[H.length + 1]? = some (K114 H.length .ready none) := by
  rw [List.append_assoc, List.getElem?_append_right (by omega)]; simp
 have q2 : (H ++ [Blk.arr 0 1 false [.isl (some true) 0 []]] ++ [K114 H.length .ready none])[H.length]? = some (.arr 0 1 false [.isl (some true) 0 []]) := by
  rw [List.append_assoc, List.getElem?_append_right (by omega)]; simp
 have hp := pre_ok (.yld (H.length + 1)) rfl rfl rfl (P114 H.length (H.length + 1)) (fun (_ : Unit) _ => False) (fun s => s.length < 1000000) (KeptO H.length) (fun x s => .inl (s ++ [x]))
  (by rintro s G B ⟨h1, v, h2, h3⟩; exact ⟨app_get h1 B, v, app_get h2 B, h3.kept (fun j C _ hC => app_get hC B)⟩) (kOk114 _ _) (H.length + 2)
  (fun x s G _ hg h => round114 H.length (H.length + 1) (by omega) x s G hg h) l hf hl b [] _ q0 (by simp) (runGT _ _ (by simpa using hn)) ⟨q1, _, q2, .inl ⟨rfl, rfl⟩⟩
 obtain ⟨v, H', e1, rfl, e2, e3⟩ := okV_iff.1 hp
 rw [runT] at e3
 simp only [List.nil_append] at e3
 obtain ⟨e3, w, e4, e5⟩ := e3
 have hl' := (gEs.1 e3).1
 simp only [K114] at e1 e3
 have s1 : ∀ B, (H'.set (H.length + 1) B)[H.length]? = some (.arr 0 1 false [w]) := fun B => by rw [gEn (by omega)]; exact e4
 have o1 : ∀ B, OwnT (H'.set (H.length + 1) B) w (St.pres l.l) 0 := fun B => by
  rcases e5 with ⟨h1, h2⟩ | ⟨i, ver, h1, h2, h3, h4⟩
  ·exact .inl ⟨h1, h2⟩
  ·exact .inr ⟨i, ver, by omega, h2, h3, by rw [gEn (by omega)]; exact h4⟩
 simp [fi114, c114, evFun, enterFr, intBin, resV, rvVs, rvV, e1, e3, rngEnd, s1, e5.okO, e5.cells, o1, app_last, -getElem?_pos, gEz, -List.append_assoc]
theorem call77 (l : Sl St) (hf : St.fines l.l) (hl : l.l.length ≤ 9223372036854775807) (hn : (St.pres l.l).length < 1000000) (b : Nat) (H : Heap) (hb : H[b]? = some (.arr 0 1 false [Sl.av St.av 8 l])) :
  okV (W.call (.clo 77 [] []) [.clo 115 [] [.optr b 0 0 0]] H) (fun v H' => OwnT H' v (St.pres l.l) 0) := by
 rw [W_call Φ77]
 obtain ⟨v, H', e1, e2⟩ := okV_iff.1 (call114 l hf hl hn b H hb)
 simp [fi77, c77, evFun, enterFr, intBin, resV, rvVs, rvV, e1, e2.okO, e2]
mutual
theorem St.pre_cost : ∀ x : St, x.pre.length ≤ x.cost
 | .mk a b c d e f g bl h i el j k cl => by
  have h1 := St.pres_cost bl
  have h2 := St.pres_cost el
  have h3 := Cs.pres_cost cl
  simp only [St.pre, St.cost, List.length_cons, List.length_append]; omega
theorem St.pres_cost : ∀ l : List St, (St.pres l).length ≤ St.costs l
 | [] => by simp [St.pres, St.costs]
 | x :: r => by
  have h1 := St.pre_cost x
  have h2 := St.pres_cost r
  simp only [St.pres, St.costs, List.length_append]; omega
theorem Cs.pre_cost : ∀ x : Cs, x.pre.length ≤ x.cost
 | .mk a b e ns f g bl => by
  have h1 := St.pres_cost bl
  simp only [Cs.pre, Cs.cost]; omega
theorem Cs.pres_cost : ∀ l : List Cs, (Cs.pres l).length ≤ Cs.costs l
 | [] => by simp [Cs.pres, Cs.costs]
 | x :: r => by
  have h1 := Cs.pre_cost x
  have h2 := Cs.pres_cost r
  simp only [Cs.pres, Cs.costs, List.length_append]; omega
end
def smtI (p : Pr) : Int := soCheck ⟨slNil, ofL 5 [p]⟩
def smtL (p : Pr) : Sl St := if smtI p = 0 ∧ St.pres p.body.l ≠ [] then ofL 8 (St.pres p.body.l) else slNil
theorem e30 (p : Pr) (hf : p.fine) : W.pure 30 [p.av] = some (.tuple [Sl.av St.av 8 (smtL p), I (smtI p)]) := by
 rw [W_pure Φ30 (by simp)]
 have c1 := e26 ⟨slNil, ofL 5 [p]⟩ ⟨by simp, by simp, fun q hq => by simp at hq; subst hq; exact hf⟩
 have hso : (.agg [.isl (some true) 0 [], .isl (some false) 5 [p.av]] : AV) = (⟨slNil, ofL 5 [p]⟩ : So).av := rfl
 have hdef : soCheck ⟨slNil, ofL 5 [p]⟩ = smtI p := rfl
 rw [hdef] at c1
 unfold smtL
 by_cases hz : smtI p = 0
 ·rw [hz] at c1
  have hcost : St.costs p.body.l ≤ 300 := by
   unfold smtI soCheck at hz
   split at hz
   ·cases hz
   ·rename_i h
    simp [Pr.cost] at h
    omega
  have hpl := St.pres_cost p.body.l
  have p1 := e78 p.body [.arr 0 5 false [p.av]]
  obtain ⟨v, H', d1, d2⟩ := okV_iff.1 (call77 p.body hf.1 hf.2.1 (by omega) 1 [.arr 0 5 false [p.av], .arr 0 1 false [Sl.av St.av 8 p.body]] rfl)
  have hfz : frz H' 7 v = some (Sl.av St.av 8 (if St.pres p.body.l = [] then slNil else ofL 8 (St.pres p.body.l))) := by
   rcases d2 with ⟨rfl, h2⟩ | ⟨i, ver, _, rfl, h3, h4⟩
   ·rw [if_pos h2]; rfl
   ·rw [if_neg h3]
    have hg : Grow H' 8 (some i) (.osl i ver 0 (St.pres p.body.l).length) ((St.pres p.body.l).map St.av) := ⟨ver, [], by simp, by simpa using h4⟩
    rw [hg.frz (n := 6) (by
     rw [List.all_eq_true]
     intro e he
     obtain ⟨q, _, rfl⟩ := List.mem_map.1 he
     simp)]
    simp [isl_sl]
  rw [hz]
  simp [fi30, c30, evFun, enterFr, intBin, resV, rvVs, rvV, hso, c1, p1, d1, d2.okO, -getElem?_pos, gEz]
  rw [hfz]; rfl
 ·simp [fi30, c30, evFun, enterFr, intBin, resV, rvVs, rvV, hso, c1, hz, -getElem?_pos, gEz]
  rfl
end Go.Proofs.YtddpboiceemihaaGreatDoor
end
section
namespace Go.Proofs.YtddpboiceemihaaGreatDoor
open Go Go.RowKit
set_option linter.unusedVariables false
set_option linter.unusedSimpArgs false
set_option maxRecDepth 10000
theorem sev_take {l : List (List UInt8)} {m : Nat} (h : sevI l = 0) (hm : 1 ≤ m) : sevI (l.take m) = 0 := by
 have hl := sev_zero h
 unfold sevI at h ⊢
 rw [if_neg hl.1, if_neg (by omega)] at h
 have hall : l.all nameB = true := by
  split at h
  ·assumption
  ·cases h
 have hne : l.take m ≠ [] := by
  intro e
  have := congrArg List.length e
  have h2 := List.length_pos_iff.2 hl.1
  rw [List.length_take, List.length_nil] at this; omega
 have hall2 : (l.take m).all nameB = true := by
  rw [List.all_eq_true] at hall ⊢
  exact fun s hs => hall s (List.mem_of_mem_take hs)
 rw [if_neg hne, if_neg (by rw [List.length_take]; omega), if_pos hall2]
theorem named_le {s : List UInt8} {n m : Nat} (h : namedB s n = true) (hm : m ≤ n) : namedB s m = true := by
 simp only [namedB, Bool.and_eq_true, List.all_eq_true, List.mem_range] at h ⊢
 exact ⟨h.1, fun i hi => h.2 i (by omega)⟩
theorem all_take {name : List UInt8} {l : List (List UInt8)} {m : Nat} (h : allI name l = 0) (hm : 1 ≤ m) : allI name (l.take m) = 0 := by
 unfold allI at h ⊢
 split at h
 ·rename_i hn; rw [if_pos hn]; exact sev_take h hm
 ·cases h
theorem race_take {name : List UInt8} {l : List (List UInt8)} {m : Nat} (h : raceI name l = 0) (hm : 1 ≤ m) : raceI name (l.take m) = 0 := by
 unfold raceI at h ⊢
 split at h
 ·rename_i hn
  rw [if_pos (named_le hn (by rw [List.length_take]; omega))]
  exact sev_take h hm
 ·cases h
def headP (name s0 : List UInt8) (ts : List (List UInt8)) (tl : List St) : Pr := prT name slNil (ofL 8 (stS 14 s0 (ofL 5 [zeroE, zeroE]) (ofL 8 (spawns slNil ts)) :: tl))
theorem pres_spawns (ts : List (List UInt8)) : St.pres (spawns slNil ts) = spawns slNil ts := by
 induction ts with
 | nil => simp [spawns, St.pres]
 | cons s r ih =>
  have h2 : spawns slNil (s :: r) = stS 16 s slNil slNil :: spawns slNil r := rfl
  rw [h2]
  simp only [St.pres, St.pre_eq, ih]
  simp [stS, St.pres, Cs.pres]
theorem head_pres (name s0 : List UInt8) (ts : List (List UInt8)) (tl : List St) (ht : St.pres tl = tl) :
  St.pres (headP name s0 ts tl).body.l = stS 14 s0 (ofL 5 [zeroE, zeroE]) (ofL 8 (spawns slNil ts)) :: (spawns slNil ts ++ tl) := by
 have h1 : (stS 14 s0 (ofL 5 [zeroE, zeroE]) (ofL 8 (spawns slNil ts))).pre = stS 14 s0 (ofL 5 [zeroE, zeroE]) (ofL 8 (spawns slNil ts)) :: spawns slNil ts := by
  rw [St.pre_eq]
  simp [stS, St.pres, Cs.pres, pres_spawns]
 simp only [headP, prT, ofL, St.pres, ht]
 simp only [ofL] at h1
 rw [h1]
 rfl
theorem leave_pres : St.pres [leaveS] = [leaveS] := by
 simp only [St.pres, St.pre_eq]
 simp [leaveS, stS, St.pres, Cs.pres]
theorem more_fewer (o : Or) (hk : o.kind = 0 ∨ o.kind = 1) (hz : madeI o = 0) (m : Nat) (hm : 1 ≤ m) (hm2 : m ≤ o.procs.l.length) :
  ∃ s0 ts tl, ts.length = o.procs.l.length ∧ ts.length ≤ 8 ∧ (tl = [] ∨ tl = [leaveS]) ∧ (∃ r, madeL o = headP o.name s0 ts tl :: r) ∧
   ∀ x : Sl (List UInt8), x.l = o.procs.l.take m → madeI { o with procs := x } = 0 ∧ ∃ r, madeL { o with procs := x } = headP o.name s0 (ts.take m) tl :: r := by
 rcases hk with hk | hk
 ·unfold madeI at hz
  rw [if_pos hk] at hz
  have hs : sevI o.procs.l = 0 := by
   unfold allI at hz; split at hz
   ·exact hz
   ·cases hz
  refine ⟨rS, o.procs.l, [leaveS], rfl, (sev_zero hs).2, .inr rfl, ⟨[], by unfold madeL; rw [if_pos hk]; rfl⟩, fun x hx => ⟨?_, [], ?_⟩⟩
  ·unfold madeI; rw [if_pos hk]; simp only [hx]; exact all_take hz hm
  ·unfold madeL; rw [if_pos hk]; simp only [hx]; rfl
 ·have hk0 : ¬ o.kind = 0 := by omega
  unfold madeI at hz
  rw [if_neg hk0, if_pos hk] at hz
  have hs : sevI o.procs.l = 0 := by
   unfold raceI at hz; split at hz
   ·exact hz
   ·cases hz
  refine ⟨[], hL o.name o.procs.l.length, [], hL_len _ _, by rw [hL_len]; exact (sev_zero hs).2, .inl rfl, ⟨hPrs slNil slNil o.name o.procs.l, by unfold madeL; rw [if_neg hk0, if_pos hk]; rfl⟩, fun x hx => ⟨?_, hPrs slNil slNil o.name x.l, ?_⟩⟩
  ·unfold madeI; rw [if_neg hk0, if_pos hk]; simp only [hx]; exact race_take hz hm
  ·have ht : (hL o.name o.procs.l.length).take m = hL o.name x.l.length := by
    rw [hx, List.length_take, Nat.min_eq_left hm2]
    unfold hL
    rw [← List.map_take, List.take_range, Nat.min_eq_left hm2]
   unfold madeL; rw [if_neg hk0, if_pos hk, ht]; rfl
end Go.Proofs.YtddpboiceemihaaGreatDoor
end
section
namespace Go.Proofs.YtddpboiceemihaaGreatDoor
open Go Go.RowKit
set_option linter.unusedVariables false
set_option linter.unusedSimpArgs false
set_option maxRecDepth 10000
theorem slc_str (x : Sl (List UInt8)) (k : Nat) (hk : k ≤ x.l.length) (G : Heap) : slcV G false 1 false true (Sl.av AV.str 1 x) [I k] = Sl.av AV.str 1 (x.part 1 0 k) := by
 have hc : (0 : Int) ≤ k ∧ (k : Int) ≤ x.l.length := by omega
 rw [sl_slc, slcB_ft, if_pos hc, slcR_some, Int.toNat_natCast]; exact sl_part 0 k hk
theorem cost_mem {p : Pr} : ∀ {l : List Pr}, p ∈ l → p.cost ≤ (l.map Pr.cost).sum
 | a :: r, h => by
  simp only [List.map_cons, List.sum_cons]
  rcases List.mem_cons.1 h with rfl | h
  ·omega
  ·have := cost_mem h; omega
def bare0 (s0 : List UInt8) : St := stS 14 s0 (ofL 5 [zeroE, zeroE]) slNil
theorem smt_head {name s0 : List UInt8} {ts : List (List UInt8)} {tl : List St} {l : List Pr} (h : MadeOk name l) (hp : headP name s0 ts tl ∈ l) (ht : tl = [] ∨ tl = [leaveS]) :
  smtI (headP name s0 ts tl) = 0 ∧ smtL (headP name s0 ts tl) = ofL 8 (stS 14 s0 (ofL 5 [zeroE, zeroE]) (ofL 8 (spawns slNil ts)) :: (spawns slNil ts ++ tl)) := by
 have h1 : smtI (headP name s0 ts tl) = 0 := by
  unfold smtI
  refine so_of (by simp) (by simp) ?_ ?_ rfl ?_
  ·have hc := h.cost
   have : (headP name s0 ts tl).cost ≤ (l.map Pr.cost).sum := cost_mem hp
   simp; omega
  ·intro p hq; simp at hq; subst hq; exact h.deps _ hp
  ·intro p hq; simp at hq; subst hq; exact h.ok _ hp
 have h2 : St.pres tl = tl := by
  rcases ht with rfl | rfl
  ·simp [St.pres]
  ·exact leave_pres
 refine ⟨h1, ?_⟩
 unfold smtL
 rw [head_pres _ _ _ _ h2, if_pos ⟨h1, by simp⟩]
theorem loop6 (A : List St) (M d la lb : Nat) (hA : 1 + M + d ≤ A.length) (hAl : A.length ≤ 1000) (h16 : ∀ (j : Nat) (x : St), A[1 + M + j]? = some x → j < d → x.kind = 16) :
  ∀ (i j : Nat) (H : Heap), i + j = d → H[2]? = some (.arr 0 8 false (A.map St.av)) →
  okC (W.loop [2, 7, 10, 12, 14, 150, 151, 152] l6_0 [(2, .optr 0 0 0 0), (7, .optr 1 0 0 0), (10, .osl 2 0 0 la), (12, .osl 3 0 0 lb), (14, I (1 + M : Nat)), (150, .osl 2 0 (1 + M) d), (151, I d), (152, I j)] H)
   (fun y F' H' => y = .exit 0 ∧ F'.keep [2, 7, 10, 12, 14] = [(2, .optr 0 0 0 0), (7, .optr 1 0 0 0), (10, .osl 2 0 0 la), (12, .osl 3 0 0 lb), (14, I (1 + M : Nat))] ∧ Kept none H H') := by
 intro i
 induction i with
 | zero =>
  intro j H h1 h2
  have hj : j = d := by omega
  subst hj
  rw [om_turn]
  simp [evl6_0, b6_0, intBin]
  exact Kept.refl _ _
 | succ i ih =>
  intro j H h1 h2
  have hlt : j < d := by omega
  have hlt' : (j : Int) < d := by omega
  obtain ⟨x, hx⟩ : ∃ x, A[1 + M + j]? = some x := ⟨_, gEg (by omega)⟩
  have hk := eq_true (h16 j x hx hlt)
  have hw : IntKind.wrap .i64 ((j : Int) + 1) = (j : Int) + 1 := by rw [wrap64] <;> omega
  have p2 : ∀ B, (H ++ [B])[2]? = some (.arr 0 8 false (A.map St.av)) := app_get h2
  have hJ := ih (j + 1) (H ++ [.arr 0 8 false [x.av]]) (by omega) (p2 _)
  simp only [Int.natCast_add, Int.cast_ofNat_Int] at hJ
  obtain ⟨y, F', H', g1, rfl, g2, g3⟩ := okC_iff.1 hJ
  have g4 : Kept none H H' := (Kept.append _ _ _).trans g3
  rw [om_turn]
  simp [evl6_0, b6_0, intBin, h2, p2, hlt, hlt', hx, hk, hw, g1, g4, app_last, -getElem?_pos, gEz]
  simpa using g2
theorem sts_cell (l : List St) : (l.map St.av).all (fun e => e.cells.all AV.cell) = true := by
 rw [List.all_eq_true]
 intro e he
 obtain ⟨p, _, rfl⟩ := List.mem_map.1 he
 simp
theorem sts_still (l : List St) : (l.map St.av).all (fun e => e.cells.all AV.still) = true := by
 rw [List.all_eq_true]
 intro e he
 obtain ⟨p, _, rfl⟩ := List.mem_map.1 he
 simp
theorem app_st (H : Heap) (A : List St) (h0 : 0 < A.length) (h1 : A.length ≤ 1000) :
  ex H (.app 8) [.emp, Sl.av St.av 8 (ofL 8 A)] = some (.osl H.length 0 0 A.length, H ++ [.arr 0 8 false (A.map St.av)]) := by
 have ht : truncH H .emp = H := rfl
 have hc := sts_cell A
 cases A with
 | nil => simp at h0
 | cons x r =>
  simp only [ex, sl_elems]
  rw [if_pos hc, ht]
  simp only [ofL, List.map_cons, exApp]
  rw [if_pos (by simp [appRoom] at *; omega)]
  simp
theorem nil_body (A : List St) (x : St) (r : List St) (h : A = x :: r) : setElem (A.map St.av) 0 5 (.isl (some true) 0 []) = some ((St.of x.kind x.op x.name x.names x.exprs slNil x.els x.cs :: r).map St.av) := by
 subst h
 have := St_stm_body (k := 0) (x :: r) slNil
 have h0 : (.isl (some true) 0 [] : AV) = Sl.av St.av 8 slNil := rfl
 rw [h0]
 simpa using this
theorem slc_osl (H : Heap) (id ver len lo hi : Nat) (l : List AV) (h : H[id]? = some (.arr ver 8 false l)) (h1 : lo ≤ hi) (h2 : hi ≤ len) :
  slcV H false 8 true true (.osl id ver 0 len) [I lo, I hi] = .osl id ver lo (hi - lo) := by
 have hc : (0 : Int) ≤ lo ∧ (lo : Int) ≤ hi ∧ (hi : Int) ≤ len := by omega
 simp [slcV, h, hc, h1, h2]
theorem slc_osl_to (H : Heap) (id ver len hi : Nat) (l : List AV) (h : H[id]? = some (.arr ver 8 false l)) (h2 : hi ≤ len) :
  slcV H false 8 false true (.osl id ver 0 len) [I hi] = .osl id ver 0 hi := by
 have hc : (0 : Int) ≤ hi ∧ (hi : Int) ≤ len := by omega
 simp [slcV, h, h2]
theorem slc_osl_from (H : Heap) (id ver len lo : Nat) (l : List AV) (h : H[id]? = some (.arr ver 8 false l)) (h2 : lo ≤ len) :
  slcV H false 8 true false (.osl id ver 0 len) [I lo] = .osl id ver lo (len - lo) := by
 have hc : (0 : Int) ≤ lo ∧ (lo : Int) ≤ len := by omega
 simp [slcV, h, h2]
theorem frz_osl (H : Heap) (id ver lo n : Nat) (A : List St) (h : H[id]? = some (.arr ver 8 false (A.map St.av))) (h1 : lo + n ≤ A.length) :
  frz H 8 (.osl id ver lo n) = some (Sl.av St.av 8 (ofL 8 ((A.drop lo).take n))) := by
 have hl : (((A.map St.av).drop lo).take n).all (fun e => e.cells.all AV.still) = true := by
  rw [← List.map_drop, ← List.map_take]; exact sts_still _
 simp only [frz, h]
 rw [if_pos ⟨trivial, by simpa using h1⟩, if_pos hl, ← isl_sl, List.map_take, List.map_drop]
end Go.Proofs.YtddpboiceemihaaGreatDoor
end
section
namespace Go.Proofs.YtddpboiceemihaaGreatDoor
open Go Go.RowKit
set_option linter.unusedVariables false
set_option linter.unusedSimpArgs false
set_option maxRecDepth 10000
theorem eqvs_bare (s0 : List UInt8) (l : List (List UInt8)) : St.eqvs (bare0 s0 :: spawns slNil l) (bare0 s0 :: spawns slNil l) = true := by
 rw [St.eqvs_all2]
 refine all2_rf fun x hx => ?_
 simp only [List.mem_cons, spawns, List.mem_map] at hx
 rcases hx with rfl | ⟨s, _, rfl⟩
 ·exact eqv_stS _ _ _ _ _ _ (by simp [all2, sameEx_zero]) (by simp [St.eqvs])
 ·exact eqv_stS _ _ _ _ _ _ (by simp [all2]) (by simp [St.eqvs])
theorem eqvs_tail {tl : List St} (h : tl = [] ∨ tl = [leaveS]) : St.eqvs tl tl = true := by
 rcases h with rfl | rfl
 ·simp [St.eqvs]
 ·simp [St.eqvs, leave_same]
theorem big_bare (s0 : List UInt8) (l : List (List UInt8)) (hl : l.length ≤ 1000) : St.bigs (bare0 s0 :: spawns slNil l) ≤ 1000000000 := by
 simp [St.bigs, bare0, stS_big, spawns_big, Ex.sizes, zeroE, Ex.size, Ex.of]; omega
def cutC : Nat → LC → LC
 | n + 1, .seq a b => .seq a (cutC n b)
 | 0, _ => .skip
 | _ + 1, x => x
def restC : Nat → LC → LC
 | n + 1, .seq _ b => restC n b
 | 0, x => x
 | _ + 1, _ => .skip
theorem ev_cut (R : Rec) : ∀ (n : Nat) (c : LC) (F : Fr) (H : Heap) (F1 : Fr) (H1 : Heap), evC R (cutC n c) F H = some (.normal, F1, H1) → evC R c F H = evC R (restC n c) F1 H1
 | 0, c, F, H, F1, H1, h => by
  simp only [cutC, evC_skip, Option.some.injEq, Prod.mk.injEq, true_and] at h
  obtain ⟨rfl, rfl⟩ := h
  rfl
 | n + 1, .seq a b, F, H, F1, H1, h => by
  simp only [cutC, evC_seq] at h
  simp only [restC, evC_seq]
  cases ha : evC R a F H with
  | none => rw [ha] at h; cases h
  | some p =>
   obtain ⟨x, F2, H2⟩ := p
   rw [ha] at h
   cases x with
   | normal =>
    simp only [Option.bind_some, nextC_normal] at h ⊢
    exact ev_cut R n b F2 H2 F1 H1 h
   | ret => simp at h
   | exit i => simp at h
 | n + 1, .skip, F, H, F1, H1, h => by simpa [cutC, restC] using h
 | n + 1, .ret, F, H, F1, H1, h => by simp [cutC] at h
 | n + 1, .exit i, F, H, F1, H1, h => by simp [cutC] at h
 | n + 1, .reg d i o l, F, H, F1, H1, h => by simp only [cutC] at h; simp only [restC, evC_skip]; exact h
 | n + 1, .cond c a b, F, H, F1, H1, h => by simp only [cutC] at h; simp only [restC, evC_skip]; exact h
 | n + 1, .block i l b, F, H, F1, H1, h => by simp only [cutC] at h; simp only [restC, evC_skip]; exact h
 | n + 1, .loop l b, F, H, F1, H1, h => by simp only [cutC] at h; simp only [restC, evC_skip]; exact h
 | n + 1, .rng f p i a b, F, H, F1, H1, h => by simp only [cutC] at h; simp only [restC, evC_skip]; exact h
 | n + 1, .hol t a, F, H, F1, H1, h => by simp only [cutC] at h; simp only [restC, evC_skip]; exact h
 | n + 1, .any, F, H, F1, H1, h => by simp only [cutC] at h; simp only [restC, evC_skip]; exact h
def F6a (n : Int) (L1 : List Pr) : Fr := [(1, .int .u8 n), (2, .optr 0 0 0 0), (5, Sl.av Pr.av 5 (ofL 5 L1)), (42, .bool false)]
theorem head6a (o : Or) (n : Int) (c1 : W.pure 9 [o.av] = some (.bool false)) (h2 : ¬ (o.procs.l.length : Int) < 2) (hk0 : ¬ o.kind < 0) (h3 : ¬ 1 < o.kind) (L1 : List Pr) (e1 : Int) (c3 : W.pure 25 [o.av] = some (.tuple [Sl.av Pr.av 5 (ofL 5 L1), I e1])) (Z1 : (e1 = 0) = True) :
  evC W (cutC 4 c6) [(0, o.av), (1, .int .u8 n)] [] = some (.normal, F6a n L1, [.arr 0 6 false [o.av]]) := by
 simp [cutC, c6, evFun, enterFr, intBin, resV, rvVs, rvV, F6a, c1, h2, hk0, h3, c3, Z1, -getElem?_pos, gEz]
def F6b (L1 L2 : List Pr) : Fr := [(2, .optr 0 0 0 0), (5, Sl.av Pr.av 5 (ofL 5 L1)), (7, .optr 1 0 0 0), (8, Sl.av Pr.av 5 (ofL 5 L2)), (73, .bool false)]
theorem head6b (o : Or) (n : Int) (L1 L2 : List Pr) (k m : Nat) (Q : Sl (List UInt8)) (hmod : n.tmod ((o.procs.l.length : Int) - 1) = (k : Int)) (x1 : IntKind.wrap .i64 n = n) (x2 : IntKind.wrap .i64 ((o.procs.l.length : Int) - 1) = (o.procs.l.length : Int) - 1)
  (x3 : IntKind.wrap .i64 (1 + (k : Int)) = (m : Int)) (x9 : ¬ (o.procs.l.length : Int) - 1 = 0) (hps : ∀ G, slcV G false 1 false true (Sl.av AV.str 1 o.procs) [I m] = Sl.av AV.str 1 Q) (e2 : Int) (c4 : W.pure 25 [({ o with procs := Q } : Or).av] = some (.tuple [Sl.av Pr.av 5 (ofL 5 L2), I e2])) (Z2 : (e2 = 0) = True)
  (i3 : L1 ≠ []) (i4 : L2 ≠ []) :
  evC W (cutC 4 (restC 4 c6)) (F6a n L1) [.arr 0 6 false [o.av]] = some (.normal, F6b L1 L2, [.arr 0 6 false [o.av], .arr 0 6 false [({ o with procs := Q } : Or).av]]) := by
 simp [cutC, restC, c6, evFun, enterFr, intBin, resV, rvVs, rvV, F6a, F6b, hmod, x1, x2, x3, x9, hps, c4, Z2, i3, i4, -sl_slc, -getElem?_pos, gEz]
def F6c (A B : List St) (p : Nat) : Fr := [(2, .optr 0 0 0 0), (7, .optr 1 0 0 0), (10, Sl.av St.av 8 (ofL 8 A)), (12, Sl.av St.av 8 (ofL 8 B)), (14, I p), (124, .bool false)]
theorem head6c (o : Or) (L1 L2 : List Pr) (p1 p2 : Pr) (m p : Nat) (Q : Sl (List UInt8)) (A B : List St) (hpl : Q.l.length = m) (i1 : L1[0]? = some p1) (i2 : L2[0]? = some p2) (e3 e4 : Int) (d1 : W.pure 30 [p1.av] = some (.tuple [Sl.av St.av 8 (ofL 8 A), I e3])) (d2 : W.pure 30 [p2.av] = some (.tuple [Sl.av St.av 8 (ofL 8 B), I e4]))
  (Z3 : (e3 = 0) = True) (Z4 : (e4 = 0) = True) (x4 : IntKind.wrap .i64 (1 + (m : Int)) = (p : Int)) (x5 : IntKind.wrap .i64 ((B.length : Int) + o.procs.l.length) = (B.length : Int) + o.procs.l.length) (x6 : IntKind.wrap .i64 ((B.length : Int) + o.procs.l.length - m) = (A.length : Int))
  (y1 : ¬ (A.length : Int) < p) (y2 : ¬ (B.length : Int) < p) :
  evC W (cutC 4 (restC 4 (restC 4 c6))) (F6b L1 L2) [.arr 0 6 false [o.av], .arr 0 6 false [({ o with procs := Q } : Or).av]] = some (.normal, F6c A B p, [.arr 0 6 false [o.av], .arr 0 6 false [({ o with procs := Q } : Or).av]]) := by
 simp [cutC, restC, c6, evFun, enterFr, intBin, resV, rvVs, rvV, F6b, F6c, hpl, i1, i2, d1, d2, Z3, Z4, x4, x5, x6, y1, y2, -getElem?_pos, gEz]
set_option maxHeartbeats 8000000 in
theorem law6 (o : Or) (n : Int) (hn : (Lit.int .u8 n).wf = true) : W.pure 6 [o.av, .int .u8 n] = some (.bool true) := by
 rw [W_pure Φ6 (by simp)]
 have hn := wf8 hn
 have c1 := e9 o
 have aw := e10
 cases hg : orGreat o with
 | true => rw [hg] at c1; simp [fi6, c6, evFun, enterFr, intBin, resV, rvVs, rvV, c1, aw]
 | false =>
 rw [hg] at c1
 have hnm : o.name.length ≤ 40 := by simp [orGreat] at hg; exact hg.1.1.1.2
 have hk0 : ¬ o.kind < 0 := by simp [orGreat] at hg; omega
 have hp12 : o.procs.l.length ≤ 12 := by simp [orGreat] at hg; exact hg.1.2
 by_cases h2 : (o.procs.l.length : Int) < 2
 ·simp [fi6, c6, evFun, enterFr, intBin, resV, rvVs, rvV, c1, aw, h2]
 by_cases h3 : 1 < o.kind
 ·simp [fi6, c6, evFun, enterFr, intBin, resV, rvVs, rvV, c1, aw, h2, hk0, h3]
 have c3 := e25 o
 by_cases hz : madeI o = 0
 rotate_left
 ·simp [fi6, c6, evFun, enterFr, intBin, resV, rvVs, rvV, c1, aw, h2, hk0, h3, c3, hz]
 obtain ⟨k, hk, hmod⟩ : ∃ k : Nat, k + 2 ≤ o.procs.l.length ∧ n.tmod ((o.procs.l.length : Int) - 1) = (k : Int) := by
  obtain ⟨q, hq⟩ : ∃ q : Nat, o.procs.l.length = q + 2 := ⟨o.procs.l.length - 2, by omega⟩
  refine ⟨n.toNat % (q + 1), ?_, ?_⟩
  ·have := Nat.mod_lt n.toNat (Nat.succ_pos q)
   simp only [Nat.succ_eq_add_one] at this; omega
  ·obtain ⟨m, rfl⟩ : ∃ m : Nat, n = m := ⟨n.toNat, by omega⟩
   have h3 : ((o.procs.l.length : Int) - 1) = ((q + 1 : Nat) : Int) := by rw [hq]; omega
   rw [h3, Int.tmod_eq_emod_of_nonneg (by omega), ← Int.natCast_emod]; simp
 obtain ⟨m, hm⟩ : ∃ m, m = 1 + k := ⟨_, rfl⟩
 obtain ⟨p, hp⟩ : ∃ p, p = m + 1 := ⟨_, rfl⟩
 obtain ⟨s0, ts, tl, t1, t2, t3, ⟨r, t4⟩, t5⟩ := more_fewer o (by omega) hz m (by omega) (by omega)
 obtain ⟨z5, r2, t6⟩ := t5 (o.procs.part 1 0 m) (by simp [Sl.part])
 have c4 := e25 { o with procs := o.procs.part 1 0 m }
 have hm1 := made_ok o hz
 have hm2 := made_ok _ z5
 rw [if_pos z5, t6] at c4
 rw [if_pos hz, t4] at c3
 rw [t4] at hm1
 rw [t6] at hm2
 have s1 := smt_head (s0 := s0) (ts := ts) hm1 (by simp) t3
 have s2 := smt_head (s0 := s0) (ts := ts.take m) hm2 (by simp) t3
 have d1 := e30 (headP o.name s0 ts tl) (hm1.fine _ (by simp))
 have d2 := e30 (headP o.name s0 (ts.take m) tl) (hm2.fine _ (by simp))
 rw [s1.2] at d1
 rw [s2.2] at d2
 have htl : tl.length ≤ 1 := by rcases t3 with rfl | rfl <;> simp
 have hsl : ∀ l : List (List UInt8), (spawns slNil l).length = l.length := fun l => by simp [spawns]
 have hpl : (o.procs.part 1 0 m).l.length = m := by simp [Sl.part]; omega
 have hps := slc_str o.procs m (by omega)
 obtain ⟨A, hA⟩ : ∃ A, A = stS 14 s0 (ofL 5 [zeroE, zeroE]) (ofL 8 (spawns slNil ts)) :: (spawns slNil ts ++ tl) := ⟨_, rfl⟩
 obtain ⟨B, hB⟩ : ∃ B, B = stS 14 s0 (ofL 5 [zeroE, zeroE]) (ofL 8 (spawns slNil (ts.take m))) :: (spawns slNil (ts.take m) ++ tl) := ⟨_, rfl⟩
 have lA : A.length = 1 + ts.length + tl.length := by rw [hA]; simp [hsl]; omega
 have lB : B.length = 1 + m + tl.length := by rw [hB]; simp [hsl]; omega
 have nA := nil_body A _ _ hA
 have nB := nil_body B _ _ hB
 have bA : St.of (stS 14 s0 (ofL 5 [zeroE, zeroE]) (ofL 8 (spawns slNil ts))).kind (stS 14 s0 (ofL 5 [zeroE, zeroE]) (ofL 8 (spawns slNil ts))).op (stS 14 s0 (ofL 5 [zeroE, zeroE]) (ofL 8 (spawns slNil ts))).name (stS 14 s0 (ofL 5 [zeroE, zeroE]) (ofL 8 (spawns slNil ts))).names (stS 14 s0 (ofL 5 [zeroE, zeroE]) (ofL 8 (spawns slNil ts))).exprs slNil (stS 14 s0 (ofL 5 [zeroE, zeroE]) (ofL 8 (spawns slNil ts))).els (stS 14 s0 (ofL 5 [zeroE, zeroE]) (ofL 8 (spawns slNil ts))).cs = bare0 s0 := rfl
 have bB : St.of (stS 14 s0 (ofL 5 [zeroE, zeroE]) (ofL 8 (spawns slNil (ts.take m)))).kind (stS 14 s0 (ofL 5 [zeroE, zeroE]) (ofL 8 (spawns slNil (ts.take m)))).op (stS 14 s0 (ofL 5 [zeroE, zeroE]) (ofL 8 (spawns slNil (ts.take m)))).name (stS 14 s0 (ofL 5 [zeroE, zeroE]) (ofL 8 (spawns slNil (ts.take m)))).names (stS 14 s0 (ofL 5 [zeroE, zeroE]) (ofL 8 (spawns slNil (ts.take m)))).exprs slNil (stS 14 s0 (ofL 5 [zeroE, zeroE]) (ofL 8 (spawns slNil (ts.take m)))).els (stS 14 s0 (ofL 5 [zeroE, zeroE]) (ofL 8 (spawns slNil (ts.take m)))).cs = bare0 s0 := rfl
 rw [bA] at nA
 rw [bB] at nB
 obtain ⟨A0, hA0⟩ : ∃ A0, A0 = bare0 s0 :: (spawns slNil ts ++ tl) := ⟨_, rfl⟩
 obtain ⟨B0, hB0⟩ : ∃ B0, B0 = bare0 s0 :: (spawns slNil (ts.take m) ++ tl) := ⟨_, rfl⟩
 rw [← hA0] at nA
 rw [← hB0] at nB
 have lA0 : A0.length = A.length := by rw [hA0, hA]; simp
 have lB0 : B0.length = B.length := by rw [hB0, hB]; simp
 have tA : A0.take p = bare0 s0 :: spawns slNil (ts.take m) := by
  rw [hA0, hp, List.take_succ_cons, List.take_append_of_le_length (by rw [hsl]; omega)]
  simp [spawns, List.map_take]
 have tB : B0.take p = bare0 s0 :: spawns slNil (ts.take m) := by
  rw [hB0, hp, List.take_succ_cons, List.take_append_of_le_length (by rw [hsl, List.length_take]; omega), List.take_of_length_le (by rw [hsl, List.length_take]; omega)]
 have uA : A0.drop (1 + ts.length) = tl := by
  rw [hA0, show 1 + ts.length = ts.length + 1 by omega, List.drop_succ_cons, List.drop_left' (hsl ts)]
 have uB : B0.drop p = tl := by
  rw [hB0, hp, List.drop_succ_cons, List.drop_left' (by rw [hsl, List.length_take]; omega)]
 have h16 : ∀ (j : Nat) (x : St), A0[1 + m + j]? = some x → j < ts.length - m → x.kind = 16 := by
  intro j x hx hj
  rw [hA0, show 1 + m + j = (m + j) + 1 by omega, List.getElem?_cons_succ, gEa (by rw [hsl]; omega)] at hx
  have := List.mem_of_getElem? hx
  simp only [spawns, List.mem_map] at this
  obtain ⟨s, _, rfl⟩ := this
  rfl
 have eq1 := e31 _ (ofL 8 (A0.take p)) (Nat.le_refl _) (by rw [tA]; exact big_bare s0 _ (by rw [List.length_take]; omega)) (ofL 8 (B0.take p))
 have eq2 := e31 _ (ofL 8 tl) (Nat.le_refl _) (by rcases t3 with rfl | rfl <;> decide +kernel) (ofL 8 tl)
 simp only [ofL] at eq1 eq2
 rw [tA, tB, eqvs_bare] at eq1
 rw [eqvs_tail t3] at eq2
 rw [← hA] at d1
 rw [← hB] at d2
 generalize o.procs.part 1 0 m = Q at *
 obtain ⟨L1, hL1⟩ : ∃ L1, L1 = headP o.name s0 ts tl :: r := ⟨_, rfl⟩
 obtain ⟨L2, hL2⟩ : ∃ L2, L2 = headP o.name s0 (ts.take m) tl :: r2 := ⟨_, rfl⟩
 have i1 : L1[0]? = some (headP o.name s0 ts tl) := by rw [hL1]; rfl
 have i2 : L2[0]? = some (headP o.name s0 (ts.take m) tl) := by rw [hL2]; rfl
 have i3 : L1 ≠ [] := by rw [hL1]; simp
 have i4 : L2 ≠ [] := by rw [hL2]; simp
 rw [← hL1] at c3
 rw [← hL2] at c4
 generalize headP o.name s0 ts tl = p1 at *
 generalize headP o.name s0 (ts.take m) tl = p2 at *
 have hap := fun H => app_st H A (by omega) (by omega)
 have hbp := fun H => app_st H B (by omega) (by omega)
 obtain ⟨y, F, H', l1, rfl, l2, l3⟩ := okC_iff.1 (loop6 A0 m (ts.length - m) A.length B.length (by omega) (by omega) h16 (ts.length - m) 0 [.arr 0 6 false [o.av], .arr 0 6 false [({ o with procs := Q } : Or).av], .arr 0 8 false (A0.map St.av), .arr 0 8 false (B0.map St.av)] (by omega) rfl)
 simp only [Int.natCast_zero] at l1
 have e2 : 1 + m = p := by omega
 rw [e2] at l1 l2
 have hr1 : ¬ (r.length : Int) + 1 = 0 := by omega
 have hr2 : ¬ (r2.length : Int) + 1 = 0 := by omega
 have g2 : H'[2]? = some (.arr 0 8 false (A0.map St.av)) := l3.get (by simp) rfl
 have g3 : H'[3]? = some (.arr 0 8 false (B0.map St.av)) := l3.get (by simp) rfl
 have g0 : H'[0]? = some (.arr 0 6 false [o.av]) := l3.get (by simp) rfl
 have g1 : H'[1]? = some (.arr 0 6 false [({ o with procs := Q } : Or).av]) := l3.get (by simp) rfl
 have v1 := slc_osl [.arr 0 6 false [o.av], .arr 0 6 false [({ o with procs := Q } : Or).av], .arr 0 8 false (A0.map St.av), .arr 0 8 false (B0.map St.av)] 2 0 A.length p (1 + ts.length) _ rfl (by omega) (by omega)
 have v2 := slc_osl_to H' 2 0 A.length p _ g2 (by omega)
 have v3 := slc_osl_to H' 3 0 B.length p _ g3 (by omega)
 have v4 := slc_osl_from H' 2 0 A.length (1 + ts.length) _ g2 (by omega)
 have v5 := slc_osl_from H' 3 0 B.length p _ g3 (by omega)
 have f1 := frz_osl H' 2 0 0 p A0 g2 (by omega)
 have f2 := frz_osl H' 3 0 0 p B0 g3 (by omega)
 have f3 := frz_osl H' 2 0 (1 + ts.length) (A.length - (1 + ts.length)) A0 g2 (by omega)
 have f4 := frz_osl H' 3 0 p (B.length - p) B0 g3 (by omega)
 rw [List.drop_zero] at f1 f2
 rw [uA, List.take_of_length_le (by omega)] at f3
 rw [uB, List.take_of_length_le (by omega)] at f4
 rw [tA] at f1
 rw [tB] at f2
 have e1 : 1 + ts.length - p = ts.length - m := by omega
 rw [e1] at v1
 have x1 : IntKind.wrap .i64 n = n := by rw [wrap64] <;> omega
 have x2 : IntKind.wrap .i64 ((o.procs.l.length : Int) - 1) = (o.procs.l.length : Int) - 1 := by rw [wrap64] <;> omega
 have x3 : IntKind.wrap .i64 (1 + (k : Int)) = (m : Int) := by rw [wrap64] <;> omega
 have x4 : IntKind.wrap .i64 (1 + (m : Int)) = (p : Int) := by rw [wrap64] <;> omega
 have x5 : IntKind.wrap .i64 ((B.length : Int) + o.procs.l.length) = (B.length : Int) + o.procs.l.length := by rw [wrap64] <;> omega
 have x6 : IntKind.wrap .i64 ((B.length : Int) + o.procs.l.length - m) = (A.length : Int) := by rw [wrap64] <;> omega
 have x7 : IntKind.wrap .i64 ((p : Int) + o.procs.l.length) = (p : Int) + o.procs.l.length := by rw [wrap64] <;> omega
 have x8 : IntKind.wrap .i64 ((p : Int) + o.procs.l.length - m) = ((1 + ts.length : Nat) : Int) := by rw [wrap64] <;> omega
 have x9 : ¬ (o.procs.l.length : Int) - 1 = 0 := by omega
 have y1 : ¬ (A.length : Int) < p := by omega
 have y2 : ¬ (B.length : Int) < p := by omega
 have y3 : 0 < A.length := by omega
 have y4 : 0 < B.length := by omega
 generalize 1 + ts.length = q at *
 have Z1 := eq_true hz
 have Z2 := eq_true z5
 have Z3 := eq_true s1.1
 have Z4 := eq_true s2.1
 have Q1 := head6a o n c1 h2 hk0 h3 L1 _ c3 Z1
 have Q2 := head6b o n L1 L2 k m Q hmod x1 x2 x3 x9 hps _ c4 Z2 i3 i4
 have Q3 := head6c o L1 L2 p1 p2 m p Q A B hpl i1 i2 _ _ d1 d2 Z3 Z4 x4 x5 x6 y1 y2
 have P2 : evC W (restC 4 (restC 4 (restC 4 c6))) (F6c A B p) [.arr 0 6 false [o.av], .arr 0 6 false [({ o with procs := Q } : Or).av]] = some (.ret, [(4, .bool true)], H') := by
  simp [restC, c6, evFun, enterFr, intBin, resV, rvVs, rvV, F6c, aw, x7, x8, hpl, y3, y4, hap, hbp, nA, nB, v1, l1, l2, v2, v3, v4, v5, f1, f2, f3, f4, eq1, eq2, frzs, g0, g1, g2, g3, -sl_slc, -getElem?_pos, gEz, -List.map_take]
 have P3 := (ev_cut W 4 c6 _ _ _ _ Q1).trans ((ev_cut W 4 _ _ _ _ _ Q2).trans ((ev_cut W 4 _ _ _ _ _ Q3).trans P2))
 simp [fi6, evFun, enterFr, intBin, resV, rvVs, rvV, P3]
end Go.Proofs.YtddpboiceemihaaGreatDoor
end
