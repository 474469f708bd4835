/-
  The methods of the supervisor that handles an event, part 1 (conditions: none). The methods, part 2: starting again (conditions: none). The methods, part 3: stopping (conditions: none). The methods, part 4: stopping, as the program does it (conditions: none). The methods, part 5: stopping, as the program does it, all rounds (conditions: none). The methods, part 6: shutting down (conditions: none). The methods, part 7: shutting down, as the reference does it (conditions: none). The methods, part 8: the restarts that still count (conditions: none). The methods, part 9: DeleteFunc (conditions: none). The methods, part 10: the restarts that still count, as the program finds them (conditions: none). The methods, part 11: a running child exits, as the program does it (conditions: none). The methods, part 12: a running child exits, as the reference does it (conditions: none). The methods, part 13: a running child exits, as the reference does it (conditions: none). The methods, part 14: a stopping child exits (conditions: none).
-/
import Derived.Test.YtjknjapdcphcfaaGreatFA
namespace Go.Proofs.YtjknjapdcphcfaaGreat
open Go Go.RowKit
set_option linter.unusedVariables false
set_option linter.unusedSimpArgs false
set_option maxRecDepth 10000
set_option maxHeartbeats 2000000
section
def RunSt.setS (r : RunSt) (k : Nat) (st : Int) : RunSt := match r.cs[k]? with | some c => { r with cs := r.cs.set k { c with status := st } } | none => r
theorem e72 (x : Spec) (tm : Int) {H : Heap} {p c cv : Nat} {o : Option Nat} {rv ov : AV} {r : RunSt} (h : RunI (mkP x tm) H p c cv o rv ov r) (k : Nat) (hk : k < r.cs.length) (st : Int) :
  ∃ G, evFun W fi94 [.optr p 0 0 0, I k, I st] H = some (.tuple [], G) ∧ RunI (mkP x tm) G p c cv o rv ov (r.setS k st) ∧ Frame p c o o H G := by
 have hkc : r.cs[k]? = some r.cs[k] := gEg hk
 have hs : r.setS k st = { r with cs := r.cs.set k { r.cs[k] with status := st } } := by simp only [RunSt.setS, hkc]
 obtain ⟨g1, g2⟩ := h.setC k { r.cs[k] with status := st }
 have hp := h.hp
 have hc := h.hc
 simp only [mkP] at hp
 refine ⟨_, ?_, by rw [hs]; exact g1, g2⟩
 simp [fi94, c94, evFun, enterFr, intBin, resV, rvVs, rvV, hp, hc, hk, List.map_set]
def RunSt.stopped (r : RunSt) (tm : Int) : RunSt := if r.fl = true then { (r.act tm 5 (-1)) with st := 4 } else { r with st := 4 }
theorem e76 (x : Spec) (tm : Int) {H : Heap} {p c cv : Nat} {o : Option Nat} {rv ov : AV} {r : RunSt} (h : RunI (mkP x tm) H p c cv o rv ov r) (hl : r.out.length ≤ 1000000) :
  okV (evFun W fi99 [.optr p 0 0 0] H) (Does (mkP x tm) p c cv o rv H (r.stopped tm)) := by
 obtain ⟨g1, g2⟩ := h.put 4 r.fl
 have hp := h.hp
 have hp1 := g1.hp
 obtain ⟨v, G, e1, rfl, o', ov', d1, d2⟩ := okV_iff.1 (e83 x tm g1 hl 5 (-1))
 simp only [mkP] at hp hp1 e1
 cases hf : r.fl
 ·rw [hf] at hp hp1
  have hr : r.stopped tm = { r with st := 4, fl := r.fl } := by simp [RunSt.stopped, hf]
  have : okV (evFun W fi99 [.optr p 0 0 0] H) (fun v G => v = .tuple [] ∧ G = H.set p (.arr 0 10 false [mkP x tm 4 (.osl c cv 0 r.cs.length) rv r.fl ov])) := by
   simp [fi99, c99, evFun, enterFr, intBin, resV, rvVs, rvV, hp, hp1, hf, mkP]
  obtain ⟨v, G, f1, rfl, rfl⟩ := okV_iff.1 this
  rw [f1]
  exact ⟨rfl, o, ov, by rw [hr]; exact g1, g2⟩
 ·rw [hf] at hp hp1 e1
  have hr : r.stopped tm = ({ r with st := 4, fl := r.fl } : RunSt).act tm 5 (-1) := by simp [RunSt.stopped, hf, RunSt.act]
  have : okV (evFun W fi99 [.optr p 0 0 0] H) (fun v G' => v = .tuple [] ∧ G' = G) := by
   have c1 : W.call (.clo 108 [] []) [.optr p 0 0 0, I 5, I (-1)] (H.set p (.arr 0 10 false [mkP x tm 4 (.osl c cv 0 r.cs.length) rv true ov])) = some (.tuple [], G) := by
    rw [W_call Φ108]; exact e1
   simp only [mkP] at c1
   simp [fi99, c99, evFun, enterFr, intBin, resV, rvVs, rvV, hp, hp1, c1]
  obtain ⟨v, G', f1, rfl, rfl⟩ := okV_iff.1 this
  rw [f1]
  exact ⟨rfl, o', ov', by rw [hr]; exact d1, g2.trans d2⟩
theorem e65 (x : Spec) (tm : Int) {H : Heap} {p c cv : Nat} {o : Option Nat} {rv ov : AV} {r : RunSt} (h : RunI (mkR x tm) H p c cv o rv ov r) (hl : r.out.length ≤ 1000000) :
  okV (evFun W fi87 [.optr p 0 0 0] H) (Does (mkR x tm) p c cv o rv H (r.stopped tm)) := by
 obtain ⟨g1, g2⟩ := h.put 4 r.fl
 have hp := h.hp
 have hp1 := g1.hp
 obtain ⟨v, G, e1, rfl, o', ov', d1, d2⟩ := okV_iff.1 (e78 x tm g1 hl 5 (-1))
 simp only [mkR] at hp hp1 e1
 cases hf : r.fl
 ·rw [hf] at hp hp1
  have hr : r.stopped tm = { r with st := 4, fl := r.fl } := by simp [RunSt.stopped, hf]
  have : okV (evFun W fi87 [.optr p 0 0 0] H) (fun v G => v = .tuple [] ∧ G = H.set p (.arr 0 10 false [mkR x tm 4 (.osl c cv 0 r.cs.length) rv r.fl ov])) := by
   simp [fi87, c87, evFun, enterFr, intBin, resV, rvVs, rvV, hp, hp1, hf, mkR]
  obtain ⟨v, G, f1, rfl, rfl⟩ := okV_iff.1 this
  rw [f1]
  exact ⟨rfl, o, ov, by rw [hr]; exact g1, g2⟩
 ·rw [hf] at hp hp1 e1
  have hr : r.stopped tm = ({ r with st := 4, fl := r.fl } : RunSt).act tm 5 (-1) := by simp [RunSt.stopped, hf, RunSt.act]
  have : okV (evFun W fi87 [.optr p 0 0 0] H) (fun v G' => v = .tuple [] ∧ G' = G) := by
   have c1 : W.call (.clo 101 [] []) [.optr p 0 0 0, I 5, I (-1)] (H.set p (.arr 0 10 false [mkR x tm 4 (.osl c cv 0 r.cs.length) rv true ov])) = some (.tuple [], G) := by
    rw [W_call Φ101]; exact e1
   simp only [mkR] at c1
   simp [fi87, c87, evFun, enterFr, intBin, resV, rvVs, rvV, hp, hp1, c1]
  obtain ⟨v, G', f1, rfl, rfl⟩ := okV_iff.1 this
  rw [f1]
  exact ⟨rfl, o', ov', by rw [hr]; exact d1, g2.trans d2⟩
end
section
theorem Frame.put' {p c : Nat} {o o' : Option Nat} {A B C : Heap} (h : Frame p c o o' A B) (hk : Kept none B C) : Frame p c o o' A C := h.trans (Frame.of_kept hk)
def stepAgain (tm : Int) (k : Nat) (s : RunSt) : RunSt :=
 match s.cs[k]? with
 | some c => if c.status = 4 then ({ s with cs := s.cs.set k ⟨1, IntKind.wrap .i64 (c.starts + 1)⟩ } : RunSt).act tm 3 k else s
 | none => s
def againS (tm : Int) (r : RunSt) : RunSt := { (r.cs.zipIdx.foldl (fun s a => stepAgain tm a.2 s) r) with st := 1 }
def LoopP (mk : Mk) (p c cv : Nat) (rv : AV) (H : Heap) (o : Option Nat) (r : RunSt) (k : Nat) (s : RunSt) (G : Heap) : Prop :=
 ∃ o' ov', RunI mk G p c cv o' rv ov' s ∧ Frame p c o o' H G ∧ s.cs.length = r.cs.length ∧ s.out.length ≤ r.out.length + k
theorem e75 (x : Spec) (tm : Int) {H : Heap} {p c cv : Nat} {o : Option Nat} {rv ov : AV} {r : RunSt} (h : RunI (mkP x tm) H p c cv o rv ov r) (hn : r.cs.length ≤ 1000) (hl : r.out.length ≤ 900000) :
  okV (evFun W fi98 [.optr p 0 0 0] H) (Does (mkP x tm) p c cv o rv H (againS tm r)) := by
 have hL := loop_fold (Φ := Φ) (live := [0, 8, 9, 10]) (L := l98_0) r.cs (σ := RunSt) (fun k _ s => stepAgain tm k s) (fun k s F G => F = [(0, .optr p 0 0 0), (8, .osl c cv 0 r.cs.length), (9, I r.cs.length), (10, I k)] ∧ LoopP (mkP x tm) p c cv rv H o r k s G) (fun s y F G => y = .exit 0 ∧ F.get 0 = .optr p 0 0 0 ∧ LoopP (mkP x tm) p c cv rv H o r r.cs.length s G) (s := r) (F := [(0, .optr p 0 0 0), (8, .osl c cv 0 r.cs.length), (9, I r.cs.length), (10, I 0)]) (H := H) ⟨rfl, o, ov, h, Frame.refl _ _ _ _, rfl, Nat.le_refl _⟩ ?_ ?_
 ·obtain ⟨y, F, G, e1, rfl, e2, o', ov', g1, g2, g3, g4⟩ := okC_iff.1 hL
  obtain ⟨k1, k2⟩ := g1.put 1 (r.cs.zipIdx.foldl (fun s a => stepAgain tm a.2 s) r).fl
  have hp := h.hp
  have hp1 := g1.hp
  simp only [mkP] at hp hp1
  have : okV (evFun W fi98 [.optr p 0 0 0] H) (fun v G' => v = .tuple [] ∧ G' = G.set p (.arr 0 10 false [mkP x tm 1 (.osl c cv 0 (r.cs.zipIdx.foldl (fun s a => stepAgain tm a.2 s) r).cs.length) rv (r.cs.zipIdx.foldl (fun s a => stepAgain tm a.2 s) r).fl ov'])) := by
   simp [fi98, c98, evFun, enterFr, intBin, resV, rvVs, rvV, hp, e1, e2, hp1, mkP]
  obtain ⟨v, G', f1, rfl, rfl⟩ := okV_iff.1 this
  rw [f1]
  exact ⟨rfl, o', ov', k1, g2.trans k2⟩
 ·rintro k e s F G hk hc ⟨rfl, o', ov', g1, g2, g3, g4⟩
  have hw := wrap_succ (k := k) (by omega)
  have hks : k < s.cs.length := by omega
  have hkc : s.cs[k]? = some s.cs[k] := gEg hks
  have hap := Kept.append none G [.arr 0 2 false [s.cs[k].av]]
  have g5 := g1.kept hap
  have hc1 := g1.hc
  have hc2 := g5.hc
  have hp2 := g5.hp
  simp only [mkP] at hp2
  by_cases ha : s.cs[k].status = 4
  ·obtain ⟨g6, g7⟩ := g5.setC k ⟨1, IntKind.wrap .i64 (s.cs[k].starts + 1)⟩
   obtain ⟨v, G', d0, rfl, o'', ov'', d1, d2⟩ := okV_iff.1 (e83 x tm g6 (by simp; omega) 3 k)
   have c1 : W.call (.clo 108 [] []) [.optr p 0 0 0, I 3, I k] ((G ++ [Blk.arr 0 2 false [s.cs[k].av]]).set c (.arr cv 2 false ((s.cs.set k ⟨1, IntKind.wrap .i64 (s.cs[k].starts + 1)⟩).map ChildState.av))) = some (.tuple [], G') := by
    rw [W_call Φ108]; exact d0
   rw [List.map_set] at c1
   have hst : stepAgain tm k s = ({ s with cs := s.cs.set k ⟨1, IntKind.wrap .i64 (s.cs[k].starts + 1)⟩ } : RunSt).act tm 3 k := by simp [stepAgain, hks, ha]
   rw [hst]
   simp [evl98_0, b98_0, intBin, hk, hw, hc1, hc2, hp2, ha, hks, c1, ChildState_mk]
   exact ⟨_, _, d1, ((g2.put' hap).trans g7).trans d2, by simp [RunSt.act]; omega, by simp [RunSt.act]; omega⟩
  ·have hst : stepAgain tm k s = s := by simp [stepAgain, hks, ha]
   rw [hst]
   simp [evl98_0, b98_0, intBin, hk, hw, hc1, hc2, hp2, ha, hks]
   exact ⟨_, _, g5, g2.put' hap, g3, by omega⟩
 ·rintro s F G ⟨rfl, hP⟩
  simp [evl98_0, b98_0, intBin]
  exact hP
theorem e67 (x : Spec) (tm : Int) {H : Heap} {p c cv : Nat} {o : Option Nat} {rv ov : AV} {r : RunSt} (h : RunI (mkR x tm) H p c cv o rv ov r) (hn : r.cs.length ≤ 1000) (hl : r.out.length ≤ 900000) :
  okV (evFun W fi90 [.optr p 0 0 0] H) (Does (mkR x tm) p c cv o rv H (againS tm r)) := by
 have hL := loop_fold (Φ := Φ) (live := [0, 2]) (L := l90_0) r.cs (σ := RunSt) (fun k _ s => stepAgain tm k s) (fun k s F G => F = [(0, .optr p 0 0 0), (2, I k)] ∧ LoopP (mkR x tm) p c cv rv H o r k s G) (fun s y F G => y = .exit 0 ∧ F.get 0 = .optr p 0 0 0 ∧ LoopP (mkR x tm) p c cv rv H o r r.cs.length s G) (s := r) (F := [(0, .optr p 0 0 0), (2, I 0)]) (H := H) ⟨rfl, o, ov, h, Frame.refl _ _ _ _, rfl, Nat.le_refl _⟩ ?_ ?_
 ·obtain ⟨y, F, G, e1, rfl, e2, o', ov', g1, g2, g3, g4⟩ := okC_iff.1 hL
  obtain ⟨k1, k2⟩ := g1.put 1 (r.cs.zipIdx.foldl (fun s a => stepAgain tm a.2 s) r).fl
  have hp1 := g1.hp
  simp only [mkR] at hp1
  have : okV (evFun W fi90 [.optr p 0 0 0] H) (fun v G' => v = .tuple [] ∧ G' = G.set p (.arr 0 10 false [mkR x tm 1 (.osl c cv 0 (r.cs.zipIdx.foldl (fun s a => stepAgain tm a.2 s) r).cs.length) rv (r.cs.zipIdx.foldl (fun s a => stepAgain tm a.2 s) r).fl ov'])) := by
   simp [fi90, c90, evFun, enterFr, intBin, resV, rvVs, rvV, e1, e2, hp1, mkR]
  obtain ⟨v, G', f1, rfl, rfl⟩ := okV_iff.1 this
  rw [f1]
  exact ⟨rfl, o', ov', k1, g2.trans k2⟩
 ·rintro k e s F G hk hc ⟨rfl, o', ov', g1, g2, g3, g4⟩
  have hw := wrap_succ (k := k) (by omega)
  have hks : k < s.cs.length := by omega
  have hkc : s.cs[k]? = some s.cs[k] := gEg hks
  have hc1 := g1.hc
  have hp1 := g1.hp
  simp only [mkR] at hp1
  by_cases ha : s.cs[k].status = 4
  ·obtain ⟨g5, g6⟩ := g1.setC k { s.cs[k] with status := 1 }
   obtain ⟨g7, g8⟩ := g5.setC k ⟨1, IntKind.wrap .i64 (s.cs[k].starts + 1)⟩
   have hc2 := g5.hc
   have hp2 := g5.hp
   have hc3 := g7.hc
   have hp3 := g7.hp
   simp only [mkR] at hp2 hp3
   obtain ⟨v, G', d0, rfl, o'', ov'', d1, d2⟩ := okV_iff.1 (e78 x tm g7 (by simp; omega) 3 k)
   simp only [List.set_set] at d0 d1 d2 g8
   have c1 : W.call (.clo 101 [] []) [.optr p 0 0 0, I 3, I k] (G.set c (.arr cv 2 false ((s.cs.set k ⟨1, IntKind.wrap .i64 (s.cs[k].starts + 1)⟩).map ChildState.av))) = some (.tuple [], G') := by
    rw [W_call Φ101]; exact d0
   have hst : stepAgain tm k s = ({ s with cs := s.cs.set k ⟨1, IntKind.wrap .i64 (s.cs[k].starts + 1)⟩ } : RunSt).act tm 3 k := by simp [stepAgain, hks, ha]
   rw [hst]
   simp [evl90_0, b90_0, intBin, hk, hw, g3, hc1, hc2, hc3, hp1, hp2, hp3, ha, hks, c1, -List.map_set]
   exact ⟨_, _, d1, ((g2.trans g6).trans g8).trans d2, by simp [RunSt.act]; omega, by simp [RunSt.act]; omega⟩
  ·have hst : stepAgain tm k s = s := by simp [stepAgain, hks, ha]
   rw [hst]
   simp [evl90_0, b90_0, intBin, hk, hw, g3, hc1, hp1, ha, hks]
   exact ⟨_, _, g1, g2, g3, by omega⟩
 ·rintro s F G ⟨rfl, hP⟩
  have hP' := hP
  obtain ⟨o', ov', g1, g2, g3, g4⟩ := hP'
  have hp1 := g1.hp
  simp only [mkR] at hp1
  simp [evl90_0, b90_0, intBin, hp1, g3]
  exact hP
end
section
theorem OptI.frame {H G : Heap} {p c : Nat} {o o' : Option Nat} {v : AV} {l : List Int} (h : OptI H p c o v l) (hf : Frame p c o o' H G) : OptI G p c o' v l := by
 rcases h with h | ⟨q, ⟨ver, t, e1, e2⟩, h2, h3, h4⟩
 ·exact .inl h
 ·refine .inr ⟨q, ⟨ver, t, e1, hf.get e2 h2 h3 h4⟩, h2, h3, fun e => ?_⟩
  rcases hf.new q e with h5 | h5
  ·exact h4 h5
  ·have := (gEs.1 e2).1; omega
theorem OptI.rd {H : Heap} {p c : Nat} {o : Option Nat} {v : AV} {l : List Int} (h : OptI H p c o v l) : Rd H 1 v (l.map I) := by
 rcases h with ⟨s, rfl, rfl⟩ | ⟨q, h1, _⟩
 ·exact Rd.of_sl I H 1 s
 ·exact Rd.of_grow h1
def stepStop (tm : Int) (i : Int) (s : RunSt) : RunSt :=
 match s.cs[i.toNat]? with
 | some c => if c.status = 1 then ({ s with cs := s.cs.set i.toNat { c with status := 2 } } : RunSt).act tm 4 i else s
 | none => s
theorem stepStop_len (tm : Int) (i : Int) (s : RunSt) : (stepStop tm i s).cs.length = s.cs.length := by
 unfold stepStop; split
 ·split <;> simp [RunSt.act]
 ·rfl
def stopS (tm : Int) (l : List Int) (r : RunSt) : RunSt := l.foldr (stepStop tm) r
theorem fold_fst {α σ : Type} (f : α → σ → σ) : ∀ (l : List α) (k : Nat) (s : σ), (l.zipIdx k).foldl (fun s a => f a.1 s) s = l.foldl (fun s a => f a s) s := by
 intro l
 induction l with
 | nil => intro k s; rfl
 | cons a l ih => intro k s; simp only [List.zipIdx_cons, List.foldl_cons]; exact ih _ _
theorem stopS_fold (tm : Int) (l : List Int) (r : RunSt) : l.reverse.zipIdx.foldl (fun s a => stepStop tm a.1 s) r = stopS tm l r := by
 rw [fold_fst (stepStop tm), List.foldl_reverse]; rfl
theorem rev_get {l : List Int} {k : Nat} {a : Int} (h : l.reverse[k]? = some a) : k < l.length ∧ l[l.length - 1 - k]? = some a := by
 have hk : k < l.length := by have := (gEs.1 h).1; simpa using this
 rw [List.getElem?_reverse hk] at h
 exact ⟨hk, h⟩
theorem e63 (x : Spec) (tm : Int) {H : Heap} {p c cv : Nat} {o : Option Nat} {rv ov : AV} {r : RunSt} (h : RunI (mkR x tm) H p c cv o rv ov r) (hl : r.out.length ≤ 900000) {v : AV} {l : List Int} (hv : OptI H p c o v l) (hll : l.length ≤ 1000) (hi : ∀ i ∈ l, 0 ≤ i ∧ i < r.cs.length) :
  okV (evFun W fi86 [.optr p 0 0 0, v] H) (Does (mkR x tm) p c cv o rv H (stopS tm l r)) := by
 have hlen := hv.ok.2.2.2
 have hvo := hv.ok.1
 have hL := loop_fold (Φ := Φ) (live := [0, 1, 4]) (L := l86_0) l.reverse (σ := RunSt) (fun _ a s => stepStop tm a s) (fun k s F G => F = [(0, .optr p 0 0 0), (1, v), (4, I ((l.length : Int) - 1 - k))] ∧ LoopP (mkR x tm) p c cv rv H o r k s G) (fun s y F G => y = .exit 0 ∧ LoopP (mkR x tm) p c cv rv H o r l.length s G) (s := r) (F := [(0, .optr p 0 0 0), (1, v), (4, I ((l.length : Int) - 1))]) (H := H) ⟨by simp, o, ov, h, Frame.refl _ _ _ _, rfl, Nat.le_refl _⟩ ?_ ?_
 ·rw [stopS_fold] at hL
  obtain ⟨y, F, G, e1, rfl, o', ov', g1, g2, g3, g4⟩ := okC_iff.1 hL
  have hw : IntKind.wrap .i64 ((l.length : Int) - 1) = (l.length : Int) - 1 := by rw [wrap64] <;> omega
  have : okV (evFun W fi86 [.optr p 0 0 0, v] H) (fun v G' => v = .tuple [] ∧ G' = G) := by
   simp [fi86, c86, evFun, enterFr, intBin, resV, rvVs, rvV, hlen, hvo, hw, e1]
  obtain ⟨v, G', f1, rfl, rfl⟩ := okV_iff.1 this
  rw [f1]
  exact ⟨rfl, o', ov', g1, g2⟩
 ·rintro k a s F G _ hc ⟨rfl, o', ov', g1, g2, g3, g4⟩
  obtain ⟨hk, hka⟩ := rev_get hc
  have hj : (l.length : Int) - 1 - k = ((l.length - 1 - k : Nat) : Int) := by omega
  have hw : IntKind.wrap .i64 (((l.length - 1 - k : Nat) : Int) - 1) = (l.length : Int) - 1 - (k + 1) := by rw [wrap64] <;> omega
  obtain ⟨ha0, ha1⟩ := hi a (List.mem_of_getElem? hka)
  obtain ⟨n, rfl⟩ : ∃ n : Nat, a = n := ⟨a.toNat, by omega⟩
  have hks : n < s.cs.length := by omega
  have hkr : n < r.cs.length := by omega
  have hkc : s.cs[n]? = some s.cs[n] := gEg hks
  obtain ⟨q1, q2, q3, q4, _⟩ := (hv.frame g2).rd.get (l.length - 1 - k) (I n) (by rw [List.getElem?_map, hka]; rfl)
  have q4 := q4 false 1 (by intro h; cases h)
  have hc1 := g1.hc
  have hp1 := g1.hp
  simp only [mkR] at hp1
  rw [hj]
  by_cases ha : s.cs[n].status = 1
  ·obtain ⟨g5, g6⟩ := g1.setC n { s.cs[n] with status := 2 }
   have hc2 := g5.hc
   have hp2 := g5.hp
   simp only [mkR] at hp2
   obtain ⟨r1, r2, r3, r4, _⟩ := (hv.frame (g2.trans g6)).rd.get (l.length - 1 - k) (I n) (by rw [List.getElem?_map, hka]; rfl)
   have r4 := r4 false 1 (by intro h; cases h)
   obtain ⟨v', G', d0, rfl, o'', ov'', d1, d2⟩ := okV_iff.1 (e78 x tm g5 (by simp; omega) 4 n)
   have c1 : W.call (.clo 101 [] []) [.optr p 0 0 0, I 4, I n] (G.set c (.arr cv 2 false ((s.cs.set n { s.cs[n] with status := 2 }).map ChildState.av))) = some (.tuple [], G') := by
    rw [W_call Φ101]; exact d0
   have hst : stepStop tm n s = ({ s with cs := s.cs.set n { s.cs[n] with status := 2 } } : RunSt).act tm 4 n := by simp [stepStop, hks, ha]
   rw [hst]
   simp [evl86_0, b86_0, intBin, hvo, hw, g3, hc1, hc2, hp1, hp2, q2, q3, q4, r2, r3, r4, ha, hks, hkr, c1, -List.map_set]
   exact ⟨_, _, d1, (g2.trans g6).trans d2, by simp [RunSt.act]; omega, by simp [RunSt.act]; omega⟩
  ·have hst : stepStop tm n s = s := by simp [stepStop, hks, ha]
   rw [hst]
   simp [evl86_0, b86_0, intBin, hvo, hw, g3, hc1, hp1, q2, q3, q4, ha, hks, hkr]
   exact ⟨_, _, g1, g2, g3, by omega⟩
 ·rintro s F G ⟨rfl, hP⟩
  have hm : ((l.length : Int) - 1 - (l.reverse.length : Nat)) = -1 := by simp; omega
  rw [hm]
  simp [evl86_0, b86_0, intBin]
  simpa using hP
end
section
def IsLoop (b : Blk) : Prop := ∃ st pe F ps ac bd, b = .loop st pe F ps ac bd
theorem RunI.away {mk : Mk} {G : Heap} {p c cv : Nat} {o : Option Nat} {rv ov : AV} {s : RunSt} (h : RunI mk G p c cv o rv ov s) {y : Nat} {b : Blk} (hy : G[y]? = some b) (hb : IsLoop b) : y ≠ p ∧ y ≠ c ∧ o ≠ some y := by
 obtain ⟨st, pe, F, ps, ac, bd, rfl⟩ := hb
 refine ⟨fun e => ?_, fun e => ?_, fun e => ?_⟩
 ·rw [e, h.hp] at hy; cases hy
 ·rw [e, h.hc] at hy; cases hy
 ·have h1 := h.out
  rw [e] at h1
  obtain ⟨ver, t, _, e2⟩ := h1
  rw [hy] at e2; cases e2
theorem RunI.setL {mk : Mk} {G : Heap} {p c cv : Nat} {o : Option Nat} {rv ov : AV} {s : RunSt} (h : RunI mk G p c cv o rv ov s) {y : Nat} {b : Blk} (hy : G[y]? = some b) (hb : IsLoop b) (b' : Blk) : RunI mk (G.set y b') p c cv o rv ov s := by
 obtain ⟨h1, h2, h3⟩ := h.away hy hb
 have hk := Kept.set y G b'
 refine ⟨hk.get (by simpa using h1) h.hp, hk.get (by simpa using h2) h.hc, ?_, h.out.kept hk (fun id hid e => by cases hid; exact h3 e), h.pc, h.op, h.oc⟩
 rcases h.rs with h4 | ⟨q, h4, h5⟩
 ·exact .inl h4
 ·refine .inr ⟨q, h4.kept hk (fun id hid e => ?_), h5⟩
  cases hid; cases e
  obtain ⟨ver, t, _, e2⟩ := h4
  obtain ⟨st, pe, F, ps, ac, bd, rfl⟩ := hb
  rw [hy] at e2; cases e2
def xa74 : LC := (.reg false [2, 9] [2, 5] [.op (some 5) .mv [.t 9]])
def xb74 : LC := (.block 1 [] (.seq (.reg false [2, 5] [2, 5, 19] [.op (some 10) (.load false false 1) [.t 2], .op (some 11) .nilchk [.t 10], .op (some 12) (.fld 0) [.t 11], .op (some 13) (.fld 1) [.t 12], .op (some 14) (.load false false 1) [.t 13], .op (some 15) .mv [.t 5], .op (some 16) (.idxa false 2) [.t 14, .t 15], .op (some 17) (.fld 0) [.t 16], .op (some 18) (.load false false 1) [.t 17], .op (some 19) (.bin .eql) [.t 18, .c (.int .i64 1)]]) (.cond (.t 19) (.seq (.reg false [2, 5] [2, 5] [.op (some 20) (.load false false 1) [.t 2], .op (some 21) .mv [.t 5], .op (some 22) (.call 94) [.t 20, .t 21, .c (.int .i64 2)]]) (.reg false [2, 5] [] [.op (some 23) (.load false false 1) [.t 2], .op (some 24) .mv [.t 5], .op (some 25) (.call 108) [.t 23, .c (.int .i64 4), .t 24]])) .skip)))
theorem ev_ra74 (R : Rec) (F : Fr) (H : Heap) : evC R ra96_0 F H = evC R xa74 F H := rfl
theorem ev_rb74 (R : Rec) (F : Fr) (H : Heap) : evC R rb96_0 F H = evC R xb74 F H := rfl
theorem evRound_ready {R : Rec} {y : Nat} {args : List AV} {G : Heap} {pe : Option LX} {F : Fr} {ps : List Nat} {ac bd : LC} (h : G[y]? = some (.loop .ready pe F ps ac bd)) (hl : args.length = ps.length) :
  evRound R y args G = (evC R ac (putAll F ps args) G).bind fun p => match p.1, p.2.2[y]? with
   | .normal, some (.loop .ready pend2 F2 ps2 ac2 bd2) =>
     (evC R bd p.2.1 (p.2.2.set y (.loop .busy pend2 F2 ps2 ac2 bd2))).bind fun q => match q.2.2[y]? with
      | some (.loop _ _ F3 ps3 ac3 bd3) => match q.1 with
       | .normal => some (.bool true, q.2.2.set y (.loop .ready none F3 ps3 ac3 bd3))
       | x => some (.bool false, q.2.2.set y (.loop .done (some x) F3 ps3 ac3 bd3))
      | _ => none
   | _, _ => none := by
 simp only [evRound, h, hl, if_true]
 rfl
def rng74 (a : Nat) (st : LoopState) : Blk := .loop st none [(2, .optr a 0 0 0)] [8, 9] ra96_0 rb96_0
theorem round74 (x : Spec) (tm : Int) {G : Heap} {p c cv : Nat} {o : Option Nat} {rv ov : AV} {s : RunSt} (g1 : RunI (mkP x tm) G p c cv o rv ov s) (hl : s.out.length ≤ 1000000) {a y : Nat} (hA : G[a]? = some (.arr 0 1 false [.optr p 0 0 0])) (hY : G[y]? = some (rng74 a .ready)) (hac : a ≠ c) (hap : a ≠ p) (hao : o ≠ some a) {n : Nat} (hn : n < s.cs.length) (j : Int) :
  okV (evRound W y [I j, I n] G) (fun u G' => u = .bool true ∧ ∃ o' ov', RunI (mkP x tm) G' p c cv o' rv ov' (stepStop tm n s) ∧ Frame p c o o' G G') := by
 have hyl : y < G.length := (gEs.1 hY).1
 have hia : y ≠ a := fun e => by subst e; rw [hA] at hY; cases hY
 have hi : IsLoop (rng74 a .ready) := ⟨_, _, _, _, _, _, rfl⟩
 obtain ⟨n1, n2, n3⟩ := g1.away hY hi
 have b1 := g1.setL hY hi (rng74 a .busy)
 have bY : (G.set y (rng74 a .busy))[y]? = some (rng74 a .busy) := gEt hyl
 have bA : (G.set y (rng74 a .busy))[a]? = some (.arr 0 1 false [.optr p 0 0 0]) := by rw [gEn hia]; exact hA
 have hp1 := b1.hp
 have hc1 := b1.hc
 have hnc : s.cs[n]? = some s.cs[n] := gEg hn
 have fin : ∀ (G3 : Heap) (o' : Option Nat), Frame p c o o' (G.set y (rng74 a .busy)) G3 → Frame p c o o' G (G3.set y (rng74 a .ready)) := by
  intro G3 o' hf
  have hl3 := hf.len
  rw [List.length_set] at hl3
  refine ⟨by rw [List.length_set]; exact hl3, fun j hj h1 h2 h3 => ?_, fun i hi => ?_⟩
  ·by_cases hjy : j = y
   ·subst hjy
    rw [gEt (by omega), hY]
   ·rw [gEn (fun e => hjy e.symm), hf.keep j (by rw [List.length_set]; exact hj) h1 h2 h3, gEn (fun e => hjy e.symm)]
  ·have := hf.new i hi
   rw [List.length_set] at this
   exact this
 simp only [mkP] at hp1
 by_cases ha : s.cs[n].status = 1
 ·obtain ⟨G2, d0, d1, d2⟩ := e72 x tm b1 n hn 2
  have hset : s.setS n 2 = { s with cs := s.cs.set n { s.cs[n] with status := 2 } } := by simp only [RunSt.setS, hnc]
  obtain ⟨v, G3, f0, rfl, o', ov', f1, f2⟩ := okV_iff.1 (e83 x tm d1 (by rw [hset]; exact hl) 4 n)
  have c1 : W.call (.clo 94 [] []) [.optr p 0 0 0, I n, I 2] (G.set y (rng74 a .busy)) = some (.tuple [], G2) := by rw [W_call Φ94]; exact d0
  have c2 : W.call (.clo 108 [] []) [.optr p 0 0 0, I 4, I n] G2 = some (.tuple [], G3) := by rw [W_call Φ108]; exact f0
  have A2 := d2.get bA hap hac hao
  have F3 := d2.trans f2
  have Y3 := F3.get bY n1 n2 n3
  have hst : stepStop tm n s = (s.setS n 2).act tm 4 n := by rw [hset]; simp [stepStop, hn, ha]
  have : okV (evRound W y [I j, I n] G) (fun u G' => u = .bool true ∧ G' = G3.set y (rng74 a .ready)) := by
   simp only [rng74] at hY bA c1 A2 c2 Y3 hp1 hc1 ⊢
   rw [evRound_ready hY rfl]
   simp [evFun, enterFr, intBin, resV, rvVs, rvV, hY, putAll, ev_ra74, xa74, ev_rb74, xb74, bA, hp1, hc1, hn, ha, c1, A2, c2, Y3]
  obtain ⟨u, G', e1, rfl, rfl⟩ := okV_iff.1 this
  rw [e1, hst]
  exact ⟨rfl, o', ov', f1.setL Y3 ⟨_, _, _, _, _, _, rfl⟩ _, fin _ _ F3⟩
 ·have hst : stepStop tm n s = s := by simp [stepStop, hn, ha]
  have : okV (evRound W y [I j, I n] G) (fun u G' => u = .bool true ∧ G' = (G.set y (rng74 a .busy)).set y (rng74 a .ready)) := by
   simp only [rng74] at hY bA bY hp1 hc1 ⊢
   rw [evRound_ready hY rfl]
   simp [evFun, enterFr, intBin, resV, rvVs, rvV, hY, putAll, ev_ra74, xa74, ev_rb74, xb74, bA, bY, hp1, hc1, hn, ha]
  obtain ⟨u, G', e1, rfl, rfl⟩ := okV_iff.1 this
  rw [e1, hst]
  exact ⟨rfl, o, ov, b1.setL bY ⟨_, _, _, _, _, _, rfl⟩ _, fin _ _ (Frame.refl _ _ _ _)⟩
end
section
theorem back85 {σ : Type} {v : AV} {l : List Int} {b y : Nat} (step : Int → σ → σ) (Inv : Nat → σ → Heap → Prop) (hll : l.length ≤ 1000000) (hvc : v.cells = [v]) (hI : ∀ k s G, Inv k s G → G[b]? = some (.arr 0 1 false [v]) ∧ Rd G 1 v (l.map I))
  (hr : ∀ k a (j : Int) s G, l.reverse[k]? = some a → Inv k s G → okV (evRound W y [I j, I a] G) (fun u G' => u = .bool true ∧ Inv (k + 1) (step a s) G')) {s : σ} {H : Heap} (h : Inv 0 s H) :
  okV (evFun W fi109 [.yld y, .optr b 0 0 0] H) (fun u G => u = .tuple [] ∧ Inv l.length (l.foldr step s) G) := by
 obtain ⟨hb, hrd⟩ := hI _ _ _ h
 have hlen := hrd.len
 rw [List.length_map] at hlen
 have hL := loop_fold (Φ := Φ) (live := [0, 1, 3]) (L := l109_0) l.reverse (σ := σ) (fun _ a s => step a s) (fun k s F G => F = [(0, .yld y), (1, .optr b 0 0 0), (3, I ((l.length : Int) - 1 - k))] ∧ Inv k s G) (fun s x F G => x = .exit 0 ∧ Inv l.length s G) (s := s) (F := [(0, .yld y), (1, .optr b 0 0 0), (3, I ((l.length : Int) - 1))]) (H := H) ⟨by simp, h⟩ ?_ ?_
 ·rw [fold_fst step, List.foldl_reverse] at hL
  obtain ⟨x, F, G, e1, rfl, g1⟩ := okC_iff.1 hL
  have hw : IntKind.wrap .i64 ((l.length : Int) - 1) = (l.length : Int) - 1 := by rw [wrap64] <;> omega
  simp [fi109, c109, evFun, enterFr, intBin, resV, rvVs, rvV, hb, hrd.ok, hvc, hlen, hw, e1]
  exact g1
 ·rintro k a s F G _ hc ⟨rfl, g1⟩
  obtain ⟨hk, hka⟩ := rev_get hc
  obtain ⟨hb, hrd⟩ := hI _ _ _ g1
  have hj : (l.length : Int) - 1 - k = ((l.length - 1 - k : Nat) : Int) := by omega
  have hw : IntKind.wrap .i64 (((l.length - 1 - k : Nat) : Int) - 1) = (l.length : Int) - 1 - (k + 1) := by rw [wrap64] <;> omega
  obtain ⟨q1, q2, q3, q4, _⟩ := hrd.get (l.length - 1 - k) (I a) (by rw [List.getElem?_map, hka]; rfl)
  have q4 := q4 false 1 (by intro h; cases h)
  obtain ⟨u, G', f1, rfl, f2⟩ := okV_iff.1 (hr k a ((l.length - 1 - k : Nat) : Int) s G hc g1)
  have c1 : W.call (.yld y) [I ((l.length - 1 - k : Nat) : Int), I a] G = some (.bool true, G') := by rw [W_yld]; exact f1
  rw [hj]
  simp [evl109_0, b109_0, intBin, hb, hrd.ok, hvc, hw, q2, q3, q4, c1]
  exact f2
 ·rintro s F G ⟨rfl, hP⟩
  have hm : ((l.length : Int) - 1 - (l.reverse.length : Nat)) = -1 := by simp; omega
  rw [hm]
  simp [evl109_0, b109_0, intBin]
  simpa using hP
theorem e74 (x : Spec) (tm : Int) {H : Heap} {p c cv : Nat} {o : Option Nat} {rv ov : AV} {r : RunSt} (h : RunI (mkP x tm) H p c cv o rv ov r) (hl : r.out.length ≤ 900000) {v : AV} {l : List Int} (hv : OptI H p c o v l) (hll : l.length ≤ 1000) (hi : ∀ i ∈ l, 0 ≤ i ∧ i < r.cs.length) :
  okV (evFun W fi96 [.optr p 0 0 0, v] H) (Does (mkP x tm) p c cv o rv H (stopS tm l r)) := by
 have hlen := hv.ok.2.2.2
 have hvo := hv.ok.1
 have hvc := hv.ok.2.1
 have hvd := hv.ok.2.2.1
 have hK := Kept.append none H [.arr 0 1 false [.optr p 0 0 0], .arr 0 1 false [v], rng74 H.length .ready]
 have hpl : p < H.length := (gEs.1 h.hp).1
 have hcl : c < H.length := (gEs.1 h.hc).1
 have hol : ∀ i, o = some i → i < H.length := by
  intro i e
  have h1 := h.out
  rw [e] at h1
  exact h1.lt
 have hB := back85 (v := v) (l := l) (b := H.length + 1) (y := H.length + 2) (stepStop tm) (fun k s G => LoopP (mkP x tm) p c cv rv (H ++ [.arr 0 1 false [.optr p 0 0 0], .arr 0 1 false [v], rng74 H.length .ready]) o r k s G) (by omega) hvc ?_ ?_ (s := r) (H := H ++ [.arr 0 1 false [.optr p 0 0 0], .arr 0 1 false [v], rng74 H.length .ready]) ⟨o, ov, h.kept hK, Frame.refl _ _ _ _, rfl, Nat.le_refl _⟩
 ·obtain ⟨u, G, e1, rfl, o', ov', g1, g2, g3, g4⟩ := okV_iff.1 hB
  have hY : G[H.length + 2]? = some (rng74 H.length .ready) := g2.get (by simp) (by omega) (by omega) (fun e => by have := hol _ e; omega)
  have c1 : W.call (.clo 109 [] [.optr (H.length + 1) 0 0 0]) [.yld (H.length + 2)] (H ++ [.arr 0 1 false [.optr p 0 0 0], .arr 0 1 false [v], rng74 H.length .ready]) = some (.tuple [], G) := by rw [W_call Φ109]; exact e1
  have : okV (evFun W fi96 [.optr p 0 0 0, v] H) (fun u G' => u = .tuple [] ∧ G' = G.set (H.length + 2) (.loop .exhausted none [(2, .optr H.length 0 0 0)] [8, 9] ra96_0 rb96_0)) := by
   simp only [rng74] at c1 hY
   simp [fi96, c96, evFun, enterFr, intBin, resV, rvVs, rvV, hvo, hvc, hvd, W_call Φ107, fi107, c107, evFun, enterFr, intBin, resV, rvVs, rvV, c1, hY, rngEnd]
  obtain ⟨u, G', f1, rfl, rfl⟩ := okV_iff.1 this
  rw [f1]
  refine ⟨rfl, o', ov', g1.setL hY ⟨_, _, _, _, _, _, rfl⟩ _, ?_⟩
  have g5 := (Frame.of_kept hK).trans g2
  refine ⟨by rw [List.length_set]; exact g5.len, fun j hj h1 h2 h3 => ?_, g5.new⟩
  rw [gEn (by omega)]
  exact g5.keep j hj h1 h2 h3
 ·rintro k s G ⟨o', ov', g1, g2, g3, g4⟩
  exact ⟨g2.get (by simp) (by omega) (by omega) (fun e => by have := hol _ e; omega), ((hv.kept hK).frame g2).rd⟩
 ·rintro k a j s G hc ⟨o', ov', g1, g2, g3, g4⟩
  obtain ⟨hk, hka⟩ := rev_get hc
  obtain ⟨ha0, ha1⟩ := hi a (List.mem_of_getElem? hka)
  obtain ⟨n, rfl⟩ : ∃ n : Nat, a = n := ⟨a.toNat, by omega⟩
  have hA : G[H.length]? = some (.arr 0 1 false [.optr p 0 0 0]) := g2.get (by simp) (by omega) (by omega) (fun e => by have := hol _ e; omega)
  have hY : G[H.length + 2]? = some (rng74 H.length .ready) := g2.get (by simp) (by omega) (by omega) (fun e => by have := hol _ e; omega)
  have hao : o' ≠ some H.length := fun e => by
   rcases g2.new _ e with h1 | h1
   ·have := hol _ h1; omega
   ·simp at h1; omega
  obtain ⟨u, G', f1, rfl, o'', ov'', f2, f3⟩ := okV_iff.1 (round74 x tm g1 (by omega) hA hY (by omega) (by omega) hao (n := n) (by omega) j)
  rw [f1]
  refine ⟨rfl, o'', ov'', f2, g2.trans f3, by rw [stepStop_len]; exact g3, ?_⟩
  have : (stepStop tm n s).out.length ≤ s.out.length + 1 := by
   unfold stepStop; split
   ·split <;> simp [RunSt.act]
   ·omega
  omega
end
section
theorem OptI.of_grow {H : Heap} {p c : Nat} {o q : Option Nat} {v : AV} {l : List Int} (h : Grow H 1 q v (l.map I)) (hq : ∀ i, q = some i → i ≠ p ∧ i ≠ c ∧ o ≠ some i) : OptI H p c o v l := by
 cases q with
 | none =>
  obtain ⟨rfl, h2⟩ := h
  have : l = [] := by simpa using h2
  subst this
  exact .inl ⟨slNil, rfl, rfl⟩
 | some i => exact .inr ⟨i, h, hq i rfl⟩
theorem RunI.lt {mk : Mk} {G : Heap} {p c cv : Nat} {o : Option Nat} {rv ov : AV} {s : RunSt} (h : RunI mk G p c cv o rv ov s) : p < G.length ∧ c < G.length ∧ ∀ i, o = some i → i < G.length := by
 refine ⟨(gEs.1 h.hp).1, (gEs.1 h.hc).1, fun i e => ?_⟩
 have h1 := h.out
 rw [e] at h1
 exact h1.lt
theorem RunI.new {mk : Mk} {H G : Heap} {p c cv : Nat} {o q : Option Nat} {rv ov v : AV} {s : RunSt} {l : List Int} (h : RunI mk H p c cv o rv ov s) (hg : Grow G 1 q v (l.map I)) (hq : ∀ i, q = some i → H.length ≤ i) : OptI G p c o v l := by
 obtain ⟨h1, h2, h3⟩ := h.lt
 exact OptI.of_grow hg (fun i e => by have := hq i e; exact ⟨by omega, by omega, fun e' => by have := h3 i e'; omega⟩)
def idxs (n : Nat) : List Int := (List.range n).map fun (k : Nat) => (k : Int)
theorem idxs_len (n : Nat) : (idxs n).length = n := by simp [idxs]
theorem idxs_succ (n : Nat) : idxs (n + 1) = idxs n ++ [(n : Int)] := by simp [idxs, List.range_succ]
theorem idxs_in {n : Nat} {i : Int} (h : i ∈ idxs n) : 0 ≤ i ∧ i < n := by
 simp only [idxs, List.mem_map, List.mem_range] at h
 obtain ⟨k, h1, rfl⟩ := h
 omega
theorem e77 (x : Spec) (tm : Int) {H : Heap} {p c cv : Nat} {o : Option Nat} {rv ov : AV} {r : RunSt} (h : RunI (mkP x tm) H p c cv o rv ov r) (hn : r.cs.length ≤ 1000000) :
  okV (evFun W fi100 [.optr p 0 0 0] H) (fun v G => Kept none H G ∧ ∃ q, Grow G 1 q v ((idxs r.cs.length).map I) ∧ ∀ i, q = some i → H.length ≤ i) := by
 have hp := h.hp
 simp only [mkP] at hp
 have hL := loop_fold (Φ := Φ) (live := [3, 10, 11]) (L := l100_0) r.cs (σ := Unit) (fun _ _ s => s) (fun k _ F G => ∃ v, F = [(3, v), (10, I r.cs.length), (11, I k)] ∧ Kept none H G ∧ ∃ q, Grow G 1 q v ((idxs k).map I) ∧ ∀ i, q = some i → H.length ≤ i) (fun _ y F G => y = .exit 0 ∧ Kept none H G ∧ ∃ q, Grow G 1 q (F.get 3) ((idxs r.cs.length).map I) ∧ ∀ i, q = some i → H.length ≤ i) (s := ()) (F := [(3, .isl (some true) 0 []), (10, I r.cs.length), (11, I 0)]) (H := H) ⟨_, rfl, Kept.refl _ _, none, grow_nil _ _, by simp⟩ ?_ ?_
 ·obtain ⟨y, F, G, e1, rfl, e2, q, e3, e4⟩ := okC_iff.1 hL
  simp [fi100, c100, evFun, enterFr, intBin, resV, rvVs, rvV, hp, e1, e3.okO]
  exact ⟨e2, q, e3, e4⟩
 ·rintro k a ⟨⟩ F G hk hc ⟨v, rfl, g1, q, g2, g3⟩
  have hw := wrap_succ (k := k) (by omega)
  obtain ⟨q', v', G', a1, a2, a3, a4⟩ := g2.app1 (I k) (by simp) (by simp [idxs_len, appRoom]; omega)
  have hk' : Kept none H G' := ⟨Nat.le_trans g1.1 a3.1, fun j hj hl => by
   rw [a3.2 j (fun e => by have := g3 j e; omega) (by have := g1.1; omega)]
   exact g1.2 j hj hl⟩
  simp [evl100_0, b100_0, intBin, hk, hw, g2.okO, a1, a2.okO]
  refine ⟨hk', q', by rw [idxs_succ, List.map_append]; exact a2, fun i hi => ?_⟩
  rcases a4 i hi with h1 | ⟨_, rfl⟩
  ·exact g3 i h1
  ·exact g1.1
 ·rintro ⟨⟩ F G ⟨v, rfl, g1, q, g2, g3⟩
  simp [evl100_0, b100_0, intBin]
  exact ⟨g1, q, g2, g3⟩
def stepShut (k : Nat) (s : RunSt) : RunSt :=
 match s.cs[k]? with
 | some c => if c.status = 4 then s.setS k 3 else s
 | none => s
theorem setS_len (s : RunSt) (k : Nat) (st : Int) : (s.setS k st).cs.length = s.cs.length := by unfold RunSt.setS; split <;> simp
theorem setS_out (s : RunSt) (k : Nat) (st : Int) : (s.setS k st).out = s.out := by unfold RunSt.setS; split <;> rfl
theorem stopS_len (tm : Int) (l : List Int) (r : RunSt) : (stopS tm l r).cs.length = r.cs.length := by
 induction l with
 | nil => rfl
 | cons a l ih => simp only [stopS, List.foldr_cons] at ih ⊢; rw [stepStop_len]; exact ih
theorem stepStop_out (tm : Int) (i : Int) (s : RunSt) : (stepStop tm i s).out.length ≤ s.out.length + 1 := by
 unfold stepStop; split
 ·split <;> simp [RunSt.act]
 ·omega
theorem stopS_out (tm : Int) (l : List Int) (r : RunSt) : (stopS tm l r).out.length ≤ r.out.length + l.length := by
 induction l with
 | nil => exact Nat.le_refl _
 | cons a l ih => simp only [stopS, List.foldr_cons, List.length_cons] at ih ⊢; have := stepStop_out tm a (l.foldr (stepStop tm) r); omega
def holdS (r : RunSt) : RunSt := r.cs.zipIdx.foldl (fun s a => stepShut a.2 s) r
def shutS (tm : Int) (r : RunSt) : RunSt :=
 if 0 < cnt (stopS tm (idxs r.cs.length) (holdS r)).cs 2 then { stopS tm (idxs r.cs.length) (holdS r) with st := 3 } else (stopS tm (idxs r.cs.length) (holdS r)).stopped tm
theorem e61 (x : Spec) (tm : Int) {H : Heap} {p c cv : Nat} {o : Option Nat} {rv ov : AV} {r : RunSt} (h : RunI (mkP x tm) H p c cv o rv ov r) (hn : r.cs.length ≤ 1000) (hl : r.out.length ≤ 800000) :
  okV (evFun W fi81 [.optr p 0 0 0] H) (Does (mkP x tm) p c cv o rv H (shutS tm r)) := by
 have hL := loop_fold (Φ := Φ) (live := [0, 8, 9, 10]) (L := l81_0) r.cs (σ := RunSt) (fun k _ s => stepShut k s) (fun k s F G => F = [(0, .optr p 0 0 0), (8, .osl c cv 0 r.cs.length), (9, I r.cs.length), (10, I k)] ∧ LoopP (mkP x tm) p c cv rv H o r k s G) (fun s y F G => y = .exit 0 ∧ F.get 0 = .optr p 0 0 0 ∧ LoopP (mkP x tm) p c cv rv H o r r.cs.length s G) (s := r) (F := [(0, .optr p 0 0 0), (8, .osl c cv 0 r.cs.length), (9, I r.cs.length), (10, I 0)]) (H := H) ⟨rfl, o, ov, h, Frame.refl _ _ _ _, rfl, Nat.le_refl _⟩ ?_ ?_
 ·obtain ⟨y, F, G, e1, rfl, e2, o1, ov1, g1, g2, g3, g4⟩ := okC_iff.1 hL
  have hhold : r.cs.zipIdx.foldl (fun s a => stepShut a.2 s) r = holdS r := rfl
  rw [hhold] at g1 g3 g4
  have hp := h.hp
  simp only [mkP] at hp
  obtain ⟨v, G2, a0, a1, q, a2, a3⟩ := okV_iff.1 (e77 x tm g1 (by omega))
  have k1 := g1.kept a1
  have hv := g1.new a2 a3
  rw [g3] at hv
  obtain ⟨v2, G3, b0, rfl, o2, ov2, b1, b2⟩ := okV_iff.1 (e74 x tm k1 (by omega) hv (by rw [idxs_len]; exact hn) (fun i hi => by have := idxs_in hi; rw [g3]; exact this))
  have c1 : W.call (.clo 100 [] []) [.optr p 0 0 0] G = some (v, G2) := by rw [W_call Φ100]; exact a0
  have c2 : W.call (.clo 96 [] []) [.optr p 0 0 0, v] G2 = some (.tuple [], G3) := by rw [W_call Φ96]; exact b0
  have hbl := stopS_len tm (idxs r.cs.length) (holdS r)
  have hbo := stopS_out tm (idxs r.cs.length) (holdS r)
  rw [idxs_len] at hbo
  obtain ⟨v4, G4, d0, rfl, d1⟩ := okV_iff.1 (call68 (.osl c cv 0 (stopS tm (idxs r.cs.length) (holdS r)).cs.length) (stopS tm (idxs r.cs.length) (holdS r)).cs (by omega) 2 G3 (by have := Rd.of_own b1.hc; rwa [List.length_map] at this))
  have c3 : W.call (.clo 75 [] []) [.osl c cv 0 (stopS tm (idxs r.cs.length) (holdS r)).cs.length, I 2] G3 = some (I (cnt (stopS tm (idxs r.cs.length) (holdS r)).cs 2), G4) := by rw [W_call Φ75]; exact d0
  have k4 := b1.kept d1
  have f4 := ((g2.put' a1).trans b2).put' d1
  have hp3 := b1.hp
  have hp4 := k4.hp
  simp only [mkP] at hp3 hp4
  unfold shutS
  generalize hS : stopS tm (idxs r.cs.length) (holdS r) = S at *
  by_cases hz : 0 < cnt S.cs 2
  ·obtain ⟨m1, m2⟩ := k4.put 3 S.fl
   have : okV (evFun W fi81 [.optr p 0 0 0] H) (fun v G' => v = .tuple [] ∧ G' = G4.set p (.arr 0 10 false [mkP x tm 3 (.osl c cv 0 S.cs.length) rv S.fl ov2])) := by
    simp [fi81, c81, evFun, enterFr, intBin, resV, rvVs, rvV, hp, e1, e2, c1, hv.ok.1, c2, hp3, c3, hz, hp4, mkP]
   obtain ⟨v', G', f1, rfl, rfl⟩ := okV_iff.1 this
   rw [f1, if_pos hz]
   exact ⟨rfl, o2, ov2, m1, f4.trans m2⟩
  ·obtain ⟨v5, G5, m0, rfl, o5, ov5, m1, m2⟩ := okV_iff.1 (e76 x tm k4 (by omega))
   have c5 : W.call (.clo 99 [] []) [.optr p 0 0 0] G4 = some (.tuple [], G5) := by rw [W_call Φ99]; exact m0
   have : okV (evFun W fi81 [.optr p 0 0 0] H) (fun v G' => v = .tuple [] ∧ G' = G5) := by
    simp [fi81, c81, evFun, enterFr, intBin, resV, rvVs, rvV, hp, e1, e2, c1, hv.ok.1, c2, hp3, c3, hz, c5]
   obtain ⟨v', G', f1, rfl, rfl⟩ := okV_iff.1 this
   rw [f1, if_neg hz]
   exact ⟨rfl, o5, ov5, m1, f4.trans m2⟩
 ·rintro k e s F G hk hc ⟨rfl, o', ov', g1, g2, g3, g4⟩
  have hw := wrap_succ (k := k) (by omega)
  have hks : k < s.cs.length := by omega
  have hkc : s.cs[k]? = some s.cs[k] := gEg hks
  have hap := Kept.append none G [.arr 0 2 false [s.cs[k].av]]
  have g5 := g1.kept hap
  have hc1 := g1.hc
  by_cases ha : s.cs[k].status = 4
  ·obtain ⟨G', d0, d1, d2⟩ := e72 x tm g5 k hks 3
   have c1 : W.call (.clo 94 [] []) [.optr p 0 0 0, I k, I 3] (G ++ [Blk.arr 0 2 false [s.cs[k].av]]) = some (.tuple [], G') := by
    rw [W_call Φ94]; exact d0
   have hst : stepShut k s = s.setS k 3 := by simp [stepShut, hks, ha]
   rw [hst]
   simp [evl81_0, b81_0, intBin, hk, hw, hc1, ha, hks, c1]
   exact ⟨_, _, d1, (g2.put' hap).trans d2, by rw [setS_len]; exact g3, by rw [setS_out]; omega⟩
  ·have hst : stepShut k s = s := by simp [stepShut, hks, ha]
   rw [hst]
   simp [evl81_0, b81_0, intBin, hk, hw, hc1, ha, hks]
   exact ⟨_, _, g5, g2.put' hap, g3, by omega⟩
 ·rintro s F G ⟨rfl, hP⟩
  simp [evl81_0, b81_0, intBin]
  exact hP
end
section
theorem RunI.rlt {mk : Mk} {H : Heap} {p c cv : Nat} {o : Option Nat} {rv ov : AV} {r : RunSt} (h : RunI mk H p c cv o rv ov r) {i ver off len : Nat} (e : rv = .osl i ver off len) : i < H.length := by
 rcases h.rs with ⟨s, h1, _⟩ | ⟨q, h1, _⟩
 ·rw [h1] at e; cases e
 ·have h2 := h1.lt
  obtain ⟨ver', t, e1, _⟩ := h1
  rw [e1] at e; cases e; exact h2
theorem RunI.keptQ {mk : Mk} {H G : Heap} {p c cv : Nat} {o q : Option Nat} {rv ov : AV} {r : RunSt} (h : RunI mk H p c cv o rv ov r) (hk : Kept q H G) (hq : ∀ i, q = some i → i ≠ p ∧ i ≠ c ∧ o ≠ some i) (hr : ∀ i ver off len, rv = .osl i ver off len → q ≠ some i) : RunI mk G p c cv o rv ov r := by
 refine ⟨hk.get (fun e => (hq _ e).1 rfl) h.hp, hk.get (fun e => (hq _ e).2.1 rfl) h.hc, ?_, h.out.kept hk (fun id hid => (hq id hid).2.2), h.pc, h.op, h.oc⟩
 rcases h.rs with h4 | ⟨i, h4, h5⟩
 ·exact .inl h4
 ·refine .inr ⟨i, h4.kept hk (fun id hid e => ?_), h5⟩
  cases e
  obtain ⟨ver, t, e1, _⟩ := h4
  exact hr i _ _ _ e1 hid
structure Beside (n : Nat) (G : Heap) (p c : Nat) (o : Option Nat) (v : AV) (l : List Int) : Prop where
 has : ∃ q, Grow G 1 q v (l.map I) ∧ (∀ i, q = some i → n ≤ i ∧ o ≠ some i)
theorem Beside.optI {n : Nat} {G : Heap} {p c : Nat} {o : Option Nat} {v : AV} {l : List Int} (h : Beside n G p c o v l) (hp : p < n) (hc : c < n) : OptI G p c o v l := by
 obtain ⟨q, h1, h2⟩ := h.has
 exact OptI.of_grow h1 (fun i e => by obtain ⟨h3, h4⟩ := h2 i e; exact ⟨by omega, by omega, h4⟩)
theorem Beside.snoc {mk : Mk} {H0 G : Heap} {p c cv : Nat} {o : Option Nat} {rv ov v : AV} {s r0 : RunSt} {l : List Int} {o0 : Option Nat} {ov0 : AV} (h : Beside H0.length G p c o v l) (h0 : RunI mk H0 p c cv o0 rv ov0 r0) (g : RunI mk G p c cv o rv ov s) (hl : l.length ≤ 1000000) (hn : H0.length ≤ G.length) (a : Int) :
  ∃ v' G', ex G (.app 1) [v, .isl (some false) 1 [I a]] = some (v', G') ∧ okO v = some v ∧ okO v' = some v' ∧ Beside H0.length G' p c o v' (l ++ [a]) ∧ RunI mk G' p c cv o rv ov s ∧ G.length ≤ G'.length ∧ ∀ j, j < H0.length → G'[j]? = G[j]? := by
 obtain ⟨q, h1, h2⟩ := h.has
 obtain ⟨l1, l2, l3⟩ := h0.lt
 obtain ⟨m1, m2, m3⟩ := g.lt
 obtain ⟨q', v', G', a1, a2, a3, a4⟩ := h1.app1 (I a) (by simp) (by simp [appRoom]; omega)
 refine ⟨v', G', a1, h1.okO, a2.okO, ⟨q', by simpa using a2, fun i hi => ?_⟩, g.keptQ a3 (fun i hi => ?_) (fun i ver off len e hi => ?_), a3.1, fun j hj => a3.2 j (fun e => ?_) (by omega)⟩
 ·rcases a4 i hi with h3 | ⟨_, rfl⟩
  ·exact h2 i h3
  ·exact ⟨hn, fun e => by have := m3 _ e; omega⟩
 ·obtain ⟨h3, h4⟩ := h2 i hi
  exact ⟨by omega, by omega, h4⟩
 ·have := h0.rlt e
  have := (h2 i hi).1
  omega
 ·have := (h2 j e).1; omega
theorem Beside.frame {n : Nat} {G G' : Heap} {p c : Nat} {o o' : Option Nat} {v : AV} {l : List Int} (h : Beside n G p c o v l) (hf : Frame p c o o' G G') (hp : p < n) (hc : c < n) : Beside n G' p c o' v l := by
 obtain ⟨q, h1, h2⟩ := h.has
 cases q with
 | none => exact ⟨none, h1, by simp⟩
 | some i =>
  obtain ⟨h3, h4⟩ := h2 i rfl
  have hl := h1.lt
  obtain ⟨ver, t, e1, e2⟩ := h1
  refine ⟨some i, ⟨ver, t, e1, hf.get e2 (by omega) (by omega) h4⟩, fun j hj => ?_⟩
  cases hj
  refine ⟨h3, fun e => ?_⟩
  rcases hf.new _ e with h5 | h5
  ·exact h4 h5
  ·omega
structure Low (n p c : Nat) (o o' : Option Nat) (H G : Heap) : Prop where
 len : H.length ≤ G.length
 keep : ∀ j, j < n → j ≠ p → j ≠ c → o ≠ some j → G[j]? = H[j]?
 new : ∀ i, o' = some i → o = some i ∨ n ≤ i
theorem Low.frame {p c : Nat} {o o' : Option Nat} {H G : Heap} (h : Low H.length p c o o' H G) : Frame p c o o' H G := ⟨h.len, h.keep, h.new⟩
theorem Low.trans {n p c : Nat} {o o' o'' : Option Nat} {A B C : Heap} (hn : n ≤ A.length) (h : Low n p c o o' A B) (h' : Frame p c o' o'' B C) : Low n p c o o'' A C := by
 refine ⟨Nat.le_trans h.len h'.len, fun j hj h1 h2 h3 => ?_, fun i hi => ?_⟩
 ·rw [h'.keep j (by have := h.len; omega) h1 h2 (fun e => ?_), h.keep j hj h1 h2 h3]
  rcases h.new j e with h4 | h4
  ·exact h3 h4
  ·omega
 ·rcases h'.new i hi with h1 | h1
  ·exact h.new i h1
  ·have := h.len; exact .inr (by omega)
theorem Low.step {n p c : Nat} {o o' : Option Nat} {A B C : Heap} (h : Low n p c o o' A B) (hl : B.length ≤ C.length) (hk : ∀ j, j < n → C[j]? = B[j]?) : Low n p c o o' A C :=
 ⟨Nat.le_trans h.len hl, fun j hj h1 h2 h3 => by rw [hk j hj, h.keep j hj h1 h2 h3], h.new⟩
def LoopB (mk : Mk) (p c cv : Nat) (rv : AV) (H : Heap) (o : Option Nat) (r : RunSt) (k : Nat) (s : RunSt) (v : AV) (G : Heap) : Prop :=
 ∃ o' ov', RunI mk G p c cv o' rv ov' s ∧ Low H.length p c o o' H G ∧ s.cs.length = r.cs.length ∧ s.out.length ≤ r.out.length ∧ Beside H.length G p c o' v (idxs k)
theorem e42 (x : Spec) (tm : Int) {H : Heap} {p c cv : Nat} {o : Option Nat} {rv ov : AV} {r : RunSt} (h : RunI (mkR x tm) H p c cv o rv ov r) (hn : r.cs.length ≤ 1000) (hl : r.out.length ≤ 800000) :
  okV (evFun W fi69 [.optr p 0 0 0] H) (Does (mkR x tm) p c cv o rv H (shutS tm r)) := by
 obtain ⟨l1, l2, l3⟩ := h.lt
 have hK := Kept.append none H [.arr 0 1 false []]
 have hL := loop_fold (Φ := Φ) (live := [0, 2, 3]) (L := l69_0) r.cs (σ := RunSt) (fun k _ s => stepShut k s) (fun k s F G => ∃ v, F = [(0, .optr p 0 0 0), (2, v), (3, I k)] ∧ LoopB (mkR x tm) p c cv rv H o r k s v G) (fun s y F G => y = .exit 0 ∧ F.get 0 = .optr p 0 0 0 ∧ LoopB (mkR x tm) p c cv rv H o r r.cs.length s (F.get 2) G) (s := r) (F := [(0, .optr p 0 0 0), (2, .osl H.length 0 0 0), (3, I 0)]) (H := H ++ [.arr 0 1 false []]) ⟨_, rfl, o, ov, h.kept hK, ⟨by simp, fun j hj _ _ _ => gEa hj, fun i hi => .inl hi⟩, rfl, Nat.le_refl _, ⟨some H.length, grow_mk (l := []) (by simp), fun i hi => by cases hi; exact ⟨Nat.le_refl _, fun e => by have := l3 _ e; omega⟩⟩⟩ ?_ ?_
 ·obtain ⟨y, F, G, e1, rfl, e2, o1, ov1, g1, g2, g3, g4, g5⟩ := okC_iff.1 hL
  have hhold : r.cs.zipIdx.foldl (fun s a => stepShut a.2 s) r = holdS r := rfl
  rw [hhold] at g1 g3 g4
  have hv := g5.optI l1 l2
  obtain ⟨v2, G3, b0, rfl, o2, ov2, b1, b2⟩ := okV_iff.1 (e63 x tm g1 (by omega) hv (by rw [idxs_len]; exact hn) (fun i hi => by have := idxs_in hi; rw [g3]; exact this))
  have c2 : W.call (.clo 86 [] []) [.optr p 0 0 0, F.get 2] G = some (.tuple [], G3) := by rw [W_call Φ86]; exact b0
  have hbl := stopS_len tm (idxs r.cs.length) (holdS r)
  have hbo := stopS_out tm (idxs r.cs.length) (holdS r)
  rw [idxs_len] at hbo
  have hrs := b1.rs.ok
  obtain ⟨v4, G4, d0, rfl, d1⟩ := okV_iff.1 (call64 (.osl c cv 0 (stopS tm (idxs r.cs.length) (holdS r)).cs.length) rv (stopS tm (idxs r.cs.length) (holdS r)).st (stopS tm (idxs r.cs.length) (holdS r)).fl (stopS tm (idxs r.cs.length) (holdS r)).cs (by omega) 2 G3 (by have := Rd.of_own b1.hc; rwa [List.length_map] at this) rfl rfl hrs.1 hrs.2.1 hrs.2.2.1)
  have c3 : W.call (.clo 84 [] []) [.agg [I (stopS tm (idxs r.cs.length) (holdS r)).st, .osl c cv 0 (stopS tm (idxs r.cs.length) (holdS r)).cs.length, rv, .bool (stopS tm (idxs r.cs.length) (holdS r)).fl], I 2] G3 = some (I (cnt (stopS tm (idxs r.cs.length) (holdS r)).cs 2), G4) := by rw [W_call Φ84]; exact d0
  have k4 := b1.kept d1
  have f4 := ((g2.trans (Nat.le_refl _) b2).trans (Nat.le_refl _) (Frame.of_kept d1)).frame
  have hp3 := b1.hp
  have hp4 := k4.hp
  simp only [mkR] at hp3 hp4
  unfold shutS
  generalize hS : stopS tm (idxs r.cs.length) (holdS r) = S at *
  by_cases hz : 0 < cnt S.cs 2
  ·obtain ⟨m1, m2⟩ := k4.put 3 S.fl
   have : okV (evFun W fi69 [.optr p 0 0 0] H) (fun v G' => v = .tuple [] ∧ G' = G4.set p (.arr 0 10 false [mkR x tm 3 (.osl c cv 0 S.cs.length) rv S.fl ov2])) := by
    simp [fi69, c69, evFun, enterFr, intBin, resV, rvVs, rvV, e1, e2, hv.ok.1, c2, hp3, c3, hz, hp4, mkR, hrs]
   obtain ⟨v', G', f1, rfl, rfl⟩ := okV_iff.1 this
   rw [f1, if_pos hz]
   exact ⟨rfl, o2, ov2, m1, f4.trans m2⟩
  ·obtain ⟨v5, G5, m0, rfl, o5, ov5, m1, m2⟩ := okV_iff.1 (e65 x tm k4 (by omega))
   have c5 : W.call (.clo 87 [] []) [.optr p 0 0 0] G4 = some (.tuple [], G5) := by rw [W_call Φ87]; exact m0
   have : okV (evFun W fi69 [.optr p 0 0 0] H) (fun v G' => v = .tuple [] ∧ G' = G5) := by
    simp [fi69, c69, evFun, enterFr, intBin, resV, rvVs, rvV, e1, e2, hv.ok.1, c2, hp3, c3, hz, c5, hrs]
   obtain ⟨v', G', f1, rfl, rfl⟩ := okV_iff.1 this
   rw [f1, if_neg hz]
   exact ⟨rfl, o5, ov5, m1, f4.trans m2⟩
 ·rintro k e s F G hk hc ⟨v, rfl, o', ov', g1, g2, g3, g4, g5⟩
  have hw := wrap_succ (k := k) (by omega)
  have hks : k < s.cs.length := by omega
  have hkr : k < r.cs.length := hk
  have hkc : s.cs[k]? = some s.cs[k] := gEg hks
  have hp0 := g1.hp
  obtain ⟨v', G', a1, a2, a3, a4, a5, a6, a7⟩ := g5.snoc h g1 (by rw [idxs_len]; omega) g2.len k
  have hp1 := a5.hp
  have hc1 := a5.hc
  have g6 := g2.step a6 a7
  simp only [mkR] at hp0 hp1
  rw [← idxs_succ] at a4
  by_cases ha : s.cs[k].status = 4
  ·obtain ⟨g7, g8⟩ := a5.setC k { s.cs[k] with status := 3 }
   have hset : s.setS k 3 = { s with cs := s.cs.set k { s.cs[k] with status := 3 } } := by simp only [RunSt.setS, hkc]
   have hst : stepShut k s = s.setS k 3 := by simp [stepShut, hks, ha]
   rw [hst, hset]
   simp [evl69_0, b69_0, intBin, hk, hw, g3, hp0, hp1, hc1, ha, hks, hkr, a1, a2, a3, -List.map_set]
   exact ⟨_, _, g7, g6.trans (Nat.le_refl _) g8, by simpa using g3, g4, a4.frame g8 l1 l2⟩
  ·have hst : stepShut k s = s := by simp [stepShut, hks, ha]
   rw [hst]
   simp [evl69_0, b69_0, intBin, hk, hw, g3, hp0, hp1, hc1, ha, hks, hkr, a1, a2, a3]
   exact ⟨_, _, a5, g6, g3, g4, a4⟩
 ·rintro s F G ⟨v, rfl, o', ov', g1, g2, g3, g4, g5⟩
  have hp1 := g1.hp
  simp only [mkR] at hp1
  simp [evl69_0, b69_0, intBin, hp1, g3]
  exact ⟨_, _, g1, g2, g3, g4, g5⟩
end
section
def oldT (x : Spec) (tm t : Int) : Bool := decide (t ≤ IntKind.wrap .i64 (tm - x.window))
def recentL (x : Spec) (tm : Int) (l : List Int) : List Int := l.filter fun t => !oldT x tm t
def KnownNil {α : Type} (s : Sl α) : Prop := (s.nl = some true ∧ s.l = []) ∨ s.nl = some false
theorem SlOk.known {α : Type} {p : α → Prop} {s : Sl α} (h : SlOk p s) : KnownNil s := h.nl
theorem e80 (s : Sl Int) (hs : KnownNil s) (hl : s.l.length ≤ 1000000) (H : Heap) :
  okV (evFun W fi105 [Sl.ints s] H) (fun v G => Kept none H G ∧ ∃ q, Grow G 1 q v (s.l.map I) ∧ ∀ i, q = some i → H.length ≤ i) := by
 obtain ⟨nl, z, l⟩ := s
 rcases hs with ⟨h1, h2⟩ | h1
 ·simp only at h1 h2
  subst h1 h2
  simp [fi105, c105, evFun, enterFr, intBin, resV, rvVs, rvV]
  exact ⟨Kept.refl _ _, none, grow_nil _ _, by simp⟩
 ·simp only at h1 hl
  subst h1
  have hK := Kept.append none H [.arr 0 1 false []]
  have hg : Grow (H ++ [.arr 0 1 false []]) 1 (some H.length) (.osl H.length 0 0 0) ([] : List AV) := grow_mk (l := []) (by simp)
  obtain ⟨q, v, G, a1, a2, a3, a4, a5⟩ := hg.app (y := Sl.ints ⟨some false, z, l⟩) (xs := l.map I) (by simp) (by simp) (by simp [appRoom]; omega)
  simp [fi105, c105, evFun, enterFr, intBin, resV, rvVs, rvV, a1, a2.okO]
  refine ⟨⟨Nat.le_trans hK.1 a3.1, fun j hj hl => ?_⟩, q, by simpa using a2, fun i hi => ?_⟩
  ·rw [a3.2 j (fun e => by cases e; omega) (by have := hK.1; omega)]
   exact hK.2 j hj hl
  ·rcases a4 with rfl | ⟨h3, _⟩
   ·cases hi; exact Nat.le_refl _
   ·cases h3
theorem call81 (x : Spec) (tm t : Int) {G : Heap} {a b : Nat} (ha : G[a]? = some (.arr 0 1 false [I tm])) (hb : G[b]? = some (.arr 0 4 false [x.av])) : W.call (.clo 106 [] [.optr a 0 0 0, .optr b 0 0 0]) [I t] G = some (.bool (oldT x tm t), G) := by
 rw [W_call Φ106]
 simp [fi106, c106, evFun, enterFr, intBin, resV, rvVs, rvV, ha, hb, oldT]
theorem e84 (x : Spec) (tm : Int) {G : Heap} {a b : Nat} (ha : G[a]? = some (.arr 0 1 false [I tm])) (hb : G[b]? = some (.arr 0 4 false [x.av])) {v : AV} {l : List Int} (hv : Rd G 1 v (l.map I)) (hl : l.length ≤ 1000000) :
  evFun W fi62 [v, .clo 106 [] [.optr a 0 0 0, .optr b 0 0 0]] G = some (I (match l.findIdx? (oldT x tm) with | some i => (i : Int) | none => -1), G) := by
 have hlen := hv.len
 rw [List.length_map] at hlen
 have hL := loop_all (Φ := Φ) (live := [0, 1, 7, 8]) (L := l62_0) l (σ := Unit) (ρ := Nat) (fun k t s => if oldT x tm t = true then .inr k else .inl ()) (fun k _ F G' => F = [(0, v), (1, .clo 106 [] [.optr a 0 0 0, .optr b 0 0 0]), (7, I l.length), (8, I k)] ∧ G' = G) (fun i y F G' => y = .ret ∧ F.get 4 = I i ∧ G' = G) (fun _ y F G' => y = .exit 0 ∧ G' = G) (s := ()) (F := [(0, v), (1, .clo 106 [] [.optr a 0 0 0, .optr b 0 0 0]), (7, I l.length), (8, I 0)]) (H := G) ⟨rfl, rfl⟩ ?_ ?_
 ·have hf : ∀ (r : List Int) (k : Nat), foldE (fun k t (s : Unit) => if oldT x tm t = true then Sum.inr k else Sum.inl ()) k r () = match r.findIdx? (oldT x tm) with | some i => .inr (k + i) | none => .inl () := by
   intro r
   induction r with
   | nil => intro k; rfl
   | cons t r ih =>
    intro k
    by_cases ht : oldT x tm t = true
    ·simp [foldE, ht, List.findIdx?_cons]
    ·simp only [foldE, ht, if_false, List.findIdx?_cons, ih (k + 1)]
     cases r.findIdx? (oldT x tm) with
     | none => rfl
     | some i => simp; omega
  rw [hf] at hL
  cases hi : l.findIdx? (oldT x tm) with
  | none =>
   rw [hi] at hL
   obtain ⟨y, F, G', e1, rfl, rfl⟩ := okC_iff.1 hL
   simp [fi62, c62, evFun, enterFr, intBin, resV, rvVs, rvV, hv.ok, hlen, e1]
  | some i =>
   rw [hi] at hL
   obtain ⟨y, F, G', e1, rfl, e2, rfl⟩ := okC_iff.1 hL
   simp [fi62, c62, evFun, enterFr, intBin, resV, rvVs, rvV, hv.ok, hlen, e1, e2]
 ·rintro k t ⟨⟩ F G' hk ht ⟨rfl, rfl⟩
  have hw := wrap_succ (k := k) (by omega)
  obtain ⟨q1, q2, q3, q4, _⟩ := hv.get k (I t) (by rw [List.getElem?_map, ht]; rfl)
  have q4 := q4 false 1 (by intro h; cases h)
  have hc := call81 x tm t ha hb
  by_cases ho : oldT x tm t = true
  ·rw [ho] at hc
   simp [evl62_0, b62_0, intBin, hk, hw, hv.ok, q2, q3, q4, hc, ho]
  ·have ho' : oldT x tm t = false := by simpa using ho
   rw [ho'] at hc
   simp [evl62_0, b62_0, intBin, hk, hw, hv.ok, q2, q3, q4, hc, ho']
 ·rintro ⟨⟩ F G' ⟨rfl, rfl⟩
  simp [evl62_0, b62_0, intBin]
end
section
theorem take_step {l : List Int} {k : Nat} {t : Int} (h : l[k]? = some t) : l.take (k + 1) = l.take k ++ [t] := by
 rw [List.take_add_one, h]; rfl
theorem drop_step {cur l : List Int} {k : Nat} (h : cur.drop k = l.drop k) : cur.drop (k + 1) = l.drop (k + 1) := by
 have := congrArg (List.drop 1) h
 rwa [List.drop_drop, List.drop_drop] at this
theorem drop_getq {cur l : List Int} {k : Nat} (h : cur.drop k = l.drop k) : cur[k]? = l[k]? := by
 have := congrArg (fun l : List Int => l[0]?) h
 simpa using this
theorem find_take {p : Int → Bool} {l : List Int} {i : Nat} (h : l.findIdx? p = some i) : i < l.length ∧ l.take i = (l.take (i + 1)).filter fun t => !p t := by
 obtain ⟨h1, h2, h3⟩ := List.findIdx?_eq_some_iff_getElem.1 h
 refine ⟨h1, ?_⟩
 rw [take_step (gEg h1), List.filter_append]
 have e1 : [l[i]].filter (fun t => !p t) = [] := by simp [h2]
 rw [e1, List.append_nil]
 symm
 rw [List.filter_eq_self]
 intro t ht
 obtain ⟨j, hj, rfl⟩ := List.getElem_of_mem ht
 rw [List.length_take] at hj
 rw [List.getElem_take]
 have := h3 j (by omega)
 simpa using this
def DelI (x : Spec) (tm : Int) (l : List Int) (t : List AV) (id ver : Nat) (G : Heap) (k : Nat) (v5 : AV) (G' : Heap) : Prop :=
 ∃ (cur : List Int) (j : Nat), v5 = I j ∧ G'[id]? = some (.arr ver 1 false (cur.map I ++ t)) ∧ Kept (some id) G G' ∧ cur.length = l.length ∧ j < k ∧ cur.take j = (l.take k).filter (fun t => !oldT x tm t) ∧ cur.drop k = l.drop k
theorem e79 (x : Spec) (tm : Int) {G : Heap} {a b : Nat} (ha : G[a]? = some (.arr 0 1 false [I tm])) (hb : G[b]? = some (.arr 0 4 false [x.av])) {v : AV} {l : List Int} {q : Option Nat} (hv : Grow G 1 q v (l.map I)) (hl : l.length ≤ 1000000) (hqa : q ≠ some a) (hqb : q ≠ some b) :
  okV (evFun W fi104 [v, .clo 106 [] [.optr a 0 0 0, .optr b 0 0 0]] G) (fun u G' => Grow G' 1 q u ((recentL x tm l).map I) ∧ Kept q G G') := by
 have h84 := e84 x tm ha hb (Rd.of_grow hv) hl
 have c84 : W.call (.clo 62 [] []) [v, .clo 106 [] [.optr a 0 0 0, .optr b 0 0 0]] G = some (I (match l.findIdx? (oldT x tm) with | some i => (i : Int) | none => -1), G) := by rw [W_call Φ62]; exact h84
 cases hi : l.findIdx? (oldT x tm) with
 | none =>
  rw [hi] at c84
  have hr : recentL x tm l = l := by
   unfold recentL
   rw [List.filter_eq_self]
   intro t ht
   have := List.findIdx?_eq_none_iff.1 hi t ht
   simpa using this
  rw [hr]
  simp [fi104, c104, evFun, enterFr, intBin, resV, rvVs, rvV, hv.okO, c84]
  exact ⟨hv, Kept.refl _ _⟩
 | some i =>
  rw [hi] at c84
  obtain ⟨hin, htk⟩ := find_take hi
  cases q with
  | none => obtain ⟨_, h2⟩ := hv; simp at h2; subst h2; simp at hin
  | some id =>
  have hok := hv.okO
  obtain ⟨ver, t, rfl, hB⟩ := hv
  rw [List.length_map] at *
  have hid : id < G.length := (gEs.1 hB).1
  have hwi := wrap_succ (k := i) (by omega)
  have hL := loop_list (Φ := Φ) (live := [0, 1, 5, 6]) (L := l104_0) l (σ := Unit) (ρ := Empty) (fun _ _ s => .inl s) (fun k _ F G' => ∃ v5, F = [(0, .osl id ver 0 l.length), (1, .clo 106 [] [.optr a 0 0 0, .optr b 0 0 0]), (5, v5), (6, I k)] ∧ DelI x tm l t id ver G k v5 G') (fun r _ _ _ => nomatch r) (fun _ y F G' => y = .exit 0 ∧ F.get 0 = .osl id ver 0 l.length ∧ DelI x tm l t id ver G l.length (F.get 5) G') ?_ ?_ (l.drop (i + 1)) (i + 1) () [(0, .osl id ver 0 l.length), (1, .clo 106 [] [.optr a 0 0 0, .optr b 0 0 0]), (5, I i), (6, I ((i + 1 : Nat) : Int))] G rfl (by omega) ⟨_, rfl, l, i, rfl, hB, Kept.refl _ _, rfl, by omega, htk, rfl⟩
  ·have hf : ∀ (r : List Int) (k : Nat), foldE (ρ := Empty) (fun _ _ (s : Unit) => .inl s) k r () = .inl () := by
    intro r
    induction r with
    | nil => intro k; rfl
    | cons t r ih => intro k; simp only [foldE, ih]
   rw [hf] at hL
   obtain ⟨y, F, G', e1, rfl, f1, cur, j, f2, f3, f4, f5, f6, f7, _⟩ := okC_iff.1 hL
   rw [List.take_length] at f7
   have f7 : cur.take j = recentL x tm l := f7
   have hid' : id < G'.length := (gEs.1 f3).1
   have hlj : (recentL x tm l).length = j := by rw [← f7, List.length_take]; omega
   have hset : (G'.set id (.arr ver 1 false ((cur.map I ++ t).take j ++ List.replicate (l.length - j) (I 0) ++ (cur.map I ++ t).drop (j + (l.length - j)))))[id]? = some (.arr ver 1 false ((cur.map I ++ t).take j ++ List.replicate (l.length - j) (I 0) ++ (cur.map I ++ t).drop (j + (l.length - j)))) := gEt hid'
   have htj : (cur.map I ++ t).take j = (recentL x tm l).map I := by
    rw [List.take_append_of_le_length (by simp; omega), ← List.map_take, f7]
   have : okV (evFun W fi104 [.osl id ver 0 l.length, .clo 106 [] [.optr a 0 0 0, .optr b 0 0 0]] G) (fun u H' => u = .osl id ver 0 j ∧ H' = G'.set id (.arr ver 1 false ((cur.map I ++ t).take j ++ List.replicate (l.length - j) (I 0) ++ (cur.map I ++ t).drop (j + (l.length - j))))) := by
    rw [Int.natCast_add, Int.natCast_one] at e1
    have hs1 : slcV G' false 1 true false (.osl id ver 0 l.length) [I j] = .osl id ver j (l.length - j) := by
     have : (j : Int) ≤ l.length := by omega
     simp [slcV, f3, this, f6]
    have hs2 : slcV (G'.set id (.arr ver 1 false ((cur.map I ++ t).take j ++ List.replicate (l.length - j) (I 0) ++ (cur.map I ++ t).drop (j + (l.length - j))))) false 1 false true (.osl id ver 0 l.length) [I j] = .osl id ver 0 j := by
     have : (j : Int) ≤ l.length := by omega
     simp only [slcV, hset]
     simp [this]
    have hx : ex G' (.clr 1 (I 0)) [.osl id ver j (l.length - j)] = some (.tuple [], G'.set id (.arr ver 1 false ((cur.map I ++ t).take j ++ List.replicate (l.length - j) (I 0) ++ (cur.map I ++ t).drop (j + (l.length - j))))) := by
     have h1 : 0 < l.length - j := by omega
     have h2 : j + (l.length - j) ≤ (cur.map I ++ t).length := by simp; omega
     simp only [ex, f3]
     rw [if_pos ⟨by trivial, by trivial, h1, h2, by trivial, by trivial⟩]
    simp [fi104, c104, evFun, enterFr, intBin, resV, rvVs, rvV, c84, hwi, e1, f1, f2, hs1]
    simp only [List.append_assoc] at hx hs2
    simp [hx, hs2]
   obtain ⟨u, H', g1, rfl, rfl⟩ := okV_iff.1 this
   rw [g1]
   refine ⟨⟨ver, List.replicate (l.length - j) (I 0) ++ (cur.map I ++ t).drop (j + (l.length - j)), by rw [List.length_map, hlj], ?_⟩, f4.trans (Kept.set id G' _)⟩
   rw [hset, htj, List.append_assoc]
  ·rintro k tt ⟨⟩ F G' hk ht ⟨v5, rfl, cur, j, rfl, f3, f4, f5, f6, f7, f8⟩
   have hw := wrap_succ (k := k) (by omega)
   have hwj := wrap_succ (k := j) (by omega)
   have hck : cur[k]? = some tt := by rw [drop_getq f8]; exact ht
   have hidx : (cur.map I ++ t)[k]? = some (I tt) := by rw [gEa (by simp; omega), List.getElem?_map, hck]; rfl
   have hlen : l.length ≤ (cur.map I ++ t).length := by simp; omega
   have a1 := f4.get hqa ha
   have b1 := f4.get hqb hb
   have hc := call81 x tm tt a1 b1
   have hjl : j < l.length := by omega
   by_cases ho : oldT x tm tt = true
   ·rw [ho] at hc
    simp [evl104_0, b104_0, intBin, hk, hw, f3, hidx, hc, ho]
    refine ⟨cur, j, rfl, f3, f4, f5, by omega, ?_, drop_step f8⟩
    rw [take_step ht, List.filter_append, f7]; simp [ho]
   ·have ho' : oldT x tm tt = false := by simpa using ho
    rw [ho'] at hc
    have hcj : (cur.map I ++ t)[j]? = some (I (cur[j]'(by omega))) := by rw [gEa (by simp; omega), List.getElem?_map, gEg (by omega)]; rfl
    have hse : setElem (cur.map I ++ t) j 0 (I tt) = some ((cur.set j tt).map I ++ t) := by
     simp only [setElem, hcj]
     rw [if_pos ⟨by trivial, by trivial, by trivial⟩, List.set_append_left _ _ (by simp; omega), List.map_set]
    simp [evl104_0, b104_0, intBin, hk, hw, hwj, f3, hidx, hc, ho', hjl, hse, -List.map_set]
    refine ⟨cur.set j tt, j + 1, rfl, gEt (gEs.1 f3).1, f4.trans (Kept.set id G' _), by simpa using f5, by omega, ?_, ?_⟩
    ·rw [List.take_add_one, List.take_set_of_le (Nat.le_refl _), f7, gEt (by omega), take_step ht, List.filter_append]; simp [ho']
    ·rw [List.drop_set_of_lt (by omega)]; exact drop_step f8
  ·rintro ⟨⟩ F G' ⟨v5, rfl, hP⟩
   simp [evl104_0, b104_0, intBin]
   have hok5 : okO v5 = some v5 := by obtain ⟨cur, j, rfl, _⟩ := hP; rfl
   exact hP
end
section
theorem e73 (x : Spec) (tm : Int) (s : Sl Int) (hs : KnownNil s) (hl : s.l.length ≤ 1000000) (H : Heap) :
  okV (evFun W fi95 [x.av, Sl.ints s, I tm] H) (fun v G => Kept none H G ∧ ∃ q, Grow G 1 q v ((recentL x tm s.l).map I) ∧ ∀ i, q = some i → H.length ≤ i) := by
 have hK := Kept.append none H [.arr 0 4 false [x.av], .arr 0 1 false [I tm]]
 obtain ⟨v, G, a0, a1, q, a2, a3⟩ := okV_iff.1 (e80 s hs hl (H ++ [.arr 0 4 false [x.av], .arr 0 1 false [I tm]]))
 have c1 : W.call (.clo 105 [] []) [Sl.ints s] (H ++ [.arr 0 4 false [x.av], .arr 0 1 false [I tm]]) = some (v, G) := by rw [W_call Φ105]; exact a0
 have hlen : (H ++ [Blk.arr 0 4 false [x.av], .arr 0 1 false [I tm]]).length = H.length + 2 := by simp
 have hb : G[H.length]? = some (.arr 0 4 false [x.av]) := a1.get (by simp) (by simp)
 have ha : G[H.length + 1]? = some (.arr 0 1 false [I tm]) := a1.get (by simp) (by simp)
 rw [hlen] at a3
 obtain ⟨u, G', b0, b1, b2⟩ := okV_iff.1 (e79 x tm ha hb a2 (by omega) (fun e => by have := a3 _ e; omega) (fun e => by have := a3 _ e; omega))
 have c2 : W.call (.clo 104 [] []) [v, .clo 106 [] [.optr (H.length + 1) 0 0 0, .optr H.length 0 0 0]] G = some (u, G') := by rw [W_call Φ104]; exact b0
 simp [fi95, c95, evFun, enterFr, intBin, resV, rvVs, rvV, c1, a2.okO, c2, b1.okO]
 refine ⟨⟨?_, fun j hj hlt => ?_⟩, q, b1, fun i hi => by have := a3 i hi; omega⟩
 ·have := hK.1; have := a1.1; have := b2.1; omega
 ·rw [b2.2 j (fun e => by have := a3 _ e; omega) (by have := a1.1; omega), a1.2 j (by simp) (by omega)]
  exact gEa hlt
theorem RunI.setR {mk : Mk} {H : Heap} {p c cv : Nat} {o : Option Nat} {rv ov : AV} {r : RunSt} (h : RunI mk H p c cv o rv ov r) {v : AV} {l : List Int} (hv : OptI H p c o v l) : RunI mk (H.set p (.arr 0 10 false [mk r.st (.osl c cv 0 r.cs.length) v r.fl ov])) p c cv o v ov { r with rs := l } ∧ Frame p c o o H (H.set p (.arr 0 10 false [mk r.st (.osl c cv 0 r.cs.length) v r.fl ov])) := by
 have hpl : p < H.length := h.lt.1
 have hk := Kept.set p H (.arr 0 10 false [mk r.st (.osl c cv 0 r.cs.length) v r.fl ov])
 have hf : Frame p c o o H (H.set p (.arr 0 10 false [mk r.st (.osl c cv 0 r.cs.length) v r.fl ov])) := ⟨by simp, fun j hj h1 _ _ => gEn (fun e => h1 e.symm), fun _ h => .inl h⟩
 exact ⟨⟨gEt hpl, hk.get (by simp [h.pc]) h.hc, hv.frame hf, h.out.kept hk (fun id hid => by cases hid; exact h.op), h.pc, h.op, h.oc⟩, hf⟩
end
section
def normB (n : Int) : Bool := decide (n = 0) || decide (n = 1)
def reasonB (n : Int) : Bool := inR n 0 9 || inR n 100 999
theorem e71 (n : Int) : W.pure 93 [I n] = some (.bool (normB n)) := by
 rw [W_pure Φ93 rfl]
 by_cases h0 : n = 0 <;> by_cases h1 : n = 1 <;> simp [fi93, c93, evFun, enterFr, intBin, resV, rvVs, rvV, normB, h0, h1]
theorem e66 (n : Int) : W.pure 88 [I n] = some (.bool (normB n)) := by
 rw [W_pure Φ88 rfl]
 by_cases h0 : n = 0 <;> by_cases h1 : n = 1 <;> simp [fi88, c88, evFun, enterFr, intBin, resV, rvVs, rvV, normB, h0, h1]
theorem e58 (n : Int) : W.pure 78 [I n] = some (.bool (reasonB n)) := by
 rw [W_pure Φ78 rfl]
 by_cases h0 : inR n 0 9 = true <;> simp [fi78, c78, evFun, enterFr, intBin, resV, rvVs, rvV, e51, reasonB, h0]
theorem e62 (n : Int) : W.pure 85 [I n] = some (.bool (reasonB n)) := by
 rw [W_pure Φ85 rfl]
 by_cases h0 : inR n 0 9 = true <;> simp [fi85, c85, evFun, enterFr, intBin, resV, rvVs, rvV, e47, reasonB, h0]
def quietB (ch : Child) (reason : Int) : Bool := decide (ch.policy = 3) || (decide (ch.policy = 2) && normB reason)
def runningS (x : Spec) (tm : Int) (n : Nat) (ch : Child) (reason : Int) (r : RunSt) : RunSt :=
 if quietB ch reason = true then r.setS n 3
 else if x.intensity ≤ ((recentL x tm r.rs).length : Int) then shutS tm { r.setS n 3 with fl := true }
 else if cnt (stopS tm (affL x n) (({ r with rs := recentL x tm r.rs ++ [tm] } : RunSt).setS n 4)).cs 2 = 0 then againS tm (stopS tm (affL x n) (({ r with rs := recentL x tm r.rs ++ [tm] } : RunSt).setS n 4))
 else { stopS tm (affL x n) (({ r with rs := recentL x tm r.rs ++ [tm] } : RunSt).setS n 4) with st := 2 }
def NilOk (v : AV) : Prop := match v with | .isl nl _ es => (nl = some true ∧ es = []) ∨ nl = some false | _ => True
theorem Grow.nilOk {H : Heap} {sz : Nat} {o : Option Nat} {v : AV} {l : List AV} (h : Grow H sz o v l) : NilOk v := by
 cases o with
 | none => rw [h.1]; exact .inl ⟨rfl, rfl⟩
 | some id => obtain ⟨ver, t, h1, _⟩ := h; rw [h1]; trivial
theorem NilOk.of {α : Type} {f : α → AV} {sz : Nat} {s : Sl α} (h : KnownNil s) : NilOk (Sl.av f sz s) := by
 rcases h with ⟨h1, h2⟩ | h1
 ·exact .inl ⟨h1, by simp [h2]⟩
 ·exact .inr h1
theorem NilOk.known {α : Type} {f : α → AV} {sz : Nat} {s : Sl α} (h : NilOk (Sl.av f sz s)) : KnownNil s := by
 rcases h with ⟨h1, h2⟩ | h1
 ·exact .inl ⟨h1, by simpa using h2⟩
 ·exact .inr h1
theorem OptI.frzK {H : Heap} {p c : Nat} {o : Option Nat} {v : AV} {l : List Int} (h : OptI H p c o v l) (hv : NilOk v) (n : Nat) : ∃ s : Sl Int, Go.Proofs.YtjknjapdcphcfaaGreat.frz H (n + 1) v = some (Sl.ints s) ∧ s.l = l ∧ KnownNil s := by
 rcases h with ⟨s, rfl, rfl⟩ | ⟨q, h1, _⟩
 ·exact ⟨s, rfl, rfl, hv.known⟩
 ·exact ⟨ofL 1 l, h1.sl (n := n) (by simp), rfl, .inr rfl⟩
def DoesR (mk : Mk) (p c cv : Nat) (o : Option Nat) (H : Heap) (r' : RunSt) (v : AV) (H' : Heap) : Prop := v = .tuple [] ∧ ∃ o' rv' ov', RunI mk H' p c cv o' rv' ov' r' ∧ Frame p c o o' H H' ∧ NilOk rv'
theorem affF_in (s child : Int) : ∀ (n i : Nat), ∀ j ∈ affF s child n i, (i : Int) ≤ j ∧ j < i + n := by
 intro n
 induction n with
 | zero => intro i j h; simp [affF] at h
 | succ n ih =>
  intro i j h
  unfold affF at h
  split at h
  ·rcases List.mem_cons.1 h with rfl | h
   ·omega
   ·have := ih (i + 1) j h; omega
  ·have := ih (i + 1) j h; omega
theorem affL_in (x : Spec) (child j : Int) (h : j ∈ affL x child) : 0 ≤ j ∧ j < x.children.l.length := by
 have := affF_in _ _ _ 0 j h; omega
theorem affL_len (x : Spec) (child : Int) : (affL x child).length ≤ x.children.l.length := affF_len _ _ _ _
theorem recentL_len (x : Spec) (tm : Int) (l : List Int) : (recentL x tm l).length ≤ l.length := List.length_filter_le _ _
theorem e59 (x : Spec) (tm : Int) {H : Heap} {p c cv : Nat} {o : Option Nat} {ov : AV} {r : RunSt} {s : Sl Int} (h : RunI (mkP x tm) H p c cv o (Sl.ints s) ov r) (hs : KnownNil s) (hsl : s.l = r.rs) (hrl : r.rs.length ≤ 100000) (hn : r.cs.length ≤ 1000) (hx : x.children.l.length = r.cs.length) (hstr : inR x.strategy 1 3 = true) (hl : r.out.length ≤ 100000) (n : Nat) (hk : n < r.cs.length) (ch : Child) (hch : x.children.l[n]? = some ch) (reason : Int) :
  okV (evFun W fi79 [.optr p 0 0 0, I n, I reason] H) (DoesR (mkP x tm) p c cv o H (runningS x tm n ch reason r)) := by
 have hp := h.hp
 have hsp : (.agg [I x.strategy, I x.intensity, I x.window, Sl.av Child.av 3 x.children] : AV) = x.av := rfl
 simp only [mkP] at hp
 by_cases hq : quietB ch reason = true
 ·obtain ⟨G, d0, d1, d2⟩ := e72 x tm h n hk 3
  have c1 : W.call (.clo 94 [] []) [.optr p 0 0 0, I n, I 3] H = some (.tuple [], G) := by rw [W_call Φ94]; exact d0
  have : okV (evFun W fi79 [.optr p 0 0 0, I n, I reason] H) (fun v G' => v = .tuple [] ∧ G' = G) := by
   unfold quietB at hq
   by_cases h3 : ch.policy = 3
   ·simp [fi79, c79, evFun, enterFr, intBin, resV, rvVs, rvV, hp, hch, h3, c1]
   ·have h2 : ch.policy = 2 := by
     by_cases h2 : ch.policy = 2
     ·exact h2
     ·simp [h3, h2] at hq
    have hnm : normB reason = true := by simpa [h2, h3] using hq
    simp [fi79, c79, evFun, enterFr, intBin, resV, rvVs, rvV, hp, hch, h2, e71, hnm, c1]
  obtain ⟨v, G', f1, rfl, rfl⟩ := okV_iff.1 this
  rw [f1]
  unfold runningS
  rw [if_pos hq]
  exact ⟨rfl, o, _, ov, d1, d2, NilOk.of hs⟩
 ·obtain ⟨v, G1, a0, a1, q, a2, a3⟩ := okV_iff.1 (e73 x tm s hs (by rw [hsl]; omega) H)
  rw [hsl] at a2
  have cq73 : W.call (.clo 95 [] []) [x.av, Sl.ints s, I tm] H = some (v, G1) := by rw [W_call Φ95]; exact a0
  have k1 := h.kept a1
  have hvlen := a2.len
  rw [List.length_map] at hvlen
  have hpol : ¬ ch.policy = 3 := fun e => hq (by simp [quietB, e])
  have hpol2 : ch.policy = 2 → normB reason = false := fun e => by
   have h2 : ¬ quietB ch reason = true := hq
   simp only [quietB, e] at h2
   simpa using h2
  have hp1 := k1.hp
  simp only [mkP] at hp1
  by_cases hi : x.intensity ≤ ((recentL x tm r.rs).length : Int)
  ·obtain ⟨G2, d0, d1, d2⟩ := e72 x tm k1 n hk 3
   have cq72 : W.call (.clo 94 [] []) [.optr p 0 0 0, I n, I 3] G1 = some (.tuple [], G2) := by rw [W_call Φ94]; exact d0
   have hp2 := d1.hp
   simp only [mkP] at hp2
   obtain ⟨m1, m2⟩ := d1.put (r.setS n 3).st true
   obtain ⟨v3, G3, b0, rfl, o3, ov3, b1, b2⟩ := okV_iff.1 (e61 x tm m1 (by rw [setS_len]; exact hn) (by rw [setS_out]; omega))
   have cq61 : W.call (.clo 81 [] []) [.optr p 0 0 0] (G2.set p (.arr 0 10 false [mkP x tm (r.setS n 3).st (.osl c cv 0 (r.setS n 3).cs.length) (Sl.ints s) true ov])) = some (.tuple [], G3) := by rw [W_call Φ81]; exact b0
   simp only [mkP] at cq61
   have : okV (evFun W fi79 [.optr p 0 0 0, I n, I reason] H) (fun v G' => v = .tuple [] ∧ G' = G3) := by
    by_cases h2 : ch.policy = 2
    ·simp [fi79, c79, evFun, enterFr, intBin, resV, rvVs, rvV, hp, hch, h2, e71, hpol2 h2, hsp, cq73, a2.okO, hvlen, hp1, hi, cq72, hp2, cq61]
    ·simp [fi79, c79, evFun, enterFr, intBin, resV, rvVs, rvV, hp, hch, hpol, h2, hsp, cq73, a2.okO, hvlen, hp1, hi, cq72, hp2, cq61]
   obtain ⟨v, G', f1, rfl, rfl⟩ := okV_iff.1 this
   rw [f1]
   unfold runningS
   rw [if_neg hq, if_pos hi]
   exact ⟨rfl, o3, _, ov3, b1, (((Frame.of_kept a1).trans d2).trans m2).trans b2, NilOk.of hs⟩
  ·obtain ⟨l1, l2, l3⟩ := h.lt
   have hrec := recentL_len x tm r.rs
   obtain ⟨q', v', G2, b0, b1, b2, b3⟩ := a2.app1 (I tm) (by simp) (by simp [appRoom]; omega)
   have k2 := k1.keptQ b2 (fun i hi => by have := a3 i hi; exact ⟨by omega, by omega, fun e => by have := l3 i e; omega⟩) (fun i ver off len e => by cases e)
   have hq' : ∀ i, q' = some i → H.length ≤ i := fun i hi => by
    rcases b3 i hi with h1 | ⟨_, rfl⟩
    ·exact a3 i h1
    ·exact a1.1
   have b1' : Grow G2 1 q' v' ((recentL x tm r.rs ++ [tm]).map I) := by simpa using b1
   have hv' : OptI G2 p c o v' (recentL x tm r.rs ++ [tm]) := OptI.of_grow b1' (fun i hi => by have := hq' i hi; exact ⟨by omega, by omega, fun e => by have := l3 i e; omega⟩)
   have f2 : Frame p c o o H G2 := ⟨by have := a1.1; have := b2.1; omega, fun j hj h1 h2 h3 => by rw [b2.2 j (fun e => by have := a3 j e; omega) (by have := a1.1; omega), a1.2 j (by simp) hj], fun i hi => .inl hi⟩
   obtain ⟨k3, f3⟩ := k2.setR hv'
   have hp2 := k2.hp
   have hp3 := k3.hp
   obtain ⟨G4, d0, d1, d2⟩ := e72 x tm k3 n hk 4
   have cq72 : W.call (.clo 94 [] []) [.optr p 0 0 0, I n, I 4] (G2.set p (.arr 0 10 false [mkP x tm r.st (.osl c cv 0 r.cs.length) v' r.fl ov])) = some (.tuple [], G4) := by rw [W_call Φ94]; exact d0
   have hp4 := d1.hp
   simp only [mkP] at hp2 hp3 hp4 cq72
   obtain ⟨ra, ha, hal⟩ := e52 x n hstr (by omega) ⟨by omega, by omega⟩
   have hsl4 := setS_len ({ r with rs := recentL x tm r.rs ++ [tm] } : RunSt) n 4
   have hso4 := setS_out ({ r with rs := recentL x tm r.rs ++ [tm] } : RunSt) n 4
   have hal' := affL_len x n
   simp only at hsl4 hso4
   obtain ⟨v5, G5, m0, rfl, o5, ov5, m1, m2⟩ := okV_iff.1 (e74 x tm d1 (by rw [hso4]; omega) (v := Sl.ints ra) (l := affL x n) (.inl ⟨ra, rfl, hal⟩) (by omega) (fun i hi => by have := affL_in x n i hi; rw [hsl4]; omega))
   have cq74 : W.call (.clo 96 [] []) [.optr p 0 0 0, Sl.ints ra] G4 = some (.tuple [], G5) := by rw [W_call Φ96]; exact m0
   have hbl := stopS_len tm (affL x n) (({ r with rs := recentL x tm r.rs ++ [tm] } : RunSt).setS n 4)
   have hbo := stopS_out tm (affL x n) (({ r with rs := recentL x tm r.rs ++ [tm] } : RunSt).setS n 4)
   rw [hsl4] at hbl
   rw [hso4] at hbo
   unfold runningS
   rw [if_neg hq, if_neg hi]
   generalize hS : stopS tm (affL x n) (({ r with rs := recentL x tm r.rs ++ [tm] } : RunSt).setS n 4) = S at *
   obtain ⟨v6, G6, n0, rfl, n1⟩ := okV_iff.1 (call68 (.osl c cv 0 S.cs.length) S.cs (by omega) 2 G5 (by have := Rd.of_own m1.hc; rwa [List.length_map] at this))
   have cq68 : W.call (.clo 75 [] []) [.osl c cv 0 S.cs.length, I 2] G5 = some (I (cnt S.cs 2), G6) := by rw [W_call Φ75]; exact n0
   have k6 := m1.kept n1
   have hp5 := m1.hp
   have hp6 := k6.hp
   have f6 := (((f2.trans f3).trans d2).trans m2).trans (Frame.of_kept n1)
   simp only [mkP] at hp5 hp6
   by_cases hz : cnt S.cs 2 = 0
   ·obtain ⟨v7, G7, z0, rfl, o7, ov7, z1, z2⟩ := okV_iff.1 (e75 x tm k6 (by omega) (by omega))
    have cq75 : W.call (.clo 98 [] []) [.optr p 0 0 0] G6 = some (.tuple [], G7) := by rw [W_call Φ98]; exact z0
    rw [hz] at cq68
    have : okV (evFun W fi79 [.optr p 0 0 0, I n, I reason] H) (fun v G' => v = .tuple [] ∧ G' = G7) := by
     by_cases h2 : ch.policy = 2
     ·simp [fi79, c79, evFun, enterFr, intBin, resV, rvVs, rvV, hp, hch, h2, e71, hpol2 h2, hsp, cq73, a2.okO, hvlen, hp1, hi, b0, b1.okO, b1.cells, b1.cell, hp2, hp3, cq72, hp4, ha, cq74, hp5, cq68, cq75]
     ·simp [fi79, c79, evFun, enterFr, intBin, resV, rvVs, rvV, hp, hch, hpol, h2, hsp, cq73, a2.okO, hvlen, hp1, hi, b0, b1.okO, b1.cells, b1.cell, hp2, hp3, cq72, hp4, ha, cq74, hp5, cq68, cq75]
    obtain ⟨v, G', g1, rfl, rfl⟩ := okV_iff.1 this
    rw [g1, if_pos hz]
    exact ⟨rfl, o7, _, ov7, z1, f6.trans z2, b1.nilOk⟩
   ·obtain ⟨z1, z2⟩ := k6.put 2 S.fl
    have hz' : ¬ ((cnt S.cs 2 : Nat) : Int) = 0 := by omega
    have : okV (evFun W fi79 [.optr p 0 0 0, I n, I reason] H) (fun v G' => v = .tuple [] ∧ G' = G6.set p (.arr 0 10 false [mkP x tm 2 (.osl c cv 0 S.cs.length) v' S.fl ov5])) := by
     by_cases h2 : ch.policy = 2
     ·simp [fi79, c79, evFun, enterFr, intBin, resV, rvVs, rvV, hp, hch, h2, e71, hpol2 h2, hsp, cq73, a2.okO, hvlen, hp1, hi, b0, b1.okO, b1.cells, b1.cell, hp2, hp3, cq72, hp4, ha, cq74, hp5, cq68, hz, hz', hp6, mkP]
     ·simp [fi79, c79, evFun, enterFr, intBin, resV, rvVs, rvV, hp, hch, hpol, h2, hsp, cq73, a2.okO, hvlen, hp1, hi, b0, b1.okO, b1.cells, b1.cell, hp2, hp3, cq72, hp4, ha, cq74, hp5, cq68, hz, hz', hp6, mkP]
    obtain ⟨v, G', g1, rfl, rfl⟩ := okV_iff.1 this
    rw [g1, if_neg hz]
    exact ⟨rfl, o5, _, ov5, z1, f6.trans z2, b1.nilOk⟩
end
section
def Loop43 (x : Spec) (tm : Int) (p c cv : Nat) (o : Option Nat) (rv ov : AV) (r : RunSt) (H0 : Heap) (l : List Int) (v : AV) (G : Heap) : Prop :=
 RunI (mkR x tm) G p c cv o rv ov r ∧ Low H0.length p c o o H0 G ∧ Beside H0.length G p c o v (recentL x tm l)
theorem loop43 (x : Spec) (tm : Int) {H0 : Heap} {p c cv : Nat} {o : Option Nat} {ov : AV} {r : RunSt} {s : Sl Int} (h : RunI (mkR x tm) H0 p c cv o (Sl.ints s) ov r) (hsl : s.l.length ≤ 100000) (n : Nat) :
  okC (W.loop [0, 1, 7, 8] l70_0 [(0, .optr p 0 0 0), (1, I n), (7, .osl H0.length 0 0 0), (8, I 0)] (H0 ++ [.arr 0 1 false []])) (fun y F G => y = .exit 0 ∧ F.get 0 = .optr p 0 0 0 ∧ F.get 1 = I n ∧ Loop43 x tm p c cv o (Sl.ints s) ov r H0 s.l (F.get 7) G) := by
 obtain ⟨l1, l2, l3⟩ := h.lt
 have hK := Kept.append none H0 [.arr 0 1 false []]
 have hL := loop_fold (Φ := Φ) (live := [0, 1, 7, 8]) (L := l70_0) s.l (σ := Unit) (fun _ _ s => s) (fun k _ F G => ∃ v, F = [(0, .optr p 0 0 0), (1, I n), (7, v), (8, I k)] ∧ Loop43 x tm p c cv o (Sl.ints s) ov r H0 (s.l.take k) v G) (fun _ y F G => y = .exit 0 ∧ F.get 0 = .optr p 0 0 0 ∧ F.get 1 = I n ∧ Loop43 x tm p c cv o (Sl.ints s) ov r H0 s.l (F.get 7) G) (s := ()) (F := [(0, .optr p 0 0 0), (1, I n), (7, .osl H0.length 0 0 0), (8, I 0)]) (H := H0 ++ [.arr 0 1 false []]) ⟨_, rfl, h.kept hK, ⟨by simp, fun j hj _ _ _ => gEa hj, fun i hi => .inl hi⟩, ⟨some H0.length, grow_mk (l := []) (by simp), fun i hi => by cases hi; exact ⟨Nat.le_refl _, fun e => by have := l3 _ e; omega⟩⟩⟩ ?_ ?_
 ·exact hL
 ·rintro k t ⟨⟩ F G hk ht ⟨v, rfl, g1, g2, g3⟩
  obtain ⟨_, rfl⟩ := gEs.1 ht
  have hw := wrap_succ (k := k) (by omega)
  have hp := g1.hp
  simp only [mkR] at hp
  have htk : s.l.take (k + 1) = s.l.take k ++ [s.l[k]] := take_step ht
  have hrl := recentL_len x tm (s.l.take k)
  rw [List.length_take] at hrl
  obtain ⟨v', G', a1, a2, a3, a4, a5, a6, a7⟩ := g3.snoc h g1 (by omega) g2.len s.l[k]
  by_cases ho : oldT x tm s.l[k] = true
  ·have hlt : ¬ IntKind.wrap .i64 (tm - x.window) < s.l[k] := by simp only [oldT, decide_eq_true_eq] at ho; omega
   have hr : recentL x tm (s.l.take (k + 1)) = recentL x tm (s.l.take k) := by unfold recentL; rw [htk, List.filter_append]; simp [ho]
   have hv := (g3.optI l1 l2).ok.1
   simp [evl70_0, b70_0, intBin, hk, hw, hp, hlt, hv]
   exact ⟨g1, g2, by rw [hr]; exact g3⟩
  ·have hlt : IntKind.wrap .i64 (tm - x.window) < s.l[k] := by simp only [oldT, decide_eq_true_eq] at ho; omega
   have hr : recentL x tm (s.l.take (k + 1)) = recentL x tm (s.l.take k) ++ [s.l[k]] := by unfold recentL; rw [htk, List.filter_append]; simp [ho]
   have hp1 := a5.hp
   simp only [mkR] at hp1
   simp [evl70_0, b70_0, intBin, hk, hw, hp, hlt, a1, a2, a3, hp1]
   exact ⟨a5, g2.step a6 a7, by rw [hr]; exact a4⟩
 ·rintro ⟨⟩ F G ⟨v, rfl, g1, g2, g3⟩
  have hp := g1.hp
  simp only [mkR] at hp
  simp [evl70_0, b70_0, intBin, hp]
  rw [List.take_length] at g3
  exact ⟨g1, g2, g3⟩
end
section
theorem Beside.nilOk {n : Nat} {G : Heap} {p c : Nat} {o : Option Nat} {v : AV} {l : List Int} (h : Beside n G p c o v l) : NilOk v := by
 obtain ⟨q, h1, _⟩ := h
 exact h1.nilOk
theorem e43 (x : Spec) (tm : Int) {H : Heap} {p c cv : Nat} {o : Option Nat} {ov : AV} {r : RunSt} {s : Sl Int} (h : RunI (mkR x tm) H p c cv o (Sl.ints s) ov r) (hs : KnownNil s) (hsl : s.l = r.rs) (hint : (r.rs.length : Int) ≤ x.intensity) (hrl : r.rs.length ≤ 100000) (hn : r.cs.length ≤ 1000) (hx : x.children.l.length = r.cs.length) (n : Nat) (haff : affAll x n = affL x n) (hl : r.out.length ≤ 100000) (hk : n < r.cs.length) (ch : Child) (hch : x.children.l[n]? = some ch) (reason : Int) :
  okV (evFun W fi70 [.optr p 0 0 0, I n, I reason] H) (DoesR (mkR x tm) p c cv o H (runningS x tm n ch reason r)) := by
 have hp := h.hp
 have hc := h.hc
 have hsp : (.agg [I x.strategy, I x.intensity, I x.window, Sl.av Child.av 3 x.children] : AV) = x.av := rfl
 have hkc : r.cs[n]? = some r.cs[n] := gEg hk
 have hset : r.setS n 3 = { r with cs := r.cs.set n { r.cs[n] with status := 3 } } := by simp only [RunSt.setS, hkc]
 obtain ⟨k1, f1⟩ := h.setC n { r.cs[n] with status := 3 }
 rw [← hset] at k1
 have hr1l := setS_len r n 3
 have hr1o := setS_out r n 3
 have hr1s : (r.setS n 3).rs = r.rs := by rw [hset]
 have hp1 := k1.hp
 have hc1 := k1.hc
 simp only [mkR] at hp hp1
 by_cases hq : quietB ch reason = true
 ·have : okV (evFun W fi70 [.optr p 0 0 0, I n, I reason] H) (fun v G' => v = .tuple [] ∧ G' = H.set c (.arr cv 2 false ((r.cs.set n { r.cs[n] with status := 3 }).map ChildState.av))) := by
   unfold quietB at hq
   by_cases h3 : ch.policy = 3
   ·simp [fi70, c70, evFun, enterFr, intBin, resV, rvVs, rvV, hp, hc, hch, h3, hk, -List.map_set]
   ·have h2 : ch.policy = 2 := by
     by_cases h2 : ch.policy = 2
     ·exact h2
     ·simp [h3, h2] at hq
    have hnm : normB reason = true := by simpa [h2, h3] using hq
    simp [fi70, c70, evFun, enterFr, intBin, resV, rvVs, rvV, hp, hc, hch, h2, e66, hnm, hk, -List.map_set]
  obtain ⟨v, G', g1, rfl, rfl⟩ := okV_iff.1 this
  rw [g1]
  unfold runningS
  rw [if_pos hq]
  exact ⟨rfl, o, _, ov, k1, f1, NilOk.of hs⟩
 ·obtain ⟨y, F, G, e1, rfl, e2, e3, q1, q2, q3⟩ := okC_iff.1 (loop43 x tm k1 (by rw [hsl]; omega) n)
  rw [hsl] at q3
  rw [List.length_set] at e1
  obtain ⟨l1, l2, l3⟩ := k1.lt
  have hv := q3.optI l1 l2
  have hvl := hv.ok.2.2.2
  have hpol : ¬ ch.policy = 3 := fun e => hq (by simp [quietB, e])
  have hpol2 : ch.policy = 2 → normB reason = false := fun e => by
   have h2 : ¬ quietB ch reason = true := hq
   simp only [quietB, e] at h2
   simpa using h2
  have hq1 := q1.hp
  have hrec := recentL_len x tm r.rs
  simp only [mkR] at hq1
  have fG := f1.trans q2.frame
  by_cases hi : x.intensity ≤ ((recentL x tm r.rs).length : Int)
  ·have hi' : ((recentL x tm r.rs).length : Int) = x.intensity := by omega
   obtain ⟨m1, m2⟩ := q1.put (r.setS n 3).st true
   obtain ⟨v3, G3, b0, rfl, o3, ov3, b1, b2⟩ := okV_iff.1 (e42 x tm m1 (by rw [hr1l]; exact hn) (by rw [hr1o]; omega))
   have cq42 : W.call (.clo 69 [] []) [.optr p 0 0 0] (G.set p (.arr 0 10 false [mkR x tm (r.setS n 3).st (.osl c cv 0 (r.setS n 3).cs.length) (Sl.ints s) true ov])) = some (.tuple [], G3) := by rw [W_call Φ69]; exact b0
   simp only [mkR] at cq42
   have : okV (evFun W fi70 [.optr p 0 0 0, I n, I reason] H) (fun v G' => v = .tuple [] ∧ G' = G3) := by
    by_cases h2 : ch.policy = 2
    ·simp [fi70, c70, evFun, enterFr, intBin, resV, rvVs, rvV, hp, hc, hch, h2, e66, hpol2 h2, hk, e1, e2, e3, hv.ok.1, hvl, hq1, hi', cq42, -List.map_set]
    ·simp [fi70, c70, evFun, enterFr, intBin, resV, rvVs, rvV, hp, hc, hch, hpol, h2, hk, e1, e2, e3, hv.ok.1, hvl, hq1, hi', cq42, -List.map_set]
   obtain ⟨v, G', g1, rfl, rfl⟩ := okV_iff.1 this
   rw [g1]
   unfold runningS
   rw [if_neg hq, if_pos hi]
   exact ⟨rfl, o3, _, ov3, b1, (fG.trans m2).trans b2, NilOk.of hs⟩
  ·have hi' : ¬ ((recentL x tm r.rs).length : Int) = x.intensity := by omega
   obtain ⟨v', G2, b0, b1, b2, b3, b4, b5, b6⟩ := q3.snoc k1 q1 (by omega) q2.len tm
   have hv' := b3.optI l1 l2
   have hvo' := hv'.ok
   obtain ⟨k3, f3⟩ := b4.setR hv'
   have hkc3 : (r.setS n 3).cs[n]? = some { r.cs[n] with status := 3 } := by rw [hset]; exact gEt hk
   obtain ⟨d1, d2⟩ := k3.setC n ⟨4, r.cs[n].starts⟩
   have hfin : ({ ({ (r.setS n 3) with rs := recentL x tm r.rs ++ [tm] } : RunSt) with cs := (r.setS n 3).cs.set n ⟨4, r.cs[n].starts⟩ } : RunSt) = ({ r with rs := recentL x tm r.rs ++ [tm] } : RunSt).setS n 4 := by
    rw [hset]
    simp only [RunSt.setS, hkc, List.set_set]
   simp only [hfin] at d1
   have hp2 := b4.hp
   have hp3 := k3.hp
   have hc3 := k3.hc
   have hp4 := d1.hp
   have hkl : n < (r.setS n 3).cs.length := by omega
   have hgk : (r.setS n 3).cs[n] = { r.cs[n] with status := 3 } := by
    have := gEg hkl
    rw [hkc3] at this
    exact (Option.some.inj this).symm
   simp only [mkR] at hp2 hp3 hp4 hc3
   obtain ⟨ra, ha, hal⟩ := e34 x (by omega) n
   rw [haff] at hal
   have hsl4 := setS_len ({ r with rs := recentL x tm r.rs ++ [tm] } : RunSt) n 4
   have hso4 := setS_out ({ r with rs := recentL x tm r.rs ++ [tm] } : RunSt) n 4
   have hal' := affL_len x n
   simp only at hsl4 hso4
   obtain ⟨v5, G5, m0, rfl, o5, ov5, m1, m2⟩ := okV_iff.1 (e63 x tm d1 (by rw [hso4]; omega) (v := Sl.ints ra) (l := affL x n) (.inl ⟨ra, rfl, hal⟩) (by omega) (fun i hi => by have := affL_in x n i hi; rw [hsl4]; omega))
   have cq63 := (W_call Φ86 [] [.optr p 0 0 0, Sl.ints ra] [] _).trans m0
   have hbl := stopS_len tm (affL x n) (({ r with rs := recentL x tm r.rs ++ [tm] } : RunSt).setS n 4)
   have hbo := stopS_out tm (affL x n) (({ r with rs := recentL x tm r.rs ++ [tm] } : RunSt).setS n 4)
   rw [hsl4] at hbl
   rw [hso4] at hbo
   unfold runningS
   rw [if_neg hq, if_neg hi]
   generalize hS : stopS tm (affL x n) (({ r with rs := recentL x tm r.rs ++ [tm] } : RunSt).setS n 4) = S at *
   obtain ⟨v6, G6, n0, rfl, n1⟩ := okV_iff.1 (call64 (.osl c cv 0 S.cs.length) v' S.st S.fl S.cs (by omega) 2 G5 (by have := Rd.of_own m1.hc; rwa [List.length_map] at this) rfl rfl hvo'.1 hvo'.2.1 hvo'.2.2.1)
   have cq64 : W.call (.clo 84 [] []) [.agg [I S.st, .osl c cv 0 S.cs.length, v', .bool S.fl], I 2] G5 = some (I (cnt S.cs 2), G6) := by rw [W_call Φ84]; exact n0
   have k6 := m1.kept n1
   have hp5 := m1.hp
   have hp6 := k6.hp
   have fB := (q2.step b5 b6).frame
   have f6 := ((((f1.trans fB).trans f3).trans d2).trans m2).trans (Frame.of_kept n1)
   simp only [mkR] at hp5 hp6 cq63
   by_cases hz : cnt S.cs 2 = 0
   ·obtain ⟨v7, G7, z0, rfl, o7, ov7, z1, z2⟩ := okV_iff.1 (e67 x tm k6 (by omega) (by omega))
    have cq67 : W.call (.clo 90 [] []) [.optr p 0 0 0] G6 = some (.tuple [], G7) := by rw [W_call Φ90]; exact z0
    rw [hz] at cq64
    have : okV (evFun W fi70 [.optr p 0 0 0, I n, I reason] H) (fun v G' => v = .tuple [] ∧ G' = G7) := by
     by_cases h2 : ch.policy = 2
     ·simp [fi70, c70, evFun, enterFr, intBin, resV, rvVs, rvV, hp, hc, hch, h2, e66, hpol2 h2, hk, e1, e2, e3, hv.ok.1, hvl, hq1, hi', b0, b2, hvo', hp2, hp3, hc3, hkl, hgk, hp4, hsp, ha, cq63, hp5, cq64, cq67, -List.map_set]
     ·simp [fi70, c70, evFun, enterFr, intBin, resV, rvVs, rvV, hp, hc, hch, hpol, h2, hk, e1, e2, e3, hv.ok.1, hvl, hq1, hi', b0, b2, hvo', hp2, hp3, hc3, hkl, hgk, hp4, hsp, ha, cq63, hp5, cq64, cq67, -List.map_set]
    obtain ⟨v, G', g1, rfl, rfl⟩ := okV_iff.1 this
    rw [g1, if_pos hz]
    exact ⟨rfl, o7, _, ov7, z1, f6.trans z2, b3.nilOk⟩
   ·obtain ⟨z1, z2⟩ := k6.put 2 S.fl
    have hz' : 0 < cnt S.cs 2 := by omega
    have : okV (evFun W fi70 [.optr p 0 0 0, I n, I reason] H) (fun v G' => v = .tuple [] ∧ G' = G6.set p (.arr 0 10 false [mkR x tm 2 (.osl c cv 0 S.cs.length) v' S.fl ov5])) := by
     by_cases h2 : ch.policy = 2
     ·simp [fi70, c70, evFun, enterFr, intBin, resV, rvVs, rvV, hp, hc, hch, h2, e66, hpol2 h2, hk, e1, e2, e3, hv.ok.1, hvl, hq1, hi', b0, b2, hvo', hp2, hp3, hc3, hkl, hgk, hp4, hsp, ha, cq63, hp5, cq64, hz', hp6, mkR, -List.map_set]
     ·simp [fi70, c70, evFun, enterFr, intBin, resV, rvVs, rvV, hp, hc, hch, hpol, h2, hk, e1, e2, e3, hv.ok.1, hvl, hq1, hi', b0, b2, hvo', hp2, hp3, hc3, hkl, hgk, hp4, hsp, ha, cq63, hp5, cq64, hz', hp6, mkR, -List.map_set]
    obtain ⟨v, G', g1, rfl, rfl⟩ := okV_iff.1 this
    rw [g1, if_neg hz]
    exact ⟨rfl, o5, _, ov5, z1, f6.trans z2, b3.nilOk⟩
end
section
def stopping1 (n : Nat) (ch : Child) (r : RunSt) : RunSt := r.setS n (if r.st = 2 ∧ ¬ ch.policy = 3 then 4 else 3)
def stoppingS (tm : Int) (n : Nat) (ch : Child) (r : RunSt) : RunSt :=
 if 0 < cnt (stopping1 n ch r).cs 2 then stopping1 n ch r
 else if r.st = 2 then againS tm (stopping1 n ch r) else (stopping1 n ch r).stopped tm
theorem setS_st (s : RunSt) (k : Nat) (st : Int) : (s.setS k st).st = s.st := by unfold RunSt.setS; split <;> rfl
theorem setS_fl (s : RunSt) (k : Nat) (st : Int) : (s.setS k st).fl = s.fl := by unfold RunSt.setS; split <;> rfl
theorem e60 (x : Spec) (tm : Int) {H : Heap} {p c cv : Nat} {o : Option Nat} {rv ov : AV} {r : RunSt} (h : RunI (mkP x tm) H p c cv o rv ov r) (hn : r.cs.length ≤ 1000) (hl : r.out.length ≤ 100000) (n : Nat) (hk : n < r.cs.length) (ch : Child) (hch : x.children.l[n]? = some ch) :
  okV (evFun W fi80 [.optr p 0 0 0, I n] H) (Does (mkP x tm) p c cv o rv H (stoppingS tm n ch r)) := by
 have hp := h.hp
 simp only [mkP] at hp
 obtain ⟨G, d0, d1, d2⟩ := e72 x tm h n hk (if r.st = 2 ∧ ¬ ch.policy = 3 then 4 else 3)
 have cq72 : W.call (.clo 94 [] []) [.optr p 0 0 0, I n, I (if r.st = 2 ∧ ¬ ch.policy = 3 then 4 else 3)] H = some (.tuple [], G) := by rw [W_call Φ94]; exact d0
 have hS : r.setS n (if r.st = 2 ∧ ¬ ch.policy = 3 then 4 else 3) = stopping1 n ch r := rfl
 rw [hS] at d1
 have hsl : (stopping1 n ch r).cs.length = r.cs.length := setS_len _ _ _
 have hso : (stopping1 n ch r).out = r.out := setS_out _ _ _
 have hst : (stopping1 n ch r).st = r.st := setS_st _ _ _
 unfold stoppingS
 generalize hS' : stopping1 n ch r = S at *
 have hp1 := d1.hp
 obtain ⟨v6, G6, n0, rfl, n1⟩ := okV_iff.1 (call68 (.osl c cv 0 S.cs.length) S.cs (by omega) 2 G (by have := Rd.of_own d1.hc; rwa [List.length_map] at this))
 have cq68 : W.call (.clo 75 [] []) [.osl c cv 0 S.cs.length, I 2] G = some (I (cnt S.cs 2), G6) := by rw [W_call Φ75]; exact n0
 have k6 := d1.kept n1
 have f6 := d2.trans (Frame.of_kept n1)
 have hp6 := k6.hp
 simp only [mkP] at hp1 hp6
 rw [hst] at hp1 hp6
 by_cases hz : 0 < cnt S.cs 2
 ·have : okV (evFun W fi80 [.optr p 0 0 0, I n] H) (fun v G' => v = .tuple [] ∧ G' = G6) := by
   by_cases h2 : r.st = 2
   ·by_cases h3 : ch.policy = 3
    ·simp only [h2, h3] at cq72
     simp at cq72
     simp [fi80, c80, evFun, enterFr, intBin, resV, rvVs, rvV, hp, hch, h2, h3, cq72, hp1, cq68, hz]
    ·simp only [h2, h3] at cq72
     simp at cq72
     simp [fi80, c80, evFun, enterFr, intBin, resV, rvVs, rvV, hp, hch, h2, h3, cq72, hp1, cq68, hz]
   ·simp only [h2] at cq72
    simp at cq72
    simp [fi80, c80, evFun, enterFr, intBin, resV, rvVs, rvV, hp, hch, h2, cq72, hp1, cq68, hz]
  obtain ⟨v, G', g1, rfl, rfl⟩ := okV_iff.1 this
  rw [g1, if_pos hz]
  exact ⟨rfl, o, ov, k6, f6⟩
 ·rw [if_neg hz]
  by_cases h2 : r.st = 2
  ·obtain ⟨v7, G7, z0, rfl, o7, ov7, z1, z2⟩ := okV_iff.1 (e75 x tm k6 (by omega) (by rw [hso]; omega))
   have cq75 : W.call (.clo 98 [] []) [.optr p 0 0 0] G6 = some (.tuple [], G7) := by rw [W_call Φ98]; exact z0
   have : okV (evFun W fi80 [.optr p 0 0 0, I n] H) (fun v G' => v = .tuple [] ∧ G' = G7) := by
    rw [h2] at hp1 hp6
    by_cases h3 : ch.policy = 3
    ·simp only [h2, h3] at cq72
     simp at cq72
     simp [fi80, c80, evFun, enterFr, intBin, resV, rvVs, rvV, hp, hch, h2, h3, cq72, hp1, cq68, hz, hp6, cq75]
    ·simp only [h2, h3] at cq72
     simp at cq72
     simp [fi80, c80, evFun, enterFr, intBin, resV, rvVs, rvV, hp, hch, h2, h3, cq72, hp1, cq68, hz, hp6, cq75]
   obtain ⟨v, G', g1, rfl, rfl⟩ := okV_iff.1 this
   rw [g1, if_pos h2]
   exact ⟨rfl, o7, ov7, z1, f6.trans z2⟩
  ·obtain ⟨v7, G7, z0, rfl, o7, ov7, z1, z2⟩ := okV_iff.1 (e76 x tm k6 (by rw [hso]; omega))
   have cq76 : W.call (.clo 99 [] []) [.optr p 0 0 0] G6 = some (.tuple [], G7) := by rw [W_call Φ99]; exact z0
   have : okV (evFun W fi80 [.optr p 0 0 0, I n] H) (fun v G' => v = .tuple [] ∧ G' = G7) := by
    simp only [h2] at cq72
    simp at cq72
    simp [fi80, c80, evFun, enterFr, intBin, resV, rvVs, rvV, hp, hch, h2, cq72, hp1, cq68, hz, hp6, cq76]
   obtain ⟨v, G', g1, rfl, rfl⟩ := okV_iff.1 this
   rw [g1, if_neg h2]
   exact ⟨rfl, o7, ov7, z1, f6.trans z2⟩
theorem e44 (x : Spec) (tm : Int) {H : Heap} {p c cv : Nat} {o : Option Nat} {rv ov : AV} {r : RunSt} (h : RunI (mkR x tm) H p c cv o rv ov r) (hn : r.cs.length ≤ 1000) (hl : r.out.length ≤ 100000) (n : Nat) (hk : n < r.cs.length) (ch : Child) (hch : x.children.l[n]? = some ch) :
  okV (evFun W fi71 [.optr p 0 0 0, I n] H) (Does (mkR x tm) p c cv o rv H (stoppingS tm n ch r)) := by
 have hp := h.hp
 have hc := h.hc
 have hkc : r.cs[n]? = some r.cs[n] := gEg hk
 obtain ⟨k1, f1⟩ := h.setC n { r.cs[n] with status := 3 }
 have hp1 := k1.hp
 have hc1 := k1.hc
 have hrs := h.rs.ok
 simp only [mkR] at hp hp1
 have hsl : (stopping1 n ch r).cs.length = r.cs.length := setS_len _ _ _
 have hso : (stopping1 n ch r).out = r.out := setS_out _ _ _
 have hst : (stopping1 n ch r).st = r.st := setS_st _ _ _
 have hsf : (stopping1 n ch r).fl = r.fl := setS_fl _ _ _
 have hG : ∃ G, RunI (mkR x tm) G p c cv o rv ov (stopping1 n ch r) ∧ Frame p c o o H G ∧ G = (if r.st = 2 ∧ ¬ ch.policy = 3 then H.set c (.arr cv 2 false ((r.cs.set n { r.cs[n] with status := 4 }).map ChildState.av)) else H.set c (.arr cv 2 false ((r.cs.set n { r.cs[n] with status := 3 }).map ChildState.av))) := by
  by_cases hb : r.st = 2 ∧ ¬ ch.policy = 3
  ·obtain ⟨k2, f2⟩ := k1.setC n { r.cs[n] with status := 4 }
   simp only [List.set_set] at k2 f2
   refine ⟨_, ?_, f1.trans f2, by rw [if_pos hb]⟩
   have : stopping1 n ch r = { r with cs := r.cs.set n { r.cs[n] with status := 4 } } := by simp only [stopping1, if_pos hb, RunSt.setS, hkc]
   rw [this]; exact k2
  ·refine ⟨_, ?_, f1, by rw [if_neg hb]⟩
   have : stopping1 n ch r = { r with cs := r.cs.set n { r.cs[n] with status := 3 } } := by simp only [stopping1, if_neg hb, RunSt.setS, hkc]
   rw [this]; exact k1
 obtain ⟨G, d1, d2, hGe⟩ := hG
 unfold stoppingS
 generalize hS' : stopping1 n ch r = S at *
 have hpG := d1.hp
 obtain ⟨v6, G6, n0, rfl, n1⟩ := okV_iff.1 (call64 (.osl c cv 0 S.cs.length) rv S.st S.fl S.cs (by omega) 2 G (by have := Rd.of_own d1.hc; rwa [List.length_map] at this) rfl rfl hrs.1 hrs.2.1 hrs.2.2.1)
 have cq64 : W.call (.clo 84 [] []) [.agg [I S.st, .osl c cv 0 S.cs.length, rv, .bool S.fl], I 2] G = some (I (cnt S.cs 2), G6) := by rw [W_call Φ84]; exact n0
 have k6 := d1.kept n1
 have f6 := d2.trans (Frame.of_kept n1)
 have hp6 := k6.hp
 simp only [mkR] at hpG hp6
 rw [hst, hsl, hsf] at hpG hp6 cq64
 by_cases hz : 0 < cnt S.cs 2
 ·have : okV (evFun W fi71 [.optr p 0 0 0, I n] H) (fun v G' => v = .tuple [] ∧ G' = G6) := by
   by_cases h2 : r.st = 2
   ·rw [h2] at hpG hp6 cq64
    by_cases h3 : ch.policy = 3
    ·rw [if_neg (by simp [h3])] at hGe
     subst hGe
     simp [fi71, c71, evFun, enterFr, intBin, resV, rvVs, rvV, hp, hc, hk, hch, h2, h3, hp1, hc1, hpG, hrs, cq64, hz, -List.map_set]
    ·rw [if_pos ⟨h2, h3⟩] at hGe
     subst hGe
     simp [fi71, c71, evFun, enterFr, intBin, resV, rvVs, rvV, hp, hc, hk, hch, h2, h3, hp1, hc1, hpG, hrs, cq64, hz, -List.map_set]
   ·rw [if_neg (by simp [h2])] at hGe
    subst hGe
    simp [fi71, c71, evFun, enterFr, intBin, resV, rvVs, rvV, hp, hc, hk, hch, h2, hp1, hc1, hpG, hrs, cq64, hz, -List.map_set]
  obtain ⟨v, G', g1, rfl, rfl⟩ := okV_iff.1 this
  rw [g1, if_pos hz]
  exact ⟨rfl, o, ov, k6, f6⟩
 ·rw [if_neg hz]
  by_cases h2 : r.st = 2
  ·obtain ⟨v7, G7, z0, rfl, o7, ov7, z1, z2⟩ := okV_iff.1 (e67 x tm k6 (by omega) (by rw [hso]; omega))
   have cq67 : W.call (.clo 90 [] []) [.optr p 0 0 0] G6 = some (.tuple [], G7) := by rw [W_call Φ90]; exact z0
   have : okV (evFun W fi71 [.optr p 0 0 0, I n] H) (fun v G' => v = .tuple [] ∧ G' = G7) := by
    rw [h2] at hpG hp6 cq64
    by_cases h3 : ch.policy = 3
    ·rw [if_neg (by simp [h3])] at hGe
     subst hGe
     simp [fi71, c71, evFun, enterFr, intBin, resV, rvVs, rvV, hp, hc, hk, hch, h2, h3, hp1, hc1, hpG, hrs, cq64, hz, hp6, cq67, -List.map_set]
    ·rw [if_pos ⟨h2, h3⟩] at hGe
     subst hGe
     simp [fi71, c71, evFun, enterFr, intBin, resV, rvVs, rvV, hp, hc, hk, hch, h2, h3, hp1, hc1, hpG, hrs, cq64, hz, hp6, cq67, -List.map_set]
   obtain ⟨v, G', g1, rfl, rfl⟩ := okV_iff.1 this
   rw [g1, if_pos h2]
   exact ⟨rfl, o7, ov7, z1, f6.trans z2⟩
  ·obtain ⟨v7, G7, z0, rfl, o7, ov7, z1, z2⟩ := okV_iff.1 (e65 x tm k6 (by rw [hso]; omega))
   have cq65 : W.call (.clo 87 [] []) [.optr p 0 0 0] G6 = some (.tuple [], G7) := by rw [W_call Φ87]; exact z0
   have : okV (evFun W fi71 [.optr p 0 0 0, I n] H) (fun v G' => v = .tuple [] ∧ G' = G7) := by
    rw [if_neg (by simp [h2])] at hGe
    subst hGe
    simp [fi71, c71, evFun, enterFr, intBin, resV, rvVs, rvV, hp, hc, hk, hch, h2, hp1, hc1, hpG, hrs, cq64, hz, hp6, cq65, -List.map_set]
   obtain ⟨v, G', g1, rfl, rfl⟩ := okV_iff.1 this
   rw [g1, if_neg h2]
   exact ⟨rfl, o7, ov7, z1, f6.trans z2⟩
end
end Go.Proofs.YtjknjapdcphcfaaGreat
