/-
  The parts of an expression, given to a yield function that may only go on while something holds (conditions: none). expr.Names, and the check of an expression (conditions: none). expr.Names, whole, and the check of an expression (conditions: none). Plain structures for the program's, printed by a program of mine (conditions: none). Operations on objects, and the shapes of statements (conditions: none). Shapes of statements (conditions: none). Fields of statements (conditions: none). syntax.size (conditions: none). syntax.size and Size, whole (conditions: none). syntax.size and Size: what they say (conditions: none). syntax.deep (conditions: none). syntax.preorder: the visit of all statements (conditions: none). syntax.preorder, whole (conditions: none). The check of a statement (conditions: none). The check of a declaration (conditions: none). syntax.Check (conditions: none). syntax.Check, whole (conditions: none).
-/
import Derived.Test.YtddpboiceemihaaGreatDoorPres
import Derived.Test.YtddpboiceemihaaGreatDoorAAs
import Derived.Test.YtddpboiceemihaaGreatDoorABs
section
namespace Go.Proofs.YtddpboiceemihaaGreatDoor
open Go Go.RowKit
set_option linter.unusedVariables false
set_option linter.unusedSimpArgs false
set_option maxRecDepth 10000
def runG {α σ ρ : Type} (G : σ → Prop) (step : α → σ → σ ⊕ ρ) : List α → σ → Prop
 | [], _ => True
 | a :: r, s => G s ∧ match step a s with | .inl s' => runG G step r s' | .inr _ => True
theorem runG_append {α σ ρ : Type} (G : σ → Prop) (step : α → σ → σ ⊕ ρ) (l m : List α) (s : σ) :
  runG G step (l ++ m) s ↔ runG G step l s ∧ (match runS step l s with | .inl s' => runG G step m s' | .inr _ => True) := by
 induction l generalizing s with
 | nil => simp [runG, runS]
 | cons a r ih =>
  simp only [List.cons_append, runG, runS]
  cases step a s with
  | inl s' => simp only [ih s', and_assoc]
  | inr x => simp
theorem loop210G {σ ρ : Type} (e : Ex) (hs : e.size ≤ 1000000000) (y : AV) (hy : okO y = some y) (P : σ → Heap → Prop) (Q : ρ → Heap → Prop) (G : σ → Prop) (step : Ex → σ → σ ⊕ ρ) (hP : ∀ s H B, P s H → P s (H ++ [B]))
  (ih : ∀ x ∈ e.args.l, ∀ s H, runG G step x.parts s → P s H → okV (W.call (.clo 210 [] []) [x.av, y] H) (yieldR (α := Ex) 5 P Q (runS step x.parts s) H)) :
  ∀ (r : List Ex) (k : Nat) (s : σ) (H : Heap), e.args.l.drop k = r → k ≤ e.args.l.length → runG G step (Ex.partss r) s → P s H →
  okC (W.loop [1, 12, 13, 14] l210_0 [(1, y), (12, Sl.av Ex.av 5 e.args), (13, I e.args.l.length), (14, I k)] H)
   (fun x F' H' => KeptN 5 H H' ∧ match runS step (Ex.partss r) s with | .inl s' => x = .exit 0 ∧ P s' H' | .inr z => x = .ret ∧ F'.get 4 = .bool false ∧ Q z H') := by
 have hll := Ex.len_sizes e.args.l
 rw [Ex.size_eq] at hs
 intro r
 induction r with
 | nil =>
  intro k s H h1 h2 hg hp
  have hk := drop_nil_len h1 h2
  rw [om_turn]
  simp [evl210_0, b210_0, intBin, hk, Ex.partss, runS, hp, hy]
  exact KeptN.refl _ _
 | cons a r ihr =>
  intro k s H h1 h2 hg hp
  obtain ⟨hlt, ha, hr⟩ := drop_cons h1
  have hlt' : (k : Int) < e.args.l.length := by omega
  have hak : e.args.l[k] = a := (gEs.1 ha).2
  have hw := wrap_succ (k := k) (by omega)
  simp only [Ex.partss, runG_append] at hg
  obtain ⟨hg1, hg2⟩ := hg
  have e1 := ih a (mem_of_drop h1) s (H ++ [.arr 0 5 false [a.av]]) hg1 (hP _ _ _ hp)
  obtain ⟨v, H1, c1, c2, c3⟩ := okV_iff.1 e1
  rw [om_turn]
  simp only [Ex.partss, runS_append]
  cases hrun : runS step a.parts s with
  | inr z =>
   rw [hrun] at c3
   obtain ⟨rfl, c4⟩ := c3
   simp [evl210_0, b210_0, intBin, hlt, hak, c1, hy]
   exact ⟨(KeptN.append _ _ _).trans c2, c4⟩
  | inl s' =>
   rw [hrun] at c3 hg2
   obtain ⟨rfl, c4⟩ := c3
   have hJ := ihr (k + 1) s' H1 hr (by omega) hg2 c4
   simp only [Int.natCast_add, Int.cast_ofNat_Int] at hJ
   obtain ⟨x, F', H', g1, g2, g3⟩ := okC_iff.1 hJ
   simp [evl210_0, b210_0, intBin, hlt, hak, c1, hy, hw, g1]
   refine ⟨((KeptN.append _ _ _).trans c2).trans g2, ?_⟩
   simpa using g3
theorem visitG_ok {σ ρ : Type} (y : AV) (hy : okO y = some y) (P : σ → Heap → Prop) (Q : ρ → Heap → Prop) (G : σ → Prop) (step : Ex → σ → σ ⊕ ρ) (hP : ∀ s H B, P s H → P s (H ++ [B]))
  (hstep : ∀ x s H, G s → P s H → okV (W.call y [x.av] H) (yieldR (α := Ex) 5 P Q (step x s) H)) :
  ∀ (e : Ex), e.size ≤ 1000000000 → ∀ (s : σ) (H : Heap), runG G step e.parts s → P s H → okV (W.call (.clo 210 [] []) [e.av, y] H) (yieldR (α := Ex) 5 P Q (runS step e.parts s) H) := by
 refine Ex.ind (fun e ih => ?_)
 intro hs s H hg hp
 rw [W_call Φ210]
 rw [Ex.parts_eq] at hg ⊢
 simp only [runS]
 simp only [runG] at hg
 obtain ⟨hg1, hg2⟩ := hg
 have e1 := hstep e s (H ++ [.arr 0 5 false [e.av]]) hg1 (hP _ _ _ hp)
 obtain ⟨v, H1, c1, c2, c3⟩ := okV_iff.1 e1
 have hbox : H1[H.length]? = some (.arr 0 5 false [e.av]) := c2.2 H.length [e.av] (by simp)
 cases hst : step e s with
 | inr z =>
  rw [hst] at c3
  obtain ⟨rfl, c4⟩ := c3
  simp [fi210, c210, evFun, enterFr, intBin, resV, rvVs, rvV, c1, hy]
  exact ⟨(KeptN.append _ _ _).trans c2, rfl, c4⟩
 | inl s' =>
  rw [hst] at c3 hg2
  obtain ⟨rfl, c4⟩ := c3
  have hL := loop210G e hs y hy P Q G step hP (fun x hx s H hg hp => ih x hx (by have := Ex.mem_size hx; rw [Ex.size_eq] at hs; omega) s H hg hp) e.args.l 0 s' H1 rfl (by omega) hg2 c4
  simp only [Int.natCast_zero] at hL
  obtain ⟨x, F', H', g1, g2, g3⟩ := okC_iff.1 hL
  have hk := ((KeptN.append 5 H (.arr 0 5 false [e.av])).trans c2).trans g2
  cases hrun : runS step (Ex.partss e.args.l) s' with
  | inl s'' =>
   rw [hrun] at g3
   obtain ⟨rfl, g4⟩ := g3
   simp [fi210, c210, evFun, enterFr, intBin, resV, rvVs, rvV, c1, hy, hbox, g1, app_last, -getElem?_pos, gEz]
   refine ⟨hk, ?_⟩
   rw [hrun]
   exact ⟨rfl, g4⟩
  | inr z =>
   rw [hrun] at g3
   obtain ⟨rfl, g4, g5⟩ := g3
   simp [fi210, c210, evFun, enterFr, intBin, resV, rvVs, rvV, c1, hy, hbox, g1, g4, app_last, -getElem?_pos, gEz]
   refine ⟨hk, ?_⟩
   rw [hrun]
   exact ⟨rfl, g5⟩
theorem partsG_ok {σ ρ : Type} (e : Ex) (hs : e.size ≤ 1000000000) (b : Nat) (y : AV) (hy : okO y = some y) (P : σ → Heap → Prop) (Q : ρ → Heap → Prop) (G : σ → Prop) (step : Ex → σ → σ ⊕ ρ) (hP : ∀ s H B, P s H → P s (H ++ [B]))
  (hstep : ∀ x s H, G s → P s H → okV (W.call y [x.av] H) (yieldR (α := Ex) 5 P Q (step x s) H)) (s : σ) (H : Heap) (hb : H[b]? = some (.arr 0 5 false [e.av])) (hg : runG G step e.parts s) (hp : P s H) :
  okV (W.call (.clo 209 [] [.optr b 0 0 0]) [y] H) (fun v H' => v = .tuple [] ∧ KeptN 5 H H' ∧ match runS step e.parts s with | .inl s' => P s' H' | .inr z => Q z H') := by
 rw [W_call Φ209]
 obtain ⟨v, H', c1, c2, c3⟩ := okV_iff.1 (visitG_ok y hy P Q G step hP hstep e hs s H hg hp)
 have hv : okO v = some v := by
  cases hrun : runS step e.parts s <;> rw [hrun] at c3 <;> rw [c3.1] <;> rfl
 simp [fi209, c209, evFun, enterFr, intBin, resV, rvVs, rvV, hb, hy, c1, hv, app_last, -getElem?_pos, gEz]
 refine ⟨c2, ?_⟩
 cases hrun : runS step e.parts s with
 | inl s' => rw [hrun] at c3; exact c3.2
 | inr z => rw [hrun] at c3; exact c3.2
def OwnS (H : Heap) (v : AV) (l : List (List UInt8)) (n : Nat) : Prop :=
 (v = .isl (some true) 0 [] ∧ l = []) ∨ ∃ id ver, n ≤ id ∧ v = .osl id ver 0 l.length ∧ l ≠ [] ∧ H[id]? = some (.arr ver 1 false (l.map .str))
theorem OwnS.okO {H : Heap} {v : AV} {l : List (List UInt8)} {n : Nat} (h : OwnS H v l n) : okO v = some v := by
 rcases h with ⟨rfl, _⟩ | ⟨id, ver, _, rfl, _⟩ <;> rfl
theorem OwnS.cells {H : Heap} {v : AV} {l : List (List UInt8)} {n : Nat} (h : OwnS H v l n) : v.cells = [v] := by
 rcases h with ⟨rfl, _⟩ | ⟨id, ver, _, rfl, _⟩ <;> rfl
theorem OwnS.cell {H : Heap} {v : AV} {l : List (List UInt8)} {n : Nat} (h : OwnS H v l n) : v.cell = true := by
 rcases h with ⟨rfl, _⟩ | ⟨id, ver, _, rfl, _⟩ <;> rfl
theorem OwnS.kept {H H' : Heap} {v : AV} {l : List (List UInt8)} {n : Nat} (h : OwnS H v l n) (hk : ∀ (j : Nat) (B : Blk), n ≤ j → H[j]? = some B → H'[j]? = some B) : OwnS H' v l n := by
 rcases h with ⟨rfl, h2⟩ | ⟨id, ver, h1, h2, h3, h4⟩
 ·exact .inl ⟨rfl, h2⟩
 ·exact .inr ⟨id, ver, h1, h2, h3, hk _ _ h1 h4⟩
theorem OwnS.app {H : Heap} {v : AV} {l : List (List UInt8)} {n : Nat} (h : OwnS H v l n) (hn : n ≤ H.length) (s : List UInt8) (hr : l.length < appRoom) :
  ∃ v' H', ex H (.app 1) [v, .isl (some false) 1 [.str s]] = some (v', H') ∧ OwnS H' v' (l ++ [s]) n ∧ KeptN 5 H H' ∧ ∀ j, j < n → H'[j]? = H[j]? := by
 have e0 : ex H (.app 1) [v, .isl (some false) 1 [.str s]] = exApp (truncH H v) 1 v [.str s] := by simp [ex]
 rw [e0]
 rcases h with ⟨rfl, rfl⟩ | ⟨id, ver, h1, rfl, h3, h4⟩
 ·refine ⟨.osl H.length 0 0 1, H ++ [.arr 0 1 false [.str s]], ?_, .inr ⟨H.length, 0, hn, rfl, by simp, by simp⟩, KeptN.append _ _ _, fun j hj => by rw [gEa (by omega)]⟩
  simp [exApp, truncH, appRoom]
 ·have hid := (gEs.1 h4).1
  have ht : truncH H (.osl id ver 0 l.length) = H := by
   simp [truncH, h4]
  rw [ht]
  refine ⟨.osl id (ver + 1) 0 (l.length + 1), H.set id (.arr (ver + 1) 1 false (l.map .str ++ [.str s])), ?_, .inr ⟨id, ver + 1, h1, by simp, by simp, ?_⟩, KeptN.set h4 (by intro es e; cases e), fun j hj => by rw [gEn (by omega)]⟩
  ·simp only [exApp, h4]
   rw [if_pos (by simp), if_pos (by simp; omega)]
   simp
  ·rw [gEt hid]; simp
end Go.Proofs.YtddpboiceemihaaGreatDoor
end
section
namespace Go.Proofs.YtddpboiceemihaaGreatDoor
open Go Go.RowKit
set_option linter.unusedVariables false
set_option linter.unusedSimpArgs false
set_option maxRecDepth 10000
theorem insS_len (x : List UInt8) : ∀ l, (insS x l).length = l.length + 1
 | [] => rfl
 | y :: r => by
  simp only [insS]
  split
  ·rfl
  ·simp [insS_len x r]
theorem sortS_len : ∀ l, (sortS l).length = l.length
 | [] => rfl
 | x :: r => by simp only [sortS, insS_len, sortS_len r, List.length_cons]
theorem insS_mem (x s : List UInt8) : ∀ l, s ∈ insS x l ↔ s = x ∨ s ∈ l
 | [] => by simp [insS]
 | y :: r => by
  simp only [insS]
  split
  ·simp
  ·simp only [List.mem_cons, insS_mem x s r]
   constructor
   ·rintro (h | h | h) <;> simp [h]
   ·rintro (h | h | h) <;> simp [h]
theorem sortS_mem (s : List UInt8) : ∀ l, s ∈ sortS l ↔ s ∈ l
 | [] => by simp [sortS]
 | x :: r => by simp only [sortS, insS_mem, sortS_mem s r, List.mem_cons]
theorem compS_mem (s : List UInt8) : ∀ l, s ∈ compS l ↔ s ∈ l
 | [] => by simp [compS]
 | [x] => by simp [compS]
 | x :: y :: r => by
  have ih := compS_mem s (y :: r)
  simp only [compS]
  split
  ·rename_i h; subst h; rw [ih]; simp
  ·simp only [List.mem_cons, ih]
theorem compS_len : ∀ l, (compS l).length ≤ l.length
 | [] => by simp [compS]
 | [x] => by simp [compS]
 | x :: y :: r => by
  have ih := compS_len (y :: r)
  simp only [compS]
  split
  ·simp at *; omega
  ·simp at *; omega
theorem strsOf_map : ∀ l : List (List UInt8), strsOf (l.map .str) = some l
 | [] => rfl
 | x :: r => by simp only [List.map_cons, strsOf, strsOf_map r, Option.map_some]
theorem W_246 (vs : List AV) (H : Heap) : W.call (.clo 246 [] []) vs H = sortM vs H := by
 have h : Φ 246 = none := by kernel_rfl
 rw [om_call]
 simp [callV, h, extM]
theorem W_247 (vs : List AV) (H : Heap) : W.call (.clo 247 [] []) vs H = compM vs H := by
 have h : Φ 247 = none := by kernel_rfl
 rw [om_call]
 simp [callV, h, extM]
theorem sort_own {H : Heap} {v : AV} {l : List (List UInt8)} {n : Nat} (h : OwnS H v l n) (hl : l.length ≤ 1048576) :
  ∃ H', W.call (.clo 246 [] []) [v] H = some (.tuple [], H') ∧ OwnS H' v (sortS l) n ∧ ∀ j, j < n → H'[j]? = H[j]? := by
 rw [W_246]
 rcases h with ⟨rfl, rfl⟩ | ⟨id, ver, h1, rfl, h3, h4⟩
 ·exact ⟨H, rfl, .inl ⟨rfl, rfl⟩, fun _ _ => rfl⟩
 ·have hid := (gEs.1 h4).1
  have hpos : 0 < l.length := List.length_pos_iff.2 h3
  refine ⟨H.set id (.arr ver 1 false ((sortS l).map .str)), ?_, .inr ⟨id, ver, h1, by rw [sortS_len], ?_, gEt hid⟩, fun j hj => by rw [gEn (by omega)]⟩
  ·simp [sortM, h4, strsOf_map, hpos, hl]
  ·intro e; have := sortS_len l; rw [e] at this; simp at this; omega
theorem comp_own {H : Heap} {v : AV} {l : List (List UInt8)} {n : Nat} (h : OwnS H v l n) (hl : l.length ≤ 1048576) :
  ∃ v' H' x, W.call (.clo 247 [] []) [v] H = some (v', H') ∧ okO v' = some v' ∧ frz H' 8 v' = some (Sl.av AV.str 1 x) ∧ x.l = compS l := by
 rw [W_247]
 rcases h with ⟨rfl, rfl⟩ | ⟨id, ver, h1, rfl, h3, h4⟩
 ·exact ⟨_, H, slNil, rfl, rfl, rfl, rfl⟩
 ·have hid := (gEs.1 h4).1
  have hpos : 0 < l.length := List.length_pos_iff.2 h3
  refine ⟨.osl id ver 0 (compS l).length, H.set id (.arr ver 1 false ((compS l ++ List.replicate (l.length - (compS l).length) []).map .str)), ofL 1 (compS l), ?_, rfl, ?_, rfl⟩
  ·simp [compM, h4, strsOf_map, hpos, hl]
  ·have hg : Grow (H.set id (.arr ver 1 false ((compS l ++ List.replicate (l.length - (compS l).length) []).map .str))) 1 (some id) (.osl id ver 0 (compS l).length) ((compS l).map .str) :=
    ⟨ver, (List.replicate (l.length - (compS l).length) []).map .str, by simp, by rw [gEt hid, List.map_append]⟩
   rw [hg.frz (n := 7) (by simp)]
   simp [isl_sl]
def exNms (e : Ex) : List (List UInt8) := e.parts.foldl (fun s x => if x.kind = 2 then s ++ [x.name] else s) []
theorem runS_tot {α σ ρ : Type} (f : α → σ → σ) : ∀ (l : List α) (s : σ), runS (ρ := ρ) (fun x s => .inl (f x s)) l s = .inl (l.foldl (fun s x => f x s) s)
 | [], s => rfl
 | a :: r, s => by simp only [runS, List.foldl_cons]; exact runS_tot f r _
def K216 (st : LoopState) (pe : Option LX) : Blk := .loop st pe [(2, .isl (some true) 0 []), (3, .optr 1 0 0 0)] [10] ra216_0 rb216_0
def P216 (s : List (List UInt8)) (H : Heap) : Prop := H[3]? = some (K216 .ready none) ∧ ∃ v, H[1]? = some (.arr 0 1 false [v]) ∧ OwnS H v s 4
def stepN (x : Ex) (s : List (List UInt8)) : List (List UInt8) := if x.kind = 2 then s ++ [x.name] else s
theorem setElem_one {a v : AV} (ha : a.cells = [a]) (hv : v.cells = [v]) (hc : v.cell = true) : setElem [a] 0 0 v = some [v] := by
 cases a with
 | agg cs =>
  have h1 : cs = [AV.agg cs] := ha
  have h2 := congrArg (fun l : List AV => SizeOf.sizeOf l) h1
  simp at h2
  omega
 | _ => simp [setElem, ha, hv, hc]
theorem round216 (x : Ex) (s : List (List UInt8)) (H : Heap) (hg : s.length < 1000000) (hp : P216 s H) :
  okV (W.call (.yld 3) [x.av] H) (yieldR (α := Ex) 5 P216 (fun (_ : Unit) _ => False) (.inl (stepN x s)) H) := by
 obtain ⟨h1, v, h2, h3⟩ := hp
 have hl := (gEs.1 h1).1
 rw [W_yld, evRound_open h1 rfl]
 have a1 : (H ++ [Blk.arr 0 5 false [x.av]])[3]? = some (K216 .ready none) := app_get h1 _
 have a2 : (H ++ [Blk.arr 0 5 false [x.av]])[H.length]? = some (.arr 0 5 false [x.av]) := app_last _ _
 have a3 : (H ++ [Blk.arr 0 5 false [x.av]])[1]? = some (.arr 0 1 false [v]) := app_get h2 _
 have b1 : ∀ B, ((H ++ [Blk.arr 0 5 false [x.av]]).set 3 B)[3]? = some B := fun B => gEt (by simp; omega)
 have b2 : ∀ B, ((H ++ [Blk.arr 0 5 false [x.av]]).set 3 B)[H.length]? = some (.arr 0 5 false [x.av]) := fun B => by rw [gEn (by omega)]; exact a2
 have b3 : ∀ B, ((H ++ [Blk.arr 0 5 false [x.av]]).set 3 B)[1]? = some (.arr 0 1 false [v]) := fun B => by rw [gEn (by omega)]; exact a3
 have o0 : ∀ B, OwnS ((H ++ [Blk.arr 0 5 false [x.av]]).set 3 B) v s 4 := fun B => h3.kept (fun j C hj hC => by rw [gEn (by omega)]; exact app_get hC _)
 have k0 : KeptN 5 H (H ++ [Blk.arr 0 5 false [x.av]]) := KeptN.append _ _ _
 have k1 : ∀ B, KeptN 5 H ((H ++ [Blk.arr 0 5 false [x.av]]).set 3 B) := fun B => k0.trans (KeptN.set a1 (by intro es e; cases e))
 have hlen : ∀ B, 4 ≤ ((H ++ [Blk.arr 0 5 false [x.av]]).set 3 B).length := fun B => by simp; omega
 simp only [K216] at *
 by_cases hk : x.kind = 2
 ·obtain ⟨v', H', e1, e2, e3, e4⟩ := (o0 (.loop .busy none [(2, .isl (some true) 0 []), (3, .optr 1 0 0 0)] [10] ra216_0 rb216_0)).app (hlen _) x.name (by simp [appRoom]; omega)
  have g1 : H'[1]? = some (.arr 0 1 false [v]) := by rw [e4 1 (by omega)]; exact b3 _
  have g3 := e4 3 (by omega)
  rw [b1] at g3
  have hl1 := (gEs.1 g1).1
  have hl3 := (gEs.1 g3).1
  have s1 := setElem_one h3.cells e2.cells e2.cell
  have g4 : ∀ B, (H'.set 1 B)[3]? = some (.loop .busy none [(2, .isl (some true) 0 []), (3, .optr 1 0 0 0)] [10] ra216_0 rb216_0) := fun B => by rw [gEn (by omega)]; exact g3
  simp [putAll, evra216_0, xra216_0, evrb216_0, xrb216_0, intBin, a1, a2, b1, b2, b3, hk, h3.okO, h3.cells, e1, e2.okO, e2.cells, e2.cell, g1, g3, g4, s1, stepN, app_last, -getElem?_pos, gEz, -List.append_assoc]
  refine ⟨((k1 _).trans e3).trans ((KeptN.set g1 (by intro es e; cases e)).trans (KeptN.set (g4 _) (by intro es e; cases e))), rfl, gEt (by simp; omega), v', ?_, ?_⟩
  ·rw [gEn (by omega), gEt hl1]
  ·exact e2.kept (fun j C hj hC => by rw [gEn (by omega), gEn (by omega)]; exact hC)
 ·simp [putAll, evra216_0, xra216_0, evrb216_0, xrb216_0, intBin, a1, a2, b1, b2, b3, hk, stepN, app_last, -getElem?_pos, gEz, -List.append_assoc]
  refine ⟨k1 _, rfl, gEt (by simp; omega), v, ?_, ?_⟩
  ·rw [gEn (by omega)]; exact a3
  ·exact h3.kept (fun j C hj hC => by rw [gEn (by omega)]; exact app_get hC _)
end Go.Proofs.YtddpboiceemihaaGreatDoor
end
section
namespace Go.Proofs.YtddpboiceemihaaGreatDoor
open Go Go.RowKit
set_option linter.unusedVariables false
set_option linter.unusedSimpArgs false
set_option maxRecDepth 10000
theorem stepN_len : ∀ (l : List Ex) (s : List (List UInt8)), (l.foldl (fun s x => stepN x s) s).length ≤ s.length + l.length
 | [], s => by simp
 | x :: r, s => by
  have := stepN_len r (stepN x s)
  have h : (stepN x s).length ≤ s.length + 1 := by unfold stepN; split <;> simp
  simp only [List.foldl_cons, List.length_cons]; omega
theorem runG_len : ∀ (l : List Ex) (s : List (List UInt8)), s.length + l.length < 1000000 → runG (ρ := Unit) (fun s : List (List UInt8) => s.length < 1000000) (fun x s => .inl (stepN x s)) l s
 | [], s, h => trivial
 | x :: r, s, h => by
  have h1 : (stepN x s).length ≤ s.length + 1 := by unfold stepN; split <;> simp
  simp only [List.length_cons] at h
  exact ⟨by omega, runG_len r _ (by omega)⟩
theorem exNms_eq (e : Ex) : exNms e = e.parts.foldl (fun s x => stepN x s) [] := rfl
mutual
theorem Ex.parts_len : ∀ e : Ex, e.parts.length = e.size
 | .mk a b c d n z l => by simp only [Ex.parts, Ex.size, List.length_cons, Ex.partss_len l]; omega
theorem Ex.partss_len : ∀ l : List Ex, (Ex.partss l).length = Ex.sizes l
 | [] => rfl
 | x :: r => by simp only [Ex.partss, Ex.sizes, List.length_append, Ex.parts_len x, Ex.partss_len r]
end
theorem exCk_size {e : Ex} (h : exCheck e = 0) : e.size ≤ 100 := by
 unfold exCheck at h
 split at h
 ·cases h
 ·omega
theorem e216 (e : Ex) (hz : exCheck e = 0) : ∃ x : Sl (List UInt8), W.pure 216 [e.av] = some (Sl.av AV.str 1 x) ∧ x.l = compS (sortS (exNms e)) := by
 have hs := exCk_size hz
 have c1 := e153 e
 rw [hz] at c1
 have p1 := e183 e [.arr 0 5 false [e.av], .arr 0 1 false [.isl (some true) 0 []]]
 have hd := partsG_ok e (by omega) 2 (.yld 3) rfl P216 (fun (_ : Unit) _ => False) (fun s => s.length < 1000000) (fun x s => .inl (stepN x s))
  (by rintro s H B ⟨h1, v, h2, h3⟩; exact ⟨app_get h1 B, v, app_get h2 B, h3.kept (fun j C _ hC => app_get hC B)⟩)
  (fun x s H hg hp => round216 x s H hg hp) [] [.arr 0 5 false [e.av], .arr 0 1 false [.isl (some true) 0 []], .arr 0 5 false [e.av], K216 .ready none] rfl
  (runG_len _ _ (by rw [Ex.parts_len]; simp; omega)) ⟨rfl, _, rfl, .inl ⟨rfl, rfl⟩⟩
 obtain ⟨v, H', d1, rfl, d2, d3⟩ := okV_iff.1 hd
 rw [runS_tot, ← exNms_eq] at d3
 obtain ⟨d3, w, d4, d5⟩ := d3
 have hlen : (exNms e).length ≤ 100 := by
  have := stepN_len e.parts []
  rw [Ex.parts_len] at this
  simp at this
  rw [exNms_eq]; omega
 have hl3 := (gEs.1 d3).1
 have o1 : ∀ B, OwnS (H'.set 3 B) w (exNms e) 4 := fun B => d5.kept (fun j C hj hC => by rw [gEn (by omega)]; exact hC)
 have g1 : ∀ B, (H'.set 3 B)[1]? = some (.arr 0 1 false [w]) := fun B => by rw [gEn (by omega)]; exact d4
 simp only [K216] at *
 obtain ⟨H2, f1, f2, f3⟩ := sort_own (o1 (.loop .exhausted none [(2, .isl (some true) 0 []), (3, .optr 1 0 0 0)] [10] ra216_0 rb216_0)) (by omega)
 obtain ⟨v3, H3, x, k1, k2, k3, k4⟩ := comp_own f2 (by rw [sortS_len]; omega)
 have g2 : H2[1]? = some (.arr 0 1 false [w]) := by rw [f3 1 (by omega)]; exact g1 _
 refine ⟨x, ?_, k4⟩
 rw [W_pure Φ216 (by simp)]
 simp [fi216, c216, evFun, enterFr, intBin, resV, rvVs, rvV, c1, p1, d1, d3, rngEnd, g1, d5.okO, d5.cells, f1, g2, k1, k2, k3, -getElem?_pos, gEz]
def exI (e : Ex) : Int := if exCheck e = 0 then (if (exNms e).any (fun s => decide (s ∈ kwords)) = true then 5 else 0) else exCheck e
theorem call154 (s : List UInt8) (hn : isNm s = true) (H : Heap) : W.call (.clo 154 [] []) [.str s] H = some (.bool (decide (s ∈ kwords)), H) := by
 rw [W_call Φ154]
 have h32 := isNm_no32 hn
 have hne : s ≠ [] := by rintro rfl; simp [isNm] at hn
 have hl : s.length ≤ 30 := by simp [isNm] at hn; exact hn.2
 have c1 := e164 s [32] (by omega)
 have s1 : Lib.contains s [32] = false := by
  have := contains_skip [] s [] h32
  simpa [contains_nil] using this
 rw [s1] at c1
 have c2 := e164 (32 :: joinW kwords) (32 :: (s ++ [32])) (by rw [kw_text]; simp)
 rw [contains_word s h32 kwords kw_no32, kw_text] at c2
 have l1 : 1 + s.length ≤ 9223372036854775807 := by omega
 have l2 : s.length + 1 + 1 ≤ 9223372036854775807 := by omega
 have l3 : 1 + s.length + 1 ≤ 9223372036854775807 := by omega
 have l4 : s.length + 1 ≤ 9223372036854775807 := by omega
 by_cases hm : s ∈ kwords <;> simp [fi154, c154, evFun, enterFr, intBin, resV, rvVs, rvV, strBin, hne, c1, c2, hm, l1, l2, l3, l4]
theorem exNms_mem (e : Ex) (s : List UInt8) : s ∈ exNms e ↔ ∃ x ∈ e.parts, x.kind = 2 ∧ x.name = s := by
 have key : ∀ (l : List Ex) (a : List (List UInt8)), s ∈ l.foldl (fun s x => stepN x s) a ↔ s ∈ a ∨ ∃ x ∈ l, x.kind = 2 ∧ x.name = s := by
  intro l
  induction l with
  | nil => intro a; simp
  | cons x r ih =>
   intro a
   simp only [List.foldl_cons, ih, List.mem_cons, exists_eq_or_imp]
   unfold stepN
   by_cases h : x.kind = 2
   ·simp only [h, if_true, List.mem_append, List.mem_singleton, true_and, or_assoc, eq_comm]
   ·simp only [h, if_false, false_and, false_or]
 rw [exNms_eq, key]
 simp
theorem exNms_nm {e : Ex} (hz : exCheck e = 0) {s : List UInt8} (h : s ∈ exNms e) : isNm s = true := by
 obtain ⟨x, h1, h2, rfl⟩ := (exNms_mem e s).1 h
 have h3 : exPart x = 0 := by
  unfold exCheck at hz
  split at hz
  ·cases hz
  ·split at hz
   ·cases hz
   ·exact errOf_ok.1 hz x h1
 unfold exPart at h3
 cases h4 : isNm x.name with
 | true => rfl
 | false =>
  exfalso
  have h5 : x.kind = 2 ∧ isNm x.name = false := ⟨h2, h4⟩
  split at h3
  ·omega
  ·split at h3
   ·omega
   ·split at h3
    ·omega
    ·omega
theorem any_mem {α : Type} {p : α → Bool} {l m : List α} (h : ∀ a, a ∈ l ↔ a ∈ m) : l.any p = m.any p := by
 rw [Bool.eq_iff_iff]
 simp only [List.any_eq_true, h]
theorem e190 (e : Ex) : W.pure 190 [e.av] = some (I (exI e)) := by
 rw [W_pure Φ190 (by simp)]
 have c1 := e153 e
 unfold exI
 by_cases hz : exCheck e = 0
 ·rw [if_pos hz]
  rw [hz] at c1
  obtain ⟨x, n1, n2⟩ := e216 e hz
  have hmem : ∀ s, s ∈ x.l ↔ s ∈ exNms e := fun s => by rw [n2, compS_mem, sortS_mem]
  have hlen : x.l.length ≤ 100 := by
   rw [n2]
   refine Nat.le_trans (compS_len _) ?_
   rw [sortS_len]
   have := stepN_len e.parts []
   rw [Ex.parts_len] at this
   have h2 := exCk_size hz
   simp at this
   rw [exNms_eq]; omega
  obtain ⟨v, H', d1, rfl, d2⟩ := okV_iff.1 (any37 x (by omega) (.clo 154 [] []) rfl (fun s => decide (s ∈ kwords)) [.arr 0 5 false [e.av]] (fun s hs H _ => by
   rw [call154 s (exNms_nm hz ((hmem s).1 hs))]; exact ⟨rfl, Kept.refl _ _⟩))
  rw [any_mem hmem] at d1
  generalize (exNms e).any (fun s => decide (s ∈ kwords)) = q at *
  cases q with
  | true => simp [fi190, c190, evFun, enterFr, intBin, resV, rvVs, rvV, c1, n1, d1, -getElem?_pos, gEz]
  | false =>
   rw [if_neg (by simp)]
   simp [fi190, c190, evFun, enterFr, intBin, resV, rvVs, rvV, c1, n1, d1, -getElem?_pos, gEz]
 ·rw [if_neg hz]
  simp [fi190, c190, evFun, enterFr, intBin, resV, rvVs, rvV, c1, hz, -getElem?_pos, gEz]
end Go.Proofs.YtddpboiceemihaaGreatDoor
end
section
namespace Go.Proofs.YtddpboiceemihaaGreatDoor
open Go Go.RowKit
set_option linter.unusedVariables false
set_option linter.unusedSimpArgs false
structure Op4 where
 op : Int
 word : (List UInt8)
 exprs : Int
 names : Int
 deriving DecidableEq, Inhabited
def Op4.av (s : Op4) : AV := .agg [I s.op, .str s.word, I s.exprs, I s.names]
section
variable {s t : Op4} {H : Heap} {es : List AV} {k : Nat}
@[simp] theorem Op4_okO : okO s.av = some s.av := rfl
@[simp] theorem Op4_ok : s.av.ok = true := rfl
@[simp] theorem Op4_flat : s.av.flat = true := rfl
@[simp] theorem Op4_len : s.av.cells.length = 4 := rfl
@[simp] theorem Op4_cell : s.av.cells.all AV.cell = true := rfl
@[simp] theorem Op4_still : s.av.cells.all AV.still = true := rfl
@[simp] theorem Op4_still2 : (∀ x, x ∈ s.av.cells → AV.still x = true) ↔ True := by simp only [iff_true]; exact List.all_eq_true.1 Op4_still
@[simp] theorem Op4_cell2 : (∀ x, x ∈ s.av.cells → AV.cell x = true) ↔ True := by simp only [iff_true]; exact List.all_eq_true.1 Op4_cell
@[simp] theorem Op4_frz (n : Nat) : frz H (n + 2) s.av = some s.av := rfl
@[simp] theorem Op4_frz0 (n : Nat) : frzs (frz H (n + 1)) s.av.cells = some s.av.cells := rfl
@[simp] theorem Op4_whole : ldCells true 4 s.av.cells = s.av := rfl
@[simp] theorem Op4_fold : AV.agg s.av.cells = s.av := rfl
theorem Op4_mk (op : Int) (word : (List UInt8)) (exprs : Int) (names : Int) : (.agg [I op, .str word, I exprs, I names] : AV) = (Op4.mk op word exprs names).av := rfl
@[simp] theorem Op4_ld_op : ldCells false 1 s.av.cells = I s.op := rfl
@[simp] theorem Op4_fv_op : fldvV false 1 0 s.av = I s.op := rfl
@[simp] theorem Op4_st_op (x : Int) : setElem [s.av] 0 0 (I x) = some [({ s with op := x } : Op4).av] := rfl
@[simp] theorem Op4_stm_op (l : List Op4) (x : Int) : setElem (l.map Op4.av) k 0 (I x) = l[k]?.map fun s => (l.set k { s with op := x }).map Op4.av := by
 cases h : l[k]? with
 | none => simp [setElem, h]
 | some s => simp only [setElem, List.getElem?_map, h, Option.map_some, List.map_set]; rfl
@[simp] theorem Op4_ld_word : ldCells false 1 s.av.cells.tail = .str s.word := rfl
@[simp] theorem Op4_fv_word : fldvV false 1 1 s.av = .str s.word := rfl
@[simp] theorem Op4_st_word (x : (List UInt8)) : setElem [s.av] 0 1 (.str x) = some [({ s with word := x } : Op4).av] := rfl
@[simp] theorem Op4_stm_word (l : List Op4) (x : (List UInt8)) : setElem (l.map Op4.av) k 1 (.str x) = l[k]?.map fun s => (l.set k { s with word := x }).map Op4.av := by
 cases h : l[k]? with
 | none => simp [setElem, h]
 | some s => simp only [setElem, List.getElem?_map, h, Option.map_some, List.map_set]; rfl
@[simp] theorem Op4_ld_exprs : ldCells false 1 (s.av.cells.drop 2) = I s.exprs := rfl
@[simp] theorem Op4_fv_exprs : fldvV false 1 2 s.av = I s.exprs := rfl
@[simp] theorem Op4_st_exprs (x : Int) : setElem [s.av] 0 2 (I x) = some [({ s with exprs := x } : Op4).av] := rfl
@[simp] theorem Op4_stm_exprs (l : List Op4) (x : Int) : setElem (l.map Op4.av) k 2 (I x) = l[k]?.map fun s => (l.set k { s with exprs := x }).map Op4.av := by
 cases h : l[k]? with
 | none => simp [setElem, h]
 | some s => simp only [setElem, List.getElem?_map, h, Option.map_some, List.map_set]; rfl
@[simp] theorem Op4_ld_names : ldCells false 1 (s.av.cells.drop 3) = I s.names := rfl
@[simp] theorem Op4_fv_names : fldvV false 1 3 s.av = I s.names := rfl
@[simp] theorem Op4_st_names (x : Int) : setElem [s.av] 0 3 (I x) = some [({ s with names := x } : Op4).av] := rfl
@[simp] theorem Op4_stm_names (l : List Op4) (x : Int) : setElem (l.map Op4.av) k 3 (I x) = l[k]?.map fun s => (l.set k { s with names := x }).map Op4.av := by
 cases h : l[k]? with
 | none => simp [setElem, h]
 | some s => simp only [setElem, List.getElem?_map, h, Option.map_some, List.map_set]; rfl
@[simp] theorem Op4_st_all (x : Op4) : setElem [s.av] 0 0 x.av = some [x.av] := rfl
@[simp] theorem Op4_st_new (x : Op4) : setElem [.agg [.int .i64 0, .str [], .int .i64 0, .int .i64 0]] 0 0 x.av = some [x.av] := rfl
@[simp] theorem Op4_stm_all (l : List Op4) (x : Op4) : setElem (l.map Op4.av) k 0 x.av = l[k]?.map fun _ => (l.set k x).map Op4.av := by
 cases h : l[k]? with
 | none => simp [setElem, h]
 | some s => simp only [setElem, List.getElem?_map, h, Option.map_some, List.map_set]; rfl
theorem Op4_ext : s = t ↔ s.op = t.op ∧ s.word = t.word ∧ s.exprs = t.exprs ∧ s.names = t.names := by
 cases s; cases t; simp only [Op4.mk.injEq]
@[simp] theorem Op4_eqs (n : Bool) : eqsV n [0, 2, 0, 0] s.av t.av = .bool (if n then !decide (s = t) else decide (s = t)) := by
 have h : (decide (s.op = t.op) && (decide (s.word = t.word) && (decide (s.exprs = t.exprs) && (decide (s.names = t.names) && true)))) = decide (s = t) := by
  rw [Bool.eq_iff_iff]; simp [Op4_ext]
 simp only [Op4.av, eqsV, eqCells, eqCell, if_true, h]
def Op4.wf (s : Op4) : Prop := (Lit.int .i64 s.op).wf = true ∧ s.word.length ≤ maxLen ∧ (Lit.int .i64 s.exprs).wf = true ∧ (Lit.int .i64 s.names).wf = true ∧ True
end
structure Shp where
 name : Int
 n0 : Int
 n1 : Int
 e0 : Int
 e1 : Int
 body : Bool
 others : Bool
 cases : Bool
 op : Bool
 deriving DecidableEq, Inhabited
def Shp.av (s : Shp) : AV := .agg [I s.name, I s.n0, I s.n1, I s.e0, I s.e1, .bool s.body, .bool s.others, .bool s.cases, .bool s.op]
section
variable {s t : Shp} {H : Heap} {es : List AV} {k : Nat}
@[simp] theorem Shp_okO : okO s.av = some s.av := rfl
@[simp] theorem Shp_ok : s.av.ok = true := rfl
@[simp] theorem Shp_flat : s.av.flat = true := rfl
@[simp] theorem Shp_len : s.av.cells.length = 9 := rfl
@[simp] theorem Shp_cell : s.av.cells.all AV.cell = true := rfl
@[simp] theorem Shp_still : s.av.cells.all AV.still = true := rfl
@[simp] theorem Shp_still2 : (∀ x, x ∈ s.av.cells → AV.still x = true) ↔ True := by simp only [iff_true]; exact List.all_eq_true.1 Shp_still
@[simp] theorem Shp_cell2 : (∀ x, x ∈ s.av.cells → AV.cell x = true) ↔ True := by simp only [iff_true]; exact List.all_eq_true.1 Shp_cell
@[simp] theorem Shp_frz (n : Nat) : frz H (n + 2) s.av = some s.av := rfl
@[simp] theorem Shp_frz0 (n : Nat) : frzs (frz H (n + 1)) s.av.cells = some s.av.cells := rfl
@[simp] theorem Shp_whole : ldCells true 9 s.av.cells = s.av := rfl
@[simp] theorem Shp_fold : AV.agg s.av.cells = s.av := rfl
theorem Shp_mk (name : Int) (n0 : Int) (n1 : Int) (e0 : Int) (e1 : Int) (body : Bool) (others : Bool) (cases : Bool) (op : Bool) : (.agg [I name, I n0, I n1, I e0, I e1, .bool body, .bool others, .bool cases, .bool op] : AV) = (Shp.mk name n0 n1 e0 e1 body others cases op).av := rfl
@[simp] theorem Shp_ld_name : ldCells false 1 s.av.cells = I s.name := rfl
@[simp] theorem Shp_fv_name : fldvV false 1 0 s.av = I s.name := rfl
@[simp] theorem Shp_st_name (x : Int) : setElem [s.av] 0 0 (I x) = some [({ s with name := x } : Shp).av] := rfl
@[simp] theorem Shp_stm_name (l : List Shp) (x : Int) : setElem (l.map Shp.av) k 0 (I x) = l[k]?.map fun s => (l.set k { s with name := x }).map Shp.av := by
 cases h : l[k]? with
 | none => simp [setElem, h]
 | some s => simp only [setElem, List.getElem?_map, h, Option.map_some, List.map_set]; rfl
@[simp] theorem Shp_ld_n0 : ldCells false 1 s.av.cells.tail = I s.n0 := rfl
@[simp] theorem Shp_fv_n0 : fldvV false 1 1 s.av = I s.n0 := rfl
@[simp] theorem Shp_st_n0 (x : Int) : setElem [s.av] 0 1 (I x) = some [({ s with n0 := x } : Shp).av] := rfl
@[simp] theorem Shp_stm_n0 (l : List Shp) (x : Int) : setElem (l.map Shp.av) k 1 (I x) = l[k]?.map fun s => (l.set k { s with n0 := x }).map Shp.av := by
 cases h : l[k]? with
 | none => simp [setElem, h]
 | some s => simp only [setElem, List.getElem?_map, h, Option.map_some, List.map_set]; rfl
@[simp] theorem Shp_ld_n1 : ldCells false 1 (s.av.cells.drop 2) = I s.n1 := rfl
@[simp] theorem Shp_fv_n1 : fldvV false 1 2 s.av = I s.n1 := rfl
@[simp] theorem Shp_st_n1 (x : Int) : setElem [s.av] 0 2 (I x) = some [({ s with n1 := x } : Shp).av] := rfl
@[simp] theorem Shp_stm_n1 (l : List Shp) (x : Int) : setElem (l.map Shp.av) k 2 (I x) = l[k]?.map fun s => (l.set k { s with n1 := x }).map Shp.av := by
 cases h : l[k]? with
 | none => simp [setElem, h]
 | some s => simp only [setElem, List.getElem?_map, h, Option.map_some, List.map_set]; rfl
@[simp] theorem Shp_ld_e0 : ldCells false 1 (s.av.cells.drop 3) = I s.e0 := rfl
@[simp] theorem Shp_fv_e0 : fldvV false 1 3 s.av = I s.e0 := rfl
@[simp] theorem Shp_st_e0 (x : Int) : setElem [s.av] 0 3 (I x) = some [({ s with e0 := x } : Shp).av] := rfl
@[simp] theorem Shp_stm_e0 (l : List Shp) (x : Int) : setElem (l.map Shp.av) k 3 (I x) = l[k]?.map fun s => (l.set k { s with e0 := x }).map Shp.av := by
 cases h : l[k]? with
 | none => simp [setElem, h]
 | some s => simp only [setElem, List.getElem?_map, h, Option.map_some, List.map_set]; rfl
@[simp] theorem Shp_ld_e1 : ldCells false 1 (s.av.cells.drop 4) = I s.e1 := rfl
@[simp] theorem Shp_fv_e1 : fldvV false 1 4 s.av = I s.e1 := rfl
@[simp] theorem Shp_st_e1 (x : Int) : setElem [s.av] 0 4 (I x) = some [({ s with e1 := x } : Shp).av] := rfl
@[simp] theorem Shp_stm_e1 (l : List Shp) (x : Int) : setElem (l.map Shp.av) k 4 (I x) = l[k]?.map fun s => (l.set k { s with e1 := x }).map Shp.av := by
 cases h : l[k]? with
 | none => simp [setElem, h]
 | some s => simp only [setElem, List.getElem?_map, h, Option.map_some, List.map_set]; rfl
@[simp] theorem Shp_ld_body : ldCells false 1 (s.av.cells.drop 5) = .bool s.body := rfl
@[simp] theorem Shp_fv_body : fldvV false 1 5 s.av = .bool s.body := rfl
@[simp] theorem Shp_st_body (x : Bool) : setElem [s.av] 0 5 (.bool x) = some [({ s with body := x } : Shp).av] := rfl
@[simp] theorem Shp_stm_body (l : List Shp) (x : Bool) : setElem (l.map Shp.av) k 5 (.bool x) = l[k]?.map fun s => (l.set k { s with body := x }).map Shp.av := by
 cases h : l[k]? with
 | none => simp [setElem, h]
 | some s => simp only [setElem, List.getElem?_map, h, Option.map_some, List.map_set]; rfl
@[simp] theorem Shp_ld_others : ldCells false 1 (s.av.cells.drop 6) = .bool s.others := rfl
@[simp] theorem Shp_fv_others : fldvV false 1 6 s.av = .bool s.others := rfl
@[simp] theorem Shp_st_others (x : Bool) : setElem [s.av] 0 6 (.bool x) = some [({ s with others := x } : Shp).av] := rfl
@[simp] theorem Shp_stm_others (l : List Shp) (x : Bool) : setElem (l.map Shp.av) k 6 (.bool x) = l[k]?.map fun s => (l.set k { s with others := x }).map Shp.av := by
 cases h : l[k]? with
 | none => simp [setElem, h]
 | some s => simp only [setElem, List.getElem?_map, h, Option.map_some, List.map_set]; rfl
@[simp] theorem Shp_ld_cases : ldCells false 1 (s.av.cells.drop 7) = .bool s.cases := rfl
@[simp] theorem Shp_fv_cases : fldvV false 1 7 s.av = .bool s.cases := rfl
@[simp] theorem Shp_st_cases (x : Bool) : setElem [s.av] 0 7 (.bool x) = some [({ s with cases := x } : Shp).av] := rfl
@[simp] theorem Shp_stm_cases (l : List Shp) (x : Bool) : setElem (l.map Shp.av) k 7 (.bool x) = l[k]?.map fun s => (l.set k { s with cases := x }).map Shp.av := by
 cases h : l[k]? with
 | none => simp [setElem, h]
 | some s => simp only [setElem, List.getElem?_map, h, Option.map_some, List.map_set]; rfl
@[simp] theorem Shp_ld_op : ldCells false 1 (s.av.cells.drop 8) = .bool s.op := rfl
@[simp] theorem Shp_fv_op : fldvV false 1 8 s.av = .bool s.op := rfl
@[simp] theorem Shp_st_op (x : Bool) : setElem [s.av] 0 8 (.bool x) = some [({ s with op := x } : Shp).av] := rfl
@[simp] theorem Shp_stm_op (l : List Shp) (x : Bool) : setElem (l.map Shp.av) k 8 (.bool x) = l[k]?.map fun s => (l.set k { s with op := x }).map Shp.av := by
 cases h : l[k]? with
 | none => simp [setElem, h]
 | some s => simp only [setElem, List.getElem?_map, h, Option.map_some, List.map_set]; rfl
@[simp] theorem Shp_st_all (x : Shp) : setElem [s.av] 0 0 x.av = some [x.av] := rfl
@[simp] theorem Shp_st_new (x : Shp) : setElem [.agg [.int .i64 0, .int .i64 0, .int .i64 0, .int .i64 0, .int .i64 0, .bool false, .bool false, .bool false, .bool false]] 0 0 x.av = some [x.av] := rfl
@[simp] theorem Shp_stm_all (l : List Shp) (x : Shp) : setElem (l.map Shp.av) k 0 x.av = l[k]?.map fun _ => (l.set k x).map Shp.av := by
 cases h : l[k]? with
 | none => simp [setElem, h]
 | some s => simp only [setElem, List.getElem?_map, h, Option.map_some, List.map_set]; rfl
theorem Shp_ext : s = t ↔ s.name = t.name ∧ s.n0 = t.n0 ∧ s.n1 = t.n1 ∧ s.e0 = t.e0 ∧ s.e1 = t.e1 ∧ s.body = t.body ∧ s.others = t.others ∧ s.cases = t.cases ∧ s.op = t.op := by
 cases s; cases t; simp only [Shp.mk.injEq]
@[simp] theorem Shp_eqs (n : Bool) : eqsV n [0, 0, 0, 0, 0, 1, 1, 1, 1] s.av t.av = .bool (if n then !decide (s = t) else decide (s = t)) := by
 have h : (decide (s.name = t.name) && (decide (s.n0 = t.n0) && (decide (s.n1 = t.n1) && (decide (s.e0 = t.e0) && (decide (s.e1 = t.e1) && ((s.body == t.body) && ((s.others == t.others) && ((s.cases == t.cases) && ((s.op == t.op) && true))))))))) = decide (s = t) := by
  rw [Bool.eq_iff_iff]; simp [Shp_ext]
 simp only [Shp.av, eqsV, eqCells, eqCell, if_true, h]
def Shp.wf (s : Shp) : Prop := (Lit.int .i64 s.name).wf = true ∧ (Lit.int .i64 s.n0).wf = true ∧ (Lit.int .i64 s.n1).wf = true ∧ (Lit.int .i64 s.e0).wf = true ∧ (Lit.int .i64 s.e1).wf = true ∧ True
end
end Go.Proofs.YtddpboiceemihaaGreatDoor
end
section
namespace Go.Proofs.YtddpboiceemihaaGreatDoor
open Go Go.RowKit
set_option linter.unusedVariables false
set_option linter.unusedSimpArgs false
set_option maxRecDepth 10000
def opT : List Op4 := [⟨50, [108, 111, 99, 107], 0, 0⟩, ⟨52, [117, 110, 108, 111, 99, 107], 0, 0⟩, ⟨53, [114, 101, 97, 100, 108, 111, 99, 107], 0, 0⟩, ⟨54, [114, 101, 97, 100, 117, 110, 108, 111, 99, 107], 0, 0⟩, ⟨55, [119, 114, 105, 116, 101, 108, 111, 99, 107], 0, 0⟩, ⟨56, [119, 114, 105, 116, 101, 117, 110, 108, 111, 99, 107], 0, 0⟩, ⟨57, [119, 97, 105, 116], 0, 0⟩, ⟨58, [115, 105, 103, 110, 97, 108], 0, 0⟩, ⟨59, [98, 114, 111, 97, 100, 99, 97, 115, 116], 0, 0⟩, ⟨69, [115, 117, 98, 115, 99, 114, 105, 98, 101], 0, 0⟩, ⟨71, [117, 110, 115, 117, 98, 115, 99, 114, 105, 98, 101], 0, 0⟩, ⟨66, [99, 108, 111, 115, 101], 0, 0⟩, ⟨60, [97, 99, 113, 117, 105, 114, 101], 1, 0⟩, ⟨62, [114, 101, 108, 101, 97, 115, 101], 1, 0⟩, ⟨64, [115, 101, 110, 100], 1, 0⟩, ⟨68, [112, 117, 98, 108, 105, 115, 104], 1, 0⟩, ⟨72, [116, 97, 107, 101], 1, 0⟩, ⟨73, [99, 111, 109, 112, 108, 101, 116, 101], 1, 0⟩, ⟨51, [116, 114, 121, 108, 111, 99, 107], 0, 1⟩, ⟨63, [97, 114, 114, 105, 118, 101], 0, 1⟩, ⟨70, [110, 101, 120, 116], 0, 1⟩, ⟨74, [97, 119, 97, 105, 116], 0, 1⟩, ⟨61, [116, 114, 121, 97, 99, 113, 117, 105, 114, 101], 1, 1⟩, ⟨65, [114, 101, 99, 101, 105, 118, 101], 0, 2⟩]
theorem e213 : W.pure 213 [] = some (Sl.av Op4.av 4 (ofL 4 opT)) := (le_om 60).pure _ _ _ (by kernel_rfl)
theorem loop214 (x : Sl Op4) (hl : x.l.length ≤ 9223372036854775807) (y : AV) (hy : okO y = some y) (p : Op4 → Bool) (H0 : Heap) (hp : ∀ a ∈ x.l, ∀ H, Kept none H0 H → okV (W.call y [Op4.av a] H) (fun v H' => v = .bool (p a) ∧ Kept none H H')) :
  ∀ (r : List Op4) (k : Nat) (H : Heap), x.l.drop k = r → k ≤ x.l.length → Kept none H0 H →
  okC (W.loop [0, 1, 7, 8] l214_0 [(0, Sl.av Op4.av 4 x), (1, y), (7, I x.l.length), (8, I k)] H)
   (fun q F' H' => Kept none H0 H' ∧ ((fidx p r = none ∧ q = .exit 0) ∨ ∃ j, fidx p r = some j ∧ q = .ret ∧ F'.get 4 = I (k + j : Nat))) := by
 intro r
 induction r with
 | nil =>
  intro k H h1 h2 hk0
  have hk := drop_nil_len h1 h2
  rw [om_turn]
  simp [evl214_0, b214_0, intBin, hk, hy, hk0, fidx]
 | cons a r ihr =>
  intro k H h1 h2 hk0
  obtain ⟨hlt, ha, hr⟩ := drop_cons h1
  have hlt' : (k : Int) < x.l.length := by omega
  have hak : x.l[k] = a := (gEs.1 ha).2
  obtain ⟨v, H1, c1, rfl, c2⟩ := okV_iff.1 (hp a (mem_of_drop h1) H hk0)
  have hw : IntKind.wrap .i64 ((k : Int) + 1) = (k : Int) + 1 := by rw [wrap64] <;> omega
  rw [om_turn]
  cases hpa : p a with
  | true =>
   rw [hpa] at c1
   have hf : fidx p (a :: r) = some 0 := by simp [fidx, hpa]
   rw [hf]
   simp [evl214_0, b214_0, intBin, hlt, hak, hy, c1]
   exact hk0.trans c2
  | false =>
   rw [hpa] at c1
   have hJ := ihr (k + 1) H1 hr (by omega) (hk0.trans c2)
   simp only [Int.natCast_add, Int.cast_ofNat_Int] at hJ
   obtain ⟨q, F', H', g1, g2, g3⟩ := okC_iff.1 hJ
   rcases g3 with ⟨g3, rfl⟩ | ⟨j, g3, rfl, g4⟩
   ·have hf : fidx p (a :: r) = none := by simp [fidx, hpa, g3]
    rw [hf]
    simp [evl214_0, b214_0, intBin, hlt, hak, hy, c1, hw, g1, g2]
   ·have hf : fidx p (a :: r) = some (j + 1) := by simp [fidx, hpa, g3]
    rw [hf]
    simp [evl214_0, b214_0, intBin, hlt, hak, hy, c1, hw, g1, g2, g4]
    omega
theorem idx214 (x : Sl Op4) (hl : x.l.length ≤ 9223372036854775807) (y : AV) (hy : okO y = some y) (p : Op4 → Bool) (H0 : Heap) (hp : ∀ a ∈ x.l, ∀ H, Kept none H0 H → okV (W.call y [Op4.av a] H) (fun v H' => v = .bool (p a) ∧ Kept none H H')) :
  okV (W.call (.clo 214 [] []) [Sl.av Op4.av 4 x, y] H0) (fun v H' => v = I (match fidx p x.l with | some j => (j : Int) | none => -1) ∧ Kept none H0 H') := by
 rw [W_call Φ214]
 have hL := loop214 x hl y hy p H0 hp x.l 0 H0 rfl (by omega) (Kept.refl _ _)
 simp only [Int.natCast_zero, Nat.zero_add] at hL
 obtain ⟨q, F', H', g1, g2, g3⟩ := okC_iff.1 hL
 rcases g3 with ⟨g3, rfl⟩ | ⟨j, g3, rfl, g4⟩
 ·simp [fi214, c214, evFun, enterFr, intBin, resV, rvVs, rvV, hy, g1, g3, g2]
 ·simp [fi214, c214, evFun, enterFr, intBin, resV, rvVs, rvV, hy, g1, g3, g2, g4]
theorem fidx_find {α : Type} (p : α → Bool) : ∀ l : List α, match fidx p l with | some j => ∃ a, l[j]? = some a ∧ l.find? p = some a | none => l.find? p = none
 | [] => rfl
 | a :: r => by
  have ih := fidx_find p r
  cases h : p a with
  | true => simp [fidx, h]
  | false =>
   cases hf : fidx p r with
   | none => rw [hf] at ih; simp [fidx, h, hf, ih]
   | some j => rw [hf] at ih; obtain ⟨b, h1, h2⟩ := ih; simp [fidx, h, hf, h1, h2]
theorem call215 (o : Op4) (n : Int) (id : Nat) (H : Heap) (h : H[id]? = some (.arr 0 1 false [I n])) : W.call (.clo 215 [] [.optr id 0 0 0]) [o.av] H = some (.bool (decide (o.op = n)), H ++ [.arr 0 4 false [o.av]]) := by
 rw [W_call Φ215]
 have p1 : ∀ B, (H ++ [B])[id]? = some (.arr 0 1 false [I n]) := app_get h
 by_cases hn : o.op = n <;> simp [fi215, c215, evFun, enterFr, intBin, resV, rvVs, rvV, p1, hn, app_last, -getElem?_pos, gEz]
def opOf (n : Int) : Option Op4 := opT.find? fun o => decide (o.op = n)
def opZ : Op4 := ⟨0, [], 0, 0⟩
theorem e185 (n : Int) : W.pure 185 [I n] = some (.tuple [((opOf n).getD opZ).av, .bool (opOf n).isSome]) := by
 rw [W_pure Φ185 rfl]
 have c1 := e213
 obtain ⟨v, H', d1, rfl, d2⟩ := okV_iff.1 (idx214 (ofL 4 opT) (by decide) (.clo 215 [] [.optr 0 0 0 0]) rfl (fun o => decide (o.op = n)) [.arr 0 1 false [I n], .arr 0 4 false [opZ.av]] (fun a _ H hk => by
  have : H[0]? = some (.arr 0 1 false [I n]) := hk.get (by simp) rfl
  rw [call215 a n 0 H this]
  exact ⟨rfl, Kept.append _ _ _⟩))
 have g1 : H'[1]? = some (.arr 0 4 false [opZ.av]) := d2.get (by simp) rfl
 have s1 : ∀ B, (H'.set 1 B)[1]? = some B := fun B => gEt (by have := d2.1; simp at this; omega)
 have z : (.agg [I 0, .str [], I 0, I 0] : AV) = opZ.av := rfl
 have hf := fidx_find (fun o : Op4 => decide (o.op = n)) opT
 unfold opOf
 cases hx : fidx (fun o : Op4 => decide (o.op = n)) opT with
 | none =>
  rw [hx] at hf d1
  simp only at hf d1
  rw [hf]
  simp [fi185, c185, evFun, enterFr, intBin, resV, rvVs, rvV, c1, z, d1, g1, s1, -getElem?_pos, gEz]
 | some j =>
  rw [hx] at hf d1
  obtain ⟨a, h1, h2⟩ := hf
  simp only at d1
  rw [h2]
  have hj : ¬ ((j : Int) < 0) := by omega
  simp [fi185, c185, evFun, enterFr, intBin, resV, rvVs, rvV, c1, z, d1, g1, s1, h1, hj, -getElem?_pos, gEz]
def shpOf (k op : Int) : Shp × Bool :=
 if k = 19 then (⟨1, ((opOf op).getD opZ).names, ((opOf op).getD opZ).names, ((opOf op).getD opZ).exprs, ((opOf op).getD opZ).exprs, false, false, false, true⟩, (opOf op).isSome)
 else if k = 1 ∨ k = 2 then (⟨1, 0, 0, 1, 1, false, false, false, false⟩, true)
 else if k = 3 then (⟨0, 0, 0, 1, 1, true, true, false, false⟩, true)
 else if k = 4 ∨ k = 5 then (⟨0, 0, 0, 1, 1, true, false, false, false⟩, true)
 else if k = 6 ∨ k = 7 ∨ k = 8 ∨ k = 9 ∨ k = 10 ∨ k = 24 then (⟨0, 0, 0, 1, 1, false, false, false, false⟩, true)
 else if k = 11 ∨ k = 12 ∨ k = 13 then (⟨0, 0, 0, 0, 0, false, false, false, false⟩, true)
 else if k = 14 then (⟨2, 0, 0, 2, 2, true, false, false, false⟩, true)
 else if k = 15 then (⟨0, 0, 0, 0, 0, true, false, false, false⟩, true)
 else if k = 16 ∨ k = 18 then (⟨1, 0, 0, 0, 8, false, false, false, false⟩, true)
 else if k = 17 then (⟨1, 0, 1, 0, 8, false, false, false, false⟩, true)
 else if k = 20 then (⟨0, 0, 0, 0, 0, false, false, true, false⟩, true)
 else if k = 21 then (⟨1, 1, 1, 1, 1, false, false, false, false⟩, true)
 else if k = 22 then (⟨1, 1, 1, 2, 2, false, false, false, false⟩, true)
 else if k = 23 then (⟨0, 0, 0, 2, 2, false, false, false, false⟩, true)
 else (⟨0, 0, 0, 0, 0, false, false, false, false⟩, false)
theorem zSh (a b c d e : Int) (f g h i : Bool) : (.agg [I a, I b, I c, I d, I e, .bool f, .bool g, .bool h, .bool i] : AV) = (Shp.mk a b c d e f g h i).av := rfl
theorem zOp : (.agg [I 0, .str [], I 0, I 0] : AV) = opZ.av := rfl
end Go.Proofs.YtddpboiceemihaaGreatDoor
end
section
namespace Go.Proofs.YtddpboiceemihaaGreatDoor
open Go Go.RowKit
set_option linter.unusedVariables false
set_option linter.unusedSimpArgs false
set_option maxRecDepth 10000
theorem orc {f : FuncId} {args : List AV} {r : AV} (A : Rec) (hA : A.le W) (h : pureV A Φ f args = some r) : W.pure f args = some r := by
 rw [om_pure]; exact (good_pureV Φ f args).mono A _ hA r h
def oneR (g : FuncId) (k : List AV → Option AV) : Rec := ⟨fun _ _ _ => none, fun f a => if f = g then k a else none, fun _ _ _ _ => none⟩
theorem one_le {g : FuncId} {k : List AV → Option AV} (h : ∀ a r, k a = some r → W.pure g a = some r) : (oneR g k).le W := by
 refine ⟨fun _ _ _ _ h => (by cases h), fun f a r h1 => ?_, fun _ _ _ _ _ h => (by cases h)⟩
 simp only [oneR] at h1
 split at h1
 ·rename_i e; subst e; exact h _ _ h1
 ·cases h1
def ans185 : List AV → Option AV
 | [.int .i64 n] => some (.tuple [((opOf n).getD opZ).av, .bool (opOf n).isSome])
 | _ => none
theorem ans185_ok : ∀ a r, ans185 a = some r → W.pure 185 a = some r := by
 intro a r h
 unfold ans185 at h
 split at h
 ·cases h; exact e185 _
 ·cases h
def shZ : Shp := ⟨0, 0, 0, 0, 0, false, false, false, false⟩
theorem k155_1 (o : Int) (n : List UInt8) (ns : Sl (List UInt8)) (es : Sl Ex) (b e : Sl St) (c : Sl Cs) : W.pure 155 [(St.of 1 o n ns es b e c).av] = some (.tuple [(shpOf 1 o).1.av, .bool (shpOf 1 o).2]) := (le_om 60).pure _ _ _ (by kernel_rfl)
theorem k155_2 (o : Int) (n : List UInt8) (ns : Sl (List UInt8)) (es : Sl Ex) (b e : Sl St) (c : Sl Cs) : W.pure 155 [(St.of 2 o n ns es b e c).av] = some (.tuple [(shpOf 2 o).1.av, .bool (shpOf 2 o).2]) := (le_om 60).pure _ _ _ (by kernel_rfl)
theorem k155_3 (o : Int) (n : List UInt8) (ns : Sl (List UInt8)) (es : Sl Ex) (b e : Sl St) (c : Sl Cs) : W.pure 155 [(St.of 3 o n ns es b e c).av] = some (.tuple [(shpOf 3 o).1.av, .bool (shpOf 3 o).2]) := (le_om 60).pure _ _ _ (by kernel_rfl)
theorem k155_4 (o : Int) (n : List UInt8) (ns : Sl (List UInt8)) (es : Sl Ex) (b e : Sl St) (c : Sl Cs) : W.pure 155 [(St.of 4 o n ns es b e c).av] = some (.tuple [(shpOf 4 o).1.av, .bool (shpOf 4 o).2]) := (le_om 60).pure _ _ _ (by kernel_rfl)
theorem k155_5 (o : Int) (n : List UInt8) (ns : Sl (List UInt8)) (es : Sl Ex) (b e : Sl St) (c : Sl Cs) : W.pure 155 [(St.of 5 o n ns es b e c).av] = some (.tuple [(shpOf 5 o).1.av, .bool (shpOf 5 o).2]) := (le_om 60).pure _ _ _ (by kernel_rfl)
theorem k155_6 (o : Int) (n : List UInt8) (ns : Sl (List UInt8)) (es : Sl Ex) (b e : Sl St) (c : Sl Cs) : W.pure 155 [(St.of 6 o n ns es b e c).av] = some (.tuple [(shpOf 6 o).1.av, .bool (shpOf 6 o).2]) := (le_om 60).pure _ _ _ (by kernel_rfl)
theorem k155_7 (o : Int) (n : List UInt8) (ns : Sl (List UInt8)) (es : Sl Ex) (b e : Sl St) (c : Sl Cs) : W.pure 155 [(St.of 7 o n ns es b e c).av] = some (.tuple [(shpOf 7 o).1.av, .bool (shpOf 7 o).2]) := (le_om 60).pure _ _ _ (by kernel_rfl)
theorem k155_8 (o : Int) (n : List UInt8) (ns : Sl (List UInt8)) (es : Sl Ex) (b e : Sl St) (c : Sl Cs) : W.pure 155 [(St.of 8 o n ns es b e c).av] = some (.tuple [(shpOf 8 o).1.av, .bool (shpOf 8 o).2]) := (le_om 60).pure _ _ _ (by kernel_rfl)
theorem k155_9 (o : Int) (n : List UInt8) (ns : Sl (List UInt8)) (es : Sl Ex) (b e : Sl St) (c : Sl Cs) : W.pure 155 [(St.of 9 o n ns es b e c).av] = some (.tuple [(shpOf 9 o).1.av, .bool (shpOf 9 o).2]) := (le_om 60).pure _ _ _ (by kernel_rfl)
theorem k155_10 (o : Int) (n : List UInt8) (ns : Sl (List UInt8)) (es : Sl Ex) (b e : Sl St) (c : Sl Cs) : W.pure 155 [(St.of 10 o n ns es b e c).av] = some (.tuple [(shpOf 10 o).1.av, .bool (shpOf 10 o).2]) := (le_om 60).pure _ _ _ (by kernel_rfl)
theorem k155_11 (o : Int) (n : List UInt8) (ns : Sl (List UInt8)) (es : Sl Ex) (b e : Sl St) (c : Sl Cs) : W.pure 155 [(St.of 11 o n ns es b e c).av] = some (.tuple [(shpOf 11 o).1.av, .bool (shpOf 11 o).2]) := (le_om 60).pure _ _ _ (by kernel_rfl)
theorem k155_12 (o : Int) (n : List UInt8) (ns : Sl (List UInt8)) (es : Sl Ex) (b e : Sl St) (c : Sl Cs) : W.pure 155 [(St.of 12 o n ns es b e c).av] = some (.tuple [(shpOf 12 o).1.av, .bool (shpOf 12 o).2]) := (le_om 60).pure _ _ _ (by kernel_rfl)
theorem k155_13 (o : Int) (n : List UInt8) (ns : Sl (List UInt8)) (es : Sl Ex) (b e : Sl St) (c : Sl Cs) : W.pure 155 [(St.of 13 o n ns es b e c).av] = some (.tuple [(shpOf 13 o).1.av, .bool (shpOf 13 o).2]) := (le_om 60).pure _ _ _ (by kernel_rfl)
theorem k155_14 (o : Int) (n : List UInt8) (ns : Sl (List UInt8)) (es : Sl Ex) (b e : Sl St) (c : Sl Cs) : W.pure 155 [(St.of 14 o n ns es b e c).av] = some (.tuple [(shpOf 14 o).1.av, .bool (shpOf 14 o).2]) := (le_om 60).pure _ _ _ (by kernel_rfl)
theorem k155_15 (o : Int) (n : List UInt8) (ns : Sl (List UInt8)) (es : Sl Ex) (b e : Sl St) (c : Sl Cs) : W.pure 155 [(St.of 15 o n ns es b e c).av] = some (.tuple [(shpOf 15 o).1.av, .bool (shpOf 15 o).2]) := (le_om 60).pure _ _ _ (by kernel_rfl)
theorem k155_16 (o : Int) (n : List UInt8) (ns : Sl (List UInt8)) (es : Sl Ex) (b e : Sl St) (c : Sl Cs) : W.pure 155 [(St.of 16 o n ns es b e c).av] = some (.tuple [(shpOf 16 o).1.av, .bool (shpOf 16 o).2]) := (le_om 60).pure _ _ _ (by kernel_rfl)
theorem k155_17 (o : Int) (n : List UInt8) (ns : Sl (List UInt8)) (es : Sl Ex) (b e : Sl St) (c : Sl Cs) : W.pure 155 [(St.of 17 o n ns es b e c).av] = some (.tuple [(shpOf 17 o).1.av, .bool (shpOf 17 o).2]) := (le_om 60).pure _ _ _ (by kernel_rfl)
theorem k155_18 (o : Int) (n : List UInt8) (ns : Sl (List UInt8)) (es : Sl Ex) (b e : Sl St) (c : Sl Cs) : W.pure 155 [(St.of 18 o n ns es b e c).av] = some (.tuple [(shpOf 18 o).1.av, .bool (shpOf 18 o).2]) := (le_om 60).pure _ _ _ (by kernel_rfl)
theorem k155_20 (o : Int) (n : List UInt8) (ns : Sl (List UInt8)) (es : Sl Ex) (b e : Sl St) (c : Sl Cs) : W.pure 155 [(St.of 20 o n ns es b e c).av] = some (.tuple [(shpOf 20 o).1.av, .bool (shpOf 20 o).2]) := (le_om 60).pure _ _ _ (by kernel_rfl)
theorem k155_21 (o : Int) (n : List UInt8) (ns : Sl (List UInt8)) (es : Sl Ex) (b e : Sl St) (c : Sl Cs) : W.pure 155 [(St.of 21 o n ns es b e c).av] = some (.tuple [(shpOf 21 o).1.av, .bool (shpOf 21 o).2]) := (le_om 60).pure _ _ _ (by kernel_rfl)
theorem k155_22 (o : Int) (n : List UInt8) (ns : Sl (List UInt8)) (es : Sl Ex) (b e : Sl St) (c : Sl Cs) : W.pure 155 [(St.of 22 o n ns es b e c).av] = some (.tuple [(shpOf 22 o).1.av, .bool (shpOf 22 o).2]) := (le_om 60).pure _ _ _ (by kernel_rfl)
theorem k155_23 (o : Int) (n : List UInt8) (ns : Sl (List UInt8)) (es : Sl Ex) (b e : Sl St) (c : Sl Cs) : W.pure 155 [(St.of 23 o n ns es b e c).av] = some (.tuple [(shpOf 23 o).1.av, .bool (shpOf 23 o).2]) := (le_om 60).pure _ _ _ (by kernel_rfl)
theorem k155_24 (o : Int) (n : List UInt8) (ns : Sl (List UInt8)) (es : Sl Ex) (b e : Sl St) (c : Sl Cs) : W.pure 155 [(St.of 24 o n ns es b e c).av] = some (.tuple [(shpOf 24 o).1.av, .bool (shpOf 24 o).2]) := (le_om 60).pure _ _ _ (by kernel_rfl)
theorem k155_19 (o : Int) (n : List UInt8) (ns : Sl (List UInt8)) (es : Sl Ex) (b e : Sl St) (c : Sl Cs) : W.pure 155 [(St.of 19 o n ns es b e c).av] = some (.tuple [(shpOf 19 o).1.av, .bool (shpOf 19 o).2]) :=
 orc (oneR 185 ans185) (one_le ans185_ok) (by kernel_rfl)
theorem k155_p (k : Nat) (o : Int) (n : List UInt8) (ns : Sl (List UInt8)) (es : Sl Ex) (b e : Sl St) (c : Sl Cs) : W.pure 155 [(St.of (Int.ofNat (k + 25)) o n ns es b e c).av] = some (.tuple [shZ.av, .bool false]) := (le_om 60).pure _ _ _ (by kernel_rfl)
theorem k155_n (k : Nat) (o : Int) (n : List UInt8) (ns : Sl (List UInt8)) (es : Sl Ex) (b e : Sl St) (c : Sl Cs) : W.pure 155 [(St.of (Int.negSucc k) o n ns es b e c).av] = some (.tuple [shZ.av, .bool false]) := (le_om 60).pure _ _ _ (by kernel_rfl)
theorem k155_z (o : Int) (n : List UInt8) (ns : Sl (List UInt8)) (es : Sl Ex) (b e : Sl St) (c : Sl Cs) : W.pure 155 [(St.of 0 o n ns es b e c).av] = some (.tuple [shZ.av, .bool false]) := (le_om 60).pure _ _ _ (by kernel_rfl)
theorem shp_out (k o : Int) (h : k < 1 ∨ 24 < k) : shpOf k o = (shZ, false) := by
 unfold shpOf
 rw [if_neg (by omega), if_neg (by omega), if_neg (by omega), if_neg (by omega), if_neg (by omega), if_neg (by omega), if_neg (by omega), if_neg (by omega), if_neg (by omega), if_neg (by omega), if_neg (by omega), if_neg (by omega), if_neg (by omega), if_neg (by omega)]
 rfl
theorem k155 (k : Int) (o : Int) (n : List UInt8) (ns : Sl (List UInt8)) (es : Sl Ex) (b e : Sl St) (c : Sl Cs) : W.pure 155 [(St.of k o n ns es b e c).av] = some (.tuple [(shpOf k o).1.av, .bool (shpOf k o).2]) := by
 by_cases h1 : k = 1
 ·subst h1; exact k155_1 _ _ _ _ _ _ _
 by_cases h2 : k = 2
 ·subst h2; exact k155_2 _ _ _ _ _ _ _
 by_cases h3 : k = 3
 ·subst h3; exact k155_3 _ _ _ _ _ _ _
 by_cases h4 : k = 4
 ·subst h4; exact k155_4 _ _ _ _ _ _ _
 by_cases h5 : k = 5
 ·subst h5; exact k155_5 _ _ _ _ _ _ _
 by_cases h6 : k = 6
 ·subst h6; exact k155_6 _ _ _ _ _ _ _
 by_cases h7 : k = 7
 ·subst h7; exact k155_7 _ _ _ _ _ _ _
 by_cases h8 : k = 8
 ·subst h8; exact k155_8 _ _ _ _ _ _ _
 by_cases h9 : k = 9
 ·subst h9; exact k155_9 _ _ _ _ _ _ _
 by_cases h10 : k = 10
 ·subst h10; exact k155_10 _ _ _ _ _ _ _
 by_cases h11 : k = 11
 ·subst h11; exact k155_11 _ _ _ _ _ _ _
 by_cases h12 : k = 12
 ·subst h12; exact k155_12 _ _ _ _ _ _ _
 by_cases h13 : k = 13
 ·subst h13; exact k155_13 _ _ _ _ _ _ _
 by_cases h14 : k = 14
 ·subst h14; exact k155_14 _ _ _ _ _ _ _
 by_cases h15 : k = 15
 ·subst h15; exact k155_15 _ _ _ _ _ _ _
 by_cases h16 : k = 16
 ·subst h16; exact k155_16 _ _ _ _ _ _ _
 by_cases h17 : k = 17
 ·subst h17; exact k155_17 _ _ _ _ _ _ _
 by_cases h18 : k = 18
 ·subst h18; exact k155_18 _ _ _ _ _ _ _
 by_cases h19 : k = 19
 ·subst h19; exact k155_19 _ _ _ _ _ _ _
 by_cases h20 : k = 20
 ·subst h20; exact k155_20 _ _ _ _ _ _ _
 by_cases h21 : k = 21
 ·subst h21; exact k155_21 _ _ _ _ _ _ _
 by_cases h22 : k = 22
 ·subst h22; exact k155_22 _ _ _ _ _ _ _
 by_cases h23 : k = 23
 ·subst h23; exact k155_23 _ _ _ _ _ _ _
 by_cases h24 : k = 24
 ·subst h24; exact k155_24 _ _ _ _ _ _ _
 rw [shp_out k o (by omega)]
 rcases k with k | k
 ·rcases k with _ | k
  ·exact k155_z _ _ _ _ _ _ _
  ·obtain ⟨m, rfl⟩ : ∃ m, k = m + 24 := ⟨k - 24, by simp at *; omega⟩
   exact k155_p m _ _ _ _ _ _ _
 ·exact k155_n k _ _ _ _ _ _ _
theorem e155 (x : St) : W.pure 155 [x.av] = some (.tuple [(shpOf x.kind x.op).1.av, .bool (shpOf x.kind x.op).2]) := by
 have h := k155 x.kind x.op x.name x.names x.exprs x.body x.els x.cs
 rwa [← St.eta x] at h
end Go.Proofs.YtddpboiceemihaaGreatDoor
end
section
namespace Go.Proofs.YtddpboiceemihaaGreatDoor
open Go Go.RowKit
set_option linter.unusedVariables false
set_option linter.unusedSimpArgs false
set_option maxRecDepth 10000
theorem e111 (a b c : Int) : W.pure 111 [I a, I b, I c] = some (.bool (decide (b ≤ a ∧ a ≤ c))) := by
 rw [W_pure Φ111 rfl]
 by_cases h1 : b ≤ a <;> by_cases h2 : a ≤ c <;> simp [fi111, c111, evFun, enterFr, intBin, resV, rvVs, rvV, h1, h2]
def casB (c : Cs) : Bool := if c.kind = 1 then decide (c.names.l = []) else if c.kind = 2 then exZero c.expr && decide (c.names.l.length = 2) else decide (c.name = []) && exZero c.expr && decide (c.names.l = [])
theorem e187 (c : Cs) : W.pure 187 [c.av] = some (.bool (casB c)) := by
 rw [W_pure Φ187 (by simp)]
 have c1 := e121 c.expr
 unfold casB
 by_cases h1 : c.kind = 1
 ·by_cases h2 : c.names.l = [] <;> simp [fi187, c187, evFun, enterFr, intBin, resV, rvVs, rvV, h1, h2]
 by_cases h2 : c.kind = 2
 ·by_cases h4 : c.names.l.length = 2
  ·have h5 : (c.names.l.length : Int) = 2 := by omega
   cases h3 : exZero c.expr <;> rw [h3] at c1 <;> simp [fi187, c187, evFun, enterFr, intBin, resV, rvVs, rvV, h1, h2, c1, h3, h4, h5]
  ·have h5 : ¬ (c.names.l.length : Int) = 2 := by omega
   cases h3 : exZero c.expr <;> rw [h3] at c1 <;> simp [fi187, c187, evFun, enterFr, intBin, resV, rvVs, rvV, h1, h2, c1, h3, h4, h5]
 ·by_cases h3 : c.name = [] <;> cases h4 : exZero c.expr <;> rw [h4] at c1 <;> by_cases h5 : c.names.l = [] <;> simp [fi187, c187, evFun, enterFr, intBin, resV, rvVs, rvV, strBin, h1, h2, h3, h4, h5, c1]
theorem call186 (c : Cs) (H : Heap) : W.call (.clo 186 [] []) [c.av] H = some (.bool (!casB c), H ++ [.arr 0 9 false [c.av]]) := by
 rw [W_call Φ186]
 have c1 := e187 c
 cases h : casB c <;> rw [h] at c1 <;> simp [fi186, c186, evFun, enterFr, intBin, resV, rvVs, rvV, c1, app_last, -getElem?_pos, gEz]
def fldB (x : St) (s : Shp) : Bool :=
 if ((s.name = 0 ∧ ¬ x.name = [] ∨ s.op = false ∧ ¬ x.op = 0) ∨ s.body = false ∧ 0 < x.body.l.length) ∨ s.others = false ∧ 0 < x.els.l.length then false
 else if ((x.names.l.length : Int) < s.n0 ∨ s.n1 < x.names.l.length) ∨ (x.exprs.l.length : Int) < s.e0 ∨ s.e1 < x.exprs.l.length then false
 else if s.cases = false then decide (x.cs.l = [])
 else if 1 ≤ (x.cs.l.length : Int) ∧ (x.cs.l.length : Int) ≤ 6 then x.cs.l.all casB else false
theorem any_not {α : Type} (p : α → Bool) (l : List α) : l.any (fun a => !p a) = !l.all p := by rw [List.any_eq_not_all_not]; simp
theorem e157 (x : St) (s : Shp) (hl : x.cs.l.length ≤ 9223372036854775807) : W.pure 157 [x.av, s.av] = some (.bool (fldB x s)) := by
 rw [W_pure Φ157 (by simp)]
 have n1 := e111 x.names.l.length s.n0 s.n1
 have n2 := e111 x.exprs.l.length s.e0 s.e1
 have n3 := e111 x.cs.l.length 1 6
 obtain ⟨v, H', d1, rfl, d2⟩ := okV_iff.1 (any109 x.cs (by omega) (.clo 186 [] []) rfl (fun c => !casB c) [.arr 0 8 false [x.av], .arr 0 9 false [s.av]] (fun a _ H _ => by rw [call186]; exact ⟨rfl, Kept.append _ _ _⟩))
 rw [any_not] at d1
 simp [fi157, c157, evFun, enterFr, intBin, resV, rvVs, rvV, strBin, n1, n2, n3, d1]
 unfold fldB
 repeat' split
 all_goals rfl
def namB (x : St) (s : Shp) : Bool :=
 if ((s.name = 1 ∨ s.name = 2 ∧ ¬ x.name = []) ∧ nameB x.name = false) then false
 else x.names.l.all nameB && x.cs.l.all fun c => (decide (c.kind = 3) || nameB c.name) && c.names.l.all nameB
theorem call188 (s : List UInt8) (H : Heap) : W.call (.clo 188 [] []) [.str s] H = some (.bool (!nameB s), H) := by
 rw [W_call Φ188]
 have e1 := e110 s
 cases h : nameB s <;> rw [h] at e1 <;> simp [fi188, c188, evFun, enterFr, intBin, resV, rvVs, rvV, e1]
theorem call189 (c : Cs) (hl : c.names.l.length ≤ 9223372036854775807) (id : Nat) (H : Heap) (h : H[id]? = some (.arr 0 1 false [.clo 188 [] []])) :
  okV (W.call (.clo 189 [] [.optr id 0 0 0]) [c.av] H) (fun v H' => v = .bool (!((decide (c.kind = 3) || nameB c.name) && c.names.l.all nameB)) ∧ Kept none H H') := by
 rw [W_call Φ189]
 have e1 := e110 c.name
 have p1 : ∀ B, (H ++ [B])[id]? = some (.arr 0 1 false [.clo 188 [] []]) := app_get h
 obtain ⟨v, H', d1, rfl, d2⟩ := okV_iff.1 (any37 c.names hl (.clo 188 [] []) rfl (fun s => !nameB s) (H ++ [.arr 0 9 false [c.av]]) (fun a _ H _ => by rw [call188]; exact ⟨rfl, Kept.refl _ _⟩))
 rw [any_not] at d1
 have k1 : Kept none H (H ++ [.arr 0 9 false [c.av]]) := Kept.append _ _ _
 have k2 := k1.trans d2
 by_cases h1 : c.kind = 3 <;> cases h2 : nameB c.name <;> rw [h2] at e1 <;> cases h3 : c.names.l.all nameB <;> rw [h3] at d1 <;> simp only [Bool.not_true, Bool.not_false] at d1 <;>
  simp [fi189, c189, evFun, enterFr, intBin, resV, rvVs, rvV, h1, e1, d1, p1, app_last, -getElem?_pos, gEz, -List.append_assoc, k1, k2]
theorem e158 (x : St) (s : Shp) (h1 : x.names.l.length ≤ 9223372036854775807) (h2 : x.cs.l.length ≤ 9223372036854775807) (h3 : ∀ c ∈ x.cs.l, c.names.l.length ≤ 9223372036854775807) :
  W.pure 158 [x.av, s.av] = some (.bool (namB x s)) := by
 rw [W_pure Φ158 (by simp)]
 have e1 := e110 x.name
 obtain ⟨v, H', d1, rfl, d2⟩ := okV_iff.1 (any37 x.names h1 (.clo 188 [] []) rfl (fun s => !nameB s) [.arr 0 8 false [x.av], .arr 0 9 false [s.av], .arr 0 1 false [.clo 188 [] []]] (fun a _ H _ => by rw [call188]; exact ⟨rfl, Kept.refl _ _⟩))
 have g0 : H'[0]? = some (.arr 0 8 false [x.av]) := d2.get (by simp) rfl
 have g2 : H'[2]? = some (.arr 0 1 false [.clo 188 [] []]) := d2.get (by simp) rfl
 obtain ⟨v2, H2, f1, rfl, f2⟩ := okV_iff.1 (any109 x.cs h2 (.clo 189 [] [.optr 2 0 0 0]) rfl (fun c => !((decide (c.kind = 3) || nameB c.name) && c.names.l.all nameB)) H' (fun c hc G hk => call189 c (h3 c hc) 2 G (hk.get (by simp) g2)))
 rw [any_not] at d1 f1
 have n1 : AV.nilf.cells = [AV.nilf] := rfl
 have n2 : AV.nilf.cell = true := rfl
 have n3 : setElem [AV.nilf] 0 0 (.clo 188 [] []) = some [.clo 188 [] []] := by simp [setElem]
 unfold namB
 generalize x.names.l.all nameB = m at *
 generalize (x.cs.l.all fun c => (decide (c.kind = 3) || nameB c.name) && c.names.l.all nameB) = q at *
 cases e2 : nameB x.name <;> rw [e2] at e1 <;> cases m <;> simp only [Bool.not_true, Bool.not_false] at d1
 all_goals simp [fi158, c158, evFun, enterFr, intBin, resV, rvVs, rvV, strBin, e1, n1, n2, n3, d1, g0, g2, f1, -getElem?_pos, gEz]
 by_cases a1 : s.name = 1 <;> by_cases a2 : s.name = 2 <;> by_cases a3 : x.name = [] <;> simp [a1, a2, a3]
end Go.Proofs.YtddpboiceemihaaGreatDoor
end
section
namespace Go.Proofs.YtddpboiceemihaaGreatDoor
open Go Go.RowKit
set_option linter.unusedVariables false
set_option linter.unusedSimpArgs false
set_option maxRecDepth 10000
def exCost (e : Ex) : Nat := if exZero e = true then 0 else min e.size 101
mutual
def St.cost : St → Nat | .mk _ _ _ _ es _ _ bl _ _ el _ _ cl => 1 + (es.l.map exCost).sum + Cs.costs cl + St.costs bl + St.costs el
def St.costs : List St → Nat | [] => 0 | x :: r => x.cost + St.costs r
def Cs.cost : Cs → Nat | .mk _ _ e _ _ _ bl => 1 + exCost e + St.costs bl
def Cs.costs : List Cs → Nat | [] => 0 | x :: r => x.cost + Cs.costs r
end
theorem St.cost_eq (x : St) : x.cost = 1 + (x.exprs.l.map exCost).sum + Cs.costs x.cs.l + St.costs x.body.l + St.costs x.els.l := by cases x; simp only [St.cost]; rfl
theorem Cs.cost_eq (x : Cs) : x.cost = 1 + exCost x.expr + St.costs x.body.l := by cases x; simp only [Cs.cost]; rfl
def Rb (B L n T : Nat) : Prop := (T ≤ L ∧ n = T) ∨ (L < T ∧ L < n ∧ n ≤ B)
def exStep (L n : Nat) (e : Ex) : Nat := if exZero e = false ∧ n ≤ L then n + min e.size 101 else n
theorem exStep_rb {B L n T : Nat} {e : Ex} (h : Rb B L n T) (hB : L + 101 ≤ B) : Rb B L (exStep L n e) (T + exCost e) := by
 unfold Rb exStep exCost at *
 cases hz : exZero e
 ·by_cases hn : n ≤ L
  ·simp only [hn, and_self, if_true, Bool.false_eq_true, if_false]; omega
  ·simp only [hn, and_false, if_false, Bool.false_eq_true]; omega
 ·simp only [Bool.true_eq_false, false_and, if_false, if_true]; omega
theorem exFold_rb {B L : Nat} (hB : L + 101 ≤ B) : ∀ (l : List Ex) (n T : Nat), Rb B L n T → Rb B L (l.foldl (exStep L) n) (T + (l.map exCost).sum)
 | [], n, T, h => by simpa using h
 | e :: r, n, T, h => by
  have := exFold_rb hB r _ _ (exStep_rb (e := e) h hB)
  simp only [List.foldl_cons, List.map_cons, List.sum_cons]
  rw [show T + (exCost e + (r.map exCost).sum) = T + exCost e + (r.map exCost).sum by omega]
  exact this
theorem call149 (e : Ex) (L n a b : Nat) (hab : a ≠ b) (hn : n ≤ 1000000) (H : Heap) (ha : H[a]? = some (.arr 0 1 false [I n])) (hb : H[b]? = some (.arr 0 1 false [I L])) :
  okV (W.call (.clo 149 [] [.optr a 0 0 0, .optr b 0 0 0]) [e.av] H) (fun v H' => v = .tuple [] ∧ H'[a]? = some (.arr 0 1 false [I (exStep L n e : Nat)]) ∧ Kept (some a) H H') := by
 rw [W_call Φ149]
 have c1 := e121 e
 have c2 := e150 e
 have hal := (gEs.1 ha).1
 have p1 : ∀ B, (H ++ [B])[a]? = some (.arr 0 1 false [I n]) := app_get ha
 have p2 : ∀ B, (H ++ [B])[b]? = some (.arr 0 1 false [I L]) := app_get hb
 have k1 : Kept (some a) H (H ++ [.arr 0 5 false [e.av]]) := Kept.append _ _ _
 have s1 : ∀ B C, ((H ++ [B]).set a C)[a]? = some C := fun B C => gEt (by simp; omega)
 have k2 : ∀ C, Kept (some a) H ((H ++ [Blk.arr 0 5 false [e.av]]).set a C) := fun C => k1.trans (Kept.set _ _ _)
 unfold exStep
 cases hz : exZero e with
 | true =>
  rw [hz] at c1
  simp [fi149, c149, evFun, enterFr, intBin, resV, rvVs, rvV, c1, p1, p2, k1, app_last, -getElem?_pos, gEz]
 | false =>
  rw [hz] at c1
  by_cases hn2 : n ≤ L
  ·have hn3 : (n : Int) ≤ L := by omega
   have hw : IntKind.wrap .i64 ((n : Int) + ((min e.size 101 : Nat) : Int)) = ((n + min e.size 101 : Nat) : Int) := by rw [wrap64] <;> omega
   generalize min e.size 101 = m at *
   simp [fi149, c149, evFun, enterFr, intBin, resV, rvVs, rvV, c1, c2, p1, p2, hn2, hn3, hw, s1, k2, app_last, -getElem?_pos, gEz]
  ·have hn3 : ¬ (n : Int) ≤ L := by omega
   simp [fi149, c149, evFun, enterFr, intBin, resV, rvVs, rvV, c1, p1, p2, hn2, hn3, k1, app_last, -getElem?_pos, gEz]
theorem loop105_1 (l : Sl St) (i : Nat) (x : St) (hx : x.exprs.l.length ≤ 9223372036854775807) (L a b q : Nat) (hL : L ≤ 1000) (hab : a ≠ b) (haq : a ≠ q) (H0 : Heap) (n0 : Nat) (hn : n0 ≤ L) (ha : H0[a]? = some (.arr 0 1 false [I n0])) (hb : H0[b]? = some (.arr 0 1 false [I L])) :
  okC (W.loop [3, 5, 6, 8, 14, 15, 16, 27, 28, 29] l105_1 [(3, .optr b 0 0 0), (5, .optr a 0 0 0), (6, .clo 149 [] [.optr a 0 0 0, .optr b 0 0 0]), (8, .optr q 0 0 0), (14, Sl.av St.av 8 l), (15, I l.l.length), (16, I i), (27, Sl.av Ex.av 5 x.exprs), (28, I x.exprs.l.length), (29, I 0)] H0)
   (fun y F H => y = .exit 2 ∧ F.keep [3, 5, 6, 8, 14, 15, 16] = [(3, .optr b 0 0 0), (5, .optr a 0 0 0), (6, .clo 149 [] [.optr a 0 0 0, .optr b 0 0 0]), (8, .optr q 0 0 0), (14, Sl.av St.av 8 l), (15, I l.l.length), (16, I i)] ∧ H[a]? = some (.arr 0 1 false [I (x.exprs.l.foldl (exStep L) n0 : Nat)]) ∧ Kept (some a) H0 H) := by
 have hL := loop_fold (Φ := Φ) (live := [3, 5, 6, 8, 14, 15, 16, 27, 28, 29]) (L := l105_1) x.exprs.l (σ := Nat) (fun _ e n => exStep L n e)
  (fun j n F H => F = [(3, .optr b 0 0 0), (5, .optr a 0 0 0), (6, .clo 149 [] [.optr a 0 0 0, .optr b 0 0 0]), (8, .optr q 0 0 0), (14, Sl.av St.av 8 l), (15, I l.l.length), (16, I i), (27, Sl.av Ex.av 5 x.exprs), (28, I x.exprs.l.length), (29, I j)] ∧ H[a]? = some (.arr 0 1 false [I (n : Nat)]) ∧ Kept (some a) H0 H ∧ n ≤ L + 101)
  (fun n y F H => y = .exit 2 ∧ F.keep [3, 5, 6, 8, 14, 15, 16] = [(3, .optr b 0 0 0), (5, .optr a 0 0 0), (6, .clo 149 [] [.optr a 0 0 0, .optr b 0 0 0]), (8, .optr q 0 0 0), (14, Sl.av St.av 8 l), (15, I l.l.length), (16, I i)] ∧ H[a]? = some (.arr 0 1 false [I (n : Nat)]) ∧ Kept (some a) H0 H)
  (s := n0) (H := H0) ⟨rfl, ha, Kept.refl _ _, by omega⟩ ?_ ?_
 ·have hz : ∀ (r : List Ex) (k n : Nat), (r.zipIdx k).foldl (fun s p => exStep L s p.1) n = r.foldl (exStep L) n := by
   intro r
   induction r with
   | nil => intro k n; rfl
   | cons e r ih => intro k n; simp only [List.zipIdx_cons, List.foldl_cons]; exact ih _ _
  rw [hz] at hL
  exact hL
 ·rintro j e n F H hj he ⟨rfl, g1, g2, g3⟩
  have hej : x.exprs.l[j] = e := (gEs.1 he).2
  have hw : IntKind.wrap .i64 ((j : Int) + 1) = (j : Int) + 1 := by rw [wrap64] <;> omega
  have hbH : H[b]? = some (.arr 0 1 false [I L]) := g2.get (fun h => hab (by cases h; rfl)) hb
  have p1 : ∀ B, (H ++ [B])[a]? = some (.arr 0 1 false [I n]) := app_get g1
  have p2 : ∀ B, (H ++ [B])[b]? = some (.arr 0 1 false [I L]) := app_get hbH
  obtain ⟨v, H', c1, rfl, c2, c3⟩ := okV_iff.1 (call149 e L n a b hab (by omega) (H ++ [.arr 0 5 false [e.av]]) (p1 _) (p2 _))
  have k1 : Kept (some a) H0 H' := (g2.trans (Kept.append _ _ _)).trans c3
  have hst : exStep L n e ≤ L + 101 := by unfold exStep; split <;> omega
  simp [evl105_1, b105_1, intBin, hj, hej, hw, c1, c2, k1, hst, app_last, -getElem?_pos, gEz, he]
 ·rintro n F H ⟨rfl, g1, g2, g3⟩
  simp [evl105_1, b105_1, intBin, g1, g2]
end Go.Proofs.YtddpboiceemihaaGreatDoor
end
section
namespace Go.Proofs.YtddpboiceemihaaGreatDoor
open Go Go.RowKit
set_option linter.unusedVariables false
set_option linter.unusedSimpArgs false
set_option maxRecDepth 10000
mutual
def St.fine : St → Prop | .mk _ _ _ ns es _ _ bl _ _ el _ _ cl => es.l.length ≤ 9223372036854775807 ∧ ns.l.length ≤ 9223372036854775807 ∧ bl.length ≤ 9223372036854775807 ∧ el.length ≤ 9223372036854775807 ∧ cl.length ≤ 9223372036854775807 ∧ St.fines bl ∧ St.fines el ∧ Cs.fines cl
def St.fines : List St → Prop | [] => True | x :: r => x.fine ∧ St.fines r
def Cs.fine : Cs → Prop | .mk _ _ _ ns _ _ bl => ns.l.length ≤ 9223372036854775807 ∧ bl.length ≤ 9223372036854775807 ∧ St.fines bl
def Cs.fines : List Cs → Prop | [] => True | x :: r => x.fine ∧ Cs.fines r
end
theorem St.fine_eq (x : St) : x.fine = (x.exprs.l.length ≤ 9223372036854775807 ∧ x.names.l.length ≤ 9223372036854775807 ∧ x.body.l.length ≤ 9223372036854775807 ∧ x.els.l.length ≤ 9223372036854775807 ∧ x.cs.l.length ≤ 9223372036854775807 ∧ St.fines x.body.l ∧ St.fines x.els.l ∧ Cs.fines x.cs.l) := by cases x; simp only [St.fine]; rfl
theorem Cs.fine_eq (x : Cs) : x.fine = (x.names.l.length ≤ 9223372036854775807 ∧ x.body.l.length ≤ 9223372036854775807 ∧ St.fines x.body.l) := by cases x; simp only [Cs.fine]; rfl
theorem St.fines_mem {x : St} : ∀ {l : List St}, St.fines l → x ∈ l → x.fine
 | [], _, h => by cases h
 | a :: r, hf, h => by
  simp only [St.fines] at hf
  cases h with
  | head => exact hf.1
  | tail _ h => exact St.fines_mem hf.2 h
theorem Cs.fines_mem {x : Cs} : ∀ {l : List Cs}, Cs.fines l → x ∈ l → x.fine
 | [], _, h => by cases h
 | a :: r, hf, h => by
  simp only [Cs.fines] at hf
  cases h with
  | head => exact hf.1
  | tail _ h => exact Cs.fines_mem hf.2 h
def SizeOk (L : Nat) : Prop := ∀ l : Sl St, St.fines l.l → l.l.length ≤ 9223372036854775807 → ∃ v : Nat, W.pure 105 [Sl.av St.av 8 l, I L] = some (I v) ∧ Rb (2 * L + 104) L v (St.costs l.l)
set_option maxHeartbeats 4000000 in
theorem loop105_0 (l : Sl St) (i : Nat) (x : St) (hx : x.cs.l.length ≤ 9223372036854775807) (hf : Cs.fines x.cs.l) (L a b q : Nat) (hL : L ≤ 1000) (hab : a ≠ b) (ih : ∀ L', L' < L → SizeOk L') (T0 : Nat) :
  ∀ (r : List Cs) (k n T : Nat) (H : Heap), x.cs.l.drop k = r → k ≤ x.cs.l.length → T + Cs.costs r = T0 → 1 ≤ n → Rb (2 * L + 103) L n T → a < H.length → H[a]? = some (.arr 0 1 false [I n]) → H[b]? = some (.arr 0 1 false [I L]) →
  okC (W.loop [3, 5, 6, 8, 14, 15, 16, 38, 39, 40] l105_0 [(3, .optr b 0 0 0), (5, .optr a 0 0 0), (6, .clo 149 [] [.optr a 0 0 0, .optr b 0 0 0]), (8, .optr q 0 0 0), (14, Sl.av St.av 8 l), (15, I l.l.length), (16, I i), (38, Sl.av Cs.av 9 x.cs), (39, I x.cs.l.length), (40, I k)] H)
   (fun y F H' => (y = .exit 4 ∧ F.keep [3, 5, 6, 8, 14, 15, 16] = [(3, .optr b 0 0 0), (5, .optr a 0 0 0), (6, .clo 149 [] [.optr a 0 0 0, .optr b 0 0 0]), (8, .optr q 0 0 0), (14, Sl.av St.av 8 l), (15, I l.l.length), (16, I i)] ∧ ∃ n' : Nat, H'[a]? = some (.arr 0 1 false [I n']) ∧ Kept (some a) H H' ∧ Rb (2 * L + 103) L n' T0 ∧ 1 ≤ n') ∨ (y = .ret ∧ ∃ n' : Nat, F.get 4 = I n' ∧ L < n' ∧ n' ≤ 2 * L + 104 ∧ L < T0)) := by
 intro r
 induction r with
 | nil =>
  intro k n T H h1 h2 hT hn hR hal ha hb
  have hk := drop_nil_len h1 h2
  simp only [Cs.costs, Nat.add_zero] at hT
  subst hT
  rw [om_turn]
  simp [evl105_0, b105_0, intBin, hk]
  exact ⟨n, ha, Kept.refl _ _, hR, hn⟩
 | cons c r ihr =>
  intro k n T H h1 h2 hT hn hR hal ha hb
  obtain ⟨hlt, hc, hr⟩ := drop_cons h1
  have hlt' : (k : Int) < x.cs.l.length := by omega
  have hw : IntKind.wrap .i64 ((k : Int) + 1) = (k : Int) + 1 := by rw [wrap64] <;> omega
  have hmem : c ∈ x.cs.l := List.mem_of_getElem? hc
  have hfc := Cs.fines_mem hf hmem
  rw [Cs.fine_eq] at hfc
  have hnb : n ≤ 2 * L + 103 := by unfold Rb at hR; omega
  have hw1 := wrap_succ (k := n) (by omega)
  have p1 : ∀ B, (H ++ [B])[a]? = some (.arr 0 1 false [I n]) := app_get ha
  have p2 : ∀ B, (H ++ [B])[b]? = some (.arr 0 1 false [I L]) := app_get hb
  have s1 : ∀ B C, ((H ++ [B]).set a C)[a]? = some C := fun B C => gEt (by simp; omega)
  have s2 : ∀ B C, ((H ++ [B]).set a C)[b]? = some (.arr 0 1 false [I L]) := fun B C => by rw [gEn hab]; exact p2 B
  have s3 : ∀ B C, ((H ++ [B]).set a C)[H.length]? = some B := fun B C => by rw [gEn (by omega)]; exact app_last _ _
  have k1 : ∀ C, Kept (some a) H ((H ++ [Blk.arr 0 9 false [c.av]]).set a C) := fun C => (Kept.append _ _ _).trans (Kept.set _ _ _)
  obtain ⟨v, H3, c1, rfl, c2, c3⟩ := okV_iff.1 (call149 c.expr L (n + 1) a b hab (by omega) ((H ++ [Blk.arr 0 9 false [c.av]]).set a (.arr 0 1 false [I (n + 1 : Nat)])) (s1 _ _) (s2 _ _))
  have g1 : H3[H.length]? = some (.arr 0 9 false [c.av]) := c3.get (fun h => by cases h; omega) (s3 _ _)
  have g2 : H3[b]? = some (.arr 0 1 false [I L]) := c3.get (fun h => by cases h; exact hab rfl) (s2 _ _)
  have k2 : Kept (some a) H H3 := (k1 _).trans c3
  have hal3 : a < H3.length := (gEs.1 c2).1
  have hR1 : Rb (2 * L + 104) L (n + 1) (T + 1) := by unfold Rb at *; omega
  have hR2 := exStep_rb (e := c.expr) hR1 (by omega)
  have hcost : c.cost = 1 + exCost c.expr + St.costs c.body.l := Cs.cost_eq c
  simp only [Cs.costs] at hT
  have hm1 : 1 ≤ exStep L (n + 1) c.expr := by unfold exStep; split <;> omega
  generalize exStep L (n + 1) c.expr = m at *
  simp only [Int.natCast_add, Int.cast_ofNat_Int] at c1
  rw [om_turn]
  by_cases hm : L < m
  ·have hm' : (L : Int) < m := by omega
   have hTT : L < T0 := by unfold Rb at hR2; omega
   have hmb : m ≤ 2 * L + 104 := by unfold Rb at hR2; omega
   simp [evl105_0, b105_0, intBin, hlt, hlt', hc, hw, hw1, p1, p2, s1, s2, s3, c1, c2, g1, g2, hm, hm', app_last, -getElem?_pos, gEz]
   exact ⟨m, rfl, hm, hmb, hTT⟩
  ·have hm' : ¬ (L : Int) < m := by omega
   obtain ⟨w, e1, hw2⟩ := ih (L - m) (by omega) c.body hfc.2.2 hfc.2.1
   have hws : IntKind.wrap .i64 ((L : Int) - m) = ((L - m : Nat) : Int) := by rw [wrap64] <;> omega
   have hwb : m + w ≤ 2 * L + 103 := by unfold Rb at hw2; omega
   have hwa : IntKind.wrap .i64 ((m : Int) + w) = ((m + w : Nat) : Int) := by rw [wrap64] <;> omega
   have s4 : ∀ C, (H3.set a C)[a]? = some C := fun C => gEt hal3
   have s5 : ∀ C, (H3.set a C)[b]? = some (.arr 0 1 false [I L]) := fun C => by rw [gEn hab]; exact g2
   have hR3 : Rb (2 * L + 103) L (m + w) (T + c.cost) := by unfold Rb at *; omega
   have hJ := ihr (k + 1) (m + w) (T + c.cost) (H3.set a (.arr 0 1 false [I (m + w : Nat)])) hr (by omega) (by omega) (by omega) hR3 (by simp; omega) (s4 _) (s5 _)
   have k3 : Kept (some a) H (H3.set a (.arr 0 1 false [I (m + w : Nat)])) := k2.trans (Kept.set _ _ _)
   simp [evl105_0, b105_0, intBin, hlt, hlt', hc, hw, hw1, p1, p2, s1, s2, s3, c1, c2, g1, g2, hm, hm', hws, e1, hwa, app_last, -getElem?_pos, gEz]
   simp only [Int.natCast_add, Int.cast_ofNat_Int] at hJ
   simp only [Int.natCast_add] at k3
   obtain ⟨y, F, H', e3, e4⟩ := okC_iff.1 hJ
   rw [e3]
   simp only [okC_some]
   rcases e4 with ⟨rfl, e5, n', e6, e7, e8, e9⟩ | ⟨rfl, e5⟩
   ·exact .inl ⟨rfl, by simpa using e5, n', e6, k3.trans e7, e8, e9⟩
   ·exact .inr ⟨rfl, e5⟩
set_option maxHeartbeats 8000000 in
theorem loop105_2 (l : Sl St) (hl : l.l.length ≤ 9223372036854775807) (hf : St.fines l.l) (L a b : Nat) (hL : L ≤ 1000) (hab : a ≠ b) (ih : ∀ L', L' < L → SizeOk L') (T0 : Nat) :
  ∀ (r : List St) (k n T : Nat) (H : Heap), l.l.drop k = r → k ≤ l.l.length → T + St.costs r = T0 → Rb (2 * L + 103) L n T → a < H.length → H[a]? = some (.arr 0 1 false [I n]) → H[b]? = some (.arr 0 1 false [I L]) →
  okC (W.loop [3, 5, 6, 14, 15, 16] l105_2 [(3, .optr b 0 0 0), (5, .optr a 0 0 0), (6, .clo 149 [] [.optr a 0 0 0, .optr b 0 0 0]), (14, Sl.av St.av 8 l), (15, I l.l.length), (16, I k)] H)
   (fun y F H' => (y = .exit 0 ∧ F.get 5 = .optr a 0 0 0 ∧ ∃ n' : Nat, H'[a]? = some (.arr 0 1 false [I n']) ∧ Rb (2 * L + 103) L n' T0) ∨ (y = .ret ∧ ∃ n' : Nat, F.get 4 = I n' ∧ L < n' ∧ n' ≤ 2 * L + 104 ∧ L < T0)) := by
 intro r
 induction r with
 | nil =>
  intro k n T H h1 h2 hT hR hal ha hb
  have hk := drop_nil_len h1 h2
  simp only [St.costs, Nat.add_zero] at hT
  subst hT
  rw [om_turn]
  simp [evl105_2, b105_2, intBin, hk]
  exact ⟨n, ha, hR⟩
 | cons x r ihr =>
  intro k n T H h1 h2 hT hR hal ha hb
  obtain ⟨hlt, hc, hr⟩ := drop_cons h1
  have hlt' : (k : Int) < l.l.length := by omega
  have hw : IntKind.wrap .i64 ((k : Int) + 1) = (k : Int) + 1 := by rw [wrap64] <;> omega
  have hmem : x ∈ l.l := List.mem_of_getElem? hc
  have hfx := St.fines_mem hf hmem
  rw [St.fine_eq] at hfx
  have hnb : n ≤ 2 * L + 103 := by unfold Rb at hR; omega
  have hw1 := wrap_succ (k := n) (by omega)
  have p1 : ∀ B, (H ++ [B])[a]? = some (.arr 0 1 false [I n]) := app_get ha
  have p2 : ∀ B, (H ++ [B])[b]? = some (.arr 0 1 false [I L]) := app_get hb
  have s1 : ∀ B C, ((H ++ [B]).set a C)[a]? = some C := fun B C => gEt (by simp; omega)
  have s2 : ∀ B C, ((H ++ [B]).set a C)[b]? = some (.arr 0 1 false [I L]) := fun B C => by rw [gEn hab]; exact p2 B
  have s3 : ∀ B C, ((H ++ [B]).set a C)[H.length]? = some B := fun B C => by rw [gEn (by omega)]; exact app_last _ _
  have hcost : x.cost = 1 + (x.exprs.l.map exCost).sum + Cs.costs x.cs.l + St.costs x.body.l + St.costs x.els.l := St.cost_eq x
  simp only [St.costs] at hT
  rw [om_turn]
  by_cases hm : L < n + 1
  ·have hm' : (L : Int) < (n : Int) + 1 := by omega
   simp [evl105_2, b105_2, intBin, hlt, hlt', hc, hw, hw1, p1, p2, s1, s2, s3, hm', app_last, -getElem?_pos, gEz]
   exact ⟨n + 1, by simp, by omega, by omega, by unfold Rb at hR; omega⟩
  have hm' : ¬ (L : Int) < (n : Int) + 1 := by omega
  have hR0 : Rb (2 * L + 103) L (n + 1) (T + 1) := by unfold Rb at *; omega
  obtain ⟨y1, F1, H1, d1, rfl, d2, d3, d4⟩ := okC_iff.1 (loop105_1 l k x hfx.1 L a b H.length hL hab (by omega) ((H ++ [Blk.arr 0 8 false [x.av]]).set a (.arr 0 1 false [I (n + 1 : Nat)])) (n + 1) (by omega) (s1 _ _) (s2 _ _))
  have hR1 := exFold_rb (B := 2 * L + 103) (L := L) (by omega) x.exprs.l (n + 1) (T + 1) hR0
  have hm1 : 1 ≤ x.exprs.l.foldl (exStep L) (n + 1) := by
   have : ∀ (r : List Ex) (m : Nat), m ≤ r.foldl (exStep L) m := by
    intro r
    induction r with
    | nil => intro m; exact Nat.le_refl _
    | cons e r ih => intro m; exact Nat.le_trans (by unfold exStep; split <;> omega) (ih _)
   have := this x.exprs.l (n + 1)
   omega
  generalize x.exprs.l.foldl (exStep L) (n + 1) = m at *
  have g2 : H1[b]? = some (.arr 0 1 false [I L]) := d4.get (fun h => by cases h; exact hab rfl) (s2 _ _)
  have g3 : H1[H.length]? = some (.arr 0 8 false [x.av]) := d4.get (fun h => by cases h; omega) (s3 _ _)
  have hal1 : a < H1.length := (gEs.1 d3).1
  have hJ0 := loop105_0 l k x hfx.2.2.2.2.1 hfx.2.2.2.2.2.2.2 L a b H.length hL hab ih (T + 1 + (x.exprs.l.map exCost).sum + Cs.costs x.cs.l) x.cs.l 0 m (T + 1 + (x.exprs.l.map exCost).sum) H1 rfl (by omega) rfl hm1 hR1 hal1 d3 g2
  obtain ⟨y2, F2, H2, f1, f2⟩ := okC_iff.1 hJ0
  simp only [Int.natCast_add, Int.cast_ofNat_Int, Int.natCast_zero] at d1 f1
  rcases f2 with ⟨rfl, f3, n2, f4, f5, f6, f7⟩ | ⟨rfl, n2, f3, f4, f5, f6⟩
  rotate_left
  ·simp [evl105_2, b105_2, intBin, hlt, hlt', hc, hw, hw1, p1, p2, s1, s2, s3, hm', d1, d2, g3, f1, f3, app_last, -getElem?_pos, gEz]
   exact ⟨n2, rfl, f4, f5, by omega⟩
  have q2 : H2[b]? = some (.arr 0 1 false [I L]) := f5.get (fun h => by cases h; exact hab rfl) g2
  have q3 : H2[H.length]? = some (.arr 0 8 false [x.av]) := f5.get (fun h => by cases h; omega) g3
  have hal2 : a < H2.length := (gEs.1 f4).1
  have t1 : ∀ C, (H2.set a C)[a]? = some C := fun C => gEt hal2
  have t2 : ∀ C, (H2.set a C)[b]? = some (.arr 0 1 false [I L]) := fun C => by rw [gEn hab]; exact q2
  have t3 : ∀ C, (H2.set a C)[H.length]? = some (.arr 0 8 false [x.av]) := fun C => by rw [gEn (by omega)]; exact q3
  have t4 : ∀ C D, ((H2.set a C).set a D)[a]? = some D := fun C D => gEt (by simp; omega)
  have t5 : ∀ C D, ((H2.set a C).set a D)[b]? = some (.arr 0 1 false [I L]) := fun C D => by rw [gEn hab]; exact t2 C
  by_cases hn2 : n2 ≤ L
  rotate_left
  ·have hn2' : ¬ (n2 : Int) ≤ L := by omega
   have hRf : Rb (2 * L + 103) L n2 (T + x.cost) := by unfold Rb at *; omega
   have hJ := ihr (k + 1) n2 (T + x.cost) H2 hr (by omega) (by omega) hRf hal2 f4 q2
   simp only [Int.natCast_add, Int.cast_ofNat_Int] at hJ
   simp [evl105_2, b105_2, intBin, hlt, hlt', hc, hw, hw1, p1, p2, s1, s2, s3, hm', d1, d2, g3, f1, f3, f4, q2, q3, hn2', app_last, -getElem?_pos, gEz]
   exact hJ
  have hn2' : (n2 : Int) ≤ L := by omega
  obtain ⟨w, e1, hw2⟩ := ih (L - n2) (by omega) x.body hfx.2.2.2.2.2.1 hfx.2.2.1
  have hws : IntKind.wrap .i64 ((L : Int) - n2) = ((L - n2 : Nat) : Int) := by rw [wrap64] <;> omega
  have hwb : n2 + w ≤ 2 * L + 103 := by unfold Rb at hw2; omega
  have hwa : IntKind.wrap .i64 ((n2 : Int) + w) = ((n2 + w : Nat) : Int) := by rw [wrap64] <;> omega
  have hR3 : Rb (2 * L + 103) L (n2 + w) (T + 1 + (x.exprs.l.map exCost).sum + Cs.costs x.cs.l + St.costs x.body.l) := by unfold Rb at *; omega
  by_cases hn3 : n2 + w ≤ L
  rotate_left
  ·have hn3' : ¬ (n2 : Int) + w ≤ L := by omega
   have hRf : Rb (2 * L + 103) L (n2 + w) (T + x.cost) := by unfold Rb at *; omega
   have hJ := ihr (k + 1) (n2 + w) (T + x.cost) (H2.set a (.arr 0 1 false [I (n2 + w : Nat)])) hr (by omega) (by omega) hRf (by simp; omega) (t1 _) (t2 _)
   simp only [Int.natCast_add, Int.cast_ofNat_Int] at hJ
   simp [evl105_2, b105_2, intBin, hlt, hlt', hc, hw, hw1, p1, p2, s1, s2, s3, hm', d1, d2, g3, f1, f3, f4, q2, q3, hn2', hws, e1, hwa, t1, t2, t3, hn3', app_last, -getElem?_pos, gEz]
   exact hJ
  have hn3' : (n2 : Int) + w ≤ L := by omega
  obtain ⟨u, e2, hu2⟩ := ih (L - (n2 + w)) (by omega) x.els hfx.2.2.2.2.2.2.1 hfx.2.2.2.1
  have hus : IntKind.wrap .i64 ((L : Int) - ((n2 : Int) + w)) = ((L - (n2 + w) : Nat) : Int) := by rw [wrap64] <;> omega
  have hub : n2 + w + u ≤ 2 * L + 103 := by unfold Rb at hu2; omega
  have hua : IntKind.wrap .i64 ((n2 : Int) + w + u) = ((n2 + w + u : Nat) : Int) := by rw [wrap64] <;> omega
  have hRf : Rb (2 * L + 103) L (n2 + w + u) (T + x.cost) := by unfold Rb at *; omega
  have hJ := ihr (k + 1) (n2 + w + u) (T + x.cost) ((H2.set a (.arr 0 1 false [I (n2 + w : Nat)])).set a (.arr 0 1 false [I (n2 + w + u : Nat)])) hr (by omega) (by omega) hRf (by simp; omega) (t4 _ _) (t5 _ _)
  simp only [Int.natCast_add, Int.cast_ofNat_Int] at hJ
  simp [evl105_2, b105_2, intBin, hlt, hlt', hc, hw, hw1, p1, p2, s1, s2, s3, hm', d1, d2, g3, f1, f3, f4, q2, q3, hn2', hws, e1, hwa, t1, t2, t3, hn3', hus, e2, hua, t4, t5, app_last, -getElem?_pos, gEz]
  simpa using hJ
end Go.Proofs.YtddpboiceemihaaGreatDoor
end
section
namespace Go.Proofs.YtddpboiceemihaaGreatDoor
open Go Go.RowKit
set_option linter.unusedVariables false
set_option linter.unusedSimpArgs false
set_option maxRecDepth 10000
theorem e105 : ∀ L, L ≤ 1000 → SizeOk L := by
 intro L
 induction L using Nat.strongRecOn with
 | ind L ih =>
  intro hL l hf hl
  obtain ⟨y, F, H', e1, e2⟩ := okC_iff.1 (loop105_2 l hl hf L 1 0 hL (by omega) (fun L' h => ih L' h (by omega)) (St.costs l.l) l.l 0 0 0 [.arr 0 1 false [I L], .arr 0 1 false [I 0]] rfl (by omega) (by omega) (.inl ⟨by omega, rfl⟩) (by simp) rfl rfl)
  simp only [Int.natCast_zero] at e1
  rcases e2 with ⟨rfl, e3, n, e4, e5⟩ | ⟨rfl, n, e3, e4, e5, e6⟩
  ·refine ⟨n, ?_, by unfold Rb at *; omega⟩
   rw [W_pure Φ105 rfl]
   simp [fi105, c105, evFun, enterFr, intBin, resV, rvVs, rvV, e1, e3, e4]
  ·refine ⟨n, ?_, .inr ⟨e6, e4, e5⟩⟩
   rw [W_pure Φ105 rfl]
   simp [fi105, c105, evFun, enterFr, intBin, resV, rvVs, rvV, e1, e3]
def Pr.cost (p : Pr) : Nat := St.costs p.body.l
def Pr.fine (p : Pr) : Prop := St.fines p.body.l ∧ p.body.l.length ≤ 9223372036854775807 ∧ p.params.l.length ≤ 9223372036854775807
theorem e70 (s : So) (hl : s.procs.l.length ≤ 9223372036854775807) (hf : ∀ p ∈ s.procs.l, p.fine) : W.pure 70 [s.av] = some (I (min (s.procs.l.map Pr.cost).sum 301 : Nat)) := by
 rw [W_pure Φ70 rfl]
 have key : ∀ (r : List Pr) (k n T : Nat) (H : Heap), s.procs.l.drop k = r → k ≤ s.procs.l.length → Rb 704 300 n T →
   okC (W.loop [3, 7, 8, 9] l70_0 [(3, I n), (7, Sl.av Pr.av 5 s.procs), (8, I s.procs.l.length), (9, I k)] H) (fun y F H' => y = .exit 0 ∧ ∃ n' : Nat, F.get 3 = I n' ∧ Rb 704 300 n' (T + (r.map Pr.cost).sum)) := by
  intro r
  induction r with
  | nil =>
   intro k n T H h1 h2 hR
   have hk := drop_nil_len h1 h2
   rw [om_turn]
   simp [evl70_0, b70_0, intBin, hk]
   exact ⟨n, rfl, hR⟩
  | cons p r ihr =>
   intro k n T H h1 h2 hR
   obtain ⟨hlt, hc, hr⟩ := drop_cons h1
   have hlt' : (k : Int) < s.procs.l.length := by omega
   have hw : IntKind.wrap .i64 ((k : Int) + 1) = (k : Int) + 1 := by rw [wrap64] <;> omega
   have hfp := hf p (List.mem_of_getElem? hc)
   simp only [List.map_cons, List.sum_cons]
   rw [om_turn]
   by_cases hn : n ≤ 300
   ·have hn' : (n : Int) ≤ 300 := by omega
    obtain ⟨w, e1, hw2⟩ := e105 (300 - n) (by omega) p.body hfp.1 hfp.2.1
    have hws : IntKind.wrap .i64 (300 - (n : Int)) = ((300 - n : Nat) : Int) := by rw [wrap64] <;> omega
    have hwb : n + w ≤ 704 := by unfold Rb at hw2; omega
    have hwa : IntKind.wrap .i64 ((n : Int) + w) = ((n + w : Nat) : Int) := by rw [wrap64] <;> omega
    have hR2 : Rb 704 300 (n + w) (T + p.cost) := by unfold Pr.cost Rb at *; omega
    have hJ := ihr (k + 1) (n + w) (T + p.cost) (H ++ [.arr 0 5 false [p.av]]) hr (by omega) hR2
    simp only [Int.natCast_add, Int.cast_ofNat_Int] at hJ
    simp [evl70_0, b70_0, intBin, hlt, hlt', hc, hw, hn', hws, e1, hwa, app_last, -getElem?_pos, gEz]
    simpa [Nat.add_assoc] using hJ
   ·have hn' : ¬ (n : Int) ≤ 300 := by omega
    have hR2 : Rb 704 300 n (T + p.cost) := by unfold Rb at *; omega
    have hJ := ihr (k + 1) n (T + p.cost) (H ++ [.arr 0 5 false [p.av]]) hr (by omega) hR2
    simp only [Int.natCast_add, Int.cast_ofNat_Int] at hJ
    simp [evl70_0, b70_0, intBin, hlt, hlt', hc, hw, hn', app_last, -getElem?_pos, gEz]
    simpa [Nat.add_assoc] using hJ
 obtain ⟨y, F, H', e1, rfl, n, e2, e3⟩ := okC_iff.1 (key s.procs.l 0 0 0 [.arr 0 2 false [s.av]] rfl (by omega) (.inl ⟨by omega, rfl⟩))
 simp only [Int.natCast_zero, Nat.zero_add] at e1 e3
 generalize (s.procs.l.map Pr.cost).sum = T at *
 by_cases h : n ≤ 301
 ·have hm : min T 301 = n := by unfold Rb at e3; omega
  have h' : ¬ (301 : Int) < n := by omega
  rw [hm]
  simp [fi70, c70, evFun, enterFr, intBin, resV, rvVs, rvV, e1, e2, h']
 ·have hm : min T 301 = 301 := by unfold Rb at e3; omega
  have h' : (301 : Int) < n := by omega
  rw [hm]
  simp [fi70, c70, evFun, enterFr, intBin, resV, rvVs, rvV, e1, e2, h']
end Go.Proofs.YtddpboiceemihaaGreatDoor
end
section
namespace Go.Proofs.YtddpboiceemihaaGreatDoor
open Go Go.RowKit
set_option linter.unusedVariables false
set_option linter.unusedSimpArgs false
set_option maxRecDepth 10000
mutual
def St.dep : St → Nat | .mk _ _ _ _ _ _ _ bl _ _ el _ _ cl => 1 + max (St.deps bl) (max (St.deps el) (Cs.deps cl))
def St.deps : List St → Nat | [] => 0 | x :: r => max x.dep (St.deps r)
def Cs.dep : Cs → Nat | .mk _ _ _ _ _ _ bl => St.deps bl
def Cs.deps : List Cs → Nat | [] => 0 | x :: r => max x.dep (Cs.deps r)
end
theorem St.dep_eq (x : St) : x.dep = 1 + max (St.deps x.body.l) (max (St.deps x.els.l) (Cs.deps x.cs.l)) := by cases x; simp only [St.dep]; rfl
theorem Cs.dep_eq (x : Cs) : x.dep = St.deps x.body.l := by cases x; simp only [Cs.dep]; rfl
theorem St.any_deps (d : Nat) (hd : d ≤ 12) : ∀ l : List St, l.any (fun x => decide (12 < d + x.dep)) = decide (12 < d + St.deps l)
 | [] => by
  have h : ¬ 12 < d + St.deps [] := by simp only [St.deps]; omega
  rw [decide_eq_false h]; rfl
 | x :: r => by
  have h0 : (12 < d + max x.dep (St.deps r)) ↔ (12 < d + x.dep ∨ 12 < d + St.deps r) := by omega
  simp only [List.any_cons, St.deps, St.any_deps d hd r, h0]
  by_cases h1 : 12 < d + x.dep <;> by_cases h2 : 12 < d + St.deps r <;> simp [h1, h2]
theorem Cs.any_deps (d : Nat) (hd : d ≤ 12) : ∀ l : List Cs, l.any (fun x => decide (12 < d + x.dep)) = decide (12 < d + Cs.deps l)
 | [] => by
  have h : ¬ 12 < d + Cs.deps [] := by simp only [Cs.deps]; omega
  rw [decide_eq_false h]; rfl
 | x :: r => by
  have h0 : (12 < d + max x.dep (Cs.deps r)) ↔ (12 < d + x.dep ∨ 12 < d + Cs.deps r) := by omega
  simp only [List.any_cons, Cs.deps, Cs.any_deps d hd r, h0]
  by_cases h1 : 12 < d + x.dep <;> by_cases h2 : 12 < d + Cs.deps r <;> simp [h1, h2]
def DeepOk (d : Nat) : Prop := ∀ l : Sl St, St.fines l.l → l.l.length ≤ 9223372036854775807 → W.pure 72 [Sl.av St.av 8 l, I (d + 1 : Nat)] = some (.bool (decide (12 < d + St.deps l.l)))
theorem call108 (c : Cs) (hf : c.fine) (d : Nat) (hd : d ≤ 12) (ih : DeepOk d) (id : Nat) (H : Heap) (h : H[id]? = some (.arr 0 1 false [I d])) :
  W.call (.clo 108 [] [.optr id 0 0 0]) [c.av] H = some (.bool (decide (12 < d + c.dep)), H ++ [.arr 0 9 false [c.av]]) := by
 rw [W_call Φ108, Cs.dep_eq]
 rw [Cs.fine_eq] at hf
 have e1 := ih c.body hf.2.2 hf.2.1
 have p1 : ∀ B, (H ++ [B])[id]? = some (.arr 0 1 false [I d]) := app_get h
 have hw := wrap_succ (k := d) (by omega)
 simp only [Int.natCast_add, Int.cast_ofNat_Int] at e1
 simp [fi108, c108, evFun, enterFr, intBin, resV, rvVs, rvV, p1, hw, e1, app_last, -getElem?_pos, gEz]
theorem call107 (x : St) (hf : x.fine) (d : Nat) (hd0 : 1 ≤ d) (hd : d ≤ 12) (ih : DeepOk d) (id : Nat) (H : Heap) (h : H[id]? = some (.arr 0 1 false [I d])) :
  okV (W.call (.clo 107 [] [.optr id 0 0 0]) [x.av] H) (fun v H' => v = .bool (decide (12 < d - 1 + x.dep)) ∧ Kept none H H') := by
 rw [W_call Φ107, St.dep_eq]
 rw [St.fine_eq] at hf
 have e1 := ih x.body hf.2.2.2.2.2.1 hf.2.2.1
 have e2 := ih x.els hf.2.2.2.2.2.2.1 hf.2.2.2.1
 have p1 : ∀ B, (H ++ [B])[id]? = some (.arr 0 1 false [I d]) := app_get h
 have hw := wrap_succ (k := d) (by omega)
 obtain ⟨v, H', c1, rfl, c2⟩ := okV_iff.1 (any109 x.cs (by omega) (.clo 108 [] [.optr id 0 0 0]) rfl (fun c => decide (12 < d + c.dep)) (H ++ [.arr 0 8 false [x.av]]) (fun a ha G hk => by
  rw [call108 a (Cs.fines_mem hf.2.2.2.2.2.2.2 ha) d hd ih id G (hk.get (by simp) (p1 _))]
  exact ⟨rfl, Kept.append _ _ _⟩))
 rw [Cs.any_deps d hd] at c1
 have k1 : Kept none H (H ++ [.arr 0 8 false [x.av]]) := Kept.append _ _ _
 have k2 := k1.trans c2
 simp only [Int.natCast_add, Int.cast_ofNat_Int] at e1 e2
 by_cases h1 : 12 < d + St.deps x.body.l
 ·have h0 : 12 < d - 1 + (1 + max (St.deps x.body.l) (max (St.deps x.els.l) (Cs.deps x.cs.l))) := by omega
  simp only [h1, decide_true] at e1
  simp [fi107, c107, evFun, enterFr, intBin, resV, rvVs, rvV, p1, hw, e1, h0, k1, app_last, -getElem?_pos, gEz]
 by_cases h2 : 12 < d + St.deps x.els.l
 ·have h0 : 12 < d - 1 + (1 + max (St.deps x.body.l) (max (St.deps x.els.l) (Cs.deps x.cs.l))) := by omega
  simp only [h1, decide_false] at e1
  simp only [h2, decide_true] at e2
  simp [fi107, c107, evFun, enterFr, intBin, resV, rvVs, rvV, p1, hw, e1, e2, h0, k1, app_last, -getElem?_pos, gEz]
 simp only [h1, decide_false] at e1
 simp only [h2, decide_false] at e2
 by_cases h3 : 12 < d + Cs.deps x.cs.l
 ·have h0 : 12 < d - 1 + (1 + max (St.deps x.body.l) (max (St.deps x.els.l) (Cs.deps x.cs.l))) := by omega
  simp only [h3, decide_true] at c1
  simp [fi107, c107, evFun, enterFr, intBin, resV, rvVs, rvV, p1, hw, e1, e2, c1, h0, k2, app_last, -getElem?_pos, gEz]
 ·have h0 : ¬ 12 < d - 1 + (1 + max (St.deps x.body.l) (max (St.deps x.els.l) (Cs.deps x.cs.l))) := by omega
  simp only [h3, decide_false] at c1
  simp [fi107, c107, evFun, enterFr, intBin, resV, rvVs, rvV, p1, hw, e1, e2, c1, h0, k2, app_last, -getElem?_pos, gEz]
theorem e72 : ∀ (m d : Nat), d + m = 12 → DeepOk d := by
 intro m
 induction m with
 | zero =>
  intro d hd l hf hl
  have : d = 12 := by omega
  subst this
  rw [W_pure Φ72 rfl]
  by_cases h : l.l = []
  ·simp [fi72, c72, evFun, enterFr, intBin, resV, rvVs, rvV, h, St.deps]
  ·have hp : 1 ≤ St.deps l.l := by
    cases hl2 : l.l with
    | nil => exact absurd hl2 h
    | cons x r => have := x.dep_eq; simp only [St.deps]; omega
   have hd2 : 12 < 12 + St.deps l.l := by omega
   rw [decide_eq_true hd2]
   simp [fi72, c72, evFun, enterFr, intBin, resV, rvVs, rvV, h]
 | succ m ihm =>
  intro d hd l hf hl
  rw [W_pure Φ72 rfl]
  by_cases h : l.l = []
  ·have : ¬ 12 < d := by omega
   simp [fi72, c72, evFun, enterFr, intBin, resV, rvVs, rvV, h, St.deps, this]
  have ih := ihm (d + 1) (by omega)
  have hd11 : d + 1 ≤ 12 := by omega
  have hn : ¬ (12 : Int) < (d : Int) + 1 := by omega
  obtain ⟨v, H', c1, rfl, c2⟩ := okV_iff.1 (any106 l (by omega) (.clo 107 [] [.optr 0 0 0 0]) rfl (fun x => decide (12 < (d + 1) - 1 + x.dep)) [.arr 0 1 false [I (d + 1 : Nat)]] (fun a ha G hk => call107 a (St.fines_mem hf ha) (d + 1) (by omega) hd11 ih 0 G (hk.get (by simp) rfl)))
  simp only [Nat.add_sub_cancel] at c1
  rw [St.any_deps d (by omega)] at c1
  simp only [Int.natCast_add, Int.cast_ofNat_Int] at c1 ⊢
  simp [fi72, c72, evFun, enterFr, intBin, resV, rvVs, rvV, h, hn, c1]
end Go.Proofs.YtddpboiceemihaaGreatDoor
end
section
namespace Go.Proofs.YtddpboiceemihaaGreatDoor
open Go Go.RowKit
set_option linter.unusedVariables false
set_option linter.unusedSimpArgs false
set_option maxRecDepth 10000
mutual
def St.pre : St → List St | .mk a b c d e f g bl h i el j k cl => .mk a b c d e f g bl h i el j k cl :: (St.pres bl ++ (St.pres el ++ Cs.pres cl))
def St.pres : List St → List St | [] => [] | x :: r => x.pre ++ St.pres r
def Cs.pre : Cs → List St | .mk _ _ _ _ _ _ bl => St.pres bl
def Cs.pres : List Cs → List St | [] => [] | x :: r => x.pre ++ Cs.pres r
end
theorem St.pre_eq (x : St) : x.pre = x :: (St.pres x.body.l ++ (St.pres x.els.l ++ Cs.pres x.cs.l)) := by cases x; simp only [St.pre]; rfl
theorem Cs.pre_eq (x : Cs) : x.pre = St.pres x.body.l := by cases x; simp only [Cs.pre]; rfl
structure KOk {σ : Type} (P : σ → Heap → Prop) (Kp : Heap → Heap → Prop) : Prop where
 refl : ∀ H, Kp H H
 trans : ∀ A B C, Kp A B → Kp B C → Kp A C
 app : ∀ s H B, P s H → Kp H (H ++ [B])
 box : ∀ s H H' es, P s H → Kp (H ++ [.arr 0 8 false es]) H' → H'[H.length]? = some (.arr 0 8 false es)
def yieldK {σ ρ : Type} (Kp : Heap → Heap → Prop) (P : σ → Heap → Prop) (Q : ρ → Heap → Prop) (y : σ ⊕ ρ) (H : Heap) (v : AV) (H' : Heap) : Prop :=
 Kp H H' ∧ match y with | .inl s => v = .bool true ∧ P s H' | .inr r => v = .bool false ∧ Q r H'
def VisOk {σ ρ : Type} (i j : Nat) (P : σ → Heap → Prop) (Q : ρ → Heap → Prop) (G : σ → Prop) (Kp : Heap → Heap → Prop) (step : St → σ → σ ⊕ ρ) (l : Sl St) : Prop :=
 ∀ s H, runG G step (St.pres l.l) s → P s H → okV (W.call (.clo 116 [] [.optr i 0 0 0, .optr j 0 0 0]) [Sl.av St.av 8 l] H) (yieldK Kp P Q (runS step (St.pres l.l) s) H)
set_option maxHeartbeats 2000000 in
theorem loop116_0 {σ ρ : Type} (l : Sl St) (m : Nat) (x : St) (hx : x.cs.l.length ≤ 9223372036854775807) (y : AV) (hy : okO y = some y) (i j : Nat) (P : σ → Heap → Prop) (Q : ρ → Heap → Prop) (G : σ → Prop) (Kp : Heap → Heap → Prop) (step : St → σ → σ ⊕ ρ) (hP : ∀ s H B, P s H → P s (H ++ [B])) (hK : KOk P Kp)
  (hc : ∀ s H, P s H → H[i]? = some (.arr 0 1 false [y]) ∧ H[j]? = some (.arr 0 1 false [.clo 116 [] [.optr i 0 0 0, .optr j 0 0 0]]))
  (ih : ∀ c ∈ x.cs.l, VisOk i j P Q G Kp step c.body) :
  ∀ (r : List Cs) (k : Nat) (s : σ) (H : Heap), x.cs.l.drop k = r → k ≤ x.cs.l.length → runG G step (Cs.pres r) s → P s H →
  okC (W.loop [1, 2, 9, 10, 11, 34, 35, 36] l116_0 [(1, .optr i 0 0 0), (2, .optr j 0 0 0), (9, Sl.av St.av 8 l), (10, I l.l.length), (11, I m), (34, Sl.av Cs.av 9 x.cs), (35, I x.cs.l.length), (36, I k)] H)
   (fun e F' H' => Kp H H' ∧ match runS step (Cs.pres r) s with | .inl s' => e = .exit 2 ∧ F'.keep [1, 2, 9, 10, 11] = [(1, .optr i 0 0 0), (2, .optr j 0 0 0), (9, Sl.av St.av 8 l), (10, I l.l.length), (11, I m)] ∧ P s' H' | .inr z => e = .ret ∧ F'.get 4 = .bool false ∧ Q z H') := by
 intro r
 induction r with
 | nil =>
  intro k s H h1 h2 hg hp
  have hk := drop_nil_len h1 h2
  rw [om_turn]
  simp [evl116_0, b116_0, intBin, hk, Cs.pres, runS, hp]
  exact hK.refl _
 | cons c r ihr =>
  intro k s H h1 h2 hg hp
  obtain ⟨hlt, ha, hr⟩ := drop_cons h1
  have hlt' : (k : Int) < x.cs.l.length := by omega
  have hw : IntKind.wrap .i64 ((k : Int) + 1) = (k : Int) + 1 := by rw [wrap64] <;> omega
  have hcs := hc s H hp
  have p1 : ∀ B, (H ++ [B])[j]? = some (.arr 0 1 false [.clo 116 [] [.optr i 0 0 0, .optr j 0 0 0]]) := app_get hcs.2
  simp only [Cs.pres, Cs.pre_eq, runG_append] at hg
  obtain ⟨hg1, hg2⟩ := hg
  have e1 := ih c (List.mem_of_getElem? ha) s (H ++ [.arr 0 9 false [c.av]]) hg1 (hP _ _ _ hp)
  obtain ⟨v, H1, c1, c2, c3⟩ := okV_iff.1 e1
  rw [om_turn]
  simp only [Cs.pres, Cs.pre_eq, runS_append]
  cases hrun : runS step (St.pres c.body.l) s with
  | inr z =>
   rw [hrun] at c3
   obtain ⟨rfl, c4⟩ := c3
   simp [evl116_0, b116_0, intBin, hlt, hlt', ha, p1, c1, app_last, -getElem?_pos, gEz]
   exact ⟨hK.trans _ _ _ (hK.app _ _ _ hp) c2, c4⟩
  | inl s' =>
   rw [hrun] at c3 hg2
   obtain ⟨rfl, c4⟩ := c3
   have hJ := ihr (k + 1) s' H1 hr (by omega) hg2 c4
   simp only [Int.natCast_add, Int.cast_ofNat_Int] at hJ
   obtain ⟨e, F', H', g1, g2, g3⟩ := okC_iff.1 hJ
   simp [evl116_0, b116_0, intBin, hlt, hlt', ha, p1, c1, hw, g1, app_last, -getElem?_pos, gEz]
   refine ⟨hK.trans _ _ _ (hK.trans _ _ _ (hK.app _ _ _ hp) c2) g2, ?_⟩
   simpa using g3
set_option maxHeartbeats 8000000 in
theorem loop116_1 {σ ρ : Type} (l : Sl St) (hl : l.l.length ≤ 9223372036854775807) (hf : St.fines l.l) (y : AV) (hy : okO y = some y) (hyc : ldCells false 1 y.cells = y) (i j : Nat) (P : σ → Heap → Prop) (Q : ρ → Heap → Prop) (G : σ → Prop) (Kp : Heap → Heap → Prop) (step : St → σ → σ ⊕ ρ) (hP : ∀ s H B, P s H → P s (H ++ [B])) (hK : KOk P Kp)
  (hc : ∀ s H, P s H → H[i]? = some (.arr 0 1 false [y]) ∧ H[j]? = some (.arr 0 1 false [.clo 116 [] [.optr i 0 0 0, .optr j 0 0 0]]))
  (hstep : ∀ x s H, x.fine → G s → P s H → okV (W.call y [x.av] H) (yieldK Kp P Q (step x s) H))
  (ih : ∀ v : Sl St, St.bigs v.l < St.bigs l.l → St.fines v.l → v.l.length ≤ 9223372036854775807 → VisOk i j P Q G Kp step v) :
  ∀ (r : List St) (k : Nat) (s : σ) (H : Heap), l.l.drop k = r → k ≤ l.l.length → runG G step (St.pres r) s → P s H →
  okC (W.loop [1, 2, 9, 10, 11] l116_1 [(1, .optr i 0 0 0), (2, .optr j 0 0 0), (9, Sl.av St.av 8 l), (10, I l.l.length), (11, I k)] H)
   (fun e F' H' => Kp H H' ∧ match runS step (St.pres r) s with | .inl s' => e = .exit 0 ∧ P s' H' | .inr z => e = .ret ∧ F'.get 4 = .bool false ∧ Q z H') := by
 intro r
 induction r with
 | nil =>
  intro k s H h1 h2 hg hp
  have hk := drop_nil_len h1 h2
  rw [om_turn]
  simp [evl116_1, b116_1, intBin, hk, St.pres, runS, hp]
  exact hK.refl _
 | cons x r ihr =>
  intro k s H h1 h2 hg hp
  obtain ⟨hlt, ha, hr⟩ := drop_cons h1
  have hlt' : (k : Int) < l.l.length := by omega
  have hw : IntKind.wrap .i64 ((k : Int) + 1) = (k : Int) + 1 := by rw [wrap64] <;> omega
  have hmem : x ∈ l.l := List.mem_of_getElem? ha
  have hfx := St.fines_mem hf hmem
  have hfine := hfx
  simp only [St.pres, St.pre_eq, List.cons_append, List.append_assoc, runG, runG_append] at hg
  obtain ⟨hg0, hg⟩ := hg
  rw [St.fine_eq] at hfx
  have hbig := St.bigs_mem hmem
  rw [St.big_eq] at hbig
  have hp1 := hP _ _ (Blk.arr 0 8 false [x.av]) hp
  have q1 := (hc _ _ hp1).1
  obtain ⟨v1, H1, c1, c2, c3⟩ := okV_iff.1 (hstep x s _ hfine hg0 hp1)
  have b1 : H1[H.length]? = some (.arr 0 8 false [x.av]) := hK.box s H H1 [x.av] hp c2
  have k1 := hK.trans _ _ _ (hK.app s H (.arr 0 8 false [x.av]) hp) c2
  rw [om_turn]
  simp only [St.pres, St.pre_eq, List.cons_append, List.append_assoc, runS, runS_append]
  cases hst : step x s with
  | inr z =>
   rw [hst] at c3
   obtain ⟨rfl, c4⟩ := c3
   simp [evl116_1, b116_1, intBin, hlt, hlt', ha, hw, q1, hy, hyc, c1, app_last, -getElem?_pos, gEz]
   exact ⟨k1, c4⟩
  | inl s1 =>
  rw [hst] at c3 hg
  obtain ⟨hg1, hg⟩ := hg
  obtain ⟨rfl, c4⟩ := c3
  have q2 := (hc _ _ c4).2
  obtain ⟨v2, H2, d1, d2, d3⟩ := okV_iff.1 (ih x.body (by omega) hfx.2.2.2.2.2.1 hfx.2.2.1 s1 H1 hg1 c4)
  have b2 : H2[H.length]? = some (.arr 0 8 false [x.av]) := hK.box s H H2 [x.av] hp (hK.trans _ _ _ c2 d2)
  have k2 := hK.trans _ _ _ k1 d2
  simp only
  cases hrb : runS step (St.pres x.body.l) s1 with
  | inr z =>
   rw [hrb] at d3
   obtain ⟨rfl, d4⟩ := d3
   simp [evl116_1, b116_1, intBin, hlt, hlt', ha, hw, q1, hy, hyc, c1, b1, q2, d1, app_last, -getElem?_pos, gEz]
   exact ⟨k2, d4⟩
  | inl s2 =>
  rw [hrb] at d3 hg
  obtain ⟨hg2, hg⟩ := hg
  obtain ⟨rfl, d4⟩ := d3
  have q3 := (hc _ _ d4).2
  obtain ⟨v3, H3, e1, e2, e3⟩ := okV_iff.1 (ih x.els (by omega) hfx.2.2.2.2.2.2.1 hfx.2.2.2.1 s2 H2 hg2 d4)
  have b3 : H3[H.length]? = some (.arr 0 8 false [x.av]) := hK.box s H H3 [x.av] hp (hK.trans _ _ _ (hK.trans _ _ _ c2 d2) e2)
  have k3 := hK.trans _ _ _ k2 e2
  simp only
  cases hre : runS step (St.pres x.els.l) s2 with
  | inr z =>
   rw [hre] at e3
   obtain ⟨rfl, e4⟩ := e3
   simp [evl116_1, b116_1, intBin, hlt, hlt', ha, hw, q1, hy, hyc, c1, b1, q2, d1, b2, q3, e1, app_last, -getElem?_pos, gEz]
   exact ⟨k3, e4⟩
  | inl s3 =>
  rw [hre] at e3 hg
  obtain ⟨hg3, hg⟩ := hg
  obtain ⟨rfl, e4⟩ := e3
  have hL := loop116_0 l k x hfx.2.2.2.2.1 y hy i j P Q G Kp step hP hK hc (fun c hc2 => by
   have h5 := Cs.bigs_mem hc2
   rw [Cs.big_eq] at h5
   have h6 := Cs.fines_mem hfx.2.2.2.2.2.2.2 hc2
   rw [Cs.fine_eq] at h6
   exact ih c.body (by omega) h6.2.2 h6.2.1) x.cs.l 0 s3 H3 rfl (by omega) hg3 e4
  simp only [Int.natCast_zero] at hL
  obtain ⟨u, F4, H4, f1, f2, f3⟩ := okC_iff.1 hL
  have k4 := hK.trans _ _ _ k3 f2
  simp only
  cases hrc : runS step (Cs.pres x.cs.l) s3 with
  | inr z =>
   rw [hrc] at f3
   obtain ⟨rfl, f4, f5⟩ := f3
   simp [evl116_1, b116_1, intBin, hlt, hlt', ha, hw, q1, hy, hyc, c1, b1, q2, d1, b2, q3, e1, b3, f1, f4, app_last, -getElem?_pos, gEz]
   exact ⟨k4, f5⟩
  | inl s4 =>
  rw [hrc] at f3 hg
  obtain ⟨rfl, f4, f5⟩ := f3
  have hJ := ihr (k + 1) s4 H4 hr (by omega) hg f5
  simp only [Int.natCast_add, Int.cast_ofNat_Int] at hJ
  obtain ⟨w, F', H', g1, g2, g3⟩ := okC_iff.1 hJ
  simp [evl116_1, b116_1, intBin, hlt, hlt', ha, hw, q1, hy, hyc, c1, b1, q2, d1, b2, q3, e1, b3, f1, f4, g1, app_last, -getElem?_pos, gEz]
  refine ⟨hK.trans _ _ _ k4 g2, ?_⟩
  simpa using g3
theorem visit116 {σ ρ : Type} (y : AV) (hy : okO y = some y) (hyc : ldCells false 1 y.cells = y) (i j : Nat) (P : σ → Heap → Prop) (Q : ρ → Heap → Prop) (G : σ → Prop) (Kp : Heap → Heap → Prop) (step : St → σ → σ ⊕ ρ) (hP : ∀ s H B, P s H → P s (H ++ [B])) (hK : KOk P Kp)
  (hc : ∀ s H, P s H → H[i]? = some (.arr 0 1 false [y]) ∧ H[j]? = some (.arr 0 1 false [.clo 116 [] [.optr i 0 0 0, .optr j 0 0 0]]))
  (hstep : ∀ x s H, x.fine → G s → P s H → okV (W.call y [x.av] H) (yieldK Kp P Q (step x s) H)) :
  ∀ (n : Nat) (l : Sl St), St.bigs l.l ≤ n → St.fines l.l → l.l.length ≤ 9223372036854775807 → VisOk i j P Q G Kp step l := by
 intro n
 induction n using Nat.strongRecOn with
 | ind n ihn =>
  intro l hn hf hl s H hg hp
  rw [W_call Φ116]
  have hL := loop116_1 l hl hf y hy hyc i j P Q G Kp step hP hK hc hstep (fun v hv h1 h2 => ihn (St.bigs v.l) (by omega) v (Nat.le_refl _) h1 h2) l.l 0 s H rfl (by omega) hg hp
  simp only [Int.natCast_zero] at hL
  obtain ⟨u, F', H', g1, g2, g3⟩ := okC_iff.1 hL
  cases hr : runS step (St.pres l.l) s with
  | inl s' =>
   rw [hr] at g3
   obtain ⟨rfl, g4⟩ := g3
   simp [fi116, c116, evFun, enterFr, intBin, resV, rvVs, rvV, g1]
   exact ⟨g2, rfl, g4⟩
  | inr z =>
   rw [hr] at g3
   obtain ⟨rfl, g4, g5⟩ := g3
   simp [fi116, c116, evFun, enterFr, intBin, resV, rvVs, rvV, g1, g4]
   exact ⟨g2, rfl, g5⟩
end Go.Proofs.YtddpboiceemihaaGreatDoor
end
section
namespace Go.Proofs.YtddpboiceemihaaGreatDoor
open Go Go.RowKit
set_option linter.unusedVariables false
set_option linter.unusedSimpArgs false
set_option maxRecDepth 10000
theorem pre_ok {σ ρ : Type} (y : AV) (hy : okO y = some y) (hy1 : y.cells = [y]) (hy2 : y.cell = true) (P : σ → Heap → Prop) (Q : ρ → Heap → Prop) (G : σ → Prop) (Kp : Heap → Heap → Prop) (step : St → σ → σ ⊕ ρ) (hP : ∀ s H B, P s H → P s (H ++ [B])) (hK : KOk P Kp) (n0 : Nat)
  (hstep : ∀ x s H, x.fine → G s → P s H → okV (W.call y [x.av] H) (fun v H' => yieldK Kp P Q (step x s) H v H' ∧ ∀ (k : Nat) (es : List AV), n0 ≤ k → H[k]? = some (.arr 0 1 false es) → H'[k]? = some (.arr 0 1 false es)))
  (l : Sl St) (hf : St.fines l.l) (hl : l.l.length ≤ 9223372036854775807) (b : Nat) (s : σ) (H : Heap) (hb : H[b]? = some (.arr 0 1 false [Sl.av St.av 8 l])) (hn : n0 ≤ H.length) (hg : runG G step (St.pres l.l) s) (hp : P s H) :
  okV (W.call (.clo 115 [] [.optr b 0 0 0]) [y] H) (fun v H' => v = .tuple [] ∧ Kp H H' ∧ match runS step (St.pres l.l) s with | .inl s' => P s' H' | .inr z => Q z H') := by
 rw [W_call Φ115]
 have hyc : ldCells false 1 y.cells = y := by rw [hy1]; rfl
 have a1 : ∀ B C, (H ++ [B, C])[H.length + 1]? = some C := fun B C => app2_1 H B C
 have a2 : ∀ B C, (H ++ [B, C])[b]? = some (.arr 0 1 false [Sl.av St.av 8 l]) := app2_get hb
 have a3 : ∀ B C D, (H ++ [B, C]).set (H.length + 1) D = H ++ [B, D] := app2_s1 H
 have p1 : P s (H ++ [Blk.arr 0 1 false [y]] ++ [Blk.arr 0 1 false [.clo 116 [] [.optr H.length 0 0 0, .optr (H.length + 1) 0 0 0]]]) := hP _ _ _ (hP _ _ _ hp)
 have p2 : (H ++ [Blk.arr 0 1 false [y]] ++ [Blk.arr 0 1 false [.clo 116 [] [.optr H.length 0 0 0, .optr (H.length + 1) 0 0 0]]])[H.length]? = some (.arr 0 1 false [y]) := app_get (app_last _ _) _
 have p3 : (H ++ [Blk.arr 0 1 false [y]] ++ [Blk.arr 0 1 false [.clo 116 [] [.optr H.length 0 0 0, .optr (H.length + 1) 0 0 0]]])[H.length + 1]? = some (.arr 0 1 false [.clo 116 [] [.optr H.length 0 0 0, .optr (H.length + 1) 0 0 0]]) := by
  simp
 have hv := visit116 y hy hyc H.length (H.length + 1) (fun s G => P s G ∧ G[H.length]? = some (.arr 0 1 false [y]) ∧ G[H.length + 1]? = some (.arr 0 1 false [.clo 116 [] [.optr H.length 0 0 0, .optr (H.length + 1) 0 0 0]])) Q G Kp step
  (by intro s G B h; exact ⟨hP _ _ _ h.1, app_get h.2.1 _, app_get h.2.2 _⟩) ⟨hK.refl, hK.trans, fun s G B h => hK.app s G B h.1, fun s G G' es h => hK.box s G G' es h.1⟩ (by intro s G h; exact h.2)
  (by
   intro x s G hx hs h
   obtain ⟨v, G', c1, c2, c3⟩ := okV_iff.1 (hstep x s G hx hs h.1)
   rw [c1]
   refine okV_iff.2 ⟨v, G', rfl, c2.1, ?_⟩
   have c4 := c2.2
   cases hs : step x s with
   | inl s' =>
    rw [hs] at c4
    exact ⟨c4.1, c4.2, c3 _ _ (by omega) h.2.1, c3 _ _ (by omega) h.2.2⟩
   | inr z =>
    rw [hs] at c4
    exact c4)
  _ l (Nat.le_refl _) hf hl s _ hg ⟨p1, p2, p3⟩
 obtain ⟨v, H', c1, c2, c3⟩ := okV_iff.1 hv
 have c5 : AV.nilf.cells = [AV.nilf] := rfl
 have c6 : AV.nilf.cell = true := rfl
 have c7 : ∀ v : AV, v.cell = true → v.cells = [v] → setElem [AV.nilf] 0 0 v = some [v] := fun v h1 h2 => by simp [setElem, h1, h2]
 have c8 := c7 (.clo 116 [] [.optr H.length 0 0 0, .optr (H.length + 1) 0 0 0]) rfl rfl
 have k1 : Kp H H' := hK.trans _ _ _ (hK.trans _ _ _ (hK.app _ _ _ hp) (hK.app _ _ _ (hP _ _ _ hp))) c2
 simp only [List.append_assoc, List.cons_append, List.nil_append] at c1
 have hvok : okO v = some v := by
  cases hrun : runS step (St.pres l.l) s <;> rw [hrun] at c3 <;> rw [c3.1] <;> rfl
 simp [fi115, c115, evFun, enterFr, intBin, resV, rvVs, rvV, hy, hy1, hy2, hb, c5, c6, c8, c1, hvok, a1, a2, a3, app_last, -getElem?_pos, gEz]
 refine ⟨k1, ?_⟩
 cases hrun : runS step (St.pres l.l) s with
 | inl s' => rw [hrun] at c3; exact c3.2.1
 | inr z => rw [hrun] at c3; exact c3.2
end Go.Proofs.YtddpboiceemihaaGreatDoor
end
section
namespace Go.Proofs.YtddpboiceemihaaGreatDoor
open Go Go.RowKit
set_option linter.unusedVariables false
set_option linter.unusedSimpArgs false
set_option maxRecDepth 10000
def stEx (k : Int) (e : Ex) : Int := if k = 14 ∧ exZero e = true then 0 else exI e
theorem loop159_1 (x : St) (hl : x.exprs.l.length ≤ 9223372036854775807) : ∀ (r : List Ex) (k : Nat) (H : Heap), x.exprs.l.drop k = r → k ≤ x.exprs.l.length → H[0]? = some (.arr 0 8 false [x.av]) →
  okC (W.loop [1, 10, 11, 12] l159_1 [(1, .optr 0 0 0 0), (10, Sl.av Ex.av 5 x.exprs), (11, I x.exprs.l.length), (12, I k)] H)
   (fun y F' H' => H'[0]? = some (.arr 0 8 false [x.av]) ∧ ((errOf (stEx x.kind) r = 0 ∧ y = .exit 0 ∧ F'.get 1 = .optr 0 0 0 0) ∨ (errOf (stEx x.kind) r ≠ 0 ∧ y = .ret ∧ F'.get 2 = I (errOf (stEx x.kind) r)))) := by
 intro r
 induction r with
 | nil =>
  intro k H h1 h2 h0
  have hk := drop_nil_len h1 h2
  rw [om_turn]
  simp [evl159_1, b159_1, intBin, hk, errOf, h0]
 | cons a r ihr =>
  intro k H h1 h2 h0
  obtain ⟨hlt, ha, hr⟩ := drop_cons h1
  have hlt' : (k : Int) < x.exprs.l.length := by omega
  have hak : x.exprs.l[k] = a := (gEs.1 ha).2
  have hw : IntKind.wrap .i64 ((k : Int) + 1) = (k : Int) + 1 := by rw [wrap64] <;> omega
  have p0 : ∀ B, (H ++ [B])[0]? = some (.arr 0 8 false [x.av]) := app_get h0
  have hJ := ihr (k + 1) (H ++ [.arr 0 5 false [a.av]]) hr (by omega) (p0 _)
  simp only [Int.natCast_add, Int.cast_ofNat_Int] at hJ
  have c1 := e121 a
  have c2 := e190 a
  rw [om_turn]
  simp only [errOf]
  by_cases hz : stEx x.kind a = 0
  ·rw [if_neg (by simpa using hz)]
   unfold stEx at hz
   by_cases h14 : x.kind = 14
   ·cases hza : exZero a with
    | true =>
     rw [hza] at c1
     simp [evl159_1, b159_1, intBin, hlt, hak, hw, p0, h14, c1, app_last, -getElem?_pos, gEz, ha]
     rw [h14] at hJ
     simpa using hJ
    | false =>
     rw [hza] at c1 hz
     simp only [h14, true_and, Bool.false_eq_true, if_false] at hz
     rw [hz] at c2
     simp [evl159_1, b159_1, intBin, hlt, hak, hw, p0, h14, c1, c2, app_last, -getElem?_pos, gEz, ha]
     rw [h14] at hJ
     simpa using hJ
   ·simp only [h14, false_and, if_false] at hz
    rw [hz] at c2
    simp [evl159_1, b159_1, intBin, hlt, hak, hw, p0, h14, c2, app_last, -getElem?_pos, gEz, ha]
    simpa using hJ
  ·rw [if_pos (by simpa using hz)]
   have hz2 : stEx x.kind a = exI a := by
    unfold stEx at *
    split at hz
    ·exact absurd rfl hz
    ·rename_i h; rw [if_neg h]
   have hz3 : ¬ (x.kind = 14 ∧ exZero a = true) := by
    intro h; unfold stEx at hz; rw [if_pos h] at hz; exact hz rfl
   rw [hz2] at hz ⊢
   by_cases h14 : x.kind = 14
   ·have hza : exZero a = false := by
     cases h : exZero a with
     | true => exact absurd ⟨h14, h⟩ hz3
     | false => rfl
    rw [hza] at c1
    simp [evl159_1, b159_1, intBin, hlt, hak, hw, p0, h14, c1, c2, hz, app_last, -getElem?_pos, gEz, ha]
   ·simp [evl159_1, b159_1, intBin, hlt, hak, hw, p0, h14, c2, hz, app_last, -getElem?_pos, gEz, ha]
def csEx (c : Cs) : Int := if c.kind = 1 then exI c.expr else 0
theorem loop159_0 (x : St) (hl : x.cs.l.length ≤ 9223372036854775807) : ∀ (r : List Cs) (k : Nat) (H : Heap), x.cs.l.drop k = r → k ≤ x.cs.l.length → H[0]? = some (.arr 0 8 false [x.av]) →
  okC (W.loop [1, 30, 31, 32] l159_0 [(1, .optr 0 0 0 0), (30, Sl.av Cs.av 9 x.cs), (31, I x.cs.l.length), (32, I k)] H)
   (fun y F' H' => H'[0]? = some (.arr 0 8 false [x.av]) ∧ ((errOf csEx r = 0 ∧ y = .exit 2 ∧ F'.get 1 = .optr 0 0 0 0) ∨ (errOf csEx r ≠ 0 ∧ y = .ret ∧ F'.get 2 = I (errOf csEx r)))) := by
 intro r
 induction r with
 | nil =>
  intro k H h1 h2 h0
  have hk := drop_nil_len h1 h2
  rw [om_turn]
  simp [evl159_0, b159_0, intBin, hk, errOf, h0]
 | cons a r ihr =>
  intro k H h1 h2 h0
  obtain ⟨hlt, ha, hr⟩ := drop_cons h1
  have hlt' : (k : Int) < x.cs.l.length := by omega
  have hak : x.cs.l[k] = a := (gEs.1 ha).2
  have hw : IntKind.wrap .i64 ((k : Int) + 1) = (k : Int) + 1 := by rw [wrap64] <;> omega
  have p0 : ∀ B, (H ++ [B])[0]? = some (.arr 0 8 false [x.av]) := app_get h0
  have hJ := ihr (k + 1) (H ++ [.arr 0 9 false [a.av]]) hr (by omega) (p0 _)
  simp only [Int.natCast_add, Int.cast_ofNat_Int] at hJ
  have c2 := e190 a.expr
  rw [om_turn]
  simp only [errOf]
  by_cases h1 : a.kind = 1
  ·have e : csEx a = exI a.expr := by unfold csEx; rw [if_pos h1]
   rw [e]
   by_cases hz : exI a.expr = 0
   ·rw [if_neg (by simpa using hz)]
    rw [hz] at c2
    simp [evl159_0, b159_0, intBin, hlt, hak, hw, p0, h1, c2, app_last, -getElem?_pos, gEz, ha]
    simpa using hJ
   ·rw [if_pos (by simpa using hz)]
    simp [evl159_0, b159_0, intBin, hlt, hak, hw, p0, h1, c2, hz, app_last, -getElem?_pos, gEz, ha]
  ·have e : csEx a = 0 := by unfold csEx; rw [if_neg h1]
   rw [e]
   simp [evl159_0, b159_0, intBin, hlt, hak, hw, p0, h1, app_last, -getElem?_pos, gEz, ha]
   simpa using hJ
def exsI (x : St) : Int := if errOf (stEx x.kind) x.exprs.l ≠ 0 then errOf (stEx x.kind) x.exprs.l else if errOf csEx x.cs.l ≠ 0 then errOf csEx x.cs.l
 else if x.kind = 23 ∧ ((x.exprs.l.head?).map Ex.kind) ≠ some 1 then 1 else 0
theorem e159 (x : St) (hl : x.exprs.l.length ≤ 9223372036854775807) (hl2 : x.cs.l.length ≤ 9223372036854775807) (hb : x.kind = 23 → x.exprs.l ≠ []) : W.pure 159 [x.av] = some (I (exsI x)) := by
 rw [W_pure Φ159 (by simp)]
 obtain ⟨y, F, H, d1, d2, d3⟩ := okC_iff.1 (loop159_1 x hl x.exprs.l 0 [.arr 0 8 false [x.av]] rfl (by omega) rfl)
 simp only [Int.natCast_zero] at d1
 unfold exsI
 rcases d3 with ⟨d3, rfl, d4⟩ | ⟨d3, rfl, d4⟩
 ·rw [if_neg (by simpa using d3)]
  obtain ⟨y, F', H', f1, f2, f3⟩ := okC_iff.1 (loop159_0 x hl2 x.cs.l 0 H rfl (by omega) d2)
  simp only [Int.natCast_zero] at f1
  rcases f3 with ⟨f3, rfl, f4⟩ | ⟨f3, rfl, f4⟩
  ·rw [if_neg (by simpa using f3)]
   by_cases h23 : x.kind = 23
   ·obtain ⟨a, r, har⟩ : ∃ a r, x.exprs.l = a :: r := by
     cases h : x.exprs.l with
     | nil => exact absurd h (hb h23)
     | cons a r => exact ⟨a, r, rfl⟩
    have h0 : x.exprs.l[0]? = some a := by rw [har]; rfl
    have hh : x.exprs.l.head? = some a := by rw [har]; rfl
    clear har
    by_cases ha : a.kind = 1
    ·simp [fi159, c159, evFun, enterFr, intBin, resV, rvVs, rvV, d1, d2, d4, f1, f2, f4, h23, h0, hh, ha, -getElem?_pos, gEz]
    ·simp [fi159, c159, evFun, enterFr, intBin, resV, rvVs, rvV, d1, d2, d4, f1, f2, f4, h23, h0, hh, ha, -getElem?_pos, gEz]
   ·simp [fi159, c159, evFun, enterFr, intBin, resV, rvVs, rvV, d1, d2, d4, f1, f2, f4, h23, -getElem?_pos, gEz]
  ·rw [if_pos (by simpa using f3)]
   simp [fi159, c159, evFun, enterFr, intBin, resV, rvVs, rvV, d1, d2, d4, f1, f2, f4, -getElem?_pos, gEz]
 ·rw [if_pos (by simpa using d3)]
  simp [fi159, c159, evFun, enterFr, intBin, resV, rvVs, rvV, d1, d2, d4, -getElem?_pos, gEz]
theorem call156 (c : Cs) (H : Heap) : W.call (.clo 156 [] []) [c.av] H = some (.bool (!decide (1 ≤ c.kind ∧ c.kind ≤ 3)), H ++ [.arr 0 9 false [c.av]]) := by
 rw [W_call Φ156]
 have e1 := e111 c.kind 1 3
 by_cases h1 : 1 ≤ c.kind <;> by_cases h2 : c.kind ≤ 3 <;> simp [h1, h2] at e1 <;> simp [fi156, c156, evFun, enterFr, intBin, resV, rvVs, rvV, e1, h1, h2, app_last, -getElem?_pos, gEz]
def defs (l : List Cs) : Nat := l.foldl (fun n c => if c.kind = 3 then n + 1 else n) 0
theorem loop113 (x : St) (hl : x.cs.l.length ≤ 9223372036854775807) :
  ∀ (r : List Cs) (k n : Nat) (H : Heap), x.cs.l.drop k = r → k ≤ x.cs.l.length → n ≤ k → H[0]? = some (.arr 0 8 false [x.av]) →
  okC (W.loop [1, 6, 31, 32, 33] l113_0 [(1, .optr 0 0 0 0), (6, I n), (31, Sl.av Cs.av 9 x.cs), (32, I x.cs.l.length), (33, I k)] H)
   (fun y F' H' => H'[0]? = some (.arr 0 8 false [x.av]) ∧ y = .exit 0 ∧ F'.get 1 = .optr 0 0 0 0 ∧ F'.get 6 = I (r.foldl (fun n c => if c.kind = 3 then n + 1 else n) n : Nat)) := by
 intro r
 induction r with
 | nil =>
  intro k n H h1 h2 h3 h4
  have hk := drop_nil_len h1 h2
  rw [om_turn]
  simp [evl113_0, b113_0, intBin, hk, h4]
 | cons a r ihr =>
  intro k n H h1 h2 h3 h4
  obtain ⟨hlt, ha, hr⟩ := drop_cons h1
  have hlt' : (k : Int) < x.cs.l.length := by omega
  have hak : x.cs.l[k] = a := (gEs.1 ha).2
  have hw : IntKind.wrap .i64 ((k : Int) + 1) = (k : Int) + 1 := by rw [wrap64] <;> omega
  have hw2 : IntKind.wrap .i64 ((n : Int) + 1) = (n : Int) + 1 := by rw [wrap64] <;> omega
  have p0 : ∀ B, (H ++ [B])[0]? = some (.arr 0 8 false [x.av]) := app_get h4
  rw [om_turn]
  by_cases h3' : a.kind = 3
  ·have hJ := ihr (k + 1) (n + 1) (H ++ [.arr 0 9 false [a.av]]) hr (by omega) (by omega) (p0 _)
   simp only [Int.natCast_add, Int.cast_ofNat_Int] at hJ
   simp [evl113_0, b113_0, intBin, hlt, hak, hw, hw2, p0, h3', app_last, -getElem?_pos, gEz, ha]
   simpa using hJ
  ·have hJ := ihr (k + 1) n (H ++ [.arr 0 9 false [a.av]]) hr (by omega) (by omega) (p0 _)
   simp only [Int.natCast_add, Int.cast_ofNat_Int] at hJ
   simp [evl113_0, b113_0, intBin, hlt, hak, hw, p0, h3', app_last, -getElem?_pos, gEz, ha]
   simpa using hJ
def stCheck (x : St) : Int :=
 if (shpOf x.kind x.op).2 = false ∨ (x.cs.l.all fun c => decide (1 ≤ c.kind ∧ c.kind ≤ 3)) = false then 8
 else if fldB x (shpOf x.kind x.op).1 = false then 1
 else if namB x (shpOf x.kind x.op).1 = false then 5
 else if 1 < defs x.cs.l then 6
 else exsI x
theorem zShp : (.agg [I 0, I 0, I 0, I 0, I 0, .bool false, .bool false, .bool false, .bool false] : AV) = shZ.av := rfl
theorem fld_begin {x : St} (h : fldB x (shpOf x.kind x.op).1 = true) (hk : x.kind = 23) : x.exprs.l ≠ [] := by
 intro e
 have h1 : (shpOf x.kind x.op).1 = ⟨0, 0, 0, 2, 2, false, false, false, false⟩ := by rw [hk]; rfl
 rw [h1] at h
 simp [fldB, e] at h
theorem e113 (x : St) (hf : x.fine) : W.pure 113 [x.av] = some (I (stCheck x)) := by
 rw [W_pure Φ113 (by simp)]
 rw [St.fine_eq] at hf
 obtain ⟨f1, f2, f3, f4, f5, f6, f7, f8⟩ := hf
 have c1 := e155 x
 obtain ⟨v, H1, d1, rfl, d2⟩ := okV_iff.1 (any109 x.cs (by omega) (.clo 156 [] []) rfl (fun c => !decide (1 ≤ c.kind ∧ c.kind ≤ 3)) [.arr 0 8 false [x.av], .arr 0 9 false [(shpOf x.kind x.op).1.av]]
  (fun a _ H _ => by rw [call156]; exact ⟨rfl, Kept.append _ _ _⟩))
 rw [any_not] at d1
 have g0 : H1[0]? = some (.arr 0 8 false [x.av]) := d2.get (by simp) rfl
 have g1 : H1[1]? = some (.arr 0 9 false [(shpOf x.kind x.op).1.av]) := d2.get (by simp) rfl
 have c2 := e157 x (shpOf x.kind x.op).1 f5
 have c3 := e158 x (shpOf x.kind x.op).1 (by omega) (by omega) (fun c hc => by have := Cs.fines_mem f8 hc; rw [Cs.fine_eq] at this; omega)
 obtain ⟨y, F, H2, l1, l2, rfl, l3, l4⟩ := okC_iff.1 (loop113 x f5 x.cs.l 0 0 H1 rfl (by omega) (by omega) g0)
 have hdef : x.cs.l.foldl (fun n c => if c.kind = 3 then n + 1 else n) 0 = defs x.cs.l := rfl
 rw [hdef] at l4
 simp only [Int.natCast_zero] at l1
 have hb := @fld_begin x
 unfold stCheck
 generalize (shpOf x.kind x.op).2 = b at *
 generalize (shpOf x.kind x.op).1 = s at *
 generalize (x.cs.l.all fun c => decide (1 ≤ c.kind ∧ c.kind ≤ 3)) = q at *
 cases b with
 | false => simp [fi113, c113, evFun, enterFr, intBin, resV, rvVs, rvV, c1, d1, -getElem?_pos, gEz]
 | true =>
 cases q with
 | false => simp [fi113, c113, evFun, enterFr, intBin, resV, rvVs, rvV, c1, d1, -getElem?_pos, gEz]
 | true =>
 simp only [Bool.not_true] at d1
 cases hq : fldB x s with
 | false =>
  rw [hq] at c2
  simp [fi113, c113, evFun, enterFr, intBin, resV, rvVs, rvV, c1, d1, g0, g1, c2, -getElem?_pos, gEz]
 | true =>
 rw [hq] at c2
 have c4 := e159 x f1 f5 (hb hq)
 cases hn : namB x s with
 | false =>
  rw [hn] at c3
  simp [fi113, c113, evFun, enterFr, intBin, resV, rvVs, rvV, c1, d1, g0, g1, c2, c3, -getElem?_pos, gEz]
 | true =>
 rw [hn] at c3
 by_cases hd : 1 < defs x.cs.l
 ·have hd' : (1 : Int) < (defs x.cs.l : Nat) := by omega
  simp [fi113, c113, evFun, enterFr, intBin, resV, rvVs, rvV, c1, d1, g0, g1, c2, c3, l1, l2, l3, l4, hd, hd', -getElem?_pos, gEz]
 ·have hd' : ¬ (1 : Int) < (defs x.cs.l : Nat) := by omega
  simp [fi113, c113, evFun, enterFr, intBin, resV, rvVs, rvV, c1, d1, g0, g1, c2, c3, l1, l2, l3, l4, hd, hd', c4, -getElem?_pos, gEz]
end Go.Proofs.YtddpboiceemihaaGreatDoor
end
section
namespace Go.Proofs.YtddpboiceemihaaGreatDoor
open Go Go.RowKit
set_option linter.unusedVariables false
set_option linter.unusedSimpArgs false
set_option maxRecDepth 10000
def dcLim (k : Int) : Option (Int × Int × Int × Bool) :=
 if k = 101 ∨ k = 102 then some (-1099511627776, 1099511627776, 0, false)
 else if k = 1 ∨ k = 2 ∨ k = 9 then some (0, 0, 0, false)
 else if k = 3 then some (0, 0, 0, true)
 else if k = 4 then some (0, 1099511627776, 1, false)
 else if k = 5 ∨ k = 6 ∨ k = 7 then some (0, 1099511627776, 0, false)
 else if k = 8 then some (0, 1099511627776, 1099511627776, false)
 else none
def dcCheck (d : Dc) : Int :=
 match dcLim d.kind with
 | none => 8
 | some (lo, hi, b, two) =>
  if ((hi = 0 ∧ ¬ d.a = 0) ∨ (b = 0 ∧ ¬ d.b = 0)) ∨ (two = false ∧ ¬ d.name2 = []) then 1
  else if nameB d.name = false ∨ (two = true ∧ nameB d.name2 = false) then 5
  else if (d.a < lo ∨ hi < d.a) ∨ d.b < 0 ∨ b < d.b then 2
  else 0
theorem e73_101 (d : Dc) (h : d.kind = 101) : W.pure 73 [d.av] = some (I (dcCheck d)) := by
 rw [W_pure Φ73 (by simp)]
 have c1 := e110 d.name
 have c2 := e110 d.name2
 have c3 := e111 d.a (-1099511627776) 1099511627776
 have c4 := e111 d.b 0 0
 have h0 : dcLim d.kind = some (-1099511627776, 1099511627776, 0, false) := by rw [h]; rfl
 unfold dcCheck
 rw [h0]
 have y := eq_true h
 clear h
 simp [fi73, c73, evFun, enterFr, intBin, resV, rvVs, rvV, strBin, y, c1, c2, c3, c4]
theorem e73_102 (d : Dc) (h : d.kind = 102) : W.pure 73 [d.av] = some (I (dcCheck d)) := by
 rw [W_pure Φ73 (by simp)]
 have c1 := e110 d.name
 have c2 := e110 d.name2
 have c3 := e111 d.a (-1099511627776) 1099511627776
 have c4 := e111 d.b 0 0
 have h0 : dcLim d.kind = some (-1099511627776, 1099511627776, 0, false) := by rw [h]; rfl
 unfold dcCheck
 rw [h0]
 have y := eq_true h
 have n0 : ¬ d.kind = 101 := by omega
 clear h
 simp [fi73, c73, evFun, enterFr, intBin, resV, rvVs, rvV, strBin, y, n0, c1, c2, c3, c4]
theorem e73_1 (d : Dc) (h : d.kind = 1) : W.pure 73 [d.av] = some (I (dcCheck d)) := by
 rw [W_pure Φ73 (by simp)]
 have c1 := e110 d.name
 have c2 := e110 d.name2
 have c3 := e111 d.a (0) 0
 have c4 := e111 d.b 0 0
 have h0 : dcLim d.kind = some (0, 0, 0, false) := by rw [h]; rfl
 unfold dcCheck
 rw [h0]
 have y := eq_true h
 have n0 : ¬ d.kind = 101 := by omega
 have n1 : ¬ d.kind = 102 := by omega
 clear h
 simp [fi73, c73, evFun, enterFr, intBin, resV, rvVs, rvV, strBin, y, n0, n1, c1, c2, c3, c4]
theorem e73_2 (d : Dc) (h : d.kind = 2) : W.pure 73 [d.av] = some (I (dcCheck d)) := by
 rw [W_pure Φ73 (by simp)]
 have c1 := e110 d.name
 have c2 := e110 d.name2
 have c3 := e111 d.a (0) 0
 have c4 := e111 d.b 0 0
 have h0 : dcLim d.kind = some (0, 0, 0, false) := by rw [h]; rfl
 unfold dcCheck
 rw [h0]
 have y := eq_true h
 have n0 : ¬ d.kind = 101 := by omega
 have n1 : ¬ d.kind = 102 := by omega
 have n2 : ¬ d.kind = 1 := by omega
 clear h
 simp [fi73, c73, evFun, enterFr, intBin, resV, rvVs, rvV, strBin, y, n0, n1, n2, c1, c2, c3, c4]
theorem e73_9 (d : Dc) (h : d.kind = 9) : W.pure 73 [d.av] = some (I (dcCheck d)) := by
 rw [W_pure Φ73 (by simp)]
 have c1 := e110 d.name
 have c2 := e110 d.name2
 have c3 := e111 d.a (0) 0
 have c4 := e111 d.b 0 0
 have h0 : dcLim d.kind = some (0, 0, 0, false) := by rw [h]; rfl
 unfold dcCheck
 rw [h0]
 have y := eq_true h
 have n0 : ¬ d.kind = 101 := by omega
 have n1 : ¬ d.kind = 102 := by omega
 have n2 : ¬ d.kind = 1 := by omega
 have n3 : ¬ d.kind = 2 := by omega
 clear h
 simp [fi73, c73, evFun, enterFr, intBin, resV, rvVs, rvV, strBin, y, n0, n1, n2, n3, c1, c2, c3, c4]
theorem e73_3 (d : Dc) (h : d.kind = 3) : W.pure 73 [d.av] = some (I (dcCheck d)) := by
 rw [W_pure Φ73 (by simp)]
 have c1 := e110 d.name
 have c2 := e110 d.name2
 have c3 := e111 d.a (0) 0
 have c4 := e111 d.b 0 0
 have h0 : dcLim d.kind = some (0, 0, 0, true) := by rw [h]; rfl
 unfold dcCheck
 rw [h0]
 have y := eq_true h
 have n0 : ¬ d.kind = 101 := by omega
 have n1 : ¬ d.kind = 102 := by omega
 have n2 : ¬ d.kind = 1 := by omega
 have n3 : ¬ d.kind = 2 := by omega
 have n4 : ¬ d.kind = 9 := by omega
 clear h
 simp [fi73, c73, evFun, enterFr, intBin, resV, rvVs, rvV, strBin, y, n0, n1, n2, n3, n4, c1, c2, c3, c4]
theorem e73_4 (d : Dc) (h : d.kind = 4) : W.pure 73 [d.av] = some (I (dcCheck d)) := by
 rw [W_pure Φ73 (by simp)]
 have c1 := e110 d.name
 have c2 := e110 d.name2
 have c3 := e111 d.a (0) 1099511627776
 have c4 := e111 d.b 0 1
 have h0 : dcLim d.kind = some (0, 1099511627776, 1, false) := by rw [h]; rfl
 unfold dcCheck
 rw [h0]
 have y := eq_true h
 have n0 : ¬ d.kind = 101 := by omega
 have n1 : ¬ d.kind = 102 := by omega
 have n2 : ¬ d.kind = 1 := by omega
 have n3 : ¬ d.kind = 2 := by omega
 have n4 : ¬ d.kind = 9 := by omega
 have n5 : ¬ d.kind = 3 := by omega
 clear h
 simp [fi73, c73, evFun, enterFr, intBin, resV, rvVs, rvV, strBin, y, n0, n1, n2, n3, n4, n5, c1, c2, c3, c4]
theorem e73_5 (d : Dc) (h : d.kind = 5) : W.pure 73 [d.av] = some (I (dcCheck d)) := by
 rw [W_pure Φ73 (by simp)]
 have c1 := e110 d.name
 have c2 := e110 d.name2
 have c3 := e111 d.a (0) 1099511627776
 have c4 := e111 d.b 0 0
 have h0 : dcLim d.kind = some (0, 1099511627776, 0, false) := by rw [h]; rfl
 unfold dcCheck
 rw [h0]
 have y := eq_true h
 have n0 : ¬ d.kind = 101 := by omega
 have n1 : ¬ d.kind = 102 := by omega
 have n2 : ¬ d.kind = 1 := by omega
 have n3 : ¬ d.kind = 2 := by omega
 have n4 : ¬ d.kind = 9 := by omega
 have n5 : ¬ d.kind = 3 := by omega
 have n6 : ¬ d.kind = 4 := by omega
 clear h
 simp [fi73, c73, evFun, enterFr, intBin, resV, rvVs, rvV, strBin, y, n0, n1, n2, n3, n4, n5, n6, c1, c2, c3, c4]
theorem e73_6 (d : Dc) (h : d.kind = 6) : W.pure 73 [d.av] = some (I (dcCheck d)) := by
 rw [W_pure Φ73 (by simp)]
 have c1 := e110 d.name
 have c2 := e110 d.name2
 have c3 := e111 d.a (0) 1099511627776
 have c4 := e111 d.b 0 0
 have h0 : dcLim d.kind = some (0, 1099511627776, 0, false) := by rw [h]; rfl
 unfold dcCheck
 rw [h0]
 have y := eq_true h
 have n0 : ¬ d.kind = 101 := by omega
 have n1 : ¬ d.kind = 102 := by omega
 have n2 : ¬ d.kind = 1 := by omega
 have n3 : ¬ d.kind = 2 := by omega
 have n4 : ¬ d.kind = 9 := by omega
 have n5 : ¬ d.kind = 3 := by omega
 have n6 : ¬ d.kind = 4 := by omega
 have n7 : ¬ d.kind = 5 := by omega
 clear h
 simp [fi73, c73, evFun, enterFr, intBin, resV, rvVs, rvV, strBin, y, n0, n1, n2, n3, n4, n5, n6, n7, c1, c2, c3, c4]
theorem e73_7 (d : Dc) (h : d.kind = 7) : W.pure 73 [d.av] = some (I (dcCheck d)) := by
 rw [W_pure Φ73 (by simp)]
 have c1 := e110 d.name
 have c2 := e110 d.name2
 have c3 := e111 d.a (0) 1099511627776
 have c4 := e111 d.b 0 0
 have h0 : dcLim d.kind = some (0, 1099511627776, 0, false) := by rw [h]; rfl
 unfold dcCheck
 rw [h0]
 have y := eq_true h
 have n0 : ¬ d.kind = 101 := by omega
 have n1 : ¬ d.kind = 102 := by omega
 have n2 : ¬ d.kind = 1 := by omega
 have n3 : ¬ d.kind = 2 := by omega
 have n4 : ¬ d.kind = 9 := by omega
 have n5 : ¬ d.kind = 3 := by omega
 have n6 : ¬ d.kind = 4 := by omega
 have n7 : ¬ d.kind = 5 := by omega
 have n8 : ¬ d.kind = 6 := by omega
 clear h
 simp [fi73, c73, evFun, enterFr, intBin, resV, rvVs, rvV, strBin, y, n0, n1, n2, n3, n4, n5, n6, n7, n8, c1, c2, c3, c4]
theorem e73_8 (d : Dc) (h : d.kind = 8) : W.pure 73 [d.av] = some (I (dcCheck d)) := by
 rw [W_pure Φ73 (by simp)]
 have c1 := e110 d.name
 have c2 := e110 d.name2
 have c3 := e111 d.a (0) 1099511627776
 have c4 := e111 d.b 0 1099511627776
 have h0 : dcLim d.kind = some (0, 1099511627776, 1099511627776, false) := by rw [h]; rfl
 unfold dcCheck
 rw [h0]
 have y := eq_true h
 have n0 : ¬ d.kind = 101 := by omega
 have n1 : ¬ d.kind = 102 := by omega
 have n2 : ¬ d.kind = 1 := by omega
 have n3 : ¬ d.kind = 2 := by omega
 have n4 : ¬ d.kind = 9 := by omega
 have n5 : ¬ d.kind = 3 := by omega
 have n6 : ¬ d.kind = 4 := by omega
 have n7 : ¬ d.kind = 5 := by omega
 have n8 : ¬ d.kind = 6 := by omega
 have n9 : ¬ d.kind = 7 := by omega
 clear h
 simp [fi73, c73, evFun, enterFr, intBin, resV, rvVs, rvV, strBin, y, n0, n1, n2, n3, n4, n5, n6, n7, n8, n9, c1, c2, c3, c4]
theorem e73 (d : Dc) : W.pure 73 [d.av] = some (I (dcCheck d)) := by
 by_cases h101 : d.kind = 101
 ·exact e73_101 d h101
 by_cases h102 : d.kind = 102
 ·exact e73_102 d h102
 by_cases h1 : d.kind = 1
 ·exact e73_1 d h1
 by_cases h2 : d.kind = 2
 ·exact e73_2 d h2
 by_cases h9 : d.kind = 9
 ·exact e73_9 d h9
 by_cases h3 : d.kind = 3
 ·exact e73_3 d h3
 by_cases h4 : d.kind = 4
 ·exact e73_4 d h4
 by_cases h5 : d.kind = 5
 ·exact e73_5 d h5
 by_cases h6 : d.kind = 6
 ·exact e73_6 d h6
 by_cases h7 : d.kind = 7
 ·exact e73_7 d h7
 by_cases h8 : d.kind = 8
 ·exact e73_8 d h8
 rw [W_pure Φ73 (by simp)]
 have h0 : dcLim d.kind = none := by
  unfold dcLim
  rw [if_neg (by omega), if_neg (by omega), if_neg (by omega), if_neg (by omega), if_neg (by omega), if_neg (by omega)]
 unfold dcCheck
 rw [h0]
 simp [fi73, c73, evFun, enterFr, intBin, resV, rvVs, rvV, h101, h102, h1, h2, h9, h3, h4, h5, h6, h7, h8]
end Go.Proofs.YtddpboiceemihaaGreatDoor
end
section
namespace Go.Proofs.YtddpboiceemihaaGreatDoor
open Go Go.RowKit
set_option linter.unusedVariables false
set_option linter.unusedSimpArgs false
set_option maxRecDepth 10000
theorem runG_true {α σ ρ : Type} (step : α → σ → σ ⊕ ρ) : ∀ (l : List α) (s : σ), runG (fun _ => True) step l s
 | [], s => trivial
 | a :: r, s => ⟨trivial, by cases step a s with | inl s' => exact runG_true step r s' | inr x => trivial⟩
theorem call112 (s : List UInt8) (H : Heap) : W.call (.clo 112 [] []) [.str s] H = some (.bool (!nameB s), H) := by
 rw [W_call Φ112]
 have e1 := e110 s
 cases h : nameB s <;> rw [h] at e1 <;> simp [fi112, c112, evFun, enterFr, intBin, resV, rvVs, rvV, e1]
def prCheck (p : Pr) : Int :=
 if p.kind < 1 ∨ 3 < p.kind then 8
 else if nameB p.name = false then 5
 else if 8 < p.params.l.length then 4
 else if p.params.l.all nameB = false then 5
 else if (p.priority < 0 ∨ 9 < p.priority) ∨ ¬ p.kind = 1 ∧ ¬ p.priority = 0 then 2
 else errOf stCheck (St.pres p.body.l)
def K74 (st : LoopState) (pe : Option LX) : Blk := .loop st pe [(2, .optr 1 0 0 0)] [37] ra74_0 rb74_0
def P74 (id : Nat) (_ : Unit) (H : Heap) : Prop := H[id]? = some (K74 .ready none) ∧ H[1]? = some (.arr 0 1 false [I 0])
def Q74 (id : Nat) (c : Int) (H : Heap) : Prop := H[id]? = some (K74 .done (some .ret)) ∧ H[1]? = some (.arr 0 1 false [I c])
theorem round74 (id : Nat) (hid : 1 < id) (x : St) (hx : x.fine) (H : Heap) (h : P74 id () H) :
  okV (W.call (.yld id) [x.av] H) (fun v H' => yieldK (KeptN 8) (P74 id) (Q74 id) (if stCheck x ≠ 0 then .inr (stCheck x) else .inl ()) H v H' ∧ ∀ (k : Nat) (es : List AV), id + 1 ≤ k → H[k]? = some (.arr 0 1 false es) → H'[k]? = some (.arr 0 1 false es)) := by
 obtain ⟨h1, h2⟩ := h
 have hl := (gEs.1 h1).1
 rw [W_yld, evRound_open h1 rfl]
 have e1 := e113 x hx
 have a1 : (H ++ [Blk.arr 0 8 false [x.av]])[id]? = some (K74 .ready none) := app_get h1 _
 have a2 : (H ++ [Blk.arr 0 8 false [x.av]])[H.length]? = some (.arr 0 8 false [x.av]) := app_last _ _
 have a3 : (H ++ [Blk.arr 0 8 false [x.av]])[1]? = some (.arr 0 1 false [I 0]) := app_get h2 _
 have b1 : ∀ B, ((H ++ [Blk.arr 0 8 false [x.av]]).set id B)[id]? = some B := fun B => gEt (by simp; omega)
 have b2 : ∀ B, ((H ++ [Blk.arr 0 8 false [x.av]]).set id B)[H.length]? = some (.arr 0 8 false [x.av]) := fun B => by rw [gEn (by omega)]; exact a2
 have b3 : ∀ B, ((H ++ [Blk.arr 0 8 false [x.av]]).set id B)[1]? = some (.arr 0 1 false [I 0]) := fun B => by rw [gEn (by omega)]; exact a3
 have c1 : ∀ B C, (((H ++ [Blk.arr 0 8 false [x.av]]).set id B).set 1 C)[id]? = some B := fun B C => by rw [gEn (by omega)]; exact b1 B
 have k0 : KeptN 8 H (H ++ [Blk.arr 0 8 false [x.av]]) := KeptN.append _ _ _
 have t1 : ∀ (k : Nat) (B : Blk) (C : Blk), id + 1 ≤ k → H[k]? = some B → ((H ++ [Blk.arr 0 8 false [x.av]]).set id C)[k]? = some B := fun k B C hk hB => by rw [gEn (by omega)]; exact app_get hB _
 have t2 : ∀ (k : Nat) (B : Blk) (C D E : Blk), id + 1 ≤ k → H[k]? = some B → ((((H ++ [Blk.arr 0 8 false [x.av]]).set id C).set 1 D).set id E)[k]? = some B := fun k B C D E hk hB => by
  rw [gEn (by omega), gEn (by omega)]; exact t1 k B C hk hB
 simp only [K74] at *
 by_cases hz : stCheck x = 0
 ·simp only [hz, ne_eq, not_true_eq_false, if_false]
  simp [putAll, evra74_0, xra74_0, evrb74_0, xrb74_0, intBin, a1, a2, b1, b2, b3, e1, hz, app_last, -getElem?_pos, gEz, -List.append_assoc]
  refine ⟨⟨k0.trans (KeptN.set a1 (by intro es e; cases e)), rfl, gEt (by simp; omega), ?_⟩, fun k es hk hB => t1 k _ _ hk hB⟩
  rw [gEn (by omega)]; exact a3
 ·simp only [hz, ne_eq, not_false_eq_true, if_true]
  simp [putAll, evra74_0, xra74_0, evrb74_0, xrb74_0, intBin, a1, a2, b1, b2, b3, c1, e1, hz, app_last, -getElem?_pos, gEz, -List.append_assoc]
  refine ⟨⟨?_, rfl, gEt (by simp; omega), ?_⟩, fun k es hk hB => t2 k _ _ _ _ hk hB⟩
  ·refine (k0.trans (KeptN.set a1 (by intro es e; cases e))).trans ((KeptN.set (b3 _) (by intro es e; cases e)).trans (KeptN.set (c1 _ _) (by intro es e; cases e)))
  ·rw [gEn (by omega), gEt (by simp; omega)]
theorem e74 (p : Pr) (hf : p.fine) : W.pure 74 [p.av] = some (I (prCheck p)) := by
 rw [W_pure Φ74 (by simp)]
 obtain ⟨f1, f2, f3⟩ := hf
 have c1 := e111 p.kind 1 3
 have c2 := e110 p.name
 have c3 := e111 p.priority 0 9
 obtain ⟨v, H1, d1, rfl, d2⟩ := okV_iff.1 (any37 p.params (by omega) (.clo 112 [] []) rfl (fun s => !nameB s) [.arr 0 5 false [p.av], .arr 0 1 false [I 0]] (fun a _ H _ => by rw [call112]; exact ⟨rfl, Kept.refl _ _⟩))
 rw [any_not] at d1
 have g0 : H1[0]? = some (.arr 0 5 false [p.av]) := d2.get (by simp) rfl
 have g1 : H1[1]? = some (.arr 0 1 false [I 0]) := d2.get (by simp) rfl
 have hl1 : 2 ≤ H1.length := d2.1
 unfold prCheck
 by_cases z1 : p.kind < 1 ∨ 3 < p.kind
 ·have z1' : ¬ (1 ≤ p.kind ∧ p.kind ≤ 3) := by omega
  rw [if_pos z1]
  rw [decide_eq_false z1'] at c1
  simp [fi74, c74, evFun, enterFr, intBin, resV, rvVs, rvV, c1, -getElem?_pos, gEz]
 rw [if_neg z1]
 have z1' : 1 ≤ p.kind ∧ p.kind ≤ 3 := by omega
 rw [decide_eq_true z1'] at c1
 clear z1 z1'
 cases z2 : nameB p.name with
 | false =>
  rw [z2] at c2
  simp [fi74, c74, evFun, enterFr, intBin, resV, rvVs, rvV, c1, c2, -getElem?_pos, gEz]
 | true =>
 rw [z2] at c2
 rw [if_neg (by simp)]
 by_cases z3 : 8 < p.params.l.length
 ·have z3' : (8 : Int) < p.params.l.length := by omega
  rw [if_pos z3]
  simp [fi74, c74, evFun, enterFr, intBin, resV, rvVs, rvV, c1, c2, z3', -getElem?_pos, gEz]
 have z3' : ¬ (8 : Int) < p.params.l.length := by omega
 rw [if_neg z3]
 clear z3
 cases z4 : p.params.l.all nameB with
 | false =>
  rw [z4] at d1
  simp only [Bool.not_false] at d1
  have hs1 : ∀ B, (H1.set 1 B)[1]? = some B := fun B => gEt (by omega)
  simp [fi74, c74, evFun, enterFr, intBin, resV, rvVs, rvV, c1, c2, z3', d1, g0, g1, hs1, -getElem?_pos, gEz]
 | true =>
 rw [z4] at d1
 simp only [Bool.not_true] at d1
 rw [if_neg (by simp)]
 have hs1 : ∀ B, (H1.set 1 B)[1]? = some B := fun B => gEt (by omega)
 by_cases z5 : (p.priority < 0 ∨ 9 < p.priority) ∨ ¬ p.kind = 1 ∧ ¬ p.priority = 0
 ·rw [if_pos z5]
  simp [fi74, c74, evFun, enterFr, intBin, resV, rvVs, rvV, c1, c2, c3, z3', d1, g0, g1, hs1, z5, -getElem?_pos, gEz]
 rw [if_neg z5]
 have p1 := e78 p.body H1
 have q0 : (H1 ++ [Blk.arr 0 1 false [Sl.av St.av 8 p.body]] ++ [K74 .ready none])[H1.length]? = some (.arr 0 1 false [Sl.av St.av 8 p.body]) := by
  rw [List.append_assoc, List.getElem?_append_right (by omega)]; simp
 have q1 : (H1 ++ [Blk.arr 0 1 false [Sl.av St.av 8 p.body]] ++ [K74 .ready none])[H1.length + 1]? = some (K74 .ready none) := by
  rw [List.append_assoc, List.getElem?_append_right (by omega)]; simp
 have q2 : (H1 ++ [Blk.arr 0 1 false [Sl.av St.av 8 p.body]] ++ [K74 .ready none])[1]? = some (.arr 0 1 false [I 0]) := app_get (app_get g1 _) _
 have hp := pre_ok (.yld (H1.length + 1)) rfl rfl rfl (P74 (H1.length + 1)) (Q74 (H1.length + 1)) (fun _ => True) (KeptN 8) (fun x (_ : Unit) => if stCheck x ≠ 0 then .inr (stCheck x) else .inl ())
  (by intro s H B h; exact ⟨app_get h.1 B, app_get h.2 B⟩) ⟨KeptN.refl 8, fun _ _ _ => KeptN.trans, fun _ _ _ _ => KeptN.append _ _ _, fun _ H _ es _ h => h.2 H.length es (app_last _ _)⟩ (H1.length + 2) (fun x s H hx _ h => round74 (H1.length + 1) (by omega) x hx H h) p.body f1 f2 H1.length () _ q0 (by simp) (runG_true _ _ _) ⟨q1, q2⟩
 obtain ⟨v, H', e1, rfl, e2, e3⟩ := okV_iff.1 hp
 rw [runS_err] at e3
 have hlen' : H1.length + 1 < H'.length := by
  have := e2.1; simp at this; omega
 simp only [K74] at e1 e3
 by_cases hz : errOf stCheck (St.pres p.body.l) = 0
 ·rw [if_pos hz] at e3
  obtain ⟨e3, e4⟩ := e3
  simp only [K74] at e3
  have s1 : ∀ B, (H'.set (H1.length + 1) B)[1]? = some (.arr 0 1 false [I 0]) := fun B => by rw [gEn (by omega)]; exact e4
  have s2 : ∀ B C, ((H'.set (H1.length + 1) B).set 1 C)[1]? = some C := fun B C => gEt (by simp; omega)
  simp [fi74, c74, evFun, enterFr, intBin, resV, rvVs, rvV, c1, c2, c3, z3', d1, g0, g1, hs1, z5, p1, e1, e3, rngEnd, s1, s2, hz, -getElem?_pos, gEz, -List.append_assoc]
 ·rw [if_neg hz] at e3
  obtain ⟨e3, e4⟩ := e3
  simp only [K74] at e3
  have s1 : ∀ B, (H'.set (H1.length + 1) B)[1]? = some (.arr 0 1 false [I (errOf stCheck (St.pres p.body.l))]) := fun B => by rw [gEn (by omega)]; exact e4
  simp [fi74, c74, evFun, enterFr, intBin, resV, rvVs, rvV, c1, c2, c3, z3', d1, g0, g1, hs1, z5, p1, e1, e3, rngEnd, s1, hz, -getElem?_pos, gEz, -List.append_assoc]
end Go.Proofs.YtddpboiceemihaaGreatDoor
end
section
namespace Go.Proofs.YtddpboiceemihaaGreatDoor
open Go Go.RowKit
set_option linter.unusedVariables false
set_option linter.unusedSimpArgs false
set_option maxRecDepth 10000
theorem call71 (p : Pr) (hf : p.fine) (H : Heap) : W.call (.clo 71 [] []) [p.av] H = some (.bool (decide (12 < St.deps p.body.l)), H ++ [.arr 0 5 false [p.av]]) := by
 rw [W_call Φ71]
 have c1 := e72 12 0 rfl p.body hf.1 hf.2.1
 simp only [Nat.zero_add, Int.natCast_one] at c1
 simp [fi71, c71, evFun, enterFr, intBin, resV, rvVs, rvV, c1, app_last, -getElem?_pos, gEz]
theorem loop26_1 (s : So) (hl : s.decls.l.length ≤ 9223372036854775807) : ∀ (r : List Dc) (k : Nat) (H : Heap), s.decls.l.drop k = r → k ≤ s.decls.l.length → H[0]? = some (.arr 0 2 false [s.av]) →
  okC (W.loop [1, 28, 29, 30] l26_1 [(1, .optr 0 0 0 0), (28, Sl.av Dc.av 5 s.decls), (29, I s.decls.l.length), (30, I k)] H)
   (fun y F' H' => H'[0]? = some (.arr 0 2 false [s.av]) ∧ ((errOf dcCheck r = 0 ∧ y = .exit 0 ∧ F'.get 1 = .optr 0 0 0 0) ∨ (errOf dcCheck r ≠ 0 ∧ y = .ret ∧ F'.get 2 = I (errOf dcCheck r)))) := by
 intro r
 induction r with
 | nil =>
  intro k H h1 h2 h0
  have hk := drop_nil_len h1 h2
  rw [om_turn]
  simp [evl26_1, b26_1, intBin, hk, errOf, h0]
 | cons a r ihr =>
  intro k H h1 h2 h0
  obtain ⟨hlt, ha, hr⟩ := drop_cons h1
  have hlt' : (k : Int) < s.decls.l.length := by omega
  have hak : s.decls.l[k] = a := (gEs.1 ha).2
  have hw : IntKind.wrap .i64 ((k : Int) + 1) = (k : Int) + 1 := by rw [wrap64] <;> omega
  have p0 : ∀ B, (H ++ [B])[0]? = some (.arr 0 2 false [s.av]) := app_get h0
  have hJ := ihr (k + 1) (H ++ [.arr 0 5 false [a.av]]) hr (by omega) (p0 _)
  simp only [Int.natCast_add, Int.cast_ofNat_Int] at hJ
  have c1 := e73 a
  rw [om_turn]
  simp only [errOf]
  by_cases hz : dcCheck a = 0
  ·rw [if_neg (by simpa using hz)]
   rw [hz] at c1
   simp [evl26_1, b26_1, intBin, hlt, hak, hw, p0, c1, app_last, -getElem?_pos, gEz, ha]
   simpa using hJ
  ·rw [if_pos (by simpa using hz)]
   simp [evl26_1, b26_1, intBin, hlt, hak, hw, p0, c1, hz, app_last, -getElem?_pos, gEz, ha]
theorem loop26_0 (x : Sl Pr) (hl : x.l.length ≤ 9223372036854775807) (hf : ∀ p ∈ x.l, p.fine) : ∀ (r : List Pr) (k : Nat) (H : Heap), x.l.drop k = r → k ≤ x.l.length →
  okC (W.loop [41, 42, 43] l26_0 [(41, Sl.av Pr.av 5 x), (42, I x.l.length), (43, I k)] H)
   (fun y F' H' => (errOf prCheck r = 0 ∧ y = .exit 2) ∨ (errOf prCheck r ≠ 0 ∧ y = .ret ∧ F'.get 2 = I (errOf prCheck r))) := by
 intro r
 induction r with
 | nil =>
  intro k H h1 h2
  have hk := drop_nil_len h1 h2
  rw [om_turn]
  simp [evl26_0, b26_0, intBin, hk, errOf]
 | cons a r ihr =>
  intro k H h1 h2
  obtain ⟨hlt, ha, hr⟩ := drop_cons h1
  have hlt' : (k : Int) < x.l.length := by omega
  have hak : x.l[k] = a := (gEs.1 ha).2
  have hw : IntKind.wrap .i64 ((k : Int) + 1) = (k : Int) + 1 := by rw [wrap64] <;> omega
  have hJ := ihr (k + 1) (H ++ [.arr 0 5 false [a.av]]) hr (by omega)
  simp only [Int.natCast_add, Int.cast_ofNat_Int] at hJ
  have c1 := e74 a (hf a (List.mem_of_getElem? ha))
  rw [om_turn]
  simp only [errOf]
  by_cases hz : prCheck a = 0
  ·rw [if_neg (by simpa using hz)]
   rw [hz] at c1
   simp [evl26_0, b26_0, intBin, hlt, hak, hw, c1, app_last, -getElem?_pos, gEz, ha]
   simpa using hJ
  ·rw [if_pos (by simpa using hz)]
   simp [evl26_0, b26_0, intBin, hlt, hak, hw, c1, hz, app_last, -getElem?_pos, gEz, ha]
def soCheck (s : So) : Int :=
 if (32 < s.decls.l.length ∨ 32 < s.procs.l.length) ∨ 300 < (s.procs.l.map Pr.cost).sum then 4
 else if (s.procs.l.any fun p => decide (12 < St.deps p.body.l)) = true then 22
 else if errOf dcCheck s.decls.l ≠ 0 then errOf dcCheck s.decls.l
 else errOf prCheck s.procs.l
def So.fine (s : So) : Prop := s.decls.l.length ≤ 9223372036854775807 ∧ s.procs.l.length ≤ 9223372036854775807 ∧ ∀ p ∈ s.procs.l, p.fine
theorem e26 (s : So) (hf : s.fine) : W.pure 26 [s.av] = some (I (soCheck s)) := by
 rw [W_pure Φ26 (by simp)]
 obtain ⟨f1, f2, f3⟩ := hf
 have c1 := e70 s f2 f3
 unfold soCheck
 by_cases z1 : (32 < s.decls.l.length ∨ 32 < s.procs.l.length) ∨ 300 < (s.procs.l.map Pr.cost).sum
 ·rw [if_pos z1]
  by_cases z2 : (32 : Int) < s.decls.l.length
  ·simp [fi26, c26, evFun, enterFr, intBin, resV, rvVs, rvV, z2, -getElem?_pos, gEz]
  ·by_cases z3 : (32 : Int) < s.procs.l.length
   ·simp [fi26, c26, evFun, enterFr, intBin, resV, rvVs, rvV, z2, z3, -getElem?_pos, gEz]
   ·have hm : min (s.procs.l.map Pr.cost).sum 301 = 301 := by omega
    rw [hm] at c1
    simp [fi26, c26, evFun, enterFr, intBin, resV, rvVs, rvV, z2, z3, c1, -getElem?_pos, gEz]
 rw [if_neg z1]
 have z2 : ¬ (32 : Int) < s.decls.l.length := by omega
 have z3 : ¬ (32 : Int) < s.procs.l.length := by omega
 have hm : min (s.procs.l.map Pr.cost).sum 301 = (s.procs.l.map Pr.cost).sum := by omega
 rw [hm] at c1
 have z4 : ¬ (300 : Int) < ((s.procs.l.map Pr.cost).sum : Nat) := by omega
 generalize (s.procs.l.map Pr.cost).sum = T at *
 clear z1 hm
 obtain ⟨v, H1, d1, rfl, d2⟩ := okV_iff.1 (any28 s.procs (by omega) (.clo 71 [] []) rfl (fun p => decide (12 < St.deps p.body.l)) [.arr 0 2 false [s.av]] (fun a ha H _ => by rw [call71 a (f3 a ha)]; exact ⟨rfl, Kept.append _ _ _⟩))
 have g0 : H1[0]? = some (.arr 0 2 false [s.av]) := d2.get (by simp) rfl
 generalize (s.procs.l.any fun p => decide (12 < St.deps p.body.l)) = q at *
 cases q with
 | true => simp [fi26, c26, evFun, enterFr, intBin, resV, rvVs, rvV, z2, z3, z4, c1, d1, -getElem?_pos, gEz]
 | false =>
 rw [if_neg (by simp)]
 obtain ⟨y, F, H2, l1, l2, l3⟩ := okC_iff.1 (loop26_1 s f1 s.decls.l 0 H1 rfl (by omega) g0)
 simp only [Int.natCast_zero] at l1
 rcases l3 with ⟨l3, rfl, l4⟩ | ⟨l3, rfl, l4⟩
 ·rw [if_neg (by simpa using l3)]
  obtain ⟨y, F', H3, m1, m2⟩ := okC_iff.1 (loop26_0 s.procs f2 f3 s.procs.l 0 H2 rfl (by omega))
  simp only [Int.natCast_zero] at m1
  rcases m2 with ⟨m2, rfl⟩ | ⟨m2, rfl, m3⟩
  ·simp [fi26, c26, evFun, enterFr, intBin, resV, rvVs, rvV, z2, z3, z4, c1, d1, g0, l1, l2, l4, m1, m2, -getElem?_pos, gEz]
  ·simp [fi26, c26, evFun, enterFr, intBin, resV, rvVs, rvV, z2, z3, z4, c1, d1, g0, l1, l2, l4, m1, m3, -getElem?_pos, gEz]
 ·rw [if_pos (by simpa using l3)]
  simp [fi26, c26, evFun, enterFr, intBin, resV, rvVs, rvV, z2, z3, z4, c1, d1, g0, l1, l4, -getElem?_pos, gEz]
end Go.Proofs.YtddpboiceemihaaGreatDoor
end
