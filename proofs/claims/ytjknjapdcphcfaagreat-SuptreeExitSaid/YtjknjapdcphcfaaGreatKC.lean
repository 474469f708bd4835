/-
  A tree is given away; New of trees (conditions: none). Valid states of trees (conditions: none). What is due in a tree, handled until nothing is (conditions: none). Something happens in a tree, as the program does it (conditions: none). Exit and Stop, as the program has them (conditions: none). Exit, Stop, and what the laws share (conditions: none). Trees of one supervisor, in plain words (conditions: none). The law SuptreeSingle: it is true (conditions: readings of the arguments). The law SuptreeSingle: it is true (conditions: readings of the arguments). The reference's search for the same child, and for the owner (conditions: none). The reference's Check of trees (conditions: none). The reference's Check of trees, whole (conditions: none). The order of the workers, as the reference has it, and their names (conditions: none). Equal names, equal states; Workers, as the reference has it (conditions: none). The reference's trees in memory, while they start (conditions: none).
-/
import Derived.Test.YtjknjapdcphcfaaGreatKB
import Derived.Test.YtjknjapdcphcfaaGreatAw
namespace Go.Proofs.YtjknjapdcphcfaaGreat
open Go Go.RowKit
set_option linter.unusedVariables false
set_option linter.unusedSimpArgs false
set_option maxRecDepth 10000
set_option maxHeartbeats 8000000
section
def KnownS (s : State) : Prop := KnownNil s.children ∧ KnownNil s.restarts
theorem SlV.frz {α : Type} {f : α → AV} {sz n : Nat} {X : Nat → Prop} {H : Heap} {v : AV} {l : List α} (h : SlV KnownNil f sz X H v l) (hf : ∀ x, (f x).cells.all AV.still = true) : ∃ s : Sl α, Go.Proofs.YtjknjapdcphcfaaGreat.frz H (n + 1) v = some (Sl.av f sz s) ∧ s.l = l ∧ KnownNil s := by
 rcases h with ⟨s, rfl, h1, h2⟩ | ⟨q, ver, t, sh, rfl, h2, h3⟩
 ·exact ⟨s, rfl, h1, h2⟩
 ·have ht : ((l.map f ++ t).drop 0).take l.length = l.map f := by
   rw [List.drop_zero, List.take_append_of_le_length (by simp), List.take_of_length_le (by simp)]
  refine ⟨ofL sz l, ?_, rfl, .inr rfl⟩
  simp only [Go.Proofs.YtjknjapdcphcfaaGreat.frz, h2]
  rw [if_pos ⟨trivial, by simp⟩, ht, if_pos (all_still hf l), ← isl_sl]
theorem StV.frz {X : Nat → Prop} {H : Heap} {sv : AV} {s : State} {n : Nat} (h : StV X H sv s) : ∃ s' : State, Go.Proofs.YtjknjapdcphcfaaGreat.frz H (n + 2) sv = some s'.av ∧ s'.core = s.core ∧ KnownS s' := by
 obtain ⟨cv, r, rfl, h2, h3, h4⟩ := h
 obtain ⟨c, c1, c2, c3⟩ := h2.frz (n := n) (fun x => by simp)
 refine ⟨⟨s.status, c, r, s.failed⟩, ?_, by simp only [State.core, c2, h3], c3, h4⟩
 have e2 : Go.Proofs.YtjknjapdcphcfaaGreat.frz H (n + 1) (Sl.ints r) = some (Sl.ints r) := rfl
 simp only [Go.Proofs.YtjknjapdcphcfaaGreat.frz_agg, frzs_cons, frzs_nil, Go.Proofs.YtjknjapdcphcfaaGreat.frz_int, c1, e2, Go.Proofs.YtjknjapdcphcfaaGreat.frz_bool, consO_some, Option.map_some]
 rfl
theorem frzs_of {f : AV → Option AV} : ∀ (svs : List AV) (ss : List State), svs.length = ss.length → (∀ (k : Nat) (sv : AV) (s : State), svs[k]? = some sv → ss[k]? = some s → ∃ s' : State, f sv = some s'.av ∧ s'.core = s.core ∧ KnownS s') → ∃ ss' : List State, frzs f svs = some (ss'.map State.av) ∧ ss'.map State.core = ss.map State.core ∧ ∀ s ∈ ss', KnownS s
 | [], [], _, _ => ⟨[], rfl, rfl, by simp⟩
 | sv :: svs, s :: ss, hl, h => by
  obtain ⟨s', h1, h2, h3⟩ := h 0 sv s rfl rfl
  obtain ⟨ss', h4, h5, h6⟩ := frzs_of svs ss (by simpa using hl) (fun k sv s a b => h (k + 1) sv s (by simpa using a) (by simpa using b))
  refine ⟨s' :: ss', by simp only [frzs, h1, h4, List.map_cons], by simp only [List.map_cons, h2, h5], fun x hx => ?_⟩
  rcases List.mem_cons.1 hx with rfl | hx
  ·exact h3
  ·exact h6 x hx
 | [], _ :: _, hl, _ => by simp at hl
 | _ :: _, [], hl, _ => by simp at hl
theorem frzs_still {H : Heap} {n : Nat} : ∀ {cs : List AV}, cs.all AV.still = true → frzs (frz H (n + 1)) cs = some cs
 | [], _ => rfl
 | c :: cs, h => by
  rw [List.all_cons, Bool.and_eq_true] at h
  simp only [frzs, frz_still H n h.1, frzs_still h.2]
theorem frzs_stillA {H : Heap} {n : Nat} : ∀ {cs : List AV}, cs.all (fun e => e.cells.all AV.still) = true → frzs (frz H (n + 2)) cs = some cs
 | [], _ => rfl
 | c :: cs, h => by
  rw [List.all_cons, Bool.and_eq_true] at h
  have h1 : frz H (n + 2) c = some c := by
   have := h.1
   cases c with
   | agg a =>
    rw [Go.Proofs.YtjknjapdcphcfaaGreat.frz_agg, frzs_still (cs := a) this]; rfl
   | _ => exact frz_still H (n + 1) (by have h2 := this; simp only [AV.cells, List.all_cons, List.all_nil, Bool.and_true] at h2; exact h2)
  simp only [frzs, h1, frzs_stillA h.2]
theorem TreeM.frzS {l : Sl Spec} {pl : Sl (Nat × Nat)} {p S vS : Nat} {oA oQ : Option Nat} {t : Tree} {H : Heap} (h : TreeM l pl p S vS oA oQ t H) (n : Nat) : ∃ ss : Sl State, Go.Proofs.YtjknjapdcphcfaaGreat.frz H (n + 3) (.osl S vS 0 l.l.length) = some (Sl.av State.av 4 ss) ∧ ss.l.map State.core = t.ss.map State.core ∧ (∀ s ∈ ss.l, KnownS s) ∧ ss.nl = some false := by
 obtain ⟨svs, s1, s2, s3⟩ := h.sup
 have hl := h.len
 obtain ⟨ss', a1, a2, a3⟩ := frzs_of (f := Go.Proofs.YtjknjapdcphcfaaGreat.frz H (n + 2)) svs t.ss (by omega) (fun k sv s a b => (s3 k sv s a b).frz (n := n))
 have ht : (svs.drop 0).take l.l.length = svs := by rw [List.drop_zero, List.take_of_length_le (by omega)]
 refine ⟨ofL 4 ss', ?_, a2, a3, rfl⟩
 rw [Go.Proofs.YtjknjapdcphcfaaGreat.frz]
 simp only [s1]
 rw [if_pos ⟨trivial, by omega⟩, ht]
 split
 ·rename_i hst
  rw [frzs_stillA hst] at a1
  cases a1
  rw [← isl_sl]
 ·rw [a1, Option.map_some, ← isl_sl]
theorem TreeM.first {l : Sl Spec} {pl : Sl (Nat × Nat)} {t : Tree} {ss : List State} {svs : List AV} {vS : Nat} (hl : svs.length = l.l.length) (hl2 : ss.length = l.l.length) (hs : ∀ (k : Nat) (sv : AV) (s : State), svs[k]? = some sv → ss[k]? = some s → StV (OwnT 1 0 none none) [.arr vS 4 false svs, .arr 0 5 false [mkT l 0 vS pl (.isl (some true) 0 []) (.isl (some true) 0 [])]] sv s) (hsm : ∀ s ∈ ss, s.children.l.length ≤ 1000 ∧ s.restarts.l.length ≤ 1000) :
  TreeM l pl 1 0 vS none none ⟨ss, [], []⟩ [.arr vS 4 false svs, .arr 0 5 false [mkT l 0 vS pl (.isl (some true) 0 []) (.isl (some true) 0 [])]] :=
 ⟨⟨_, _, rfl, grow_nil _ _, ⟨rfl, rfl⟩⟩, ⟨svs, rfl, hl, hs⟩, hl2, ⟨by decide, by simp, by simp, by simp, by simp, by simp⟩, hsm, .inl rfl⟩
noncomputable def perfA (l : List Spec) : Nat → List Event → Tree → Tree := perf l (ordT l) (up l) l.length
noncomputable def handleT (l : List Spec) (k : Nat) (e : Event) (t : Tree) : Tree := doHandle l (perfA l) (up l) k e t
theorem startL_at (n : Nat) : ∀ c, c < n → (startL n)[c]? = some ⟨3, c, 0, 0⟩ := by
 induction n with
 | zero => intro c h; omega
 | succ n ih =>
  intro c hc
  have hl := startL_len n
  rcases Nat.lt_or_ge c n with h | h
  ·rw [startL, gEa (by omega)]; exact ih c h
  ·have : c = n := by omega
   subst this
   rw [startL, List.getElem?_append_right (by omega), hl]; simp
end
section
def fitsU (c : Int) (s : State) : Bool :=
 if c = 1 then decide (s.status = 1) || decide (s.status = 2) || (decide (s.status = 3) && s.failed) else if c = 2 then decide (s.status = 3) else decide (s.status = 4)
theorem t77 (c : Int) (s : State) : W.pure 34 [I c, s.av] = some (.bool (fitsU c s)) := by
 rw [W_pure Φ34 (by simp)]
 unfold fitsU
 by_cases h1 : c = 1
 ·by_cases a : s.status = 1
  ·simp [fi34, c34, evFun, enterFr, intBin, resV, rvVs, rvV, h1, a]
  ·by_cases b : s.status = 2
   ·simp [fi34, c34, evFun, enterFr, intBin, resV, rvVs, rvV, h1, a, b]
   ·by_cases d : s.status = 3
    ·simp [fi34, c34, evFun, enterFr, intBin, resV, rvVs, rvV, h1, a, b, d]
    ·simp [fi34, c34, evFun, enterFr, intBin, resV, rvVs, rvV, h1, a, b, d]
 ·by_cases h2 : c = 2
  ·simp [fi34, c34, evFun, enterFr, intBin, resV, rvVs, rvV, h1, h2]
  ·simp [fi34, c34, evFun, enterFr, intBin, resV, rvVs, rvV, h1, h2]
theorem foldE_all {α : Type} (q : Nat → α → Bool) : ∀ (l : List α) (k : Nat), foldE (fun k a (_ : Unit) => if q k a = true then .inl () else (.inr () : Unit ⊕ Unit)) k l () = if (l.zipIdx k).all (fun p => q p.2 p.1) = true then .inl () else .inr ()
 | [], k => rfl
 | a :: l, k => by
  by_cases h : q k a = true
  ·simp only [foldE, h, if_true, List.zipIdx_cons, List.all_cons, Bool.true_and]; exact foldE_all q l (k + 1)
  ·simp [foldE, h]
def valid1 (l : List Spec) (s : List State) : Bool := l.zipIdx.all fun p => validB p.1 (s.getD p.2 default)
def valid2C (s : List State) (i c : Nat) (ch : Child) : Bool := decide (ch.sub < 0) || fitsU ((s.getD i default).children.l.getD c default).status (s.getD ch.sub.toNat default)
def valid2X (s : List State) (i : Nat) (x : Spec) : Bool := x.children.l.zipIdx.all fun p => valid2C s i p.2 p.1
def valid2 (l : List Spec) (s : List State) : Bool := l.zipIdx.all fun p => valid2X s p.2 p.1
def validT (l : List Spec) (s : List State) : Bool := decide (l.length = s.length) && valid1 l s && valid2 l s
def SmallS (s : List State) : Prop := ∀ x ∈ s, x.children.l.length ≤ 1000 ∧ x.restarts.l.length ≤ 1000
section
attribute [local irreducible] okC okV
abbrev states (s : Sl State) : AV := Sl.av State.av 4 s
theorem loop56_2 {l : Sl Spec} {s : Sl State} (ht : TreeOk l.l) (hn : NamesOk l.l) (hl : l.l.length = s.l.length) (hs : SmallS s.l) (H : Heap) : okC (W.loop [0, 1, 16, 17] l22_2 [(0, specs l), (1, states s), (16, I l.l.length), (17, I 0)] H) (fun y F G => if valid1 l.l s.l = true then y = .exit 0 ∧ F.get 0 = specs l ∧ F.get 1 = states s else y = .ret ∧ F.get 4 = .bool false) := by
 have hL := loop_all (Φ := Φ) (live := [0, 1, 16, 17]) (L := l22_2) l.l (fun i x _ => if validB x (s.l.getD i default) = true then .inl () else (.inr () : Unit ⊕ Unit))
  (fun i _ F G => F = [(0, specs l), (1, states s), (16, I l.l.length), (17, I i)])
  (fun _ y F G => y = .ret ∧ F.get 4 = .bool false) (fun _ y F G => y = .exit 0 ∧ F.get 0 = specs l ∧ F.get 1 = states s) (s := ()) (H := H) rfl ?_ ?_
 ·simp only [Int.natCast_zero] at hL
  rw [foldE_all (fun i x => validB x (s.l.getD i default))] at hL
  unfold valid1
  split
  ·rename_i h; rw [if_pos h] at hL; exact hL
  ·rename_i h; rw [if_neg h] at hL; exact hL
 ·rintro i x ⟨⟩ F G hi hx rfl
  have hw := wrap_succ (k := i) (by have := ht.len.2; omega)
  have hsi := gEg (l := s.l) (i := i) (by omega)
  have hgd : s.l.getD i default = s.l[i] := by rw [gEd, hsi]; rfl
  rw [hgd]
  have hsm := hs s.l[i] (List.mem_of_getElem? hsi)
  generalize s.l[i] = st at *
  have hlen := chk_len (ht.ok i x hx)
  have h15 := e15 x (hn x (List.mem_of_getElem? hx)) (by omega) st (by omega) (by omega)
  cases hv : validB x st with
  | true =>
   rw [hv] at h15
   simp only [if_true] at h15
   simp [-getElem?_pos, gEz, evl22_2, b22_2, intBin, hi, hx, hsi, hw, h15]
  | false =>
   rw [hv] at h15
   simp only [Bool.false_eq_true, if_false] at h15
   simp [-getElem?_pos, gEz, evl22_2, b22_2, intBin, hi, hx, hsi, hw, h15]
 ·rintro ⟨⟩ F G rfl
  simp [evl22_2, b22_2, intBin]
theorem loop56_0 {l : Sl Spec} {s : Sl State} (ht : TreeOk l.l) (hl : l.l.length = s.l.length) (hv : valid1 l.l s.l = true) (i : Nat) (x : Spec) (hx : l.l[i]? = some x) (H : Heap) : okC (W.loop [1, 6, 31, 32, 33, 39, 40, 41] l22_0 [(1, states s), (6, I i), (31, specs l), (32, I l.l.length), (33, I i), (39, Sl.av Child.av 3 x.children), (40, I x.children.l.length), (41, I 0)] H) (fun y F G => if valid2X s.l i x = true then y = .exit 4 ∧ F.keep [1, 31, 32, 33] = [(1, states s), (31, specs l), (32, I l.l.length), (33, I i)] else y = .ret ∧ F.get 4 = .bool false) := by
 have hlen := chk_len (ht.ok i x hx)
 have hi := (gEs.1 hx).1
 have hsi := gEg (l := s.l) (i := i) (by omega)
 have hgd : s.l.getD i default = s.l[i] := by rw [gEd, hsi]; rfl
 have hvi : validB x s.l[i] = true := by
  have h1 := List.all_eq_true.1 hv (x, i) (List.mem_zipIdx_iff_getElem?.2 hx)
  rw [← hgd]; exact h1
 have hcl := (valid_facts hvi).2.1
 have hL := loop_all (Φ := Φ) (live := [1, 6, 31, 32, 33, 39, 40, 41]) (L := l22_0) x.children.l (fun c ch _ => if valid2C s.l i c ch = true then .inl () else (.inr () : Unit ⊕ Unit))
  (fun c _ F G => F = [(1, states s), (6, I i), (31, specs l), (32, I l.l.length), (33, I i), (39, Sl.av Child.av 3 x.children), (40, I x.children.l.length), (41, I c)])
  (fun _ y F G => y = .ret ∧ F.get 4 = .bool false) (fun _ y F G => y = .exit 4 ∧ F.keep [1, 31, 32, 33] = [(1, states s), (31, specs l), (32, I l.l.length), (33, I i)]) (s := ()) (H := H) rfl ?_ ?_
 ·simp only [Int.natCast_zero] at hL
  rw [foldE_all (fun c ch => valid2C s.l i c ch)] at hL
  unfold valid2X
  split
  ·rename_i h; rw [if_pos h] at hL; exact hL
  ·rename_i h; rw [if_neg h] at hL; exact hL
 ·rintro c ch ⟨⟩ F G hc hch rfl
  have hw := wrap_succ (k := c) (by omega)
  have hsub := ht.sub i c ch hi (by rw [kids_of hx]; exact hch)
  have hcs := gEg (l := (s.l[i]).children.l) (i := c) (by omega)
  have hgc : (s.l[i]).children.l.getD c default = (s.l[i]).children.l[c] := by rw [gEd, hcs]; rfl
  unfold valid2C
  rw [hgd, hgc]
  generalize (s.l[i]).children.l[c] = cst at *
  generalize s.l[i] = st at *
  by_cases hneg : ch.sub < 0
  ·have hneg' : ¬ 0 ≤ ch.sub := by omega
   simp [-getElem?_pos, gEz, app_last, sx11, evl22_0, b22_0, intBin, hc, hch, hw, hneg, hneg']
  ·have hneg' : 0 ≤ ch.sub := by omega
   have hks := gEg (l := s.l) (i := ch.sub.toNat) (by omega)
   have hgk : s.l.getD ch.sub.toNat default = s.l[ch.sub.toNat] := by rw [gEd, hks]; rfl
   rw [hgk]
   generalize s.l[ch.sub.toNat] = sk at *
   have h77 := t77 cst.status sk
   cases hf : fitsU cst.status sk with
   | true =>
    rw [hf] at h77
    simp [-getElem?_pos, gEz, app_last, sx11, evl22_0, b22_0, intBin, hc, hch, hw, hneg, hneg', hsi, hcs, hks, h77]
   | false =>
    rw [hf] at h77
    simp [-getElem?_pos, gEz, app_last, sx11, evl22_0, b22_0, intBin, hc, hch, hw, hneg, hneg', hsi, hcs, hks, h77]
 ·rintro ⟨⟩ F G rfl
  simp [evl22_0, b22_0, intBin]
theorem t56 {l : Sl Spec} {s : Sl State} (ht : TreeOk l.l) (hn : NamesOk l.l) (hs : SmallS s.l) (hsl : s.l.length ≤ 1000000) : W.pure 22 [specs l, states s] = some (.bool (validT l.l s.l)) := by
 rw [W_pure Φ22 (by simp)]
 unfold validT
 by_cases hl : l.l.length = s.l.length
 ·have h2 := loop56_2 ht hn hl hs []
  by_cases hv : valid1 l.l s.l = true
  ·simp only [if_pos hv] at h2
   obtain ⟨y, F, G, e1, rfl, e2, e3⟩ := okC_iff.1 h2
   have hL := loop_all (Φ := Φ) (live := [1, 31, 32, 33]) (L := l22_1) l.l (fun i x _ => if valid2X s.l i x = true then .inl () else (.inr () : Unit ⊕ Unit))
    (fun i _ F G => F = [(1, states s), (31, specs l), (32, I l.l.length), (33, I i)])
    (fun _ y F G => y = .ret ∧ F.get 4 = .bool false) (fun _ y F G => y = .exit 2) (s := ()) (F := [(1, states s), (31, specs l), (32, I l.l.length), (33, I 0)]) (H := G) rfl ?_ ?_
   ·rw [foldE_all (fun i x => valid2X s.l i x)] at hL
    have hv2' : (l.l.zipIdx.all fun p => valid2X s.l p.2 p.1) = valid2 l.l s.l := rfl
    rw [hv2'] at hL
    cases hv2 : valid2 l.l s.l with
    | true =>
     rw [if_pos hv2] at hL
     obtain ⟨y, F2, G2, f1, rfl⟩ := okC_iff.1 hL
     have hl' : (l.l.length : Int) = (s.l.length : Int) := by omega
     simp [-getElem?_pos, gEz, fi22, c22, evFun, enterFr, intBin, resV, rvVs, rvV, e1, e2, e3, f1, hl, ← hl', hv]
    | false =>
     rw [if_neg (by rw [hv2]; decide)] at hL
     obtain ⟨y, F2, G2, f1, rfl, f2⟩ := okC_iff.1 hL
     have hl' : (l.l.length : Int) = (s.l.length : Int) := by omega
     simp [-getElem?_pos, gEz, fi22, c22, evFun, enterFr, intBin, resV, rvVs, rvV, e1, e2, e3, f1, f2, hl, ← hl', hv]
   ·rintro i x ⟨⟩ F G' hi hx rfl
    have hw := wrap_succ (k := i) (by have := ht.len.2; omega)
    have h0 := loop56_0 ht hl hv i x hx (G' ++ [.arr 0 4 false [x.av]])
    cases hv2 : valid2X s.l i x with
    | true =>
     simp only [if_pos hv2] at h0
     obtain ⟨y, F2, G2, f1, rfl, f2⟩ := okC_iff.1 h0
     simp only [keep_cons, keep_nil, List.cons.injEq, Prod.mk.injEq, true_and, and_true] at f2
     obtain ⟨g1, g2, g3, g4⟩ := f2
     simp [-getElem?_pos, gEz, app_last, sx11, evl22_1, b22_1, intBin, hi, hx, hw, f1, g1, g2, g3, g4]
    | false =>
     simp only [if_neg (show ¬ valid2X s.l i x = true by rw [hv2]; decide)] at h0
     obtain ⟨y, F2, G2, f1, rfl, f2⟩ := okC_iff.1 h0
     simp [-getElem?_pos, gEz, app_last, sx11, evl22_1, b22_1, intBin, hi, hx, hw, f1, f2]
   ·rintro ⟨⟩ F G' rfl
    simp [evl22_1, b22_1, intBin]
  ·simp only [if_neg hv] at h2
   obtain ⟨y, F, G, e1, rfl, e2⟩ := okC_iff.1 h2
   have hl' : (l.l.length : Int) = (s.l.length : Int) := by omega
   have hv' : valid1 l.l s.l = false := by simpa using hv
   simp [-getElem?_pos, gEz, fi22, c22, evFun, enterFr, intBin, resV, rvVs, rvV, e1, e2, hl, ← hl', hv']
 ·have hl' : ¬ (l.l.length : Int) = (s.l.length : Int) := by omega
  simp [-getElem?_pos, gEz, fi22, c22, evFun, enterFr, intBin, resV, rvVs, rvV, hl, hl']
end
end
section
inductive Drains (l : List Spec) : Tree → Tree → Prop
 | done {t : Tree} (h : t.q = []) : Drains l t t
 | step {t t' : Tree} (d : Due) (r : List Due) (k : Nat) (h : t.q = d :: r) (hk : d.sup = (k : Int)) (hkl : k < l.length) (ho : (handleT l k d.e { t with q := r }).out.length ≤ 1000000) (hq : (handleT l k d.e { t with q := r }).q.length ≤ 1000000) (hs : Drains l (handleT l k d.e { t with q := r }) t') : Drains l t t'
section treem
variable {l : Sl Spec} {pl : Sl (Nat × Nat)} {p S vS : Nat} {oA oQ : Option Nat} {t : Tree} {H : Heap}
theorem TreeM.pop (h : TreeM l pl p S vS oA oQ t H) {d : Due} {r : List Due} (hq : t.q = d :: r) :
  ∃ av qv a qv', H[p]? = some (.arr 0 5 false [mkT l S vS pl av qv]) ∧ okO qv = some qv ∧ qv.cells = [qv] ∧ lenV false qv = I ((r.length : Int) + 1) ∧ idxaV H 5 qv (I 0) = a ∧ okO a = some a ∧ loadV H true 5 a = d.av ∧ slcV H false 5 true false qv [I 1] = qv' ∧ okO qv' = some qv' ∧ qv'.cells = [qv'] ∧ qv'.cell = true ∧
   ∀ B : Blk, idxaV (H ++ [B]) 5 qv (I 0) = a ∧ slcV (H ++ [B]) false 5 true false qv [I 1] = qv' ∧ TreeM l pl p S vS oA oQ { t with q := r } ((H ++ [B]).set p (.arr 0 5 false [mkT l S vS pl av qv'])) := by
 obtain ⟨av, qv, e1, e2, e3⟩ := h.blk
 rw [hq, List.map_cons] at e3
 obtain ⟨a, a1, a2, a3⟩ := e3.head
 obtain ⟨qv', b1, b2, b3, b4, b5⟩ := e3.tail
 have hlen := e3.len
 simp only [List.length_cons, List.length_map] at hlen
 refine ⟨av, qv, a, qv', e1, e3.okO, e3.cells, by rw [hlen]; congr 1, a1, a2, by rw [a3]; rfl, b1, b2, b3, b4, fun B => ?_⟩
 have e3' := e3.kept (Kept.append none H [B]) (by simp)
 obtain ⟨a', a1', a2', a3'⟩ := e3'.head
 obtain ⟨m1, n1⟩ := h.box B
 have hoq : oQ ≠ some p := h.ne.2.2.2.1
 obtain ⟨id, hid⟩ := e3.ne
 subst hid
 obtain ⟨ver, pre, tl, rfl, g2⟩ := e3
 have g2' := app_get g2 B
 refine ⟨?_, ?_, ?_⟩
 ·rw [← a1]; simp only [idxaV, g2, g2']
 ·rw [← b1]; simp only [slcV, g2, g2']
 ·obtain ⟨⟨av2, qv2, f1, f2, f3⟩, ⟨svs, s1, s2, s3⟩, c1, c2, c3, c4⟩ := m1
  have hpe : (H ++ [B])[p]? = some (.arr 0 5 false [mkT l S vS pl av (.osl id ver pre.length (d.av :: List.map Due.av r).length)]) := app_get e1 B
  rw [hpe] at f1
  have hav : av = av2 := by
   simp only [mkT, Option.some.injEq, Blk.arr.injEq, List.cons.injEq, AV.agg.injEq, true_and, and_true] at f1
   exact f1.1
  subst hav
  have hk : Kept (some p) (H ++ [B]) ((H ++ [B]).set p (.arr 0 5 false [mkT l S vS pl av qv'])) := Kept.set _ _ _
  have hu : UpTo (OwnT p S oA (some id)) (H ++ [B]) ((H ++ [B]).set p (.arr 0 5 false [mkT l S vS pl av qv'])) := hk.upTo.weak (fun j hj _ => by cases hj; exact .inl rfl)
  refine ⟨⟨av, qv', gEt (gEs.1 hpe).1, f2.kept hk (fun i hi e => c2.2.1 (by rw [e, hi])), ?_⟩, ⟨svs, hk.get (fun e => c2.1 (by cases e; rfl)) s1, s2, fun k sv s x y => (s3 k sv s x y).upTo hu (fun _ h _ => h) (fun _ h _ => h)⟩, c1, c2, c3, c4⟩
  exact (b5.kept (Kept.append none H [B]) (by simp)).kept hk (fun i hi e => hoq (by rw [e, hi]))
theorem drains_loop (ht : TreeOk l.l) (hn : NamesOk l.l) (hpl : pl.l = ordT l.l) {t t' : Tree} (hd : Drains l.l t t') : ∀ {oA oQ : Option Nat} {H : Heap}, TreeM l pl p S vS oA oQ t H → okC (W.loop [11] l24_0 [(11, .optr p 0 0 0)] H) (fun y F G => y = .exit 2 ∧ F.get 11 = .optr p 0 0 0 ∧ ∃ oA' oQ', TreeM l pl p S vS oA' oQ' t' G) := by
 induction hd with
 | done h0 =>
  intro oA oQ H h
  obtain ⟨av, qv, e1, e2, e3⟩ := h.blk
  have hlen := e3.len
  rw [h0] at hlen
  simp only [List.map_nil, List.length_nil, mkT] at hlen e1
  have ha : okC (evC W l24_0 (Fr.keep [(11, .optr p 0 0 0)] [11]) H) (fun y F G => y = .exit 2 ∧ F.get 11 = .optr p 0 0 0 ∧ G = H) := by
   simp [-getElem?_pos, gEz, evl24_0, b24_0, intBin, e1, e3.okO, e3.cells, hlen]
  obtain ⟨y, F, G, f1, rfl, f2, rfl⟩ := okC_iff.1 ha
  rw [loop_leave f1 (by simp)]
  exact ⟨rfl, f2, oA, oQ, h⟩
 | step d r k h0 hk hkl ho hq hs ih =>
  intro oA oQ H h
  obtain ⟨av, qv, a, qv', e1, e2, e3, e4, e5, e6, e7, e8, e9, e10, e11, e12⟩ := h.pop h0
  obtain ⟨g1, g2, g3⟩ := e12 (.arr 0 5 false [d.av])
  have hpl' := (gEs.1 e1).1
  obtain ⟨u, G, z1, z0, oA', oQ', z2, z3⟩ := okV_iff.1 (t81 ht hn (perf_ok ht hn hpl l.l.length) (k := k) hkl (by omega) d.e g3 ho hq)
  have e1' := app_get e1 (.arr 0 5 false [d.av])
  have hbx : ((H ++ [Blk.arr 0 5 false [d.av]]).set p (.arr 0 5 false [mkT l S vS pl av qv']))[H.length]? = some (.arr 0 5 false [d.av]) := by
   rw [gEn (by omega)]; exact app_last _ _
  have hev : (.agg [I d.e.kind, I d.e.child, I d.e.value, I d.e.time] : AV) = d.e.av := rfl
  have hpos : (0 : Int) < (r.length : Int) + 1 := by omega
  simp only [mkT] at e1 e1' hbx z1
  have ha : okC (evC W l24_0 (Fr.keep [(11, .optr p 0 0 0)] [11]) H) (fun y F G' => y = .normal ∧ F.keep [11] = [(11, .optr p 0 0 0)] ∧ G' = G) := by
   simp [-getElem?_pos, gEz, app_last, sx11, evl24_0, b24_0, intBin, e1, e2, e3, e4, hpos, e5, e6, e7, e1', e8, e9, e10, e11, g1, g2, hbx, hk, hev, z1]
  obtain ⟨y, F, G', f1, rfl, f2, rfl⟩ := okC_iff.1 ha
  rw [loop_normal f1, f2]
  exact ih z2
end treem
end
section
theorem call78 (s : Sl State) (hnl : s.nl = some false) (hne0 : s.l ≠ []) (hl : s.l.length ≤ 1000000) (H : Heap) : W.call (.clo 35 [] []) [states s] H = some (.osl H.length s.l.length 0 s.l.length, H ++ [.arr s.l.length 4 false (s.l.map State.av)]) := by
 rw [W_call Φ35]
 obtain ⟨nl, z, l⟩ := s
 simp only at hnl hne0 hl
 subst hnl
 have hne : l.map State.av ≠ [] := by simpa using hne0
 have e0 : ex (H ++ [.arr 0 4 false []]) (.app 4) [.osl H.length 0 0 0, Sl.av State.av 4 ⟨some false, z, l⟩] = some (.osl H.length l.length 0 l.length, H ++ [.arr l.length 4 false (l.map State.av)]) := by
  have hlm : (l.map State.av).length = l.length := by simp
  have hall := all_cell (f := State.av) (fun x => by simp) l
  simp only [ex, sl_elems, hall, if_true]
  rw [← hlm]
  rw [← hlm] at hl
  generalize l.map State.av = m at *
  cases m with
  | nil => exact absurd rfl hne
  | cons a m =>
   have ht : truncH (H ++ [.arr 0 4 false []]) (.osl H.length 0 0 0) = H ++ [.arr 0 4 false []] := by simp [truncH]
   rw [ht]
   have hsz : m.length + 1 ≤ 1073741824 := by simp at hl; omega
   simp [exApp, appRoom, hsz]
 simp [fi35, c35, evFun, enterFr, intBin, resV, rvVs, rvV, e0]
theorem t80 (b : Nat) (e : Event) (n : Int) (H : Heap) (sh : Bool) (h : H[b]? = some (.arr 0 4 sh [e.av])) : W.call (.clo 38 [] [.optr b 0 0 0]) [I n] H = some (.bool (decide (e.time < n)), H) := by
 rw [W_call Φ38]
 simp [-getElem?_pos, gEz, fi38, c38, evFun, enterFr, intBin, resV, rvVs, rvV, h]
theorem t95 (f : AV) (kf : okO f = some f) (q : Int → Bool) (H : Heap) (hf : ∀ y, W.call f [I y] H = some (.bool (q y), H)) (x : Sl Int) (hl : x.l.length ≤ 1000000) : W.call (.clo 62 [] []) [Sl.ints x, f] H = some (I (idxP q x.l), H) := by
 rw [W_call Φ62]
 have hL := loop_all (Φ := Φ) (live := [0, 1, 7, 8]) (L := l62_0) x.l (fun k c _ => if q c then (.inr (k : Int) : Unit ⊕ Int) else .inl ()) (fun k _ F G => F = [(0, Sl.ints x), (1, f), (7, I x.l.length), (8, I k)] ∧ G = H) (fun k y F G => y = .ret ∧ F.get 4 = I k ∧ G = H) (fun _ y F G => y = .exit 0 ∧ G = H) (s := ()) (H := H) ⟨rfl, rfl⟩ ?_ ?_
 ·simp only [Int.natCast_zero] at hL
  unfold idxP
  cases hff : foldE (σ := Unit) (ρ := Int) (fun k a _ => if q a then .inr (k : Int) else .inl ()) 0 x.l () with
  | inl u =>
   rw [hff] at hL
   obtain ⟨y, F, G, e1, rfl, rfl⟩ := okC_iff.1 hL
   simp [fi62, c62, evFun, enterFr, intBin, resV, rvVs, rvV, kf, e1]
  | inr k =>
   rw [hff] at hL
   obtain ⟨y, F, G, e1, rfl, e2, rfl⟩ := okC_iff.1 hL
   simp [fi62, c62, evFun, enterFr, intBin, resV, rvVs, rvV, kf, e1, e2]
 ·rintro k y ⟨⟩ F G hk hy ⟨rfl, rfl⟩
  have hw := wrap_succ (k := k) (by omega)
  have hky : x.l[k] = y := (gEs.1 hy).2
  have hfy := hf y
  cases hq : q y with
  | true => rw [hq] at hfy; simp [evl62_0, b62_0, intBin, hk, hky, hw, kf, hfy]
  | false => rw [hq] at hfy; simp [evl62_0, b62_0, intBin, hk, hky, hw, kf, hfy]
 ·rintro ⟨⟩ F G ⟨rfl, rfl⟩
  simp [evl62_0, b62_0, intBin]
theorem t79 (f : AV) (kf : okO f = some f) (q : Int → Bool) (H : Heap) (hf : ∀ y, W.call f [I y] H = some (.bool (q y), H)) (x : Sl Int) (hl : x.l.length ≤ 1000000) : W.call (.clo 37 [] []) [Sl.ints x, f] H = some (.bool (x.l.any q), H) := by
 rw [W_call Φ37, ← idxP_any]
 have h := t95 f kf q H hf x hl
 simp [fi37, c37, evFun, enterFr, intBin, resV, rvVs, rvV, kf, h]
def lateX (tm : Int) (x : State) : Bool := x.restarts.l.any fun n => decide (tm < n)
def lateT (s : List State) (tm : Int) : Bool := s.any (lateX tm)
section treem
variable {l : Sl Spec} {pl : Sl (Nat × Nat)} {p S vS : Nat} {oA : Option Nat} {ss : List State} {out : List Event} {H : Heap}
theorem TreeM.setQ (h : TreeM l pl p S vS oA none ⟨ss, out, []⟩ H) (d : Due) :
  ∃ av, H[p]? = some (.arr 0 5 false [mkT l S vS pl av (.isl (some true) 0 [])]) ∧ TreeM l pl p S vS oA (some H.length) ⟨ss, out, [d]⟩ ((H ++ [Blk.arr 0 5 false [d.av]]).set p (Blk.arr 0 5 false [mkT l S vS pl av (.osl H.length 0 0 1)])) := by
 obtain ⟨av, qv, e1, e2, e3, _⟩ := h.blk
 subst e3
 obtain ⟨svs, s1, s2, s3⟩ := h.sup
 obtain ⟨n1, n2, n3, n4, n5, n6⟩ := h.ne
 have hp := (gEs.1 e1).1
 have hS := (gEs.1 s1).1
 have hk0 := Kept.append none H [.arr 0 5 false [d.av]]
 have hk : Kept (some p) (H ++ [Blk.arr 0 5 false [d.av]]) ((H ++ [Blk.arr 0 5 false [d.av]]).set p (Blk.arr 0 5 false [mkT l S vS pl av (.osl H.length 0 0 1)])) := Kept.set _ _ _
 have hu : UpTo (OwnT p S oA none) H ((H ++ [Blk.arr 0 5 false [d.av]]).set p (Blk.arr 0 5 false [mkT l S vS pl av (.osl H.length 0 0 1)])) := (hk0.upTo' (X := OwnT p S oA none)).trans hk.upTo (fun j hj _ => by cases hj; exact .inl rfl)
 refine ⟨av, e1, ⟨av, .osl H.length 0 0 1, gEt (by simp; omega), (e2.kept hk0 (by simp)).kept hk (fun i hi e => n2 (by rw [e, hi])), ⟨0, [], [], rfl, ?_⟩⟩, ⟨svs, hk.get (fun e => n1 (by cases e; rfl)) (hk0.get (by simp) s1), s2, fun k sv s x y => (s3 k sv s x y).upTo hu (fun _ h _ => h) (fun j hj hl => ?_)⟩, h.len, ⟨n1, n2, n3, fun e => by cases e; omega, fun e => by cases e; omega, fun i hi e => ?_⟩, h.small, h.em⟩
 ·rw [gEn (by omega)]; simp
 ·rcases hj with rfl | rfl | hj | hj
  ·exact .inl rfl
  ·exact .inr (.inl rfl)
  ·exact .inr (.inr (.inl hj))
  ·cases hj; omega
 ·cases e
  have := h.lt (.inr (.inr (.inl hi)) : OwnT p S oA none H.length)
  omega
end treem
end
section
def RanOk (t : Tree) (v : AV) : Prop := ∃ (ss : Sl State) (a : Sl Event), v = .tuple [states ss, Sl.av Event.av 4 a, I 0] ∧ ss.l.map State.core = t.ss.map State.core ∧ (∀ s ∈ ss.l, KnownS s) ∧ a.l = t.out ∧ KnownNil a ∧ ss.nl = some false ∧ (a.l = [] → Sl.av Event.av 4 a = .isl (some true) 0 [])
def noRun (e : Int) : AV := .tuple [.isl (some true) 0 [], .isl (some true) 0 [], I e]
theorem loop57_1 {l : Sl Spec} {pl : Sl (Nat × Nat)} {p S vS : Nat} {oA oQ : Option Nat} {t : Tree} (s : Sl State) (hl : s.l.length ≤ 1000) (hs : SmallS s.l) (k : Nat) (b : Nat) (e : Event) {H : Heap} (h : TreeM l pl p S vS oA oQ t H) (hb : H[b]? = some (.arr 0 4 false [e.av])) :
  okC (W.loop [2, 7, 11, 43, 44, 45] l24_1 [(2, I k), (7, .optr b 0 0 0), (11, .optr p 0 0 0), (43, states s), (44, I s.l.length), (45, I 0)] H) (fun y F G => if lateT s.l e.time = true then y = .ret ∧ F.get 8 = .isl (some true) 0 [] ∧ F.get 9 = .isl (some true) 0 [] ∧ F.get 10 = I 9 else y = .exit 0 ∧ F.keep [2, 7, 11] = [(2, I k), (7, .optr b 0 0 0), (11, .optr p 0 0 0)] ∧ TreeM l pl p S vS oA oQ t G ∧ G[b]? = some (.arr 0 4 false [e.av])) := by
 have hL := loop_all (Φ := Φ) (live := [2, 7, 11, 43, 44, 45]) (L := l24_1) s.l (fun i x _ => if !lateX e.time x then .inl () else (.inr () : Unit ⊕ Unit))
  (fun i _ F G => F = [(2, I k), (7, .optr b 0 0 0), (11, .optr p 0 0 0), (43, states s), (44, I s.l.length), (45, I i)] ∧ TreeM l pl p S vS oA oQ t G ∧ G[b]? = some (.arr 0 4 false [e.av]))
  (fun _ y F G => y = .ret ∧ F.get 8 = .isl (some true) 0 [] ∧ F.get 9 = .isl (some true) 0 [] ∧ F.get 10 = I 9) (fun _ y F G => y = .exit 0 ∧ F.keep [2, 7, 11] = [(2, I k), (7, .optr b 0 0 0), (11, .optr p 0 0 0)] ∧ TreeM l pl p S vS oA oQ t G ∧ G[b]? = some (.arr 0 4 false [e.av])) (s := ()) (H := H) ⟨rfl, h, hb⟩ ?_ ?_
 ·simp only [Int.natCast_zero] at hL
  rw [foldE_all (fun _ x => !lateX e.time x)] at hL
  have hall : (s.l.zipIdx.all fun p => !lateX e.time p.1) = !lateT s.l e.time := by
   unfold lateT
   rw [List.not_any_eq_all_not]
   have : (s.l.zipIdx.map Prod.fst).all (fun x => !lateX e.time x) = s.l.all (fun x => !lateX e.time x) := by rw [List.zipIdx_map_fst]
   rw [← this, List.all_map]; rfl
  rw [hall] at hL
  cases hlt : lateT s.l e.time with
  | true => rw [hlt, if_neg (by decide)] at hL; simp only [if_true]; exact hL
  | false => rw [hlt, if_pos (by decide)] at hL; simp only [Bool.false_eq_true, if_false]; exact hL
 ·rintro i x ⟨⟩ F G hi hx ⟨rfl, g1, g2⟩
  have hw := wrap_succ (k := i) (by omega)
  obtain ⟨m1, n1⟩ := g1.box (.arr 0 4 false [x.av])
  have g2' := app_get g2 (.arr 0 4 false [x.av])
  have c79 := t79 (.clo 38 [] [.optr b 0 0 0]) rfl (fun n => decide (e.time < n)) (G ++ [.arr 0 4 false [x.av]]) (fun y => t80 b e y _ false g2') x.restarts (by have := hs x (List.mem_of_getElem? hx); omega)
  have hlx : lateX e.time x = x.restarts.l.any fun n => decide (e.time < n) := rfl
  rw [← hlx] at c79
  cases hq : lateX e.time x with
  | true =>
   rw [hq] at c79
   simp [-getElem?_pos, gEz, app_last, sx11, evl24_1, b24_1, intBin, hi, hx, hw, c79]
  | false =>
   rw [hq] at c79
   simp [-getElem?_pos, gEz, app_last, sx11, evl24_1, b24_1, intBin, hi, hx, hw, c79]
   exact ⟨m1, g2'⟩
 ·rintro ⟨⟩ F G ⟨rfl, g1, g2⟩
  simp [evl24_1, b24_1, intBin]
  exact ⟨g1, g2⟩
theorem t57 {l : Sl Spec} {s : Sl State} (hn : NamesOk l.l) (ht : TreeOk l.l) (hl : s.l.length = l.l.length) (hs : SmallS s.l) (hks : ∀ x ∈ s.l, KnownS x) (hnl : s.nl = some false) {k : Nat} (hk : k < l.l.length) (e : Event) :
  (handleE (l.l.getD k default) (s.l.getD k default) e ≠ 0 → W.pure 24 [specs l, states s, I k, e.av] = some (noRun (handleE (l.l.getD k default) (s.l.getD k default) e))) ∧
  (handleE (l.l.getD k default) (s.l.getD k default) e = 0 → lateT s.l e.time = true → W.pure 24 [specs l, states s, I k, e.av] = some (noRun 9)) ∧
  (handleE (l.l.getD k default) (s.l.getD k default) e = 0 → lateT s.l e.time = false → ∀ t', Drains l.l ⟨s.l, [], [⟨k, e⟩]⟩ t' → ∃ v, W.pure 24 [specs l, states s, I k, e.av] = some v ∧ RanOk t' v) := by
 have hlen := ht.len
 have hx := gEg hk
 have hgx : l.l.getD k default = l.l[k] := by rw [gEd, hx]; rfl
 rw [hgx]
 generalize l.l[k] = x at hx
 have hkl : k < s.l.length := by omega
 have hsk := gEg hkl
 have hgs : s.l.getD k default = s.l[k] := by rw [gEd, hsk]; rfl
 rw [hgs]
 generalize s.l[k] = st at hsk
 have hsm := hs st (List.mem_of_getElem? hsk)
 have hkn := hks st (List.mem_of_getElem? hsk)
 have hlx := chk_len (ht.ok k x hx)
 obtain ⟨pl, h38, hpl⟩ := t38 ht
 obtain ⟨v, d1, d2⟩ := e13 x st e (hn x (List.mem_of_getElem? hx)) (by omega) (by omega) (by omega) hkn.1 hkn.2
 have hcl := call78 s hnl (by intro h; rw [h] at hl; simp at hl; omega) (by omega) [.arr 0 4 false [e.av]]
 have hz : (.agg [I 0, .isl (some true) 0 [], .isl (some true) 0 [], .bool false] : AV) = zeroState.av := rfl
 unfold HandleOk at d2
 have hb0 : ([Blk.arr 0 4 false [e.av]] ++ [Blk.arr s.l.length 4 false (s.l.map State.av)] : Heap) = [.arr 0 4 false [e.av], .arr s.l.length 4 false (s.l.map State.av)] := rfl
 rw [hb0] at hcl
 simp only [List.length_singleton] at hcl
 -- the tree at first
 have first : ∀ B : Blk, TreeM l pl 2 1 s.l.length none none ⟨s.l, [], []⟩ [.arr 0 4 false [e.av], .arr s.l.length 4 false (s.l.map State.av), .arr 0 5 false [mkT l 1 s.l.length pl (.isl (some true) 0 []) (.isl (some true) 0 [])], B] := fun B =>
  ⟨⟨_, _, rfl, grow_nil _ _, ⟨rfl, rfl⟩⟩, ⟨s.l.map State.av, rfl, by simpa using hl, fun j sv s' a b => by
   rw [List.getElem?_map] at a
   simp only at b
   rw [b] at a
   cases a
   have := hks s' (List.mem_of_getElem? b)
   exact StV.of rfl this.1 this.2⟩, hl, ⟨by decide, by simp, by simp, by simp, by simp, by simp⟩, hs, .inl rfl⟩
 refine ⟨fun hE => ?_, fun hE hlate => ?_, fun hE hlate t' hd => ?_⟩
 ·rw [if_neg hE] at d2
  subst d2
  rw [W_pure Φ24 (by simp)]
  simp [-getElem?_pos, gEz, fi24, c24, evFun, enterFr, intBin, resV, rvVs, rvV, hcl, h38, hx, hsk, d1, hz, hE, noRun, hl]
 ·rw [if_pos hE] at d2
  obtain ⟨t1, a, rfl, d3, d4⟩ := d2
  have hL := loop57_1 s (by omega) hs k 0 e (first (.arr 0 4 false [t1.av])) rfl
  simp only [if_pos hlate] at hL
  obtain ⟨y, F, G, f1, rfl, f2, f3, f4⟩ := okC_iff.1 hL
  rw [W_pure Φ24 (by simp)]
  simp only [mkT, hl] at f1
  simp [-getElem?_pos, gEz, fi24, c24, evFun, enterFr, intBin, resV, rvVs, rvV, hcl, h38, hx, hsk, d1, hz, f1, f2, f3, f4, noRun, hl]
 ·rw [if_pos hE] at d2
  obtain ⟨t1, a, rfl, d3, d4⟩ := d2
  have hL := loop57_1 s (by omega) hs k 0 e (first (.arr 0 4 false [t1.av])) rfl
  simp only [if_neg (show ¬ lateT s.l e.time = true by rw [hlate]; decide)] at hL
  obtain ⟨y, F, G, f1, rfl, f2, f3, f4⟩ := okC_iff.1 hL
  simp only [keep_cons, keep_nil, List.cons.injEq, Prod.mk.injEq, true_and, and_true] at f2
  obtain ⟨g2, g7, g11⟩ := f2
  obtain ⟨av, q1, q2⟩ := f3.setQ ⟨k, e⟩
  obtain ⟨y, F2, G2, w1, rfl, w2, oA, oQ, w3⟩ := okC_iff.1 (drains_loop ht hn hpl hd q2)
  obtain ⟨av2, qv2, u1, u2, u3⟩ := w3.blk
  obtain ⟨ss, r1, r2, r3, r4⟩ := w3.frzS 4
  obtain ⟨a2, v1, v2, v3⟩ := u2.slG (n := 6) (all_still (fun x => by simp) _)
  have hem : a2.l = [] → Sl.av Event.av 4 a2 = .isl (some true) 0 [] := by
   intro h0
   rcases w3.em with h1 | h1
   ·subst h1
    obtain ⟨q0, _⟩ := u2
    have v1' := v1
    rw [q0, frz_isl] at v1'
    exact (Option.some.inj v1').symm
   ·exact absurd (v2.symm.trans h0) h1
  refine ⟨.tuple [states ss, Sl.av Event.av 4 a2, I 0], ?_, ss, a2, rfl, r2, r3, v2, v3, r4, hem⟩
  rw [W_pure Φ24 (by simp)]
  have q1' := app_get q1 (.arr 0 5 false [(⟨k, e⟩ : Due).av])
  have hdv : (⟨k, e⟩ : Due).av = .agg (I k :: e.av.cells) := rfl
  simp only [mkT, hl] at f1 q1 q1' w1 u1
  rw [hdv] at q1' w1
  rw [hl] at r1
  simp [-getElem?_pos, gEz, app_last, fi24, c24, evFun, enterFr, intBin, resV, rvVs, rvV, hcl, h38, hx, hsk, d1, hz, f1, g2, g7, g11, f4, q1, q1', w1, w2, u1, u2.okO, u2.cells, r1, v1, hl]
end
section
def Imm (a : AV) : Prop := ∃ nl z es, a = .isl nl z es
theorem imm_nil : Imm (.isl (some true) 0 []) := ⟨_, _, _, rfl⟩
theorem imm_sl {α : Type} (f : α → AV) (sz : Nat) (x : Sl α) : Imm (Sl.av f sz x) := ⟨_, _, _, rfl⟩
theorem t27 {l : Sl Spec} {s : Sl State} (hn : NamesOk l.l) (hc : chkT l.l = 0) (hs : SmallS s.l) (hsl : s.l.length ≤ 1000000) (hv : validT l.l s.l = true) {w i c : Nat} (hw : (ordT l.l)[w]? = some (i, c)) (reason tm : Int) {a b : AV} {n : Int} (ha : Imm a) (hb : Imm b)
  (h57 : W.pure 24 [specs l, states s, I i, (⟨1, c, reason, tm⟩ : Event).av] = some (.tuple [a, b, I n])) : W.pure 6 [specs l, states s, I w, I reason, I tm] = some (.tuple [a, b, I n]) := by
 have ht := tree_of hc
 have h22 := t22 l hn (by have := ht.len.2; omega)
 rw [hc] at h22
 have h56 := t56 ht hn hs hsl
 rw [hv] at h56
 obtain ⟨pl, h38, hpl⟩ := t38 ht
 have hwl := (gEs.1 hw).1
 rw [← hpl] at hw hwl
 have hwl' : (w : Int) < (pl.l.length : Int) := by omega
 obtain ⟨a1, a2, a3, rfl⟩ := ha
 obtain ⟨b1, b2, b3, rfl⟩ := hb
 have hpa : plA (i, c) = .agg [I i, I c] := rfl
 have hev : (⟨1, c, reason, tm⟩ : Event).av = .agg [I 1, I c, I reason, I tm] := rfl
 rw [hev] at h57
 rw [W_pure Φ6 (by simp)]
 have hnn : ¬ (w : Int) < 0 := by omega
 have hnl : ¬ (pl.l.length : Int) ≤ (w : Int) := by omega
 simp [-getElem?_pos, gEz, fi6, c6, evFun, enterFr, intBin, resV, rvVs, rvV, h22, h56, h38, hw, hwl, hwl', hnn, hnl, hpa, h57]
theorem t27r {l : Sl Spec} {s : Sl State} (hn : NamesOk l.l) (hc : chkT l.l = 0) (hs : SmallS s.l) (hsl : s.l.length ≤ 1000000) (hv : validT l.l s.l = true) {w : Int} (hw : w < 0 ∨ ((ordT l.l).length : Int) ≤ w) (reason tm : Int) : W.pure 6 [specs l, states s, I w, I reason, I tm] = some (noRun 2) := by
 have ht := tree_of hc
 have h22 := t22 l hn (by have := ht.len.2; omega)
 rw [hc] at h22
 have h56 := t56 ht hn hs hsl
 rw [hv] at h56
 obtain ⟨pl, h38, hpl⟩ := t38 ht
 rw [← hpl] at hw
 rw [W_pure Φ6 (by simp)]
 rcases hw with hw | hw
 ·simp [-getElem?_pos, gEz, fi6, c6, evFun, enterFr, intBin, resV, rvVs, rvV, h22, h56, h38, hw, noRun]
 ·simp [-getElem?_pos, gEz, fi6, c6, evFun, enterFr, intBin, resV, rvVs, rvV, h22, h56, h38, hw, noRun]
theorem t26 {l : Sl Spec} {s : Sl State} (hn : NamesOk l.l) (hc : chkT l.l = 0) (hs : SmallS s.l) (hsl : s.l.length ≤ 1000000) (hv : validT l.l s.l = true) (tm : Int) {a b : AV} {n : Int} (ha : Imm a) (hb : Imm b)
  (h57 : W.pure 24 [specs l, states s, I 0, (⟨2, -1, 0, tm⟩ : Event).av] = some (.tuple [a, b, I n])) : W.pure 10 [specs l, states s, I tm] = some (.tuple [a, b, I n]) := by
 have ht := tree_of hc
 have h22 := t22 l hn (by have := ht.len.2; omega)
 rw [hc] at h22
 have h56 := t56 ht hn hs hsl
 rw [hv] at h56
 obtain ⟨a1, a2, a3, rfl⟩ := ha
 obtain ⟨b1, b2, b3, rfl⟩ := hb
 have hev : (⟨2, -1, 0, tm⟩ : Event).av = .agg [I 2, I (-1), I 0, I tm] := rfl
 rw [hev] at h57
 rw [W_pure Φ10 (by simp)]
 simp [-getElem?_pos, gEz, fi10, c10, evFun, enterFr, intBin, resV, rvVs, rvV, h22, h56, h57]
def greatT (l : List Spec) : Bool := decide (10 < l.length) || l.any greatB
theorem great_names {l : List Spec} (h : greatT l = false) : NamesOk l ∧ l.length ≤ 10 := by
 simp only [greatT, Bool.or_eq_false_iff, decide_eq_false_iff_not] at h
 refine ⟨fun x hx c hc => ?_, by omega⟩
 have := List.any_eq_false.1 h.2 x hx
 have h2 := (great_false (x := x) (by simpa using this)).2 c hc
 omega
end
section
theorem has_replicate (n : Nat) (k : Int) : Has (List.replicate n start1) k → k = 1 := by
 rintro ⟨i, c, h1, h2⟩
 have := List.mem_of_getElem? h1
 have := (List.mem_replicate.1 this).2
 subst this
 exact h2.symm
theorem start_inv {x : Spec} (h0 : chk x = 0) : Inv x 1 (runOf (startS x)) := by
 have hi : 0 ≤ x.intensity := by have := (chk_ok h0).2.1; simp [inR] at this; exact this.1
 refine ⟨by simp [runOf, startS], fun i c hc => ?_, .inl ⟨rfl, fun h => by have := has_replicate _ _ h; omega, fun h => by have := has_replicate _ _ h; omega⟩, ⟨by simp [runOf, startS], by simp [runOf, startS]⟩, by simpa [runOf, startS] using hi, fun e => by cases e⟩
 have := List.mem_of_getElem? hc
 have := (List.mem_replicate.1 this).2
 subst this
 simp [start1]
theorem inv_core {x : Spec} {m : Int} {s t : State} (h : s.core = t.core) (hi : Inv x m (runOf s)) : Inv x m (runOf t) := by rw [← runOf_core h]; exact hi
theorem inv_mkS {x : Spec} {m : Int} {r : RunSt} (hi : Inv x m r) : Inv x m (runOf (mkS r)) := ⟨hi.len, hi.ok, hi.fit, hi.times, hi.few, hi.fl⟩
theorem handleE_check {x : Spec} {s : State} {e : Event} (h : handleE x s e = 0) : validB x s = true ∧ checkN x s e = 0 := by
 unfold handleE at h
 by_cases hv : validB x s = true
 ·rw [if_pos hv] at h; exact ⟨hv, h⟩
 ·rw [if_neg hv] at h; cases h
structure One (x : Spec) : Prop where
 ok : chk x = 0
 subs : ∀ c ∈ x.children.l, c.sub = -1
end
section
end
section
structure One3 (x : Spec) (k : Nat) (now : Int) (ss : Sl State) (s st : State) : Prop where
 l : ss.l = [s]
 nl : ss.nl = some false
 ks : KnownS s
 kst : KnownS st
 core : s.core = st.core
 inv : Inv x (1 + k) (runOf st)
 time : 0 ≤ now ∧ now ≤ 255 * k
end
section
def partB (l : List Spec) (i c k : Nat) : List Child := if k < i then kids l k else (kids l k).take c
theorem seen_parts (l : List Spec) (i c : Nat) : seen l i c = (List.range (i + 1)).flatMap (partB l i c) := by
 unfold seen
 rw [List.range_succ, List.flatMap_append]
 congr 1
 ·have : ∀ (m : List Nat), (∀ k ∈ m, k < i) → m.flatMap (kids l) = m.flatMap (partB l i c) := by
   intro m
   induction m with
   | nil => intro _; rfl
   | cons k m ih =>
    intro h
    rw [List.flatMap_cons, List.flatMap_cons, ih (fun j hj => h j (by simp [hj]))]
    congr 1
    unfold partB; rw [if_pos (h k (by simp))]
  exact this _ (fun k hk => by simpa using hk)
 ·simp [partB]
theorem foldE_any {α : Type} (q : α → Bool) (l : List α) : foldE (fun _ a (_ : Unit) => if q a = true then (.inr () : Unit ⊕ Unit) else .inl ()) 0 l () = if l.any q = true then .inr () else .inl () := by
 have key : ∀ (l : List α) (k : Nat), foldE (fun _ a (_ : Unit) => if q a = true then (.inr () : Unit ⊕ Unit) else .inl ()) k l () = if l.any q = true then .inr () else .inl () := by
  intro l
  induction l with
  | nil => intro k; rfl
  | cons a l ih =>
   intro k
   by_cases h : q a = true
   ·simp [foldE, h]
   ·simp only [foldE, h, if_false, ih, List.any_cons, Bool.false_or, Bool.not_eq_true] at *
    simp [h]
 exact key l 0
section
attribute [local irreducible] okC okV
theorem loop54_0 {l : Sl Spec} (ht : ∀ x ∈ l.l, x.children.l.length ≤ 1000) (i c k : Nat) (ch : Child) (hik : k ≤ i) (hi : i < l.l.length) (hil : i ≤ 1000) (hch : (kids l.l i)[c]? = some ch) {H : Heap} (h0 : H[0]? = some (.arr 0 3 false [ch.av])) :
  okC (W.loop [0, 1, 2, 7, 8, 9] l65_0 [(0, specs l), (1, I i), (2, I c), (7, .optr 0 0 0 0), (8, I k), (9, I 0)] H) (fun y F G => if (partB l.l i c k).any (sameC ch) = true then y = .ret ∧ F.get 6 = .bool true else y = .exit 2 ∧ F.keep [0, 1, 2, 7, 8] = [(0, specs l), (1, I i), (2, I c), (7, .optr 0 0 0 0), (8, I k)] ∧ G[0]? = some (.arr 0 3 false [ch.av])) := by
 have hkl : k < l.l.length := by omega
 have hx := gEg hkl
 have hxm := ht _ (List.getElem_mem hkl)
 generalize l.l[k] = x at *
 have hkid := kids_of hx
 have hcl := (gEs.1 hch).1
 have hpl : (partB l.l i c k).length = if k < i then x.children.l.length else c := by
  unfold partB
  split
  ·rw [hkid]
  ·have : k = i := by omega
   subst this
   rw [List.length_take]; omega
 have hpat : ∀ m : Nat, m < (partB l.l i c k).length → x.children.l[m]? = (partB l.l i c k)[m]? := by
  intro m hm
  unfold partB at hm ⊢
  split at hm
  ·rename_i h; rw [if_pos h, hkid]
  ·rename_i h
   rw [if_neg h, hkid]
   rw [List.length_take] at hm
   rw [List.getElem?_take, if_pos (by omega)]
 have hlt : ∀ m : Nat, m < (partB l.l i c k).length → m < x.children.l.length ∧ (k < i ∨ m < c) := by
  intro m hm
  rw [hpl] at hm
  split at hm
  ·exact ⟨hm, .inl ‹_›⟩
  ·have : k = i := by omega
   subst this
   rw [hkid] at hcl
   exact ⟨by omega, .inr hm⟩
 have hL := loop_all (Φ := Φ) (live := [0, 1, 2, 7, 8, 9]) (L := l65_0) (partB l.l i c k) (fun _ y _ => if sameC ch y = true then (.inr () : Unit ⊕ Unit) else .inl ())
  (fun m _ F G => F = [(0, specs l), (1, I i), (2, I c), (7, .optr 0 0 0 0), (8, I k), (9, I m)] ∧ G[0]? = some (.arr 0 3 false [ch.av]))
  (fun _ y F G => y = .ret ∧ F.get 6 = .bool true) (fun _ y F G => y = .exit 2 ∧ F.keep [0, 1, 2, 7, 8] = [(0, specs l), (1, I i), (2, I c), (7, .optr 0 0 0 0), (8, I k)] ∧ G[0]? = some (.arr 0 3 false [ch.av])) (s := ()) (H := H) ⟨rfl, h0⟩ ?_ ?_
 ·simp only [Int.natCast_zero] at hL
  rw [foldE_any] at hL
  split
  ·rename_i h; rw [if_pos h] at hL; exact hL
  ·rename_i h; rw [if_neg h] at hL; exact hL
 ·rintro m y ⟨⟩ F G hm hy ⟨rfl, g0⟩
  obtain ⟨b1, b2⟩ := hlt m hm
  have hw := wrap_succ (k := m) (by omega)
  have hym : x.children.l[m]? = some y := by rw [hpat m hm]; exact hy
  have g0' := app_get g0 (.arr 0 3 false [y.av])
  have hsame : sameC ch y = (decide (y.sub = ch.sub) && (!decide (ch.sub = -1) || decide (ch.name = y.name))) := rfl
  have goal : ∀ (hb : (k : Int) < (i : Int) ∨ ¬ (k : Int) < (i : Int) ∧ (m : Int) < (c : Int)), okC (evC W l65_0 [(0, specs l), (1, I i), (2, I c), (7, .optr 0 0 0 0), (8, I k), (9, I m)] G)
   (TurnOk (fun (_ : Unit) F' H' => F'.keep [0, 1, 2, 7, 8, 9] = [(0, specs l), (1, I i), (2, I c), (7, .optr 0 0 0 0), (8, I k), (9, I ((m + 1 : Nat) : Int))] ∧ H'[0]? = some (.arr 0 3 false [ch.av])) (fun _ y F G => y = .ret ∧ F.get 6 = .bool true) (if sameC ch y = true then (.inr () : Unit ⊕ Unit) else .inl ())) := by
   intro hb
   have b1' : (m : Int) < (x.children.l.length : Int) := by omega
   rw [hsame]
   by_cases q1 : y.sub = ch.sub
   ·by_cases q2 : ch.sub = -1
    ·by_cases q3 : ch.name = y.name
     ·rcases hb with hb | ⟨hb, hb2⟩
      ·have hbn : k < i := by omega
       simp [-getElem?_pos, gEz, app_last, sx11, strBin, evl65_0, b65_0, intBin, hx, hym, hw, b1, b1', hb, hbn, g0, g0', q1, q2, q3]
      ·have hbn : ¬ k < i := by omega
       have hbn2 : m < c := by omega
       simp [-getElem?_pos, gEz, app_last, sx11, strBin, evl65_0, b65_0, intBin, hx, hym, hw, b1, b1', hb, hb2, hbn, hbn2, g0, g0', q1, q2, q3]
     ·rcases hb with hb | ⟨hb, hb2⟩
      ·have hbn : k < i := by omega
       simp [-getElem?_pos, gEz, app_last, sx11, strBin, evl65_0, b65_0, intBin, hx, hym, hw, b1, b1', hb, hbn, g0, g0', q1, q2, q3]
      ·have hbn : ¬ k < i := by omega
       have hbn2 : m < c := by omega
       simp [-getElem?_pos, gEz, app_last, sx11, strBin, evl65_0, b65_0, intBin, hx, hym, hw, b1, b1', hb, hb2, hbn, hbn2, g0, g0', q1, q2, q3]
    ·rcases hb with hb | ⟨hb, hb2⟩
     ·have hbn : k < i := by omega
      simp [-getElem?_pos, gEz, app_last, sx11, strBin, evl65_0, b65_0, intBin, hx, hym, hw, b1, b1', hb, hbn, g0, g0', q1, q2]
     ·have hbn : ¬ k < i := by omega
      have hbn2 : m < c := by omega
      simp [-getElem?_pos, gEz, app_last, sx11, strBin, evl65_0, b65_0, intBin, hx, hym, hw, b1, b1', hb, hb2, hbn, hbn2, g0, g0', q1, q2]
   ·rcases hb with hb | ⟨hb, hb2⟩
    ·have hbn : k < i := by omega
     simp [-getElem?_pos, gEz, app_last, sx11, strBin, evl65_0, b65_0, intBin, hx, hym, hw, b1, b1', hb, hbn, g0, g0', q1]
    ·have hbn : ¬ k < i := by omega
     have hbn2 : m < c := by omega
     simp [-getElem?_pos, gEz, app_last, sx11, strBin, evl65_0, b65_0, intBin, hx, hym, hw, b1, b1', hb, hb2, hbn, hbn2, g0, g0', q1]
  exact goal (by omega)
 ·rintro ⟨⟩ F G ⟨rfl, g0⟩
  rw [hpl]
  by_cases hki : k < i
  ·rw [if_pos hki]
   simp [-getElem?_pos, gEz, evl65_0, b65_0, intBin, hx]
   exact g0
  ·rw [if_neg hki]
   have hki' : ¬ (k : Int) < (i : Int) := by omega
   by_cases hcx : (c : Int) < (x.children.l.length : Int)
   ·have hcx' : c < x.children.l.length := by omega
    simp [-getElem?_pos, gEz, evl65_0, b65_0, intBin, hx, hki, hki', hcx, hcx']
    exact g0
   ·have hcx' : ¬ c < x.children.l.length := by omega
    simp [-getElem?_pos, gEz, evl65_0, b65_0, intBin, hx, hcx, hcx']
    exact g0
theorem t54 {l : Sl Spec} (ht : ∀ x ∈ l.l, x.children.l.length ≤ 1000) {i c : Nat} {ch : Child} (hi : i < l.l.length) (hil : i ≤ 1000) (hch : (kids l.l i)[c]? = some ch) : W.pure 65 [specs l, I i, I c] = some (.bool ((seen l.l i c).any (sameC ch))) := by
 rw [W_pure Φ65 (by simp)]
 have hx := gEg hi
 have hkid := kids_of hx
 have hch2 := hch
 rw [hkid] at hch2
 have hL := loop_all (Φ := Φ) (live := [0, 1, 2, 7, 8]) (L := l65_1) (List.range (i + 1)) (fun _ k _ => if (partB l.l i c k).any (sameC ch) = true then (.inr () : Unit ⊕ Unit) else .inl ())
  (fun k _ F G => F = [(0, specs l), (1, I i), (2, I c), (7, .optr 0 0 0 0), (8, I k)] ∧ G[0]? = some (.arr 0 3 false [ch.av]))
  (fun _ y F G => y = .ret ∧ F.get 6 = .bool true) (fun _ y F G => y = .exit 0) (s := ()) (H := [.arr 0 3 false [ch.av]]) ⟨rfl, rfl⟩ ?_ ?_
 ·simp only [Int.natCast_zero] at hL
  rw [foldE_any] at hL
  have hany : (List.range (i + 1)).any (fun k => (partB l.l i c k).any (sameC ch)) = (seen l.l i c).any (sameC ch) := by
   rw [seen_parts, List.any_flatMap]
  rw [hany] at hL
  generalize l.l[i] = x at *
  cases hs : (seen l.l i c).any (sameC ch) with
  | true =>
   rw [hs, if_pos rfl] at hL
   obtain ⟨y, F, G, e1, rfl, e2⟩ := okC_iff.1 hL
   simp [-getElem?_pos, gEz, fi65, c65, evFun, enterFr, intBin, resV, rvVs, rvV, hx, hch2, e1, e2]
  | false =>
   rw [hs, if_neg (by decide)] at hL
   obtain ⟨y, F, G, e1, rfl⟩ := okC_iff.1 hL
   simp [-getElem?_pos, gEz, fi65, c65, evFun, enterFr, intBin, resV, rvVs, rvV, hx, hch2, e1]
 ·rintro k a ⟨⟩ F G hk ha ⟨rfl, g0⟩
  have hka : a = k := by
   have := (gEs.1 ha).2
   simpa using this.symm
  subst hka
  simp only [List.length_range] at hk
  have hw := wrap_succ (k := a) (by omega)
  have hle : (a : Int) ≤ (i : Int) := by omega
  have hle' : a ≤ i := by omega
  have h0 := loop54_0 ht i c a ch hle' hi hil hch g0
  cases hs : (partB l.l i c a).any (sameC ch) with
  | true =>
   simp only [if_pos hs] at h0
   obtain ⟨y, F, G', e1, rfl, e2⟩ := okC_iff.1 h0
   simp [-getElem?_pos, gEz, evl65_1, b65_1, intBin, hle, hle', e1, e2]
  | false =>
   simp only [if_neg (show ¬ (partB l.l i c a).any (sameC ch) = true by rw [hs]; decide)] at h0
   obtain ⟨y, F, G', e1, rfl, e2, e3⟩ := okC_iff.1 h0
   simp only [keep_cons, keep_nil, List.cons.injEq, Prod.mk.injEq, true_and, and_true] at e2
   obtain ⟨q0, q1, q2, q7, q8⟩ := e2
   simp [-getElem?_pos, gEz, evl65_1, b65_1, intBin, hle, hle', hw, e1, q0, q1, q2, q7, q8]
   exact e3
 ·rintro ⟨⟩ F G ⟨rfl, g0⟩
  have : ¬ ((i + 1 : Nat) : Int) ≤ (i : Int) := by omega
  have hnn : ¬ (i : Int) + 1 ≤ (i : Int) := by omega
  simp [evl65_1, b65_1, intBin, hnn]
end
end
section
theorem subsN_owner {l : List Spec} (hs : ∀ (i c : Nat) (ch : Child), i < l.length → (kids l i)[c]? = some ch → stepC l i c ch = .inl ()) (hown : ∀ k, 1 ≤ k → k < l.length → ∃ i c, SubAt l i c k) : subsN (seen l l.length 0) = l.length - 1 := by
 have hsub : ∀ (i c : Nat) (ch : Child), i < l.length → (kids l i)[c]? = some ch → ch.sub = -1 ∨ ((i : Int) < ch.sub ∧ ch.sub < l.length) := by
  intro i c ch hi hch
  have := hs i c ch hi hch
  unfold stepC at this
  split at this
  ·cases this
  ·rename_i hn
   by_cases h1 : ch.sub = -1
   ·exact .inl h1
   ·right
    have : ¬ (ch.sub ≤ i ∨ (l.length : Int) ≤ ch.sub) := fun h => hn ⟨h1, h⟩
    omega
 have hnew : ∀ (i c : Nat) (ch : Child), i < l.length → (kids l i)[c]? = some ch → ∀ y ∈ seen l i c, sameC ch y = false := by
  intro i c ch hi hch y hy
  have := hs i c ch hi hch
  unfold stepC at this
  split at this
  ·cases this
  ·split at this
   ·cases this
   ·rename_i hn
    cases hq : sameC ch y with
    | false => rfl
    | true => exact absurd (List.any_eq_true.2 ⟨y, hy, hq⟩) hn
 have hpair : ∀ i, i ≤ l.length → (seen l i 0).Pairwise (fun y x => sameC x y = false) := by
  intro i
  induction i with
  | zero => intro _; simp [seen]
  | succ i ih =>
   intro hi
   have h1 := ih (by omega)
   have : ∀ c, c ≤ (kids l i).length → (seen l i c).Pairwise (fun y x => sameC x y = false) := by
    intro c
    induction c with
    | zero => intro _; exact h1
    | succ c ihc =>
     intro hc
     have hch := gEg (show c < (kids l i).length by omega)
     rw [seen_succ hch, List.pairwise_append]
     refine ⟨ihc (by omega), by simp, fun y hy x hx => ?_⟩
     simp only [List.mem_singleton] at hx
     subst hx
     exact hnew i c _ (by omega) hch y hy
   rw [← seen_next]
   exact this _ (Nat.le_refl _)
 have hn : (subsOf (seen l l.length 0)).Nodup := by
  unfold subsOf
  rw [List.Nodup, List.pairwise_map]
  refine List.Pairwise.imp_of_mem (fun {a b} ha hb hab => ?_) ((hpair l.length (Nat.le_refl _)).filter (fun c => !decide (c.sub = -1)))
  intro e
  have := (List.mem_filter.1 hb).2
  simp only [sameC, Bool.and_eq_false_iff, decide_eq_false_iff_not, Bool.or_eq_false_iff, Bool.not_eq_false', decide_eq_true_eq] at hab
  rcases hab with h | ⟨h, _⟩
  ·exact h e
  ·simp [h] at this
 have hin : ∀ x ∈ subsOf (seen l l.length 0), 1 ≤ x.toNat ∧ x.toNat < l.length ∧ x = (x.toNat : Int) := by
  intro x hx
  unfold subsOf at hx
  obtain ⟨ch, h1, rfl⟩ := List.mem_map.1 hx
  obtain ⟨h1, h2⟩ := List.mem_filter.1 h1
  obtain ⟨i, c, h3, h4⟩ := mem_seen h1
  simp only [Bool.not_eq_true', decide_eq_false_iff_not] at h2
  rcases hsub i c ch h3 h4 with h | h
  ·exact absurd h h2
  ·omega
 have a1 := nodup_le (subsOf (seen l l.length 0)) ((List.range (l.length - 1)).map fun j => ((j + 1 : Nat) : Int)) hn (fun x hx => by
  obtain ⟨h1, h2, h3⟩ := hin x hx
  exact List.mem_map.2 ⟨x.toNat - 1, by simp; omega, by omega⟩)
 have a2 := nodup_le ((List.range (l.length - 1)).map fun j => ((j + 1 : Nat) : Int)) (subsOf (seen l l.length 0)) (by
  rw [List.Nodup, List.pairwise_map]
  exact List.nodup_range.imp (fun h e => h (by omega))) (fun x hx => by
  obtain ⟨j, h1, rfl⟩ := List.mem_map.1 hx
  simp only [List.mem_range] at h1
  obtain ⟨i, c, h2, ch, h3, h4⟩ := hown (j + 1) (by omega) (by omega)
  unfold subsOf
  refine List.mem_map.2 ⟨ch, List.mem_filter.2 ⟨?_, by rw [h4]; simp; omega⟩, h4⟩
  unfold seen
  rw [List.take_zero, List.append_nil]
  exact List.mem_flatMap.2 ⟨i, by simpa using h2, List.mem_of_getElem? h3⟩)
 rw [List.length_map, List.length_range, subsOf_len] at a1 a2
 omega
section
attribute [local irreducible] okC okV
theorem loop55_0 {l : Sl Spec} (i : Nat) (x : Spec) (hx : l.l[i]? = some x) (hxl : x.children.l.length ≤ 1000) (k : Nat) (H : Heap) :
  okC (W.loop [0, 1, 6, 7] l42_0 [(0, specs l), (1, I k), (6, I i), (7, I 0)] H) (fun y F G => if 0 ≤ idxP (fun y => decide (y.sub = (k : Int))) x.children.l then y = .ret ∧ F.get 4 = I i ∧ F.get 5 = I (idxP (fun y => decide (y.sub = (k : Int))) x.children.l) else y = .exit 2 ∧ F.keep [0, 1, 6] = [(0, specs l), (1, I k), (6, I i)]) := by
 have hL := loop_all (Φ := Φ) (live := [0, 1, 6, 7]) (L := l42_0) x.children.l (fun c y _ => if decide (y.sub = (k : Int)) = true then (.inr (c : Int) : Unit ⊕ Int) else .inl ())
  (fun c _ F G => F = [(0, specs l), (1, I k), (6, I i), (7, I c)])
  (fun q y F G => y = .ret ∧ F.get 4 = I i ∧ F.get 5 = I q) (fun _ y F G => y = .exit 2 ∧ F.keep [0, 1, 6] = [(0, specs l), (1, I k), (6, I i)]) (s := ()) (H := H) rfl ?_ ?_
 ·simp only [Int.natCast_zero] at hL
  unfold idxP
  cases hf : foldE (fun c (y : Child) (_ : Unit) => if decide (y.sub = (k : Int)) = true then (.inr (c : Int) : Unit ⊕ Int) else .inl ()) 0 x.children.l () with
  | inl u => rw [hf] at hL; simp only [hf, if_neg (show ¬ (0 : Int) ≤ -1 by decide)]; exact hL
  | inr q =>
   rw [hf] at hL
   have hq : 0 ≤ q := by
    rcases foldE_unit (fun c (y : Child) => if decide (y.sub = (k : Int)) = true then (.inr (c : Int) : Unit ⊕ Int) else .inl ()) x.children.l 0 with ⟨h1, _⟩ | ⟨j, a, y, h1, h2, h3, h4⟩
    ·rw [h1] at hf; cases hf
    ·rw [h3] at hf; cases hf
     split at h2
     ·cases h2; omega
     ·cases h2
   simp only [hf, if_pos hq]; exact hL
 ·rintro c y ⟨⟩ F G hc hy rfl
  have hw := wrap_succ (k := c) (by omega)
  by_cases q : y.sub = (k : Int)
  ·simp [-getElem?_pos, gEz, evl42_0, b42_0, intBin, hx, hc, hy, hw, q]
  ·simp [-getElem?_pos, gEz, evl42_0, b42_0, intBin, hx, hc, hy, hw, q]
 ·rintro ⟨⟩ F G rfl
  simp [-getElem?_pos, gEz, evl42_0, b42_0, intBin, hx]
theorem t55 {l : Sl Spec} (ht : ∀ x ∈ l.l, x.children.l.length ≤ 1000) (hl : l.l.length ≤ 1000) (k : Nat) : (∃ i c, SubAt l.l i c k ∧ W.pure 42 [specs l, I k] = some (.tuple [I i, I c])) ∨ ((∀ i c, ¬ SubAt l.l i c k) ∧ W.pure 42 [specs l, I k] = some (.tuple [I (-1), I 0])) := by
 have hL := loop_all (Φ := Φ) (live := [0, 1, 6]) (L := l42_1) l.l (fun i x _ => if 0 ≤ idxP (fun y : Child => decide (y.sub = (k : Int))) x.children.l then (.inr ((i : Int), idxP (fun y : Child => decide (y.sub = (k : Int))) x.children.l) : Unit ⊕ (Int × Int)) else .inl ())
  (fun i _ F G => F = [(0, specs l), (1, I k), (6, I i)])
  (fun r y F G => y = .ret ∧ F.get 4 = I r.1 ∧ F.get 5 = I r.2) (fun _ y F G => y = .exit 0) (s := ()) (F := [(0, specs l), (1, I k), (6, I 0)]) (H := []) rfl ?_ ?_
 ·rcases foldE_unit (fun i (x : Spec) => if 0 ≤ idxP (fun y : Child => decide (y.sub = (k : Int))) x.children.l then (.inr ((i : Int), idxP (fun y : Child => decide (y.sub = (k : Int))) x.children.l) : Unit ⊕ (Int × Int)) else .inl ()) l.l 0 with ⟨g1, g2⟩ | ⟨j, x, r, g1, g2, g3, g4⟩
  ·right
   rw [g1] at hL
   obtain ⟨y, F, G, e1, rfl⟩ := okC_iff.1 hL
   refine ⟨fun i c hs => ?_, ?_⟩
   ·have hi := hs.1
    have hx := gEg hi
    have := g2 i _ hx
    rcases find_sub hx k with ⟨_, h⟩ | ⟨c', h, _⟩
    ·exact h c hs
    ·rw [h, if_pos (by omega)] at this; cases this
   ·rw [W_pure Φ42 (by simp)]
    simp [fi42, c42, evFun, enterFr, intBin, resV, rvVs, rvV, e1]
  ·left
   rw [g3] at hL
   rcases find_sub g1 k with ⟨h, _⟩ | ⟨c, h, hs⟩
   ·rw [h, if_neg (by omega)] at g2; cases g2
   ·rw [h, if_pos (by omega)] at g2
    simp only [Sum.inr.injEq] at g2
    subst g2
    obtain ⟨y, F, G, e1, rfl, e2, e3⟩ := okC_iff.1 hL
    simp only [Nat.zero_add] at e2 e3
    refine ⟨j, c, hs, ?_⟩
    rw [W_pure Φ42 (by simp)]
    simp [fi42, c42, evFun, enterFr, intBin, resV, rvVs, rvV, e1, e2, e3]
 ·rintro i x ⟨⟩ F G hi hx rfl
  have hw := wrap_succ (k := i) (by omega)
  have h0 := loop55_0 i x hx (ht x (List.mem_of_getElem? hx)) k G
  generalize idxP (fun y : Child => decide (y.sub = (k : Int))) x.children.l = q at *
  by_cases hq : 0 ≤ q
  ·simp only [if_pos hq] at h0 ⊢
   obtain ⟨y, F, G', e1, rfl, e2, e3⟩ := okC_iff.1 h0
   simp [-getElem?_pos, gEz, evl42_1, b42_1, intBin, hi, e1, e2, e3]
  ·simp only [if_neg hq] at h0 ⊢
   obtain ⟨y, F, G', e1, rfl, e2⟩ := okC_iff.1 h0
   simp only [keep_cons, keep_nil, List.cons.injEq, Prod.mk.injEq, true_and, and_true] at e2
   obtain ⟨q0, q1, q6⟩ := e2
   simp [-getElem?_pos, gEz, evl42_1, b42_1, intBin, hi, hw, e1, q0, q1, q6]
 ·rintro ⟨⟩ F G rfl
  simp [evl42_1, b42_1, intBin]
end
end
section
theorem flatMap_len {α β : Type} (f : α → List β) (n : Nat) : ∀ (l : List α), (∀ a ∈ l, (f a).length ≤ n) → (l.flatMap f).length ≤ l.length * n
 | [], _ => by simp
 | a :: l, h => by
  have h1 := h a (by simp)
  have h2 := flatMap_len f n l (fun b hb => h b (by simp [hb]))
  rw [List.flatMap_cons, List.length_append, List.length_cons, Nat.succ_mul]; omega
theorem kids_le {l : List Spec} (ht : ∀ x ∈ l, x.children.l.length ≤ 1000) (i : Nat) : (kids l i).length ≤ 1000 := by
 rcases Nat.lt_or_ge i l.length with h | h
 ·rw [kids_of (gEg h)]; exact ht _ (List.getElem_mem h)
 ·unfold kids
  rw [gEd, List.getElem?_eq_none h]
  exact Nat.zero_le _
theorem seen_len {l : List Spec} (ht : ∀ x ∈ l, x.children.l.length ≤ 1000) (i c : Nat) : (seen l i c).length ≤ i * 1000 + 1000 := by
 have h1 := flatMap_len (kids l) 1000 (List.range i) (fun a _ => kids_le ht a)
 have h2 := kids_le ht i
 unfold seen
 rw [List.length_append, List.length_take]
 rw [List.length_range] at h1
 omega
theorem workersN_le (L : List Child) : workersN L ≤ L.length := List.length_filter_le _ _
theorem workersN_snoc (L : List Child) (c : Child) : workersN (L ++ [c]) = if c.sub = -1 then workersN L + 1 else workersN L := by
 unfold workersN
 rw [List.filter_append]
 by_cases h : c.sub = -1 <;> simp [h]
section
attribute [local irreducible] okC okV
theorem turn23_1 {l : Sl Spec} (ht : ∀ x ∈ l.l, x.children.l.length ≤ 1000) (hl : l.l.length ≤ 8) (i : Nat) (x : Spec) (hx : l.l[i]? = some x) (c : Nat) (ch : Child) (hc : c < x.children.l.length) (hch : x.children.l[c]? = some ch) (H : Heap) :
  okC (evC W l40_1 [(0, specs l), (3, I (workersN (seen l.l i c))), (4, I i), (6, I c)] H)
   (TurnOk (fun (_ : Unit) F' H' => F'.keep [0, 3, 4, 6] = [(0, specs l), (3, I (workersN (seen l.l i (c + 1)))), (4, I i), (6, I ((c + 1 : Nat) : Int))]) (fun e y F G => y = .ret ∧ F.get 2 = I e) (stepC l.l i c ch)) := by
 have hi := (gEs.1 hx).1
 have hkid := kids_of hx
 have hcl := ht x (List.mem_of_getElem? hx)
 have hw := wrap_succ (k := c) (by omega)
 have hwn : workersN (seen l.l i c) ≤ 1000000 := Nat.le_trans (workersN_le _) (Nat.le_trans (seen_len ht i c) (by omega))
 have hww := wrap_succ (k := workersN (seen l.l i c)) (by omega)
 have h54 := t54 ht (i := i) (c := c) (ch := ch) hi (by omega) (by rw [hkid]; exact hch)
 have hsn : seen l.l i (c + 1) = seen l.l i c ++ [ch] := seen_succ (by rw [hkid]; exact hch)
 rw [hsn, workersN_snoc]
 by_cases s : ch.sub = -1
 ·cases hs : (seen l.l i c).any (sameC ch) with
  | true =>
   have hst : stepC l.l i c ch = .inr 6 := by unfold stepC; rw [if_neg (fun h => h.1 s), if_pos hs]
   rw [hs] at h54
   rw [hst]
   simp [-getElem?_pos, gEz, evl40_1, b40_1, intBin, hx, hc, hch, hw, s, h54]
  | false =>
   have hst : stepC l.l i c ch = .inl () := by unfold stepC; rw [if_neg (fun h => h.1 s), if_neg (by rw [hs]; decide)]
   rw [hs] at h54
   rw [hst]
   simp [-getElem?_pos, gEz, evl40_1, b40_1, intBin, hx, hc, hch, hw, hww, s, h54]
 ·by_cases a : ch.sub ≤ i
  ·have hst : stepC l.l i c ch = .inr 2 := by unfold stepC; rw [if_pos ⟨s, .inl a⟩]
   rw [hst]
   simp [-getElem?_pos, gEz, evl40_1, b40_1, intBin, hx, hc, hch, hw, s, a]
  ·by_cases b : (l.l.length : Int) ≤ ch.sub
   ·have hst : stepC l.l i c ch = .inr 2 := by unfold stepC; rw [if_pos ⟨s, .inr b⟩]
    rw [hst]
    simp [-getElem?_pos, gEz, evl40_1, b40_1, intBin, hx, hc, hch, hw, s, a, b]
   ·have hn : ¬ (ch.sub ≠ -1 ∧ (ch.sub ≤ i ∨ (l.l.length : Int) ≤ ch.sub)) := fun h => h.2.elim a b
    cases hs : (seen l.l i c).any (sameC ch) with
    | true =>
     have hst : stepC l.l i c ch = .inr 6 := by unfold stepC; rw [if_neg hn, if_pos hs]
     rw [hs] at h54
     rw [hst]
     simp [-getElem?_pos, gEz, evl40_1, b40_1, intBin, hx, hc, hch, hw, s, a, b, h54]
    | false =>
     have hst : stepC l.l i c ch = .inl () := by unfold stepC; rw [if_neg hn, if_neg (by rw [hs]; decide)]
     rw [hs] at h54
     rw [hst]
     simp [-getElem?_pos, gEz, evl40_1, b40_1, intBin, hx, hc, hch, hw, s, a, b, h54]
theorem turn23_2 {l : Sl Spec} (ht : ∀ x ∈ l.l, x.children.l.length ≤ 1000) (hl : l.l.length ≤ 8) (i : Nat) (x : Spec) (hi : i < l.l.length) (hx : l.l[i]? = some x) (H : Heap) :
  okC (evC W l40_2 [(0, specs l), (3, I (workersN (seen l.l i 0))), (4, I i)] H)
   (TurnOk (fun (_ : Unit) F' H' => F'.keep [0, 3, 4] = [(0, specs l), (3, I (workersN (seen l.l (i + 1) 0))), (4, I ((i + 1 : Nat) : Int))]) (fun e y F G => y = .ret ∧ F.get 2 = I e) (stepX l.l i x)) := by
 have hw := wrap_succ (k := i) (by omega)
 have h53 := e32 x
 have hkid := kids_of hx
 unfold stepX
 by_cases h0 : chk x = 0
 ·rw [h0] at h53
  rw [if_pos h0]
  have hL := loop_all (Φ := Φ) (live := [0, 3, 4, 6]) (L := l40_1) x.children.l (fun c ch _ => stepC l.l i c ch)
   (fun c _ F G => F = [(0, specs l), (3, I (workersN (seen l.l i c))), (4, I i), (6, I c)])
   (fun e y F G => y = .ret ∧ F.get 2 = I e) (fun _ y F G => y = .exit 2 ∧ F.keep [0, 3, 4] = [(0, specs l), (3, I (workersN (seen l.l (i + 1) 0))), (4, I i)]) (s := ()) (F := [(0, specs l), (3, I (workersN (seen l.l i 0))), (4, I i), (6, I 0)]) (H := H) rfl ?_ ?_
  ·cases hf : foldE (fun c ch (_ : Unit) => stepC l.l i c ch) 0 x.children.l () with
   | inl u =>
    rw [hf] at hL
    obtain ⟨y, F', H', e1, rfl, e2⟩ := okC_iff.1 hL
    simp only [keep_cons, keep_nil, List.cons.injEq, Prod.mk.injEq, true_and, and_true] at e2
    obtain ⟨f0, f3, f4⟩ := e2
    simp [-getElem?_pos, gEz, evl40_2, b40_2, intBin, hi, hx, hw, h53, e1, f0, f3, f4]
   | inr e =>
    rw [hf] at hL
    obtain ⟨y, F', H', e1, rfl, e2⟩ := okC_iff.1 hL
    simp [-getElem?_pos, gEz, evl40_2, b40_2, intBin, hi, hx, hw, h53, e1, e2]
  ·rintro c ch ⟨⟩ F G hc hch rfl
   exact turn23_1 ht hl i x hx c ch hc hch G
  ·rintro ⟨⟩ F G rfl
   have : seen l.l i x.children.l.length = seen l.l (i + 1) 0 := by rw [← hkid]; exact seen_next _ _
   rw [this]
   simp [-getElem?_pos, gEz, evl40_1, b40_1, intBin, hx]
 ·rw [if_neg h0]
  simp [-getElem?_pos, gEz, evl40_2, b40_2, intBin, hi, hx, hw, h53, h0]
theorem t23 (l : Sl Spec) (ht : ∀ x ∈ l.l, x.children.l.length ≤ 1000) (hll : l.l.length ≤ 1000000) : W.pure 40 [specs l] = some (I (chkT l.l)) := by
 rw [W_pure Φ40 (by simp)]
 by_cases h0 : l.l.length = 0
 ·have : chkT l.l = 23 := by unfold chkT; rw [if_pos h0]
  rw [this]
  have h0' : l.l = [] := by simpa using h0
  simp [fi40, c40, evFun, enterFr, intBin, resV, rvVs, rvV, h0']
 ·have h0' : ¬ l.l = [] := by simpa using h0
  by_cases h8 : 8 < l.l.length
  ·have : chkT l.l = 4 := by unfold chkT; rw [if_neg h0, if_pos h8]
   rw [this]
   have h8' : 8 < (l.l.length : Int) := by omega
   simp [fi40, c40, evFun, enterFr, intBin, resV, rvVs, rvV, h0', h8, h8']
  ·have h8' : ¬ 8 < (l.l.length : Int) := by omega
   have hL := loop_all (Φ := Φ) (live := [0, 3, 4]) (L := l40_2) l.l (fun i x _ => stepX l.l i x)
    (fun i _ F G => F = [(0, specs l), (3, I (workersN (seen l.l i 0))), (4, I i)])
    (fun e y F G => y = .ret ∧ F.get 2 = I e) (fun _ y F G => y = .exit 0 ∧ F.keep [0, 3] = [(0, specs l), (3, I (workersN (seen l.l l.l.length 0)))]) (s := ()) (F := [(0, specs l), (3, I 0), (4, I 0)]) (H := []) rfl ?_ ?_
   ·unfold chkT
    rw [if_neg h0, if_neg h8]
    cases hf : foldE (fun i x (_ : Unit) => stepX l.l i x) 0 l.l () with
    | inr e =>
     rw [hf] at hL
     obtain ⟨y, F', H', e1, rfl, e2⟩ := okC_iff.1 hL
     simp [fi40, c40, evFun, enterFr, intBin, resV, rvVs, rvV, h0', h8, h8', e1, e2]
    | inl u =>
     rw [hf] at hL
     obtain ⟨y, F', H', e1, rfl, e2⟩ := okC_iff.1 hL
     simp only [keep_cons, keep_nil, List.cons.injEq, Prod.mk.injEq, true_and, and_true] at e2
     obtain ⟨f0, f3⟩ := e2
     have hs : ∀ (i c : Nat) (ch : Child), i < l.l.length → (kids l.l i)[c]? = some ch → stepC l.l i c ch = .inl () := by
      intro i c ch hi hch
      have hx := gEg hi
      have := foldE_inl hf i _ hx
      unfold stepX at this
      split at this
      ·rw [kids_of hx] at hch
       exact foldE_inl this c ch hch
      ·cases this
     simp only
     by_cases a : 16 < workersN (seen l.l l.l.length 0)
     ·rw [if_pos a]
      have a' : 16 < (workersN (seen l.l l.l.length 0) : Int) := by omega
      simp [fi40, c40, evFun, enterFr, intBin, resV, rvVs, rvV, h0', h8, h8', e1, f0, f3, a, a']
     ·rw [if_neg a]
      have a' : ¬ 16 < (workersN (seen l.l l.l.length 0) : Int) := by omega
      have own : ∀ j : Nat, (∃ i c, SubAt l.l i c (j + 1) ∧ W.pure 42 [specs l, I ((j + 1 : Nat) : Int)] = some (.tuple [I i, I c])) ∨ ((∀ i c, ¬ SubAt l.l i c (j + 1)) ∧ W.pure 42 [specs l, I ((j + 1 : Nat) : Int)] = some (.tuple [I (-1), I 0])) := fun j => t55 ht (by omega) (j + 1)
      classical
      have hL2 := loop_all (Φ := Φ) (live := [0, 8]) (L := l40_0) (List.range (l.l.length - 1)) (fun j _ _ => if (∃ i c, SubAt l.l i c (j + 1)) then .inl () else (.inr () : Unit ⊕ Unit))
       (fun j _ F G => F = [(0, specs l), (8, I ((j + 1 : Nat) : Int))])
       (fun _ y F G => y = .ret ∧ F.get 2 = I 7) (fun _ y F G => y = .exit 4) (s := ()) (F := [(0, specs l), (8, I 1)]) (H := H') rfl ?_ ?_
      ·rcases foldE_unit (fun j (_ : Nat) => if (∃ i c, SubAt l.l i c (j + 1)) then .inl () else (.inr () : Unit ⊕ Unit)) (List.range (l.l.length - 1)) 0 with ⟨g1, g2⟩ | ⟨j, q, r, g1, g2, g3, g4⟩
       ·rw [g1] at hL2
        obtain ⟨y, F2, H2, w1, rfl⟩ := okC_iff.1 hL2
        have hsub := subsN_owner hs (fun k k1 k2 => by
         have hk := g2 (k - 1) (k - 1) (List.getElem?_range (by omega))
         by_cases hh : ∃ i c, SubAt l.l i c (0 + (k - 1) + 1)
         ·have : 0 + (k - 1) + 1 = k := by omega
          rw [this] at hh; exact hh
         ·rw [if_neg hh] at hk; cases hk)
        rw [if_neg (fun h => h hsub)]
        simp [fi40, c40, evFun, enterFr, intBin, resV, rvVs, rvV, h0', h8, h8', e1, f0, f3, a, a', w1]
       ·rw [g3] at hL2
        obtain ⟨y, F2, H2, w1, rfl, w2⟩ := okC_iff.1 hL2
        have hj := (gEs.1 g1).1
        rw [List.length_range] at hj
        have hno : ¬ ∃ i c, SubAt l.l i c (0 + j + 1) := by
         intro hh; rw [if_pos hh] at g2; cases g2
        have hne : subsN (seen l.l l.l.length 0) ≠ l.l.length - 1 := by
         intro hsub
         have htree : chkT l.l = 0 := by
          unfold chkT
          rw [if_neg h0, if_neg h8, hf]
          simp only
          rw [if_neg a, if_neg (fun h => h hsub)]
         obtain ⟨i, c, h⟩ := (tree_of htree).parent (k := j + 1) (by omega)
         exact hno ⟨i, c, by rw [Nat.zero_add]; exact h⟩
        rw [if_pos hne]
        simp [fi40, c40, evFun, enterFr, intBin, resV, rvVs, rvV, h0', h8, h8', e1, f0, f3, a, a', w1, w2]
      ·rintro j q ⟨⟩ F G hj hq rfl
       rw [List.length_range] at hj
       have hw := wrap_succ (k := j + 1) (by omega)
       have hlt : ((j + 1 : Nat) : Int) < (l.l.length : Int) := by omega
       have hlt' : (j : Int) + 1 < (l.l.length : Int) := by omega
       have hee : ((j + 1 : Nat) : Int) = (j : Int) + 1 := by omega
       have hst1 := own j
       rw [hee] at hst1 hw
       rcases hst1 with ⟨i, c, hs1, hp⟩ | ⟨hs1, hp⟩
       ·rw [if_pos ⟨i, c, hs1⟩]
        have hnn : ¬ (i : Int) < 0 := by omega
        simp [-getElem?_pos, gEz, evl40_0, b40_0, intBin, hlt', hp, hnn, hw]
       ·rw [if_neg (fun ⟨i, c, h⟩ => hs1 i c h)]
        simp [-getElem?_pos, gEz, evl40_0, b40_0, intBin, hlt', hp]
      ·rintro ⟨⟩ F G rfl
       have hnn : ¬ (((List.range (l.l.length - 1)).length + 1 : Nat) : Int) < (l.l.length : Int) := by rw [List.length_range]; omega
       have hnn' : ¬ ((l.l.length - 1 : Nat) : Int) + 1 < (l.l.length : Int) := by omega
       simp [-getElem?_pos, gEz, evl40_0, b40_0, intBin, hnn']
   ·rintro i x ⟨⟩ F G hi hx rfl
    exact turn23_2 ht (by omega) i x hi hx G
   ·rintro ⟨⟩ F G rfl
    simp [evl40_2, b40_2, intBin]
end
end
section
section
attribute [local irreducible] okC okV
theorem t50 {l : Sl Spec} (ht : TreeOk l.l) : ∀ (d i : Nat), l.l.length - i ≤ d → i < l.l.length → ∃ r : Sl (Nat × Nat), W.pure 26 [specs l, I i] = some (Sl.av plA 2 r) ∧ r.l = order l.l d i := by
 intro d
 induction d with
 | zero => intro i h1 h2; omega
 | succ d ih =>
  intro i h1 h2
  have hol := order_len ht (d + 1) i h2
  obtain ⟨x, hx⟩ : ∃ x, l.l[i]? = some x := ⟨_, gEg h2⟩
  have hlen := chk_len (ht.ok i x hx)
  have hkid := kids_of hx
  rw [order_succ, hkid] at hol ⊢
  have hL := loop_fold (Φ := Φ) (live := [0, 1, 5, 6]) (L := l26_0) x.children.l (σ := List (Nat × Nat)) (fun c ch s => s ++ partW l.l d i (ch, c))
   (fun c s F G => ∃ o v, F = [(0, specs l), (1, I i), (5, v), (6, I c)] ∧ Grow G 2 o v (s.map plA) ∧ s = (x.children.l.take c).zipIdx.flatMap (partW l.l d i)) (fun s y F G => y = .exit 0 ∧ ∃ o, Grow G 2 o (F.get 5) (s.map plA) ∧ s = x.children.l.zipIdx.flatMap (partW l.l d i)) (s := []) (F := [(0, specs l), (1, I i), (5, .osl 0 0 0 0), (6, I 0)]) (H := [.arr 0 2 false []]) ⟨some 0, _, rfl, grow_mk (l := []) rfl, by simp⟩ ?_ ?_
  ·obtain ⟨y, F', H', e1, rfl, o, e2, e3⟩ := okC_iff.1 hL
   rw [e3] at e2
   obtain ⟨r, f1, f2, f3⟩ := e2.slG (n := 7) (all_still plA_still _)
   refine ⟨r, ?_, f2⟩
   rw [W_pure Φ26 (by simp)]
   simp [fi26, c26, evFun, enterFr, intBin, resV, rvVs, rvV, hx, e1, e2.okO, e2.cells, f1]
  ·rintro c ch s F G hc hch ⟨o, v, rfl, hg, hs⟩
   have hw := wrap_succ (k := c) (by omega)
   have hch' : (kids l.l i)[c]? = some ch := by rw [hkid]; exact hch
   have hs2 : s ++ partW l.l d i (ch, c) = (x.children.l.take (c + 1)).zipIdx.flatMap (partW l.l d i) := by
    rw [hs, take_zip _ _ _ hch, List.flatMap_append]; simp
   have hpre : (s ++ partW l.l d i (ch, c)).length ≤ 128 := by
    rw [hs2]
    exact Nat.le_trans (take_flat _ _ _).length_le hol
   rw [List.length_append] at hpre
   have hgo := hg.okO
   have hgc := hg.cells
   by_cases hsub : ch.sub < 0
   ·have hs1 : ch.sub = -1 := by
     rcases ht.sub i c ch h2 hch' with h | h
     ·exact h
     ·omega
    have hp : partW l.l d i (ch, c) = [(i, c)] := by unfold partW; rw [if_pos hsub]
    rw [hp] at hs2 hpre ⊢
    obtain ⟨o', v', G', a1, a2, a3, a4⟩ := hg.app1 (plA (i, c)) (by simp [plA]) (by rw [List.length_map]; simp only [appRoom]; omega)
    have hg2 : Grow G' 2 o' v' ((s ++ [(i, c)]).map plA) := by rw [List.map_append]; exact a2
    have ha2o := a2.okO
    have ha2c := a2.cells
    simp only [plA] at a1
    simp [-getElem?_pos, gEz, evl26_0, b26_0, intBin, hx, hc, hch, hw, hs1, hgo, hgc, a1, ha2o, ha2c]
    exact ⟨⟨o', by simpa using hg2⟩, hs2⟩
   ·have hsub2 : (i : Int) < ch.sub ∧ ch.sub < l.l.length := by
     rcases ht.sub i c ch h2 hch' with h | h
     ·omega
     ·exact h
    have hne : ¬ ch.sub = -1 := by omega
    have hp : partW l.l d i (ch, c) = order l.l d ch.sub.toNat := by unfold partW; rw [if_neg hsub]
    rw [hp] at hs2 hpre ⊢
    obtain ⟨r, f1, f2⟩ := ih ch.sub.toNat (by omega) (by omega)
    have hcast : ((ch.sub.toNat : Nat) : Int) = ch.sub := by omega
    rw [hcast] at f1
    obtain ⟨o', v', G', a1, a2, a3, a4, a5⟩ := hg.app (y := Sl.av plA 2 r) (xs := r.l.map plA) sl_elems (by simp [plA]) (by rw [List.length_map, List.length_map, f2]; simp only [appRoom]; omega)
    rw [f2] at a2
    have hg2 : Grow G' 2 o' v' ((s ++ order l.l d ch.sub.toNat).map plA) := by rw [List.map_append]; exact a2
    have ha2o := a2.okO
    have ha2c := a2.cells
    simp [-getElem?_pos, gEz, evl26_0, b26_0, intBin, hx, hc, hch, hw, hne, hgo, hgc, f1, a1, ha2o, ha2c]
    exact ⟨⟨o', by simpa using hg2⟩, hs2⟩
  ·rintro s F G ⟨o, v, rfl, hg, hs⟩
   rw [List.take_length] at hs
   have hgo := hg.okO
   have hgc := hg.cells
   simp [evl26_0, b26_0, intBin, hx, hgo, hgc]
   exact ⟨⟨o, hg⟩, hs⟩
end
end
section
section
attribute [local irreducible] okC okV
theorem t25 (x y : Sl State) (h : x.l.map State.core = y.l.map State.core) (hl : x.l.length ≤ 1000000) (hs : ∀ s ∈ x.l, s.children.l.length ≤ 1000000 ∧ s.restarts.l.length ≤ 1000000) : W.pure 8 [Sl.av State.av 4 x, Sl.av State.av 4 y] = some (.bool true) := by
 rw [W_pure Φ8 rfl]
 have hxy : x.l.length = y.l.length := by have := congrArg List.length h; simpa using this
 have hL := loop_fold (Φ := Φ) (live := [0, 1, 5]) (L := l8_0) x.l (σ := Unit) (fun _ _ s => s) (fun k _ F H => F = [(0, Sl.av State.av 4 x), (1, Sl.av State.av 4 y), (5, I k)]) (fun _ y F H => y = .exit 0) (s := ()) (F := [(0, Sl.av State.av 4 x), (1, Sl.av State.av 4 y), (5, I 0)]) (H := []) rfl ?_ ?_
 ·obtain ⟨x0, F', H', e1, rfl⟩ := okC_iff.1 hL
  simp [fi8, c8, evFun, enterFr, intBin, resV, rvVs, rvV, hxy, e1]
 ·rintro k a ⟨⟩ F H hk ha rfl
  have hw := wrap_succ (k := k) (by omega)
  have hk' : k < y.l.length := by omega
  obtain ⟨b, hb⟩ : ∃ b, y.l[k]? = some b := ⟨_, gEg hk'⟩
  have hab : a.core = b.core := by
   have := congrArg (fun z => z[k]?) h
   simpa [List.getElem?_map, ha, hb, -getElem?_pos] using this
  have h17 := e17 a b (hs a (List.mem_of_getElem? ha)).1 (hs a (List.mem_of_getElem? ha)).2
  rw [core_same hab] at h17
  simp [-getElem?_pos, gEz, evl8_0, b8_0, intBin, hk, hk', ha, hb, hw, h17]
 ·rintro ⟨⟩ F H rfl
  simp [evl8_0, b8_0, intBin]
end
end
section
theorem t73 {l : Sl Spec} (ht : TreeOk l.l) (cs : List AV) (i : Nat) (c : Int) : W.pure 102 [.eptr (specs l :: cs), I i, I c] = some (I (numW (ordT l.l) (i, c))) := by
 have h0 : (0 : Nat) < l.l.length := by have := ht.len.1; omega
 obtain ⟨r, h50, hr⟩ := t50 ht l.l.length 0 (by omega) h0
 have hrl : r.l.length ≤ 1000 := by rw [hr]; have := order_len ht l.l.length 0 h0; omega
 simp only [Int.natCast_zero] at h50
 rw [W_pure Φ102 (by rfl)]
 have hL := loop_all (Φ := Φ) (live := [1, 2, 7, 8]) (L := l102_0) r.l (fun k q _ => if decide (q.1 = i) && decide ((q.2 : Int) = c) then (.inr (k : Int) : Unit ⊕ Int) else .inl ())
  (fun k _ F G => F = [(1, I i), (2, I c), (7, Sl.av plA 2 r), (8, I k)])
  (fun k y F G => y = .ret ∧ F.get 6 = I k) (fun _ y F G => y = .exit 0) (s := ()) (F := [(1, I i), (2, I c), (7, Sl.av plA 2 r), (8, I 0)]) (H := []) rfl ?_ ?_
 ·have ho : ordT l.l = r.l := hr.symm
  rw [ho]
  unfold numW idxP
  cases hf : foldE (fun k (q : Nat × Nat) (_ : Unit) => if decide (q.1 = i) && decide ((q.2 : Int) = c) then (.inr (k : Int) : Unit ⊕ Int) else .inl ()) 0 r.l () with
  | inl u =>
   rw [hf] at hL
   obtain ⟨y, F', H', e1, rfl⟩ := okC_iff.1 hL
   simp [fi102, c102, evFun, enterFr, intBin, resV, rvVs, rvV, h50, e1, hf]
  | inr k =>
   rw [hf] at hL
   obtain ⟨y, F', H', e1, rfl, e2⟩ := okC_iff.1 hL
   simp [fi102, c102, evFun, enterFr, intBin, resV, rvVs, rvV, h50, e1, e2, hf]
 ·rintro k q ⟨⟩ F G hk hq rfl
  have hw := wrap_succ (k := k) (by omega)
  have hqa : plA q = .agg [I q.1, I q.2] := rfl
  have hkq : r.l[k] = q := (gEs.1 hq).2
  by_cases h1 : q.1 = i
  ·subst h1
   by_cases h2 : (q.2 : Int) = c
   ·subst h2
    simp [evl102_0, b102_0, intBin, hk, hkq, hw, hqa]
   ·simp [evl102_0, b102_0, intBin, hk, hkq, hw, hqa, h2]
  ·have h1' : ¬ (q.1 : Int) = (i : Int) := by omega
   simp [evl102_0, b102_0, intBin, hk, hkq, hw, hqa, h1, h1']
 ·rintro ⟨⟩ F G rfl
  simp [evl102_0, b102_0, intBin]
theorem t51 {x : Spec} (h0 : chk x = 0) : ∃ (st : State) (a : Sl Event), W.pure 103 [x.av] = some (.tuple [st.av, Sl.av Event.av 4 a, I 0]) ∧ st.core = (startS x).core ∧ KnownS st ∧ a.l = startL x.children.l.length := by
 have hlen := chk_len h0
 obtain ⟨v, G, c0, hN, _⟩ := okV_iff.1 (pure30 x)
 unfold NewOk at hN
 rw [if_pos h0] at hN
 obtain ⟨cv, ev, o1, o2, rfl, c1, c2, c3⟩ := hN
 obtain ⟨c, f1, f2, f3⟩ := c1.slG (n := 5) (all_still (fun x => by simp) _)
 obtain ⟨a, g1, g2, g3⟩ := c2.slG (n := 6) (all_still (fun x => by simp) _)
 refine ⟨⟨1, c, slNil, false⟩, a, ?_, ?_, ⟨f3, .inl ⟨rfl, rfl⟩⟩, g2⟩
 ·rw [W_pure Φ103 (by simp), c0]
  simp only [Option.bind_some, frz_tuple, frzs_cons, frzs_nil, frz_agg, frz_int, frz_bool, frz_isl, f1, g1, consO_some, Option.map_some]
  rfl
 ·simp only [State.core, f2]; rfl
def refT (l : Sl Spec) (S vS : Nat) (av : AV) : AV := .agg [specs l, .osl S vS 0 l.l.length, av, .isl (some true) 0 []]
structure RefM (l : Sl Spec) (p S vS : Nat) (oA : Option Nat) (t : Tree) (H : Heap) : Prop where
 blk : ∃ av, H[p]? = some (.arr 0 4 false [refT l S vS av]) ∧ Grow H 4 oA av (t.out.map Event.av)
 sup : ∃ ss : List State, H[S]? = some (.arr vS 4 false (ss.map State.av)) ∧ ss.map State.core = t.ss.map State.core ∧ ∀ s ∈ ss, KnownS s
 len : t.ss.length = l.l.length
 ne : p ≠ S ∧ oA ≠ some p ∧ oA ≠ some S
section refm
variable {l : Sl Spec} {p S vS : Nat} {oA : Option Nat} {t : Tree} {H : Heap}
theorem RefM.kept (h : RefM l p S vS oA t H) {G : Heap} (hk : Kept none H G) : RefM l p S vS oA t G := by
 obtain ⟨⟨av, e1, e2⟩, ⟨ss, s1, s2, s3⟩, h3, h4⟩ := h
 exact ⟨⟨av, hk.get (by simp) e1, e2.kept hk (by simp)⟩, ⟨ss, hk.get (by simp) s1, s2, s3⟩, h3, h4⟩
theorem RefM.box (h : RefM l p S vS oA t H) (B : Blk) : RefM l p S vS oA t (H ++ [B]) := h.kept (Kept.append none H [B])
theorem RefM.setS (h : RefM l p S vS oA t H) : ∃ ss : List State, H[S]? = some (.arr vS 4 false (ss.map State.av)) ∧ ss.length = l.l.length ∧ ∀ (k : Nat) (s s' : State), s'.core = s.core → KnownS s' →
  RefM l p S vS oA { t with ss := t.ss.set k s } (H.set S (.arr vS 4 false ((ss.map State.av).set k s'.av))) := by
 obtain ⟨⟨av, e1, e2⟩, ⟨ss, s1, s2, s3⟩, h3, n1, n2, n3⟩ := h
 refine ⟨ss, s1, by have := congrArg List.length s2; simp at this; omega, fun k s s' hc hk => ?_⟩
 have hk' : Kept (some S) H (H.set S (.arr vS 4 false ((ss.map State.av).set k s'.av))) := Kept.set _ _ _
 refine ⟨⟨av, hk'.get (fun e => n1 (by cases e; rfl)) e1, e2.kept hk' (fun id hid e => n3 (by rw [e, hid]))⟩, ⟨ss.set k s', ?_, ?_, fun x hx => ?_⟩, by simpa using h3, n1, n2, n3⟩
 ·rw [gEt (gEs.1 s1).1, List.map_set]
 ·simp only [List.map_set, s2, hc]
 ·rcases List.mem_or_eq_of_mem_set hx with h1 | rfl
  ·exact s3 x h1
  ·exact hk
theorem RefM.emit (h : RefM l p S vS oA t H) (a : Event) (hl : t.out.length ≤ 1000000) :
  ∃ av av' G2 oA', H[p]? = some (.arr 0 4 false [refT l S vS av]) ∧ okO av = some av ∧ av.cells = [av] ∧ ex H (.app 4) [av, .isl (some false) 4 [a.av]] = some (av', G2) ∧ okO av' = some av' ∧ av'.cells = [av'] ∧ av'.cell = true ∧ G2[p]? = some (.arr 0 4 false [refT l S vS av]) ∧
   RefM l p S vS oA' { t with out := t.out ++ [a] } (G2.set p (.arr 0 4 false [refT l S vS av'])) := by
 obtain ⟨⟨av, e1, e2⟩, ⟨ss, s1, s2, s3⟩, h3, n1, n2, n3⟩ := h
 obtain ⟨oA', av', G2, a1, a2, a3, a4⟩ := e2.app1 a.av (by simp) (by simp [appRoom]; omega)
 have hpl := (gEs.1 e1).1
 have hSl := (gEs.1 s1).1
 have m2 : oA' ≠ some p := fun e => by rcases a4 p e with h | ⟨_, h⟩; exact n2 h; omega
 have m3 : oA' ≠ some S := fun e => by rcases a4 S e with h | ⟨_, h⟩; exact n3 h; omega
 have hk : Kept (some p) G2 (G2.set p (.arr 0 4 false [refT l S vS av'])) := Kept.set _ _ _
 refine ⟨av, av', G2, oA', e1, e2.okO, e2.cells, a1, a2.okO, a2.cells, a2.cell, a3.get n2 e1, ⟨av', gEt (by have := a3.1; omega), ?_⟩, ⟨ss, hk.get (fun e => n1 (by cases e; rfl)) (a3.get n3 s1), s2, s3⟩, h3, n1, m2, m3⟩
 rw [List.map_append]
 exact a2.kept hk (fun id hid e => m2 (by rw [e, hid]))
theorem frz_sup {ss : List State} (n : Nat) (hs : H[S]? = some (.arr vS 4 false (ss.map State.av))) (hl : ss.length = l.l.length) : Go.Proofs.YtjknjapdcphcfaaGreat.frz H (n + 1) (.osl S vS 0 l.l.length) = some (Sl.av State.av 4 (ofL 4 ss)) := by
 have ht : ((ss.map State.av).drop 0).take l.l.length = ss.map State.av := by rw [List.drop_zero, List.take_of_length_le (by simp; omega)]
 simp only [Go.Proofs.YtjknjapdcphcfaaGreat.frz, hs]
 rw [if_pos ⟨trivial, by simp; omega⟩, ht, if_pos (all_still (fun x => by simp) ss), ← isl_sl]
theorem RefM.frz (h : RefM l p S vS oA t H) : ∃ cs, Go.Proofs.YtjknjapdcphcfaaGreat.frz H 8 (.optr p 0 0 0) = some (.eptr (specs l :: cs)) := by
 obtain ⟨⟨av, e1, e2⟩, ⟨ss, s1, s2, s3⟩, h3, _⟩ := h
 have hl : ss.length = l.l.length := by have := congrArg List.length s2; simp at this; omega
 have f1 := frz_sup (l := l) 6 s1 hl
 obtain ⟨a, g1, _⟩ := e2.slG (n := 6) (all_still (fun x => by simp) _)
 refine ⟨[Sl.av State.av 4 (ofL 4 ss), Sl.av Event.av 4 a, .isl (some true) 0 []], ?_⟩
 have f0 : Go.Proofs.YtjknjapdcphcfaaGreat.frz H 7 (specs l) = some (specs l) := rfl
 rw [Go.Proofs.YtjknjapdcphcfaaGreat.frz]
 simp only [e1, refT]
 simp only [if_true, gEz, cells_agg, frzs_cons, frzs_nil, f0, f1, g1, frz_isl, consO_some, Option.map_some, List.drop_zero]
end refm
end
end Go.Proofs.YtjknjapdcphcfaaGreat
