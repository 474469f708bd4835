/-
  A tree is given away; New of trees (conditions: none). Valid states of trees (conditions: none). What is due in a tree, handled until nothing is (conditions: none). Something happens in a tree, as the program does it (conditions: none). Exit and Stop, as the program has them (conditions: none). Exit, Stop, and what the laws share (conditions: none). Trees of one supervisor, in plain words (conditions: none). The law SuptreeSingle: it is true (conditions: readings of the arguments). The law SuptreeSingle: it is true (conditions: readings of the arguments). The reference's search for the same child, and for the owner (conditions: none). The reference's Check of trees (conditions: none). The reference's Check of trees, whole (conditions: none). The order of the workers, as the reference has it, and their names (conditions: none). Equal names, equal states; Workers, as the reference has it (conditions: none). The reference's trees in memory, while they start (conditions: none).
-/
import Derived.Test.YtjknjapdcphcfaaKB
import Derived.Test.YtjknjapdcphcfaaAw
namespace Go.Proofs.Ytjknjapdcphcfaa
section
open Go Go.RowKit
set_option linter.unusedVariables false
set_option linter.unusedSimpArgs false
set_option maxRecDepth 10000
set_option maxHeartbeats 4000000

/-- Is it known of a state's slices whether they are nil? -/
def KnownS (s : State) : Prop := KnownNil s.children ∧ KnownNil s.restarts
theorem SlV.frz {α : Type} {f : α → AV} {sz n : Nat} {X : Nat → Prop} {H : Heap} {v : AV} {l : List α} (h : SlV KnownNil f sz X H v l) (hf : ∀ x, (f x).cells.all AV.still = true) : ∃ s : Sl α, Go.Proofs.Ytjknjapdcphcfaa.frz H (n + 1) v = some (Sl.av f sz s) ∧ s.l = l ∧ KnownNil s := by
  rcases h with ⟨s, rfl, h1, h2⟩ | ⟨q, ver, t, sh, rfl, h2, h3⟩
  · exact ⟨s, rfl, h1, h2⟩
  · have ht : ((l.map f ++ t).drop 0).take l.length = l.map f := by
      rw [List.drop_zero, List.take_append_of_le_length (by simp), List.take_of_length_le (by simp)]
    refine ⟨ofL sz l, ?_, rfl, .inr rfl⟩
    simp only [Go.Proofs.Ytjknjapdcphcfaa.frz, h2]
    rw [if_pos ⟨trivial, by simp⟩, ht, if_pos (all_still hf l), ← isl_sl]
theorem StV.frz {X : Nat → Prop} {H : Heap} {sv : AV} {s : State} {n : Nat} (h : StV X H sv s) : ∃ s' : State, Go.Proofs.Ytjknjapdcphcfaa.frz H (n + 2) sv = some s'.av ∧ s'.core = s.core ∧ KnownS s' := by
  obtain ⟨cv, r, rfl, h2, h3, h4⟩ := h
  obtain ⟨c, c1, c2, c3⟩ := h2.frz (n := n) (fun x => by simp)
  refine ⟨⟨s.status, c, r, s.failed⟩, ?_, by simp only [State.core, c2, h3], c3, h4⟩
  have e2 : Go.Proofs.Ytjknjapdcphcfaa.frz H (n + 1) (Sl.ints r) = some (Sl.ints r) := rfl
  simp only [Go.Proofs.Ytjknjapdcphcfaa.frz_agg, frzs_cons, frzs_nil, Go.Proofs.Ytjknjapdcphcfaa.frz_int, c1, e2, Go.Proofs.Ytjknjapdcphcfaa.frz_bool, consO_some, Option.map_some]
  rfl
theorem frzs_of {f : AV → Option AV} : ∀ (svs : List AV) (ss : List State), svs.length = ss.length → (∀ (k : Nat) (sv : AV) (s : State), svs[k]? = some sv → ss[k]? = some s → ∃ s' : State, f sv = some s'.av ∧ s'.core = s.core ∧ KnownS s') → ∃ ss' : List State, frzs f svs = some (ss'.map State.av) ∧ ss'.map State.core = ss.map State.core ∧ ∀ s ∈ ss', KnownS s
  | [], [], _, _ => ⟨[], rfl, rfl, by simp⟩
  | sv :: svs, s :: ss, hl, h => by
    obtain ⟨s', h1, h2, h3⟩ := h 0 sv s rfl rfl
    obtain ⟨ss', h4, h5, h6⟩ := frzs_of svs ss (by simpa using hl) (fun k sv s a b => h (k + 1) sv s (by simpa using a) (by simpa using b))
    refine ⟨s' :: ss', by simp only [frzs, h1, h4, List.map_cons], by simp only [List.map_cons, h2, h5], fun x hx => ?_⟩
    rcases List.mem_cons.1 hx with rfl | hx
    · exact h3
    · exact h6 x hx
  | [], _ :: _, hl, _ => by simp at hl
  | _ :: _, [], hl, _ => by simp at hl
theorem frzs_still {H : Heap} {n : Nat} : ∀ {cs : List AV}, cs.all AV.still = true → frzs (frz H (n + 1)) cs = some cs
  | [], _ => rfl
  | c :: cs, h => by
    rw [List.all_cons, Bool.and_eq_true] at h
    simp only [frzs, frz_still H n h.1, frzs_still h.2]
theorem frzs_stillA {H : Heap} {n : Nat} : ∀ {cs : List AV}, cs.all (fun e => e.cells.all AV.still) = true → frzs (frz H (n + 2)) cs = some cs
  | [], _ => rfl
  | c :: cs, h => by
    rw [List.all_cons, Bool.and_eq_true] at h
    have h1 : frz H (n + 2) c = some c := by
      have := h.1
      cases c with
      | agg a =>
        rw [Go.Proofs.Ytjknjapdcphcfaa.frz_agg, frzs_still (cs := a) this]; rfl
      | _ => exact frz_still H (n + 1) (by have h2 := this; simp only [AV.cells, List.all_cons, List.all_nil, Bool.and_true] at h2; exact h2)
    simp only [frzs, h1, frzs_stillA h.2]
/-- The states of the supervisors, given away. -/
theorem TreeM.frzS {l : Sl Spec} {pl : Sl (Nat × Nat)} {p S vS : Nat} {oA oQ : Option Nat} {t : Tree} {H : Heap} (h : TreeM l pl p S vS oA oQ t H) (n : Nat) : ∃ ss : Sl State, Go.Proofs.Ytjknjapdcphcfaa.frz H (n + 3) (.osl S vS 0 l.l.length) = some (Sl.av State.av 4 ss) ∧ ss.l.map State.core = t.ss.map State.core ∧ (∀ s ∈ ss.l, KnownS s) ∧ ss.nl = some false := by
  obtain ⟨svs, s1, s2, s3⟩ := h.sup
  have hl := h.len
  obtain ⟨ss', a1, a2, a3⟩ := frzs_of (f := Go.Proofs.Ytjknjapdcphcfaa.frz H (n + 2)) svs t.ss (by omega) (fun k sv s a b => (s3 k sv s a b).frz (n := n))
  have ht : (svs.drop 0).take l.l.length = svs := by rw [List.drop_zero, List.take_of_length_le (by omega)]
  refine ⟨ofL 4 ss', ?_, a2, a3, rfl⟩
  rw [Go.Proofs.Ytjknjapdcphcfaa.frz]
  simp only [s1]
  rw [if_pos ⟨trivial, by omega⟩, ht]
  split
  · rename_i hst
    rw [frzs_stillA hst] at a1
    cases a1
    rw [← isl_sl]
  · rw [a1, Option.map_some, ← isl_sl]
/-- The tree as it is at first. -/
theorem TreeM.first {l : Sl Spec} {pl : Sl (Nat × Nat)} {t : Tree} {ss : List State} {svs : List AV} {vS : Nat} (hl : svs.length = l.l.length) (hl2 : ss.length = l.l.length) (hs : ∀ (k : Nat) (sv : AV) (s : State), svs[k]? = some sv → ss[k]? = some s → StV (OwnT 1 0 none none) [.arr vS 4 false svs, .arr 0 5 false [mkT l 0 vS pl (.isl (some true) 0 []) (.isl (some true) 0 [])]] sv s) (hsm : ∀ s ∈ ss, s.children.l.length ≤ 1000 ∧ s.restarts.l.length ≤ 1000) :
    TreeM l pl 1 0 vS none none ⟨ss, [], []⟩ [.arr vS 4 false svs, .arr 0 5 false [mkT l 0 vS pl (.isl (some true) 0 []) (.isl (some true) 0 [])]] :=
  ⟨⟨_, _, rfl, grow_nil _ _, ⟨rfl, rfl⟩⟩, ⟨svs, rfl, hl, hs⟩, hl2, ⟨by decide, by simp, by simp, by simp, by simp, by simp⟩, hsm, .inl rfl⟩

noncomputable def perfA (l : List Spec) : Nat → List Event → Tree → Tree := perf l (ordT l) (up l) l.length
noncomputable def handleT (l : List Spec) (k : Nat) (e : Event) (t : Tree) : Tree := doHandle l (perfA l) (up l) k e t
noncomputable def newT (l : List Spec) : Tree := doStart l (perfA l) 0 0 ⟨List.replicate l.length zeroState, [], []⟩
/-- The first actions. -/
def startE (l : List Spec) (tm : Int) (p : Nat × Nat) : Event := ⟨3, numW (ordT l) (p.1, p.2), 0, tm⟩
theorem startL_at (n : Nat) : ∀ c, c < n → (startL n)[c]? = some ⟨3, c, 0, 0⟩ := by
  induction n with
  | zero => intro c h; omega
  | succ n ih =>
    intro c hc
    have hl := startL_len n
    rcases Nat.lt_or_ge c n with h | h
    · rw [startL, List.getElem?_append_left (by omega)]; exact ih c h
    · have : c = n := by omega
      subst this
      rw [startL, List.getElem?_append_right (by omega), hl]; simp
theorem start_out {l : List Spec} (ht : TreeOk l) : ∀ (d i : Nat) (tm : Int) (t : Tree), l.length - i ≤ d → i < l.length → (perf l (ordT l) (up l) d i (timed tm (startL (kids l i).length)) t).out = t.out ++ (order l d i).map (startE l tm) ∧ (perf l (ordT l) (up l) d i (timed tm (startL (kids l i).length)) t).q = t.q := by
  intro d
  induction d with
  | zero => intro i tm t h1 h2; omega
  | succ d ih =>
    intro i tm t h1 h2
    have key : ∀ c, c ≤ (kids l i).length → (((timed tm (startL (kids l i).length)).take c).foldl (doAct l (ordT l) (up l) (perf l (ordT l) (up l) d) i) t).out = t.out ++ (((kids l i).take c).zipIdx.flatMap (partW l d i)).map (startE l tm) ∧ (((timed tm (startL (kids l i).length)).take c).foldl (doAct l (ordT l) (up l) (perf l (ordT l) (up l) d) i) t).q = t.q := by
      intro c
      induction c with
      | zero => intro _; simp
      | succ c ihc =>
        intro hc
        obtain ⟨k1, k2⟩ := ihc (by omega)
        have hch := List.getElem?_eq_getElem (l := kids l i) (i := c) (by omega)
        generalize (kids l i)[c] = ch at hch
        have hac : (timed tm (startL (kids l i).length))[c]? = some ⟨3, c, 0, tm⟩ := by
          simp only [timed, List.getElem?_map, startL_at _ c (by omega : c < (kids l i).length), Option.map_some]
        rw [List.take_add_one, hac, List.foldl_append, take_zip _ _ _ hch, List.flatMap_append, List.map_append]
        simp only [Option.toList_some, List.foldl_cons, List.foldl_nil, List.flatMap_cons, List.flatMap_nil, List.append_nil]
        generalize ((timed tm (startL (kids l i).length)).take c).foldl (doAct l (ordT l) (up l) (perf l (ordT l) (up l) d) i) t = T at *
        have hgd : (kids l i).getD c default = ch := by rw [List.getD_eq_getElem?_getD, hch]; rfl
        have htn : ((c : Nat) : Int).toNat = c := by omega
        unfold doAct
        rw [if_neg (by simp)]
        simp only [htn, hgd]
        rw [← List.append_assoc, ← k1]
        by_cases hneg : ch.sub < 0
        · rw [if_pos hneg]
          have hp : partW l d i (ch, c) = [(i, c)] := by unfold partW; rw [if_pos hneg]
          rw [hp]
          exact ⟨rfl, k2⟩
        · rw [if_neg hneg, if_pos trivial]
          have hsub : SubAt l i c ch.sub.toNat := ⟨h2, ch, hch, by omega⟩
          have hlt := hsub.lt ht
          have hp : partW l d i (ch, c) = order l d ch.sub.toNat := by unfold partW; rw [if_neg hneg]
          rw [hp]
          obtain ⟨q1, q2⟩ := ih ch.sub.toNat tm { T with ss := T.ss.set ch.sub.toNat (startS (l.getD ch.sub.toNat default)) } (by omega) hlt.2
          exact ⟨q1, q2.trans k2⟩
    have := key (kids l i).length (Nat.le_refl _)
    rw [List.take_length, List.take_of_length_le (by rw [timed_len, startL_len]; omega)] at this
    exact this
theorem new_out {l : List Spec} (ht : TreeOk l) : (newT l).out = (ordT l).map (startE l 0) ∧ (newT l).q = [] := by
  have h0 : 0 < l.length := by have := ht.len.1; omega
  have := start_out ht l.length 0 0 { ss := (List.replicate l.length zeroState).set 0 (startS (l.getD 0 default)), out := [], q := [] } (by omega) h0
  rw [List.nil_append] at this
  exact this
theorem known_zero : KnownS zeroState := ⟨.inl ⟨rfl, rfl⟩, .inl ⟨rfl, rfl⟩⟩
theorem t12 {l : Sl Spec} (hn : NamesOk l.l) (hc : chkT l.l = 0) : ∃ (ss : Sl State) (a : Sl Event), W.pure 12 [specs l] = some (.tuple [Sl.av State.av 4 ss, Sl.av Event.av 4 a, I 0]) ∧ ss.l.map State.core = (newT l.l).ss.map State.core ∧ (∀ s ∈ ss.l, KnownS s) ∧ a.l = (newT l.l).out ∧ KnownNil a ∧ ss.nl = some false := by
  have ht := tree_of hc
  have hlen := ht.len
  have h0 : 0 < l.l.length := by omega
  have h22 := t22 l hn (by omega)
  rw [hc] at h22
  obtain ⟨pl, h38, hpl⟩ := t38 ht
  have hz : (.agg [I 0, .isl (some true) 0 [], .isl (some true) 0 [], .bool false] : AV) = zeroState.av := rfl
  have hf := TreeM.first (l := l) (pl := pl) (t := newT l.l) (ss := List.replicate l.l.length zeroState) (svs := List.replicate l.l.length zeroState.av) (vS := 0) (by simp) (by simp) (fun k sv s a b => by
    have ha := List.eq_of_mem_replicate (List.mem_of_getElem? a)
    have hb := List.eq_of_mem_replicate (List.mem_of_getElem? b)
    subst ha hb
    exact StV.of rfl known_zero.1 known_zero.2) (fun s hs => by rw [List.eq_of_mem_replicate hs]; simp)
  obtain ⟨no, nq⟩ := new_out ht
  have hol := order_len ht l.l.length 0 h0
  obtain ⟨u, G, z1, rfl, oA, oQ, z2, z3⟩ := okV_iff.1 (t39 ht hn (perf_ok ht hn hpl l.l.length) (k := 0) h0 (by omega) 0 hf (by
    show (newT l.l).out.length ≤ _
    rw [no, List.length_map]; simp only [ordT]; omega) (by
    show (newT l.l).q.length ≤ _
    rw [nq]; simp))
  change TreeM l pl 1 0 0 oA oQ (newT l.l) G at z2
  obtain ⟨av, qv, e1, e2, e3⟩ := z2.blk
  obtain ⟨ss, f1, f2, f3, f4⟩ := z2.frzS 4
  obtain ⟨a, g1, g2, g3⟩ := e2.slG (n := 6) (all_still (fun x => by simp) _)
  refine ⟨ss, a, ?_, f2, f3, g2, g3, f4⟩
  rw [W_pure Φ12 (by simp)]
  have hw : (l.l.length : Int) ≤ 1048576 := by omega
  simp only [mkT, Int.natCast_zero] at z1 e1
  simp [-getElem?_pos, List.getElem?_cons_zero, fi12, c12, evFun, enterFr, intBin, resV, rvVs, rvV, h22, h38, hw, hz, z1, e1, e2.okO, e2.cells, f1, g1]
end
section
open Go Go.RowKit
set_option linter.unusedVariables false
set_option linter.unusedSimpArgs false
set_option maxRecDepth 10000
set_option maxHeartbeats 4000000

def fitsU (c : Int) (s : State) : Bool :=
  if c = 1 then decide (s.status = 1) || decide (s.status = 2) || (decide (s.status = 3) && s.failed) else if c = 2 then decide (s.status = 3) else decide (s.status = 4)
theorem t77 (c : Int) (s : State) : W.pure 77 [I c, s.av] = some (.bool (fitsU c s)) := by
  rw [W_pure Φ77 (by simp)]
  unfold fitsU
  by_cases h1 : c = 1
  · by_cases a : s.status = 1
    · simp [fi77, c77, evFun, enterFr, intBin, resV, rvVs, rvV, h1, a]
    · by_cases b : s.status = 2
      · simp [fi77, c77, evFun, enterFr, intBin, resV, rvVs, rvV, h1, a, b]
      · by_cases d : s.status = 3
        · simp [fi77, c77, evFun, enterFr, intBin, resV, rvVs, rvV, h1, a, b, d]
        · simp [fi77, c77, evFun, enterFr, intBin, resV, rvVs, rvV, h1, a, b, d]
  · by_cases h2 : c = 2
    · simp [fi77, c77, evFun, enterFr, intBin, resV, rvVs, rvV, h1, h2]
    · simp [fi77, c77, evFun, enterFr, intBin, resV, rvVs, rvV, h1, h2]
theorem foldE_all {α : Type} (q : Nat → α → Bool) : ∀ (l : List α) (k : Nat), foldE (fun k a (_ : Unit) => if q k a = true then .inl () else (.inr () : Unit ⊕ Unit)) k l () = if (l.zipIdx k).all (fun p => q p.2 p.1) = true then .inl () else .inr ()
  | [], k => rfl
  | a :: l, k => by
    by_cases h : q k a = true
    · simp only [foldE, h, if_true, List.zipIdx_cons, List.all_cons, Bool.true_and]; exact foldE_all q l (k + 1)
    · simp [foldE, h]
def valid1 (l : List Spec) (s : List State) : Bool := l.zipIdx.all fun p => validB p.1 (s.getD p.2 default)
def valid2C (s : List State) (i c : Nat) (ch : Child) : Bool := decide (ch.sub < 0) || fitsU ((s.getD i default).children.l.getD c default).status (s.getD ch.sub.toNat default)
def valid2X (s : List State) (i : Nat) (x : Spec) : Bool := x.children.l.zipIdx.all fun p => valid2C s i p.2 p.1
def valid2 (l : List Spec) (s : List State) : Bool := l.zipIdx.all fun p => valid2X s p.2 p.1
def validT (l : List Spec) (s : List State) : Bool := decide (l.length = s.length) && valid1 l s && valid2 l s
/-- Are the states small enough to be looked at? -/
def SmallS (s : List State) : Prop := ∀ x ∈ s, x.children.l.length ≤ 1000 ∧ x.restarts.l.length ≤ 1000
section
attribute [local irreducible] okC okV
abbrev states (s : Sl State) : AV := Sl.av State.av 4 s
theorem loop56_2 {l : Sl Spec} {s : Sl State} (ht : TreeOk l.l) (hn : NamesOk l.l) (hl : l.l.length = s.l.length) (hs : SmallS s.l) (H : Heap) : okC (W.loop [0, 1, 16, 17] l56_2 [(0, specs l), (1, states s), (16, I l.l.length), (17, I 0)] H) (fun y F G => if valid1 l.l s.l = true then y = .exit 0 ∧ F.get 0 = specs l ∧ F.get 1 = states s else y = .ret ∧ F.get 4 = .bool false) := by
  have hL := loop_all (Φ := Φ) (live := [0, 1, 16, 17]) (L := l56_2) l.l (fun i x _ => if validB x (s.l.getD i default) = true then .inl () else (.inr () : Unit ⊕ Unit))
    (fun i _ F G => F = [(0, specs l), (1, states s), (16, I l.l.length), (17, I i)])
    (fun _ y F G => y = .ret ∧ F.get 4 = .bool false) (fun _ y F G => y = .exit 0 ∧ F.get 0 = specs l ∧ F.get 1 = states s) (s := ()) (H := H) rfl ?_ ?_
  · simp only [Int.natCast_zero] at hL
    rw [foldE_all (fun i x => validB x (s.l.getD i default))] at hL
    unfold valid1
    split
    · rename_i h; rw [if_pos h] at hL; exact hL
    · rename_i h; rw [if_neg h] at hL; exact hL
  · rintro i x ⟨⟩ F G hi hx rfl
    have hw := wrap_succ (k := i) (by have := ht.len.2; omega)
    have hsi := List.getElem?_eq_getElem (l := s.l) (i := i) (by omega)
    have hgd : s.l.getD i default = s.l[i] := by rw [List.getD_eq_getElem?_getD, hsi]; rfl
    rw [hgd]
    have hsm := hs s.l[i] (List.mem_of_getElem? hsi)
    generalize s.l[i] = st at *
    have hlen := chk_len (ht.ok i x hx)
    have h15 := e15 x (hn x (List.mem_of_getElem? hx)) (by omega) st (by omega) (by omega)
    cases hv : validB x st with
    | true =>
      rw [hv] at h15
      simp only [if_true] at h15
      simp [-getElem?_pos, List.getElem?_cons_zero, evl56_2, b56_2, intBin, hi, hx, hsi, hw, h15]
    | false =>
      rw [hv] at h15
      simp only [Bool.false_eq_true, if_false] at h15
      simp [-getElem?_pos, List.getElem?_cons_zero, evl56_2, b56_2, intBin, hi, hx, hsi, hw, h15]
  · rintro ⟨⟩ F G rfl
    simp [evl56_2, b56_2, intBin]
theorem loop56_0 {l : Sl Spec} {s : Sl State} (ht : TreeOk l.l) (hl : l.l.length = s.l.length) (hv : valid1 l.l s.l = true) (i : Nat) (x : Spec) (hx : l.l[i]? = some x) (H : Heap) : okC (W.loop [1, 6, 31, 32, 33, 39, 40, 41] l56_0 [(1, states s), (6, I i), (31, specs l), (32, I l.l.length), (33, I i), (39, Sl.av Child.av 3 x.children), (40, I x.children.l.length), (41, I 0)] H) (fun y F G => if valid2X s.l i x = true then y = .exit 4 ∧ F.keep [1, 31, 32, 33] = [(1, states s), (31, specs l), (32, I l.l.length), (33, I i)] else y = .ret ∧ F.get 4 = .bool false) := by
  have hlen := chk_len (ht.ok i x hx)
  have hi := (List.getElem?_eq_some_iff.1 hx).1
  have hsi := List.getElem?_eq_getElem (l := s.l) (i := i) (by omega)
  have hgd : s.l.getD i default = s.l[i] := by rw [List.getD_eq_getElem?_getD, hsi]; rfl
  have hvi : validB x s.l[i] = true := by
    have h1 := List.all_eq_true.1 hv (x, i) (List.mem_zipIdx_iff_getElem?.2 hx)
    rw [← hgd]; exact h1
  have hcl := (valid_facts hvi).2.1
  have hL := loop_all (Φ := Φ) (live := [1, 6, 31, 32, 33, 39, 40, 41]) (L := l56_0) x.children.l (fun c ch _ => if valid2C s.l i c ch = true then .inl () else (.inr () : Unit ⊕ Unit))
    (fun c _ F G => F = [(1, states s), (6, I i), (31, specs l), (32, I l.l.length), (33, I i), (39, Sl.av Child.av 3 x.children), (40, I x.children.l.length), (41, I c)])
    (fun _ y F G => y = .ret ∧ F.get 4 = .bool false) (fun _ y F G => y = .exit 4 ∧ F.keep [1, 31, 32, 33] = [(1, states s), (31, specs l), (32, I l.l.length), (33, I i)]) (s := ()) (H := H) rfl ?_ ?_
  · simp only [Int.natCast_zero] at hL
    rw [foldE_all (fun c ch => valid2C s.l i c ch)] at hL
    unfold valid2X
    split
    · rename_i h; rw [if_pos h] at hL; exact hL
    · rename_i h; rw [if_neg h] at hL; exact hL
  · rintro c ch ⟨⟩ F G hc hch rfl
    have hw := wrap_succ (k := c) (by omega)
    have hsub := ht.sub i c ch hi (by rw [kids_of hx]; exact hch)
    have hcs := List.getElem?_eq_getElem (l := (s.l[i]).children.l) (i := c) (by omega)
    have hgc : (s.l[i]).children.l.getD c default = (s.l[i]).children.l[c] := by rw [List.getD_eq_getElem?_getD, hcs]; rfl
    unfold valid2C
    rw [hgd, hgc]
    generalize (s.l[i]).children.l[c] = cst at *
    generalize s.l[i] = st at *
    by_cases hneg : ch.sub < 0
    · have hneg' : ¬ 0 ≤ ch.sub := by omega
      simp [-getElem?_pos, List.getElem?_cons_zero, app_last, sx11, evl56_0, b56_0, intBin, hc, hch, hw, hneg, hneg']
    · have hneg' : 0 ≤ ch.sub := by omega
      have hks := List.getElem?_eq_getElem (l := s.l) (i := ch.sub.toNat) (by omega)
      have hgk : s.l.getD ch.sub.toNat default = s.l[ch.sub.toNat] := by rw [List.getD_eq_getElem?_getD, hks]; rfl
      rw [hgk]
      generalize s.l[ch.sub.toNat] = sk at *
      have h77 := t77 cst.status sk
      cases hf : fitsU cst.status sk with
      | true =>
        rw [hf] at h77
        simp [-getElem?_pos, List.getElem?_cons_zero, app_last, sx11, evl56_0, b56_0, intBin, hc, hch, hw, hneg, hneg', hsi, hcs, hks, h77]
      | false =>
        rw [hf] at h77
        simp [-getElem?_pos, List.getElem?_cons_zero, app_last, sx11, evl56_0, b56_0, intBin, hc, hch, hw, hneg, hneg', hsi, hcs, hks, h77]
  · rintro ⟨⟩ F G rfl
    simp [evl56_0, b56_0, intBin]
theorem t56 {l : Sl Spec} {s : Sl State} (ht : TreeOk l.l) (hn : NamesOk l.l) (hs : SmallS s.l) (hsl : s.l.length ≤ 1000000) : W.pure 56 [specs l, states s] = some (.bool (validT l.l s.l)) := by
  rw [W_pure Φ56 (by simp)]
  unfold validT
  by_cases hl : l.l.length = s.l.length
  · have h2 := loop56_2 ht hn hl hs []
    by_cases hv : valid1 l.l s.l = true
    · simp only [if_pos hv] at h2
      obtain ⟨y, F, G, e1, rfl, e2, e3⟩ := okC_iff.1 h2
      have hL := loop_all (Φ := Φ) (live := [1, 31, 32, 33]) (L := l56_1) l.l (fun i x _ => if valid2X s.l i x = true then .inl () else (.inr () : Unit ⊕ Unit))
        (fun i _ F G => F = [(1, states s), (31, specs l), (32, I l.l.length), (33, I i)])
        (fun _ y F G => y = .ret ∧ F.get 4 = .bool false) (fun _ y F G => y = .exit 2) (s := ()) (F := [(1, states s), (31, specs l), (32, I l.l.length), (33, I 0)]) (H := G) rfl ?_ ?_
      · rw [foldE_all (fun i x => valid2X s.l i x)] at hL
        have hv2' : (l.l.zipIdx.all fun p => valid2X s.l p.2 p.1) = valid2 l.l s.l := rfl
        rw [hv2'] at hL
        cases hv2 : valid2 l.l s.l with
        | true =>
          rw [if_pos hv2] at hL
          obtain ⟨y, F2, G2, f1, rfl⟩ := okC_iff.1 hL
          have hl' : (l.l.length : Int) = (s.l.length : Int) := by omega
          simp [-getElem?_pos, List.getElem?_cons_zero, fi56, c56, evFun, enterFr, intBin, resV, rvVs, rvV, e1, e2, e3, f1, hl, ← hl', hv]
        | false =>
          rw [if_neg (by rw [hv2]; decide)] at hL
          obtain ⟨y, F2, G2, f1, rfl, f2⟩ := okC_iff.1 hL
          have hl' : (l.l.length : Int) = (s.l.length : Int) := by omega
          simp [-getElem?_pos, List.getElem?_cons_zero, fi56, c56, evFun, enterFr, intBin, resV, rvVs, rvV, e1, e2, e3, f1, f2, hl, ← hl', hv]
      · rintro i x ⟨⟩ F G' hi hx rfl
        have hw := wrap_succ (k := i) (by have := ht.len.2; omega)
        have h0 := loop56_0 ht hl hv i x hx (G' ++ [.arr 0 4 false [x.av]])
        cases hv2 : valid2X s.l i x with
        | true =>
          simp only [if_pos hv2] at h0
          obtain ⟨y, F2, G2, f1, rfl, f2⟩ := okC_iff.1 h0
          simp only [keep_cons, keep_nil, List.cons.injEq, Prod.mk.injEq, true_and, and_true] at f2
          obtain ⟨g1, g2, g3, g4⟩ := f2
          simp [-getElem?_pos, List.getElem?_cons_zero, app_last, sx11, evl56_1, b56_1, intBin, hi, hx, hw, f1, g1, g2, g3, g4]
        | false =>
          simp only [if_neg (show ¬ valid2X s.l i x = true by rw [hv2]; decide)] at h0
          obtain ⟨y, F2, G2, f1, rfl, f2⟩ := okC_iff.1 h0
          simp [-getElem?_pos, List.getElem?_cons_zero, app_last, sx11, evl56_1, b56_1, intBin, hi, hx, hw, f1, f2]
      · rintro ⟨⟩ F G' rfl
        simp [evl56_1, b56_1, intBin]
    · simp only [if_neg hv] at h2
      obtain ⟨y, F, G, e1, rfl, e2⟩ := okC_iff.1 h2
      have hl' : (l.l.length : Int) = (s.l.length : Int) := by omega
      have hv' : valid1 l.l s.l = false := by simpa using hv
      simp [-getElem?_pos, List.getElem?_cons_zero, fi56, c56, evFun, enterFr, intBin, resV, rvVs, rvV, e1, e2, hl, ← hl', hv']
  · have hl' : ¬ (l.l.length : Int) = (s.l.length : Int) := by omega
    simp [-getElem?_pos, List.getElem?_cons_zero, fi56, c56, evFun, enterFr, intBin, resV, rvVs, rvV, hl, hl']
end
end
section
open Go Go.RowKit
set_option linter.unusedVariables false
set_option linter.unusedSimpArgs false
set_option maxRecDepth 10000
set_option maxHeartbeats 4000000

/-- All that is due is handled, step by step. -/
inductive Drains (l : List Spec) : Tree → Tree → Prop
  | done {t : Tree} (h : t.q = []) : Drains l t t
  | step {t t' : Tree} (d : Due) (r : List Due) (k : Nat) (h : t.q = d :: r) (hk : d.sup = (k : Int)) (hkl : k < l.length) (ho : (handleT l k d.e { t with q := r }).out.length ≤ 1000000) (hq : (handleT l k d.e { t with q := r }).q.length ≤ 1000000) (hs : Drains l (handleT l k d.e { t with q := r }) t') : Drains l t t'
section treem
variable {l : Sl Spec} {pl : Sl (Nat × Nat)} {p S vS : Nat} {oA oQ : Option Nat} {t : Tree} {H : Heap}
/-- The first that is due is taken. -/
theorem TreeM.pop (h : TreeM l pl p S vS oA oQ t H) {d : Due} {r : List Due} (hq : t.q = d :: r) :
    ∃ av qv a qv', H[p]? = some (.arr 0 5 false [mkT l S vS pl av qv]) ∧ okO qv = some qv ∧ qv.cells = [qv] ∧ lenV false qv = I ((r.length : Int) + 1) ∧ idxaV H 5 qv (I 0) = a ∧ okO a = some a ∧ loadV H true 5 a = d.av ∧ slcV H false 5 true false qv [I 1] = qv' ∧ okO qv' = some qv' ∧ qv'.cells = [qv'] ∧ qv'.cell = true ∧
      ∀ B : Blk, idxaV (H ++ [B]) 5 qv (I 0) = a ∧ slcV (H ++ [B]) false 5 true false qv [I 1] = qv' ∧ TreeM l pl p S vS oA oQ { t with q := r } ((H ++ [B]).set p (.arr 0 5 false [mkT l S vS pl av qv'])) := by
  obtain ⟨av, qv, e1, e2, e3⟩ := h.blk
  rw [hq, List.map_cons] at e3
  obtain ⟨a, a1, a2, a3⟩ := e3.head
  obtain ⟨qv', b1, b2, b3, b4, b5⟩ := e3.tail
  have hlen := e3.len
  simp only [List.length_cons, List.length_map] at hlen
  refine ⟨av, qv, a, qv', e1, e3.okO, e3.cells, by rw [hlen]; congr 1, a1, a2, by rw [a3]; rfl, b1, b2, b3, b4, fun B => ?_⟩
  have e3' := e3.kept (Kept.append none H [B]) (by simp)
  obtain ⟨a', a1', a2', a3'⟩ := e3'.head
  obtain ⟨m1, n1⟩ := h.box B
  have hoq : oQ ≠ some p := h.ne.2.2.2.1
  obtain ⟨id, hid⟩ := e3.ne
  subst hid
  obtain ⟨ver, pre, tl, rfl, g2⟩ := e3
  have g2' := app_get g2 B
  refine ⟨?_, ?_, ?_⟩
  · rw [← a1]; simp only [idxaV, g2, g2']
  · rw [← b1]; simp only [slcV, g2, g2']
  · obtain ⟨⟨av2, qv2, f1, f2, f3⟩, ⟨svs, s1, s2, s3⟩, c1, c2, c3, c4⟩ := m1
    have hpe : (H ++ [B])[p]? = some (.arr 0 5 false [mkT l S vS pl av (.osl id ver pre.length (d.av :: List.map Due.av r).length)]) := app_get e1 B
    rw [hpe] at f1
    have hav : av = av2 := by
      simp only [mkT, Option.some.injEq, Blk.arr.injEq, List.cons.injEq, AV.agg.injEq, true_and, and_true] at f1
      exact f1.1
    subst hav
    have hk : Kept (some p) (H ++ [B]) ((H ++ [B]).set p (.arr 0 5 false [mkT l S vS pl av qv'])) := Kept.set _ _ _
    have hu : UpTo (OwnT p S oA (some id)) (H ++ [B]) ((H ++ [B]).set p (.arr 0 5 false [mkT l S vS pl av qv'])) := hk.upTo.weak (fun j hj _ => by cases hj; exact .inl rfl)
    refine ⟨⟨av, qv', List.getElem?_set_self (List.getElem?_eq_some_iff.1 hpe).1, f2.kept hk (fun i hi e => c2.2.1 (by rw [e, hi])), ?_⟩, ⟨svs, hk.get (fun e => c2.1 (by cases e; rfl)) s1, s2, fun k sv s x y => (s3 k sv s x y).upTo hu (fun _ h _ => h) (fun _ h _ => h)⟩, c1, c2, c3, c4⟩
    exact (b5.kept (Kept.append none H [B]) (by simp)).kept hk (fun i hi e => hoq (by rw [e, hi]))
theorem drains_loop (ht : TreeOk l.l) (hn : NamesOk l.l) (hpl : pl.l = ordT l.l) {t t' : Tree} (hd : Drains l.l t t') : ∀ {oA oQ : Option Nat} {H : Heap}, TreeM l pl p S vS oA oQ t H → okC (W.loop [11] l57_0 [(11, .optr p 0 0 0)] H) (fun y F G => y = .exit 2 ∧ F.get 11 = .optr p 0 0 0 ∧ ∃ oA' oQ', TreeM l pl p S vS oA' oQ' t' G) := by
  induction hd with
  | done h0 =>
    intro oA oQ H h
    obtain ⟨av, qv, e1, e2, e3⟩ := h.blk
    have hlen := e3.len
    rw [h0] at hlen
    simp only [List.map_nil, List.length_nil, mkT] at hlen e1
    have ha : okC (evC W l57_0 (Fr.keep [(11, .optr p 0 0 0)] [11]) H) (fun y F G => y = .exit 2 ∧ F.get 11 = .optr p 0 0 0 ∧ G = H) := by
      simp [-getElem?_pos, List.getElem?_cons_zero, evl57_0, b57_0, intBin, e1, e3.okO, e3.cells, hlen]
    obtain ⟨y, F, G, f1, rfl, f2, rfl⟩ := okC_iff.1 ha
    rw [loop_leave f1 (by simp)]
    exact ⟨rfl, f2, oA, oQ, h⟩
  | step d r k h0 hk hkl ho hq hs ih =>
    intro oA oQ H h
    obtain ⟨av, qv, a, qv', e1, e2, e3, e4, e5, e6, e7, e8, e9, e10, e11, e12⟩ := h.pop h0
    obtain ⟨g1, g2, g3⟩ := e12 (.arr 0 5 false [d.av])
    have hpl' := (List.getElem?_eq_some_iff.1 e1).1
    obtain ⟨u, G, z1, z0, oA', oQ', z2, z3⟩ := okV_iff.1 (t81 ht hn (perf_ok ht hn hpl l.l.length) (k := k) hkl (by omega) d.e g3 ho hq)
    have e1' := app_get e1 (.arr 0 5 false [d.av])
    have hbx : ((H ++ [Blk.arr 0 5 false [d.av]]).set p (.arr 0 5 false [mkT l S vS pl av qv']))[H.length]? = some (.arr 0 5 false [d.av]) := by
      rw [List.getElem?_set_ne (by omega)]; exact app_last _ _
    have hev : (.agg [I d.e.kind, I d.e.child, I d.e.value, I d.e.time] : AV) = d.e.av := rfl
    have hpos : (0 : Int) < (r.length : Int) + 1 := by omega
    simp only [mkT] at e1 e1' hbx z1
    have ha : okC (evC W l57_0 (Fr.keep [(11, .optr p 0 0 0)] [11]) H) (fun y F G' => y = .normal ∧ F.keep [11] = [(11, .optr p 0 0 0)] ∧ G' = G) := by
      simp [-getElem?_pos, List.getElem?_cons_zero, app_last, sx11, evl57_0, b57_0, intBin, e1, e2, e3, e4, hpos, e5, e6, e7, e1', e8, e9, e10, e11, g1, g2, hbx, hk, hev, z1]
    obtain ⟨y, F, G', f1, rfl, f2, rfl⟩ := okC_iff.1 ha
    rw [loop_normal f1, f2]
    exact ih z2
end treem
end
section
open Go Go.RowKit
set_option linter.unusedVariables false
set_option linter.unusedSimpArgs false
set_option maxRecDepth 10000
set_option maxHeartbeats 4000000

theorem call78 (s : Sl State) (hnl : s.nl = some false) (hne0 : s.l ≠ []) (hl : s.l.length ≤ 1000000) (H : Heap) : W.call (.clo 78 [] []) [states s] H = some (.osl H.length s.l.length 0 s.l.length, H ++ [.arr s.l.length 4 false (s.l.map State.av)]) := by
  rw [W_call Φ78]
  obtain ⟨nl, z, l⟩ := s
  simp only at hnl hne0 hl
  subst hnl
  have hne : l.map State.av ≠ [] := by simpa using hne0
  have e0 : ex (H ++ [.arr 0 4 false []]) (.app 4) [.osl H.length 0 0 0, Sl.av State.av 4 ⟨some false, z, l⟩] = some (.osl H.length l.length 0 l.length, H ++ [.arr l.length 4 false (l.map State.av)]) := by
    have hlm : (l.map State.av).length = l.length := by simp
    have hall := all_cell (f := State.av) (fun x => by simp) l
    simp only [ex, sl_elems, hall, if_true]
    rw [← hlm]
    rw [← hlm] at hl
    generalize l.map State.av = m at *
    cases m with
    | nil => exact absurd rfl hne
    | cons a m =>
      have ht : truncH (H ++ [.arr 0 4 false []]) (.osl H.length 0 0 0) = H ++ [.arr 0 4 false []] := by simp [truncH]
      rw [ht]
      have hsz : m.length + 1 ≤ 1073741824 := by simp at hl; omega
      simp [exApp, appRoom, hsz]
  simp [fi78, c78, evFun, enterFr, intBin, resV, rvVs, rvV, e0]
theorem t80 (b : Nat) (e : Event) (n : Int) (H : Heap) (sh : Bool) (h : H[b]? = some (.arr 0 4 sh [e.av])) : W.call (.clo 80 [] [.optr b 0 0 0]) [I n] H = some (.bool (decide (e.time < n)), H) := by
  rw [W_call Φ80]
  simp [-getElem?_pos, List.getElem?_cons_zero, fi80, c80, evFun, enterFr, intBin, resV, rvVs, rvV, h]
theorem t95 (f : AV) (kf : okO f = some f) (q : Int → Bool) (H : Heap) (hf : ∀ y, W.call f [I y] H = some (.bool (q y), H)) (x : Sl Int) (hl : x.l.length ≤ 1000000) : W.call (.clo 95 [] []) [Sl.ints x, f] H = some (I (idxP q x.l), H) := by
  rw [W_call Φ95]
  have hL := loop_all (Φ := Φ) (live := [0, 1, 7, 8]) (L := l95_0) x.l (fun k c _ => if q c then (.inr (k : Int) : Unit ⊕ Int) else .inl ()) (fun k _ F G => F = [(0, Sl.ints x), (1, f), (7, I x.l.length), (8, I k)] ∧ G = H) (fun k y F G => y = .ret ∧ F.get 4 = I k ∧ G = H) (fun _ y F G => y = .exit 0 ∧ G = H) (s := ()) (H := H) ⟨rfl, rfl⟩ ?_ ?_
  · simp only [Int.natCast_zero] at hL
    unfold idxP
    cases hff : foldE (σ := Unit) (ρ := Int) (fun k a _ => if q a then .inr (k : Int) else .inl ()) 0 x.l () with
    | inl u =>
      rw [hff] at hL
      obtain ⟨y, F, G, e1, rfl, rfl⟩ := okC_iff.1 hL
      simp [fi95, c95, evFun, enterFr, intBin, resV, rvVs, rvV, kf, e1]
    | inr k =>
      rw [hff] at hL
      obtain ⟨y, F, G, e1, rfl, e2, rfl⟩ := okC_iff.1 hL
      simp [fi95, c95, evFun, enterFr, intBin, resV, rvVs, rvV, kf, e1, e2]
  · rintro k y ⟨⟩ F G hk hy ⟨rfl, rfl⟩
    have hw := wrap_succ (k := k) (by omega)
    have hky : x.l[k] = y := (List.getElem?_eq_some_iff.1 hy).2
    have hfy := hf y
    cases hq : q y with
    | true => rw [hq] at hfy; simp [evl95_0, b95_0, intBin, hk, hky, hw, kf, hfy]
    | false => rw [hq] at hfy; simp [evl95_0, b95_0, intBin, hk, hky, hw, kf, hfy]
  · rintro ⟨⟩ F G ⟨rfl, rfl⟩
    simp [evl95_0, b95_0, intBin]
theorem t79 (f : AV) (kf : okO f = some f) (q : Int → Bool) (H : Heap) (hf : ∀ y, W.call f [I y] H = some (.bool (q y), H)) (x : Sl Int) (hl : x.l.length ≤ 1000000) : W.call (.clo 79 [] []) [Sl.ints x, f] H = some (.bool (x.l.any q), H) := by
  rw [W_call Φ79, ← idxP_any]
  have h := t95 f kf q H hf x hl
  simp [fi79, c79, evFun, enterFr, intBin, resV, rvVs, rvV, kf, h]
/-- Is there a restart behind a time? -/
def lateX (tm : Int) (x : State) : Bool := x.restarts.l.any fun n => decide (tm < n)
def lateT (s : List State) (tm : Int) : Bool := s.any (lateX tm)
section treem
variable {l : Sl Spec} {pl : Sl (Nat × Nat)} {p S vS : Nat} {oA : Option Nat} {ss : List State} {out : List Event} {H : Heap}
theorem TreeM.setQ (h : TreeM l pl p S vS oA none ⟨ss, out, []⟩ H) (d : Due) :
    ∃ av, H[p]? = some (.arr 0 5 false [mkT l S vS pl av (.isl (some true) 0 [])]) ∧ TreeM l pl p S vS oA (some H.length) ⟨ss, out, [d]⟩ ((H ++ [Blk.arr 0 5 false [d.av]]).set p (Blk.arr 0 5 false [mkT l S vS pl av (.osl H.length 0 0 1)])) := by
  obtain ⟨av, qv, e1, e2, e3, _⟩ := h.blk
  subst e3
  obtain ⟨svs, s1, s2, s3⟩ := h.sup
  obtain ⟨n1, n2, n3, n4, n5, n6⟩ := h.ne
  have hp := (List.getElem?_eq_some_iff.1 e1).1
  have hS := (List.getElem?_eq_some_iff.1 s1).1
  have hk0 := Kept.append none H [.arr 0 5 false [d.av]]
  have hk : Kept (some p) (H ++ [Blk.arr 0 5 false [d.av]]) ((H ++ [Blk.arr 0 5 false [d.av]]).set p (Blk.arr 0 5 false [mkT l S vS pl av (.osl H.length 0 0 1)])) := Kept.set _ _ _
  have hu : UpTo (OwnT p S oA none) H ((H ++ [Blk.arr 0 5 false [d.av]]).set p (Blk.arr 0 5 false [mkT l S vS pl av (.osl H.length 0 0 1)])) := (hk0.upTo' (X := OwnT p S oA none)).trans hk.upTo (fun j hj _ => by cases hj; exact .inl rfl)
  refine ⟨av, e1, ⟨av, .osl H.length 0 0 1, List.getElem?_set_self (by simp; omega), (e2.kept hk0 (by simp)).kept hk (fun i hi e => n2 (by rw [e, hi])), ⟨0, [], [], rfl, ?_⟩⟩, ⟨svs, hk.get (fun e => n1 (by cases e; rfl)) (hk0.get (by simp) s1), s2, fun k sv s x y => (s3 k sv s x y).upTo hu (fun _ h _ => h) (fun j hj hl => ?_)⟩, h.len, ⟨n1, n2, n3, fun e => by cases e; omega, fun e => by cases e; omega, fun i hi e => ?_⟩, h.small, h.em⟩
  · rw [List.getElem?_set_ne (by omega)]; simp
  · rcases hj with rfl | rfl | hj | hj
    · exact .inl rfl
    · exact .inr (.inl rfl)
    · exact .inr (.inr (.inl hj))
    · cases hj; omega
  · cases e
    have := h.lt (.inr (.inr (.inl hi)) : OwnT p S oA none H.length)
    omega
end treem
end
section
open Go Go.RowKit
set_option linter.unusedVariables false
set_option linter.unusedSimpArgs false
set_option maxRecDepth 10000
set_option maxHeartbeats 4000000

/-- The results of something that happens. -/
def RanOk (t : Tree) (v : AV) : Prop := ∃ (ss : Sl State) (a : Sl Event), v = .tuple [states ss, Sl.av Event.av 4 a, I 0] ∧ ss.l.map State.core = t.ss.map State.core ∧ (∀ s ∈ ss.l, KnownS s) ∧ a.l = t.out ∧ KnownNil a ∧ ss.nl = some false ∧ (a.l = [] → Sl.av Event.av 4 a = .isl (some true) 0 [])
def noRun (e : Int) : AV := .tuple [.isl (some true) 0 [], .isl (some true) 0 [], I e]
theorem loop57_1 {l : Sl Spec} {pl : Sl (Nat × Nat)} {p S vS : Nat} {oA oQ : Option Nat} {t : Tree} (s : Sl State) (hl : s.l.length ≤ 1000) (hs : SmallS s.l) (k : Nat) (b : Nat) (e : Event) {H : Heap} (h : TreeM l pl p S vS oA oQ t H) (hb : H[b]? = some (.arr 0 4 false [e.av])) :
    okC (W.loop [2, 7, 11, 43, 44, 45] l57_1 [(2, I k), (7, .optr b 0 0 0), (11, .optr p 0 0 0), (43, states s), (44, I s.l.length), (45, I 0)] H) (fun y F G => if lateT s.l e.time = true then y = .ret ∧ F.get 8 = .isl (some true) 0 [] ∧ F.get 9 = .isl (some true) 0 [] ∧ F.get 10 = I 9 else y = .exit 0 ∧ F.keep [2, 7, 11] = [(2, I k), (7, .optr b 0 0 0), (11, .optr p 0 0 0)] ∧ TreeM l pl p S vS oA oQ t G ∧ G[b]? = some (.arr 0 4 false [e.av])) := by
  have hL := loop_all (Φ := Φ) (live := [2, 7, 11, 43, 44, 45]) (L := l57_1) s.l (fun i x _ => if !lateX e.time x then .inl () else (.inr () : Unit ⊕ Unit))
    (fun i _ F G => F = [(2, I k), (7, .optr b 0 0 0), (11, .optr p 0 0 0), (43, states s), (44, I s.l.length), (45, I i)] ∧ TreeM l pl p S vS oA oQ t G ∧ G[b]? = some (.arr 0 4 false [e.av]))
    (fun _ y F G => y = .ret ∧ F.get 8 = .isl (some true) 0 [] ∧ F.get 9 = .isl (some true) 0 [] ∧ F.get 10 = I 9) (fun _ y F G => y = .exit 0 ∧ F.keep [2, 7, 11] = [(2, I k), (7, .optr b 0 0 0), (11, .optr p 0 0 0)] ∧ TreeM l pl p S vS oA oQ t G ∧ G[b]? = some (.arr 0 4 false [e.av])) (s := ()) (H := H) ⟨rfl, h, hb⟩ ?_ ?_
  · simp only [Int.natCast_zero] at hL
    rw [foldE_all (fun _ x => !lateX e.time x)] at hL
    have hall : (s.l.zipIdx.all fun p => !lateX e.time p.1) = !lateT s.l e.time := by
      unfold lateT
      rw [List.not_any_eq_all_not]
      have : (s.l.zipIdx.map Prod.fst).all (fun x => !lateX e.time x) = s.l.all (fun x => !lateX e.time x) := by rw [List.zipIdx_map_fst]
      rw [← this, List.all_map]; rfl
    rw [hall] at hL
    cases hlt : lateT s.l e.time with
    | true => rw [hlt, if_neg (by decide)] at hL; simp only [if_true]; exact hL
    | false => rw [hlt, if_pos (by decide)] at hL; simp only [Bool.false_eq_true, if_false]; exact hL
  · rintro i x ⟨⟩ F G hi hx ⟨rfl, g1, g2⟩
    have hw := wrap_succ (k := i) (by omega)
    obtain ⟨m1, n1⟩ := g1.box (.arr 0 4 false [x.av])
    have g2' := app_get g2 (.arr 0 4 false [x.av])
    have c79 := t79 (.clo 80 [] [.optr b 0 0 0]) rfl (fun n => decide (e.time < n)) (G ++ [.arr 0 4 false [x.av]]) (fun y => t80 b e y _ false g2') x.restarts (by have := hs x (List.mem_of_getElem? hx); omega)
    have hlx : lateX e.time x = x.restarts.l.any fun n => decide (e.time < n) := rfl
    rw [← hlx] at c79
    cases hq : lateX e.time x with
    | true =>
      rw [hq] at c79
      simp [-getElem?_pos, List.getElem?_cons_zero, app_last, sx11, evl57_1, b57_1, intBin, hi, hx, hw, c79]
    | false =>
      rw [hq] at c79
      simp [-getElem?_pos, List.getElem?_cons_zero, app_last, sx11, evl57_1, b57_1, intBin, hi, hx, hw, c79]
      exact ⟨m1, g2'⟩
  · rintro ⟨⟩ F G ⟨rfl, g1, g2⟩
    simp [evl57_1, b57_1, intBin]
    exact ⟨g1, g2⟩
theorem t57 {l : Sl Spec} {s : Sl State} (hn : NamesOk l.l) (ht : TreeOk l.l) (hl : s.l.length = l.l.length) (hs : SmallS s.l) (hks : ∀ x ∈ s.l, KnownS x) (hnl : s.nl = some false) {k : Nat} (hk : k < l.l.length) (e : Event) :
    (handleE (l.l.getD k default) (s.l.getD k default) e ≠ 0 → W.pure 57 [specs l, states s, I k, e.av] = some (noRun (handleE (l.l.getD k default) (s.l.getD k default) e))) ∧
    (handleE (l.l.getD k default) (s.l.getD k default) e = 0 → lateT s.l e.time = true → W.pure 57 [specs l, states s, I k, e.av] = some (noRun 9)) ∧
    (handleE (l.l.getD k default) (s.l.getD k default) e = 0 → lateT s.l e.time = false → ∀ t', Drains l.l ⟨s.l, [], [⟨k, e⟩]⟩ t' → ∃ v, W.pure 57 [specs l, states s, I k, e.av] = some v ∧ RanOk t' v) := by
  have hlen := ht.len
  have hx := List.getElem?_eq_getElem hk
  have hgx : l.l.getD k default = l.l[k] := by rw [List.getD_eq_getElem?_getD, hx]; rfl
  rw [hgx]
  generalize l.l[k] = x at hx
  have hkl : k < s.l.length := by omega
  have hsk := List.getElem?_eq_getElem hkl
  have hgs : s.l.getD k default = s.l[k] := by rw [List.getD_eq_getElem?_getD, hsk]; rfl
  rw [hgs]
  generalize s.l[k] = st at hsk
  have hsm := hs st (List.mem_of_getElem? hsk)
  have hkn := hks st (List.mem_of_getElem? hsk)
  have hlx := chk_len (ht.ok k x hx)
  obtain ⟨pl, h38, hpl⟩ := t38 ht
  obtain ⟨v, d1, d2⟩ := e13 x st e (hn x (List.mem_of_getElem? hx)) (by omega) (by omega) (by omega) hkn.1 hkn.2
  have hcl := call78 s hnl (by intro h; rw [h] at hl; simp at hl; omega) (by omega) [.arr 0 4 false [e.av]]
  have hz : (.agg [I 0, .isl (some true) 0 [], .isl (some true) 0 [], .bool false] : AV) = zeroState.av := rfl
  unfold HandleOk at d2
  have hb0 : ([Blk.arr 0 4 false [e.av]] ++ [Blk.arr s.l.length 4 false (s.l.map State.av)] : Heap) = [.arr 0 4 false [e.av], .arr s.l.length 4 false (s.l.map State.av)] := rfl
  rw [hb0] at hcl
  simp only [List.length_singleton] at hcl
  -- the tree at first
  have first : ∀ B : Blk, TreeM l pl 2 1 s.l.length none none ⟨s.l, [], []⟩ [.arr 0 4 false [e.av], .arr s.l.length 4 false (s.l.map State.av), .arr 0 5 false [mkT l 1 s.l.length pl (.isl (some true) 0 []) (.isl (some true) 0 [])], B] := fun B =>
    ⟨⟨_, _, rfl, grow_nil _ _, ⟨rfl, rfl⟩⟩, ⟨s.l.map State.av, rfl, by simpa using hl, fun j sv s' a b => by
      rw [List.getElem?_map] at a
      simp only at b
      rw [b] at a
      cases a
      have := hks s' (List.mem_of_getElem? b)
      exact StV.of rfl this.1 this.2⟩, hl, ⟨by decide, by simp, by simp, by simp, by simp, by simp⟩, hs, .inl rfl⟩
  refine ⟨fun hE => ?_, fun hE hlate => ?_, fun hE hlate t' hd => ?_⟩
  · rw [if_neg hE] at d2
    subst d2
    rw [W_pure Φ57 (by simp)]
    simp [-getElem?_pos, List.getElem?_cons_zero, fi57, c57, evFun, enterFr, intBin, resV, rvVs, rvV, hcl, h38, hx, hsk, d1, hz, hE, noRun, hl]
  · rw [if_pos hE] at d2
    obtain ⟨t1, a, rfl, d3, d4⟩ := d2
    have hL := loop57_1 s (by omega) hs k 0 e (first (.arr 0 4 false [t1.av])) rfl
    simp only [if_pos hlate] at hL
    obtain ⟨y, F, G, f1, rfl, f2, f3, f4⟩ := okC_iff.1 hL
    rw [W_pure Φ57 (by simp)]
    simp only [mkT, hl] at f1
    simp [-getElem?_pos, List.getElem?_cons_zero, fi57, c57, evFun, enterFr, intBin, resV, rvVs, rvV, hcl, h38, hx, hsk, d1, hz, f1, f2, f3, f4, noRun, hl]
  · rw [if_pos hE] at d2
    obtain ⟨t1, a, rfl, d3, d4⟩ := d2
    have hL := loop57_1 s (by omega) hs k 0 e (first (.arr 0 4 false [t1.av])) rfl
    simp only [if_neg (show ¬ lateT s.l e.time = true by rw [hlate]; decide)] at hL
    obtain ⟨y, F, G, f1, rfl, f2, f3, f4⟩ := okC_iff.1 hL
    simp only [keep_cons, keep_nil, List.cons.injEq, Prod.mk.injEq, true_and, and_true] at f2
    obtain ⟨g2, g7, g11⟩ := f2
    obtain ⟨av, q1, q2⟩ := f3.setQ ⟨k, e⟩
    obtain ⟨y, F2, G2, w1, rfl, w2, oA, oQ, w3⟩ := okC_iff.1 (drains_loop ht hn hpl hd q2)
    obtain ⟨av2, qv2, u1, u2, u3⟩ := w3.blk
    obtain ⟨ss, r1, r2, r3, r4⟩ := w3.frzS 4
    obtain ⟨a2, v1, v2, v3⟩ := u2.slG (n := 6) (all_still (fun x => by simp) _)
    have hem : a2.l = [] → Sl.av Event.av 4 a2 = .isl (some true) 0 [] := by
      intro h0
      rcases w3.em with h1 | h1
      · subst h1
        obtain ⟨q0, _⟩ := u2
        have v1' := v1
        rw [q0, frz_isl] at v1'
        exact (Option.some.inj v1').symm
      · exact absurd (v2.symm.trans h0) h1
    refine ⟨.tuple [states ss, Sl.av Event.av 4 a2, I 0], ?_, ss, a2, rfl, r2, r3, v2, v3, r4, hem⟩
    rw [W_pure Φ57 (by simp)]
    have q1' := app_get q1 (.arr 0 5 false [(⟨k, e⟩ : Due).av])
    have hdv : (⟨k, e⟩ : Due).av = .agg (I k :: e.av.cells) := rfl
    simp only [mkT, hl] at f1 q1 q1' w1 u1
    rw [hdv] at q1' w1
    rw [hl] at r1
    simp [-getElem?_pos, List.getElem?_cons_zero, app_last, fi57, c57, evFun, enterFr, intBin, resV, rvVs, rvV, hcl, h38, hx, hsk, d1, hz, f1, g2, g7, g11, f4, q1, q1', w1, w2, u1, u2.okO, u2.cells, r1, v1, hl]
end
section
open Go Go.RowKit
set_option linter.unusedVariables false
set_option linter.unusedSimpArgs false
set_option maxRecDepth 10000
set_option maxHeartbeats 4000000

/-- A value of memory that nobody writes. -/
def Imm (a : AV) : Prop := ∃ nl z es, a = .isl nl z es
theorem imm_nil : Imm (.isl (some true) 0 []) := ⟨_, _, _, rfl⟩
theorem imm_sl {α : Type} (f : α → AV) (sz : Nat) (x : Sl α) : Imm (Sl.av f sz x) := ⟨_, _, _, rfl⟩
theorem RanOk.imm {t : Tree} {v : AV} (h : RanOk t v) : ∃ a b, v = .tuple [a, b, I 0] ∧ Imm a ∧ Imm b := by
  obtain ⟨ss, a, rfl, _⟩ := h
  exact ⟨_, _, rfl, imm_sl _ _ _, imm_sl _ _ _⟩
theorem t27 {l : Sl Spec} {s : Sl State} (hn : NamesOk l.l) (hc : chkT l.l = 0) (hs : SmallS s.l) (hsl : s.l.length ≤ 1000000) (hv : validT l.l s.l = true) {w i c : Nat} (hw : (ordT l.l)[w]? = some (i, c)) (reason tm : Int) {a b : AV} {n : Int} (ha : Imm a) (hb : Imm b)
    (h57 : W.pure 57 [specs l, states s, I i, (⟨1, c, reason, tm⟩ : Event).av] = some (.tuple [a, b, I n])) : W.pure 27 [specs l, states s, I w, I reason, I tm] = some (.tuple [a, b, I n]) := by
  have ht := tree_of hc
  have h22 := t22 l hn (by have := ht.len.2; omega)
  rw [hc] at h22
  have h56 := t56 ht hn hs hsl
  rw [hv] at h56
  obtain ⟨pl, h38, hpl⟩ := t38 ht
  have hwl := (List.getElem?_eq_some_iff.1 hw).1
  rw [← hpl] at hw hwl
  have hwl' : (w : Int) < (pl.l.length : Int) := by omega
  obtain ⟨a1, a2, a3, rfl⟩ := ha
  obtain ⟨b1, b2, b3, rfl⟩ := hb
  have hpa : plA (i, c) = .agg [I i, I c] := rfl
  have hev : (⟨1, c, reason, tm⟩ : Event).av = .agg [I 1, I c, I reason, I tm] := rfl
  rw [hev] at h57
  rw [W_pure Φ27 (by simp)]
  have hnn : ¬ (w : Int) < 0 := by omega
  have hnl : ¬ (pl.l.length : Int) ≤ (w : Int) := by omega
  simp [-getElem?_pos, List.getElem?_cons_zero, fi27, c27, evFun, enterFr, intBin, resV, rvVs, rvV, h22, h56, h38, hw, hwl, hwl', hnn, hnl, hpa, h57]
theorem t27r {l : Sl Spec} {s : Sl State} (hn : NamesOk l.l) (hc : chkT l.l = 0) (hs : SmallS s.l) (hsl : s.l.length ≤ 1000000) (hv : validT l.l s.l = true) {w : Int} (hw : w < 0 ∨ ((ordT l.l).length : Int) ≤ w) (reason tm : Int) : W.pure 27 [specs l, states s, I w, I reason, I tm] = some (noRun 2) := by
  have ht := tree_of hc
  have h22 := t22 l hn (by have := ht.len.2; omega)
  rw [hc] at h22
  have h56 := t56 ht hn hs hsl
  rw [hv] at h56
  obtain ⟨pl, h38, hpl⟩ := t38 ht
  rw [← hpl] at hw
  rw [W_pure Φ27 (by simp)]
  rcases hw with hw | hw
  · simp [-getElem?_pos, List.getElem?_cons_zero, fi27, c27, evFun, enterFr, intBin, resV, rvVs, rvV, h22, h56, h38, hw, noRun]
  · simp [-getElem?_pos, List.getElem?_cons_zero, fi27, c27, evFun, enterFr, intBin, resV, rvVs, rvV, h22, h56, h38, hw, noRun]
theorem t26 {l : Sl Spec} {s : Sl State} (hn : NamesOk l.l) (hc : chkT l.l = 0) (hs : SmallS s.l) (hsl : s.l.length ≤ 1000000) (hv : validT l.l s.l = true) (tm : Int) {a b : AV} {n : Int} (ha : Imm a) (hb : Imm b)
    (h57 : W.pure 57 [specs l, states s, I 0, (⟨2, -1, 0, tm⟩ : Event).av] = some (.tuple [a, b, I n])) : W.pure 26 [specs l, states s, I tm] = some (.tuple [a, b, I n]) := by
  have ht := tree_of hc
  have h22 := t22 l hn (by have := ht.len.2; omega)
  rw [hc] at h22
  have h56 := t56 ht hn hs hsl
  rw [hv] at h56
  obtain ⟨a1, a2, a3, rfl⟩ := ha
  obtain ⟨b1, b2, b3, rfl⟩ := hb
  have hev : (⟨2, -1, 0, tm⟩ : Event).av = .agg [I 2, I (-1), I 0, I tm] := rfl
  rw [hev] at h57
  rw [W_pure Φ26 (by simp)]
  simp [-getElem?_pos, List.getElem?_cons_zero, fi26, c26, evFun, enterFr, intBin, resV, rvVs, rvV, h22, h56, h57]
theorem t17s {l : Sl Spec} {s : Sl State} {h : Happening} {tm : Int} {a b : AV} {n : Int} (ha : Imm a) (hb : Imm b) (hw : h.worker < 0) (h26 : W.pure 26 [specs l, states s, I tm] = some (.tuple [a, b, I n])) : W.pure 17 [specs l, states s, h.av, I tm] = some (.tuple [a, b, .bool (decide (n = 0))]) := by
  obtain ⟨a1, a2, a3, rfl⟩ := ha
  obtain ⟨b1, b2, b3, rfl⟩ := hb
  rw [W_pure Φ17 (by simp)]
  simp [-getElem?_pos, List.getElem?_cons_zero, fi17, c17, evFun, enterFr, intBin, resV, rvVs, rvV, hw, h26]
theorem t17e {l : Sl Spec} {s : Sl State} {h : Happening} {tm : Int} {a b : AV} {n : Int} (ha : Imm a) (hb : Imm b) (hw : ¬ h.worker < 0) (h27 : W.pure 27 [specs l, states s, I h.worker, I h.reason, I tm] = some (.tuple [a, b, I n])) : W.pure 17 [specs l, states s, h.av, I tm] = some (.tuple [a, b, .bool (decide (n = 0))]) := by
  obtain ⟨a1, a2, a3, rfl⟩ := ha
  obtain ⟨b1, b2, b3, rfl⟩ := hb
  rw [W_pure Φ17 (by simp)]
  simp [-getElem?_pos, List.getElem?_cons_zero, fi17, c17, evFun, enterFr, intBin, resV, rvVs, rvV, hw, h27]
def greatT (l : List Spec) : Bool := decide (10 < l.length) || l.any greatB
theorem t18 (l : Sl Spec) (hl : l.l.length ≤ 1000000) : W.pure 18 [specs l, .isl (some true) 0 []] = some (.bool (greatT l.l)) := by
  rw [W_pure Φ18 (by simp)]
  unfold greatT
  by_cases h10 : 10 < l.l.length
  · have h10' : 10 < (l.l.length : Int) := by omega
    simp [fi18, c18, evFun, enterFr, intBin, resV, rvVs, rvV, h10, h10']
  · have h10' : ¬ 10 < (l.l.length : Int) := by omega
    have hL := loop_all (Φ := Φ) (live := [0, 1, 5]) (L := l18_1) l.l (fun i x _ => if !greatB x then .inl () else (.inr () : Unit ⊕ Unit)) (fun i _ F G => F = [(0, specs l), (1, .isl (some true) 0 []), (5, I i)] ∧ G = []) (fun _ y F G => y = .ret ∧ F.get 4 = .bool true) (fun _ y F G => y = .exit 0 ∧ F.get 1 = .isl (some true) 0 [] ∧ G = []) (s := ()) (H := []) ⟨rfl, rfl⟩ ?_ ?_
    · simp only [Int.natCast_zero] at hL
      rw [foldE_all (fun _ x => !greatB x)] at hL
      have hall : (l.l.zipIdx.all fun p => !greatB p.1) = !l.l.any greatB := by
        rw [List.not_any_eq_all_not]
        have : (l.l.zipIdx.map Prod.fst).all (fun x => !greatB x) = l.l.all (fun x => !greatB x) := by rw [List.zipIdx_map_fst]
        rw [← this, List.all_map]; rfl
      rw [hall] at hL
      cases hg : l.l.any greatB with
      | true =>
        rw [hg, if_neg (by decide)] at hL
        obtain ⟨y, F, G, e1, rfl, e2⟩ := okC_iff.1 hL
        simp [fi18, c18, evFun, enterFr, intBin, resV, rvVs, rvV, h10, h10', e1, e2]
      | false =>
        rw [hg, if_pos (by decide)] at hL
        obtain ⟨y, F, G, e1, rfl, e2, rfl⟩ := okC_iff.1 hL
        have h2 : okC (W.loop [1, 6] l18_0 [(1, .isl (some true) 0 []), (6, I 0)] []) (fun y F G => y = .exit 2 ∧ G = []) := by
          rw [om_turn]
          simp [evl18_0, b18_0, intBin]
        obtain ⟨y, F, G, k1, rfl, rfl⟩ := okC_iff.1 h2
        simp [fi18, c18, evFun, enterFr, intBin, resV, rvVs, rvV, h10, h10', e1, e2, k1]
    · rintro i x ⟨⟩ F G hi hx ⟨rfl, rfl⟩
      have hw := wrap_succ (k := i) (by omega)
      have h47 := e10 x
      have hkx : l.l[i] = x := (List.getElem?_eq_some_iff.1 hx).2
      cases hg : greatB x with
      | true => rw [hg] at h47; simp [evl18_1, b18_1, intBin, hi, hkx, hw, h47]
      | false => rw [hg] at h47; simp [evl18_1, b18_1, intBin, hi, hkx, hw, h47]
    · rintro ⟨⟩ F G ⟨rfl, rfl⟩
      simp [evl18_1, b18_1, intBin]
theorem great_names {l : List Spec} (h : greatT l = false) : NamesOk l ∧ l.length ≤ 10 := by
  simp only [greatT, Bool.or_eq_false_iff, decide_eq_false_iff_not] at h
  refine ⟨fun x hx c hc => ?_, by omega⟩
  have := List.any_eq_false.1 h.2 x hx
  have h2 := (great_false (x := x) (by simpa using this)).2 c hc
  omega
def fineT (l : List Spec) (h : List Happening) : Bool := !greatT l && decide (chkT l = 0) && decide ((h.length : Int) ≤ 30)
end
section
open Go Go.RowKit
set_option linter.unusedVariables false
set_option linter.unusedSimpArgs false
set_option maxRecDepth 10000
set_option maxHeartbeats 4000000

theorem has_replicate (n : Nat) (k : Int) : Has (List.replicate n start1) k → k = 1 := by
  rintro ⟨i, c, h1, h2⟩
  have := List.mem_of_getElem? h1
  have := (List.mem_replicate.1 this).2
  subst this
  exact h2.symm
theorem start_inv {x : Spec} (h0 : chk x = 0) : Inv x 1 (runOf (startS x)) := by
  have hi : 0 ≤ x.intensity := by have := (chk_ok h0).2.1; simp [inR] at this; exact this.1
  refine ⟨by simp [runOf, startS], fun i c hc => ?_, .inl ⟨rfl, fun h => by have := has_replicate _ _ h; omega, fun h => by have := has_replicate _ _ h; omega⟩, ⟨by simp [runOf, startS], by simp [runOf, startS]⟩, by simpa [runOf, startS] using hi, fun e => by cases e⟩
  have := List.mem_of_getElem? hc
  have := (List.mem_replicate.1 this).2
  subst this
  simp [start1]
theorem inv_core {x : Spec} {m : Int} {s t : State} (h : s.core = t.core) (hi : Inv x m (runOf s)) : Inv x m (runOf t) := by rw [← runOf_core h]; exact hi
theorem inv_mkS {x : Spec} {m : Int} {r : RunSt} (hi : Inv x m r) : Inv x m (runOf (mkS r)) := ⟨hi.len, hi.ok, hi.fit, hi.times, hi.few, hi.fl⟩
theorem handleE_check {x : Spec} {s : State} {e : Event} (h : handleE x s e = 0) : validB x s = true ∧ checkN x s e = 0 := by
  unfold handleE at h
  by_cases hv : validB x s = true
  · rw [if_pos hv] at h; exact ⟨hv, h⟩
  · rw [if_neg hv] at h; cases h
/-- A tree of one supervisor whose children are workers. -/
structure One (x : Spec) : Prop where
  ok : chk x = 0
  subs : ∀ c ∈ x.children.l, c.sub = -1
end
section
open Go Go.RowKit
set_option linter.unusedVariables false
set_option linter.unusedSimpArgs false
set_option maxRecDepth 10000
set_option maxHeartbeats 4000000
end
section
open Go Go.RowKit
set_option linter.unusedVariables false
set_option linter.unusedSimpArgs false
set_option maxRecDepth 10000
set_option maxHeartbeats 8000000

/-- What the loop of the law keeps. -/
structure One3 (x : Spec) (k : Nat) (now : Int) (ss : Sl State) (s st : State) : Prop where
  l : ss.l = [s]
  nl : ss.nl = some false
  ks : KnownS s
  kst : KnownS st
  core : s.core = st.core
  inv : Inv x (1 + k) (runOf st)
  time : 0 ≤ now ∧ now ≤ 255 * k
end
section
open Go Go.RowKit
set_option linter.unusedVariables false
set_option linter.unusedSimpArgs false
set_option maxRecDepth 10000
set_option maxHeartbeats 4000000

section
attribute [local irreducible] okC okV
end
end
section
open Go Go.RowKit
set_option linter.unusedVariables false
set_option linter.unusedSimpArgs false
set_option maxRecDepth 10000
set_option maxHeartbeats 4000000

section
attribute [local irreducible] okC okV
end
end
section
open Go Go.RowKit
set_option linter.unusedVariables false
set_option linter.unusedSimpArgs false
set_option maxRecDepth 10000
set_option maxHeartbeats 4000000

section
attribute [local irreducible] okC okV
end
end
section
open Go Go.RowKit
set_option linter.unusedVariables false
set_option linter.unusedSimpArgs false
set_option maxRecDepth 10000
set_option maxHeartbeats 2000000
section
attribute [local irreducible] okC okV
end
end
section
open Go Go.RowKit
set_option linter.unusedVariables false
set_option linter.unusedSimpArgs false
set_option maxRecDepth 10000
set_option maxHeartbeats 2000000
section
attribute [local irreducible] okC okV
end
end
section
open Go Go.RowKit
set_option linter.unusedVariables false
set_option linter.unusedSimpArgs false
set_option maxRecDepth 10000
set_option maxHeartbeats 4000000

def refT (l : Sl Spec) (S vS : Nat) (av : AV) : AV := .agg [specs l, .osl S vS 0 l.l.length, av, .isl (some true) 0 []]
structure RefM (l : Sl Spec) (p S vS : Nat) (oA : Option Nat) (t : Tree) (H : Heap) : Prop where
  blk : ∃ av, H[p]? = some (.arr 0 4 false [refT l S vS av]) ∧ Grow H 4 oA av (t.out.map Event.av)
  sup : ∃ ss : List State, H[S]? = some (.arr vS 4 false (ss.map State.av)) ∧ ss.map State.core = t.ss.map State.core ∧ ∀ s ∈ ss, KnownS s
  len : t.ss.length = l.l.length
  ne : p ≠ S ∧ oA ≠ some p ∧ oA ≠ some S
section refm
variable {l : Sl Spec} {p S vS : Nat} {oA : Option Nat} {t : Tree} {H : Heap}
theorem RefM.kept (h : RefM l p S vS oA t H) {G : Heap} (hk : Kept none H G) : RefM l p S vS oA t G := by
  obtain ⟨⟨av, e1, e2⟩, ⟨ss, s1, s2, s3⟩, h3, h4⟩ := h
  exact ⟨⟨av, hk.get (by simp) e1, e2.kept hk (by simp)⟩, ⟨ss, hk.get (by simp) s1, s2, s3⟩, h3, h4⟩
theorem RefM.box (h : RefM l p S vS oA t H) (B : Blk) : RefM l p S vS oA t (H ++ [B]) := h.kept (Kept.append none H [B])
theorem RefM.setS (h : RefM l p S vS oA t H) : ∃ ss : List State, H[S]? = some (.arr vS 4 false (ss.map State.av)) ∧ ss.length = l.l.length ∧ ∀ (k : Nat) (s s' : State), s'.core = s.core → KnownS s' →
    RefM l p S vS oA { t with ss := t.ss.set k s } (H.set S (.arr vS 4 false ((ss.map State.av).set k s'.av))) := by
  obtain ⟨⟨av, e1, e2⟩, ⟨ss, s1, s2, s3⟩, h3, n1, n2, n3⟩ := h
  refine ⟨ss, s1, by have := congrArg List.length s2; simp at this; omega, fun k s s' hc hk => ?_⟩
  have hk' : Kept (some S) H (H.set S (.arr vS 4 false ((ss.map State.av).set k s'.av))) := Kept.set _ _ _
  refine ⟨⟨av, hk'.get (fun e => n1 (by cases e; rfl)) e1, e2.kept hk' (fun id hid e => n3 (by rw [e, hid]))⟩, ⟨ss.set k s', ?_, ?_, fun x hx => ?_⟩, by simpa using h3, n1, n2, n3⟩
  · rw [List.getElem?_set_self (List.getElem?_eq_some_iff.1 s1).1, List.map_set]
  · simp only [List.map_set, s2, hc]
  · rcases List.mem_or_eq_of_mem_set hx with h1 | rfl
    · exact s3 x h1
    · exact hk
theorem RefM.emit (h : RefM l p S vS oA t H) (a : Event) (hl : t.out.length ≤ 1000000) :
    ∃ av av' G2 oA', H[p]? = some (.arr 0 4 false [refT l S vS av]) ∧ okO av = some av ∧ av.cells = [av] ∧ ex H (.app 4) [av, .isl (some false) 4 [a.av]] = some (av', G2) ∧ okO av' = some av' ∧ av'.cells = [av'] ∧ av'.cell = true ∧ G2[p]? = some (.arr 0 4 false [refT l S vS av]) ∧
      RefM l p S vS oA' { t with out := t.out ++ [a] } (G2.set p (.arr 0 4 false [refT l S vS av'])) := by
  obtain ⟨⟨av, e1, e2⟩, ⟨ss, s1, s2, s3⟩, h3, n1, n2, n3⟩ := h
  obtain ⟨oA', av', G2, a1, a2, a3, a4⟩ := e2.app1 a.av (by simp) (by simp [appRoom]; omega)
  have hpl := (List.getElem?_eq_some_iff.1 e1).1
  have hSl := (List.getElem?_eq_some_iff.1 s1).1
  have m2 : oA' ≠ some p := fun e => by rcases a4 p e with h | ⟨_, h⟩; exact n2 h; omega
  have m3 : oA' ≠ some S := fun e => by rcases a4 S e with h | ⟨_, h⟩; exact n3 h; omega
  have hk : Kept (some p) G2 (G2.set p (.arr 0 4 false [refT l S vS av'])) := Kept.set _ _ _
  refine ⟨av, av', G2, oA', e1, e2.okO, e2.cells, a1, a2.okO, a2.cells, a2.cell, a3.get n2 e1, ⟨av', List.getElem?_set_self (by have := a3.1; omega), ?_⟩, ⟨ss, hk.get (fun e => n1 (by cases e; rfl)) (a3.get n3 s1), s2, s3⟩, h3, n1, m2, m3⟩
  rw [List.map_append]
  exact a2.kept hk (fun id hid e => m2 (by rw [e, hid]))
theorem frz_sup {ss : List State} (n : Nat) (hs : H[S]? = some (.arr vS 4 false (ss.map State.av))) (hl : ss.length = l.l.length) : Go.Proofs.Ytjknjapdcphcfaa.frz H (n + 1) (.osl S vS 0 l.l.length) = some (Sl.av State.av 4 (ofL 4 ss)) := by
  have ht : ((ss.map State.av).drop 0).take l.l.length = ss.map State.av := by rw [List.drop_zero, List.take_of_length_le (by simp; omega)]
  simp only [Go.Proofs.Ytjknjapdcphcfaa.frz, hs]
  rw [if_pos ⟨trivial, by simp; omega⟩, ht, if_pos (all_still (fun x => by simp) ss), ← isl_sl]
theorem RefM.frz (h : RefM l p S vS oA t H) : ∃ cs, Go.Proofs.Ytjknjapdcphcfaa.frz H 8 (.optr p 0 0 0) = some (.eptr (specs l :: cs)) := by
  obtain ⟨⟨av, e1, e2⟩, ⟨ss, s1, s2, s3⟩, h3, _⟩ := h
  have hl : ss.length = l.l.length := by have := congrArg List.length s2; simp at this; omega
  have f1 := frz_sup (l := l) 6 s1 hl
  obtain ⟨a, g1, _⟩ := e2.slG (n := 6) (all_still (fun x => by simp) _)
  refine ⟨[Sl.av State.av 4 (ofL 4 ss), Sl.av Event.av 4 a, .isl (some true) 0 []], ?_⟩
  have f0 : Go.Proofs.Ytjknjapdcphcfaa.frz H 7 (specs l) = some (specs l) := rfl
  rw [Go.Proofs.Ytjknjapdcphcfaa.frz]
  simp only [e1, refT]
  simp only [if_true, List.getElem?_cons_zero, cells_agg, frzs_cons, frzs_nil, f0, f1, g1, frz_isl, consO_some, Option.map_some, List.drop_zero]
end refm
end
end Go.Proofs.Ytjknjapdcphcfaa
