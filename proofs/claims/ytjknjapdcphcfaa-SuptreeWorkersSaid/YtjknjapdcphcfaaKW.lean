/-
  Trees that run: after a request to stop (conditions: none). How often children are started: what an event counts (conditions: none). How often workers are started: in a tree (conditions: none). Searches in lists of events and of states; lists that are given away (conditions: none). The law SuptreeShutdown: what happens before, and the workers that end afterwards (conditions: none). The law SuptreeShutdown: it is true (conditions: readings of the arguments). Counts: how often the workers were started, as the program lists it (conditions: none). The law SuptreeCounts: what is counted, in plain words (conditions: none). The law SuptreeCounts: it is true (conditions: readings of the arguments). The law SuptreeCounts: it is true (conditions: readings of the arguments). Workers in a tree that runs: started only if they do not run, stopped only if they run (conditions: none). The law SuptreeWorkers: its lists, and the loop over the actions (conditions: none). The law SuptreeWorkers: a round of its loop (conditions: none). The law SuptreeWorkers: it is true (conditions: readings of the arguments).
-/
import Derived.Test.YtjknjapdcphcfaaKE
namespace Go.Proofs.Ytjknjapdcphcfaa
section
open Go Go.RowKit
set_option linter.unusedVariables false
set_option linter.unusedSimpArgs false
set_option maxRecDepth 10000
set_option maxHeartbeats 1000000

/-- The root stops; nothing was started; of the workers only some of these live. f: has the root failed? -/
structure ShutP (l : List Spec) (f : Bool) (L : Nat → Nat → Prop) (t : Tree) (ks : List Nat) : Prop where
  st : (sAt t 0).status = 3 ∨ (sAt t 0).status = 4
  out : ∀ a ∈ t.out, a.kind ≠ 3
  live : ∀ i c, LiveW l t i c → L i c
  fl : (sAt t 0).failed = f
  no : f = false → t.out = []
/-- The root has been asked to stop. -/
structure StopP (l : List Spec) (t : Tree) (ks : List Nat) : Prop where
  st : (sAt t 0).status = 3 ∨ (sAt t 0).status = 4
  out : ∀ a ∈ t.out, a.kind ≠ 3
  no : (sAt t 0).failed = false ∨ (t.out = [] ∧ ks = [])
end
section
open Go Go.RowKit
set_option linter.unusedVariables false
set_option linter.unusedSimpArgs false
set_option maxRecDepth 10000
set_option maxHeartbeats 1000000
end
section
open Go Go.RowKit
set_option linter.unusedVariables false
set_option linter.unusedSimpArgs false
set_option maxRecDepth 10000
set_option maxHeartbeats 1000000

/-- Is it the start of this worker? -/
def isSt (w : Int) (a : Event) : Bool := decide (a.kind = 3) && decide (a.child = w)
/-- How often a worker was started, as the actions say, and as the states say. -/
def emS (l : List Spec) (o : List Event) (p : Nat × Nat) : Nat := (o.filter (isSt (numW (ordT l) (p.1, (p.2 : Int))))).length
def stS (t : Tree) (p : Nat × Nat) : Int := ((sAt t p.1).children.l.getD p.2 default).starts
def dfS (l : List Spec) (t : Tree) (p : Nat × Nat) : Int := (emS l t.out p : Int) - stS t p
def NnT (t : Tree) : Prop := ∀ p, 0 ≤ stS t p
/-- What happens below a supervisor. -/
structure CntB (l : List Spec) (j0 : Nat) (t t' : Tree) : Prop where
  len : t'.ss.length = l.length
  nn : NnT t'
  keep : ∀ k, ¬ Desc l j0 k → sAt t' k = sAt t k
  le : ∀ j c, WorkerAt l (j, c) → dfS l t (j, c) ≤ dfS l t' (j, c)
  em : ∀ j c, WorkerAt l (j, c) → ¬ Desc l j0 j → emS l t'.out (j, c) = emS l t.out (j, c)
/-- What performing actions of a supervisor does. -/
structure CntP (l : List Spec) (i : Nat) (acts : List Event) (t t' : Tree) : Prop where
  len : t'.ss.length = l.length
  nn : NnT t'
  keep : ∀ k, ¬ Below l i k → sAt t' k = sAt t k
  le : ∀ j c, WorkerAt l (j, c) → j ≠ i → dfS l t (j, c) ≤ dfS l t' (j, c)
  em : ∀ j c, WorkerAt l (j, c) → ¬ Desc l i j → emS l t'.out (j, c) = emS l t.out (j, c)
  own : ∀ c, WorkerAt l (i, c) → emS l t'.out (i, c) = emS l t.out (i, c) + (if pendA acts c = .start then 1 else 0)
end
section
open Go Go.RowKit
set_option linter.unusedVariables false
set_option linter.unusedSimpArgs false
set_option maxRecDepth 10000
set_option maxHeartbeats 4000000
end
section
open Go Go.RowKit
set_option linter.unusedVariables false
set_option linter.unusedSimpArgs false
set_option maxRecDepth 10000
set_option maxHeartbeats 8000000

theorem t8a (l : Sl Spec) (h : Sl Happening) : W.pure 8 [specs l, Sl.av Happening.av 3 h] = some (.bool (fineT l.l h.l)) := by
  have h18 := t18a l
  rw [W_pure Φ8 (by simp)]
  unfold fineT
  cases hg : greatT l.l with
  | true => rw [hg] at h18; simp [fi8, c8, evFun, enterFr, intBin, resV, rvVs, rvV, h18]
  | false =>
    rw [hg] at h18
    have h22 := t22 l (great_names hg).1 (by have := (great_names hg).2; omega)
    by_cases hc : chkT l.l = 0
    · rw [hc] at h22
      simp [fi8, c8, evFun, enterFr, intBin, resV, rvVs, rvV, h18, h22, hc]
    · simp [fi8, c8, evFun, enterFr, intBin, resV, rvVs, rvV, h18, h22, hc]
/-- What the loops of the laws keep. -/
structure AtK (l : Sl Spec) (m now : Int) (ss : Sl State) : Prop where
  nl : ss.nl = some false
  ks : ∀ x ∈ ss.l, KnownS x
  go : TreeGo l.l now m (tOf ss.l) []
/-- What the second loop keeps. -/
structure EndK (l : Sl Spec) (m tm : Int) (f : Bool) (k : Nat) (ss : Sl State) (L : List Event) : Prop where
  at0 : AtK l m tm ss
  st : (sAt (tOf ss.l) 0).status = 3 ∨ (sAt (tOf ss.l) 0).status = 4
  fl : (sAt (tOf ss.l) 0).failed = f
  live : ∀ i c, LiveW l.l (tOf ss.l) i c → ∀ j, j < k → (ordT l.l)[j]? ≠ some (i, c)
  out : ∀ a ∈ L, a.kind ≠ 3
  len : L.length ≤ 3000 + 3000 * k
end
section
open Go Go.RowKit
set_option linter.unusedVariables false
set_option linter.unusedSimpArgs false
set_option maxRecDepth 10000
set_option maxHeartbeats 8000000
end
section
open Go Go.RowKit
set_option linter.unusedVariables false
set_option linter.unusedSimpArgs false
set_option maxRecDepth 10000
set_option maxHeartbeats 4000000

def startsAt (s : List State) (p : Nat × Nat) : Int := ((s.getD p.1 default).children.l.getD p.2 default).starts
def KC (st : LoopState) : Blk := .loop st none [(3, .optr 0 0 0 0), (4, .isl (some true) 0 []), (5, I 0), (6, .optr 1 0 0 0)] [20, 21] ra32_0 rb32_0
/-- States that have as many children as the specifications. -/
def FitsL (l : List Spec) (s : List State) : Prop := s.length = l.length ∧ ∀ k, k < l.length → (s.getD k default).children.l.length = (kids l k).length
theorem round32 {l : Sl Spec} {s : Sl State} (hfit : FitsL l.l s.l) {H : Heap} {L : List (Nat × Nat)} (h : OutR [.arr 0 1 false [states s], .arr 0 1 false [.isl (some true) 0 []], KC .ready] 2 1 1 KC H (L.map fun p => I (startsAt s.l p))) (hl : L.length ≤ 1000000) (i c : Nat) (hw : WorkerAt l.l (i, c)) :
    okV (evRound W 2 [I i, I c] H) (fun v H' => v = .bool true ∧ OutR [.arr 0 1 false [states s], .arr 0 1 false [.isl (some true) 0 []], KC .ready] 2 1 1 KC H' ((L ++ [(i, c)]).map fun p => I (startsAt s.l p))) := by
  obtain ⟨hi, ch, hch, _⟩ := hw
  simp only at hi hch
  obtain ⟨st, hst⟩ : ∃ st, s.l[i]? = some st := ⟨_, List.getElem?_eq_getElem (by rw [hfit.1]; exact hi)⟩
  have hgd : s.l.getD i default = st := by rw [List.getD_eq_getElem?_getD, hst]; rfl
  have hcl := (List.getElem?_eq_some_iff.1 hch).1
  have hf2 := hfit.2 i hi
  rw [hgd] at hf2
  obtain ⟨cs, hcs⟩ : ∃ cs, st.children.l[c]? = some cs := ⟨_, List.getElem?_eq_getElem (by omega)⟩
  have hsa : startsAt s.l (i, c) = cs.starts := by unfold startsAt; simp only; rw [hgd, List.getD_eq_getElem?_getD, hcs]; rfl
  obtain ⟨v, v', G2, a1, a2, a3, a4, a5, a6, a7, a8, a9, a10, a11, a12⟩ := h.step (I cs.starts) (by simp) (by simpa using hl)
  have hz := h.at (j := 0) (by simp) (by decide) (by decide) rfl
  have : okV (evRound W 2 [I i, I c] H) (fun u H' => u = .bool true ∧ H' = (G2.set 1 (.arr 0 1 false [v'])).set 2 (KC .ready)) := by
    rw [evRound_open h.hy rfl]
    have hy := h.hy
    simp only [KC] at a1 a3 a10 a11 hy hz ⊢
    simp [-getElem?_pos, List.getElem?_cons_zero, putAll, evra32_0, xra32_0, evrb32_0, xrb32_0, intBin, hy, hz, hst, hcs, a1, a2, a3, a4, a5, a6, a7, a8, a9, a10, a11]
  obtain ⟨u, H', e1, rfl, rfl⟩ := okV_iff.1 this
  rw [e1]
  refine ⟨rfl, ?_⟩
  rw [List.map_append]
  simp only [List.map_cons, List.map_nil, hsa]
  exact a12
theorem t32 {l : Sl Spec} {s : Sl State} (hn : NamesOk l.l) (hc : chkT l.l = 0) (hs : SmallS s.l) (hsl : s.l.length ≤ 1000000) (hv : validT l.l s.l = true) (hfit : FitsL l.l s.l) : ∃ r : Sl Int, W.pure 32 [specs l, states s] = some (.tuple [Sl.ints r, I 0]) ∧ r.l = (ordT l.l).map (startsAt s.l) ∧ KnownNil r := by
  have ht := tree_of hc
  have h0 : (0 : Nat) < l.l.length := by have := ht.len.1; omega
  have hlen := order_len ht l.l.length 0 h0
  have h22 := t22 l hn (by have := ht.len.2; omega)
  rw [hc] at h22
  have h56 := t56 ht hn hs hsl
  rw [hv] at h56
  have hw := walk72 ht (f := .yld 2) rfl (ordT l.l) (fun q H => OutR [.arr 0 1 false [states s], .arr 0 1 false [.isl (some true) 0 []], KC .ready] 2 1 1 KC H (q.map fun p => I (startsAt s.l p)))
    (fun q H i c hwk hp hr => by
      rw [W_yld]
      exact round32 hfit hr (by have := hp.length_le; simp only [ordT, List.length_append] at this; omega) i c hwk)
    (fun q H b hr => hr.box b) l.l.length 0 [] [.arr 0 1 false [states s], .arr 0 1 false [.isl (some true) 0 []], KC .ready] (by omega) h0 (List.prefix_refl _)
    ⟨by simp, by simp, by decide, Nat.le_refl _, rfl, ⟨none, _, rfl, grow_nil _ _, by simp⟩, fun _ _ _ _ => rfl⟩
  obtain ⟨v, G, e1, rfl, hr⟩ := okV_iff.1 hw
  rw [List.nil_append] at hr
  have c71 := t71 rfl rfl e1
  have hy := hr.hy
  obtain ⟨o, w, g1, g2, g3⟩ := hr.hb
  rw [show (fun p => I (startsAt s.l p)) = I ∘ startsAt s.l from rfl, ← List.map_map] at g2
  obtain ⟨r, f1, f2, f3⟩ := (g2.kept (Kept.set 2 G (.loop .exhausted none [(3, .optr 0 0 0 0), (4, .isl (some true) 0 []), (5, I 0), (6, .optr 1 0 0 0)] [20, 21] ra32_0 rb32_0)) (fun id hid e => by cases hid; have := g3 _ e; simp at this)).slG (n := 6) (all_still (fun s => by simp) _)
  refine ⟨r, ?_, f2, f3⟩
  rw [W_pure Φ32 (by simp)]
  have c49 := t49 l 0
  simp only [cloW, KC, Int.natCast_zero] at c71 hy c49
  have he := rngEnd_ready (v := .tuple []) (F := [(3, .optr 0 0 0 0), (4, .isl (some true) 0 []), (5, I 0), (6, .optr 1 0 0 0)]) hy
  have hb : (G.set 2 (.loop .exhausted none [(3, .optr 0 0 0 0), (4, .isl (some true) 0 []), (5, I 0), (6, .optr 1 0 0 0)] [20, 21] ra32_0 rb32_0))[1]? = some (.arr 0 1 false [w]) := by rw [List.getElem?_set_ne (by decide)]; exact g1
  simp [-getElem?_pos, List.getElem?_cons_zero, fi32, c32, evFun, enterFr, intBin, resV, rvVs, rvV, h22, h56, c49, c71, he, hb, g2.okO, g2.cells, f1]
theorem go_fits {l : List Spec} {tm m : Int} {t : Tree} {ks : List Nat} (h : TreeGo l tm m t ks) : FitsL l t.ss := ⟨h.len, fun k hk => (h.inv k hk).len⟩
end
section
open Go Go.RowKit
set_option linter.unusedVariables false
set_option linter.unusedSimpArgs false
set_option maxRecDepth 10000
set_option maxHeartbeats 1000000

/-- What a new tree does: all workers are started, in their order. -/
theorem new_events {l : List Spec} (ht : TreeOk l) : (newT l).out = (List.range (ordT l).length).map fun q : Nat => (⟨3, (q : Int), 0, 0⟩ : Event) := by
  rw [(new_out ht).1]
  refine List.ext_getElem? fun w => ?_
  rw [List.getElem?_map, List.getElem?_map]
  by_cases h : w < (ordT l).length
  · rw [List.getElem?_range h]
    obtain ⟨⟨i, c⟩, hw⟩ : ∃ p, (ordT l)[w]? = some p := ⟨_, List.getElem?_eq_getElem h⟩
    rw [hw]
    simp only [Option.map_some, startE, num_at ht hw]
  · rw [List.getElem?_eq_none (by omega), List.getElem?_eq_none (by simp; omega)]; rfl
/-- The counts of states, against those of the actions. -/
def CntOk (l : List Spec) (ss : List State) (o : List Event) : Prop := ∀ j c, WorkerAt l (j, c) → stS (tOf ss) (j, c) ≤ emS l o (j, c) ∧ (j = 0 → stS (tOf ss) (j, c) = emS l o (j, c))
end
section
open Go Go.RowKit
set_option linter.unusedVariables false
set_option linter.unusedSimpArgs false
set_option maxRecDepth 10000
set_option maxHeartbeats 8000000
end
section
open Go Go.RowKit
set_option linter.unusedVariables false
set_option linter.unusedSimpArgs false
set_option maxRecDepth 10000
set_option maxHeartbeats 8000000

/-- What the loop keeps. -/
structure At7 (l : Sl Spec) (k : Nat) (now : Int) (ss : Sl State) (o : List Event) (a : Sl Event) : Prop where
  at0 : AtK l (1 + 17 * k) now ss
  time : 0 ≤ now ∧ now ≤ 255 * k
  len : o.length ≤ 3000 * k
  alen : a.l.length ≤ 3000
  cnt : CntOk l.l ss.l (o ++ a.l)
end
section
open Go Go.RowKit
set_option linter.unusedVariables false
set_option linter.unusedSimpArgs false
set_option maxRecDepth 10000
set_option maxHeartbeats 1000000

/-- How a worker stands before something happens; x: the worker that ends. -/
def atS (ss : List State) (x : Option (Nat × Nat)) (i c : Nat) : Nat := if x = some (i, c) then 0 else stat (viewT (tOf ss) i c)
abbrev SimP (l : List Spec) (tm : Int) (ss : List State) (x : Option (Nat × Nat)) : Tree → List Nat → Prop := fun t _ => SimT l tm (atS ss x) t (fun _ _ => .no)
theorem sim_kept {l : List Spec} (ht : TreeOk l) {tm : Int} (htm : 0 ≤ tm ∧ tm ≤ 1099511627776) (ss : List State) (x : Option (Nat × Nat)) : KeptBy l tm (SimP l tm ss x) := by
  intro m t d r k ks0 ks' hm h hq h1 h2 h3 h4 hP _ _
  have h' : TreeGo l tm 1000000 t (k :: ks0) := ⟨h.len, fun k hk => (h.inv k hk).mono hm, h.time, h.q, h.link⟩
  obtain ⟨k', ks0', e, _, _, _, _, _, _, ks2, _, _, _, g4⟩ := run_due ht htm (by omega) h' hq
  cases e
  exact g4 _ _ (fun _ _ _ => rfl) (SimT.same hP rfl rfl)
theorem sim_asked {l : List Spec} (ht : TreeOk l) {tm m : Int} (htm : 0 ≤ tm ∧ tm ≤ 1099511627776) (hm : 1 ≤ m ∧ m ≤ 900000) {ss : List State} (h : TreeGo l tm m (tOf ss) []) (hE : handleE (l.getD 0 default) (ss.getD 0 default) ⟨2, -1, 0, tm⟩ = 0) : FirstBy l tm m ss 0 ⟨2, -1, 0, tm⟩ (SimP l tm ss none) := by
  intro ks' _ _ _
  obtain ⟨_, _, _, _, g⟩ := run_asked ht htm (by omega) h (e := ⟨2, -1, 0, tm⟩) rfl rfl hE
  exact g _ _ (fun _ _ _ => rfl) ⟨fun a ha => (by cases ha), fun i c hw => by show some (atS ss none i c) = some (stat _); simp [atS]⟩
theorem sim_exit {l : List Spec} (ht : TreeOk l) {tm m : Int} (htm : 0 ≤ tm ∧ tm ≤ 1099511627776) (hm : 1 ≤ m ∧ m ≤ 900000) {ss : List State} (h : TreeGo l tm m (tOf ss) []) {i c : Nat} (hw : WorkerAt l (i, c)) {reason : Int} (hE : handleE (l.getD i default) (ss.getD i default) ⟨1, c, reason, tm⟩ = 0) : FirstBy l tm m ss i ⟨1, c, reason, tm⟩ (SimP l tm ss (some (i, c))) := by
  intro ks' _ _ _
  obtain ⟨_, _, _, _, _, g⟩ := run_worker ht htm (by omega) h hw (e := ⟨1, c, reason, tm⟩) rfl rfl rfl hE
  refine g _ _ (fun _ _ _ => rfl) (fun a ha => by cases ha) (fun j d hw' => ⟨fun hh => ?_, fun hh => ?_⟩)
  · obtain ⟨rfl, e⟩ := hh
    cases e
    show some (atS ss (some (j, c)) j c) = some 0
    simp [atS]
  · show some (atS ss (some (i, c)) j d) = some (stat _)
    unfold atS
    rw [if_neg (fun e => hh (by cases e; exact ⟨rfl, rfl⟩))]
/-- The workers by their numbers. -/
def stL (l : List Spec) (ss : List State) (x : Option (Nat × Nat)) : List Nat := (ordT l).map fun p => atS ss x p.1 p.2
/-- An action. -/
def actL (S : List Nat) (a : Event) : List Nat := if a.kind = 5 then S else S.set a.child.toNat (if a.kind = 3 then 1 else 2)
theorem actL_len (S : List Nat) (a : Event) : (actL S a).length = S.length := by unfold actL; split <;> simp
theorem sim_none (w : Int) (o : List Event) : o.foldl (simE w) none = none := by
  induction o with
  | nil => rfl
  | cons a o ih => exact ih
theorem simW_pre {w : Int} {o r : List Event} {n y : Nat} (h : simW w (o ++ r) n = some y) : ∃ z, simW w o n = some z := by
  cases hz : simW w o n with
  | some z => exact ⟨z, rfl⟩
  | none =>
    unfold simW at h hz
    rw [List.foldl_append, hz, sim_none] at h
    cases h
/-- What the actions so far have made of the workers. -/
def SoFar (S0 : List Nat) (o : List Event) (S : List Nat) : Prop := S.length = S0.length ∧ ∀ (w a b : Nat), S0[w]? = some a → S[w]? = some b → simW w o a = some b
theorem soFar_nil (S : List Nat) : SoFar S [] S := ⟨rfl, fun w a b h h' => by rw [h] at h'; cases h'; rfl⟩
/-- All actions are as they must be. -/
structure OutOk (n : Nat) (tm : Int) (S0 : List Nat) (o : List Event) : Prop where
  len : S0.length = n
  ev : ∀ a ∈ o, a.time = tm ∧ (a.kind = 5 ∨ 0 ≤ a.child ∧ a.child < (n : Int))
  sim : ∀ (w a : Nat), S0[w]? = some a → ∃ b, simW w o a = some b
theorem soFar_step {n : Nat} {tm : Int} {S0 S : List Nat} {o : List Event} (h : OutOk n tm S0 o) {k : Nat} {a : Event} (ha : o[k]? = some a) (hS : SoFar S0 (o.take k) S) :
    SoFar S0 (o.take (k + 1)) (actL S a) ∧ a.time = tm ∧ (a.kind = 5 ∨ ∃ w : Nat, a.child = (w : Int) ∧ w < n ∧ a.kind ≠ 5 ∧ (a.kind = 3 → S[w]? = some 0) ∧ (a.kind ≠ 3 → S[w]? = some 1)) := by
  obtain ⟨e1, e2⟩ := h.ev a (List.mem_of_getElem? ha)
  have htake : o.take (k + 1) = o.take k ++ [a] := by rw [List.take_add_one, ha]; rfl
  have pre : ∀ (w x : Nat), S0[w]? = some x → ∃ z, simE w (simW w (o.take k) x) a = some z := by
    intro w x hx
    obtain ⟨b, hb⟩ := h.sim w x hx
    rw [← List.take_append_drop (k + 1) o] at hb
    obtain ⟨z, hz⟩ := simW_pre hb
    rw [htake, simW_app] at hz
    exact ⟨z, hz⟩
  by_cases h5 : a.kind = 5
  · refine ⟨⟨by rw [actL_len]; exact hS.1, fun w x b hx hb => ?_⟩, e1, .inl h5⟩
    unfold actL at hb
    rw [if_pos h5] at hb
    rw [htake, simW_app, hS.2 w x b hx hb]
    simp [simE, h5]
  · obtain ⟨c1, c2⟩ := e2.resolve_left h5
    obtain ⟨w, hw⟩ : ∃ w : Nat, a.child = (w : Int) := ⟨a.child.toNat, by omega⟩
    have hwn : w < n := by omega
    have hx := List.getElem?_eq_getElem (l := S0) (i := w) (by have := h.len; omega)
    obtain ⟨sw, hb⟩ : ∃ s, S[w]? = some s := ⟨_, List.getElem?_eq_getElem (by have := h.len; have := hS.1; omega)⟩
    obtain ⟨z, hz⟩ := pre w _ hx
    have hsw := hS.2 w _ _ hx hb
    rw [hsw] at hz
    have hz' : simE w (some sw) a = (if a.kind = 3 then (if sw = 0 then some 1 else none) else if sw = 1 then some 2 else none) := by
      unfold simE
      simp only [Option.bind_some]
      rw [if_neg h5, if_pos hw]
    refine ⟨⟨by rw [actL_len]; exact hS.1, fun v x b hv hbv => ?_⟩, e1, .inr ⟨w, hw, hwn, h5, fun h3 => ?_, fun h3 => ?_⟩⟩
    · unfold actL at hbv
      rw [if_neg h5, hw] at hbv
      simp only [Int.toNat_natCast] at hbv
      rw [htake, simW_app]
      by_cases hvw : v = w
      · subst hvw
        rw [hx] at hv; cases hv
        rw [List.getElem?_set_self (by have := h.len; have := hS.1; omega)] at hbv
        cases hbv
        rw [hsw, hz']
        rw [hz'] at hz
        by_cases h3 : a.kind = 3
        · rw [if_pos h3] at hz ⊢
          rw [if_pos h3]
          split at hz
          · rename_i h0; rw [if_pos h0]
          · cases hz
        · rw [if_neg h3] at hz ⊢
          rw [if_neg h3]
          split at hz
          · rename_i h0; rw [if_pos h0]
          · cases hz
      · rw [List.getElem?_set_ne (fun e => hvw e.symm)] at hbv
        rw [hS.2 v x b hv hbv]
        unfold simE
        simp only [Option.bind_some]
        rw [if_neg h5, if_neg (by omega)]
    · rw [hb]
      rw [hz', if_pos h3] at hz
      split at hz
      · rename_i h0; rw [h0]
      · cases hz
    · rw [hb]
      rw [hz', if_neg h3] at hz
      split at hz
      · rename_i h0; rw [h0]
      · cases hz
/-- From what was carried through the tree. -/
theorem outOk_of {l : List Spec} (ht : TreeOk l) {tm : Int} {ss : List State} {x : Option (Nat × Nat)} {t : Tree} (h : SimT l tm (atS ss x) t (fun _ _ => .no)) : OutOk (ordT l).length tm (stL l ss x) t.out := by
  have h0 : 0 < l.length := by have := ht.len.1; omega
  refine ⟨by simp [stL], h.ev, fun w a ha => ?_⟩
  unfold stL at ha
  rw [List.getElem?_map, Option.map_eq_some_iff] at ha
  obtain ⟨⟨i, c⟩, hp, rfl⟩ := ha
  have hw := (order_mem ht l.length 0 h0 (i, c) (List.mem_of_getElem? hp)).1
  have := h.wk i c hw
  rw [num_at ht hp] at this
  exact ⟨_, this⟩
theorem stL_next {l : List Spec} (ht : TreeOk l) {tm : Int} {ss ss' : List State} {x : Option (Nat × Nat)} {t : Tree} (h : SimT l tm (atS ss x) t (fun _ _ => .no)) (hc : ss'.map State.core = t.ss.map State.core) {S : List Nat} (hS : SoFar (stL l ss x) t.out S) : S = stL l ss' none := by
  have h0 : 0 < l.length := by have := ht.len.1; omega
  apply List.ext_getElem?
  intro w
  by_cases hw : w < (ordT l).length
  · obtain ⟨⟨i, c⟩, hp⟩ : ∃ p, (ordT l)[w]? = some p := ⟨_, List.getElem?_eq_getElem hw⟩
    have hwa := (order_mem ht l.length 0 h0 (i, c) (List.mem_of_getElem? hp)).1
    have hlen : S.length = (ordT l).length := by rw [hS.1]; simp [stL]
    have hs := List.getElem?_eq_getElem (l := S) (i := w) (by omega)
    have h1 := hS.2 w (atS ss x i c) _ (by simp [stL, hp]) hs
    have h2 := h.wk i c hwa
    rw [num_at ht hp, h1] at h2
    have h3 : S[w] = stat (viewT t i c) := Option.some.inj h2
    rw [hs, h3]
    unfold stL
    rw [List.getElem?_map, hp]
    simp only [Option.map_some, atS]
    rw [if_neg (by simp), view_core (t := t) (t' := tOf ss') hc]
  · rw [List.getElem?_eq_none (by rw [hS.1]; simp [stL]; omega), List.getElem?_eq_none (by simp [stL]; omega)]
/-- A worker that can end runs. -/
theorem runs_of {x : Spec} {s : State} {c : Nat} {reason tm : Int} (hE : handleE x s ⟨1, c, reason, tm⟩ = 0) : ∃ v, s.children.l[c]? = some v ∧ (v.status = 1 ∨ v.status = 2) := by
  obtain ⟨_, _, _, hd⟩ := check_facts (handleE_check hE).2
  unfold deadB at hd
  rw [if_pos rfl] at hd
  simp only [Int.toNat_natCast] at hd
  split at hd
  · rename_i v hv
    refine ⟨v, hv, ?_⟩
    by_cases h1 : v.status = 1
    · exact .inl h1
    · by_cases h2 : v.status = 2
      · exact .inr h2
      · simp [h1, h2] at hd
  · cases hd
theorem stat_ne {v : Int} : stat v ≠ 0 ↔ v = 1 ∨ v = 2 := by
  unfold stat
  split
  · simp_all
  · split <;> simp_all
end
section
open Go Go.RowKit
set_option linter.unusedVariables false
set_option linter.unusedSimpArgs false
set_option maxRecDepth 10000
set_option maxHeartbeats 8000000

/-- The lists of the law, out of how the workers stand. -/
def runB (S : List Nat) : List AV := S.map fun n => .bool (decide (n ≠ 0))
def stpB (S : List Nat) : List AV := S.map fun n => .bool (decide (n = 2))
theorem runB_len (S : List Nat) : (runB S).length = S.length := by simp [runB]
theorem stpB_len (S : List Nat) : (stpB S).length = S.length := by simp [stpB]
theorem runB_at {S : List Nat} {i n : Nat} (h : S[i]? = some n) : (runB S)[i]? = some (.bool (decide (n ≠ 0))) := by simp [runB, h]
theorem stpB_at {S : List Nat} {i n : Nat} (h : S[i]? = some n) : (stpB S)[i]? = some (.bool (decide (n = 2))) := by simp [stpB, h]
theorem setB (B : List AV) (i : Nat) (b v : Bool) (h : B[i]? = some (.bool b)) : setElem B i 0 (.bool v) = some (B.set i (.bool v)) := by
  simp [setElem, h, AV.cells, AV.cell]
theorem runB_set (S : List Nat) (i n : Nat) : runB (S.set i n) = (runB S).set i (.bool (decide (n ≠ 0))) := by simp [runB, List.map_set]
theorem stpB_set (S : List Nat) (i n : Nat) : stpB (S.set i n) = (stpB S).set i (.bool (decide (n = 2))) := by simp [stpB, List.map_set]
theorem set_same {α : Type} {l : List α} {i : Nat} {x : α} (h : l[i]? = some x) : l.set i x = l := by
  apply List.ext_getElem?
  intro j
  by_cases hj : j = i
  · subst hj
    rw [List.getElem?_set_self (List.getElem?_eq_some_iff.1 h).1, h]
  · rw [List.getElem?_set_ne (fun e => hj e.symm)]
/-- Both lists, in memory. -/
structure Arrs (G : Heap) (S : List Nat) : Prop where
  r : G[0]? = some (.arr 0 1 false (runB S))
  t : G[1]? = some (.arr 0 1 false (stpB S))
theorem Arrs.past {G : Heap} {S : List Nat} (h : Arrs G S) (b : Blk) : Arrs (G ++ [b]) S := ⟨app_get h.r b, app_get h.t b⟩
theorem Arrs.len {G : Heap} {S : List Nat} (h : Arrs G S) : 1 < G.length := (List.getElem?_eq_some_iff.1 h.t).1
theorem Arrs.set0 {G : Heap} {S S' : List Nat} (h : Arrs G S) {B : List AV} (hr : B = runB S') (ht : stpB S' = stpB S) : Arrs (G.set 0 (.arr 0 1 false B)) S' := by
  have := h.len
  refine ⟨?_, ?_⟩
  · rw [List.getElem?_set_self (by omega), hr]
  · rw [List.getElem?_set_ne (by omega), ht]; exact h.t
theorem Arrs.set1 {G : Heap} {S S' : List Nat} (h : Arrs G S) {B : List AV} (hr : B = stpB S') (ht : runB S' = runB S) : Arrs (G.set 1 (.arr 0 1 false B)) S' := by
  have := h.len
  refine ⟨?_, ?_⟩
  · rw [List.getElem?_set_ne (by omega), ht]; exact h.r
  · rw [List.getElem?_set_self (by omega), hr]
theorem Arrs.both {G : Heap} {S S' : List Nat} (h : Arrs G S) {B B' : List AV} (hr : B = runB S') (ht : B' = stpB S') : Arrs ((G.set 0 (.arr 0 1 false B)).set 1 (.arr 0 1 false B')) S' := by
  have := h.len
  refine ⟨?_, ?_⟩
  · rw [List.getElem?_set_ne (by omega), List.getElem?_set_self (by omega), hr]
  · rw [List.getElem?_set_self (by simp; omega), ht]
/-- The frame of the loop over the actions. -/
abbrev F6 (l : Sl Spec) (h : Sl Happening) (nm ss : AV) (n : Nat) (now : Int) (k : Nat) : Fr := [(0, specs l), (5, nm), (10, .osl 0 0 0 n), (11, .osl 1 0 0 n), (14, I now), (17, ss), (78, Sl.av Happening.av 3 h), (79, I h.l.length), (80, I k)]
theorem inner6 {l : Sl Spec} {h : Sl Happening} {r : Sl (List UInt8)} {ss : AV} {now : Int} {k : Nat} {a : Sl Event} (hn : r.l.length ≤ 1000) (ha : a.l.length ≤ 100000) {S0 : List Nat} (hO : OutOk r.l.length now S0 a.l) {G : Heap} (h0 : Arrs G S0) (kss : okO ss = some ss) :
    okC (W.loop [0, 5, 10, 11, 14, 17, 78, 79, 80, 145, 146, 147] l6_0 (F6 l h (Sl.av AV.str 1 r) ss r.l.length now k ++ [(145, Sl.av Event.av 4 a), (146, I a.l.length), (147, I 0)]) G)
      (fun y F G' => y = .exit 4 ∧ F.keep [0, 5, 10, 11, 14, 17, 78, 79, 80] = F6 l h (Sl.av AV.str 1 r) ss r.l.length now k ∧ ∃ S, SoFar S0 a.l S ∧ Arrs G' S) := by
  have hL := loop_fold (Φ := Φ) (live := [0, 5, 10, 11, 14, 17, 78, 79, 80, 145, 146, 147]) (L := l6_0) a.l (σ := Unit) (fun _ _ s => s)
    (fun j _ F G => F = F6 l h (Sl.av AV.str 1 r) ss r.l.length now k ++ [(145, Sl.av Event.av 4 a), (146, I a.l.length), (147, I j)] ∧ ∃ S, SoFar S0 (a.l.take j) S ∧ Arrs G S)
    (fun _ y F G => y = .exit 4 ∧ F.keep [0, 5, 10, 11, 14, 17, 78, 79, 80] = F6 l h (Sl.av AV.str 1 r) ss r.l.length now k ∧ ∃ S, SoFar S0 a.l S ∧ Arrs G S) (s := ()) (F := F6 l h (Sl.av AV.str 1 r) ss r.l.length now k ++ [(145, Sl.av Event.av 4 a), (146, I a.l.length), (147, I 0)]) (H := G)
    ⟨rfl, S0, soFar_nil S0, h0⟩ ?_ ?_
  · exact hL
  · rintro j x ⟨⟩ F G hj hx ⟨rfl, S, hS, hA⟩
    obtain ⟨hS', htime, hcase⟩ := soFar_step hO hx hS
    have hw := wrap_succ (k := j) (by omega)
    have hj' : (j : Int) < (a.l.length : Int) := by omega
    have hze : (.agg [I 0, I 0, I 0, I 0] : AV) = (⟨0, 0, 0, 0⟩ : Event).av := rfl
    have hB : ∀ b c : Blk, (G ++ [b]).set G.length c = G ++ [c] := fun b c => by simp
    have g0 := fun b => (hA.past b).r
    have g1 := fun b => (hA.past b).t
    have hlen : S.length = r.l.length := by rw [hS.1]; exact hO.len
    have hlG := hA.len
    have hG0 : ¬ 0 = G.length := by omega
    have hG1 : ¬ 1 = G.length := by omega
    rcases hcase with h5 | ⟨w, hc, hwn, h5, h3, h4⟩
    · have hact : actL S x = S := by unfold actL; rw [if_pos h5]
      rw [hact] at hS'
      simp [-getElem?_pos, List.getElem?_cons_zero, -List.append_assoc, app_last, evl6_0, b6_0, intBin, F6, hj, hj', hx, hw, hB, hze, h5, htime, kss]
      exact ⟨S, hS', hA.past _⟩
    · have hc0 : ¬ (w : Int) < 0 := by omega
      have hc1 : ¬ (r.l.length : Int) ≤ (w : Int) := by omega
      have hc2 : (w : Int) < (r.l.length : Int) := by omega
      have hact : actL S x = S.set w (if x.kind = 3 then 1 else 2) := by unfold actL; rw [if_neg h5, hc]; rfl
      rw [hact] at hS'
      have hs01 : ∀ b B, ((G ++ [b]).set 0 B)[1]? = some (.arr 0 1 false (stpB S)) := fun b B => by rw [List.getElem?_set_ne (by omega)]; exact g1 b
      by_cases hk : x.kind = 3
      · have h3' := h3 hk
        rw [if_pos hk] at hS'
        have r1 := runB_at h3'
        have s1 := stpB_at h3'
        have q1 := setB _ w _ true r1
        have q2 := setB _ w _ false s1
        simp [-getElem?_pos, List.getElem?_cons_zero, -List.append_assoc, app_last, evl6_0, b6_0, intBin, F6, hj, hj', hx, hw, hB, hze, h5, htime, kss, hk, hc, hc0, hc1, hc2, hwn, g0, g1, hG0, hG1, r1, s1, q1, q2, hs01, hlen, runB_len, stpB_len]
        exact ⟨_, hS', (hA.past _).both (by rw [runB_set]; rfl) (by rw [stpB_set]; rfl)⟩
      · have h4' := h4 hk
        rw [if_neg hk] at hS'
        have r1 := runB_at h4'
        have s1 := stpB_at h4'
        have q2 := setB _ w _ true s1
        simp [-getElem?_pos, List.getElem?_cons_zero, -List.append_assoc, app_last, evl6_0, b6_0, intBin, F6, hj, hj', hx, hw, hB, hze, h5, htime, kss, hk, hc, hc0, hc1, hc2, hwn, g0, g1, hG0, hG1, r1, s1, q2, hs01, hlen, runB_len, stpB_len]
        exact ⟨_, hS', (hA.past _).set1 (by rw [stpB_set]; rfl) (by rw [runB_set]; exact set_same r1)⟩
  · rintro ⟨⟩ F G ⟨rfl, S, hS, hA⟩
    rw [List.take_of_length_le (Nat.le_refl _)] at hS
    simp [evl6_0, b6_0, intBin, F6, kss]
    exact ⟨S, hS, hA⟩
end
section
open Go Go.RowKit
set_option linter.unusedVariables false
set_option linter.unusedSimpArgs false
set_option maxRecDepth 10000
set_option maxHeartbeats 8000000

theorem stL_end {l : List Spec} (ht : TreeOk l) (ss : List State) {w i c : Nat} (hw : (ordT l)[w]? = some (i, c)) : stL l ss (some (i, c)) = (stL l ss none).set w 0 := by
  apply List.ext_getElem?
  intro v
  by_cases hv : v = w
  · subst hv
    have hlt := (List.getElem?_eq_some_iff.1 hw).1
    rw [List.getElem?_set_self (by simp [stL]; exact hlt)]
    simp [stL, hw, atS]
  · rw [List.getElem?_set_ne (fun e => hv e.symm)]
    unfold stL
    rw [List.getElem?_map, List.getElem?_map]
    cases hp : (ordT l)[v]? with
    | none => rfl
    | some p =>
      obtain ⟨i', c'⟩ := p
      have hne : ¬ (some (i, c) = some (i', c')) := fun e => by
        cases e
        have h1 := num_at ht hw
        have h2 := num_at ht hp
        rw [h1] at h2
        omega
      simp only [Option.map_some, atS, if_neg hne]
      rw [if_neg (by simp)]
theorem stL_at {l : List Spec} {ss : List State} {w i c : Nat} (hw : (ordT l)[w]? = some (i, c)) : (stL l ss none)[w]? = some (stat (viewT (tOf ss) i c)) := by
  simp [stL, hw, atS]
theorem stL_len (l : List Spec) (ss : List State) (x : Option (Nat × Nat)) : (stL l ss x).length = (ordT l).length := by simp [stL]
/-- A worker that can't end does not run. -/
theorem dead_of {l : List Spec} (ht : TreeOk l) {m tm : Int} (htm : 0 ≤ tm ∧ tm ≤ 1099511627776) (hm : m ≤ 900000) {ss : List State} (h : TreeGo l tm m (tOf ss) []) {i c : Nat} (hw : WorkerAt l (i, c)) {reason : Int} (hr : 0 ≤ reason ∧ reason ≤ 9) (hE : handleE (l.getD i default) (ss.getD i default) ⟨1, c, reason, tm⟩ ≠ 0) : stat (viewT (tOf ss) i c) = 0 := by
  obtain ⟨hi, ch, hch, hsub⟩ := hw
  simp only at hi hch
  have hlen : (sAt (tOf ss) i).children.l.length = (kids l i).length := (h.inv i hi).len
  have hcs : c < (sAt (tOf ss) i).children.l.length := by rw [hlen]; exact (List.getElem?_eq_some_iff.1 hch).1
  have hview : viewT (tOf ss) i c = (sAt (tOf ss) i).children.l[c].status := by
    unfold viewT
    rw [List.getD_eq_getElem?_getD, List.getElem?_eq_getElem hcs]; rfl
  have hok : chk (l.getD i default) = 0 := by
    have hx := List.getElem?_eq_getElem hi
    rw [List.getD_eq_getElem?_getD, hx]; exact ht.ok _ _ hx
  by_cases h0 : stat (viewT (tOf ss) i c) = 0
  · exact h0
  · exfalso
    have hv := stat_ne.1 h0
    rw [hview] at hv
    exact hE (exit_ok hok (by omega) (h.inv i hi) (List.getElem?_eq_getElem hcs) hv (by simp [reasonB, inR, hr.1, hr.2]) htm (h.time i hi))
theorem live_of {l : List Spec} {tm : Int} {ss : List State} {i c : Nat} {reason : Int} (hE : handleE (l.getD i default) (ss.getD i default) ⟨1, c, reason, tm⟩ = 0) : stat (viewT (tOf ss) i c) ≠ 0 := by
  obtain ⟨v, hv, h12⟩ := runs_of hE
  rw [stat_ne]
  have : viewT (tOf ss) i c = v.status := by
    show ((ss.getD i default).children.l.getD c default).status = _
    rw [List.getD_eq_getElem?_getD (l := (ss.getD i default).children.l), hv]; rfl
  rw [this]; exact h12
/-- What the loop keeps. -/
structure At6 (l : Sl Spec) (k : Nat) (now : Int) (ss : Sl State) : Prop where
  at0 : AtK l (1 + 17 * k) now ss
  time : 0 ≤ now ∧ now ≤ 255 * k
abbrev F6o (l : Sl Spec) (h : Sl Happening) (nm ss : AV) (n : Nat) (now : Int) (k : Nat) : Fr := [(0, specs l), (5, nm), (7, ss), (10, .osl 0 0 0 n), (11, .osl 1 0 0 n), (14, I now), (78, Sl.av Happening.av 3 h), (79, I h.l.length), (80, I k)]
/-- What the round's step leads to. -/
theorem step6 {l : Sl Spec} (hn : NamesOk l.l) (hc : chkT l.l = 0) {k : Nat} (hkl : k ≤ 40) (hp : Happening) {now : Int} (hnow : 0 ≤ now ∧ now ≤ 20000) {ss : Sl State} (h : AtK l (1 + 17 * k) now ss) :
    (∃ a b : AV, Imm a ∧ Imm b ∧ (∀ (w n : Nat), hp.worker = (w : Int) → 0 ≤ hp.reason → hp.reason ≤ 9 → (stL l.l ss.l none)[w]? = some n → n = 0) ∧ W.pure 17 [specs l, states ss, hp.av, I now] = some (.tuple [a, b, .bool false])) ∨
    ∃ (ss' : Sl State) (a : Sl Event) (t' : Tree) (S0 : List Nat), W.pure 17 [specs l, states ss, hp.av, I now] = some (.tuple [states ss', Sl.av Event.av 4 a, .bool true]) ∧ Next l.l now (1 + 17 * k + 17) ss' a t' ∧ OutOk (ordT l.l).length now S0 a.l ∧ (∀ S, SoFar S0 a.l S → S = stL l.l ss'.l none) ∧
      ((hp.worker < 0 ∧ S0 = stL l.l ss.l none) ∨ ∃ w n : Nat, hp.worker = (w : Int) ∧ (stL l.l ss.l none)[w]? = some n ∧ n ≠ 0 ∧ S0 = (stL l.l ss.l none).set w 0) := by
  have ht := tree_of hc
  have htm : 0 ≤ now ∧ now ≤ 1099511627776 := by omega
  have hm : (1 : Int) ≤ 1 + 17 * k ∧ (1 : Int) + 17 * k ≤ 900000 := by omega
  have h0 : 0 < l.l.length := by have := ht.len.1; omega
  have hgo := h.go
  let x : Option (Nat × Nat) := if hp.worker < 0 then none else (ordT l.l)[hp.worker.toNat]?
  have hs := step17 (P := SimP l.l now ss.l x) hn hc htm hm hgo h.ks h.nl hp (sim_kept ht htm _ _)
    (fun hw hE => by
      have : x = none := if_pos hw
      rw [this]; exact sim_asked ht htm hm hgo hE)
    (fun w i c hw hat hwa hE => by
      have : x = some (i, c) := by
        show (if hp.worker < 0 then none else (ordT l.l)[hp.worker.toNat]?) = _
        rw [if_neg (by omega), hw]; simpa using hat
      rw [this]; exact sim_exit ht htm hm hgo hwa hE)
  cases hs with
  | no a b ia ib hw p1 =>
    refine .inl ⟨a, b, ia, ib, fun w n e r0 r9 hn => ?_, p1⟩
    have hwl := (List.getElem?_eq_some_iff.1 hn).1
    rw [stL_len] at hwl
    obtain ⟨⟨i, c⟩, hat⟩ : ∃ p, (ordT l.l)[w]? = some p := ⟨_, List.getElem?_eq_getElem hwl⟩
    rw [stL_at hat] at hn
    cases hn
    exact dead_of ht htm hm.2 hgo (order_mem ht l.l.length 0 h0 (i, c) (List.mem_of_getElem? hat)).1 ⟨r0, r9⟩ (hw w i c e hat)
  | yes ss' a t' hw p1 hnx hsim =>
    have hO := outOk_of ht hsim
    rw [← hnx.out] at hO
    refine .inr ⟨ss', a, t', stL l.l ss.l x, p1, hnx, hO, fun S hS => stL_next ht hsim hnx.core (by rw [← hnx.out]; exact hS), ?_⟩
    rcases hw with hw | ⟨w, i, c, hw, hat, hE⟩
    · left
      have : x = none := if_pos hw
      rw [this]; exact ⟨hw, rfl⟩
    · right
      have : x = some (i, c) := by
        show (if hp.worker < 0 then none else (ordT l.l)[hp.worker.toNat]?) = _
        rw [if_neg (by omega), hw]; simpa using hat
      rw [this, stL_end ht _ hat]
      exact ⟨w, _, hw, stL_at hat, live_of hE, rfl⟩
theorem turn6 {l : Sl Spec} (hn : NamesOk l.l) (hc : chkT l.l = 0) (h : Sl Happening) {k : Nat} (hk : k < h.l.length) (hkl : k ≤ 40) {hp : Happening} (hhp : h.l[k]? = some hp) (hwf : hp.wf) {r : Sl (List UInt8)} (hr : r.l.length = (ordT l.l).length) (hrl : r.l.length ≤ 1000) {now : Int} {ss : Sl State} (hP : At6 l k now ss) {G : Heap} (hA : Arrs G (stL l.l ss.l none)) :
    okC (evC W l6_1 (F6o l h (Sl.av AV.str 1 r) (states ss) r.l.length now k) G)
      (fun y F' G' => y = .normal ∧ ∃ now' ss', F'.keep [0, 5, 7, 10, 11, 14, 78, 79, 80] = F6o l h (Sl.av AV.str 1 r) (states ss') r.l.length now' (k + 1) ∧ At6 l (k + 1) now' ss' ∧ Arrs G' (stL l.l ss'.l none)) := by
  have hw := wrap_succ (k := k) (by omega)
  have ha : 0 ≤ hp.after ∧ hp.after ≤ 255 := wf8 hwf.2.2.1
  have hwa : IntKind.wrap .i64 hp.after = hp.after := by rw [wrap64] <;> omega
  have hti := hP.time
  have hwn : IntKind.wrap .i64 (now + hp.after) = now + hp.after := by rw [wrap64] <;> omega
  have hk' : (k : Int) < (h.l.length : Int) := by omega
  have hat : AtK l (1 + 17 * k) (now + hp.after) ss := ⟨hP.at0.nl, hP.at0.ks, go_mono hP.at0.go (by omega) (Int.le_refl _)⟩
  have hzh : (.agg [I 0, I 0, .int .u8 0] : AV) = (⟨0, 0, 0⟩ : Happening).av := rfl
  have hB : ∀ b c : Blk, (G ++ [b]).set G.length c = G ++ [c] := fun b c => by simp
  have g0 := fun b => (hA.past b).r
  have g1 := fun b => (hA.past b).t
  have hlG := hA.len
  have hG0 : ¬ 0 = G.length := by omega
  have hG1 : ¬ 1 = G.length := by omega
  have hSl : (stL l.l ss.l none).length = r.l.length := by rw [stL_len, hr]
  rcases step6 hn hc hkl hp (now := now + hp.after) (by omega) hat with ⟨a, b, ia, ib, hdead, p1⟩ | ⟨ss', a, t', S0, p1, hnx, hO, hend, hcase⟩
  · obtain ⟨i1, i2, i3, rfl⟩ := ia
    obtain ⟨j1, j2, j3, rfl⟩ := ib
    have fin : ∃ now' ss', now + hp.after = now' ∧ states ss = states ss' ∧ At6 l (k + 1) now' ss' ∧ Arrs (G ++ [.arr 0 3 false [hp.av]]) (stL l.l ss'.l none) :=
      ⟨_, ss, rfl, rfl, ⟨⟨hP.at0.nl, hP.at0.ks, go_mono hP.at0.go (by omega) (by omega)⟩, by omega⟩, hA.past _⟩
    obtain ⟨now', ss', f1, f2, f3, f4⟩ := fin
    by_cases hw0 : hp.worker < 0
    · have hw1 : ¬ 0 ≤ hp.worker := by omega
      simp [-getElem?_pos, -List.append_assoc, List.getElem?_cons_zero, app_last, evl6_1, b6_1, intBin, F6o, hk, hk', hhp, hw, hwa, hwn, p1, hzh, hB, hw0, hw1]
      exact ⟨now', ss', ⟨f2, f1⟩, f3, f4⟩
    · obtain ⟨w, hww⟩ : ∃ w : Nat, hp.worker = (w : Int) := ⟨hp.worker.toNat, by omega⟩
      by_cases hwr : w < r.l.length
      · have hwr' : (w : Int) < (r.l.length : Int) := by omega
        obtain ⟨n, hn'⟩ : ∃ n, (stL l.l ss.l none)[w]? = some n := ⟨_, List.getElem?_eq_getElem (by omega)⟩
        have r1 := runB_at hn'
        by_cases hq : 0 ≤ hp.reason
        · by_cases hq9 : hp.reason ≤ 9
          · have hn0 := hdead w n hww hq hq9 hn'
            subst hn0
            simp [-getElem?_pos, -List.append_assoc, List.getElem?_cons_zero, app_last, evl6_1, b6_1, intBin, F6o, hk, hk', hhp, hw, hwa, hwn, p1, hzh, hB, hww, hwr, hwr', hq, hq9, g0, r1, runB_len, hSl]
            exact ⟨now', ss', ⟨f2, f1⟩, f3, f4⟩
          · simp [-getElem?_pos, -List.append_assoc, List.getElem?_cons_zero, app_last, evl6_1, b6_1, intBin, F6o, hk, hk', hhp, hw, hwa, hwn, p1, hzh, hB, hww, hwr, hwr', hq, hq9, g0, r1, runB_len, hSl]
            exact ⟨now', ss', ⟨f2, f1⟩, f3, f4⟩
        · simp [-getElem?_pos, -List.append_assoc, List.getElem?_cons_zero, app_last, evl6_1, b6_1, intBin, F6o, hk, hk', hhp, hw, hwa, hwn, p1, hzh, hB, hww, hwr, hwr', hq, g0, r1, runB_len, hSl]
          exact ⟨now', ss', ⟨f2, f1⟩, f3, f4⟩
      · have hwr' : ¬ (w : Int) < (r.l.length : Int) := by omega
        simp [-getElem?_pos, -List.append_assoc, List.getElem?_cons_zero, app_last, evl6_1, b6_1, intBin, F6o, hk, hk', hhp, hw, hwa, hwn, p1, hzh, hB, hww, hwr, hwr']
        exact ⟨now', ss', ⟨f2, f1⟩, f3, f4⟩
  · have hgo := hnx.tree
    have hm : (1 : Int) + 17 * k + 17 ≤ 900000 := by omega
    obtain ⟨cq, c32, _, _⟩ := t32 hn hc (go_small (tree_of hc) hgo) (by have hh : ss'.l.length = l.l.length := hgo.len; have := (tree_of hc).len; omega) (go_valid (tree_of hc) (by omega) hgo) (go_fits hgo)
    have e17 : (1 : Int) + 17 * ((k + 1 : Nat) : Int) = 1 + 17 * (k : Int) + 17 := by omega
    have fin : At6 l (k + 1) (now + hp.after) ss' := ⟨⟨hnx.nl, hnx.known, by rw [e17]; exact hgo⟩, by omega⟩
    rw [← hr] at hO
    rcases hcase with ⟨hw0, rfl⟩ | ⟨w, n, hww, hn', hn0, rfl⟩
    · have hw1 : ¬ 0 ≤ hp.worker := by omega
      have hw2 : ¬ (r.l.length : Int) ≤ hp.worker := by omega
      obtain ⟨y, F1, G1, f1, rfl, f2, S, s1, s2⟩ := okC_iff.1 (inner6 (l := l) (h := h) (r := r) (ss := states ss') (now := now + hp.after) (k := k) (a := a) hrl (by have := hnx.len; omega) hO (hA.past (.arr 0 3 false [hp.av])) rfl)
      rw [hend S s1] at s2
      simp only [F6, keep_cons, keep_nil, List.cons.injEq, Prod.mk.injEq, true_and, and_true, List.cons_append, List.nil_append] at f1 f2
      obtain ⟨b0, b5, b10, b11, b14, b17, b78, b79, b80⟩ := f2
      simp [-getElem?_pos, -List.append_assoc, List.getElem?_cons_zero, app_last, evl6_1, b6_1, intBin, F6o, hk, hk', hhp, hw, hwa, hwn, p1, hzh, hB, hw0, hw1, hw2, f1, b0, b5, b10, b11, b14, b17, b78, b79, b80, c32]
      exact ⟨_, ss', ⟨rfl, rfl⟩, fin, s2⟩
    · have hwl := (List.getElem?_eq_some_iff.1 hn').1
      have hwr : w < r.l.length := by omega
      have hwr' : (w : Int) < (r.l.length : Int) := by omega
      have hw2 : ¬ (r.l.length : Int) ≤ (w : Int) := by omega
      have r1 := runB_at hn'
      have t1 := stpB_at hn'
      have q1 := setB _ w _ false r1
      have q2 := setB _ w _ false t1
      have hs01 : ∀ b B, ((G ++ [b]).set 0 B)[1]? = some (.arr 0 1 false (stpB (stL l.l ss.l none))) := fun b B => by rw [List.getElem?_set_ne (by omega)]; exact g1 b
      have hsn : ∀ b B, ((G ++ [b]).set 0 B)[G.length]? = some b := fun b B => by rw [List.getElem?_set_ne (by omega)]; exact app_last _ _
      have hsm : ∀ b B B', (((G ++ [b]).set 0 B).set 1 B')[G.length]? = some b := fun b B B' => by rw [List.getElem?_set_ne (by omega), hsn]
      obtain ⟨y, F1, G1, f1, rfl, f2, S, s1, s2⟩ := okC_iff.1 (inner6 (l := l) (h := h) (r := r) (ss := states ss') (now := now + hp.after) (k := k) (a := a) hrl (by have := hnx.len; omega) hO
        ((hA.past (.arr 0 3 false [hp.av])).both (B := (runB (stL l.l ss.l none)).set w (.bool false)) (B' := (stpB (stL l.l ss.l none)).set w (.bool false)) (by rw [runB_set]; rfl) (by rw [stpB_set]; rfl)) rfl)
      rw [hend S s1] at s2
      simp only [F6, keep_cons, keep_nil, List.cons.injEq, Prod.mk.injEq, true_and, and_true, List.cons_append, List.nil_append] at f1 f2
      obtain ⟨b0, b5, b10, b11, b14, b17, b78, b79, b80⟩ := f2
      by_cases hq : 0 ≤ hp.reason
      · by_cases hq9 : hp.reason ≤ 9
        · simp [-getElem?_pos, -List.append_assoc, List.getElem?_cons_zero, app_last, evl6_1, b6_1, intBin, F6o, hk, hk', hhp, hw, hwa, hwn, p1, hzh, hB, hww, hwr, hwr', hw2, hq, hq9, g0, g1, hG0, hG1, hs01, hsn, hsm, r1, t1, q1, q2, hn0, runB_len, stpB_len, hSl, f1, b0, b5, b10, b11, b14, b17, b78, b79, b80, c32]
          exact ⟨_, ss', ⟨rfl, rfl⟩, fin, s2⟩
        · simp [-getElem?_pos, -List.append_assoc, List.getElem?_cons_zero, app_last, evl6_1, b6_1, intBin, F6o, hk, hk', hhp, hw, hwa, hwn, p1, hzh, hB, hww, hwr, hwr', hw2, hq, hq9, g0, g1, hG0, hG1, hs01, hsn, hsm, r1, t1, q1, q2, hn0, runB_len, stpB_len, hSl, f1, b0, b5, b10, b11, b14, b17, b78, b79, b80, c32]
          exact ⟨_, ss', ⟨rfl, rfl⟩, fin, s2⟩
      · simp [-getElem?_pos, -List.append_assoc, List.getElem?_cons_zero, app_last, evl6_1, b6_1, intBin, F6o, hk, hk', hhp, hw, hwa, hwn, p1, hzh, hB, hww, hwr, hwr', hw2, hq, g0, g1, hG0, hG1, hs01, hsn, hsm, r1, t1, q1, q2, hn0, runB_len, stpB_len, hSl, f1, b0, b5, b10, b11, b14, b17, b78, b79, b80, c32]
        exact ⟨_, ss', ⟨rfl, rfl⟩, fin, s2⟩
end
section
open Go Go.RowKit
set_option linter.unusedVariables false
set_option linter.unusedSimpArgs false
set_option maxRecDepth 10000
set_option maxHeartbeats 8000000

/-- The workers while the first actions are looked at. -/
def firstL (n k : Nat) : List Nat := (List.range n).map fun w => if w < k then 1 else 0
theorem firstL_len (n k : Nat) : (firstL n k).length = n := by simp [firstL]
theorem firstL_0 (n : Nat) : firstL n 0 = List.replicate n 0 := by
  apply List.ext_getElem?
  intro w
  simp only [firstL, List.getElem?_map, List.getElem?_replicate]
  by_cases h : w < n
  · rw [List.getElem?_range h, if_pos h]; rfl
  · rw [List.getElem?_eq_none (by simp; omega), if_neg h]; rfl
theorem firstL_at {n k : Nat} (h : k < n) : (firstL n k)[k]? = some 0 := by simp [firstL, List.getElem?_range h]
theorem firstL_succ {n k : Nat} (h : k < n) : firstL n (k + 1) = (firstL n k).set k 1 := by
  apply List.ext_getElem?
  intro w
  by_cases hw : w = k
  · subst hw
    rw [List.getElem?_set_self (by rw [firstL_len]; exact h)]
    simp [firstL, List.getElem?_range h]
  · rw [List.getElem?_set_ne (fun e => hw e.symm)]
    unfold firstL
    rw [List.getElem?_map, List.getElem?_map]
    cases hr : (List.range n)[w]? with
    | none => rfl
    | some v =>
      have : v = w := by
        have hl := (List.getElem?_eq_some_iff.1 hr).1
        rw [List.getElem?_range (by simpa using hl)] at hr
        cases hr; rfl
      subst this
      simp only [Option.map_some]
      congr 1
      by_cases h1 : v < k
      · rw [if_pos h1, if_pos (by omega)]
      · rw [if_neg h1, if_neg (by omega)]
theorem new_stL {l : List Spec} (ht : TreeOk l) {ss : List State} (hc : ss.map State.core = (newT l).ss.map State.core) : stL l ss none = firstL (ordT l).length (ordT l).length := by
  have h0 : 0 < l.length := by have := ht.len.1; omega
  apply List.ext_getElem?
  intro w
  by_cases hw : w < (ordT l).length
  · obtain ⟨⟨i, c⟩, hp⟩ : ∃ p, (ordT l)[w]? = some p := ⟨_, List.getElem?_eq_getElem hw⟩
    obtain ⟨hi, ch, hch, _⟩ := (order_mem ht l.length 0 h0 (i, c) (List.mem_of_getElem? hp)).1
    simp only at hi hch
    rw [stL_at hp, view_core (t := newT l) (t' := tOf ss) hc]
    have hv := start_view (x := l.getD i default) (c := c) (List.getElem?_eq_some_iff.1 hch).1
    have : viewT (newT l) i c = 1 := by
      unfold viewT
      rw [(new_ss ht).2 i hi, List.getD_eq_getElem?_getD, hv]; rfl
    rw [this]
    simp [firstL, List.getElem?_range hw, hw, stat]
  · rw [List.getElem?_eq_none (by rw [stL_len]; omega), List.getElem?_eq_none (by rw [firstL_len]; omega)]
theorem first6 {l : Sl Spec} {h : Sl Happening} {nm ss : AV} {n : Nat} (kn : okO nm = some nm) (ks : okO ss = some ss) (hn : n ≤ 1000) {a : Sl Event} (ha : a.l = (List.range n).map fun q : Nat => (⟨3, (q : Int), 0, 0⟩ : Event)) {G : Heap} (h0 : Arrs G (firstL n 0)) :
    okC (W.loop [0, 1, 5, 7, 10, 11, 63, 64, 65] l6_2 [(0, specs l), (1, Sl.av Happening.av 3 h), (5, nm), (7, ss), (10, .osl 0 0 0 n), (11, .osl 1 0 0 n), (63, Sl.av Event.av 4 a), (64, I n), (65, I 0)] G)
      (fun y F G' => y = .exit 0 ∧ F.keep [0, 1, 5, 7, 10, 11] = [(0, specs l), (1, Sl.av Happening.av 3 h), (5, nm), (7, ss), (10, .osl 0 0 0 n), (11, .osl 1 0 0 n)] ∧ Arrs G' (firstL n n)) := by
  have hal : a.l.length = n := by rw [ha]; simp
  have hL := loop_fold (Φ := Φ) (live := [0, 1, 5, 7, 10, 11, 63, 64, 65]) (L := l6_2) a.l (σ := Unit) (fun _ _ s => s)
    (fun j _ F G => F = [(0, specs l), (1, Sl.av Happening.av 3 h), (5, nm), (7, ss), (10, .osl 0 0 0 n), (11, .osl 1 0 0 n), (63, Sl.av Event.av 4 a), (64, I n), (65, I j)] ∧ Arrs G (firstL n j))
    (fun _ y F G => y = .exit 0 ∧ F.keep [0, 1, 5, 7, 10, 11] = [(0, specs l), (1, Sl.av Happening.av 3 h), (5, nm), (7, ss), (10, .osl 0 0 0 n), (11, .osl 1 0 0 n)] ∧ Arrs G (firstL n n)) (s := ()) (F := [(0, specs l), (1, Sl.av Happening.av 3 h), (5, nm), (7, ss), (10, .osl 0 0 0 n), (11, .osl 1 0 0 n), (63, Sl.av Event.av 4 a), (64, I n), (65, I 0)]) (H := G)
    ⟨rfl, h0⟩ ?_ ?_
  · exact hL
  · rintro j x ⟨⟩ F G hj hx ⟨rfl, hA⟩
    have hjn : j < n := by omega
    have hxe : x = ⟨3, (j : Int), 0, 0⟩ := by
      have := hx
      rw [ha, List.getElem?_map, List.getElem?_range hjn] at this
      cases this; rfl
    subst hxe
    have hw := wrap_succ (k := j) (by omega)
    have hj' : (j : Int) < (n : Int) := by omega
    have hev : (⟨3, (j : Int), 0, 0⟩ : Event).av = .agg [I 3, I j, I 0, I 0] := rfl
    have heq : eqsV true [0, 0, 0, 0] (.agg [I 3, I j, I 0, I 0]) (.agg [.int .i64 3, .int .i64 j, .int .i64 0, .int .i64 0]) = .bool false := by simp [eqsV, eqCells, eqCell]
    have hB : ∀ b c : Blk, (G ++ [b]).set G.length c = G ++ [c] := fun b c => by simp
    have g0 := fun b => (hA.past b).r
    have hlG := hA.len
    have r1 := runB_at (firstL_at hjn)
    have t1 := stpB_at (firstL_at hjn)
    have q1 := setB _ j _ true r1
    have fin : ∀ b : Blk, Arrs ((G ++ [b]).set 0 (.arr 0 1 false ((runB (firstL n j)).set j (.bool true)))) (firstL n (j + 1)) := fun b =>
      (hA.past b).set0 (by rw [firstL_succ hjn, runB_set]; rfl) (by rw [firstL_succ hjn, stpB_set]; exact set_same t1)
    have hfl := firstL_len n j
    simp [-getElem?_pos, List.getElem?_cons_zero, -List.append_assoc, app_last, evl6_2, b6_2, intBin, hal, hj, hj', hjn, hx, hw, hB, hev, heq, g0, r1, q1, runB_len, hfl, kn, ks]
    exact fin _
  · rintro ⟨⟩ F G ⟨rfl, hA⟩
    rw [hal] at hA
    simp [evl6_2, b6_2, intBin, hal, kn, ks]
    exact hA
theorem law6 (l : Sl Spec) (hl0 : SlOk Spec.wf l) (h : Sl Happening) (hh : SlOk Happening.wf h) : W.pure 6 [specs l, Sl.av Happening.av 3 h] = some (.bool true) := by
  have c8 := t8a l h
  have c11 := awk
  rw [W_pure Φ6 (by simp)]
  cases hf : fineT l.l h.l with
  | false =>
    rw [hf] at c8
    simp [fi6, c6, evFun, enterFr, intBin, resV, rvVs, rvV, c8, c11]
  | true =>
    rw [hf] at c8
    simp only [fineT, Bool.and_eq_true, Bool.not_eq_true', decide_eq_true_eq] at hf
    obtain ⟨⟨hg, hc⟩, hl30⟩ := hf
    have hN := (great_names hg).1
    have ht := tree_of hc
    have hlen := ht.len
    have h0 : 0 < l.l.length := by omega
    obtain ⟨r, c19, hr⟩ := t19 hN ht hc
    obtain ⟨ss, a, c12, n1, n2, n3, n4, n5⟩ := t12 hN hc
    have hord := order_len ht l.l.length 0 h0
    have hrl : r.l.length = (ordT l.l).length := by rw [hr]; simp
    have hol : (ordT l.l).length ≤ 128 := hord
    have hae : a.l = (List.range (ordT l.l).length).map fun q : Nat => (⟨3, (q : Int), 0, 0⟩ : Event) := by rw [n3]; exact new_events ht
    have hal : a.l.length = (ordT l.l).length := by rw [hae]; simp
    have hnew : At6 l 0 0 ss := ⟨⟨n5, n2, go_core (new_go ht) n1 (new_out ht).2.symm⟩, by omega⟩
    have hnn : ((ordT l.l).length : Int) ≤ 1048576 := by omega
    have hst := new_stL ht n1
    obtain ⟨y, F1, G1, f1, rfl, f2, g1⟩ := okC_iff.1 (first6 (l := l) (h := h) (nm := Sl.av AV.str 1 r) (ss := states ss) (n := (ordT l.l).length) rfl rfl (by omega) hae (G := [.arr 0 1 false (List.replicate (ordT l.l).length (.bool false)), .arr 0 1 false (List.replicate (ordT l.l).length (.bool false))]) ⟨by rw [firstL_0]; simp [runB], by rw [firstL_0]; simp [stpB]⟩)
    rw [← hst] at g1
    simp only [keep_cons, keep_nil, List.cons.injEq, Prod.mk.injEq, true_and, and_true] at f2
    obtain ⟨b0, b1, b5, b7, b10, b11⟩ := f2
    have hL := loop_fold (Φ := Φ) (live := [0, 5, 7, 10, 11, 14, 78, 79, 80]) (L := l6_1) h.l (σ := Unit) (fun _ _ s => s)
      (fun k _ F G => ∃ now ss, F = F6o l h (Sl.av AV.str 1 r) (states ss) r.l.length now k ∧ At6 l k now ss ∧ Arrs G (stL l.l ss.l none))
      (fun _ y F G => y = .exit 2) (s := ()) (F := F6o l h (Sl.av AV.str 1 r) (states ss) r.l.length 0 0) (H := G1)
      ⟨0, ss, rfl, hnew, g1⟩ ?_ ?_
    · obtain ⟨y, F2, G2, w1, rfl⟩ := okC_iff.1 hL
      simp only [F6o, Int.natCast_zero, hrl] at w1
      simp [-getElem?_pos, List.getElem?_cons_zero, fi6, c6, evFun, enterFr, intBin, resV, rvVs, rvV, c8, c11, c12, c19, hrl, hal, hnn, f1, b0, b1, b5, b7, b10, b11, w1]
    · rintro k hp ⟨⟩ F G hk hhp ⟨now, ss, rfl, hP, hA⟩
      exact turn6 hN hc h hk (by omega) hhp (hh.all _ (List.mem_of_getElem? hhp)) hrl (by omega) hP hA
    · rintro ⟨⟩ F G ⟨now, ss, rfl, hP, hA⟩
      simp [evl6_1, b6_1, intBin, F6o]
end
end Go.Proofs.Ytjknjapdcphcfaa
