/-
  Trees that run: how much is put out (conditions: none). Trees that run: a tree in order is valid; what is due is handled to its end (conditions: none). Trees that run: a new tree is in order (conditions: none). Trees that run: a worker exits, or the tree is asked to stop, in the program (conditions: none). Trees that run: after a request to stop (conditions: none). How often children are started: what an event counts (conditions: none). How often workers are started: in a tree (conditions: none). Searches in lists of events and of states; lists that are given away (conditions: none). The law SuptreeShutdown: what happens before, and the workers that end afterwards (conditions: none). The law SuptreeShutdown: it is true (conditions: readings of the arguments). Counts: how often the workers were started, as the program lists it (conditions: none). The law SuptreeCounts: what is counted, in plain words (conditions: none). The law SuptreeCounts: it is true (conditions: readings of the arguments). The law SuptreeCounts: it is true (conditions: readings of the arguments). Workers in a tree that runs: started only if they do not run, stopped only if they run (conditions: none). The law SuptreeWorkers: its lists, and the loop over the actions (conditions: none). The law SuptreeWorkers: a round of its loop (conditions: none). The law SuptreeWorkers: it is true (conditions: readings of the arguments). Trees that run, whatever the counts: links that are kept even when an event is refused (conditions: none). Trees that run, whatever the counts: performing actions (conditions: none). Trees that run, whatever the counts: what is due comes to an end (conditions: none).
-/
import Derived.Test.YtjknjapdcphcfaaGreatKD
namespace Go.Proofs.YtjknjapdcphcfaaGreat
open Go Go.RowKit
set_option linter.unusedVariables false
set_option linter.unusedSimpArgs false
set_option maxRecDepth 10000
set_option maxHeartbeats 8000000
section
theorem valid_inv {x : Spec} {s : State} (h : validB x s = true) : Inv x 1099511627776 (runOf s) := by
 obtain ⟨h0, h1, h2, h3, h4, h5⟩ := valid_facts h
 refine ⟨h1, fun i c hc => ?_, fits_iff.1 h4, (times_iff (win_of h0)).1 h5, h2, fun hf => ?_⟩
 ·have := List.all_eq_true.1 h3 c (List.mem_of_getElem? hc)
  simp [childOk, inR] at this
  omega
 ·have hf' : s.failed = true := hf
  simp only [validB, hf', Bool.not_true, Bool.false_or, Bool.and_eq_true] at h
  have := h.2
  simp [endedB] at this
  exact this
theorem handle_acts {x : Spec} {s : State} {e : Event} (hE : handleE x s e = 0) : ActsG x.children.l.length e.time (handleR x s e).out := by
 obtain ⟨hv, hc⟩ := handleE_check hE
 have hi := valid_inv hv
 have hs := hsum_handle hi (handle_way hi hc)
 have ha := (actw_handle x s e).2
 have hl : s.children.l.length = x.children.l.length := hi.len
 rw [hl] at ha
 exact ⟨hs.nodup, ha⟩
theorem sum_erase {α : Type} [DecidableEq α] (g : α → Nat) : ∀ (M : List α) (x : α), x ∈ M → (M.map g).sum = g x + ((M.erase x).map g).sum
 | [], x, h => by cases h
 | y :: M, x, h => by
  by_cases hxy : y = x
  ·subst hxy; simp
  ·have hm : x ∈ M := by
    rcases List.mem_cons.1 h with h | h
    ·exact absurd h.symm hxy
    ·exact h
   rw [List.erase_cons_tail (by simpa using hxy)]
   simp only [List.map_cons, List.sum_cons]
   rw [sum_erase g M x hm]; omega
theorem sum_le {α : Type} [DecidableEq α] (g : α → Nat) : ∀ (L M : List α), L.Nodup → (∀ x ∈ L, x ∈ M) → (L.map g).sum ≤ (M.map g).sum
 | [], M, _, _ => Nat.zero_le _
 | x :: r, M, hd, hm => by
  rw [List.nodup_cons] at hd
  have h1 := sum_le g r (M.erase x) hd.2 (fun y hy => by
   have hne : y ≠ x := fun e => hd.1 (e ▸ hy)
   exact (List.mem_erase_of_ne hne).2 (hm y (by simp [hy])))
  rw [sum_erase g M x (hm x (by simp))]
  simp only [List.map_cons, List.sum_cons]; omega
def wtA (l : List Spec) (d i : Nat) (c : Int) : Nat := if c < 0 then (if i = 0 then 1 else 0) else (partW l d i ((kids l i).getD c.toNat default, c.toNat)).length
theorem wtA_sum (l : List Spec) (d i : Nat) : (((-1 : Int) :: (List.range (kids l i).length).map (fun c : Nat => (c : Int))).map (wtA l d i)).sum = (if i = 0 then 1 else 0) + (order l (d + 1) i).length := by
 rw [order_succ, List.length_flatMap, List.map_cons, List.sum_cons]
 have h1 : wtA l d i (-1) = if i = 0 then 1 else 0 := by unfold wtA; rw [if_pos (by decide)]
 rw [h1]
 congr 1
 congr 1
 rw [List.map_map]
 refine List.ext_getElem? fun n => ?_
 rw [List.getElem?_map, List.getElem?_map, List.getElem?_zipIdx]
 by_cases hn : n < (kids l i).length
 ·rw [List.getElem?_range hn, gEg hn]
  simp only [Option.map_some, Function.comp, wtA]
  rw [if_neg (by omega)]
  have e : ((n : Nat) : Int).toNat = n := by omega
  rw [e, gEd, gEg hn]
  simp
 ·rw [List.getElem?_eq_none (by simpa using hn), List.getElem?_eq_none (by simpa using hn)]; rfl
theorem perf_len {l : List Spec} (ht : TreeOk l) : ∀ (d i : Nat) (tm : Int) (acts : List Event) (t : Tree), i < l.length → ActsG (kids l i).length tm acts → (perf l (ordT l) (up l) d i acts t).out.length ≤ t.out.length + (if i = 0 then 1 else 0) + (order l d i).length := by
 intro d
 induction d with
 | zero => intro i tm acts t _ _; show t.out.length ≤ _; omega
 | succ d ih =>
  intro i tm acts t hi ha
  have one : ∀ (t : Tree) (a : Event), ActN (kids l i).length tm a → (doAct l (ordT l) (up l) (perf l (ordT l) (up l) d) i t a).out.length ≤ t.out.length + wtA l d i a.child := by
   intro t a hn
   unfold doAct
   rcases hn with ⟨_, _, ⟨h5, hc⟩ | ⟨h34, hc0, hc1⟩⟩
   ·have hwt : wtA l d i a.child = if i = 0 then 1 else 0 := by unfold wtA; rw [if_pos (by omega)]
    rw [if_pos h5, hwt]
    by_cases h0 : i = 0
    ·rw [if_pos h0, if_pos h0]; simp
    ·rw [if_neg h0, if_neg h0]; simp
   ·have hwt : wtA l d i a.child = (partW l d i ((kids l i).getD a.child.toNat default, a.child.toNat)).length := by unfold wtA; rw [if_neg (by omega)]
    rw [if_neg (by omega), hwt]
    obtain ⟨ch, hch⟩ : ∃ ch, (kids l i)[a.child.toNat]? = some ch := ⟨_, gEg (by omega)⟩
    have hgd : (kids l i).getD a.child.toNat default = ch := by rw [gEd, hch]; rfl
    rw [hgd]
    by_cases hneg : ch.sub < 0
    ·have hp : (partW l d i (ch, a.child.toNat)).length = 1 := by unfold partW; rw [if_pos hneg]; rfl
     rw [hp]
     simp only [hneg, if_true]
     simp
    ·have hp : partW l d i (ch, a.child.toNat) = order l d ch.sub.toNat := by unfold partW; rw [if_neg hneg]
     rw [hp]
     simp only [hneg, if_false]
     have hij : SubAt l i a.child.toNat ch.sub.toNat := ⟨hi, ch, hch, by omega⟩
     have hlt := hij.lt ht
     have h0 : ¬ ch.sub.toNat = 0 := by omega
     by_cases h3 : a.kind = 3
     ·rw [if_pos h3]
      have := ih ch.sub.toNat a.time _ { t with ss := t.ss.set ch.sub.toNat (startS (l.getD ch.sub.toNat default)) } hlt.2 (start_acts a.time _)
      rw [if_neg h0] at this
      exact this
     ·rw [if_neg h3]
      unfold doHandle
      simp only
      by_cases hE : handleE (l.getD ch.sub.toNat default) (t.ss.getD ch.sub.toNat default) ⟨2, -1, 0, a.time⟩ = 0
      ·rw [if_pos hE]
       have := ih ch.sub.toNat a.time _ { t with ss := t.ss.set ch.sub.toNat (mkS (handleR (l.getD ch.sub.toNat default) (t.ss.getD ch.sub.toNat default) ⟨2, -1, 0, a.time⟩)) } hlt.2 (handle_acts (e := ⟨2, -1, 0, a.time⟩) hE)
       rw [if_neg h0] at this
       split <;> exact this
      ·rw [if_neg hE]; omega
  have all : ∀ (r : List Event) (t : Tree), (∀ a ∈ r, ActN (kids l i).length tm a) → (r.foldl (doAct l (ordT l) (up l) (perf l (ordT l) (up l) d) i) t).out.length ≤ t.out.length + ((r.map Event.child).map (wtA l d i)).sum := by
   intro r
   induction r with
   | nil => intro t _; simp
   | cons a r ihr =>
    intro t hr
    have h1 := one t a (hr a (by simp))
    have h2 := ihr (doAct l (ordT l) (up l) (perf l (ordT l) (up l) d) i t a) (fun b hb => hr b (by simp [hb]))
    simp only [List.foldl_cons, List.map_cons, List.sum_cons]
    omega
  have h1 := all acts t ha.all
  have h2 := sum_le (wtA l d i) (acts.map Event.child) ((-1 : Int) :: (List.range (kids l i).length).map (fun c : Nat => (c : Int))) ha.nodup (fun c hc => by
   obtain ⟨a, hm, rfl⟩ := List.mem_map.1 hc
   rcases (ha.all a hm).2.2 with ⟨_, h⟩ | ⟨_, h, h'⟩
   ·rw [h]; simp
   ·refine List.mem_cons_of_mem _ (List.mem_map.2 ⟨a.child.toNat, ?_, by omega⟩)
    rw [List.mem_range]; omega)
  rw [wtA_sum] at h2
  show (acts.foldl (doAct l (ordT l) (up l) (perf l (ordT l) (up l) d) i) t).out.length ≤ _
  omega
theorem handle_len {l : List Spec} (ht : TreeOk l) {i : Nat} (hi : i < l.length) (e : Event) (t : Tree) : (handleT l i e t).out.length ≤ t.out.length + 129 := by
 show (doHandle l (perf l (ordT l) (up l) l.length) (up l) i e t).out.length ≤ _
 unfold doHandle
 simp only
 by_cases hE : handleE (l.getD i default) (t.ss.getD i default) e = 0
 ·rw [if_pos hE]
  have h1 := perf_len ht l.length i e.time _ { t with ss := t.ss.set i (mkS (handleR (l.getD i default) (t.ss.getD i default) e)) } hi (handle_acts hE)
  have h2 := order_len ht l.length i hi
  simp only at h1
  split
  ·simp only; split at h1 <;> omega
  ·split at h1 <;> omega
 ·rw [if_neg hE]; omega
end
section
noncomputable def wtT (l : List Spec) (t : Tree) (ks : List Nat) : Nat := ((List.range l.length).map (wtK l t ks)).sum
theorem sum_lt {f g : Nat → Nat} {n k : Nat} (h : ∀ j, f j ≤ g j) (hk : k < n) (hlt : f k < g k) : ((List.range n).map f).sum < ((List.range n).map g).sum := by
 induction n with
 | zero => omega
 | succ n ih =>
  rw [List.range_succ, List.map_append, List.map_append, List.sum_append, List.sum_append]
  simp only [List.map_cons, List.map_nil, List.sum_cons, List.sum_nil]
  have hle : ∀ n, ((List.range n).map f).sum ≤ ((List.range n).map g).sum := by
   intro n
   induction n with
   | zero => simp
   | succ n ih =>
    rw [List.range_succ, List.map_append, List.map_append, List.sum_append, List.sum_append]
    simp only [List.map_cons, List.map_nil, List.sum_cons, List.sum_nil]
    have := h n
    omega
  by_cases hkn : k = n
  ·subst hkn; have := hle k; omega
  ·have := ih (by omega); have := h n; omega
theorem wtT_le {l : List Spec} (ht : TreeOk l) (t : Tree) (ks : List Nat) : wtT l t ks ≤ 16 := by
 have : ∀ n, ((List.range n).map (wtK l t ks)).sum ≤ 2 * n := by
  intro n
  induction n with
  | zero => simp
  | succ n ih =>
   rw [List.range_succ, List.map_append, List.sum_append]
   simp only [List.map_cons, List.map_nil, List.sum_cons, List.sum_nil]
   have : wtK l t ks n ≤ 2 := by unfold wtK; split <;> (try split) <;> omega
   omega
 have h1 := this l.length
 have h2 := ht.len.2
 unfold wtT
 omega
end
section
end
section
abbrev tOf (ss : List State) : Tree := ⟨ss, [], []⟩
theorem core_at {a b : List State} (h : a.map State.core = b.map State.core) (k : Nat) : (a.getD k default).core = (b.getD k default).core := by
 have := congrArg (fun l => l[k]?) h
 simp only [List.getElem?_map] at this
 rw [gEd, gEd]
 cases ha : a[k]? with
 | none =>
  rw [ha] at this
  cases hb : b[k]? with
  | none => rfl
  | some y => rw [hb] at this; cases this
 | some x =>
  rw [ha] at this
  cases hb : b[k]? with
  | none => rw [hb] at this; cases this
  | some y => rw [hb] at this; simpa using this
theorem go_core {l : List Spec} {tm m : Int} {t t' : Tree} {ks : List Nat} (h : TreeGo l tm m t ks) (hc : t'.ss.map State.core = t.ss.map State.core) (hq : t'.q = t.q) : TreeGo l tm m t' ks := by
 have hk := fun k => core_inj (core_at hc k)
 have hl := congrArg List.length hc
 simp only [List.length_map] at hl
 refine ⟨hl.trans h.len, fun k hkl => inv_core (core_at hc k).symm (h.inv k hkl), fun k hkl x hx => ?_, by rw [hq]; exact h.q, fun a c k hs => ?_⟩
 ·refine h.time k hkl x ?_
  have := (hk k).2.2.1
  unfold sAt at hx ⊢
  rw [← this]; exact hx
 ·have h1 := h.link a c k hs
  unfold viewT sAt at h1 ⊢
  rw [(hk a).2.1, (hk k).1, (hk k).2.2.2]
  exact h1
structure Next (l : List Spec) (tm m : Int) (ss' : Sl State) (a : Sl Event) (t' : Tree) : Prop where
 nl : ss'.nl = some false
 known : ∀ s ∈ ss'.l, KnownS s
 core : ss'.l.map State.core = t'.ss.map State.core
 out : a.l = t'.out
 kn : KnownNil a
 go : TreeGo l tm m t' []
 len : a.l.length ≤ 3000
 em : a.l = [] → Sl.av Event.av 4 a = .isl (some true) 0 []
theorem Next.tree {l : List Spec} {tm m : Int} {ss' : Sl State} {a : Sl Event} {t' : Tree} (h : Next l tm m ss' a t') : TreeGo l tm m (tOf ss'.l) [] :=
 go_core h.go h.core (by
  have := h.go.q.map
  simp only [List.map_nil, List.map_eq_nil_iff] at this
  exact this.symm)
section
variable {l : Sl Spec} {ss : Sl State} {tm m : Int}
inductive StepTo (l : Sl Spec) (ss : Sl State) (tm m : Int) (h : Happening) (P : Tree → List Nat → Prop) : Prop
 | no (a b : AV) (ha : Imm a) (hb : Imm b) (hw : ∀ (w i c : Nat), h.worker = (w : Int) → (ordT l.l)[w]? = some (i, c) → handleE (l.l.getD i default) (ss.l.getD i default) ⟨1, c, h.reason, tm⟩ ≠ 0) (hp : W.pure 17 [specs l, states ss, h.av, I tm] = some (.tuple [a, b, .bool false]))
 | yes (ss' : Sl State) (a : Sl Event) (t' : Tree) (hw : h.worker < 0 ∨ ∃ w i c : Nat, h.worker = (w : Int) ∧ (ordT l.l)[w]? = some (i, c) ∧ handleE (l.l.getD i default) (ss.l.getD i default) ⟨1, c, h.reason, tm⟩ = 0) (hp : W.pure 17 [specs l, states ss, h.av, I tm] = some (.tuple [states ss', Sl.av Event.av 4 a, .bool true])) (hn : Next l.l tm (m + 17) ss' a t') (hP : P t' [])
end
end
section
structure ShutP (l : List Spec) (f : Bool) (L : Nat → Nat → Prop) (t : Tree) (ks : List Nat) : Prop where
 st : (sAt t 0).status = 3 ∨ (sAt t 0).status = 4
 out : ∀ a ∈ t.out, a.kind ≠ 3
 live : ∀ i c, LiveW l t i c → L i c
 fl : (sAt t 0).failed = f
 no : f = false → t.out = []
structure StopP (l : List Spec) (t : Tree) (ks : List Nat) : Prop where
 st : (sAt t 0).status = 3 ∨ (sAt t 0).status = 4
 out : ∀ a ∈ t.out, a.kind ≠ 3
 no : (sAt t 0).failed = false ∨ (t.out = [] ∧ ks = [])
end
section
end
section
def isSt (w : Int) (a : Event) : Bool := decide (a.kind = 3) && decide (a.child = w)
def emS (l : List Spec) (o : List Event) (p : Nat × Nat) : Nat := (o.filter (isSt (numW (ordT l) (p.1, (p.2 : Int))))).length
def stS (t : Tree) (p : Nat × Nat) : Int := ((sAt t p.1).children.l.getD p.2 default).starts
def dfS (l : List Spec) (t : Tree) (p : Nat × Nat) : Int := (emS l t.out p : Int) - stS t p
def NnT (t : Tree) : Prop := ∀ p, 0 ≤ stS t p
structure CntB (l : List Spec) (j0 : Nat) (t t' : Tree) : Prop where
 len : t'.ss.length = l.length
 nn : NnT t'
 keep : ∀ k, ¬ Desc l j0 k → sAt t' k = sAt t k
 le : ∀ j c, WorkerAt l (j, c) → dfS l t (j, c) ≤ dfS l t' (j, c)
 em : ∀ j c, WorkerAt l (j, c) → ¬ Desc l j0 j → emS l t'.out (j, c) = emS l t.out (j, c)
structure CntP (l : List Spec) (i : Nat) (acts : List Event) (t t' : Tree) : Prop where
 len : t'.ss.length = l.length
 nn : NnT t'
 keep : ∀ k, ¬ Below l i k → sAt t' k = sAt t k
 le : ∀ j c, WorkerAt l (j, c) → j ≠ i → dfS l t (j, c) ≤ dfS l t' (j, c)
 em : ∀ j c, WorkerAt l (j, c) → ¬ Desc l i j → emS l t'.out (j, c) = emS l t.out (j, c)
 own : ∀ c, WorkerAt l (i, c) → emS l t'.out (i, c) = emS l t.out (i, c) + (if pendA acts c = .start then 1 else 0)
end
section
theorem Grow.pub {α : Type} {f : α → AV} {sz : Nat} {H : Heap} {o : Option Nat} {v : AV} {l : List α} (h : Grow H sz o v (l.map f)) (hf : ∀ x, (f x).cells.all AV.still = true) : ∃ (s : Sl α) (G : Heap), pub1 H v = (Sl.av f sz s, G) ∧ s.l = l := by
 have hs : SlV KnownNil f sz (fun _ => False) H v l := by
  cases o with
  | none =>
   obtain ⟨rfl, h2⟩ := h
   rw [List.map_eq_nil_iff] at h2
   subst h2
   exact .inl ⟨⟨some true, 0, []⟩, rfl, rfl, .inl ⟨rfl, rfl⟩⟩
  | some id =>
   obtain ⟨ver, t, h1, h2⟩ := h
   rw [List.length_map] at h1
   exact .inr ⟨id, ver, t, false, h1, h2, fun h => h⟩
 obtain ⟨s, G, h1, h2, _⟩ := hs.pub hf
 exact ⟨s, G, h1, h2⟩
theorem ex_none {α β : Type} {f : α → AV} {g : β → AV} {sz : Nat} {H : Heap} {a : Sl α} {b : Sl β} (ha : (a.l = [] → Sl.av f sz a = .isl (some true) 0 []) ∧ KnownNil a) (hb : b.l = []) : ex H (.app sz) [Sl.av f sz a, Sl.av g sz b] = some (Sl.av f sz a, H) := by
 have he : elemsOf H sz (Sl.av g sz b) = some [] := by
  unfold Sl.av
  rw [hb]
  simp [elemsOf]
 have e0 : ex H (.app sz) [Sl.av f sz a, Sl.av g sz b] = exApp (truncH H (Sl.av f sz a)) sz (Sl.av f sz a) [] := by simp only [ex, he, List.all_nil, if_true]
 have e1 : truncH H (Sl.av f sz a) = H := rfl
 rw [e0, e1]
 by_cases h0 : a.l = []
 ·rw [ha.1 h0]; rfl
 ·unfold Sl.av
  rcases ha.2 with ⟨_, h1⟩ | h1
  ·exact absurd h1 h0
  ·rw [h1]; rfl
end
section
structure AtK (l : Sl Spec) (m now : Int) (ss : Sl State) : Prop where
 nl : ss.nl = some false
 ks : ∀ x ∈ ss.l, KnownS x
 go : TreeGo l.l now m (tOf ss.l) []
def OutV (f : Bool) (a0 : Sl Event) (H : Heap) (v : AV) (L : List Event) : Prop := (f = false → v = Sl.av Event.av 4 a0 ∧ L = a0.l) ∧ (f = true → ∃ o, Grow H 4 o v (L.map Event.av))
theorem OutV.app {f : Bool} {a0 : Sl Event} {H : Heap} {v : AV} {L : List Event} (h : OutV f a0 H v L) (ha0 : (a0.l = [] → Sl.av Event.av 4 a0 = .isl (some true) 0 []) ∧ KnownNil a0) {a : Sl Event} (ha : f = false → a.l = []) (hlen : L.length + a.l.length ≤ 1000000) : ∃ v' H', okO v = some v ∧ v.cells = [v] ∧ ex H (.app 4) [v, Sl.av Event.av 4 a] = some (v', H') ∧ okO v' = some v' ∧ v'.cells = [v'] ∧ OutV f a0 H' v' (L ++ a.l) := by
 cases f with
 | false =>
  obtain ⟨rfl, rfl⟩ := h.1 rfl
  exact ⟨_, H, rfl, rfl, ex_none ha0 (ha rfl), rfl, rfl, fun _ => ⟨rfl, by rw [ha rfl, List.append_nil]⟩, fun e => by cases e⟩
 | true =>
  obtain ⟨o, hg⟩ := h.2 rfl
  have hy : elemsOf H 4 (Sl.av Event.av 4 a) = some (a.l.map Event.av) := by
   unfold Sl.av
   simp only [elemsOf]
   rw [if_pos]
   by_cases h0 : a.l = []
   ·right; rw [h0]; rfl
   ·left; rw [if_neg (by simpa using h0)]
  obtain ⟨o', v', H', e1, e2, _⟩ := hg.app hy (by rw [List.all_map]; exact List.all_eq_true.2 (fun x _ => by simp)) (by simp only [List.length_map, appRoom]; omega)
  rw [← List.map_append] at e2
  exact ⟨v', H', hg.okO, hg.cells, e1, e2.okO, e2.cells, fun e => (by cases e), fun _ => ⟨o', e2⟩⟩
structure EndK (l : Sl Spec) (m tm : Int) (f : Bool) (k : Nat) (ss : Sl State) (L : List Event) : Prop where
 at0 : AtK l m tm ss
 st : (sAt (tOf ss.l) 0).status = 3 ∨ (sAt (tOf ss.l) 0).status = 4
 fl : (sAt (tOf ss.l) 0).failed = f
 live : ∀ i c, LiveW l.l (tOf ss.l) i c → ∀ j, j < k → (ordT l.l)[j]? ≠ some (i, c)
 out : ∀ a ∈ L, a.kind ≠ 3
 len : L.length ≤ 3000 + 3000 * k
end
section
end
section
def startsAt (s : List State) (p : Nat × Nat) : Int := ((s.getD p.1 default).children.l.getD p.2 default).starts
def KC (st : LoopState) : Blk := .loop st none [(3, .optr 0 0 0 0), (4, .isl (some true) 0 []), (5, I 0), (6, .optr 1 0 0 0)] [20, 21] ra12_0 rb12_0
def FitsL (l : List Spec) (s : List State) : Prop := s.length = l.length ∧ ∀ k, k < l.length → (s.getD k default).children.l.length = (kids l k).length
theorem round32 {l : Sl Spec} {s : Sl State} (hfit : FitsL l.l s.l) {H : Heap} {L : List (Nat × Nat)} (h : OutR [.arr 0 1 false [states s], .arr 0 1 false [.isl (some true) 0 []], KC .ready] 2 1 1 KC H (L.map fun p => I (startsAt s.l p))) (hl : L.length ≤ 1000000) (i c : Nat) (hw : WorkerAt l.l (i, c)) :
  okV (evRound W 2 [I i, I c] H) (fun v H' => v = .bool true ∧ OutR [.arr 0 1 false [states s], .arr 0 1 false [.isl (some true) 0 []], KC .ready] 2 1 1 KC H' ((L ++ [(i, c)]).map fun p => I (startsAt s.l p))) := by
 obtain ⟨hi, ch, hch, _⟩ := hw
 simp only at hi hch
 obtain ⟨st, hst⟩ : ∃ st, s.l[i]? = some st := ⟨_, gEg (by rw [hfit.1]; exact hi)⟩
 have hgd : s.l.getD i default = st := by rw [gEd, hst]; rfl
 have hcl := (gEs.1 hch).1
 have hf2 := hfit.2 i hi
 rw [hgd] at hf2
 obtain ⟨cs, hcs⟩ : ∃ cs, st.children.l[c]? = some cs := ⟨_, gEg (by omega)⟩
 have hsa : startsAt s.l (i, c) = cs.starts := by unfold startsAt; simp only; rw [hgd, gEd, hcs]; rfl
 obtain ⟨v, v', G2, a1, a2, a3, a4, a5, a6, a7, a8, a9, a10, a11, a12⟩ := h.step (I cs.starts) (by simp) (by simpa using hl)
 have hz := h.at (j := 0) (by simp) (by decide) (by decide) rfl
 have : okV (evRound W 2 [I i, I c] H) (fun u H' => u = .bool true ∧ H' = (G2.set 1 (.arr 0 1 false [v'])).set 2 (KC .ready)) := by
  rw [evRound_open h.hy rfl]
  have hy := h.hy
  simp only [KC] at a1 a3 a10 a11 hy hz ⊢
  simp [-getElem?_pos, gEz, putAll, evra12_0, xra12_0, evrb12_0, xrb12_0, intBin, hy, hz, hst, hcs, a1, a2, a3, a4, a5, a6, a7, a8, a9, a10, a11]
 obtain ⟨u, H', e1, rfl, rfl⟩ := okV_iff.1 this
 rw [e1]
 refine ⟨rfl, ?_⟩
 rw [List.map_append]
 simp only [List.map_cons, List.map_nil, hsa]
 exact a12
theorem t32 {l : Sl Spec} {s : Sl State} (hn : NamesOk l.l) (hc : chkT l.l = 0) (hs : SmallS s.l) (hsl : s.l.length ≤ 1000000) (hv : validT l.l s.l = true) (hfit : FitsL l.l s.l) : ∃ r : Sl Int, W.pure 12 [specs l, states s] = some (.tuple [Sl.ints r, I 0]) ∧ r.l = (ordT l.l).map (startsAt s.l) ∧ KnownNil r := by
 have ht := tree_of hc
 have h0 : (0 : Nat) < l.l.length := by have := ht.len.1; omega
 have hlen := order_len ht l.l.length 0 h0
 have h22 := t22 l hn (by have := ht.len.2; omega)
 rw [hc] at h22
 have h56 := t56 ht hn hs hsl
 rw [hv] at h56
 have hw := walk72 ht (f := .yld 2) rfl (ordT l.l) (fun q H => OutR [.arr 0 1 false [states s], .arr 0 1 false [.isl (some true) 0 []], KC .ready] 2 1 1 KC H (q.map fun p => I (startsAt s.l p)))
  (fun q H i c hwk hp hr => by
   rw [W_yld]
   exact round32 hfit hr (by have := hp.length_le; simp only [ordT, List.length_append] at this; omega) i c hwk)
  (fun q H b hr => hr.box b) l.l.length 0 [] [.arr 0 1 false [states s], .arr 0 1 false [.isl (some true) 0 []], KC .ready] (by omega) h0 (List.prefix_refl _)
  ⟨by simp, by simp, by decide, Nat.le_refl _, rfl, ⟨none, _, rfl, grow_nil _ _, by simp⟩, fun _ _ _ _ => rfl⟩
 obtain ⟨v, G, e1, rfl, hr⟩ := okV_iff.1 hw
 rw [List.nil_append] at hr
 have c71 := t71 rfl rfl e1
 have hy := hr.hy
 obtain ⟨o, w, g1, g2, g3⟩ := hr.hb
 rw [show (fun p => I (startsAt s.l p)) = I ∘ startsAt s.l from rfl, ← List.map_map] at g2
 obtain ⟨r, f1, f2, f3⟩ := (g2.kept (Kept.set 2 G (.loop .exhausted none [(3, .optr 0 0 0 0), (4, .isl (some true) 0 []), (5, I 0), (6, .optr 1 0 0 0)] [20, 21] ra12_0 rb12_0)) (fun id hid e => by cases hid; have := g3 _ e; simp at this)).slG (n := 6) (all_still (fun s => by simp) _)
 refine ⟨r, ?_, f2, f3⟩
 rw [W_pure Φ12 (by simp)]
 have c49 := t49 l 0
 simp only [cloW, KC, Int.natCast_zero] at c71 hy c49
 have he := rngEnd_ready (v := .tuple []) (F := [(3, .optr 0 0 0 0), (4, .isl (some true) 0 []), (5, I 0), (6, .optr 1 0 0 0)]) hy
 have hb : (G.set 2 (.loop .exhausted none [(3, .optr 0 0 0 0), (4, .isl (some true) 0 []), (5, I 0), (6, .optr 1 0 0 0)] [20, 21] ra12_0 rb12_0))[1]? = some (.arr 0 1 false [w]) := by rw [gEn (by decide)]; exact g1
 simp [-getElem?_pos, gEz, fi12, c12, evFun, enterFr, intBin, resV, rvVs, rvV, h22, h56, c49, c71, he, hb, g2.okO, g2.cells, f1]
end
section
def CntOk (l : List Spec) (ss : List State) (o : List Event) : Prop := ∀ j c, WorkerAt l (j, c) → stS (tOf ss) (j, c) ≤ emS l o (j, c) ∧ (j = 0 → stS (tOf ss) (j, c) = emS l o (j, c))
end
section
end
section
structure At7 (l : Sl Spec) (k : Nat) (now : Int) (ss : Sl State) (o : List Event) (a : Sl Event) : Prop where
 at0 : AtK l (1 + 17 * k) now ss
 time : 0 ≤ now ∧ now ≤ 255 * k
 len : o.length ≤ 3000 * k
 alen : a.l.length ≤ 3000
 cnt : CntOk l.l ss.l (o ++ a.l)
end
section
structure OutOk (n : Nat) (tm : Int) (S0 : List Nat) (o : List Event) : Prop where
 len : S0.length = n
 ev : ∀ a ∈ o, a.time = tm ∧ (a.kind = 5 ∨ 0 ≤ a.child ∧ a.child < (n : Int))
 sim : ∀ (w a : Nat), S0[w]? = some a → ∃ b, simW w o a = some b
end
section
def runB (S : List Nat) : List AV := S.map fun n => .bool (decide (n ≠ 0))
def stpB (S : List Nat) : List AV := S.map fun n => .bool (decide (n = 2))
structure Arrs (G : Heap) (S : List Nat) : Prop where
 r : G[0]? = some (.arr 0 1 false (runB S))
 t : G[1]? = some (.arr 0 1 false (stpB S))
theorem Arrs.len {G : Heap} {S : List Nat} (h : Arrs G S) : 1 < G.length := (gEs.1 h.t).1
theorem Arrs.both {G : Heap} {S S' : List Nat} (h : Arrs G S) {B B' : List AV} (hr : B = runB S') (ht : B' = stpB S') : Arrs ((G.set 0 (.arr 0 1 false B)).set 1 (.arr 0 1 false B')) S' := by
 have := h.len
 refine ⟨?_, ?_⟩
 ·rw [gEn (by omega), gEt (by omega), hr]
 ·rw [gEt (by simp; omega), ht]
end
section
structure At6 (l : Sl Spec) (k : Nat) (now : Int) (ss : Sl State) : Prop where
 at0 : AtK l (1 + 17 * k) now ss
 time : 0 ≤ now ∧ now ≤ 255 * k
end
section
end
section
def LinkW (v st : Int) (b : Prop) : Pend → Prop := fun p => (b → st = 4) ∧ match p with | .no => (v = 3 ∨ v = 4) → ¬ b ∧ st = 4 | .start => v = 1 ∧ ¬ b ∧ st = 4 | .stop => v = 2
theorem linkW_step {v v' st : Int} {b e : Prop} {p : Pend} (h : StepV v v' p e) (hl : ¬ e → LinkW v st b .no) (hg : e → ¬ b ∧ st = 4) : LinkW v' st b p := by
 rcases h with ⟨h1, rfl, rfl⟩ | ⟨rfl, rfl, h1⟩ | ⟨h1, rfl, rfl, rfl⟩ | ⟨h1, rfl, h2⟩
 ·exact hl h1
 ·have : ¬ b ∧ st = 4 := by
   by_cases he : e
   ·exact hg he
   ·rcases h1 with rfl | h1
    ·exact (hl he).2 (.inr rfl)
    ·exact absurd h1 he
  exact ⟨fun _ => this.2, rfl, this⟩
 ·exact ⟨(hl h1).1, rfl⟩
 ·have : ¬ b ∧ st = 4 := by
   by_cases he : e
   ·exact hg he
   ·rcases h2 with rfl | h2
    ·exact (hl he).2 (.inr rfl)
    ·exact absurd h2 he
  exact ⟨fun _ => this.2, fun _ => this⟩
structure RunW (l : List Spec) (tm : Int) (t : Tree) (ks : List Nat) : Prop where
 len : t.ss.length = l.length
 inv : ∀ k, k < l.length → Inv (l.getD k default) 1099511627777 (runOf (sAt t k))
 q : QOk l tm t.q ks
def SubOkW (l : List Spec) (t : Tree) (ks : List Nat) (i : Nat) (p : Nat → Pend) : Prop := ∀ a c k, Desc l i a → SubAt l a c k → LinkW (viewT t a c) (sAt t k).status (k ∈ ks) (if a = i then p c else .no)
theorem SubOkW.child {l : List Spec} (ht : TreeOk l) {t : Tree} {ks : List Nat} {i c j : Nat} {p : Nat → Pend} (h : SubOkW l t ks i p) (hs : SubAt l i c j) : SubOkW l t ks j (fun _ => .no) := by
 intro a d k ha hk
 have h1 := h a d k (ha.head hs) hk
 have : a ≠ i := by have := (hs.lt ht).1; have := ha.le ht; omega
 rw [if_neg this] at h1
 split <;> exact h1
def PerfW (l : List Spec) (tm : Int) (d : Nat) : Prop :=
 ∀ (i : Nat) (acts : List Event) (t : Tree) (ks : List Nat), l.length - i ≤ d → i < l.length → RunW l tm t ks → SubOkW l t ks i (pendA acts) → ActsG (kids l i).length tm acts →
  ∃ ks', RunW l tm (perf l (ordT l) (up l) d i acts t) ks' ∧ SubOkW l (perf l (ordT l) (up l) d i acts t) ks' i (fun _ => .no) ∧ KeepT l (Below l i) t ks (perf l (ordT l) (up l) d i acts t) ks' ∧ Mono l t ks (perf l (ordT l) (up l) d i acts t) ks' ∧ ∀ c j, SubAt l i c j → pendA acts c = .start → AliveT l (perf l (ordT l) (up l) d i acts t) j
theorem run_beginW {l : List Spec} (ht : TreeOk l) {tm : Int} {d : Nat} (hp : PerfW l tm d) {j : Nat} (hj : j < l.length) (hd : l.length - j ≤ d) {t : Tree} {ks : List Nat} (hr : RunW l tm t ks) (hst : (sAt t j).status = 4) (hb : j ∉ ks)
  (hs : SubOkW l t ks j (fun _ => .no)) :
  ∃ ks', RunW l tm (doStart l (perf l (ordT l) (up l) d) j tm t) ks' ∧ SubOkW l (doStart l (perf l (ordT l) (up l) d) j tm t) ks' j (fun _ => .no) ∧ KeepT l (Desc l j) t ks (doStart l (perf l (ordT l) (up l) d) j tm t) ks' ∧ sAt (doStart l (perf l (ordT l) (up l) d) j tm t) j = startS (l.getD j default) ∧ j ∉ ks' ∧ Mono l t ks (doStart l (perf l (ordT l) (up l) d) j tm t) ks' ∧ AliveT l (doStart l (perf l (ordT l) (up l) d) j tm t) j := by
 have hjl : j < t.ss.length := by rw [hr.len]; exact hj
 have hx := gEg hj
 have hgx : l.getD j default = l[j] := by rw [gEd, hx]; rfl
 have hok := ht.ok j _ hx
 have hset := sAt_set (t := t) (s := startS (l.getD j default)) hjl
 have hkid : (kids l j).length = (l.getD j default).children.l.length := rfl
 have h1 : RunW l tm { t with ss := t.ss.set j (startS (l.getD j default)) } ks := by
  refine ⟨by simpa using hr.len, fun k hk => ?_, hr.q⟩
  rw [hset]
  by_cases h : k = j
  ·subst h
   rw [if_pos rfl, hgx]
   exact (start_inv hok).mono (by omega)
  ·rw [if_neg h]; exact hr.inv k hk
 obtain ⟨ks', a1, a2, a3, a4, a5⟩ := hp j (timed tm (startL (kids l j).length)) _ ks hd hj h1 (fun a c k ha hc => by
  have hkj : k ≠ j := by have := (hc.lt ht).1; have := ha.le ht; omega
  have hold := hs a c k ha hc
  rw [ite_self] at hold
  unfold viewT
  rw [hset, hset, if_neg hkj]
  by_cases haj : a = j
  ·subst haj
   rw [if_pos rfl, if_pos rfl]
   obtain ⟨h0, ch, hch, hsub⟩ := hc
   have hcl := (gEs.1 hch).1
   rw [start_pend tm hcl]
   have hlen : (sAt t a).children.l.length = (l.getD a default).children.l.length := (hr.inv a hj).len
   have hcs : c < (sAt t a).children.l.length := by rw [hlen]; exact hcl
   have hv := views_done (hr.inv a hj) hst c _ (gEg hcs)
   have hview : viewT t a c = 3 := by
    unfold viewT
    rw [gEd, gEg hcs]; exact hv
   rw [hview] at hold
   have hnew : ((startS (l.getD a default)).children.l.getD c default).status = 1 := by
    have hcl' : c < (l.getD a default).children.l.length := hcl
    show ((List.replicate (l.getD a default).children.l.length start1).getD c default).status = 1
    rw [gEd, List.getElem?_replicate, if_pos hcl']; rfl
   rw [hnew]
   have := hold.2 (.inl rfl)
   exact ⟨fun _ => this.2, rfl, this⟩
  ·rw [if_neg haj, if_neg haj]
   exact hold) (start_acts tm _)
 have hself := a3 j (fun hb => by have := Below.gt ht hb; omega)
 rw [hset, if_pos rfl] at hself
 have hdo : doStart l (perf l (ordT l) (up l) d) j tm t = perf l (ordT l) (up l) d j (timed tm (startL (kids l j).length)) { t with ss := t.ss.set j (startS (l.getD j default)) } := rfl
 rw [hdo]
 generalize perf l (ordT l) (up l) d j (timed tm (startL (kids l j).length)) { t with ss := t.ss.set j (startS (l.getD j default)) } = T at *
 have hal : AliveT l T j := by
  have hlen0 := (chk_len hok).1
  have h0 : 0 < (kids l j).length := by rw [hkid, hgx]; omega
  obtain ⟨ch, hch⟩ : ∃ ch, (kids l j)[0]? = some ch := ⟨_, gEg h0⟩
  rcases ht.sub j 0 ch hj hch with hs1 | hs1
  ·have hl : LiveW l { t with ss := t.ss.set j (startS (l.getD j default)) } j 0 := by
    refine ⟨⟨hj, ch, hch, hs1⟩, .inl ?_⟩
    unfold viewT
    rw [hset, if_pos rfl]
    have hcl' : 0 < (l.getD j default).children.l.length := h0
    show ((List.replicate (l.getD j default).children.l.length start1).getD 0 default).status = 1
    rw [gEd, List.getElem?_replicate, if_pos hcl']; rfl
   exact ⟨j, 0, .refl, a4.live _ _ hl⟩
  ·have hsub : SubAt l j 0 ch.sub.toNat := ⟨hj, ch, hch, by omega⟩
   obtain ⟨i, c, g1, g2⟩ := a5 0 _ hsub (start_pend tm h0)
   exact ⟨i, c, g1.head hsub, g2⟩
 have hk1 : KeepT l (Desc l j) t ks { t with ss := t.ss.set j (startS (l.getD j default)) } ks := fun k hk => by
  have : k ≠ j := fun e => hk (e ▸ .refl)
  rw [hset, if_neg this]
  exact ⟨rfl, Iff.rfl⟩
 refine ⟨ks', a1, a2, hk1.trans (a3.weak fun k hk => hk.desc), hself.1, fun h => hb (hself.2.1 h), ⟨fun i c hl => ?_, fun k hk => ?_, fun k hk => ?_⟩, hal⟩
 ·refine a4.live i c ⟨hl.1, ?_⟩
  have h2 := hl.2
  by_cases hij : i = j
  ·exfalso
   subst hij
   obtain ⟨_, ch, hch, _⟩ := hl.1
   have hlen : (sAt t i).children.l.length = (l.getD i default).children.l.length := (hr.inv i hj).len
   have hcs : c < (sAt t i).children.l.length := by rw [hlen]; exact (gEs.1 hch).1
   have hv := views_done (hr.inv i hj) hst c _ (gEg hcs)
   unfold viewT at h2
   rw [gEd, gEg hcs] at h2
   simp only [Option.getD_some] at h2
   omega
  ·unfold viewT at h2 ⊢
   rw [hset, if_neg hij]; exact h2
 ·by_cases hkj : k = j
  ·subst hkj; exact .inr hal
  ·exact a4.stop k (by rw [hset, if_neg hkj]; exact hk)
 ·rcases a4.due k hk with h | h | h
  ·exact .inl h
  ·by_cases hkj : k = j
   ·subst hkj; exact .inr (.inr hal)
   ·rw [hset, if_neg hkj] at h; exact .inr (.inl h)
  ·exact .inr (.inr h)
theorem run_handleW {l : List Spec} (ht : TreeOk l) {tm : Int} {d : Nat} (hp : PerfW l tm d) {j : Nat} (hj : j < l.length) (hd : l.length - j ≤ d) {t : Tree} {ks : List Nat} (hr : RunW l tm t ks) {e : Event} (hte : e.time = tm)
  (hE : handleE (l.getD j default) (sAt t j) e = 0) (hb : j ∉ ks)
  (hs : ∀ a c k, Desc l j a → SubAt l a c k → ((a = j ∧ exOf e = some c) → (k ∉ ks ∧ (sAt t k).status = 4)) ∧ (¬ (a = j ∧ exOf e = some c) → LinkW (viewT t a c) (sAt t k).status (k ∈ ks) .no)) :
  ∃ ks', RunW l tm (doHandle l (perf l (ordT l) (up l) d) (up l) j e t) ks' ∧ SubOkW l (doHandle l (perf l (ordT l) (up l) d) (up l) j e t) ks' j (fun _ => .no) ∧ KeepT l (Desc l j) t ks (doHandle l (perf l (ordT l) (up l) d) (up l) j e t) ks' ∧
   sAt (doHandle l (perf l (ordT l) (up l) d) (up l) j e t) j = mkS (handleR (l.getD j default) (sAt t j) e) ∧ (j ∈ ks' ↔ 0 < j ∧ (handleR (l.getD j default) (sAt t j) e).st = 4) ∧ ((∀ c, exOf e = some c → ¬ WorkerAt l (j, c)) → Mono l t ks (doHandle l (perf l (ordT l) (up l) d) (up l) j e t) ks') := by
 have hjl : j < t.ss.length := by rw [hr.len]; exact hj
 have hx := gEg hj
 have hgx : l.getD j default = l[j] := by rw [gEd, hx]; rfl
 have hok : chk (l.getD j default) = 0 := by rw [hgx]; exact ht.ok j _ hx
 have hInv := valid_inv (handleE_check hE).1
 have hc := (handleE_check hE).2
 have hw := handle_way hInv hc
 have hsum := hsum_handle hInv hw
 have hi1 := handle_inv hok (Int.le_refl _) hInv hc
 have hn4 := handle_not4 hw
 have hact := actw_handle (l.getD j default) (sAt t j) e
 have hlen : (sAt t j).children.l.length = (kids l j).length := hInv.len
 rw [hlen, hte] at hact
 generalize hrr : handleR (l.getD j default) (sAt t j) e = r at *
 have hset := sAt_set (t := t) (s := mkS r) hjl
 have h1 : RunW l tm { t with ss := t.ss.set j (mkS r) } ks := by
  refine ⟨by simpa using hr.len, fun k hk => ?_, hr.q⟩
  rw [hset]
  by_cases h : k = j
  ·subst h
   rw [if_pos rfl]
   exact (inv_mkS hi1).mono (by omega)
  ·rw [if_neg h]; exact hr.inv k hk
 obtain ⟨ks1, a1, a2, a3, a4, _⟩ := hp j r.out _ ks hd hj h1 (fun a c k ha hc' => by
  have hkj : k ≠ j := by have := (hc'.lt ht).1; have := ha.le ht; omega
  obtain ⟨o1, o2⟩ := hs a c k ha hc'
  unfold viewT
  rw [hset, hset, if_neg hkj]
  by_cases haj : a = j
  ·subst haj
   rw [if_pos rfl, if_pos rfl]
   obtain ⟨h0, ch, hch, hsub⟩ := hc'
   have hcl := (gEs.1 hch).1
   have hcs : c < (sAt t a).children.l.length := by rw [hlen]; exact hcl
   obtain ⟨v', g1, g2⟩ := hsum.child c _ (gEg hcs)
   have hview : viewT t a c = (sAt t a).children.l[c].status := by
    unfold viewT
    rw [gEd, gEg hcs]; rfl
   rw [hview] at o2
   have hnew : ((mkS r).children.l.getD c default).status = v'.status := by
    show ((r.cs).getD c default).status = _
    rw [gEd, g1]; rfl
   rw [hnew]
   exact linkW_step g2 (fun he => o2 (fun hh => he hh.2)) (fun he => o1 ⟨rfl, he⟩)
  ·rw [if_neg haj, if_neg haj]
   exact o2 (fun hh => haj hh.1)) ⟨hsum.nodup, hact.2⟩
 have hself := a3 j (fun hb => by have := Below.gt ht hb; omega)
 rw [hset, if_pos rfl] at hself
 have hj1 : j ∉ ks1 := fun h => hb (hself.2.1 h)
 have hk1 : KeepT l (Desc l j) t ks { t with ss := t.ss.set j (mkS r) } ks := fun k hk => by
  have : k ≠ j := fun e => hk (e ▸ .refl)
  rw [hset, if_neg this]
  exact ⟨rfl, Iff.rfl⟩
 have hk2 := hk1.trans (a3.weak fun k hk => hk.desc)
 have hdo : doHandle l (perf l (ordT l) (up l) d) (up l) j e t = if 0 < j ∧ (sAt t j).status ≠ 4 ∧ r.st = 4 then { perf l (ordT l) (up l) d j r.out { t with ss := t.ss.set j (mkS r) } with q := (perf l (ordT l) (up l) d j r.out { t with ss := t.ss.set j (mkS r) }).q ++ [⟨(up l j).1, ⟨1, (up l j).2, if r.fl = true then 7 else 1, e.time⟩⟩] } else perf l (ordT l) (up l) d j r.out { t with ss := t.ss.set j (mkS r) } := by
  unfold doHandle
  simp only
  rw [if_pos hE, hrr]
 rw [hdo]
 generalize perf l (ordT l) (up l) d j r.out { t with ss := t.ss.set j (mkS r) } = T at *
 have hmono : ∀ ks2, (∀ k, k ≠ j → (k ∈ ks2 ↔ k ∈ ks1)) → (∀ c, exOf e = some c → ¬ WorkerAt l (j, c)) → Mono l t ks T ks2 := by
  intro ks2 hk2' hex
  refine ⟨fun i c hl => ?_, fun k hk => ?_, fun k hk => ?_⟩
  ·refine a4.live i c ⟨hl.1, ?_⟩
   have h2 := hl.2
   by_cases hij : i = j
   ·subst hij
    have hne : ¬ exOf e = some c := fun he => hex c he hl.1
    obtain ⟨_, ch, hch, _⟩ := hl.1
    have hcs : c < (sAt t i).children.l.length := by rw [hlen]; exact (gEs.1 hch).1
    obtain ⟨v', g1, g2⟩ := hsum.child c _ (gEg hcs)
    unfold viewT at h2 ⊢
    rw [gEd, gEg hcs] at h2
    simp only [Option.getD_some] at h2
    rw [hset, if_pos rfl]
    have hnew : ((mkS r).children.l.getD c default).status = v'.status := by
     show ((r.cs).getD c default).status = _
     rw [gEd, g1]; rfl
    rw [hnew]
    rcases g2 with ⟨_, h, _⟩ | ⟨h, _, h'⟩ | ⟨_, _, h, _⟩ | ⟨_, _, h'⟩
    ·rw [h]; exact h2
    ·exact .inl h
    ·exact .inr h
    ·rcases h' with h' | h'
     ·omega
     ·exact absurd h' hne
   ·unfold viewT at h2 ⊢
    rw [hset, if_neg hij]; exact h2
  ·by_cases hkj : k = j
   ·subst hkj; exact absurd hk hn4
   ·exact a4.stop k (by rw [hset, if_neg hkj]; exact hk)
  ·by_cases hkj : k = j
   ·subst hkj; exact .inr (.inl hn4)
   ·rcases a4.due k ((hk2' k hkj).1 hk) with h | h | h
    ·exact .inl h
    ·rw [hset, if_neg hkj] at h; exact .inr (.inl h)
    ·exact .inr (.inr h)
 by_cases hpush : 0 < j ∧ (sAt t j).status ≠ 4 ∧ r.st = 4
 ·rw [if_pos hpush, hte]
  refine ⟨ks1 ++ [j], ⟨a1.len, a1.inv, a1.q.push ⟨hpush.1, hj⟩ hj1 (by split <;> simp)⟩, ?_, ?_, hself.1, ?_, fun hex => ?_⟩
  ·intro a c k ha hc'
   have hkj : k ≠ j := by have := (hc'.lt ht).1; have := ha.le ht; omega
   have := a2 a c k ha hc'
   have hmem : (k ∈ ks1 ++ [j]) = (k ∈ ks1) := by simp [hkj]
   rw [hmem]
   exact this
  ·intro k hk
   have hkj : k ≠ j := fun e => hk (e ▸ .refl)
   have := hk2 k hk
   exact ⟨this.1, by simp [hkj]; exact this.2⟩
  ·simp [hpush.1, hpush.2.2]
  ·have hm2 := hmono (ks1 ++ [j]) (fun k hk => by simp [hk]) hex
   exact ⟨hm2.live, hm2.stop, hm2.due⟩
 ·rw [if_neg hpush]
  refine ⟨ks1, a1, a2, hk2, hself.1, ⟨fun h => absurd h hj1, fun h => absurd ⟨h.1, hn4, h.2⟩ hpush⟩, hmono ks1 (fun _ _ => Iff.rfl)⟩
end
section
theorem glueW {l : List Spec} (ht : TreeOk l) {i c0 j : Nat} (hij : SubAt l i c0 j) {t t' : Tree} {ks ks' : List Nat} {p q : Nat → Pend} (hs : SubOkW l t ks i p) (hq : ∀ c, c ≠ c0 → q c = p c) (hq0 : q c0 = .no) (hj : SubOkW l t' ks' j (fun _ => .no)) (hk : KeepT l (Desc l j) t ks t' ks') (hl : LinkW (viewT t i c0) (sAt t' j).status (j ∈ ks') .no) :
  SubOkW l t' ks' i q ∧ KeepT l (Below l i) t ks t' ks' ∧ ∀ c k k', SubAt l i c k → c ≠ c0 → Desc l k k' → sAt t' k' = sAt t k' := by
 have hlt := hij.lt ht
 have hi : ¬ Desc l j i := fun h => by have := h.le ht; omega
 refine ⟨fun a c k ha hsk => ?_, hk.weak fun k h => ⟨c0, j, hij, h⟩, fun c k k' hc hne hd => (hk k' fun h => ?_).1⟩
 ·have hold := hs a c k ha hsk
  by_cases hai : a = i
  ·subst hai
   rw [if_pos rfl] at hold ⊢
   have hv : viewT t' a c = viewT t a c := by unfold viewT; rw [(hk a hi).1]
   rw [hv]
   by_cases hc : c = c0
   ·subst hc
    have := sub_fun hij hsk
    subst this
    rw [hq0]
    exact hl
   ·rw [hq c hc]
    have hnd : ¬ Desc l j k := fun h => by
     rcases desc_parent ht h hsk with h1 | h1
     ·subst h1; exact hc (ht.one hsk hij).2
     ·exact hi h1
    have hkk := hk k hnd
    have : (k ∈ ks') = (k ∈ ks) := propext hkk.2
    rw [hkk.1, this]
    exact hold
  ·rw [if_neg hai] at hold ⊢
   by_cases hda : Desc l j a
   ·have := hj a c k hda hsk
    rw [ite_self] at this
    exact this
   ·have hnd : ¬ Desc l j k := fun h => by
     rcases desc_parent ht h hsk with h1 | h1
     ·subst h1; exact hai (ht.one hsk hij).1
     ·exact hda h1
    have hkk := hk k hnd
    have hka := hk a hda
    have : (k ∈ ks') = (k ∈ ks) := propext hkk.2
    unfold viewT
    rw [hkk.1, hka.1, this]
    exact hold
 ·have := Desc.same ht hij hc h hd
  subst this
  exact hne (ht.one hc hij).2
theorem perf_invW {l : List Spec} (ht : TreeOk l) {tm : Int} : ∀ d, PerfW l tm d := by
 intro d
 induction d with
 | zero => intro i acts t ks h1 h2; omega
 | succ d ih =>
  intro i acts t ks h1 h2 hr hs ha
  show ∃ ks', RunW l tm (acts.foldl (doAct l (ordT l) (up l) (perf l (ordT l) (up l) d) i) t) ks' ∧ SubOkW l (acts.foldl (doAct l (ordT l) (up l) (perf l (ordT l) (up l) d) i) t) ks' i (fun _ => .no) ∧ KeepT l (Below l i) t ks (acts.foldl (doAct l (ordT l) (up l) (perf l (ordT l) (up l) d) i) t) ks' ∧ Mono l t ks (acts.foldl (doAct l (ordT l) (up l) (perf l (ordT l) (up l) d) i) t) ks' ∧ ∀ c j, SubAt l i c j → pendA acts c = .start → AliveT l (acts.foldl (doAct l (ordT l) (up l) (perf l (ordT l) (up l) d) i) t) j
  induction acts generalizing t ks with
  | nil => exact ⟨ks, hr, hs, KeepT.refl _ _ _ _, Mono.refl _ _ _, fun c j _ h => by cases h⟩
  | cons a r ih2 =>
   have hnd := List.nodup_cons.1 (show (a.child :: r.map Event.child).Nodup from ha.nodup)
   have ha' : ActsG (kids l i).length tm r := ⟨hnd.2, fun b hb => ha.all b (by simp [hb])⟩
   obtain ⟨hat, hav, hak⟩ := ha.all a (by simp)
   have key : ∃ ks1, RunW l tm (doAct l (ordT l) (up l) (perf l (ordT l) (up l) d) i t a) ks1 ∧ SubOkW l (doAct l (ordT l) (up l) (perf l (ordT l) (up l) d) i t a) ks1 i (pendA r) ∧ KeepT l (Below l i) t ks (doAct l (ordT l) (up l) (perf l (ordT l) (up l) d) i t a) ks1 ∧
     (∀ c j k, SubAt l i c j → pendA r c ≠ .no → Desc l j k → sAt (doAct l (ordT l) (up l) (perf l (ordT l) (up l) d) i t a) k = sAt t k) ∧ Mono l t ks (doAct l (ordT l) (up l) (perf l (ordT l) (up l) d) i t a) ks1 ∧ ∀ c j, SubAt l i c j → pendA (a :: r) c = .start → pendA r c ≠ .start → AliveT l (doAct l (ordT l) (up l) (perf l (ordT l) (up l) d) i t a) j := by
    rcases hak with ⟨h5, hch⟩ | ⟨h34, hc0, hc1⟩
    ·have hpe : ∀ c, pendA (a :: r) c = pendA r c := fun c => by
      rw [pendA, if_neg (by omega), if_neg (by omega)]
     have hs' : SubOkW l t ks i (pendA r) := fun a' c k x y => by have := hs a' c k x y; rw [hpe] at this; exact this
     unfold doAct
     rw [if_pos h5]
     split
     ·exact ⟨ks, ⟨hr.len, hr.inv, hr.q⟩, hs', fun k hk => ⟨rfl, Iff.rfl⟩, fun _ _ _ _ _ _ => rfl, ⟨fun _ _ h => h, fun _ h => .inl h, fun _ h => .inl h⟩, fun c j _ h h' => absurd (hpe c ▸ h) h'⟩
     ·exact ⟨ks, hr, hs', KeepT.refl _ _ _ _, fun _ _ _ _ _ _ => rfl, Mono.refl _ _ _, fun c j _ h h' => absurd (hpe c ▸ h) h'⟩
    ·obtain ⟨ch, hch⟩ : ∃ ch, (kids l i)[a.child.toNat]? = some ch := ⟨_, gEg (by omega)⟩
     have hcc : ((a.child.toNat : Nat) : Int) = a.child := by omega
     have hgd : (kids l i).getD a.child.toNat default = ch := by rw [gEd, hch]; rfl
     have hpe : ∀ c, c ≠ a.child.toNat → pendA r c = pendA (a :: r) c := fun c hc => by
      rw [pendA, if_neg (by omega), if_neg (by omega)]
     have hp0 : pendA r a.child.toNat = .no := pendA_no (fun b hb hbc => absurd (List.mem_map.2 ⟨b, hb, by rw [hbc, hcc]⟩) hnd.1)
     unfold doAct
     rw [if_neg (by omega)]
     simp only [hgd]
     by_cases hneg : ch.sub < 0
     ·rw [if_pos hneg]
      have hs' : SubOkW l t ks i (pendA r) := fun a' c k x y => by
       have := hs a' c k x y
       by_cases hai : a' = i
       ·subst hai
        have hc : c ≠ a.child.toNat := fun e => by
         obtain ⟨_, ch', g1, g2⟩ := y
         rw [e, hch] at g1; cases g1
         omega
        rw [if_pos rfl] at this ⊢
        rw [hpe c hc]; exact this
       ·rw [if_neg hai] at this ⊢; exact this
      refine ⟨ks, ⟨hr.len, hr.inv, hr.q⟩, hs', fun k hk => ⟨rfl, Iff.rfl⟩, fun _ _ _ _ _ _ => rfl, ⟨fun _ _ h => h, fun _ h => .inl h, fun _ h => .inl h⟩, fun c j y h h' => ?_⟩
      have hc : c ≠ a.child.toNat := fun e => by
       obtain ⟨_, ch', g1, g2⟩ := y
       rw [e, hch] at g1; cases g1
       omega
      exact absurd ((hpe c hc).trans h) h'
     ·rw [if_neg hneg]
      have hij : SubAt l i a.child.toNat ch.sub.toNat := ⟨h2, ch, hch, by omega⟩
      have hlt := hij.lt ht
      have hd' : l.length - ch.sub.toNat ≤ d := by omega
      have hlink := hs i a.child.toNat ch.sub.toNat .refl hij
      rw [if_pos rfl] at hlink
      have hsj := hs.child ht hij
      have fin : ∀ (t' : Tree) (ks1 : List Nat), RunW l tm t' ks1 → SubOkW l t' ks1 ch.sub.toNat (fun _ => .no) → KeepT l (Desc l ch.sub.toNat) t ks t' ks1 → LinkW (viewT t i a.child.toNat) (sAt t' ch.sub.toNat).status (ch.sub.toNat ∈ ks1) .no → Mono l t ks t' ks1 → (a.kind = 3 → AliveT l t' ch.sub.toNat) →
        ∃ ks1, RunW l tm t' ks1 ∧ SubOkW l t' ks1 i (pendA r) ∧ KeepT l (Below l i) t ks t' ks1 ∧ (∀ c j k, SubAt l i c j → pendA r c ≠ .no → Desc l j k → sAt t' k = sAt t k) ∧ Mono l t ks t' ks1 ∧ ∀ c j, SubAt l i c j → pendA (a :: r) c = .start → pendA r c ≠ .start → AliveT l t' j := by
       intro t' ks1 g1 g2 g3 g4 g5 g6
       obtain ⟨k1, k2, k3⟩ := glueW ht hij hs hpe hp0 g2 g3 g4
       refine ⟨ks1, g1, k1, k2, fun c j k x y z => k3 c j k x (fun e => y (by rw [e]; exact hp0)) z, g5, fun c j x h h' => ?_⟩
       by_cases hc : c = a.child.toNat
       ·subst hc
        have := sub_fun hij x
        subst this
        refine g6 ?_
        rw [pendA] at h
        split at h
        ·rename_i hh; exact hh.1
        ·split at h
         ·cases h
         ·exact absurd h h'
       ·exact absurd ((hpe c hc).trans h) h'
      by_cases h3 : a.kind = 3
      ·rw [if_pos h3, hat]
       have hpp : pendA (a :: r) a.child.toNat = .start := by rw [pendA, if_pos ⟨h3, hcc.symm⟩]
       rw [hpp] at hlink
       obtain ⟨_, l1, l2, l3⟩ := hlink
       obtain ⟨ks1, g1, g2, g3, g4, g5, g6, g7⟩ := run_beginW ht ih hlt.2 hd' hr l3 l2 hsj
       refine fin _ ks1 g1 g2 g3 ?_ g6 (fun _ => g7)
       rw [g4]
       rw [l1]
       exact ⟨fun h => absurd h g5, fun h => by omega⟩
      ·rw [if_neg h3]
       have h4 : a.kind = 4 := by omega
       have hpp : pendA (a :: r) a.child.toNat = .stop := by rw [pendA, if_neg (by omega), if_pos ⟨h4, hcc.symm⟩]
       rw [hpp] at hlink
       obtain ⟨l1, l2⟩ := hlink
       have l2' : viewT t i a.child.toNat = 2 := l2
       rw [hat]
       by_cases hE : handleE (l.getD ch.sub.toNat default) (sAt t ch.sub.toNat) ⟨2, -1, 0, tm⟩ = 0
       ·have hw := handle_way (valid_inv (handleE_check hE).1) (handleE_check hE).2
        have b1 : ch.sub.toNat ∉ ks := fun h => handle_not4 hw (l1 h)
        obtain ⟨ks1, g1, g2, g3, g4, g5, g6⟩ := run_handleW ht ih hlt.2 hd' hr rfl hE b1 (fun a' c k x y => ⟨fun hh => by simp [exOf] at hh, fun _ => by have := hsj a' c k x y; rw [ite_self] at this; exact this⟩)
        refine fin _ ks1 g1 g2 g3 ?_ (g6 (fun c hh => by simp [exOf] at hh)) (fun h => absurd h h3)
        rw [g4, l2']
        exact ⟨fun h => (g5.1 h).2, fun h => by omega⟩
       ·have hdo : doHandle l (perf l (ordT l) (up l) d) (up l) ch.sub.toNat ⟨2, -1, 0, tm⟩ t = t := by
         unfold doHandle
         simp only
         rw [if_neg hE]
        rw [hdo]
        exact fin t ks hr hsj (KeepT.refl _ _ _ _) (by rw [l2']; exact ⟨l1, fun h => by omega⟩) (Mono.refl _ _ _) (fun h => absurd h h3)
   obtain ⟨ks1, k1, k2, k3, k4, k5, k6⟩ := key
   obtain ⟨ks2, m1, m2, m3, m4, m5⟩ := ih2 (doAct l (ordT l) (up l) (perf l (ordT l) (up l) d) i t a) ks1 k1 k2 ha'
   refine ⟨ks2, m1, m2, k3.trans m3, k5.trans m4, fun c j x h => ?_⟩
   by_cases hh : pendA r c = .start
   ·exact m5 c j x hh
   ·exact m4.alive (k6 c j x h hh)
end
section
structure TreeW (l : List Spec) (tm : Int) (t : Tree) (ks : List Nat) : Prop where
 len : t.ss.length = l.length
 inv : ∀ k, k < l.length → Inv (l.getD k default) 1099511627777 (runOf (sAt t k))
 q : QOk l tm t.q ks
 link : ∀ a c k, SubAt l a c k → LinkW (viewT t a c) (sAt t k).status (k ∈ ks) .no
theorem run_anyW {l : List Spec} (ht : TreeOk l) {tm : Int} {t : Tree} {ks : List Nat} {i : Nat} (hi : i < l.length) (h : RunW l tm t ks) {e : Event} (het : e.time = tm)
  (hl : ∀ a c' k, SubAt l a c' k → ((a = i ∧ exOf e = some c') → (k ∉ ks ∧ (sAt t k).status = 4)) ∧ LinkW (viewT t a c') (sAt t k).status (k ∈ ks) .no) :
  ∃ ks', TreeW l tm (handleT l i e t) ks' ∧ ((∀ c, exOf e = some c → ¬ WorkerAt l (i, c)) → Mono l t ks (handleT l i e t) ks') := by
 rw [show handleT l i e t = doHandle l (perf l (ordT l) (up l) l.length) (up l) i e t from rfl]
 by_cases hE : handleE (l.getD i default) (sAt t i) e = 0
 ·have hw := handle_way (valid_inv (handleE_check hE).1) (handleE_check hE).2
  have hn4 := handle_not4 hw
  have hb : i ∉ ks := fun hin => by
   have hri := h.q.range i hin
   obtain ⟨a, c', hp⟩ := ht.parent hri
   exact hn4 ((hl a c' i hp).2.1 hin)
  obtain ⟨ks', g1, g2, g3, g4, g5, g6⟩ := run_handleW ht (perf_invW ht l.length) hi (by omega) h het hE hb (fun a c' k ha hs => ⟨(hl a c' k hs).1, fun _ => (hl a c' k hs).2⟩)
  refine ⟨ks', ⟨g1.len, g1.inv, g1.q, fun a c' k hs => ?_⟩, g6⟩
  by_cases hda : Desc l i a
  ·have := g2 a c' k hda hs
   rw [ite_self] at this
   exact this
  ·have hold := (hl a c' k hs).2
   have hka := g3 a hda
   by_cases hki : k = i
   ·subst hki
    unfold viewT
    rw [hka.1, g4]
    refine ⟨fun hh => (g5.1 hh).2, fun hv => ?_⟩
    exact absurd (hold.2 hv).2 hn4
   ·have hnd : ¬ Desc l i k := fun h => by
     rcases desc_parent ht h hs with h1 | h1
     ·exact hki h1
     ·exact hda h1
    have hkk := g3 k hnd
    have : (k ∈ ks') = (k ∈ ks) := propext hkk.2
    unfold viewT at hold ⊢
    rw [hka.1, hkk.1, this]
    exact hold
 ·have hdo : doHandle l (perf l (ordT l) (up l) l.length) (up l) i e t = t := by
   unfold doHandle
   simp only
   rw [if_neg hE]
  rw [hdo]
  exact ⟨ks, ⟨h.len, h.inv, h.q, fun a c' k hs => (hl a c' k hs).2⟩, fun _ => Mono.refl _ _ _⟩
theorem run_dueW {l : List Spec} (ht : TreeOk l) {tm : Int} {t : Tree} {ks : List Nat} (h : TreeW l tm t ks) {d : Due} {r : List Due} (hq : t.q = d :: r) :
  ∃ k ks0, ks = k :: ks0 ∧ 1 ≤ k ∧ k < l.length ∧ k ∉ ks0 ∧ d.sup = ((up l k).1 : Int) ∧ (up l k).1 < l.length ∧ ∃ ks', TreeW l tm (handleT l (up l k).1 d.e { t with q := r }) ks' ∧ Mono l { t with q := r } ks0 (handleT l (up l k).1 d.e { t with q := r }) ks' := by
 have hmap := h.q.map
 rw [hq] at hmap
 obtain ⟨k, ks0, rfl⟩ : ∃ k ks0, ks = k :: ks0 := by
  cases ks with
  | nil => simp at hmap
  | cons k ks0 => exact ⟨k, ks0, rfl⟩
 simp only [List.map_cons, List.cons.injEq, Prod.mk.injEq] at hmap
 obtain ⟨⟨d1, d2, d3, d4⟩, hrest⟩ := hmap
 have hkr := h.q.range k (by simp)
 have hnd := List.nodup_cons.1 h.q.nodup
 have hsub := up_sub ht hkr
 have hiL := (hsub.lt ht).1
 have hil : (up l k).1 < l.length := by omega
 have hst := (h.link _ _ _ hsub).1 (by simp)
 have hex : exOf d.e = some (up l k).2 := by unfold exOf; rw [if_pos d2, d3]; simp
 have hq0 : QOk l tm r ks0 := ⟨hrest, fun x hx => h.q.val x (by rw [hq]; simp [hx]), hnd.2, fun x hx => h.q.range x (by simp [hx])⟩
 obtain ⟨ks', g1, g2⟩ := run_anyW ht (t := { t with q := r }) (ks := ks0) hil ⟨h.len, h.inv, hq0⟩ d4 (fun a c' k' hs => by
  refine ⟨?_, ?_⟩
  ·rintro ⟨rfl, hc⟩
   rw [hex] at hc
   cases hc
   have := sub_fun hsub hs
   subst this
   exact ⟨hnd.1, hst⟩
  ·obtain ⟨o1, o2⟩ := h.link a c' k' hs
   exact ⟨fun hh => o1 (List.mem_cons_of_mem _ hh), fun hv => ⟨fun hh => (o2 hv).1 (List.mem_cons_of_mem _ hh), (o2 hv).2⟩⟩)
 exact ⟨k, ks0, rfl, hkr.1, hkr.2, hnd.1, d1, hil, ks', g1, g2 (fun c hc hw => by
  rw [hex] at hc
  cases hc
  obtain ⟨_, ch, h1, h2⟩ := hw
  obtain ⟨_, ch', h3, h4⟩ := hsub
  rw [h1] at h3; cases h3
  omega)⟩
theorem stopped_belowW {l : List Spec} {tm : Int} {t : Tree} {ks : List Nat} (h : TreeW l tm t ks) {k i : Nat} (h4 : (sAt t k).status = 4) (hd : Desc l k i) : (sAt t i).status = 4 := by
 induction hd with
 | refl => exact h4
 | step hd' hs ih =>
  obtain ⟨hi, ch, hch, _⟩ := id hs
  have hlen := (h.inv _ hi).len
  have hcl := (gEs.1 hch).1
  simp only [runOf] at hlen
  have hv := views_done (h.inv _ hi) ih _ _ (gEg (by rw [hlen]; exact hcl))
  refine ((h.link _ _ _ hs).2 (.inl ?_)).2
  unfold viewT
  rw [gEd, gEg (by rw [hlen]; exact hcl)]
  exact hv
theorem not_aliveW {l : List Spec} {tm : Int} {t : Tree} {ks : List Nat} (h : TreeW l tm t ks) {k : Nat} (h4 : (sAt t k).status = 4) : ¬ AliveT l t k := by
 rintro ⟨i, c, hd, ⟨hi, ch, hch, _⟩, hv⟩
 simp only at hi hch
 have hlen := (h.inv i hi).len
 have hcl := (gEs.1 hch).1
 simp only [runOf] at hlen
 have h3 := views_done (h.inv i hi) (stopped_belowW h h4 hd) c _ (gEg (by rw [hlen]; exact hcl))
 unfold viewT at hv
 rw [gEd, gEg (by rw [hlen]; exact hcl)] at hv
 simp only [Option.getD_some] at hv
 omega
theorem due_stoppedW {l : List Spec} (ht : TreeOk l) {tm : Int} {t : Tree} {ks : List Nat} (h : TreeW l tm t ks) {k : Nat} (hk : k ∈ ks) : (sAt t k).status = 4 := by
 obtain ⟨i, c, hs⟩ := ht.parent (h.q.range k hk)
 exact (h.link i c k hs).1 hk
theorem wtK_leW {l : List Spec} (ht : TreeOk l) {tm : Int} {t t' : Tree} {ks ks' : List Nat} (h : TreeW l tm t' ks') (hm : Mono l t ks t' ks') (k : Nat) : wtK l t' ks' k ≤ wtK l t ks k := by
 unfold wtK
 by_cases h1 : (sAt t' k).status ≠ 4 ∧ ¬ AliveT l t' k
 ·have h2 : (sAt t k).status ≠ 4 ∧ ¬ AliveT l t k := ⟨fun e => by
   rcases hm.stop k e with h3 | h3
   ·exact h1.1 h3
   ·exact h1.2 h3, fun e => h1.2 (hm.alive e)⟩
  rw [if_pos h1, if_pos h2]; exact Nat.le_refl _
 ·rw [if_neg h1]
  by_cases hk : k ∈ ks'
  ·rw [if_pos hk]
   have hna := not_aliveW h (due_stoppedW ht h hk)
   by_cases h2 : (sAt t k).status ≠ 4 ∧ ¬ AliveT l t k
   ·rw [if_pos h2]; omega
   ·rw [if_neg h2]
    rcases hm.due k hk with h3 | h3 | h3
    ·rw [if_pos h3]; exact Nat.le_refl _
    ·exact absurd ⟨h3, fun e => hna (hm.alive e)⟩ h2
    ·exact absurd h3 hna
  ·rw [if_neg hk]; exact Nat.zero_le _
theorem wtT_ltW {l : List Spec} (ht : TreeOk l) {tm : Int} {t t0 t' : Tree} {k : Nat} {ks0 ks' : List Nat} (h : TreeW l tm t (k :: ks0)) (hss : t0.ss = t.ss) (h' : TreeW l tm t' ks') (hm : Mono l t0 ks0 t' ks') : wtT l t' ks' < wtT l t (k :: ks0) := by
 have hs : ∀ j, sAt t0 j = sAt t j := fun j => by unfold sAt; rw [hss]
 have hal : ∀ j, AliveT l t0 j ↔ AliveT l t j := fun j => by
  unfold AliveT LiveW viewT
  simp only [hs]
 have hw : ∀ j, wtK l t0 ks0 j ≤ wtK l t (k :: ks0) j := fun j => by
  unfold wtK
  rw [hs, propext (hal j)]
  split
  ·exact Nat.le_refl _
  ·by_cases hj : j ∈ ks0
   ·rw [if_pos hj, if_pos (List.mem_cons_of_mem _ hj)]; exact Nat.le_refl _
   ·rw [if_neg hj]; exact Nat.zero_le _
 have hkr := h.q.range k (by simp)
 refine sum_lt (k := k) (fun j => Nat.le_trans (wtK_leW ht h' hm j) (hw j)) hkr.2 ?_
 refine Nat.lt_of_le_of_lt (wtK_leW ht h' hm k) ?_
 have h4 := due_stoppedW ht h (k := k) (by simp)
 have hn : k ∉ ks0 := (List.nodup_cons.1 h.q.nodup).1
 unfold wtK
 have e1 : ¬ ((sAt t k).status ≠ 4 ∧ ¬ AliveT l t0 k) := fun hh => hh.1 h4
 have e2 : ¬ ((sAt t k).status ≠ 4 ∧ ¬ AliveT l t k) := fun hh => hh.1 h4
 rw [hs, if_neg e1, if_neg e2, if_neg hn, if_pos (by simp)]
 omega
theorem qlenW {l : List Spec} {tm : Int} {t : Tree} {ks : List Nat} (h : TreeW l tm t ks) : t.q.length ≤ l.length := by
 have h1 := congrArg List.length h.q.map
 simp only [List.length_map] at h1
 rw [h1]
 have := nodup_le ks (List.range l.length) h.q.nodup (fun x hx => by rw [List.mem_range]; exact (h.q.range x hx).2)
 rwa [List.length_range] at this
theorem run_drainsW {l : List Spec} (ht : TreeOk l) {tm : Int} : ∀ (w : Nat) (t : Tree) (ks : List Nat), wtT l t ks ≤ w → TreeW l tm t ks → t.out.length + 129 * w ≤ 1000000 → ∃ t', Drains l t t' ∧ TreeW l tm t' [] ∧ t'.out.length ≤ t.out.length + 129 * w := by
 intro w
 induction w with
 | zero =>
  intro t ks hw h ho
  cases hq : t.q with
  | nil =>
   have hks : ks = [] := by
    have := h.q.map
    rw [hq] at this
    simpa using this.symm
   subst hks
   exact ⟨t, .done hq, h, by omega⟩
  | cons d r =>
   exfalso
   obtain ⟨k, ks0, rfl, h2, h3, h4, h5, h6, ks', g1, g2⟩ := run_dueW ht h hq
   have := wtT_ltW ht (t0 := { t with q := r }) h rfl g1 g2
   omega
 | succ w ih =>
  intro t ks hw h ho
  cases hq : t.q with
  | nil =>
   have hks : ks = [] := by
    have := h.q.map
    rw [hq] at this
    simpa using this.symm
   subst hks
   exact ⟨t, .done hq, h, by omega⟩
  | cons d r =>
   obtain ⟨k, ks0, rfl, h2, h3, h4, h5, h6, ks', g1, g2⟩ := run_dueW ht h hq
   have hlt := wtT_ltW ht (t0 := { t with q := r }) h rfl g1 g2
   have hlen := handle_len ht h6 d.e { t with q := r }
   have hql := qlenW g1
   have hl8 := ht.len.2
   simp only at hlen
   obtain ⟨t', k1, k2, k3⟩ := ih _ ks' (by omega) g1 (by omega)
   exact ⟨t', .step d r _ hq h5 h6 (by omega) (by omega) k1, k2, by omega⟩
theorem treeW_of {l : List Spec} (ht : TreeOk l) {ss : List State} (hv : validT l ss = true) (tm : Int) : TreeW l tm (tOf ss) [] := by
 unfold validT at hv
 simp only [Bool.and_eq_true, decide_eq_true_eq] at hv
 obtain ⟨⟨h1, h2⟩, h3⟩ := hv
 refine ⟨h1.symm, fun k hk => ?_, ⟨rfl, fun d hd => (by cases hd), List.nodup_nil, fun k hk => by cases hk⟩, fun a c k hs => ?_⟩
 ·have hx := gEg hk
  unfold valid1 at h2
  have := List.all_eq_true.1 h2 (l[k], k) (List.mem_zipIdx_iff_getElem?.2 hx)
  simp only at this
  have e : l.getD k default = l[k] := by rw [gEd, hx]; rfl
  rw [e]
  exact (valid_inv this).mono (by omega)
 ·obtain ⟨ha, ch, hch, hsub⟩ := hs
  have hx := gEg ha
  unfold valid2 at h3
  have h4 := List.all_eq_true.1 h3 (l[a], a) (List.mem_zipIdx_iff_getElem?.2 hx)
  unfold valid2X at h4
  rw [kids_of hx] at hch
  have h5 := List.all_eq_true.1 h4 (ch, c) (List.mem_zipIdx_iff_getElem?.2 hch)
  unfold valid2C at h5
  simp only [Bool.or_eq_true, decide_eq_true_eq] at h5
  have h6 := h5.resolve_left (by omega)
  have e : ch.sub.toNat = k := by omega
  rw [e] at h6
  refine ⟨fun h => (by cases h), fun hvv => ⟨by simp, ?_⟩⟩
  unfold viewT sAt at hvv
  unfold sAt
  simp only at hvv ⊢
  unfold fitsU at h6
  rw [if_neg (by omega), if_neg (by omega)] at h6
  simpa using h6
theorem drainsW {l : List Spec} (ht : TreeOk l) {ss : List State} (hv : validT l ss = true) {i : Nat} (hi : i < l.length) {e : Event} (hx : ∀ c k, exOf e = some c → ¬ SubAt l i c k) : ∃ t', Drains l ⟨ss, [], [⟨i, e⟩]⟩ t' ∧ TreeW l e.time t' [] ∧ t'.out.length ≤ 3000 := by
 have h := treeW_of ht hv e.time
 obtain ⟨ks', g1, _⟩ := run_anyW ht (t := tOf ss) (ks := []) hi ⟨h.len, h.inv, h.q⟩ (e := e) rfl (fun a c' k hs => ⟨by rintro ⟨rfl, hc⟩; exact absurd hs (hx c' k hc), h.link a c' k hs⟩)
 have hlen := handle_len ht hi e (tOf ss)
 have hql := qlenW g1
 have hl8 := ht.len.2
 simp only [List.length_nil] at hlen
 obtain ⟨t', k1, k2, k3⟩ := run_drainsW ht 16 _ ks' (wtT_le ht _ _) g1 (by omega)
 refine ⟨t', .step ⟨i, e⟩ [] i rfl rfl hi ?_ ?_ k1, k2, by omega⟩
 ·show (handleT l i e (tOf ss)).out.length ≤ _
  omega
 ·show (handleT l i e (tOf ss)).q.length ≤ _
  omega
end
end Go.Proofs.YtjknjapdcphcfaaGreat
