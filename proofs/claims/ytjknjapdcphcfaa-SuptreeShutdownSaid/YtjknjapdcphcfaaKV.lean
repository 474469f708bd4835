/-
  Trees that run: after a request to stop (conditions: none). How often children are started: what an event counts (conditions: none). How often workers are started: in a tree (conditions: none). Searches in lists of events and of states; lists that are given away (conditions: none). The law SuptreeShutdown: what happens before, and the workers that end afterwards (conditions: none). The law SuptreeShutdown: it is true (conditions: readings of the arguments). Counts: how often the workers were started, as the program lists it (conditions: none). The law SuptreeCounts: what is counted, in plain words (conditions: none). The law SuptreeCounts: it is true (conditions: readings of the arguments). The law SuptreeCounts: it is true (conditions: readings of the arguments). Workers in a tree that runs: started only if they do not run, stopped only if they run (conditions: none). The law SuptreeWorkers: its lists, and the loop over the actions (conditions: none). The law SuptreeWorkers: a round of its loop (conditions: none). The law SuptreeWorkers: it is true (conditions: readings of the arguments).
-/
import Derived.Test.YtjknjapdcphcfaaKE
namespace Go.Proofs.Ytjknjapdcphcfaa
section
open Go Go.RowKit
set_option linter.unusedVariables false
set_option linter.unusedSimpArgs false
set_option maxRecDepth 10000
set_option maxHeartbeats 1000000

/-- Below a stopping supervisor all are stopping, or have stopped. -/
theorem stopping_all {l : List Spec} (ht : TreeOk l) {tm m : Int} {t : Tree} {ks : List Nat} (h : TreeGo l tm m t ks) (h0 : (sAt t 0).status = 3 ∨ (sAt t 0).status = 4) : ∀ k, k < l.length → (sAt t k).status = 3 ∨ (sAt t k).status = 4 := by
  intro k hk
  have hd := desc_root ht k hk
  induction hd with
  | refl => exact h0
  | @step i c j hd' hs ih =>
    have hi := hs.1
    obtain ⟨_, ch, hch, hsub⟩ := id hs
    have hcl := (List.getElem?_eq_some_iff.1 hch).1
    rcases ih hi with h3 | h4
    · have hlen : (sAt t i).children.l.length = (l.getD i default).children.l.length := (h.inv i hi).len
      have hcs : c < (sAt t i).children.l.length := by rw [hlen]; exact hcl
      have hview : viewT t i c = (sAt t i).children.l[c].status := by
        unfold viewT
        rw [List.getD_eq_getElem?_getD, List.getElem?_eq_getElem hcs]; rfl
      have hok := (h.inv i hi).ok c _ (List.getElem?_eq_getElem hcs)
      have hfit := (h.inv i hi).fit
      simp only [runOf] at hfit
      have hv : viewT t i c = 2 ∨ viewT t i c = 3 := by
        rcases hfit with ⟨a, _⟩ | ⟨a, _⟩ | ⟨_, _, b, d⟩ | ⟨a, _⟩
        · omega
        · omega
        · have h1 : (sAt t i).children.l[c].status ≠ 1 := fun e => b ⟨c, _, List.getElem?_eq_getElem hcs, e⟩
          have h4 : (sAt t i).children.l[c].status ≠ 4 := fun e => d ⟨c, _, List.getElem?_eq_getElem hcs, e⟩
          omega
        · omega
      have hl := h.link i c j hs
      rcases hl with ⟨h1, _⟩ | ⟨_, ⟨_, h2⟩ | ⟨_, h2⟩⟩ | ⟨_, _, h2⟩
      · omega
      · exact .inr h2
      · exact .inl h2
      · exact .inr h2
    · exact .inr (stopped_below h h4 (.step .refl hs))
/-- What a stopping supervisor does. -/
theorem stopping_way {x : Spec} {m : Int} {s : State} {e : Event} (hi : Inv x m (runOf s)) (hc : checkN x s e = 0) (h3 : s.status = 3) : (∀ a ∈ (handleR x s e).out, a.kind = 5) ∧ ((handleR x s e).st = 3 ∨ (handleR x s e).st = 4) ∧ (handleR x s e).fl = s.failed ∧ (s.failed = false → (handleR x s e).out = []) := by
  have hw := handle_way hi hc
  generalize handleR x s e = r at *
  cases hw with
  | quiet n c ch h hs hq hr hst hf => omega
  | fail n c ch h hs hq hi' hr hst hf => omega
  | again n c ch h hs hq hi' hz hr hst hf => omega
  | hold n c ch h hs hq hi' hz hr hst hf => omega
  | wait n c ch h hs hz hr hst =>
    have h1 : r.st = s.status := by rw [hr]; unfold stopping1; rw [setS_st]; rfl
    have ho : r.out = [] := by rw [hr]; unfold stopping1; rw [setS_out]; rfl
    exact ⟨fun a ha => (by rw [ho] at ha; cases ha), .inl (h1.trans h3), by rw [hr]; unfold stopping1; rw [setS_fl]; rfl, fun _ => ho⟩
  | wake n c ch h hs hz hr hst hf => omega
  | done n c ch h hs hz hr hst =>
    obtain ⟨s1, _, s3, _, s5⟩ := stopped_rest e.time (stopping1 n ch (runOf s))
    have ho : r.out = (if (stopping1 n ch (runOf s)).fl = true then [(⟨5, -1, 0, e.time⟩ : Event)] else []) := by
      rw [hr, s5]; unfold stopping1; rw [setS_out]; rfl
    have hfl : (stopping1 n ch (runOf s)).fl = s.failed := by unfold stopping1; rw [setS_fl]; rfl
    exact ⟨fun a ha => by rw [ho] at ha; rw [esc_kind ha], .inr (by rw [hr]; exact s1), by rw [hr, s3]; exact hfl, fun hf => by rw [ho, hfl, hf]; rfl⟩
  | asked hk hr hst hf => omega
  | still hk hr hst =>
    have h1 : r.st = s.status := by rw [hr]; rfl
    exact ⟨fun a ha => (by rw [hr] at ha; cases ha), .inl (h1.trans h3), (by rw [hr]; rfl), fun _ => (by rw [hr]; rfl)⟩
theorem perf_esc {l : List Spec} (o : List (Nat × Nat)) (u : Nat → Nat × Nat) : ∀ (d i : Nat) (acts : List Event) (t : Tree), (∀ a ∈ acts, a.kind = 5) → (perf l o u d i acts t).ss = t.ss ∧ (perf l o u d i acts t).q = t.q ∧ (∀ a ∈ (perf l o u d i acts t).out, a ∈ t.out ∨ a.kind = 5) ∧ ((i ≠ 0 ∨ acts = []) → (perf l o u d i acts t).out = t.out) := by
  intro d i acts
  cases d with
  | zero => intro t _; exact ⟨rfl, rfl, fun a h => .inl h, fun _ => rfl⟩
  | succ d =>
    induction acts with
    | nil => intro t _; exact ⟨rfl, rfl, fun a h => .inl h, fun _ => rfl⟩
    | cons a r ih =>
      intro t ha
      obtain ⟨h1, h2, h3, h4⟩ := ih (doAct l o u (perf l o u d) i t a) (fun b hb => ha b (by simp [hb]))
      have h5 := ha a (by simp)
      have e : doAct l o u (perf l o u d) i t a = if i = 0 then { t with out := t.out ++ [a] } else t := by
        unfold doAct; rw [if_pos h5]
      have hss : (doAct l o u (perf l o u d) i t a).ss = t.ss ∧ (doAct l o u (perf l o u d) i t a).q = t.q ∧ ∀ b ∈ (doAct l o u (perf l o u d) i t a).out, b ∈ t.out ∨ b.kind = 5 := by
        rw [e]
        split
        · refine ⟨rfl, rfl, fun b hb => ?_⟩
          rcases List.mem_append.1 hb with hb | hb
          · exact .inl hb
          · simp only [List.mem_singleton] at hb; subst hb; exact .inr h5
        · exact ⟨rfl, rfl, fun b hb => .inl hb⟩
      refine ⟨h1.trans hss.1, h2.trans hss.2.1, fun b hb => ?_, fun hh => ?_⟩
      rotate_left
      · rcases hh with hh | hh
        · have e2 : doAct l o u (perf l o u d) i t a = t := by rw [e, if_neg hh]
          rw [e2] at h4
          exact (congrArg Tree.out (congrArg (fun t' => r.foldl (doAct l o u (perf l o u d) i) t') e2)).trans (h4 (.inl hh))
        · cases hh
      rcases h3 b hb with h | h
      · exact hss.2.2 b h
      · exact .inr h
/-- An event at a stopping supervisor of a tree. -/
theorem handle_stopping {l : List Spec} {tm m : Int} {i : Nat} (hi : i < l.length) {e : Event} {t : Tree} (hlen : t.ss.length = l.length) (hinv : Inv (l.getD i default) m (runOf (sAt t i))) (hst : (sAt t i).status = 3 ∨ (sAt t i).status = 4) :
    (∀ a ∈ (handleT l i e t).out, a ∈ t.out ∨ a.kind = 5) ∧ (∀ k, k ≠ i → sAt (handleT l i e t) k = sAt t k) ∧ ((sAt (handleT l i e t) i).status = 3 ∨ (sAt (handleT l i e t) i).status = 4) ∧
    (∀ c, c < (kids l i).length → viewT (handleT l i e t) i c = 1 ∨ viewT (handleT l i e t) i c = 2 → (viewT t i c = 1 ∨ viewT t i c = 2) ∧ (handleE (l.getD i default) (sAt t i) e = 0 → exOf e ≠ some c)) ∧
    (sAt (handleT l i e t) i).failed = (sAt t i).failed ∧ ((i ≠ 0 ∨ (sAt t i).failed = false) → (handleT l i e t).out = t.out) := by
  rw [show handleT l i e t = doHandle l (perfA l) (up l) i e t from rfl]
  unfold doHandle
  simp only
  by_cases hE : handleE (l.getD i default) (sAt t i) e = 0
  · rw [if_pos hE]
    have hc := (handleE_check hE).2
    have hw := handle_way hinv hc
    have h3 : (sAt t i).status = 3 := by
      rcases hst with h | h
      · exact h
      · exact absurd h (handle_not4 hw)
    obtain ⟨w1, w2, w3, w4⟩ := stopping_way hinv hc h3
    have hsum := hsum_handle hinv hw
    have hE' : handleE (l.getD i default) (t.ss.getD i default) e = 0 := hE
    generalize hrr : handleR (l.getD i default) (t.ss.getD i default) e = r
    have hrr' : handleR (l.getD i default) (sAt t i) e = r := hrr
    rw [hrr'] at w1 w2 w3 w4 hsum
    obtain ⟨p1, p2, p3, p4⟩ := perf_esc (ordT l) (up l) l.length i r.out { t with ss := t.ss.set i (mkS r) } w1
    rw [show perf l (ordT l) (up l) l.length = perfA l from rfl] at p1 p2 p3 p4
    generalize perfA l i r.out { t with ss := t.ss.set i (mkS r) } = T at *
    have hset := sAt_set (t := t) (s := mkS r) (by rw [hlen]; exact hi : i < t.ss.length)
    have hT : ∀ k, sAt T k = if k = i then mkS r else sAt t k := fun k => by
      rw [← hset k]; unfold sAt; rw [p1]
    have fin : ∀ T' : Tree, T'.ss = T.ss → T'.out = T.out → (∀ a ∈ T'.out, a ∈ t.out ∨ a.kind = 5) ∧ (∀ k, k ≠ i → sAt T' k = sAt t k) ∧ ((sAt T' i).status = 3 ∨ (sAt T' i).status = 4) ∧
        (∀ c, c < (kids l i).length → viewT T' i c = 1 ∨ viewT T' i c = 2 → (viewT t i c = 1 ∨ viewT t i c = 2) ∧ (handleE (l.getD i default) (sAt t i) e = 0 → exOf e ≠ some c)) ∧
        (sAt T' i).failed = (sAt t i).failed ∧ ((i ≠ 0 ∨ (sAt t i).failed = false) → T'.out = t.out) := by
      intro T' e1 e2
      have hT' : ∀ k, sAt T' k = if k = i then mkS r else sAt t k := fun k => by rw [← hT k]; unfold sAt; rw [e1]
      refine ⟨by rw [e2]; exact p3, fun k hk => by rw [hT', if_neg hk], ?_, fun c hc' hv => ?_, by rw [hT', if_pos rfl]; exact w3, fun hh => by rw [e2]; exact p4 (hh.imp id w4)⟩
      · rw [hT', if_pos rfl]; exact w2
      · have hlen' : (sAt t i).children.l.length = (kids l i).length := hinv.len
        have hcs : c < (sAt t i).children.l.length := by omega
        obtain ⟨v', g1, g2⟩ := hsum.child c _ (List.getElem?_eq_getElem hcs)
        have hold : viewT t i c = (sAt t i).children.l[c].status := by
          unfold viewT
          rw [List.getD_eq_getElem?_getD, List.getElem?_eq_getElem hcs]; rfl
        have hnew : viewT T' i c = v'.status := by
          unfold viewT
          rw [hT', if_pos rfl]
          show ((r.cs).getD c default).status = _
          rw [List.getD_eq_getElem?_getD, g1]; rfl
        rw [hnew] at hv
        rw [hold]
        have hp : pendA r.out c = .no := pendA_no (fun a ha _ => by rw [w1 a ha]; exact ⟨by decide, by decide⟩)
        rw [hp] at g2
        rcases g2 with ⟨q1, q2, _⟩ | ⟨_, q2, _⟩ | ⟨_, _, _, q2⟩ | ⟨q1, _, _⟩
        · rw [q2] at hv
          exact ⟨hv, fun _ => q1⟩
        · cases q2
        · cases q2
        · omega
    split
    · exact fin _ rfl rfl
    · exact fin _ rfl rfl
  · rw [if_neg hE]
    exact ⟨fun a h => .inl h, fun _ _ => rfl, hst, fun c _ h => ⟨h, fun h0 => absurd h0 hE⟩, rfl, fun _ => rfl⟩
/-- Asked to stop, nothing is started. -/
theorem asked_kind {x : Spec} {s : State} {tm : Int} (hE : handleE x s ⟨2, -1, 0, tm⟩ = 0) : ∀ a ∈ (handleR x s ⟨2, -1, 0, tm⟩).out, a.kind ≠ 3 := by
  obtain ⟨hv, hc⟩ := handleE_check hE
  have hi := valid_inv hv
  have hw := handle_way hi hc
  generalize handleR x s ⟨2, -1, 0, tm⟩ = r at *
  cases hw with
  | asked hk hr hst hf =>
    intro a ha
    rw [hr, shut_out] at ha
    rcases List.mem_append.1 ha with ha | ha
    · rcases List.mem_append.1 ha with ha | ha
      · cases ha
      · rw [stopOut_kind _ _ _ a ha]; decide
    · rw [esc_kind ha]; show (5 : Int) ≠ 3; decide
  | still hk hr hst =>
    intro a ha
    rw [hr] at ha; cases ha
  | quiet n c ch h hs hq hr hst hf => have := h.kind; simp at this
  | fail n c ch h hs hq hi hr hst hf => have := h.kind; simp at this
  | again n c ch h hs hq hi hz hr hst hf => have := h.kind; simp at this
  | hold n c ch h hs hq hi hz hr hst hf => have := h.kind; simp at this
  | wait n c ch h hs hz hr hst => have := h.kind; simp at this
  | wake n c ch h hs hz hr hst hf => have := h.kind; simp at this
  | done n c ch h hs hz hr hst => have := h.kind; simp at this
theorem perf_nostart {l : List Spec} (o : List (Nat × Nat)) (u : Nat → Nat × Nat) : ∀ (d i : Nat) (acts : List Event) (t : Tree), (∀ a ∈ acts, a.kind ≠ 3) → ∀ a ∈ (perf l o u d i acts t).out, a ∈ t.out ∨ a.kind ≠ 3 := by
  intro d
  induction d with
  | zero => intro i acts t _ a h; exact .inl h
  | succ d ih =>
    intro i acts
    induction acts with
    | nil => intro t _ a h; exact .inl h
    | cons a r ihr =>
      intro t ha b hb
      have h3 := ha a (by simp)
      have one : ∀ b ∈ (doAct l o u (perf l o u d) i t a).out, b ∈ t.out ∨ b.kind ≠ 3 := by
        intro b hb
        unfold doAct at hb
        split at hb
        · split at hb
          · rcases List.mem_append.1 hb with hb | hb
            · exact .inl hb
            · simp only [List.mem_singleton] at hb; subst hb; exact .inr h3
          · exact .inl hb
        · simp only at hb
          split at hb
          · rcases List.mem_append.1 hb with hb | hb
            · exact .inl hb
            · simp only [List.mem_singleton] at hb; subst hb; exact .inr h3
          · unfold doHandle at hb
            simp only at hb
            split at hb
            · rename_i hE
              have := ih ((kids l i).getD a.child.toNat default).sub.toNat _ { t with ss := t.ss.set ((kids l i).getD a.child.toNat default).sub.toNat (mkS (handleR (l.getD ((kids l i).getD a.child.toNat default).sub.toNat default) (t.ss.getD ((kids l i).getD a.child.toNat default).sub.toNat default) ⟨2, -1, 0, a.time⟩)) } (asked_kind hE) b
              split at hb
              · exact this hb
              · exact this hb
            · exact .inl hb
      rcases ihr (doAct l o u (perf l o u d) i t a) (fun b hb => ha b (by simp [hb])) b hb with h | h
      · exact one b h
      · exact .inr h
theorem asked_nostart {l : List Spec} (tm : Int) (t : Tree) : ∀ a ∈ (handleT l 0 ⟨2, -1, 0, tm⟩ t).out, a ∈ t.out ∨ a.kind ≠ 3 := by
  intro b hb
  rw [show handleT l 0 ⟨2, -1, 0, tm⟩ t = doHandle l (perf l (ordT l) (up l) l.length) (up l) 0 ⟨2, -1, 0, tm⟩ t from rfl] at hb
  unfold doHandle at hb
  simp only at hb
  split at hb
  · rename_i hE
    have := perf_nostart (l := l) (ordT l) (up l) l.length 0 _ { t with ss := t.ss.set 0 (mkS (handleR (l.getD 0 default) (t.ss.getD 0 default) ⟨2, -1, 0, tm⟩)) } (asked_kind hE) b
    split at hb
    · exact this hb
    · exact this hb
  · exact .inl hb
theorem asked_st {x : Spec} {s : State} {tm : Int} (hE : handleE x s ⟨2, -1, 0, tm⟩ = 0) : (handleR x s ⟨2, -1, 0, tm⟩).st = 3 ∨ (handleR x s ⟨2, -1, 0, tm⟩).st = 4 := by
  obtain ⟨hv, hc⟩ := handleE_check hE
  have hi := valid_inv hv
  have hw := handle_way hi hc
  generalize handleR x s ⟨2, -1, 0, tm⟩ = r at *
  cases hw with
  | asked hk hr hst hf => rw [hr]; exact shut_st _ _
  | still hk hr hst => rw [hr]; exact .inl hst
  | quiet n c ch h hs hq hr hst hf => have := h.kind; simp at this
  | fail n c ch h hs hq hi hr hst hf => have := h.kind; simp at this
  | again n c ch h hs hq hi hz hr hst hf => have := h.kind; simp at this
  | hold n c ch h hs hq hi hz hr hst hf => have := h.kind; simp at this
  | wait n c ch h hs hz hr hst => have := h.kind; simp at this
  | wake n c ch h hs hz hr hst hf => have := h.kind; simp at this
  | done n c ch h hs hz hr hst => have := h.kind; simp at this
/-- The root stops; nothing was started; of the workers only some of these live. f: has the root failed? -/
structure ShutP (l : List Spec) (f : Bool) (L : Nat → Nat → Prop) (t : Tree) (ks : List Nat) : Prop where
  st : (sAt t 0).status = 3 ∨ (sAt t 0).status = 4
  out : ∀ a ∈ t.out, a.kind ≠ 3
  live : ∀ i c, LiveW l t i c → L i c
  fl : (sAt t 0).failed = f
  no : f = false → t.out = []
theorem shut_handle {l : List Spec} (ht : TreeOk l) {tm m : Int} {t : Tree} {f : Bool} {L : Nat → Nat → Prop} (hlen : t.ss.length = l.length) (hinv : ∀ k, k < l.length → Inv (l.getD k default) m (runOf (sAt t k))) (hst : ∀ k, k < l.length → (sAt t k).status = 3 ∨ (sAt t k).status = 4) (ho : ∀ a ∈ t.out, a.kind ≠ 3) (hfl : (sAt t 0).failed = f) (hno : f = false → t.out = []) {i : Nat} (hi : i < l.length) (e : Event)
    (hl : ∀ j c, LiveW l t j c → (j = i → handleE (l.getD i default) (sAt t i) e = 0 → exOf e ≠ some c) → L j c) (ks' : List Nat) : ShutP l f L (handleT l i e t) ks' := by
  obtain ⟨g1, g2, g3, g4, g5, g6⟩ := handle_stopping hi (e := e) hlen (hinv i hi) (hst i hi) (tm := tm)
  refine ⟨?_, fun a ha => ?_, fun j c hlv => ?_, ?_, fun hf => ?_⟩
  · by_cases h0 : i = 0
    · subst h0; exact g3
    · rw [g2 0 (fun h => h0 h.symm)]; exact hst 0 (by have := ht.len.1; omega)
  · rcases g1 a ha with h | h
    · exact ho a h
    · rw [h]; decide
  · by_cases hji : j = i
    · subst hji
      obtain ⟨_, ch, hch, _⟩ := id hlv.1
      obtain ⟨k1, k2⟩ := g4 c (List.getElem?_eq_some_iff.1 hch).1 hlv.2
      exact hl j c ⟨hlv.1, k1⟩ (fun _ => k2)
    · refine hl j c ⟨hlv.1, ?_⟩ (fun h => absurd h hji)
      have := hlv.2
      unfold viewT at this ⊢
      rw [g2 j hji] at this
      exact this
  · by_cases h0 : i = 0
    · subst h0; exact g5.trans hfl
    · rw [g2 0 (fun h => h0 h.symm)]; exact hfl
  · rw [g6 ?_, hno hf]
    by_cases h0 : i = 0
    · subst h0; exact .inr (hfl.trans hf)
    · exact .inl h0
theorem shut_kept {l : List Spec} (ht : TreeOk l) (tm : Int) (f : Bool) (L : Nat → Nat → Prop) : KeptBy l tm (ShutP l f L) := by
  intro m t d r k ks0 ks' hm h hq h1 h2 h3 h4 hp g1 g2
  have h0 := stopping_all ht h hp.st
  have hst : ∀ k, k < l.length → (sAt { t with q := r } k).status = 3 ∨ (sAt { t with q := r } k).status = 4 := h0
  exact shut_handle ht (tm := tm) (m := m) (t := { t with q := r }) h.len h.inv hst hp.out hp.fl hp.no h4 d.e (fun j c hlv _ => hp.live j c hlv) ks'
/-- The root has been asked to stop. -/
structure StopP (l : List Spec) (t : Tree) (ks : List Nat) : Prop where
  st : (sAt t 0).status = 3 ∨ (sAt t 0).status = 4
  out : ∀ a ∈ t.out, a.kind ≠ 3
  no : (sAt t 0).failed = false ∨ (t.out = [] ∧ ks = [])
theorem stop_kept {l : List Spec} (ht : TreeOk l) (tm : Int) : KeptBy l tm (StopP l) := by
  intro m t d r k ks0 ks' hm h hq h1 h2 h3 h4 hp g1 g2
  have hf : (sAt t 0).failed = false := by
    rcases hp.no with h | ⟨_, h⟩
    · exact h
    · cases h
  have h0 := stopping_all ht h hp.st _ h4
  have hst : (sAt { t with q := r } (up l k).1).status = 3 ∨ (sAt { t with q := r } (up l k).1).status = 4 := h0
  obtain ⟨q1, q2, q3, _, q5, _⟩ := handle_stopping h4 (e := d.e) (t := { t with q := r }) h.len (h.inv _ h4) hst (tm := tm)
  refine ⟨?_, fun a ha => ?_, .inl ?_⟩
  · by_cases h0 : (up l k).1 = 0
    · rw [h0] at q3 ⊢; exact q3
    · rw [q2 0 (fun h => h0 h.symm)]; exact hp.st
  · rcases q1 a ha with h | h
    · exact hp.out a h
    · rw [h]; decide
  · by_cases h0 : (up l k).1 = 0
    · rw [h0] at q5 ⊢; exact q5.trans hf
    · rw [q2 0 (fun h => h0 h.symm)]; exact hf
theorem asked_fl {x : Spec} {s : State} {tm : Int} (hE : handleE x s ⟨2, -1, 0, tm⟩ = 0) : (handleR x s ⟨2, -1, 0, tm⟩).fl = false ∨ (handleR x s ⟨2, -1, 0, tm⟩).out = [] := by
  obtain ⟨hv, hc⟩ := handleE_check hE
  have hi := valid_inv hv
  have hw := handle_way hi hc
  generalize handleR x s ⟨2, -1, 0, tm⟩ = r at *
  cases hw with
  | asked hk hr hst hf => left; rw [hr, (shut_rest _ _).2]; exact hf
  | still hk hr hst => right; rw [hr]; rfl
  | quiet n c ch h hs hq hr hst hf => have := h.kind; simp at this
  | fail n c ch h hs hq hi hr hst hf => have := h.kind; simp at this
  | again n c ch h hs hq hi hz hr hst hf => have := h.kind; simp at this
  | hold n c ch h hs hq hi hz hr hst hf => have := h.kind; simp at this
  | wait n c ch h hs hz hr hst => have := h.kind; simp at this
  | wake n c ch h hs hz hr hst hf => have := h.kind; simp at this
  | done n c ch h hs hz hr hst => have := h.kind; simp at this
theorem stop_first {l : List Spec} (ht : TreeOk l) {tm m : Int} {ss : List State} (hE : handleE (l.getD 0 default) (ss.getD 0 default) ⟨2, -1, 0, tm⟩ = 0) : FirstBy l tm m ss 0 ⟨2, -1, 0, tm⟩ (StopP l) := by
  intro ks' g1 g2 g3
  refine ⟨?_, fun a ha => ?_, ?_⟩
  · rw [g3]; exact asked_st hE
  · rcases asked_nostart tm (tOf ss) a ha with h | h
    · cases h
    · exact h
  · rcases asked_fl hE with h | h
    · left; rw [g3]; exact h
    · right
      have e : (handleT l 0 ⟨2, -1, 0, tm⟩ (tOf ss)).out = [] ∧ (handleT l 0 ⟨2, -1, 0, tm⟩ (tOf ss)).q = [] := by
        rw [show handleT l 0 ⟨2, -1, 0, tm⟩ (tOf ss) = doHandle l (perf l (ordT l) (up l) l.length) (up l) 0 ⟨2, -1, 0, tm⟩ (tOf ss) from rfl]
        unfold doHandle
        simp only
        rw [if_pos hE, if_neg (fun hh => absurd hh.1 (by decide)), h]
        obtain ⟨_, p2, _, p4⟩ := perf_esc (ordT l) (up l) l.length 0 [] { tOf ss with ss := ss.set 0 (mkS (handleR (l.getD 0 default) (ss.getD 0 default) ⟨2, -1, 0, tm⟩)) } (fun a ha => by cases ha)
        exact ⟨p4 (.inr rfl), p2⟩
      refine ⟨e.1, ?_⟩
      have := g1.q.map
      rw [e.2] at this
      simpa using this.symm
/-- When nobody lives any more, all have stopped. -/
theorem all_stopped {l : List Spec} (ht : TreeOk l) {tm m : Int} {t : Tree} (h : TreeGo l tm m t []) (h0 : (sAt t 0).status = 3 ∨ (sAt t 0).status = 4) (hl : ∀ i c, ¬ LiveW l t i c) : ∀ k, k < l.length → (sAt t k).status = 4 := by
  have key : ∀ n k, l.length - k ≤ n → k < l.length → (sAt t k).status = 4 := by
    intro n
    induction n with
    | zero => intro k h1 h2; omega
    | succ n ih =>
      intro k h1 h2
      rcases stopping_all ht h h0 k h2 with h3 | h4
      · exfalso
        have hfit := (h.inv k h2).fit
        simp only [runOf] at hfit
        rcases hfit with ⟨a, _⟩ | ⟨a, _⟩ | ⟨_, ⟨c, v, hv, hv2⟩, _⟩ | ⟨a, _⟩
        · omega
        · omega
        · have hlen : (sAt t k).children.l.length = (kids l k).length := (h.inv k h2).len
          have hcl := (List.getElem?_eq_some_iff.1 hv).1
          obtain ⟨ch, hch⟩ : ∃ ch, (kids l k)[c]? = some ch := ⟨_, List.getElem?_eq_getElem (by omega)⟩
          have hview : viewT t k c = 2 := by
            unfold viewT
            rw [List.getD_eq_getElem?_getD, hv]; exact hv2
          rcases ht.sub k c ch h2 hch with hs | hs
          · exact hl k c ⟨⟨h2, ch, hch, hs⟩, .inr hview⟩
          · have hsub : SubAt l k c ch.sub.toNat := ⟨h2, ch, hch, by omega⟩
            have hlk := h.link _ _ _ hsub
            have h5 := ih ch.sub.toNat (by omega) (by omega)
            rw [hview] at hlk
            rcases hlk with ⟨a, _⟩ | ⟨_, ⟨b, _⟩ | ⟨_, b⟩⟩ | ⟨a, _⟩
            · omega
            · cases b
            · omega
            · omega
        · omega
      · exact h4
  exact fun k hk => key l.length k (by omega) hk
/-- A child that does not live exits: that is an error. -/
theorem exit_dead {x : Spec} (h0 : chk x = 0) {m : Int} (hm : m ≤ 1099511627776) {s : State} (hi : Inv x m (runOf s)) {c : Nat} {v : ChildState} (hv : s.children.l[c]? = some v) (h12 : ¬ (v.status = 1 ∨ v.status = 2)) {n : Int} (hn : reasonB n = true) {tm : Int} (ht : 0 ≤ tm ∧ tm ≤ 1099511627776) (hr : ∀ y ∈ s.restarts.l, y ≤ tm) : handleE x s ⟨1, c, n, tm⟩ = 17 := by
  have hc := (List.getElem?_eq_some_iff.1 hv).1
  have hlen : s.children.l.length = x.children.l.length := hi.len
  unfold handleE
  rw [if_pos (inv_valid h0 hm hi)]
  unfold checkN
  have hin : inR (c : Int) 0 ((x.children.l.length : Int) - 1) = true := by simp [inR]; omega
  have h1 : malB x ⟨1, c, n, tm⟩ = false := by simp [malB, hin, hn]; simp [inR, ht.1, ht.2]
  have h2 : staleB s ⟨1, c, n, tm⟩ = false := by
    unfold staleB
    split
    · rename_i y hy
      have := hr y (List.mem_of_getElem? hy)
      simp only [decide_eq_false_iff_not]; omega
    · rfl
  have h3 : deadB s ⟨1, c, n, tm⟩ = true := by
    unfold deadB
    rw [if_pos (by simp)]
    have e : ((c : Nat) : Int).toNat = c := by omega
    simp only [e, hv]
    simp; omega
  rw [if_neg (by simp), h1, h2, h3]
  simp
theorem asked_dead {x : Spec} (h0 : chk x = 0) {m : Int} (hm : m ≤ 1099511627776) {s : State} (hi : Inv x m (runOf s)) (h4 : s.status = 4) {tm : Int} (ht : 0 ≤ tm ∧ tm ≤ 1099511627776) (hr : ∀ y ∈ s.restarts.l, y ≤ tm) : handleE x s ⟨2, -1, 0, tm⟩ = 17 := by
  unfold handleE
  rw [if_pos (inv_valid h0 hm hi)]
  unfold checkN
  have h1 : malB x ⟨2, -1, 0, tm⟩ = false := by simp [malB, inR, ht.1, ht.2]
  have h2 : staleB s ⟨2, -1, 0, tm⟩ = false := by
    unfold staleB
    split
    · rename_i y hy
      have := hr y (List.mem_of_getElem? hy)
      simp only [decide_eq_false_iff_not]; omega
    · rfl
  have h3 : deadB s ⟨2, -1, 0, tm⟩ = true := by
    unfold deadB
    rw [if_neg (by simp)]
    simp [h4]
  rw [if_neg (by simp), h1, h2, h3]
  simp
end
section
open Go Go.RowKit
set_option linter.unusedVariables false
set_option linter.unusedSimpArgs false
set_option maxRecDepth 10000
set_option maxHeartbeats 1000000
end
section
open Go Go.RowKit
set_option linter.unusedVariables false
set_option linter.unusedSimpArgs false
set_option maxRecDepth 10000
set_option maxHeartbeats 1000000

/-- Is it the start of this worker? -/
def isSt (w : Int) (a : Event) : Bool := decide (a.kind = 3) && decide (a.child = w)
/-- How often a worker was started, as the actions say, and as the states say. -/
def emS (l : List Spec) (o : List Event) (p : Nat × Nat) : Nat := (o.filter (isSt (numW (ordT l) (p.1, (p.2 : Int))))).length
def stS (t : Tree) (p : Nat × Nat) : Int := ((sAt t p.1).children.l.getD p.2 default).starts
def dfS (l : List Spec) (t : Tree) (p : Nat × Nat) : Int := (emS l t.out p : Int) - stS t p
def NnT (t : Tree) : Prop := ∀ p, 0 ≤ stS t p
/-- What happens below a supervisor. -/
structure CntB (l : List Spec) (j0 : Nat) (t t' : Tree) : Prop where
  len : t'.ss.length = l.length
  nn : NnT t'
  keep : ∀ k, ¬ Desc l j0 k → sAt t' k = sAt t k
  le : ∀ j c, WorkerAt l (j, c) → dfS l t (j, c) ≤ dfS l t' (j, c)
  em : ∀ j c, WorkerAt l (j, c) → ¬ Desc l j0 j → emS l t'.out (j, c) = emS l t.out (j, c)
/-- What performing actions of a supervisor does. -/
structure CntP (l : List Spec) (i : Nat) (acts : List Event) (t t' : Tree) : Prop where
  len : t'.ss.length = l.length
  nn : NnT t'
  keep : ∀ k, ¬ Below l i k → sAt t' k = sAt t k
  le : ∀ j c, WorkerAt l (j, c) → j ≠ i → dfS l t (j, c) ≤ dfS l t' (j, c)
  em : ∀ j c, WorkerAt l (j, c) → ¬ Desc l i j → emS l t'.out (j, c) = emS l t.out (j, c)
  own : ∀ c, WorkerAt l (i, c) → emS l t'.out (i, c) = emS l t.out (i, c) + (if pendA acts c = .start then 1 else 0)
end
section
open Go Go.RowKit
set_option linter.unusedVariables false
set_option linter.unusedSimpArgs false
set_option maxRecDepth 10000
set_option maxHeartbeats 4000000

theorem findE (f : AV) (kf : okO f = some f) (p : Event → Bool) (Inv : Heap → Prop) (hf : ∀ y H, Inv H → okV (W.call f [y.av] H) (fun v H' => v = .bool (p y) ∧ Inv H')) (a : Option Bool) (z : Nat) (l : List Event) (hz : l ≠ [] → z = 4) (hl : l.length ≤ 1000000) (H : Heap) (h : Inv H) :
    okV (W.call (.clo 58 [] []) [.isl a z (l.map Event.av), f] H) (fun v H' => v = I (idxP p l) ∧ Inv H') := by
  rw [W_call Φ58]
  have hL := loop_all (Φ := Φ) (live := [0, 1, 7, 8]) (L := l58_0) l (fun k c _ => if p c then (.inr (k : Int) : Unit ⊕ Int) else .inl ()) (fun k _ F H => F = [(0, .isl a z (l.map Event.av)), (1, f), (7, I l.length), (8, I k)] ∧ Inv H) (fun k x F H => x = .ret ∧ F.get 4 = I k ∧ Inv H) (fun _ x F H => x = .exit 0 ∧ Inv H) (s := ()) ⟨rfl, h⟩ ?_ ?_
  · simp only [Int.natCast_zero] at hL
    unfold idxP
    cases hr : foldE (σ := Unit) (ρ := Int) (fun k c _ => if p c then .inr (k : Int) else .inl ()) 0 l () with
    | inl u =>
      rw [hr] at hL
      obtain ⟨x, F', H', e1, rfl, e2⟩ := okC_iff.1 hL
      simp [fi58, c58, evFun, enterFr, intBin, resV, rvVs, rvV, kf, e1, e2]
    | inr k =>
      rw [hr] at hL
      obtain ⟨x, F', H', e1, rfl, e2, e3⟩ := okC_iff.1 hL
      simp [fi58, c58, evFun, enterFr, intBin, resV, rvVs, rvV, kf, e1, e2, e3]
  · rintro k c ⟨⟩ F H hk hc ⟨rfl, hi⟩
    have hw := wrap_succ (k := k) (by omega)
    have hkc : l[k] = c := (List.getElem?_eq_some_iff.1 hc).2
    have hz' : z = 4 := hz (by intro e; subst e; simp at hk)
    obtain ⟨v, H', e1, rfl, e2⟩ := okV_iff.1 (hf c H hi)
    subst hz'
    cases hp : p c <;> simp [evl58_0, b58_0, intBin, hk, hkc, hw, kf, e1, hp, e2]
  · rintro ⟨⟩ F H ⟨rfl, hi⟩
    simp [evl58_0, b58_0, intBin, kf, hi]
theorem findS (f : AV) (kf : okO f = some f) (p : State → Bool) (Inv : Heap → Prop) (hf : ∀ y H, Inv H → okV (W.call f [y.av] H) (fun v H' => v = .bool (p y) ∧ Inv H')) (a : Option Bool) (z : Nat) (l : List State) (hz : l ≠ [] → z = 4) (hl : l.length ≤ 1000000) (H : Heap) (h : Inv H) :
    okV (W.call (.clo 59 [] []) [.isl a z (l.map State.av), f] H) (fun v H' => v = I (idxP p l) ∧ Inv H') := by
  rw [W_call Φ59]
  have hL := loop_all (Φ := Φ) (live := [0, 1, 7, 8]) (L := l59_0) l (fun k c _ => if p c then (.inr (k : Int) : Unit ⊕ Int) else .inl ()) (fun k _ F H => F = [(0, .isl a z (l.map State.av)), (1, f), (7, I l.length), (8, I k)] ∧ Inv H) (fun k x F H => x = .ret ∧ F.get 4 = I k ∧ Inv H) (fun _ x F H => x = .exit 0 ∧ Inv H) (s := ()) ⟨rfl, h⟩ ?_ ?_
  · simp only [Int.natCast_zero] at hL
    unfold idxP
    cases hr : foldE (σ := Unit) (ρ := Int) (fun k c _ => if p c then .inr (k : Int) else .inl ()) 0 l () with
    | inl u =>
      rw [hr] at hL
      obtain ⟨x, F', H', e1, rfl, e2⟩ := okC_iff.1 hL
      simp [fi59, c59, evFun, enterFr, intBin, resV, rvVs, rvV, kf, e1, e2]
    | inr k =>
      rw [hr] at hL
      obtain ⟨x, F', H', e1, rfl, e2, e3⟩ := okC_iff.1 hL
      simp [fi59, c59, evFun, enterFr, intBin, resV, rvVs, rvV, kf, e1, e2, e3]
  · rintro k c ⟨⟩ F H hk hc ⟨rfl, hi⟩
    have hw := wrap_succ (k := k) (by omega)
    have hkc : l[k] = c := (List.getElem?_eq_some_iff.1 hc).2
    have hz' : z = 4 := hz (by intro e; subst e; simp at hk)
    obtain ⟨v, H', e1, rfl, e2⟩ := okV_iff.1 (hf c H hi)
    subst hz'
    cases hp : p c <;> simp [evl59_0, b59_0, intBin, hk, hkc, hw, kf, e1, hp, e2]
  · rintro ⟨⟩ F H ⟨rfl, hi⟩
    simp [evl59_0, b59_0, intBin, kf, hi]
theorem t28 (x : Sl Event) (hl : x.l.length ≤ 1000000) : W.pure 28 [Sl.av Event.av 4 x, .clo 29 [] []] = some (.bool (x.l.any fun a => decide (a.kind = 3))) := by
  have h := findE (.clo 29 [] []) rfl (fun a => decide (a.kind = 3)) (fun _ => True) (fun y H _ => by
    rw [W_call Φ29]
    refine okV_iff.2 ⟨.bool (decide (y.kind = 3)), H ++ [.arr 0 4 false [y.av]], ?_, rfl, trivial⟩
    simp [-getElem?_pos, List.getElem?_cons_zero, app_last, fi29, c29, evFun, enterFr, intBin, resV, rvVs, rvV, sx11]) x.nl (if x.l.isEmpty then x.z else 4) x.l (fun h => if_neg (by simpa using h)) hl [] trivial
  obtain ⟨v, G, h1, rfl, _⟩ := okV_iff.1 h
  rw [W_call Φ58] at h1
  have h58 : W.pure 58 [Sl.av Event.av 4 x, .clo 29 [] []] = some (I (idxP (fun a => decide (a.kind = 3)) x.l)) := by
    rw [W_pure Φ58 (by rfl)]
    have h1' : evFun W fi58 [Sl.av Event.av 4 x, .clo 29 [] []] [] = some (I (idxP (fun a => decide (a.kind = 3)) x.l), G) := h1
    rw [h1']; rfl
  rw [W_pure Φ28 (by rfl), ← idxP_any]
  generalize idxP (fun a : Event => decide (a.kind = 3)) x.l = n at *
  unfold Sl.av at h58 ⊢
  simp at h58
  simp [fi28, c28, evFun, enterFr, intBin, resV, rvVs, rvV, h58]
theorem t30 (x : Sl State) (hl : x.l.length ≤ 1000000) : W.pure 30 [states x, .clo 31 [] []] = some (.bool (x.l.any fun a => !decide (a.status = 4))) := by
  have h := findS (.clo 31 [] []) rfl (fun a => !decide (a.status = 4)) (fun _ => True) (fun y H _ => by
    rw [W_call Φ31]
    refine okV_iff.2 ⟨.bool (!decide (y.status = 4)), H ++ [.arr 0 4 false [y.av]], ?_, rfl, trivial⟩
    simp [-getElem?_pos, List.getElem?_cons_zero, app_last, fi31, c31, evFun, enterFr, intBin, resV, rvVs, rvV, sx11]) x.nl (if x.l.isEmpty then x.z else 4) x.l (fun h => if_neg (by simpa using h)) hl [] trivial
  obtain ⟨v, G, h1, rfl, _⟩ := okV_iff.1 h
  rw [W_call Φ59] at h1
  have h59 : W.pure 59 [states x, .clo 31 [] []] = some (I (idxP (fun a => !decide (a.status = 4)) x.l)) := by
    rw [W_pure Φ59 (by rfl)]
    have h1' : evFun W fi59 [states x, .clo 31 [] []] [] = some (I (idxP (fun a => !decide (a.status = 4)) x.l), G) := h1
    rw [h1']; rfl
  rw [W_pure Φ30 (by rfl), ← idxP_any]
  generalize idxP (fun a : State => !decide (a.status = 4)) x.l = n at *
  unfold states Sl.av at h59 ⊢
  simp at h59
  simp [fi30, c30, evFun, enterFr, intBin, resV, rvVs, rvV, h59]
/-- A growing list, given away. -/
theorem Grow.pub {α : Type} {f : α → AV} {sz : Nat} {H : Heap} {o : Option Nat} {v : AV} {l : List α} (h : Grow H sz o v (l.map f)) (hf : ∀ x, (f x).cells.all AV.still = true) : ∃ (s : Sl α) (G : Heap), pub1 H v = (Sl.av f sz s, G) ∧ s.l = l := by
  have hs : SlV KnownNil f sz (fun _ => False) H v l := by
    cases o with
    | none =>
      obtain ⟨rfl, h2⟩ := h
      rw [List.map_eq_nil_iff] at h2
      subst h2
      exact .inl ⟨⟨some true, 0, []⟩, rfl, rfl, .inl ⟨rfl, rfl⟩⟩
    | some id =>
      obtain ⟨ver, t, h1, h2⟩ := h
      rw [List.length_map] at h1
      exact .inr ⟨id, ver, t, false, h1, h2, fun h => h⟩
  obtain ⟨s, G, h1, h2, _⟩ := hs.pub hf
  exact ⟨s, G, h1, h2⟩
/-- Nothing is appended to a frozen list. -/
theorem ex_none {α β : Type} {f : α → AV} {g : β → AV} {sz : Nat} {H : Heap} {a : Sl α} {b : Sl β} (ha : (a.l = [] → Sl.av f sz a = .isl (some true) 0 []) ∧ KnownNil a) (hb : b.l = []) : ex H (.app sz) [Sl.av f sz a, Sl.av g sz b] = some (Sl.av f sz a, H) := by
  have he : elemsOf H sz (Sl.av g sz b) = some [] := by
    unfold Sl.av
    rw [hb]
    simp [elemsOf]
  have e0 : ex H (.app sz) [Sl.av f sz a, Sl.av g sz b] = exApp (truncH H (Sl.av f sz a)) sz (Sl.av f sz a) [] := by simp only [ex, he, List.all_nil, if_true]
  have e1 : truncH H (Sl.av f sz a) = H := rfl
  rw [e0, e1]
  by_cases h0 : a.l = []
  · rw [ha.1 h0]; rfl
  · unfold Sl.av
    rcases ha.2 with ⟨_, h1⟩ | h1
    · exact absurd h1 h0
    · rw [h1]; rfl
end
section
open Go Go.RowKit
set_option linter.unusedVariables false
set_option linter.unusedSimpArgs false
set_option maxRecDepth 10000
set_option maxHeartbeats 8000000

theorem t8a (l : Sl Spec) (h : Sl Happening) : W.pure 8 [specs l, Sl.av Happening.av 3 h] = some (.bool (fineT l.l h.l)) := by
  have h18 := t18a l
  rw [W_pure Φ8 (by simp)]
  unfold fineT
  cases hg : greatT l.l with
  | true => rw [hg] at h18; simp [fi8, c8, evFun, enterFr, intBin, resV, rvVs, rvV, h18]
  | false =>
    rw [hg] at h18
    have h22 := t22 l (great_names hg).1 (by have := (great_names hg).2; omega)
    by_cases hc : chkT l.l = 0
    · rw [hc] at h22
      simp [fi8, c8, evFun, enterFr, intBin, resV, rvVs, rvV, h18, h22, hc]
    · simp [fi8, c8, evFun, enterFr, intBin, resV, rvVs, rvV, h18, h22, hc]
/-- What the loops of the laws keep. -/
structure AtK (l : Sl Spec) (m now : Int) (ss : Sl State) : Prop where
  nl : ss.nl = some false
  ks : ∀ x ∈ ss.l, KnownS x
  go : TreeGo l.l now m (tOf ss.l) []
theorem kept_true (l : List Spec) (tm : Int) : KeptBy l tm (fun _ _ => True) := fun _ _ _ _ _ _ _ _ _ _ _ _ _ _ _ _ _ => trivial
theorem AtK.next {l : Sl Spec} {m now : Int} {ss' : Sl State} {a : Sl Event} {t' : Tree} (h : Next l.l now m ss' a t') : AtK l m now ss' := ⟨h.nl, h.known, h.tree⟩
theorem turn5 {l : Sl Spec} (hn : NamesOk l.l) (hc : chkT l.l = 0) (h : Sl Happening) {k : Nat} (hk : k < h.l.length) (hkl : k ≤ 40) {hp : Happening} (hhp : h.l[k]? = some hp) (hwf : hp.wf) {now : Int} {ss : Sl State} (hP : AtK l (1 + 17 * k) now ss) (hnow : 0 ≤ now ∧ now ≤ 255 * k) (nm : AV) (knm : okO nm = some nm) {G : Heap} :
    okC (evC W l5_1 [(0, specs l), (5, nm), (7, states ss), (10, I now), (45, Sl.av Happening.av 3 h), (46, I h.l.length), (47, I k)] G)
      (fun y F' G' => y = .normal ∧ ∃ now' ss', F'.keep [0, 5, 7, 10, 45, 46, 47] = [(0, specs l), (5, nm), (7, states ss'), (10, I now'), (45, Sl.av Happening.av 3 h), (46, I h.l.length), (47, I ((k + 1 : Nat) : Int))] ∧ AtK l (1 + 17 * (k + 1 : Nat)) now' ss' ∧ 0 ≤ now' ∧ now' ≤ 255 * (k + 1 : Nat)) := by
  have hw := wrap_succ (k := k) (by omega)
  have ha : 0 ≤ hp.after ∧ hp.after ≤ 255 := wf8 hwf.2.2.1
  have hwa : IntKind.wrap .i64 hp.after = hp.after := by rw [wrap64] <;> omega
  have hwn : IntKind.wrap .i64 (now + hp.after) = now + hp.after := by rw [wrap64] <;> omega
  have hk' : (k : Int) < (h.l.length : Int) := by omega
  have hs := step17 (P := fun _ _ => True) hn hc (tm := now + hp.after) (m := 1 + 17 * k) (by omega) (by omega) (go_mono hP.go (by omega) (Int.le_refl _)) hP.ks hP.nl hp (kept_true _ _) (fun _ _ _ _ _ _ => trivial) (fun _ _ _ _ _ _ _ _ _ _ _ => trivial)
  cases hs with
  | no a b ia ib _ p1 =>
    obtain ⟨i1, i2, i3, rfl⟩ := ia
    obtain ⟨j1, j2, j3, rfl⟩ := ib
    simp [-getElem?_pos, -List.append_assoc, List.getElem?_cons_zero, app_last, bx21, bx22, sx11, sx21, sx22, evl5_1, b5_1, intBin, hk, hk', hhp, hw, hwa, hwn, p1, knm]
    exact ⟨_, ss, ⟨rfl, rfl⟩, ⟨hP.nl, hP.ks, go_mono hP.go (by omega) (by omega)⟩, by omega, by omega⟩
  | yes ss' a t' _ p1 hnx _ =>
    simp [-getElem?_pos, -List.append_assoc, List.getElem?_cons_zero, app_last, bx21, bx22, sx11, sx21, sx22, evl5_1, b5_1, intBin, hk, hk', hhp, hw, hwa, hwn, p1, knm]
    refine ⟨_, ss', ⟨rfl, rfl⟩, ⟨hnx.nl, hnx.known, ?_⟩, by omega, by omega⟩
    have e : (1 : Int) + 17 * ((k : Int) + 1) = 1 + 17 * (k : Int) + 17 := by omega
    rw [e]; exact hnx.tree
/-- The actions put together; f: has the root failed? -/
def OutV (f : Bool) (a0 : Sl Event) (H : Heap) (v : AV) (L : List Event) : Prop := (f = false → v = Sl.av Event.av 4 a0 ∧ L = a0.l) ∧ (f = true → ∃ o, Grow H 4 o v (L.map Event.av))
theorem OutV.app {f : Bool} {a0 : Sl Event} {H : Heap} {v : AV} {L : List Event} (h : OutV f a0 H v L) (ha0 : (a0.l = [] → Sl.av Event.av 4 a0 = .isl (some true) 0 []) ∧ KnownNil a0) {a : Sl Event} (ha : f = false → a.l = []) (hlen : L.length + a.l.length ≤ 1000000) : ∃ v' H', okO v = some v ∧ v.cells = [v] ∧ ex H (.app 4) [v, Sl.av Event.av 4 a] = some (v', H') ∧ okO v' = some v' ∧ v'.cells = [v'] ∧ OutV f a0 H' v' (L ++ a.l) := by
  cases f with
  | false =>
    obtain ⟨rfl, rfl⟩ := h.1 rfl
    exact ⟨_, H, rfl, rfl, ex_none ha0 (ha rfl), rfl, rfl, fun _ => ⟨rfl, by rw [ha rfl, List.append_nil]⟩, fun e => by cases e⟩
  | true =>
    obtain ⟨o, hg⟩ := h.2 rfl
    have hy : elemsOf H 4 (Sl.av Event.av 4 a) = some (a.l.map Event.av) := by
      unfold Sl.av
      simp only [elemsOf]
      rw [if_pos]
      by_cases h0 : a.l = []
      · right; rw [h0]; rfl
      · left; rw [if_neg (by simpa using h0)]
    obtain ⟨o', v', H', e1, e2, _⟩ := hg.app hy (by rw [List.all_map]; exact List.all_eq_true.2 (fun x _ => by simp)) (by simp only [List.length_map, appRoom]; omega)
    rw [← List.map_append] at e2
    exact ⟨v', H', hg.okO, hg.cells, e1, e2.okO, e2.cells, fun e => (by cases e), fun _ => ⟨o', e2⟩⟩
/-- What the second loop keeps. -/
structure EndK (l : Sl Spec) (m tm : Int) (f : Bool) (k : Nat) (ss : Sl State) (L : List Event) : Prop where
  at0 : AtK l m tm ss
  st : (sAt (tOf ss.l) 0).status = 3 ∨ (sAt (tOf ss.l) 0).status = 4
  fl : (sAt (tOf ss.l) 0).failed = f
  live : ∀ i c, LiveW l.l (tOf ss.l) i c → ∀ j, j < k → (ordT l.l)[j]? ≠ some (i, c)
  out : ∀ a ∈ L, a.kind ≠ 3
  len : L.length ≤ 3000 + 3000 * k
theorem next_at {l : List Spec} {tm m : Int} {ss' : Sl State} {a : Sl Event} {t' : Tree} (h : Next l tm m ss' a t') (k : Nat) : (sAt (tOf ss'.l) k).status = (sAt t' k).status ∧ (sAt (tOf ss'.l) k).failed = (sAt t' k).failed := by
  have := core_inj (core_at h.core k)
  exact ⟨this.1, this.2.2.2⟩
theorem next_live {l : List Spec} {tm m : Int} {ss' : Sl State} {a : Sl Event} {t' : Tree} (h : Next l tm m ss' a t') (i c : Nat) : LiveW l (tOf ss'.l) i c ↔ LiveW l t' i c := by
  unfold LiveW
  rw [view_core (t := t') (t' := tOf ss'.l) h.core]
/-- A worker ends. -/
theorem end_step {l : Sl Spec} (hn : NamesOk l.l) (hc : chkT l.l = 0) {tm m : Int} (htm : 0 ≤ tm ∧ tm ≤ 1099511627776) (hm : 1 ≤ m ∧ m ≤ 900000) {f : Bool} {k i c : Nat} {ss : Sl State} {L : List Event} (h : EndK l m tm f k ss L) (hw : (ordT l.l)[k]? = some (i, c)) :
    (W.pure 27 [specs l, states ss, I k, I 1, I tm] = some (noRun 17) ∧ EndK l (m + 17) tm f (k + 1) ss L) ∨
    ∃ ss' a, W.pure 27 [specs l, states ss, I k, I 1, I tm] = some (.tuple [states ss', Sl.av Event.av 4 a, I 0]) ∧ EndK l (m + 17) tm f (k + 1) ss' (L ++ a.l) ∧ (f = false → a.l = []) ∧ a.l.length ≤ 3000 := by
  have ht := tree_of hc
  have h0 : 0 < l.l.length := by have := ht.len.1; omega
  have hwk : WorkerAt l.l (i, c) := (order_mem ht l.l.length 0 h0 (i, c) (List.mem_of_getElem? hw)).1
  have hi : i < l.l.length := hwk.1
  obtain ⟨ch, hch, hsub⟩ := id hwk.2
  have hgo := h.at0.go
  have hlen : (sAt (tOf ss.l) i).children.l.length = (kids l.l i).length := (hgo.inv i hi).len
  have hcs : c < (sAt (tOf ss.l) i).children.l.length := by rw [hlen]; exact (List.getElem?_eq_some_iff.1 hch).1
  have hview : viewT (tOf ss.l) i c = (sAt (tOf ss.l) i).children.l[c].status := by
    unfold viewT
    rw [List.getD_eq_getElem?_getD, List.getElem?_eq_getElem hcs]; rfl
  have hok : chk (l.l.getD i default) = 0 := by
    have hx := List.getElem?_eq_getElem hi
    rw [List.getD_eq_getElem?_getD, hx]; exact ht.ok _ _ hx
  obtain ⟨a1, a2⟩ := exit27 hn hc htm hm hgo h.at0.ks h.at0.nl hw 1
  by_cases hlv : viewT (tOf ss.l) i c = 1 ∨ viewT (tOf ss.l) i c = 2
  · right
    have hE : handleE (l.l.getD i default) (sAt (tOf ss.l) i) ⟨1, c, 1, tm⟩ = 0 := exit_ok hok (by omega) (hgo.inv i hi) (List.getElem?_eq_getElem hcs) (by rw [← hview]; exact hlv) (by decide) htm (hgo.time i hi)
    have hst := stopping_all ht hgo h.st
    obtain ⟨ss', a, t', b1, b2, b3⟩ := a2 hE (ShutP l.l f (fun i' c' => LiveW l.l (tOf ss.l) i' c' ∧ ¬ (i' = i ∧ c' = c))) (shut_kept ht tm f _) (fun ks' g1 g2 g3 => shut_handle ht (tm := tm) (m := m) (t := tOf ss.l) hgo.len hgo.inv hst (fun a ha => by cases ha) h.fl (fun _ => rfl) hi _ (fun j c' hl' he => ⟨hl', fun hh => by
      refine he hh.1 hE ?_
      rw [hh.2]; unfold exOf; simp⟩) ks')
    refine ⟨ss', a, b1, ⟨.next b2, ?_, ?_, fun i' c' hl' j hj => ?_, fun x hx => ?_, ?_⟩, fun hf => by rw [b2.out]; exact b3.no hf, b2.len⟩
    · rw [(next_at b2 0).1]; exact b3.st
    · rw [(next_at b2 0).2]; exact b3.fl
    · obtain ⟨k1, k2⟩ := b3.live i' c' ((next_live b2 i' c').1 hl')
      by_cases hjk : j = k
      · subst hjk
        rw [hw]
        intro e; cases e
        exact k2 ⟨rfl, rfl⟩
      · exact h.live i' c' k1 j (by omega)
    · rcases List.mem_append.1 hx with hx | hx
      · exact h.out x hx
      · rw [b2.out] at hx; exact b3.out x hx
    · have := h.len
      have := b2.len
      rw [List.length_append]; omega
  · left
    have hE : handleE (l.l.getD i default) (sAt (tOf ss.l) i) ⟨1, c, 1, tm⟩ = 17 := exit_dead hok (by omega) (hgo.inv i hi) (List.getElem?_eq_getElem hcs) (by rw [← hview]; exact hlv) (by decide) htm (hgo.time i hi)
    have h17 := a1 (by rw [show ss.l.getD i default = sAt (tOf ss.l) i from rfl, hE]; decide)
    rw [show ss.l.getD i default = sAt (tOf ss.l) i from rfl, hE] at h17
    refine ⟨h17, ⟨⟨h.at0.nl, h.at0.ks, go_mono hgo (Int.le_refl _) (by omega)⟩, h.st, h.fl, fun i' c' hl' j hj => ?_, h.out, by have := h.len; omega⟩⟩
    by_cases hjk : j = k
    · subst hjk
      rw [hw]
      intro e; cases e
      exact hlv hl'.2
    · exact h.live i' c' hl' j (by omega)
theorem end_all {l : Sl Spec} (hc : chkT l.l = 0) {tm m : Int} {f : Bool} {ss : Sl State} {L : List Event} (h : EndK l m tm f (ordT l.l).length ss L) : ss.l.any (fun a => !decide (a.status = 4)) = false := by
  have ht := tree_of hc
  have hall := all_stopped ht h.at0.go h.st (fun i c hl => by
    obtain ⟨j, hj⟩ := List.getElem?_of_mem (mem_ordT ht hl.1)
    exact h.live i c hl j (List.getElem?_eq_some_iff.1 hj).1 hj)
  rw [List.any_eq_false]
  intro s hs
  obtain ⟨k, hk⟩ := List.getElem?_of_mem hs
  have hkl := (List.getElem?_eq_some_iff.1 hk).1
  have h4 := hall k (by have := h.at0.go.len; simp only at this; omega)
  have : sAt (tOf ss.l) k = s := by unfold sAt; rw [List.getD_eq_getElem?_getD, hk]; rfl
  rw [this] at h4
  simp [h4]
end
section
open Go Go.RowKit
set_option linter.unusedVariables false
set_option linter.unusedSimpArgs false
set_option maxRecDepth 10000
set_option maxHeartbeats 8000000

theorem round5 {l : Sl Spec} (hn : NamesOk l.l) (hc : chkT l.l = 0) {tm m : Int} (htm : 0 ≤ tm ∧ tm ≤ 1099511627776) (hm : 1 ≤ m ∧ m ≤ 900000) {f : Bool} {a0 : Sl Event} (ha0 : (a0.l = [] → Sl.av Event.av 4 a0 = .isl (some true) 0 []) ∧ KnownNil a0) {n k i c : Nat} (hk : k < n) (hkl : k ≤ 200) {ss : Sl State} {L : List Event} (h : EndK l m tm f k ss L) (hw : (ordT l.l)[k]? = some (i, c)) {v : AV} {G : Heap} (hv : OutV f a0 G v L) :
    okC (evC W l5_0 [(0, specs l), (7, states ss), (10, I tm), (17, v), (90, I n), (91, I k)] G)
      (fun y F' G' => y = .normal ∧ ∃ ss' v' L', F'.keep [0, 7, 10, 17, 90, 91] = [(0, specs l), (7, states ss'), (10, I tm), (17, v'), (90, I n), (91, I ((k + 1 : Nat) : Int))] ∧ EndK l (m + 17) tm f (k + 1) ss' L' ∧ OutV f a0 G' v' L') := by
  have hwk := wrap_succ (k := k) (by omega)
  have hk' : (k : Int) < (n : Int) := by omega
  have hlen := h.len
  rcases end_step hn hc htm hm h hw with ⟨p1, p2⟩ | ⟨ss', a, p1, p2, p3, p4⟩
  · obtain ⟨v', H', e1, e2, _⟩ := hv.app ha0 (a := ⟨some true, 0, []⟩) (fun _ => rfl) (by simp; omega)
    unfold noRun at p1
    simp [-getElem?_pos, List.getElem?_cons_zero, evl5_0, b5_0, intBin, hk, hk', hwk, p1, e1]
    exact ⟨ss, _, ⟨rfl, rfl⟩, L, p2, hv⟩
  · obtain ⟨v', H', e1, e2, e3, e4, e5, e6⟩ := hv.app ha0 p3 (by omega)
    simp [-getElem?_pos, List.getElem?_cons_zero, evl5_0, b5_0, intBin, hk, hk', hwk, p1, e1, e2, e3, e4, e5]
    exact ⟨ss', _, ⟨rfl, rfl⟩, _, p2, e6⟩
theorem law5 (l : Sl Spec) (hl0 : SlOk Spec.wf l) (h : Sl Happening) (hh : SlOk Happening.wf h) : W.pure 5 [specs l, Sl.av Happening.av 3 h] = some (.bool true) := by
  have c8 := t8a l h
  have c11 := awk
  rw [W_pure Φ5 (by simp)]
  cases hf : fineT l.l h.l with
  | false =>
    rw [hf] at c8
    simp [fi5, c5, evFun, enterFr, intBin, resV, rvVs, rvV, c8, c11]
  | true =>
    rw [hf] at c8
    simp only [fineT, Bool.and_eq_true, Bool.not_eq_true', decide_eq_true_eq] at hf
    obtain ⟨⟨hg, hc⟩, hl30⟩ := hf
    have hN := (great_names hg).1
    have ht := tree_of hc
    have hlen := ht.len
    have h0 : 0 < l.l.length := by omega
    obtain ⟨r, c19, hr⟩ := t19 hN ht hc
    obtain ⟨ss, a, c12, n1, n2, n3, n4, n5⟩ := t12 hN hc
    have hnew : AtK l 1 0 ss := ⟨n5, n2, go_core (new_go ht) n1 (new_out ht).2.symm⟩
    have hord := order_len ht l.l.length 0 h0
    have hL := loop_fold (Φ := Φ) (live := [0, 5, 7, 10, 45, 46, 47]) (L := l5_1) h.l (σ := Unit) (fun _ _ s => s)
      (fun k _ F G => ∃ now ss, F = [(0, specs l), (5, Sl.av AV.str 1 r), (7, states ss), (10, I now), (45, Sl.av Happening.av 3 h), (46, I h.l.length), (47, I k)] ∧ AtK l (1 + 17 * k) now ss ∧ 0 ≤ now ∧ now ≤ 255 * k)
      (fun _ y F G => y = .exit 0 ∧ ∃ now ss, F.keep [0, 5, 7, 10] = [(0, specs l), (5, Sl.av AV.str 1 r), (7, states ss), (10, I now)] ∧ AtK l (1 + 17 * h.l.length) now ss ∧ 0 ≤ now ∧ now ≤ 255 * h.l.length) (s := ()) (F := [(0, specs l), (5, Sl.av AV.str 1 r), (7, states ss), (10, I 0), (45, Sl.av Happening.av 3 h), (46, I h.l.length), (47, I 0)]) (H := [])
      ⟨0, ss, rfl, by simpa using hnew, by omega, by omega⟩ ?_ ?_
    · obtain ⟨y, F1, G1, f1, rfl, now, ss1, f2, hP, hnow⟩ := okC_iff.1 hL
      simp only [keep_cons, keep_nil, List.cons.injEq, Prod.mk.injEq, true_and, and_true] at f2
      obtain ⟨g0, g5, g7, g10⟩ := f2
      have hgo := hP.go
      have hs0 : ss1.l[0]? = some (sAt (tOf ss1.l) 0) := by
        have : 0 < ss1.l.length := by have := hgo.len; simp only at this; omega
        rw [List.getElem?_eq_getElem this]
        unfold sAt
        rw [List.getD_eq_getElem?_getD, List.getElem?_eq_getElem this]; rfl
      have hok : chk (l.l.getD 0 default) = 0 := by
        have hx := List.getElem?_eq_getElem h0
        rw [List.getD_eq_getElem?_getD, hx]; exact ht.ok _ _ hx
      have htm : 0 ≤ now ∧ now ≤ 1099511627776 := by omega
      have hm : (1 : Int) ≤ 1 + 17 * h.l.length ∧ (1 : Int) + 17 * h.l.length ≤ 900000 := by omega
      obtain ⟨b1, b2⟩ := stop26 hN hc htm hm hgo hP.ks hP.nl
      by_cases h4 : (sAt (tOf ss1.l) 0).status = 4
      · have hE := asked_dead hok (by omega) (hgo.inv 0 h0) h4 htm (hgo.time 0 h0)
        have p26 := b1 (by rw [show ss1.l.getD 0 default = sAt (tOf ss1.l) 0 from rfl, hE]; decide)
        rw [show ss1.l.getD 0 default = sAt (tOf ss1.l) 0 from rfl, hE] at p26
        unfold noRun at p26
        generalize sAt (tOf ss1.l) 0 = s0 at hs0 h4
        simp [-getElem?_pos, List.getElem?_cons_zero, fi5, c5, evFun, enterFr, intBin, resV, rvVs, rvV, c8, c11, c12, c19, f1, g0, g5, g7, g10, p26, hs0, h4]
      · have hE := asked_ok hok (by omega) (hgo.inv 0 h0) h4 htm (hgo.time 0 h0)
        obtain ⟨ss2, a2, t2, p26, q1, q2⟩ := b2 hE (StopP l.l) (stop_kept ht now) (stop_first ht hE)
        have hgo2 := q1.tree
        obtain ⟨f, hfl⟩ : ∃ f, (sAt (tOf ss2.l) 0).failed = f := ⟨_, rfl⟩
        have ha0 : (a2.l = [] → Sl.av Event.av 4 a2 = .isl (some true) 0 []) ∧ KnownNil a2 := ⟨q1.em, q1.kn⟩
        have hout : ∀ G, OutV f a2 G (Sl.av Event.av 4 a2) a2.l := fun G => ⟨fun _ => ⟨rfl, rfl⟩, fun hf => by
          have hne : a2.l = [] := by
            rcases q2.no with h | ⟨h, _⟩
            · rw [← (next_at q1 0).2, hfl, hf] at h; cases h
            · rw [q1.out, h]
          exact ⟨none, q1.em hne, by rw [hne]; rfl⟩⟩
        have hend : EndK l (1 + 17 * h.l.length + 17) now f 0 ss2 a2.l := ⟨.next q1, by rw [(next_at q1 0).1]; exact q2.st, hfl, fun _ _ _ j hj => by omega, fun x hx => by rw [q1.out] at hx; exact q2.out x hx, by have := q1.len; omega⟩
        have hrl : r.l.length = (ordT l.l).length := by rw [hr]; simp
        have hol : (ordT l.l).length ≤ 128 := hord
        have hL2 := loop_fold (Φ := Φ) (live := [0, 7, 10, 17, 90, 91]) (L := l5_0) (ordT l.l) (σ := Unit) (fun _ _ s => s)
          (fun k _ F G => ∃ ss v L, F = [(0, specs l), (7, states ss), (10, I now), (17, v), (90, I r.l.length), (91, I k)] ∧ EndK l (1 + 17 * h.l.length + 17 + 17 * k) now f k ss L ∧ OutV f a2 G v L)
          (fun _ y F G => y = .exit 2 ∧ ∃ ss v L, F.keep [7, 17] = [(7, states ss), (17, v)] ∧ EndK l (1 + 17 * h.l.length + 17 + 17 * (ordT l.l).length) now f (ordT l.l).length ss L ∧ OutV f a2 G v L) (s := ()) (F := [(0, specs l), (7, states ss2), (10, I now), (17, Sl.av Event.av 4 a2), (90, I r.l.length), (91, I 0)]) (H := G1)
          ⟨ss2, _, a2.l, rfl, by simpa using hend, hout _⟩ ?_ ?_
        · obtain ⟨y, F2, G2, w1, rfl, ss3, v3, L3, w2, w3, w4⟩ := okC_iff.1 hL2
          simp only [keep_cons, keep_nil, List.cons.injEq, Prod.mk.injEq, true_and, and_true] at w2
          obtain ⟨k7, k17⟩ := w2
          have c30 := t30 ss3 (by have := w3.at0.go.len; simp only at this; omega)
          rw [end_all hc w3] at c30
          have hll3 := w3.len
          obtain ⟨s4, G4, x1, x2⟩ : ∃ (s : Sl Event) (G : Heap), pub1 G2 v3 = (Sl.av Event.av 4 s, G) ∧ s.l = L3 := by
            cases f with
            | false =>
              obtain ⟨rfl, rfl⟩ := w4.1 rfl
              exact ⟨a2, G2, rfl, rfl⟩
            | true =>
              obtain ⟨o, hgr⟩ := w4.2 rfl
              exact hgr.pub (fun x => by simp)
          have hv3 : okO v3 = some v3 ∧ pubA G2 v3 = pub1 G2 v3 := by
            cases f with
            | false =>
              obtain ⟨rfl, rfl⟩ := w4.1 rfl
              exact ⟨rfl, rfl⟩
            | true =>
              obtain ⟨o, hgr⟩ := w4.2 rfl
              refine ⟨hgr.okO, ?_⟩
              cases o with
              | none => rw [hgr.1]; rfl
              | some id => obtain ⟨ver, t, e, _⟩ := hgr; rw [e]; rfl
          have c28 := t28 s4 (by rw [x2]; omega)
          have hno : s4.l.any (fun a => decide (a.kind = 3)) = false := by
            rw [x2, List.any_eq_false]
            intro a ha
            have := w3.out a ha
            simpa using this
          rw [hno] at c28
          have hpub : pubAs G2 [v3, .clo 29 [] []] = ([Sl.av Event.av 4 s4, .clo 29 [] []], G4) := by
            simp only [pubAs, hv3.2, x1]
            rfl
          simp [-getElem?_pos, List.getElem?_cons_zero, fi5, c5, evFun, enterFr, intBin, resV, rvVs, rvV, c8, c11, c12, c19, f1, g0, g5, g7, g10, p26, w1, k7, k17, c30, c28, hpub, hv3.1]
          rfl
        · rintro k ⟨i, c⟩ ⟨⟩ F G hk hw ⟨ss, v, L, rfl, hE', hO⟩
          obtain ⟨y, F', G', v1, rfl, ss', v', L', v2, v3, v4⟩ := okC_iff.1 (round5 hN hc htm (by omega) ha0 (n := r.l.length) (by omega) (by omega) hE' hw hO)
          refine okC_iff.2 ⟨_, _, _, v1, rfl, ss', v', L', v2, ?_, v4⟩
          have e : (1 : Int) + 17 * h.l.length + 17 + 17 * ((k + 1 : Nat) : Int) = 1 + 17 * h.l.length + 17 + 17 * (k : Int) + 17 := by omega
          rw [e]; exact v3
        · rintro ⟨⟩ F G ⟨ss, v, L, rfl, hE', hO⟩
          have hkn : okO v = some v := by
            cases f with
            | false => rw [(hO.1 rfl).1]; rfl
            | true => obtain ⟨o, hgr⟩ := hO.2 rfl; exact hgr.okO
          simp [evl5_0, b5_0, intBin, hrl, hkn]
          exact ⟨ss, _, ⟨rfl, rfl⟩, L, hE', hO⟩
    · rintro k hp ⟨⟩ F G hk hhp ⟨now, ss, rfl, hP, hnow⟩
      obtain ⟨y, F', G', f1, rfl, now', ss', f2, f3, f4⟩ := okC_iff.1 (turn5 hN hc h hk (by omega) hhp (hh.all _ (List.mem_of_getElem? hhp)) hP hnow (Sl.av AV.str 1 r) rfl (G := G))
      exact okC_iff.2 ⟨_, _, _, f1, rfl, now', ss', f2, f3, f4⟩
    · rintro ⟨⟩ F G ⟨now, ss, rfl, hP, hnow⟩
      simp [evl5_1, b5_1, intBin]
      exact ⟨_, ss, ⟨rfl, rfl⟩, hP, hnow⟩
end
section
open Go Go.RowKit
set_option linter.unusedVariables false
set_option linter.unusedSimpArgs false
set_option maxRecDepth 10000
set_option maxHeartbeats 4000000
end
section
open Go Go.RowKit
set_option linter.unusedVariables false
set_option linter.unusedSimpArgs false
set_option maxRecDepth 10000
set_option maxHeartbeats 1000000

/-- The counts of states, against those of the actions. -/
def CntOk (l : List Spec) (ss : List State) (o : List Event) : Prop := ∀ j c, WorkerAt l (j, c) → stS (tOf ss) (j, c) ≤ emS l o (j, c) ∧ (j = 0 → stS (tOf ss) (j, c) = emS l o (j, c))
end
section
open Go Go.RowKit
set_option linter.unusedVariables false
set_option linter.unusedSimpArgs false
set_option maxRecDepth 10000
set_option maxHeartbeats 8000000
end
section
open Go Go.RowKit
set_option linter.unusedVariables false
set_option linter.unusedSimpArgs false
set_option maxRecDepth 10000
set_option maxHeartbeats 8000000

/-- What the loop keeps. -/
structure At7 (l : Sl Spec) (k : Nat) (now : Int) (ss : Sl State) (o : List Event) (a : Sl Event) : Prop where
  at0 : AtK l (1 + 17 * k) now ss
  time : 0 ≤ now ∧ now ≤ 255 * k
  len : o.length ≤ 3000 * k
  alen : a.l.length ≤ 3000
  cnt : CntOk l.l ss.l (o ++ a.l)
end
section
open Go Go.RowKit
set_option linter.unusedVariables false
set_option linter.unusedSimpArgs false
set_option maxRecDepth 10000
set_option maxHeartbeats 1000000

/-- All actions are as they must be. -/
structure OutOk (n : Nat) (tm : Int) (S0 : List Nat) (o : List Event) : Prop where
  len : S0.length = n
  ev : ∀ a ∈ o, a.time = tm ∧ (a.kind = 5 ∨ 0 ≤ a.child ∧ a.child < (n : Int))
  sim : ∀ (w a : Nat), S0[w]? = some a → ∃ b, simW w o a = some b
end
section
open Go Go.RowKit
set_option linter.unusedVariables false
set_option linter.unusedSimpArgs false
set_option maxRecDepth 10000
set_option maxHeartbeats 8000000

/-- The lists of the law, out of how the workers stand. -/
def runB (S : List Nat) : List AV := S.map fun n => .bool (decide (n ≠ 0))
def stpB (S : List Nat) : List AV := S.map fun n => .bool (decide (n = 2))
/-- Both lists, in memory. -/
structure Arrs (G : Heap) (S : List Nat) : Prop where
  r : G[0]? = some (.arr 0 1 false (runB S))
  t : G[1]? = some (.arr 0 1 false (stpB S))
theorem Arrs.len {G : Heap} {S : List Nat} (h : Arrs G S) : 1 < G.length := (List.getElem?_eq_some_iff.1 h.t).1
end
section
open Go Go.RowKit
set_option linter.unusedVariables false
set_option linter.unusedSimpArgs false
set_option maxRecDepth 10000
set_option maxHeartbeats 8000000

/-- What the loop keeps. -/
structure At6 (l : Sl Spec) (k : Nat) (now : Int) (ss : Sl State) : Prop where
  at0 : AtK l (1 + 17 * k) now ss
  time : 0 ≤ now ∧ now ≤ 255 * k
end
section
open Go Go.RowKit
set_option linter.unusedVariables false
set_option linter.unusedSimpArgs false
set_option maxRecDepth 10000
set_option maxHeartbeats 8000000
end
end Go.Proofs.Ytjknjapdcphcfaa
