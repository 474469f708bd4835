/-
  Trees that run: after a request to stop (conditions: none). How often children are started: what an event counts (conditions: none). How often workers are started: in a tree (conditions: none). Searches in lists of events and of states; lists that are given away (conditions: none). The law SuptreeShutdown: what happens before, and the workers that end afterwards (conditions: none). The law SuptreeShutdown: it is true (conditions: readings of the arguments). Counts: how often the workers were started, as the program lists it (conditions: none). The law SuptreeCounts: what is counted, in plain words (conditions: none). The law SuptreeCounts: it is true (conditions: readings of the arguments). The law SuptreeCounts: it is true (conditions: readings of the arguments). Workers in a tree that runs: started only if they do not run, stopped only if they run (conditions: none). The law SuptreeWorkers: its lists, and the loop over the actions (conditions: none). The law SuptreeWorkers: a round of its loop (conditions: none). The law SuptreeWorkers: it is true (conditions: readings of the arguments).
-/
import Derived.Test.YtjknjapdcphcfaaKE
namespace Go.Proofs.Ytjknjapdcphcfaa
section
open Go Go.RowKit
set_option linter.unusedVariables false
set_option linter.unusedSimpArgs false
set_option maxRecDepth 10000
set_option maxHeartbeats 1000000

/-- The root stops; nothing was started; of the workers only some of these live. f: has the root failed? -/
structure ShutP (l : List Spec) (f : Bool) (L : Nat → Nat → Prop) (t : Tree) (ks : List Nat) : Prop where
  st : (sAt t 0).status = 3 ∨ (sAt t 0).status = 4
  out : ∀ a ∈ t.out, a.kind ≠ 3
  live : ∀ i c, LiveW l t i c → L i c
  fl : (sAt t 0).failed = f
  no : f = false → t.out = []
/-- The root has been asked to stop. -/
structure StopP (l : List Spec) (t : Tree) (ks : List Nat) : Prop where
  st : (sAt t 0).status = 3 ∨ (sAt t 0).status = 4
  out : ∀ a ∈ t.out, a.kind ≠ 3
  no : (sAt t 0).failed = false ∨ (t.out = [] ∧ ks = [])
end
section
open Go Go.RowKit
set_option linter.unusedVariables false
set_option linter.unusedSimpArgs false
set_option maxRecDepth 10000
set_option maxHeartbeats 1000000

theorem pendA_mem {l : List Event} {c : Nat} (h : pendA l c = .start) : ∃ a ∈ l, a.kind = 3 ∧ a.child = (c : Int) := by
  induction l with
  | nil => cases h
  | cons a l ih =>
    unfold pendA at h
    split at h
    · rename_i h3; exact ⟨a, by simp, h3⟩
    · split at h
      · cases h
      · obtain ⟨b, hb, hb2⟩ := ih h
        exact ⟨b, by simp [hb], hb2⟩
theorem starts_same {cs : List ChildState} {out : List Event} {c : Nat} {v v' : ChildState} (h1 : cs[c]? = some v') (h2 : v'.starts = v.starts) (h3 : ∀ a ∈ out, a.kind ≠ 3) : ∃ v', cs[c]? = some v' ∧ v'.starts = v.starts + (if pendA out c = .start then 1 else 0) := by
  refine ⟨v', h1, ?_⟩
  rw [if_neg (fun h => by obtain ⟨a, ha, h4, _⟩ := pendA_mem h; exact h3 a ha h4), h2]; omega
theorem starts_shut {old : List ChildState} {r0 : RunSt} {tm : Int} (h0 : r0.out = []) {c : Nat} {v v0 : ChildState} (h1 : r0.cs[c]? = some v0) (h2 : v0.starts = v.starts) : ∃ v', (shutS tm r0).cs[c]? = some v' ∧ v'.starts = v.starts + (if pendA (shutS tm r0).out c = .start then 1 else 0) := by
  have hat := shut_at tm r0 c
  rw [h1, ← shut_cs tm r0] at hat
  refine starts_same hat ?_ (fun a ha => ?_)
  · dsimp only
    split
    · exact h2
    · split <;> exact h2
  · rw [shut_out, h0, List.nil_append] at ha
    rcases List.mem_append.1 ha with ha | ha
    · rw [stopOut_kind _ _ _ a ha]; decide
    · rw [esc_kind ha]; show (5 : Int) ≠ 3; decide
theorem starts_again {r0 : RunSt} {tm : Int} (h0 : r0.out = []) {c : Nat} {v v0 : ChildState} (h1 : r0.cs[c]? = some v0) (h2 : v0.starts = v.starts) (h3 : 1 ≤ v.starts ∧ v.starts ≤ 1099511627776) : ∃ v', (againS tm r0).cs[c]? = some v' ∧ v'.starts = v.starts + (if pendA (againS tm r0).out c = .start then 1 else 0) := by
  have hat := againS_at tm r0 c
  rw [h1] at hat
  have hout := againS_out tm r0
  rw [h0, List.nil_append] at hout
  refine ⟨_, hat, ?_⟩
  by_cases h4 : v0.status = 4
  · have hp : pendA (againS tm r0).out c = .start := by
      refine pendA_start ⟨⟨3, c, 0, tm⟩, by rw [hout]; exact mem_again.2 ⟨c, v0, h1, h4, rfl⟩, rfl, rfl⟩ (fun a ha _ => ?_)
      rw [hout] at ha
      obtain ⟨c', w, _, _, rfl⟩ := mem_again.1 ha
      simp
    rw [if_pos hp]
    unfold again1
    rw [if_pos h4]
    show IntKind.wrap .i64 (v0.starts + 1) = _
    rw [h2, wrap_start h3]
  · have hp : ¬ pendA (againS tm r0).out c = .start := fun h => by
      obtain ⟨a, ha, _, hch⟩ := pendA_mem h
      rw [hout] at ha
      obtain ⟨c', w, g1, g2, rfl⟩ := mem_again.1 ha
      simp only at hch
      have : c' = c := by omega
      subst this
      rw [h1] at g1; cases g1
      exact h4 g2
    rw [if_neg hp]
    unfold again1
    rw [if_neg h4, h2]; omega
theorem starts_handle {x : Spec} {m : Int} {s : State} {e : Event} {r : RunSt} (hm : m ≤ 1099511627776) (hi : Inv x m (runOf s)) (hw : HWay x s e r) (c : Nat) (v : ChildState) (hv : s.children.l[c]? = some v) : ∃ v', r.cs[c]? = some v' ∧ v'.starts = v.starts + (if pendA r.out c = .start then 1 else 0) := by
  have hst := hi.ok c v hv
  have hv' : (runOf s).cs[c]? = some v := hv
  have hset : ∀ (n : Nat) (st : Int), ∃ v0, ((runOf s).setS n st).cs[c]? = some v0 ∧ v0.starts = v.starts := by
    intro n st
    have := setS_at (runOf s) n st c
    rw [hv'] at this
    refine ⟨_, this, ?_⟩
    dsimp only
    split <;> rfl
  have hrest : ∀ n : Nat, ∃ v0, (restartS x e.time n (runOf s)).cs[c]? = some v0 ∧ v0.starts = v.starts := by
    intro n
    unfold restartS
    have key : ∀ w : ChildState, w.starts = v.starts → (stop1 (affL x n) c w).starts = v.starts := by
      intro w hw
      unfold stop1
      split <;> exact hw
    by_cases hcn : c = n
    · exact ⟨stop1 (affL x n) c (v.to 4), by rw [stopS_at e.time _ _ (affL_nn x n), setS_at]; simp only; rw [hv', Option.map_some, if_pos hcn]; rfl, key _ rfl⟩
    · exact ⟨stop1 (affL x n) c v, by rw [stopS_at e.time _ _ (affL_nn x n), setS_at]; simp only; rw [hv', Option.map_some, if_neg hcn]; rfl, key _ rfl⟩
  have rmem : ∀ (n : Nat) (a : Event), a ∈ (restartS x e.time n (runOf s)).out → a.kind = 4 := by
    intro n a ha
    unfold restartS at ha
    rw [stopS_out' e.time _ _ (affL_nn x n) (affL_nodup x n), setS_out] at ha
    rcases List.mem_append.1 ha with ha | ha
    · cases ha
    · exact stopOut_kind _ _ _ a ha
  cases hw with
  | quiet n cc ch h hs hq hr hst hf =>
    obtain ⟨v0, g1, g2⟩ := hset n 3
    rw [hr]
    exact starts_same g1 g2 (fun a ha => by rw [setS_out] at ha; cases ha)
  | fail n cc ch h hs hq hi' hr hst hf =>
    obtain ⟨v0, g1, g2⟩ := hset n 3
    rw [hr]
    exact starts_shut (old := []) (by simp only [setS_out]; rfl) g1 g2
  | again n cc ch h hs hq hi' hz hr hst hf =>
    obtain ⟨v0, g1, g2⟩ := hrest n
    rw [hr]
    refine starts_again ?_ g1 g2 (by omega)
    have hsum := hsum_handle hi (.again n cc ch h hs hq hi' hz hr hst hf)
    rw [List.eq_nil_iff_forall_not_mem]
    intro a ha
    have ha' := ha
    unfold restartS at ha
    rw [stopS_out' e.time _ _ (affL_nn x n) (affL_nodup x n), setS_out] at ha
    rcases List.mem_append.1 ha with ha | ha
    · cases ha
    · obtain ⟨c', w, h1, h2, h3, h4⟩ := (mem_stop (affL_nn x n)).1 ha
      refine hz ⟨c', _, by unfold restartS; rw [stopS_at e.time _ _ (affL_nn x n), h2]; rfl, ?_⟩
      unfold stop1
      rw [if_pos ⟨h1, h3⟩]; rfl
  | hold n cc ch h hs hq hi' hz hr hst hf =>
    obtain ⟨v0, g1, g2⟩ := hrest n
    rw [hr]
    exact starts_same g1 g2 (fun a ha => by rw [rmem n a ha]; decide)
  | wait n cc ch h hs hz hr hst =>
    obtain ⟨v0, g1, g2⟩ := hset n (if (runOf s).st = 2 ∧ ¬ ch.policy = 3 then 4 else 3)
    rw [hr]
    exact starts_same g1 g2 (fun a ha => by unfold stopping1 at ha; rw [setS_out] at ha; cases ha)
  | wake n cc ch h hs hz hr hst hf =>
    obtain ⟨v0, g1, g2⟩ := hset n (if (runOf s).st = 2 ∧ ¬ ch.policy = 3 then 4 else 3)
    rw [hr]
    exact starts_again (by unfold stopping1; rw [setS_out]; rfl) g1 g2 (by omega)
  | done n cc ch h hs hz hr hst =>
    obtain ⟨v0, g1, g2⟩ := hset n (if (runOf s).st = 2 ∧ ¬ ch.policy = 3 then 4 else 3)
    obtain ⟨s1, s2, s3, s4, s5⟩ := stopped_rest e.time (stopping1 n ch (runOf s))
    rw [hr]
    refine starts_same (by rw [s4]; exact g1) g2 (fun a ha => ?_)
    rw [s5] at ha
    unfold stopping1 at ha
    rw [setS_out] at ha
    rcases List.mem_append.1 ha with ha | ha
    · cases ha
    · rw [esc_kind ha]; show (5 : Int) ≠ 3; decide
  | asked hk hr hst hf =>
    rw [hr]
    exact starts_shut (old := []) rfl hv' rfl
  | still hk hr hst =>
    rw [hr]
    exact starts_same hv' rfl (fun a ha => by cases ha)
end
section
open Go Go.RowKit
set_option linter.unusedVariables false
set_option linter.unusedSimpArgs false
set_option maxRecDepth 10000
set_option maxHeartbeats 1000000

/-- Is it the start of this worker? -/
def isSt (w : Int) (a : Event) : Bool := decide (a.kind = 3) && decide (a.child = w)
/-- How often a worker was started, as the actions say, and as the states say. -/
def emS (l : List Spec) (o : List Event) (p : Nat × Nat) : Nat := (o.filter (isSt (numW (ordT l) (p.1, (p.2 : Int))))).length
def stS (t : Tree) (p : Nat × Nat) : Int := ((sAt t p.1).children.l.getD p.2 default).starts
def dfS (l : List Spec) (t : Tree) (p : Nat × Nat) : Int := (emS l t.out p : Int) - stS t p
def NnT (t : Tree) : Prop := ∀ p, 0 ≤ stS t p
theorem emS_app (l : List Spec) (a b : List Event) (p : Nat × Nat) : emS l (a ++ b) p = emS l a p + emS l b p := by
  unfold emS; rw [List.filter_append, List.length_append]
theorem emS_one (l : List Spec) (a : List Event) (b : Event) (p : Nat × Nat) : emS l (a ++ [b]) p = emS l a p + (if b.kind = 3 ∧ b.child = numW (ordT l) (p.1, (p.2 : Int)) then 1 else 0) := by
  rw [emS_app]
  congr 1
  unfold emS isSt
  by_cases h1 : b.kind = 3
  · by_cases h2 : b.child = numW (ordT l) (p.1, (p.2 : Int))
    · simp [h1, h2]
    · simp [h1, h2]
  · simp [h1]
/-- What happens below a supervisor. -/
structure CntB (l : List Spec) (j0 : Nat) (t t' : Tree) : Prop where
  len : t'.ss.length = l.length
  nn : NnT t'
  keep : ∀ k, ¬ Desc l j0 k → sAt t' k = sAt t k
  le : ∀ j c, WorkerAt l (j, c) → dfS l t (j, c) ≤ dfS l t' (j, c)
  em : ∀ j c, WorkerAt l (j, c) → ¬ Desc l j0 j → emS l t'.out (j, c) = emS l t.out (j, c)
/-- What performing actions of a supervisor does. -/
structure CntP (l : List Spec) (i : Nat) (acts : List Event) (t t' : Tree) : Prop where
  len : t'.ss.length = l.length
  nn : NnT t'
  keep : ∀ k, ¬ Below l i k → sAt t' k = sAt t k
  le : ∀ j c, WorkerAt l (j, c) → j ≠ i → dfS l t (j, c) ≤ dfS l t' (j, c)
  em : ∀ j c, WorkerAt l (j, c) → ¬ Desc l i j → emS l t'.out (j, c) = emS l t.out (j, c)
  own : ∀ c, WorkerAt l (i, c) → emS l t'.out (i, c) = emS l t.out (i, c) + (if pendA acts c = .start then 1 else 0)
theorem stS_keep {t t' : Tree} {j : Nat} (h : sAt t' j = sAt t j) (c : Nat) : stS t' (j, c) = stS t (j, c) := by unfold stS; rw [h]
theorem nn_set {t : Tree} {j : Nat} {s : State} (hj : j < t.ss.length) (hn : NnT t) (hs : ∀ c, 0 ≤ (s.children.l.getD c default).starts) : NnT { t with ss := t.ss.set j s } := by
  rintro ⟨k, c⟩
  unfold stS
  simp only
  rw [sAt_set hj]
  by_cases h : k = j
  · rw [if_pos h]; exact hs c
  · rw [if_neg h]; exact hn (k, c)
theorem start_nn (x : Spec) (c : Nat) : 0 ≤ ((startS x).children.l.getD c default).starts := by
  show 0 ≤ ((List.replicate x.children.l.length start1).getD c default).starts
  rw [List.getD_eq_getElem?_getD, List.getElem?_replicate]
  split
  · decide
  · decide
theorem start_st {x : Spec} {c : Nat} (hc : c < x.children.l.length) : ((startS x).children.l.getD c default).starts = 1 := by
  rw [List.getD_eq_getElem?_getD, start_view hc]; rfl
/-- What handling an event does to the counts of the supervisor itself. -/
theorem handle_starts {x : Spec} {s : State} {e : Event} (hE : handleE x s e = 0) : (∀ c, c < x.children.l.length → ((mkS (handleR x s e)).children.l.getD c default).starts = (s.children.l.getD c default).starts + (if pendA (handleR x s e).out c = .start then 1 else 0)) ∧ ∀ c, 0 ≤ ((mkS (handleR x s e)).children.l.getD c default).starts := by
  obtain ⟨hv, hc⟩ := handleE_check hE
  have hi := valid_inv hv
  have hw := handle_way hi hc
  have hst := starts_handle (by omega) hi hw
  have hsum := hsum_handle hi hw
  have hl : s.children.l.length = x.children.l.length := hi.len
  have key : ∀ c, c < x.children.l.length → ((mkS (handleR x s e)).children.l.getD c default).starts = (s.children.l.getD c default).starts + (if pendA (handleR x s e).out c = .start then 1 else 0) := by
    intro c hcl
    have hcs : c < s.children.l.length := by omega
    obtain ⟨v', g1, g2⟩ := hst c _ (List.getElem?_eq_getElem hcs)
    show (((handleR x s e).cs).getD c default).starts = _
    rw [List.getD_eq_getElem?_getD, List.getD_eq_getElem?_getD, g1, List.getElem?_eq_getElem hcs]
    exact g2
  refine ⟨key, fun c => ?_⟩
  by_cases hcl : c < x.children.l.length
  · rw [key c hcl]
    have hcs : c < s.children.l.length := by omega
    have := (hi.ok c _ (List.getElem?_eq_getElem hcs)).2.2.1
    rw [List.getD_eq_getElem?_getD, List.getElem?_eq_getElem hcs]
    simp only [Option.getD_some]
    split <;> omega
  · show 0 ≤ (((handleR x s e).cs).getD c default).starts
    rw [List.getD_eq_getElem?_getD, List.getElem?_eq_none (by rw [hsum.len]; omega)]
    decide
theorem begin_cnt {l : List Spec} (ht : TreeOk l) {d j0 : Nat} (hj : j0 < l.length) {tm : Int} {t : Tree} (hl : t.ss.length = l.length) (hn : NnT t)
    (hp : ∀ t0 : Tree, t0.ss.length = l.length → NnT t0 → CntP l j0 (timed tm (startL (kids l j0).length)) t0 (perf l (ordT l) (up l) d j0 (timed tm (startL (kids l j0).length)) t0)) :
    CntB l j0 t (doStart l (perf l (ordT l) (up l) d) j0 tm t) := by
  have hjl : j0 < t.ss.length := by omega
  have hset := sAt_set (t := t) (s := startS (l.getD j0 default)) hjl
  have h := hp { t with ss := t.ss.set j0 (startS (l.getD j0 default)) } (by simpa using hl) (nn_set hjl hn (start_nn _))
  have hdo : doStart l (perf l (ordT l) (up l) d) j0 tm t = perf l (ordT l) (up l) d j0 (timed tm (startL (kids l j0).length)) { t with ss := t.ss.set j0 (startS (l.getD j0 default)) } := rfl
  rw [hdo]
  generalize perf l (ordT l) (up l) d j0 (timed tm (startL (kids l j0).length)) { t with ss := t.ss.set j0 (startS (l.getD j0 default)) } = T at *
  have hnb : ¬ Below l j0 j0 := fun hb => by have := hb.gt ht; omega
  refine ⟨h.len, h.nn, fun k hk => ?_, fun j c hw => ?_, fun j c hw hd => h.em j c hw hd⟩
  · rw [h.keep k (fun hb => hk hb.desc), hset, if_neg (fun e : k = j0 => hk (e ▸ .refl))]
  · by_cases hjj : j = j0
    · subst hjj
      have ho := h.own c hw
      obtain ⟨_, ch, hch, _⟩ := hw
      have hcl := (List.getElem?_eq_some_iff.1 hch).1
      rw [start_pend tm hcl, if_pos rfl] at ho
      have h1 : stS T (j, c) = 1 := by
        have := h.keep j hnb
        rw [hset, if_pos rfl] at this
        unfold stS
        simp only
        rw [this]
        exact start_st hcl
      have h2 := hn (j, c)
      have ho' : emS l T.out (j, c) = emS l t.out (j, c) + 1 := ho
      unfold dfS
      omega
    · have := h.le j c hw hjj
      have e : stS { t with ss := t.ss.set j0 (startS (l.getD j0 default)) } (j, c) = stS t (j, c) := stS_keep (by rw [hset, if_neg hjj]) c
      unfold dfS at this ⊢
      rw [e] at this
      exact this
theorem handle_cnt {l : List Spec} (ht : TreeOk l) {d j0 : Nat} (hj : j0 < l.length) {e : Event} {t : Tree} (hl : t.ss.length = l.length) (hn : NnT t)
    (hp : ∀ (acts : List Event) (t0 : Tree), t0.ss.length = l.length → NnT t0 → ActsG (kids l j0).length e.time acts → CntP l j0 acts t0 (perf l (ordT l) (up l) d j0 acts t0)) :
    CntB l j0 t (doHandle l (perf l (ordT l) (up l) d) (up l) j0 e t) ∧ ∀ c, WorkerAt l (j0, c) → dfS l (doHandle l (perf l (ordT l) (up l) d) (up l) j0 e t) (j0, c) = dfS l t (j0, c) := by
  have hjl : j0 < t.ss.length := by omega
  unfold doHandle
  simp only
  by_cases hE : handleE (l.getD j0 default) (t.ss.getD j0 default) e = 0
  · rw [if_pos hE]
    obtain ⟨s1, s2⟩ := handle_starts hE
    have hset := sAt_set (t := t) (s := mkS (handleR (l.getD j0 default) (t.ss.getD j0 default) e)) hjl
    have h := hp (handleR (l.getD j0 default) (t.ss.getD j0 default) e).out { t with ss := t.ss.set j0 (mkS (handleR (l.getD j0 default) (t.ss.getD j0 default) e)) } (by simpa using hl) (nn_set hjl hn s2) (handle_acts hE)
    generalize handleR (l.getD j0 default) (t.ss.getD j0 default) e = r at *
    generalize perf l (ordT l) (up l) d j0 r.out { t with ss := t.ss.set j0 (mkS r) } = T at *
    have hnb : ¬ Below l j0 j0 := fun hb => by have := hb.gt ht; omega
    have hown : ∀ c, WorkerAt l (j0, c) → dfS l T (j0, c) = dfS l t (j0, c) := by
      intro c hw
      have ho := h.own c hw
      obtain ⟨_, ch, hch, _⟩ := hw
      have hcl := (List.getElem?_eq_some_iff.1 hch).1
      have h1 : stS T (j0, c) = stS t (j0, c) + (if pendA r.out c = .start then 1 else 0) := by
        have := h.keep j0 hnb
        rw [hset, if_pos rfl] at this
        unfold stS
        simp only
        rw [this]
        exact s1 c hcl
      have ho' : emS l T.out (j0, c) = emS l t.out (j0, c) + (if pendA r.out c = .start then 1 else 0) := ho
      unfold dfS
      by_cases hp' : pendA r.out c = .start
      · rw [if_pos hp'] at ho' h1; omega
      · rw [if_neg hp'] at ho' h1; omega
    have hB : CntB l j0 t T := by
      refine ⟨h.len, h.nn, fun k hk => ?_, fun j c hw => ?_, fun j c hw hd => h.em j c hw hd⟩
      · rw [h.keep k (fun hb => hk hb.desc), hset, if_neg (fun e : k = j0 => hk (e ▸ .refl))]
      · by_cases hjj : j = j0
        · subst hjj
          rw [hown c hw]; exact Int.le_refl _
        · have := h.le j c hw hjj
          have e : stS { t with ss := t.ss.set j0 (mkS r) } (j, c) = stS t (j, c) := stS_keep (by rw [hset, if_neg hjj]) c
          unfold dfS at this ⊢
          rw [e] at this
          exact this
    split
    · exact ⟨⟨hB.len, hB.nn, hB.keep, hB.le, hB.em⟩, hown⟩
    · exact ⟨hB, hown⟩
  · rw [if_neg hE]
    exact ⟨⟨hl, hn, fun _ _ => rfl, fun _ _ _ => Int.le_refl _, fun _ _ _ _ => rfl⟩, fun _ _ => rfl⟩
theorem perf_cnt {l : List Spec} (ht : TreeOk l) : ∀ (d i : Nat) (tm : Int) (acts : List Event) (t : Tree), l.length - i ≤ d → i < l.length → t.ss.length = l.length → NnT t → ActsG (kids l i).length tm acts → CntP l i acts t (perf l (ordT l) (up l) d i acts t) := by
  intro d
  induction d with
  | zero => intro i tm acts t h1 h2; omega
  | succ d ih =>
    intro i tm acts t h1 h2 hl hn ha
    show CntP l i acts t (acts.foldl (doAct l (ordT l) (up l) (perf l (ordT l) (up l) d) i) t)
    induction acts generalizing t with
    | nil => exact ⟨hl, hn, fun _ _ => rfl, fun _ _ _ _ => Int.le_refl _, fun _ _ _ _ => rfl, fun c _ => by rw [if_neg (fun h : pendA [] c = .start => by cases h)]; rfl⟩
    | cons a r ih2 =>
      have hnd := List.nodup_cons.1 (show (a.child :: r.map Event.child).Nodup from ha.nodup)
      have ha' : ActsG (kids l i).length tm r := ⟨hnd.2, fun b hb => ha.all b (by simp [hb])⟩
      obtain ⟨hat, hav, hak⟩ := ha.all a (by simp)
      have one : CntP l i [a] t (doAct l (ordT l) (up l) (perf l (ordT l) (up l) d) i t a) := by
        rcases hak with ⟨h5, hch⟩ | ⟨h34, hc0, hc1⟩
        · have hno : ∀ c, ¬ pendA [a] c = .start := fun c h => by
            obtain ⟨b, hb, h3, _⟩ := pendA_mem h
            simp only [List.mem_singleton] at hb; subst hb; omega
          unfold doAct
          rw [if_pos h5]
          split
          · have hem : ∀ p, emS l (t.out ++ [a]) p = emS l t.out p := fun p => by rw [emS_one, if_neg (by omega)]; rfl
            refine ⟨hl, hn, fun _ _ => rfl, fun j c _ _ => ?_, fun j c _ _ => hem _, fun c _ => by rw [if_neg (hno c)]; exact hem _⟩
            unfold dfS
            simp only
            rw [hem]
            exact Int.le_refl _
          · exact ⟨hl, hn, fun _ _ => rfl, fun _ _ _ _ => Int.le_refl _, fun _ _ _ _ => rfl, fun c _ => by rw [if_neg (hno c)]; rfl⟩
        · obtain ⟨ch, hch⟩ : ∃ ch, (kids l i)[a.child.toNat]? = some ch := ⟨_, List.getElem?_eq_getElem (by omega)⟩
          have hcc : ((a.child.toNat : Nat) : Int) = a.child := by omega
          have hgd : (kids l i).getD a.child.toNat default = ch := by rw [List.getD_eq_getElem?_getD, hch]; rfl
          have hpe : ∀ c, c ≠ a.child.toNat → ¬ pendA [a] c = .start := fun c hc h => by
            obtain ⟨b, hb, h3, h4⟩ := pendA_mem h
            simp only [List.mem_singleton] at hb; subst hb; omega
          unfold doAct
          rw [if_neg (by omega)]
          simp only [hgd]
          by_cases hneg : ch.sub < 0
          · rw [if_pos hneg]
            have hsub : ch.sub = -1 := by rcases ht.sub i _ ch h2 hch with h | h <;> omega
            have hwa : WorkerAt l (i, a.child.toNat) := ⟨h2, ch, hch, hsub⟩
            have hother : ∀ j c, WorkerAt l (j, c) → ¬ (j = i ∧ c = a.child.toNat) → emS l (t.out ++ [{ a with child := numW (ordT l) (i, a.child) }]) (j, c) = emS l t.out (j, c) := by
              intro j c hw hne
              rw [emS_one, if_neg (fun hh => hne ?_)]
              · rfl
              · have hh2 := hh.2
                simp only at hh2
                rw [← hcc] at hh2
                obtain ⟨e1, e2⟩ := num_inj ht hwa hw hh2
                exact ⟨e1.symm, e2.symm⟩
            refine ⟨hl, hn, fun _ _ => rfl, fun j c hw hne => ?_, fun j c hw hnd' => hother j c hw (fun hh => hnd' (hh.1 ▸ .refl)), fun c hw => ?_⟩
            · unfold dfS
              simp only
              rw [hother j c hw (fun hh => hne hh.1)]
              exact Int.le_refl _
            · by_cases hc : c = a.child.toNat
              · subst hc
                show emS l (t.out ++ [{ a with child := numW (ordT l) (i, a.child) }]) (i, a.child.toNat) = _
                rw [emS_one]
                congr 1
                simp only [hcc]
                by_cases h3 : a.kind = 3
                · rw [if_pos ⟨h3, trivial⟩, if_pos (by rw [pendA, if_pos ⟨h3, hcc.symm⟩])]
                · rw [if_neg (fun hh => h3 hh.1), if_neg (fun h => by
                    obtain ⟨b, hb, h3', _⟩ := pendA_mem h
                    simp only [List.mem_singleton] at hb; subst hb; exact h3 h3')]
              · rw [if_neg (hpe c hc)]
                exact hother i c hw (fun hh => hc hh.2)
          · rw [if_neg hneg]
            have hij : SubAt l i a.child.toNat ch.sub.toNat := ⟨h2, ch, hch, by omega⟩
            have hlt := hij.lt ht
            have hni : ¬ Desc l ch.sub.toNat i := fun h => by have := h.le ht; omega
            have fin : ∀ t' : Tree, CntB l ch.sub.toNat t t' → CntP l i [a] t t' := by
              intro t' hB
              refine ⟨hB.len, hB.nn, fun k hk => hB.keep k (fun h => hk ⟨_, _, hij, h⟩), fun j c hw _ => hB.le j c hw, fun j c hw hnd' => hB.em j c hw (fun h => hnd' (h.head hij)), fun c hw => ?_⟩
              rw [hB.em i c hw hni]
              have hc : c ≠ a.child.toNat := fun e => by
                obtain ⟨_, ch', g1, g2⟩ := hw
                simp only [e] at g1
                rw [hch] at g1; cases g1
                omega
              rw [if_neg (hpe c hc)]; rfl
            by_cases h3 : a.kind = 3
            · rw [if_pos h3]
              exact fin _ (begin_cnt ht hlt.2 hl hn (fun t0 q1 q2 => ih ch.sub.toNat a.time _ t0 (by omega) hlt.2 q1 q2 (start_acts a.time _)))
            · rw [if_neg h3]
              exact fin _ (handle_cnt ht hlt.2 hl hn (fun acts t0 q1 q2 q3 => ih ch.sub.toNat _ acts t0 (by omega) hlt.2 q1 q2 q3)).1
      have h := ih2 (doAct l (ordT l) (up l) (perf l (ordT l) (up l) d) i t a) one.len one.nn ha'
      rw [List.foldl_cons]
      generalize doAct l (ordT l) (up l) (perf l (ordT l) (up l) d) i t a = t1 at *
      generalize r.foldl (doAct l (ordT l) (up l) (perf l (ordT l) (up l) d) i) t1 = T at *
      refine ⟨h.len, h.nn, fun k hk => (h.keep k hk).trans (one.keep k hk), fun j c hw hne => Int.le_trans (one.le j c hw hne) (h.le j c hw hne), fun j c hw hnd' => (h.em j c hw hnd').trans (one.em j c hw hnd'), fun c hw => ?_⟩
      rw [h.own c hw, one.own c hw]
      by_cases hc : a.child = (c : Int)
      · have hr : pendA r c = .no := pendA_no (fun b hb hbc => absurd (List.mem_map.2 ⟨b, hb, by rw [hbc, hc]⟩) hnd.1)
        have e2 : pendA (a :: r) c = pendA [a] c := by
          rw [pendA, pendA, hr]; rfl
        rw [hr, e2, if_neg (by decide : ¬ Pend.no = .start)]; rfl
      · have e1 : pendA [a] c = .no := pendA_no (fun b hb hbc => by simp only [List.mem_singleton] at hb; subst hb; exact absurd hbc hc)
        have e2 : pendA (a :: r) c = pendA r c := by rw [pendA, if_neg (fun hh => hc hh.2), if_neg (fun hh => hc hh.2)]
        rw [e1, e2, if_neg (by decide : ¬ Pend.no = .start)]; rfl
/-- What is counted while an event is handled. -/
theorem handleT_cnt {l : List Spec} (ht : TreeOk l) {i : Nat} (hi : i < l.length) (e : Event) {t : Tree} (hl : t.ss.length = l.length) (hn : NnT t) : CntB l i t (handleT l i e t) ∧ ∀ c, WorkerAt l (0, c) → dfS l (handleT l i e t) (0, c) = dfS l t (0, c) := by
  rw [show handleT l i e t = doHandle l (perf l (ordT l) (up l) l.length) (up l) i e t from rfl]
  obtain ⟨h1, h2⟩ := handle_cnt ht hi (e := e) hl hn (fun acts t0 q1 q2 q3 => perf_cnt ht l.length i e.time acts t0 (by omega) hi q1 q2 q3)
  refine ⟨h1, fun c hw => ?_⟩
  by_cases h0 : i = 0
  · subst h0; exact h2 c hw
  · have hnd : ¬ Desc l i 0 := fun h => by have := h.le ht; omega
    unfold dfS
    rw [h1.em 0 c hw hnd, stS_keep (h1.keep 0 hnd) c]
/-- The counts, against those at first. -/
def CountP (l : List Spec) (t0 : Tree) (t : Tree) (ks : List Nat) : Prop := NnT t ∧ ∀ j c, WorkerAt l (j, c) → dfS l t0 (j, c) ≤ dfS l t (j, c) ∧ (j = 0 → dfS l t (j, c) = dfS l t0 (j, c))
theorem count_handle {l : List Spec} (ht : TreeOk l) {t0 t : Tree} {ks ks' : List Nat} {i : Nat} (hi : i < l.length) (e : Event) (hl : t.ss.length = l.length) (h : CountP l t0 t ks) : CountP l t0 (handleT l i e t) ks' := by
  obtain ⟨h1, h2⟩ := handleT_cnt ht hi e hl h.1
  refine ⟨h1.nn, fun j c hw => ⟨Int.le_trans (h.2 j c hw).1 (h1.le j c hw), fun h0 => ?_⟩⟩
  subst h0
  rw [h2 c hw]; exact (h.2 0 c hw).2 rfl
theorem count_kept {l : List Spec} (ht : TreeOk l) (tm : Int) (t0 : Tree) : KeptBy l tm (CountP l t0) := by
  intro m t d r k ks0 ks' hm h hq h1 h2 h3 h4 hp g1 g2
  exact count_handle ht h4 d.e (t := { t with q := r }) (ks := ks0) h.len hp
theorem nn_go {l : List Spec} {tm m : Int} {t : Tree} {ks : List Nat} (h : TreeGo l tm m t ks) : NnT t := by
  rintro ⟨k, c⟩
  unfold stS
  simp only
  by_cases hk : k < l.length
  · rw [List.getD_eq_getElem?_getD]
    cases hc : (sAt t k).children.l[c]? with
    | none => decide
    | some v =>
      have := ((h.inv k hk).ok c v hc).2.2.1
      simp only [Option.getD_some]; omega
  · have : sAt t k = default := by
      unfold sAt
      rw [List.getD_eq_getElem?_getD, List.getElem?_eq_none (by have := h.len; omega)]; rfl
    rw [this]
    have e : ((default : State).children.l.getD c default).starts = 0 := rfl
    rw [e]; decide
end
section
open Go Go.RowKit
set_option linter.unusedVariables false
set_option linter.unusedSimpArgs false
set_option maxRecDepth 10000
set_option maxHeartbeats 4000000
end
section
open Go Go.RowKit
set_option linter.unusedVariables false
set_option linter.unusedSimpArgs false
set_option maxRecDepth 10000
set_option maxHeartbeats 8000000

theorem t8a (l : Sl Spec) (h : Sl Happening) : W.pure 8 [specs l, Sl.av Happening.av 3 h] = some (.bool (fineT l.l h.l)) := by
  have h18 := t18a l
  rw [W_pure Φ8 (by simp)]
  unfold fineT
  cases hg : greatT l.l with
  | true => rw [hg] at h18; simp [fi8, c8, evFun, enterFr, intBin, resV, rvVs, rvV, h18]
  | false =>
    rw [hg] at h18
    have h22 := t22 l (great_names hg).1 (by have := (great_names hg).2; omega)
    by_cases hc : chkT l.l = 0
    · rw [hc] at h22
      simp [fi8, c8, evFun, enterFr, intBin, resV, rvVs, rvV, h18, h22, hc]
    · simp [fi8, c8, evFun, enterFr, intBin, resV, rvVs, rvV, h18, h22, hc]
/-- What the loops of the laws keep. -/
structure AtK (l : Sl Spec) (m now : Int) (ss : Sl State) : Prop where
  nl : ss.nl = some false
  ks : ∀ x ∈ ss.l, KnownS x
  go : TreeGo l.l now m (tOf ss.l) []
/-- What the second loop keeps. -/
structure EndK (l : Sl Spec) (m tm : Int) (f : Bool) (k : Nat) (ss : Sl State) (L : List Event) : Prop where
  at0 : AtK l m tm ss
  st : (sAt (tOf ss.l) 0).status = 3 ∨ (sAt (tOf ss.l) 0).status = 4
  fl : (sAt (tOf ss.l) 0).failed = f
  live : ∀ i c, LiveW l.l (tOf ss.l) i c → ∀ j, j < k → (ordT l.l)[j]? ≠ some (i, c)
  out : ∀ a ∈ L, a.kind ≠ 3
  len : L.length ≤ 3000 + 3000 * k
end
section
open Go Go.RowKit
set_option linter.unusedVariables false
set_option linter.unusedSimpArgs false
set_option maxRecDepth 10000
set_option maxHeartbeats 8000000
end
section
open Go Go.RowKit
set_option linter.unusedVariables false
set_option linter.unusedSimpArgs false
set_option maxRecDepth 10000
set_option maxHeartbeats 4000000

def startsAt (s : List State) (p : Nat × Nat) : Int := ((s.getD p.1 default).children.l.getD p.2 default).starts
def KC (st : LoopState) : Blk := .loop st none [(3, .optr 0 0 0 0), (4, .isl (some true) 0 []), (5, I 0), (6, .optr 1 0 0 0)] [20, 21] ra32_0 rb32_0
/-- States that have as many children as the specifications. -/
def FitsL (l : List Spec) (s : List State) : Prop := s.length = l.length ∧ ∀ k, k < l.length → (s.getD k default).children.l.length = (kids l k).length
theorem round32 {l : Sl Spec} {s : Sl State} (hfit : FitsL l.l s.l) {H : Heap} {L : List (Nat × Nat)} (h : OutR [.arr 0 1 false [states s], .arr 0 1 false [.isl (some true) 0 []], KC .ready] 2 1 1 KC H (L.map fun p => I (startsAt s.l p))) (hl : L.length ≤ 1000000) (i c : Nat) (hw : WorkerAt l.l (i, c)) :
    okV (evRound W 2 [I i, I c] H) (fun v H' => v = .bool true ∧ OutR [.arr 0 1 false [states s], .arr 0 1 false [.isl (some true) 0 []], KC .ready] 2 1 1 KC H' ((L ++ [(i, c)]).map fun p => I (startsAt s.l p))) := by
  obtain ⟨hi, ch, hch, _⟩ := hw
  simp only at hi hch
  obtain ⟨st, hst⟩ : ∃ st, s.l[i]? = some st := ⟨_, List.getElem?_eq_getElem (by rw [hfit.1]; exact hi)⟩
  have hgd : s.l.getD i default = st := by rw [List.getD_eq_getElem?_getD, hst]; rfl
  have hcl := (List.getElem?_eq_some_iff.1 hch).1
  have hf2 := hfit.2 i hi
  rw [hgd] at hf2
  obtain ⟨cs, hcs⟩ : ∃ cs, st.children.l[c]? = some cs := ⟨_, List.getElem?_eq_getElem (by omega)⟩
  have hsa : startsAt s.l (i, c) = cs.starts := by unfold startsAt; simp only; rw [hgd, List.getD_eq_getElem?_getD, hcs]; rfl
  obtain ⟨v, v', G2, a1, a2, a3, a4, a5, a6, a7, a8, a9, a10, a11, a12⟩ := h.step (I cs.starts) (by simp) (by simpa using hl)
  have hz := h.at (j := 0) (by simp) (by decide) (by decide) rfl
  have : okV (evRound W 2 [I i, I c] H) (fun u H' => u = .bool true ∧ H' = (G2.set 1 (.arr 0 1 false [v'])).set 2 (KC .ready)) := by
    rw [evRound_open h.hy rfl]
    have hy := h.hy
    simp only [KC] at a1 a3 a10 a11 hy hz ⊢
    simp [-getElem?_pos, List.getElem?_cons_zero, putAll, evra32_0, xra32_0, evrb32_0, xrb32_0, intBin, hy, hz, hst, hcs, a1, a2, a3, a4, a5, a6, a7, a8, a9, a10, a11]
  obtain ⟨u, H', e1, rfl, rfl⟩ := okV_iff.1 this
  rw [e1]
  refine ⟨rfl, ?_⟩
  rw [List.map_append]
  simp only [List.map_cons, List.map_nil, hsa]
  exact a12
theorem t32 {l : Sl Spec} {s : Sl State} (hn : NamesOk l.l) (hc : chkT l.l = 0) (hs : SmallS s.l) (hsl : s.l.length ≤ 1000000) (hv : validT l.l s.l = true) (hfit : FitsL l.l s.l) : ∃ r : Sl Int, W.pure 32 [specs l, states s] = some (.tuple [Sl.ints r, I 0]) ∧ r.l = (ordT l.l).map (startsAt s.l) ∧ KnownNil r := by
  have ht := tree_of hc
  have h0 : (0 : Nat) < l.l.length := by have := ht.len.1; omega
  have hlen := order_len ht l.l.length 0 h0
  have h22 := t22 l hn (by have := ht.len.2; omega)
  rw [hc] at h22
  have h56 := t56 ht hn hs hsl
  rw [hv] at h56
  have hw := walk72 ht (f := .yld 2) rfl (ordT l.l) (fun q H => OutR [.arr 0 1 false [states s], .arr 0 1 false [.isl (some true) 0 []], KC .ready] 2 1 1 KC H (q.map fun p => I (startsAt s.l p)))
    (fun q H i c hwk hp hr => by
      rw [W_yld]
      exact round32 hfit hr (by have := hp.length_le; simp only [ordT, List.length_append] at this; omega) i c hwk)
    (fun q H b hr => hr.box b) l.l.length 0 [] [.arr 0 1 false [states s], .arr 0 1 false [.isl (some true) 0 []], KC .ready] (by omega) h0 (List.prefix_refl _)
    ⟨by simp, by simp, by decide, Nat.le_refl _, rfl, ⟨none, _, rfl, grow_nil _ _, by simp⟩, fun _ _ _ _ => rfl⟩
  obtain ⟨v, G, e1, rfl, hr⟩ := okV_iff.1 hw
  rw [List.nil_append] at hr
  have c71 := t71 rfl rfl e1
  have hy := hr.hy
  obtain ⟨o, w, g1, g2, g3⟩ := hr.hb
  rw [show (fun p => I (startsAt s.l p)) = I ∘ startsAt s.l from rfl, ← List.map_map] at g2
  obtain ⟨r, f1, f2, f3⟩ := (g2.kept (Kept.set 2 G (.loop .exhausted none [(3, .optr 0 0 0 0), (4, .isl (some true) 0 []), (5, I 0), (6, .optr 1 0 0 0)] [20, 21] ra32_0 rb32_0)) (fun id hid e => by cases hid; have := g3 _ e; simp at this)).slG (n := 6) (all_still (fun s => by simp) _)
  refine ⟨r, ?_, f2, f3⟩
  rw [W_pure Φ32 (by simp)]
  have c49 := t49 l 0
  simp only [cloW, KC, Int.natCast_zero] at c71 hy c49
  have he := rngEnd_ready (v := .tuple []) (F := [(3, .optr 0 0 0 0), (4, .isl (some true) 0 []), (5, I 0), (6, .optr 1 0 0 0)]) hy
  have hb : (G.set 2 (.loop .exhausted none [(3, .optr 0 0 0 0), (4, .isl (some true) 0 []), (5, I 0), (6, .optr 1 0 0 0)] [20, 21] ra32_0 rb32_0))[1]? = some (.arr 0 1 false [w]) := by rw [List.getElem?_set_ne (by decide)]; exact g1
  simp [-getElem?_pos, List.getElem?_cons_zero, fi32, c32, evFun, enterFr, intBin, resV, rvVs, rvV, h22, h56, c49, c71, he, hb, g2.okO, g2.cells, f1]
theorem go_fits {l : List Spec} {tm m : Int} {t : Tree} {ks : List Nat} (h : TreeGo l tm m t ks) : FitsL l t.ss := ⟨h.len, fun k hk => (h.inv k hk).len⟩
end
section
open Go Go.RowKit
set_option linter.unusedVariables false
set_option linter.unusedSimpArgs false
set_option maxRecDepth 10000
set_option maxHeartbeats 1000000

/-- The counts of the actions so far, worker by worker. -/
def cntL (n : Nat) (o : List Event) : List Int := (List.range n).map fun w : Nat => ((o.filter (isSt (w : Int))).length : Int)
theorem cntL_len (n : Nat) (o : List Event) : (cntL n o).length = n := by simp [cntL]
theorem cntL_at {n w : Nat} (h : w < n) (o : List Event) : (cntL n o)[w]? = some (((o.filter (isSt (w : Int))).length : Nat) : Int) := by
  simp [cntL, h]
theorem cntL_nil (n : Nat) : cntL n [] = List.replicate n 0 := by
  refine List.ext_getElem? fun w => ?_
  by_cases h : w < n
  · rw [cntL_at h]; simp [h]
  · rw [List.getElem?_eq_none (by rw [cntL_len]; omega), List.getElem?_eq_none (by simp; omega)]
theorem cntL_no {n : Nat} {o : List Event} {a : Event} (h : ¬ (a.kind = 3 ∧ 0 ≤ a.child ∧ a.child < n)) : cntL n (o ++ [a]) = cntL n o := by
  refine List.ext_getElem? fun w => ?_
  by_cases hw : w < n
  · rw [cntL_at hw, cntL_at hw, List.filter_append]
    have : [a].filter (isSt (w : Int)) = [] := by
      rw [List.filter_eq_nil_iff]
      intro b hb
      simp only [List.mem_singleton] at hb
      subst hb
      simp only [isSt, Bool.and_eq_true, decide_eq_true_eq]
      omega
    rw [this, List.append_nil]
  · rw [List.getElem?_eq_none (by rw [cntL_len]; omega), List.getElem?_eq_none (by rw [cntL_len]; omega)]
theorem cntL_yes {n i : Nat} {o : List Event} {a : Event} (h3 : a.kind = 3) (hc : a.child = (i : Int)) (hi : i < n) : cntL n (o ++ [a]) = (cntL n o).set i (((o.filter (isSt (i : Int))).length : Int) + 1) := by
  refine List.ext_getElem? fun w => ?_
  by_cases hw : w < n
  · rw [cntL_at hw, List.filter_append, List.length_append]
    by_cases hwi : i = w
    · subst hwi
      have : [a].filter (isSt (i : Int)) = [a] := by simp [isSt, h3, hc]
      rw [this, List.getElem?_set_self (by rw [cntL_len]; exact hw)]
      simp
    · rw [List.getElem?_set_ne hwi, cntL_at hw]
      have : [a].filter (isSt (w : Int)) = [] := by
        rw [List.filter_eq_nil_iff]
        intro b hb
        simp only [List.mem_singleton] at hb
        subst hb
        simp only [isSt, Bool.and_eq_true, decide_eq_true_eq]
        omega
      rw [this]; simp
  · rw [List.getElem?_eq_none (by rw [cntL_len]; omega), List.getElem?_eq_none (by rw [List.length_set, cntL_len]; omega)]
theorem emS_cnt {l : List Spec} (ht : TreeOk l) {w i c : Nat} (hw : (ordT l)[w]? = some (i, c)) (o : List Event) : (cntL (ordT l).length o)[w]? = some ((emS l o (i, c) : Nat) : Int) := by
  rw [cntL_at (List.getElem?_eq_some_iff.1 hw).1]
  unfold emS
  simp only [num_at ht hw]
/-- What a new tree does: all workers are started, in their order. -/
theorem new_events {l : List Spec} (ht : TreeOk l) : (newT l).out = (List.range (ordT l).length).map fun q : Nat => (⟨3, (q : Int), 0, 0⟩ : Event) := by
  rw [(new_out ht).1]
  refine List.ext_getElem? fun w => ?_
  rw [List.getElem?_map, List.getElem?_map]
  by_cases h : w < (ordT l).length
  · rw [List.getElem?_range h]
    obtain ⟨⟨i, c⟩, hw⟩ : ∃ p, (ordT l)[w]? = some p := ⟨_, List.getElem?_eq_getElem h⟩
    rw [hw]
    simp only [Option.map_some, startE, num_at ht hw]
  · rw [List.getElem?_eq_none (by omega), List.getElem?_eq_none (by simp; omega)]; rfl
theorem new_em {l : List Spec} (ht : TreeOk l) {i c : Nat} (hw : WorkerAt l (i, c)) : emS l (newT l).out (i, c) = 1 := by
  obtain ⟨w, h1⟩ := List.getElem?_of_mem (mem_ordT ht hw)
  have hwl := (List.getElem?_eq_some_iff.1 h1).1
  rw [new_events ht]
  unfold emS
  simp only [num_at ht h1]
  generalize (ordT l).length = n at hwl
  have key : ∀ n, (((List.range n).map fun q : Nat => (⟨3, (q : Int), 0, 0⟩ : Event)).filter (isSt (w : Int))).length = if w < n then 1 else 0 := by
    intro n
    induction n with
    | zero => rfl
    | succ n ih =>
      rw [List.range_succ, List.map_append, List.filter_append, List.length_append, ih]
      by_cases hn : w = n
      · subst hn
        rw [if_neg (by omega), if_pos (by omega)]
        simp [isSt]
      · have : [(⟨3, (n : Int), 0, 0⟩ : Event)].filter (isSt (w : Int)) = [] := by
          rw [List.filter_eq_nil_iff]
          intro b hb
          simp only [List.mem_singleton] at hb
          subst hb
          simp only [isSt, Bool.and_eq_true, decide_eq_true_eq]
          omega
        simp only [List.map_cons, List.map_nil, this, List.length_nil, Nat.add_zero]
        by_cases h1 : w < n
        · rw [if_pos h1, if_pos (by omega)]
        · rw [if_neg h1, if_neg (by omega)]
  rw [key, if_pos hwl]
theorem new_st {l : List Spec} (ht : TreeOk l) {i c : Nat} (hw : WorkerAt l (i, c)) : stS (newT l) (i, c) = 1 := by
  obtain ⟨hi, ch, hch, _⟩ := hw
  unfold stS
  simp only
  rw [(new_ss ht).2 i hi]
  exact start_st (List.getElem?_eq_some_iff.1 hch).1
theorem stS_core {t t' : Tree} (hc : t'.ss.map State.core = t.ss.map State.core) (p : Nat × Nat) : stS t' p = stS t p := by
  unfold stS sAt
  rw [(core_inj (core_at hc p.1)).2.1]
/-- The counts of states, against those of the actions. -/
def CntOk (l : List Spec) (ss : List State) (o : List Event) : Prop := ∀ j c, WorkerAt l (j, c) → stS (tOf ss) (j, c) ≤ emS l o (j, c) ∧ (j = 0 → stS (tOf ss) (j, c) = emS l o (j, c))
theorem cnt_new {l : List Spec} (ht : TreeOk l) {ss : List State} (hc : ss.map State.core = (newT l).ss.map State.core) : CntOk l ss (newT l).out := by
  intro j c hw
  rw [stS_core (t := newT l) (t' := tOf ss) hc, new_st ht hw, new_em ht hw]
  exact ⟨Int.le_refl _, fun _ => rfl⟩
theorem cnt_next {l : List Spec} {ss ss' : List State} {o : List Event} {t' : Tree} {ks : List Nat} (h : CntOk l ss o) (hp : CountP l (tOf ss) t' ks) (hc : ss'.map State.core = t'.ss.map State.core) : CntOk l ss' (o ++ t'.out) := by
  intro j c hw
  obtain ⟨h1, h2⟩ := h j c hw
  obtain ⟨h3, h4⟩ := hp.2 j c hw
  rw [stS_core (t := t') (t' := tOf ss') hc, emS_app]
  have e : emS l (tOf ss).out (j, c) = 0 := rfl
  unfold dfS at h3 h4
  rw [e] at h3 h4
  refine ⟨by omega, fun h0 => ?_⟩
  have := h2 h0
  have := h4 h0
  omega
/-- Workers of the same name are the same. -/
theorem worker_name {l : List Spec} (ht : TreeOk l) {i c i' c' : Nat} {ch ch' : Child} (hi : i < l.length) (h : (kids l i)[c]? = some ch) (hs : ch.sub = -1) (hi' : i' < l.length) (h' : (kids l i')[c']? = some ch') (hs' : ch'.sub = -1) (hn : ch.name = ch'.name) : i = i' ∧ c = c' := by
  have key : ∀ (i c i' c' : Nat) (ch ch' : Child), i' < l.length → (kids l i)[c]? = some ch → (kids l i')[c']? = some ch' → ch.sub = -1 → ch'.sub = -1 → ch.name = ch'.name → ¬ (i < i' ∨ (i = i' ∧ c < c')) := by
    intro i c i' c' ch ch' hi hc hc' hs hs' hn hlt
    have := ht.new i' c' ch' hi hc' ch (seen_old hc hlt)
    simp [sameC, hs, hs', hn] at this
  have a := key i c i' c' ch ch' hi' h h' hs hs' hn
  have b := key i' c' i c ch' ch hi h' h hs' hs hn.symm
  omega
end
section
open Go Go.RowKit
set_option linter.unusedVariables false
set_option linter.unusedSimpArgs false
set_option maxRecDepth 10000
set_option maxHeartbeats 8000000

theorem setI (B : List Int) (i : Nat) (hi : i < B.length) (v : Int) : setElem (B.map I) i 0 (I v) = some ((B.set i v).map I) := by
  simp [setElem, hi, List.map_set]
/-- The frame of the loop over the actions. -/
abbrev F7 (l : Sl Spec) (h : Sl Happening) (nm ss : AV) (n : Nat) (now : Int) (k : Nat) : Fr := [(0, specs l), (1, Sl.av Happening.av 3 h), (5, nm), (7, ss), (10, .osl 0 0 0 n), (11, I now), (12, I k), (50, I ((h.l.length : Int) + 1)), (51, I k)]
theorem inner7 {l : Sl Spec} {h : Sl Happening} {r : Sl (List UInt8)} {ss : Sl State} {now : Int} {k : Nat} {o : List Event} {a : Sl Event} (hn : r.l.length ≤ 1000) (ho : o.length ≤ 200000) (ha : a.l.length ≤ 100000) {G : Heap} (h0 : G[0]? = some (.arr 0 1 false ((cntL r.l.length o).map I))) :
    okC (W.loop [0, 1, 5, 7, 10, 11, 12, 50, 51, 54, 55, 56] l7_1 (F7 l h (Sl.av AV.str 1 r) (states ss) r.l.length now k ++ [(54, Sl.av Event.av 4 a), (55, I a.l.length), (56, I 0)]) G)
      (fun y F G' => y = .exit 2 ∧ F.keep [0, 1, 5, 7, 10, 11, 12, 50, 51] = F7 l h (Sl.av AV.str 1 r) (states ss) r.l.length now k ∧ G'[0]? = some (.arr 0 1 false ((cntL r.l.length (o ++ a.l)).map I))) := by
  have hL := loop_fold (Φ := Φ) (live := [0, 1, 5, 7, 10, 11, 12, 50, 51, 54, 55, 56]) (L := l7_1) a.l (σ := Unit) (fun _ _ s => s)
    (fun j _ F G => F = F7 l h (Sl.av AV.str 1 r) (states ss) r.l.length now k ++ [(54, Sl.av Event.av 4 a), (55, I a.l.length), (56, I j)] ∧ G[0]? = some (.arr 0 1 false ((cntL r.l.length (o ++ a.l.take j)).map I)))
    (fun _ y F G => y = .exit 2 ∧ F.keep [0, 1, 5, 7, 10, 11, 12, 50, 51] = F7 l h (Sl.av AV.str 1 r) (states ss) r.l.length now k ∧ G[0]? = some (.arr 0 1 false ((cntL r.l.length (o ++ a.l)).map I))) (s := ()) (F := F7 l h (Sl.av AV.str 1 r) (states ss) r.l.length now k ++ [(54, Sl.av Event.av 4 a), (55, I a.l.length), (56, I 0)]) (H := G)
    ⟨rfl, by simpa using h0⟩ ?_ ?_
  · exact hL
  · rintro j x ⟨⟩ F G hj hx ⟨rfl, g0⟩
    have hw := wrap_succ (k := j) (by omega)
    have hj' : (j : Int) < (a.l.length : Int) := by omega
    have htk : o ++ a.l.take (j + 1) = (o ++ a.l.take j) ++ [x] := by rw [List.take_add_one, hx, List.append_assoc]; rfl
    have hlen : (o ++ a.l.take j).length ≤ 300000 := by rw [List.length_append, List.length_take]; omega
    rw [htk]
    generalize o ++ a.l.take j = O at *
    have h0l : 0 < G.length := (List.getElem?_eq_some_iff.1 g0).1
    have hze : (.agg [I 0, I 0, I 0, I 0] : AV) = (⟨0, 0, 0, 0⟩ : Event).av := rfl
    have hA : ∀ b c : Blk, (G ++ [b]).set G.length c = G ++ [c] := fun b c => by simp
    have g0' : ∀ b : Blk, (G ++ [b])[0]? = some (.arr 0 1 false ((cntL r.l.length O).map I)) := fun b => app_get g0 b
    by_cases hyes : x.kind = 3 ∧ 0 ≤ x.child ∧ x.child < (r.l.length : Int)
    · obtain ⟨h3, hc0, hc1⟩ := hyes
      obtain ⟨i, hi⟩ : ∃ i : Nat, x.child = i := ⟨x.child.toNat, by omega⟩
      have hil : i < r.l.length := by omega
      have hat := cntL_at hil O
      have hle := List.length_filter_le (isSt (i : Int)) O
      have hw3 : IntKind.wrap .i64 ((((O.filter (isSt (i : Int))).length : Nat) : Int) + 1) = (((O.filter (isSt (i : Int))).length : Nat) : Int) + 1 := by rw [wrap64] <;> omega
      have hset := setI (cntL r.l.length O) i (by rw [cntL_len]; exact hil) ((((O.filter (isSt (i : Int))).length : Nat) : Int) + 1)
      rw [← cntL_yes (o := O) h3 hi hil] at hset
      have hs0 : ∀ (b B : Blk), ((G ++ [b]).set 0 B)[0]? = some B := fun b B => List.getElem?_set_self (by simp)
      rw [hi] at hc0 hc1
      generalize cntL r.l.length (O ++ [x]) = C2 at *
      have hcl := cntL_len r.l.length O
      generalize cntL r.l.length O = C1 at *
      generalize (((O.filter (isSt (i : Int))).length : Nat) : Int) = q at *
      simp [-getElem?_pos, List.getElem?_cons_zero, -List.append_assoc, app_last, evl7_1, b7_1, intBin, F7, hj, hj', hx, hw, hA, hze, g0, g0', h3, hi, hil, hc0, hc1, hcl, hat, hw3, hset, hs0]
    · rw [cntL_no hyes]
      generalize cntL r.l.length O = C1 at *
      by_cases h3 : x.kind = 3
      · by_cases hc0 : 0 ≤ x.child
        · have hc1 : ¬ x.child < (r.l.length : Int) := fun h => hyes ⟨h3, hc0, h⟩
          simp [-getElem?_pos, List.getElem?_cons_zero, -List.append_assoc, app_last, evl7_1, b7_1, intBin, F7, hj, hj', hx, hw, hA, hze, g0, g0', h3, hc0, hc1]
        · simp [-getElem?_pos, List.getElem?_cons_zero, -List.append_assoc, app_last, evl7_1, b7_1, intBin, F7, hj, hj', hx, hw, hA, hze, g0, g0', h3, hc0]
      · simp [-getElem?_pos, List.getElem?_cons_zero, -List.append_assoc, app_last, evl7_1, b7_1, intBin, F7, hj, hj', hx, hw, hA, hze, g0, g0', h3]
  · rintro ⟨⟩ F G ⟨rfl, g0⟩
    rw [List.take_of_length_le (Nat.le_refl _)] at g0
    simp [evl7_1, b7_1, intBin, F7, g0]
end
section
open Go Go.RowKit
set_option linter.unusedVariables false
set_option linter.unusedSimpArgs false
set_option maxRecDepth 10000
set_option maxHeartbeats 8000000

abbrev F7o (l : Sl Spec) (h : Sl Happening) (nm ss a : AV) (n : Nat) (now : Int) (k : Nat) : Fr := [(0, specs l), (1, Sl.av Happening.av 3 h), (5, nm), (7, ss), (8, a), (10, .osl 0 0 0 n), (11, I now), (50, I ((h.l.length : Int) + 1)), (51, I k)]
/-- What the loop keeps. -/
structure At7 (l : Sl Spec) (k : Nat) (now : Int) (ss : Sl State) (o : List Event) (a : Sl Event) : Prop where
  at0 : AtK l (1 + 17 * k) now ss
  time : 0 ≤ now ∧ now ≤ 255 * k
  len : o.length ≤ 3000 * k
  alen : a.l.length ≤ 3000
  cnt : CntOk l.l ss.l (o ++ a.l)
theorem turn7 {l : Sl Spec} (hn : NamesOk l.l) (hc : chkT l.l = 0) (h : Sl Happening) {k : Nat} (hk : k < h.l.length) (hkl : k ≤ 40) {hp : Happening} (hhp : h.l[k]? = some hp) (hwf : hp.wf) {r : Sl (List UInt8)} (hr : r.l.length ≤ 1000) {now : Int} {ss : Sl State} {o : List Event} {a : Sl Event} (hP : At7 l k now ss o a) {G : Heap} (g0 : G[0]? = some (.arr 0 1 false ((cntL r.l.length o).map I))) :
    okC (evC W l7_2 (F7o l h (Sl.av AV.str 1 r) (states ss) (Sl.av Event.av 4 a) r.l.length now k) G)
      (fun y F' G' => y = .normal ∧ ∃ now' ss' a', F'.keep [0, 1, 5, 7, 8, 10, 11, 50, 51] = F7o l h (Sl.av AV.str 1 r) (states ss') (Sl.av Event.av 4 a') r.l.length now' (k + 1) ∧ At7 l (k + 1) now' ss' (o ++ a.l) a' ∧ G'[0]? = some (.arr 0 1 false ((cntL r.l.length (o ++ a.l)).map I))) := by
  have hw := wrap_succ (k := k) (by omega)
  have ha : 0 ≤ hp.after ∧ hp.after ≤ 255 := wf8 hwf.2.2.1
  have hwa : IntKind.wrap .i64 hp.after = hp.after := by rw [wrap64] <;> omega
  have hti := hP.time
  have hwn : IntKind.wrap .i64 (now + hp.after) = now + hp.after := by rw [wrap64] <;> omega
  have hk' : (k : Int) < (h.l.length : Int) + 1 := by omega
  have hkn : ¬ (k : Int) = (h.l.length : Int) := by omega
  have hlen := hP.len
  have hal := hP.alen
  obtain ⟨y, F1, G1, f1, rfl, f2, g1⟩ := okC_iff.1 (inner7 (l := l) (h := h) (r := r) (ss := ss) (now := now) (k := k) (o := o) (a := a) hr (by omega) (by omega) g0)
  simp only [F7, keep_cons, keep_nil, List.cons.injEq, Prod.mk.injEq, true_and, and_true, List.cons_append, List.nil_append] at f1 f2
  obtain ⟨b0, b1, b5, b7, b10, b11, b12, b50, b51⟩ := f2
  have ht := tree_of hc
  have hs := step17 (P := CountP l.l (tOf ss.l)) hn hc (tm := now + hp.after) (m := 1 + 17 * k) (by omega) (by omega) (go_mono hP.at0.go (by omega) (Int.le_refl _)) hP.at0.ks hP.at0.nl hp (count_kept ht _ _)
    (fun _ _ ks' _ _ _ => count_handle ht (ks := []) (by have := ht.len.1; omega) _ hP.at0.go.len ⟨nn_go hP.at0.go, fun _ _ _ => ⟨Int.le_refl _, fun _ => rfl⟩⟩)
    (fun w i c _ _ hwa _ ks' _ _ _ => count_handle ht (ks := []) hwa.1 _ hP.at0.go.len ⟨nn_go hP.at0.go, fun _ _ _ => ⟨Int.le_refl _, fun _ => rfl⟩⟩)
  cases hs with
  | no a' b' ia ib _ p1 =>
    obtain ⟨i1, i2, i3, rfl⟩ := ia
    obtain ⟨j1, j2, j3, rfl⟩ := ib
    simp [-getElem?_pos, -List.append_assoc, List.getElem?_cons_zero, app_last, evl7_2, b7_2, intBin, F7o, hk, hk', hkn, hhp, hw, hwa, hwn, p1, f1, b0, b1, b5, b7, b10, b11, b12, b50, b51]
    refine ⟨_, ss, ⟨some true, 0, []⟩, ⟨rfl, rfl, rfl⟩, ⟨⟨hP.at0.nl, hP.at0.ks, go_mono hP.at0.go (by omega) (by omega)⟩, by omega, by rw [List.length_append]; omega, by simp, by simpa using hP.cnt⟩, g1⟩
  | yes ss' a' t' _ p1 hnx hcp =>
    simp [-getElem?_pos, -List.append_assoc, List.getElem?_cons_zero, app_last, evl7_2, b7_2, intBin, F7o, hk, hk', hkn, hhp, hw, hwa, hwn, p1, f1, b0, b1, b5, b7, b10, b11, b12, b50, b51]
    refine ⟨_, ss', a', ⟨rfl, rfl, rfl⟩, ⟨⟨hnx.nl, hnx.known, ?_⟩, by omega, by rw [List.length_append]; omega, hnx.len, ?_⟩, g1⟩
    · have e : (1 : Int) + 17 * ((k + 1 : Nat) : Int) = 1 + 17 * (k : Int) + 17 := by omega
      rw [e]; exact hnx.tree
    · rw [hnx.out]
      exact cnt_next hP.cnt hcp hnx.core
theorem t33 (id : Nat) (nm : List UInt8) (y : Child) (H : Heap) (h : H[id]? = some (.arr 0 1 false [.str nm])) : W.call (.clo 33 [] [.optr id 0 0 0]) [y.av] H = some (.bool (decide (y.sub = -1) && decide (y.name = nm)), H ++ [.arr 0 3 false [y.av]]) := by
  rw [W_call Φ33]
  have h' : ∀ b : Blk, (H ++ [b])[id]? = some (.arr 0 1 false [.str nm]) := fun b => app_get h b
  by_cases hs : y.sub = -1
  · simp [-getElem?_pos, List.getElem?_cons_zero, app_last, fi33, c33, evFun, enterFr, intBin, resV, rvVs, rvV, h', sx11, strBin, hs]
  · simp [-getElem?_pos, List.getElem?_cons_zero, app_last, fi33, c33, evFun, enterFr, intBin, resV, rvVs, rvV, h', sx11, strBin, hs]
theorem last7 {l : Sl Spec} (ht : TreeOk l.l) {r : Sl (List UInt8)} (hr : r.l = (ordT l.l).map (nameAt l.l)) {q : Sl Int} {ss : Sl State} (hq : q.l = (ordT l.l).map (startsAt ss.l)) {o : List Event} (hok : CntOk l.l ss.l o) {k : Nat} (hk : k < r.l.length) (hkl : k ≤ 1000) {G : Heap} (g0 : G[0]? = some (.arr 0 1 false ((cntL r.l.length o).map I))) :
    okC (evC W l7_0 [(0, specs l), (10, .osl 0 0 0 r.l.length), (18, Sl.ints q), (126, Sl.av AV.str 1 r), (127, I r.l.length), (128, I k)] G)
      (fun y F' G' => y = .normal ∧ F'.keep [0, 10, 18, 126, 127, 128] = [(0, specs l), (10, .osl 0 0 0 r.l.length), (18, Sl.ints q), (126, Sl.av AV.str 1 r), (127, I r.l.length), (128, I ((k + 1 : Nat) : Int))] ∧ G'[0]? = some (.arr 0 1 false ((cntL r.l.length o).map I))) := by
  have hw := wrap_succ (k := k) (by omega)
  have hk' : (k : Int) < (r.l.length : Int) := by omega
  have hrl : r.l.length = (ordT l.l).length := by rw [hr]; simp
  have h0 : 0 < l.l.length := by have := ht.len.1; omega
  have hx := List.getElem?_eq_getElem h0
  generalize l.l[0] = x at hx
  have hkx := kids_of hx
  obtain ⟨⟨i, c⟩, hp⟩ : ∃ p, (ordT l.l)[k]? = some p := ⟨_, List.getElem?_eq_getElem (by omega)⟩
  have hwk : WorkerAt l.l (i, c) := (order_mem ht l.l.length 0 h0 (i, c) (List.mem_of_getElem? hp)).1
  have hnm : r.l[k]? = some (nameAt l.l (i, c)) := by rw [hr, List.getElem?_map, hp]; rfl
  have hqk : q.l[k]? = some (stS (tOf ss.l) (i, c)) := by rw [hq, List.getElem?_map, hp]; rfl
  have hck : (cntL r.l.length o)[k]? = some ((emS l.l o (i, c) : Nat) : Int) := by rw [hrl]; exact emS_cnt ht hp o
  obtain ⟨o1, o2⟩ := hok i c hwk
  have hown : x.children.l.any (fun y => decide (y.sub = -1) && decide (y.name = nameAt l.l (i, c))) = true → stS (tOf ss.l) (i, c) = emS l.l o (i, c) := by
    intro hany
    obtain ⟨y, hy, hy2⟩ := List.any_eq_true.1 hany
    simp only [Bool.and_eq_true, decide_eq_true_eq] at hy2
    obtain ⟨c', hc'⟩ := List.getElem?_of_mem hy
    rw [← hkx] at hc'
    obtain ⟨hi, ch, hch, hsub⟩ := hwk
    simp only at hi hch
    have hn2 : nameAt l.l (i, c) = ch.name := by unfold nameAt; simp only; rw [List.getD_eq_getElem?_getD, hch]; rfl
    exact o2 (worker_name ht h0 hc' hy2.1 hi hch hsub (hy2.2.trans hn2)).1.symm
  generalize hnmv : nameAt l.l (i, c) = nm at *
  generalize stS (tOf ss.l) (i, c) = sv at *
  generalize emS l.l o (i, c) = ev at *
  have hcl : (cntL r.l.length o).length = r.l.length := cntL_len _ _
  generalize cntL r.l.length o = C at *
  have hkC : k < C.length := by omega
  have hxl := chk_len (ht.ok 0 x hx)
  have c9 := e55 (.clo 33 [] [.optr G.length 0 0 0]) rfl (fun y => decide (y.sub = -1) && decide (y.name = nm)) (fun H => H[G.length]? = some (.arr 0 1 false [.str nm]) ∧ H[0]? = some (.arr 0 1 false (C.map I)))
    (fun y H hH => by rw [t33 G.length nm y H hH.1]; exact okV_iff.2 ⟨_, _, rfl, rfl, app_get hH.1 _, app_get hH.2 _⟩) x.children.nl (if x.children.l.isEmpty then x.children.z else 3) x.children.l (fun h => if_neg (by simpa using h)) (by omega) (G ++ [.arr 0 1 false [.str nm]]) ⟨app_last _ _, app_get g0 _⟩
  obtain ⟨v, G2, e1, rfl, e2, e3⟩ := okV_iff.1 c9
  have e1' : W.call (.clo 9 [] []) [Sl.av Child.av 3 x.children, .clo 33 [] [.optr G.length 0 0 0]] (G ++ [.arr 0 1 false [.str nm]]) = some (.bool (x.children.l.any (fun y => decide (y.sub = -1) && decide (y.name = nm))), G2) := e1
  have hA : ∀ b c : Blk, (G ++ [b]).set G.length c = G ++ [c] := fun b c => by simp
  have hlt : ¬ (ev : Int) < sv := by omega
  cases hany : x.children.l.any (fun y => decide (y.sub = -1) && decide (y.name = nm)) with
  | false =>
    rw [hany] at e1'
    simp [-getElem?_pos, List.getElem?_cons_zero, -List.append_assoc, app_last, evl7_0, b7_0, intBin, hk, hk', hw, hx, hnm, hA, e1', e3, hqk, hck, hkC, hcl, hlt]
  | true =>
    rw [hany] at e1'
    have := hown hany
    subst this
    simp [-getElem?_pos, List.getElem?_cons_zero, -List.append_assoc, app_last, evl7_0, b7_0, intBin, hk, hk', hw, hx, hnm, hA, e1', e3, hqk, hck, hkC, hcl, hlt]
theorem law7 (l : Sl Spec) (hl0 : SlOk Spec.wf l) (h : Sl Happening) (hh : SlOk Happening.wf h) : W.pure 7 [specs l, Sl.av Happening.av 3 h] = some (.bool true) := by
  have c8 := t8a l h
  have c11 := awk
  rw [W_pure Φ7 (by simp)]
  cases hf : fineT l.l h.l with
  | false =>
    rw [hf] at c8
    simp [fi7, c7, evFun, enterFr, intBin, resV, rvVs, rvV, c8, c11]
  | true =>
    rw [hf] at c8
    simp only [fineT, Bool.and_eq_true, Bool.not_eq_true', decide_eq_true_eq] at hf
    obtain ⟨⟨hg, hc⟩, hl30⟩ := hf
    have hN := (great_names hg).1
    have ht := tree_of hc
    have hlen := ht.len
    have h0 : 0 < l.l.length := by omega
    obtain ⟨r, c19, hr⟩ := t19 hN ht hc
    obtain ⟨ss, a, c12, n1, n2, n3, n4, n5⟩ := t12 hN hc
    have hord := order_len ht l.l.length 0 h0
    have hrl : r.l.length = (ordT l.l).length := by rw [hr]; simp
    have hol : (ordT l.l).length ≤ 128 := hord
    have hal : a.l.length ≤ 3000 := by rw [n3, new_events ht]; simp; omega
    have hnew : At7 l 0 0 ss [] a := ⟨⟨n5, n2, go_core (new_go ht) n1 (new_out ht).2.symm⟩, by omega, by simp, hal, by rw [List.nil_append, n3]; exact cnt_new ht n1⟩
    have hwl : IntKind.wrap .i64 ((h.l.length : Int) + 1) = (h.l.length : Int) + 1 := by rw [wrap64] <;> omega
    have hnn : (r.l.length : Int) ≤ 1048576 := by omega
    have hL := loop_fold (Φ := Φ) (live := [0, 1, 5, 7, 8, 10, 11, 50, 51]) (L := l7_2) h.l (σ := Unit) (fun _ _ s => s)
      (fun k _ F G => ∃ now ss o a, F = F7o l h (Sl.av AV.str 1 r) (states ss) (Sl.av Event.av 4 a) r.l.length now k ∧ At7 l k now ss o a ∧ G[0]? = some (.arr 0 1 false ((cntL r.l.length o).map I)))
      (fun _ y F G => y = .exit 0 ∧ ∃ now ss o a, F.keep [0, 5, 7, 10] = [(0, specs l), (5, Sl.av AV.str 1 r), (7, states ss), (10, .osl 0 0 0 r.l.length)] ∧ At7 l h.l.length now ss o a ∧ G[0]? = some (.arr 0 1 false ((cntL r.l.length (o ++ a.l)).map I))) (s := ()) (F := F7o l h (Sl.av AV.str 1 r) (states ss) (Sl.av Event.av 4 a) r.l.length 0 0) (H := [.arr 0 1 false (List.replicate r.l.length (I 0))])
      ⟨0, ss, [], a, rfl, hnew, by rw [cntL_nil]; simp⟩ ?_ ?_
    · obtain ⟨y, F1, G1, f1, rfl, now, ss1, o, a1, f2, hP, g1⟩ := okC_iff.1 hL
      simp only [keep_cons, keep_nil, List.cons.injEq, Prod.mk.injEq, true_and, and_true] at f2
      obtain ⟨q0, q5, q7, q10⟩ := f2
      simp only [F7o, Int.natCast_zero] at f1
      have hgo := hP.at0.go
      obtain ⟨cq, c32, hq, _⟩ := t32 hN hc (go_small ht hgo) (by have hh : ss1.l.length = l.l.length := hgo.len; omega) (go_valid ht (by omega) hgo) (go_fits hgo)
      have hql : cq.l.length = r.l.length := by rw [hq, hrl]; simp
      have hL2 := loop_fold (Φ := Φ) (live := [0, 10, 18, 126, 127, 128]) (L := l7_0) r.l (σ := Unit) (fun _ _ s => s)
        (fun k _ F G => F = [(0, specs l), (10, .osl 0 0 0 r.l.length), (18, Sl.ints cq), (126, Sl.av AV.str 1 r), (127, I r.l.length), (128, I k)] ∧ G[0]? = some (.arr 0 1 false ((cntL r.l.length (o ++ a1.l)).map I)))
        (fun _ y F G => y = .exit 4) (s := ()) (F := [(0, specs l), (10, .osl 0 0 0 r.l.length), (18, Sl.ints cq), (126, Sl.av AV.str 1 r), (127, I r.l.length), (128, I 0)]) (H := G1) ⟨rfl, g1⟩ ?_ ?_
      · obtain ⟨y, F2, G2, w1, rfl⟩ := okC_iff.1 hL2
        have hql' : (cq.l.length : Int) = (r.l.length : Int) := by omega
        simp [-getElem?_pos, List.getElem?_cons_zero, fi7, c7, evFun, enterFr, intBin, resV, rvVs, rvV, c8, c11, c12, c19, c32, hwl, hnn, f1, q0, q5, q7, q10, hql, hql', w1]
      · rintro k x ⟨⟩ F G hk hx ⟨rfl, g0⟩
        obtain ⟨y, F', G', v1, rfl, v2, v3⟩ := okC_iff.1 (last7 ht hr hq hP.cnt hk (by omega) g0)
        exact okC_iff.2 ⟨_, _, _, v1, rfl, v2, v3⟩
      · rintro ⟨⟩ F G ⟨rfl, g0⟩
        simp [evl7_0, b7_0, intBin]
    · rintro k hp ⟨⟩ F G hk hhp ⟨now, ss, o, a, rfl, hP, g0⟩
      obtain ⟨y, F', G', f1, rfl, now', ss', a', f2, f3, f4⟩ := okC_iff.1 (turn7 hN hc h hk (by omega) hhp (hh.all _ (List.mem_of_getElem? hhp)) (r := r) (by omega) hP g0)
      exact okC_iff.2 ⟨_, _, _, f1, rfl, now', ss', _, a', f2, f3, f4⟩
    · rintro ⟨⟩ F G ⟨now, ss, o, a, rfl, hP, g0⟩
      have hlen7 := hP.len
      have hal7 := hP.alen
      obtain ⟨y, F1, G1, f1, rfl, f2, g1⟩ := okC_iff.1 (inner7 (l := l) (h := h) (r := r) (ss := ss) (now := now) (k := h.l.length) (o := o) (a := a) (by omega) (by omega) (by omega) g0)
      simp only [F7, keep_cons, keep_nil, List.cons.injEq, Prod.mk.injEq, true_and, and_true, List.cons_append, List.nil_append] at f1 f2
      obtain ⟨b0, b1, b5, b7, b10, b11, b12, b50, b51⟩ := f2
      have hk' : (h.l.length : Int) < (h.l.length : Int) + 1 := by omega
      simp [-getElem?_pos, -List.append_assoc, List.getElem?_cons_zero, evl7_2, b7_2, intBin, F7o, hk', f1, b0, b1, b5, b7, b10, b11, b12, b50, b51]
      exact ⟨now, ss, rfl, o, a, hP, g1⟩
end
section
open Go Go.RowKit
set_option linter.unusedVariables false
set_option linter.unusedSimpArgs false
set_option maxRecDepth 10000
set_option maxHeartbeats 1000000

/-- All actions are as they must be. -/
structure OutOk (n : Nat) (tm : Int) (S0 : List Nat) (o : List Event) : Prop where
  len : S0.length = n
  ev : ∀ a ∈ o, a.time = tm ∧ (a.kind = 5 ∨ 0 ≤ a.child ∧ a.child < (n : Int))
  sim : ∀ (w a : Nat), S0[w]? = some a → ∃ b, simW w o a = some b
end
section
open Go Go.RowKit
set_option linter.unusedVariables false
set_option linter.unusedSimpArgs false
set_option maxRecDepth 10000
set_option maxHeartbeats 8000000

/-- The lists of the law, out of how the workers stand. -/
def runB (S : List Nat) : List AV := S.map fun n => .bool (decide (n ≠ 0))
def stpB (S : List Nat) : List AV := S.map fun n => .bool (decide (n = 2))
/-- Both lists, in memory. -/
structure Arrs (G : Heap) (S : List Nat) : Prop where
  r : G[0]? = some (.arr 0 1 false (runB S))
  t : G[1]? = some (.arr 0 1 false (stpB S))
theorem Arrs.len {G : Heap} {S : List Nat} (h : Arrs G S) : 1 < G.length := (List.getElem?_eq_some_iff.1 h.t).1
end
section
open Go Go.RowKit
set_option linter.unusedVariables false
set_option linter.unusedSimpArgs false
set_option maxRecDepth 10000
set_option maxHeartbeats 8000000

/-- What the loop keeps. -/
structure At6 (l : Sl Spec) (k : Nat) (now : Int) (ss : Sl State) : Prop where
  at0 : AtK l (1 + 17 * k) now ss
  time : 0 ≤ now ∧ now ≤ 255 * k
end
section
open Go Go.RowKit
set_option linter.unusedVariables false
set_option linter.unusedSimpArgs false
set_option maxRecDepth 10000
set_option maxHeartbeats 8000000
end
end Go.Proofs.Ytjknjapdcphcfaa
