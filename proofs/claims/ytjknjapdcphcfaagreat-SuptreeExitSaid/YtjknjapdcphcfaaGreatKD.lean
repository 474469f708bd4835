/-
  The reference performs the first actions; its New of trees (conditions: none). The reference's New of trees; the law SuptreeCheck: it is true (conditions: readings of the arguments). The ways through Handle (conditions: none). What one event does to the children of a supervisor: their states and the actions (conditions: none). What one event does to the children of a supervisor, for each way through Handle (conditions: none). Trees that run: the links between supervisors and the views of them (conditions: none). Trees that run: a supervisor starts (conditions: none). Trees that run: what an event does to the supervisor itself (conditions: none). Trees that run: a supervisor handles an event (conditions: none). Trees that run: performing actions (conditions: none). Trees that run: performing actions keeps a tree in order (conditions: none). Trees that run: what is due is handled (conditions: none). Trees that run: the first that is due (conditions: none). Trees that run: the root is asked to stop; a live worker exits (conditions: none). Trees that run: below a stopped supervisor nobody lives (conditions: none). Trees that run: what is due comes to an end (conditions: none).
-/
import Derived.Test.YtjknjapdcphcfaaGreatKC
namespace Go.Proofs.YtjknjapdcphcfaaGreat
open Go Go.RowKit
set_option linter.unusedVariables false
set_option linter.unusedSimpArgs false
set_option maxRecDepth 10000
set_option maxHeartbeats 4000000
section
theorem sup_set {ss : List State} {k : Nat} {s : State} (hk : k < ss.length) : setElem (ss.map State.av) k 0 s.av = some ((ss.map State.av).set k s.av) := by
 obtain ⟨x, hx⟩ : ∃ x, ss[k]? = some x := ⟨_, gEg hk⟩
 exact setAgg (cs := [I x.status, Sl.av ChildState.av 2 x.children, Sl.ints x.restarts, .bool x.failed]) (by rw [List.getElem?_map, hx]; rfl) rfl rfl
end
section
theorem great_kids {l : List Spec} (h : greatT l = false) : ∀ x ∈ l, x.children.l.length ≤ 1000 := by
 simp only [greatT, Bool.or_eq_false_iff, decide_eq_false_iff_not] at h
 intro x hx
 have := List.any_eq_false.1 h.2 x hx
 have h2 := (great_false (x := x) (by simpa using this)).1
 omega
end
section
def restartS (x : Spec) (tm : Int) (n : Nat) (r : RunSt) : RunSt := stopS tm (affL x n) (({ r with rs := recentL x tm r.rs ++ [tm] } : RunSt).setS n 4)
structure Exit (x : Spec) (s : State) (e : Event) (n : Nat) (c : ChildState) (ch : Child) : Prop where
 kind : e.kind = 1
 child : e.child = n
 hc : s.children.l[n]? = some c
 hch : x.children.l[n]? = some ch
inductive HWay (x : Spec) (s : State) (e : Event) (r : RunSt) : Prop
 | quiet (n : Nat) (c : ChildState) (ch : Child) (h : Exit x s e n c ch) (hs : c.status = 1) (hq : quietB ch e.value = true) (hr : r = (runOf s).setS n 3) (hst : s.status = 1 ∨ s.status = 2) (hf : s.failed = false)
 | fail (n : Nat) (c : ChildState) (ch : Child) (h : Exit x s e n c ch) (hs : c.status = 1) (hq : quietB ch e.value = false) (hi : x.intensity ≤ ((recentL x e.time s.restarts.l).length : Int)) (hr : r = shutS e.time { (runOf s).setS n 3 with fl := true }) (hst : s.status = 1 ∨ s.status = 2) (hf : s.failed = false)
 | again (n : Nat) (c : ChildState) (ch : Child) (h : Exit x s e n c ch) (hs : c.status = 1) (hq : quietB ch e.value = false) (hi : ((recentL x e.time s.restarts.l).length : Int) < x.intensity) (hz : ¬ Has (restartS x e.time n (runOf s)).cs 2) (hr : r = againS e.time (restartS x e.time n (runOf s))) (hst : s.status = 1 ∨ s.status = 2) (hf : s.failed = false)
 | hold (n : Nat) (c : ChildState) (ch : Child) (h : Exit x s e n c ch) (hs : c.status = 1) (hq : quietB ch e.value = false) (hi : ((recentL x e.time s.restarts.l).length : Int) < x.intensity) (hz : Has (restartS x e.time n (runOf s)).cs 2) (hr : r = { restartS x e.time n (runOf s) with st := 2 }) (hst : s.status = 1 ∨ s.status = 2) (hf : s.failed = false)
 | wait (n : Nat) (c : ChildState) (ch : Child) (h : Exit x s e n c ch) (hs : c.status = 2) (hz : Has (stopping1 n ch (runOf s)).cs 2) (hr : r = stopping1 n ch (runOf s)) (hst : s.status = 2 ∨ s.status = 3)
 | wake (n : Nat) (c : ChildState) (ch : Child) (h : Exit x s e n c ch) (hs : c.status = 2) (hz : ¬ Has (stopping1 n ch (runOf s)).cs 2) (hr : r = againS e.time (stopping1 n ch (runOf s))) (hst : s.status = 2) (hf : s.failed = false)
 | done (n : Nat) (c : ChildState) (ch : Child) (h : Exit x s e n c ch) (hs : c.status = 2) (hz : ¬ Has (stopping1 n ch (runOf s)).cs 2) (hr : r = (stopping1 n ch (runOf s)).stopped e.time) (hst : s.status = 3)
 | asked (hk : e.kind = 2) (hr : r = shutS e.time (runOf s)) (hst : s.status = 1 ∨ s.status = 2) (hf : s.failed = false)
 | still (hk : e.kind = 2) (hr : r = runOf s) (hst : s.status = 3)
theorem handle_way {x : Spec} {m : Int} {s : State} {e : Event} (hi : Inv x m (runOf s)) (hc : checkN x s e = 0) : HWay x s e (handleR x s e) := by
 obtain ⟨hk, ht, hs, hd⟩ := check_facts hc
 have hfit := hi.fit
 have hfl := hi.fl
 simp only [runOf] at hfit hfl
 unfold handleR
 rcases hk with ⟨h1, h2, h3⟩ | ⟨h1, _⟩
 ·rw [if_pos h1]
  have hin : 0 ≤ e.child ∧ e.child ≤ (x.children.l.length : Int) - 1 := by simpa [inR] using h2
  have hlen := hi.len
  simp only [runOf] at hlen
  have g1 := gEg (l := x.children.l) (i := e.child.toNat) (by omega)
  have g2 := gEg (l := s.children.l) (i := e.child.toNat) (by omega)
  have hat : Exit x s e e.child.toNat _ _ := ⟨h1, by omega, g2, g1⟩
  simp only [g1, g2]
  unfold exitedS
  split
  ·rename_i h4
   have hst : s.status = 1 ∨ s.status = 2 := by
    rcases hfit with ⟨a, _⟩ | ⟨a, _⟩ | ⟨_, _, a, _⟩ | ⟨_, a, _⟩
    ·exact .inl a
    ·exact .inr a
    ·exact absurd ⟨_, _, g2, h4⟩ a
    ·exact absurd ⟨_, _, g2, h4⟩ a
   have hf : s.failed = false := by
    cases hf : s.failed with
    | false => rfl
    | true => have := hfl hf; omega
   cases hq : quietB x.children.l[e.child.toNat] e.value with
   | true => exact .quiet _ _ _ hat h4 hq (by unfold runningS; rw [if_pos hq]) hst hf
   | false =>
    by_cases hint : x.intensity ≤ ((recentL x e.time s.restarts.l).length : Int)
    ·refine .fail _ _ _ hat h4 hq hint ?_ hst hf
     unfold runningS
     rw [if_neg (by simp [hq]), if_pos (by exact hint)]
    ·by_cases hz : Has (restartS x e.time e.child.toNat (runOf s)).cs 2
     ·refine .hold _ _ _ hat h4 hq (by omega) hz ?_ hst hf
      unfold runningS
      rw [if_neg (by simp [hq]), if_neg (by exact hint), if_neg (by have := cnt_pos.2 hz; unfold restartS at this; omega)]
      rfl
     ·refine .again _ _ _ hat h4 hq (by omega) hz ?_ hst hf
      unfold runningS
      rw [if_neg (by simp [hq]), if_neg (by exact hint), if_pos (by have := cnt_zero.2 hz; unfold restartS at this; exact this)]
      rfl
  ·rename_i h4
   have h5 : s.children.l[e.child.toNat].status = 2 := by
    unfold deadB at hd
    rw [if_pos h1, g2] at hd
    simp at hd
    exact hd h4
   have hst : s.status = 2 ∨ s.status = 3 := by
    rcases hfit with ⟨_, a, _⟩ | ⟨a, _⟩ | ⟨a, _⟩ | ⟨_, _, a, _⟩
    ·exact absurd ⟨_, _, g2, h5⟩ a
    ·exact .inl a
    ·exact .inr a
    ·exact absurd ⟨_, _, g2, h5⟩ a
   unfold stoppingS
   by_cases hz : Has (stopping1 e.child.toNat x.children.l[e.child.toNat] (runOf s)).cs 2
   ·rw [if_pos (cnt_pos.2 hz)]
    exact .wait _ _ _ hat h5 hz rfl hst
   ·rw [if_neg (by have := cnt_zero.2 hz; omega)]
    by_cases h22 : s.status = 2
    ·rw [if_pos (by exact h22)]
     refine .wake _ _ _ hat h5 hz rfl h22 ?_
     cases hf : s.failed with
     | false => rfl
     | true => have := hfl hf; omega
    ·rw [if_neg (by exact h22)]
     exact .done _ _ _ hat h5 hz rfl (by omega)
 ·rw [if_neg (by omega)]
  unfold askedS
  split
  ·rename_i h3
   exact .still h1 rfl h3
  ·rename_i h3
   have h4 : ¬ s.status = 4 := by
    unfold deadB at hd
    rw [if_neg (by omega)] at hd
    simpa using hd
   have h3' : ¬ s.status = 3 := h3
   have hst : s.status = 1 ∨ s.status = 2 := by
    rcases hfit with ⟨a, _⟩ | ⟨a, _⟩ | ⟨a, _⟩ | ⟨a, _⟩
    ·exact .inl a
    ·exact .inr a
    ·exact absurd a h3'
    ·exact absurd a h4
   refine .asked h1 rfl hst ?_
   cases hf : s.failed with
   | false => rfl
   | true => have := hfl hf; omega
theorem shut_out (tm : Int) (r : RunSt) : (shutS tm r).out = r.out ++ stopOut tm (holdS r).cs (idxs r.cs.length) ++ (if (shutS tm r).st = 4 ∧ r.fl = true then [⟨5, -1, 0, tm⟩] else []) := by
 have h1 := stopS_rest tm (idxs r.cs.length) (holdS r)
 rw [holdS_rest] at h1
 simp only [RunSt.rest, Prod.mk.injEq] at h1
 have h2 := stopS_out' tm (idxs r.cs.length) (holdS r) (idxs_nn _) (idxs_nodup _)
 rw [holdS_out] at h2
 unfold shutS
 split
 ·rw [if_neg (by simp), List.append_nil]
  exact h2
 ·obtain ⟨s1, s2, s3, s4, s5⟩ := stopped_rest tm (stopS tm (idxs r.cs.length) (holdS r))
  rw [s5, h2, s1, h1.2.2]
  cases r.fl <;> simp
end
section
inductive Pend
 | no | start | stop
 deriving DecidableEq
def pendA : List Event → Nat → Pend
 | [], _ => .no
 | a :: r, c => if a.kind = 3 ∧ a.child = (c : Int) then .start else if a.kind = 4 ∧ a.child = (c : Int) then .stop else pendA r c
theorem pendA_no {l : List Event} {c : Nat} (h : ∀ a ∈ l, a.child = (c : Int) → a.kind ≠ 3 ∧ a.kind ≠ 4) : pendA l c = .no := by
 induction l with
 | nil => rfl
 | cons a l ih =>
  have ha := h a (by simp)
  unfold pendA
  rw [if_neg (fun hh => (ha hh.2).1 hh.1), if_neg (fun hh => (ha hh.2).2 hh.1)]
  exact ih (fun b hb => h b (by simp [hb]))
theorem pendA_start {l : List Event} {c : Nat} (h : ∃ a ∈ l, a.kind = 3 ∧ a.child = (c : Int)) (hn : ∀ a ∈ l, a.child = (c : Int) → a.kind ≠ 4) : pendA l c = .start := by
 induction l with
 | nil => obtain ⟨a, ha, _⟩ := h; cases ha
 | cons a l ih =>
  unfold pendA
  by_cases h3 : a.kind = 3 ∧ a.child = (c : Int)
  ·rw [if_pos h3]
  ·rw [if_neg h3, if_neg (fun hh => hn a (by simp) hh.2 hh.1)]
   obtain ⟨b, hb, hb2⟩ := h
   rcases List.mem_cons.1 hb with rfl | hb
   ·exact absurd hb2 h3
   ·exact ih ⟨b, hb, hb2⟩ (fun b hb => hn b (by simp [hb]))
theorem pendA_stop {l : List Event} {c : Nat} (h : ∃ a ∈ l, a.kind = 4 ∧ a.child = (c : Int)) (hn : ∀ a ∈ l, a.child = (c : Int) → a.kind ≠ 3) : pendA l c = .stop := by
 induction l with
 | nil => obtain ⟨a, ha, _⟩ := h; cases ha
 | cons a l ih =>
  unfold pendA
  rw [if_neg (fun hh => hn a (by simp) hh.2 hh.1)]
  by_cases h4 : a.kind = 4 ∧ a.child = (c : Int)
  ·rw [if_pos h4]
  ·rw [if_neg h4]
   obtain ⟨b, hb, hb2⟩ := h
   rcases List.mem_cons.1 hb with rfl | hb
   ·exact absurd hb2 h4
   ·exact ih ⟨b, hb, hb2⟩ (fun b hb => hn b (by simp [hb]))
theorem mem_again {tm : Int} {cs : List ChildState} {a : Event} : a ∈ againOut tm cs 0 ↔ ∃ (c : Nat) (v : ChildState), cs[c]? = some v ∧ v.status = 4 ∧ a = ⟨3, c, 0, tm⟩ := by
 unfold againOut
 rw [List.mem_filterMap]
 constructor
 ·rintro ⟨⟨v, c⟩, h1, h2⟩
  simp only at h2
  split at h2
  ·cases h2
   exact ⟨c, v, List.mem_zipIdx_iff_getElem?.1 h1, ‹_›, rfl⟩
  ·cases h2
 ·rintro ⟨c, v, h1, h2, rfl⟩
  exact ⟨(v, c), List.mem_zipIdx_iff_getElem?.2 h1, by simp [h2]⟩
theorem mem_stop {tm : Int} {cs : List ChildState} {l : List Int} (hl : ∀ i ∈ l, 0 ≤ i) {a : Event} : a ∈ stopOut tm cs l ↔ ∃ (c : Nat) (v : ChildState), (c : Int) ∈ l ∧ cs[c]? = some v ∧ v.status = 1 ∧ a = ⟨4, c, 0, tm⟩ := by
 unfold stopOut
 rw [List.mem_filterMap]
 constructor
 ·rintro ⟨i, h1, h2⟩
  have hi := hl i (List.mem_reverse.1 h1)
  unfold stopEv at h2
  split at h2
  ·rename_i v hv
   split at h2
   ·cases h2
    have e : ((i.toNat : Nat) : Int) = i := by omega
    exact ⟨i.toNat, v, by rw [e]; exact List.mem_reverse.1 h1, hv, ‹_›, by rw [e]⟩
   ·cases h2
  ·cases h2
 ·rintro ⟨c, v, h1, h2, h3, rfl⟩
  refine ⟨(c : Int), List.mem_reverse.2 h1, ?_⟩
  unfold stopEv
  have e : ((c : Int)).toNat = c := by omega
  rw [e, h2]; simp [h3]
theorem again_nodup (tm : Int) (cs : List ChildState) : ((againOut tm cs 0).map Event.child).Nodup := by
 unfold againOut
 rw [List.Nodup, List.pairwise_map, List.pairwise_filterMap]
 have hnd : cs.zipIdx.Pairwise (fun a b => a.2 ≠ b.2) := by
  have : (cs.zipIdx.map Prod.snd).Nodup := by rw [List.zipIdx_map_snd]; exact List.nodup_range'
  exact List.pairwise_map.1 this
 refine hnd.imp ?_
 intro a b hab x hx y hy
 split at hx
 ·split at hy
  ·cases hx; cases hy
   simp only
   omega
  ·cases hy
 ·cases hx
theorem stop_nodup (tm : Int) (cs : List ChildState) {l : List Int} (hd : l.Nodup) : ((stopOut tm cs l).map Event.child).Nodup := by
 unfold stopOut
 rw [List.Nodup, List.pairwise_map, List.pairwise_filterMap]
 have hr : l.reverse.Pairwise (fun a b => a ≠ b) := List.pairwise_reverse.2 (hd.imp fun h e => h e.symm)
 refine hr.imp ?_
 intro a b hab x hx y hy
 have key : ∀ {i : Int} {z : Event}, stopEv tm cs i = some z → z.child = i := by
  intro i z hz
  unfold stopEv at hz
  split at hz
  ·split at hz
   ·cases hz; rfl
   ·cases hz
  ·cases hz
 rw [key hx, key hy]
 exact hab
def StepV (v v' : Int) (p : Pend) (e : Prop) : Prop :=
 (¬ e ∧ v' = v ∧ p = .no) ∨ (v' = 1 ∧ p = .start ∧ (v = 4 ∨ e)) ∨ (¬ e ∧ v = 1 ∧ v' = 2 ∧ p = .stop) ∨ ((v' = 3 ∨ v' = 4) ∧ p = .no ∧ (v = 4 ∨ e))
structure HSum (old : List ChildState) (ex : Option Nat) (r : RunSt) : Prop where
 len : r.cs.length = old.length
 nodup : (r.out.map Event.child).Nodup
 child : ∀ (c : Nat) (v : ChildState), old[c]? = some v → ∃ v', r.cs[c]? = some v' ∧ StepV v.status v'.status (pendA r.out c) (ex = some c)
 st : r.st = 4 → ∀ a ∈ r.out, a.kind = 5
end
section
theorem esc_kind {p : Prop} [Decidable p] {tm : Int} {a : Event} (h : a ∈ (if p then [(⟨5, -1, 0, tm⟩ : Event)] else [])) : a = ⟨5, -1, 0, tm⟩ := by
 split at h
 ·simpa using h
 ·cases h
theorem esc_nodup {p : Prop} [Decidable p] {tm : Int} {l : List Event} (hd : (l.map Event.child).Nodup) (hl : ∀ a ∈ l, 0 ≤ a.child) : ((l ++ (if p then [(⟨5, -1, 0, tm⟩ : Event)] else [])).map Event.child).Nodup := by
 rw [List.map_append, List.nodup_append]
 refine ⟨hd, by split <;> simp, ?_⟩
 intro x hx y hy
 obtain ⟨a, ha, rfl⟩ := List.mem_map.1 hx
 obtain ⟨b, hb, rfl⟩ := List.mem_map.1 hy
 have h1 := hl a ha
 rw [esc_kind hb]
 simp only
 omega
theorem hold1_one {v : ChildState} : (hold1 v).status = 1 ↔ v.status = 1 := by
 unfold hold1
 split
 ·rename_i h; simp [h]
 ·exact Iff.rfl
theorem hsum_shut {old : List ChildState} {ex : Option Nat} {r0 : RunSt} {tm : Int} (h0 : r0.out = []) (hlen : r0.cs.length = old.length)
  (hc : ∀ (c : Nat) (v : ChildState), old[c]? = some v → ∃ v0, r0.cs[c]? = some v0 ∧ ((ex ≠ some c ∧ v0 = v) ∨ (ex = some c ∧ v0.status = 3))) : HSum old ex (shutS tm r0) := by
 have hout := shut_out tm r0
 rw [h0, List.nil_append] at hout
 have hcs := shut_cs tm r0
 have hmem : ∀ a : Event, a ∈ stopOut tm (holdS r0).cs (idxs r0.cs.length) ↔ ∃ (c : Nat) (v : ChildState), r0.cs[c]? = some v ∧ v.status = 1 ∧ a = ⟨4, c, 0, tm⟩ := by
  intro a
  rw [mem_stop (idxs_nn _)]
  constructor
  ·rintro ⟨c, w, h1, h2, h3, h4⟩
   rw [holdS_at] at h2
   obtain ⟨v, h5, rfl⟩ := map_at h2
   exact ⟨c, v, h5, hold1_one.1 h3, h4⟩
  ·rintro ⟨c, v, h1, h2, h3⟩
   exact ⟨c, hold1 v, (idxs_mem _ _).2 (gEs.1 h1).1, by rw [holdS_at, h1]; rfl, hold1_one.2 h2, h3⟩
 refine ⟨?_, ?_, ?_, ?_⟩
 ·have := (actw_shut tm r0).cs
  rw [this, hlen]
 ·rw [hout]
  refine esc_nodup (stop_nodup tm _ (idxs_nodup _)) (fun a ha => ?_)
  obtain ⟨c, v, _, _, rfl⟩ := (hmem a).1 ha
  simp only; omega
 ·intro c v hv
  obtain ⟨v0, h1, h2⟩ := hc c v hv
  have hat := shut_at tm r0 c
  rw [h1, ← hcs] at hat
  refine ⟨_, hat, ?_⟩
  try dsimp only
  have hno : v0.status ≠ 1 → pendA (shutS tm r0).out c = .no := by
   intro hne
   refine pendA_no (fun a ha hch => ?_)
   rw [hout, List.mem_append] at ha
   rcases ha with ha | ha
   ·obtain ⟨c', w, g1, g2, rfl⟩ := (hmem a).1 ha
    simp only at hch
    have : c' = c := by omega
    subst this
    rw [h1] at g1; cases g1
    exact absurd g2 hne
   ·rw [esc_kind ha]; exact ⟨by simp, by simp⟩
  have hyes : v0.status = 1 → pendA (shutS tm r0).out c = .stop := by
   intro he
   refine pendA_stop ⟨⟨4, c, 0, tm⟩, by rw [hout]; exact List.mem_append_left _ ((hmem _).2 ⟨c, v0, h1, he, rfl⟩), rfl, rfl⟩ (fun a ha hch => ?_)
   rw [hout, List.mem_append] at ha
   rcases ha with ha | ha
   ·obtain ⟨c', w, g1, g2, rfl⟩ := (hmem a).1 ha
    simp
   ·rw [esc_kind ha]; simp
  by_cases h4 : v0.status = 4
  ·rw [if_pos h4]
   rcases h2 with ⟨g1, rfl⟩ | ⟨g1, g2⟩
   ·exact .inr (.inr (.inr ⟨.inl rfl, hno (by omega), .inl h4⟩))
   ·omega
  ·rw [if_neg h4]
   by_cases h5 : v0.status = 1
   ·rw [if_pos h5]
    rcases h2 with ⟨g1, rfl⟩ | ⟨g1, g2⟩
    ·exact .inr (.inr (.inl ⟨g1, h5, rfl, hyes h5⟩))
    ·omega
   ·rw [if_neg h5]
    rcases h2 with ⟨g1, rfl⟩ | ⟨g1, g2⟩
    ·exact .inl ⟨g1, rfl, hno h5⟩
    ·exact .inr (.inr (.inr ⟨.inl g2, hno h5, .inr g1⟩))
 ·intro hst a ha
  rw [hout, List.mem_append] at ha
  rcases ha with ha | ha
  ·exfalso
   obtain ⟨c, v, g1, g2, rfl⟩ := (hmem a).1 ha
   have hat := shut_at tm r0 c
   rw [g1] at hat
   have h2 : Has (stopS tm (idxs r0.cs.length) (holdS r0)).cs 2 := ⟨c, _, hat, by dsimp only; rw [if_neg (by omega), if_pos g2]; rfl⟩
   unfold shutS at hst
   rw [if_pos (cnt_pos.2 h2)] at hst
   simp at hst
  ·rw [esc_kind ha]
theorem hsum_again {old : List ChildState} {ex : Option Nat} {r0 : RunSt} {tm : Int} (h0 : r0.out = []) (hlen : r0.cs.length = old.length)
  (hc : ∀ (c : Nat) (v : ChildState), old[c]? = some v → ∃ v0, r0.cs[c]? = some v0 ∧ ((ex ≠ some c ∧ v0 = v) ∨ (ex = some c ∧ (v0.status = 3 ∨ v0.status = 4)))) : HSum old ex (againS tm r0) := by
 have hout := againS_out tm r0
 rw [h0, List.nil_append] at hout
 refine ⟨?_, ?_, ?_, ?_⟩
 ·have := (actw_again tm r0).cs
  rw [this, hlen]
 ·rw [hout]; exact again_nodup _ _
 ·intro c v hv
  obtain ⟨v0, h1, h2⟩ := hc c v hv
  have hat := againS_at tm r0 c
  rw [h1] at hat
  refine ⟨_, hat, ?_⟩
  try dsimp only
  by_cases h4 : v0.status = 4
  ·have hp : pendA (againS tm r0).out c = .start := by
    refine pendA_start ⟨⟨3, c, 0, tm⟩, by rw [hout]; exact mem_again.2 ⟨c, v0, h1, h4, rfl⟩, rfl, rfl⟩ (fun a ha _ => ?_)
    rw [hout] at ha
    obtain ⟨c', w, _, _, rfl⟩ := mem_again.1 ha
    simp
   have hs : (again1 v0).status = 1 := by unfold again1; rw [if_pos h4]
   rcases h2 with ⟨g1, rfl⟩ | ⟨g1, g2⟩
   ·exact .inr (.inl ⟨hs, hp, .inl h4⟩)
   ·exact .inr (.inl ⟨hs, hp, .inr g1⟩)
  ·have hp : pendA (againS tm r0).out c = .no := by
    refine pendA_no (fun a ha hch => ?_)
    rw [hout] at ha
    obtain ⟨c', w, g1, g2, rfl⟩ := mem_again.1 ha
    simp only at hch
    have : c' = c := by omega
    subst this
    rw [h1] at g1; cases g1
    exact absurd g2 h4
   have hs : again1 v0 = v0 := by unfold again1; rw [if_neg h4]
   rw [hs]
   rcases h2 with ⟨g1, rfl⟩ | ⟨g1, g2⟩
   ·exact .inl ⟨g1, rfl, hp⟩
   ·exact .inr (.inr (.inr ⟨g2, hp, .inr g1⟩))
 ·intro hst
  rw [(againS_rest tm r0).1] at hst
  cases hst
def exOf (e : Event) : Option Nat := if e.kind = 1 then some e.child.toNat else none
theorem exOf_exit {x : Spec} {s : State} {e : Event} {n : Nat} {c : ChildState} {ch : Child} (h : Exit x s e n c ch) : exOf e = some n := by
 unfold exOf; rw [if_pos h.kind, h.child]; simp
theorem setS_step {s : State} {n : Nat} {st : Int} (hst : st = 3 ∨ st = 4) (c : Nat) (v : ChildState) (hv : s.children.l[c]? = some v) : ∃ v', ((runOf s).setS n st).cs[c]? = some v' ∧ ((some n ≠ some c ∧ v' = v) ∨ (some n = some c ∧ (v'.status = 3 ∨ v'.status = 4))) := by
 have h := setS_at (runOf s) n st c
 have hv' : (runOf s).cs[c]? = some v := hv
 rw [hv'] at h
 refine ⟨_, h, ?_⟩
 try dsimp only
 by_cases hcn : c = n
 ·subst hcn
  rw [if_pos rfl]
  exact .inr ⟨rfl, hst⟩
 ·rw [if_neg hcn]
  exact .inl ⟨fun e => hcn (by cases e; rfl), rfl⟩
theorem hsum_set {s : State} {n : Nat} {st : Int} (hst : st = 3 ∨ st = 4) {r : RunSt} (hl : r.cs = ((runOf s).setS n st).cs) (ho : ∀ a ∈ r.out, a.kind = 5) (hd : (r.out.map Event.child).Nodup) : HSum s.children.l (some n) r := by
 refine ⟨by rw [hl, setS_len]; rfl, hd, fun c v hv => ?_, fun _ => ho⟩
 obtain ⟨v', h1, h2⟩ := setS_step hst c v hv
 refine ⟨v', by rw [hl]; exact h1, ?_⟩
 have hp : pendA r.out c = .no := pendA_no (fun a ha _ => by rw [ho a ha]; exact ⟨by decide, by decide⟩)
 rcases h2 with ⟨g1, rfl⟩ | ⟨g1, g2⟩
 ·exact .inl ⟨g1, rfl, hp⟩
 ·exact .inr (.inr (.inr ⟨g2, hp, .inr g1⟩))
theorem hsum_handle {x : Spec} {m : Int} {s : State} {e : Event} {r : RunSt} (hi : Inv x m (runOf s)) (hw : HWay x s e r) : HSum s.children.l (exOf e) r := by
 have hst1 : ∀ (n : Nat) (ch : Child), (if (runOf s).st = 2 ∧ ¬ ch.policy = 3 then (4 : Int) else 3) = 3 ∨ (if (runOf s).st = 2 ∧ ¬ ch.policy = 3 then (4 : Int) else 3) = 4 := fun n ch => by split <;> simp
 have rest : ∀ (n : Nat) (a : Nat) (v : ChildState), s.children.l[a]? = some v → (restartS x e.time n (runOf s)).cs[a]? = some (stop1 (affL x n) a (if a = n then v.to 4 else v)) := by
  intro n a v hv
  unfold restartS
  rw [stopS_at e.time _ _ (affL_nn x n), setS_at]
  have hv' : (runOf s).cs[a]? = some v := hv
  simp only
  rw [hv']
  rfl
 have rout : ∀ n : Nat, (restartS x e.time n (runOf s)).out = stopOut e.time ((({ runOf s with rs := recentL x e.time (runOf s).rs ++ [e.time] } : RunSt).setS n 4)).cs (affL x n) := by
  intro n
  unfold restartS
  rw [stopS_out' e.time _ _ (affL_nn x n) (affL_nodup x n), setS_out]
  rfl
 have rmem : ∀ (n : Nat) (a : Event), a ∈ (restartS x e.time n (runOf s)).out ↔ ∃ (c : Nat) (v : ChildState), s.children.l[c]? = some v ∧ c ≠ n ∧ (c : Int) ∈ affL x n ∧ v.status = 1 ∧ a = ⟨4, c, 0, e.time⟩ := by
  intro n a
  rw [rout, mem_stop (affL_nn x n)]
  constructor
  ·rintro ⟨c, w, h1, h2, h3, h4⟩
   rw [setS_at] at h2
   obtain ⟨v, h5, rfl⟩ := map_at h2
   by_cases hcn : c = n
   ·rw [if_pos hcn] at h3; simp at h3
   ·rw [if_neg hcn] at h3
    exact ⟨c, v, h5, hcn, h1, h3, h4⟩
  ·rintro ⟨c, v, h1, h2, h3, h4, h5⟩
   refine ⟨c, v, h3, ?_, h4, h5⟩
   rw [setS_at]
   have hv' : (runOf s).cs[c]? = some v := h1
   simp only
   rw [hv', Option.map_some, if_neg h2]
 have rlen : ∀ n : Nat, (restartS x e.time n (runOf s)).cs.length = s.children.l.length := by
  intro n
  unfold restartS
  rw [stopS_len, setS_len]; rfl
 cases hw with
 | quiet n c ch h hs hq hr hst hf =>
  rw [exOf_exit h, hr]
  exact hsum_set (.inl rfl) rfl (by rw [setS_out]; intro a ha; cases ha) (by rw [setS_out]; exact List.nodup_nil)
 | fail n c ch h hs hq hi hr hst hf =>
  rw [exOf_exit h, hr]
  refine hsum_shut (by simp only [setS_out]; rfl) (by simp only [setS_len]; rfl) (fun a v hv => ?_)
  have hat := setS_at (runOf s) n 3 a
  have hv' : (runOf s).cs[a]? = some v := hv
  rw [hv'] at hat
  refine ⟨_, hat, ?_⟩
  try dsimp only
  by_cases hcn : a = n
  ·subst hcn
   rw [if_pos rfl]
   exact .inr ⟨rfl, rfl⟩
  ·rw [if_neg hcn]
   exact .inl ⟨fun e => hcn (by cases e; rfl), rfl⟩
 | again n c ch h hs hq hi hz hr hst hf =>
  rw [exOf_exit h, hr]
  have hno : ∀ (a : Nat) (v : ChildState), s.children.l[a]? = some v → a ≠ n → ¬ ((a : Int) ∈ affL x n ∧ v.status = 1) := by
   intro a v hv hne hh
   refine hz ⟨a, _, rest n a v hv, ?_⟩
   rw [if_neg hne]
   unfold stop1
   rw [if_pos hh]; rfl
  refine hsum_again ?_ (rlen n) (fun a v hv => ⟨_, rest n a v hv, ?_⟩)
  ·rw [List.eq_nil_iff_forall_not_mem]
   intro a ha
   obtain ⟨c, v, h1, h2, h3, h4, _⟩ := (rmem n a).1 ha
   exact hno c v h1 h2 ⟨h3, h4⟩
  ·by_cases hcn : a = n
   ·subst hcn
    rw [if_pos rfl]
    unfold stop1
    rw [if_neg (by simp)]
    exact .inr ⟨rfl, .inr rfl⟩
   ·rw [if_neg hcn]
    unfold stop1
    rw [if_neg (hno a v hv hcn)]
    exact .inl ⟨fun e => hcn (by cases e; rfl), rfl⟩
 | hold n c ch h hs hq hi hz hr hst hf =>
  rw [exOf_exit h, hr]
  refine ⟨rlen n, ?_, fun a v hv => ⟨_, rest n a v hv, ?_⟩, fun h4 => by simp at h4⟩
  ·show ((restartS x e.time n (runOf s)).out.map Event.child).Nodup
   rw [rout]; exact stop_nodup _ _ (affL_nodup x n)
  ·show StepV _ _ (pendA (restartS x e.time n (runOf s)).out a) _
   have hno : (a = n ∨ ¬ ((a : Int) ∈ affL x n ∧ v.status = 1)) → pendA (restartS x e.time n (runOf s)).out a = .no := by
    intro hh
    refine pendA_no (fun b hb hch => ?_)
    obtain ⟨c', w, h1, h2, h3, h4, rfl⟩ := (rmem n b).1 hb
    simp only at hch
    have : c' = a := by omega
    subst this
    rw [hv] at h1; cases h1
    rcases hh with hh | hh
    ·exact absurd hh h2
    ·exact absurd ⟨h3, h4⟩ hh
   by_cases hcn : a = n
   ·subst hcn
    rw [if_pos rfl]
    unfold stop1
    rw [if_neg (by simp)]
    exact .inr (.inr (.inr ⟨.inr rfl, hno (.inl rfl), .inr rfl⟩))
   ·rw [if_neg hcn]
    have hne : ¬ (some n = some a) := fun e => hcn (by cases e; rfl)
    unfold stop1
    by_cases hh : (a : Int) ∈ affL x n ∧ v.status = 1
    ·rw [if_pos hh]
     refine .inr (.inr (.inl ⟨hne, hh.2, rfl, pendA_stop ⟨⟨4, a, 0, e.time⟩, (rmem n _).2 ⟨a, v, hv, hcn, hh.1, hh.2, rfl⟩, rfl, rfl⟩ (fun b hb _ => ?_)⟩))
     obtain ⟨c', w, h1, h2, h3, h4, rfl⟩ := (rmem n b).1 hb
     simp
    ·rw [if_neg hh]
     exact .inl ⟨hne, rfl, hno (.inr hh)⟩
 | wait n c ch h hs hz hr hst =>
  rw [exOf_exit h, hr]
  exact hsum_set (hst1 n ch) rfl (by unfold stopping1; rw [setS_out]; intro a ha; cases ha) (by unfold stopping1; rw [setS_out]; exact List.nodup_nil)
 | wake n c ch h hs hz hr hst hf =>
  rw [exOf_exit h, hr]
  exact hsum_again (by unfold stopping1; rw [setS_out]; rfl) (by unfold stopping1; rw [setS_len]; rfl) (fun a v hv => setS_step (hst1 n ch) a v hv)
 | done n c ch h hs hz hr hst =>
  rw [exOf_exit h, hr]
  obtain ⟨s1, s2, s3, s4, s5⟩ := stopped_rest e.time (stopping1 n ch (runOf s))
  have ho : ((stopping1 n ch (runOf s)).stopped e.time).out = (if (stopping1 n ch (runOf s)).fl = true then [(⟨5, -1, 0, e.time⟩ : Event)] else []) := by
   rw [s5]; unfold stopping1; rw [setS_out]; rfl
  refine hsum_set (hst1 n ch) s4 (fun a ha => ?_) ?_
  ·rw [ho] at ha; rw [esc_kind ha]
  ·rw [ho]; split <;> simp
 | asked hk hr hst hf =>
  have he : exOf e = none := by unfold exOf; rw [if_neg (by omega)]
  rw [he, hr]
  exact hsum_shut rfl rfl (fun a v hv => ⟨v, hv, .inl ⟨by simp, rfl⟩⟩)
 | still hk hr hst =>
  have he : exOf e = none := by unfold exOf; rw [if_neg (by omega)]
  rw [he, hr]
  refine ⟨rfl, List.nodup_nil, fun a v hv => ⟨v, hv, .inl ⟨by simp, rfl, rfl⟩⟩, fun h => ?_⟩
  intro a ha; cases ha
end
section
abbrev sAt (t : Tree) (k : Nat) : State := t.ss.getD k default
def viewT (t : Tree) (i c : Nat) : Int := ((sAt t i).children.l.getD c default).status
def LinkK (v st : Int) (f : Bool) (b : Prop) : Pend → Prop
 | .no => (v = 1 ∧ (b ∧ st = 4 ∨ ¬ b ∧ (st = 1 ∨ st = 2 ∨ st = 3 ∧ f = true))) ∨ (v = 2 ∧ (b ∧ st = 4 ∨ ¬ b ∧ st = 3)) ∨ ((v = 3 ∨ v = 4) ∧ ¬ b ∧ st = 4)
 | .start => v = 1 ∧ ¬ b ∧ st = 4
 | .stop => v = 2 ∧ (b ∧ st = 4 ∨ ¬ b ∧ (st = 1 ∨ st = 2 ∨ st = 3 ∧ f = true))
def Below (l : List Spec) (i k : Nat) : Prop := ∃ c j, SubAt l i c j ∧ Desc l j k
theorem Below.gt {l : List Spec} (ht : TreeOk l) {i k : Nat} (h : Below l i k) : i < k := by
 obtain ⟨c, j, h1, h2⟩ := h
 have := (h1.lt ht).1
 have := h2.le ht
 omega
theorem Below.desc {l : List Spec} {i k : Nat} (h : Below l i k) : Desc l i k := by
 obtain ⟨c, j, h1, h2⟩ := h
 exact h2.head h1
structure QOk (l : List Spec) (tm : Int) (q : List Due) (ks : List Nat) : Prop where
 map : q.map (fun d => (d.sup, d.e.kind, d.e.child, d.e.time)) = ks.map (fun k => (((up l k).1 : Int), (1 : Int), ((up l k).2 : Int), tm))
 val : ∀ d ∈ q, d.e.value = 1 ∨ d.e.value = 7
 nodup : ks.Nodup
 range : ∀ k ∈ ks, 1 ≤ k ∧ k < l.length
theorem QOk.push {l : List Spec} {tm : Int} {q : List Due} {ks : List Nat} (h : QOk l tm q ks) {k : Nat} (hk : 1 ≤ k ∧ k < l.length) (hn : k ∉ ks) {v : Int} (hv : v = 1 ∨ v = 7) : QOk l tm (q ++ [⟨(up l k).1, ⟨1, (up l k).2, v, tm⟩⟩]) (ks ++ [k]) := by
 refine ⟨by rw [List.map_append, List.map_append, h.map]; rfl, fun d hd => ?_, ?_, fun j hj => ?_⟩
 ·rcases List.mem_append.1 hd with hd | hd
  ·exact h.val d hd
  ·simp only [List.mem_singleton] at hd; subst hd; exact hv
 ·rw [List.nodup_append]
  refine ⟨h.nodup, by simp, fun a ha b hb => ?_⟩
  simp only [List.mem_singleton] at hb
  subst hb
  exact fun e => hn (e ▸ ha)
 ·rcases List.mem_append.1 hj with hj | hj
  ·exact h.range j hj
  ·simp only [List.mem_singleton] at hj; subst hj; exact hk
structure RunInv (l : List Spec) (tm m : Int) (t : Tree) (ks : List Nat) : Prop where
 len : t.ss.length = l.length
 inv : ∀ k, k < l.length → Inv (l.getD k default) (m + 1) (runOf (sAt t k))
 time : ∀ k, k < l.length → ∀ x ∈ (sAt t k).restarts.l, x ≤ tm
 q : QOk l tm t.q ks
def SubOk (l : List Spec) (t : Tree) (ks : List Nat) (i : Nat) (p : Nat → Pend) : Prop := ∀ a c k, Desc l i a → SubAt l a c k → LinkK (viewT t a c) (sAt t k).status (sAt t k).failed (k ∈ ks) (if a = i then p c else .no)
def KeepT (l : List Spec) (X : Nat → Prop) (t : Tree) (ks : List Nat) (t' : Tree) (ks' : List Nat) : Prop := ∀ k, ¬ X k → sAt t' k = sAt t k ∧ (k ∈ ks' ↔ k ∈ ks)
theorem KeepT.refl (l : List Spec) (X : Nat → Prop) (t : Tree) (ks : List Nat) : KeepT l X t ks t ks := fun _ _ => ⟨rfl, Iff.rfl⟩
theorem KeepT.trans {l : List Spec} {X : Nat → Prop} {t t' t'' : Tree} {ks ks' ks'' : List Nat} (h : KeepT l X t ks t' ks') (h' : KeepT l X t' ks' t'' ks'') : KeepT l X t ks t'' ks'' := fun k hk => ⟨(h' k hk).1.trans (h k hk).1, (h' k hk).2.trans (h k hk).2⟩
theorem KeepT.weak {l : List Spec} {X Y : Nat → Prop} {t t' : Tree} {ks ks' : List Nat} (h : KeepT l X t ks t' ks') (hxy : ∀ k, X k → Y k) : KeepT l Y t ks t' ks' := fun k hk => h k (fun hx => hk (hxy k hx))
theorem SubOk.keep {l : List Spec} {X : Nat → Prop} {t t' : Tree} {ks ks' : List Nat} {i : Nat} {p : Nat → Pend} (h : SubOk l t ks i p) (hk : KeepT l X t ks t' ks') (hx : ∀ k, Desc l i k → ¬ X k) : SubOk l t' ks' i p := by
 intro a c k ha hs
 have h1 := h a c k ha hs
 have ka := hk a (hx a ha)
 have kk := hk k (hx k (.step ha hs))
 unfold viewT
 rw [ka.1, kk.1]
 have : (k ∈ ks') = (k ∈ ks) := propext kk.2
 rw [this]
 exact h1
theorem SubOk.child {l : List Spec} (ht : TreeOk l) {t : Tree} {ks : List Nat} {i c j : Nat} {p : Nat → Pend} (h : SubOk l t ks i p) (hs : SubAt l i c j) : SubOk l t ks j (fun _ => .no) := by
 intro a d k ha hk
 have h1 := h a d k (ha.head hs) hk
 have : a ≠ i := by have := (hs.lt ht).1; have := ha.le ht; omega
 rw [if_neg this] at h1
 split <;> exact h1
def LiveW (l : List Spec) (t : Tree) (i c : Nat) : Prop := WorkerAt l (i, c) ∧ (viewT t i c = 1 ∨ viewT t i c = 2)
def AliveT (l : List Spec) (t : Tree) (k : Nat) : Prop := ∃ i c, Desc l k i ∧ LiveW l t i c
structure Mono (l : List Spec) (t : Tree) (ks : List Nat) (t' : Tree) (ks' : List Nat) : Prop where
 live : ∀ i c, LiveW l t i c → LiveW l t' i c
 stop : ∀ k, (sAt t k).status = 4 → (sAt t' k).status = 4 ∨ AliveT l t' k
 due : ∀ k, k ∈ ks' → k ∈ ks ∨ (sAt t k).status ≠ 4 ∨ AliveT l t' k
theorem Mono.alive {l : List Spec} {t t' : Tree} {ks ks' : List Nat} (h : Mono l t ks t' ks') {k : Nat} (ha : AliveT l t k) : AliveT l t' k := by
 obtain ⟨i, c, h1, h2⟩ := ha
 exact ⟨i, c, h1, h.live i c h2⟩
theorem Mono.refl (l : List Spec) (t : Tree) (ks : List Nat) : Mono l t ks t ks := ⟨fun _ _ h => h, fun _ h => .inl h, fun _ h => .inl h⟩
theorem Mono.trans {l : List Spec} {t t' t'' : Tree} {ks ks' ks'' : List Nat} (h : Mono l t ks t' ks') (h' : Mono l t' ks' t'' ks'') : Mono l t ks t'' ks'' := by
 refine ⟨fun i c hl => h'.live i c (h.live i c hl), fun k hk => ?_, fun k hk => ?_⟩
 ·rcases h.stop k hk with h1 | h1
  ·exact h'.stop k h1
  ·exact .inr (h'.alive h1)
 ·rcases h'.due k hk with h1 | h1 | h1
  ·rcases h.due k h1 with h2 | h2 | h2
   ·exact .inl h2
   ·exact .inr (.inl h2)
   ·exact .inr (.inr (h'.alive h2))
  ·by_cases h4 : (sAt t k).status = 4
   ·rcases h.stop k h4 with h2 | h2
    ·exact absurd h2 h1
    ·exact .inr (.inr (h'.alive h2))
   ·exact .inr (.inl h4)
  ·exact .inr (.inr h1)
def simE (w : Int) (s : Option Nat) (a : Event) : Option Nat :=
 s.bind fun n => if a.kind = 5 then some n else if a.child = w then (if a.kind = 3 then (if n = 0 then some 1 else none) else if n = 1 then some 2 else none) else some n
def simW (w : Int) (o : List Event) (n : Nat) : Option Nat := o.foldl (simE w) (some n)
def stat (v : Int) : Nat := if v = 1 then 1 else if v = 2 then 2 else 0
def SimK (v : Int) (p : Pend) (s : Option Nat) : Prop := match p with | .no => s = some (stat v) | .start => v = 1 ∧ s = some 0 | .stop => v = 2 ∧ s = some 1
structure SimT (l : List Spec) (tm : Int) (s0 : Nat → Nat → Nat) (t : Tree) (π : Nat → Nat → Pend) : Prop where
 ev : ∀ a ∈ t.out, a.time = tm ∧ (a.kind = 5 ∨ 0 ≤ a.child ∧ a.child < ((ordT l).length : Int))
 wk : ∀ i c, WorkerAt l (i, c) → SimK (viewT t i c) (π i c) (simW (numW (ordT l) (i, (c : Int))) t.out (s0 i c))
theorem SimT.congr {l : List Spec} {tm : Int} {s0 : Nat → Nat → Nat} {t : Tree} {π π' : Nat → Nat → Pend} (h : SimT l tm s0 t π) (he : ∀ i c, WorkerAt l (i, c) → π' i c = π i c) : SimT l tm s0 t π' := ⟨h.ev, fun i c hw => by rw [he i c hw]; exact h.wk i c hw⟩
theorem SimT.same {l : List Spec} {tm : Int} {s0 : Nat → Nat → Nat} {t t' : Tree} {π : Nat → Nat → Pend} (h : SimT l tm s0 t π) (ho : t'.out = t.out) (hs : t'.ss = t.ss) : SimT l tm s0 t' π := by
 refine ⟨by rw [ho]; exact h.ev, fun i c hw => ?_⟩
 have := h.wk i c hw
 unfold viewT sAt at this ⊢
 rw [ho, hs]; exact this
end
section
theorem sAt_set {t : Tree} {j : Nat} {s : State} (hj : j < t.ss.length) (k : Nat) : sAt { t with ss := t.ss.set j s } k = if k = j then s else sAt t k := by
 unfold sAt
 simp only [gEd]
 by_cases h : k = j
 ·subst h
  rw [if_pos rfl, gEt hj]; rfl
 ·rw [if_neg h, gEn (fun e => h e.symm)]
structure ActsG (n : Nat) (tm : Int) (acts : List Event) : Prop where
 nodup : (acts.map Event.child).Nodup
 all : ∀ a ∈ acts, ActN n tm a
theorem startL_child (n : Nat) : (startL n).map Event.child = (List.range n).map (fun c : Nat => (c : Int)) := by
 induction n with
 | zero => rfl
 | succ n ih => rw [startL, List.map_append, ih, List.range_succ, List.map_append]; rfl
theorem start_acts (tm : Int) (n : Nat) : ActsG n tm (timed tm (startL n)) := by
 refine ⟨?_, fun a ha => ?_⟩
 ·have : (timed tm (startL n)).map Event.child = (startL n).map Event.child := by simp [timed]
  rw [this, startL_child, List.Nodup, List.pairwise_map]
  exact List.nodup_range.imp fun h => by omega
 ·obtain ⟨b, hb, rfl⟩ := List.mem_map.1 ha
  have := startL_kind n b hb
  exact ⟨rfl, this.2.2.2, .inr ⟨.inl this.1, this.2.1, this.2.2.1⟩⟩
theorem start_pend (tm : Int) {n c : Nat} (hc : c < n) : pendA (timed tm (startL n)) c = .start := by
 refine pendA_start ⟨⟨3, c, 0, tm⟩, List.mem_map.2 ⟨⟨3, c, 0, 0⟩, List.mem_of_getElem? (startL_at n c hc), rfl⟩, rfl, rfl⟩ (fun a ha _ => ?_)
 obtain ⟨b, hb, rfl⟩ := List.mem_map.1 ha
 have := (startL_kind n b hb).1
 simp only
 omega
theorem views_done {x : Spec} {m : Int} {s : State} (hi : Inv x m (runOf s)) (h4 : s.status = 4) (c : Nat) (v : ChildState) (hv : s.children.l[c]? = some v) : v.status = 3 := by
 have hf := hi.fit
 simp only [runOf] at hf
 have hok := hi.ok c v hv
 rcases hf with ⟨a, _⟩ | ⟨a, _⟩ | ⟨a, _⟩ | ⟨_, a, b, d⟩
 ·omega
 ·omega
 ·omega
 ·have h1 : v.status ≠ 1 := fun e => a ⟨c, v, hv, e⟩
  have h2 : v.status ≠ 2 := fun e => b ⟨c, v, hv, e⟩
  have h3 : v.status ≠ 4 := fun e => d ⟨c, v, hv, e⟩
  omega
end
section
theorem handle_not4 {x : Spec} {s : State} {e : Event} {r : RunSt} (hw : HWay x s e r) : s.status ≠ 4 := by
 cases hw with
 | quiet n c ch h hs hq hr hst hf => omega
 | fail n c ch h hs hq hi hr hst hf => omega
 | again n c ch h hs hq hi hz hr hst hf => omega
 | hold n c ch h hs hq hi hz hr hst hf => omega
 | wait n c ch h hs hz hr hst => omega
 | wake n c ch h hs hz hr hst hf => omega
 | done n c ch h hs hz hr hst => omega
 | asked hk hr hst hf => omega
 | still hk hr hst => omega
end
section
end
section
theorem desc_parent {l : List Spec} (ht : TreeOk l) {j a c k : Nat} (h : Desc l j k) (hs : SubAt l a c k) : k = j ∨ Desc l j a := by
 cases h with
 | refl => exact .inl rfl
 | step h' hs' =>
  obtain ⟨rfl, _⟩ := ht.one hs' hs
  exact .inr h'
theorem sub_fun {l : List Spec} {i c j k : Nat} (h : SubAt l i c j) (h' : SubAt l i c k) : k = j := by
 obtain ⟨_, ch, h1, h2⟩ := h
 obtain ⟨_, ch', h1', h2'⟩ := h'
 rw [h1] at h1'; cases h1'
 omega
end
section
end
section
structure TreeGo (l : List Spec) (tm m : Int) (t : Tree) (ks : List Nat) : Prop where
 len : t.ss.length = l.length
 inv : ∀ k, k < l.length → Inv (l.getD k default) m (runOf (sAt t k))
 time : ∀ k, k < l.length → ∀ x ∈ (sAt t k).restarts.l, x ≤ tm
 q : QOk l tm t.q ks
 link : ∀ a c k, SubAt l a c k → LinkK (viewT t a c) (sAt t k).status (sAt t k).failed (k ∈ ks) .no
end
section
end
section
end
section
end
section
open Classical in
noncomputable def wtK (l : List Spec) (t : Tree) (ks : List Nat) (k : Nat) : Nat := if (sAt t k).status ≠ 4 ∧ ¬ AliveT l t k then 2 else if k ∈ ks then 1 else 0
end
end Go.Proofs.YtjknjapdcphcfaaGreat
