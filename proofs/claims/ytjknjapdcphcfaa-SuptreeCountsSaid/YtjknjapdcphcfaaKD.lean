/-
  The reference performs the first actions; its New of trees (conditions: none). The reference's New of trees; the law SuptreeCheck: it is true (conditions: readings of the arguments). The ways through Handle (conditions: none). What one event does to the children of a supervisor: their states and the actions (conditions: none). What one event does to the children of a supervisor, for each way through Handle (conditions: none). Trees that run: the links between supervisors and the views of them (conditions: none). Trees that run: a supervisor starts (conditions: none). Trees that run: what an event does to the supervisor itself (conditions: none). Trees that run: a supervisor handles an event (conditions: none). Trees that run: performing actions (conditions: none). Trees that run: performing actions keeps a tree in order (conditions: none).
-/
import Derived.Test.YtjknjapdcphcfaaKC
namespace Go.Proofs.Ytjknjapdcphcfaa
section
open Go Go.RowKit
set_option linter.unusedVariables false
set_option linter.unusedSimpArgs false
set_option maxRecDepth 10000
set_option maxHeartbeats 4000000
end
section
open Go Go.RowKit
set_option linter.unusedVariables false
set_option linter.unusedSimpArgs false
set_option maxRecDepth 10000
set_option maxHeartbeats 4000000

theorem t18a (l : Sl Spec) : W.pure 18 [specs l, .isl (some true) 0 []] = some (.bool (greatT l.l)) := by
  by_cases h10 : 10 < l.l.length
  · have h10' : 10 < (l.l.length : Int) := by omega
    rw [W_pure Φ18 (by simp)]
    unfold greatT
    simp [fi18, c18, evFun, enterFr, intBin, resV, rvVs, rvV, h10, h10']
  · exact t18 l (by omega)
end
section
open Go Go.RowKit
set_option linter.unusedVariables false
set_option linter.unusedSimpArgs false
set_option maxRecDepth 10000

/-- A restart: what is told to stop. -/
def restartS (x : Spec) (tm : Int) (n : Nat) (r : RunSt) : RunSt := stopS tm (affL x n) (({ r with rs := recentL x tm r.rs ++ [tm] } : RunSt).setS n 4)
structure Exit (x : Spec) (s : State) (e : Event) (n : Nat) (c : ChildState) (ch : Child) : Prop where
  kind : e.kind = 1
  child : e.child = n
  hc : s.children.l[n]? = some c
  hch : x.children.l[n]? = some ch
inductive HWay (x : Spec) (s : State) (e : Event) (r : RunSt) : Prop
  | quiet (n : Nat) (c : ChildState) (ch : Child) (h : Exit x s e n c ch) (hs : c.status = 1) (hq : quietB ch e.value = true) (hr : r = (runOf s).setS n 3) (hst : s.status = 1 ∨ s.status = 2) (hf : s.failed = false)
  | fail (n : Nat) (c : ChildState) (ch : Child) (h : Exit x s e n c ch) (hs : c.status = 1) (hq : quietB ch e.value = false) (hi : x.intensity ≤ ((recentL x e.time s.restarts.l).length : Int)) (hr : r = shutS e.time { (runOf s).setS n 3 with fl := true }) (hst : s.status = 1 ∨ s.status = 2) (hf : s.failed = false)
  | again (n : Nat) (c : ChildState) (ch : Child) (h : Exit x s e n c ch) (hs : c.status = 1) (hq : quietB ch e.value = false) (hi : ((recentL x e.time s.restarts.l).length : Int) < x.intensity) (hz : ¬ Has (restartS x e.time n (runOf s)).cs 2) (hr : r = againS e.time (restartS x e.time n (runOf s))) (hst : s.status = 1 ∨ s.status = 2) (hf : s.failed = false)
  | hold (n : Nat) (c : ChildState) (ch : Child) (h : Exit x s e n c ch) (hs : c.status = 1) (hq : quietB ch e.value = false) (hi : ((recentL x e.time s.restarts.l).length : Int) < x.intensity) (hz : Has (restartS x e.time n (runOf s)).cs 2) (hr : r = { restartS x e.time n (runOf s) with st := 2 }) (hst : s.status = 1 ∨ s.status = 2) (hf : s.failed = false)
  | wait (n : Nat) (c : ChildState) (ch : Child) (h : Exit x s e n c ch) (hs : c.status = 2) (hz : Has (stopping1 n ch (runOf s)).cs 2) (hr : r = stopping1 n ch (runOf s)) (hst : s.status = 2 ∨ s.status = 3)
  | wake (n : Nat) (c : ChildState) (ch : Child) (h : Exit x s e n c ch) (hs : c.status = 2) (hz : ¬ Has (stopping1 n ch (runOf s)).cs 2) (hr : r = againS e.time (stopping1 n ch (runOf s))) (hst : s.status = 2) (hf : s.failed = false)
  | done (n : Nat) (c : ChildState) (ch : Child) (h : Exit x s e n c ch) (hs : c.status = 2) (hz : ¬ Has (stopping1 n ch (runOf s)).cs 2) (hr : r = (stopping1 n ch (runOf s)).stopped e.time) (hst : s.status = 3)
  | asked (hk : e.kind = 2) (hr : r = shutS e.time (runOf s)) (hst : s.status = 1 ∨ s.status = 2) (hf : s.failed = false)
  | still (hk : e.kind = 2) (hr : r = runOf s) (hst : s.status = 3)
theorem handle_way {x : Spec} {m : Int} {s : State} {e : Event} (hi : Inv x m (runOf s)) (hc : checkN x s e = 0) : HWay x s e (handleR x s e) := by
  obtain ⟨hk, ht, hs, hd⟩ := check_facts hc
  have hfit := hi.fit
  have hfl := hi.fl
  simp only [runOf] at hfit hfl
  unfold handleR
  rcases hk with ⟨h1, h2, h3⟩ | ⟨h1, _⟩
  · rw [if_pos h1]
    have hin : 0 ≤ e.child ∧ e.child ≤ (x.children.l.length : Int) - 1 := by simpa [inR] using h2
    have hlen := hi.len
    simp only [runOf] at hlen
    have g1 := List.getElem?_eq_getElem (l := x.children.l) (i := e.child.toNat) (by omega)
    have g2 := List.getElem?_eq_getElem (l := s.children.l) (i := e.child.toNat) (by omega)
    have hat : Exit x s e e.child.toNat _ _ := ⟨h1, by omega, g2, g1⟩
    simp only [g1, g2]
    unfold exitedS
    split
    · rename_i h4
      have hst : s.status = 1 ∨ s.status = 2 := by
        rcases hfit with ⟨a, _⟩ | ⟨a, _⟩ | ⟨_, _, a, _⟩ | ⟨_, a, _⟩
        · exact .inl a
        · exact .inr a
        · exact absurd ⟨_, _, g2, h4⟩ a
        · exact absurd ⟨_, _, g2, h4⟩ a
      have hf : s.failed = false := by
        cases hf : s.failed with
        | false => rfl
        | true => have := hfl hf; omega
      cases hq : quietB x.children.l[e.child.toNat] e.value with
      | true => exact .quiet _ _ _ hat h4 hq (by unfold runningS; rw [if_pos hq]) hst hf
      | false =>
        by_cases hint : x.intensity ≤ ((recentL x e.time s.restarts.l).length : Int)
        · refine .fail _ _ _ hat h4 hq hint ?_ hst hf
          unfold runningS
          rw [if_neg (by simp [hq]), if_pos (by exact hint)]
        · by_cases hz : Has (restartS x e.time e.child.toNat (runOf s)).cs 2
          · refine .hold _ _ _ hat h4 hq (by omega) hz ?_ hst hf
            unfold runningS
            rw [if_neg (by simp [hq]), if_neg (by exact hint), if_neg (by have := cnt_pos.2 hz; unfold restartS at this; omega)]
            rfl
          · refine .again _ _ _ hat h4 hq (by omega) hz ?_ hst hf
            unfold runningS
            rw [if_neg (by simp [hq]), if_neg (by exact hint), if_pos (by have := cnt_zero.2 hz; unfold restartS at this; exact this)]
            rfl
    · rename_i h4
      have h5 : s.children.l[e.child.toNat].status = 2 := by
        unfold deadB at hd
        rw [if_pos h1, g2] at hd
        simp at hd
        exact hd h4
      have hst : s.status = 2 ∨ s.status = 3 := by
        rcases hfit with ⟨_, a, _⟩ | ⟨a, _⟩ | ⟨a, _⟩ | ⟨_, _, a, _⟩
        · exact absurd ⟨_, _, g2, h5⟩ a
        · exact .inl a
        · exact .inr a
        · exact absurd ⟨_, _, g2, h5⟩ a
      unfold stoppingS
      by_cases hz : Has (stopping1 e.child.toNat x.children.l[e.child.toNat] (runOf s)).cs 2
      · rw [if_pos (cnt_pos.2 hz)]
        exact .wait _ _ _ hat h5 hz rfl hst
      · rw [if_neg (by have := cnt_zero.2 hz; omega)]
        by_cases h22 : s.status = 2
        · rw [if_pos (by exact h22)]
          refine .wake _ _ _ hat h5 hz rfl h22 ?_
          cases hf : s.failed with
          | false => rfl
          | true => have := hfl hf; omega
        · rw [if_neg (by exact h22)]
          exact .done _ _ _ hat h5 hz rfl (by omega)
  · rw [if_neg (by omega)]
    unfold askedS
    split
    · rename_i h3
      exact .still h1 rfl h3
    · rename_i h3
      have h4 : ¬ s.status = 4 := by
        unfold deadB at hd
        rw [if_neg (by omega)] at hd
        simpa using hd
      have h3' : ¬ s.status = 3 := h3
      have hst : s.status = 1 ∨ s.status = 2 := by
        rcases hfit with ⟨a, _⟩ | ⟨a, _⟩ | ⟨a, _⟩ | ⟨a, _⟩
        · exact .inl a
        · exact .inr a
        · exact absurd a h3'
        · exact absurd a h4
      refine .asked h1 rfl hst ?_
      cases hf : s.failed with
      | false => rfl
      | true => have := hfl hf; omega
theorem shut_out (tm : Int) (r : RunSt) : (shutS tm r).out = r.out ++ stopOut tm (holdS r).cs (idxs r.cs.length) ++ (if (shutS tm r).st = 4 ∧ r.fl = true then [⟨5, -1, 0, tm⟩] else []) := by
  have h1 := stopS_rest tm (idxs r.cs.length) (holdS r)
  rw [holdS_rest] at h1
  simp only [RunSt.rest, Prod.mk.injEq] at h1
  have h2 := stopS_out' tm (idxs r.cs.length) (holdS r) (idxs_nn _) (idxs_nodup _)
  rw [holdS_out] at h2
  unfold shutS
  split
  · rw [if_neg (by simp), List.append_nil]
    exact h2
  · obtain ⟨s1, s2, s3, s4, s5⟩ := stopped_rest tm (stopS tm (idxs r.cs.length) (holdS r))
    rw [s5, h2, s1, h1.2.2]
    cases r.fl <;> simp
theorem stopOut_kind (tm : Int) (cs : List ChildState) (l : List Int) : ∀ a ∈ stopOut tm cs l, a.kind = 4 := by
  intro a ha
  obtain ⟨b, _, hb⟩ := List.mem_filterMap.1 ha
  unfold stopEv at hb
  split at hb
  · split at hb
    · cases hb; rfl
    · cases hb
  · cases hb
end
section
open Go Go.RowKit
set_option linter.unusedVariables false
set_option linter.unusedSimpArgs false
set_option maxRecDepth 10000

/-- What is still to be done to a child. -/
inductive Pend
  | no | start | stop
  deriving DecidableEq
def pendA : List Event → Nat → Pend
  | [], _ => .no
  | a :: r, c => if a.kind = 3 ∧ a.child = (c : Int) then .start else if a.kind = 4 ∧ a.child = (c : Int) then .stop else pendA r c
theorem pendA_no {l : List Event} {c : Nat} (h : ∀ a ∈ l, a.child = (c : Int) → a.kind ≠ 3 ∧ a.kind ≠ 4) : pendA l c = .no := by
  induction l with
  | nil => rfl
  | cons a l ih =>
    have ha := h a (by simp)
    unfold pendA
    rw [if_neg (fun hh => (ha hh.2).1 hh.1), if_neg (fun hh => (ha hh.2).2 hh.1)]
    exact ih (fun b hb => h b (by simp [hb]))
theorem pendA_start {l : List Event} {c : Nat} (h : ∃ a ∈ l, a.kind = 3 ∧ a.child = (c : Int)) (hn : ∀ a ∈ l, a.child = (c : Int) → a.kind ≠ 4) : pendA l c = .start := by
  induction l with
  | nil => obtain ⟨a, ha, _⟩ := h; cases ha
  | cons a l ih =>
    unfold pendA
    by_cases h3 : a.kind = 3 ∧ a.child = (c : Int)
    · rw [if_pos h3]
    · rw [if_neg h3, if_neg (fun hh => hn a (by simp) hh.2 hh.1)]
      obtain ⟨b, hb, hb2⟩ := h
      rcases List.mem_cons.1 hb with rfl | hb
      · exact absurd hb2 h3
      · exact ih ⟨b, hb, hb2⟩ (fun b hb => hn b (by simp [hb]))
theorem pendA_stop {l : List Event} {c : Nat} (h : ∃ a ∈ l, a.kind = 4 ∧ a.child = (c : Int)) (hn : ∀ a ∈ l, a.child = (c : Int) → a.kind ≠ 3) : pendA l c = .stop := by
  induction l with
  | nil => obtain ⟨a, ha, _⟩ := h; cases ha
  | cons a l ih =>
    unfold pendA
    rw [if_neg (fun hh => hn a (by simp) hh.2 hh.1)]
    by_cases h4 : a.kind = 4 ∧ a.child = (c : Int)
    · rw [if_pos h4]
    · rw [if_neg h4]
      obtain ⟨b, hb, hb2⟩ := h
      rcases List.mem_cons.1 hb with rfl | hb
      · exact absurd hb2 h4
      · exact ih ⟨b, hb, hb2⟩ (fun b hb => hn b (by simp [hb]))
theorem mem_again {tm : Int} {cs : List ChildState} {a : Event} : a ∈ againOut tm cs 0 ↔ ∃ (c : Nat) (v : ChildState), cs[c]? = some v ∧ v.status = 4 ∧ a = ⟨3, c, 0, tm⟩ := by
  unfold againOut
  rw [List.mem_filterMap]
  constructor
  · rintro ⟨⟨v, c⟩, h1, h2⟩
    simp only at h2
    split at h2
    · cases h2
      exact ⟨c, v, List.mem_zipIdx_iff_getElem?.1 h1, ‹_›, rfl⟩
    · cases h2
  · rintro ⟨c, v, h1, h2, rfl⟩
    exact ⟨(v, c), List.mem_zipIdx_iff_getElem?.2 h1, by simp [h2]⟩
theorem mem_stop {tm : Int} {cs : List ChildState} {l : List Int} (hl : ∀ i ∈ l, 0 ≤ i) {a : Event} : a ∈ stopOut tm cs l ↔ ∃ (c : Nat) (v : ChildState), (c : Int) ∈ l ∧ cs[c]? = some v ∧ v.status = 1 ∧ a = ⟨4, c, 0, tm⟩ := by
  unfold stopOut
  rw [List.mem_filterMap]
  constructor
  · rintro ⟨i, h1, h2⟩
    have hi := hl i (List.mem_reverse.1 h1)
    unfold stopEv at h2
    split at h2
    · rename_i v hv
      split at h2
      · cases h2
        have e : ((i.toNat : Nat) : Int) = i := by omega
        exact ⟨i.toNat, v, by rw [e]; exact List.mem_reverse.1 h1, hv, ‹_›, by rw [e]⟩
      · cases h2
    · cases h2
  · rintro ⟨c, v, h1, h2, h3, rfl⟩
    refine ⟨(c : Int), List.mem_reverse.2 h1, ?_⟩
    unfold stopEv
    have e : ((c : Int)).toNat = c := by omega
    rw [e, h2]; simp [h3]
theorem again_nodup (tm : Int) (cs : List ChildState) : ((againOut tm cs 0).map Event.child).Nodup := by
  unfold againOut
  rw [List.Nodup, List.pairwise_map, List.pairwise_filterMap]
  have hnd : cs.zipIdx.Pairwise (fun a b => a.2 ≠ b.2) := by
    have : (cs.zipIdx.map Prod.snd).Nodup := by rw [List.zipIdx_map_snd]; exact List.nodup_range'
    exact List.pairwise_map.1 this
  refine hnd.imp ?_
  intro a b hab x hx y hy
  split at hx
  · split at hy
    · cases hx; cases hy
      simp only
      omega
    · cases hy
  · cases hx
theorem stop_nodup (tm : Int) (cs : List ChildState) {l : List Int} (hd : l.Nodup) : ((stopOut tm cs l).map Event.child).Nodup := by
  unfold stopOut
  rw [List.Nodup, List.pairwise_map, List.pairwise_filterMap]
  have hr : l.reverse.Pairwise (fun a b => a ≠ b) := List.pairwise_reverse.2 (hd.imp fun h e => h e.symm)
  refine hr.imp ?_
  intro a b hab x hx y hy
  have key : ∀ {i : Int} {z : Event}, stopEv tm cs i = some z → z.child = i := by
    intro i z hz
    unfold stopEv at hz
    split at hz
    · split at hz
      · cases hz; rfl
      · cases hz
    · cases hz
  rw [key hx, key hy]
  exact hab
/-- One child: its state before and after, the action, and whether it is the child that exited. -/
def StepV (v v' : Int) (p : Pend) (e : Prop) : Prop :=
  (¬ e ∧ v' = v ∧ p = .no) ∨ (v' = 1 ∧ p = .start ∧ (v = 4 ∨ e)) ∨ (¬ e ∧ v = 1 ∧ v' = 2 ∧ p = .stop) ∨ ((v' = 3 ∨ v' = 4) ∧ p = .no ∧ (v = 4 ∨ e))
/-- What an event does to the children. -/
structure HSum (old : List ChildState) (ex : Option Nat) (r : RunSt) : Prop where
  len : r.cs.length = old.length
  nodup : (r.out.map Event.child).Nodup
  child : ∀ (c : Nat) (v : ChildState), old[c]? = some v → ∃ v', r.cs[c]? = some v' ∧ StepV v.status v'.status (pendA r.out c) (ex = some c)
  st : r.st = 4 → ∀ a ∈ r.out, a.kind = 5
end
section
open Go Go.RowKit
set_option linter.unusedVariables false
set_option linter.unusedSimpArgs false
set_option maxRecDepth 10000

theorem esc_kind {p : Prop} [Decidable p] {tm : Int} {a : Event} (h : a ∈ (if p then [(⟨5, -1, 0, tm⟩ : Event)] else [])) : a = ⟨5, -1, 0, tm⟩ := by
  split at h
  · simpa using h
  · cases h
theorem esc_nodup {p : Prop} [Decidable p] {tm : Int} {l : List Event} (hd : (l.map Event.child).Nodup) (hl : ∀ a ∈ l, 0 ≤ a.child) : ((l ++ (if p then [(⟨5, -1, 0, tm⟩ : Event)] else [])).map Event.child).Nodup := by
  rw [List.map_append, List.nodup_append]
  refine ⟨hd, by split <;> simp, ?_⟩
  intro x hx y hy
  obtain ⟨a, ha, rfl⟩ := List.mem_map.1 hx
  obtain ⟨b, hb, rfl⟩ := List.mem_map.1 hy
  have h1 := hl a ha
  rw [esc_kind hb]
  simp only
  omega
theorem hold1_one {v : ChildState} : (hold1 v).status = 1 ↔ v.status = 1 := by
  unfold hold1
  split
  · rename_i h; simp [h]
  · exact Iff.rfl
theorem hsum_shut {old : List ChildState} {ex : Option Nat} {r0 : RunSt} {tm : Int} (h0 : r0.out = []) (hlen : r0.cs.length = old.length)
    (hc : ∀ (c : Nat) (v : ChildState), old[c]? = some v → ∃ v0, r0.cs[c]? = some v0 ∧ ((ex ≠ some c ∧ v0 = v) ∨ (ex = some c ∧ v0.status = 3))) : HSum old ex (shutS tm r0) := by
  have hout := shut_out tm r0
  rw [h0, List.nil_append] at hout
  have hcs := shut_cs tm r0
  have hmem : ∀ a : Event, a ∈ stopOut tm (holdS r0).cs (idxs r0.cs.length) ↔ ∃ (c : Nat) (v : ChildState), r0.cs[c]? = some v ∧ v.status = 1 ∧ a = ⟨4, c, 0, tm⟩ := by
    intro a
    rw [mem_stop (idxs_nn _)]
    constructor
    · rintro ⟨c, w, h1, h2, h3, h4⟩
      rw [holdS_at] at h2
      obtain ⟨v, h5, rfl⟩ := map_at h2
      exact ⟨c, v, h5, hold1_one.1 h3, h4⟩
    · rintro ⟨c, v, h1, h2, h3⟩
      exact ⟨c, hold1 v, (idxs_mem _ _).2 (List.getElem?_eq_some_iff.1 h1).1, by rw [holdS_at, h1]; rfl, hold1_one.2 h2, h3⟩
  refine ⟨?_, ?_, ?_, ?_⟩
  · have := (actw_shut tm r0).cs
    rw [this, hlen]
  · rw [hout]
    refine esc_nodup (stop_nodup tm _ (idxs_nodup _)) (fun a ha => ?_)
    obtain ⟨c, v, _, _, rfl⟩ := (hmem a).1 ha
    simp only; omega
  · intro c v hv
    obtain ⟨v0, h1, h2⟩ := hc c v hv
    have hat := shut_at tm r0 c
    rw [h1, ← hcs] at hat
    refine ⟨_, hat, ?_⟩
    try dsimp only
    have hno : v0.status ≠ 1 → pendA (shutS tm r0).out c = .no := by
      intro hne
      refine pendA_no (fun a ha hch => ?_)
      rw [hout, List.mem_append] at ha
      rcases ha with ha | ha
      · obtain ⟨c', w, g1, g2, rfl⟩ := (hmem a).1 ha
        simp only at hch
        have : c' = c := by omega
        subst this
        rw [h1] at g1; cases g1
        exact absurd g2 hne
      · rw [esc_kind ha]; exact ⟨by simp, by simp⟩
    have hyes : v0.status = 1 → pendA (shutS tm r0).out c = .stop := by
      intro he
      refine pendA_stop ⟨⟨4, c, 0, tm⟩, by rw [hout]; exact List.mem_append_left _ ((hmem _).2 ⟨c, v0, h1, he, rfl⟩), rfl, rfl⟩ (fun a ha hch => ?_)
      rw [hout, List.mem_append] at ha
      rcases ha with ha | ha
      · obtain ⟨c', w, g1, g2, rfl⟩ := (hmem a).1 ha
        simp
      · rw [esc_kind ha]; simp
    by_cases h4 : v0.status = 4
    · rw [if_pos h4]
      rcases h2 with ⟨g1, rfl⟩ | ⟨g1, g2⟩
      · exact .inr (.inr (.inr ⟨.inl rfl, hno (by omega), .inl h4⟩))
      · omega
    · rw [if_neg h4]
      by_cases h5 : v0.status = 1
      · rw [if_pos h5]
        rcases h2 with ⟨g1, rfl⟩ | ⟨g1, g2⟩
        · exact .inr (.inr (.inl ⟨g1, h5, rfl, hyes h5⟩))
        · omega
      · rw [if_neg h5]
        rcases h2 with ⟨g1, rfl⟩ | ⟨g1, g2⟩
        · exact .inl ⟨g1, rfl, hno h5⟩
        · exact .inr (.inr (.inr ⟨.inl g2, hno h5, .inr g1⟩))
  · intro hst a ha
    rw [hout, List.mem_append] at ha
    rcases ha with ha | ha
    · exfalso
      obtain ⟨c, v, g1, g2, rfl⟩ := (hmem a).1 ha
      have hat := shut_at tm r0 c
      rw [g1] at hat
      have h2 : Has (stopS tm (idxs r0.cs.length) (holdS r0)).cs 2 := ⟨c, _, hat, by dsimp only; rw [if_neg (by omega), if_pos g2]; rfl⟩
      unfold shutS at hst
      rw [if_pos (cnt_pos.2 h2)] at hst
      simp at hst
    · rw [esc_kind ha]
theorem hsum_again {old : List ChildState} {ex : Option Nat} {r0 : RunSt} {tm : Int} (h0 : r0.out = []) (hlen : r0.cs.length = old.length)
    (hc : ∀ (c : Nat) (v : ChildState), old[c]? = some v → ∃ v0, r0.cs[c]? = some v0 ∧ ((ex ≠ some c ∧ v0 = v) ∨ (ex = some c ∧ (v0.status = 3 ∨ v0.status = 4)))) : HSum old ex (againS tm r0) := by
  have hout := againS_out tm r0
  rw [h0, List.nil_append] at hout
  refine ⟨?_, ?_, ?_, ?_⟩
  · have := (actw_again tm r0).cs
    rw [this, hlen]
  · rw [hout]; exact again_nodup _ _
  · intro c v hv
    obtain ⟨v0, h1, h2⟩ := hc c v hv
    have hat := againS_at tm r0 c
    rw [h1] at hat
    refine ⟨_, hat, ?_⟩
    try dsimp only
    by_cases h4 : v0.status = 4
    · have hp : pendA (againS tm r0).out c = .start := by
        refine pendA_start ⟨⟨3, c, 0, tm⟩, by rw [hout]; exact mem_again.2 ⟨c, v0, h1, h4, rfl⟩, rfl, rfl⟩ (fun a ha _ => ?_)
        rw [hout] at ha
        obtain ⟨c', w, _, _, rfl⟩ := mem_again.1 ha
        simp
      have hs : (again1 v0).status = 1 := by unfold again1; rw [if_pos h4]
      rcases h2 with ⟨g1, rfl⟩ | ⟨g1, g2⟩
      · exact .inr (.inl ⟨hs, hp, .inl h4⟩)
      · exact .inr (.inl ⟨hs, hp, .inr g1⟩)
    · have hp : pendA (againS tm r0).out c = .no := by
        refine pendA_no (fun a ha hch => ?_)
        rw [hout] at ha
        obtain ⟨c', w, g1, g2, rfl⟩ := mem_again.1 ha
        simp only at hch
        have : c' = c := by omega
        subst this
        rw [h1] at g1; cases g1
        exact absurd g2 h4
      have hs : again1 v0 = v0 := by unfold again1; rw [if_neg h4]
      rw [hs]
      rcases h2 with ⟨g1, rfl⟩ | ⟨g1, g2⟩
      · exact .inl ⟨g1, rfl, hp⟩
      · exact .inr (.inr (.inr ⟨g2, hp, .inr g1⟩))
  · intro hst
    rw [(againS_rest tm r0).1] at hst
    cases hst
def exOf (e : Event) : Option Nat := if e.kind = 1 then some e.child.toNat else none
theorem exOf_exit {x : Spec} {s : State} {e : Event} {n : Nat} {c : ChildState} {ch : Child} (h : Exit x s e n c ch) : exOf e = some n := by
  unfold exOf; rw [if_pos h.kind, h.child]; simp
theorem setS_step {s : State} {n : Nat} {st : Int} (hst : st = 3 ∨ st = 4) (c : Nat) (v : ChildState) (hv : s.children.l[c]? = some v) : ∃ v', ((runOf s).setS n st).cs[c]? = some v' ∧ ((some n ≠ some c ∧ v' = v) ∨ (some n = some c ∧ (v'.status = 3 ∨ v'.status = 4))) := by
  have h := setS_at (runOf s) n st c
  have hv' : (runOf s).cs[c]? = some v := hv
  rw [hv'] at h
  refine ⟨_, h, ?_⟩
  try dsimp only
  by_cases hcn : c = n
  · subst hcn
    rw [if_pos rfl]
    exact .inr ⟨rfl, hst⟩
  · rw [if_neg hcn]
    exact .inl ⟨fun e => hcn (by cases e; rfl), rfl⟩
theorem hsum_set {s : State} {n : Nat} {st : Int} (hst : st = 3 ∨ st = 4) {r : RunSt} (hl : r.cs = ((runOf s).setS n st).cs) (ho : ∀ a ∈ r.out, a.kind = 5) (hd : (r.out.map Event.child).Nodup) : HSum s.children.l (some n) r := by
  refine ⟨by rw [hl, setS_len]; rfl, hd, fun c v hv => ?_, fun _ => ho⟩
  obtain ⟨v', h1, h2⟩ := setS_step hst c v hv
  refine ⟨v', by rw [hl]; exact h1, ?_⟩
  have hp : pendA r.out c = .no := pendA_no (fun a ha _ => by rw [ho a ha]; exact ⟨by decide, by decide⟩)
  rcases h2 with ⟨g1, rfl⟩ | ⟨g1, g2⟩
  · exact .inl ⟨g1, rfl, hp⟩
  · exact .inr (.inr (.inr ⟨g2, hp, .inr g1⟩))
theorem hsum_handle {x : Spec} {m : Int} {s : State} {e : Event} {r : RunSt} (hi : Inv x m (runOf s)) (hw : HWay x s e r) : HSum s.children.l (exOf e) r := by
  have hst1 : ∀ (n : Nat) (ch : Child), (if (runOf s).st = 2 ∧ ¬ ch.policy = 3 then (4 : Int) else 3) = 3 ∨ (if (runOf s).st = 2 ∧ ¬ ch.policy = 3 then (4 : Int) else 3) = 4 := fun n ch => by split <;> simp
  have rest : ∀ (n : Nat) (a : Nat) (v : ChildState), s.children.l[a]? = some v → (restartS x e.time n (runOf s)).cs[a]? = some (stop1 (affL x n) a (if a = n then v.to 4 else v)) := by
    intro n a v hv
    unfold restartS
    rw [stopS_at e.time _ _ (affL_nn x n), setS_at]
    have hv' : (runOf s).cs[a]? = some v := hv
    simp only
    rw [hv']
    rfl
  have rout : ∀ n : Nat, (restartS x e.time n (runOf s)).out = stopOut e.time ((({ runOf s with rs := recentL x e.time (runOf s).rs ++ [e.time] } : RunSt).setS n 4)).cs (affL x n) := by
    intro n
    unfold restartS
    rw [stopS_out' e.time _ _ (affL_nn x n) (affL_nodup x n), setS_out]
    rfl
  have rmem : ∀ (n : Nat) (a : Event), a ∈ (restartS x e.time n (runOf s)).out ↔ ∃ (c : Nat) (v : ChildState), s.children.l[c]? = some v ∧ c ≠ n ∧ (c : Int) ∈ affL x n ∧ v.status = 1 ∧ a = ⟨4, c, 0, e.time⟩ := by
    intro n a
    rw [rout, mem_stop (affL_nn x n)]
    constructor
    · rintro ⟨c, w, h1, h2, h3, h4⟩
      rw [setS_at] at h2
      obtain ⟨v, h5, rfl⟩ := map_at h2
      by_cases hcn : c = n
      · rw [if_pos hcn] at h3; simp at h3
      · rw [if_neg hcn] at h3
        exact ⟨c, v, h5, hcn, h1, h3, h4⟩
    · rintro ⟨c, v, h1, h2, h3, h4, h5⟩
      refine ⟨c, v, h3, ?_, h4, h5⟩
      rw [setS_at]
      have hv' : (runOf s).cs[c]? = some v := h1
      simp only
      rw [hv', Option.map_some, if_neg h2]
  have rlen : ∀ n : Nat, (restartS x e.time n (runOf s)).cs.length = s.children.l.length := by
    intro n
    unfold restartS
    rw [stopS_len, setS_len]; rfl
  cases hw with
  | quiet n c ch h hs hq hr hst hf =>
    rw [exOf_exit h, hr]
    exact hsum_set (.inl rfl) rfl (by rw [setS_out]; intro a ha; cases ha) (by rw [setS_out]; exact List.nodup_nil)
  | fail n c ch h hs hq hi hr hst hf =>
    rw [exOf_exit h, hr]
    refine hsum_shut (by simp only [setS_out]; rfl) (by simp only [setS_len]; rfl) (fun a v hv => ?_)
    have hat := setS_at (runOf s) n 3 a
    have hv' : (runOf s).cs[a]? = some v := hv
    rw [hv'] at hat
    refine ⟨_, hat, ?_⟩
    try dsimp only
    by_cases hcn : a = n
    · subst hcn
      rw [if_pos rfl]
      exact .inr ⟨rfl, rfl⟩
    · rw [if_neg hcn]
      exact .inl ⟨fun e => hcn (by cases e; rfl), rfl⟩
  | again n c ch h hs hq hi hz hr hst hf =>
    rw [exOf_exit h, hr]
    have hno : ∀ (a : Nat) (v : ChildState), s.children.l[a]? = some v → a ≠ n → ¬ ((a : Int) ∈ affL x n ∧ v.status = 1) := by
      intro a v hv hne hh
      refine hz ⟨a, _, rest n a v hv, ?_⟩
      rw [if_neg hne]
      unfold stop1
      rw [if_pos hh]; rfl
    refine hsum_again ?_ (rlen n) (fun a v hv => ⟨_, rest n a v hv, ?_⟩)
    · rw [List.eq_nil_iff_forall_not_mem]
      intro a ha
      obtain ⟨c, v, h1, h2, h3, h4, _⟩ := (rmem n a).1 ha
      exact hno c v h1 h2 ⟨h3, h4⟩
    · by_cases hcn : a = n
      · subst hcn
        rw [if_pos rfl]
        unfold stop1
        rw [if_neg (by simp)]
        exact .inr ⟨rfl, .inr rfl⟩
      · rw [if_neg hcn]
        unfold stop1
        rw [if_neg (hno a v hv hcn)]
        exact .inl ⟨fun e => hcn (by cases e; rfl), rfl⟩
  | hold n c ch h hs hq hi hz hr hst hf =>
    rw [exOf_exit h, hr]
    refine ⟨rlen n, ?_, fun a v hv => ⟨_, rest n a v hv, ?_⟩, fun h4 => by simp at h4⟩
    · show ((restartS x e.time n (runOf s)).out.map Event.child).Nodup
      rw [rout]; exact stop_nodup _ _ (affL_nodup x n)
    · show StepV _ _ (pendA (restartS x e.time n (runOf s)).out a) _
      have hno : (a = n ∨ ¬ ((a : Int) ∈ affL x n ∧ v.status = 1)) → pendA (restartS x e.time n (runOf s)).out a = .no := by
        intro hh
        refine pendA_no (fun b hb hch => ?_)
        obtain ⟨c', w, h1, h2, h3, h4, rfl⟩ := (rmem n b).1 hb
        simp only at hch
        have : c' = a := by omega
        subst this
        rw [hv] at h1; cases h1
        rcases hh with hh | hh
        · exact absurd hh h2
        · exact absurd ⟨h3, h4⟩ hh
      by_cases hcn : a = n
      · subst hcn
        rw [if_pos rfl]
        unfold stop1
        rw [if_neg (by simp)]
        exact .inr (.inr (.inr ⟨.inr rfl, hno (.inl rfl), .inr rfl⟩))
      · rw [if_neg hcn]
        have hne : ¬ (some n = some a) := fun e => hcn (by cases e; rfl)
        unfold stop1
        by_cases hh : (a : Int) ∈ affL x n ∧ v.status = 1
        · rw [if_pos hh]
          refine .inr (.inr (.inl ⟨hne, hh.2, rfl, pendA_stop ⟨⟨4, a, 0, e.time⟩, (rmem n _).2 ⟨a, v, hv, hcn, hh.1, hh.2, rfl⟩, rfl, rfl⟩ (fun b hb _ => ?_)⟩))
          obtain ⟨c', w, h1, h2, h3, h4, rfl⟩ := (rmem n b).1 hb
          simp
        · rw [if_neg hh]
          exact .inl ⟨hne, rfl, hno (.inr hh)⟩
  | wait n c ch h hs hz hr hst =>
    rw [exOf_exit h, hr]
    exact hsum_set (hst1 n ch) rfl (by unfold stopping1; rw [setS_out]; intro a ha; cases ha) (by unfold stopping1; rw [setS_out]; exact List.nodup_nil)
  | wake n c ch h hs hz hr hst hf =>
    rw [exOf_exit h, hr]
    exact hsum_again (by unfold stopping1; rw [setS_out]; rfl) (by unfold stopping1; rw [setS_len]; rfl) (fun a v hv => setS_step (hst1 n ch) a v hv)
  | done n c ch h hs hz hr hst =>
    rw [exOf_exit h, hr]
    obtain ⟨s1, s2, s3, s4, s5⟩ := stopped_rest e.time (stopping1 n ch (runOf s))
    have ho : ((stopping1 n ch (runOf s)).stopped e.time).out = (if (stopping1 n ch (runOf s)).fl = true then [(⟨5, -1, 0, e.time⟩ : Event)] else []) := by
      rw [s5]; unfold stopping1; rw [setS_out]; rfl
    refine hsum_set (hst1 n ch) s4 (fun a ha => ?_) ?_
    · rw [ho] at ha; rw [esc_kind ha]
    · rw [ho]; split <;> simp
  | asked hk hr hst hf =>
    have he : exOf e = none := by unfold exOf; rw [if_neg (by omega)]
    rw [he, hr]
    exact hsum_shut rfl rfl (fun a v hv => ⟨v, hv, .inl ⟨by simp, rfl⟩⟩)
  | still hk hr hst =>
    have he : exOf e = none := by unfold exOf; rw [if_neg (by omega)]
    rw [he, hr]
    refine ⟨rfl, List.nodup_nil, fun a v hv => ⟨v, hv, .inl ⟨by simp, rfl, rfl⟩⟩, fun h => ?_⟩
    intro a ha; cases ha
end
section
open Go Go.RowKit
set_option linter.unusedVariables false
set_option linter.unusedSimpArgs false
set_option maxRecDepth 10000

abbrev sAt (t : Tree) (k : Nat) : State := t.ss.getD k default
def viewT (t : Tree) (i c : Nat) : Int := ((sAt t i).children.l.getD c default).status
/-- How the view of a supervisor, its status and what is due belong together; and what is still to be done. -/
def LinkK (v st : Int) (f : Bool) (b : Prop) : Pend → Prop
  | .no => (v = 1 ∧ (b ∧ st = 4 ∨ ¬ b ∧ (st = 1 ∨ st = 2 ∨ st = 3 ∧ f = true))) ∨ (v = 2 ∧ (b ∧ st = 4 ∨ ¬ b ∧ st = 3)) ∨ ((v = 3 ∨ v = 4) ∧ ¬ b ∧ st = 4)
  | .start => v = 1 ∧ ¬ b ∧ st = 4
  | .stop => v = 2 ∧ (b ∧ st = 4 ∨ ¬ b ∧ (st = 1 ∨ st = 2 ∨ st = 3 ∧ f = true))
/-- A child whose exit is handled. -/
def GoneK (v st : Int) (b : Prop) : Prop := (v = 1 ∨ v = 2) ∧ ¬ b ∧ st = 4
theorem link_step {v v' st : Int} {f : Bool} {b e : Prop} {p : Pend} (h : StepV v v' p e) (hl : ¬ e → LinkK v st f b .no) (hg : e → GoneK v st b) : LinkK v' st f b p := by
  rcases h with ⟨h1, rfl, rfl⟩ | ⟨rfl, rfl, h1⟩ | ⟨h1, rfl, rfl, rfl⟩ | ⟨h1, rfl, h2⟩
  · exact hl h1
  · have : ¬ b ∧ st = 4 := by
      by_cases he : e
      · exact (hg he).2
      · rcases h1 with rfl | h1
        · rcases hl he with ⟨h, _⟩ | ⟨h, _⟩ | ⟨_, h⟩
          · omega
          · omega
          · exact h
        · exact absurd h1 he
    exact ⟨rfl, this⟩
  · rcases hl h1 with ⟨_, h⟩ | ⟨h, _⟩ | ⟨h, _⟩
    · exact ⟨rfl, h⟩
    · omega
    · omega
  · have : ¬ b ∧ st = 4 := by
      by_cases he : e
      · exact (hg he).2
      · rcases h2 with rfl | h2
        · rcases hl he with ⟨h, _⟩ | ⟨h, _⟩ | ⟨_, h⟩
          · omega
          · omega
          · exact h
        · exact absurd h2 he
    exact .inr (.inr ⟨h1, this⟩)
/-- Below a supervisor. -/
def Below (l : List Spec) (i k : Nat) : Prop := ∃ c j, SubAt l i c j ∧ Desc l j k
theorem Below.gt {l : List Spec} (ht : TreeOk l) {i k : Nat} (h : Below l i k) : i < k := by
  obtain ⟨c, j, h1, h2⟩ := h
  have := (h1.lt ht).1
  have := h2.le ht
  omega
theorem Below.desc {l : List Spec} {i k : Nat} (h : Below l i k) : Desc l i k := by
  obtain ⟨c, j, h1, h2⟩ := h
  exact h2.head h1
theorem desc_cases {l : List Spec} {i k : Nat} (h : Desc l i k) : k = i ∨ Below l i k := by
  induction h with
  | refl => exact .inl rfl
  | step h hs ih =>
    rcases ih with rfl | ⟨c, j, h1, h2⟩
    · exact .inr ⟨_, _, hs, .refl⟩
    · exact .inr ⟨c, j, h1, .step h2 hs⟩
/-- What is due: the supervisors that stopped. -/
structure QOk (l : List Spec) (tm : Int) (q : List Due) (ks : List Nat) : Prop where
  map : q.map (fun d => (d.sup, d.e.kind, d.e.child, d.e.time)) = ks.map (fun k => (((up l k).1 : Int), (1 : Int), ((up l k).2 : Int), tm))
  val : ∀ d ∈ q, d.e.value = 1 ∨ d.e.value = 7
  nodup : ks.Nodup
  range : ∀ k ∈ ks, 1 ≤ k ∧ k < l.length
theorem QOk.push {l : List Spec} {tm : Int} {q : List Due} {ks : List Nat} (h : QOk l tm q ks) {k : Nat} (hk : 1 ≤ k ∧ k < l.length) (hn : k ∉ ks) {v : Int} (hv : v = 1 ∨ v = 7) : QOk l tm (q ++ [⟨(up l k).1, ⟨1, (up l k).2, v, tm⟩⟩]) (ks ++ [k]) := by
  refine ⟨by rw [List.map_append, List.map_append, h.map]; rfl, fun d hd => ?_, ?_, fun j hj => ?_⟩
  · rcases List.mem_append.1 hd with hd | hd
    · exact h.val d hd
    · simp only [List.mem_singleton] at hd; subst hd; exact hv
  · rw [List.nodup_append]
    refine ⟨h.nodup, by simp, fun a ha b hb => ?_⟩
    simp only [List.mem_singleton] at hb
    subst hb
    exact fun e => hn (e ▸ ha)
  · rcases List.mem_append.1 hj with hj | hj
    · exact h.range j hj
    · simp only [List.mem_singleton] at hj; subst hj; exact hk
structure RunInv (l : List Spec) (tm m : Int) (t : Tree) (ks : List Nat) : Prop where
  len : t.ss.length = l.length
  inv : ∀ k, k < l.length → Inv (l.getD k default) (m + 1) (runOf (sAt t k))
  time : ∀ k, k < l.length → ∀ x ∈ (sAt t k).restarts.l, x ≤ tm
  q : QOk l tm t.q ks
/-- The links below a supervisor; p: what is still to be done to its children. -/
def SubOk (l : List Spec) (t : Tree) (ks : List Nat) (i : Nat) (p : Nat → Pend) : Prop := ∀ a c k, Desc l i a → SubAt l a c k → LinkK (viewT t a c) (sAt t k).status (sAt t k).failed (k ∈ ks) (if a = i then p c else .no)
/-- Nothing but these has changed. -/
def KeepT (l : List Spec) (X : Nat → Prop) (t : Tree) (ks : List Nat) (t' : Tree) (ks' : List Nat) : Prop := ∀ k, ¬ X k → sAt t' k = sAt t k ∧ (k ∈ ks' ↔ k ∈ ks)
theorem KeepT.refl (l : List Spec) (X : Nat → Prop) (t : Tree) (ks : List Nat) : KeepT l X t ks t ks := fun _ _ => ⟨rfl, Iff.rfl⟩
theorem KeepT.trans {l : List Spec} {X : Nat → Prop} {t t' t'' : Tree} {ks ks' ks'' : List Nat} (h : KeepT l X t ks t' ks') (h' : KeepT l X t' ks' t'' ks'') : KeepT l X t ks t'' ks'' := fun k hk => ⟨(h' k hk).1.trans (h k hk).1, (h' k hk).2.trans (h k hk).2⟩
theorem KeepT.weak {l : List Spec} {X Y : Nat → Prop} {t t' : Tree} {ks ks' : List Nat} (h : KeepT l X t ks t' ks') (hxy : ∀ k, X k → Y k) : KeepT l Y t ks t' ks' := fun k hk => h k (fun hx => hk (hxy k hx))
/-- The links below a supervisor stay, if all below it and itself stay. -/
theorem SubOk.keep {l : List Spec} {X : Nat → Prop} {t t' : Tree} {ks ks' : List Nat} {i : Nat} {p : Nat → Pend} (h : SubOk l t ks i p) (hk : KeepT l X t ks t' ks') (hx : ∀ k, Desc l i k → ¬ X k) : SubOk l t' ks' i p := by
  intro a c k ha hs
  have h1 := h a c k ha hs
  have ka := hk a (hx a ha)
  have kk := hk k (hx k (.step ha hs))
  unfold viewT
  rw [ka.1, kk.1]
  have : (k ∈ ks') = (k ∈ ks) := propext kk.2
  rw [this]
  exact h1
/-- The links below a child, seen from its supervisor. -/
theorem SubOk.child {l : List Spec} (ht : TreeOk l) {t : Tree} {ks : List Nat} {i c j : Nat} {p : Nat → Pend} (h : SubOk l t ks i p) (hs : SubAt l i c j) : SubOk l t ks j (fun _ => .no) := by
  intro a d k ha hk
  have h1 := h a d k (ha.head hs) hk
  have : a ≠ i := by have := (hs.lt ht).1; have := ha.le ht; omega
  rw [if_neg this] at h1
  split <;> exact h1
/-- A worker that lives, as its supervisor sees it. -/
def LiveW (l : List Spec) (t : Tree) (i c : Nat) : Prop := WorkerAt l (i, c) ∧ (viewT t i c = 1 ∨ viewT t i c = 2)
/-- Does a worker live below it? -/
def AliveT (l : List Spec) (t : Tree) (k : Nat) : Prop := ∃ i c, Desc l k i ∧ LiveW l t i c
/-- What lives goes on living; what stopped stays so, or lives again; only what had not stopped is due. -/
structure Mono (l : List Spec) (t : Tree) (ks : List Nat) (t' : Tree) (ks' : List Nat) : Prop where
  live : ∀ i c, LiveW l t i c → LiveW l t' i c
  stop : ∀ k, (sAt t k).status = 4 → (sAt t' k).status = 4 ∨ AliveT l t' k
  due : ∀ k, k ∈ ks' → k ∈ ks ∨ (sAt t k).status ≠ 4 ∨ AliveT l t' k
theorem Mono.alive {l : List Spec} {t t' : Tree} {ks ks' : List Nat} (h : Mono l t ks t' ks') {k : Nat} (ha : AliveT l t k) : AliveT l t' k := by
  obtain ⟨i, c, h1, h2⟩ := ha
  exact ⟨i, c, h1, h.live i c h2⟩
theorem Mono.refl (l : List Spec) (t : Tree) (ks : List Nat) : Mono l t ks t ks := ⟨fun _ _ h => h, fun _ h => .inl h, fun _ h => .inl h⟩
theorem Mono.trans {l : List Spec} {t t' t'' : Tree} {ks ks' ks'' : List Nat} (h : Mono l t ks t' ks') (h' : Mono l t' ks' t'' ks'') : Mono l t ks t'' ks'' := by
  refine ⟨fun i c hl => h'.live i c (h.live i c hl), fun k hk => ?_, fun k hk => ?_⟩
  · rcases h.stop k hk with h1 | h1
    · exact h'.stop k h1
    · exact .inr (h'.alive h1)
  · rcases h'.due k hk with h1 | h1 | h1
    · rcases h.due k h1 with h2 | h2 | h2
      · exact .inl h2
      · exact .inr (.inl h2)
      · exact .inr (.inr (h'.alive h2))
    · by_cases h4 : (sAt t k).status = 4
      · rcases h.stop k h4 with h2 | h2
        · exact absurd h2 h1
        · exact .inr (.inr (h'.alive h2))
      · exact .inr (.inl h4)
    · exact .inr (.inr h1)
theorem desc_root {l : List Spec} (ht : TreeOk l) : ∀ a, a < l.length → Desc l 0 a := by
  intro a
  induction a using Nat.strongRecOn with
  | _ a ih =>
    intro ha
    by_cases h0 : a = 0
    · subst h0; exact .refl
    · obtain ⟨i, c, hs⟩ := ht.parent (k := a) ⟨by omega, ha⟩
      have := (hs.lt ht).1
      exact .step (ih i this (by omega)) hs
/-- All workers are in the order. -/
theorem order_all {l : List Spec} (ht : TreeOk l) : ∀ (d i j c : Nat), l.length - i ≤ d → i < l.length → Desc l i j → WorkerAt l (j, c) → (j, c) ∈ order l d i := by
  intro d
  induction d with
  | zero => intro i j c h1 h2; omega
  | succ d ih =>
    intro i j c h1 h2 hd hw
    rw [order_succ, List.mem_flatMap]
    rcases desc_cases hd with rfl | ⟨c', k, hs, hd'⟩
    · obtain ⟨_, ch, hch, hsub⟩ := hw
      refine ⟨(ch, c), List.mem_zipIdx_iff_getElem?.2 hch, ?_⟩
      unfold partW
      rw [if_pos (by simp only; omega)]; simp
    · obtain ⟨_, ch, hch, hsub⟩ := id hs
      have hlt := hs.lt ht
      refine ⟨(ch, c'), List.mem_zipIdx_iff_getElem?.2 hch, ?_⟩
      unfold partW
      rw [if_neg (by simp only; omega)]
      have e : ch.sub.toNat = k := by omega
      simp only [e]
      exact ih k j c (by omega) hlt.2 hd' hw
theorem mem_ordT {l : List Spec} (ht : TreeOk l) {i c : Nat} (hw : WorkerAt l (i, c)) : (i, c) ∈ ordT l := order_all ht l.length 0 i c (by omega) (by have := ht.len.1; omega) (desc_root ht i hw.1) hw
theorem num_at {l : List Spec} (ht : TreeOk l) {w i c : Nat} (h : (ordT l)[w]? = some (i, c)) : numW (ordT l) (i, (c : Int)) = w := by
  unfold numW
  have h0 : 0 < l.length := by have := ht.len.1; omega
  have hnd := order_nodup ht l.length 0 h0
  rcases idxP_spec (fun q : Nat × Nat => decide (q.1 = i) && decide ((q.2 : Int) = (c : Int))) (ordT l) with ⟨_, h2⟩ | ⟨j, q, h1, h2, h3, h4⟩
  · have := h2 _ (List.mem_of_getElem? h)
    simp at this
  · rw [h1]
    have hq : q = (i, c) := by
      simp only [Bool.and_eq_true, decide_eq_true_eq] at h3
      obtain ⟨a, b⟩ := q
      simp only at h3
      have : b = c := by omega
      rw [h3.1, this]
    rw [hq] at h2
    have hj := (List.getElem?_eq_some_iff.1 h2)
    have hw := (List.getElem?_eq_some_iff.1 h)
    obtain ⟨hj1, hj2⟩ := hj
    obtain ⟨hw1, hw2⟩ := hw
    have := (List.getElem_inj (h₀ := hj1) (h₁ := hw1) hnd).1 (hj2.trans hw2.symm)
    omega
theorem num_inj {l : List Spec} (ht : TreeOk l) {i c i' c' : Nat} (hw : WorkerAt l (i, c)) (hw' : WorkerAt l (i', c')) (h : numW (ordT l) (i, (c : Int)) = numW (ordT l) (i', (c' : Int))) : i = i' ∧ c = c' := by
  obtain ⟨w, h1⟩ := List.getElem?_of_mem (mem_ordT ht hw)
  obtain ⟨w', h2⟩ := List.getElem?_of_mem (mem_ordT ht hw')
  rw [num_at ht h1, num_at ht h2] at h
  have : w = w' := by omega
  subst this
  rw [h1] at h2; cases h2
  exact ⟨rfl, rfl⟩
theorem num_range {l : List Spec} (ht : TreeOk l) {i c : Nat} (hw : WorkerAt l (i, c)) : 0 ≤ numW (ordT l) (i, (c : Int)) ∧ numW (ordT l) (i, (c : Int)) < ((ordT l).length : Int) := by
  obtain ⟨w, h⟩ := List.getElem?_of_mem (mem_ordT ht hw)
  have := (List.getElem?_eq_some_iff.1 h).1
  rw [num_at ht h]
  omega
/-- A worker as the actions tell it: 0: it does not run, 1: it runs, 2: it was told to stop; none: an action that must not be. -/
def simE (w : Int) (s : Option Nat) (a : Event) : Option Nat :=
  s.bind fun n => if a.kind = 5 then some n else if a.child = w then (if a.kind = 3 then (if n = 0 then some 1 else none) else if n = 1 then some 2 else none) else some n
def simW (w : Int) (o : List Event) (n : Nat) : Option Nat := o.foldl (simE w) (some n)
theorem simW_app (w : Int) (o : List Event) (a : Event) (n : Nat) : simW w (o ++ [a]) n = simE w (simW w o n) a := by simp [simW]
/-- The same as a view tells it. -/
def stat (v : Int) : Nat := if v = 1 then 1 else if v = 2 then 2 else 0
/-- The view, what is still to be done, and what the actions tell, belong together. -/
def SimK (v : Int) (p : Pend) (s : Option Nat) : Prop := match p with | .no => s = some (stat v) | .start => v = 1 ∧ s = some 0 | .stop => v = 2 ∧ s = some 1
theorem sim_step {v v' : Int} {e : Prop} {p : Pend} {s : Option Nat} (h : StepV v v' p e) (hl : ¬ e → SimK v .no s) (hg : e → s = some 0) : SimK v' p s := by
  rcases h with ⟨h1, rfl, rfl⟩ | ⟨rfl, rfl, h1⟩ | ⟨h1, rfl, rfl, rfl⟩ | ⟨h1, rfl, h2⟩
  · exact hl h1
  · refine ⟨rfl, ?_⟩
    by_cases he : e
    · exact hg he
    · rcases h1 with rfl | h1
      · exact hl he
      · exact absurd h1 he
  · exact ⟨rfl, hl h1⟩
  · have hs : s = some 0 := by
      by_cases he : e
      · exact hg he
      · rcases h2 with rfl | h2
        · exact hl he
        · exact absurd h2 he
    rw [hs]
    rcases h1 with rfl | rfl <;> rfl
/-- What was put out, and the views of the workers; π: what is still to be done to them; s0: what they were at first. -/
structure SimT (l : List Spec) (tm : Int) (s0 : Nat → Nat → Nat) (t : Tree) (π : Nat → Nat → Pend) : Prop where
  ev : ∀ a ∈ t.out, a.time = tm ∧ (a.kind = 5 ∨ 0 ≤ a.child ∧ a.child < ((ordT l).length : Int))
  wk : ∀ i c, WorkerAt l (i, c) → SimK (viewT t i c) (π i c) (simW (numW (ordT l) (i, (c : Int))) t.out (s0 i c))
theorem SimT.congr {l : List Spec} {tm : Int} {s0 : Nat → Nat → Nat} {t : Tree} {π π' : Nat → Nat → Pend} (h : SimT l tm s0 t π) (he : ∀ i c, WorkerAt l (i, c) → π' i c = π i c) : SimT l tm s0 t π' := ⟨h.ev, fun i c hw => by rw [he i c hw]; exact h.wk i c hw⟩
theorem SimT.same {l : List Spec} {tm : Int} {s0 : Nat → Nat → Nat} {t t' : Tree} {π : Nat → Nat → Pend} (h : SimT l tm s0 t π) (ho : t'.out = t.out) (hs : t'.ss = t.ss) : SimT l tm s0 t' π := by
  refine ⟨by rw [ho]; exact h.ev, fun i c hw => ?_⟩
  have := h.wk i c hw
  unfold viewT sAt at this ⊢
  rw [ho, hs]; exact this
/-- What performing actions of supervisor i, p still to be done, keeps. -/
def KeepS (l : List Spec) (tm : Int) (i : Nat) (p : Nat → Pend) (q : Nat → Pend) (t t' : Tree) : Prop := ∀ s0 π, (∀ c, π i c = p c) → (∀ k, Below l i k → ∀ c, π k c = .no) → SimT l tm s0 t π → SimT l tm s0 t' (fun k c => if k = i then q c else π k c)
/-- What happens at supervisor j and below keeps. -/
def KeepJ (l : List Spec) (tm : Int) (j : Nat) (t t' : Tree) : Prop := ∀ s0 π, (∀ k, Desc l j k → ∀ c, π k c = .no) → SimT l tm s0 t π → SimT l tm s0 t' π
/-- The same, when child c of j (if it is a worker) ends. -/
def KeepX (l : List Spec) (tm : Int) (j : Nat) (x : Option Nat) (t t' : Tree) : Prop := ∀ (s0 : Nat → Nat → Nat) (π : Nat → Nat → Pend), (∀ k, Desc l j k → ∀ c, π k c = .no) → (∀ a ∈ t.out, a.time = tm ∧ (a.kind = 5 ∨ 0 ≤ a.child ∧ a.child < ((ordT l).length : Int))) →
  (∀ i c, WorkerAt l (i, c) → ((i = j ∧ x = some c) → simW (numW (ordT l) (i, (c : Int))) t.out (s0 i c) = some 0) ∧ (¬ (i = j ∧ x = some c) → SimK (viewT t i c) (π i c) (simW (numW (ordT l) (i, (c : Int))) t.out (s0 i c)))) → SimT l tm s0 t' π
theorem KeepX.keepJ {l : List Spec} {tm : Int} {j : Nat} {x : Option Nat} {t t' : Tree} (h : KeepX l tm j x t t') (hx : ∀ c, x = some c → ¬ WorkerAt l (j, c)) : KeepJ l tm j t t' := fun s0 π hπ hS => h s0 π hπ hS.ev fun i c hw => ⟨fun hh => absurd hw (by rw [hh.1]; exact hx c hh.2), fun _ => hS.wk i c hw⟩
end
section
open Go Go.RowKit
set_option linter.unusedVariables false
set_option linter.unusedSimpArgs false
set_option maxRecDepth 10000
set_option maxHeartbeats 1000000

theorem sAt_set {t : Tree} {j : Nat} {s : State} (hj : j < t.ss.length) (k : Nat) : sAt { t with ss := t.ss.set j s } k = if k = j then s else sAt t k := by
  unfold sAt
  simp only [List.getD_eq_getElem?_getD]
  by_cases h : k = j
  · subst h
    rw [if_pos rfl, List.getElem?_set_self hj]; rfl
  · rw [if_neg h, List.getElem?_set_ne (fun e => h e.symm)]
/-- Actions of a supervisor with so many children, each child once. -/
structure ActsG (n : Nat) (tm : Int) (acts : List Event) : Prop where
  nodup : (acts.map Event.child).Nodup
  all : ∀ a ∈ acts, ActN n tm a
theorem startL_child (n : Nat) : (startL n).map Event.child = (List.range n).map (fun c : Nat => (c : Int)) := by
  induction n with
  | zero => rfl
  | succ n ih => rw [startL, List.map_append, ih, List.range_succ, List.map_append]; rfl
theorem start_acts (tm : Int) (n : Nat) : ActsG n tm (timed tm (startL n)) := by
  refine ⟨?_, fun a ha => ?_⟩
  · have : (timed tm (startL n)).map Event.child = (startL n).map Event.child := by simp [timed]
    rw [this, startL_child, List.Nodup, List.pairwise_map]
    exact List.nodup_range.imp fun h => by omega
  · obtain ⟨b, hb, rfl⟩ := List.mem_map.1 ha
    have := startL_kind n b hb
    exact ⟨rfl, this.2.2.2, .inr ⟨.inl this.1, this.2.1, this.2.2.1⟩⟩
theorem start_pend (tm : Int) {n c : Nat} (hc : c < n) : pendA (timed tm (startL n)) c = .start := by
  refine pendA_start ⟨⟨3, c, 0, tm⟩, List.mem_map.2 ⟨⟨3, c, 0, 0⟩, List.mem_of_getElem? (startL_at n c hc), rfl⟩, rfl, rfl⟩ (fun a ha _ => ?_)
  obtain ⟨b, hb, rfl⟩ := List.mem_map.1 ha
  have := (startL_kind n b hb).1
  simp only
  omega
/-- What performing actions does to a tree, to a depth. -/
def PerfInv (l : List Spec) (tm m : Int) (d : Nat) : Prop :=
  ∀ (i : Nat) (acts : List Event) (t : Tree) (ks : List Nat), l.length - i ≤ d → i < l.length → RunInv l tm m t ks → (∀ c j k, SubAt l i c j → pendA acts c ≠ .no → Desc l j k → Inv (l.getD k default) m (runOf (sAt t k))) → SubOk l t ks i (pendA acts) → ActsG (kids l i).length tm acts →
    ∃ ks', RunInv l tm m (perf l (ordT l) (up l) d i acts t) ks' ∧ SubOk l (perf l (ordT l) (up l) d i acts t) ks' i (fun _ => .no) ∧ KeepT l (Below l i) t ks (perf l (ordT l) (up l) d i acts t) ks' ∧ Mono l t ks (perf l (ordT l) (up l) d i acts t) ks' ∧ (∀ c j, SubAt l i c j → pendA acts c = .start → AliveT l (perf l (ordT l) (up l) d i acts t) j) ∧ KeepS l tm i (pendA acts) (fun _ => .no) t (perf l (ordT l) (up l) d i acts t)
/-- A stopped supervisor sees nothing but children that are done. -/
theorem views_done {x : Spec} {m : Int} {s : State} (hi : Inv x m (runOf s)) (h4 : s.status = 4) (c : Nat) (v : ChildState) (hv : s.children.l[c]? = some v) : v.status = 3 := by
  have hf := hi.fit
  simp only [runOf] at hf
  have hok := hi.ok c v hv
  rcases hf with ⟨a, _⟩ | ⟨a, _⟩ | ⟨a, _⟩ | ⟨_, a, b, d⟩
  · omega
  · omega
  · omega
  · have h1 : v.status ≠ 1 := fun e => a ⟨c, v, hv, e⟩
    have h2 : v.status ≠ 2 := fun e => b ⟨c, v, hv, e⟩
    have h3 : v.status ≠ 4 := fun e => d ⟨c, v, hv, e⟩
    omega
theorem run_begin {l : List Spec} (ht : TreeOk l) {tm m : Int} (hm : 1 ≤ m) {d : Nat} (hp : PerfInv l tm m d) {j : Nat} (hj : j < l.length) (hd : l.length - j ≤ d) {t : Tree} {ks : List Nat} (hr : RunInv l tm m t ks) (hst : (sAt t j).status = 4) (hb : j ∉ ks)
    (hfr : ∀ k, Below l j k → Inv (l.getD k default) m (runOf (sAt t k))) (hs : SubOk l t ks j (fun _ => .no)) :
    ∃ ks', RunInv l tm m (doStart l (perf l (ordT l) (up l) d) j tm t) ks' ∧ SubOk l (doStart l (perf l (ordT l) (up l) d) j tm t) ks' j (fun _ => .no) ∧ KeepT l (Desc l j) t ks (doStart l (perf l (ordT l) (up l) d) j tm t) ks' ∧ sAt (doStart l (perf l (ordT l) (up l) d) j tm t) j = startS (l.getD j default) ∧ j ∉ ks' ∧ Mono l t ks (doStart l (perf l (ordT l) (up l) d) j tm t) ks' ∧ AliveT l (doStart l (perf l (ordT l) (up l) d) j tm t) j ∧ KeepJ l tm j t (doStart l (perf l (ordT l) (up l) d) j tm t) := by
  have hjl : j < t.ss.length := by rw [hr.len]; exact hj
  have hx := List.getElem?_eq_getElem hj
  have hgx : l.getD j default = l[j] := by rw [List.getD_eq_getElem?_getD, hx]; rfl
  have hok := ht.ok j _ hx
  have hset := sAt_set (t := t) (s := startS (l.getD j default)) hjl
  have hkid : (kids l j).length = (l.getD j default).children.l.length := rfl
  have h1 : RunInv l tm m { t with ss := t.ss.set j (startS (l.getD j default)) } ks := by
    refine ⟨by simpa using hr.len, fun k hk => ?_, fun k hk => ?_, hr.q⟩
    · rw [hset]
      by_cases h : k = j
      · subst h
        rw [if_pos rfl, hgx]
        exact (start_inv hok).mono (by omega)
      · rw [if_neg h]; exact hr.inv k hk
    · rw [hset]
      by_cases h : k = j
      · rw [if_pos h]; intro x hx; simp [startS] at hx
      · rw [if_neg h]; exact hr.time k hk
  obtain ⟨ks', a1, a2, a3, a4, a5, a6⟩ := hp j (timed tm (startL (kids l j).length)) _ ks hd hj h1 (fun c k k' hc _ hk => by
    have hne : k' ≠ j := by have := (Below.gt ht ⟨c, k, hc, hk⟩ : j < k'); omega
    rw [hset, if_neg hne]
    exact hfr k' ⟨c, k, hc, hk⟩) (fun a c k ha hc => by
    have hkj : k ≠ j := by have := (hc.lt ht).1; have := ha.le ht; omega
    have hold := hs a c k ha hc
    rw [ite_self] at hold
    unfold viewT
    rw [hset, hset, if_neg hkj]
    by_cases haj : a = j
    · subst haj
      rw [if_pos rfl, if_pos rfl]
      obtain ⟨h0, ch, hch, hsub⟩ := hc
      have hcl := (List.getElem?_eq_some_iff.1 hch).1
      rw [start_pend tm hcl]
      have hlen : (sAt t a).children.l.length = (l.getD a default).children.l.length := (hr.inv a hj).len
      have hcs : c < (sAt t a).children.l.length := by rw [hlen]; exact hcl
      have hv := views_done (hr.inv a hj) hst c _ (List.getElem?_eq_getElem hcs)
      have hview : viewT t a c = 3 := by
        unfold viewT
        rw [List.getD_eq_getElem?_getD, List.getElem?_eq_getElem hcs]; exact hv
      rw [hview] at hold
      have hnew : ((startS (l.getD a default)).children.l.getD c default).status = 1 := by
        have hcl' : c < (l.getD a default).children.l.length := hcl
        show ((List.replicate (l.getD a default).children.l.length start1).getD c default).status = 1
        rw [List.getD_eq_getElem?_getD, List.getElem?_replicate, if_pos hcl']; rfl
      rw [hnew]
      rcases hold with ⟨h, _⟩ | ⟨h, _⟩ | ⟨_, h⟩
      · omega
      · omega
      · exact ⟨rfl, h⟩
    · rw [if_neg haj, if_neg haj]
      exact hold) (start_acts tm _)
  have hself := a3 j (fun hb => by have := Below.gt ht hb; omega)
  rw [hset, if_pos rfl] at hself
  have hdo : doStart l (perf l (ordT l) (up l) d) j tm t = perf l (ordT l) (up l) d j (timed tm (startL (kids l j).length)) { t with ss := t.ss.set j (startS (l.getD j default)) } := rfl
  rw [hdo]
  generalize perf l (ordT l) (up l) d j (timed tm (startL (kids l j).length)) { t with ss := t.ss.set j (startS (l.getD j default)) } = T at *
  have hal : AliveT l T j := by
    have hlen0 := (chk_len hok).1
    have h0 : 0 < (kids l j).length := by rw [hkid, hgx]; omega
    obtain ⟨ch, hch⟩ : ∃ ch, (kids l j)[0]? = some ch := ⟨_, List.getElem?_eq_getElem h0⟩
    rcases ht.sub j 0 ch hj hch with hs1 | hs1
    · have hl : LiveW l { t with ss := t.ss.set j (startS (l.getD j default)) } j 0 := by
        refine ⟨⟨hj, ch, hch, hs1⟩, .inl ?_⟩
        unfold viewT
        rw [hset, if_pos rfl]
        have hcl' : 0 < (l.getD j default).children.l.length := h0
        show ((List.replicate (l.getD j default).children.l.length start1).getD 0 default).status = 1
        rw [List.getD_eq_getElem?_getD, List.getElem?_replicate, if_pos hcl']; rfl
      exact ⟨j, 0, .refl, a4.live _ _ hl⟩
    · have hsub : SubAt l j 0 ch.sub.toNat := ⟨hj, ch, hch, by omega⟩
      obtain ⟨i, c, g1, g2⟩ := a5 0 _ hsub (start_pend tm h0)
      exact ⟨i, c, g1.head hsub, g2⟩
  have hsim : KeepJ l tm j t T := by
    intro s0 π hπ hS
    have h7 := a6 s0 (fun k c => if k = j then pendA (timed tm (startL (kids l j).length)) c else π k c) (fun c => by simp) (fun k hk c => by
      have := hk.gt ht
      rw [if_neg (by omega)]; exact hπ k hk.desc c) ⟨hS.ev, fun i c hw => by
      have hold := hS.wk i c hw
      unfold viewT
      rw [hset]
      by_cases hij : i = j
      · subst hij
        rw [if_pos rfl, if_pos rfl]
        obtain ⟨_, ch, hch, _⟩ := hw
        have hcl := (List.getElem?_eq_some_iff.1 hch).1
        rw [start_pend tm hcl]
        have hlen : (sAt t i).children.l.length = (l.getD i default).children.l.length := (hr.inv i hj).len
        have hcs : c < (sAt t i).children.l.length := by rw [hlen]; exact hcl
        have hv := views_done (hr.inv i hj) hst c _ (List.getElem?_eq_getElem hcs)
        have hview : viewT t i c = 3 := by
          unfold viewT
          rw [List.getD_eq_getElem?_getD, List.getElem?_eq_getElem hcs]; exact hv
        rw [hview, hπ i .refl c] at hold
        have hnew : ((startS (l.getD i default)).children.l.getD c default).status = 1 := by
          have hcl' : c < (l.getD i default).children.l.length := hcl
          show ((List.replicate (l.getD i default).children.l.length start1).getD c default).status = 1
          rw [List.getD_eq_getElem?_getD, List.getElem?_replicate, if_pos hcl']; rfl
        rw [hnew]
        exact ⟨rfl, hold⟩
      · rw [if_neg hij, if_neg hij]
        exact hold⟩
    refine h7.congr fun i c _ => ?_
    by_cases hij : i = j
    · subst hij; simp [hπ i .refl c]
    · simp [hij]
  have hk1 : KeepT l (Desc l j) t ks { t with ss := t.ss.set j (startS (l.getD j default)) } ks := fun k hk => by
    have : k ≠ j := fun e => hk (e ▸ .refl)
    rw [hset, if_neg this]
    exact ⟨rfl, Iff.rfl⟩
  refine ⟨ks', a1, a2, hk1.trans (a3.weak fun k hk => hk.desc), hself.1, fun h => hb (hself.2.1 h), ⟨fun i c hl => ?_, fun k hk => ?_, fun k hk => ?_⟩, hal, hsim⟩
  · refine a4.live i c ⟨hl.1, ?_⟩
    have h2 := hl.2
    by_cases hij : i = j
    · exfalso
      subst hij
      obtain ⟨_, ch, hch, _⟩ := hl.1
      have hlen : (sAt t i).children.l.length = (l.getD i default).children.l.length := (hr.inv i hj).len
      have hcs : c < (sAt t i).children.l.length := by rw [hlen]; exact (List.getElem?_eq_some_iff.1 hch).1
      have hv := views_done (hr.inv i hj) hst c _ (List.getElem?_eq_getElem hcs)
      unfold viewT at h2
      rw [List.getD_eq_getElem?_getD, List.getElem?_eq_getElem hcs] at h2
      simp only [Option.getD_some] at h2
      omega
    · unfold viewT at h2 ⊢
      rw [hset, if_neg hij]; exact h2
  · by_cases hkj : k = j
    · subst hkj; exact .inr hal
    · exact a4.stop k (by rw [hset, if_neg hkj]; exact hk)
  · rcases a4.due k hk with h | h | h
    · exact .inl h
    · by_cases hkj : k = j
      · subst hkj; exact .inr (.inr hal)
      · rw [hset, if_neg hkj] at h; exact .inr (.inl h)
    · exact .inr (.inr h)
end
section
open Go Go.RowKit
set_option linter.unusedVariables false
set_option linter.unusedSimpArgs false
set_option maxRecDepth 10000
set_option maxHeartbeats 1000000

theorem shut_st (tm : Int) (r : RunSt) : (shutS tm r).st = 3 ∨ (shutS tm r).st = 4 := by
  unfold shutS
  split
  · exact .inl rfl
  · exact .inr (stopped_rest tm _).1
theorem handle_not4 {x : Spec} {s : State} {e : Event} {r : RunSt} (hw : HWay x s e r) : s.status ≠ 4 := by
  cases hw with
  | quiet n c ch h hs hq hr hst hf => omega
  | fail n c ch h hs hq hi hr hst hf => omega
  | again n c ch h hs hq hi hz hr hst hf => omega
  | hold n c ch h hs hq hi hz hr hst hf => omega
  | wait n c ch h hs hz hr hst => omega
  | wake n c ch h hs hz hr hst hf => omega
  | done n c ch h hs hz hr hst => omega
  | asked hk hr hst hf => omega
  | still hk hr hst => omega
/-- The supervisor of a supervisor sees it rightly after an exit below it. -/
theorem link_exit {x : Spec} {s : State} {e : Event} {r : RunSt} (hw : HWay x s e r) (he : e.kind = 1) {v : Int} {b b' : Prop} (hb : ¬ b) (hb' : b' ↔ r.st = 4) (h : LinkK v s.status s.failed b .no) : LinkK v r.st r.fl b' .no := by
  have h4 := handle_not4 hw
  have key : (v = 1 ∧ (s.status = 1 ∨ s.status = 2 ∨ s.status = 3 ∧ s.failed = true)) ∨ (v = 2 ∧ s.status = 3) := by
    rcases h with ⟨h1, ⟨_, h2⟩ | ⟨_, h2⟩⟩ | ⟨h1, ⟨_, h2⟩ | ⟨_, h2⟩⟩ | ⟨_, _, h2⟩
    · exact absurd h2 h4
    · exact .inl ⟨h1, h2⟩
    · exact absurd h2 h4
    · exact .inr ⟨h1, h2⟩
    · exact absurd h2 h4
  have one : v = 1 → (r.st = 1 ∨ r.st = 2 ∨ r.st = 3 ∧ r.fl = true ∨ r.st = 4) → LinkK v r.st r.fl b' .no := by
    intro hv hr
    by_cases h5 : r.st = 4
    · exact .inl ⟨hv, .inl ⟨hb'.2 h5, h5⟩⟩
    · refine .inl ⟨hv, .inr ⟨fun hh => h5 (hb'.1 hh), ?_⟩⟩
      rcases hr with h | h | h | h
      · exact .inl h
      · exact .inr (.inl h)
      · exact .inr (.inr h)
      · exact absurd h h5
  have two : v = 2 → (r.st = 3 ∨ r.st = 4) → LinkK v r.st r.fl b' .no := by
    intro hv hr
    by_cases h5 : r.st = 4
    · exact .inr (.inl ⟨hv, .inl ⟨hb'.2 h5, h5⟩⟩)
    · exact .inr (.inl ⟨hv, .inr ⟨fun hh => h5 (hb'.1 hh), by omega⟩⟩)
  cases hw with
  | quiet n c ch h hs hq hr hst hf =>
    have hr1 : r.st = s.status := by rw [hr, setS_st]; rfl
    rcases key with ⟨hv, k⟩ | ⟨hv, k⟩
    · exact one hv (by omega)
    · omega
  | fail n c ch h hs hq hi hr hst hf =>
    have h1 : r.st = 3 ∨ r.st = 4 := by rw [hr]; exact shut_st _ _
    have h2 : r.fl = true := by rw [hr, (shut_rest _ _).2]
    rcases key with ⟨hv, k⟩ | ⟨hv, k⟩
    · refine one hv ?_
      rcases h1 with h1 | h1
      · exact .inr (.inr (.inl ⟨h1, h2⟩))
      · exact .inr (.inr (.inr h1))
    · omega
  | again n c ch h hs hq hi hz hr hst hf =>
    have h1 : r.st = 1 := by rw [hr]; exact (againS_rest _ _).1
    rcases key with ⟨hv, k⟩ | ⟨hv, k⟩
    · exact one hv (.inl h1)
    · omega
  | hold n c ch h hs hq hi hz hr hst hf =>
    have h1 : r.st = 2 := by rw [hr]
    rcases key with ⟨hv, k⟩ | ⟨hv, k⟩
    · exact one hv (.inr (.inl h1))
    · omega
  | wait n c ch h hs hz hr hst =>
    have h1 : r.st = s.status := by rw [hr]; unfold stopping1; rw [setS_st]; rfl
    have h2 : r.fl = s.failed := by rw [hr]; unfold stopping1; rw [setS_fl]; rfl
    rcases key with ⟨hv, k⟩ | ⟨hv, k⟩
    · refine one hv ?_
      rw [h1, h2]
      rcases k with k | k | k
      · exact .inl k
      · exact .inr (.inl k)
      · exact .inr (.inr (.inl k))
    · exact two hv (by omega)
  | wake n c ch h hs hz hr hst hf =>
    have h1 : r.st = 1 := by rw [hr]; exact (againS_rest _ _).1
    rcases key with ⟨hv, k⟩ | ⟨hv, k⟩
    · exact one hv (.inl h1)
    · omega
  | done n c ch h hs hz hr hst =>
    have h1 : r.st = 4 := by rw [hr]; exact (stopped_rest _ _).1
    rcases key with ⟨hv, k⟩ | ⟨hv, k⟩
    · exact one hv (.inr (.inr (.inr h1)))
    · exact two hv (.inr h1)
  | asked hk hr hst hf => omega
  | still hk hr hst => omega
/-- The same after it was asked to stop. -/
theorem link_asked {x : Spec} {s : State} {e : Event} {r : RunSt} (hw : HWay x s e r) (he : e.kind = 2) {b' : Prop} (hb' : b' ↔ r.st = 4) : LinkK 2 r.st r.fl b' .no := by
  have two : (r.st = 3 ∨ r.st = 4) → LinkK 2 r.st r.fl b' .no := by
    intro hr
    by_cases h5 : r.st = 4
    · exact .inr (.inl ⟨rfl, .inl ⟨hb'.2 h5, h5⟩⟩)
    · exact .inr (.inl ⟨rfl, .inr ⟨fun hh => h5 (hb'.1 hh), by omega⟩⟩)
  cases hw with
  | asked hk hr hst hf => exact two (by rw [hr]; exact shut_st _ _)
  | still hk hr hst => exact two (.inl (by rw [hr]; exact hst))
  | quiet n c ch h hs hq hr hst hf => have := h.kind; omega
  | fail n c ch h hs hq hi hr hst hf => have := h.kind; omega
  | again n c ch h hs hq hi hz hr hst hf => have := h.kind; omega
  | hold n c ch h hs hq hi hz hr hst hf => have := h.kind; omega
  | wait n c ch h hs hz hr hst => have := h.kind; omega
  | wake n c ch h hs hz hr hst hf => have := h.kind; omega
  | done n c ch h hs hz hr hst => have := h.kind; omega
theorem recent_le {x : Spec} {tm : Int} {l : List Int} (h : ∀ y ∈ l, y ≤ tm) : ∀ y ∈ recentL x tm l ++ [tm], y ≤ tm := by
  intro y hy
  rcases List.mem_append.1 hy with hy | hy
  · exact h y (List.mem_filter.1 hy).1
  · simp only [List.mem_singleton] at hy; omega
theorem restart_rs (x : Spec) (tm : Int) (n : Nat) (r : RunSt) : (restartS x tm n r).rs = recentL x tm r.rs ++ [tm] := by
  unfold restartS
  have := stopS_rest tm (affL x n) (({ r with rs := recentL x tm r.rs ++ [tm] } : RunSt).setS n 4)
  simp only [RunSt.rest, Prod.mk.injEq] at this
  rw [this.2.1, setS_rs]
/-- No restart is later than the event. -/
theorem handle_rs {x : Spec} {s : State} {e : Event} {r : RunSt} (hw : HWay x s e r) (h : ∀ y ∈ s.restarts.l, y ≤ e.time) : ∀ y ∈ r.rs, y ≤ e.time := by
  cases hw with
  | quiet n c ch h' hs hq hr hst hf => rw [hr, setS_rs]; exact h
  | fail n c ch h' hs hq hi hr hst hf =>
    rw [hr, (shut_rest _ _).1]
    show ∀ y ∈ ((runOf s).setS n 3).rs, y ≤ e.time
    rw [setS_rs]; exact h
  | again n c ch h' hs hq hi hz hr hst hf =>
    rw [hr, (againS_rest _ _).2.1, restart_rs]; exact recent_le h
  | hold n c ch h' hs hq hi hz hr hst hf =>
    rw [hr]
    show ∀ y ∈ (restartS x e.time n (runOf s)).rs, y ≤ e.time
    rw [restart_rs]; exact recent_le h
  | wait n c ch h' hs hz hr hst => rw [hr]; unfold stopping1; rw [setS_rs]; exact h
  | wake n c ch h' hs hz hr hst hf => rw [hr, (againS_rest _ _).2.1]; unfold stopping1; rw [setS_rs]; exact h
  | done n c ch h' hs hz hr hst => rw [hr, (stopped_rest _ _).2.1]; unfold stopping1; rw [setS_rs]; exact h
  | asked hk hr hst hf => rw [hr, (shut_rest _ _).1]; exact h
  | still hk hr hst => rw [hr]; exact h
end
section
open Go Go.RowKit
set_option linter.unusedVariables false
set_option linter.unusedSimpArgs false
set_option maxRecDepth 10000
set_option maxHeartbeats 2000000

theorem run_handle {l : List Spec} (ht : TreeOk l) {tm m : Int} (hm : m ≤ 1099511627776) {d : Nat} (hp : PerfInv l tm m d) {j : Nat} (hj : j < l.length) (hd : l.length - j ≤ d) {t : Tree} {ks : List Nat} (hr : RunInv l tm m t ks) {e : Event} (hte : e.time = tm)
    (hE : handleE (l.getD j default) (sAt t j) e = 0) (hInv : Inv (l.getD j default) m (runOf (sAt t j))) (hb : j ∉ ks) (hfr : ∀ k, Below l j k → Inv (l.getD k default) m (runOf (sAt t k)))
    (hs : ∀ a c k, Desc l j a → SubAt l a c k → ((a = j ∧ exOf e = some c) → GoneK (viewT t a c) (sAt t k).status (k ∈ ks)) ∧ (¬ (a = j ∧ exOf e = some c) → LinkK (viewT t a c) (sAt t k).status (sAt t k).failed (k ∈ ks) .no)) :
    ∃ ks', RunInv l tm m (doHandle l (perf l (ordT l) (up l) d) (up l) j e t) ks' ∧ SubOk l (doHandle l (perf l (ordT l) (up l) d) (up l) j e t) ks' j (fun _ => .no) ∧ KeepT l (Desc l j) t ks (doHandle l (perf l (ordT l) (up l) d) (up l) j e t) ks' ∧
      sAt (doHandle l (perf l (ordT l) (up l) d) (up l) j e t) j = mkS (handleR (l.getD j default) (sAt t j) e) ∧ (j ∈ ks' ↔ 0 < j ∧ (handleR (l.getD j default) (sAt t j) e).st = 4) ∧ ((∀ c, exOf e = some c → ¬ WorkerAt l (j, c)) → Mono l t ks (doHandle l (perf l (ordT l) (up l) d) (up l) j e t) ks') ∧ KeepX l tm j (exOf e) t (doHandle l (perf l (ordT l) (up l) d) (up l) j e t) := by
  have hjl : j < t.ss.length := by rw [hr.len]; exact hj
  have hx := List.getElem?_eq_getElem hj
  have hgx : l.getD j default = l[j] := by rw [List.getD_eq_getElem?_getD, hx]; rfl
  have hok : chk (l.getD j default) = 0 := by rw [hgx]; exact ht.ok j _ hx
  have hc := (handleE_check hE).2
  have hw := handle_way hInv hc
  have hsum := hsum_handle hInv hw
  have hi1 := handle_inv hok hm hInv hc
  have hn4 := handle_not4 hw
  have hrs := handle_rs hw (by rw [hte]; exact hr.time j hj)
  have hact := actw_handle (l.getD j default) (sAt t j) e
  have hlen : (sAt t j).children.l.length = (kids l j).length := hInv.len
  rw [hlen, hte] at hact
  rw [hte] at hrs
  generalize hrr : handleR (l.getD j default) (sAt t j) e = r at *
  have hset := sAt_set (t := t) (s := mkS r) hjl
  have h1 : RunInv l tm m { t with ss := t.ss.set j (mkS r) } ks := by
    refine ⟨by simpa using hr.len, fun k hk => ?_, fun k hk => ?_, hr.q⟩
    · rw [hset]
      by_cases h : k = j
      · subst h
        rw [if_pos rfl]
        exact inv_mkS hi1
      · rw [if_neg h]; exact hr.inv k hk
    · rw [hset]
      by_cases h : k = j
      · rw [if_pos h]; exact hrs
      · rw [if_neg h]; exact hr.time k hk
  obtain ⟨ks1, a1, a2, a3, a4, _, a6⟩ := hp j r.out _ ks hd hj h1 (fun c k k' hc' _ hk => by
    have hne : k' ≠ j := by have := (Below.gt ht ⟨c, k, hc', hk⟩ : j < k'); omega
    rw [hset, if_neg hne]
    exact hfr k' ⟨c, k, hc', hk⟩) (fun a c k ha hc' => by
    have hkj : k ≠ j := by have := (hc'.lt ht).1; have := ha.le ht; omega
    obtain ⟨o1, o2⟩ := hs a c k ha hc'
    unfold viewT
    rw [hset, hset, if_neg hkj]
    by_cases haj : a = j
    · subst haj
      rw [if_pos rfl, if_pos rfl]
      obtain ⟨h0, ch, hch, hsub⟩ := hc'
      have hcl := (List.getElem?_eq_some_iff.1 hch).1
      have hcs : c < (sAt t a).children.l.length := by rw [hlen]; exact hcl
      obtain ⟨v', g1, g2⟩ := hsum.child c _ (List.getElem?_eq_getElem hcs)
      have hview : viewT t a c = (sAt t a).children.l[c].status := by
        unfold viewT
        rw [List.getD_eq_getElem?_getD, List.getElem?_eq_getElem hcs]; rfl
      rw [hview] at o1 o2
      have hnew : ((mkS r).children.l.getD c default).status = v'.status := by
        show ((r.cs).getD c default).status = _
        rw [List.getD_eq_getElem?_getD, g1]; rfl
      rw [hnew]
      exact link_step g2 (fun he => o2 (fun hh => he hh.2)) (fun he => o1 ⟨rfl, he⟩)
    · rw [if_neg haj, if_neg haj]
      exact o2 (fun hh => haj hh.1)) ⟨hsum.nodup, hact.2⟩
  have hself := a3 j (fun hb => by have := Below.gt ht hb; omega)
  rw [hset, if_pos rfl] at hself
  have hj1 : j ∉ ks1 := fun h => hb (hself.2.1 h)
  have hk1 : KeepT l (Desc l j) t ks { t with ss := t.ss.set j (mkS r) } ks := fun k hk => by
    have : k ≠ j := fun e => hk (e ▸ .refl)
    rw [hset, if_neg this]
    exact ⟨rfl, Iff.rfl⟩
  have hk2 := hk1.trans (a3.weak fun k hk => hk.desc)
  have hdo : doHandle l (perf l (ordT l) (up l) d) (up l) j e t = if 0 < j ∧ (sAt t j).status ≠ 4 ∧ r.st = 4 then { perf l (ordT l) (up l) d j r.out { t with ss := t.ss.set j (mkS r) } with q := (perf l (ordT l) (up l) d j r.out { t with ss := t.ss.set j (mkS r) }).q ++ [⟨(up l j).1, ⟨1, (up l j).2, if r.fl = true then 7 else 1, e.time⟩⟩] } else perf l (ordT l) (up l) d j r.out { t with ss := t.ss.set j (mkS r) } := by
    unfold doHandle
    simp only
    rw [if_pos hE, hrr]
  rw [hdo]
  generalize perf l (ordT l) (up l) d j r.out { t with ss := t.ss.set j (mkS r) } = T at *
  have hmono : ∀ ks2, (∀ k, k ≠ j → (k ∈ ks2 ↔ k ∈ ks1)) → (∀ c, exOf e = some c → ¬ WorkerAt l (j, c)) → Mono l t ks T ks2 := by
    intro ks2 hk2' hex
    refine ⟨fun i c hl => ?_, fun k hk => ?_, fun k hk => ?_⟩
    · refine a4.live i c ⟨hl.1, ?_⟩
      have h2 := hl.2
      by_cases hij : i = j
      · subst hij
        have hne : ¬ exOf e = some c := fun he => hex c he hl.1
        obtain ⟨_, ch, hch, _⟩ := hl.1
        have hcs : c < (sAt t i).children.l.length := by rw [hlen]; exact (List.getElem?_eq_some_iff.1 hch).1
        obtain ⟨v', g1, g2⟩ := hsum.child c _ (List.getElem?_eq_getElem hcs)
        unfold viewT at h2 ⊢
        rw [List.getD_eq_getElem?_getD, List.getElem?_eq_getElem hcs] at h2
        simp only [Option.getD_some] at h2
        rw [hset, if_pos rfl]
        have hnew : ((mkS r).children.l.getD c default).status = v'.status := by
          show ((r.cs).getD c default).status = _
          rw [List.getD_eq_getElem?_getD, g1]; rfl
        rw [hnew]
        rcases g2 with ⟨_, h, _⟩ | ⟨h, _, h'⟩ | ⟨_, _, h, _⟩ | ⟨_, _, h'⟩
        · rw [h]; exact h2
        · exact .inl h
        · exact .inr h
        · rcases h' with h' | h'
          · omega
          · exact absurd h' hne
      · unfold viewT at h2 ⊢
        rw [hset, if_neg hij]; exact h2
    · by_cases hkj : k = j
      · subst hkj; exact absurd hk hn4
      · exact a4.stop k (by rw [hset, if_neg hkj]; exact hk)
    · by_cases hkj : k = j
      · subst hkj; exact .inr (.inl hn4)
      · rcases a4.due k ((hk2' k hkj).1 hk) with h | h | h
        · exact .inl h
        · rw [hset, if_neg hkj] at h; exact .inr (.inl h)
        · exact .inr (.inr h)
  have hsim : KeepX l tm j (exOf e) t T := by
    intro s0 π hπ hev hS
    have h7 := a6 s0 (fun k c => if k = j then pendA r.out c else π k c) (fun c => by simp) (fun k hk c => by
      have := hk.gt ht
      rw [if_neg (by omega)]; exact hπ k hk.desc c) ⟨hev, fun i c hwk => by
      obtain ⟨o1, o2⟩ := hS i c hwk
      unfold viewT
      rw [hset]
      by_cases hij : i = j
      · subst hij
        rw [if_pos rfl, if_pos rfl]
        obtain ⟨_, ch, hch, _⟩ := hwk
        have hcs : c < (sAt t i).children.l.length := by rw [hlen]; exact (List.getElem?_eq_some_iff.1 hch).1
        obtain ⟨v', g1, g2⟩ := hsum.child c _ (List.getElem?_eq_getElem hcs)
        have hview : viewT t i c = (sAt t i).children.l[c].status := by
          unfold viewT
          rw [List.getD_eq_getElem?_getD, List.getElem?_eq_getElem hcs]; rfl
        rw [hview, hπ i .refl c] at o2
        have hnew : ((mkS r).children.l.getD c default).status = v'.status := by
          show ((r.cs).getD c default).status = _
          rw [List.getD_eq_getElem?_getD, g1]; rfl
        rw [hnew]
        exact sim_step g2 (fun he => o2 (fun hh => he hh.2)) (fun he => o1 ⟨rfl, he⟩)
      · rw [if_neg hij, if_neg hij]
        exact o2 (fun hh => hij hh.1)⟩
    refine h7.congr fun i c _ => ?_
    by_cases hij : i = j
    · subst hij; simp [hπ i .refl c]
    · simp [hij]
  by_cases hpush : 0 < j ∧ (sAt t j).status ≠ 4 ∧ r.st = 4
  · rw [if_pos hpush, hte]
    refine ⟨ks1 ++ [j], ⟨a1.len, a1.inv, a1.time, a1.q.push ⟨hpush.1, hj⟩ hj1 (by split <;> simp)⟩, ?_, ?_, hself.1, ?_, fun hex => ?_, fun s0 π h1 h2 h3 => (hsim s0 π h1 h2 h3).same rfl rfl⟩
    · intro a c k ha hc'
      have hkj : k ≠ j := by have := (hc'.lt ht).1; have := ha.le ht; omega
      have := a2 a c k ha hc'
      have hmem : (k ∈ ks1 ++ [j]) = (k ∈ ks1) := by simp [hkj]
      rw [hmem]
      exact this
    · intro k hk
      have hkj : k ≠ j := fun e => hk (e ▸ .refl)
      have := hk2 k hk
      exact ⟨this.1, by simp [hkj]; exact this.2⟩
    · simp [hpush.1, hpush.2.2]
    · have hm2 := hmono (ks1 ++ [j]) (fun k hk => by simp [hk]) hex
      exact ⟨hm2.live, hm2.stop, hm2.due⟩
  · rw [if_neg hpush]
    refine ⟨ks1, a1, a2, hk2, hself.1, ⟨fun h => absurd h hj1, fun h => absurd ⟨h.1, hn4, h.2⟩ hpush⟩, hmono ks1 (fun _ _ => Iff.rfl), hsim⟩
end
section
open Go Go.RowKit
set_option linter.unusedVariables false
set_option linter.unusedSimpArgs false
set_option maxRecDepth 10000
set_option maxHeartbeats 2000000

theorem desc_parent {l : List Spec} (ht : TreeOk l) {j a c k : Nat} (h : Desc l j k) (hs : SubAt l a c k) : k = j ∨ Desc l j a := by
  cases h with
  | refl => exact .inl rfl
  | step h' hs' =>
    obtain ⟨rfl, _⟩ := ht.one hs' hs
    exact .inr h'
theorem sub_fun {l : List Spec} {i c j k : Nat} (h : SubAt l i c j) (h' : SubAt l i c k) : k = j := by
  obtain ⟨_, ch, h1, h2⟩ := h
  obtain ⟨_, ch', h1', h2'⟩ := h'
  rw [h1] at h1'; cases h1'
  omega
/-- A child of a supervisor has been dealt with. -/
theorem glue {l : List Spec} (ht : TreeOk l) {i c0 j : Nat} (hij : SubAt l i c0 j) {t t' : Tree} {ks ks' : List Nat} {p q : Nat → Pend} (hs : SubOk l t ks i p) (hq : ∀ c, c ≠ c0 → q c = p c) (hq0 : q c0 = .no) (hj : SubOk l t' ks' j (fun _ => .no)) (hk : KeepT l (Desc l j) t ks t' ks') (hl : LinkK (viewT t i c0) (sAt t' j).status (sAt t' j).failed (j ∈ ks') .no) :
    SubOk l t' ks' i q ∧ KeepT l (Below l i) t ks t' ks' ∧ ∀ c k k', SubAt l i c k → c ≠ c0 → Desc l k k' → sAt t' k' = sAt t k' := by
  have hlt := hij.lt ht
  have hi : ¬ Desc l j i := fun h => by have := h.le ht; omega
  refine ⟨fun a c k ha hsk => ?_, hk.weak fun k h => ⟨c0, j, hij, h⟩, fun c k k' hc hne hd => (hk k' fun h => ?_).1⟩
  · have hold := hs a c k ha hsk
    by_cases hai : a = i
    · subst hai
      rw [if_pos rfl] at hold ⊢
      have hv : viewT t' a c = viewT t a c := by unfold viewT; rw [(hk a hi).1]
      rw [hv]
      by_cases hc : c = c0
      · subst hc
        have := sub_fun hij hsk
        subst this
        rw [hq0]
        exact hl
      · rw [hq c hc]
        have hnd : ¬ Desc l j k := fun h => by
          rcases desc_parent ht h hsk with h1 | h1
          · subst h1; exact hc (ht.one hsk hij).2
          · exact hi h1
        have hkk := hk k hnd
        have : (k ∈ ks') = (k ∈ ks) := propext hkk.2
        rw [hkk.1, this]
        exact hold
    · rw [if_neg hai] at hold ⊢
      by_cases hda : Desc l j a
      · have := hj a c k hda hsk
        rw [ite_self] at this
        exact this
      · have hnd : ¬ Desc l j k := fun h => by
          rcases desc_parent ht h hsk with h1 | h1
          · subst h1; exact hai (ht.one hsk hij).1
          · exact hda h1
        have hkk := hk k hnd
        have hka := hk a hda
        have : (k ∈ ks') = (k ∈ ks) := propext hkk.2
        unfold viewT
        rw [hkk.1, hka.1, this]
        exact hold
  · have := Desc.same ht hij hc h hd
    subst this
    exact hne (ht.one hc hij).2
/-- Asked to stop: it can be handled. -/
theorem asked_ok {x : Spec} (h0 : chk x = 0) {m : Int} (hm : m ≤ 1099511627776) {s : State} (hi : Inv x m (runOf s)) (h4 : s.status ≠ 4) {tm : Int} (ht : 0 ≤ tm ∧ tm ≤ 1099511627776) (hr : ∀ y ∈ s.restarts.l, y ≤ tm) : handleE x s ⟨2, -1, 0, tm⟩ = 0 := by
  unfold handleE
  rw [if_pos (inv_valid h0 hm hi)]
  unfold checkN
  have h1 : malB x ⟨2, -1, 0, tm⟩ = false := by simp [malB, inR, ht.1, ht.2]
  have h2 : staleB s ⟨2, -1, 0, tm⟩ = false := by
    unfold staleB
    split
    · rename_i y hy
      have := hr y (List.mem_of_getElem? hy)
      simp only [decide_eq_false_iff_not]; omega
    · rfl
  have h3 : deadB s ⟨2, -1, 0, tm⟩ = false := by
    unfold deadB
    rw [if_neg (by simp)]
    simp [h4]
  rw [if_neg (by simp), h1, h2, h3]
  simp
end
section
open Go Go.RowKit
set_option linter.unusedVariables false
set_option linter.unusedSimpArgs false
set_option maxRecDepth 10000
set_option maxHeartbeats 2000000

theorem perf_inv {l : List Spec} (ht : TreeOk l) {tm m : Int} (htm : 0 ≤ tm ∧ tm ≤ 1099511627776) (hm : 1 ≤ m ∧ m + 1 ≤ 1099511627776) : ∀ d, PerfInv l tm m d := by
  intro d
  induction d with
  | zero => intro i acts t ks h1 h2; omega
  | succ d ih =>
    intro i acts t ks h1 h2 hr hfr hs ha
    show ∃ ks', RunInv l tm m (acts.foldl (doAct l (ordT l) (up l) (perf l (ordT l) (up l) d) i) t) ks' ∧ SubOk l (acts.foldl (doAct l (ordT l) (up l) (perf l (ordT l) (up l) d) i) t) ks' i (fun _ => .no) ∧ KeepT l (Below l i) t ks (acts.foldl (doAct l (ordT l) (up l) (perf l (ordT l) (up l) d) i) t) ks' ∧ Mono l t ks (acts.foldl (doAct l (ordT l) (up l) (perf l (ordT l) (up l) d) i) t) ks' ∧ (∀ c j, SubAt l i c j → pendA acts c = .start → AliveT l (acts.foldl (doAct l (ordT l) (up l) (perf l (ordT l) (up l) d) i) t) j) ∧ KeepS l tm i (pendA acts) (fun _ => .no) t (acts.foldl (doAct l (ordT l) (up l) (perf l (ordT l) (up l) d) i) t)
    induction acts generalizing t ks with
    | nil =>
      refine ⟨ks, hr, hs, KeepT.refl _ _ _ _, Mono.refl _ _ _, fun c j _ h => (by cases h), fun s0 π h1 _ hS => hS.congr fun k c _ => ?_⟩
      by_cases hk : k = i
      · subst hk
        have := h1 c
        simp only [pendA] at this
        simp [this]
      · simp [hk]
    | cons a r ih2 =>
      have hnd := List.nodup_cons.1 (show (a.child :: r.map Event.child).Nodup from ha.nodup)
      have ha' : ActsG (kids l i).length tm r := ⟨hnd.2, fun b hb => ha.all b (by simp [hb])⟩
      obtain ⟨hat, hav, hak⟩ := ha.all a (by simp)
      have key : ∃ ks1, RunInv l tm m (doAct l (ordT l) (up l) (perf l (ordT l) (up l) d) i t a) ks1 ∧ SubOk l (doAct l (ordT l) (up l) (perf l (ordT l) (up l) d) i t a) ks1 i (pendA r) ∧ KeepT l (Below l i) t ks (doAct l (ordT l) (up l) (perf l (ordT l) (up l) d) i t a) ks1 ∧
          (∀ c j k, SubAt l i c j → pendA r c ≠ .no → Desc l j k → sAt (doAct l (ordT l) (up l) (perf l (ordT l) (up l) d) i t a) k = sAt t k) ∧ Mono l t ks (doAct l (ordT l) (up l) (perf l (ordT l) (up l) d) i t a) ks1 ∧ (∀ c j, SubAt l i c j → pendA (a :: r) c = .start → pendA r c ≠ .start → AliveT l (doAct l (ordT l) (up l) (perf l (ordT l) (up l) d) i t a) j) ∧ KeepS l tm i (pendA (a :: r)) (pendA r) t (doAct l (ordT l) (up l) (perf l (ordT l) (up l) d) i t a) := by
        rcases hak with ⟨h5, hch⟩ | ⟨h34, hc0, hc1⟩
        · have hpe : ∀ c, pendA (a :: r) c = pendA r c := fun c => by
            rw [pendA, if_neg (by omega), if_neg (by omega)]
          have hs' : SubOk l t ks i (pendA r) := fun a' c k x y => by have := hs a' c k x y; rw [hpe] at this; exact this
          have hsim0 : KeepS l tm i (pendA (a :: r)) (pendA r) t t := fun s0 π h1 _ hS => hS.congr fun k c _ => by
            by_cases hk : k = i
            · subst hk; simp only [if_true]; rw [← hpe c, ← h1 c]
            · simp only [if_neg hk]
          unfold doAct
          rw [if_pos h5]
          split
          · refine ⟨ks, ⟨hr.len, hr.inv, hr.time, hr.q⟩, hs', fun k hk => ⟨rfl, Iff.rfl⟩, fun _ _ _ _ _ _ => rfl, ⟨fun _ _ h => h, fun _ h => .inl h, fun _ h => .inl h⟩, fun c j _ h h' => absurd (hpe c ▸ h) h', fun s0 π h1 h2 hS => ?_⟩
            have h3 := hsim0 s0 π h1 h2 hS
            refine ⟨fun b hb => ?_, fun k c hw => ?_⟩
            · rcases List.mem_append.1 hb with hb | hb
              · exact h3.ev b hb
              · simp only [List.mem_singleton] at hb; subst hb; exact ⟨hat, .inl h5⟩
            · have := h3.wk k c hw
              rw [simW_app]
              have hE : ∀ s : Option Nat, simE (numW (ordT l) (k, (c : Int))) s a = s := fun s => by
                cases s with
                | none => rfl
                | some n => simp [simE, h5]
              rw [hE]
              exact this
          · exact ⟨ks, hr, hs', KeepT.refl _ _ _ _, fun _ _ _ _ _ _ => rfl, Mono.refl _ _ _, fun c j _ h h' => absurd (hpe c ▸ h) h', hsim0⟩
        · obtain ⟨ch, hch⟩ : ∃ ch, (kids l i)[a.child.toNat]? = some ch := ⟨_, List.getElem?_eq_getElem (by omega)⟩
          have hcc : ((a.child.toNat : Nat) : Int) = a.child := by omega
          have hgd : (kids l i).getD a.child.toNat default = ch := by rw [List.getD_eq_getElem?_getD, hch]; rfl
          have hpe : ∀ c, c ≠ a.child.toNat → pendA r c = pendA (a :: r) c := fun c hc => by
            rw [pendA, if_neg (by omega), if_neg (by omega)]
          have hp0 : pendA r a.child.toNat = .no := pendA_no (fun b hb hbc => absurd (List.mem_map.2 ⟨b, hb, by rw [hbc, hcc]⟩) hnd.1)
          unfold doAct
          rw [if_neg (by omega)]
          simp only [hgd]
          by_cases hneg : ch.sub < 0
          · rw [if_pos hneg]
            have hs' : SubOk l t ks i (pendA r) := fun a' c k x y => by
              have := hs a' c k x y
              by_cases hai : a' = i
              · subst hai
                have hc : c ≠ a.child.toNat := fun e => by
                  obtain ⟨_, ch', g1, g2⟩ := y
                  rw [e, hch] at g1; cases g1
                  omega
                rw [if_pos rfl] at this ⊢
                rw [hpe c hc]; exact this
              · rw [if_neg hai] at this ⊢; exact this
            refine ⟨ks, ⟨hr.len, hr.inv, hr.time, hr.q⟩, hs', fun k hk => ⟨rfl, Iff.rfl⟩, fun _ _ _ _ _ _ => rfl, ⟨fun _ _ h => h, fun _ h => .inl h, fun _ h => .inl h⟩, fun c j y h h' => ?_, fun s0 π q1 q2 hS => ?_⟩
            · have hc : c ≠ a.child.toNat := fun e => by
                obtain ⟨_, ch', g1, g2⟩ := y
                rw [e, hch] at g1; cases g1
                omega
              exact absurd ((hpe c hc).trans h) h'
            · have hsub1 : ch.sub = -1 := by
                rcases ht.sub i _ ch h2 hch with h | h <;> omega
              have hwa : WorkerAt l (i, a.child.toNat) := ⟨h2, ch, hch, hsub1⟩
              have hnum : numW (ordT l) (i, a.child) = numW (ordT l) (i, ((a.child.toNat : Nat) : Int)) := by rw [hcc]
              refine ⟨fun b hb => ?_, fun k c hw => ?_⟩
              · rcases List.mem_append.1 hb with hb | hb
                · exact hS.ev b hb
                · simp only [List.mem_singleton] at hb
                  subst hb
                  refine ⟨hat, .inr ?_⟩
                  simp only [hnum]
                  exact num_range ht hwa
              · have hold := hS.wk k c hw
                rw [simW_app]
                by_cases hkc : k = i ∧ c = a.child.toNat
                · obtain ⟨rfl, rfl⟩ := hkc
                  rw [if_pos rfl, hp0]
                  rw [q1] at hold
                  show simE _ (simW _ t.out _) _ = _
                  rcases h34 with h3 | h4
                  · have hpp : pendA (a :: r) a.child.toNat = .start := by rw [pendA, if_pos ⟨h3, hcc.symm⟩]
                    rw [hpp] at hold
                    obtain ⟨hv, hs0⟩ := hold
                    rw [hs0]
                    have hv' : viewT t k a.child.toNat = 1 := hv
                    show _ = some (stat (viewT t k a.child.toNat))
                    rw [hv']
                    simp [simE, h3, hnum, stat]
                  · have hpp : pendA (a :: r) a.child.toNat = .stop := by rw [pendA, if_neg (by omega), if_pos ⟨h4, hcc.symm⟩]
                    rw [hpp] at hold
                    obtain ⟨hv, hs0⟩ := hold
                    rw [hs0]
                    have hv' : viewT t k a.child.toNat = 2 := hv
                    show _ = some (stat (viewT t k a.child.toNat))
                    rw [hv']
                    simp [simE, h4, hnum, stat]
                · have hne : ¬ numW (ordT l) (i, a.child) = numW (ordT l) (k, (c : Int)) := fun e => by
                    rw [hnum] at e
                    obtain ⟨e1, e2⟩ := num_inj ht hwa hw e
                    exact hkc ⟨e1.symm, e2.symm⟩
                  have hE : ∀ s : Option Nat, simE (numW (ordT l) (k, (c : Int))) s { a with child := numW (ordT l) (i, a.child) } = s := fun s => by
                    cases s with
                    | none => rfl
                    | some n => simp [simE, hne]
                  rw [hE]
                  by_cases hk : k = i
                  · subst hk
                    have hc : c ≠ a.child.toNat := fun e => hkc ⟨rfl, e⟩
                    rw [if_pos rfl, hpe c hc, ← q1 c]
                    exact hold
                  · rw [if_neg hk]
                    exact hold
          · rw [if_neg hneg]
            have hij : SubAt l i a.child.toNat ch.sub.toNat := ⟨h2, ch, hch, by omega⟩
            have hlt := hij.lt ht
            have hd' : l.length - ch.sub.toNat ≤ d := by omega
            have hlink := hs i a.child.toNat ch.sub.toNat .refl hij
            rw [if_pos rfl] at hlink
            have hsj := hs.child ht hij
            have fin : ∀ (t' : Tree) (ks1 : List Nat), RunInv l tm m t' ks1 → SubOk l t' ks1 ch.sub.toNat (fun _ => .no) → KeepT l (Desc l ch.sub.toNat) t ks t' ks1 → LinkK (viewT t i a.child.toNat) (sAt t' ch.sub.toNat).status (sAt t' ch.sub.toNat).failed (ch.sub.toNat ∈ ks1) .no → Mono l t ks t' ks1 → (a.kind = 3 → AliveT l t' ch.sub.toNat) → KeepJ l tm ch.sub.toNat t t' →
                ∃ ks1, RunInv l tm m t' ks1 ∧ SubOk l t' ks1 i (pendA r) ∧ KeepT l (Below l i) t ks t' ks1 ∧ (∀ c j k, SubAt l i c j → pendA r c ≠ .no → Desc l j k → sAt t' k = sAt t k) ∧ Mono l t ks t' ks1 ∧ (∀ c j, SubAt l i c j → pendA (a :: r) c = .start → pendA r c ≠ .start → AliveT l t' j) ∧ KeepS l tm i (pendA (a :: r)) (pendA r) t t' := by
              intro t' ks1 g1 g2 g3 g4 g5 g6 g7
              obtain ⟨k1, k2, k3⟩ := glue ht hij hs hpe hp0 g2 g3 g4
              refine ⟨ks1, g1, k1, k2, fun c j k x y z => k3 c j k x (fun e => y (by rw [e]; exact hp0)) z, g5, fun c j x h h' => ?_, fun s0 π q1 q2 hS => ?_⟩
              · by_cases hc : c = a.child.toNat
                · subst hc
                  have := sub_fun hij x
                  subst this
                  refine g6 ?_
                  rw [pendA] at h
                  split at h
                  · rename_i hh; exact hh.1
                  · split at h
                    · cases h
                    · exact absurd h h'
                · exact absurd ((hpe c hc).trans h) h'
              · refine (g7 s0 π (fun k hk c => q2 k ⟨_, _, hij, hk⟩ c) hS).congr fun k c hw => ?_
                by_cases hk : k = i
                · subst hk
                  have hc : c ≠ a.child.toNat := fun e => by
                    obtain ⟨_, ch', g1, g2⟩ := hw
                    simp only at g1 g2
                    rw [e, hch] at g1; cases g1
                    omega
                  rw [if_pos rfl, hpe c hc, ← q1 c]
                · rw [if_neg hk]
            by_cases h3 : a.kind = 3
            · rw [if_pos h3, hat]
              have hpp : pendA (a :: r) a.child.toNat = .start := by rw [pendA, if_pos ⟨h3, hcc.symm⟩]
              rw [hpp] at hlink
              obtain ⟨l1, l2, l3⟩ := hlink
              have hfr' : ∀ k, Desc l ch.sub.toNat k → Inv (l.getD k default) m (runOf (sAt t k)) := fun k hk => hfr _ _ k hij (by rw [hpp]; simp) hk
              obtain ⟨ks1, g1, g2, g3, g4, g5, g6, g7, g8⟩ := run_begin ht hm.1 ih hlt.2 hd' hr l3 l2 (fun k hk => hfr' k hk.desc) hsj
              refine fin _ ks1 g1 g2 g3 ?_ g6 (fun _ => g7) g8
              rw [g4]
              exact .inl ⟨l1, .inr ⟨g5, .inl rfl⟩⟩
            · rw [if_neg h3]
              have h4 : a.kind = 4 := by omega
              have hpp : pendA (a :: r) a.child.toNat = .stop := by rw [pendA, if_neg (by omega), if_pos ⟨h4, hcc.symm⟩]
              rw [hpp] at hlink
              obtain ⟨l1, l2⟩ := hlink
              have hfr' : ∀ k, Desc l ch.sub.toNat k → Inv (l.getD k default) m (runOf (sAt t k)) := fun k hk => hfr _ _ k hij (by rw [hpp]; simp) hk
              have hok : chk (l.getD ch.sub.toNat default) = 0 := by
                have hx := List.getElem?_eq_getElem hlt.2
                rw [List.getD_eq_getElem?_getD, hx]; exact ht.ok _ _ hx
              rw [hat]
              rcases l2 with ⟨b1, b2⟩ | ⟨b1, b2⟩
              · have hE : ¬ handleE (l.getD ch.sub.toNat default) (sAt t ch.sub.toNat) ⟨2, -1, 0, tm⟩ = 0 := fun hE => handle_not4 (handle_way (hfr' _ .refl) (handleE_check hE).2) b2
                have hdo : doHandle l (perf l (ordT l) (up l) d) (up l) ch.sub.toNat ⟨2, -1, 0, tm⟩ t = t := by
                  unfold doHandle
                  simp only
                  rw [if_neg hE]
                rw [hdo]
                exact fin t ks hr hsj (KeepT.refl _ _ _ _) (.inr (.inl ⟨l1, .inl ⟨b1, b2⟩⟩)) (Mono.refl _ _ _) (fun h => absurd h h3) (fun _ _ _ hS => hS)
              · have hn4 : (sAt t ch.sub.toNat).status ≠ 4 := by rcases b2 with h | h | h <;> omega
                have hE := asked_ok hok (by omega) (hfr' _ .refl) hn4 htm (hr.time _ hlt.2)
                obtain ⟨ks1, g1, g2, g3, g4, g5, g6, g7⟩ := run_handle ht (by omega) ih hlt.2 hd' hr rfl hE (hfr' _ .refl) b1 (fun k hk => hfr' k hk.desc) (fun a' c k x y => ⟨fun hh => by simp [exOf] at hh, fun _ => by have := hsj a' c k x y; rw [ite_self] at this; exact this⟩)
                refine fin _ ks1 g1 g2 g3 ?_ (g6 (fun c hh => by simp [exOf] at hh)) (fun h => absurd h h3) (g7.keepJ (fun c hh => by simp [exOf] at hh))
                rw [g4, l1]
                have hj0 : 0 < ch.sub.toNat := by omega
                exact link_asked (handle_way (hfr' _ .refl) (handleE_check hE).2) rfl (g5.trans ⟨fun h => h.2, fun h => ⟨hj0, h⟩⟩)
      obtain ⟨ks1, k1, k2, k3, k4, k5, k6, k7⟩ := key
      have hpr : ∀ c j, SubAt l i c j → pendA r c ≠ .no → pendA (a :: r) c ≠ .no := fun c j _ hne => by
        rw [pendA]
        split
        · simp
        · split
          · simp
          · exact hne
      obtain ⟨ks2, m1, m2, m3, m4, m5, m6⟩ := ih2 (doAct l (ordT l) (up l) (perf l (ordT l) (up l) d) i t a) ks1 k1 (fun c j k x y z => by
        rw [k4 c j k x y z]
        exact hfr c j k x (hpr c j x y) z) k2 ha'
      refine ⟨ks2, m1, m2, k3.trans m3, k5.trans m4, fun c j x h => ?_, fun s0 π q1 q2 hS => ?_⟩
      · by_cases hh : pendA r c = .start
        · exact m5 c j x hh
        · exact m4.alive (k6 c j x h hh)
      · refine (m6 s0 (fun k c => if k = i then pendA r c else π k c) (fun c => by simp) (fun k hk c => ?_) (k7 s0 π q1 q2 hS)).congr fun k c _ => ?_
        · have := hk.gt ht
          rw [if_neg (by omega)]; exact q2 k hk c
        · by_cases hk : k = i
          · simp [hk]
          · simp [hk]
end
end Go.Proofs.Ytjknjapdcphcfaa
