/-
  Trees that run: what is due is handled (conditions: none). Trees that run: the first that is due (conditions: none). Trees that run: the root is asked to stop; a live worker exits (conditions: none). Trees that run: below a stopped supervisor nobody lives (conditions: none). Trees that run: what is due comes to an end (conditions: none). Trees that run: how much is put out (conditions: none). Trees that run: a tree in order is valid; what is due is handled to its end (conditions: none). Trees that run: a new tree is in order (conditions: none). Trees that run: a worker exits, or the tree is asked to stop, in the program (conditions: none).
-/
import Derived.Test.YtjknjapdcphcfaaKD
namespace Go.Proofs.Ytjknjapdcphcfaa
section
open Go Go.RowKit
set_option linter.unusedVariables false
set_option linter.unusedSimpArgs false
set_option maxRecDepth 10000
set_option maxHeartbeats 2000000

/-- A tree in order, while what is due is handled. -/
structure TreeGo (l : List Spec) (tm m : Int) (t : Tree) (ks : List Nat) : Prop where
  len : t.ss.length = l.length
  inv : ∀ k, k < l.length → Inv (l.getD k default) m (runOf (sAt t k))
  time : ∀ k, k < l.length → ∀ x ∈ (sAt t k).restarts.l, x ≤ tm
  q : QOk l tm t.q ks
  link : ∀ a c k, SubAt l a c k → LinkK (viewT t a c) (sAt t k).status (sAt t k).failed (k ∈ ks) .no
/-- A child that lives exits: it can be handled. -/
theorem exit_ok {x : Spec} (h0 : chk x = 0) {m : Int} (hm : m ≤ 1099511627776) {s : State} (hi : Inv x m (runOf s)) {c : Nat} {v : ChildState} (hv : s.children.l[c]? = some v) (h12 : v.status = 1 ∨ v.status = 2) {n : Int} (hn : reasonB n = true) {tm : Int} (ht : 0 ≤ tm ∧ tm ≤ 1099511627776) (hr : ∀ y ∈ s.restarts.l, y ≤ tm) : handleE x s ⟨1, c, n, tm⟩ = 0 := by
  have hc := (List.getElem?_eq_some_iff.1 hv).1
  have hlen : s.children.l.length = x.children.l.length := hi.len
  unfold handleE
  rw [if_pos (inv_valid h0 hm hi)]
  unfold checkN
  have hin : inR (c : Int) 0 ((x.children.l.length : Int) - 1) = true := by simp [inR]; omega
  have hre := hn
  have h1 : malB x ⟨1, c, n, tm⟩ = false := by simp [malB, hin, hre]; simp [inR, ht.1, ht.2]
  have h2 : staleB s ⟨1, c, n, tm⟩ = false := by
    unfold staleB
    split
    · rename_i y hy
      have := hr y (List.mem_of_getElem? hy)
      simp only [decide_eq_false_iff_not]; omega
    · rfl
  have h3 : deadB s ⟨1, c, n, tm⟩ = false := by
    unfold deadB
    rw [if_pos (by simp)]
    have e : ((c : Nat) : Int).toNat = c := by omega
    simp only [e, hv]
    rcases h12 with h | h <;> simp [h]
  rw [if_neg (by simp), h1, h2, h3]
  simp
/-- An exit at supervisor i: of a worker, or of a supervisor that is due no more. -/
theorem run_exit {l : List Spec} (ht : TreeOk l) {tm m : Int} (htm : 0 ≤ tm ∧ tm ≤ 1099511627776) (hm : 1 ≤ m ∧ m + 1 ≤ 1099511627776) {t : Tree} {ks : List Nat} {i c : Nat} (hi : i < l.length) (hlen : t.ss.length = l.length) (hinv : ∀ k, k < l.length → Inv (l.getD k default) m (runOf (sAt t k))) (htime : ∀ k, k < l.length → ∀ x ∈ (sAt t k).restarts.l, x ≤ tm) (hq : QOk l tm t.q ks) {e : Event} (hek : e.kind = 1) (hec : e.child = c) (het : e.time = tm)
    (hE : handleE (l.getD i default) (sAt t i) e = 0)
    (hl : ∀ a c' k, SubAt l a c' k → ((a = i ∧ c' = c) → GoneK (viewT t a c') (sAt t k).status (k ∈ ks)) ∧ (¬ (a = i ∧ c' = c) → LinkK (viewT t a c') (sAt t k).status (sAt t k).failed (k ∈ ks) .no)) (hii : ∀ a c', SubAt l a c' i → ¬ (a = i ∧ c' = c)) :
    ∃ ks', TreeGo l tm (m + 1) (handleT l i e t) ks' ∧ KeepT l (Desc l i) t ks (handleT l i e t) ks' ∧ sAt (handleT l i e t) i = mkS (handleR (l.getD i default) (sAt t i) e) ∧ (i ∈ ks' ↔ 0 < i ∧ (handleR (l.getD i default) (sAt t i) e).st = 4) ∧ (¬ WorkerAt l (i, c) → Mono l t ks (handleT l i e t) ks') ∧ KeepX l tm i (some c) t (handleT l i e t) := by
  have hw := handle_way (hinv i hi) (handleE_check hE).2
  have hn4 := handle_not4 hw
  have hexo : exOf e = some c := by unfold exOf; rw [if_pos hek, hec]; simp
  have hb : i ∉ ks := fun hin => by
    have hri := hq.range i hin
    obtain ⟨a, c', hp⟩ := ht.parent hri
    have := (hl a c' i hp).2 (hii a c' hp)
    rcases this with ⟨_, ⟨_, h⟩ | ⟨h, _⟩⟩ | ⟨_, ⟨_, h⟩ | ⟨h, _⟩⟩ | ⟨_, h, _⟩
    · exact hn4 h
    · exact h hin
    · exact hn4 h
    · exact h hin
    · exact h hin
  have hr : RunInv l tm m t ks := ⟨hlen, fun k hk => (hinv k hk).mono (by omega), htime, hq⟩
  obtain ⟨ks', g1, g2, g3, g4, g5, g6, g7⟩ := run_handle ht (by omega) (perf_inv ht htm hm l.length) hi (by omega) hr het hE (hinv i hi) hb (fun k hk => hinv k (by
    obtain ⟨c', j, h1, h2⟩ := hk
    cases h2 with
    | refl => exact (h1.lt ht).2
    | step h5 h6 => exact (h6.lt ht).2)) (fun a c' k ha hs => by
    obtain ⟨o1, o2⟩ := hl a c' k hs
    refine ⟨fun hh => o1 ⟨hh.1, ?_⟩, fun hh => o2 fun h => hh ⟨h.1, by rw [hexo, h.2]⟩⟩
    have := hh.2
    rw [hexo] at this
    cases this; rfl)
  rw [show handleT l i e t = doHandle l (perf l (ordT l) (up l) l.length) (up l) i e t from rfl]
  refine ⟨ks', ⟨g1.len, g1.inv, g1.time, g1.q, fun a c' k hs => ?_⟩, g3, g4, g5, fun hn => g6 (fun c' hc' => by rw [hexo] at hc'; cases hc'; exact hn), by rw [hexo] at g7; exact g7⟩
  by_cases hda : Desc l i a
  · have := g2 a c' k hda hs
    rw [ite_self] at this
    exact this
  · have hai : a ≠ i := fun e => hda (e ▸ .refl)
    have hold := (hl a c' k hs).2 (fun h => hai h.1)
    have hka := g3 a hda
    by_cases hki : k = i
    · subst hki
      have hk0 : 0 < k := by have := (hs.lt ht).1; omega
      have h4 := link_exit hw hek hb (b' := k ∈ ks') (g5.trans ⟨fun h => h.2, fun h => ⟨hk0, h⟩⟩) (v := viewT t a c') hold
      unfold viewT at h4 ⊢
      rw [hka.1, g4]
      exact h4
    · have hnd : ¬ Desc l i k := fun h => by
        rcases desc_parent ht h hs with h1 | h1
        · exact hki h1
        · exact hda h1
      have hkk := g3 k hnd
      have : (k ∈ ks') = (k ∈ ks) := propext hkk.2
      unfold viewT at hold ⊢
      rw [hka.1, hkk.1, this]
      exact hold
end
section
open Go Go.RowKit
set_option linter.unusedVariables false
set_option linter.unusedSimpArgs false
set_option maxRecDepth 10000
set_option maxHeartbeats 2000000

theorem run_due {l : List Spec} (ht : TreeOk l) {tm m : Int} (htm : 0 ≤ tm ∧ tm ≤ 1099511627776) (hm : 1 ≤ m ∧ m + 1 ≤ 1099511627776) {t : Tree} {ks : List Nat} (h : TreeGo l tm m t ks) {d : Due} {r : List Due} (hq : t.q = d :: r) :
    ∃ k ks0, ks = k :: ks0 ∧ 1 ≤ k ∧ k < l.length ∧ k ∉ ks0 ∧ d.sup = ((up l k).1 : Int) ∧ (up l k).1 < l.length ∧ (sAt t k).status = 4 ∧ ∃ ks', TreeGo l tm (m + 1) (handleT l (up l k).1 d.e { t with q := r }) ks' ∧ KeepT l (Desc l (up l k).1) { t with q := r } ks0 (handleT l (up l k).1 d.e { t with q := r }) ks' ∧ Mono l { t with q := r } ks0 (handleT l (up l k).1 d.e { t with q := r }) ks' ∧ KeepJ l tm (up l k).1 { t with q := r } (handleT l (up l k).1 d.e { t with q := r }) := by
  have hmap := h.q.map
  rw [hq] at hmap
  obtain ⟨k, ks0, rfl⟩ : ∃ k ks0, ks = k :: ks0 := by
    cases ks with
    | nil => simp at hmap
    | cons k ks0 => exact ⟨k, ks0, rfl⟩
  simp only [List.map_cons, List.cons.injEq, Prod.mk.injEq] at hmap
  obtain ⟨⟨d1, d2, d3, d4⟩, hrest⟩ := hmap
  have hkr := h.q.range k (by simp)
  have hnd := List.nodup_cons.1 h.q.nodup
  have hsub := up_sub ht hkr
  have hval := h.q.val d (by rw [hq]; simp)
  have hiL := (hsub.lt ht).1
  have hil : (up l k).1 < l.length := by omega
  have hlk := h.link _ _ _ hsub
  have hgone : (viewT t (up l k).1 (up l k).2 = 1 ∨ viewT t (up l k).1 (up l k).2 = 2) ∧ (sAt t k).status = 4 := by
    rcases hlk with ⟨h1, ⟨_, h2⟩ | ⟨h2, _⟩⟩ | ⟨h1, ⟨_, h2⟩ | ⟨h2, _⟩⟩ | ⟨_, h2, _⟩
    · exact ⟨.inl h1, h2⟩
    · exact absurd (by simp) h2
    · exact ⟨.inr h1, h2⟩
    · exact absurd (by simp) h2
    · exact absurd (by simp) h2
  have hok : chk (l.getD (up l k).1 default) = 0 := by
    have hx := List.getElem?_eq_getElem hil
    rw [List.getD_eq_getElem?_getD, hx]; exact ht.ok _ _ hx
  have hcl : (up l k).2 < (sAt t (up l k).1).children.l.length := by
    have h1 : (sAt t (up l k).1).children.l.length = (l.getD (up l k).1 default).children.l.length := (h.inv _ hil).len
    obtain ⟨_, ch, h2, _⟩ := hsub
    rw [h1]; exact (List.getElem?_eq_some_iff.1 h2).1
  have hview : viewT t (up l k).1 (up l k).2 = (sAt t (up l k).1).children.l[(up l k).2].status := by
    unfold viewT
    rw [List.getD_eq_getElem?_getD, List.getElem?_eq_getElem hcl]; rfl
  have hde : d.e = ⟨1, (up l k).2, d.e.value, tm⟩ := by
    rw [← d2, ← d3, ← d4]
  have hE : handleE (l.getD (up l k).1 default) (sAt t (up l k).1) d.e = 0 := by
    rw [hde]
    exact exit_ok hok (by omega) (h.inv _ hil) (List.getElem?_eq_getElem hcl) (by rw [← hview]; exact hgone.1) (by rcases hval with h | h <;> rw [h] <;> decide) htm (h.time _ hil)
  have hq0 : QOk l tm r ks0 := ⟨hrest, fun x hx => h.q.val x (by rw [hq]; simp [hx]), hnd.2, fun x hx => h.q.range x (by simp [hx])⟩
  obtain ⟨ks', g1, g2, _, _, g3, g4⟩ := run_exit ht htm hm (t := { t with q := r }) (ks := ks0) hil h.len h.inv h.time hq0 d2 d3 d4 hE (fun a c' k' hs => by
    refine ⟨?_, fun hne => ?_⟩
    · rintro ⟨rfl, rfl⟩
      have := sub_fun hsub hs
      subst this
      exact ⟨hgone.1, hnd.1, hgone.2⟩
    · have hkk : k' ≠ k := fun e => by
        subst e
        exact hne (ht.one hs hsub)
      have := h.link a c' k' hs
      have hmem : (k' ∈ k :: ks0) = (k' ∈ ks0) := by simp [hkk]
      rw [hmem] at this
      exact this) (fun a c' hs hh => by have := (hs.lt ht).1; omega)
  have hnw : ¬ WorkerAt l ((up l k).1, (up l k).2) := fun hw => by
    obtain ⟨_, ch, h1, h2⟩ := hw
    obtain ⟨_, ch', h3, h4⟩ := hsub
    rw [h1] at h3; cases h3
    omega
  exact ⟨k, ks0, rfl, hkr.1, hkr.2, hnd.1, d1, hil, hgone.2, ks', g1, g2, g3 hnw, g4.keepJ (fun c hc => by cases hc; exact hnw)⟩
end
section
open Go Go.RowKit
set_option linter.unusedVariables false
set_option linter.unusedSimpArgs false
set_option maxRecDepth 10000
set_option maxHeartbeats 2000000

theorem below_lt {l : List Spec} (ht : TreeOk l) {i k : Nat} (h : Below l i k) : k < l.length := by
  obtain ⟨c, j, h1, h2⟩ := h
  cases h2 with
  | refl => exact (h1.lt ht).2
  | step h3 h4 => exact (h4.lt ht).2
theorem run_asked {l : List Spec} (ht : TreeOk l) {tm m : Int} (htm : 0 ≤ tm ∧ tm ≤ 1099511627776) (hm : 1 ≤ m ∧ m + 1 ≤ 1099511627776) {t : Tree} {ks : List Nat} (h : TreeGo l tm m t ks) {e : Event} (hek : e.kind = 2) (het : e.time = tm) (hE : handleE (l.getD 0 default) (sAt t 0) e = 0) :
    ∃ ks', TreeGo l tm (m + 1) (handleT l 0 e t) ks' ∧ sAt (handleT l 0 e t) 0 = mkS (handleR (l.getD 0 default) (sAt t 0) e) ∧ Mono l t ks (handleT l 0 e t) ks' ∧ KeepJ l tm 0 t (handleT l 0 e t) := by
  have h0 : 0 < l.length := by have := ht.len.1; omega
  have hb : 0 ∉ ks := fun hin => by have := (h.q.range 0 hin).1; omega
  have hr : RunInv l tm m t ks := ⟨h.len, fun k hk => (h.inv k hk).mono (by omega), h.time, h.q⟩
  obtain ⟨ks', g1, g2, g3, g4, g5, g6, g7⟩ := run_handle ht (by omega) (perf_inv ht htm hm l.length) h0 (by omega) hr het hE (h.inv 0 h0) hb (fun k hk => h.inv k (below_lt ht hk)) (fun a c k ha hs => ⟨fun hh => absurd hh.2 (by unfold exOf; rw [if_neg (by omega)]; simp), fun _ => h.link a c k hs⟩)
  refine ⟨ks', ⟨g1.len, g1.inv, g1.time, g1.q, fun a c k hs => ?_⟩, g4, g6 (fun c hh => by unfold exOf at hh; rw [if_neg (by omega)] at hh; cases hh), g7.keepJ (fun c hh => by unfold exOf at hh; rw [if_neg (by omega)] at hh; cases hh)⟩
  have := g2 a c k (desc_root ht a hs.1) hs
  rw [ite_self] at this
  exact this
/-- A worker exits. -/
theorem run_worker {l : List Spec} (ht : TreeOk l) {tm m : Int} (htm : 0 ≤ tm ∧ tm ≤ 1099511627776) (hm : 1 ≤ m ∧ m + 1 ≤ 1099511627776) {t : Tree} {ks : List Nat} (h : TreeGo l tm m t ks) {i c : Nat} (hw : WorkerAt l (i, c)) {e : Event} (hek : e.kind = 1) (hec : e.child = c) (het : e.time = tm) (hE : handleE (l.getD i default) (sAt t i) e = 0) :
    ∃ ks', TreeGo l tm (m + 1) (handleT l i e t) ks' ∧ KeepT l (Desc l i) t ks (handleT l i e t) ks' ∧ sAt (handleT l i e t) i = mkS (handleR (l.getD i default) (sAt t i) e) ∧ (i ∈ ks' ↔ 0 < i ∧ (handleR (l.getD i default) (sAt t i) e).st = 4) ∧ KeepX l tm i (some c) t (handleT l i e t) := by
  obtain ⟨hi, ch, hch, hsub⟩ := hw
  have hno : ∀ a c' k, SubAt l a c' k → ¬ (a = i ∧ c' = c) := by
    rintro a c' k ⟨_, ch', h1, h2⟩ ⟨rfl, rfl⟩
    rw [hch] at h1; cases h1
    omega
  obtain ⟨ks', g1, g2, g3, g4, _, g5⟩ := run_exit ht htm hm hi h.len h.inv h.time h.q hek hec het hE (fun a c' k hs => ⟨fun hh => absurd hh (hno a c' k hs), fun _ => h.link a c' k hs⟩) (fun a c' hs => hno a c' i hs)
  exact ⟨ks', g1, g2, g3, g4, g5⟩
end
section
open Go Go.RowKit
set_option linter.unusedVariables false
set_option linter.unusedSimpArgs false
set_option maxRecDepth 10000

theorem view_done {l : List Spec} {tm m : Int} {t : Tree} {ks : List Nat} (h : TreeGo l tm m t ks) {i c : Nat} (hi : i < l.length) (hc : c < (kids l i).length) (h4 : (sAt t i).status = 4) : viewT t i c = 3 := by
  have hlen : (sAt t i).children.l.length = (l.getD i default).children.l.length := (h.inv i hi).len
  have hcs : c < (sAt t i).children.l.length := by rw [hlen]; exact hc
  unfold viewT
  rw [List.getD_eq_getElem?_getD, List.getElem?_eq_getElem hcs]
  exact views_done (h.inv i hi) h4 c _ (List.getElem?_eq_getElem hcs)
theorem stopped_below {l : List Spec} {tm m : Int} {t : Tree} {ks : List Nat} (h : TreeGo l tm m t ks) {k i : Nat} (h4 : (sAt t k).status = 4) (hd : Desc l k i) : (sAt t i).status = 4 := by
  induction hd with
  | refl => exact h4
  | step hd' hs ih =>
    have hv := view_done h hs.1 (by obtain ⟨_, ch, h1, _⟩ := hs; exact (List.getElem?_eq_some_iff.1 h1).1) ih
    have hl := h.link _ _ _ hs
    rw [hv] at hl
    rcases hl with ⟨h1, _⟩ | ⟨h1, _⟩ | ⟨_, _, h1⟩
    · omega
    · omega
    · exact h1
theorem not_alive {l : List Spec} {tm m : Int} {t : Tree} {ks : List Nat} (h : TreeGo l tm m t ks) {k : Nat} (h4 : (sAt t k).status = 4) : ¬ AliveT l t k := by
  rintro ⟨i, c, hd, ⟨hi, ch, hch, _⟩, hv⟩
  have := view_done h hi (List.getElem?_eq_some_iff.1 hch).1 (stopped_below h h4 hd)
  simp only at this
  omega
end
section
open Go Go.RowKit
set_option linter.unusedVariables false
set_option linter.unusedSimpArgs false
set_option maxRecDepth 10000

open Classical in
/-- How much may still become due at a supervisor. -/
noncomputable def wtK (l : List Spec) (t : Tree) (ks : List Nat) (k : Nat) : Nat := if (sAt t k).status ≠ 4 ∧ ¬ AliveT l t k then 2 else if k ∈ ks then 1 else 0
theorem due_stopped {l : List Spec} (ht : TreeOk l) {tm m : Int} {t : Tree} {ks : List Nat} (h : TreeGo l tm m t ks) {k : Nat} (hk : k ∈ ks) : (sAt t k).status = 4 := by
  obtain ⟨i, c, hs⟩ := ht.parent (h.q.range k hk)
  rcases h.link i c k hs with ⟨_, ⟨_, h2⟩ | ⟨h2, _⟩⟩ | ⟨_, ⟨_, h2⟩ | ⟨h2, _⟩⟩ | ⟨_, h2, _⟩
  · exact h2
  · exact absurd hk h2
  · exact h2
  · exact absurd hk h2
  · exact absurd hk h2
theorem wtK_le {l : List Spec} (ht : TreeOk l) {tm m : Int} {t t' : Tree} {ks ks' : List Nat} (h : TreeGo l tm m t' ks') (hm : Mono l t ks t' ks') (k : Nat) : wtK l t' ks' k ≤ wtK l t ks k := by
  unfold wtK
  by_cases h1 : (sAt t' k).status ≠ 4 ∧ ¬ AliveT l t' k
  · have h2 : (sAt t k).status ≠ 4 ∧ ¬ AliveT l t k := ⟨fun e => by
      rcases hm.stop k e with h3 | h3
      · exact h1.1 h3
      · exact h1.2 h3, fun e => h1.2 (hm.alive e)⟩
    rw [if_pos h1, if_pos h2]; exact Nat.le_refl _
  · rw [if_neg h1]
    by_cases hk : k ∈ ks'
    · rw [if_pos hk]
      have hna := not_alive h (due_stopped ht h hk)
      by_cases h2 : (sAt t k).status ≠ 4 ∧ ¬ AliveT l t k
      · rw [if_pos h2]; omega
      · rw [if_neg h2]
        rcases hm.due k hk with h3 | h3 | h3
        · rw [if_pos h3]; exact Nat.le_refl _
        · exact absurd ⟨h3, fun e => hna (hm.alive e)⟩ h2
        · exact absurd h3 hna
    · rw [if_neg hk]; exact Nat.zero_le _
end
section
open Go Go.RowKit
set_option linter.unusedVariables false
set_option linter.unusedSimpArgs false
set_option maxRecDepth 10000
set_option maxHeartbeats 1000000

theorem valid_inv {x : Spec} {s : State} (h : validB x s = true) : Inv x 1099511627776 (runOf s) := by
  obtain ⟨h0, h1, h2, h3, h4, h5⟩ := valid_facts h
  refine ⟨h1, fun i c hc => ?_, fits_iff.1 h4, (times_iff (win_of h0)).1 h5, h2, fun hf => ?_⟩
  · have := List.all_eq_true.1 h3 c (List.mem_of_getElem? hc)
    simp [childOk, inR] at this
    omega
  · have hf' : s.failed = true := hf
    simp only [validB, hf', Bool.not_true, Bool.false_or, Bool.and_eq_true] at h
    have := h.2
    simp [endedB] at this
    exact this
/-- The actions of a supervisor that handles an event: each child once. -/
theorem handle_acts {x : Spec} {s : State} {e : Event} (hE : handleE x s e = 0) : ActsG x.children.l.length e.time (handleR x s e).out := by
  obtain ⟨hv, hc⟩ := handleE_check hE
  have hi := valid_inv hv
  have hs := hsum_handle hi (handle_way hi hc)
  have ha := (actw_handle x s e).2
  have hl : s.children.l.length = x.children.l.length := hi.len
  rw [hl] at ha
  exact ⟨hs.nodup, ha⟩
theorem sum_erase {α : Type} [DecidableEq α] (g : α → Nat) : ∀ (M : List α) (x : α), x ∈ M → (M.map g).sum = g x + ((M.erase x).map g).sum
  | [], x, h => by cases h
  | y :: M, x, h => by
    by_cases hxy : y = x
    · subst hxy; simp
    · have hm : x ∈ M := by
        rcases List.mem_cons.1 h with h | h
        · exact absurd h.symm hxy
        · exact h
      rw [List.erase_cons_tail (by simpa using hxy)]
      simp only [List.map_cons, List.sum_cons]
      rw [sum_erase g M x hm]; omega
theorem sum_le {α : Type} [DecidableEq α] (g : α → Nat) : ∀ (L M : List α), L.Nodup → (∀ x ∈ L, x ∈ M) → (L.map g).sum ≤ (M.map g).sum
  | [], M, _, _ => Nat.zero_le _
  | x :: r, M, hd, hm => by
    rw [List.nodup_cons] at hd
    have h1 := sum_le g r (M.erase x) hd.2 (fun y hy => by
      have hne : y ≠ x := fun e => hd.1 (e ▸ hy)
      exact (List.mem_erase_of_ne hne).2 (hm y (by simp [hy])))
    rw [sum_erase g M x (hm x (by simp))]
    simp only [List.map_cons, List.sum_cons]; omega
/-- What an action for a child may put out. -/
def wtA (l : List Spec) (d i : Nat) (c : Int) : Nat := if c < 0 then (if i = 0 then 1 else 0) else (partW l d i ((kids l i).getD c.toNat default, c.toNat)).length
theorem wtA_sum (l : List Spec) (d i : Nat) : (((-1 : Int) :: (List.range (kids l i).length).map (fun c : Nat => (c : Int))).map (wtA l d i)).sum = (if i = 0 then 1 else 0) + (order l (d + 1) i).length := by
  rw [order_succ, List.length_flatMap, List.map_cons, List.sum_cons]
  have h1 : wtA l d i (-1) = if i = 0 then 1 else 0 := by unfold wtA; rw [if_pos (by decide)]
  rw [h1]
  congr 1
  congr 1
  rw [List.map_map]
  refine List.ext_getElem? fun n => ?_
  rw [List.getElem?_map, List.getElem?_map, List.getElem?_zipIdx]
  by_cases hn : n < (kids l i).length
  · rw [List.getElem?_range hn, List.getElem?_eq_getElem hn]
    simp only [Option.map_some, Function.comp, wtA]
    rw [if_neg (by omega)]
    have e : ((n : Nat) : Int).toNat = n := by omega
    rw [e, List.getD_eq_getElem?_getD, List.getElem?_eq_getElem hn]
    simp
  · rw [List.getElem?_eq_none (by simpa using hn), List.getElem?_eq_none (by simpa using hn)]; rfl
theorem perf_len {l : List Spec} (ht : TreeOk l) : ∀ (d i : Nat) (tm : Int) (acts : List Event) (t : Tree), i < l.length → ActsG (kids l i).length tm acts → (perf l (ordT l) (up l) d i acts t).out.length ≤ t.out.length + (if i = 0 then 1 else 0) + (order l d i).length := by
  intro d
  induction d with
  | zero => intro i tm acts t _ _; show t.out.length ≤ _; omega
  | succ d ih =>
    intro i tm acts t hi ha
    have one : ∀ (t : Tree) (a : Event), ActN (kids l i).length tm a → (doAct l (ordT l) (up l) (perf l (ordT l) (up l) d) i t a).out.length ≤ t.out.length + wtA l d i a.child := by
      intro t a hn
      unfold doAct
      rcases hn with ⟨_, _, ⟨h5, hc⟩ | ⟨h34, hc0, hc1⟩⟩
      · have hwt : wtA l d i a.child = if i = 0 then 1 else 0 := by unfold wtA; rw [if_pos (by omega)]
        rw [if_pos h5, hwt]
        by_cases h0 : i = 0
        · rw [if_pos h0, if_pos h0]; simp
        · rw [if_neg h0, if_neg h0]; simp
      · have hwt : wtA l d i a.child = (partW l d i ((kids l i).getD a.child.toNat default, a.child.toNat)).length := by unfold wtA; rw [if_neg (by omega)]
        rw [if_neg (by omega), hwt]
        obtain ⟨ch, hch⟩ : ∃ ch, (kids l i)[a.child.toNat]? = some ch := ⟨_, List.getElem?_eq_getElem (by omega)⟩
        have hgd : (kids l i).getD a.child.toNat default = ch := by rw [List.getD_eq_getElem?_getD, hch]; rfl
        rw [hgd]
        by_cases hneg : ch.sub < 0
        · have hp : (partW l d i (ch, a.child.toNat)).length = 1 := by unfold partW; rw [if_pos hneg]; rfl
          rw [hp]
          simp only [hneg, if_true]
          simp
        · have hp : partW l d i (ch, a.child.toNat) = order l d ch.sub.toNat := by unfold partW; rw [if_neg hneg]
          rw [hp]
          simp only [hneg, if_false]
          have hij : SubAt l i a.child.toNat ch.sub.toNat := ⟨hi, ch, hch, by omega⟩
          have hlt := hij.lt ht
          have h0 : ¬ ch.sub.toNat = 0 := by omega
          by_cases h3 : a.kind = 3
          · rw [if_pos h3]
            have := ih ch.sub.toNat a.time _ { t with ss := t.ss.set ch.sub.toNat (startS (l.getD ch.sub.toNat default)) } hlt.2 (start_acts a.time _)
            rw [if_neg h0] at this
            exact this
          · rw [if_neg h3]
            unfold doHandle
            simp only
            by_cases hE : handleE (l.getD ch.sub.toNat default) (t.ss.getD ch.sub.toNat default) ⟨2, -1, 0, a.time⟩ = 0
            · rw [if_pos hE]
              have := ih ch.sub.toNat a.time _ { t with ss := t.ss.set ch.sub.toNat (mkS (handleR (l.getD ch.sub.toNat default) (t.ss.getD ch.sub.toNat default) ⟨2, -1, 0, a.time⟩)) } hlt.2 (handle_acts (e := ⟨2, -1, 0, a.time⟩) hE)
              rw [if_neg h0] at this
              split <;> exact this
            · rw [if_neg hE]; omega
    have all : ∀ (r : List Event) (t : Tree), (∀ a ∈ r, ActN (kids l i).length tm a) → (r.foldl (doAct l (ordT l) (up l) (perf l (ordT l) (up l) d) i) t).out.length ≤ t.out.length + ((r.map Event.child).map (wtA l d i)).sum := by
      intro r
      induction r with
      | nil => intro t _; simp
      | cons a r ihr =>
        intro t hr
        have h1 := one t a (hr a (by simp))
        have h2 := ihr (doAct l (ordT l) (up l) (perf l (ordT l) (up l) d) i t a) (fun b hb => hr b (by simp [hb]))
        simp only [List.foldl_cons, List.map_cons, List.sum_cons]
        omega
    have h1 := all acts t ha.all
    have h2 := sum_le (wtA l d i) (acts.map Event.child) ((-1 : Int) :: (List.range (kids l i).length).map (fun c : Nat => (c : Int))) ha.nodup (fun c hc => by
      obtain ⟨a, hm, rfl⟩ := List.mem_map.1 hc
      rcases (ha.all a hm).2.2 with ⟨_, h⟩ | ⟨_, h, h'⟩
      · rw [h]; simp
      · refine List.mem_cons_of_mem _ (List.mem_map.2 ⟨a.child.toNat, ?_, by omega⟩)
        rw [List.mem_range]; omega)
    rw [wtA_sum] at h2
    show (acts.foldl (doAct l (ordT l) (up l) (perf l (ordT l) (up l) d) i) t).out.length ≤ _
    omega
theorem handle_len {l : List Spec} (ht : TreeOk l) {i : Nat} (hi : i < l.length) (e : Event) (t : Tree) : (handleT l i e t).out.length ≤ t.out.length + 129 := by
  show (doHandle l (perf l (ordT l) (up l) l.length) (up l) i e t).out.length ≤ _
  unfold doHandle
  simp only
  by_cases hE : handleE (l.getD i default) (t.ss.getD i default) e = 0
  · rw [if_pos hE]
    have h1 := perf_len ht l.length i e.time _ { t with ss := t.ss.set i (mkS (handleR (l.getD i default) (t.ss.getD i default) e)) } hi (handle_acts hE)
    have h2 := order_len ht l.length i hi
    simp only at h1
    split
    · simp only; split at h1 <;> omega
    · split at h1 <;> omega
  · rw [if_neg hE]; omega
end
section
open Go Go.RowKit
set_option linter.unusedVariables false
set_option linter.unusedSimpArgs false
set_option maxRecDepth 10000
set_option maxHeartbeats 1000000

theorem go_small {l : List Spec} (ht : TreeOk l) {tm m : Int} {t : Tree} {ks : List Nat} (h : TreeGo l tm m t ks) : SmallS t.ss := by
  intro s hs
  obtain ⟨k, hk⟩ := List.getElem?_of_mem hs
  have hkl := (List.getElem?_eq_some_iff.1 hk).1
  rw [h.len] at hkl
  have hi := h.inv k hkl
  have hsk : sAt t k = s := by unfold sAt; rw [List.getD_eq_getElem?_getD, hk]; rfl
  rw [hsk] at hi
  have h1 := hi.len
  have h2 := hi.few
  have hx := List.getElem?_eq_getElem hkl
  have hgx : l.getD k default = l[k] := by rw [List.getD_eq_getElem?_getD, hx]; rfl
  have hok := ht.ok k _ hx
  rw [← hgx] at hok
  have h3 := chk_len hok
  have h4 : (l.getD k default).intensity ≤ 100 := by have := (chk_ok hok).2.1; simp only [inR, Bool.and_eq_true, decide_eq_true_eq] at this; omega
  simp only [runOf] at h1 h2
  omega
theorem go_valid {l : List Spec} (ht : TreeOk l) {tm m : Int} (hm : m ≤ 1099511627776) {t : Tree} (h : TreeGo l tm m t []) : validT l t.ss = true := by
  have hv1 : valid1 l t.ss = true := by
    unfold valid1
    rw [List.all_eq_true]
    rintro ⟨x, k⟩ hp
    have hx := List.mem_zipIdx_iff_getElem?.1 hp
    have hkl := (List.getElem?_eq_some_iff.1 hx).1
    have hi := h.inv k hkl
    have hgx : l.getD k default = x := by rw [List.getD_eq_getElem?_getD, hx]; rfl
    rw [hgx] at hi
    exact inv_valid (ht.ok k x hx) hm hi
  have hv2 : valid2 l t.ss = true := by
    unfold valid2
    rw [List.all_eq_true]
    rintro ⟨x, i⟩ hp
    have hx := List.mem_zipIdx_iff_getElem?.1 hp
    have hil := (List.getElem?_eq_some_iff.1 hx).1
    unfold valid2X
    rw [List.all_eq_true]
    rintro ⟨ch, c⟩ hq
    have hch := List.mem_zipIdx_iff_getElem?.1 hq
    unfold valid2C
    by_cases hneg : ch.sub < 0
    · simp [hneg]
    · have hsub : SubAt l i c ch.sub.toNat := ⟨hil, ch, by rw [kids_of hx]; exact hch, by omega⟩
      have hl := h.link _ _ _ hsub
      have hcl := (List.getElem?_eq_some_iff.1 hch).1
      have hlen : (sAt t i).children.l.length = (l.getD i default).children.l.length := (h.inv i hil).len
      have hgx : l.getD i default = x := by rw [List.getD_eq_getElem?_getD, hx]; rfl
      rw [hgx] at hlen
      show (decide (ch.sub < 0) || fitsU (viewT t i c) (sAt t ch.sub.toNat)) = true
      rw [decide_eq_false hneg, Bool.false_or]
      generalize sAt t ch.sub.toNat = s at hl ⊢
      unfold fitsU
      rcases hl with ⟨h1, ⟨h2, _⟩ | ⟨_, h2⟩⟩ | ⟨h1, ⟨h2, _⟩ | ⟨_, h2⟩⟩ | ⟨h1, _, h2⟩
      · cases h2
      · rw [if_pos h1]
        rcases h2 with h2 | h2 | ⟨h2, h3⟩
        · simp [h2]
        · simp [h2]
        · simp [h2, h3]
      · cases h2
      · rw [if_neg (by omega), if_pos h1]; simp [h2]
      · rw [if_neg (by omega), if_neg (by omega)]; simp [h2]
  unfold validT
  rw [hv1, hv2, h.len]; simp
theorem go_late {l : List Spec} {tm m : Int} {t : Tree} {ks : List Nat} (h : TreeGo l tm m t ks) : lateT t.ss tm = false := by
  unfold lateT
  rw [List.any_eq_false]
  intro s hs
  obtain ⟨k, hk⟩ := List.getElem?_of_mem hs
  have hkl := (List.getElem?_eq_some_iff.1 hk).1
  rw [h.len] at hkl
  have hsk : sAt t k = s := by unfold sAt; rw [List.getD_eq_getElem?_getD, hk]; rfl
  have := h.time k hkl
  rw [hsk] at this
  unfold lateX
  rw [Bool.not_eq_true, List.any_eq_false]
  intro n hn
  have := this n hn
  simp; omega
theorem go_mono {l : List Spec} {tm tm' m m' : Int} {t : Tree} (h : TreeGo l tm m t []) (h1 : tm ≤ tm') (h2 : m ≤ m') : TreeGo l tm' m' t [] := by
  refine ⟨h.len, fun k hk => (h.inv k hk).mono h2, fun k hk x hx => by have := h.time k hk x hx; omega, ?_, h.link⟩
  have hq := h.q
  refine ⟨?_, hq.val, hq.nodup, hq.range⟩
  have := hq.map
  simp only [List.map_nil, List.map_eq_nil_iff] at this
  rw [this]; rfl
/-- How much may still become due. -/
noncomputable def wtT (l : List Spec) (t : Tree) (ks : List Nat) : Nat := ((List.range l.length).map (wtK l t ks)).sum
theorem sum_lt {f g : Nat → Nat} {n k : Nat} (h : ∀ j, f j ≤ g j) (hk : k < n) (hlt : f k < g k) : ((List.range n).map f).sum < ((List.range n).map g).sum := by
  induction n with
  | zero => omega
  | succ n ih =>
    rw [List.range_succ, List.map_append, List.map_append, List.sum_append, List.sum_append]
    simp only [List.map_cons, List.map_nil, List.sum_cons, List.sum_nil]
    have hle : ∀ n, ((List.range n).map f).sum ≤ ((List.range n).map g).sum := by
      intro n
      induction n with
      | zero => simp
      | succ n ih =>
        rw [List.range_succ, List.map_append, List.map_append, List.sum_append, List.sum_append]
        simp only [List.map_cons, List.map_nil, List.sum_cons, List.sum_nil]
        have := h n
        omega
    by_cases hkn : k = n
    · subst hkn; have := hle k; omega
    · have := ih (by omega); have := h n; omega
theorem wtT_lt {l : List Spec} (ht : TreeOk l) {tm m m' : Int} {t t0 t' : Tree} {k : Nat} {ks0 ks' : List Nat} (h : TreeGo l tm m t (k :: ks0)) (hss : t0.ss = t.ss) (h' : TreeGo l tm m' t' ks') (hm : Mono l t0 ks0 t' ks') : wtT l t' ks' < wtT l t (k :: ks0) := by
  have hs : ∀ j, sAt t0 j = sAt t j := fun j => by unfold sAt; rw [hss]
  have hal : ∀ j, AliveT l t0 j ↔ AliveT l t j := fun j => by
    unfold AliveT LiveW viewT
    simp only [hs]
  have hw : ∀ j, wtK l t0 ks0 j ≤ wtK l t (k :: ks0) j := fun j => by
    unfold wtK
    rw [hs, propext (hal j)]
    split
    · exact Nat.le_refl _
    · by_cases hj : j ∈ ks0
      · rw [if_pos hj, if_pos (List.mem_cons_of_mem _ hj)]; exact Nat.le_refl _
      · rw [if_neg hj]; exact Nat.zero_le _
  have hkr := h.q.range k (by simp)
  refine sum_lt (k := k) (fun j => Nat.le_trans (wtK_le ht h' hm j) (hw j)) hkr.2 ?_
  refine Nat.lt_of_le_of_lt (wtK_le ht h' hm k) ?_
  have h4 := due_stopped ht h (k := k) (by simp)
  have hn : k ∉ ks0 := (List.nodup_cons.1 h.q.nodup).1
  unfold wtK
  have e1 : ¬ ((sAt t k).status ≠ 4 ∧ ¬ AliveT l t0 k) := fun hh => hh.1 h4
  have e2 : ¬ ((sAt t k).status ≠ 4 ∧ ¬ AliveT l t k) := fun hh => hh.1 h4
  rw [hs, if_neg e1, if_neg e2, if_neg hn, if_pos (by simp)]
  omega
theorem wtT_le {l : List Spec} (ht : TreeOk l) (t : Tree) (ks : List Nat) : wtT l t ks ≤ 16 := by
  have : ∀ n, ((List.range n).map (wtK l t ks)).sum ≤ 2 * n := by
    intro n
    induction n with
    | zero => simp
    | succ n ih =>
      rw [List.range_succ, List.map_append, List.sum_append]
      simp only [List.map_cons, List.map_nil, List.sum_cons, List.sum_nil]
      have : wtK l t ks n ≤ 2 := by unfold wtK; split <;> (try split) <;> omega
      omega
  have h1 := this l.length
  have h2 := ht.len.2
  unfold wtT
  omega
theorem go_qlen {l : List Spec} {tm m : Int} {t : Tree} {ks : List Nat} (h : TreeGo l tm m t ks) : t.q.length ≤ l.length := by
  have h1 := congrArg List.length h.q.map
  simp only [List.length_map] at h1
  rw [h1]
  have := nodup_le ks (List.range l.length) h.q.nodup (fun x hx => by rw [List.mem_range]; exact (h.q.range x hx).2)
  rwa [List.length_range] at this
/-- What is kept by each step, while what is due is handled. -/
def KeptBy (l : List Spec) (tm : Int) (P : Tree → List Nat → Prop) : Prop :=
  ∀ (m : Int) (t : Tree) (d : Due) (r : List Due) (k : Nat) (ks0 ks' : List Nat), m ≤ 1000000 → TreeGo l tm m t (k :: ks0) → t.q = d :: r → 1 ≤ k → k < l.length → d.sup = ((up l k).1 : Int) → (up l k).1 < l.length → P t (k :: ks0) → TreeGo l tm (m + 1) (handleT l (up l k).1 d.e { t with q := r }) ks' → KeepT l (Desc l (up l k).1) { t with q := r } ks0 (handleT l (up l k).1 d.e { t with q := r }) ks' → P (handleT l (up l k).1 d.e { t with q := r }) ks'
/-- All that is due is handled, and comes to an end. -/
theorem run_drains {l : List Spec} (ht : TreeOk l) {tm : Int} (htm : 0 ≤ tm ∧ tm ≤ 1099511627776) (P : Tree → List Nat → Prop) (hP : KeptBy l tm P) : ∀ (w : Nat) (m : Int) (t : Tree) (ks : List Nat), wtT l t ks ≤ w → 1 ≤ m → m + w ≤ 1000000 → TreeGo l tm m t ks → t.out.length + 129 * w ≤ 1000000 → P t ks →
    ∃ t', Drains l t t' ∧ TreeGo l tm (m + w) t' [] ∧ P t' [] ∧ t'.out.length ≤ t.out.length + 129 * w := by
  intro w
  induction w with
  | zero =>
    intro m t ks hw h1 hm h ho hp
    cases hq : t.q with
    | nil =>
      have hks : ks = [] := by
        have := h.q.map
        rw [hq] at this
        simpa using this.symm
      subst hks
      exact ⟨t, .done hq, by simpa using h, hp, by omega⟩
    | cons d r =>
      exfalso
      obtain ⟨k, ks0, rfl, h2, h3, h4, h5, h6, h7, ks', g1, g2, g3, _⟩ := run_due ht htm (by omega) h hq
      have := wtT_lt ht (t0 := { t with q := r }) h rfl g1 g3
      omega
  | succ w ih =>
    intro m t ks hw h1 hm h ho hp
    cases hq : t.q with
    | nil =>
      have hks : ks = [] := by
        have := h.q.map
        rw [hq] at this
        simpa using this.symm
      subst hks
      exact ⟨t, .done hq, go_mono h (Int.le_refl _) (by omega), hp, by omega⟩
    | cons d r =>
      obtain ⟨k, ks0, rfl, h2, h3, h4, h5, h6, h7, ks', g1, g2, g3, _⟩ := run_due ht htm (by omega) h hq
      have hlt := wtT_lt ht (t0 := { t with q := r }) h rfl g1 g3
      have hlen := handle_len ht h6 d.e { t with q := r }
      have hql := go_qlen g1
      have hl8 := ht.len.2
      simp only at hlen
      obtain ⟨t', k1, k2, k3, k4⟩ := ih (m + 1) _ ks' (by omega) (by omega) (by omega) g1 (by omega) (hP m t d r k ks0 ks' (by omega) h hq h2 h3 h5 h6 hp g1 g2)
      refine ⟨t', .step d r _ hq h5 h6 (by omega) (by omega) k1, ?_, k3, by omega⟩
      have : m + ((w + 1 : Nat) : Int) = m + 1 + (w : Int) := by omega
      rw [this]; exact k2
end
section
open Go Go.RowKit
set_option linter.unusedVariables false
set_option linter.unusedSimpArgs false
set_option maxRecDepth 10000
set_option maxHeartbeats 1000000

open Classical in
theorem start_ss {l : List Spec} (ht : TreeOk l) : ∀ (d i : Nat) (tm : Int) (t : Tree), l.length - i ≤ d → i < l.length → t.ss.length = l.length →
    (perf l (ordT l) (up l) d i (timed tm (startL (kids l i).length)) t).ss.length = l.length ∧
    (∀ k, Below l i k → sAt (perf l (ordT l) (up l) d i (timed tm (startL (kids l i).length)) t) k = startS (l.getD k default)) ∧
    (∀ k, ¬ Below l i k → sAt (perf l (ordT l) (up l) d i (timed tm (startL (kids l i).length)) t) k = sAt t k) := by
  intro d
  induction d with
  | zero => intro i tm t h1 h2; omega
  | succ d ih =>
    intro i tm t h1 h2 hl0
    have key : ∀ c, c ≤ (kids l i).length →
        (((timed tm (startL (kids l i).length)).take c).foldl (doAct l (ordT l) (up l) (perf l (ordT l) (up l) d) i) t).ss.length = l.length ∧
        (∀ k, (∃ c' j, c' < c ∧ SubAt l i c' j ∧ Desc l j k) → sAt (((timed tm (startL (kids l i).length)).take c).foldl (doAct l (ordT l) (up l) (perf l (ordT l) (up l) d) i) t) k = startS (l.getD k default)) ∧
        (∀ k, ¬ (∃ c' j, c' < c ∧ SubAt l i c' j ∧ Desc l j k) → sAt (((timed tm (startL (kids l i).length)).take c).foldl (doAct l (ordT l) (up l) (perf l (ordT l) (up l) d) i) t) k = sAt t k) := by
      intro c
      induction c with
      | zero => intro _; exact ⟨by simpa using hl0, fun k ⟨c', j, hc', _⟩ => by omega, fun k _ => rfl⟩
      | succ c ihc =>
        intro hc
        obtain ⟨k1, k2, k3⟩ := ihc (by omega)
        have hch := List.getElem?_eq_getElem (l := kids l i) (i := c) (by omega)
        generalize (kids l i)[c] = ch at hch
        have hac : (timed tm (startL (kids l i).length))[c]? = some ⟨3, c, 0, tm⟩ := by
          simp only [timed, List.getElem?_map, startL_at _ c (by omega : c < (kids l i).length), Option.map_some]
        rw [List.take_add_one, hac, List.foldl_append]
        simp only [Option.toList_some, List.foldl_cons, List.foldl_nil]
        generalize ((timed tm (startL (kids l i).length)).take c).foldl (doAct l (ordT l) (up l) (perf l (ordT l) (up l) d) i) t = T at *
        have hgd : (kids l i).getD c default = ch := by rw [List.getD_eq_getElem?_getD, hch]; rfl
        have htn : ((c : Nat) : Int).toNat = c := by omega
        unfold doAct
        rw [if_neg (by simp)]
        simp only [htn, hgd]
        by_cases hneg : ch.sub < 0
        · rw [if_pos hneg]
          have hno : ∀ j, ¬ SubAt l i c j := by
            rintro j ⟨_, ch', g1, g2⟩
            rw [hch] at g1; cases g1; omega
          have heq : ∀ k, (∃ c' j, c' < c + 1 ∧ SubAt l i c' j ∧ Desc l j k) ↔ (∃ c' j, c' < c ∧ SubAt l i c' j ∧ Desc l j k) := by
            intro k
            constructor
            · rintro ⟨c', j, a1, a2, a3⟩
              have : c' ≠ c := fun e => hno j (e ▸ a2)
              exact ⟨c', j, by omega, a2, a3⟩
            · rintro ⟨c', j, a1, a2, a3⟩
              exact ⟨c', j, by omega, a2, a3⟩
          exact ⟨k1, fun k hk => k2 k ((heq k).1 hk), fun k hk => k3 k (fun h => hk ((heq k).2 h))⟩
        · rw [if_neg hneg, if_pos trivial]
          have hsub : SubAt l i c ch.sub.toNat := ⟨h2, ch, hch, by omega⟩
          have hlt := hsub.lt ht
          have hjl : ch.sub.toNat < T.ss.length := by rw [k1]; exact hlt.2
          have hset := sAt_set (t := T) (s := startS (l.getD ch.sub.toNat default)) hjl
          obtain ⟨q1, q2, q3⟩ := ih ch.sub.toNat tm { T with ss := T.ss.set ch.sub.toNat (startS (l.getD ch.sub.toNat default)) } (by omega) hlt.2 (by simpa using k1)
          unfold doStart
          refine ⟨q1, fun k hk => ?_, fun k hk => ?_⟩
          · by_cases hb : Below l ch.sub.toNat k
            · exact q2 k hb
            · rw [q3 k hb, hset]
              by_cases hkj : k = ch.sub.toNat
              · rw [if_pos hkj, hkj]
              · rw [if_neg hkj]
                obtain ⟨c', j, a1, a2, a3⟩ := hk
                have : c' ≠ c := fun e => by
                  subst e
                  have := sub_fun hsub a2
                  subst this
                  rcases desc_cases a3 with h | h
                  · exact hkj h
                  · exact hb h
                exact k2 k ⟨c', j, by omega, a2, a3⟩
          · have hnd : ¬ Desc l ch.sub.toNat k := fun h => hk ⟨c, _, by omega, hsub, h⟩
            rw [q3 k (fun h => hnd h.desc), hset, if_neg (fun e : k = ch.sub.toNat => hnd (e ▸ .refl))]
            exact k3 k (fun ⟨c', j, a1, a2, a3⟩ => hk ⟨c', j, by omega, a2, a3⟩)
    have := key (kids l i).length (Nat.le_refl _)
    rw [List.take_of_length_le (by rw [timed_len, startL_len]; omega)] at this
    have heq : ∀ k, (∃ c' j, c' < (kids l i).length ∧ SubAt l i c' j ∧ Desc l j k) ↔ Below l i k := by
      intro k
      constructor
      · rintro ⟨c', j, a1, a2, a3⟩; exact ⟨c', j, a2, a3⟩
      · rintro ⟨c', j, a2, a3⟩
        refine ⟨c', j, ?_, a2, a3⟩
        obtain ⟨_, ch, g1, _⟩ := a2
        exact (List.getElem?_eq_some_iff.1 g1).1
    simp only [heq] at this
    exact this
theorem new_ss {l : List Spec} (ht : TreeOk l) : (newT l).ss.length = l.length ∧ ∀ k, k < l.length → sAt (newT l) k = startS (l.getD k default) := by
  have h0 : 0 < l.length := by have := ht.len.1; omega
  obtain ⟨a1, a2, a3⟩ := start_ss ht l.length 0 0 { ss := (List.replicate l.length zeroState).set 0 (startS (l.getD 0 default)), out := [], q := [] } (by omega) h0 (by simp)
  refine ⟨a1, fun k hk => ?_⟩
  rcases desc_cases (desc_root ht k hk) with h | h
  · subst h
    refine (a3 0 (fun hb => by have := hb.gt ht; omega)).trans ?_
    unfold sAt
    rw [List.getD_eq_getElem?_getD, List.getElem?_set_self (by simpa using h0)]; rfl
  · exact a2 k h
theorem start_view {x : Spec} {c : Nat} (hc : c < x.children.l.length) : (startS x).children.l[c]? = some start1 := by
  show (List.replicate x.children.l.length start1)[c]? = _
  rw [List.getElem?_replicate, if_pos hc]
/-- A new tree is in order. -/
theorem new_go {l : List Spec} (ht : TreeOk l) : TreeGo l 0 1 (newT l) [] := by
  obtain ⟨h1, h2⟩ := new_ss ht
  refine ⟨h1, fun k hk => ?_, fun k hk => ?_, ?_, fun a c k hs => ?_⟩
  · rw [h2 k hk]
    have hx := List.getElem?_eq_getElem hk
    have hgx : l.getD k default = l[k] := by rw [List.getD_eq_getElem?_getD, hx]; rfl
    rw [hgx]
    exact start_inv (ht.ok k _ hx)
  · rw [h2 k hk]; intro x hx; simp [startS] at hx
  · have hq := (new_out ht).2
    refine ⟨by rw [hq]; rfl, fun d hd => ?_, List.nodup_nil, fun k hk => ?_⟩
    · rw [hq] at hd; cases hd
    · cases hk
  · have hlt := hs.lt ht
    obtain ⟨ha, ch, hch, hsub⟩ := hs
    have hv : viewT (newT l) a c = 1 := by
      unfold viewT
      rw [h2 a ha, List.getD_eq_getElem?_getD, start_view (List.getElem?_eq_some_iff.1 hch).1]; rfl
    rw [hv, h2 k hlt.2]
    exact .inl ⟨rfl, .inr ⟨by simp, .inl rfl⟩⟩
end
section
open Go Go.RowKit
set_option linter.unusedVariables false
set_option linter.unusedSimpArgs false
set_option maxRecDepth 10000
set_option maxHeartbeats 1000000

/-- The tree of these states, in which nothing has happened. -/
abbrev tOf (ss : List State) : Tree := ⟨ss, [], []⟩
theorem core_at {a b : List State} (h : a.map State.core = b.map State.core) (k : Nat) : (a.getD k default).core = (b.getD k default).core := by
  have := congrArg (fun l => l[k]?) h
  simp only [List.getElem?_map] at this
  rw [List.getD_eq_getElem?_getD, List.getD_eq_getElem?_getD]
  cases ha : a[k]? with
  | none =>
    rw [ha] at this
    cases hb : b[k]? with
    | none => rfl
    | some y => rw [hb] at this; cases this
  | some x =>
    rw [ha] at this
    cases hb : b[k]? with
    | none => rw [hb] at this; cases this
    | some y => rw [hb] at this; simpa using this
theorem go_core {l : List Spec} {tm m : Int} {t t' : Tree} {ks : List Nat} (h : TreeGo l tm m t ks) (hc : t'.ss.map State.core = t.ss.map State.core) (hq : t'.q = t.q) : TreeGo l tm m t' ks := by
  have hk := fun k => core_inj (core_at hc k)
  have hl := congrArg List.length hc
  simp only [List.length_map] at hl
  refine ⟨hl.trans h.len, fun k hkl => inv_core (core_at hc k).symm (h.inv k hkl), fun k hkl x hx => ?_, by rw [hq]; exact h.q, fun a c k hs => ?_⟩
  · refine h.time k hkl x ?_
    have := (hk k).2.2.1
    unfold sAt at hx ⊢
    rw [← this]; exact hx
  · have h1 := h.link a c k hs
    unfold viewT sAt at h1 ⊢
    rw [(hk a).2.1, (hk k).1, (hk k).2.2.2]
    exact h1
theorem view_core {t t' : Tree} (hc : t'.ss.map State.core = t.ss.map State.core) (i c : Nat) : viewT t' i c = viewT t i c := by
  unfold viewT sAt
  rw [(core_inj (core_at hc i)).2.1]
/-- What a step of the program leads to. -/
structure Next (l : List Spec) (tm m : Int) (ss' : Sl State) (a : Sl Event) (t' : Tree) : Prop where
  nl : ss'.nl = some false
  known : ∀ s ∈ ss'.l, KnownS s
  core : ss'.l.map State.core = t'.ss.map State.core
  out : a.l = t'.out
  kn : KnownNil a
  go : TreeGo l tm m t' []
  len : a.l.length ≤ 3000
  em : a.l = [] → Sl.av Event.av 4 a = .isl (some true) 0 []
theorem Next.tree {l : List Spec} {tm m : Int} {ss' : Sl State} {a : Sl Event} {t' : Tree} (h : Next l tm m ss' a t') : TreeGo l tm m (tOf ss'.l) [] :=
  go_core h.go h.core (by
    have := h.go.q.map
    simp only [List.map_nil, List.map_eq_nil_iff] at this
    exact this.symm)
/-- What is so at first: the first event has been handled. -/
def FirstBy (l : List Spec) (tm m : Int) (ss : List State) (i : Nat) (e : Event) (P : Tree → List Nat → Prop) : Prop :=
  ∀ ks', TreeGo l tm (m + 1) (handleT l i e (tOf ss)) ks' → KeepT l (Desc l i) (tOf ss) [] (handleT l i e (tOf ss)) ks' → sAt (handleT l i e (tOf ss)) i = mkS (handleR (l.getD i default) (ss.getD i default) e) → P (handleT l i e (tOf ss)) ks'
theorem drains_from {l : List Spec} (ht : TreeOk l) {tm m : Int} (htm : 0 ≤ tm ∧ tm ≤ 1099511627776) (hm : 1 ≤ m ∧ m ≤ 900000) {ss : List State} {i : Nat} (hi : i < l.length) {e : Event} {P : Tree → List Nat → Prop} (hP : KeptBy l tm P) {ks' : List Nat} (g1 : TreeGo l tm (m + 1) (handleT l i e (tOf ss)) ks') (hp : P (handleT l i e (tOf ss)) ks') :
    ∃ t', Drains l ⟨ss, [], [⟨i, e⟩]⟩ t' ∧ TreeGo l tm (m + 17) t' [] ∧ P t' [] ∧ t'.out.length ≤ 3000 := by
  have hlen := handle_len ht hi e (tOf ss)
  have hql := go_qlen g1
  have hl8 := ht.len.2
  simp only [List.length_nil] at hlen
  obtain ⟨t', k1, k2, k3, k4⟩ := run_drains ht htm P hP 16 (m + 1) _ ks' (wtT_le ht _ _) (by omega) (by omega) g1 (by omega) hp
  refine ⟨t', .step ⟨i, e⟩ [] i rfl rfl hi ?_ ?_ k1, ?_, k3, by omega⟩
  · show (handleT l i e (tOf ss)).out.length ≤ _
    omega
  · show (handleT l i e (tOf ss)).q.length ≤ _
    omega
  · have : m + 1 + ((16 : Nat) : Int) = m + 17 := by omega
    rw [← this]; exact k2
theorem asked_first {l : List Spec} (ht : TreeOk l) {tm m : Int} (htm : 0 ≤ tm ∧ tm ≤ 1099511627776) (hm : 1 ≤ m ∧ m ≤ 900000) {ss : List State} (h : TreeGo l tm m (tOf ss) []) {e : Event} (hek : e.kind = 2) (het : e.time = tm) (hE : handleE (l.getD 0 default) (ss.getD 0 default) e = 0) {P : Tree → List Nat → Prop} (hF : FirstBy l tm m ss 0 e P) : ∃ ks', TreeGo l tm (m + 1) (handleT l 0 e (tOf ss)) ks' ∧ P (handleT l 0 e (tOf ss)) ks' := by
  obtain ⟨ks', g1, g2, g3, _⟩ := run_asked ht htm (by omega) h hek het hE
  have h0 : 0 < l.length := by have := ht.len.1; omega
  exact ⟨ks', g1, hF ks' g1 (fun k hk => ⟨by
    by_cases hkl : k < l.length
    · exact absurd (desc_root ht k hkl) hk
    · unfold sAt
      rw [List.getD_eq_getElem?_getD, List.getD_eq_getElem?_getD, List.getElem?_eq_none (by have := g1.len; omega), List.getElem?_eq_none (by have := h.len; omega)], by
    by_cases hkl : k < l.length
    · exact absurd (desc_root ht k hkl) hk
    · exact ⟨fun hh => absurd (g1.q.range k hh).2 hkl, fun hh => by cases hh⟩⟩) g2⟩
section
variable {l : Sl Spec} {ss : Sl State} {tm m : Int}
theorem run57 (hn : NamesOk l.l) (ht : TreeOk l.l) (h : TreeGo l.l tm m (tOf ss.l) []) (hks : ∀ x ∈ ss.l, KnownS x) (hnl : ss.nl = some false) {k : Nat} (hk : k < l.l.length) {e : Event} (het : e.time = tm) :
    (handleE (l.l.getD k default) (ss.l.getD k default) e ≠ 0 → W.pure 57 [specs l, states ss, I k, e.av] = some (noRun (handleE (l.l.getD k default) (ss.l.getD k default) e))) ∧
    (handleE (l.l.getD k default) (ss.l.getD k default) e = 0 → ∀ t', Drains l.l ⟨ss.l, [], [⟨k, e⟩]⟩ t' → ∃ v, W.pure 57 [specs l, states ss, I k, e.av] = some v ∧ RanOk t' v) := by
  have hlate := go_late h
  obtain ⟨a1, a2, a3⟩ := t57 hn ht h.len (go_small ht h) hks hnl hk e
  refine ⟨a1, fun hE => a3 hE ?_⟩
  rw [het]; exact hlate
theorem exit27 (hn : NamesOk l.l) (hc : chkT l.l = 0) (htm : 0 ≤ tm ∧ tm ≤ 1099511627776) (hm : 1 ≤ m ∧ m ≤ 900000) (h : TreeGo l.l tm m (tOf ss.l) []) (hks : ∀ x ∈ ss.l, KnownS x) (hnl : ss.nl = some false) {w i c : Nat} (hw : (ordT l.l)[w]? = some (i, c)) (reason : Int) :
    (handleE (l.l.getD i default) (ss.l.getD i default) ⟨1, c, reason, tm⟩ ≠ 0 → W.pure 27 [specs l, states ss, I w, I reason, I tm] = some (noRun (handleE (l.l.getD i default) (ss.l.getD i default) ⟨1, c, reason, tm⟩))) ∧
    (handleE (l.l.getD i default) (ss.l.getD i default) ⟨1, c, reason, tm⟩ = 0 → ∀ P, KeptBy l.l tm P → FirstBy l.l tm m ss.l i ⟨1, c, reason, tm⟩ P → ∃ ss' a t', W.pure 27 [specs l, states ss, I w, I reason, I tm] = some (.tuple [states ss', Sl.av Event.av 4 a, I 0]) ∧ Next l.l tm (m + 17) ss' a t' ∧ P t' []) := by
  have ht := tree_of hc
  have h0 : 0 < l.l.length := by have := ht.len.1; omega
  have hwa := (order_mem ht l.l.length 0 h0 (i, c) (List.mem_of_getElem? hw)).1
  have hi : i < l.l.length := hwa.1
  have hsl : ss.l.length ≤ 1000000 := by have hh : ss.l.length = l.l.length := h.len; have := ht.len.2; omega
  have hv := go_valid ht (by omega) h
  obtain ⟨a1, a2⟩ := run57 hn ht h hks hnl hi (e := ⟨1, c, reason, tm⟩) rfl
  refine ⟨fun hE => t27 hn hc (go_small ht h) hsl hv hw reason tm imm_nil imm_nil (a1 hE), fun hE P hP hF => ?_⟩
  obtain ⟨ks', g1, g2, g3, _⟩ := run_worker ht htm (by omega) h hwa rfl rfl rfl hE
  obtain ⟨t', k1, k2, k3, k4⟩ := drains_from ht htm hm hi hP g1 (hF ks' g1 g2 g3)
  obtain ⟨v, v1, ss', a, rfl, r1, r2, r3, r4, r5, r6⟩ := a2 hE t' k1
  exact ⟨ss', a, t', t27 hn hc (go_small ht h) hsl hv hw reason tm (imm_sl _ _ _) (imm_sl _ _ _) v1, ⟨r5, r2, r1, r3, r4, k2, by rw [r3]; exact k4, r6⟩, k3⟩
theorem exit27r (hn : NamesOk l.l) (hc : chkT l.l = 0) (hm : m ≤ 900000) (h : TreeGo l.l tm m (tOf ss.l) []) {w : Int} (hw : w < 0 ∨ ((ordT l.l).length : Int) ≤ w) (reason : Int) : W.pure 27 [specs l, states ss, I w, I reason, I tm] = some (noRun 2) := by
  have ht := tree_of hc
  have hsl : ss.l.length ≤ 1000000 := by have hh : ss.l.length = l.l.length := h.len; have := ht.len.2; omega
  exact t27r hn hc (go_small ht h) hsl (go_valid ht (by omega) h) hw reason tm
theorem stop26 (hn : NamesOk l.l) (hc : chkT l.l = 0) (htm : 0 ≤ tm ∧ tm ≤ 1099511627776) (hm : 1 ≤ m ∧ m ≤ 900000) (h : TreeGo l.l tm m (tOf ss.l) []) (hks : ∀ x ∈ ss.l, KnownS x) (hnl : ss.nl = some false) :
    (handleE (l.l.getD 0 default) (ss.l.getD 0 default) ⟨2, -1, 0, tm⟩ ≠ 0 → W.pure 26 [specs l, states ss, I tm] = some (noRun (handleE (l.l.getD 0 default) (ss.l.getD 0 default) ⟨2, -1, 0, tm⟩))) ∧
    (handleE (l.l.getD 0 default) (ss.l.getD 0 default) ⟨2, -1, 0, tm⟩ = 0 → ∀ P, KeptBy l.l tm P → FirstBy l.l tm m ss.l 0 ⟨2, -1, 0, tm⟩ P → ∃ ss' a t', W.pure 26 [specs l, states ss, I tm] = some (.tuple [states ss', Sl.av Event.av 4 a, I 0]) ∧ Next l.l tm (m + 17) ss' a t' ∧ P t' []) := by
  have ht := tree_of hc
  have h0 : 0 < l.l.length := by have := ht.len.1; omega
  have hsl : ss.l.length ≤ 1000000 := by have hh : ss.l.length = l.l.length := h.len; have := ht.len.2; omega
  have hv := go_valid ht (by omega) h
  obtain ⟨a1, a2⟩ := run57 hn ht h hks hnl h0 (e := ⟨2, -1, 0, tm⟩) rfl
  refine ⟨fun hE => t26 hn hc (go_small ht h) hsl hv tm imm_nil imm_nil (a1 hE), fun hE P hP hF => ?_⟩
  obtain ⟨ks', g1, g2⟩ := asked_first ht htm hm h rfl rfl hE hF
  obtain ⟨t', k1, k2, k3, k4⟩ := drains_from ht htm hm h0 hP g1 g2
  obtain ⟨v, v1, ss', a, rfl, r1, r2, r3, r4, r5, r6⟩ := a2 hE t' k1
  exact ⟨ss', a, t', t26 hn hc (go_small ht h) hsl hv tm (imm_sl _ _ _) (imm_sl _ _ _) v1, ⟨r5, r2, r1, r3, r4, k2, by rw [r3]; exact k4, r6⟩, k3⟩
/-- What a step of the law comes to. -/
inductive StepTo (l : Sl Spec) (ss : Sl State) (tm m : Int) (h : Happening) (P : Tree → List Nat → Prop) : Prop
  | no (a b : AV) (ha : Imm a) (hb : Imm b) (hw : ∀ (w i c : Nat), h.worker = (w : Int) → (ordT l.l)[w]? = some (i, c) → handleE (l.l.getD i default) (ss.l.getD i default) ⟨1, c, h.reason, tm⟩ ≠ 0) (hp : W.pure 17 [specs l, states ss, h.av, I tm] = some (.tuple [a, b, .bool false]))
  | yes (ss' : Sl State) (a : Sl Event) (t' : Tree) (hw : h.worker < 0 ∨ ∃ w i c : Nat, h.worker = (w : Int) ∧ (ordT l.l)[w]? = some (i, c) ∧ handleE (l.l.getD i default) (ss.l.getD i default) ⟨1, c, h.reason, tm⟩ = 0) (hp : W.pure 17 [specs l, states ss, h.av, I tm] = some (.tuple [states ss', Sl.av Event.av 4 a, .bool true])) (hn : Next l.l tm (m + 17) ss' a t') (hP : P t' [])
theorem step17 (hn : NamesOk l.l) (hc : chkT l.l = 0) (htm : 0 ≤ tm ∧ tm ≤ 1099511627776) (hm : 1 ≤ m ∧ m ≤ 900000) (h : TreeGo l.l tm m (tOf ss.l) []) (hks : ∀ x ∈ ss.l, KnownS x) (hnl : ss.nl = some false) (hp : Happening) {P : Tree → List Nat → Prop} (hP : KeptBy l.l tm P)
    (hF2 : hp.worker < 0 → handleE (l.l.getD 0 default) (ss.l.getD 0 default) ⟨2, -1, 0, tm⟩ = 0 → FirstBy l.l tm m ss.l 0 ⟨2, -1, 0, tm⟩ P)
    (hF1 : ∀ (w i c : Nat), hp.worker = (w : Int) → (ordT l.l)[w]? = some (i, c) → WorkerAt l.l (i, c) → handleE (l.l.getD i default) (ss.l.getD i default) ⟨1, c, hp.reason, tm⟩ = 0 → FirstBy l.l tm m ss.l i ⟨1, c, hp.reason, tm⟩ P) : StepTo l ss tm m hp P := by
  have ht := tree_of hc
  have h0 : 0 < l.l.length := by have := ht.len.1; omega
  by_cases hw : hp.worker < 0
  · obtain ⟨a1, a2⟩ := stop26 hn hc htm hm h hks hnl
    by_cases hE : handleE (l.l.getD 0 default) (ss.l.getD 0 default) ⟨2, -1, 0, tm⟩ = 0
    · obtain ⟨ss', a, t', b1, b2, b3⟩ := a2 hE P hP (hF2 hw hE)
      exact .yes ss' a t' (.inl hw) (t17s (imm_sl _ _ _) (imm_sl _ _ _) hw b1) b2 b3
    · have := t17s (h := hp) imm_nil imm_nil hw (a1 hE)
      rw [decide_eq_false hE] at this
      exact .no _ _ imm_nil imm_nil (fun w i c hh => by omega) this
  · by_cases hr : hp.worker < ((ordT l.l).length : Int)
    · obtain ⟨w, hww⟩ : ∃ w : Nat, hp.worker = (w : Int) := ⟨hp.worker.toNat, by omega⟩
      obtain ⟨⟨i, c⟩, hat⟩ : ∃ p, (ordT l.l)[w]? = some p := ⟨_, List.getElem?_eq_getElem (by omega)⟩
      obtain ⟨a1, a2⟩ := exit27 hn hc htm hm h hks hnl hat hp.reason
      by_cases hE : handleE (l.l.getD i default) (ss.l.getD i default) ⟨1, c, hp.reason, tm⟩ = 0
      · obtain ⟨ss', a, t', b1, b2, b3⟩ := a2 hE P hP (hF1 w i c hww hat (order_mem ht l.l.length 0 h0 (i, c) (List.mem_of_getElem? hat)).1 hE)
        rw [← hww] at b1
        exact .yes ss' a t' (.inr ⟨w, i, c, hww, hat, hE⟩) (t17e (imm_sl _ _ _) (imm_sl _ _ _) hw b1) b2 b3
      · have h27 := a1 hE
        rw [← hww] at h27
        have := t17e imm_nil imm_nil hw h27
        rw [decide_eq_false hE] at this
        refine .no _ _ imm_nil imm_nil (fun w' i' c' h1 h2 => ?_) this
        have : w' = w := by omega
        subst this
        rw [hat] at h2; cases h2
        exact hE
    · have h27 := exit27r hn hc hm.2 h (w := hp.worker) (.inr (by omega)) hp.reason
      have := t17e imm_nil imm_nil hw h27
      rw [decide_eq_false (by decide)] at this
      refine .no _ _ imm_nil imm_nil (fun w' i' c' h1 h2 => ?_) this
      have := (List.getElem?_eq_some_iff.1 h2).1
      omega
end
end
end Go.Proofs.Ytjknjapdcphcfaa
