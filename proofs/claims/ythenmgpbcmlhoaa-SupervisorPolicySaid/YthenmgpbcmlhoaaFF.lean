/-
  The law SupervisorStrategy in plain words (conditions: none). The law SupervisorStrategy in plain words: one move (conditions: none). The law SupervisorStrategy, run: the actions (conditions: none). The law SupervisorStrategy: it is true (conditions: readings of the arguments). The law SupervisorStrategy: the moves (conditions: readings of the arguments). The law SupervisorPolicy in plain words (conditions: none). The law SupervisorPolicy: it is true (conditions: readings of the arguments). The law SupervisorPolicy: the moves (conditions: readings of the arguments).
-/
import Derived.Test.YthenmgpbcmlhoaaFE
namespace Go.Proofs.Ythenmgpbcmlhoaa
section
open Go Go.RowKit
set_option linter.unusedVariables false
set_option linter.unusedSimpArgs false
set_option maxRecDepth 10000

/-- An action that the law accepts, behind another one. -/
structure ActOk (x : Spec) (mv : Move) (p a : Event) : Prop where
  time : a.time = mv.event.time
  value : a.value = 0
  order : a.kind = p.kind → (a.kind = 4 ↔ a.child < p.child)
  rest : a.kind = 5 ∨ (0 ≤ a.child ∧ a.child < x.children.l.length ∧ (a.kind = 3 ∨ (a.kind = 4 ∧ (∃ c, mv.before.children.l[a.child.toNat]? = some c ∧ c.status = 1) ∧ (3 ≤ mv.after.status ∨ (a.child ∈ affAll x mv.event.child ∧ a.child ≠ mv.event.child)))))
def ActsOk (x : Spec) (mv : Move) : Event → List Event → Prop
  | _, [] => True
  | p, a :: r => ActOk x mv p a ∧ ActsOk x mv a r
def prevA (p : Event) (l : List Event) : Nat → Event | 0 => p | j + 1 => l.getD j p
theorem acts_at {x : Spec} {mv : Move} : ∀ (l : List Event) (p : Event), ActsOk x mv p l → ∀ (j : Nat) (a : Event), l[j]? = some a → ActOk x mv (prevA p l j) a
  | [], p, h, j, a, hj => by simp at hj
  | b :: r, p, h, 0, a, hj => by simp at hj; subst hj; exact h.1
  | b :: r, p, h, 1, a, hj => by
    have := acts_at r b h.2 0 a (by simpa using hj)
    simpa [prevA] using this
  | b :: r, p, h, j + 2, a, hj => by
    have h2 := acts_at r b h.2 (j + 1) a (by simpa using hj)
    have hlt : j < r.length := by
      have := (List.getElem?_eq_some_iff.1 hj).1
      simp at this; omega
    have e : prevA p (b :: r) (j + 2) = prevA b r (j + 1) := by
      simp only [prevA, List.getD_eq_getElem?_getD, List.getElem?_cons_succ, List.getElem?_eq_getElem hlt, Option.getD_some]
    rw [e]; exact h2
def lastA (p : Event) (l : List Event) : Event := l.getLast?.getD p
theorem acts_append {x : Spec} {mv : Move} : ∀ (a b : List Event) (p : Event), ActsOk x mv p a → ActsOk x mv (lastA p a) b → ActsOk x mv p (a ++ b)
  | [], b, p, _, h => h
  | c :: r, b, p, h, h' => by
    refine ⟨h.1, acts_append r b c h.2 ?_⟩
    have : lastA p (c :: r) = lastA c r := by
      unfold lastA
      cases r with
      | nil => rfl
      | cons d r =>
        rw [List.getLast?_cons_cons]
        cases hh : (d :: r).getLast? with
        | none => simp at hh
        | some a => rfl
    rw [← this]; exact h'
theorem last_mem {p : Event} {l : List Event} : lastA p l = p ∨ lastA p l ∈ l := by
  unfold lastA
  cases h : l.getLast? with
  | none => exact .inl rfl
  | some a => exact .inr (List.mem_of_getLast? h)
theorem acts_stop {x : Spec} {mv : Move} : ∀ (l : List Event) (p : Event), (∀ a ∈ l, a.time = mv.event.time ∧ a.value = 0 ∧ a.kind = 4 ∧ 0 ≤ a.child ∧ a.child < x.children.l.length ∧ (∃ c, mv.before.children.l[a.child.toNat]? = some c ∧ c.status = 1) ∧ (3 ≤ mv.after.status ∨ (a.child ∈ affAll x mv.event.child ∧ a.child ≠ mv.event.child))) → l.Pairwise (fun a b => b.child < a.child) → (∀ a ∈ l, a.child < p.child) → ActsOk x mv p l
  | [], _, _, _, _ => trivial
  | b :: r, p, h, hp, hlt => by
    obtain ⟨h1, h2, h3, h4, h5, h6, h7⟩ := h b (by simp)
    have hc := List.pairwise_cons.1 hp
    exact ⟨⟨h1, h2, fun _ => ⟨fun _ => hlt b (by simp), fun _ => h3⟩, .inr ⟨h4, h5, .inr ⟨h3, h6, h7⟩⟩⟩, acts_stop r b (fun a ha => h a (by simp [ha])) hc.2 (fun a ha => hc.1 a ha)⟩
theorem acts_start {x : Spec} {mv : Move} : ∀ (l : List Event) (p : Event), (∀ a ∈ l, a.time = mv.event.time ∧ a.value = 0 ∧ a.kind = 3 ∧ 0 ≤ a.child ∧ a.child < x.children.l.length) → l.Pairwise (fun a b => a.child < b.child) → (p.kind = 3 → ∀ a ∈ l, p.child ≤ a.child) → ActsOk x mv p l
  | [], _, _, _, _ => trivial
  | b :: r, p, h, hp, hlt => by
    obtain ⟨h1, h2, h3, h4, h5⟩ := h b (by simp)
    have hc := List.pairwise_cons.1 hp
    refine ⟨⟨h1, h2, fun e => ⟨fun e4 => by omega, fun hl => ?_⟩, .inr ⟨h4, h5, .inl h3⟩⟩, acts_start r b (fun a ha => h a (by simp [ha])) hc.2 (fun _ a ha => by have := hc.1 a ha; omega)⟩
    have := hlt (by omega) b (by simp)
    omega
theorem stopOut_desc (tm : Int) (cs : List ChildState) {l : List Int} (h : l.Pairwise (· < ·)) : (stopOut tm cs l).Pairwise (fun a b => b.child < a.child) := by
  unfold stopOut
  rw [List.pairwise_filterMap, List.pairwise_reverse]
  refine h.imp ?_
  intro a b hab e he e' he'
  unfold stopEv at he he'
  split at he
  · split at he
    · cases he
      split at he'
      · split at he'
        · cases he'; exact hab
        · cases he'
      · cases he'
    · cases he
  · cases he
theorem stopOut_mem {tm : Int} {cs : List ChildState} {l : List Int} (hl : ∀ a ∈ l, 0 ≤ a) {a : Event} (h : a ∈ stopOut tm cs l) : a.time = tm ∧ a.value = 0 ∧ a.kind = 4 ∧ a.child ∈ l ∧ 0 ≤ a.child ∧ ∃ c, cs[a.child.toNat]? = some c ∧ c.status = 1 := by
  obtain ⟨b, hb, he⟩ := List.mem_filterMap.1 h
  have hb' := List.mem_reverse.1 hb
  unfold stopEv at he
  split at he
  · rename_i c hc
    split at he
    · rename_i h1
      cases he
      exact ⟨rfl, rfl, rfl, hb', hl b hb', c, hc, h1⟩
    · cases he
  · cases he
theorem againOut_mem {tm : Int} {cs : List ChildState} {j : Nat} {a : Event} (h : a ∈ againOut tm cs j) : a.time = tm ∧ a.value = 0 ∧ a.kind = 3 ∧ ∃ i c, a.child = ((j + i : Nat) : Int) ∧ cs[i]? = some c ∧ c.status = 4 := by
  obtain ⟨b, hb, he⟩ := List.mem_filterMap.1 h
  split at he
  · rename_i h4
    cases he
    have hm := List.mem_zipIdx hb
    obtain ⟨h1, h2, h3⟩ := hm
    exact ⟨rfl, rfl, rfl, b.2 - j, b.1, by simp only; omega, by rw [h3]; exact List.getElem?_eq_getElem (by omega), h4⟩
  · cases he
theorem againOut_asc (tm : Int) : ∀ (cs : List ChildState) (j : Nat), (againOut tm cs j).Pairwise (fun a b => a.child < b.child) ∧ ∀ a ∈ againOut tm cs j, (j : Int) ≤ a.child
  | [], j => by simp [againOut]
  | c :: r, j => by
    obtain ⟨h1, h2⟩ := againOut_asc tm r (j + 1)
    have e : againOut tm (c :: r) j = (if c.status = 4 then [⟨3, j, 0, tm⟩] else []) ++ againOut tm r (j + 1) := by
      simp only [againOut, List.zipIdx_cons, List.filterMap_cons]
      by_cases h4 : c.status = 4 <;> simp [h4]
    rw [e]
    refine ⟨List.pairwise_append.2 ⟨by split <;> simp, h1, fun a ha b hb => ?_⟩, fun a ha => ?_⟩
    · split at ha
      · have : a = ⟨3, j, 0, tm⟩ := by simpa using ha
        subst this
        have := h2 b hb
        simp only
        omega
      · cases ha
    · rcases List.mem_append.1 ha with h | h
      · split at h
        · have : a = ⟨3, j, 0, tm⟩ := by simpa using h
          subst this
          exact Int.le_refl _
        · cases h
      · have := h2 a h; omega
/-- How often children were started, with some actions more. -/
def bump1 (st : List Int) (a : Event) : List Int := if a.kind = 3 then st.modify a.child.toNat (· + 1) else st
def bumpL (st : List Int) (l : List Event) : List Int := l.foldl bump1 st
theorem bump_len (st : List Int) (l : List Event) : (bumpL st l).length = st.length := by
  unfold bumpL
  induction l generalizing st with
  | nil => rfl
  | cons a l ih => rw [List.foldl_cons, ih]; unfold bump1; split <;> simp
theorem bump_append (st : List Int) (a b : List Event) : bumpL st (a ++ b) = bumpL (bumpL st a) b := List.foldl_append
theorem bump_none {st : List Int} {l : List Event} (h : ∀ a ∈ l, a.kind ≠ 3) : bumpL st l = st := by
  unfold bumpL
  induction l with
  | nil => rfl
  | cons a l ih => rw [List.foldl_cons]; unfold bump1; rw [if_neg (h a (by simp))]; exact ih (fun b hb => h b (by simp [hb]))
theorem bump_again (tm : Int) : ∀ (cs : List ChildState) (j : Nat) (st : List Int) (i : Nat), (bumpL st (againOut tm cs j))[i]? = st[i]?.map fun v => if j ≤ i ∧ (∃ c, cs[i - j]? = some c ∧ c.status = 4) then v + 1 else v
  | [], j, st, i => by simp [againOut, bumpL]
  | c :: r, j, st, i => by
    have e : againOut tm (c :: r) j = (if c.status = 4 then [⟨3, j, 0, tm⟩] else []) ++ againOut tm r (j + 1) := by
      simp only [againOut, List.zipIdx_cons, List.filterMap_cons]
      by_cases h4 : c.status = 4 <;> simp [h4]
    rw [e, bump_append, bump_again tm r (j + 1)]
    have hex : (j ≤ i ∧ (∃ d, (c :: r)[i - j]? = some d ∧ d.status = 4)) ↔ (i = j ∧ c.status = 4) ∨ (j + 1 ≤ i ∧ ∃ d, r[i - (j + 1)]? = some d ∧ d.status = 4) := by
      by_cases hij : i = j
      · subst hij
        simp
        intro h; omega
      · by_cases hlt : j + 1 ≤ i
        · have : i - j = (i - (j + 1)) + 1 := by omega
          rw [this]
          simp [hij, hlt]
          intro _ _ _; omega
        · simp [hij, hlt]
          intro h; omega
    by_cases h4 : c.status = 4
    · rw [if_pos h4]
      have : (bumpL st [⟨3, j, 0, tm⟩])[i]? = st[i]?.map fun v => if i = j then v + 1 else v := by
        simp only [bumpL, List.foldl_cons, List.foldl_nil, bump1, if_true, Int.toNat_natCast, List.getElem?_modify]
        by_cases hij : i = j
        · subst hij; cases st[i]? <;> simp
        · simp [hij, show ¬ j = i by omega]
      rw [this, Option.map_map]
      congr 1
      funext v
      simp only [Function.comp]
      by_cases hij : i = j
      · subst hij
        rw [if_neg (by omega), if_pos rfl, if_pos (hex.2 (.inl ⟨rfl, h4⟩))]
      · rw [if_neg hij]
        by_cases hr : j + 1 ≤ i ∧ ∃ d, r[i - (j + 1)]? = some d ∧ d.status = 4
        · rw [if_pos hr, if_pos (hex.2 (.inr hr))]
        · rw [if_neg hr, if_neg (fun h => by rcases hex.1 h with h | h; exact hij h.1; exact hr h)]
    · rw [if_neg h4]
      show (bumpL st [])[i]?.map _ = _
      simp only [bumpL, List.foldl_nil]
      congr 1
      funext v
      by_cases hr : j + 1 ≤ i ∧ ∃ d, r[i - (j + 1)]? = some d ∧ d.status = 4
      · rw [if_pos hr, if_pos (hex.2 (.inr hr))]
      · rw [if_neg hr, if_neg (fun h => by rcases hex.1 h with h | h; exact h4 h.2; exact hr h)]
end
section
open Go Go.RowKit
set_option linter.unusedVariables false
set_option linter.unusedSimpArgs false
set_option maxRecDepth 10000

def stL (cs : List ChildState) : List Int := cs.map (·.starts)
theorem stL_of {a b : List ChildState} {f : Nat → ChildState → ChildState} (h : ∀ i, a[i]? = b[i]?.map (f i)) (hf : ∀ i c, (f i c).starts = c.starts) : stL a = stL b := by
  apply List.ext_getElem?
  intro i
  unfold stL
  rw [List.getElem?_map, List.getElem?_map, h, Option.map_map]
  congr 1
  funext c
  exact hf i c
theorem stL_setS (r : RunSt) (k : Nat) (st : Int) : stL (r.setS k st).cs = stL r.cs := stL_of (f := fun i c => if i = k then c.to st else c) (setS_at r k st) (fun i c => by split <;> rfl)
theorem stL_stop (tm : Int) (l : List Int) (r : RunSt) (hl : ∀ a ∈ l, 0 ≤ a) : stL (stopS tm l r).cs = stL r.cs := stL_of (f := fun i c => stop1 l i c) (stopS_at tm l r hl) (fun i c => by simp only [stop1]; split <;> rfl)
theorem stL_shut (tm : Int) (r : RunSt) : stL (shutS tm r).cs = stL r.cs := by
  rw [shut_cs]
  exact stL_of (f := fun i c => if c.status = 4 then c.to 3 else if c.status = 1 then c.to 2 else c) (shut_at tm r) (fun i c => by split; rfl; split <;> rfl)
theorem stL_again (tm : Int) (r : RunSt) (h : ∀ (i : Nat) (c : ChildState), r.cs[i]? = some c → 1 ≤ c.starts ∧ c.starts ≤ 1099511627776) : stL (againS tm r).cs = bumpL (stL r.cs) (againOut tm r.cs 0) := by
  apply List.ext_getElem?
  intro i
  rw [bump_again]
  unfold stL
  rw [List.getElem?_map, List.getElem?_map, againS_at, Option.map_map, Option.map_map]
  cases hi : r.cs[i]? with
  | none => rfl
  | some c =>
    simp only [Option.map_some, Function.comp, Option.some.injEq]
    have hb := h i c hi
    unfold again1
    by_cases h4 : c.status = 4
    · rw [if_pos h4, if_pos ⟨by omega, c, rfl, h4⟩, wrap_start hb]
    · rw [if_neg h4, if_neg]
      rintro ⟨_, d, hd, h5⟩
      have hd' : some c = some d := hd
      cases hd'
      exact h4 h5
theorem acts_esc {x : Spec} {mv : Move} {p : Event} (hp : p.kind ≠ 5) (b : Prop) [Decidable b] {tm : Int} (ht : tm = mv.event.time) : ActsOk x mv p (if b then [⟨5, -1, 0, tm⟩] else []) := by
  split
  · exact ⟨⟨ht, rfl, fun e => absurd e.symm hp, .inl rfl⟩, trivial⟩
  · trivial
/-- What SupervisorStrategy looks at, in one move. -/
theorem strategy_move {x : Spec} (h0 : chk x = 0) {m : Int} (hm : m ≤ 1099511627776) {mv : Move} (hi : Inv x m (runOf mv.before)) (hc : checkN x mv.before mv.event = 0) {r' : RunSt} (hr' : handleR x mv.before mv.event = r') (ha : StOk mv.after r') :
    ActsOk x mv ⟨4, x.children.l.length, 0, 0⟩ r'.out ∧ stL r'.cs = bumpL (stL mv.before.children.l) r'.out := by
  have w := handle_way hi hc
  rw [hr'] at w
  have hlen := hi.len
  have hok := hi.ok
  simp only [runOf] at hlen hok
  have hast := ha.st
  have hshut : ∀ (r : RunSt) (hr : r' = shutS mv.event.time r) (ho : r.out = []) (hl : r.cs.length = x.children.l.length) (hz : Inv0 x m r) (hs : stL r.cs = stL mv.before.children.l) (h1 : ∀ (i : Nat) (c : ChildState), r.cs[i]? = some c → c.status = 1 → ∃ d, mv.before.children.l[i]? = some d ∧ d.status = 1), ActsOk x mv ⟨4, x.children.l.length, 0, 0⟩ r'.out ∧ stL r'.cs = bumpL (stL mv.before.children.l) r'.out := by
    intro r hr ho hl hz hs h1
    have hst := (shut_inv hz mv.event.time).2
    have hout := shut_out mv.event.time r
    rw [ho, List.nil_append] at hout
    rw [← hr] at hst hout
    have mem : ∀ a ∈ stopOut mv.event.time (holdS r).cs (idxs r.cs.length), a.time = mv.event.time ∧ a.value = 0 ∧ a.kind = 4 ∧ 0 ≤ a.child ∧ a.child < x.children.l.length ∧ (∃ c, mv.before.children.l[a.child.toNat]? = some c ∧ c.status = 1) := by
      intro a h
      obtain ⟨g1, g2, g3, g4, g5, c, g6, g7⟩ := stopOut_mem (idxs_nn _) h
      have := idxs_in g4
      rw [holdS_at] at g6
      obtain ⟨c0, g8, g9⟩ := map_at g6
      subst g9
      refine ⟨g1, g2, g3, g5, by omega, h1 _ c0 g8 ?_⟩
      unfold hold1 at g7
      split at g7
      · simp at g7
      · exact g7
    have ne3 : ∀ a ∈ r'.out, a.kind ≠ 3 := by
      rw [hout]
      intro a h
      rcases List.mem_append.1 h with h | h
      · rw [(mem a h).2.2.1]; decide
      · split at h
        · have : a = ⟨5, -1, 0, mv.event.time⟩ := by simpa using h
          subst this; simp
        · cases h
    refine ⟨?_, by rw [bump_none ne3, hr, stL_shut]; exact hs⟩
    rw [hout]
    refine acts_append _ _ _ (acts_stop _ _ (fun a h => ?_) (stopOut_desc _ _ (idxs_sorted _)) (fun a h => (mem a h).2.2.2.2.1)) (acts_esc ?_ _ rfl)
    · obtain ⟨g1, g2, g3, g4, g5, g6⟩ := mem a h
      exact ⟨g1, g2, g3, g4, g5, g6, .inl (by rw [hast]; omega)⟩
    · rcases last_mem (p := (⟨4, x.children.l.length, 0, 0⟩ : Event)) (l := stopOut mv.event.time (holdS r).cs (idxs r.cs.length)) with h | h
      · rw [h]; simp
      · rw [(mem _ h).2.2.1]; decide
  have hagain : ∀ (S : RunSt) (p : Event) (hl : S.cs.length = x.children.l.length) (hp : p.kind ≠ 3), ActsOk x mv p (againOut mv.event.time S.cs 0) := by
    intro S p hl hp
    refine acts_start _ _ (fun a h => ?_) (againOut_asc _ _ _).1 (fun h => absurd h hp)
    obtain ⟨g1, g2, g3, i, c, g4, g5, g6⟩ := againOut_mem h
    have := (List.getElem?_eq_some_iff.1 g5).1
    exact ⟨g1, g2, g3, by omega, by omega⟩
  have hstop : ∀ (n : Nat) (c : ChildState) (ch : Child) (h : Exit x mv.before mv.event n c ch), ∀ a ∈ stopOut mv.event.time (({ runOf mv.before with rs := recentL x mv.event.time (runOf mv.before).rs ++ [mv.event.time] } : RunSt).setS n 4).cs (affL x n), a.time = mv.event.time ∧ a.value = 0 ∧ a.kind = 4 ∧ 0 ≤ a.child ∧ a.child < x.children.l.length ∧ (∃ c, mv.before.children.l[a.child.toNat]? = some c ∧ c.status = 1) ∧ (3 ≤ mv.after.status ∨ (a.child ∈ affAll x mv.event.child ∧ a.child ≠ mv.event.child)) := by
    intro n c ch h a hm
    obtain ⟨g1, g2, g3, g4, g5, d, g6, g7⟩ := stopOut_mem (affL_nn x n) hm
    rw [setS_at] at g6
    obtain ⟨d0, g8, g9⟩ := map_at g6
    subst g9
    have hn := (List.getElem?_eq_some_iff.1 h.hc).1
    have hne : a.child.toNat ≠ n := by
      intro e
      rw [if_pos e] at g7
      simp at g7
    rw [if_neg hne] at g7
    have hin := affL_in x n _ g4
    refine ⟨g1, g2, g3, g5, hin.2, ⟨d0, g8, g7⟩, .inr ⟨?_, by rw [h.child]; omega⟩⟩
    rw [h.child]
    unfold affAll fitB
    rw [if_pos]
    · exact g4
    · simp [h0, inR]; omega
  cases w with
  | quiet n c ch h hs hq hr hst hf =>
    have ho : r'.out = [] := by rw [hr, setS_out]; rfl
    rw [ho, hr, stL_setS]
    exact ⟨trivial, rfl⟩
  | fail n c ch h hs hq hint hr hst hf =>
    have z := setS_ok hi.zero n (b := 3) (by omega)
    refine hshut _ hr (setS_out _ _ _) z.len ⟨z.len, z.ok, z.times, z.few⟩ (stL_setS _ _ _) (fun i d hd h1 => ?_)
    have hd : ((runOf mv.before).setS n 3).cs[i]? = some d := hd
    rw [setS_at] at hd
    obtain ⟨d0, g1, g2⟩ := map_at hd
    subst g2
    split at h1
    · simp at h1
    · exact ⟨d0, g1, h1⟩
  | again n c ch h hs hq hint hz hr hst hf =>
    have ho := againS_out mv.event.time (restartS x mv.event.time n (runOf mv.before))
    rw [restart_out] at ho
    rw [← hr] at ho
    have ho : r'.out = stopOut mv.event.time (({ runOf mv.before with rs := recentL x mv.event.time (runOf mv.before).rs ++ [mv.event.time] } : RunSt).setS n 4).cs (affL x n) ++ againOut mv.event.time (restartS x mv.event.time n (runOf mv.before)).cs 0 := ho
    have hmem := hstop n c ch h
    have hlenS : (restartS x mv.event.time n (runOf mv.before)).cs.length = x.children.l.length := by
      unfold restartS; rw [stopS_len, setS_len]; exact hlen
    have hstS : stL (restartS x mv.event.time n (runOf mv.before)).cs = stL mv.before.children.l := by
      unfold restartS; rw [stL_stop _ _ _ (affL_nn x n), stL_setS]; rfl
    have hokS : ∀ (i : Nat) (d : ChildState), (restartS x mv.event.time n (runOf mv.before)).cs[i]? = some d → 1 ≤ d.starts ∧ d.starts ≤ 1099511627776 := by
      intro i d hd
      unfold restartS at hd
      rw [stopS_at _ _ _ (affL_nn x n), setS_at, Option.map_map] at hd
      obtain ⟨d0, g1, g2⟩ := map_at hd
      have := hok i d0 g1
      have hs' : d.starts = d0.starts := by
        rw [← g2]
        simp only [Function.comp, stop1]
        split <;> split <;> rfl
      omega
    rw [ho]
    refine ⟨acts_append _ _ _ (acts_stop _ _ hmem (stopOut_desc _ _ (affF_sorted _ _ _ _)) (fun a ha => (hmem a ha).2.2.2.2.1)) (hagain _ _ hlenS ?_), ?_⟩
    · rcases last_mem (p := (⟨4, x.children.l.length, 0, 0⟩ : Event)) (l := stopOut mv.event.time (({ runOf mv.before with rs := recentL x mv.event.time (runOf mv.before).rs ++ [mv.event.time] } : RunSt).setS n 4).cs (affL x n)) with h' | h'
      · rw [h']; simp
      · rw [(hmem _ h').2.2.1]; decide
    · have hb := bump_none (st := stL mv.before.children.l) (l := stopOut mv.event.time (({ runOf mv.before with rs := recentL x mv.event.time (runOf mv.before).rs ++ [mv.event.time] } : RunSt).setS n 4).cs (affL x n)) (fun a ha => by rw [(hmem a ha).2.2.1]; decide)
      rw [hr, stL_again _ _ hokS, bump_append, hb, hstS]
  | hold n c ch h hs hq hint hz hr hst hf =>
    have ho := restart_out x mv.event.time n (runOf mv.before)
    have i4 : r'.out = stopOut mv.event.time (({ runOf mv.before with rs := recentL x mv.event.time (runOf mv.before).rs ++ [mv.event.time] } : RunSt).setS n 4).cs (affL x n) := by rw [hr]; exact ho
    have hmem := hstop n c ch h
    have hcs : r'.cs = (restartS x mv.event.time n (runOf mv.before)).cs := by rw [hr]
    rw [i4]
    refine ⟨acts_stop _ _ hmem (stopOut_desc _ _ (affF_sorted _ _ _ _)) (fun a ha => (hmem a ha).2.2.2.2.1), ?_⟩
    rw [bump_none (fun a ha => by rw [(hmem a ha).2.2.1]; decide), hcs]
    unfold restartS; rw [stL_stop _ _ _ (affL_nn x n), stL_setS]; rfl
  | wait n c ch h hs hz hr hst =>
    obtain ⟨j1, j2, j3, j4⟩ := stopping_rest n ch (runOf mv.before)
    rw [hr, j4]
    exact ⟨trivial, stL_setS _ _ _⟩
  | wake n c ch h hs hz hr hst hf =>
    obtain ⟨j1, j2, j3, j4⟩ := stopping_rest n ch (runOf mv.before)
    have ho := againS_out mv.event.time (stopping1 n ch (runOf mv.before))
    rw [← hr, j4] at ho
    have ho : r'.out = againOut mv.event.time (stopping1 n ch (runOf mv.before)).cs 0 := ho
    have hlenS : (stopping1 n ch (runOf mv.before)).cs.length = x.children.l.length := by unfold stopping1; rw [setS_len]; exact hlen
    have hstS : stL (stopping1 n ch (runOf mv.before)).cs = stL mv.before.children.l := stL_setS _ _ _
    have hokS : ∀ (i : Nat) (d : ChildState), (stopping1 n ch (runOf mv.before)).cs[i]? = some d → 1 ≤ d.starts ∧ d.starts ≤ 1099511627776 := by
      intro i d hd
      unfold stopping1 at hd
      rw [setS_at] at hd
      obtain ⟨d0, g1, g2⟩ := map_at hd
      have := hok i d0 g1
      have hs' : d.starts = d0.starts := by rw [← g2]; split <;> rfl
      omega
    rw [ho]
    refine ⟨hagain _ _ hlenS (by simp), ?_⟩
    rw [hr, stL_again _ _ hokS, hstS]
  | done n c ch h hs hz hr hst =>
    obtain ⟨i1, i2, i3, i4, i5⟩ := stopped_rest mv.event.time (stopping1 n ch (runOf mv.before))
    obtain ⟨j1, j2, j3, j4⟩ := stopping_rest n ch (runOf mv.before)
    rw [← hr] at i4 i5
    rw [j4] at i5
    have i5 : r'.out = if (stopping1 n ch (runOf mv.before)).fl = true then [⟨5, -1, 0, mv.event.time⟩] else [] := i5
    rw [i5, i4]
    refine ⟨acts_esc (by simp) _ rfl, ?_⟩
    rw [bump_none (fun a ha => by
      split at ha
      · have : a = ⟨5, -1, 0, mv.event.time⟩ := by simpa using ha
        subst this; simp
      · cases ha)]
    exact stL_setS _ _ _
  | asked hk hr hst hf =>
    exact hshut _ hr rfl hlen hi.zero rfl (fun i d hd h1 => ⟨d, hd, h1⟩)
  | still hk hr hst =>
    subst hr
    exact ⟨trivial, rfl⟩
end
section
open Go Go.RowKit
set_option linter.unusedVariables false
set_option linter.unusedSimpArgs false
set_option maxRecDepth 10000
set_option maxHeartbeats 1000000
attribute [local irreducible] okV okC

theorem e28 (r : Sl Int) (hr : r.l.length ≤ 1000000) (c : Int) : W.pure 28 [Sl.ints r, I c] = some (.bool (decide (c ∈ r.l))) := by
  have h53 : ∃ n : Int, W.pure 53 [Sl.ints r, I c] = some (I n) ∧ (0 ≤ n ↔ c ∈ r.l) := by
    have hL := loop_all (Φ := Φ) (live := [0, 1, 7, 8]) (L := l53_0) r.l (fun k a _ => if c = a then (.inr k : Unit ⊕ Nat) else .inl ()) (fun k _ F G => F = [(0, Sl.ints r), (1, I c), (7, I r.l.length), (8, I k)] ∧ G = []) (fun i y F G => y = .ret ∧ F.get 4 = I i) (fun _ y F G => y = .exit 0) (s := ()) (F := [(0, Sl.ints r), (1, I c), (7, I r.l.length), (8, I 0)]) (H := []) ⟨rfl, rfl⟩ ?_ ?_
    · rcases foldE_unit (fun k (a : Int) => if c = a then (.inr k : Unit ⊕ Nat) else .inl ()) r.l 0 with ⟨g1, g2⟩ | ⟨j, a, y, g1, g2, g3, g4⟩
      · rw [g1] at hL
        obtain ⟨y, F, G, e1, rfl⟩ := okC_iff.1 hL
        refine ⟨-1, ?_, ?_⟩
        · rw [W_pure Φ53 rfl]
          simp [fi53, c53, evFun, enterFr, intBin, resV, rvVs, rvV, e1]
        · refine ⟨fun h => by omega, fun h => ?_⟩
          obtain ⟨i, hi⟩ := List.getElem?_of_mem h
          have := g2 i c hi
          simp at this
      · rw [g3] at hL
        obtain ⟨z, F, G, e1, rfl, e2⟩ := okC_iff.1 hL
        refine ⟨y, ?_, ?_⟩
        · rw [W_pure Φ53 rfl]
          simp [fi53, c53, evFun, enterFr, intBin, resV, rvVs, rvV, e1, e2]
        · refine ⟨fun _ => ?_, fun _ => by omega⟩
          split at g2
          · rename_i h; rw [h]; exact List.mem_of_getElem? g1
          · cases g2
    · rintro k a ⟨⟩ F G hk ha ⟨rfl, rfl⟩
      have hw := wrap_succ (k := k) (by omega)
      by_cases h : c = a
      · simp [evl53_0, b53_0, intBin, hk, ha, hw, h, List.getElem?_cons_zero, -getElem?_pos]
      · simp [evl53_0, b53_0, intBin, hk, ha, hw, h, List.getElem?_cons_zero, -getElem?_pos]
    · rintro ⟨⟩ F G ⟨rfl, rfl⟩
      simp [evl53_0, b53_0, intBin]
  obtain ⟨n, h1, h2⟩ := h53
  rw [W_pure Φ28 rfl]
  by_cases hm : c ∈ r.l
  · have := h2.2 hm
    simp [fi28, c28, evFun, enterFr, intBin, resV, rvVs, rvV, h1, hm, this]
  · have : ¬ 0 ≤ n := fun h => hm (h2.1 h)
    simp [fi28, c28, evFun, enterFr, intBin, resV, rvVs, rvV, h1, hm, this]
theorem setI (B : List Int) (i : Nat) (hi : i < B.length) (v : Int) : setElem (B.map I) i 0 (I v) = some ((B.set i v).map I) := by
  simp [setElem, hi, List.map_set]
theorem modify_set (B : List Int) (i : Nat) (b : Int) (hb : B[i]? = some b) : B.modify i (· + 1) = B.set i (b + 1) := by
  apply List.ext_getElem?
  intro j
  rw [List.getElem?_modify]
  by_cases h : i = j
  · subst h
    rw [hb, List.getElem?_set_self (List.getElem?_eq_some_iff.1 hb).1]
    simp
  · rw [List.getElem?_set_ne h]
    simp [h]
/-- What the loop over the actions keeps. -/
structure Acts8 (x : Spec) (mv : Move) (N M : Nat) (p : Event) (B : List Int) (G : Heap) : Prop where
  g0 : G[0]? = some (.arr 0 4 false [x.av])
  g1 : G[1]? = some (.arr 0 1 false (B.map I))
  gN : G[N]? = some (.arr 0 13 false [mv.av])
  gM : G[M]? = some (.arr 0 4 false [p.av])
  n2 : 2 ≤ N
  m2 : 2 ≤ M
  nm : N ≠ M
theorem Acts8.kept {x : Spec} {mv : Move} {N M : Nat} {p : Event} {B : List Int} {G H : Heap} (h : Acts8 x mv N M p B G) (hk : Kept none G H) : Acts8 x mv N M p B H := ⟨hk.get (by simp) h.g0, hk.get (by simp) h.g1, hk.get (by simp) h.gN, hk.get (by simp) h.gM, h.n2, h.m2, h.nm⟩
theorem Acts8.setM {x : Spec} {mv : Move} {N M : Nat} {p : Event} {B : List Int} {G : Heap} (h : Acts8 x mv N M p B G) (q : Event) : Acts8 x mv N M q B (G.set M (.arr 0 4 false [q.av])) := by
  have hk := Kept.set M G (.arr 0 4 false [q.av])
  have := h.m2; have := h.n2; have := h.nm
  exact ⟨hk.get (by simp; omega) h.g0, hk.get (by simp; omega) h.g1, hk.get (by simp; omega) h.gN, List.getElem?_set_self (List.getElem?_eq_some_iff.1 h.gM).1, h.n2, h.m2, h.nm⟩
theorem Acts8.set1 {x : Spec} {mv : Move} {N M : Nat} {p : Event} {B : List Int} {G : Heap} (h : Acts8 x mv N M p B G) (C : List Int) : Acts8 x mv N M p C (G.set 1 (.arr 0 1 false (C.map I))) := by
  have hk := Kept.set 1 G (.arr 0 1 false (C.map I))
  have := h.m2; have := h.n2
  exact ⟨hk.get (by simp) h.g0, List.getElem?_set_self (List.getElem?_eq_some_iff.1 h.g1).1, hk.get (by simp; omega) h.gN, hk.get (by simp; omega) h.gM, h.n2, h.m2, h.nm⟩
theorem step8 {x : Spec} (h0 : chk x = 0) (hn : ∀ c ∈ x.children.l, c.name.length ≤ 1000000) (m : Sl Move) {mv : Move} (k : Nat) (acts : Sl Event) (hal : acts.l.length ≤ 100000) {N M : Nat} {p a : Event} {B : List Int} {G : Heap} {j : Nat} (hj : j < acts.l.length) (ha : acts.l[j]? = some a) (h : Acts8 x mv N M p B G) (hB : B.length = x.children.l.length) (hBb : ∀ b ∈ B, 0 ≤ b ∧ b ≤ 1000000) (hbl : mv.before.children.l.length = x.children.l.length) (ok : ActOk x mv p a) :
    okC (evC W l8_1 [(2, .optr 0 0 0 0), (7, .osl 1 0 0 x.children.l.length), (10, .optr N 0 0 0), (11, .optr M 0 0 0), (42, Sl.av Move.av 13 m), (43, I m.l.length), (44, I k), (53, Sl.av Event.av 4 acts), (54, I acts.l.length), (55, I j)] G)
      (fun y F' G' => y = .normal ∧ F'.keep [2, 7, 10, 11, 42, 43, 44, 53, 54, 55] = [(2, .optr 0 0 0 0), (7, .osl 1 0 0 x.children.l.length), (10, .optr N 0 0 0), (11, .optr M 0 0 0), (42, Sl.av Move.av 13 m), (43, I m.l.length), (44, I k), (53, Sl.av Event.av 4 acts), (54, I acts.l.length), (55, I (j + 1))] ∧ Acts8 x mv N M a (bump1 B a) G') := by
  have hlen := chk_len h0
  have hw := wrap_succ (k := j) (by omega)
  have hA : ∀ b c : Blk, (G ++ [b]).set G.length c = G ++ [c] := fun b c => by simp
  have hlast : ∀ b : Blk, (G ++ [b])[G.length]? = some b := fun b => app_last G b
  have hze : (.agg [I 0, I 0, I 0, I 0] : AV) = (⟨0, 0, 0, 0⟩ : Event).av := rfl
  have h1 := h.kept (Kept.append none G [.arr 0 4 false [a.av]])
  have h2 := h1.setM a
  have hML : M < G.length := (List.getElem?_eq_some_iff.1 h.gM).1
  have hl2 : ((G ++ [Blk.arr 0 4 false [a.av]]).set M (.arr 0 4 false [a.av]))[G.length]? = some (.arr 0 4 false [a.av]) := by rw [List.getElem?_set_ne (by omega)]; exact hlast _
  have k0 := h1.g0
  have kN := h1.gN
  have kM := h1.gM
  have l0 := h2.g0
  have l1 := h2.g1
  have lN := h2.gN
  have lM := h2.gM
  have b4 : bump1 B a = if a.kind = 3 then B.modify a.child.toNat (· + 1) else B := rfl
  rcases ok.rest with hk | ⟨c0, c1, hk | ⟨hk, ⟨c, hc, hcs⟩, hr⟩⟩
  · have hb : bump1 B a = B := by rw [b4, if_neg (by omega)]
    rw [hb]
    by_cases hp : p.kind = 5
    · have hlt : ¬ a.child < p.child := fun e => by have := (ok.order (by rw [hk, hp])).2 e; omega
      simp [evl8_1, b8_1, intBin, hj, ha, hw, hA, hze, hlast, List.getElem?_cons_zero, -getElem?_pos, k0, kN, kM, l0, l1, lN, lM, hl2, ok.time, ok.value, hp, hlt, hk]
      exact h2
    · have hp' : ¬ (5 : Int) = p.kind := fun e => hp e.symm
      simp [evl8_1, b8_1, intBin, hj, ha, hw, hA, hze, hlast, List.getElem?_cons_zero, -getElem?_pos, k0, kN, kM, l0, l1, lN, lM, hl2, ok.time, ok.value, hp', hk]
      exact h2
  · obtain ⟨i, hi⟩ : ∃ i : Nat, a.child = i := ⟨a.child.toNat, by omega⟩
    have hil : i < B.length := by omega
    have hbi := List.getElem?_eq_getElem hil
    have hbb := hBb _ (List.getElem_mem hil)
    have hb : bump1 B a = B.set i (B[i] + 1) := by rw [b4, if_pos hk, hi, Int.toNat_natCast, modify_set B i _ hbi]
    rw [hb]
    have hw3 : IntKind.wrap .i64 (B[i] + 1) = B[i] + 1 := by rw [wrap64] <;> omega
    have hin : (i : Int) < x.children.l.length := by omega
    have hin2 : i < x.children.l.length := by omega
    have hset := setI B i hil (B[i] + 1)
    have hfin := h2.set1 (B.set i (B[i] + 1))
    rw [List.map_set] at hfin
    by_cases hp : p.kind = 3
    · have hlt : ¬ a.child < p.child := fun e => by have := (ok.order (by rw [hk, hp])).2 e; omega
      rw [hi] at hlt
      simp [evl8_1, b8_1, intBin, hj, ha, hw, hA, hze, hlast, List.getElem?_cons_zero, -getElem?_pos, k0, kN, kM, l0, l1, lN, lM, hl2, ok.time, ok.value, hp, hlt, hk, hi, hil, hbi, hw3, hin, hin2, hset, Nat.not_le_of_lt hin2]
      exact hfin
    · have hp' : ¬ (3 : Int) = p.kind := fun e => hp e.symm
      simp [evl8_1, b8_1, intBin, hj, ha, hw, hA, hze, hlast, List.getElem?_cons_zero, -getElem?_pos, k0, kN, kM, l0, l1, lN, lM, hl2, ok.time, ok.value, hp', hk, hi, hil, hbi, hw3, hin, hin2, hset, Nat.not_le_of_lt hin2]
      exact hfin
  · have hb : bump1 B a = B := by rw [b4, if_neg (by omega)]
    rw [hb]
    obtain ⟨i, hi⟩ : ∃ i : Nat, a.child = i := ⟨a.child.toNat, by omega⟩
    rw [hi, Int.toNat_natCast] at hc
    have hin2 : i < x.children.l.length := by omega
    obtain ⟨r, c26, hrl⟩ := e26 x hn (by omega) mv.event.child
    have c28 := e28 r (by
      rw [hrl]; unfold affAll; split
      · have := affL_len x mv.event.child; omega
      · simp) a.child
    by_cases h3 : 3 ≤ mv.after.status
    · by_cases hp : p.kind = 4
      · have hlt : a.child < p.child := (ok.order (by rw [hk, hp])).1 hk
        rw [hi] at hlt
        simp [evl8_1, b8_1, intBin, hj, ha, hw, hA, hze, hlast, List.getElem?_cons_zero, -getElem?_pos, k0, kN, kM, l0, l1, lN, lM, hl2, ok.time, ok.value, hp, hlt, hk, hi, hc, hcs, h3, Nat.not_le_of_lt hin2]
        exact h2
      · have hp' : ¬ (4 : Int) = p.kind := fun e => hp e.symm
        simp [evl8_1, b8_1, intBin, hj, ha, hw, hA, hze, hlast, List.getElem?_cons_zero, -getElem?_pos, k0, kN, kM, l0, l1, lN, lM, hl2, ok.time, ok.value, hp', hk, hi, hc, hcs, h3, Nat.not_le_of_lt hin2]
        exact h2
    · rcases hr with hr | ⟨hr1, hr2⟩
      · exact absurd hr h3
      · rw [hrl, decide_eq_true hr1, hi] at c28
        rw [hi] at hr2
        by_cases hp : p.kind = 4
        · have hlt : a.child < p.child := (ok.order (by rw [hk, hp])).1 hk
          rw [hi] at hlt
          simp [evl8_1, b8_1, intBin, hj, ha, hw, hA, hze, hlast, List.getElem?_cons_zero, -getElem?_pos, k0, kN, kM, l0, l1, lN, lM, hl2, ok.time, ok.value, hp, hlt, hk, hi, hc, hcs, h3, Nat.not_le_of_lt hin2, c26, c28, hr2]
          exact h2
        · have hp' : ¬ (4 : Int) = p.kind := fun e => hp e.symm
          simp [evl8_1, b8_1, intBin, hj, ha, hw, hA, hze, hlast, List.getElem?_cons_zero, -getElem?_pos, k0, kN, kM, l0, l1, lN, lM, hl2, ok.time, ok.value, hp', hk, hi, hc, hcs, h3, Nat.not_le_of_lt hin2, c26, c28, hr2]
          exact h2
end
section
open Go Go.RowKit
set_option linter.unusedVariables false
set_option linter.unusedSimpArgs false
set_option maxRecDepth 10000
set_option maxHeartbeats 1000000
attribute [local irreducible] okV okC

theorem bump1_len (B : List Int) (a : Event) : (bump1 B a).length = B.length := by unfold bump1; split <;> simp
theorem bump1_mem {B : List Int} {a : Event} {lo hi : Int} (h : ∀ b ∈ B, lo ≤ b ∧ b ≤ hi) : ∀ b ∈ bump1 B a, lo ≤ b ∧ b ≤ hi + 1 := by
  intro b hb
  unfold bump1 at hb
  split at hb
  · obtain ⟨i, hi'⟩ := List.getElem?_of_mem hb
    rw [List.getElem?_modify] at hi'
    cases hB : B[i]? with
    | none => rw [hB] at hi'; simp at hi'
    | some c =>
      rw [hB] at hi'
      have := h c (List.mem_of_getElem? hB)
      simp at hi'
      split at hi' <;> omega
  · have := h b hb; omega
theorem inner8 {x : Spec} (h0 : chk x = 0) (hn : ∀ c ∈ x.children.l, c.name.length ≤ 1000000) (m : Sl Move) {mv : Move} (k : Nat) (acts : Sl Event) (hal : acts.l.length ≤ 1000) {N M : Nat} {B : List Int} {G : Heap} (hG : Acts8 x mv N M ⟨4, x.children.l.length, 0, 0⟩ B G) (hB : B.length = x.children.l.length) (hBb : ∀ b ∈ B, 0 ≤ b ∧ b ≤ 1000) (hbl : mv.before.children.l.length = x.children.l.length) (ok : ActsOk x mv ⟨4, x.children.l.length, 0, 0⟩ acts.l) :
    okC (W.loop [2, 7, 10, 11, 42, 43, 44, 53, 54, 55] l8_1 [(2, .optr 0 0 0 0), (7, .osl 1 0 0 x.children.l.length), (10, .optr N 0 0 0), (11, .optr M 0 0 0), (42, Sl.av Move.av 13 m), (43, I m.l.length), (44, I k), (53, Sl.av Event.av 4 acts), (54, I acts.l.length), (55, I 0)] G)
      (fun y F G' => y = .exit 4 ∧ F.keep [2, 7, 10, 42, 43, 44] = [(2, .optr 0 0 0 0), (7, .osl 1 0 0 x.children.l.length), (10, .optr N 0 0 0), (42, Sl.av Move.av 13 m), (43, I m.l.length), (44, I k)] ∧ ∃ p, Acts8 x mv N M p (bumpL B acts.l) G') := by
  have hL := loop_fold (Φ := Φ) (live := [2, 7, 10, 11, 42, 43, 44, 53, 54, 55]) (L := l8_1) acts.l (σ := List Int) (fun _ a s => bump1 s a) (fun j s F G' => F = [(2, .optr 0 0 0 0), (7, .osl 1 0 0 x.children.l.length), (10, .optr N 0 0 0), (11, .optr M 0 0 0), (42, Sl.av Move.av 13 m), (43, I m.l.length), (44, I k), (53, Sl.av Event.av 4 acts), (54, I acts.l.length), (55, I j)] ∧ Acts8 x mv N M (prevA ⟨4, x.children.l.length, 0, 0⟩ acts.l j) s G' ∧ s.length = x.children.l.length ∧ ∀ b ∈ s, 0 ≤ b ∧ b ≤ 1000 + j)
    (fun s y F G' => y = .exit 4 ∧ F.keep [2, 7, 10, 42, 43, 44] = [(2, .optr 0 0 0 0), (7, .osl 1 0 0 x.children.l.length), (10, .optr N 0 0 0), (42, Sl.av Move.av 13 m), (43, I m.l.length), (44, I k)] ∧ ∃ p, Acts8 x mv N M p s G') (s := B) (F := [(2, .optr 0 0 0 0), (7, .osl 1 0 0 x.children.l.length), (10, .optr N 0 0 0), (11, .optr M 0 0 0), (42, Sl.av Move.av 13 m), (43, I m.l.length), (44, I k), (53, Sl.av Event.av 4 acts), (54, I acts.l.length), (55, I 0)]) (H := G) ⟨rfl, hG, hB, fun b hb => by have := hBb b hb; omega⟩ ?_ ?_
  · have e : (acts.l.zipIdx.foldl (fun s p => bump1 s p.1) B) = bumpL B acts.l := by
      have : ∀ (l : List Event) (j : Nat) (s : List Int), (l.zipIdx j).foldl (fun s p => bump1 s p.1) s = l.foldl bump1 s := by
        intro l
        induction l with
        | nil => intro j s; rfl
        | cons a l ih => intro j s; simp only [List.zipIdx_cons, List.foldl_cons]; exact ih _ _
      exact this _ _ _
    rw [e] at hL
    exact hL
  · rintro j a s F G' hj ha ⟨rfl, h1, h2, h3⟩
    have hact := acts_at acts.l _ ok j a ha
    obtain ⟨y, F', G2, e1, rfl, e2, e3⟩ := okC_iff.1 (step8 h0 hn m k acts (by omega) hj ha h1 h2 (fun b hb => by have := h3 b hb; omega) hbl hact)
    have hkeep : Fr.keep [(2, .optr 0 0 0 0), (7, .osl 1 0 0 x.children.l.length), (10, .optr N 0 0 0), (11, .optr M 0 0 0), (42, Sl.av Move.av 13 m), (43, I m.l.length), (44, I k), (53, Sl.av Event.av 4 acts), (54, I acts.l.length), (55, I j)] [2, 7, 10, 11, 42, 43, 44, 53, 54, 55] = [(2, .optr 0 0 0 0), (7, .osl 1 0 0 x.children.l.length), (10, .optr N 0 0 0), (11, .optr M 0 0 0), (42, Sl.av Move.av 13 m), (43, I m.l.length), (44, I k), (53, Sl.av Event.av 4 acts), (54, I acts.l.length), (55, I j)] := rfl
    rw [hkeep, e1]
    have hp : prevA ⟨4, x.children.l.length, 0, 0⟩ acts.l (j + 1) = a := by
      simp only [prevA, List.getD_eq_getElem?_getD, ha, Option.getD_some]
    refine okC_iff.2 ⟨_, _, _, rfl, rfl, e2, by rw [hp]; exact e3, by rw [bump1_len]; exact h2, fun b hb => ?_⟩
    have := bump1_mem h3 b hb
    omega
  · rintro s F G' ⟨rfl, h1, h2, h3⟩
    simp [evl8_1, b8_1, intBin]
    exact ⟨_, h1⟩
/-- Each child has been started as often as was counted. -/
theorem check8 {x : Spec} (m : Sl Move) (k : Nat) (cs : Sl ChildState) (hcl : cs.l.length ≤ 1000) {G : Heap} (g0 : G[0]? = some (.arr 0 4 false [x.av])) (g1 : G[1]? = some (.arr 0 1 false ((stL cs.l).map I))) (hl : cs.l.length = x.children.l.length) :
    okC (W.loop [2, 7, 42, 43, 44, 157, 158, 159] l8_0 [(2, .optr 0 0 0 0), (7, .osl 1 0 0 x.children.l.length), (42, Sl.av Move.av 13 m), (43, I m.l.length), (44, I k), (157, Sl.av ChildState.av 2 cs), (158, I cs.l.length), (159, I 0)] G)
      (fun y F G' => y = .exit 6 ∧ F.keep [2, 7, 42, 43, 44] = [(2, .optr 0 0 0 0), (7, .osl 1 0 0 x.children.l.length), (42, Sl.av Move.av 13 m), (43, I m.l.length), (44, I k)] ∧ G'[0]? = some (.arr 0 4 false [x.av]) ∧ G'[1]? = some (.arr 0 1 false ((stL cs.l).map I))) := by
  have hL := loop_fold (Φ := Φ) (live := [2, 7, 42, 43, 44, 157, 158, 159]) (L := l8_0) cs.l (σ := Unit) (fun _ _ s => s) (fun j _ F G' => F = [(2, .optr 0 0 0 0), (7, .osl 1 0 0 x.children.l.length), (42, Sl.av Move.av 13 m), (43, I m.l.length), (44, I k), (157, Sl.av ChildState.av 2 cs), (158, I cs.l.length), (159, I j)] ∧ G'[0]? = some (.arr 0 4 false [x.av]) ∧ G'[1]? = some (.arr 0 1 false ((stL cs.l).map I)))
    (fun _ y F G' => y = .exit 6 ∧ F.keep [2, 7, 42, 43, 44] = [(2, .optr 0 0 0 0), (7, .osl 1 0 0 x.children.l.length), (42, Sl.av Move.av 13 m), (43, I m.l.length), (44, I k)] ∧ G'[0]? = some (.arr 0 4 false [x.av]) ∧ G'[1]? = some (.arr 0 1 false ((stL cs.l).map I))) (s := ()) (F := [(2, .optr 0 0 0 0), (7, .osl 1 0 0 x.children.l.length), (42, Sl.av Move.av 13 m), (43, I m.l.length), (44, I k), (157, Sl.av ChildState.av 2 cs), (158, I cs.l.length), (159, I 0)]) (H := G) ⟨rfl, g0, g1⟩ ?_ ?_
  · exact hL
  · rintro j c ⟨⟩ F G' hj hc ⟨rfl, h0, h1⟩
    have hw := wrap_succ (k := j) (by omega)
    have hA : ∀ b c : Blk, (G' ++ [b]).set G'.length c = G' ++ [c] := fun b c => by simp
    have hlast : ∀ b : Blk, (G' ++ [b])[G'.length]? = some b := fun b => app_last G' b
    have k0 : ∀ b : Blk, (G' ++ [b])[0]? = some (.arr 0 4 false [x.av]) := fun b => app_get h0 b
    have k1 : ∀ b : Blk, (G' ++ [b])[1]? = some (.arr 0 1 false ((stL cs.l).map I)) := fun b => app_get h1 b
    have hz2 : (.agg [I 0, I 0] : AV) = (⟨0, 0⟩ : ChildState).av := rfl
    have hs : (stL cs.l)[j]? = some c.starts := by unfold stL; rw [List.getElem?_map, hc]; rfl
    have hjx : j < x.children.l.length := by omega
    simp [evl8_0, b8_0, intBin, hj, hc, hw, hA, hlast, k0, k1, hz2, hs, hjx, List.getElem?_cons_zero, -getElem?_pos]
  · rintro ⟨⟩ F G' ⟨rfl, h0, h1⟩
    simp [evl8_0, b8_0, intBin]
    exact ⟨h0, h1⟩
end
section
open Go Go.RowKit
set_option linter.unusedVariables false
set_option linter.unusedSimpArgs false
set_option maxRecDepth 10000
set_option maxHeartbeats 1000000
attribute [local irreducible] okV okC

theorem init8 {x : Spec} (hx : x.children.l.length ≤ 1000) (m : Sl Move) : okC (W.loop [2, 5, 7, 34, 35] l8_3 [(2, .optr 0 0 0 0), (5, Sl.av Move.av 13 m), (7, .osl 1 0 0 x.children.l.length), (34, I x.children.l.length), (35, I 0)] [.arr 0 4 false [x.av], .arr 0 1 false ((List.replicate x.children.l.length (0 : Int)).map I)])
    (fun y F G => y = .exit 0 ∧ F.keep [2, 5, 7] = [(2, .optr 0 0 0 0), (5, Sl.av Move.av 13 m), (7, .osl 1 0 0 x.children.l.length)] ∧ G = [.arr 0 4 false [x.av], .arr 0 1 false ((stL (startS x).children.l).map I)]) := by
  have hL := loop_fold (Φ := Φ) (live := [2, 5, 7, 34, 35]) (L := l8_3) x.children.l (σ := Unit) (fun _ _ s => s) (fun k _ F G => F = [(2, .optr 0 0 0 0), (5, Sl.av Move.av 13 m), (7, .osl 1 0 0 x.children.l.length), (34, I x.children.l.length), (35, I k)] ∧ ∃ B : List Int, B.length = x.children.l.length ∧ (∀ i, i < k → B[i]? = some 1) ∧ G = [.arr 0 4 false [x.av], .arr 0 1 false (B.map I)])
    (fun _ y F G => y = .exit 0 ∧ F.keep [2, 5, 7] = [(2, .optr 0 0 0 0), (5, Sl.av Move.av 13 m), (7, .osl 1 0 0 x.children.l.length)] ∧ ∃ B : List Int, B.length = x.children.l.length ∧ (∀ i, i < x.children.l.length → B[i]? = some 1) ∧ G = [.arr 0 4 false [x.av], .arr 0 1 false (B.map I)]) (s := ()) (F := [(2, .optr 0 0 0 0), (5, Sl.av Move.av 13 m), (7, .osl 1 0 0 x.children.l.length), (34, I x.children.l.length), (35, I 0)]) (H := [.arr 0 4 false [x.av], .arr 0 1 false ((List.replicate x.children.l.length (0 : Int)).map I)]) ⟨rfl, _, by simp, by simp, rfl⟩ ?_ ?_
  · obtain ⟨y, F, G, e1, rfl, e2, B, b1, b2, rfl⟩ := okC_iff.1 hL
    have hB : B = stL (startS x).children.l := by
      apply List.ext_getElem?
      intro i
      by_cases h : i < x.children.l.length
      · rw [b2 i h]; simp [stL, startS, start1, h]
      · rw [List.getElem?_eq_none (by omega), List.getElem?_eq_none (by simp [stL, startS]; omega)]
    rw [← hB]
    exact okC_iff.2 ⟨_, _, _, e1, rfl, e2, rfl⟩
  · rintro k c ⟨⟩ F G hk hc ⟨rfl, B, b1, b2, rfl⟩
    have hw := wrap_succ (k := k) (by omega)
    have hkB : k < B.length := by omega
    have hset := setI B k hkB 1
    simp [evl8_3, b8_3, intBin, hk, hw, hset, hkB]
    refine ⟨B.set k 1, by simpa using b1, fun i hi => ?_, by rw [List.map_set]⟩
    by_cases h : k = i
    · subst h; rw [List.getElem?_set_self hkB]
    · rw [List.getElem?_set_ne h]; exact b2 i (by omega)
  · rintro ⟨⟩ F G ⟨rfl, B, b1, b2, rfl⟩
    simp [evl8_3, b8_3, intBin]
    exact ⟨B, b1, b2, rfl⟩
theorem turn8 {x : Spec} (h0 : chk x = 0) (hn : ∀ c ∈ x.children.l, c.name.length ≤ 1000000) (m : Sl Move) (hm : Moves x m.l) (hml : m.l.length ≤ 40) {k : Nat} {mv : Move} (hk : k < m.l.length) (hmv : m.l[k]? = some mv) {G : Heap} (g0 : G[0]? = some (.arr 0 4 false [x.av])) (g1 : G[1]? = some (.arr 0 1 false ((stL (curSt x m.l k).2.1).map I))) :
    okC (evC W l8_2 [(2, .optr 0 0 0 0), (7, .osl 1 0 0 x.children.l.length), (42, Sl.av Move.av 13 m), (43, I m.l.length), (44, I k)] G) (fun y F' G' => y = .normal ∧ F'.keep [2, 7, 42, 43, 44] = [(2, .optr 0 0 0 0), (7, .osl 1 0 0 x.children.l.length), (42, Sl.av Move.av 13 m), (43, I m.l.length), (44, I (k + 1))] ∧ G'[0]? = some (.arr 0 4 false [x.av]) ∧ G'[1]? = some (.arr 0 1 false ((stL (curSt x m.l (k + 1)).2.1).map I))) := by
  have hlen := chk_len h0
  obtain ⟨ok, hnext⟩ := hm.at h0 hml hmv
  have hbef := ok.before
  rw [← hbef] at g1
  rw [hnext]
  simp only [State.core] at g1 ⊢
  have hw := wrap_succ (k := k) (by omega)
  have hbl := ok.inv.len
  simp only [runOf] at hbl
  obtain ⟨s1, s2⟩ := strategy_move h0 (by omega) ok.inv ok.chk rfl ok.after
  rw [← ok.acts] at s1 s2
  rw [← ok.after.cs] at s2
  have hsz := size_handle x mv.before mv.event
  have z1 := hsz.cs
  have z3 := hsz.out
  simp only [runOf, List.length_nil] at z1 z3
  rw [← ok.acts] at z3
  rw [← ok.after.cs] at z1
  have hA : ∀ b c : Blk, (G ++ [b]).set G.length c = G ++ [c] := fun b c => by simp
  have hB : ∀ a b c : Blk, (G ++ [a] ++ [b]).set (G.length + 1) c = G ++ [a] ++ [c] := fun a b c => by simp
  have hlast : ∀ b : Blk, (G ++ [b])[G.length]? = some b := fun b => app_last G b
  have k0 : ∀ a b : Blk, (G ++ [a] ++ [b])[0]? = some (.arr 0 4 false [x.av]) := fun a b => app_get (app_get g0 a) b
  have k0' : ∀ a : Blk, (G ++ [a])[0]? = some (.arr 0 4 false [x.av]) := fun a => app_get g0 a
  have kN : ∀ a b : Blk, (G ++ [a] ++ [b])[G.length]? = some a := fun a b => app_get (app_last G a) b
  have kM : ∀ a b : Blk, (G ++ [a] ++ [b])[G.length + 1]? = some b := fun a b => by simp
  have h1l := (List.getElem?_eq_some_iff.1 g1).1
  have hzm : (.agg [I 0, .isl (some true) 0 [], .isl (some true) 0 [], .bool false, I 0, .isl (some true) 0 [], .isl (some true) 0 [], .bool false, I 0, I 0, I 0, I 0, .isl (some true) 0 []] : AV) = (⟨zeroState, zeroState, ⟨0, 0, 0, 0⟩, slNil⟩ : Move).av := rfl
  have hze : ∀ a b c d : Int, (.agg [I a, I b, I c, I d] : AV) = (⟨a, b, c, d⟩ : Event).av := fun _ _ _ _ => rfl
  have hG0 : Acts8 x mv G.length (G.length + 1) ⟨4, x.children.l.length, 0, 0⟩ (stL mv.before.children.l) (G ++ [.arr 0 13 false [mv.av]] ++ [.arr 0 4 false [(⟨4, x.children.l.length, 0, 0⟩ : Event).av]]) :=
    ⟨k0 _ _, app_get (app_get g1 _) _, kN _ _, kM _ _, by omega, by omega, by omega⟩
  obtain ⟨y, F, G1, e1, rfl, e2, p, e3⟩ := okC_iff.1 (inner8 h0 hn m k mv.actions (by omega) hG0 (by simp [stL]; exact hbl) (fun b hb => by
    obtain ⟨c, hc, rfl⟩ := List.mem_map.1 hb
    obtain ⟨i, hi⟩ := List.getElem?_of_mem hc
    have := ok.inv.ok i c hi
    omega) hbl s1)
  simp only [keep_cons, keep_nil, List.cons.injEq, Prod.mk.injEq, true_and, and_true] at e2
  obtain ⟨f1, f2, f3, f4, f5, f6⟩ := e2
  rw [← s2] at e3
  obtain ⟨y, F2, G2, d1, rfl, d2, d3, d4⟩ := okC_iff.1 (check8 m k mv.after.children (by omega) e3.g0 e3.g1 (by omega))
  simp only [keep_cons, keep_nil, List.cons.injEq, Prod.mk.injEq, true_and, and_true] at d2
  obtain ⟨i1, i2, i3, i4, i5⟩ := d2
  simp [evl8_2, b8_2, intBin, hk, hmv, hw, hA, hB, hzm, hze, hlast, k0, k0', kN, kM, List.getElem?_cons_zero, -List.append_assoc, -getElem?_pos, e1, f1, f2, f3, f4, f5, f6, e3.gN, d1, i1, i2, i3, i4, i5]
  exact ⟨d3, d4⟩
theorem law8 (x : Spec) (hx : x.wf) (l : Sl Happening) (hl : SlOk Happening.wf l) : W.pure 8 [x.av, Sl.av Happening.av 4 l] = some (.bool true) := by
  have h12 := e12
  have h21 := e21 x
  rw [W_pure Φ8 (by simp)]
  cases hf : fineB x with
  | false => rw [hf] at h21; simp [fi8, c8, evFun, enterFr, intBin, resV, rvVs, rvV, h21, h12]
  | true =>
    rw [hf] at h21
    obtain ⟨h0, hx18, hn⟩ := fine_facts hf
    obtain ⟨v, h22, m, rfl, hm, hml⟩ := e22 h0 hn l hl.all (by have := hl.len; unfold maxLen at this; omega)
    obtain ⟨y, F, G, e1, rfl, e2, rfl⟩ := okC_iff.1 (init8 (x := x) (by omega) m)
    simp only [keep_cons, keep_nil, List.cons.injEq, Prod.mk.injEq, true_and, and_true] at e2
    obtain ⟨f1, f2, f3⟩ := e2
    have hL := loop_fold (Φ := Φ) (live := [2, 7, 42, 43, 44]) (L := l8_2) m.l (σ := Unit) (fun _ _ s => s) (fun k _ F G => F = [(2, .optr 0 0 0 0), (7, .osl 1 0 0 x.children.l.length), (42, Sl.av Move.av 13 m), (43, I m.l.length), (44, I k)] ∧ G[0]? = some (.arr 0 4 false [x.av]) ∧ G[1]? = some (.arr 0 1 false ((stL (curSt x m.l k).2.1).map I)))
      (fun _ y F G => y = .exit 2) (s := ()) (F := [(2, .optr 0 0 0 0), (7, .osl 1 0 0 x.children.l.length), (42, Sl.av Move.av 13 m), (43, I m.l.length), (44, I 0)]) (H := [.arr 0 4 false [x.av], .arr 0 1 false ((stL (startS x).children.l).map I)]) ⟨rfl, rfl, rfl⟩ ?_ ?_
    · obtain ⟨y, F', G', d1, rfl⟩ := okC_iff.1 hL
      have hrep : List.replicate x.children.l.length (AV.int IntKind.i64 0) = (List.replicate x.children.l.length (0 : Int)).map I := by simp
      have hsz : (x.children.l.length : Int) ≤ 1048576 := by omega
      rw [List.map_replicate] at e1
      simp [fi8, c8, evFun, enterFr, intBin, resV, rvVs, rvV, h21, h12, h22, hsz, e1, f1, f2, f3, d1]
    · rintro k mv ⟨⟩ F G hk hmv ⟨rfl, g0, g1⟩
      obtain ⟨y, F', G', d1, rfl, d2, d3⟩ := okC_iff.1 (turn8 h0 hn m hm hml hk hmv g0 g1)
      rw [show Fr.keep [(2, .optr 0 0 0 0), (7, .osl 1 0 0 x.children.l.length), (42, Sl.av Move.av 13 m), (43, I m.l.length), (44, I k)] [2, 7, 42, 43, 44] = [(2, .optr 0 0 0 0), (7, .osl 1 0 0 x.children.l.length), (42, Sl.av Move.av 13 m), (43, I m.l.length), (44, I k)] from rfl, d1]
      exact okC_iff.2 ⟨_, _, _, rfl, rfl, d2, d3⟩
    · rintro ⟨⟩ F G ⟨rfl, g0, g1⟩
      simp [evl8_2, b8_2, intBin]
end
section
open Go Go.RowKit
set_option linter.unusedVariables false
set_option linter.unusedSimpArgs false
set_option maxRecDepth 10000

def markL (due : List Bool) (l : List Int) : List Bool := l.foldl (fun d i => d.set i.toNat true) due
theorem mark_len (due : List Bool) (l : List Int) : (markL due l).length = due.length := by
  unfold markL
  induction l generalizing due with
  | nil => rfl
  | cons a l ih => rw [List.foldl_cons, ih, List.length_set]
theorem mark_old : ∀ (l : List Int) (due : List Bool) {i : Nat}, due[i]? = some true → (markL due l)[i]? = some true
  | [], _, _, h => h
  | a :: l, due, i, h => by
    refine mark_old l (due.set a.toNat true) ?_
    by_cases e : a.toNat = i
    · subst e; exact List.getElem?_set_self (List.getElem?_eq_some_iff.1 h).1
    · rw [List.getElem?_set_ne e]; exact h
theorem mark_new : ∀ (l : List Int) (due : List Bool) {i : Nat}, (i : Int) ∈ l → i < due.length → (markL due l)[i]? = some true
  | [], _, _, h, _ => by simp at h
  | a :: l, due, i, h, hl => by
    rcases List.mem_cons.1 h with h | h
    · refine mark_old l (due.set a.toNat true) ?_
      have : a.toNat = i := by omega
      subst this
      exact List.getElem?_set_self hl
    · exact mark_new l (due.set a.toNat true) h (by rw [List.length_set]; exact hl)
structure PolInv (x : Spec) (st : Int) (cs : List ChildState) (due : List Bool) : Prop where
  len : due.length = x.children.l.length
  tmp : ∀ (i : Nat) (c : ChildState) (ch : Child), cs[i]? = some c → x.children.l[i]? = some ch → ch.policy = 3 → c.status ≠ 4 ∧ c.starts = 1
  due : st = 2 → ∀ (i : Nat) (c : ChildState), cs[i]? = some c → (c.status = 2 ∨ c.status = 4) → due[i]? = some true
def dueL (x : Spec) (mv : Move) (due : List Bool) : List Bool := if wantedB x mv = true then markL due (affAll x mv.event.child) else due
def dueN (x : Spec) (mv : Move) (due : List Bool) : List Bool := if mv.after.status = 1 then List.replicate x.children.l.length false else dueL x mv due
theorem dueL_len (x : Spec) (mv : Move) (due : List Bool) : (dueL x mv due).length = due.length := by unfold dueL; split; exact mark_len _ _; rfl
/-- What SupervisorPolicy looks at, in one move. -/
theorem policy_move {x : Spec} (h0 : chk x = 0) {m : Int} {mv : Move} (hi : Inv x m (runOf mv.before)) (hc : checkN x mv.before mv.event = 0) (hv : mv.event.value = 0 ∨ mv.event.value = 1 ∨ mv.event.value = 100) {r' : RunSt} (hr' : handleR x mv.before mv.event = r') (ha : StOk mv.after r') {due : List Bool} (hp : PolInv x mv.before.status mv.before.children.l due) :
    (wantedB x mv = true → ∃ (n : Nat) (c' : ChildState), mv.event.child = (n : Int) ∧ n < x.children.l.length ∧ mv.after.children.l[n]? = some c' ∧ (mv.after.status < 3 → c'.status = 1 ∨ c'.status = 4)) ∧
    (∀ a ∈ r'.out, a.kind = 3 → ∃ (i : Nat) (ch : Child), a.child = (i : Int) ∧ x.children.l[i]? = some ch ∧ ch.policy ≠ 3 ∧ (dueL x mv due)[i]? = some true) ∧
    PolInv x mv.after.status mv.after.children.l (dueN x mv due) := by
  have w := handle_way hi hc
  rw [hr'] at w
  have hlen := hi.len
  have hok := hi.ok
  have hfit := hi.fit
  simp only [runOf] at hlen hok hfit
  have dlen : (dueN x mv due).length = x.children.l.length := by
    unfold dueN; split
    · simp
    · rw [dueL_len]; exact hp.len
  rw [ha.st, ha.cs]
  have no24 : mv.before.status = 1 → ∀ (i : Nat) (c : ChildState), mv.before.children.l[i]? = some c → c.status ≠ 2 ∧ c.status ≠ 4 := by
    intro h1 i c hcc
    rcases hfit with ⟨_, a, b⟩ | ⟨a, _⟩ | ⟨a, _⟩ | ⟨a, _⟩
    · exact ⟨fun e => a ⟨i, c, hcc, e⟩, fun e => b ⟨i, c, hcc, e⟩⟩
    · omega
    · omega
    · omega
  have nd : wantedB x mv = false → dueL x mv due = due := fun h => by unfold dueL; rw [h]; rfl
  have dn : r'.st ≠ 1 → dueN x mv due = dueL x mv due := fun h => by unfold dueN; rw [ha.st, if_neg h]
  have old : ∀ i : Nat, due[i]? = some true → (dueL x mv due)[i]? = some true := by
    intro i hi'
    unfold dueL; split
    · exact mark_old _ _ hi'
    · exact hi'
  have hshut : ∀ (r : RunSt), r' = shutS mv.event.time r → r.out = [] → (r'.st = 3 ∨ r'.st = 4) → (∀ (i : Nat) (c : ChildState), r.cs[i]? = some c → ∃ d, mv.before.children.l[i]? = some d ∧ c.starts = d.starts) → (∀ a ∈ r'.out, a.kind = 3 → ∃ (i : Nat) (ch : Child), a.child = (i : Int) ∧ x.children.l[i]? = some ch ∧ ch.policy ≠ 3 ∧ (dueL x mv due)[i]? = some true) ∧ PolInv x r'.st r'.cs (dueN x mv due) := by
    intro r hr ho hst hs
    have h3 := (shut_esc mv.event.time r ho).2
    rw [← hr] at h3
    refine ⟨fun a ha' h => absurd h (h3 a ha'), dlen, fun i c ch hcc hch hpol => ?_, fun h => by omega⟩
    rw [hr, shut_cs, shut_at] at hcc
    obtain ⟨c0, g1, g2⟩ := map_at hcc
    obtain ⟨d, g3, g4⟩ := hs i c0 g1
    have hd := hp.tmp i d ch g3 hch hpol
    subst g2
    split
    · exact ⟨by simp, by simp only [to_starts]; omega⟩
    · split
      · exact ⟨by simp, by simp only [to_starts]; omega⟩
      · exact ⟨by assumption, by omega⟩
  have pol3 : ∀ (ch : Child), quietB ch mv.event.value = false → ch.policy ≠ 3 := by
    intro ch h e
    simp [quietB, e] at h
  have wtd : ∀ (n : Nat) (c : ChildState) (ch : Child), Exit x mv.before mv.event n c ch → c.status = 1 → quietB ch mv.event.value = false → wantedB x mv = true := by
    intro n c ch h hs hq
    rw [wanted_way h0 h hv, hq, hs]; simp
  have wtn : ∀ (n : Nat) (c : ChildState) (ch : Child), Exit x mv.before mv.event n c ch → c.status = 2 → wantedB x mv = false := by
    intro n c ch h hs
    rw [wanted_way h0 h hv, hs]; simp
  have affd : ∀ (n : Nat) (c : ChildState) (ch : Child), Exit x mv.before mv.event n c ch → wantedB x mv = true → ∀ i : Nat, (i : Int) ∈ affL x n → (dueL x mv due)[i]? = some true := by
    intro n c ch h hw i hi'
    have hin := affL_in x n _ hi'
    have hn := (List.getElem?_eq_some_iff.1 h.hch).1
    unfold dueL
    rw [if_pos hw]
    refine mark_new _ _ ?_ (by rw [hp.len]; omega)
    rw [h.child]
    unfold affAll fitB
    rw [if_pos]
    · exact hi'
    · simp [h0, inR]; omega
  have self : ∀ (n : Nat) (c : ChildState) (ch : Child), Exit x mv.before mv.event n c ch → (n : Int) ∈ affL x n := by
    intro n c ch h
    have hn := (List.getElem?_eq_some_iff.1 h.hch).1
    exact (affF_mem _ _ _ _ _).2 ⟨by omega, by omega, by simp [affP]⟩
  -- what a child is, when the others have been told to stop
  have rest : ∀ (n : Nat) (c : ChildState) (ch : Child), Exit x mv.before mv.event n c ch → ∀ (i : Nat) (d : ChildState), (restartS x mv.event.time n (runOf mv.before)).cs[i]? = some d → (i = n ∧ d.status = 4) ∨ (i ≠ n ∧ ∃ d0, mv.before.children.l[i]? = some d0 ∧ d.starts = d0.starts ∧ (d.status = d0.status ∨ (d.status = 2 ∧ (i : Int) ∈ affL x n))) := by
    intro n c ch h i d hd
    unfold restartS at hd
    rw [stopS_at _ _ _ (affL_nn x n), setS_at, Option.map_map] at hd
    obtain ⟨d0, g1, g2⟩ := map_at hd
    simp only [Function.comp] at g2
    by_cases hin : i = n
    · rw [if_pos hin] at g2
      left
      refine ⟨hin, ?_⟩
      rw [← g2]
      simp [stop1]
    · rw [if_neg hin] at g2
      right
      refine ⟨hin, d0, g1, ?_⟩
      unfold stop1 at g2
      split at g2
      · rename_i h9
        subst g2
        exact ⟨rfl, .inr ⟨rfl, h9.1⟩⟩
      · subst g2
        exact ⟨rfl, .inl rfl⟩
  have stpp : ∀ (n : Nat) (c : ChildState) (ch : Child), Exit x mv.before mv.event n c ch → ∀ (i : Nat) (d : ChildState), (stopping1 n ch (runOf mv.before)).cs[i]? = some d → (i = n ∧ d.starts = c.starts ∧ ((d.status = 4 ∧ mv.before.status = 2 ∧ ch.policy ≠ 3) ∨ d.status = 3)) ∨ (i ≠ n ∧ mv.before.children.l[i]? = some d) := by
    intro n c ch h i d hd
    unfold stopping1 at hd
    rw [setS_at] at hd
    obtain ⟨d0, g1, g2⟩ := map_at hd
    by_cases hin : i = n
    · rw [if_pos hin] at g2
      subst hin
      have g1 : mv.before.children.l[i]? = some d0 := g1
      rw [h.hc] at g1
      cases g1
      left
      refine ⟨rfl, by rw [← g2]; rfl, ?_⟩
      by_cases hb : (runOf mv.before).st = 2 ∧ ¬ ch.policy = 3
      · rw [if_pos hb] at g2; rw [← g2]; exact .inl ⟨rfl, hb.1, hb.2⟩
      · rw [if_neg hb] at g2; rw [← g2]; exact .inr rfl
    · rw [if_neg hin] at g2
      subst g2
      exact .inr ⟨hin, g1⟩
  cases w with
  | quiet n c ch h hs hq hr hst hf =>
    have ho : r'.out = [] := by rw [hr, setS_out]; rfl
    have hwn : wantedB x mv = false := by rw [wanted_way h0 h hv, hq]; simp
    have hr1 := setS_rest (runOf mv.before) n 3
    simp only [RunSt.rest, Prod.mk.injEq] at hr1
    have hst' : r'.st = mv.before.status := by rw [hr]; exact hr1.1
    rw [ho]
    refine ⟨fun e => (by rw [hwn] at e; cases e), fun a h => (by cases h), dlen, fun i d ch' hd hch hpol => ?_, fun h2 i d hd h24 => ?_⟩
    · rw [hr, setS_at] at hd
      obtain ⟨d0, g1, g2⟩ := map_at hd
      have := hp.tmp i d0 ch' g1 hch hpol
      subst g2
      split
      · exact ⟨by simp, this.2⟩
      · exact this
    · rw [dn (by omega), nd hwn]
      rw [hr, setS_at] at hd
      obtain ⟨d0, g1, g2⟩ := map_at hd
      subst g2
      split at h24
      · simp at h24
      · exact hp.due (by omega) i d0 g1 h24
  | fail n c ch h hs hq hint hr hst hf =>
    have z := setS_ok hi.zero n (b := 3) (by omega)
    have hst2 := (shut_inv (r := { (runOf mv.before).setS n 3 with fl := true }) ⟨z.len, z.ok, z.times, z.few⟩ mv.event.time).2
    rw [← hr] at hst2
    have hn := (List.getElem?_eq_some_iff.1 h.hch).1
    have hl' : r'.cs.length = x.children.l.length := by rw [hr, (size_shut _ _).cs]; exact z.len
    obtain ⟨p1, p2⟩ := hshut _ hr (setS_out _ _ _) hst2 (fun i d hd => by
      have hd : ((runOf mv.before).setS n 3).cs[i]? = some d := hd
      rw [setS_at] at hd
      obtain ⟨d0, g1, g2⟩ := map_at hd
      exact ⟨d0, g1, by rw [← g2]; split <;> rfl⟩)
    exact ⟨fun _ => ⟨n, _, h.child, hn, List.getElem?_eq_getElem (by omega), fun e => by omega⟩, p1, p2⟩
  | again n c ch h hs hq hint hz hr hst hf =>
    have hw := wtd n c ch h hs hq
    have hn := (List.getElem?_eq_some_iff.1 h.hch).1
    obtain ⟨i1, i2, i3⟩ := againS_rest mv.event.time (restartS x mv.event.time n (runOf mv.before))
    rw [← hr] at i1
    have ho := againS_out mv.event.time (restartS x mv.event.time n (runOf mv.before))
    rw [restart_out, ← hr] at ho
    have hlS : n < (restartS x mv.event.time n (runOf mv.before)).cs.length := by unfold restartS; rw [stopS_len, setS_len]; show n < mv.before.children.l.length; omega
    obtain ⟨sn, hsn⟩ : ∃ d, (restartS x mv.event.time n (runOf mv.before)).cs[n]? = some d := ⟨_, List.getElem?_eq_getElem hlS⟩
    refine ⟨fun _ => ⟨n, again1 sn, h.child, hn, by rw [hr, againS_at, hsn]; rfl, fun _ => ?_⟩, fun a hma h3 => ?_, dlen, fun i d ch' hd hch hpol => ?_, fun e => by omega⟩
    · left
      rcases rest n c ch h n sn hsn with ⟨_, g⟩ | ⟨g, _⟩
      · simp [again1, g]
      · exact absurd rfl g
    · rw [ho] at hma
      rcases List.mem_append.1 hma with hma | hma
      · have hma : a ∈ stopOut mv.event.time (({ runOf mv.before with rs := recentL x mv.event.time (runOf mv.before).rs ++ [mv.event.time] } : RunSt).setS n 4).cs (affL x n) := hma
        have := stopOut_kind _ _ _ a hma
        omega
      · obtain ⟨_, _, _, i, d, g4, g5, g6⟩ := againOut_mem hma
        have hil := (List.getElem?_eq_some_iff.1 g5).1
        rw [Nat.zero_add] at g4
        rcases rest n c ch h i d g5 with ⟨rfl, _⟩ | ⟨hin, d0, k1, k2, k3⟩
        · exact ⟨i, ch, g4, h.hch, pol3 ch hq, affd i c ch h hw i (self i c ch h)⟩
        · have h4 : d0.status = 4 := by rcases k3 with k3 | k3 <;> omega
          have hb2 : mv.before.status = 2 := by
            rcases hst with e | e
            · exact absurd h4 (no24 e i d0 k1).2
            · exact e
          have hix := (List.getElem?_eq_some_iff.1 k1).1
          obtain ⟨ch', hch'⟩ : ∃ ch', x.children.l[i]? = some ch' := ⟨_, List.getElem?_eq_getElem (by omega)⟩
          exact ⟨i, ch', g4, hch', fun e => (hp.tmp i d0 ch' k1 hch' e).1 h4, old i (hp.due hb2 i d0 k1 (.inr h4))⟩
    · rw [hr, againS_at] at hd
      obtain ⟨d1, g1, g2⟩ := map_at hd
      rcases rest n c ch h i d1 g1 with ⟨rfl, _⟩ | ⟨hin, d0, k1, k2, k3⟩
      · rw [h.hch] at hch; cases hch
        exact absurd hpol (pol3 ch hq)
      · have ht := hp.tmp i d0 ch' k1 hch hpol
        have hd4 : d1.status ≠ 4 := by rcases k3 with k3 | k3 <;> omega
        subst g2
        unfold again1
        rw [if_neg hd4]
        exact ⟨hd4, by omega⟩
  | hold n c ch h hs hq hint hz hr hst hf =>
    have hw := wtd n c ch h hs hq
    have hn := (List.getElem?_eq_some_iff.1 h.hch).1
    have hcs : r'.cs = (restartS x mv.event.time n (runOf mv.before)).cs := by rw [hr]
    have hst' : r'.st = 2 := by rw [hr]
    have ho : r'.out = (restartS x mv.event.time n (runOf mv.before)).out := by rw [hr]
    rw [restart_out] at ho
    have hlS : n < (restartS x mv.event.time n (runOf mv.before)).cs.length := by unfold restartS; rw [stopS_len, setS_len]; show n < mv.before.children.l.length; omega
    obtain ⟨sn, hsn⟩ : ∃ d, (restartS x mv.event.time n (runOf mv.before)).cs[n]? = some d := ⟨_, List.getElem?_eq_getElem hlS⟩
    rw [hcs]
    refine ⟨fun _ => ⟨n, sn, h.child, hn, hsn, fun _ => ?_⟩, fun a hma h3 => ?_, dlen, fun i d ch' hd hch hpol => ?_, fun _ i d hd h24 => ?_⟩
    · right
      rcases rest n c ch h n sn hsn with ⟨_, g⟩ | ⟨g, _⟩
      · exact g
      · exact absurd rfl g
    · rw [ho] at hma
      have hma : a ∈ stopOut mv.event.time (({ runOf mv.before with rs := recentL x mv.event.time (runOf mv.before).rs ++ [mv.event.time] } : RunSt).setS n 4).cs (affL x n) := hma
      have := stopOut_kind _ _ _ a hma
      omega
    · rcases rest n c ch h i d hd with ⟨rfl, _⟩ | ⟨hin, d0, k1, k2, k3⟩
      · rw [h.hch] at hch; cases hch
        exact absurd hpol (pol3 ch hq)
      · have ht := hp.tmp i d0 ch' k1 hch hpol
        exact ⟨by rcases k3 with k3 | k3 <;> omega, by omega⟩
    · rw [dn (by omega)]
      rcases rest n c ch h i d hd with ⟨rfl, _⟩ | ⟨hin, d0, k1, k2, k3⟩
      · exact affd i c ch h hw i (self i c ch h)
      · rcases k3 with k3 | ⟨k3, k4⟩
        · have hb2 : mv.before.status = 2 := by
            rcases hst with e | e
            · have := no24 e i d0 k1; omega
            · exact e
          exact old i (hp.due hb2 i d0 k1 (by omega))
        · exact affd n c ch h hw i k4
  | wait n c ch h hs hz hr hst =>
    obtain ⟨j1, j2, j3, j4⟩ := stopping_rest n ch (runOf mv.before)
    have hwn := wtn n c ch h hs
    have hst' : r'.st = mv.before.status := by rw [hr]; exact j1
    have ho : r'.out = [] := by rw [hr, j4]; rfl
    rw [ho]
    refine ⟨fun e => (by rw [hwn] at e; cases e), fun a h => (by cases h), dlen, fun i d ch' hd hch hpol => ?_, fun h2 i d hd h24 => ?_⟩
    · rw [hr] at hd
      rcases stpp n c ch h i d hd with ⟨rfl, g2, g3⟩ | ⟨hin, g1⟩
      · rw [h.hch] at hch; cases hch
        have := hp.tmp i c ch h.hc h.hch hpol
        exact ⟨by rcases g3 with g3 | g3 <;> omega, by omega⟩
      · exact hp.tmp i d ch' g1 hch hpol
    · rw [dn (by omega), nd hwn]
      rw [hr] at hd
      rcases stpp n c ch h i d hd with ⟨rfl, g2, g3⟩ | ⟨hin, g1⟩
      · exact hp.due (by omega) i c h.hc (.inl hs)
      · exact hp.due (by omega) i d g1 h24
  | wake n c ch h hs hz hr hst hf =>
    have hwn := wtn n c ch h hs
    obtain ⟨i1, i2, i3⟩ := againS_rest mv.event.time (stopping1 n ch (runOf mv.before))
    obtain ⟨j1, j2, j3, j4⟩ := stopping_rest n ch (runOf mv.before)
    have ho := againS_out mv.event.time (stopping1 n ch (runOf mv.before))
    rw [← hr] at i1 ho
    rw [j4] at ho
    have ho : r'.out = againOut mv.event.time (stopping1 n ch (runOf mv.before)).cs 0 := ho
    refine ⟨fun e => (by rw [hwn] at e; cases e), fun a hma h3 => ?_, dlen, fun i d ch' hd hch hpol => ?_, fun e => by omega⟩
    · rw [ho] at hma
      obtain ⟨_, _, _, i, d, g4, g5, g6⟩ := againOut_mem hma
      rw [Nat.zero_add] at g4
      rcases stpp n c ch h i d g5 with ⟨rfl, g2, g3⟩ | ⟨hin, g1⟩
      · refine ⟨i, ch, g4, h.hch, ?_, old i (hp.due hst i c h.hc (.inl hs))⟩
        rcases g3 with g3 | g3
        · exact g3.2.2
        · omega
      · have hix := (List.getElem?_eq_some_iff.1 g1).1
        obtain ⟨ch', hch'⟩ : ∃ ch', x.children.l[i]? = some ch' := ⟨_, List.getElem?_eq_getElem (by omega)⟩
        exact ⟨i, ch', g4, hch', fun e => (hp.tmp i d ch' g1 hch' e).1 g6, old i (hp.due hst i d g1 (.inr g6))⟩
    · rw [hr, againS_at] at hd
      obtain ⟨d1, g1, g2⟩ := map_at hd
      have key : d1.status ≠ 4 ∧ d1.starts = 1 := by
        rcases stpp n c ch h i d1 g1 with ⟨rfl, k2, k3⟩ | ⟨hin, k1⟩
        · rw [h.hch] at hch; cases hch
          have := hp.tmp i c ch h.hc h.hch hpol
          exact ⟨by rcases k3 with k3 | k3 <;> omega, by omega⟩
        · exact hp.tmp i d1 ch' k1 hch hpol
      subst g2
      unfold again1
      rw [if_neg key.1]
      exact key
  | done n c ch h hs hz hr hst =>
    have hwn := wtn n c ch h hs
    obtain ⟨i1, i2, i3, i4, i5⟩ := stopped_rest mv.event.time (stopping1 n ch (runOf mv.before))
    obtain ⟨j1, j2, j3, j4⟩ := stopping_rest n ch (runOf mv.before)
    rw [← hr] at i1 i4 i5
    rw [j4] at i5
    have i5 : r'.out = if (stopping1 n ch (runOf mv.before)).fl = true then [⟨5, -1, 0, mv.event.time⟩] else [] := i5
    refine ⟨fun e => (by rw [hwn] at e; cases e), fun a hma h3 => ?_, dlen, fun i d ch' hd hch hpol => ?_, fun e => by omega⟩
    · rw [i5] at hma
      split at hma
      · have : a = ⟨5, -1, 0, mv.event.time⟩ := by simpa using hma
        subst this; simp at h3
      · cases hma
    · rw [i4] at hd
      rcases stpp n c ch h i d hd with ⟨rfl, k2, k3⟩ | ⟨hin, k1⟩
      · rw [h.hch] at hch; cases hch
        have := hp.tmp i c ch h.hc h.hch hpol
        exact ⟨by rcases k3 with k3 | k3 <;> omega, by omega⟩
      · exact hp.tmp i d ch' k1 hch hpol
  | asked hk hr hst hf =>
    have hst2 := (shut_inv hi.zero mv.event.time).2
    rw [← hr] at hst2
    have hwn : wantedB x mv = false := not_wanted hk
    obtain ⟨p1, p2⟩ := hshut _ hr rfl hst2 (fun i d hd => ⟨d, hd, rfl⟩)
    exact ⟨fun e => (by rw [hwn] at e; cases e), p1, p2⟩
  | still hk hr hst =>
    have hwn : wantedB x mv = false := not_wanted hk
    have h1 : r'.st = mv.before.status := by rw [hr]; rfl
    have h2 : r'.cs = mv.before.children.l := by rw [hr]; rfl
    have h3 : r'.out = [] := by rw [hr]; rfl
    rw [h3, h2, h1]
    exact ⟨fun e => (by rw [hwn] at e; cases e), fun a h => (by cases h), dlen, hp.tmp, fun e => by omega⟩
end
section
open Go Go.RowKit
set_option linter.unusedVariables false
set_option linter.unusedSimpArgs false
set_option maxRecDepth 10000
set_option maxHeartbeats 1000000
attribute [local irreducible] okV okC

theorem setB (B : List Bool) (i : Nat) (hi : i < B.length) (v : Bool) : setElem (B.map AV.bool) i 0 (.bool v) = some ((B.set i v).map AV.bool) := by
  simp [setElem, hi, List.map_set]
structure Due6 (x : Spec) (mv : Move) (N : Nat) (B : List Bool) (G : Heap) : Prop where
  g0 : G[0]? = some (.arr 0 4 false [x.av])
  g1 : G[1]? = some (.arr 0 1 false (B.map AV.bool))
  gN : G[N]? = some (.arr 0 13 false [mv.av])
  n2 : 2 ≤ N
theorem Due6.kept {x : Spec} {mv : Move} {N : Nat} {B : List Bool} {G H : Heap} (h : Due6 x mv N B G) (hk : Kept none G H) : Due6 x mv N B H := ⟨hk.get (by simp) h.g0, hk.get (by simp) h.g1, hk.get (by simp) h.gN, h.n2⟩
theorem Due6.set1 {x : Spec} {mv : Move} {N : Nat} {B : List Bool} {G : Heap} (h : Due6 x mv N B G) (C : List Bool) : Due6 x mv N C (G.set 1 (.arr 0 1 false (C.map AV.bool))) := by
  have hk := Kept.set 1 G (.arr 0 1 false (C.map AV.bool))
  have := h.n2
  exact ⟨hk.get (by simp) h.g0, List.getElem?_set_self (List.getElem?_eq_some_iff.1 h.g1).1, hk.get (by simp; omega) h.gN, h.n2⟩
theorem mark6 {x : Spec} (hx : x.children.l.length ≤ 1000) (m : Sl Move) {mv : Move} (k : Nat) (r : Sl Int) (hr : r.l.length ≤ 1000) (hin : ∀ a ∈ r.l, 0 ≤ a ∧ a < x.children.l.length) {N : Nat} {B : List Bool} {G : Heap} (hG : Due6 x mv N B G) (hB : B.length = x.children.l.length) :
    okC (W.loop [2, 7, 9, 33, 34, 35, 46, 47, 48] l6_2 [(2, .optr 0 0 0 0), (7, .osl 1 0 0 x.children.l.length), (9, .optr N 0 0 0), (33, Sl.av Move.av 13 m), (34, I m.l.length), (35, I k), (46, Sl.ints r), (47, I r.l.length), (48, I 0)] G)
      (fun y F G' => y = .exit 2 ∧ F.keep [2, 7, 9, 33, 34, 35] = [(2, .optr 0 0 0 0), (7, .osl 1 0 0 x.children.l.length), (9, .optr N 0 0 0), (33, Sl.av Move.av 13 m), (34, I m.l.length), (35, I k)] ∧ Due6 x mv N (markL B r.l) G') := by
  have hL := loop_fold (Φ := Φ) (live := [2, 7, 9, 33, 34, 35, 46, 47, 48]) (L := l6_2) r.l (σ := List Bool) (fun _ a s => s.set a.toNat true) (fun j s F G' => F = [(2, .optr 0 0 0 0), (7, .osl 1 0 0 x.children.l.length), (9, .optr N 0 0 0), (33, Sl.av Move.av 13 m), (34, I m.l.length), (35, I k), (46, Sl.ints r), (47, I r.l.length), (48, I j)] ∧ Due6 x mv N s G' ∧ s.length = x.children.l.length)
    (fun s y F G' => y = .exit 2 ∧ F.keep [2, 7, 9, 33, 34, 35] = [(2, .optr 0 0 0 0), (7, .osl 1 0 0 x.children.l.length), (9, .optr N 0 0 0), (33, Sl.av Move.av 13 m), (34, I m.l.length), (35, I k)] ∧ Due6 x mv N s G') (s := B) (F := [(2, .optr 0 0 0 0), (7, .osl 1 0 0 x.children.l.length), (9, .optr N 0 0 0), (33, Sl.av Move.av 13 m), (34, I m.l.length), (35, I k), (46, Sl.ints r), (47, I r.l.length), (48, I 0)]) (H := G) ⟨rfl, hG, hB⟩ ?_ ?_
  · rw [fold_fst (fun (a : Int) (s : List Bool) => s.set a.toNat true)] at hL
    exact hL
  · rintro j a s F G' hj ha ⟨rfl, h1, h2⟩
    have hw := wrap_succ (k := j) (by omega)
    have hr2 := hin a (List.mem_of_getElem? ha)
    obtain ⟨i, rfl⟩ : ∃ i : Nat, a = i := ⟨a.toNat, by omega⟩
    have hi : i < x.children.l.length := by omega
    have his : i < s.length := by omega
    have g1 := h1.g1
    have hset := setB s i his true
    have hfin := h1.set1 (s.set i true)
    rw [List.map_set] at hfin
    simp [evl6_2, b6_2, intBin, hj, ha, hw, g1, hi, his, hset, List.getElem?_cons_zero, -getElem?_pos]
    exact ⟨hfin, h2⟩
  · rintro s F G' ⟨rfl, h1, h2⟩
    simp [evl6_2, b6_2, intBin]
    exact h1
theorem acts6 {x : Spec} (hx : x.children.l.length ≤ 1000) (m : Sl Move) {mv : Move} (k : Nat) (acts : Sl Event) (hal : acts.l.length ≤ 1000) {N : Nat} {B : List Bool} {G : Heap} (hG : Due6 x mv N B G) (hB : B.length = x.children.l.length) (hok : ∀ a ∈ acts.l, a.kind = 3 → ∃ (i : Nat) (ch : Child), a.child = (i : Int) ∧ x.children.l[i]? = some ch ∧ ch.policy ≠ 3 ∧ B[i]? = some true) :
    okC (W.loop [2, 7, 9, 33, 34, 35, 78, 79, 80] l6_1 [(2, .optr 0 0 0 0), (7, .osl 1 0 0 x.children.l.length), (9, .optr N 0 0 0), (33, Sl.av Move.av 13 m), (34, I m.l.length), (35, I k), (78, Sl.av Event.av 4 acts), (79, I acts.l.length), (80, I 0)] G)
      (fun y F G' => y = .exit 4 ∧ F.keep [2, 7, 9, 33, 34, 35] = [(2, .optr 0 0 0 0), (7, .osl 1 0 0 x.children.l.length), (9, .optr N 0 0 0), (33, Sl.av Move.av 13 m), (34, I m.l.length), (35, I k)] ∧ Due6 x mv N B G') := by
  have hL := loop_fold (Φ := Φ) (live := [2, 7, 9, 33, 34, 35, 78, 79, 80]) (L := l6_1) acts.l (σ := Unit) (fun _ _ s => s) (fun j _ F G' => F = [(2, .optr 0 0 0 0), (7, .osl 1 0 0 x.children.l.length), (9, .optr N 0 0 0), (33, Sl.av Move.av 13 m), (34, I m.l.length), (35, I k), (78, Sl.av Event.av 4 acts), (79, I acts.l.length), (80, I j)] ∧ Due6 x mv N B G')
    (fun _ y F G' => y = .exit 4 ∧ F.keep [2, 7, 9, 33, 34, 35] = [(2, .optr 0 0 0 0), (7, .osl 1 0 0 x.children.l.length), (9, .optr N 0 0 0), (33, Sl.av Move.av 13 m), (34, I m.l.length), (35, I k)] ∧ Due6 x mv N B G') (s := ()) (F := [(2, .optr 0 0 0 0), (7, .osl 1 0 0 x.children.l.length), (9, .optr N 0 0 0), (33, Sl.av Move.av 13 m), (34, I m.l.length), (35, I k), (78, Sl.av Event.av 4 acts), (79, I acts.l.length), (80, I 0)]) (H := G) ⟨rfl, hG⟩ ?_ ?_
  · exact hL
  · rintro j a ⟨⟩ F G' hj ha ⟨rfl, h1⟩
    have hw := wrap_succ (k := j) (by omega)
    have hA : ∀ b c : Blk, (G' ++ [b]).set G'.length c = G' ++ [c] := fun b c => by simp
    have hlast : ∀ b : Blk, (G' ++ [b])[G'.length]? = some b := fun b => app_last G' b
    have hze : (.agg [I 0, I 0, I 0, I 0] : AV) = (⟨0, 0, 0, 0⟩ : Event).av := rfl
    have k0 : ∀ b : Blk, (G' ++ [b])[0]? = some (.arr 0 4 false [x.av]) := fun b => app_get h1.g0 b
    have k1 : ∀ b : Blk, (G' ++ [b])[1]? = some (.arr 0 1 false (B.map AV.bool)) := fun b => app_get h1.g1 b
    have hfin := h1.kept (Kept.append none G' [.arr 0 4 false [a.av]])
    by_cases h3 : a.kind = 3
    · obtain ⟨i, ch, e1, e2, e3, e4⟩ := hok a (List.mem_of_getElem? ha) h3
      have hi := (List.getElem?_eq_some_iff.1 e2).1
      simp [evl6_1, b6_1, intBin, hj, ha, hw, hA, hlast, hze, k0, k1, h3, e1, hi, e2, e3, e4, List.getElem?_cons_zero, -getElem?_pos]
      exact hfin
    · simp [evl6_1, b6_1, intBin, hj, ha, hw, hA, hlast, hze, k0, k1, h3, List.getElem?_cons_zero, -getElem?_pos]
      exact hfin
  · rintro ⟨⟩ F G' ⟨rfl, h1⟩
    simp [evl6_1, b6_1, intBin]
    exact h1
theorem kids6 {x : Spec} (m : Sl Move) (k : Nat) (cs : Sl ChildState) (hcl : cs.l.length ≤ 1000) {B : List Bool} {G : Heap} (g0 : G[0]? = some (.arr 0 4 false [x.av])) (g1 : G[1]? = some (.arr 0 1 false (B.map AV.bool))) (hl : cs.l.length = x.children.l.length) (hok : ∀ (i : Nat) (c : ChildState) (ch : Child), cs.l[i]? = some c → x.children.l[i]? = some ch → ch.policy = 3 → c.starts = 1) :
    okC (W.loop [2, 7, 33, 34, 35, 113, 114, 115] l6_0 [(2, .optr 0 0 0 0), (7, .osl 1 0 0 x.children.l.length), (33, Sl.av Move.av 13 m), (34, I m.l.length), (35, I k), (113, Sl.av ChildState.av 2 cs), (114, I cs.l.length), (115, I 0)] G)
      (fun y F G' => y = .exit 6 ∧ F.keep [2, 7, 33, 34, 35] = [(2, .optr 0 0 0 0), (7, .osl 1 0 0 x.children.l.length), (33, Sl.av Move.av 13 m), (34, I m.l.length), (35, I k)] ∧ G'[0]? = some (.arr 0 4 false [x.av]) ∧ G'[1]? = some (.arr 0 1 false (B.map AV.bool))) := by
  have hL := loop_fold (Φ := Φ) (live := [2, 7, 33, 34, 35, 113, 114, 115]) (L := l6_0) cs.l (σ := Unit) (fun _ _ s => s) (fun j _ F G' => F = [(2, .optr 0 0 0 0), (7, .osl 1 0 0 x.children.l.length), (33, Sl.av Move.av 13 m), (34, I m.l.length), (35, I k), (113, Sl.av ChildState.av 2 cs), (114, I cs.l.length), (115, I j)] ∧ G'[0]? = some (.arr 0 4 false [x.av]) ∧ G'[1]? = some (.arr 0 1 false (B.map AV.bool)))
    (fun _ y F G' => y = .exit 6 ∧ F.keep [2, 7, 33, 34, 35] = [(2, .optr 0 0 0 0), (7, .osl 1 0 0 x.children.l.length), (33, Sl.av Move.av 13 m), (34, I m.l.length), (35, I k)] ∧ G'[0]? = some (.arr 0 4 false [x.av]) ∧ G'[1]? = some (.arr 0 1 false (B.map AV.bool))) (s := ()) (F := [(2, .optr 0 0 0 0), (7, .osl 1 0 0 x.children.l.length), (33, Sl.av Move.av 13 m), (34, I m.l.length), (35, I k), (113, Sl.av ChildState.av 2 cs), (114, I cs.l.length), (115, I 0)]) (H := G) ⟨rfl, g0, g1⟩ ?_ ?_
  · exact hL
  · rintro j c ⟨⟩ F G' hj hc ⟨rfl, h0, h1⟩
    have hw := wrap_succ (k := j) (by omega)
    have hA : ∀ b c : Blk, (G' ++ [b]).set G'.length c = G' ++ [c] := fun b c => by simp
    have hlast : ∀ b : Blk, (G' ++ [b])[G'.length]? = some b := fun b => app_last G' b
    have k0 : ∀ b : Blk, (G' ++ [b])[0]? = some (.arr 0 4 false [x.av]) := fun b => app_get h0 b
    have k1 : ∀ b : Blk, (G' ++ [b])[1]? = some (.arr 0 1 false (B.map AV.bool)) := fun b => app_get h1 b
    have hz2 : (.agg [I 0, I 0] : AV) = (⟨0, 0⟩ : ChildState).av := rfl
    obtain ⟨ch, hch⟩ : ∃ ch, x.children.l[j]? = some ch := ⟨_, List.getElem?_eq_getElem (by omega)⟩
    by_cases h3 : ch.policy = 3
    · have hs := hok j c ch hc hch h3
      simp [evl6_0, b6_0, intBin, hj, hc, hw, hA, hlast, k0, k1, hz2, hch, h3, hs, List.getElem?_cons_zero, -getElem?_pos]
    · simp [evl6_0, b6_0, intBin, hj, hc, hw, hA, hlast, k0, k1, hz2, hch, h3, List.getElem?_cons_zero, -getElem?_pos]
  · rintro ⟨⟩ F G' ⟨rfl, h0, h1⟩
    simp [evl6_0, b6_0, intBin]
    exact ⟨h0, h1⟩
end
section
open Go Go.RowKit
set_option linter.unusedVariables false
set_option linter.unusedSimpArgs false
set_option maxRecDepth 10000
set_option maxHeartbeats 1000000
attribute [local irreducible] okV okC

theorem turn6 {x : Spec} (h0 : chk x = 0) (hn : ∀ c ∈ x.children.l, c.name.length ≤ 1000000) (m : Sl Move) (hm : Moves x m.l) (hml : m.l.length ≤ 40) {k : Nat} {mv : Move} (hk : k < m.l.length) (hmv : m.l[k]? = some mv) {G : Heap} {due : List Bool} (g0 : G[0]? = some (.arr 0 4 false [x.av])) (g1 : G[1]? = some (.arr 0 1 false (due.map AV.bool))) (hp0 : PolInv x (curSt x m.l k).1 (curSt x m.l k).2.1 due) :
    okC (evC W l6_3 [(2, .optr 0 0 0 0), (7, .osl 1 0 0 x.children.l.length), (33, Sl.av Move.av 13 m), (34, I m.l.length), (35, I k)] G) (fun y F' G' => y = .normal ∧ ∃ due', F'.keep [2, 7, 33, 34, 35] = [(2, .optr 0 0 0 0), (7, .osl 1 0 0 x.children.l.length), (33, Sl.av Move.av 13 m), (34, I m.l.length), (35, I (k + 1))] ∧ G'[0]? = some (.arr 0 4 false [x.av]) ∧ G'[1]? = some (.arr 0 1 false (due'.map AV.bool)) ∧ PolInv x (curSt x m.l (k + 1)).1 (curSt x m.l (k + 1)).2.1 due') := by
  have hlen := chk_len h0
  obtain ⟨ok, hnext⟩ := hm.at h0 hml hmv
  have good := hm.good k mv hmv
  have hbef := ok.before
  rw [← hbef] at hp0
  rw [hnext]
  have hp : PolInv x mv.before.status mv.before.children.l due := hp0
  simp only [State.core]
  obtain ⟨pA, pB, pC⟩ := policy_move h0 ok.inv ok.chk good.val rfl ok.after hp
  rw [← ok.acts] at pB
  have hw := wrap_succ (k := k) (by omega)
  have hbl := ok.inv.len
  simp only [runOf] at hbl
  have hsz := size_handle x mv.before mv.event
  have z1 := hsz.cs
  have z3 := hsz.out
  simp only [runOf, List.length_nil] at z1 z3
  rw [← ok.acts] at z3
  rw [← ok.after.cs] at z1
  have hA : ∀ b c : Blk, (G ++ [b]).set G.length c = G ++ [c] := fun b c => by simp
  have hlast : ∀ b : Blk, (G ++ [b])[G.length]? = some b := fun b => app_last G b
  have k0 : ∀ a : Blk, (G ++ [a])[0]? = some (.arr 0 4 false [x.av]) := fun a => app_get g0 a
  have h1l := (List.getElem?_eq_some_iff.1 g1).1
  have hzm : (.agg [I 0, .isl (some true) 0 [], .isl (some true) 0 [], .bool false, I 0, .isl (some true) 0 [], .isl (some true) 0 [], .bool false, I 0, I 0, I 0, I 0, .isl (some true) 0 []] : AV) = (⟨zeroState, zeroState, ⟨0, 0, 0, 0⟩, slNil⟩ : Move).av := rfl
  have c25 := e25 (x := x) (mv := mv) hbl ok.chk
  have hG0 : Due6 x mv G.length due (G ++ [.arr 0 13 false [mv.av]]) := ⟨k0 _, app_get g1 _, hlast _, by omega⟩
  cases hwt : wantedB x mv with
  | false =>
    rw [hwt] at c25
    have hdl : dueL x mv due = due := by unfold dueL; rw [hwt]; rfl
    have hG0 : Due6 x mv G.length (dueL x mv due) (G ++ [.arr 0 13 false [mv.av]]) := by rw [hdl]; exact hG0
    obtain ⟨y, F3, G3, d1, rfl, d2, d3⟩ := okC_iff.1 (acts6 (x := x) (by omega) m k mv.actions (by omega) hG0 (by rw [dueL_len]; exact hp.len) pB)
    simp only [keep_cons, keep_nil, List.cons.injEq, Prod.mk.injEq, true_and, and_true] at d2
    obtain ⟨j1, j2, j3, j4, j5, j6⟩ := d2
    by_cases hs1 : mv.after.status = 1
    · have hdn : dueN x mv due = List.replicate x.children.l.length false := by unfold dueN; rw [if_pos hs1]
      rw [hdn] at pC
      have hclr : ex G3 (.clr 1 (.bool false)) [.osl 1 0 0 x.children.l.length] = some (.tuple [], G3.set 1 (.arr 0 1 false ((List.replicate x.children.l.length false).map AV.bool))) := by
        have hbl : (dueL x mv due).length = x.children.l.length := by rw [dueL_len]; exact hp.len
        simp [ex, d3.g1, hbl, List.drop_eq_nil_of_le]
        intro e; rw [e] at hlen; simp at hlen
      have d4 := d3.set1 (List.replicate x.children.l.length false)
      obtain ⟨y, F4, G4, q1, rfl, q2, q3, q4⟩ := okC_iff.1 (kids6 m k mv.after.children (by omega) d4.g0 d4.g1 (by omega) (fun i c ch a b e => (pC.tmp i c ch a b e).2))
      simp only [keep_cons, keep_nil, List.cons.injEq, Prod.mk.injEq, true_and, and_true] at q2
      obtain ⟨u1, u2, u3, u4, u5⟩ := q2
      have d4N := d4.gN
      rw [List.map_replicate] at hclr q1 d4N
      simp [evl6_3, b6_3, intBin, hk, hmv, hw, hA, hzm, k0, hlast, List.getElem?_cons_zero, -getElem?_pos, c25, hbl, d1, j1, j2, j3, j4, j5, j6, d3.gN, hs1, hclr, d4N, q1, u1, u2, u3, u4, u5]
      rw [hs1] at pC
      exact ⟨q3, _, q4, pC⟩
    · have hdn : dueN x mv due = dueL x mv due := by unfold dueN; rw [if_neg hs1]
      rw [hdn] at pC
      obtain ⟨y, F4, G4, q1, rfl, q2, q3, q4⟩ := okC_iff.1 (kids6 m k mv.after.children (by omega) d3.g0 d3.g1 (by omega) (fun i c ch a b e => (pC.tmp i c ch a b e).2))
      simp only [keep_cons, keep_nil, List.cons.injEq, Prod.mk.injEq, true_and, and_true] at q2
      obtain ⟨u1, u2, u3, u4, u5⟩ := q2
      simp [evl6_3, b6_3, intBin, hk, hmv, hw, hA, hzm, k0, hlast, List.getElem?_cons_zero, -getElem?_pos, c25, hbl, d1, j1, j2, j3, j4, j5, j6, d3.gN, hs1, q1, u1, u2, u3, u4, u5]
      exact ⟨q3, _, q4, pC⟩
  | true =>
    rw [hwt] at c25
    obtain ⟨n, c', a1, a2, a3, a4⟩ := pA hwt
    obtain ⟨r, c26, hrl⟩ := e26 x hn (by omega) mv.event.child
    have hrr : ∀ a ∈ r.l, 0 ≤ a ∧ a < x.children.l.length := by
      rw [hrl]
      intro a ha
      unfold affAll at ha
      split at ha
      · exact affL_in x _ a ha
      · cases ha
    have hrn : r.l.length ≤ 1000 := by
      rw [hrl]; unfold affAll; split
      · have := affL_len x mv.event.child; omega
      · simp
    obtain ⟨y, F2, G2, e1, rfl, e2, e3⟩ := okC_iff.1 (mark6 (x := x) (by omega) m k r hrn hrr hG0 hp.len)
    simp only [keep_cons, keep_nil, List.cons.injEq, Prod.mk.injEq, true_and, and_true] at e2
    obtain ⟨f1, f2, f3, f4, f5, f6⟩ := e2
    have hdl : markL due r.l = dueL x mv due := by unfold dueL; rw [if_pos hwt, hrl]
    rw [hdl] at e3
    rw [a1] at c26
    have a6 : mv.after.status < 3 → ¬ c'.status = 1 → c'.status = 4 := fun h h' => by rcases a4 h with h2 | h2; exact absurd h2 h'; exact h2
    have a5 : ¬ mv.after.status < 3 ∨ c'.status = 1 ∨ c'.status = 4 := by
      by_cases h : mv.after.status < 3
      · exact .inr (a4 h)
      · exact .inl h
    obtain ⟨y, F3, G3, d1, rfl, d2, d3⟩ := okC_iff.1 (acts6 (x := x) (by omega) m k mv.actions (by omega) e3 (by rw [dueL_len]; exact hp.len) pB)
    simp only [keep_cons, keep_nil, List.cons.injEq, Prod.mk.injEq, true_and, and_true] at d2
    obtain ⟨j1, j2, j3, j4, j5, j6⟩ := d2
    by_cases hs1 : mv.after.status = 1
    · have hdn : dueN x mv due = List.replicate x.children.l.length false := by unfold dueN; rw [if_pos hs1]
      rw [hdn] at pC
      have hclr : ex G3 (.clr 1 (.bool false)) [.osl 1 0 0 x.children.l.length] = some (.tuple [], G3.set 1 (.arr 0 1 false ((List.replicate x.children.l.length false).map AV.bool))) := by
        have hbl : (dueL x mv due).length = x.children.l.length := by rw [dueL_len]; exact hp.len
        simp [ex, d3.g1, hbl, List.drop_eq_nil_of_le]
        intro e; rw [e] at hlen; simp at hlen
      have d4 := d3.set1 (List.replicate x.children.l.length false)
      obtain ⟨y, F4, G4, q1, rfl, q2, q3, q4⟩ := okC_iff.1 (kids6 m k mv.after.children (by omega) d4.g0 d4.g1 (by omega) (fun i c ch a b e => (pC.tmp i c ch a b e).2))
      simp only [keep_cons, keep_nil, List.cons.injEq, Prod.mk.injEq, true_and, and_true] at q2
      obtain ⟨u1, u2, u3, u4, u5⟩ := q2
      have d4N := d4.gN
      rw [List.map_replicate] at hclr q1 d4N
      simp [evl6_3, b6_3, intBin, hk, hmv, hw, hA, hzm, k0, hlast, List.getElem?_cons_zero, -getElem?_pos, c25, c26, e1, f1, f2, f3, f4, f5, f6, e3.gN, a1, a3, a5, d1, j1, j2, j3, j4, j5, j6, d3.gN, hs1, hclr, d4N, q1, u1, u2, u3, u4, u5]
      rw [hs1] at pC
      exact ⟨fun h => a6 (by omega) h, q3, _, q4, pC⟩
    · have hdn : dueN x mv due = dueL x mv due := by unfold dueN; rw [if_neg hs1]
      rw [hdn] at pC
      obtain ⟨y, F4, G4, q1, rfl, q2, q3, q4⟩ := okC_iff.1 (kids6 m k mv.after.children (by omega) d3.g0 d3.g1 (by omega) (fun i c ch a b e => (pC.tmp i c ch a b e).2))
      simp only [keep_cons, keep_nil, List.cons.injEq, Prod.mk.injEq, true_and, and_true] at q2
      obtain ⟨u1, u2, u3, u4, u5⟩ := q2
      simp [evl6_3, b6_3, intBin, hk, hmv, hw, hA, hzm, k0, hlast, List.getElem?_cons_zero, -getElem?_pos, c25, c26, e1, f1, f2, f3, f4, f5, f6, e3.gN, a1, a3, a5, d1, j1, j2, j3, j4, j5, j6, d3.gN, hs1, q1, u1, u2, u3, u4, u5]
      exact ⟨a6, q3, _, q4, pC⟩
theorem law6 (x : Spec) (hx : x.wf) (l : Sl Happening) (hl : SlOk Happening.wf l) : W.pure 6 [x.av, Sl.av Happening.av 4 l] = some (.bool true) := by
  have h12 := e12
  have h21 := e21 x
  rw [W_pure Φ6 (by simp)]
  cases hf : fineB x with
  | false => rw [hf] at h21; simp [fi6, c6, evFun, enterFr, intBin, resV, rvVs, rvV, h21, h12]
  | true =>
    rw [hf] at h21
    obtain ⟨h0, hx18, hn⟩ := fine_facts hf
    obtain ⟨v, h22, m, rfl, hm, hml⟩ := e22 h0 hn l hl.all (by have := hl.len; unfold maxLen at this; omega)
    have hstart : PolInv x (curSt x m.l 0).1 (curSt x m.l 0).2.1 (List.replicate x.children.l.length false) := by
      refine ⟨by simp, fun i c ch hc hch hp => ?_, fun e => by cases e⟩
      have := List.mem_of_getElem? hc
      have := (List.mem_replicate.1 this).2
      subst this
      simp [start1]
    have hL := loop_fold (Φ := Φ) (live := [2, 7, 33, 34, 35]) (L := l6_3) m.l (σ := Unit) (fun _ _ s => s) (fun k _ F G => F = [(2, .optr 0 0 0 0), (7, .osl 1 0 0 x.children.l.length), (33, Sl.av Move.av 13 m), (34, I m.l.length), (35, I k)] ∧ G[0]? = some (.arr 0 4 false [x.av]) ∧ ∃ due : List Bool, G[1]? = some (.arr 0 1 false (due.map AV.bool)) ∧ PolInv x (curSt x m.l k).1 (curSt x m.l k).2.1 due)
      (fun _ y F G => y = .exit 0) (s := ()) (F := [(2, .optr 0 0 0 0), (7, .osl 1 0 0 x.children.l.length), (33, Sl.av Move.av 13 m), (34, I m.l.length), (35, I 0)]) (H := [.arr 0 4 false [x.av], .arr 0 1 false (List.replicate x.children.l.length (AV.bool false))]) ⟨rfl, rfl, List.replicate x.children.l.length false, by simp, hstart⟩ ?_ ?_
    · obtain ⟨y, F', G', d1, rfl⟩ := okC_iff.1 hL
      have hsz : (x.children.l.length : Int) ≤ 1048576 := by omega
      simp [fi6, c6, evFun, enterFr, intBin, resV, rvVs, rvV, h21, h12, h22, hsz, d1]
    · rintro k mv ⟨⟩ F G hk hmv ⟨rfl, g0, due, g1, hp⟩
      obtain ⟨y, F', G', d1, rfl, due', d2, d3, d4, d5⟩ := okC_iff.1 (turn6 h0 hn m hm hml hk hmv g0 g1 hp)
      rw [show Fr.keep [(2, .optr 0 0 0 0), (7, .osl 1 0 0 x.children.l.length), (33, Sl.av Move.av 13 m), (34, I m.l.length), (35, I k)] [2, 7, 33, 34, 35] = [(2, .optr 0 0 0 0), (7, .osl 1 0 0 x.children.l.length), (33, Sl.av Move.av 13 m), (34, I m.l.length), (35, I k)] from rfl, d1]
      exact okC_iff.2 ⟨_, _, _, rfl, rfl, d2, d3, due', d4, d5⟩
    · rintro ⟨⟩ F G ⟨rfl, g0, due, g1, hp⟩
      simp [evl6_3, b6_3, intBin]
end
end Go.Proofs.Ythenmgpbcmlhoaa
