/-
  What the handlers do, child by child; their actions (conditions: none). What Handle makes of a valid state is valid; the actions (conditions: none). A valid state stays valid (conditions: none). Handle keeps states valid (conditions: none). What Play returns: the moves, in plain words (conditions: none). Play, as the laws have it (conditions: none). The ways through Handle; the law SupervisorShutdown in plain words (conditions: none). The law SupervisorShutdown: it is true (conditions: readings of the arguments). The law SupervisorIntensity: it is true (conditions: readings of the arguments). The law SupervisorIntensity, run (conditions: readings of the arguments).
-/
import Derived.Test.YthenmgpbcmlhoaaFD
namespace Go.Proofs.Ythenmgpbcmlhoaa
section
open Go Go.RowKit
set_option linter.unusedVariables false
set_option linter.unusedSimpArgs false
set_option maxRecDepth 10000

def ChildState.to (c : ChildState) (st : Int) : ChildState := { c with status := st }
@[simp] theorem to_status (c : ChildState) (st : Int) : (c.to st).status = st := rfl
@[simp] theorem to_starts (c : ChildState) (st : Int) : (c.to st).starts = c.starts := rfl
theorem setS_at (r : RunSt) (k : Nat) (st : Int) (i : Nat) : (r.setS k st).cs[i]? = r.cs[i]?.map fun c => if i = k then c.to st else c := by
  unfold RunSt.setS
  cases hk : r.cs[k]? with
  | none =>
    simp only
    by_cases h : i = k
    · subst h; rw [hk]; rfl
    · simp only [if_neg h, Option.map_id_fun', id]
  | some c =>
    simp only
    by_cases h : i = k
    · subst h
      rw [List.getElem?_set_self (List.getElem?_eq_some_iff.1 hk).1, hk]
      simp [ChildState.to]
    · rw [List.getElem?_set_ne (fun e => h e.symm)]
      simp only [if_neg h, Option.map_id_fun', id]
theorem setS_rs (r : RunSt) (k : Nat) (st : Int) : (r.setS k st).rs = r.rs := by unfold RunSt.setS; split <;> rfl
theorem map_at {α β : Type} {o : Option α} {f : α → β} {y : β} (h : o.map f = some y) : ∃ x, o = some x ∧ f x = y := by
  cases o with
  | none => cases h
  | some x => exact ⟨x, rfl, by simpa using h⟩
/-- A fold over the children, one step a child. -/
theorem fold_at (step : Nat → RunSt → RunSt) (f : ChildState → ChildState) (hs : ∀ k s i, (step k s).cs[i]? = s.cs[i]?.map fun c => if i = k then f c else c) : ∀ (l : List ChildState) (j : Nat) (s : RunSt) (i : Nat), ((l.zipIdx j).foldl (fun s a => step a.2 s) s).cs[i]? = s.cs[i]?.map fun c => if j ≤ i ∧ i < j + l.length then f c else c := by
  intro l
  induction l with
  | nil => intro j s i; simp [show ¬ (j ≤ i ∧ i < j) by omega]
  | cons a l ih =>
    intro j s i
    simp only [List.zipIdx_cons, List.foldl_cons, List.length_cons]
    rw [ih, hs, Option.map_map]
    congr 1
    funext c
    simp only [Function.comp]
    by_cases h1 : i = j
    · subst h1
      rw [if_pos rfl, if_neg (by omega), if_pos (by omega)]
    · rw [if_neg h1]
      by_cases h2 : j + 1 ≤ i ∧ i < j + 1 + l.length
      · rw [if_pos h2, if_pos (by omega)]
      · rw [if_neg h2, if_neg (by omega)]
theorem at_lt {l : List ChildState} {i : Nat} {f : ChildState → ChildState} : (l[i]?.map fun c => if 0 ≤ i ∧ i < 0 + l.length then f c else c) = l[i]?.map f := by
  cases h : l[i]? with
  | none => rfl
  | some c =>
    have := (List.getElem?_eq_some_iff.1 h).1
    simp [this]
def again1 (c : ChildState) : ChildState := if c.status = 4 then ⟨1, IntKind.wrap .i64 (c.starts + 1)⟩ else c
def hold1 (c : ChildState) : ChildState := if c.status = 4 then c.to 3 else c
theorem stepAgain_at (tm : Int) (k : Nat) (s : RunSt) (i : Nat) : (stepAgain tm k s).cs[i]? = s.cs[i]?.map fun c => if i = k then again1 c else c := by
  unfold stepAgain
  cases hk : s.cs[k]? with
  | none =>
    simp only
    by_cases h : i = k
    · subst h; rw [hk]; rfl
    · simp only [if_neg h, Option.map_id_fun', id]
  | some c =>
    simp only
    by_cases h4 : c.status = 4
    · rw [if_pos h4]
      simp only [RunSt.act]
      by_cases h : i = k
      · subst h
        rw [List.getElem?_set_self (List.getElem?_eq_some_iff.1 hk).1, hk]
        simp [again1, h4]
      · rw [List.getElem?_set_ne (fun e => h e.symm)]
        simp only [if_neg h, Option.map_id_fun', id]
    · rw [if_neg h4]
      by_cases h : i = k
      · subst h; rw [hk]; simp [again1, h4]
      · simp only [if_neg h, Option.map_id_fun', id]
theorem stepShut_at (k : Nat) (s : RunSt) (i : Nat) : (stepShut k s).cs[i]? = s.cs[i]?.map fun c => if i = k then hold1 c else c := by
  unfold stepShut
  cases hk : s.cs[k]? with
  | none =>
    simp only
    by_cases h : i = k
    · subst h; rw [hk]; rfl
    · simp only [if_neg h, Option.map_id_fun', id]
  | some c =>
    simp only
    by_cases h4 : c.status = 4
    · rw [if_pos h4, setS_at]
      by_cases h : i = k
      · subst h; rw [hk]; simp [hold1, h4]
      · simp only [if_neg h]
    · rw [if_neg h4]
      by_cases h : i = k
      · subst h; rw [hk]; simp [hold1, h4]
      · simp only [if_neg h, Option.map_id_fun', id]
theorem againS_at (tm : Int) (r : RunSt) (i : Nat) : (againS tm r).cs[i]? = r.cs[i]?.map again1 := by
  unfold againS
  simp only
  rw [fold_at (stepAgain tm) again1 (stepAgain_at tm), at_lt]
theorem holdS_at (r : RunSt) (i : Nat) : (holdS r).cs[i]? = r.cs[i]?.map hold1 := by
  unfold holdS
  rw [fold_at stepShut hold1 stepShut_at, at_lt]
def stop1 (l : List Int) (i : Nat) (c : ChildState) : ChildState := if (i : Int) ∈ l ∧ c.status = 1 then c.to 2 else c
theorem stopS_at (tm : Int) : ∀ (l : List Int) (r : RunSt) (hl : ∀ a ∈ l, 0 ≤ a) (i : Nat), (stopS tm l r).cs[i]? = r.cs[i]?.map (stop1 l i) := by
  intro l
  induction l with
  | nil =>
    intro r hl i
    have : stop1 [] i = id := by funext c; simp [stop1]
    rw [this]; simp [stopS]
  | cons a l ih =>
    intro r hl i
    have ih' := ih r (fun b hb => hl b (by simp [hb]))
    have ha := hl a (by simp)
    show (stepStop tm a (stopS tm l r)).cs[i]? = _
    unfold stepStop
    cases hk : (stopS tm l r).cs[a.toNat]? with
    | none =>
      simp only
      rw [ih']
      cases hi : r.cs[i]? with
      | none => rfl
      | some c =>
        have hne : (i : Int) ≠ a := by
          rintro rfl
          rw [ih'] at hk
          simp [hi] at hk
        simp [stop1, hne]
    | some c =>
      simp only
      by_cases h1 : c.status = 1
      · rw [if_pos h1]
        simp only [RunSt.act]
        by_cases h : i = a.toNat
        · subst h
          rw [List.getElem?_set_self (List.getElem?_eq_some_iff.1 hk).1]
          rw [ih'] at hk
          obtain ⟨c0, h2, h3⟩ := map_at hk
          rw [h2]
          have hm : ((a.toNat : Nat) : Int) = a := by omega
          unfold stop1 at h3
          rw [hm] at h3
          split at h3
          · rename_i h4
            rw [← h3] at h1
            simp at h1
          · subst h3
            simp [stop1, hm, h1, ChildState.to]
        · rw [List.getElem?_set_ne (fun e => h e.symm), ih']
          have hne : (i : Int) ≠ a := by omega
          congr 1
          funext c
          simp [stop1, hne]
      · rw [if_neg h1, ih']
        cases hi : r.cs[i]? with
        | none => rfl
        | some c0 =>
          by_cases h : i = a.toNat
          · subst h
            rw [ih', hi] at hk
            simp only [Option.map_some, Option.some.injEq] at hk ⊢
            have hm : ((a.toNat : Nat) : Int) = a := by omega
            rw [← hk] at h1
            unfold stop1 at h1 ⊢
            rw [hm] at h1 ⊢
            by_cases h5 : c0.status = 1
            · by_cases h6 : a ∈ l
              · simp [h5, h6]
              · simp [h5, h6] at h1
            · simp [h5]
          · have hne : (i : Int) ≠ a := by omega
            simp [stop1, hne]
theorem fold_st (step : Nat → RunSt → RunSt) (g : RunSt → Int × List Int × Bool) (hs : ∀ k s, g (step k s) = g s) : ∀ (l : List (ChildState × Nat)) (s : RunSt), g (l.foldl (fun s a => step a.2 s) s) = g s := by
  intro l
  induction l with
  | nil => intro s; rfl
  | cons a l ih => intro s; rw [List.foldl_cons, ih, hs]
def RunSt.rest (r : RunSt) : Int × List Int × Bool := (r.st, r.rs, r.fl)
theorem setS_rest (r : RunSt) (k : Nat) (st : Int) : (r.setS k st).rest = r.rest := by unfold RunSt.setS; split <;> rfl
theorem stepAgain_rest (tm : Int) (k : Nat) (s : RunSt) : (stepAgain tm k s).rest = s.rest := by
  unfold stepAgain; split
  · split <;> rfl
  · rfl
theorem stepShut_rest (k : Nat) (s : RunSt) : (stepShut k s).rest = s.rest := by
  unfold stepShut; split
  · split
    · exact setS_rest _ _ _
    · rfl
  · rfl
theorem stepStop_rest (tm i : Int) (s : RunSt) : (stepStop tm i s).rest = s.rest := by
  unfold stepStop; split
  · split <;> rfl
  · rfl
theorem holdS_rest (r : RunSt) : (holdS r).rest = r.rest := fold_st stepShut RunSt.rest stepShut_rest _ _
theorem stopS_rest (tm : Int) (l : List Int) (r : RunSt) : (stopS tm l r).rest = r.rest := by
  induction l with
  | nil => rfl
  | cons a l ih => show (stepStop tm a (stopS tm l r)).rest = _; rw [stepStop_rest, ih]
theorem againS_rest (tm : Int) (r : RunSt) : (againS tm r).st = 1 ∧ (againS tm r).rs = r.rs ∧ (againS tm r).fl = r.fl := by
  have := fold_st (stepAgain tm) RunSt.rest (stepAgain_rest tm) r.cs.zipIdx r
  simp only [RunSt.rest, Prod.mk.injEq] at this
  exact ⟨rfl, this.2.1, this.2.2⟩
theorem stopped_rest (tm : Int) (r : RunSt) : (r.stopped tm).st = 4 ∧ (r.stopped tm).rs = r.rs ∧ (r.stopped tm).fl = r.fl ∧ (r.stopped tm).cs = r.cs ∧ (r.stopped tm).out = r.out ++ (if r.fl = true then [⟨5, -1, 0, tm⟩] else []) := by
  unfold RunSt.stopped
  split
  · simp [RunSt.act]
  · simp
/-- Is there a child of this status? -/
def Has (l : List ChildState) (st : Int) : Prop := ∃ (i : Nat) (c : ChildState), l[i]? = some c ∧ c.status = st
theorem cnt_pos {l : List ChildState} {st : Int} : 0 < cnt l st ↔ Has l st := by
  unfold cnt Has
  rw [List.length_pos_iff_exists_mem]
  constructor
  · rintro ⟨c, hc⟩
    obtain ⟨h1, h2⟩ := List.mem_filter.1 hc
    obtain ⟨i, hi⟩ := List.getElem?_of_mem h1
    exact ⟨i, c, hi, by simpa using h2⟩
  · rintro ⟨i, c, h1, h2⟩
    exact ⟨c, List.mem_filter.2 ⟨List.mem_of_getElem? h1, by simpa using h2⟩⟩
theorem cnt_zero {l : List ChildState} {st : Int} : cnt l st = 0 ↔ ¬ Has l st := by
  rw [← cnt_pos]; omega
end
section
open Go Go.RowKit
set_option linter.unusedVariables false
set_option linter.unusedSimpArgs false
set_option maxRecDepth 10000

/-- The actions of a fold over the children. -/
def againOut (tm : Int) (cs : List ChildState) (j : Nat) : List Event := (cs.zipIdx j).filterMap fun a => if a.1.status = 4 then some ⟨3, a.2, 0, tm⟩ else none
theorem again_out (tm : Int) : ∀ (l : List ChildState) (j : Nat) (s : RunSt), (∀ i c, l[i]? = some c → s.cs[j + i]? = some c) → ((l.zipIdx j).foldl (fun s a => stepAgain tm a.2 s) s).out = s.out ++ againOut tm l j := by
  intro l
  induction l with
  | nil => intro j s h; simp [againOut]
  | cons a l ih =>
    intro j s h
    have h0 := h 0 a rfl
    simp only [Nat.add_zero] at h0
    simp only [List.zipIdx_cons, List.foldl_cons, againOut, List.filterMap_cons]
    rw [ih]
    · unfold stepAgain
      rw [h0]
      simp only
      by_cases h4 : a.status = 4
      · simp [h4, RunSt.act, againOut]
      · simp [h4, againOut]
    · intro i c hc
      have := h (i + 1) c (by simpa using hc)
      rw [stepAgain_at, show j + 1 + i = j + (i + 1) by omega, this]
      simp
theorem againS_out (tm : Int) (r : RunSt) : (againS tm r).out = r.out ++ againOut tm r.cs 0 := by
  unfold againS
  exact again_out tm r.cs 0 r (fun i c h => by simpa using h)
theorem fold_out (step : Nat → RunSt → RunSt) (hs : ∀ k s, (step k s).out = s.out) : ∀ (l : List (ChildState × Nat)) (s : RunSt), (l.foldl (fun s a => step a.2 s) s).out = s.out := by
  intro l
  induction l with
  | nil => intro s; rfl
  | cons a l ih => intro s; rw [List.foldl_cons, ih, hs]
theorem holdS_out (r : RunSt) : (holdS r).out = r.out := fold_out stepShut (fun k s => by
  unfold stepShut; split
  · split
    · exact setS_out _ _ _
    · rfl
  · rfl) _ _
def stopEv (tm : Int) (cs : List ChildState) (a : Int) : Option Event := match cs[a.toNat]? with | some c => if c.status = 1 then some ⟨4, a, 0, tm⟩ else none | none => none
def stopOut (tm : Int) (cs : List ChildState) (l : List Int) : List Event := l.reverse.filterMap (stopEv tm cs)
theorem stopS_out' (tm : Int) : ∀ (l : List Int) (r : RunSt) (hl : ∀ a ∈ l, 0 ≤ a) (hd : l.Nodup), (stopS tm l r).out = r.out ++ stopOut tm r.cs l := by
  intro l
  induction l with
  | nil => intro r _ _; simp [stopS, stopOut]
  | cons a l ih =>
    intro r hl hd
    have ih' := ih r (fun b hb => hl b (by simp [hb])) (List.nodup_cons.1 hd).2
    have hnot := (List.nodup_cons.1 hd).1
    have ha := hl a (by simp)
    have hat := stopS_at tm l r (fun b hb => hl b (by simp [hb])) a.toNat
    have hm : ((a.toNat : Nat) : Int) = a := by omega
    show (stepStop tm a (stopS tm l r)).out = _
    have hso : stopOut tm r.cs (a :: l) = stopOut tm r.cs l ++ (stopEv tm r.cs a).toList := by
      simp only [stopOut, List.reverse_cons, List.filterMap_append, List.filterMap_cons, List.filterMap_nil]
      cases stopEv tm r.cs a <;> rfl
    rw [hso, ← List.append_assoc, ← ih']
    unfold stepStop stopEv
    cases hc : r.cs[a.toNat]? with
    | none => rw [hat, hc]; simp
    | some c =>
      rw [hat, hc]
      simp only [Option.map_some]
      have : stop1 l a.toNat c = c := by
        unfold stop1
        rw [hm, if_neg (fun h => hnot h.1)]
      rw [this]
      by_cases h1 : c.status = 1
      · simp [h1, RunSt.act]
      · simp [h1]
/-- The children that a child affects, in ascending order. -/
theorem affF_sorted (s child : Int) : ∀ (n i : Nat), (affF s child n i).Pairwise (· < ·) := by
  intro n
  induction n with
  | zero => intro i; exact List.Pairwise.nil
  | succ n ih =>
    intro i
    unfold affF
    split
    · refine List.Pairwise.cons (fun j hj => ?_) (ih (i + 1))
      have := affF_in s child n (i + 1) j hj
      omega
    · exact ih (i + 1)
theorem affF_mem (s child : Int) : ∀ (n i : Nat) (j : Nat), (j : Int) ∈ affF s child n i ↔ i ≤ j ∧ j < i + n ∧ affP s child j = true := by
  intro n
  induction n with
  | zero => intro i j; simp [affF]; omega
  | succ n ih =>
    intro i j
    unfold affF
    split
    · rename_i h
      rw [List.mem_cons, ih]
      constructor
      · rintro (h1 | ⟨h1, h2, h3⟩)
        · have : j = i := by omega
          subst this; exact ⟨by omega, by omega, h⟩
        · exact ⟨by omega, by omega, h3⟩
      · rintro ⟨h1, h2, h3⟩
        by_cases h4 : j = i
        · subst h4; exact .inl rfl
        · exact .inr ⟨by omega, by omega, h3⟩
    · rename_i h
      rw [ih]
      constructor
      · rintro ⟨h1, h2, h3⟩; exact ⟨by omega, by omega, h3⟩
      · rintro ⟨h1, h2, h3⟩
        by_cases h4 : j = i
        · subst h4; exact absurd h3 h
        · exact ⟨by omega, by omega, h3⟩
theorem affL_nodup (x : Spec) (child : Int) : (affL x child).Nodup := (affF_sorted _ _ _ _).imp fun h => by omega
theorem affL_nn (x : Spec) (child : Int) : ∀ a ∈ affL x child, 0 ≤ a := fun a h => (affL_in x child a h).1
theorem idxs_nn (n : Nat) : ∀ a ∈ idxs n, 0 ≤ a := fun a h => (idxs_in h).1
theorem idxs_mem (n j : Nat) : (j : Int) ∈ idxs n ↔ j < n := by
  simp only [idxs, List.mem_map, List.mem_range]
  constructor
  · rintro ⟨k, h1, h2⟩; omega
  · intro h; exact ⟨j, h, rfl⟩
theorem idxs_sorted (n : Nat) : (idxs n).Pairwise (· < ·) := by
  unfold idxs
  rw [List.pairwise_map]
  exact List.pairwise_lt_range.imp fun h => by omega
theorem idxs_nodup (n : Nat) : (idxs n).Nodup := (idxs_sorted n).imp fun h => by omega
end
section
open Go Go.RowKit
set_option linter.unusedVariables false
set_option linter.unusedSimpArgs false
set_option maxRecDepth 10000

def Fit (x : Spec) (st : Int) (cs : List ChildState) : Prop :=
  (st = 1 ∧ ¬ Has cs 2 ∧ ¬ Has cs 4) ∨ (st = 2 ∧ x.strategy ≠ 1 ∧ Has cs 2 ∧ Has cs 4) ∨ (st = 3 ∧ Has cs 2 ∧ ¬ Has cs 1 ∧ ¬ Has cs 4) ∨ (st = 4 ∧ ¬ Has cs 1 ∧ ¬ Has cs 2 ∧ ¬ Has cs 4)
theorem fits_iff {x : Spec} {s : State} : fitsB x s = true ↔ Fit x s.status s.children.l := by
  unfold fitsB Fit
  simp only [← cnt_pos]
  by_cases h1 : s.status = 1
  · simp [h1]
  · by_cases h2 : s.status = 2
    · simp [h1, h2, and_assoc]
    · by_cases h3 : s.status = 3
      · simp [h1, h2, h3, and_assoc]
      · simp [h1, h2, h3, and_assoc]
def TimesP (l : List Int) (win : Int) : Prop := l.Pairwise (· ≤ ·) ∧ ∀ t ∈ l, 0 ≤ t ∧ t ≤ 1099511627776 ∧ lastI l - win < t
theorem times_iff {l : List Int} {win : Int} (hw : 1 ≤ win ∧ win ≤ 1099511627776) : timesB l win = true ↔ TimesP l win := by
  have step : timesB l win = true ↔ ∀ j t, l[j]? = some t → badTime l win j t = false := by
    unfold timesB
    rcases foldE_unit (timeStep l win) l 0 with ⟨g1, g2⟩ | ⟨j, a, y, g1, g2, g3, g4⟩
    · rw [g1]
      simp only [true_iff]
      intro j t hj
      have := g2 j t hj
      unfold timeStep at this
      split at this
      · cases this
      · have h9 : ¬ badTime l win (0 + j) t = true := ‹_›
        rw [Nat.zero_add] at h9
        simpa using h9
    · rw [g3]
      simp only [Bool.false_eq_true, false_iff]
      intro h
      have := h j a g1
      unfold timeStep at g2
      rw [Nat.zero_add, this] at g2
      simp at g2
  rw [step]
  have hlast : ∀ t, t ∈ l → lastI l ∈ l := by
    intro t ht
    have hl : 0 < l.length := List.length_pos_of_mem ht
    unfold lastI
    rw [List.getD_eq_getElem?_getD, List.getElem?_eq_getElem (by omega)]
    exact List.getElem_mem _
  constructor
  · intro h
    have hb : ∀ t ∈ l, 0 ≤ t ∧ t ≤ 1099511627776 := by
      intro t ht
      obtain ⟨j, hj⟩ := List.getElem?_of_mem ht
      have := h j t hj
      simp [badTime, inR] at this
      omega
    refine ⟨?_, fun t ht => ?_⟩
    · rw [List.pairwise_iff_getElem]
      have adj : ∀ (j : Nat) (hj : j + 1 < l.length), l[j]'(by omega) ≤ l[j + 1] := by
        intro j hj
        have := h (j + 1) l[j + 1] (List.getElem?_eq_getElem hj)
        have hg : l.getD j 0 = l[j]'(by omega) := by rw [List.getD_eq_getElem?_getD, List.getElem?_eq_getElem (by omega)]; rfl
        simp only [badTime, Bool.or_eq_false_iff, Bool.and_eq_false_iff, decide_eq_false_iff_not, Nat.add_sub_cancel] at this
        rw [hg] at this
        omega
      intro i j hi hj hij
      induction j with
      | zero => omega
      | succ j ih =>
        by_cases h1 : i = j
        · subst h1; exact adj i hj
        · exact Int.le_trans (ih (by omega) (by omega)) (adj j hj)
    · obtain ⟨j, hj⟩ := List.getElem?_of_mem ht
      have h1 := hb t ht
      have h2 := hb _ (hlast t ht)
      have := h j t hj
      rw [badTime, wrap64 (by omega) (by omega)] at this
      simp at this
      omega
  · rintro ⟨h1, h2⟩ j t hj
    have ht := List.mem_of_getElem? hj
    have h3 := h2 t ht
    have h4 := h2 _ (hlast t ht)
    rw [badTime, wrap64 (by omega) (by omega)]
    have h5 : 0 < j → l.getD (j - 1) 0 ≤ t := by
      intro h0
      obtain ⟨hlt, rfl⟩ := List.getElem?_eq_some_iff.1 hj
      rw [List.getD_eq_getElem?_getD, List.getElem?_eq_getElem (by omega)]
      exact List.pairwise_iff_getElem.1 h1 (j - 1) j (by omega) hlt (by omega)
    simp only [inR, Bool.or_eq_false_iff, Bool.and_eq_false_iff, decide_eq_false_iff_not, Bool.not_eq_false', Bool.and_eq_true, decide_eq_true_eq]
    refine ⟨⟨by omega, ?_⟩, by omega⟩
    by_cases h0 : 0 < j
    · right; have := h5 h0; omega
    · left; exact h0
structure Inv (x : Spec) (m : Int) (r : RunSt) : Prop where
  len : r.cs.length = x.children.l.length
  ok : ∀ (i : Nat) (c : ChildState), r.cs[i]? = some c → 1 ≤ c.status ∧ c.status ≤ 4 ∧ 1 ≤ c.starts ∧ c.starts ≤ m
  fit : Fit x r.st r.cs
  times : TimesP r.rs x.window
  few : (r.rs.length : Int) ≤ x.intensity
  fl : r.fl = true → r.st = 3 ∨ r.st = 4
theorem win_of {x : Spec} (h0 : chk x = 0) : 1 ≤ x.window ∧ x.window ≤ 1099511627776 := by
  have := (chk_ok h0).2.2.1
  simpa [inR] using this
theorem inv_valid {x : Spec} (h0 : chk x = 0) {m : Int} (hm : m ≤ 1099511627776) {s : State} (h : Inv x m (runOf s)) : validB x s = true := by
  have h1 : s.children.l.all childOk = true := by
    rw [List.all_eq_true]
    intro c hc
    obtain ⟨i, hi⟩ := List.getElem?_of_mem hc
    have := h.ok i c hi
    simp [childOk, inR]
    omega
  have h2 := fits_iff.2 h.fit
  have h3 := (times_iff (win_of h0)).2 h.times
  have h4 := h.few
  have h5 := h.fl
  have hl := h.len
  simp only [runOf] at h2 h3 h4 h5 hl
  simp only [validB, childrenB, endedB, h0, hl, h1, h2, h3, h4, decide_true, Bool.and_self, Bool.true_and]
  cases hf : s.failed with
  | false => rfl
  | true => rcases h5 hf with h6 | h6 <;> simp [h6]
/-- What is so of a state but for its status. -/
structure Inv0 (x : Spec) (m : Int) (r : RunSt) : Prop where
  len : r.cs.length = x.children.l.length
  ok : ∀ (i : Nat) (c : ChildState), r.cs[i]? = some c → 1 ≤ c.status ∧ c.status ≤ 4 ∧ 1 ≤ c.starts ∧ c.starts ≤ m
  times : TimesP r.rs x.window
  few : (r.rs.length : Int) ≤ x.intensity
theorem Inv.zero {x : Spec} {m : Int} {r : RunSt} (h : Inv x m r) : Inv0 x m r := ⟨h.len, h.ok, h.times, h.few⟩
theorem shut_at (tm : Int) (r : RunSt) (i : Nat) : (stopS tm (idxs r.cs.length) (holdS r)).cs[i]? = r.cs[i]?.map fun c => if c.status = 4 then c.to 3 else if c.status = 1 then c.to 2 else c := by
  rw [stopS_at tm _ _ (idxs_nn _), holdS_at, Option.map_map]
  cases h : r.cs[i]? with
  | none => rfl
  | some c =>
    have hi := (List.getElem?_eq_some_iff.1 h).1
    simp only [Option.map_some, Function.comp, stop1, hold1, idxs_mem, hi, true_and]
    by_cases h4 : c.status = 4
    · simp [h4]
    · simp [h4]
theorem shut_cs (tm : Int) (r : RunSt) : (shutS tm r).cs = (stopS tm (idxs r.cs.length) (holdS r)).cs := by
  unfold shutS; split
  · rfl
  · exact (stopped_rest _ _).2.2.2.1
theorem shut_rest (tm : Int) (r : RunSt) : (shutS tm r).rs = r.rs ∧ (shutS tm r).fl = r.fl := by
  have h1 := stopS_rest tm (idxs r.cs.length) (holdS r)
  rw [holdS_rest] at h1
  simp only [RunSt.rest, Prod.mk.injEq] at h1
  unfold shutS; split
  · exact ⟨h1.2.1, h1.2.2⟩
  · have h2 := stopped_rest tm (stopS tm (idxs r.cs.length) (holdS r))
    exact ⟨h2.2.1.trans h1.2.1, h2.2.2.1.trans h1.2.2⟩
theorem shut_inv {x : Spec} {m : Int} {r : RunSt} (h : Inv0 x m r) (tm : Int) : Inv x m (shutS tm r) ∧ ((shutS tm r).st = 3 ∨ (shutS tm r).st = 4) := by
  have hat := shut_at tm r
  have hcs := shut_cs tm r
  obtain ⟨hrs, hfl⟩ := shut_rest tm r
  have no1 : ¬ Has (stopS tm (idxs r.cs.length) (holdS r)).cs 1 := by
    rintro ⟨i, c, h1, h2⟩
    rw [hat] at h1
    obtain ⟨c0, h3, h4⟩ := map_at h1
    subst h4
    split at h2
    · simp at h2
    · split at h2
      · simp at h2
      · exact absurd h2 ‹_›
  have no4 : ¬ Has (stopS tm (idxs r.cs.length) (holdS r)).cs 4 := by
    rintro ⟨i, c, h1, h2⟩
    rw [hat] at h1
    obtain ⟨c0, h3, h4⟩ := map_at h1
    subst h4
    split at h2
    · simp at h2
    · split at h2
      · simp at h2
      · exact absurd h2 ‹_›
  have hst : ((shutS tm r).st = 3 ∧ Has (stopS tm (idxs r.cs.length) (holdS r)).cs 2) ∨ ((shutS tm r).st = 4 ∧ ¬ Has (stopS tm (idxs r.cs.length) (holdS r)).cs 2) := by
    unfold shutS
    split
    · rename_i hc; exact .inl ⟨rfl, cnt_pos.1 hc⟩
    · rename_i hc; exact .inr ⟨(stopped_rest _ _).1, cnt_zero.1 (by omega)⟩
  refine ⟨⟨?_, ?_, ?_, by rw [hrs]; exact h.times, by rw [hrs]; exact h.few, fun _ => ?_⟩, ?_⟩
  · rw [(size_shut tm r).cs]; exact h.len
  · intro i c hc
    rw [hcs, hat] at hc
    obtain ⟨c0, h3, h4⟩ := map_at hc
    have := h.ok i c0 h3
    subst h4
    split
    · simp; omega
    · split
      · simp; omega
      · exact this
  · rw [hcs]
    rcases hst with ⟨h1, h2⟩ | ⟨h1, h2⟩
    · exact .inr (.inr (.inl ⟨h1, h2, no1, no4⟩))
    · exact .inr (.inr (.inr ⟨h1, no1, h2, no4⟩))
  · rcases hst with ⟨h1, _⟩ | ⟨h1, _⟩
    · exact .inl h1
    · exact .inr h1
  · rcases hst with ⟨h1, _⟩ | ⟨h1, _⟩
    · exact .inl h1
    · exact .inr h1
theorem wrap_start {n : Int} (h : 1 ≤ n ∧ n ≤ 1099511627776) : IntKind.wrap .i64 (n + 1) = n + 1 := by rw [wrap64] <;> omega
theorem again_inv {x : Spec} {m : Int} {r : RunSt} (h : Inv0 x m r) (hm : m ≤ 1099511627776) (h2 : ¬ Has r.cs 2) (hf : r.fl = false) (tm : Int) : Inv x (m + 1) (againS tm r) := by
  have hat := againS_at tm r
  obtain ⟨h3, h4, h5⟩ := againS_rest tm r
  refine ⟨by rw [(size_again tm r).cs]; exact h.len, fun i c hc => ?_, .inl ⟨h3, ?_, ?_⟩, by rw [h4]; exact h.times, by rw [h4]; exact h.few, fun e => by rw [h5, hf] at e; cases e⟩
  · rw [hat] at hc
    obtain ⟨c0, g1, g2⟩ := map_at hc
    have := h.ok i c0 g1
    subst g2
    unfold again1
    split
    · rw [wrap_start (by omega)]; simp only; omega
    · omega
  · rintro ⟨i, c, g1, g2⟩
    rw [hat] at g1
    obtain ⟨c0, g3, g4⟩ := map_at g1
    subst g4
    unfold again1 at g2
    split at g2
    · simp at g2
    · exact h2 ⟨i, c0, g3, g2⟩
  · rintro ⟨i, c, g1, g2⟩
    rw [hat] at g1
    obtain ⟨c0, g3, g4⟩ := map_at g1
    subst g4
    unfold again1 at g2
    split at g2
    · simp at g2
    · exact absurd g2 ‹_›
end
section
open Go Go.RowKit
set_option linter.unusedVariables false
set_option linter.unusedSimpArgs false
set_option maxRecDepth 10000

theorem Inv.mono {x : Spec} {m m' : Int} {r : RunSt} (h : Inv x m r) (hm : m ≤ m') : Inv x m' r := ⟨h.len, fun i c hc => by have := h.ok i c hc; omega, h.fit, h.times, h.few, h.fl⟩
theorem setS_has {r : RunSt} {n : Nat} {c : ChildState} (hc : r.cs[n]? = some c) {a b k : Int} (ha : c.status ≠ k) (hb : b ≠ k) : Has (r.setS n b).cs k ↔ Has r.cs k := by
  constructor
  · rintro ⟨i, d, h1, h2⟩
    rw [setS_at] at h1
    obtain ⟨d0, h3, h4⟩ := map_at h1
    subst h4
    split at h2
    · exact absurd h2 hb
    · exact ⟨i, d0, h3, h2⟩
  · rintro ⟨i, d, h1, h2⟩
    have hi : i ≠ n := by
      rintro rfl
      rw [hc] at h1; cases h1
      exact ha h2
    exact ⟨i, d, by rw [setS_at, h1]; simp [hi], h2⟩
theorem setS_ok {x : Spec} {m : Int} {r : RunSt} (h : Inv0 x m r) (n : Nat) {b : Int} (hb : 1 ≤ b ∧ b ≤ 4) : Inv0 x m (r.setS n b) := by
  refine ⟨by rw [setS_len]; exact h.len, fun i c hc => ?_, by rw [setS_rs]; exact h.times, by rw [setS_rs]; exact h.few⟩
  rw [setS_at] at hc
  obtain ⟨d, h3, h4⟩ := map_at hc
  have := h.ok i d h3
  subst h4
  split
  · simp; omega
  · omega
theorem sorted_last {l : List Int} (h : l.Pairwise (· ≤ ·)) : ∀ t ∈ l, t ≤ lastI l := by
  intro t ht
  obtain ⟨j, hj⟩ := List.getElem?_of_mem ht
  obtain ⟨hlt, rfl⟩ := List.getElem?_eq_some_iff.1 hj
  unfold lastI
  rw [List.getD_eq_getElem?_getD, List.getElem?_eq_getElem (show l.length - 1 < l.length by omega)]
  simp only [Option.getD_some]
  by_cases h1 : j = l.length - 1
  · subst h1; exact Int.le_refl _
  · exact List.pairwise_iff_getElem.1 h j (l.length - 1) hlt (by omega) (by omega)
theorem not_stale {s : State} {e : Event} (h : staleB s e = false) (hl : s.restarts.l ≠ []) : lastI s.restarts.l ≤ e.time := by
  have h0 : 0 < s.restarts.l.length := List.length_pos_iff.2 hl
  unfold staleB at h
  rw [List.getElem?_eq_getElem (show s.restarts.l.length - 1 < s.restarts.l.length by omega)] at h
  unfold lastI
  rw [List.getD_eq_getElem?_getD, List.getElem?_eq_getElem (show s.restarts.l.length - 1 < s.restarts.l.length by omega)]
  simp at h
  simpa using h
theorem recent_times {x : Spec} (h0 : chk x = 0) {l : List Int} (h : TimesP l x.window) {tm : Int} (ht : 0 ≤ tm ∧ tm ≤ 1099511627776) (hs : ∀ t ∈ l, t ≤ tm) : TimesP (recentL x tm l ++ [tm]) x.window := by
  have hw := win_of h0
  have hold : ∀ t, oldT x tm t = decide (t ≤ tm - x.window) := by intro t; unfold oldT; rw [wrap64 (by omega) (by omega)]
  have hlast : lastI (recentL x tm l ++ [tm]) = tm := by unfold lastI; simp
  refine ⟨?_, fun t htm => ?_⟩
  · rw [List.pairwise_append]
    refine ⟨h.1.filter _, by simp, fun a ha b hb => ?_⟩
    have : b = tm := by simpa using hb
    subst this
    exact hs a (List.mem_filter.1 ha).1
  · rw [hlast]
    rcases List.mem_append.1 htm with h1 | h1
    · obtain ⟨h2, h3⟩ := List.mem_filter.1 h1
      have := h.2 t h2
      rw [hold] at h3
      simp at h3
      omega
    · have : t = tm := by simpa using h1
      subst this
      omega
theorem stop_inv0 {x : Spec} {m : Int} {r : RunSt} (h : Inv0 x m r) (tm : Int) {l : List Int} (hl : ∀ a ∈ l, 0 ≤ a) : Inv0 x m (stopS tm l r) := by
  have hr := stopS_rest tm l r
  simp only [RunSt.rest, Prod.mk.injEq] at hr
  refine ⟨by rw [stopS_len]; exact h.len, fun i c hc => ?_, by rw [hr.2.1]; exact h.times, by rw [hr.2.1]; exact h.few⟩
  rw [stopS_at tm l r hl] at hc
  obtain ⟨d, h3, h4⟩ := map_at hc
  have := h.ok i d h3
  subst h4
  unfold stop1
  split
  · simp; omega
  · omega
theorem running_inv {x : Spec} (h0 : chk x = 0) {m : Int} (hm : m ≤ 1099511627776) {r : RunSt} (h : Inv x m r) {n : Nat} {c : ChildState} (hc : r.cs[n]? = some c) (h1 : c.status = 1) {tm : Int} (ht : 0 ≤ tm ∧ tm ≤ 1099511627776) (hs : ∀ t ∈ r.rs, t ≤ tm) (ch : Child) (reason : Int) :
    Inv x (m + 1) (runningS x tm n ch reason r) := by
  have hst : r.st = 1 ∨ r.st = 2 := by
    rcases h.fit with ⟨a, _⟩ | ⟨a, _⟩ | ⟨_, _, a, _⟩ | ⟨_, a, _⟩
    · exact .inl a
    · exact .inr a
    · exact absurd ⟨n, c, hc, h1⟩ a
    · exact absurd ⟨n, c, hc, h1⟩ a
  have hfl : r.fl = false := by
    cases hf : r.fl with
    | false => rfl
    | true => have := h.fl hf; omega
  unfold runningS
  split
  · have z := setS_ok h.zero n (b := 3) (by omega)
    have hr := setS_rest r n 3
    simp only [RunSt.rest, Prod.mk.injEq] at hr
    refine Inv.mono (m := m) ⟨z.len, z.ok, ?_, z.times, z.few, fun e => by rw [hr.2.2, hfl] at e; cases e⟩ (by omega)
    rw [hr.1]
    unfold Fit
    rw [setS_has hc (a := 1) (k := 2) (by omega) (by omega), setS_has hc (a := 1) (k := 4) (by omega) (by omega)]
    rcases h.fit with ⟨a1, a2, a3⟩ | ⟨a1, a2, a3, a4⟩ | ⟨a, _⟩ | ⟨a, _⟩
    · exact .inl ⟨a1, a2, a3⟩
    · exact .inr (.inl ⟨a1, a2, a3, a4⟩)
    · omega
    · omega
  · split
    · have z := setS_ok h.zero n (b := 3) (by omega)
      exact (shut_inv (m := m) (r := { r.setS n 3 with fl := true }) ⟨z.len, z.ok, z.times, z.few⟩ tm).1.mono (by omega)
    · rename_i hq hi
      have hw := win_of h0
      have z0 : Inv0 x m ({ r with rs := recentL x tm r.rs ++ [tm] } : RunSt) := ⟨h.len, h.ok, recent_times h0 h.times ht hs, by simp; omega⟩
      have z1 := setS_ok z0 n (b := 4) (by omega)
      have z2 := stop_inv0 z1 tm (affL_nn x n)
      have hr := setS_rest ({ r with rs := recentL x tm r.rs ++ [tm] } : RunSt) n 4
      have hr2 := stopS_rest tm (affL x n) (({ r with rs := recentL x tm r.rs ++ [tm] } : RunSt).setS n 4)
      rw [hr] at hr2
      simp only [RunSt.rest, Prod.mk.injEq] at hr2
      have hcn : (({ r with rs := recentL x tm r.rs ++ [tm] } : RunSt).setS n 4).cs[n]? = some (c.to 4) := by
        rw [setS_at]; simp [hc]
      split
      · rename_i hz
        exact again_inv z2 hm (cnt_zero.1 hz) (by rw [hr2.2.2]; exact hfl) tm
      · rename_i hz
        have hz2 := cnt_pos.1 (by omega : 0 < cnt (stopS tm (affL x n) (({ r with rs := recentL x tm r.rs ++ [tm] } : RunSt).setS n 4)).cs 2)
        refine Inv.mono (m := m) ⟨z2.len, z2.ok, .inr (.inl ⟨rfl, ?_, hz2, n, c.to 4, ?_, rfl⟩), z2.times, z2.few, fun e => ?_⟩ (by omega)
        · rcases h.fit with ⟨a1, a2, a3⟩ | ⟨a1, a2, _⟩ | ⟨a, _⟩ | ⟨a, _⟩
          · intro hstr
            obtain ⟨i, d, g1, g2⟩ := hz2
            rw [stopS_at tm _ _ (affL_nn x n)] at g1
            obtain ⟨d0, g3, g4⟩ := map_at g1
            rw [setS_at] at g3
            obtain ⟨d1, g5, g6⟩ := map_at g3
            subst g4
            by_cases hin : i = n
            · rw [if_pos hin] at g6
              subst g6
              simp [stop1] at g2
            · rw [if_neg hin] at g6
              subst g6
              unfold stop1 at g2
              split at g2
              · rename_i h9
                have := (affF_mem _ _ _ _ _).1 h9.1
                simp [affP, hstr] at this
                omega
              · exact a2 ⟨i, d1, g5, g2⟩
          · exact a2
          · omega
          · omega
        · rw [stopS_at tm _ _ (affL_nn x n), hcn]
          simp [stop1]
        · have : r.fl = true := by rw [← hr2.2.2]; exact e
          rw [hfl] at this; cases this
theorem stopping_inv {x : Spec} {m : Int} (hm : m ≤ 1099511627776) {r : RunSt} (h : Inv x m r) {n : Nat} {c : ChildState} (hc : r.cs[n]? = some c) (h2 : c.status = 2) (tm : Int) (ch : Child) : Inv x (m + 1) (stoppingS tm n ch r) := by
  have hst : r.st = 2 ∨ r.st = 3 := by
    rcases h.fit with ⟨_, a, _⟩ | ⟨a, _⟩ | ⟨a, _⟩ | ⟨_, _, a, _⟩
    · exact absurd ⟨n, c, hc, h2⟩ a
    · exact .inl a
    · exact .inr a
    · exact absurd ⟨n, c, hc, h2⟩ a
  have z : Inv0 x m (stopping1 n ch r) := setS_ok h.zero n (by split <;> omega)
  have hr : (stopping1 n ch r).rest = r.rest := setS_rest _ _ _
  simp only [RunSt.rest, Prod.mk.injEq] at hr
  have hfit := h.fit
  unfold stoppingS
  split
  · rename_i hz
    have hz2 := cnt_pos.1 hz
    refine Inv.mono (m := m) ⟨z.len, z.ok, ?_, z.times, z.few, fun e => by rw [hr.1]; exact h.fl (by rw [← hr.2.2]; exact e)⟩ (by omega)
    rw [hr.1]
    rcases hst with hst | hst
    · rcases hfit with ⟨a, _⟩ | ⟨a1, a2, a3, a4⟩ | ⟨a, _⟩ | ⟨a, _⟩
      · omega
      · refine .inr (.inl ⟨a1, a2, hz2, ?_⟩)
        obtain ⟨i, d, g1, g2⟩ := a4
        have hi : i ≠ n := by rintro rfl; rw [hc] at g1; cases g1; omega
        exact ⟨i, d, by unfold stopping1; rw [setS_at, g1]; simp [hi], g2⟩
      · omega
      · omega
    · rcases hfit with ⟨a, _⟩ | ⟨a, _⟩ | ⟨a1, a2, a3, a4⟩ | ⟨a, _⟩
      · omega
      · omega
      · refine .inr (.inr (.inl ⟨a1, hz2, ?_, ?_⟩))
        · unfold stopping1
          rw [if_neg (by omega), setS_has hc (a := 2) (by omega) (by omega)]
          exact a3
        · unfold stopping1
          rw [if_neg (by omega), setS_has hc (a := 2) (by omega) (by omega)]
          exact a4
      · omega
  · rename_i hz
    have hz2 : ¬ Has (stopping1 n ch r).cs 2 := cnt_zero.1 (by omega)
    split
    · rename_i h22
      refine again_inv z hm hz2 ?_ tm
      rw [hr.2.2]
      cases hf : r.fl with
      | false => rfl
      | true => have := h.fl hf; omega
    · rename_i h22
      obtain ⟨s1, s2, s3, s4, s5⟩ := stopped_rest tm (stopping1 n ch r)
      refine Inv.mono (m := m) ⟨by rw [s4]; exact z.len, by rw [s4]; exact z.ok, ?_, by rw [s2]; exact z.times, by rw [s2]; exact z.few, fun _ => .inr s1⟩ (by omega)
      rw [s1, s4]
      rcases hfit with ⟨a, _⟩ | ⟨a, _⟩ | ⟨a1, a2, a3, a4⟩ | ⟨a, _⟩
      · omega
      · omega
      · refine .inr (.inr (.inr ⟨rfl, ?_, hz2, ?_⟩))
        · unfold stopping1
          rw [if_neg (by omega), setS_has hc (a := 2) (by omega) (by omega)]
          exact a3
        · unfold stopping1
          rw [if_neg (by omega), setS_has hc (a := 2) (by omega) (by omega)]
          exact a4
      · omega
theorem handle_inv {x : Spec} (h0 : chk x = 0) {m : Int} (hm : m ≤ 1099511627776) {s : State} (h : Inv x m (runOf s)) {e : Event} (hc : checkN x s e = 0) : Inv x (m + 1) (handleR x s e) := by
  obtain ⟨hk, ht, hs, hd⟩ := check_facts hc
  have ht' : 0 ≤ e.time ∧ e.time ≤ 1099511627776 := by simpa [inR] using ht
  have hold : ∀ t ∈ s.restarts.l, t ≤ e.time := by
    intro t htm
    have h1 := sorted_last h.times.1 t htm
    have h2 := not_stale hs (List.ne_nil_of_mem htm)
    simp only [runOf] at h1
    omega
  unfold handleR
  rcases hk with ⟨h1, h2, h3⟩ | ⟨h1, _⟩
  · rw [if_pos h1]
    have hin : 0 ≤ e.child ∧ e.child ≤ (x.children.l.length : Int) - 1 := by simpa [inR] using h2
    have hlen := h.len
    simp only [runOf] at hlen
    have g1 := List.getElem?_eq_getElem (l := x.children.l) (i := e.child.toNat) (by omega)
    have g2 := List.getElem?_eq_getElem (l := s.children.l) (i := e.child.toNat) (by omega)
    simp only [g1, g2]
    unfold exitedS
    split
    · rename_i h4
      exact running_inv h0 hm h g2 h4 ht' hold _ _
    · rename_i h4
      refine stopping_inv hm h g2 ?_ _ _
      unfold deadB at hd
      rw [if_pos h1, g2] at hd
      simp at hd
      exact hd h4
  · rw [if_neg (by omega)]
    unfold askedS
    split
    · exact h.mono (by omega)
    · exact (shut_inv h.zero _).1.mono (by omega)
end
section
open Go Go.RowKit
set_option linter.unusedVariables false
set_option linter.unusedSimpArgs false
set_option maxRecDepth 10000

structure GoodMove (x : Spec) (i : Nat) (mv : Move) : Prop where
  inv : Inv x (i + 1) (runOf mv.before)
  chk : checkN x mv.before mv.event = 0
  after : StOk mv.after (handleR x mv.before mv.event)
  acts : mv.actions.l = (handleR x mv.before mv.event).out
  time : 0 ≤ mv.event.time ∧ mv.event.time ≤ 100000
  val : mv.event.value = 0 ∨ mv.event.value = 1 ∨ mv.event.value = 100
def curSt (x : Spec) (ms : List Move) : Nat → Core
  | 0 => (startS x).core
  | i + 1 => match ms[i]? with | some m => m.after.core | none => zeroState.core
structure Moves (x : Spec) (ms : List Move) : Prop where
  good : ∀ (i : Nat) (mv : Move), ms[i]? = some mv → GoodMove x i mv
  cur : ∀ (i : Nat) (mv : Move), ms[i]? = some mv → mv.before.core = curSt x ms i
  order : ∀ (i j : Nat) (mv mv' : Move), j < i → ms[i]? = some mv → ms[j]? = some mv' → mv'.event.time ≤ mv.event.time
structure PlayP (x : Spec) (k : Nat) (now : Int) (s : State) (ms : List Move) : Prop where
  moves : Moves x ms
  core : s.core = curSt x ms ms.length
  inv : Inv x (ms.length + 1) (runOf s)
  times : ∀ mv ∈ ms, mv.event.time ≤ now
  clock : 0 ≤ now ∧ now ≤ 255 * k
  len : ms.length ≤ k
  rs : ∀ t ∈ s.restarts.l, t ≤ now
  k1 : KnownNil s.children
  k2 : KnownNil s.restarts
theorem curSt_snoc (x : Spec) (ms : List Move) (m : Move) : ∀ i, i ≤ ms.length → curSt x (ms ++ [m]) i = curSt x ms i := by
  intro i hi
  cases i with
  | zero => rfl
  | succ i => simp only [curSt, List.getElem?_append_left (show i < ms.length by omega)]
theorem curSt_last (x : Spec) (ms : List Move) (m : Move) : curSt x (ms ++ [m]) (ms.length + 1) = m.after.core := by simp [curSt]
theorem has_replicate (n : Nat) (k : Int) : Has (List.replicate n start1) k → k = 1 := by
  rintro ⟨i, c, h1, h2⟩
  have := List.mem_of_getElem? h1
  have := (List.mem_replicate.1 this).2
  subst this
  exact h2.symm
theorem start_inv {x : Spec} (h0 : chk x = 0) : Inv x 1 (runOf (startS x)) := by
  have hi : 0 ≤ x.intensity := by have := (chk_ok h0).2.1; simp [inR] at this; exact this.1
  refine ⟨by simp [runOf, startS], fun i c hc => ?_, .inl ⟨rfl, fun h => by have := has_replicate _ _ h; omega, fun h => by have := has_replicate _ _ h; omega⟩, ⟨by simp [runOf, startS], by simp [runOf, startS]⟩, by simpa [runOf, startS] using hi, fun e => by cases e⟩
  have := List.mem_of_getElem? hc
  have := (List.mem_replicate.1 this).2
  subst this
  simp [start1]
theorem again_rs (tm : Int) (r : RunSt) : (againS tm r).rs = r.rs := (againS_rest tm r).2.1
theorem handle_rs (x : Spec) (s : State) (e : Event) : ∀ t ∈ (handleR x s e).rs, t ∈ s.restarts.l ∨ t = e.time := by
  have stp : ∀ (l : List Int) (r : RunSt), (stopS e.time l r).rs = r.rs := fun l r => by
    have := stopS_rest e.time l r
    simp only [RunSt.rest, Prod.mk.injEq] at this
    exact this.2.1
  have run : ∀ (n : Nat) (ch : Child) (v : Int), ∀ t ∈ (runningS x e.time n ch v (runOf s)).rs, t ∈ s.restarts.l ∨ t = e.time := by
    intro n ch v t ht
    have new : ∀ t, t ∈ recentL x e.time (runOf s).rs ++ [e.time] → t ∈ s.restarts.l ∨ t = e.time := by
      intro t ht
      rcases List.mem_append.1 ht with h | h
      · exact .inl (List.mem_filter.1 h).1
      · exact .inr (by simpa using h)
    unfold runningS at ht
    split at ht
    · rw [setS_rs] at ht; exact .inl ht
    · split at ht
      · rw [(shut_rest _ _).1] at ht
        have : t ∈ ((runOf s).setS n 3).rs := ht
        rw [setS_rs] at this; exact .inl this
      · split at ht
        · rw [again_rs, stp, setS_rs] at ht; exact new t ht
        · have : t ∈ (stopS e.time (affL x n) (({ runOf s with rs := recentL x e.time (runOf s).rs ++ [e.time] } : RunSt).setS n 4)).rs := ht
          rw [stp, setS_rs] at this
          exact new t this
  have stp2 : ∀ (n : Nat) (ch : Child), (stoppingS e.time n ch (runOf s)).rs = s.restarts.l := by
    intro n ch
    have h1 : (stopping1 n ch (runOf s)).rs = s.restarts.l := setS_rs _ _ _
    unfold stoppingS
    split
    · exact h1
    · split
      · rw [again_rs]; exact h1
      · rw [(stopped_rest _ _).2.1]; exact h1
  intro t ht
  unfold handleR at ht
  split at ht
  · split at ht
    · unfold exitedS at ht
      split at ht
      · exact run _ _ _ t ht
      · rw [stp2] at ht; exact .inl ht
    · exact .inl ht
  · unfold askedS at ht
    split at ht
    · exact .inl ht
    · rw [(shut_rest _ _).1] at ht; exact .inl ht
theorem inv_core {x : Spec} {m : Int} {s t : State} (h : s.core = t.core) (hi : Inv x m (runOf s)) : Inv x m (runOf t) := by rw [← runOf_core h]; exact hi
theorem inv_stok {x : Spec} {m : Int} {t : State} {r : RunSt} (h : StOk t r) (hi : Inv x m r) : Inv x m (runOf t) := by
  refine ⟨?_, ?_, ?_, ?_, ?_, ?_⟩
  · simp only [runOf, h.cs]; exact hi.len
  · simp only [runOf, h.cs]; exact hi.ok
  · simp only [runOf, h.st, h.cs]; exact hi.fit
  · simp only [runOf, h.rs]; exact hi.times
  · simp only [runOf, h.rs]; exact hi.few
  · simp only [runOf, h.fl, h.st]; exact hi.fl
/-- One more move. -/
theorem PlayP.move {x : Spec} (h0 : chk x = 0) {k : Nat} (hk : k ≤ 100) {now now' : Int} {s : State} {ms : List Move} (h : PlayP x k now s ms) (hn : now ≤ now' ∧ now' ≤ 255 * (k + 1)) {e : Event} (he : e.time = now') (hc : checkN x s e = 0) (hv : e.value = 0 ∨ e.value = 1 ∨ e.value = 100) {t : State} {a : Sl Event} (ht : StOk t (handleR x s e)) (ha : a.l = (handleR x s e).out) :
    PlayP x (k + 1) now' t (ms ++ [⟨s, t, e, a⟩]) := by
  have hlast : ∀ (i : Nat) (mv : Move), (ms ++ [(⟨s, t, e, a⟩ : Move)])[i]? = some mv → (i < ms.length ∧ ms[i]? = some mv) ∨ (i = ms.length ∧ mv = ⟨s, t, e, a⟩) := by
    intro i mv hi
    by_cases h1 : i < ms.length
    · rw [List.getElem?_append_left h1] at hi; exact .inl ⟨h1, hi⟩
    · have h2 : i = ms.length := by
        have := (List.getElem?_eq_some_iff.1 hi).1
        simp at this
        omega
      subst h2
      simp at hi
      exact .inr ⟨rfl, hi.symm⟩
  have hnn := h.clock
  have hl := h.len
  have hinv : Inv x (ms.length + 1 + 1) (handleR x s e) := handle_inv h0 (by omega) h.inv hc
  refine ⟨⟨fun i mv hi => ?_, fun i mv hi => ?_, fun i j mv mv' hj hi hj' => ?_⟩, ?_, ?_, fun mv hm => ?_, by omega, by simp; omega, fun u hu => ?_, ht.k1, ht.k2⟩
  · rcases hlast i mv hi with ⟨_, h1⟩ | ⟨rfl, rfl⟩
    · exact h.moves.good i mv h1
    · exact ⟨h.inv, hc, ht, ha, by simp only [he]; omega, hv⟩
  · rcases hlast i mv hi with ⟨h2, h1⟩ | ⟨rfl, rfl⟩
    · rw [curSt_snoc x ms _ i (by omega)]; exact h.moves.cur i mv h1
    · rw [curSt_snoc x ms _ _ (Nat.le_refl _)]; exact h.core
  · rcases hlast j mv' hj' with ⟨h2, h1⟩ | ⟨rfl, rfl⟩
    · rcases hlast i mv hi with ⟨_, h3⟩ | ⟨rfl, rfl⟩
      · exact h.moves.order i j mv mv' hj h3 h1
      · have := h.times mv' (List.mem_of_getElem? h1)
        simp only [he]; omega
    · have := (List.getElem?_eq_some_iff.1 hi).1
      simp at this
      omega
  · rw [List.length_append, List.length_singleton, curSt_last]
  · rw [List.length_append, List.length_singleton]
    exact inv_stok ht (hinv.mono (by simp))
  · rcases List.mem_append.1 hm with h1 | h1
    · have := h.times mv h1; omega
    · have : mv = ⟨s, t, e, a⟩ := by simpa using h1
      subst this
      simp only [he]; omega
  · rw [ht.rs] at hu
    rcases handle_rs x s e u hu with h1 | h1
    · have := h.rs u h1; omega
    · omega
theorem PlayP.wait {x : Spec} {k : Nat} {now now' : Int} {s : State} {ms : List Move} (h : PlayP x k now s ms) (hn : now ≤ now' ∧ now' ≤ 255 * (k + 1)) : PlayP x (k + 1) now' s ms := by
  have hnn := h.clock
  have hl := h.len
  exact ⟨h.moves, h.core, h.inv, fun mv hm => by have := h.times mv hm; omega, by omega, by omega, fun t ht => by have := h.rs t ht; omega, h.k1, h.k2⟩
end
section
open Go Go.RowKit
set_option linter.unusedVariables false
set_option linter.unusedSimpArgs false
set_option maxRecDepth 10000
set_option maxHeartbeats 1000000
attribute [local irreducible] okV okC

/-- New, of a valid specification. -/
theorem pureNew {x : Spec} (h0 : chk x = 0) (hn : ∀ c ∈ x.children.l, c.name.length ≤ 1000000) : ∃ (st : State) (a : Sl Event), W.pure 29 [x.av] = some (.tuple [st.av, Sl.av Event.av 4 a, I 0]) ∧ st.core = (startS x).core ∧ KnownNil st.children ∧ KnownNil st.restarts := by
  have hlen := chk_len h0
  obtain ⟨v, G, g1, g2, _⟩ := okV_iff.1 (pure29 x hn)
  unfold NewOk at g2
  rw [if_pos h0] at g2
  obtain ⟨cv, ev, o1, o2, rfl, p1, p2, _⟩ := g2
  have q1 := p1.sl (n := 5) (by simp)
  have q2 := p2.sl (n := 6) (all_still (fun x => by simp) _)
  refine ⟨⟨1, if o1 = none then slNil else ofL 2 (List.replicate x.children.l.length start1), slNil, false⟩, if o2 = none then slNil else ofL 4 (startL x.children.l.length), ?_, ?_, ?_, .inl ⟨rfl, rfl⟩⟩
  · rw [W_pure Φ29 (by simp), g1]
    simp only [Option.bind_some, frz_tuple, frzs_cons, frzs_nil, frz_agg, frz_int, frz_bool, frz_isl, q1, q2, consO_some, Option.map_some]
    rfl
  · cases o1 with
    | none => exact absurd (congrArg List.length p1.2) (by rw [List.length_map, List.length_replicate, List.length_nil]; omega)
    | some i => rfl
  · cases o1 with
    | none => exact .inl ⟨rfl, rfl⟩
    | some i => exact .inr rfl
structure PlayM (x : Spec) (G : Heap) (s : State) (ms : List Move) (ov : AV) : Prop where
  g0 : G[0]? = some (.arr 0 4 false [x.av])
  g1 : G[1]? = some (.arr 0 4 false [s.av])
  own : ∃ o, Grow G 13 o ov (ms.map Move.av) ∧ ∀ i, o = some i → 2 ≤ i
theorem PlayM.kept {x : Spec} {G H : Heap} {s : State} {ms : List Move} {ov : AV} (h : PlayM x G s ms ov) (hk : Kept none G H) : PlayM x H s ms ov := by
  obtain ⟨o, h1, h2⟩ := h.own
  exact ⟨hk.get (by simp) h.g0, hk.get (by simp) h.g1, o, h1.kept hk (by simp), h2⟩
theorem PlayM.app {x : Spec} {G : Heap} {s : State} {ms : List Move} {ov : AV} (h : PlayM x G s ms ov) (hl : ms.length ≤ 1000) (mv : Move) (t : State) : ∃ (ov' : AV) (G3 : Heap), ex G (.app 13) [ov, .isl (some false) 13 [mv.av]] = some (ov', G3) ∧ okO ov = some ov ∧ okO ov' = some ov' ∧ G3[1]? = some (.arr 0 4 false [s.av]) ∧ (∀ (j : Nat) (b : List AV), G[j]? = some (.arr 0 4 false b) → G3[j]? = some (.arr 0 4 false b)) ∧ PlayM x (G3.set 1 (.arr 0 4 false [t.av])) t (ms ++ [mv]) ov' := by
  obtain ⟨o, h1, h2⟩ := h.own
  obtain ⟨o', ov', G3, a1, a2, a3, a4⟩ := h1.app1 mv.av (by simp) (by simp [appRoom]; omega)
  have ho' : ∀ i, o' = some i → 2 ≤ i := by
    intro i hi
    rcases a4 i hi with h3 | ⟨_, rfl⟩
    · exact h2 i h3
    · have := (List.getElem?_eq_some_iff.1 h.g1).1
      have h0 := h.g0
      omega
  have k0 := a3.get (fun e => by have := h2 0 e; omega) h.g0
  have k1 := a3.get (fun e => by have := h2 1 e; omega) h.g1
  have hset := Kept.set 1 G3 (.arr 0 4 false [t.av])
  have kj : ∀ (j : Nat) (b : List AV), G[j]? = some (.arr 0 4 false b) → G3[j]? = some (.arr 0 4 false b) := by
    intro j b hb
    refine a3.get (fun e => ?_) hb
    subst e
    obtain ⟨ver, t', _, h3⟩ := h1
    rw [hb] at h3; cases h3
  refine ⟨ov', G3, a1, h1.okO, a2.okO, k1, kj, hset.get (by simp) k0, List.getElem?_set_self (List.getElem?_eq_some_iff.1 k1).1, o', ?_, ho'⟩
  rw [List.map_append]
  exact a2.kept hset (fun id hid e => by cases hid; have := ho' 1 e; omega)
@[simp high] theorem bldMove (s t : State) (e : Event) (a : Sl Event) : bldV [.int .i64 0, .isl (some true) 0 [], .isl (some true) 0 [], .bool false, .int .i64 0, .isl (some true) 0 [], .isl (some true) 0 [], .bool false, .int .i64 0, .int .i64 0, .int .i64 0, .int .i64 0, .isl (some true) 0 []] [(0, 4), (4, 4), (8, 4), (12, 1)] [s.av, t.av, e.av, Sl.av Event.av 4 a] = (⟨s, t, e, a⟩ : Move).av := rfl
/-- What Play is asked to do next: the event, or none. -/
def nextEv (x : Spec) (s : State) (h : Happening) (now : Int) : Option Event :=
  if h.stop then (if s.status = 4 then none else some ⟨2, -1, 0, now⟩)
  else match s.children.l[(h.child.tmod x.children.l.length).toNat]? with
    | some c => if c.status = 2 then some ⟨1, h.child.tmod x.children.l.length, 1, now⟩ else if c.status = 1 then some ⟨1, h.child.tmod x.children.l.length, 100 * h.reason.tmod 2, now⟩ else none
    | none => none
theorem next_ok {x : Spec} (h0 : chk x = 0) {s : State} {h : Happening} {now : Int} (hn : 0 ≤ now ∧ now ≤ 1099511627776) (hr : ∀ t ∈ s.restarts.l, t ≤ now) (hl : s.children.l.length = x.children.l.length) (hc : 0 ≤ h.child) (hre : 0 ≤ h.reason) {e : Event} (he : nextEv x s h now = some e) :
    checkN x s e = 0 ∧ e.time = now ∧ (e.value = 0 ∨ e.value = 1 ∨ e.value = 100) := by
  have hlen := chk_len h0
  have hm1 := Int.tmod_nonneg (x.children.l.length : Int) hc
  have hm2 := Int.tmod_lt_of_pos h.child (show (0 : Int) < x.children.l.length by omega)
  have hr1 := Int.tmod_nonneg (2 : Int) hre
  have hr2 := Int.tmod_lt_of_pos h.reason (show (0 : Int) < 2 by omega)
  have hst : staleB s ⟨e.kind, e.child, e.value, now⟩ = false := by
    unfold staleB
    split
    · rename_i t ht
      have := hr t (List.mem_of_getElem? ht)
      simp; omega
    · rfl
  have hti : inR now 0 1099511627776 = true := by simp [inR]; omega
  unfold nextEv at he
  split at he
  · split at he
    · cases he
    · cases he
      refine ⟨?_, rfl, .inl rfl⟩
      rename_i h1 h4
      simp only at hst
      simp [checkN, malB, deadB, hst, hti, h4]
  · split at he
    · rename_i c hcs
      have hin : inR (h.child.tmod x.children.l.length) 0 ((x.children.l.length : Int) - 1) = true := by simp [inR]; omega
      split at he
      · cases he
        rename_i h2
        refine ⟨?_, rfl, .inr (.inl rfl)⟩
        simp only at hst
        simp [checkN, malB, deadB, hst, hti, hin, hcs, h2, reasonB, inR]
        simp [inR] at hin hti
        omega
      · split at he
        · cases he
          rename_i h2 h1
          have hv : 100 * h.reason.tmod 2 = 0 ∨ 100 * h.reason.tmod 2 = 100 := by omega
          refine ⟨?_, rfl, by rcases hv with hv | hv; exact .inl hv; exact .inr (.inr hv)⟩
          have hrb : reasonB (100 * h.reason.tmod 2) = true := by rcases hv with hv | hv <;> rw [hv] <;> rfl
          simp only at hst
          simp [checkN, malB, deadB, hst, hti, hin, hcs, h1, hrb]
        · cases he
    · cases he
theorem play_round {x : Spec} (h0 : chk x = 0) (hn : ∀ c ∈ x.children.l, c.name.length ≤ 1000000) {k : Nat} (hk : k ≤ 100) {now : Int} {s : State} {ms : List Move} {h : Happening} (hc : 0 ≤ h.child) (hre : 0 ≤ h.reason) (ha : 0 ≤ h.after ∧ h.after ≤ 255) (hP : PlayP x k now s ms) :
    (nextEv x s h (now + h.after) = none ∧ PlayP x (k + 1) (now + h.after) s ms) ∨ ∃ e t a, nextEv x s h (now + h.after) = some e ∧ W.pure 13 [x.av, s.av, e.av] = some (.tuple [t.av, Sl.av Event.av 4 a, I 0]) ∧ t.children.l.length = x.children.l.length ∧ PlayP x (k + 1) (now + h.after) t (ms ++ [⟨s, t, e, a⟩]) := by
  have hcl := hP.clock
  have hinv := hP.inv
  have hlen := chk_len h0
  have hl : s.children.l.length = x.children.l.length := hinv.len
  have hint : x.intensity ≤ 100 := by have := (chk_ok h0).2.1; simp [inR] at this; exact this.2
  have hfew : (s.restarts.l.length : Int) ≤ x.intensity := hinv.few
  have hml := hP.len
  cases he : nextEv x s h (now + h.after) with
  | none => exact .inl ⟨rfl, hP.wait ⟨by omega, by omega⟩⟩
  | some e =>
    right
    obtain ⟨c1, c2, c3⟩ := next_ok h0 (by omega) (fun t ht => by have := hP.rs t ht; omega) hl hc hre he
    have hv := inv_valid h0 (m := ms.length + 1) (by omega) hinv
    have hE : handleE x s e = 0 := by unfold handleE; rw [if_pos hv]; exact c1
    obtain ⟨v, w1, w2⟩ := e13 x s e hn (by omega) (by omega) (by omega) hP.k1 hP.k2
    unfold HandleOk at w2
    rw [if_pos hE] at w2
    obtain ⟨t, a, rfl, w3, w4⟩ := w2
    refine ⟨e, t, a, rfl, w1, ?_, hP.move h0 hk ⟨by omega, by omega⟩ c2 c1 c3 w3 w4⟩
    have := (size_handle x s e).cs
    rw [w3.cs, this]; exact hl
def PlayOk (x : Spec) (v : AV) : Prop := ∃ (m : Sl Move), v = .tuple [Sl.av Move.av 13 m, .bool true] ∧ Moves x m.l ∧ m.l.length ≤ 40
theorem e22 {x : Spec} (h0 : chk x = 0) (hn : ∀ c ∈ x.children.l, c.name.length ≤ 1000000) (l : Sl Happening) (hl : ∀ h ∈ l.l, h.wf) (hll : l.l.length ≤ 9223372036854775807) : ∃ v, W.pure 22 [x.av, Sl.av Happening.av 4 l] = some v ∧ PlayOk x v := by
  have hz : (.agg [I 0, .isl (some true) 0 [], .isl (some true) 0 [], .bool false] : AV) = zeroState.av := rfl
  have hlen := chk_len h0
  obtain ⟨st, a0, c29, hst, hk1, hk2⟩ := pureNew h0 hn
  have loop : ∀ L : Sl Happening, L.l.length ≤ 40 → (∀ h ∈ L.l, h.wf) → okC (W.loop [2, 6, 9, 10, 30, 31, 32] l22_0 [(2, .optr 0 0 0 0), (6, .optr 1 0 0 0), (9, .isl (some true) 0 []), (10, I 0), (30, Sl.av Happening.av 4 L), (31, I L.l.length), (32, I 0)] [.arr 0 4 false [x.av], .arr 0 4 false [st.av]])
      (fun y F G => y = .exit 0 ∧ ∃ s ms, PlayM x G s ms (F.get 9) ∧ Moves x ms ∧ ms.length ≤ 40) := by
    intro L hL hw
    have hxne : ¬ x.children.l = [] := by intro e; rw [e] at hlen; simp at hlen
    have hL := loop_fold (Φ := Φ) (live := [2, 6, 9, 10, 30, 31, 32]) (L := l22_0) L.l (σ := Unit) (fun _ _ s => s) (fun k _ F G => ∃ now s ms ov, F = [(2, .optr 0 0 0 0), (6, .optr 1 0 0 0), (9, ov), (10, I now), (30, Sl.av Happening.av 4 L), (31, I L.l.length), (32, I k)] ∧ PlayM x G s ms ov ∧ PlayP x k now s ms)
      (fun _ y F G => y = .exit 0 ∧ ∃ s ms, PlayM x G s ms (F.get 9) ∧ Moves x ms ∧ ms.length ≤ 40) (s := ()) (F := [(2, .optr 0 0 0 0), (6, .optr 1 0 0 0), (9, .isl (some true) 0 []), (10, I 0), (30, Sl.av Happening.av 4 L), (31, I L.l.length), (32, I 0)]) (H := [.arr 0 4 false [x.av], .arr 0 4 false [st.av]])
      ⟨0, st, [], _, rfl, ⟨rfl, rfl, none, grow_nil _ _, by simp⟩, ⟨⟨by simp, by simp, by simp⟩, hst, inv_core hst.symm (start_inv h0), by simp, by omega, by simp, fun t ht => by have := (core_inj hst).2.2.1; rw [this] at ht; simp [startS] at ht, hk1, hk2⟩⟩ ?_ ?_
    · exact hL
    · rintro k h ⟨⟩ F G hk hh ⟨now, s, ms, ov, rfl, hM, hP⟩
      have hwk := wrap_succ (k := k) (by omega)
      obtain ⟨hkl, he'⟩ := List.getElem?_eq_some_iff.1 hh
      have hwf := hw h (List.mem_of_getElem? hh)
      have b1 := wf8 hwf.1
      have b2 := wf8 hwf.2.1
      have b3 := wf8 hwf.2.2.1
      have hcl := hP.clock
      have hsl : s.children.l.length = x.children.l.length := hP.inv.len
      have w1 : IntKind.wrap .i64 h.after = h.after := by rw [wrap64] <;> omega
      have w2 : IntKind.wrap .i64 (now + h.after) = now + h.after := by rw [wrap64] <;> omega
      have w3 : IntKind.wrap .i64 h.child = h.child := by rw [wrap64] <;> omega
      have hr1 := Int.tmod_nonneg (2 : Int) b2.1
      have hr2 := Int.tmod_lt_of_pos h.reason (show (0 : Int) < 2 by omega)
      have w4 : IntKind.wrap .i64 (h.reason.tmod 2) = h.reason.tmod 2 := by rw [wrap64] <;> omega
      have w5 : IntKind.wrap .i64 (100 * h.reason.tmod 2) = 100 * h.reason.tmod 2 := by rw [wrap64] <;> omega
      have hm1 := Int.tmod_nonneg (x.children.l.length : Int) b1.1
      have hm2 := Int.tmod_lt_of_pos h.child (show (0 : Int) < x.children.l.length by omega)
      have hround := play_round h0 hn (k := k) (by omega) b1.1 b2.1 b3 hP
      have hz0 : (.agg [B8 0, B8 0, B8 0, .bool false] : AV) = (⟨0, 0, 0, false⟩ : Happening).av := rfl
      have hze : ∀ a b c d : Int, (.agg [I a, I b, I c, I d] : AV) = (⟨a, b, c, d⟩ : Event).av := fun _ _ _ _ => rfl
      obtain ⟨i, hi⟩ : ∃ i : Nat, h.child.tmod x.children.l.length = i := ⟨(h.child.tmod x.children.l.length).toNat, by omega⟩
      have hil : i < s.children.l.length := by omega
      have hA : ∀ b c : Blk, (G ++ [b]).set G.length c = G ++ [c] := fun b c => by simp
      have hB : ∀ a b c : Blk, (G ++ [a] ++ [b]).set (G.length + 1) c = G ++ [a] ++ [c] := fun a b c => by simp
      have hC : ∀ a b d c : Blk, (G ++ [a] ++ [b] ++ [d]).set (G.length + 2) c = G ++ [a] ++ [b] ++ [c] := fun a b d c => by simp
      have a0 : ∀ a : Blk, (G ++ [a])[0]? = some (.arr 0 4 false [x.av]) := fun a => app_get hM.g0 a
      have a1 : ∀ a : Blk, (G ++ [a])[1]? = some (.arr 0 4 false [s.av]) := fun a => app_get hM.g1 a
      have a2 : ∀ a : Blk, (G ++ [a])[G.length]? = some a := fun a => app_last G a
      have b0 : ∀ a b : Blk, (G ++ [a] ++ [b])[0]? = some (.arr 0 4 false [x.av]) := fun a b => app_get (a0 a) b
      have b1' : ∀ a b : Blk, (G ++ [a] ++ [b])[1]? = some (.arr 0 4 false [s.av]) := fun a b => app_get (a1 a) b
      have b2' : ∀ a b : Blk, (G ++ [a] ++ [b])[G.length]? = some a := fun a b => app_get (a2 a) b
      have b3' : ∀ a b : Blk, (G ++ [a] ++ [b])[G.length + 1]? = some b := fun a b => by simp
      have c0 : ∀ a b c : Blk, (G ++ [a] ++ [b] ++ [c])[0]? = some (.arr 0 4 false [x.av]) := fun a b c => app_get (b0 a b) c
      have c1 : ∀ a b c : Blk, (G ++ [a] ++ [b] ++ [c])[1]? = some (.arr 0 4 false [s.av]) := fun a b c => app_get (b1' a b) c
      have c2 : ∀ a b c : Blk, (G ++ [a] ++ [b] ++ [c])[G.length + 1]? = some b := fun a b c => app_get (b3' a b) c
      have c3 : ∀ a b c : Blk, (G ++ [a] ++ [b] ++ [c])[G.length + 2]? = some c := fun a b c => by simp
      have kB : ∀ a b : Blk, Kept none G (G ++ [a] ++ [b]) := fun a b => (Kept.append none G [a]).trans (Kept.append none _ [b])
      have kC : ∀ a b c : Blk, Kept none G (G ++ [a] ++ [b] ++ [c]) := fun a b c => (kB a b).trans (Kept.append none _ [c])
      have hov := hM
      unfold nextEv at hround
      rw [hi] at hround
      cases hs : h.stop with
      | true =>
        simp only [hs, if_true] at hround
        by_cases h4 : s.status = 4
        · simp only [if_pos h4] at hround
          rcases hround with ⟨_, hP'⟩ | ⟨e, t, a, he, _⟩
          · simp [evl22_0, b22_0, intBin, hk, hh, hwk, hz, hz0, hze, hA, hB, hC, a0, a1, a2, b0, b1', b2', b3', c0, c1, c2, c3, w1, w2, w3, w4, w5, hi, hxne, hs, hil, Nat.not_le_of_lt hil, List.getElem?_cons_zero, -List.append_assoc, -getElem?_pos, h4]
            exact ⟨_, _, _, _, ⟨rfl, rfl⟩, hM.kept (kB _ _), hP'⟩
          · cases he
        · simp only [if_neg h4] at hround
          rcases hround with ⟨hno, _⟩ | ⟨e, t, a, he, c13, htl, hP'⟩
          · cases hno
          · cases he
            obtain ⟨ov', G3, u1, u2, u3, u4, u6, u5⟩ := ((hM.kept (kC (.arr 0 4 false [h.av]) (.arr 0 4 false [(⟨2, -1, 0, now + h.after⟩ : Event).av]) (.arr 0 4 false [t.av]))).app (by have := hP.len; omega) ⟨s, t, ⟨2, -1, 0, now + h.after⟩, a⟩ t)
            simp [evl22_0, b22_0, intBin, hk, hh, hwk, hz, hz0, hze, hA, hB, hC, a0, a1, a2, b0, b1', b2', b3', c0, c1, c2, c3, w1, w2, w3, w4, w5, hi, hxne, hs, hil, Nat.not_le_of_lt hil, List.getElem?_cons_zero, -List.append_assoc, -getElem?_pos, h4, c13, htl, u1, u2, u3, u4, u6 _ _ (c3 _ _ _)]
            exact ⟨_, _, _, _, ⟨rfl, rfl⟩, u5, hP'⟩
      | false =>
        simp only [hs, Bool.false_eq_true, if_false] at hround
        obtain ⟨c, hcs⟩ : ∃ c, s.children.l[i]? = some c := ⟨_, List.getElem?_eq_getElem hil⟩
        simp only [Int.toNat_natCast, hcs] at hround
        by_cases h2 : c.status = 2
        · simp only [if_pos h2] at hround
          rcases hround with ⟨hno, _⟩ | ⟨e, t, a, he, c13, htl, hP'⟩
          · cases hno
          · cases he
            obtain ⟨ov', G3, u1, u2, u3, u4, u6, u5⟩ := ((hM.kept (kC (.arr 0 4 false [h.av]) (.arr 0 4 false [(⟨1, i, 1, now + h.after⟩ : Event).av]) (.arr 0 4 false [t.av]))).app (by have := hP.len; omega) ⟨s, t, ⟨1, i, 1, now + h.after⟩, a⟩ t)
            simp [evl22_0, b22_0, intBin, hk, hh, hwk, hz, hz0, hze, hA, hB, hC, a0, a1, a2, b0, b1', b2', b3', c0, c1, c2, c3, w1, w2, w3, w4, w5, hi, hxne, hs, hil, Nat.not_le_of_lt hil, List.getElem?_cons_zero, -List.append_assoc, -getElem?_pos, hcs, h2, c13, htl, u1, u2, u3, u4, u6 _ _ (c3 _ _ _)]
            exact ⟨_, _, _, _, ⟨rfl, rfl⟩, u5, hP'⟩
        · by_cases h1 : c.status = 1
          · simp only [if_neg h2, if_pos h1] at hround
            rcases hround with ⟨hno, _⟩ | ⟨e, t, a, he, c13, htl, hP'⟩
            · cases hno
            · cases he
              obtain ⟨ov', G3, u1, u2, u3, u4, u6, u5⟩ := ((hM.kept (kC (.arr 0 4 false [h.av]) (.arr 0 4 false [(⟨1, i, 100 * h.reason.tmod 2, now + h.after⟩ : Event).av]) (.arr 0 4 false [t.av]))).app (by have := hP.len; omega) ⟨s, t, ⟨1, i, 100 * h.reason.tmod 2, now + h.after⟩, a⟩ t)
              simp [evl22_0, b22_0, intBin, hk, hh, hwk, hz, hz0, hze, hA, hB, hC, a0, a1, a2, b0, b1', b2', b3', c0, c1, c2, c3, w1, w2, w3, w4, w5, hi, hxne, hs, hil, Nat.not_le_of_lt hil, List.getElem?_cons_zero, -List.append_assoc, -getElem?_pos, hcs, h2, h1, c13, htl, u1, u2, u3, u4, u6 _ _ (c3 _ _ _)]
              exact ⟨_, _, _, _, ⟨rfl, rfl⟩, u5, hP'⟩
          · simp only [if_neg h2, if_neg h1] at hround
            rcases hround with ⟨_, hP'⟩ | ⟨e, t, a, he, _⟩
            · simp [evl22_0, b22_0, intBin, hk, hh, hwk, hz, hz0, hze, hA, hB, hC, a0, a1, a2, b0, b1', b2', b3', c0, c1, c2, c3, w1, w2, w3, w4, w5, hi, hxne, hs, hil, Nat.not_le_of_lt hil, List.getElem?_cons_zero, -List.append_assoc, -getElem?_pos, hcs, h2, h1]
              exact ⟨_, _, _, _, ⟨rfl, rfl⟩, hM.kept (kB _ _), hP'⟩
            · cases he
    · rintro ⟨⟩ F G ⟨now, s, ms, ov, rfl, hM, hP⟩
      obtain ⟨o, hgr, _⟩ := hM.own
      have := hP.len
      simp [evl22_0, b22_0, intBin]
      exact ⟨s, ms, hM, hP.moves, by omega⟩
  have key : okV (evFun W fi22 [x.av, Sl.av Happening.av 4 l] []) (fun v G => ∃ u, Go.Proofs.Ythenmgpbcmlhoaa.frz G 8 v = some u ∧ PlayOk x u) := by
    by_cases h40 : (40 : Int) < l.l.length
    · have h41 : (40 : Int) ≤ l.l.length := by omega
      have hlen' : (l.part 4 0 40).l.length = min 40 l.l.length := by simp [Sl.part]
      have hfold : (.isl l.nl (if l.l = [] then l.z else 4) (List.take 40 (List.map Happening.av l.l)) : AV) = Sl.av Happening.av 4 (l.part 4 0 40) := by
        rw [← sl_part 0 40 (by omega)]
        cases l.l <;> simp
      obtain ⟨y, F, G, e1, rfl, s, ms, hM, hms, hml⟩ := okC_iff.1 (loop (l.part 4 0 40) (by rw [hlen']; omega) (fun h hh => hl h (by exact List.mem_of_mem_take (by simpa [Sl.part] using hh))))
      obtain ⟨o, hgr, _⟩ := hM.own
      have f1 := hgr.sl (n := 6) (all_still (fun x => by simp) _)
      simp [fi22, c22, evFun, enterFr, intBin, resV, rvVs, rvV, c29, hz, h40, h41, hfold, e1, hgr.okO, f1]
      refine ⟨if o = none then slNil else ofL 13 ms, rfl, ?_⟩
      cases o with
      | none =>
        have : ms = [] := by have := hgr.2; simpa using this
        subst this
        exact ⟨hms, by simp⟩
      | some i => exact ⟨hms, hml⟩
    · have h41 : (l.l.length : Int) ≤ 40 := by omega
      have hlen' : (l.part 4 0 l.l.length).l.length = l.l.length := by simp [Sl.part]
      have hfold : (.isl l.nl (if l.l = [] then l.z else 4) (List.take l.l.length (List.map Happening.av l.l)) : AV) = Sl.av Happening.av 4 (l.part 4 0 l.l.length) := by
        rw [← sl_part 0 l.l.length (by omega)]
        cases l.l <;> simp
      obtain ⟨y, F, G, e1, rfl, s, ms, hM, hms, hml⟩ := okC_iff.1 (loop (l.part 4 0 l.l.length) (by rw [hlen']; omega) (fun h hh => hl h (by simpa [Sl.part] using hh)))
      obtain ⟨o, hgr, _⟩ := hM.own
      have f1 := hgr.sl (n := 6) (all_still (fun x => by simp) _)
      simp [fi22, c22, evFun, enterFr, intBin, resV, rvVs, rvV, c29, hz, h40, hfold, e1, hgr.okO, f1]
      refine ⟨if o = none then slNil else ofL 13 ms, rfl, ?_⟩
      cases o with
      | none =>
        have : ms = [] := by have := hgr.2; simpa using this
        subst this
        exact ⟨hms, by simp⟩
      | some i => exact ⟨hms, hml⟩
  obtain ⟨v, G, g1, u, g2, g3⟩ := okV_iff.1 key
  refine ⟨u, ?_, g3⟩
  rw [W_pure Φ22 (by simp), g1]
  exact g2
end
section
open Go Go.RowKit
set_option linter.unusedVariables false
set_option linter.unusedSimpArgs false
set_option maxRecDepth 10000

/-- A restart: what is told to stop. -/
def restartS (x : Spec) (tm : Int) (n : Nat) (r : RunSt) : RunSt := stopS tm (affL x n) (({ r with rs := recentL x tm r.rs ++ [tm] } : RunSt).setS n 4)
structure Exit (x : Spec) (s : State) (e : Event) (n : Nat) (c : ChildState) (ch : Child) : Prop where
  kind : e.kind = 1
  child : e.child = n
  hc : s.children.l[n]? = some c
  hch : x.children.l[n]? = some ch
inductive HWay (x : Spec) (s : State) (e : Event) (r : RunSt) : Prop
  | quiet (n : Nat) (c : ChildState) (ch : Child) (h : Exit x s e n c ch) (hs : c.status = 1) (hq : quietB ch e.value = true) (hr : r = (runOf s).setS n 3) (hst : s.status = 1 ∨ s.status = 2) (hf : s.failed = false)
  | fail (n : Nat) (c : ChildState) (ch : Child) (h : Exit x s e n c ch) (hs : c.status = 1) (hq : quietB ch e.value = false) (hi : x.intensity ≤ ((recentL x e.time s.restarts.l).length : Int)) (hr : r = shutS e.time { (runOf s).setS n 3 with fl := true }) (hst : s.status = 1 ∨ s.status = 2) (hf : s.failed = false)
  | again (n : Nat) (c : ChildState) (ch : Child) (h : Exit x s e n c ch) (hs : c.status = 1) (hq : quietB ch e.value = false) (hi : ((recentL x e.time s.restarts.l).length : Int) < x.intensity) (hz : ¬ Has (restartS x e.time n (runOf s)).cs 2) (hr : r = againS e.time (restartS x e.time n (runOf s))) (hst : s.status = 1 ∨ s.status = 2) (hf : s.failed = false)
  | hold (n : Nat) (c : ChildState) (ch : Child) (h : Exit x s e n c ch) (hs : c.status = 1) (hq : quietB ch e.value = false) (hi : ((recentL x e.time s.restarts.l).length : Int) < x.intensity) (hz : Has (restartS x e.time n (runOf s)).cs 2) (hr : r = { restartS x e.time n (runOf s) with st := 2 }) (hst : s.status = 1 ∨ s.status = 2) (hf : s.failed = false)
  | wait (n : Nat) (c : ChildState) (ch : Child) (h : Exit x s e n c ch) (hs : c.status = 2) (hz : Has (stopping1 n ch (runOf s)).cs 2) (hr : r = stopping1 n ch (runOf s)) (hst : s.status = 2 ∨ s.status = 3)
  | wake (n : Nat) (c : ChildState) (ch : Child) (h : Exit x s e n c ch) (hs : c.status = 2) (hz : ¬ Has (stopping1 n ch (runOf s)).cs 2) (hr : r = againS e.time (stopping1 n ch (runOf s))) (hst : s.status = 2) (hf : s.failed = false)
  | done (n : Nat) (c : ChildState) (ch : Child) (h : Exit x s e n c ch) (hs : c.status = 2) (hz : ¬ Has (stopping1 n ch (runOf s)).cs 2) (hr : r = (stopping1 n ch (runOf s)).stopped e.time) (hst : s.status = 3)
  | asked (hk : e.kind = 2) (hr : r = shutS e.time (runOf s)) (hst : s.status = 1 ∨ s.status = 2) (hf : s.failed = false)
  | still (hk : e.kind = 2) (hr : r = runOf s) (hst : s.status = 3)
theorem handle_way {x : Spec} {m : Int} {s : State} {e : Event} (hi : Inv x m (runOf s)) (hc : checkN x s e = 0) : HWay x s e (handleR x s e) := by
  obtain ⟨hk, ht, hs, hd⟩ := check_facts hc
  have hfit := hi.fit
  have hfl := hi.fl
  simp only [runOf] at hfit hfl
  unfold handleR
  rcases hk with ⟨h1, h2, h3⟩ | ⟨h1, _⟩
  · rw [if_pos h1]
    have hin : 0 ≤ e.child ∧ e.child ≤ (x.children.l.length : Int) - 1 := by simpa [inR] using h2
    have hlen := hi.len
    simp only [runOf] at hlen
    have g1 := List.getElem?_eq_getElem (l := x.children.l) (i := e.child.toNat) (by omega)
    have g2 := List.getElem?_eq_getElem (l := s.children.l) (i := e.child.toNat) (by omega)
    have hat : Exit x s e e.child.toNat _ _ := ⟨h1, by omega, g2, g1⟩
    simp only [g1, g2]
    unfold exitedS
    split
    · rename_i h4
      have hst : s.status = 1 ∨ s.status = 2 := by
        rcases hfit with ⟨a, _⟩ | ⟨a, _⟩ | ⟨_, _, a, _⟩ | ⟨_, a, _⟩
        · exact .inl a
        · exact .inr a
        · exact absurd ⟨_, _, g2, h4⟩ a
        · exact absurd ⟨_, _, g2, h4⟩ a
      have hf : s.failed = false := by
        cases hf : s.failed with
        | false => rfl
        | true => have := hfl hf; omega
      cases hq : quietB x.children.l[e.child.toNat] e.value with
      | true => exact .quiet _ _ _ hat h4 hq (by unfold runningS; rw [if_pos hq]) hst hf
      | false =>
        by_cases hint : x.intensity ≤ ((recentL x e.time s.restarts.l).length : Int)
        · refine .fail _ _ _ hat h4 hq hint ?_ hst hf
          unfold runningS
          rw [if_neg (by simp [hq]), if_pos (by exact hint)]
        · by_cases hz : Has (restartS x e.time e.child.toNat (runOf s)).cs 2
          · refine .hold _ _ _ hat h4 hq (by omega) hz ?_ hst hf
            unfold runningS
            rw [if_neg (by simp [hq]), if_neg (by exact hint), if_neg (by have := cnt_pos.2 hz; unfold restartS at this; omega)]
            rfl
          · refine .again _ _ _ hat h4 hq (by omega) hz ?_ hst hf
            unfold runningS
            rw [if_neg (by simp [hq]), if_neg (by exact hint), if_pos (by have := cnt_zero.2 hz; unfold restartS at this; exact this)]
            rfl
    · rename_i h4
      have h5 : s.children.l[e.child.toNat].status = 2 := by
        unfold deadB at hd
        rw [if_pos h1, g2] at hd
        simp at hd
        exact hd h4
      have hst : s.status = 2 ∨ s.status = 3 := by
        rcases hfit with ⟨_, a, _⟩ | ⟨a, _⟩ | ⟨a, _⟩ | ⟨_, _, a, _⟩
        · exact absurd ⟨_, _, g2, h5⟩ a
        · exact .inl a
        · exact .inr a
        · exact absurd ⟨_, _, g2, h5⟩ a
      unfold stoppingS
      by_cases hz : Has (stopping1 e.child.toNat x.children.l[e.child.toNat] (runOf s)).cs 2
      · rw [if_pos (cnt_pos.2 hz)]
        exact .wait _ _ _ hat h5 hz rfl hst
      · rw [if_neg (by have := cnt_zero.2 hz; omega)]
        by_cases h22 : s.status = 2
        · rw [if_pos (by exact h22)]
          refine .wake _ _ _ hat h5 hz rfl h22 ?_
          cases hf : s.failed with
          | false => rfl
          | true => have := hfl hf; omega
        · rw [if_neg (by exact h22)]
          exact .done _ _ _ hat h5 hz rfl (by omega)
  · rw [if_neg (by omega)]
    unfold askedS
    split
    · rename_i h3
      exact .still h1 rfl h3
    · rename_i h3
      have h4 : ¬ s.status = 4 := by
        unfold deadB at hd
        rw [if_neg (by omega)] at hd
        simpa using hd
      have h3' : ¬ s.status = 3 := h3
      have hst : s.status = 1 ∨ s.status = 2 := by
        rcases hfit with ⟨a, _⟩ | ⟨a, _⟩ | ⟨a, _⟩ | ⟨a, _⟩
        · exact .inl a
        · exact .inr a
        · exact absurd a h3'
        · exact absurd a h4
      refine .asked h1 rfl hst ?_
      cases hf : s.failed with
      | false => rfl
      | true => have := hfl hf; omega
theorem shut_out (tm : Int) (r : RunSt) : (shutS tm r).out = r.out ++ stopOut tm (holdS r).cs (idxs r.cs.length) ++ (if (shutS tm r).st = 4 ∧ r.fl = true then [⟨5, -1, 0, tm⟩] else []) := by
  have h1 := stopS_rest tm (idxs r.cs.length) (holdS r)
  rw [holdS_rest] at h1
  simp only [RunSt.rest, Prod.mk.injEq] at h1
  have h2 := stopS_out' tm (idxs r.cs.length) (holdS r) (idxs_nn _) (idxs_nodup _)
  rw [holdS_out] at h2
  unfold shutS
  split
  · rw [if_neg (by simp), List.append_nil]
    exact h2
  · obtain ⟨s1, s2, s3, s4, s5⟩ := stopped_rest tm (stopS tm (idxs r.cs.length) (holdS r))
    rw [s5, h2, s1, h1.2.2]
    cases r.fl <;> simp
/-- How many escalations are there? -/
def escN (l : List Event) : Nat := (l.filter fun a => decide (a.kind = 5)).length
theorem stopOut_kind (tm : Int) (cs : List ChildState) (l : List Int) : ∀ a ∈ stopOut tm cs l, a.kind = 4 := by
  intro a ha
  obtain ⟨b, _, hb⟩ := List.mem_filterMap.1 ha
  unfold stopEv at hb
  split at hb
  · split at hb
    · cases hb; rfl
    · cases hb
  · cases hb
theorem againOut_kind (tm : Int) (cs : List ChildState) (j : Nat) : ∀ a ∈ againOut tm cs j, a.kind = 3 := by
  intro a ha
  obtain ⟨b, _, hb⟩ := List.mem_filterMap.1 ha
  split at hb
  · cases hb; rfl
  · cases hb
theorem esc_zero {l : List Event} (h : ∀ a ∈ l, a.kind ≠ 5) : escN l = 0 := by
  unfold escN
  rw [List.length_eq_zero_iff, List.filter_eq_nil_iff]
  intro a ha
  simpa using h a ha
theorem esc_append (a b : List Event) : escN (a ++ b) = escN a + escN b := by simp [escN, List.filter_append]
theorem restart_out (x : Spec) (tm : Int) (n : Nat) (r : RunSt) : (restartS x tm n r).out = r.out ++ stopOut tm (({ r with rs := recentL x tm r.rs ++ [tm] } : RunSt).setS n 4).cs (affL x n) := by
  unfold restartS
  rw [stopS_out' _ _ _ (affL_nn x n) (affL_nodup x n), setS_out]
theorem restart_rest (x : Spec) (tm : Int) (n : Nat) (r : RunSt) : (restartS x tm n r).st = r.st ∧ (restartS x tm n r).fl = r.fl ∧ (restartS x tm n r).rs = recentL x tm r.rs ++ [tm] := by
  have h1 := stopS_rest tm (affL x n) (({ r with rs := recentL x tm r.rs ++ [tm] } : RunSt).setS n 4)
  rw [setS_rest] at h1
  simp only [RunSt.rest, Prod.mk.injEq] at h1
  exact ⟨h1.1, h1.2.2, h1.2.1⟩
theorem stopping_rest (n : Nat) (ch : Child) (r : RunSt) : (stopping1 n ch r).st = r.st ∧ (stopping1 n ch r).fl = r.fl ∧ (stopping1 n ch r).rs = r.rs ∧ (stopping1 n ch r).out = r.out := by
  have h1 : (stopping1 n ch r).rest = r.rest := setS_rest _ _ _
  simp only [RunSt.rest, Prod.mk.injEq] at h1
  exact ⟨h1.1, h1.2.2, h1.2.1, setS_out _ _ _⟩
def escB (s : Int) (f : Bool) : Nat := if f = true ∧ s = 4 then 1 else 0
theorem shut_esc (tm : Int) (r : RunSt) (ho : r.out = []) : escN (shutS tm r).out = escB (shutS tm r).st r.fl ∧ ∀ a ∈ (shutS tm r).out, a.kind ≠ 3 := by
  have h := shut_out tm r
  rw [ho, List.nil_append] at h
  rw [h, esc_append, esc_zero (fun a ha => by rw [stopOut_kind _ _ _ a ha]; decide)]
  unfold escB
  refine ⟨?_, fun a ha => ?_⟩
  · by_cases hc : (shutS tm r).st = 4 ∧ r.fl = true
    · rw [if_pos hc, if_pos ⟨hc.2, hc.1⟩]; rfl
    · rw [if_neg hc, if_neg (fun h => hc ⟨h.2, h.1⟩)]; rfl
  · rcases List.mem_append.1 ha with h1 | h1
    · rw [stopOut_kind _ _ _ a h1]; decide
    · split at h1
      · have : a = ⟨5, -1, 0, tm⟩ := by simpa using h1
        subst this; simp
      · cases h1
/-- What SupervisorShutdown looks at, in one move. -/
theorem shutdown_move {x : Spec} {m : Int} {s : State} {e : Event} (hi : Inv x m (runOf s)) (hc : checkN x s e = 0) (h0 : chk x = 0) :
    (3 ≤ (handleR x s e).st ↔ (3 ≤ s.status ∨ e.kind = 2 ∨ (handleR x s e).fl = true)) ∧ (3 ≤ (handleR x s e).st → ∀ a ∈ (handleR x s e).out, a.kind ≠ 3) ∧ escN (handleR x s e).out + escB s.status s.failed = escB (handleR x s e).st (handleR x s e).fl := by
  have w := handle_way hi hc
  have e0 : ∀ (f : Bool) (st : Int), st ≠ 4 → escB st f = 0 := fun f st h => by unfold escB; rw [if_neg (fun h' => h h'.2)]
  have e1 : ∀ st : Int, escB st false = 0 := fun st => by unfold escB; rw [if_neg (by simp)]
  generalize handleR x s e = r' at *
  cases w with
  | quiet n c ch h hs hq hr hst hf =>
    have hr1 := setS_rest (runOf s) n 3
    simp only [RunSt.rest, Prod.mk.injEq] at hr1
    obtain ⟨i1, i2, i3⟩ := hr1
    rw [← hr] at i1 i2 i3
    have ho : r'.out = [] := by rw [hr, setS_out]; rfl
    rw [ho]
    have hk := h.kind
    simp only [runOf] at i1 i3
    rw [i1, i3, hf, e1]
    exact ⟨by simp; omega, by simp, rfl⟩
  | fail n c ch h hs hq hint hr hst hf =>
    have ho : ({ (runOf s).setS n 3 with fl := true } : RunSt).out = [] := setS_out _ _ _
    obtain ⟨g1, g2⟩ := shut_esc e.time _ ho
    have z := setS_ok hi.zero n (b := 3) (by omega)
    have g3 := (shut_inv (r := { (runOf s).setS n 3 with fl := true }) ⟨z.len, z.ok, z.times, z.few⟩ e.time).2
    have g4 := (shut_rest e.time ({ (runOf s).setS n 3 with fl := true } : RunSt)).2
    rw [← hr] at g1 g2 g3 g4
    have g4 : r'.fl = true := g4
    have g1 : escN r'.out = escB r'.st true := g1
    rw [g1, g4, e0 s.failed s.status (by omega)]
    exact ⟨⟨fun _ => .inr (.inr rfl), fun _ => by omega⟩, fun _ => g2, rfl⟩
  | again n c ch h hs hq hi hz hr hst hf =>
    obtain ⟨i1, i2, i3⟩ := againS_rest e.time (restartS x e.time n (runOf s))
    obtain ⟨j1, j2, j3⟩ := restart_rest x e.time n (runOf s)
    have ho := againS_out e.time (restartS x e.time n (runOf s))
    rw [restart_out] at ho
    rw [← hr] at i1 i2 i3 ho
    have i3 : r'.fl = false := by rw [i3, j2]; exact hf
    have hk := h.kind
    have : escN r'.out = 0 := by
      rw [ho]
      simp only [runOf, List.nil_append]
      rw [esc_append, esc_zero (fun a ha => by rw [stopOut_kind _ _ _ a ha]; decide), esc_zero (fun a ha => by rw [againOut_kind _ _ _ a ha]; decide)]
    rw [i1, i3, this, e1, hf, e1]
    exact ⟨by simp; omega, by simp, rfl⟩
  | hold n c ch h hs hq hi hz hr hst hf =>
    obtain ⟨j1, j2, j3⟩ := restart_rest x e.time n (runOf s)
    have ho := restart_out x e.time n (runOf s)
    have i1 : r'.st = 2 := by rw [hr]
    have i3 : r'.fl = false := by rw [hr]; exact j2.trans hf
    have i4 : r'.out = (restartS x e.time n (runOf s)).out := by rw [hr]
    rw [ho] at i4
    have hk := h.kind
    have : escN r'.out = 0 := by
      rw [i4]
      simp only [runOf, List.nil_append]
      rw [esc_zero (fun a ha => by rw [stopOut_kind _ _ _ a ha]; decide)]
    rw [i1, i3, this, e1, hf, e1]
    exact ⟨by simp; omega, by simp, rfl⟩
  | wait n c ch h hs hz hr hst =>
    obtain ⟨j1, j2, j3, j4⟩ := stopping_rest n ch (runOf s)
    rw [← hr] at j1 j2 j3 j4
    have hk := h.kind
    have hfl := hi.fl
    simp only [runOf] at j1 j2 j4 hfl
    rw [j1, j2, j4]
    refine ⟨⟨fun h => .inl h, fun h => ?_⟩, by simp, by rw [e0 _ _ (by omega)]; rfl⟩
    rcases h with h | h | h
    · exact h
    · omega
    · have := hfl h; omega
  | wake n c ch h hs hz hr hst hf =>
    obtain ⟨i1, i2, i3⟩ := againS_rest e.time (stopping1 n ch (runOf s))
    obtain ⟨j1, j2, j3, j4⟩ := stopping_rest n ch (runOf s)
    have ho := againS_out e.time (stopping1 n ch (runOf s))
    rw [← hr] at i1 i2 i3 ho
    rw [j4] at ho
    have i3 : r'.fl = false := by rw [i3, j2]; exact hf
    have hk := h.kind
    have : escN r'.out = 0 := by
      rw [ho]
      simp only [runOf, List.nil_append]
      rw [esc_zero (fun a ha => by rw [againOut_kind _ _ _ a ha]; decide)]
    rw [i1, i3, this, e1, hf, e1]
    exact ⟨by simp; omega, by simp, rfl⟩
  | done n c ch h hs hz hr hst =>
    obtain ⟨i1, i2, i3, i4, i5⟩ := stopped_rest e.time (stopping1 n ch (runOf s))
    obtain ⟨j1, j2, j3, j4⟩ := stopping_rest n ch (runOf s)
    rw [← hr] at i1 i2 i3 i4 i5
    rw [j4, j2] at i5
    have i3 : r'.fl = s.failed := by rw [i3, j2]; rfl
    have i5 : r'.out = [] ++ if s.failed = true then [⟨5, -1, 0, e.time⟩] else [] := i5
    rw [List.nil_append] at i5
    rw [i1, i3, e0 _ _ (by omega : s.status ≠ 4)]
    cases hf : s.failed with
    | true =>
      rw [hf, if_pos rfl] at i5
      rw [i5]
      refine ⟨⟨fun _ => .inl (by omega), fun _ => by omega⟩, fun _ a ha => ?_, rfl⟩
      have : a = ⟨5, -1, 0, e.time⟩ := by simpa using ha
      subst this; simp
    | false =>
      rw [hf, if_neg (by simp)] at i5
      rw [i5]
      exact ⟨⟨fun _ => .inl (by omega), fun _ => by omega⟩, by simp, rfl⟩
  | asked hk hr hst hf =>
    obtain ⟨g1, g2⟩ := shut_esc e.time (runOf s) rfl
    have g3 := (shut_inv hi.zero e.time).2
    have g4 := (shut_rest e.time (runOf s)).2
    rw [← hr] at g1 g2 g3 g4
    have g4 : r'.fl = false := g4.trans hf
    have h5 : (runOf s).fl = false := hf
    rw [g1, g4, h5, e1, e0 _ _ (by omega : s.status ≠ 4)]
    exact ⟨⟨fun _ => .inr (.inl hk), fun _ => by omega⟩, fun _ => g2, rfl⟩
  | still hk hr hst =>
    subst hr
    simp only [runOf]
    rw [e0 _ _ (by omega : s.status ≠ 4)]
    exact ⟨⟨fun h => .inl h, fun _ => by omega⟩, by simp, rfl⟩
end
section
open Go Go.RowKit
set_option linter.unusedVariables false
set_option linter.unusedSimpArgs false
set_option maxRecDepth 10000
set_option maxHeartbeats 1000000
attribute [local irreducible] okV okC

def fineB (x : Spec) : Bool := !greatB x && decide (chk x = 0)
theorem e21 (x : Spec) : W.pure 21 [x.av] = some (.bool (fineB x)) := by
  have h10 := e10 x
  have h32 := e32 x
  rw [W_pure Φ21 (by simp)]
  unfold fineB
  cases hg : greatB x <;> rw [hg] at h10 <;> simp [fi21, c21, evFun, enterFr, intBin, resV, rvVs, rvV, h10, h32]
theorem fine_facts {x : Spec} (h : fineB x = true) : chk x = 0 ∧ x.children.l.length ≤ 18 ∧ ∀ c ∈ x.children.l, c.name.length ≤ 1000000 := by
  simp only [fineB, Bool.and_eq_true, Bool.not_eq_true', decide_eq_true_eq] at h
  obtain ⟨h1, h2⟩ := great_false h.1
  exact ⟨h.2, h1, fun c hc => by have := h2 c hc; omega⟩
/-- What is known of a move. -/
structure MoveOk (x : Spec) (m : Int) (c : Core) (mv : Move) : Prop where
  before : mv.before.core = c
  inv : Inv x m (runOf mv.before)
  chk : checkN x mv.before mv.event = 0
  after : StOk mv.after (handleR x mv.before mv.event)
  inv' : Inv x (m + 1) (handleR x mv.before mv.event)
  acts : mv.actions.l = (handleR x mv.before mv.event).out
theorem Moves.at {x : Spec} (h0 : chk x = 0) {ms : List Move} (h : Moves x ms) (hl : ms.length ≤ 40) {k : Nat} {mv : Move} (hk : ms[k]? = some mv) : MoveOk x (k + 1) (curSt x ms k) mv ∧ curSt x ms (k + 1) = mv.after.core := by
  have g := h.good k mv hk
  have hlt := (List.getElem?_eq_some_iff.1 hk).1
  refine ⟨⟨h.cur k mv hk, g.inv, g.chk, g.after, handle_inv h0 (by omega) g.inv g.chk, g.acts⟩, by simp only [curSt, hk]⟩
theorem call24 (y : ChildState) (H : Heap) : okV (W.call (.clo 24 [] []) [y.av] H) (fun v H' => v = .bool (!decide (y.status = 3))) := by
  rw [W_call Φ24]
  simp [fi24, c24, evFun, enterFr, intBin, resV, rvVs, rvV]
theorem inner5 (b : Bool) (n k : Nat) (L : Sl Move) (a : Sl Event) (ha : a.l.length ≤ 100000) (hb : b = true → ∀ e ∈ a.l, e.kind ≠ 3) (hn : n ≤ 100000) {N : Nat} {mv : Move} {H : Heap} (hN : H[N]? = some (.arr 0 13 false [mv.av])) :
    okC (W.loop [7, 8, 10, 27, 28, 29, 46, 47, 48] l5_0 [(7, .bool b), (8, I n), (10, .optr N 0 0 0), (27, Sl.av Move.av 13 L), (28, I L.l.length), (29, I k), (46, Sl.av Event.av 4 a), (47, I a.l.length), (48, I 0)] H)
      (fun y F G => y = .exit 2 ∧ F.keep [7, 8, 10, 27, 28, 29] = [(7, .bool b), (8, I (n + escN a.l : Nat)), (10, .optr N 0 0 0), (27, Sl.av Move.av 13 L), (28, I L.l.length), (29, I k)] ∧ G[N]? = some (.arr 0 13 false [mv.av])) := by
  have hL := loop_fold (Φ := Φ) (live := [7, 8, 10, 27, 28, 29, 46, 47, 48]) (L := l5_0) a.l (σ := Nat) (fun _ e s => if decide (e.kind = 5) = true then s + 1 else s) (fun j s F G => F = [(7, .bool b), (8, I s), (10, .optr N 0 0 0), (27, Sl.av Move.av 13 L), (28, I L.l.length), (29, I k), (46, Sl.av Event.av 4 a), (47, I a.l.length), (48, I j)] ∧ s ≤ n + j ∧ G[N]? = some (.arr 0 13 false [mv.av]))
    (fun s y F G => y = .exit 2 ∧ F.keep [7, 8, 10, 27, 28, 29] = [(7, .bool b), (8, I s), (10, .optr N 0 0 0), (27, Sl.av Move.av 13 L), (28, I L.l.length), (29, I k)] ∧ G[N]? = some (.arr 0 13 false [mv.av])) (s := n) (F := [(7, .bool b), (8, I n), (10, .optr N 0 0 0), (27, Sl.av Move.av 13 L), (28, I L.l.length), (29, I k), (46, Sl.av Event.av 4 a), (47, I a.l.length), (48, I 0)]) (H := H) ⟨rfl, by omega, hN⟩ ?_ ?_
  · rw [count_fold (fun e : Event => decide (e.kind = 5))] at hL
    exact hL
  · rintro j e s F G hj he ⟨rfl, hs, hg⟩
    have hw := wrap_succ (k := j) (by omega)
    have hw2 := wrap_succ (k := s) (by omega)
    have hze : (.agg [I 0, I 0, I 0, I 0] : AV) = (⟨0, 0, 0, 0⟩ : Event).av := rfl
    have hA : ∀ b c : Blk, (G ++ [b]).set G.length c = G ++ [c] := fun b c => by simp
    have hg2 : ∀ b : Blk, (G ++ [b])[N]? = some (.arr 0 13 false [mv.av]) := fun b => app_get hg b
    have hlast : ∀ b : Blk, (G ++ [b])[G.length]? = some b := fun b => app_last G b
    have hmem := List.mem_of_getElem? he
    by_cases h3 : e.kind = 3
    · cases b with
      | true => exact absurd h3 (hb rfl e hmem)
      | false =>
        simp [evl5_0, b5_0, intBin, hj, he, hw, hze, hA, hlast, h3, List.getElem?_cons_zero, hg2, -getElem?_pos]
        omega
    · by_cases h5 : e.kind = 5
      · simp [evl5_0, b5_0, intBin, hj, he, hw, hw2, hze, hA, hlast, h5, List.getElem?_cons_zero, hg2, -getElem?_pos]
        omega
      · simp [evl5_0, b5_0, intBin, hj, he, hw, hze, hA, hlast, h3, h5, List.getElem?_cons_zero, hg2, -getElem?_pos]
        omega
  · rintro s F G ⟨rfl, hs, hg⟩
    simp [evl5_0, b5_0, intBin]
    exact hg
theorem turn5 {x : Spec} (h0 : chk x = 0) (m : Sl Move) (hm : Moves x m.l) (hml : m.l.length ≤ 40) (hx18 : x.children.l.length ≤ 18) {k : Nat} {mv : Move} (hk : k < m.l.length) (hmv : m.l[k]? = some mv) (b : Bool) (n : Nat) (hb : b = decide (3 ≤ (curSt x m.l k).1)) (hn : n = escB (curSt x m.l k).1 (curSt x m.l k).2.2.2) (G : Heap) :
    okC (evC W l5_1 [(7, .bool b), (8, I n), (27, Sl.av Move.av 13 m), (28, I m.l.length), (29, I k)] G) (fun y F' H' => y = .normal ∧ F'.keep [7, 8, 27, 28, 29] = [(7, .bool (decide (3 ≤ (curSt x m.l (k + 1)).1))), (8, I (escB (curSt x m.l (k + 1)).1 (curSt x m.l (k + 1)).2.2.2)), (27, Sl.av Move.av 13 m), (28, I m.l.length), (29, I (k + 1))]) := by
  obtain ⟨ok, hnext⟩ := hm.at h0 hml hmv
  obtain ⟨d1, d2, d3⟩ := shutdown_move ok.inv ok.chk h0
  have hbef := ok.before
  rw [hnext]
  rw [← hbef] at hb hn
  simp only [State.core] at hb hn ⊢
  have hsz := size_handle x mv.before mv.event
  have z3 := hsz.out
  have z1 := hsz.cs
  have hlen := ok.inv.len
  simp only [runOf, List.length_nil] at z1 z3 hlen
  rw [← ok.acts] at d2 d3 z3
  rw [← ok.after.st, ← ok.after.fl] at d1
  rw [← ok.after.st] at d2
  rw [← ok.after.st, ← ok.after.fl] at d3
  have hinv' : Inv x (k + 1 + 1) (runOf mv.after) := inv_stok ok.after ok.inv'
  have hfit := hinv'.fit
  have hok := hinv'.ok
  simp only [runOf] at hfit hok
  have hany3 : mv.after.status = 3 → mv.after.children.l.any (fun y => !decide (y.status = 3)) = true := by
    intro h
    rcases hfit with ⟨a, _⟩ | ⟨a, _⟩ | ⟨_, ⟨i, c, g1, g2⟩, _⟩ | ⟨a, _⟩
    · omega
    · omega
    · rw [List.any_eq_true]
      exact ⟨c, List.mem_of_getElem? g1, by simp; omega⟩
    · omega
  have hany4 : mv.after.status = 4 → mv.after.children.l.any (fun y => !decide (y.status = 3)) = false := by
    intro h
    rcases hfit with ⟨a, _⟩ | ⟨a, _⟩ | ⟨a, _⟩ | ⟨_, a1, a2, a4⟩
    · omega
    · omega
    · omega
    · rw [List.any_eq_false]
      intro c hc
      obtain ⟨i, hi⟩ := List.getElem?_of_mem hc
      have := hok i c hi
      have b1 : c.status ≠ 1 := fun e => a1 ⟨i, c, hi, e⟩
      have b2 : c.status ≠ 2 := fun e => a2 ⟨i, c, hi, e⟩
      have b4 : c.status ≠ 4 := fun e => a4 ⟨i, c, hi, e⟩
      simp; omega
  have h23 := e23 24 (fun y => !decide (y.status = 3)) call24 mv.after.children (by rw [ok.after.cs]; omega)
  generalize mv.after.children.l.any (fun y => !decide (y.status = 3)) = av at *
  have hst : mv.after.status = 1 ∨ mv.after.status = 2 ∨ mv.after.status = 3 ∨ mv.after.status = 4 := by
    rcases hfit with ⟨a, _⟩ | ⟨a, _⟩ | ⟨a, _⟩ | ⟨a, _⟩ <;> omega
  have hesc : n ≤ 1 := by rw [hn]; unfold escB; split <;> omega
  have hw := wrap_succ (k := k) (by omega)
  have hA : ∀ b c : Blk, (G ++ [b]).set G.length c = G ++ [c] := fun b c => by simp
  have hlast : ∀ b : Blk, (G ++ [b])[G.length]? = some b := fun b => app_last G b
  have hzm : (.agg [I 0, .isl (some true) 0 [], .isl (some true) 0 [], .bool false, I 0, .isl (some true) 0 [], .isl (some true) 0 [], .bool false, I 0, I 0, I 0, I 0, .isl (some true) 0 []] : AV) = (⟨zeroState, zeroState, ⟨0, 0, 0, 0⟩, slNil⟩ : Move).av := rfl
  -- the flag behind the event
  obtain ⟨b', hb'⟩ : ∃ b', b' = (b || decide (mv.event.kind = 2) || mv.after.failed) := ⟨_, rfl⟩
  have hbb : b' = decide (3 ≤ mv.after.status) := by
    rw [hb', hb, Bool.eq_iff_iff]
    simp only [Bool.or_eq_true, decide_eq_true_eq]
    rw [d1]
    constructor
    · rintro ((h | h) | h)
      · exact .inl (of_decide_eq_true h)
      · exact .inr (.inl h)
      · exact .inr (.inr h)
    · rintro (h | h | h)
      · exact .inl (.inl (decide_eq_true h))
      · exact .inl (.inr h)
      · exact .inr h
  obtain ⟨y, F, G', e1, rfl, e2, e3⟩ := okC_iff.1 (inner5 b' n k m mv.actions (by omega) (fun h => d2 (by rw [hbb] at h; simpa using h)) (by omega) (hlast (.arr 0 13 false [mv.av])))
  simp only [keep_cons, keep_nil, List.cons.injEq, Prod.mk.injEq, true_and, and_true] at e2
  obtain ⟨f1, f2, f3, f4, f5, f6⟩ := e2
  have hcnt : n + escN mv.actions.l = escB mv.after.status mv.after.failed := by omega
  rw [hcnt] at f2
  rw [hbb] at hb' e1 f1
  rcases hst with h | h | h | h
  all_goals
    rw [h] at hb' e1 f1 f2 hany3 hany4
    simp only [Int.reduceLE, decide_true, decide_false] at hb' e1 f1
    cases b <;> by_cases hk2 : mv.event.kind = 2 <;> cases hf : mv.after.failed <;> simp [hk2, hf] at hb'
  all_goals
    rw [hf] at f2
    simp [evl5_1, b5_1, intBin, hk, hmv, hw, hA, hzm, hlast, List.getElem?_cons_zero, -getElem?_pos, hk2, hf, h, e1, f1, f2, f3, f4, f5, f6, e3, h23, escB]
  all_goals first | exact hany3 rfl | exact hany4 rfl
theorem law5 (x : Spec) (hx : x.wf) (l : Sl Happening) (hl : SlOk Happening.wf l) : W.pure 5 [x.av, Sl.av Happening.av 4 l] = some (.bool true) := by
  have h12 := e12
  have h21 := e21 x
  rw [W_pure Φ5 (by simp)]
  cases hf : fineB x with
  | false => rw [hf] at h21; simp [fi5, c5, evFun, enterFr, intBin, resV, rvVs, rvV, h21, h12]
  | true =>
    rw [hf] at h21
    obtain ⟨h0, hx18, hn⟩ := fine_facts hf
    obtain ⟨v, h22, m, rfl, hm, hml⟩ := e22 h0 hn l hl.all (by have := hl.len; unfold maxLen at this; omega)
    have hL := loop_fold (Φ := Φ) (live := [7, 8, 27, 28, 29]) (L := l5_1) m.l (σ := Unit) (fun _ _ s => s) (fun k _ F G => F = [(7, .bool (decide (3 ≤ (curSt x m.l k).1))), (8, I (escB (curSt x m.l k).1 (curSt x m.l k).2.2.2)), (27, Sl.av Move.av 13 m), (28, I m.l.length), (29, I k)])
      (fun _ y F G => y = .exit 0) (s := ()) (F := [(7, .bool false), (8, I 0), (27, Sl.av Move.av 13 m), (28, I m.l.length), (29, I 0)]) (H := [.arr 0 4 false [x.av]]) rfl ?_ ?_
    · obtain ⟨y, F, G, e1, rfl⟩ := okC_iff.1 hL
      simp [fi5, c5, evFun, enterFr, intBin, resV, rvVs, rvV, h21, h12, h22, e1]
    · rintro k mv ⟨⟩ F G hk hmv rfl
      obtain ⟨y, F', G', e1, rfl, e2⟩ := okC_iff.1 (turn5 h0 m hm hml hx18 hk hmv _ _ rfl rfl G)
      rw [show Fr.keep [(7, .bool (decide (3 ≤ (curSt x m.l k).1))), (8, I (escB (curSt x m.l k).1 (curSt x m.l k).2.2.2)), (27, Sl.av Move.av 13 m), (28, I m.l.length), (29, I k)] [7, 8, 27, 28, 29] = [(7, .bool (decide (3 ≤ (curSt x m.l k).1))), (8, I (escB (curSt x m.l k).1 (curSt x m.l k).2.2.2)), (27, Sl.av Move.av 13 m), (28, I m.l.length), (29, I k)] from rfl, e1]
      exact okC_iff.2 ⟨_, _, _, rfl, rfl, e2⟩
    · rintro ⟨⟩ F G rfl
      simp [evl5_1, b5_1, intBin]
end
section
open Go Go.RowKit
set_option linter.unusedVariables false
set_option linter.unusedSimpArgs false
set_option maxRecDepth 10000
set_option maxHeartbeats 1000000
attribute [local irreducible] okV okC

theorem chk_child {x : Spec} (h0 : chk x = 0) : ∀ c ∈ x.children.l, 1 ≤ c.policy ∧ c.policy ≤ 3 := by
  intro c hc
  obtain ⟨i, hi⟩ := List.getElem?_of_mem hc
  unfold chk at h0
  split at h0
  · cases h0
  · split at h0
    · cases h0
    · split at h0
      · cases h0
      · rcases foldE_unit (chkStep x.children.l) x.children.l 0 with ⟨g1, g2⟩ | ⟨j, a, y, g1, g2, g3, g4⟩
        · have := g2 i c hi
          unfold chkStep at this
          split at this
          · cases this
          · split at this
            · cases this
            · split at this
              · cases this
              · rename_i h1 h2 h3
                simp [inR] at h3
                omega
        · rw [g3] at h0
          simp only at h0
          subst h0
          unfold chkStep at g2
          split at g2
          · cases g2
          · split at g2
            · cases g2
            · split at g2
              · cases g2
              · split at g2 <;> cases g2
def wantedB (x : Spec) (mv : Move) : Bool := decide (mv.event.kind = 1) && (match mv.before.children.l[mv.event.child.toNat]?, x.children.l[mv.event.child.toNat]? with
  | some c, some ch => decide (c.status = 1) && (decide (ch.policy = 1) || (decide (ch.policy = 2) && decide (100 ≤ mv.event.value)))
  | _, _ => false)
theorem exit_of {x : Spec} {s : State} {e : Event} (hl : s.children.l.length = x.children.l.length) (hc : checkN x s e = 0) (hk : e.kind = 1) : ∃ n c ch, Exit x s e n c ch := by
  obtain ⟨hk', _⟩ := check_facts hc
  rcases hk' with ⟨_, h2, _⟩ | ⟨h2, _⟩
  · have hin : 0 ≤ e.child ∧ e.child ≤ (x.children.l.length : Int) - 1 := by simpa [inR] using h2
    exact ⟨e.child.toNat, _, _, hk, by omega, List.getElem?_eq_getElem (by omega), List.getElem?_eq_getElem (by omega)⟩
  · omega
theorem e25 {x : Spec} {mv : Move} (hl : mv.before.children.l.length = x.children.l.length) (hc : checkN x mv.before mv.event = 0) : W.pure 25 [x.av, mv.av] = some (.bool (wantedB x mv)) := by
  rw [W_pure Φ25 (by simp)]
  unfold wantedB
  by_cases hk : mv.event.kind = 1
  · obtain ⟨n, c, ch, h⟩ := exit_of hl hc hk
    have hn : mv.event.child = (n : Int) := h.child
    have hcs := h.hc
    have hch := h.hch
    rw [hn]
    simp only [Int.toNat_natCast, hcs, hch]
    by_cases h1 : c.status = 1
    · by_cases p1 : ch.policy = 1
      · simp [fi25, c25, evFun, enterFr, intBin, resV, rvVs, rvV, hk, hn, hcs, hch, h1, p1]
      · by_cases p2 : ch.policy = 2
        · simp [fi25, c25, evFun, enterFr, intBin, resV, rvVs, rvV, hk, hn, hcs, hch, h1, p1, p2]
        · simp [fi25, c25, evFun, enterFr, intBin, resV, rvVs, rvV, hk, hn, hcs, hch, h1, p1, p2]
    · simp [fi25, c25, evFun, enterFr, intBin, resV, rvVs, rvV, hk, hn, hcs, hch, h1]
  · simp [fi25, c25, evFun, enterFr, intBin, resV, rvVs, rvV, hk]
theorem wanted_way {x : Spec} (h0 : chk x = 0) {mv : Move} {n : Nat} {c : ChildState} {ch : Child} (h : Exit x mv.before mv.event n c ch) (hv : mv.event.value = 0 ∨ mv.event.value = 1 ∨ mv.event.value = 100) : wantedB x mv = (decide (c.status = 1) && !quietB ch mv.event.value) := by
  have hp := chk_child h0 ch (List.mem_of_getElem? h.hch)
  have hn : mv.event.child = (n : Int) := h.child
  unfold wantedB
  rw [hn]
  simp only [h.kind, Int.toNat_natCast, h.hc, h.hch, decide_true, Bool.true_and]
  congr 1
  unfold quietB normB
  have hp' : ch.policy = 1 ∨ ch.policy = 2 ∨ ch.policy = 3 := by omega
  rcases hp' with p | p | p <;> rcases hv with v | v | v <;> simp [p, v]
theorem not_wanted {x : Spec} {mv : Move} (h : mv.event.kind = 2) : wantedB x mv = false := by simp [wantedB, h]
/-- What SupervisorIntensity looks at, in one move. -/
theorem intensity_move {x : Spec} (h0 : chk x = 0) {m : Int} {mv : Move} (hi : Inv x m (runOf mv.before)) (hc : checkN x mv.before mv.event = 0) (hv : mv.event.value = 0 ∨ mv.event.value = 1 ∨ mv.event.value = 100) (r' : RunSt) (hr' : handleR x mv.before mv.event = r') :
    (wantedB x mv = true ∧ ((recentL x mv.event.time mv.before.restarts.l).length : Int) < x.intensity ∧ r'.fl = false ∧ r'.rs = recentL x mv.event.time mv.before.restarts.l ++ [mv.event.time]) ∨
    (wantedB x mv = true ∧ x.intensity ≤ ((recentL x mv.event.time mv.before.restarts.l).length : Int) ∧ r'.fl = true ∧ r'.rs = mv.before.restarts.l) ∨
    (wantedB x mv = false ∧ r'.fl = mv.before.failed ∧ r'.rs = mv.before.restarts.l) := by
  have w := handle_way hi hc
  rw [hr'] at w
  cases w with
  | quiet n c ch h hs hq hr hst hf =>
    have hr1 := setS_rest (runOf mv.before) n 3
    simp only [RunSt.rest, Prod.mk.injEq] at hr1
    rw [← hr] at hr1
    exact .inr (.inr ⟨by rw [wanted_way h0 h hv, hq]; simp, hr1.2.2, hr1.2.1⟩)
  | fail n c ch h hs hq hint hr hst hf =>
    obtain ⟨g3, g4⟩ := shut_rest mv.event.time ({ (runOf mv.before).setS n 3 with fl := true } : RunSt)
    rw [← hr] at g3 g4
    refine .inr (.inl ⟨by rw [wanted_way h0 h hv, hq, hs]; simp, hint, g4, ?_⟩)
    rw [g3]
    exact setS_rs _ _ _
  | again n c ch h hs hq hint hz hr hst hf =>
    obtain ⟨i1, i2, i3⟩ := againS_rest mv.event.time (restartS x mv.event.time n (runOf mv.before))
    obtain ⟨j1, j2, j3⟩ := restart_rest x mv.event.time n (runOf mv.before)
    rw [← hr] at i1 i2 i3
    exact .inl ⟨by rw [wanted_way h0 h hv, hq, hs]; simp, hint, (i3.trans j2).trans hf, i2.trans j3⟩
  | hold n c ch h hs hq hint hz hr hst hf =>
    obtain ⟨j1, j2, j3⟩ := restart_rest x mv.event.time n (runOf mv.before)
    refine .inl ⟨by rw [wanted_way h0 h hv, hq, hs]; simp, hint, ?_, ?_⟩
    · rw [hr]; exact j2.trans hf
    · rw [hr]; exact j3
  | wait n c ch h hs hz hr hst =>
    obtain ⟨j1, j2, j3, j4⟩ := stopping_rest n ch (runOf mv.before)
    rw [← hr] at j2 j3
    exact .inr (.inr ⟨by rw [wanted_way h0 h hv, hs]; simp, j2, j3⟩)
  | wake n c ch h hs hz hr hst hf =>
    obtain ⟨i1, i2, i3⟩ := againS_rest mv.event.time (stopping1 n ch (runOf mv.before))
    obtain ⟨j1, j2, j3, j4⟩ := stopping_rest n ch (runOf mv.before)
    rw [← hr] at i2 i3
    exact .inr (.inr ⟨by rw [wanted_way h0 h hv, hs]; simp, i3.trans j2, i2.trans j3⟩)
  | done n c ch h hs hz hr hst =>
    obtain ⟨i1, i2, i3, i4, i5⟩ := stopped_rest mv.event.time (stopping1 n ch (runOf mv.before))
    obtain ⟨j1, j2, j3, j4⟩ := stopping_rest n ch (runOf mv.before)
    rw [← hr] at i2 i3
    exact .inr (.inr ⟨by rw [wanted_way h0 h hv, hs]; simp, i3.trans j2, i2.trans j3⟩)
  | asked hk hr hst hf =>
    obtain ⟨g3, g4⟩ := shut_rest mv.event.time (runOf mv.before)
    rw [← hr] at g3 g4
    exact .inr (.inr ⟨not_wanted hk, g4, g3⟩)
  | still hk hr hst =>
    subst hr
    exact .inr (.inr ⟨not_wanted hk, rfl, rfl⟩)
/-- The restarts so far, against those that still count. -/
def Rel (x : Spec) (ms : List Move) (k : Nat) (T : List Int) : Prop := ∀ tm, 0 ≤ tm → tm ≤ 1000000 → (∀ j mv, j < k → ms[j]? = some mv → mv.event.time ≤ tm) → recentL x tm (curSt x ms k).2.2.1 = recentL x tm T ∧ ∀ t ∈ T, 0 ≤ t ∧ t ≤ tm
theorem recent_again {x : Spec} (h0 : chk x = 0) {tm tm' : Int} (hb : 0 ≤ tm' ∧ tm' ≤ tm ∧ tm ≤ 1000000) (l : List Int) : recentL x tm (recentL x tm' l) = recentL x tm l := by
  have hw := win_of h0
  unfold recentL
  rw [List.filter_filter]
  apply List.filter_congr
  intro t _
  unfold oldT
  rw [wrap64 (by omega) (by omega), wrap64 (by omega) (by omega)]
  rw [Bool.eq_iff_iff]
  simp
  omega
theorem recent_append (x : Spec) (tm : Int) (a b : List Int) : recentL x tm (a ++ b) = recentL x tm a ++ recentL x tm b := List.filter_append ..
theorem allow_recent {x : Spec} (h0 : chk x = 0) {tm : Int} (hb : 0 ≤ tm ∧ tm ≤ 1000000) {T : List Int} (hT : ∀ t ∈ T, 0 ≤ t ∧ t ≤ tm) : allowB x T tm = decide (((recentL x tm T).length : Int) < x.intensity) := by
  have hw := win_of h0
  have : T.filter (allowP tm x.window) = recentL x tm T := by
    unfold recentL
    apply List.filter_congr
    intro t ht
    have := hT t ht
    unfold oldT allowP
    rw [wrap64 (n := tm - x.window) (by omega) (by omega), wrap64 (by omega) (by omega)]
    rw [Bool.eq_iff_iff]
    simp
    omega
  unfold allowB
  rw [this, h0]
  simp
theorem Rel.next {x : Spec} (h0 : chk x = 0) {ms : List Move} (hm : Moves x ms) {k : Nat} {mv : Move} (hk : ms[k]? = some mv) {T : List Int} (h : Rel x ms k T) (hrs : mv.after.restarts.l = recentL x mv.event.time mv.before.restarts.l ++ [mv.event.time] ) : Rel x ms (k + 1) (T ++ [mv.event.time]) := by
  intro tm h1 h2 h3
  have g := hm.good k mv hk
  have htm := h3 k mv (by omega) hk
  obtain ⟨a1, a2⟩ := h tm h1 h2 (fun j mv' hj hj' => h3 j mv' (by omega) hj')
  have hc := hm.cur k mv hk
  have hcur : (curSt x ms (k + 1)).2.2.1 = mv.after.restarts.l := by simp only [curSt, hk]; rfl
  have hcur0 : (curSt x ms k).2.2.1 = mv.before.restarts.l := by rw [← hc]; rfl
  rw [hcur, hrs, recent_append, recent_append, recent_again h0 ⟨g.time.1, htm, h2⟩, ← hcur0, a1]
  refine ⟨rfl, fun t ht => ?_⟩
  rcases List.mem_append.1 ht with h4 | h4
  · exact a2 t h4
  · have : t = mv.event.time := by simpa using h4
    subst this
    exact ⟨g.time.1, htm⟩
theorem Rel.same {x : Spec} {ms : List Move} (hm : Moves x ms) {k : Nat} {mv : Move} (hk : ms[k]? = some mv) {T : List Int} (h : Rel x ms k T) (hrs : mv.after.restarts.l = mv.before.restarts.l) : Rel x ms (k + 1) T := by
  intro tm h1 h2 h3
  obtain ⟨a1, a2⟩ := h tm h1 h2 (fun j mv' hj hj' => h3 j mv' (by omega) hj')
  have hc := hm.cur k mv hk
  have hcur : (curSt x ms (k + 1)).2.2.1 = mv.after.restarts.l := by simp only [curSt, hk]; rfl
  have hcur0 : (curSt x ms k).2.2.1 = mv.before.restarts.l := by rw [← hc]; rfl
  rw [hcur, hrs, ← hcur0]
  exact ⟨a1, a2⟩
/-- A list of numbers of one's own, given away or not. -/
def OwnX (H : Heap) (o : Option Nat) (v : AV) (l : List Int) : Prop := match o with
  | none => v = .isl (some true) 0 [] ∧ l = []
  | some id => ∃ ver sh, v = .osl id ver 0 l.length ∧ H[id]? = some (.arr ver 1 sh (l.map I))
theorem OwnX.rd {H : Heap} {o : Option Nat} {v : AV} {l : List Int} (h : OwnX H o v l) : Rd H 1 v (l.map I) := by
  cases o with
  | none => obtain ⟨rfl, rfl⟩ := h; exact ⟨rfl, rfl, by simp⟩
  | some id => obtain ⟨ver, sh, rfl, hb⟩ := h; have := Rd.of_own hb; simpa using this
theorem OwnX.kept {H H' : Heap} {o : Option Nat} {v : AV} {l : List Int} (h : OwnX H o v l) (hk : Kept none H H') : OwnX H' o v l := by
  cases o with
  | none => exact h
  | some id => obtain ⟨ver, sh, rfl, hb⟩ := h; exact ⟨ver, sh, rfl, hk.get (by simp) hb⟩
theorem OwnX.pub {H : Heap} {o : Option Nat} {v : AV} {l : List Int} (h : OwnX H o v l) : ∃ (T : Sl Int) (H' : Heap), pubA H v = (Sl.ints T, H') ∧ T.l = l ∧ OwnX H' o v l ∧ H'.length = H.length ∧ ∀ j, o ≠ some j → H'[j]? = H[j]? := by
  cases o with
  | none => obtain ⟨rfl, rfl⟩ := h; exact ⟨slNil, H, rfl, rfl, ⟨rfl, rfl⟩, rfl, fun _ _ => rfl⟩
  | some id =>
    obtain ⟨ver, sh, rfl, hb⟩ := h
    have hid := (List.getElem?_eq_some_iff.1 hb).1
    have e : ((l.map I).drop 0).take l.length = l.map I := by rw [List.drop_zero, List.take_of_length_le (by simp)]
    refine ⟨ofL 1 l, H.set id (.arr ver 1 true (l.map I)), ?_, rfl, ⟨ver, true, rfl, List.getElem?_set_self hid⟩, by simp, fun j hj => List.getElem?_set_ne (fun e => hj (by rw [e]))⟩
    simp only [pubA, pub1, hb]
    rw [if_pos ⟨trivial, by simp, by rw [e]; exact all_still (fun x => rfl) _⟩, e, isl_sl]
theorem OwnX.app {H : Heap} {o : Option Nat} {v : AV} {l : List Int} (h : OwnX H o v l) (n : Int) (hl : l.length ≤ 1000) : ∃ (o' : Option Nat) (v' : AV) (H' : Heap), ex H (.app 1) [v, .isl (some false) 1 [I n]] = some (v', H') ∧ OwnX H' o' v' (l ++ [n]) ∧ okO v = some v ∧ okO v' = some v' ∧ (∀ j b, o ≠ some j → H[j]? = some b → H'[j]? = some b) ∧ ∀ i, o' = some i → o = some i ∨ i = H.length := by
  cases o with
  | none =>
    obtain ⟨rfl, rfl⟩ := h
    refine ⟨some H.length, .osl H.length 0 0 1, H ++ [.arr 0 1 false [I n]], rfl, ⟨0, false, rfl, by simp⟩, rfl, rfl, fun j b _ hb => app_get hb _, fun i hi => by cases hi; exact .inr rfl⟩
  | some id =>
    obtain ⟨ver, sh, rfl, hb⟩ := h
    have hid := (List.getElem?_eq_some_iff.1 hb).1
    have ht : truncH H (.osl id ver 0 l.length) = H := by
      simp only [truncH, hb]
      cases sh with
      | true => rfl
      | false => simp
    refine ⟨some id, .osl id (ver + 1) 0 (l.length + 1), H.set id (.arr (ver + 1) 1 sh (l.map I ++ [I n])), ?_, ⟨ver + 1, sh, by simp, by rw [List.getElem?_set_self hid]; simp⟩, rfl, rfl, fun j b hj hb' => by rw [List.getElem?_set_ne (fun e => hj (by rw [e]))]; exact hb', fun i hi => .inl hi⟩
    have : ex H (.app 1) [.osl id ver 0 l.length, .isl (some false) 1 [I n]] = exApp (truncH H (.osl id ver 0 l.length)) 1 (.osl id ver 0 l.length) [I n] := by simp [ex]
    rw [this, ht]
    have hsz : l.length + 1 ≤ 1073741824 := by omega
    simp [exApp, hb, appRoom, hsz]
end
section
open Go Go.RowKit
set_option linter.unusedVariables false
set_option linter.unusedSimpArgs false
set_option maxRecDepth 10000
set_option maxHeartbeats 1000000
attribute [local irreducible] okV okC

@[simp] theorem pub_int (H : Heap) (k : IntKind) (n : Int) : pubA H (.int k n) = (.int k n, H) := rfl
theorem inner7 (x : Spec) (m : Sl Move) (mv : Move) (k : Nat) (v : AV) (T : List Int) {G : Heap} {N : Nat} (hT : T.length ≤ 100000) (h0 : G[0]? = some (.arr 0 4 false [x.av])) (hN : G[N]? = some (.arr 0 13 false [mv.av])) (hv : Rd G 1 v (T.map I)) :
    okC (W.loop [2, 7, 9, 10, 26, 27, 28, 43, 44, 45] l7_0 [(2, .optr 0 0 0 0), (7, v), (9, .optr N 0 0 0), (10, I 0), (26, Sl.av Move.av 13 m), (27, I m.l.length), (28, I k), (43, v), (44, I T.length), (45, I 0)] G)
      (fun y F G' => y = .exit 2 ∧ F.keep [2, 7, 9, 10, 26, 27, 28] = [(2, .optr 0 0 0 0), (7, v), (9, .optr N 0 0 0), (10, I (recentL x mv.event.time T).length), (26, Sl.av Move.av 13 m), (27, I m.l.length), (28, I k)] ∧ G' = G) := by
  have hL := loop_fold (Φ := Φ) (live := [2, 7, 9, 10, 26, 27, 28, 43, 44, 45]) (L := l7_0) T (σ := Nat) (fun _ t s => if (!oldT x mv.event.time t) = true then s + 1 else s) (fun j s F G' => F = [(2, .optr 0 0 0 0), (7, v), (9, .optr N 0 0 0), (10, I s), (26, Sl.av Move.av 13 m), (27, I m.l.length), (28, I k), (43, v), (44, I T.length), (45, I j)] ∧ s ≤ j ∧ G' = G)
    (fun s y F G' => y = .exit 2 ∧ F.keep [2, 7, 9, 10, 26, 27, 28] = [(2, .optr 0 0 0 0), (7, v), (9, .optr N 0 0 0), (10, I s), (26, Sl.av Move.av 13 m), (27, I m.l.length), (28, I k)] ∧ G' = G) (s := 0) (F := [(2, .optr 0 0 0 0), (7, v), (9, .optr N 0 0 0), (10, I 0), (26, Sl.av Move.av 13 m), (27, I m.l.length), (28, I k), (43, v), (44, I T.length), (45, I 0)]) (H := G) ⟨rfl, by omega, rfl⟩ ?_ ?_
  · rw [count_fold (fun t => !oldT x mv.event.time t), Nat.zero_add] at hL
    exact hL
  · rintro j t s F G' hj ht ⟨rfl, hs, rfl⟩
    have hw := wrap_succ (k := j) (by omega)
    have hw2 := wrap_succ (k := s) (by omega)
    obtain ⟨q1, q2, q3, q4, _⟩ := hv.get j (I t) (by rw [List.getElem?_map, ht]; rfl)
    have q4 := q4 false 1 (by intro h; cases h)
    by_cases ho : oldT x mv.event.time t = true
    · have hlt : ¬ IntKind.wrap .i64 (mv.event.time - x.window) < t := by simp only [oldT, decide_eq_true_eq] at ho; omega
      simp [evl7_0, b7_0, intBin, hj, hw, hv.ok, q2, q3, q4, h0, hN, List.getElem?_cons_zero, -getElem?_pos, ho, hlt]
      omega
    · have hlt : IntKind.wrap .i64 (mv.event.time - x.window) < t := by simp only [oldT, decide_eq_true_eq] at ho; omega
      simp [evl7_0, b7_0, intBin, hj, hw, hw2, hv.ok, q2, q3, q4, h0, hN, List.getElem?_cons_zero, -getElem?_pos, ho, hlt]
      omega
  · rintro s F G' ⟨rfl, hs, rfl⟩
    simp [evl7_0, b7_0, intBin, hv.ok]
theorem turn7 {x : Spec} (h0 : chk x = 0) (hn : ∀ c ∈ x.children.l, c.name.length ≤ 1000000) (m : Sl Move) (hm : Moves x m.l) (hml : m.l.length ≤ 40) {k : Nat} {mv : Move} (hk : k < m.l.length) (hmv : m.l[k]? = some mv) {G : Heap} {o : Option Nat} {v : AV} {T : List Int} (g0 : G[0]? = some (.arr 0 4 false [x.av])) (hO : OwnX G o v T) (ho0 : o ≠ some 0) (hR : Rel x m.l k T) (hTk : T.length ≤ k) :
    okC (evC W l7_1 [(2, .optr 0 0 0 0), (7, v), (26, Sl.av Move.av 13 m), (27, I m.l.length), (28, I k)] G) (fun y F' G' => y = .normal ∧ ∃ o' v' T', F'.keep [2, 7, 26, 27, 28] = [(2, .optr 0 0 0 0), (7, v'), (26, Sl.av Move.av 13 m), (27, I m.l.length), (28, I (k + 1))] ∧ G'[0]? = some (.arr 0 4 false [x.av]) ∧ OwnX G' o' v' T' ∧ o' ≠ some 0 ∧ Rel x m.l (k + 1) T' ∧ T'.length ≤ k + 1) := by
  obtain ⟨ok, hnext⟩ := hm.at h0 hml hmv
  have good := hm.good k mv hmv
  have hw := wrap_succ (k := k) (by omega)
  have hA : ∀ b c : Blk, (G ++ [b]).set G.length c = G ++ [c] := fun b c => by simp
  have hK := Kept.append none G [.arr 0 13 false [mv.av]]
  have k0 : (G ++ [Blk.arr 0 13 false [mv.av]])[0]? = some (.arr 0 4 false [x.av]) := app_get g0 _
  have kN : (G ++ [Blk.arr 0 13 false [mv.av]])[G.length]? = some (.arr 0 13 false [mv.av]) := app_last G _
  have hlast : ∀ b : Blk, (G ++ [b])[G.length]? = some b := fun b => app_last G b
  have hzm : (.agg [I 0, .isl (some true) 0 [], .isl (some true) 0 [], .bool false, I 0, .isl (some true) 0 [], .isl (some true) 0 [], .bool false, I 0, I 0, I 0, I 0, .isl (some true) 0 []] : AV) = (⟨zeroState, zeroState, ⟨0, 0, 0, 0⟩, slNil⟩ : Move).av := rfl
  have c25 := e25 (x := x) (mv := mv) ok.inv.len ok.chk
  have hO' := hO.kept hK
  have hrd := hO'.rd
  have hlen := hrd.len
  rw [List.length_map] at hlen
  have hoN : o ≠ some G.length := by
    rintro rfl
    obtain ⟨ver, sh, _, hb⟩ := hO
    have := (List.getElem?_eq_some_iff.1 hb).1
    omega
  obtain ⟨y, F, G1, e1, rfl, e2, rfl⟩ := okC_iff.1 (inner7 x m mv k v T (by omega) k0 kN hrd)
  simp only [keep_cons, keep_nil, List.cons.injEq, Prod.mk.injEq, true_and, and_true] at e2
  obtain ⟨f1, f2, f3, f4, f5, f6, f7⟩ := e2
  have hafl := ok.after.fl
  have hars := ok.after.rs
  have htime : ∀ j mv', j < k → m.l[j]? = some mv' → mv'.event.time ≤ mv.event.time := fun j mv' hj hj' => hm.order k j mv mv' hj hmv hj'
  obtain ⟨r1, r2⟩ := hR mv.event.time good.time.1 (by have := good.time.2; omega) htime
  have hcur0 : (curSt x m.l k).2.2.1 = mv.before.restarts.l := by rw [← hm.cur k mv hmv]; rfl
  rw [hcur0] at r1
  obtain ⟨T', H', p1, p2, p3, p4, p5⟩ := hO'.pub
  have l0 : H'[0]? = some (.arr 0 4 false [x.av]) := by rw [p5 0 ho0]; exact k0
  have lN : H'[G.length]? = some (.arr 0 13 false [mv.av]) := by rw [p5 _ hoN]; exact kN
  have c27 := e27 x hn T' (by rw [p2]; omega) mv.event.time
  rw [p2, allow_recent h0 ⟨good.time.1, by have := good.time.2; omega⟩ r2, ← r1] at c27
  rw [← r1] at f4
  rcases intensity_move h0 ok.inv ok.chk good.val _ rfl with ⟨w1, w2, w3, w4⟩ | ⟨w1, w2, w3, w4⟩ | ⟨w1, w2, w3⟩
  · rw [w3] at hafl
    rw [w1] at c25
    obtain ⟨o', v', H2, u1, u2, u3, u4, u5, u6⟩ := p3.app mv.event.time (by omega)
    have hrel := hR.next h0 hm hmv (hars.trans w4)
    rw [decide_eq_true w2] at c27
    have m0 := u5 0 _ ho0 l0
    simp [evl7_1, b7_1, intBin, hk, hmv, hw, hA, hzm, k0, hlast, c25, List.getElem?_cons_zero, -getElem?_pos, hO'.rd.ok, hlen, e1, f1, f2, f3, f4, f5, f6, f7, w2, hafl, pubAs, p1, c27, l0, lN, u1, u3, u4]
    refine ⟨m0, o', _, u2, fun e => ?_, hrel, by simp; omega⟩
    rcases u6 0 e with h | h
    · exact ho0 h
    · rw [p4] at h; simp at h
  · rw [w3] at hafl
    rw [w1] at c25
    have w2' : ¬ ((recentL x mv.event.time mv.before.restarts.l).length : Int) < x.intensity := by omega
    rw [decide_eq_false w2'] at c27
    simp [evl7_1, b7_1, intBin, hk, hmv, hw, hA, hzm, k0, hlast, c25, List.getElem?_cons_zero, -getElem?_pos, hO'.rd.ok, hlen, e1, f1, f2, f3, f4, f5, f6, f7, w2', hafl, pubAs, p1, c27, l0, lN]
    exact ⟨o, _, p3, ho0, hR.same hm hmv (hars.trans w4), by omega⟩
  · rw [w2] at hafl
    rw [w1] at c25
    simp [evl7_1, b7_1, intBin, hk, hmv, hw, hA, hzm, k0, hlast, c25, List.getElem?_cons_zero, -getElem?_pos, hO'.rd.ok, hlen, hafl]
    exact ⟨o, _, hO', ho0, hR.same hm hmv (hars.trans w3), by omega⟩
theorem law7 (x : Spec) (hx : x.wf) (l : Sl Happening) (hl : SlOk Happening.wf l) : W.pure 7 [x.av, Sl.av Happening.av 4 l] = some (.bool true) := by
  have h12 := e12
  have h21 := e21 x
  rw [W_pure Φ7 (by simp)]
  cases hf : fineB x with
  | false => rw [hf] at h21; simp [fi7, c7, evFun, enterFr, intBin, resV, rvVs, rvV, h21, h12]
  | true =>
    rw [hf] at h21
    obtain ⟨h0, hx18, hn⟩ := fine_facts hf
    obtain ⟨v, h22, m, rfl, hm, hml⟩ := e22 h0 hn l hl.all (by have := hl.len; unfold maxLen at this; omega)
    have hL := loop_fold (Φ := Φ) (live := [2, 7, 26, 27, 28]) (L := l7_1) m.l (σ := Unit) (fun _ _ s => s) (fun k _ F G => ∃ o v T, F = [(2, .optr 0 0 0 0), (7, v), (26, Sl.av Move.av 13 m), (27, I m.l.length), (28, I k)] ∧ G[0]? = some (.arr 0 4 false [x.av]) ∧ OwnX G o v T ∧ o ≠ some 0 ∧ Rel x m.l k T ∧ T.length ≤ k)
      (fun _ y F G => y = .exit 0) (s := ()) (F := [(2, .optr 0 0 0 0), (7, .isl (some true) 0 []), (26, Sl.av Move.av 13 m), (27, I m.l.length), (28, I 0)]) (H := [.arr 0 4 false [x.av]]) ⟨none, _, [], rfl, rfl, ⟨rfl, rfl⟩, by simp, fun tm _ _ _ => ⟨rfl, by simp⟩, by simp⟩ ?_ ?_
    · obtain ⟨y, F, G, e1, rfl⟩ := okC_iff.1 hL
      simp [fi7, c7, evFun, enterFr, intBin, resV, rvVs, rvV, h21, h12, h22, e1]
    · rintro k mv ⟨⟩ F G hk hmv ⟨o, v, T, rfl, g0, hO, ho, hR, hT⟩
      obtain ⟨y, F', G', e1, rfl, o', v', T', e2, e3⟩ := okC_iff.1 (turn7 h0 hn m hm hml hk hmv g0 hO ho hR hT)
      rw [show Fr.keep [(2, .optr 0 0 0 0), (7, v), (26, Sl.av Move.av 13 m), (27, I m.l.length), (28, I k)] [2, 7, 26, 27, 28] = [(2, .optr 0 0 0 0), (7, v), (26, Sl.av Move.av 13 m), (27, I m.l.length), (28, I k)] from rfl, e1]
      exact okC_iff.2 ⟨_, _, _, rfl, rfl, o', v', T', e2, e3⟩
    · rintro ⟨⟩ F G ⟨o, v, T, rfl, g0, hO, ho, hR, hT⟩
      simp [evl7_1, b7_1, intBin]
end
end Go.Proofs.Ythenmgpbcmlhoaa
