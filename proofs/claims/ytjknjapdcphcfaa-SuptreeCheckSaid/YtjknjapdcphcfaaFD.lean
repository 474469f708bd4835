/-
  Run: the plain function, and what its loop keeps (conditions: none). Run, as the program has it, and as the reference has it (conditions: none). Run, as the reference has it; the law SupervisorRun (conditions: none). What the handlers do, child by child; their actions (conditions: none). What Handle makes of a valid state is valid; the actions (conditions: none). A valid state stays valid (conditions: none). Handle keeps states valid (conditions: none).
-/
import Derived.Test.YtjknjapdcphcfaaFC
namespace Go.Proofs.Ytjknjapdcphcfaa
section
open Go Go.RowKit
set_option linter.unusedVariables false
set_option linter.unusedSimpArgs false
set_option maxRecDepth 10000
set_option maxHeartbeats 1000000

theorem core_inj {s t : State} (h : s.core = t.core) : s.status = t.status ∧ s.children.l = t.children.l ∧ s.restarts.l = t.restarts.l ∧ s.failed = t.failed := by
  simpa [State.core] using h
theorem runOf_core {s t : State} (h : s.core = t.core) : runOf s = runOf t := by
  obtain ⟨h1, h2, h3, h4⟩ := core_inj h
  simp only [runOf, h1, h2, h3, h4]
theorem handleR_core {x : Spec} {s t : State} {e : Event} (h : s.core = t.core) : handleR x s e = handleR x t e := by
  obtain ⟨h1, h2, h3, h4⟩ := core_inj h
  simp only [handleR, runOf_core h, h2]
theorem handleE_core {x : Spec} {s t : State} {e : Event} (h : s.core = t.core) : handleE x s e = handleE x t e := by
  obtain ⟨h1, h2, h3, h4⟩ := core_inj h
  have a1 : fitsB x s = fitsB x t := by simp only [fitsB, h1, h2]
  have a2 : validB x s = validB x t := by simp only [validB, childrenB, endedB, a1, h1, h2, h3, h4]
  have a3 : staleB s e = staleB t e := by unfold staleB; rw [h3]
  have a4 : deadB s e = deadB t e := by unfold deadB; rw [h1, h2]
  simp only [handleE, a2, checkN, a3, a4]
def mkS (r : RunSt) : State := ⟨r.st, ofL 2 r.cs, ofL 1 r.rs, r.fl⟩
theorem StOk.core {t : State} {r : RunSt} (h : StOk t r) : t.core = (mkS r).core := by
  simp only [State.core, h.st, h.cs, h.rs, h.fl, mkS]
def startS (x : Spec) : State := ⟨1, ofL 2 (List.replicate x.children.l.length start1), slNil, false⟩
def runStep (x : Spec) (k : Nat) (e : Event) (s : State × List Event) : (State × List Event) ⊕ (Nat × Int) :=
  if handleE x s.1 e = 0 then .inl (mkS (handleR x s.1 e), s.2 ++ (handleR x s.1 e).out) else .inr (k, handleE x s.1 e)
abbrev Core := Int × List ChildState × List Int × Bool
def runN (x : Spec) (l : List Event) : Core × List Event × Int × Int :=
  if chk x = 0 then (match foldE (runStep x) 0 l (startS x, startL x.children.l.length) with
    | .inl (s, a) => (s.core, a, l.length, 0)
    | .inr (k, e) => (zeroState.core, [], k, e))
  else (zeroState.core, [], 0, 1)
def RunOk (x : Spec) (l : List Event) (v : AV) : Prop := ∃ (t : State) (a : Sl Event) (n c : Int), v = .tuple [t.av, Sl.av Event.av 4 a, I n, I c] ∧ (t.core, a.l, n, c) = runN x l
/-- The state between two events: given away already, or still of one's own (as New has made it). -/
def Cur (H : Heap) (b : Nat) (o : Option Nat) (sv : AV) (s : State) : Prop :=
  KnownNil s.children ∧ KnownNil s.restarts ∧ (sv = s.av ∨ ∃ q ver t sh, sv = .agg [I s.status, .osl q ver 0 s.children.l.length, Sl.ints s.restarts, .bool s.failed] ∧ s.children.nl = some false ∧ s.children.z = 2 ∧ H[q]? = some (.arr ver 2 sh (s.children.l.map ChildState.av ++ t)) ∧ 2 ≤ q ∧ q < b ∧ o ≠ some q)
theorem all_map_still (l : List ChildState) (t : List AV) : (((l.map ChildState.av ++ t).drop 0).take l.length).all (fun e => e.cells.all AV.still) = true ∧ ((l.map ChildState.av ++ t).drop 0).take l.length = l.map ChildState.av := by
  have h : ((l.map ChildState.av ++ t).drop 0).take l.length = l.map ChildState.av := by
    rw [List.drop_zero, List.take_append_of_le_length (by simp)]
    rw [List.take_of_length_le (by simp)]
  rw [h]
  exact ⟨all_still (fun x => by simp) _, rfl⟩
theorem sl_false {s : Sl ChildState} (h : s.nl = some false) (hz : s.z = 2) : (.isl (some false) 2 (s.l.map ChildState.av) : AV) = Sl.av ChildState.av 2 s := by
  obtain ⟨nl, z, l⟩ := s
  simp only at h hz
  subst h hz
  cases l <;> rfl
theorem Cur.pub {H : Heap} {b : Nat} {o : Option Nat} {sv : AV} {s : State} (h : Cur H b o sv s) : ∃ H', pubA H sv = (s.av, H') ∧ H'.length = H.length ∧ ∀ j, j < 2 ∨ b ≤ j ∨ o = some j → H'[j]? = H[j]? := by
  obtain ⟨h1, h2, rfl | ⟨q, ver, t, sh, rfl, h3, hz, h4, h5, h6, h7⟩⟩ := h
  · exact ⟨H, rfl, rfl, fun _ _ => rfl⟩
  · obtain ⟨k1, k2⟩ := all_map_still s.children.l t
    refine ⟨H.set q (.arr ver 2 true (s.children.l.map ChildState.av ++ t)), ?_, by simp, fun j hj => ?_⟩
    · simp only [pubA, pubs1, pub1, h4]
      rw [if_pos ⟨trivial, by simp, k1⟩, k2, sl_false h3 hz]
      rfl
    · rw [List.getElem?_set_ne]
      rintro rfl
      rcases hj with hj | hj | hj
      · omega
      · omega
      · exact h7 hj
theorem Cur.frz {H : Heap} {b : Nat} {o : Option Nat} {sv : AV} {s : State} (h : Cur H b o sv s) (n : Nat) : Go.Proofs.Ytjknjapdcphcfaa.frz H (n + 2) sv = some s.av := by
  obtain ⟨h1, h2, rfl | ⟨q, ver, t, sh, rfl, h3, hz, h4, h5, h6, h7⟩⟩ := h
  · exact State_frz n
  · obtain ⟨k1, k2⟩ := all_map_still s.children.l t
    have : Go.Proofs.Ytjknjapdcphcfaa.frz H (n + 1) (.osl q ver 0 s.children.l.length) = some (Sl.av ChildState.av 2 s.children) := by
      simp only [Go.Proofs.Ytjknjapdcphcfaa.frz, h4]
      rw [if_pos ⟨trivial, by simp⟩, if_pos k1, k2, sl_false h3 hz]
    simp only [frz_agg, frzs_cons, frzs_nil, frz_int, frz_bool, this, consO_some, Option.map_some]
    rfl
theorem Cur.ok {H : Heap} {b : Nat} {o : Option Nat} {sv : AV} {s : State} (h : Cur H b o sv s) : okO sv = some sv ∧ sv.cells.length = 4 ∧ sv.cells.all AV.cell = true ∧ ldCells true 4 sv.cells = sv ∧ setElem [zeroState.av] 0 0 sv = some [sv] := by
  obtain ⟨h1, h2, rfl | ⟨q, ver, t, sh, rfl, h3, hz, h4, h5, h6, h7⟩⟩ := h
  · exact ⟨rfl, rfl, rfl, rfl, rfl⟩
  · exact ⟨rfl, rfl, rfl, rfl, rfl⟩
theorem Cur.kept {H H' : Heap} {b : Nat} {o o' : Option Nat} {sv : AV} {s : State} (h : Cur H b o sv s) (hk : ∀ q, q < b → o ≠ some q → H'[q]? = H[q]?) (ho : ∀ q, q < b → o' = some q → o = some q) : Cur H' b o' sv s := by
  obtain ⟨h1, h2, rfl | ⟨q, ver, t, sh, rfl, h3, hz, h4, h5, h6, h7⟩⟩ := h
  · exact ⟨h1, h2, .inl rfl⟩
  · exact ⟨h1, h2, .inr ⟨q, ver, t, sh, rfl, h3, hz, by rw [hk q h6 h7]; exact h4, h5, h6, fun e => h7 (ho q h6 e)⟩⟩
theorem Cur.state (H : Heap) (b : Nat) (o : Option Nat) {s : State} (h1 : KnownNil s.children) (h2 : KnownNil s.restarts) : Cur H b o s.av s := ⟨h1, h2, .inl rfl⟩
theorem Cur.cases {H : Heap} {b : Nat} {o : Option Nat} {sv : AV} {s : State} (h : Cur H b o sv s) : ∃ a1 a2 a3 a4, sv = .agg [a1, a2, a3, a4] ∧ a1.cell = true ∧ a2.cell = true ∧ a3.cell = true ∧ a4.cell = true := by
  obtain ⟨h1, h2, rfl | ⟨q, ver, t, sh, rfl, h3, hz, h4, h5, h6, h7⟩⟩ := h
  · exact ⟨_, _, _, _, rfl, rfl, rfl, rfl, rfl⟩
  · exact ⟨_, _, _, _, rfl, rfl, rfl, rfl, rfl⟩
@[simp] theorem pub_spec (H : Heap) (x : Spec) : pubA H x.av = (x.av, H) := rfl
@[simp] theorem pub_event (H : Heap) (x : Event) : pubA H x.av = (x.av, H) := rfl
/-- What Run's loop keeps. b: the block of the state; T: how many events there have been. -/
structure RunP (x : Spec) (b : Nat) (k : Nat) (s : State × List Event) (sv ov : AV) (G : Heap) : Prop where
  g0 : G[0]? = some (.arr 0 4 false [x.av])
  g1 : G[1]? = some (.arr 0 4 false [zeroState.av])
  gb : G[b]? = some (.arr 0 4 false [sv])
  b2 : 2 ≤ b
  ex : ∃ o s', Cur G b o sv s' ∧ s'.core = s.1.core ∧ Grow G 4 o ov (s.2.map Event.av) ∧ o ≠ some b ∧ ∀ i, o = some i → 2 ≤ i
  len : s.1.children.l.length = x.children.l.length
  rs : s.1.restarts.l.length ≤ k
  out : s.2.length ≤ x.children.l.length + k * (2 * x.children.l.length + 2)
theorem RunP.pub {x : Spec} {b k : Nat} {s : State × List Event} {sv ov : AV} {G GA : Heap} (h : RunP x b k s sv ov G) (hA : Kept none G GA) :
    ∃ (s' : State) (G1 : Heap), pubA GA sv = (s'.av, G1) ∧ s'.core = s.1.core ∧ KnownNil s'.children ∧ KnownNil s'.restarts ∧ G1.length = GA.length ∧ (∀ j, j < 2 ∨ b ≤ j → G1[j]? = GA[j]?) ∧ ∃ o, Grow G1 4 o ov (s.2.map Event.av) ∧ o ≠ some b ∧ ∀ i, o = some i → 2 ≤ i := by
  obtain ⟨o, s', h1, h2, h3, h4, h5⟩ := h.ex
  have h1' : Cur GA b o sv s' := h1.kept (fun q hq _ => by
    have hb := (List.getElem?_eq_some_iff.1 h.gb).1
    rw [hA.2 q (by simp) (by omega)]) (fun q _ e => e)
  obtain ⟨G1, p1, p2, p3⟩ := h1'.pub
  refine ⟨s', G1, p1, h2, h1.1, h1.2.1, p2, fun j hj => p3 j (by rcases hj with hj | hj; exact .inl hj; exact .inr (.inl hj)), o, ?_, h4, h5⟩
  have h6 := h3.kept hA (by simp)
  cases o with
  | none => exact h6
  | some i =>
    obtain ⟨ver, t, g1, g2⟩ := h6
    exact ⟨ver, t, g1, by rw [p3 i (.inr (.inr rfl))]; exact g2⟩
theorem run_app {x : Spec} {b k : Nat} {s : State × List Event} {sv ov : AV} {G1 : Heap} {o : Option Nat} (hx : x.children.l.length ≤ 1000) (hk : k ≤ 1000) (g0 : G1[0]? = some (.arr 0 4 false [x.av])) (g1 : G1[1]? = some (.arr 0 4 false [zeroState.av])) (gb : G1[b]? = some (.arr 0 4 false [sv])) (b2 : 2 ≤ b)
    (hg : Grow G1 4 o ov (s.2.map Event.av)) (ho : o ≠ some b) (ho2 : ∀ i, o = some i → 2 ≤ i) (hs1 : s.1.children.l.length = x.children.l.length) (hs2 : s.1.restarts.l.length ≤ k) (hs3 : s.2.length ≤ x.children.l.length + k * (2 * x.children.l.length + 2))
    {t : State} {a : Sl Event} {r : RunSt} (ht : StOk t r) (ha : a.l = r.out) (hr : Size 1 (2 * x.children.l.length + 2) (runOf s.1) r) (e : AV) :
    ∃ ov' G3, ex (G1 ++ [.arr 0 4 false [e]]) (.app 4) [ov, Sl.av Event.av 4 a] = some (ov', G3) ∧ okO ov = some ov ∧ okO ov' = some ov' ∧ apart ov (.optr G1.length 0 0 0) = true ∧ G3[b]? = some (.arr 0 4 false [sv]) ∧ RunP x b (k + 1) (mkS r, s.2 ++ r.out) t.av ov' (G3.set b (.arr 0 4 false [t.av])) := by
  have hK := Kept.append none G1 [.arr 0 4 false [e]]
  have z1 := hr.cs
  have z2 := hr.rs
  have z3 := hr.out
  simp only [runOf, List.length_nil] at z1 z2 z3
  have hmul : k * (2 * x.children.l.length + 2) ≤ 1000 * (2 * 1000 + 2) := Nat.mul_le_mul hk (by omega)
  have hg' := hg.kept hK (by simp)
  obtain ⟨o', ov', G3, a1, a2, a3, a4, a5⟩ := hg'.app (y := Sl.av Event.av 4 a) (xs := a.l.map Event.av) (by simp) (all_cell (fun x => by simp) _) (by simp only [List.length_map, ha, appRoom]; omega)
  have hbl := (List.getElem?_eq_some_iff.1 gb).1
  have ho' : ∀ i, o' = some i → o = some i ∨ G1.length < i + 1 := by
    intro i hi
    rcases a4 with rfl | ⟨h1, h2, _⟩
    · exact .inl hi
    · rw [h2] at hi; cases hi; right; simp; omega
  have hob : o' ≠ some b := fun e => by
    rcases ho' b e with h1 | h1
    · exact ho h1
    · omega
  have keep : ∀ j B, o ≠ some j → G1[j]? = some B → G3[j]? = some B := fun j B hj hB => a3.get (by simpa using hj) (hK.get (by simp) hB)
  have hset := Kept.set b G3 (.arr 0 4 false [t.av])
  refine ⟨ov', G3, a1, hg.okO, a2.okO, ?_, keep b _ ho gb, ?_⟩
  · cases o with
    | none => obtain ⟨rfl, _⟩ := hg; rfl
    | some i =>
      have hlt := hg.lt
      obtain ⟨ver, tl, rfl, _⟩ := hg
      have : i ≠ G1.length := by omega
      simpa [apart] using this
  · refine ⟨?_, ?_, ?_, b2, ⟨o', t, ?_, ht.core, ?_, hob, ?_⟩, ?_, ?_, ?_⟩
    · exact hset.get (by simp; omega) (keep 0 _ (fun e => by have := ho2 0 e; omega) g0)
    · exact hset.get (by simp; omega) (keep 1 _ (fun e => by have := ho2 1 e; omega) g1)
    · exact List.getElem?_set_self (by have := a3.1; simp at this; omega)
    · exact Cur.state _ _ _ ht.k1 ht.k2
    · rw [List.map_append, ← ha]
      exact a2.kept hset (fun id hid => by cases hid; exact hob)
    · intro i hi
      rcases ho' i hi with h1 | h1
      · exact ho2 i h1
      · omega
    · simp only [mkS]; omega
    · simp only [mkS]; omega
    · simp only [List.length_append, Nat.add_mul, Nat.one_mul]; omega
end
section
open Go Go.RowKit
set_option linter.unusedVariables false
set_option linter.unusedSimpArgs false
set_option maxRecDepth 10000
set_option maxHeartbeats 1000000
attribute [local irreducible] okV okC

/-- What New leaves: the beginning of Run's loop. -/
theorem run_start {x : Spec} (h0 : chk x = 0) {G : Heap} {cv ev : AV} {o1 o2 : Option Nat} (p1 : Grow G 2 o1 cv ((List.replicate x.children.l.length start1).map ChildState.av)) (p2 : Grow G 4 o2 ev ((startL x.children.l.length).map Event.av)) (q1 : ∀ i, o1 = some i → 2 ≤ i) (q2 : ∀ i, o2 = some i → 2 ≤ i) (q3 : ∀ i, o1 = some i → o2 ≠ some i) (hG : 2 ≤ G.length)
    (g0 : G[0]? = some (.arr 0 4 false [x.av])) (g1 : G[1]? = some (.arr 0 4 false [zeroState.av])) :
    RunP x G.length 0 (startS x, startL x.children.l.length) (.agg [I 1, cv, .isl (some true) 0 [], .bool false]) ev (G ++ [.arr 0 4 false [.agg [I 1, cv, .isl (some true) 0 [], .bool false]]]) := by
  have hlen := chk_len h0
  have hK := Kept.append none G [.arr 0 4 false [.agg [I 1, cv, .isl (some true) 0 [], .bool false]]]
  refine ⟨hK.get (by simp) g0, hK.get (by simp) g1, by simp, hG, ⟨o2, startS x, ⟨.inr rfl, .inl ⟨rfl, rfl⟩, .inr ?_⟩, rfl, p2.kept hK (by simp), fun e => by subst e; exact absurd p2.lt (by omega), q2⟩, by simp [startS], by simp [startS], by simp [startL_len]⟩
  cases o1 with
  | none => exact absurd (congrArg List.length p1.2) (by rw [List.length_map, List.length_replicate, List.length_nil]; omega)
  | some q =>
    have hlt := p1.lt
    obtain ⟨ver, t, rfl, hb⟩ := p1
    refine ⟨q, ver, t, false, ?_, rfl, rfl, ?_, q1 q rfl, hlt, q3 q rfl⟩
    · simp [startS]
      rfl
    · exact hK.get (by simp) hb
/-- The end of Run: what it gives back. -/
theorem run_end {x : Spec} {b k : Nat} {s : State × List Event} {sv ov : AV} {G : Heap} (h : RunP x b k s sv ov G) (n : Int) :
    ∃ (t : State) (a : Sl Event), Go.Proofs.Ytjknjapdcphcfaa.frz (G.set 1 (.arr 0 4 false [sv])) 8 (.tuple [sv, ov, I n, I 0]) = some (.tuple [t.av, Sl.av Event.av 4 a, I n, I 0]) ∧ t.core = s.1.core ∧ a.l = s.2 := by
  obtain ⟨o, s', h1, h2, h3, h4, h5⟩ := h.ex
  have hk := Kept.set 1 G (.arr 0 4 false [sv])
  have c1 : Cur (G.set 1 (.arr 0 4 false [sv])) b o sv s' := by
    obtain ⟨a1, a2, rfl | ⟨q, ver, t, sh, rfl, b1, b2, b3, b4, b5, b6⟩⟩ := h1
    · exact ⟨a1, a2, .inl rfl⟩
    · exact ⟨a1, a2, .inr ⟨q, ver, t, sh, rfl, b1, b2, hk.get (by simp; omega) b3, b4, b5, b6⟩⟩
  have g1 := h3.kept hk (fun id hid e => by cases hid; have := h5 1 e; omega)
  have f1 := c1.frz 5
  have f2 := g1.sl (n := 6) (all_still (fun x => by simp) _)
  refine ⟨s', if o = none then slNil else ofL 4 s.2, ?_, h2, ?_⟩
  · simp only [frz_tuple, frzs_cons, frzs_nil, frz_int, f1, f2, consO_some, Option.map_some]
  · cases o with
    | none => have := g1.2; simp at this; rw [this]; rfl
    | some i => rfl
theorem Cur.st {H : Heap} {b : Nat} {o : Option Nat} {sv : AV} {s : State} (h : Cur H b o sv s) (t : State) : setElem [sv] 0 0 t.av = some [t.av] := by
  obtain ⟨h1, h2, rfl | ⟨q, ver, t', sh, rfl, h3, hz, h4, h5, h6, h7⟩⟩ := h
  · rfl
  · rfl
end
section
open Go Go.RowKit
set_option linter.unusedVariables false
set_option linter.unusedSimpArgs false
set_option maxRecDepth 10000
set_option maxHeartbeats 1000000
attribute [local irreducible] okV okC

theorem run_app2 {x : Spec} {b k : Nat} {s : State × List Event} {ov : AV} {G1 : Heap} {o : Option Nat} {t : State} {a : Sl Event} {r : RunSt} (hx : x.children.l.length ≤ 1000) (hk : k ≤ 1000) (g0 : G1[0]? = some (.arr 0 4 false [x.av])) (g1 : G1[1]? = some (.arr 0 4 false [zeroState.av])) (gb : G1[b]? = some (.arr 0 4 false [t.av])) (b2 : 2 ≤ b)
    (hg : Grow G1 4 o ov (s.2.map Event.av)) (ho : o ≠ some b) (ho2 : ∀ i, o = some i → 2 ≤ i) (hs1 : s.1.children.l.length = x.children.l.length) (hs2 : s.1.restarts.l.length ≤ k) (hs3 : s.2.length ≤ x.children.l.length + k * (2 * x.children.l.length + 2))
    (ht : StOk t r) (ha : a.l = r.out) (hr : Size 1 (2 * x.children.l.length + 2) (runOf s.1) r) :
    ∃ ov' G3, ex G1 (.app 4) [ov, Sl.av Event.av 4 a] = some (ov', G3) ∧ okO ov = some ov ∧ okO ov' = some ov' ∧ RunP x b (k + 1) (mkS r, s.2 ++ r.out) t.av ov' G3 := by
  have z1 := hr.cs
  have z2 := hr.rs
  have z3 := hr.out
  simp only [runOf, List.length_nil] at z1 z2 z3
  have hmul : k * (2 * x.children.l.length + 2) ≤ 1000 * (2 * 1000 + 2) := Nat.mul_le_mul hk (by omega)
  obtain ⟨o', ov', G3, a1, a2, a3, a4, a5⟩ := hg.app (y := Sl.av Event.av 4 a) (xs := a.l.map Event.av) (by simp) (all_cell (fun x => by simp) _) (by simp only [List.length_map, ha, appRoom]; omega)
  have hbl := (List.getElem?_eq_some_iff.1 gb).1
  have ho' : ∀ i, o' = some i → o = some i ∨ G1.length < i + 1 := by
    intro i hi
    rcases a4 with rfl | ⟨h1, h2, _⟩
    · exact .inl hi
    · rw [h2] at hi; cases hi; right; omega
  have hob : o' ≠ some b := fun e => by
    rcases ho' b e with h1 | h1
    · exact ho h1
    · omega
  have keep : ∀ j B, o ≠ some j → G1[j]? = some B → G3[j]? = some B := fun j B hj hB => a3.get (by simpa using hj) hB
  refine ⟨ov', G3, a1, hg.okO, a2.okO, keep 0 _ (fun e => by have := ho2 0 e; omega) g0, keep 1 _ (fun e => by have := ho2 1 e; omega) g1, keep b _ ho gb, b2, ⟨o', t, Cur.state _ _ _ ht.k1 ht.k2, ht.core, ?_, hob, ?_⟩, ?_, ?_, ?_⟩
  · rw [List.map_append, ← ha]; exact a2
  · intro i hi
    rcases ho' i hi with h1 | h1
    · exact ho2 i h1
    · omega
  · simp only [mkS]; omega
  · simp only [mkS]; omega
  · simp only [List.length_append, Nat.add_mul, Nat.one_mul]; omega
theorem run_sizes (x : Spec) : ∀ (l : List Event) (k : Nat) (s : State × List Event) (s' : State × List Event), foldE (runStep x) k l s = .inl s' → s.1.children.l.length = x.children.l.length → s'.1.children.l.length = x.children.l.length ∧ s'.1.restarts.l.length ≤ s.1.restarts.l.length + l.length ∧ s'.2.length ≤ s.2.length + l.length * (2 * x.children.l.length + 2) := by
  intro l
  induction l with
  | nil => intro k s s' h hs; simp only [foldE, Sum.inl.injEq] at h; subst h; exact ⟨hs, by omega, by simp⟩
  | cons e l ih =>
    intro k s s' h hs
    simp only [foldE] at h
    cases hy : runStep x k e s with
    | inr y => rw [hy] at h; cases h
    | inl s1 =>
      rw [hy] at h
      have hsz := size_handle x s.1 e
      have z1 := hsz.cs
      have z2 := hsz.rs
      have z3 := hsz.out
      simp only [runOf, List.length_nil] at z1 z2 z3
      unfold runStep at hy
      split at hy
      · cases hy
        obtain ⟨g1, g2, g3⟩ := ih (k + 1) _ s' h (by simp only [mkS]; omega)
        simp only [mkS, List.length_append] at g2 g3
        refine ⟨g1, by rw [List.length_cons]; omega, ?_⟩
        rw [List.length_cons, Nat.add_mul, Nat.one_mul]
        omega
      · cases hy
theorem runN_sizes {x : Spec} {l : List Event} (hl : l.length ≤ 40) (hx : x.children.l.length ≤ 18) {c : Core} {a : List Event} {n e : Int} (h : (c, a, n, e) = runN x l) : c.2.1.length ≤ 1000 ∧ c.2.2.1.length ≤ 1000 ∧ a.length ≤ 10000 := by
  unfold runN at h
  split at h
  · split at h
    · rename_i s a' hf
      cases h
      obtain ⟨g1, g2, g3⟩ := run_sizes x l 0 _ _ hf (by simp [startS])
      simp only [startS, startL_len, List.length_nil, State.core] at g1 g2 g3 ⊢
      have : l.length * (2 * x.children.l.length + 2) ≤ 40 * (2 * 18 + 2) := Nat.mul_le_mul hl (by omega)
      omega
    · cases h
      simp [State.core]
  · cases h
    simp [State.core]
end
section
open Go Go.RowKit
set_option linter.unusedVariables false
set_option linter.unusedSimpArgs false
set_option maxRecDepth 10000

def ChildState.to (c : ChildState) (st : Int) : ChildState := { c with status := st }
@[simp] theorem to_status (c : ChildState) (st : Int) : (c.to st).status = st := rfl
@[simp] theorem to_starts (c : ChildState) (st : Int) : (c.to st).starts = c.starts := rfl
theorem setS_at (r : RunSt) (k : Nat) (st : Int) (i : Nat) : (r.setS k st).cs[i]? = r.cs[i]?.map fun c => if i = k then c.to st else c := by
  unfold RunSt.setS
  cases hk : r.cs[k]? with
  | none =>
    simp only
    by_cases h : i = k
    · subst h; rw [hk]; rfl
    · simp only [if_neg h, Option.map_id_fun', id]
  | some c =>
    simp only
    by_cases h : i = k
    · subst h
      rw [List.getElem?_set_self (List.getElem?_eq_some_iff.1 hk).1, hk]
      simp [ChildState.to]
    · rw [List.getElem?_set_ne (fun e => h e.symm)]
      simp only [if_neg h, Option.map_id_fun', id]
theorem setS_rs (r : RunSt) (k : Nat) (st : Int) : (r.setS k st).rs = r.rs := by unfold RunSt.setS; split <;> rfl
theorem map_at {α β : Type} {o : Option α} {f : α → β} {y : β} (h : o.map f = some y) : ∃ x, o = some x ∧ f x = y := by
  cases o with
  | none => cases h
  | some x => exact ⟨x, rfl, by simpa using h⟩
/-- A fold over the children, one step a child. -/
theorem fold_at (step : Nat → RunSt → RunSt) (f : ChildState → ChildState) (hs : ∀ k s i, (step k s).cs[i]? = s.cs[i]?.map fun c => if i = k then f c else c) : ∀ (l : List ChildState) (j : Nat) (s : RunSt) (i : Nat), ((l.zipIdx j).foldl (fun s a => step a.2 s) s).cs[i]? = s.cs[i]?.map fun c => if j ≤ i ∧ i < j + l.length then f c else c := by
  intro l
  induction l with
  | nil => intro j s i; simp [show ¬ (j ≤ i ∧ i < j) by omega]
  | cons a l ih =>
    intro j s i
    simp only [List.zipIdx_cons, List.foldl_cons, List.length_cons]
    rw [ih, hs, Option.map_map]
    congr 1
    funext c
    simp only [Function.comp]
    by_cases h1 : i = j
    · subst h1
      rw [if_pos rfl, if_neg (by omega), if_pos (by omega)]
    · rw [if_neg h1]
      by_cases h2 : j + 1 ≤ i ∧ i < j + 1 + l.length
      · rw [if_pos h2, if_pos (by omega)]
      · rw [if_neg h2, if_neg (by omega)]
theorem at_lt {l : List ChildState} {i : Nat} {f : ChildState → ChildState} : (l[i]?.map fun c => if 0 ≤ i ∧ i < 0 + l.length then f c else c) = l[i]?.map f := by
  cases h : l[i]? with
  | none => rfl
  | some c =>
    have := (List.getElem?_eq_some_iff.1 h).1
    simp [this]
def again1 (c : ChildState) : ChildState := if c.status = 4 then ⟨1, IntKind.wrap .i64 (c.starts + 1)⟩ else c
def hold1 (c : ChildState) : ChildState := if c.status = 4 then c.to 3 else c
theorem stepAgain_at (tm : Int) (k : Nat) (s : RunSt) (i : Nat) : (stepAgain tm k s).cs[i]? = s.cs[i]?.map fun c => if i = k then again1 c else c := by
  unfold stepAgain
  cases hk : s.cs[k]? with
  | none =>
    simp only
    by_cases h : i = k
    · subst h; rw [hk]; rfl
    · simp only [if_neg h, Option.map_id_fun', id]
  | some c =>
    simp only
    by_cases h4 : c.status = 4
    · rw [if_pos h4]
      simp only [RunSt.act]
      by_cases h : i = k
      · subst h
        rw [List.getElem?_set_self (List.getElem?_eq_some_iff.1 hk).1, hk]
        simp [again1, h4]
      · rw [List.getElem?_set_ne (fun e => h e.symm)]
        simp only [if_neg h, Option.map_id_fun', id]
    · rw [if_neg h4]
      by_cases h : i = k
      · subst h; rw [hk]; simp [again1, h4]
      · simp only [if_neg h, Option.map_id_fun', id]
theorem stepShut_at (k : Nat) (s : RunSt) (i : Nat) : (stepShut k s).cs[i]? = s.cs[i]?.map fun c => if i = k then hold1 c else c := by
  unfold stepShut
  cases hk : s.cs[k]? with
  | none =>
    simp only
    by_cases h : i = k
    · subst h; rw [hk]; rfl
    · simp only [if_neg h, Option.map_id_fun', id]
  | some c =>
    simp only
    by_cases h4 : c.status = 4
    · rw [if_pos h4, setS_at]
      by_cases h : i = k
      · subst h; rw [hk]; simp [hold1, h4]
      · simp only [if_neg h]
    · rw [if_neg h4]
      by_cases h : i = k
      · subst h; rw [hk]; simp [hold1, h4]
      · simp only [if_neg h, Option.map_id_fun', id]
theorem againS_at (tm : Int) (r : RunSt) (i : Nat) : (againS tm r).cs[i]? = r.cs[i]?.map again1 := by
  unfold againS
  simp only
  rw [fold_at (stepAgain tm) again1 (stepAgain_at tm), at_lt]
theorem holdS_at (r : RunSt) (i : Nat) : (holdS r).cs[i]? = r.cs[i]?.map hold1 := by
  unfold holdS
  rw [fold_at stepShut hold1 stepShut_at, at_lt]
def stop1 (l : List Int) (i : Nat) (c : ChildState) : ChildState := if (i : Int) ∈ l ∧ c.status = 1 then c.to 2 else c
theorem stopS_at (tm : Int) : ∀ (l : List Int) (r : RunSt) (hl : ∀ a ∈ l, 0 ≤ a) (i : Nat), (stopS tm l r).cs[i]? = r.cs[i]?.map (stop1 l i) := by
  intro l
  induction l with
  | nil =>
    intro r hl i
    have : stop1 [] i = id := by funext c; simp [stop1]
    rw [this]; simp [stopS]
  | cons a l ih =>
    intro r hl i
    have ih' := ih r (fun b hb => hl b (by simp [hb]))
    have ha := hl a (by simp)
    show (stepStop tm a (stopS tm l r)).cs[i]? = _
    unfold stepStop
    cases hk : (stopS tm l r).cs[a.toNat]? with
    | none =>
      simp only
      rw [ih']
      cases hi : r.cs[i]? with
      | none => rfl
      | some c =>
        have hne : (i : Int) ≠ a := by
          rintro rfl
          rw [ih'] at hk
          simp [hi] at hk
        simp [stop1, hne]
    | some c =>
      simp only
      by_cases h1 : c.status = 1
      · rw [if_pos h1]
        simp only [RunSt.act]
        by_cases h : i = a.toNat
        · subst h
          rw [List.getElem?_set_self (List.getElem?_eq_some_iff.1 hk).1]
          rw [ih'] at hk
          obtain ⟨c0, h2, h3⟩ := map_at hk
          rw [h2]
          have hm : ((a.toNat : Nat) : Int) = a := by omega
          unfold stop1 at h3
          rw [hm] at h3
          split at h3
          · rename_i h4
            rw [← h3] at h1
            simp at h1
          · subst h3
            simp [stop1, hm, h1, ChildState.to]
        · rw [List.getElem?_set_ne (fun e => h e.symm), ih']
          have hne : (i : Int) ≠ a := by omega
          congr 1
          funext c
          simp [stop1, hne]
      · rw [if_neg h1, ih']
        cases hi : r.cs[i]? with
        | none => rfl
        | some c0 =>
          by_cases h : i = a.toNat
          · subst h
            rw [ih', hi] at hk
            simp only [Option.map_some, Option.some.injEq] at hk ⊢
            have hm : ((a.toNat : Nat) : Int) = a := by omega
            rw [← hk] at h1
            unfold stop1 at h1 ⊢
            rw [hm] at h1 ⊢
            by_cases h5 : c0.status = 1
            · by_cases h6 : a ∈ l
              · simp [h5, h6]
              · simp [h5, h6] at h1
            · simp [h5]
          · have hne : (i : Int) ≠ a := by omega
            simp [stop1, hne]
theorem fold_st (step : Nat → RunSt → RunSt) (g : RunSt → Int × List Int × Bool) (hs : ∀ k s, g (step k s) = g s) : ∀ (l : List (ChildState × Nat)) (s : RunSt), g (l.foldl (fun s a => step a.2 s) s) = g s := by
  intro l
  induction l with
  | nil => intro s; rfl
  | cons a l ih => intro s; rw [List.foldl_cons, ih, hs]
def RunSt.rest (r : RunSt) : Int × List Int × Bool := (r.st, r.rs, r.fl)
theorem setS_rest (r : RunSt) (k : Nat) (st : Int) : (r.setS k st).rest = r.rest := by unfold RunSt.setS; split <;> rfl
theorem stepAgain_rest (tm : Int) (k : Nat) (s : RunSt) : (stepAgain tm k s).rest = s.rest := by
  unfold stepAgain; split
  · split <;> rfl
  · rfl
theorem stepShut_rest (k : Nat) (s : RunSt) : (stepShut k s).rest = s.rest := by
  unfold stepShut; split
  · split
    · exact setS_rest _ _ _
    · rfl
  · rfl
theorem stepStop_rest (tm i : Int) (s : RunSt) : (stepStop tm i s).rest = s.rest := by
  unfold stepStop; split
  · split <;> rfl
  · rfl
theorem holdS_rest (r : RunSt) : (holdS r).rest = r.rest := fold_st stepShut RunSt.rest stepShut_rest _ _
theorem stopS_rest (tm : Int) (l : List Int) (r : RunSt) : (stopS tm l r).rest = r.rest := by
  induction l with
  | nil => rfl
  | cons a l ih => show (stepStop tm a (stopS tm l r)).rest = _; rw [stepStop_rest, ih]
theorem againS_rest (tm : Int) (r : RunSt) : (againS tm r).st = 1 ∧ (againS tm r).rs = r.rs ∧ (againS tm r).fl = r.fl := by
  have := fold_st (stepAgain tm) RunSt.rest (stepAgain_rest tm) r.cs.zipIdx r
  simp only [RunSt.rest, Prod.mk.injEq] at this
  exact ⟨rfl, this.2.1, this.2.2⟩
theorem stopped_rest (tm : Int) (r : RunSt) : (r.stopped tm).st = 4 ∧ (r.stopped tm).rs = r.rs ∧ (r.stopped tm).fl = r.fl ∧ (r.stopped tm).cs = r.cs ∧ (r.stopped tm).out = r.out ++ (if r.fl = true then [⟨5, -1, 0, tm⟩] else []) := by
  unfold RunSt.stopped
  split
  · simp [RunSt.act]
  · simp
/-- Is there a child of this status? -/
def Has (l : List ChildState) (st : Int) : Prop := ∃ (i : Nat) (c : ChildState), l[i]? = some c ∧ c.status = st
theorem cnt_pos {l : List ChildState} {st : Int} : 0 < cnt l st ↔ Has l st := by
  unfold cnt Has
  rw [List.length_pos_iff_exists_mem]
  constructor
  · rintro ⟨c, hc⟩
    obtain ⟨h1, h2⟩ := List.mem_filter.1 hc
    obtain ⟨i, hi⟩ := List.getElem?_of_mem h1
    exact ⟨i, c, hi, by simpa using h2⟩
  · rintro ⟨i, c, h1, h2⟩
    exact ⟨c, List.mem_filter.2 ⟨List.mem_of_getElem? h1, by simpa using h2⟩⟩
theorem cnt_zero {l : List ChildState} {st : Int} : cnt l st = 0 ↔ ¬ Has l st := by
  rw [← cnt_pos]; omega
end
section
open Go Go.RowKit
set_option linter.unusedVariables false
set_option linter.unusedSimpArgs false
set_option maxRecDepth 10000

/-- The actions of a fold over the children. -/
def againOut (tm : Int) (cs : List ChildState) (j : Nat) : List Event := (cs.zipIdx j).filterMap fun a => if a.1.status = 4 then some ⟨3, a.2, 0, tm⟩ else none
theorem again_out (tm : Int) : ∀ (l : List ChildState) (j : Nat) (s : RunSt), (∀ i c, l[i]? = some c → s.cs[j + i]? = some c) → ((l.zipIdx j).foldl (fun s a => stepAgain tm a.2 s) s).out = s.out ++ againOut tm l j := by
  intro l
  induction l with
  | nil => intro j s h; simp [againOut]
  | cons a l ih =>
    intro j s h
    have h0 := h 0 a rfl
    simp only [Nat.add_zero] at h0
    simp only [List.zipIdx_cons, List.foldl_cons, againOut, List.filterMap_cons]
    rw [ih]
    · unfold stepAgain
      rw [h0]
      simp only
      by_cases h4 : a.status = 4
      · simp [h4, RunSt.act, againOut]
      · simp [h4, againOut]
    · intro i c hc
      have := h (i + 1) c (by simpa using hc)
      rw [stepAgain_at, show j + 1 + i = j + (i + 1) by omega, this]
      simp
theorem againS_out (tm : Int) (r : RunSt) : (againS tm r).out = r.out ++ againOut tm r.cs 0 := by
  unfold againS
  exact again_out tm r.cs 0 r (fun i c h => by simpa using h)
theorem fold_out (step : Nat → RunSt → RunSt) (hs : ∀ k s, (step k s).out = s.out) : ∀ (l : List (ChildState × Nat)) (s : RunSt), (l.foldl (fun s a => step a.2 s) s).out = s.out := by
  intro l
  induction l with
  | nil => intro s; rfl
  | cons a l ih => intro s; rw [List.foldl_cons, ih, hs]
theorem holdS_out (r : RunSt) : (holdS r).out = r.out := fold_out stepShut (fun k s => by
  unfold stepShut; split
  · split
    · exact setS_out _ _ _
    · rfl
  · rfl) _ _
def stopEv (tm : Int) (cs : List ChildState) (a : Int) : Option Event := match cs[a.toNat]? with | some c => if c.status = 1 then some ⟨4, a, 0, tm⟩ else none | none => none
def stopOut (tm : Int) (cs : List ChildState) (l : List Int) : List Event := l.reverse.filterMap (stopEv tm cs)
theorem stopS_out' (tm : Int) : ∀ (l : List Int) (r : RunSt) (hl : ∀ a ∈ l, 0 ≤ a) (hd : l.Nodup), (stopS tm l r).out = r.out ++ stopOut tm r.cs l := by
  intro l
  induction l with
  | nil => intro r _ _; simp [stopS, stopOut]
  | cons a l ih =>
    intro r hl hd
    have ih' := ih r (fun b hb => hl b (by simp [hb])) (List.nodup_cons.1 hd).2
    have hnot := (List.nodup_cons.1 hd).1
    have ha := hl a (by simp)
    have hat := stopS_at tm l r (fun b hb => hl b (by simp [hb])) a.toNat
    have hm : ((a.toNat : Nat) : Int) = a := by omega
    show (stepStop tm a (stopS tm l r)).out = _
    have hso : stopOut tm r.cs (a :: l) = stopOut tm r.cs l ++ (stopEv tm r.cs a).toList := by
      simp only [stopOut, List.reverse_cons, List.filterMap_append, List.filterMap_cons, List.filterMap_nil]
      cases stopEv tm r.cs a <;> rfl
    rw [hso, ← List.append_assoc, ← ih']
    unfold stepStop stopEv
    cases hc : r.cs[a.toNat]? with
    | none => rw [hat, hc]; simp
    | some c =>
      rw [hat, hc]
      simp only [Option.map_some]
      have : stop1 l a.toNat c = c := by
        unfold stop1
        rw [hm, if_neg (fun h => hnot h.1)]
      rw [this]
      by_cases h1 : c.status = 1
      · simp [h1, RunSt.act]
      · simp [h1]
/-- The children that a child affects, in ascending order. -/
theorem affF_sorted (s child : Int) : ∀ (n i : Nat), (affF s child n i).Pairwise (· < ·) := by
  intro n
  induction n with
  | zero => intro i; exact List.Pairwise.nil
  | succ n ih =>
    intro i
    unfold affF
    split
    · refine List.Pairwise.cons (fun j hj => ?_) (ih (i + 1))
      have := affF_in s child n (i + 1) j hj
      omega
    · exact ih (i + 1)
theorem affF_mem (s child : Int) : ∀ (n i : Nat) (j : Nat), (j : Int) ∈ affF s child n i ↔ i ≤ j ∧ j < i + n ∧ affP s child j = true := by
  intro n
  induction n with
  | zero => intro i j; simp [affF]; omega
  | succ n ih =>
    intro i j
    unfold affF
    split
    · rename_i h
      rw [List.mem_cons, ih]
      constructor
      · rintro (h1 | ⟨h1, h2, h3⟩)
        · have : j = i := by omega
          subst this; exact ⟨by omega, by omega, h⟩
        · exact ⟨by omega, by omega, h3⟩
      · rintro ⟨h1, h2, h3⟩
        by_cases h4 : j = i
        · subst h4; exact .inl rfl
        · exact .inr ⟨by omega, by omega, h3⟩
    · rename_i h
      rw [ih]
      constructor
      · rintro ⟨h1, h2, h3⟩; exact ⟨by omega, by omega, h3⟩
      · rintro ⟨h1, h2, h3⟩
        by_cases h4 : j = i
        · subst h4; exact absurd h3 h
        · exact ⟨by omega, by omega, h3⟩
theorem affL_nodup (x : Spec) (child : Int) : (affL x child).Nodup := (affF_sorted _ _ _ _).imp fun h => by omega
theorem affL_nn (x : Spec) (child : Int) : ∀ a ∈ affL x child, 0 ≤ a := fun a h => (affL_in x child a h).1
theorem idxs_nn (n : Nat) : ∀ a ∈ idxs n, 0 ≤ a := fun a h => (idxs_in h).1
theorem idxs_mem (n j : Nat) : (j : Int) ∈ idxs n ↔ j < n := by
  simp only [idxs, List.mem_map, List.mem_range]
  constructor
  · rintro ⟨k, h1, h2⟩; omega
  · intro h; exact ⟨j, h, rfl⟩
theorem idxs_sorted (n : Nat) : (idxs n).Pairwise (· < ·) := by
  unfold idxs
  rw [List.pairwise_map]
  exact List.pairwise_lt_range.imp fun h => by omega
theorem idxs_nodup (n : Nat) : (idxs n).Nodup := (idxs_sorted n).imp fun h => by omega
end
section
open Go Go.RowKit
set_option linter.unusedVariables false
set_option linter.unusedSimpArgs false
set_option maxRecDepth 10000

def Fit (x : Spec) (st : Int) (cs : List ChildState) : Prop :=
  (st = 1 ∧ ¬ Has cs 2 ∧ ¬ Has cs 4) ∨ (st = 2 ∧ x.strategy ≠ 1 ∧ Has cs 2 ∧ Has cs 4) ∨ (st = 3 ∧ Has cs 2 ∧ ¬ Has cs 1 ∧ ¬ Has cs 4) ∨ (st = 4 ∧ ¬ Has cs 1 ∧ ¬ Has cs 2 ∧ ¬ Has cs 4)
theorem fits_iff {x : Spec} {s : State} : fitsB x s = true ↔ Fit x s.status s.children.l := by
  unfold fitsB Fit
  simp only [← cnt_pos]
  by_cases h1 : s.status = 1
  · simp [h1]
  · by_cases h2 : s.status = 2
    · simp [h1, h2, and_assoc]
    · by_cases h3 : s.status = 3
      · simp [h1, h2, h3, and_assoc]
      · simp [h1, h2, h3, and_assoc]
def TimesP (l : List Int) (win : Int) : Prop := l.Pairwise (· ≤ ·) ∧ ∀ t ∈ l, 0 ≤ t ∧ t ≤ 1099511627776 ∧ lastI l - win < t
theorem times_iff {l : List Int} {win : Int} (hw : 1 ≤ win ∧ win ≤ 1099511627776) : timesB l win = true ↔ TimesP l win := by
  have step : timesB l win = true ↔ ∀ j t, l[j]? = some t → badTime l win j t = false := by
    unfold timesB
    rcases foldE_unit (timeStep l win) l 0 with ⟨g1, g2⟩ | ⟨j, a, y, g1, g2, g3, g4⟩
    · rw [g1]
      simp only [true_iff]
      intro j t hj
      have := g2 j t hj
      unfold timeStep at this
      split at this
      · cases this
      · have h9 : ¬ badTime l win (0 + j) t = true := ‹_›
        rw [Nat.zero_add] at h9
        simpa using h9
    · rw [g3]
      simp only [Bool.false_eq_true, false_iff]
      intro h
      have := h j a g1
      unfold timeStep at g2
      rw [Nat.zero_add, this] at g2
      simp at g2
  rw [step]
  have hlast : ∀ t, t ∈ l → lastI l ∈ l := by
    intro t ht
    have hl : 0 < l.length := List.length_pos_of_mem ht
    unfold lastI
    rw [List.getD_eq_getElem?_getD, List.getElem?_eq_getElem (by omega)]
    exact List.getElem_mem _
  constructor
  · intro h
    have hb : ∀ t ∈ l, 0 ≤ t ∧ t ≤ 1099511627776 := by
      intro t ht
      obtain ⟨j, hj⟩ := List.getElem?_of_mem ht
      have := h j t hj
      simp [badTime, inR] at this
      omega
    refine ⟨?_, fun t ht => ?_⟩
    · rw [List.pairwise_iff_getElem]
      have adj : ∀ (j : Nat) (hj : j + 1 < l.length), l[j]'(by omega) ≤ l[j + 1] := by
        intro j hj
        have := h (j + 1) l[j + 1] (List.getElem?_eq_getElem hj)
        have hg : l.getD j 0 = l[j]'(by omega) := by rw [List.getD_eq_getElem?_getD, List.getElem?_eq_getElem (by omega)]; rfl
        simp only [badTime, Bool.or_eq_false_iff, Bool.and_eq_false_iff, decide_eq_false_iff_not, Nat.add_sub_cancel] at this
        rw [hg] at this
        omega
      intro i j hi hj hij
      induction j with
      | zero => omega
      | succ j ih =>
        by_cases h1 : i = j
        · subst h1; exact adj i hj
        · exact Int.le_trans (ih (by omega) (by omega)) (adj j hj)
    · obtain ⟨j, hj⟩ := List.getElem?_of_mem ht
      have h1 := hb t ht
      have h2 := hb _ (hlast t ht)
      have := h j t hj
      rw [badTime, wrap64 (by omega) (by omega)] at this
      simp at this
      omega
  · rintro ⟨h1, h2⟩ j t hj
    have ht := List.mem_of_getElem? hj
    have h3 := h2 t ht
    have h4 := h2 _ (hlast t ht)
    rw [badTime, wrap64 (by omega) (by omega)]
    have h5 : 0 < j → l.getD (j - 1) 0 ≤ t := by
      intro h0
      obtain ⟨hlt, rfl⟩ := List.getElem?_eq_some_iff.1 hj
      rw [List.getD_eq_getElem?_getD, List.getElem?_eq_getElem (by omega)]
      exact List.pairwise_iff_getElem.1 h1 (j - 1) j (by omega) hlt (by omega)
    simp only [inR, Bool.or_eq_false_iff, Bool.and_eq_false_iff, decide_eq_false_iff_not, Bool.not_eq_false', Bool.and_eq_true, decide_eq_true_eq]
    refine ⟨⟨by omega, ?_⟩, by omega⟩
    by_cases h0 : 0 < j
    · right; have := h5 h0; omega
    · left; exact h0
structure Inv (x : Spec) (m : Int) (r : RunSt) : Prop where
  len : r.cs.length = x.children.l.length
  ok : ∀ (i : Nat) (c : ChildState), r.cs[i]? = some c → 1 ≤ c.status ∧ c.status ≤ 4 ∧ 1 ≤ c.starts ∧ c.starts ≤ m
  fit : Fit x r.st r.cs
  times : TimesP r.rs x.window
  few : (r.rs.length : Int) ≤ x.intensity
  fl : r.fl = true → r.st = 3 ∨ r.st = 4
theorem win_of {x : Spec} (h0 : chk x = 0) : 1 ≤ x.window ∧ x.window ≤ 1099511627776 := by
  have := (chk_ok h0).2.2.1
  simpa [inR] using this
theorem inv_valid {x : Spec} (h0 : chk x = 0) {m : Int} (hm : m ≤ 1099511627776) {s : State} (h : Inv x m (runOf s)) : validB x s = true := by
  have h1 : s.children.l.all childOk = true := by
    rw [List.all_eq_true]
    intro c hc
    obtain ⟨i, hi⟩ := List.getElem?_of_mem hc
    have := h.ok i c hi
    simp [childOk, inR]
    omega
  have h2 := fits_iff.2 h.fit
  have h3 := (times_iff (win_of h0)).2 h.times
  have h4 := h.few
  have h5 := h.fl
  have hl := h.len
  simp only [runOf] at h2 h3 h4 h5 hl
  simp only [validB, childrenB, endedB, h0, hl, h1, h2, h3, h4, decide_true, Bool.and_self, Bool.true_and]
  cases hf : s.failed with
  | false => rfl
  | true => rcases h5 hf with h6 | h6 <;> simp [h6]
/-- What is so of a state but for its status. -/
structure Inv0 (x : Spec) (m : Int) (r : RunSt) : Prop where
  len : r.cs.length = x.children.l.length
  ok : ∀ (i : Nat) (c : ChildState), r.cs[i]? = some c → 1 ≤ c.status ∧ c.status ≤ 4 ∧ 1 ≤ c.starts ∧ c.starts ≤ m
  times : TimesP r.rs x.window
  few : (r.rs.length : Int) ≤ x.intensity
theorem Inv.zero {x : Spec} {m : Int} {r : RunSt} (h : Inv x m r) : Inv0 x m r := ⟨h.len, h.ok, h.times, h.few⟩
theorem shut_at (tm : Int) (r : RunSt) (i : Nat) : (stopS tm (idxs r.cs.length) (holdS r)).cs[i]? = r.cs[i]?.map fun c => if c.status = 4 then c.to 3 else if c.status = 1 then c.to 2 else c := by
  rw [stopS_at tm _ _ (idxs_nn _), holdS_at, Option.map_map]
  cases h : r.cs[i]? with
  | none => rfl
  | some c =>
    have hi := (List.getElem?_eq_some_iff.1 h).1
    simp only [Option.map_some, Function.comp, stop1, hold1, idxs_mem, hi, true_and]
    by_cases h4 : c.status = 4
    · simp [h4]
    · simp [h4]
theorem shut_cs (tm : Int) (r : RunSt) : (shutS tm r).cs = (stopS tm (idxs r.cs.length) (holdS r)).cs := by
  unfold shutS; split
  · rfl
  · exact (stopped_rest _ _).2.2.2.1
theorem shut_rest (tm : Int) (r : RunSt) : (shutS tm r).rs = r.rs ∧ (shutS tm r).fl = r.fl := by
  have h1 := stopS_rest tm (idxs r.cs.length) (holdS r)
  rw [holdS_rest] at h1
  simp only [RunSt.rest, Prod.mk.injEq] at h1
  unfold shutS; split
  · exact ⟨h1.2.1, h1.2.2⟩
  · have h2 := stopped_rest tm (stopS tm (idxs r.cs.length) (holdS r))
    exact ⟨h2.2.1.trans h1.2.1, h2.2.2.1.trans h1.2.2⟩
theorem shut_inv {x : Spec} {m : Int} {r : RunSt} (h : Inv0 x m r) (tm : Int) : Inv x m (shutS tm r) ∧ ((shutS tm r).st = 3 ∨ (shutS tm r).st = 4) := by
  have hat := shut_at tm r
  have hcs := shut_cs tm r
  obtain ⟨hrs, hfl⟩ := shut_rest tm r
  have no1 : ¬ Has (stopS tm (idxs r.cs.length) (holdS r)).cs 1 := by
    rintro ⟨i, c, h1, h2⟩
    rw [hat] at h1
    obtain ⟨c0, h3, h4⟩ := map_at h1
    subst h4
    split at h2
    · simp at h2
    · split at h2
      · simp at h2
      · exact absurd h2 ‹_›
  have no4 : ¬ Has (stopS tm (idxs r.cs.length) (holdS r)).cs 4 := by
    rintro ⟨i, c, h1, h2⟩
    rw [hat] at h1
    obtain ⟨c0, h3, h4⟩ := map_at h1
    subst h4
    split at h2
    · simp at h2
    · split at h2
      · simp at h2
      · exact absurd h2 ‹_›
  have hst : ((shutS tm r).st = 3 ∧ Has (stopS tm (idxs r.cs.length) (holdS r)).cs 2) ∨ ((shutS tm r).st = 4 ∧ ¬ Has (stopS tm (idxs r.cs.length) (holdS r)).cs 2) := by
    unfold shutS
    split
    · rename_i hc; exact .inl ⟨rfl, cnt_pos.1 hc⟩
    · rename_i hc; exact .inr ⟨(stopped_rest _ _).1, cnt_zero.1 (by omega)⟩
  refine ⟨⟨?_, ?_, ?_, by rw [hrs]; exact h.times, by rw [hrs]; exact h.few, fun _ => ?_⟩, ?_⟩
  · rw [(size_shut tm r).cs]; exact h.len
  · intro i c hc
    rw [hcs, hat] at hc
    obtain ⟨c0, h3, h4⟩ := map_at hc
    have := h.ok i c0 h3
    subst h4
    split
    · simp; omega
    · split
      · simp; omega
      · exact this
  · rw [hcs]
    rcases hst with ⟨h1, h2⟩ | ⟨h1, h2⟩
    · exact .inr (.inr (.inl ⟨h1, h2, no1, no4⟩))
    · exact .inr (.inr (.inr ⟨h1, no1, h2, no4⟩))
  · rcases hst with ⟨h1, _⟩ | ⟨h1, _⟩
    · exact .inl h1
    · exact .inr h1
  · rcases hst with ⟨h1, _⟩ | ⟨h1, _⟩
    · exact .inl h1
    · exact .inr h1
theorem wrap_start {n : Int} (h : 1 ≤ n ∧ n ≤ 1099511627776) : IntKind.wrap .i64 (n + 1) = n + 1 := by rw [wrap64] <;> omega
theorem again_inv {x : Spec} {m : Int} {r : RunSt} (h : Inv0 x m r) (hm : m ≤ 1099511627776) (h2 : ¬ Has r.cs 2) (hf : r.fl = false) (tm : Int) : Inv x (m + 1) (againS tm r) := by
  have hat := againS_at tm r
  obtain ⟨h3, h4, h5⟩ := againS_rest tm r
  refine ⟨by rw [(size_again tm r).cs]; exact h.len, fun i c hc => ?_, .inl ⟨h3, ?_, ?_⟩, by rw [h4]; exact h.times, by rw [h4]; exact h.few, fun e => by rw [h5, hf] at e; cases e⟩
  · rw [hat] at hc
    obtain ⟨c0, g1, g2⟩ := map_at hc
    have := h.ok i c0 g1
    subst g2
    unfold again1
    split
    · rw [wrap_start (by omega)]; simp only; omega
    · omega
  · rintro ⟨i, c, g1, g2⟩
    rw [hat] at g1
    obtain ⟨c0, g3, g4⟩ := map_at g1
    subst g4
    unfold again1 at g2
    split at g2
    · simp at g2
    · exact h2 ⟨i, c0, g3, g2⟩
  · rintro ⟨i, c, g1, g2⟩
    rw [hat] at g1
    obtain ⟨c0, g3, g4⟩ := map_at g1
    subst g4
    unfold again1 at g2
    split at g2
    · simp at g2
    · exact absurd g2 ‹_›
end
section
open Go Go.RowKit
set_option linter.unusedVariables false
set_option linter.unusedSimpArgs false
set_option maxRecDepth 10000

theorem Inv.mono {x : Spec} {m m' : Int} {r : RunSt} (h : Inv x m r) (hm : m ≤ m') : Inv x m' r := ⟨h.len, fun i c hc => by have := h.ok i c hc; omega, h.fit, h.times, h.few, h.fl⟩
theorem setS_has {r : RunSt} {n : Nat} {c : ChildState} (hc : r.cs[n]? = some c) {a b k : Int} (ha : c.status ≠ k) (hb : b ≠ k) : Has (r.setS n b).cs k ↔ Has r.cs k := by
  constructor
  · rintro ⟨i, d, h1, h2⟩
    rw [setS_at] at h1
    obtain ⟨d0, h3, h4⟩ := map_at h1
    subst h4
    split at h2
    · exact absurd h2 hb
    · exact ⟨i, d0, h3, h2⟩
  · rintro ⟨i, d, h1, h2⟩
    have hi : i ≠ n := by
      rintro rfl
      rw [hc] at h1; cases h1
      exact ha h2
    exact ⟨i, d, by rw [setS_at, h1]; simp [hi], h2⟩
theorem setS_ok {x : Spec} {m : Int} {r : RunSt} (h : Inv0 x m r) (n : Nat) {b : Int} (hb : 1 ≤ b ∧ b ≤ 4) : Inv0 x m (r.setS n b) := by
  refine ⟨by rw [setS_len]; exact h.len, fun i c hc => ?_, by rw [setS_rs]; exact h.times, by rw [setS_rs]; exact h.few⟩
  rw [setS_at] at hc
  obtain ⟨d, h3, h4⟩ := map_at hc
  have := h.ok i d h3
  subst h4
  split
  · simp; omega
  · omega
theorem sorted_last {l : List Int} (h : l.Pairwise (· ≤ ·)) : ∀ t ∈ l, t ≤ lastI l := by
  intro t ht
  obtain ⟨j, hj⟩ := List.getElem?_of_mem ht
  obtain ⟨hlt, rfl⟩ := List.getElem?_eq_some_iff.1 hj
  unfold lastI
  rw [List.getD_eq_getElem?_getD, List.getElem?_eq_getElem (show l.length - 1 < l.length by omega)]
  simp only [Option.getD_some]
  by_cases h1 : j = l.length - 1
  · subst h1; exact Int.le_refl _
  · exact List.pairwise_iff_getElem.1 h j (l.length - 1) hlt (by omega) (by omega)
theorem not_stale {s : State} {e : Event} (h : staleB s e = false) (hl : s.restarts.l ≠ []) : lastI s.restarts.l ≤ e.time := by
  have h0 : 0 < s.restarts.l.length := List.length_pos_iff.2 hl
  unfold staleB at h
  rw [List.getElem?_eq_getElem (show s.restarts.l.length - 1 < s.restarts.l.length by omega)] at h
  unfold lastI
  rw [List.getD_eq_getElem?_getD, List.getElem?_eq_getElem (show s.restarts.l.length - 1 < s.restarts.l.length by omega)]
  simp at h
  simpa using h
theorem recent_times {x : Spec} (h0 : chk x = 0) {l : List Int} (h : TimesP l x.window) {tm : Int} (ht : 0 ≤ tm ∧ tm ≤ 1099511627776) (hs : ∀ t ∈ l, t ≤ tm) : TimesP (recentL x tm l ++ [tm]) x.window := by
  have hw := win_of h0
  have hold : ∀ t, oldT x tm t = decide (t ≤ tm - x.window) := by intro t; unfold oldT; rw [wrap64 (by omega) (by omega)]
  have hlast : lastI (recentL x tm l ++ [tm]) = tm := by unfold lastI; simp
  refine ⟨?_, fun t htm => ?_⟩
  · rw [List.pairwise_append]
    refine ⟨h.1.filter _, by simp, fun a ha b hb => ?_⟩
    have : b = tm := by simpa using hb
    subst this
    exact hs a (List.mem_filter.1 ha).1
  · rw [hlast]
    rcases List.mem_append.1 htm with h1 | h1
    · obtain ⟨h2, h3⟩ := List.mem_filter.1 h1
      have := h.2 t h2
      rw [hold] at h3
      simp at h3
      omega
    · have : t = tm := by simpa using h1
      subst this
      omega
theorem stop_inv0 {x : Spec} {m : Int} {r : RunSt} (h : Inv0 x m r) (tm : Int) {l : List Int} (hl : ∀ a ∈ l, 0 ≤ a) : Inv0 x m (stopS tm l r) := by
  have hr := stopS_rest tm l r
  simp only [RunSt.rest, Prod.mk.injEq] at hr
  refine ⟨by rw [stopS_len]; exact h.len, fun i c hc => ?_, by rw [hr.2.1]; exact h.times, by rw [hr.2.1]; exact h.few⟩
  rw [stopS_at tm l r hl] at hc
  obtain ⟨d, h3, h4⟩ := map_at hc
  have := h.ok i d h3
  subst h4
  unfold stop1
  split
  · simp; omega
  · omega
theorem running_inv {x : Spec} (h0 : chk x = 0) {m : Int} (hm : m ≤ 1099511627776) {r : RunSt} (h : Inv x m r) {n : Nat} {c : ChildState} (hc : r.cs[n]? = some c) (h1 : c.status = 1) {tm : Int} (ht : 0 ≤ tm ∧ tm ≤ 1099511627776) (hs : ∀ t ∈ r.rs, t ≤ tm) (ch : Child) (reason : Int) :
    Inv x (m + 1) (runningS x tm n ch reason r) := by
  have hst : r.st = 1 ∨ r.st = 2 := by
    rcases h.fit with ⟨a, _⟩ | ⟨a, _⟩ | ⟨_, _, a, _⟩ | ⟨_, a, _⟩
    · exact .inl a
    · exact .inr a
    · exact absurd ⟨n, c, hc, h1⟩ a
    · exact absurd ⟨n, c, hc, h1⟩ a
  have hfl : r.fl = false := by
    cases hf : r.fl with
    | false => rfl
    | true => have := h.fl hf; omega
  unfold runningS
  split
  · have z := setS_ok h.zero n (b := 3) (by omega)
    have hr := setS_rest r n 3
    simp only [RunSt.rest, Prod.mk.injEq] at hr
    refine Inv.mono (m := m) ⟨z.len, z.ok, ?_, z.times, z.few, fun e => by rw [hr.2.2, hfl] at e; cases e⟩ (by omega)
    rw [hr.1]
    unfold Fit
    rw [setS_has hc (a := 1) (k := 2) (by omega) (by omega), setS_has hc (a := 1) (k := 4) (by omega) (by omega)]
    rcases h.fit with ⟨a1, a2, a3⟩ | ⟨a1, a2, a3, a4⟩ | ⟨a, _⟩ | ⟨a, _⟩
    · exact .inl ⟨a1, a2, a3⟩
    · exact .inr (.inl ⟨a1, a2, a3, a4⟩)
    · omega
    · omega
  · split
    · have z := setS_ok h.zero n (b := 3) (by omega)
      exact (shut_inv (m := m) (r := { r.setS n 3 with fl := true }) ⟨z.len, z.ok, z.times, z.few⟩ tm).1.mono (by omega)
    · rename_i hq hi
      have hw := win_of h0
      have z0 : Inv0 x m ({ r with rs := recentL x tm r.rs ++ [tm] } : RunSt) := ⟨h.len, h.ok, recent_times h0 h.times ht hs, by simp; omega⟩
      have z1 := setS_ok z0 n (b := 4) (by omega)
      have z2 := stop_inv0 z1 tm (affL_nn x n)
      have hr := setS_rest ({ r with rs := recentL x tm r.rs ++ [tm] } : RunSt) n 4
      have hr2 := stopS_rest tm (affL x n) (({ r with rs := recentL x tm r.rs ++ [tm] } : RunSt).setS n 4)
      rw [hr] at hr2
      simp only [RunSt.rest, Prod.mk.injEq] at hr2
      have hcn : (({ r with rs := recentL x tm r.rs ++ [tm] } : RunSt).setS n 4).cs[n]? = some (c.to 4) := by
        rw [setS_at]; simp [hc]
      split
      · rename_i hz
        exact again_inv z2 hm (cnt_zero.1 hz) (by rw [hr2.2.2]; exact hfl) tm
      · rename_i hz
        have hz2 := cnt_pos.1 (by omega : 0 < cnt (stopS tm (affL x n) (({ r with rs := recentL x tm r.rs ++ [tm] } : RunSt).setS n 4)).cs 2)
        refine Inv.mono (m := m) ⟨z2.len, z2.ok, .inr (.inl ⟨rfl, ?_, hz2, n, c.to 4, ?_, rfl⟩), z2.times, z2.few, fun e => ?_⟩ (by omega)
        · rcases h.fit with ⟨a1, a2, a3⟩ | ⟨a1, a2, _⟩ | ⟨a, _⟩ | ⟨a, _⟩
          · intro hstr
            obtain ⟨i, d, g1, g2⟩ := hz2
            rw [stopS_at tm _ _ (affL_nn x n)] at g1
            obtain ⟨d0, g3, g4⟩ := map_at g1
            rw [setS_at] at g3
            obtain ⟨d1, g5, g6⟩ := map_at g3
            subst g4
            by_cases hin : i = n
            · rw [if_pos hin] at g6
              subst g6
              simp [stop1] at g2
            · rw [if_neg hin] at g6
              subst g6
              unfold stop1 at g2
              split at g2
              · rename_i h9
                have := (affF_mem _ _ _ _ _).1 h9.1
                simp [affP, hstr] at this
                omega
              · exact a2 ⟨i, d1, g5, g2⟩
          · exact a2
          · omega
          · omega
        · rw [stopS_at tm _ _ (affL_nn x n), hcn]
          simp [stop1]
        · have : r.fl = true := by rw [← hr2.2.2]; exact e
          rw [hfl] at this; cases this
theorem stopping_inv {x : Spec} {m : Int} (hm : m ≤ 1099511627776) {r : RunSt} (h : Inv x m r) {n : Nat} {c : ChildState} (hc : r.cs[n]? = some c) (h2 : c.status = 2) (tm : Int) (ch : Child) : Inv x (m + 1) (stoppingS tm n ch r) := by
  have hst : r.st = 2 ∨ r.st = 3 := by
    rcases h.fit with ⟨_, a, _⟩ | ⟨a, _⟩ | ⟨a, _⟩ | ⟨_, _, a, _⟩
    · exact absurd ⟨n, c, hc, h2⟩ a
    · exact .inl a
    · exact .inr a
    · exact absurd ⟨n, c, hc, h2⟩ a
  have z : Inv0 x m (stopping1 n ch r) := setS_ok h.zero n (by split <;> omega)
  have hr : (stopping1 n ch r).rest = r.rest := setS_rest _ _ _
  simp only [RunSt.rest, Prod.mk.injEq] at hr
  have hfit := h.fit
  unfold stoppingS
  split
  · rename_i hz
    have hz2 := cnt_pos.1 hz
    refine Inv.mono (m := m) ⟨z.len, z.ok, ?_, z.times, z.few, fun e => by rw [hr.1]; exact h.fl (by rw [← hr.2.2]; exact e)⟩ (by omega)
    rw [hr.1]
    rcases hst with hst | hst
    · rcases hfit with ⟨a, _⟩ | ⟨a1, a2, a3, a4⟩ | ⟨a, _⟩ | ⟨a, _⟩
      · omega
      · refine .inr (.inl ⟨a1, a2, hz2, ?_⟩)
        obtain ⟨i, d, g1, g2⟩ := a4
        have hi : i ≠ n := by rintro rfl; rw [hc] at g1; cases g1; omega
        exact ⟨i, d, by unfold stopping1; rw [setS_at, g1]; simp [hi], g2⟩
      · omega
      · omega
    · rcases hfit with ⟨a, _⟩ | ⟨a, _⟩ | ⟨a1, a2, a3, a4⟩ | ⟨a, _⟩
      · omega
      · omega
      · refine .inr (.inr (.inl ⟨a1, hz2, ?_, ?_⟩))
        · unfold stopping1
          rw [if_neg (by omega), setS_has hc (a := 2) (by omega) (by omega)]
          exact a3
        · unfold stopping1
          rw [if_neg (by omega), setS_has hc (a := 2) (by omega) (by omega)]
          exact a4
      · omega
  · rename_i hz
    have hz2 : ¬ Has (stopping1 n ch r).cs 2 := cnt_zero.1 (by omega)
    split
    · rename_i h22
      refine again_inv z hm hz2 ?_ tm
      rw [hr.2.2]
      cases hf : r.fl with
      | false => rfl
      | true => have := h.fl hf; omega
    · rename_i h22
      obtain ⟨s1, s2, s3, s4, s5⟩ := stopped_rest tm (stopping1 n ch r)
      refine Inv.mono (m := m) ⟨by rw [s4]; exact z.len, by rw [s4]; exact z.ok, ?_, by rw [s2]; exact z.times, by rw [s2]; exact z.few, fun _ => .inr s1⟩ (by omega)
      rw [s1, s4]
      rcases hfit with ⟨a, _⟩ | ⟨a, _⟩ | ⟨a1, a2, a3, a4⟩ | ⟨a, _⟩
      · omega
      · omega
      · refine .inr (.inr (.inr ⟨rfl, ?_, hz2, ?_⟩))
        · unfold stopping1
          rw [if_neg (by omega), setS_has hc (a := 2) (by omega) (by omega)]
          exact a3
        · unfold stopping1
          rw [if_neg (by omega), setS_has hc (a := 2) (by omega) (by omega)]
          exact a4
      · omega
theorem handle_inv {x : Spec} (h0 : chk x = 0) {m : Int} (hm : m ≤ 1099511627776) {s : State} (h : Inv x m (runOf s)) {e : Event} (hc : checkN x s e = 0) : Inv x (m + 1) (handleR x s e) := by
  obtain ⟨hk, ht, hs, hd⟩ := check_facts hc
  have ht' : 0 ≤ e.time ∧ e.time ≤ 1099511627776 := by simpa [inR] using ht
  have hold : ∀ t ∈ s.restarts.l, t ≤ e.time := by
    intro t htm
    have h1 := sorted_last h.times.1 t htm
    have h2 := not_stale hs (List.ne_nil_of_mem htm)
    simp only [runOf] at h1
    omega
  unfold handleR
  rcases hk with ⟨h1, h2, h3⟩ | ⟨h1, _⟩
  · rw [if_pos h1]
    have hin : 0 ≤ e.child ∧ e.child ≤ (x.children.l.length : Int) - 1 := by simpa [inR] using h2
    have hlen := h.len
    simp only [runOf] at hlen
    have g1 := List.getElem?_eq_getElem (l := x.children.l) (i := e.child.toNat) (by omega)
    have g2 := List.getElem?_eq_getElem (l := s.children.l) (i := e.child.toNat) (by omega)
    simp only [g1, g2]
    unfold exitedS
    split
    · rename_i h4
      exact running_inv h0 hm h g2 h4 ht' hold _ _
    · rename_i h4
      refine stopping_inv hm h g2 ?_ _ _
      unfold deadB at hd
      rw [if_pos h1, g2] at hd
      simp at hd
      exact hd h4
  · rw [if_neg (by omega)]
    unfold askedS
    split
    · exact h.mono (by omega)
    · exact (shut_inv h.zero _).1.mono (by omega)
end
end Go.Proofs.Ytjknjapdcphcfaa
