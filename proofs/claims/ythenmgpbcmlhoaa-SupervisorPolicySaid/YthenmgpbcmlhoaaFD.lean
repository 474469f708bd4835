/-
  Run: the plain function, and what its loop keeps (conditions: none). Run, as the program has it, and as the reference has it (conditions: none). Run, as the reference has it; the law SupervisorRun (conditions: none).
-/
import Derived.Test.YthenmgpbcmlhoaaFC
namespace Go.Proofs.Ythenmgpbcmlhoaa
section
open Go Go.RowKit
set_option linter.unusedVariables false
set_option linter.unusedSimpArgs false
set_option maxRecDepth 10000
set_option maxHeartbeats 1000000

theorem core_inj {s t : State} (h : s.core = t.core) : s.status = t.status ∧ s.children.l = t.children.l ∧ s.restarts.l = t.restarts.l ∧ s.failed = t.failed := by
  simpa [State.core] using h
theorem runOf_core {s t : State} (h : s.core = t.core) : runOf s = runOf t := by
  obtain ⟨h1, h2, h3, h4⟩ := core_inj h
  simp only [runOf, h1, h2, h3, h4]
theorem handleR_core {x : Spec} {s t : State} {e : Event} (h : s.core = t.core) : handleR x s e = handleR x t e := by
  obtain ⟨h1, h2, h3, h4⟩ := core_inj h
  simp only [handleR, runOf_core h, h2]
theorem handleE_core {x : Spec} {s t : State} {e : Event} (h : s.core = t.core) : handleE x s e = handleE x t e := by
  obtain ⟨h1, h2, h3, h4⟩ := core_inj h
  have a1 : fitsB x s = fitsB x t := by simp only [fitsB, h1, h2]
  have a2 : validB x s = validB x t := by simp only [validB, childrenB, endedB, a1, h1, h2, h3, h4]
  have a3 : staleB s e = staleB t e := by unfold staleB; rw [h3]
  have a4 : deadB s e = deadB t e := by unfold deadB; rw [h1, h2]
  simp only [handleE, a2, checkN, a3, a4]
def mkS (r : RunSt) : State := ⟨r.st, ofL 2 r.cs, ofL 1 r.rs, r.fl⟩
theorem StOk.core {t : State} {r : RunSt} (h : StOk t r) : t.core = (mkS r).core := by
  simp only [State.core, h.st, h.cs, h.rs, h.fl, mkS]
def startS (x : Spec) : State := ⟨1, ofL 2 (List.replicate x.children.l.length start1), slNil, false⟩
def runStep (x : Spec) (k : Nat) (e : Event) (s : State × List Event) : (State × List Event) ⊕ (Nat × Int) :=
  if handleE x s.1 e = 0 then .inl (mkS (handleR x s.1 e), s.2 ++ (handleR x s.1 e).out) else .inr (k, handleE x s.1 e)
abbrev Core := Int × List ChildState × List Int × Bool
def runN (x : Spec) (l : List Event) : Core × List Event × Int × Int :=
  if chk x = 0 then (match foldE (runStep x) 0 l (startS x, startL x.children.l.length) with
    | .inl (s, a) => (s.core, a, l.length, 0)
    | .inr (k, e) => (zeroState.core, [], k, e))
  else (zeroState.core, [], 0, 1)
def RunOk (x : Spec) (l : List Event) (v : AV) : Prop := ∃ (t : State) (a : Sl Event) (n c : Int), v = .tuple [t.av, Sl.av Event.av 4 a, I n, I c] ∧ (t.core, a.l, n, c) = runN x l
/-- The state between two events: given away already, or still of one's own (as New has made it). -/
def Cur (H : Heap) (b : Nat) (o : Option Nat) (sv : AV) (s : State) : Prop :=
  KnownNil s.children ∧ KnownNil s.restarts ∧ (sv = s.av ∨ ∃ q ver t sh, sv = .agg [I s.status, .osl q ver 0 s.children.l.length, Sl.ints s.restarts, .bool s.failed] ∧ s.children.nl = some false ∧ s.children.z = 2 ∧ H[q]? = some (.arr ver 2 sh (s.children.l.map ChildState.av ++ t)) ∧ 2 ≤ q ∧ q < b ∧ o ≠ some q)
theorem all_map_still (l : List ChildState) (t : List AV) : (((l.map ChildState.av ++ t).drop 0).take l.length).all (fun e => e.cells.all AV.still) = true ∧ ((l.map ChildState.av ++ t).drop 0).take l.length = l.map ChildState.av := by
  have h : ((l.map ChildState.av ++ t).drop 0).take l.length = l.map ChildState.av := by
    rw [List.drop_zero, List.take_append_of_le_length (by simp)]
    rw [List.take_of_length_le (by simp)]
  rw [h]
  exact ⟨all_still (fun x => by simp) _, rfl⟩
theorem sl_false {s : Sl ChildState} (h : s.nl = some false) (hz : s.z = 2) : (.isl (some false) 2 (s.l.map ChildState.av) : AV) = Sl.av ChildState.av 2 s := by
  obtain ⟨nl, z, l⟩ := s
  simp only at h hz
  subst h hz
  cases l <;> rfl
theorem Cur.pub {H : Heap} {b : Nat} {o : Option Nat} {sv : AV} {s : State} (h : Cur H b o sv s) : ∃ H', pubA H sv = (s.av, H') ∧ H'.length = H.length ∧ ∀ j, j < 2 ∨ b ≤ j ∨ o = some j → H'[j]? = H[j]? := by
  obtain ⟨h1, h2, rfl | ⟨q, ver, t, sh, rfl, h3, hz, h4, h5, h6, h7⟩⟩ := h
  · exact ⟨H, rfl, rfl, fun _ _ => rfl⟩
  · obtain ⟨k1, k2⟩ := all_map_still s.children.l t
    refine ⟨H.set q (.arr ver 2 true (s.children.l.map ChildState.av ++ t)), ?_, by simp, fun j hj => ?_⟩
    · simp only [pubA, pubs1, pub1, h4]
      rw [if_pos ⟨trivial, by simp, k1⟩, k2, sl_false h3 hz]
      rfl
    · rw [List.getElem?_set_ne]
      rintro rfl
      rcases hj with hj | hj | hj
      · omega
      · omega
      · exact h7 hj
theorem Cur.frz {H : Heap} {b : Nat} {o : Option Nat} {sv : AV} {s : State} (h : Cur H b o sv s) (n : Nat) : Go.Proofs.Ythenmgpbcmlhoaa.frz H (n + 2) sv = some s.av := by
  obtain ⟨h1, h2, rfl | ⟨q, ver, t, sh, rfl, h3, hz, h4, h5, h6, h7⟩⟩ := h
  · exact State_frz n
  · obtain ⟨k1, k2⟩ := all_map_still s.children.l t
    have : Go.Proofs.Ythenmgpbcmlhoaa.frz H (n + 1) (.osl q ver 0 s.children.l.length) = some (Sl.av ChildState.av 2 s.children) := by
      simp only [Go.Proofs.Ythenmgpbcmlhoaa.frz, h4]
      rw [if_pos ⟨trivial, by simp⟩, if_pos k1, k2, sl_false h3 hz]
    simp only [frz_agg, frzs_cons, frzs_nil, frz_int, frz_bool, this, consO_some, Option.map_some]
    rfl
theorem Cur.ok {H : Heap} {b : Nat} {o : Option Nat} {sv : AV} {s : State} (h : Cur H b o sv s) : okO sv = some sv ∧ sv.cells.length = 4 ∧ sv.cells.all AV.cell = true ∧ ldCells true 4 sv.cells = sv ∧ setElem [zeroState.av] 0 0 sv = some [sv] := by
  obtain ⟨h1, h2, rfl | ⟨q, ver, t, sh, rfl, h3, hz, h4, h5, h6, h7⟩⟩ := h
  · exact ⟨rfl, rfl, rfl, rfl, rfl⟩
  · exact ⟨rfl, rfl, rfl, rfl, rfl⟩
theorem Cur.kept {H H' : Heap} {b : Nat} {o o' : Option Nat} {sv : AV} {s : State} (h : Cur H b o sv s) (hk : ∀ q, q < b → o ≠ some q → H'[q]? = H[q]?) (ho : ∀ q, q < b → o' = some q → o = some q) : Cur H' b o' sv s := by
  obtain ⟨h1, h2, rfl | ⟨q, ver, t, sh, rfl, h3, hz, h4, h5, h6, h7⟩⟩ := h
  · exact ⟨h1, h2, .inl rfl⟩
  · exact ⟨h1, h2, .inr ⟨q, ver, t, sh, rfl, h3, hz, by rw [hk q h6 h7]; exact h4, h5, h6, fun e => h7 (ho q h6 e)⟩⟩
theorem Cur.state (H : Heap) (b : Nat) (o : Option Nat) {s : State} (h1 : KnownNil s.children) (h2 : KnownNil s.restarts) : Cur H b o s.av s := ⟨h1, h2, .inl rfl⟩
theorem Cur.cases {H : Heap} {b : Nat} {o : Option Nat} {sv : AV} {s : State} (h : Cur H b o sv s) : ∃ a1 a2 a3 a4, sv = .agg [a1, a2, a3, a4] ∧ a1.cell = true ∧ a2.cell = true ∧ a3.cell = true ∧ a4.cell = true := by
  obtain ⟨h1, h2, rfl | ⟨q, ver, t, sh, rfl, h3, hz, h4, h5, h6, h7⟩⟩ := h
  · exact ⟨_, _, _, _, rfl, rfl, rfl, rfl, rfl⟩
  · exact ⟨_, _, _, _, rfl, rfl, rfl, rfl, rfl⟩
@[simp] theorem pub_spec (H : Heap) (x : Spec) : pubA H x.av = (x.av, H) := rfl
@[simp] theorem pub_event (H : Heap) (x : Event) : pubA H x.av = (x.av, H) := rfl
/-- What Run's loop keeps. b: the block of the state; T: how many events there have been. -/
structure RunP (x : Spec) (b : Nat) (k : Nat) (s : State × List Event) (sv ov : AV) (G : Heap) : Prop where
  g0 : G[0]? = some (.arr 0 4 false [x.av])
  g1 : G[1]? = some (.arr 0 4 false [zeroState.av])
  gb : G[b]? = some (.arr 0 4 false [sv])
  b2 : 2 ≤ b
  ex : ∃ o s', Cur G b o sv s' ∧ s'.core = s.1.core ∧ Grow G 4 o ov (s.2.map Event.av) ∧ o ≠ some b ∧ ∀ i, o = some i → 2 ≤ i
  len : s.1.children.l.length = x.children.l.length
  rs : s.1.restarts.l.length ≤ k
  out : s.2.length ≤ x.children.l.length + k * (2 * x.children.l.length + 2)
theorem RunP.pub {x : Spec} {b k : Nat} {s : State × List Event} {sv ov : AV} {G GA : Heap} (h : RunP x b k s sv ov G) (hA : Kept none G GA) :
    ∃ (s' : State) (G1 : Heap), pubA GA sv = (s'.av, G1) ∧ s'.core = s.1.core ∧ KnownNil s'.children ∧ KnownNil s'.restarts ∧ G1.length = GA.length ∧ (∀ j, j < 2 ∨ b ≤ j → G1[j]? = GA[j]?) ∧ ∃ o, Grow G1 4 o ov (s.2.map Event.av) ∧ o ≠ some b ∧ ∀ i, o = some i → 2 ≤ i := by
  obtain ⟨o, s', h1, h2, h3, h4, h5⟩ := h.ex
  have h1' : Cur GA b o sv s' := h1.kept (fun q hq _ => by
    have hb := (List.getElem?_eq_some_iff.1 h.gb).1
    rw [hA.2 q (by simp) (by omega)]) (fun q _ e => e)
  obtain ⟨G1, p1, p2, p3⟩ := h1'.pub
  refine ⟨s', G1, p1, h2, h1.1, h1.2.1, p2, fun j hj => p3 j (by rcases hj with hj | hj; exact .inl hj; exact .inr (.inl hj)), o, ?_, h4, h5⟩
  have h6 := h3.kept hA (by simp)
  cases o with
  | none => exact h6
  | some i =>
    obtain ⟨ver, t, g1, g2⟩ := h6
    exact ⟨ver, t, g1, by rw [p3 i (.inr (.inr rfl))]; exact g2⟩
theorem run_app {x : Spec} {b k : Nat} {s : State × List Event} {sv ov : AV} {G1 : Heap} {o : Option Nat} (hx : x.children.l.length ≤ 1000) (hk : k ≤ 1000) (g0 : G1[0]? = some (.arr 0 4 false [x.av])) (g1 : G1[1]? = some (.arr 0 4 false [zeroState.av])) (gb : G1[b]? = some (.arr 0 4 false [sv])) (b2 : 2 ≤ b)
    (hg : Grow G1 4 o ov (s.2.map Event.av)) (ho : o ≠ some b) (ho2 : ∀ i, o = some i → 2 ≤ i) (hs1 : s.1.children.l.length = x.children.l.length) (hs2 : s.1.restarts.l.length ≤ k) (hs3 : s.2.length ≤ x.children.l.length + k * (2 * x.children.l.length + 2))
    {t : State} {a : Sl Event} {r : RunSt} (ht : StOk t r) (ha : a.l = r.out) (hr : Size 1 (2 * x.children.l.length + 2) (runOf s.1) r) (e : AV) :
    ∃ ov' G3, ex (G1 ++ [.arr 0 4 false [e]]) (.app 4) [ov, Sl.av Event.av 4 a] = some (ov', G3) ∧ okO ov = some ov ∧ okO ov' = some ov' ∧ apart ov (.optr G1.length 0 0 0) = true ∧ G3[b]? = some (.arr 0 4 false [sv]) ∧ RunP x b (k + 1) (mkS r, s.2 ++ r.out) t.av ov' (G3.set b (.arr 0 4 false [t.av])) := by
  have hK := Kept.append none G1 [.arr 0 4 false [e]]
  have z1 := hr.cs
  have z2 := hr.rs
  have z3 := hr.out
  simp only [runOf, List.length_nil] at z1 z2 z3
  have hmul : k * (2 * x.children.l.length + 2) ≤ 1000 * (2 * 1000 + 2) := Nat.mul_le_mul hk (by omega)
  have hg' := hg.kept hK (by simp)
  obtain ⟨o', ov', G3, a1, a2, a3, a4, a5⟩ := hg'.app (y := Sl.av Event.av 4 a) (xs := a.l.map Event.av) (by simp) (all_cell (fun x => by simp) _) (by simp only [List.length_map, ha, appRoom]; omega)
  have hbl := (List.getElem?_eq_some_iff.1 gb).1
  have ho' : ∀ i, o' = some i → o = some i ∨ G1.length < i + 1 := by
    intro i hi
    rcases a4 with rfl | ⟨h1, h2, _⟩
    · exact .inl hi
    · rw [h2] at hi; cases hi; right; simp; omega
  have hob : o' ≠ some b := fun e => by
    rcases ho' b e with h1 | h1
    · exact ho h1
    · omega
  have keep : ∀ j B, o ≠ some j → G1[j]? = some B → G3[j]? = some B := fun j B hj hB => a3.get (by simpa using hj) (hK.get (by simp) hB)
  have hset := Kept.set b G3 (.arr 0 4 false [t.av])
  refine ⟨ov', G3, a1, hg.okO, a2.okO, ?_, keep b _ ho gb, ?_⟩
  · cases o with
    | none => obtain ⟨rfl, _⟩ := hg; rfl
    | some i =>
      have hlt := hg.lt
      obtain ⟨ver, tl, rfl, _⟩ := hg
      have : i ≠ G1.length := by omega
      simpa [apart] using this
  · refine ⟨?_, ?_, ?_, b2, ⟨o', t, ?_, ht.core, ?_, hob, ?_⟩, ?_, ?_, ?_⟩
    · exact hset.get (by simp; omega) (keep 0 _ (fun e => by have := ho2 0 e; omega) g0)
    · exact hset.get (by simp; omega) (keep 1 _ (fun e => by have := ho2 1 e; omega) g1)
    · exact List.getElem?_set_self (by have := a3.1; simp at this; omega)
    · exact Cur.state _ _ _ ht.k1 ht.k2
    · rw [List.map_append, ← ha]
      exact a2.kept hset (fun id hid => by cases hid; exact hob)
    · intro i hi
      rcases ho' i hi with h1 | h1
      · exact ho2 i h1
      · omega
    · simp only [mkS]; omega
    · simp only [mkS]; omega
    · simp only [List.length_append, Nat.add_mul, Nat.one_mul]; omega
end
section
open Go Go.RowKit
set_option linter.unusedVariables false
set_option linter.unusedSimpArgs false
set_option maxRecDepth 10000
set_option maxHeartbeats 1000000
attribute [local irreducible] okV okC

/-- What New leaves: the beginning of Run's loop. -/
theorem run_start {x : Spec} (h0 : chk x = 0) {G : Heap} {cv ev : AV} {o1 o2 : Option Nat} (p1 : Grow G 2 o1 cv ((List.replicate x.children.l.length start1).map ChildState.av)) (p2 : Grow G 4 o2 ev ((startL x.children.l.length).map Event.av)) (q1 : ∀ i, o1 = some i → 2 ≤ i) (q2 : ∀ i, o2 = some i → 2 ≤ i) (q3 : ∀ i, o1 = some i → o2 ≠ some i) (hG : 2 ≤ G.length)
    (g0 : G[0]? = some (.arr 0 4 false [x.av])) (g1 : G[1]? = some (.arr 0 4 false [zeroState.av])) :
    RunP x G.length 0 (startS x, startL x.children.l.length) (.agg [I 1, cv, .isl (some true) 0 [], .bool false]) ev (G ++ [.arr 0 4 false [.agg [I 1, cv, .isl (some true) 0 [], .bool false]]]) := by
  have hlen := chk_len h0
  have hK := Kept.append none G [.arr 0 4 false [.agg [I 1, cv, .isl (some true) 0 [], .bool false]]]
  refine ⟨hK.get (by simp) g0, hK.get (by simp) g1, by simp, hG, ⟨o2, startS x, ⟨.inr rfl, .inl ⟨rfl, rfl⟩, .inr ?_⟩, rfl, p2.kept hK (by simp), fun e => by subst e; exact absurd p2.lt (by omega), q2⟩, by simp [startS], by simp [startS], by simp [startL_len]⟩
  cases o1 with
  | none => exact absurd (congrArg List.length p1.2) (by rw [List.length_map, List.length_replicate, List.length_nil]; omega)
  | some q =>
    have hlt := p1.lt
    obtain ⟨ver, t, rfl, hb⟩ := p1
    refine ⟨q, ver, t, false, ?_, rfl, rfl, ?_, q1 q rfl, hlt, q3 q rfl⟩
    · simp [startS]
      rfl
    · exact hK.get (by simp) hb
/-- The end of Run: what it gives back. -/
theorem run_end {x : Spec} {b k : Nat} {s : State × List Event} {sv ov : AV} {G : Heap} (h : RunP x b k s sv ov G) (n : Int) :
    ∃ (t : State) (a : Sl Event), Go.Proofs.Ythenmgpbcmlhoaa.frz (G.set 1 (.arr 0 4 false [sv])) 8 (.tuple [sv, ov, I n, I 0]) = some (.tuple [t.av, Sl.av Event.av 4 a, I n, I 0]) ∧ t.core = s.1.core ∧ a.l = s.2 := by
  obtain ⟨o, s', h1, h2, h3, h4, h5⟩ := h.ex
  have hk := Kept.set 1 G (.arr 0 4 false [sv])
  have c1 : Cur (G.set 1 (.arr 0 4 false [sv])) b o sv s' := by
    obtain ⟨a1, a2, rfl | ⟨q, ver, t, sh, rfl, b1, b2, b3, b4, b5, b6⟩⟩ := h1
    · exact ⟨a1, a2, .inl rfl⟩
    · exact ⟨a1, a2, .inr ⟨q, ver, t, sh, rfl, b1, b2, hk.get (by simp; omega) b3, b4, b5, b6⟩⟩
  have g1 := h3.kept hk (fun id hid e => by cases hid; have := h5 1 e; omega)
  have f1 := c1.frz 5
  have f2 := g1.sl (n := 6) (all_still (fun x => by simp) _)
  refine ⟨s', if o = none then slNil else ofL 4 s.2, ?_, h2, ?_⟩
  · simp only [frz_tuple, frzs_cons, frzs_nil, frz_int, f1, f2, consO_some, Option.map_some]
  · cases o with
    | none => have := g1.2; simp at this; rw [this]; rfl
    | some i => rfl
theorem Cur.st {H : Heap} {b : Nat} {o : Option Nat} {sv : AV} {s : State} (h : Cur H b o sv s) (t : State) : setElem [sv] 0 0 t.av = some [t.av] := by
  obtain ⟨h1, h2, rfl | ⟨q, ver, t', sh, rfl, h3, hz, h4, h5, h6, h7⟩⟩ := h
  · rfl
  · rfl
theorem e19 (x : Spec) (l : Sl Event) (hn : ∀ c ∈ x.children.l, c.name.length ≤ 1000000) (hx : x.children.l.length ≤ 1000) (hl : l.l.length ≤ 1000) : ∃ v, W.pure 19 [x.av, Sl.av Event.av 4 l] = some v ∧ RunOk x l.l v := by
  have hz : (.agg [I 0, .isl (some true) 0 [], .isl (some true) 0 [], .bool false] : AV) = zeroState.av := rfl
  have key : okV (evFun W fi19 [x.av, Sl.av Event.av 4 l] []) (fun v G => ∃ u, Go.Proofs.Ythenmgpbcmlhoaa.frz G 8 v = some u ∧ RunOk x l.l u) := by
    obtain ⟨v, G, a0, a1, a2, a3, a4⟩ := okV_iff.1 (call29 x hn (.arr 0 4 false [x.av]) (.arr 0 4 false [zeroState.av]))
    have c29 := (W_call Φ29 [] [x.av] [] _).trans a0
    have hGl : ∀ (A : Heap) (b c : Blk), (A ++ [b]).set A.length c = A ++ [c] := fun A b c => by simp
    unfold NewOk at a1
    unfold RunOk runN
    by_cases h0 : chk x = 0
    · rw [if_pos h0] at a1
      obtain ⟨cv, ev, o1, o2, rfl, p1, p2, q1, q2, q3, r1, r2, r3, r4⟩ := a1
      have hP0 := run_start h0 p1 p2 q1 q2 q3 a2 a3 a4
      generalize hb : G.length = b at *
      have hL := loop_all (Φ := Φ) (live := [1, 2, 4, 8, 9, 26, 27, 28]) (L := l19_0) l.l (σ := State × List Event) (ρ := Nat × Int) (runStep x) (fun k s F G' => ∃ sv ov, F = [(1, Sl.av Event.av 4 l), (2, .optr 0 0 0 0), (4, .optr 1 0 0 0), (8, .optr b 0 0 0), (9, ov), (26, Sl.av Event.av 4 l), (27, I l.l.length), (28, I k)] ∧ RunP x b k s sv ov G')
        (fun p y F G' => y = .ret ∧ F.get 4 = .optr 1 0 0 0 ∧ F.get 5 = .isl (some true) 0 [] ∧ F.get 6 = I p.1 ∧ F.get 7 = I p.2 ∧ G'[1]? = some (.arr 0 4 false [zeroState.av]))
        (fun s y F G' => y = .exit 0 ∧ ∃ sv ov, F.get 1 = Sl.av Event.av 4 l ∧ F.get 4 = .optr 1 0 0 0 ∧ F.get 8 = .optr b 0 0 0 ∧ F.get 9 = ov ∧ RunP x b l.l.length s sv ov G')
        (s := (startS x, startL x.children.l.length)) (F := [(1, Sl.av Event.av 4 l), (2, .optr 0 0 0 0), (4, .optr 1 0 0 0), (8, .optr b 0 0 0), (9, ev), (26, Sl.av Event.av 4 l), (27, I l.l.length), (28, I 0)]) (H := G ++ [.arr 0 4 false [.agg [I 1, cv, .isl (some true) 0 [], .bool false]]]) ⟨_, _, rfl, hP0⟩ ?_ ?_
      · rw [if_pos h0]
        cases hf : foldE (runStep x) 0 l.l (startS x, startL x.children.l.length) with
        | inl s =>
          rw [hf] at hL
          obtain ⟨y, F, G', e1, rfl, sv, ov, e2, e3, e4, e5, hP⟩ := okC_iff.1 hL
          obtain ⟨t, a, f1, f2, f3⟩ := run_end hP l.l.length
          obtain ⟨oo, s', hc, _, hgr, _⟩ := hP.ex
          have hko := hc.ok
          have h1l := (List.getElem?_eq_some_iff.1 hP.g1).1
          have gz : ∀ y : Blk, (G'.set 1 y)[1]? = some y := fun y => List.getElem?_set_self h1l
          simp [fi19, c19, evFun, enterFr, intBin, resV, rvVs, rvV, c29, hz, hGl, hb, h0, r1, r2, r3, r4, e1, e2, e3, e4, e5, hP.gb, hP.g1, hko.1, hko.2.1, hko.2.2.1, hko.2.2.2.1, hko.2.2.2.2, gz, hgr.okO, -frz_tuple]
          exact ⟨_, f1, t, a, _, _, rfl, f2, f3, rfl, rfl⟩
        | inr p =>
          rw [hf] at hL
          obtain ⟨y, F, G', e1, rfl, e2, e3, e4, e5, e6⟩ := okC_iff.1 hL
          simp [fi19, c19, evFun, enterFr, intBin, resV, rvVs, rvV, c29, hz, hGl, hb, h0, r1, r2, r3, r4, e1, e2, e3, e4, e5, e6]
          exact ⟨zeroState, slNil, p.1, p.2, ⟨rfl, rfl, rfl, rfl⟩, rfl, rfl, rfl, rfl⟩
      · rintro k e s F G' hk he ⟨sv, ov, rfl, hP⟩
        have hw := wrap_succ (k := k) (by omega)
        obtain ⟨hkl, rfl⟩ := List.getElem?_eq_some_iff.1 he
        generalize he' : l.l[k] = e at *
        obtain ⟨s', G1, p1, p2, p3, p4, p5, p6, o, p7, p8, p9⟩ := hP.pub (Kept.append none G' [.arr 0 4 false [e.av]])
        obtain ⟨i1, i2, i3, i4⟩ := core_inj p2
        have hs1 := hP.len
        have hs2 := hP.rs
        obtain ⟨w, c13, hw13⟩ := e13 x s' e hn (by omega) (by rw [i2]; omega) (by rw [i3]; omega) p3 p4
        have hko : okO sv = some sv ∧ ldCells true 4 sv.cells = sv ∧ sv.cells.length = 4 ∧ ∀ t : State, setElem [sv] 0 0 t.av = some [t.av] := by
          obtain ⟨oo, s'', hc, _⟩ := hP.ex
          exact ⟨hc.ok.1, hc.ok.2.2.2.1, hc.ok.2.1, hc.st⟩
        have k0 : (G' ++ [Blk.arr 0 4 false [e.av]])[0]? = some (.arr 0 4 false [x.av]) := app_get hP.g0 _
        have k0' : ∀ hi, (G' ++ [Blk.arr 0 4 false [e.av]])[0]'hi = .arr 0 4 false [x.av] := fun hi => app_get' hP.g0 _ hi
        have k1 : (G' ++ [Blk.arr 0 4 false [e.av]])[1]? = some (.arr 0 4 false [zeroState.av]) := app_get hP.g1 _
        have kb : (G' ++ [Blk.arr 0 4 false [e.av]])[b]? = some (.arr 0 4 false [sv]) := app_get hP.gb _
        have hb2 := hP.b2
        have l0 : G1[0]? = some (.arr 0 4 false [x.av]) := by rw [p6 0 (.inl (by omega))]; exact k0
        have l1 : G1[1]? = some (.arr 0 4 false [zeroState.av]) := by rw [p6 1 (.inl (by omega))]; exact k1
        have lb : G1[b]? = some (.arr 0 4 false [sv]) := by rw [p6 b (.inr (by omega))]; exact kb
        have hze : (.agg [I 0, I 0, I 0, I 0] : AV) = (⟨0, 0, 0, 0⟩ : Event).av := rfl
        have hE : handleE x s' e = handleE x s.1 e := handleE_core p2
        have hR : handleR x s' e = handleR x s.1 e := handleR_core p2
        unfold HandleOk at hw13
        unfold runStep
        rw [← hE, ← hR]
        by_cases hh : handleE x s' e = 0
        · rw [if_pos hh] at hw13 ⊢
          obtain ⟨t, a, rfl, t1, t2⟩ := hw13
          have hsz := size_handle x s' e
          have hsz' : Size 1 (2 * x.children.l.length + 2) (runOf s.1) (handleR x s' e) := by
            rw [← runOf_core p2]
            exact hsz.weak (by omega) (by rw [i2, hs1]; omega)
          obtain ⟨ov', G3, u1, u2, u3, u4, u5, u6⟩ := run_app hx (by omega) l0 l1 lb hb2 p7 p8 p9 hs1 hs2 hP.out t1 t2 hsz' t.av
          simp [evl19_0, b19_0, intBin, hk, hw, he', hze, hGl, k0, k0', kb, hko.1, hko.2.1, hko.2.2.1, hko.2.2.2, pubAs, p1, c13, hz, u1, u2, u3, u4, u5]
          exact ⟨_, u6⟩
        · rw [if_neg hh] at hw13 ⊢
          subst hw13
          have m1 : ∀ c : Blk, (G1 ++ [c])[1]? = some (.arr 0 4 false [zeroState.av]) := fun c => app_get l1 c
          have m2 : ∀ c y : Blk, ((G1 ++ [c]).set 1 y)[1]? = some y := fun c y => List.getElem?_set_self (by simp; have := (List.getElem?_eq_some_iff.1 l1).1; omega)
          simp [evl19_0, b19_0, intBin, hk, hw, he', hze, hGl, k0, k0', kb, hko.1, hko.2.1, hko.2.2.1, hko.2.2.2, pubAs, p1, c13, hz, hh, m1, m2]
      · rintro s F G' ⟨sv, ov, rfl, hP⟩
        simp [evl19_0, b19_0, intBin]
        exact ⟨sv, hP⟩
    · rw [if_neg h0] at a1
      subst a1
      have ga : ∀ b : Blk, (G ++ [b])[1]? = some (.arr 0 4 false [zeroState.av]) := fun b => app_get a4 b
      have gs : ∀ b y : Blk, ((G ++ [b]).set 1 y)[1]? = some y := fun b y => List.getElem?_set_self (by simp; omega)
      simp [fi19, c19, evFun, enterFr, intBin, resV, rvVs, rvV, c29, hz, hGl, ga, gs, h0]
      exact ⟨zeroState, slNil, 0, 1, ⟨rfl, rfl, rfl, rfl⟩, rfl, rfl, rfl, rfl⟩
  obtain ⟨v, G, g1, u, g2, g3⟩ := okV_iff.1 key
  refine ⟨u, ?_, g3⟩
  rw [W_pure Φ19 (by simp), g1]
  exact g2
end
section
open Go Go.RowKit
set_option linter.unusedVariables false
set_option linter.unusedSimpArgs false
set_option maxRecDepth 10000
set_option maxHeartbeats 1000000
attribute [local irreducible] okV okC

theorem run_app2 {x : Spec} {b k : Nat} {s : State × List Event} {ov : AV} {G1 : Heap} {o : Option Nat} {t : State} {a : Sl Event} {r : RunSt} (hx : x.children.l.length ≤ 1000) (hk : k ≤ 1000) (g0 : G1[0]? = some (.arr 0 4 false [x.av])) (g1 : G1[1]? = some (.arr 0 4 false [zeroState.av])) (gb : G1[b]? = some (.arr 0 4 false [t.av])) (b2 : 2 ≤ b)
    (hg : Grow G1 4 o ov (s.2.map Event.av)) (ho : o ≠ some b) (ho2 : ∀ i, o = some i → 2 ≤ i) (hs1 : s.1.children.l.length = x.children.l.length) (hs2 : s.1.restarts.l.length ≤ k) (hs3 : s.2.length ≤ x.children.l.length + k * (2 * x.children.l.length + 2))
    (ht : StOk t r) (ha : a.l = r.out) (hr : Size 1 (2 * x.children.l.length + 2) (runOf s.1) r) :
    ∃ ov' G3, ex G1 (.app 4) [ov, Sl.av Event.av 4 a] = some (ov', G3) ∧ okO ov = some ov ∧ okO ov' = some ov' ∧ RunP x b (k + 1) (mkS r, s.2 ++ r.out) t.av ov' G3 := by
  have z1 := hr.cs
  have z2 := hr.rs
  have z3 := hr.out
  simp only [runOf, List.length_nil] at z1 z2 z3
  have hmul : k * (2 * x.children.l.length + 2) ≤ 1000 * (2 * 1000 + 2) := Nat.mul_le_mul hk (by omega)
  obtain ⟨o', ov', G3, a1, a2, a3, a4, a5⟩ := hg.app (y := Sl.av Event.av 4 a) (xs := a.l.map Event.av) (by simp) (all_cell (fun x => by simp) _) (by simp only [List.length_map, ha, appRoom]; omega)
  have hbl := (List.getElem?_eq_some_iff.1 gb).1
  have ho' : ∀ i, o' = some i → o = some i ∨ G1.length < i + 1 := by
    intro i hi
    rcases a4 with rfl | ⟨h1, h2, _⟩
    · exact .inl hi
    · rw [h2] at hi; cases hi; right; omega
  have hob : o' ≠ some b := fun e => by
    rcases ho' b e with h1 | h1
    · exact ho h1
    · omega
  have keep : ∀ j B, o ≠ some j → G1[j]? = some B → G3[j]? = some B := fun j B hj hB => a3.get (by simpa using hj) hB
  refine ⟨ov', G3, a1, hg.okO, a2.okO, keep 0 _ (fun e => by have := ho2 0 e; omega) g0, keep 1 _ (fun e => by have := ho2 1 e; omega) g1, keep b _ ho gb, b2, ⟨o', t, Cur.state _ _ _ ht.k1 ht.k2, ht.core, ?_, hob, ?_⟩, ?_, ?_, ?_⟩
  · rw [List.map_append, ← ha]; exact a2
  · intro i hi
    rcases ho' i hi with h1 | h1
    · exact ho2 i h1
    · omega
  · simp only [mkS]; omega
  · simp only [mkS]; omega
  · simp only [List.length_append, Nat.add_mul, Nat.one_mul]; omega
theorem e20 (x : Spec) (l : Sl Event) (hx : x.children.l.length ≤ 1000) (hl : l.l.length ≤ 1000) : ∃ v, W.pure 20 [x.av, Sl.av Event.av 4 l] = some v ∧ RunOk x l.l v := by
  have hz : (.agg [I 0, .isl (some true) 0 [], .isl (some true) 0 [], .bool false] : AV) = zeroState.av := rfl
  have key : okV (evFun W fi20 [x.av, Sl.av Event.av 4 l] []) (fun v G => ∃ u, Go.Proofs.Ythenmgpbcmlhoaa.frz G 8 v = some u ∧ RunOk x l.l u) := by
    obtain ⟨v, G, a0, a1, a2, a3, a4⟩ := okV_iff.1 (call30 x (.arr 0 4 false [x.av]) (.arr 0 4 false [zeroState.av]))
    have c30 := (W_call Φ30 [] [x.av] [] _).trans a0
    have hGl : ∀ (A : Heap) (b c : Blk), (A ++ [b]).set A.length c = A ++ [c] := fun A b c => by simp
    unfold NewOk at a1
    unfold RunOk runN
    by_cases h0 : chk x = 0
    · rw [if_pos h0] at a1
      obtain ⟨cv, ev, o1, o2, rfl, p1, p2, q1, q2, q3, r1, r2, r3, r4⟩ := a1
      have hP0 := run_start h0 p1 p2 q1 q2 q3 a2 a3 a4
      generalize hb : G.length = b at *
      have hL := loop_all (Φ := Φ) (live := [1, 2, 4, 8, 9, 11]) (L := l20_0) l.l (σ := State × List Event) (ρ := Nat × Int) (runStep x) (fun k s F G' => ∃ sv ov, F = [(1, Sl.av Event.av 4 l), (2, .optr 0 0 0 0), (4, .optr 1 0 0 0), (8, .optr b 0 0 0), (9, ov), (11, I k)] ∧ RunP x b k s sv ov G')
        (fun p y F G' => y = .ret ∧ F.get 4 = .optr 1 0 0 0 ∧ F.get 5 = .isl (some false) 4 [] ∧ F.get 6 = I p.1 ∧ F.get 7 = I p.2 ∧ G'[1]? = some (.arr 0 4 false [zeroState.av]))
        (fun s y F G' => y = .exit 0 ∧ ∃ sv ov, F.get 1 = Sl.av Event.av 4 l ∧ F.get 4 = .optr 1 0 0 0 ∧ F.get 8 = .optr b 0 0 0 ∧ F.get 9 = ov ∧ RunP x b l.l.length s sv ov G')
        (s := (startS x, startL x.children.l.length)) (F := [(1, Sl.av Event.av 4 l), (2, .optr 0 0 0 0), (4, .optr 1 0 0 0), (8, .optr b 0 0 0), (9, ev), (11, I 0)]) (H := G ++ [.arr 0 4 false [.agg [I 1, cv, .isl (some true) 0 [], .bool false]]]) ⟨_, _, rfl, hP0⟩ ?_ ?_
      · rw [if_pos h0]
        cases hf : foldE (runStep x) 0 l.l (startS x, startL x.children.l.length) with
        | inl s =>
          rw [hf] at hL
          obtain ⟨y, F, G', e1, rfl, sv, ov, e2, e3, e4, e5, hP⟩ := okC_iff.1 hL
          obtain ⟨t, a, f1, f2, f3⟩ := run_end hP l.l.length
          obtain ⟨oo, s', hc, _, hgr, _⟩ := hP.ex
          have hko := hc.ok
          have h1l := (List.getElem?_eq_some_iff.1 hP.g1).1
          have gz : ∀ y : Blk, (G'.set 1 y)[1]? = some y := fun y => List.getElem?_set_self h1l
          simp [fi20, c20, evFun, enterFr, intBin, resV, rvVs, rvV, c30, hz, hGl, hb, h0, r1, r2, r3, r4, e1, e2, e3, e4, e5, hP.gb, hP.g1, hko.1, hko.2.1, hko.2.2.1, hko.2.2.2.1, hko.2.2.2.2, gz, hgr.okO, -frz_tuple]
          exact ⟨_, f1, t, a, _, _, rfl, f2, f3, rfl, rfl⟩
        | inr p =>
          rw [hf] at hL
          obtain ⟨y, F, G', e1, rfl, e2, e3, e4, e5, e6⟩ := okC_iff.1 hL
          simp [fi20, c20, evFun, enterFr, intBin, resV, rvVs, rvV, c30, hz, hGl, hb, h0, r1, r2, r3, r4, e1, e2, e3, e4, e5, e6]
          exact ⟨zeroState, (ofL 4 []), p.1, p.2, ⟨rfl, rfl, rfl, rfl⟩, rfl, rfl, rfl, rfl⟩
      · rintro k e s F G' hk he ⟨sv, ov, rfl, hP⟩
        have hw := wrap_succ (k := k) (by omega)
        obtain ⟨hkl, rfl⟩ := List.getElem?_eq_some_iff.1 he
        generalize he' : l.l[k] = e at *
        obtain ⟨s', G1, p1, p2, p3, p4, p5, p6, o, p7, p8, p9⟩ := hP.pub (Kept.refl none G')
        obtain ⟨i1, i2, i3, i4⟩ := core_inj p2
        have hs1 := hP.len
        have hs2 := hP.rs
        obtain ⟨w, c14, hw14⟩ := e14 x s' e (by omega) (by rw [i2]; omega) (by rw [i3]; omega) p3 p4
        have hko : okO sv = some sv ∧ ldCells true 4 sv.cells = sv ∧ sv.cells.length = 4 ∧ ∀ t : State, setElem [sv] 0 0 t.av = some [t.av] := by
          obtain ⟨oo, s'', hc, _⟩ := hP.ex
          exact ⟨hc.ok.1, hc.ok.2.2.2.1, hc.ok.2.1, hc.st⟩
        have k0 : G'[0]? = some (.arr 0 4 false [x.av]) := hP.g0
        have k1 : G'[1]? = some (.arr 0 4 false [zeroState.av]) := hP.g1
        have kb : G'[b]? = some (.arr 0 4 false [sv]) := hP.gb
        have hb2 := hP.b2
        have l0 : G1[0]? = some (.arr 0 4 false [x.av]) := by rw [p6 0 (.inl (by omega))]; exact k0
        have l1 : G1[1]? = some (.arr 0 4 false [zeroState.av]) := by rw [p6 1 (.inl (by omega))]; exact k1
        have lb : G1[b]? = some (.arr 0 4 false [sv]) := by rw [p6 b (.inr (by omega))]; exact kb
        have hze : (.agg [I 0, I 0, I 0, I 0] : AV) = (⟨0, 0, 0, 0⟩ : Event).av := rfl
        have hE : handleE x s' e = handleE x s.1 e := handleE_core p2
        have hR : handleR x s' e = handleR x s.1 e := handleR_core p2
        unfold HandleOk at hw14
        unfold runStep
        rw [← hE, ← hR]
        by_cases hh : handleE x s' e = 0
        · rw [if_pos hh] at hw14 ⊢
          obtain ⟨t, a, rfl, t1, t2⟩ := hw14
          have hsz := size_handle x s' e
          have hsz' : Size 1 (2 * x.children.l.length + 2) (runOf s.1) (handleR x s' e) := by
            rw [← runOf_core p2]
            exact hsz.weak (by omega) (by rw [i2, hs1]; omega)
          have hbl := (List.getElem?_eq_some_iff.1 lb).1
          have hK := Kept.append none G1 [.arr 0 4 false [t.av]]
          have hS := Kept.set b (G1 ++ [Blk.arr 0 4 false [t.av]]) (.arr 0 4 false [t.av])
          have n0 := hS.get (by simp; omega) (hK.get (j := 0) (by simp) l0)
          have n1 := hS.get (by simp; omega) (hK.get (j := 1) (by simp) l1)
          have nb : ((G1 ++ [Blk.arr 0 4 false [t.av]]).set b (.arr 0 4 false [t.av]))[b]? = some (.arr 0 4 false [t.av]) := List.getElem?_set_self (by simp; omega)
          have lb' : (G1 ++ [Blk.arr 0 4 false [t.av]])[b]? = some (.arr 0 4 false [sv]) := app_get lb _
          obtain ⟨ov', G3, u1, u2, u3, u6⟩ := run_app2 hx (by omega) n0 n1 nb hb2 ((p7.kept hK (by simp)).kept hS (fun id hid => by cases hid; exact p8)) p8 p9 hs1 hs2 hP.out t1 t2 hsz'
          simp [evl20_0, b20_0, intBin, hk, hw, he', hze, hGl, k0, kb, hko.1, hko.2.1, hko.2.2.1, hko.2.2.2, pubAs, p1, c14, hz, lb', u1, u2, u3]
          exact ⟨_, u6⟩
        · rw [if_neg hh] at hw14 ⊢
          subst hw14
          have m1 : ∀ c : Blk, (G1 ++ [c])[1]? = some (.arr 0 4 false [zeroState.av]) := fun c => app_get l1 c
          have m2 : ∀ c y : Blk, ((G1 ++ [c]).set 1 y)[1]? = some y := fun c y => List.getElem?_set_self (by simp; have := (List.getElem?_eq_some_iff.1 l1).1; omega)
          simp [evl20_0, b20_0, intBin, hk, hw, he', hze, hGl, k0, kb, hko.1, hko.2.1, hko.2.2.1, hko.2.2.2, pubAs, p1, c14, hz, hh, m1, m2]
      · rintro s F G' ⟨sv, ov, rfl, hP⟩
        simp [evl20_0, b20_0, intBin]
        exact ⟨sv, hP⟩
    · rw [if_neg h0] at a1
      subst a1
      have ga : ∀ b : Blk, (G ++ [b])[1]? = some (.arr 0 4 false [zeroState.av]) := fun b => app_get a4 b
      have gs : ∀ b y : Blk, ((G ++ [b]).set 1 y)[1]? = some y := fun b y => List.getElem?_set_self (by simp; omega)
      simp [fi20, c20, evFun, enterFr, intBin, resV, rvVs, rvV, c30, hz, hGl, ga, gs, h0]
      exact ⟨zeroState, (ofL 4 []), 0, 1, ⟨rfl, rfl, rfl, rfl⟩, rfl, rfl, rfl, rfl⟩
  obtain ⟨v, G, g1, u, g2, g3⟩ := okV_iff.1 key
  refine ⟨u, ?_, g3⟩
  rw [W_pure Φ20 (by simp), g1]
  exact g2
theorem run_sizes (x : Spec) : ∀ (l : List Event) (k : Nat) (s : State × List Event) (s' : State × List Event), foldE (runStep x) k l s = .inl s' → s.1.children.l.length = x.children.l.length → s'.1.children.l.length = x.children.l.length ∧ s'.1.restarts.l.length ≤ s.1.restarts.l.length + l.length ∧ s'.2.length ≤ s.2.length + l.length * (2 * x.children.l.length + 2) := by
  intro l
  induction l with
  | nil => intro k s s' h hs; simp only [foldE, Sum.inl.injEq] at h; subst h; exact ⟨hs, by omega, by simp⟩
  | cons e l ih =>
    intro k s s' h hs
    simp only [foldE] at h
    cases hy : runStep x k e s with
    | inr y => rw [hy] at h; cases h
    | inl s1 =>
      rw [hy] at h
      have hsz := size_handle x s.1 e
      have z1 := hsz.cs
      have z2 := hsz.rs
      have z3 := hsz.out
      simp only [runOf, List.length_nil] at z1 z2 z3
      unfold runStep at hy
      split at hy
      · cases hy
        obtain ⟨g1, g2, g3⟩ := ih (k + 1) _ s' h (by simp only [mkS]; omega)
        simp only [mkS, List.length_append] at g2 g3
        refine ⟨g1, by rw [List.length_cons]; omega, ?_⟩
        rw [List.length_cons, Nat.add_mul, Nat.one_mul]
        omega
      · cases hy
theorem runN_sizes {x : Spec} {l : List Event} (hl : l.length ≤ 40) (hx : x.children.l.length ≤ 18) {c : Core} {a : List Event} {n e : Int} (h : (c, a, n, e) = runN x l) : c.2.1.length ≤ 1000 ∧ c.2.2.1.length ≤ 1000 ∧ a.length ≤ 10000 := by
  unfold runN at h
  split at h
  · split at h
    · rename_i s a' hf
      cases h
      obtain ⟨g1, g2, g3⟩ := run_sizes x l 0 _ _ hf (by simp [startS])
      simp only [startS, startL_len, List.length_nil, State.core] at g1 g2 g3 ⊢
      have : l.length * (2 * x.children.l.length + 2) ≤ 40 * (2 * 18 + 2) := Nat.mul_le_mul hl (by omega)
      omega
    · cases h
      simp [State.core]
  · cases h
    simp [State.core]
theorem law4 (x : Spec) (hx : x.wf) (l : Sl Event) (hl : SlOk Event.wf l) : W.pure 4 [x.av, Sl.av Event.av 4 l] = some (.bool true) := by
  have h10 := e10 x
  have h12 := e12
  rw [W_pure Φ4 (by simp)]
  cases hg : greatB x with
  | true => rw [hg] at h10; simp [fi4, c4, evFun, enterFr, intBin, resV, rvVs, rvV, h10, h12]
  | false =>
    rw [hg] at h10
    by_cases h40 : 40 < (l.l.length : Int)
    · simp [fi4, c4, evFun, enterFr, intBin, resV, rvVs, rvV, h10, h12, h40]
    · obtain ⟨x1, x2⟩ := great_false hg
      obtain ⟨v, c19, t, a, n, c, rfl, hv⟩ := e19 x l (fun c hc => by have := x2 c hc; omega) (by omega) (by omega)
      obtain ⟨u, c20, t', a', n', c', rfl, hu⟩ := e20 x l (by omega) (by omega)
      obtain ⟨g1, g2, g3⟩ := runN_sizes (by omega) x1 hv
      have hvu := hv.trans hu.symm
      simp only [Prod.mk.injEq] at hvu
      obtain ⟨i1, i2, rfl, rfl⟩ := hvu
      have c17 := e17 t t' (by simp only [State.core] at g1; omega) (by simp only [State.core] at g2; omega)
      rw [core_same i1] at c17
      have c18 := e18 a a' (by omega)
      rw [i2] at c18
      simp [fi4, c4, evFun, enterFr, intBin, resV, rvVs, rvV, h10, h12, h40, c19, c20, c17, c18]
end
end Go.Proofs.Ythenmgpbcmlhoaa
