/-
  Trees of one supervisor, in plain words (conditions: none). The law SuptreeSingle: it is true (conditions: readings of the arguments). The law SuptreeSingle: it is true (conditions: readings of the arguments).
-/
import Derived.Test.YtjknjapdcphcfaaKC
namespace Go.Proofs.Ytjknjapdcphcfaa
section
open Go Go.RowKit
set_option linter.unusedVariables false
set_option linter.unusedSimpArgs false
set_option maxRecDepth 10000
set_option maxHeartbeats 4000000

theorem has_replicate (n : Nat) (k : Int) : Has (List.replicate n start1) k → k = 1 := by
  rintro ⟨i, c, h1, h2⟩
  have := List.mem_of_getElem? h1
  have := (List.mem_replicate.1 this).2
  subst this
  exact h2.symm
theorem start_inv {x : Spec} (h0 : chk x = 0) : Inv x 1 (runOf (startS x)) := by
  have hi : 0 ≤ x.intensity := by have := (chk_ok h0).2.1; simp [inR] at this; exact this.1
  refine ⟨by simp [runOf, startS], fun i c hc => ?_, .inl ⟨rfl, fun h => by have := has_replicate _ _ h; omega, fun h => by have := has_replicate _ _ h; omega⟩, ⟨by simp [runOf, startS], by simp [runOf, startS]⟩, by simpa [runOf, startS] using hi, fun e => by cases e⟩
  have := List.mem_of_getElem? hc
  have := (List.mem_replicate.1 this).2
  subst this
  simp [start1]
theorem inv_core {x : Spec} {m : Int} {s t : State} (h : s.core = t.core) (hi : Inv x m (runOf s)) : Inv x m (runOf t) := by rw [← runOf_core h]; exact hi
theorem inv_mkS {x : Spec} {m : Int} {r : RunSt} (hi : Inv x m r) : Inv x m (runOf (mkS r)) := ⟨hi.len, hi.ok, hi.fit, hi.times, hi.few, hi.fl⟩
theorem inv_stok {x : Spec} {m : Int} {t : State} {r : RunSt} (h : StOk t r) (hi : Inv x m r) : Inv x m (runOf t) := inv_core h.core.symm (inv_mkS hi)
theorem handleE_check {x : Spec} {s : State} {e : Event} (h : handleE x s e = 0) : validB x s = true ∧ checkN x s e = 0 := by
  unfold handleE at h
  by_cases hv : validB x s = true
  · rw [if_pos hv] at h; exact ⟨hv, h⟩
  · rw [if_neg hv] at h; cases h
/-- What can be handled is not late. -/
theorem not_late {x : Spec} {s : State} {e : Event} (h : handleE x s e = 0) : lateX e.time s = false := by
  obtain ⟨hv, hc⟩ := handleE_check h
  have hst := (check_facts hc).2.2.1
  have ht := (times_iff (win_of (valid_facts hv).1)).1 (valid_facts hv).2.2.2.2.2
  unfold lateX
  rw [List.any_eq_false]
  intro n hn
  have h1 := sorted_last ht.1 n hn
  have h2 := not_stale hst (by intro e; rw [e] at hn; cases hn)
  simp; omega

/-- A tree of one supervisor whose children are workers. -/
structure One (x : Spec) : Prop where
  ok : chk x = 0
  subs : ∀ c ∈ x.children.l, c.sub = -1
theorem one_order {x : Spec} (h : One x) : ordT [x] = (List.range x.children.l.length).map fun c => (0, c) := by
  have hk : kids [x] 0 = x.children.l := rfl
  show order [x] 1 0 = _
  rw [order_succ, hk]
  have : ∀ (l : List Child) (j : Nat), (∀ c ∈ l, c.sub = -1) → (l.zipIdx j).flatMap (partW [x] 0 0) = (List.range' j l.length).map fun c => (0, c) := by
    intro l
    induction l with
    | nil => intro j _; rfl
    | cons a l ih =>
      intro j hs
      have ha : partW [x] 0 0 (a, j) = [(0, j)] := by unfold partW; rw [if_pos (by rw [hs a (by simp)]; decide)]
      rw [List.zipIdx_cons, List.flatMap_cons, ha, ih (j + 1) (fun c hc => hs c (by simp [hc])), List.length_cons, List.range'_succ]
      rfl
  rw [this _ 0 h.subs, List.range_eq_range']
theorem one_at {x : Spec} (h : One x) {c : Nat} (hc : c < x.children.l.length) : (ordT [x])[c]? = some (0, c) := by
  rw [one_order h]; simp [hc]
theorem one_num {x : Spec} (h : One x) {c : Int} (h0 : 0 ≤ c) (hc : c < x.children.l.length) : numW (ordT [x]) (0, c) = c := by
  unfold numW
  rcases idxP_spec (fun q : Nat × Nat => decide (q.1 = 0) && decide ((q.2 : Int) = c)) (ordT [x]) with ⟨_, h2⟩ | ⟨j, q, h1, h2, h3, _⟩
  · exfalso
    have hm := List.mem_of_getElem? (one_at h (c := c.toNat) (by omega))
    have := h2 _ hm
    simp at this
    omega
  · have hj : j < x.children.l.length := by
      have := (List.getElem?_eq_some_iff.1 h2).1
      rw [one_order h] at this; simpa using this
    rw [one_at h hj] at h2
    cases h2
    simp at h3
    rw [h1]; exact h3
theorem one_fold {x : Spec} (h : One x) : ∀ (acts : List Event) (t : Tree), (∀ a ∈ acts, a.kind = 5 ∨ 0 ≤ a.child ∧ a.child < x.children.l.length) → acts.foldl (doAct [x] (ordT [x]) (up [x]) (perf [x] (ordT [x]) (up [x]) 0) 0) t = { t with out := t.out ++ acts } := by
  intro acts
  induction acts with
  | nil => intro t _; simp
  | cons a acts ih =>
    intro t ha
    have e : doAct [x] (ordT [x]) (up [x]) (perf [x] (ordT [x]) (up [x]) 0) 0 t a = { t with out := t.out ++ [a] } := by
      unfold doAct
      by_cases h5 : a.kind = 5
      · rw [if_pos h5, if_pos rfl]
      · rw [if_neg h5]
        have hc := (ha a (by simp)).resolve_left h5
        have hs : ((kids [x] 0).getD a.child.toNat default).sub = -1 := by
          show (x.children.l.getD a.child.toNat default).sub = -1
          rw [List.getD_eq_getElem?_getD, List.getElem?_eq_getElem (by omega)]
          exact h.subs _ (List.getElem_mem _)
        simp only [hs]
        rw [if_pos (by decide), one_num h hc.1 hc.2]
    rw [List.foldl_cons, e, ih _ (fun b hb => ha b (by simp [hb]))]
    simp
theorem one_handle {x : Spec} (h : One x) {s : State} {e : Event} (hE : handleE x s e = 0) : handleT [x] 0 e ⟨[s], [], []⟩ = ⟨[mkS (handleR x s e)], (handleR x s e).out, []⟩ := by
  obtain ⟨hv, hc⟩ := handleE_check hE
  have hcl := (valid_facts hv).2.1
  have hp : perfA [x] 0 (handleR x s e).out ⟨[mkS (handleR x s e)], [], []⟩ = ⟨[mkS (handleR x s e)], (handleR x s e).out, []⟩ := by
    show (handleR x s e).out.foldl (doAct [x] (ordT [x]) (up [x]) (perf [x] (ordT [x]) (up [x]) 0) 0) _ = _
    rw [one_fold h _ _ (fun a ha => by
      rcases (actw_handle x s e).2 a ha with ⟨_, _, ⟨h1, _⟩ | ⟨_, h1, h2⟩⟩
      · exact .inl h1
      · exact .inr ⟨h1, by omega⟩)]
    simp
  show doHandle [x] (perfA [x]) (up [x]) 0 e ⟨[s], [], []⟩ = _
  have hgx : ([x] : List Spec).getD 0 default = x := rfl
  have hgs : ([s] : List State).getD 0 default = s := rfl
  unfold doHandle
  simp only [hgx, hgs, if_pos hE]
  rw [if_neg (fun hh => absurd hh.1 (by decide))]
  exact hp
theorem one_drains {x : Spec} (h : One x) {s : State} {e : Event} (hE : handleE x s e = 0) (hl : (handleR x s e).out.length ≤ 1000000) : Drains [x] ⟨[s], [], [⟨0, e⟩]⟩ ⟨[mkS (handleR x s e)], (handleR x s e).out, []⟩ := by
  have hh := one_handle h hE
  refine .step ⟨0, e⟩ [] 0 rfl rfl (by simp) ?_ ?_ ?_
  · show (handleT [x] 0 e ⟨[s], [], []⟩).out.length ≤ _
    rw [hh]; exact hl
  · show (handleT [x] 0 e ⟨[s], [], []⟩).q.length ≤ _
    rw [hh]; simp
  · show Drains [x] (handleT [x] 0 e ⟨[s], [], []⟩) _
    rw [hh]; exact .done rfl
theorem one_valid {x : Spec} (h : One x) {s : State} (hv : validB x s = true) : validT [x] [s] = true := by
  unfold validT
  have h1 : valid1 [x] [s] = true := by simp [valid1, hv]
  have h2 : valid2 [x] [s] = true := by
    simp only [valid2, List.zipIdx_cons, List.zipIdx_nil, List.all_cons, List.all_nil, Bool.and_true, valid2X]
    rw [List.all_eq_true]
    intro p hp
    have := List.mem_zipIdx_iff_getElem?.1 hp
    have hs := h.subs p.1 (List.mem_of_getElem? this)
    simp [valid2C, hs]
  rw [h1, h2]; rfl
theorem one_new {x : Spec} (h : One x) (hc : chkT [x] = 0) : (newT [x]).ss = [startS x] ∧ (newT [x]).out = startL x.children.l.length := by
  have hk : kids [x] 0 = x.children.l := rfl
  have ht0 : timed 0 (startL x.children.l.length) = startL x.children.l.length := by
    have : ∀ n, timed 0 (startL n) = startL n := by
      intro n
      induction n with
      | zero => rfl
      | succ n ih => simp only [startL, timed, List.map_append] at ih ⊢; rw [ih]; rfl
    exact this _
  have : newT [x] = ⟨[startS x], startL x.children.l.length, []⟩ := by
    show (timed 0 (startL (kids [x] 0).length)).foldl (doAct [x] (ordT [x]) (up [x]) (perf [x] (ordT [x]) (up [x]) 0) 0) _ = _
    rw [hk, ht0, one_fold h _ _ (fun a ha => .inr ⟨(startL_kind _ a ha).2.1, (startL_kind _ a ha).2.2.1⟩)]
    simp
  rw [this]
  exact ⟨rfl, rfl⟩
end
section
open Go Go.RowKit
set_option linter.unusedVariables false
set_option linter.unusedSimpArgs false
set_option maxRecDepth 10000
set_option maxHeartbeats 4000000

theorem t10 (y : Child) (H : Heap) : W.call (.clo 10 [] []) [y.av] H = some (.bool (!decide (y.sub = -1)), H ++ [.arr 0 3 false [y.av]]) := by
  rw [W_call Φ10]
  simp [-getElem?_pos, List.getElem?_cons_zero, app_last, fi10, c10, evFun, enterFr, intBin, resV, rvVs, rvV, sx11]
theorem t9 (x : Sl Child) (hl : x.l.length ≤ 1000000) : W.pure 9 [Sl.av Child.av 3 x, .clo 10 [] []] = some (.bool (x.l.any fun c => !decide (c.sub = -1))) := by
  rw [W_pure Φ9 (by rfl)]
  have h := e55 (.clo 10 [] []) rfl (fun c => !decide (c.sub = -1)) (fun _ => True) (fun y H _ => by rw [t10]; exact okV_iff.2 ⟨_, _, rfl, rfl, trivial⟩) x.nl (if x.l.isEmpty then x.z else 3) x.l (fun h => if_neg (by simpa using h)) hl [] trivial
  rw [W_call Φ9] at h
  obtain ⟨v, G, h1, rfl, _⟩ := okV_iff.1 h
  have h1' : evFun W fi9 [Sl.av Child.av 3 x, .clo 10 [] []] [] = some (.bool (x.l.any fun c => !decide (c.sub = -1)), G) := h1
  rw [h1']; rfl
theorem t13 {x : Spec} (h0 : chk x = 0) (hn : ∀ c ∈ x.children.l, c.name.length ≤ 1000000) : ∃ (st : State) (a : Sl Event), W.pure 13 [x.av] = some (.tuple [st.av, Sl.av Event.av 4 a, I 0]) ∧ st.core = (startS x).core ∧ KnownS st ∧ a.l = startL x.children.l.length := by
  have hlen := chk_len h0
  obtain ⟨v, G, c0, cv, ev, o1, o2, rfl, c1, c2, c3, c4, c5, c6⟩ := okV_iff.1 (call13 x h0 hn [])
  obtain ⟨c, f1, f2, f3⟩ := c1.slG (n := 5) (all_still (fun x => by simp) _)
  obtain ⟨a, g1, g2, g3⟩ := c2.slG (n := 6) (all_still (fun x => by simp) _)
  refine ⟨⟨1, c, slNil, false⟩, a, ?_, ?_, ⟨f3, .inl ⟨rfl, rfl⟩⟩, g2⟩
  · rw [W_pure Φ13 (by simp), c0]
    simp only [Option.bind_some, frz_tuple, frzs_cons, frzs_nil, frz_agg, frz_int, frz_bool, frz_isl, f1, g1, consO_some, Option.map_some]
    rfl
  · simp only [State.core, f2]; rfl
/-- The event of a happening. -/
def evOf (h : Happening) (tm : Int) : Event := if h.worker < 0 then ⟨2, -1, 0, tm⟩ else ⟨1, h.worker, h.reason, tm⟩
/-- A step of a tree of one supervisor. -/
theorem one_step {x : Spec} (h1 : One x) (hc : chkT [x] = 0) (hn : ∀ c ∈ x.children.l, c.name.length ≤ 1000000) {ss : Sl State} {s st : State} (hss : ss.l = [s]) (hnl : ss.nl = some false) (hk : KnownS s) (hcore : s.core = st.core) {m : Int} (hm : m ≤ 1000000) (hi : Inv x m (runOf st)) (h : Happening) (tm : Int) :
    (handleE x st (evOf h tm) ≠ 0 → ∃ a b, Imm a ∧ Imm b ∧ W.pure 17 [specs (ofL 4 [x]), states ss, h.av, I tm] = some (.tuple [a, b, .bool false])) ∧
    (handleE x st (evOf h tm) = 0 → ∃ (ss' : Sl State) (a : Sl Event) (s' : State), W.pure 17 [specs (ofL 4 [x]), states ss, h.av, I tm] = some (.tuple [states ss', Sl.av Event.av 4 a, .bool true]) ∧ ss'.l = [s'] ∧ ss'.nl = some false ∧ KnownS s' ∧ s'.core = (mkS (handleR x st (evOf h tm))).core ∧ a.l = (handleR x st (evOf h tm)).out) := by
  have hN : NamesOk (ofL 4 [x] : Sl Spec).l := by intro y hy c hcy; simp only [List.mem_singleton] at hy; subst hy; exact hn c hcy
  have ht := tree_of hc
  have his := inv_core hcore.symm hi
  have hval := inv_valid h1.ok (by omega) his
  have hvalT := one_valid h1 hval
  have hsm : SmallS ss.l := by
    intro y hy
    rw [hss] at hy; simp only [List.mem_singleton] at hy; subst hy
    have hl := his.len
    have hf := his.few
    have hx := chk_len h1.ok
    have hii : x.intensity ≤ 100 := by have := (chk_ok h1.ok).2.1; simp [inR] at this; omega
    simp only [runOf] at hl hf
    omega
  have hks : ∀ y ∈ ss.l, KnownS y := by intro y hy; rw [hss] at hy; simp only [List.mem_singleton] at hy; subst hy; exact hk
  have hvT : validT (ofL 4 [x] : Sl Spec).l ss.l = true := by rw [hss]; exact hvalT
  have hgs : ss.l.getD 0 default = s := by rw [hss]; rfl
  have hgx : (ofL 4 [x] : Sl Spec).l.getD 0 default = x := rfl
  have hl1 : (ofL 4 [x] : Sl Spec).l.length = 1 := rfl
  have hsl : ss.l.length = 1 := by rw [hss]; rfl
  have hlenx := chk_len h1.ok
  have run : ∀ e : Event, (handleE x s e ≠ 0 → W.pure 57 [specs (ofL 4 [x]), states ss, I 0, e.av] = some (noRun (handleE x s e))) ∧ (handleE x s e = 0 → ∃ v, W.pure 57 [specs (ofL 4 [x]), states ss, I 0, e.av] = some v ∧ RanOk ⟨[mkS (handleR x s e)], (handleR x s e).out, []⟩ v) := by
    intro e
    obtain ⟨a1, a2, a3⟩ := t57 hN ht (by rw [hsl, hl1]) hsm hks hnl (k := 0) (by rw [hl1]; decide) e
    rw [hgx, hgs] at a1 a2 a3
    refine ⟨a1, fun hE => a3 hE ?_ _ ?_⟩
    · rw [hss]
      simp only [lateT, List.any_cons, List.any_nil, Bool.or_false]
      exact not_late hE
    · rw [hss]
      have := (size_handle x s e).out
      have hl := his.len
      simp only [runOf, List.length_nil] at this hl
      exact one_drains h1 hE (by omega)
  have hEc : ∀ e, handleE x s e = handleE x st e := fun e => handleE_core hcore
  have hRc : ∀ e, handleR x s e = handleR x st e := fun e => handleR_core hcore
  have fin : ∀ (e : Event) (v : AV), RanOk ⟨[mkS (handleR x s e)], (handleR x s e).out, []⟩ v → ∃ (ss' : Sl State) (a : Sl Event) (s' : State), v = .tuple [states ss', Sl.av Event.av 4 a, I 0] ∧ ss'.l = [s'] ∧ ss'.nl = some false ∧ KnownS s' ∧ s'.core = (mkS (handleR x st e)).core ∧ a.l = (handleR x st e).out := by
    intro e v hv
    obtain ⟨ss', a, rfl, g1, g2, g3, g4, g5⟩ := hv
    rw [hRc] at g1 g3
    simp only [List.map_cons, List.map_nil] at g1
    cases hs' : ss'.l with
    | nil => rw [hs'] at g1; simp at g1
    | cons s' r =>
      rw [hs'] at g1
      simp only [List.map_cons, List.cons.injEq, List.map_eq_nil_iff] at g1
      obtain ⟨g1, rfl⟩ := g1
      exact ⟨ss', a, s', rfl, hs', g5, g2 s' (by rw [hs']; simp), g1, g3⟩
  unfold evOf
  by_cases hw : h.worker < 0
  · rw [if_pos hw]
    obtain ⟨r1, r2⟩ := run ⟨2, -1, 0, tm⟩
    rw [hEc] at r1 r2
    refine ⟨fun hE => ?_, fun hE => ?_⟩
    · have h26 := t26 hN hc hsm (by omega) hvT tm imm_nil imm_nil (r1 hE)
      have := t17s imm_nil imm_nil hw h26
      rw [decide_eq_false hE] at this
      exact ⟨_, _, imm_nil, imm_nil, this⟩
    · obtain ⟨v, v1, v2⟩ := r2 hE
      obtain ⟨ss', a, s', rfl, g1, g2, g3, g4, g5⟩ := fin _ _ v2
      have h26 := t26 hN hc hsm (by omega) hvT tm (imm_sl _ _ _) (imm_sl _ _ _) v1
      exact ⟨ss', a, s', t17s (imm_sl _ _ _) (imm_sl _ _ _) hw h26, g1, g2, g3, g4, g5⟩
  · rw [if_neg hw]
    by_cases hr : h.worker < x.children.l.length
    · obtain ⟨w, hww⟩ : ∃ w : Nat, h.worker = (w : Int) := ⟨h.worker.toNat, by omega⟩
      have hat : (ordT (ofL 4 [x] : Sl Spec).l)[w]? = some (0, w) := one_at h1 (by omega)
      obtain ⟨r1, r2⟩ := run ⟨1, w, h.reason, tm⟩
      rw [hEc] at r1 r2
      rw [hww]
      refine ⟨fun hE => ?_, fun hE => ?_⟩
      · have h27 := t27 hN hc hsm (by omega) hvT hat h.reason tm imm_nil imm_nil (r1 hE)
        rw [← hww] at h27 hE
        have := t17e imm_nil imm_nil hw h27
        rw [decide_eq_false hE] at this
        exact ⟨_, _, imm_nil, imm_nil, this⟩
      · obtain ⟨v, v1, v2⟩ := r2 hE
        obtain ⟨ss', a, s', rfl, g1, g2, g3, g4, g5⟩ := fin _ _ v2
        have h27 := t27 hN hc hsm (by omega) hvT hat h.reason tm (imm_sl _ _ _) (imm_sl _ _ _) v1
        rw [← hww] at h27
        exact ⟨ss', a, s', t17e (imm_sl _ _ _) (imm_sl _ _ _) hw h27, g1, g2, g3, g4, g5⟩
    · refine ⟨fun _ => ?_, fun hE => ?_⟩
      · have hol : ((ordT (ofL 4 [x] : Sl Spec).l).length : Int) ≤ h.worker := by
          have : (ordT (ofL 4 [x] : Sl Spec).l).length = x.children.l.length := by
            show (ordT [x]).length = _
            rw [one_order h1]; simp
          omega
        have h27 := t27r hN hc hsm (by omega) hvT (.inr hol) h.reason tm
        have := t17e imm_nil imm_nil hw h27
        exact ⟨_, _, imm_nil, imm_nil, this⟩
      · exfalso
        have := (check_facts (handleE_check hE).2).1
        rcases this with ⟨_, h2, _⟩ | ⟨h2, _⟩
        · simp [inR] at h2; omega
        · simp at h2
end
section
open Go Go.RowKit
set_option linter.unusedVariables false
set_option linter.unusedSimpArgs false
set_option maxRecDepth 10000
set_option maxHeartbeats 8000000

theorem bx3 {G : Heap} {i : Nat} {B : Blk} (h : G[i]? = some B) (a b c : Blk) : (G ++ [a] ++ [b] ++ [c])[i]? = some B := app_get (app_get (app_get h a) b) c
theorem bx2 {G : Heap} {i : Nat} {B : Blk} (h : G[i]? = some B) (a b : Blk) : (G ++ [a] ++ [b])[i]? = some B := app_get (app_get h a) b
/-- What the loop of the law keeps. -/
structure One3 (x : Spec) (k : Nat) (now : Int) (ss : Sl State) (s st : State) : Prop where
  l : ss.l = [s]
  nl : ss.nl = some false
  ks : KnownS s
  kst : KnownS st
  core : s.core = st.core
  inv : Inv x (1 + k) (runOf st)
  time : 0 ≤ now ∧ now ≤ 255 * k
theorem turn3 {x : Spec} (h1 : One x) (hc : chkT [x] = 0) (hn : ∀ c ∈ x.children.l, c.name.length ≤ 1000000) (h : Sl Happening) {k : Nat} (hk : k < h.l.length) (hkl : k ≤ 40) {hp : Happening} (hhp : h.l[k]? = some hp) (hwf : hp.wf) {now : Int} {ss : Sl State} {s st : State} (hP : One3 x k now ss s st) {G : Heap} (g0 : G[0]? = some (.arr 0 4 false [x.av])) (g1 : G[1]? = some (.arr 0 4 false [st.av])) :
    okC (evC W l3_0 [(2, .optr 0 0 0 0), (5, .isl (some false) 4 [x.av]), (6, states ss), (9, .optr 1 0 0 0), (12, I now), (71, Sl.av Happening.av 3 h), (72, I h.l.length), (73, I k)] G)
      (fun y F' G' => y = .normal ∧ ∃ now' ss' s' st', F'.keep [2, 5, 6, 9, 12, 71, 72, 73] = [(2, .optr 0 0 0 0), (5, .isl (some false) 4 [x.av]), (6, states ss'), (9, .optr 1 0 0 0), (12, I now'), (71, Sl.av Happening.av 3 h), (72, I h.l.length), (73, I ((k + 1 : Nat) : Int))] ∧ G'[0]? = some (.arr 0 4 false [x.av]) ∧ G'[1]? = some (.arr 0 4 false [st'.av]) ∧ One3 x (k + 1) now' ss' s' st') := by
  have hw := wrap_succ (k := k) (by omega)
  have hlenx := chk_len h1.ok
  have hsp : specs (ofL 4 [x]) = .isl (some false) 4 [x.av] := rfl
  have ha : 0 ≤ hp.after ∧ hp.after ≤ 255 := wf8 hwf.2.2.1
  have hwa : IntKind.wrap .i64 hp.after = hp.after := by rw [wrap64] <;> omega
  have hti := hP.time
  have hwn : IntKind.wrap .i64 (now + hp.after) = now + hp.after := by rw [wrap64] <;> omega
  have hil := hP.inv.len
  have hif := hP.inv.few
  have hii : x.intensity ≤ 100 := by have := (chk_ok h1.ok).2.1; simp [inR] at this; omega
  simp only [runOf] at hil hif
  obtain ⟨v, d1, d2⟩ := e13 x st (evOf hp (now + hp.after)) hn (by omega) (by omega) (by omega) hP.kst.1 hP.kst.2
  obtain ⟨o1, o2⟩ := one_step h1 hc hn hP.l hP.nl hP.ks hP.core (m := 1 + k) (by omega) hP.inv hp (now + hp.after)
  rw [hsp] at o1 o2
  have hev0 : (.agg [I 1, I hp.worker, I hp.reason, I (now + hp.after)] : AV) = (⟨1, hp.worker, hp.reason, now + hp.after⟩ : Event).av := rfl
  have hev1 : (.agg [I 2, I (-1), I 0, I (now + hp.after)] : AV) = (⟨2, -1, 0, now + hp.after⟩ : Event).av := rfl
  have hz : (.agg [I 0, .isl (some true) 0 [], .isl (some true) 0 [], .bool false] : AV) = zeroState.av := rfl
  have hk' : (k : Int) < (h.l.length : Int) := by omega
  have keep : ∀ a b c : Blk, 1 < G.length := fun _ _ _ => (List.getElem?_eq_some_iff.1 g1).1
  unfold HandleOk at d2
  by_cases hE : handleE x st (evOf hp (now + hp.after)) = 0
  · rw [if_pos hE] at d2
    obtain ⟨t1, a, rfl, d3, d4⟩ := d2
    obtain ⟨ss', a', s', p1, p2, p3, p4, p5, p6⟩ := o2 hE
    have hi2 := handle_inv h1.ok (by omega) hP.inv (handleE_check hE).2
    have hst := inv_stok d3 hi2
    have hsz := size_handle x st (evOf hp (now + hp.after))
    have z3 := hsz.out
    have z1 := hsz.cs
    have z2 := hsz.rs
    simp only [runOf, List.length_nil] at z1 z2 z3
    have hs'l : s'.children.l.length = (handleR x st (evOf hp (now + hp.after))).cs.length ∧ s'.restarts.l.length = (handleR x st (evOf hp (now + hp.after))).rs.length := by
      have := core_inj p5
      rw [this.2.1, this.2.2.1]; exact ⟨rfl, rfl⟩
    have c14 := e17 s' t1 (by omega) (by omega)
    rw [core_same (p5.trans d3.core.symm)] at c14
    have c15 := e18 a' a (by rw [p6]; omega)
    rw [p6, d4, decide_eq_true rfl] at c15
    have hs0 : ss'.l[0]? = some s' := by rw [p2]; rfl
    have hnew : One3 x (k + 1) (now + hp.after) ss' s' t1 := ⟨p2, p3, p4, ⟨d3.k1, d3.k2⟩, p5.trans d3.core.symm, by
      have : ((1 : Int) + ((k + 1 : Nat) : Int)) = 1 + (k : Int) + 1 := by omega
      rw [this]; exact hst, by omega, by omega⟩
    have fin : ∀ A B C : Blk, (((G ++ [A] ++ [B]).set 1 (.arr 0 4 false [t1.av]) ++ [C])[0]? = some (.arr 0 4 false [x.av]) ∧ ((G ++ [A] ++ [B]).set 1 (.arr 0 4 false [t1.av]) ++ [C])[1]? = some (.arr 0 4 false [t1.av])) := fun A B C => by
      refine ⟨app_get ?_ C, app_get (List.getElem?_set_self (by have := keep A B C; simp only [List.length_append]; omega)) C⟩
      rw [List.getElem?_set_ne (by decide)]; exact bx2 g0 A B
    unfold evOf at d1 hE
    by_cases hneg : hp.worker < 0
    · rw [if_pos hneg] at d1
      simp [-getElem?_pos, -List.append_assoc, List.getElem?_cons_zero, app_last, bx21, bx22, bx31, bx32, bx33, sx11, sx21, sx22, sx33, evl3_0, b3_0, intBin, hk, hk', hhp, hw, hwa, hwn, hev0, hev1, hneg, g0, g1, app_get g0, app_get g1, bx2 g0, bx2 g1, bx3 g0, bx3 g1, d1, hz, p1, hs0, c14, c15]
      exact ⟨_, ss', ⟨rfl, rfl⟩, (fin _ _ _).1, s', t1, (fin _ _ _).2, hnew⟩
    · rw [if_neg hneg] at d1
      simp [-getElem?_pos, -List.append_assoc, List.getElem?_cons_zero, app_last, bx21, bx22, bx31, bx32, bx33, sx11, sx21, sx22, sx33, evl3_0, b3_0, intBin, hk, hk', hhp, hw, hwa, hwn, hev0, hev1, hneg, g0, g1, app_get g0, app_get g1, bx2 g0, bx2 g1, bx3 g0, bx3 g1, d1, hz, p1, hs0, c14, c15]
      exact ⟨_, ss', ⟨rfl, rfl⟩, (fin _ _ _).1, s', t1, (fin _ _ _).2, hnew⟩
  · rw [if_neg hE] at d2
    subst d2
    obtain ⟨a, b, ia, ib, p1⟩ := o1 hE
    obtain ⟨i1, i2, i3, rfl⟩ := ia
    obtain ⟨j1, j2, j3, rfl⟩ := ib
    have hold : One3 x (k + 1) (now + hp.after) ss s st := ⟨hP.l, hP.nl, hP.ks, hP.kst, hP.core, hP.inv.mono (by omega), by omega, by omega⟩
    unfold evOf at d1 hE
    by_cases hneg : hp.worker < 0
    · rw [if_pos hneg] at d1 hE
      simp [-getElem?_pos, -List.append_assoc, List.getElem?_cons_zero, app_last, bx21, bx22, bx31, bx32, bx33, sx11, sx21, sx22, sx33, evl3_0, b3_0, intBin, hk, hk', hhp, hw, hwa, hwn, hev0, hev1, hneg, g0, g1, app_get g0, app_get g1, bx2 g0, bx2 g1, bx3 g0, bx3 g1, d1, hz, p1, hE]
      exact ⟨_, ss, ⟨rfl, rfl⟩, s, st, rfl, hold⟩
    · rw [if_neg hneg] at d1 hE
      simp [-getElem?_pos, -List.append_assoc, List.getElem?_cons_zero, app_last, bx21, bx22, bx31, bx32, bx33, sx11, sx21, sx22, sx33, evl3_0, b3_0, intBin, hk, hk', hhp, hw, hwa, hwn, hev0, hev1, hneg, g0, g1, app_get g0, app_get g1, bx2 g0, bx2 g1, bx3 g0, bx3 g1, d1, hz, p1, hE]
      exact ⟨_, ss, ⟨rfl, rfl⟩, s, st, rfl, hold⟩
theorem law3 (x : Spec) (hx : x.wf) (h : Sl Happening) (hh : SlOk Happening.wf h) : W.pure 3 [x.av, Sl.av Happening.av 3 h] = some (.bool true) := by
  have hsp : specs (ofL 4 [x]) = .isl (some false) 4 [x.av] := rfl
  have c8 := t8 (ofL 4 [x]) (by simp) h
  rw [hsp] at c8
  have c11 := awk
  rw [W_pure Φ3 (by simp)]
  cases hf : fineT (ofL 4 [x] : Sl Spec).l h.l with
  | false =>
    rw [hf] at c8
    simp [fi3, c3, evFun, enterFr, intBin, resV, rvVs, rvV, c8, c11]
  | true =>
    rw [hf] at c8
    simp only [fineT, Bool.and_eq_true, Bool.not_eq_true', decide_eq_true_eq] at hf
    obtain ⟨⟨hg, hc⟩, hl30⟩ := hf
    have hN := (great_names hg).1
    have hn : ∀ c ∈ x.children.l, c.name.length ≤ 1000000 := hN x (List.mem_singleton.2 rfl)
    have hok := (tree_of hc).ok 0 x rfl
    have hlenx := chk_len hok
    have c9 := t9 x.children (by omega)
    cases hany : x.children.l.any (fun c => !decide (c.sub = -1)) with
    | true =>
      rw [hany] at c9
      simp [fi3, c3, evFun, enterFr, intBin, resV, rvVs, rvV, c8, c9, c11]
    | false =>
      rw [hany] at c9
      have h1 : One x := ⟨hok, fun c hcm => by
        have := List.any_eq_false.1 hany c hcm
        simpa using this⟩
      obtain ⟨ss, a, c12, n1, n2, n3, n4, n5⟩ := t12 (l := ofL 4 [x]) hN hc
      rw [hsp] at c12
      obtain ⟨o1, o2⟩ := one_new h1 hc
      obtain ⟨st, a2, c13, m1, m2, m3⟩ := t13 hok hn
      have n1' : ss.l.map State.core = [(startS x).core] := by
        rw [n1]; show (newT [x]).ss.map State.core = _; rw [o1]; rfl
      have n3' : a.l = startL x.children.l.length := by rw [n3]; exact o2
      obtain ⟨s, hss, hsc⟩ : ∃ s, ss.l = [s] ∧ s.core = (startS x).core := by
        cases hs' : ss.l with
        | nil => rw [hs'] at n1'; simp at n1'
        | cons s r =>
          rw [hs'] at n1'
          simp only [List.map_cons, List.cons.injEq, List.map_eq_nil_iff] at n1'
          obtain ⟨g1, rfl⟩ := n1'
          exact ⟨s, rfl, g1⟩
      have hsl : s.children.l.length ≤ 1000000 ∧ s.restarts.l.length ≤ 1000000 := by
        have := core_inj hsc
        rw [this.2.1, this.2.2.1]; simp [startS]; omega
      have c14 := e17 s st hsl.1 hsl.2
      rw [core_same (hsc.trans m1.symm)] at c14
      have c15 := e18 a a2 (by rw [n3', startL_len]; omega)
      rw [n3', m3, decide_eq_true rfl] at c15
      have hs0 : ss.l[0]? = some s := by rw [hss]; rfl
      have hsl1 : (ss.l.length : Int) = 1 := by rw [hss]; rfl
      have hz : (.agg [I 0, .isl (some true) 0 [], .isl (some true) 0 [], .bool false] : AV) = zeroState.av := rfl
      have hL := loop_fold (Φ := Φ) (live := [2, 5, 6, 9, 12, 71, 72, 73]) (L := l3_0) h.l (σ := Unit) (fun _ _ s => s)
        (fun k _ F G => ∃ now ss s st, F = [(2, .optr 0 0 0 0), (5, .isl (some false) 4 [x.av]), (6, states ss), (9, .optr 1 0 0 0), (12, I now), (71, Sl.av Happening.av 3 h), (72, I h.l.length), (73, I k)] ∧ G[0]? = some (.arr 0 4 false [x.av]) ∧ G[1]? = some (.arr 0 4 false [st.av]) ∧ One3 x k now ss s st)
        (fun _ y F G => y = .exit 0) (s := ()) (F := [(2, .optr 0 0 0 0), (5, .isl (some false) 4 [x.av]), (6, states ss), (9, .optr 1 0 0 0), (12, I 0), (71, Sl.av Happening.av 3 h), (72, I h.l.length), (73, I 0)]) (H := [.arr 0 4 false [x.av], .arr 0 4 false [st.av]])
        ⟨0, ss, s, st, rfl, rfl, rfl, ⟨hss, n5, n2 s (by rw [hss]; simp), m2, hsc.trans m1.symm, inv_core m1.symm (start_inv hok), by omega, by omega⟩⟩ ?_ ?_
      · obtain ⟨y, F', G, f1, rfl⟩ := okC_iff.1 hL
        simp [-getElem?_pos, List.getElem?_cons_zero, fi3, c3, evFun, enterFr, intBin, resV, rvVs, rvV, c8, c9, c11, c12, c13, hz, hs0, hsl1, c14, c15, f1]
      · rintro k hp ⟨⟩ F G hk hhp ⟨now, ss, s, st, rfl, g0, g1, hP⟩
        obtain ⟨y, F', G', f1, rfl, f2⟩ := okC_iff.1 (turn3 h1 hc hn h hk (by omega) hhp (hh.all _ (List.mem_of_getElem? hhp)) hP g0 g1)
        exact okC_iff.2 ⟨_, _, _, f1, rfl, f2⟩
      · rintro ⟨⟩ F G ⟨now, ss, s, st, rfl, g0, g1, hP⟩
        simp [evl3_0, b3_0, intBin]
end
end Go.Proofs.Ytjknjapdcphcfaa
