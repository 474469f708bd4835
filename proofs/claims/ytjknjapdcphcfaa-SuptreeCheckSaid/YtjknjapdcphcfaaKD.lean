/-
  Trees of one supervisor, in plain words (conditions: none). The law SuptreeSingle: it is true (conditions: readings of the arguments). The law SuptreeSingle: it is true (conditions: readings of the arguments). The reference's search for the same child, and for the owner (conditions: none). The reference's Check of trees (conditions: none). The reference's Check of trees, whole (conditions: none). The order of the workers, as the reference has it, and their names (conditions: none). Equal names, equal states; Workers, as the reference has it (conditions: none). The reference's trees in memory, while they start (conditions: none). The reference performs the first actions; its New of trees (conditions: none). The reference's New of trees; the law SuptreeCheck: it is true (conditions: readings of the arguments).
-/
import Derived.Test.YtjknjapdcphcfaaKC
namespace Go.Proofs.Ytjknjapdcphcfaa
section
open Go Go.RowKit
set_option linter.unusedVariables false
set_option linter.unusedSimpArgs false
set_option maxRecDepth 10000
set_option maxHeartbeats 4000000

theorem has_replicate (n : Nat) (k : Int) : Has (List.replicate n start1) k → k = 1 := by
  rintro ⟨i, c, h1, h2⟩
  have := List.mem_of_getElem? h1
  have := (List.mem_replicate.1 this).2
  subst this
  exact h2.symm
theorem start_inv {x : Spec} (h0 : chk x = 0) : Inv x 1 (runOf (startS x)) := by
  have hi : 0 ≤ x.intensity := by have := (chk_ok h0).2.1; simp [inR] at this; exact this.1
  refine ⟨by simp [runOf, startS], fun i c hc => ?_, .inl ⟨rfl, fun h => by have := has_replicate _ _ h; omega, fun h => by have := has_replicate _ _ h; omega⟩, ⟨by simp [runOf, startS], by simp [runOf, startS]⟩, by simpa [runOf, startS] using hi, fun e => by cases e⟩
  have := List.mem_of_getElem? hc
  have := (List.mem_replicate.1 this).2
  subst this
  simp [start1]
theorem inv_core {x : Spec} {m : Int} {s t : State} (h : s.core = t.core) (hi : Inv x m (runOf s)) : Inv x m (runOf t) := by rw [← runOf_core h]; exact hi
theorem inv_mkS {x : Spec} {m : Int} {r : RunSt} (hi : Inv x m r) : Inv x m (runOf (mkS r)) := ⟨hi.len, hi.ok, hi.fit, hi.times, hi.few, hi.fl⟩
theorem inv_stok {x : Spec} {m : Int} {t : State} {r : RunSt} (h : StOk t r) (hi : Inv x m r) : Inv x m (runOf t) := inv_core h.core.symm (inv_mkS hi)
theorem handleE_check {x : Spec} {s : State} {e : Event} (h : handleE x s e = 0) : validB x s = true ∧ checkN x s e = 0 := by
  unfold handleE at h
  by_cases hv : validB x s = true
  · rw [if_pos hv] at h; exact ⟨hv, h⟩
  · rw [if_neg hv] at h; cases h
/-- What can be handled is not late. -/
theorem not_late {x : Spec} {s : State} {e : Event} (h : handleE x s e = 0) : lateX e.time s = false := by
  obtain ⟨hv, hc⟩ := handleE_check h
  have hst := (check_facts hc).2.2.1
  have ht := (times_iff (win_of (valid_facts hv).1)).1 (valid_facts hv).2.2.2.2.2
  unfold lateX
  rw [List.any_eq_false]
  intro n hn
  have h1 := sorted_last ht.1 n hn
  have h2 := not_stale hst (by intro e; rw [e] at hn; cases hn)
  simp; omega

/-- A tree of one supervisor whose children are workers. -/
structure One (x : Spec) : Prop where
  ok : chk x = 0
  subs : ∀ c ∈ x.children.l, c.sub = -1
theorem one_order {x : Spec} (h : One x) : ordT [x] = (List.range x.children.l.length).map fun c => (0, c) := by
  have hk : kids [x] 0 = x.children.l := rfl
  show order [x] 1 0 = _
  rw [order_succ, hk]
  have : ∀ (l : List Child) (j : Nat), (∀ c ∈ l, c.sub = -1) → (l.zipIdx j).flatMap (partW [x] 0 0) = (List.range' j l.length).map fun c => (0, c) := by
    intro l
    induction l with
    | nil => intro j _; rfl
    | cons a l ih =>
      intro j hs
      have ha : partW [x] 0 0 (a, j) = [(0, j)] := by unfold partW; rw [if_pos (by rw [hs a (by simp)]; decide)]
      rw [List.zipIdx_cons, List.flatMap_cons, ha, ih (j + 1) (fun c hc => hs c (by simp [hc])), List.length_cons, List.range'_succ]
      rfl
  rw [this _ 0 h.subs, List.range_eq_range']
theorem one_at {x : Spec} (h : One x) {c : Nat} (hc : c < x.children.l.length) : (ordT [x])[c]? = some (0, c) := by
  rw [one_order h]; simp [hc]
theorem one_num {x : Spec} (h : One x) {c : Int} (h0 : 0 ≤ c) (hc : c < x.children.l.length) : numW (ordT [x]) (0, c) = c := by
  unfold numW
  rcases idxP_spec (fun q : Nat × Nat => decide (q.1 = 0) && decide ((q.2 : Int) = c)) (ordT [x]) with ⟨_, h2⟩ | ⟨j, q, h1, h2, h3, _⟩
  · exfalso
    have hm := List.mem_of_getElem? (one_at h (c := c.toNat) (by omega))
    have := h2 _ hm
    simp at this
    omega
  · have hj : j < x.children.l.length := by
      have := (List.getElem?_eq_some_iff.1 h2).1
      rw [one_order h] at this; simpa using this
    rw [one_at h hj] at h2
    cases h2
    simp at h3
    rw [h1]; exact h3
theorem one_fold {x : Spec} (h : One x) : ∀ (acts : List Event) (t : Tree), (∀ a ∈ acts, a.kind = 5 ∨ 0 ≤ a.child ∧ a.child < x.children.l.length) → acts.foldl (doAct [x] (ordT [x]) (up [x]) (perf [x] (ordT [x]) (up [x]) 0) 0) t = { t with out := t.out ++ acts } := by
  intro acts
  induction acts with
  | nil => intro t _; simp
  | cons a acts ih =>
    intro t ha
    have e : doAct [x] (ordT [x]) (up [x]) (perf [x] (ordT [x]) (up [x]) 0) 0 t a = { t with out := t.out ++ [a] } := by
      unfold doAct
      by_cases h5 : a.kind = 5
      · rw [if_pos h5, if_pos rfl]
      · rw [if_neg h5]
        have hc := (ha a (by simp)).resolve_left h5
        have hs : ((kids [x] 0).getD a.child.toNat default).sub = -1 := by
          show (x.children.l.getD a.child.toNat default).sub = -1
          rw [List.getD_eq_getElem?_getD, List.getElem?_eq_getElem (by omega)]
          exact h.subs _ (List.getElem_mem _)
        simp only [hs]
        rw [if_pos (by decide), one_num h hc.1 hc.2]
    rw [List.foldl_cons, e, ih _ (fun b hb => ha b (by simp [hb]))]
    simp
theorem one_handle {x : Spec} (h : One x) {s : State} {e : Event} (hE : handleE x s e = 0) : handleT [x] 0 e ⟨[s], [], []⟩ = ⟨[mkS (handleR x s e)], (handleR x s e).out, []⟩ := by
  obtain ⟨hv, hc⟩ := handleE_check hE
  have hcl := (valid_facts hv).2.1
  have hp : perfA [x] 0 (handleR x s e).out ⟨[mkS (handleR x s e)], [], []⟩ = ⟨[mkS (handleR x s e)], (handleR x s e).out, []⟩ := by
    show (handleR x s e).out.foldl (doAct [x] (ordT [x]) (up [x]) (perf [x] (ordT [x]) (up [x]) 0) 0) _ = _
    rw [one_fold h _ _ (fun a ha => by
      rcases (actw_handle x s e).2 a ha with ⟨_, _, ⟨h1, _⟩ | ⟨_, h1, h2⟩⟩
      · exact .inl h1
      · exact .inr ⟨h1, by omega⟩)]
    simp
  show doHandle [x] (perfA [x]) (up [x]) 0 e ⟨[s], [], []⟩ = _
  have hgx : ([x] : List Spec).getD 0 default = x := rfl
  have hgs : ([s] : List State).getD 0 default = s := rfl
  unfold doHandle
  simp only [hgx, hgs, if_pos hE]
  rw [if_neg (fun hh => absurd hh.1 (by decide))]
  exact hp
theorem one_drains {x : Spec} (h : One x) {s : State} {e : Event} (hE : handleE x s e = 0) (hl : (handleR x s e).out.length ≤ 1000000) : Drains [x] ⟨[s], [], [⟨0, e⟩]⟩ ⟨[mkS (handleR x s e)], (handleR x s e).out, []⟩ := by
  have hh := one_handle h hE
  refine .step ⟨0, e⟩ [] 0 rfl rfl (by simp) ?_ ?_ ?_
  · show (handleT [x] 0 e ⟨[s], [], []⟩).out.length ≤ _
    rw [hh]; exact hl
  · show (handleT [x] 0 e ⟨[s], [], []⟩).q.length ≤ _
    rw [hh]; simp
  · show Drains [x] (handleT [x] 0 e ⟨[s], [], []⟩) _
    rw [hh]; exact .done rfl
theorem one_valid {x : Spec} (h : One x) {s : State} (hv : validB x s = true) : validT [x] [s] = true := by
  unfold validT
  have h1 : valid1 [x] [s] = true := by simp [valid1, hv]
  have h2 : valid2 [x] [s] = true := by
    simp only [valid2, List.zipIdx_cons, List.zipIdx_nil, List.all_cons, List.all_nil, Bool.and_true, valid2X]
    rw [List.all_eq_true]
    intro p hp
    have := List.mem_zipIdx_iff_getElem?.1 hp
    have hs := h.subs p.1 (List.mem_of_getElem? this)
    simp [valid2C, hs]
  rw [h1, h2]; rfl
theorem one_new {x : Spec} (h : One x) (hc : chkT [x] = 0) : (newT [x]).ss = [startS x] ∧ (newT [x]).out = startL x.children.l.length := by
  have hk : kids [x] 0 = x.children.l := rfl
  have ht0 : timed 0 (startL x.children.l.length) = startL x.children.l.length := by
    have : ∀ n, timed 0 (startL n) = startL n := by
      intro n
      induction n with
      | zero => rfl
      | succ n ih => simp only [startL, timed, List.map_append] at ih ⊢; rw [ih]; rfl
    exact this _
  have : newT [x] = ⟨[startS x], startL x.children.l.length, []⟩ := by
    show (timed 0 (startL (kids [x] 0).length)).foldl (doAct [x] (ordT [x]) (up [x]) (perf [x] (ordT [x]) (up [x]) 0) 0) _ = _
    rw [hk, ht0, one_fold h _ _ (fun a ha => .inr ⟨(startL_kind _ a ha).2.1, (startL_kind _ a ha).2.2.1⟩)]
    simp
  rw [this]
  exact ⟨rfl, rfl⟩
end
section
open Go Go.RowKit
set_option linter.unusedVariables false
set_option linter.unusedSimpArgs false
set_option maxRecDepth 10000
set_option maxHeartbeats 4000000

theorem t10 (y : Child) (H : Heap) : W.call (.clo 10 [] []) [y.av] H = some (.bool (!decide (y.sub = -1)), H ++ [.arr 0 3 false [y.av]]) := by
  rw [W_call Φ10]
  simp [-getElem?_pos, List.getElem?_cons_zero, app_last, fi10, c10, evFun, enterFr, intBin, resV, rvVs, rvV, sx11]
theorem t9 (x : Sl Child) (hl : x.l.length ≤ 1000000) : W.pure 9 [Sl.av Child.av 3 x, .clo 10 [] []] = some (.bool (x.l.any fun c => !decide (c.sub = -1))) := by
  rw [W_pure Φ9 (by rfl)]
  have h := e55 (.clo 10 [] []) rfl (fun c => !decide (c.sub = -1)) (fun _ => True) (fun y H _ => by rw [t10]; exact okV_iff.2 ⟨_, _, rfl, rfl, trivial⟩) x.nl (if x.l.isEmpty then x.z else 3) x.l (fun h => if_neg (by simpa using h)) hl [] trivial
  rw [W_call Φ9] at h
  obtain ⟨v, G, h1, rfl, _⟩ := okV_iff.1 h
  have h1' : evFun W fi9 [Sl.av Child.av 3 x, .clo 10 [] []] [] = some (.bool (x.l.any fun c => !decide (c.sub = -1)), G) := h1
  rw [h1']; rfl
theorem t13 {x : Spec} (h0 : chk x = 0) (hn : ∀ c ∈ x.children.l, c.name.length ≤ 1000000) : ∃ (st : State) (a : Sl Event), W.pure 13 [x.av] = some (.tuple [st.av, Sl.av Event.av 4 a, I 0]) ∧ st.core = (startS x).core ∧ KnownS st ∧ a.l = startL x.children.l.length := by
  have hlen := chk_len h0
  obtain ⟨v, G, c0, cv, ev, o1, o2, rfl, c1, c2, c3, c4, c5, c6⟩ := okV_iff.1 (call13 x h0 hn [])
  obtain ⟨c, f1, f2, f3⟩ := c1.slG (n := 5) (all_still (fun x => by simp) _)
  obtain ⟨a, g1, g2, g3⟩ := c2.slG (n := 6) (all_still (fun x => by simp) _)
  refine ⟨⟨1, c, slNil, false⟩, a, ?_, ?_, ⟨f3, .inl ⟨rfl, rfl⟩⟩, g2⟩
  · rw [W_pure Φ13 (by simp), c0]
    simp only [Option.bind_some, frz_tuple, frzs_cons, frzs_nil, frz_agg, frz_int, frz_bool, frz_isl, f1, g1, consO_some, Option.map_some]
    rfl
  · simp only [State.core, f2]; rfl
/-- The event of a happening. -/
def evOf (h : Happening) (tm : Int) : Event := if h.worker < 0 then ⟨2, -1, 0, tm⟩ else ⟨1, h.worker, h.reason, tm⟩
/-- A step of a tree of one supervisor. -/
theorem one_step {x : Spec} (h1 : One x) (hc : chkT [x] = 0) (hn : ∀ c ∈ x.children.l, c.name.length ≤ 1000000) {ss : Sl State} {s st : State} (hss : ss.l = [s]) (hnl : ss.nl = some false) (hk : KnownS s) (hcore : s.core = st.core) {m : Int} (hm : m ≤ 1000000) (hi : Inv x m (runOf st)) (h : Happening) (tm : Int) :
    (handleE x st (evOf h tm) ≠ 0 → ∃ a b, Imm a ∧ Imm b ∧ W.pure 17 [specs (ofL 4 [x]), states ss, h.av, I tm] = some (.tuple [a, b, .bool false])) ∧
    (handleE x st (evOf h tm) = 0 → ∃ (ss' : Sl State) (a : Sl Event) (s' : State), W.pure 17 [specs (ofL 4 [x]), states ss, h.av, I tm] = some (.tuple [states ss', Sl.av Event.av 4 a, .bool true]) ∧ ss'.l = [s'] ∧ ss'.nl = some false ∧ KnownS s' ∧ s'.core = (mkS (handleR x st (evOf h tm))).core ∧ a.l = (handleR x st (evOf h tm)).out) := by
  have hN : NamesOk (ofL 4 [x] : Sl Spec).l := by intro y hy c hcy; simp only [List.mem_singleton] at hy; subst hy; exact hn c hcy
  have ht := tree_of hc
  have his := inv_core hcore.symm hi
  have hval := inv_valid h1.ok (by omega) his
  have hvalT := one_valid h1 hval
  have hsm : SmallS ss.l := by
    intro y hy
    rw [hss] at hy; simp only [List.mem_singleton] at hy; subst hy
    have hl := his.len
    have hf := his.few
    have hx := chk_len h1.ok
    have hii : x.intensity ≤ 100 := by have := (chk_ok h1.ok).2.1; simp [inR] at this; omega
    simp only [runOf] at hl hf
    omega
  have hks : ∀ y ∈ ss.l, KnownS y := by intro y hy; rw [hss] at hy; simp only [List.mem_singleton] at hy; subst hy; exact hk
  have hvT : validT (ofL 4 [x] : Sl Spec).l ss.l = true := by rw [hss]; exact hvalT
  have hgs : ss.l.getD 0 default = s := by rw [hss]; rfl
  have hgx : (ofL 4 [x] : Sl Spec).l.getD 0 default = x := rfl
  have hl1 : (ofL 4 [x] : Sl Spec).l.length = 1 := rfl
  have hsl : ss.l.length = 1 := by rw [hss]; rfl
  have hlenx := chk_len h1.ok
  have run : ∀ e : Event, (handleE x s e ≠ 0 → W.pure 57 [specs (ofL 4 [x]), states ss, I 0, e.av] = some (noRun (handleE x s e))) ∧ (handleE x s e = 0 → ∃ v, W.pure 57 [specs (ofL 4 [x]), states ss, I 0, e.av] = some v ∧ RanOk ⟨[mkS (handleR x s e)], (handleR x s e).out, []⟩ v) := by
    intro e
    obtain ⟨a1, a2, a3⟩ := t57 hN ht (by rw [hsl, hl1]) hsm hks hnl (k := 0) (by rw [hl1]; decide) e
    rw [hgx, hgs] at a1 a2 a3
    refine ⟨a1, fun hE => a3 hE ?_ _ ?_⟩
    · rw [hss]
      simp only [lateT, List.any_cons, List.any_nil, Bool.or_false]
      exact not_late hE
    · rw [hss]
      have := (size_handle x s e).out
      have hl := his.len
      simp only [runOf, List.length_nil] at this hl
      exact one_drains h1 hE (by omega)
  have hEc : ∀ e, handleE x s e = handleE x st e := fun e => handleE_core hcore
  have hRc : ∀ e, handleR x s e = handleR x st e := fun e => handleR_core hcore
  have fin : ∀ (e : Event) (v : AV), RanOk ⟨[mkS (handleR x s e)], (handleR x s e).out, []⟩ v → ∃ (ss' : Sl State) (a : Sl Event) (s' : State), v = .tuple [states ss', Sl.av Event.av 4 a, I 0] ∧ ss'.l = [s'] ∧ ss'.nl = some false ∧ KnownS s' ∧ s'.core = (mkS (handleR x st e)).core ∧ a.l = (handleR x st e).out := by
    intro e v hv
    obtain ⟨ss', a, rfl, g1, g2, g3, g4, g5⟩ := hv
    rw [hRc] at g1 g3
    simp only [List.map_cons, List.map_nil] at g1
    cases hs' : ss'.l with
    | nil => rw [hs'] at g1; simp at g1
    | cons s' r =>
      rw [hs'] at g1
      simp only [List.map_cons, List.cons.injEq, List.map_eq_nil_iff] at g1
      obtain ⟨g1, rfl⟩ := g1
      exact ⟨ss', a, s', rfl, hs', g5, g2 s' (by rw [hs']; simp), g1, g3⟩
  unfold evOf
  by_cases hw : h.worker < 0
  · rw [if_pos hw]
    obtain ⟨r1, r2⟩ := run ⟨2, -1, 0, tm⟩
    rw [hEc] at r1 r2
    refine ⟨fun hE => ?_, fun hE => ?_⟩
    · have h26 := t26 hN hc hsm (by omega) hvT tm imm_nil imm_nil (r1 hE)
      have := t17s imm_nil imm_nil hw h26
      rw [decide_eq_false hE] at this
      exact ⟨_, _, imm_nil, imm_nil, this⟩
    · obtain ⟨v, v1, v2⟩ := r2 hE
      obtain ⟨ss', a, s', rfl, g1, g2, g3, g4, g5⟩ := fin _ _ v2
      have h26 := t26 hN hc hsm (by omega) hvT tm (imm_sl _ _ _) (imm_sl _ _ _) v1
      exact ⟨ss', a, s', t17s (imm_sl _ _ _) (imm_sl _ _ _) hw h26, g1, g2, g3, g4, g5⟩
  · rw [if_neg hw]
    by_cases hr : h.worker < x.children.l.length
    · obtain ⟨w, hww⟩ : ∃ w : Nat, h.worker = (w : Int) := ⟨h.worker.toNat, by omega⟩
      have hat : (ordT (ofL 4 [x] : Sl Spec).l)[w]? = some (0, w) := one_at h1 (by omega)
      obtain ⟨r1, r2⟩ := run ⟨1, w, h.reason, tm⟩
      rw [hEc] at r1 r2
      rw [hww]
      refine ⟨fun hE => ?_, fun hE => ?_⟩
      · have h27 := t27 hN hc hsm (by omega) hvT hat h.reason tm imm_nil imm_nil (r1 hE)
        rw [← hww] at h27 hE
        have := t17e imm_nil imm_nil hw h27
        rw [decide_eq_false hE] at this
        exact ⟨_, _, imm_nil, imm_nil, this⟩
      · obtain ⟨v, v1, v2⟩ := r2 hE
        obtain ⟨ss', a, s', rfl, g1, g2, g3, g4, g5⟩ := fin _ _ v2
        have h27 := t27 hN hc hsm (by omega) hvT hat h.reason tm (imm_sl _ _ _) (imm_sl _ _ _) v1
        rw [← hww] at h27
        exact ⟨ss', a, s', t17e (imm_sl _ _ _) (imm_sl _ _ _) hw h27, g1, g2, g3, g4, g5⟩
    · refine ⟨fun _ => ?_, fun hE => ?_⟩
      · have hol : ((ordT (ofL 4 [x] : Sl Spec).l).length : Int) ≤ h.worker := by
          have : (ordT (ofL 4 [x] : Sl Spec).l).length = x.children.l.length := by
            show (ordT [x]).length = _
            rw [one_order h1]; simp
          omega
        have h27 := t27r hN hc hsm (by omega) hvT (.inr hol) h.reason tm
        have := t17e imm_nil imm_nil hw h27
        exact ⟨_, _, imm_nil, imm_nil, this⟩
      · exfalso
        have := (check_facts (handleE_check hE).2).1
        rcases this with ⟨_, h2, _⟩ | ⟨h2, _⟩
        · simp [inR] at h2; omega
        · simp at h2
end
section
open Go Go.RowKit
set_option linter.unusedVariables false
set_option linter.unusedSimpArgs false
set_option maxRecDepth 10000
set_option maxHeartbeats 8000000

theorem bx3 {G : Heap} {i : Nat} {B : Blk} (h : G[i]? = some B) (a b c : Blk) : (G ++ [a] ++ [b] ++ [c])[i]? = some B := app_get (app_get (app_get h a) b) c
theorem bx2 {G : Heap} {i : Nat} {B : Blk} (h : G[i]? = some B) (a b : Blk) : (G ++ [a] ++ [b])[i]? = some B := app_get (app_get h a) b
/-- What the loop of the law keeps. -/
structure One3 (x : Spec) (k : Nat) (now : Int) (ss : Sl State) (s st : State) : Prop where
  l : ss.l = [s]
  nl : ss.nl = some false
  ks : KnownS s
  kst : KnownS st
  core : s.core = st.core
  inv : Inv x (1 + k) (runOf st)
  time : 0 ≤ now ∧ now ≤ 255 * k
theorem turn3 {x : Spec} (h1 : One x) (hc : chkT [x] = 0) (hn : ∀ c ∈ x.children.l, c.name.length ≤ 1000000) (h : Sl Happening) {k : Nat} (hk : k < h.l.length) (hkl : k ≤ 40) {hp : Happening} (hhp : h.l[k]? = some hp) (hwf : hp.wf) {now : Int} {ss : Sl State} {s st : State} (hP : One3 x k now ss s st) {G : Heap} (g0 : G[0]? = some (.arr 0 4 false [x.av])) (g1 : G[1]? = some (.arr 0 4 false [st.av])) :
    okC (evC W l3_0 [(2, .optr 0 0 0 0), (5, .isl (some false) 4 [x.av]), (6, states ss), (9, .optr 1 0 0 0), (12, I now), (71, Sl.av Happening.av 3 h), (72, I h.l.length), (73, I k)] G)
      (fun y F' G' => y = .normal ∧ ∃ now' ss' s' st', F'.keep [2, 5, 6, 9, 12, 71, 72, 73] = [(2, .optr 0 0 0 0), (5, .isl (some false) 4 [x.av]), (6, states ss'), (9, .optr 1 0 0 0), (12, I now'), (71, Sl.av Happening.av 3 h), (72, I h.l.length), (73, I ((k + 1 : Nat) : Int))] ∧ G'[0]? = some (.arr 0 4 false [x.av]) ∧ G'[1]? = some (.arr 0 4 false [st'.av]) ∧ One3 x (k + 1) now' ss' s' st') := by
  have hw := wrap_succ (k := k) (by omega)
  have hlenx := chk_len h1.ok
  have hsp : specs (ofL 4 [x]) = .isl (some false) 4 [x.av] := rfl
  have ha : 0 ≤ hp.after ∧ hp.after ≤ 255 := wf8 hwf.2.2.1
  have hwa : IntKind.wrap .i64 hp.after = hp.after := by rw [wrap64] <;> omega
  have hti := hP.time
  have hwn : IntKind.wrap .i64 (now + hp.after) = now + hp.after := by rw [wrap64] <;> omega
  have hil := hP.inv.len
  have hif := hP.inv.few
  have hii : x.intensity ≤ 100 := by have := (chk_ok h1.ok).2.1; simp [inR] at this; omega
  simp only [runOf] at hil hif
  obtain ⟨v, d1, d2⟩ := e13 x st (evOf hp (now + hp.after)) hn (by omega) (by omega) (by omega) hP.kst.1 hP.kst.2
  obtain ⟨o1, o2⟩ := one_step h1 hc hn hP.l hP.nl hP.ks hP.core (m := 1 + k) (by omega) hP.inv hp (now + hp.after)
  rw [hsp] at o1 o2
  have hev0 : (.agg [I 1, I hp.worker, I hp.reason, I (now + hp.after)] : AV) = (⟨1, hp.worker, hp.reason, now + hp.after⟩ : Event).av := rfl
  have hev1 : (.agg [I 2, I (-1), I 0, I (now + hp.after)] : AV) = (⟨2, -1, 0, now + hp.after⟩ : Event).av := rfl
  have hz : (.agg [I 0, .isl (some true) 0 [], .isl (some true) 0 [], .bool false] : AV) = zeroState.av := rfl
  have hk' : (k : Int) < (h.l.length : Int) := by omega
  have keep : ∀ a b c : Blk, 1 < G.length := fun _ _ _ => (List.getElem?_eq_some_iff.1 g1).1
  unfold HandleOk at d2
  by_cases hE : handleE x st (evOf hp (now + hp.after)) = 0
  · rw [if_pos hE] at d2
    obtain ⟨t1, a, rfl, d3, d4⟩ := d2
    obtain ⟨ss', a', s', p1, p2, p3, p4, p5, p6⟩ := o2 hE
    have hi2 := handle_inv h1.ok (by omega) hP.inv (handleE_check hE).2
    have hst := inv_stok d3 hi2
    have hsz := size_handle x st (evOf hp (now + hp.after))
    have z3 := hsz.out
    have z1 := hsz.cs
    have z2 := hsz.rs
    simp only [runOf, List.length_nil] at z1 z2 z3
    have hs'l : s'.children.l.length = (handleR x st (evOf hp (now + hp.after))).cs.length ∧ s'.restarts.l.length = (handleR x st (evOf hp (now + hp.after))).rs.length := by
      have := core_inj p5
      rw [this.2.1, this.2.2.1]; exact ⟨rfl, rfl⟩
    have c14 := e17 s' t1 (by omega) (by omega)
    rw [core_same (p5.trans d3.core.symm)] at c14
    have c15 := e18 a' a (by rw [p6]; omega)
    rw [p6, d4, decide_eq_true rfl] at c15
    have hs0 : ss'.l[0]? = some s' := by rw [p2]; rfl
    have hnew : One3 x (k + 1) (now + hp.after) ss' s' t1 := ⟨p2, p3, p4, ⟨d3.k1, d3.k2⟩, p5.trans d3.core.symm, by
      have : ((1 : Int) + ((k + 1 : Nat) : Int)) = 1 + (k : Int) + 1 := by omega
      rw [this]; exact hst, by omega, by omega⟩
    have fin : ∀ A B C : Blk, (((G ++ [A] ++ [B]).set 1 (.arr 0 4 false [t1.av]) ++ [C])[0]? = some (.arr 0 4 false [x.av]) ∧ ((G ++ [A] ++ [B]).set 1 (.arr 0 4 false [t1.av]) ++ [C])[1]? = some (.arr 0 4 false [t1.av])) := fun A B C => by
      refine ⟨app_get ?_ C, app_get (List.getElem?_set_self (by have := keep A B C; simp only [List.length_append]; omega)) C⟩
      rw [List.getElem?_set_ne (by decide)]; exact bx2 g0 A B
    unfold evOf at d1 hE
    by_cases hneg : hp.worker < 0
    · rw [if_pos hneg] at d1
      simp [-getElem?_pos, -List.append_assoc, List.getElem?_cons_zero, app_last, bx21, bx22, bx31, bx32, bx33, sx11, sx21, sx22, sx33, evl3_0, b3_0, intBin, hk, hk', hhp, hw, hwa, hwn, hev0, hev1, hneg, g0, g1, app_get g0, app_get g1, bx2 g0, bx2 g1, bx3 g0, bx3 g1, d1, hz, p1, hs0, c14, c15]
      exact ⟨_, ss', ⟨rfl, rfl⟩, (fin _ _ _).1, s', t1, (fin _ _ _).2, hnew⟩
    · rw [if_neg hneg] at d1
      simp [-getElem?_pos, -List.append_assoc, List.getElem?_cons_zero, app_last, bx21, bx22, bx31, bx32, bx33, sx11, sx21, sx22, sx33, evl3_0, b3_0, intBin, hk, hk', hhp, hw, hwa, hwn, hev0, hev1, hneg, g0, g1, app_get g0, app_get g1, bx2 g0, bx2 g1, bx3 g0, bx3 g1, d1, hz, p1, hs0, c14, c15]
      exact ⟨_, ss', ⟨rfl, rfl⟩, (fin _ _ _).1, s', t1, (fin _ _ _).2, hnew⟩
  · rw [if_neg hE] at d2
    subst d2
    obtain ⟨a, b, ia, ib, p1⟩ := o1 hE
    obtain ⟨i1, i2, i3, rfl⟩ := ia
    obtain ⟨j1, j2, j3, rfl⟩ := ib
    have hold : One3 x (k + 1) (now + hp.after) ss s st := ⟨hP.l, hP.nl, hP.ks, hP.kst, hP.core, hP.inv.mono (by omega), by omega, by omega⟩
    unfold evOf at d1 hE
    by_cases hneg : hp.worker < 0
    · rw [if_pos hneg] at d1 hE
      simp [-getElem?_pos, -List.append_assoc, List.getElem?_cons_zero, app_last, bx21, bx22, bx31, bx32, bx33, sx11, sx21, sx22, sx33, evl3_0, b3_0, intBin, hk, hk', hhp, hw, hwa, hwn, hev0, hev1, hneg, g0, g1, app_get g0, app_get g1, bx2 g0, bx2 g1, bx3 g0, bx3 g1, d1, hz, p1, hE]
      exact ⟨_, ss, ⟨rfl, rfl⟩, s, st, rfl, hold⟩
    · rw [if_neg hneg] at d1 hE
      simp [-getElem?_pos, -List.append_assoc, List.getElem?_cons_zero, app_last, bx21, bx22, bx31, bx32, bx33, sx11, sx21, sx22, sx33, evl3_0, b3_0, intBin, hk, hk', hhp, hw, hwa, hwn, hev0, hev1, hneg, g0, g1, app_get g0, app_get g1, bx2 g0, bx2 g1, bx3 g0, bx3 g1, d1, hz, p1, hE]
      exact ⟨_, ss, ⟨rfl, rfl⟩, s, st, rfl, hold⟩
theorem law3 (x : Spec) (hx : x.wf) (h : Sl Happening) (hh : SlOk Happening.wf h) : W.pure 3 [x.av, Sl.av Happening.av 3 h] = some (.bool true) := by
  have hsp : specs (ofL 4 [x]) = .isl (some false) 4 [x.av] := rfl
  have c8 := t8 (ofL 4 [x]) (by simp) h
  rw [hsp] at c8
  have c11 := awk
  rw [W_pure Φ3 (by simp)]
  cases hf : fineT (ofL 4 [x] : Sl Spec).l h.l with
  | false =>
    rw [hf] at c8
    simp [fi3, c3, evFun, enterFr, intBin, resV, rvVs, rvV, c8, c11]
  | true =>
    rw [hf] at c8
    simp only [fineT, Bool.and_eq_true, Bool.not_eq_true', decide_eq_true_eq] at hf
    obtain ⟨⟨hg, hc⟩, hl30⟩ := hf
    have hN := (great_names hg).1
    have hn : ∀ c ∈ x.children.l, c.name.length ≤ 1000000 := hN x (List.mem_singleton.2 rfl)
    have hok := (tree_of hc).ok 0 x rfl
    have hlenx := chk_len hok
    have c9 := t9 x.children (by omega)
    cases hany : x.children.l.any (fun c => !decide (c.sub = -1)) with
    | true =>
      rw [hany] at c9
      simp [fi3, c3, evFun, enterFr, intBin, resV, rvVs, rvV, c8, c9, c11]
    | false =>
      rw [hany] at c9
      have h1 : One x := ⟨hok, fun c hcm => by
        have := List.any_eq_false.1 hany c hcm
        simpa using this⟩
      obtain ⟨ss, a, c12, n1, n2, n3, n4, n5⟩ := t12 (l := ofL 4 [x]) hN hc
      rw [hsp] at c12
      obtain ⟨o1, o2⟩ := one_new h1 hc
      obtain ⟨st, a2, c13, m1, m2, m3⟩ := t13 hok hn
      have n1' : ss.l.map State.core = [(startS x).core] := by
        rw [n1]; show (newT [x]).ss.map State.core = _; rw [o1]; rfl
      have n3' : a.l = startL x.children.l.length := by rw [n3]; exact o2
      obtain ⟨s, hss, hsc⟩ : ∃ s, ss.l = [s] ∧ s.core = (startS x).core := by
        cases hs' : ss.l with
        | nil => rw [hs'] at n1'; simp at n1'
        | cons s r =>
          rw [hs'] at n1'
          simp only [List.map_cons, List.cons.injEq, List.map_eq_nil_iff] at n1'
          obtain ⟨g1, rfl⟩ := n1'
          exact ⟨s, rfl, g1⟩
      have hsl : s.children.l.length ≤ 1000000 ∧ s.restarts.l.length ≤ 1000000 := by
        have := core_inj hsc
        rw [this.2.1, this.2.2.1]; simp [startS]; omega
      have c14 := e17 s st hsl.1 hsl.2
      rw [core_same (hsc.trans m1.symm)] at c14
      have c15 := e18 a a2 (by rw [n3', startL_len]; omega)
      rw [n3', m3, decide_eq_true rfl] at c15
      have hs0 : ss.l[0]? = some s := by rw [hss]; rfl
      have hsl1 : (ss.l.length : Int) = 1 := by rw [hss]; rfl
      have hz : (.agg [I 0, .isl (some true) 0 [], .isl (some true) 0 [], .bool false] : AV) = zeroState.av := rfl
      have hL := loop_fold (Φ := Φ) (live := [2, 5, 6, 9, 12, 71, 72, 73]) (L := l3_0) h.l (σ := Unit) (fun _ _ s => s)
        (fun k _ F G => ∃ now ss s st, F = [(2, .optr 0 0 0 0), (5, .isl (some false) 4 [x.av]), (6, states ss), (9, .optr 1 0 0 0), (12, I now), (71, Sl.av Happening.av 3 h), (72, I h.l.length), (73, I k)] ∧ G[0]? = some (.arr 0 4 false [x.av]) ∧ G[1]? = some (.arr 0 4 false [st.av]) ∧ One3 x k now ss s st)
        (fun _ y F G => y = .exit 0) (s := ()) (F := [(2, .optr 0 0 0 0), (5, .isl (some false) 4 [x.av]), (6, states ss), (9, .optr 1 0 0 0), (12, I 0), (71, Sl.av Happening.av 3 h), (72, I h.l.length), (73, I 0)]) (H := [.arr 0 4 false [x.av], .arr 0 4 false [st.av]])
        ⟨0, ss, s, st, rfl, rfl, rfl, ⟨hss, n5, n2 s (by rw [hss]; simp), m2, hsc.trans m1.symm, inv_core m1.symm (start_inv hok), by omega, by omega⟩⟩ ?_ ?_
      · obtain ⟨y, F', G, f1, rfl⟩ := okC_iff.1 hL
        simp [-getElem?_pos, List.getElem?_cons_zero, fi3, c3, evFun, enterFr, intBin, resV, rvVs, rvV, c8, c9, c11, c12, c13, hz, hs0, hsl1, c14, c15, f1]
      · rintro k hp ⟨⟩ F G hk hhp ⟨now, ss, s, st, rfl, g0, g1, hP⟩
        obtain ⟨y, F', G', f1, rfl, f2⟩ := okC_iff.1 (turn3 h1 hc hn h hk (by omega) hhp (hh.all _ (List.mem_of_getElem? hhp)) hP g0 g1)
        exact okC_iff.2 ⟨_, _, _, f1, rfl, f2⟩
      · rintro ⟨⟩ F G ⟨now, ss, s, st, rfl, g0, g1, hP⟩
        simp [evl3_0, b3_0, intBin]
end
section
open Go Go.RowKit
set_option linter.unusedVariables false
set_option linter.unusedSimpArgs false
set_option maxRecDepth 10000
set_option maxHeartbeats 4000000

/-- The children that are looked at of supervisor k. -/
def partB (l : List Spec) (i c k : Nat) : List Child := if k < i then kids l k else (kids l k).take c
theorem seen_parts (l : List Spec) (i c : Nat) : seen l i c = (List.range (i + 1)).flatMap (partB l i c) := by
  unfold seen
  rw [List.range_succ, List.flatMap_append]
  congr 1
  · have : ∀ (m : List Nat), (∀ k ∈ m, k < i) → m.flatMap (kids l) = m.flatMap (partB l i c) := by
      intro m
      induction m with
      | nil => intro _; rfl
      | cons k m ih =>
        intro h
        rw [List.flatMap_cons, List.flatMap_cons, ih (fun j hj => h j (by simp [hj]))]
        congr 1
        unfold partB; rw [if_pos (h k (by simp))]
    exact this _ (fun k hk => by simpa using hk)
  · simp [partB]
theorem foldE_any {α : Type} (q : α → Bool) (l : List α) : foldE (fun _ a (_ : Unit) => if q a = true then (.inr () : Unit ⊕ Unit) else .inl ()) 0 l () = if l.any q = true then .inr () else .inl () := by
  have key : ∀ (l : List α) (k : Nat), foldE (fun _ a (_ : Unit) => if q a = true then (.inr () : Unit ⊕ Unit) else .inl ()) k l () = if l.any q = true then .inr () else .inl () := by
    intro l
    induction l with
    | nil => intro k; rfl
    | cons a l ih =>
      intro k
      by_cases h : q a = true
      · simp [foldE, h]
      · simp only [foldE, h, if_false, ih, List.any_cons, Bool.false_or, Bool.not_eq_true] at *
        simp [h]
  exact key l 0
section
attribute [local irreducible] okC okV
theorem loop54_0 {l : Sl Spec} (ht : ∀ x ∈ l.l, x.children.l.length ≤ 1000) (i c k : Nat) (ch : Child) (hik : k ≤ i) (hi : i < l.l.length) (hil : i ≤ 1000) (hch : (kids l.l i)[c]? = some ch) {H : Heap} (h0 : H[0]? = some (.arr 0 3 false [ch.av])) :
    okC (W.loop [0, 1, 2, 7, 8, 9] l54_0 [(0, specs l), (1, I i), (2, I c), (7, .optr 0 0 0 0), (8, I k), (9, I 0)] H) (fun y F G => if (partB l.l i c k).any (sameC ch) = true then y = .ret ∧ F.get 6 = .bool true else y = .exit 2 ∧ F.keep [0, 1, 2, 7, 8] = [(0, specs l), (1, I i), (2, I c), (7, .optr 0 0 0 0), (8, I k)] ∧ G[0]? = some (.arr 0 3 false [ch.av])) := by
  have hkl : k < l.l.length := by omega
  have hx := List.getElem?_eq_getElem hkl
  have hxm := ht _ (List.getElem_mem hkl)
  generalize l.l[k] = x at *
  have hkid := kids_of hx
  have hcl := (List.getElem?_eq_some_iff.1 hch).1
  have hpl : (partB l.l i c k).length = if k < i then x.children.l.length else c := by
    unfold partB
    split
    · rw [hkid]
    · have : k = i := by omega
      subst this
      rw [List.length_take]; omega
  have hpat : ∀ m : Nat, m < (partB l.l i c k).length → x.children.l[m]? = (partB l.l i c k)[m]? := by
    intro m hm
    unfold partB at hm ⊢
    split at hm
    · rename_i h; rw [if_pos h, hkid]
    · rename_i h
      rw [if_neg h, hkid]
      rw [List.length_take] at hm
      rw [List.getElem?_take, if_pos (by omega)]
  have hlt : ∀ m : Nat, m < (partB l.l i c k).length → m < x.children.l.length ∧ (k < i ∨ m < c) := by
    intro m hm
    rw [hpl] at hm
    split at hm
    · exact ⟨hm, .inl ‹_›⟩
    · have : k = i := by omega
      subst this
      rw [hkid] at hcl
      exact ⟨by omega, .inr hm⟩
  have hL := loop_all (Φ := Φ) (live := [0, 1, 2, 7, 8, 9]) (L := l54_0) (partB l.l i c k) (fun _ y _ => if sameC ch y = true then (.inr () : Unit ⊕ Unit) else .inl ())
    (fun m _ F G => F = [(0, specs l), (1, I i), (2, I c), (7, .optr 0 0 0 0), (8, I k), (9, I m)] ∧ G[0]? = some (.arr 0 3 false [ch.av]))
    (fun _ y F G => y = .ret ∧ F.get 6 = .bool true) (fun _ y F G => y = .exit 2 ∧ F.keep [0, 1, 2, 7, 8] = [(0, specs l), (1, I i), (2, I c), (7, .optr 0 0 0 0), (8, I k)] ∧ G[0]? = some (.arr 0 3 false [ch.av])) (s := ()) (H := H) ⟨rfl, h0⟩ ?_ ?_
  · simp only [Int.natCast_zero] at hL
    rw [foldE_any] at hL
    split
    · rename_i h; rw [if_pos h] at hL; exact hL
    · rename_i h; rw [if_neg h] at hL; exact hL
  · rintro m y ⟨⟩ F G hm hy ⟨rfl, g0⟩
    obtain ⟨b1, b2⟩ := hlt m hm
    have hw := wrap_succ (k := m) (by omega)
    have hym : x.children.l[m]? = some y := by rw [hpat m hm]; exact hy
    have g0' := app_get g0 (.arr 0 3 false [y.av])
    have hsame : sameC ch y = (decide (y.sub = ch.sub) && (!decide (ch.sub = -1) || decide (ch.name = y.name))) := rfl
    have goal : ∀ (hb : (k : Int) < (i : Int) ∨ ¬ (k : Int) < (i : Int) ∧ (m : Int) < (c : Int)), okC (evC W l54_0 [(0, specs l), (1, I i), (2, I c), (7, .optr 0 0 0 0), (8, I k), (9, I m)] G)
      (TurnOk (fun (_ : Unit) F' H' => F'.keep [0, 1, 2, 7, 8, 9] = [(0, specs l), (1, I i), (2, I c), (7, .optr 0 0 0 0), (8, I k), (9, I ((m + 1 : Nat) : Int))] ∧ H'[0]? = some (.arr 0 3 false [ch.av])) (fun _ y F G => y = .ret ∧ F.get 6 = .bool true) (if sameC ch y = true then (.inr () : Unit ⊕ Unit) else .inl ())) := by
      intro hb
      have b1' : (m : Int) < (x.children.l.length : Int) := by omega
      rw [hsame]
      by_cases q1 : y.sub = ch.sub
      · by_cases q2 : ch.sub = -1
        · by_cases q3 : ch.name = y.name
          · rcases hb with hb | ⟨hb, hb2⟩
            · have hbn : k < i := by omega
              simp [-getElem?_pos, List.getElem?_cons_zero, app_last, sx11, strBin, evl54_0, b54_0, intBin, hx, hym, hw, b1, b1', hb, hbn, g0, g0', q1, q2, q3]
            · have hbn : ¬ k < i := by omega
              have hbn2 : m < c := by omega
              simp [-getElem?_pos, List.getElem?_cons_zero, app_last, sx11, strBin, evl54_0, b54_0, intBin, hx, hym, hw, b1, b1', hb, hb2, hbn, hbn2, g0, g0', q1, q2, q3]
          · rcases hb with hb | ⟨hb, hb2⟩
            · have hbn : k < i := by omega
              simp [-getElem?_pos, List.getElem?_cons_zero, app_last, sx11, strBin, evl54_0, b54_0, intBin, hx, hym, hw, b1, b1', hb, hbn, g0, g0', q1, q2, q3]
            · have hbn : ¬ k < i := by omega
              have hbn2 : m < c := by omega
              simp [-getElem?_pos, List.getElem?_cons_zero, app_last, sx11, strBin, evl54_0, b54_0, intBin, hx, hym, hw, b1, b1', hb, hb2, hbn, hbn2, g0, g0', q1, q2, q3]
        · rcases hb with hb | ⟨hb, hb2⟩
          · have hbn : k < i := by omega
            simp [-getElem?_pos, List.getElem?_cons_zero, app_last, sx11, strBin, evl54_0, b54_0, intBin, hx, hym, hw, b1, b1', hb, hbn, g0, g0', q1, q2]
          · have hbn : ¬ k < i := by omega
            have hbn2 : m < c := by omega
            simp [-getElem?_pos, List.getElem?_cons_zero, app_last, sx11, strBin, evl54_0, b54_0, intBin, hx, hym, hw, b1, b1', hb, hb2, hbn, hbn2, g0, g0', q1, q2]
      · rcases hb with hb | ⟨hb, hb2⟩
        · have hbn : k < i := by omega
          simp [-getElem?_pos, List.getElem?_cons_zero, app_last, sx11, strBin, evl54_0, b54_0, intBin, hx, hym, hw, b1, b1', hb, hbn, g0, g0', q1]
        · have hbn : ¬ k < i := by omega
          have hbn2 : m < c := by omega
          simp [-getElem?_pos, List.getElem?_cons_zero, app_last, sx11, strBin, evl54_0, b54_0, intBin, hx, hym, hw, b1, b1', hb, hb2, hbn, hbn2, g0, g0', q1]
    exact goal (by omega)
  · rintro ⟨⟩ F G ⟨rfl, g0⟩
    rw [hpl]
    by_cases hki : k < i
    · rw [if_pos hki]
      simp [-getElem?_pos, List.getElem?_cons_zero, evl54_0, b54_0, intBin, hx]
      exact g0
    · rw [if_neg hki]
      have hki' : ¬ (k : Int) < (i : Int) := by omega
      by_cases hcx : (c : Int) < (x.children.l.length : Int)
      · have hcx' : c < x.children.l.length := by omega
        simp [-getElem?_pos, List.getElem?_cons_zero, evl54_0, b54_0, intBin, hx, hki, hki', hcx, hcx']
        exact g0
      · have hcx' : ¬ c < x.children.l.length := by omega
        simp [-getElem?_pos, List.getElem?_cons_zero, evl54_0, b54_0, intBin, hx, hcx, hcx']
        exact g0
theorem t54 {l : Sl Spec} (ht : ∀ x ∈ l.l, x.children.l.length ≤ 1000) {i c : Nat} {ch : Child} (hi : i < l.l.length) (hil : i ≤ 1000) (hch : (kids l.l i)[c]? = some ch) : W.pure 54 [specs l, I i, I c] = some (.bool ((seen l.l i c).any (sameC ch))) := by
  rw [W_pure Φ54 (by simp)]
  have hx := List.getElem?_eq_getElem hi
  have hkid := kids_of hx
  have hch2 := hch
  rw [hkid] at hch2
  have hL := loop_all (Φ := Φ) (live := [0, 1, 2, 7, 8]) (L := l54_1) (List.range (i + 1)) (fun _ k _ => if (partB l.l i c k).any (sameC ch) = true then (.inr () : Unit ⊕ Unit) else .inl ())
    (fun k _ F G => F = [(0, specs l), (1, I i), (2, I c), (7, .optr 0 0 0 0), (8, I k)] ∧ G[0]? = some (.arr 0 3 false [ch.av]))
    (fun _ y F G => y = .ret ∧ F.get 6 = .bool true) (fun _ y F G => y = .exit 0) (s := ()) (H := [.arr 0 3 false [ch.av]]) ⟨rfl, rfl⟩ ?_ ?_
  · simp only [Int.natCast_zero] at hL
    rw [foldE_any] at hL
    have hany : (List.range (i + 1)).any (fun k => (partB l.l i c k).any (sameC ch)) = (seen l.l i c).any (sameC ch) := by
      rw [seen_parts, List.any_flatMap]
    rw [hany] at hL
    generalize l.l[i] = x at *
    cases hs : (seen l.l i c).any (sameC ch) with
    | true =>
      rw [hs, if_pos rfl] at hL
      obtain ⟨y, F, G, e1, rfl, e2⟩ := okC_iff.1 hL
      simp [-getElem?_pos, List.getElem?_cons_zero, fi54, c54, evFun, enterFr, intBin, resV, rvVs, rvV, hx, hch2, e1, e2]
    | false =>
      rw [hs, if_neg (by decide)] at hL
      obtain ⟨y, F, G, e1, rfl⟩ := okC_iff.1 hL
      simp [-getElem?_pos, List.getElem?_cons_zero, fi54, c54, evFun, enterFr, intBin, resV, rvVs, rvV, hx, hch2, e1]
  · rintro k a ⟨⟩ F G hk ha ⟨rfl, g0⟩
    have hka : a = k := by
      have := (List.getElem?_eq_some_iff.1 ha).2
      simpa using this.symm
    subst hka
    simp only [List.length_range] at hk
    have hw := wrap_succ (k := a) (by omega)
    have hle : (a : Int) ≤ (i : Int) := by omega
    have hle' : a ≤ i := by omega
    have h0 := loop54_0 ht i c a ch hle' hi hil hch g0
    cases hs : (partB l.l i c a).any (sameC ch) with
    | true =>
      simp only [if_pos hs] at h0
      obtain ⟨y, F, G', e1, rfl, e2⟩ := okC_iff.1 h0
      simp [-getElem?_pos, List.getElem?_cons_zero, evl54_1, b54_1, intBin, hle, hle', e1, e2]
    | false =>
      simp only [if_neg (show ¬ (partB l.l i c a).any (sameC ch) = true by rw [hs]; decide)] at h0
      obtain ⟨y, F, G', e1, rfl, e2, e3⟩ := okC_iff.1 h0
      simp only [keep_cons, keep_nil, List.cons.injEq, Prod.mk.injEq, true_and, and_true] at e2
      obtain ⟨q0, q1, q2, q7, q8⟩ := e2
      simp [-getElem?_pos, List.getElem?_cons_zero, evl54_1, b54_1, intBin, hle, hle', hw, e1, q0, q1, q2, q7, q8]
      exact e3
  · rintro ⟨⟩ F G ⟨rfl, g0⟩
    have : ¬ ((i + 1 : Nat) : Int) ≤ (i : Int) := by omega
    have hnn : ¬ (i : Int) + 1 ≤ (i : Int) := by omega
    simp [evl54_1, b54_1, intBin, hnn]
end
end
section
open Go Go.RowKit
set_option linter.unusedVariables false
set_option linter.unusedSimpArgs false
set_option maxRecDepth 10000
set_option maxHeartbeats 4000000

theorem subsN_owner {l : List Spec} (hs : ∀ (i c : Nat) (ch : Child), i < l.length → (kids l i)[c]? = some ch → stepC l i c ch = .inl ()) (hown : ∀ k, 1 ≤ k → k < l.length → ∃ i c, SubAt l i c k) : subsN (seen l l.length 0) = l.length - 1 := by
  have hsub : ∀ (i c : Nat) (ch : Child), i < l.length → (kids l i)[c]? = some ch → ch.sub = -1 ∨ ((i : Int) < ch.sub ∧ ch.sub < l.length) := by
    intro i c ch hi hch
    have := hs i c ch hi hch
    unfold stepC at this
    split at this
    · cases this
    · rename_i hn
      by_cases h1 : ch.sub = -1
      · exact .inl h1
      · right
        have : ¬ (ch.sub ≤ i ∨ (l.length : Int) ≤ ch.sub) := fun h => hn ⟨h1, h⟩
        omega
  have hnew : ∀ (i c : Nat) (ch : Child), i < l.length → (kids l i)[c]? = some ch → ∀ y ∈ seen l i c, sameC ch y = false := by
    intro i c ch hi hch y hy
    have := hs i c ch hi hch
    unfold stepC at this
    split at this
    · cases this
    · split at this
      · cases this
      · rename_i hn
        cases hq : sameC ch y with
        | false => rfl
        | true => exact absurd (List.any_eq_true.2 ⟨y, hy, hq⟩) hn
  have hpair : ∀ i, i ≤ l.length → (seen l i 0).Pairwise (fun y x => sameC x y = false) := by
    intro i
    induction i with
    | zero => intro _; simp [seen]
    | succ i ih =>
      intro hi
      have h1 := ih (by omega)
      have : ∀ c, c ≤ (kids l i).length → (seen l i c).Pairwise (fun y x => sameC x y = false) := by
        intro c
        induction c with
        | zero => intro _; exact h1
        | succ c ihc =>
          intro hc
          have hch := List.getElem?_eq_getElem (show c < (kids l i).length by omega)
          rw [seen_succ hch, List.pairwise_append]
          refine ⟨ihc (by omega), by simp, fun y hy x hx => ?_⟩
          simp only [List.mem_singleton] at hx
          subst hx
          exact hnew i c _ (by omega) hch y hy
      rw [← seen_next]
      exact this _ (Nat.le_refl _)
  have hn : (subsOf (seen l l.length 0)).Nodup := by
    unfold subsOf
    rw [List.Nodup, List.pairwise_map]
    refine List.Pairwise.imp_of_mem (fun {a b} ha hb hab => ?_) ((hpair l.length (Nat.le_refl _)).filter (fun c => !decide (c.sub = -1)))
    intro e
    have := (List.mem_filter.1 hb).2
    simp only [sameC, Bool.and_eq_false_iff, decide_eq_false_iff_not, Bool.or_eq_false_iff, Bool.not_eq_false', decide_eq_true_eq] at hab
    rcases hab with h | ⟨h, _⟩
    · exact h e
    · simp [h] at this
  have hin : ∀ x ∈ subsOf (seen l l.length 0), 1 ≤ x.toNat ∧ x.toNat < l.length ∧ x = (x.toNat : Int) := by
    intro x hx
    unfold subsOf at hx
    obtain ⟨ch, h1, rfl⟩ := List.mem_map.1 hx
    obtain ⟨h1, h2⟩ := List.mem_filter.1 h1
    obtain ⟨i, c, h3, h4⟩ := mem_seen h1
    simp only [Bool.not_eq_true', decide_eq_false_iff_not] at h2
    rcases hsub i c ch h3 h4 with h | h
    · exact absurd h h2
    · omega
  have a1 := nodup_le (subsOf (seen l l.length 0)) ((List.range (l.length - 1)).map fun j => ((j + 1 : Nat) : Int)) hn (fun x hx => by
    obtain ⟨h1, h2, h3⟩ := hin x hx
    exact List.mem_map.2 ⟨x.toNat - 1, by simp; omega, by omega⟩)
  have a2 := nodup_le ((List.range (l.length - 1)).map fun j => ((j + 1 : Nat) : Int)) (subsOf (seen l l.length 0)) (by
    rw [List.Nodup, List.pairwise_map]
    exact List.nodup_range.imp (fun h e => h (by omega))) (fun x hx => by
    obtain ⟨j, h1, rfl⟩ := List.mem_map.1 hx
    simp only [List.mem_range] at h1
    obtain ⟨i, c, h2, ch, h3, h4⟩ := hown (j + 1) (by omega) (by omega)
    unfold subsOf
    refine List.mem_map.2 ⟨ch, List.mem_filter.2 ⟨?_, by rw [h4]; simp; omega⟩, h4⟩
    unfold seen
    rw [List.take_zero, List.append_nil]
    exact List.mem_flatMap.2 ⟨i, by simpa using h2, List.mem_of_getElem? h3⟩)
  rw [List.length_map, List.length_range, subsOf_len] at a1 a2
  omega
section
attribute [local irreducible] okC okV
theorem loop55_0 {l : Sl Spec} (i : Nat) (x : Spec) (hx : l.l[i]? = some x) (hxl : x.children.l.length ≤ 1000) (k : Nat) (H : Heap) :
    okC (W.loop [0, 1, 6, 7] l55_0 [(0, specs l), (1, I k), (6, I i), (7, I 0)] H) (fun y F G => if 0 ≤ idxP (fun y => decide (y.sub = (k : Int))) x.children.l then y = .ret ∧ F.get 4 = I i ∧ F.get 5 = I (idxP (fun y => decide (y.sub = (k : Int))) x.children.l) else y = .exit 2 ∧ F.keep [0, 1, 6] = [(0, specs l), (1, I k), (6, I i)]) := by
  have hL := loop_all (Φ := Φ) (live := [0, 1, 6, 7]) (L := l55_0) x.children.l (fun c y _ => if decide (y.sub = (k : Int)) = true then (.inr (c : Int) : Unit ⊕ Int) else .inl ())
    (fun c _ F G => F = [(0, specs l), (1, I k), (6, I i), (7, I c)])
    (fun q y F G => y = .ret ∧ F.get 4 = I i ∧ F.get 5 = I q) (fun _ y F G => y = .exit 2 ∧ F.keep [0, 1, 6] = [(0, specs l), (1, I k), (6, I i)]) (s := ()) (H := H) rfl ?_ ?_
  · simp only [Int.natCast_zero] at hL
    unfold idxP
    cases hf : foldE (fun c (y : Child) (_ : Unit) => if decide (y.sub = (k : Int)) = true then (.inr (c : Int) : Unit ⊕ Int) else .inl ()) 0 x.children.l () with
    | inl u => rw [hf] at hL; simp only [hf, if_neg (show ¬ (0 : Int) ≤ -1 by decide)]; exact hL
    | inr q =>
      rw [hf] at hL
      have hq : 0 ≤ q := by
        rcases foldE_unit (fun c (y : Child) => if decide (y.sub = (k : Int)) = true then (.inr (c : Int) : Unit ⊕ Int) else .inl ()) x.children.l 0 with ⟨h1, _⟩ | ⟨j, a, y, h1, h2, h3, h4⟩
        · rw [h1] at hf; cases hf
        · rw [h3] at hf; cases hf
          split at h2
          · cases h2; omega
          · cases h2
      simp only [hf, if_pos hq]; exact hL
  · rintro c y ⟨⟩ F G hc hy rfl
    have hw := wrap_succ (k := c) (by omega)
    by_cases q : y.sub = (k : Int)
    · simp [-getElem?_pos, List.getElem?_cons_zero, evl55_0, b55_0, intBin, hx, hc, hy, hw, q]
    · simp [-getElem?_pos, List.getElem?_cons_zero, evl55_0, b55_0, intBin, hx, hc, hy, hw, q]
  · rintro ⟨⟩ F G rfl
    simp [-getElem?_pos, List.getElem?_cons_zero, evl55_0, b55_0, intBin, hx]
theorem t55 {l : Sl Spec} (ht : ∀ x ∈ l.l, x.children.l.length ≤ 1000) (hl : l.l.length ≤ 1000) (k : Nat) : (∃ i c, SubAt l.l i c k ∧ W.pure 55 [specs l, I k] = some (.tuple [I i, I c])) ∨ ((∀ i c, ¬ SubAt l.l i c k) ∧ W.pure 55 [specs l, I k] = some (.tuple [I (-1), I 0])) := by
  have hL := loop_all (Φ := Φ) (live := [0, 1, 6]) (L := l55_1) l.l (fun i x _ => if 0 ≤ idxP (fun y : Child => decide (y.sub = (k : Int))) x.children.l then (.inr ((i : Int), idxP (fun y : Child => decide (y.sub = (k : Int))) x.children.l) : Unit ⊕ (Int × Int)) else .inl ())
    (fun i _ F G => F = [(0, specs l), (1, I k), (6, I i)])
    (fun r y F G => y = .ret ∧ F.get 4 = I r.1 ∧ F.get 5 = I r.2) (fun _ y F G => y = .exit 0) (s := ()) (F := [(0, specs l), (1, I k), (6, I 0)]) (H := []) rfl ?_ ?_
  · rcases foldE_unit (fun i (x : Spec) => if 0 ≤ idxP (fun y : Child => decide (y.sub = (k : Int))) x.children.l then (.inr ((i : Int), idxP (fun y : Child => decide (y.sub = (k : Int))) x.children.l) : Unit ⊕ (Int × Int)) else .inl ()) l.l 0 with ⟨g1, g2⟩ | ⟨j, x, r, g1, g2, g3, g4⟩
    · right
      rw [g1] at hL
      obtain ⟨y, F, G, e1, rfl⟩ := okC_iff.1 hL
      refine ⟨fun i c hs => ?_, ?_⟩
      · have hi := hs.1
        have hx := List.getElem?_eq_getElem hi
        have := g2 i _ hx
        rcases find_sub hx k with ⟨_, h⟩ | ⟨c', h, _⟩
        · exact h c hs
        · rw [h, if_pos (by omega)] at this; cases this
      · rw [W_pure Φ55 (by simp)]
        simp [fi55, c55, evFun, enterFr, intBin, resV, rvVs, rvV, e1]
    · left
      rw [g3] at hL
      rcases find_sub g1 k with ⟨h, _⟩ | ⟨c, h, hs⟩
      · rw [h, if_neg (by omega)] at g2; cases g2
      · rw [h, if_pos (by omega)] at g2
        simp only [Sum.inr.injEq] at g2
        subst g2
        obtain ⟨y, F, G, e1, rfl, e2, e3⟩ := okC_iff.1 hL
        simp only [Nat.zero_add] at e2 e3
        refine ⟨j, c, hs, ?_⟩
        rw [W_pure Φ55 (by simp)]
        simp [fi55, c55, evFun, enterFr, intBin, resV, rvVs, rvV, e1, e2, e3]
  · rintro i x ⟨⟩ F G hi hx rfl
    have hw := wrap_succ (k := i) (by omega)
    have h0 := loop55_0 i x hx (ht x (List.mem_of_getElem? hx)) k G
    generalize idxP (fun y : Child => decide (y.sub = (k : Int))) x.children.l = q at *
    by_cases hq : 0 ≤ q
    · simp only [if_pos hq] at h0 ⊢
      obtain ⟨y, F, G', e1, rfl, e2, e3⟩ := okC_iff.1 h0
      simp [-getElem?_pos, List.getElem?_cons_zero, evl55_1, b55_1, intBin, hi, e1, e2, e3]
    · simp only [if_neg hq] at h0 ⊢
      obtain ⟨y, F, G', e1, rfl, e2⟩ := okC_iff.1 h0
      simp only [keep_cons, keep_nil, List.cons.injEq, Prod.mk.injEq, true_and, and_true] at e2
      obtain ⟨q0, q1, q6⟩ := e2
      simp [-getElem?_pos, List.getElem?_cons_zero, evl55_1, b55_1, intBin, hi, hw, e1, q0, q1, q6]
  · rintro ⟨⟩ F G rfl
    simp [evl55_1, b55_1, intBin]
end
end
section
open Go Go.RowKit
set_option linter.unusedVariables false
set_option linter.unusedSimpArgs false
set_option maxRecDepth 10000
set_option maxHeartbeats 4000000

theorem flatMap_len {α β : Type} (f : α → List β) (n : Nat) : ∀ (l : List α), (∀ a ∈ l, (f a).length ≤ n) → (l.flatMap f).length ≤ l.length * n
  | [], _ => by simp
  | a :: l, h => by
    have h1 := h a (by simp)
    have h2 := flatMap_len f n l (fun b hb => h b (by simp [hb]))
    rw [List.flatMap_cons, List.length_append, List.length_cons, Nat.succ_mul]; omega
theorem kids_le {l : List Spec} (ht : ∀ x ∈ l, x.children.l.length ≤ 1000) (i : Nat) : (kids l i).length ≤ 1000 := by
  rcases Nat.lt_or_ge i l.length with h | h
  · rw [kids_of (List.getElem?_eq_getElem h)]; exact ht _ (List.getElem_mem h)
  · unfold kids
    rw [List.getD_eq_getElem?_getD, List.getElem?_eq_none h]
    exact Nat.zero_le _
theorem seen_len {l : List Spec} (ht : ∀ x ∈ l, x.children.l.length ≤ 1000) (i c : Nat) : (seen l i c).length ≤ i * 1000 + 1000 := by
  have h1 := flatMap_len (kids l) 1000 (List.range i) (fun a _ => kids_le ht a)
  have h2 := kids_le ht i
  unfold seen
  rw [List.length_append, List.length_take]
  rw [List.length_range] at h1
  omega
theorem workersN_le (L : List Child) : workersN L ≤ L.length := List.length_filter_le _ _
theorem workersN_snoc (L : List Child) (c : Child) : workersN (L ++ [c]) = if c.sub = -1 then workersN L + 1 else workersN L := by
  unfold workersN
  rw [List.filter_append]
  by_cases h : c.sub = -1 <;> simp [h]
section
attribute [local irreducible] okC okV
theorem turn23_1 {l : Sl Spec} (ht : ∀ x ∈ l.l, x.children.l.length ≤ 1000) (hl : l.l.length ≤ 8) (i : Nat) (x : Spec) (hx : l.l[i]? = some x) (c : Nat) (ch : Child) (hc : c < x.children.l.length) (hch : x.children.l[c]? = some ch) (H : Heap) :
    okC (evC W l23_1 [(0, specs l), (3, I (workersN (seen l.l i c))), (4, I i), (6, I c)] H)
      (TurnOk (fun (_ : Unit) F' H' => F'.keep [0, 3, 4, 6] = [(0, specs l), (3, I (workersN (seen l.l i (c + 1)))), (4, I i), (6, I ((c + 1 : Nat) : Int))]) (fun e y F G => y = .ret ∧ F.get 2 = I e) (stepC l.l i c ch)) := by
  have hi := (List.getElem?_eq_some_iff.1 hx).1
  have hkid := kids_of hx
  have hcl := ht x (List.mem_of_getElem? hx)
  have hw := wrap_succ (k := c) (by omega)
  have hwn : workersN (seen l.l i c) ≤ 1000000 := Nat.le_trans (workersN_le _) (Nat.le_trans (seen_len ht i c) (by omega))
  have hww := wrap_succ (k := workersN (seen l.l i c)) (by omega)
  have h54 := t54 ht (i := i) (c := c) (ch := ch) hi (by omega) (by rw [hkid]; exact hch)
  have hsn : seen l.l i (c + 1) = seen l.l i c ++ [ch] := seen_succ (by rw [hkid]; exact hch)
  rw [hsn, workersN_snoc]
  by_cases s : ch.sub = -1
  · cases hs : (seen l.l i c).any (sameC ch) with
    | true =>
      have hst : stepC l.l i c ch = .inr 6 := by unfold stepC; rw [if_neg (fun h => h.1 s), if_pos hs]
      rw [hs] at h54
      rw [hst]
      simp [-getElem?_pos, List.getElem?_cons_zero, evl23_1, b23_1, intBin, hx, hc, hch, hw, s, h54]
    | false =>
      have hst : stepC l.l i c ch = .inl () := by unfold stepC; rw [if_neg (fun h => h.1 s), if_neg (by rw [hs]; decide)]
      rw [hs] at h54
      rw [hst]
      simp [-getElem?_pos, List.getElem?_cons_zero, evl23_1, b23_1, intBin, hx, hc, hch, hw, hww, s, h54]
  · by_cases a : ch.sub ≤ i
    · have hst : stepC l.l i c ch = .inr 2 := by unfold stepC; rw [if_pos ⟨s, .inl a⟩]
      rw [hst]
      simp [-getElem?_pos, List.getElem?_cons_zero, evl23_1, b23_1, intBin, hx, hc, hch, hw, s, a]
    · by_cases b : (l.l.length : Int) ≤ ch.sub
      · have hst : stepC l.l i c ch = .inr 2 := by unfold stepC; rw [if_pos ⟨s, .inr b⟩]
        rw [hst]
        simp [-getElem?_pos, List.getElem?_cons_zero, evl23_1, b23_1, intBin, hx, hc, hch, hw, s, a, b]
      · have hn : ¬ (ch.sub ≠ -1 ∧ (ch.sub ≤ i ∨ (l.l.length : Int) ≤ ch.sub)) := fun h => h.2.elim a b
        cases hs : (seen l.l i c).any (sameC ch) with
        | true =>
          have hst : stepC l.l i c ch = .inr 6 := by unfold stepC; rw [if_neg hn, if_pos hs]
          rw [hs] at h54
          rw [hst]
          simp [-getElem?_pos, List.getElem?_cons_zero, evl23_1, b23_1, intBin, hx, hc, hch, hw, s, a, b, h54]
        | false =>
          have hst : stepC l.l i c ch = .inl () := by unfold stepC; rw [if_neg hn, if_neg (by rw [hs]; decide)]
          rw [hs] at h54
          rw [hst]
          simp [-getElem?_pos, List.getElem?_cons_zero, evl23_1, b23_1, intBin, hx, hc, hch, hw, s, a, b, h54]
theorem turn23_2 {l : Sl Spec} (ht : ∀ x ∈ l.l, x.children.l.length ≤ 1000) (hl : l.l.length ≤ 8) (i : Nat) (x : Spec) (hi : i < l.l.length) (hx : l.l[i]? = some x) (H : Heap) :
    okC (evC W l23_2 [(0, specs l), (3, I (workersN (seen l.l i 0))), (4, I i)] H)
      (TurnOk (fun (_ : Unit) F' H' => F'.keep [0, 3, 4] = [(0, specs l), (3, I (workersN (seen l.l (i + 1) 0))), (4, I ((i + 1 : Nat) : Int))]) (fun e y F G => y = .ret ∧ F.get 2 = I e) (stepX l.l i x)) := by
  have hw := wrap_succ (k := i) (by omega)
  have h53 := e32 x
  have hkid := kids_of hx
  unfold stepX
  by_cases h0 : chk x = 0
  · rw [h0] at h53
    rw [if_pos h0]
    have hL := loop_all (Φ := Φ) (live := [0, 3, 4, 6]) (L := l23_1) x.children.l (fun c ch _ => stepC l.l i c ch)
      (fun c _ F G => F = [(0, specs l), (3, I (workersN (seen l.l i c))), (4, I i), (6, I c)])
      (fun e y F G => y = .ret ∧ F.get 2 = I e) (fun _ y F G => y = .exit 2 ∧ F.keep [0, 3, 4] = [(0, specs l), (3, I (workersN (seen l.l (i + 1) 0))), (4, I i)]) (s := ()) (F := [(0, specs l), (3, I (workersN (seen l.l i 0))), (4, I i), (6, I 0)]) (H := H) rfl ?_ ?_
    · cases hf : foldE (fun c ch (_ : Unit) => stepC l.l i c ch) 0 x.children.l () with
      | inl u =>
        rw [hf] at hL
        obtain ⟨y, F', H', e1, rfl, e2⟩ := okC_iff.1 hL
        simp only [keep_cons, keep_nil, List.cons.injEq, Prod.mk.injEq, true_and, and_true] at e2
        obtain ⟨f0, f3, f4⟩ := e2
        simp [-getElem?_pos, List.getElem?_cons_zero, evl23_2, b23_2, intBin, hi, hx, hw, h53, e1, f0, f3, f4]
      | inr e =>
        rw [hf] at hL
        obtain ⟨y, F', H', e1, rfl, e2⟩ := okC_iff.1 hL
        simp [-getElem?_pos, List.getElem?_cons_zero, evl23_2, b23_2, intBin, hi, hx, hw, h53, e1, e2]
    · rintro c ch ⟨⟩ F G hc hch rfl
      exact turn23_1 ht hl i x hx c ch hc hch G
    · rintro ⟨⟩ F G rfl
      have : seen l.l i x.children.l.length = seen l.l (i + 1) 0 := by rw [← hkid]; exact seen_next _ _
      rw [this]
      simp [-getElem?_pos, List.getElem?_cons_zero, evl23_1, b23_1, intBin, hx]
  · rw [if_neg h0]
    simp [-getElem?_pos, List.getElem?_cons_zero, evl23_2, b23_2, intBin, hi, hx, hw, h53, h0]
theorem t23 (l : Sl Spec) (ht : ∀ x ∈ l.l, x.children.l.length ≤ 1000) (hll : l.l.length ≤ 1000000) : W.pure 23 [specs l] = some (I (chkT l.l)) := by
  rw [W_pure Φ23 (by simp)]
  by_cases h0 : l.l.length = 0
  · have : chkT l.l = 23 := by unfold chkT; rw [if_pos h0]
    rw [this]
    have h0' : l.l = [] := by simpa using h0
    simp [fi23, c23, evFun, enterFr, intBin, resV, rvVs, rvV, h0']
  · have h0' : ¬ l.l = [] := by simpa using h0
    by_cases h8 : 8 < l.l.length
    · have : chkT l.l = 4 := by unfold chkT; rw [if_neg h0, if_pos h8]
      rw [this]
      have h8' : 8 < (l.l.length : Int) := by omega
      simp [fi23, c23, evFun, enterFr, intBin, resV, rvVs, rvV, h0', h8, h8']
    · have h8' : ¬ 8 < (l.l.length : Int) := by omega
      have hL := loop_all (Φ := Φ) (live := [0, 3, 4]) (L := l23_2) l.l (fun i x _ => stepX l.l i x)
        (fun i _ F G => F = [(0, specs l), (3, I (workersN (seen l.l i 0))), (4, I i)])
        (fun e y F G => y = .ret ∧ F.get 2 = I e) (fun _ y F G => y = .exit 0 ∧ F.keep [0, 3] = [(0, specs l), (3, I (workersN (seen l.l l.l.length 0)))]) (s := ()) (F := [(0, specs l), (3, I 0), (4, I 0)]) (H := []) rfl ?_ ?_
      · unfold chkT
        rw [if_neg h0, if_neg h8]
        cases hf : foldE (fun i x (_ : Unit) => stepX l.l i x) 0 l.l () with
        | inr e =>
          rw [hf] at hL
          obtain ⟨y, F', H', e1, rfl, e2⟩ := okC_iff.1 hL
          simp [fi23, c23, evFun, enterFr, intBin, resV, rvVs, rvV, h0', h8, h8', e1, e2]
        | inl u =>
          rw [hf] at hL
          obtain ⟨y, F', H', e1, rfl, e2⟩ := okC_iff.1 hL
          simp only [keep_cons, keep_nil, List.cons.injEq, Prod.mk.injEq, true_and, and_true] at e2
          obtain ⟨f0, f3⟩ := e2
          have hs : ∀ (i c : Nat) (ch : Child), i < l.l.length → (kids l.l i)[c]? = some ch → stepC l.l i c ch = .inl () := by
            intro i c ch hi hch
            have hx := List.getElem?_eq_getElem hi
            have := foldE_inl hf i _ hx
            unfold stepX at this
            split at this
            · rw [kids_of hx] at hch
              exact foldE_inl this c ch hch
            · cases this
          simp only
          by_cases a : 16 < workersN (seen l.l l.l.length 0)
          · rw [if_pos a]
            have a' : 16 < (workersN (seen l.l l.l.length 0) : Int) := by omega
            simp [fi23, c23, evFun, enterFr, intBin, resV, rvVs, rvV, h0', h8, h8', e1, f0, f3, a, a']
          · rw [if_neg a]
            have a' : ¬ 16 < (workersN (seen l.l l.l.length 0) : Int) := by omega
            have own : ∀ j : Nat, (∃ i c, SubAt l.l i c (j + 1) ∧ W.pure 55 [specs l, I ((j + 1 : Nat) : Int)] = some (.tuple [I i, I c])) ∨ ((∀ i c, ¬ SubAt l.l i c (j + 1)) ∧ W.pure 55 [specs l, I ((j + 1 : Nat) : Int)] = some (.tuple [I (-1), I 0])) := fun j => t55 ht (by omega) (j + 1)
            classical
            have hL2 := loop_all (Φ := Φ) (live := [0, 8]) (L := l23_0) (List.range (l.l.length - 1)) (fun j _ _ => if (∃ i c, SubAt l.l i c (j + 1)) then .inl () else (.inr () : Unit ⊕ Unit))
              (fun j _ F G => F = [(0, specs l), (8, I ((j + 1 : Nat) : Int))])
              (fun _ y F G => y = .ret ∧ F.get 2 = I 7) (fun _ y F G => y = .exit 4) (s := ()) (F := [(0, specs l), (8, I 1)]) (H := H') rfl ?_ ?_
            · rcases foldE_unit (fun j (_ : Nat) => if (∃ i c, SubAt l.l i c (j + 1)) then .inl () else (.inr () : Unit ⊕ Unit)) (List.range (l.l.length - 1)) 0 with ⟨g1, g2⟩ | ⟨j, q, r, g1, g2, g3, g4⟩
              · rw [g1] at hL2
                obtain ⟨y, F2, H2, w1, rfl⟩ := okC_iff.1 hL2
                have hsub := subsN_owner hs (fun k k1 k2 => by
                  have hk := g2 (k - 1) (k - 1) (List.getElem?_range (by omega))
                  by_cases hh : ∃ i c, SubAt l.l i c (0 + (k - 1) + 1)
                  · have : 0 + (k - 1) + 1 = k := by omega
                    rw [this] at hh; exact hh
                  · rw [if_neg hh] at hk; cases hk)
                rw [if_neg (fun h => h hsub)]
                simp [fi23, c23, evFun, enterFr, intBin, resV, rvVs, rvV, h0', h8, h8', e1, f0, f3, a, a', w1]
              · rw [g3] at hL2
                obtain ⟨y, F2, H2, w1, rfl, w2⟩ := okC_iff.1 hL2
                have hj := (List.getElem?_eq_some_iff.1 g1).1
                rw [List.length_range] at hj
                have hno : ¬ ∃ i c, SubAt l.l i c (0 + j + 1) := by
                  intro hh; rw [if_pos hh] at g2; cases g2
                have hne : subsN (seen l.l l.l.length 0) ≠ l.l.length - 1 := by
                  intro hsub
                  have htree : chkT l.l = 0 := by
                    unfold chkT
                    rw [if_neg h0, if_neg h8, hf]
                    simp only
                    rw [if_neg a, if_neg (fun h => h hsub)]
                  obtain ⟨i, c, h⟩ := (tree_of htree).parent (k := j + 1) (by omega)
                  exact hno ⟨i, c, by rw [Nat.zero_add]; exact h⟩
                rw [if_pos hne]
                simp [fi23, c23, evFun, enterFr, intBin, resV, rvVs, rvV, h0', h8, h8', e1, f0, f3, a, a', w1, w2]
            · rintro j q ⟨⟩ F G hj hq rfl
              rw [List.length_range] at hj
              have hw := wrap_succ (k := j + 1) (by omega)
              have hlt : ((j + 1 : Nat) : Int) < (l.l.length : Int) := by omega
              have hlt' : (j : Int) + 1 < (l.l.length : Int) := by omega
              have hee : ((j + 1 : Nat) : Int) = (j : Int) + 1 := by omega
              have hst1 := own j
              rw [hee] at hst1 hw
              rcases hst1 with ⟨i, c, hs1, hp⟩ | ⟨hs1, hp⟩
              · rw [if_pos ⟨i, c, hs1⟩]
                have hnn : ¬ (i : Int) < 0 := by omega
                simp [-getElem?_pos, List.getElem?_cons_zero, evl23_0, b23_0, intBin, hlt', hp, hnn, hw]
              · rw [if_neg (fun ⟨i, c, h⟩ => hs1 i c h)]
                simp [-getElem?_pos, List.getElem?_cons_zero, evl23_0, b23_0, intBin, hlt', hp]
            · rintro ⟨⟩ F G rfl
              have hnn : ¬ (((List.range (l.l.length - 1)).length + 1 : Nat) : Int) < (l.l.length : Int) := by rw [List.length_range]; omega
              have hnn' : ¬ ((l.l.length - 1 : Nat) : Int) + 1 < (l.l.length : Int) := by omega
              simp [-getElem?_pos, List.getElem?_cons_zero, evl23_0, b23_0, intBin, hnn']
      · rintro i x ⟨⟩ F G hi hx rfl
        exact turn23_2 ht (by omega) i x hi hx G
      · rintro ⟨⟩ F G rfl
        simp [evl23_2, b23_2, intBin]
end
end
section
open Go Go.RowKit
set_option linter.unusedVariables false
set_option linter.unusedSimpArgs false
set_option maxRecDepth 10000
set_option maxHeartbeats 2000000
section
attribute [local irreducible] okC okV
theorem t50 {l : Sl Spec} (ht : TreeOk l.l) : ∀ (d i : Nat), l.l.length - i ≤ d → i < l.l.length → ∃ r : Sl (Nat × Nat), W.pure 50 [specs l, I i] = some (Sl.av plA 2 r) ∧ r.l = order l.l d i := by
  intro d
  induction d with
  | zero => intro i h1 h2; omega
  | succ d ih =>
    intro i h1 h2
    have hol := order_len ht (d + 1) i h2
    obtain ⟨x, hx⟩ : ∃ x, l.l[i]? = some x := ⟨_, List.getElem?_eq_getElem h2⟩
    have hlen := chk_len (ht.ok i x hx)
    have hkid := kids_of hx
    rw [order_succ, hkid] at hol ⊢
    have hL := loop_fold (Φ := Φ) (live := [0, 1, 5, 6]) (L := l50_0) x.children.l (σ := List (Nat × Nat)) (fun c ch s => s ++ partW l.l d i (ch, c))
      (fun c s F G => ∃ o v, F = [(0, specs l), (1, I i), (5, v), (6, I c)] ∧ Grow G 2 o v (s.map plA) ∧ s = (x.children.l.take c).zipIdx.flatMap (partW l.l d i)) (fun s y F G => y = .exit 0 ∧ ∃ o, Grow G 2 o (F.get 5) (s.map plA) ∧ s = x.children.l.zipIdx.flatMap (partW l.l d i)) (s := []) (F := [(0, specs l), (1, I i), (5, .osl 0 0 0 0), (6, I 0)]) (H := [.arr 0 2 false []]) ⟨some 0, _, rfl, grow_mk (l := []) rfl, by simp⟩ ?_ ?_
    · obtain ⟨y, F', H', e1, rfl, o, e2, e3⟩ := okC_iff.1 hL
      rw [e3] at e2
      obtain ⟨r, f1, f2, f3⟩ := e2.slG (n := 7) (all_still plA_still _)
      refine ⟨r, ?_, f2⟩
      rw [W_pure Φ50 (by simp)]
      simp [fi50, c50, evFun, enterFr, intBin, resV, rvVs, rvV, hx, e1, e2.okO, e2.cells, f1]
    · rintro c ch s F G hc hch ⟨o, v, rfl, hg, hs⟩
      have hw := wrap_succ (k := c) (by omega)
      have hch' : (kids l.l i)[c]? = some ch := by rw [hkid]; exact hch
      have hs2 : s ++ partW l.l d i (ch, c) = (x.children.l.take (c + 1)).zipIdx.flatMap (partW l.l d i) := by
        rw [hs, take_zip _ _ _ hch, List.flatMap_append]; simp
      have hpre : (s ++ partW l.l d i (ch, c)).length ≤ 128 := by
        rw [hs2]
        exact Nat.le_trans (take_flat _ _ _).length_le hol
      rw [List.length_append] at hpre
      have hgo := hg.okO
      have hgc := hg.cells
      by_cases hsub : ch.sub < 0
      · have hs1 : ch.sub = -1 := by
          rcases ht.sub i c ch h2 hch' with h | h
          · exact h
          · omega
        have hp : partW l.l d i (ch, c) = [(i, c)] := by unfold partW; rw [if_pos hsub]
        rw [hp] at hs2 hpre ⊢
        obtain ⟨o', v', G', a1, a2, a3, a4⟩ := hg.app1 (plA (i, c)) (by simp [plA]) (by rw [List.length_map]; simp only [appRoom]; omega)
        have hg2 : Grow G' 2 o' v' ((s ++ [(i, c)]).map plA) := by rw [List.map_append]; exact a2
        have ha2o := a2.okO
        have ha2c := a2.cells
        simp only [plA] at a1
        simp [-getElem?_pos, List.getElem?_cons_zero, evl50_0, b50_0, intBin, hx, hc, hch, hw, hs1, hgo, hgc, a1, ha2o, ha2c]
        exact ⟨⟨o', by simpa using hg2⟩, hs2⟩
      · have hsub2 : (i : Int) < ch.sub ∧ ch.sub < l.l.length := by
          rcases ht.sub i c ch h2 hch' with h | h
          · omega
          · exact h
        have hne : ¬ ch.sub = -1 := by omega
        have hp : partW l.l d i (ch, c) = order l.l d ch.sub.toNat := by unfold partW; rw [if_neg hsub]
        rw [hp] at hs2 hpre ⊢
        obtain ⟨r, f1, f2⟩ := ih ch.sub.toNat (by omega) (by omega)
        have hcast : ((ch.sub.toNat : Nat) : Int) = ch.sub := by omega
        rw [hcast] at f1
        obtain ⟨o', v', G', a1, a2, a3, a4, a5⟩ := hg.app (y := Sl.av plA 2 r) (xs := r.l.map plA) sl_elems (by simp [plA]) (by rw [List.length_map, List.length_map, f2]; simp only [appRoom]; omega)
        rw [f2] at a2
        have hg2 : Grow G' 2 o' v' ((s ++ order l.l d ch.sub.toNat).map plA) := by rw [List.map_append]; exact a2
        have ha2o := a2.okO
        have ha2c := a2.cells
        simp [-getElem?_pos, List.getElem?_cons_zero, evl50_0, b50_0, intBin, hx, hc, hch, hw, hne, hgo, hgc, f1, a1, ha2o, ha2c]
        exact ⟨⟨o', by simpa using hg2⟩, hs2⟩
    · rintro s F G ⟨o, v, rfl, hg, hs⟩
      rw [List.take_length] at hs
      have hgo := hg.okO
      have hgc := hg.cells
      simp [evl50_0, b50_0, intBin, hx, hgo, hgc]
      exact ⟨⟨o, hg⟩, hs⟩
end
end
section
open Go Go.RowKit
set_option linter.unusedVariables false
set_option linter.unusedSimpArgs false
set_option maxRecDepth 10000
set_option maxHeartbeats 2000000
section
attribute [local irreducible] okC okV
theorem t24 (x y : Sl (List UInt8)) (h : x.l = y.l) (hl : x.l.length ≤ 1000000) : W.pure 24 [Sl.av AV.str 1 x, Sl.av AV.str 1 y] = some (.bool true) := by
  rw [W_pure Φ24 rfl]
  have hL := loop_fold (Φ := Φ) (live := [0, 1, 12, 13]) (L := l24_0) x.l (σ := Unit) (fun _ _ s => s) (fun k _ F H => F = [(0, Sl.av AV.str 1 x), (1, Sl.av AV.str 1 y), (12, I x.l.length), (13, I k)]) (fun _ y F H => y = .exit 0) (s := ()) (F := [(0, Sl.av AV.str 1 x), (1, Sl.av AV.str 1 y), (12, I x.l.length), (13, I 0)]) (H := []) rfl ?_ ?_
  · obtain ⟨x0, F', H', e1, rfl⟩ := okC_iff.1 hL
    simp [fi24, c24, evFun, enterFr, intBin, resV, rvVs, rvV, ← h, e1]
  · rintro k a ⟨⟩ F H hk ha rfl
    have hw := wrap_succ (k := k) (by omega)
    have ha' : y.l[k]? = some a := by rw [← h]; exact ha
    have hk' : k < y.l.length := by rw [← h]; exact hk
    simp [-getElem?_pos, List.getElem?_cons_zero, evl24_0, b24_0, intBin, hk, hk', ha, ha', hw, strBin]
  · rintro ⟨⟩ F H rfl
    simp [evl24_0, b24_0, intBin]
theorem t25 (x y : Sl State) (h : x.l.map State.core = y.l.map State.core) (hl : x.l.length ≤ 1000000) (hs : ∀ s ∈ x.l, s.children.l.length ≤ 1000000 ∧ s.restarts.l.length ≤ 1000000) : W.pure 25 [Sl.av State.av 4 x, Sl.av State.av 4 y] = some (.bool true) := by
  rw [W_pure Φ25 rfl]
  have hxy : x.l.length = y.l.length := by have := congrArg List.length h; simpa using this
  have hL := loop_fold (Φ := Φ) (live := [0, 1, 5]) (L := l25_0) x.l (σ := Unit) (fun _ _ s => s) (fun k _ F H => F = [(0, Sl.av State.av 4 x), (1, Sl.av State.av 4 y), (5, I k)]) (fun _ y F H => y = .exit 0) (s := ()) (F := [(0, Sl.av State.av 4 x), (1, Sl.av State.av 4 y), (5, I 0)]) (H := []) rfl ?_ ?_
  · obtain ⟨x0, F', H', e1, rfl⟩ := okC_iff.1 hL
    simp [fi25, c25, evFun, enterFr, intBin, resV, rvVs, rvV, hxy, e1]
  · rintro k a ⟨⟩ F H hk ha rfl
    have hw := wrap_succ (k := k) (by omega)
    have hk' : k < y.l.length := by omega
    obtain ⟨b, hb⟩ : ∃ b, y.l[k]? = some b := ⟨_, List.getElem?_eq_getElem hk'⟩
    have hab : a.core = b.core := by
      have := congrArg (fun z => z[k]?) h
      simpa [List.getElem?_map, ha, hb, -getElem?_pos] using this
    have h17 := e17 a b (hs a (List.mem_of_getElem? ha)).1 (hs a (List.mem_of_getElem? ha)).2
    rw [core_same hab] at h17
    simp [-getElem?_pos, List.getElem?_cons_zero, evl25_0, b25_0, intBin, hk, hk', ha, hb, hw, h17]
  · rintro ⟨⟩ F H rfl
    simp [evl25_0, b25_0, intBin]
theorem t20 {l : Sl Spec} (hc : chkT l.l = 0) : ∃ r : Sl (List UInt8), W.pure 20 [specs l] = some (.tuple [Sl.av AV.str 1 r, I 0]) ∧ r.l = (ordT l.l).map (nameAt l.l) := by
  have ht := tree_of hc
  have h0 : (0 : Nat) < l.l.length := by have := ht.len.1; omega
  have hlen := order_len ht l.l.length 0 h0
  have hmem := order_mem ht l.l.length 0 h0
  have h23 := t23 l (fun x hx => by
    obtain ⟨i, hi⟩ := List.getElem?_of_mem hx
    have := chk_len (ht.ok i x hi); omega) (by have := ht.len.2; omega)
  rw [hc] at h23
  obtain ⟨r, h50, hr⟩ := t50 ht l.l.length 0 (by omega) h0
  rw [← hr] at hlen hmem
  have hL := loop_fold (Φ := Φ) (live := [0, 4, 5, 6]) (L := l20_0) r.l (σ := List (List UInt8)) (fun _ p s => s ++ [nameAt l.l p])
    (fun k s F G => ∃ o v, F = [(0, specs l), (4, v), (5, Sl.av plA 2 r), (6, I k)] ∧ Grow G 1 o v (s.map AV.str) ∧ s = (r.l.take k).map (nameAt l.l)) (fun s y F G => y = .exit 0 ∧ ∃ o, Grow G 1 o (F.get 4) (s.map AV.str) ∧ s = r.l.map (nameAt l.l)) (s := []) (F := [(0, specs l), (4, .osl 0 0 0 0), (5, Sl.av plA 2 r), (6, I 0)]) (H := [.arr 0 1 false []]) ⟨some 0, _, rfl, grow_mk (l := []) rfl, by simp⟩ ?_ ?_
  · obtain ⟨y, F', H', e1, rfl, o, e2, e3⟩ := okC_iff.1 hL
    rw [e3] at e2
    obtain ⟨rr, f1, f2, f3⟩ := e2.slG (n := 6) (all_still (fun s => by simp) _)
    refine ⟨rr, ?_, by rw [f2, hr]; rfl⟩
    simp only [Int.natCast_zero] at h50
    rw [W_pure Φ20 (by simp)]
    simp [fi20, c20, evFun, enterFr, intBin, resV, rvVs, rvV, h23, h50, e1, e2.okO, e2.cells, f1]
  · rintro k p s F G hk hp ⟨o, v, rfl, hg, hs⟩
    obtain ⟨i, c⟩ := p
    have hw := wrap_succ (k := k) (by omega)
    obtain ⟨hi, ch, hch, _⟩ := (hmem _ (List.mem_of_getElem? hp)).1
    have hx := List.getElem?_eq_getElem hi
    have hkid := kids_of hx
    have hnm : nameAt l.l (i, c) = ch.name := by unfold nameAt; simp only; rw [List.getD_eq_getElem?_getD, hch]; rfl
    rw [hkid] at hch
    have hgo := hg.okO
    have hgc := hg.cells
    have hsl : s.length = k := by rw [hs, List.length_map, List.length_take]; omega
    obtain ⟨o', v', G', a1, a2, a3, a4⟩ := hg.app1 (.str ch.name) (by simp) (by rw [List.length_map]; simp only [appRoom]; omega)
    have hg2 : Grow G' 1 o' v' ((s ++ [nameAt l.l (i, c)]).map AV.str) := by rw [List.map_append, hnm]; exact a2
    have ha2o := a2.okO
    have ha2c := a2.cells
    have hs2 : s ++ [nameAt l.l (i, c)] = (r.l.take (k + 1)).map (nameAt l.l) := by rw [List.take_add_one, hp, List.map_append, hs]; rfl
    simp [-getElem?_pos, List.getElem?_cons_zero, evl20_0, b20_0, intBin, hk, hp, hx, hch, hw, hgo, hgc, plA, a1, ha2o, ha2c]
    exact ⟨⟨o', by simpa using hg2⟩, by rw [hs2, List.map_take]⟩
  · rintro s F G ⟨o, v, rfl, hg, hs⟩
    rw [List.take_length] at hs
    have hgo := hg.okO
    have hgc := hg.cells
    simp [evl20_0, b20_0, intBin, hgo, hgc]
    exact ⟨⟨o, hg⟩, hs⟩
theorem t20n {l : Sl Spec} (hn : ∀ x ∈ l.l, x.children.l.length ≤ 1000) (hl : l.l.length ≤ 1000000) (hc : chkT l.l ≠ 0) : W.pure 20 [specs l] = some (.tuple [.isl (some false) 1 [], I 1]) := by
  have h23 := t23 l hn hl
  rw [W_pure Φ20 (by simp)]
  have hf : frz [.arr 0 1 false []] 7 (.osl 0 0 0 0) = some (.isl (some false) 1 []) := rfl
  simp [fi20, c20, evFun, enterFr, intBin, resV, rvVs, rvV, h23, hc, hf]
end
end
section
open Go Go.RowKit
set_option linter.unusedVariables false
set_option linter.unusedSimpArgs false
set_option maxRecDepth 10000
set_option maxHeartbeats 4000000

theorem timed_start (n : Nat) : timed 0 (startL n) = startL n := by
  induction n with
  | zero => rfl
  | succ n ih =>
    rw [startL, timed, List.map_append]
    rw [timed] at ih
    rw [ih]; rfl
theorem t73 {l : Sl Spec} (ht : TreeOk l.l) (cs : List AV) (i : Nat) (c : Int) : W.pure 73 [.eptr (specs l :: cs), I i, I c] = some (I (numW (ordT l.l) (i, c))) := by
  have h0 : (0 : Nat) < l.l.length := by have := ht.len.1; omega
  obtain ⟨r, h50, hr⟩ := t50 ht l.l.length 0 (by omega) h0
  have hrl : r.l.length ≤ 1000 := by rw [hr]; have := order_len ht l.l.length 0 h0; omega
  simp only [Int.natCast_zero] at h50
  rw [W_pure Φ73 (by rfl)]
  have hL := loop_all (Φ := Φ) (live := [1, 2, 7, 8]) (L := l73_0) r.l (fun k q _ => if decide (q.1 = i) && decide ((q.2 : Int) = c) then (.inr (k : Int) : Unit ⊕ Int) else .inl ())
    (fun k _ F G => F = [(1, I i), (2, I c), (7, Sl.av plA 2 r), (8, I k)])
    (fun k y F G => y = .ret ∧ F.get 6 = I k) (fun _ y F G => y = .exit 0) (s := ()) (F := [(1, I i), (2, I c), (7, Sl.av plA 2 r), (8, I 0)]) (H := []) rfl ?_ ?_
  · have ho : ordT l.l = r.l := hr.symm
    rw [ho]
    unfold numW idxP
    cases hf : foldE (fun k (q : Nat × Nat) (_ : Unit) => if decide (q.1 = i) && decide ((q.2 : Int) = c) then (.inr (k : Int) : Unit ⊕ Int) else .inl ()) 0 r.l () with
    | inl u =>
      rw [hf] at hL
      obtain ⟨y, F', H', e1, rfl⟩ := okC_iff.1 hL
      simp [fi73, c73, evFun, enterFr, intBin, resV, rvVs, rvV, h50, e1, hf]
    | inr k =>
      rw [hf] at hL
      obtain ⟨y, F', H', e1, rfl, e2⟩ := okC_iff.1 hL
      simp [fi73, c73, evFun, enterFr, intBin, resV, rvVs, rvV, h50, e1, e2, hf]
  · rintro k q ⟨⟩ F G hk hq rfl
    have hw := wrap_succ (k := k) (by omega)
    have hqa : plA q = .agg [I q.1, I q.2] := rfl
    have hkq : r.l[k] = q := (List.getElem?_eq_some_iff.1 hq).2
    by_cases h1 : q.1 = i
    · subst h1
      by_cases h2 : (q.2 : Int) = c
      · subst h2
        simp [evl73_0, b73_0, intBin, hk, hkq, hw, hqa]
      · simp [evl73_0, b73_0, intBin, hk, hkq, hw, hqa, h2]
    · have h1' : ¬ (q.1 : Int) = (i : Int) := by omega
      simp [evl73_0, b73_0, intBin, hk, hkq, hw, hqa, h1, h1']
  · rintro ⟨⟩ F G rfl
    simp [evl73_0, b73_0, intBin]
/-- The reference's New of a supervisor. -/
theorem t51 {x : Spec} (h0 : chk x = 0) : ∃ (st : State) (a : Sl Event), W.pure 51 [x.av] = some (.tuple [st.av, Sl.av Event.av 4 a, I 0]) ∧ st.core = (startS x).core ∧ KnownS st ∧ a.l = startL x.children.l.length := by
  have hlen := chk_len h0
  obtain ⟨v, G, c0, hN, _⟩ := okV_iff.1 (pure30 x)
  unfold NewOk at hN
  rw [if_pos h0] at hN
  obtain ⟨cv, ev, o1, o2, rfl, c1, c2, c3⟩ := hN
  obtain ⟨c, f1, f2, f3⟩ := c1.slG (n := 5) (all_still (fun x => by simp) _)
  obtain ⟨a, g1, g2, g3⟩ := c2.slG (n := 6) (all_still (fun x => by simp) _)
  refine ⟨⟨1, c, slNil, false⟩, a, ?_, ?_, ⟨f3, .inl ⟨rfl, rfl⟩⟩, g2⟩
  · rw [W_pure Φ51 (by simp), c0]
    simp only [Option.bind_some, frz_tuple, frzs_cons, frzs_nil, frz_agg, frz_int, frz_bool, frz_isl, f1, g1, consO_some, Option.map_some]
    rfl
  · simp only [State.core, f2]; rfl

def refT (l : Sl Spec) (S vS : Nat) (av : AV) : AV := .agg [specs l, .osl S vS 0 l.l.length, av, .isl (some true) 0 []]
structure RefM (l : Sl Spec) (p S vS : Nat) (oA : Option Nat) (t : Tree) (H : Heap) : Prop where
  blk : ∃ av, H[p]? = some (.arr 0 4 false [refT l S vS av]) ∧ Grow H 4 oA av (t.out.map Event.av)
  sup : ∃ ss : List State, H[S]? = some (.arr vS 4 false (ss.map State.av)) ∧ ss.map State.core = t.ss.map State.core ∧ ∀ s ∈ ss, KnownS s
  len : t.ss.length = l.l.length
  ne : p ≠ S ∧ oA ≠ some p ∧ oA ≠ some S
section refm
variable {l : Sl Spec} {p S vS : Nat} {oA : Option Nat} {t : Tree} {H : Heap}
theorem RefM.kept (h : RefM l p S vS oA t H) {G : Heap} (hk : Kept none H G) : RefM l p S vS oA t G := by
  obtain ⟨⟨av, e1, e2⟩, ⟨ss, s1, s2, s3⟩, h3, h4⟩ := h
  exact ⟨⟨av, hk.get (by simp) e1, e2.kept hk (by simp)⟩, ⟨ss, hk.get (by simp) s1, s2, s3⟩, h3, h4⟩
theorem RefM.box (h : RefM l p S vS oA t H) (B : Blk) : RefM l p S vS oA t (H ++ [B]) := h.kept (Kept.append none H [B])
theorem RefM.setS (h : RefM l p S vS oA t H) : ∃ ss : List State, H[S]? = some (.arr vS 4 false (ss.map State.av)) ∧ ss.length = l.l.length ∧ ∀ (k : Nat) (s s' : State), s'.core = s.core → KnownS s' →
    RefM l p S vS oA { t with ss := t.ss.set k s } (H.set S (.arr vS 4 false ((ss.map State.av).set k s'.av))) := by
  obtain ⟨⟨av, e1, e2⟩, ⟨ss, s1, s2, s3⟩, h3, n1, n2, n3⟩ := h
  refine ⟨ss, s1, by have := congrArg List.length s2; simp at this; omega, fun k s s' hc hk => ?_⟩
  have hk' : Kept (some S) H (H.set S (.arr vS 4 false ((ss.map State.av).set k s'.av))) := Kept.set _ _ _
  refine ⟨⟨av, hk'.get (fun e => n1 (by cases e; rfl)) e1, e2.kept hk' (fun id hid e => n3 (by rw [e, hid]))⟩, ⟨ss.set k s', ?_, ?_, fun x hx => ?_⟩, by simpa using h3, n1, n2, n3⟩
  · rw [List.getElem?_set_self (List.getElem?_eq_some_iff.1 s1).1, List.map_set]
  · simp only [List.map_set, s2, hc]
  · rcases List.mem_or_eq_of_mem_set hx with h1 | rfl
    · exact s3 x h1
    · exact hk
theorem RefM.emit (h : RefM l p S vS oA t H) (a : Event) (hl : t.out.length ≤ 1000000) :
    ∃ av av' G2 oA', H[p]? = some (.arr 0 4 false [refT l S vS av]) ∧ okO av = some av ∧ av.cells = [av] ∧ ex H (.app 4) [av, .isl (some false) 4 [a.av]] = some (av', G2) ∧ okO av' = some av' ∧ av'.cells = [av'] ∧ av'.cell = true ∧ G2[p]? = some (.arr 0 4 false [refT l S vS av]) ∧
      RefM l p S vS oA' { t with out := t.out ++ [a] } (G2.set p (.arr 0 4 false [refT l S vS av'])) := by
  obtain ⟨⟨av, e1, e2⟩, ⟨ss, s1, s2, s3⟩, h3, n1, n2, n3⟩ := h
  obtain ⟨oA', av', G2, a1, a2, a3, a4⟩ := e2.app1 a.av (by simp) (by simp [appRoom]; omega)
  have hpl := (List.getElem?_eq_some_iff.1 e1).1
  have hSl := (List.getElem?_eq_some_iff.1 s1).1
  have m2 : oA' ≠ some p := fun e => by rcases a4 p e with h | ⟨_, h⟩; exact n2 h; omega
  have m3 : oA' ≠ some S := fun e => by rcases a4 S e with h | ⟨_, h⟩; exact n3 h; omega
  have hk : Kept (some p) G2 (G2.set p (.arr 0 4 false [refT l S vS av'])) := Kept.set _ _ _
  refine ⟨av, av', G2, oA', e1, e2.okO, e2.cells, a1, a2.okO, a2.cells, a2.cell, a3.get n2 e1, ⟨av', List.getElem?_set_self (by have := a3.1; omega), ?_⟩, ⟨ss, hk.get (fun e => n1 (by cases e; rfl)) (a3.get n3 s1), s2, s3⟩, h3, n1, m2, m3⟩
  rw [List.map_append]
  exact a2.kept hk (fun id hid e => m2 (by rw [e, hid]))
theorem frz_sup {ss : List State} (n : Nat) (hs : H[S]? = some (.arr vS 4 false (ss.map State.av))) (hl : ss.length = l.l.length) : Go.Proofs.Ytjknjapdcphcfaa.frz H (n + 1) (.osl S vS 0 l.l.length) = some (Sl.av State.av 4 (ofL 4 ss)) := by
  have ht : ((ss.map State.av).drop 0).take l.l.length = ss.map State.av := by rw [List.drop_zero, List.take_of_length_le (by simp; omega)]
  simp only [Go.Proofs.Ytjknjapdcphcfaa.frz, hs]
  rw [if_pos ⟨trivial, by simp; omega⟩, ht, if_pos (all_still (fun x => by simp) ss), ← isl_sl]
theorem RefM.frz (h : RefM l p S vS oA t H) : ∃ cs, Go.Proofs.Ytjknjapdcphcfaa.frz H 8 (.optr p 0 0 0) = some (.eptr (specs l :: cs)) := by
  obtain ⟨⟨av, e1, e2⟩, ⟨ss, s1, s2, s3⟩, h3, _⟩ := h
  have hl : ss.length = l.l.length := by have := congrArg List.length s2; simp at this; omega
  have f1 := frz_sup (l := l) 6 s1 hl
  obtain ⟨a, g1, _⟩ := e2.slG (n := 6) (all_still (fun x => by simp) _)
  refine ⟨[Sl.av State.av 4 (ofL 4 ss), Sl.av Event.av 4 a, .isl (some true) 0 []], ?_⟩
  have f0 : Go.Proofs.Ytjknjapdcphcfaa.frz H 7 (specs l) = some (specs l) := rfl
  rw [Go.Proofs.Ytjknjapdcphcfaa.frz]
  simp only [e1, refT]
  simp only [if_true, List.getElem?_cons_zero, cells_agg, frzs_cons, frzs_nil, f0, f1, g1, frz_isl, consO_some, Option.map_some, List.drop_zero]
end refm
end
section
open Go Go.RowKit
set_option linter.unusedVariables false
set_option linter.unusedSimpArgs false
set_option maxRecDepth 10000
set_option maxHeartbeats 4000000

theorem sup_set {ss : List State} {k : Nat} {s : State} (hk : k < ss.length) : setElem (ss.map State.av) k 0 s.av = some ((ss.map State.av).set k s.av) := by
  obtain ⟨x, hx⟩ : ∃ x, ss[k]? = some x := ⟨_, List.getElem?_eq_getElem hk⟩
  exact setAgg (cs := [I x.status, Sl.av ChildState.av 2 x.children, Sl.ints x.restarts, .bool x.failed]) (by rw [List.getElem?_map, hx]; rfl) rfl rfl
theorem perfR {l : Sl Spec} (ht : TreeOk l.l) : ∀ (d i : Nat) (acts : Sl Event) (t : Tree) (p S vS : Nat) (oA : Option Nat) (H : Heap), l.l.length - i ≤ d → i < l.l.length → RefM l p S vS oA t H → acts.l = startL (kids l.l i).length → (perf l.l (ordT l.l) (up l.l) d i (startL (kids l.l i).length) t).out.length ≤ 1000000 →
    okV (W.call (.clo 52 [] []) [.optr p 0 0 0, I i, Sl.av Event.av 4 acts, I 0] H) (fun u G => u = .tuple [] ∧ ∃ oA', RefM l p S vS oA' (perf l.l (ordT l.l) (up l.l) d i (startL (kids l.l i).length) t) G) := by
  intro d
  induction d with
  | zero => intro i acts t p S vS oA H h1 h2; omega
  | succ d ih =>
    intro i acts t p S vS oA H h1 h2 h hacts ho
    rw [W_call Φ52]
    have hx := List.getElem?_eq_getElem h2
    generalize l.l[i] = x at hx
    have hkid := kids_of hx
    have hlen := chk_len (ht.ok i x hx)
    have hal : acts.l.length = x.children.l.length := by rw [hacts, startL_len, hkid]
    let f := doAct l.l (ordT l.l) (up l.l) (perf l.l (ordT l.l) (up l.l) d) i
    have hL := loop_fold (Φ := Φ) (live := [0, 1, 2, 3, 8]) (L := l52_0) acts.l (σ := Tree) (fun _ a s => f s a)
      (fun j s F G => F = [(0, .optr p 0 0 0), (1, I i), (2, Sl.av Event.av 4 acts), (3, I 0), (8, I j)] ∧ s = (acts.l.take j).foldl f t ∧ ∃ oA', RefM l p S vS oA' s G)
      (fun s y F G => y = .exit 0 ∧ s = acts.l.foldl f t ∧ ∃ oA', RefM l p S vS oA' s G) (s := t) (F := [(0, .optr p 0 0 0), (1, I i), (2, Sl.av Event.av 4 acts), (3, I 0), (8, I 0)]) (H := H) ⟨rfl, by simp, oA, h⟩ ?_ ?_
    · obtain ⟨y, F', G, e1, rfl, e2, oA', e3⟩ := okC_iff.1 hL
      rw [e2] at e3
      have : okV (evFun W fi52 [.optr p 0 0 0, I i, Sl.av Event.av 4 acts, I 0] H) (fun u G' => u = .tuple [] ∧ G' = G) := by
        simp [fi52, c52, evFun, enterFr, intBin, resV, rvVs, rvV, e1]
      obtain ⟨u, G', y1, rfl, rfl⟩ := okV_iff.1 this
      rw [List.nil_append, List.append_nil, y1]
      refine ⟨rfl, oA', ?_⟩
      rw [← hacts]; exact e3
    · rintro j a s F G hj ha ⟨rfl, hs, oA', g1⟩
      have hw := wrap_succ (k := j) (by omega)
      have hja : (acts.l.take (j + 1)).foldl f t = f s a := by rw [List.take_add_one, ha, List.foldl_append, ← hs]; rfl
      have hb1 : GrowT (f s a) (acts.l.foldl f t) := by rw [← hja]; exact fold_prefix f (fun t a => doAct_growT _ _ _ _ _ t a) acts.l (j + 1) t
      rw [← hacts] at ho
      have hob : (f s a).out.length ≤ 1000000 := Nat.le_trans hb1.1 ho
      have hos : s.out.length ≤ 1000000 := Nat.le_trans (doAct_growT l.l (ordT l.l) (up l.l) d i s a).1 hob
      have hjx : j < x.children.l.length := by omega
      have haj : a = ⟨3, j, 0, 0⟩ := by
        have := startL_at (kids l.l i).length j (by rw [hkid]; exact hjx)
        rw [← hacts, ha] at this
        cases this; rfl
      subst haj
      have hev : (⟨3, j, 0, 0⟩ : Event).av = .agg [I 3, I j, I 0, I 0] := rfl
      have m1 := g1.box (.arr 0 4 false [(⟨3, j, 0, 0⟩ : Event).av])
      obtain ⟨cs, hfz⟩ := m1.frz
      obtain ⟨av, e1, _⟩ := m1.blk
      simp only [refT, hev] at e1 hfz
      have fin : ∀ (s' : Tree) (G' : Heap) (oA2 : Option Nat), s' = f s ⟨3, j, 0, 0⟩ → RefM l p S vS oA2 s' G' → f s ⟨3, j, 0, 0⟩ = (acts.l.take (j + 1)).foldl f t ∧ ∃ oA3, RefM l p S vS oA3 (f s ⟨3, j, 0, 0⟩) G' := by
        intro s' G' oA2 hs' k1
        subst hs'
        exact ⟨hja.symm, oA2, k1⟩
      obtain ⟨ch, hc⟩ : ∃ ch, x.children.l[j]? = some ch := ⟨_, List.getElem?_eq_getElem hjx⟩
      have htn : ((j : Nat) : Int).toNat = j := by omega
      have hgd : (kids l.l i).getD j default = ch := by rw [hkid, List.getD_eq_getElem?_getD, hc]; rfl
      have hsub := ht.sub i j ch h2 (by rw [hkid]; exact hc)
      by_cases hneg : ch.sub < 0
      · have hs1 : ch.sub = -1 := by rcases hsub with h | h <;> omega
        have hfa : f s ⟨3, j, 0, 0⟩ = { s with out := s.out ++ [⟨3, numW (ordT l.l) (i, (j : Int)), 0, 0⟩] } := by
          show doAct _ _ _ _ _ _ _ = _
          unfold doAct
          rw [if_neg (by simp)]
          simp only [htn, hgd]
          rw [if_pos hneg]
        have c73 := t73 ht cs i (j : Int)
        obtain ⟨av2, av', G2, oA2, q1, q2, q3, q4, q5, q6, q7, q8, q9⟩ := m1.emit ⟨3, numW (ordT l.l) (i, (j : Int)), 0, 0⟩ hos
        have hev2 : (⟨3, numW (ordT l.l) (i, (j : Int)), 0, 0⟩ : Event).av = .agg [I 3, I (numW (ordT l.l) (i, (j : Int))), I 0, I 0] := rfl
        simp only [refT, hev, hev2] at q1 q4 q8 q9
        have := fin _ _ _ hfa.symm q9
        simp [-getElem?_pos, List.getElem?_cons_zero, app_last, sx11, evl52_0, b52_0, intBin, hj, hw, ha, hev, hx, hc, hs1, hfz, c73, AV.scal, AV.scal1, q1, q2, q3, q4, q5, q6, q7, q8]
        exact this
      · have hsub2 : (i : Int) < ch.sub ∧ ch.sub < l.l.length := by rcases hsub with h | h; omega; exact h
        have hne : ¬ ch.sub = -1 := by omega
        have hcast : ((ch.sub.toNat : Nat) : Int) = ch.sub := by omega
        have hk : ch.sub.toNat < l.l.length := by omega
        obtain ⟨x2, hx2⟩ : ∃ x2, l.l[ch.sub.toNat]? = some x2 := ⟨_, List.getElem?_eq_getElem hk⟩
        have hkid2 := kids_of hx2
        obtain ⟨st, a2, c51, c1, c2, c3⟩ := t51 (ht.ok _ x2 hx2)
        have hgx : l.l.getD ch.sub.toNat default = x2 := by rw [List.getD_eq_getElem?_getD, hx2]; rfl
        have hfa : f s ⟨3, j, 0, 0⟩ = perf l.l (ordT l.l) (up l.l) d ch.sub.toNat (startL (kids l.l ch.sub.toNat).length) { s with ss := s.ss.set ch.sub.toNat (startS x2) } := by
          show doAct _ _ _ _ _ _ _ = _
          unfold doAct
          rw [if_neg (by simp)]
          simp only [htn, hgd]
          rw [if_neg hneg, if_pos trivial]
          unfold doStart
          rw [timed_start, hgx]
        rw [hfa] at hob
        obtain ⟨ss, s1, s2, s3⟩ := (m1.box (.arr 0 4 false [st.av])).setS
        have m2 := s3 ch.sub.toNat (startS x2) st c1 c2
        obtain ⟨u, G2, z1, rfl, oA2, z2⟩ := okV_iff.1 (ih ch.sub.toNat a2 _ p S vS _ _ (by omega) hk m2 (by rw [c3, hkid2]) hob)
        have hset := sup_set (ss := ss) (k := ch.sub.toNat) (s := st) (by omega)
        have e1b : (G ++ [.arr 0 4 false [.agg [I 3, I j, I 0, I 0]]] ++ [.arr 0 4 false [st.av]])[p]? = some (.arr 0 4 false [.agg [specs l, .osl S vS 0 l.l.length, av, .isl (some true) 0 []]]) := app_get e1 _
        have e1c := e1b
        have this := fin _ _ _ hfa.symm z2
        simp only [hev] at s1 z1
        rw [hcast] at z1
        have hp0 : (0 : Int) ≤ ch.sub := by omega
        simp [-getElem?_pos, -List.append_assoc, List.getElem?_cons_zero, app_last, bx21, bx22, sx11, sx21, sx22, evl52_0, b52_0, intBin, hj, hw, ha, hev, hx, hc, hne, e1, e1b, hx2, c51, s1, hset, z1, hsub2.2, hp0]
        exact this
    · rintro s F G ⟨rfl, hs, oA', g1⟩
      rw [List.take_length] at hs
      simp [evl52_0, b52_0, intBin]
      exact ⟨hs, oA', g1⟩
end
section
open Go Go.RowKit
set_option linter.unusedVariables false
set_option linter.unusedSimpArgs false
set_option maxRecDepth 10000
set_option maxHeartbeats 4000000

theorem new_both {l : Sl Spec} (hn : NamesOk l.l) (hc : chkT l.l = 0) : (∀ s ∈ (newT l.l).ss, s.children.l.length ≤ 1000 ∧ s.restarts.l.length ≤ 1000) ∧ (newT l.l).ss.length = l.l.length := by
  have ht := tree_of hc
  have hlen := ht.len
  have h0 : 0 < l.l.length := by omega
  obtain ⟨pl, h38, hpl⟩ := t38 ht
  have hf := TreeM.first (l := l) (pl := pl) (t := newT l.l) (ss := List.replicate l.l.length zeroState) (svs := List.replicate l.l.length zeroState.av) (vS := 0) (by simp) (by simp) (fun k sv s a b => by
    have ha := List.eq_of_mem_replicate (List.mem_of_getElem? a)
    have hb := List.eq_of_mem_replicate (List.mem_of_getElem? b)
    subst ha hb
    exact StV.of rfl known_zero.1 known_zero.2) (fun s hs => by rw [List.eq_of_mem_replicate hs]; simp)
  obtain ⟨no, nq⟩ := new_out ht
  have hol := order_len ht l.l.length 0 h0
  obtain ⟨u, G, z1, rfl, oA, oQ, z2, z3⟩ := okV_iff.1 (t39 ht hn (perf_ok ht hn hpl l.l.length) (k := 0) h0 (by omega) 0 hf (by
    show (newT l.l).out.length ≤ _
    rw [no, List.length_map]; simp only [ordT]; omega) (by
    show (newT l.l).q.length ≤ _
    rw [nq]; simp))
  change TreeM l pl 1 0 0 oA oQ (newT l.l) G at z2
  exact ⟨z2.small, z2.len⟩
theorem new_small {l : Sl Spec} (hn : NamesOk l.l) (hc : chkT l.l = 0) : ∀ s ∈ (newT l.l).ss, s.children.l.length ≤ 1000 ∧ s.restarts.l.length ≤ 1000 := (new_both hn hc).1
theorem new_len {l : Sl Spec} (hn : NamesOk l.l) (hc : chkT l.l = 0) : (newT l.l).ss.length = l.l.length := (new_both hn hc).2
theorem t23a {l : Sl Spec} (hc : chkT l.l = 0) : W.pure 23 [specs l] = some (I 0) := by
  have ht := tree_of hc
  have h23 := t23 l (fun x hx => by
    obtain ⟨i, hi⟩ := List.getElem?_of_mem hx
    have := chk_len (ht.ok i x hi); omega) (by have := ht.len.2; omega)
  rw [hc] at h23; exact h23
theorem t21 {l : Sl Spec} (hc : chkT l.l = 0) : ∃ (ss : Sl State) (a : Sl Event), W.pure 21 [specs l] = some (.tuple [Sl.av State.av 4 ss, Sl.av Event.av 4 a, I 0]) ∧ ss.l.map State.core = (newT l.l).ss.map State.core ∧ a.l = (newT l.l).out := by
  have ht := tree_of hc
  have hlen := ht.len
  have h0 : 0 < l.l.length := by omega
  have h23 := t23a hc
  obtain ⟨x, hx⟩ : ∃ x, l.l[0]? = some x := ⟨_, List.getElem?_eq_getElem h0⟩
  have hkid := kids_of hx
  obtain ⟨st, a2, c51, c1, c2, c3⟩ := t51 (ht.ok _ x hx)
  have hz : (.agg [I 0, .isl (some true) 0 [], .isl (some true) 0 [], .bool false] : AV) = zeroState.av := rfl
  have hf : RefM l 1 0 0 none ⟨List.replicate l.l.length zeroState, [], []⟩ [.arr 0 4 false ((List.replicate l.l.length zeroState).map State.av), .arr 0 4 false [refT l 0 0 (.isl (some true) 0 [])]] :=
    ⟨⟨_, rfl, grow_nil _ _⟩, ⟨List.replicate l.l.length zeroState, rfl, rfl, fun s hs => by rw [List.eq_of_mem_replicate hs]; exact known_zero⟩, by simp, by decide, by simp, by simp⟩
  obtain ⟨ss, s1, s2, s3⟩ := (hf.box (.arr 0 4 false [st.av])).setS
  have hss : ss.map State.av = (List.replicate l.l.length zeroState).map State.av := by
    have : (Blk.arr 0 4 false ((List.replicate l.l.length zeroState).map State.av)) = .arr 0 4 false (ss.map State.av) := Option.some.inj s1
    simp only [Blk.arr.injEq, true_and] at this
    exact this.symm
  have m2 := s3 0 (startS x) st c1 c2
  have hgx : l.l.getD 0 default = x := by rw [List.getD_eq_getElem?_getD, hx]; rfl
  have hnew : newT l.l = perf l.l (ordT l.l) (up l.l) l.l.length 0 (startL (kids l.l 0).length) ⟨(List.replicate l.l.length zeroState).set 0 (startS x), [], []⟩ := by
    unfold newT doStart perfA
    rw [timed_start, hgx]
  obtain ⟨no, nq⟩ := new_out ht
  have hol := order_len ht l.l.length 0 h0
  obtain ⟨u, G, z1, rfl, oA, z2⟩ := okV_iff.1 (perfR ht l.l.length 0 a2 _ 1 0 0 _ _ (by omega) h0 m2 (by rw [c3, hkid]) (by
    rw [← hnew, no, List.length_map]; simp only [ordT]; omega))
  rw [← hnew] at z2
  obtain ⟨⟨av, e1, e2⟩, ⟨ss', q1, q2, q3⟩, q4, _⟩ := z2
  have hl' : ss'.length = l.l.length := by have := congrArg List.length q2; simp at this; omega
  have f1 := frz_sup (l := l) 6 q1 hl'
  obtain ⟨a, g1, g2, g3⟩ := e2.slG (n := 6) (all_still (fun x => by simp) _)
  refine ⟨ofL 4 ss', a, ?_, q2, g2⟩
  have hset : setElem (List.replicate l.l.length zeroState.av) 0 0 st.av = some ((List.replicate l.l.length zeroState.av).set 0 st.av) := by
    have := sup_set (ss := ss) (k := 0) (s := st) (by omega)
    rw [hss, List.map_replicate] at this
    exact this
  rw [hss, List.map_replicate] at z1
  rw [W_pure Φ21 (by simp)]
  have hw : (l.l.length : Int) ≤ 1048576 := by omega
  simp only [refT, Int.natCast_zero, List.map_replicate, List.cons_append, List.nil_append, List.set_cons_zero] at z1 e1
  simp [-getElem?_pos, List.getElem?_cons_zero, fi21, c21, evFun, enterFr, intBin, resV, rvVs, rvV, h23, hw, hz, hx, h0, c51, hset, z1, e1, e2.okO, e2.cells, f1, g1]
theorem t21n {l : Sl Spec} (hn : ∀ x ∈ l.l, x.children.l.length ≤ 1000) (hl : l.l.length ≤ 1000000) (hc : chkT l.l ≠ 0) : W.pure 21 [specs l] = some (.tuple [.isl (some false) 4 [], .isl (some false) 4 [], I 1]) := by
  have h23 := t23 l hn hl
  rw [W_pure Φ21 (by simp)]
  simp [fi21, c21, evFun, enterFr, intBin, resV, rvVs, rvV, h23, hc]
theorem t18a (l : Sl Spec) : W.pure 18 [specs l, .isl (some true) 0 []] = some (.bool (greatT l.l)) := by
  by_cases h10 : 10 < l.l.length
  · have h10' : 10 < (l.l.length : Int) := by omega
    rw [W_pure Φ18 (by simp)]
    unfold greatT
    simp [fi18, c18, evFun, enterFr, intBin, resV, rvVs, rvV, h10, h10']
  · exact t18 l (by omega)
theorem great_kids {l : List Spec} (h : greatT l = false) : ∀ x ∈ l, x.children.l.length ≤ 1000 := by
  simp only [greatT, Bool.or_eq_false_iff, decide_eq_false_iff_not] at h
  intro x hx
  have := List.any_eq_false.1 h.2 x hx
  have h2 := (great_false (x := x) (by simpa using this)).1
  omega
theorem law4 (l : Sl Spec) (hh : SlOk Spec.wf l) : W.pure 4 [specs l] = some (.bool true) := by
  have c11 := awk
  have c18 := t18a l
  rw [W_pure Φ4 (by simp)]
  cases hg : greatT l.l with
  | true => rw [hg] at c18; simp [fi4, c4, evFun, enterFr, intBin, resV, rvVs, rvV, c18, c11]
  | false =>
    rw [hg] at c18
    obtain ⟨hN, hl10⟩ := great_names hg
    have hK : ∀ x ∈ l.l, x.children.l.length ≤ 1000 := great_kids hg
    have c22 := t22 l hN (by omega)
    have c23 := t23 l hK (by omega)
    by_cases hc : chkT l.l = 0
    · rw [hc] at c22 c23
      have ht := tree_of hc
      have h0 : (0 : Nat) < l.l.length := by have := ht.len.1; omega
      have hol := order_len ht l.l.length 0 h0
      obtain ⟨r1, c19, p1⟩ := t19 hN ht hc
      obtain ⟨r2, c20, p2⟩ := t20 hc
      obtain ⟨ss, a, c12, n1, n2, n3, n4, n5⟩ := t12 hN hc
      obtain ⟨ss2, a2, c21, m1, m2⟩ := t21 hc
      have c24 := t24 r1 r2 (by rw [p1, p2]) (by rw [p1, List.length_map]; simp only [ordT]; omega)
      have hsm := new_small hN hc
      have c25 := t25 ss ss2 (by rw [n1, m1]) (by
        have h1 := congrArg List.length n1
        have h2 := new_len hN hc
        simp only [List.length_map] at h1
        omega) (fun s hs => by
          have : s.core ∈ (newT l.l).ss.map State.core := by rw [← n1]; exact List.mem_map.2 ⟨s, hs, rfl⟩
          obtain ⟨s', h1, h2⟩ := List.mem_map.1 this
          have := core_inj h2
          have h3 := hsm s' h1
          rw [← this.2.1, ← this.2.2.1]; omega)
      have c15 := e18 a a2 (by rw [n3, (new_out ht).1, List.length_map]; simp only [ordT]; omega)
      rw [n3, m2, decide_eq_true rfl] at c15
      simp [fi4, c4, evFun, enterFr, intBin, resV, rvVs, rvV, c18, c19, c20, c12, c21, c22, c23, c24, c25, c15, c11]
    · have c19 := t19n hN (by omega) hc
      have c20 := t20n hK (by omega) hc
      have c12 := t12n hN (by omega) hc
      have c21 := t21n hK (by omega) hc
      have c24 : W.pure 24 [.isl (some true) 0 [], .isl (some false) 1 []] = some (.bool true) := t24 slNil (ofL 1 []) rfl (by simp)
      have c25 : W.pure 25 [.isl (some true) 0 [], .isl (some false) 4 []] = some (.bool true) := t25 slNil (ofL 4 []) rfl (by simp) (by simp)
      have c15 : W.pure 15 [.isl (some true) 0 [], .isl (some false) 4 []] = some (.bool true) := e18 slNil (ofL 4 []) (by simp)
      simp [fi4, c4, evFun, enterFr, intBin, resV, rvVs, rvV, c18, c19, c20, c12, c21, c22, c23, c24, c25, c15, c11]
end
end Go.Proofs.Ytjknjapdcphcfaa
