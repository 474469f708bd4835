/-
  The methods, part 11: a running child exits, as the program does it (conditions: none). The methods, part 12: a running child exits, as the reference does it (conditions: none). The methods, part 13: a running child exits, as the reference does it (conditions: none). The methods, part 14: a stopping child exits (conditions: none). The checks of an event, each way through (conditions: none). Printed by genF27.py. The checks of an event, each way through (conditions: none). Printed by genF27.py. The checks of an event: both are one function (conditions: none). The handlers of the events, as the program has them; Clone of the children's states (conditions: none). Handle, as the program and the reference have it: one plain function (conditions: none). Handle, as the reference has it (conditions: none). The laws SupervisorHandle and SupervisorCheck: they are true (conditions: readings of the arguments).
-/
import Derived.Test.YtjknjapdcphcfaaFB
import Derived.Test.YtjknjapdcphcfaaAw
namespace Go.Proofs.Ytjknjapdcphcfaa
section
open Go Go.RowKit
set_option linter.unusedVariables false
set_option linter.unusedSimpArgs false
set_option maxRecDepth 10000
set_option maxHeartbeats 2000000

def normB (n : Int) : Bool := decide (n = 0) || decide (n = 1)
def reasonB (n : Int) : Bool := inR n 0 9 || inR n 100 999
theorem e71 (n : Int) : W.pure 86 [I n] = some (.bool (normB n)) := by
  rw [W_pure Φ86 rfl]
  by_cases h0 : n = 0 <;> by_cases h1 : n = 1 <;> simp [fi86, c86, evFun, enterFr, intBin, resV, rvVs, rvV, normB, h0, h1]
theorem e66 (n : Int) : W.pure 114 [I n] = some (.bool (normB n)) := by
  rw [W_pure Φ114 rfl]
  by_cases h0 : n = 0 <;> by_cases h1 : n = 1 <;> simp [fi114, c114, evFun, enterFr, intBin, resV, rvVs, rvV, normB, h0, h1]
theorem e58 (n : Int) : W.pure 67 [I n] = some (.bool (reasonB n)) := by
  rw [W_pure Φ67 rfl]
  by_cases h0 : inR n 0 9 = true <;> simp [fi67, c67, evFun, enterFr, intBin, resV, rvVs, rvV, e51, reasonB, h0]
theorem e62 (n : Int) : W.pure 110 [I n] = some (.bool (reasonB n)) := by
  rw [W_pure Φ110 rfl]
  by_cases h0 : inR n 0 9 = true <;> simp [fi110, c110, evFun, enterFr, intBin, resV, rvVs, rvV, e47, reasonB, h0]
def quietB (ch : Child) (reason : Int) : Bool := decide (ch.policy = 3) || (decide (ch.policy = 2) && normB reason)
def runningS (x : Spec) (tm : Int) (n : Nat) (ch : Child) (reason : Int) (r : RunSt) : RunSt :=
  if quietB ch reason = true then r.setS n 3
  else if x.intensity ≤ ((recentL x tm r.rs).length : Int) then shutS tm { r.setS n 3 with fl := true }
  else if cnt (stopS tm (affL x n) (({ r with rs := recentL x tm r.rs ++ [tm] } : RunSt).setS n 4)).cs 2 = 0 then againS tm (stopS tm (affL x n) (({ r with rs := recentL x tm r.rs ++ [tm] } : RunSt).setS n 4))
  else { stopS tm (affL x n) (({ r with rs := recentL x tm r.rs ++ [tm] } : RunSt).setS n 4) with st := 2 }
/-- Is it known whether it is nil? -/
def NilOk (v : AV) : Prop := match v with | .isl nl _ es => (nl = some true ∧ es = []) ∨ nl = some false | _ => True
theorem Grow.nilOk {H : Heap} {sz : Nat} {o : Option Nat} {v : AV} {l : List AV} (h : Grow H sz o v l) : NilOk v := by
  cases o with
  | none => rw [h.1]; exact .inl ⟨rfl, rfl⟩
  | some id => obtain ⟨ver, t, h1, _⟩ := h; rw [h1]; trivial
theorem NilOk.of {α : Type} {f : α → AV} {sz : Nat} {s : Sl α} (h : KnownNil s) : NilOk (Sl.av f sz s) := by
  rcases h with ⟨h1, h2⟩ | h1
  · exact .inl ⟨h1, by simp [h2]⟩
  · exact .inr h1
theorem NilOk.known {α : Type} {f : α → AV} {sz : Nat} {s : Sl α} (h : NilOk (Sl.av f sz s)) : KnownNil s := by
  rcases h with ⟨h1, h2⟩ | h1
  · exact .inl ⟨h1, by simpa using h2⟩
  · exact .inr h1
theorem OptI.frzK {H : Heap} {p c : Nat} {o : Option Nat} {v : AV} {l : List Int} (h : OptI H p c o v l) (hv : NilOk v) (n : Nat) : ∃ s : Sl Int, Go.Proofs.Ytjknjapdcphcfaa.frz H (n + 1) v = some (Sl.ints s) ∧ s.l = l ∧ KnownNil s := by
  rcases h with ⟨s, rfl, rfl⟩ | ⟨q, h1, _⟩
  · exact ⟨s, rfl, rfl, hv.known⟩
  · exact ⟨ofL 1 l, h1.sl (n := n) (by simp), rfl, .inr rfl⟩
/-- What a method does that changes the restarts too. -/
def DoesR (mk : Mk) (p c cv : Nat) (o : Option Nat) (H : Heap) (r' : RunSt) (v : AV) (H' : Heap) : Prop := v = .tuple [] ∧ ∃ o' rv' ov', RunI mk H' p c cv o' rv' ov' r' ∧ Frame p c o o' H H' ∧ NilOk rv'
theorem affF_in (s child : Int) : ∀ (n i : Nat), ∀ j ∈ affF s child n i, (i : Int) ≤ j ∧ j < i + n := by
  intro n
  induction n with
  | zero => intro i j h; simp [affF] at h
  | succ n ih =>
    intro i j h
    unfold affF at h
    split at h
    · rcases List.mem_cons.1 h with rfl | h
      · omega
      · have := ih (i + 1) j h; omega
    · have := ih (i + 1) j h; omega
theorem affL_in (x : Spec) (child j : Int) (h : j ∈ affL x child) : 0 ≤ j ∧ j < x.children.l.length := by
  have := affF_in _ _ _ 0 j h; omega
theorem affL_len (x : Spec) (child : Int) : (affL x child).length ≤ x.children.l.length := affF_len _ _ _ _
theorem recentL_len (x : Spec) (tm : Int) (l : List Int) : (recentL x tm l).length ≤ l.length := List.length_filter_le _ _
theorem e59 (x : Spec) (tm : Int) {H : Heap} {p c cv : Nat} {o : Option Nat} {ov : AV} {r : RunSt} {s : Sl Int} (h : RunI (mkP x tm) H p c cv o (Sl.ints s) ov r) (hs : KnownNil s) (hsl : s.l = r.rs) (hrl : r.rs.length ≤ 100000) (hn : r.cs.length ≤ 1000) (hx : x.children.l.length = r.cs.length) (hstr : inR x.strategy 1 3 = true) (hl : r.out.length ≤ 100000) (n : Nat) (hk : n < r.cs.length) (ch : Child) (hch : x.children.l[n]? = some ch) (reason : Int) :
    okV (evFun W fi68 [.optr p 0 0 0, I n, I reason] H) (DoesR (mkP x tm) p c cv o H (runningS x tm n ch reason r)) := by
  have hp := h.hp
  have hsp : (.agg [I x.strategy, I x.intensity, I x.window, Sl.av Child.av 3 x.children] : AV) = x.av := rfl
  simp only [mkP] at hp
  by_cases hq : quietB ch reason = true
  · obtain ⟨G, d0, d1, d2⟩ := e72 x tm h n hk 3
    have c1 : W.call (.clo 87 [] []) [.optr p 0 0 0, I n, I 3] H = some (.tuple [], G) := by rw [W_call Φ87]; exact d0
    have : okV (evFun W fi68 [.optr p 0 0 0, I n, I reason] H) (fun v G' => v = .tuple [] ∧ G' = G) := by
      unfold quietB at hq
      by_cases h3 : ch.policy = 3
      · simp [fi68, c68, evFun, enterFr, intBin, resV, rvVs, rvV, hp, hch, h3, c1]
      · have h2 : ch.policy = 2 := by
          by_cases h2 : ch.policy = 2
          · exact h2
          · simp [h3, h2] at hq
        have hnm : normB reason = true := by simpa [h2, h3] using hq
        simp [fi68, c68, evFun, enterFr, intBin, resV, rvVs, rvV, hp, hch, h2, e71, hnm, c1]
    obtain ⟨v, G', f1, rfl, rfl⟩ := okV_iff.1 this
    rw [f1]
    unfold runningS
    rw [if_pos hq]
    exact ⟨rfl, o, _, ov, d1, d2, NilOk.of hs⟩
  · obtain ⟨v, G1, a0, a1, q, a2, a3⟩ := okV_iff.1 (e73 x tm s hs (by rw [hsl]; omega) H)
    rw [hsl] at a2
    have cq73 : W.call (.clo 88 [] []) [x.av, Sl.ints s, I tm] H = some (v, G1) := by rw [W_call Φ88]; exact a0
    have k1 := h.kept a1
    have hvlen := a2.len
    rw [List.length_map] at hvlen
    have hpol : ¬ ch.policy = 3 := fun e => hq (by simp [quietB, e])
    have hpol2 : ch.policy = 2 → normB reason = false := fun e => by
      have h2 : ¬ quietB ch reason = true := hq
      simp only [quietB, e] at h2
      simpa using h2
    have hp1 := k1.hp
    simp only [mkP] at hp1
    by_cases hi : x.intensity ≤ ((recentL x tm r.rs).length : Int)
    · obtain ⟨G2, d0, d1, d2⟩ := e72 x tm k1 n hk 3
      have cq72 : W.call (.clo 87 [] []) [.optr p 0 0 0, I n, I 3] G1 = some (.tuple [], G2) := by rw [W_call Φ87]; exact d0
      have hp2 := d1.hp
      simp only [mkP] at hp2
      obtain ⟨m1, m2⟩ := d1.put (r.setS n 3).st true
      obtain ⟨v3, G3, b0, rfl, o3, ov3, b1, b2⟩ := okV_iff.1 (e61 x tm m1 (by rw [setS_len]; exact hn) (by rw [setS_out]; omega))
      have cq61 : W.call (.clo 70 [] []) [.optr p 0 0 0] (G2.set p (.arr 0 10 false [mkP x tm (r.setS n 3).st (.osl c cv 0 (r.setS n 3).cs.length) (Sl.ints s) true ov])) = some (.tuple [], G3) := by rw [W_call Φ70]; exact b0
      simp only [mkP] at cq61
      have : okV (evFun W fi68 [.optr p 0 0 0, I n, I reason] H) (fun v G' => v = .tuple [] ∧ G' = G3) := by
        by_cases h2 : ch.policy = 2
        · simp [fi68, c68, evFun, enterFr, intBin, resV, rvVs, rvV, hp, hch, h2, e71, hpol2 h2, hsp, cq73, a2.okO, hvlen, hp1, hi, cq72, hp2, cq61]
        · simp [fi68, c68, evFun, enterFr, intBin, resV, rvVs, rvV, hp, hch, hpol, h2, hsp, cq73, a2.okO, hvlen, hp1, hi, cq72, hp2, cq61]
      obtain ⟨v, G', f1, rfl, rfl⟩ := okV_iff.1 this
      rw [f1]
      unfold runningS
      rw [if_neg hq, if_pos hi]
      exact ⟨rfl, o3, _, ov3, b1, (((Frame.of_kept a1).trans d2).trans m2).trans b2, NilOk.of hs⟩
    · obtain ⟨l1, l2, l3⟩ := h.lt
      have hrec := recentL_len x tm r.rs
      obtain ⟨q', v', G2, b0, b1, b2, b3⟩ := a2.app1 (I tm) (by simp) (by simp [appRoom]; omega)
      have k2 := k1.keptQ b2 (fun i hi => by have := a3 i hi; exact ⟨by omega, by omega, fun e => by have := l3 i e; omega⟩) (fun i ver off len e => by cases e)
      have hq' : ∀ i, q' = some i → H.length ≤ i := fun i hi => by
        rcases b3 i hi with h1 | ⟨_, rfl⟩
        · exact a3 i h1
        · exact a1.1
      have b1' : Grow G2 1 q' v' ((recentL x tm r.rs ++ [tm]).map I) := by simpa using b1
      have hv' : OptI G2 p c o v' (recentL x tm r.rs ++ [tm]) := OptI.of_grow b1' (fun i hi => by have := hq' i hi; exact ⟨by omega, by omega, fun e => by have := l3 i e; omega⟩)
      have f2 : Frame p c o o H G2 := ⟨by have := a1.1; have := b2.1; omega, fun j hj h1 h2 h3 => by rw [b2.2 j (fun e => by have := a3 j e; omega) (by have := a1.1; omega), a1.2 j (by simp) hj], fun i hi => .inl hi⟩
      obtain ⟨k3, f3⟩ := k2.setR hv'
      have hp2 := k2.hp
      have hp3 := k3.hp
      obtain ⟨G4, d0, d1, d2⟩ := e72 x tm k3 n hk 4
      have cq72 : W.call (.clo 87 [] []) [.optr p 0 0 0, I n, I 4] (G2.set p (.arr 0 10 false [mkP x tm r.st (.osl c cv 0 r.cs.length) v' r.fl ov])) = some (.tuple [], G4) := by rw [W_call Φ87]; exact d0
      have hp4 := d1.hp
      simp only [mkP] at hp2 hp3 hp4 cq72
      obtain ⟨ra, ha, hal⟩ := e52 x n hstr (by omega) ⟨by omega, by omega⟩
      have hsl4 := setS_len ({ r with rs := recentL x tm r.rs ++ [tm] } : RunSt) n 4
      have hso4 := setS_out ({ r with rs := recentL x tm r.rs ++ [tm] } : RunSt) n 4
      have hal' := affL_len x n
      simp only at hsl4 hso4
      obtain ⟨v5, G5, m0, rfl, o5, ov5, m1, m2⟩ := okV_iff.1 (e74 x tm d1 (by rw [hso4]; omega) (v := Sl.ints ra) (l := affL x n) (.inl ⟨ra, rfl, hal⟩) (by omega) (fun i hi => by have := affL_in x n i hi; rw [hsl4]; omega))
      have cq74 : W.call (.clo 89 [] []) [.optr p 0 0 0, Sl.ints ra] G4 = some (.tuple [], G5) := by rw [W_call Φ89]; exact m0
      have hbl := stopS_len tm (affL x n) (({ r with rs := recentL x tm r.rs ++ [tm] } : RunSt).setS n 4)
      have hbo := stopS_out tm (affL x n) (({ r with rs := recentL x tm r.rs ++ [tm] } : RunSt).setS n 4)
      rw [hsl4] at hbl
      rw [hso4] at hbo
      unfold runningS
      rw [if_neg hq, if_neg hi]
      generalize hS : stopS tm (affL x n) (({ r with rs := recentL x tm r.rs ++ [tm] } : RunSt).setS n 4) = S at *
      obtain ⟨v6, G6, n0, rfl, n1⟩ := okV_iff.1 (call68 (.osl c cv 0 S.cs.length) S.cs (by omega) 2 G5 (by have := Rd.of_own m1.hc; rwa [List.length_map] at this))
      have cq68 : W.call (.clo 83 [] []) [.osl c cv 0 S.cs.length, I 2] G5 = some (I (cnt S.cs 2), G6) := by rw [W_call Φ83]; exact n0
      have k6 := m1.kept n1
      have hp5 := m1.hp
      have hp6 := k6.hp
      have f6 := (((f2.trans f3).trans d2).trans m2).trans (Frame.of_kept n1)
      simp only [mkP] at hp5 hp6
      by_cases hz : cnt S.cs 2 = 0
      · obtain ⟨v7, G7, z0, rfl, o7, ov7, z1, z2⟩ := okV_iff.1 (e75 x tm k6 (by omega) (by omega))
        have cq75 : W.call (.clo 91 [] []) [.optr p 0 0 0] G6 = some (.tuple [], G7) := by rw [W_call Φ91]; exact z0
        rw [hz] at cq68
        have : okV (evFun W fi68 [.optr p 0 0 0, I n, I reason] H) (fun v G' => v = .tuple [] ∧ G' = G7) := by
          by_cases h2 : ch.policy = 2
          · simp [fi68, c68, evFun, enterFr, intBin, resV, rvVs, rvV, hp, hch, h2, e71, hpol2 h2, hsp, cq73, a2.okO, hvlen, hp1, hi, b0, b1.okO, b1.cells, b1.cell, hp2, hp3, cq72, hp4, ha, cq74, hp5, cq68, cq75]
          · simp [fi68, c68, evFun, enterFr, intBin, resV, rvVs, rvV, hp, hch, hpol, h2, hsp, cq73, a2.okO, hvlen, hp1, hi, b0, b1.okO, b1.cells, b1.cell, hp2, hp3, cq72, hp4, ha, cq74, hp5, cq68, cq75]
        obtain ⟨v, G', g1, rfl, rfl⟩ := okV_iff.1 this
        rw [g1, if_pos hz]
        exact ⟨rfl, o7, _, ov7, z1, f6.trans z2, b1.nilOk⟩
      · obtain ⟨z1, z2⟩ := k6.put 2 S.fl
        have hz' : ¬ ((cnt S.cs 2 : Nat) : Int) = 0 := by omega
        have : okV (evFun W fi68 [.optr p 0 0 0, I n, I reason] H) (fun v G' => v = .tuple [] ∧ G' = G6.set p (.arr 0 10 false [mkP x tm 2 (.osl c cv 0 S.cs.length) v' S.fl ov5])) := by
          by_cases h2 : ch.policy = 2
          · simp [fi68, c68, evFun, enterFr, intBin, resV, rvVs, rvV, hp, hch, h2, e71, hpol2 h2, hsp, cq73, a2.okO, hvlen, hp1, hi, b0, b1.okO, b1.cells, b1.cell, hp2, hp3, cq72, hp4, ha, cq74, hp5, cq68, hz, hz', hp6, mkP]
          · simp [fi68, c68, evFun, enterFr, intBin, resV, rvVs, rvV, hp, hch, hpol, h2, hsp, cq73, a2.okO, hvlen, hp1, hi, b0, b1.okO, b1.cells, b1.cell, hp2, hp3, cq72, hp4, ha, cq74, hp5, cq68, hz, hz', hp6, mkP]
        obtain ⟨v, G', g1, rfl, rfl⟩ := okV_iff.1 this
        rw [g1, if_neg hz]
        exact ⟨rfl, o5, _, ov5, z1, f6.trans z2, b1.nilOk⟩
end
section
open Go Go.RowKit
set_option linter.unusedVariables false
set_option linter.unusedSimpArgs false
set_option maxRecDepth 10000
set_option maxHeartbeats 2000000

def Loop43 (x : Spec) (tm : Int) (p c cv : Nat) (o : Option Nat) (rv ov : AV) (r : RunSt) (H0 : Heap) (l : List Int) (v : AV) (G : Heap) : Prop :=
  RunI (mkR x tm) G p c cv o rv ov r ∧ Low H0.length p c o o H0 G ∧ Beside H0.length G p c o v (recentL x tm l)
theorem loop43 (x : Spec) (tm : Int) {H0 : Heap} {p c cv : Nat} {o : Option Nat} {ov : AV} {r : RunSt} {s : Sl Int} (h : RunI (mkR x tm) H0 p c cv o (Sl.ints s) ov r) (hsl : s.l.length ≤ 100000) (n : Nat) :
    okC (W.loop [0, 1, 7, 8] l105_0 [(0, .optr p 0 0 0), (1, I n), (7, .osl H0.length 0 0 0), (8, I 0)] (H0 ++ [.arr 0 1 false []])) (fun y F G => y = .exit 0 ∧ F.get 0 = .optr p 0 0 0 ∧ F.get 1 = I n ∧ Loop43 x tm p c cv o (Sl.ints s) ov r H0 s.l (F.get 7) G) := by
  obtain ⟨l1, l2, l3⟩ := h.lt
  have hK := Kept.append none H0 [.arr 0 1 false []]
  have hL := loop_fold (Φ := Φ) (live := [0, 1, 7, 8]) (L := l105_0) s.l (σ := Unit) (fun _ _ s => s) (fun k _ F G => ∃ v, F = [(0, .optr p 0 0 0), (1, I n), (7, v), (8, I k)] ∧ Loop43 x tm p c cv o (Sl.ints s) ov r H0 (s.l.take k) v G) (fun _ y F G => y = .exit 0 ∧ F.get 0 = .optr p 0 0 0 ∧ F.get 1 = I n ∧ Loop43 x tm p c cv o (Sl.ints s) ov r H0 s.l (F.get 7) G) (s := ()) (F := [(0, .optr p 0 0 0), (1, I n), (7, .osl H0.length 0 0 0), (8, I 0)]) (H := H0 ++ [.arr 0 1 false []]) ⟨_, rfl, h.kept hK, ⟨by simp, fun j hj _ _ _ => List.getElem?_append_left hj, fun i hi => .inl hi⟩, ⟨some H0.length, grow_mk (l := []) (by simp), fun i hi => by cases hi; exact ⟨Nat.le_refl _, fun e => by have := l3 _ e; omega⟩⟩⟩ ?_ ?_
  · exact hL
  · rintro k t ⟨⟩ F G hk ht ⟨v, rfl, g1, g2, g3⟩
    obtain ⟨_, rfl⟩ := List.getElem?_eq_some_iff.1 ht
    have hw := wrap_succ (k := k) (by omega)
    have hp := g1.hp
    simp only [mkR] at hp
    have htk : s.l.take (k + 1) = s.l.take k ++ [s.l[k]] := take_step ht
    have hrl := recentL_len x tm (s.l.take k)
    rw [List.length_take] at hrl
    obtain ⟨v', G', a1, a2, a3, a4, a5, a6, a7⟩ := g3.snoc h g1 (by omega) g2.len s.l[k]
    by_cases ho : oldT x tm s.l[k] = true
    · have hlt : ¬ IntKind.wrap .i64 (tm - x.window) < s.l[k] := by simp only [oldT, decide_eq_true_eq] at ho; omega
      have hr : recentL x tm (s.l.take (k + 1)) = recentL x tm (s.l.take k) := by unfold recentL; rw [htk, List.filter_append]; simp [ho]
      have hv := (g3.optI l1 l2).ok.1
      simp [evl105_0, b105_0, intBin, hk, hw, hp, hlt, hv]
      exact ⟨g1, g2, by rw [hr]; exact g3⟩
    · have hlt : IntKind.wrap .i64 (tm - x.window) < s.l[k] := by simp only [oldT, decide_eq_true_eq] at ho; omega
      have hr : recentL x tm (s.l.take (k + 1)) = recentL x tm (s.l.take k) ++ [s.l[k]] := by unfold recentL; rw [htk, List.filter_append]; simp [ho]
      have hp1 := a5.hp
      simp only [mkR] at hp1
      simp [evl105_0, b105_0, intBin, hk, hw, hp, hlt, a1, a2, a3, hp1]
      exact ⟨a5, g2.step a6 a7, by rw [hr]; exact a4⟩
  · rintro ⟨⟩ F G ⟨v, rfl, g1, g2, g3⟩
    have hp := g1.hp
    simp only [mkR] at hp
    simp [evl105_0, b105_0, intBin, hp]
    rw [List.take_length] at g3
    exact ⟨g1, g2, g3⟩
end
section
open Go Go.RowKit
set_option linter.unusedVariables false
set_option linter.unusedSimpArgs false
set_option maxRecDepth 10000
set_option maxHeartbeats 2000000

theorem Beside.nilOk {n : Nat} {G : Heap} {p c : Nat} {o : Option Nat} {v : AV} {l : List Int} (h : Beside n G p c o v l) : NilOk v := by
  obtain ⟨q, h1, _⟩ := h
  exact h1.nilOk
theorem e43 (x : Spec) (tm : Int) {H : Heap} {p c cv : Nat} {o : Option Nat} {ov : AV} {r : RunSt} {s : Sl Int} (h : RunI (mkR x tm) H p c cv o (Sl.ints s) ov r) (hs : KnownNil s) (hsl : s.l = r.rs) (hint : (r.rs.length : Int) ≤ x.intensity) (hrl : r.rs.length ≤ 100000) (hn : r.cs.length ≤ 1000) (hx : x.children.l.length = r.cs.length) (n : Nat) (haff : affAll x n = affL x n) (hl : r.out.length ≤ 100000) (hk : n < r.cs.length) (ch : Child) (hch : x.children.l[n]? = some ch) (reason : Int) :
    okV (evFun W fi105 [.optr p 0 0 0, I n, I reason] H) (DoesR (mkR x tm) p c cv o H (runningS x tm n ch reason r)) := by
  have hp := h.hp
  have hc := h.hc
  have hsp : (.agg [I x.strategy, I x.intensity, I x.window, Sl.av Child.av 3 x.children] : AV) = x.av := rfl
  have hkc : r.cs[n]? = some r.cs[n] := List.getElem?_eq_getElem hk
  have hset : r.setS n 3 = { r with cs := r.cs.set n { r.cs[n] with status := 3 } } := by simp only [RunSt.setS, hkc]
  obtain ⟨k1, f1⟩ := h.setC n { r.cs[n] with status := 3 }
  rw [← hset] at k1
  have hr1l := setS_len r n 3
  have hr1o := setS_out r n 3
  have hr1s : (r.setS n 3).rs = r.rs := by rw [hset]
  have hp1 := k1.hp
  have hc1 := k1.hc
  simp only [mkR] at hp hp1
  by_cases hq : quietB ch reason = true
  · have : okV (evFun W fi105 [.optr p 0 0 0, I n, I reason] H) (fun v G' => v = .tuple [] ∧ G' = H.set c (.arr cv 2 false ((r.cs.set n { r.cs[n] with status := 3 }).map ChildState.av))) := by
      unfold quietB at hq
      by_cases h3 : ch.policy = 3
      · simp [fi105, c105, evFun, enterFr, intBin, resV, rvVs, rvV, hp, hc, hch, h3, hk, -List.map_set]
      · have h2 : ch.policy = 2 := by
          by_cases h2 : ch.policy = 2
          · exact h2
          · simp [h3, h2] at hq
        have hnm : normB reason = true := by simpa [h2, h3] using hq
        simp [fi105, c105, evFun, enterFr, intBin, resV, rvVs, rvV, hp, hc, hch, h2, e66, hnm, hk, -List.map_set]
    obtain ⟨v, G', g1, rfl, rfl⟩ := okV_iff.1 this
    rw [g1]
    unfold runningS
    rw [if_pos hq]
    exact ⟨rfl, o, _, ov, k1, f1, NilOk.of hs⟩
  · obtain ⟨y, F, G, e1, rfl, e2, e3, q1, q2, q3⟩ := okC_iff.1 (loop43 x tm k1 (by rw [hsl]; omega) n)
    rw [hsl] at q3
    rw [List.length_set] at e1
    obtain ⟨l1, l2, l3⟩ := k1.lt
    have hv := q3.optI l1 l2
    have hvl := hv.ok.2.2.2
    have hpol : ¬ ch.policy = 3 := fun e => hq (by simp [quietB, e])
    have hpol2 : ch.policy = 2 → normB reason = false := fun e => by
      have h2 : ¬ quietB ch reason = true := hq
      simp only [quietB, e] at h2
      simpa using h2
    have hq1 := q1.hp
    have hrec := recentL_len x tm r.rs
    simp only [mkR] at hq1
    have fG := f1.trans q2.frame
    by_cases hi : x.intensity ≤ ((recentL x tm r.rs).length : Int)
    · have hi' : ((recentL x tm r.rs).length : Int) = x.intensity := by omega
      obtain ⟨m1, m2⟩ := q1.put (r.setS n 3).st true
      obtain ⟨v3, G3, b0, rfl, o3, ov3, b1, b2⟩ := okV_iff.1 (e42 x tm m1 (by rw [hr1l]; exact hn) (by rw [hr1o]; omega))
      have cq42 : W.call (.clo 104 [] []) [.optr p 0 0 0] (G.set p (.arr 0 10 false [mkR x tm (r.setS n 3).st (.osl c cv 0 (r.setS n 3).cs.length) (Sl.ints s) true ov])) = some (.tuple [], G3) := by rw [W_call Φ104]; exact b0
      simp only [mkR] at cq42
      have : okV (evFun W fi105 [.optr p 0 0 0, I n, I reason] H) (fun v G' => v = .tuple [] ∧ G' = G3) := by
        by_cases h2 : ch.policy = 2
        · simp [fi105, c105, evFun, enterFr, intBin, resV, rvVs, rvV, hp, hc, hch, h2, e66, hpol2 h2, hk, e1, e2, e3, hv.ok.1, hvl, hq1, hi', cq42, -List.map_set]
        · simp [fi105, c105, evFun, enterFr, intBin, resV, rvVs, rvV, hp, hc, hch, hpol, h2, hk, e1, e2, e3, hv.ok.1, hvl, hq1, hi', cq42, -List.map_set]
      obtain ⟨v, G', g1, rfl, rfl⟩ := okV_iff.1 this
      rw [g1]
      unfold runningS
      rw [if_neg hq, if_pos hi]
      exact ⟨rfl, o3, _, ov3, b1, (fG.trans m2).trans b2, NilOk.of hs⟩
    · have hi' : ¬ ((recentL x tm r.rs).length : Int) = x.intensity := by omega
      obtain ⟨v', G2, b0, b1, b2, b3, b4, b5, b6⟩ := q3.snoc k1 q1 (by omega) q2.len tm
      have hv' := b3.optI l1 l2
      have hvo' := hv'.ok
      obtain ⟨k3, f3⟩ := b4.setR hv'
      have hkc3 : (r.setS n 3).cs[n]? = some { r.cs[n] with status := 3 } := by rw [hset]; exact List.getElem?_set_self hk
      obtain ⟨d1, d2⟩ := k3.setC n ⟨4, r.cs[n].starts⟩
      have hfin : ({ ({ (r.setS n 3) with rs := recentL x tm r.rs ++ [tm] } : RunSt) with cs := (r.setS n 3).cs.set n ⟨4, r.cs[n].starts⟩ } : RunSt) = ({ r with rs := recentL x tm r.rs ++ [tm] } : RunSt).setS n 4 := by
        rw [hset]
        simp only [RunSt.setS, hkc, List.set_set]
      simp only [hfin] at d1
      have hp2 := b4.hp
      have hp3 := k3.hp
      have hc3 := k3.hc
      have hp4 := d1.hp
      have hkl : n < (r.setS n 3).cs.length := by omega
      have hgk : (r.setS n 3).cs[n] = { r.cs[n] with status := 3 } := by
        have := List.getElem?_eq_getElem hkl
        rw [hkc3] at this
        exact (Option.some.inj this).symm
      simp only [mkR] at hp2 hp3 hp4 hc3
      obtain ⟨ra, ha, hal⟩ := e34 x (by omega) n
      rw [haff] at hal
      have hsl4 := setS_len ({ r with rs := recentL x tm r.rs ++ [tm] } : RunSt) n 4
      have hso4 := setS_out ({ r with rs := recentL x tm r.rs ++ [tm] } : RunSt) n 4
      have hal' := affL_len x n
      simp only at hsl4 hso4
      obtain ⟨v5, G5, m0, rfl, o5, ov5, m1, m2⟩ := okV_iff.1 (e63 x tm d1 (by rw [hso4]; omega) (v := Sl.ints ra) (l := affL x n) (.inl ⟨ra, rfl, hal⟩) (by omega) (fun i hi => by have := affL_in x n i hi; rw [hsl4]; omega))
      have cq63 := (W_call Φ111 [] [.optr p 0 0 0, Sl.ints ra] [] _).trans m0
      have hbl := stopS_len tm (affL x n) (({ r with rs := recentL x tm r.rs ++ [tm] } : RunSt).setS n 4)
      have hbo := stopS_out tm (affL x n) (({ r with rs := recentL x tm r.rs ++ [tm] } : RunSt).setS n 4)
      rw [hsl4] at hbl
      rw [hso4] at hbo
      unfold runningS
      rw [if_neg hq, if_neg hi]
      generalize hS : stopS tm (affL x n) (({ r with rs := recentL x tm r.rs ++ [tm] } : RunSt).setS n 4) = S at *
      obtain ⟨v6, G6, n0, rfl, n1⟩ := okV_iff.1 (call64 (.osl c cv 0 S.cs.length) v' S.st S.fl S.cs (by omega) 2 G5 (by have := Rd.of_own m1.hc; rwa [List.length_map] at this) rfl rfl hvo'.1 hvo'.2.1 hvo'.2.2.1)
      have cq64 : W.call (.clo 112 [] []) [.agg [I S.st, .osl c cv 0 S.cs.length, v', .bool S.fl], I 2] G5 = some (I (cnt S.cs 2), G6) := by rw [W_call Φ112]; exact n0
      have k6 := m1.kept n1
      have hp5 := m1.hp
      have hp6 := k6.hp
      have fB := (q2.step b5 b6).frame
      have f6 := ((((f1.trans fB).trans f3).trans d2).trans m2).trans (Frame.of_kept n1)
      simp only [mkR] at hp5 hp6 cq63
      by_cases hz : cnt S.cs 2 = 0
      · obtain ⟨v7, G7, z0, rfl, o7, ov7, z1, z2⟩ := okV_iff.1 (e67 x tm k6 (by omega) (by omega))
        have cq67 : W.call (.clo 116 [] []) [.optr p 0 0 0] G6 = some (.tuple [], G7) := by rw [W_call Φ116]; exact z0
        rw [hz] at cq64
        have : okV (evFun W fi105 [.optr p 0 0 0, I n, I reason] H) (fun v G' => v = .tuple [] ∧ G' = G7) := by
          by_cases h2 : ch.policy = 2
          · simp [fi105, c105, evFun, enterFr, intBin, resV, rvVs, rvV, hp, hc, hch, h2, e66, hpol2 h2, hk, e1, e2, e3, hv.ok.1, hvl, hq1, hi', b0, b2, hvo', hp2, hp3, hc3, hkl, hgk, hp4, hsp, ha, cq63, hp5, cq64, cq67, -List.map_set]
          · simp [fi105, c105, evFun, enterFr, intBin, resV, rvVs, rvV, hp, hc, hch, hpol, h2, hk, e1, e2, e3, hv.ok.1, hvl, hq1, hi', b0, b2, hvo', hp2, hp3, hc3, hkl, hgk, hp4, hsp, ha, cq63, hp5, cq64, cq67, -List.map_set]
        obtain ⟨v, G', g1, rfl, rfl⟩ := okV_iff.1 this
        rw [g1, if_pos hz]
        exact ⟨rfl, o7, _, ov7, z1, f6.trans z2, b3.nilOk⟩
      · obtain ⟨z1, z2⟩ := k6.put 2 S.fl
        have hz' : 0 < cnt S.cs 2 := by omega
        have : okV (evFun W fi105 [.optr p 0 0 0, I n, I reason] H) (fun v G' => v = .tuple [] ∧ G' = G6.set p (.arr 0 10 false [mkR x tm 2 (.osl c cv 0 S.cs.length) v' S.fl ov5])) := by
          by_cases h2 : ch.policy = 2
          · simp [fi105, c105, evFun, enterFr, intBin, resV, rvVs, rvV, hp, hc, hch, h2, e66, hpol2 h2, hk, e1, e2, e3, hv.ok.1, hvl, hq1, hi', b0, b2, hvo', hp2, hp3, hc3, hkl, hgk, hp4, hsp, ha, cq63, hp5, cq64, hz', hp6, mkR, -List.map_set]
          · simp [fi105, c105, evFun, enterFr, intBin, resV, rvVs, rvV, hp, hc, hch, hpol, h2, hk, e1, e2, e3, hv.ok.1, hvl, hq1, hi', b0, b2, hvo', hp2, hp3, hc3, hkl, hgk, hp4, hsp, ha, cq63, hp5, cq64, hz', hp6, mkR, -List.map_set]
        obtain ⟨v, G', g1, rfl, rfl⟩ := okV_iff.1 this
        rw [g1, if_neg hz]
        exact ⟨rfl, o5, _, ov5, z1, f6.trans z2, b3.nilOk⟩
end
section
open Go Go.RowKit
set_option linter.unusedVariables false
set_option linter.unusedSimpArgs false
set_option maxRecDepth 10000
set_option maxHeartbeats 2000000

def stopping1 (n : Nat) (ch : Child) (r : RunSt) : RunSt := r.setS n (if r.st = 2 ∧ ¬ ch.policy = 3 then 4 else 3)
def stoppingS (tm : Int) (n : Nat) (ch : Child) (r : RunSt) : RunSt :=
  if 0 < cnt (stopping1 n ch r).cs 2 then stopping1 n ch r
  else if r.st = 2 then againS tm (stopping1 n ch r) else (stopping1 n ch r).stopped tm
theorem setS_st (s : RunSt) (k : Nat) (st : Int) : (s.setS k st).st = s.st := by unfold RunSt.setS; split <;> rfl
theorem setS_fl (s : RunSt) (k : Nat) (st : Int) : (s.setS k st).fl = s.fl := by unfold RunSt.setS; split <;> rfl
theorem e60 (x : Spec) (tm : Int) {H : Heap} {p c cv : Nat} {o : Option Nat} {rv ov : AV} {r : RunSt} (h : RunI (mkP x tm) H p c cv o rv ov r) (hn : r.cs.length ≤ 1000) (hl : r.out.length ≤ 100000) (n : Nat) (hk : n < r.cs.length) (ch : Child) (hch : x.children.l[n]? = some ch) :
    okV (evFun W fi69 [.optr p 0 0 0, I n] H) (Does (mkP x tm) p c cv o rv H (stoppingS tm n ch r)) := by
  have hp := h.hp
  simp only [mkP] at hp
  obtain ⟨G, d0, d1, d2⟩ := e72 x tm h n hk (if r.st = 2 ∧ ¬ ch.policy = 3 then 4 else 3)
  have cq72 : W.call (.clo 87 [] []) [.optr p 0 0 0, I n, I (if r.st = 2 ∧ ¬ ch.policy = 3 then 4 else 3)] H = some (.tuple [], G) := by rw [W_call Φ87]; exact d0
  have hS : r.setS n (if r.st = 2 ∧ ¬ ch.policy = 3 then 4 else 3) = stopping1 n ch r := rfl
  rw [hS] at d1
  have hsl : (stopping1 n ch r).cs.length = r.cs.length := setS_len _ _ _
  have hso : (stopping1 n ch r).out = r.out := setS_out _ _ _
  have hst : (stopping1 n ch r).st = r.st := setS_st _ _ _
  unfold stoppingS
  generalize hS' : stopping1 n ch r = S at *
  have hp1 := d1.hp
  obtain ⟨v6, G6, n0, rfl, n1⟩ := okV_iff.1 (call68 (.osl c cv 0 S.cs.length) S.cs (by omega) 2 G (by have := Rd.of_own d1.hc; rwa [List.length_map] at this))
  have cq68 : W.call (.clo 83 [] []) [.osl c cv 0 S.cs.length, I 2] G = some (I (cnt S.cs 2), G6) := by rw [W_call Φ83]; exact n0
  have k6 := d1.kept n1
  have f6 := d2.trans (Frame.of_kept n1)
  have hp6 := k6.hp
  simp only [mkP] at hp1 hp6
  rw [hst] at hp1 hp6
  by_cases hz : 0 < cnt S.cs 2
  · have : okV (evFun W fi69 [.optr p 0 0 0, I n] H) (fun v G' => v = .tuple [] ∧ G' = G6) := by
      by_cases h2 : r.st = 2
      · by_cases h3 : ch.policy = 3
        · simp only [h2, h3] at cq72
          simp at cq72
          simp [fi69, c69, evFun, enterFr, intBin, resV, rvVs, rvV, hp, hch, h2, h3, cq72, hp1, cq68, hz]
        · simp only [h2, h3] at cq72
          simp at cq72
          simp [fi69, c69, evFun, enterFr, intBin, resV, rvVs, rvV, hp, hch, h2, h3, cq72, hp1, cq68, hz]
      · simp only [h2] at cq72
        simp at cq72
        simp [fi69, c69, evFun, enterFr, intBin, resV, rvVs, rvV, hp, hch, h2, cq72, hp1, cq68, hz]
    obtain ⟨v, G', g1, rfl, rfl⟩ := okV_iff.1 this
    rw [g1, if_pos hz]
    exact ⟨rfl, o, ov, k6, f6⟩
  · rw [if_neg hz]
    by_cases h2 : r.st = 2
    · obtain ⟨v7, G7, z0, rfl, o7, ov7, z1, z2⟩ := okV_iff.1 (e75 x tm k6 (by omega) (by rw [hso]; omega))
      have cq75 : W.call (.clo 91 [] []) [.optr p 0 0 0] G6 = some (.tuple [], G7) := by rw [W_call Φ91]; exact z0
      have : okV (evFun W fi69 [.optr p 0 0 0, I n] H) (fun v G' => v = .tuple [] ∧ G' = G7) := by
        rw [h2] at hp1 hp6
        by_cases h3 : ch.policy = 3
        · simp only [h2, h3] at cq72
          simp at cq72
          simp [fi69, c69, evFun, enterFr, intBin, resV, rvVs, rvV, hp, hch, h2, h3, cq72, hp1, cq68, hz, hp6, cq75]
        · simp only [h2, h3] at cq72
          simp at cq72
          simp [fi69, c69, evFun, enterFr, intBin, resV, rvVs, rvV, hp, hch, h2, h3, cq72, hp1, cq68, hz, hp6, cq75]
      obtain ⟨v, G', g1, rfl, rfl⟩ := okV_iff.1 this
      rw [g1, if_pos h2]
      exact ⟨rfl, o7, ov7, z1, f6.trans z2⟩
    · obtain ⟨v7, G7, z0, rfl, o7, ov7, z1, z2⟩ := okV_iff.1 (e76 x tm k6 (by rw [hso]; omega))
      have cq76 : W.call (.clo 92 [] []) [.optr p 0 0 0] G6 = some (.tuple [], G7) := by rw [W_call Φ92]; exact z0
      have : okV (evFun W fi69 [.optr p 0 0 0, I n] H) (fun v G' => v = .tuple [] ∧ G' = G7) := by
        simp only [h2] at cq72
        simp at cq72
        simp [fi69, c69, evFun, enterFr, intBin, resV, rvVs, rvV, hp, hch, h2, cq72, hp1, cq68, hz, hp6, cq76]
      obtain ⟨v, G', g1, rfl, rfl⟩ := okV_iff.1 this
      rw [g1, if_neg h2]
      exact ⟨rfl, o7, ov7, z1, f6.trans z2⟩
theorem e44 (x : Spec) (tm : Int) {H : Heap} {p c cv : Nat} {o : Option Nat} {rv ov : AV} {r : RunSt} (h : RunI (mkR x tm) H p c cv o rv ov r) (hn : r.cs.length ≤ 1000) (hl : r.out.length ≤ 100000) (n : Nat) (hk : n < r.cs.length) (ch : Child) (hch : x.children.l[n]? = some ch) :
    okV (evFun W fi106 [.optr p 0 0 0, I n] H) (Does (mkR x tm) p c cv o rv H (stoppingS tm n ch r)) := by
  have hp := h.hp
  have hc := h.hc
  have hkc : r.cs[n]? = some r.cs[n] := List.getElem?_eq_getElem hk
  obtain ⟨k1, f1⟩ := h.setC n { r.cs[n] with status := 3 }
  have hp1 := k1.hp
  have hc1 := k1.hc
  have hrs := h.rs.ok
  simp only [mkR] at hp hp1
  have hsl : (stopping1 n ch r).cs.length = r.cs.length := setS_len _ _ _
  have hso : (stopping1 n ch r).out = r.out := setS_out _ _ _
  have hst : (stopping1 n ch r).st = r.st := setS_st _ _ _
  have hsf : (stopping1 n ch r).fl = r.fl := setS_fl _ _ _
  have hG : ∃ G, RunI (mkR x tm) G p c cv o rv ov (stopping1 n ch r) ∧ Frame p c o o H G ∧ G = (if r.st = 2 ∧ ¬ ch.policy = 3 then H.set c (.arr cv 2 false ((r.cs.set n { r.cs[n] with status := 4 }).map ChildState.av)) else H.set c (.arr cv 2 false ((r.cs.set n { r.cs[n] with status := 3 }).map ChildState.av))) := by
    by_cases hb : r.st = 2 ∧ ¬ ch.policy = 3
    · obtain ⟨k2, f2⟩ := k1.setC n { r.cs[n] with status := 4 }
      simp only [List.set_set] at k2 f2
      refine ⟨_, ?_, f1.trans f2, by rw [if_pos hb]⟩
      have : stopping1 n ch r = { r with cs := r.cs.set n { r.cs[n] with status := 4 } } := by simp only [stopping1, if_pos hb, RunSt.setS, hkc]
      rw [this]; exact k2
    · refine ⟨_, ?_, f1, by rw [if_neg hb]⟩
      have : stopping1 n ch r = { r with cs := r.cs.set n { r.cs[n] with status := 3 } } := by simp only [stopping1, if_neg hb, RunSt.setS, hkc]
      rw [this]; exact k1
  obtain ⟨G, d1, d2, hGe⟩ := hG
  unfold stoppingS
  generalize hS' : stopping1 n ch r = S at *
  have hpG := d1.hp
  obtain ⟨v6, G6, n0, rfl, n1⟩ := okV_iff.1 (call64 (.osl c cv 0 S.cs.length) rv S.st S.fl S.cs (by omega) 2 G (by have := Rd.of_own d1.hc; rwa [List.length_map] at this) rfl rfl hrs.1 hrs.2.1 hrs.2.2.1)
  have cq64 : W.call (.clo 112 [] []) [.agg [I S.st, .osl c cv 0 S.cs.length, rv, .bool S.fl], I 2] G = some (I (cnt S.cs 2), G6) := by rw [W_call Φ112]; exact n0
  have k6 := d1.kept n1
  have f6 := d2.trans (Frame.of_kept n1)
  have hp6 := k6.hp
  simp only [mkR] at hpG hp6
  rw [hst, hsl, hsf] at hpG hp6 cq64
  by_cases hz : 0 < cnt S.cs 2
  · have : okV (evFun W fi106 [.optr p 0 0 0, I n] H) (fun v G' => v = .tuple [] ∧ G' = G6) := by
      by_cases h2 : r.st = 2
      · rw [h2] at hpG hp6 cq64
        by_cases h3 : ch.policy = 3
        · rw [if_neg (by simp [h3])] at hGe
          subst hGe
          simp [fi106, c106, evFun, enterFr, intBin, resV, rvVs, rvV, hp, hc, hk, hch, h2, h3, hp1, hc1, hpG, hrs, cq64, hz, -List.map_set]
        · rw [if_pos ⟨h2, h3⟩] at hGe
          subst hGe
          simp [fi106, c106, evFun, enterFr, intBin, resV, rvVs, rvV, hp, hc, hk, hch, h2, h3, hp1, hc1, hpG, hrs, cq64, hz, -List.map_set]
      · rw [if_neg (by simp [h2])] at hGe
        subst hGe
        simp [fi106, c106, evFun, enterFr, intBin, resV, rvVs, rvV, hp, hc, hk, hch, h2, hp1, hc1, hpG, hrs, cq64, hz, -List.map_set]
    obtain ⟨v, G', g1, rfl, rfl⟩ := okV_iff.1 this
    rw [g1, if_pos hz]
    exact ⟨rfl, o, ov, k6, f6⟩
  · rw [if_neg hz]
    by_cases h2 : r.st = 2
    · obtain ⟨v7, G7, z0, rfl, o7, ov7, z1, z2⟩ := okV_iff.1 (e67 x tm k6 (by omega) (by rw [hso]; omega))
      have cq67 : W.call (.clo 116 [] []) [.optr p 0 0 0] G6 = some (.tuple [], G7) := by rw [W_call Φ116]; exact z0
      have : okV (evFun W fi106 [.optr p 0 0 0, I n] H) (fun v G' => v = .tuple [] ∧ G' = G7) := by
        rw [h2] at hpG hp6 cq64
        by_cases h3 : ch.policy = 3
        · rw [if_neg (by simp [h3])] at hGe
          subst hGe
          simp [fi106, c106, evFun, enterFr, intBin, resV, rvVs, rvV, hp, hc, hk, hch, h2, h3, hp1, hc1, hpG, hrs, cq64, hz, hp6, cq67, -List.map_set]
        · rw [if_pos ⟨h2, h3⟩] at hGe
          subst hGe
          simp [fi106, c106, evFun, enterFr, intBin, resV, rvVs, rvV, hp, hc, hk, hch, h2, h3, hp1, hc1, hpG, hrs, cq64, hz, hp6, cq67, -List.map_set]
      obtain ⟨v, G', g1, rfl, rfl⟩ := okV_iff.1 this
      rw [g1, if_pos h2]
      exact ⟨rfl, o7, ov7, z1, f6.trans z2⟩
    · obtain ⟨v7, G7, z0, rfl, o7, ov7, z1, z2⟩ := okV_iff.1 (e65 x tm k6 (by rw [hso]; omega))
      have cq65 : W.call (.clo 113 [] []) [.optr p 0 0 0] G6 = some (.tuple [], G7) := by rw [W_call Φ113]; exact z0
      have : okV (evFun W fi106 [.optr p 0 0 0, I n] H) (fun v G' => v = .tuple [] ∧ G' = G7) := by
        rw [if_neg (by simp [h2])] at hGe
        subst hGe
        simp [fi106, c106, evFun, enterFr, intBin, resV, rvVs, rvV, hp, hc, hk, hch, h2, hp1, hc1, hpG, hrs, cq64, hz, hp6, cq65, -List.map_set]
      obtain ⟨v, G', g1, rfl, rfl⟩ := okV_iff.1 this
      rw [g1, if_neg h2]
      exact ⟨rfl, o7, ov7, z1, f6.trans z2⟩
end
section
open Go Go.RowKit
set_option linter.unusedVariables false
set_option linter.unusedSimpArgs false
set_option maxRecDepth 10000
set_option maxHeartbeats 2000000

theorem c37_kind (x : Spec) (s : State) (e : Event) (hw : IntKind.wrap .i64 ((x.children.l.length : Int) - 1) = (x.children.l.length : Int) - 1) (h1 : ¬ e.kind = 1) (h2 : ¬ e.kind = 2) : okV (evFun W fi43 [x.av, s.av, e.av] []) (fun v _ => v = I 8) := by
  simp [fi43, c43, evFun, enterFr, intBin, resV, rvVs, rvV, hw, e51, e58, h1, h2]
theorem c37_a1 (x : Spec) (s : State) (e : Event) (hw : IntKind.wrap .i64 ((x.children.l.length : Int) - 1) = (x.children.l.length : Int) - 1) (h1 : e.kind = 1) (ha : inR e.child 0 ((x.children.l.length : Int) - 1) = false) : okV (evFun W fi43 [x.av, s.av, e.av] []) (fun v _ => v = I 2) := by
  simp [fi43, c43, evFun, enterFr, intBin, resV, rvVs, rvV, hw, e51, e58, h1, ha]
theorem c37_a2 (x : Spec) (s : State) (e : Event) (hw : IntKind.wrap .i64 ((x.children.l.length : Int) - 1) = (x.children.l.length : Int) - 1) (h1 : e.kind = 1) (ha : inR e.child 0 ((x.children.l.length : Int) - 1) = true) (hb : reasonB e.value = false) : okV (evFun W fi43 [x.av, s.av, e.av] []) (fun v _ => v = I 2) := by
  simp [fi43, c43, evFun, enterFr, intBin, resV, rvVs, rvV, hw, e51, e58, h1, ha, hb]
theorem c37_a3 (x : Spec) (s : State) (e : Event) (hw : IntKind.wrap .i64 ((x.children.l.length : Int) - 1) = (x.children.l.length : Int) - 1) (h1 : e.kind = 1) (ha : inR e.child 0 ((x.children.l.length : Int) - 1) = true) (hb : reasonB e.value = true) (hc : inR e.time 0 1099511627776 = false) : okV (evFun W fi43 [x.av, s.av, e.av] []) (fun v _ => v = I 2) := by
  simp [fi43, c43, evFun, enterFr, intBin, resV, rvVs, rvV, hw, e51, e58, h1, ha, hb, hc]
theorem c37_b1 (x : Spec) (s : State) (e : Event) (hw : IntKind.wrap .i64 ((x.children.l.length : Int) - 1) = (x.children.l.length : Int) - 1) (h2 : e.kind = 2) (ha : ¬ e.child = -1) : okV (evFun W fi43 [x.av, s.av, e.av] []) (fun v _ => v = I 2) := by
  simp [fi43, c43, evFun, enterFr, intBin, resV, rvVs, rvV, hw, e51, e58, h2, ha]
theorem c37_b2 (x : Spec) (s : State) (e : Event) (hw : IntKind.wrap .i64 ((x.children.l.length : Int) - 1) = (x.children.l.length : Int) - 1) (h2 : e.kind = 2) (ha : e.child = -1) (hb : ¬ e.value = 0) : okV (evFun W fi43 [x.av, s.av, e.av] []) (fun v _ => v = I 2) := by
  simp [fi43, c43, evFun, enterFr, intBin, resV, rvVs, rvV, hw, e51, e58, h2, ha, hb]
theorem c37_b3 (x : Spec) (s : State) (e : Event) (hw : IntKind.wrap .i64 ((x.children.l.length : Int) - 1) = (x.children.l.length : Int) - 1) (h2 : e.kind = 2) (ha : e.child = -1) (hb : e.value = 0) (hc : inR e.time 0 1099511627776 = false) : okV (evFun W fi43 [x.av, s.av, e.av] []) (fun v _ => v = I 2) := by
  simp [fi43, c43, evFun, enterFr, intBin, resV, rvVs, rvV, hw, e51, e58, h2, ha, hb, hc]
theorem c37_a4 (x : Spec) (s : State) (e : Event) (hw : IntKind.wrap .i64 ((x.children.l.length : Int) - 1) = (x.children.l.length : Int) - 1) (hwr : IntKind.wrap .i64 ((s.restarts.l.length : Int) - 1) = (s.restarts.l.length : Int) - 1) (h1 : e.kind = 1) (ha : inR e.child 0 ((x.children.l.length : Int) - 1) = true) (hb : reasonB e.value = true) (hc : inR e.time 0 1099511627776 = true) (h0 : 0 < s.restarts.l.length) (h00 : 1 ≤ (s.restarts.l.length : Int)) {t : Int} (ht : s.restarts.l[s.restarts.l.length - 1]? = some t) (hlt : e.time < t) : okV (evFun W fi43 [x.av, s.av, e.av] []) (fun v _ => v = I 9) := by
  simp [fi43, c43, evFun, enterFr, intBin, resV, rvVs, rvV, hw, e51, e58, h1, ha, hb, hc, hwr, h0, h00, ht, hlt]
theorem c37_b4 (x : Spec) (s : State) (e : Event) (hw : IntKind.wrap .i64 ((x.children.l.length : Int) - 1) = (x.children.l.length : Int) - 1) (hwr : IntKind.wrap .i64 ((s.restarts.l.length : Int) - 1) = (s.restarts.l.length : Int) - 1) (h2 : e.kind = 2) (ha : e.child = -1) (hb : e.value = 0) (hc : inR e.time 0 1099511627776 = true) (h0 : 0 < s.restarts.l.length) (h00 : 1 ≤ (s.restarts.l.length : Int)) {t : Int} (ht : s.restarts.l[s.restarts.l.length - 1]? = some t) (hlt : e.time < t) : okV (evFun W fi43 [x.av, s.av, e.av] []) (fun v _ => v = I 9) := by
  simp [fi43, c43, evFun, enterFr, intBin, resV, rvVs, rvV, hw, e51, e58, h2, ha, hb, hc, hwr, h0, h00, ht, hlt]
theorem c37_a5n (x : Spec) (s : State) (e : Event) (hw : IntKind.wrap .i64 ((x.children.l.length : Int) - 1) = (x.children.l.length : Int) - 1) (h1 : e.kind = 1) (ha : inR e.child 0 ((x.children.l.length : Int) - 1) = true) (hb : reasonB e.value = true) (hc : inR e.time 0 1099511627776 = true) (h0 : s.restarts.l.length = 0) (hc0 : 0 ≤ e.child) {c : ChildState} (hcs : s.children.l[e.child.toNat]? = some c) (h3 : ¬ c.status = 1) (h4 : ¬ c.status = 2) : okV (evFun W fi43 [x.av, s.av, e.av] []) (fun v _ => v = I 17) := by
  simp [fi43, c43, evFun, enterFr, intBin, resV, rvVs, rvV, hw, e51, e58, h1, ha, hb, hc, h0, hc0, hcs, h3, h4]
theorem c37_a6n (x : Spec) (s : State) (e : Event) (hw : IntKind.wrap .i64 ((x.children.l.length : Int) - 1) = (x.children.l.length : Int) - 1) (h1 : e.kind = 1) (ha : inR e.child 0 ((x.children.l.length : Int) - 1) = true) (hb : reasonB e.value = true) (hc : inR e.time 0 1099511627776 = true) (h0 : s.restarts.l.length = 0) (hc0 : 0 ≤ e.child) {c : ChildState} (hcs : s.children.l[e.child.toNat]? = some c) (h3 : c.status = 1) : okV (evFun W fi43 [x.av, s.av, e.av] []) (fun v _ => v = I 0) := by
  simp [fi43, c43, evFun, enterFr, intBin, resV, rvVs, rvV, hw, e51, e58, h1, ha, hb, hc, h0, hc0, hcs, h3]
theorem c37_a7n (x : Spec) (s : State) (e : Event) (hw : IntKind.wrap .i64 ((x.children.l.length : Int) - 1) = (x.children.l.length : Int) - 1) (h1 : e.kind = 1) (ha : inR e.child 0 ((x.children.l.length : Int) - 1) = true) (hb : reasonB e.value = true) (hc : inR e.time 0 1099511627776 = true) (h0 : s.restarts.l.length = 0) (hc0 : 0 ≤ e.child) {c : ChildState} (hcs : s.children.l[e.child.toNat]? = some c) (h3 : c.status = 2) : okV (evFun W fi43 [x.av, s.av, e.av] []) (fun v _ => v = I 0) := by
  simp [fi43, c43, evFun, enterFr, intBin, resV, rvVs, rvV, hw, e51, e58, h1, ha, hb, hc, h0, hc0, hcs, h3]
theorem c37_b5n (x : Spec) (s : State) (e : Event) (hw : IntKind.wrap .i64 ((x.children.l.length : Int) - 1) = (x.children.l.length : Int) - 1) (h2 : e.kind = 2) (ha : e.child = -1) (hb : e.value = 0) (hc : inR e.time 0 1099511627776 = true) (h0 : s.restarts.l.length = 0) (h3 : s.status = 4) : okV (evFun W fi43 [x.av, s.av, e.av] []) (fun v _ => v = I 17) := by
  simp [fi43, c43, evFun, enterFr, intBin, resV, rvVs, rvV, hw, e51, e58, h2, ha, hb, hc, h0, h3]
theorem c37_b6n (x : Spec) (s : State) (e : Event) (hw : IntKind.wrap .i64 ((x.children.l.length : Int) - 1) = (x.children.l.length : Int) - 1) (h2 : e.kind = 2) (ha : e.child = -1) (hb : e.value = 0) (hc : inR e.time 0 1099511627776 = true) (h0 : s.restarts.l.length = 0) (h3 : ¬ s.status = 4) : okV (evFun W fi43 [x.av, s.av, e.av] []) (fun v _ => v = I 0) := by
  simp [fi43, c43, evFun, enterFr, intBin, resV, rvVs, rvV, hw, e51, e58, h2, ha, hb, hc, h0, h3]
theorem c37_a5s (x : Spec) (s : State) (e : Event) (hw : IntKind.wrap .i64 ((x.children.l.length : Int) - 1) = (x.children.l.length : Int) - 1) (hwr : IntKind.wrap .i64 ((s.restarts.l.length : Int) - 1) = (s.restarts.l.length : Int) - 1) (h1 : e.kind = 1) (ha : inR e.child 0 ((x.children.l.length : Int) - 1) = true) (hb : reasonB e.value = true) (hc : inR e.time 0 1099511627776 = true) (h0 : 0 < s.restarts.l.length) (h00 : 1 ≤ (s.restarts.l.length : Int)) {t : Int} (ht : s.restarts.l[s.restarts.l.length - 1]? = some t) (hlt : ¬ e.time < t) (hc0 : 0 ≤ e.child) {c : ChildState} (hcs : s.children.l[e.child.toNat]? = some c) (h3 : ¬ c.status = 1) (h4 : ¬ c.status = 2) : okV (evFun W fi43 [x.av, s.av, e.av] []) (fun v _ => v = I 17) := by
  simp [fi43, c43, evFun, enterFr, intBin, resV, rvVs, rvV, hw, e51, e58, h1, ha, hb, hc, hwr, h0, h00, ht, hlt, hc0, hcs, h3, h4]
theorem c37_a6s (x : Spec) (s : State) (e : Event) (hw : IntKind.wrap .i64 ((x.children.l.length : Int) - 1) = (x.children.l.length : Int) - 1) (hwr : IntKind.wrap .i64 ((s.restarts.l.length : Int) - 1) = (s.restarts.l.length : Int) - 1) (h1 : e.kind = 1) (ha : inR e.child 0 ((x.children.l.length : Int) - 1) = true) (hb : reasonB e.value = true) (hc : inR e.time 0 1099511627776 = true) (h0 : 0 < s.restarts.l.length) (h00 : 1 ≤ (s.restarts.l.length : Int)) {t : Int} (ht : s.restarts.l[s.restarts.l.length - 1]? = some t) (hlt : ¬ e.time < t) (hc0 : 0 ≤ e.child) {c : ChildState} (hcs : s.children.l[e.child.toNat]? = some c) (h3 : c.status = 1) : okV (evFun W fi43 [x.av, s.av, e.av] []) (fun v _ => v = I 0) := by
  simp [fi43, c43, evFun, enterFr, intBin, resV, rvVs, rvV, hw, e51, e58, h1, ha, hb, hc, hwr, h0, h00, ht, hlt, hc0, hcs, h3]
theorem c37_a7s (x : Spec) (s : State) (e : Event) (hw : IntKind.wrap .i64 ((x.children.l.length : Int) - 1) = (x.children.l.length : Int) - 1) (hwr : IntKind.wrap .i64 ((s.restarts.l.length : Int) - 1) = (s.restarts.l.length : Int) - 1) (h1 : e.kind = 1) (ha : inR e.child 0 ((x.children.l.length : Int) - 1) = true) (hb : reasonB e.value = true) (hc : inR e.time 0 1099511627776 = true) (h0 : 0 < s.restarts.l.length) (h00 : 1 ≤ (s.restarts.l.length : Int)) {t : Int} (ht : s.restarts.l[s.restarts.l.length - 1]? = some t) (hlt : ¬ e.time < t) (hc0 : 0 ≤ e.child) {c : ChildState} (hcs : s.children.l[e.child.toNat]? = some c) (h3 : c.status = 2) : okV (evFun W fi43 [x.av, s.av, e.av] []) (fun v _ => v = I 0) := by
  simp [fi43, c43, evFun, enterFr, intBin, resV, rvVs, rvV, hw, e51, e58, h1, ha, hb, hc, hwr, h0, h00, ht, hlt, hc0, hcs, h3]
theorem c37_b5s (x : Spec) (s : State) (e : Event) (hw : IntKind.wrap .i64 ((x.children.l.length : Int) - 1) = (x.children.l.length : Int) - 1) (hwr : IntKind.wrap .i64 ((s.restarts.l.length : Int) - 1) = (s.restarts.l.length : Int) - 1) (h2 : e.kind = 2) (ha : e.child = -1) (hb : e.value = 0) (hc : inR e.time 0 1099511627776 = true) (h0 : 0 < s.restarts.l.length) (h00 : 1 ≤ (s.restarts.l.length : Int)) {t : Int} (ht : s.restarts.l[s.restarts.l.length - 1]? = some t) (hlt : ¬ e.time < t) (h3 : s.status = 4) : okV (evFun W fi43 [x.av, s.av, e.av] []) (fun v _ => v = I 17) := by
  simp [fi43, c43, evFun, enterFr, intBin, resV, rvVs, rvV, hw, e51, e58, h2, ha, hb, hc, hwr, h0, h00, ht, hlt, h3]
theorem c37_b6s (x : Spec) (s : State) (e : Event) (hw : IntKind.wrap .i64 ((x.children.l.length : Int) - 1) = (x.children.l.length : Int) - 1) (hwr : IntKind.wrap .i64 ((s.restarts.l.length : Int) - 1) = (s.restarts.l.length : Int) - 1) (h2 : e.kind = 2) (ha : e.child = -1) (hb : e.value = 0) (hc : inR e.time 0 1099511627776 = true) (h0 : 0 < s.restarts.l.length) (h00 : 1 ≤ (s.restarts.l.length : Int)) {t : Int} (ht : s.restarts.l[s.restarts.l.length - 1]? = some t) (hlt : ¬ e.time < t) (h3 : ¬ s.status = 4) : okV (evFun W fi43 [x.av, s.av, e.av] []) (fun v _ => v = I 0) := by
  simp [fi43, c43, evFun, enterFr, intBin, resV, rvVs, rvV, hw, e51, e58, h2, ha, hb, hc, hwr, h0, h00, ht, hlt, h3]
end
section
open Go Go.RowKit
set_option linter.unusedVariables false
set_option linter.unusedSimpArgs false
set_option maxRecDepth 10000
set_option maxHeartbeats 2000000

theorem c41_kind (x : Spec) (s : State) (e : Event) (hw : IntKind.wrap .i64 ((x.children.l.length : Int) - 1) = (x.children.l.length : Int) - 1) (hv : W.pure 109 [x.av, s.av] = some (I 0)) (h1 : ¬ e.kind = 1) (h2 : ¬ e.kind = 2) : okV (evFun W fi103 [x.av, s.av, e.av] []) (fun v _ => v = I 8) := by
  simp [fi103, c103, evFun, enterFr, intBin, resV, rvVs, rvV, hw, e47, e62, hv, h1, h2]
theorem c41_a1 (x : Spec) (s : State) (e : Event) (hw : IntKind.wrap .i64 ((x.children.l.length : Int) - 1) = (x.children.l.length : Int) - 1) (hv : W.pure 109 [x.av, s.av] = some (I 0)) (h1 : e.kind = 1) (ha : inR e.child 0 ((x.children.l.length : Int) - 1) = false) : okV (evFun W fi103 [x.av, s.av, e.av] []) (fun v _ => v = I 2) := by
  simp [fi103, c103, evFun, enterFr, intBin, resV, rvVs, rvV, hw, e47, e62, hv, h1, ha]
theorem c41_a2 (x : Spec) (s : State) (e : Event) (hw : IntKind.wrap .i64 ((x.children.l.length : Int) - 1) = (x.children.l.length : Int) - 1) (hv : W.pure 109 [x.av, s.av] = some (I 0)) (h1 : e.kind = 1) (ha : inR e.child 0 ((x.children.l.length : Int) - 1) = true) (hb : reasonB e.value = false) : okV (evFun W fi103 [x.av, s.av, e.av] []) (fun v _ => v = I 2) := by
  simp [fi103, c103, evFun, enterFr, intBin, resV, rvVs, rvV, hw, e47, e62, hv, h1, ha, hb]
theorem c41_a3 (x : Spec) (s : State) (e : Event) (hw : IntKind.wrap .i64 ((x.children.l.length : Int) - 1) = (x.children.l.length : Int) - 1) (hv : W.pure 109 [x.av, s.av] = some (I 0)) (h1 : e.kind = 1) (ha : inR e.child 0 ((x.children.l.length : Int) - 1) = true) (hb : reasonB e.value = true) (hc : inR e.time 0 1099511627776 = false) : okV (evFun W fi103 [x.av, s.av, e.av] []) (fun v _ => v = I 2) := by
  simp [fi103, c103, evFun, enterFr, intBin, resV, rvVs, rvV, hw, e47, e62, hv, h1, ha, hb, hc]
theorem c41_b1 (x : Spec) (s : State) (e : Event) (hw : IntKind.wrap .i64 ((x.children.l.length : Int) - 1) = (x.children.l.length : Int) - 1) (hv : W.pure 109 [x.av, s.av] = some (I 0)) (h2 : e.kind = 2) (ha : ¬ e.child = -1) : okV (evFun W fi103 [x.av, s.av, e.av] []) (fun v _ => v = I 2) := by
  simp [fi103, c103, evFun, enterFr, intBin, resV, rvVs, rvV, hw, e47, e62, hv, h2, ha]
theorem c41_b2 (x : Spec) (s : State) (e : Event) (hw : IntKind.wrap .i64 ((x.children.l.length : Int) - 1) = (x.children.l.length : Int) - 1) (hv : W.pure 109 [x.av, s.av] = some (I 0)) (h2 : e.kind = 2) (ha : e.child = -1) (hb : ¬ e.value = 0) : okV (evFun W fi103 [x.av, s.av, e.av] []) (fun v _ => v = I 2) := by
  simp [fi103, c103, evFun, enterFr, intBin, resV, rvVs, rvV, hw, e47, e62, hv, h2, ha, hb]
theorem c41_b3 (x : Spec) (s : State) (e : Event) (hw : IntKind.wrap .i64 ((x.children.l.length : Int) - 1) = (x.children.l.length : Int) - 1) (hv : W.pure 109 [x.av, s.av] = some (I 0)) (h2 : e.kind = 2) (ha : e.child = -1) (hb : e.value = 0) (hc : inR e.time 0 1099511627776 = false) : okV (evFun W fi103 [x.av, s.av, e.av] []) (fun v _ => v = I 2) := by
  simp [fi103, c103, evFun, enterFr, intBin, resV, rvVs, rvV, hw, e47, e62, hv, h2, ha, hb, hc]
theorem c41_a4 (x : Spec) (s : State) (e : Event) (hw : IntKind.wrap .i64 ((x.children.l.length : Int) - 1) = (x.children.l.length : Int) - 1) (hv : W.pure 109 [x.av, s.av] = some (I 0)) (hwr : IntKind.wrap .i64 ((s.restarts.l.length : Int) - 1) = (s.restarts.l.length : Int) - 1) (h1 : e.kind = 1) (ha : inR e.child 0 ((x.children.l.length : Int) - 1) = true) (hb : reasonB e.value = true) (hc : inR e.time 0 1099511627776 = true) (h0 : 0 < s.restarts.l.length) (h00 : 1 ≤ (s.restarts.l.length : Int)) {t : Int} (ht : s.restarts.l[s.restarts.l.length - 1]? = some t) (hlt : e.time < t) : okV (evFun W fi103 [x.av, s.av, e.av] []) (fun v _ => v = I 9) := by
  simp [fi103, c103, evFun, enterFr, intBin, resV, rvVs, rvV, hw, e47, e62, hv, h1, ha, hb, hc, hwr, h0, h00, ht, hlt]
theorem c41_b4 (x : Spec) (s : State) (e : Event) (hw : IntKind.wrap .i64 ((x.children.l.length : Int) - 1) = (x.children.l.length : Int) - 1) (hv : W.pure 109 [x.av, s.av] = some (I 0)) (hwr : IntKind.wrap .i64 ((s.restarts.l.length : Int) - 1) = (s.restarts.l.length : Int) - 1) (h2 : e.kind = 2) (ha : e.child = -1) (hb : e.value = 0) (hc : inR e.time 0 1099511627776 = true) (h0 : 0 < s.restarts.l.length) (h00 : 1 ≤ (s.restarts.l.length : Int)) {t : Int} (ht : s.restarts.l[s.restarts.l.length - 1]? = some t) (hlt : e.time < t) : okV (evFun W fi103 [x.av, s.av, e.av] []) (fun v _ => v = I 9) := by
  simp [fi103, c103, evFun, enterFr, intBin, resV, rvVs, rvV, hw, e47, e62, hv, h2, ha, hb, hc, hwr, h0, h00, ht, hlt]
theorem c41_a5n (x : Spec) (s : State) (e : Event) (hw : IntKind.wrap .i64 ((x.children.l.length : Int) - 1) = (x.children.l.length : Int) - 1) (hv : W.pure 109 [x.av, s.av] = some (I 0)) (h1 : e.kind = 1) (ha : inR e.child 0 ((x.children.l.length : Int) - 1) = true) (hb : reasonB e.value = true) (hc : inR e.time 0 1099511627776 = true) (h0 : s.restarts.l.length = 0) (hc0 : 0 ≤ e.child) {c : ChildState} (hcs : s.children.l[e.child.toNat]? = some c) (h3 : ¬ c.status = 1) (h4 : ¬ c.status = 2) : okV (evFun W fi103 [x.av, s.av, e.av] []) (fun v _ => v = I 17) := by
  simp [fi103, c103, evFun, enterFr, intBin, resV, rvVs, rvV, hw, e47, e62, hv, h1, ha, hb, hc, h0, hc0, hcs, h3, h4]
theorem c41_a6n (x : Spec) (s : State) (e : Event) (hw : IntKind.wrap .i64 ((x.children.l.length : Int) - 1) = (x.children.l.length : Int) - 1) (hv : W.pure 109 [x.av, s.av] = some (I 0)) (h1 : e.kind = 1) (ha : inR e.child 0 ((x.children.l.length : Int) - 1) = true) (hb : reasonB e.value = true) (hc : inR e.time 0 1099511627776 = true) (h0 : s.restarts.l.length = 0) (hc0 : 0 ≤ e.child) {c : ChildState} (hcs : s.children.l[e.child.toNat]? = some c) (h3 : c.status = 1) : okV (evFun W fi103 [x.av, s.av, e.av] []) (fun v _ => v = I 0) := by
  simp [fi103, c103, evFun, enterFr, intBin, resV, rvVs, rvV, hw, e47, e62, hv, h1, ha, hb, hc, h0, hc0, hcs, h3]
theorem c41_a7n (x : Spec) (s : State) (e : Event) (hw : IntKind.wrap .i64 ((x.children.l.length : Int) - 1) = (x.children.l.length : Int) - 1) (hv : W.pure 109 [x.av, s.av] = some (I 0)) (h1 : e.kind = 1) (ha : inR e.child 0 ((x.children.l.length : Int) - 1) = true) (hb : reasonB e.value = true) (hc : inR e.time 0 1099511627776 = true) (h0 : s.restarts.l.length = 0) (hc0 : 0 ≤ e.child) {c : ChildState} (hcs : s.children.l[e.child.toNat]? = some c) (h3 : c.status = 2) : okV (evFun W fi103 [x.av, s.av, e.av] []) (fun v _ => v = I 0) := by
  simp [fi103, c103, evFun, enterFr, intBin, resV, rvVs, rvV, hw, e47, e62, hv, h1, ha, hb, hc, h0, hc0, hcs, h3]
theorem c41_b5n (x : Spec) (s : State) (e : Event) (hw : IntKind.wrap .i64 ((x.children.l.length : Int) - 1) = (x.children.l.length : Int) - 1) (hv : W.pure 109 [x.av, s.av] = some (I 0)) (h2 : e.kind = 2) (ha : e.child = -1) (hb : e.value = 0) (hc : inR e.time 0 1099511627776 = true) (h0 : s.restarts.l.length = 0) (h3 : s.status = 4) : okV (evFun W fi103 [x.av, s.av, e.av] []) (fun v _ => v = I 17) := by
  simp [fi103, c103, evFun, enterFr, intBin, resV, rvVs, rvV, hw, e47, e62, hv, h2, ha, hb, hc, h0, h3]
theorem c41_b6n (x : Spec) (s : State) (e : Event) (hw : IntKind.wrap .i64 ((x.children.l.length : Int) - 1) = (x.children.l.length : Int) - 1) (hv : W.pure 109 [x.av, s.av] = some (I 0)) (h2 : e.kind = 2) (ha : e.child = -1) (hb : e.value = 0) (hc : inR e.time 0 1099511627776 = true) (h0 : s.restarts.l.length = 0) (h3 : ¬ s.status = 4) : okV (evFun W fi103 [x.av, s.av, e.av] []) (fun v _ => v = I 0) := by
  simp [fi103, c103, evFun, enterFr, intBin, resV, rvVs, rvV, hw, e47, e62, hv, h2, ha, hb, hc, h0, h3]
theorem c41_a5s (x : Spec) (s : State) (e : Event) (hw : IntKind.wrap .i64 ((x.children.l.length : Int) - 1) = (x.children.l.length : Int) - 1) (hv : W.pure 109 [x.av, s.av] = some (I 0)) (hwr : IntKind.wrap .i64 ((s.restarts.l.length : Int) - 1) = (s.restarts.l.length : Int) - 1) (h1 : e.kind = 1) (ha : inR e.child 0 ((x.children.l.length : Int) - 1) = true) (hb : reasonB e.value = true) (hc : inR e.time 0 1099511627776 = true) (h0 : 0 < s.restarts.l.length) (h00 : 1 ≤ (s.restarts.l.length : Int)) {t : Int} (ht : s.restarts.l[s.restarts.l.length - 1]? = some t) (hlt : ¬ e.time < t) (hc0 : 0 ≤ e.child) {c : ChildState} (hcs : s.children.l[e.child.toNat]? = some c) (h3 : ¬ c.status = 1) (h4 : ¬ c.status = 2) : okV (evFun W fi103 [x.av, s.av, e.av] []) (fun v _ => v = I 17) := by
  simp [fi103, c103, evFun, enterFr, intBin, resV, rvVs, rvV, hw, e47, e62, hv, h1, ha, hb, hc, hwr, h0, h00, ht, hlt, hc0, hcs, h3, h4]
theorem c41_a6s (x : Spec) (s : State) (e : Event) (hw : IntKind.wrap .i64 ((x.children.l.length : Int) - 1) = (x.children.l.length : Int) - 1) (hv : W.pure 109 [x.av, s.av] = some (I 0)) (hwr : IntKind.wrap .i64 ((s.restarts.l.length : Int) - 1) = (s.restarts.l.length : Int) - 1) (h1 : e.kind = 1) (ha : inR e.child 0 ((x.children.l.length : Int) - 1) = true) (hb : reasonB e.value = true) (hc : inR e.time 0 1099511627776 = true) (h0 : 0 < s.restarts.l.length) (h00 : 1 ≤ (s.restarts.l.length : Int)) {t : Int} (ht : s.restarts.l[s.restarts.l.length - 1]? = some t) (hlt : ¬ e.time < t) (hc0 : 0 ≤ e.child) {c : ChildState} (hcs : s.children.l[e.child.toNat]? = some c) (h3 : c.status = 1) : okV (evFun W fi103 [x.av, s.av, e.av] []) (fun v _ => v = I 0) := by
  simp [fi103, c103, evFun, enterFr, intBin, resV, rvVs, rvV, hw, e47, e62, hv, h1, ha, hb, hc, hwr, h0, h00, ht, hlt, hc0, hcs, h3]
theorem c41_a7s (x : Spec) (s : State) (e : Event) (hw : IntKind.wrap .i64 ((x.children.l.length : Int) - 1) = (x.children.l.length : Int) - 1) (hv : W.pure 109 [x.av, s.av] = some (I 0)) (hwr : IntKind.wrap .i64 ((s.restarts.l.length : Int) - 1) = (s.restarts.l.length : Int) - 1) (h1 : e.kind = 1) (ha : inR e.child 0 ((x.children.l.length : Int) - 1) = true) (hb : reasonB e.value = true) (hc : inR e.time 0 1099511627776 = true) (h0 : 0 < s.restarts.l.length) (h00 : 1 ≤ (s.restarts.l.length : Int)) {t : Int} (ht : s.restarts.l[s.restarts.l.length - 1]? = some t) (hlt : ¬ e.time < t) (hc0 : 0 ≤ e.child) {c : ChildState} (hcs : s.children.l[e.child.toNat]? = some c) (h3 : c.status = 2) : okV (evFun W fi103 [x.av, s.av, e.av] []) (fun v _ => v = I 0) := by
  simp [fi103, c103, evFun, enterFr, intBin, resV, rvVs, rvV, hw, e47, e62, hv, h1, ha, hb, hc, hwr, h0, h00, ht, hlt, hc0, hcs, h3]
theorem c41_b5s (x : Spec) (s : State) (e : Event) (hw : IntKind.wrap .i64 ((x.children.l.length : Int) - 1) = (x.children.l.length : Int) - 1) (hv : W.pure 109 [x.av, s.av] = some (I 0)) (hwr : IntKind.wrap .i64 ((s.restarts.l.length : Int) - 1) = (s.restarts.l.length : Int) - 1) (h2 : e.kind = 2) (ha : e.child = -1) (hb : e.value = 0) (hc : inR e.time 0 1099511627776 = true) (h0 : 0 < s.restarts.l.length) (h00 : 1 ≤ (s.restarts.l.length : Int)) {t : Int} (ht : s.restarts.l[s.restarts.l.length - 1]? = some t) (hlt : ¬ e.time < t) (h3 : s.status = 4) : okV (evFun W fi103 [x.av, s.av, e.av] []) (fun v _ => v = I 17) := by
  simp [fi103, c103, evFun, enterFr, intBin, resV, rvVs, rvV, hw, e47, e62, hv, h2, ha, hb, hc, hwr, h0, h00, ht, hlt, h3]
theorem c41_b6s (x : Spec) (s : State) (e : Event) (hw : IntKind.wrap .i64 ((x.children.l.length : Int) - 1) = (x.children.l.length : Int) - 1) (hv : W.pure 109 [x.av, s.av] = some (I 0)) (hwr : IntKind.wrap .i64 ((s.restarts.l.length : Int) - 1) = (s.restarts.l.length : Int) - 1) (h2 : e.kind = 2) (ha : e.child = -1) (hb : e.value = 0) (hc : inR e.time 0 1099511627776 = true) (h0 : 0 < s.restarts.l.length) (h00 : 1 ≤ (s.restarts.l.length : Int)) {t : Int} (ht : s.restarts.l[s.restarts.l.length - 1]? = some t) (hlt : ¬ e.time < t) (h3 : ¬ s.status = 4) : okV (evFun W fi103 [x.av, s.av, e.av] []) (fun v _ => v = I 0) := by
  simp [fi103, c103, evFun, enterFr, intBin, resV, rvVs, rvV, hw, e47, e62, hv, h2, ha, hb, hc, hwr, h0, h00, ht, hlt, h3]
end
section
open Go Go.RowKit
set_option linter.unusedVariables false
set_option linter.unusedSimpArgs false
set_option maxRecDepth 10000
set_option maxHeartbeats 2000000

theorem ex_eq {o : Option (AV × Heap)} (n : Int) {m : Int} (h : okV o (fun v _ => v = I n)) (e : m = n) : ∃ G, o = some (I m, G) := by
  obtain ⟨v, G, h1, rfl⟩ := okV_iff.1 h
  exact ⟨G, by rw [h1, e]⟩
attribute [local irreducible] okV
theorem ex_of {o : Option (AV × Heap)} {n : Int} (h : okV o (fun v _ => v = I n)) : ∃ G, o = some (I n, G) := ex_eq n h rfl
def malB (x : Spec) (e : Event) : Bool := (if e.kind = 1 then !inR e.child 0 ((x.children.l.length : Int) - 1) || !reasonB e.value else !decide (e.child = -1) || !decide (e.value = 0)) || !inR e.time 0 1099511627776
def staleB (s : State) (e : Event) : Bool := match s.restarts.l[s.restarts.l.length - 1]? with | some t => decide (e.time < t) | none => false
def deadB (s : State) (e : Event) : Bool := if e.kind = 1 then (match s.children.l[e.child.toNat]? with | some c => !decide (c.status = 1) && !decide (c.status = 2) | none => true) else decide (s.status = 4)
def checkN (x : Spec) (s : State) (e : Event) : Int := if ¬ e.kind = 1 ∧ ¬ e.kind = 2 then 8 else if malB x e = true then 2 else if staleB s e = true then 9 else if deadB s e = true then 17 else 0
theorem e37 (x : Spec) (s : State) (e : Event) (hx : x.children.l.length = s.children.l.length) (hl : s.children.l.length ≤ 100000) (hr : s.restarts.l.length ≤ 1000000) : ∃ G, evFun W fi43 [x.av, s.av, e.av] [] = some (I (checkN x s e), G) := by
  have hw : IntKind.wrap .i64 ((x.children.l.length : Int) - 1) = (x.children.l.length : Int) - 1 := wrap_pred (by omega)
  have hwr : IntKind.wrap .i64 ((s.restarts.l.length : Int) - 1) = (s.restarts.l.length : Int) - 1 := wrap_pred (by omega)
  by_cases h1 : e.kind = 1
  · cases ha : inR e.child 0 ((x.children.l.length : Int) - 1) with
    | false =>
      have hk : checkN x s e = 2 := by simp [checkN, malB, h1, ha]
      rw [hk]; apply ex_of; apply c37_a1 x s e hw h1 ha
    | true =>
    cases hb : reasonB e.value with
    | false =>
      have hk : checkN x s e = 2 := by simp [checkN, malB, h1, ha, hb]
      rw [hk]; apply ex_of; apply c37_a2 x s e hw h1 ha hb
    | true =>
    cases hc : inR e.time 0 1099511627776 with
    | false =>
      have hk : checkN x s e = 2 := by simp [checkN, malB, h1, ha, hb, hc]
      rw [hk]; apply ex_of; apply c37_a3 x s e hw h1 ha hb hc
    | true =>
    have hin : 0 ≤ e.child ∧ e.child ≤ (x.children.l.length : Int) - 1 := by simpa [inR] using ha
    have hcl : e.child.toNat < s.children.l.length := by omega
    have hcs : s.children.l[e.child.toNat]? = some s.children.l[e.child.toNat] := List.getElem?_eq_getElem hcl
    have hmal : malB x e = false := by simp [malB, h1, ha, hb, hc]
    have hdead : deadB s e = (!decide ((s.children.l[e.child.toNat]).status = 1) && !decide ((s.children.l[e.child.toNat]).status = 2)) := by simp only [deadB, if_pos h1, hcs]
    have hkind : ¬ (¬ e.kind = 1 ∧ ¬ e.kind = 2) := fun h => h.1 h1
    have hck : checkN x s e = if staleB s e = true then 9 else if deadB s e = true then 17 else 0 := by
      simp only [checkN, if_neg hkind, hmal, Bool.false_eq_true, if_false]
    rw [hck, hdead]
    by_cases hz : s.restarts.l.length = 0
    · have hst : staleB s e = false := by
        have : s.restarts.l = [] := by simpa using hz
        simp [staleB, this]
      rw [hst]
      by_cases h3 : (s.children.l[e.child.toNat]).status = 1
      · (apply ex_eq 0; apply c37_a6n x s e hw h1 ha hb hc hz hin.1 hcs h3; simp [h3])
      · by_cases h4 : (s.children.l[e.child.toNat]).status = 2
        · (apply ex_eq 0; apply c37_a7n x s e hw h1 ha hb hc hz hin.1 hcs h4; simp [h4])
        · (apply ex_eq 17; apply c37_a5n x s e hw h1 ha hb hc hz hin.1 hcs h3 h4; simp [h3, h4])
    · have h0 : 0 < s.restarts.l.length := by omega
      have h00 : 1 ≤ (s.restarts.l.length : Int) := by omega
      have ht : s.restarts.l[s.restarts.l.length - 1]? = some s.restarts.l[s.restarts.l.length - 1] := List.getElem?_eq_getElem (by omega)
      have hst : staleB s e = decide (e.time < s.restarts.l[s.restarts.l.length - 1]) := by simp only [staleB, ht]
      rw [hst]
      by_cases hlt : e.time < s.restarts.l[s.restarts.l.length - 1]
      · rw [if_pos (by simpa using hlt)]
        apply ex_of; apply c37_a4 x s e hw hwr h1 ha hb hc h0 h00 ht hlt
      · rw [if_neg (by simpa using hlt)]
        by_cases h3 : (s.children.l[e.child.toNat]).status = 1
        · (apply ex_eq 0; apply c37_a6s x s e hw hwr h1 ha hb hc h0 h00 ht hlt hin.1 hcs h3; simp [h3])
        · by_cases h4 : (s.children.l[e.child.toNat]).status = 2
          · (apply ex_eq 0; apply c37_a7s x s e hw hwr h1 ha hb hc h0 h00 ht hlt hin.1 hcs h4; simp [h4])
          · (apply ex_eq 17; apply c37_a5s x s e hw hwr h1 ha hb hc h0 h00 ht hlt hin.1 hcs h3 h4; simp [h3, h4])
  · by_cases h2 : e.kind = 2
    · by_cases ha : e.child = -1
      · by_cases hb : e.value = 0
        · cases hc : inR e.time 0 1099511627776 with
          | false =>
            have hk : checkN x s e = 2 := by simp [checkN, malB, h1, h2, ha, hb, hc]
            rw [hk]; apply ex_of; apply c37_b3 x s e hw h2 ha hb hc
          | true =>
          have hmal : malB x e = false := by simp [malB, h1, h2, ha, hb, hc]
          have hdead : deadB s e = decide (s.status = 4) := by simp only [deadB, if_neg h1]
          have hkind : ¬ (¬ e.kind = 1 ∧ ¬ e.kind = 2) := fun h => h.2 h2
          have hck : checkN x s e = if staleB s e = true then 9 else if deadB s e = true then 17 else 0 := by
            simp only [checkN, if_neg hkind, hmal, Bool.false_eq_true, if_false]
          rw [hck, hdead]
          by_cases hz : s.restarts.l.length = 0
          · have hst : staleB s e = false := by
              have : s.restarts.l = [] := by simpa using hz
              simp [staleB, this]
            rw [hst]
            by_cases h3 : s.status = 4
            · (apply ex_eq 17; apply c37_b5n x s e hw h2 ha hb hc hz h3; simp [h3])
            · (apply ex_eq 0; apply c37_b6n x s e hw h2 ha hb hc hz h3; simp [h3])
          · have h0 : 0 < s.restarts.l.length := by omega
            have h00 : 1 ≤ (s.restarts.l.length : Int) := by omega
            have ht : s.restarts.l[s.restarts.l.length - 1]? = some s.restarts.l[s.restarts.l.length - 1] := List.getElem?_eq_getElem (by omega)
            have hst : staleB s e = decide (e.time < s.restarts.l[s.restarts.l.length - 1]) := by simp only [staleB, ht]
            rw [hst]
            by_cases hlt : e.time < s.restarts.l[s.restarts.l.length - 1]
            · rw [if_pos (by simpa using hlt)]
              apply ex_of; apply c37_b4 x s e hw hwr h2 ha hb hc h0 h00 ht hlt
            · rw [if_neg (by simpa using hlt)]
              by_cases h3 : s.status = 4
              · (apply ex_eq 17; apply c37_b5s x s e hw hwr h2 ha hb hc h0 h00 ht hlt h3; simp [h3])
              · (apply ex_eq 0; apply c37_b6s x s e hw hwr h2 ha hb hc h0 h00 ht hlt h3; simp [h3])
        · have hk : checkN x s e = 2 := by simp [checkN, malB, h1, h2, ha, hb]
          rw [hk]; apply ex_of; apply c37_b2 x s e hw h2 ha hb
      · have hk : checkN x s e = 2 := by simp [checkN, malB, h1, h2, ha]
        rw [hk]; apply ex_of; apply c37_b1 x s e hw h2 ha
    · have hk : checkN x s e = 8 := by simp [checkN, h1, h2]
      rw [hk]; apply ex_of; apply c37_kind x s e hw h1 h2
theorem e41 (x : Spec) (s : State) (e : Event) (hx : x.children.l.length = s.children.l.length) (hl : s.children.l.length ≤ 100000) (hr : s.restarts.l.length ≤ 1000000) (hv : W.pure 109 [x.av, s.av] = some (I 0)) : ∃ G, evFun W fi103 [x.av, s.av, e.av] [] = some (I (checkN x s e), G) := by
  have hw : IntKind.wrap .i64 ((x.children.l.length : Int) - 1) = (x.children.l.length : Int) - 1 := wrap_pred (by omega)
  have hwr : IntKind.wrap .i64 ((s.restarts.l.length : Int) - 1) = (s.restarts.l.length : Int) - 1 := wrap_pred (by omega)
  by_cases h1 : e.kind = 1
  · cases ha : inR e.child 0 ((x.children.l.length : Int) - 1) with
    | false =>
      have hk : checkN x s e = 2 := by simp [checkN, malB, h1, ha]
      rw [hk]; apply ex_of; apply c41_a1 x s e hw hv h1 ha
    | true =>
    cases hb : reasonB e.value with
    | false =>
      have hk : checkN x s e = 2 := by simp [checkN, malB, h1, ha, hb]
      rw [hk]; apply ex_of; apply c41_a2 x s e hw hv h1 ha hb
    | true =>
    cases hc : inR e.time 0 1099511627776 with
    | false =>
      have hk : checkN x s e = 2 := by simp [checkN, malB, h1, ha, hb, hc]
      rw [hk]; apply ex_of; apply c41_a3 x s e hw hv h1 ha hb hc
    | true =>
    have hin : 0 ≤ e.child ∧ e.child ≤ (x.children.l.length : Int) - 1 := by simpa [inR] using ha
    have hcl : e.child.toNat < s.children.l.length := by omega
    have hcs : s.children.l[e.child.toNat]? = some s.children.l[e.child.toNat] := List.getElem?_eq_getElem hcl
    have hmal : malB x e = false := by simp [malB, h1, ha, hb, hc]
    have hdead : deadB s e = (!decide ((s.children.l[e.child.toNat]).status = 1) && !decide ((s.children.l[e.child.toNat]).status = 2)) := by simp only [deadB, if_pos h1, hcs]
    have hkind : ¬ (¬ e.kind = 1 ∧ ¬ e.kind = 2) := fun h => h.1 h1
    have hck : checkN x s e = if staleB s e = true then 9 else if deadB s e = true then 17 else 0 := by
      simp only [checkN, if_neg hkind, hmal, Bool.false_eq_true, if_false]
    rw [hck, hdead]
    by_cases hz : s.restarts.l.length = 0
    · have hst : staleB s e = false := by
        have : s.restarts.l = [] := by simpa using hz
        simp [staleB, this]
      rw [hst]
      by_cases h3 : (s.children.l[e.child.toNat]).status = 1
      · (apply ex_eq 0; apply c41_a6n x s e hw hv h1 ha hb hc hz hin.1 hcs h3; simp [h3])
      · by_cases h4 : (s.children.l[e.child.toNat]).status = 2
        · (apply ex_eq 0; apply c41_a7n x s e hw hv h1 ha hb hc hz hin.1 hcs h4; simp [h4])
        · (apply ex_eq 17; apply c41_a5n x s e hw hv h1 ha hb hc hz hin.1 hcs h3 h4; simp [h3, h4])
    · have h0 : 0 < s.restarts.l.length := by omega
      have h00 : 1 ≤ (s.restarts.l.length : Int) := by omega
      have ht : s.restarts.l[s.restarts.l.length - 1]? = some s.restarts.l[s.restarts.l.length - 1] := List.getElem?_eq_getElem (by omega)
      have hst : staleB s e = decide (e.time < s.restarts.l[s.restarts.l.length - 1]) := by simp only [staleB, ht]
      rw [hst]
      by_cases hlt : e.time < s.restarts.l[s.restarts.l.length - 1]
      · rw [if_pos (by simpa using hlt)]
        apply ex_of; apply c41_a4 x s e hw hv hwr h1 ha hb hc h0 h00 ht hlt
      · rw [if_neg (by simpa using hlt)]
        by_cases h3 : (s.children.l[e.child.toNat]).status = 1
        · (apply ex_eq 0; apply c41_a6s x s e hw hv hwr h1 ha hb hc h0 h00 ht hlt hin.1 hcs h3; simp [h3])
        · by_cases h4 : (s.children.l[e.child.toNat]).status = 2
          · (apply ex_eq 0; apply c41_a7s x s e hw hv hwr h1 ha hb hc h0 h00 ht hlt hin.1 hcs h4; simp [h4])
          · (apply ex_eq 17; apply c41_a5s x s e hw hv hwr h1 ha hb hc h0 h00 ht hlt hin.1 hcs h3 h4; simp [h3, h4])
  · by_cases h2 : e.kind = 2
    · by_cases ha : e.child = -1
      · by_cases hb : e.value = 0
        · cases hc : inR e.time 0 1099511627776 with
          | false =>
            have hk : checkN x s e = 2 := by simp [checkN, malB, h1, h2, ha, hb, hc]
            rw [hk]; apply ex_of; apply c41_b3 x s e hw hv h2 ha hb hc
          | true =>
          have hmal : malB x e = false := by simp [malB, h1, h2, ha, hb, hc]
          have hdead : deadB s e = decide (s.status = 4) := by simp only [deadB, if_neg h1]
          have hkind : ¬ (¬ e.kind = 1 ∧ ¬ e.kind = 2) := fun h => h.2 h2
          have hck : checkN x s e = if staleB s e = true then 9 else if deadB s e = true then 17 else 0 := by
            simp only [checkN, if_neg hkind, hmal, Bool.false_eq_true, if_false]
          rw [hck, hdead]
          by_cases hz : s.restarts.l.length = 0
          · have hst : staleB s e = false := by
              have : s.restarts.l = [] := by simpa using hz
              simp [staleB, this]
            rw [hst]
            by_cases h3 : s.status = 4
            · (apply ex_eq 17; apply c41_b5n x s e hw hv h2 ha hb hc hz h3; simp [h3])
            · (apply ex_eq 0; apply c41_b6n x s e hw hv h2 ha hb hc hz h3; simp [h3])
          · have h0 : 0 < s.restarts.l.length := by omega
            have h00 : 1 ≤ (s.restarts.l.length : Int) := by omega
            have ht : s.restarts.l[s.restarts.l.length - 1]? = some s.restarts.l[s.restarts.l.length - 1] := List.getElem?_eq_getElem (by omega)
            have hst : staleB s e = decide (e.time < s.restarts.l[s.restarts.l.length - 1]) := by simp only [staleB, ht]
            rw [hst]
            by_cases hlt : e.time < s.restarts.l[s.restarts.l.length - 1]
            · rw [if_pos (by simpa using hlt)]
              apply ex_of; apply c41_b4 x s e hw hv hwr h2 ha hb hc h0 h00 ht hlt
            · rw [if_neg (by simpa using hlt)]
              by_cases h3 : s.status = 4
              · (apply ex_eq 17; apply c41_b5s x s e hw hv hwr h2 ha hb hc h0 h00 ht hlt h3; simp [h3])
              · (apply ex_eq 0; apply c41_b6s x s e hw hv hwr h2 ha hb hc h0 h00 ht hlt h3; simp [h3])
        · have hk : checkN x s e = 2 := by simp [checkN, malB, h1, h2, ha, hb]
          rw [hk]; apply ex_of; apply c41_b2 x s e hw hv h2 ha hb
      · have hk : checkN x s e = 2 := by simp [checkN, malB, h1, h2, ha]
        rw [hk]; apply ex_of; apply c41_b1 x s e hw hv h2 ha
    · have hk : checkN x s e = 8 := by simp [checkN, h1, h2]
      rw [hk]; apply ex_of; apply c41_kind x s e hw hv h1 h2
end
section
open Go Go.RowKit
set_option linter.unusedVariables false
set_option linter.unusedSimpArgs false
set_option maxRecDepth 10000
set_option maxHeartbeats 2000000

theorem Does.r {mk : Mk} {p c cv : Nat} {o : Option Nat} {rv : AV} {H : Heap} {r' : RunSt} {v : AV} {H' : Heap} (h : Does mk p c cv o rv H r' v H') (hn : NilOk rv) : DoesR mk p c cv o H r' v H' := by
  obtain ⟨h1, o', ov', h2, h3⟩ := h
  exact ⟨h1, o', rv, ov', h2, h3, hn⟩
theorem DoesR.pre {mk : Mk} {p c cv : Nat} {o : Option Nat} {H G : Heap} {r' : RunSt} {v : AV} {H' : Heap} (hk : Kept none H G) (h : DoesR mk p c cv o G r' v H') : DoesR mk p c cv o H r' v H' := by
  obtain ⟨h1, o', rv', ov', h2, h3, h4⟩ := h
  exact ⟨h1, o', rv', ov', h2, (Frame.of_kept hk).trans h3, h4⟩
def exitedS (x : Spec) (tm : Int) (n : Nat) (ch : Child) (cs : ChildState) (reason : Int) (r : RunSt) : RunSt := if cs.status = 1 then runningS x tm n ch reason r else stoppingS tm n ch r
theorem e39 (x : Spec) (tm : Int) (e : Event) {H : Heap} {p c cv : Nat} {o : Option Nat} {ov : AV} {r : RunSt} {s : Sl Int} (h : RunI (mkP x tm) H p c cv o (Sl.ints s) ov r) (hs : KnownNil s) (hsl : s.l = r.rs) (hrl : r.rs.length ≤ 100000) (hn : r.cs.length ≤ 1000) (hx : x.children.l.length = r.cs.length) (hstr : inR x.strategy 1 3 = true) (hl : r.out.length ≤ 100000) (n : Nat) (hk : n < r.cs.length) (he : e.child = n) (ch : Child) (hch : x.children.l[n]? = some ch) (cs : ChildState) (hcs : r.cs[n]? = some cs) :
    okV (evFun W fi45 [.optr p 0 0 0, e.av] H) (DoesR (mkP x tm) p c cv o H (exitedS x tm n ch cs e.value r)) := by
  have hK := Kept.append none H [.arr 0 4 false [e.av]]
  have k := h.kept hK
  have hp := k.hp
  have hc := k.hc
  have hcs' : r.cs[n] = cs := (List.getElem?_eq_some_iff.1 hcs).2
  simp only [mkP] at hp
  unfold exitedS
  by_cases h1 : cs.status = 1
  · rw [if_pos h1]
    obtain ⟨v, G, a0, a1⟩ := okV_iff.1 (e59 x tm k hs hsl hrl hn hx hstr hl n hk ch hch e.value)
    have hv := a1.1
    subst hv
    have cq59 : W.call (.clo 68 [] []) [.optr p 0 0 0, I n, I e.value] (H ++ [.arr 0 4 false [e.av]]) = some (.tuple [], G) := by rw [W_call Φ68]; exact a0
    have : okV (evFun W fi45 [.optr p 0 0 0, e.av] H) (fun v G' => v = .tuple [] ∧ G' = G) := by
      simp [fi45, c45, evFun, enterFr, intBin, resV, rvVs, rvV, hp, hc, he, hk, hcs', h1, cq59]
    obtain ⟨v, G', g1, rfl, rfl⟩ := okV_iff.1 this
    rw [g1]
    exact a1.pre hK
  · rw [if_neg h1]
    obtain ⟨v, G, a0, a1⟩ := okV_iff.1 (e60 x tm k hn hl n hk ch hch)
    have hv := a1.1
    subst hv
    have cq60 : W.call (.clo 69 [] []) [.optr p 0 0 0, I n] (H ++ [.arr 0 4 false [e.av]]) = some (.tuple [], G) := by rw [W_call Φ69]; exact a0
    have : okV (evFun W fi45 [.optr p 0 0 0, e.av] H) (fun v G' => v = .tuple [] ∧ G' = G) := by
      simp [fi45, c45, evFun, enterFr, intBin, resV, rvVs, rvV, hp, hc, he, hk, hcs', h1, cq60]
    obtain ⟨v, G', g1, rfl, rfl⟩ := okV_iff.1 this
    rw [g1]
    exact (a1.r (NilOk.of hs)).pre hK
def askedS (tm : Int) (r : RunSt) : RunSt := if r.st = 3 then r else shutS tm r
theorem e40 (x : Spec) (tm : Int) (e : Event) {H : Heap} {p c cv : Nat} {o : Option Nat} {rv ov : AV} {r : RunSt} (h : RunI (mkP x tm) H p c cv o rv ov r) (hv : NilOk rv) (hn : r.cs.length ≤ 1000) (hl : r.out.length ≤ 100000) :
    okV (evFun W fi46 [.optr p 0 0 0, e.av] H) (DoesR (mkP x tm) p c cv o H (askedS tm r)) := by
  have hK := Kept.append none H [.arr 0 4 false [e.av]]
  have k := h.kept hK
  have hp := k.hp
  simp only [mkP] at hp
  unfold askedS
  by_cases h1 : r.st = 3
  · rw [if_pos h1]
    have : okV (evFun W fi46 [.optr p 0 0 0, e.av] H) (fun v G' => v = .tuple [] ∧ G' = (H ++ [.arr 0 4 false [e.av]])) := by
      simp [fi46, c46, evFun, enterFr, intBin, resV, rvVs, rvV, hp, h1]
    obtain ⟨v, G', g1, rfl, rfl⟩ := okV_iff.1 this
    rw [g1]
    exact ⟨rfl, o, rv, ov, k, Frame.of_kept hK, hv⟩
  · rw [if_neg h1]
    obtain ⟨v, G, a0, a1⟩ := okV_iff.1 (e61 x tm k hn (by omega))
    have hv := a1.1
    subst hv
    have cq61 : W.call (.clo 70 [] []) [.optr p 0 0 0] (H ++ [.arr 0 4 false [e.av]]) = some (.tuple [], G) := by rw [W_call Φ70]; exact a0
    have : okV (evFun W fi46 [.optr p 0 0 0, e.av] H) (fun v G' => v = .tuple [] ∧ G' = G) := by
      simp [fi46, c46, evFun, enterFr, intBin, resV, rvVs, rvV, hp, h1, cq61]
    obtain ⟨v, G', g1, rfl, rfl⟩ := okV_iff.1 this
    rw [g1]
    exact (a1.r hv).pre hK
theorem e38 (s : Sl ChildState) (hs : KnownNil s) (hl : s.l.length ≤ 1000000) (hz : s.l ≠ []) (H : Heap) :
    okV (evFun W fi44 [Sl.av ChildState.av 2 s] H) (fun v G => ∃ ver, v = .osl H.length ver 0 s.l.length ∧ G[H.length]? = some (.arr ver 2 false (s.l.map ChildState.av)) ∧ Kept none H G) := by
  obtain ⟨nl, z, l⟩ := s
  rcases hs with ⟨h1, h2⟩ | h1
  · exact absurd h2 hz
  · simp only at h1 hl hz
    subst h1
    have hK := Kept.append none H [.arr 0 2 false []]
    have hg : Grow (H ++ [.arr 0 2 false []]) 2 (some H.length) (.osl H.length 0 0 0) ([] : List AV) := grow_mk (l := []) (by simp)
    have hne : l.map ChildState.av ≠ [] := by simpa using hz
    have e0 : ex (H ++ [.arr 0 2 false []]) (.app 2) [.osl H.length 0 0 0, Sl.av ChildState.av 2 ⟨some false, z, l⟩] = some (.osl H.length l.length 0 l.length, H ++ [.arr l.length 2 false (l.map ChildState.av)]) := by
      have hlm : (l.map ChildState.av).length = l.length := by simp
      have hall := all_cell (f := ChildState.av) (fun x => by simp) l
      simp only [ex, sl_elems, hall, if_true]
      rw [← hlm]
      rw [← hlm] at hl
      generalize l.map ChildState.av = m at *
      cases m with
      | nil => exact absurd rfl hne
      | cons a m =>
        have ht : truncH (H ++ [.arr 0 2 false []]) (.osl H.length 0 0 0) = H ++ [.arr 0 2 false []] := by simp [truncH]
        rw [ht]
        have hg : (H ++ [Blk.arr 0 2 false []])[H.length]? = some (.arr 0 2 false []) := by simp
        have hsz : m.length + 1 ≤ 1073741824 := by simp at hl; omega
        simp [exApp, appRoom, hsz]
    simp [fi44, c44, evFun, enterFr, intBin, resV, rvVs, rvV, e0]
    exact Kept.append none H _
end
section
open Go Go.RowKit
set_option linter.unusedVariables false
set_option linter.unusedSimpArgs false
set_option maxRecDepth 10000
set_option maxHeartbeats 4000000

def runOf (s : State) : RunSt := ⟨s.status, s.children.l, s.restarts.l, s.failed, []⟩
def handleR (x : Spec) (s : State) (e : Event) : RunSt :=
  if e.kind = 1 then (match x.children.l[e.child.toNat]?, s.children.l[e.child.toNat]? with
    | some ch, some cs => exitedS x e.time e.child.toNat ch cs e.value (runOf s)
    | _, _ => runOf s)
  else askedS e.time (runOf s)
def handleE (x : Spec) (s : State) (e : Event) : Int := if validB x s = true then checkN x s e else 1
/-- Is it the state of this record? -/
structure StOk (t : State) (r : RunSt) : Prop where
  st : t.status = r.st
  cs : t.children.l = r.cs
  rs : t.restarts.l = r.rs
  fl : t.failed = r.fl
  k1 : KnownNil t.children
  k2 : KnownNil t.restarts
abbrev zeroState : State := ⟨0, slNil, slNil, false⟩
def HandleOk (nv : AV) (x : Spec) (s : State) (e : Event) (v : AV) : Prop :=
  if handleE x s e = 0 then ∃ (t : State) (a : Sl Event), v = .tuple [t.av, Sl.av Event.av 4 a, I 0] ∧ StOk t (handleR x s e) ∧ a.l = (handleR x s e).out
  else v = .tuple [zeroState.av, nv, I (handleE x s e)]
theorem valid_facts {x : Spec} {s : State} (h : validB x s = true) : chk x = 0 ∧ s.children.l.length = x.children.l.length ∧ (s.restarts.l.length : Int) ≤ x.intensity ∧ s.children.l.all childOk = true ∧ fitsB x s = true ∧ timesB s.restarts.l x.window = true := by
  simp only [validB, childrenB, Bool.and_eq_true, decide_eq_true_eq] at h
  obtain ⟨⟨⟨h1, ⟨h2, h3⟩, h4⟩, h5, h6⟩, h7⟩ := h
  exact ⟨h1, h2, h6, h3, h4, h5⟩
theorem check_facts {x : Spec} {s : State} {e : Event} (h : checkN x s e = 0) : (e.kind = 1 ∧ inR e.child 0 ((x.children.l.length : Int) - 1) = true ∧ reasonB e.value = true ∨ e.kind = 2 ∧ e.child = -1 ∧ e.value = 0) ∧ inR e.time 0 1099511627776 = true ∧ staleB s e = false ∧ deadB s e = false := by
  unfold checkN at h
  split at h
  · cases h
  · rename_i hk
    split at h
    · cases h
    · rename_i hm
      split at h
      · cases h
      · rename_i hs
        split at h
        · cases h
        · rename_i hd
          have hm' : malB x e = false := by simpa using hm
          refine ⟨?_, ?_, by simpa using hs, by simpa using hd⟩
          · by_cases h1 : e.kind = 1
            · simp [malB, h1] at hm'
              exact .inl ⟨h1, hm'.1.1, hm'.1.2⟩
            · have h2 : e.kind = 2 := by
                by_cases h2 : e.kind = 2
                · exact h2
                · exact absurd ⟨h1, h2⟩ hk
              simp [malB, h2] at hm'
              exact .inr ⟨h2, hm'.1.1, hm'.1.2⟩
          · by_cases h1 : e.kind = 1
            · simp [malB, h1] at hm'; exact hm'.2
            · simp [malB, h1] at hm'; exact hm'.2
/-- What is given back of the record. -/
theorem RunI.frz {mk : Mk} {H : Heap} {p c cv : Nat} {o : Option Nat} {rv ov : AV} {r : RunSt} (h : RunI mk H p c cv o rv ov r) (hn : NilOk rv) :
    ∃ (t : State) (a : Sl Event), Go.Proofs.Ytjknjapdcphcfaa.frz H 8 (.tuple [.agg [I r.st, .osl c cv 0 r.cs.length, rv, .bool r.fl], ov, I 0]) = some (.tuple [t.av, Sl.av Event.av 4 a, I 0]) ∧ StOk t r ∧ a.l = r.out := by
  obtain ⟨s, h1, h2, h3⟩ := h.rs.frzK hn 5
  have ho := h.out.sl (n := 6) (all_still (fun x => by simp) _)
  have hc : Go.Proofs.Ytjknjapdcphcfaa.frz H 6 (.osl c cv 0 r.cs.length) = some (.isl (some false) 2 (r.cs.map ChildState.av)) := frz_full (n := 5) h.hc (by simp) (all_still (fun x => by simp) _)
  refine ⟨⟨r.st, ofL 2 r.cs, s, r.fl⟩, if o = none then slNil else ofL 4 r.out, ?_, ⟨rfl, rfl, h2, rfl, .inr rfl, h3⟩, ?_⟩
  · simp only [frz_tuple, frzs_cons, frzs_nil, frz_agg, frz_int, frz_bool, h1, hc, ho, consO_some, Option.map_some]
    rw [isl_sl]
    rfl
  · cases o with
    | none => have := h.out.2; simp at this; simp [this]
    | some i => rfl
theorem start13 (x : Spec) (s : State) (e : Event) (H : Heap) (h4 : H.length = 4) (hne : s.children.l ≠ []) (cv : Nat) {G : Heap} (hG : G[5]? = some (.arr cv 2 false (s.children.l.map ChildState.av))) (hK : Kept none (H ++ [.arr 0 10 false [mkP x e.time s.status (Sl.av ChildState.av 2 s.children) (Sl.ints s.restarts) s.failed (.isl (some true) 0 [])]]) G) (b : Blk) :
    RunI (mkP x e.time) (G.set 4 (.arr 0 10 false [mkP x e.time s.status (.osl 5 cv 0 s.children.l.length) (Sl.ints s.restarts) s.failed (.isl (some true) 0 [])]) ++ [b]) 4 5 cv none (Sl.ints s.restarts) (.isl (some true) 0 []) (runOf s) := by
  have h5 := (List.getElem?_eq_some_iff.1 hG).1
  refine ⟨?_, ?_, .inl ⟨_, rfl, rfl⟩, grow_nil _ _, by decide, by simp, by simp⟩
  · rw [List.getElem?_append_left (by simp; omega), List.getElem?_set_self (by omega)]; rfl
  · rw [List.getElem?_append_left (by simp; omega), List.getElem?_set_ne (by decide)]; exact hG
@[simp] theorem setZ (a b c d : AV) : setElem [zeroState.av] 0 0 (.agg [a, b, c, d]) = some [.agg [a, b, c, d]] := rfl
@[simp] theorem apart_oo (i a b c i' a' b' c' : Nat) : apart (.optr i a b c) (.optr i' a' b' c') = (i != i') := rfl
@[simp high] theorem bld13 (x : Spec) (s : State) (tm : Int) : bldV [.int .i64 0, .isl (some true) 0 [], .isl (some true) 0 [], .bool false, .int .i64 0, .int .i64 0, .int .i64 0, .isl (some true) 0 [], .int .i64 0, .isl (some true) 0 []] [(0, 4), (4, 4), (8, 1)] [s.av, x.av, I tm] = mkP x tm s.status (Sl.av ChildState.av 2 s.children) (Sl.ints s.restarts) s.failed (.isl (some true) 0 []) := rfl
@[simp high] theorem bld14 (x : Spec) (s : State) (tm : Int) : bldV [.int .i64 0, .int .i64 0, .int .i64 0, .isl (some true) 0 [], .int .i64 0, .isl (some true) 0 [], .isl (some true) 0 [], .bool false, .int .i64 0, .isl (some true) 0 []] [(0, 4), (4, 4), (8, 1)] [x.av, s.av, I tm] = mkR x tm s.status (Sl.av ChildState.av 2 s.children) (Sl.ints s.restarts) s.failed (.isl (some true) 0 []) := rfl
/-- The record as given back, and what it is then. -/
theorem end13 {mk : Mk} {H G : Heap} {cv : Nat} {o' : Option Nat} {rv ov : AV} {r : RunSt} (h : RunI mk G 4 5 cv o' rv ov r) (hn : NilOk rv) (hf : Frame 4 5 none o' H G) (hl : 4 ≤ H.length) {z : AV} (h3 : H[3]? = some (.arr 0 4 false [z])) (y : AV) :
    G[3]? = some (.arr 0 4 false [z]) ∧ ∃ (t : State) (a : Sl Event), Go.Proofs.Ytjknjapdcphcfaa.frz (G.set 3 (.arr 0 4 false [y])) 8 (.tuple [.agg [I r.st, .osl 5 cv 0 r.cs.length, rv, .bool r.fl], ov, I 0]) = some (.tuple [t.av, Sl.av Event.av 4 a, I 0]) ∧ StOk t r ∧ a.l = r.out := by
  have g3 := hf.get h3 (by decide) (by decide) (by simp)
  refine ⟨g3, ?_⟩
  have hk := Kept.set 3 G (.arr 0 4 false [y])
  refine (h.keptQ hk (fun i hi => ?_) (fun i ver off len e hi => ?_)).frz hn
  · cases hi
    refine ⟨by decide, by decide, fun e => ?_⟩
    rcases hf.new 3 e with h1 | h1
    · cases h1
    · omega
  · cases hi
    rcases h.rs with ⟨s, h1, _⟩ | ⟨q, ⟨ver', t, h1, h2⟩, _⟩
    · rw [e] at h1; cases h1
    · rw [e] at h1; cases h1
      rw [g3] at h2; cases h2
theorem e13 (x : Spec) (s : State) (e : Event) (hn : ∀ c ∈ x.children.l, c.name.length ≤ 1000000) (hx : x.children.l.length ≤ 1000000) (hl : s.children.l.length ≤ 1000000) (hr : s.restarts.l.length ≤ 1000000) (hk1 : KnownNil s.children) (hk2 : KnownNil s.restarts) :
    ∃ v, W.pure 16 [x.av, s.av, e.av] = some v ∧ HandleOk (.isl (some true) 0 []) x s e v := by
  have h15 := e15 x hn hx s hl hr
  unfold HandleOk
  by_cases hv : validB x s = true
  · rw [if_pos hv] at h15
    obtain ⟨hc0, hcl, hri, hco, hfi, hti⟩ := valid_facts hv
    have hlen := chk_len hc0
    have hck := chk_ok hc0
    have hint : x.intensity ≤ 100 := by have := hck.2.1; simp [inR] at this; exact this.2
    have h37 : W.pure 43 [x.av, s.av, e.av] = some (I (checkN x s e)) := by
      rw [W_pure Φ43 (by simp)]
      obtain ⟨G, g1⟩ := e37 x s e hcl.symm (by omega) hr
      rw [g1]; rfl
    have hE : handleE x s e = checkN x s e := by unfold handleE; rw [if_pos hv]
    rw [hE]
    by_cases hc : checkN x s e = 0
    · simp only [if_pos hc]
      rw [hc] at h37
      obtain ⟨hkind, htime, _, hdead⟩ := check_facts hc
      have hne : s.children.l ≠ [] := by intro e; rw [e] at hcl; simp at hcl; omega
      -- the children's states, cloned
      obtain ⟨v, G, a0, cv, rfl, a1, a2⟩ := okV_iff.1 (e38 s.children hk1 hl hne [.arr 0 4 false [x.av], .arr 0 4 false [s.av], .arr 0 4 false [e.av], .arr 0 4 false [zeroState.av], .arr 0 10 false [mkP x e.time s.status (Sl.av ChildState.av 2 s.children) (Sl.ints s.restarts) s.failed (.isl (some true) 0 [])]])
      simp only [List.length_cons, List.length_nil, Nat.zero_add, Nat.reduceAdd] at a0 a1
      have cq38 : W.call (.clo 44 [] []) [Sl.av ChildState.av 2 s.children] [.arr 0 4 false [x.av], .arr 0 4 false [s.av], .arr 0 4 false [e.av], .arr 0 4 false [zeroState.av], .arr 0 10 false [mkP x e.time s.status (Sl.av ChildState.av 2 s.children) (Sl.ints s.restarts) s.failed (.isl (some true) 0 [])]] = some (.osl 5 cv 0 s.children.l.length, G) := by rw [W_call Φ44]; exact a0
      have g2 := a2.get (j := 2) (by simp) rfl
      have g3 := a2.get (j := 3) (by simp) rfl
      have g4 := a2.get (j := 4) (by simp) rfl
      have hGl := (List.getElem?_eq_some_iff.1 a1).1
      have hz : (.agg [I 0, .isl (some true) 0 [], .isl (some true) 0 [], .bool false] : AV) = zeroState.av := rfl
      have R0 := start13 x s e [.arr 0 4 false [x.av], .arr 0 4 false [s.av], .arr 0 4 false [e.av], .arr 0 4 false [zeroState.av]] rfl hne cv a1 (by exact a2)
      simp only [mkP] at cq38 g4 R0
      have gs : ∀ y : Blk, (G.set 4 y)[4]? = some y := fun y => List.getElem?_set_self (by omega)
      have gm : ∀ y b : Blk, (G.set 4 y ++ [b])[2]? = some (.arr 0 4 false [e.av]) := fun y b => by rw [List.getElem?_append_left (by simp; omega), List.getElem?_set_ne (by decide)]; exact g2
      have hlm : ∀ (A : Heap) (b c : Blk), (A ++ [b]).set A.length c = A ++ [c] := fun A b c => by simp
      rcases hkind with ⟨h1, hin, hrs⟩ | ⟨h2, hch, hval⟩
      · have R1 := R0 (.mp [(I 1, .clo 45 [.optr 4 0 0 0] []), (I 2, .clo 46 [.optr 4 0 0 0] [])])
        have hin' : 0 ≤ e.child ∧ e.child ≤ (x.children.l.length : Int) - 1 := by simpa [inR] using hin
        have hcl1 : e.child.toNat < x.children.l.length := by omega
        have hcl2 : e.child.toNat < s.children.l.length := by omega
        have hch := List.getElem?_eq_getElem hcl1
        have hcs := List.getElem?_eq_getElem hcl2
        have hR : handleR x s e = exitedS x e.time e.child.toNat x.children.l[e.child.toNat] s.children.l[e.child.toNat] e.value (runOf s) := by unfold handleR; rw [if_pos h1]; simp only [hch, hcs]
        rw [hR]
        obtain ⟨v, G2, b0, rfl, o', rv', ov', b1, b2, b3⟩ := okV_iff.1 (e39 x e.time e R1 hk2 rfl (by show s.restarts.l.length ≤ 100000; omega) (by show s.children.l.length ≤ 1000; omega) hcl.symm hck.1 (by show (0 : Nat) ≤ 100000; omega) e.child.toNat hcl2 (by omega) _ hch _ hcs)
        generalize exitedS x e.time e.child.toNat x.children.l[e.child.toNat] s.children.l[e.child.toNat] e.value (runOf s) = S at *
        obtain ⟨d1, t, a, d2, d3, d4⟩ := end13 b1 b3 b2 (z := zeroState.av) (by simp; omega) (by rw [List.getElem?_append_left (by simp; omega), List.getElem?_set_ne (by decide)]; exact g3) (.agg [I S.st, .osl 5 cv 0 S.cs.length, rv', .bool S.fl])
        have cq39 := (W_call Φ45 [.optr 4 0 0 0] [e.av] [] _).trans b0
        have hp2 := b1.hp
        have hov := b1.out.okO
        have hrv := b1.rs.ok
        have hG2l := (List.getElem?_eq_some_iff.1 d1).1
        have gz : ∀ y : Blk, (G2.set 3 y)[3]? = some y := fun y => List.getElem?_set_self hG2l
        simp only [mkP] at hp2 cq39
        refine ⟨_, ?_, t, a, rfl, d3, d4⟩
        rw [W_pure Φ16 (by simp), ← d2]
        simp [fi16, c16, evFun, enterFr, intBin, resV, rvVs, rvV, h15, h37, cq38, g2, g3, g4, gs, gm, h1, hlm, cq39, d1, hp2, hov, hrv.1, hrv.2.2.1, gz, hz, mkP, findK, eqCell]
      · have R1 := R0 (.mp [(I 1, .clo 45 [.optr 4 0 0 0] []), (I 2, .clo 46 [.optr 4 0 0 0] [])])
        have hR : handleR x s e = askedS e.time (runOf s) := by unfold handleR; rw [if_neg (by omega)]
        rw [hR]
        obtain ⟨v, G2, b0, rfl, o', rv', ov', b1, b2, b3⟩ := okV_iff.1 (e40 x e.time e R1 (NilOk.of hk2) (by show s.children.l.length ≤ 1000; omega) (by show (0 : Nat) ≤ 100000; omega))
        obtain ⟨d1, t, a, d2, d3, d4⟩ := end13 b1 b3 b2 (z := zeroState.av) (by simp; omega) (by rw [List.getElem?_append_left (by simp; omega), List.getElem?_set_ne (by decide)]; exact g3) (.agg [I (askedS e.time (runOf s)).st, .osl 5 cv 0 (askedS e.time (runOf s)).cs.length, rv', .bool (askedS e.time (runOf s)).fl])
        have cq40 := (W_call Φ46 [.optr 4 0 0 0] [e.av] [] _).trans b0
        have hp2 := b1.hp
        have hov := b1.out.okO
        have hrv := b1.rs.ok
        have hG2l := (List.getElem?_eq_some_iff.1 d1).1
        have gz : ∀ y : Blk, (G2.set 3 y)[3]? = some y := fun y => List.getElem?_set_self hG2l
        simp only [mkP] at hp2 cq40
        refine ⟨_, ?_, t, a, rfl, d3, d4⟩
        rw [W_pure Φ16 (by simp), ← d2]
        simp [fi16, c16, evFun, enterFr, intBin, resV, rvVs, rvV, h15, h37, cq38, g2, g3, g4, gs, gm, h2, hlm, cq40, d1, hp2, hov, hrv.1, hrv.2.2.1, gz, hz, mkP, findK, eqCell]
    · simp only [if_neg hc]
      refine ⟨_, ?_, rfl⟩
      rw [W_pure Φ16 (by simp)]
      simp [fi16, c16, evFun, enterFr, intBin, resV, rvVs, rvV, h15, h37, hc]
      rfl
  · have hE : handleE x s e = 1 := by unfold handleE; rw [if_neg hv]
    rw [if_neg hv] at h15
    rw [hE]
    refine ⟨_, ?_, rfl⟩
    rw [W_pure Φ16 (by simp)]
    simp [fi16, c16, evFun, enterFr, intBin, resV, rvVs, rvV, h15]
    rfl
end
section
open Go Go.RowKit
set_option linter.unusedVariables false
set_option linter.unusedSimpArgs false
set_option maxRecDepth 10000
set_option maxHeartbeats 1000000
attribute [local irreducible] okV okC

theorem e41' (x : Spec) (s : State) (e : Event) (hl : s.children.l.length ≤ 1000000) (hr : s.restarts.l.length ≤ 1000000) : W.pure 103 [x.av, s.av, e.av] = some (I (handleE x s e)) := by
  have h16 := e16 x s hl hr
  rw [W_pure Φ103 (by simp)]
  unfold handleE
  by_cases hv : validB x s = true
  · obtain ⟨hc0, hcl, hri, hco, hfi, hti⟩ := valid_facts hv
    have hlen := chk_len hc0
    rw [if_pos hv] at h16
    obtain ⟨G, g1⟩ := e41 x s e hcl.symm (by omega) hr h16
    rw [g1, if_pos hv]; rfl
  · rw [if_neg hv] at h16 ⊢
    simp [fi103, c103, evFun, enterFr, intBin, resV, rvVs, rvV, h16]
theorem app14 (s : Sl ChildState) (hl : s.l.length ≤ 1000000) (hne : s.l ≠ []) (A : Heap) : ex (A ++ [.arr 0 2 false []]) (.app 2) [.osl A.length 0 0 0, Sl.av ChildState.av 2 s] = some (.osl A.length s.l.length 0 s.l.length, A ++ [.arr s.l.length 2 false (s.l.map ChildState.av)]) := by
  have hall := all_cell (f := ChildState.av) (fun x => by simp) s.l
  have hlm : (s.l.map ChildState.av).length = s.l.length := by simp
  have hne' : s.l.map ChildState.av ≠ [] := by simpa using hne
  simp only [ex, sl_elems, hall, if_true]
  rw [← hlm]
  rw [← hlm] at hl
  generalize s.l.map ChildState.av = m at *
  cases m with
  | nil => exact absurd rfl hne'
  | cons a m =>
    have ht : truncH (A ++ [.arr 0 2 false []]) (.osl A.length 0 0 0) = A ++ [.arr 0 2 false []] := by simp [truncH]
    rw [ht]
    have hg : (A ++ [Blk.arr 0 2 false []])[A.length]? = some (.arr 0 2 false []) := by simp
    have hsz : m.length + 1 ≤ 1073741824 := by simp at hl; omega
    simp [exApp, appRoom, hsz]
theorem e14 (x : Spec) (s : State) (e : Event) (hx : x.children.l.length ≤ 1000000) (hl : s.children.l.length ≤ 1000000) (hr : s.restarts.l.length ≤ 1000000) (hk1 : KnownNil s.children) (hk2 : KnownNil s.restarts) :
    ∃ v, W.pure 94 [x.av, s.av, e.av] = some v ∧ HandleOk (.isl (some false) 4 []) x s e v := by
  have h41 := e41' x s e hl hr
  unfold HandleOk
  have hz : (.agg [I 0, .isl (some true) 0 [], .isl (some true) 0 [], .bool false] : AV) = zeroState.av := rfl
  by_cases h0 : handleE x s e = 0
  · have hv : validB x s = true := by
      unfold handleE at h0; split at h0
      · assumption
      · cases h0
    have hc : checkN x s e = 0 := by unfold handleE at h0; rwa [if_pos hv] at h0
    simp only [if_pos h0]
    rw [h0] at h41
    obtain ⟨hc0, hcl, hri, hco, hfi, hti⟩ := valid_facts hv
    have hlen := chk_len hc0
    have hck := chk_ok hc0
    have hint : x.intensity ≤ 100 := by have := hck.2.1; simp [inR] at this; exact this.2
    obtain ⟨hkind, htime, _, hdead⟩ := check_facts hc
    have hne : s.children.l ≠ [] := by intro e; rw [e] at hcl; simp at hcl; omega
    have happ := app14 s.children hl hne [.arr 0 4 false [x.av], .arr 0 4 false [s.av], .arr 0 4 false [e.av], .arr 0 4 false [zeroState.av], .arr 0 10 false [mkR x e.time s.status (Sl.av ChildState.av 2 s.children) (Sl.ints s.restarts) s.failed (.isl (some true) 0 [])]]
    simp only [List.length_cons, List.length_nil, Nat.zero_add, Nat.reduceAdd, List.cons_append, List.nil_append] at happ
    have R1 : RunI (mkR x e.time) [.arr 0 4 false [x.av], .arr 0 4 false [s.av], .arr 0 4 false [e.av], .arr 0 4 false [zeroState.av], .arr 0 10 false [mkR x e.time s.status (.osl 5 s.children.l.length 0 s.children.l.length) (Sl.ints s.restarts) s.failed (.isl (some true) 0 [])], .arr s.children.l.length 2 false (s.children.l.map ChildState.av)] 4 5 s.children.l.length none (Sl.ints s.restarts) (.isl (some true) 0 []) (runOf s) := ⟨rfl, rfl, .inl ⟨_, rfl, rfl⟩, grow_nil _ _, by decide, by simp, by simp⟩
    have key : ∀ S : RunSt, handleR x s e = S → okV (evFun W fi94 [x.av, s.av, e.av] []) (fun v G => ∃ (t : State) (a : Sl Event), Go.Proofs.Ytjknjapdcphcfaa.frz G 8 v = some (.tuple [t.av, Sl.av Event.av 4 a, I 0]) ∧ StOk t S ∧ a.l = S.out) := by
      intro S hS
      rcases hkind with ⟨h1, hin, hrs⟩ | ⟨h2, hch, hval⟩
      · have hin' : 0 ≤ e.child ∧ e.child ≤ (x.children.l.length : Int) - 1 := by simpa [inR] using hin
        have hcl1 : e.child.toNat < x.children.l.length := by omega
        have hcl2 : e.child.toNat < s.children.l.length := by omega
        have hch := List.getElem?_eq_getElem hcl1
        have hcs := List.getElem?_eq_getElem hcl2
        have hce : e.child = ((e.child.toNat : Nat) : Int) := by omega
        have hR : S = exitedS x e.time e.child.toNat x.children.l[e.child.toNat] s.children.l[e.child.toNat] e.value (runOf s) := by rw [← hS]; unfold handleR; rw [if_pos h1]; simp only [hch, hcs]
        unfold exitedS at hR
        have haff : affAll x e.child.toNat = affL x e.child.toNat := by
          unfold affAll fitB
          rw [if_pos]
          simp only [hc0, decide_true, Bool.true_and, ← hce]
          exact hin
        by_cases h3 : s.children.l[e.child.toNat].status = 1
        · rw [if_pos h3] at hR
          obtain ⟨v, G2, b0, b⟩ := okV_iff.1 (e43 x e.time R1 hk2 rfl (by show (s.restarts.l.length : Int) ≤ x.intensity; exact hri) (by show s.restarts.l.length ≤ 100000; omega) (by show s.children.l.length ≤ 1000; omega) hcl.symm e.child.toNat haff (by show (0 : Nat) ≤ 100000; omega) hcl2 _ hch e.value)
          obtain ⟨rfl, o', rv', ov', b1, b2, b3⟩ := b
          rw [← hR] at b1
          obtain ⟨d1, t, a, d2, d3, d4⟩ := end13 b1 b3 b2 (z := zeroState.av) (by simp) rfl (.agg [I S.st, .osl 5 s.children.l.length 0 S.cs.length, rv', .bool S.fl])
          have cq43 := (W_call Φ105 [] [.optr 4 0 0 0, I e.child.toNat, I e.value] [] _).trans b0
          have hp2 := b1.hp
          have hov := b1.out.okO
          have hrv := b1.rs.ok
          have hG2l := (List.getElem?_eq_some_iff.1 d1).1
          have gz : ∀ y : Blk, (G2.set 3 y)[3]? = some y := fun y => List.getElem?_set_self hG2l
          rw [← hce] at cq43
          simp only [mkR] at hp2 cq43 happ
          simp [fi94, c94, evFun, enterFr, intBin, resV, rvVs, rvV, h41, h1, h3, hin'.1, hcl2, happ, cq43, d1, hp2, hov, hrv.1, hrv.2.2.1, gz, hz, mkR, -frz_tuple]
          exact ⟨t, a, d2, d3, d4⟩
        · rw [if_neg h3] at hR
          obtain ⟨v, G2, b0, b⟩ := okV_iff.1 (e44 x e.time R1 (by show s.children.l.length ≤ 1000; omega) (by show (0 : Nat) ≤ 100000; omega) e.child.toNat hcl2 _ hch)
          obtain ⟨rfl, o', ov', b1, b2⟩ := b
          rw [← hR] at b1
          obtain ⟨d1, t, a, d2, d3, d4⟩ := end13 b1 (NilOk.of hk2) b2 (z := zeroState.av) (by simp) rfl (.agg [I S.st, .osl 5 s.children.l.length 0 S.cs.length, Sl.ints s.restarts, .bool S.fl])
          have cq44 := (W_call Φ106 [] [.optr 4 0 0 0, I e.child.toNat] [] _).trans b0
          have hp2 := b1.hp
          have hov := b1.out.okO
          have hG2l := (List.getElem?_eq_some_iff.1 d1).1
          have gz : ∀ y : Blk, (G2.set 3 y)[3]? = some y := fun y => List.getElem?_set_self hG2l
          rw [← hce] at cq44
          simp only [mkR] at hp2 cq44 happ
          simp [fi94, c94, evFun, enterFr, intBin, resV, rvVs, rvV, h41, h1, h3, hin'.1, hcl2, happ, cq44, d1, hp2, hov, gz, hz, mkR, -frz_tuple]
          exact ⟨t, a, d2, d3, d4⟩
      · have hR : S = askedS e.time (runOf s) := by rw [← hS]; unfold handleR; rw [if_neg (by omega)]
        unfold askedS at hR
        by_cases h3 : s.status = 3
        · rw [if_pos (show (runOf s).st = 3 from h3)] at hR
          rw [hR]
          obtain ⟨d1, t, a, d2, d3, d4⟩ := end13 R1 (NilOk.of hk2) (Frame.refl _ _ _ _) (z := zeroState.av) (by simp) rfl (.agg [I s.status, .osl 5 s.children.l.length 0 s.children.l.length, Sl.ints s.restarts, .bool s.failed])
          simp only [List.set_cons_succ, List.set_cons_zero, runOf, mkR] at d2
          simp only [mkR, h3] at happ
          simp [fi94, c94, evFun, enterFr, intBin, resV, rvVs, rvV, h41, h2, h3, happ, hz, mkR, -frz_tuple]
          rw [h3] at d2
          exact ⟨t, a, d2, d3, d4⟩
        · rw [if_neg (show ¬ (runOf s).st = 3 from h3)] at hR
          obtain ⟨v, G2, b0, rfl, o', ov', b1, b2⟩ := okV_iff.1 (e42 x e.time R1 (by show s.children.l.length ≤ 1000; omega) (by show (0 : Nat) ≤ 800000; omega))
          rw [← hR] at b1
          obtain ⟨d1, t, a, d2, d3, d4⟩ := end13 b1 (NilOk.of hk2) b2 (z := zeroState.av) (by simp) rfl (.agg [I S.st, .osl 5 s.children.l.length 0 S.cs.length, Sl.ints s.restarts, .bool S.fl])
          have cq42 := (W_call Φ104 [] [.optr 4 0 0 0] [] _).trans b0
          have hp2 := b1.hp
          have hov := b1.out.okO
          have hG2l := (List.getElem?_eq_some_iff.1 d1).1
          have gz : ∀ y : Blk, (G2.set 3 y)[3]? = some y := fun y => List.getElem?_set_self hG2l
          simp only [mkR] at hp2 cq42 happ
          simp [fi94, c94, evFun, enterFr, intBin, resV, rvVs, rvV, h41, h2, h3, happ, cq42, d1, hp2, hov, gz, hz, mkR, -frz_tuple]
          exact ⟨t, a, d2, d3, d4⟩
    obtain ⟨v, G, g1, t, a, g2, g3, g4⟩ := okV_iff.1 (key _ rfl)
    refine ⟨_, ?_, t, a, rfl, g3, g4⟩
    rw [W_pure Φ94 (by simp), g1]
    exact g2
  · simp only [if_neg h0]
    refine ⟨_, ?_, rfl⟩
    rw [W_pure Φ94 (by simp)]
    simp [fi94, c94, evFun, enterFr, intBin, resV, rvVs, rvV, h41, h0]
    rfl
end
section
open Go Go.RowKit
set_option linter.unusedVariables false
set_option linter.unusedSimpArgs false
set_option maxRecDepth 100000
set_option maxHeartbeats 1000000

theorem great_false {x : Spec} (h : greatB x = false) : x.children.l.length ≤ 18 ∧ ∀ c ∈ x.children.l, c.name.length ≤ 40 := by
  simp only [greatB, Bool.or_eq_false_iff, decide_eq_false_iff_not] at h
  refine ⟨by omega, fun c hc => ?_⟩
  have := List.any_eq_false.1 h.2 c hc
  simp at this
  omega
theorem greatS_false {s : State} (h : greatS s = false) : s.children.l.length ≤ 18 ∧ s.restarts.l.length ≤ 110 := by
  simp only [greatS, Bool.or_eq_false_iff, decide_eq_false_iff_not] at h
  omega
theorem StOk.same {t t' : State} {r : RunSt} (h : StOk t r) (h' : StOk t' r) : sameS t t' = true := by
  simp only [sameS, h.st, h'.st, h.cs, h'.cs, h.rs, h'.rs, h.fl, h'.fl, decide_true, Bool.and_self]
/-- Sizes: children, restarts, actions. -/
structure Size (n a : Nat) (r r' : RunSt) : Prop where
  cs : r'.cs.length = r.cs.length
  rs : r'.rs.length ≤ r.rs.length + n
  out : r'.out.length ≤ r.out.length + a
theorem Size.refl (r : RunSt) : Size 0 0 r r := ⟨rfl, by omega, by omega⟩
theorem Size.trans {n a m b : Nat} {r s t : RunSt} (h : Size n a r s) (h' : Size m b s t) : Size (n + m) (a + b) r t := ⟨h'.cs.trans h.cs, by have := h.rs; have := h'.rs; omega, by have := h.out; have := h'.out; omega⟩
theorem Size.weak {n a m b : Nat} {r s : RunSt} (h : Size n a r s) (h1 : n ≤ m) (h2 : a ≤ b) : Size m b r s := ⟨h.cs, by have := h.rs; omega, by have := h.out; omega⟩
theorem size_setS (r : RunSt) (k : Nat) (st : Int) : Size 0 0 r (r.setS k st) := ⟨setS_len _ _ _, by unfold RunSt.setS; split <;> simp, by rw [setS_out]; omega⟩
theorem size_act (r : RunSt) (tm k c : Int) : Size 0 1 r (r.act tm k c) := ⟨rfl, by simp [RunSt.act], by simp [RunSt.act]⟩
theorem size_stopped (r : RunSt) (tm : Int) : Size 0 1 r (r.stopped tm) := by
  unfold RunSt.stopped; split
  · exact ⟨rfl, by simp [RunSt.act], by simp [RunSt.act]⟩
  · exact ⟨rfl, by simp, by simp⟩
theorem size_fold {α : Type} (f : RunSt → α → RunSt) (a : Nat) (hf : ∀ s x, Size 0 a s (f s x)) : ∀ (l : List α) (s : RunSt), Size 0 (l.length * a) s (l.foldl f s) := by
  intro l
  induction l with
  | nil => intro s; exact (Size.refl s).weak (by omega) (by omega)
  | cons x l ih =>
    intro s
    refine ((hf s x).trans (ih (f s x))).weak (by omega) ?_
    rw [List.length_cons, Nat.succ_mul]; omega
theorem size_again1 (tm : Int) (k : Nat) (s : RunSt) : Size 0 1 s (stepAgain tm k s) := by
  unfold stepAgain; split
  · split
    · exact ⟨by simp [RunSt.act], by simp [RunSt.act], by simp [RunSt.act]⟩
    · exact (Size.refl s).weak (by omega) (by omega)
  · exact (Size.refl s).weak (by omega) (by omega)
theorem size_again (tm : Int) (r : RunSt) : Size 0 r.cs.length r (againS tm r) := by
  have := size_fold (fun (s : RunSt) (a : ChildState × Nat) => stepAgain tm a.2 s) 1 (fun s a => size_again1 tm a.2 s) r.cs.zipIdx r
  rw [List.length_zipIdx, Nat.mul_one] at this
  exact ⟨this.cs, this.rs, this.out⟩
theorem size_stop1 (tm i : Int) (s : RunSt) : Size 0 1 s (stepStop tm i s) := by
  unfold stepStop; split
  · split
    · exact ⟨by simp [RunSt.act], by simp [RunSt.act], by simp [RunSt.act]⟩
    · exact (Size.refl s).weak (by omega) (by omega)
  · exact (Size.refl s).weak (by omega) (by omega)
theorem size_stop (tm : Int) (l : List Int) (r : RunSt) : Size 0 l.length r (stopS tm l r) := by
  have := size_fold (fun (s : RunSt) (i : Int) => stepStop tm i s) 1 (fun s a => size_stop1 tm a s) l.reverse r
  rw [List.length_reverse, Nat.mul_one, List.foldl_reverse] at this
  exact this
theorem size_hold (r : RunSt) : Size 0 0 r (holdS r) := by
  have := size_fold (fun (s : RunSt) (a : ChildState × Nat) => stepShut a.2 s) 0 (fun s a => by
    unfold stepShut; split
    · split
      · exact size_setS _ _ _
      · exact Size.refl s
    · exact Size.refl s) r.cs.zipIdx r
  rw [Nat.mul_zero] at this
  exact this
theorem size_shut (tm : Int) (r : RunSt) : Size 0 (r.cs.length + 1) r (shutS tm r) := by
  have h := (size_hold r).trans (size_stop tm (idxs r.cs.length) (holdS r))
  rw [idxs_len] at h
  unfold shutS; split
  · exact ⟨h.cs, h.rs, by have := h.out; simp only at this ⊢; omega⟩
  · exact (h.trans (size_stopped _ tm)).weak (by omega) (by omega)
theorem size_running (x : Spec) (tm : Int) (n : Nat) (ch : Child) (reason : Int) (r : RunSt) : Size 1 (x.children.l.length + r.cs.length + 2) r (runningS x tm n ch reason r) := by
  have hrec := recentL_len x tm r.rs
  have hal := affL_len x n
  have h0 : Size 1 0 r ({ r with rs := recentL x tm r.rs ++ [tm] } : RunSt) := ⟨rfl, by simp; omega, by simp⟩
  have h1 := (h0.trans (size_setS _ n 4)).trans (size_stop tm (affL x n) _)
  unfold runningS; split
  · exact (size_setS _ _ _).weak (by omega) (by omega)
  · split
    · have h2 : Size 0 0 r ({ r.setS n 3 with fl := true } : RunSt) := by have := size_setS r n 3; exact ⟨this.cs, this.rs, this.out⟩
      have h3 := h2.trans (size_shut tm _)
      have := h2.cs
      exact h3.weak (by omega) (by omega)
    · split
      · have h3 := h1.trans (size_again tm _)
        have := h1.cs
        exact h3.weak (by omega) (by omega)
      · refine Size.weak (n := 1) (a := 0 + 0 + (affL x n).length) ⟨h1.cs, ?_, h1.out⟩ (by omega) (by omega)
        have := h1.rs
        simp only at this ⊢
        omega
theorem size_stopping (tm : Int) (n : Nat) (ch : Child) (r : RunSt) : Size 0 (r.cs.length + 1) r (stoppingS tm n ch r) := by
  have h0 : Size 0 0 r (stopping1 n ch r) := size_setS _ _ _
  unfold stoppingS; split
  · exact h0.weak (by omega) (by omega)
  · split
    · have := h0.cs; exact (h0.trans (size_again tm _)).weak (by omega) (by omega)
    · exact (h0.trans (size_stopped _ tm)).weak (by omega) (by omega)
theorem size_handle (x : Spec) (s : State) (e : Event) : Size 1 (x.children.l.length + s.children.l.length + 2) (runOf s) (handleR x s e) := by
  unfold handleR; split
  · split
    · unfold exitedS; split
      · exact size_running x e.time e.child.toNat _ e.value (runOf s)
      · exact (size_stopping _ _ _ _).weak (by omega) (by show s.children.l.length + 1 ≤ _; omega)
    · exact (Size.refl _).weak (by omega) (by omega)
  · unfold askedS; split
    · exact (Size.refl _).weak (by omega) (by omega)
    · exact (size_shut _ _).weak (by omega) (by show s.children.l.length + 1 ≤ _; omega)
def State.core (s : State) : Int × List ChildState × List Int × Bool := (s.status, s.children.l, s.restarts.l, s.failed)
theorem core_cs {s : State} {a : Int} {b : List ChildState} {c : List Int} {d : Bool} (h : s.core = (a, b, c, d)) : s.children.l = b ∧ s.restarts.l = c := by
  simp only [State.core, Prod.mk.injEq] at h; exact ⟨h.2.1, h.2.2.1⟩
theorem core_same {s t : State} (h : s.core = t.core) : sameS s t = true := by
  simp only [State.core, Prod.mk.injEq] at h
  obtain ⟨h1, h2, h3, h4⟩ := h
  simp only [sameS, h1, h2, h3, h4, decide_true, Bool.and_self]
end
end Go.Proofs.Ytjknjapdcphcfaa
