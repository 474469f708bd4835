/-
  The reference's tree in memory, with what is due (conditions: none). The reference's tree: a supervisor handles an event (conditions: none). The reference's tree: performing actions (conditions: none). The reference's Valid of trees, and whether a time is too early (conditions: none). The reference's tree: something happens (conditions: none). The law SuptreeExit: it is true (conditions: readings of the arguments).
-/
import Derived.Test.YtjknjapdcphcfaaGreatKE
namespace Go.Proofs.YtjknjapdcphcfaaGreat
open Go Go.RowKit
set_option linter.unusedVariables false
set_option linter.unusedSimpArgs false
set_option maxRecDepth 10000
set_option maxHeartbeats 4000000
section
def Fx (p S : Nat) (oA oQ oA' oQ' : Option Nat) (H G : Heap) : Prop := H.length ≤ G.length ∧ (∀ j, j < H.length → ¬ OwnT p S oA oQ j → G[j]? = H[j]?) ∧ ∀ j, OwnT p S oA' oQ' j → j < H.length → OwnT p S oA oQ j
theorem Fx.refl (p S : Nat) (oA oQ : Option Nat) (H : Heap) : Fx p S oA oQ oA oQ H H := ⟨Nat.le_refl _, fun _ _ _ => rfl, fun _ h _ => h⟩
theorem Fx.trans {p S : Nat} {a b a' b' a'' b'' : Option Nat} {A B C : Heap} (h : Fx p S a b a' b' A B) (h' : Fx p S a' b' a'' b'' B C) : Fx p S a b a'' b'' A C :=
 ⟨Nat.le_trans h.1 h'.1, fun j hj hn => by
  rw [h'.2.1 j (by have := h.1; omega) (fun ho => hn (h.2.2 j ho hj)), h.2.1 j hj hn], fun j hj hl => h.2.2 j (h'.2.2 j hj (by have := h.1; omega)) hl⟩
theorem Fx.box (p S : Nat) (oA oQ : Option Nat) (H : Heap) (B : Blk) : Fx p S oA oQ oA oQ H (H ++ [B]) := ⟨by simp, fun j hj _ => gEa hj, fun _ h _ => h⟩
theorem Fx.set {p S : Nat} {oA oQ : Option Nat} {H : Heap} {i : Nat} (hi : OwnT p S oA oQ i) (B : Blk) : Fx p S oA oQ oA oQ H (H.set i B) :=
 ⟨by simp, fun j hj hn => gEn (fun (e : i = j) => hn (by cases e; exact hi)), fun _ h _ => h⟩
theorem Fx.get {p S : Nat} {oA oQ oA' oQ' : Option Nat} {H G : Heap} (h : Fx p S oA oQ oA' oQ' H G) {j : Nat} {B : Blk} (hj : H[j]? = some B) (hn : ¬ OwnT p S oA oQ j) : G[j]? = some B := by
 rw [h.2.1 j (gEs.1 hj).1 hn]; exact hj
def refQ (l : Sl Spec) (S vS : Nat) (av qv : AV) : AV := .agg [specs l, .osl S vS 0 l.l.length, av, qv]
structure RefQ (l : Sl Spec) (p S vS : Nat) (oA oQ : Option Nat) (t : Tree) (H : Heap) : Prop where
 blk : ∃ av qv, H[p]? = some (.arr 0 4 false [refQ l S vS av qv]) ∧ Grow H 4 oA av (t.out.map Event.av) ∧ Fifo H 5 oQ qv (t.q.map Due.av)
 sup : ∃ ss : List State, H[S]? = some (.arr vS 4 false (ss.map State.av)) ∧ ss.map State.core = t.ss.map State.core ∧ ∀ s ∈ ss, KnownS s
 len : t.ss.length = l.l.length
 ne : p ≠ S ∧ oA ≠ some p ∧ oA ≠ some S ∧ oQ ≠ some p ∧ oQ ≠ some S ∧ ∀ i, oA = some i → oQ ≠ some i
 small : ∀ s ∈ t.ss, s.children.l.length ≤ 1000 ∧ s.restarts.l.length ≤ 1000
section refq
variable {l : Sl Spec} {p S vS : Nat} {oA oQ : Option Nat} {t : Tree} {H : Heap}
theorem RefQ.kept (h : RefQ l p S vS oA oQ t H) {G : Heap} (hk : Kept none H G) : RefQ l p S vS oA oQ t G := by
 obtain ⟨⟨av, qv, e1, e2, e3⟩, ⟨ss, s1, s2, s3⟩, h3, h4, h5⟩ := h
 exact ⟨⟨av, qv, hk.get (by simp) e1, e2.kept hk (by simp), e3.kept hk (by simp)⟩, ⟨ss, hk.get (by simp) s1, s2, s3⟩, h3, h4, h5⟩
theorem RefQ.box (h : RefQ l p S vS oA oQ t H) (B : Blk) : RefQ l p S vS oA oQ t (H ++ [B]) := h.kept (Kept.append none H [B])
theorem RefQ.lt (h : RefQ l p S vS oA oQ t H) {j : Nat} (hj : OwnT p S oA oQ j) : j < H.length := by
 obtain ⟨av, qv, e1, e2, e3⟩ := h.blk
 obtain ⟨ss, s1, s2, s3⟩ := h.sup
 rcases hj with rfl | rfl | rfl | rfl
 ·exact (gEs.1 e1).1
 ·exact (gEs.1 s1).1
 ·exact e2.lt
 ·exact e3.lt
theorem RefQ.setS (h : RefQ l p S vS oA oQ t H) : ∃ ss : List State, H[S]? = some (.arr vS 4 false (ss.map State.av)) ∧ ss.length = l.l.length ∧ ss.map State.core = t.ss.map State.core ∧ (∀ s ∈ ss, KnownS s) ∧ ∀ (k : Nat) (s s' : State), s'.core = s.core → KnownS s' → s.children.l.length ≤ 1000 ∧ s.restarts.l.length ≤ 1000 →
  RefQ l p S vS oA oQ { t with ss := t.ss.set k s } (H.set S (.arr vS 4 false ((ss.map State.av).set k s'.av))) := by
 obtain ⟨⟨av, qv, e1, e2, e3⟩, ⟨ss, s1, s2, s3⟩, h3, ⟨n1, n2, n3, n4, n5, n6⟩, h5⟩ := h
 refine ⟨ss, s1, by have := congrArg List.length s2; simp at this; omega, s2, s3, fun k s s' hc hk hsm => ?_⟩
 have hk' : Kept (some S) H (H.set S (.arr vS 4 false ((ss.map State.av).set k s'.av))) := Kept.set _ _ _
 refine ⟨⟨av, qv, hk'.get (fun e => n1 (by cases e; rfl)) e1, e2.kept hk' (fun id hid e => n3 (by rw [e, hid])), e3.kept hk' (fun id hid e => n5 (by rw [e, hid]))⟩, ⟨ss.set k s', ?_, ?_, fun x hx => ?_⟩, by simpa using h3, ⟨n1, n2, n3, n4, n5, n6⟩, fun x hx => ?_⟩
 ·rw [gEt (gEs.1 s1).1, List.map_set]
 ·simp only [List.map_set, s2, hc]
 ·rcases List.mem_or_eq_of_mem_set hx with h1 | rfl
  ·exact s3 x h1
  ·exact hk
 ·rcases List.mem_or_eq_of_mem_set hx with h1 | rfl
  ·exact h5 x h1
  ·exact hsm
theorem RefQ.emit (h : RefQ l p S vS oA oQ t H) (a : Event) (hl : t.out.length ≤ 1000000) :
  ∃ av qv av' G2 oA', H[p]? = some (.arr 0 4 false [refQ l S vS av qv]) ∧ okO av = some av ∧ av.cells = [av] ∧ ex H (.app 4) [av, .isl (some false) 4 [a.av]] = some (av', G2) ∧ okO av' = some av' ∧ av'.cells = [av'] ∧ av'.cell = true ∧ G2[p]? = some (.arr 0 4 false [refQ l S vS av qv]) ∧
   RefQ l p S vS oA' oQ { t with out := t.out ++ [a] } (G2.set p (.arr 0 4 false [refQ l S vS av' qv])) ∧ Fx p S oA oQ oA' oQ H (G2.set p (.arr 0 4 false [refQ l S vS av' qv])) := by
 have hlt := fun j => h.lt (j := j)
 obtain ⟨⟨av, qv, e1, e2, e3⟩, ⟨ss, s1, s2, s3⟩, h3, ⟨n1, n2, n3, n4, n5, n6⟩, h5⟩ := h
 obtain ⟨oA', av', G2, a1, a2, a3, a4⟩ := e2.app1 a.av (by simp) (by simp [appRoom]; omega)
 have hnew : ∀ i, oA' = some i → oA = some i ∨ H.length ≤ i := fun i hi => by
  rcases a4 i hi with h | ⟨_, rfl⟩
  ·exact .inl h
  ·exact .inr (Nat.le_refl _)
 have hpl := hlt p (.inl rfl)
 have hSl := hlt S (.inr (.inl rfl))
 have m2 : oA' ≠ some p := fun e => by rcases hnew p e with h | h; exact n2 h; omega
 have m3 : oA' ≠ some S := fun e => by rcases hnew S e with h | h; exact n3 h; omega
 have m6 : ∀ i, oA' = some i → oQ ≠ some i := fun i hi e => by
  rcases hnew i hi with h' | h'
  ·exact n6 i h' e
  ·have := hlt i (.inr (.inr (.inr e))); omega
 have hk : Kept (some p) G2 (G2.set p (.arr 0 4 false [refQ l S vS av' qv])) := Kept.set _ _ _
 have hGl := a3.1
 have hp2 := a3.get n2 e1
 refine ⟨av, qv, av', G2, oA', e1, e2.okO, e2.cells, a1, a2.okO, a2.cells, a2.cell, hp2, ?_, ?_, fun j hj hn => ?_, fun j hj hl => ?_⟩
 ·refine ⟨⟨av', qv, gEt (by omega), ?_, ?_⟩, ⟨ss, hk.get (fun e => n1 (by cases e; rfl)) (a3.get n3 s1), s2, s3⟩, h3, ⟨n1, m2, m3, n4, n5, m6⟩, h5⟩
  ·rw [List.map_append]
   exact a2.kept hk (fun id hid e => m2 (by rw [e, hid]))
  ·exact (e3.kept a3 (fun id hid e => n6 id hid e)).kept hk (fun id hid e => n4 (by rw [e, hid]))
 ·simp; omega
 ·rw [gEn (fun (e : p = j) => hn (.inl e.symm)), a3.2 j (fun e => hn (.inr (.inr (.inl e)))) hj]
 ·rcases hj with rfl | rfl | hj | hj
  ·exact .inl rfl
  ·exact .inr (.inl rfl)
  ·rcases hnew j hj with h' | h'
   ·exact .inr (.inr (.inl h'))
   ·omega
  ·exact .inr (.inr (.inr hj))
theorem RefQ.push (h : RefQ l p S vS oA oQ t H) (a : Due) (hl : t.q.length ≤ 1000000) :
  ∃ av qv qv' G2 oQ', H[p]? = some (.arr 0 4 false [refQ l S vS av qv]) ∧ okO qv = some qv ∧ qv.cells = [qv] ∧ ex H (.app 5) [qv, .isl (some false) 5 [a.av]] = some (qv', G2) ∧ okO qv' = some qv' ∧ qv'.cells = [qv'] ∧ qv'.cell = true ∧ G2[p]? = some (.arr 0 4 false [refQ l S vS av qv]) ∧
   RefQ l p S vS oA oQ' { t with q := t.q ++ [a] } (G2.set p (.arr 0 4 false [refQ l S vS av qv'])) ∧ Fx p S oA oQ oA oQ' H (G2.set p (.arr 0 4 false [refQ l S vS av qv'])) := by
 have hlt := fun j => h.lt (j := j)
 obtain ⟨⟨av, qv, e1, e2, e3⟩, ⟨ss, s1, s2, s3⟩, h3, ⟨n1, n2, n3, n4, n5, n6⟩, h5⟩ := h
 obtain ⟨oQ', qv', G2, a1, a2, a3, a4, a5⟩ := e3.app (y := .isl (some false) 5 [a.av]) (xs := [a.av]) (by simp) (by simp) (by simp [appRoom]; omega)
 have hnew : ∀ i, oQ' = some i → oQ = some i ∨ H.length ≤ i := fun i hi => by
  rcases a4 with h | ⟨_, h, _⟩
  ·exact .inl (h ▸ hi)
  ·rw [hi] at h; cases h; exact .inr (Nat.le_refl _)
 have hpl := hlt p (.inl rfl)
 have hSl := hlt S (.inr (.inl rfl))
 have m2 : oQ' ≠ some p := fun e => by rcases hnew p e with h | h; exact n4 h; omega
 have m3 : oQ' ≠ some S := fun e => by rcases hnew S e with h | h; exact n5 h; omega
 have m6 : ∀ i, oA = some i → oQ' ≠ some i := fun i hi e => by
  rcases hnew i e with h' | h'
  ·exact n6 i hi h'
  ·have := hlt i (.inr (.inr (.inl hi))); omega
 have hk : Kept (some p) G2 (G2.set p (.arr 0 4 false [refQ l S vS av qv'])) := Kept.set _ _ _
 have hGl := a3.1
 have hp2 := a3.get n4 e1
 refine ⟨av, qv, qv', G2, oQ', e1, e3.okO, e3.cells, a1, a2.okO, a2.cells, a2.cell, hp2, ?_, ?_, fun j hj hn => ?_, fun j hj hl => ?_⟩
 ·refine ⟨⟨av, qv', gEt (by omega), ?_, ?_⟩, ⟨ss, hk.get (fun e => n1 (by cases e; rfl)) (a3.get n5 s1), s2, s3⟩, h3, ⟨n1, n2, n3, m2, m3, m6⟩, h5⟩
  ·exact (e2.kept a3 (fun id hid e => n6 id e hid)).kept hk (fun id hid e => n2 (by rw [e, hid]))
  ·rw [List.map_append]
   exact a2.kept hk (fun id hid e => m2 (by rw [e, hid]))
 ·simp; omega
 ·rw [gEn (fun (e : p = j) => hn (.inl e.symm)), a3.2 j (fun e => hn (.inr (.inr (.inr e)))) hj]
 ·rcases hj with rfl | rfl | hj | hj
  ·exact .inl rfl
  ·exact .inr (.inl rfl)
  ·exact .inr (.inr (.inl hj))
  ·rcases hnew j hj with h' | h'
   ·exact .inr (.inr (.inr h'))
   ·omega
theorem RefQ.pop (h : RefQ l p S vS oA oQ t H) {d : Due} {r : List Due} (hq : t.q = d :: r) :
  ∃ av qv a qv', H[p]? = some (.arr 0 4 false [refQ l S vS av qv]) ∧ okO qv = some qv ∧ qv.cells = [qv] ∧ lenV false qv = I ((r.length : Int) + 1) ∧ idxaV H 5 qv (I 0) = a ∧ okO a = some a ∧ loadV H true 5 a = d.av ∧ slcV H false 5 true false qv [I 1] = qv' ∧ okO qv' = some qv' ∧ qv'.cells = [qv'] ∧ qv'.cell = true ∧
   ∀ B : Blk, idxaV (H ++ [B]) 5 qv (I 0) = a ∧ loadV (H ++ [B]) true 5 a = d.av ∧ slcV (H ++ [B]) false 5 true false qv [I 1] = qv' ∧ RefQ l p S vS oA oQ { t with q := r } ((H ++ [B]).set p (.arr 0 4 false [refQ l S vS av qv'])) := by
 obtain ⟨av, qv, e1, e2, e3⟩ := h.blk
 rw [hq, List.map_cons] at e3
 obtain ⟨a, a1, a2, a3⟩ := e3.head
 obtain ⟨qv', b1, b2, b3, b4, b5⟩ := e3.tail
 have hlen := e3.len
 simp only [List.length_cons, List.length_map] at hlen
 refine ⟨av, qv, a, qv', e1, e3.okO, e3.cells, by rw [hlen]; congr 1, a1, a2, by rw [a3]; rfl, b1, b2, b3, b4, fun B => ?_⟩
 have e3' := e3.kept (Kept.append none H [B]) (by simp)
 obtain ⟨a', a1', a2', a3'⟩ := e3'.head
 have m1 := h.box B
 have hoq : oQ ≠ some p := h.ne.2.2.2.1
 obtain ⟨id, hid⟩ := e3.ne
 subst hid
 obtain ⟨ver, pre, tl, rfl, g2⟩ := e3
 have g2' := app_get g2 B
 have haa : a' = a := by rw [← a1, ← a1']; simp only [idxaV, g2, g2']
 refine ⟨?_, ?_, ?_, ?_⟩
 ·rw [← a1]; simp only [idxaV, g2, g2']
 ·rw [← haa, a3']; rfl
 ·rw [← b1]; simp only [slcV, g2, g2']
 ·obtain ⟨⟨av2, qv2, f1, f2, f3⟩, ⟨ss, s1, s2, s3⟩, c1, c2, c3⟩ := m1
  have hpe : (H ++ [B])[p]? = some (.arr 0 4 false [refQ l S vS av (.osl id ver pre.length (d.av :: List.map Due.av r).length)]) := app_get e1 B
  rw [hpe] at f1
  have hav : av = av2 := by
   simp only [refQ, Option.some.injEq, Blk.arr.injEq, List.cons.injEq, AV.agg.injEq, true_and, and_true] at f1
   exact f1.1
  subst hav
  have hk : Kept (some p) (H ++ [B]) ((H ++ [B]).set p (.arr 0 4 false [refQ l S vS av qv'])) := Kept.set _ _ _
  refine ⟨⟨av, qv', gEt (gEs.1 hpe).1, f2.kept hk (fun i hi e => c2.2.1 (by rw [e, hi])), ?_⟩, ⟨ss, hk.get (fun e => c2.1 (by cases e; rfl)) s1, s2, s3⟩, c1, c2, c3⟩
  exact (b5.kept (Kept.append none H [B]) (by simp)).kept hk (fun i hi e => hoq (by rw [e, hi]))
theorem Fifo.frz {H : Heap} {sz n : Nat} {o : Option Nat} {v : AV} {L : List AV} (h : Fifo H sz o v L) (hf : L.all (fun e => e.cells.all AV.still) = true) : ∃ r, Go.Proofs.YtjknjapdcphcfaaGreat.frz H (n + 1) v = some r := by
 cases o with
 | none => rw [h.1]; exact ⟨_, rfl⟩
 | some id =>
  obtain ⟨ver, pre, t, rfl, h2⟩ := h
  have htk : ((pre ++ L ++ t).drop pre.length).take L.length = L := by simp
  refine ⟨.isl (some false) sz L, ?_⟩
  simp only [Go.Proofs.YtjknjapdcphcfaaGreat.frz, h2]
  rw [if_pos ⟨trivial, by simp⟩, htk, if_pos hf]
theorem RefQ.frz (h : RefQ l p S vS oA oQ t H) : ∃ cs, Go.Proofs.YtjknjapdcphcfaaGreat.frz H 8 (.optr p 0 0 0) = some (.eptr (specs l :: cs)) := by
 obtain ⟨⟨av, qv, e1, e2, e3⟩, ⟨ss, s1, s2, s3⟩, h3, _⟩ := h
 have hl : ss.length = l.l.length := by have := congrArg List.length s2; simp at this; omega
 have f1 := frz_sup (l := l) 6 s1 hl
 obtain ⟨a, g1, _⟩ := e2.slG (n := 6) (all_still (fun x => by simp) _)
 obtain ⟨q, g2⟩ := e3.frz (n := 6) (all_still (fun x => by simp) _)
 refine ⟨[Sl.av State.av 4 (ofL 4 ss), Sl.av Event.av 4 a, q], ?_⟩
 have f0 : Go.Proofs.YtjknjapdcphcfaaGreat.frz H 7 (specs l) = some (specs l) := rfl
 rw [Go.Proofs.YtjknjapdcphcfaaGreat.frz]
 simp only [e1, refQ]
 simp only [if_true, gEz, cells_agg, frzs_cons, frzs_nil, f0, f1, g1, g2, consO_some, Option.map_some, List.drop_zero]
end refq
end
section
def ActsR (n : Nat) (acts : List Event) : Prop := ∀ a ∈ acts, a.value = 0 ∧ (a.kind = 5 ∧ a.child = -1 ∨ (a.kind = 3 ∨ a.kind = 4) ∧ 0 ≤ a.child ∧ a.child < n)
def PerfRq (l : Sl Spec) (d : Nat) : Prop :=
 ∀ (i : Nat) (acts : Sl Event) (tm : Int) (t : Tree) (p S vS : Nat) (oA oQ : Option Nat) (H : Heap), l.l.length - i ≤ d → i < l.l.length → RefQ l p S vS oA oQ t H → ActsR (kids l.l i).length acts.l → acts.l.length ≤ 1000 →
  (perf l.l (ordT l.l) (up l.l) d i (timed tm acts.l) t).out.length ≤ 1000000 → (perf l.l (ordT l.l) (up l.l) d i (timed tm acts.l) t).q.length ≤ 1000000 →
  okV (W.call (.clo 91 [] []) [.optr p 0 0 0, I i, Sl.av Event.av 4 acts, I tm] H) (fun u G => u = .tuple [] ∧ ∃ oA' oQ', RefQ l p S vS oA' oQ' (perf l.l (ordT l.l) (up l.l) d i (timed tm acts.l) t) G ∧ Fx p S oA oQ oA' oQ' H G)
theorem timed_id {tm : Int} {L : List Event} (h : ∀ a ∈ L, a.time = tm) : timed tm L = L := by
 unfold timed
 conv => rhs; rw [← List.map_id L]
 refine List.map_congr_left fun a ha => ?_
 have := h a ha
 obtain ⟨k, c, v, t⟩ := a
 simp only at this
 subst this; rfl
theorem owner_up {l : Sl Spec} (ht : TreeOk l.l) {k : Nat} (hk : 1 ≤ k ∧ k < l.l.length) : W.pure 42 [specs l, I k] = some (.tuple [I (up l.l k).1, I (up l.l k).2]) := by
 have hlen := ht.len
 rcases t55 (l := l) (fun x hx => by
  obtain ⟨j, hj⟩ := List.getElem?_of_mem hx
  have := (chk_len (ht.ok j x hj)).2
  omega) (by omega) k with ⟨i, c, h1, h2⟩ | ⟨h1, _⟩
 ·obtain ⟨e1, e2⟩ := ht.one h1 (up_sub ht hk)
  rw [← e1, ← e2]; exact h2
 ·exact absurd (up_sub ht hk) (h1 _ _)
theorem t72 {l : Sl Spec} (ht : TreeOk l.l) {d : Nat} (hgo : PerfRq l d) {k : Nat} (hk : k < l.l.length) (hd : l.l.length - k ≤ d) (e : Event) {p S vS : Nat} {oA oQ : Option Nat} {t : Tree} {H : Heap} (h : RefQ l p S vS oA oQ t H)
  (ho : (doHandle l.l (perf l.l (ordT l.l) (up l.l) d) (up l.l) k e t).out.length ≤ 1000000) (hq : (doHandle l.l (perf l.l (ordT l.l) (up l.l) d) (up l.l) k e t).q.length ≤ 1000000) :
  okV (W.call (.clo 72 [] []) [.optr p 0 0 0, I k, e.av] H) (fun u G => u = .tuple [] ∧ ∃ oA' oQ', RefQ l p S vS oA' oQ' (doHandle l.l (perf l.l (ordT l.l) (up l.l) d) (up l.l) k e t) G ∧ Fx p S oA oQ oA' oQ' H G) := by
 rw [W_call Φ72]
 have hx := gEg hk
 generalize l.l[k] = x at hx
 have hgx : l.l.getD k default = x := by rw [gEd, hx]; rfl
 have hktl : k < t.ss.length := by have := h.len; omega
 have hkt := gEg hktl
 generalize t.ss[k] = s at hkt
 have hgs : t.ss.getD k default = s := by rw [gEd, hkt]; rfl
 have hkid := kids_of hx
 have h0 := ht.ok k x hx
 have hlen := chk_len h0
 have hsm := h.small s (List.mem_of_getElem? hkt)
 have m1 := h.box (.arr 0 4 false [e.av])
 obtain ⟨av, qv, e1, e2, e3⟩ := m1.blk
 obtain ⟨ss, s1, s2, sc, sk, s3⟩ := m1.setS
 have hks := gEg (l := ss) (i := k) (by omega)
 generalize ss[k] = s' at hks
 have hcore : s'.core = s.core := by
  have := congrArg (fun L => L[k]?) sc
  simp only [List.getElem?_map, hks, hkt, Option.map_some, Option.some.injEq] at this
  exact this
 obtain ⟨hkn1, hkn2⟩ := sk s' (List.mem_of_getElem? hks)
 obtain ⟨c1, c2, c3, c4⟩ := core_inj hcore
 have hE : handleE x s' e = handleE x s e := handleE_core hcore
 have hR : handleR x s' e = handleR x s e := handleR_core hcore
 obtain ⟨v, d1, d2⟩ := e14 x s' e (by omega) (by rw [c2]; omega) (by rw [c3]; omega) hkn1 hkn2
 unfold HandleOk at d2
 rw [hE, hR] at d2
 have hidx : (k : Int) < (l.l.length : Int) := by omega
 have notown : ¬ OwnT p S oA oQ H.length := fun hj => by have := h.lt hj; omega
 have notown1 : ¬ OwnT p S oA oQ (H.length + 1) := fun hj => by have := h.lt hj; omega
 have hksa : (ss.map State.av)[k]? = some s'.av := by rw [List.getElem?_map, hks]; rfl
 have hz : (.agg [I 0, .isl (some true) 0 [], .isl (some true) 0 [], .bool false] : AV) = zeroState.av := rfl
 have f1 := Fx.box p S oA oQ H (.arr 0 4 false [e.av])
 by_cases hh : handleE x s e = 0
 ·rw [if_pos hh] at d2
  obtain ⟨t1, a, rfl, d3, d4⟩ := d2
  have m3 := m1.box (.arr 0 4 false [t1.av])
  have f2 := f1.trans (Fx.box p S oA oQ _ (.arr 0 4 false [t1.av]))
  have hsz := size_handle x s e
  have hvalid : validB x s = true := (handleE_check hh).1
  have hcl := (valid_facts hvalid).2.1
  have hint := (valid_facts hvalid).2.2.1
  have hwin : x.intensity ≤ 100 := by
   have := h0
   unfold chk at this
   split at this
   ·cases this
   ·split at this
    ·cases this
    ·rename_i hh2
     simp [inR] at hh2
     omega
  have hr1 := hsz.cs
  have hr2 := hsz.rs
  simp only [runOf] at hr1 hr2
  have hnot2 : ¬ OwnT p S oA oQ (H ++ [Blk.arr 0 4 false [e.av]]).length := by simpa using notown1
  obtain ⟨ss2, s1B, s2B, scB, skB, s3B⟩ := m3.setS
  have hss : ss2.map State.av = ss.map State.av := by
   have e := app_get s1 (.arr 0 4 false [t1.av])
   rw [e] at s1B
   simp only [Option.some.injEq, Blk.arr.injEq, true_and] at s1B
   exact s1B.symm
  rw [hss] at s1B s3B
  have m4 := s3B k (mkS (handleR x s e)) t1 d3.core ⟨d3.k1, d3.k2⟩ (by simp only [mkS]; omega)
  have f3 := f2.trans (Fx.set (p := p) (S := S) (oA := oA) (oQ := oQ) (H := H ++ [Blk.arr 0 4 false [e.av]] ++ [Blk.arr 0 4 false [t1.av]]) (i := S) (.inr (.inl rfl)) (.arr vS 4 false ((ss.map State.av).set k t1.av)))
  have hset := sup_set (ss := ss) (k := k) (s := t1) (by omega)
  have hact := (actw_handle x s e).2
  have htm : timed e.time a.l = (handleR x s e).out := by
   rw [d4]
   exact timed_id fun b hb => by
    exact (hact b hb).1
  have hactr : ActsR (kids l.l k).length a.l := by
   intro b hb
   rw [d4] at hb
   rw [hkid, ← hcl]
   obtain ⟨_, h1, h2⟩ := hact b hb
   exact ⟨h1, h2⟩
  have hol : a.l.length ≤ 1000 := by
   rw [d4]
   have := hsz.out; simp only [runOf, List.length_nil] at this; omega
  have hdo : doHandle l.l (perf l.l (ordT l.l) (up l.l) d) (up l.l) k e t = (if 0 < k ∧ s.status ≠ 4 ∧ (handleR x s e).st = 4 then { perf l.l (ordT l.l) (up l.l) d k (handleR x s e).out { t with ss := t.ss.set k (mkS (handleR x s e)) } with q := (perf l.l (ordT l.l) (up l.l) d k (handleR x s e).out { t with ss := t.ss.set k (mkS (handleR x s e)) }).q ++ [⟨(up l.l k).1, ⟨1, (up l.l k).2, if (handleR x s e).fl = true then 7 else 1, e.time⟩⟩] } else perf l.l (ordT l.l) (up l.l) d k (handleR x s e).out { t with ss := t.ss.set k (mkS (handleR x s e)) }) := by
   unfold doHandle
   simp only [hgx, hgs, if_pos hh]
  have hz1 := hgo k a e.time { t with ss := t.ss.set k (mkS (handleR x s e)) } p S vS oA oQ _ hd hk m4 hactr hol
  rw [htm] at hz1
  generalize hgt : perf l.l (ordT l.l) (up l.l) d k (handleR x s e).out { t with ss := t.ss.set k (mkS (handleR x s e)) } = T at *
  have hoT : T.out.length ≤ 1000000 := by rw [hdo] at ho; split at ho <;> exact ho
  have hqT : T.q.length ≤ 1000000 := by
   rw [hdo] at hq; split at hq
   ·simp only [List.length_append] at hq; omega
   ·exact hq
  obtain ⟨u, G3, z1, rfl, oA', oQ', z2, z3⟩ := okV_iff.1 (hz1 hoT hqT)
  have hnx := f3.trans z3
  have hSlt : S < H.length := h.lt (.inr (.inl rfl))
  have hplt : p < H.length := h.lt (.inl rfl)
  have w2 : ((H ++ [Blk.arr 0 4 false [e.av]] ++ [Blk.arr 0 4 false [t1.av]]).set S (.arr vS 4 false ((ss.map State.av).set k t1.av)))[H.length]? = some (.arr 0 4 false [e.av]) := by
   rw [gEn (by omega)]; exact app_get (app_last _ _) _
  have w3 : ((H ++ [Blk.arr 0 4 false [e.av]] ++ [Blk.arr 0 4 false [t1.av]]).set S (.arr vS 4 false ((ss.map State.av).set k t1.av)))[H.length + 1]? = some (.arr 0 4 false [t1.av]) := by
   rw [gEn (by omega)]
   simp
  have w4 := z3.get w2 notown
  have w5 := z3.get w3 notown1
  have e1B := app_get e1 (.arr 0 4 false [t1.av])
  have hst1 : t1.status = (handleR x s e).st := d3.st
  have hfl1 : t1.failed = (handleR x s e).fl := d3.fl
  simp only [refQ] at e1 e1B
  by_cases hc : 0 < k ∧ s.status ≠ 4 ∧ (handleR x s e).st = 4
  ·rw [hdo, if_pos hc]
   obtain ⟨hc1, hc2, hc3⟩ := hc
   have c42 := owner_up ht (k := k) ⟨hc1, hk⟩
   obtain ⟨av2, qv2, qv', G5, oQ2, r1, r2, r3, r4, r5, r6, r7, r8, r9, r10⟩ := z2.push ⟨(up l.l k).1, ⟨1, (up l.l k).2, if (handleR x s e).fl = true then 7 else 1, e.time⟩⟩ hqT
   have hgt' : (0 : Int) < (k : Int) := by omega
   have q2 : ¬ s'.status = 4 := by rw [c1]; exact hc2
   have q3 : t1.status = 4 := hst1.trans hc3
   simp only [refQ] at r1 r8 r9 r10
   have : okV (evFun W fi72 [.optr p 0 0 0, I k, e.av] H) (fun u' G' => u' = .tuple [] ∧ G' = G5.set p (.arr 0 4 false [.agg [specs l, .osl S vS 0 l.l.length, av2, qv']])) := by
    cases hfl : (handleR x s e).fl with
    | true =>
     rw [hfl] at hfl1 r4
     simp only [if_true, Due.av] at r4
     simp [-getElem?_pos, -List.append_assoc, gEz, app_last, bx21, bx22, sx11, sx21, sx22, fi72, c72, evFun, enterFr, intBin, resV, rvVs, rvV, e1, hx, s1, hks, hksa, hidx, d1, hz, e1B, s1B, hset, z1, w2, w3, w4, w5, hc1, hgt', q2, q3, hfl1, c42, r1, r2, r3, r4, r5, r6, r7, r8]
    | false =>
     rw [hfl] at hfl1 r4
     simp only [Bool.false_eq_true, if_false, Due.av] at r4
     simp [-getElem?_pos, -List.append_assoc, gEz, app_last, bx21, bx22, sx11, sx21, sx22, fi72, c72, evFun, enterFr, intBin, resV, rvVs, rvV, e1, hx, s1, hks, hksa, hidx, d1, hz, e1B, s1B, hset, z1, w2, w3, w4, w5, hc1, hgt', q2, q3, hfl1, c42, r1, r2, r3, r4, r5, r6, r7, r8]
   obtain ⟨u', G', y1, rfl, rfl⟩ := okV_iff.1 this
   rw [List.nil_append, List.append_nil, y1]
   exact ⟨rfl, oA', oQ2, r9, hnx.trans r10⟩
  ·rw [hdo, if_neg hc]
   have : okV (evFun W fi72 [.optr p 0 0 0, I k, e.av] H) (fun u' G' => u' = .tuple [] ∧ G' = G3) := by
    by_cases q1 : 0 < k
    ·have q1' : (0 : Int) < (k : Int) := by omega
     by_cases q2 : s'.status = 4
     ·simp [-getElem?_pos, -List.append_assoc, gEz, app_last, bx21, bx22, sx11, sx21, sx22, fi72, c72, evFun, enterFr, intBin, resV, rvVs, rvV, e1, hx, s1, hks, hksa, hidx, d1, hz, e1B, s1B, hset, z1, w2, w3, w4, w5, q1, q1', q2]
     ·have q3 : ¬ t1.status = 4 := fun hh3 => hc ⟨q1, by rw [← c1]; exact q2, by rw [← hst1]; exact hh3⟩
      simp [-getElem?_pos, -List.append_assoc, gEz, app_last, bx21, bx22, sx11, sx21, sx22, fi72, c72, evFun, enterFr, intBin, resV, rvVs, rvV, e1, hx, s1, hks, hksa, hidx, d1, hz, e1B, s1B, hset, z1, w2, w3, w4, w5, q1, q1', q2, q3]
    ·have q1' : ¬ (0 : Int) < (k : Int) := by omega
     by_cases q2 : s'.status = 4
     ·simp [-getElem?_pos, -List.append_assoc, gEz, app_last, bx21, bx22, sx11, sx21, sx22, fi72, c72, evFun, enterFr, intBin, resV, rvVs, rvV, e1, hx, s1, hks, hksa, hidx, d1, hz, e1B, s1B, hset, z1, w2, w3, w4, w5, q1, q1', q2]
     ·simp [-getElem?_pos, -List.append_assoc, gEz, app_last, bx21, bx22, sx11, sx21, sx22, fi72, c72, evFun, enterFr, intBin, resV, rvVs, rvV, e1, hx, s1, hks, hksa, hidx, d1, hz, e1B, s1B, hset, z1, w2, w3, w4, w5, q1, q1', q2]
   obtain ⟨u', G', y1, rfl, rfl⟩ := okV_iff.1 this
   rw [List.nil_append, List.append_nil, y1]
   exact ⟨rfl, oA', oQ', z2, hnx⟩
 ·rw [if_neg hh] at d2
  subst d2
  have m3 := m1.box (.arr 0 4 false [zeroState.av])
  have f2 := f1.trans (Fx.box p S oA oQ _ (.arr 0 4 false [zeroState.av]))
  have hdo : doHandle l.l (perf l.l (ordT l.l) (up l.l) d) (up l.l) k e t = t := by
   unfold doHandle
   simp only [hgx, hgs, if_neg hh]
  rw [hdo]
  simp only [refQ] at e1
  have : okV (evFun W fi72 [.optr p 0 0 0, I k, e.av] H) (fun u' G' => u' = .tuple [] ∧ G' = H ++ [.arr 0 4 false [e.av]] ++ [.arr 0 4 false [zeroState.av]]) := by
   simp [-getElem?_pos, -List.append_assoc, gEz, app_last, bx21, bx22, sx11, sx21, sx22, fi72, c72, evFun, enterFr, intBin, resV, rvVs, rvV, e1, hx, s1, hks, hksa, hidx, d1, hh, hz]
  obtain ⟨u', G', y1, rfl, rfl⟩ := okV_iff.1 this
  rw [List.nil_append, List.append_nil, y1]
  exact ⟨rfl, oA, oQ, m3, f2⟩
end
section
theorem timed_nil (tm : Int) : timed tm [] = [] := rfl
theorem startL_actsR (n : Nat) : ActsR n (startL n) := by
 intro a ha
 have := startL_kind n a ha
 exact ⟨this.2.2.2, .inr ⟨.inl this.1, this.2.1, this.2.2.1⟩⟩
theorem perf_okR {l : Sl Spec} (ht : TreeOk l.l) : ∀ d, PerfRq l d := by
 intro d
 induction d with
 | zero => intro i acts tm t p S vS oA oQ H h1 h2; omega
 | succ d ih =>
  intro i acts tm t p S vS oA oQ H h1 h2 h hacts hal ho hq
  rw [W_call Φ91]
  have hx := gEg h2
  generalize l.l[i] = x at hx
  have hkid := kids_of hx
  have hlen := chk_len (ht.ok i x hx)
  let f := doAct l.l (ordT l.l) (up l.l) (perf l.l (ordT l.l) (up l.l) d) i
  have hL := loop_fold (Φ := Φ) (live := [0, 1, 2, 3, 8]) (L := l91_0) acts.l (σ := Tree) (fun _ a s => f s { a with time := tm })
   (fun j s F G => F = [(0, .optr p 0 0 0), (1, I i), (2, Sl.av Event.av 4 acts), (3, I tm), (8, I j)] ∧ s = (timed tm (acts.l.take j)).foldl f t ∧ ∃ oA' oQ', RefQ l p S vS oA' oQ' s G ∧ Fx p S oA oQ oA' oQ' H G)
   (fun s y F G => y = .exit 0 ∧ s = (timed tm acts.l).foldl f t ∧ ∃ oA' oQ', RefQ l p S vS oA' oQ' s G ∧ Fx p S oA oQ oA' oQ' H G) (s := t) (F := [(0, .optr p 0 0 0), (1, I i), (2, Sl.av Event.av 4 acts), (3, I tm), (8, I 0)]) (H := H) ⟨rfl, by simp [timed], oA, oQ, h, Fx.refl _ _ _ _ _⟩ ?_ ?_
  ·obtain ⟨y, F', G, e1, rfl, e2, oA', oQ', e3, e4⟩ := okC_iff.1 hL
   rw [e2] at e3
   have : okV (evFun W fi91 [.optr p 0 0 0, I i, Sl.av Event.av 4 acts, I tm] H) (fun u G' => u = .tuple [] ∧ G' = G) := by
    simp [fi91, c91, evFun, enterFr, intBin, resV, rvVs, rvV, e1]
   obtain ⟨u, G', y1, rfl, rfl⟩ := okV_iff.1 this
   rw [List.nil_append, List.append_nil, y1]
   exact ⟨rfl, oA', oQ', e3, e4⟩
  ·rintro j a s F G hj ha ⟨rfl, hs, oA', oQ', g1, g2⟩
   have hw := wrap_succ (k := j) (by omega)
   have hja : (timed tm (acts.l.take (j + 1))).foldl f t = f s { a with time := tm } := by
    rw [List.take_add_one, ha]
    show (timed tm (acts.l.take j ++ [a])).foldl f t = _
    unfold timed
    rw [List.map_append, List.foldl_append]
    rw [hs]; rfl
   have hall : (timed tm acts.l).take (j + 1) = timed tm (acts.l.take (j + 1)) := by unfold timed; rw [List.map_take]
   have hb1 : GrowT (f s { a with time := tm }) ((timed tm acts.l).foldl f t) := by rw [← hja, ← hall]; exact fold_prefix f (fun t a => doAct_growT _ _ _ _ _ t a) _ (j + 1) t
   have hob : (f s { a with time := tm }).out.length ≤ 1000000 := Nat.le_trans hb1.1 ho
   have hqb : (f s { a with time := tm }).q.length ≤ 1000000 := Nat.le_trans hb1.2 hq
   have hos : s.out.length ≤ 1000000 := Nat.le_trans (doAct_growT l.l (ordT l.l) (up l.l) d i s _).1 hob
   have hze : (.agg [I 0, I 0, I 0, I 0] : AV) = (⟨0, 0, 0, 0⟩ : Event).av := rfl
   have m1 := g1.box (.arr 0 4 false [a.av])
   have f1 := Fx.box p S oA' oQ' G (.arr 0 4 false [a.av])
   obtain ⟨av, qv, e1, _, _⟩ := g1.blk
   have e1' := app_get e1 (.arr 0 4 false [a.av])
   have fin : ∀ (s' : Tree) (G' : Heap) (oA2 oQ2 : Option Nat), s' = f s { a with time := tm } → RefQ l p S vS oA2 oQ2 s' G' → Fx p S oA' oQ' oA2 oQ2 G G' → f s { a with time := tm } = (timed tm (acts.l.take (j + 1))).foldl f t ∧ ∃ oA3 oQ3, RefQ l p S vS oA3 oQ3 (f s { a with time := tm }) G' ∧ Fx p S oA oQ oA3 oQ3 H G' := by
    intro s' G' oA2 oQ2 hs' k1 k2
    subst hs'
    exact ⟨hja.symm, oA2, oQ2, k1, g2.trans k2⟩
   obtain ⟨hv0, hkc⟩ := hacts a (List.mem_of_getElem? ha)
   by_cases h5 : a.kind = 5
   ·have hc1 : a.child = -1 := by
     rcases hkc with ⟨_, h⟩ | ⟨h, _⟩
     ·exact h
     ·omega
    have hev5 : ({ a with time := tm } : Event).av = .agg [I 5, I (-1), I 0, I tm] := by
     show AV.agg [I a.kind, I a.child, I a.value, I tm] = _
     rw [h5, hc1, hv0]
    by_cases hi0 : i = 0
    ·have hfa : f s { a with time := tm } = { s with out := s.out ++ [{ a with time := tm }] } := by
      show doAct _ _ _ _ _ _ _ = _
      unfold doAct; rw [if_pos h5, if_pos hi0]
     obtain ⟨av2, qv2, av', G2, oA2, q1, q2, q3, q4, q5, q6, q7, q8, q9, q10⟩ := m1.emit { a with time := tm } hos
     simp only [refQ] at q1 q8 q9 q10
     rw [hev5] at q4
     have := fin _ _ _ _ hfa.symm q9 (f1.trans q10)
     subst hi0
     simp [-getElem?_pos, -List.append_assoc, gEz, app_last, bx21, bx22, sx11, sx21, sx22, evl91_0, b91_0, intBin, hj, hw, ha, hze, h5, q1, q2, q3, q4, q5, q6, q7, q8]
     simp only [h5] at this
     exact this
    ·have hfa : f s { a with time := tm } = s := by
      show doAct _ _ _ _ _ _ _ = _
      unfold doAct; rw [if_pos h5, if_neg hi0]
     have := fin _ _ _ _ hfa.symm m1 f1
     simp [-getElem?_pos, -List.append_assoc, gEz, app_last, bx21, bx22, sx11, sx21, sx22, evl91_0, b91_0, intBin, hj, hw, ha, hze, h5, hi0]
     simp only [h5] at this
     exact this
   ·have hch : 0 ≤ a.child ∧ a.child < (kids l.l i).length := by
     rcases hkc with ⟨h, _⟩ | ⟨_, h⟩
     ·exact absurd h h5
     ·exact h
    have h34 : a.kind = 3 ∨ a.kind = 4 := by
     rcases hkc with ⟨h, _⟩ | ⟨h, _⟩
     ·exact absurd h h5
     ·exact h
    rw [hkid] at hch
    have hc := gEg (l := x.children.l) (i := a.child.toNat) (by omega)
    generalize x.children.l[a.child.toNat] = ch at hc
    have hgd : (kids l.l i).getD a.child.toNat default = ch := by rw [hkid, gEd, hc]; rfl
    have hsub := ht.sub i a.child.toNat ch h2 (by rw [hkid]; exact hc)
    simp only [refQ] at e1 e1'
    by_cases hneg : ch.sub < 0
    ·have hs1 : ch.sub = -1 := by rcases hsub with h | h <;> omega
     have hfa : f s { a with time := tm } = { s with out := s.out ++ [{ a with child := numW (ordT l.l) (i, a.child), time := tm }] } := by
      show doAct _ _ _ _ _ _ _ = _
      unfold doAct
      rw [if_neg (by exact h5)]
      simp only [hgd]
      rw [if_pos hneg]
     obtain ⟨cs, hfz⟩ := m1.frz
     have c102 := t73 ht cs i a.child
     obtain ⟨av2, qv2, av', G2, oA2, q1, q2, q3, q4, q5, q6, q7, q8, q9, q10⟩ := m1.emit { a with child := numW (ordT l.l) (i, a.child), time := tm } hos
     have hev2 : ({ a with child := numW (ordT l.l) (i, a.child), time := tm } : Event).av = .agg [I a.kind, I (numW (ordT l.l) (i, a.child)), I 0, I tm] := by
      show AV.agg [I a.kind, I _, I a.value, I tm] = _
      rw [hv0]
     simp only [refQ] at q1 q8 q9 q10
     rw [hev2] at q4
     have := fin _ _ _ _ hfa.symm q9 (f1.trans q10)
     simp [-getElem?_pos, -List.append_assoc, gEz, app_last, bx21, bx22, sx11, sx21, sx22, evl91_0, b91_0, intBin, hj, hw, ha, hze, h5, hx, hc, hch.1, hs1, hfz, c102, AV.scal, AV.scal1, q1, q2, q3, q4, q5, q6, q7, q8]
     exact this
    ·have hsub2 : (i : Int) < ch.sub ∧ ch.sub < l.l.length := by rcases hsub with h | h; omega; exact h
     have hne : ¬ ch.sub = -1 := by omega
     have hcast : ((ch.sub.toNat : Nat) : Int) = ch.sub := by omega
     have hk : ch.sub.toNat < l.l.length := by omega
     have hp0 : (0 : Int) ≤ ch.sub := by omega
     obtain ⟨x2, hx2⟩ : ∃ x2, l.l[ch.sub.toNat]? = some x2 := ⟨_, gEg hk⟩
     have hkid2 := kids_of hx2
     have hgx : l.l.getD ch.sub.toNat default = x2 := by rw [gEd, hx2]; rfl
     by_cases h3 : a.kind = 3
     ·obtain ⟨st, a2, c103, c1, c2, c3⟩ := t51 (ht.ok _ x2 hx2)
      have hfa : f s { a with time := tm } = perf l.l (ordT l.l) (up l.l) d ch.sub.toNat (timed tm (startL (kids l.l ch.sub.toNat).length)) { s with ss := s.ss.set ch.sub.toNat (startS x2) } := by
       show doAct _ _ _ _ _ _ _ = _
       unfold doAct
       rw [if_neg (by exact h5)]
       simp only [hgd]
       rw [if_neg hneg, if_pos h3]
       unfold doStart
       rw [hgx]
      have hk2 := chk_len (ht.ok _ x2 hx2)
      rw [hfa] at hob hqb
      rw [hkid2, ← c3] at hfa hob hqb
      have m2 := m1.box (.arr 0 4 false [st.av])
      have f2 := f1.trans (Fx.box p S oA' oQ' _ (.arr 0 4 false [st.av]))
      obtain ⟨ss, s1, s2, _, _, s3⟩ := m2.setS
      have m3 := s3 ch.sub.toNat (startS x2) st c1 c2 (by
       refine ⟨?_, by simp [startS]⟩
       show (List.replicate x2.children.l.length start1).length ≤ 1000
       rw [List.length_replicate]; omega)
      have f3 := f2.trans (Fx.set (p := p) (S := S) (oA := oA') (oQ := oQ') (H := G ++ [Blk.arr 0 4 false [a.av]] ++ [Blk.arr 0 4 false [st.av]]) (i := S) (.inr (.inl rfl)) (.arr vS 4 false ((ss.map State.av).set ch.sub.toNat st.av)))
      obtain ⟨u, G2, z1, rfl, oA2, oQ2, z2, z3⟩ := okV_iff.1 (ih ch.sub.toNat a2 tm _ p S vS _ _ _ (by omega) hk m3 (by rw [c3, hkid2]; exact startL_actsR _) (by rw [c3, startL_len]; omega) hob hqb)
      have hset := sup_set (ss := ss) (k := ch.sub.toNat) (s := st) (by omega)
      have e1b := app_get e1' (.arr 0 4 false [st.av])
      have hz : (.agg [I 0, .isl (some true) 0 [], .isl (some true) 0 [], .bool false] : AV) = zeroState.av := rfl
      have this := fin _ _ _ _ hfa.symm z2 (f3.trans z3)
      rw [hcast] at z1
      simp [-getElem?_pos, -List.append_assoc, gEz, app_last, bx21, bx22, sx11, sx21, sx22, evl91_0, b91_0, intBin, hj, hw, ha, hze, hz, h5, h3, hx, hc, hch.1, hne, e1, e1', e1b, hx2, c103, s1, hset, z1, hsub2.2, hp0]
      simp only [h3] at this
      exact this
     ·have hfa : f s { a with time := tm } = doHandle l.l (perf l.l (ordT l.l) (up l.l) d) (up l.l) ch.sub.toNat ⟨2, -1, 0, tm⟩ s := by
       show doAct _ _ _ _ _ _ _ = _
       unfold doAct
       rw [if_neg (by exact h5)]
       simp only [hgd]
       rw [if_neg hneg, if_neg h3]
      rw [hfa] at hob hqb
      obtain ⟨u, G2, z1, rfl, oA2, oQ2, z2, z3⟩ := okV_iff.1 (t72 ht ih (k := ch.sub.toNat) hk (by omega) ⟨2, -1, 0, tm⟩ m1 hob hqb)
      have hev2 : (⟨2, -1, 0, tm⟩ : Event).av = .agg [I 2, I (-1), I 0, I tm] := rfl
      rw [hcast, hev2] at z1
      have := fin _ _ _ _ hfa.symm z2 (f1.trans z3)
      simp [-getElem?_pos, -List.append_assoc, gEz, app_last, bx21, bx22, sx11, sx21, sx22, evl91_0, b91_0, intBin, hj, hw, ha, hze, h5, h3, hx, hc, hch.1, hne, e1, e1', z1]
      exact this
  ·rintro s F G ⟨rfl, hs, oA', oQ', g1, g2⟩
   rw [List.take_length] at hs
   simp [evl91_0, b91_0, intBin]
   exact ⟨hs, oA', oQ', g1, g2⟩
end
section
theorem t43 (c : Int) (s : State) : W.pure 43 [I c, s.av] = some (.bool (fitsU c s)) := by
 rw [W_pure Φ43 (by simp)]
 unfold fitsU
 by_cases h1 : c = 1
 ·by_cases a : s.status = 1
  ·simp [-getElem?_pos, gEz, app_last, sx11, fi43, c43, evFun, enterFr, intBin, resV, rvVs, rvV, h1, a]
  ·by_cases b : s.status = 2
   ·simp [-getElem?_pos, gEz, app_last, sx11, fi43, c43, evFun, enterFr, intBin, resV, rvVs, rvV, h1, a, b]
   ·by_cases d : s.status = 3
    ·simp [-getElem?_pos, gEz, app_last, sx11, fi43, c43, evFun, enterFr, intBin, resV, rvVs, rvV, h1, a, b, d]
    ·simp [-getElem?_pos, gEz, app_last, sx11, fi43, c43, evFun, enterFr, intBin, resV, rvVs, rvV, h1, a, b, d]
 ·by_cases h2 : c = 2
  ·simp [-getElem?_pos, gEz, app_last, sx11, fi43, c43, evFun, enterFr, intBin, resV, rvVs, rvV, h1, h2]
  ·simp [-getElem?_pos, gEz, app_last, sx11, fi43, c43, evFun, enterFr, intBin, resV, rvVs, rvV, h1, h2]
theorem loop45_0 (s : Sl State) (tm : Int) {i : Nat} {x : State} (hx : s.l[i]? = some x) (hr : x.restarts.l.length ≤ 1000000) (H : Heap) :
  okC (W.loop [0, 1, 5, 6] l45_0 [(0, states s), (1, I tm), (5, I i), (6, I 0)] H) (fun y F G => if lateX tm x = true then y = .ret ∧ F.get 4 = .bool true else y = .exit 2 ∧ F.keep [0, 1, 5] = [(0, states s), (1, I tm), (5, I i)]) := by
 have hL := loop_all (Φ := Φ) (live := [0, 1, 5, 6]) (L := l45_0) x.restarts.l (fun _ n _ => if decide (tm < n) = true then (.inr () : Unit ⊕ Unit) else .inl ())
  (fun j _ F G => F = [(0, states s), (1, I tm), (5, I i), (6, I j)])
  (fun _ y F G => y = .ret ∧ F.get 4 = .bool true) (fun _ y F G => y = .exit 2 ∧ F.keep [0, 1, 5] = [(0, states s), (1, I tm), (5, I i)]) (s := ()) (H := H) rfl ?_ ?_
 ·simp only [Int.natCast_zero] at hL
  rw [foldE_any (fun n => decide (tm < n))] at hL
  unfold lateX
  split
  ·rename_i h; rw [if_pos h] at hL; exact hL
  ·rename_i h; rw [if_neg h] at hL; exact hL
 ·rintro j n ⟨⟩ F G hj hn rfl
  have hw := wrap_succ (k := j) (by omega)
  have hjr : j < x.restarts.l.length := hj
  by_cases hlt : tm < n
  ·simp [-getElem?_pos, gEz, evl45_0, b45_0, intBin, hx, hj, hn, hw, hlt]
  ·simp [-getElem?_pos, gEz, evl45_0, b45_0, intBin, hx, hj, hn, hw, hlt]
 ·rintro ⟨⟩ F G rfl
  simp [-getElem?_pos, evl45_0, b45_0, intBin, hx]
theorem t45 (s : Sl State) (hs : SmallS s.l) (hl : s.l.length ≤ 1000000) (tm : Int) : W.pure 45 [states s, I tm] = some (.bool (lateT s.l tm)) := by
 rw [W_pure Φ45 (by rfl)]
 have hL := loop_all (Φ := Φ) (live := [0, 1, 5]) (L := l45_1) s.l (fun _ x _ => if lateX tm x = true then (.inr () : Unit ⊕ Unit) else .inl ())
  (fun j _ F G => F = [(0, states s), (1, I tm), (5, I j)])
  (fun _ y F G => y = .ret ∧ F.get 4 = .bool true) (fun _ y F G => y = .exit 0) (s := ()) (F := [(0, states s), (1, I tm), (5, I 0)]) (H := []) rfl ?_ ?_
 ·rw [foldE_any (fun x => lateX tm x)] at hL
  unfold lateT
  cases hq : s.l.any (fun x => lateX tm x) with
  | true =>
   rw [hq] at hL
   obtain ⟨y, F', H', e1, rfl, e2⟩ := okC_iff.1 hL
   simp [fi45, c45, evFun, enterFr, intBin, resV, rvVs, rvV, e1, e2]
  | false =>
   rw [hq] at hL
   obtain ⟨y, F', H', e1, rfl⟩ := okC_iff.1 hL
   simp [fi45, c45, evFun, enterFr, intBin, resV, rvVs, rvV, e1]
 ·rintro j x ⟨⟩ F G hj hx rfl
  have hw := wrap_succ (k := j) (by omega)
  obtain ⟨y, F', H', e1, e2⟩ := okC_iff.1 (loop45_0 s tm hx (by have := hs x (List.mem_of_getElem? hx); omega) G)
  cases hq : lateX tm x with
  | true =>
   rw [hq, if_pos rfl] at e2
   obtain ⟨rfl, e2⟩ := e2
   simp [-getElem?_pos, evl45_1, b45_1, intBin, hj, e1, e2]
  | false =>
   rw [hq, if_neg (by decide)] at e2
   obtain ⟨rfl, e2⟩ := e2
   simp only [keep_cons, keep_nil, List.cons.injEq, Prod.mk.injEq, true_and, and_true] at e2
   obtain ⟨b0, b1, b5⟩ := e2
   simp [-getElem?_pos, evl45_1, b45_1, intBin, hj, e1, b0, b1, b5, hw]
 ·rintro ⟨⟩ F G rfl
  simp [evl45_1, b45_1, intBin]
theorem valid2_up {l : List Spec} (ht : TreeOk l) (ss : List State) : valid2 l ss = true ↔ ∀ k, 1 ≤ k → k < l.length → fitsU ((ss.getD (up l k).1 default).children.l.getD (up l k).2 default).status (ss.getD k default) = true := by
 constructor
 ·intro h k h1 h2
  obtain ⟨hi, ch, hch, hsub⟩ := up_sub ht ⟨h1, h2⟩
  have hx := gEg hi
  unfold valid2 at h
  have h4 := List.all_eq_true.1 h (l[(up l k).1], (up l k).1) (List.mem_zipIdx_iff_getElem?.2 hx)
  unfold valid2X at h4
  rw [kids_of hx] at hch
  have h5 := List.all_eq_true.1 h4 (ch, (up l k).2) (List.mem_zipIdx_iff_getElem?.2 hch)
  unfold valid2C at h5
  simp only [Bool.or_eq_true, decide_eq_true_eq] at h5
  have h6 := h5.resolve_left (by omega)
  have e : ch.sub.toNat = k := by omega
  rw [e] at h6
  exact h6
 ·intro h
  unfold valid2
  rw [List.all_eq_true]
  rintro ⟨x, i⟩ hm
  have hx := List.mem_zipIdx_iff_getElem?.1 hm
  have hi := (gEs.1 hx).1
  unfold valid2X
  rw [List.all_eq_true]
  rintro ⟨ch, c⟩ hm2
  have hc := List.mem_zipIdx_iff_getElem?.1 hm2
  unfold valid2C
  simp only [Bool.or_eq_true, decide_eq_true_eq]
  by_cases hneg : ch.sub < 0
  ·exact .inl hneg
  ·right
   rw [← kids_of hx] at hc
   have hs : SubAt l i c ch.sub.toNat := ⟨hi, ch, hc, by omega⟩
   have hlt := hs.lt ht
   have hr : 1 ≤ ch.sub.toNat ∧ ch.sub.toNat < l.length := ⟨by omega, hlt.2⟩
   obtain ⟨e1, e2⟩ := ht.one hs (up_sub ht hr)
   have := h ch.sub.toNat hr.1 hr.2
   rw [← e1, ← e2] at this
   exact this
theorem t25r {l : Sl Spec} {s : Sl State} (hK : ∀ x ∈ l.l, x.children.l.length ≤ 1000) (hll : l.l.length ≤ 1000) (hs : SmallS s.l) (hsl : s.l.length ≤ 1000000) : W.pure 25 [specs l, states s] = some (.bool (decide (chkT l.l = 0) && validT l.l s.l)) := by
 have c40 := t23 l hK (by omega)
 rw [W_pure Φ25 (by rfl)]
 by_cases hc : chkT l.l = 0
 ·have ht := tree_of hc
  have hlen := ht.len
  unfold validT
  by_cases hl : l.l.length = s.l.length
  ·have hli : (l.l.length : Int) = (s.l.length : Int) := by omega
   have hL := loop_all (Φ := Φ) (live := [0, 1, 5]) (L := l25_1) l.l (fun i x _ => if validB x (s.l.getD i default) = true then .inl () else (.inr () : Unit ⊕ Unit))
    (fun i _ F G => F = [(0, specs l), (1, states s), (5, I i)])
    (fun _ y F G => y = .ret ∧ F.get 4 = .bool false) (fun _ y F G => y = .exit 0 ∧ F.get 0 = specs l ∧ F.get 1 = states s) (s := ()) (F := [(0, specs l), (1, states s), (5, I 0)]) (H := []) rfl ?_ ?_
   ·rw [foldE_all (fun i x => validB x (s.l.getD i default))] at hL
    cases hv : valid1 l.l s.l with
    | false =>
     unfold valid1 at hv
     rw [hv, if_neg (by decide)] at hL
     obtain ⟨y, F', H', e1, rfl, e2⟩ := okC_iff.1 hL
     simp [fi25, c25, evFun, enterFr, intBin, resV, rvVs, rvV, c40, hc, hl, hli, e1, e2]
    | true =>
     unfold valid1 at hv
     rw [hv, if_pos rfl] at hL
     obtain ⟨y, F1, H1, e1, rfl, e2, e3⟩ := okC_iff.1 hL
     -- the second loop
     have hM := loop_all (Φ := Φ) (live := [0, 1, 6]) (L := l25_0) (List.range (l.l.length - 1)) (fun _ j _ => if fitsU ((s.l.getD (up l.l (j + 1)).1 default).children.l.getD (up l.l (j + 1)).2 default).status (s.l.getD (j + 1) default) = true then .inl () else (.inr () : Unit ⊕ Unit))
      (fun i _ F G => F = [(0, specs l), (1, states s), (6, I ((i : Int) + 1))])
      (fun _ y F G => y = .ret ∧ F.get 4 = .bool false) (fun _ y F G => y = .exit 2) (s := ()) (F := [(0, specs l), (1, states s), (6, I 1)]) (H := H1) rfl ?_ ?_
     ·rw [foldE_all (fun _ j => fitsU ((s.l.getD (up l.l (j + 1)).1 default).children.l.getD (up l.l (j + 1)).2 default).status (s.l.getD (j + 1) default))] at hM
      have hall : ((List.range (l.l.length - 1)).zipIdx.all fun p => fitsU ((s.l.getD (up l.l (p.1 + 1)).1 default).children.l.getD (up l.l (p.1 + 1)).2 default).status (s.l.getD (p.1 + 1) default)) = valid2 l.l s.l := by
       rw [Bool.eq_iff_iff, valid2_up ht, List.all_eq_true]
       constructor
       ·intro h k h1 h2
        have := h (k - 1, k - 1) (List.mem_zipIdx_iff_getElem?.2 (List.getElem?_range (by omega)))
        simp only at this
        rw [show k - 1 + 1 = k by omega] at this
        exact this
       ·rintro h ⟨j, i⟩ hm
        have hj := List.mem_zipIdx_iff_getElem?.1 hm
        have hil := (gEs.1 hj).1
        rw [List.length_range] at hil
        rw [List.getElem?_range hil] at hj
        have hji : i = j := Option.some.inj hj
        show fitsU ((s.l.getD (up l.l (j + 1)).1 default).children.l.getD (up l.l (j + 1)).2 default).status (s.l.getD (j + 1) default) = true
        rw [← hji]
        exact h (i + 1) (by omega) (by omega)
      rw [hall] at hM
      cases hv2 : valid2 l.l s.l with
      | false =>
       rw [hv2, if_neg (by decide)] at hM
       obtain ⟨y, F', H', w1, rfl, w2⟩ := okC_iff.1 hM
       simp [fi25, c25, evFun, enterFr, intBin, resV, rvVs, rvV, c40, hc, hl, hli, e1, e2, e3, w1, w2]
      | true =>
       rw [hv2, if_pos rfl] at hM
       obtain ⟨y, F', H', w1, rfl⟩ := okC_iff.1 hM
       simp [fi25, c25, evFun, enterFr, intBin, resV, rvVs, rvV, c40, hc, hl, hli, e1, e2, e3, w1]
     ·rintro i j ⟨⟩ F G hi hj rfl
      rw [List.length_range] at hi
      rw [List.getElem?_range hi] at hj
      cases hj
      have hk : 1 ≤ i + 1 ∧ i + 1 < l.l.length := by omega
      have hw : IntKind.wrap .i64 ((i : Int) + 1 + 1) = (i : Int) + 1 + 1 := by rw [wrap64] <;> omega
      have c42 := owner_up ht hk
      have hlt : (i : Int) + 1 < (l.l.length : Int) := by omega
      have hp1 : (0 : Int) ≤ (i : Int) + 1 := by omega
      have htn : ((i : Int) + 1).toNat = i + 1 := by omega
      obtain ⟨hui, ch, hch, hsub⟩ := up_sub ht hk
      have hxu := gEg hui
      have hus := gEg (l := s.l) (i := (up l.l (i + 1)).1) (by omega)
      have hug : s.l.getD (up l.l (i + 1)).1 default = s.l[(up l.l (i + 1)).1] := by rw [gEd, hus]; rfl
      have hks := gEg (l := s.l) (i := i + 1) (by omega)
      have hkg : s.l.getD (i + 1) default = s.l[i + 1] := by rw [gEd, hks]; rfl
      have hvb := List.all_eq_true.1 hv (l.l[(up l.l (i + 1)).1], (up l.l (i + 1)).1) (List.mem_zipIdx_iff_getElem?.2 hxu)
      simp only [hug] at hvb
      have hcl := (valid_facts hvb).2.1
      rw [kids_of hxu] at hch
      have hcc := (gEs.1 hch).1
      rw [hug, hkg]
      generalize s.l[(up l.l (i + 1)).1] = su at *
      generalize s.l[i + 1] = sk at *
      obtain ⟨cv, hcv⟩ : ∃ cv, su.children.l[(up l.l (i + 1)).2]? = some cv := ⟨_, gEg (by omega)⟩
      have hcg : su.children.l.getD (up l.l (i + 1)).2 default = cv := by rw [gEd, hcv]; rfl
      rw [hcg]
      have c43 := t43 cv.status sk
      rw [show ((i + 1 : Nat) : Int) = (i : Int) + 1 by omega] at c42
      generalize up l.l (i + 1) = u at *
      cases hq : fitsU cv.status sk with
      | true =>
       rw [hq] at c43
       simp [-getElem?_pos, gEz, evl25_0, b25_0, intBin, hlt, hp1, htn, c42, hus, hks, hcv, c43, hw]
      | false =>
       rw [hq] at c43
       simp [-getElem?_pos, gEz, evl25_0, b25_0, intBin, hlt, hp1, htn, c42, hus, hks, hcv, c43, hw]
     ·rintro ⟨⟩ F G rfl
      rw [List.length_range]
      have hge : ¬ ((l.l.length - 1 : Nat) : Int) + 1 < (l.l.length : Int) := by omega
      simp [evl25_0, b25_0, intBin, hge]
   ·rintro i x ⟨⟩ F G hi hx rfl
    have hw := wrap_succ (k := i) (by omega)
    have hsi := gEg (l := s.l) (i := i) (by omega)
    have hgd : s.l.getD i default = s.l[i] := by rw [gEd, hsi]; rfl
    rw [hgd]
    have hsm := hs s.l[i] (List.mem_of_getElem? hsi)
    generalize s.l[i] = st at *
    have h16 := e16 x st (by omega) (by omega)
    cases hv : validB x st with
    | true =>
     rw [hv] at h16
     simp only [if_true] at h16
     simp [-getElem?_pos, gEz, evl25_1, b25_1, intBin, hi, hx, hsi, hw, h16]
    | false =>
     rw [hv] at h16
     simp only [Bool.false_eq_true, if_false] at h16
     simp [-getElem?_pos, gEz, evl25_1, b25_1, intBin, hi, hx, hsi, hw, h16]
   ·rintro ⟨⟩ F G rfl
    simp [evl25_1, b25_1, intBin]
  ·have hli : ¬ (l.l.length : Int) = (s.l.length : Int) := by omega
   simp [fi25, c25, evFun, enterFr, intBin, resV, rvVs, rvV, c40, hc, hl, hli]
 ·simp [fi25, c25, evFun, enterFr, intBin, resV, rvVs, rvV, c40, hc]
end
section
section refq
variable {l : Sl Spec} {p S vS : Nat} {oA oQ : Option Nat} {t : Tree} {H : Heap}
theorem drains_loopR (ht : TreeOk l.l) {t t' : Tree} (hd : Drains l.l t t') : ∀ {oA oQ : Option Nat} {H : Heap}, RefQ l p S vS oA oQ t H → okC (W.loop [0] l46_0 [(0, .optr p 0 0 0)] H) (fun y F G => y = .exit 0 ∧ ∃ oA' oQ', RefQ l p S vS oA' oQ' t' G) := by
 induction hd with
 | done h0 =>
  intro oA oQ H h
  obtain ⟨av, qv, e1, e2, e3⟩ := h.blk
  have hlen := e3.len
  rw [h0] at hlen
  simp only [List.map_nil, List.length_nil, refQ] at hlen e1
  have ha : okC (evC W l46_0 (Fr.keep [(0, .optr p 0 0 0)] [0]) H) (fun y F G => y = .exit 0 ∧ G = H) := by
   simp [-getElem?_pos, gEz, evl46_0, b46_0, intBin, e1, e3.okO, e3.cells, hlen]
  obtain ⟨y, F, G, f1, rfl, rfl⟩ := okC_iff.1 ha
  rw [loop_leave f1 (by simp)]
  exact ⟨rfl, oA, oQ, h⟩
 | step d r k h0 hk hkl ho hq hs ih =>
  intro oA oQ H h
  obtain ⟨av, qv, a, qv', e1, e2, e3, e4, e5, e6, e7, e8, e9, e10, e11, e12⟩ := h.pop h0
  obtain ⟨z1, z2, z3, _⟩ := e12 (.arr 0 5 false [.agg [I 0, I 0, I 0, I 0, I 0]])
  obtain ⟨g1, g2, g3, g4⟩ := e12 (.arr 0 5 false [d.av])
  have hpl' := (gEs.1 e1).1
  obtain ⟨u, G, y1, rfl, oA', oQ', y2, y3⟩ := okV_iff.1 (t72 ht (perf_okR ht l.l.length) (k := k) hkl (by omega) d.e g4 ho hq)
  have e1' := app_get e1 (.arr 0 5 false [d.av])
  have e1z := app_get e1 (.arr 0 5 false [.agg [I 0, I 0, I 0, I 0, I 0]])
  have hbx : ((H ++ [Blk.arr 0 5 false [d.av]]).set p (.arr 0 4 false [refQ l S vS av qv']))[H.length]? = some (.arr 0 5 false [d.av]) := by
   rw [gEn (by omega)]; exact app_last _ _
  have hev : (.agg [I d.e.kind, I d.e.child, I d.e.value, I d.e.time] : AV) = d.e.av := rfl
  have hpos : (0 : Int) < (r.length : Int) + 1 := by omega
  simp only [refQ] at e1 e1' e1z hbx y1
  have ha : okC (evC W l46_0 (Fr.keep [(0, .optr p 0 0 0)] [0]) H) (fun y F G' => y = .normal ∧ F.keep [0] = [(0, .optr p 0 0 0)] ∧ G' = G) := by
   simp [-getElem?_pos, gEz, app_last, sx11, evl46_0, b46_0, intBin, e1, e2, e3, e4, hpos, e5, e6, e7, e1', e1z, e8, e9, e10, e11, z1, z2, z3, g1, g2, g3, hbx, hk, hev, y1]
  obtain ⟨y, F, G', f1, rfl, f2, rfl⟩ := okC_iff.1 ha
  rw [loop_normal f1, f2]
  exact ih y2
theorem t46 (ht : TreeOk l.l) {ss : List State} {i : Nat} {e : Event} {t' : Tree} (hd : Drains l.l ⟨ss, [], [⟨i, e⟩]⟩ t') (h : RefQ l p S vS oA oQ ⟨ss, [], []⟩ H) :
  okV (W.call (.clo 46 [] []) [.optr p 0 0 0, I i, e.av] H) (fun u G => u = .tuple [] ∧ ∃ oA' oQ', RefQ l p S vS oA' oQ' t' G) := by
 rw [W_call Φ46]
 cases hd with
 | done h0 => cases h0
 | step d r k h0 hk hkl ho hq hs =>
  cases h0
  have hik : i = k := by simp only at hk; omega
  subst hik
  obtain ⟨u, G, y1, rfl, oA', oQ', y2, _⟩ := okV_iff.1 (t72 ht (perf_okR ht l.l.length) (k := i) hkl (by omega) e (h.box (.arr 0 4 false [e.av])) ho hq)
  obtain ⟨y, F', G2, w1, rfl, w2⟩ := okC_iff.1 (drains_loopR ht hs y2)
  have : okV (evFun W fi46 [.optr p 0 0 0, I i, e.av] H) (fun u' G' => u' = .tuple [] ∧ G' = G2) := by
   simp [-getElem?_pos, gEz, app_last, sx11, fi46, c46, evFun, enterFr, intBin, resV, rvVs, rvV, y1, w1]
  obtain ⟨u', G', x1, rfl, rfl⟩ := okV_iff.1 this
  rw [List.nil_append, List.append_nil, x1]
  exact ⟨rfl, w2⟩
end refq
theorem app_all {H : Heap} {id : Nat} (hH : H[id]? = some (.arr 0 4 false [])) (s : Sl State) (hne : s.l ≠ []) (hl : s.l.length ≤ 1000000) : ex H (.app 4) [.osl id 0 0 0, states s] = some (.osl id s.l.length 0 s.l.length, H.set id (.arr s.l.length 4 false (s.l.map State.av))) := by
 have he : elemsOf H 4 (states s) = some (s.l.map State.av) := by
  have : s.l.isEmpty = false := by cases h : s.l with | nil => exact absurd h hne | cons => rfl
  simp [states, Sl.av, elemsOf, this]
 have hall : (s.l.map State.av).all (fun e => e.cells.all AV.cell) = true := by
  rw [List.all_map, List.all_eq_true]; intro x _; simp
 have hmap : s.l.map State.av ≠ [] := by simpa using hne
 simp only [ex, he]
 rw [if_pos hall]
 simp only [truncH, hH, List.length_nil, Nat.add_zero, Nat.lt_irrefl, and_false, if_false, exApp]
 simp only [true_and, Nat.add_zero, if_true, Nat.zero_add]
 generalize hL : s.l.map State.av = L at *
 have hlen : L.length = s.l.length := by rw [← hL]; simp
 cases L with
 | nil => exact absurd rfl hmap
 | cons x r =>
  simp only [List.drop_nil, List.nil_append]
  rw [if_pos (by simp only [appRoom]; omega), hlen]
def noRunR (e : Int) : AV := .tuple [.isl (some false) 4 [], .isl (some false) 4 [], I e]
def RanR (t : Tree) (v : AV) : Prop := ∃ (ss : Sl State) (a : Sl Event), v = .tuple [states ss, Sl.av Event.av 4 a, I 0] ∧ ss.l.map State.core = t.ss.map State.core ∧ a.l = t.out
theorem t27h {l : Sl Spec} {s : Sl State} (ht : TreeOk l.l) (hl : s.l.length = l.l.length) (hs : SmallS s.l) (hks : ∀ x ∈ s.l, KnownS x) {k : Nat} (hk : k < l.l.length) (e : Event) :
  (handleE (l.l.getD k default) (s.l.getD k default) e ≠ 0 → W.pure 27 [specs l, states s, I k, e.av] = some (noRunR (handleE (l.l.getD k default) (s.l.getD k default) e))) ∧
  (handleE (l.l.getD k default) (s.l.getD k default) e = 0 → lateT s.l e.time = true → W.pure 27 [specs l, states s, I k, e.av] = some (noRunR 9)) ∧
  (handleE (l.l.getD k default) (s.l.getD k default) e = 0 → lateT s.l e.time = false → ∀ t', Drains l.l ⟨s.l, [], [⟨k, e⟩]⟩ t' → ∃ v, W.pure 27 [specs l, states s, I k, e.av] = some v ∧ RanR t' v) := by
 have hlen := ht.len
 have hx := gEg hk
 have hgx : l.l.getD k default = l.l[k] := by rw [gEd, hx]; rfl
 rw [hgx]
 generalize l.l[k] = x at hx
 have hkl : k < s.l.length := by omega
 have hsk := gEg hkl
 have hgs : s.l.getD k default = s.l[k] := by rw [gEd, hsk]; rfl
 rw [hgs]
 generalize s.l[k] = st at hsk
 have hsm := hs st (List.mem_of_getElem? hsk)
 have hkn := hks st (List.mem_of_getElem? hsk)
 have hlx := chk_len (ht.ok k x hx)
 obtain ⟨v, d1, d2⟩ := e14 x st e (by omega) (by omega) (by omega) hkn.1 hkn.2
 have hz : (.agg [I 0, .isl (some true) 0 [], .isl (some true) 0 [], .bool false] : AV) = zeroState.av := rfl
 unfold HandleOk at d2
 have c45 := t45 s hs (by omega) e.time
 have hne : s.l ≠ [] := by intro h; rw [h] at hl; simp at hl; omega
 refine ⟨fun hE => ?_, fun hE hlate => ?_, fun hE hlate t' hd => ?_⟩
 ·rw [if_neg hE] at d2
  subst d2
  rw [W_pure Φ27 (by simp)]
  simp [-getElem?_pos, gEz, fi27, c27, evFun, enterFr, intBin, resV, rvVs, rvV, hx, hsk, d1, hz, hE, noRunR]
 ·rw [if_pos hE] at d2
  obtain ⟨t1, a, rfl, d3, d4⟩ := d2
  rw [hlate] at c45
  rw [W_pure Φ27 (by simp)]
  simp [-getElem?_pos, gEz, fi27, c27, evFun, enterFr, intBin, resV, rvVs, rvV, hx, hsk, d1, hz, c45, noRunR]
 ·rw [if_pos hE] at d2
  obtain ⟨t1, a, rfl, d3, d4⟩ := d2
  rw [hlate] at c45
  have happ := app_all (H := [.arr 0 4 false [e.av], .arr 0 4 false [t1.av], .arr 0 4 false []]) (id := 2) rfl s hne (by omega)
  have hf : RefQ l 3 2 s.l.length none none ⟨s.l, [], []⟩ [.arr 0 4 false [e.av], .arr 0 4 false [t1.av], .arr s.l.length 4 false (s.l.map State.av), .arr 0 4 false [refQ l 2 s.l.length (.isl (some true) 0 []) (.isl (some true) 0 [])]] :=
   ⟨⟨_, _, rfl, grow_nil _ _, ⟨rfl, rfl⟩⟩, ⟨s.l, rfl, rfl, hks⟩, hl, ⟨by decide, by simp, by simp, by simp, by simp, by simp⟩, hs⟩
  obtain ⟨u, G, z1, rfl, oA, oQ, z2⟩ := okV_iff.1 (t46 ht hd hf)
  obtain ⟨⟨av, qv, e1, e2, e3⟩, ⟨ss', q1, q2, q3⟩, q4, _⟩ := z2
  have hl' : ss'.length = l.l.length := by have := congrArg List.length q2; simp at this; omega
  have f1 := frz_sup (l := l) 6 q1 hl'
  obtain ⟨a2, g1, g2, g3⟩ := e2.slG (n := 6) (all_still (fun x => by simp) _)
  refine ⟨.tuple [states (ofL 4 ss'), Sl.av Event.av 4 a2, I 0], ?_, ofL 4 ss', a2, rfl, q2, g2⟩
  rw [W_pure Φ27 (by simp)]
  simp only [refQ, hl] at z1 e1 happ f1
  simp [-getElem?_pos, gEz, fi27, c27, evFun, enterFr, intBin, resV, rvVs, rvV, hx, hsk, d1, hz, c45, happ, hl, z1, e1, e2.okO, e2.cells, f1, g1]
end
section
theorem t4g (l : Sl Spec) (s : Sl State) : ∃ g, W.pure 4 [specs l, states s] = some (.bool g) ∧ (g = false → greatT l.l = false ∧ s.l.length ≤ 10 ∧ ∀ x ∈ s.l, greatS x = false) := by
 rw [W_pure Φ4 (by rfl)]
 by_cases h10 : 10 < l.l.length
 ·have h10' : 10 < (l.l.length : Int) := by omega
  exact ⟨true, by simp [fi4, c4, evFun, enterFr, intBin, resV, rvVs, rvV, h10'], fun h => by cases h⟩
 ·have h10' : ¬ 10 < (l.l.length : Int) := by omega
  by_cases s10 : 10 < s.l.length
  ·have s10' : 10 < (s.l.length : Int) := by omega
   exact ⟨true, by simp [fi4, c4, evFun, enterFr, intBin, resV, rvVs, rvV, h10', s10'], fun h => by cases h⟩
  ·have s10' : ¬ 10 < (s.l.length : Int) := by omega
   have hL := loop_all (Φ := Φ) (live := [0, 1, 5]) (L := l4_1) l.l (fun _ x _ => if greatB x = true then (.inr () : Unit ⊕ Unit) else .inl ()) (fun i _ F G => F = [(0, specs l), (1, states s), (5, I i)]) (fun _ y F G => y = .ret ∧ F.get 4 = .bool true) (fun _ y F G => y = .exit 0 ∧ F.get 1 = states s) (s := ()) (F := [(0, specs l), (1, states s), (5, I 0)]) (H := []) rfl ?_ ?_
   ·rw [foldE_any greatB] at hL
    cases hg : l.l.any greatB with
    | true =>
     rw [hg] at hL
     obtain ⟨y, F, G, e1, rfl, e2⟩ := okC_iff.1 hL
     exact ⟨true, by simp [fi4, c4, evFun, enterFr, intBin, resV, rvVs, rvV, h10', s10', e1, e2], fun h => by cases h⟩
    | false =>
     rw [hg] at hL
     obtain ⟨y, F1, G1, e1, rfl, e2⟩ := okC_iff.1 hL
     have hM := loop_all (Φ := Φ) (live := [1, 6]) (L := l4_0) s.l (fun _ x _ => if greatS x = true then (.inr () : Unit ⊕ Unit) else .inl ()) (fun i _ F G => F = [(1, states s), (6, I i)]) (fun _ y F G => y = .ret ∧ F.get 4 = .bool true) (fun _ y F G => y = .exit 2) (s := ()) (F := [(1, states s), (6, I 0)]) (H := G1) rfl ?_ ?_
     ·rw [foldE_any greatS] at hM
      cases hs : s.l.any greatS with
      | true =>
       rw [hs] at hM
       obtain ⟨y, F, G, w1, rfl, w2⟩ := okC_iff.1 hM
       exact ⟨true, by simp [fi4, c4, evFun, enterFr, intBin, resV, rvVs, rvV, h10', s10', e1, e2, w1, w2], fun h => by cases h⟩
      | false =>
       rw [hs] at hM
       obtain ⟨y, F, G, w1, rfl⟩ := okC_iff.1 hM
       refine ⟨false, by simp [fi4, c4, evFun, enterFr, intBin, resV, rvVs, rvV, h10', s10', e1, e2, w1], fun _ => ⟨?_, by omega, fun x hx => ?_⟩⟩
       ·unfold greatT; rw [hg]; simp; omega
       ·have := List.any_eq_false.1 hs x hx; simpa using this
     ·rintro i x ⟨⟩ F G hi hx rfl
      have hw := wrap_succ (k := i) (by omega)
      have h16 := e11 x
      cases hg : greatS x with
      | true => rw [hg] at h16; simp [-getElem?_pos, evl4_0, b4_0, intBin, hi, hx, hw, h16]
      | false => rw [hg] at h16; simp [-getElem?_pos, evl4_0, b4_0, intBin, hi, hx, hw, h16]
     ·rintro ⟨⟩ F G rfl
      simp [evl4_0, b4_0, intBin]
   ·rintro i x ⟨⟩ F G hi hx rfl
    have hw := wrap_succ (k := i) (by omega)
    have h15 := e10 x
    cases hg : greatB x with
    | true => rw [hg] at h15; simp [-getElem?_pos, evl4_1, b4_1, intBin, hi, hx, hw, h15]
    | false => rw [hg] at h15; simp [-getElem?_pos, evl4_1, b4_1, intBin, hi, hx, hw, h15]
   ·rintro ⟨⟩ F G rfl
    simp [evl4_1, b4_1, intBin]
theorem t14e (x y : Sl Int) (h : x.l = y.l) (hl : x.l.length ≤ 1000000) : W.pure 14 [Sl.ints x, Sl.ints y] = some (.bool true) := by
 rw [W_pure Φ14 (by rfl)]
 have hly : y.l.length = x.l.length := by rw [h]
 have hL := loop_fold (Φ := Φ) (live := [0, 1, 12, 13]) (L := l14_0) x.l (σ := Unit) (fun _ _ s => s) (fun j _ F G => F = [(0, Sl.ints x), (1, Sl.ints y), (12, I x.l.length), (13, I j)]) (fun _ y F G => y = .exit 0) (s := ()) (F := [(0, Sl.ints x), (1, Sl.ints y), (12, I x.l.length), (13, I 0)]) (H := []) rfl ?_ ?_
 ·obtain ⟨w, F', H', e1, rfl⟩ := okC_iff.1 hL
  simp [fi14, c14, evFun, enterFr, intBin, resV, rvVs, rvV, hly, e1]
 ·rintro j n ⟨⟩ F G hj hn rfl
  have hw := wrap_succ (k := j) (by omega)
  have hny : y.l[j]? = some n := by rw [← h]; exact hn
  have hjy : j < y.l.length := by omega
  simp [-getElem?_pos, evl14_0, b14_0, intBin, hj, hjy, hn, hny, hw]
 ·rintro ⟨⟩ F G rfl
  simp [evl14_0, b14_0, intBin]
structure Both (v w : Option AV) : Prop where
 ex : ∃ a b a' b' e, Imm a ∧ Imm b ∧ Imm a' ∧ Imm b' ∧ v = some (.tuple [a, b, I e]) ∧ w = some (.tuple [a', b', I e]) ∧ W.pure 8 [a, a'] = some (.bool true) ∧ W.pure 9 [b, b'] = some (.bool true)
theorem both_no (e : Int) : Both (some (noRun e)) (some (noRunR e)) := by
 have c8 : W.pure 8 [.isl (some true) 0 [], .isl (some false) 4 []] = some (.bool true) := t25 slNil (ofL 4 []) rfl (by simp) (by simp)
 have c9 : W.pure 9 [.isl (some true) 0 [], .isl (some false) 4 []] = some (.bool true) := e18 slNil (ofL 4 []) (by simp)
 exact ⟨_, _, _, _, e, imm_nil, imm_nil, ⟨_, _, _, rfl⟩, ⟨_, _, _, rfl⟩, rfl, rfl, c8, c9⟩
theorem treeW_small {l : List Spec} (ht : TreeOk l) {tm : Int} {t : Tree} (h : TreeW l tm t []) : ∀ s ∈ t.ss, s.children.l.length ≤ 1000 ∧ s.restarts.l.length ≤ 1000 := by
 intro s hs
 obtain ⟨k, hk⟩ := List.getElem?_of_mem hs
 have hkl := (gEs.1 hk).1
 have hkl' : k < l.length := by have := h.len; omega
 have hi := h.inv k hkl'
 have e : sAt t k = s := by unfold sAt; rw [gEd, hk]; rfl
 rw [e] at hi
 have hx := gEg hkl'
 have hgx : l.getD k default = l[k] := by rw [gEd, hx]; rfl
 rw [hgx] at hi
 have h0 := ht.ok k _ hx
 have hcl := chk_len h0
 have h1 := hi.len
 have h2 := hi.few
 simp only [runOf] at h1 h2
 have hwin : l[k].intensity ≤ 100 := by
  have := h0
  unfold chk at this
  split at this
  ·cases this
  ·split at this
   ·cases this
   ·rename_i hh2
    simp [inR] at hh2
    omega
 omega
theorem both_run {l : List Spec} (ht : TreeOk l) {tm : Int} {t : Tree} (h : TreeW l tm t []) (ho : t.out.length ≤ 3000) {v w : AV} (hv : RanOk t v) (hw : RanR t w) : Both (some v) (some w) := by
 obtain ⟨ss, a, rfl, r1, r2, r3, _⟩ := hv
 obtain ⟨ss', a', rfl, q1, q2⟩ := hw
 have hsm := treeW_small ht h
 have hlen : ss.l.length = l.length := by have := congrArg List.length r1; simp at this; have := h.len; omega
 have c8 := t25 ss ss' (by rw [r1, q1]) (by have := ht.len; omega) (fun s hs => by
  have : s.core ∈ t.ss.map State.core := by rw [← r1]; exact List.mem_map.2 ⟨s, hs, rfl⟩
  obtain ⟨s', h1, h2⟩ := List.mem_map.1 this
  have := core_inj h2
  have h3 := hsm s' h1
  rw [← this.2.1, ← this.2.2.1]; omega)
 have c9 := e18 a a' (by rw [r3]; omega)
 rw [r3, q2, decide_eq_true rfl] at c9
 exact ⟨_, _, _, _, 0, imm_sl _ _ _, imm_sl _ _ _, imm_sl _ _ _, imm_sl _ _ _, rfl, rfl, c8, c9⟩
section law
variable {l : Sl Spec} {s : Sl State}
theorem both_event (hn : NamesOk l.l) (ht : TreeOk l.l) (hv : validT l.l s.l = true) (hs : SmallS s.l) (hks : ∀ x ∈ s.l, KnownS x) (hnl : s.nl = some false) {k : Nat} (hk : k < l.l.length) (e : Event) (hx : ∀ c k', exOf e = some c → ¬ SubAt l.l k c k') : Both (W.pure 24 [specs l, states s, I k, e.av]) (W.pure 27 [specs l, states s, I k, e.av]) := by
 have hl : s.l.length = l.l.length := by
  have := hv
  unfold validT at this
  simp only [Bool.and_eq_true, decide_eq_true_eq] at this
  omega
 obtain ⟨a1, a2, a3⟩ := t57 hn ht hl hs hks hnl hk e
 obtain ⟨b1, b2, b3⟩ := t27h ht hl hs hks hk e
 by_cases hE : handleE (l.l.getD k default) (s.l.getD k default) e = 0
 ·cases hlt : lateT s.l e.time with
  | true => rw [a2 hE hlt, b2 hE hlt]; exact both_no 9
  | false =>
   obtain ⟨t', d1, d2, d3⟩ := drainsW ht hv hk (e := e) hx
   obtain ⟨v, v1, v2⟩ := a3 hE hlt t' d1
   obtain ⟨w, w1, w2⟩ := b3 hE hlt t' d1
   rw [v1, w1]
   exact both_run ht d2 d3 v2 w2
 ·rw [a1 hE, b1 hE]; exact both_no _
theorem both_exit (hg : greatT l.l = false) (hs : SmallS s.l) (hsl : s.l.length ≤ 10) (hks : ∀ x ∈ s.l, KnownS x) (hnl : KnownNil s) (w reason tm : Int) : Both (W.pure 6 [specs l, states s, I w, I reason, I tm]) (W.pure 7 [specs l, states s, I w, I reason, I tm]) := by
 obtain ⟨hn, hll⟩ := great_names hg
 have hK := great_kids hg
 have c25 := t25r (l := l) (s := s) hK (by omega) hs (by omega)
 have c21 := t22 l hn (by omega)
 by_cases hc : chkT l.l = 0
 ·have ht := tree_of hc
  have c22 := t56 ht hn hs (by omega)
  rw [hc] at c21
  cases hv : validT l.l s.l with
  | false =>
   rw [hv] at c22 c25
   simp only [Bool.and_false] at c25
   have p6 : W.pure 6 [specs l, states s, I w, I reason, I tm] = some (noRun 1) := by
    rw [W_pure Φ6 (by rfl)]
    simp [fi6, c6, evFun, enterFr, intBin, resV, rvVs, rvV, c21, c22, noRun]
   have p7 : W.pure 7 [specs l, states s, I w, I reason, I tm] = some (noRunR 1) := by
    rw [W_pure Φ7 (by rfl)]
    simp [fi7, c7, evFun, enterFr, intBin, resV, rvVs, rvV, c25, noRunR]
   rw [p6, p7]; exact both_no 1
  | true =>
   rw [hc, hv] at c25
   simp only [decide_true, Bool.and_true] at c25
   have hl : s.l.length = l.l.length := by
    have := hv
    unfold validT at this
    simp only [Bool.and_eq_true, decide_eq_true_eq] at this
    omega
   have h0 : 0 < l.l.length := by have := ht.len.1; omega
   have hnl' : s.nl = some false := by
    rcases hnl with ⟨_, h⟩ | h
    ·rw [h] at hl; simp at hl; omega
    ·exact h
   obtain ⟨r, c26, hr⟩ := t50 ht l.l.length 0 (by omega) h0
   have hro : r.l = ordT l.l := hr
   simp only [Int.natCast_zero] at c26
   by_cases hr' : w < 0 ∨ ((ordT l.l).length : Int) ≤ w
   ·rw [t27r hn hc hs (by omega) hv hr' reason tm]
    have p7 : W.pure 7 [specs l, states s, I w, I reason, I tm] = some (noRunR 2) := by
     rw [W_pure Φ7 (by rfl)]
     rcases hr' with h | h
     ·simp [fi7, c7, evFun, enterFr, intBin, resV, rvVs, rvV, c25, c26, h, noRunR]
     ·have h2 : (r.l.length : Int) ≤ w := by rw [hro]; exact h
      by_cases h3 : w < 0
      ·simp [fi7, c7, evFun, enterFr, intBin, resV, rvVs, rvV, c25, c26, h3, noRunR]
      ·simp [fi7, c7, evFun, enterFr, intBin, resV, rvVs, rvV, c25, c26, h2, h3, noRunR]
    rw [p7]; exact both_no 2
   ·obtain ⟨n, rfl⟩ : ∃ n : Nat, w = (n : Int) := ⟨w.toNat, by omega⟩
    have hnr : n < (ordT l.l).length := by omega
    obtain ⟨⟨i, c⟩, hat⟩ : ∃ p, (ordT l.l)[n]? = some p := ⟨_, gEg hnr⟩
    have hwa := (order_mem ht l.l.length 0 h0 (i, c) (List.mem_of_getElem? hat)).1
    have hb := both_event hn ht hv hs hks hnl' hwa.1 ⟨1, c, reason, tm⟩ (fun c' k' he hsub => by
     have : c' = c := by simp [exOf] at he; exact he.symm
     subst this
     obtain ⟨_, ch, h1, h2⟩ := hwa
     obtain ⟨_, ch', h3, h4⟩ := hsub
     rw [h1] at h3; cases h3
     omega)
    obtain ⟨a, b, a', b', e, i1, i2, i3, i4, v1, v2, v3, v4⟩ := hb.ex
    have p6 := t27 hn hc hs (by omega) hv hat reason tm i1 i2 v1
    have hev : (⟨1, c, reason, tm⟩ : Event).av = .agg [I 1, I c, I reason, I tm] := rfl
    rw [hev] at v2
    have hat' : r.l[n]? = some (i, c) := by rw [hro]; exact hat
    have hpa : plA (i, c) = .agg [I i, I c] := rfl
    have hl1 : ¬ (n : Int) < 0 := by omega
    have hl2 : ¬ (r.l.length : Int) ≤ (n : Int) := by rw [hro]; omega
    have hl3 : n < r.l.length := by rw [hro]; exact hnr
    have p7 : W.pure 7 [specs l, states s, I (n : Int), I reason, I tm] = some (.tuple [a', b', I e]) := by
     rw [W_pure Φ7 (by rfl)]
     obtain ⟨a1, a2, a3, rfl⟩ := i3
     obtain ⟨b1, b2, b3, rfl⟩ := i4
     simp [-getElem?_pos, gEz, fi7, c7, evFun, enterFr, intBin, resV, rvVs, rvV, c25, c26, hl1, hl2, hl3, hat', hpa, v2]
    exact ⟨a, b, a', b', e, i1, i2, i3, i4, p6, p7, v3, v4⟩
 ·have hd : decide (chkT l.l = 0) = false := by simpa using hc
  rw [hd, Bool.false_and] at c25
  have p6 : W.pure 6 [specs l, states s, I w, I reason, I tm] = some (noRun 1) := by
   rw [W_pure Φ6 (by rfl)]
   simp [fi6, c6, evFun, enterFr, intBin, resV, rvVs, rvV, c21, hc, noRun]
  have p7 : W.pure 7 [specs l, states s, I w, I reason, I tm] = some (noRunR 1) := by
   rw [W_pure Φ7 (by rfl)]
   simp [fi7, c7, evFun, enterFr, intBin, resV, rvVs, rvV, c25, noRunR]
  rw [p6, p7]; exact both_no 1
theorem both_stop (hg : greatT l.l = false) (hs : SmallS s.l) (hsl : s.l.length ≤ 10) (hks : ∀ x ∈ s.l, KnownS x) (hnl : KnownNil s) (tm : Int) : Both (W.pure 10 [specs l, states s, I tm]) (W.pure 11 [specs l, states s, I tm]) := by
 obtain ⟨hn, hll⟩ := great_names hg
 have hK := great_kids hg
 have c25 := t25r (l := l) (s := s) hK (by omega) hs (by omega)
 have c21 := t22 l hn (by omega)
 by_cases hc : chkT l.l = 0
 ·have ht := tree_of hc
  have c22 := t56 ht hn hs (by omega)
  rw [hc] at c21
  cases hv : validT l.l s.l with
  | false =>
   rw [hv] at c22 c25
   simp only [Bool.and_false] at c25
   have p6 : W.pure 10 [specs l, states s, I tm] = some (noRun 1) := by
    rw [W_pure Φ10 (by rfl)]
    simp [fi10, c10, evFun, enterFr, intBin, resV, rvVs, rvV, c21, c22, noRun]
   have p7 : W.pure 11 [specs l, states s, I tm] = some (noRunR 1) := by
    rw [W_pure Φ11 (by rfl)]
    simp [fi11, c11, evFun, enterFr, intBin, resV, rvVs, rvV, c25, noRunR]
   rw [p6, p7]; exact both_no 1
  | true =>
   rw [hc, hv] at c25
   simp only [decide_true, Bool.and_true] at c25
   have hl : s.l.length = l.l.length := by
    have := hv
    unfold validT at this
    simp only [Bool.and_eq_true, decide_eq_true_eq] at this
    omega
   have h0 : 0 < l.l.length := by have := ht.len.1; omega
   have hnl' : s.nl = some false := by
    rcases hnl with ⟨_, h⟩ | h
    ·rw [h] at hl; simp at hl; omega
    ·exact h
   have hb := both_event hn ht hv hs hks hnl' h0 ⟨2, -1, 0, tm⟩ (fun c' k' he => by simp [exOf] at he)
   obtain ⟨a, b, a', b', e, i1, i2, i3, i4, v1, v2, v3, v4⟩ := hb.ex
   have p6 := t26 hn hc hs (by omega) hv tm i1 i2 v1
   have hev : (⟨2, -1, 0, tm⟩ : Event).av = .agg [I 2, I (-1), I 0, I tm] := rfl
   rw [hev] at v2
   have p7 : W.pure 11 [specs l, states s, I tm] = some (.tuple [a', b', I e]) := by
    rw [W_pure Φ11 (by rfl)]
    obtain ⟨a1, a2, a3, rfl⟩ := i3
    obtain ⟨b1, b2, b3, rfl⟩ := i4
    simp only [Int.natCast_zero] at v2
    simp [-getElem?_pos, gEz, fi11, c11, evFun, enterFr, intBin, resV, rvVs, rvV, c25, v2]
   exact ⟨a, b, a', b', e, i1, i2, i3, i4, p6, p7, v3, v4⟩
 ·have hd : decide (chkT l.l = 0) = false := by simpa using hc
  rw [hd, Bool.false_and] at c25
  have p6 : W.pure 10 [specs l, states s, I tm] = some (noRun 1) := by
   rw [W_pure Φ10 (by rfl)]
   simp [fi10, c10, evFun, enterFr, intBin, resV, rvVs, rvV, c21, hc, noRun]
  have p7 : W.pure 11 [specs l, states s, I tm] = some (noRunR 1) := by
   rw [W_pure Φ11 (by rfl)]
   simp [fi11, c11, evFun, enterFr, intBin, resV, rvVs, rvV, c25, noRunR]
  rw [p6, p7]; exact both_no 1
theorem both_counts (hg : greatT l.l = false) (hs : SmallS s.l) (hsl : s.l.length ≤ 10) : ∃ a b e, Imm a ∧ Imm b ∧ W.pure 12 [specs l, states s] = some (.tuple [a, I e]) ∧ W.pure 13 [specs l, states s] = some (.tuple [b, I e]) ∧ W.pure 14 [a, b] = some (.bool true) := by
 obtain ⟨hn, hll⟩ := great_names hg
 have hK := great_kids hg
 have c25 := t25r (l := l) (s := s) hK (by omega) hs (by omega)
 have c21 := t22 l hn (by omega)
 have none : W.pure 12 [specs l, states s] = some (.tuple [.isl (some true) 0 [], I 1]) → W.pure 25 [specs l, states s] = some (.bool false) → ∃ a b e, Imm a ∧ Imm b ∧ W.pure 12 [specs l, states s] = some (.tuple [a, I e]) ∧ W.pure 13 [specs l, states s] = some (.tuple [b, I e]) ∧ W.pure 14 [a, b] = some (.bool true) := by
  intro p12 q25
  have hf : Go.Proofs.YtjknjapdcphcfaaGreat.frz [.arr 0 1 false []] 7 (.osl 0 0 0 0) = some (.isl (some false) 1 []) := rfl
  have p13 : W.pure 13 [specs l, states s] = some (.tuple [.isl (some false) 1 [], I 1]) := by
   rw [W_pure Φ13 (by rfl)]
   simp [fi13, c13, evFun, enterFr, intBin, resV, rvVs, rvV, q25, hf]
  have c14 : W.pure 14 [.isl (some true) 0 [], .isl (some false) 1 []] = some (.bool true) := t14e slNil (ofL 1 []) rfl (by simp)
  exact ⟨_, _, 1, imm_nil, ⟨_, _, _, rfl⟩, p12, p13, c14⟩
 by_cases hc : chkT l.l = 0
 ·have ht := tree_of hc
  have c22 := t56 ht hn hs (by omega)
  rw [hc] at c21
  cases hv : validT l.l s.l with
  | false =>
   rw [hv] at c22 c25
   simp only [Bool.and_false] at c25
   refine none ?_ c25
   rw [W_pure Φ12 (by rfl)]
   simp [-getElem?_pos, gEz, fi12, c12, evFun, enterFr, intBin, resV, rvVs, rvV, c21, c22]
  | true =>
   rw [hc, hv] at c25
   simp only [decide_true, Bool.and_true] at c25
   have hW := treeW_of ht hv 0
   have hfit : FitsL l.l s.l := ⟨hW.len, fun k hk => (hW.inv k hk).len⟩
   have h0 : 0 < l.l.length := by have := ht.len.1; omega
   obtain ⟨q, c12, hq, _⟩ := t32 hn hc hs (by omega) hv hfit
   obtain ⟨r, c26, hr⟩ := t50 ht l.l.length 0 (by omega) h0
   have hro : r.l = ordT l.l := hr
   simp only [Int.natCast_zero] at c26
   have hlen := order_len ht l.l.length 0 h0
   have hmem := order_mem ht l.l.length 0 h0
   rw [← hr] at hlen hmem
   have hL := loop_fold (Φ := Φ) (live := [1, 6, 7, 8]) (L := l13_0) r.l (σ := List Int) (fun _ p x => x ++ [startsAt s.l p])
    (fun k x F G => ∃ o v, F = [(1, states s), (6, v), (7, Sl.av plA 2 r), (8, I k)] ∧ Grow G 1 o v (x.map I) ∧ x = (r.l.take k).map (startsAt s.l)) (fun x y F G => y = .exit 0 ∧ ∃ o, Grow G 1 o (F.get 6) (x.map I) ∧ x = r.l.map (startsAt s.l)) (s := []) (F := [(1, states s), (6, .osl 0 0 0 0), (7, Sl.av plA 2 r), (8, I 0)]) (H := [.arr 0 1 false []]) ⟨some 0, _, rfl, grow_mk (l := []) rfl, by simp⟩ ?_ ?_
   ·obtain ⟨y, F', H', e1, rfl, o, e2, e3⟩ := okC_iff.1 hL
    rw [e3] at e2
    obtain ⟨rr, f1, f2, f3⟩ := e2.slG (n := 6) (all_still (fun s => by simp) _)
    have p13 : W.pure 13 [specs l, states s] = some (.tuple [Sl.ints rr, I 0]) := by
     rw [W_pure Φ13 (by rfl)]
     simp [fi13, c13, evFun, enterFr, intBin, resV, rvVs, rvV, c25, c26, e1, e2.okO, e2.cells, f1]
    have c14 := t14e q rr (by rw [hq, f2, hro]) (by rw [hq, List.length_map, ← hro]; omega)
    exact ⟨_, _, 0, imm_sl _ _ _, imm_sl _ _ _, c12, p13, c14⟩
   ·rintro k p x F G hk hp ⟨o, v, rfl, hgr, hx⟩
    obtain ⟨i, c⟩ := p
    have hw := wrap_succ (k := k) (by omega)
    obtain ⟨hi, ch, hch, _⟩ := (hmem _ (List.mem_of_getElem? hp)).1
    simp only at hi hch
    have hsi := gEg (l := s.l) (i := i) (by have := hfit.1; omega)
    have hgi : s.l.getD i default = s.l[i]'(by have := hfit.1; omega) := by rw [gEd, hsi]; rfl
    have hci := hfit.2 i hi
    rw [hgi] at hci
    have hcc := (gEs.1 hch).1
    generalize hst : s.l[i]'(by have := hfit.1; omega) = st at *
    obtain ⟨cv, hcv⟩ : ∃ cv, st.children.l[c]? = some cv := ⟨_, gEg (by omega)⟩
    have hsa : startsAt s.l (i, c) = cv.starts := by
     unfold startsAt
     rw [hgi, gEd, hcv]; rfl
    have hgo := hgr.okO
    have hgc := hgr.cells
    have hxl : x.length = k := by rw [hx, List.length_map, List.length_take]; omega
    obtain ⟨o', v', G', a1, a2, a3, a4⟩ := hgr.app1 (I cv.starts) (by simp) (by rw [List.length_map]; simp only [appRoom]; omega)
    have hg2 : Grow G' 1 o' v' ((x ++ [startsAt s.l (i, c)]).map I) := by rw [List.map_append, hsa]; exact a2
    have ha2o := a2.okO
    have ha2c := a2.cells
    have hx2 : x ++ [startsAt s.l (i, c)] = (r.l.take (k + 1)).map (startsAt s.l) := by rw [List.take_add_one, hp, List.map_append, hx]; rfl
    simp [-getElem?_pos, gEz, evl13_0, b13_0, intBin, hk, hp, hsi, hcv, hw, hgo, hgc, plA, a1, ha2o, ha2c]
    exact ⟨⟨o', by simpa using hg2⟩, by rw [hx2, List.map_take]⟩
   ·rintro x F G ⟨o, v, rfl, hgr, hx⟩
    rw [List.take_length] at hx
    have hgo := hgr.okO
    have hgc := hgr.cells
    simp [evl13_0, b13_0, intBin, hgo, hgc]
    exact ⟨⟨o, hgr⟩, hx⟩
 ·have hd : decide (chkT l.l = 0) = false := by simpa using hc
  rw [hd, Bool.false_and] at c25
  refine none ?_ c25
  rw [W_pure Φ12 (by rfl)]
  simp [-getElem?_pos, gEz, fi12, c12, evFun, enterFr, intBin, resV, rvVs, rvV, c21, hc]
end law
theorem great_small {s : State} (h : greatS s = false) : s.children.l.length ≤ 1000 ∧ s.restarts.l.length ≤ 1000 := by
 simp only [greatS, Bool.or_eq_false_iff, decide_eq_false_iff_not] at h
 omega
theorem lawExit (l : Sl Spec) (hl0 : SlOk Spec.wf l) (s : Sl State) (hs0 : SlOk State.wf s) (w reason tm : Int) : W.pure 3 [specs l, states s, I w, I reason, I tm] = some (.bool true) := by
 have c5 := awk
 obtain ⟨g, c4, hg⟩ := t4g l s
 rw [W_pure Φ3 (by rfl)]
 cases g with
 | true => simp [fi3, c3, evFun, enterFr, intBin, resV, rvVs, rvV, c4, c5]
 | false =>
  obtain ⟨h1, h2, h3⟩ := hg rfl
  have hsm : SmallS s.l := fun x hx => great_small (h3 x hx)
  have hks : ∀ x ∈ s.l, KnownS x := fun x hx => by
   have := hs0.all x hx
   exact ⟨this.2.1.known, this.2.2.1.known⟩
  obtain ⟨a, b, a', b', e, i1, i2, i3, i4, p6, p7, q8, q9⟩ := (both_exit h1 hsm h2 hks hs0.known w reason tm).ex
  obtain ⟨x, y, x', y', f, j1, j2, j3, j4, p10, p11, r8, r9⟩ := (both_stop h1 hsm h2 hks hs0.known tm).ex
  obtain ⟨c, d, n, k1, k2, p12, p13, p14⟩ := both_counts h1 hsm h2
  obtain ⟨_, _, _, rfl⟩ := i1
  obtain ⟨_, _, _, rfl⟩ := i2
  obtain ⟨_, _, _, rfl⟩ := i3
  obtain ⟨_, _, _, rfl⟩ := i4
  obtain ⟨_, _, _, rfl⟩ := j1
  obtain ⟨_, _, _, rfl⟩ := j2
  obtain ⟨_, _, _, rfl⟩ := j3
  obtain ⟨_, _, _, rfl⟩ := j4
  obtain ⟨_, _, _, rfl⟩ := k1
  obtain ⟨_, _, _, rfl⟩ := k2
  simp [fi3, c3, evFun, enterFr, intBin, resV, rvVs, rvV, c4, c5, p6, p7, q8, q9, p10, p11, r8, r9, p12, p13, p14]
end
end Go.Proofs.YtjknjapdcphcfaaGreat
