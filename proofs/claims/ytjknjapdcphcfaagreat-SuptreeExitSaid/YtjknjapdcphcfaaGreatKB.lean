/-
  The actions of a supervisor: whom they concern; memory that stays as it is up to being given away (conditions: none). The memory of a tree in which something happens (conditions: none). The queue of a tree; starting a supervisor (conditions: none). A supervisor of a tree handles an event (conditions: none). Performing the actions of a supervisor of a tree (conditions: none).
-/
import Derived.Test.YtjknjapdcphcfaaGreatKA
namespace Go.Proofs.YtjknjapdcphcfaaGreat
open Go Go.RowKit
set_option linter.unusedVariables false
set_option linter.unusedSimpArgs false
set_option maxRecDepth 10000
set_option maxHeartbeats 4000000
section
def ActN (n : Nat) (tm : Int) (a : Event) : Prop := a.time = tm ∧ a.value = 0 ∧ (a.kind = 5 ∧ a.child = -1 ∨ (a.kind = 3 ∨ a.kind = 4) ∧ 0 ≤ a.child ∧ a.child < n)
structure ActW (tm : Int) (r r' : RunSt) : Prop where
 cs : r'.cs.length = r.cs.length
 out : ∀ a ∈ r'.out, a ∈ r.out ∨ ActN r.cs.length tm a
theorem ActW.refl (tm : Int) (r : RunSt) : ActW tm r r := ⟨rfl, fun _ h => .inl h⟩
theorem ActW.trans {tm : Int} {r s t : RunSt} (h : ActW tm r s) (h' : ActW tm s t) : ActW tm r t := ⟨h'.cs.trans h.cs, fun a ha => by
 rcases h'.out a ha with h1 | h1
 ·exact h.out a h1
 ·rw [h.cs] at h1; exact .inr h1⟩
theorem ActW.of_out {tm : Int} {r r' : RunSt} (hc : r'.cs.length = r.cs.length) (ho : r'.out = r.out) : ActW tm r r' := ⟨hc, fun a ha => .inl (by rw [← ho]; exact ha)⟩
theorem ActW.act {tm : Int} {r r' : RunSt} (hc : r'.cs.length = r.cs.length) {k c : Int} (ho : r'.out = r.out ++ [⟨k, c, 0, tm⟩]) (h : k = 5 ∧ c = -1 ∨ (k = 3 ∨ k = 4) ∧ 0 ≤ c ∧ c < r.cs.length) : ActW tm r r' := ⟨hc, fun a ha => by
 rw [ho, List.mem_append] at ha
 rcases ha with ha | ha
 ·exact .inl ha
 ·simp only [List.mem_singleton] at ha; subst ha; exact .inr ⟨rfl, rfl, h⟩⟩
theorem actw_setS (tm : Int) (r : RunSt) (k : Nat) (st : Int) : ActW tm r (r.setS k st) := .of_out (setS_len _ _ _) (setS_out _ _ _)
theorem actw_stopped (tm : Int) (r : RunSt) : ActW tm r (r.stopped tm) := by
 unfold RunSt.stopped; split
 ·exact .act rfl rfl (.inl ⟨rfl, rfl⟩)
 ·exact .of_out rfl rfl
theorem actw_fold {α : Type} (tm : Int) (f : RunSt → α → RunSt) (P : α → Prop) (hf : ∀ s x, P x → ActW tm s (f s x)) : ∀ (l : List α) (s : RunSt), (∀ x ∈ l, P x) → ActW tm s (l.foldl f s)
 | [], s, _ => .refl tm s
 | x :: l, s, h => (hf s x (h x (by simp))).trans (actw_fold tm f P hf l _ (fun y hy => h y (by simp [hy])))
theorem actw_again1 (tm : Int) (k : Nat) (s : RunSt) : ActW tm s (stepAgain tm k s) := by
 unfold stepAgain; split
 ·rename_i c hc
  have := (gEs.1 hc).1
  split
  ·exact .act (by simp [RunSt.act]) rfl (.inr ⟨.inl rfl, by omega, by omega⟩)
  ·exact .refl _ _
 ·exact .refl _ _
theorem actw_again (tm : Int) (r : RunSt) : ActW tm r (againS tm r) := by
 have := actw_fold tm (fun (s : RunSt) (a : ChildState × Nat) => stepAgain tm a.2 s) (fun _ => True) (fun s a _ => actw_again1 tm a.2 s) r.cs.zipIdx r (fun _ _ => trivial)
 exact ⟨this.cs, this.out⟩
theorem actw_stop1 (tm i : Int) (hi : 0 ≤ i) (s : RunSt) : ActW tm s (stepStop tm i s) := by
 unfold stepStop; split
 ·rename_i c hc
  have := (gEs.1 hc).1
  split
  ·exact .act (by simp [RunSt.act]) rfl (.inr ⟨.inr rfl, hi, by omega⟩)
  ·exact .refl _ _
 ·exact .refl _ _
theorem actw_stop (tm : Int) (l : List Int) (hl : ∀ i ∈ l, 0 ≤ i) (r : RunSt) : ActW tm r (stopS tm l r) := by
 have := actw_fold tm (fun (s : RunSt) (i : Int) => stepStop tm i s) (fun i => 0 ≤ i) (fun s a ha => actw_stop1 tm a ha s) l.reverse r (fun i hi => hl i (List.mem_reverse.1 hi))
 rw [List.foldl_reverse] at this
 exact this
theorem actw_hold (tm : Int) (r : RunSt) : ActW tm r (holdS r) :=
 actw_fold tm (fun (s : RunSt) (a : ChildState × Nat) => stepShut a.2 s) (fun _ => True) (fun s a _ => by
  unfold stepShut; split
  ·split
   ·exact actw_setS _ _ _ _
   ·exact .refl _ _
  ·exact .refl _ _) r.cs.zipIdx r (fun _ _ => trivial)
theorem actw_shut (tm : Int) (r : RunSt) : ActW tm r (shutS tm r) := by
 have h := (actw_hold tm r).trans (actw_stop tm (idxs r.cs.length) (fun i hi => (idxs_in hi).1) (holdS r))
 unfold shutS; split
 ·exact ⟨h.cs, h.out⟩
 ·exact h.trans (actw_stopped tm _)
theorem actw_running (x : Spec) (tm : Int) (n : Nat) (ch : Child) (reason : Int) (r : RunSt) : ActW tm r (runningS x tm n ch reason r) := by
 have h0 : ActW tm r ({ r with rs := recentL x tm r.rs ++ [tm] } : RunSt) := .of_out rfl rfl
 have h1 := (h0.trans (actw_setS tm _ n 4)).trans (actw_stop tm (affL x n) (fun i hi => (affL_in x n i hi).1) _)
 unfold runningS; split
 ·exact actw_setS _ _ _ _
 ·split
  ·have h2 : ActW tm r ({ r.setS n 3 with fl := true } : RunSt) := ⟨(actw_setS tm r n 3).cs, (actw_setS tm r n 3).out⟩
   exact h2.trans (actw_shut tm _)
  ·split
   ·exact h1.trans (actw_again tm _)
   ·exact ⟨h1.cs, h1.out⟩
theorem actw_stopping (tm : Int) (n : Nat) (ch : Child) (r : RunSt) : ActW tm r (stoppingS tm n ch r) := by
 have h0 : ActW tm r (stopping1 n ch r) := actw_setS _ _ _ _
 unfold stoppingS; split
 ·exact h0
 ·split
  ·exact h0.trans (actw_again tm _)
  ·exact h0.trans (actw_stopped tm _)
theorem actw_handle (x : Spec) (s : State) (e : Event) : (handleR x s e).cs.length = s.children.l.length ∧ ∀ a ∈ (handleR x s e).out, ActN s.children.l.length e.time a := by
 have h : ActW e.time (runOf s) (handleR x s e) := by
  unfold handleR; split
  ·split
   ·unfold exitedS; split
    ·exact actw_running x e.time e.child.toNat _ e.value (runOf s)
    ·exact actw_stopping _ _ _ _
   ·exact .refl _ _
  ·unfold askedS; split
   ·exact .refl _ _
   ·exact actw_shut _ _
 refine ⟨h.cs, fun a ha => ?_⟩
 rcases h.out a ha with h1 | h1
 ·cases h1
 ·exact h1
/-! ### Memory, up to being given away -/
def UpTo (X : Nat → Prop) (H H' : Heap) : Prop := H.length ≤ H'.length ∧ ∀ j B, ¬ X j → H[j]? = some B → H'[j]? = some B ∨ ∃ v sz sh es, B = .arr v sz sh es ∧ H'[j]? = some (.arr v sz true es)
theorem UpTo.refl (X : Nat → Prop) (H : Heap) : UpTo X H H := ⟨Nat.le_refl _, fun _ _ _ h => .inl h⟩
theorem UpTo.trans {X Y : Nat → Prop} {A B C : Heap} (h : UpTo X A B) (h' : UpTo Y B C) (hxy : ∀ j, Y j → j < A.length → X j) : UpTo X A C := by
 refine ⟨Nat.le_trans h.1 h'.1, fun j K hj hK => ?_⟩
 have hl := (gEs.1 hK).1
 have hy : ¬ Y j := fun hy => hj (hxy j hy hl)
 rcases h.2 j K hj hK with h1 | ⟨v, sz, sh, es, rfl, h1⟩
 ·exact h'.2 j K hy h1
 ·rcases h'.2 j _ hy h1 with h2 | ⟨v', sz', sh', es', e, h2⟩
  ·exact .inr ⟨v, sz, sh, es, rfl, h2⟩
  ·cases e; exact .inr ⟨v, sz, sh, es, rfl, h2⟩
theorem UpTo.weak {X Y : Nat → Prop} {A B : Heap} (h : UpTo X A B) (hxy : ∀ j, X j → j < A.length → Y j) : UpTo Y A B := ⟨h.1, fun j K hj hK => h.2 j K (fun hx => hj (hxy j hx (gEs.1 hK).1)) hK⟩
theorem UpTo.arr {X : Nat → Prop} {A B : Heap} (h : UpTo X A B) {j v sz : Nat} {sh : Bool} {es : List AV} (hj : ¬ X j) (hb : A[j]? = some (.arr v sz sh es)) : ∃ sh', B[j]? = some (.arr v sz sh' es) := by
 rcases h.2 j _ hj hb with h1 | ⟨v', sz', sh', es', e, h1⟩
 ·exact ⟨_, h1⟩
 ·cases e; exact ⟨_, h1⟩
theorem Kept.upTo {o : Option Nat} {A B : Heap} (h : Kept o A B) : UpTo (fun j => o = some j) A B := ⟨h.1, fun j K hj hK => .inl (h.get hj hK)⟩
theorem Kept.upTo' {X : Nat → Prop} {A B : Heap} (h : Kept none A B) : UpTo X A B := ⟨h.1, fun j K hj hK => .inl (h.get (by simp) hK)⟩
def SlV {α : Type} (K : Sl α → Prop) (f : α → AV) (sz : Nat) (X : Nat → Prop) (H : Heap) (v : AV) (l : List α) : Prop :=
 (∃ s : Sl α, v = Sl.av f sz s ∧ s.l = l ∧ K s) ∨ ∃ q ver t sh, v = .osl q ver 0 l.length ∧ H[q]? = some (.arr ver sz sh (l.map f ++ t)) ∧ ¬ X q
section slv
variable {α : Type} {K : Sl α → Prop} {f : α → AV} {sz : Nat} {X : Nat → Prop} {H H' : Heap} {v : AV} {l : List α}
theorem SlV.upTo {Y : Nat → Prop} (h : SlV K f sz X H v l) (hu : UpTo Y H H') (hy : ∀ j, Y j → j < H.length → X j) {X' : Nat → Prop} (hx : ∀ j, X' j → j < H.length → X j) : SlV K f sz X' H' v l := by
 rcases h with h | ⟨q, ver, t, sh, h1, h2, h3⟩
 ·exact .inl h
 ·have hl := (gEs.1 h2).1
  obtain ⟨sh', h4⟩ := hu.arr (fun hq => h3 (hy q hq hl)) h2
  exact .inr ⟨q, ver, t, sh', h1, h4, fun hq => h3 (hx q hq hl)⟩
theorem SlV.okO (h : SlV K f sz X H v l) : okO v = some v := by
 rcases h with ⟨s, rfl, _⟩ | ⟨q, ver, t, sh, rfl, _⟩ <;> rfl
theorem SlV.cells (h : SlV K f sz X H v l) : v.cells = [v] := by
 rcases h with ⟨s, rfl, _⟩ | ⟨q, ver, t, sh, rfl, _⟩ <;> rfl
theorem SlV.cell (h : SlV K f sz X H v l) : v.cell = true := by
 rcases h with ⟨s, rfl, _⟩ | ⟨q, ver, t, sh, rfl, _⟩ <;> rfl
theorem SlV.rd (h : SlV K f sz X H v l) : Rd H sz v (l.map f) := by
 rcases h with ⟨s, rfl, rfl, _⟩ | ⟨q, ver, t, sh, rfl, h2, _⟩
 ·exact Rd.of_sl f H sz s
 ·refine ⟨rfl, by simp, fun k e he => ?_⟩
  have hk : k < l.length := by have := (gEs.1 he).1; simpa using this
  exact ⟨.optr q ver k 0, by simp [h2, hk], At.optr h2 (by rw [gEa (by simpa using hk)]; exact he)⟩
theorem SlV.pub (h : SlV KnownNil f sz X H v l) (hf : ∀ x, (f x).cells.all AV.still = true) : ∃ (s : Sl α) (G : Heap), pub1 H v = (Sl.av f sz s, G) ∧ s.l = l ∧ KnownNil s ∧ UpTo (fun _ => False) H G ∧ G.length = H.length ∧ ∀ j, X j → G[j]? = H[j]? := by
 rcases h with ⟨s, rfl, h1, h2⟩ | ⟨q, ver, t, sh, rfl, h2, h3⟩
 ·exact ⟨s, H, rfl, h1, h2, UpTo.refl _ _, rfl, fun _ _ => rfl⟩
 ·have hl := (gEs.1 h2).1
  have ht : ((l.map f ++ t).drop 0).take l.length = l.map f := by
   rw [List.drop_zero, List.take_append_of_le_length (by simp), List.take_of_length_le (by simp)]
  refine ⟨ofL sz l, H.set q (.arr ver sz true (l.map f ++ t)), ?_, rfl, .inr rfl, ⟨by simp, fun j B _ hB => ?_⟩, by simp, fun j hj => ?_⟩
  ·simp only [pub1, h2]
   rw [if_pos ⟨trivial, by simp, by rw [ht]; exact all_still hf l⟩, ht, ← isl_sl]
  ·by_cases hj : q = j
   ·subst hj
    rw [h2] at hB; cases hB
    exact .inr ⟨_, _, _, _, rfl, gEt hl⟩
   ·rw [gEn hj]; exact .inl hB
  ·exact gEn (fun (e : q = j) => h3 (by rw [e]; exact hj))
end slv
end
section
def StV (X : Nat → Prop) (H : Heap) (sv : AV) (s : State) : Prop := ∃ (cv : AV) (r : Sl Int), sv = .agg [I s.status, cv, Sl.ints r, .bool s.failed] ∧ SlV KnownNil ChildState.av 2 X H cv s.children.l ∧ r.l = s.restarts.l ∧ KnownNil r
theorem StV.upTo {X X' Y : Nat → Prop} {H H' : Heap} {sv : AV} {s : State} (h : StV X H sv s) (hu : UpTo Y H H') (hy : ∀ j, Y j → j < H.length → X j) (hx : ∀ j, X' j → j < H.length → X j) : StV X' H' sv s := by
 obtain ⟨cv, r, h1, h2, h3⟩ := h
 exact ⟨cv, r, h1, h2.upTo hu hy hx, h3⟩
theorem StV.of {X : Nat → Prop} {H : Heap} {s t : State} (h : s.core = t.core) (k1 : KnownNil s.children) (k2 : KnownNil s.restarts) : StV X H s.av t := by
 obtain ⟨h1, h2, h3, h4⟩ := core_inj h
 refine ⟨Sl.av ChildState.av 2 s.children, s.restarts, ?_, .inl ⟨s.children, rfl, h2, k1⟩, h3, k2⟩
 rw [← h1, ← h4]; rfl
theorem StV.pub {X : Nat → Prop} {H : Heap} {sv : AV} {s : State} (h : StV X H sv s) : ∃ (s' : State) (G : Heap), pubA H sv = (s'.av, G) ∧ s'.core = s.core ∧ KnownNil s'.children ∧ KnownNil s'.restarts ∧ UpTo (fun _ => False) H G ∧ G.length = H.length ∧ ∀ j, X j → G[j]? = H[j]? := by
 obtain ⟨cv, r, rfl, h2, h3, h4⟩ := h
 obtain ⟨c, G, a1, a2, a3, a4, a5, a6⟩ := h2.pub (fun x => by simp)
 refine ⟨⟨s.status, c, r, s.failed⟩, G, ?_, ?_, a3, h4, a4, a5, a6⟩
 ·have e1 : pub1 H (I s.status) = (I s.status, H) := rfl
  have e2 : pub1 G (Sl.ints r) = (Sl.ints r, G) := rfl
  have e3 : pub1 G (.bool s.failed) = (.bool s.failed, G) := rfl
  simp only [pubA, pubs1, e1, a1, e2, e3]
  rfl
 ·simp only [State.core, a2, h3]
theorem StV.cells {X : Nat → Prop} {H : Heap} {sv : AV} {s : State} (h : StV X H sv s) : sv.cells.length = 4 ∧ okO sv = some sv ∧ sv.cells.all AV.cell = true ∧ (∀ n : Nat, n = 4 → ldCells true n sv.cells = sv) ∧ ldCells false 1 sv.cells = I s.status ∧ ∃ a r, sv = .agg (a :: r) := by
 obtain ⟨cv, r, rfl, h2, h3, h4⟩ := h
 have hc := h2.cell
 have hcc := h2.cells
 refine ⟨rfl, rfl, by simp [hc], fun n hn => by subst hn; rfl, rfl, _, _, rfl⟩
def OwnT (p S : Nat) (oA oQ : Option Nat) (j : Nat) : Prop := j = p ∨ j = S ∨ oA = some j ∨ oQ = some j
def mkT (l : Sl Spec) (S vS : Nat) (pl : Sl (Nat × Nat)) (av qv : AV) : AV := .agg [specs l, .osl S vS 0 l.l.length, Sl.av plA 2 pl, av, qv]
structure TreeM (l : Sl Spec) (pl : Sl (Nat × Nat)) (p S vS : Nat) (oA oQ : Option Nat) (t : Tree) (H : Heap) : Prop where
 blk : ∃ av qv, H[p]? = some (.arr 0 5 false [mkT l S vS pl av qv]) ∧ Grow H 4 oA av (t.out.map Event.av) ∧ Fifo H 5 oQ qv (t.q.map Due.av)
 sup : ∃ svs, H[S]? = some (.arr vS 4 false svs) ∧ svs.length = l.l.length ∧ ∀ (k : Nat) (sv : AV) (s : State), svs[k]? = some sv → t.ss[k]? = some s → StV (OwnT p S oA oQ) H sv s
 len : t.ss.length = l.l.length
 ne : p ≠ S ∧ oA ≠ some p ∧ oA ≠ some S ∧ oQ ≠ some p ∧ oQ ≠ some S ∧ ∀ i, oA = some i → oQ ≠ some i
 small : ∀ s ∈ t.ss, s.children.l.length ≤ 1000 ∧ s.restarts.l.length ≤ 1000
 em : oA = none ∨ t.out ≠ []
def Nx (p S : Nat) (oA oQ oA' oQ' : Option Nat) (H G : Heap) : Prop := UpTo (OwnT p S oA oQ) H G ∧ ∀ j, OwnT p S oA' oQ' j → j < H.length → OwnT p S oA oQ j
theorem Nx.refl (p S : Nat) (oA oQ : Option Nat) (H : Heap) : Nx p S oA oQ oA oQ H H := ⟨UpTo.refl _ _, fun _ h _ => h⟩
theorem Nx.trans {p S : Nat} {a b a' b' a'' b'' : Option Nat} {A B C : Heap} (h : Nx p S a b a' b' A B) (h' : Nx p S a' b' a'' b'' B C) : Nx p S a b a'' b'' A C :=
 ⟨h.1.trans h'.1 h.2, fun j hj hl => h.2 j (h'.2 j hj (by have := h.1.1; omega)) hl⟩
theorem Nx.of_upTo {p S : Nat} {a b : Option Nat} {Y : Nat → Prop} {A B : Heap} (h : UpTo Y A B) (hy : ∀ j, Y j → j < A.length → OwnT p S a b j) : Nx p S a b a b A B := ⟨h.weak hy, fun _ h _ => h⟩
section treem
variable {l : Sl Spec} {pl : Sl (Nat × Nat)} {p S vS : Nat} {oA oQ : Option Nat} {t : Tree} {H : Heap}
theorem Grow.same {H G : Heap} {sz : Nat} {o : Option Nat} {v : AV} {L : List AV} (h : Grow H sz o v L) (hg : ∀ j, o = some j → G[j]? = H[j]?) : Grow G sz o v L := by
 cases o with
 | none => exact h
 | some id => obtain ⟨ver, t, h1, h2⟩ := h; exact ⟨ver, t, h1, by rw [hg id rfl]; exact h2⟩
theorem Fifo.same {H G : Heap} {sz : Nat} {o : Option Nat} {v : AV} {L : List AV} (h : Fifo H sz o v L) (hg : ∀ j, o = some j → G[j]? = H[j]?) : Fifo G sz o v L := by
 cases o with
 | none => exact h
 | some id => obtain ⟨ver, pre, t, h1, h2⟩ := h; exact ⟨ver, pre, t, h1, by rw [hg id rfl]; exact h2⟩
theorem TreeM.keep (h : TreeM l pl p S vS oA oQ t H) {G : Heap} (hu : UpTo (fun _ => False) H G) (hx : ∀ j, OwnT p S oA oQ j → G[j]? = H[j]?) : TreeM l pl p S vS oA oQ t G ∧ Nx p S oA oQ oA oQ H G := by
 obtain ⟨av, qv, e1, e2, e3⟩ := h.blk
 obtain ⟨svs, s1, s2, s3⟩ := h.sup
 refine ⟨⟨⟨av, qv, by rw [hx p (.inl rfl)]; exact e1, e2.same fun j hj => hx j (.inr (.inr (.inl hj))), e3.same fun j hj => hx j (.inr (.inr (.inr hj)))⟩, ⟨svs, by rw [hx S (.inr (.inl rfl))]; exact s1, s2, fun k sv s a b => (s3 k sv s a b).upTo hu (fun _ h => h.elim) (fun _ h _ => h)⟩, h.len, h.ne, h.small, h.em⟩, Nx.of_upTo hu (fun _ h => h.elim)⟩
theorem TreeM.lt (h : TreeM l pl p S vS oA oQ t H) {j : Nat} (hj : OwnT p S oA oQ j) : j < H.length := by
 obtain ⟨av, qv, e1, e2, e3⟩ := h.blk
 obtain ⟨svs, s1, s2, s3⟩ := h.sup
 rcases hj with rfl | rfl | rfl | rfl
 ·exact (gEs.1 e1).1
 ·exact (gEs.1 s1).1
 ·exact e2.lt
 ·exact e3.lt
theorem TreeM.box (h : TreeM l pl p S vS oA oQ t H) (B : Blk) : TreeM l pl p S vS oA oQ t (H ++ [B]) ∧ Nx p S oA oQ oA oQ H (H ++ [B]) :=
 h.keep (Kept.append none H [B]).upTo' (fun j hj => by rw [gEa (h.lt hj)])
theorem TreeM.setS (h : TreeM l pl p S vS oA oQ t H) {svs : List AV} (hs : H[S]? = some (.arr vS 4 false svs)) {k : Nat} {sv : AV} {s : State} (hv : StV (OwnT p S oA oQ) H sv s) (hsm : s.children.l.length ≤ 1000 ∧ s.restarts.l.length ≤ 1000) :
  TreeM l pl p S vS oA oQ { t with ss := t.ss.set k s } (H.set S (.arr vS 4 false (svs.set k sv))) ∧ Nx p S oA oQ oA oQ H (H.set S (.arr vS 4 false (svs.set k sv))) := by
 obtain ⟨av, qv, e1, e2, e3⟩ := h.blk
 obtain ⟨svs', s1, s2, s3⟩ := h.sup
 rw [hs] at s1; cases s1
 obtain ⟨n1, n2, n3, n4, n5, n6⟩ := h.ne
 have hk : Kept (some S) H (H.set S (.arr vS 4 false (svs.set k sv))) := Kept.set _ _ _
 have hu : UpTo (OwnT p S oA oQ) H (H.set S (.arr vS 4 false (svs.set k sv))) := hk.upTo.weak (fun j hj _ => by cases hj; exact .inr (.inl rfl))
 have hSl := (gEs.1 hs).1
 refine ⟨⟨⟨av, qv, hk.get (fun e => n1 (by cases e; rfl)) e1, e2.kept hk (fun id hid e => n3 (by rw [e, hid])), e3.kept hk (fun id hid e => n5 (by rw [e, hid]))⟩, ⟨svs.set k sv, gEt hSl, by simpa using s2, fun j sv' s' a b => ?_⟩, by simpa using h.len, h.ne, fun s' hs' => ?_, h.em⟩, hu, fun _ h _ => h⟩
 ·by_cases hj : k = j
  ·subst hj
   have ha := (gEs.1 a).1
   have hb := (gEs.1 b).1
   rw [List.length_set] at ha hb
   rw [gEt ha] at a
   simp only at b
   rw [gEt hb] at b
   cases a; cases b
   exact hv.upTo hu (fun _ h _ => h) (fun _ h _ => h)
  ·rw [gEn hj] at a
   simp only at b
   rw [gEn hj] at b
   exact (s3 j sv' s' a b).upTo hu (fun _ h _ => h) (fun _ h _ => h)
 ·rcases List.mem_or_eq_of_mem_set hs' with h1 | h1
  ·exact h.small s' h1
  ·rw [h1]; exact hsm
theorem TreeM.emit (h : TreeM l pl p S vS oA oQ t H) (a : Event) (hl : t.out.length ≤ 1000000) :
  ∃ av qv av' G2 oA', H[p]? = some (.arr 0 5 false [mkT l S vS pl av qv]) ∧ okO av = some av ∧ av.cells = [av] ∧ ex H (.app 4) [av, .isl (some false) 4 [a.av]] = some (av', G2) ∧ okO av' = some av' ∧ av'.cells = [av'] ∧ av'.cell = true ∧ G2[p]? = some (.arr 0 5 false [mkT l S vS pl av qv]) ∧
   TreeM l pl p S vS oA' oQ { t with out := t.out ++ [a] } (G2.set p (.arr 0 5 false [mkT l S vS pl av' qv])) ∧ Nx p S oA oQ oA' oQ H (G2.set p (.arr 0 5 false [mkT l S vS pl av' qv])) := by
 obtain ⟨av, qv, e1, e2, e3⟩ := h.blk
 obtain ⟨svs, s1, s2, s3⟩ := h.sup
 obtain ⟨n1, n2, n3, n4, n5, n6⟩ := h.ne
 obtain ⟨oA', av', G2, a1, a2, a3, a4⟩ := e2.app1 a.av (by simp) (by simp [appRoom]; omega)
 have hnew : ∀ i, oA' = some i → oA = some i ∨ H.length ≤ i := fun i hi => by
  rcases a4 i hi with h | ⟨_, rfl⟩
  ·exact .inl h
  ·exact .inr (Nat.le_refl _)
 have hpl := h.lt (.inl rfl)
 have hSl := h.lt (.inr (.inl rfl))
 have m2 : oA' ≠ some p := fun e => by rcases hnew p e with h | h; exact n2 h; omega
 have m3 : oA' ≠ some S := fun e => by rcases hnew S e with h | h; exact n3 h; omega
 have m6 : ∀ i, oA' = some i → oQ ≠ some i := fun i hi e => by
  rcases hnew i hi with h' | h'
  ·exact n6 i h' e
  ·have := h.lt (.inr (.inr (.inr e)) : OwnT p S oA oQ i); omega
 have hk : Kept (some p) G2 (G2.set p (.arr 0 5 false [mkT l S vS pl av' qv])) := Kept.set _ _ _
 have hp2 := a3.get n2 e1
 have hu : UpTo (OwnT p S oA oQ) H (G2.set p (.arr 0 5 false [mkT l S vS pl av' qv])) := (a3.upTo.weak (Y := OwnT p S oA oQ) (fun j hj _ => .inr (.inr (.inl hj)))).trans hk.upTo (fun j hj _ => by cases hj; exact .inl rfl)
 refine ⟨av, qv, av', G2, oA', e1, e2.okO, e2.cells, a1, a2.okO, a2.cells, a2.cell, hp2, ?_, hu, ?_⟩
 ·refine ⟨⟨av', qv, gEt (by have := a3.1; omega), ?_, ?_⟩, ⟨svs, hk.get (fun e => n1 (by cases e; rfl)) (a3.get n3 s1), s2, fun k sv s b c => (s3 k sv s b c).upTo hu (fun _ h _ => h) (fun j hj hl => ?_)⟩, h.len, ⟨n1, m2, m3, n4, n5, m6⟩, h.small, .inr (by simp)⟩
  ·rw [List.map_append]
   exact a2.kept hk (fun id hid e => m2 (by rw [e, hid]))
  ·exact (e3.kept a3 (fun id hid e => n6 id hid e)).kept hk (fun id hid e => n4 (by rw [e, hid]))
  ·rcases hj with rfl | rfl | hj | hj
   ·exact .inl rfl
   ·exact .inr (.inl rfl)
   ·rcases hnew j hj with h' | h'
    ·exact .inr (.inr (.inl h'))
    ·omega
   ·exact .inr (.inr (.inr hj))
 ·intro j hj hl
  rcases hj with rfl | rfl | hj | hj
  ·exact .inl rfl
  ·exact .inr (.inl rfl)
  ·rcases hnew j hj with h' | h'
   ·exact .inr (.inr (.inl h'))
   ·omega
  ·exact .inr (.inr (.inr hj))
end treem
end
section
section treem
variable {l : Sl Spec} {pl : Sl (Nat × Nat)} {p S vS : Nat} {oA oQ : Option Nat} {t : Tree} {H : Heap}
theorem TreeM.push (h : TreeM l pl p S vS oA oQ t H) (a : Due) (hl : t.q.length ≤ 1000000) :
  ∃ av qv qv' G2 oQ', H[p]? = some (.arr 0 5 false [mkT l S vS pl av qv]) ∧ okO qv = some qv ∧ qv.cells = [qv] ∧ Go.Proofs.YtjknjapdcphcfaaGreat.ex H (.app 5) [qv, .isl (some false) 5 [a.av]] = some (qv', G2) ∧ okO qv' = some qv' ∧ qv'.cells = [qv'] ∧ qv'.cell = true ∧ G2[p]? = some (.arr 0 5 false [mkT l S vS pl av qv]) ∧
   TreeM l pl p S vS oA oQ' { t with q := t.q ++ [a] } (G2.set p (.arr 0 5 false [mkT l S vS pl av qv'])) ∧ Nx p S oA oQ oA oQ' H (G2.set p (.arr 0 5 false [mkT l S vS pl av qv'])) := by
 obtain ⟨av, qv, e1, e2, e3⟩ := h.blk
 obtain ⟨svs, s1, s2, s3⟩ := h.sup
 obtain ⟨n1, n2, n3, n4, n5, n6⟩ := h.ne
 obtain ⟨oQ', qv', G2, a1, a2, a3, a4, a5⟩ := e3.app (y := .isl (some false) 5 [a.av]) (xs := [a.av]) (by simp) (by simp) (by simp [appRoom]; omega)
 have hnew : ∀ i, oQ' = some i → oQ = some i ∨ H.length ≤ i := fun i hi => by
  rcases a4 with h | ⟨_, h, _⟩
  ·exact .inl (h ▸ hi)
  ·rw [hi] at h; cases h; exact .inr (Nat.le_refl _)
 have hpl := h.lt (.inl rfl)
 have hSl := h.lt (.inr (.inl rfl))
 have m2 : oQ' ≠ some p := fun e => by rcases hnew p e with h | h; exact n4 h; omega
 have m3 : oQ' ≠ some S := fun e => by rcases hnew S e with h | h; exact n5 h; omega
 have m6 : ∀ i, oA = some i → oQ' ≠ some i := fun i hi e => by
  rcases hnew i e with h' | h'
  ·exact n6 i hi h'
  ·have := h.lt (.inr (.inr (.inl hi)) : OwnT p S oA oQ i); omega
 have hk : Kept (some p) G2 (G2.set p (.arr 0 5 false [mkT l S vS pl av qv'])) := Kept.set _ _ _
 have hp2 := a3.get n4 e1
 have hu : UpTo (OwnT p S oA oQ) H (G2.set p (.arr 0 5 false [mkT l S vS pl av qv'])) := (a3.upTo.weak (Y := OwnT p S oA oQ) (fun j hj _ => .inr (.inr (.inr hj)))).trans hk.upTo (fun j hj _ => by cases hj; exact .inl rfl)
 refine ⟨av, qv, qv', G2, oQ', e1, e3.okO, e3.cells, a1, a2.okO, a2.cells, a2.cell, hp2, ?_, hu, ?_⟩
 ·refine ⟨⟨av, qv', gEt (by have := a3.1; omega), ?_, ?_⟩, ⟨svs, hk.get (fun e => n1 (by cases e; rfl)) (a3.get n5 s1), s2, fun k sv s b c => (s3 k sv s b c).upTo hu (fun _ h _ => h) (fun j hj hl => ?_)⟩, h.len, ⟨n1, n2, n3, m2, m3, m6⟩, h.small, h.em⟩
  ·exact (e2.kept a3 (fun id hid e => n6 id e hid)).kept hk (fun id hid e => n2 (by rw [e, hid]))
  ·rw [List.map_append]
   exact a2.kept hk (fun id hid e => m2 (by rw [e, hid]))
  ·rcases hj with rfl | rfl | hj | hj
   ·exact .inl rfl
   ·exact .inr (.inl rfl)
   ·exact .inr (.inr (.inl hj))
   ·rcases hnew j hj with h' | h'
    ·exact .inr (.inr (.inr h'))
    ·omega
 ·intro j hj hl
  rcases hj with rfl | rfl | hj | hj
  ·exact .inl rfl
  ·exact .inr (.inl rfl)
  ·exact .inr (.inr (.inl hj))
  ·rcases hnew j hj with h' | h'
   ·exact .inr (.inr (.inr h'))
   ·omega
end treem
def ActsN (n : Nat) (acts : List Event) : Prop := ∀ a ∈ acts, a.kind = 5 ∨ 0 ≤ a.child ∧ a.child < n
def PerfOk (l : Sl Spec) (pl : Sl (Nat × Nat)) (go : Nat → List Event → Tree → Tree) (d : Nat) : Prop :=
 ∀ (i : Nat) (acts : List Event) (v : AV) (t : Tree) (p S vS : Nat) (oA oQ : Option Nat) (H : Heap), l.l.length - i ≤ d → i < l.l.length → TreeM l pl p S vS oA oQ t H → SlV (fun _ => True) Event.av 4 (OwnT p S oA oQ) H v acts → ActsN (kids l.l i).length acts → acts.length ≤ 1000 → (go i acts t).out.length ≤ 1000000 → (go i acts t).q.length ≤ 1000000 →
  okV (W.call (.clo 51 [] []) [.optr p 0 0 0, I i, v] H) (fun u G => u = .tuple [] ∧ ∃ oA' oQ', TreeM l pl p S vS oA' oQ' (go i acts t) G ∧ Nx p S oA oQ oA' oQ' H G)
def timedP (tm : Int) (L : List Event) (k : Nat) : List Event := timed tm (L.take k) ++ L.drop k
theorem timed_len (tm : Int) (L : List Event) : (timed tm L).length = L.length := by simp [timed]
theorem timedP_step (tm : Int) (L : List Event) (k : Nat) (a : Event) (h : L[k]? = some a) : (timedP tm L k)[k]? = some a ∧ (timedP tm L k).set k { a with time := tm } = timedP tm L (k + 1) := by
 have hk := (gEs.1 h).1
 have hl : (timed tm (L.take k)).length = k := by simp [timed]; omega
 have hd : L.drop k = a :: L.drop (k + 1) := by
  rw [List.drop_eq_getElem_cons hk]; congr 1; exact (gEs.1 h).2
 constructor
 ·unfold timedP
  rw [List.getElem?_append_right (by omega), hl, hd]; simp
 ·unfold timedP
  rw [List.take_add_one, h, List.set_append_right _ _ (by omega), hl, hd]
  simp [timed]
theorem startL_kind (n : Nat) : ∀ a ∈ startL n, a.kind = 3 ∧ 0 ≤ a.child ∧ a.child < n ∧ a.value = 0 := by
 induction n with
 | zero => intro a h; simp [startL] at h
 | succ n ih =>
  intro a h
  simp only [startL, List.mem_append, List.mem_singleton] at h
  rcases h with h | rfl
  ·have := ih a h; omega
  ·exact ⟨rfl, by simp only; omega, by simp only; omega, rfl⟩
theorem start_actsN (tm : Int) (n : Nat) : ActsN n (timed tm (startL n)) := by
 intro a ha
 obtain ⟨b, hb, rfl⟩ := List.mem_map.1 ha
 exact .inr ⟨(startL_kind n b hb).2.1, (startL_kind n b hb).2.2.1⟩
theorem setTime {L : List Event} {tl : List AV} {j : Nat} {a : Event} (h : L[j]? = some a) (tm : Int) : setElem (L.map Event.av ++ tl) j 3 (I tm) = some ((L.set j { a with time := tm }).map Event.av ++ tl) := by
 have hj := (gEs.1 h).1
 have e : (L.map Event.av ++ tl)[j]? = some a.av := by rw [gEa (by simpa using hj), List.getElem?_map, h]; rfl
 have e2 : a.av = .agg [I a.kind, I a.child, I a.value, I a.time] := rfl
 simp only [setElem, e, e2]
 rw [if_pos (by simp), List.set_append_left _ _ (by simpa using hj), List.map_set]
 rfl
theorem setAgg {svs : List AV} {k : Nat} {cs cs' : List AV} (h : svs[k]? = some (.agg cs)) (h4 : cs.length = 4) (h4' : cs'.length = 4) : setElem svs k 0 (.agg cs') = some (svs.set k (.agg cs')) := by
 have e : splice cs 0 cs' = cs' := by simp [splice, h4, h4']
 simp only [setElem, h]
 rw [if_pos (by rw [cells_agg]; omega), cells_agg, e]
theorem t39 {l : Sl Spec} {pl : Sl (Nat × Nat)} (ht : TreeOk l.l) (hn : NamesOk l.l) {go : Nat → List Event → Tree → Tree} {d : Nat} (hgo : PerfOk l pl go d) {k : Nat} (hk : k < l.l.length) (hd : l.l.length - k ≤ d) (tm : Int) {p S vS : Nat} {oA oQ : Option Nat} {t : Tree} {H : Heap} (h : TreeM l pl p S vS oA oQ t H)
  (ho : (doStart l.l go k tm t).out.length ≤ 1000000) (hq : (doStart l.l go k tm t).q.length ≤ 1000000) :
  okV (W.call (.clo 31 [] []) [.optr p 0 0 0, I k, I tm] H) (fun u G => u = .tuple [] ∧ ∃ oA' oQ', TreeM l pl p S vS oA' oQ' (doStart l.l go k tm t) G ∧ Nx p S oA oQ oA' oQ' H G) := by
 rw [W_call Φ31]
 have hx := gEg hk
 generalize l.l[k] = x at hx
 have hkid := kids_of hx
 have h0 := ht.ok k x hx
 have hlen := chk_len h0
 obtain ⟨av, qv, e1, e2, e3⟩ := h.blk
 have hpl := h.lt (.inl rfl)
 obtain ⟨v, G, c0, cv, ev, o1, o2, rfl, c1, c2, c3, c4, c5, c6⟩ := okV_iff.1 (call13 x h0 (hn x (List.mem_of_getElem? hx)) H)
 have c13 : W.call (.clo 50 [] []) [x.av] H = some (.tuple [.agg [I 1, cv, .isl (some true) 0 [], .bool false], ev, I 0], G) := by rw [W_call Φ50]; exact c0
 -- the actions' block
 obtain ⟨q2, rfl⟩ : ∃ q, o2 = some q := by
  cases o2 with
  | none => exact absurd (congrArg List.length c2.2) (by rw [List.length_map, startL_len, List.length_nil]; omega)
  | some q => exact ⟨q, rfl⟩
 obtain ⟨ver, tl, rfl, c7⟩ := c2
 rw [List.length_map, startL_len] at *
 have hq2 := c4 q2 rfl
 obtain ⟨m1, m2⟩ := h.keep c6.upTo' (fun j hj => c6.2 j (by simp) (h.lt hj))
 obtain ⟨m3, m4⟩ := m1.box (.arr 0 4 false [.agg [I 1, cv, .isl (some true) 0 [], .bool false]])
 have e1' := c6.get (by simp) e1
 have hGl := c6.1
 have hq2G : q2 < G.length := (gEs.1 c7).1
 -- setting the times
 let G0 : Heap := G ++ [.arr 0 4 false [.agg [I 1, cv, .isl (some true) 0 [], .bool false]]]
 have hG0 : G0[q2]? = some (.arr ver 4 false ((timedP tm (startL x.children.l.length) 0).map Event.av ++ tl)) := by
  show (G ++ _)[q2]? = _
  rw [gEa hq2G]
  simpa [timedP, timed] using c7
 have hL := loop_fold (Φ := Φ) (live := [0, 1, 2, 6, 7, 24, 25]) (L := l31_0) (startL x.children.l.length) (σ := Unit) (fun _ _ s => s)
  (fun j _ F G' => F = [(0, .optr p 0 0 0), (1, I k), (2, I tm), (6, .optr G.length 0 0 0), (7, .osl q2 ver 0 x.children.l.length), (24, I x.children.l.length), (25, I j)] ∧ G'[q2]? = some (.arr ver 4 false ((timedP tm (startL x.children.l.length) j).map Event.av ++ tl)) ∧ Kept (some q2) G0 G')
  (fun _ y F G' => y = .exit 0 ∧ F.keep [0, 1, 6, 7] = [(0, .optr p 0 0 0), (1, I k), (6, .optr G.length 0 0 0), (7, .osl q2 ver 0 x.children.l.length)] ∧ G'[q2]? = some (.arr ver 4 false ((timed tm (startL x.children.l.length)).map Event.av ++ tl)) ∧ Kept (some q2) G0 G') (s := ()) (H := G0) ⟨rfl, hG0, Kept.refl _ _⟩ ?_ ?_
 ·simp only [Int.natCast_zero] at hL
  obtain ⟨y, F', G1, f1, rfl, f2, f3, f4⟩ := okC_iff.1 hL
  simp only [keep_cons, keep_nil, List.cons.injEq, Prod.mk.injEq, true_and, and_true] at f2
  obtain ⟨g0, g1, g6, g7⟩ := f2
  have hk1 : Kept none H G1 := ⟨by have := f4.1; simp only [G0, List.length_append] at this; omega, fun j _ hj => by
   rw [f4.2 j (fun e => by cases e; omega) (by simp only [G0, List.length_append]; omega)]
   show (G ++ _)[j]? = _
   rw [gEa (by omega), c6.2 j (by simp) hj]⟩
  obtain ⟨n1, n2⟩ := h.keep hk1.upTo' (fun j hj => hk1.2 j (by simp) (h.lt hj))
  obtain ⟨svs, s1, s2, s3⟩ := n1.sup
  have hks : svs[k]? = some svs[k] := gEg (by omega)
  have hktl : k < t.ss.length := by have := n1.len; omega
  have hkt : t.ss[k]? = some t.ss[k] := gEg hktl
  obtain ⟨k1, k2, k3, k4, k5, a, r, k6⟩ := (s3 k _ _ hks hkt).cells
  rw [k6] at hks k1
  have hset := setAgg (cs' := [I 1, cv, .isl (some true) 0 [], .bool false]) hks k1 rfl
  -- the children's block
  have hcv : SlV KnownNil ChildState.av 2 (OwnT p S oA oQ) G1 cv (List.replicate x.children.l.length start1) := by
   cases o1 with
   | none => exact absurd (congrArg List.length c1.2) (by rw [List.length_map, List.length_replicate, List.length_nil]; omega)
   | some q1 =>
    have b1 := c3 q1 rfl
    have b2 := c5 q1 rfl
    obtain ⟨ver1, tl1, d1, d2⟩ := c1
    rw [List.length_map] at d1
    refine .inr ⟨q1, ver1, tl1, false, d1, ?_, fun hq => ?_⟩
    ·rw [f4.2 q1 b2 (by simp only [G0, List.length_append]; have := (gEs.1 d2).1; omega)]
     show (G ++ _)[q1]? = _
     rw [gEa (gEs.1 d2).1]; exact d2
    ·have := h.lt hq; omega
  have hst : StV (OwnT p S oA oQ) G1 (.agg [I 1, cv, .isl (some true) 0 [], .bool false]) (startS x) := ⟨cv, slNil, rfl, hcv, rfl, .inl ⟨rfl, rfl⟩⟩
  obtain ⟨q1, q3⟩ := n1.setS (k := k) s1 hst (by simp [startS]; omega)
  have hSq : S ≠ q2 := fun e => by have := h.lt (.inr (.inl rfl) : OwnT p S oA oQ S); omega
  have hq2' : (G1.set S (.arr vS 4 false (svs.set k (.agg [I 1, cv, .isl (some true) 0 [], .bool false]))))[q2]? = some (.arr ver 4 false ((timed tm (startL x.children.l.length)).map Event.av ++ tl)) := by
   rw [gEn hSq]; exact f3
  have hacts : SlV (fun _ => True) Event.av 4 (OwnT p S oA oQ) (G1.set S (.arr vS 4 false (svs.set k (.agg [I 1, cv, .isl (some true) 0 [], .bool false])))) (.osl q2 ver 0 x.children.l.length) (timed tm (startL x.children.l.length)) :=
   .inr ⟨q2, ver, tl, false, by rw [timed_len, startL_len], hq2', fun hq => by have := h.lt hq; omega⟩
  have hds : doStart l.l go k tm t = go k (timed tm (startL x.children.l.length)) { t with ss := t.ss.set k (startS x) } := by
   unfold doStart
   rw [hkid, gEd, hx]; rfl
  rw [hds] at ho hq ⊢
  obtain ⟨u, G2, z1, rfl, oA', oQ', z2, z3⟩ := okV_iff.1 (hgo k _ _ _ p S vS oA oQ _ hd hk q1 hacts (by rw [hkid]; exact start_actsN _ _) (by rw [timed_len, startL_len]; omega) ho hq)
  have e1G : G1[p]? = some (.arr 0 5 false [mkT l S vS pl av qv]) := hk1.get (by simp) e1
  have hbx : G1[G.length]? = some (.arr 0 4 false [.agg [I 1, cv, .isl (some true) 0 [], .bool false]]) := by
   refine f4.get (fun e => ?_) (app_last G _)
   cases e; omega
  have okcv := hcv.okO
  have cellcv := hcv.cell
  have cellscv := hcv.cells
  have hidx : (k : Int) < (l.l.length : Int) := by omega
  simp only [G0] at f1
  simp only [mkT] at e1 e1G
  have : okV (evFun W fi31 [.optr p 0 0 0, I k, I tm] H) (fun u' G' => u' = .tuple [] ∧ G' = G2) := by
   simp [-getElem?_pos, gEz, app_last, sx11, fi31, c31, evFun, enterFr, intBin, resV, rvVs, rvV, e1, hx, c13, okcv, cellcv, cellscv, f1, g0, g1, g6, g7, e1G, s1, hbx, hset, hidx, z1]
  obtain ⟨u', G', y1, rfl, rfl⟩ := okV_iff.1 this
  rw [List.nil_append, List.append_nil, y1]
  exact ⟨rfl, oA', oQ', z2, (n2.trans q3).trans z3⟩
 ·rintro j e ⟨⟩ F G' hj he ⟨rfl, h1, h2⟩
  rw [startL_len] at hj
  have hw := wrap_succ (k := j) (by omega)
  obtain ⟨p1, p2⟩ := timedP_step tm _ j e he
  have hset := setTime (tl := tl) p1 tm
  rw [p2] at hset
  have hjj : (j : Int) < (x.children.l.length : Int) := by omega
  have hl2 : q2 < G'.length := (gEs.1 h1).1
  simp [-getElem?_pos, gEz, evl31_0, b31_0, intBin, hw, hj, hjj, h1, hset]
  exact ⟨gEt hl2, h2.trans (Kept.set _ _ _)⟩
 ·rintro ⟨⟩ F G' ⟨rfl, h1, h2⟩
  rw [startL_len] at h1 ⊢
  simp [evl31_0, b31_0, intBin]
  refine ⟨?_, h2⟩
  rw [h1]
  have : timedP tm (startL x.children.l.length) x.children.l.length = timed tm (startL x.children.l.length) := by
   have hh := startL_len x.children.l.length
   unfold timedP
   rw [List.take_of_length_le (by omega), List.drop_eq_nil_of_le (by omega), List.append_nil]
  rw [this]
end
section
theorem pub1_still {H : Heap} {v : AV} (h : v.still = true) : pub1 H v = (v, H) := by cases v <;> first | rfl | cases h
theorem pubs1_still {H : Heap} : ∀ {cs : List AV}, cs.all AV.still = true → pubs1 H cs = (cs, H)
 | [], _ => rfl
 | c :: cs, h => by
  rw [List.all_cons, Bool.and_eq_true] at h
  simp only [pubs1, pub1_still h.1, pubs1_still h.2]
theorem pubA_agg {H : Heap} {cs : List AV} (h : cs.all AV.still = true) : pubA H (.agg cs) = (.agg cs, H) := by
 simp only [pubA, pubs1_still h]
theorem pub_three {H G : Heap} {x : Spec} {sv : AV} {s' : State} {e : Event} (h : pubA H sv = (s'.av, G)) : pubAs H [x.av, sv, e.av] = ([x.av, s'.av, e.av], G) := by
 have h1 : pubA H x.av = (x.av, H) := pubA_agg (cs := x.av.cells) (by simp)
 have h2 : pubA G e.av = (e.av, G) := pubA_agg (cs := e.av.cells) (by simp)
 simp only [pubAs, h1, h, h2]
theorem t81 {l : Sl Spec} {pl : Sl (Nat × Nat)} (ht : TreeOk l.l) (hn : NamesOk l.l) {go : Nat → List Event → Tree → Tree} {d : Nat} (hgo : PerfOk l pl go d) {k : Nat} (hk : k < l.l.length) (hd : l.l.length - k ≤ d) (e : Event) {p S vS : Nat} {oA oQ : Option Nat} {t : Tree} {H : Heap} (h : TreeM l pl p S vS oA oQ t H)
  (ho : (doHandle l.l go (up l.l) k e t).out.length ≤ 1000000) (hq : (doHandle l.l go (up l.l) k e t).q.length ≤ 1000000) :
  okV (W.call (.clo 39 [] []) [.optr p 0 0 0, I k, e.av] H) (fun u G => u = I (handleE (l.l.getD k default) (t.ss.getD k default) e) ∧ ∃ oA' oQ', TreeM l pl p S vS oA' oQ' (doHandle l.l go (up l.l) k e t) G ∧ Nx p S oA oQ oA' oQ' H G) := by
 rw [W_call Φ39]
 have hx := gEg hk
 generalize l.l[k] = x at hx
 have hgx : l.l.getD k default = x := by rw [gEd, hx]; rfl
 have hktl : k < t.ss.length := by have := h.len; omega
 have hkt := gEg hktl
 generalize t.ss[k] = s at hkt
 have hgs : t.ss.getD k default = s := by rw [gEd, hkt]; rfl
 have hkid := kids_of hx
 have h0 := ht.ok k x hx
 have hlen := chk_len h0
 have hsm := h.small s (List.mem_of_getElem? hkt)
 obtain ⟨m1, n1⟩ := h.box (.arr 0 4 false [e.av])
 obtain ⟨av, qv, e1, e2, e3⟩ := m1.blk
 obtain ⟨svs, s1, s2, s3⟩ := m1.sup
 have hks := gEg (l := svs) (i := k) (by omega)
 generalize svs[k] = sv at hks
 have hv := s3 k sv s hks hkt
 obtain ⟨k1, k2, k3, k4, k5, ca, cr, k6⟩ := hv.cells
 have k4 := k4 4 rfl
 obtain ⟨s', G, b1, b2, b3, b4, b5, b6, b7⟩ := hv.pub
 have hpub := pub_three (x := x) (e := e) b1
 obtain ⟨m2, n2⟩ := m1.keep b5 b7
 obtain ⟨c1, c2, c3, c4⟩ := core_inj b2
 have hE : handleE x s' e = handleE x s e := handleE_core b2
 have hR : handleR x s' e = handleR x s e := handleR_core b2
 obtain ⟨v, d1, d2⟩ := e13 x s' e (hn x (List.mem_of_getElem? hx)) (by omega) (by rw [c2]; omega) (by rw [c3]; omega) b3 b4
 unfold HandleOk at d2
 rw [hE, hR] at d2
 have hidx : (k : Int) < (l.l.length : Int) := by omega
 have notown : ¬ OwnT p S oA oQ H.length := fun hj => by have := h.lt hj; omega
 have e1' := e1
 have e1G : G[p]? = some (.arr 0 5 false [mkT l S vS pl av qv]) := by rw [b7 p (.inl rfl)]; exact e1
 have s1G : G[S]? = some (.arr vS 4 false svs) := by rw [b7 S (.inr (.inl rfl))]; exact s1
 rw [hgx, hgs]
 by_cases hh : handleE x s e = 0
 ·rw [if_pos hh] at d2
  obtain ⟨t1, a, rfl, d3, d4⟩ := d2
  obtain ⟨m3, n3⟩ := m2.box (.arr 0 4 false [t1.av])
  have hst : StV (OwnT p S oA oQ) (G ++ [.arr 0 4 false [t1.av]]) t1.av (mkS (handleR x s e)) := StV.of d3.core d3.k1 d3.k2
  have hsz := size_handle x s e
  have hvalid : validB x s = true := by
   unfold handleE at hh
   by_cases hv : validB x s = true
   ·exact hv
   ·rw [if_neg hv] at hh; cases hh
  have hcl := (valid_facts hvalid).2.1
  have hint := (valid_facts hvalid).2.2.1
  have hwin : x.intensity ≤ 100 := by
   have := h0
   unfold chk at this
   split at this
   ·cases this
   ·split at this
    ·cases this
    ·rename_i hh2
     simp [inR] at hh2
     omega
  have hr1 := hsz.cs
  have hr2 := hsz.rs
  simp only [runOf] at hr1 hr2
  have s1B : (G ++ [Blk.arr 0 4 false [t1.av]])[S]? = some (.arr vS 4 false svs) := by rw [gEa (gEs.1 s1G).1]; exact s1G
  obtain ⟨m4, n4⟩ := m3.setS (k := k) s1B hst (by simp only [mkS]; omega)
  rw [k6] at hks k1
  have hset := setAgg (cs' := t1.av.cells) hks k1 (by simp)
  rw [← k6] at hks
  simp only [State_fold] at hset
  have hdo : doHandle l.l go (up l.l) k e t = (if 0 < k ∧ s.status ≠ 4 ∧ (handleR x s e).st = 4 then { go k (handleR x s e).out { t with ss := t.ss.set k (mkS (handleR x s e)) } with q := (go k (handleR x s e).out { t with ss := t.ss.set k (mkS (handleR x s e)) }).q ++ [⟨(up l.l k).1, ⟨1, (up l.l k).2, if (handleR x s e).fl = true then 7 else 1, e.time⟩⟩] } else go k (handleR x s e).out { t with ss := t.ss.set k (mkS (handleR x s e)) }) := by
   unfold doHandle
   simp only [hgx, hgs, if_pos hh]
  have hacts : SlV (fun _ => True) Event.av 4 (OwnT p S oA oQ) ((G ++ [Blk.arr 0 4 false [t1.av]]).set S (Blk.arr vS 4 false (svs.set k t1.av))) (Sl.av Event.av 4 a) (handleR x s e).out := .inl ⟨a, rfl, d4, trivial⟩
  have hactn : ActsN (kids l.l k).length (handleR x s e).out := by
   intro b hb
   rw [hkid, ← hcl]
   rcases (actw_handle x s e).2 b hb with ⟨_, _, ⟨h1, _⟩ | ⟨_, h1, h2⟩⟩
   ·exact .inl h1
   ·exact .inr ⟨h1, h2⟩
  have hol : (handleR x s e).out.length ≤ 1000 := by
   have := hsz.out; simp only [runOf, List.length_nil] at this; omega
  generalize hgt : go k (handleR x s e).out { t with ss := t.ss.set k (mkS (handleR x s e)) } = T at *
  have hoT : T.out.length ≤ 1000000 := by rw [hdo] at ho; split at ho <;> exact ho
  have hqT : T.q.length ≤ 1000000 := by
   rw [hdo] at hq; split at hq
   ·simp only [List.length_append] at hq; omega
   ·exact hq
  obtain ⟨u, G3, z1, rfl, oA', oQ', z2, z3⟩ := okV_iff.1 (hgo k _ _ _ p S vS oA oQ _ hd hk m4 hacts hactn hol (by rw [hgt]; exact hoT) (by rw [hgt]; exact hqT))
  rw [hgt] at z2
  have hnx : Nx p S oA oQ oA' oQ' H G3 := (((n1.trans n2).trans n3).trans n4).trans z3
  have e1B : (G ++ [Blk.arr 0 4 false [t1.av]])[p]? = some (.arr 0 5 false [mkT l S vS pl av qv]) := by rw [gEa (gEs.1 e1G).1]; exact e1G
  -- the boxes, later
  have hHl : H.length < (H ++ [Blk.arr 0 4 false [e.av]]).length := by simp
  have hGl : H.length < G.length := by rw [b6]; exact hHl
  obtain ⟨sh1, w1⟩ : ∃ sh, G[H.length]? = some (.arr 0 4 sh [e.av]) := b5.arr (fun h => h) (app_last H _)
  have hSne : S ≠ H.length := fun hs => notown (.inr (.inl hs.symm))
  have hSne2 : S ≠ G.length := fun hs => by have := (gEs.1 s1G).1; omega
  have w2 : ((G ++ [Blk.arr 0 4 false [t1.av]]).set S (.arr vS 4 false (svs.set k t1.av)))[H.length]? = some (.arr 0 4 sh1 [e.av]) := by
   rw [gEn hSne, gEa hGl]; exact w1
  have w3 : ((G ++ [Blk.arr 0 4 false [t1.av]]).set S (.arr vS 4 false (svs.set k t1.av)))[G.length]? = some (.arr 0 4 false [t1.av]) := by
   rw [gEn hSne2]; exact app_last _ _
  obtain ⟨sh2, w4⟩ := z3.1.arr notown w2
  have notown2 : ¬ OwnT p S oA oQ G.length := fun hj => by have := h.lt hj; omega
  obtain ⟨sh3, w5⟩ := z3.1.arr notown2 w3
  have hst1 : t1.status = (handleR x s e).st := d3.st
  have hfl1 : t1.failed = (handleR x s e).fl := d3.fl
  simp only [mkT] at e1 e1G e1B
  by_cases hc : 0 < k ∧ s.status ≠ 4 ∧ (handleR x s e).st = 4
  ·rw [hdo, if_pos hc]
   obtain ⟨hc1, hc2, hc3⟩ := hc
   have c96 := t96 ht (k := k) (by omega)
   obtain ⟨m6, n6⟩ := z2.box (.arr 0 2 false [plA (up l.l k)])
   obtain ⟨av2, qv2, qv', G5, oQ2, r1, r2, r3, r4, r5, r6, r7, r8, r9, r10⟩ := m6.push ⟨(up l.l k).1, ⟨1, (up l.l k).2, if (handleR x s e).fl = true then 7 else 1, e.time⟩⟩ hqT
   have hp3 : p < G3.length := z2.lt (.inl rfl)
   have r1' : G3[p]? = some (.arr 0 5 false [mkT l S vS pl av2 qv2]) := by rw [gEa hp3] at r1; exact r1
   have w4' := app_get w4 (.arr 0 2 false [plA (up l.l k)])
   have hup : plA (up l.l k) = .agg [I (up l.l k).1, I (up l.l k).2] := rfl
   have hgt' : (0 : Int) < (k : Int) := by omega
   have q2 : ¬ s.status = 4 := hc2
   have q3 : t1.status = 4 := hst1.trans hc3
   simp only [mkT] at r1 r1' r8 r9 r10
   have : okV (evFun W fi39 [.optr p 0 0 0, I k, e.av] H) (fun u' G' => u' = I 0 ∧ G' = G5.set p (.arr 0 5 false [.agg [specs l, .osl S vS 0 l.l.length, Sl.av plA 2 pl, av2, qv']])) := by
    cases hfl : (handleR x s e).fl with
    | true =>
     rw [hfl] at hfl1 r4
     simp only [if_true, Due.av, hup] at r4 c96 r1 r8 w4'
     simp [-getElem?_pos, gEz, app_last, sx11, fi39, c39, evFun, enterFr, intBin, resV, rvVs, rvV, e1, hx, s1, hks, hidx, k2, k4, k5, hpub, d1, e1B, s1B, hset, z1, w4, w5, w4', hc1, hgt', q2, q3, hfl1, c96, hup, r1', r1, r2, r3, r4, r5, r6, r7, r8]
    | false =>
     rw [hfl] at hfl1 r4
     simp only [Bool.false_eq_true, if_false, Due.av, hup] at r4 c96 r1 r8 w4'
     simp [-getElem?_pos, gEz, app_last, sx11, fi39, c39, evFun, enterFr, intBin, resV, rvVs, rvV, e1, hx, s1, hks, hidx, k2, k4, k5, hpub, d1, e1B, s1B, hset, z1, w4, w5, w4', hc1, hgt', q2, q3, hfl1, c96, hup, r1', r1, r2, r3, r4, r5, r6, r7, r8]
   obtain ⟨u', G', y1, rfl, rfl⟩ := okV_iff.1 this
   rw [List.nil_append, List.append_nil, y1, hh]
   exact ⟨rfl, oA', oQ2, r9, (hnx.trans n6).trans r10⟩
  ·rw [hdo, if_neg hc]
   have hcond : ¬ 0 < k ∨ s.status = 4 ∨ ¬ t1.status = 4 := by
    rw [hst1]
    by_cases q1 : 0 < k
    ·by_cases q2 : s.status = 4
     ·exact .inr (.inl q2)
     ·exact .inr (.inr (fun q3 => hc ⟨q1, q2, q3⟩))
    ·exact .inl q1
   have : okV (evFun W fi39 [.optr p 0 0 0, I k, e.av] H) (fun u' G' => u' = I 0 ∧ G' = G3) := by
    rcases hcond with q | q | q
    ·simp [-getElem?_pos, gEz, app_last, sx11, fi39, c39, evFun, enterFr, intBin, resV, rvVs, rvV, e1, hx, s1, hks, hidx, k2, k4, k5, hpub, d1, e1B, s1B, hset, z1, w4, w5, q]
    ·simp [-getElem?_pos, gEz, app_last, sx11, fi39, c39, evFun, enterFr, intBin, resV, rvVs, rvV, e1, hx, s1, hks, hidx, k2, k4, k5, hpub, d1, e1B, s1B, hset, z1, w4, w5, q]
    ·by_cases q2 : s.status = 4
     ·simp [-getElem?_pos, gEz, app_last, sx11, fi39, c39, evFun, enterFr, intBin, resV, rvVs, rvV, e1, hx, s1, hks, hidx, k2, k4, k5, hpub, d1, e1B, s1B, hset, z1, w4, w5, q, q2]
     ·by_cases q1 : 0 < k
      ·simp [-getElem?_pos, gEz, app_last, sx11, fi39, c39, evFun, enterFr, intBin, resV, rvVs, rvV, e1, hx, s1, hks, hidx, k2, k4, k5, hpub, d1, e1B, s1B, hset, z1, w4, w5, q, q1, q2]
      ·simp [-getElem?_pos, gEz, app_last, sx11, fi39, c39, evFun, enterFr, intBin, resV, rvVs, rvV, e1, hx, s1, hks, hidx, k2, k4, k5, hpub, d1, e1B, s1B, hset, z1, w4, w5, q, q1, q2]
   obtain ⟨u', G', y1, rfl, rfl⟩ := okV_iff.1 this
   rw [List.nil_append, List.append_nil, y1, hh]
   exact ⟨rfl, oA', oQ', z2, hnx⟩
 ·rw [if_neg hh] at d2
  subst d2
  obtain ⟨m3, n3⟩ := m2.box (.arr 0 4 false [zeroState.av])
  have hdo : doHandle l.l go (up l.l) k e t = t := by
   unfold doHandle
   simp only [hgx, hgs, if_neg hh]
  rw [hdo]
  simp only [mkT] at e1 e1G
  have hz : (.agg [I 0, .isl (some true) 0 [], .isl (some true) 0 [], .bool false] : AV) = zeroState.av := rfl
  have : okV (evFun W fi39 [.optr p 0 0 0, I k, e.av] H) (fun u' G' => u' = I (handleE x s e) ∧ G' = G ++ [.arr 0 4 false [zeroState.av]]) := by
   simp [-getElem?_pos, gEz, app_last, sx11, fi39, c39, evFun, enterFr, intBin, resV, rvVs, rvV, e1, hx, s1, hks, hidx, k2, k4, k5, hpub, d1, hh, hz]
  obtain ⟨u', G', y1, rfl, rfl⟩ := okV_iff.1 this
  rw [List.nil_append, List.append_nil, y1]
  exact ⟨rfl, oA, oQ, m3, (n1.trans n2).trans n3⟩
end
section
def GrowT (t t' : Tree) : Prop := t.out.length ≤ t'.out.length ∧ t.q.length ≤ t'.q.length
theorem GrowT.refl (t : Tree) : GrowT t t := ⟨Nat.le_refl _, Nat.le_refl _⟩
theorem GrowT.trans {a b c : Tree} (h : GrowT a b) (h' : GrowT b c) : GrowT a c := ⟨Nat.le_trans h.1 h'.1, Nat.le_trans h.2 h'.2⟩
theorem fold_growT (f : Tree → Event → Tree) (hf : ∀ t a, GrowT t (f t a)) : ∀ (l : List Event) (t : Tree), GrowT t (l.foldl f t)
 | [], t => GrowT.refl t
 | a :: l, t => (hf t a).trans (fold_growT f hf l _)
theorem perf_growT (l : List Spec) (o : List (Nat × Nat)) (u : Nat → Nat × Nat) : ∀ (d i : Nat) (acts : List Event) (t : Tree), GrowT t (perf l o u d i acts t) := by
 intro d
 induction d with
 | zero => intro i acts t; exact GrowT.refl t
 | succ d ih =>
  intro i acts t
  refine fold_growT _ (fun t a => ?_) acts t
  unfold doAct
  split
  ·split
   ·exact ⟨by simp, Nat.le_refl _⟩
   ·exact GrowT.refl t
  ·simp only
   split
   ·exact ⟨by simp, Nat.le_refl _⟩
   ·have ih' : ∀ (k : Nat) (as' : List Event) (ss : List State), GrowT t (perf l o u d k as' ⟨ss, t.out, t.q⟩) := fun k as' ss => by
     have := ih k as' ⟨ss, t.out, t.q⟩
     exact ⟨this.1, this.2⟩
    split
    ·exact ih' _ _ _
    ·unfold doHandle
     simp only
     split
     ·split
      ·refine ⟨(ih' _ _ _).1, ?_⟩
       rw [List.length_append]
       exact Nat.le_trans (ih' _ _ _).2 (Nat.le_add_right _ _)
      ·exact ih' _ _ _
     ·exact GrowT.refl t
theorem fold_prefix (f : Tree → Event → Tree) (hf : ∀ t a, GrowT t (f t a)) (l : List Event) (j : Nat) (t : Tree) : GrowT ((l.take j).foldl f t) (l.foldl f t) := by
 have h : l.foldl f t = (l.drop j).foldl f ((l.take j).foldl f t) := by rw [← List.foldl_append, List.take_append_drop]
 rw [h]; exact fold_growT f hf _ _
theorem doAct_growT (l : List Spec) (o : List (Nat × Nat)) (u : Nat → Nat × Nat) (d i : Nat) (t : Tree) (a : Event) : GrowT t (doAct l o u (perf l o u d) i t a) := by
 have := perf_growT l o u (d + 1) i [a] t
 exact this
theorem perf_ok {l : Sl Spec} {pl : Sl (Nat × Nat)} (ht : TreeOk l.l) (hn : NamesOk l.l) (hpl : pl.l = ordT l.l) : ∀ d, PerfOk l pl (perf l.l (ordT l.l) (up l.l) d) d := by
 intro d
 induction d with
 | zero => intro i acts v t p S vS oA oQ H h1 h2; omega
 | succ d ih =>
  intro i acts v t p S vS oA oQ H h1 h2 h hacts hactn hal ho hq
  rw [W_call Φ51]
  have hx := gEg h2
  generalize l.l[i] = x at hx
  have hkid := kids_of hx
  have hlen := chk_len (ht.ok i x hx)
  have hpll : pl.l.length ≤ 1000 := by rw [hpl]; have := order_len ht l.l.length 0 (by omega); simp only [ordT]; omega
  let f := doAct l.l (ordT l.l) (up l.l) (perf l.l (ordT l.l) (up l.l) d) i
  have hvl : lenV false v = I acts.length := by have := hacts.rd.len; simpa using this
  have hvo := hacts.okO
  have hL := loop_fold (Φ := Φ) (live := [0, 1, 9, 10, 11]) (L := l51_0) acts (σ := Tree) (fun _ a s => f s a)
   (fun j s F G => F = [(0, .optr p 0 0 0), (1, I i), (9, v), (10, I acts.length), (11, I j)] ∧ s = (acts.take j).foldl f t ∧ ∃ oA' oQ', TreeM l pl p S vS oA' oQ' s G ∧ Nx p S oA oQ oA' oQ' H G)
   (fun s y F G => y = .exit 0 ∧ s = acts.foldl f t ∧ ∃ oA' oQ', TreeM l pl p S vS oA' oQ' s G ∧ Nx p S oA oQ oA' oQ' H G) (s := t) (H := H) ⟨rfl, by simp, oA, oQ, h, Nx.refl _ _ _ _ _⟩ ?_ ?_
  ·simp only [Int.natCast_zero] at hL
   obtain ⟨y, F', G, e1, rfl, e2, oA', oQ', e3, e4⟩ := okC_iff.1 hL
   rw [e2] at e3
   have : okV (evFun W fi51 [.optr p 0 0 0, I i, v] H) (fun u G' => u = .tuple [] ∧ G' = G) := by
    simp [fi51, c51, evFun, enterFr, intBin, resV, rvVs, rvV, hvo, hvl, e1]
   obtain ⟨u, G', y1, rfl, rfl⟩ := okV_iff.1 this
   rw [List.nil_append, List.append_nil, y1]
   exact ⟨rfl, oA', oQ', e3, e4⟩
  ·rintro j a s F G hj ha ⟨rfl, hs, oA', oQ', g1, g2⟩
   have hw := wrap_succ (k := j) (by omega)
   have hja : (acts.take (j + 1)).foldl f t = f s a := by rw [List.take_add_one, ha, List.foldl_append, ← hs]; rfl
   have hb1 : GrowT (f s a) (acts.foldl f t) := by rw [← hja]; exact fold_prefix f (fun t a => doAct_growT _ _ _ _ _ t a) acts (j + 1) t
   have hob : (f s a).out.length ≤ 1000000 := Nat.le_trans hb1.1 ho
   have hqb : (f s a).q.length ≤ 1000000 := Nat.le_trans hb1.2 hq
   have hos : s.out.length ≤ 1000000 := Nat.le_trans (doAct_growT l.l (ordT l.l) (up l.l) d i s a).1 hob
   -- the action, read
   have hrd := (hacts.upTo g2.1 (fun _ h _ => h) g2.2).rd
   obtain ⟨ad, r1, r2, r3, _⟩ := hrd.get j a.av (by rw [List.getElem?_map, ha]; rfl)
   have r3 := r3 true 4 (fun h => nomatch (show AV.agg [I a.kind, I a.child, I a.value, I a.time] = AV.bad from h))
   simp only [Event_whole] at r3
   obtain ⟨m1, n1⟩ := g1.box (.arr 0 4 false [a.av])
   obtain ⟨av, qv, e1, _, _⟩ := g1.blk
   have e1' := app_get e1 (.arr 0 4 false [a.av])
   have hp := g1.lt (.inl rfl)
   have fin : ∀ (s' : Tree) (G' : Heap) (oA2 oQ2 : Option Nat), s' = f s a → TreeM l pl p S vS oA2 oQ2 s' G' → Nx p S oA' oQ' oA2 oQ2 G G' → f s a = (acts.take (j + 1)).foldl f t ∧ ∃ oA3 oQ3, TreeM l pl p S vS oA3 oQ3 (f s a) G' ∧ Nx p S oA oQ oA3 oQ3 H G' := by
    intro s' G' oA2 oQ2 hs' k1 k2
    subst hs'
    exact ⟨hja.symm, oA2, oQ2, k1, g2.trans k2⟩
   by_cases h5 : a.kind = 5
   ·by_cases hi0 : i = 0
    ·have hfa : f s a = { s with out := s.out ++ [a] } := by
      show doAct _ _ _ _ _ _ _ = _
      unfold doAct; rw [if_pos h5, if_pos hi0]
     obtain ⟨av2, qv2, av', G2, oA2, q1, q2, q3, q4, q5, q6, q7, q8, q9, q10⟩ := m1.emit a hos
     have hlast : G2[p]? = some (.arr 0 5 false [mkT l S vS pl av2 qv2]) := q8
     simp only [mkT] at q1 q8 q9 q10
     have := fin _ _ _ _ hfa.symm q9 (n1.trans q10)
     subst hi0
     simp [-getElem?_pos, gEz, app_last, sx11, evl51_0, b51_0, intBin, hj, hw, hvo, r1, r2, r3, h5, q1, q2, q3, q4, q5, q6, q7, q8]
     exact this
    ·have hfa : f s a = s := by
      show doAct _ _ _ _ _ _ _ = _
      unfold doAct; rw [if_pos h5, if_neg hi0]
     have := fin _ _ _ _ hfa.symm m1 n1
     simp [-getElem?_pos, gEz, app_last, sx11, evl51_0, b51_0, intBin, hj, hw, hvo, r1, r2, r3, h5, hi0]
     exact this
   ·have hch : 0 ≤ a.child ∧ a.child < (kids l.l i).length := (hactn a (List.mem_of_getElem? ha)).resolve_left h5
    rw [hkid] at hch
    have hc := gEg (l := x.children.l) (i := a.child.toNat) (by omega)
    generalize x.children.l[a.child.toNat] = ch at hc
    have hgd : (kids l.l i).getD a.child.toNat default = ch := by rw [hkid, gEd, hc]; rfl
    have hsub := ht.sub i a.child.toNat ch h2 (by rw [hkid]; exact hc)
    simp only [mkT] at e1 e1'
    by_cases hneg : ch.sub < 0
    ·have hfa : f s a = { s with out := s.out ++ [{ a with child := numW (ordT l.l) (i, a.child) }] } := by
      show doAct _ _ _ _ _ _ _ = _
      unfold doAct
      rw [if_neg h5]
      simp only [hgd]
      rw [if_pos hneg]
     have c82 := t82 pl hpll i a.child
     rw [hpl] at c82
     obtain ⟨m2, n2⟩ := g1.box (.arr 0 4 false [({ a with child := numW (ordT l.l) (i, a.child) } : Event).av])
     obtain ⟨av2, qv2, av', G2, oA2, q1, q2, q3, q4, q5, q6, q7, q8, q9, q10⟩ := m2.emit { a with child := numW (ordT l.l) (i, a.child) } hos
     simp only [mkT] at q1 q8 q9 q10
     have := fin _ _ _ _ hfa.symm q9 (n2.trans q10)
     simp [-getElem?_pos, gEz, app_last, sx11, evl51_0, b51_0, intBin, hj, hw, hvo, r1, r2, r3, h5, e1, e1', hx, hc, hch.1, hneg, c82, q1, q2, q3, q4, q5, q6, q7, q8]
     exact this
    ·have hsub2 : (i : Int) < ch.sub ∧ ch.sub < l.l.length := by rcases hsub with h | h; omega; exact h
     have hcast : ((ch.sub.toNat : Nat) : Int) = ch.sub := by omega
     by_cases h3 : a.kind = 3
     ·have hfa : f s a = doStart l.l (perf l.l (ordT l.l) (up l.l) d) ch.sub.toNat a.time s := by
       show doAct _ _ _ _ _ _ _ = _
       unfold doAct
       rw [if_neg h5]
       simp only [hgd]
       rw [if_neg hneg, if_pos h3]
      rw [hfa] at hob hqb
      obtain ⟨u, G2, z1, rfl, oA2, oQ2, z2, z3⟩ := okV_iff.1 (t39 ht hn ih (k := ch.sub.toNat) (by omega) (by omega) a.time m1 hob hqb)
      rw [hcast] at z1
      have := fin _ _ _ _ hfa.symm z2 (n1.trans z3)
      simp [-getElem?_pos, gEz, app_last, sx11, evl51_0, b51_0, intBin, hj, hw, hvo, r1, r2, r3, h5, h3, e1, e1', hx, hc, hch.1, hneg, z1]
      exact this
     ·have hfa : f s a = doHandle l.l (perf l.l (ordT l.l) (up l.l) d) (up l.l) ch.sub.toNat ⟨2, -1, 0, a.time⟩ s := by
       show doAct _ _ _ _ _ _ _ = _
       unfold doAct
       rw [if_neg h5]
       simp only [hgd]
       rw [if_neg hneg, if_neg h3]
      rw [hfa] at hob hqb
      obtain ⟨u, G2, z1, rfl, oA2, oQ2, z2, z3⟩ := okV_iff.1 (t81 ht hn ih (k := ch.sub.toNat) (by omega) (by omega) ⟨2, -1, 0, a.time⟩ m1 hob hqb)
      rw [hcast] at z1
      have hev : (⟨2, -1, 0, a.time⟩ : Event).av = .agg [I 2, I (-1), I 0, I a.time] := rfl
      rw [hev] at z1
      have := fin _ _ _ _ hfa.symm z2 (n1.trans z3)
      simp [-getElem?_pos, gEz, app_last, sx11, evl51_0, b51_0, intBin, hj, hw, hvo, r1, r2, r3, h5, h3, e1, e1', hx, hc, hch.1, hneg, z1]
      exact this
  ·rintro s F G ⟨rfl, hs, oA', oQ', g1, g2⟩
   rw [List.take_length] at hs
   simp [evl51_0, b51_0, intBin]
   exact ⟨hs, oA', oQ', g1, g2⟩
end
end Go.Proofs.YtjknjapdcphcfaaGreat
