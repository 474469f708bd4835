/-
  Trees of supervisors in plain words: which lists are trees, their workers, what happens in them (conditions: none). Check of trees, as the program has it (conditions: none). Check of trees, as the program has it, whole (conditions: none). The walk over the workers; the places; Workers (conditions: none). The places of the workers are different (conditions: none). The places of the workers, and their names, as the program lists them (conditions: none). New of a supervisor, called on any memory (conditions: none). Where a supervisor is a child; the number of a worker (conditions: none). Where a supervisor is a child; the number of a worker, as the program finds them (conditions: none).
-/
import Derived.Test.YtjknjapdcphcfaaGreatFC
namespace Go.Proofs.YtjknjapdcphcfaaGreat
open Go Go.RowKit
set_option linter.unusedVariables false
set_option linter.unusedSimpArgs false
set_option maxRecDepth 10000
set_option maxHeartbeats 2000000
section
def kids (l : List Spec) (i : Nat) : List Child := (l.getD i default).children.l
def seen (l : List Spec) (i c : Nat) : List Child := (List.range i).flatMap (kids l) ++ (kids l i).take c
theorem seen_succ {l : List Spec} {i c : Nat} {ch : Child} (h : (kids l i)[c]? = some ch) : seen l i (c + 1) = seen l i c ++ [ch] := by
 unfold seen
 rw [List.append_assoc, List.take_add_one, h]; rfl
theorem seen_next (l : List Spec) (i : Nat) : seen l i (kids l i).length = seen l (i + 1) 0 := by
 unfold seen
 rw [List.take_length, List.range_succ, List.flatMap_append]; simp
def sameC (a b : Child) : Bool := decide (b.sub = a.sub) && (!decide (a.sub = -1) || decide (a.name = b.name))
def stepC (l : List Spec) (i c : Nat) (ch : Child) : Unit ⊕ Int :=
 if ch.sub ≠ -1 ∧ (ch.sub ≤ i ∨ (l.length : Int) ≤ ch.sub) then .inr 2
 else if (seen l i c).any (sameC ch) = true then .inr 6 else .inl ()
def stepX (l : List Spec) (i : Nat) (x : Spec) : Unit ⊕ Int :=
 if chk x = 0 then foldE (fun c ch _ => stepC l i c ch) 0 x.children.l () else .inr (chk x)
def workersN (l : List Child) : Nat := (l.filter fun c => decide (c.sub = -1)).length
def subsN (l : List Child) : Nat := (l.filter fun c => !decide (c.sub = -1)).length
def chkT (l : List Spec) : Int :=
 if l.length = 0 then 23 else if 8 < l.length then 4 else
 match foldE (fun i x _ => stepX l i x) 0 l () with
 | .inr e => e
 | .inl _ => if 16 < workersN (seen l l.length 0) then 4 else if subsN (seen l l.length 0) ≠ l.length - 1 then 7 else 0
structure TreeOk (l : List Spec) : Prop where
 len : 1 ≤ l.length ∧ l.length ≤ 8
 ok : ∀ (i : Nat) (x : Spec), l[i]? = some x → chk x = 0
 sub : ∀ (i c : Nat) (ch : Child), i < l.length → (kids l i)[c]? = some ch → ch.sub = -1 ∨ ((i : Int) < ch.sub ∧ ch.sub < l.length)
 new : ∀ (i c : Nat) (ch : Child), i < l.length → (kids l i)[c]? = some ch → ∀ y ∈ seen l i c, sameC ch y = false
 few : workersN (seen l l.length 0) ≤ 16
 subs : subsN (seen l l.length 0) = l.length - 1
theorem foldE_inl {α ρ : Type} {f : Nat → α → Unit ⊕ ρ} {r : List α} (h : foldE (fun k a (_ : Unit) => f k a) 0 r () = .inl ()) : ∀ (j : Nat) (a : α), r[j]? = some a → f j a = .inl () := by
 rcases foldE_unit f r 0 with ⟨_, h2⟩ | ⟨j, a, y, h1, h2, h3, h4⟩
 ·intro j a hj; have := h2 j a hj; rwa [Nat.zero_add] at this
 ·rw [h] at h3; cases h3
theorem kids_of {l : List Spec} {i : Nat} {x : Spec} (h : l[i]? = some x) : kids l i = x.children.l := by
 unfold kids; rw [gEd, h]; rfl
theorem tree_of {l : List Spec} (h : chkT l = 0) : TreeOk l := by
 unfold chkT at h
 split at h
 ·cases h
 ·split at h
  ·cases h
  ·rename_i h1 h2
   split at h
   ·rename_i e he
    rcases foldE_unit (fun i x => stepX l i x) l 0 with ⟨k1, _⟩ | ⟨j, a, y, k1, k2, k3, k4⟩
    ·rw [k1] at he; cases he
    ·rw [k3] at he; cases he
     unfold stepX at k2
     split at k2
     ·rcases foldE_unit (fun c ch => stepC l (0 + j) c ch) a.children.l 0 with ⟨m1, _⟩ | ⟨j', a', y', m1, m2, m3, m4⟩
      ·rw [m1] at k2; cases k2
      ·rw [m3] at k2; cases k2
       unfold stepC at m2
       split at m2
       ·cases m2; cases h
       ·split at m2
        ·cases m2; cases h
        ·cases m2
     ·cases k2
      rename_i hx; exact absurd h hx
   ·rename_i he
    split at h
    ·cases h
    ·rename_i h3
     split at h
     ·cases h
     ·rename_i h4
      have ha := foldE_inl he
      have hb : ∀ (i : Nat) (x : Spec), l[i]? = some x → chk x = 0 ∧ ∀ (c : Nat) (ch : Child), x.children.l[c]? = some ch → stepC l i c ch = .inl () := by
       intro i x hx
       have := ha i x hx
       unfold stepX at this
       split at this
       ·exact ⟨‹_›, foldE_inl this⟩
       ·cases this
      have hc : ∀ (i c : Nat) (ch : Child), i < l.length → (kids l i)[c]? = some ch → stepC l i c ch = .inl () := by
       intro i c ch hi hch
       have hx := gEg hi
       rw [kids_of hx] at hch
       exact (hb i _ hx).2 c ch hch
      refine ⟨by omega, fun i x hx => (hb i x hx).1, ?_, ?_, by omega, by omega⟩
      ·intro i c ch hi hch
       have := hc i c ch hi hch
       unfold stepC at this
       split at this
       ·cases this
       ·rename_i hn
        by_cases hs : ch.sub = -1
        ·exact .inl hs
        ·right
         have : ¬ (ch.sub ≤ i ∨ (l.length : Int) ≤ ch.sub) := fun h => hn ⟨hs, h⟩
         omega
      ·intro i c ch hi hch y hy
       have := hc i c ch hi hch
       unfold stepC at this
       split at this
       ·cases this
       ·split at this
        ·cases this
        ·rename_i hn
         cases hq : sameC ch y with
         | false => rfl
         | true => exact absurd (List.any_eq_true.2 ⟨y, hy, hq⟩) hn
theorem nodup_le {α : Type} [DecidableEq α] : ∀ (L M : List α), L.Nodup → (∀ x ∈ L, x ∈ M) → L.length ≤ M.length
 | [], M, _, _ => Nat.zero_le _
 | x :: r, M, hd, hm => by
  rw [List.nodup_cons] at hd
  have h1 := nodup_le r (M.erase x) hd.2 (fun y hy => by
   have hne : y ≠ x := fun e => hd.1 (e ▸ hy)
   exact (List.mem_erase_of_ne hne).2 (hm y (by simp [hy])))
  have h2 := List.length_erase_of_mem (hm x (by simp))
  have h3 := List.length_pos_of_mem (hm x (by simp))
  simp only [List.length_cons]; omega
def order (l : List Spec) : Nat → Nat → List (Nat × Nat)
 | 0, _ => []
 | d + 1, i => (kids l i).zipIdx.flatMap fun p => if p.1.sub < 0 then [(i, p.2)] else order l d p.1.sub.toNat
def ordT (l : List Spec) : List (Nat × Nat) := order l l.length 0
def numW (o : List (Nat × Nat)) (p : Nat × Int) : Int := idxP (fun q => decide (q.1 = p.1) && decide ((q.2 : Int) = p.2)) o
structure Tree where
 ss : List State
 out : List Event
 q : List Due
def doHandle (l : List Spec) (go : Nat → List Event → Tree → Tree) (up : Nat → Nat × Nat) (k : Nat) (e : Event) (t : Tree) : Tree :=
 let x := l.getD k default
 let s := t.ss.getD k default
 if handleE x s e = 0 then
  let r := handleR x s e
  let t1 := go k r.out { t with ss := t.ss.set k (mkS r) }
  if 0 < k ∧ s.status ≠ 4 ∧ r.st = 4 then { t1 with q := t1.q ++ [⟨(up k).1, ⟨1, (up k).2, if r.fl = true then 7 else 1, e.time⟩⟩] } else t1
 else t
def timed (tm : Int) (l : List Event) : List Event := l.map fun a => { a with time := tm }
def doStart (l : List Spec) (go : Nat → List Event → Tree → Tree) (k : Nat) (tm : Int) (t : Tree) : Tree :=
 go k (timed tm (startL (kids l k).length)) { t with ss := t.ss.set k (startS (l.getD k default)) }
def doAct (l : List Spec) (o : List (Nat × Nat)) (up : Nat → Nat × Nat) (go : Nat → List Event → Tree → Tree) (i : Nat) (t : Tree) (a : Event) : Tree :=
 if a.kind = 5 then (if i = 0 then { t with out := t.out ++ [a] } else t)
 else
  let sub := ((kids l i).getD a.child.toNat default).sub
  if sub < 0 then { t with out := t.out ++ [{ a with child := numW o (i, a.child) }] }
  else if a.kind = 3 then doStart l go sub.toNat a.time t
  else doHandle l go up sub.toNat ⟨2, -1, 0, a.time⟩ t
def perf (l : List Spec) (o : List (Nat × Nat)) (up : Nat → Nat × Nat) : Nat → Nat → List Event → Tree → Tree
 | 0, _, _, t => t
 | d + 1, i, acts, t => acts.foldl (doAct l o up (perf l o up d) i) t
end
section
def esI (L : List Int) : List (AV × AV) := L.map fun m => (I m, AV.bool true)
def esS (L : List (List UInt8)) : List (AV × AV) := L.map fun m => (AV.str m, AV.bool true)
theorem findI_in {n : Int} : ∀ {L : List Int} (k : Nat), n ∈ L → ∃ i, findK 0 (I n) (esI L) k = some (some (i, .bool true))
 | m :: L, k, h => by
  by_cases e : n = m
  ·exact ⟨k, by simp [esI, findK, eqCell, e]⟩
  ·obtain ⟨i, hi⟩ := findI_in (k + 1) ((List.mem_cons.1 h).resolve_left e)
   refine ⟨i, ?_⟩
   simp only [esI] at hi
   simp [esI, findK, eqCell, e, hi]
theorem findI_out {n : Int} : ∀ {L : List Int} (k : Nat), n ∉ L → findK 0 (I n) (esI L) k = some none
 | [], k, _ => rfl
 | m :: L, k, h => by
  have e : ¬ n = m := fun e => h (by simp [e])
  have := findI_out (k + 1) (fun hm => h (List.mem_cons_of_mem _ hm) : n ∉ L)
  simp only [esI] at this
  simp [esI, findK, eqCell, e, this]
theorem findS_in {n : List UInt8} : ∀ {L : List (List UInt8)} (k : Nat), n ∈ L → ∃ i, findK 2 (.str n) (esS L) k = some (some (i, .bool true))
 | m :: L, k, h => by
  by_cases e : n = m
  ·exact ⟨k, by simp [esS, findK, eqCell, e]⟩
  ·obtain ⟨i, hi⟩ := findS_in (k + 1) ((List.mem_cons.1 h).resolve_left e)
   refine ⟨i, ?_⟩
   simp only [esS] at hi
   simp [esS, findK, eqCell, e, hi]
theorem findS_out {n : List UInt8} : ∀ {L : List (List UInt8)} (k : Nat), n ∉ L → findK 2 (.str n) (esS L) k = some none
 | [], k, _ => rfl
 | m :: L, k, h => by
  have e : ¬ n = m := fun e => h (by simp [e])
  have := findS_out (k + 1) (fun hm => h (List.mem_cons_of_mem _ hm) : n ∉ L)
  simp only [esS] at this
  simp [esS, findK, eqCell, e, this]
def subsOf (L : List Child) : List Int := (L.filter fun c => !decide (c.sub = -1)).map (·.sub)
def namesOf (L : List Child) : List (List UInt8) := (L.filter fun c => decide (c.sub = -1)).map (·.name)
theorem same_any {ch : Child} {L : List Child} : L.any (sameC ch) = true ↔ (ch.sub ≠ -1 ∧ ch.sub ∈ subsOf L) ∨ (ch.sub = -1 ∧ ch.name ∈ namesOf L) := by
 rw [List.any_eq_true]
 simp only [sameC, subsOf, namesOf, List.mem_map, List.mem_filter, Bool.and_eq_true, Bool.or_eq_true, decide_eq_true_eq, Bool.not_eq_true', decide_eq_false_iff_not]
 constructor
 ·rintro ⟨y, h1, h2, h3⟩
  by_cases hs : ch.sub = -1
  ·right
   exact ⟨hs, y, ⟨h1, by rw [h2, hs]⟩, (h3.resolve_left (fun h => h hs)).symm⟩
  ·left
   exact ⟨hs, y, ⟨h1, by rw [h2]; exact hs⟩, h2⟩
 ·rintro (⟨h1, y, ⟨h2, h3⟩, h4⟩ | ⟨h1, y, ⟨h2, h3⟩, h4⟩)
  ·exact ⟨y, h2, h4, .inl h1⟩
  ·exact ⟨y, h2, by rw [h3, h1], .inr h4.symm⟩
theorem subs_snoc (L : List Child) (c : Child) : subsOf (L ++ [c]) = if c.sub = -1 then subsOf L else subsOf L ++ [c.sub] := by
 unfold subsOf
 rw [List.filter_append]
 by_cases h : c.sub = -1 <;> simp [h]
theorem names_snoc (L : List Child) (c : Child) : namesOf (L ++ [c]) = if c.sub = -1 then namesOf L ++ [c.name] else namesOf L := by
 unfold namesOf
 rw [List.filter_append]
 by_cases h : c.sub = -1 <;> simp [h]
theorem esI_snoc (L : List Int) (n : Int) : esI L ++ [(I n, AV.bool true)] = esI (L ++ [n]) := by simp [esI]
theorem esS_snoc (L : List (List UInt8)) (n : List UInt8) : esS L ++ [(AV.str n, AV.bool true)] = esS (L ++ [n]) := by simp [esS]
def Maps (L : List Child) (H : Heap) : Prop := H[0]? = some (.mp (esI (subsOf L))) ∧ H[1]? = some (.mp (esS (namesOf L)))
theorem Maps.kept {L : List Child} {H H' : Heap} (h : Maps L H) (hk : Kept none H H') : Maps L H' := ⟨hk.get (by simp) h.1, hk.get (by simp) h.2⟩
theorem Maps.put {L : List Child} {H : Heap} (h : Maps L H) (c : Child) : Maps (L ++ [c]) (if c.sub = -1 then H.set 1 (.mp (esS (namesOf L ++ [c.name]))) else H.set 0 (.mp (esI (subsOf L ++ [c.sub])))) := by
 have h0 := (gEs.1 h.1).1
 have h1 := (gEs.1 h.2).1
 unfold Maps
 rw [subs_snoc, names_snoc]
 by_cases hs : c.sub = -1
 ·simp only [hs, if_true]
  exact ⟨by rw [gEn (by decide)]; exact h.1, gEt h1⟩
 ·simp only [hs, if_false]
  exact ⟨gEt h0, by rw [gEn (by decide)]; exact h.2⟩
attribute [local irreducible] okC okV
abbrev specs (l : Sl Spec) : AV := Sl.av Spec.av 4 l
theorem turn22_0 (l : Sl Spec) (hl : l.l.length ≤ 8) (i : Nat) (hi : i < l.l.length) (c : Nat) (ch : Child) (cs : Sl Child) (hcs : cs.l = kids l.l i) (hc : c < cs.l.length) (hcl : cs.l.length ≤ 1000) (hch : cs.l[c]? = some ch) {H : Heap} (hm : Maps (seen l.l i c) H) :
  okC (evC W l21_0 [(0, specs l), (3, .omap 0), (4, .omap 1), (5, I i), (20, specs l), (21, I l.l.length), (22, I i), (33, Sl.av Child.av 3 cs), (34, I cs.l.length), (35, I c)] H)
   (TurnOk (fun (_ : Unit) F' H' => F'.keep [0, 3, 4, 5, 20, 21, 22, 33, 34, 35] = [(0, specs l), (3, .omap 0), (4, .omap 1), (5, I i), (20, specs l), (21, I l.l.length), (22, I i), (33, Sl.av Child.av 3 cs), (34, I cs.l.length), (35, I ((c + 1 : Nat) : Int))] ∧ Maps (seen l.l i (c + 1)) H') (fun e x F H => x = .ret ∧ F.get 2 = I e) (stepC l.l i c ch)) := by
 have hw := wrap_succ (k := c) (by omega)
 have hkc : cs.l[c] = ch := (gEs.1 hch).2
 have hk := Kept.append none H [.arr 0 3 false [ch.av]]
 have hm1 := hm.kept hk
 have hlast : (H ++ [Blk.arr 0 3 false [ch.av]])[H.length]? = some (.arr 0 3 false [ch.av]) := app_last _ _
 have m0 := hm1.1
 have m1 := hm1.2
 have hp := hm1.put ch
 have hsn : seen l.l i (c + 1) = seen l.l i c ++ [ch] := seen_succ (by rw [← hcs]; exact hch)
 rw [← hsn] at hp
 have hany := same_any (ch := ch) (L := seen l.l i c)
 by_cases s : ch.sub = -1
 ·rw [if_pos s] at hp
  by_cases m : ch.name ∈ namesOf (seen l.l i c)
  ·obtain ⟨j, hj⟩ := findS_in 0 m
   have hst : stepC l.l i c ch = .inr 6 := by
    unfold stepC; rw [if_neg (fun h => h.1 s), if_pos (hany.2 (.inr ⟨s, m⟩))]
   rw [hst]
   simp [-getElem?_pos, gEz, app_last, evl21_0, b21_0, intBin, hc, hch, hw, hlast, m0, m1, s, hj]
  ·have hj := findS_out 0 m
   have hst : stepC l.l i c ch = .inl () := by
    unfold stepC; rw [if_neg (fun h => h.1 s), if_neg (fun h => (hany.1 h).elim (fun h => h.1 s) (fun h => m h.2))]
   rw [hst]
   simp [-getElem?_pos, gEz, app_last, evl21_0, b21_0, intBin, hc, hch, hw, hlast, m0, m1, s, hj, esS_snoc]
   exact hp
 ·rw [if_neg s] at hp
  by_cases a : ch.sub ≤ i
  ·have hst : stepC l.l i c ch = .inr 2 := by
    unfold stepC; rw [if_pos ⟨s, .inl a⟩]
   rw [hst]
   simp [-getElem?_pos, gEz, app_last, evl21_0, b21_0, intBin, hc, hch, hw, hlast, m0, m1, s, a]
  ·by_cases b : (l.l.length : Int) ≤ ch.sub
   ·have hst : stepC l.l i c ch = .inr 2 := by
     unfold stepC; rw [if_pos ⟨s, .inr b⟩]
    rw [hst]
    simp [-getElem?_pos, gEz, app_last, evl21_0, b21_0, intBin, hc, hch, hw, hlast, m0, m1, s, a, b]
   ·have hn : ¬ (ch.sub ≠ -1 ∧ (ch.sub ≤ i ∨ (l.l.length : Int) ≤ ch.sub)) := fun h => h.2.elim a b
    by_cases m : ch.sub ∈ subsOf (seen l.l i c)
    ·obtain ⟨j, hj⟩ := findI_in 0 m
     have hst : stepC l.l i c ch = .inr 6 := by
      unfold stepC; rw [if_neg hn, if_pos (hany.2 (.inl ⟨s, m⟩))]
     rw [hst]
     simp [-getElem?_pos, gEz, app_last, evl21_0, b21_0, intBin, hc, hch, hw, hlast, m0, m1, s, a, b, hj]
    ·have hj := findI_out 0 m
     have hst : stepC l.l i c ch = .inl () := by
      unfold stepC; rw [if_neg hn, if_neg (fun h => (hany.1 h).elim (fun h => m h.2) (fun h => s h.1))]
     rw [hst]
     simp [-getElem?_pos, gEz, app_last, evl21_0, b21_0, intBin, hc, hch, hw, hlast, m0, m1, s, a, b, hj, esI_snoc]
     exact hp
end
section
attribute [local irreducible] okC okV
theorem esI_len (L : List Int) : (esI L).length = L.length := by simp [esI]
theorem esS_len (L : List (List UInt8)) : (esS L).length = L.length := by simp [esS]
theorem subsOf_len (L : List Child) : (subsOf L).length = subsN L := by simp [subsOf, subsN]
theorem namesOf_len (L : List Child) : (namesOf L).length = workersN L := by simp [namesOf, workersN]
def NamesOk (l : List Spec) : Prop := ∀ x ∈ l, ∀ c ∈ x.children.l, c.name.length ≤ 1000000
theorem turn22_1 (l : Sl Spec) (hl : l.l.length ≤ 8) (hn : NamesOk l.l) (i : Nat) (x : Spec) (hi : i < l.l.length) (hx : l.l[i]? = some x) {H : Heap} (hm : Maps (seen l.l i 0) H) :
  okC (evC W l21_1 [(0, specs l), (3, .omap 0), (4, .omap 1), (20, specs l), (21, I l.l.length), (22, I i)] H)
   (TurnOk (fun (_ : Unit) F' H' => F'.keep [0, 3, 4, 20, 21, 22] = [(0, specs l), (3, .omap 0), (4, .omap 1), (20, specs l), (21, I l.l.length), (22, I ((i + 1 : Nat) : Int))] ∧ Maps (seen l.l (i + 1) 0) H') (fun e x F H => x = .ret ∧ F.get 2 = I e) (stepX l.l i x)) := by
 have hw := wrap_succ (k := i) (by omega)
 have h40 := e31 x (hn x (List.mem_of_getElem? hx))
 have hm1 := hm.kept (Kept.append none H [.arr 0 4 false [x.av]])
 by_cases h0 : chk x = 0
 ·have hlen := chk_len h0
  have hkid := kids_of hx
  rw [h0] at h40
  have hL := loop_all (Φ := Φ) (live := [0, 3, 4, 5, 20, 21, 22, 33, 34, 35]) (L := l21_0) x.children.l (fun c ch _ => stepC l.l i c ch)
   (fun c _ F G => F = [(0, specs l), (3, .omap 0), (4, .omap 1), (5, I i), (20, specs l), (21, I l.l.length), (22, I i), (33, Sl.av Child.av 3 x.children), (34, I x.children.l.length), (35, I c)] ∧ Maps (seen l.l i c) G)
   (fun e y F G => y = .ret ∧ F.get 2 = I e) (fun _ y F G => y = .exit 3 ∧ F.keep [0, 3, 4, 20, 21, 22] = [(0, specs l), (3, .omap 0), (4, .omap 1), (20, specs l), (21, I l.l.length), (22, I i)] ∧ Maps (seen l.l (i + 1) 0) G) (s := ()) (H := H ++ [.arr 0 4 false [x.av]]) ⟨rfl, hm1⟩ ?_ ?_
  ·simp only [Int.natCast_zero] at hL
   have hs : stepX l.l i x = foldE (fun c ch (_ : Unit) => stepC l.l i c ch) 0 x.children.l () := by unfold stepX; rw [if_pos h0]
   rw [hs]
   cases hf : foldE (fun c ch (_ : Unit) => stepC l.l i c ch) 0 x.children.l () with
   | inl u =>
    rw [hf] at hL
    obtain ⟨y, F', H', e1, rfl, e2, e3⟩ := okC_iff.1 hL
    simp only [keep_cons, keep_nil, List.cons.injEq, Prod.mk.injEq, true_and, and_true] at e2
    obtain ⟨f0, f3, f4, f20, f21, f22⟩ := e2
    simp [-getElem?_pos, gEz, app_last, evl21_1, b21_1, intBin, hi, hx, hw, h40, e1, f0, f3, f4, f20, f21, f22]
    exact e3
   | inr e =>
    rw [hf] at hL
    obtain ⟨y, F', H', e1, rfl, e2⟩ := okC_iff.1 hL
    simp [-getElem?_pos, gEz, app_last, evl21_1, b21_1, intBin, hi, hx, hw, h40, e1, e2]
  ·rintro c ch ⟨⟩ F G hc hch ⟨rfl, hg⟩
   exact turn22_0 l hl i hi c ch x.children hkid.symm hc (by omega) hch hg
  ·rintro ⟨⟩ F G ⟨rfl, hg⟩
   have : seen l.l i x.children.l.length = seen l.l (i + 1) 0 := by rw [← hkid]; exact seen_next _ _
   rw [this] at hg
   simp [evl21_0, b21_0, intBin]
   exact hg
 ·have hs : stepX l.l i x = .inr (chk x) := by unfold stepX; rw [if_neg h0]
  rw [hs]
  simp [-getElem?_pos, gEz, app_last, evl21_1, b21_1, intBin, hi, hx, hw, h40, h0]
theorem t22 (l : Sl Spec) (hn : NamesOk l.l) (hll : l.l.length ≤ 1000000) : W.pure 21 [specs l] = some (I (chkT l.l)) := by
 rw [W_pure Φ21 (by simp)]
 by_cases h0 : l.l.length = 0
 ·have : chkT l.l = 23 := by unfold chkT; rw [if_pos h0]
  rw [this]
  have h0' : l.l = [] := by simpa using h0
  simp [fi21, c21, evFun, enterFr, intBin, resV, rvVs, rvV, h0']
 ·have h0' : ¬ l.l = [] := by simpa using h0
  by_cases h8 : 8 < l.l.length
  ·have : chkT l.l = 4 := by unfold chkT; rw [if_neg h0, if_pos h8]
   rw [this]
   have h8' : 8 < (l.l.length : Int) := by omega
   simp [fi21, c21, evFun, enterFr, intBin, resV, rvVs, rvV, h0', h8, h8']
  ·have h8' : ¬ 8 < (l.l.length : Int) := by omega
   have hw : IntKind.wrap .i64 ((l.l.length : Int) - 1) = (l.l.length : Int) - 1 := wrap_pred (by omega)
   have hL := loop_all (Φ := Φ) (live := [0, 3, 4, 20, 21, 22]) (L := l21_1) l.l (fun i x _ => stepX l.l i x)
    (fun i _ F G => F = [(0, specs l), (3, .omap 0), (4, .omap 1), (20, specs l), (21, I l.l.length), (22, I i)] ∧ Maps (seen l.l i 0) G)
    (fun e y F G => y = .ret ∧ F.get 2 = I e) (fun _ y F G => y = .exit 1 ∧ F.keep [0, 3, 4] = [(0, specs l), (3, .omap 0), (4, .omap 1)] ∧ Maps (seen l.l l.l.length 0) G) (s := ()) (H := [.mp [], .mp []]) ⟨rfl, by simp [Maps, seen, subsOf, namesOf, esI, esS]⟩ ?_ ?_
   ·simp only [Int.natCast_zero] at hL
    unfold chkT
    rw [if_neg h0, if_neg h8]
    cases hf : foldE (fun i x (_ : Unit) => stepX l.l i x) 0 l.l () with
    | inr e =>
     rw [hf] at hL
     obtain ⟨y, F', H', e1, rfl, e2⟩ := okC_iff.1 hL
     simp [fi21, c21, evFun, enterFr, intBin, resV, rvVs, rvV, h0', h8, h8', e1, e2]
    | inl u =>
     rw [hf] at hL
     obtain ⟨y, F', H', e1, rfl, e2, e3⟩ := okC_iff.1 hL
     simp only [keep_cons, keep_nil, List.cons.injEq, Prod.mk.injEq, true_and, and_true] at e2
     obtain ⟨f0, f3, f4⟩ := e2
     have m0 := e3.1
     have m1 := e3.2
     have n0 : ((esI (subsOf (seen l.l l.l.length 0))).length : Int) = subsN (seen l.l l.l.length 0) := by rw [esI_len, subsOf_len]
     have n1 : ((esS (namesOf (seen l.l l.l.length 0))).length : Int) = workersN (seen l.l l.l.length 0) := by rw [esS_len, namesOf_len]
     simp only
     generalize subsN (seen l.l l.l.length 0) = sn at *
     generalize workersN (seen l.l l.l.length 0) = wn at *
     by_cases a : 16 < wn
     ·have a' : 16 < (wn : Int) := by omega
      simp [-getElem?_pos, fi21, c21, evFun, enterFr, intBin, resV, rvVs, rvV, h0', h8, h8', e1, f0, f3, f4, m0, m1, n0, n1, a, a']
     ·have a' : ¬ 16 < (wn : Int) := by omega
      by_cases b : sn = l.l.length - 1
      ·have b' : (sn : Int) = (l.l.length : Int) - 1 := by omega
       simp [-getElem?_pos, fi21, c21, evFun, enterFr, intBin, resV, rvVs, rvV, h0', h8, h8', e1, f0, f3, f4, m0, m1, n0, n1, a, a', hw, b']
       simp [b]
      ·have b' : ¬ (sn : Int) = (l.l.length : Int) - 1 := by omega
       simp [-getElem?_pos, fi21, c21, evFun, enterFr, intBin, resV, rvVs, rvV, h0', h8, h8', e1, f0, f3, f4, m0, m1, n0, n1, a, a', hw, b']
       simp [b]
   ·rintro i x ⟨⟩ F G hi hx ⟨rfl, hg⟩
    exact turn22_1 l (by omega) hn i x hi hx hg
   ·rintro ⟨⟩ F G ⟨rfl, hg⟩
    simp [evl21_1, b21_1, intBin]
    exact hg
end
section
def WorkerAt (l : List Spec) (p : Nat × Nat) : Prop := p.1 < l.length ∧ ∃ ch, (kids l p.1)[p.2]? = some ch ∧ ch.sub = -1
section walk
attribute [local irreducible] okC okV
def partW (l : List Spec) (d i : Nat) (p : Child × Nat) : List (Nat × Nat) := if p.1.sub < 0 then [(i, p.2)] else order l d p.1.sub.toNat
theorem order_succ (l : List Spec) (d i : Nat) : order l (d + 1) i = (kids l i).zipIdx.flatMap (partW l d i) := rfl
theorem take_zip {α : Type} (l : List α) (c : Nat) (x : α) (h : l[c]? = some x) : (l.take (c + 1)).zipIdx = (l.take c).zipIdx ++ [(x, c)] := by
 have hc := (gEs.1 h).1
 rw [List.take_add_one, h, List.zipIdx_append]
 simp [Nat.min_eq_left (Nat.le_of_lt hc)]
theorem take_flat {α β : Type} (l : List α) (c : Nat) (f : α × Nat → List β) : (l.take c).zipIdx.flatMap f <+: l.zipIdx.flatMap f := by
 have : l.zipIdx = (l.take c).zipIdx ++ (l.drop c).zipIdx (l.take c).length := by
  have h := List.zipIdx_append (xs := l.take c) (ys := l.drop c) (k := 0)
  rw [List.take_append_drop] at h
  simpa using h
 rw [this, List.flatMap_append]
 exact List.prefix_append _ _
theorem walk72 {l : Sl Spec} (ht : TreeOk l.l) {f : AV} (kf : okO f = some f) (T : List (Nat × Nat)) (Rel : List (Nat × Nat) → Heap → Prop)
  (hf : ∀ (s : List (Nat × Nat)) (H : Heap) (i c : Nat), WorkerAt l.l (i, c) → s ++ [(i, c)] <+: T → Rel s H → okV (W.call f [I i, I c] H) (fun v H' => v = .bool true ∧ Rel (s ++ [(i, c)]) H')) (hbox : ∀ s H b, Rel s H → Rel s (H ++ [b])) :
  ∀ (d i : Nat) (s : List (Nat × Nat)) (H : Heap), l.l.length - i ≤ d → i < l.l.length → s ++ order l.l d i <+: T → Rel s H → okV (W.call (.clo 49 [] []) [specs l, I i, f] H) (fun v H' => v = .bool true ∧ Rel (s ++ order l.l d i) H') := by
 intro d
 induction d with
 | zero => intro i s H h1 h2; omega
 | succ d ih =>
  intro i s0 H h1 h2 hT hr
  obtain ⟨x, hx⟩ : ∃ x, l.l[i]? = some x := ⟨_, gEg h2⟩
  have hlen := chk_len (ht.ok i x hx)
  have hkid := kids_of hx
  rw [order_succ, hkid] at hT ⊢
  rw [W_call Φ49]
  have hL := loop_fold (Φ := Φ) (live := [0, 1, 2, 13, 14, 15]) (L := l49_0) x.children.l (σ := List (Nat × Nat)) (fun c ch s => s ++ partW l.l d i (ch, c))
   (fun c s F G => F = [(0, specs l), (1, I i), (2, f), (13, Sl.av Child.av 3 x.children), (14, I x.children.l.length), (15, I c)] ∧ Rel s G ∧ s = s0 ++ (x.children.l.take c).zipIdx.flatMap (partW l.l d i)) (fun s y F G => y = .exit 0 ∧ Rel s G ∧ s = s0 ++ x.children.l.zipIdx.flatMap (partW l.l d i)) (s := s0) (H := H) ⟨rfl, hr, by simp⟩ ?_ ?_
  ·simp only [Int.natCast_zero] at hL
   obtain ⟨y, F', H', e1, rfl, e2, e3⟩ := okC_iff.1 hL
   rw [e3] at e2
   simp [fi49, c49, evFun, enterFr, intBin, resV, rvVs, rvV, hx, e1]
   exact e2
  ·rintro c ch s F G hc hch ⟨rfl, hg, hs⟩
   have hw := wrap_succ (k := c) (by omega)
   have hb := hbox s G (.arr 0 3 false [ch.av]) hg
   have hch' : (kids l.l i)[c]? = some ch := by rw [hkid]; exact hch
   have hs2 : s ++ partW l.l d i (ch, c) = s0 ++ (x.children.l.take (c + 1)).zipIdx.flatMap (partW l.l d i) := by
    rw [hs, take_zip _ _ _ hch, List.flatMap_append]; simp
   have hpre : s ++ partW l.l d i (ch, c) <+: T := by
    rw [hs2]
    exact List.IsPrefix.trans ((List.prefix_append_right_inj s0).2 (take_flat _ _ _)) hT
   by_cases hsub : ch.sub < 0
   ·have hs1 : ch.sub = -1 := by
     rcases ht.sub i c ch h2 hch' with h | h
     ·exact h
     ·omega
    have hp : partW l.l d i (ch, c) = [(i, c)] := by unfold partW; rw [if_pos hsub]
    rw [hp] at hs2 hpre ⊢
    obtain ⟨v, G', f1, rfl, f2⟩ := okV_iff.1 (hf s _ i c ⟨h2, ch, hch', hs1⟩ hpre hb)
    simp [-getElem?_pos, gEz, app_last, evl49_0, b49_0, intBin, hc, hch, hw, hsub, kf, f1]
    exact ⟨f2, hs2⟩
   ·have hsub2 : (i : Int) < ch.sub ∧ ch.sub < l.l.length := by
     rcases ht.sub i c ch h2 hch' with h | h
     ·omega
     ·exact h
    have hp : partW l.l d i (ch, c) = order l.l d ch.sub.toNat := by unfold partW; rw [if_neg hsub]
    rw [hp] at hs2 hpre ⊢
    obtain ⟨v, G', f1, rfl, f2⟩ := okV_iff.1 (ih ch.sub.toNat s _ (by omega) (by omega) hpre hb)
    have hcast : ((ch.sub.toNat : Nat) : Int) = ch.sub := by omega
    rw [hcast] at f1
    simp [-getElem?_pos, gEz, app_last, evl49_0, b49_0, intBin, hc, hch, hw, hsub, kf, f1]
    exact ⟨f2, hs2⟩
  ·rintro s F G ⟨rfl, hg, hs⟩
   rw [List.take_length] at hs
   simp [evl49_0, b49_0, intBin]
   exact ⟨hg, hs⟩
end walk
def cloW (l : Sl Spec) (i : Nat) : AV := .clo 48 [] [.eptr [specs l], .eptr [I i]]
theorem t49 (l : Sl Spec) (i : Nat) : W.pure 29 [specs l, I i] = some (cloW l i) := by
 rw [W_pure Φ29 (by simp)]
 simp [fi29, c29, evFun, enterFr, intBin, resV, rvVs, rvV]
 rfl
theorem t71 {l : Sl Spec} {i : Int} {f v : AV} {H G : Heap} (kf : okO f = some f) (kv : okO v = some v) (h : W.call (.clo 49 [] []) [specs l, I i, f] H = some (v, G)) : W.call (.clo 48 [] [.eptr [specs l], .eptr [I i]]) [f] H = some (.tuple [], G) := by
 rw [W_call Φ48]
 simp [fi48, c48, evFun, enterFr, intBin, resV, rvVs, rvV, kf, h]
theorem setElem_one {v v' : AV} (h : v.cell = true) (h1 : v'.cells = [v']) (h2 : v'.cell = true) : setElem [v] 0 0 v' = some [v'] := by
 cases v <;> simp [setElem, h1, h2] <;> cases h
structure OutR (H0 : Heap) (y b sz : Nat) (K : LoopState → Blk) (H : Heap) (L : List AV) : Prop where
 yl : y < H0.length
 bl : b < H0.length
 ne : y ≠ b
 len : H0.length ≤ H.length
 hy : H[y]? = some (K .ready)
 hb : ∃ o v, H[b]? = some (.arr 0 1 false [v]) ∧ Grow H sz o v L ∧ ∀ id, o = some id → H0.length ≤ id
 keep : ∀ j, j < H0.length → j ≠ b → j ≠ y → H[j]? = H0[j]?
theorem OutR.box {H0 : Heap} {y b sz : Nat} {K : LoopState → Blk} {H : Heap} {L : List AV} (h : OutR H0 y b sz K H L) (B : Blk) : OutR H0 y b sz K (H ++ [B]) L := by
 obtain ⟨h1, h2, h3, h4, h5, ⟨o, v, h6, h7, h8⟩, h9⟩ := h
 have hk := Kept.append none H [B]
 exact ⟨h1, h2, h3, by simp; omega, hk.get (by simp) h5, ⟨o, v, hk.get (by simp) h6, h7.kept hk (by simp), h8⟩, fun j a b c => by rw [gEa (by omega)]; exact h9 j a b c⟩
theorem OutR.at {H0 : Heap} {y b sz : Nat} {K : LoopState → Blk} {H : Heap} {L : List AV} (h : OutR H0 y b sz K H L) {j : Nat} (h1 : j < H0.length) (h2 : j ≠ b) (h3 : j ≠ y) {B : Blk} (hB : H0[j]? = some B) : (H.set y (K .busy))[j]? = some B := by
 rw [gEn (fun e => h3 e.symm), h.keep j h1 h2 h3]; exact hB
theorem OutR.step {H0 : Heap} {y b sz : Nat} {K : LoopState → Blk} {H : Heap} {L : List AV} (h : OutR H0 y b sz K H L) (x : AV) (hx : x.cells.all AV.cell = true) (hl : L.length ≤ 1000000) :
  ∃ v v' G2, (H.set y (K .busy))[b]? = some (.arr 0 1 false [v]) ∧ okO v = some v ∧ ex (H.set y (K .busy)) (.app sz) [v, .isl (some false) sz [x]] = some (v', G2) ∧ okO v' = some v' ∧ v'.cells = [v'] ∧ v'.cell = true ∧ v.cells = [v] ∧ setElem [v] 0 0 v' = some [v'] ∧
   G2[b]? = some (.arr 0 1 false [v]) ∧ (G2.set b (.arr 0 1 false [v']))[y]? = some (K .busy) ∧ (H.set y (K .busy))[y]? = some (K .busy) ∧ OutR H0 y b sz K ((G2.set b (.arr 0 1 false [v'])).set y (K .ready)) (L ++ [x]) := by
 obtain ⟨h1, h2, h3, h4, h5, ⟨o, v, h6, h7, h8⟩, h9⟩ := h
 have ob : ∀ id, o = some id → id ≠ b ∧ id ≠ y := fun id hid => ⟨fun e => by have := h8 id hid; omega, fun e => by have := h8 id hid; omega⟩
 have hk1 : Kept (some y) H (H.set y (K .busy)) := Kept.set _ _ _
 have g1 : Grow (H.set y (K .busy)) sz o v L := h7.kept hk1 (fun id hid e => (ob _ e).2 (by cases hid; rfl))
 have b1 : (H.set y (K .busy))[b]? = some (.arr 0 1 false [v]) := hk1.get (fun e => h3 (by cases e; rfl)) h6
 have y1 : (H.set y (K .busy))[y]? = some (K .busy) := gEt (by omega)
 obtain ⟨o', v', G2, a1, a2, a3, a4, a5⟩ := g1.app (y := .isl (some false) sz [x]) (xs := [x]) (by simp) (by simpa using hx) (by simp [appRoom]; omega)
 have l2 : (H.set y (K .busy)).length ≤ G2.length := a3.1
 rw [List.length_set] at l2
 have o1 : ∀ id, o' = some id → H0.length ≤ id := by
  intro id hid
  rcases a4 with h | ⟨_, h, _⟩
  ·exact h8 id (by rw [← h]; exact hid)
  ·rw [hid] at h; cases h; simp; omega
 have b2 : G2[b]? = some (.arr 0 1 false [v]) := a3.get (fun e => (ob b e).1 rfl) b1
 have y2 : G2[y]? = some (K .busy) := a3.get (fun e => (ob y e).2 rfl) y1
 refine ⟨v, v', G2, b1, g1.okO, a1, a2.okO, a2.cells, a2.cell, g1.cells, setElem_one g1.cell a2.cells a2.cell, b2, ?_, y1, h1, h2, h3, by simp; omega, gEt (by simp; omega), ⟨o', v', ?_, ?_, o1⟩, fun j c1 c2 c3 => ?_⟩
 ·rw [gEn (fun e => h3 e.symm)]; exact y2
 ·rw [gEn h3]; exact gEt (by omega)
 ·have k2 : Kept (some b) G2 (G2.set b (.arr 0 1 false [v'])) := Kept.set _ _ _
  have k3 : Kept (some y) (G2.set b (.arr 0 1 false [v'])) ((G2.set b (.arr 0 1 false [v'])).set y (K .ready)) := Kept.set _ _ _
  exact (a2.kept k2 (fun id hid e => by cases hid; have := o1 _ e; omega)).kept k3 (fun id hid e => by cases hid; have := o1 _ e; omega)
 ·rw [gEn (fun e => c3 e.symm), gEn (fun e => c2 e.symm), a3.2 j (fun e => by have := h8 j e; omega) (by simp; omega), gEn (fun e => c3 e.symm)]
  exact h9 j c1 c2 c3
def plA (p : Nat × Nat) : AV := .agg [I p.1, I p.2]
def K38 (b : Nat) (st : LoopState) : Blk := .loop st none [(2, .isl (some true) 0 []), (3, .optr b 0 0 0)] [8, 9] ra23_0 rb23_0
theorem round38 {H0 : Heap} {y b : Nat} {H : Heap} {L : List (Nat × Nat)} (h : OutR H0 y b 2 (K38 b) H (L.map plA)) (hl : L.length ≤ 1000000) (i c : Nat) :
  okV (evRound W y [I i, I c] H) (fun v H' => v = .bool true ∧ OutR H0 y b 2 (K38 b) H' ((L ++ [(i, c)]).map plA)) := by
 obtain ⟨v, v', G2, a1, a2, a3, a4, a5, a6, a7, a8, a9, a10, a11, a12⟩ := h.step (plA (i, c)) (by simp [plA]) (by simpa using hl)
 have : okV (evRound W y [I i, I c] H) (fun u H' => u = .bool true ∧ H' = (G2.set b (.arr 0 1 false [v'])).set y (K38 b .ready)) := by
  rw [evRound_open h.hy rfl]
  have hy := h.hy
  simp only [K38, plA] at a1 a3 a10 a11 hy ⊢
  simp [-getElem?_pos, gEz, putAll, evra23_0, xra23_0, evrb23_0, xrb23_0, intBin, hy, a1, a2, a3, a4, a5, a6, a7, a8, a9, a10, a11]
 obtain ⟨u, H', e1, rfl, rfl⟩ := okV_iff.1 this
 rw [e1]
 refine ⟨rfl, ?_⟩
 rw [List.map_append]; exact a12
end
section
def SubAt (l : List Spec) (i c j : Nat) : Prop := i < l.length ∧ ∃ ch, (kids l i)[c]? = some ch ∧ ch.sub = (j : Int)
theorem seen_old {l : List Spec} {i c i' c' : Nat} {ch : Child} (h : (kids l i)[c]? = some ch) (hlt : i < i' ∨ (i = i' ∧ c < c')) : ch ∈ seen l i' c' := by
 unfold seen
 rw [List.mem_append]
 rcases hlt with hlt | ⟨rfl, hlt⟩
 ·exact .inl (List.mem_flatMap.2 ⟨i, by simpa using hlt, List.mem_of_getElem? h⟩)
 ·right
  have : ((kids l i).take c')[c]? = some ch := by rw [List.getElem?_take, if_pos hlt]; exact h
  exact List.mem_of_getElem? this
theorem TreeOk.one {l : List Spec} (ht : TreeOk l) {i c i' c' j : Nat} (h : SubAt l i c j) (h' : SubAt l i' c' j) : i = i' ∧ c = c' := by
 obtain ⟨h1, ch, h2, h3⟩ := h
 obtain ⟨h1', ch', h2', h3'⟩ := h'
 have key : ∀ (i c i' c' : Nat) (ch ch' : Child), i' < l.length → (kids l i)[c]? = some ch → (kids l i')[c']? = some ch' → ch.sub = (j : Int) → ch'.sub = (j : Int) → ¬ (i < i' ∨ (i = i' ∧ c < c')) := by
  intro i c i' c' ch ch' hi hc hc' hs hs' hlt
  have := ht.new i' c' ch' hi hc' ch (seen_old hc hlt)
  simp only [sameC, hs, hs', Bool.and_eq_false_iff, decide_eq_false_iff_not, Bool.or_eq_false_iff, Bool.not_eq_false'] at this
  rcases this with h | ⟨h, _⟩
  ·exact h trivial
  ·simp at h
 have a := key i c i' c' ch ch' h1' h2 h2' h3 h3'
 have b := key i' c' i c ch' ch h1 h2' h2 h3' h3
 omega
theorem SubAt.lt {l : List Spec} (ht : TreeOk l) {i c j : Nat} (h : SubAt l i c j) : i < j ∧ j < l.length := by
 obtain ⟨h1, ch, h2, h3⟩ := h
 rcases ht.sub i c ch h1 h2 with h | h <;> omega
inductive Desc (l : List Spec) (k : Nat) : Nat → Prop
 | refl : Desc l k k
 | step {m c j : Nat} (h : Desc l k m) (hs : SubAt l m c j) : Desc l k j
theorem Desc.le {l : List Spec} (ht : TreeOk l) {k j : Nat} (h : Desc l k j) : k ≤ j := by
 induction h with
 | refl => exact Nat.le_refl _
 | step h hs ih => have := hs.lt ht; omega
theorem Desc.head {l : List Spec} {i c k j : Nat} (hs : SubAt l i c k) (h : Desc l k j) : Desc l i j := by
 induction h with
 | refl => exact .step .refl hs
 | step h hs' ih => exact .step ih hs'
theorem Desc.same {l : List Spec} (ht : TreeOk l) {i c1 c2 k1 k2 j : Nat} (h1 : SubAt l i c1 k1) (h2 : SubAt l i c2 k2) (d1 : Desc l k1 j) (d2 : Desc l k2 j) : k1 = k2 := by
 induction d1 with
 | refl =>
  cases d2 with
  | refl => rfl
  | step h hs =>
   obtain ⟨rfl, _⟩ := ht.one hs h1
   have := h.le ht
   have := h2.lt ht
   omega
 | step h hs ih =>
  cases d2 with
  | refl =>
   obtain ⟨rfl, _⟩ := ht.one hs h2
   have := h.le ht
   have := h1.lt ht
   omega
  | step h' hs' =>
   obtain ⟨rfl, _⟩ := ht.one hs hs'
   exact ih h'
theorem order_mem {l : List Spec} (ht : TreeOk l) : ∀ (d i : Nat), i < l.length → ∀ p ∈ order l d i, WorkerAt l p ∧ Desc l i p.1 := by
 intro d
 induction d with
 | zero => intro i _ p hp; simp [order] at hp
 | succ d ih =>
  intro i hi p hp
  obtain ⟨⟨ch, c⟩, h1, h2⟩ := List.mem_flatMap.1 hp
  have hc : (kids l i)[c]? = some ch := by
   have := List.mem_zipIdx_iff_getElem?.1 h1
   exact this
  simp only at h2
  split at h2
  ·rename_i hs
   simp only [List.mem_singleton] at h2
   subst h2
   have hs1 : ch.sub = -1 := by rcases ht.sub i c ch hi hc with h | h <;> omega
   exact ⟨⟨hi, ch, hc, hs1⟩, .refl⟩
  ·rename_i hs
   have hsub : SubAt l i c ch.sub.toNat := ⟨hi, ch, hc, by omega⟩
   obtain ⟨a, b⟩ := ih ch.sub.toNat (hsub.lt ht).2 p h2
   exact ⟨a, b.head hsub⟩
theorem order_nodup {l : List Spec} (ht : TreeOk l) : ∀ (d i : Nat), i < l.length → (order l d i).Nodup := by
 intro d
 induction d with
 | zero => intro i _; simp [order]
 | succ d ih =>
  intro i hi
  show ((kids l i).zipIdx.flatMap _).Pairwise _
  rw [List.pairwise_flatMap]
  have hat : ∀ p ∈ (kids l i).zipIdx, (kids l i)[p.2]? = some p.1 := fun p hp => List.mem_zipIdx_iff_getElem?.1 hp
  refine ⟨fun p hp => ?_, ?_⟩
  ·split
   ·simp
   ·rename_i hs
    have hsub : SubAt l i p.2 p.1.sub.toNat := ⟨hi, p.1, hat p hp, by omega⟩
    exact ih _ (hsub.lt ht).2
  ·have hnd : (kids l i).zipIdx.Pairwise (fun a b => a.2 ≠ b.2) := by
    have : ((kids l i).zipIdx.map Prod.snd).Nodup := by rw [List.zipIdx_map_snd]; exact List.nodup_range'
    exact List.pairwise_map.1 this
   refine List.Pairwise.imp_of_mem (fun {a b} ha hb hab => ?_) hnd
   intro x hx y hy hxy
   subst hxy
   have mem : ∀ q ∈ (kids l i).zipIdx, x ∈ (if q.1.sub < 0 then [(i, q.2)] else order l d q.1.sub.toNat) → (x = (i, q.2)) ∨ ∃ j, SubAt l i q.2 j ∧ Desc l j x.1 := by
    intro q hq hx
    split at hx
    ·left; simpa using hx
    ·right
     have hsub : SubAt l i q.2 q.1.sub.toNat := ⟨hi, q.1, hat q hq, by omega⟩
     exact ⟨_, hsub, (order_mem ht d _ (hsub.lt ht).2 x hx).2⟩
   rcases mem a ha hx with h1 | ⟨j1, s1, d1⟩ <;> rcases mem b hb hy with h2 | ⟨j2, s2, d2⟩
   ·rw [h1] at h2; simp only [Prod.mk.injEq, true_and] at h2; exact hab h2
   ·have := d2.le ht; have := s2.lt ht; rw [h1] at *; omega
   ·have := d1.le ht; have := s1.lt ht; rw [h2] at *; omega
   ·have he := Desc.same ht s1 s2 d1 d2
    subst he
    exact hab (ht.one s1 s2).2
theorem kids_len {l : List Spec} (ht : TreeOk l) {i : Nat} (hi : i < l.length) : 1 ≤ (kids l i).length ∧ (kids l i).length ≤ 16 := by
 have hx := gEg hi
 rw [kids_of hx]; exact chk_len (ht.ok i _ hx)
theorem order_len {l : List Spec} (ht : TreeOk l) (d i : Nat) (hi : i < l.length) : (order l d i).length ≤ 128 := by
 have h := nodup_le (order l d i) ((List.range 8).flatMap fun a => (List.range 16).map fun b => (a, b)) (order_nodup ht d i hi) (fun p hp => by
  obtain ⟨h1, ch, h2, h3⟩ := (order_mem ht d i hi p hp).1
  have hk := (kids_len ht h1).2
  have hl := (gEs.1 h2).1
  rw [List.mem_flatMap]
  have := ht.len.2
  refine ⟨p.1, by simp; omega, List.mem_map.2 ⟨p.2, by simp; omega, rfl⟩⟩)
 have : ((List.range 8).flatMap fun a => (List.range 16).map fun b => (a, b)).length = 128 := by decide
 omega
end
section
theorem plA_still (p : Nat × Nat) : (plA p).cells.all AV.still = true := by simp [plA]
theorem Grow.slG {α : Type} {f : α → AV} {H : Heap} {sz n : Nat} {o : Option Nat} {v : AV} {l : List α} (h : Grow H sz o v (l.map f)) (hf : (l.map f).all (fun e => e.cells.all AV.still) = true) : ∃ s : Sl α, Go.Proofs.YtjknjapdcphcfaaGreat.frz H (n + 1) v = some (Sl.av f sz s) ∧ s.l = l ∧ ((s.nl = some true ∧ s.l = []) ∨ s.nl = some false) := by
 rw [h.frz hf]
 cases o with
 | none =>
  have h2 : l = [] := by simpa using h.2
  exact ⟨slNil, by simp [Sl.av], by rw [h2], .inl ⟨rfl, rfl⟩⟩
 | some id => exact ⟨ofL sz l, by simp; exact isl_sl l, rfl, .inr rfl⟩
theorem rngEnd_ready {id : Nat} {F : Fr} {v : AV} {G : Heap} {F' : Fr} {ps : List Nat} {ac bd : LC} (h : G[id]? = some (.loop .ready none F' ps ac bd)) : rngEnd id F (v, G) = some (.normal, F, G.set id (.loop .exhausted none F' ps ac bd)) := by
 simp only [rngEnd, h]
theorem t38 {l : Sl Spec} (ht : TreeOk l.l) : ∃ r : Sl (Nat × Nat), W.pure 23 [specs l] = some (Sl.av plA 2 r) ∧ r.l = ordT l.l := by
 have h0 : (0 : Nat) < l.l.length := by have := ht.len.1; omega
 have hlen := order_len ht l.l.length 0 h0
 have hw := walk72 ht (f := .yld 1) rfl (ordT l.l) (fun s H => OutR [.arr 0 1 false [.isl (some true) 0 []], K38 0 .ready] 1 0 2 (K38 0) H (s.map plA))
  (fun s H i c _ hp hr => by
   rw [W_yld]
   exact round38 hr (by have := hp.length_le; simp only [ordT, List.length_append] at this; omega) i c)
  (fun s H b hr => hr.box b) l.l.length 0 [] [.arr 0 1 false [.isl (some true) 0 []], K38 0 .ready] (by omega) h0 (List.prefix_refl _)
  ⟨by simp, by simp, by decide, Nat.le_refl _, rfl, ⟨none, _, rfl, grow_nil _ _, by simp⟩, fun _ _ _ _ => rfl⟩
 obtain ⟨v, G, e1, rfl, hr⟩ := okV_iff.1 hw
 rw [List.nil_append] at hr
 have c71 := t71 rfl rfl e1
 have hy := hr.hy
 obtain ⟨o, w, g1, g2, g3⟩ := hr.hb
 obtain ⟨r, f1, f2, f3⟩ := (g2.kept (Kept.set 1 G (.loop .exhausted none [(2, .isl (some true) 0 []), (3, .optr 0 0 0 0)] [8, 9] ra23_0 rb23_0)) (fun id hid e => by cases hid; have := g3 _ e; simp at this)).slG (n := 7) (all_still plA_still _)
 refine ⟨r, ?_, f2⟩
 rw [W_pure Φ23 (by simp)]
 have c49 := t49 l 0
 simp only [cloW, K38, Int.natCast_zero] at c71 hy c49
 have he := rngEnd_ready (v := .tuple []) (F := [(2, .isl (some true) 0 []), (3, .optr 0 0 0 0)]) hy
 have hb : (G.set 1 (.loop .exhausted none [(2, .isl (some true) 0 []), (3, .optr 0 0 0 0)] [8, 9] ra23_0 rb23_0))[0]? = some (.arr 0 1 false [w]) := by rw [gEn (by decide)]; exact g1
 simp [-getElem?_pos, gEz, fi23, c23, evFun, enterFr, intBin, resV, rvVs, rvV, c49, c71, he, hb, g2.okO, g2.cells, f1]
end
section
theorem bx21 (H : Heap) (a b : Blk) : (H ++ [a] ++ [b])[H.length]? = some a := by simp
theorem bx22 (H : Heap) (a b : Blk) : (H ++ [a] ++ [b])[H.length + 1]? = some b := by simp
theorem bx31 (H : Heap) (a b c : Blk) : (H ++ [a] ++ [b] ++ [c])[H.length]? = some a := by simp
theorem bx32 (H : Heap) (a b c : Blk) : (H ++ [a] ++ [b] ++ [c])[H.length + 1]? = some b := by simp
theorem bx33 (H : Heap) (a b c : Blk) : (H ++ [a] ++ [b] ++ [c])[H.length + 1 + 1]? = some c := by
 have h := app_last (H ++ [a] ++ [b]) c
 rw [List.length_append, List.length_append] at h; exact h
theorem sx11 (H : Heap) (a x : Blk) : (H ++ [a]).set H.length x = H ++ [x] := by simp
theorem sx21 (H : Heap) (a b x : Blk) : (H ++ [a] ++ [b]).set H.length x = H ++ [x] ++ [b] := by simp
theorem sx22 (H : Heap) (a b x : Blk) : (H ++ [a] ++ [b]).set (H.length + 1) x = H ++ [a] ++ [x] := by
 have h := sx11 (H ++ [a]) b x
 rw [List.length_append] at h; exact h
theorem sx33 (H : Heap) (a b c x : Blk) : (H ++ [a] ++ [b] ++ [c]).set (H.length + 1 + 1) x = H ++ [a] ++ [b] ++ [x] := by
 have h := sx11 (H ++ [a] ++ [b]) c x
 rw [List.length_append, List.length_append] at h; exact h
theorem call13 (x : Spec) (h0 : chk x = 0) (hn : ∀ c ∈ x.children.l, c.name.length ≤ 1000000) (H : Heap) : okV (evFun W fi50 [x.av] H) (fun v G => ∃ cv ev o1 o2, v = .tuple [.agg [I 1, cv, .isl (some true) 0 [], .bool false], ev, I 0] ∧ Grow G 2 o1 cv ((List.replicate x.children.l.length start1).map ChildState.av) ∧ Grow G 4 o2 ev ((startL x.children.l.length).map Event.av) ∧ (∀ i, o1 = some i → H.length ≤ i) ∧ (∀ i, o2 = some i → H.length ≤ i) ∧ (∀ i, o1 = some i → o2 ≠ some i) ∧ Kept none H G) := by
 have hc := e31 x hn
 have hlen := chk_len h0
 let H3 : Heap := H ++ [.arr 0 4 false [x.av]] ++ [.arr 0 4 false [.agg [I 0, .isl (some true) 0 [], .isl (some true) 0 [], .bool false]]] ++ [.arr 0 4 false [.agg [I 1, .isl (some true) 0 [], .isl (some true) 0 [], .bool false]]]
 have h3l : H3.length = H.length + 3 := by simp [H3]
 have hL := loop_fold (Φ := Φ) (live := [2, 5, 6, 15, 16]) (L := l50_0) x.children.l (σ := Unit) (fun _ _ s => s) (fun k _ F G => ∃ v u, F = [(2, .optr (H.length + 1) 0 0 0), (5, .optr (H.length + 1 + 1) 0 0 0), (6, u), (15, I x.children.l.length), (16, I k)] ∧ newP H3 (H.length + 1 + 1) k v u G) (fun _ y F G => y = .exit 0 ∧ ∃ v, F.get 2 = .optr (H.length + 1) 0 0 0 ∧ F.get 5 = .optr (H.length + 1 + 1) 0 0 0 ∧ newP H3 (H.length + 1 + 1) x.children.l.length v (F.get 6) G) (s := ()) (F := [(2, .optr (H.length + 1) 0 0 0), (5, .optr (H.length + 1 + 1) 0 0 0), (6, .isl (some true) 0 []), (15, I x.children.l.length), (16, I 0)]) (H := H3) ?_ ?_ ?_
 ·obtain ⟨y, F, G, e1, rfl, v, e2, e3, o1, o2, p1, p2, p3, p4, p5, p6, p7⟩ := okC_iff.1 hL
  have q1 := p2.get (j := H.length + 1) (by simp) (bx32 H _ _ _)
  have hGl := p2.1
  rw [h3l] at hGl p5 p6
  have hs1 : (G.set (H.length + 1) (.arr 0 4 false [.agg [I 1, v, .isl (some true) 0 [], .bool false]]))[H.length + 1]? = some (.arr 0 4 false [.agg [I 1, v, .isl (some true) 0 [], .bool false]]) := gEt (by omega)
  have hk := Kept.set (H.length + 1) G (.arr 0 4 false [.agg [I 1, v, .isl (some true) 0 [], .bool false]])
  have p3 := p3.kept hk (fun id hid e => by cases hid; have := p5 _ e; omega)
  have p4 := p4.kept hk (fun id hid e => by cases hid; have := p6 _ e; omega)
  have hfin : okV (evFun W fi50 [x.av] H) (fun w J => w = .tuple [.agg [I 1, v, .isl (some true) 0 [], .bool false], F.get 6, I 0] ∧ J = G.set (H.length + 1) (.arr 0 4 false [.agg [I 1, v, .isl (some true) 0 [], .bool false]])) := by
   simp only [H3] at e1
   simp [-getElem?_pos, -List.append_assoc, gEz, app_last, bx21, bx22, bx31, bx32, bx33, sx11, sx21, sx22, sx33, fi50, c50, evFun, enterFr, intBin, resV, rvVs, rvV, hc, h0, e1, e2, e3, q1, p1, p3.okO, p3.cells, p3.cell, p4.okO, hs1]
  obtain ⟨w, J, f1, rfl, rfl⟩ := okV_iff.1 hfin
  rw [f1]
  refine ⟨v, F.get 6, o1, o2, rfl, p3, p4, (fun i hi => by have := p5 i hi; omega), (fun i hi => by have := p6 i hi; omega), p7, ?_⟩
  refine ⟨by rw [List.length_set]; omega, fun j _ hj => ?_⟩
  rw [gEn (by omega), p2.2 j (by simp; omega) (by omega)]
  simp only [H3, List.append_assoc]
  rw [gEa hj]
 ·exact ⟨_, _, rfl, none, none, bx33 H _ _ _, Kept.refl _ _, grow_nil _ _, grow_nil _ _, by simp, by simp, by simp⟩
 ·rintro k c ⟨⟩ F G hk hkc ⟨v, u, rfl, hp⟩
  have hw := wrap_succ (k := k) (by omega)
  obtain ⟨v1, G1, a1, a2, a3, a4, a5, a6, u1, G3, b1, b2, b3, b4⟩ := newP_step (by omega) (by omega) hp
  have hp1 : G[H.length + 1 + 1]? = some (.arr 0 4 false [.agg [I 1, v, .isl (some true) 0 [], .bool false]]) := by obtain ⟨o1, o2, p1, _⟩ := hp; exact p1
  have hev : (.agg [I 3, I k, I 0, I 0] : AV) = (⟨3, k, 0, 0⟩ : Event).av := rfl
  simp [evl50_0, b50_0, intBin, hk, hw, hp1, a1, a2, a3, a4, a5, a6, b2, b3, hev, b1]
  exact ⟨v1, b4⟩
 ·rintro ⟨⟩ F G ⟨v, u, rfl, hp⟩
  have hu : okO u = some u := by obtain ⟨o1, o2, _, _, _, p4, _⟩ := hp; exact p4.okO
  simp [evl50_0, b50_0, intBin, hu]
  exact ⟨v, hp⟩
end
section
theorem seen_pairwise {l : List Spec} (ht : TreeOk l) : ∀ i, i ≤ l.length → (seen l i 0).Pairwise (fun y x => sameC x y = false) := by
 intro i
 induction i with
 | zero => intro _; simp [seen]
 | succ i ih =>
  intro hi
  have h1 := ih (by omega)
  have : ∀ c, c ≤ (kids l i).length → (seen l i c).Pairwise (fun y x => sameC x y = false) := by
   intro c
   induction c with
   | zero => intro _; exact h1
   | succ c ihc =>
    intro hc
    have hch := gEg (show c < (kids l i).length by omega)
    rw [seen_succ hch, List.pairwise_append]
    refine ⟨ihc (by omega), by simp, fun y hy x hx => ?_⟩
    simp only [List.mem_singleton] at hx
    subst hx
    exact ht.new i c _ (by omega) hch y hy
  rw [← seen_next]
  exact this _ (Nat.le_refl _)
theorem mem_seen {l : List Spec} {n : Nat} {ch : Child} (h : ch ∈ seen l n 0) : ∃ (i c : Nat), i < n ∧ (kids l i)[c]? = some ch := by
 unfold seen at h
 simp only [List.take_zero, List.append_nil, List.mem_flatMap, List.mem_range] at h
 obtain ⟨i, h1, h2⟩ := h
 obtain ⟨c, hc⟩ := List.getElem?_of_mem h2
 exact ⟨i, c, h1, hc⟩
theorem TreeOk.parent {l : List Spec} (ht : TreeOk l) {k : Nat} (hk : 1 ≤ k ∧ k < l.length) : ∃ i c, SubAt l i c k := by
 have hp := seen_pairwise ht l.length (Nat.le_refl _)
 have hn : (subsOf (seen l l.length 0)).Nodup := by
  unfold subsOf
  rw [List.Nodup, List.pairwise_map]
  have h1 := hp.filter (fun c => !decide (c.sub = -1))
  refine List.Pairwise.imp_of_mem (fun {a b} ha hb hab => ?_) h1
  intro e
  have := (List.mem_filter.1 hb).2
  simp only [sameC, Bool.and_eq_false_iff, decide_eq_false_iff_not, Bool.or_eq_false_iff, Bool.not_eq_false', decide_eq_true_eq] at hab
  rcases hab with h | ⟨h, _⟩
  ·exact h e
  ·simp [h] at this
 have hin : ∀ x ∈ subsOf (seen l l.length 0), ∃ i c, SubAt l i c x.toNat ∧ x = (x.toNat : Int) ∧ 1 ≤ x.toNat ∧ x.toNat < l.length := by
  intro x hx
  unfold subsOf at hx
  obtain ⟨ch, h1, rfl⟩ := List.mem_map.1 hx
  obtain ⟨h1, h2⟩ := List.mem_filter.1 h1
  obtain ⟨i, c, h3, h4⟩ := mem_seen h1
  simp only [Bool.not_eq_true', decide_eq_false_iff_not] at h2
  rcases ht.sub i c ch h3 h4 with h | h
  ·exact absurd h h2
  ·have hs : SubAt l i c ch.sub.toNat := ⟨h3, ch, h4, by omega⟩
   exact ⟨i, c, hs, by omega, by omega, by omega⟩
 by_cases hkk : (k : Int) ∈ subsOf (seen l l.length 0)
 ·obtain ⟨i, c, h1, _⟩ := hin _ hkk
  exact ⟨i, c, by simpa using h1⟩
 ·exfalso
  have h1 := nodup_le (subsOf (seen l l.length 0)) (((List.range (l.length - 1)).map fun j => ((j + 1 : Nat) : Int)).erase (k : Int)) hn (fun x hx => by
   obtain ⟨i, c, _, h2, h3, h4⟩ := hin x hx
   have hne : x ≠ (k : Int) := fun e => hkk (e ▸ hx)
   refine (List.mem_erase_of_ne hne).2 (List.mem_map.2 ⟨x.toNat - 1, by simp; omega, by omega⟩))
  have hmem : (k : Int) ∈ (List.range (l.length - 1)).map fun j => ((j + 1 : Nat) : Int) := List.mem_map.2 ⟨k - 1, by simp; omega, by omega⟩
  rw [List.length_erase_of_mem hmem, List.length_map, List.length_range, subsOf_len, ht.subs] at h1
  omega
open Classical in
noncomputable def up (l : List Spec) (k : Nat) : Nat × Nat := if h : ∃ p : Nat × Nat, SubAt l p.1 p.2 k then h.choose else (0, 0)
theorem up_sub {l : List Spec} (ht : TreeOk l) {k : Nat} (hk : 1 ≤ k ∧ k < l.length) : SubAt l (up l k).1 (up l k).2 k := by
 obtain ⟨i, c, h⟩ := ht.parent hk
 have hh : ∃ p : Nat × Nat, SubAt l p.1 p.2 k := ⟨(i, c), h⟩
 unfold up
 rw [dif_pos hh]
 exact hh.choose_spec
theorem up_eq {l : List Spec} (ht : TreeOk l) {i c k : Nat} (h : SubAt l i c k) : up l k = (i, c) := by
 have hk := h.lt ht
 have := ht.one (up_sub ht (k := k) (by omega)) h
 exact Prod.ext this.1 this.2
theorem t107 (id : Nat) (k : Int) (y : Child) (H : Heap) (h : H[id]? = some (.arr 0 1 false [I k])) : W.call (.clo 82 [] [.optr id 0 0 0]) [y.av] H = some (.bool (decide (y.sub = k)), H ++ [.arr 0 3 false [y.av]]) := by
 rw [W_call Φ82]
 have hid : id < H.length := (gEs.1 h).1
 have h' : ∀ b : Blk, (H ++ [b])[id]? = some (.arr 0 1 false [I k]) := fun b => by rw [gEa hid]; exact h
 simp [-getElem?_pos, gEz, app_last, fi82, c82, evFun, enterFr, intBin, resV, rvVs, rvV, h', sx11]
theorem idxP_spec {α : Type} (p : α → Bool) (l : List α) : (idxP p l = -1 ∧ ∀ x ∈ l, p x = false) ∨ ∃ (j : Nat) (x : α), idxP p l = (j : Int) ∧ l[j]? = some x ∧ p x = true ∧ ∀ (i : Nat) (y : α), i < j → l[i]? = some y → p y = false := by
 unfold idxP
 rcases foldE_unit (fun k a => if p a then (.inr (k : Int) : Unit ⊕ Int) else .inl ()) l 0 with ⟨h1, h2⟩ | ⟨j, a, y, h1, h2, h3, h4⟩
 ·left
  rw [h1]
  refine ⟨rfl, fun x hx => ?_⟩
  obtain ⟨j, hj⟩ := List.getElem?_of_mem hx
  have := h2 j x hj
  split at this
  ·cases this
  ·rename_i h; simpa using h
 ·right
  rw [h3]
  split at h2
  ·cases h2
   refine ⟨j, a, by simp, h1, by assumption, fun i y hi hy => ?_⟩
   have := h4 i y hi hy
   split at this
   ·cases this
   ·rename_i h; simpa using h
  ·cases h2
end
section
theorem find_sub {l : List Spec} {i : Nat} {x : Spec} (hx : l[i]? = some x) (k : Nat) : (idxP (fun y => decide (y.sub = (k : Int))) x.children.l = -1 ∧ ∀ c, ¬ SubAt l i c k) ∨ ∃ c : Nat, idxP (fun y => decide (y.sub = (k : Int))) x.children.l = (c : Int) ∧ SubAt l i c k := by
 have hi := (gEs.1 hx).1
 rcases idxP_spec (fun y : Child => decide (y.sub = (k : Int))) x.children.l with ⟨h1, h2⟩ | ⟨c, ch, h1, h2, h3, _⟩
 ·left
  refine ⟨h1, fun c hs => ?_⟩
  obtain ⟨_, ch, h3, h4⟩ := hs
  rw [kids_of hx] at h3
  have := h2 ch (List.mem_of_getElem? h3)
  simp [h4] at this
 ·right
  exact ⟨c, h1, hi, ch, by rw [kids_of hx]; exact h2, by simpa using h3⟩
section
attribute [local irreducible] okC okV
theorem t96 {l : Sl Spec} (ht : TreeOk l.l) {k : Nat} (hk : 1 ≤ k ∧ k < l.l.length) : W.pure 63 [specs l, I k] = some (plA (up l.l k)) := by
 obtain ⟨pi, pc, hpar⟩ := ht.parent hk
 have hup := up_eq ht hpar
 rw [hup, W_pure Φ63 (by simp)]
 have hL := loop_all (Φ := Φ) (live := [3, 4, 8, 9, 10]) (L := l63_0) l.l (fun i x _ => if 0 ≤ idxP (fun y : Child => decide (y.sub = (k : Int))) x.children.l then (.inr ((i : Int), idxP (fun y : Child => decide (y.sub = (k : Int))) x.children.l) : Unit ⊕ (Int × Int)) else .inl ())
  (fun i _ F G => F = [(3, .optr 0 0 0 0), (4, .optr 1 0 0 0), (8, specs l), (9, I l.l.length), (10, I i)] ∧ G[0]? = some (.arr 0 1 false [I k]) ∧ G[1]? = some (.arr 0 2 false [.agg [I 0, I 0]]))
  (fun r y F G => y = .ret ∧ F.get 4 = .optr 1 0 0 0 ∧ G[1]? = some (.arr 0 2 false [.agg [I r.1, I r.2]])) (fun _ y F G => y = .exit 0 ∧ F.get 4 = .optr 1 0 0 0 ∧ G[1]? = some (.arr 0 2 false [.agg [I 0, I 0]])) (s := ()) (H := [.arr 0 1 false [I k], .arr 0 2 false [.agg [I 0, I 0]]]) ⟨rfl, rfl, rfl⟩ ?_ ?_
 ·simp only [Int.natCast_zero] at hL
  rcases foldE_unit (fun i (x : Spec) => if 0 ≤ idxP (fun y : Child => decide (y.sub = (k : Int))) x.children.l then (.inr ((i : Int), idxP (fun y : Child => decide (y.sub = (k : Int))) x.children.l) : Unit ⊕ (Int × Int)) else .inl ()) l.l 0 with ⟨g1, g2⟩ | ⟨j, x, r, g1, g2, g3, g4⟩
  ·exfalso
   have hpl := hpar.1
   have hx := gEg hpl
   have := g2 pi _ hx
   rcases find_sub hx k with ⟨_, h⟩ | ⟨c, h, _⟩
   ·exact h pc hpar
   ·rw [h, if_pos (by omega)] at this; cases this
  ·rw [g3] at hL
   rcases find_sub g1 k with ⟨h, _⟩ | ⟨c, h, hs⟩
   ·rw [h, if_neg (by omega)] at g2; cases g2
   ·rw [h, if_pos (by omega)] at g2
    simp only [Sum.inr.injEq] at g2
    obtain ⟨rfl, rfl⟩ := ht.one hs hpar
    subst g2
    obtain ⟨y, F', H', e1, rfl, e2, e3⟩ := okC_iff.1 hL
    simp only [Nat.zero_add] at e3
    simp [-getElem?_pos, gEz, fi63, c63, evFun, enterFr, intBin, resV, rvVs, rvV, e1, e2, e3, plA]
 ·rintro i x ⟨⟩ F G hi hx ⟨rfl, h0, h1⟩
  have hw := wrap_succ (k := i) (by have := ht.len.2; omega)
  have hlen := chk_len (ht.ok i x hx)
  have h0' := app_get h0
  have h1' := app_get h1
  have hf := e70 (.clo 82 [] [.optr 0 0 0 0]) rfl (fun y => decide (y.sub = (k : Int))) (fun G => G[0]? = some (.arr 0 1 false [I k]) ∧ G[1]? = some (.arr 0 2 false [.agg [I 0, I 0]])) (fun y H hH => by
   rw [t107 0 k y H hH.1]
   exact okV_iff.2 ⟨_, _, rfl, rfl, app_get hH.1 _, app_get hH.2 _⟩) x.children.nl (if x.children.l.isEmpty then x.children.z else 3) x.children.l (fun h => if_neg (by simpa using h)) (by omega) (G ++ [.arr 0 4 false [x.av]]) ⟨h0' _, h1' _⟩
  obtain ⟨v, G', f1, rfl, f2, f3⟩ := okV_iff.1 hf
  have f1' : W.call (.clo 74 [] []) [Sl.av Child.av 3 x.children, .clo 82 [] [.optr 0 0 0 0]] (G ++ [.arr 0 4 false [x.av]]) = some (I (idxP (fun y => decide (y.sub = (k : Int))) x.children.l), G') := f1
  have hb : 1 < G'.length := (gEs.1 f3).1
  have hset : (G'.set 1 (.arr 0 2 false [.agg [I i, I (idxP (fun y => decide (y.sub = (k : Int))) x.children.l)]]))[1]? = some (.arr 0 2 false [.agg [I i, I (idxP (fun y => decide (y.sub = (k : Int))) x.children.l)]]) := gEt hb
  generalize idxP (fun y : Child => decide (y.sub = (k : Int))) x.children.l = q at *
  by_cases hq : 0 ≤ q
  ·rw [if_pos hq]
   simp [-getElem?_pos, gEz, app_last, sx11, evl63_0, b63_0, intBin, hi, hx, hw, f1', hq, f3]
   exact hset
  ·rw [if_neg hq]
   simp [-getElem?_pos, gEz, app_last, sx11, evl63_0, b63_0, intBin, hi, hx, hw, f1', hq]
   exact ⟨f2, f3⟩
 ·rintro ⟨⟩ F G ⟨rfl, h0, h1⟩
  simp [evl63_0, b63_0, intBin]
  exact h1
theorem t82 (r : Sl (Nat × Nat)) (hr : r.l.length ≤ 1000) (i : Nat) (c : Int) : W.pure 73 [Sl.av plA 2 r, .agg [I i, I c]] = some (I (numW r.l (i, c))) := by
 rw [W_pure Φ73 (by simp)]
 have hL := loop_all (Φ := Φ) (live := [0, 3, 7, 8]) (L := l73_0) r.l (fun k q _ => if decide (q.1 = i) && decide ((q.2 : Int) = c) then (.inr (k : Int) : Unit ⊕ Int) else .inl ())
  (fun k _ F G => F = [(0, Sl.av plA 2 r), (3, .optr 0 0 0 0), (7, I r.l.length), (8, I k)] ∧ G = [.arr 0 2 false [.agg [I i, I c]]])
  (fun k y F G => y = .ret ∧ F.get 4 = I k) (fun _ y F G => y = .exit 0) (s := ()) ⟨rfl, rfl⟩ ?_ ?_
 ·simp only [Int.natCast_zero] at hL
  unfold numW idxP
  cases hf : foldE (fun k (q : Nat × Nat) (_ : Unit) => if decide (q.1 = i) && decide ((q.2 : Int) = c) then (.inr (k : Int) : Unit ⊕ Int) else .inl ()) 0 r.l () with
  | inl u =>
   rw [hf] at hL
   obtain ⟨y, F', H', e1, rfl⟩ := okC_iff.1 hL
   simp [fi73, c73, evFun, enterFr, intBin, resV, rvVs, rvV, e1, hf]
  | inr k =>
   rw [hf] at hL
   obtain ⟨y, F', H', e1, rfl, e2⟩ := okC_iff.1 hL
   simp [fi73, c73, evFun, enterFr, intBin, resV, rvVs, rvV, e1, e2, hf]
 ·rintro k q ⟨⟩ F G hk hq ⟨rfl, rfl⟩
  have hw := wrap_succ (k := k) (by omega)
  have hqa : plA q = .agg [I q.1, I q.2] := rfl
  have hkq : r.l[k] = q := (gEs.1 hq).2
  by_cases h1 : q.1 = i
  ·subst h1
   by_cases h2 : (q.2 : Int) = c
   ·subst h2
    simp [evl73_0, b73_0, intBin, hk, hkq, hw, hqa, eqsV, eqCells, eqCell]
   ·have h2' : ¬ c = (q.2 : Int) := fun e => h2 e.symm
    simp [evl73_0, b73_0, intBin, hk, hkq, hw, hqa, h2, h2', eqsV, eqCells, eqCell]
  ·have h1' : ¬ (i : Int) = (q.1 : Int) := by omega
   simp [evl73_0, b73_0, intBin, hk, hkq, hw, hqa, h1, h1', eqsV, eqCells, eqCell]
 ·rintro ⟨⟩ F G ⟨rfl, rfl⟩
  simp [evl73_0, b73_0, intBin]
end
end
end Go.Proofs.YtjknjapdcphcfaaGreat
