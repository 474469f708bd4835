/-
  Spend, as the program has it (conditions: none).
-/
import Derived.Test.YtpooicjhhogknaaS1
import Derived.Test.YtpooicjhhogknaaOwn
namespace Go.Proofs.Ytpooicjhhogknaa
open Go Go.RowKit
set_option linter.unusedVariables false
set_option linter.unusedSimpArgs false
set_option maxRecDepth 10000

/-- Is a step taken from scope s, number k? -/
def takes (c : List Int) (k : Int) (s : Sc) : Bool := decide (0 < s.budget) && decide (k ∈ c)
def spendS (c : List Int) (k : Int) (s : Sc) : Sc := if takes c k s = true then { s with budget := s.budget - 1 } else s
def spendL (c : List Int) : List Sc → Nat → List Sc
  | [], _ => []
  | s :: r, k => spendS c k s :: spendL c r (k + 1)
/-- The scopes whose budgets are used up. -/
def usedL (c : List Int) : List Sc → Nat → List Int
  | [], _ => []
  | s :: r, k => if takes c k s = true ∧ s.budget = 1 then (k : Int) :: usedL c r (k + 1) else usedL c r (k + 1)
def spStep (c : List Int) (k : Nat) (s : Sc) (x : List Sc × List Int) : List Sc × List Int := (x.1.set k (spendS c k s), if takes c k s = true ∧ s.budget = 1 then x.2 ++ [(k : Int)] else x.2)
theorem spFold (c : List Int) : ∀ (r : List Sc) (p : List Sc) (u : List Int), (r.zipIdx p.length).foldl (fun x a => spStep c a.2 a.1 x) (p ++ r, u) = (p ++ spendL c r p.length, u ++ usedL c r p.length) := by
  intro r
  induction r with
  | nil => intro p u; simp [spendL, usedL]
  | cons s r ih =>
    intro p u
    have := ih (p ++ [spendS c p.length s]) (if takes c p.length s = true ∧ s.budget = 1 then u ++ [(p.length : Int)] else u)
    simp only [List.length_append, List.length_singleton, List.append_assoc, List.singleton_append] at this
    simp only [List.zipIdx_cons, List.foldl_cons, spStep]
    rw [List.set_append_right _ _ (Nat.le_refl _)]
    simp only [Nat.sub_self, List.set_cons_zero]
    simp only [spStep] at this
    rw [this]
    simp only [spendL, usedL]
    split <;> simp
theorem set_same {α : Type} {l : List α} {k : Nat} {x : α} (h : l[k]? = some x) : l.set k x = l := by
  obtain ⟨h1, h2⟩ := List.getElem?_eq_some_iff.1 h
  rw [← h2]; exact List.set_getElem_self h1
/-- What a turn of Spend keeps. -/
def spP (a : Option Bool) (c : List Int) (l : List Sc) (k : Nat) (x : List Sc × List Int) (F : Fr) (H : Heap) : Prop :=
  ∃ v o, F = [(1, .isl a 1 (c.map I)), (6, .osl 0 l.length 0 l.length), (7, v), (15, I l.length), (16, I k)] ∧ H[0]? = some (.arr l.length 7 false (x.1.map Sc.av)) ∧ x.1.length = l.length ∧ (∀ j, k ≤ j → x.1[j]? = l[j]?) ∧ Grow H 1 o v (x.2.map I) ∧ o ≠ some 0 ∧ x.2.length ≤ k
theorem loop34 (a : Option Bool) (c : List Int) (hc : c.length ≤ 1000000) (l : List Sc) (hl : l.length ≤ 1000) (hb : ∀ s ∈ l, s.budget ≤ 1099511627776) {F : Fr} {H : Heap} (h0 : spP a c l 0 (l, []) F H) :
    okC (W.loop [1, 6, 7, 15, 16] l34_0 F H) (fun x F' H' => x = .exit 0 ∧ ∃ v o, F'.get 6 = .osl 0 l.length 0 l.length ∧ F'.get 7 = v ∧ H'[0]? = some (.arr l.length 7 false ((spendL c l 0).map Sc.av)) ∧ Grow H' 1 o v ((usedL c l 0).map I) ∧ (spendL c l 0).length = l.length) := by
  have hf := spFold c l [] []
  simp only [List.length_nil, List.nil_append] at hf
  have := loop_fold (Φ := Φ) (live := [1, 6, 7, 15, 16]) (L := l34_0) l (spStep c) (spP a c l) (fun x y F' H' => y = .exit 0 ∧ ∃ v o, F'.get 6 = .osl 0 l.length 0 l.length ∧ F'.get 7 = v ∧ H'[0]? = some (.arr l.length 7 false (x.1.map Sc.av)) ∧ Grow H' 1 o v (x.2.map I) ∧ x.1.length = l.length) h0 ?_ ?_
  · rw [hf] at this; exact this
  · rintro k s ⟨out, u⟩ F H hk hs ⟨v, o, rfl, h1, h2, h3, h4, h5, h6⟩
    have hw := wrap_succ (k := k) (by omega)
    have h57 := e57 a c k hc
    have hok : out[k]? = some s := by rw [h3 k (Nat.le_refl _), hs]
    simp only at h1 h2 h4 h6
    have h0' : 0 < H.length := (List.getElem?_eq_some_iff.1 h1).1
    have hko : k < out.length := by omega
    have hok' : out[k] = s := (List.getElem?_eq_some_iff.1 hok).2
    have hn : takes c k s = false → okC (evC W l34_0 (Fr.keep [(1, .isl a 1 (c.map I)), (6, .osl 0 l.length 0 l.length), (7, v), (15, I l.length), (16, I k)] [1, 6, 7, 15, 16]) H) fun x F' H' => x = LX.normal ∧ spP a c l (k + 1) (spStep c k s (out, u)) (F'.keep [1, 6, 7, 15, 16]) H' := by
      intro ht
      have hsp : spStep c k s (out, u) = (out, u) := by simp [spStep, spendS, ht, set_same hok]
      rw [hsp]
      have hcond : s.budget ≤ 0 ∨ 0 < s.budget ∧ (k : Int) ∉ c := by
        simp [takes] at ht
        by_cases h : s.budget ≤ 0
        · exact .inl h
        · exact .inr ⟨by omega, ht (by omega)⟩
      have hP : spP a c l (k + 1) (out, u) [(1, .isl a 1 (c.map I)), (6, .osl 0 l.length 0 l.length), (7, v), (15, I l.length), (16, I ((k : Int) + 1))] H := ⟨v, o, by simp, h1, h2, fun j hj => h3 j (by omega), h4, h5, by simp only; omega⟩
      rcases hcond with hb | ⟨hb, hm⟩
      · simp [evl34_0, b34_0, intBin, hk, hko, h1, h2, hok', hb, hw, idxaV, h4.okO, hP]
      · have hb' : ¬ s.budget ≤ 0 := by omega
        simp [evl34_0, b34_0, intBin, hk, hko, h1, h2, hok', hb', hm, h57, hw, idxaV, h4.okO, hP]
    by_cases ht : takes c k s = true
    · have ht' := ht
      simp only [takes, Bool.and_eq_true, decide_eq_true_eq] at ht'
      obtain ⟨hb0, hm⟩ := ht'
      have hb' : ¬ s.budget ≤ 0 := by omega
      have hbm := hb s (List.mem_of_getElem? hs)
      have hwb : IntKind.wrap .i64 (s.budget - 1) = s.budget - 1 := by rw [wrap64] <;> omega
      have hsp : spendS c k s = { s with budget := s.budget - 1 } := by simp [spendS, ht]
      obtain ⟨t, ht2⟩ : ∃ t, { s with budget := s.budget - 1 } = t := ⟨_, rfl⟩
      rw [ht2] at hsp
      have htav : t.av = .agg [I s.parent, I s.owner, I s.children, I s.reason, I s.deadline, I (s.budget - 1), .bool s.closed] := by rw [← ht2]; rfl
      have hkept := Kept.set 0 H (.arr l.length 7 false ((out.set k t).map Sc.av))
      have hg := h4.kept hkept (fun id hid => by cases hid; exact h5)
      have hset : (H.set 0 (.arr l.length 7 false ((out.set k t).map Sc.av)))[0]? = some (.arr l.length 7 false ((out.set k t).map Sc.av)) := List.getElem?_set_self h0'
      have hin : ∀ j, k + 1 ≤ j → (out.set k t)[j]? = l[j]? := fun j hj => by rw [List.getElem?_set_ne (by omega)]; exact h3 j (by omega)
      obtain ⟨o', v', H', a1, a2, a3, a4, a5⟩ := hg.app (y := .isl (some false) 1 [I k]) (xs := [I k]) (by simp) (by simp) (by simp [appRoom]; omega)
      have hke := a3.get (j := 0) h5 hset
      have ho' : o' ≠ some 0 := by
        rcases a4 with rfl | ⟨rfl, rfl, _⟩
        · exact h5
        · intro e; have e' := Option.some.inj e; rw [List.length_set] at e'; omega
      have hset' := hset
      subst ht2
      simp only [List.map_set, Sc.av] at hset a1
      by_cases h1b : s.budget = 1
      · have hsu : spStep c k s (out, u) = (out.set k { s with budget := s.budget - 1 }, u ++ [(k : Int)]) := by simp [spStep, ht, h1b, hsp]
        rw [hsu]
        have hP : spP a c l (k + 1) (out.set k { s with budget := s.budget - 1 }, u ++ [(k : Int)]) [(1, .isl a 1 (c.map I)), (6, .osl 0 l.length 0 l.length), (7, v'), (15, I l.length), (16, I ((k : Int) + 1))] H' := ⟨v', o', by simp, hke, by simpa using h2, hin, by simpa using a2, ho', by simpa using h6⟩
        have hd : decide (s.budget = 1) = true := by simpa using h1b
        have hd2 : decide (s.budget - 1 = 0) = true := by simp; omega
        simp [evl34_0, b34_0, intBin, hk, hko, h1, h2, hok', hb', hm, h57, hw, hwb, hd, hd2, idxaV, h4.okO, exS, exB, bslE, setElem, splice, List.map_set, hset, a1, a2.okO, hP]
      · have hsu : spStep c k s (out, u) = (out.set k { s with budget := s.budget - 1 }, u) := by simp [spStep, ht, h1b, hsp]
        rw [hsu]
        have hP : spP a c l (k + 1) (out.set k { s with budget := s.budget - 1 }, u) [(1, .isl a 1 (c.map I)), (6, .osl 0 l.length 0 l.length), (7, v), (15, I l.length), (16, I ((k : Int) + 1))] (H.set 0 (.arr l.length 7 false ((out.set k { s with budget := s.budget - 1 }).map Sc.av))) := ⟨v, o, by simp, hset', by simpa using h2, hin, hg, h5, by simp only; omega⟩
        have hd : decide (s.budget = 1) = false := by simpa using h1b
        have hd2 : decide (s.budget - 1 = 0) = false := by simp; omega
        simp only [List.map_set, Sc.av] at hP
        simp [evl34_0, b34_0, intBin, hk, hko, h1, h2, hok', hb', hm, h57, hw, hwb, hd, hd2, idxaV, h4.okO, exS, exB, bslE, setElem, splice, List.map_set, hset, hP]
    · exact hn (by simpa using ht)
  · rintro ⟨out, u⟩ F H ⟨v, o, rfl, h1, h2, h3, h4, h5, h6⟩
    simp [evl34_0, b34_0, intBin, h4.okO]
    exact ⟨h1, ⟨o, h4⟩, h2⟩
end Go.Proofs.Ytpooicjhhogknaa
