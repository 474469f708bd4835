/-
  The law ScopeCounts, evaluated: true (conditions: none).
-/
import Derived.Test.YtpooicjhhogknaaV4
namespace Go.Proofs.Ytpooicjhhogknaa
open Go Go.RowKit
set_option linter.unusedVariables false
set_option linter.unusedSimpArgs false
set_option maxRecDepth 10000

/-- Is an open scope, other than i, within scope i? -/
def opens (l : List Sc) (i : Int) : List Sc → Nat → Bool
  | [], _ => false
  | x :: r, k => (decide ((k : Int) ≠ i) && !x.closed && within l k i) || opens l i r (k + 1)
theorem loop8 (nl : Option Bool) (l : List Sc) (hl : l.length ≤ 100) (i : Int) (t : Bool) (H : Heap) :
    okC (W.loop [0, 1, 11, 82, 83, 84] l8_0 [(0, scs nl l), (1, I i), (11, .bool t), (82, scs nl l), (83, I l.length), (84, I 0)] H) (fun x F' H' => x = .exit 0 ∧ F'.get 0 = scs nl l ∧ F'.get 1 = I i ∧ F'.get 11 = .bool (t || opens l i l 0)) := by
  have key : ∀ (r : List Sc) (k : Nat) (t : Bool), (r.zipIdx k).foldl (fun s p => s || (decide ((p.2 : Int) ≠ i) && !p.1.closed && within l p.2 i)) t = (t || opens l i r k) := by
    intro r
    induction r with
    | nil => intro k t; simp [opens]
    | cons x r ih => intro k t; rw [List.zipIdx_cons, List.foldl_cons, ih]; simp only [opens, Bool.or_assoc]
  have := loop_fold (Φ := Φ) (live := [0, 1, 11, 82, 83, 84]) (L := l8_0) l (fun k x (s : Bool) => s || (decide ((k : Int) ≠ i) && !x.closed && within l k i)) (fun k s F H => F = [(0, scs nl l), (1, I i), (11, .bool s), (82, scs nl l), (83, I l.length), (84, I k)]) (fun s x F' H => x = .exit 0 ∧ F'.get 0 = scs nl l ∧ F'.get 1 = I i ∧ F'.get 11 = .bool s) (s := t) (H := H) rfl ?_ ?_
  · rw [key] at this; exact this
  · rintro k x s F H hk hx rfl
    have hw := wrap_succ (k := k) (by omega)
    have hkx : l[k] = x := (List.getElem?_eq_some_iff.1 hx).2
    have c := e17 nl l k i
    by_cases h1 : (k : Int) = i
    · subst h1
      cases s <;> simp [evl8_0, b8_0, intBin, hk, hkx, hw, splice, setElem]
    · cases s <;> cases h2 : x.closed <;> simp [evl8_0, b8_0, intBin, hk, hkx, hw, splice, setElem, c, h1, h2]
  · rintro s F H rfl
    simp [evl8_0, b8_0, intBin]
/-- In a tree an open scope lies in open ones alone. -/
theorem open_up {l : List Sc} (hc : check l = 0) {i : Int} (h0 : 0 ≤ i) (hi : i < l.length) : ∀ (k : Int), -1 ≤ k → k < l.length → i ∈ anc l k → k ≠ i → (∃ x, l[k.toNat]? = some x ∧ x.closed = false) → ∃ x ∈ l, x.parent = i ∧ x.closed = false := by
  intro k h1 h2
  refine anc_induct hc (p := fun k => i ∈ anc l k → k ≠ i → (∃ x, l[k.toNat]? = some x ∧ x.closed = false) → ∃ x ∈ l, x.parent = i ∧ x.closed = false) ?_ ?_ l.length k h1 h2 (Nat.le_refl _)
  · rw [anc_neg l (by omega)]; intro h; simp at h
  · rintro k h1 h2 ih hm hne ⟨x, hx, hxc⟩
    rw [anc_cons hc h1 h2] at hm
    rcases List.mem_cons.1 hm with h | h
    · exact absurd h.symm hne
    · have hpar : par l k = x.parent := by simp [par, hx]
      by_cases hp : x.parent = i
      · exact ⟨x, List.mem_of_getElem? hx, hp, hxc⟩
      · have hk0 : 0 < k.toNat := by
          by_cases h0 : k = 0
          · have := (par_spec hc h1 h2).2.2.1 h0
            rw [this, anc_neg l (by omega)] at h; simp at h
          · omega
        have hps := par_spec hc h1 h2
        have hg := (check_good hc hx).2.2
        have hpl : (par l k).toNat < l.length := by omega
        refine ih h (by rw [hpar]; exact hp) ⟨l[(par l k).toNat], List.getElem?_eq_getElem hpl, ?_⟩
        cases hcl : l[(par l k).toNat].closed with
        | false => rfl
        | true =>
          exfalso
          apply hg
          refine ⟨hxc, hk0, ?_⟩
          unfold pclosed
          rw [← hpar, List.getElem?_eq_getElem hpl]
          exact hcl
theorem opens_iff (l : List Sc) (i : Int) : ∀ (r : List Sc) (k : Nat), opens l i r k = true ↔ ∃ (j : Nat) (x : Sc), r[j]? = some x ∧ ((k + j : Nat) : Int) ≠ i ∧ x.closed = false ∧ within l ((k + j : Nat) : Int) i = true := by
  intro r
  induction r with
  | nil => intro k; simp [opens]
  | cons x r ih =>
    intro k
    simp only [opens, Bool.or_eq_true, ih, Bool.and_eq_true, decide_eq_true_eq, Bool.not_eq_true']
    constructor
    · rintro (⟨⟨h1, h2⟩, h3⟩ | ⟨j, y, h1, h2, h3, h4⟩)
      · exact ⟨0, x, rfl, by simpa using h1, h2, by simpa using h3⟩
      · exact ⟨j + 1, y, by simpa using h1, by rw [show k + (j + 1) = k + 1 + j by omega]; exact h2, h3, by rw [show k + (j + 1) = k + 1 + j by omega]; exact h4⟩
    · rintro ⟨j, y, h1, h2, h3, h4⟩
      cases j with
      | zero => simp at h1; subst h1; exact .inl ⟨⟨by simpa using h2, h3⟩, by simpa using h4⟩
      | succ j => exact .inr ⟨j, y, by simpa using h1, by rw [show k + 1 + j = k + (j + 1) by omega]; exact h2, h3, by rw [show k + 1 + j = k + (j + 1) by omega]; exact h4⟩
theorem opens_any {l : List Sc} (hc : check l = 0) {i : Nat} (hi : i < l.length) : opens l i l 0 = l.any (openP i) := by
  rw [Bool.eq_iff_iff, opens_iff, List.any_eq_true]
  simp only [Nat.zero_add]
  constructor
  · rintro ⟨j, x, h1, h2, h3, h4⟩
    have hj : j < l.length := (List.getElem?_eq_some_iff.1 h1).1
    rw [within_anc hc (by omega) (by omega)] at h4
    obtain ⟨y, q1, q2, q3⟩ := open_up hc (i := (i : Int)) (by omega) (by omega) (j : Int) (by omega) (by omega) (by simpa using h4) h2 ⟨x, by simpa using h1, h3⟩
    exact ⟨y, q1, by simp [openP, q2, q3]⟩
  · rintro ⟨x, h1, h2⟩
    simp only [openP, Bool.and_eq_true, decide_eq_true_eq, Bool.not_eq_true'] at h2
    obtain ⟨j, hj⟩ := List.getElem?_of_mem h1
    have hjl : j < l.length := (List.getElem?_eq_some_iff.1 hj).1
    have hp := check_par hc hj
    have hpar : par l j = x.parent := by simp [par, hj]
    refine ⟨j, x, hj, ?_, h2.2, ?_⟩
    · intro e; have := hp.2.1; omega
    · rw [within_anc hc (by omega) (by omega), anc_cons hc (by omega) (by omega), hpar, h2.1, anc_cons hc (i := (i : Int)) (by omega) (by omega)]
      simp
theorem e8 (b : Bool) (l : List Sc) (hb : b = true → l = []) (i : Int) : W.pure 8 [scs (some b) l, I i] = some (.bool true) := by
  rw [W_pure Φ8 rfl]
  have h12 := e12 (some b) l
  have h13 := e13 (some b) l
  have h14 := e14
  by_cases hg : great l = true
  · rw [hg] at h12
    simp [fi8, c8, evFun, enterFr, intBin, resV, rvVs, rvV, h12, h14]
  · rw [show great l = false by simpa using hg] at h12
    by_cases h0 : check l = 0
    · rw [h0] at h13
      by_cases hr : i < 0 ∨ (l.length : Int) ≤ i
      · rcases hr with h | h
        · simp [fi8, c8, evFun, enterFr, intBin, resV, rvVs, rvV, h12, h13, h14, h]
        · simp [fi8, c8, evFun, enterFr, intBin, resV, rvVs, rvV, h12, h13, h14, h]
      · have hlen := check_len h0
        have hb' : b = false := by
          cases b with
          | false => rfl
          | true => exact absurd (hb rfl) (nonempty_of_check h0)
        subst hb'
        obtain ⟨k, rfl⟩ : ∃ k : Nat, i = k := ⟨i.toNat, by omega⟩
        have hk : k < l.length := by omega
        obtain ⟨s, hs⟩ : ∃ s, l[k] = s := ⟨_, rfl⟩
        have hs' : l[k]? = some s := by rw [List.getElem?_eq_getElem hk, hs]
        have hwf := children_wf h0 hs'
        have hgd := check_good h0 hs'
        have hlk : ∀ m : List Sc, check m = 0 → m.length = l.length → locate m k = 0 := by
          intro m hm hml; unfold locate; rw [if_neg (by simpa using hm), if_neg (by omega)]
        have hkk : ¬ (k : Int) < 0 := by omega
        have hkl : ¬ (l.length : Int) ≤ k := by omega
        have hkl' : ¬ l.length ≤ k := by omega
        have s0 := e20 (some false) (some false) l l (by omega)
        -- entering, and leaving again
        have hent : ∃ v e v1 e1 v2 e2, W.pure 24 [scs (some false) l, I k] = some (.tuple [v, I e]) ∧ okO v = some v ∧ (e = 0 → W.pure 26 [v, I k] = some (.tuple [v1, I e1]) ∧ W.pure 32 [v, I k] = some (.tuple [v2, I e2]) ∧ e1 = 0 ∧ v1 = scs (some false) l ∧ okO v2 = some v2 ∧ e2 = 17) := by
          have h24 := e24 false l hb k
          unfold enterV at h24
          rw [if_neg (by simpa using hlk l h0 rfl)] at h24
          simp only [Int.toNat_natCast] at h24
          rw [hs'] at h24
          simp only at h24
          by_cases hc : s.closed = true
          · rw [if_pos hc] at h24
            exact ⟨_, _, .bad, 0, .bad, 0, h24, rfl, fun h => by cases h⟩
          · rw [if_neg hc] at h24
            by_cases h16 : s.children = 16
            · rw [if_pos h16] at h24
              exact ⟨_, _, .bad, 0, .bad, 0, h24, rfl, fun h => by cases h⟩
            · rw [if_neg h16] at h24
              have hm := check_children h0 hs' (s.children + 1) (by omega) (fun h => absurd h hc)
              generalize hmm : l.set k { s with children := s.children + 1 } = m at *
              have hml : m.length = l.length := by rw [← hmm]; simp
              have hmk : m[k]? = some { s with children := s.children + 1 } := by rw [← hmm]; exact List.getElem?_set_self hk
              have h26 := e26 false m (fun h => by cases h) k
              unfold leaveV at h26
              rw [if_neg (by simpa using hlk m hm hml)] at h26
              simp only [Int.toNat_natCast] at h26
              rw [hmk] at h26
              simp only at h26
              rw [if_neg (by omega)] at h26
              have h32 := e32 false m (fun h => by cases h) k
              unfold closeV at h32
              rw [if_neg (by simpa using hlk m hm hml)] at h32
              simp only [Int.toNat_natCast] at h32
              rw [hmk] at h32
              simp only at h32
              rw [if_pos (.inr (.inl (by omega)))] at h32
              refine ⟨_, _, _, _, _, _, h24, rfl, fun _ => ⟨h26, h32, rfl, ?_, rfl, rfl⟩⟩
              rw [← hmm, List.set_set]
              congr 1
              have : ({ s with children := s.children + 1 - 1 } : Sc) = s := by
                have e : s.children + 1 - 1 = s.children := by omega
                rw [e]
              rw [this, set_same hs']
        obtain ⟨v, e, v1, e1, v2, e2, q1, q2, q3⟩ := hent
        obtain ⟨x, F', H', r1, rfl, r2, r3, r4⟩ := okC_iff.1 (loop8 (some false) l (by omega) k (decide (0 < s.children)) [])
        rw [opens_any h0 hk] at r4
        have h32 := e32 false l hb k
        unfold closeV at h32
        rw [if_neg (by simpa using hlk l h0 rfl)] at h32
        simp only [Int.toNat_natCast] at h32
        rw [hs'] at h32
        simp only at h32
        generalize hop : l.any (openP k) = op at *
        by_cases hd : s.closed = true ∨ 0 < s.children ∨ op = true
        · rw [if_pos hd] at h32
          have hcond : ((!(decide (0 < s.children) || op)) && !s.closed) = false := by
            rcases hd with h | h | h <;> simp [h]
          by_cases he : e = 0
          · obtain ⟨t1, t2, rfl, rfl, t3, rfl⟩ := q3 he
            cases hcl : s.closed <;> rw [hcl] at hcond
            · have hor : (decide (0 < s.children) || op) = true := by
                rcases hd with h | h | h
                · rw [hcl] at h; cases h
                · simp [h]
                · simp [h]
              rw [hor] at r4
              simp [fi8, c8, evFun, enterFr, intBin, resV, rvVs, rvV, h12, h13, h14, hkk, hkl, hkl', hk, hs, q1, q2, he, t1, t2, t3, s0, r1, r2, r3, r4, h32, nilS, hcl]
            · generalize (decide (0 < s.children) || op) = z at r4
              cases z <;> simp [fi8, c8, evFun, enterFr, intBin, resV, rvVs, rvV, h12, h13, h14, hkk, hkl, hkl', hk, hs, q1, q2, he, t1, t2, t3, s0, r1, r2, r3, r4, h32, nilS, hcl]
          · cases hcl : s.closed <;> rw [hcl] at hcond
            · have hor : (decide (0 < s.children) || op) = true := by
                rcases hd with h | h | h
                · rw [hcl] at h; cases h
                · simp [h]
                · simp [h]
              rw [hor] at r4
              simp [fi8, c8, evFun, enterFr, intBin, resV, rvVs, rvV, h12, h13, h14, hkk, hkl, hkl', hk, hs, q1, q2, he, s0, r1, r2, r3, r4, h32, nilS, hcl]
            · generalize (decide (0 < s.children) || op) = z at r4
              cases z <;> simp [fi8, c8, evFun, enterFr, intBin, resV, rvVs, rvV, h12, h13, h14, hkk, hkl, hkl', hk, hs, q1, q2, he, s0, r1, r2, r3, r4, h32, nilS, hcl]
        · rw [if_neg hd] at h32
          have hcl : s.closed = false := by
            cases h : s.closed with
            | false => rfl
            | true => exact absurd (.inl h) hd
          have hch : ¬ 0 < s.children := fun h => hd (.inr (.inl h))
          have hop' : op = false := by
            cases h : op with
            | false => rfl
            | true => exact absurd (.inr (.inr h)) hd
          subst hop'
          have hm := check_close h0 hs' (by omega) hop
          rw [show (decide (0 < s.children) || false) = false by simp; omega] at r4
          generalize hmm : l.set k { s with closed := true } = m at *
          have hml : m.length = l.length := by rw [← hmm]; simp
          have hmk : m[k]? = some { s with closed := true } := by rw [← hmm]; exact List.getElem?_set_self hk
          have f1 := e32 false m (fun h => by cases h) k
          unfold closeV at f1
          rw [if_neg (by simpa using hlk m hm hml)] at f1
          simp only [Int.toNat_natCast] at f1
          rw [hmk] at f1
          simp only [true_or, if_true] at f1
          have f2 := e24 false m (fun h => by cases h) k
          unfold enterV at f2
          rw [if_neg (by simpa using hlk m hm hml)] at f2
          simp only [Int.toNat_natCast] at f2
          rw [hmk] at f2
          simp only [if_true] at f2
          have f3 := e22 false m (fun h => by cases h) k 0 0 (-1)
          rw [openV_eq] at f3
          unfold openZ at f3
          rw [if_neg (by simpa using hm), if_neg (by simp [limitsB]; omega)] at f3
          simp only [Int.toNat_natCast] at f3
          rw [hmk] at f3
          simp only [if_true] at f3
          have f4 := e18 false m (fun h => by cases h) k 1
          rw [cancelV_eq] at f4
          unfold cancelZ at f4
          rw [if_neg (by simpa using hlk m hm hml), if_neg (by simp [reasonB])] at f4
          simp only [Int.toNat_natCast] at f4
          rw [hmk] at f4
          simp only [or_true, if_true] at f4
          have s1 := e20 (some false) (some false) m m (by omega)
          by_cases he : e = 0
          · obtain ⟨t1, t2, rfl, rfl, t3, rfl⟩ := q3 he
            simp [fi8, c8, evFun, enterFr, intBin, resV, rvVs, rvV, h12, h13, h14, hkk, hkl, hkl', hk, hs, q1, q2, he, t1, t2, t3, s0, r1, r2, r3, r4, h32, f1, f2, f3, f4, s1, nilS, hcl]
          · simp [fi8, c8, evFun, enterFr, intBin, resV, rvVs, rvV, h12, h13, h14, hkk, hkl, hkl', hk, hs, q1, q2, he, s0, r1, r2, r3, r4, h32, f1, f2, f3, f4, s1, nilS, hcl]
    · simp [fi8, c8, evFun, enterFr, intBin, resV, rvVs, rvV, h12, h13, h14, h0]
end Go.Proofs.Ytpooicjhhogknaa
