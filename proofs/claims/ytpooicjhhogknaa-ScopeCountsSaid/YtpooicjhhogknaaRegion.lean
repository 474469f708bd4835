/-
  Regions: in the order of the text, and in whatever order (conditions: none).
-/
import Derived.Test.YtpooicjhhogknaaSound
namespace Go.Proofs.Ytpooicjhhogknaa
open Go Go.RowKit
set_option linter.unusedVariables false
set_option linter.unusedSimpArgs false

/-- Reads it, or turns it, memory of the call's own? -/
def kH : LK → Nat
  | .pick _ _ _ => 0
  | .op k _ => match k with
    | .load imm _ _ => if imm then 0 else 1
    | .idxa imm _ => if imm then 0 else 1
    | .slc imm _ _ _ _ => if imm then 0 else 1
    | .bsl imm _ _ _ _ => if imm then 0 else 2
    | .call _ => 2
    | .callv => 2
    | .box _ => 2
    | .store _ => 2
    | .app _ => 2
    | .mksl _ _ => 2
    | _ => 0
def srcSl : Src → List Nat | .t i => [i] | .c _ => []
def readsK : LK → List Nat
  | .op _ xs => xs.flatMap srcSl
  | .pick c x y => c :: (srcSl x ++ srcSl y)
def readsI (i : LI) : List Nat := (match i.g with | some (t, _) => [t] | none => []) ++ readsK i.k
def indep (i j : LI) : Bool :=
  i.dst.all (fun d => !(readsI j).contains d && !(j.dst.toList).contains d) && j.dst.all (fun d => !(readsI i).contains d) && (kH i.k == 0 || kH j.k == 0 || (decide (kH i.k ≤ 1) && decide (kH j.k ≤ 1)))
/-- Every operation waits only for such as stand before it, and is apart from those before it for which it doesn't wait. -/
def drawB (ops : Array Oper) (lis : List LI) : Bool :=
  (List.range ops.size).all fun k => match ops[k]?, lis[k]? with
    | some o, some li => (o.after.toList.all fun e => !Region.binds .any e || decide (e.on < k)) &&
        ((List.range k).all fun p => (o.after.toList.any fun e => Region.binds .any e && e.on == p) || (match lis[p]? with | some lp => indep lp li | none => false))
    | _, _ => false

section region
variable {P : Program} {C : CodeR} {K : Ctx} {ρ : Option Nat}

theorem vals_congr {E E' : Env} : ∀ {xs : List Src}, (∀ s ∈ xs.flatMap srcSl, E' s = E s) → vals E' xs = vals E xs
  | [], _ => rfl
  | x :: xs, h => by
    have h1 : evS E' x = evS E x := by
      cases x with
      | t i => exact h i (by simp [srcSl])
      | c v => rfl
    have h2 : vals E' xs = vals E xs := vals_congr (fun s hs => h s (by simp only [List.flatMap_cons, List.mem_append]; exact .inr hs))
    simp only [vals, h1, h2]

/-- A step: what it puts, and that it reads no more than it says. -/
theorem fstep_spec {R : Rec} {i : LI} {E E1 : Env} {H H1 : Heap} (h : fstep R i E H = some (E1, H1)) :
    ∃ v, E1 = putE E i.dst v ∧ ∀ E', (∀ s ∈ readsI i, E' s = E s) → fstep R i E' H = some (putE E' i.dst v, H1) := by
  obtain ⟨d, k, g⟩ := i
  have hg : ∀ E', (∀ s ∈ readsI ⟨d, k, g⟩, E' s = E s) → gval E' g = gval E g := by
    intro E' hE
    refine gval_other (fun t want e => hE t ?_)
    simp [readsI, e]
  unfold fstep at h
  simp only at h
  split at h
  · rename_i hgt
    cases k with
    | op k xs =>
      simp only [frun1] at h
      split at h
      · rename_i vs hvs
        cases hx : exec R H k vs with
        | none => simp [hx] at h
        | some p =>
          simp only [hx, Option.map_some, Option.some.injEq, Prod.mk.injEq] at h
          obtain ⟨rfl, rfl⟩ := h
          refine ⟨p.1, rfl, ?_⟩
          intro E' hE
          have hv : vals E' xs = some vs := by
            rw [vals_congr (E := E) (fun s hs => hE s (by simp only [readsI, readsK, List.mem_append]; exact .inr hs))]; exact hvs
          simp only [fstep, hg E' hE, hgt, frun1, hv, hx, Option.map_some]
      · cases h
    | pick c x y =>
      simp only [frun1] at h
      split at h
      · rename_i t hEc
        cases hok : okO (evS E (if t then x else y)) with
        | none => simp [hok] at h
        | some v =>
          simp only [hok, Option.map_some, Option.some.injEq, Prod.mk.injEq] at h
          obtain ⟨rfl, rfl⟩ := h
          refine ⟨v, rfl, ?_⟩
          intro E' hE
          have hc : E' c = .bool t := by rw [hE c (by simp [readsI, readsK])]; exact hEc
          have hs : evS E' (if t then x else y) = evS E (if t then x else y) := by
            cases t
            · simp only [Bool.false_eq_true, if_false]
              cases y with
              | t i => exact hE i (by simp [readsI, readsK, srcSl])
              | c v => rfl
            · simp only [if_true]
              cases x with
              | t i => exact hE i (by simp [readsI, readsK, srcSl])
              | c v => rfl
          simp only [fstep, hg E' hE, hgt, frun1, hc, hs, hok, Option.map_some]
      · cases h
  · rename_i hgf
    cases h
    refine ⟨.und, rfl, ?_⟩
    intro E' hE
    simp only [fstep, hg E' hE, hgf]
  · cases h

theorem exec_le1 {R : Rec} {k : OpK} {xs : List Src} {vs : List AV} {H : Heap} {r : AV × Heap} (hk : kH (.op k xs) ≤ 1) (h : exec R H k vs = some r) : r.2 = H := by
  obtain ⟨v, H1⟩ := r
  by_cases hp : ∃ f, k = .pcall f
  · obtain ⟨f, rfl⟩ := hp
    simp only [exec] at h
    cases hq : R.pure f vs with
    | none => simp [hq] at h
    | some x => simp only [hq, Option.map_some, Option.some.injEq, Prod.mk.injEq] at h; exact h.2.symm
  · by_cases hq : k.quiet = true
    · have hx : execK H k vs = some (v, H1) := by cases k <;> first | exact h | cases hq
      exact (execK_q hq hx).2.2
    · cases k <;> first | exact absurd rfl hq | (simp [kH] at hk; done) | exact absurd ⟨_, rfl⟩ hp | skip
      rename_i imm sz n z ps
      cases imm with
      | false => simp [kH] at hk
      | true =>
        have hx : ex H (.bsl true sz n z ps) vs = some (v, H1) := execK_e rfl h
        simp only [ex] at hx
        split at hx
        · simp only [if_true] at hx
          cases hb : bslE sz (List.replicate n z) ps vs with
          | none => simp [hb] at hx
          | some es =>
            simp only [hb, Option.bind_some] at hx
            split at hx
            · cases hx; rfl
            · cases hx
        · cases hx
theorem exec_zero {R : Rec} {k : OpK} {xs : List Src} {vs : List AV} {H : Heap} {r : AV × Heap} (hk : kH (.op k xs) = 0) (h : exec R H k vs = some r) (H2 : Heap) : exec R H2 k vs = some (r.1, H2) := by
  obtain ⟨v, H1⟩ := r
  by_cases hp : ∃ f, k = .pcall f
  · obtain ⟨f, rfl⟩ := hp
    simp only [exec] at h ⊢
    cases hq : R.pure f vs with
    | none => simp [hq] at h
    | some x => simp only [hq, Option.map_some, Option.some.injEq, Prod.mk.injEq] at h ⊢; exact ⟨h.1, trivial⟩
  · by_cases hq : k.quiet = true
    · have hx : execK H k vs = some (v, H1) := by cases k <;> first | exact h | cases hq
      obtain ⟨e1, e2, e3⟩ := execK_q hq hx
      have e4 : qx H2 k vs = v := by
        have hnb : ∀ (imm : Bool) (x : AV) (y : AV), (if imm && !x.imm then AV.bad else y) = v → imm = true → x.imm = true ∧ y = v := by
          intro imm x y hh hi
          subst hi
          cases hxi : x.imm with
          | false => simp [hxi] at hh; exact absurd hh.symm e2
          | true => simp [hxi] at hh; exact ⟨rfl, hh⟩
        cases k with
        | load imm g n =>
          have himm : imm = true := by cases imm <;> simp [kH] at hk ⊢
          match vs, e1 with
          | [x], e1 =>
            obtain ⟨h1, h2⟩ := hnb _ _ _ e1 himm
            simp only [qx, h1, Bool.not_true, Bool.and_false, Bool.false_eq_true, if_false]
            cases x <;> first | exact h2 | cases h1
          | [], e1 => exact e1
          | _ :: _ :: _, e1 => exact e1
        | idxa imm sz =>
          have himm : imm = true := by cases imm <;> simp [kH] at hk ⊢
          match vs, e1 with
          | [x, y], e1 =>
            obtain ⟨h1, h2⟩ := hnb _ _ _ e1 himm
            simp only [qx, h1, Bool.not_true, Bool.and_false, Bool.false_eq_true, if_false]
            cases x <;> first | (cases y <;> exact h2) | cases h1
          | [], e1 => exact e1
          | [_], e1 => exact e1
          | _ :: _ :: _ :: _, e1 => exact e1
        | slc imm str sz lo hi =>
          have himm : imm = true := by cases imm <;> simp [kH] at hk ⊢
          match vs, e1 with
          | x :: bs, e1 =>
            obtain ⟨h1, h2⟩ := hnb _ _ _ e1 himm
            simp only [qx, h1, Bool.not_true, Bool.and_false, Bool.false_eq_true, if_false]
            cases x <;> first | (cases str <;> exact h2) | cases h1
          | [], e1 => exact e1
        | _ => rcases vs with _ | ⟨x, _ | ⟨y, _ | ⟨z, r⟩⟩⟩ <;> exact e1
      have hx2 : execK H2 k vs = some (v, H2) := execK_of hq e4 e2
      cases k <;> first | exact hx2 | cases hq
    · cases k <;> first | exact absurd rfl hq | (simp [kH] at hk; done) | exact absurd ⟨_, rfl⟩ hp | skip
      rename_i imm sz n z ps
      cases imm with
      | false => simp [kH] at hk
      | true =>
        have hx : ex H (.bsl true sz n z ps) vs = some (v, H1) := execK_e rfl h
        show execK H2 (.bsl true sz n z ps) vs = _
        unfold execK
        rw [if_neg (by simp [OpK.quiet])]
        simp only [ex] at hx ⊢
        split at hx
        · rename_i hc
          rw [if_pos hc]
          simp only [if_true] at hx ⊢
          cases hb : bslE sz (List.replicate n z) ps vs with
          | none => simp [hb] at hx
          | some es =>
            simp only [hb, Option.bind_some] at hx ⊢
            split at hx
            · rename_i hs; rw [if_pos hs]; cases hx; rfl
            · cases hx
        · cases hx
theorem fstep_le1 {R : Rec} {i : LI} {E E1 : Env} {H H1 : Heap} (hk : kH i.k ≤ 1) (h : fstep R i E H = some (E1, H1)) : H1 = H := by
  obtain ⟨d, k, g⟩ := i
  unfold fstep at h
  simp only at h
  split at h
  · cases k with
    | op k xs =>
      simp only [frun1] at h
      split at h
      · rename_i vs hvs
        cases hx : exec R H k vs with
        | none => simp [hx] at h
        | some p =>
          simp only [hx, Option.map_some, Option.some.injEq, Prod.mk.injEq] at h
          rw [← h.2]; exact exec_le1 hk hx
      · cases h
    | pick c x y =>
      simp only [frun1] at h
      split at h
      · rename_i t hEc
        cases hok : okO (evS E (if t then x else y)) with
        | none => simp [hok] at h
        | some v => simp only [hok, Option.map_some, Option.some.injEq, Prod.mk.injEq] at h; exact h.2.symm
      · cases h
  · cases h; rfl
  · cases h
theorem fstep_zero {R : Rec} {i : LI} {E E1 : Env} {H H1 : Heap} (hk : kH i.k = 0) (h : fstep R i E H = some (E1, H1)) (H2 : Heap) : fstep R i E H2 = some (E1, H2) := by
  obtain ⟨d, k, g⟩ := i
  unfold fstep at h ⊢
  simp only at h ⊢
  split at h
  · cases k with
    | op k xs =>
      simp only [frun1] at h ⊢
      split at h
      · rename_i vs hvs
        cases hx : exec R H k vs with
        | none => simp [hx] at h
        | some p =>
          simp only [hx, Option.map_some, Option.some.injEq, Prod.mk.injEq] at h
          rw [exec_zero hk hx H2]
          simp [h.1]
      · cases h
    | pick c x y =>
      simp only [frun1] at h ⊢
      split at h
      · rename_i t hEc
        cases hok : okO (evS E (if t then x else y)) with
        | none => simp [hok] at h
        | some v => simp only [hok, Option.map_some, Option.some.injEq, Prod.mk.injEq] at h ⊢; exact ⟨h.1, trivial⟩
      · cases h
  · cases h; rfl
  · cases h

theorem putE_comm {E : Env} {d d' : Option Nat} {v v' : AV} (h : ∀ x, d = some x → d' ≠ some x) : putE (putE E d v) d' v' = putE (putE E d' v') d v := by
  funext i
  simp only [putE_at]
  by_cases h1 : d = some i
  · rw [if_neg (h i h1), if_pos h1, if_pos h1]
  · rw [if_neg h1, if_neg h1]

theorem commute {R : Rec} {i j : LI} {E E1 E2 : Env} {H H1 H2 : Heap} (hi : indep i j = true) (h1 : fstep R i E H = some (E1, H1)) (h2 : fstep R j E1 H1 = some (E2, H2)) :
    ∃ E' H', fstep R j E H = some (E', H') ∧ fstep R i E' H' = some (E2, H2) := by
  simp only [indep, Bool.and_eq_true, Bool.or_eq_true, beq_iff_eq, decide_eq_true_eq] at hi
  obtain ⟨⟨s1, s2⟩, s3⟩ := hi
  obtain ⟨vi, rfl, ci⟩ := fstep_spec h1
  obtain ⟨vj, rfl, cj⟩ := fstep_spec h2
  have rj : ∀ s ∈ readsI j, E s = (putE E i.dst vi) s := by
    intro s hs
    rw [putE_at]
    split
    · rename_i hd
      rw [hd] at s1
      simp at s1
      exact absurd hs s1.1
    · rfl
  have ri : ∀ s ∈ readsI i, (putE E j.dst vj) s = E s := by
    intro s hs
    rw [putE_at]
    split
    · rename_i hd
      rw [hd] at s2
      simp at s2
      exact absurd hs s2
    · rfl
  have hne : ∀ x, i.dst = some x → j.dst ≠ some x := by
    intro x hx hj
    rw [hx, hj] at s1
    simp at s1
  have hj0 := cj E rj
  have hi0 := ci _ ri
  rcases s3 with (s3 | s3) | ⟨s3, s4⟩
  · have e1 : H1 = H := fstep_le1 (by omega) h1
    subst e1
    refine ⟨_, _, hj0, ?_⟩
    rw [fstep_zero s3 hi0 H2, putE_comm (d := j.dst) (fun x hx hi => hne x hi hx)]
  · have e1 : H2 = H1 := fstep_le1 (by omega) h2
    subst e1
    refine ⟨_, _, fstep_zero s3 hj0 H, ?_⟩
    rw [hi0, putE_comm (d := j.dst) (fun x hx hi => hne x hi hx)]
  · have e1 : H1 = H := fstep_le1 s3 h1
    subst e1
    have e2 : H2 = H1 := fstep_le1 s4 h2
    subst e2
    refine ⟨_, _, hj0, ?_⟩
    rw [hi0, putE_comm (d := j.dst) (fun x hx hi => hne x hi hx)]

theorem bubble {R : Rec} {i : LI} : ∀ (pre post : List LI) {E E' : Env} {H H' : Heap}, (∀ p ∈ pre, indep p i = true) → frun R (pre ++ i :: post) E H = some (E', H') →
    ∃ E1 H1, fstep R i E H = some (E1, H1) ∧ frun R (pre ++ post) E1 H1 = some (E', H')
  | [], post, E, E', H, H', hp, h => by
    simp only [List.nil_append, frun] at h
    cases hs : fstep R i E H with
    | none => simp [hs] at h
    | some p => simp only [hs, Option.bind_some] at h; exact ⟨p.1, p.2, rfl, h⟩
  | p :: pre, post, E, E', H, H', hp, h => by
    simp only [List.cons_append, frun] at h
    cases hs : fstep R p E H with
    | none => simp [hs] at h
    | some q =>
      obtain ⟨Ep, Hp⟩ := q
      simp only [hs, Option.bind_some] at h
      obtain ⟨E1, H1, h1, h2⟩ := bubble pre post (fun x hx => hp x (by simp [hx])) h
      obtain ⟨Ei, Hi, k1, k2⟩ := commute (hp p (by simp)) hs h1
      refine ⟨Ei, Hi, k1, ?_⟩
      simp only [List.cons_append, frun, k2, Option.bind_some]
      exact h2

/-- What holds behind a region. -/
def Behind (C : CodeR) (K : Ctx) (w : World) (M : Mut) (R : Res) (E' : Env) (H' : Heap) (a : Act) (Q : Exit → Act → World → Prop) : Prop :=
  ∀ w' M' R' a', WR C K w' M' R' H' → Evol R M w R' M' w' → EnvR w' M' R' E' a' → a'.tmps.size = a.tmps.size → a'.defers = a.defers → Q .normal a' w'
theorem Behind.step {w w' : World} {M M' : Mut} {R R' : Res} {E' : Env} {H' : Heap} {a a' : Act} {Q : Exit → Act → World → Prop} (h : Behind C K w M R E' H' a Q) (he : Evol R M w R' M' w') (h1 : a'.tmps.size = a.tmps.size) (h2 : a'.defers = a.defers) : Behind C K w' M' R' E' H' a' Q :=
  fun w'' M'' R'' a'' k1 k2 k3 k4 k5 => h w'' M'' R'' a'' k1 (he.trans k2) k3 (k4.trans h1) (k5.trans h2)

theorem text_sound {Rr : Rec} (hR : SoundCall P C Rr) (hP : SoundPure P C Rr) {N n : Nat} {ops : Array Oper} {Q : Exit → Act → World → Prop} {E' : Env} {H' : Heap} : ∀ (l : List Oper) (lis : List LI) (k : Nat) (E : Env) (H : Heap) (w : World) (M : Mut) (R : Res) (a : Act),
    (∀ j, l[j]? = ops[k + j]?) → liteIs P N ops l = some (lis.map LI.erase) → frun Rr lis E H = some (E', H') → WR C K w M R H → EnvR w M R E a → a.tmps.size = N → Behind C K w M R E' H' a Q →
    wpOpsIn (Wf ρ) n P ops Q (List.range' k l.length) a w
  | [], lis, k, E, H, w, M, R, a, hl, hli, hf, hw, he, hN, hQ => by
    simp only [liteIs, Option.some.injEq] at hli
    have : lis = [] := by simpa using hli.symm
    subst this
    simp only [frun, Option.some.injEq, Prod.mk.injEq] at hf
    obtain ⟨rfl, rfl⟩ := hf
    exact hQ w M R a hw (Evol.refl _ _ _) he rfl rfl
  | o :: l, lis, k, E, H, w, M, R, a, hl, hli, hf, hw, he, hN, hQ => by
    simp only [liteIs] at hli
    split at hli
    · rename_i i is h1 h2
      cases lis with
      | nil => simp at hli
      | cons li lis =>
        simp only [List.map_cons, Option.some.injEq, List.cons.injEq] at hli
        obtain ⟨rfl, rfl⟩ := hli
        simp only [frun] at hf
        cases hs : fstep Rr li E H with
        | none => simp [hs] at hf
        | some p =>
          obtain ⟨E1, H1⟩ := p
          simp only [hs, Option.bind_some] at hf
          have h0 : ops[k]? = some o := by simpa using (hl 0).symm
          simp only [List.length_cons, List.range'_succ, wpOpsIn, h0]
          refine step_sound hR hP h1 hs hw he hN ?_
          intro w' M' R' a' k1 k2 k3 k4 k5
          exact text_sound hR hP l lis (k + 1) E1 H1 w' M' R' a' (fun j => by have := hl (j + 1); simpa [Nat.add_assoc, Nat.add_comm 1 j] using this) h2 hf k1 k3 k4 (hQ.step k2 (by rw [k4, hN]) k5)
    · cases hli

theorem liteIs_get {N : Nat} {ops : Array Oper} : ∀ {l : List Oper} {is : List LI}, liteIs P N ops l = some is → is.length = l.length ∧ ∀ (k : Nat) (o : Oper) (i : LI), l[k]? = some o → is[k]? = some i → liteI P N ops o = some i
  | [], is, h => by simp [liteIs] at h; subst h; simp
  | o :: l, is, h => by
    simp only [liteIs] at h
    split at h
    · rename_i i is' h1 h2
      cases h
      obtain ⟨k1, k2⟩ := liteIs_get h2
      refine ⟨by simp [k1], ?_⟩
      intro k o' i' ho hi
      cases k with
      | zero => simp at ho hi; subst ho; subst hi; exact h1
      | succ k => simp at ho hi; exact k2 k o' i' ho hi
    · cases h

/-- The numbers that have not come up, in the order of the text. -/
def left (n : Nat) (listed : Array Bool) : List Nat := (List.range n).filter fun k => !listed.getD k true
theorem left_split {n : Nat} {listed : Array Bool} {i : Nat} (hi : i < n) (hl : listed.getD i true = false) (hsz : listed.size = n) :
    ∃ pre post, left n listed = pre ++ i :: post ∧ left n (listed.setIfInBounds i true) = pre ++ post ∧ ∀ p ∈ pre, p < i ∧ listed.getD p true = false := by
  refine ⟨(List.range i).filter (fun k => !listed.getD k true), ((List.range' (i + 1) (n - (i + 1))).filter fun k => !listed.getD k true), ?_, ?_, ?_⟩
  · unfold left
    have e : List.range n = List.range i ++ i :: List.range' (i + 1) (n - (i + 1)) := by
      rw [List.range_eq_range', List.range_eq_range', show i :: List.range' (i + 1) (n - (i + 1)) = List.range' i (n - i) from by
        rw [show n - i = (n - (i + 1)) + 1 by omega, List.range'_succ]]
      have := List.range'_append (s := 0) (m := i) (n := n - i) (step := 1)
      simp only [Nat.one_mul, Nat.zero_add] at this
      rw [this]; congr 1; omega
    rw [e, List.filter_append, List.filter_cons]
    simp [hl]
  · unfold left
    have e : List.range n = List.range i ++ i :: List.range' (i + 1) (n - (i + 1)) := by
      rw [List.range_eq_range', List.range_eq_range', show i :: List.range' (i + 1) (n - (i + 1)) = List.range' i (n - i) from by
        rw [show n - i = (n - (i + 1)) + 1 by omega, List.range'_succ]]
      have := List.range'_append (s := 0) (m := i) (n := n - i) (step := 1)
      simp only [Nat.one_mul, Nat.zero_add] at this
      rw [this]; congr 1; omega
    have hself : (listed.setIfInBounds i true).getD i true = true := by
      rw [Array.getD_eq_getD_getElem?, Array.getElem?_setIfInBounds]
      simp [hsz, hi]
    have hoth : ∀ k, k ≠ i → (listed.setIfInBounds i true).getD k true = listed.getD k true := by
      intro k hk
      rw [Array.getD_eq_getD_getElem?, Array.getD_eq_getD_getElem?, Array.getElem?_setIfInBounds_ne (fun e => hk e.symm)]
    rw [e, List.filter_append, List.filter_cons, hself]
    simp only [Bool.not_true, Bool.false_eq_true, if_false]
    congr 1
    · apply List.filter_congr
      intro k hk
      rw [hoth k (by have := List.mem_range.1 hk; omega)]
    · apply List.filter_congr
      intro k hk
      rw [hoth k (by have := List.mem_range'_1.1 hk; omega)]
  · intro p hp
    rw [List.mem_filter, List.mem_range] at hp
    exact ⟨hp.1, by simpa using hp.2⟩

theorem any_sound {Rr : Rec} (hR : SoundCall P C Rr) (hP : SoundPure P C Rr) {N n : Nat} {ops : Array Oper} {lis : List LI} (hli : liteIs P N ops ops.toList = some (lis.map LI.erase)) (hd : drawB ops lis = true) {Q : Exit → Act → World → Prop} {E' : Env} {H' : Heap} :
    ∀ (fuel : Nat) (listed : Array Bool) (E : Env) (H : Heap) (w : World) (M : Mut) (R : Res) (a : Act), listed.size = ops.size → (left ops.size listed).length = fuel → frun Rr ((left ops.size listed).filterMap fun k => lis[k]?) E H = some (E', H') →
      WR C K w M R H → EnvR w M R E a → a.tmps.size = N → Behind C K w M R E' H' a Q → wpAnyIn (Wf ρ) n P .any ops Q fuel listed a w := by
  obtain ⟨hlen, hget⟩ := liteIs_get hli
  have hlen' : lis.length = ops.size := by simpa using hlen
  intro fuel
  induction fuel with
  | zero =>
    intro listed E H w M R a hsz hfuel hf hw he hN hQ
    have hnil : left ops.size listed = [] := List.eq_nil_of_length_eq_zero hfuel
    rw [hnil] at hf
    simp only [List.filterMap_nil, frun, Option.some.injEq, Prod.mk.injEq] at hf
    obtain ⟨rfl, rfl⟩ := hf
    refine ⟨?_, hQ w M R a hw (Evol.refl _ _ _) he rfl rfl⟩
    cases hr : Region.ready .any ops listed with
    | nil => rfl
    | cons i r =>
      exfalso
      obtain ⟨h1, o, h2, h3⟩ := mem_ready.1 (show i ∈ Region.ready .any ops listed by rw [hr]; simp)
      have : i ∈ left ops.size listed := by
        unfold left
        rw [List.mem_filter, List.mem_range]
        exact ⟨(Array.getElem?_eq_some_iff.1 h2).1, by simpa using h1⟩
      rw [hnil] at this; cases this
  | succ fuel ih =>
    intro listed E H w M R a hsz hfuel hf hw he hN hQ
    have hdk : ∀ (k : Nat) (o : Oper) (li : LI), ops[k]? = some o → lis[k]? = some li → (∀ e ∈ o.after, Region.binds .any e = true → e.on < k) ∧ ∀ (p : Nat) (lp : LI), p < k → lis[p]? = some lp → (∃ e ∈ o.after, Region.binds .any e = true ∧ e.on = p) ∨ indep lp li = true := by
      intro k o li ho hl
      have hk : k < ops.size := (Array.getElem?_eq_some_iff.1 ho).1
      have := List.all_eq_true.1 hd k (List.mem_range.2 hk)
      rw [ho, hl] at this
      simp only [Bool.and_eq_true] at this
      obtain ⟨t1, t2⟩ := this
      refine ⟨?_, ?_⟩
      · intro e hee hb
        have := List.all_eq_true.1 t1 e (by simpa using hee)
        simpa [hb] using this
      · intro p lp hp hlp
        have := List.all_eq_true.1 t2 p (List.mem_range.2 hp)
        rw [hlp] at this
        simp only [Bool.or_eq_true, List.any_eq_true, Bool.and_eq_true, beq_iff_eq] at this
        rcases this with ⟨e, h1, h2, h3⟩ | h
        · exact .inl ⟨e, by simpa using h1, h2, h3⟩
        · exact .inr h
    refine ⟨?_, ?_⟩
    · intro hr
      exfalso
      -- the first that has not come up is ready
      cases hl : left ops.size listed with
      | nil => rw [hl] at hfuel; simp at hfuel
      | cons k rest =>
        have hk : k ∈ left ops.size listed := by rw [hl]; simp
        unfold left at hk
        rw [List.mem_filter, List.mem_range] at hk
        have hkl : listed.getD k true = false := by simpa using hk.2
        have ho := Array.getElem?_eq_getElem hk.1
        have hli' : lis[k]? = some lis[k] := List.getElem?_eq_getElem (by omega)
        have hready : k ∈ Region.ready .any ops listed := by
          refine mem_ready.2 ⟨hkl, _, ho, ?_⟩
          intro e hee hb
          have hlt := (hdk k _ _ ho hli').1 e hee hb
          obtain ⟨pre, post, e1, e2, e3⟩ := left_split hk.1 hkl hsz
          have hpre : pre = [] := by
            cases pre with
            | nil => rfl
            | cons q pre =>
              rw [hl] at e1
              simp only [List.cons_append, List.cons.injEq] at e1
              have := (e3 q (by simp)).1
              omega
          cases hlis : listed.getD e.on false with
          | true => rfl
          | false =>
            exfalso
            have hlt2 : e.on < listed.size := by omega
            have hf2 : listed.getD e.on true = false := by
              rw [Array.getD_eq_getD_getElem?] at hlis ⊢
              rw [Array.getElem?_eq_getElem hlt2] at hlis ⊢
              simpa using hlis
            have hmem : e.on ∈ left ops.size listed := by
              unfold left
              rw [List.mem_filter, List.mem_range]
              exact ⟨by omega, by simpa using hf2⟩
            rw [e1, hpre] at hmem
            simp only [List.nil_append, List.mem_cons] at hmem
            rcases hmem with hm | hm
            · omega
            · -- post are greater
              have : ∀ q ∈ post, k < q := by
                intro q hq
                have hs : (left ops.size listed).Pairwise (· < ·) := by
                  unfold left
                  exact List.Pairwise.filter _ List.pairwise_lt_range
                rw [e1, hpre] at hs
                exact (List.pairwise_cons.1 hs).1 q hq
              have := this _ hm
              omega
        rw [hr] at hready; cases hready
    · intro i hi
      obtain ⟨h1, o, h2, h3⟩ := mem_ready.1 hi
      have hilt : i < ops.size := (Array.getElem?_eq_some_iff.1 h2).1
      obtain ⟨pre, post, e1, e2, e3⟩ := left_split hilt h1 hsz
      have hli' : lis[i]? = some lis[i] := List.getElem?_eq_getElem (by omega)
      rw [e1] at hf
      simp only [List.filterMap_append, List.filterMap_cons, hli'] at hf
      obtain ⟨E1, H1, f1, f2⟩ := bubble (pre.filterMap fun k => lis[k]?) (post.filterMap fun k => lis[k]?) (fun lp hlp => by
        rw [List.mem_filterMap] at hlp
        obtain ⟨p, hp, hlp⟩ := hlp
        obtain ⟨q1, q2⟩ := e3 p hp
        rcases (hdk i o _ h2 hli').2 p lp q1 hlp with ⟨e, hee, hb, hon⟩ | h
        · exfalso
          have := h3 e hee hb
          rw [hon] at this
          rw [Array.getD_eq_getD_getElem?] at this q2
          cases hq : listed[p]? with
          | none => rw [hq] at this; simp at this
          | some b => rw [hq] at this q2; simp at this q2; rw [this] at q2; cases q2
        · exact h) hf
      unfold wpOpIn
      rw [h2]
      have hlo : liteI P N ops o = some (lis[i]).erase := by
        refine hget i o _ (by rw [Array.getElem?_toList]; exact h2) ?_
        rw [List.getElem?_map, hli']; rfl
      refine step_sound hR hP hlo f1 hw he hN ?_
      intro w' M' R' a' k1 k2 k3 k4 k5
      refine ih _ E1 H1 w' M' R' a' (by simpa using hsz) ?_ ?_ k1 k3 k4 (hQ.step k2 (by rw [k4, hN]) k5)
      · rw [e2]
        rw [e1] at hfuel
        simp at hfuel ⊢; omega
      · rw [e2, List.filterMap_append]; exact f2

theorem WR.drew {w : World} {M : Mut} {R : Res} {H : Heap} (h : WR C K w M R H) : WR C K { w with drawn := w.drawn + 1 } M R H ∧ Evol R M w R M { w with drawn := w.drawn + 1 } := h.same rfl rfl rfl rfl

theorem region_sound {Rr : Rec} (hR : SoundCall P C Rr) (hP : SoundPure P C Rr) (hm : P.follows .mixedOrders = true) {N n id : Nat} {draw : Bool} {ops : Array Oper} {lis : List LI} (hli : liteIs P N ops ops.toList = some (lis.map LI.erase)) (hd : draw = true → drawB ops lis = true)
    {Q : Exit → Act → World → Prop} {E E' : Env} {H H' : Heap} {w : World} {M : Mut} {R : Res} {a : Act} (hf : frun Rr lis E H = some (E', H')) (hw : WR C K w M R H) (he : EnvR w M R E a) (hN : a.tmps.size = N) (hQ : Behind C K w M R E' H' a Q) :
    (Code.region id ops draw).wpIn (Wf ρ) n P Q a w := by
  cases draw with
  | false =>
    refine wpIn_region ?_
    have := text_sound (ρ := ρ) (n := n) hR hP ops.toList lis 0 E H w M R a (fun j => by simp) hli hf hw he hN hQ
    rw [List.range_eq_range']
    simpa using this
  | true =>
    refine wpIn_region_any hm ?_
    obtain ⟨d1, d2⟩ := hw.drew
    have hlen' : lis.length = ops.size := by simpa using (liteIs_get hli).1
    have hleft : left ops.size (Array.replicate ops.size false) = List.range ops.size := by
      unfold left
      rw [List.filter_eq_self]
      intro k hk
      have := List.mem_range.1 hk
      simp [Array.getD, this]
    have hall : (List.range ops.size).filterMap (fun k => lis[k]?) = lis := by
      rw [← hlen']
      clear hli hf hd hleft hlen'
      induction lis with
      | nil => rfl
      | cons x l ih =>
        rw [List.length_cons, List.range_succ_eq_map, List.filterMap_cons]
        simp only [List.getElem?_cons_zero, List.filterMap_map]
        congr 1
    exact any_sound (ρ := ρ) (n := n) hR hP hli (hd rfl) ops.size _ E H _ M R a (by simp) (by rw [hleft]; simp) (by rw [hleft, hall]; exact hf) d1 (he.evol d2) hN (hQ.step d2 rfl rfl)
end region
end Go.Proofs.Ytpooicjhhogknaa
