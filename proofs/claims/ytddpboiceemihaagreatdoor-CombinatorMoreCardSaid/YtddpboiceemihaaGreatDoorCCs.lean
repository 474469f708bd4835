/-
  What combinations are made of is valid (conditions: none). The procedures of combinations are valid (conditions: none). CombinatorProcs: the law as a plain fact (conditions: none).
-/
import Derived.Test.YtddpboiceemihaaGreatDoorBBs
import Derived.Test.YtddpboiceemihaaGreatDoorACs
section
namespace Go.Proofs.YtddpboiceemihaaGreatDoor
open Go Go.RowKit
set_option linter.unusedVariables false
set_option linter.unusedSimpArgs false
set_option maxRecDepth 10000
theorem exI_nm {s : List UInt8} (h : nameB s = true) : exI (nmE s) = 0 := by
 simp only [nameB, Bool.and_eq_true, Bool.not_eq_true'] at h
 have h1 : exCheck (nmE s) = 0 := by unfold nmE; rw [exCheck_name, if_pos h.1]
 have h2 : exNms (nmE s) = [s] := rfl
 unfold exI
 rw [if_pos h1, h2]
 simp [h.2]
theorem exI_num {n : Int} (h : 0 ≤ n ∧ n ≤ 1099511627776) : exI (numE n) = 0 := by
 have h1 : (numE n).size = 1 := rfl
 have h2 : (numE n).depth = 1 := rfl
 have h3 : (numE n).parts = [numE n] := rfl
 have h4 : ¬ (n < 0 ∨ 1099511627776 < n) := by omega
 have h5 : exCheck (numE n) = 0 := by
  unfold exCheck
  rw [h1, h2, h3]
  simp [errOf, exPart, exShape, numE, h4]
 have h6 : exNms (numE n) = [] := rfl
 unfold exI
 rw [if_pos h5, h6]
 simp
theorem exI_inc {s : List UInt8} (h : s = iS ∨ s = nS) : exI (binE 3 (ofL 5 [nmE s, numE 1])) = 0 := by
 rcases h with rfl | rfl <;> decide +kernel
theorem exI_pos : exI posE = 0 := by decide +kernel
theorem exI_again {n : Int} (h : 1 ≤ n ∧ n ≤ 100) : exI (againE n) = 0 := by
 have h1 : (againE n).size = 7 := rfl
 have h2 : (againE n).depth = 3 := rfl
 have h3 : (againE n).parts = [againE n, binE 10 (ofL 5 [nmE nS, numE n]), nmE nS, numE n, binE 9 (ofL 5 [nmE rS, numE 0]), nmE rS, numE 0] := rfl
 have h4 : ¬ (n < 0 ∨ 1099511627776 < n) := by omega
 have h5 : exCheck (againE n) = 0 := by
  unfold exCheck
  rw [h1, h2, h3]
  simp [errOf, exPart, exShape, numE, againE, binE, nmE, h4, rS_nm, nS_nm]
 have h6 : exNms (againE n) = [nS, rS] := rfl
 unfold exI
 rw [if_pos h5, h6]
 decide +kernel
theorem stCk {k op : Int} {s : List UInt8} {es : Sl Ex} {b : Sl St} {sh : Shp} (h : shpOf k op = (sh, true)) (hs : sh.cases = false) (hn : sh.n0 = 0) (hn1 : 0 ≤ sh.n1) (he : sh.e0 ≤ es.l.length ∧ (es.l.length : Int) ≤ sh.e1)
  (h0 : sh.name = 0 → s = []) (ho : sh.op = false → op = 0) (hb : sh.body = false → b.l = []) (h1 : sh.name = 1 → nameB s = true) (h2 : sh.name = 2 → s = [] ∨ nameB s = true) (hx : ∀ e ∈ es.l, stEx k e = 0) (h23 : k ≠ 23) :
  stCheck (St.of k op s slNil es b slNil slNil) = 0 := by
 have f1 : fldB (St.of k op s slNil es b slNil slNil) sh = true := by
  unfold fldB
  rw [if_neg, if_neg]
  ·simp [hs]
  ·simp [hn]; omega
  ·simp only [St.of_name, St.of_op, St.of_body, St.of_els]
   rintro (((⟨a1, a2⟩ | ⟨a1, a2⟩) | ⟨a1, a2⟩) | ⟨a1, a2⟩)
   ·exact a2 (h0 a1)
   ·exact a2 (ho a1)
   ·rw [hb a1] at a2; simp at a2
   ·simp at a2
 have f2 : namB (St.of k op s slNil es b slNil slNil) sh = true := by
  unfold namB
  rw [if_neg]
  ·simp
  ·simp only [St.of_name]
   rintro ⟨a1 | ⟨a1, a2⟩, a3⟩
   ·rw [h1 a1] at a3; cases a3
   ·rcases h2 a1 with a4 | a4
    ·exact a2 a4
    ·rw [a4] at a3; cases a3
 have f3 : exsI (St.of k op s slNil es b slNil slNil) = 0 := by
  unfold exsI
  have : errOf (stEx (St.of k op s slNil es b slNil slNil).kind) (St.of k op s slNil es b slNil slNil).exprs.l = 0 := errOf_ok.2 hx
  rw [this]
  simp [errOf, h23]
 unfold stCheck
 simp only [St.of_kind, St.of_op, St.of_cs, h, f1, f2, f3]
 simp [defs]
theorem stEx_14 : stEx 14 zeroE = 0 := by decide +kernel
theorem stEx_of {k : Int} {e : Ex} (h : exI e = 0) : stEx k e = 0 := by unfold stEx; split; rfl; exact h
theorem ck16 {s : List UInt8} {es : Sl Ex} (h : nameB s = true) (he : es.l.length ≤ 8) (hx : ∀ e ∈ es.l, exI e = 0) : stCheck (stS 16 s es slNil) = 0 :=
 stCk (sh := ⟨1, 0, 0, 0, 8, false, false, false, false⟩) rfl rfl rfl (by decide) ⟨by simp, by simp; omega⟩ (fun h => absurd h (by decide)) (fun _ => rfl) (fun _ => rfl) (fun _ => h) (fun h => absurd h (by decide)) (fun e he => stEx_of (hx e he)) (by decide)
theorem ck18 {s : List UInt8} (h : nameB s = true) : stCheck (stS 18 s slNil slNil) = 0 :=
 stCk (sh := ⟨1, 0, 0, 0, 8, false, false, false, false⟩) rfl rfl rfl (by decide) ⟨by simp, by simp⟩ (fun h => absurd h (by decide)) (fun _ => rfl) (fun _ => rfl) (fun _ => h) (fun h => absurd h (by decide)) (fun e he => by simp at he) (by decide)
theorem ck14 {s : List UInt8} {d : Ex} {b : Sl St} (h : s = [] ∨ nameB s = true) (hd : stEx 14 d = 0) : stCheck (stS 14 s (ofL 5 [d, zeroE]) b) = 0 :=
 stCk (sh := ⟨2, 0, 0, 2, 2, true, false, false, false⟩) rfl rfl rfl (by decide) ⟨by simp, by simp⟩ (fun h => absurd h (by decide)) (fun _ => rfl) (fun h => by cases h) (fun h => absurd h (by decide)) (fun _ => h)
  (fun e he => by
   simp at he
   rcases he with rfl | rfl
   ·exact hd
   ·exact stEx_14) (by decide)
theorem rS_ok : nameB rS = true := by decide +kernel
theorem nS_ok : nameB nS = true := by decide +kernel
theorem iS_ok : nameB iS = true := by decide +kernel
theorem ck6 : stCheck leaveS = 0 := by decide +kernel
theorem ck13 : stCheck (stS 13 [] slNil slNil) = 0 := by decide +kernel
theorem ck1 {k : Int} (hk : k = 1 ∨ k = 2) {s : List UInt8} {e : Ex} (h : nameB s = true) (he : exI e = 0) : stCheck (stS k s (ofL 5 [e]) slNil) = 0 := by
 rcases hk with rfl | rfl <;>
 exact stCk (sh := ⟨1, 0, 0, 1, 1, false, false, false, false⟩) rfl rfl rfl (by decide) ⟨by simp, by simp⟩ (fun h => absurd h (by decide)) (fun _ => rfl) (fun _ => rfl) (fun _ => h) (fun h => absurd h (by decide)) (fun a ha => by simp at ha; subst ha; exact stEx_of he) (by decide)
theorem ck345 {k : Int} (hk : k = 3 ∨ k = 4 ∨ k = 5) {e : Ex} {b : Sl St} (he : exI e = 0) : stCheck (stS k [] (ofL 5 [e]) b) = 0 := by
 rcases hk with rfl | rfl | rfl
 ·exact stCk (sh := ⟨0, 0, 0, 1, 1, true, true, false, false⟩) rfl rfl rfl (by decide) ⟨by simp, by simp⟩ (fun _ => rfl) (fun _ => rfl) (fun h => by cases h) (by decide) (by decide) (fun a ha => by simp at ha; subst ha; exact stEx_of he) (by decide)
 all_goals exact stCk (sh := ⟨0, 0, 0, 1, 1, true, false, false, false⟩) rfl rfl rfl (by decide) ⟨by simp, by simp⟩ (fun _ => rfl) (fun _ => rfl) (fun h => by cases h) (by decide) (by decide) (fun a ha => by simp at ha; subst ha; exact stEx_of he) (by decide)
theorem ck10 {p : Int} (h : 0 ≤ p ∧ p ≤ 1099511627776) : stCheck (sleepS p) = 0 :=
 stCk (sh := ⟨0, 0, 0, 1, 1, false, false, false, false⟩) rfl rfl rfl (by decide) ⟨by simp, by simp⟩ (fun _ => rfl) (fun _ => rfl) (fun _ => rfl) (by decide) (by decide) (fun a ha => by simp at ha; subst ha; exact stEx_of (exI_num h)) (by decide)
theorem ck19 {op : Int} (ho : op = 60 ∨ op = 62) {s : List UInt8} (h : nameB s = true) : stCheck (getS op s) = 0 := by
 rcases ho with rfl | rfl <;>
 exact stCk (sh := ⟨1, 0, 0, 1, 1, false, false, false, true⟩) rfl rfl rfl (by decide) ⟨by simp, by simp⟩ (fun h => absurd h (by decide)) (fun h => by cases h) (fun _ => rfl) (fun _ => h) (fun h => absurd h (by decide)) (fun a ha => by simp at ha; subst ha; exact stEx_of (exI_num (by omega))) (by decide)
def okL (l : List St) : Prop := ∀ x ∈ St.pres l, stCheck x = 0
theorem okL_nil : okL [] := by intro x hx; simp [St.pres] at hx
theorem okL_cons {x : St} {r : List St} (h1 : stCheck x = 0) (h2 : okL x.body.l) (h3 : okL x.els.l) (h4 : x.cs.l = []) (h5 : okL r) : okL (x :: r) := by
 intro y hy
 simp only [St.pres, St.pre_eq, h4, Cs.pres, List.append_nil, List.cons_append, List.mem_cons, List.mem_append] at hy
 rcases hy with rfl | (hy | hy) | hy
 ·exact h1
 ·exact h2 y hy
 ·exact h3 y hy
 ·exact h5 y hy
theorem okL_S {k : Int} {s : List UInt8} {es : Sl Ex} {b : Sl St} {r : List St} (h1 : stCheck (stS k s es b) = 0) (h2 : okL b.l) (h5 : okL r) : okL (stS k s es b :: r) := okL_cons h1 h2 okL_nil rfl h5
theorem okL_O {op : Int} {s : List UInt8} {r : List St} (h1 : stCheck (getS op s) = 0) (h5 : okL r) : okL (getS op s :: r) := okL_cons h1 okL_nil okL_nil rfl h5
theorem okL_spawns {es : Sl Ex} {l : List (List UInt8)} (h : ∀ s ∈ l, nameB s = true) (he : es.l.length ≤ 8) (hx : ∀ e ∈ es.l, exI e = 0) : okL (spawns es l) := by
 induction l with
 | nil => exact okL_nil
 | cons s r ih => exact okL_S (ck16 (h s (by simp)) he hx) okL_nil (ih fun t ht => h t (by simp [ht]))
theorem cost_spawns (es : Sl Ex) (l : List (List UInt8)) : St.costs (spawns es l) = l.length * (1 + (es.l.map exCost).sum) := by
 induction l with
 | nil => simp [spawns, St.costs]
 | cons s r ih =>
  have h1 : (stS 16 s es slNil).cost = 1 + (es.l.map exCost).sum := by rw [St.cost_eq]; simp [stS, Cs.costs, St.costs]
  have h2 : spawns es (s :: r) = stS 16 s es slNil :: spawns es r := rfl
  rw [h2]
  simp only [St.costs, h1, ih, List.length_cons, Nat.add_mul, Nat.one_mul]
  omega
theorem deps_spawns (es : Sl Ex) (l : List (List UInt8)) : St.deps (spawns es l) ≤ 1 := by
 induction l with
 | nil => simp [spawns, St.deps]
 | cons s r ih =>
  have h1 : (stS 16 s es slNil).dep = 1 := by rw [St.dep_eq]; simp [stS, Cs.deps, St.deps]
  have h2 : spawns es (s :: r) = stS 16 s es slNil :: spawns es r := rfl
  rw [h2]
  simp only [St.deps, h1]
  omega
theorem prCk {k : Int} {s : List UInt8} {ps : Sl (List UInt8)} {b : Sl St} (hk : 1 ≤ k ∧ k ≤ 3) (hs : nameB s = true) (hp : ps.l.length ≤ 8) (hq : ps.l.all nameB = true) (hb : okL b.l) : prCheck (Pr.mk k s ps 0 b) = 0 := by
 have h1 : errOf stCheck (St.pres b.l) = 0 := errOf_ok.2 hb
 unfold prCheck
 simp only [hs, hq, h1]
 rw [if_neg (by omega), if_neg (by simp), if_neg (by omega), if_neg (by simp), if_neg (by simp)]
end Go.Proofs.YtddpboiceemihaaGreatDoor
end
section
namespace Go.Proofs.YtddpboiceemihaaGreatDoor
open Go Go.RowKit
set_option linter.unusedVariables false
set_option linter.unusedSimpArgs false
set_option maxRecDepth 10000
theorem St.bigs_len : ∀ l : List St, l.length ≤ St.bigs l
 | [] => by simp [St.bigs]
 | x :: r => by
  have := St.bigs_len r
  have h := St.big_eq x
  simp only [St.bigs, List.length_cons]; omega
theorem Cs.bigs_len : ∀ l : List Cs, l.length ≤ Cs.bigs l
 | [] => by simp [Cs.bigs]
 | x :: r => by
  have := Cs.bigs_len r
  have h := Cs.big_eq x
  simp only [Cs.bigs, List.length_cons]; omega
mutual
theorem St.fine_big : ∀ x : St, x.big ≤ 9223372036854775807 → x.fine
 | .mk a b c ns es f g bl h i el j k cl, hh => by
  simp only [St.big] at hh
  have h1 := Ex.len_sizes es.l
  have h2 := St.bigs_len bl
  have h3 := St.bigs_len el
  have h4 := Cs.bigs_len cl
  simp only [St.fine]
  exact ⟨by omega, by omega, by omega, by omega, by omega, St.fines_big bl (by omega), St.fines_big el (by omega), Cs.fines_big cl (by omega)⟩
theorem St.fines_big : ∀ l : List St, St.bigs l ≤ 9223372036854775807 → St.fines l
 | [], _ => trivial
 | x :: r, h => by
  simp only [St.bigs] at h
  exact ⟨St.fine_big x (by omega), St.fines_big r (by omega)⟩
theorem Cs.fine_big : ∀ x : Cs, x.big ≤ 9223372036854775807 → x.fine
 | .mk a b e ns f g bl, hh => by
  simp only [Cs.big] at hh
  have h2 := St.bigs_len bl
  simp only [Cs.fine]
  exact ⟨by omega, by omega, St.fines_big bl (by omega)⟩
theorem Cs.fines_big : ∀ l : List Cs, Cs.bigs l ≤ 9223372036854775807 → Cs.fines l
 | [], _ => trivial
 | x :: r, h => by
  simp only [Cs.bigs] at h
  exact ⟨Cs.fine_big x (by omega), Cs.fines_big r (by omega)⟩
end
structure MadeOk (name : List UInt8) (l : List Pr) : Prop where
 head : ∃ p r, l = p :: r ∧ p.kind = 1 ∧ p.params.l = [] ∧ p.priority = 0
 names : ∃ n, n ≤ 8 ∧ l.map Pr.name = name :: hL name n
 fine : ∀ p ∈ l, p.fine
 cost : (l.map Pr.cost).sum ≤ 300
 deps : ∀ p ∈ l, St.deps p.body.l ≤ 12
 ok : ∀ p ∈ l, prCheck p = 0
theorem prFine {p : Pr} (h1 : St.bigs p.body.l ≤ 1000000000) (h2 : p.params.l.length ≤ 1000000000) : p.fine :=
 ⟨St.fines_big _ (by omega), by have := St.bigs_len p.body.l; omega, by omega⟩
theorem MadeOk.one {name : List UInt8} {ps : Sl (List UInt8)} {b : Sl St} (hn : nameB name = true) (hp : ps.l = []) (h1 : St.bigs b.l ≤ 1000000000) (h2 : St.costs b.l ≤ 300) (h3 : St.deps b.l ≤ 12) (h4 : okL b.l) : MadeOk name [prT name ps b] where
 head := ⟨_, _, rfl, rfl, hp, rfl⟩
 names := ⟨0, by omega, rfl⟩
 fine := by intro p h; simp at h; subst h; exact prFine h1 (by simp [prT, hp])
 cost := by simp [prT, Pr.cost]; exact h2
 deps := by intro p h; simp at h; subst h; exact h3
 ok := by intro p h; simp at h; subst h; exact prCk (by omega) hn (by simp [hp]) (by simp [hp]) h4
theorem all_made {name : List UInt8} {l : List (List UInt8)} (h : allI name l = 0) : MadeOk name [allPr slNil slNil name l] := by
 have hn : nameB name = true := by
  unfold allI at h; split at h
  ·assumption
  ·cases h
 have hs : sevI l = 0 := by rw [allI, if_pos hn] at h; exact h
 have hl := sev_zero hs
 have hal : ∀ s ∈ l, nameB s = true := by
  unfold sevI at hs
  rw [if_neg hl.1, if_neg (by omega)] at hs
  split at hs
  ·rename_i ha; exact List.all_eq_true.1 ha
  ·cases hs
 refine MadeOk.one hn rfl ?_ ?_ ?_ ?_
 ·simp [St.bigs, stS_big, spawns_big, Ex.sizes, zeroE, nmE, Ex.size, Ex.of]; omega
 ·have h1 : (stS 14 rS (ofL 5 [zeroE, zeroE]) (ofL 8 (spawns slNil l))).cost = 1 + l.length := by
   rw [St.cost_eq]; simp [stS, Cs.costs, St.costs, cost_spawns, zeroE, exCost, exZero, Ex.of, Ex.kind, Ex.op, Ex.name, Ex.value, Ex.args]
  have h2 : (stS 6 [] (ofL 5 [nmE rS]) slNil).cost = 2 := by decide +kernel
  simp only [ofL, St.costs, h1, h2]; omega
 ·have h1 : (stS 14 rS (ofL 5 [zeroE, zeroE]) (ofL 8 (spawns slNil l))).dep = 1 + St.deps (spawns slNil l) := by
   rw [St.dep_eq]; simp [stS, Cs.deps, St.deps]
  have h2 : (stS 6 [] (ofL 5 [nmE rS]) slNil).dep = 1 := by decide +kernel
  have h3 := deps_spawns slNil l
  simp only [ofL, St.deps, h1, h2]; omega
 ·exact okL_S (ck14 (.inr rS_ok) stEx_14) (okL_spawns hal (by simp) (by simp)) (okL_S ck6 okL_nil okL_nil)
theorem tmo_made {name proc : List UInt8} {n : Int} (h : oneI name proc 0 1099511627776 n = 0) : MadeOk name [tmoPr slNil slNil name proc n] := by
 unfold oneI at h
 split at h
 ·rename_i hb
  split at h
  ·rename_i hr
   simp only [Bool.and_eq_true] at hb
   exact MadeOk.one hb.1 rfl (of_decide_eq_true (by kernel_rfl)) (of_decide_eq_true (by kernel_rfl)) (of_decide_eq_true (by kernel_rfl))
    (okL_S (ck14 (.inr rS_ok) (stEx_of (exI_num hr))) (okL_S (ck16 hb.2 (by simp) (by simp)) okL_nil okL_nil) (okL_S ck6 okL_nil okL_nil))
  ·cases h
 ·cases h
theorem okL_cnt {proc : List UInt8} {n : Int} (hp : nameB proc = true) (hr : 0 ≤ n ∧ n ≤ 15) {r : List St} (h : okL r) : okL (cntSt proc n :: r) :=
 okL_S (ck14 (.inr rS_ok) stEx_14) (okL_S (ck1 (.inl rfl) iS_ok (exI_num (by omega)))  okL_nil
  (okL_S (ck345 (.inr (.inr rfl)) (exI_num (by omega))) (okL_S (ck16 hp (by simp) (by simp [exI_nm iS_ok])) okL_nil (okL_S (ck1 (.inr rfl) iS_ok (exI_inc (.inl rfl))) okL_nil okL_nil)) okL_nil)) h
theorem each_made {name proc : List UInt8} {n : Int} (h : oneI name proc 0 15 n = 0) : MadeOk name [eachPr slNil name proc n] := by
 unfold oneI at h
 split at h
 ·rename_i hb
  split at h
  ·rename_i hr
   simp only [Bool.and_eq_true] at hb
   exact MadeOk.one hb.1 rfl (of_decide_eq_true (by kernel_rfl)) (of_decide_eq_true (by kernel_rfl)) (of_decide_eq_true (by kernel_rfl)) (okL_cnt hb.2 hr (okL_S ck6 okL_nil okL_nil))
  ·cases h
 ·cases h
theorem ret_made {name proc : List UInt8} {n p : Int} (h : retI name proc n p = 0) : MadeOk name [retPr slNil slNil name proc n p] := by
 unfold retI at h
 split at h
 ·rename_i hb
  split at h
  ·rename_i hr
   simp only [Bool.and_eq_true] at hb
   exact MadeOk.one hb.1 rfl (of_decide_eq_true (by kernel_rfl)) (of_decide_eq_true (by kernel_rfl)) (of_decide_eq_true (by kernel_rfl))
    (okL_S (ck1 (.inl rfl) nS_ok (exI_num (by omega))) okL_nil (okL_S (ck1 (.inl rfl) rS_ok (exI_num (by omega))) okL_nil
     (okL_S (ck345 (.inr (.inl rfl)) (exI_again ⟨hr.1, hr.2.1⟩))
      (okL_S (ck345 (.inl rfl) exI_pos) (okL_S (ck10 hr.2.2) okL_nil okL_nil)
       (okL_S (ck14 (.inr rS_ok) stEx_14) (okL_S (ck16 hb.2 (by simp) (by simp)) okL_nil okL_nil) (okL_S (ck1 (.inr rfl) nS_ok (exI_inc (.inr rfl))) okL_nil okL_nil)))
      (okL_S ck6 okL_nil okL_nil))))
  ·cases h
 ·cases h
theorem namedB_h {name : List UInt8} {n i : Nat} (h : namedB name n = true) (hi : i < n) : nameB (hS name (i + 1)) = true := by
 simp only [namedB, Bool.and_eq_true, List.all_eq_true, List.mem_range] at h
 exact h.2 i hi
theorem namedB_0 {name : List UInt8} {n : Nat} (h : namedB name n = true) : nameB name = true := by
 simp only [namedB, Bool.and_eq_true] at h
 exact h.1
theorem lim_made {name proc sem : List UInt8} {n : Int} (h : limI name proc sem n = 0) : MadeOk name (limPrs slNil name proc sem n) := by
 unfold limI at h
 split at h
 ·rename_i hb
  split at h
  ·rename_i hr
   simp only [Bool.and_eq_true] at hb
   obtain ⟨⟨hb, hp⟩, hq⟩ := hb
   have n0 := namedB_0 hb
   have n1 := namedB_h hb (i := 0) (by omega)
   have n2 := namedB_h hb (i := 1) (by omega)
   refine ⟨⟨_, _, rfl, rfl, rfl, rfl⟩, ⟨2, by omega, rfl⟩, ?_, ?_, ?_, ?_⟩
   ·intro p h
    simp only [limPrs, List.mem_cons, List.not_mem_nil, or_false] at h
    rcases h with rfl | rfl | rfl
    ·exact prFine (of_decide_eq_true (by kernel_rfl)) (of_decide_eq_true (by kernel_rfl))
    ·exact prFine (of_decide_eq_true (by kernel_rfl)) (of_decide_eq_true (by kernel_rfl))
    ·exact prFine (of_decide_eq_true (by kernel_rfl)) (of_decide_eq_true (by kernel_rfl))
   ·exact of_decide_eq_true (by kernel_rfl)
   ·intro p h
    simp only [limPrs, List.mem_cons, List.not_mem_nil, or_false] at h
    rcases h with rfl | rfl | rfl
    ·exact of_decide_eq_true (by kernel_rfl)
    ·exact of_decide_eq_true (by kernel_rfl)
    ·exact of_decide_eq_true (by kernel_rfl)
   ·intro p h
    simp only [limPrs, List.mem_cons, List.not_mem_nil, or_false] at h
    rcases h with rfl | rfl | rfl
    ·exact prCk (by omega) n0 (by simp) (by simp) (okL_cnt n1 hr (okL_S ck6 okL_nil okL_nil))
    ·exact prCk (by omega) n1 (by simp) (by simp [iS_ok]) (okL_O (ck19 (.inl rfl) hq) (okL_S (ck18 n2) okL_nil (okL_S (ck14 (.inl rfl) stEx_14) (okL_S (ck16 hp (by simp) (by simp [exI_nm iS_ok])) okL_nil okL_nil) okL_nil)))
    ·exact prCk (by omega) n2 (by simp) (by simp) (okL_O (ck19 (.inr rfl) hq) okL_nil)
  ·cases h
 ·cases h
theorem race_made {name : List UInt8} {l : List (List UInt8)} (h : raceI name l = 0) : MadeOk name (racePr slNil slNil name l) := by
 unfold raceI at h
 split at h
 ·rename_i hb
  have hl := sev_zero h
  have hal : ∀ s ∈ l, nameB s = true := by
   unfold sevI at h
   rw [if_neg hl.1, if_neg (by omega)] at h
   split at h
   ·rename_i ha; exact List.all_eq_true.1 ha
   ·cases h
  have hmin : min l.length 8 = l.length := by omega
  rw [hmin] at hb
  have n0 := namedB_0 hb
  have hn : ∀ s ∈ hL name l.length, nameB s = true := by
   intro s hs
   simp only [hL, List.mem_map, List.mem_range] at hs
   obtain ⟨i, hi, rfl⟩ := hs
   exact namedB_h hb hi
  have hmem : ∀ q ∈ hPrs slNil slNil name l, ∃ i s, i < l.length ∧ s ∈ l ∧ q = hPr slNil slNil name i s := by
   intro q hq
   simp only [hPrs, List.mem_map] at hq
   obtain ⟨⟨s, i⟩, hp, rfl⟩ := hq
   obtain ⟨h1, h2⟩ := List.mk_mem_zipIdx_iff_getElem?.1 hp |> fun h => (gEs.1 h)
   exact ⟨i, s, h1, List.mem_of_getElem? (List.mk_mem_zipIdx_iff_getElem?.1 hp), rfl⟩
  have c1 : (stS 14 [] (ofL 5 [zeroE, zeroE]) (ofL 8 (spawns slNil (hL name l.length)))).cost = 1 + l.length := by
   rw [St.cost_eq]; simp [stS, Cs.costs, St.costs, cost_spawns, hL_len, zeroE, exCost, exZero, Ex.of, Ex.kind, Ex.op, Ex.name, Ex.value, Ex.args]
  have c2 : ∀ i s, (hPr slNil slNil name i s).cost = 3 := fun i s => by kernel_rfl
  have c3 : ∀ (L : List Pr), (∀ q ∈ L, q.cost = 3) → (L.map Pr.cost).sum = 3 * L.length := by
   intro L
   induction L with
   | nil => intro _; rfl
   | cons a r ih => intro hh; simp only [List.map_cons, List.sum_cons, hh a (by simp), ih (fun q hq => hh q (by simp [hq])), List.length_cons]; omega
  refine ⟨⟨_, _, rfl, rfl, rfl, rfl⟩, ⟨l.length, by omega, ?_⟩, ?_, ?_, ?_, ?_⟩
  ·simp only [racePr, List.map_cons, prT]
   congr 1
   apply List.ext_getElem?
   intro i
   simp only [hPrs, hL, List.getElem?_map, List.getElem?_zipIdx, List.getElem?_range']
   by_cases hi : i < l.length
   ·simp [gEg, hi, hPr, prT, List.getElem?_range, hi]
   ·simp [List.getElem?_eq_none (by omega : l.length ≤ i), hi]
  ·intro p hp
   simp only [racePr, List.mem_cons] at hp
   rcases hp with rfl | hp
   ·refine prFine ?_ (by simp [prT])
    simp [prT, St.bigs, stS_big, spawns_big, Ex.sizes, zeroE, Ex.size, Ex.of, hL_len]; omega
   ·obtain ⟨i, s, _, _, rfl⟩ := hmem p hp
    exact prFine (of_decide_eq_true (by kernel_rfl)) (of_decide_eq_true (by kernel_rfl))
  ·simp only [racePr, List.map_cons, List.sum_cons]
   rw [c3 _ (fun q hq => by obtain ⟨i, s, _, _, rfl⟩ := hmem q hq; exact c2 i s), hPrs_len]
   simp only [Pr.cost, prT, ofL, St.costs, c1]; omega
  ·intro p hp
   simp only [racePr, List.mem_cons] at hp
   rcases hp with rfl | hp
   ·have h1 : (stS 14 [] (ofL 5 [zeroE, zeroE]) (ofL 8 (spawns slNil (hL name l.length)))).dep = 1 + St.deps (spawns slNil (hL name l.length)) := by
     rw [St.dep_eq]; simp [stS, Cs.deps, St.deps]
    have h3 := deps_spawns slNil (hL name l.length)
    simp only [prT, ofL, St.deps, h1]; omega
   ·obtain ⟨i, s, _, _, rfl⟩ := hmem p hp
    exact of_decide_eq_true (by kernel_rfl)
  ·intro p hp
   simp only [racePr, List.mem_cons] at hp
   rcases hp with rfl | hp
   ·exact prCk (by omega) n0 (by simp) (by simp) (okL_S (ck14 (.inl rfl) stEx_14) (okL_spawns hn (by simp) (by simp)) okL_nil)
   ·obtain ⟨i, s, hi, hs, rfl⟩ := hmem p hp
    exact prCk (by omega) (namedB_h hb hi) (by simp) (by simp) (okL_S (ck14 (.inl rfl) stEx_14) (okL_S (ck16 (hal s hs) (by simp) (by simp)) okL_nil okL_nil) (okL_S ck13 okL_nil okL_nil))
 ·cases h
end Go.Proofs.YtddpboiceemihaaGreatDoor
end
section
namespace Go.Proofs.YtddpboiceemihaaGreatDoor
open Go Go.RowKit
set_option linter.unusedVariables false
set_option linter.unusedSimpArgs false
set_option maxRecDepth 10000
def madeL (o : Or) : List Pr :=
 if o.kind = 0 then [allPr slNil slNil o.name o.procs.l]
 else if o.kind = 1 then racePr slNil slNil o.name o.procs.l
 else if o.kind = 2 then [tmoPr slNil slNil o.name (firstS o.procs.l) o.n]
 else if o.kind = 3 then [retPr slNil slNil o.name (firstS o.procs.l) o.n o.pause]
 else if o.kind = 4 then [eachPr slNil o.name (firstS o.procs.l) o.n]
 else limPrs slNil o.name (firstS o.procs.l) o.sem o.n
def madeI (o : Or) : Int :=
 if o.kind = 0 then allI o.name o.procs.l
 else if o.kind = 1 then raceI o.name o.procs.l
 else if o.kind = 2 then oneI o.name (firstS o.procs.l) 0 1099511627776 o.n
 else if o.kind = 3 then retI o.name (firstS o.procs.l) o.n o.pause
 else if o.kind = 4 then oneI o.name (firstS o.procs.l) 0 15 o.n
 else limI o.name (firstS o.procs.l) o.sem o.n
theorem e25 (o : Or) : W.pure 25 [o.av] = some (.tuple [Sl.av Pr.av 5 (if madeI o = 0 then ofL 5 (madeL o) else slNil), I (madeI o)]) := by
 rw [W_pure Φ25 (by simp)]
 have c0 := e16 o
 unfold madeL madeI
 by_cases h0 : o.kind = 0
 ·have c1 := e11 o.name o.procs
  have y := eq_true h0
  simp only [if_pos h0]
  clear h0
  simp [fi25, c25, evFun, enterFr, intBin, resV, rvVs, rvV, y, c1]
 by_cases h1 : o.kind = 1
 ·have c1 := e13 o.name o.procs
  have y := eq_true h1
  simp only [if_neg h0, if_pos h1]
  clear h1
  simp [fi25, c25, evFun, enterFr, intBin, resV, rvVs, rvV, h0, y, c1]
 by_cases h2 : o.kind = 2
 ·have c1 := e17 o.name (firstS o.procs.l) o.n
  have y := eq_true h2
  simp only [if_neg h0, if_neg h1, if_pos h2]
  clear h2
  simp [fi25, c25, evFun, enterFr, intBin, resV, rvVs, rvV, h0, h1, y, c0, c1]
 by_cases h3 : o.kind = 3
 ·have c1 := e19 o.name (firstS o.procs.l) o.n o.pause
  have y := eq_true h3
  simp only [if_neg h0, if_neg h1, if_neg h2, if_pos h3]
  clear h3
  simp [fi25, c25, evFun, enterFr, intBin, resV, rvVs, rvV, h0, h1, h2, y, c0, c1]
 by_cases h4 : o.kind = 4
 ·have c1 := e21 o.name (firstS o.procs.l) o.n
  have y := eq_true h4
  simp only [if_neg h0, if_neg h1, if_neg h2, if_neg h3, if_pos h4]
  clear h4
  simp [fi25, c25, evFun, enterFr, intBin, resV, rvVs, rvV, h0, h1, h2, h3, y, c0, c1]
 have c1 := e23 o.name (firstS o.procs.l) o.sem o.n
 simp only [if_neg h0, if_neg h1, if_neg h2, if_neg h3, if_neg h4]
 simp [fi25, c25, evFun, enterFr, intBin, resV, rvVs, rvV, h0, h1, h2, h3, h4, c0, c1]
theorem made_ok (o : Or) (h : madeI o = 0) : MadeOk o.name (madeL o) := by
 unfold madeI at h
 unfold madeL
 split at h
 ·rename_i z; rw [if_pos z]; exact all_made h
 ·rename_i z; rw [if_neg z]
  split at h
  ·rename_i z; rw [if_pos z]; exact race_made h
  ·rename_i z; rw [if_neg z]
   split at h
   ·rename_i z; rw [if_pos z]; exact tmo_made h
   ·rename_i z; rw [if_neg z]
    split at h
    ·rename_i z; rw [if_pos z]; exact ret_made h
    ·rename_i z; rw [if_neg z]
     split at h
     ·rename_i z; rw [if_pos z]; exact each_made h
     ·rename_i z; rw [if_neg z]; exact lim_made h
end Go.Proofs.YtddpboiceemihaaGreatDoor
end
