/-
  That light code stands for the program's, checked by evaluation (conditions: none).
-/
import Derived.KernelRfl
import Derived.Test.YtddpboiceemihaaGreatDoorOmegas
namespace Go.Proofs.YtddpboiceemihaaGreatDoor
open Go Go.RowKit
set_option linter.unusedVariables false
set_option linter.unusedSimpArgs false
def AV.eq1 : AV → AV → Bool
 | .bad, .bad => true
 | .und, .und => true
 | .bool a, .bool b => a == b
 | .int k a, .int k' b => decide (k = k') && decide (a = b)
 | .str a, .str b => decide (a = b)
 | .nilp, .nilp => true
 | .nilf, .nilf => true
 | .nili, .nili => true
 | .nilm, .nilm => true
 | .unk k, .unk k' => decide (k = k')
 | .isl (some true) 0 [], .isl (some true) 0 [] => true
 | .clo f [] [], .clo g [] [] => decide (f = g)
 | _, _ => false
theorem AV.eq1_ok {a b : AV} (h : AV.eq1 a b = true) : a = b := by
 unfold AV.eq1 at h
 split at h <;> simp_all
def AV.eqs : List AV → List AV → Bool
 | [], [] => true
 | a :: l, b :: m => AV.eq1 a b && AV.eqs l m
 | _, _ => false
theorem AV.eqs_ok : ∀ {l m : List AV}, AV.eqs l m = true → l = m
 | [], [], _ => rfl
 | a :: l, b :: m, h => by
  simp only [AV.eqs, Bool.and_eq_true] at h
  rw [AV.eq1_ok h.1, AV.eqs_ok h.2]
 | [], _ :: _, h => by simp [AV.eqs] at h
 | _ :: _, [], h => by simp [AV.eqs] at h
def AV.eqC : AV → AV → Bool
 | .agg a, .agg b => AV.eqs a b
 | .eptr a, .eptr b => AV.eqs a b
 | a, b => AV.eq1 a b
theorem AV.eqC_ok {a b : AV} (h : AV.eqC a b = true) : a = b := by
 unfold AV.eqC at h
 split at h
 ·rw [AV.eqs_ok h]
 ·rw [AV.eqs_ok h]
 ·exact AV.eq1_ok h
def Src.eqB : Src → Src → Bool
 | .t i, .t j => decide (i = j)
 | .c v, .c w => AV.eqC v w
 | _, _ => false
theorem Src.eqB_ok {a b : Src} (h : Src.eqB a b = true) : a = b := by
 cases a <;> cases b <;> simp only [Src.eqB, decide_eq_true_eq, Bool.false_eq_true] at h
 ·rw [h]
 ·rw [AV.eqC_ok h]
def Src.eqsB : List Src → List Src → Bool
 | [], [] => true
 | a :: l, b :: m => Src.eqB a b && Src.eqsB l m
 | _, _ => false
theorem Src.eqsB_ok : ∀ {l m : List Src}, Src.eqsB l m = true → l = m
 | [], [], _ => rfl
 | a :: l, b :: m, h => by
  simp only [Src.eqsB, Bool.and_eq_true] at h
  rw [Src.eqB_ok h.1, Src.eqsB_ok h.2]
 | [], _ :: _, h => by simp [Src.eqsB] at h
 | _ :: _, [], h => by simp [Src.eqsB] at h
def OpK.eqB : OpK → OpK → Bool
 | .mv, .mv => true
 | .bin a, .bin b => decide (a = b)
 | .eqs n a, .eqs m b => n == m && decide (a = b)
 | .eqn p n, .eqn q m => p == q && n == m
 | .eqb n, .eqb m => n == m
 | .not, .not => true
 | .neg, .neg => true
 | .conv a, .conv b => decide (a = b)
 | .load i a n, .load j b m => i == j && a == b && decide (n = m)
 | .fld a, .fld b => decide (a = b)
 | .fldv a n o, .fldv b m p => a == b && decide (n = m) && decide (o = p)
 | .idxa i a, .idxa j b => i == j && decide (a = b)
 | .idxs, .idxs => true
 | .len a, .len b => a == b
 | .ext a, .ext b => decide (a = b)
 | .nilchk, .nilchk => true
 | .bld z p, .bld y q => AV.eqs z y && decide (p = q)
 | .clo f n, .clo g m => decide (f = g) && decide (n = m)
 | .slc i a n l h, .slc j b m l' h' => i == j && a == b && decide (n = m) && l == l' && h == h'
 | .call f, .call g => decide (f = g)
 | .pcall f, .pcall g => decide (f = g)
 | .pubcall f, .pubcall g => decide (f = g)
 | .fcall f, .fcall g => decide (f = g)
 | .callv, .callv => true
 | .box n, .box m => decide (n = m)
 | .store n, .store m => decide (n = m)
 | .storeA n, .storeA m => decide (n = m)
 | .appA n, .appA m => decide (n = m)
 | .bsl i n l z p, .bsl j m l' y q => i == j && decide (n = m) && decide (l = l') && AV.eqC z y && decide (p = q)
 | .mksl n z, .mksl m y => decide (n = m) && AV.eqC z y
 | .appz n z, .appz m y => decide (n = m) && AV.eqC z y
 | .app n, .app m => decide (n = m)
 | .mn, .mn => true
 | .mx, .mx => true
 | .idxp a b, .idxp c d => decide (a = c) && decide (b = d)
 | .boxT a b, .boxT c d => decide (a = c) && decide (b = d)
 | .loadB a n, .loadB b m => a == b && decide (n = m)
 | .storeB n, .storeB m => decide (n = m)
 | .apps, .apps => true
 | .appB, .appB => true
 | .boxH t s, .boxH t' s' => decide (t = t') && decide (s = s')
 | .appH t s, .appH t' s' => decide (t = t') && decide (s = s')
 | .cap0, .cap0 => true
 | .emp, .emp => true
 | .lenm, .lenm => true
 | .rngs, .rngs => true
 | .nxt, .nxt => true
 | .mkslH t s z, .mkslH t' s' z' => decide (t = t') && decide (s = s') && AV.eqC z z'
 | .clr n z, .clr m y => decide (n = m) && AV.eqC z y
 | .mkmap, .mkmap => true
 | .s2b, .s2b => true
 | .b2s, .b2s => true
 | .mput n, .mput m => decide (n = m)
 | .mget n o z, .mget m p y => decide (n = m) && o == p && AV.eqC z y
 | _, _ => false
theorem OpK.eqB_ok {a b : OpK} (h : OpK.eqB a b = true) : a = b := by
 unfold OpK.eqB at h
 split at h <;> simp only [Bool.and_eq_true, decide_eq_true_eq, beq_iff_eq, Bool.false_eq_true] at h
 all_goals first
  | rfl
  | (subst h; rfl)
  | (obtain ⟨h1, h2⟩ := h; rw [AV.eqs_ok h1, h2])
  | (obtain ⟨⟨⟨⟨h1, h2⟩, h3⟩, h4⟩, h5⟩ := h; rw [h1, h2, h3, AV.eqC_ok h4, h5])
  | (obtain ⟨h1, h2⟩ := h; rw [h1, AV.eqC_ok h2])
  | (obtain ⟨⟨h1, h2⟩, h3⟩ := h; rw [h1, h2, AV.eqC_ok h3])
  | (obtain ⟨⟨⟨⟨h1, h2⟩, h3⟩, h4⟩, h5⟩ := h; rw [h1, h2, h3, h4, h5])
  | (obtain ⟨⟨h1, h2⟩, h3⟩ := h; rw [h1, h2, h3])
  | (obtain ⟨h1, h2⟩ := h; rw [h1, h2])
  | cases h
def LK.eqB : LK → LK → Bool
 | .op k xs, .op k' xs' => OpK.eqB k k' && Src.eqsB xs xs'
 | .pick c a b, .pick c' a' b' => decide (c = c') && Src.eqB a a' && Src.eqB b b'
 | _, _ => false
theorem LK.eqB_ok {a b : LK} (h : LK.eqB a b = true) : a = b := by
 cases a <;> cases b <;> simp only [LK.eqB, Bool.and_eq_true, decide_eq_true_eq, Bool.false_eq_true] at h
 ·rw [OpK.eqB_ok h.1, Src.eqsB_ok h.2]
 ·rw [h.1.1, Src.eqB_ok h.1.2, Src.eqB_ok h.2]
def LI.eqB (a b : LI) : Bool := decide (a.dst = b.dst) && LK.eqB a.k b.k && decide (a.g = b.g)
theorem LI.eqB_ok {a b : LI} (h : LI.eqB a b = true) : a = b := by
 obtain ⟨d, k, g⟩ := a
 obtain ⟨d', k', g'⟩ := b
 simp only [LI.eqB, Bool.and_eq_true, decide_eq_true_eq] at h
 rw [h.1.1, LK.eqB_ok h.1.2, h.2]
def lisB (P : Program) (N : Nat) (ops : Array Oper) : List Oper → List LI → Bool
 | [], [] => true
 | o :: r, i :: l => (match liteI P N ops o with | some j => LI.eqB j i.erase | none => false) && lisB P N ops r l
 | _, _ => false
theorem lisB_ok {P : Program} {N : Nat} {ops : Array Oper} : ∀ {r : List Oper} {l : List LI}, lisB P N ops r l = true → liteIs P N ops r = some (l.map LI.erase)
 | [], [], _ => rfl
 | o :: r, i :: l, h => by
  simp only [lisB, Bool.and_eq_true] at h
  obtain ⟨h1, h2⟩ := h
  split at h1
  ·rename_i j hj
   simp only [liteIs, hj, lisB_ok h2, LI.eqB_ok h1, List.map_cons]
  ·cases h1
 | [], _ :: _, h => by simp [lisB] at h
 | _ :: _, [], h => by simp [lisB] at h
def oSrcB (o : Operand) (s : Src) : Bool := match srcOf o with | some t => Src.eqB t s | none => false
theorem oSrcB_ok {o : Operand} {s : Src} (h : oSrcB o s = true) : srcOf o = some s := by
 unfold oSrcB at h
 split at h
 ·rename_i t ht; rw [ht, Src.eqB_ok h]
 ·cases h
def standsB (P : Program) (N : Nat) : LC → Code → Bool
 | .any, _ => true
 | .hol _ a, c => standsB P N a c
 | .skip, .skip => true
 | .ret, .ret => true
 | .exit i, .exit j => decide (i = j)
 | .reg d inn out l, .region _ ops d' => d == d' && lisB P N ops ops.toList (flatIs none l) && chkReg inn l && (!d || drawB ops (flatIs none l))
 | .seq a b, .seq a' b' => standsB P N a a' && standsB P N b b'
 | .cond c a b, .cond c' a' b' => oSrcB c' c && standsB P N a a' && standsB P N b b'
 | .block id _ b, .block id' b' => decide (id = id') && standsB P N b b'
 | .loop _ b, .loop b' => standsB P N b b'
 | .rng f ps _ ac bd, .rangeFunc f' ps' ac' bd' => oSrcB f' f && decide (ps'.toList = ps) && (ps.all fun p => decide (p < N)) && noRng ac && noRng bd && standsB P N ac ac' && standsB P N bd bd'
 | _, _ => false
theorem standsB_ok {P : Program} {N : Nat} : ∀ {lc : LC} {c : Code}, standsB P N lc c = true → Stands P N lc c := by
 intro lc
 induction lc with
 | any => intro c h; cases c <;> trivial
 | hol ts a ih => intro c h; simp only [standsB] at h; simp only [Stands]; exact ih h
 | skip => intro c h; cases c <;> simp only [standsB, Bool.false_eq_true] at h; trivial
 | ret => intro c h; cases c <;> simp only [standsB, Bool.false_eq_true] at h; trivial
 | exit i => intro c h; cases c <;> simp only [standsB, Bool.false_eq_true, decide_eq_true_eq] at h; exact h
 | reg d inn out l =>
  intro c h
  cases c <;> simp only [standsB, Bool.false_eq_true, Bool.and_eq_true, beq_iff_eq, Bool.or_eq_true, Bool.not_eq_true'] at h
  obtain ⟨⟨⟨h1, h2⟩, h3⟩, h4⟩ := h
  exact ⟨h1, lisB_ok h2, h3, fun hd => h4.elim (fun h5 => absurd (hd.symm.trans h5) (by decide)) id⟩
 | seq a b iha ihb =>
  intro c h
  cases c <;> simp only [standsB, Bool.false_eq_true, Bool.and_eq_true] at h
  exact ⟨iha h.1, ihb h.2⟩
 | cond x a b iha ihb =>
  intro c h
  cases c <;> simp only [standsB, Bool.false_eq_true, Bool.and_eq_true] at h
  exact ⟨oSrcB_ok h.1.1, iha h.1.2, ihb h.2⟩
 | block id live b ih =>
  intro c h
  cases c <;> simp only [standsB, Bool.false_eq_true, Bool.and_eq_true, decide_eq_true_eq] at h
  exact ⟨h.1, ih h.2⟩
 | loop live b ih =>
  intro c h
  cases c <;> simp only [standsB, Bool.false_eq_true] at h
  exact ih h
 | rng f ps inn ac bd iha ihb =>
  intro c h
  cases c <;> simp only [standsB, Bool.false_eq_true, Bool.and_eq_true, decide_eq_true_eq] at h
  obtain ⟨⟨⟨⟨⟨⟨h1, h2⟩, h3⟩, h4⟩, h5⟩, h6⟩, h7⟩ := h
  exact ⟨oSrcB_ok h1, by rw [← h2], h3, h4, h5, iha h6, ihb h7⟩
def resB (P : Program) : RV → ResultVar → Bool
 | .tmp t, .tmp t' => decide (t = t')
 | .cell t g n, .cell a ty => decide (t = a) && decide (aggT P ty = some g) && decide (szT P ty = some n)
 | _, _ => false
def ressB (P : Program) : List RV → List ResultVar → Bool
 | [], [] => true
 | a :: l, b :: m => resB P a b && ressB P l m
 | _, _ => false
theorem ressB_ok {P : Program} : ∀ {l : List RV} {m : List ResultVar}, ressB P l m = true → ressOk P l m
 | [], [], _ => trivial
 | a :: l, b :: m, h => by
  simp only [ressB, Bool.and_eq_true] at h
  refine ⟨?_, ressB_ok h.2⟩
  have h1 := h.1
  cases a <;> cases b <;> simp only [resB, Bool.false_eq_true, decide_eq_true_eq, Bool.and_eq_true] at h1
  ·exact h1
  ·exact ⟨h1.1.1, h1.1.2, h1.2⟩
 | [], _ :: _, h => by simp [ressB] at h
 | _ :: _, [], h => by simp [ressB] at h
def fnOKB (P : Program) (f : FuncId) (fi : FI) : Bool :=
 match P.funcs[f]? with
 | some fn => match fn.body with
  | some code => (fn.name == "runtime.NumGoroutine") == false && decide (fn.ntmps = fi.ntmps) && decide (fi.np ≤ fi.ntmps) && standsB P fi.ntmps fi.lc code && ressB P fi.res fn.results.toList
  | none => false
 | none => false
theorem fnOKB_ok {P : Program} {f : FuncId} {fi : FI} (h : fnOKB P f fi = true) : FnOK P f fi := by
 unfold fnOKB at h
 split at h
 ·rename_i fn h1
  split at h
  ·rename_i code h2
   simp only [Bool.and_eq_true, decide_eq_true_eq, beq_iff_eq] at h
   obtain ⟨⟨⟨⟨a, b⟩, c⟩, d⟩, e⟩ := h
   exact ⟨fn, code, h1, h2, a, b, c, standsB_ok d, ressB_ok e⟩
  ·cases h
 ·cases h
def look (l : List (Nat × FI)) (f : FuncId) : Option FI := match l with | [] => none | p :: r => if f = p.1 then some p.2 else look r f
def allOK (P : Program) : List (Nat × FI) → Prop | [] => True | p :: r => fnOKB P p.1 p.2 = true ∧ allOK P r
theorem allOK_nil (P : Program) : allOK P [] ↔ True := Iff.rfl
theorem allOK_cons (P : Program) (f : Nat) (fi : FI) (r : List (Nat × FI)) : allOK P ((f, fi) :: r) ↔ fnOKB P f fi = true ∧ allOK P r := Iff.rfl
theorem look_ok {P : Program} : ∀ {l : List (Nat × FI)}, allOK P l → ∀ f fi, look l f = some fi → FnOK P f fi
 | [], _, f, fi, h => by simp [look] at h
 | p :: r, hl, f, fi, h => by
  unfold look at h
  split at h
  ·rename_i hf
   cases h
   rw [hf]; exact fnOKB_ok hl.1
  ·exact look_ok hl.2 f fi h
end Go.Proofs.YtddpboiceemihaaGreatDoor
