/-
  Plain structures for the program's, printed by a program of mine (conditions: none). The example (conditions: none). The small functions that combinations are made of (conditions: none). Names of tasks; All of both sides (conditions: none). All of both sides (conditions: none). combinator.Race (conditions: none). Race of the reference (conditions: none). Race of the reference, whole (conditions: none). What All and Race of both sides make is the same (conditions: none). CombinatorLists, as a law of plain values (conditions: none).
-/
import Derived.Test.YtddpboiceemihaaGreatDoorAB
import Derived.Test.YtddpboiceemihaaGreatDoorPre
namespace Go.Proofs.YtddpboiceemihaaGreatDoor
section
open Go Go.RowKit
set_option linter.unusedVariables false
set_option linter.unusedSimpArgs false

structure Or where
  kind : Int
  name : (List UInt8)
  procs : (Sl (List UInt8))
  sem : (List UInt8)
  n : Int
  pause : Int
  deriving DecidableEq, Inhabited
def Or.av (s : Or) : AV := .agg [I s.kind, .str s.name, Sl.av AV.str 1 s.procs, .str s.sem, I s.n, I s.pause]
section
variable {s t : Or} {H : Heap} {es : List AV} {k : Nat}
@[simp] theorem Or_okO : okO s.av = some s.av := rfl
@[simp] theorem Or_ok : s.av.ok = true := rfl
@[simp] theorem Or_flat : s.av.flat = true := rfl
@[simp] theorem Or_len : s.av.cells.length = 6 := rfl
@[simp] theorem Or_cell : s.av.cells.all AV.cell = true := rfl
@[simp] theorem Or_still : s.av.cells.all AV.still = true := rfl
@[simp] theorem Or_still2 : (∀ x, x ∈ s.av.cells → AV.still x = true) ↔ True := by simp only [iff_true]; exact List.all_eq_true.1 Or_still
@[simp] theorem Or_cell2 : (∀ x, x ∈ s.av.cells → AV.cell x = true) ↔ True := by simp only [iff_true]; exact List.all_eq_true.1 Or_cell
@[simp] theorem Or_frz (n : Nat) : frz H (n + 2) s.av = some s.av := rfl
@[simp] theorem Or_frz0 (n : Nat) : frzs (frz H (n + 1)) s.av.cells = some s.av.cells := rfl
@[simp] theorem Or_whole : ldCells true 6 s.av.cells = s.av := rfl
@[simp] theorem Or_fold : AV.agg s.av.cells = s.av := rfl
theorem Or_mk (kind : Int) (name : (List UInt8)) (procs : (Sl (List UInt8))) (sem : (List UInt8)) (n : Int) (pause : Int) : (.agg [I kind, .str name, Sl.av AV.str 1 procs, .str sem, I n, I pause] : AV) = (Or.mk kind name procs sem n pause).av := rfl
@[simp] theorem Or_ld_kind : ldCells false 1 s.av.cells = I s.kind := rfl
@[simp] theorem Or_fv_kind : fldvV false 1 0 s.av = I s.kind := rfl
@[simp] theorem Or_st_kind (x : Int) : setElem [s.av] 0 0 (I x) = some [({ s with kind := x } : Or).av] := rfl
@[simp] theorem Or_stm_kind (l : List Or) (x : Int) : setElem (l.map Or.av) k 0 (I x) = l[k]?.map fun s => (l.set k { s with kind := x }).map Or.av := by
  cases h : l[k]? with
  | none => simp [setElem, h]
  | some s => simp only [setElem, List.getElem?_map, h, Option.map_some, List.map_set]; rfl
@[simp] theorem Or_ld_name : ldCells false 1 s.av.cells.tail = .str s.name := rfl
@[simp] theorem Or_fv_name : fldvV false 1 1 s.av = .str s.name := rfl
@[simp] theorem Or_st_name (x : (List UInt8)) : setElem [s.av] 0 1 (.str x) = some [({ s with name := x } : Or).av] := rfl
@[simp] theorem Or_stm_name (l : List Or) (x : (List UInt8)) : setElem (l.map Or.av) k 1 (.str x) = l[k]?.map fun s => (l.set k { s with name := x }).map Or.av := by
  cases h : l[k]? with
  | none => simp [setElem, h]
  | some s => simp only [setElem, List.getElem?_map, h, Option.map_some, List.map_set]; rfl
@[simp] theorem Or_ld_procs : ldCells false 1 (s.av.cells.drop 2) = Sl.av AV.str 1 s.procs := rfl
@[simp] theorem Or_fv_procs : fldvV false 1 2 s.av = Sl.av AV.str 1 s.procs := rfl
@[simp] theorem Or_st_procs (x : (Sl (List UInt8))) : setElem [s.av] 0 2 (Sl.av AV.str 1 x) = some [({ s with procs := x } : Or).av] := rfl
@[simp] theorem Or_stm_procs (l : List Or) (x : (Sl (List UInt8))) : setElem (l.map Or.av) k 2 (Sl.av AV.str 1 x) = l[k]?.map fun s => (l.set k { s with procs := x }).map Or.av := by
  cases h : l[k]? with
  | none => simp [setElem, h]
  | some s => simp only [setElem, List.getElem?_map, h, Option.map_some, List.map_set]; rfl
@[simp] theorem Or_ld_sem : ldCells false 1 (s.av.cells.drop 3) = .str s.sem := rfl
@[simp] theorem Or_fv_sem : fldvV false 1 3 s.av = .str s.sem := rfl
@[simp] theorem Or_st_sem (x : (List UInt8)) : setElem [s.av] 0 3 (.str x) = some [({ s with sem := x } : Or).av] := rfl
@[simp] theorem Or_stm_sem (l : List Or) (x : (List UInt8)) : setElem (l.map Or.av) k 3 (.str x) = l[k]?.map fun s => (l.set k { s with sem := x }).map Or.av := by
  cases h : l[k]? with
  | none => simp [setElem, h]
  | some s => simp only [setElem, List.getElem?_map, h, Option.map_some, List.map_set]; rfl
@[simp] theorem Or_ld_n : ldCells false 1 (s.av.cells.drop 4) = I s.n := rfl
@[simp] theorem Or_fv_n : fldvV false 1 4 s.av = I s.n := rfl
@[simp] theorem Or_st_n (x : Int) : setElem [s.av] 0 4 (I x) = some [({ s with n := x } : Or).av] := rfl
@[simp] theorem Or_stm_n (l : List Or) (x : Int) : setElem (l.map Or.av) k 4 (I x) = l[k]?.map fun s => (l.set k { s with n := x }).map Or.av := by
  cases h : l[k]? with
  | none => simp [setElem, h]
  | some s => simp only [setElem, List.getElem?_map, h, Option.map_some, List.map_set]; rfl
@[simp] theorem Or_ld_pause : ldCells false 1 (s.av.cells.drop 5) = I s.pause := rfl
@[simp] theorem Or_fv_pause : fldvV false 1 5 s.av = I s.pause := rfl
@[simp] theorem Or_st_pause (x : Int) : setElem [s.av] 0 5 (I x) = some [({ s with pause := x } : Or).av] := rfl
@[simp] theorem Or_stm_pause (l : List Or) (x : Int) : setElem (l.map Or.av) k 5 (I x) = l[k]?.map fun s => (l.set k { s with pause := x }).map Or.av := by
  cases h : l[k]? with
  | none => simp [setElem, h]
  | some s => simp only [setElem, List.getElem?_map, h, Option.map_some, List.map_set]; rfl
@[simp] theorem Or_st_all (x : Or) : setElem [s.av] 0 0 x.av = some [x.av] := rfl
@[simp] theorem Or_st_new (x : Or) : setElem [.agg [.int .i64 0, .str [], .isl (some true) 0 [], .str [], .int .i64 0, .int .i64 0]] 0 0 x.av = some [x.av] := rfl
@[simp] theorem Or_stm_all (l : List Or) (x : Or) : setElem (l.map Or.av) k 0 x.av = l[k]?.map fun _ => (l.set k x).map Or.av := by
  cases h : l[k]? with
  | none => simp [setElem, h]
  | some s => simp only [setElem, List.getElem?_map, h, Option.map_some, List.map_set]; rfl
def orSh : List Sh := [.int .i64, .str, .sl false [.str], .str, .int .i64, .int .i64]
def Or.wf (s : Or) : Prop := (Lit.int .i64 s.kind).wf = true ∧ s.name.length ≤ maxLen ∧ SlOk (fun n => n.length ≤ maxLen) s.procs ∧ s.sem.length ≤ maxLen ∧ (Lit.int .i64 s.n).wf = true ∧ (Lit.int .i64 s.pause).wf = true ∧ True
theorem Or_of {e : AV} (hr : RowOk true 6 e) (hv : ∀ (j : Nat) (c : AV) (s : Sh), (AV.cells e)[j]? = some c → orSh[j]? = some s → ShOk s c) : ∃ s : Or, e = s.av ∧ s.wf := by
  obtain ⟨cs, rfl, hl⟩ := hr.1 rfl
  match cs, hl with
  | [a0, a1, a2, a3, a4, a5], _ =>
    obtain ⟨n0, rfl, w0⟩ := sh_int (hv 0 _ _ rfl rfl)
    obtain ⟨n1, rfl, w1⟩ := sh_str (hv 1 _ _ rfl rfl)
    obtain ⟨n2, h2, w2⟩ := sl_of (f := AV.str) row_str (hv 2 _ _ rfl rfl)
    subst h2
    obtain ⟨n3, rfl, w3⟩ := sh_str (hv 3 _ _ rfl rfl)
    obtain ⟨n4, rfl, w4⟩ := sh_int (hv 4 _ _ rfl rfl)
    obtain ⟨n5, rfl, w5⟩ := sh_int (hv 5 _ _ rfl rfl)
    exact ⟨⟨n0, n1, n2, n3, n4, n5⟩, rfl, w0, w1, w2, w3, w4, w5, trivial⟩
theorem Or_arg {a : AV} (h : PShOk (true, orSh) a) : ∃ s : Or, a = s.av ∧ s.wf := by
  obtain ⟨cs, rfl, h1, h2⟩ := h.1 rfl
  exact Or_of ⟨fun _ => ⟨_, rfl, h1⟩, fun h => by cases h⟩ (fun j c s hc hs => h2 j c s hc hs)
end
end
section
open Go Go.RowKit
set_option maxRecDepth 100000
theorem e10 : W.pure 10 [] = some (.bool true) := (le_om 300).pure _ _ _ (by kernel_rfl)
end
section
open Go Go.RowKit
set_option linter.unusedVariables false
set_option linter.unusedSimpArgs false
set_option maxRecDepth 10000

def nmE (s : List UInt8) : Ex := Ex.of 2 0 s 0 slNil
def numE (n : Int) : Ex := Ex.of 1 0 [] n slNil
def zeroE : Ex := Ex.of 0 0 [] 0 slNil
def binE (op : Int) (l : Sl Ex) : Ex := Ex.of 4 op [] 0 l
/-- A statement with a name, expressions and a body. -/
def stS (k : Int) (s : List UInt8) (es : Sl Ex) (b : Sl St) : St := St.of k 0 s slNil es b slNil slNil
def stO (k op : Int) (s : List UInt8) (es : Sl Ex) : St := St.of k op s slNil es slNil slNil slNil
def prT (s : List UInt8) (ps : Sl (List UInt8)) (b : Sl St) : Pr := Pr.mk 1 s ps 0 b
def rS : List UInt8 := [114, 95]
def nS : List UInt8 := [110, 95]
def iS : List UInt8 := [105, 95]

theorem e57 (n : Int) : W.pure 57 [I n] = some (numE n).av := (le_om 60).pure _ _ _ (by kernel_rfl)
theorem e59 (n : Int) : W.pure 59 [I n] = some (numE n).av := (le_om 60).pure _ _ _ (by kernel_rfl)
theorem e60 (s : List UInt8) : W.pure 60 [.str s] = some (nmE s).av := (le_om 60).pure _ _ _ (by kernel_rfl)
theorem e64 (s : List UInt8) : W.pure 64 [.str s] = some (nmE s).av := (le_om 60).pure _ _ _ (by kernel_rfl)
theorem e61 (op : Int) (l : Sl Ex) : W.pure 61 [I op, Sl.av Ex.av 5 l] = some (binE op l).av := by
  rw [Ex.av_eq]
  exact (le_om 60).pure _ _ _ (by kernel_rfl)
theorem e42 (s : List UInt8) (es : Sl Ex) : W.pure 42 [.str s, Sl.av Ex.av 5 es] = some (stS 16 s es slNil).av := (le_om 60).pure _ _ _ (by kernel_rfl)
theorem e48 (s : List UInt8) (es : Sl Ex) : W.pure 48 [.str s, Sl.av Ex.av 5 es] = some (stS 16 s es slNil).av := (le_om 60).pure _ _ _ (by kernel_rfl)
theorem e53 (k : Int) (s : List UInt8) (es : Sl Ex) : W.pure 53 [I k, .str s, Sl.av Ex.av 5 es] = some (stS k s es slNil).av := (le_om 60).pure _ _ _ (by kernel_rfl)
theorem e62 (k : Int) (s : List UInt8) (es : Sl Ex) (b : Sl St) : W.pure 62 [(stS k s es slNil).av, Sl.av St.av 8 b] = some (stS k s es b).av := by
  rw [St.av_eq (stS k s es b)]
  exact (le_om 60).pure _ _ _ (by kernel_rfl)
theorem e45 : W.pure 45 [] = some (stS 6 [] (ofL 5 [nmE rS]) slNil).av := (le_om 60).pure _ _ _ (by kernel_rfl)
theorem e51 : W.pure 51 [] = some (stS 6 [] (ofL 5 [nmE rS]) slNil).av := (le_om 60).pure _ _ _ (by kernel_rfl)
theorem e63 (s : List UInt8) : W.pure 63 [.str s] = some (stS 2 s (ofL 5 [binE 3 (ofL 5 [nmE s, numE 1])]) slNil).av := (le_om 60).pure _ _ _ (by kernel_rfl)
theorem e44 (s : List UInt8) (k o v : Int) (n : List UInt8) (l : Sl Ex) (b : Sl St) : W.pure 44 [.str s, (Ex.of k o n v l).av, Sl.av St.av 8 b] = some (stS 14 s (ofL 5 [Ex.of k o n v l, zeroE]) b).av := by
  rw [St.av_eq]
  exact (le_om 60).pure _ _ _ (by kernel_rfl)
theorem e50 (s : List UInt8) (k o v : Int) (n : List UInt8) (l : Sl Ex) (b : Sl St) : W.pure 50 [(Ex.of k o n v l).av, .str s, Sl.av St.av 8 b] = some (stS 14 s (ofL 5 [Ex.of k o n v l, zeroE]) b).av := by
  rw [St.av_eq]
  exact (le_om 60).pure _ _ _ (by kernel_rfl)
theorem e49 (s : List UInt8) (ps : Sl (List UInt8)) (b : Sl St) : W.pure 49 [.str s, Sl.av AV.str 1 ps, Sl.av St.av 8 b] = some (prT s ps b).av := (le_om 60).pure _ _ _ (by kernel_rfl)
theorem e66 (k : Int) (s : List UInt8) (k' o v : Int) (n : List UInt8) (l : Sl Ex) : W.pure 66 [I k, .str s, (Ex.of k' o n v l).av] = some (stS k s (ofL 5 [Ex.of k' o n v l]) slNil).av := (le_om 60).pure _ _ _ (by kernel_rfl)
theorem e65 (op k o v k' o' v' : Int) (n n' : List UInt8) (l l' : Sl Ex) : W.pure 65 [I op, (Ex.of k o n v l).av, (Ex.of k' o' n' v' l').av] = some (binE op (ofL 5 [Ex.of k o n v l, Ex.of k' o' n' v' l'])).av := (le_om 60).pure _ _ _ (by kernel_rfl)
/-- The name of a helper. -/
def hS (s : List UInt8) (i : Nat) : List UInt8 := s ++ [95] ++ [UInt8.ofNat (48 + i)]
theorem e97 (i : Nat) (hi : i < 10) : W.pure 97 [I i] = some (.str [UInt8.ofNat (48 + i)]) := by
  have h : Φ 97 = none := by kernel_rfl
  rw [om_pure]
  unfold pureV
  have hf : [AV.int .i64 i].all AV.flat = true := rfl
  rw [if_pos hf, h]
  have h1 : (i : Int) < 100 := by omega
  simp [ext, itoaA, dec2, h1, hi]
theorem e52 (s : List UInt8) (hs : s.length ≤ 1000) (i : Nat) (hi : i < 10) : W.pure 52 [.str s, I i] = some (.str (hS s i)) := by
  rw [W_pure Φ52 rfl]
  have e1 := e97 i hi
  have l1 : s.length + 1 ≤ 9223372036854775807 := by omega
  have l2 : s.length + 1 + 1 ≤ 9223372036854775807 := by omega
  simp [fi52, c52, evFun, enterFr, intBin, resV, rvVs, rvV, e1, hS, strBin, l1, l2]
theorem e54 (s : List UInt8) (hs : s.length ≤ 1000) (i : Nat) (hi : i < 10) : W.pure 54 [.str s, I i] = some (.str (hS s i)) := by
  rw [W_pure Φ54 rfl]
  have l1 : s.length + 1 ≤ 9223372036854775807 := by omega
  have l2 : s.length + 1 + 1 ≤ 9223372036854775807 := by omega
  have b0 : bytesOf [.int .u8 (IntKind.u8.wrap (IntKind.i64.wrap 48))] = some [48] := by rfl
  have b1 : bytesOf [.int .u8 (IntKind.u8.wrap (IntKind.i64.wrap 49))] = some [49] := by rfl
  have b2 : bytesOf [.int .u8 (IntKind.u8.wrap (IntKind.i64.wrap 50))] = some [50] := by rfl
  have b3 : bytesOf [.int .u8 (IntKind.u8.wrap (IntKind.i64.wrap 51))] = some [51] := by rfl
  have b4 : bytesOf [.int .u8 (IntKind.u8.wrap (IntKind.i64.wrap 52))] = some [52] := by rfl
  have b5 : bytesOf [.int .u8 (IntKind.u8.wrap (IntKind.i64.wrap 53))] = some [53] := by rfl
  have b6 : bytesOf [.int .u8 (IntKind.u8.wrap (IntKind.i64.wrap 54))] = some [54] := by rfl
  have b7 : bytesOf [.int .u8 (IntKind.u8.wrap (IntKind.i64.wrap 55))] = some [55] := by rfl
  have b8 : bytesOf [.int .u8 (IntKind.u8.wrap (IntKind.i64.wrap 56))] = some [56] := by rfl
  have b9 : bytesOf [.int .u8 (IntKind.u8.wrap (IntKind.i64.wrap 57))] = some [57] := by rfl
  have hi' : i = 0 ∨ i = 1 ∨ i = 2 ∨ i = 3 ∨ i = 4 ∨ i = 5 ∨ i = 6 ∨ i = 7 ∨ i = 8 ∨ i = 9 := by omega
  rcases hi' with rfl | rfl | rfl | rfl | rfl | rfl | rfl | rfl | rfl | rfl <;> simp [fi54, c54, evFun, enterFr, intBin, resV, rvVs, rvV, hS, strBin, l1, l2, b0, b1, b2, b3, b4, b5, b6, b7, b8, b9]
theorem foldE_bool {α : Type} (p : α → Bool) : ∀ (l : List α) (k : Nat), foldE (fun _ a (_ : Unit) => if p a = true then .inl () else (.inr () : Unit ⊕ Unit)) k l () = if l.all p = true then .inl () else .inr ()
  | [], k => rfl
  | a :: r, k => by
    simp only [foldE, List.all_cons]
    by_cases h : p a = true
    · simpa [h] using foldE_bool p r (k + 1)
    · simp [h]
/-- Are a name, and those of n helpers, names? -/
def namedB (s : List UInt8) (n : Nat) : Bool := nameB s && (List.range n).all fun i => nameB (hS s (i + 1))
theorem nameB_len {s : List UInt8} (h : nameB s = true) : s.length ≤ 30 := by simp [nameB, isNm] at h; exact h.1.2
theorem e40 (s : List UInt8) (n : Nat) (hn : n ≤ 8) : W.pure 40 [.str s, I n] = some (.bool (namedB s n)) := by
  rw [W_pure Φ40 rfl]
  have c1 := e56 s
  unfold namedB
  cases h : nameB s with
  | false => rw [h] at c1; simp [fi40, c40, evFun, enterFr, intBin, resV, rvVs, rvV, c1]
  | true =>
    rw [h] at c1
    have hl := nameB_len h
    have hL := loop_all (Φ := Φ) (live := [0, 9, 10]) (L := l40_0) (List.range n) (fun _ i (_ : Unit) => if nameB (hS s (i + 1)) = true then .inl () else (.inr () : Unit ⊕ Unit))
      (fun k _ F G => F = [(0, .str s), (9, I n), (10, I k)]) (fun _ y F G => y = .ret ∧ F.get 4 = .bool false) (fun _ y F G => y = .exit 0) (s := ()) (H := []) rfl ?_ ?_
    · rw [foldE_bool (fun i => nameB (hS s (i + 1)))] at hL
      obtain ⟨c, F', H', e1, e2⟩ := okC_iff.1 hL
      simp only [Int.natCast_zero] at e1
      cases hb : (List.range n).all fun i => nameB (hS s (i + 1)) with
      | true =>
        rw [hb, if_pos rfl] at e2
        simp only [EndOk_inl] at e2
        subst e2
        simp [fi40, c40, evFun, enterFr, intBin, resV, rvVs, rvV, c1, e1]
      | false =>
        rw [hb, if_neg (by simp)] at e2
        simp only [EndOk_inr] at e2
        obtain ⟨rfl, p⟩ := e2
        simp [fi40, c40, evFun, enterFr, intBin, resV, rvVs, rvV, c1, e1, p]
    · rintro k i ⟨⟩ F G hk hi rfl
      have hki : i = k := by rw [List.getElem?_range (by simpa using hk)] at hi; cases hi; rfl
      subst hki
      have hk' : i < n := by simpa using hk
      have hw := wrap_succ (k := i) (by omega)
      have e1 := e52 s (by omega) (i + 1) (by omega)
      have e2 := e56 (hS s (i + 1))
      simp only [Int.natCast_add, Int.cast_ofNat_Int] at e1
      cases hb : nameB (hS s (i + 1)) <;> rw [hb] at e2 <;> simp [evl40_0, b40_0, intBin, hk', hw, e1, e2]
    · rintro ⟨⟩ F G rfl
      simp [evl40_0, b40_0, intBin]
end
section
open Go Go.RowKit
set_option linter.unusedVariables false
set_option linter.unusedSimpArgs false
set_option maxRecDepth 10000

/-- Why some tasks cannot be combined. -/
def sevI (l : List (List UInt8)) : Int := if l = [] then 23 else if 8 < l.length then 4 else if l.all nameB = true then 0 else 5
theorem call102 (s : List UInt8) (H : Heap) : W.call (.clo 102 [] []) [.str s] H = some (.bool (!nameB s), H) := by
  rw [W_call Φ102]
  have e1 := e56 s
  cases h : nameB s <;> rw [h] at e1 <;> simp [fi102, c102, evFun, enterFr, intBin, resV, rvVs, rvV, e1]
theorem e41 (x : Sl (List UInt8)) : W.pure 41 [Sl.av AV.str 1 x] = some (I (sevI x.l)) := by
  rw [W_pure Φ41 rfl]
  unfold sevI
  by_cases h1 : x.l = []
  · simp [fi41, c41, evFun, enterFr, intBin, resV, rvVs, rvV, h1]
  by_cases h2 : 8 < x.l.length
  · have h2' : (8 : Int) < x.l.length := by omega
    simp [fi41, c41, evFun, enterFr, intBin, resV, rvVs, rvV, h1, h2, h2']
  have h2' : ¬ (8 : Int) < x.l.length := by omega
  obtain ⟨v, H', c1, rfl, c2⟩ := okV_iff.1 (any37 x (by omega) (.clo 102 [] []) rfl (fun s => !nameB s) [] (fun a _ H _ => by rw [call102]; exact ⟨rfl, Kept.refl _ _⟩))
  have h3 : x.l.any (fun s => !nameB s) = !x.l.all nameB := by rw [List.any_eq_not_all_not]; simp
  rw [h3] at c1
  cases h4 : x.l.all nameB <;> rw [h4] at c1 <;> simp at c1 <;> simp [fi41, c41, evFun, enterFr, intBin, resV, rvVs, rvV, h1, h2, h2', c1, h4]
theorem e46 (x : Sl (List UInt8)) (hx : x.l.length ≤ 1000000000) : W.pure 46 [Sl.av AV.str 1 x] = some (I (if x.l.all nameB = true then 0 else 5)) := by
  rw [W_pure Φ46 rfl]
  have hL := loop_all (Φ := Φ) (live := [0, 3]) (L := l46_0) x.l (fun _ s (_ : Unit) => if nameB s = true then .inl () else (.inr () : Unit ⊕ Unit))
    (fun k _ F G => F = [(0, Sl.av AV.str 1 x), (3, I k)]) (fun _ y F G => y = .ret ∧ F.get 2 = I 5) (fun _ y F G => y = .exit 0) (s := ()) (H := []) rfl ?_ ?_
  · rw [foldE_bool] at hL
    obtain ⟨c, F', H', e1, e2⟩ := okC_iff.1 hL
    simp only [Int.natCast_zero] at e1
    cases hb : x.l.all nameB with
    | true =>
      rw [hb, if_pos rfl] at e2
      simp only [EndOk_inl] at e2
      subst e2
      simp [fi46, c46, evFun, enterFr, intBin, resV, rvVs, rvV, e1]
    | false =>
      rw [hb, if_neg (by simp)] at e2
      simp only [EndOk_inr] at e2
      obtain ⟨rfl, p⟩ := e2
      simp [fi46, c46, evFun, enterFr, intBin, resV, rvVs, rvV, e1, p]
  · rintro k s ⟨⟩ F G hk hs rfl
    have hks : x.l[k] = s := (List.getElem?_eq_some_iff.1 hs).2
    have hw := wrap_succ (k := k) (by omega)
    have e1 := e104 s
    cases hb : nameB s <;> rw [hb] at e1 <;> simp [evl46_0, b46_0, intBin, hk, hks, hw, e1]
  · rintro ⟨⟩ F G rfl
    simp [evl46_0, b46_0, intBin]
theorem e47 (x : Sl (List UInt8)) : W.pure 47 [Sl.av AV.str 1 x] = some (I (sevI x.l)) := by
  rw [W_pure Φ47 rfl]
  unfold sevI
  by_cases h1 : x.l = []
  · simp [fi47, c47, evFun, enterFr, intBin, resV, rvVs, rvV, h1]
  by_cases h2 : 8 < x.l.length
  · have h2' : (8 : Int) < x.l.length := by omega
    simp [fi47, c47, evFun, enterFr, intBin, resV, rvVs, rvV, h1, h2, h2']
  have h2' : ¬ (8 : Int) < x.l.length := by omega
  have e1 := e46 x (by omega)
  cases h4 : x.l.all nameB <;> rw [h4] at e1 <;> simp at e1 <;> simp [fi47, c47, evFun, enterFr, intBin, resV, rvVs, rvV, h1, h2, h2', e1]

theorem Grow.app1 {H : Heap} {sz : Nat} {o : Option Nat} {v : AV} {l : List AV} (h : Grow H sz o v l) (x : AV) (hx : x.cells.all AV.cell = true) (hr : l.length < appRoom) :
    ∃ o' v' H', ex H (.app sz) [v, .isl (some false) sz [x]] = some (v', H') ∧ Grow H' sz o' v' (l ++ [x]) ∧ Kept o H H' ∧ ∀ i, o' = some i → o = some i ∨ (o = none ∧ i = H.length) := by
  obtain ⟨o', v', H', a1, a2, a3, a4, a5⟩ := h.app (y := .isl (some false) sz [x]) (xs := [x]) (by simp) (by simpa using hx) (by simp; omega)
  refine ⟨o', v', H', a1, a2, a3, fun i hi => ?_⟩
  rcases a4 with rfl | ⟨h1, h2, _⟩
  · exact .inl hi
  · rw [h2] at hi; cases hi; exact .inr ⟨h1, rfl⟩
/-- The statements that spawn tasks. -/
def spawns (es : Sl Ex) (l : List (List UInt8)) : List St := l.map fun s => stS 16 s es slNil
theorem Grow.pub {α : Type} {f : α → AV} {H : Heap} {sz : Nat} {o : Option Nat} {v : AV} {l : List α} (h : Grow H sz o v (l.map f)) (hf : ∀ x, (f x).cells.all AV.still = true) (hne : l ≠ []) :
    ∃ G, pub1 H v = (Sl.av f sz (ofL sz l), G) ∧ pubA H v = (Sl.av f sz (ofL sz l), G) ∧ G.length = H.length ∧ ∀ j, o ≠ some j → G[j]? = H[j]? := by
  cases o with
  | none => exact absurd (List.map_eq_nil_iff.1 h.2) hne
  | some id =>
    obtain ⟨ver, t, rfl, h2⟩ := h
    have ht : ((l.map f ++ t).drop 0).take (l.map f).length = l.map f := by
      rw [List.drop_zero, List.take_append_of_le_length (by simp), List.take_of_length_le (by simp)]
    have : pub1 H (.osl id ver 0 (l.map f).length) = (Sl.av f sz (ofL sz l), H.set id (.arr ver sz true (l.map f ++ t))) := by
      simp only [pub1, h2]
      rw [if_pos ⟨trivial, by simp, by rw [ht]; exact all_still hf l⟩, ht, ← isl_sl]
    exact ⟨_, this, this, by simp, fun j hj => List.getElem?_set_ne (fun e => hj (by rw [e]))⟩
theorem loop11 (name : List UInt8) (x : Sl (List UInt8)) (hx : x.l.length ≤ 8) : okC (W.loop [0, 7, 19, 20, 21] l11_0 [(0, .str name), (7, .isl (some true) 0 []), (19, Sl.av AV.str 1 x), (20, I x.l.length), (21, I 0)] [])
    (fun c F H' => c = .exit 0 ∧ F.get 0 = .str name ∧ ∃ o, Grow H' 8 o (F.get 7) ((spawns slNil x.l).map St.av)) := by
  have hL := loop_fold (Φ := Φ) (live := [0, 7, 19, 20, 21]) (L := l11_0) x.l (σ := Unit) (fun _ _ s => s)
    (fun k _ F G => ∃ v, F = [(0, .str name), (7, v), (19, Sl.av AV.str 1 x), (20, I x.l.length), (21, I k)] ∧ ∃ o, Grow G 8 o v ((spawns slNil (x.l.take k)).map St.av))
    (fun _ c F G => c = .exit 0 ∧ F.get 0 = .str name ∧ ∃ o, Grow G 8 o (F.get 7) ((spawns slNil x.l).map St.av)) (s := ()) (F := [(0, .str name), (7, .isl (some true) 0 []), (19, Sl.av AV.str 1 x), (20, I x.l.length), (21, I 0)]) (H := [])
    ⟨_, rfl, none, grow_nil _ _⟩ ?_ ?_
  · exact hL
  · rintro k s ⟨⟩ F G hk hs ⟨v, rfl, o, g1⟩
    have hks : x.l[k] = s := (List.getElem?_eq_some_iff.1 hs).2
    have hw := wrap_succ (k := k) (by omega)
    have e1 := e42 s slNil
    have hlen : ((spawns slNil (x.l.take k)).map St.av).length = k := by simp [spawns]; omega
    obtain ⟨o', v', G', a1, a2, a3, a4⟩ := g1.app1 (stS 16 s slNil slNil).av (by simp) (by rw [hlen]; simp [appRoom]; omega)
    have e2 : (Sl.av Ex.av 5 slNil : AV) = .isl (some true) 0 [] := rfl
    rw [e2] at e1
    simp [evl11_0, b11_0, intBin, hk, hks, hw, e1, g1.okO, a1, a2.okO]
    refine ⟨o', ?_⟩
    have hsp : spawns slNil (x.l.take (k + 1)) = spawns slNil (x.l.take k) ++ [stS 16 s slNil slNil] := by
      simp [spawns, List.take_add_one, hs]
    rw [hsp, List.map_append]
    exact a2
  · rintro ⟨⟩ F G ⟨v, rfl, o, g1⟩
    simp [evl11_0, b11_0, intBin]
    rw [List.take_of_length_le (by omega)] at g1
    exact ⟨o, g1⟩
end
section
open Go Go.RowKit
set_option linter.unusedVariables false
set_option linter.unusedSimpArgs false
set_option maxRecDepth 10000

theorem call103 (name : List UInt8) (hn : name.length ≤ 1000) (i : Nat) (hi : i < 10) (ps : Sl (List UInt8)) (b : Sl St) (id : Nat) (H : Heap) (h : H[id]? = some (.arr 0 1 false [.str name])) :
    W.call (.clo 103 [] [.optr id 0 0 0]) [I i, Sl.av AV.str 1 ps, Sl.av St.av 8 b] H = some ((prT (if i = 0 then name else hS name i) ps b).av, H ++ [.arr 0 5 false [(prT (if i = 0 then name else hS name i) ps b).av], .arr 0 5 false [(prT (if i = 0 then name else hS name i) ps b).av]]) := by
  rw [W_call Φ103]
  have p1 : ∀ B, (H ++ [B])[id]? = some (.arr 0 1 false [.str name]) := app_get h
  have p2 : ∀ B C, (H ++ [B, C])[id]? = some (.arr 0 1 false [.str name]) := app2_get h
  have m : ∀ s : List UInt8, (.agg [I 1, .str s, Sl.av AV.str 1 ps, I 0, Sl.av St.av 8 b] : AV) = (prT s ps b).av := fun s => rfl
  have st : ∀ s t : List UInt8, setElem [(prT s ps b).av] 0 1 (.str t) = some [(prT t ps b).av] := fun s t => rfl
  by_cases h0 : i = 0
  · subst h0
    simp [fi103, c103, evFun, enterFr, intBin, resV, rvVs, rvV, h, p1, p2, m, st, app_last, app2_0, app2_1, app2_s0, app2_s1, -getElem?_pos, List.getElem?_cons_zero]
  · have h0' : (0 : Int) < i := by omega
    have h0'' : 0 < i := by omega
    have e1 := e52 name hn i hi
    simp [fi103, c103, evFun, enterFr, intBin, resV, rvVs, rvV, h, p1, p2, m, st, h0, h0', h0'', e1, app_last, app2_0, app2_1, app2_s0, app2_s1, -getElem?_pos, List.getElem?_cons_zero]
theorem call43 (name : List UInt8) (H : Heap) : W.call (.clo 43 [] []) [.str name] H = some (.clo 103 [] [.optr H.length 0 0 0], H ++ [.arr 0 1 false [.str name]]) := by
  rw [W_call Φ43]
  simp [fi43, c43, evFun, enterFr, intBin, resV, rvVs, rvV, app_last, -getElem?_pos, List.getElem?_cons_zero]
/-- What All makes. -/
def allPr (es : Sl Ex) (ps : Sl (List UInt8)) (name : List UInt8) (l : List (List UInt8)) : Pr := prT name ps (ofL 8 [stS 14 rS (ofL 5 [zeroE, zeroE]) (ofL 8 (spawns es l)), stS 6 [] (ofL 5 [nmE rS]) slNil])
def allI (name : List UInt8) (l : List (List UInt8)) : Int := if nameB name = true then sevI l else 5
theorem e11 (name : List UInt8) (x : Sl (List UInt8)) : W.pure 11 [.str name, Sl.av AV.str 1 x] = some (.tuple [Sl.av Pr.av 5 (if allI name x.l = 0 then ofL 5 [allPr slNil slNil name x.l] else slNil), I (allI name x.l)]) := by
  rw [W_pure Φ11 rfl]
  have c1 := e40 name 0 (by omega)
  have c2 := e41 x
  have hnb : namedB name 0 = nameB name := by simp [namedB]
  rw [hnb] at c1
  unfold allI
  cases h1 : nameB name with
  | false => rw [h1] at c1; simp at c1; simp [fi11, c11, evFun, enterFr, intBin, resV, rvVs, rvV, c1]; rfl
  | true =>
  rw [h1] at c1
  simp at c1
  simp only [if_true]
  by_cases h2 : sevI x.l = 0
  rotate_left
  · simp [fi11, c11, evFun, enterFr, intBin, resV, rvVs, rvV, c1, c2, h2]; rfl
  have hx : x.l ≠ [] ∧ x.l.length ≤ 8 := by
    unfold sevI at h2
    split at h2
    · omega
    · rename_i hne
      split at h2
      · omega
      · exact ⟨hne, by omega⟩
  obtain ⟨c, F, H', d1, rfl, d2, o, d3⟩ := okC_iff.1 (loop11 name x hx.2)
  have hne : spawns slNil x.l ≠ [] := by simpa [spawns] using hx.1
  have d4 : Grow (H' ++ [.arr 0 1 false [.str name]]) 8 o (F.get 7) ((spawns slNil x.l).map St.av) := d3.kept (Kept.append none _ _) (by simp)
  obtain ⟨G, f1, f2, f3, f4⟩ := d4.pub (fun x => by simp) hne
  have ho : o ≠ some H'.length := by
    intro e
    subst e
    obtain ⟨ver, t, _, q⟩ := d3
    have := (List.getElem?_eq_some_iff.1 q).1
    omega
  have f5 : G[H'.length]? = some (.arr 0 1 false [.str name]) := by rw [f4 _ ho]; exact app_last _ _
  have d5 := call43 name H'
  have d6 := e44 rS 0 0 0 [] slNil (ofL 8 (spawns slNil x.l))
  have d7 := call103 name (by have := nameB_len h1; omega) 0 (by omega) slNil (ofL 8 [stS 14 rS (ofL 5 [zeroE, zeroE]) (ofL 8 (spawns slNil x.l)), stS 6 [] (ofL 5 [nmE rS]) slNil]) H'.length G f5
  have d8 := e45
  have z1 : (.agg [I 0, I 0, .str [], I 0, .isl (some true) 0 []] : AV) = (Ex.of 0 0 [] 0 slNil).av := rfl
  have pb : pubAs (H' ++ [.arr 0 1 false [.str name]]) [.str [114, 95], .agg [I 0, I 0, .str [], I 0, .isl (some true) 0 []], F.get 7] = ([.str [114, 95], .agg [I 0, I 0, .str [], I 0, .isl (some true) 0 []], (pubA (H' ++ [.arr 0 1 false [.str name]]) (F.get 7)).1], (pubA (H' ++ [.arr 0 1 false [.str name]]) (F.get 7)).2) := rfl
  rw [f2] at pb
  rw [← z1] at d6
  unfold rS zeroE at d6 d7
  have z2 : (Sl.av AV.str 1 slNil : AV) = .isl (some true) 0 [] := rfl
  have z3 : ∀ a b : St, (.isl (some false) 8 [a.av, b.av] : AV) = Sl.av St.av 8 (ofL 8 [a, b]) := fun a b => rfl
  have z4 : ∀ p : Pr, (.isl (some false) 5 [p.av] : AV) = Sl.av Pr.av 5 (ofL 5 [p]) := fun p => rfl
  rw [z2] at d7
  simp only [Int.natCast_zero, if_true, Int.cast_ofNat_Int] at d7
  simp [fi11, c11, evFun, enterFr, intBin, resV, rvVs, rvV, c1, c2, h2, d1, d2, d3.okO, d5, pb, d6, d8, z3, d7, z4, rS, zeroE, allPr]
/-- All of the reference. -/
theorem loop12 (name : List UInt8) (x : Sl (List UInt8)) (hx : x.l.length ≤ 8) (H0 : Heap) (v0 : AV) (o0 : Option Nat) (h0 : Grow H0 8 o0 v0 []) : okC (W.loop [0, 1, 8, 9] l12_0 [(0, .str name), (1, Sl.av AV.str 1 x), (8, v0), (9, I 0)] H0)
    (fun c F H' => c = .exit 0 ∧ F.keep [0, 8] = [(0, .str name), (8, F.get 8)] ∧ ∃ o, Grow H' 8 o (F.get 8) ((spawns (ofL 5 []) x.l).map St.av)) := by
  have hL := loop_fold (Φ := Φ) (live := [0, 1, 8, 9]) (L := l12_0) x.l (σ := Unit) (fun _ _ s => s)
    (fun k _ F G => ∃ v, F = [(0, .str name), (1, Sl.av AV.str 1 x), (8, v), (9, I k)] ∧ ∃ o, Grow G 8 o v ((spawns (ofL 5 []) (x.l.take k)).map St.av))
    (fun _ c F G => c = .exit 0 ∧ F.keep [0, 8] = [(0, .str name), (8, F.get 8)] ∧ ∃ o, Grow G 8 o (F.get 8) ((spawns (ofL 5 []) x.l).map St.av)) (s := ()) (F := [(0, .str name), (1, Sl.av AV.str 1 x), (8, v0), (9, I 0)]) (H := H0)
    ⟨_, rfl, o0, h0⟩ ?_ ?_
  · exact hL
  · rintro k s ⟨⟩ F G hk hs ⟨v, rfl, o, g1⟩
    have hks : x.l[k] = s := (List.getElem?_eq_some_iff.1 hs).2
    have hw := wrap_succ (k := k) (by omega)
    have e1 := e48 s (ofL 5 [])
    have hlen : ((spawns (ofL 5 []) (x.l.take k)).map St.av).length = k := by simp [spawns]; omega
    obtain ⟨o', v', G', a1, a2, a3, a4⟩ := g1.app1 (stS 16 s (ofL 5 []) slNil).av (by simp) (by rw [hlen]; simp [appRoom]; omega)
    have e2 : (Sl.av Ex.av 5 (ofL 5 []) : AV) = .isl (some false) 5 [] := rfl
    rw [e2] at e1
    simp [evl12_0, b12_0, intBin, hk, hks, hw, e1, g1.okO, a1, a2.okO]
    refine ⟨o', ?_⟩
    have hsp : spawns (ofL 5 []) (x.l.take (k + 1)) = spawns (ofL 5 []) (x.l.take k) ++ [stS 16 s (ofL 5 []) slNil] := by
      simp [spawns, List.take_add_one, hs]
    rw [hsp, List.map_append]
    exact a2
  · rintro ⟨⟩ F G ⟨v, rfl, o, g1⟩
    rw [List.take_of_length_le (by omega)] at g1
    simp [evl12_0, b12_0, intBin]
    exact ⟨o, g1⟩
theorem e12 (name : List UInt8) (x : Sl (List UInt8)) : W.pure 12 [.str name, Sl.av AV.str 1 x] = some (.tuple [Sl.av Pr.av 5 (if allI name x.l = 0 then ofL 5 [allPr (ofL 5 []) (ofL 1 []) name x.l] else ofL 5 []), I (allI name x.l)]) := by
  rw [W_pure Φ12 rfl]
  have c1 := e46 (ofL 1 [name]) (by simp)
  have c2 := e47 x
  have z0 : (Sl.av AV.str 1 (ofL 1 [name]) : AV) = .isl (some false) 1 [.str name] := rfl
  rw [z0] at c1
  unfold allI
  cases h1 : nameB name with
  | false => simp [h1] at c1; simp [fi12, c12, evFun, enterFr, intBin, resV, rvVs, rvV, c1]; rfl
  | true =>
  simp [h1] at c1
  simp only [if_true]
  by_cases h2 : sevI x.l = 0
  rotate_left
  · simp [fi12, c12, evFun, enterFr, intBin, resV, rvVs, rvV, c1, c2, h2]; rfl
  have hx : x.l ≠ [] ∧ x.l.length ≤ 8 := by
    unfold sevI at h2
    split at h2
    · omega
    · rename_i hne
      split at h2
      · omega
      · exact ⟨hne, by omega⟩
  obtain ⟨c, F, H', d1, rfl, d2, o, d3⟩ := okC_iff.1 (loop12 name x hx.2 [.arr 0 8 false []] (.osl 0 0 0 0) (some 0) (grow_mk (l := []) rfl))
  have hne : spawns (ofL 5 []) x.l ≠ [] := by simpa [spawns] using hx.1
  obtain ⟨G, f1, f2, f3, f4⟩ := d3.pub (fun x => by simp) hne
  have d6 := e50 rS 0 0 0 [] slNil (ofL 8 (spawns (ofL 5 []) x.l))
  have d7 := e49 name (ofL 1 []) (ofL 8 [stS 14 rS (ofL 5 [zeroE, zeroE]) (ofL 8 (spawns (ofL 5 []) x.l)), stS 6 [] (ofL 5 [nmE rS]) slNil])
  have d8 := e51
  have z1 : (.agg [I 0, I 0, .str [], I 0, .isl (some true) 0 []] : AV) = (Ex.of 0 0 [] 0 slNil).av := rfl
  have pb : pubAs H' [.agg [I 0, I 0, .str [], I 0, .isl (some true) 0 []], .str [114, 95], F.get 8] = ([.agg [I 0, I 0, .str [], I 0, .isl (some true) 0 []], .str [114, 95], (pubA H' (F.get 8)).1], (pubA H' (F.get 8)).2) := rfl
  rw [f2] at pb
  rw [← z1] at d6
  unfold rS zeroE at d6 d7
  have z2 : (Sl.av AV.str 1 (ofL 1 []) : AV) = .isl (some false) 1 [] := rfl
  have z3 : ∀ a b : St, (.isl (some false) 8 [a.av, b.av] : AV) = Sl.av St.av 8 (ofL 8 [a, b]) := fun a b => rfl
  have z4 : ∀ p : Pr, (.isl (some false) 5 [p.av] : AV) = Sl.av Pr.av 5 (ofL 5 [p]) := fun p => rfl
  rw [z2] at d7
  simp [fi12, c12, evFun, enterFr, intBin, resV, rvVs, rvV, c1, c2, h2, d1, d2, d3.okO, pb, d6, d8, z3, d7, z4, rS, zeroE, allPr]
end
section
open Go Go.RowKit
set_option linter.unusedVariables false
set_option linter.unusedSimpArgs false
set_option maxRecDepth 10000

theorem Grow.elems {H : Heap} {sz : Nat} {o : Option Nat} {v : AV} {l : List AV} (h : Grow H sz o v l) : elemsOf H sz v = some l := by
  cases o with
  | none => rw [h.1, h.2]; simp [elemsOf]
  | some id =>
    obtain ⟨ver, t, rfl, h2⟩ := h
    simp [elemsOf, h2]
theorem Grow.lt {H : Heap} {sz i : Nat} {v : AV} {l : List AV} (h : Grow H sz (some i) v l) : i < H.length := by
  obtain ⟨_, _, _, q⟩ := h
  exact (List.getElem?_eq_some_iff.1 q).1
/-- The names of helpers. -/
def hL (name : List UInt8) (n : Nat) : List (List UInt8) := (List.range n).map fun i => hS name (i + 1)
theorem hL_succ (name : List UInt8) (n : Nat) : hL name (n + 1) = hL name n ++ [hS name (n + 1)] := by simp [hL, List.range_succ]
theorem hL_len (name : List UInt8) (n : Nat) : (hL name n).length = n := by simp [hL]
/-- A helper of Race. -/
def hPr (es : Sl Ex) (ps : Sl (List UInt8)) (name : List UInt8) (i : Nat) (s : List UInt8) : Pr := prT (hS name (i + 1)) ps (ofL 8 [stS 14 [] (ofL 5 [zeroE, zeroE]) (ofL 8 [stS 16 s es slNil]), stS 13 [] slNil slNil])
def hPrs (es : Sl Ex) (ps : Sl (List UInt8)) (name : List UInt8) (l : List (List UInt8)) : List Pr := l.zipIdx.map fun p => hPr es ps name p.2 p.1
theorem hPrs_len (es : Sl Ex) (ps : Sl (List UInt8)) (name : List UInt8) (l : List (List UInt8)) : (hPrs es ps name l).length = l.length := by simp [hPrs]
theorem hPrs_succ (es : Sl Ex) (ps : Sl (List UInt8)) (name : List UInt8) (l : List (List UInt8)) (k : Nat) (s : List UInt8) (h : l[k]? = some s) : hPrs es ps name (l.take (k + 1)) = hPrs es ps name (l.take k) ++ [hPr es ps name k s] := by
  have hk := (List.getElem?_eq_some_iff.1 h).1
  have : (l.take k).length = k := by simp; omega
  simp [hPrs, List.take_add_one, h, List.zipIdx_append]
  congr 1
  omega
def racePr (es : Sl Ex) (ps : Sl (List UInt8)) (name : List UInt8) (l : List (List UInt8)) : List Pr := prT name ps (ofL 8 [stS 14 [] (ofL 5 [zeroE, zeroE]) (ofL 8 (spawns es (hL name l.length)))]) :: hPrs es ps name l
def raceI (name : List UInt8) (l : List (List UInt8)) : Int := if namedB name (min l.length 8) = true then sevI l else 5
theorem spawns_app (es : Sl Ex) (l m : List (List UInt8)) : spawns es (l ++ m) = spawns es l ++ spawns es m := by simp [spawns]
theorem sev_zero {l : List (List UInt8)} (h : sevI l = 0) : l ≠ [] ∧ l.length ≤ 8 := by
  unfold sevI at h
  split at h
  · omega
  · rename_i hne
    split at h
    · omega
    · exact ⟨hne, by omega⟩
set_option maxHeartbeats 2000000 in
theorem loop13 (name : List UInt8) (hn : name.length ≤ 1000) (x : Sl (List UInt8)) (hx : x.l.length ≤ 8) : okC (W.loop [0, 7, 8, 9, 25, 26, 27] l13_0 [(0, .str name), (7, .clo 103 [] [.optr 0 0 0 0]), (8, .isl (some true) 0 []), (9, .isl (some true) 0 []), (25, Sl.av AV.str 1 x), (26, I x.l.length), (27, I 0)] [.arr 0 1 false [.str name]])
    (fun c F G => c = .exit 0 ∧ F.keep [7, 8, 9] = [(7, .clo 103 [] [.optr 0 0 0 0]), (8, F.get 8), (9, F.get 9)] ∧ G[0]? = some (.arr 0 1 false [.str name]) ∧ ∃ o p, Grow G 8 o (F.get 8) ((spawns slNil (hL name x.l.length)).map St.av) ∧ Grow G 5 p (F.get 9) ((hPrs slNil slNil name x.l).map Pr.av) ∧ o ≠ some 0 ∧ p ≠ some 0 ∧ ∀ i, o = some i → p ≠ some i) := by
  have hL := loop_fold (Φ := Φ) (live := [0, 7, 8, 9, 25, 26, 27]) (L := l13_0) x.l (σ := Unit) (fun _ _ s => s)
    (fun k _ F G => ∃ v w, F = [(0, .str name), (7, .clo 103 [] [.optr 0 0 0 0]), (8, v), (9, w), (25, Sl.av AV.str 1 x), (26, I x.l.length), (27, I k)] ∧ G[0]? = some (.arr 0 1 false [.str name]) ∧ ∃ o p, Grow G 8 o v ((spawns slNil (hL name k)).map St.av) ∧ Grow G 5 p w ((hPrs slNil slNil name (x.l.take k)).map Pr.av) ∧ o ≠ some 0 ∧ p ≠ some 0 ∧ ∀ i, o = some i → p ≠ some i)
    (fun _ c F G => c = .exit 0 ∧ F.keep [7, 8, 9] = [(7, .clo 103 [] [.optr 0 0 0 0]), (8, F.get 8), (9, F.get 9)] ∧ G[0]? = some (.arr 0 1 false [.str name]) ∧ ∃ o p, Grow G 8 o (F.get 8) ((spawns slNil (hL name x.l.length)).map St.av) ∧ Grow G 5 p (F.get 9) ((hPrs slNil slNil name x.l).map Pr.av) ∧ o ≠ some 0 ∧ p ≠ some 0 ∧ ∀ i, o = some i → p ≠ some i)
    (s := ()) (F := [(0, .str name), (7, .clo 103 [] [.optr 0 0 0 0]), (8, .isl (some true) 0 []), (9, .isl (some true) 0 []), (25, Sl.av AV.str 1 x), (26, I x.l.length), (27, I 0)]) (H := [.arr 0 1 false [.str name]])
    ⟨_, _, rfl, rfl, none, none, grow_nil _ _, grow_nil _ _, by simp, by simp, by simp⟩ ?_ ?_
  · exact hL
  · rintro k s ⟨⟩ F G hk hs ⟨v, w, rfl, g0, o, p, g1, g2, g3, g4, g5⟩
    have hks : x.l[k] = s := (List.getElem?_eq_some_iff.1 hs).2
    have hw := wrap_succ (k := k) (by omega)
    have e1 := e52 name hn (k + 1) (by omega)
    have e2 := e42 (hS name (k + 1)) slNil
    have e3 := e42 s slNil
    have e4 := e44 [] 0 0 0 [] slNil (ofL 8 [stS 16 s slNil slNil])
    have e5 := e53 13 [] slNil
    have hlen : ((spawns slNil (hL name k)).map St.av).length = k := by simp [spawns, hL_len]
    have hlen2 : ((hPrs slNil slNil name (x.l.take k)).map Pr.av).length = k := by simp [hPrs_len]; omega
    obtain ⟨o', v', G', a1, a2, a3, a4⟩ := g1.app1 (stS 16 (hS name (k + 1)) slNil slNil).av (by simp) (by rw [hlen]; simp [appRoom]; omega)
    have g0' : G'[0]? = some (.arr 0 1 false [.str name]) := a3.get g3 g0
    have e6 := call103 name hn (k + 1) (by omega) slNil (ofL 8 [stS 14 [] (ofL 5 [zeroE, zeroE]) (ofL 8 [stS 16 s slNil slNil]), stS 13 [] slNil slNil]) 0 G' g0'
    rw [if_neg (by omega)] at e6
    have hpr : prT (hS name (k + 1)) slNil (ofL 8 [stS 14 [] (ofL 5 [zeroE, zeroE]) (ofL 8 [stS 16 s slNil slNil]), stS 13 [] slNil slNil]) = hPr slNil slNil name k s := rfl
    rw [hpr] at e6
    have g2' : Grow G' 5 p w ((hPrs slNil slNil name (x.l.take k)).map Pr.av) := g2.kept a3 (fun id h1 h2 => g5 id h1 h2)
    generalize hK : G' ++ [Blk.arr 0 5 false [(hPr slNil slNil name k s).av], Blk.arr 0 5 false [(hPr slNil slNil name k s).av]] = K at e6
    have hKk : Kept none G' K := by rw [← hK]; exact Kept.append none _ _
    have g2'' := g2'.kept hKk (by simp)
    obtain ⟨p', w', G2, b1, b2, b3, b4⟩ := g2''.app1 (hPr slNil slNil name k s).av (by simp) (by rw [hlen2]; simp [appRoom]; omega)
    have z0 : (Sl.av Ex.av 5 slNil : AV) = .isl (some true) 0 [] := rfl
    have z1 : (.agg [I 0, I 0, .str [], I 0, .isl (some true) 0 []] : AV) = (Ex.of 0 0 [] 0 slNil).av := rfl
    have z2 : (Sl.av AV.str 1 slNil : AV) = .isl (some true) 0 [] := rfl
    have z3 : ∀ a b : St, (.isl (some false) 8 [a.av, b.av] : AV) = Sl.av St.av 8 (ofL 8 [a, b]) := fun a b => rfl
    have z4 : ∀ a : St, (.isl (some false) 8 [a.av] : AV) = Sl.av St.av 8 (ofL 8 [a]) := fun a => rfl
    have pb : ∀ a : St, pubAs G' [.str [], .agg [I 0, I 0, .str [], I 0, .isl (some true) 0 []], .isl (some false) 8 [a.av]] = ([.str [], .agg [I 0, I 0, .str [], I 0, .isl (some true) 0 []], .isl (some false) 8 [a.av]], G') := fun a => rfl
    rw [z0] at e2 e3 e5
    rw [z2] at e6
    rw [← z1, ← z4] at e4
    unfold zeroE at e4 e6
    simp only [Int.natCast_add, Int.cast_ofNat_Int] at e1 e6
    simp [evl13_0, b13_0, intBin, hk, hks, hw, e1, e2, e3, e4, e5, e6, g1.okO, g2.okO, a1, a2.okO, b1, b2.okO, pb, z3]
    have hGl := (List.getElem?_eq_some_iff.1 g0).1
    have ho' : ∀ i, o' = some i → p ≠ some i := fun i hi hp => by
      rcases a4 i hi with h | ⟨_, h⟩
      · exact g5 i h hp
      · subst hp; have := g2.lt; omega
    refine ⟨v', w', ⟨rfl, rfl⟩, b3.get g4 (hKk.get (by simp) g0'), o', ?_, p', ?_, ?_, ?_, ?_⟩
    · rw [hL_succ, spawns_app, List.map_append]
      exact (a2.kept hKk (by simp)).kept b3 (fun id h1 h2 => ho' id h2 h1)
    · rw [hPrs_succ _ _ _ _ _ _ hs, List.map_append]
      exact b2
    · intro h
      rcases a4 0 h with h | ⟨_, h⟩
      · exact g3 h
      · omega
    · intro h
      have h1 := hKk.1
      have h2 := a3.1
      rcases b4 0 h with h | ⟨_, h⟩
      · exact g4 h
      · omega
    · intro i hi hp
      rcases b4 i hp with h | ⟨_, h⟩
      · exact ho' i hi h
      · subst hi
        have h1 := hKk.1
        have h2 := a2.lt
        omega
  · rintro ⟨⟩ F G ⟨v, w, rfl, g0, o, p, g1, g2, g3, g4, g5⟩
    rw [List.take_of_length_le (by omega)] at g2
    simp [evl13_0, b13_0, intBin]
    exact ⟨g0, o, g1, p, g2, g3, g4, g5⟩
/-- A list of one's own with one element, and a list behind it. -/
theorem own_pre {K : Heap} {p : Option Nat} {w : AV} {x : Pr} {l : List Pr} (h : Grow K 5 p w (l.map Pr.av)) (hl : l.length + 1 ≤ appRoom) :
    ∃ o' v' H', ex (K ++ [.arr 0 5 false [x.av]]) (.app 5) [.osl K.length 0 0 1, w] = some (v', H') ∧ Grow H' 5 o' v' ((x :: l).map Pr.av) ∧ ∀ n, frz H' (n + 1) v' = some (Sl.av Pr.av 5 (ofL 5 (x :: l))) := by
  have g1 : Grow (K ++ [.arr 0 5 false [x.av]]) 5 (some K.length) (.osl K.length 0 0 1) [x.av] := grow_mk (l := [x.av]) (app_last _ _)
  have g2 : Grow (K ++ [.arr 0 5 false [x.av]]) 5 p w (l.map Pr.av) := h.kept (Kept.append none _ _) (by simp)
  obtain ⟨o', v', H', a1, a2, _⟩ := g1.app g2.elems (all_cell (fun x => by simp) l) (by simp; omega)
  refine ⟨o', v', H', a1, a2, fun n => ?_⟩
  have hz := a2.frz (n := n) (all_still (f := Pr.av) (fun x => by simp) (x :: l))
  have ho : o' ≠ none := by
    rintro rfl
    exact absurd a2.2 (by simp)
  rw [hz, if_neg ho]
  exact congrArg some (isl_sl (f := Pr.av) (x :: l))
theorem e13 (name : List UInt8) (x : Sl (List UInt8)) : W.pure 13 [.str name, Sl.av AV.str 1 x] = some (.tuple [Sl.av Pr.av 5 (if raceI name x.l = 0 then ofL 5 (racePr slNil slNil name x.l) else slNil), I (raceI name x.l)]) := by
  rw [W_pure Φ13 rfl]
  have c1 := e40 name (min x.l.length 8) (by omega)
  have c2 := e41 x
  unfold raceI
  have hm : (if (8 : Int) < (x.l.length : Int) then 8 else (x.l.length : Int)) = ((min x.l.length 8 : Nat) : Int) := by split <;> omega
  have hm2 : min (x.l.length : Int) 8 = ((min x.l.length 8 : Nat) : Int) := by omega
  generalize min x.l.length 8 = m at *
  cases h1 : namedB name m with
  | false => rw [h1] at c1; simp [fi13, c13, evFun, enterFr, intBin, resV, rvVs, rvV, c1, hm, hm2]; rfl
  | true =>
  rw [h1] at c1
  simp only [if_true]
  by_cases h2 : sevI x.l = 0
  rotate_left
  · simp [fi13, c13, evFun, enterFr, intBin, resV, rvVs, rvV, c1, c2, h2, hm, hm2]; rfl
  have hx := sev_zero h2
  have h3 : nameB name = true := by simp [namedB] at h1; exact h1.1
  have hn := nameB_len h3
  obtain ⟨c, F, G, d1, rfl, d2, d3, o, p, d4, d5, d6, d7, d8⟩ := okC_iff.1 (loop13 name (by omega) x hx.2)
  have hne : spawns slNil (hL name x.l.length) ≠ [] := by
    intro h
    have := congrArg List.length h
    simp [spawns, hL_len] at this
    exact hx.1 this
  have d9 := call43 name []
  obtain ⟨G1, f1, f2, f3, f4⟩ := d4.pub (fun x => by simp) hne
  have f5 : G1[0]? = some (.arr 0 1 false [.str name]) := by rw [f4 0 d6]; exact d3
  have e6 := e44 [] 0 0 0 [] slNil (ofL 8 (spawns slNil (hL name x.l.length)))
  have e7 := call103 name (by omega) 0 (by omega) slNil (ofL 8 [stS 14 [] (ofL 5 [zeroE, zeroE]) (ofL 8 (spawns slNil (hL name x.l.length)))]) 0 G1 f5
  rw [if_pos rfl] at e7
  have hpr : Grow G1 5 p (F.get 9) ((hPrs slNil slNil name x.l).map Pr.av) := by
    cases p with
    | none => exact d5
    | some i =>
      obtain ⟨ver, t, q1, q2⟩ := d5
      exact ⟨ver, t, q1, by rw [f4 i (fun e => d8 i e rfl)]; exact q2⟩
  have z1 : (.agg [I 0, I 0, .str [], I 0, .isl (some true) 0 []] : AV) = (Ex.of 0 0 [] 0 slNil).av := rfl
  have z2 : (Sl.av AV.str 1 slNil : AV) = .isl (some true) 0 [] := rfl
  have z4 : ∀ a : St, (.isl (some false) 8 [a.av] : AV) = Sl.av St.av 8 (ofL 8 [a]) := fun a => rfl
  have pb : pubAs G [.str [], .agg [I 0, I 0, .str [], I 0, .isl (some true) 0 []], F.get 8] = ([.str [], .agg [I 0, I 0, .str [], I 0, .isl (some true) 0 []], (pubA G (F.get 8)).1], (pubA G (F.get 8)).2) := rfl
  rw [f2] at pb
  rw [← z1] at e6
  rw [z2] at e7
  unfold zeroE at e6 e7
  generalize hK : G1 ++ [Blk.arr 0 5 false [(prT name slNil (ofL 8 [stS 14 [] (ofL 5 [Ex.of 0 0 [] 0 slNil, Ex.of 0 0 [] 0 slNil]) (ofL 8 (spawns slNil (hL name x.l.length)))])).av], Blk.arr 0 5 false [(prT name slNil (ofL 8 [stS 14 [] (ofL 5 [Ex.of 0 0 [] 0 slNil, Ex.of 0 0 [] 0 slNil]) (ofL 8 (spawns slNil (hL name x.l.length)))])).av]] = K at e7
  simp only [Int.natCast_zero, Int.cast_ofNat_Int] at e7
  have hKk : Kept none G1 K := by rw [← hK]; exact Kept.append none _ _
  obtain ⟨o', v', H', a1, a2, a3⟩ := own_pre (K := K) (x := prT name slNil (ofL 8 [stS 14 [] (ofL 5 [Ex.of 0 0 [] 0 slNil, Ex.of 0 0 [] 0 slNil]) (ofL 8 (spawns slNil (hL name x.l.length)))])) (hpr.kept hKk (by simp)) (by rw [hPrs_len]; have := hx.2; simp [appRoom]; omega)
  have q1 : okO v' = some v' := a2.okO
  have q2 := a3 5
  have q3 := a3 6
  have q4 := a3 7
  simp only [Nat.reduceAdd] at q2 q3 q4
  simp [fi13, c13, evFun, enterFr, intBin, resV, rvVs, rvV, c1, c2, h2, hm, hm2, d9, d1, d2, d4.okO, d5.okO, pb, e6, z4, e7, a1, q1, q2, q3, q4, racePr, zeroE]
end
section
open Go Go.RowKit
set_option linter.unusedVariables false
set_option linter.unusedSimpArgs false
set_option maxRecDepth 10000

theorem loop14_1 (name : List UInt8) (hn : name.length ≤ 1000) (x : Sl (List UInt8)) : okC (W.loop [0, 1, 6, 7] l14_1 [(0, .str name), (1, Sl.av AV.str 1 x), (6, .osl 0 0 0 1), (7, I 0)] [.arr 0 1 false [.str name]])
    (fun c F G => c = .exit 0 ∧ F.keep [0, 1, 6] = [(0, .str name), (1, Sl.av AV.str 1 x), (6, F.get 6)] ∧ Grow G 1 (some 0) (F.get 6) ((name :: hL name (min x.l.length 8)).map AV.str) ∧ 0 < G.length) := by
  have hL := loop_fold (Φ := Φ) (live := [0, 1, 6, 7]) (L := l14_1) (List.range (min x.l.length 8)) (σ := Unit) (fun _ _ s => s)
    (fun k _ F G => ∃ v, F = [(0, .str name), (1, Sl.av AV.str 1 x), (6, v), (7, I k)] ∧ Grow G 1 (some 0) v ((name :: hL name k).map AV.str) ∧ 0 < G.length)
    (fun _ c F G => c = .exit 0 ∧ F.keep [0, 1, 6] = [(0, .str name), (1, Sl.av AV.str 1 x), (6, F.get 6)] ∧ Grow G 1 (some 0) (F.get 6) ((name :: hL name (min x.l.length 8)).map AV.str) ∧ 0 < G.length)
    (s := ()) (F := [(0, .str name), (1, Sl.av AV.str 1 x), (6, .osl 0 0 0 1), (7, I 0)]) (H := [.arr 0 1 false [.str name]])
    ⟨_, rfl, grow_mk (l := [.str name]) rfl, by simp⟩ ?_ ?_
  · exact hL
  · rintro k i ⟨⟩ F G hk hi ⟨v, rfl, g1, g2⟩
    simp only [List.length_range] at hk
    have hk1 : k < x.l.length := by omega
    have hk2 : (k : Int) < 8 := by omega
    have hk3 : k < 8 := by omega
    have hw := wrap_succ (k := k) (by omega)
    have e1 := e54 name hn (k + 1) (by omega)
    simp only [Int.natCast_add, Int.cast_ofNat_Int] at e1
    have hlen : ((name :: hL name k).map AV.str).length = k + 1 := by simp [hL_len]
    obtain ⟨o', v', G', a1, a2, a3, a4⟩ := g1.app1 (.str (hS name (k + 1))) (by simp) (by rw [hlen]; simp [appRoom]; omega)
    have ho : o' = some 0 := by
      cases o' with
      | none => exact absurd (congrArg List.length a2.2) (by simp)
      | some i => rcases a4 i rfl with h | ⟨h, _⟩
                  · rw [h]
                  · cases h
    subst ho
    have hs : (name :: hL name (k + 1)).map AV.str = (name :: hL name k).map AV.str ++ [.str (hS name (k + 1))] := by simp [hL_succ]
    rw [← hs] at a2
    have := a3.1
    simp [evl14_1, b14_1, intBin, hk1, hk2, hk3, hw, e1, g1.okO, a1, a2.okO]
    exact ⟨a2, by omega⟩
  · rintro ⟨⟩ F G ⟨v, rfl, g1, g2⟩
    simp only [List.length_range] at *
    by_cases h : x.l.length < 8
    · have hm : min x.l.length 8 = x.l.length := by omega
      rw [hm] at g1 ⊢
      simp [evl14_1, b14_1, intBin]
      exact ⟨g1, g2⟩
    · have hm : min x.l.length 8 = 8 := by omega
      rw [hm] at g1 ⊢
      have h8 : (8 : Int) < x.l.length ∨ ¬ (8 : Int) < x.l.length := by omega
      rcases h8 with h8 | h8 <;> simp [evl14_1, b14_1, intBin, h8]
      all_goals exact ⟨g1, g2⟩
set_option maxHeartbeats 2000000 in
theorem loop14_0 (name : List UInt8) (x : Sl (List UInt8)) (hx : x.l.length ≤ 8) (v6 : AV) (G0 : Heap) (h6 : Grow G0 1 (some 0) v6 ((name :: hL name x.l.length).map AV.str)) (h7 : 0 < G0.length) :
    okC (W.loop [0, 1, 6, 10, 11, 12] l14_0 [(0, .str name), (1, Sl.av AV.str 1 x), (6, v6), (10, .osl G0.length 0 0 0), (11, .osl (G0.length + 1) 0 0 0), (12, I 0)] (G0 ++ [.arr 0 8 false [], .arr 0 5 false []]))
    (fun c F G => c = .exit 2 ∧ F.keep [0, 10, 11] = [(0, .str name), (10, F.get 10), (11, F.get 11)] ∧ ∃ o p, Grow G 8 o (F.get 10) ((spawns (ofL 5 []) (hL name x.l.length)).map St.av) ∧ Grow G 5 p (F.get 11) ((hPrs (ofL 5 []) (ofL 1 []) name x.l).map Pr.av) ∧ ∀ i, o = some i → p ≠ some i) := by
  obtain ⟨ver, t, rfl, h6⟩ := h6
  have hlen6 : ((name :: hL name x.l.length).map AV.str).length = x.l.length + 1 := by simp [hL_len]
  rw [hlen6]
  have hL := loop_fold (Φ := Φ) (live := [0, 1, 6, 10, 11, 12]) (L := l14_0) x.l (σ := Unit) (fun _ _ s => s)
    (fun k _ F G => ∃ v w, F = [(0, .str name), (1, Sl.av AV.str 1 x), (6, .osl 0 ver 0 (x.l.length + 1)), (10, v), (11, w), (12, I k)] ∧ G[0]? = some (.arr ver 1 false ((name :: hL name x.l.length).map AV.str ++ t)) ∧ ∃ o p, Grow G 8 o v ((spawns (ofL 5 []) (hL name k)).map St.av) ∧ Grow G 5 p w ((hPrs (ofL 5 []) (ofL 1 []) name (x.l.take k)).map Pr.av) ∧ o ≠ some 0 ∧ p ≠ some 0 ∧ ∀ i, o = some i → p ≠ some i)
    (fun _ c F G => c = .exit 2 ∧ F.keep [0, 10, 11] = [(0, .str name), (10, F.get 10), (11, F.get 11)] ∧ ∃ o p, Grow G 8 o (F.get 10) ((spawns (ofL 5 []) (hL name x.l.length)).map St.av) ∧ Grow G 5 p (F.get 11) ((hPrs (ofL 5 []) (ofL 1 []) name x.l).map Pr.av) ∧ ∀ i, o = some i → p ≠ some i)
    (s := ()) (F := [(0, .str name), (1, Sl.av AV.str 1 x), (6, .osl 0 ver 0 (x.l.length + 1)), (10, .osl G0.length 0 0 0), (11, .osl (G0.length + 1) 0 0 0), (12, I 0)]) (H := G0 ++ [.arr 0 8 false [], .arr 0 5 false []])
    ⟨_, _, rfl, app2_get h6 _ _, some G0.length, some (G0.length + 1), grow_mk (l := []) (app2_0 _ _ _), grow_mk (l := []) (app2_1 _ _ _), fun h => by (simp only [Option.some.injEq] at h; omega), by simp, by simp⟩ ?_ ?_
  · exact hL
  · rintro k s ⟨⟩ F G hk hs ⟨v, w, rfl, g0, o, p, g1, g2, g3, g4, g5⟩
    have hks : x.l[k] = s := (List.getElem?_eq_some_iff.1 hs).2
    have hw := wrap_succ (k := k) (by omega)
    have hel : ((name :: hL name x.l.length).map AV.str ++ t)[k + 1]? = some (.str (hS name (k + 1))) := by
      rw [List.getElem?_append_left (by rw [hlen6]; omega)]
      simp [hL, hk]
    generalize hE : (name :: hL name x.l.length).map AV.str ++ t = E at g0 hel
    have e2 := e48 (hS name (k + 1)) (ofL 5 [])
    have e3 := e48 s (ofL 5 [])
    have e4 := e50 [] 0 0 0 [] slNil (ofL 8 [stS 16 s (ofL 5 []) slNil])
    have e5 := e49 (hS name (k + 1)) (ofL 1 []) (ofL 8 [stS 14 [] (ofL 5 [zeroE, zeroE]) (ofL 8 [stS 16 s (ofL 5 []) slNil]), stS 13 [] slNil slNil])
    have hlen : ((spawns (ofL 5 []) (hL name k)).map St.av).length = k := by simp [spawns, hL_len]
    have hlen2 : ((hPrs (ofL 5 []) (ofL 1 []) name (x.l.take k)).map Pr.av).length = k := by simp [hPrs_len]; omega
    obtain ⟨o', v', G', a1, a2, a3, a4⟩ := g1.app1 (stS 16 (hS name (k + 1)) (ofL 5 []) slNil).av (by simp) (by rw [hlen]; simp [appRoom]; omega)
    have g0' := a3.get g3 g0
    have hpr : prT (hS name (k + 1)) (ofL 1 []) (ofL 8 [stS 14 [] (ofL 5 [zeroE, zeroE]) (ofL 8 [stS 16 s (ofL 5 []) slNil]), stS 13 [] slNil slNil]) = hPr (ofL 5 []) (ofL 1 []) name k s := rfl
    rw [hpr] at e5
    have g2' : Grow G' 5 p w ((hPrs (ofL 5 []) (ofL 1 []) name (x.l.take k)).map Pr.av) := g2.kept a3 (fun id h1 h2 => g5 id h1 h2)
    have g0'' : ∀ B, (G' ++ [B])[0]? = some (.arr ver 1 false E) := app_get g0'
    have g2'' : Grow (G' ++ [(Blk.arr 0 8 false [(stS 14 [] (ofL 5 [Ex.of 0 0 [] 0 slNil, Ex.of 0 0 [] 0 slNil]) (ofL 8 [stS 16 s (ofL 5 []) slNil])).av])]) 5 p w ((hPrs (ofL 5 []) (ofL 1 []) name (x.l.take k)).map Pr.av) := g2'.kept (Kept.append none _ _) (by simp)
    obtain ⟨p', w', G2, b1, b2, b3, b4⟩ := g2''.app1 (hPr (ofL 5 []) (ofL 1 []) name k s).av (by simp) (by rw [hlen2]; simp [appRoom]; omega)
    have z0 : (Sl.av Ex.av 5 (ofL 5 []) : AV) = .isl (some false) 5 [] := rfl
    have z1 : (.agg [I 0, I 0, .str [], I 0, .isl (some true) 0 []] : AV) = (Ex.of 0 0 [] 0 slNil).av := rfl
    have z2 : (Sl.av AV.str 1 (ofL 1 []) : AV) = .isl (some false) 1 [] := rfl
    have z3 : ∀ a b : St, (.isl (some false) 8 [a.av, b.av] : AV) = Sl.av St.av 8 (ofL 8 [a, b]) := fun a b => rfl
    have z4 : ∀ a : St, (.isl (some false) 8 [a.av] : AV) = Sl.av St.av 8 (ofL 8 [a]) := fun a => rfl
    have z5 : (.agg [I 13, I 0, .str [], .isl (some true) 0 [], .isl (some true) 0 [], .isl (some true) 0 [], .isl (some true) 0 [], .isl (some true) 0 []] : AV) = (stS 13 [] slNil slNil).av := rfl
    have pb : ∀ a : St, pubAs G' [.agg [I 0, I 0, .str [], I 0, .isl (some true) 0 []], .str [], .isl (some false) 8 [a.av]] = ([.agg [I 0, I 0, .str [], I 0, .isl (some true) 0 []], .str [], .isl (some false) 8 [a.av]], G') := fun a => rfl
    rw [z0] at e2 e3
    rw [z2] at e5
    rw [← z1, ← z4] at e4
    unfold zeroE at e4 e5
    have hk0 : (0 : Int) ≤ (k : Int) + 1 := by omega
    simp [evl14_0, b14_0, intBin, hk, hs, hw, hk0, e2, e3, e4, e5, g0, g0', g0'', hel, g1.okO, g2.okO, a1, a2.okO, b1, b2.okO, pb, z3, z5, app_last, -getElem?_pos, List.getElem?_cons_zero]
    have hGl := (List.getElem?_eq_some_iff.1 g0).1
    have hKk : Kept none G' (G' ++ [(Blk.arr 0 8 false [(stS 14 [] (ofL 5 [Ex.of 0 0 [] 0 slNil, Ex.of 0 0 [] 0 slNil]) (ofL 8 [stS 16 s (ofL 5 []) slNil])).av])]) := Kept.append none _ _
    have ho' : ∀ i, o' = some i → p ≠ some i := fun i hi hp => by
      rcases a4 i hi with h | ⟨_, h⟩
      · exact g5 i h hp
      · subst hp; have := g2.lt; omega
    refine ⟨v', w', ⟨rfl, rfl⟩, b3.get g4 (g0'' _), o', ?_, p', ?_, ?_, ?_, ?_⟩
    · rw [hL_succ, spawns_app, List.map_append]
      exact (a2.kept hKk (by simp)).kept b3 (fun id h1 h2 => ho' id h2 h1)
    · rw [hPrs_succ _ _ _ _ _ _ hs, List.map_append]
      exact b2
    · intro h
      rcases a4 0 h with h | ⟨_, h⟩
      · exact g3 h
      · omega
    · intro h
      have h1 := hKk.1
      have h2 := a3.1
      rcases b4 0 h with h | ⟨_, h⟩
      · exact g4 h
      · omega
    · intro i hi hp
      rcases b4 i hp with h | ⟨_, h⟩
      · exact ho' i hi h
      · subst hi
        have h1 := hKk.1
        have h2 := a2.lt
        omega
  · rintro ⟨⟩ F G ⟨v, w, rfl, g0, o, p, g1, g2, g3, g4, g5⟩
    rw [List.take_of_length_le (by omega)] at g2
    simp [evl14_0, b14_0, intBin]
    exact ⟨o, g1, p, g2, g5⟩
end
section
open Go Go.RowKit
set_option linter.unusedVariables false
set_option linter.unusedSimpArgs false
set_option maxRecDepth 10000

theorem namedB_all (name : List UInt8) (m : Nat) : (name :: hL name m).all nameB = namedB name m := by
  simp [namedB, hL, List.all_map]
  rfl
theorem e14 (name : List UInt8) (hl : name.length ≤ 1000) (x : Sl (List UInt8)) : W.pure 14 [.str name, Sl.av AV.str 1 x] = some (.tuple [Sl.av Pr.av 5 (if raceI name x.l = 0 then ofL 5 (racePr (ofL 5 []) (ofL 1 []) name x.l) else ofL 5 []), I (raceI name x.l)]) := by
  rw [W_pure Φ14 rfl]
  obtain ⟨c, F, G, d1, rfl, d2, d3, d4⟩ := okC_iff.1 (loop14_1 name hl x)
  have c1 := e46 (ofL 1 (name :: hL name (min x.l.length 8))) (by simp [hL_len]; omega)
  have c2 := e47 x
  have c3 : (ofL 1 (name :: hL name (min x.l.length 8))).l.all nameB = namedB name (min x.l.length 8) := namedB_all _ _
  rw [c3] at c1
  have hz := fun n => d3.frz (n := n) (all_still (f := AV.str) (fun x => rfl) _)
  have hz7 := hz 7
  rw [if_neg (by simp), isl_sl] at hz7
  simp only [Nat.reduceAdd] at hz7
  unfold raceI
  cases h1 : namedB name (min x.l.length 8) with
  | false => rw [h1] at c1; simp at c1; simp [fi14, c14, evFun, enterFr, intBin, resV, rvVs, rvV, d1, d2, d3.okO, hz7, c1]; rfl
  | true =>
  rw [h1] at c1
  simp at c1
  simp only [if_true]
  by_cases h2 : sevI x.l = 0
  rotate_left
  · simp [fi14, c14, evFun, enterFr, intBin, resV, rvVs, rvV, d1, d2, d3.okO, hz7, c1, c2, h2]; rfl
  have hx := sev_zero h2
  have hm : min x.l.length 8 = x.l.length := by have := hx.2; omega
  rw [hm] at d3 hz7 c1
  obtain ⟨c, F2, G2, f1, rfl, f2, o, p, f3, f4, f5⟩ := okC_iff.1 (loop14_0 name x hx.2 (F.get 6) G d3 d4)
  have hne : spawns (ofL 5 []) (hL name x.l.length) ≠ [] := by
    intro h
    have := congrArg List.length h
    simp [spawns, hL_len] at this
    exact hx.1 this
  obtain ⟨G3, g1, g2, g3, g4⟩ := f3.pub (fun x => by simp) hne
  have e6 := e50 [] 0 0 0 [] slNil (ofL 8 (spawns (ofL 5 []) (hL name x.l.length)))
  have e7 := e49 name (ofL 1 []) (ofL 8 [stS 14 [] (ofL 5 [zeroE, zeroE]) (ofL 8 (spawns (ofL 5 []) (hL name x.l.length)))])
  have hpr : Grow G3 5 p (F2.get 11) ((hPrs (ofL 5 []) (ofL 1 []) name x.l).map Pr.av) := by
    cases p with
    | none => exact f4
    | some i =>
      obtain ⟨ver, t, q1, q2⟩ := f4
      exact ⟨ver, t, q1, by rw [g4 i (fun e => f5 i e rfl)]; exact q2⟩
  have z1 : (.agg [I 0, I 0, .str [], I 0, .isl (some true) 0 []] : AV) = (Ex.of 0 0 [] 0 slNil).av := rfl
  have z2 : (Sl.av AV.str 1 (ofL 1 []) : AV) = .isl (some false) 1 [] := rfl
  have z4 : ∀ a : St, (.isl (some false) 8 [a.av] : AV) = Sl.av St.av 8 (ofL 8 [a]) := fun a => rfl
  have pb : pubAs G2 [.agg [I 0, I 0, .str [], I 0, .isl (some true) 0 []], .str [], F2.get 10] = ([.agg [I 0, I 0, .str [], I 0, .isl (some true) 0 []], .str [], (pubA G2 (F2.get 10)).1], (pubA G2 (F2.get 10)).2) := rfl
  rw [g2] at pb
  rw [← z1] at e6
  rw [z2] at e7
  unfold zeroE at e6 e7
  obtain ⟨o', v', H', a1, a2, a3⟩ := own_pre (K := G3) (x := prT name (ofL 1 []) (ofL 8 [stS 14 [] (ofL 5 [Ex.of 0 0 [] 0 slNil, Ex.of 0 0 [] 0 slNil]) (ofL 8 (spawns (ofL 5 []) (hL name x.l.length)))])) hpr (by rw [hPrs_len]; have := hx.2; simp [appRoom]; omega)
  have q1 : okO v' = some v' := a2.okO
  have q2 := a3 5
  have q3 := a3 6
  have q4 := a3 7
  simp only [Nat.reduceAdd] at q2 q3 q4
  simp [fi14, c14, evFun, enterFr, intBin, resV, rvVs, rvV, d1, d2, d3.okO, hz7, c1, c2, h2, f1, f2, f3.okO, f4.okO, pb, e6, z4, e7, a1, q1, q2, q3, q4, racePr, zeroE]
end
section
open Go Go.RowKit
set_option linter.unusedVariables false
set_option linter.unusedSimpArgs false
set_option maxRecDepth 10000

theorem all2_map {α β γ : Type} (p : β → γ → Bool) (f : α → β) (g : α → γ) : ∀ l : List α, (∀ a ∈ l, p (f a) (g a) = true) → all2 p (l.map f) (l.map g) = true
  | [], _ => rfl
  | a :: r, h => by
    simp only [List.map_cons, all2, h a List.mem_cons_self, Bool.true_and]
    exact all2_map p f g r (fun x hx => h x (List.mem_cons_of_mem _ hx))
theorem eqv_stS (k : Int) (s : List UInt8) (es es' : Sl Ex) (b b' : Sl St) (he : all2 sameEx es.l es'.l = true) (hb : St.eqvs b.l b'.l = true) : (stS k s es b).eqv (stS k s es' b') = true := by
  rw [St.eqv_eq]
  simp [stS, he, hb, St.eqvs, Cs.eqvs]
theorem sameEx_self {e : Ex} (h : exCheck e = 0) (hr : e.eqv e = true) : sameEx e e = true := by
  simp [sameEx, exEqual, h, hr]
mutual
theorem Ex.eqv_refl : ∀ e : Ex, e.eqv e = true
  | .mk k o n v a b l => by
    have := Ex.eqvs_refl l
    rw [Ex.eqv_eq]
    simp
    exact this
theorem Ex.eqvs_refl : ∀ l : List Ex, Ex.eqvs l l = true
  | [] => by simp only [Ex.eqvs]
  | x :: r => by simp only [Ex.eqvs, Ex.eqv_refl x, Ex.eqvs_refl r, Bool.and_self]
end
theorem sameEx_zero : sameEx zeroE zeroE = true := by decide
theorem sameEx_nm {s : List UInt8} (h : isNm s = true) : sameEx (nmE s) (nmE s) = true := sameEx_self (by unfold nmE; rw [exCheck_name, if_pos h]) (Ex.eqv_refl _)
theorem rS_nm : isNm rS = true := by decide
theorem nS_nm : isNm nS = true := by decide
theorem iS_nm : isNm iS = true := by decide
theorem sameEx_num {n : Int} (h : 0 ≤ n ∧ n ≤ 1099511627776) : sameEx (numE n) (numE n) = true := by
  refine sameEx_self ?_ (Ex.eqv_refl _)
  have h1 : (numE n).size = 1 := rfl
  have h2 : (numE n).depth = 1 := rfl
  have h3 : (numE n).parts = [numE n] := rfl
  have h4 : ¬ (n < 0 ∨ 1099511627776 < n) := by omega
  unfold exCheck
  rw [h1, h2, h3]
  simp [errOf, exPart, exShape, numE, h4]
theorem spawns_same (es es' : Sl Ex) (he : all2 sameEx es.l es'.l = true) (l : List (List UInt8)) : St.eqvs (spawns es l) (spawns es' l) = true := by
  rw [St.eqvs_all2]
  exact all2_map _ _ _ l (fun s _ => eqv_stS _ _ _ _ _ _ he (by simp [St.eqvs]))
theorem all_same (es es' : Sl Ex) (ps ps' : Sl (List UInt8)) (he : all2 sameEx es.l es'.l = true) (hp : ps.l = ps'.l) (name : List UInt8) (l : List (List UInt8)) : prEq (allPr es ps name l) (allPr es' ps' name l) = true := by
  have h1 := eqv_stS 14 rS (ofL 5 [zeroE, zeroE]) (ofL 5 [zeroE, zeroE]) (ofL 8 (spawns es l)) (ofL 8 (spawns es' l)) (by decide) (spawns_same es es' he l)
  have h2 := eqv_stS 6 [] (ofL 5 [nmE rS]) (ofL 5 [nmE rS]) slNil slNil (by simp [all2, sameEx_nm rS_nm]) (by simp [St.eqvs])
  simp [prEq, allPr, prT, hp, St.eqvs, h1, h2]
theorem race_same (es es' : Sl Ex) (ps ps' : Sl (List UInt8)) (he : all2 sameEx es.l es'.l = true) (hp : ps.l = ps'.l) (name : List UInt8) (l : List (List UInt8)) : all2 prEq (racePr es ps name l) (racePr es' ps' name l) = true := by
  have h1 := eqv_stS 14 [] (ofL 5 [zeroE, zeroE]) (ofL 5 [zeroE, zeroE]) (ofL 8 (spawns es (hL name l.length))) (ofL 8 (spawns es' (hL name l.length))) (by decide) (spawns_same es es' he _)
  unfold racePr
  simp only [all2, Bool.and_eq_true]
  refine ⟨?_, all2_map _ _ _ _ (fun p _ => ?_)⟩
  · simp [prEq, prT, hp, St.eqvs, h1]
  · have h2 := eqv_stS 14 [] (ofL 5 [zeroE, zeroE]) (ofL 5 [zeroE, zeroE]) (ofL 8 [stS 16 p.1 es slNil]) (ofL 8 [stS 16 p.1 es' slNil]) (by decide) (by simp only [St.eqvs, eqv_stS 16 p.1 es es' slNil slNil he (by simp [St.eqvs]), Bool.and_self])
    have h3 := eqv_stS 13 [] slNil slNil slNil slNil (by simp [all2]) (by simp [St.eqvs])
    simp [prEq, hPr, prT, hp, St.eqvs, h2, h3]
theorem stS_big (k : Int) (s : List UInt8) (es : Sl Ex) (b : Sl St) : (stS k s es b).big = 1 + Ex.sizes es.l + St.bigs b.l := by
  rw [St.big_eq]
  simp [stS, St.bigs, Cs.bigs]
theorem spawns_big (es : Sl Ex) (l : List (List UInt8)) : St.bigs (spawns es l) = l.length * (1 + Ex.sizes es.l) := by
  induction l with
  | nil => simp [spawns, St.bigs]
  | cons a r ih =>
    simp only [spawns, List.map_cons, St.bigs, List.length_cons] at ih ⊢
    rw [ih, stS_big, Nat.succ_mul]
    simp [St.bigs]
    omega
end
section
open Go Go.RowKit
set_option linter.unusedVariables false
set_option linter.unusedSimpArgs false
set_option maxRecDepth 10000

theorem call38 (s : List UInt8) (H : Heap) : W.call (.clo 38 [] []) [.str s] H = some (.bool (decide (40 < s.length)), H) := by
  rw [W_call Φ38]
  by_cases h : 40 < s.length
  · have h' : (40 : Int) < s.length := by omega
    simp [fi38, c38, evFun, enterFr, intBin, resV, rvVs, rvV, h, h']
  · have h' : ¬ (40 : Int) < s.length := by omega
    simp [fi38, c38, evFun, enterFr, intBin, resV, rvVs, rvV, h, h']
def orGreat (o : Or) : Bool := decide (o.kind < 0) || decide (40 < o.name.length) || decide (40 < o.sem.length) || decide (12 < o.procs.l.length) || o.procs.l.any (fun s => decide (40 < s.length))
theorem e9 (o : Or) : W.pure 9 [o.av] = some (.bool (orGreat o)) := by
  rw [W_pure Φ9 rfl]
  unfold orGreat
  by_cases h1 : o.kind < 0
  · simp [fi9, c9, evFun, enterFr, intBin, resV, rvVs, rvV, h1]
  by_cases h2 : 40 < o.name.length
  · have h2' : (40 : Int) < o.name.length := by omega
    simp [fi9, c9, evFun, enterFr, intBin, resV, rvVs, rvV, h1, h2, h2']
  have h2' : ¬ (40 : Int) < o.name.length := by omega
  by_cases h3 : 40 < o.sem.length
  · have h3' : (40 : Int) < o.sem.length := by omega
    simp [fi9, c9, evFun, enterFr, intBin, resV, rvVs, rvV, h1, h2, h2', h3, h3']
  have h3' : ¬ (40 : Int) < o.sem.length := by omega
  by_cases h4 : 12 < o.procs.l.length
  · have h4' : (12 : Int) < o.procs.l.length := by omega
    simp [fi9, c9, evFun, enterFr, intBin, resV, rvVs, rvV, h1, h2, h2', h3, h3', h4, h4']
  have h4' : ¬ (12 : Int) < o.procs.l.length := by omega
  obtain ⟨v, H', c1, rfl, c2⟩ := okV_iff.1 (any37 o.procs (by omega) (.clo 38 [] []) rfl (fun s => decide (40 < s.length)) [.arr 0 6 false [o.av]] (fun a _ H _ => by rw [call38]; exact ⟨rfl, Kept.refl _ _⟩))
  cases h5 : o.procs.l.any (fun s => decide (40 < s.length)) <;> rw [h5] at c1 <;> simp [fi9, c9, evFun, enterFr, intBin, resV, rvVs, rvV, h1, h2, h2', h3, h3', h4, h4', c1, h5]
theorem law3 (o : Or) : W.pure 3 [o.av] = some (.bool true) := by
  rw [W_pure Φ3 rfl]
  have c1 := e9 o
  have c2 := e10
  cases h : orGreat o with
  | true => rw [h] at c1; simp [fi3, c3, evFun, enterFr, intBin, resV, rvVs, rvV, c1, c2]
  | false =>
  rw [h] at c1
  have hn : o.name.length ≤ 40 := by simp [orGreat] at h; exact h.1.1.1.2
  have d1 := e11 o.name o.procs
  have d2 := e12 o.name o.procs
  have d3 := e13 o.name o.procs
  have d4 := e14 o.name (by omega) o.procs
  have d5 : W.pure 15 [Sl.av Pr.av 5 (if allI o.name o.procs.l = 0 then ofL 5 [allPr slNil slNil o.name o.procs.l] else slNil), Sl.av Pr.av 5 (if allI o.name o.procs.l = 0 then ofL 5 [allPr (ofL 5 []) (ofL 1 []) o.name o.procs.l] else ofL 5 [])] = some (.bool true) := by
    by_cases hz : allI o.name o.procs.l = 0
    · have hs : sevI o.procs.l = 0 := by unfold allI at hz; split at hz; exact hz; omega
      have hx := sev_zero hs
      rw [if_pos hz, if_pos hz, e15 _ _ (by simp) (fun p hp => by
        simp at hp
        subst hp
        simp [allPr, prT, St.bigs, stS_big, spawns_big, Ex.sizes, zeroE, nmE, Ex.size, Ex.of]
        omega)]
      simp [all2, all_same slNil (ofL 5 []) slNil (ofL 1 []) rfl rfl o.name o.procs.l]
    · rw [if_neg hz, if_neg hz, e15 _ _ (by simp) (fun p hp => by simp at hp)]
      rfl
  have d6 : W.pure 15 [Sl.av Pr.av 5 (if raceI o.name o.procs.l = 0 then ofL 5 (racePr slNil slNil o.name o.procs.l) else slNil), Sl.av Pr.av 5 (if raceI o.name o.procs.l = 0 then ofL 5 (racePr (ofL 5 []) (ofL 1 []) o.name o.procs.l) else ofL 5 [])] = some (.bool true) := by
    by_cases hz : raceI o.name o.procs.l = 0
    · have hs : sevI o.procs.l = 0 := by unfold raceI at hz; split at hz; exact hz; omega
      have hx := sev_zero hs
      rw [if_pos hz, if_pos hz, e15 _ _ (by simp [racePr, hPrs_len]; omega) (fun p hp => by
        simp only [racePr, hPrs, List.mem_cons, List.mem_map] at hp
        rcases hp with rfl | ⟨q, _, rfl⟩
        · simp [prT, St.bigs, stS_big, spawns_big, Ex.sizes, zeroE, Ex.size, Ex.of, hL_len]
          omega
        · simp [hPr, prT, St.bigs, stS_big, Ex.sizes, zeroE, Ex.size, Ex.of])]
      simp [race_same slNil (ofL 5 []) slNil (ofL 1 []) rfl rfl o.name o.procs.l]
    · rw [if_neg hz, if_neg hz, e15 _ _ (by simp) (fun p hp => by simp at hp)]
      rfl
  simp [fi3, c3, evFun, enterFr, intBin, resV, rvVs, rvV, c1, c2, d1, d2, d3, d4, d5, d6]
end
end Go.Proofs.YtddpboiceemihaaGreatDoor
