/-
  Plain structures for the program's, printed by a program of mine (conditions: none).
-/
import Derived.Test.YtjknjapdcphcfaaGreatSl
namespace Go.Proofs.YtjknjapdcphcfaaGreat
open Go Go.RowKit
set_option linter.unusedVariables false
set_option linter.unusedSimpArgs false
structure Child where
 name : (List UInt8)
 policy : Int
 sub : Int
 deriving DecidableEq, Inhabited
def Child.av (s : Child) : AV := .agg [.str s.name, I s.policy, I s.sub]
section
variable {s t : Child} {H : Heap} {es : List AV} {k : Nat}
@[simp] theorem Child_okO : okO s.av = some s.av := rfl
@[simp] theorem Child_ok : s.av.ok = true := rfl
@[simp] theorem Child_flat : s.av.flat = true := rfl
@[simp] theorem Child_len : s.av.cells.length = 3 := rfl
@[simp] theorem Child_cell : s.av.cells.all AV.cell = true := rfl
@[simp] theorem Child_still : s.av.cells.all AV.still = true := rfl
@[simp] theorem Child_still2 : (∀ x, x ∈ s.av.cells → AV.still x = true) ↔ True := by simp only [iff_true]; exact List.all_eq_true.1 Child_still
@[simp] theorem Child_cell2 : (∀ x, x ∈ s.av.cells → AV.cell x = true) ↔ True := by simp only [iff_true]; exact List.all_eq_true.1 Child_cell
@[simp] theorem Child_frz (n : Nat) : frz H (n + 2) s.av = some s.av := rfl
@[simp] theorem Child_frz0 (n : Nat) : frzs (frz H (n + 1)) s.av.cells = some s.av.cells := rfl
@[simp] theorem Child_whole : ldCells true 3 s.av.cells = s.av := rfl
@[simp] theorem Child_fold : AV.agg s.av.cells = s.av := rfl
theorem Child_mk (name : (List UInt8)) (policy : Int) (sub : Int) : (.agg [.str name, I policy, I sub] : AV) = (Child.mk name policy sub).av := rfl
@[simp] theorem Child_ld_name : ldCells false 1 s.av.cells = .str s.name := rfl
@[simp] theorem Child_fv_name : fldvV false 1 0 s.av = .str s.name := rfl
@[simp] theorem Child_st_name (x : (List UInt8)) : setElem [s.av] 0 0 (.str x) = some [({ s with name := x } : Child).av] := rfl
@[simp] theorem Child_stm_name (l : List Child) (x : (List UInt8)) : setElem (l.map Child.av) k 0 (.str x) = l[k]?.map fun s => (l.set k { s with name := x }).map Child.av := by
 cases h : l[k]? with
 | none => simp [setElem, h]
 | some s => simp only [setElem, List.getElem?_map, h, Option.map_some, List.map_set]; rfl
@[simp] theorem Child_ld_policy : ldCells false 1 s.av.cells.tail = I s.policy := rfl
@[simp] theorem Child_fv_policy : fldvV false 1 1 s.av = I s.policy := rfl
@[simp] theorem Child_st_policy (x : Int) : setElem [s.av] 0 1 (I x) = some [({ s with policy := x } : Child).av] := rfl
@[simp] theorem Child_stm_policy (l : List Child) (x : Int) : setElem (l.map Child.av) k 1 (I x) = l[k]?.map fun s => (l.set k { s with policy := x }).map Child.av := by
 cases h : l[k]? with
 | none => simp [setElem, h]
 | some s => simp only [setElem, List.getElem?_map, h, Option.map_some, List.map_set]; rfl
@[simp] theorem Child_ld_sub : ldCells false 1 (s.av.cells.drop 2) = I s.sub := rfl
@[simp] theorem Child_fv_sub : fldvV false 1 2 s.av = I s.sub := rfl
@[simp] theorem Child_st_sub (x : Int) : setElem [s.av] 0 2 (I x) = some [({ s with sub := x } : Child).av] := rfl
@[simp] theorem Child_stm_sub (l : List Child) (x : Int) : setElem (l.map Child.av) k 2 (I x) = l[k]?.map fun s => (l.set k { s with sub := x }).map Child.av := by
 cases h : l[k]? with
 | none => simp [setElem, h]
 | some s => simp only [setElem, List.getElem?_map, h, Option.map_some, List.map_set]; rfl
@[simp] theorem Child_st_all (x : Child) : setElem [s.av] 0 0 x.av = some [x.av] := rfl
@[simp] theorem Child_st_new (x : Child) : setElem [.agg [.str [], .int .i64 0, .int .i64 0]] 0 0 x.av = some [x.av] := rfl
@[simp] theorem Child_stm_all (l : List Child) (x : Child) : setElem (l.map Child.av) k 0 x.av = l[k]?.map fun _ => (l.set k x).map Child.av := by
 cases h : l[k]? with
 | none => simp [setElem, h]
 | some s => simp only [setElem, List.getElem?_map, h, Option.map_some, List.map_set]; rfl
theorem Child_ext : s = t ↔ s.name = t.name ∧ s.policy = t.policy ∧ s.sub = t.sub := by
 cases s; cases t; simp only [Child.mk.injEq]
@[simp] theorem Child_eqs (n : Bool) : eqsV n [2, 0, 0] s.av t.av = .bool (if n then !decide (s = t) else decide (s = t)) := by
 have h : (decide (s.name = t.name) && (decide (s.policy = t.policy) && (decide (s.sub = t.sub) && true))) = decide (s = t) := by
  rw [Bool.eq_iff_iff]; simp [Child_ext]
 simp only [Child.av, eqsV, eqCells, eqCell, if_true, h]
def childSh : List Sh := [.str, .int .i64, .int .i64]
def Child.wf (s : Child) : Prop := s.name.length ≤ maxLen ∧ (Lit.int .i64 s.policy).wf = true ∧ (Lit.int .i64 s.sub).wf = true ∧ True
theorem Child_of {e : AV} (hr : RowOk true 3 e) (hv : ∀ (j : Nat) (c : AV) (s : Sh), (AV.cells e)[j]? = some c → childSh[j]? = some s → ShOk s c) : ∃ s : Child, e = s.av ∧ s.wf := by
 obtain ⟨cs, rfl, hl⟩ := hr.1 rfl
 match cs, hl with
 | [a0, a1, a2], _ =>
  obtain ⟨n0, rfl, w0⟩ := sh_str (hv 0 _ _ rfl rfl)
  obtain ⟨n1, rfl, w1⟩ := sh_int (hv 1 _ _ rfl rfl)
  obtain ⟨n2, rfl, w2⟩ := sh_int (hv 2 _ _ rfl rfl)
  exact ⟨⟨n0, n1, n2⟩, rfl, w0, w1, w2, trivial⟩
end
structure ChildState where
 status : Int
 starts : Int
 deriving DecidableEq, Inhabited
def ChildState.av (s : ChildState) : AV := .agg [I s.status, I s.starts]
section
variable {s t : ChildState} {H : Heap} {es : List AV} {k : Nat}
@[simp] theorem ChildState_okO : okO s.av = some s.av := rfl
@[simp] theorem ChildState_ok : s.av.ok = true := rfl
@[simp] theorem ChildState_flat : s.av.flat = true := rfl
@[simp] theorem ChildState_len : s.av.cells.length = 2 := rfl
@[simp] theorem ChildState_cell : s.av.cells.all AV.cell = true := rfl
@[simp] theorem ChildState_still : s.av.cells.all AV.still = true := rfl
@[simp] theorem ChildState_still2 : (∀ x, x ∈ s.av.cells → AV.still x = true) ↔ True := by simp only [iff_true]; exact List.all_eq_true.1 ChildState_still
@[simp] theorem ChildState_cell2 : (∀ x, x ∈ s.av.cells → AV.cell x = true) ↔ True := by simp only [iff_true]; exact List.all_eq_true.1 ChildState_cell
@[simp] theorem ChildState_frz (n : Nat) : frz H (n + 2) s.av = some s.av := rfl
@[simp] theorem ChildState_frz0 (n : Nat) : frzs (frz H (n + 1)) s.av.cells = some s.av.cells := rfl
@[simp] theorem ChildState_whole : ldCells true 2 s.av.cells = s.av := rfl
@[simp] theorem ChildState_fold : AV.agg s.av.cells = s.av := rfl
theorem ChildState_mk (status : Int) (starts : Int) : (.agg [I status, I starts] : AV) = (ChildState.mk status starts).av := rfl
@[simp] theorem ChildState_ld_status : ldCells false 1 s.av.cells = I s.status := rfl
@[simp] theorem ChildState_fv_status : fldvV false 1 0 s.av = I s.status := rfl
@[simp] theorem ChildState_st_status (x : Int) : setElem [s.av] 0 0 (I x) = some [({ s with status := x } : ChildState).av] := rfl
@[simp] theorem ChildState_stm_status (l : List ChildState) (x : Int) : setElem (l.map ChildState.av) k 0 (I x) = l[k]?.map fun s => (l.set k { s with status := x }).map ChildState.av := by
 cases h : l[k]? with
 | none => simp [setElem, h]
 | some s => simp only [setElem, List.getElem?_map, h, Option.map_some, List.map_set]; rfl
@[simp] theorem ChildState_ld_starts : ldCells false 1 s.av.cells.tail = I s.starts := rfl
@[simp] theorem ChildState_fv_starts : fldvV false 1 1 s.av = I s.starts := rfl
@[simp] theorem ChildState_st_starts (x : Int) : setElem [s.av] 0 1 (I x) = some [({ s with starts := x } : ChildState).av] := rfl
@[simp] theorem ChildState_stm_starts (l : List ChildState) (x : Int) : setElem (l.map ChildState.av) k 1 (I x) = l[k]?.map fun s => (l.set k { s with starts := x }).map ChildState.av := by
 cases h : l[k]? with
 | none => simp [setElem, h]
 | some s => simp only [setElem, List.getElem?_map, h, Option.map_some, List.map_set]; rfl
@[simp] theorem ChildState_st_all (x : ChildState) : setElem [s.av] 0 0 x.av = some [x.av] := rfl
@[simp] theorem ChildState_st_new (x : ChildState) : setElem [.agg [.int .i64 0, .int .i64 0]] 0 0 x.av = some [x.av] := rfl
@[simp] theorem ChildState_stm_all (l : List ChildState) (x : ChildState) : setElem (l.map ChildState.av) k 0 x.av = l[k]?.map fun _ => (l.set k x).map ChildState.av := by
 cases h : l[k]? with
 | none => simp [setElem, h]
 | some s => simp only [setElem, List.getElem?_map, h, Option.map_some, List.map_set]; rfl
theorem ChildState_ext : s = t ↔ s.status = t.status ∧ s.starts = t.starts := by
 cases s; cases t; simp only [ChildState.mk.injEq]
@[simp] theorem ChildState_eqs (n : Bool) : eqsV n [0, 0] s.av t.av = .bool (if n then !decide (s = t) else decide (s = t)) := by
 have h : (decide (s.status = t.status) && (decide (s.starts = t.starts) && true)) = decide (s = t) := by
  rw [Bool.eq_iff_iff]; simp [ChildState_ext]
 simp only [ChildState.av, eqsV, eqCells, eqCell, if_true, h]
def childStateSh : List Sh := [.int .i64, .int .i64]
def ChildState.wf (s : ChildState) : Prop := (Lit.int .i64 s.status).wf = true ∧ (Lit.int .i64 s.starts).wf = true ∧ True
theorem ChildState_of {e : AV} (hr : RowOk true 2 e) (hv : ∀ (j : Nat) (c : AV) (s : Sh), (AV.cells e)[j]? = some c → childStateSh[j]? = some s → ShOk s c) : ∃ s : ChildState, e = s.av ∧ s.wf := by
 obtain ⟨cs, rfl, hl⟩ := hr.1 rfl
 match cs, hl with
 | [a0, a1], _ =>
  obtain ⟨n0, rfl, w0⟩ := sh_int (hv 0 _ _ rfl rfl)
  obtain ⟨n1, rfl, w1⟩ := sh_int (hv 1 _ _ rfl rfl)
  exact ⟨⟨n0, n1⟩, rfl, w0, w1, trivial⟩
end
structure Spec where
 strategy : Int
 intensity : Int
 window : Int
 children : (Sl Child)
 deriving DecidableEq, Inhabited
def Spec.av (s : Spec) : AV := .agg [I s.strategy, I s.intensity, I s.window, Sl.av Child.av 3 s.children]
section
variable {s t : Spec} {H : Heap} {es : List AV} {k : Nat}
@[simp] theorem Spec_okO : okO s.av = some s.av := rfl
@[simp] theorem Spec_ok : s.av.ok = true := rfl
@[simp] theorem Spec_flat : s.av.flat = true := rfl
@[simp] theorem Spec_len : s.av.cells.length = 4 := rfl
@[simp] theorem Spec_cell : s.av.cells.all AV.cell = true := rfl
@[simp] theorem Spec_still : s.av.cells.all AV.still = true := rfl
@[simp] theorem Spec_still2 : (∀ x, x ∈ s.av.cells → AV.still x = true) ↔ True := by simp only [iff_true]; exact List.all_eq_true.1 Spec_still
@[simp] theorem Spec_cell2 : (∀ x, x ∈ s.av.cells → AV.cell x = true) ↔ True := by simp only [iff_true]; exact List.all_eq_true.1 Spec_cell
@[simp] theorem Spec_frz (n : Nat) : frz H (n + 2) s.av = some s.av := rfl
@[simp] theorem Spec_frz0 (n : Nat) : frzs (frz H (n + 1)) s.av.cells = some s.av.cells := rfl
@[simp] theorem Spec_whole : ldCells true 4 s.av.cells = s.av := rfl
@[simp] theorem Spec_fold : AV.agg s.av.cells = s.av := rfl
theorem Spec_mk (strategy : Int) (intensity : Int) (window : Int) (children : (Sl Child)) : (.agg [I strategy, I intensity, I window, Sl.av Child.av 3 children] : AV) = (Spec.mk strategy intensity window children).av := rfl
@[simp] theorem Spec_ld_strategy : ldCells false 1 s.av.cells = I s.strategy := rfl
@[simp] theorem Spec_fv_strategy : fldvV false 1 0 s.av = I s.strategy := rfl
@[simp] theorem Spec_st_strategy (x : Int) : setElem [s.av] 0 0 (I x) = some [({ s with strategy := x } : Spec).av] := rfl
@[simp] theorem Spec_stm_strategy (l : List Spec) (x : Int) : setElem (l.map Spec.av) k 0 (I x) = l[k]?.map fun s => (l.set k { s with strategy := x }).map Spec.av := by
 cases h : l[k]? with
 | none => simp [setElem, h]
 | some s => simp only [setElem, List.getElem?_map, h, Option.map_some, List.map_set]; rfl
@[simp] theorem Spec_ld_intensity : ldCells false 1 s.av.cells.tail = I s.intensity := rfl
@[simp] theorem Spec_fv_intensity : fldvV false 1 1 s.av = I s.intensity := rfl
@[simp] theorem Spec_st_intensity (x : Int) : setElem [s.av] 0 1 (I x) = some [({ s with intensity := x } : Spec).av] := rfl
@[simp] theorem Spec_stm_intensity (l : List Spec) (x : Int) : setElem (l.map Spec.av) k 1 (I x) = l[k]?.map fun s => (l.set k { s with intensity := x }).map Spec.av := by
 cases h : l[k]? with
 | none => simp [setElem, h]
 | some s => simp only [setElem, List.getElem?_map, h, Option.map_some, List.map_set]; rfl
@[simp] theorem Spec_ld_window : ldCells false 1 (s.av.cells.drop 2) = I s.window := rfl
@[simp] theorem Spec_fv_window : fldvV false 1 2 s.av = I s.window := rfl
@[simp] theorem Spec_st_window (x : Int) : setElem [s.av] 0 2 (I x) = some [({ s with window := x } : Spec).av] := rfl
@[simp] theorem Spec_stm_window (l : List Spec) (x : Int) : setElem (l.map Spec.av) k 2 (I x) = l[k]?.map fun s => (l.set k { s with window := x }).map Spec.av := by
 cases h : l[k]? with
 | none => simp [setElem, h]
 | some s => simp only [setElem, List.getElem?_map, h, Option.map_some, List.map_set]; rfl
@[simp] theorem Spec_ld_children : ldCells false 1 (s.av.cells.drop 3) = Sl.av Child.av 3 s.children := rfl
@[simp] theorem Spec_fv_children : fldvV false 1 3 s.av = Sl.av Child.av 3 s.children := rfl
@[simp] theorem Spec_st_children (x : (Sl Child)) : setElem [s.av] 0 3 (Sl.av Child.av 3 x) = some [({ s with children := x } : Spec).av] := rfl
@[simp] theorem Spec_stm_children (l : List Spec) (x : (Sl Child)) : setElem (l.map Spec.av) k 3 (Sl.av Child.av 3 x) = l[k]?.map fun s => (l.set k { s with children := x }).map Spec.av := by
 cases h : l[k]? with
 | none => simp [setElem, h]
 | some s => simp only [setElem, List.getElem?_map, h, Option.map_some, List.map_set]; rfl
@[simp] theorem Spec_st_all (x : Spec) : setElem [s.av] 0 0 x.av = some [x.av] := rfl
@[simp] theorem Spec_st_new (x : Spec) : setElem [.agg [.int .i64 0, .int .i64 0, .int .i64 0, .isl (some true) 0 []]] 0 0 x.av = some [x.av] := rfl
@[simp] theorem Spec_stm_all (l : List Spec) (x : Spec) : setElem (l.map Spec.av) k 0 x.av = l[k]?.map fun _ => (l.set k x).map Spec.av := by
 cases h : l[k]? with
 | none => simp [setElem, h]
 | some s => simp only [setElem, List.getElem?_map, h, Option.map_some, List.map_set]; rfl
def specSh : List Sh := [.int .i64, .int .i64, .int .i64, .sl true childSh]
def Spec.wf (s : Spec) : Prop := (Lit.int .i64 s.strategy).wf = true ∧ (Lit.int .i64 s.intensity).wf = true ∧ (Lit.int .i64 s.window).wf = true ∧ SlOk Child.wf s.children ∧ True
theorem Spec_of {e : AV} (hr : RowOk true 4 e) (hv : ∀ (j : Nat) (c : AV) (s : Sh), (AV.cells e)[j]? = some c → specSh[j]? = some s → ShOk s c) : ∃ s : Spec, e = s.av ∧ s.wf := by
 obtain ⟨cs, rfl, hl⟩ := hr.1 rfl
 match cs, hl with
 | [a0, a1, a2, a3], _ =>
  obtain ⟨n0, rfl, w0⟩ := sh_int (hv 0 _ _ rfl rfl)
  obtain ⟨n1, rfl, w1⟩ := sh_int (hv 1 _ _ rfl rfl)
  obtain ⟨n2, rfl, w2⟩ := sh_int (hv 2 _ _ rfl rfl)
  obtain ⟨n3, h3, w3⟩ := sl_of (f := Child.av) (fun e => Child_of) (hv 3 _ _ rfl rfl)
  subst h3
  exact ⟨⟨n0, n1, n2, n3⟩, rfl, w0, w1, w2, w3, trivial⟩
end
structure State where
 status : Int
 children : (Sl ChildState)
 restarts : (Sl Int)
 failed : Bool
 deriving DecidableEq, Inhabited
def State.av (s : State) : AV := .agg [I s.status, Sl.av ChildState.av 2 s.children, Sl.av I 1 s.restarts, .bool s.failed]
section
variable {s t : State} {H : Heap} {es : List AV} {k : Nat}
@[simp] theorem State_okO : okO s.av = some s.av := rfl
@[simp] theorem State_ok : s.av.ok = true := rfl
@[simp] theorem State_flat : s.av.flat = true := rfl
@[simp] theorem State_len : s.av.cells.length = 4 := rfl
@[simp] theorem State_cell : s.av.cells.all AV.cell = true := rfl
@[simp] theorem State_still : s.av.cells.all AV.still = true := rfl
@[simp] theorem State_still2 : (∀ x, x ∈ s.av.cells → AV.still x = true) ↔ True := by simp only [iff_true]; exact List.all_eq_true.1 State_still
@[simp] theorem State_cell2 : (∀ x, x ∈ s.av.cells → AV.cell x = true) ↔ True := by simp only [iff_true]; exact List.all_eq_true.1 State_cell
@[simp] theorem State_frz (n : Nat) : frz H (n + 2) s.av = some s.av := rfl
@[simp] theorem State_frz0 (n : Nat) : frzs (frz H (n + 1)) s.av.cells = some s.av.cells := rfl
@[simp] theorem State_whole : ldCells true 4 s.av.cells = s.av := rfl
@[simp] theorem State_fold : AV.agg s.av.cells = s.av := rfl
theorem State_mk (status : Int) (children : (Sl ChildState)) (restarts : (Sl Int)) (failed : Bool) : (.agg [I status, Sl.av ChildState.av 2 children, Sl.av I 1 restarts, .bool failed] : AV) = (State.mk status children restarts failed).av := rfl
@[simp] theorem State_ld_status : ldCells false 1 s.av.cells = I s.status := rfl
@[simp] theorem State_fv_status : fldvV false 1 0 s.av = I s.status := rfl
@[simp] theorem State_st_status (x : Int) : setElem [s.av] 0 0 (I x) = some [({ s with status := x } : State).av] := rfl
@[simp] theorem State_stm_status (l : List State) (x : Int) : setElem (l.map State.av) k 0 (I x) = l[k]?.map fun s => (l.set k { s with status := x }).map State.av := by
 cases h : l[k]? with
 | none => simp [setElem, h]
 | some s => simp only [setElem, List.getElem?_map, h, Option.map_some, List.map_set]; rfl
@[simp] theorem State_ld_children : ldCells false 1 s.av.cells.tail = Sl.av ChildState.av 2 s.children := rfl
@[simp] theorem State_fv_children : fldvV false 1 1 s.av = Sl.av ChildState.av 2 s.children := rfl
@[simp] theorem State_st_children (x : (Sl ChildState)) : setElem [s.av] 0 1 (Sl.av ChildState.av 2 x) = some [({ s with children := x } : State).av] := rfl
@[simp] theorem State_stm_children (l : List State) (x : (Sl ChildState)) : setElem (l.map State.av) k 1 (Sl.av ChildState.av 2 x) = l[k]?.map fun s => (l.set k { s with children := x }).map State.av := by
 cases h : l[k]? with
 | none => simp [setElem, h]
 | some s => simp only [setElem, List.getElem?_map, h, Option.map_some, List.map_set]; rfl
@[simp] theorem State_ld_restarts : ldCells false 1 (s.av.cells.drop 2) = Sl.av I 1 s.restarts := rfl
@[simp] theorem State_fv_restarts : fldvV false 1 2 s.av = Sl.av I 1 s.restarts := rfl
@[simp] theorem State_st_restarts (x : (Sl Int)) : setElem [s.av] 0 2 (Sl.av I 1 x) = some [({ s with restarts := x } : State).av] := rfl
@[simp] theorem State_stm_restarts (l : List State) (x : (Sl Int)) : setElem (l.map State.av) k 2 (Sl.av I 1 x) = l[k]?.map fun s => (l.set k { s with restarts := x }).map State.av := by
 cases h : l[k]? with
 | none => simp [setElem, h]
 | some s => simp only [setElem, List.getElem?_map, h, Option.map_some, List.map_set]; rfl
@[simp] theorem State_ld_failed : ldCells false 1 (s.av.cells.drop 3) = .bool s.failed := rfl
@[simp] theorem State_fv_failed : fldvV false 1 3 s.av = .bool s.failed := rfl
@[simp] theorem State_st_failed (x : Bool) : setElem [s.av] 0 3 (.bool x) = some [({ s with failed := x } : State).av] := rfl
@[simp] theorem State_stm_failed (l : List State) (x : Bool) : setElem (l.map State.av) k 3 (.bool x) = l[k]?.map fun s => (l.set k { s with failed := x }).map State.av := by
 cases h : l[k]? with
 | none => simp [setElem, h]
 | some s => simp only [setElem, List.getElem?_map, h, Option.map_some, List.map_set]; rfl
@[simp] theorem State_st_all (x : State) : setElem [s.av] 0 0 x.av = some [x.av] := rfl
@[simp] theorem State_st_new (x : State) : setElem [.agg [.int .i64 0, .isl (some true) 0 [], .isl (some true) 0 [], .bool false]] 0 0 x.av = some [x.av] := rfl
@[simp] theorem State_stm_all (l : List State) (x : State) : setElem (l.map State.av) k 0 x.av = l[k]?.map fun _ => (l.set k x).map State.av := by
 cases h : l[k]? with
 | none => simp [setElem, h]
 | some s => simp only [setElem, List.getElem?_map, h, Option.map_some, List.map_set]; rfl
def stateSh : List Sh := [.int .i64, .sl true childStateSh, .sl false [.int .i64], .bool]
def State.wf (s : State) : Prop := (Lit.int .i64 s.status).wf = true ∧ SlOk ChildState.wf s.children ∧ SlOk (fun n => (Lit.int .i64 n).wf = true) s.restarts ∧ True
theorem State_of {e : AV} (hr : RowOk true 4 e) (hv : ∀ (j : Nat) (c : AV) (s : Sh), (AV.cells e)[j]? = some c → stateSh[j]? = some s → ShOk s c) : ∃ s : State, e = s.av ∧ s.wf := by
 obtain ⟨cs, rfl, hl⟩ := hr.1 rfl
 match cs, hl with
 | [a0, a1, a2, a3], _ =>
  obtain ⟨n0, rfl, w0⟩ := sh_int (hv 0 _ _ rfl rfl)
  obtain ⟨n1, h1, w1⟩ := sl_of (f := ChildState.av) (fun e => ChildState_of) (hv 1 _ _ rfl rfl)
  subst h1
  obtain ⟨n2, h2, w2⟩ := sl_of (f := I) row_int (hv 2 _ _ rfl rfl)
  subst h2
  obtain ⟨n3, rfl⟩ := sh_bool (hv 3 _ _ rfl rfl)
  exact ⟨⟨n0, n1, n2, n3⟩, rfl, w0, w1, w2, trivial⟩
end
structure Event where
 kind : Int
 child : Int
 value : Int
 time : Int
 deriving DecidableEq, Inhabited
def Event.av (s : Event) : AV := .agg [I s.kind, I s.child, I s.value, I s.time]
section
variable {s t : Event} {H : Heap} {es : List AV} {k : Nat}
@[simp] theorem Event_okO : okO s.av = some s.av := rfl
@[simp] theorem Event_ok : s.av.ok = true := rfl
@[simp] theorem Event_flat : s.av.flat = true := rfl
@[simp] theorem Event_len : s.av.cells.length = 4 := rfl
@[simp] theorem Event_cell : s.av.cells.all AV.cell = true := rfl
@[simp] theorem Event_still : s.av.cells.all AV.still = true := rfl
@[simp] theorem Event_still2 : (∀ x, x ∈ s.av.cells → AV.still x = true) ↔ True := by simp only [iff_true]; exact List.all_eq_true.1 Event_still
@[simp] theorem Event_cell2 : (∀ x, x ∈ s.av.cells → AV.cell x = true) ↔ True := by simp only [iff_true]; exact List.all_eq_true.1 Event_cell
@[simp] theorem Event_frz (n : Nat) : frz H (n + 2) s.av = some s.av := rfl
@[simp] theorem Event_frz0 (n : Nat) : frzs (frz H (n + 1)) s.av.cells = some s.av.cells := rfl
@[simp] theorem Event_whole : ldCells true 4 s.av.cells = s.av := rfl
@[simp] theorem Event_fold : AV.agg s.av.cells = s.av := rfl
theorem Event_mk (kind : Int) (child : Int) (value : Int) (time : Int) : (.agg [I kind, I child, I value, I time] : AV) = (Event.mk kind child value time).av := rfl
@[simp] theorem Event_ld_kind : ldCells false 1 s.av.cells = I s.kind := rfl
@[simp] theorem Event_fv_kind : fldvV false 1 0 s.av = I s.kind := rfl
@[simp] theorem Event_st_kind (x : Int) : setElem [s.av] 0 0 (I x) = some [({ s with kind := x } : Event).av] := rfl
@[simp] theorem Event_stm_kind (l : List Event) (x : Int) : setElem (l.map Event.av) k 0 (I x) = l[k]?.map fun s => (l.set k { s with kind := x }).map Event.av := by
 cases h : l[k]? with
 | none => simp [setElem, h]
 | some s => simp only [setElem, List.getElem?_map, h, Option.map_some, List.map_set]; rfl
@[simp] theorem Event_ld_child : ldCells false 1 s.av.cells.tail = I s.child := rfl
@[simp] theorem Event_fv_child : fldvV false 1 1 s.av = I s.child := rfl
@[simp] theorem Event_st_child (x : Int) : setElem [s.av] 0 1 (I x) = some [({ s with child := x } : Event).av] := rfl
@[simp] theorem Event_stm_child (l : List Event) (x : Int) : setElem (l.map Event.av) k 1 (I x) = l[k]?.map fun s => (l.set k { s with child := x }).map Event.av := by
 cases h : l[k]? with
 | none => simp [setElem, h]
 | some s => simp only [setElem, List.getElem?_map, h, Option.map_some, List.map_set]; rfl
@[simp] theorem Event_ld_value : ldCells false 1 (s.av.cells.drop 2) = I s.value := rfl
@[simp] theorem Event_fv_value : fldvV false 1 2 s.av = I s.value := rfl
@[simp] theorem Event_st_value (x : Int) : setElem [s.av] 0 2 (I x) = some [({ s with value := x } : Event).av] := rfl
@[simp] theorem Event_stm_value (l : List Event) (x : Int) : setElem (l.map Event.av) k 2 (I x) = l[k]?.map fun s => (l.set k { s with value := x }).map Event.av := by
 cases h : l[k]? with
 | none => simp [setElem, h]
 | some s => simp only [setElem, List.getElem?_map, h, Option.map_some, List.map_set]; rfl
@[simp] theorem Event_ld_time : ldCells false 1 (s.av.cells.drop 3) = I s.time := rfl
@[simp] theorem Event_fv_time : fldvV false 1 3 s.av = I s.time := rfl
@[simp] theorem Event_st_time (x : Int) : setElem [s.av] 0 3 (I x) = some [({ s with time := x } : Event).av] := rfl
@[simp] theorem Event_stm_time (l : List Event) (x : Int) : setElem (l.map Event.av) k 3 (I x) = l[k]?.map fun s => (l.set k { s with time := x }).map Event.av := by
 cases h : l[k]? with
 | none => simp [setElem, h]
 | some s => simp only [setElem, List.getElem?_map, h, Option.map_some, List.map_set]; rfl
@[simp] theorem Event_st_all (x : Event) : setElem [s.av] 0 0 x.av = some [x.av] := rfl
@[simp] theorem Event_st_new (x : Event) : setElem [.agg [.int .i64 0, .int .i64 0, .int .i64 0, .int .i64 0]] 0 0 x.av = some [x.av] := rfl
@[simp] theorem Event_stm_all (l : List Event) (x : Event) : setElem (l.map Event.av) k 0 x.av = l[k]?.map fun _ => (l.set k x).map Event.av := by
 cases h : l[k]? with
 | none => simp [setElem, h]
 | some s => simp only [setElem, List.getElem?_map, h, Option.map_some, List.map_set]; rfl
theorem Event_ext : s = t ↔ s.kind = t.kind ∧ s.child = t.child ∧ s.value = t.value ∧ s.time = t.time := by
 cases s; cases t; simp only [Event.mk.injEq]
@[simp] theorem Event_eqs (n : Bool) : eqsV n [0, 0, 0, 0] s.av t.av = .bool (if n then !decide (s = t) else decide (s = t)) := by
 have h : (decide (s.kind = t.kind) && (decide (s.child = t.child) && (decide (s.value = t.value) && (decide (s.time = t.time) && true)))) = decide (s = t) := by
  rw [Bool.eq_iff_iff]; simp [Event_ext]
 simp only [Event.av, eqsV, eqCells, eqCell, if_true, h]
def Event.wf (s : Event) : Prop := (Lit.int .i64 s.kind).wf = true ∧ (Lit.int .i64 s.child).wf = true ∧ (Lit.int .i64 s.value).wf = true ∧ (Lit.int .i64 s.time).wf = true ∧ True
end
structure Due where
 sup : Int
 e : Event
 deriving DecidableEq, Inhabited
def Due.av (s : Due) : AV := .agg [I s.sup, I s.e.kind, I s.e.child, I s.e.value, I s.e.time]
section
variable {s t : Due} {H : Heap} {es : List AV} {k : Nat}
@[simp] theorem Due_okO : okO s.av = some s.av := rfl
@[simp] theorem Due_ok : s.av.ok = true := rfl
@[simp] theorem Due_flat : s.av.flat = true := rfl
@[simp] theorem Due_len : s.av.cells.length = 5 := rfl
@[simp] theorem Due_cell : s.av.cells.all AV.cell = true := rfl
@[simp] theorem Due_still : s.av.cells.all AV.still = true := rfl
@[simp] theorem Due_still2 : (∀ x, x ∈ s.av.cells → AV.still x = true) ↔ True := by simp only [iff_true]; exact List.all_eq_true.1 Due_still
@[simp] theorem Due_cell2 : (∀ x, x ∈ s.av.cells → AV.cell x = true) ↔ True := by simp only [iff_true]; exact List.all_eq_true.1 Due_cell
@[simp] theorem Due_frz (n : Nat) : frz H (n + 2) s.av = some s.av := rfl
@[simp] theorem Due_frz0 (n : Nat) : frzs (frz H (n + 1)) s.av.cells = some s.av.cells := rfl
@[simp] theorem Due_whole : ldCells true 5 s.av.cells = s.av := rfl
@[simp] theorem Due_fold : AV.agg s.av.cells = s.av := rfl
theorem Due_mk (sup : Int) (e : Event) : (.agg [I sup, I e.kind, I e.child, I e.value, I e.time] : AV) = (Due.mk sup e).av := rfl
@[simp] theorem Due_ld_sup : ldCells false 1 s.av.cells = I s.sup := rfl
@[simp] theorem Due_fv_sup : fldvV false 1 0 s.av = I s.sup := rfl
@[simp] theorem Due_st_sup (x : Int) : setElem [s.av] 0 0 (I x) = some [({ s with sup := x } : Due).av] := rfl
@[simp] theorem Due_stm_sup (l : List Due) (x : Int) : setElem (l.map Due.av) k 0 (I x) = l[k]?.map fun s => (l.set k { s with sup := x }).map Due.av := by
 cases h : l[k]? with
 | none => simp [setElem, h]
 | some s => simp only [setElem, List.getElem?_map, h, Option.map_some, List.map_set]; rfl
@[simp] theorem Due_ld_e : ldCells true 4 s.av.cells.tail = s.e.av := rfl
@[simp] theorem Due_fv_e : fldvV true 4 1 s.av = s.e.av := rfl
@[simp] theorem Due_st_e (x : Event) : setElem [s.av] 0 1 x.av = some [({ s with e := x } : Due).av] := rfl
@[simp] theorem Due_stm_e (l : List Due) (x : Event) : setElem (l.map Due.av) k 1 x.av = l[k]?.map fun s => (l.set k { s with e := x }).map Due.av := by
 cases h : l[k]? with
 | none => simp [setElem, h]
 | some s => simp only [setElem, List.getElem?_map, h, Option.map_some, List.map_set]; rfl
@[simp] theorem Due_ld_e_kind : ldCells false 1 s.av.cells.tail = I s.e.kind := rfl
@[simp] theorem Due_fv_e_kind : fldvV false 1 1 s.av = I s.e.kind := rfl
@[simp] theorem Due_st_e_kind (x : Int) : setElem [s.av] 0 1 (I x) = some [({ s with e.kind := x } : Due).av] := rfl
@[simp] theorem Due_stm_e_kind (l : List Due) (x : Int) : setElem (l.map Due.av) k 1 (I x) = l[k]?.map fun s => (l.set k { s with e.kind := x }).map Due.av := by
 cases h : l[k]? with
 | none => simp [setElem, h]
 | some s => simp only [setElem, List.getElem?_map, h, Option.map_some, List.map_set]; rfl
@[simp] theorem Due_ld_e_child : ldCells false 1 (s.av.cells.drop 2) = I s.e.child := rfl
@[simp] theorem Due_fv_e_child : fldvV false 1 2 s.av = I s.e.child := rfl
@[simp] theorem Due_st_e_child (x : Int) : setElem [s.av] 0 2 (I x) = some [({ s with e.child := x } : Due).av] := rfl
@[simp] theorem Due_stm_e_child (l : List Due) (x : Int) : setElem (l.map Due.av) k 2 (I x) = l[k]?.map fun s => (l.set k { s with e.child := x }).map Due.av := by
 cases h : l[k]? with
 | none => simp [setElem, h]
 | some s => simp only [setElem, List.getElem?_map, h, Option.map_some, List.map_set]; rfl
@[simp] theorem Due_ld_e_value : ldCells false 1 (s.av.cells.drop 3) = I s.e.value := rfl
@[simp] theorem Due_fv_e_value : fldvV false 1 3 s.av = I s.e.value := rfl
@[simp] theorem Due_st_e_value (x : Int) : setElem [s.av] 0 3 (I x) = some [({ s with e.value := x } : Due).av] := rfl
@[simp] theorem Due_stm_e_value (l : List Due) (x : Int) : setElem (l.map Due.av) k 3 (I x) = l[k]?.map fun s => (l.set k { s with e.value := x }).map Due.av := by
 cases h : l[k]? with
 | none => simp [setElem, h]
 | some s => simp only [setElem, List.getElem?_map, h, Option.map_some, List.map_set]; rfl
@[simp] theorem Due_ld_e_time : ldCells false 1 (s.av.cells.drop 4) = I s.e.time := rfl
@[simp] theorem Due_fv_e_time : fldvV false 1 4 s.av = I s.e.time := rfl
@[simp] theorem Due_st_e_time (x : Int) : setElem [s.av] 0 4 (I x) = some [({ s with e.time := x } : Due).av] := rfl
@[simp] theorem Due_stm_e_time (l : List Due) (x : Int) : setElem (l.map Due.av) k 4 (I x) = l[k]?.map fun s => (l.set k { s with e.time := x }).map Due.av := by
 cases h : l[k]? with
 | none => simp [setElem, h]
 | some s => simp only [setElem, List.getElem?_map, h, Option.map_some, List.map_set]; rfl
@[simp] theorem Due_st_all (x : Due) : setElem [s.av] 0 0 x.av = some [x.av] := rfl
@[simp] theorem Due_st_new (x : Due) : setElem [.agg [.int .i64 0, .int .i64 0, .int .i64 0, .int .i64 0, .int .i64 0]] 0 0 x.av = some [x.av] := rfl
@[simp] theorem Due_stm_all (l : List Due) (x : Due) : setElem (l.map Due.av) k 0 x.av = l[k]?.map fun _ => (l.set k x).map Due.av := by
 cases h : l[k]? with
 | none => simp [setElem, h]
 | some s => simp only [setElem, List.getElem?_map, h, Option.map_some, List.map_set]; rfl
theorem Due_ext : s = t ↔ s.sup = t.sup ∧ s.e.kind = t.e.kind ∧ s.e.child = t.e.child ∧ s.e.value = t.e.value ∧ s.e.time = t.e.time := by
 cases s; cases t; simp only [Due.mk.injEq, Event_ext]; try simp only [and_assoc]
@[simp] theorem Due_eqs (n : Bool) : eqsV n [0, 0, 0, 0, 0] s.av t.av = .bool (if n then !decide (s = t) else decide (s = t)) := by
 have h : (decide (s.sup = t.sup) && (decide (s.e.kind = t.e.kind) && (decide (s.e.child = t.e.child) && (decide (s.e.value = t.e.value) && (decide (s.e.time = t.e.time) && true))))) = decide (s = t) := by
  rw [Bool.eq_iff_iff]; simp [Due_ext]
 simp only [Due.av, eqsV, eqCells, eqCell, if_true, h]
def Due.wf (s : Due) : Prop := (Lit.int .i64 s.sup).wf = true ∧ (Lit.int .i64 s.e.kind).wf = true ∧ (Lit.int .i64 s.e.child).wf = true ∧ (Lit.int .i64 s.e.value).wf = true ∧ (Lit.int .i64 s.e.time).wf = true ∧ True
end
structure Happening where
 worker : Int
 reason : Int
 after : Int
 deriving DecidableEq, Inhabited
def Happening.av (s : Happening) : AV := .agg [I s.worker, I s.reason, B8 s.after]
section
variable {s t : Happening} {H : Heap} {es : List AV} {k : Nat}
@[simp] theorem Happening_okO : okO s.av = some s.av := rfl
@[simp] theorem Happening_ok : s.av.ok = true := rfl
@[simp] theorem Happening_flat : s.av.flat = true := rfl
@[simp] theorem Happening_len : s.av.cells.length = 3 := rfl
@[simp] theorem Happening_cell : s.av.cells.all AV.cell = true := rfl
@[simp] theorem Happening_still : s.av.cells.all AV.still = true := rfl
@[simp] theorem Happening_still2 : (∀ x, x ∈ s.av.cells → AV.still x = true) ↔ True := by simp only [iff_true]; exact List.all_eq_true.1 Happening_still
@[simp] theorem Happening_cell2 : (∀ x, x ∈ s.av.cells → AV.cell x = true) ↔ True := by simp only [iff_true]; exact List.all_eq_true.1 Happening_cell
@[simp] theorem Happening_frz (n : Nat) : frz H (n + 2) s.av = some s.av := rfl
@[simp] theorem Happening_frz0 (n : Nat) : frzs (frz H (n + 1)) s.av.cells = some s.av.cells := rfl
@[simp] theorem Happening_whole : ldCells true 3 s.av.cells = s.av := rfl
@[simp] theorem Happening_fold : AV.agg s.av.cells = s.av := rfl
theorem Happening_mk (worker : Int) (reason : Int) (after : Int) : (.agg [I worker, I reason, B8 after] : AV) = (Happening.mk worker reason after).av := rfl
@[simp] theorem Happening_ld_worker : ldCells false 1 s.av.cells = I s.worker := rfl
@[simp] theorem Happening_fv_worker : fldvV false 1 0 s.av = I s.worker := rfl
@[simp] theorem Happening_st_worker (x : Int) : setElem [s.av] 0 0 (I x) = some [({ s with worker := x } : Happening).av] := rfl
@[simp] theorem Happening_stm_worker (l : List Happening) (x : Int) : setElem (l.map Happening.av) k 0 (I x) = l[k]?.map fun s => (l.set k { s with worker := x }).map Happening.av := by
 cases h : l[k]? with
 | none => simp [setElem, h]
 | some s => simp only [setElem, List.getElem?_map, h, Option.map_some, List.map_set]; rfl
@[simp] theorem Happening_ld_reason : ldCells false 1 s.av.cells.tail = I s.reason := rfl
@[simp] theorem Happening_fv_reason : fldvV false 1 1 s.av = I s.reason := rfl
@[simp] theorem Happening_st_reason (x : Int) : setElem [s.av] 0 1 (I x) = some [({ s with reason := x } : Happening).av] := rfl
@[simp] theorem Happening_stm_reason (l : List Happening) (x : Int) : setElem (l.map Happening.av) k 1 (I x) = l[k]?.map fun s => (l.set k { s with reason := x }).map Happening.av := by
 cases h : l[k]? with
 | none => simp [setElem, h]
 | some s => simp only [setElem, List.getElem?_map, h, Option.map_some, List.map_set]; rfl
@[simp] theorem Happening_ld_after : ldCells false 1 (s.av.cells.drop 2) = B8 s.after := rfl
@[simp] theorem Happening_fv_after : fldvV false 1 2 s.av = B8 s.after := rfl
@[simp] theorem Happening_st_after (x : Int) : setElem [s.av] 0 2 (B8 x) = some [({ s with after := x } : Happening).av] := rfl
@[simp] theorem Happening_stm_after (l : List Happening) (x : Int) : setElem (l.map Happening.av) k 2 (B8 x) = l[k]?.map fun s => (l.set k { s with after := x }).map Happening.av := by
 cases h : l[k]? with
 | none => simp [setElem, h]
 | some s => simp only [setElem, List.getElem?_map, h, Option.map_some, List.map_set]; rfl
@[simp] theorem Happening_st_all (x : Happening) : setElem [s.av] 0 0 x.av = some [x.av] := rfl
@[simp] theorem Happening_st_new (x : Happening) : setElem [.agg [.int .i64 0, .int .i64 0, .int .u8 0]] 0 0 x.av = some [x.av] := rfl
@[simp] theorem Happening_stm_all (l : List Happening) (x : Happening) : setElem (l.map Happening.av) k 0 x.av = l[k]?.map fun _ => (l.set k x).map Happening.av := by
 cases h : l[k]? with
 | none => simp [setElem, h]
 | some s => simp only [setElem, List.getElem?_map, h, Option.map_some, List.map_set]; rfl
def Happening.wf (s : Happening) : Prop := (Lit.int .i64 s.worker).wf = true ∧ (Lit.int .i64 s.reason).wf = true ∧ (Lit.int .u8 s.after).wf = true ∧ True
end
end Go.Proofs.YtjknjapdcphcfaaGreat
