/-
  Plain structures for the program's, printed by a program of mine (conditions: none).
-/
import Derived.Test.YthenmgpbcmlhoaaSl
namespace Go.Proofs.Ythenmgpbcmlhoaa
open Go Go.RowKit
set_option linter.unusedVariables false
set_option linter.unusedSimpArgs false

structure Child where
  name : (List UInt8)
  policy : Int
  sub : Int
  deriving DecidableEq, Inhabited
def Child.av (s : Child) : AV := .agg [.str s.name, I s.policy, I s.sub]
section
variable {s t : Child} {H : Heap} {es : List AV} {k : Nat}
@[simp] theorem Child_okO : okO s.av = some s.av := rfl
@[simp] theorem Child_ok : s.av.ok = true := rfl
@[simp] theorem Child_flat : s.av.flat = true := rfl
@[simp] theorem Child_len : s.av.cells.length = 3 := rfl
@[simp] theorem Child_cell : s.av.cells.all AV.cell = true := rfl
@[simp] theorem Child_still : s.av.cells.all AV.still = true := rfl
@[simp] theorem Child_still2 : (∀ x, x ∈ s.av.cells → AV.still x = true) ↔ True := by simp only [iff_true]; exact List.all_eq_true.1 Child_still
@[simp] theorem Child_cell2 : (∀ x, x ∈ s.av.cells → AV.cell x = true) ↔ True := by simp only [iff_true]; exact List.all_eq_true.1 Child_cell
@[simp] theorem Child_frz (n : Nat) : frz H (n + 2) s.av = some s.av := rfl
@[simp] theorem Child_frz0 (n : Nat) : frzs (frz H (n + 1)) s.av.cells = some s.av.cells := rfl
@[simp] theorem Child_whole : ldCells true 3 s.av.cells = s.av := rfl
@[simp] theorem Child_fold : AV.agg s.av.cells = s.av := rfl
theorem Child_mk (name : (List UInt8)) (policy : Int) (sub : Int) : (.agg [.str name, I policy, I sub] : AV) = (Child.mk name policy sub).av := rfl
@[simp] theorem Child_ld_name : ldCells false 1 s.av.cells = .str s.name := rfl
@[simp] theorem Child_fv_name : fldvV false 1 0 s.av = .str s.name := rfl
@[simp] theorem Child_st_name (x : (List UInt8)) : setElem [s.av] 0 0 (.str x) = some [({ s with name := x } : Child).av] := rfl
@[simp] theorem Child_stm_name (l : List Child) (x : (List UInt8)) : setElem (l.map Child.av) k 0 (.str x) = l[k]?.map fun s => (l.set k { s with name := x }).map Child.av := by
  cases h : l[k]? with
  | none => simp [setElem, h]
  | some s => simp only [setElem, List.getElem?_map, h, Option.map_some, List.map_set]; rfl
@[simp] theorem Child_ld_policy : ldCells false 1 s.av.cells.tail = I s.policy := rfl
@[simp] theorem Child_fv_policy : fldvV false 1 1 s.av = I s.policy := rfl
@[simp] theorem Child_st_policy (x : Int) : setElem [s.av] 0 1 (I x) = some [({ s with policy := x } : Child).av] := rfl
@[simp] theorem Child_stm_policy (l : List Child) (x : Int) : setElem (l.map Child.av) k 1 (I x) = l[k]?.map fun s => (l.set k { s with policy := x }).map Child.av := by
  cases h : l[k]? with
  | none => simp [setElem, h]
  | some s => simp only [setElem, List.getElem?_map, h, Option.map_some, List.map_set]; rfl
@[simp] theorem Child_ld_sub : ldCells false 1 (s.av.cells.drop 2) = I s.sub := rfl
@[simp] theorem Child_fv_sub : fldvV false 1 2 s.av = I s.sub := rfl
@[simp] theorem Child_st_sub (x : Int) : setElem [s.av] 0 2 (I x) = some [({ s with sub := x } : Child).av] := rfl
@[simp] theorem Child_stm_sub (l : List Child) (x : Int) : setElem (l.map Child.av) k 2 (I x) = l[k]?.map fun s => (l.set k { s with sub := x }).map Child.av := by
  cases h : l[k]? with
  | none => simp [setElem, h]
  | some s => simp only [setElem, List.getElem?_map, h, Option.map_some, List.map_set]; rfl
@[simp] theorem Child_st_all (x : Child) : setElem [s.av] 0 0 x.av = some [x.av] := rfl
@[simp] theorem Child_st_new (x : Child) : setElem [.agg [.str [], .int .i64 0, .int .i64 0]] 0 0 x.av = some [x.av] := rfl
@[simp] theorem Child_stm_all (l : List Child) (x : Child) : setElem (l.map Child.av) k 0 x.av = l[k]?.map fun _ => (l.set k x).map Child.av := by
  cases h : l[k]? with
  | none => simp [setElem, h]
  | some s => simp only [setElem, List.getElem?_map, h, Option.map_some, List.map_set]; rfl
theorem Child_ext : s = t ↔ s.name = t.name ∧ s.policy = t.policy ∧ s.sub = t.sub := by
  cases s; cases t; simp only [Child.mk.injEq]
@[simp] theorem Child_eqs (n : Bool) : eqsV n [2, 0, 0] s.av t.av = .bool (if n then !decide (s = t) else decide (s = t)) := by
  have h : (decide (s.name = t.name) && (decide (s.policy = t.policy) && (decide (s.sub = t.sub) && true))) = decide (s = t) := by
    rw [Bool.eq_iff_iff]; simp [Child_ext]
  simp only [Child.av, eqsV, eqCells, eqCell, if_true, h]
def childSh : List Sh := [.str, .int .i64, .int .i64]
def Child.wf (s : Child) : Prop := s.name.length ≤ maxLen ∧ (Lit.int .i64 s.policy).wf = true ∧ (Lit.int .i64 s.sub).wf = true ∧ True
theorem Child_of {e : AV} (hr : RowOk true 3 e) (hv : ∀ (j : Nat) (c : AV) (s : Sh), (AV.cells e)[j]? = some c → childSh[j]? = some s → ShOk s c) : ∃ s : Child, e = s.av ∧ s.wf := by
  obtain ⟨cs, rfl, hl⟩ := hr.1 rfl
  match cs, hl with
  | [a0, a1, a2], _ =>
    obtain ⟨n0, rfl, w0⟩ := sh_str (hv 0 _ _ rfl rfl)
    obtain ⟨n1, rfl, w1⟩ := sh_int (hv 1 _ _ rfl rfl)
    obtain ⟨n2, rfl, w2⟩ := sh_int (hv 2 _ _ rfl rfl)
    exact ⟨⟨n0, n1, n2⟩, rfl, w0, w1, w2, trivial⟩
theorem Child_arg {a : AV} (h : PShOk (true, childSh) a) : ∃ s : Child, a = s.av ∧ s.wf := by
  obtain ⟨cs, rfl, h1, h2⟩ := h.1 rfl
  exact Child_of ⟨fun _ => ⟨_, rfl, h1⟩, fun h => by cases h⟩ (fun j c s hc hs => h2 j c s hc hs)
end

structure ChildState where
  status : Int
  starts : Int
  deriving DecidableEq, Inhabited
def ChildState.av (s : ChildState) : AV := .agg [I s.status, I s.starts]
section
variable {s t : ChildState} {H : Heap} {es : List AV} {k : Nat}
@[simp] theorem ChildState_okO : okO s.av = some s.av := rfl
@[simp] theorem ChildState_ok : s.av.ok = true := rfl
@[simp] theorem ChildState_flat : s.av.flat = true := rfl
@[simp] theorem ChildState_len : s.av.cells.length = 2 := rfl
@[simp] theorem ChildState_cell : s.av.cells.all AV.cell = true := rfl
@[simp] theorem ChildState_still : s.av.cells.all AV.still = true := rfl
@[simp] theorem ChildState_still2 : (∀ x, x ∈ s.av.cells → AV.still x = true) ↔ True := by simp only [iff_true]; exact List.all_eq_true.1 ChildState_still
@[simp] theorem ChildState_cell2 : (∀ x, x ∈ s.av.cells → AV.cell x = true) ↔ True := by simp only [iff_true]; exact List.all_eq_true.1 ChildState_cell
@[simp] theorem ChildState_frz (n : Nat) : frz H (n + 2) s.av = some s.av := rfl
@[simp] theorem ChildState_frz0 (n : Nat) : frzs (frz H (n + 1)) s.av.cells = some s.av.cells := rfl
@[simp] theorem ChildState_whole : ldCells true 2 s.av.cells = s.av := rfl
@[simp] theorem ChildState_fold : AV.agg s.av.cells = s.av := rfl
theorem ChildState_mk (status : Int) (starts : Int) : (.agg [I status, I starts] : AV) = (ChildState.mk status starts).av := rfl
@[simp] theorem ChildState_ld_status : ldCells false 1 s.av.cells = I s.status := rfl
@[simp] theorem ChildState_fv_status : fldvV false 1 0 s.av = I s.status := rfl
@[simp] theorem ChildState_st_status (x : Int) : setElem [s.av] 0 0 (I x) = some [({ s with status := x } : ChildState).av] := rfl
@[simp] theorem ChildState_stm_status (l : List ChildState) (x : Int) : setElem (l.map ChildState.av) k 0 (I x) = l[k]?.map fun s => (l.set k { s with status := x }).map ChildState.av := by
  cases h : l[k]? with
  | none => simp [setElem, h]
  | some s => simp only [setElem, List.getElem?_map, h, Option.map_some, List.map_set]; rfl
@[simp] theorem ChildState_ld_starts : ldCells false 1 s.av.cells.tail = I s.starts := rfl
@[simp] theorem ChildState_fv_starts : fldvV false 1 1 s.av = I s.starts := rfl
@[simp] theorem ChildState_st_starts (x : Int) : setElem [s.av] 0 1 (I x) = some [({ s with starts := x } : ChildState).av] := rfl
@[simp] theorem ChildState_stm_starts (l : List ChildState) (x : Int) : setElem (l.map ChildState.av) k 1 (I x) = l[k]?.map fun s => (l.set k { s with starts := x }).map ChildState.av := by
  cases h : l[k]? with
  | none => simp [setElem, h]
  | some s => simp only [setElem, List.getElem?_map, h, Option.map_some, List.map_set]; rfl
@[simp] theorem ChildState_st_all (x : ChildState) : setElem [s.av] 0 0 x.av = some [x.av] := rfl
@[simp] theorem ChildState_st_new (x : ChildState) : setElem [.agg [.int .i64 0, .int .i64 0]] 0 0 x.av = some [x.av] := rfl
@[simp] theorem ChildState_stm_all (l : List ChildState) (x : ChildState) : setElem (l.map ChildState.av) k 0 x.av = l[k]?.map fun _ => (l.set k x).map ChildState.av := by
  cases h : l[k]? with
  | none => simp [setElem, h]
  | some s => simp only [setElem, List.getElem?_map, h, Option.map_some, List.map_set]; rfl
theorem ChildState_ext : s = t ↔ s.status = t.status ∧ s.starts = t.starts := by
  cases s; cases t; simp only [ChildState.mk.injEq]
@[simp] theorem ChildState_eqs (n : Bool) : eqsV n [0, 0] s.av t.av = .bool (if n then !decide (s = t) else decide (s = t)) := by
  have h : (decide (s.status = t.status) && (decide (s.starts = t.starts) && true)) = decide (s = t) := by
    rw [Bool.eq_iff_iff]; simp [ChildState_ext]
  simp only [ChildState.av, eqsV, eqCells, eqCell, if_true, h]
def childStateSh : List Sh := [.int .i64, .int .i64]
def ChildState.wf (s : ChildState) : Prop := (Lit.int .i64 s.status).wf = true ∧ (Lit.int .i64 s.starts).wf = true ∧ True
theorem ChildState_of {e : AV} (hr : RowOk true 2 e) (hv : ∀ (j : Nat) (c : AV) (s : Sh), (AV.cells e)[j]? = some c → childStateSh[j]? = some s → ShOk s c) : ∃ s : ChildState, e = s.av ∧ s.wf := by
  obtain ⟨cs, rfl, hl⟩ := hr.1 rfl
  match cs, hl with
  | [a0, a1], _ =>
    obtain ⟨n0, rfl, w0⟩ := sh_int (hv 0 _ _ rfl rfl)
    obtain ⟨n1, rfl, w1⟩ := sh_int (hv 1 _ _ rfl rfl)
    exact ⟨⟨n0, n1⟩, rfl, w0, w1, trivial⟩
theorem ChildState_arg {a : AV} (h : PShOk (true, childStateSh) a) : ∃ s : ChildState, a = s.av ∧ s.wf := by
  obtain ⟨cs, rfl, h1, h2⟩ := h.1 rfl
  exact ChildState_of ⟨fun _ => ⟨_, rfl, h1⟩, fun h => by cases h⟩ (fun j c s hc hs => h2 j c s hc hs)
end

structure Spec where
  strategy : Int
  intensity : Int
  window : Int
  children : (Sl Child)
  deriving DecidableEq, Inhabited
def Spec.av (s : Spec) : AV := .agg [I s.strategy, I s.intensity, I s.window, Sl.av Child.av 3 s.children]
section
variable {s t : Spec} {H : Heap} {es : List AV} {k : Nat}
@[simp] theorem Spec_okO : okO s.av = some s.av := rfl
@[simp] theorem Spec_ok : s.av.ok = true := rfl
@[simp] theorem Spec_flat : s.av.flat = true := rfl
@[simp] theorem Spec_len : s.av.cells.length = 4 := rfl
@[simp] theorem Spec_cell : s.av.cells.all AV.cell = true := rfl
@[simp] theorem Spec_still : s.av.cells.all AV.still = true := rfl
@[simp] theorem Spec_still2 : (∀ x, x ∈ s.av.cells → AV.still x = true) ↔ True := by simp only [iff_true]; exact List.all_eq_true.1 Spec_still
@[simp] theorem Spec_cell2 : (∀ x, x ∈ s.av.cells → AV.cell x = true) ↔ True := by simp only [iff_true]; exact List.all_eq_true.1 Spec_cell
@[simp] theorem Spec_frz (n : Nat) : frz H (n + 2) s.av = some s.av := rfl
@[simp] theorem Spec_frz0 (n : Nat) : frzs (frz H (n + 1)) s.av.cells = some s.av.cells := rfl
@[simp] theorem Spec_whole : ldCells true 4 s.av.cells = s.av := rfl
@[simp] theorem Spec_fold : AV.agg s.av.cells = s.av := rfl
theorem Spec_mk (strategy : Int) (intensity : Int) (window : Int) (children : (Sl Child)) : (.agg [I strategy, I intensity, I window, Sl.av Child.av 3 children] : AV) = (Spec.mk strategy intensity window children).av := rfl
@[simp] theorem Spec_ld_strategy : ldCells false 1 s.av.cells = I s.strategy := rfl
@[simp] theorem Spec_fv_strategy : fldvV false 1 0 s.av = I s.strategy := rfl
@[simp] theorem Spec_st_strategy (x : Int) : setElem [s.av] 0 0 (I x) = some [({ s with strategy := x } : Spec).av] := rfl
@[simp] theorem Spec_stm_strategy (l : List Spec) (x : Int) : setElem (l.map Spec.av) k 0 (I x) = l[k]?.map fun s => (l.set k { s with strategy := x }).map Spec.av := by
  cases h : l[k]? with
  | none => simp [setElem, h]
  | some s => simp only [setElem, List.getElem?_map, h, Option.map_some, List.map_set]; rfl
@[simp] theorem Spec_ld_intensity : ldCells false 1 s.av.cells.tail = I s.intensity := rfl
@[simp] theorem Spec_fv_intensity : fldvV false 1 1 s.av = I s.intensity := rfl
@[simp] theorem Spec_st_intensity (x : Int) : setElem [s.av] 0 1 (I x) = some [({ s with intensity := x } : Spec).av] := rfl
@[simp] theorem Spec_stm_intensity (l : List Spec) (x : Int) : setElem (l.map Spec.av) k 1 (I x) = l[k]?.map fun s => (l.set k { s with intensity := x }).map Spec.av := by
  cases h : l[k]? with
  | none => simp [setElem, h]
  | some s => simp only [setElem, List.getElem?_map, h, Option.map_some, List.map_set]; rfl
@[simp] theorem Spec_ld_window : ldCells false 1 (s.av.cells.drop 2) = I s.window := rfl
@[simp] theorem Spec_fv_window : fldvV false 1 2 s.av = I s.window := rfl
@[simp] theorem Spec_st_window (x : Int) : setElem [s.av] 0 2 (I x) = some [({ s with window := x } : Spec).av] := rfl
@[simp] theorem Spec_stm_window (l : List Spec) (x : Int) : setElem (l.map Spec.av) k 2 (I x) = l[k]?.map fun s => (l.set k { s with window := x }).map Spec.av := by
  cases h : l[k]? with
  | none => simp [setElem, h]
  | some s => simp only [setElem, List.getElem?_map, h, Option.map_some, List.map_set]; rfl
@[simp] theorem Spec_ld_children : ldCells false 1 (s.av.cells.drop 3) = Sl.av Child.av 3 s.children := rfl
@[simp] theorem Spec_fv_children : fldvV false 1 3 s.av = Sl.av Child.av 3 s.children := rfl
@[simp] theorem Spec_st_children (x : (Sl Child)) : setElem [s.av] 0 3 (Sl.av Child.av 3 x) = some [({ s with children := x } : Spec).av] := rfl
@[simp] theorem Spec_stm_children (l : List Spec) (x : (Sl Child)) : setElem (l.map Spec.av) k 3 (Sl.av Child.av 3 x) = l[k]?.map fun s => (l.set k { s with children := x }).map Spec.av := by
  cases h : l[k]? with
  | none => simp [setElem, h]
  | some s => simp only [setElem, List.getElem?_map, h, Option.map_some, List.map_set]; rfl
@[simp] theorem Spec_st_all (x : Spec) : setElem [s.av] 0 0 x.av = some [x.av] := rfl
@[simp] theorem Spec_st_new (x : Spec) : setElem [.agg [.int .i64 0, .int .i64 0, .int .i64 0, .isl (some true) 0 []]] 0 0 x.av = some [x.av] := rfl
@[simp] theorem Spec_stm_all (l : List Spec) (x : Spec) : setElem (l.map Spec.av) k 0 x.av = l[k]?.map fun _ => (l.set k x).map Spec.av := by
  cases h : l[k]? with
  | none => simp [setElem, h]
  | some s => simp only [setElem, List.getElem?_map, h, Option.map_some, List.map_set]; rfl
def specSh : List Sh := [.int .i64, .int .i64, .int .i64, .sl true childSh]
def Spec.wf (s : Spec) : Prop := (Lit.int .i64 s.strategy).wf = true ∧ (Lit.int .i64 s.intensity).wf = true ∧ (Lit.int .i64 s.window).wf = true ∧ SlOk Child.wf s.children ∧ True
theorem Spec_of {e : AV} (hr : RowOk true 4 e) (hv : ∀ (j : Nat) (c : AV) (s : Sh), (AV.cells e)[j]? = some c → specSh[j]? = some s → ShOk s c) : ∃ s : Spec, e = s.av ∧ s.wf := by
  obtain ⟨cs, rfl, hl⟩ := hr.1 rfl
  match cs, hl with
  | [a0, a1, a2, a3], _ =>
    obtain ⟨n0, rfl, w0⟩ := sh_int (hv 0 _ _ rfl rfl)
    obtain ⟨n1, rfl, w1⟩ := sh_int (hv 1 _ _ rfl rfl)
    obtain ⟨n2, rfl, w2⟩ := sh_int (hv 2 _ _ rfl rfl)
    obtain ⟨n3, h3, w3⟩ := sl_of (f := Child.av) (fun e => Child_of) (hv 3 _ _ rfl rfl)
    subst h3
    exact ⟨⟨n0, n1, n2, n3⟩, rfl, w0, w1, w2, w3, trivial⟩
theorem Spec_arg {a : AV} (h : PShOk (true, specSh) a) : ∃ s : Spec, a = s.av ∧ s.wf := by
  obtain ⟨cs, rfl, h1, h2⟩ := h.1 rfl
  exact Spec_of ⟨fun _ => ⟨_, rfl, h1⟩, fun h => by cases h⟩ (fun j c s hc hs => h2 j c s hc hs)
end

structure State where
  status : Int
  children : (Sl ChildState)
  restarts : (Sl Int)
  failed : Bool
  deriving DecidableEq, Inhabited
def State.av (s : State) : AV := .agg [I s.status, Sl.av ChildState.av 2 s.children, Sl.av I 1 s.restarts, .bool s.failed]
section
variable {s t : State} {H : Heap} {es : List AV} {k : Nat}
@[simp] theorem State_okO : okO s.av = some s.av := rfl
@[simp] theorem State_ok : s.av.ok = true := rfl
@[simp] theorem State_flat : s.av.flat = true := rfl
@[simp] theorem State_len : s.av.cells.length = 4 := rfl
@[simp] theorem State_cell : s.av.cells.all AV.cell = true := rfl
@[simp] theorem State_still : s.av.cells.all AV.still = true := rfl
@[simp] theorem State_still2 : (∀ x, x ∈ s.av.cells → AV.still x = true) ↔ True := by simp only [iff_true]; exact List.all_eq_true.1 State_still
@[simp] theorem State_cell2 : (∀ x, x ∈ s.av.cells → AV.cell x = true) ↔ True := by simp only [iff_true]; exact List.all_eq_true.1 State_cell
@[simp] theorem State_frz (n : Nat) : frz H (n + 2) s.av = some s.av := rfl
@[simp] theorem State_frz0 (n : Nat) : frzs (frz H (n + 1)) s.av.cells = some s.av.cells := rfl
@[simp] theorem State_whole : ldCells true 4 s.av.cells = s.av := rfl
@[simp] theorem State_fold : AV.agg s.av.cells = s.av := rfl
theorem State_mk (status : Int) (children : (Sl ChildState)) (restarts : (Sl Int)) (failed : Bool) : (.agg [I status, Sl.av ChildState.av 2 children, Sl.av I 1 restarts, .bool failed] : AV) = (State.mk status children restarts failed).av := rfl
@[simp] theorem State_ld_status : ldCells false 1 s.av.cells = I s.status := rfl
@[simp] theorem State_fv_status : fldvV false 1 0 s.av = I s.status := rfl
@[simp] theorem State_st_status (x : Int) : setElem [s.av] 0 0 (I x) = some [({ s with status := x } : State).av] := rfl
@[simp] theorem State_stm_status (l : List State) (x : Int) : setElem (l.map State.av) k 0 (I x) = l[k]?.map fun s => (l.set k { s with status := x }).map State.av := by
  cases h : l[k]? with
  | none => simp [setElem, h]
  | some s => simp only [setElem, List.getElem?_map, h, Option.map_some, List.map_set]; rfl
@[simp] theorem State_ld_children : ldCells false 1 s.av.cells.tail = Sl.av ChildState.av 2 s.children := rfl
@[simp] theorem State_fv_children : fldvV false 1 1 s.av = Sl.av ChildState.av 2 s.children := rfl
@[simp] theorem State_st_children (x : (Sl ChildState)) : setElem [s.av] 0 1 (Sl.av ChildState.av 2 x) = some [({ s with children := x } : State).av] := rfl
@[simp] theorem State_stm_children (l : List State) (x : (Sl ChildState)) : setElem (l.map State.av) k 1 (Sl.av ChildState.av 2 x) = l[k]?.map fun s => (l.set k { s with children := x }).map State.av := by
  cases h : l[k]? with
  | none => simp [setElem, h]
  | some s => simp only [setElem, List.getElem?_map, h, Option.map_some, List.map_set]; rfl
@[simp] theorem State_ld_restarts : ldCells false 1 (s.av.cells.drop 2) = Sl.av I 1 s.restarts := rfl
@[simp] theorem State_fv_restarts : fldvV false 1 2 s.av = Sl.av I 1 s.restarts := rfl
@[simp] theorem State_st_restarts (x : (Sl Int)) : setElem [s.av] 0 2 (Sl.av I 1 x) = some [({ s with restarts := x } : State).av] := rfl
@[simp] theorem State_stm_restarts (l : List State) (x : (Sl Int)) : setElem (l.map State.av) k 2 (Sl.av I 1 x) = l[k]?.map fun s => (l.set k { s with restarts := x }).map State.av := by
  cases h : l[k]? with
  | none => simp [setElem, h]
  | some s => simp only [setElem, List.getElem?_map, h, Option.map_some, List.map_set]; rfl
@[simp] theorem State_ld_failed : ldCells false 1 (s.av.cells.drop 3) = .bool s.failed := rfl
@[simp] theorem State_fv_failed : fldvV false 1 3 s.av = .bool s.failed := rfl
@[simp] theorem State_st_failed (x : Bool) : setElem [s.av] 0 3 (.bool x) = some [({ s with failed := x } : State).av] := rfl
@[simp] theorem State_stm_failed (l : List State) (x : Bool) : setElem (l.map State.av) k 3 (.bool x) = l[k]?.map fun s => (l.set k { s with failed := x }).map State.av := by
  cases h : l[k]? with
  | none => simp [setElem, h]
  | some s => simp only [setElem, List.getElem?_map, h, Option.map_some, List.map_set]; rfl
@[simp] theorem State_st_all (x : State) : setElem [s.av] 0 0 x.av = some [x.av] := rfl
@[simp] theorem State_st_new (x : State) : setElem [.agg [.int .i64 0, .isl (some true) 0 [], .isl (some true) 0 [], .bool false]] 0 0 x.av = some [x.av] := rfl
@[simp] theorem State_stm_all (l : List State) (x : State) : setElem (l.map State.av) k 0 x.av = l[k]?.map fun _ => (l.set k x).map State.av := by
  cases h : l[k]? with
  | none => simp [setElem, h]
  | some s => simp only [setElem, List.getElem?_map, h, Option.map_some, List.map_set]; rfl
def stateSh : List Sh := [.int .i64, .sl true childStateSh, .sl false [.int .i64], .bool]
def State.wf (s : State) : Prop := (Lit.int .i64 s.status).wf = true ∧ SlOk ChildState.wf s.children ∧ SlOk (fun n => (Lit.int .i64 n).wf = true) s.restarts ∧ True
theorem State_of {e : AV} (hr : RowOk true 4 e) (hv : ∀ (j : Nat) (c : AV) (s : Sh), (AV.cells e)[j]? = some c → stateSh[j]? = some s → ShOk s c) : ∃ s : State, e = s.av ∧ s.wf := by
  obtain ⟨cs, rfl, hl⟩ := hr.1 rfl
  match cs, hl with
  | [a0, a1, a2, a3], _ =>
    obtain ⟨n0, rfl, w0⟩ := sh_int (hv 0 _ _ rfl rfl)
    obtain ⟨n1, h1, w1⟩ := sl_of (f := ChildState.av) (fun e => ChildState_of) (hv 1 _ _ rfl rfl)
    subst h1
    obtain ⟨n2, h2, w2⟩ := sl_of (f := I) row_int (hv 2 _ _ rfl rfl)
    subst h2
    obtain ⟨n3, rfl⟩ := sh_bool (hv 3 _ _ rfl rfl)
    exact ⟨⟨n0, n1, n2, n3⟩, rfl, w0, w1, w2, trivial⟩
theorem State_arg {a : AV} (h : PShOk (true, stateSh) a) : ∃ s : State, a = s.av ∧ s.wf := by
  obtain ⟨cs, rfl, h1, h2⟩ := h.1 rfl
  exact State_of ⟨fun _ => ⟨_, rfl, h1⟩, fun h => by cases h⟩ (fun j c s hc hs => h2 j c s hc hs)
end

structure Event where
  kind : Int
  child : Int
  value : Int
  time : Int
  deriving DecidableEq, Inhabited
def Event.av (s : Event) : AV := .agg [I s.kind, I s.child, I s.value, I s.time]
section
variable {s t : Event} {H : Heap} {es : List AV} {k : Nat}
@[simp] theorem Event_okO : okO s.av = some s.av := rfl
@[simp] theorem Event_ok : s.av.ok = true := rfl
@[simp] theorem Event_flat : s.av.flat = true := rfl
@[simp] theorem Event_len : s.av.cells.length = 4 := rfl
@[simp] theorem Event_cell : s.av.cells.all AV.cell = true := rfl
@[simp] theorem Event_still : s.av.cells.all AV.still = true := rfl
@[simp] theorem Event_still2 : (∀ x, x ∈ s.av.cells → AV.still x = true) ↔ True := by simp only [iff_true]; exact List.all_eq_true.1 Event_still
@[simp] theorem Event_cell2 : (∀ x, x ∈ s.av.cells → AV.cell x = true) ↔ True := by simp only [iff_true]; exact List.all_eq_true.1 Event_cell
@[simp] theorem Event_frz (n : Nat) : frz H (n + 2) s.av = some s.av := rfl
@[simp] theorem Event_frz0 (n : Nat) : frzs (frz H (n + 1)) s.av.cells = some s.av.cells := rfl
@[simp] theorem Event_whole : ldCells true 4 s.av.cells = s.av := rfl
@[simp] theorem Event_fold : AV.agg s.av.cells = s.av := rfl
theorem Event_mk (kind : Int) (child : Int) (value : Int) (time : Int) : (.agg [I kind, I child, I value, I time] : AV) = (Event.mk kind child value time).av := rfl
@[simp] theorem Event_ld_kind : ldCells false 1 s.av.cells = I s.kind := rfl
@[simp] theorem Event_fv_kind : fldvV false 1 0 s.av = I s.kind := rfl
@[simp] theorem Event_st_kind (x : Int) : setElem [s.av] 0 0 (I x) = some [({ s with kind := x } : Event).av] := rfl
@[simp] theorem Event_stm_kind (l : List Event) (x : Int) : setElem (l.map Event.av) k 0 (I x) = l[k]?.map fun s => (l.set k { s with kind := x }).map Event.av := by
  cases h : l[k]? with
  | none => simp [setElem, h]
  | some s => simp only [setElem, List.getElem?_map, h, Option.map_some, List.map_set]; rfl
@[simp] theorem Event_ld_child : ldCells false 1 s.av.cells.tail = I s.child := rfl
@[simp] theorem Event_fv_child : fldvV false 1 1 s.av = I s.child := rfl
@[simp] theorem Event_st_child (x : Int) : setElem [s.av] 0 1 (I x) = some [({ s with child := x } : Event).av] := rfl
@[simp] theorem Event_stm_child (l : List Event) (x : Int) : setElem (l.map Event.av) k 1 (I x) = l[k]?.map fun s => (l.set k { s with child := x }).map Event.av := by
  cases h : l[k]? with
  | none => simp [setElem, h]
  | some s => simp only [setElem, List.getElem?_map, h, Option.map_some, List.map_set]; rfl
@[simp] theorem Event_ld_value : ldCells false 1 (s.av.cells.drop 2) = I s.value := rfl
@[simp] theorem Event_fv_value : fldvV false 1 2 s.av = I s.value := rfl
@[simp] theorem Event_st_value (x : Int) : setElem [s.av] 0 2 (I x) = some [({ s with value := x } : Event).av] := rfl
@[simp] theorem Event_stm_value (l : List Event) (x : Int) : setElem (l.map Event.av) k 2 (I x) = l[k]?.map fun s => (l.set k { s with value := x }).map Event.av := by
  cases h : l[k]? with
  | none => simp [setElem, h]
  | some s => simp only [setElem, List.getElem?_map, h, Option.map_some, List.map_set]; rfl
@[simp] theorem Event_ld_time : ldCells false 1 (s.av.cells.drop 3) = I s.time := rfl
@[simp] theorem Event_fv_time : fldvV false 1 3 s.av = I s.time := rfl
@[simp] theorem Event_st_time (x : Int) : setElem [s.av] 0 3 (I x) = some [({ s with time := x } : Event).av] := rfl
@[simp] theorem Event_stm_time (l : List Event) (x : Int) : setElem (l.map Event.av) k 3 (I x) = l[k]?.map fun s => (l.set k { s with time := x }).map Event.av := by
  cases h : l[k]? with
  | none => simp [setElem, h]
  | some s => simp only [setElem, List.getElem?_map, h, Option.map_some, List.map_set]; rfl
@[simp] theorem Event_st_all (x : Event) : setElem [s.av] 0 0 x.av = some [x.av] := rfl
@[simp] theorem Event_st_new (x : Event) : setElem [.agg [.int .i64 0, .int .i64 0, .int .i64 0, .int .i64 0]] 0 0 x.av = some [x.av] := rfl
@[simp] theorem Event_stm_all (l : List Event) (x : Event) : setElem (l.map Event.av) k 0 x.av = l[k]?.map fun _ => (l.set k x).map Event.av := by
  cases h : l[k]? with
  | none => simp [setElem, h]
  | some s => simp only [setElem, List.getElem?_map, h, Option.map_some, List.map_set]; rfl
theorem Event_ext : s = t ↔ s.kind = t.kind ∧ s.child = t.child ∧ s.value = t.value ∧ s.time = t.time := by
  cases s; cases t; simp only [Event.mk.injEq]
@[simp] theorem Event_eqs (n : Bool) : eqsV n [0, 0, 0, 0] s.av t.av = .bool (if n then !decide (s = t) else decide (s = t)) := by
  have h : (decide (s.kind = t.kind) && (decide (s.child = t.child) && (decide (s.value = t.value) && (decide (s.time = t.time) && true)))) = decide (s = t) := by
    rw [Bool.eq_iff_iff]; simp [Event_ext]
  simp only [Event.av, eqsV, eqCells, eqCell, if_true, h]
def eventSh : List Sh := [.int .i64, .int .i64, .int .i64, .int .i64]
def Event.wf (s : Event) : Prop := (Lit.int .i64 s.kind).wf = true ∧ (Lit.int .i64 s.child).wf = true ∧ (Lit.int .i64 s.value).wf = true ∧ (Lit.int .i64 s.time).wf = true ∧ True
theorem Event_of {e : AV} (hr : RowOk true 4 e) (hv : ∀ (j : Nat) (c : AV) (s : Sh), (AV.cells e)[j]? = some c → eventSh[j]? = some s → ShOk s c) : ∃ s : Event, e = s.av ∧ s.wf := by
  obtain ⟨cs, rfl, hl⟩ := hr.1 rfl
  match cs, hl with
  | [a0, a1, a2, a3], _ =>
    obtain ⟨n0, rfl, w0⟩ := sh_int (hv 0 _ _ rfl rfl)
    obtain ⟨n1, rfl, w1⟩ := sh_int (hv 1 _ _ rfl rfl)
    obtain ⟨n2, rfl, w2⟩ := sh_int (hv 2 _ _ rfl rfl)
    obtain ⟨n3, rfl, w3⟩ := sh_int (hv 3 _ _ rfl rfl)
    exact ⟨⟨n0, n1, n2, n3⟩, rfl, w0, w1, w2, w3, trivial⟩
theorem Event_arg {a : AV} (h : PShOk (true, eventSh) a) : ∃ s : Event, a = s.av ∧ s.wf := by
  obtain ⟨cs, rfl, h1, h2⟩ := h.1 rfl
  exact Event_of ⟨fun _ => ⟨_, rfl, h1⟩, fun h => by cases h⟩ (fun j c s hc hs => h2 j c s hc hs)
end

structure Happening where
  child : Int
  reason : Int
  after : Int
  stop : Bool
  deriving DecidableEq, Inhabited
def Happening.av (s : Happening) : AV := .agg [B8 s.child, B8 s.reason, B8 s.after, .bool s.stop]
section
variable {s t : Happening} {H : Heap} {es : List AV} {k : Nat}
@[simp] theorem Happening_okO : okO s.av = some s.av := rfl
@[simp] theorem Happening_ok : s.av.ok = true := rfl
@[simp] theorem Happening_flat : s.av.flat = true := rfl
@[simp] theorem Happening_len : s.av.cells.length = 4 := rfl
@[simp] theorem Happening_cell : s.av.cells.all AV.cell = true := rfl
@[simp] theorem Happening_still : s.av.cells.all AV.still = true := rfl
@[simp] theorem Happening_still2 : (∀ x, x ∈ s.av.cells → AV.still x = true) ↔ True := by simp only [iff_true]; exact List.all_eq_true.1 Happening_still
@[simp] theorem Happening_cell2 : (∀ x, x ∈ s.av.cells → AV.cell x = true) ↔ True := by simp only [iff_true]; exact List.all_eq_true.1 Happening_cell
@[simp] theorem Happening_frz (n : Nat) : frz H (n + 2) s.av = some s.av := rfl
@[simp] theorem Happening_frz0 (n : Nat) : frzs (frz H (n + 1)) s.av.cells = some s.av.cells := rfl
@[simp] theorem Happening_whole : ldCells true 4 s.av.cells = s.av := rfl
@[simp] theorem Happening_fold : AV.agg s.av.cells = s.av := rfl
theorem Happening_mk (child : Int) (reason : Int) (after : Int) (stop : Bool) : (.agg [B8 child, B8 reason, B8 after, .bool stop] : AV) = (Happening.mk child reason after stop).av := rfl
@[simp] theorem Happening_ld_child : ldCells false 1 s.av.cells = B8 s.child := rfl
@[simp] theorem Happening_fv_child : fldvV false 1 0 s.av = B8 s.child := rfl
@[simp] theorem Happening_st_child (x : Int) : setElem [s.av] 0 0 (B8 x) = some [({ s with child := x } : Happening).av] := rfl
@[simp] theorem Happening_stm_child (l : List Happening) (x : Int) : setElem (l.map Happening.av) k 0 (B8 x) = l[k]?.map fun s => (l.set k { s with child := x }).map Happening.av := by
  cases h : l[k]? with
  | none => simp [setElem, h]
  | some s => simp only [setElem, List.getElem?_map, h, Option.map_some, List.map_set]; rfl
@[simp] theorem Happening_ld_reason : ldCells false 1 s.av.cells.tail = B8 s.reason := rfl
@[simp] theorem Happening_fv_reason : fldvV false 1 1 s.av = B8 s.reason := rfl
@[simp] theorem Happening_st_reason (x : Int) : setElem [s.av] 0 1 (B8 x) = some [({ s with reason := x } : Happening).av] := rfl
@[simp] theorem Happening_stm_reason (l : List Happening) (x : Int) : setElem (l.map Happening.av) k 1 (B8 x) = l[k]?.map fun s => (l.set k { s with reason := x }).map Happening.av := by
  cases h : l[k]? with
  | none => simp [setElem, h]
  | some s => simp only [setElem, List.getElem?_map, h, Option.map_some, List.map_set]; rfl
@[simp] theorem Happening_ld_after : ldCells false 1 (s.av.cells.drop 2) = B8 s.after := rfl
@[simp] theorem Happening_fv_after : fldvV false 1 2 s.av = B8 s.after := rfl
@[simp] theorem Happening_st_after (x : Int) : setElem [s.av] 0 2 (B8 x) = some [({ s with after := x } : Happening).av] := rfl
@[simp] theorem Happening_stm_after (l : List Happening) (x : Int) : setElem (l.map Happening.av) k 2 (B8 x) = l[k]?.map fun s => (l.set k { s with after := x }).map Happening.av := by
  cases h : l[k]? with
  | none => simp [setElem, h]
  | some s => simp only [setElem, List.getElem?_map, h, Option.map_some, List.map_set]; rfl
@[simp] theorem Happening_ld_stop : ldCells false 1 (s.av.cells.drop 3) = .bool s.stop := rfl
@[simp] theorem Happening_fv_stop : fldvV false 1 3 s.av = .bool s.stop := rfl
@[simp] theorem Happening_st_stop (x : Bool) : setElem [s.av] 0 3 (.bool x) = some [({ s with stop := x } : Happening).av] := rfl
@[simp] theorem Happening_stm_stop (l : List Happening) (x : Bool) : setElem (l.map Happening.av) k 3 (.bool x) = l[k]?.map fun s => (l.set k { s with stop := x }).map Happening.av := by
  cases h : l[k]? with
  | none => simp [setElem, h]
  | some s => simp only [setElem, List.getElem?_map, h, Option.map_some, List.map_set]; rfl
@[simp] theorem Happening_st_all (x : Happening) : setElem [s.av] 0 0 x.av = some [x.av] := rfl
@[simp] theorem Happening_st_new (x : Happening) : setElem [.agg [.int .u8 0, .int .u8 0, .int .u8 0, .bool false]] 0 0 x.av = some [x.av] := rfl
@[simp] theorem Happening_stm_all (l : List Happening) (x : Happening) : setElem (l.map Happening.av) k 0 x.av = l[k]?.map fun _ => (l.set k x).map Happening.av := by
  cases h : l[k]? with
  | none => simp [setElem, h]
  | some s => simp only [setElem, List.getElem?_map, h, Option.map_some, List.map_set]; rfl
def happeningSh : List Sh := [.int .u8, .int .u8, .int .u8, .bool]
def Happening.wf (s : Happening) : Prop := (Lit.int .u8 s.child).wf = true ∧ (Lit.int .u8 s.reason).wf = true ∧ (Lit.int .u8 s.after).wf = true ∧ True
theorem Happening_of {e : AV} (hr : RowOk true 4 e) (hv : ∀ (j : Nat) (c : AV) (s : Sh), (AV.cells e)[j]? = some c → happeningSh[j]? = some s → ShOk s c) : ∃ s : Happening, e = s.av ∧ s.wf := by
  obtain ⟨cs, rfl, hl⟩ := hr.1 rfl
  match cs, hl with
  | [a0, a1, a2, a3], _ =>
    obtain ⟨n0, rfl, w0⟩ := sh_int (hv 0 _ _ rfl rfl)
    obtain ⟨n1, rfl, w1⟩ := sh_int (hv 1 _ _ rfl rfl)
    obtain ⟨n2, rfl, w2⟩ := sh_int (hv 2 _ _ rfl rfl)
    obtain ⟨n3, rfl⟩ := sh_bool (hv 3 _ _ rfl rfl)
    exact ⟨⟨n0, n1, n2, n3⟩, rfl, w0, w1, w2, trivial⟩
theorem Happening_arg {a : AV} (h : PShOk (true, happeningSh) a) : ∃ s : Happening, a = s.av ∧ s.wf := by
  obtain ⟨cs, rfl, h1, h2⟩ := h.1 rfl
  exact Happening_of ⟨fun _ => ⟨_, rfl, h1⟩, fun h => by cases h⟩ (fun j c s hc hs => h2 j c s hc hs)
end

structure Move where
  before : State
  after : State
  event : Event
  actions : (Sl Event)
  deriving DecidableEq, Inhabited
def Move.av (s : Move) : AV := .agg [I s.before.status, Sl.av ChildState.av 2 s.before.children, Sl.av I 1 s.before.restarts, .bool s.before.failed, I s.after.status, Sl.av ChildState.av 2 s.after.children, Sl.av I 1 s.after.restarts, .bool s.after.failed, I s.event.kind, I s.event.child, I s.event.value, I s.event.time, Sl.av Event.av 4 s.actions]
section
variable {s t : Move} {H : Heap} {es : List AV} {k : Nat}
@[simp] theorem Move_okO : okO s.av = some s.av := rfl
@[simp] theorem Move_ok : s.av.ok = true := rfl
@[simp] theorem Move_flat : s.av.flat = true := rfl
@[simp] theorem Move_len : s.av.cells.length = 13 := rfl
@[simp] theorem Move_cell : s.av.cells.all AV.cell = true := rfl
@[simp] theorem Move_still : s.av.cells.all AV.still = true := rfl
@[simp] theorem Move_still2 : (∀ x, x ∈ s.av.cells → AV.still x = true) ↔ True := by simp only [iff_true]; exact List.all_eq_true.1 Move_still
@[simp] theorem Move_cell2 : (∀ x, x ∈ s.av.cells → AV.cell x = true) ↔ True := by simp only [iff_true]; exact List.all_eq_true.1 Move_cell
@[simp] theorem Move_frz (n : Nat) : frz H (n + 2) s.av = some s.av := rfl
@[simp] theorem Move_frz0 (n : Nat) : frzs (frz H (n + 1)) s.av.cells = some s.av.cells := rfl
@[simp] theorem Move_whole : ldCells true 13 s.av.cells = s.av := rfl
@[simp] theorem Move_fold : AV.agg s.av.cells = s.av := rfl
theorem Move_mk (before : State) (after : State) (event : Event) (actions : (Sl Event)) : (.agg [I before.status, Sl.av ChildState.av 2 before.children, Sl.av I 1 before.restarts, .bool before.failed, I after.status, Sl.av ChildState.av 2 after.children, Sl.av I 1 after.restarts, .bool after.failed, I event.kind, I event.child, I event.value, I event.time, Sl.av Event.av 4 actions] : AV) = (Move.mk before after event actions).av := rfl
@[simp] theorem Move_ld_before : ldCells true 4 s.av.cells = s.before.av := rfl
@[simp] theorem Move_fv_before : fldvV true 4 0 s.av = s.before.av := rfl
@[simp] theorem Move_st_before (x : State) : setElem [s.av] 0 0 x.av = some [({ s with before := x } : Move).av] := rfl
@[simp] theorem Move_stm_before (l : List Move) (x : State) : setElem (l.map Move.av) k 0 x.av = l[k]?.map fun s => (l.set k { s with before := x }).map Move.av := by
  cases h : l[k]? with
  | none => simp [setElem, h]
  | some s => simp only [setElem, List.getElem?_map, h, Option.map_some, List.map_set]; rfl
@[simp] theorem Move_ld_before_status : ldCells false 1 s.av.cells = I s.before.status := rfl
@[simp] theorem Move_fv_before_status : fldvV false 1 0 s.av = I s.before.status := rfl
@[simp] theorem Move_st_before_status (x : Int) : setElem [s.av] 0 0 (I x) = some [({ s with before.status := x } : Move).av] := rfl
@[simp] theorem Move_stm_before_status (l : List Move) (x : Int) : setElem (l.map Move.av) k 0 (I x) = l[k]?.map fun s => (l.set k { s with before.status := x }).map Move.av := by
  cases h : l[k]? with
  | none => simp [setElem, h]
  | some s => simp only [setElem, List.getElem?_map, h, Option.map_some, List.map_set]; rfl
@[simp] theorem Move_ld_before_children : ldCells false 1 s.av.cells.tail = Sl.av ChildState.av 2 s.before.children := rfl
@[simp] theorem Move_fv_before_children : fldvV false 1 1 s.av = Sl.av ChildState.av 2 s.before.children := rfl
@[simp] theorem Move_st_before_children (x : (Sl ChildState)) : setElem [s.av] 0 1 (Sl.av ChildState.av 2 x) = some [({ s with before.children := x } : Move).av] := rfl
@[simp] theorem Move_stm_before_children (l : List Move) (x : (Sl ChildState)) : setElem (l.map Move.av) k 1 (Sl.av ChildState.av 2 x) = l[k]?.map fun s => (l.set k { s with before.children := x }).map Move.av := by
  cases h : l[k]? with
  | none => simp [setElem, h]
  | some s => simp only [setElem, List.getElem?_map, h, Option.map_some, List.map_set]; rfl
@[simp] theorem Move_ld_before_restarts : ldCells false 1 (s.av.cells.drop 2) = Sl.av I 1 s.before.restarts := rfl
@[simp] theorem Move_fv_before_restarts : fldvV false 1 2 s.av = Sl.av I 1 s.before.restarts := rfl
@[simp] theorem Move_st_before_restarts (x : (Sl Int)) : setElem [s.av] 0 2 (Sl.av I 1 x) = some [({ s with before.restarts := x } : Move).av] := rfl
@[simp] theorem Move_stm_before_restarts (l : List Move) (x : (Sl Int)) : setElem (l.map Move.av) k 2 (Sl.av I 1 x) = l[k]?.map fun s => (l.set k { s with before.restarts := x }).map Move.av := by
  cases h : l[k]? with
  | none => simp [setElem, h]
  | some s => simp only [setElem, List.getElem?_map, h, Option.map_some, List.map_set]; rfl
@[simp] theorem Move_ld_before_failed : ldCells false 1 (s.av.cells.drop 3) = .bool s.before.failed := rfl
@[simp] theorem Move_fv_before_failed : fldvV false 1 3 s.av = .bool s.before.failed := rfl
@[simp] theorem Move_st_before_failed (x : Bool) : setElem [s.av] 0 3 (.bool x) = some [({ s with before.failed := x } : Move).av] := rfl
@[simp] theorem Move_stm_before_failed (l : List Move) (x : Bool) : setElem (l.map Move.av) k 3 (.bool x) = l[k]?.map fun s => (l.set k { s with before.failed := x }).map Move.av := by
  cases h : l[k]? with
  | none => simp [setElem, h]
  | some s => simp only [setElem, List.getElem?_map, h, Option.map_some, List.map_set]; rfl
@[simp] theorem Move_ld_after : ldCells true 4 (s.av.cells.drop 4) = s.after.av := rfl
@[simp] theorem Move_fv_after : fldvV true 4 4 s.av = s.after.av := rfl
@[simp] theorem Move_st_after (x : State) : setElem [s.av] 0 4 x.av = some [({ s with after := x } : Move).av] := rfl
@[simp] theorem Move_stm_after (l : List Move) (x : State) : setElem (l.map Move.av) k 4 x.av = l[k]?.map fun s => (l.set k { s with after := x }).map Move.av := by
  cases h : l[k]? with
  | none => simp [setElem, h]
  | some s => simp only [setElem, List.getElem?_map, h, Option.map_some, List.map_set]; rfl
@[simp] theorem Move_ld_after_status : ldCells false 1 (s.av.cells.drop 4) = I s.after.status := rfl
@[simp] theorem Move_fv_after_status : fldvV false 1 4 s.av = I s.after.status := rfl
@[simp] theorem Move_st_after_status (x : Int) : setElem [s.av] 0 4 (I x) = some [({ s with after.status := x } : Move).av] := rfl
@[simp] theorem Move_stm_after_status (l : List Move) (x : Int) : setElem (l.map Move.av) k 4 (I x) = l[k]?.map fun s => (l.set k { s with after.status := x }).map Move.av := by
  cases h : l[k]? with
  | none => simp [setElem, h]
  | some s => simp only [setElem, List.getElem?_map, h, Option.map_some, List.map_set]; rfl
@[simp] theorem Move_ld_after_children : ldCells false 1 (s.av.cells.drop 5) = Sl.av ChildState.av 2 s.after.children := rfl
@[simp] theorem Move_fv_after_children : fldvV false 1 5 s.av = Sl.av ChildState.av 2 s.after.children := rfl
@[simp] theorem Move_st_after_children (x : (Sl ChildState)) : setElem [s.av] 0 5 (Sl.av ChildState.av 2 x) = some [({ s with after.children := x } : Move).av] := rfl
@[simp] theorem Move_stm_after_children (l : List Move) (x : (Sl ChildState)) : setElem (l.map Move.av) k 5 (Sl.av ChildState.av 2 x) = l[k]?.map fun s => (l.set k { s with after.children := x }).map Move.av := by
  cases h : l[k]? with
  | none => simp [setElem, h]
  | some s => simp only [setElem, List.getElem?_map, h, Option.map_some, List.map_set]; rfl
@[simp] theorem Move_ld_after_restarts : ldCells false 1 (s.av.cells.drop 6) = Sl.av I 1 s.after.restarts := rfl
@[simp] theorem Move_fv_after_restarts : fldvV false 1 6 s.av = Sl.av I 1 s.after.restarts := rfl
@[simp] theorem Move_st_after_restarts (x : (Sl Int)) : setElem [s.av] 0 6 (Sl.av I 1 x) = some [({ s with after.restarts := x } : Move).av] := rfl
@[simp] theorem Move_stm_after_restarts (l : List Move) (x : (Sl Int)) : setElem (l.map Move.av) k 6 (Sl.av I 1 x) = l[k]?.map fun s => (l.set k { s with after.restarts := x }).map Move.av := by
  cases h : l[k]? with
  | none => simp [setElem, h]
  | some s => simp only [setElem, List.getElem?_map, h, Option.map_some, List.map_set]; rfl
@[simp] theorem Move_ld_after_failed : ldCells false 1 (s.av.cells.drop 7) = .bool s.after.failed := rfl
@[simp] theorem Move_fv_after_failed : fldvV false 1 7 s.av = .bool s.after.failed := rfl
@[simp] theorem Move_st_after_failed (x : Bool) : setElem [s.av] 0 7 (.bool x) = some [({ s with after.failed := x } : Move).av] := rfl
@[simp] theorem Move_stm_after_failed (l : List Move) (x : Bool) : setElem (l.map Move.av) k 7 (.bool x) = l[k]?.map fun s => (l.set k { s with after.failed := x }).map Move.av := by
  cases h : l[k]? with
  | none => simp [setElem, h]
  | some s => simp only [setElem, List.getElem?_map, h, Option.map_some, List.map_set]; rfl
@[simp] theorem Move_ld_event : ldCells true 4 (s.av.cells.drop 8) = s.event.av := rfl
@[simp] theorem Move_fv_event : fldvV true 4 8 s.av = s.event.av := rfl
@[simp] theorem Move_st_event (x : Event) : setElem [s.av] 0 8 x.av = some [({ s with event := x } : Move).av] := rfl
@[simp] theorem Move_stm_event (l : List Move) (x : Event) : setElem (l.map Move.av) k 8 x.av = l[k]?.map fun s => (l.set k { s with event := x }).map Move.av := by
  cases h : l[k]? with
  | none => simp [setElem, h]
  | some s => simp only [setElem, List.getElem?_map, h, Option.map_some, List.map_set]; rfl
@[simp] theorem Move_ld_event_kind : ldCells false 1 (s.av.cells.drop 8) = I s.event.kind := rfl
@[simp] theorem Move_fv_event_kind : fldvV false 1 8 s.av = I s.event.kind := rfl
@[simp] theorem Move_st_event_kind (x : Int) : setElem [s.av] 0 8 (I x) = some [({ s with event.kind := x } : Move).av] := rfl
@[simp] theorem Move_stm_event_kind (l : List Move) (x : Int) : setElem (l.map Move.av) k 8 (I x) = l[k]?.map fun s => (l.set k { s with event.kind := x }).map Move.av := by
  cases h : l[k]? with
  | none => simp [setElem, h]
  | some s => simp only [setElem, List.getElem?_map, h, Option.map_some, List.map_set]; rfl
@[simp] theorem Move_ld_event_child : ldCells false 1 (s.av.cells.drop 9) = I s.event.child := rfl
@[simp] theorem Move_fv_event_child : fldvV false 1 9 s.av = I s.event.child := rfl
@[simp] theorem Move_st_event_child (x : Int) : setElem [s.av] 0 9 (I x) = some [({ s with event.child := x } : Move).av] := rfl
@[simp] theorem Move_stm_event_child (l : List Move) (x : Int) : setElem (l.map Move.av) k 9 (I x) = l[k]?.map fun s => (l.set k { s with event.child := x }).map Move.av := by
  cases h : l[k]? with
  | none => simp [setElem, h]
  | some s => simp only [setElem, List.getElem?_map, h, Option.map_some, List.map_set]; rfl
@[simp] theorem Move_ld_event_value : ldCells false 1 (s.av.cells.drop 10) = I s.event.value := rfl
@[simp] theorem Move_fv_event_value : fldvV false 1 10 s.av = I s.event.value := rfl
@[simp] theorem Move_st_event_value (x : Int) : setElem [s.av] 0 10 (I x) = some [({ s with event.value := x } : Move).av] := rfl
@[simp] theorem Move_stm_event_value (l : List Move) (x : Int) : setElem (l.map Move.av) k 10 (I x) = l[k]?.map fun s => (l.set k { s with event.value := x }).map Move.av := by
  cases h : l[k]? with
  | none => simp [setElem, h]
  | some s => simp only [setElem, List.getElem?_map, h, Option.map_some, List.map_set]; rfl
@[simp] theorem Move_ld_event_time : ldCells false 1 (s.av.cells.drop 11) = I s.event.time := rfl
@[simp] theorem Move_fv_event_time : fldvV false 1 11 s.av = I s.event.time := rfl
@[simp] theorem Move_st_event_time (x : Int) : setElem [s.av] 0 11 (I x) = some [({ s with event.time := x } : Move).av] := rfl
@[simp] theorem Move_stm_event_time (l : List Move) (x : Int) : setElem (l.map Move.av) k 11 (I x) = l[k]?.map fun s => (l.set k { s with event.time := x }).map Move.av := by
  cases h : l[k]? with
  | none => simp [setElem, h]
  | some s => simp only [setElem, List.getElem?_map, h, Option.map_some, List.map_set]; rfl
@[simp] theorem Move_ld_actions : ldCells false 1 (s.av.cells.drop 12) = Sl.av Event.av 4 s.actions := rfl
@[simp] theorem Move_fv_actions : fldvV false 1 12 s.av = Sl.av Event.av 4 s.actions := rfl
@[simp] theorem Move_st_actions (x : (Sl Event)) : setElem [s.av] 0 12 (Sl.av Event.av 4 x) = some [({ s with actions := x } : Move).av] := rfl
@[simp] theorem Move_stm_actions (l : List Move) (x : (Sl Event)) : setElem (l.map Move.av) k 12 (Sl.av Event.av 4 x) = l[k]?.map fun s => (l.set k { s with actions := x }).map Move.av := by
  cases h : l[k]? with
  | none => simp [setElem, h]
  | some s => simp only [setElem, List.getElem?_map, h, Option.map_some, List.map_set]; rfl
@[simp] theorem Move_st_all (x : Move) : setElem [s.av] 0 0 x.av = some [x.av] := rfl
@[simp] theorem Move_st_new (x : Move) : setElem [.agg [.int .i64 0, .isl (some true) 0 [], .isl (some true) 0 [], .bool false, .int .i64 0, .isl (some true) 0 [], .isl (some true) 0 [], .bool false, .int .i64 0, .int .i64 0, .int .i64 0, .int .i64 0, .isl (some true) 0 []]] 0 0 x.av = some [x.av] := rfl
@[simp] theorem Move_stm_all (l : List Move) (x : Move) : setElem (l.map Move.av) k 0 x.av = l[k]?.map fun _ => (l.set k x).map Move.av := by
  cases h : l[k]? with
  | none => simp [setElem, h]
  | some s => simp only [setElem, List.getElem?_map, h, Option.map_some, List.map_set]; rfl
def moveSh : List Sh := [.int .i64, .sl true childStateSh, .sl false [.int .i64], .bool, .int .i64, .sl true childStateSh, .sl false [.int .i64], .bool, .int .i64, .int .i64, .int .i64, .int .i64, .sl true eventSh]
def Move.wf (s : Move) : Prop := (Lit.int .i64 s.before.status).wf = true ∧ SlOk ChildState.wf s.before.children ∧ SlOk (fun n => (Lit.int .i64 n).wf = true) s.before.restarts ∧ (Lit.int .i64 s.after.status).wf = true ∧ SlOk ChildState.wf s.after.children ∧ SlOk (fun n => (Lit.int .i64 n).wf = true) s.after.restarts ∧ (Lit.int .i64 s.event.kind).wf = true ∧ (Lit.int .i64 s.event.child).wf = true ∧ (Lit.int .i64 s.event.value).wf = true ∧ (Lit.int .i64 s.event.time).wf = true ∧ SlOk Event.wf s.actions ∧ True
theorem Move_of {e : AV} (hr : RowOk true 13 e) (hv : ∀ (j : Nat) (c : AV) (s : Sh), (AV.cells e)[j]? = some c → moveSh[j]? = some s → ShOk s c) : ∃ s : Move, e = s.av ∧ s.wf := by
  obtain ⟨cs, rfl, hl⟩ := hr.1 rfl
  match cs, hl with
  | [a0, a1, a2, a3, a4, a5, a6, a7, a8, a9, a10, a11, a12], _ =>
    obtain ⟨n0, rfl, w0⟩ := sh_int (hv 0 _ _ rfl rfl)
    obtain ⟨n1, h1, w1⟩ := sl_of (f := ChildState.av) (fun e => ChildState_of) (hv 1 _ _ rfl rfl)
    subst h1
    obtain ⟨n2, h2, w2⟩ := sl_of (f := I) row_int (hv 2 _ _ rfl rfl)
    subst h2
    obtain ⟨n3, rfl⟩ := sh_bool (hv 3 _ _ rfl rfl)
    obtain ⟨n4, rfl, w4⟩ := sh_int (hv 4 _ _ rfl rfl)
    obtain ⟨n5, h5, w5⟩ := sl_of (f := ChildState.av) (fun e => ChildState_of) (hv 5 _ _ rfl rfl)
    subst h5
    obtain ⟨n6, h6, w6⟩ := sl_of (f := I) row_int (hv 6 _ _ rfl rfl)
    subst h6
    obtain ⟨n7, rfl⟩ := sh_bool (hv 7 _ _ rfl rfl)
    obtain ⟨n8, rfl, w8⟩ := sh_int (hv 8 _ _ rfl rfl)
    obtain ⟨n9, rfl, w9⟩ := sh_int (hv 9 _ _ rfl rfl)
    obtain ⟨n10, rfl, w10⟩ := sh_int (hv 10 _ _ rfl rfl)
    obtain ⟨n11, rfl, w11⟩ := sh_int (hv 11 _ _ rfl rfl)
    obtain ⟨n12, h12, w12⟩ := sl_of (f := Event.av) (fun e => Event_of) (hv 12 _ _ rfl rfl)
    subst h12
    exact ⟨⟨⟨n0, n1, n2, n3⟩, ⟨n4, n5, n6, n7⟩, ⟨n8, n9, n10, n11⟩, n12⟩, rfl, w0, w1, w2, w4, w5, w6, w8, w9, w10, w11, w12, trivial⟩
theorem Move_arg {a : AV} (h : PShOk (true, moveSh) a) : ∃ s : Move, a = s.av ∧ s.wf := by
  obtain ⟨cs, rfl, h1, h2⟩ := h.1 rfl
  exact Move_of ⟨fun _ => ⟨_, rfl, h1⟩, fun h => by cases h⟩ (fun j c s hc hs => h2 j c s hc hs)
end

end Go.Proofs.Ythenmgpbcmlhoaa
