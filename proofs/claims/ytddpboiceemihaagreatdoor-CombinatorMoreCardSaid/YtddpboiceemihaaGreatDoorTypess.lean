/-
  Plain structures for the program's, printed by a program of mine (conditions: none).
-/
import Derived.Test.YtddpboiceemihaaGreatDoorSls
namespace Go.Proofs.YtddpboiceemihaaGreatDoor
open Go Go.RowKit
set_option linter.unusedVariables false
set_option linter.unusedSimpArgs false
inductive Ex where
 | mk (kind : Int) (op : Int) (name : (List UInt8)) (value : Int) (argsN : Option Bool) (argsZ : Nat) (argsL : List Ex)
def Ex.kind : Ex → Int | .mk kind _ _ _ _ _ _ => kind
def Ex.op : Ex → Int | .mk _ op _ _ _ _ _ => op
def Ex.name : Ex → (List UInt8) | .mk _ _ name _ _ _ _ => name
def Ex.value : Ex → Int | .mk _ _ _ value _ _ _ => value
def Ex.args : Ex → (Sl Ex) | .mk _ _ _ _ argsN argsZ argsL => ⟨argsN, argsZ, argsL⟩
def Ex.of (kind : Int) (op : Int) (name : (List UInt8)) (value : Int) (args : (Sl Ex)) : Ex := .mk kind op name value args.nl args.z args.l
theorem Ex.eta (s : Ex) : s = Ex.of s.kind s.op s.name s.value s.args := by cases s; rfl
@[simp] theorem Ex.of_kind {kind : Int} {op : Int} {name : (List UInt8)} {value : Int} {args : (Sl Ex)} : (Ex.of kind op name value args).kind = kind := rfl
@[simp] theorem Ex.of_op {kind : Int} {op : Int} {name : (List UInt8)} {value : Int} {args : (Sl Ex)} : (Ex.of kind op name value args).op = op := rfl
@[simp] theorem Ex.of_name {kind : Int} {op : Int} {name : (List UInt8)} {value : Int} {args : (Sl Ex)} : (Ex.of kind op name value args).name = name := rfl
@[simp] theorem Ex.of_value {kind : Int} {op : Int} {name : (List UInt8)} {value : Int} {args : (Sl Ex)} : (Ex.of kind op name value args).value = value := rfl
@[simp] theorem Ex.of_args {kind : Int} {op : Int} {name : (List UInt8)} {value : Int} {args : (Sl Ex)} : (Ex.of kind op name value args).args = args := rfl
mutual
def Ex.av : Ex → AV | .mk kind op name value argsN argsZ argsL => .agg [I kind, I op, .str name, I value, .isl argsN (if argsL.isEmpty then argsZ else 5) (Ex.avs argsL)]
def Ex.avs : List Ex → List AV | [] => [] | x :: r => Ex.av x :: Ex.avs r
end
theorem Ex.avs_map (l : List Ex) : Ex.avs l = l.map Ex.av := by
 induction l with
 | nil => simp [Ex.avs]
 | cons x r ih => simp [Ex.avs, ih]
theorem Ex.av_eq (s : Ex) : s.av = .agg [I s.kind, I s.op, .str s.name, I s.value, Sl.av Ex.av 5 s.args] := by
 cases s; simp only [Ex.av, Ex.avs_map]; rfl
instance : Inhabited Ex := ⟨.mk default default default default (some true) 0 []⟩
theorem Ex.ind {P0 : Ex → Prop} (h0 : ∀ s : Ex, (∀ x ∈ s.args.l, P0 x) → P0 s) : (∀ s, P0 s) := by
 exact fun s => Ex.rec (motive_1 := P0) (motive_2 := fun l => ∀ x ∈ l, P0 x) (fun kind op name value argsN argsZ argsL argsI => h0 _ argsI) (fun _ h => nomatch h) (fun a r ha hr x hx => by cases hx with | head => exact ha | tail _ h => exact hr x h) s
section
variable {s t : Ex} {H : Heap} {es : List AV} {k : Nat}
@[simp] theorem Ex_okO : okO s.av = some s.av := by simp only [Ex.av_eq] <;> rfl
@[simp] theorem Ex_ok : s.av.ok = true := by simp only [Ex.av_eq] <;> rfl
@[simp] theorem Ex_flat : s.av.flat = true := by simp only [Ex.av_eq] <;> rfl
@[simp] theorem Ex_len : s.av.cells.length = 5 := by simp only [Ex.av_eq] <;> rfl
@[simp] theorem Ex_cell : s.av.cells.all AV.cell = true := by simp only [Ex.av_eq] <;> rfl
@[simp] theorem Ex_still : s.av.cells.all AV.still = true := by simp only [Ex.av_eq] <;> rfl
@[simp] theorem Ex_still2 : (∀ x, x ∈ s.av.cells → AV.still x = true) ↔ True := by simp only [iff_true]; exact List.all_eq_true.1 Ex_still
@[simp] theorem Ex_cell2 : (∀ x, x ∈ s.av.cells → AV.cell x = true) ↔ True := by simp only [iff_true]; exact List.all_eq_true.1 Ex_cell
@[simp] theorem Ex_frz (n : Nat) : frz H (n + 2) s.av = some s.av := by simp only [Ex.av_eq] <;> rfl
@[simp] theorem Ex_frz0 (n : Nat) : frzs (frz H (n + 1)) s.av.cells = some s.av.cells := by simp only [Ex.av_eq] <;> rfl
@[simp] theorem Ex_whole : ldCells true 5 s.av.cells = s.av := by simp only [Ex.av_eq] <;> rfl
@[simp] theorem Ex_fold : AV.agg s.av.cells = s.av := by simp only [Ex.av_eq] <;> rfl
theorem Ex_mk (kind : Int) (op : Int) (name : (List UInt8)) (value : Int) (args : (Sl Ex)) : (.agg [I kind, I op, .str name, I value, Sl.av Ex.av 5 args] : AV) = (Ex.of kind op name value args).av := by rw [Ex.av_eq]; rfl
@[simp] theorem Ex_ld_kind : ldCells false 1 s.av.cells = I s.kind := by simp only [Ex.av_eq] <;> rfl
@[simp] theorem Ex_fv_kind : fldvV false 1 0 s.av = I s.kind := by simp only [Ex.av_eq] <;> rfl
@[simp] theorem Ex_st_kind (x : Int) : setElem [s.av] 0 0 (I x) = some [((Ex.of x s.op s.name s.value s.args) : Ex).av] := by simp only [Ex.av_eq, setElem] <;> rfl
@[simp] theorem Ex_stm_kind (l : List Ex) (x : Int) : setElem (l.map Ex.av) k 0 (I x) = l[k]?.map fun s => (l.set k (Ex.of x s.op s.name s.value s.args)).map Ex.av := by
 cases h : l[k]? with
 | none => simp [setElem, h]
 | some s => simp only [setElem, List.getElem?_map, h, Option.map_some, List.map_set]; simp only [Ex.av_eq] <;> rfl
@[simp] theorem Ex_ld_op : ldCells false 1 s.av.cells.tail = I s.op := by simp only [Ex.av_eq] <;> rfl
@[simp] theorem Ex_fv_op : fldvV false 1 1 s.av = I s.op := by simp only [Ex.av_eq] <;> rfl
@[simp] theorem Ex_st_op (x : Int) : setElem [s.av] 0 1 (I x) = some [((Ex.of s.kind x s.name s.value s.args) : Ex).av] := by simp only [Ex.av_eq, setElem] <;> rfl
@[simp] theorem Ex_stm_op (l : List Ex) (x : Int) : setElem (l.map Ex.av) k 1 (I x) = l[k]?.map fun s => (l.set k (Ex.of s.kind x s.name s.value s.args)).map Ex.av := by
 cases h : l[k]? with
 | none => simp [setElem, h]
 | some s => simp only [setElem, List.getElem?_map, h, Option.map_some, List.map_set]; simp only [Ex.av_eq] <;> rfl
@[simp] theorem Ex_ld_name : ldCells false 1 (s.av.cells.drop 2) = .str s.name := by simp only [Ex.av_eq] <;> rfl
@[simp] theorem Ex_fv_name : fldvV false 1 2 s.av = .str s.name := by simp only [Ex.av_eq] <;> rfl
@[simp] theorem Ex_st_name (x : (List UInt8)) : setElem [s.av] 0 2 (.str x) = some [((Ex.of s.kind s.op x s.value s.args) : Ex).av] := by simp only [Ex.av_eq, setElem] <;> rfl
@[simp] theorem Ex_stm_name (l : List Ex) (x : (List UInt8)) : setElem (l.map Ex.av) k 2 (.str x) = l[k]?.map fun s => (l.set k (Ex.of s.kind s.op x s.value s.args)).map Ex.av := by
 cases h : l[k]? with
 | none => simp [setElem, h]
 | some s => simp only [setElem, List.getElem?_map, h, Option.map_some, List.map_set]; simp only [Ex.av_eq] <;> rfl
@[simp] theorem Ex_ld_value : ldCells false 1 (s.av.cells.drop 3) = I s.value := by simp only [Ex.av_eq] <;> rfl
@[simp] theorem Ex_fv_value : fldvV false 1 3 s.av = I s.value := by simp only [Ex.av_eq] <;> rfl
@[simp] theorem Ex_st_value (x : Int) : setElem [s.av] 0 3 (I x) = some [((Ex.of s.kind s.op s.name x s.args) : Ex).av] := by simp only [Ex.av_eq, setElem] <;> rfl
@[simp] theorem Ex_stm_value (l : List Ex) (x : Int) : setElem (l.map Ex.av) k 3 (I x) = l[k]?.map fun s => (l.set k (Ex.of s.kind s.op s.name x s.args)).map Ex.av := by
 cases h : l[k]? with
 | none => simp [setElem, h]
 | some s => simp only [setElem, List.getElem?_map, h, Option.map_some, List.map_set]; simp only [Ex.av_eq] <;> rfl
@[simp] theorem Ex_ld_args : ldCells false 1 (s.av.cells.drop 4) = Sl.av Ex.av 5 s.args := by simp only [Ex.av_eq] <;> rfl
@[simp] theorem Ex_fv_args : fldvV false 1 4 s.av = Sl.av Ex.av 5 s.args := by simp only [Ex.av_eq] <;> rfl
@[simp] theorem Ex_st_args (x : (Sl Ex)) : setElem [s.av] 0 4 (Sl.av Ex.av 5 x) = some [((Ex.of s.kind s.op s.name s.value x) : Ex).av] := by simp only [Ex.av_eq, setElem] <;> rfl
@[simp] theorem Ex_stm_args (l : List Ex) (x : (Sl Ex)) : setElem (l.map Ex.av) k 4 (Sl.av Ex.av 5 x) = l[k]?.map fun s => (l.set k (Ex.of s.kind s.op s.name s.value x)).map Ex.av := by
 cases h : l[k]? with
 | none => simp [setElem, h]
 | some s => simp only [setElem, List.getElem?_map, h, Option.map_some, List.map_set]; simp only [Ex.av_eq] <;> rfl
@[simp] theorem Ex_st_all (x : Ex) : setElem [s.av] 0 0 x.av = some [x.av] := by simp only [Ex.av_eq, setElem] <;> rfl
@[simp] theorem Ex_st_new (x : Ex) : setElem [.agg [.int .i64 0, .int .i64 0, .str [], .int .i64 0, .isl (some true) 0 []]] 0 0 x.av = some [x.av] := by simp only [Ex.av_eq, setElem] <;> rfl
@[simp] theorem Ex_stm_all (l : List Ex) (x : Ex) : setElem (l.map Ex.av) k 0 x.av = l[k]?.map fun _ => (l.set k x).map Ex.av := by
 cases h : l[k]? with
 | none => simp [setElem, h]
 | some s => simp only [setElem, List.getElem?_map, h, Option.map_some, List.map_set]; simp only [Ex.av_eq] <;> rfl
end
structure Dc where
 kind : Int
 name : (List UInt8)
 a : Int
 b : Int
 name2 : (List UInt8)
 deriving DecidableEq, Inhabited
def Dc.av (s : Dc) : AV := .agg [I s.kind, .str s.name, I s.a, I s.b, .str s.name2]
section
variable {s t : Dc} {H : Heap} {es : List AV} {k : Nat}
@[simp] theorem Dc_okO : okO s.av = some s.av := rfl
@[simp] theorem Dc_ok : s.av.ok = true := rfl
@[simp] theorem Dc_flat : s.av.flat = true := rfl
@[simp] theorem Dc_len : s.av.cells.length = 5 := rfl
@[simp] theorem Dc_cell : s.av.cells.all AV.cell = true := rfl
@[simp] theorem Dc_still : s.av.cells.all AV.still = true := rfl
@[simp] theorem Dc_still2 : (∀ x, x ∈ s.av.cells → AV.still x = true) ↔ True := by simp only [iff_true]; exact List.all_eq_true.1 Dc_still
@[simp] theorem Dc_cell2 : (∀ x, x ∈ s.av.cells → AV.cell x = true) ↔ True := by simp only [iff_true]; exact List.all_eq_true.1 Dc_cell
@[simp] theorem Dc_frz (n : Nat) : frz H (n + 2) s.av = some s.av := rfl
@[simp] theorem Dc_frz0 (n : Nat) : frzs (frz H (n + 1)) s.av.cells = some s.av.cells := rfl
@[simp] theorem Dc_whole : ldCells true 5 s.av.cells = s.av := rfl
@[simp] theorem Dc_fold : AV.agg s.av.cells = s.av := rfl
theorem Dc_mk (kind : Int) (name : (List UInt8)) (a : Int) (b : Int) (name2 : (List UInt8)) : (.agg [I kind, .str name, I a, I b, .str name2] : AV) = (Dc.mk kind name a b name2).av := rfl
@[simp] theorem Dc_ld_kind : ldCells false 1 s.av.cells = I s.kind := rfl
@[simp] theorem Dc_fv_kind : fldvV false 1 0 s.av = I s.kind := rfl
@[simp] theorem Dc_st_kind (x : Int) : setElem [s.av] 0 0 (I x) = some [({ s with kind := x } : Dc).av] := rfl
@[simp] theorem Dc_stm_kind (l : List Dc) (x : Int) : setElem (l.map Dc.av) k 0 (I x) = l[k]?.map fun s => (l.set k { s with kind := x }).map Dc.av := by
 cases h : l[k]? with
 | none => simp [setElem, h]
 | some s => simp only [setElem, List.getElem?_map, h, Option.map_some, List.map_set]; rfl
@[simp] theorem Dc_ld_name : ldCells false 1 s.av.cells.tail = .str s.name := rfl
@[simp] theorem Dc_fv_name : fldvV false 1 1 s.av = .str s.name := rfl
@[simp] theorem Dc_st_name (x : (List UInt8)) : setElem [s.av] 0 1 (.str x) = some [({ s with name := x } : Dc).av] := rfl
@[simp] theorem Dc_stm_name (l : List Dc) (x : (List UInt8)) : setElem (l.map Dc.av) k 1 (.str x) = l[k]?.map fun s => (l.set k { s with name := x }).map Dc.av := by
 cases h : l[k]? with
 | none => simp [setElem, h]
 | some s => simp only [setElem, List.getElem?_map, h, Option.map_some, List.map_set]; rfl
@[simp] theorem Dc_ld_a : ldCells false 1 (s.av.cells.drop 2) = I s.a := rfl
@[simp] theorem Dc_fv_a : fldvV false 1 2 s.av = I s.a := rfl
@[simp] theorem Dc_st_a (x : Int) : setElem [s.av] 0 2 (I x) = some [({ s with a := x } : Dc).av] := rfl
@[simp] theorem Dc_stm_a (l : List Dc) (x : Int) : setElem (l.map Dc.av) k 2 (I x) = l[k]?.map fun s => (l.set k { s with a := x }).map Dc.av := by
 cases h : l[k]? with
 | none => simp [setElem, h]
 | some s => simp only [setElem, List.getElem?_map, h, Option.map_some, List.map_set]; rfl
@[simp] theorem Dc_ld_b : ldCells false 1 (s.av.cells.drop 3) = I s.b := rfl
@[simp] theorem Dc_fv_b : fldvV false 1 3 s.av = I s.b := rfl
@[simp] theorem Dc_st_b (x : Int) : setElem [s.av] 0 3 (I x) = some [({ s with b := x } : Dc).av] := rfl
@[simp] theorem Dc_stm_b (l : List Dc) (x : Int) : setElem (l.map Dc.av) k 3 (I x) = l[k]?.map fun s => (l.set k { s with b := x }).map Dc.av := by
 cases h : l[k]? with
 | none => simp [setElem, h]
 | some s => simp only [setElem, List.getElem?_map, h, Option.map_some, List.map_set]; rfl
@[simp] theorem Dc_ld_name2 : ldCells false 1 (s.av.cells.drop 4) = .str s.name2 := rfl
@[simp] theorem Dc_fv_name2 : fldvV false 1 4 s.av = .str s.name2 := rfl
@[simp] theorem Dc_st_name2 (x : (List UInt8)) : setElem [s.av] 0 4 (.str x) = some [({ s with name2 := x } : Dc).av] := rfl
@[simp] theorem Dc_stm_name2 (l : List Dc) (x : (List UInt8)) : setElem (l.map Dc.av) k 4 (.str x) = l[k]?.map fun s => (l.set k { s with name2 := x }).map Dc.av := by
 cases h : l[k]? with
 | none => simp [setElem, h]
 | some s => simp only [setElem, List.getElem?_map, h, Option.map_some, List.map_set]; rfl
@[simp] theorem Dc_st_all (x : Dc) : setElem [s.av] 0 0 x.av = some [x.av] := rfl
@[simp] theorem Dc_st_new (x : Dc) : setElem [.agg [.int .i64 0, .str [], .int .i64 0, .int .i64 0, .str []]] 0 0 x.av = some [x.av] := rfl
@[simp] theorem Dc_stm_all (l : List Dc) (x : Dc) : setElem (l.map Dc.av) k 0 x.av = l[k]?.map fun _ => (l.set k x).map Dc.av := by
 cases h : l[k]? with
 | none => simp [setElem, h]
 | some s => simp only [setElem, List.getElem?_map, h, Option.map_some, List.map_set]; rfl
theorem Dc_ext : s = t ↔ s.kind = t.kind ∧ s.name = t.name ∧ s.a = t.a ∧ s.b = t.b ∧ s.name2 = t.name2 := by
 cases s; cases t; simp only [Dc.mk.injEq]
@[simp] theorem Dc_eqs (n : Bool) : eqsV n [0, 2, 0, 0, 2] s.av t.av = .bool (if n then !decide (s = t) else decide (s = t)) := by
 have h : (decide (s.kind = t.kind) && (decide (s.name = t.name) && (decide (s.a = t.a) && (decide (s.b = t.b) && (decide (s.name2 = t.name2) && true))))) = decide (s = t) := by
  rw [Bool.eq_iff_iff]; simp [Dc_ext]
 simp only [Dc.av, eqsV, eqCells, eqCell, if_true, h]
def Dc.wf (s : Dc) : Prop := (Lit.int .i64 s.kind).wf = true ∧ s.name.length ≤ maxLen ∧ (Lit.int .i64 s.a).wf = true ∧ (Lit.int .i64 s.b).wf = true ∧ s.name2.length ≤ maxLen ∧ True
end
mutual
inductive St where
 | mk (kind : Int) (op : Int) (name : (List UInt8)) (names : (Sl (List UInt8))) (exprs : (Sl Ex)) (bodyN : Option Bool) (bodyZ : Nat) (bodyL : List St) (elsN : Option Bool) (elsZ : Nat) (elsL : List St) (csN : Option Bool) (csZ : Nat) (csL : List Cs)
inductive Cs where
 | mk (kind : Int) (name : (List UInt8)) (expr : Ex) (names : (Sl (List UInt8))) (bodyN : Option Bool) (bodyZ : Nat) (bodyL : List St)
end
def St.kind : St → Int | .mk kind _ _ _ _ _ _ _ _ _ _ _ _ _ => kind
def St.op : St → Int | .mk _ op _ _ _ _ _ _ _ _ _ _ _ _ => op
def St.name : St → (List UInt8) | .mk _ _ name _ _ _ _ _ _ _ _ _ _ _ => name
def St.names : St → (Sl (List UInt8)) | .mk _ _ _ names _ _ _ _ _ _ _ _ _ _ => names
def St.exprs : St → (Sl Ex) | .mk _ _ _ _ exprs _ _ _ _ _ _ _ _ _ => exprs
def St.body : St → (Sl St) | .mk _ _ _ _ _ bodyN bodyZ bodyL _ _ _ _ _ _ => ⟨bodyN, bodyZ, bodyL⟩
def St.els : St → (Sl St) | .mk _ _ _ _ _ _ _ _ elsN elsZ elsL _ _ _ => ⟨elsN, elsZ, elsL⟩
def St.cs : St → (Sl Cs) | .mk _ _ _ _ _ _ _ _ _ _ _ csN csZ csL => ⟨csN, csZ, csL⟩
def St.of (kind : Int) (op : Int) (name : (List UInt8)) (names : (Sl (List UInt8))) (exprs : (Sl Ex)) (body : (Sl St)) (els : (Sl St)) (cs : (Sl Cs)) : St := .mk kind op name names exprs body.nl body.z body.l els.nl els.z els.l cs.nl cs.z cs.l
theorem St.eta (s : St) : s = St.of s.kind s.op s.name s.names s.exprs s.body s.els s.cs := by cases s; rfl
@[simp] theorem St.of_kind {kind : Int} {op : Int} {name : (List UInt8)} {names : (Sl (List UInt8))} {exprs : (Sl Ex)} {body : (Sl St)} {els : (Sl St)} {cs : (Sl Cs)} : (St.of kind op name names exprs body els cs).kind = kind := rfl
@[simp] theorem St.of_op {kind : Int} {op : Int} {name : (List UInt8)} {names : (Sl (List UInt8))} {exprs : (Sl Ex)} {body : (Sl St)} {els : (Sl St)} {cs : (Sl Cs)} : (St.of kind op name names exprs body els cs).op = op := rfl
@[simp] theorem St.of_name {kind : Int} {op : Int} {name : (List UInt8)} {names : (Sl (List UInt8))} {exprs : (Sl Ex)} {body : (Sl St)} {els : (Sl St)} {cs : (Sl Cs)} : (St.of kind op name names exprs body els cs).name = name := rfl
@[simp] theorem St.of_names {kind : Int} {op : Int} {name : (List UInt8)} {names : (Sl (List UInt8))} {exprs : (Sl Ex)} {body : (Sl St)} {els : (Sl St)} {cs : (Sl Cs)} : (St.of kind op name names exprs body els cs).names = names := rfl
@[simp] theorem St.of_exprs {kind : Int} {op : Int} {name : (List UInt8)} {names : (Sl (List UInt8))} {exprs : (Sl Ex)} {body : (Sl St)} {els : (Sl St)} {cs : (Sl Cs)} : (St.of kind op name names exprs body els cs).exprs = exprs := rfl
@[simp] theorem St.of_body {kind : Int} {op : Int} {name : (List UInt8)} {names : (Sl (List UInt8))} {exprs : (Sl Ex)} {body : (Sl St)} {els : (Sl St)} {cs : (Sl Cs)} : (St.of kind op name names exprs body els cs).body = body := rfl
@[simp] theorem St.of_els {kind : Int} {op : Int} {name : (List UInt8)} {names : (Sl (List UInt8))} {exprs : (Sl Ex)} {body : (Sl St)} {els : (Sl St)} {cs : (Sl Cs)} : (St.of kind op name names exprs body els cs).els = els := rfl
@[simp] theorem St.of_cs {kind : Int} {op : Int} {name : (List UInt8)} {names : (Sl (List UInt8))} {exprs : (Sl Ex)} {body : (Sl St)} {els : (Sl St)} {cs : (Sl Cs)} : (St.of kind op name names exprs body els cs).cs = cs := rfl
def Cs.kind : Cs → Int | .mk kind _ _ _ _ _ _ => kind
def Cs.name : Cs → (List UInt8) | .mk _ name _ _ _ _ _ => name
def Cs.expr : Cs → Ex | .mk _ _ expr _ _ _ _ => expr
def Cs.names : Cs → (Sl (List UInt8)) | .mk _ _ _ names _ _ _ => names
def Cs.body : Cs → (Sl St) | .mk _ _ _ _ bodyN bodyZ bodyL => ⟨bodyN, bodyZ, bodyL⟩
def Cs.of (kind : Int) (name : (List UInt8)) (expr : Ex) (names : (Sl (List UInt8))) (body : (Sl St)) : Cs := .mk kind name expr names body.nl body.z body.l
theorem Cs.eta (s : Cs) : s = Cs.of s.kind s.name s.expr s.names s.body := by cases s; rfl
@[simp] theorem Cs.of_kind {kind : Int} {name : (List UInt8)} {expr : Ex} {names : (Sl (List UInt8))} {body : (Sl St)} : (Cs.of kind name expr names body).kind = kind := rfl
@[simp] theorem Cs.of_name {kind : Int} {name : (List UInt8)} {expr : Ex} {names : (Sl (List UInt8))} {body : (Sl St)} : (Cs.of kind name expr names body).name = name := rfl
@[simp] theorem Cs.of_expr {kind : Int} {name : (List UInt8)} {expr : Ex} {names : (Sl (List UInt8))} {body : (Sl St)} : (Cs.of kind name expr names body).expr = expr := rfl
@[simp] theorem Cs.of_names {kind : Int} {name : (List UInt8)} {expr : Ex} {names : (Sl (List UInt8))} {body : (Sl St)} : (Cs.of kind name expr names body).names = names := rfl
@[simp] theorem Cs.of_body {kind : Int} {name : (List UInt8)} {expr : Ex} {names : (Sl (List UInt8))} {body : (Sl St)} : (Cs.of kind name expr names body).body = body := rfl
mutual
def St.av : St → AV | .mk kind op name names exprs bodyN bodyZ bodyL elsN elsZ elsL csN csZ csL => .agg [I kind, I op, .str name, Sl.av AV.str 1 names, Sl.av Ex.av 5 exprs, .isl bodyN (if bodyL.isEmpty then bodyZ else 8) (St.avs bodyL), .isl elsN (if elsL.isEmpty then elsZ else 8) (St.avs elsL), .isl csN (if csL.isEmpty then csZ else 9) (Cs.avs csL)]
def St.avs : List St → List AV | [] => [] | x :: r => St.av x :: St.avs r
def Cs.av : Cs → AV | .mk kind name expr names bodyN bodyZ bodyL => .agg [I kind, .str name, I expr.kind, I expr.op, .str expr.name, I expr.value, Sl.av Ex.av 5 expr.args, Sl.av AV.str 1 names, .isl bodyN (if bodyL.isEmpty then bodyZ else 8) (St.avs bodyL)]
def Cs.avs : List Cs → List AV | [] => [] | x :: r => Cs.av x :: Cs.avs r
end
theorem St.avs_map (l : List St) : St.avs l = l.map St.av := by
 induction l with
 | nil => simp [St.avs]
 | cons x r ih => simp [St.avs, ih]
theorem Cs.avs_map (l : List Cs) : Cs.avs l = l.map Cs.av := by
 induction l with
 | nil => simp [Cs.avs]
 | cons x r ih => simp [Cs.avs, ih]
theorem St.av_eq (s : St) : s.av = .agg [I s.kind, I s.op, .str s.name, Sl.av AV.str 1 s.names, Sl.av Ex.av 5 s.exprs, Sl.av St.av 8 s.body, Sl.av St.av 8 s.els, Sl.av Cs.av 9 s.cs] := by
 cases s; simp only [St.av, St.avs_map, Cs.avs_map]; rfl
instance : Inhabited St := ⟨.mk default default default default default (some true) 0 [] (some true) 0 [] (some true) 0 []⟩
theorem Cs.av_eq (s : Cs) : s.av = .agg [I s.kind, .str s.name, I s.expr.kind, I s.expr.op, .str s.expr.name, I s.expr.value, Sl.av Ex.av 5 s.expr.args, Sl.av AV.str 1 s.names, Sl.av St.av 8 s.body] := by
 cases s; simp only [Cs.av, St.avs_map, Cs.avs_map]; rfl
instance : Inhabited Cs := ⟨.mk default default default default (some true) 0 []⟩
theorem St.ind {P0 : St → Prop} {P1 : Cs → Prop} (h0 : ∀ s : St, (∀ x ∈ s.body.l, P0 x) → (∀ x ∈ s.els.l, P0 x) → (∀ x ∈ s.cs.l, P1 x) → P0 s) (h1 : ∀ s : Cs, (∀ x ∈ s.body.l, P0 x) → P1 s) : (∀ s, P0 s) ∧ (∀ s, P1 s) := by
 exact ⟨fun s => St.rec (motive_1 := P0) (motive_2 := P1) (motive_3 := fun l => ∀ x ∈ l, P0 x) (motive_4 := fun l => ∀ x ∈ l, P1 x) (fun kind op name names exprs bodyN bodyZ bodyL elsN elsZ elsL csN csZ csL bodyI elsI csI => h0 _ bodyI elsI csI) (fun kind name expr names bodyN bodyZ bodyL bodyI => h1 _ bodyI) (fun _ h => nomatch h) (fun a r ha hr x hx => by cases hx with | head => exact ha | tail _ h => exact hr x h) (fun _ h => nomatch h) (fun a r ha hr x hx => by cases hx with | head => exact ha | tail _ h => exact hr x h) s, fun s => Cs.rec (motive_1 := P0) (motive_2 := P1) (motive_3 := fun l => ∀ x ∈ l, P0 x) (motive_4 := fun l => ∀ x ∈ l, P1 x) (fun kind op name names exprs bodyN bodyZ bodyL elsN elsZ elsL csN csZ csL bodyI elsI csI => h0 _ bodyI elsI csI) (fun kind name expr names bodyN bodyZ bodyL bodyI => h1 _ bodyI) (fun _ h => nomatch h) (fun a r ha hr x hx => by cases hx with | head => exact ha | tail _ h => exact hr x h) (fun _ h => nomatch h) (fun a r ha hr x hx => by cases hx with | head => exact ha | tail _ h => exact hr x h) s⟩
section
variable {s t : St} {H : Heap} {es : List AV} {k : Nat}
@[simp] theorem St_okO : okO s.av = some s.av := by simp only [St.av_eq] <;> rfl
@[simp] theorem St_ok : s.av.ok = true := by simp only [St.av_eq] <;> rfl
@[simp] theorem St_flat : s.av.flat = true := by simp only [St.av_eq] <;> rfl
@[simp] theorem St_len : s.av.cells.length = 8 := by simp only [St.av_eq] <;> rfl
@[simp] theorem St_cell : s.av.cells.all AV.cell = true := by simp only [St.av_eq] <;> rfl
@[simp] theorem St_still : s.av.cells.all AV.still = true := by simp only [St.av_eq] <;> rfl
@[simp] theorem St_still2 : (∀ x, x ∈ s.av.cells → AV.still x = true) ↔ True := by simp only [iff_true]; exact List.all_eq_true.1 St_still
@[simp] theorem St_cell2 : (∀ x, x ∈ s.av.cells → AV.cell x = true) ↔ True := by simp only [iff_true]; exact List.all_eq_true.1 St_cell
@[simp] theorem St_frz (n : Nat) : frz H (n + 2) s.av = some s.av := by simp only [St.av_eq] <;> rfl
@[simp] theorem St_frz0 (n : Nat) : frzs (frz H (n + 1)) s.av.cells = some s.av.cells := by simp only [St.av_eq] <;> rfl
@[simp] theorem St_whole : ldCells true 8 s.av.cells = s.av := by simp only [St.av_eq] <;> rfl
@[simp] theorem St_fold : AV.agg s.av.cells = s.av := by simp only [St.av_eq] <;> rfl
@[simp] theorem St_ld_kind : ldCells false 1 s.av.cells = I s.kind := by simp only [St.av_eq] <;> rfl
@[simp] theorem St_fv_kind : fldvV false 1 0 s.av = I s.kind := by simp only [St.av_eq] <;> rfl
@[simp] theorem St_st_kind (x : Int) : setElem [s.av] 0 0 (I x) = some [((St.of x s.op s.name s.names s.exprs s.body s.els s.cs) : St).av] := by simp only [St.av_eq, setElem] <;> rfl
@[simp] theorem St_stm_kind (l : List St) (x : Int) : setElem (l.map St.av) k 0 (I x) = l[k]?.map fun s => (l.set k (St.of x s.op s.name s.names s.exprs s.body s.els s.cs)).map St.av := by
 cases h : l[k]? with
 | none => simp [setElem, h]
 | some s => simp only [setElem, List.getElem?_map, h, Option.map_some, List.map_set]; simp only [St.av_eq] <;> rfl
@[simp] theorem St_ld_op : ldCells false 1 s.av.cells.tail = I s.op := by simp only [St.av_eq] <;> rfl
@[simp] theorem St_fv_op : fldvV false 1 1 s.av = I s.op := by simp only [St.av_eq] <;> rfl
@[simp] theorem St_st_op (x : Int) : setElem [s.av] 0 1 (I x) = some [((St.of s.kind x s.name s.names s.exprs s.body s.els s.cs) : St).av] := by simp only [St.av_eq, setElem] <;> rfl
@[simp] theorem St_stm_op (l : List St) (x : Int) : setElem (l.map St.av) k 1 (I x) = l[k]?.map fun s => (l.set k (St.of s.kind x s.name s.names s.exprs s.body s.els s.cs)).map St.av := by
 cases h : l[k]? with
 | none => simp [setElem, h]
 | some s => simp only [setElem, List.getElem?_map, h, Option.map_some, List.map_set]; simp only [St.av_eq] <;> rfl
@[simp] theorem St_ld_name : ldCells false 1 (s.av.cells.drop 2) = .str s.name := by simp only [St.av_eq] <;> rfl
@[simp] theorem St_fv_name : fldvV false 1 2 s.av = .str s.name := by simp only [St.av_eq] <;> rfl
@[simp] theorem St_st_name (x : (List UInt8)) : setElem [s.av] 0 2 (.str x) = some [((St.of s.kind s.op x s.names s.exprs s.body s.els s.cs) : St).av] := by simp only [St.av_eq, setElem] <;> rfl
@[simp] theorem St_stm_name (l : List St) (x : (List UInt8)) : setElem (l.map St.av) k 2 (.str x) = l[k]?.map fun s => (l.set k (St.of s.kind s.op x s.names s.exprs s.body s.els s.cs)).map St.av := by
 cases h : l[k]? with
 | none => simp [setElem, h]
 | some s => simp only [setElem, List.getElem?_map, h, Option.map_some, List.map_set]; simp only [St.av_eq] <;> rfl
@[simp] theorem St_ld_names : ldCells false 1 (s.av.cells.drop 3) = Sl.av AV.str 1 s.names := by simp only [St.av_eq] <;> rfl
@[simp] theorem St_fv_names : fldvV false 1 3 s.av = Sl.av AV.str 1 s.names := by simp only [St.av_eq] <;> rfl
@[simp] theorem St_st_names (x : (Sl (List UInt8))) : setElem [s.av] 0 3 (Sl.av AV.str 1 x) = some [((St.of s.kind s.op s.name x s.exprs s.body s.els s.cs) : St).av] := by simp only [St.av_eq, setElem] <;> rfl
@[simp] theorem St_stm_names (l : List St) (x : (Sl (List UInt8))) : setElem (l.map St.av) k 3 (Sl.av AV.str 1 x) = l[k]?.map fun s => (l.set k (St.of s.kind s.op s.name x s.exprs s.body s.els s.cs)).map St.av := by
 cases h : l[k]? with
 | none => simp [setElem, h]
 | some s => simp only [setElem, List.getElem?_map, h, Option.map_some, List.map_set]; simp only [St.av_eq] <;> rfl
@[simp] theorem St_ld_exprs : ldCells false 1 (s.av.cells.drop 4) = Sl.av Ex.av 5 s.exprs := by simp only [St.av_eq] <;> rfl
@[simp] theorem St_fv_exprs : fldvV false 1 4 s.av = Sl.av Ex.av 5 s.exprs := by simp only [St.av_eq] <;> rfl
@[simp] theorem St_st_exprs (x : (Sl Ex)) : setElem [s.av] 0 4 (Sl.av Ex.av 5 x) = some [((St.of s.kind s.op s.name s.names x s.body s.els s.cs) : St).av] := by simp only [St.av_eq, setElem] <;> rfl
@[simp] theorem St_stm_exprs (l : List St) (x : (Sl Ex)) : setElem (l.map St.av) k 4 (Sl.av Ex.av 5 x) = l[k]?.map fun s => (l.set k (St.of s.kind s.op s.name s.names x s.body s.els s.cs)).map St.av := by
 cases h : l[k]? with
 | none => simp [setElem, h]
 | some s => simp only [setElem, List.getElem?_map, h, Option.map_some, List.map_set]; simp only [St.av_eq] <;> rfl
@[simp] theorem St_ld_body : ldCells false 1 (s.av.cells.drop 5) = Sl.av St.av 8 s.body := by simp only [St.av_eq] <;> rfl
@[simp] theorem St_fv_body : fldvV false 1 5 s.av = Sl.av St.av 8 s.body := by simp only [St.av_eq] <;> rfl
@[simp] theorem St_st_body (x : (Sl St)) : setElem [s.av] 0 5 (Sl.av St.av 8 x) = some [((St.of s.kind s.op s.name s.names s.exprs x s.els s.cs) : St).av] := by simp only [St.av_eq, setElem] <;> rfl
@[simp] theorem St_stm_body (l : List St) (x : (Sl St)) : setElem (l.map St.av) k 5 (Sl.av St.av 8 x) = l[k]?.map fun s => (l.set k (St.of s.kind s.op s.name s.names s.exprs x s.els s.cs)).map St.av := by
 cases h : l[k]? with
 | none => simp [setElem, h]
 | some s => simp only [setElem, List.getElem?_map, h, Option.map_some, List.map_set]; simp only [St.av_eq] <;> rfl
@[simp] theorem St_ld_els : ldCells false 1 (s.av.cells.drop 6) = Sl.av St.av 8 s.els := by simp only [St.av_eq] <;> rfl
@[simp] theorem St_fv_els : fldvV false 1 6 s.av = Sl.av St.av 8 s.els := by simp only [St.av_eq] <;> rfl
@[simp] theorem St_st_els (x : (Sl St)) : setElem [s.av] 0 6 (Sl.av St.av 8 x) = some [((St.of s.kind s.op s.name s.names s.exprs s.body x s.cs) : St).av] := by simp only [St.av_eq, setElem] <;> rfl
@[simp] theorem St_stm_els (l : List St) (x : (Sl St)) : setElem (l.map St.av) k 6 (Sl.av St.av 8 x) = l[k]?.map fun s => (l.set k (St.of s.kind s.op s.name s.names s.exprs s.body x s.cs)).map St.av := by
 cases h : l[k]? with
 | none => simp [setElem, h]
 | some s => simp only [setElem, List.getElem?_map, h, Option.map_some, List.map_set]; simp only [St.av_eq] <;> rfl
@[simp] theorem St_ld_cs : ldCells false 1 (s.av.cells.drop 7) = Sl.av Cs.av 9 s.cs := by simp only [St.av_eq] <;> rfl
@[simp] theorem St_fv_cs : fldvV false 1 7 s.av = Sl.av Cs.av 9 s.cs := by simp only [St.av_eq] <;> rfl
@[simp] theorem St_st_cs (x : (Sl Cs)) : setElem [s.av] 0 7 (Sl.av Cs.av 9 x) = some [((St.of s.kind s.op s.name s.names s.exprs s.body s.els x) : St).av] := by simp only [St.av_eq, setElem] <;> rfl
@[simp] theorem St_stm_cs (l : List St) (x : (Sl Cs)) : setElem (l.map St.av) k 7 (Sl.av Cs.av 9 x) = l[k]?.map fun s => (l.set k (St.of s.kind s.op s.name s.names s.exprs s.body s.els x)).map St.av := by
 cases h : l[k]? with
 | none => simp [setElem, h]
 | some s => simp only [setElem, List.getElem?_map, h, Option.map_some, List.map_set]; simp only [St.av_eq] <;> rfl
@[simp] theorem St_st_all (x : St) : setElem [s.av] 0 0 x.av = some [x.av] := by simp only [St.av_eq, setElem] <;> rfl
@[simp] theorem St_st_new (x : St) : setElem [.agg [.int .i64 0, .int .i64 0, .str [], .isl (some true) 0 [], .isl (some true) 0 [], .isl (some true) 0 [], .isl (some true) 0 [], .isl (some true) 0 []]] 0 0 x.av = some [x.av] := by simp only [St.av_eq, setElem] <;> rfl
@[simp] theorem St_stm_all (l : List St) (x : St) : setElem (l.map St.av) k 0 x.av = l[k]?.map fun _ => (l.set k x).map St.av := by
 cases h : l[k]? with
 | none => simp [setElem, h]
 | some s => simp only [setElem, List.getElem?_map, h, Option.map_some, List.map_set]; simp only [St.av_eq] <;> rfl
end
section
variable {s t : Cs} {H : Heap} {es : List AV} {k : Nat}
@[simp] theorem Cs_okO : okO s.av = some s.av := by simp only [Cs.av_eq, Ex.av_eq] <;> rfl
@[simp] theorem Cs_ok : s.av.ok = true := by simp only [Cs.av_eq, Ex.av_eq] <;> rfl
@[simp] theorem Cs_flat : s.av.flat = true := by simp only [Cs.av_eq, Ex.av_eq] <;> rfl
@[simp] theorem Cs_len : s.av.cells.length = 9 := by simp only [Cs.av_eq, Ex.av_eq] <;> rfl
@[simp] theorem Cs_cell : s.av.cells.all AV.cell = true := by simp only [Cs.av_eq, Ex.av_eq] <;> rfl
@[simp] theorem Cs_still : s.av.cells.all AV.still = true := by simp only [Cs.av_eq, Ex.av_eq] <;> rfl
@[simp] theorem Cs_still2 : (∀ x, x ∈ s.av.cells → AV.still x = true) ↔ True := by simp only [iff_true]; exact List.all_eq_true.1 Cs_still
@[simp] theorem Cs_cell2 : (∀ x, x ∈ s.av.cells → AV.cell x = true) ↔ True := by simp only [iff_true]; exact List.all_eq_true.1 Cs_cell
@[simp] theorem Cs_frz (n : Nat) : frz H (n + 2) s.av = some s.av := by simp only [Cs.av_eq, Ex.av_eq] <;> rfl
@[simp] theorem Cs_frz0 (n : Nat) : frzs (frz H (n + 1)) s.av.cells = some s.av.cells := by simp only [Cs.av_eq, Ex.av_eq] <;> rfl
@[simp] theorem Cs_whole : ldCells true 9 s.av.cells = s.av := by simp only [Cs.av_eq, Ex.av_eq] <;> rfl
@[simp] theorem Cs_fold : AV.agg s.av.cells = s.av := by simp only [Cs.av_eq, Ex.av_eq] <;> rfl
@[simp] theorem Cs_ld_kind : ldCells false 1 s.av.cells = I s.kind := by simp only [Cs.av_eq, Ex.av_eq] <;> rfl
@[simp] theorem Cs_fv_kind : fldvV false 1 0 s.av = I s.kind := by simp only [Cs.av_eq, Ex.av_eq] <;> rfl
@[simp] theorem Cs_st_kind (x : Int) : setElem [s.av] 0 0 (I x) = some [((Cs.of x s.name s.expr s.names s.body) : Cs).av] := by simp only [Cs.av_eq, Ex.av_eq, setElem] <;> rfl
@[simp] theorem Cs_stm_kind (l : List Cs) (x : Int) : setElem (l.map Cs.av) k 0 (I x) = l[k]?.map fun s => (l.set k (Cs.of x s.name s.expr s.names s.body)).map Cs.av := by
 cases h : l[k]? with
 | none => simp [setElem, h]
 | some s => simp only [setElem, List.getElem?_map, h, Option.map_some, List.map_set]; simp only [Cs.av_eq, Ex.av_eq] <;> rfl
@[simp] theorem Cs_ld_name : ldCells false 1 s.av.cells.tail = .str s.name := by simp only [Cs.av_eq, Ex.av_eq] <;> rfl
@[simp] theorem Cs_fv_name : fldvV false 1 1 s.av = .str s.name := by simp only [Cs.av_eq, Ex.av_eq] <;> rfl
@[simp] theorem Cs_st_name (x : (List UInt8)) : setElem [s.av] 0 1 (.str x) = some [((Cs.of s.kind x s.expr s.names s.body) : Cs).av] := by simp only [Cs.av_eq, Ex.av_eq, setElem] <;> rfl
@[simp] theorem Cs_stm_name (l : List Cs) (x : (List UInt8)) : setElem (l.map Cs.av) k 1 (.str x) = l[k]?.map fun s => (l.set k (Cs.of s.kind x s.expr s.names s.body)).map Cs.av := by
 cases h : l[k]? with
 | none => simp [setElem, h]
 | some s => simp only [setElem, List.getElem?_map, h, Option.map_some, List.map_set]; simp only [Cs.av_eq, Ex.av_eq] <;> rfl
@[simp] theorem Cs_ld_expr : ldCells true 5 (s.av.cells.drop 2) = s.expr.av := by simp only [Cs.av_eq, Ex.av_eq] <;> rfl
@[simp] theorem Cs_fv_expr : fldvV true 5 2 s.av = s.expr.av := by simp only [Cs.av_eq, Ex.av_eq] <;> rfl
@[simp] theorem Cs_st_expr (x : Ex) : setElem [s.av] 0 2 x.av = some [((Cs.of s.kind s.name x s.names s.body) : Cs).av] := by simp only [Cs.av_eq, Ex.av_eq, setElem] <;> rfl
@[simp] theorem Cs_stm_expr (l : List Cs) (x : Ex) : setElem (l.map Cs.av) k 2 x.av = l[k]?.map fun s => (l.set k (Cs.of s.kind s.name x s.names s.body)).map Cs.av := by
 cases h : l[k]? with
 | none => simp [setElem, h]
 | some s => simp only [setElem, List.getElem?_map, h, Option.map_some, List.map_set]; simp only [Cs.av_eq, Ex.av_eq] <;> rfl
@[simp] theorem Cs_ld_names : ldCells false 1 (s.av.cells.drop 7) = Sl.av AV.str 1 s.names := by simp only [Cs.av_eq, Ex.av_eq] <;> rfl
@[simp] theorem Cs_fv_names : fldvV false 1 7 s.av = Sl.av AV.str 1 s.names := by simp only [Cs.av_eq, Ex.av_eq] <;> rfl
@[simp] theorem Cs_st_names (x : (Sl (List UInt8))) : setElem [s.av] 0 7 (Sl.av AV.str 1 x) = some [((Cs.of s.kind s.name s.expr x s.body) : Cs).av] := by simp only [Cs.av_eq, Ex.av_eq, setElem] <;> rfl
@[simp] theorem Cs_stm_names (l : List Cs) (x : (Sl (List UInt8))) : setElem (l.map Cs.av) k 7 (Sl.av AV.str 1 x) = l[k]?.map fun s => (l.set k (Cs.of s.kind s.name s.expr x s.body)).map Cs.av := by
 cases h : l[k]? with
 | none => simp [setElem, h]
 | some s => simp only [setElem, List.getElem?_map, h, Option.map_some, List.map_set]; simp only [Cs.av_eq, Ex.av_eq] <;> rfl
@[simp] theorem Cs_ld_body : ldCells false 1 (s.av.cells.drop 8) = Sl.av St.av 8 s.body := by simp only [Cs.av_eq, Ex.av_eq] <;> rfl
@[simp] theorem Cs_fv_body : fldvV false 1 8 s.av = Sl.av St.av 8 s.body := by simp only [Cs.av_eq, Ex.av_eq] <;> rfl
@[simp] theorem Cs_st_body (x : (Sl St)) : setElem [s.av] 0 8 (Sl.av St.av 8 x) = some [((Cs.of s.kind s.name s.expr s.names x) : Cs).av] := by simp only [Cs.av_eq, Ex.av_eq, setElem] <;> rfl
@[simp] theorem Cs_stm_body (l : List Cs) (x : (Sl St)) : setElem (l.map Cs.av) k 8 (Sl.av St.av 8 x) = l[k]?.map fun s => (l.set k (Cs.of s.kind s.name s.expr s.names x)).map Cs.av := by
 cases h : l[k]? with
 | none => simp [setElem, h]
 | some s => simp only [setElem, List.getElem?_map, h, Option.map_some, List.map_set]; simp only [Cs.av_eq, Ex.av_eq] <;> rfl
@[simp] theorem Cs_st_all (x : Cs) : setElem [s.av] 0 0 x.av = some [x.av] := by simp only [Cs.av_eq, Ex.av_eq, setElem] <;> rfl
@[simp] theorem Cs_st_new (x : Cs) : setElem [.agg [.int .i64 0, .str [], .int .i64 0, .int .i64 0, .str [], .int .i64 0, .isl (some true) 0 [], .isl (some true) 0 [], .isl (some true) 0 []]] 0 0 x.av = some [x.av] := by simp only [Cs.av_eq, Ex.av_eq, setElem] <;> rfl
@[simp] theorem Cs_stm_all (l : List Cs) (x : Cs) : setElem (l.map Cs.av) k 0 x.av = l[k]?.map fun _ => (l.set k x).map Cs.av := by
 cases h : l[k]? with
 | none => simp [setElem, h]
 | some s => simp only [setElem, List.getElem?_map, h, Option.map_some, List.map_set]; simp only [Cs.av_eq, Ex.av_eq] <;> rfl
end
structure Pr where
 kind : Int
 name : (List UInt8)
 params : (Sl (List UInt8))
 priority : Int
 body : (Sl St)
 deriving Inhabited
def Pr.av (s : Pr) : AV := .agg [I s.kind, .str s.name, Sl.av AV.str 1 s.params, I s.priority, Sl.av St.av 8 s.body]
section
variable {s t : Pr} {H : Heap} {es : List AV} {k : Nat}
@[simp] theorem Pr_okO : okO s.av = some s.av := rfl
@[simp] theorem Pr_ok : s.av.ok = true := rfl
@[simp] theorem Pr_flat : s.av.flat = true := rfl
@[simp] theorem Pr_len : s.av.cells.length = 5 := rfl
@[simp] theorem Pr_cell : s.av.cells.all AV.cell = true := rfl
@[simp] theorem Pr_still : s.av.cells.all AV.still = true := rfl
@[simp] theorem Pr_still2 : (∀ x, x ∈ s.av.cells → AV.still x = true) ↔ True := by simp only [iff_true]; exact List.all_eq_true.1 Pr_still
@[simp] theorem Pr_cell2 : (∀ x, x ∈ s.av.cells → AV.cell x = true) ↔ True := by simp only [iff_true]; exact List.all_eq_true.1 Pr_cell
@[simp] theorem Pr_frz (n : Nat) : frz H (n + 2) s.av = some s.av := rfl
@[simp] theorem Pr_frz0 (n : Nat) : frzs (frz H (n + 1)) s.av.cells = some s.av.cells := rfl
@[simp] theorem Pr_whole : ldCells true 5 s.av.cells = s.av := rfl
@[simp] theorem Pr_fold : AV.agg s.av.cells = s.av := rfl
theorem Pr_mk (kind : Int) (name : (List UInt8)) (params : (Sl (List UInt8))) (priority : Int) (body : (Sl St)) : (.agg [I kind, .str name, Sl.av AV.str 1 params, I priority, Sl.av St.av 8 body] : AV) = (Pr.mk kind name params priority body).av := rfl
@[simp] theorem Pr_ld_kind : ldCells false 1 s.av.cells = I s.kind := rfl
@[simp] theorem Pr_fv_kind : fldvV false 1 0 s.av = I s.kind := rfl
@[simp] theorem Pr_st_kind (x : Int) : setElem [s.av] 0 0 (I x) = some [({ s with kind := x } : Pr).av] := rfl
@[simp] theorem Pr_stm_kind (l : List Pr) (x : Int) : setElem (l.map Pr.av) k 0 (I x) = l[k]?.map fun s => (l.set k { s with kind := x }).map Pr.av := by
 cases h : l[k]? with
 | none => simp [setElem, h]
 | some s => simp only [setElem, List.getElem?_map, h, Option.map_some, List.map_set]; rfl
@[simp] theorem Pr_ld_name : ldCells false 1 s.av.cells.tail = .str s.name := rfl
@[simp] theorem Pr_fv_name : fldvV false 1 1 s.av = .str s.name := rfl
@[simp] theorem Pr_st_name (x : (List UInt8)) : setElem [s.av] 0 1 (.str x) = some [({ s with name := x } : Pr).av] := rfl
@[simp] theorem Pr_stm_name (l : List Pr) (x : (List UInt8)) : setElem (l.map Pr.av) k 1 (.str x) = l[k]?.map fun s => (l.set k { s with name := x }).map Pr.av := by
 cases h : l[k]? with
 | none => simp [setElem, h]
 | some s => simp only [setElem, List.getElem?_map, h, Option.map_some, List.map_set]; rfl
@[simp] theorem Pr_ld_params : ldCells false 1 (s.av.cells.drop 2) = Sl.av AV.str 1 s.params := rfl
@[simp] theorem Pr_fv_params : fldvV false 1 2 s.av = Sl.av AV.str 1 s.params := rfl
@[simp] theorem Pr_st_params (x : (Sl (List UInt8))) : setElem [s.av] 0 2 (Sl.av AV.str 1 x) = some [({ s with params := x } : Pr).av] := rfl
@[simp] theorem Pr_stm_params (l : List Pr) (x : (Sl (List UInt8))) : setElem (l.map Pr.av) k 2 (Sl.av AV.str 1 x) = l[k]?.map fun s => (l.set k { s with params := x }).map Pr.av := by
 cases h : l[k]? with
 | none => simp [setElem, h]
 | some s => simp only [setElem, List.getElem?_map, h, Option.map_some, List.map_set]; rfl
@[simp] theorem Pr_ld_priority : ldCells false 1 (s.av.cells.drop 3) = I s.priority := rfl
@[simp] theorem Pr_fv_priority : fldvV false 1 3 s.av = I s.priority := rfl
@[simp] theorem Pr_st_priority (x : Int) : setElem [s.av] 0 3 (I x) = some [({ s with priority := x } : Pr).av] := rfl
@[simp] theorem Pr_stm_priority (l : List Pr) (x : Int) : setElem (l.map Pr.av) k 3 (I x) = l[k]?.map fun s => (l.set k { s with priority := x }).map Pr.av := by
 cases h : l[k]? with
 | none => simp [setElem, h]
 | some s => simp only [setElem, List.getElem?_map, h, Option.map_some, List.map_set]; rfl
@[simp] theorem Pr_ld_body : ldCells false 1 (s.av.cells.drop 4) = Sl.av St.av 8 s.body := rfl
@[simp] theorem Pr_fv_body : fldvV false 1 4 s.av = Sl.av St.av 8 s.body := rfl
@[simp] theorem Pr_st_body (x : (Sl St)) : setElem [s.av] 0 4 (Sl.av St.av 8 x) = some [({ s with body := x } : Pr).av] := rfl
@[simp] theorem Pr_stm_body (l : List Pr) (x : (Sl St)) : setElem (l.map Pr.av) k 4 (Sl.av St.av 8 x) = l[k]?.map fun s => (l.set k { s with body := x }).map Pr.av := by
 cases h : l[k]? with
 | none => simp [setElem, h]
 | some s => simp only [setElem, List.getElem?_map, h, Option.map_some, List.map_set]; rfl
@[simp] theorem Pr_st_all (x : Pr) : setElem [s.av] 0 0 x.av = some [x.av] := rfl
@[simp] theorem Pr_st_new (x : Pr) : setElem [.agg [.int .i64 0, .str [], .isl (some true) 0 [], .int .i64 0, .isl (some true) 0 []]] 0 0 x.av = some [x.av] := rfl
@[simp] theorem Pr_stm_all (l : List Pr) (x : Pr) : setElem (l.map Pr.av) k 0 x.av = l[k]?.map fun _ => (l.set k x).map Pr.av := by
 cases h : l[k]? with
 | none => simp [setElem, h]
 | some s => simp only [setElem, List.getElem?_map, h, Option.map_some, List.map_set]; rfl
end
structure So where
 decls : (Sl Dc)
 procs : (Sl Pr)
 deriving Inhabited
def So.av (s : So) : AV := .agg [Sl.av Dc.av 5 s.decls, Sl.av Pr.av 5 s.procs]
section
variable {s t : So} {H : Heap} {es : List AV} {k : Nat}
@[simp] theorem So_okO : okO s.av = some s.av := rfl
@[simp] theorem So_ok : s.av.ok = true := rfl
@[simp] theorem So_flat : s.av.flat = true := rfl
@[simp] theorem So_len : s.av.cells.length = 2 := rfl
@[simp] theorem So_cell : s.av.cells.all AV.cell = true := rfl
@[simp] theorem So_still : s.av.cells.all AV.still = true := rfl
@[simp] theorem So_still2 : (∀ x, x ∈ s.av.cells → AV.still x = true) ↔ True := by simp only [iff_true]; exact List.all_eq_true.1 So_still
@[simp] theorem So_cell2 : (∀ x, x ∈ s.av.cells → AV.cell x = true) ↔ True := by simp only [iff_true]; exact List.all_eq_true.1 So_cell
@[simp] theorem So_frz (n : Nat) : frz H (n + 2) s.av = some s.av := rfl
@[simp] theorem So_frz0 (n : Nat) : frzs (frz H (n + 1)) s.av.cells = some s.av.cells := rfl
@[simp] theorem So_whole : ldCells true 2 s.av.cells = s.av := rfl
@[simp] theorem So_fold : AV.agg s.av.cells = s.av := rfl
theorem So_mk (decls : (Sl Dc)) (procs : (Sl Pr)) : (.agg [Sl.av Dc.av 5 decls, Sl.av Pr.av 5 procs] : AV) = (So.mk decls procs).av := rfl
@[simp] theorem So_ld_decls : ldCells false 1 s.av.cells = Sl.av Dc.av 5 s.decls := rfl
@[simp] theorem So_fv_decls : fldvV false 1 0 s.av = Sl.av Dc.av 5 s.decls := rfl
@[simp] theorem So_st_decls (x : (Sl Dc)) : setElem [s.av] 0 0 (Sl.av Dc.av 5 x) = some [({ s with decls := x } : So).av] := rfl
@[simp] theorem So_stm_decls (l : List So) (x : (Sl Dc)) : setElem (l.map So.av) k 0 (Sl.av Dc.av 5 x) = l[k]?.map fun s => (l.set k { s with decls := x }).map So.av := by
 cases h : l[k]? with
 | none => simp [setElem, h]
 | some s => simp only [setElem, List.getElem?_map, h, Option.map_some, List.map_set]; rfl
@[simp] theorem So_ld_procs : ldCells false 1 s.av.cells.tail = Sl.av Pr.av 5 s.procs := rfl
@[simp] theorem So_fv_procs : fldvV false 1 1 s.av = Sl.av Pr.av 5 s.procs := rfl
@[simp] theorem So_st_procs (x : (Sl Pr)) : setElem [s.av] 0 1 (Sl.av Pr.av 5 x) = some [({ s with procs := x } : So).av] := rfl
@[simp] theorem So_stm_procs (l : List So) (x : (Sl Pr)) : setElem (l.map So.av) k 1 (Sl.av Pr.av 5 x) = l[k]?.map fun s => (l.set k { s with procs := x }).map So.av := by
 cases h : l[k]? with
 | none => simp [setElem, h]
 | some s => simp only [setElem, List.getElem?_map, h, Option.map_some, List.map_set]; rfl
@[simp] theorem So_st_all (x : So) : setElem [s.av] 0 0 x.av = some [x.av] := rfl
@[simp] theorem So_st_new (x : So) : setElem [.agg [.isl (some true) 0 [], .isl (some true) 0 []]] 0 0 x.av = some [x.av] := rfl
@[simp] theorem So_stm_all (l : List So) (x : So) : setElem (l.map So.av) k 0 x.av = l[k]?.map fun _ => (l.set k x).map So.av := by
 cases h : l[k]? with
 | none => simp [setElem, h]
 | some s => simp only [setElem, List.getElem?_map, h, Option.map_some, List.map_set]; rfl
end
end Go.Proofs.YtddpboiceemihaaGreatDoor
