/-
  Plain structures for the program's, printed by a program of mine (conditions: none).
-/
import Derived.Test.YtbddckhdbnmamaaGreatSls
namespace Go.Proofs.YtbddckhdbnmamaaGreat
open Go Go.RowKit
set_option linter.unusedVariables false
set_option linter.unusedSimpArgs false
theorem zqb (e:AV) (hr:zeo false 1 e) (hv:∀(j:Nat) (c:AV) (s:Sh),(AV.cells e)[j]?=some c→[Sh.sl false [.int .i64]][j]?=some s→ShOk s c):∃x:Sl Int,e=Sl.av I 1 x∧SlOk (fun n=>(Lit.int .i64 n).wf=true) x:=by
 have hc:=hr.2 rfl
 exact zgN (f:=I) zgT (hv 0 e _ (by rw[hc];rfl) rfl)
inductive Ex where
 |mk (kind:Int) (op:Int) (name:(List UInt8)) (value:Int) (argsN:Option Bool) (argsZ:Nat) (argsL:List Ex)
def Ex.kind:Ex→Int| .mk kind _ _ _ _ _ _=>kind
def Ex.op:Ex→Int| .mk _ op _ _ _ _ _=>op
def Ex.name:Ex→(List UInt8)| .mk _ _ name _ _ _ _=>name
def Ex.value:Ex→Int| .mk _ _ _ value _ _ _=>value
def Ex.args:Ex→(Sl Ex)| .mk _ _ _ _ argsN argsZ argsL=>⟨argsN,argsZ,argsL⟩
def Ex.of (kind:Int) (op:Int) (name:(List UInt8)) (value:Int) (args:(Sl Ex)):Ex:= .mk kind op name value args.nl args.z args.l
@[simp] theorem Ex.of_kind {kind:Int} {op:Int} {name:(List UInt8)} {value:Int} {args:(Sl Ex)}:(Ex.of kind op name value args).kind=kind:=rfl
@[simp] theorem Ex.of_op {kind:Int} {op:Int} {name:(List UInt8)} {value:Int} {args:(Sl Ex)}:(Ex.of kind op name value args).op=op:=rfl
@[simp] theorem Ex.of_name {kind:Int} {op:Int} {name:(List UInt8)} {value:Int} {args:(Sl Ex)}:(Ex.of kind op name value args).name=name:=rfl
@[simp] theorem Ex.of_value {kind:Int} {op:Int} {name:(List UInt8)} {value:Int} {args:(Sl Ex)}:(Ex.of kind op name value args).value=value:=rfl
@[simp] theorem Ex.of_args {kind:Int} {op:Int} {name:(List UInt8)} {value:Int} {args:(Sl Ex)}:(Ex.of kind op name value args).args=args:=rfl
mutual
def Ex.av:Ex→AV| .mk kind op name value argsN argsZ argsL=> .agg [I kind,I op,.str name,I value,.isl argsN (if argsL.isEmpty then argsZ else 5) (Ex.avs argsL)]
def Ex.avs:List Ex→List AV| []=> []|x::r=>Ex.av x::Ex.avs r
end
theorem Ex.avs_map (l:List Ex):Ex.avs l=l.map Ex.av:=by
 induction l with
 |nil=>simp[Ex.avs]
 |cons x r ih=>simp[Ex.avs,ih]
theorem Ex.av_eq (s:Ex):s.av= .agg [I s.kind,I s.op,.str s.name,I s.value,Sl.av Ex.av 5 s.args]:=by
 cases s;simp only[Ex.av,Ex.avs_map];rfl
instance:Inhabited Ex:=⟨.mk default default default default (some true) 0 []⟩
theorem Ex.ind {P0:Ex→Prop} (h0:∀s:Ex,(∀x∈s.args.l,P0 x)→P0 s):(∀s,P0 s):=by
 exact fun s=>Ex.rec (motive_1:=P0) (motive_2:=fun l=>∀x∈l,P0 x) (fun kind op name value argsN argsZ argsL argsI=>h0 _ argsI) (fun _ h=>nomatch h) (fun a r ha hr x hx=>by cases hx with|head=>exact ha|tail _ h=>exact hr x h) s
section
variable {s t:Ex} {H:Heap} {es:List AV} {k:Nat}
@[simp] theorem Ex_okO:okO s.av=some s.av:=by simp only[Ex.av_eq]<;>rfl
@[simp] theorem Ex_flat:s.av.flat=true:=by simp only[Ex.av_eq]<;>rfl
@[simp] theorem Ex_len:s.av.cells.length=5:=by simp only[Ex.av_eq]<;>rfl
@[simp] theorem Ex_cell:s.av.cells.all AV.cell=true:=by simp only[Ex.av_eq]<;>rfl
@[simp] theorem Ex_whole:zi true 5 s.av.cells=s.av:=by simp only[Ex.av_eq]<;>rfl
@[simp] theorem Ex_fold:AV.agg s.av.cells=s.av:=by simp only[Ex.av_eq]<;>rfl
@[simp] theorem Ex_ld_kind:zi false 1 s.av.cells=I s.kind:=by simp only[Ex.av_eq]<;>rfl
@[simp] theorem Ex_ld_op:zi false 1 s.av.cells.tail=I s.op:=by simp only[Ex.av_eq]<;>rfl
@[simp] theorem Ex_st_op (x:Int):ze [s.av] 0 1 (I x)=some [((Ex.of s.kind x s.name s.value s.args):Ex).av]:=by simp only[Ex.av_eq,ze]<;>rfl
@[simp] theorem Ex_ld_name:zi false 1 (s.av.cells.drop 2)= .str s.name:=by simp only[Ex.av_eq]<;>rfl
@[simp] theorem Ex_st_name (x:(List UInt8)):ze [s.av] 0 2 (.str x)=some [((Ex.of s.kind s.op x s.value s.args):Ex).av]:=by simp only[Ex.av_eq,ze]<;>rfl
@[simp] theorem Ex_ld_value:zi false 1 (s.av.cells.drop 3)=I s.value:=by simp only[Ex.av_eq]<;>rfl
@[simp] theorem Ex_st_value (x:Int):ze [s.av] 0 3 (I x)=some [((Ex.of s.kind s.op s.name x s.args):Ex).av]:=by simp only[Ex.av_eq,ze]<;>rfl
@[simp] theorem Ex_ld_args:zi false 1 (s.av.cells.drop 4)=Sl.av Ex.av 5 s.args:=by simp only[Ex.av_eq]<;>rfl
end
structure Bnd where
 name:(List UInt8)
 type:Int
 value:Int
 deriving DecidableEq,Inhabited
def Bnd.av (s:Bnd):AV:= .agg [.str s.name,I s.type,I s.value]
section
variable {s t:Bnd} {H:Heap} {es:List AV} {k:Nat}
@[simp] theorem Bnd_okO:okO s.av=some s.av:=rfl
@[simp] theorem Bnd_ok:s.av.ok=true:=rfl
@[simp] theorem Bnd_flat:s.av.flat=true:=rfl
@[simp] theorem Bnd_len:s.av.cells.length=3:=rfl
@[simp] theorem Bnd_cell:s.av.cells.all AV.cell=true:=rfl
@[simp] theorem Bnd_still:s.av.cells.all AV.still=true:=rfl
@[simp] theorem Bnd_frz (n:Nat):frz H (n+2) s.av=some s.av:=rfl
@[simp] theorem Bnd_frz0 (n:Nat):frzs (frz H (n+1)) s.av.cells=some s.av.cells:=rfl
@[simp] theorem Bnd_whole:zi true 3 s.av.cells=s.av:=rfl
@[simp] theorem Bnd_fold:AV.agg s.av.cells=s.av:=rfl
@[simp] theorem Bnd_ld_name:zi false 1 s.av.cells= .str s.name:=rfl
@[simp] theorem Bnd_fv_name:zad false 1 0 s.av= .str s.name:=rfl
@[simp] theorem Bnd_st_name (x:(List UInt8)):ze [s.av] 0 0 (.str x)=some [({s with name:=x}:Bnd).av]:=rfl
@[simp] theorem Bnd_ld_type:zi false 1 s.av.cells.tail=I s.type:=rfl
@[simp] theorem Bnd_fv_type:zad false 1 1 s.av=I s.type:=rfl
@[simp] theorem Bnd_st_type (x:Int):ze [s.av] 0 1 (I x)=some [({s with type:=x}:Bnd).av]:=rfl
@[simp] theorem Bnd_ld_value:zi false 1 (s.av.cells.drop 2)=I s.value:=rfl
@[simp] theorem Bnd_fv_value:zad false 1 2 s.av=I s.value:=rfl
@[simp] theorem Bnd_st_value (x:Int):ze [s.av] 0 2 (I x)=some [({s with value:=x}:Bnd).av]:=rfl
@[simp] theorem Bnd_st_all (x:Bnd):ze [s.av] 0 0 x.av=some [x.av]:=rfl
@[simp] theorem Bnd_st_new (x:Bnd):ze [.agg [.str [],.int .i64 0,.int .i64 0]] 0 0 x.av=some [x.av]:=rfl
def Bnd.wf (s:Bnd):Prop:=s.name.length≤maxLen∧(Lit.int .i64 s.type).wf=true∧(Lit.int .i64 s.value).wf=true∧True
end
structure Sg where
 kind:Int
 size:Int
 expr:Ex
 items:(Sl Int)
 deriving Inhabited
def Sg.av (s:Sg):AV:= .agg [I s.kind,I s.size,I s.expr.kind,I s.expr.op,.str s.expr.name,I s.expr.value,Sl.av Ex.av 5 s.expr.args,Sl.av I 1 s.items]
section
variable {s t:Sg} {H:Heap} {es:List AV} {k:Nat}
@[simp] theorem Sg_okO:okO s.av=some s.av:=by first|rfl|(simp only[Ex.av_eq];rfl)|(simp only[Sg.av,Ex.av_eq,ze];rfl)
@[simp] theorem Sg_flat:s.av.flat=true:=by first|rfl|(simp only[Ex.av_eq];rfl)|(simp only[Sg.av,Ex.av_eq,ze];rfl)
@[simp] theorem Sg_len:s.av.cells.length=8:=by first|rfl|(simp only[Ex.av_eq];rfl)|(simp only[Sg.av,Ex.av_eq,ze];rfl)
@[simp] theorem Sg_cell:s.av.cells.all AV.cell=true:=by first|rfl|(simp only[Ex.av_eq];rfl)|(simp only[Sg.av,Ex.av_eq,ze];rfl)
@[simp] theorem Sg_whole:zi true 8 s.av.cells=s.av:=by first|rfl|(simp only[Ex.av_eq];rfl)|(simp only[Sg.av,Ex.av_eq,ze];rfl)
@[simp] theorem Sg_fold:AV.agg s.av.cells=s.av:=by first|rfl|(simp only[Ex.av_eq];rfl)|(simp only[Sg.av,Ex.av_eq,ze];rfl)
@[simp] theorem Sg_ld_kind:zi false 1 s.av.cells=I s.kind:=by first|rfl|(simp only[Ex.av_eq];rfl)|(simp only[Sg.av,Ex.av_eq,ze];rfl)
@[simp] theorem Sg_ld_size:zi false 1 s.av.cells.tail=I s.size:=by first|rfl|(simp only[Ex.av_eq];rfl)|(simp only[Sg.av,Ex.av_eq,ze];rfl)
@[simp] theorem Sg_ld_expr:zi true 5 (s.av.cells.drop 2)=s.expr.av:=by first|rfl|(simp only[Ex.av_eq];rfl)|(simp only[Sg.av,Ex.av_eq,ze];rfl)
@[simp] theorem Sg_ld_items:zi false 1 (s.av.cells.drop 7)=Sl.av I 1 s.items:=by first|rfl|(simp only[Ex.av_eq];rfl)|(simp only[Sg.av,Ex.av_eq,ze];rfl)
end
structure Pi where
 src:Int
 output:Int
 dst:Int
 input:Int
 capacity:Int
 deriving DecidableEq,Inhabited
def Pi.av (s:Pi):AV:= .agg [I s.src,I s.output,I s.dst,I s.input,I s.capacity]
section
variable {s t:Pi} {H:Heap} {es:List AV} {k:Nat}
@[simp] theorem Pi_okO:okO s.av=some s.av:=rfl
@[simp] theorem Pi_ok:s.av.ok=true:=rfl
@[simp] theorem Pi_flat:s.av.flat=true:=rfl
@[simp] theorem Pi_len:s.av.cells.length=5:=rfl
@[simp] theorem Pi_cell:s.av.cells.all AV.cell=true:=rfl
@[simp] theorem Pi_still:s.av.cells.all AV.still=true:=rfl
@[simp] theorem Pi_frz (n:Nat):frz H (n+2) s.av=some s.av:=rfl
@[simp] theorem Pi_frz0 (n:Nat):frzs (frz H (n+1)) s.av.cells=some s.av.cells:=rfl
@[simp] theorem Pi_whole:zi true 5 s.av.cells=s.av:=rfl
@[simp] theorem Pi_fold:AV.agg s.av.cells=s.av:=rfl
@[simp] theorem Pi_ld_src:zi false 1 s.av.cells=I s.src:=rfl
@[simp] theorem Pi_fv_src:zad false 1 0 s.av=I s.src:=rfl
@[simp] theorem Pi_st_src (x:Int):ze [s.av] 0 0 (I x)=some [({s with src:=x}:Pi).av]:=rfl
@[simp] theorem Pi_ld_output:zi false 1 s.av.cells.tail=I s.output:=rfl
@[simp] theorem Pi_fv_output:zad false 1 1 s.av=I s.output:=rfl
@[simp] theorem Pi_st_output (x:Int):ze [s.av] 0 1 (I x)=some [({s with output:=x}:Pi).av]:=rfl
@[simp] theorem Pi_ld_dst:zi false 1 (s.av.cells.drop 2)=I s.dst:=rfl
@[simp] theorem Pi_fv_dst:zad false 1 2 s.av=I s.dst:=rfl
@[simp] theorem Pi_st_dst (x:Int):ze [s.av] 0 2 (I x)=some [({s with dst:=x}:Pi).av]:=rfl
@[simp] theorem Pi_ld_input:zi false 1 (s.av.cells.drop 3)=I s.input:=rfl
@[simp] theorem Pi_fv_input:zad false 1 3 s.av=I s.input:=rfl
@[simp] theorem Pi_st_input (x:Int):ze [s.av] 0 3 (I x)=some [({s with input:=x}:Pi).av]:=rfl
@[simp] theorem Pi_ld_capacity:zi false 1 (s.av.cells.drop 4)=I s.capacity:=rfl
@[simp] theorem Pi_fv_capacity:zad false 1 4 s.av=I s.capacity:=rfl
@[simp] theorem Pi_st_capacity (x:Int):ze [s.av] 0 4 (I x)=some [({s with capacity:=x}:Pi).av]:=rfl
@[simp] theorem Pi_st_all (x:Pi):ze [s.av] 0 0 x.av=some [x.av]:=rfl
@[simp] theorem Pi_st_new (x:Pi):ze [.agg [.int .i64 0,.int .i64 0,.int .i64 0,.int .i64 0,.int .i64 0]] 0 0 x.av=some [x.av]:=rfl
def piSh:List Sh:=[.int .i64,.int .i64,.int .i64,.int .i64,.int .i64]
def Pi.wf (s:Pi):Prop:=(Lit.int .i64 s.src).wf=true∧(Lit.int .i64 s.output).wf=true∧(Lit.int .i64 s.dst).wf=true∧(Lit.int .i64 s.input).wf=true∧(Lit.int .i64 s.capacity).wf=true∧True
theorem zBl {e:AV} (hr:zeo true 5 e) (hv:∀(j:Nat) (c:AV) (s:Sh),(AV.cells e)[j]?=some c→piSh[j]?=some s→ShOk s c):∃s:Pi,e=s.av∧s.wf:=by
 obtain⟨cs,rfl,hl⟩:=hr.1 rfl
 match cs,hl with
 | [a0,a1,a2,a3,a4],_=>
  obtain⟨n0,rfl,w0⟩:=zco (hv 0 _ _ rfl rfl)
  obtain⟨n1,rfl,w1⟩:=zco (hv 1 _ _ rfl rfl)
  obtain⟨n2,rfl,w2⟩:=zco (hv 2 _ _ rfl rfl)
  obtain⟨n3,rfl,w3⟩:=zco (hv 3 _ _ rfl rfl)
  obtain⟨n4,rfl,w4⟩:=zco (hv 4 _ _ rfl rfl)
  exact⟨⟨n0,n1,n2,n3,n4⟩,rfl,w0,w1,w2,w3,w4,trivial⟩
end
structure Pl where
 stages:(Sl Sg)
 pipes:(Sl Pi)
 deriving Inhabited
def Pl.av (s:Pl):AV:= .agg [Sl.av Sg.av 8 s.stages,Sl.av Pi.av 5 s.pipes]
section
variable {s t:Pl} {H:Heap} {es:List AV} {k:Nat}
@[simp] theorem Pl_okO:okO s.av=some s.av:=rfl
@[simp] theorem Pl_ok:s.av.ok=true:=rfl
@[simp] theorem Pl_flat:s.av.flat=true:=rfl
@[simp] theorem Pl_len:s.av.cells.length=2:=rfl
@[simp] theorem Pl_cell:s.av.cells.all AV.cell=true:=rfl
@[simp] theorem Pl_still:s.av.cells.all AV.still=true:=rfl
@[simp] theorem Pl_frz (n:Nat):frz H (n+2) s.av=some s.av:=rfl
@[simp] theorem Pl_frz0 (n:Nat):frzs (frz H (n+1)) s.av.cells=some s.av.cells:=rfl
@[simp] theorem Pl_whole:zi true 2 s.av.cells=s.av:=rfl
@[simp] theorem Pl_fold:AV.agg s.av.cells=s.av:=rfl
@[simp] theorem Pl_ld_stages:zi false 1 s.av.cells=Sl.av Sg.av 8 s.stages:=rfl
@[simp] theorem Pl_fv_stages:zad false 1 0 s.av=Sl.av Sg.av 8 s.stages:=rfl
@[simp] theorem Pl_st_stages (x:(Sl Sg)):ze [s.av] 0 0 (Sl.av Sg.av 8 x)=some [({s with stages:=x}:Pl).av]:=rfl
@[simp] theorem Pl_ld_pipes:zi false 1 s.av.cells.tail=Sl.av Pi.av 5 s.pipes:=rfl
@[simp] theorem Pl_fv_pipes:zad false 1 1 s.av=Sl.av Pi.av 5 s.pipes:=rfl
@[simp] theorem Pl_st_pipes (x:(Sl Pi)):ze [s.av] 0 1 (Sl.av Pi.av 5 x)=some [({s with pipes:=x}:Pl).av]:=rfl
@[simp] theorem Pl_st_all (x:Pl):ze [s.av] 0 0 x.av=some [x.av]:=rfl
@[simp] theorem Pl_st_new (x:Pl):ze [.agg [.isl (some true) 0 [],.isl (some true) 0 []]] 0 0 x.av=some [x.av]:=rfl
end
structure Cr where
 cap:Int
 granted:Int
 sent:Int
 taken:Int
 items:(Sl Int)
 closed:Bool
 deriving DecidableEq,Inhabited
def Cr.av (s:Cr):AV:= .agg [I s.cap,I s.granted,I s.sent,I s.taken,Sl.av I 1 s.items,.bool s.closed]
section
variable {s t:Cr} {H:Heap} {es:List AV} {k:Nat}
@[simp] theorem Cr_okO:okO s.av=some s.av:=rfl
@[simp] theorem Cr_ok:s.av.ok=true:=rfl
@[simp] theorem Cr_flat:s.av.flat=true:=rfl
@[simp] theorem Cr_len:s.av.cells.length=6:=rfl
@[simp] theorem Cr_cell:s.av.cells.all AV.cell=true:=rfl
@[simp] theorem zss:s.av.cells.all AV.still=true:=rfl
@[simp] theorem Cr_frz (n:Nat):frz H (n+2) s.av=some s.av:=rfl
@[simp] theorem Cr_frz0 (n:Nat):frzs (frz H (n+1)) s.av.cells=some s.av.cells:=rfl
@[simp] theorem Cr_whole:zi true 6 s.av.cells=s.av:=rfl
@[simp] theorem Cr_fold:AV.agg s.av.cells=s.av:=rfl
@[simp] theorem Cr_ld_cap:zi false 1 s.av.cells=I s.cap:=rfl
@[simp] theorem Cr_fv_cap:zad false 1 0 s.av=I s.cap:=rfl
@[simp] theorem Cr_st_cap (x:Int):ze [s.av] 0 0 (I x)=some [({s with cap:=x}:Cr).av]:=rfl
@[simp] theorem Cr_ld_granted:zi false 1 s.av.cells.tail=I s.granted:=rfl
@[simp] theorem Cr_fv_granted:zad false 1 1 s.av=I s.granted:=rfl
@[simp] theorem Cr_st_granted (x:Int):ze [s.av] 0 1 (I x)=some [({s with granted:=x}:Cr).av]:=rfl
@[simp] theorem Cr_ld_sent:zi false 1 (s.av.cells.drop 2)=I s.sent:=rfl
@[simp] theorem Cr_fv_sent:zad false 1 2 s.av=I s.sent:=rfl
@[simp] theorem Cr_st_sent (x:Int):ze [s.av] 0 2 (I x)=some [({s with sent:=x}:Cr).av]:=rfl
@[simp] theorem Cr_ld_taken:zi false 1 (s.av.cells.drop 3)=I s.taken:=rfl
@[simp] theorem Cr_fv_taken:zad false 1 3 s.av=I s.taken:=rfl
@[simp] theorem Cr_st_taken (x:Int):ze [s.av] 0 3 (I x)=some [({s with taken:=x}:Cr).av]:=rfl
@[simp] theorem Cr_ld_items:zi false 1 (s.av.cells.drop 4)=Sl.av I 1 s.items:=rfl
@[simp] theorem Cr_fv_items:zad false 1 4 s.av=Sl.av I 1 s.items:=rfl
@[simp] theorem Cr_st_items (x:(Sl Int)):ze [s.av] 0 4 (Sl.av I 1 x)=some [({s with items:=x}:Cr).av]:=rfl
@[simp] theorem Cr_ld_closed:zi false 1 (s.av.cells.drop 5)= .bool s.closed:=rfl
@[simp] theorem Cr_fv_closed:zad false 1 5 s.av= .bool s.closed:=rfl
@[simp] theorem Cr_st_closed (x:Bool):ze [s.av] 0 5 (.bool x)=some [({s with closed:=x}:Cr).av]:=rfl
@[simp] theorem Cr_st_all (x:Cr):ze [s.av] 0 0 x.av=some [x.av]:=rfl
@[simp] theorem Cr_st_new (x:Cr):ze [.agg [.int .i64 0,.int .i64 0,.int .i64 0,.int .i64 0,.isl (some true) 0 [],.bool false]] 0 0 x.av=some [x.av]:=rfl
@[simp] theorem Cr_stm_all (l:List Cr) (x:Cr):ze (l.map Cr.av) k 0 x.av=l[k]?.map fun _=>(l.set k x).map Cr.av:=by
 cases h:l[k]? with
 |none=>simp[ze,h]
 |some s=>simp only[ze,gEm,h,oMs,List.map_set];rfl
def crSh:List Sh:=[.int .i64,.int .i64,.int .i64,.int .i64,.sl false [.int .i64],.bool]
def Cr.wf (s:Cr):Prop:=(Lit.int .i64 s.cap).wf=true∧(Lit.int .i64 s.granted).wf=true∧(Lit.int .i64 s.sent).wf=true∧(Lit.int .i64 s.taken).wf=true∧SlOk (fun n=>(Lit.int .i64 n).wf=true) s.items∧True
theorem zBp {e:AV} (hr:zeo true 6 e) (hv:∀(j:Nat) (c:AV) (s:Sh),(AV.cells e)[j]?=some c→crSh[j]?=some s→ShOk s c):∃s:Cr,e=s.av∧s.wf:=by
 obtain⟨cs,rfl,hl⟩:=hr.1 rfl
 match cs,hl with
 | [a0,a1,a2,a3,a4,a5],_=>
  obtain⟨n0,rfl,w0⟩:=zco (hv 0 _ _ rfl rfl)
  obtain⟨n1,rfl,w1⟩:=zco (hv 1 _ _ rfl rfl)
  obtain⟨n2,rfl,w2⟩:=zco (hv 2 _ _ rfl rfl)
  obtain⟨n3,rfl,w3⟩:=zco (hv 3 _ _ rfl rfl)
  obtain⟨n4,h4,w4⟩:=zgN (f:=I) zgT (hv 4 _ _ rfl rfl)
  subst h4
  obtain⟨n5,rfl⟩:=zjm (hv 5 _ _ rfl rfl)
  exact⟨⟨n0,n1,n2,n3,n4,n5⟩,rfl,w0,w1,w2,w3,w4,trivial⟩
end
structure Ss where
 held:(Sl Int)
 count:Int
 ended:Bool
 deriving DecidableEq,Inhabited
def Ss.av (s:Ss):AV:= .agg [Sl.av I 1 s.held,I s.count,.bool s.ended]
section
variable {s t:Ss} {H:Heap} {es:List AV} {k:Nat}
@[simp] theorem Ss_okO:okO s.av=some s.av:=rfl
@[simp] theorem Ss_ok:s.av.ok=true:=rfl
@[simp] theorem Ss_flat:s.av.flat=true:=rfl
@[simp] theorem Ss_len:s.av.cells.length=3:=rfl
@[simp] theorem Ss_cell:s.av.cells.all AV.cell=true:=rfl
@[simp] theorem zsq:s.av.cells.all AV.still=true:=rfl
@[simp] theorem Ss_frz (n:Nat):frz H (n+2) s.av=some s.av:=rfl
@[simp] theorem Ss_frz0 (n:Nat):frzs (frz H (n+1)) s.av.cells=some s.av.cells:=rfl
@[simp] theorem Ss_whole:zi true 3 s.av.cells=s.av:=rfl
@[simp] theorem Ss_fold:AV.agg s.av.cells=s.av:=rfl
@[simp] theorem Ss_ld_held:zi false 1 s.av.cells=Sl.av I 1 s.held:=rfl
@[simp] theorem Ss_fv_held:zad false 1 0 s.av=Sl.av I 1 s.held:=rfl
@[simp] theorem Ss_st_held (x:(Sl Int)):ze [s.av] 0 0 (Sl.av I 1 x)=some [({s with held:=x}:Ss).av]:=rfl
@[simp] theorem Ss_ld_count:zi false 1 s.av.cells.tail=I s.count:=rfl
@[simp] theorem Ss_fv_count:zad false 1 1 s.av=I s.count:=rfl
@[simp] theorem Ss_st_count (x:Int):ze [s.av] 0 1 (I x)=some [({s with count:=x}:Ss).av]:=rfl
@[simp] theorem Ss_ld_ended:zi false 1 (s.av.cells.drop 2)= .bool s.ended:=rfl
@[simp] theorem Ss_fv_ended:zad false 1 2 s.av= .bool s.ended:=rfl
@[simp] theorem Ss_st_ended (x:Bool):ze [s.av] 0 2 (.bool x)=some [({s with ended:=x}:Ss).av]:=rfl
@[simp] theorem Ss_st_all (x:Ss):ze [s.av] 0 0 x.av=some [x.av]:=rfl
@[simp] theorem Ss_st_new (x:Ss):ze [.agg [.isl (some true) 0 [],.int .i64 0,.bool false]] 0 0 x.av=some [x.av]:=rfl
@[simp] theorem Ss_stm_all (l:List Ss) (x:Ss):ze (l.map Ss.av) k 0 x.av=l[k]?.map fun _=>(l.set k x).map Ss.av:=by
 cases h:l[k]? with
 |none=>simp[ze,h]
 |some s=>simp only[ze,gEm,h,oMs,List.map_set];rfl
def ssSh:List Sh:=[.sl false [.int .i64],.int .i64,.bool]
def Ss.wf (s:Ss):Prop:=SlOk (fun n=>(Lit.int .i64 n).wf=true) s.held∧(Lit.int .i64 s.count).wf=true∧True
theorem zBj {e:AV} (hr:zeo true 3 e) (hv:∀(j:Nat) (c:AV) (s:Sh),(AV.cells e)[j]?=some c→ssSh[j]?=some s→ShOk s c):∃s:Ss,e=s.av∧s.wf:=by
 obtain⟨cs,rfl,hl⟩:=hr.1 rfl
 match cs,hl with
 | [a0,a1,a2],_=>
  obtain⟨n0,h0,w0⟩:=zgN (f:=I) zgT (hv 0 _ _ rfl rfl)
  subst h0
  obtain⟨n1,rfl,w1⟩:=zco (hv 1 _ _ rfl rfl)
  obtain⟨n2,rfl⟩:=zjm (hv 2 _ _ rfl rfl)
  exact⟨⟨n0,n1,n2⟩,rfl,w0,w1,trivial⟩
end
structure Fs where
 stages:(Sl Ss)
 credits:(Sl Cr)
 outputs:(Sl (Sl Int))
 draining:Bool
 deriving DecidableEq,Inhabited
def Fs.av (s:Fs):AV:= .agg [Sl.av Ss.av 3 s.stages,Sl.av Cr.av 6 s.credits,Sl.av (Sl.av I 1) 1 s.outputs,.bool s.draining]
section
variable {s t:Fs} {H:Heap} {es:List AV} {k:Nat}
@[simp] theorem Fs_okO:okO s.av=some s.av:=rfl
@[simp] theorem Fs_ok:s.av.ok=true:=rfl
@[simp] theorem Fs_flat:s.av.flat=true:=rfl
@[simp] theorem Fs_len:s.av.cells.length=4:=rfl
@[simp] theorem Fs_cell:s.av.cells.all AV.cell=true:=rfl
@[simp] theorem Fs_still:s.av.cells.all AV.still=true:=rfl
@[simp] theorem Fs_frz (n:Nat):frz H (n+2) s.av=some s.av:=rfl
@[simp] theorem Fs_frz0 (n:Nat):frzs (frz H (n+1)) s.av.cells=some s.av.cells:=rfl
@[simp] theorem Fs_whole:zi true 4 s.av.cells=s.av:=rfl
@[simp] theorem Fs_fold:AV.agg s.av.cells=s.av:=rfl
@[simp] theorem Fs_ld_stages:zi false 1 s.av.cells=Sl.av Ss.av 3 s.stages:=rfl
@[simp] theorem Fs_fv_stages:zad false 1 0 s.av=Sl.av Ss.av 3 s.stages:=rfl
@[simp] theorem Fs_st_stages (x:(Sl Ss)):ze [s.av] 0 0 (Sl.av Ss.av 3 x)=some [({s with stages:=x}:Fs).av]:=rfl
@[simp] theorem Fs_ld_credits:zi false 1 s.av.cells.tail=Sl.av Cr.av 6 s.credits:=rfl
@[simp] theorem Fs_fv_credits:zad false 1 1 s.av=Sl.av Cr.av 6 s.credits:=rfl
@[simp] theorem Fs_st_credits (x:(Sl Cr)):ze [s.av] 0 1 (Sl.av Cr.av 6 x)=some [({s with credits:=x}:Fs).av]:=rfl
@[simp] theorem Fs_ld_outputs:zi false 1 (s.av.cells.drop 2)=Sl.av (Sl.av I 1) 1 s.outputs:=rfl
@[simp] theorem Fs_fv_outputs:zad false 1 2 s.av=Sl.av (Sl.av I 1) 1 s.outputs:=rfl
@[simp] theorem Fs_st_outputs (x:(Sl (Sl Int))):ze [s.av] 0 2 (Sl.av (Sl.av I 1) 1 x)=some [({s with outputs:=x}:Fs).av]:=rfl
@[simp] theorem Fs_ld_draining:zi false 1 (s.av.cells.drop 3)= .bool s.draining:=rfl
@[simp] theorem Fs_fv_draining:zad false 1 3 s.av= .bool s.draining:=rfl
@[simp] theorem Fs_st_draining (x:Bool):ze [s.av] 0 3 (.bool x)=some [({s with draining:=x}:Fs).av]:=rfl
@[simp] theorem Fs_st_all (x:Fs):ze [s.av] 0 0 x.av=some [x.av]:=rfl
@[simp] theorem Fs_st_new (x:Fs):ze [.agg [.isl (some true) 0 [],.isl (some true) 0 [],.isl (some true) 0 [],.bool false]] 0 0 x.av=some [x.av]:=rfl
def fsSh:List Sh:=[.sl true ssSh,.sl true crSh,.sl false [.sl false [.int .i64]],.bool]
def Fs.wf (s:Fs):Prop:=SlOk Ss.wf s.stages∧SlOk Cr.wf s.credits∧SlOk (SlOk (fun n=>(Lit.int .i64 n).wf=true)) s.outputs∧True
theorem zBo {e:AV} (hr:zeo true 4 e) (hv:∀(j:Nat) (c:AV) (s:Sh),(AV.cells e)[j]?=some c→fsSh[j]?=some s→ShOk s c):∃s:Fs,e=s.av∧s.wf:=by
 obtain⟨cs,rfl,hl⟩:=hr.1 rfl
 match cs,hl with
 | [a0,a1,a2,a3],_=>
  obtain⟨n0,h0,w0⟩:=zgN (f:=Ss.av) (fun e=>zBj) (hv 0 _ _ rfl rfl)
  subst h0
  obtain⟨n1,h1,w1⟩:=zgN (f:=Cr.av) (fun e=>zBp) (hv 1 _ _ rfl rfl)
  subst h1
  obtain⟨n2,h2,w2⟩:=zgN (f:=(Sl.av I 1)) zqb (hv 2 _ _ rfl rfl)
  subst h2
  obtain⟨n3,rfl⟩:=zjm (hv 3 _ _ rfl rfl)
  exact⟨⟨n0,n1,n2,n3⟩,rfl,w0,w1,w2,trivial⟩
theorem zx2 {a:AV} (h:zpS (true,fsSh) a):∃s:Fs,a=s.av∧s.wf:=by
 obtain⟨cs,rfl,h1,h2⟩:=h.1 rfl
 exact zBo ⟨fun _=>⟨_,rfl,h1⟩,fun h=>by cases h⟩ (fun j c s hc hs=>h2 j c s hc hs)
end
structure Mv where
 state:Ss
 sent:(Sl (Sl Int))
 ended:Bool
 takes:Bool
 inp:Int
 item:Int
 e:Int
 deriving DecidableEq,Inhabited
def Mv.av (s:Mv):AV:= .agg [Sl.av I 1 s.state.held,I s.state.count,.bool s.state.ended,Sl.av (Sl.av I 1) 1 s.sent,.bool s.ended,.bool s.takes,I s.inp,I s.item,I s.e]
section
variable {s t:Mv} {H:Heap} {es:List AV} {k:Nat}
@[simp] theorem Mv_okO:okO s.av=some s.av:=rfl
@[simp] theorem Mv_ok:s.av.ok=true:=rfl
@[simp] theorem Mv_flat:s.av.flat=true:=rfl
@[simp] theorem Mv_len:s.av.cells.length=9:=rfl
@[simp] theorem Mv_cell:s.av.cells.all AV.cell=true:=rfl
@[simp] theorem Mv_still:s.av.cells.all AV.still=true:=rfl
@[simp] theorem Mv_frz (n:Nat):frz H (n+2) s.av=some s.av:=rfl
@[simp] theorem Mv_frz0 (n:Nat):frzs (frz H (n+1)) s.av.cells=some s.av.cells:=rfl
@[simp] theorem Mv_whole:zi true 9 s.av.cells=s.av:=rfl
@[simp] theorem Mv_fold:AV.agg s.av.cells=s.av:=rfl
@[simp] theorem Mv_ld_state:zi true 3 s.av.cells=s.state.av:=rfl
@[simp] theorem Mv_fv_state:zad true 3 0 s.av=s.state.av:=rfl
@[simp] theorem Mv_st_state (x:Ss):ze [s.av] 0 0 x.av=some [({s with state:=x}:Mv).av]:=rfl
@[simp] theorem Mv_ld_state_held:zi false 1 s.av.cells=Sl.av I 1 s.state.held:=rfl
@[simp] theorem Mv_fv_state_held:zad false 1 0 s.av=Sl.av I 1 s.state.held:=rfl
@[simp] theorem Mv_st_state_held (x:(Sl Int)):ze [s.av] 0 0 (Sl.av I 1 x)=some [({s with state.held:=x}:Mv).av]:=rfl
@[simp] theorem Mv_ld_state_count:zi false 1 s.av.cells.tail=I s.state.count:=rfl
@[simp] theorem Mv_fv_state_count:zad false 1 1 s.av=I s.state.count:=rfl
@[simp] theorem Mv_st_state_count (x:Int):ze [s.av] 0 1 (I x)=some [({s with state.count:=x}:Mv).av]:=rfl
@[simp] theorem Mv_ld_state_ended:zi false 1 (s.av.cells.drop 2)= .bool s.state.ended:=rfl
@[simp] theorem Mv_fv_state_ended:zad false 1 2 s.av= .bool s.state.ended:=rfl
@[simp] theorem Mv_st_state_ended (x:Bool):ze [s.av] 0 2 (.bool x)=some [({s with state.ended:=x}:Mv).av]:=rfl
@[simp] theorem Mv_ld_sent:zi false 1 (s.av.cells.drop 3)=Sl.av (Sl.av I 1) 1 s.sent:=rfl
@[simp] theorem Mv_fv_sent:zad false 1 3 s.av=Sl.av (Sl.av I 1) 1 s.sent:=rfl
@[simp] theorem Mv_st_sent (x:(Sl (Sl Int))):ze [s.av] 0 3 (Sl.av (Sl.av I 1) 1 x)=some [({s with sent:=x}:Mv).av]:=rfl
@[simp] theorem Mv_ld_ended:zi false 1 (s.av.cells.drop 4)= .bool s.ended:=rfl
@[simp] theorem Mv_fv_ended:zad false 1 4 s.av= .bool s.ended:=rfl
@[simp] theorem Mv_st_ended (x:Bool):ze [s.av] 0 4 (.bool x)=some [({s with ended:=x}:Mv).av]:=rfl
@[simp] theorem Mv_ld_takes:zi false 1 (s.av.cells.drop 5)= .bool s.takes:=rfl
@[simp] theorem Mv_fv_takes:zad false 1 5 s.av= .bool s.takes:=rfl
@[simp] theorem Mv_st_takes (x:Bool):ze [s.av] 0 5 (.bool x)=some [({s with takes:=x}:Mv).av]:=rfl
@[simp] theorem Mv_ld_inp:zi false 1 (s.av.cells.drop 6)=I s.inp:=rfl
@[simp] theorem Mv_fv_inp:zad false 1 6 s.av=I s.inp:=rfl
@[simp] theorem Mv_st_inp (x:Int):ze [s.av] 0 6 (I x)=some [({s with inp:=x}:Mv).av]:=rfl
@[simp] theorem Mv_ld_item:zi false 1 (s.av.cells.drop 7)=I s.item:=rfl
@[simp] theorem Mv_fv_item:zad false 1 7 s.av=I s.item:=rfl
@[simp] theorem Mv_st_item (x:Int):ze [s.av] 0 7 (I x)=some [({s with item:=x}:Mv).av]:=rfl
@[simp] theorem Mv_ld_e:zi false 1 (s.av.cells.drop 8)=I s.e:=rfl
@[simp] theorem Mv_fv_e:zad false 1 8 s.av=I s.e:=rfl
@[simp] theorem Mv_st_e (x:Int):ze [s.av] 0 8 (I x)=some [({s with e:=x}:Mv).av]:=rfl
@[simp] theorem Mv_st_all (x:Mv):ze [s.av] 0 0 x.av=some [x.av]:=rfl
@[simp] theorem Mv_st_new (x:Mv):ze [.agg [.isl (some true) 0 [],.int .i64 0,.bool false,.isl (some true) 0 [],.bool false,.bool false,.int .i64 0,.int .i64 0,.int .i64 0]] 0 0 x.av=some [x.av]:=rfl
def Mv.wf (s:Mv):Prop:=SlOk (fun n=>(Lit.int .i64 n).wf=true) s.state.held∧(Lit.int .i64 s.state.count).wf=true∧SlOk (SlOk (fun n=>(Lit.int .i64 n).wf=true)) s.sent∧(Lit.int .i64 s.inp).wf=true∧(Lit.int .i64 s.item).wf=true∧(Lit.int .i64 s.e).wf=true∧True
end
structure Act where
 kind:Int
 state:Ss
 out:(Sl (Sl Int))
 pipe:Int
 item:Int
 e:Int
 deriving DecidableEq,Inhabited
def Act.av (s:Act):AV:= .agg [I s.kind,Sl.av I 1 s.state.held,I s.state.count,.bool s.state.ended,Sl.av (Sl.av I 1) 1 s.out,I s.pipe,I s.item,I s.e]
section
variable {s t:Act} {H:Heap} {es:List AV} {k:Nat}
@[simp] theorem Act_okO:okO s.av=some s.av:=rfl
@[simp] theorem Act_ok:s.av.ok=true:=rfl
@[simp] theorem Act_flat:s.av.flat=true:=rfl
@[simp] theorem Act_len:s.av.cells.length=8:=rfl
@[simp] theorem Act_cell:s.av.cells.all AV.cell=true:=rfl
@[simp] theorem Act_still:s.av.cells.all AV.still=true:=rfl
@[simp] theorem Act_frz (n:Nat):frz H (n+2) s.av=some s.av:=rfl
@[simp] theorem Act_frz0 (n:Nat):frzs (frz H (n+1)) s.av.cells=some s.av.cells:=rfl
@[simp] theorem Act_whole:zi true 8 s.av.cells=s.av:=rfl
@[simp] theorem Act_fold:AV.agg s.av.cells=s.av:=rfl
@[simp] theorem Act_ld_kind:zi false 1 s.av.cells=I s.kind:=rfl
@[simp] theorem Act_fv_kind:zad false 1 0 s.av=I s.kind:=rfl
@[simp] theorem Act_st_kind (x:Int):ze [s.av] 0 0 (I x)=some [({s with kind:=x}:Act).av]:=rfl
@[simp] theorem Act_ld_state:zi true 3 s.av.cells.tail=s.state.av:=rfl
@[simp] theorem Act_fv_state:zad true 3 1 s.av=s.state.av:=rfl
@[simp] theorem Act_st_state (x:Ss):ze [s.av] 0 1 x.av=some [({s with state:=x}:Act).av]:=rfl
@[simp] theorem Act_ld_state_held:zi false 1 s.av.cells.tail=Sl.av I 1 s.state.held:=rfl
@[simp] theorem Act_fv_state_held:zad false 1 1 s.av=Sl.av I 1 s.state.held:=rfl
@[simp] theorem Act_st_state_held (x:(Sl Int)):ze [s.av] 0 1 (Sl.av I 1 x)=some [({s with state.held:=x}:Act).av]:=rfl
@[simp] theorem Act_ld_state_count:zi false 1 (s.av.cells.drop 2)=I s.state.count:=rfl
@[simp] theorem Act_fv_state_count:zad false 1 2 s.av=I s.state.count:=rfl
@[simp] theorem Act_st_state_count (x:Int):ze [s.av] 0 2 (I x)=some [({s with state.count:=x}:Act).av]:=rfl
@[simp] theorem Act_ld_state_ended:zi false 1 (s.av.cells.drop 3)= .bool s.state.ended:=rfl
@[simp] theorem Act_fv_state_ended:zad false 1 3 s.av= .bool s.state.ended:=rfl
@[simp] theorem Act_st_state_ended (x:Bool):ze [s.av] 0 3 (.bool x)=some [({s with state.ended:=x}:Act).av]:=rfl
@[simp] theorem Act_ld_out:zi false 1 (s.av.cells.drop 4)=Sl.av (Sl.av I 1) 1 s.out:=rfl
@[simp] theorem Act_fv_out:zad false 1 4 s.av=Sl.av (Sl.av I 1) 1 s.out:=rfl
@[simp] theorem Act_st_out (x:(Sl (Sl Int))):ze [s.av] 0 4 (Sl.av (Sl.av I 1) 1 x)=some [({s with out:=x}:Act).av]:=rfl
@[simp] theorem Act_ld_pipe:zi false 1 (s.av.cells.drop 5)=I s.pipe:=rfl
@[simp] theorem Act_fv_pipe:zad false 1 5 s.av=I s.pipe:=rfl
@[simp] theorem Act_st_pipe (x:Int):ze [s.av] 0 5 (I x)=some [({s with pipe:=x}:Act).av]:=rfl
@[simp] theorem Act_ld_item:zi false 1 (s.av.cells.drop 6)=I s.item:=rfl
@[simp] theorem Act_fv_item:zad false 1 6 s.av=I s.item:=rfl
@[simp] theorem Act_st_item (x:Int):ze [s.av] 0 6 (I x)=some [({s with item:=x}:Act).av]:=rfl
@[simp] theorem Act_ld_e:zi false 1 (s.av.cells.drop 7)=I s.e:=rfl
@[simp] theorem Act_fv_e:zad false 1 7 s.av=I s.e:=rfl
@[simp] theorem Act_st_e (x:Int):ze [s.av] 0 7 (I x)=some [({s with e:=x}:Act).av]:=rfl
@[simp] theorem Act_st_all (x:Act):ze [s.av] 0 0 x.av=some [x.av]:=rfl
@[simp] theorem Act_st_new (x:Act):ze [.agg [.int .i64 0,.isl (some true) 0 [],.int .i64 0,.bool false,.isl (some true) 0 [],.int .i64 0,.int .i64 0,.int .i64 0]] 0 0 x.av=some [x.av]:=rfl
def Act.wf (s:Act):Prop:=(Lit.int .i64 s.kind).wf=true∧SlOk (fun n=>(Lit.int .i64 n).wf=true) s.state.held∧(Lit.int .i64 s.state.count).wf=true∧SlOk (SlOk (fun n=>(Lit.int .i64 n).wf=true)) s.out∧(Lit.int .i64 s.pipe).wf=true∧(Lit.int .i64 s.item).wf=true∧(Lit.int .i64 s.e).wf=true∧True
end
end Go.Proofs.YtbddckhdbnmamaaGreat
