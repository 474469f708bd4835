/-
  Plain structures for the program's, printed by a program of mine (conditions: none).
-/
import Derived.Test.YtgamobngbenehaaGreatDoorSlp
namespace Go.Proofs.YtgamobngbenehaaGreatDoor
open Go Go.RowKit
set_option linter.unusedVariables false
set_option linter.unusedSimpArgs false
inductive Ex where
 |mk (kind:Int) (op:Int) (name:(List UInt8)) (value:Int) (argsN:Option Bool) (argsZ:Nat) (argsL:List Ex)
def Ex.kind:Ex→Int| .mk kind _ _ _ _ _ _=>kind
def Ex.op:Ex→Int| .mk _ op _ _ _ _ _=>op
def Ex.name:Ex→(List UInt8)| .mk _ _ name _ _ _ _=>name
def Ex.value:Ex→Int| .mk _ _ _ value _ _ _=>value
def Ex.args:Ex→(Sl Ex)| .mk _ _ _ _ argsN argsZ argsL=>⟨argsN,argsZ,argsL⟩
def Ex.of (kind:Int) (op:Int) (name:(List UInt8)) (value:Int) (args:(Sl Ex)):Ex:= .mk kind op name value args.nl args.z args.l
theorem Ex.eta (s:Ex):s=Ex.of s.kind s.op s.name s.value s.args:=by cases s;rfl
@[simp] theorem Ex.of_kind {kind:Int} {op:Int} {name:(List UInt8)} {value:Int} {args:(Sl Ex)}:(Ex.of kind op name value args).kind=kind:=rfl
@[simp] theorem Ex.of_op {kind:Int} {op:Int} {name:(List UInt8)} {value:Int} {args:(Sl Ex)}:(Ex.of kind op name value args).op=op:=rfl
@[simp] theorem Ex.of_name {kind:Int} {op:Int} {name:(List UInt8)} {value:Int} {args:(Sl Ex)}:(Ex.of kind op name value args).name=name:=rfl
@[simp] theorem Ex.of_value {kind:Int} {op:Int} {name:(List UInt8)} {value:Int} {args:(Sl Ex)}:(Ex.of kind op name value args).value=value:=rfl
@[simp] theorem Ex.of_args {kind:Int} {op:Int} {name:(List UInt8)} {value:Int} {args:(Sl Ex)}:(Ex.of kind op name value args).args=args:=rfl
mutual
def Ex.av:Ex→AV| .mk kind op name value argsN argsZ argsL=> .agg [I kind,I op,.str name,I value,.isl argsN (if argsL.isEmpty then argsZ else 5) (Ex.avs argsL)]
def Ex.avs:List Ex→List AV| []=> []|x::r=>Ex.av x::Ex.avs r
end
theorem Ex.avs_map (l:List Ex):Ex.avs l=l.map Ex.av:=by
 induction l with
 |nil=>simp[Ex.avs]
 |cons x r ih=>simp[Ex.avs,ih]
theorem Ex.av_eq (s:Ex):s.av= .agg [I s.kind,I s.op,.str s.name,I s.value,Sl.av Ex.av 5 s.args]:=by
 cases s;simp only[Ex.av,Ex.avs_map];rfl
instance:Inhabited Ex:=⟨.mk default default default default (some true) 0 []⟩
theorem Ex.ind {P0:Ex→Prop} (h0:∀s:Ex,(∀x∈s.args.l,P0 x)→P0 s):(∀s,P0 s):=by
 exact fun s=>Ex.rec (motive_1:=P0) (motive_2:=fun l=>∀x∈l,P0 x) (fun kind op name value argsN argsZ argsL argsI=>h0 _ argsI) (fun _ h=>nomatch h) (fun a r ha hr x hx=>by cases hx with|head=>exact ha|tail _ h=>exact hr x h) s
section
variable {s t:Ex} {H:Heap} {es:List AV} {k:Nat}
@[simp] theorem Ex_okO:okO s.av=some s.av:=by simp only[Ex.av_eq]<;>rfl
@[simp] theorem Ex_flat:s.av.flat=true:=by simp only[Ex.av_eq]<;>rfl
@[simp] theorem Ex_len:s.av.cells.length=5:=by simp only[Ex.av_eq]<;>rfl
@[simp] theorem Ex_cell:s.av.cells.all AV.cell=true:=by simp only[Ex.av_eq]<;>rfl
@[simp] theorem Ex_whole:zk true 5 s.av.cells=s.av:=by simp only[Ex.av_eq]<;>rfl
@[simp] theorem Ex_fold:AV.agg s.av.cells=s.av:=by simp only[Ex.av_eq]<;>rfl
theorem zti (kind:Int) (op:Int) (name:(List UInt8)) (value:Int) (args:(Sl Ex)):(.agg [I kind,I op,.str name,I value,Sl.av Ex.av 5 args]:AV)=(Ex.of kind op name value args).av:=by rw[Ex.av_eq];rfl
@[simp] theorem Ex_ld_kind:zk false 1 s.av.cells=I s.kind:=by simp only[Ex.av_eq]<;>rfl
@[simp] theorem Ex_ld_op:zk false 1 s.av.cells.tail=I s.op:=by simp only[Ex.av_eq]<;>rfl
@[simp] theorem Ex_st_op (x:Int):zo [s.av] 0 1 (I x)=some [((Ex.of s.kind x s.name s.value s.args):Ex).av]:=by simp only[Ex.av_eq,zo]<;>rfl
@[simp] theorem Ex_ld_name:zk false 1 (s.av.cells.drop 2)= .str s.name:=by simp only[Ex.av_eq]<;>rfl
@[simp] theorem Ex_st_name (x:(List UInt8)):zo [s.av] 0 2 (.str x)=some [((Ex.of s.kind s.op x s.value s.args):Ex).av]:=by simp only[Ex.av_eq,zo]<;>rfl
@[simp] theorem Ex_ld_value:zk false 1 (s.av.cells.drop 3)=I s.value:=by simp only[Ex.av_eq]<;>rfl
@[simp] theorem Ex_st_value (x:Int):zo [s.av] 0 3 (I x)=some [((Ex.of s.kind s.op s.name x s.args):Ex).av]:=by simp only[Ex.av_eq,zo]<;>rfl
@[simp] theorem Ex_ld_args:zk false 1 (s.av.cells.drop 4)=Sl.av Ex.av 5 s.args:=by simp only[Ex.av_eq]<;>rfl
end
structure Dc where
 kind:Int
 name:(List UInt8)
 a:Int
 b:Int
 name2:(List UInt8)
 deriving DecidableEq,Inhabited
def Dc.av (s:Dc):AV:= .agg [I s.kind,.str s.name,I s.a,I s.b,.str s.name2]
section
variable {s t:Dc} {H:Heap} {es:List AV} {k:Nat}
@[simp] theorem Dc_okO:okO s.av=some s.av:=rfl
@[simp] theorem Dc_ok:s.av.ok=true:=rfl
@[simp] theorem Dc_flat:s.av.flat=true:=rfl
@[simp] theorem Dc_len:s.av.cells.length=5:=rfl
@[simp] theorem Dc_cell:s.av.cells.all AV.cell=true:=rfl
@[simp] theorem Dc_still:s.av.cells.all AV.still=true:=rfl
@[simp] theorem Dc_frz (n:Nat):frz H (n+2) s.av=some s.av:=rfl
@[simp] theorem Dc_frz0 (n:Nat):frzs (frz H (n+1)) s.av.cells=some s.av.cells:=rfl
@[simp] theorem Dc_whole:zk true 5 s.av.cells=s.av:=rfl
@[simp] theorem Dc_fold:AV.agg s.av.cells=s.av:=rfl
theorem Dc_mk (kind:Int) (name:(List UInt8)) (a:Int) (b:Int) (name2:(List UInt8)):(.agg [I kind,.str name,I a,I b,.str name2]:AV)=(Dc.mk kind name a b name2).av:=rfl
@[simp] theorem Dc_ld_kind:zk false 1 s.av.cells=I s.kind:=rfl
@[simp] theorem Dc_fv_kind:zaE false 1 0 s.av=I s.kind:=rfl
@[simp] theorem Dc_st_kind (x:Int):zo [s.av] 0 0 (I x)=some [({s with kind:=x}:Dc).av]:=rfl
@[simp] theorem Dc_ld_name:zk false 1 s.av.cells.tail= .str s.name:=rfl
@[simp] theorem Dc_fv_name:zaE false 1 1 s.av= .str s.name:=rfl
@[simp] theorem Dc_st_name (x:(List UInt8)):zo [s.av] 0 1 (.str x)=some [({s with name:=x}:Dc).av]:=rfl
@[simp] theorem Dc_ld_a:zk false 1 (s.av.cells.drop 2)=I s.a:=rfl
@[simp] theorem Dc_fv_a:zaE false 1 2 s.av=I s.a:=rfl
@[simp] theorem Dc_st_a (x:Int):zo [s.av] 0 2 (I x)=some [({s with a:=x}:Dc).av]:=rfl
@[simp] theorem Dc_ld_b:zk false 1 (s.av.cells.drop 3)=I s.b:=rfl
@[simp] theorem Dc_fv_b:zaE false 1 3 s.av=I s.b:=rfl
@[simp] theorem Dc_st_b (x:Int):zo [s.av] 0 3 (I x)=some [({s with b:=x}:Dc).av]:=rfl
@[simp] theorem Dc_ld_name2:zk false 1 (s.av.cells.drop 4)= .str s.name2:=rfl
@[simp] theorem Dc_fv_name2:zaE false 1 4 s.av= .str s.name2:=rfl
@[simp] theorem Dc_st_name2 (x:(List UInt8)):zo [s.av] 0 4 (.str x)=some [({s with name2:=x}:Dc).av]:=rfl
@[simp] theorem Dc_st_all (x:Dc):zo [s.av] 0 0 x.av=some [x.av]:=rfl
@[simp] theorem Dc_st_new (x:Dc):zo [.agg [.int .i64 0,.str [],.int .i64 0,.int .i64 0,.str []]] 0 0 x.av=some [x.av]:=rfl
def dcSh:List Sh:=[.int .i64,.str,.int .i64,.int .i64,.str]
def Dc.wf (s:Dc):Prop:=(Lit.int .i64 s.kind).wf=true∧s.name.length≤maxLen∧(Lit.int .i64 s.a).wf=true∧(Lit.int .i64 s.b).wf=true∧s.name2.length≤maxLen∧True
theorem ztj {e:AV} (hr:zeo true 5 e) (hv:∀(j:Nat) (c:AV) (s:Sh),(AV.cells e)[j]?=some c→dcSh[j]?=some s→ShOk s c):∃s:Dc,e=s.av∧s.wf:=by
 obtain⟨cs,rfl,hl⟩:=hr.1 rfl
 match cs,hl with
 | [a0,a1,a2,a3,a4],_=>
  obtain⟨n0,rfl,w0⟩:=zjs (hv 0 _ _ rfl rfl)
  obtain⟨n1,rfl,w1⟩:=zng (hv 1 _ _ rfl rfl)
  obtain⟨n2,rfl,w2⟩:=zjs (hv 2 _ _ rfl rfl)
  obtain⟨n3,rfl,w3⟩:=zjs (hv 3 _ _ rfl rfl)
  obtain⟨n4,rfl,w4⟩:=zng (hv 4 _ _ rfl rfl)
  exact⟨⟨n0,n1,n2,n3,n4⟩,rfl,w0,w1,w2,w3,w4,trivial⟩
end
mutual
inductive St where
 |mk (kind:Int) (op:Int) (name:(List UInt8)) (names:(Sl (List UInt8))) (exprs:(Sl Ex)) (bodyN:Option Bool) (bodyZ:Nat) (bodyL:List St) (elsN:Option Bool) (elsZ:Nat) (elsL:List St) (csN:Option Bool) (csZ:Nat) (csL:List Cs)
inductive Cs where
 |mk (kind:Int) (name:(List UInt8)) (expr:Ex) (names:(Sl (List UInt8))) (bodyN:Option Bool) (bodyZ:Nat) (bodyL:List St)
end
def St.kind:St→Int| .mk kind _ _ _ _ _ _ _ _ _ _ _ _ _=>kind
def St.op:St→Int| .mk _ op _ _ _ _ _ _ _ _ _ _ _ _=>op
def St.name:St→(List UInt8)| .mk _ _ name _ _ _ _ _ _ _ _ _ _ _=>name
def St.names:St→(Sl (List UInt8))| .mk _ _ _ names _ _ _ _ _ _ _ _ _ _=>names
def St.exprs:St→(Sl Ex)| .mk _ _ _ _ exprs _ _ _ _ _ _ _ _ _=>exprs
def St.body:St→(Sl St)| .mk _ _ _ _ _ bodyN bodyZ bodyL _ _ _ _ _ _=>⟨bodyN,bodyZ,bodyL⟩
def St.els:St→(Sl St)| .mk _ _ _ _ _ _ _ _ elsN elsZ elsL _ _ _=>⟨elsN,elsZ,elsL⟩
def St.cs:St→(Sl Cs)| .mk _ _ _ _ _ _ _ _ _ _ _ csN csZ csL=>⟨csN,csZ,csL⟩
def St.of (kind:Int) (op:Int) (name:(List UInt8)) (names:(Sl (List UInt8))) (exprs:(Sl Ex)) (body:(Sl St)) (els:(Sl St)) (cs:(Sl Cs)):St:= .mk kind op name names exprs body.nl body.z body.l els.nl els.z els.l cs.nl cs.z cs.l
theorem St.eta (s:St):s=St.of s.kind s.op s.name s.names s.exprs s.body s.els s.cs:=by cases s;rfl
@[simp] theorem St.of_kind {kind:Int} {op:Int} {name:(List UInt8)} {names:(Sl (List UInt8))} {exprs:(Sl Ex)} {body:(Sl St)} {els:(Sl St)} {cs:(Sl Cs)}:(St.of kind op name names exprs body els cs).kind=kind:=rfl
@[simp] theorem St.of_op {kind:Int} {op:Int} {name:(List UInt8)} {names:(Sl (List UInt8))} {exprs:(Sl Ex)} {body:(Sl St)} {els:(Sl St)} {cs:(Sl Cs)}:(St.of kind op name names exprs body els cs).op=op:=rfl
@[simp] theorem St.of_name {kind:Int} {op:Int} {name:(List UInt8)} {names:(Sl (List UInt8))} {exprs:(Sl Ex)} {body:(Sl St)} {els:(Sl St)} {cs:(Sl Cs)}:(St.of kind op name names exprs body els cs).name=name:=rfl
@[simp] theorem St.of_names {kind:Int} {op:Int} {name:(List UInt8)} {names:(Sl (List UInt8))} {exprs:(Sl Ex)} {body:(Sl St)} {els:(Sl St)} {cs:(Sl Cs)}:(St.of kind op name names exprs body els cs).names=names:=rfl
@[simp] theorem St.of_exprs {kind:Int} {op:Int} {name:(List UInt8)} {names:(Sl (List UInt8))} {exprs:(Sl Ex)} {body:(Sl St)} {els:(Sl St)} {cs:(Sl Cs)}:(St.of kind op name names exprs body els cs).exprs=exprs:=rfl
@[simp] theorem St.of_body {kind:Int} {op:Int} {name:(List UInt8)} {names:(Sl (List UInt8))} {exprs:(Sl Ex)} {body:(Sl St)} {els:(Sl St)} {cs:(Sl Cs)}:(St.of kind op name names exprs body els cs).body=body:=rfl
@[simp] theorem St.of_els {kind:Int} {op:Int} {name:(List UInt8)} {names:(Sl (List UInt8))} {exprs:(Sl Ex)} {body:(Sl St)} {els:(Sl St)} {cs:(Sl Cs)}:(St.of kind op name names exprs body els cs).els=els:=rfl
@[simp] theorem St.of_cs {kind:Int} {op:Int} {name:(List UInt8)} {names:(Sl (List UInt8))} {exprs:(Sl Ex)} {body:(Sl St)} {els:(Sl St)} {cs:(Sl Cs)}:(St.of kind op name names exprs body els cs).cs=cs:=rfl
def Cs.kind:Cs→Int| .mk kind _ _ _ _ _ _=>kind
def Cs.name:Cs→(List UInt8)| .mk _ name _ _ _ _ _=>name
def Cs.expr:Cs→Ex| .mk _ _ expr _ _ _ _=>expr
def Cs.names:Cs→(Sl (List UInt8))| .mk _ _ _ names _ _ _=>names
def Cs.body:Cs→(Sl St)| .mk _ _ _ _ bodyN bodyZ bodyL=>⟨bodyN,bodyZ,bodyL⟩
def Cs.of (kind:Int) (name:(List UInt8)) (expr:Ex) (names:(Sl (List UInt8))) (body:(Sl St)):Cs:= .mk kind name expr names body.nl body.z body.l
theorem Cs.eta (s:Cs):s=Cs.of s.kind s.name s.expr s.names s.body:=by cases s;rfl
@[simp] theorem Cs.of_kind {kind:Int} {name:(List UInt8)} {expr:Ex} {names:(Sl (List UInt8))} {body:(Sl St)}:(Cs.of kind name expr names body).kind=kind:=rfl
@[simp] theorem Cs.of_name {kind:Int} {name:(List UInt8)} {expr:Ex} {names:(Sl (List UInt8))} {body:(Sl St)}:(Cs.of kind name expr names body).name=name:=rfl
@[simp] theorem Cs.of_expr {kind:Int} {name:(List UInt8)} {expr:Ex} {names:(Sl (List UInt8))} {body:(Sl St)}:(Cs.of kind name expr names body).expr=expr:=rfl
@[simp] theorem Cs.of_names {kind:Int} {name:(List UInt8)} {expr:Ex} {names:(Sl (List UInt8))} {body:(Sl St)}:(Cs.of kind name expr names body).names=names:=rfl
@[simp] theorem Cs.of_body {kind:Int} {name:(List UInt8)} {expr:Ex} {names:(Sl (List UInt8))} {body:(Sl St)}:(Cs.of kind name expr names body).body=body:=rfl
mutual
def St.av:St→AV| .mk kind op name names exprs bodyN bodyZ bodyL elsN elsZ elsL csN csZ csL=> .agg [I kind,I op,.str name,Sl.av AV.str 1 names,Sl.av Ex.av 5 exprs,.isl bodyN (if bodyL.isEmpty then bodyZ else 8) (St.avs bodyL),.isl elsN (if elsL.isEmpty then elsZ else 8) (St.avs elsL),.isl csN (if csL.isEmpty then csZ else 9) (Cs.avs csL)]
def St.avs:List St→List AV| []=> []|x::r=>St.av x::St.avs r
def Cs.av:Cs→AV| .mk kind name expr names bodyN bodyZ bodyL=> .agg [I kind,.str name,I expr.kind,I expr.op,.str expr.name,I expr.value,Sl.av Ex.av 5 expr.args,Sl.av AV.str 1 names,.isl bodyN (if bodyL.isEmpty then bodyZ else 8) (St.avs bodyL)]
def Cs.avs:List Cs→List AV| []=> []|x::r=>Cs.av x::Cs.avs r
end
theorem St.avs_map (l:List St):St.avs l=l.map St.av:=by
 induction l with
 |nil=>simp[St.avs]
 |cons x r ih=>simp[St.avs,ih]
theorem Cs.avs_map (l:List Cs):Cs.avs l=l.map Cs.av:=by
 induction l with
 |nil=>simp[Cs.avs]
 |cons x r ih=>simp[Cs.avs,ih]
theorem St.av_eq (s:St):s.av= .agg [I s.kind,I s.op,.str s.name,Sl.av AV.str 1 s.names,Sl.av Ex.av 5 s.exprs,Sl.av St.av 8 s.body,Sl.av St.av 8 s.els,Sl.av Cs.av 9 s.cs]:=by
 cases s;simp only[St.av,St.avs_map,Cs.avs_map];rfl
instance:Inhabited St:=⟨.mk default default default default default (some true) 0 [] (some true) 0 [] (some true) 0 []⟩
theorem Cs.av_eq (s:Cs):s.av= .agg [I s.kind,.str s.name,I s.expr.kind,I s.expr.op,.str s.expr.name,I s.expr.value,Sl.av Ex.av 5 s.expr.args,Sl.av AV.str 1 s.names,Sl.av St.av 8 s.body]:=by
 cases s;simp only[Cs.av,St.avs_map,Cs.avs_map];rfl
instance:Inhabited Cs:=⟨.mk default default default default (some true) 0 []⟩
theorem St.ind {P0:St→Prop} {P1:Cs→Prop} (h0:∀s:St,(∀x∈s.body.l,P0 x)→(∀x∈s.els.l,P0 x)→(∀x∈s.cs.l,P1 x)→P0 s) (h1:∀s:Cs,(∀x∈s.body.l,P0 x)→P1 s):(∀s,P0 s)∧(∀s,P1 s):=by
 exact⟨fun s=>St.rec (motive_1:=P0) (motive_2:=P1) (motive_3:=fun l=>∀x∈l,P0 x) (motive_4:=fun l=>∀x∈l,P1 x) (fun kind op name names exprs bodyN bodyZ bodyL elsN elsZ elsL csN csZ csL zc3 elsI csI=>h0 _ zc3 elsI csI) (fun kind name expr names bodyN bodyZ bodyL zc3=>h1 _ zc3) (fun _ h=>nomatch h) (fun a r ha hr x hx=>by cases hx with|head=>exact ha|tail _ h=>exact hr x h) (fun _ h=>nomatch h) (fun a r ha hr x hx=>by cases hx with|head=>exact ha|tail _ h=>exact hr x h) s,fun s=>Cs.rec (motive_1:=P0) (motive_2:=P1) (motive_3:=fun l=>∀x∈l,P0 x) (motive_4:=fun l=>∀x∈l,P1 x) (fun kind op name names exprs bodyN bodyZ bodyL elsN elsZ elsL csN csZ csL zc3 elsI csI=>h0 _ zc3 elsI csI) (fun kind name expr names bodyN bodyZ bodyL zc3=>h1 _ zc3) (fun _ h=>nomatch h) (fun a r ha hr x hx=>by cases hx with|head=>exact ha|tail _ h=>exact hr x h) (fun _ h=>nomatch h) (fun a r ha hr x hx=>by cases hx with|head=>exact ha|tail _ h=>exact hr x h) s⟩
section
variable {s t:St} {H:Heap} {es:List AV} {k:Nat}
@[simp] theorem St_okO:okO s.av=some s.av:=by simp only[St.av_eq]<;>rfl
@[simp] theorem St_flat:s.av.flat=true:=by simp only[St.av_eq]<;>rfl
@[simp] theorem St_len:s.av.cells.length=8:=by simp only[St.av_eq]<;>rfl
@[simp] theorem St_cell:s.av.cells.all AV.cell=true:=by simp only[St.av_eq]<;>rfl
@[simp] theorem St_whole:zk true 8 s.av.cells=s.av:=by simp only[St.av_eq]<;>rfl
@[simp] theorem St_fold:AV.agg s.av.cells=s.av:=by simp only[St.av_eq]<;>rfl
@[simp] theorem St_ld_kind:zk false 1 s.av.cells=I s.kind:=by simp only[St.av_eq]<;>rfl
@[simp] theorem St_ld_op:zk false 1 s.av.cells.tail=I s.op:=by simp only[St.av_eq]<;>rfl
@[simp] theorem St_ld_name:zk false 1 (s.av.cells.drop 2)= .str s.name:=by simp only[St.av_eq]<;>rfl
@[simp] theorem St_ld_names:zk false 1 (s.av.cells.drop 3)=Sl.av AV.str 1 s.names:=by simp only[St.av_eq]<;>rfl
@[simp] theorem St_ld_exprs:zk false 1 (s.av.cells.drop 4)=Sl.av Ex.av 5 s.exprs:=by simp only[St.av_eq]<;>rfl
@[simp] theorem St_ld_body:zk false 1 (s.av.cells.drop 5)=Sl.av St.av 8 s.body:=by simp only[St.av_eq]<;>rfl
@[simp] theorem St_ld_els:zk false 1 (s.av.cells.drop 6)=Sl.av St.av 8 s.els:=by simp only[St.av_eq]<;>rfl
@[simp] theorem St_ld_cs:zk false 1 (s.av.cells.drop 7)=Sl.av Cs.av 9 s.cs:=by simp only[St.av_eq]<;>rfl
end
section
variable {s t:Cs} {H:Heap} {es:List AV} {k:Nat}
@[simp] theorem Cs_okO:okO s.av=some s.av:=by simp only[Cs.av_eq,Ex.av_eq]<;>rfl
@[simp] theorem Cs_flat:s.av.flat=true:=by simp only[Cs.av_eq,Ex.av_eq]<;>rfl
@[simp] theorem Cs_len:s.av.cells.length=9:=by simp only[Cs.av_eq,Ex.av_eq]<;>rfl
@[simp] theorem Cs_cell:s.av.cells.all AV.cell=true:=by simp only[Cs.av_eq,Ex.av_eq]<;>rfl
@[simp] theorem Cs_whole:zk true 9 s.av.cells=s.av:=by simp only[Cs.av_eq,Ex.av_eq]<;>rfl
@[simp] theorem Cs_fold:AV.agg s.av.cells=s.av:=by simp only[Cs.av_eq,Ex.av_eq]<;>rfl
@[simp] theorem Cs_ld_kind:zk false 1 s.av.cells=I s.kind:=by simp only[Cs.av_eq,Ex.av_eq]<;>rfl
@[simp] theorem Cs_ld_name:zk false 1 s.av.cells.tail= .str s.name:=by simp only[Cs.av_eq,Ex.av_eq]<;>rfl
@[simp] theorem Cs_ld_expr:zk true 5 (s.av.cells.drop 2)=s.expr.av:=by simp only[Cs.av_eq,Ex.av_eq]<;>rfl
@[simp] theorem Cs_ld_names:zk false 1 (s.av.cells.drop 7)=Sl.av AV.str 1 s.names:=by simp only[Cs.av_eq,Ex.av_eq]<;>rfl
@[simp] theorem Cs_ld_body:zk false 1 (s.av.cells.drop 8)=Sl.av St.av 8 s.body:=by simp only[Cs.av_eq,Ex.av_eq]<;>rfl
end
structure Pr where
 kind:Int
 name:(List UInt8)
 params:(Sl (List UInt8))
 priority:Int
 body:(Sl St)
 deriving Inhabited
def Pr.av (s:Pr):AV:= .agg [I s.kind,.str s.name,Sl.av AV.str 1 s.params,I s.priority,Sl.av St.av 8 s.body]
section
variable {s t:Pr} {H:Heap} {es:List AV} {k:Nat}
@[simp] theorem Pr_okO:okO s.av=some s.av:=rfl
@[simp] theorem Pr_ok:s.av.ok=true:=rfl
@[simp] theorem Pr_flat:s.av.flat=true:=rfl
@[simp] theorem Pr_len:s.av.cells.length=5:=rfl
@[simp] theorem Pr_cell:s.av.cells.all AV.cell=true:=rfl
@[simp] theorem zm8:s.av.cells.all AV.still=true:=rfl
@[simp] theorem Pr_still2:(∀x,x∈s.av.cells→AV.still x=true)↔True:=by simp only[iff_true];exact List.all_eq_true.1 zm8
@[simp] theorem Pr_frz (n:Nat):frz H (n+2) s.av=some s.av:=rfl
@[simp] theorem Pr_frz0 (n:Nat):frzs (frz H (n+1)) s.av.cells=some s.av.cells:=rfl
@[simp] theorem Pr_whole:zk true 5 s.av.cells=s.av:=rfl
@[simp] theorem Pr_fold:AV.agg s.av.cells=s.av:=rfl
theorem Pr_mk (kind:Int) (name:(List UInt8)) (params:(Sl (List UInt8))) (priority:Int) (body:(Sl St)):(.agg [I kind,.str name,Sl.av AV.str 1 params,I priority,Sl.av St.av 8 body]:AV)=(Pr.mk kind name params priority body).av:=rfl
@[simp] theorem Pr_ld_kind:zk false 1 s.av.cells=I s.kind:=rfl
@[simp] theorem Pr_fv_kind:zaE false 1 0 s.av=I s.kind:=rfl
@[simp] theorem Pr_st_kind (x:Int):zo [s.av] 0 0 (I x)=some [({s with kind:=x}:Pr).av]:=rfl
@[simp] theorem Pr_ld_name:zk false 1 s.av.cells.tail= .str s.name:=rfl
@[simp] theorem Pr_fv_name:zaE false 1 1 s.av= .str s.name:=rfl
@[simp] theorem Pr_st_name (x:(List UInt8)):zo [s.av] 0 1 (.str x)=some [({s with name:=x}:Pr).av]:=rfl
@[simp] theorem Pr_ld_params:zk false 1 (s.av.cells.drop 2)=Sl.av AV.str 1 s.params:=rfl
@[simp] theorem Pr_fv_params:zaE false 1 2 s.av=Sl.av AV.str 1 s.params:=rfl
@[simp] theorem Pr_st_params (x:(Sl (List UInt8))):zo [s.av] 0 2 (Sl.av AV.str 1 x)=some [({s with params:=x}:Pr).av]:=rfl
@[simp] theorem Pr_ld_priority:zk false 1 (s.av.cells.drop 3)=I s.priority:=rfl
@[simp] theorem Pr_fv_priority:zaE false 1 3 s.av=I s.priority:=rfl
@[simp] theorem Pr_st_priority (x:Int):zo [s.av] 0 3 (I x)=some [({s with priority:=x}:Pr).av]:=rfl
@[simp] theorem Pr_ld_body:zk false 1 (s.av.cells.drop 4)=Sl.av St.av 8 s.body:=rfl
@[simp] theorem Pr_fv_body:zaE false 1 4 s.av=Sl.av St.av 8 s.body:=rfl
@[simp] theorem Pr_st_body (x:(Sl St)):zo [s.av] 0 4 (Sl.av St.av 8 x)=some [({s with body:=x}:Pr).av]:=rfl
@[simp] theorem Pr_st_all (x:Pr):zo [s.av] 0 0 x.av=some [x.av]:=rfl
@[simp] theorem Pr_st_new (x:Pr):zo [.agg [.int .i64 0,.str [],.isl (some true) 0 [],.int .i64 0,.isl (some true) 0 []]] 0 0 x.av=some [x.av]:=rfl
end
structure So where
 decls:(Sl Dc)
 procs:(Sl Pr)
 deriving Inhabited
def So.av (s:So):AV:= .agg [Sl.av Dc.av 5 s.decls,Sl.av Pr.av 5 s.procs]
section
variable {s t:So} {H:Heap} {es:List AV} {k:Nat}
@[simp] theorem So_okO:okO s.av=some s.av:=rfl
@[simp] theorem So_ok:s.av.ok=true:=rfl
@[simp] theorem So_flat:s.av.flat=true:=rfl
@[simp] theorem So_len:s.av.cells.length=2:=rfl
@[simp] theorem So_cell:s.av.cells.all AV.cell=true:=rfl
@[simp] theorem So_still:s.av.cells.all AV.still=true:=rfl
@[simp] theorem So_frz (n:Nat):frz H (n+2) s.av=some s.av:=rfl
@[simp] theorem So_frz0 (n:Nat):frzs (frz H (n+1)) s.av.cells=some s.av.cells:=rfl
@[simp] theorem So_whole:zk true 2 s.av.cells=s.av:=rfl
@[simp] theorem So_fold:AV.agg s.av.cells=s.av:=rfl
theorem So_mk (decls:(Sl Dc)) (procs:(Sl Pr)):(.agg [Sl.av Dc.av 5 decls,Sl.av Pr.av 5 procs]:AV)=(So.mk decls procs).av:=rfl
@[simp] theorem So_ld_decls:zk false 1 s.av.cells=Sl.av Dc.av 5 s.decls:=rfl
@[simp] theorem So_fv_decls:zaE false 1 0 s.av=Sl.av Dc.av 5 s.decls:=rfl
@[simp] theorem So_st_decls (x:(Sl Dc)):zo [s.av] 0 0 (Sl.av Dc.av 5 x)=some [({s with decls:=x}:So).av]:=rfl
@[simp] theorem So_ld_procs:zk false 1 s.av.cells.tail=Sl.av Pr.av 5 s.procs:=rfl
@[simp] theorem So_fv_procs:zaE false 1 1 s.av=Sl.av Pr.av 5 s.procs:=rfl
@[simp] theorem So_st_procs (x:(Sl Pr)):zo [s.av] 0 1 (Sl.av Pr.av 5 x)=some [({s with procs:=x}:So).av]:=rfl
@[simp] theorem So_st_all (x:So):zo [s.av] 0 0 x.av=some [x.av]:=rfl
@[simp] theorem So_st_new (x:So):zo [.agg [.isl (some true) 0 [],.isl (some true) 0 []]] 0 0 x.av=some [x.av]:=rfl
end
end Go.Proofs.YtgamobngbenehaaGreatDoor
