/-
  slices.Collect of the statements, and syntax.Statements (conditions: none).
-/
import Derived.Test.YtgamobngbenehaaGreatDoorBBp
namespace Go.Proofs.YtgamobngbenehaaGreatDoor
open Go Go.RowKit
set_option linter.unusedVariables false
set_option linter.unusedSimpArgs false
set_option maxRecDepth 10000
def OwnT (H:Heap) (v:AV) (l:List St) (n:Nat):Prop:=
 (v= .isl (some true) 0 []∧l=[])∨∃id ver,n≤id∧v= .osl id ver 0 l.length∧l≠[]∧H[id]?=some (.arr ver 8 false (l.map St.av))
theorem OwnT.okO {H:Heap} {v:AV} {l:List St} {n:Nat} (h:OwnT H v l n):okO v=some v:=by
 rcases h with⟨rfl,_⟩|⟨id,ver,_,rfl,_⟩<;>rfl
theorem OwnT.cells {H:Heap} {v:AV} {l:List St} {n:Nat} (h:OwnT H v l n):v.cells=[v]:=by
 rcases h with⟨rfl,_⟩|⟨id,ver,_,rfl,_⟩<;>rfl
theorem OwnT.len {H:Heap} {v:AV} {l:List St} {n:Nat} (h:OwnT H v l n):lenV false v=I l.length:=by
 rcases h with⟨rfl,rfl⟩|⟨id,ver,_,rfl,_⟩<;>rfl
theorem OwnT.kept {H H':Heap} {v:AV} {l:List St} {n:Nat} (h:OwnT H v l n) (hk:∀(j:Nat) (B:Blk),n≤j→H[j]?=some B→H'[j]?=some B):OwnT H' v l n:=by
 rcases h with⟨rfl,h2⟩|⟨id,ver,h1,h2,h3,h4⟩
 .exact .inl ⟨rfl,h2⟩
 .exact .inr ⟨id,ver,h1,h2,h3,hk _ _ h1 h4⟩
def stZ:St:=St.of 0 0 [] zaV zaV zaV zaV zaV
theorem OwnT.push {H:Heap} {v:AV} {l:List St} {n:Nat} (h:OwnT H v l n) (hn:n≤H.length) (hr:l.length<zE):
  ∃id ver H',ex H (.app 8) [v,.isl (some false) 8 [stZ.av]]=some (.osl id ver 0 (l.length+1),H')∧n≤id∧H'[id]?=some (.arr ver 8 false ((l++[stZ]).map St.av))∧H.length≤H'.length∧
   (∀j,j≠id→j<H.length→H'[j]?=H[j]?)∧((v= .isl (some true) 0 []∧id=H.length)∨∃ver len,v= .osl id ver 0 len):=by
 have e0:ex H (.app 8) [v,.isl (some false) 8 [stZ.av]]=zby (truncH H v) 8 v [stZ.av]:=by simp[ex]
 rw[e0]
 rcases h with⟨rfl,rfl⟩|⟨id,ver,h1,rfl,h3,h4⟩
 .refine⟨H.length,0,H++[.arr 0 8 false [stZ.av]],?_,hn,by simp,by simp,fun j _ hj=>by rw[gEa (by omega)],.inl ⟨rfl,rfl⟩⟩
  simp[zby,truncH,zE]
 .have hid:=(gEs.1 h4).1
  have ht:truncH H (.osl id ver 0 l.length)=H:=by simp[truncH,h4]
  rw[ht]
  refine⟨id,ver+1,H.set id (.arr (ver+1) 8 false (l.map St.av++[stZ.av])),?_,h1,?_,by simp,fun j hj _=>by rw[gEn (by omega)],.inr ⟨_,_,rfl⟩⟩
  .simp only[zby,h4]
   rw[if_pos (by simp),if_pos (by simp;omega)]
   simp
  .rw[gEt hid];simp
end Go.Proofs.YtgamobngbenehaaGreatDoor
