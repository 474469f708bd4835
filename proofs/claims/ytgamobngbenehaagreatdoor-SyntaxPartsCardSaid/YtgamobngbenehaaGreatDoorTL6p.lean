/-
  The statement SyntaxParts, as a card.
-/
import Derived.Test.YtgamobngbenehaaGreatDoorTBp
import Derived.Test.YtgamobngbenehaaGreatDoorBEp
import Derived.Test.YtgamobngbenehaaGreatDoorH7p
namespace Go.Proofs.YtgamobngbenehaaGreatDoor.syntaxParts
open Go Go.ChangeShapes Go.WideShapes Go.ChangeAt Go.RowKit
set_option linter.unusedVariables false
set_option maxRecDepth 100000
theorem law:∀l,PShs [(true,soSh)] l→(om Φ).pure 6 l=some (.bool true):=by
  intro l h
  cases h with
  |cons h0 h=>
    cases h with
    |nil=>
      obtain⟨b0,rfl,hw0⟩:=zq9 h0
      exact law6 b0 hw0
theorem shapes:shPs Tryz.prog Tryz.f6.params.toList=some [(true,soSh)]:=by kernel_rfl
theorem readable:Tryz.f6.params.toList.all (fun t=>Tryz.prog.readableRec t&&decide (t<Tryz.prog.types.size))=true:=by kernel_rfl
theorem lifted (os:Os) (started:os.Started) (H:Type) (enc:TypeId×Value→H):
    ReturnsInHanded {} Tryz.checked os 6 .any (fun w args=>(Rows.syntaxPartsSpec.pre enc Tryz.prog Tryz.f6 [] false w args∧laidMetH Tryz.prog zj8 w)∧sizedMet enc Tryz.prog Tryz.f6 (OpenSpec.ofChange Rows.syntaxPartsSpec) false w args) (Rows.syntaxPartsSpec.post enc Tryz.prog Tryz.f6 false true false false):=by
  refine zj7 (C:=Tryz.checked) (X:=fun w _=>laidMetH Tryz.prog zj8 w) (fun _ _ _ hh h=>h.of_heap hh) own started (by kernel_rfl) Tryz.func6
    (ChangeSpec.witness_shaped (enc:=enc) (C:=Tryz.checked) (os:=os) (X:=fun w _=>laidMetH Tryz.prog zj8 w) false (World.doorLaid Tryz.prog 400 os) #[.agg #[.slice none 0 0,.slice none 0 0]] 8 rfl (World.shaped_of_RefB (by kernel_rfl) (by kernel_rfl)) (by kernel_rfl) (by kernel_rfl) (by kernel_rfl) (zmR os _)) ?_
  intro W base args ds gs before hval hW hsh hx
  refine zgi zoc mixed Φ_ok zsY zqH zpP (znI hsh hx) shapes readable (by kernel_rfl) Tryz.underlying4 rfl ?_ law hval hW
  intro H ds h
  match ds,h with
  | [d0],_=>rfl
theorem joined:joinedFacts Tryz.pinned.checked.prog 6 Tryz.f6 Rows.syntaxPartsSpec Rows.syntaxPartsRow=true:=by kernel_rfl
theorem known:Tryz.pinned.checked.prog.funcNamed Rows.syntaxPartsRow.func=some 6:=by kernel_rfl
theorem inst:Tryz.f6.isInstance Tryz.pinned.checked.prog Rows.syntaxPartsRow.origin Rows.syntaxPartsRow.targs:=of_decide_eq_true (by kernel_rfl)
theorem wrap:Tryz.f6.isWrapper Tryz.pinned.checked.prog Rows.syntaxPartsRow.wrapper Rows.syntaxPartsRow.mainSum:=by unfold Func.isWrapper;first|(rw[if_pos (by decide+kernel)];kernel_rfl)|(rw[if_neg (by decide+kernel)];exact⟨rfl,rfl⟩)
theorem said:Rows.SyntaxPartsSaid:=
  OpenClaim.holds_of_wide 6 Tryz.f6 rfl rfl rfl rfl rfl rfl rfl ⟨rfl,rfl,rfl,rfl,rfl⟩ rfl rfl rfl rfl rfl known Tryz.func6 joined inst wrap
    (fun os started H enc _=>lifted os started H enc)
theorem wellText:Rows.syntaxPartsRow.wfByText (OpenSpec.ofChange Rows.syntaxPartsSpec)=true:=by kernel_rfl
theorem mainAt:Tryz.pinned.checked.prog.mainIs=some (true,"4a9494ea72e6ef8835e56fa3be8e8b868a225100318f948dd2540400ad8069e7".toList):=by kernel_rfl
theorem looked:true=Tryz.pinned.checked.prog.looks []:=by kernel_rfl
theorem goes:false=Rows.syntaxPartsRow.goesBy Tryz.pinned.checked.prog:=by kernel_rfl
theorem wanted:([26].all fun u=> !Tryz.prog.wantsStandIn u)=true:=by kernel_rfl
theorem proved:Rows.SyntaxPartsCardSaid:=
  Claim7.holds_tied_plain_at .later [] [.data,.data,.data] true (true,"4a9494ea72e6ef8835e56fa3be8e8b868a225100318f948dd2540400ad8069e7") true
    said (fun _ h=>by cases h) wellText (fun _ h=>by cases h) syntaxParts_row_tie rfl ⟨rfl,rfl⟩ mainAt rfl
    (fun f fn hf hfn=>by
      obtain rfl:f=6:=Option.some.inj (known.symm.trans hf)|>.symm
      obtain rfl:fn=Tryz.f6:=(Option.some.inj (Tryz.func6.symm.trans hfn)).symm
      exact⟨looked,fun j t ht=>by
        rw[Tryz.params6]at ht
        have hm:t∈[26]:=by simpa using Array.mem_of_getElem? ht
        exact (show Tryz.prog.wantsStandIn t=false by simpa using List.all_eq_true.1 wanted t hm)⟩)
    goes
#print axioms proved
end Go.Proofs.YtgamobngbenehaaGreatDoor.syntaxParts
