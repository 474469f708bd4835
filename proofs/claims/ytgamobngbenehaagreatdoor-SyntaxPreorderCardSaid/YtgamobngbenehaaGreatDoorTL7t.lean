/-
  The statement SyntaxPreorder, as a card.
-/
import Derived.Test.YtgamobngbenehaaGreatDoorTBt
import Derived.Test.YtgamobngbenehaaGreatDoorBEt
import Derived.Test.YtgamobngbenehaaGreatDoorBDt
namespace Go.Proofs.YtgamobngbenehaaGreatDoor.syntaxPreorder
open Go Go.ChangeShapes Go.WideShapes Go.ChangeAt Go.RowKit
set_option linter.unusedVariables false
set_option maxRecDepth 100000
theorem law:∀l,PShs [(true,soSh)] l→(om Φ).pure 7 l=some (.bool true):=by
  intro l h
  cases h with
  |cons h0 h=>
    cases h with
    |nil=>
      obtain⟨b0,rfl,hw0⟩:=zuX h0
      exact law7 b0 hw0
theorem shapes:shPs Tryz.prog Tryz.f7.params.toList=some [(true,soSh)]:=by kernel_rfl
theorem readable:Tryz.f7.params.toList.all (fun t=>Tryz.prog.readableRec t&&decide (t<Tryz.prog.types.size))=true:=by kernel_rfl
theorem lifted (os:Os) (started:os.Started) (H:Type) (enc:TypeId×Value→H):
    ReturnsInHanded {} Tryz.checked os 7 .any (fun w args=>(Rows.syntaxPreorderSpec.pre enc Tryz.prog Tryz.f7 [] false w args∧laidMetH Tryz.prog znm w)∧sizedMet enc Tryz.prog Tryz.f7 (OpenSpec.ofChange Rows.syntaxPreorderSpec) false w args) (Rows.syntaxPreorderSpec.post enc Tryz.prog Tryz.f7 false true false false):=by
  refine zkt (C:=Tryz.checked) (X:=fun w _=>laidMetH Tryz.prog znm w) (fun _ _ _ hh h=>h.of_heap hh) own started (by kernel_rfl) Tryz.func7
    (ChangeSpec.witness_shaped (enc:=enc) (C:=Tryz.checked) (os:=os) (X:=fun w _=>laidMetH Tryz.prog znm w) false (World.doorLaid Tryz.prog 400 os) #[.agg #[.slice none 0 0,.slice none 0 0]] 8 rfl (World.shaped_of_RefB (by kernel_rfl) (by kernel_rfl)) (by kernel_rfl) (by kernel_rfl) (by kernel_rfl) (zn4 os _)) ?_
  intro W base args ds gs before hval hW hsh
  refine zgm zpN mixed Φ_ok zw8 zuv zs8 (zo7 hsh) shapes readable (by kernel_rfl) Tryz.underlying4 rfl ?_ law hval hW
  intro H ds h
  match ds,h with
  | [d0],_=>rfl
theorem joined:joinedFacts Tryz.pinned.checked.prog 7 Tryz.f7 Rows.syntaxPreorderSpec Rows.syntaxPreorderRow=true:=by kernel_rfl
theorem known:Tryz.pinned.checked.prog.funcNamed Rows.syntaxPreorderRow.func=some 7:=by kernel_rfl
theorem inst:Tryz.f7.isInstance Tryz.pinned.checked.prog Rows.syntaxPreorderRow.origin Rows.syntaxPreorderRow.targs:=of_decide_eq_true (by kernel_rfl)
theorem wrap:Tryz.f7.isWrapper Tryz.pinned.checked.prog Rows.syntaxPreorderRow.wrapper Rows.syntaxPreorderRow.mainSum:=by unfold Func.isWrapper;first|(rw[if_pos (by decide+kernel)];kernel_rfl)|(rw[if_neg (by decide+kernel)];exact⟨rfl,rfl⟩)
theorem said:Rows.SyntaxPreorderSaid:=
  OpenClaim.holds_of_wide 7 Tryz.f7 rfl rfl rfl rfl rfl rfl rfl ⟨rfl,rfl,rfl,rfl,rfl⟩ rfl rfl rfl rfl rfl known Tryz.func7 joined inst wrap
    (fun os started H enc _=>lifted os started H enc)
theorem wellText:Rows.syntaxPreorderRow.wfByText (OpenSpec.ofChange Rows.syntaxPreorderSpec)=true:=by kernel_rfl
theorem mainAt:Tryz.pinned.checked.prog.mainIs=some (true,"4a9494ea72e6ef8835e56fa3be8e8b868a225100318f948dd2540400ad8069e7".toList):=by kernel_rfl
theorem looked:true=Tryz.pinned.checked.prog.looks []:=by kernel_rfl
theorem goes:false=Rows.syntaxPreorderRow.goesBy Tryz.pinned.checked.prog:=by kernel_rfl
theorem wanted:([26].all fun u=> !Tryz.prog.wantsStandIn u)=true:=by kernel_rfl
theorem proved:Rows.SyntaxPreorderCardSaid:=
  Claim7.holds_tied_plain_at .later [] [.data,.data,.data] true (true,"4a9494ea72e6ef8835e56fa3be8e8b868a225100318f948dd2540400ad8069e7") true
    said (fun _ h=>by cases h) wellText (fun _ h=>by cases h) syntaxPreorder_row_tie rfl ⟨rfl,rfl⟩ mainAt rfl
    (fun f fn hf hfn=>by
      obtain rfl:f=7:=Option.some.inj (known.symm.trans hf)|>.symm
      obtain rfl:fn=Tryz.f7:=(Option.some.inj (Tryz.func7.symm.trans hfn)).symm
      exact⟨looked,fun j t ht=>by
        rw[Tryz.params7]at ht
        have hm:t∈[26]:=by simpa using Array.mem_of_getElem? ht
        exact (show Tryz.prog.wantsStandIn t=false by simpa using List.all_eq_true.1 wanted t hm)⟩)
    goes
#print axioms proved
end Go.Proofs.YtgamobngbenehaaGreatDoor.syntaxPreorder
