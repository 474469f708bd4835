/-
  The statement SyntaxEqual, as a card.
-/
import Derived.Test.YtgamobngbenehaaGreatDoorTBs
import Derived.Test.YtgamobngbenehaaGreatDoorBEs
import Derived.Test.YtgamobngbenehaaGreatDoorBDs
namespace Go.Proofs.YtgamobngbenehaaGreatDoor.syntaxEqual
open Go Go.ChangeShapes Go.WideShapes Go.ChangeAt Go.RowKit
set_option linter.unusedVariables false
set_option maxRecDepth 100000
theorem law:∀l,PShs [(true,soSh),(true,soSh)] l→(om Φ).pure 8 l=some (.bool true):=by
  intro l h
  cases h with
  |cons h0 h=>
    cases h with
    |cons h1 h=>
      cases h with
      |nil=>
        obtain⟨b0,rfl,hw0⟩:=zo3 h0
        obtain⟨b1,rfl,hw1⟩:=zo3 h1
        exact law8 b0 hw0 b1 hw1
theorem shapes:shPs Tryz.prog Tryz.f8.params.toList=some [(true,soSh),(true,soSh)]:=by kernel_rfl
theorem readable:Tryz.f8.params.toList.all (fun t=>Tryz.prog.readableRec t&&decide (t<Tryz.prog.types.size))=true:=by kernel_rfl
theorem lifted (os:Os) (started:os.Started) (H:Type) (enc:TypeId×Value→H):
    ReturnsInHanded {} Tryz.checked os 8 .any (fun w args=>(Rows.syntaxEqualSpec.pre enc Tryz.prog Tryz.f8 [] false w args∧laidMetH Tryz.prog znm w)∧sizedMet enc Tryz.prog Tryz.f8 (OpenSpec.ofChange Rows.syntaxEqualSpec) false w args) (Rows.syntaxEqualSpec.post enc Tryz.prog Tryz.f8 false true false false):=by
  refine zkw (C:=Tryz.checked) (X:=fun w _=>laidMetH Tryz.prog znm w) (fun _ _ _ hh h=>h.of_heap hh) own started (by kernel_rfl) Tryz.func8
    (ChangeSpec.witness_shaped (enc:=enc) (C:=Tryz.checked) (os:=os) (X:=fun w _=>laidMetH Tryz.prog znm w) false (World.doorLaid Tryz.prog 400 os) #[.agg #[.slice none 0 0,.slice none 0 0],.agg #[.slice none 0 0,.slice none 0 0]] 8 rfl (World.shaped_of_RefB (by kernel_rfl) (by kernel_rfl)) (by kernel_rfl) (by kernel_rfl) (by kernel_rfl) (zn5 os _)) ?_
  intro W base args ds gs before hval hW hsh
  refine zgm zpG mixed Φ_ok zw8 zuo zs2 (zo6 hsh) shapes readable (by kernel_rfl) Tryz.underlying4 rfl ?_ law hval hW
  intro H ds h
  match ds,h with
  | [d0,d1],_=>rfl
theorem joined:joinedFacts Tryz.pinned.checked.prog 8 Tryz.f8 Rows.syntaxEqualSpec Rows.syntaxEqualRow=true:=by kernel_rfl
theorem known:Tryz.pinned.checked.prog.funcNamed Rows.syntaxEqualRow.func=some 8:=by kernel_rfl
theorem inst:Tryz.f8.isInstance Tryz.pinned.checked.prog Rows.syntaxEqualRow.origin Rows.syntaxEqualRow.targs:=of_decide_eq_true (by kernel_rfl)
theorem wrap:Tryz.f8.isWrapper Tryz.pinned.checked.prog Rows.syntaxEqualRow.wrapper Rows.syntaxEqualRow.mainSum:=by unfold Func.isWrapper;first|(rw[if_pos (by decide+kernel)];kernel_rfl)|(rw[if_neg (by decide+kernel)];exact⟨rfl,rfl⟩)
theorem said:Rows.SyntaxEqualSaid:=
  OpenClaim.holds_of_wide 8 Tryz.f8 rfl rfl rfl rfl rfl rfl rfl ⟨rfl,rfl,rfl,rfl,rfl⟩ rfl rfl rfl rfl rfl known Tryz.func8 joined inst wrap
    (fun os started H enc _=>lifted os started H enc)
theorem wellText:Rows.syntaxEqualRow.wfByText (OpenSpec.ofChange Rows.syntaxEqualSpec)=true:=by kernel_rfl
theorem mainAt:Tryz.pinned.checked.prog.mainIs=some (true,"4a9494ea72e6ef8835e56fa3be8e8b868a225100318f948dd2540400ad8069e7".toList):=by kernel_rfl
theorem looked:true=Tryz.pinned.checked.prog.looks []:=by kernel_rfl
theorem goes:false=Rows.syntaxEqualRow.goesBy Tryz.pinned.checked.prog:=by kernel_rfl
theorem wanted:([26,26].all fun u=> !Tryz.prog.wantsStandIn u)=true:=by kernel_rfl
theorem proved:Rows.SyntaxEqualCardSaid:=
  Claim7.holds_tied_plain_at .later [] [.data,.data,.data] true (true,"4a9494ea72e6ef8835e56fa3be8e8b868a225100318f948dd2540400ad8069e7") true
    said (fun _ h=>by cases h) wellText (fun _ h=>by cases h) syntaxEqual_row_tie rfl ⟨rfl,rfl⟩ mainAt rfl
    (fun f fn hf hfn=>by
      obtain rfl:f=8:=Option.some.inj (known.symm.trans hf)|>.symm
      obtain rfl:fn=Tryz.f8:=(Option.some.inj (Tryz.func8.symm.trans hfn)).symm
      exact⟨looked,fun j t ht=>by
        rw[Tryz.params8]at ht
        have hm:t∈[26,26]:=by simpa using Array.mem_of_getElem? ht
        exact (show Tryz.prog.wantsStandIn t=false by simpa using List.all_eq_true.1 wanted t hm)⟩)
    goes
#print axioms proved
end Go.Proofs.YtgamobngbenehaaGreatDoor.syntaxEqual
