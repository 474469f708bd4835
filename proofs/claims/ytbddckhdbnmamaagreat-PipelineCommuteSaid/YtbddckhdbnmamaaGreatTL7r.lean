/-
  The statement PipelineCommute.
-/
import Derived.Test.YtbddckhdbnmamaaGreatTBr
import Derived.Test.YtbddckhdbnmamaaGreatXCr
namespace Go.Proofs.YtbddckhdbnmamaaGreat.pipelineCommute
open Go Go.ChangeShapes Go.WideShapes Go.ChangeAt Go.RowKit
set_option linter.unusedVariables false
theorem law:∀l,PShs [(true,plSh),(true,fsSh),(false,[.int .u8]),(false,[.int .u8])] l→(om Φ).pure 7 l=some (.bool true):=by
  intro l h
  cases h with
  |cons h0 h=>
    cases h with
    |cons h1 h=>
      cases h with
      |cons h2 h=>
        cases h with
        |cons h3 h=>
          cases h with
          |nil=>
            obtain⟨x,rfl⟩:=zvW h0
            obtain⟨s,rfl,hs⟩:=zvX h1
            obtain⟨a,rfl,ha⟩:=zbQ (zmL h2)
            obtain⟨b,rfl,hb⟩:=zbQ (zmL h3)
            have ha:0≤a∧a≤255:=by simp only[Lit.wf,Bool.and_eq_true,decide_eq_true_eq,show IntKind.min .u8=0 from rfl,show IntKind.max .u8=255 from rfl]at ha;exact ha
            have hb:0≤b∧b≤255:=by simp only[Lit.wf,Bool.and_eq_true,decide_eq_true_eq,show IntKind.min .u8=0 from rfl,show IntKind.max .u8=255 from rfl]at hb;exact hb
            exact law7 x s hs.w a b ha hb
theorem shapes:shPs Tryz.prog Tryz.f7.params.toList=some [(true,plSh),(true,fsSh),(false,[.int .u8]),(false,[.int .u8])]:=by kernel_rfl
theorem readable:Tryz.f7.params.toList.all (fun t=>Tryz.prog.readableRec t&&decide (t<Tryz.prog.types.size))=true:=by kernel_rfl
set_option maxRecDepth 100000 in
theorem lifted (os:Os) (started:os.Started) (H:Type) (enc:TypeId×Value→H):
    ReturnsInHanded {} Tryz.checked os 7 .any (Rows.pipelineCommuteSpec.pre6 enc Tryz.prog Tryz.f7 Rows.pipelineCommuteRow.domain false) (Rows.pipelineCommuteSpec.post enc Tryz.prog Tryz.f7 false true false false):=by
  refine returnsInHanded_of_change (C:=Tryz.checked) own started (by kernel_rfl) Tryz.func7
    (ChangeSpec.witness6 (enc:=enc) (C:=Tryz.checked) false ⟨#[],#[.agg #[.slice none 0 0,.slice none 0 0],.agg #[.slice none 0 0,.slice none 0 0,.slice none 0 0,.bool false],.int .u8 0,.int .u8 0],[]⟩ 8 (by kernel_rfl) (by kernel_rfl) (by kernel_rfl) (by kernel_rfl)) ?_
  intro W base args ds gs before hval hW _ _
  refine zh4 zsS mixed Φ_ok zyC zvs zuH (zse _) shapes readable (by kernel_rfl) Tryz.underlying4 rfl ?_ law hval hW
  intro H ds h
  match ds,h with
  | [d0,d1,d2,d3],_=>rfl
theorem proved:Rows.PipelineCommuteSaid:=
  OpenClaim.holds_of_wide 7 Tryz.f7 rfl rfl rfl rfl rfl rfl rfl ⟨rfl,rfl,rfl,rfl,rfl⟩ rfl rfl rfl rfl rfl (by kernel_rfl) Tryz.func7 (by kernel_rfl)
    (of_decide_eq_true (by kernel_rfl)) (by unfold Func.isWrapper;first|(rw[if_pos (by decide+kernel)];kernel_rfl)|(rw[if_neg (by decide+kernel)];exact⟨rfl,rfl⟩))
    (fun os started H enc _=>lifted os started H enc)
end Go.Proofs.YtbddckhdbnmamaaGreat.pipelineCommute
