/-
  The statement PipelineStep.
-/
import Derived.Test.YtbddckhdbnmamaaGreatTBs
import Derived.Test.YtbddckhdbnmamaaGreatXCs
namespace Go.Proofs.YtbddckhdbnmamaaGreat.pipelineStep
open Go Go.ChangeShapes Go.WideShapes Go.ChangeAt Go.RowKit
set_option linter.unusedVariables false
theorem law:∀l,PShs [(true,plSh),(true,fsSh),(false,[.int .i64])] l→(om Φ).pure 3 l=some (.bool true):=by
  intro l h
  cases h with
  |cons h0 h=>
    cases h with
    |cons h1 h=>
      cases h with
      |cons h2 h=>
        cases h with
        |nil=>
          obtain⟨x,rfl⟩:=zx1 h0
          obtain⟨s,rfl,hs⟩:=zx2 h1
          obtain⟨n,rfl,hn⟩:=zco (ztX h2)
          exact law3 x s hs.w n
theorem shapes:shPs Tryz.prog Tryz.f3.params.toList=some [(true,plSh),(true,fsSh),(false,[.int .i64])]:=by kernel_rfl
theorem readable:Tryz.f3.params.toList.all (fun t=>Tryz.prog.readableRec t&&decide (t<Tryz.prog.types.size))=true:=by kernel_rfl
set_option maxRecDepth 100000 in
theorem lifted (os:Os) (started:os.Started) (H:Type) (enc:TypeId×Value→H):
    ReturnsInHanded {} Tryz.checked os 3 .any (Rows.pipelineStepSpec.pre6 enc Tryz.prog Tryz.f3 Rows.pipelineStepRow.domain false) (Rows.pipelineStepSpec.post enc Tryz.prog Tryz.f3 false true false false):=by
  refine returnsInHanded_of_change (C:=Tryz.checked) own started (by kernel_rfl) Tryz.func3
    (ChangeSpec.witness6 (enc:=enc) (C:=Tryz.checked) false ⟨#[],#[.agg #[.slice none 0 0,.slice none 0 0],.agg #[.slice none 0 0,.slice none 0 0,.slice none 0 0,.bool false],.int .i64 0],[]⟩ 8 (by kernel_rfl) (by kernel_rfl) (by kernel_rfl) (by kernel_rfl)) ?_
  intro W base args ds gs before hval hW _ _
  refine zij zum mixed Φ_ok zAT zxo zwD (ztF _) shapes readable (by kernel_rfl) Tryz.underlying4 rfl ?_ law hval hW
  intro H ds h
  match ds,h with
  | [d0,d1,d2],_=>rfl
theorem proved:Rows.PipelineStepSaid:=
  OpenClaim.holds_of_wide 3 Tryz.f3 rfl rfl rfl rfl rfl rfl rfl ⟨rfl,rfl,rfl,rfl,rfl⟩ rfl rfl rfl rfl rfl (by kernel_rfl) Tryz.func3 (by kernel_rfl)
    (of_decide_eq_true (by kernel_rfl)) (by unfold Func.isWrapper;first|(rw[if_pos (by decide+kernel)];kernel_rfl)|(rw[if_neg (by decide+kernel)];exact⟨rfl,rfl⟩))
    (fun os started H enc _=>lifted os started H enc)
end Go.Proofs.YtbddckhdbnmamaaGreat.pipelineStep
