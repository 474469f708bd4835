/-
  The statement SuptreeCounts.
-/
import Derived.Test.YtjknjapdcphcfaaRows
import Derived.Test.YtjknjapdcphcfaaKX
namespace Go.Proofs.Ytjknjapdcphcfaa.suptreeCounts
open Go.ChangeShapes Go.WideShapes Go.ChangeAt Go.RowKit
set_option linter.unusedVariables false

theorem law : ∀ l, PShs [(false, [.sl true specSh]), (false, [.sl true happeningSh])] l → (om Φ).pure 7 l = some (.bool true) := by
  intro l h
  cases h with
  | cons h0 h =>
    cases h with
    | cons h1 h =>
      cases h with
      | nil =>
        obtain ⟨b0, rfl, hw0⟩ := sl_of (f := Spec.av) (fun e => Spec_of) (psh_one h0)
        obtain ⟨b1, rfl, hw1⟩ := sl_of (f := Happening.av) (fun e => Happening_of) (psh_one h1)
        exact law7 b0 hw0 b1 hw1

theorem own : ownKnob Try.prog.godebug = none := by kernel_rfl
theorem laidOut : laidOutB Try.prog = true := by kernel_rfl
theorem mixed : Try.prog.follows .mixedOrders = true := by kernel_rfl
theorem shapes : shPs Try.prog Try.f7.params.toList = some [(false, [.sl true specSh]), (false, [.sl true happeningSh])] := by kernel_rfl
theorem readable : Try.f7.params.toList.all (fun t => Try.prog.readableRec t && decide (t < Try.prog.types.size)) = true := by kernel_rfl

set_option maxRecDepth 100000 in
theorem lifted (os : Os) (started : os.Started) (H : Type) (enc : TypeId × Value → H) :
    ReturnsInHanded {} Try.checked os 7 .any (Rows.suptreeCountsSpec.pre6 enc Try.prog Try.f7 Rows.suptreeCountsRow.domain false) (Rows.suptreeCountsSpec.post enc Try.prog Try.f7 false true false false) := by
  refine returnsInHanded_of_change (C := Try.checked) own started (by kernel_rfl) Try.func7
    (ChangeSpec.witness6 (enc := enc) (C := Try.checked) false ⟨#[], #[.slice none 0 0, .slice none 0 0], []⟩ 8 (by kernel_rfl) (by kernel_rfl) (by kernel_rfl) (by kernel_rfl)) ?_
  intro W base args ds gs before hval hW _ _
  refine law_contract laidOut mixed Φ_ok shapes readable (by kernel_rfl) Try.underlying4 rfl ?_ law hval hW
  intro H ds h
  match ds, h with
  | [d0, d1], _ => rfl

theorem proved : Rows.SuptreeCountsSaid :=
  OpenClaim.holds_of_wide 7 Try.f7 rfl rfl rfl rfl rfl rfl rfl ⟨rfl, rfl, rfl, rfl, rfl⟩ rfl rfl rfl rfl rfl (by kernel_rfl) Try.func7 (by kernel_rfl)
    (of_decide_eq_true (by kernel_rfl)) (by unfold Func.isWrapper; first | (rw [if_pos (by decide +kernel)]; kernel_rfl) | (rw [if_neg (by decide +kernel)]; exact ⟨rfl, rfl⟩))
    (fun os started H enc _ => lifted os started H enc)
end Go.Proofs.Ytjknjapdcphcfaa.suptreeCounts
