/-
  The statement ScopeBudgets.
-/
import Derived.Test.YtpooicjhhogknaaRows
import Derived.Test.YtpooicjhhogknaaB3
namespace Go.Proofs.Ytpooicjhhogknaa.scopeBudgets
open Go.ChangeShapes Go.WideShapes Go.ChangeAt Go.RowKit
set_option linter.unusedVariables false

theorem law : ∀ l, PShs [(false, [.sl true scSh]), (false, [.int .i64])] l → (om Φ).pure 9 l = some (.bool true) := by
  intro l h
  cases h with
  | cons h0 h =>
    cases h with
    | cons h1 h =>
      cases h with
      | nil =>
        obtain ⟨b0, m0, rfl, hb0, hw0⟩ := sc_of (psh_one h0)
        obtain ⟨n1, rfl, hn1⟩ := sh_int (psh_one h1)
        exact e9 b0 m0 hb0 n1

theorem own : ownKnob Try.prog.godebug = none := by kernel_rfl
theorem laidOut : laidOutB Try.prog = true := by kernel_rfl
theorem mixed : Try.prog.follows .mixedOrders = true := by kernel_rfl
theorem shapes : shPs Try.prog Try.f9.params.toList = some [(false, [.sl true scSh]), (false, [.int .i64])] := by kernel_rfl
theorem readable : Try.f9.params.toList.all (fun t => Try.prog.readableRec t && decide (t < Try.prog.types.size)) = true := by kernel_rfl

set_option maxRecDepth 100000 in
theorem lifted (os : Os) (started : os.Started) (H : Type) (enc : TypeId × Value → H) :
    ReturnsInHanded {} Try.checked os 9 .any (Rows.scopeBudgetsSpec.pre6 enc Try.prog Try.f9 Rows.scopeBudgetsRow.domain false) (Rows.scopeBudgetsSpec.post enc Try.prog Try.f9 false true false false) := by
  refine returnsInHanded_of_change (C := Try.checked) own started (by kernel_rfl) Try.func9
    (ChangeSpec.witness6 (enc := enc) (C := Try.checked) false ⟨#[], #[.slice none 0 0, .int .i64 0], []⟩ 9 (by kernel_rfl) (by kernel_rfl) (by kernel_rfl) (by kernel_rfl)) ?_
  intro W base args ds gs before hval hW _ _
  refine law_contract laidOut mixed Φ_ok shapes readable (by kernel_rfl) Try.underlying4 rfl ?_ law hval hW
  intro H ds h
  match ds, h with
  | [d0, d1], _ => rfl

theorem proved : Rows.ScopeBudgetsSaid :=
  OpenClaim.holds_of_wide 9 Try.f9 rfl rfl rfl rfl rfl rfl rfl ⟨rfl, rfl, rfl, rfl, rfl⟩ rfl rfl rfl rfl rfl (by kernel_rfl) Try.func9 (by kernel_rfl)
    (of_decide_eq_true (by kernel_rfl)) (by unfold Func.isWrapper; first | (rw [if_pos (by decide +kernel)]; kernel_rfl) | (rw [if_neg (by decide +kernel)]; exact ⟨rfl, rfl⟩))
    (fun os started H enc _ => lifted os started H enc)
end Go.Proofs.Ytpooicjhhogknaa.scopeBudgets
