/-
  The statement ScopeNested.
-/
import Derived.Test.YtpooicjhhogknaaRows
import Derived.Test.YtpooicjhhogknaaL3
namespace Go.Proofs.Ytpooicjhhogknaa.scopeNested
open Go.ChangeShapes Go.WideShapes Go.ChangeAt Go.RowKit
set_option linter.unusedVariables false

def i1 : Bool × List Sh := (false, [.int .i64])
theorem law : ∀ l, PShs [(false, [.sl true scSh]), i1, i1, i1] l → (om Φ).pure 3 l = some (.bool true) := by
  intro l h
  cases h with
  | cons h0 h => cases h with
    | cons h1 h => cases h with
      | cons h2 h => cases h with
        | cons h3 h => cases h with
          | nil =>
            obtain ⟨b, m, rfl, hb, _⟩ := sc_of (psh_one h0)
            obtain ⟨i, rfl, _⟩ := sh_int (psh_one h1)
            obtain ⟨j, rfl, _⟩ := sh_int (psh_one h2)
            obtain ⟨k, rfl, _⟩ := sh_int (psh_one h3)
            exact e3 b m hb i j k

theorem own : ownKnob Try.prog.godebug = none := by kernel_rfl
theorem laidOut : laidOutB Try.prog = true := by kernel_rfl
theorem mixed : Try.prog.follows .mixedOrders = true := by kernel_rfl
theorem shapes : shPs Try.prog Try.f3.params.toList = some [(false, [.sl true scSh]), i1, i1, i1] := by kernel_rfl
theorem readable : Try.f3.params.toList.all (fun t => Try.prog.readableRec t && decide (t < Try.prog.types.size)) = true := by kernel_rfl

set_option maxRecDepth 100000 in
theorem lifted (os : Os) (started : os.Started) (H : Type) (enc : TypeId × Value → H) :
    ReturnsInHanded {} Try.checked os 3 .any (Rows.scopeNestedSpec.pre6 enc Try.prog Try.f3 Rows.scopeNestedRow.domain false) (Rows.scopeNestedSpec.post enc Try.prog Try.f3 false true false false) := by
  refine returnsInHanded_of_change (C := Try.checked) own started (by kernel_rfl) Try.func3
    (ChangeSpec.witness6 (enc := enc) (C := Try.checked) false ⟨#[], #[.slice none 0 0, .int .i64 0, .int .i64 0, .int .i64 0], []⟩ 8 (by kernel_rfl) (by kernel_rfl) (by kernel_rfl) (by kernel_rfl)) ?_
  intro W base args ds gs before hval hW _ _
  refine law_contract laidOut mixed Φ_ok shapes readable (by kernel_rfl) Try.underlying4 rfl ?_ law hval hW
  intro H ds h
  match ds, h with
  | [d1, d2, d3, d4], _ => rfl

theorem proved : Rows.ScopeNestedSaid :=
  OpenClaim.holds_of_wide 3 Try.f3 rfl rfl rfl rfl rfl rfl rfl ⟨rfl, rfl, rfl, rfl, rfl⟩ rfl rfl rfl rfl rfl (by kernel_rfl) Try.func3 (by kernel_rfl)
    (of_decide_eq_true (by kernel_rfl)) (by unfold Func.isWrapper; first | (rw [if_pos (by decide +kernel)]; kernel_rfl) | (rw [if_neg (by decide +kernel)]; exact ⟨rfl, rfl⟩))
    (fun os started H enc _ => lifted os started H enc)
end Go.Proofs.Ytpooicjhhogknaa.scopeNested
