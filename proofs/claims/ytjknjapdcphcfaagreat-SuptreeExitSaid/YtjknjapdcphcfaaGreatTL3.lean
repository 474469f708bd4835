/-
  The statement SuptreeExit.
-/
import Derived.Test.YtjknjapdcphcfaaGreatRows
import Derived.Test.YtjknjapdcphcfaaGreatXA
namespace Go.Proofs.YtjknjapdcphcfaaGreat.suptreeExit
open Go.ChangeShapes Go.WideShapes Go.ChangeAt Go.RowKit
set_option linter.unusedVariables false

theorem law : ∀ l, PShs [(false, [.sl true specSh]), (false, [.sl true stateSh]), (false, [.int .i64]), (false, [.int .i64]), (false, [.int .i64])] l → (om Φ).pure 3 l = some (.bool true) := by
  intro l h
  cases h with
  | cons h0 h =>
    cases h with
    | cons h1 h =>
      cases h with
      | cons h2 h =>
        cases h with
        | cons h3 h =>
          cases h with
          | cons h4 h =>
            cases h with
            | nil =>
              obtain ⟨b0, rfl, hw0⟩ := sl_of (f := Spec.av) (fun e => Spec_of) (psh_one h0)
              obtain ⟨b1, rfl, hw1⟩ := sl_of (f := State.av) (fun e => State_of) (psh_one h1)
              obtain ⟨n2, rfl, hn2⟩ := sh_int (psh_one h2)
              obtain ⟨n3, rfl, hn3⟩ := sh_int (psh_one h3)
              obtain ⟨n4, rfl, hn4⟩ := sh_int (psh_one h4)
              exact lawExit b0 hw0 b1 hw1 n2 n3 n4

theorem own : ownKnob Tryz.prog.godebug = none := by kernel_rfl
theorem laidOut : laidOutB Tryz.prog = true := by kernel_rfl
theorem mixed : Tryz.prog.follows .mixedOrders = true := by kernel_rfl
theorem shapes : shPs Tryz.prog Tryz.f3.params.toList = some [(false, [.sl true specSh]), (false, [.sl true stateSh]), (false, [.int .i64]), (false, [.int .i64]), (false, [.int .i64])] := by kernel_rfl
theorem readable : Tryz.f3.params.toList.all (fun t => Tryz.prog.readableRec t && decide (t < Tryz.prog.types.size)) = true := by kernel_rfl

set_option maxRecDepth 100000 in
theorem lifted (os : Os) (started : os.Started) (H : Type) (enc : TypeId × Value → H) :
    ReturnsInHanded {} Tryz.checked os 3 .any (Rows.suptreeExitSpec.pre6 enc Tryz.prog Tryz.f3 Rows.suptreeExitRow.domain false) (Rows.suptreeExitSpec.post enc Tryz.prog Tryz.f3 false true false false) := by
  refine returnsInHanded_of_change (C := Tryz.checked) own started (by kernel_rfl) Tryz.func3
    (ChangeSpec.witness6 (enc := enc) (C := Tryz.checked) false ⟨#[], #[.slice none 0 0, .slice none 0 0, .int .i64 0, .int .i64 0, .int .i64 0], []⟩ 8 (by kernel_rfl) (by kernel_rfl) (by kernel_rfl) (by kernel_rfl)) ?_
  intro W base args ds gs before hval hW _ _
  refine law_contract laidOut mixed Φ_ok shapes readable (by kernel_rfl) Tryz.underlying4 rfl ?_ law hval hW
  intro H ds h
  match ds, h with
  | [d0, d1, d2, d3, d4], _ => rfl

theorem proved : Rows.SuptreeExitSaid :=
  OpenClaim.holds_of_wide 3 Tryz.f3 rfl rfl rfl rfl rfl rfl rfl ⟨rfl, rfl, rfl, rfl, rfl⟩ rfl rfl rfl rfl rfl (by kernel_rfl) Tryz.func3 (by kernel_rfl)
    (of_decide_eq_true (by kernel_rfl)) (by unfold Func.isWrapper; first | (rw [if_pos (by decide +kernel)]; kernel_rfl) | (rw [if_neg (by decide +kernel)]; exact ⟨rfl, rfl⟩))
    (fun os started H enc _ => lifted os started H enc)
end Go.Proofs.YtjknjapdcphcfaaGreat.suptreeExit
