/-
  The statement CombinatorMore, as a card.
-/
import Derived.Test.YtddpboiceemihaaGreatDoorTBs
import Derived.Test.YtddpboiceemihaaGreatDoorBGs
namespace Go.Proofs.YtddpboiceemihaaGreatDoor.combinatorMore
open Go Go.ChangeShapes Go.WideShapes Go.ChangeAt Go.RowKit
set_option linter.unusedVariables false
set_option maxRecDepth 100000

theorem law : ∀ l, PShs [(true, orSh), (false, [.int .u8])] l → (om Φ).pure 6 l = some (.bool true) := by
  intro l h
  cases h with
  | cons h0 h =>
    cases h with
    | cons h1 h =>
      cases h with
      | nil =>
        obtain ⟨b0, rfl, hw0⟩ := Or_arg h0
        obtain ⟨n1, rfl, hn1⟩ := sh_int (psh_one h1)
        exact law6 b0 n1 hn1

theorem shapes : shPs Tryz.prog Tryz.f6.params.toList = some [(true, orSh), (false, [.int .u8])] := by kernel_rfl
theorem readable : Tryz.f6.params.toList.all (fun t => Tryz.prog.readableRec t && decide (t < Tryz.prog.types.size)) = true := by kernel_rfl

theorem lifted (os : Os) (started : os.Started) (H : Type) (enc : TypeId × Value → H) :
    ReturnsInHanded {} Tryz.checked os 6 .any (fun w args => (Rows.combinatorMoreSpec.pre enc Tryz.prog Tryz.f6 [] false w args ∧ laidMetH Tryz.prog laid3 w) ∧ sizedMet enc Tryz.prog Tryz.f6 (OpenSpec.ofChange Rows.combinatorMoreSpec) false w args) (Rows.combinatorMoreSpec.post enc Tryz.prog Tryz.f6 false true false false) := by
  refine lift_laid (C := Tryz.checked) (X := fun w _ => laidMetH Tryz.prog laid3 w) (fun _ _ _ hh h => h.of_heap hh) own started (by kernel_rfl) Tryz.func6
    (ChangeSpec.witness_shaped (enc := enc) (C := Tryz.checked) (os := os) (X := fun w _ => laidMetH Tryz.prog laid3 w) false (World.doorLaid Tryz.prog 400 os) #[.agg #[.int .i64 0, .string ⟨#[]⟩, .slice none 0 0, .string ⟨#[]⟩, .int .i64 0, .int .i64 0], .int .u8 0] 8 rfl (World.shaped_of_RefB (by kernel_rfl) (by kernel_rfl)) (by kernel_rfl) (by kernel_rfl) (by kernel_rfl) (door_met os _)) ?_
  intro W base args ds gs before hval hW hsh
  refine law_contract laidOut mixed Φ_ok extOK extMOK recsOk (vars_ok hsh) shapes readable (by kernel_rfl) Tryz.underlying4 rfl ?_ law hval hW
  intro H ds h
  match ds, h with
  | [d0, d1], _ => rfl

theorem said : Rows.CombinatorMoreSaid :=
  OpenClaim.holds_of_wide 6 Tryz.f6 rfl rfl rfl rfl rfl rfl rfl ⟨rfl, rfl, rfl, rfl, rfl⟩ rfl rfl rfl rfl rfl (by kernel_rfl) Tryz.func6 (by kernel_rfl)
    (of_decide_eq_true (by kernel_rfl)) (by unfold Func.isWrapper; first | (rw [if_pos (by decide +kernel)]; kernel_rfl) | (rw [if_neg (by decide +kernel)]; exact ⟨rfl, rfl⟩))
    (fun os started H enc _ => lifted os started H enc)

theorem proved : Rows.CombinatorMoreCardSaid :=
  Claim7.holds_tied_plain_at .later [] [.data, .data, .data] true (true, "9b64564c3da762c73fbfec68512897955b946354a3a523c68959bdc2c0accef3") true
    said (fun _ h => by cases h) (by kernel_rfl) (fun _ h => by cases h) combinatorMore_row_tie rfl ⟨rfl, rfl⟩ (by kernel_rfl) rfl
    (fun f fn hf hfn => by
      obtain rfl : f = 6 := Option.some.inj ((show Tryz.prog.funcNamed "nursery/nurserylaw15.CombinatorMore" = some 6 by kernel_rfl).symm.trans hf) |>.symm
      obtain rfl : fn = Tryz.f6 := (Option.some.inj (Tryz.func6.symm.trans hfn)).symm
      exact ⟨by kernel_rfl, fun j t ht => by
        rw [Tryz.params6] at ht
        have hm : t ∈ [24, 5] := by simpa using Array.mem_of_getElem? ht
        have hall : ([24, 5].all fun u => !Tryz.prog.wantsStandIn u) = true := by kernel_rfl
        exact (show Tryz.prog.wantsStandIn t = false by simpa using List.all_eq_true.1 hall t hm)⟩)
    (by kernel_rfl)
#print axioms proved
end Go.Proofs.YtddpboiceemihaaGreatDoor.combinatorMore
