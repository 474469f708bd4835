/-
  The statement CombinatorParts, as a card.
-/
import Derived.Test.YtddpboiceemihaaGreatDoorTBr
import Derived.Test.YtddpboiceemihaaGreatDoorBEr
namespace Go.Proofs.YtddpboiceemihaaGreatDoor.combinatorParts
open Go Go.ChangeShapes Go.WideShapes Go.ChangeAt Go.RowKit
set_option linter.unusedVariables false
set_option maxRecDepth 100000

theorem law : ∀ l, PShs [(true, soSh), (false, [.sl true prSh]), (false, [.int .u8])] l → (om Φ).pure 7 l = some (.bool true) := by
  intro l h
  cases h with
  | cons h0 h =>
    cases h with
    | cons h1 h =>
      cases h with
      | cons h2 h =>
        cases h with
        | nil =>
          obtain ⟨b0, rfl, hw0⟩ := So_arg h0
          obtain ⟨b1, rfl, hl1, hw1⟩ := Prs_arg h1
          obtain ⟨n2, rfl, hn2⟩ := sh_int (psh_one h2)
          exact law7 b0 hw0 b1 hw1 n2 hn2

theorem shapes : shPs Tryz.prog Tryz.f7.params.toList = some [(true, soSh), (false, [.sl true prSh]), (false, [.int .u8])] := by kernel_rfl
theorem readable : Tryz.f7.params.toList.all (fun t => Tryz.prog.readableRec t && decide (t < Tryz.prog.types.size)) = true := by kernel_rfl

theorem lifted (os : Os) (started : os.Started) (H : Type) (enc : TypeId × Value → H) :
    ReturnsInHanded {} Tryz.checked os 7 .any (fun w args => (Rows.combinatorPartsSpec.pre enc Tryz.prog Tryz.f7 [] false w args ∧ laidMetH Tryz.prog laid3 w) ∧ sizedMet enc Tryz.prog Tryz.f7 (OpenSpec.ofChange Rows.combinatorPartsSpec) false w args) (Rows.combinatorPartsSpec.post enc Tryz.prog Tryz.f7 false true false false) := by
  refine lift_laid (C := Tryz.checked) (X := fun w _ => laidMetH Tryz.prog laid3 w) (fun _ _ _ hh h => h.of_heap hh) own started (by kernel_rfl) Tryz.func7
    (ChangeSpec.witness_shaped (enc := enc) (C := Tryz.checked) (os := os) (X := fun w _ => laidMetH Tryz.prog laid3 w) false (World.doorLaid Tryz.prog 400 os) #[.agg #[.slice none 0 0, .slice none 0 0], .slice none 0 0, .int .u8 0] 8 rfl (World.shaped_of_RefB (by kernel_rfl) (by kernel_rfl)) (by kernel_rfl) (by kernel_rfl) (by kernel_rfl) (door_met os _)) ?_
  intro W base args ds gs before hval hW hsh
  refine law_contract laidOut mixed Φ_ok extOK extMOK recsOk (vars_ok hsh) shapes readable (by kernel_rfl) Tryz.underlying4 rfl ?_ law hval hW
  intro H ds h
  match ds, h with
  | [d0, d1, d2], _ => rfl

theorem said : Rows.CombinatorPartsSaid :=
  OpenClaim.holds_of_wide 7 Tryz.f7 rfl rfl rfl rfl rfl rfl rfl ⟨rfl, rfl, rfl, rfl, rfl⟩ rfl rfl rfl rfl rfl (by kernel_rfl) Tryz.func7 (by kernel_rfl)
    (of_decide_eq_true (by kernel_rfl)) (by unfold Func.isWrapper; first | (rw [if_pos (by decide +kernel)]; kernel_rfl) | (rw [if_neg (by decide +kernel)]; exact ⟨rfl, rfl⟩))
    (fun os started H enc _ => lifted os started H enc)

theorem proved : Rows.CombinatorPartsCardSaid :=
  Claim7.holds_tied_plain_at .later [] [.data, .data, .data] true (true, "9b64564c3da762c73fbfec68512897955b946354a3a523c68959bdc2c0accef3") true
    said (fun _ h => by cases h) (by kernel_rfl) (fun _ h => by cases h) combinatorParts_row_tie rfl ⟨rfl, rfl⟩ (by kernel_rfl) rfl
    (fun f fn hf hfn => by
      obtain rfl : f = 7 := Option.some.inj ((show Tryz.prog.funcNamed "nursery/nurserylaw15.CombinatorParts" = some 7 by kernel_rfl).symm.trans hf) |>.symm
      obtain rfl : fn = Tryz.f7 := (Option.some.inj (Tryz.func7.symm.trans hfn)).symm
      exact ⟨by kernel_rfl, fun j t ht => by
        rw [Tryz.params7] at ht
        have hm : t ∈ [43, 27, 5] := by simpa using Array.mem_of_getElem? ht
        have hall : ([43, 27, 5].all fun u => !Tryz.prog.wantsStandIn u) = true := by kernel_rfl
        exact (show Tryz.prog.wantsStandIn t = false by simpa using List.all_eq_true.1 hall t hm)⟩)
    (by kernel_rfl)
#print axioms proved
end Go.Proofs.YtddpboiceemihaaGreatDoor.combinatorParts
