/-
  No cell of these rows narrows 'for every input' (looked for: loops, veiled, ifaces, maps, wideKeys, modest, calm, conditions, laid).
  DERIVED. THE GIVEN ROWS OF THIS SEAT. 7 by the template 'for every input the law returns true; each argument reads behind the call as it read before'; 0 by the template 'total and deterministic' (their statements: YthenmgpbcmlhoaaTotals.lean).
  GIVEN WITH THE SEED: the statements are not yours to turn. If you find one false, say at which input.
  Laid BY PROGRAM, IN A SANDBOX (cutbox-rows.mjs): the forced cells as the released guide's own fill.sh prints them over the translation bb53833c3a1184ed… (all of the seat's roots in one cut). By AI agents, Wed Nov 11 2026. No macro, syntax, notation, axiom, sorry.
-/
import Derived.Test.YthenmgpbcmlhoaaChecked
import GoSem.Claim
import GoSem.ClaimJoined
import GoSem.ClaimMapViews
import Derived.JoinedTies
import Derived.KernelRfl
namespace Go.Proofs.Ythenmgpbcmlhoaa
/- THE CELL 'sum', in the pinned program and in every row, IS THE sha256 OF THE DUMP (.gsa) THAT YthenmgpbcmlhoaaProg.lean LOADS. Nothing in Lean hashes anything: it is a label: what it is worth is what the hold of that sum in a sandbox is worth. -/
noncomputable def Try.pinned : Pinned := { name := "ythenmgpbcmlhoaa", sum := "bb53833c3a1184ed269ff4cc54668b6ca40d3c87dd099bf6e6c7f5b360e51a61", checked := Try.checked }
namespace Rows
def none {H : Type} : Left H := { results := [], args := [] }

/-- 'nurserylaw49.SupervisorHandle': WHATEVER THE INPUT: true; the input reads as it did. -/
def supervisorHandleSpec : ChangeSpec := { name := "supervisorHandle", fn := fun _ => fun
  | [d1, d2, d3] => { results := [.lit (.bool true)], args := [d1, d2, d3] }
  | _ => none }
def supervisorHandleRow : OpenClaim := { program := "ythenmgpbcmlhoaa", sum := "bb53833c3a1184ed269ff4cc54668b6ca40d3c87dd099bf6e6c7f5b360e51a61", func := "nursery/nurserylaw49.SupervisorHandle", spec := "supervisorHandle", unfollowed := true, recurses := true, apart := false }
def SupervisorHandleSaid : Prop := supervisorHandleRow.holds Try.pinned (OpenSpec.ofChange supervisorHandleSpec)

/-- ITS FALSE NEIGHBOUR: 'it returns false'. Refute it at one input. -/
def supervisorHandleWrong : ChangeSpec := { name := "supervisorHandle", fn := fun _ => fun
  | [d1, d2, d3] => { results := [.lit (.bool false)], args := [d1, d2, d3] }
  | _ => none }
def SupervisorHandleWrongFalsely : Prop := supervisorHandleRow.holds Try.pinned (OpenSpec.ofChange supervisorHandleWrong)

/-- 'nurserylaw49.SupervisorRun': WHATEVER THE INPUT: true; the input reads as it did. -/
def supervisorRunSpec : ChangeSpec := { name := "supervisorRun", fn := fun _ => fun
  | [d1, d2] => { results := [.lit (.bool true)], args := [d1, d2] }
  | _ => none }
def supervisorRunRow : OpenClaim := { program := "ythenmgpbcmlhoaa", sum := "bb53833c3a1184ed269ff4cc54668b6ca40d3c87dd099bf6e6c7f5b360e51a61", func := "nursery/nurserylaw49.SupervisorRun", spec := "supervisorRun", unfollowed := true, recurses := true, apart := false }
def SupervisorRunSaid : Prop := supervisorRunRow.holds Try.pinned (OpenSpec.ofChange supervisorRunSpec)

/-- ITS FALSE NEIGHBOUR: 'it returns false'. Refute it at one input. -/
def supervisorRunWrong : ChangeSpec := { name := "supervisorRun", fn := fun _ => fun
  | [d1, d2] => { results := [.lit (.bool false)], args := [d1, d2] }
  | _ => none }
def SupervisorRunWrongFalsely : Prop := supervisorRunRow.holds Try.pinned (OpenSpec.ofChange supervisorRunWrong)

/-- 'nurserylaw49.SupervisorShutdown': WHATEVER THE INPUT: true; the input reads as it did. -/
def supervisorShutdownSpec : ChangeSpec := { name := "supervisorShutdown", fn := fun _ => fun
  | [d1, d2] => { results := [.lit (.bool true)], args := [d1, d2] }
  | _ => none }
def supervisorShutdownRow : OpenClaim := { program := "ythenmgpbcmlhoaa", sum := "bb53833c3a1184ed269ff4cc54668b6ca40d3c87dd099bf6e6c7f5b360e51a61", func := "nursery/nurserylaw49.SupervisorShutdown", spec := "supervisorShutdown", unfollowed := true, recurses := true, apart := false }
def SupervisorShutdownSaid : Prop := supervisorShutdownRow.holds Try.pinned (OpenSpec.ofChange supervisorShutdownSpec)

/-- ITS FALSE NEIGHBOUR: 'it returns false'. Refute it at one input. -/
def supervisorShutdownWrong : ChangeSpec := { name := "supervisorShutdown", fn := fun _ => fun
  | [d1, d2] => { results := [.lit (.bool false)], args := [d1, d2] }
  | _ => none }
def SupervisorShutdownWrongFalsely : Prop := supervisorShutdownRow.holds Try.pinned (OpenSpec.ofChange supervisorShutdownWrong)

/-- 'nurserylaw49.SupervisorPolicy': WHATEVER THE INPUT: true; the input reads as it did. -/
def supervisorPolicySpec : ChangeSpec := { name := "supervisorPolicy", fn := fun _ => fun
  | [d1, d2] => { results := [.lit (.bool true)], args := [d1, d2] }
  | _ => none }
def supervisorPolicyRow : OpenClaim := { program := "ythenmgpbcmlhoaa", sum := "bb53833c3a1184ed269ff4cc54668b6ca40d3c87dd099bf6e6c7f5b360e51a61", func := "nursery/nurserylaw49.SupervisorPolicy", spec := "supervisorPolicy", unfollowed := true, recurses := true, apart := false }
def SupervisorPolicySaid : Prop := supervisorPolicyRow.holds Try.pinned (OpenSpec.ofChange supervisorPolicySpec)

/-- ITS FALSE NEIGHBOUR: 'it returns false'. Refute it at one input. -/
def supervisorPolicyWrong : ChangeSpec := { name := "supervisorPolicy", fn := fun _ => fun
  | [d1, d2] => { results := [.lit (.bool false)], args := [d1, d2] }
  | _ => none }
def SupervisorPolicyWrongFalsely : Prop := supervisorPolicyRow.holds Try.pinned (OpenSpec.ofChange supervisorPolicyWrong)

/-- 'nurserylaw49.SupervisorIntensity': WHATEVER THE INPUT: true; the input reads as it did. -/
def supervisorIntensitySpec : ChangeSpec := { name := "supervisorIntensity", fn := fun _ => fun
  | [d1, d2] => { results := [.lit (.bool true)], args := [d1, d2] }
  | _ => none }
def supervisorIntensityRow : OpenClaim := { program := "ythenmgpbcmlhoaa", sum := "bb53833c3a1184ed269ff4cc54668b6ca40d3c87dd099bf6e6c7f5b360e51a61", func := "nursery/nurserylaw49.SupervisorIntensity", spec := "supervisorIntensity", unfollowed := true, recurses := true, apart := false }
def SupervisorIntensitySaid : Prop := supervisorIntensityRow.holds Try.pinned (OpenSpec.ofChange supervisorIntensitySpec)

/-- ITS FALSE NEIGHBOUR: 'it returns false'. Refute it at one input. -/
def supervisorIntensityWrong : ChangeSpec := { name := "supervisorIntensity", fn := fun _ => fun
  | [d1, d2] => { results := [.lit (.bool false)], args := [d1, d2] }
  | _ => none }
def SupervisorIntensityWrongFalsely : Prop := supervisorIntensityRow.holds Try.pinned (OpenSpec.ofChange supervisorIntensityWrong)

/-- 'nurserylaw49.SupervisorStrategy': WHATEVER THE INPUT: true; the input reads as it did. -/
def supervisorStrategySpec : ChangeSpec := { name := "supervisorStrategy", fn := fun _ => fun
  | [d1, d2] => { results := [.lit (.bool true)], args := [d1, d2] }
  | _ => none }
def supervisorStrategyRow : OpenClaim := { program := "ythenmgpbcmlhoaa", sum := "bb53833c3a1184ed269ff4cc54668b6ca40d3c87dd099bf6e6c7f5b360e51a61", func := "nursery/nurserylaw49.SupervisorStrategy", spec := "supervisorStrategy", unfollowed := true, recurses := true, apart := false }
def SupervisorStrategySaid : Prop := supervisorStrategyRow.holds Try.pinned (OpenSpec.ofChange supervisorStrategySpec)

/-- ITS FALSE NEIGHBOUR: 'it returns false'. Refute it at one input. -/
def supervisorStrategyWrong : ChangeSpec := { name := "supervisorStrategy", fn := fun _ => fun
  | [d1, d2] => { results := [.lit (.bool false)], args := [d1, d2] }
  | _ => none }
def SupervisorStrategyWrongFalsely : Prop := supervisorStrategyRow.holds Try.pinned (OpenSpec.ofChange supervisorStrategyWrong)

/-- 'nurserylaw49.SupervisorCheck': WHATEVER THE INPUT: true; the input reads as it did. -/
def supervisorCheckSpec : ChangeSpec := { name := "supervisorCheck", fn := fun _ => fun
  | [d1, d2, d3, d4] => { results := [.lit (.bool true)], args := [d1, d2, d3, d4] }
  | _ => none }
def supervisorCheckRow : OpenClaim := { program := "ythenmgpbcmlhoaa", sum := "bb53833c3a1184ed269ff4cc54668b6ca40d3c87dd099bf6e6c7f5b360e51a61", func := "nursery/nurserylaw49.SupervisorCheck", spec := "supervisorCheck", unfollowed := true, recurses := true, apart := false }
def SupervisorCheckSaid : Prop := supervisorCheckRow.holds Try.pinned (OpenSpec.ofChange supervisorCheckSpec)

/-- ITS FALSE NEIGHBOUR: 'it returns false'. Refute it at one input. -/
def supervisorCheckWrong : ChangeSpec := { name := "supervisorCheck", fn := fun _ => fun
  | [d1, d2, d3, d4] => { results := [.lit (.bool false)], args := [d1, d2, d3, d4] }
  | _ => none }
def SupervisorCheckWrongFalsely : Prop := supervisorCheckRow.holds Try.pinned (OpenSpec.ofChange supervisorCheckWrong)

/- THE SECOND FORM. 'bulk': how many values and letters a reading holds, each counted each time it is reached (what is shared counts as often as it is met; a slice's spare places count too). A statement '..UptoSaid' is the law's where the arguments, and the package variables that the reading takes, are together of bulk at most 1048576: NARROWER than '..Said'. Prove '..Said' where nothing that the law and all that it calls make is longer than what came in: it says more and counts as full. Else prove '..UptoSaid'. A law counts once. -/
mutual
def uptoBulk {H : Type} : DataW H → Nat
  | .lit (.string bytes) => bytes.length + 1
  | .lit _ => 1
  | .nil => 1
  | .ptr d => uptoBulk d + 1
  | .slice elems spare => uptoBulkAll elems + uptoBulkAll spare + 1
  | .agg parts => uptoBulkAll parts + 1
  | .iface _ d => uptoBulk d + 1
  | .map entries => uptoBulkEntries entries + 1
  | .held _ => 1
def uptoBulkAll {H : Type} : List (DataW H) → Nat
  | [] => 0
  | d :: r => uptoBulk d + uptoBulkAll r
def uptoBulkEntries {H : Type} : List (Lit × DataW H) → Nat
  | [] => 0
  | x :: r => uptoBulkEntry x + uptoBulkEntries r
def uptoBulkEntry {H : Type} : Lit × DataW H → Nat
  | (.string bytes, d) => bytes.length + uptoBulk d + 1
  | (_, d) => uptoBulk d + 1
 end
def uptoSmall : (H : Type) → List (DataW H) → Bool := fun _ ds => decide (uptoBulkAll ds ≤ 1048576)
def OpenSpec.upto (s : _root_.Go.ChangeSpec) : _root_.Go.OpenSpec := { _root_.Go.OpenSpec.ofChange s with cond := some uptoSmall }

/-- 'nurserylaw49.SupervisorHandle', WHERE WHAT IT READS IS OF BULK AT MOST 1048576: true; the input reads as it did. -/
def supervisorHandleUptoRow : OpenClaim := { program := "ythenmgpbcmlhoaa", sum := "bb53833c3a1184ed269ff4cc54668b6ca40d3c87dd099bf6e6c7f5b360e51a61", func := "nursery/nurserylaw49.SupervisorHandle", spec := "supervisorHandle", unfollowed := true, recurses := true, apart := false, narrowed := true }
def SupervisorHandleUptoSaid : Prop := supervisorHandleUptoRow.holds Try.pinned (OpenSpec.upto supervisorHandleSpec)

/-- 'nurserylaw49.SupervisorRun', WHERE WHAT IT READS IS OF BULK AT MOST 1048576: true; the input reads as it did. -/
def supervisorRunUptoRow : OpenClaim := { program := "ythenmgpbcmlhoaa", sum := "bb53833c3a1184ed269ff4cc54668b6ca40d3c87dd099bf6e6c7f5b360e51a61", func := "nursery/nurserylaw49.SupervisorRun", spec := "supervisorRun", unfollowed := true, recurses := true, apart := false, narrowed := true }
def SupervisorRunUptoSaid : Prop := supervisorRunUptoRow.holds Try.pinned (OpenSpec.upto supervisorRunSpec)

/-- 'nurserylaw49.SupervisorShutdown', WHERE WHAT IT READS IS OF BULK AT MOST 1048576: true; the input reads as it did. -/
def supervisorShutdownUptoRow : OpenClaim := { program := "ythenmgpbcmlhoaa", sum := "bb53833c3a1184ed269ff4cc54668b6ca40d3c87dd099bf6e6c7f5b360e51a61", func := "nursery/nurserylaw49.SupervisorShutdown", spec := "supervisorShutdown", unfollowed := true, recurses := true, apart := false, narrowed := true }
def SupervisorShutdownUptoSaid : Prop := supervisorShutdownUptoRow.holds Try.pinned (OpenSpec.upto supervisorShutdownSpec)

/-- 'nurserylaw49.SupervisorPolicy', WHERE WHAT IT READS IS OF BULK AT MOST 1048576: true; the input reads as it did. -/
def supervisorPolicyUptoRow : OpenClaim := { program := "ythenmgpbcmlhoaa", sum := "bb53833c3a1184ed269ff4cc54668b6ca40d3c87dd099bf6e6c7f5b360e51a61", func := "nursery/nurserylaw49.SupervisorPolicy", spec := "supervisorPolicy", unfollowed := true, recurses := true, apart := false, narrowed := true }
def SupervisorPolicyUptoSaid : Prop := supervisorPolicyUptoRow.holds Try.pinned (OpenSpec.upto supervisorPolicySpec)

/-- 'nurserylaw49.SupervisorIntensity', WHERE WHAT IT READS IS OF BULK AT MOST 1048576: true; the input reads as it did. -/
def supervisorIntensityUptoRow : OpenClaim := { program := "ythenmgpbcmlhoaa", sum := "bb53833c3a1184ed269ff4cc54668b6ca40d3c87dd099bf6e6c7f5b360e51a61", func := "nursery/nurserylaw49.SupervisorIntensity", spec := "supervisorIntensity", unfollowed := true, recurses := true, apart := false, narrowed := true }
def SupervisorIntensityUptoSaid : Prop := supervisorIntensityUptoRow.holds Try.pinned (OpenSpec.upto supervisorIntensitySpec)

/-- 'nurserylaw49.SupervisorStrategy', WHERE WHAT IT READS IS OF BULK AT MOST 1048576: true; the input reads as it did. -/
def supervisorStrategyUptoRow : OpenClaim := { program := "ythenmgpbcmlhoaa", sum := "bb53833c3a1184ed269ff4cc54668b6ca40d3c87dd099bf6e6c7f5b360e51a61", func := "nursery/nurserylaw49.SupervisorStrategy", spec := "supervisorStrategy", unfollowed := true, recurses := true, apart := false, narrowed := true }
def SupervisorStrategyUptoSaid : Prop := supervisorStrategyUptoRow.holds Try.pinned (OpenSpec.upto supervisorStrategySpec)

/-- 'nurserylaw49.SupervisorCheck', WHERE WHAT IT READS IS OF BULK AT MOST 1048576: true; the input reads as it did. -/
def supervisorCheckUptoRow : OpenClaim := { program := "ythenmgpbcmlhoaa", sum := "bb53833c3a1184ed269ff4cc54668b6ca40d3c87dd099bf6e6c7f5b360e51a61", func := "nursery/nurserylaw49.SupervisorCheck", spec := "supervisorCheck", unfollowed := true, recurses := true, apart := false, narrowed := true }
def SupervisorCheckUptoSaid : Prop := supervisorCheckUptoRow.holds Try.pinned (OpenSpec.upto supervisorCheckSpec)

end Rows
end Go.Proofs.Ythenmgpbcmlhoaa
