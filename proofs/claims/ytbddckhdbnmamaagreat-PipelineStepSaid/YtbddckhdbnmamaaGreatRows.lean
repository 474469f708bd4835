/-
  NARROWER THAN 'FOR EVERY INPUT', by the rows' own cells (each row's printed sentence says how): PipelineStep: loops · PipelineInsert: loops · PipelineRuns: loops · PipelineBounds: loops · PipelineCommute: loops · PipelineMeaning: loops.
  DERIVED. THE GIVEN ROWS OF THIS SEAT. 6 by the template 'for every input the law returns true; each argument reads behind the call as it read before'; 0 by the template 'total and deterministic' (their statements: YtbddckhdbnmamaaGreatTotals.lean).
  GIVEN WITH THE SEED: the statements are not yours to turn. If you find one false, say at which input.
  Laid BY PROGRAM, IN A SANDBOX (cutbox-rows.mjs): the forced cells as the released guide's own fill.sh prints them over the translation d1260022cfbd4453… (all of the seat's roots in one cut). By AI agents, Wed Nov 11 2026. No macro, syntax, notation, axiom, sorry.
-/
import Derived.Test.YtbddckhdbnmamaaGreatChecked
import GoSem.Claim
import GoSem.ClaimJoined
import GoSem.ClaimMapViews
import Derived.JoinedTies
import Derived.KernelRfl
namespace Go.Proofs.YtbddckhdbnmamaaGreat
/- THE CELL 'sum', in the pinned program and in every row, IS THE sha256 OF THE DUMP (.gsa) THAT YtbddckhdbnmamaaGreatProg.lean LOADS. Nothing in Lean hashes anything: it is a label: what it is worth is what the hold of that sum in a sandbox is worth. -/
noncomputable def Tryz.pinned : Pinned := { name := "ytbddckhdbnmamaagreat", sum := "d1260022cfbd445325c92c9e104d48b4b22a02aab2f0ccdccc2c8a1a652013c0", checked := Tryz.checked }
namespace Rows
def none {H : Type} : Left H := { results := [], args := [] }

/-- 'nurserylaw53.PipelineStep': WHATEVER THE INPUT: true; the input reads as it did. -/
def pipelineStepSpec : ChangeSpec := { name := "pipelineStep", fn := fun _ => fun
  | [d1, d2, d3] => { results := [.lit (.bool true)], args := [d1, d2, d3] }
  | _ => none }
def pipelineStepRow : OpenClaim := { program := "ytbddckhdbnmamaagreat", sum := "d1260022cfbd445325c92c9e104d48b4b22a02aab2f0ccdccc2c8a1a652013c0", func := "nursery/nurserylaw53.PipelineStep", spec := "pipelineStep", unfollowed := true, recurses := true, loops := true, apart := false }
def PipelineStepSaid : Prop := pipelineStepRow.holds Tryz.pinned (OpenSpec.ofChange pipelineStepSpec)

/-- ITS FALSE NEIGHBOUR: 'it returns false'. Refute it at one input. -/
def pipelineStepWrong : ChangeSpec := { name := "pipelineStep", fn := fun _ => fun
  | [d1, d2, d3] => { results := [.lit (.bool false)], args := [d1, d2, d3] }
  | _ => none }
def PipelineStepWrongFalsely : Prop := pipelineStepRow.holds Tryz.pinned (OpenSpec.ofChange pipelineStepWrong)

/-- 'nurserylaw53.PipelineInsert': WHATEVER THE INPUT: true; the input reads as it did. -/
def pipelineInsertSpec : ChangeSpec := { name := "pipelineInsert", fn := fun _ => fun
  | [d1, d2, d3] => { results := [.lit (.bool true)], args := [d1, d2, d3] }
  | _ => none }
def pipelineInsertRow : OpenClaim := { program := "ytbddckhdbnmamaagreat", sum := "d1260022cfbd445325c92c9e104d48b4b22a02aab2f0ccdccc2c8a1a652013c0", func := "nursery/nurserylaw53.PipelineInsert", spec := "pipelineInsert", unfollowed := true, recurses := true, loops := true, apart := false }
def PipelineInsertSaid : Prop := pipelineInsertRow.holds Tryz.pinned (OpenSpec.ofChange pipelineInsertSpec)

/-- ITS FALSE NEIGHBOUR: 'it returns false'. Refute it at one input. -/
def pipelineInsertWrong : ChangeSpec := { name := "pipelineInsert", fn := fun _ => fun
  | [d1, d2, d3] => { results := [.lit (.bool false)], args := [d1, d2, d3] }
  | _ => none }
def PipelineInsertWrongFalsely : Prop := pipelineInsertRow.holds Tryz.pinned (OpenSpec.ofChange pipelineInsertWrong)

/-- 'nurserylaw53.PipelineRuns': WHATEVER THE INPUT: true; the input reads as it did. -/
def pipelineRunsSpec : ChangeSpec := { name := "pipelineRuns", fn := fun _ => fun
  | [d1, d2] => { results := [.lit (.bool true)], args := [d1, d2] }
  | _ => none }
def pipelineRunsRow : OpenClaim := { program := "ytbddckhdbnmamaagreat", sum := "d1260022cfbd445325c92c9e104d48b4b22a02aab2f0ccdccc2c8a1a652013c0", func := "nursery/nurserylaw53.PipelineRuns", spec := "pipelineRuns", unfollowed := true, recurses := true, loops := true, apart := false }
def PipelineRunsSaid : Prop := pipelineRunsRow.holds Tryz.pinned (OpenSpec.ofChange pipelineRunsSpec)

/-- ITS FALSE NEIGHBOUR: 'it returns false'. Refute it at one input. -/
def pipelineRunsWrong : ChangeSpec := { name := "pipelineRuns", fn := fun _ => fun
  | [d1, d2] => { results := [.lit (.bool false)], args := [d1, d2] }
  | _ => none }
def PipelineRunsWrongFalsely : Prop := pipelineRunsRow.holds Tryz.pinned (OpenSpec.ofChange pipelineRunsWrong)

/-- 'nurserylaw53.PipelineBounds': WHATEVER THE INPUT: true; the input reads as it did. -/
def pipelineBoundsSpec : ChangeSpec := { name := "pipelineBounds", fn := fun _ => fun
  | [d1, d2, d3] => { results := [.lit (.bool true)], args := [d1, d2, d3] }
  | _ => none }
def pipelineBoundsRow : OpenClaim := { program := "ytbddckhdbnmamaagreat", sum := "d1260022cfbd445325c92c9e104d48b4b22a02aab2f0ccdccc2c8a1a652013c0", func := "nursery/nurserylaw53.PipelineBounds", spec := "pipelineBounds", unfollowed := true, recurses := true, loops := true, apart := false }
def PipelineBoundsSaid : Prop := pipelineBoundsRow.holds Tryz.pinned (OpenSpec.ofChange pipelineBoundsSpec)

/-- ITS FALSE NEIGHBOUR: 'it returns false'. Refute it at one input. -/
def pipelineBoundsWrong : ChangeSpec := { name := "pipelineBounds", fn := fun _ => fun
  | [d1, d2, d3] => { results := [.lit (.bool false)], args := [d1, d2, d3] }
  | _ => none }
def PipelineBoundsWrongFalsely : Prop := pipelineBoundsRow.holds Tryz.pinned (OpenSpec.ofChange pipelineBoundsWrong)

/-- 'nurserylaw53.PipelineCommute': WHATEVER THE INPUT: true; the input reads as it did. -/
def pipelineCommuteSpec : ChangeSpec := { name := "pipelineCommute", fn := fun _ => fun
  | [d1, d2, d3, d4] => { results := [.lit (.bool true)], args := [d1, d2, d3, d4] }
  | _ => none }
def pipelineCommuteRow : OpenClaim := { program := "ytbddckhdbnmamaagreat", sum := "d1260022cfbd445325c92c9e104d48b4b22a02aab2f0ccdccc2c8a1a652013c0", func := "nursery/nurserylaw53.PipelineCommute", spec := "pipelineCommute", unfollowed := true, recurses := true, loops := true, apart := false }
def PipelineCommuteSaid : Prop := pipelineCommuteRow.holds Tryz.pinned (OpenSpec.ofChange pipelineCommuteSpec)

/-- ITS FALSE NEIGHBOUR: 'it returns false'. Refute it at one input. -/
def pipelineCommuteWrong : ChangeSpec := { name := "pipelineCommute", fn := fun _ => fun
  | [d1, d2, d3, d4] => { results := [.lit (.bool false)], args := [d1, d2, d3, d4] }
  | _ => none }
def PipelineCommuteWrongFalsely : Prop := pipelineCommuteRow.holds Tryz.pinned (OpenSpec.ofChange pipelineCommuteWrong)

/-- 'nurserylaw53.PipelineMeaning': WHATEVER THE INPUT: true; the input reads as it did. -/
def pipelineMeaningSpec : ChangeSpec := { name := "pipelineMeaning", fn := fun _ => fun
  | [d] => { results := [.lit (.bool true)], args := [d] }
  | _ => none }
def pipelineMeaningRow : OpenClaim := { program := "ytbddckhdbnmamaagreat", sum := "d1260022cfbd445325c92c9e104d48b4b22a02aab2f0ccdccc2c8a1a652013c0", func := "nursery/nurserylaw53.PipelineMeaning", spec := "pipelineMeaning", unfollowed := true, recurses := true, loops := true, apart := false }
def PipelineMeaningSaid : Prop := pipelineMeaningRow.holds Tryz.pinned (OpenSpec.ofChange pipelineMeaningSpec)

/-- ITS FALSE NEIGHBOUR: 'it returns false'. Refute it at one input. -/
def pipelineMeaningWrong : ChangeSpec := { name := "pipelineMeaning", fn := fun _ => fun
  | [d] => { results := [.lit (.bool false)], args := [d] }
  | _ => none }
def PipelineMeaningWrongFalsely : Prop := pipelineMeaningRow.holds Tryz.pinned (OpenSpec.ofChange pipelineMeaningWrong)

/- THE SECOND FORM. 'bulk': how many values and letters a reading holds, each counted each time it is reached (what is shared counts as often as it is met; a slice's spare places count too). A statement '..UptoSaid' is the law's where the arguments, and the package variables that the reading takes, are together of bulk at most 1048576: NARROWER than '..Said'. Prove '..Said' where nothing that the law and all that it calls make is longer than what came in: it says more and counts as full. Else prove '..UptoSaid'. A law counts once. -/
mutual
def uptoBulk {H : Type} : DataW H → Nat
  | .lit (.string bytes) => bytes.length + 1
  | .lit _ => 1
  | .nil => 1
  | .ptr d => uptoBulk d + 1
  | .slice elems spare => uptoBulkAll elems + uptoBulkAll spare + 1
  | .agg parts => uptoBulkAll parts + 1
  | .iface _ d => uptoBulk d + 1
  | .map entries => uptoBulkEntries entries + 1
  | .held _ => 1
def uptoBulkAll {H : Type} : List (DataW H) → Nat
  | [] => 0
  | d :: r => uptoBulk d + uptoBulkAll r
def uptoBulkEntries {H : Type} : List (Lit × DataW H) → Nat
  | [] => 0
  | x :: r => uptoBulkEntry x + uptoBulkEntries r
def uptoBulkEntry {H : Type} : Lit × DataW H → Nat
  | (.string bytes, d) => bytes.length + uptoBulk d + 1
  | (_, d) => uptoBulk d + 1
 end
def uptoSmall : (H : Type) → List (DataW H) → Bool := fun _ ds => decide (uptoBulkAll ds ≤ 1048576)
def OpenSpec.upto (s : _root_.Go.ChangeSpec) : _root_.Go.OpenSpec := { _root_.Go.OpenSpec.ofChange s with cond := some uptoSmall }

/-- 'nurserylaw53.PipelineStep', WHERE WHAT IT READS IS OF BULK AT MOST 1048576: true; the input reads as it did. -/
def pipelineStepUptoRow : OpenClaim := { program := "ytbddckhdbnmamaagreat", sum := "d1260022cfbd445325c92c9e104d48b4b22a02aab2f0ccdccc2c8a1a652013c0", func := "nursery/nurserylaw53.PipelineStep", spec := "pipelineStep", unfollowed := true, recurses := true, loops := true, apart := false, narrowed := true }
def PipelineStepUptoSaid : Prop := pipelineStepUptoRow.holds Tryz.pinned (OpenSpec.upto pipelineStepSpec)

/-- 'nurserylaw53.PipelineInsert', WHERE WHAT IT READS IS OF BULK AT MOST 1048576: true; the input reads as it did. -/
def pipelineInsertUptoRow : OpenClaim := { program := "ytbddckhdbnmamaagreat", sum := "d1260022cfbd445325c92c9e104d48b4b22a02aab2f0ccdccc2c8a1a652013c0", func := "nursery/nurserylaw53.PipelineInsert", spec := "pipelineInsert", unfollowed := true, recurses := true, loops := true, apart := false, narrowed := true }
def PipelineInsertUptoSaid : Prop := pipelineInsertUptoRow.holds Tryz.pinned (OpenSpec.upto pipelineInsertSpec)

/-- 'nurserylaw53.PipelineRuns', WHERE WHAT IT READS IS OF BULK AT MOST 1048576: true; the input reads as it did. -/
def pipelineRunsUptoRow : OpenClaim := { program := "ytbddckhdbnmamaagreat", sum := "d1260022cfbd445325c92c9e104d48b4b22a02aab2f0ccdccc2c8a1a652013c0", func := "nursery/nurserylaw53.PipelineRuns", spec := "pipelineRuns", unfollowed := true, recurses := true, loops := true, apart := false, narrowed := true }
def PipelineRunsUptoSaid : Prop := pipelineRunsUptoRow.holds Tryz.pinned (OpenSpec.upto pipelineRunsSpec)

/-- 'nurserylaw53.PipelineBounds', WHERE WHAT IT READS IS OF BULK AT MOST 1048576: true; the input reads as it did. -/
def pipelineBoundsUptoRow : OpenClaim := { program := "ytbddckhdbnmamaagreat", sum := "d1260022cfbd445325c92c9e104d48b4b22a02aab2f0ccdccc2c8a1a652013c0", func := "nursery/nurserylaw53.PipelineBounds", spec := "pipelineBounds", unfollowed := true, recurses := true, loops := true, apart := false, narrowed := true }
def PipelineBoundsUptoSaid : Prop := pipelineBoundsUptoRow.holds Tryz.pinned (OpenSpec.upto pipelineBoundsSpec)

/-- 'nurserylaw53.PipelineCommute', WHERE WHAT IT READS IS OF BULK AT MOST 1048576: true; the input reads as it did. -/
def pipelineCommuteUptoRow : OpenClaim := { program := "ytbddckhdbnmamaagreat", sum := "d1260022cfbd445325c92c9e104d48b4b22a02aab2f0ccdccc2c8a1a652013c0", func := "nursery/nurserylaw53.PipelineCommute", spec := "pipelineCommute", unfollowed := true, recurses := true, loops := true, apart := false, narrowed := true }
def PipelineCommuteUptoSaid : Prop := pipelineCommuteUptoRow.holds Tryz.pinned (OpenSpec.upto pipelineCommuteSpec)

/-- 'nurserylaw53.PipelineMeaning', WHERE WHAT IT READS IS OF BULK AT MOST 1048576: true; the input reads as it did. -/
def pipelineMeaningUptoRow : OpenClaim := { program := "ytbddckhdbnmamaagreat", sum := "d1260022cfbd445325c92c9e104d48b4b22a02aab2f0ccdccc2c8a1a652013c0", func := "nursery/nurserylaw53.PipelineMeaning", spec := "pipelineMeaning", unfollowed := true, recurses := true, loops := true, apart := false, narrowed := true }
def PipelineMeaningUptoSaid : Prop := pipelineMeaningUptoRow.holds Tryz.pinned (OpenSpec.upto pipelineMeaningSpec)

end Rows
end Go.Proofs.YtbddckhdbnmamaaGreat
