/-
  No cell of these rows narrows 'for every input' (looked for: loops, veiled, ifaces, maps, wideKeys, modest, calm, conditions, laid).
  DERIVED. THE GIVEN ROWS OF THIS SEAT. 5 by the template 'for every input the law returns true; each argument reads behind the call as it read before'; 0 by the template 'total and deterministic' (their statements: YtjknjapdcphcfaaTotals.lean).
  GIVEN WITH THE SEED: the statements are not yours to turn. If you find one false, say at which input.
  Laid BY PROGRAM, IN A SANDBOX (cutbox-rows.mjs): the forced cells as the released guide's own fill.sh prints them over the translation f104690ee1c7e0d5… (all of the seat's roots in one cut). By AI agents, Wed Nov 11 2026. No macro, syntax, notation, axiom, sorry.
-/
import Derived.Test.YtjknjapdcphcfaaChecked
import GoSem.Claim
import GoSem.ClaimJoined
import GoSem.ClaimMapViews
import Derived.JoinedTies
import Derived.KernelRfl
namespace Go.Proofs.Ytjknjapdcphcfaa
/- THE CELL 'sum', in the pinned program and in every row, IS THE sha256 OF THE DUMP (.gsa) THAT YtjknjapdcphcfaaProg.lean LOADS. Nothing in Lean hashes anything: it is a label: what it is worth is what the hold of that sum in a sandbox is worth. -/
noncomputable def Try.pinned : Pinned := { name := "ytjknjapdcphcfaa", sum := "f104690ee1c7e0d5547bbe7f9d48d04d26823f8546ce1e573059da8dc56d65d7", checked := Try.checked }
namespace Rows
def none {H : Type} : Left H := { results := [], args := [] }

/-- 'nurserylaw50.SuptreeSingle': WHATEVER THE INPUT: true; the input reads as it did. -/
def suptreeSingleSpec : ChangeSpec := { name := "suptreeSingle", fn := fun _ => fun
  | [d1, d2] => { results := [.lit (.bool true)], args := [d1, d2] }
  | _ => none }
def suptreeSingleRow : OpenClaim := { program := "ytjknjapdcphcfaa", sum := "f104690ee1c7e0d5547bbe7f9d48d04d26823f8546ce1e573059da8dc56d65d7", func := "nursery/nurserylaw50.SuptreeSingle", spec := "suptreeSingle", unfollowed := true, recurses := true, apart := false }
def SuptreeSingleSaid : Prop := suptreeSingleRow.holds Try.pinned (OpenSpec.ofChange suptreeSingleSpec)

/-- ITS FALSE NEIGHBOUR: 'it returns false'. Refute it at one input. -/
def suptreeSingleWrong : ChangeSpec := { name := "suptreeSingle", fn := fun _ => fun
  | [d1, d2] => { results := [.lit (.bool false)], args := [d1, d2] }
  | _ => none }
def SuptreeSingleWrongFalsely : Prop := suptreeSingleRow.holds Try.pinned (OpenSpec.ofChange suptreeSingleWrong)

/-- 'nurserylaw50.SuptreeCheck': WHATEVER THE INPUT: true; the input reads as it did. -/
def suptreeCheckSpec : ChangeSpec := { name := "suptreeCheck", fn := fun _ => fun
  | [d] => { results := [.lit (.bool true)], args := [d] }
  | _ => none }
def suptreeCheckRow : OpenClaim := { program := "ytjknjapdcphcfaa", sum := "f104690ee1c7e0d5547bbe7f9d48d04d26823f8546ce1e573059da8dc56d65d7", func := "nursery/nurserylaw50.SuptreeCheck", spec := "suptreeCheck", unfollowed := true, recurses := true, apart := false }
def SuptreeCheckSaid : Prop := suptreeCheckRow.holds Try.pinned (OpenSpec.ofChange suptreeCheckSpec)

/-- ITS FALSE NEIGHBOUR: 'it returns false'. Refute it at one input. -/
def suptreeCheckWrong : ChangeSpec := { name := "suptreeCheck", fn := fun _ => fun
  | [d] => { results := [.lit (.bool false)], args := [d] }
  | _ => none }
def SuptreeCheckWrongFalsely : Prop := suptreeCheckRow.holds Try.pinned (OpenSpec.ofChange suptreeCheckWrong)

/-- 'nurserylaw50.SuptreeShutdown': WHATEVER THE INPUT: true; the input reads as it did. -/
def suptreeShutdownSpec : ChangeSpec := { name := "suptreeShutdown", fn := fun _ => fun
  | [d1, d2] => { results := [.lit (.bool true)], args := [d1, d2] }
  | _ => none }
def suptreeShutdownRow : OpenClaim := { program := "ytjknjapdcphcfaa", sum := "f104690ee1c7e0d5547bbe7f9d48d04d26823f8546ce1e573059da8dc56d65d7", func := "nursery/nurserylaw50.SuptreeShutdown", spec := "suptreeShutdown", unfollowed := true, recurses := true, apart := false }
def SuptreeShutdownSaid : Prop := suptreeShutdownRow.holds Try.pinned (OpenSpec.ofChange suptreeShutdownSpec)

/-- ITS FALSE NEIGHBOUR: 'it returns false'. Refute it at one input. -/
def suptreeShutdownWrong : ChangeSpec := { name := "suptreeShutdown", fn := fun _ => fun
  | [d1, d2] => { results := [.lit (.bool false)], args := [d1, d2] }
  | _ => none }
def SuptreeShutdownWrongFalsely : Prop := suptreeShutdownRow.holds Try.pinned (OpenSpec.ofChange suptreeShutdownWrong)

/-- 'nurserylaw50.SuptreeWorkers': WHATEVER THE INPUT: true; the input reads as it did. -/
def suptreeWorkersSpec : ChangeSpec := { name := "suptreeWorkers", fn := fun _ => fun
  | [d1, d2] => { results := [.lit (.bool true)], args := [d1, d2] }
  | _ => none }
def suptreeWorkersRow : OpenClaim := { program := "ytjknjapdcphcfaa", sum := "f104690ee1c7e0d5547bbe7f9d48d04d26823f8546ce1e573059da8dc56d65d7", func := "nursery/nurserylaw50.SuptreeWorkers", spec := "suptreeWorkers", unfollowed := true, recurses := true, apart := false }
def SuptreeWorkersSaid : Prop := suptreeWorkersRow.holds Try.pinned (OpenSpec.ofChange suptreeWorkersSpec)

/-- ITS FALSE NEIGHBOUR: 'it returns false'. Refute it at one input. -/
def suptreeWorkersWrong : ChangeSpec := { name := "suptreeWorkers", fn := fun _ => fun
  | [d1, d2] => { results := [.lit (.bool false)], args := [d1, d2] }
  | _ => none }
def SuptreeWorkersWrongFalsely : Prop := suptreeWorkersRow.holds Try.pinned (OpenSpec.ofChange suptreeWorkersWrong)

/-- 'nurserylaw50.SuptreeCounts': WHATEVER THE INPUT: true; the input reads as it did. -/
def suptreeCountsSpec : ChangeSpec := { name := "suptreeCounts", fn := fun _ => fun
  | [d1, d2] => { results := [.lit (.bool true)], args := [d1, d2] }
  | _ => none }
def suptreeCountsRow : OpenClaim := { program := "ytjknjapdcphcfaa", sum := "f104690ee1c7e0d5547bbe7f9d48d04d26823f8546ce1e573059da8dc56d65d7", func := "nursery/nurserylaw50.SuptreeCounts", spec := "suptreeCounts", unfollowed := true, recurses := true, apart := false }
def SuptreeCountsSaid : Prop := suptreeCountsRow.holds Try.pinned (OpenSpec.ofChange suptreeCountsSpec)

/-- ITS FALSE NEIGHBOUR: 'it returns false'. Refute it at one input. -/
def suptreeCountsWrong : ChangeSpec := { name := "suptreeCounts", fn := fun _ => fun
  | [d1, d2] => { results := [.lit (.bool false)], args := [d1, d2] }
  | _ => none }
def SuptreeCountsWrongFalsely : Prop := suptreeCountsRow.holds Try.pinned (OpenSpec.ofChange suptreeCountsWrong)

/- THE SECOND FORM. 'bulk': how many values and letters a reading holds, each counted each time it is reached (what is shared counts as often as it is met; a slice's spare places count too). A statement '..UptoSaid' is the law's where the arguments, and the package variables that the reading takes, are together of bulk at most 1048576: NARROWER than '..Said'. Prove '..Said' where nothing that the law and all that it calls make is longer than what came in: it says more and counts as full. Else prove '..UptoSaid'. A law counts once. -/
mutual
def uptoBulk {H : Type} : DataW H → Nat
  | .lit (.string bytes) => bytes.length + 1
  | .lit _ => 1
  | .nil => 1
  | .ptr d => uptoBulk d + 1
  | .slice elems spare => uptoBulkAll elems + uptoBulkAll spare + 1
  | .agg parts => uptoBulkAll parts + 1
  | .iface _ d => uptoBulk d + 1
  | .map entries => uptoBulkEntries entries + 1
  | .held _ => 1
def uptoBulkAll {H : Type} : List (DataW H) → Nat
  | [] => 0
  | d :: r => uptoBulk d + uptoBulkAll r
def uptoBulkEntries {H : Type} : List (Lit × DataW H) → Nat
  | [] => 0
  | x :: r => uptoBulkEntry x + uptoBulkEntries r
def uptoBulkEntry {H : Type} : Lit × DataW H → Nat
  | (.string bytes, d) => bytes.length + uptoBulk d + 1
  | (_, d) => uptoBulk d + 1
 end
def uptoSmall : (H : Type) → List (DataW H) → Bool := fun _ ds => decide (uptoBulkAll ds ≤ 1048576)
def OpenSpec.upto (s : _root_.Go.ChangeSpec) : _root_.Go.OpenSpec := { _root_.Go.OpenSpec.ofChange s with cond := some uptoSmall }

/-- 'nurserylaw50.SuptreeSingle', WHERE WHAT IT READS IS OF BULK AT MOST 1048576: true; the input reads as it did. -/
def suptreeSingleUptoRow : OpenClaim := { program := "ytjknjapdcphcfaa", sum := "f104690ee1c7e0d5547bbe7f9d48d04d26823f8546ce1e573059da8dc56d65d7", func := "nursery/nurserylaw50.SuptreeSingle", spec := "suptreeSingle", unfollowed := true, recurses := true, apart := false, narrowed := true }
def SuptreeSingleUptoSaid : Prop := suptreeSingleUptoRow.holds Try.pinned (OpenSpec.upto suptreeSingleSpec)

/-- 'nurserylaw50.SuptreeCheck', WHERE WHAT IT READS IS OF BULK AT MOST 1048576: true; the input reads as it did. -/
def suptreeCheckUptoRow : OpenClaim := { program := "ytjknjapdcphcfaa", sum := "f104690ee1c7e0d5547bbe7f9d48d04d26823f8546ce1e573059da8dc56d65d7", func := "nursery/nurserylaw50.SuptreeCheck", spec := "suptreeCheck", unfollowed := true, recurses := true, apart := false, narrowed := true }
def SuptreeCheckUptoSaid : Prop := suptreeCheckUptoRow.holds Try.pinned (OpenSpec.upto suptreeCheckSpec)

/-- 'nurserylaw50.SuptreeShutdown', WHERE WHAT IT READS IS OF BULK AT MOST 1048576: true; the input reads as it did. -/
def suptreeShutdownUptoRow : OpenClaim := { program := "ytjknjapdcphcfaa", sum := "f104690ee1c7e0d5547bbe7f9d48d04d26823f8546ce1e573059da8dc56d65d7", func := "nursery/nurserylaw50.SuptreeShutdown", spec := "suptreeShutdown", unfollowed := true, recurses := true, apart := false, narrowed := true }
def SuptreeShutdownUptoSaid : Prop := suptreeShutdownUptoRow.holds Try.pinned (OpenSpec.upto suptreeShutdownSpec)

/-- 'nurserylaw50.SuptreeWorkers', WHERE WHAT IT READS IS OF BULK AT MOST 1048576: true; the input reads as it did. -/
def suptreeWorkersUptoRow : OpenClaim := { program := "ytjknjapdcphcfaa", sum := "f104690ee1c7e0d5547bbe7f9d48d04d26823f8546ce1e573059da8dc56d65d7", func := "nursery/nurserylaw50.SuptreeWorkers", spec := "suptreeWorkers", unfollowed := true, recurses := true, apart := false, narrowed := true }
def SuptreeWorkersUptoSaid : Prop := suptreeWorkersUptoRow.holds Try.pinned (OpenSpec.upto suptreeWorkersSpec)

/-- 'nurserylaw50.SuptreeCounts', WHERE WHAT IT READS IS OF BULK AT MOST 1048576: true; the input reads as it did. -/
def suptreeCountsUptoRow : OpenClaim := { program := "ytjknjapdcphcfaa", sum := "f104690ee1c7e0d5547bbe7f9d48d04d26823f8546ce1e573059da8dc56d65d7", func := "nursery/nurserylaw50.SuptreeCounts", spec := "suptreeCounts", unfollowed := true, recurses := true, apart := false, narrowed := true }
def SuptreeCountsUptoSaid : Prop := suptreeCountsUptoRow.holds Try.pinned (OpenSpec.upto suptreeCountsSpec)

end Rows
end Go.Proofs.Ytjknjapdcphcfaa
