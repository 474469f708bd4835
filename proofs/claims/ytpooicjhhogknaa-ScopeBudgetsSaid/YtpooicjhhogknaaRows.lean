/-
  No cell of these rows narrows 'for every input' (looked for: loops, veiled, ifaces, maps, wideKeys, modest, calm, conditions, laid).
  DERIVED. THE GIVEN ROWS OF THIS SEAT. 8 by the template 'for every input the law returns true; each argument reads behind the call as it read before'; 0 by the template 'total and deterministic' (their statements: YtpooicjhhogknaaTotals.lean).
  GIVEN WITH THE SEED: the statements are not yours to turn. If you find one false, say at which input.
  Laid BY PROGRAM, IN A SANDBOX (cutbox-rows.mjs): the forced cells as the released guide's own fill.sh prints them over the translation 8966a845c451f9c9… (all of the seat's roots in one cut). By AI agents, Wed Nov 11 2026. No macro, syntax, notation, axiom, sorry.
-/
import Derived.Test.YtpooicjhhogknaaChecked
import GoSem.Claim
import GoSem.ClaimJoined
import GoSem.ClaimMapViews
import Derived.JoinedTies
import Derived.KernelRfl
namespace Go.Proofs.Ytpooicjhhogknaa
/- THE CELL 'sum', in the pinned program and in every row, IS THE sha256 OF THE DUMP (.gsa) THAT YtpooicjhhogknaaProg.lean LOADS. Nothing in Lean hashes anything: it is a label: what it is worth is what the hold of that sum in a sandbox is worth. -/
noncomputable def Try.pinned : Pinned := { name := "ytpooicjhhogknaa", sum := "8966a845c451f9c9088b811f636714c414be769ac70bf6bb5afda4c722e54a8e", checked := Try.checked }
namespace Rows
def none {H : Type} : Left H := { results := [], args := [] }

/-- 'nurserylaw27.ScopeNested': WHATEVER THE INPUT: true; the input reads as it did. -/
def scopeNestedSpec : ChangeSpec := { name := "scopeNested", fn := fun _ => fun
  | [d1, d2, d3, d4] => { results := [.lit (.bool true)], args := [d1, d2, d3, d4] }
  | _ => none }
def scopeNestedRow : OpenClaim := { program := "ytpooicjhhogknaa", sum := "8966a845c451f9c9088b811f636714c414be769ac70bf6bb5afda4c722e54a8e", func := "nursery/nurserylaw27.ScopeNested", spec := "scopeNested", unfollowed := true, recurses := true, apart := false }
def ScopeNestedSaid : Prop := scopeNestedRow.holds Try.pinned (OpenSpec.ofChange scopeNestedSpec)

/-- ITS FALSE NEIGHBOUR: 'it returns false'. Refute it at one input. -/
def scopeNestedWrong : ChangeSpec := { name := "scopeNested", fn := fun _ => fun
  | [d1, d2, d3, d4] => { results := [.lit (.bool false)], args := [d1, d2, d3, d4] }
  | _ => none }
def ScopeNestedWrongFalsely : Prop := scopeNestedRow.holds Try.pinned (OpenSpec.ofChange scopeNestedWrong)

/-- 'nurserylaw27.ScopeCauses': WHATEVER THE INPUT: true; the input reads as it did. -/
def scopeCausesSpec : ChangeSpec := { name := "scopeCauses", fn := fun _ => fun
  | [d1, d2, d3, d4] => { results := [.lit (.bool true)], args := [d1, d2, d3, d4] }
  | _ => none }
def scopeCausesRow : OpenClaim := { program := "ytpooicjhhogknaa", sum := "8966a845c451f9c9088b811f636714c414be769ac70bf6bb5afda4c722e54a8e", func := "nursery/nurserylaw27.ScopeCauses", spec := "scopeCauses", unfollowed := true, recurses := true, apart := false }
def ScopeCausesSaid : Prop := scopeCausesRow.holds Try.pinned (OpenSpec.ofChange scopeCausesSpec)

/-- ITS FALSE NEIGHBOUR: 'it returns false'. Refute it at one input. -/
def scopeCausesWrong : ChangeSpec := { name := "scopeCauses", fn := fun _ => fun
  | [d1, d2, d3, d4] => { results := [.lit (.bool false)], args := [d1, d2, d3, d4] }
  | _ => none }
def ScopeCausesWrongFalsely : Prop := scopeCausesRow.holds Try.pinned (OpenSpec.ofChange scopeCausesWrong)

/-- 'nurserylaw27.ScopeTree': WHATEVER THE INPUT: true; the input reads as it did. -/
def scopeTreeSpec : ChangeSpec := { name := "scopeTree", fn := fun _ => fun
  | [d1, d2, d3, d4, d5] => { results := [.lit (.bool true)], args := [d1, d2, d3, d4, d5] }
  | _ => none }
def scopeTreeRow : OpenClaim := { program := "ytpooicjhhogknaa", sum := "8966a845c451f9c9088b811f636714c414be769ac70bf6bb5afda4c722e54a8e", func := "nursery/nurserylaw27.ScopeTree", spec := "scopeTree", unfollowed := true, recurses := true, apart := false }
def ScopeTreeSaid : Prop := scopeTreeRow.holds Try.pinned (OpenSpec.ofChange scopeTreeSpec)

/-- ITS FALSE NEIGHBOUR: 'it returns false'. Refute it at one input. -/
def scopeTreeWrong : ChangeSpec := { name := "scopeTree", fn := fun _ => fun
  | [d1, d2, d3, d4, d5] => { results := [.lit (.bool false)], args := [d1, d2, d3, d4, d5] }
  | _ => none }
def ScopeTreeWrongFalsely : Prop := scopeTreeRow.holds Try.pinned (OpenSpec.ofChange scopeTreeWrong)

/-- 'nurserylaw27.ScopeEnds': WHATEVER THE INPUT: true; the input reads as it did. -/
def scopeEndsSpec : ChangeSpec := { name := "scopeEnds", fn := fun _ => fun
  | [d1, d2, d3] => { results := [.lit (.bool true)], args := [d1, d2, d3] }
  | _ => none }
def scopeEndsRow : OpenClaim := { program := "ytpooicjhhogknaa", sum := "8966a845c451f9c9088b811f636714c414be769ac70bf6bb5afda4c722e54a8e", func := "nursery/nurserylaw27.ScopeEnds", spec := "scopeEnds", unfollowed := true, recurses := true, apart := false }
def ScopeEndsSaid : Prop := scopeEndsRow.holds Try.pinned (OpenSpec.ofChange scopeEndsSpec)

/-- ITS FALSE NEIGHBOUR: 'it returns false'. Refute it at one input. -/
def scopeEndsWrong : ChangeSpec := { name := "scopeEnds", fn := fun _ => fun
  | [d1, d2, d3] => { results := [.lit (.bool false)], args := [d1, d2, d3] }
  | _ => none }
def ScopeEndsWrongFalsely : Prop := scopeEndsRow.holds Try.pinned (OpenSpec.ofChange scopeEndsWrong)

/-- 'nurserylaw27.ScopeChains': WHATEVER THE INPUT: true; the input reads as it did. -/
def scopeChainsSpec : ChangeSpec := { name := "scopeChains", fn := fun _ => fun
  | [d1, d2, d3, d4] => { results := [.lit (.bool true)], args := [d1, d2, d3, d4] }
  | _ => none }
def scopeChainsRow : OpenClaim := { program := "ytpooicjhhogknaa", sum := "8966a845c451f9c9088b811f636714c414be769ac70bf6bb5afda4c722e54a8e", func := "nursery/nurserylaw27.ScopeChains", spec := "scopeChains", unfollowed := true, recurses := true, apart := false }
def ScopeChainsSaid : Prop := scopeChainsRow.holds Try.pinned (OpenSpec.ofChange scopeChainsSpec)

/-- ITS FALSE NEIGHBOUR: 'it returns false'. Refute it at one input. -/
def scopeChainsWrong : ChangeSpec := { name := "scopeChains", fn := fun _ => fun
  | [d1, d2, d3, d4] => { results := [.lit (.bool false)], args := [d1, d2, d3, d4] }
  | _ => none }
def ScopeChainsWrongFalsely : Prop := scopeChainsRow.holds Try.pinned (OpenSpec.ofChange scopeChainsWrong)

/-- 'nurserylaw27.ScopeCounts': WHATEVER THE INPUT: true; the input reads as it did. -/
def scopeCountsSpec : ChangeSpec := { name := "scopeCounts", fn := fun _ => fun
  | [d1, d2] => { results := [.lit (.bool true)], args := [d1, d2] }
  | _ => none }
def scopeCountsRow : OpenClaim := { program := "ytpooicjhhogknaa", sum := "8966a845c451f9c9088b811f636714c414be769ac70bf6bb5afda4c722e54a8e", func := "nursery/nurserylaw27.ScopeCounts", spec := "scopeCounts", unfollowed := true, recurses := true, apart := false }
def ScopeCountsSaid : Prop := scopeCountsRow.holds Try.pinned (OpenSpec.ofChange scopeCountsSpec)

/-- ITS FALSE NEIGHBOUR: 'it returns false'. Refute it at one input. -/
def scopeCountsWrong : ChangeSpec := { name := "scopeCounts", fn := fun _ => fun
  | [d1, d2] => { results := [.lit (.bool false)], args := [d1, d2] }
  | _ => none }
def ScopeCountsWrongFalsely : Prop := scopeCountsRow.holds Try.pinned (OpenSpec.ofChange scopeCountsWrong)

/-- 'nurserylaw27.ScopeBudgets': WHATEVER THE INPUT: true; the input reads as it did. -/
def scopeBudgetsSpec : ChangeSpec := { name := "scopeBudgets", fn := fun _ => fun
  | [d1, d2] => { results := [.lit (.bool true)], args := [d1, d2] }
  | _ => none }
def scopeBudgetsRow : OpenClaim := { program := "ytpooicjhhogknaa", sum := "8966a845c451f9c9088b811f636714c414be769ac70bf6bb5afda4c722e54a8e", func := "nursery/nurserylaw27.ScopeBudgets", spec := "scopeBudgets", unfollowed := true, recurses := true, apart := false }
def ScopeBudgetsSaid : Prop := scopeBudgetsRow.holds Try.pinned (OpenSpec.ofChange scopeBudgetsSpec)

/-- ITS FALSE NEIGHBOUR: 'it returns false'. Refute it at one input. -/
def scopeBudgetsWrong : ChangeSpec := { name := "scopeBudgets", fn := fun _ => fun
  | [d1, d2] => { results := [.lit (.bool false)], args := [d1, d2] }
  | _ => none }
def ScopeBudgetsWrongFalsely : Prop := scopeBudgetsRow.holds Try.pinned (OpenSpec.ofChange scopeBudgetsWrong)

/-- 'nurserylaw27.ScopeValid': WHATEVER THE INPUT: true; the input reads as it did. -/
def scopeValidSpec : ChangeSpec := { name := "scopeValid", fn := fun _ => fun
  | [d1, d2, d3, d4] => { results := [.lit (.bool true)], args := [d1, d2, d3, d4] }
  | _ => none }
def scopeValidRow : OpenClaim := { program := "ytpooicjhhogknaa", sum := "8966a845c451f9c9088b811f636714c414be769ac70bf6bb5afda4c722e54a8e", func := "nursery/nurserylaw27.ScopeValid", spec := "scopeValid", unfollowed := true, recurses := true, apart := false }
def ScopeValidSaid : Prop := scopeValidRow.holds Try.pinned (OpenSpec.ofChange scopeValidSpec)

/-- ITS FALSE NEIGHBOUR: 'it returns false'. Refute it at one input. -/
def scopeValidWrong : ChangeSpec := { name := "scopeValid", fn := fun _ => fun
  | [d1, d2, d3, d4] => { results := [.lit (.bool false)], args := [d1, d2, d3, d4] }
  | _ => none }
def ScopeValidWrongFalsely : Prop := scopeValidRow.holds Try.pinned (OpenSpec.ofChange scopeValidWrong)

/- THE SECOND FORM. 'bulk': how many values and letters a reading holds, each counted each time it is reached (what is shared counts as often as it is met; a slice's spare places count too). A statement '..UptoSaid' is the law's where the arguments, and the package variables that the reading takes, are together of bulk at most 1048576: NARROWER than '..Said'. Prove '..Said' where nothing that the law and all that it calls make is longer than what came in: it says more and counts as full. Else prove '..UptoSaid'. A law counts once. -/
mutual
def uptoBulk {H : Type} : DataW H → Nat
  | .lit (.string bytes) => bytes.length + 1
  | .lit _ => 1
  | .nil => 1
  | .ptr d => uptoBulk d + 1
  | .slice elems spare => uptoBulkAll elems + uptoBulkAll spare + 1
  | .agg parts => uptoBulkAll parts + 1
  | .iface _ d => uptoBulk d + 1
  | .map entries => uptoBulkEntries entries + 1
  | .held _ => 1
def uptoBulkAll {H : Type} : List (DataW H) → Nat
  | [] => 0
  | d :: r => uptoBulk d + uptoBulkAll r
def uptoBulkEntries {H : Type} : List (Lit × DataW H) → Nat
  | [] => 0
  | x :: r => uptoBulkEntry x + uptoBulkEntries r
def uptoBulkEntry {H : Type} : Lit × DataW H → Nat
  | (.string bytes, d) => bytes.length + uptoBulk d + 1
  | (_, d) => uptoBulk d + 1
 end
def uptoSmall : (H : Type) → List (DataW H) → Bool := fun _ ds => decide (uptoBulkAll ds ≤ 1048576)
def OpenSpec.upto (s : _root_.Go.ChangeSpec) : _root_.Go.OpenSpec := { _root_.Go.OpenSpec.ofChange s with cond := some uptoSmall }

/-- 'nurserylaw27.ScopeNested', WHERE WHAT IT READS IS OF BULK AT MOST 1048576: true; the input reads as it did. -/
def scopeNestedUptoRow : OpenClaim := { program := "ytpooicjhhogknaa", sum := "8966a845c451f9c9088b811f636714c414be769ac70bf6bb5afda4c722e54a8e", func := "nursery/nurserylaw27.ScopeNested", spec := "scopeNested", unfollowed := true, recurses := true, apart := false, narrowed := true }
def ScopeNestedUptoSaid : Prop := scopeNestedUptoRow.holds Try.pinned (OpenSpec.upto scopeNestedSpec)

/-- 'nurserylaw27.ScopeCauses', WHERE WHAT IT READS IS OF BULK AT MOST 1048576: true; the input reads as it did. -/
def scopeCausesUptoRow : OpenClaim := { program := "ytpooicjhhogknaa", sum := "8966a845c451f9c9088b811f636714c414be769ac70bf6bb5afda4c722e54a8e", func := "nursery/nurserylaw27.ScopeCauses", spec := "scopeCauses", unfollowed := true, recurses := true, apart := false, narrowed := true }
def ScopeCausesUptoSaid : Prop := scopeCausesUptoRow.holds Try.pinned (OpenSpec.upto scopeCausesSpec)

/-- 'nurserylaw27.ScopeTree', WHERE WHAT IT READS IS OF BULK AT MOST 1048576: true; the input reads as it did. -/
def scopeTreeUptoRow : OpenClaim := { program := "ytpooicjhhogknaa", sum := "8966a845c451f9c9088b811f636714c414be769ac70bf6bb5afda4c722e54a8e", func := "nursery/nurserylaw27.ScopeTree", spec := "scopeTree", unfollowed := true, recurses := true, apart := false, narrowed := true }
def ScopeTreeUptoSaid : Prop := scopeTreeUptoRow.holds Try.pinned (OpenSpec.upto scopeTreeSpec)

/-- 'nurserylaw27.ScopeEnds', WHERE WHAT IT READS IS OF BULK AT MOST 1048576: true; the input reads as it did. -/
def scopeEndsUptoRow : OpenClaim := { program := "ytpooicjhhogknaa", sum := "8966a845c451f9c9088b811f636714c414be769ac70bf6bb5afda4c722e54a8e", func := "nursery/nurserylaw27.ScopeEnds", spec := "scopeEnds", unfollowed := true, recurses := true, apart := false, narrowed := true }
def ScopeEndsUptoSaid : Prop := scopeEndsUptoRow.holds Try.pinned (OpenSpec.upto scopeEndsSpec)

/-- 'nurserylaw27.ScopeChains', WHERE WHAT IT READS IS OF BULK AT MOST 1048576: true; the input reads as it did. -/
def scopeChainsUptoRow : OpenClaim := { program := "ytpooicjhhogknaa", sum := "8966a845c451f9c9088b811f636714c414be769ac70bf6bb5afda4c722e54a8e", func := "nursery/nurserylaw27.ScopeChains", spec := "scopeChains", unfollowed := true, recurses := true, apart := false, narrowed := true }
def ScopeChainsUptoSaid : Prop := scopeChainsUptoRow.holds Try.pinned (OpenSpec.upto scopeChainsSpec)

/-- 'nurserylaw27.ScopeCounts', WHERE WHAT IT READS IS OF BULK AT MOST 1048576: true; the input reads as it did. -/
def scopeCountsUptoRow : OpenClaim := { program := "ytpooicjhhogknaa", sum := "8966a845c451f9c9088b811f636714c414be769ac70bf6bb5afda4c722e54a8e", func := "nursery/nurserylaw27.ScopeCounts", spec := "scopeCounts", unfollowed := true, recurses := true, apart := false, narrowed := true }
def ScopeCountsUptoSaid : Prop := scopeCountsUptoRow.holds Try.pinned (OpenSpec.upto scopeCountsSpec)

/-- 'nurserylaw27.ScopeBudgets', WHERE WHAT IT READS IS OF BULK AT MOST 1048576: true; the input reads as it did. -/
def scopeBudgetsUptoRow : OpenClaim := { program := "ytpooicjhhogknaa", sum := "8966a845c451f9c9088b811f636714c414be769ac70bf6bb5afda4c722e54a8e", func := "nursery/nurserylaw27.ScopeBudgets", spec := "scopeBudgets", unfollowed := true, recurses := true, apart := false, narrowed := true }
def ScopeBudgetsUptoSaid : Prop := scopeBudgetsUptoRow.holds Try.pinned (OpenSpec.upto scopeBudgetsSpec)

/-- 'nurserylaw27.ScopeValid', WHERE WHAT IT READS IS OF BULK AT MOST 1048576: true; the input reads as it did. -/
def scopeValidUptoRow : OpenClaim := { program := "ytpooicjhhogknaa", sum := "8966a845c451f9c9088b811f636714c414be769ac70bf6bb5afda4c722e54a8e", func := "nursery/nurserylaw27.ScopeValid", spec := "scopeValid", unfollowed := true, recurses := true, apart := false, narrowed := true }
def ScopeValidUptoSaid : Prop := scopeValidUptoRow.holds Try.pinned (OpenSpec.upto scopeValidSpec)

end Rows
end Go.Proofs.Ytpooicjhhogknaa
