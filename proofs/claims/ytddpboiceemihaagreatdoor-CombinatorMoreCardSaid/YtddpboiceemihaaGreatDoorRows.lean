/-
  NARROWER THAN 'FOR EVERY INPUT', by the rows' own cells (each row's printed sentence says how): CombinatorLists: laid · CombinatorSingles: laid · CombinatorProcs: laid · CombinatorMore: laid · CombinatorParts: loops, laid · CombinatorTexts: laid.
  DERIVED. THE GIVEN ROWS OF THIS SEAT. 6 by the template 'for every input the law returns true; each argument reads behind the call as it read before'; 0 by the template 'total and deterministic' (their statements: YtddpboiceemihaaGreatDoorTotals.lean).
  GIVEN WITH THE SEED: the statements are not yours to turn. If you find one false, say at which input.
  Laid BY PROGRAM, IN A SANDBOX (cutbox-rows.mjs): the forced cells as the released guide's own fill.sh prints them over the translation 1789fe4695288805… (all of the seat's roots in one cut). By AI agents, Wed Nov 11 2026. No macro, syntax, notation, axiom, sorry.
-/
import Derived.Test.YtddpboiceemihaaGreatDoorChecked
import GoSem.Claim
import GoSem.ClaimJoined
import GoSem.ClaimMapViews
import Derived.JoinedTies
import Derived.KernelRfl
namespace Go.Proofs.YtddpboiceemihaaGreatDoor
/- THE CELL 'sum', in the pinned program and in every row, IS THE sha256 OF THE DUMP (.gsa) THAT YtddpboiceemihaaGreatDoorProg.lean LOADS. Nothing in Lean hashes anything: it is a label: what it is worth is what the hold of that sum in a sandbox is worth. -/
noncomputable def Tryz.pinned : Pinned := { name := "ytddpboiceemihaagreatdoor", sum := "1789fe4695288805cfef991e79ed028bb4d5102247743a4851bbac58492006f5", checked := Tryz.checked }
namespace Rows
def none {H : Type} : Left H := { results := [], args := [] }

/- WHAT THE LISTED PACKAGE-LEVEL VARIABLES READ AS WHEN THE CALL BEGINS. Each datum BY PROGRAM (the guide's laid-datum.mjs) off the statement by which the dump's own 'gosem.cut.vars' lays the variable. In a bare row this is a premise. The card (YtddpboiceemihaaGreatDoorCards.lean) ties it to the program's text. -/
def laid_math_bits_deBruijn32tab {H : Type} : DataW H := .agg [.lit (.int .u8 0), .lit (.int .u8 1), .lit (.int .u8 28), .lit (.int .u8 2), .lit (.int .u8 29), .lit (.int .u8 14), .lit (.int .u8 24), .lit (.int .u8 3), .lit (.int .u8 30), .lit (.int .u8 22), .lit (.int .u8 20), .lit (.int .u8 15), .lit (.int .u8 25), .lit (.int .u8 17), .lit (.int .u8 4), .lit (.int .u8 8), .lit (.int .u8 31), .lit (.int .u8 27), .lit (.int .u8 13), .lit (.int .u8 23), .lit (.int .u8 21), .lit (.int .u8 19), .lit (.int .u8 16), .lit (.int .u8 7), .lit (.int .u8 26), .lit (.int .u8 12), .lit (.int .u8 18), .lit (.int .u8 6), .lit (.int .u8 11), .lit (.int .u8 5), .lit (.int .u8 10), .lit (.int .u8 9)]
def laid_math_bits_deBruijn64tab {H : Type} : DataW H := .agg [.lit (.int .u8 0), .lit (.int .u8 1), .lit (.int .u8 56), .lit (.int .u8 2), .lit (.int .u8 57), .lit (.int .u8 49), .lit (.int .u8 28), .lit (.int .u8 3), .lit (.int .u8 61), .lit (.int .u8 58), .lit (.int .u8 42), .lit (.int .u8 50), .lit (.int .u8 38), .lit (.int .u8 29), .lit (.int .u8 17), .lit (.int .u8 4), .lit (.int .u8 62), .lit (.int .u8 47), .lit (.int .u8 59), .lit (.int .u8 36), .lit (.int .u8 45), .lit (.int .u8 43), .lit (.int .u8 51), .lit (.int .u8 22), .lit (.int .u8 53), .lit (.int .u8 39), .lit (.int .u8 33), .lit (.int .u8 30), .lit (.int .u8 24), .lit (.int .u8 18), .lit (.int .u8 12), .lit (.int .u8 5), .lit (.int .u8 63), .lit (.int .u8 55), .lit (.int .u8 48), .lit (.int .u8 27), .lit (.int .u8 60), .lit (.int .u8 41), .lit (.int .u8 37), .lit (.int .u8 16), .lit (.int .u8 46), .lit (.int .u8 35), .lit (.int .u8 44), .lit (.int .u8 21), .lit (.int .u8 52), .lit (.int .u8 32), .lit (.int .u8 23), .lit (.int .u8 11), .lit (.int .u8 54), .lit (.int .u8 26), .lit (.int .u8 40), .lit (.int .u8 15), .lit (.int .u8 34), .lit (.int .u8 20), .lit (.int .u8 31), .lit (.int .u8 10), .lit (.int .u8 25), .lit (.int .u8 14), .lit (.int .u8 19), .lit (.int .u8 9), .lit (.int .u8 13), .lit (.int .u8 8), .lit (.int .u8 7), .lit (.int .u8 6)]
def laid_internal_strconv_uint64pow10 {H : Type} : DataW H := .agg [.lit (.int .u64 1), .lit (.int .u64 10), .lit (.int .u64 100), .lit (.int .u64 1000), .lit (.int .u64 10000), .lit (.int .u64 100000), .lit (.int .u64 1000000), .lit (.int .u64 10000000), .lit (.int .u64 100000000), .lit (.int .u64 1000000000), .lit (.int .u64 10000000000), .lit (.int .u64 100000000000), .lit (.int .u64 1000000000000), .lit (.int .u64 10000000000000), .lit (.int .u64 100000000000000), .lit (.int .u64 1000000000000000), .lit (.int .u64 10000000000000000), .lit (.int .u64 100000000000000000), .lit (.int .u64 1000000000000000000), .lit (.int .u64 10000000000000000000)]

/-- 'nurserylaw15.CombinatorLists': WHATEVER THE INPUT: true; the input reads as it did. -/
def combinatorListsSpec : ChangeSpec := { name := "combinatorLists", fn := fun _ => fun
  | [d] => { results := [.lit (.bool true)], args := [d] }
  | _ => none }
def combinatorListsRow : OpenClaim := { program := "ytddpboiceemihaagreatdoor", sum := "1789fe4695288805cfef991e79ed028bb4d5102247743a4851bbac58492006f5", func := "nursery/nurserylaw15.CombinatorLists", spec := "combinatorLists", inPlace := ["internal/bytealg.IndexByteString", "internal/bytealg.IndexString", "internal/abi.NoEscape", "internal/bytealg.MakeNoZero"], unfollowed := true, recurses := true, named := ["internal/bytealg.MaxLen", "internal/strconv.uint64pow10", "math/bits.deBruijn32tab", "math/bits.deBruijn64tab"], apart := false, laid := [("math/bits.deBruijn32tab", laid_math_bits_deBruijn32tab), ("math/bits.deBruijn64tab", laid_math_bits_deBruijn64tab), ("internal/strconv.uint64pow10", laid_internal_strconv_uint64pow10)] }
def CombinatorListsSaid : Prop := combinatorListsRow.holds Tryz.pinned (OpenSpec.ofChange combinatorListsSpec)

/-- ITS FALSE NEIGHBOUR: 'it returns false'. Refute it at one input. -/
def combinatorListsWrong : ChangeSpec := { name := "combinatorLists", fn := fun _ => fun
  | [d] => { results := [.lit (.bool false)], args := [d] }
  | _ => none }
def CombinatorListsWrongFalsely : Prop := combinatorListsRow.holds Tryz.pinned (OpenSpec.ofChange combinatorListsWrong)

/-- 'nurserylaw15.CombinatorSingles': WHATEVER THE INPUT: true; the input reads as it did. -/
def combinatorSinglesSpec : ChangeSpec := { name := "combinatorSingles", fn := fun _ => fun
  | [d] => { results := [.lit (.bool true)], args := [d] }
  | _ => none }
def combinatorSinglesRow : OpenClaim := { program := "ytddpboiceemihaagreatdoor", sum := "1789fe4695288805cfef991e79ed028bb4d5102247743a4851bbac58492006f5", func := "nursery/nurserylaw15.CombinatorSingles", spec := "combinatorSingles", inPlace := ["internal/bytealg.IndexByteString", "internal/bytealg.IndexString", "internal/abi.NoEscape", "internal/bytealg.MakeNoZero"], unfollowed := true, recurses := true, named := ["internal/bytealg.MaxLen", "internal/strconv.uint64pow10", "math/bits.deBruijn32tab", "math/bits.deBruijn64tab"], apart := false, laid := [("math/bits.deBruijn32tab", laid_math_bits_deBruijn32tab), ("math/bits.deBruijn64tab", laid_math_bits_deBruijn64tab), ("internal/strconv.uint64pow10", laid_internal_strconv_uint64pow10)] }
def CombinatorSinglesSaid : Prop := combinatorSinglesRow.holds Tryz.pinned (OpenSpec.ofChange combinatorSinglesSpec)

/-- ITS FALSE NEIGHBOUR: 'it returns false'. Refute it at one input. -/
def combinatorSinglesWrong : ChangeSpec := { name := "combinatorSingles", fn := fun _ => fun
  | [d] => { results := [.lit (.bool false)], args := [d] }
  | _ => none }
def CombinatorSinglesWrongFalsely : Prop := combinatorSinglesRow.holds Tryz.pinned (OpenSpec.ofChange combinatorSinglesWrong)

/-- 'nurserylaw15.CombinatorProcs': WHATEVER THE INPUT: true; the input reads as it did. -/
def combinatorProcsSpec : ChangeSpec := { name := "combinatorProcs", fn := fun _ => fun
  | [d] => { results := [.lit (.bool true)], args := [d] }
  | _ => none }
def combinatorProcsRow : OpenClaim := { program := "ytddpboiceemihaagreatdoor", sum := "1789fe4695288805cfef991e79ed028bb4d5102247743a4851bbac58492006f5", func := "nursery/nurserylaw15.CombinatorProcs", spec := "combinatorProcs", inPlace := ["internal/bytealg.IndexByteString", "internal/bytealg.IndexString", "internal/abi.NoEscape", "internal/bytealg.MakeNoZero"], unfollowed := true, recurses := true, named := ["internal/bytealg.MaxLen", "internal/strconv.uint64pow10", "math/bits.deBruijn32tab", "math/bits.deBruijn64tab"], apart := false, laid := [("math/bits.deBruijn32tab", laid_math_bits_deBruijn32tab), ("math/bits.deBruijn64tab", laid_math_bits_deBruijn64tab), ("internal/strconv.uint64pow10", laid_internal_strconv_uint64pow10)] }
def CombinatorProcsSaid : Prop := combinatorProcsRow.holds Tryz.pinned (OpenSpec.ofChange combinatorProcsSpec)

/-- ITS FALSE NEIGHBOUR: 'it returns false'. Refute it at one input. -/
def combinatorProcsWrong : ChangeSpec := { name := "combinatorProcs", fn := fun _ => fun
  | [d] => { results := [.lit (.bool false)], args := [d] }
  | _ => none }
def CombinatorProcsWrongFalsely : Prop := combinatorProcsRow.holds Tryz.pinned (OpenSpec.ofChange combinatorProcsWrong)

/-- 'nurserylaw15.CombinatorMore': WHATEVER THE INPUT: true; the input reads as it did. -/
def combinatorMoreSpec : ChangeSpec := { name := "combinatorMore", fn := fun _ => fun
  | [d1, d2] => { results := [.lit (.bool true)], args := [d1, d2] }
  | _ => none }
def combinatorMoreRow : OpenClaim := { program := "ytddpboiceemihaagreatdoor", sum := "1789fe4695288805cfef991e79ed028bb4d5102247743a4851bbac58492006f5", func := "nursery/nurserylaw15.CombinatorMore", spec := "combinatorMore", inPlace := ["internal/bytealg.IndexByteString", "internal/bytealg.IndexString", "internal/abi.NoEscape", "internal/bytealg.MakeNoZero"], unfollowed := true, recurses := true, named := ["internal/bytealg.MaxLen", "internal/strconv.uint64pow10", "math/bits.deBruijn32tab", "math/bits.deBruijn64tab"], apart := false, laid := [("math/bits.deBruijn32tab", laid_math_bits_deBruijn32tab), ("math/bits.deBruijn64tab", laid_math_bits_deBruijn64tab), ("internal/strconv.uint64pow10", laid_internal_strconv_uint64pow10)] }
def CombinatorMoreSaid : Prop := combinatorMoreRow.holds Tryz.pinned (OpenSpec.ofChange combinatorMoreSpec)

/-- ITS FALSE NEIGHBOUR: 'it returns false'. Refute it at one input. -/
def combinatorMoreWrong : ChangeSpec := { name := "combinatorMore", fn := fun _ => fun
  | [d1, d2] => { results := [.lit (.bool false)], args := [d1, d2] }
  | _ => none }
def CombinatorMoreWrongFalsely : Prop := combinatorMoreRow.holds Tryz.pinned (OpenSpec.ofChange combinatorMoreWrong)

/-- 'nurserylaw15.CombinatorParts': WHATEVER THE INPUT: true; the input reads as it did. -/
def combinatorPartsSpec : ChangeSpec := { name := "combinatorParts", fn := fun _ => fun
  | [d1, d2, d3] => { results := [.lit (.bool true)], args := [d1, d2, d3] }
  | _ => none }
def combinatorPartsRow : OpenClaim := { program := "ytddpboiceemihaagreatdoor", sum := "1789fe4695288805cfef991e79ed028bb4d5102247743a4851bbac58492006f5", func := "nursery/nurserylaw15.CombinatorParts", spec := "combinatorParts", inPlace := ["internal/bytealg.IndexByteString", "internal/bytealg.IndexString", "internal/abi.NoEscape", "internal/bytealg.MakeNoZero"], unfollowed := true, recurses := true, named := ["internal/bytealg.MaxLen", "internal/strconv.uint64pow10", "math/bits.deBruijn32tab", "math/bits.deBruijn64tab"], loops := true, apart := false, laid := [("math/bits.deBruijn32tab", laid_math_bits_deBruijn32tab), ("math/bits.deBruijn64tab", laid_math_bits_deBruijn64tab), ("internal/strconv.uint64pow10", laid_internal_strconv_uint64pow10)] }
def CombinatorPartsSaid : Prop := combinatorPartsRow.holds Tryz.pinned (OpenSpec.ofChange combinatorPartsSpec)

/-- ITS FALSE NEIGHBOUR: 'it returns false'. Refute it at one input. -/
def combinatorPartsWrong : ChangeSpec := { name := "combinatorParts", fn := fun _ => fun
  | [d1, d2, d3] => { results := [.lit (.bool false)], args := [d1, d2, d3] }
  | _ => none }
def CombinatorPartsWrongFalsely : Prop := combinatorPartsRow.holds Tryz.pinned (OpenSpec.ofChange combinatorPartsWrong)

/-- 'nurserylaw15.CombinatorTexts': WHATEVER THE INPUT: true; the input reads as it did. -/
def combinatorTextsSpec : ChangeSpec := { name := "combinatorTexts", fn := fun _ => fun
  | [d] => { results := [.lit (.bool true)], args := [d] }
  | _ => none }
def combinatorTextsRow : OpenClaim := { program := "ytddpboiceemihaagreatdoor", sum := "1789fe4695288805cfef991e79ed028bb4d5102247743a4851bbac58492006f5", func := "nursery/nurserylaw15.CombinatorTexts", spec := "combinatorTexts", inPlace := ["internal/bytealg.IndexByteString", "internal/bytealg.IndexString", "internal/abi.NoEscape", "internal/bytealg.MakeNoZero"], unfollowed := true, recurses := true, named := ["internal/bytealg.MaxLen", "internal/strconv.uint64pow10", "math/bits.deBruijn32tab", "math/bits.deBruijn64tab"], apart := false, laid := [("math/bits.deBruijn32tab", laid_math_bits_deBruijn32tab), ("math/bits.deBruijn64tab", laid_math_bits_deBruijn64tab), ("internal/strconv.uint64pow10", laid_internal_strconv_uint64pow10)] }
def CombinatorTextsSaid : Prop := combinatorTextsRow.holds Tryz.pinned (OpenSpec.ofChange combinatorTextsSpec)

/-- ITS FALSE NEIGHBOUR: 'it returns false'. Refute it at one input. -/
def combinatorTextsWrong : ChangeSpec := { name := "combinatorTexts", fn := fun _ => fun
  | [d] => { results := [.lit (.bool false)], args := [d] }
  | _ => none }
def CombinatorTextsWrongFalsely : Prop := combinatorTextsRow.holds Tryz.pinned (OpenSpec.ofChange combinatorTextsWrong)

/- THE SECOND FORM. 'bulk': how many values and letters a reading holds, each counted each time it is reached (what is shared counts as often as it is met; a slice's spare places count too). A statement '..UptoSaid' is the law's where the arguments, and the package variables that the reading takes, are together of bulk at most 1048576: NARROWER than '..Said'. Prove '..Said' where nothing that the law and all that it calls make is longer than what came in: it says more and counts as full. Else prove '..UptoSaid'. A law counts once. -/
mutual
def uptoBulk {H : Type} : DataW H → Nat
  | .lit (.string bytes) => bytes.length + 1
  | .lit _ => 1
  | .nil => 1
  | .ptr d => uptoBulk d + 1
  | .slice elems spare => uptoBulkAll elems + uptoBulkAll spare + 1
  | .agg parts => uptoBulkAll parts + 1
  | .iface _ d => uptoBulk d + 1
  | .map entries => uptoBulkEntries entries + 1
  | .held _ => 1
def uptoBulkAll {H : Type} : List (DataW H) → Nat
  | [] => 0
  | d :: r => uptoBulk d + uptoBulkAll r
def uptoBulkEntries {H : Type} : List (Lit × DataW H) → Nat
  | [] => 0
  | x :: r => uptoBulkEntry x + uptoBulkEntries r
def uptoBulkEntry {H : Type} : Lit × DataW H → Nat
  | (.string bytes, d) => bytes.length + uptoBulk d + 1
  | (_, d) => uptoBulk d + 1
 end
def uptoSmall : (H : Type) → List (DataW H) → Bool := fun _ ds => decide (uptoBulkAll ds ≤ 1048576)
def OpenSpec.upto (s : _root_.Go.ChangeSpec) : _root_.Go.OpenSpec := { _root_.Go.OpenSpec.ofChange s with cond := some uptoSmall }

/-- 'nurserylaw15.CombinatorLists', WHERE WHAT IT READS IS OF BULK AT MOST 1048576: true; the input reads as it did. -/
def combinatorListsUptoRow : OpenClaim := { program := "ytddpboiceemihaagreatdoor", sum := "1789fe4695288805cfef991e79ed028bb4d5102247743a4851bbac58492006f5", func := "nursery/nurserylaw15.CombinatorLists", spec := "combinatorLists", inPlace := ["internal/bytealg.IndexByteString", "internal/bytealg.IndexString", "internal/abi.NoEscape", "internal/bytealg.MakeNoZero"], unfollowed := true, recurses := true, named := ["internal/bytealg.MaxLen", "internal/strconv.uint64pow10", "math/bits.deBruijn32tab", "math/bits.deBruijn64tab"], apart := false, laid := [("math/bits.deBruijn32tab", laid_math_bits_deBruijn32tab), ("math/bits.deBruijn64tab", laid_math_bits_deBruijn64tab), ("internal/strconv.uint64pow10", laid_internal_strconv_uint64pow10)], narrowed := true }
def CombinatorListsUptoSaid : Prop := combinatorListsUptoRow.holds Tryz.pinned (OpenSpec.upto combinatorListsSpec)

/-- 'nurserylaw15.CombinatorSingles', WHERE WHAT IT READS IS OF BULK AT MOST 1048576: true; the input reads as it did. -/
def combinatorSinglesUptoRow : OpenClaim := { program := "ytddpboiceemihaagreatdoor", sum := "1789fe4695288805cfef991e79ed028bb4d5102247743a4851bbac58492006f5", func := "nursery/nurserylaw15.CombinatorSingles", spec := "combinatorSingles", inPlace := ["internal/bytealg.IndexByteString", "internal/bytealg.IndexString", "internal/abi.NoEscape", "internal/bytealg.MakeNoZero"], unfollowed := true, recurses := true, named := ["internal/bytealg.MaxLen", "internal/strconv.uint64pow10", "math/bits.deBruijn32tab", "math/bits.deBruijn64tab"], apart := false, laid := [("math/bits.deBruijn32tab", laid_math_bits_deBruijn32tab), ("math/bits.deBruijn64tab", laid_math_bits_deBruijn64tab), ("internal/strconv.uint64pow10", laid_internal_strconv_uint64pow10)], narrowed := true }
def CombinatorSinglesUptoSaid : Prop := combinatorSinglesUptoRow.holds Tryz.pinned (OpenSpec.upto combinatorSinglesSpec)

/-- 'nurserylaw15.CombinatorProcs', WHERE WHAT IT READS IS OF BULK AT MOST 1048576: true; the input reads as it did. -/
def combinatorProcsUptoRow : OpenClaim := { program := "ytddpboiceemihaagreatdoor", sum := "1789fe4695288805cfef991e79ed028bb4d5102247743a4851bbac58492006f5", func := "nursery/nurserylaw15.CombinatorProcs", spec := "combinatorProcs", inPlace := ["internal/bytealg.IndexByteString", "internal/bytealg.IndexString", "internal/abi.NoEscape", "internal/bytealg.MakeNoZero"], unfollowed := true, recurses := true, named := ["internal/bytealg.MaxLen", "internal/strconv.uint64pow10", "math/bits.deBruijn32tab", "math/bits.deBruijn64tab"], apart := false, laid := [("math/bits.deBruijn32tab", laid_math_bits_deBruijn32tab), ("math/bits.deBruijn64tab", laid_math_bits_deBruijn64tab), ("internal/strconv.uint64pow10", laid_internal_strconv_uint64pow10)], narrowed := true }
def CombinatorProcsUptoSaid : Prop := combinatorProcsUptoRow.holds Tryz.pinned (OpenSpec.upto combinatorProcsSpec)

/-- 'nurserylaw15.CombinatorMore', WHERE WHAT IT READS IS OF BULK AT MOST 1048576: true; the input reads as it did. -/
def combinatorMoreUptoRow : OpenClaim := { program := "ytddpboiceemihaagreatdoor", sum := "1789fe4695288805cfef991e79ed028bb4d5102247743a4851bbac58492006f5", func := "nursery/nurserylaw15.CombinatorMore", spec := "combinatorMore", inPlace := ["internal/bytealg.IndexByteString", "internal/bytealg.IndexString", "internal/abi.NoEscape", "internal/bytealg.MakeNoZero"], unfollowed := true, recurses := true, named := ["internal/bytealg.MaxLen", "internal/strconv.uint64pow10", "math/bits.deBruijn32tab", "math/bits.deBruijn64tab"], apart := false, laid := [("math/bits.deBruijn32tab", laid_math_bits_deBruijn32tab), ("math/bits.deBruijn64tab", laid_math_bits_deBruijn64tab), ("internal/strconv.uint64pow10", laid_internal_strconv_uint64pow10)], narrowed := true }
def CombinatorMoreUptoSaid : Prop := combinatorMoreUptoRow.holds Tryz.pinned (OpenSpec.upto combinatorMoreSpec)

/-- 'nurserylaw15.CombinatorParts', WHERE WHAT IT READS IS OF BULK AT MOST 1048576: true; the input reads as it did. -/
def combinatorPartsUptoRow : OpenClaim := { program := "ytddpboiceemihaagreatdoor", sum := "1789fe4695288805cfef991e79ed028bb4d5102247743a4851bbac58492006f5", func := "nursery/nurserylaw15.CombinatorParts", spec := "combinatorParts", inPlace := ["internal/bytealg.IndexByteString", "internal/bytealg.IndexString", "internal/abi.NoEscape", "internal/bytealg.MakeNoZero"], unfollowed := true, recurses := true, named := ["internal/bytealg.MaxLen", "internal/strconv.uint64pow10", "math/bits.deBruijn32tab", "math/bits.deBruijn64tab"], loops := true, apart := false, laid := [("math/bits.deBruijn32tab", laid_math_bits_deBruijn32tab), ("math/bits.deBruijn64tab", laid_math_bits_deBruijn64tab), ("internal/strconv.uint64pow10", laid_internal_strconv_uint64pow10)], narrowed := true }
def CombinatorPartsUptoSaid : Prop := combinatorPartsUptoRow.holds Tryz.pinned (OpenSpec.upto combinatorPartsSpec)

/-- 'nurserylaw15.CombinatorTexts', WHERE WHAT IT READS IS OF BULK AT MOST 1048576: true; the input reads as it did. -/
def combinatorTextsUptoRow : OpenClaim := { program := "ytddpboiceemihaagreatdoor", sum := "1789fe4695288805cfef991e79ed028bb4d5102247743a4851bbac58492006f5", func := "nursery/nurserylaw15.CombinatorTexts", spec := "combinatorTexts", inPlace := ["internal/bytealg.IndexByteString", "internal/bytealg.IndexString", "internal/abi.NoEscape", "internal/bytealg.MakeNoZero"], unfollowed := true, recurses := true, named := ["internal/bytealg.MaxLen", "internal/strconv.uint64pow10", "math/bits.deBruijn32tab", "math/bits.deBruijn64tab"], apart := false, laid := [("math/bits.deBruijn32tab", laid_math_bits_deBruijn32tab), ("math/bits.deBruijn64tab", laid_math_bits_deBruijn64tab), ("internal/strconv.uint64pow10", laid_internal_strconv_uint64pow10)], narrowed := true }
def CombinatorTextsUptoSaid : Prop := combinatorTextsUptoRow.holds Tryz.pinned (OpenSpec.upto combinatorTextsSpec)

end Rows
end Go.Proofs.YtddpboiceemihaaGreatDoor
