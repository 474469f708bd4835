/-
  The law's examples: they hold (conditions: none).
-/
import Derived.Test.YthenmgpbcmlhoaaPre
namespace Go.Proofs.Ythenmgpbcmlhoaa
open Go Go.RowKit
set_option maxRecDepth 100000

theorem run12 : (mkRec Φ 60).pure 12 [] = some (.bool true) := by kernel_rfl
theorem e12 : W.pure 12 [] = some (.bool true) := (le_om 60).pure _ _ _ run12
end Go.Proofs.Ythenmgpbcmlhoaa
