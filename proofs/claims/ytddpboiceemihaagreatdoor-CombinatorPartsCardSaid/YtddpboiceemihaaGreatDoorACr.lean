/-
  The example (conditions: none).
-/
import Derived.Test.YtddpboiceemihaaGreatDoorPrer
namespace Go.Proofs.YtddpboiceemihaaGreatDoor
open Go Go.RowKit
set_option linter.unusedVariables false
set_option linter.unusedSimpArgs false
set_option maxRecDepth 100000
theorem e10 : W.pure 10 [] = some (.bool true) := (le_om 300).pure _ _ _ (by kernel_rfl)
end Go.Proofs.YtddpboiceemihaaGreatDoor
