/-
  The law's examples: they hold (conditions: none).
-/
import Derived.Test.YtjknjapdcphcfaaGreatPre
namespace Go.Proofs.YtjknjapdcphcfaaGreat
open Go Go.RowKit
set_option linter.unusedVariables false
set_option linter.unusedSimpArgs false
set_option maxRecDepth 100000
theorem awkRun : (mkRec Φ 60).pure 5 [] = some (.bool true) := by kernel_rfl
theorem awk : W.pure 5 [] = some (.bool true) := (le_om 60).pure _ _ _ awkRun
end Go.Proofs.YtjknjapdcphcfaaGreat
