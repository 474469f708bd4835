/-
  The law's examples: they hold (conditions: none).
-/
import Derived.Test.YtjknjapdcphcfaaPre
namespace Go.Proofs.Ytjknjapdcphcfaa
open Go Go.RowKit
set_option maxRecDepth 100000

theorem awkRun : (mkRec Φ 60).pure 11 [] = some (.bool true) := by kernel_rfl
theorem awk : W.pure 11 [] = some (.bool true) := (le_om 60).pure _ _ _ awkRun
end Go.Proofs.Ytjknjapdcphcfaa
