/-
  Loops over two lists at once (conditions: none).
-/
import Derived.Test.YtbddckhdbnmamaaGreatPres
namespace Go.Proofs.YtbddckhdbnmamaaGreat
open Go Go.RowKit
set_option linter.unusedVariables false
set_option linter.unusedSimpArgs false
def all2 {α β:Type} (p:α→β→Bool):List α→List β→Bool
 | [],[]=>true
 |a::r,b::s=>p a b&&all2 p r s
 |_,_=>false
end Go.Proofs.YtbddckhdbnmamaaGreat
