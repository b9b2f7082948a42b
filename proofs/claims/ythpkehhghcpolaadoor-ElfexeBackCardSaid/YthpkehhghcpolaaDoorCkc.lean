/-
  The sections of a file: the document's function; the two programs' answers on a file.
-/
import Derived.Test.YthpkehhghcpolaaDoorCkb
namespace Go.Proofs.YthpkehhghcpolaaDoor
open Go.IntWalk
set_option maxRecDepth 100000
set_option linter.unusedVariables false
set_option linter.unusedSimpArgs false

/-! ### The answers -/

end Go.Proofs.YthpkehhghcpolaaDoor
