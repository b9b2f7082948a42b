/-
  The segments of a file: the program's function.
-/
import Derived.Test.YthpkehhghcpolaaDoorCk4
namespace Go.Proofs.YthpkehhghcpolaaDoor
open Go.IntWalk
set_option maxRecDepth 100000
set_option linter.unusedVariables false
set_option linter.unusedSimpArgs false

end Go.Proofs.YthpkehhghcpolaaDoor
