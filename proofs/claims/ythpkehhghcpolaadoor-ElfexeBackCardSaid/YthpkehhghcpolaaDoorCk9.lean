/-
  Symbol tables of a file: the document's function.
-/
import Derived.Test.YthpkehhghcpolaaDoorCk8
namespace Go.Proofs.YthpkehhghcpolaaDoor
open Go.IntWalk
set_option maxRecDepth 100000
set_option linter.unusedVariables false
set_option linter.unusedSimpArgs false

end Go.Proofs.YthpkehhghcpolaaDoor
