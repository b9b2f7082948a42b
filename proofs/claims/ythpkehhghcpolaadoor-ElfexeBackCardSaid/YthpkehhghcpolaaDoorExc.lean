/-
  An executable's file is well-formed (plain).
-/
import Derived.Test.YthpkehhghcpolaaDoorExb
namespace Go.Proofs.YthpkehhghcpolaaDoor
open Go.IntWalk
set_option linter.unusedVariables false

end Go.Proofs.YthpkehhghcpolaaDoor
