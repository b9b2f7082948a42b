/-
  The front alone of an executable's file is not well-formed (plain).
-/
import Derived.Test.YthpkehhghcpolaaDoorExc
namespace Go.Proofs.YthpkehhghcpolaaDoor
open Go.IntWalk
set_option linter.unusedVariables false

end Go.Proofs.YthpkehhghcpolaaDoor
