/-
  The first place of a byte: the function that the model itself knows.
-/
import Derived.Test.YthpkehhghcpolaaDoorGb
import Derived.Lib.BytesEntry
import Derived.Lib.IndexLaws
import Derived.KernelRfl
namespace Go.Proofs.YthpkehhghcpolaaDoor
open Go.RowKit
set_option linter.unusedVariables false
set_option linter.unusedSimpArgs false
set_option maxRecDepth 100000

end Go.Proofs.YthpkehhghcpolaaDoor
