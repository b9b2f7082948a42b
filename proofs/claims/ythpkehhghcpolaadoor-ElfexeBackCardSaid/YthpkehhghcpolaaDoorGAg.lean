/-
  The chapter's example of layer 19, and the statement without arguments.
-/
import Derived.Test.YthpkehhghcpolaaDoorGix
namespace Go.Proofs.YthpkehhghcpolaaDoor
set_option maxRecDepth 100000
end Go.Proofs.YthpkehhghcpolaaDoor
