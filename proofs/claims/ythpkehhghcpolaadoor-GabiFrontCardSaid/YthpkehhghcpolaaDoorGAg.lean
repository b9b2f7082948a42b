/-
  The chapter's example of layer 19, and the statement without arguments.
-/
import Derived.Test.YthpkehhghcpolaaDoorGix
namespace Go.Proofs.YthpkehhghcpolaaDoor
set_option maxRecDepth 100000
theorem gabiAlive_runs : Runs Tryd.prog 16 [] (.t (.bool true)) :=
  Runs.of_qcallH tab_ok mixed eqs_ok gext_ok (k := 1000) (by kernel_rfl)
end Go.Proofs.YthpkehhghcpolaaDoor
