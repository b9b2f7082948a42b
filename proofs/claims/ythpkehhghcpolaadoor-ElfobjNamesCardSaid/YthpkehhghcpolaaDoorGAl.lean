/-
  The chapters' examples of the layers 17 and 19, and the statements without arguments.
-/
import Derived.Test.YthpkehhghcpolaaDoorGix
namespace Go.Proofs.YthpkehhghcpolaaDoor
set_option maxRecDepth 100000
theorem elfobjAlive_runs : Runs Tryd.prog 22 [] (.t (.bool true)) :=
  Runs.of_qcallH tab_ok mixed eqs_ok bext_ok (k := 1000) (by kernel_rfl)
theorem elfobjNames_runs : Runs Tryd.prog 7 [] (.t (.bool true)) :=
  Runs.of_qcall tab_ok mixed eqs_ok (extK_ok ext0_ok elfobjAlive_runs) (k := 1000) (by kernel_rfl)
end Go.Proofs.YthpkehhghcpolaaDoor
