/-
  The statements of layer 5 without arguments.
-/
import Derived.Test.YtnjmeadmkbkikaaGreatDoorGt
namespace Go.Proofs.YtnjmeadmkbkikaaGreatDoor
set_option maxRecDepth 100000
theorem isacheckAlive_runs : Runs Tryz.prog 8 [] (.t (.bool true)) :=
  Runs.of_qcall tab_ok mixed eqs_ok (extK_ok ext0_ok toy_runs) (k := 1000) (by kernel_rfl)
end Go.Proofs.YtnjmeadmkbkikaaGreatDoor
