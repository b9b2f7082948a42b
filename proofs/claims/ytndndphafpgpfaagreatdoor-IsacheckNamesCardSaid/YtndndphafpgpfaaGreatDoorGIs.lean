/-
  The statements of layer 5 without arguments.
-/
import Derived.Test.YtndndphafpgpfaaGreatDoorGt
namespace Go.Proofs.YtndndphafpgpfaaGreatDoor
set_option maxRecDepth 100000
theorem isacheckAlive_runs : Runs Tryz.prog 7 [] (.t (.bool true)) :=
  Runs.of_qcall tab_ok mixed eqs_ok (extK_ok ext0_ok toy_runs) (k := 1000) (by kernel_rfl)
theorem names_runs : Runs Tryz.prog 3 [] (.t (.bool true)) :=
  Runs.of_qcall tab_ok mixed eqs_ok (extK_ok ext0_ok isacheckAlive_runs) (k := 1000) (by kernel_rfl)
end Go.Proofs.YtndndphafpgpfaaGreatDoor
