/-
  The chapter's example of layer 18, and the statement without arguments.
-/
import Derived.Test.YthfdekheipbmnaaDoorGb
namespace Go.Proofs.YthfdekheipbmnaaDoor
set_option maxRecDepth 100000
theorem elfexeAlive_runs : Runs Tryd.prog 4 [] (.t (.bool true)) :=
  Runs.of_qcall tab_ok mixed eqs_ok ext0_ok (k := 1000) (by kernel_rfl)
theorem elfexeNames_runs : Runs Tryd.prog 3 [] (.t (.bool true)) :=
  Runs.of_qcall tab_ok mixed eqs_ok (extK_ok ext0_ok elfexeAlive_runs) (k := 1000) (by kernel_rfl)
end Go.Proofs.YthfdekheipbmnaaDoor
