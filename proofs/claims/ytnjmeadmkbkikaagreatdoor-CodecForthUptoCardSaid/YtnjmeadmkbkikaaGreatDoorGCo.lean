/-
  The toy's instruction there and back (dovetaillaw06.codecAlive: a closed run).
-/
import Derived.Test.YtnjmeadmkbkikaaGreatDoorGb
namespace Go.Proofs.YtnjmeadmkbkikaaGreatDoor
set_option maxRecDepth 100000
theorem codecAlive_runs : Runs Tryz.prog 11 [] (.t (.bool true)) := Runs.of_ncall tab_ok mixed eqs_ok ext0_ok (k := 1000) (by kernel_rfl)
end Go.Proofs.YtnjmeadmkbkikaaGreatDoor
