/-
  The law on the numbers of memory's errors and limits, run by the kernel.
-/
import Derived.Test.YtkgfmbbonadpoaaMAlive
import Derived.Test.YtkgfmbbonadpoaaRows
import Derived.WalkKit
import Derived.ProofKit
import Derived.OpenShut
import Derived.ShutString
import Derived.Below
import Derived.WideKeyPair
namespace Go.Proofs.Ytkgfmbbonadpoaa
set_option maxRecDepth 100000
set_option linter.unusedVariables false

theorem names_runs : Runs Try.prog 3 [] (.t (.bool true)) :=
  Runs.of_ncall tab_ok mixed eqs_ok ext0_ok (k := 1000) (by kernel_rfl)

end Go.Proofs.Ytkgfmbbonadpoaa
