/-
  The law on checks, for whatever bytes.
-/
import Derived.Test.YthpkehhghcpolaaDoorCkc
import Derived.Test.YthpkehhghcpolaaDoorGAg
import Derived.Test.YthpkehhghcpolaaDoorFb
namespace Go.Proofs.YthpkehhghcpolaaDoor
open Go.IntWalk
set_option maxRecDepth 100000
set_option linter.unusedVariables false
set_option linter.unusedSimpArgs false

theorem fits1 {n : Nat} (h : n ≤ 140737488355328) : fitsRow n 1 = true := by simp [fitsRow]; omega

end Go.Proofs.YthpkehhghcpolaaDoor
