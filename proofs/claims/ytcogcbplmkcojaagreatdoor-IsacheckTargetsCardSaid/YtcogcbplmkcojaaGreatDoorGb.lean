/-
  The ground of this seat's walks.
-/
import Derived.Test.YtcogcbplmkcojaaGreatDoorFg
import Derived.Test.YtcogcbplmkcojaaGreatDoorFb
import Derived.Test.YtcogcbplmkcojaaGreatDoorProg
import Derived.Test.YtcogcbplmkcojaaGreatDoorChecked
import Derived.KernelRfl
namespace Go.Proofs.YtcogcbplmkcojaaGreatDoor
set_option maxRecDepth 100000
set_option linter.unusedVariables false
noncomputable def tab : a9 := Ow Tryz.prog
noncomputable def xg : a9 := FJ Tryz.prog
theorem ζ : bi Tryz.prog xg := FI _
theorem mixed : Tryz.prog.follows .mixedOrders = true := Tryz.checked.mixed
end Go.Proofs.YtcogcbplmkcojaaGreatDoor
