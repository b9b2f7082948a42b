/-
  The ground of this seat's walks.
-/
import Derived.Test.YtcogcbplmkcojaaGreatDoorKFg
import Derived.Test.YtcogcbplmkcojaaGreatDoorKFb
import Derived.Test.YtcogcbplmkcojaaGreatDoorProg
import Derived.Test.YtcogcbplmkcojaaGreatDoorChecked
import Derived.KernelRfl
namespace Go.Proofs.YtcogcbplmkcojaaGreatDoor
set_option maxRecDepth 100000
set_option linter.unusedVariables false
noncomputable def tab:bi:=O3 Tryz.prog
theorem iM:bl Tryz.prog tab:=NC _
noncomputable def va:bi:=KA Tryz.prog
theorem ζ:bl Tryz.prog va:=Kz _
theorem mixed:Tryz.prog.follows .mixedOrders=true:=Tryz.checked.mixed
end Go.Proofs.YtcogcbplmkcojaaGreatDoor
