/-
  The ground of the closed runs of this seat.
-/
import Derived.Test.YthpkehhghcpolaaDoorFe
import Derived.Test.YthpkehhghcpolaaDoorLay
import Derived.Test.YthpkehhghcpolaaDoorProg
import Derived.Test.YthpkehhghcpolaaDoorChecked
import Derived.KernelRfl
namespace Go.Proofs.YthpkehhghcpolaaDoor
set_option maxRecDepth 100000
set_option linter.unusedVariables false
noncomputable def tab : Tab := mkTab Tryd.prog
theorem tab_ok : TabOK Tryd.prog tab := mkTab_ok _
noncomputable def tabS : Tab := mkTabS Tryd.prog
theorem tabS_ok : TabOK Tryd.prog tabS := mkTabS_ok _
theorem mixed : Tryd.prog.follows .mixedOrders = true := Tryd.checked.mixed
noncomputable def eqs : TypeId → Bool := fun t => !Tryd.prog.stoodInHeld t && !Tryd.prog.eqGuardType Tryd.prog.depth t
end Go.Proofs.YthpkehhghcpolaaDoor
