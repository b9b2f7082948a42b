/-
  The ground of the closed runs of this seat.
-/
import Derived.Test.YthpkehhghcpolaaDoorFe
import Derived.Test.YthpkehhghcpolaaDoorLay
import Derived.Test.YthpkehhghcpolaaDoorProg
import Derived.Test.YthpkehhghcpolaaDoorChecked
import Derived.KernelRfl
namespace Go.Proofs.YthpkehhghcpolaaDoor
set_option maxRecDepth 100000
set_option linter.unusedVariables false
noncomputable def tab : Tab := mkTab Tryd.prog
theorem tab_ok : TabOK Tryd.prog tab := mkTab_ok _
noncomputable def tabS : Tab := mkTabS Tryd.prog
theorem tabS_ok : TabOK Tryd.prog tabS := mkTabS_ok _
theorem mixed : Tryd.prog.follows .mixedOrders = true := Tryd.checked.mixed
noncomputable def eqs : TypeId → Bool := fun t => !Tryd.prog.stoodInHeld t && !Tryd.prog.eqGuardType Tryd.prog.depth t
theorem eqs_ok : ∀ t y, eqs t = true → tab t = some y → y.eqOK := by
  intro t y h ht
  simp only [eqs, Bool.and_eq_true, Bool.not_eq_true'] at h
  change mkTabF _ t = some y at ht
  unfold mkTabF at ht
  split at ht
  · cases ht; exact h
  · cases ht
/-- bytes.Buffer's writers. -/
def bfs : BufFs := ⟨5, 25, 26, 81⟩
noncomputable def bext : CallN := bufExt bfs
theorem bext_ok : CallOK Tryd.prog bext :=
  bufExt_ok ⟨_, Tryd.lays180, rfl, rfl⟩ ⟨_, Tryd.lays178, rfl, rfl⟩ ⟨_, Tryd.lays179, rfl, rfl⟩
end Go.Proofs.YthpkehhghcpolaaDoor
