/-
  The ground of the closed runs of this seat.
-/
import Derived.Test.YtnjmeadmkbkikaaGreatDoorFc
import Derived.Test.YtnjmeadmkbkikaaGreatDoorProg
import Derived.Test.YtnjmeadmkbkikaaGreatDoorChecked
import Derived.KernelRfl
namespace Go.Proofs.YtnjmeadmkbkikaaGreatDoor
set_option maxRecDepth 100000
set_option linter.unusedVariables false
noncomputable def tab : Tab := mkTab Tryz.prog
theorem tab_ok : TabOK Tryz.prog tab := mkTab_ok _
noncomputable def tabS : Tab := mkTabS Tryz.prog
theorem tabS_ok : TabOK Tryz.prog tabS := mkTabS_ok _
theorem mixed : Tryz.prog.follows .mixedOrders = true := Tryz.checked.mixed
noncomputable def eqs : TypeId → Bool := fun t => !Tryz.prog.stoodInHeld t && !Tryz.prog.eqGuardType Tryz.prog.depth t
theorem eqs_ok : ∀ t y, eqs t = true → tab t = some y → y.eqOK := by
  intro t y h ht
  simp only [eqs, Bool.and_eq_true, Bool.not_eq_true'] at h
  change mkTabF _ t = some y at ht
  unfold mkTabF at ht
  split at ht
  · cases ht; exact h
  · cases ht
def ext0 : FuncId → List AV → Option AV := fun _ _ => none
theorem ext0_ok : ∀ {f : FuncId} {args : List AV} {v : AV}, ext0 f args = some v → ∀ H, CallS Tryz.prog f args H (fun r H' => r = v ∧ H' = H) := by
  intro f args v h; cases h

end Go.Proofs.YtnjmeadmkbkikaaGreatDoor
