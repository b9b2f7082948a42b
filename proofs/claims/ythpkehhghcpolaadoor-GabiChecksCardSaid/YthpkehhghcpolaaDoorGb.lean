/-
  The ground of the closed runs of this seat.
-/
import Derived.Test.YthpkehhghcpolaaDoorFe
import Derived.Test.YthpkehhghcpolaaDoorLay
import Derived.Test.YthpkehhghcpolaaDoorProg
import Derived.Test.YthpkehhghcpolaaDoorChecked
import Derived.KernelRfl
namespace Go.Proofs.YthpkehhghcpolaaDoor
set_option maxRecDepth 100000
set_option linter.unusedVariables false
noncomputable def tab : Tab := mkTab Tryd.prog
theorem tab_ok : TabOK Tryd.prog tab := mkTab_ok _
theorem mixed : Tryd.prog.follows .mixedOrders = true := Tryd.checked.mixed
noncomputable def eqs : TypeId → Bool := fun t => !Tryd.prog.stoodInHeld t && !Tryd.prog.eqGuardType Tryd.prog.depth t
theorem eqs_ok : ∀ t y, eqs t = true → tab t = some y → y.eqOK := by
  intro t y h ht
  simp only [eqs, Bool.and_eq_true, Bool.not_eq_true'] at h
  unfold tab mkTab at ht
  split at ht
  · cases ht; exact h
  · cases ht
def ext0 : FuncId → List AV → Option AV := fun _ _ => none
theorem ext0_ok : ∀ {f : FuncId} {args : List AV} {v : AV}, ext0 f args = some v → ∀ H, CallS Tryd.prog f args H (fun r H' => r = v ∧ H' = H) := by
  intro f args v h; cases h

/-- bytes.Buffer's writers. -/
def bfs : BufFs := ⟨5, 25, 26, 81⟩
noncomputable def bext : CallN := bufExt bfs
theorem bext_ok : CallOK Tryd.prog bext :=
  bufExt_ok ⟨_, Tryd.lays180, rfl, rfl⟩ ⟨_, Tryd.lays178, rfl, rfl⟩ ⟨_, Tryd.lays179, rfl, rfl⟩
end Go.Proofs.YthpkehhghcpolaaDoor
