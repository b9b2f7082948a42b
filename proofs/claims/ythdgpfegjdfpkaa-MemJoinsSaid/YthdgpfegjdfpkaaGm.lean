/-
  The ground of this seat; the chapter's example of memory, run by the kernel.
-/
import Derived.Test.YthdgpfegjdfpkaaFc
import Derived.Test.YthdgpfegjdfpkaaFb
import Derived.Test.YthdgpfegjdfpkaaFg
import Derived.Test.YthdgpfegjdfpkaaProg
import Derived.Test.YthdgpfegjdfpkaaChecked
import Derived.KernelRfl
namespace Go.Proofs.Ythdgpfegjdfpkaa
set_option maxRecDepth 100000
set_option linter.unusedVariables false
noncomputable def tab : Tab := mkTab Try.prog
theorem tab_ok : TabOK Try.prog tab := mkTab_ok _
noncomputable def tabS : Tab := mkTabS Try.prog
theorem tabS_ok : TabOK Try.prog tabS := mkTabS_ok _
theorem mixed : Try.prog.follows .mixedOrders = true := Try.checked.mixed
noncomputable def reg : RegP := regD Try.prog tab
theorem reg_ok : RegOK Try.prog tab reg := regD_ok tab_ok mixed
noncomputable def regS : RegP := regD Try.prog tabS
theorem regS_ok : RegOK Try.prog tabS regS := regD_ok tabS_ok mixed
theorem draw_introS {ops : Array Oper} {s : St} {K : St → Prop} (σ : Ord) (h : drawOK ops (masks ops) σ [] [] = true) (k : xdr tabS (CallS Try.prog) ops (fun _ => []) σ s K) : regS ops s K := ⟨_, σ, h, k⟩
noncomputable def eqs : TypeId → Bool := fun t => !Try.prog.stoodInHeld t && !Try.prog.eqGuardType Try.prog.depth t
theorem eqs_ok : ∀ t y, eqs t = true → tab t = some y → y.eqOK := by
  intro t y h ht
  simp only [eqs, Bool.and_eq_true, Bool.not_eq_true'] at h
  change mkTabF _ t = some y at ht
  unfold mkTabF at ht
  split at ht
  · cases ht; exact h
  · cases ht
def ext0 : FuncId → List AV → Option AV := fun _ _ => none
theorem ext0_ok : ∀ {f : FuncId} {args : List AV} {v : AV}, ext0 f args = some v → ∀ H, CallS Try.prog f args H (fun r H' => r = v ∧ H' = H) := by
  intro f args v h; cases h

theorem alive_runs : Runs Try.prog 5 [] (.t (.bool true)) :=
  Runs.of_ncall tab_ok mixed eqs_ok ext0_ok (k := 1000) (by kernel_rfl)

end Go.Proofs.Ythdgpfegjdfpkaa
