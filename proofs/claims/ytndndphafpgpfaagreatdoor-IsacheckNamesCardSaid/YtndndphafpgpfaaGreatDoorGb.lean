/-
  The ground of the closed runs of this seat.
-/
import Derived.Test.YtndndphafpgpfaaGreatDoorQPack
import Derived.Test.YtndndphafpgpfaaGreatDoorProg
import Derived.Test.YtndndphafpgpfaaGreatDoorChecked
import Derived.KernelRfl
namespace Go.Proofs.YtndndphafpgpfaaGreatDoor
set_option maxRecDepth 100000
set_option linter.unusedVariables false
noncomputable def tab : Tab := mkTab Tryz.prog
theorem tab_ok : TabOK Tryz.prog tab := mkTab_ok _
theorem mixed : Tryz.prog.follows .mixedOrders = true := Tryz.checked.mixed
noncomputable def eqs : TypeId → Bool := fun t => !Tryz.prog.stoodInHeld t && !Tryz.prog.eqGuardType Tryz.prog.depth t
theorem eqs_ok : ∀ t y, eqs t = true → tab t = some y → y.eqOK := by
  intro t y h ht
  simp only [eqs, Bool.and_eq_true, Bool.not_eq_true'] at h
  unfold tab mkTab at ht
  split at ht
  · cases ht; exact h
  · cases ht
def ext0 : FuncId → List AV → Option AV := fun _ _ => none
theorem ext0_ok : ∀ {f : FuncId} {args : List AV} {v : AV}, ext0 f args = some v → ∀ H, CallS Tryz.prog f args H (fun r H' => r = v ∧ H' = H) := by
  intro f args v h; cases h

/-- One more function whose outcome is known. -/
def extK (e : FuncId → List AV → Option AV) (g : Nat) (x : T) : FuncId → List AV → Option AV := fun f args => match Nat.beq f g, args with | true, [] => some (.t x) | _, _ => e f args
theorem extK_ok {e : FuncId → List AV → Option AV} {g : Nat} {x : T} (he : ∀ {f : FuncId} {args : List AV} {v : AV}, e f args = some v → ∀ H, CallS Tryz.prog f args H (fun r H' => r = v ∧ H' = H)) (h : Runs Tryz.prog g [] (.t x)) :
    ∀ {f : FuncId} {args : List AV} {v : AV}, extK e g x f args = some v → ∀ H, CallS Tryz.prog f args H (fun r H' => r = v ∧ H' = H) := by
  intro f args v hh
  unfold extK at hh
  split at hh
  · rename_i hf
    cases hh
    obtain rfl := Nat.eq_of_beq_eq_true hf
    exact Runs.known h
  · exact he hh

end Go.Proofs.YtndndphafpgpfaaGreatDoor
