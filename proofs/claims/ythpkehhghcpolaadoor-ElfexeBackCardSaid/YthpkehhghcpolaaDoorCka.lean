/-
  Relocation tables of a file: the two programs' functions.
-/
import Derived.Test.YthpkehhghcpolaaDoorCk9
namespace Go.Proofs.YthpkehhghcpolaaDoor
open Go.IntWalk
set_option maxRecDepth 100000
set_option linter.unusedVariables false
set_option linter.unusedSimpArgs false

/-- Is a relocation right? -/
def reOK (bs : List UInt8) (i k : Nat) : Prop :=
  gN (sB bs i) (24 * k) 8 ≤ hF bs (hF bs i 44 4) 32 8 ∧ gN (sB bs i) (24 * k + 12) 4 < hF bs (hF bs i 40 4) 32 8 / 24

/-- Is a relocation table right? -/
def reP (bs : List UInt8) (i : Nat) : Prop :=
  hF bs i 56 8 = 24 ∧ hF bs i 32 8 % 24 = 0 ∧ hF bs i 40 4 < gN bs 60 2 ∧ hF bs (hF bs i 40 4) 4 4 = 2 ∧ hF bs i 44 4 < gN bs 60 2 ∧ ∀ k, k < hF bs i 32 8 / 24 → reOK bs i k
noncomputable instance (bs i) : Decidable (reP bs i) := Classical.propDecidable _

end Go.Proofs.YthpkehhghcpolaaDoor
