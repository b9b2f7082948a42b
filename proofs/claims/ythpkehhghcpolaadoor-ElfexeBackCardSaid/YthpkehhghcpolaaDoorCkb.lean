/-
  The sections of a file: the program's function.
-/
import Derived.Test.YthpkehhghcpolaaDoorCka
namespace Go.Proofs.YthpkehhghcpolaaDoor
open Go.IntWalk
set_option maxRecDepth 100000
set_option linter.unusedVariables false
set_option linter.unusedSimpArgs false

/-- Is a section right? -/
def seOK (bs : List UInt8) (i : Nat) : Prop :=
  pw (hF bs i 48 8) ∧ ¬ (hF bs i 4 4 ≠ 0 ∧ hF bs i 4 4 ≠ 8 ∧ ¬ hF bs i 24 8 + hF bs i 32 8 ≤ bs.length) ∧ tx (sB bs (gN bs 62 2)) (hF bs i 0 4) ∧ (hF bs i 4 4 = 2 → syP bs i) ∧ (hF bs i 4 4 = 4 → reP bs i)

/-- Are the sections right? -/
def seP (bs : List UInt8) : Prop := ∀ i, 1 ≤ i → i < gN bs 60 2 → seOK bs i
noncomputable instance (bs) : Decidable (seP bs) := Classical.propDecidable _

end Go.Proofs.YthpkehhghcpolaaDoor
