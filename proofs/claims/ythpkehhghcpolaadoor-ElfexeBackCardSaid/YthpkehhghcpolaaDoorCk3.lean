/-
  Heads and tables of a file: the two programs' functions.
-/
import Derived.Test.YthpkehhghcpolaaDoorCk2
namespace Go.Proofs.YthpkehhghcpolaaDoor
open Go.IntWalk
set_option maxRecDepth 100000
set_option linter.unusedVariables false
set_option linter.unusedSimpArgs false

def magic : List UInt8 := [127, 69, 76, 70, 2, 1, 1]

/-- Is the header right? -/
def hdP (bs : List UInt8) : Prop := (64 ≤ bs.length ∧ bs.take 7 = magic ∧ ¬ ∃ c ∈ (bs.drop 9).take 7, c ≠ 0) ∧ (1 ≤ gN bs 16 2 ∧ gN bs 16 2 ≤ 3) ∧ gN bs 20 4 = 1 ∧ gN bs 52 2 = 64
noncomputable instance (bs : List UInt8) : Decidable (hdP bs) := Classical.propDecidable _

end Go.Proofs.YthpkehhghcpolaaDoor
