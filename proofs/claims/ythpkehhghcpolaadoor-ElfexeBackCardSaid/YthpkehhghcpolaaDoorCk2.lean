/-
  Texts, heads and tables of a file: the two programs' functions.
-/
import Derived.Test.YthpkehhghcpolaaDoorCk1
namespace Go.Proofs.YthpkehhghcpolaaDoor
open Go.IntWalk
set_option maxRecDepth 100000
set_option linter.unusedVariables false
set_option linter.unusedSimpArgs false

/-- Does a text stand there that a byte 0 ends? -/
def tx (bs : List UInt8) (a : Nat) : Prop := ∃ i, a ≤ i ∧ bs[i]? = some 0
noncomputable instance (bs : List UInt8) (a : Nat) : Decidable (tx bs a) := Classical.propDecidable _

end Go.Proofs.YthpkehhghcpolaaDoor
