/-
  Symbol tables of a file: the program's function.
-/
import Derived.Test.YthpkehhghcpolaaDoorCk7
namespace Go.Proofs.YthpkehhghcpolaaDoor
open Go.IntWalk
set_option maxRecDepth 100000
set_option linter.unusedVariables false
set_option linter.unusedSimpArgs false

/-- The byte of a symbol that tells its binding. -/
def sBy (b : List UInt8) (k : Nat) : Nat := (b.getD (24 * k + 4) 0).toNat

/-- Is a symbol right? -/
def syOK (bs : List UInt8) (i k : Nat) : Prop :=
  ¬ (0 < k ∧ k < hF bs i 44 4 ∧ sBy (sB bs i) k / 16 ≠ 0) ∧ ¬ (hF bs i 44 4 ≤ k ∧ sBy (sB bs i) k / 16 = 0) ∧ tx (sB bs (hF bs i 40 4)) (gN (sB bs i) (24 * k) 4)

/-- Is a symbol table right? -/
def syP (bs : List UInt8) (i : Nat) : Prop :=
  hF bs i 56 8 = 24 ∧ hF bs i 32 8 % 24 = 0 ∧ hF bs i 32 8 / 24 ≠ 0 ∧ hF bs i 40 4 < gN bs 60 2 ∧ hF bs i 44 4 ≤ hF bs i 32 8 / 24 ∧ ∀ k, k < hF bs i 32 8 / 24 → syOK bs i k
noncomputable instance (bs i) : Decidable (syP bs i) := Classical.propDecidable _

end Go.Proofs.YthpkehhghcpolaaDoor
