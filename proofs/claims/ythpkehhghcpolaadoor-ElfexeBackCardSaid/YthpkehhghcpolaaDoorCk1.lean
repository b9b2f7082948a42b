/-
  Numbers, parts and texts of a file: the two programs' functions.
-/
import Derived.Test.YthpkehhghcpolaaDoorCk0
namespace Go.Proofs.YthpkehhghcpolaaDoor
open Go.IntWalk
set_option maxRecDepth 100000
set_option linter.unusedVariables false
set_option linter.unusedSimpArgs false

/-- The number of n bytes at a place; 0: it isn't there. -/
def gN (bs : List UInt8) (a n : Nat) : Nat := if a + n ≤ bs.length then le (part bs a n) else 0

/-- Is it 0 or a power of two? -/
def pw (n : Nat) : Prop := n = 0 ∨ ∃ j, j < 64 ∧ n = 2 ^ j

theorem pow64 {n : Nat} (h : n < 18446744073709551616) (h1 : 1 ≤ n) : (n &&& (n - 1)) = 0 ↔ ∃ j, j < 64 ∧ n = 2 ^ j := by
  rw [and_pred h1]
  constructor
  · rintro ⟨j, rfl⟩
    refine ⟨j, ?_, rfl⟩
    rcases Nat.lt_or_ge j 64 with h2 | h2
    · exact h2
    · have : 2 ^ 64 ≤ 2 ^ j := Nat.pow_le_pow_right (by omega) h2
      omega
  · rintro ⟨j, _, rfl⟩
    exact ⟨j, rfl⟩

end Go.Proofs.YthpkehhghcpolaaDoor
